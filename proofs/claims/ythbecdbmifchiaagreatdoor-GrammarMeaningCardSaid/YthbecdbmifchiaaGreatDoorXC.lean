/-
  Texts of this claim, joined: what the statement's proof uses.
-/
import Derived.Test.YthbecdbmifchiaaGreatDoorXB
set_option linter.unusedSimpArgs false
set_option linter.unusedVariables false
set_option maxRecDepth 100000
open Array renaming getD_eq_getD_getElem? -> zO,getElem?_append -> vv,getElem?_eq_getElem -> qo,getElem?_eq_some_iff -> zl,getElem?_setIfInBounds -> xO,getElem_modify_self -> wH,replicate -> zD,size_modify -> wV
open Bool renaming and_eq_true -> zf,eq_iff_iff -> zY,false_eq_true -> xL,false_or -> qZ,not_eq_true' -> zL
open Go renaming FuncId -> zV,Operand -> zB,Program -> zw,ResultVar -> jw,TypeId -> zo,Value -> zd,World -> zh,wpIn_mono -> zT
open Go.Act renaming eval -> wx
open Go.ByteArray renaming toList_eq -> jf
open Go.Calls renaming mono -> fI
open Go.Deferred renaming ofValue -> vd
open Go.Exit renaming thenS -> uE
open Go.Fence renaming wide -> yD
open Go.Instr renaming makeInterface -> fe
open Go.Lib renaming byteCells -> fp,decDigits -> xK,indexByte -> qQ,parseUintM -> gY
open Go.Operand renaming tmp -> uL
open Go.Proofs.Tryz renaming call30 -> pS,f20 -> g7,f24 -> po,f35 -> gZ,func30 -> pP,prog -> zb,underlying187 -> kU,underlying62 -> km,underlying9 -> qP,zeroValue189 -> pn
open Go.Proofs.YthbecdbmifchiaaGreatDoor renaming CtrOk -> yT,Frame -> zN,SameOn -> uT,StepA -> vy
open Go.Proofs.YthbecdbmifchiaaGreatDoor.AL renaming all -> jz,fit -> jp,guardF -> qE,guardT -> xE,hand -> jS,nil -> yQ,own -> yZ,step -> kD
open Go.Proofs.YthbecdbmifchiaaGreatDoor.AWP renaming go -> za,loop -> xP,ret -> zp
open Go.Proofs.YthbecdbmifchiaaGreatDoor.AllN renaming cons -> vD,nil -> kg,of_mem -> pT
open Go.Proofs.YthbecdbmifchiaaGreatDoor.Frame renaming get -> zn
open Go.Proofs.YthbecdbmifchiaaGreatDoor.Kept renaming refl -> jx
open Go.Proofs.YthbecdbmifchiaaGreatDoor.OrdA renaming last -> ve
open Go.Proofs.YthbecdbmifchiaaGreatDoor.Ownr renaming marked -> xB
open Go.Proofs.YthbecdbmifchiaaGreatDoor.Owns renaming get -> zm
open Go.Proofs.YthbecdbmifchiaaGreatDoor.RepV renaming keep -> zZ,ofBool -> qR
open Go.Proofs.YthbecdbmifchiaaGreatDoor.Sim renaming act -> pZ
open Go.Proofs.YthbecdbmifchiaaGreatDoor.StepA renaming eval -> zX,hand -> jv
open Go.Proofs.YthbecdbmifchiaaGreatDoor.Tok renaming cls -> yJ,n -> jJ,text -> yB
open Go.Region renaming binds -> qy
open Go.Result renaming andThen_ok -> zG
open Go.RowKit renaming Below -> xG
open Go.RowKit.Below renaming heap_setCell -> qW,refl -> zR
open Go.Sem renaming run_bind -> zK
open Go.Value renaming func -> wy
open Go.World renaming alloc_heap_new -> qa,cell? -> qi,freeze -> vG,putObj_heap_other -> yA,putObj_heap_same -> qL,var? -> bg
open Int renaming toNat_natCast -> zH
open List renaming all_eq_true -> yE,any_eq_true -> kE,append_assoc -> zz,append_nil -> zW,drop -> gj,drop_eq_getElem_cons -> qf,drop_of_length_le -> gG,getD_eq_getElem?_getD -> zu,getElem?_cons_succ -> gt,getElem?_eq_getElem -> zI,getElem?_eq_some_iff -> yI,getElem?_map -> yP,length -> zi,length_append -> zg,length_cons -> zv,length_drop -> qC,length_erase_of_mem -> w8,length_nil -> yC,length_take -> yU,map_cons -> qH,mem_append -> zU,mem_cons -> zs,mem_cons_of_mem -> zE,mem_cons_self -> zC,mem_filterMap -> jI,mem_map -> jK,mem_map_of_mem -> jh,mem_singleton -> zt,nodup_cons -> kc,replicate -> zr,singleton_inj -> ww,takeWhile_cons -> kK,takeWhile_prefix -> kl,take_append_drop -> jC
open Nat renaming beq -> yK,ble -> qO,blt -> zM,eq_of_beq_eq_true -> qt,le_of_ble_eq_true -> zq,le_refl -> zj,le_trans -> zJ,lt_succ_self -> qp,not_lt_zero -> yH,zero_le -> zk
open Nat.succ renaming inj -> wb
open Option renaming bind_some -> uC,map_eq_some_iff -> zQ
open Option.some renaming inj -> zP
open UInt8 renaming le_iff_toNat_le -> qu,toNat_inj -> kb
open Go Go.RowKit
namespace Go.Proofs.YthbecdbmifchiaaGreatDoor
theorem zgM{t:Ty}{x y:t.T}(h:x=y):some (OObj.box t x)=some (OObj.box t y):=by rw[h]
theorem zaA:KnOk zb gmG gmK:=⟨zeK,zdm,CsOk.nil,λ_ _ _ _=>trivial,RsOk.nil⟩
theorem zxJ:zb.globalNamed "internal/strconv.uint64pow10"=some 3:=by kernel_rfl
def gmH(w:zh):Prop:=Lib.TabIs zb w "internal/strconv.uint64pow10" .u64 Lib.pow10Tab/\∃ev,w.cell? ⟨5,0,none⟩=some ev/\(ev=.nilIface\/∃te pe,ev=.iface te pe)
theorem zhE{w:zh}(h:gmH w):3<w.heap.size/\5<w.heap.size:=by
 obtain⟨ht,ev,hc,_⟩:=h;have hl:∀g:Nat,(∃o:Obj,w.heap[g]? =some o)->g<w.heap.size:=λg⟨o,ho⟩=>(zl.1 ho).1;refine⟨hl _ ?_,hl _ ?_⟩
 .unfold Lib.TabIs bg at ht;rw[zxJ]at ht;simp only[uC]at ht;cases ho:w.heap[3]? with
  |none=>rw[ho]at ht;cases ht
  |some o=>exact⟨o,rfl⟩
 .unfold qi at hc;cases ho:w.heap[5]? with
  |none=>simp[ho]at hc
  |some o=>exact⟨o,rfl⟩
theorem zfx{R:Nat->Prop}{w w':zh}(h1:¬R 3)(h2:¬R 5)(h:gmH w)(hk:Kept R w w'):gmH w':=by
 obtain⟨l1,l2⟩:=zhE h;obtain⟨ht,ev,hc,x0⟩:=h;refine⟨?_,ev,?_,x0⟩
 .unfold Lib.TabIs bg at *;rw[zxJ]at *;simp only[uC]at *;rw[hk.block _ l1 h1];exact ht
 .unfold qi at *;rw[hk.block _ l2 h2];exact hc
theorem zcb(w w':zh)(h:gmH w)(hb:xG w.heap.size w w'):gmH w':=zfx (R:=λ_=>False) (λh=>h) (λh=>h) h ⟨hb.os,hb.tape,hb.output,hb.size,λk hk _=>hb.block k hk⟩
theorem zaj:KnOk zb gmH gmK:=⟨zeK,zdm,CsOk.nil,zcb,RsOk.nil⟩
def ginv(_:zh)(R:Nat->Prop)(_:zo):Prop:=¬R 3/\¬R 5
theorem za0:∀w w' R(ty:zo),ginv w R ty->gmH w->Kept R w w'->gmH w':=λ_ _ _ _ h hg hk=>zfx h.1 h.2 hg hk
theorem zaL{w0:zh}{X:Ownr}{ty:zo}(hX:X.Ok w0)(hG:X.G=gmH)(hi:ginv w0 X.R ty){ty':zo}:∀w R,(∀g,R g->w0.heap.size<=g\/X.R g)->X.G w->ginv w R ty':=λw R hR _=>by
 have h0:gmH w0:=by have:=hX.2.2 w0 (jx _ _);rwa[hG]at this
 obtain⟨l1,l2⟩:=zhE h0;refine⟨λh=>?_,λh=>?_⟩
 .rcases hR _ h with h1|h1
  .omega
  .exact hi.1 h1
 .rcases hR _ h with h1|h1
  .omega
  .exact hi.2 h1
theorem CtrOk.lift{f:zV}{c:Ctr}(h:yT zb gmG f c):yT zb gmH f c:=⟨h.1,λw O xs vs hO hr hp _=>h.2 w O xs vs hO hr hp trivial⟩
theorem zcA(a b:Bool):(bif a then b else false)=(a&&b):=by cases a<;>rfl
theorem zi7(a b:Bool):(bif a then true else b)=(a||b):=by cases a<;>rfl
theorem u8eq(a b:UInt8):(((a.toNat:Nat):Int)==((b.toNat:Nat):Int))=(a==b):=by
 rw[zY,beq_iff_eq,beq_iff_eq, <-kb];omega
theorem u8le(a b:UInt8):decide (((a.toNat:Nat):Int)<=((b.toNat:Nat):Int))=decide (a<=b):=by
 rw[zY,decide_eq_true_iff,decide_eq_true_iff,qu];omega
def cLt:Ctr:={ args:=[u8],pre:=λ_=>[],res:=.bool,own:=none,out:=λx=>isLt x.1 }
theorem zsg:yT zb gmG 65 cLt:=by
 refine ctr2 zaA Tryz.func65 Tryz.call65 ?_;rintro w0 X hX ⟨c,_⟩ hp;(repeat(first|apply zaq|apply zah|apply zcQ|apply zaw|apply zay|refine zac hX zaA rfl t_ ?_|refine zac hX zaA rfl id ?_|refine zac hX zaA rfl ⟨id,id⟩ ?_));refine za (za (zaa zaA ?_));refine zp ⟨.inr rfl,D1 ?_⟩;simp only[zcA,u8le];rfl
def cDg:Ctr:={ args:=[u8],pre:=λ_=>[],res:=.bool,own:=none,out:=λx=>isDg x.1 }
theorem zsh:yT zb gmG 67 cDg:=by
 refine ctr2 zaA Tryz.func67 Tryz.call67 ?_;rintro w0 X hX ⟨c,_⟩ hp;(repeat refine za (za (zaa zaA ?_)));refine za ?_;refine zp ⟨.inr rfl,D1 ?_⟩;simp only[zcA,u8le];rfl
def cWh:Ctr:={ args:=[u8],pre:=λ_=>[],res:=.bool,own:=none,out:=λx=>isWh x.1 }
theorem zxy:yT zb gmG 31 cWh:=by
 refine ctr2 zaA Tryz.func31 Tryz.call31 ?_;rintro w0 X hX ⟨c,_⟩ hp;(repeat(first|apply zaq|apply zah|apply zcQ|apply zaw|apply zay|refine zac hX zaA rfl t_ ?_|refine zac hX zaA rfl id ?_|refine zac hX zaA rfl ⟨id,id⟩ ?_));refine za (za (zaa zaA ?_));refine zp ⟨.inr rfl,D1 ?_⟩;simp only[zi7,u8eq];rfl
def zAW:Kn:={ gmK with C:=[(65,cLt),(67,cDg)] }
theorem zgx:KnOk zb gmG zAW:=zaA.with (.cons zsg<|.cons zsh .nil)
def cPt:Ctr:={ args:=[u8],pre:=λ_=>[],res:=.bool,own:=none,out:=λx=>isPt x.1 }
theorem zxz:yT zb gmG 66 cPt:=by
 refine ctr2 zgx Tryz.func66 Tryz.call66 ?_;rintro w0 X hX ⟨c,_⟩ hp;(repeat(first|apply zaq|apply zah|apply zcQ|apply zaw|apply zay|refine zac hX zgx rfl t_ ?_|refine zac hX zgx rfl id ?_|refine zac hX zgx rfl ⟨id,id⟩ ?_));refine za (za (zaa zgx ?_));refine zp ⟨.inr rfl,D1 ?_⟩;simp only[zi7,u8eq];rfl
def zyj(p:UInt8->Bool):Ctr:={ args:=[u8],pre:=λ_=>[],res:=.bool,own:=none,out:=λx=>p x.1 }
def znO(f:zV)(p:UInt8->Bool):Ctr:={ args:=[.str,.lit],pre:=λx=>[x.2.1=.func (.func f) #[] #[]],res:=i64,own:=none,out:=λx=>((zbJ p x.1:Nat):Int) }
theorem zfr{p:UInt8->Bool}{s:List UInt8}{k:Nat}(hk:k<=s.length)(h1:∀j(hj:j<s.length),j<k->p s[j]=true)(h2:∀h:k<s.length,p s[k]=false):zbJ p s=k:=by
 unfold zbJ;have e:=(jC k s).symm;rw[e,List.takeWhile_append_of_pos]
 .have:(s.drop k).takeWhile p=[]:=by
   by_cases h:k<s.length
   .rw[qf h,kK,h2 h];rfl
   .rw[gG o_];rfl
  rw[this,zW,yU];omega
 .intro x hx;obtain⟨j,hj,rfl⟩:=List.mem_iff_getElem.1 hx;rw[yU]at hj;rw[List.getElem_take];exact h1 j o_ o_
def zAX:Kn:={ gmK with C:=[(31,zyj isWh)] }
theorem zd2:KnOk zb gmG zAX:=zaA.with (.cons zxy .nil)
theorem zlK:yT zb gmG 30 (znO 31 isWh):=by
 refine ctr2 zd2 pP pS ?_;rintro w0 X hX ⟨s,g,_⟩ hp;obtain rfl:g=.func (.func 31) #[] #[]:=hp;change AWP _ _ _ _ _ ⟨[(0,⟨.str,s⟩),(1,⟨.lit,.func (.func 31) #[] #[]⟩)],[],0⟩ _;refine zlt 0 rfl λhl=>?_;unfold maxLen at hl;(repeat refine za (za (zaa zd2 ?_)));refine za ?_;refine xP (ι:=Nat) (λk=>⟨[(0,⟨.str,s⟩),(1,⟨.lit,.func (.func 31) #[] #[]⟩),(5,⟨i64,(k:Int)⟩)],[],0⟩) (λk=>k<=s.length/\∀j(hj:j<s.length),j<k->isWh s[j]=true) (λk=>s.length-k) 0 ⟨by omega,λj _ h=>by omega⟩ ⟨⟨rfl,rfl,rfl,t_⟩,t_,rfl,rfl⟩ ?_;rintro k ⟨hk,x0⟩;refine za (za (zae ?_));refine za4 5 zd2 ?_;by_cases x1:k<s.length
 .refine jp (Y':=⟨[(0,⟨.str,s⟩),(1,⟨.lit,.func (.func 31) #[] #[]⟩),(5,⟨i64,(k:Int)⟩),(10,⟨.bool,true⟩)],[],0⟩) ⟨⟨rfl,rfl,rfl,zcH (decide_eq_true o_),t_⟩,t_,rfl,rfl⟩ ?_;have n0:(0:Int)<=(k:Int):=o_;have n1:(k:Int)<((s.length:Nat):Int):=o_;refine jz hX zd2 rfl ?_ ?_
  .exact⟨λ_=>⟨rfl,rfl,n0,n1⟩,λ_=>rfl,λ_=>rfl⟩
  refine zaf rfl (λhb=>?_) (λhb=>?_)
  .have hb:isWh (s.getD (k:Int).toNat 0)=true:=hb;rw[zaY x1]at hb;apply zah;refine za (za ?_);refine zac hX zd2 rfl ?_ ?_
   .exact zbb o_
   refine⟨k+1,⟨by omega,λj hj x2=>?_⟩,by omega,⟨rfl,rfl,zdU _,t_⟩,t_,rfl,rfl⟩;by_cases e:j=k
   .subst e;exact hb
   .exact x0 j hj o_
  .
   rw[zaY x1]at hb;(repeat refine za (za (zaa zd2 ?_)));refine za ?_;refine zp ⟨.inr rfl,D1 ?_⟩;show(k:Int)=((zbJ isWh s:Nat):Int);rw[zfr hk x0 λ_=>hb]
 .refine jp (Y':=⟨[(0,⟨.str,s⟩),(1,⟨.lit,.func (.func 31) #[] #[]⟩),(5,⟨i64,(k:Int)⟩),(10,⟨.bool,false⟩)],[],0⟩) ⟨⟨rfl,rfl,rfl,zcH (decide_eq_false o_),t_⟩,t_,rfl,rfl⟩ ?_
  iterate 5 (refine qE 4 10 true .bool false rfl rfl rfl rfl rfl rfl ?_)
  refine jz hX zd2 rfl id ?_;refine zdc rfl ?_;(repeat refine za (za (zaa zd2 ?_)));refine za ?_;refine zp ⟨.inr rfl,D1 ?_⟩;show(k:Int)=((zbJ isWh s:Nat):Int);rw[zfr hk x0 λh=>absurd h x1]
def zAZ:Kn:={ gmK with C:=[(67,zyj isDg)] }
theorem zd4:KnOk zb gmG zAZ:=zaA.with (.cons zsh .nil)
theorem zqH:yT zb gmG 30 (znO 67 isDg):=by
 refine ctr2 zd4 pP pS ?_;rintro w0 X hX ⟨s,g,_⟩ hp;obtain rfl:g=.func (.func 67) #[] #[]:=hp;change AWP _ _ _ _ _ ⟨[(0,⟨.str,s⟩),(1,⟨.lit,.func (.func 67) #[] #[]⟩)],[],0⟩ _;refine zlt 0 rfl λhl=>?_;unfold maxLen at hl;(repeat refine za (za (zaa zd4 ?_)));refine za ?_;refine xP (ι:=Nat) (λk=>⟨[(0,⟨.str,s⟩),(1,⟨.lit,.func (.func 67) #[] #[]⟩),(5,⟨i64,(k:Int)⟩)],[],0⟩) (λk=>k<=s.length/\∀j(hj:j<s.length),j<k->isDg s[j]=true) (λk=>s.length-k) 0 ⟨by omega,λj _ h=>by omega⟩ ⟨⟨rfl,rfl,rfl,t_⟩,t_,rfl,rfl⟩ ?_;rintro k ⟨hk,x0⟩;refine za (za (zae ?_));refine za4 5 zd4 ?_;by_cases x1:k<s.length
 .refine jp (Y':=⟨[(0,⟨.str,s⟩),(1,⟨.lit,.func (.func 67) #[] #[]⟩),(5,⟨i64,(k:Int)⟩),(10,⟨.bool,true⟩)],[],0⟩) ⟨⟨rfl,rfl,rfl,zcH (decide_eq_true o_),t_⟩,t_,rfl,rfl⟩ ?_;have n0:(0:Int)<=(k:Int):=o_;have n1:(k:Int)<((s.length:Nat):Int):=o_;refine jz hX zd4 rfl ?_ ?_
  .exact⟨λ_=>⟨rfl,rfl,n0,n1⟩,λ_=>rfl,λ_=>rfl⟩
  refine zaf rfl (λhb=>?_) (λhb=>?_)
  .have hb:isDg (s.getD (k:Int).toNat 0)=true:=hb;rw[zaY x1]at hb;apply zah;refine za (za ?_);refine zac hX zd4 rfl ?_ ?_
   .exact zbb o_
   refine⟨k+1,⟨by omega,λj hj x2=>?_⟩,by omega,⟨rfl,rfl,zdU _,t_⟩,t_,rfl,rfl⟩;by_cases e:j=k
   .subst e;exact hb
   .exact x0 j hj o_
  .
   rw[zaY x1]at hb;(repeat refine za (za (zaa zd4 ?_)));refine za ?_;refine zp ⟨.inr rfl,D1 ?_⟩;show(k:Int)=((zbJ isDg s:Nat):Int);rw[zfr hk x0 λ_=>hb]
 .refine jp (Y':=⟨[(0,⟨.str,s⟩),(1,⟨.lit,.func (.func 67) #[] #[]⟩),(5,⟨i64,(k:Int)⟩),(10,⟨.bool,false⟩)],[],0⟩) ⟨⟨rfl,rfl,rfl,zcH (decide_eq_false o_),t_⟩,t_,rfl,rfl⟩ ?_
  iterate 5 (refine qE 4 10 true .bool false rfl rfl rfl rfl rfl rfl ?_)
  refine jz hX zd4 rfl id ?_;refine zdc rfl ?_;(repeat refine za (za (zaa zd4 ?_)));refine za ?_;refine zp ⟨.inr rfl,D1 ?_⟩;show(k:Int)=((zbJ isDg s:Nat):Int);rw[zfr hk x0 λh=>absurd h x1]
def zAY:Kn:={ gmK with C:=[(66,zyj isPt)] }
theorem zd3:KnOk zb gmG zAY:=zaA.with (.cons zxz .nil)
theorem zqG:yT zb gmG 30 (znO 66 isPt):=by
 refine ctr2 zd3 pP pS ?_;rintro w0 X hX ⟨s,g,_⟩ hp;obtain rfl:g=.func (.func 66) #[] #[]:=hp;change AWP _ _ _ _ _ ⟨[(0,⟨.str,s⟩),(1,⟨.lit,.func (.func 66) #[] #[]⟩)],[],0⟩ _;refine zlt 0 rfl λhl=>?_;unfold maxLen at hl;(repeat refine za (za (zaa zd3 ?_)));refine za ?_;refine xP (ι:=Nat) (λk=>⟨[(0,⟨.str,s⟩),(1,⟨.lit,.func (.func 66) #[] #[]⟩),(5,⟨i64,(k:Int)⟩)],[],0⟩) (λk=>k<=s.length/\∀j(hj:j<s.length),j<k->isPt s[j]=true) (λk=>s.length-k) 0 ⟨by omega,λj _ h=>by omega⟩ ⟨⟨rfl,rfl,rfl,t_⟩,t_,rfl,rfl⟩ ?_;rintro k ⟨hk,x0⟩;refine za (za (zae ?_));refine za4 5 zd3 ?_;by_cases x1:k<s.length
 .refine jp (Y':=⟨[(0,⟨.str,s⟩),(1,⟨.lit,.func (.func 66) #[] #[]⟩),(5,⟨i64,(k:Int)⟩),(10,⟨.bool,true⟩)],[],0⟩) ⟨⟨rfl,rfl,rfl,zcH (decide_eq_true o_),t_⟩,t_,rfl,rfl⟩ ?_;have n0:(0:Int)<=(k:Int):=o_;have n1:(k:Int)<((s.length:Nat):Int):=o_;refine jz hX zd3 rfl ?_ ?_
  .exact⟨λ_=>⟨rfl,rfl,n0,n1⟩,λ_=>rfl,λ_=>rfl⟩
  refine zaf rfl (λhb=>?_) (λhb=>?_)
  .have hb:isPt (s.getD (k:Int).toNat 0)=true:=hb;rw[zaY x1]at hb;apply zah;refine za (za ?_);refine zac hX zd3 rfl ?_ ?_
   .exact zbb o_
   refine⟨k+1,⟨by omega,λj hj x2=>?_⟩,by omega,⟨rfl,rfl,zdU _,t_⟩,t_,rfl,rfl⟩;by_cases e:j=k
   .subst e;exact hb
   .exact x0 j hj o_
  .
   rw[zaY x1]at hb;(repeat refine za (za (zaa zd3 ?_)));refine za ?_;refine zp ⟨.inr rfl,D1 ?_⟩;show(k:Int)=((zbJ isPt s:Nat):Int);rw[zfr hk x0 λ_=>hb]
 .refine jp (Y':=⟨[(0,⟨.str,s⟩),(1,⟨.lit,.func (.func 66) #[] #[]⟩),(5,⟨i64,(k:Int)⟩),(10,⟨.bool,false⟩)],[],0⟩) ⟨⟨rfl,rfl,rfl,zcH (decide_eq_false o_),t_⟩,t_,rfl,rfl⟩ ?_
  iterate 5 (refine qE 4 10 true .bool false rfl rfl rfl rfl rfl rfl ?_)
  refine jz hX zd3 rfl id ?_;refine zdc rfl ?_;(repeat refine za (za (zaa zd3 ?_)));refine za ?_;refine zp ⟨.inr rfl,D1 ?_⟩;show(k:Int)=((zbJ isPt s:Nat):Int);rw[zfr hk x0 λh=>absurd h x1]
theorem zhn(c:UInt8)(r:List UInt8):zau (c::r)=if isLt c=true then zbJ isPt (c::r) else 0:=rfl
def zli:Ctr:={ args:=[.str],pre:=λ_=>[],res:=i64,own:=none,out:=λx=>((zau x.1:Nat):Int) }
def kWl:Kn:={ gmK with C:=[(65,cLt),(30,znO 66 isPt)] }
theorem zfQ:KnOk zb gmG kWl:=zaA.with (.cons zsg<|.cons zqG .nil)
theorem zjG:yT zb gmG 34 zli:=by
 refine zj9 (K:=kWl) zfQ Tryz.func34 rfl rfl Tryz.call34 rfl d_ (by intro h;cases h) ?_;rintro w0 X hX ⟨(s:List UInt8),_⟩ hp;change AWP _ _ _ _ _ ⟨[(0,⟨.str,s⟩)],[],0⟩ _;(repeat(first|apply zaq|apply zah|apply zcQ|apply zaw|apply zay|refine zac hX zfQ rfl t_ ?_|refine zac hX zfQ rfl id ?_|refine zac hX zfQ rfl ⟨id,id⟩ ?_));(repeat(first|apply zaq|apply zah|apply zay|apply zaw));refine zae ?_;refine za4 3 zfQ ?_;cases s with
 |nil=>
  refine jp (Y':=⟨[(0,⟨.str,([]:List UInt8)⟩),(5,⟨.bool,true⟩)],[],0⟩) ⟨⟨rfl,zcH (zbs.2 rfl),t_⟩,t_,rfl,rfl⟩ ?_
  iterate 4 (refine qE 2 5 false .bool false rfl rfl rfl rfl rfl rfl ?_)
  refine jz hX zfQ rfl id ?_;refine zaf rfl (λ_=>?_) (λhb=>absurd (show true=false from hb) d_);(repeat refine za (za (zaa zfQ ?_)));refine za ?_;exact zp ⟨.inr rfl,D1 rfl⟩
 |cons c r=>
  refine jp (Y':=⟨[(0,⟨.str,(c::r:List UInt8)⟩),(5,⟨.bool,false⟩)],[],0⟩) ⟨⟨rfl,zcH (Bool.eq_false_iff.2 λh=>by cases zbs.1 h),t_⟩,t_,rfl,rfl⟩ ?_;have n1:(0:Int)<(((c::r).length:Nat):Int):=by rw[zv];omega
  refine jz hX zfQ rfl ⟨λ_=>⟨rfl,Int.le_refl 0,n1⟩,λ_=>rfl,λ_=>rfl,λ_=>rfl⟩ ?_;refine zaf rfl (λhb=>?_) (λhb=>?_)
  .have hb:(!isLt c)=true:=hb;(repeat refine za (za (zaa zfQ ?_)));refine za ?_;refine zp ⟨.inr rfl,D1 ?_⟩;show(0:Int)=((zau (c::r):Nat):Int);rw[zhn,if_neg (by simpa using hb)];rfl
  .have hb:(!isLt c)=false:=hb;apply zah;refine za (za (zaa zfQ ?_));refine zp ⟨.inr rfl,D1 ?_⟩;show((zbJ isPt (c::r):Nat):Int)=((zau (c::r):Nat):Int);rw[zhn,if_pos (by simpa using hb)]
def numA(acc:Nat)(l:List UInt8):Nat:=l.foldl (λn c=>10*n+(c.toNat-48)) acc
theorem zrt:∀(l:List UInt8)(acc:Nat),acc<=numA acc l
 | [],_=>zj _
 |c::r,acc=>by
  have:=zrt r (10*acc+(c.toNat-48));show acc<=numA (10*acc+(c.toNat-48)) r;omega
theorem zoK(c:UInt8):isDg c=true↔48<=c.toNat/\c.toNat<=57:=by
 unfold isDg;rw[zf,decide_eq_true_iff,decide_eq_true_iff,qu,qu];exact Iff.rfl
theorem zjX:∀(l:List UInt8)(acc:Nat),(∀c∈l,isDg c=true)->acc<18446744073709551616->(gY (2^64-1) acc l=.ok (numA acc l)/\numA acc l<18446744073709551616)\/(gY (2^64-1) acc l=.range/\18446744073709551616<=numA acc l)
 | [],acc,_,ha=>.inl ⟨rfl,ha⟩
 |c::r,acc,h,ha=>by
  obtain⟨h1,h2⟩:=(zoK c).1 (h c (zC ..));have x0:=zrt r (10*acc+(c.toNat-48));have e:numA acc (c::r)=numA (10*acc+(c.toNat-48)) r:=rfl;rw[gY,if_pos ⟨h1,h2⟩,e];by_cases h3:1844674407370955162<=acc
  .rw[if_pos h3];exact .inr ⟨rfl,by omega⟩
  .rw[if_neg h3];have e2:acc*10+(c.toNat-48)=10*acc+(c.toNat-48):=o_;rw[e2];by_cases h4:2^64-1<10*acc+(c.toNat-48)
   .rw[if_pos h4];exact .inr ⟨rfl,by omega⟩
   .rw[if_neg h4];exact zjX r _ (λx hx=>h x (zE _ hx)) o_
theorem zpK{l:List UInt8}(hl:l≠ [])(h:∀c∈l,isDg c=true):(Lib.parseIntB 64 l=.ok ((numv l:Nat):Int))\/(Lib.parseIntB 64 l=.range/\zdK<=numv l):=by
 cases l with
 |nil=>exact absurd rfl hl
 |cons c r=>
  obtain⟨h1,h2⟩:=(zoK c).1 (h c (zC ..));rw[Lib.parseIntB_plain 64 c r o_ o_];unfold Lib.parseUintB;rw[if_neg (by simp)];have e:numv (c::r)=numA 0 (c::r):=rfl;rw[e];unfold zdK;rcases zjX (c::r) 0 h o_ with ⟨h3,h4⟩|⟨h3,h4⟩
  .rw[h3];unfold Lib.signlessC;by_cases h5:2^(64-1)<=numA 0 (c::r)
   .exact .inr ⟨if_pos h5,by omega⟩
   .exact .inl (if_neg h5)
  .rw[h3];exact .inr ⟨rfl,by omega⟩
def ztl(s:List UInt8)(v:Int)(ev:zd):Prop:=(ev=.nilIface/\v=((numv s:Nat):Int))\/((∃t p,ev=.iface t p)/\zdK<=numv s)
theorem zkF{s:List UInt8}(hs:s≠ [])(hd:∀c∈s,isDg c=true)(hl:s.length<=100000)(w:zh)(hG:gmH w):
  Calls zb 123 #[.string ⟨s.toArray⟩,.int .i64 10,.int .i64 64] w λe w'=>∃v ev,e=.returned (.tuple #[.int .i64 v,ev])/\xG w.heap.size w w'/\ztl s v ev:=by
 rcases zpK hs hd with h1|⟨h1,h2⟩
 .refine fI (Any.strconv_ParseInt_10_at64_ok Tryz.laysC174 ⟨s.toArray⟩ (by show s.length<=9223372036854775806;omega) _ h1 w) ?_;rintro e w' ⟨rfl,hw⟩;refine⟨_,_,rfl,?_,.inl ⟨rfl,rfl⟩⟩;rcases hw with rfl|⟨t,rfl⟩
  .exact zR _ _
  .exact Lib.bytesWorld_below _ _ _
 .obtain⟨ev,hv,x0⟩:=hG.2;refine fI (Any.strconv_ParseInt_10_at64_range Tryz.laysC174 ⟨s.toArray⟩ (by show s.length<=281474976710656;omega) h1 ev w hv x0) ?_;rintro e w' ⟨N,rfl,_,_,hb⟩;exact⟨_,_,rfl,hb,.inr ⟨⟨_,_,rfl⟩,h2⟩⟩
theorem zgs{α:Type}{p:α->Bool}{c:α}:∀{l:List α},c∈l.takeWhile p->p c=true
 |x::l,h=>by
  rw[kK]at h;split at h
  .rename_i hx;rcases zs.1 h with rfl|h
   .exact hx
   .exact zgs h
  .cases h
theorem errT:zb.underlying 90=some (.interface (zb.methodsAt 90)):=by kernel_rfl
def zmj:zd->Bool
 |.nilIface=>true
 |_=>false
theorem zzK{a:Act}{w:zh}{x:zB}{d:Nat}{ty:zo}{pos:String}{af:Array Edge}{ev:zd}(hx:a.eval x=ev)(he:ev=.nilIface\/∃t p,ev=.iface t p):
  (execOp a.eval { dst:=some d,op:=Op.binOp .eql 90 x (.const .nilIface) 90,type:=ty,pos:=pos,after:=af,guard:=none }).run zb w=.ok (.value (.bool (zmj ev))) w:=by
 have hn:a.eval (.const .nilIface)=.nilIface:=rfl;unfold execOp;rcases he with rfl|⟨t,p,rfl⟩
 .simp[hx,hn,eqGuard,run_eql_nil_nil _ _ errT,zmj]
 .simp[hx,hn,eqGuard,run_eql_held_nil _ _ _ _ errT,zmj]
theorem zxD:(1125899906842624:Int)=((zdK:Nat):Int):=d_
theorem zpJ(M:Int)(hM:M=((zdK:Nat):Int)){s:List UInt8}{v:Int}{ev:zd}{b:Bool}(x0:ztl s v ev)(hb:b=zmj ev):(bif b then decide (v<M) else false)=true↔(b=true/\v=((numv s:Nat):Int)/\numv s<zdK):=by
 rcases x0 with ⟨rfl,rfl⟩|⟨⟨t,p,rfl⟩,hn⟩
 .rw[hb];show decide (((numv s:Nat):Int)<M)=true↔_;rw[decide_eq_true_iff];exact⟨λh=>⟨rfl,rfl,by omega⟩,λh=>by omega⟩
 .rw[hb];exact⟨λh=>(by cases h),λh=>(by cases h.1)⟩
abbrev zTk:TokT:=(0,0,0,[],0,())
def zfN(s:List UInt8):TokT×Bool×Unit:=match zc6 s with
 |some (k,n,t,x)=>((k,0,(n:Nat),t,x,()),true,())
 |none=>(zTk,false,())
def zo6:Ctr:={ args:=[.str],pre:=λx=>[x.1≠ [],zi x.1<=100000],res:=.tup tk (.tup .bool .unit),own:=none,out:=λx=>zfN x.1 }
def kNu:Kn:={ gmK with C:=[(30,znO 67 isDg)] }
theorem zcm:KnOk zb gmH kNu:=zaj.with (.cons zqH.lift .nil)
theorem zpP:yT zb gmH 101 zo6:=by
 refine ctr2 zcm Tryz.func101 Tryz.call101 ?_;rintro w0 X hX ⟨(s:List UInt8),_⟩ hp;obtain⟨xg,hlen⟩:s≠ []/\s.length<=100000:=hp;change AWP _ _ _ _ _ ⟨[(0,⟨.str,s⟩)],[],0⟩ _;have xh:0<s.length:=List.length_pos_iff.2 xg;(repeat(first|apply zaq|apply zah|apply zcQ|apply zaw|apply zay|refine zac hX zcm rfl t_ ?_|refine zac hX zcm rfl id ?_|refine zac hX zcm rfl ⟨id,id⟩ ?_));refine za (za (zaa zcm ?_));have xt:zaR s<=1/\zaR s<=s.length:=by
  unfold zaR;split<;>omega
 obtain⟨c,r,rfl⟩:∃c r,s=c::r:=by
  cases s with
  |nil=>exact absurd rfl xg
  |cons c r=>exact⟨c,r,rfl⟩
 refine zbi (Y':=⟨[(0,⟨.str,(c::r:List UInt8)⟩),(2,⟨.optr tk,⟨0,tk,.here⟩⟩),(3,⟨.bool,false⟩),(4,⟨i64,((zaR (c::r):Nat):Int)⟩)],[(0,some (.box tk zTk))],1⟩) ?_ ?_
 .refine zaf rfl (λhb=>?_) (λhb=>?_)
  .have hb:(((c.toNat:Nat):Int)==(((45:UInt8).toNat:Nat):Int))=true:=hb;rw[u8eq,beq_iff_eq]at hb;subst hb;refine za (za (zaa zcm ?_));exact⟨⟨rfl,rfl,rfl,rfl,t_⟩,⟨rfl,t_⟩,rfl,rfl⟩
  .have hb:(((c.toNat:Nat):Int)==(((45:UInt8).toNat:Nat):Int))=false:=hb;rw[u8eq]at hb;have xm:zaR (c::r)=0:=by
    unfold zaR;rw[if_neg];intro h;rw[zP h]at hb;cases hb
   apply zah;exact⟨⟨rfl,rfl,rfl,vI64 (by rw[xm];rfl),t_⟩,⟨rfl,t_⟩,rfl,rfl⟩
 generalize hs:(c::r:List UInt8)=s at *;have p0:(0:Int)<=((zaR s:Nat):Int):=o_;have p1:((zaR s:Nat):Int)<=((s.length:Nat):Int):=o_;refine za (za (zaa zcm ?_));have xq:(zaP s).length<=s.length-zaR s:=by
  have:(zaP s).length<=(s.drop (zaR s)).length:=(kl _).length_le;rwa[qC]at this
 have xn:((zbJ isDg (gj (((zaR s:Nat):Int)).toNat s):Nat):Int)=(((zaP s).length:Nat):Int):=by
  rw[zH];rfl
 refine zak (Y':=⟨[(0,⟨.str,s⟩),(2,⟨.optr tk,⟨0,tk,.here⟩⟩),(3,⟨.bool,false⟩),(4,⟨i64,((zaR s:Nat):Int)⟩),(5,⟨i64,(((zaP s).length:Nat):Int)⟩)],[(0,some (.box tk zTk))],1⟩) ⟨⟨rfl,rfl,rfl,rfl,vI64 xn,t_⟩,⟨rfl,t_⟩,rfl,rfl⟩ ?_;refine za (za (zaa zcm ?_));refine zaf rfl (λhb=>?_) (λhb=>?_)
 .have hb:decide ((((zaP s).length:Nat):Int)=0)=true:=hb;have hb:=of_decide_eq_true hb;(repeat refine za (za (zaa zcm ?_)));refine za ?_;refine zp ⟨.inr rfl,D2 ?_⟩;show(zTk,(false,()))=zfN s;unfold zfN zc6;rw[if_pos o_]
 have hb:decide ((((zaP s).length:Nat):Int)=0)=false:=hb;have xd:(zaP s).length≠0:=λh=>of_decide_eq_false hb o_;apply zah;have q0:inR .i64 (((zaR s:Nat):Int)+(((zaP s).length:Nat):Int)):=zad o_ o_;have q1:(0:Int)<=((zaR s:Nat):Int)+(((zaP s).length:Nat):Int):=o_;have q2:((zaR s:Nat):Int)+(((zaP s).length:Nat):Int)<=((s.length:Nat):Int):=o_;have q3:((zaR s:Nat):Int)<((s.length:Nat):Int):=o_;refine za (za (zaa zcm ?_));have hm:((zaR s:Nat):Int)+(((zaP s).length:Nat):Int)=((zaR s+(zaP s).length:Nat):Int):=o_;refine zak (Y':=⟨[(0,⟨.str,s⟩),(2,⟨.optr tk,⟨0,tk,.here⟩⟩),(3,⟨.bool,false⟩),(4,⟨i64,((zaR s:Nat):Int)⟩),(5,⟨i64,(((zaP s).length:Nat):Int)⟩),(6,⟨.optr tk,⟨1,tk,.here⟩⟩)],[(0,some (.box tk zTk)),(1,some (.box tk (3,0,((zaR s+(zaP s).length:Nat):Int),s.take (zaR s+(zaP s).length),1125899906842624,())))],2⟩) ⟨⟨rfl,rfl,rfl,rfl,rfl,rfl,t_⟩,⟨rfl,zgM ?_,t_⟩,rfl,rfl⟩ ?_
 .show((3:Int),(0:Int),((zaR s:Nat):Int)+(((zaP s).length:Nat):Int),List.take (((zaR s:Nat):Int)+(((zaP s).length:Nat):Int)).toNat s,(1125899906842624:Int),())=_;rw[hm,zH]
 have x7:zaP s=(s.drop (zaR s)).takeWhile isDg:=rfl;have xo:(zaP s).head? =some (s.getD (zaR s) 0):=by
  rw[x7];have x8:(s.drop (zaR s)).takeWhile isDg≠ []:=λh=>xd (by rw[x7,h];rfl);rw[List.head?_eq_some_head x8,List.head_takeWhile]
  congr 1
  rw[List.head_drop,zu,zI o_];rfl
 refine za (za (zaa zcm ?_));have x2:(bif ((((s.getD (((zaR s:Nat):Int)).toNat 0).toNat:Nat):Int)==(((48:UInt8).toNat:Nat):Int)) then decide (((zaR s:Nat):Int)+(((zaP s).length:Nat):Int)>1) else false)=decide ((zaP s).head? =some 48/\1<zaR s+(zaP s).length):=by
  rw[u8eq,zcA,zH,xo,zY,zf,beq_iff_eq,decide_eq_true_iff,decide_eq_true_iff,Option.some_inj];constructor
  .rintro ⟨h1,h2⟩;exact⟨h1,by omega⟩
  .rintro ⟨h1,h2⟩;exact⟨h1,by omega⟩
 have xc:zc6 s=if(zaP s).head? =some 48/\1<zaR s+(zaP s).length then some (5,zaR s+(zaP s).length,s.take (zaR s+(zaP s).length),(zdK:Int)) else some (3,zaR s+(zaP s).length,s.take (zaR s+(zaP s).length),valN s):=by
  rw[zc6,if_neg xd]
 refine zaf rfl (λhb=>?_) (λhb=>?_)
 .have hb:=x2.symm.trans hb;have hb:=of_decide_eq_true hb;(repeat refine za (za (zaa zcm ?_)));refine za ?_;refine zp ⟨.inr rfl,D2 ?_⟩;show(((5:Int),(0:Int),((zaR s+(zaP s).length:Nat):Int),s.take (zaR s+(zaP s).length),(1125899906842624:Int),()),(true,()))=zfN s;unfold zfN;rw[xc,if_pos hb];rfl
 have hb:=x2.symm.trans hb;have hb:=of_decide_eq_false hb;rw[if_neg hb]at xc;apply zah;have x5:((s.take ((((zaR s:Nat):Int)+(((zaP s).length:Nat):Int))).toNat).drop (((zaR s:Nat):Int)).toNat)=zaP s:=by
  rw[hm,zH,zH,List.drop_take,Nat.add_sub_cancel_left,x7];exact List.prefix_iff_eq_take.1 (kl isDg) |>.symm
 have xb:∀c∈zaP s,isDg c=true:=λc hc=>by
  rw[x7]at hc;exact zgs hc
 have xf:zaP s≠ []:=λh=>xd (by rw[h];rfl);refine za (za (zae ?_));refine AL.take 6 hX zcm rfl ⟨q0,p0,(by omega:((zaR s:Nat):Int)<=((zaR s:Nat):Int)+(((zaP s).length:Nat):Int)),q2⟩ ?_;refine jS rfl (λc e=>by cases e) λU a w x4=>?_;have xj:a.eval (.tmp 46)=.string ⟨(zaP s).toArray⟩:=by
  have:=(RepV.str (x4.ops (.tmp 46))).1;rwa[x5]at this
 refine zen (f:=123) rfl Tryz.call123 ?_;show Calls _ _ ((#[uL 46,.const (.int .i64 10),.const (.int .i64 64)].toList.map a.eval).toArray) _ _;rw[show((#[uL 46,.const (.int .i64 10),.const (.int .i64 64)].toList.map a.eval).toArray:Array zd)= #[.string ⟨(zaP s).toArray⟩,.int .i64 10,.int .i64 64] by show #[a.eval (.tmp 46),_,_]=_;rw[xj];rfl];refine(zkF xf xb o_ w (hX.2.2 w x4.bel)).mono ?_;rintro e xr ⟨v,ev,rfl,xi,x3⟩;refine⟨_,rfl,⟨(47,⟨.lit,.tuple #[.int .i64 v,ev]⟩)::_,_,_⟩,U,x4.put xi (v:=⟨.lit,.tuple #[.int .i64 v,ev]⟩) rfl (zk _) (by show 47<65;omega),?_⟩;refine za4 1 zcm ?_;refine jS rfl (λc e=>by cases e) λU a w' x1=>?_;have x9:a.eval (.tmp 40)=.tuple #[.int .i64 v,ev]:=x1.ops (.tmp 40);refine za5 (u:=.int .i64 v) (w':=w') ?_ ⟨⟨(48,⟨i64,v⟩)::_,_,_⟩,U,x1.put (zR _ _) (v:=⟨i64,v⟩) (RepV.ofInt (k:=.i64)) (zk _) (by show 48<65;omega),?_⟩
 .show(execOp a.eval { dst:=some 48,op:=Op.extract (.tmp 40) 0,type:=_,pos:=_,after:=_,guard:=none }).run _ _=_;unfold execOp;simp[x9,Instr.extract]
 refine jS rfl (λc e=>by cases e) λU a w' x1=>?_;have x9:a.eval (.tmp 40)=.tuple #[.int .i64 v,ev]:=x1.ops (.tmp 40);refine za5 (u:=ev) (w':=w') ?_ ⟨⟨(49,⟨.lit,ev⟩)::_,_,_⟩,U,x1.put (zR _ _) (v:=⟨.lit,ev⟩) rfl (zk _) (by show 49<65;omega),?_⟩
 .show(execOp a.eval { dst:=some 49,op:=Op.extract (.tmp 40) 1,type:=_,pos:=_,after:=_,guard:=none }).run _ _=_;unfold execOp;simp[x9,Instr.extract]
 refine zaI zcm ?_;refine zak (Y':=⟨[(0,⟨.str,s⟩),(2,⟨.optr tk,⟨0,tk,.here⟩⟩),(4,⟨i64,((zaR s:Nat):Int)⟩),(6,⟨.optr tk,⟨1,tk,.here⟩⟩),(7,⟨i64,v⟩),(8,⟨.lit,ev⟩)],[(0,some (.box tk zTk)),(1,some (.box tk (3,0,((zaR s+(zaP s).length:Nat):Int),s.take (zaR s+(zaP s).length),1125899906842624,())))],2⟩) ⟨⟨rfl,rfl,rfl,rfl,rfl,rfl,t_⟩,⟨rfl,rfl,t_⟩,rfl,rfl⟩ ?_;refine za (za (zae ?_));refine za4 1 zcm ?_;refine jS rfl (λc e=>by cases e) λU a w' x1=>?_;have xp:=x1.ops (.tmp 50);obtain⟨b,xe⟩:∃b,b=zmj ev:=⟨_,rfl⟩;refine za5 (u:=.bool b) (w':=w') (by rw[xe];exact zzK xp (x3.imp (λh=>h.1) (λh=>h.1))) ⟨⟨(51,⟨.bool,b⟩)::_,_,_⟩,U,x1.put (zR _ _) (v:=⟨.bool,b⟩) qR (zk _) (by show 51<65;omega),?_⟩;have x0:=zpJ _ zxD x3 xe;have xa:¬(bif b then decide (v<1125899906842624) else false)=true->zdK<=numv (zaP s):=λh=>by
  rcases x3 with ⟨rfl,rfl⟩|⟨⟨t,p,rfl⟩,hn⟩
  .rcases Nat.lt_or_ge (numv (zaP s)) zdK with h1|h1
   .exact absurd (x0.2 ⟨xe,rfl,h1⟩) h
   .exact h1
  .exact hn
 refine jz hX zcm rfl ?_ ?_
 .exact⟨λh=>h,λh=>h⟩
 have x6:valN s=if zaR s=1 then -((min (numv (zaP s)) zdK:Nat):Int) else((min (numv (zaP s)) zdK:Nat):Int):=rfl
 refine zbi (Y':=⟨[(2,⟨.optr tk,⟨0,tk,.here⟩⟩),(4,⟨i64,((zaR s:Nat):Int)⟩),(6,⟨.optr tk,⟨1,tk,.here⟩⟩)],[(0,some (.box tk zTk)),(1,some (.box tk (3,0,((zaR s+(zaP s).length:Nat):Int),s.take (zaR s+(zaP s).length),((min (numv (zaP s)) zdK:Nat):Int),())))],2⟩) ?_ ?_
 .refine zaf rfl (λhb=>?_) (λhb=>?_)
  .
   obtain⟨_,h2,h3⟩:=x0.1 hb;refine za (za (zaa zcm ?_));refine⟨⟨rfl,rfl,rfl,t_⟩,⟨rfl,zgM ?_,t_⟩,rfl,rfl⟩;rw[Nat.min_eq_left (Nat.le_of_lt h3), <-h2]
  .have hb:¬(bif b then decide (v<1125899906842624) else false)=true:=by
    intro h;rw[hb]at h;cases h
   refine zah ⟨⟨rfl,rfl,rfl,t_⟩,⟨rfl,zgM ?_,t_⟩,rfl,rfl⟩;rw[Nat.min_eq_right (xa hb)];rfl
 have xk:((min (numv (zaP s)) zdK:Nat):Int)<=1125899906842624:=by
  have:=Nat.min_le_right (numv (zaP s)) zdK;unfold zdK at *;omega
 refine za (za (zaa zcm ?_));refine zbi (Y':=⟨[(2,⟨.optr tk,⟨0,tk,.here⟩⟩),(6,⟨.optr tk,⟨1,tk,.here⟩⟩)],[(0,some (.box tk zTk)),(1,some (.box tk (3,0,((zaR s+(zaP s).length:Nat):Int),s.take (zaR s+(zaP s).length),valN s,())))],2⟩) ?_ ?_
 .refine zaU rfl (λhb=>?_) (λhb=>?_)
  .
   refine za (za (zac hX zcm rfl ?_ ?_))
   .show inR .i64 (-((min (numv (zaP s)) zdK:Nat):Int));exact zad o_ o_
   refine⟨⟨rfl,rfl,t_⟩,⟨rfl,zgM ?_,t_⟩,rfl,rfl⟩;rw[x6,if_pos o_]
  .
   refine zah ⟨⟨rfl,rfl,t_⟩,⟨rfl,zgM ?_,t_⟩,rfl,rfl⟩;rw[x6,if_neg o_]
 (repeat refine za (za (zaa zcm ?_)));refine za ?_;refine zp ⟨.inr rfl,D2 ?_⟩;show(((3:Int),(0:Int),((zaR s+(zaP s).length:Nat):Int),s.take (zaR s+(zaP s).length),valN s,()),(true,()))=zfN s;unfold zfN;rw[xc]
section
open Go Go.RowKit Go.ChangeShapes Go.WideShapes Go.ChangeAt
theorem own:ownKnob zb.godebug=none:=by kernel_rfl
theorem zxu:laidOutB zb=true:=by kernel_rfl
abbrev zr5:List (String×DataW Unit):=Rows.grammarMeaningRow.laid
theorem zyS:(zr5.filter λx=>x.1== "internal/strconv.uint64pow10")=[("internal/strconv.uint64pow10",Lib.tabData .u64 Lib.pow10Tab)]:=by kernel_rfl
theorem zzJ:(zr5.filter λx=>x.1== "strconv.ErrRange")=[("strconv.ErrRange",Rows.laid_strconv_ErrRange)]:=by kernel_rfl
theorem zpQ:(zr5.filter λx=>x.2.handleName?.isSome)=[]:=by kernel_rfl
theorem zuI:(zb.globals[3]?).map (·.type)=some 227:=by kernel_rfl
theorem zu1:zb.cellsOf 227=20:=by kernel_rfl
theorem zu0:zb.cellsOf 210=1:=by kernel_rfl
theorem gErr:zb.globalNamed "strconv.ErrRange"=some 5:=by kernel_rfl
theorem zuJ:(zb.globals[5]?).map (·.type)=some 90:=by kernel_rfl
theorem zx8{W:zh}(h:laidMetH zb zr5 W):gmH W:=by
 have h1:laidMet zb zr5 W:=by
  have:=(laidMetH_iff.1 h).1;rwa[List.filter_eq_self.2 (λx hx=>by
   have hn:=(List.filter_eq_nil_iff.1 zpQ) x hx;cases he:x.2.handleName? with
   |none=>rfl
   |some s=>rw[he]at hn;exact absurd rfl hn)]at this
 have ht:=h1.filter λx=>x.1== "internal/strconv.uint64pow10";have he:=h1.filter λx=>x.1== "strconv.ErrRange";rw[zyS]at ht;rw[zzJ]at he;refine⟨Lib.tabIs_of_head (rest:=[]) zxJ zuI Tryz.underlying227 Tryz.underlying210 zu0 zu1 ht,?_⟩;obtain⟨ps,⟨g',t',cs,fuel,p,q,hg',ht',hvar,hd,_,_⟩,_⟩:=he;obtain rfl:=zP (gErr.symm.trans hg');obtain rfl:=zP (zuJ.symm.trans ht');obtain⟨_,u,v,hcs,_,_⟩:=iface_of_trod errT hd;refine⟨.iface u v,?_,.inr ⟨u,v,rfl⟩⟩;unfold bg at hvar;rw[gErr]at hvar;simp only[uC]at hvar;unfold qi;cases ho:W.heap[5]? with
 |none=>rw[ho]at hvar;cases hvar
 |some o=>
  rw[ho]at hvar;cases o<;>simp at hvar;rename_i c t fz;subst hvar;simp;rw[<-Array.getElem?_toList,hcs];rfl
def numD:DataW Unit->Int
 |.lit (.int _ z)=>z
 |_=>0
def zsu:DataW Unit->List Int
 |.agg ds=>ds.flatMap λd=>match d with
  |.agg es=>es.map numD
  |d=>[numD d]
 |_=>[]
def setG(g:Nat)(cs:List zd)(h:Array Obj):Array Obj:=h.modify g fun
 |.cells _ t frozen=>.cells cs.toArray t frozen
 |o=>o
noncomputable def zBa(os:Os):Array Obj:=
 let h:=(World.holding zb os ⟨#[],#[],[]⟩).heap
 let n:=h.size
 ((setG 6 ((zsu Rows.laid_math_bits_deBruijn32tab).map (.int .u8 ·))<|
   setG 7 ((zsu Rows.laid_math_bits_deBruijn64tab).map (.int .u8 ·))<|
   setG 3 ((zsu Rows.laid_internal_strconv_uint64pow10).map (.int .u64 ·))<|
   setG 1 ((zsu Rows.laid_unicode_utf8_acceptRanges).map (.int .u8 ·))<|
   setG 0 ((zsu Rows.laid_unicode_utf8_first).map (.int .u8 ·))<|
   setG 5 [.iface 240 (.pointer (some ⟨n,0,none⟩))]<|
   setG 4 [.iface 240 (.pointer (some ⟨n+1,0,none⟩))] h).push
    (.cells #[.string ⟨#[118,97,108,117,101,32,111,117,116,32,111,102,32,114,97,110,103,101]⟩] 242)).push
    (.cells #[.string ⟨#[105,110,118,97,108,105,100,32,115,121,110,116,97,120]⟩] 242)
noncomputable def ziM(os:Os):zh:={ World.holding zb os ⟨#[],#[],[]⟩ with heap:=zBa os }
end
def two(k:Int):Bool:=(k==8)||(k==9)||(k==10)||(k==17)
def zcL(by_:Int)(n:Nd):Nd:=(n.1,n.2.1,(if 8<=n.1/\n.1<=17 then n.2.2.1+by_ else n.2.2.1),(if two n.1 then n.2.2.2.1+by_ else n.2.2.2.1),n.2.2.2.2)
def ze1(r:List Nd)(by_:Int):List Nd:=r.map (zcL by_)
def zt9(r:List Nd)(n:Nd):List Nd:=r++[setL n ((r.length:Nat)-1)]
def zva(r s:List Nd)(n:Nd):List Nd:=r++ze1 s (r.length:Nat)++[zbZ n ((r.length:Nat)-1) ((r.length:Nat)+(s.length:Nat)-1)]
section
variable {s:List UInt8}
theorem zej{st st':GSt}{w:List UInt8}(he:za3 s st w=.ok st'):st'.2=st.2:=by
 obtain⟨u,_,h2⟩:=zan he;cases h2;rfl
theorem zdv{st st':GSt}(he:zbX s st=.ok st'):st'.2=st.2+1:=by
 obtain⟨u,_,h2⟩:=zan he;cases h2;rfl
theorem zbD{st st':GSt}{lo hi x:Int}(he:zaO s st lo hi=.ok (x,st')):st'.2=st.2:=by
 iterate 2 (obtain⟨_,_,he⟩:=zan he)
 cases he;rfl
theorem zoR{lo hi:Int}{z:Bool}:∀(k:Nat){st st':GSt}{l l':List Int},zcU s lo hi z k st l=.ok (l',st')->st'.2=st.2
 |0,_,_,_,_,he=>by cases he
 |k+1,st,st',l,l',he=>by
  unfold zcU at he;split at he
  .cases he;rfl
  .obtain⟨_,_,he⟩:=zan he
   iterate 2 (obtain⟨_,_,he⟩:=zan he)
   obtain⟨⟨x,x0⟩,h1,he⟩:=zan he;rw[zoR k he,zbD h1]
theorem zk4{st st':GSt}{lo hi:Int}{z:Bool}{l:List Int}(he:zdL s st lo hi z=.ok (l,st')):st'.2=st.2:=by
 obtain⟨x2,h1,he⟩:=zan he;obtain⟨⟨l1,x0⟩,h2,he⟩:=zan he;obtain⟨x1,h3,he⟩:=zan he;cases he;rw[zej h3,zoR _ h2,zej h1]
theorem zoQ{st st':GSt}{x:Int}(he:zei s st=.ok (x,st')):st'.2=st.2:=by
 obtain⟨_,_,he⟩:=zan he;cases he;rfl
theorem zxL{st st':GSt}{n:Nd}:∀(w:LeafW),zdM s st w=.ok (n,st')->st'.2=st.2
 |.days,he=>by
  obtain⟨⟨x,a⟩,h1,he⟩:=zan he;obtain⟨⟨y,b⟩,h2,he⟩:=zan he;cases he;rw[zbD h2,zbD h1]
 |.years,he=>by
  obtain⟨⟨x,a⟩,h1,he⟩:=zan he;obtain⟨⟨y,b⟩,h2,he⟩:=zan he;obtain⟨⟨z,c⟩,h3,he⟩:=zan he;cases he;rw[zbD h3,zbD h2,zbD h1]
 |.months,he|.monthdays,he|.weeks,he=>by
  obtain⟨⟨x,a⟩,h1,he⟩:=zan he;obtain⟨⟨y,b⟩,h2,he⟩:=zan he;cases he;rw[zk4 h2,zbD h1]
 |.weekdays,he=>by
  obtain⟨⟨y,b⟩,h2,he⟩:=zan he;cases he;exact zk4 h2
 |.nth,he=>by
  obtain⟨⟨x,a⟩,h1,he⟩:=zan he;obtain⟨_,_,he⟩:=zan he;obtain⟨⟨y,b⟩,h2,he⟩:=zan he;obtain⟨⟨z,c⟩,h3,he⟩:=zan he;obtain⟨⟨u,d⟩,h4,he⟩:=zan he;cases he;rw[zoQ h4,zbD h3,zbD h2,zbD h1]
theorem zoP{st st':GSt}{n:Nd}:∀(w:SufW),gSuf s st w=.ok (n,st')->st'.2=st.2
 |.shift,he|.from_,he|.until_,he=>by
  obtain⟨⟨x,a⟩,h1,he⟩:=zan he;cases he;exact zbD h1
 |.also,he|.except_,he=>by
  obtain⟨⟨x,a⟩,h1,he⟩:=zan he;cases he;exact zk4 h1
 |.pos,he=>by
  obtain⟨⟨x,a⟩,h1,he⟩:=zan he;obtain⟨⟨y,b⟩,h2,he⟩:=zan he;obtain⟨⟨z,c⟩,h3,he⟩:=zan he;cases he;rw[zk4 h3,zoQ h2,zbD h1]
 |.behind,he=>by
  obtain⟨⟨x,a⟩,h1,he⟩:=zan he;obtain⟨b,h2,he⟩:=zan he;cases he;rw[zej h2,zbD h1]
def SzOk(st:GSt)(t:Tr)(st':GSt):Md->Prop
 |.binL _ t0=>st'.2+(t0.size:Int)=st.2+(t.size:Int)
 |.chainL t0=>st'.2+(t0.size:Int)=st.2+(t.size:Int)
 |_=>st'.2=st.2+(t.size:Int)
theorem zt8{r:Md->GSt->GE (Tr×GSt)}(hr:∀md st t st',r md st=.ok (t,st')->SzOk st t st' md):∀md st t st',zbx s r md st=.ok (t,st')->SzOk st t st' md
 |.bin i,st,t,st',he=>by
  rw[zbx]at he;split at he
  .exact hr .chain _ _ _ he
  .obtain⟨⟨u,a⟩,h1,he⟩:=zan he;have k1:a.2=st.2+(u.size:Int):=hr _ _ _ _ h1;have k2:st'.2+(u.size:Int)=a.2+(t.size:Int):=hr _ _ _ _ he;show st'.2=st.2+(t.size:Int);omega
 |.binL i t0,st,t,st',he=>by
  rw[zbx]at he;split at he
  .obtain⟨a,h1,he⟩:=zan he;obtain⟨⟨u,b⟩,h2,he⟩:=zan he;have k1:=zdv h1;have k2:b.2=a.2+(u.size:Int):=hr _ _ _ _ h2;have k3:st'.2+((t0.size+u.size+1:Nat):Int)=b.2+(t.size:Int):=hr _ _ _ _ he;show st'.2+(t0.size:Int)=st.2+(t.size:Int);omega
  .cases he;rfl
 |.chain,st,t,st',he=>by
  rw[zbx]at he;obtain⟨⟨u,a⟩,h1,he⟩:=zan he;have k1:a.2=st.2+(u.size:Int):=hr _ _ _ _ h1;have k2:st'.2+(u.size:Int)=a.2+(t.size:Int):=hr _ _ _ _ he;show st'.2=st.2+(t.size:Int);omega
 |.chainL t0,st,t,st',he=>by
  show st'.2+(t0.size:Int)=st.2+(t.size:Int);rw[zbx]at he;split at he
  .split at he
   .cases he;rfl
   .obtain⟨a,h1,he⟩:=zan he;obtain⟨⟨n,b⟩,h2,he⟩:=zan he;obtain⟨⟨u,c⟩,h3,he⟩:=zan he;have k1:=zdv h1;have k2:=zoP _ h2;have k3:c.2=b.2+(u.size:Int):=hr _ _ _ _ h3;have k4:st'.2+((t0.size+u.size+1:Nat):Int)=c.2+(t.size:Int):=hr _ _ _ _ he;omega
   .obtain⟨a,h1,he⟩:=zan he;obtain⟨⟨n,b⟩,h2,he⟩:=zan he;have k1:=zdv h1;have k2:=zoP _ h2;have k4:st'.2+((t0.size+1:Nat):Int)=b.2+(t.size:Int):=hr _ _ _ _ he;omega
  .cases he;rfl
 |.prim,st,t,st',he=>by
  show st'.2=st.2+(t.size:Int);rw[zbx]at he;split at he
  .obtain⟨⟨u,a⟩,h1,he⟩:=zan he;obtain⟨b,h2,he⟩:=zan he;cases he;have k1:a.2=(gAdv s st).2+(t.size:Int):=hr _ _ _ _ h1;have k2:=zej h2;have k3:(gAdv s st).2=st.2:=rfl;omega
  .split at he
   .obtain⟨_,_,he⟩:=zan he;obtain⟨a,h1,he⟩:=zan he;cases he;exact zdv h1
   .obtain⟨_,h0,he⟩:=zan he;split at he
    .cases he
    .obtain⟨a,h1,he⟩:=zan he;obtain⟨⟨n,b⟩,h2,he⟩:=zan he;cases he;rw[zxL _ h2];exact zdv h1
theorem zvJ:∀(k:Nat)md st t st',prs s k md st=.ok (t,st')->SzOk st t st' md
 |0,_,_,_,_,he=>by cases he
 |k+1,md,st,t,st',he=>zt8 (zvJ k) md st t st' he
theorem zkC{md:Md}{st st':GSt}{t:Tr}(he:prsT s md st=.ok (t,st')):SzOk st t st' md:=zvJ _ _ _ _ _ he
theorem Tr.size_pos:∀t:Tr,1<=t.size
 |.leaf _=>zj _
 |.un _ a=>Nat.le_add_left _ _
 |.bin _ a b=>Nat.le_add_left _ _
theorem ziw{i:Nat}{st:GSt}(h:GOk s st)(hi:3<=i):prsT s (.bin i) st=prsT s .chain st:=by
 rw[zcJ h,zbx,if_pos hi]
theorem zhS{i:Nat}{st:GSt}(h:GOk s st)(hi:¬3<=i):prsT s (.bin i) st=(prsT s (.bin (i+1)) st >>=λp=>prsT s (.binL i p.1) p.2):=by
 rw[zcJ h,zbx,if_neg hi]
theorem zjU{i:Nat}{t:Tr}{st:GSt}(h:GOk s st)(hi:gIs st (opW i)=false):prsT s (.binL i t) st=.ok (t,st):=by
 rw[zcJ h,zbx,if_neg (by rw[hi];decide)]
theorem zjT{i:Nat}{t:Tr}{st:GSt}(h:GOk s st)(hi:gIs st (opW i)=true):prsT s (.binL i t) st=(zbX s st >>=λst=>prsT s (.bin (i+1)) st >>=λp=>prsT s (.binL i (.bin (opK i,zNd.2) t p.1)) p.2):=by
 rw[zcJ h,zbx,if_pos hi]
theorem zjS{st:GSt}(h:GOk s st):prsT s .chain st=(prsT s .prim st >>=λp=>prsT s (.chainL p.1) p.2):=by
 rw[zcJ h,zbx]
theorem zeW{t:Tr}{st:GSt}(h:GOk s st)(hc:yJ st.1≠1):prsT s (.chainL t) st=.ok (t,st):=by
 rw[zcJ h,zbx,if_neg hc]
theorem zht{t:Tr}{st:GSt}(h:GOk s st)(hc:yJ st.1=1)(hw:sufW (yB st.1)=none):prsT s (.chainL t) st=.ok (t,st):=by
 rw[zcJ h,zbx,if_pos hc,hw]
def sufT(t:Tr)(st:GSt):SufW->GE (Tr×GSt)
 |.behind=>gSuf s st .behind >>=λp=>prsT s .prim p.2 >>=λu=>.ok (.bin p.1 t u.1,u.2)
 |w=>gSuf s st w >>=λp=>.ok (.un p.1 t,p.2)
theorem zhu{t:Tr}{st:GSt}{w:SufW}(h:GOk s st)(hc:yJ st.1=1)(hw:sufW (yB st.1)=some w):prsT s (.chainL t) st=(zbX s st >>=λst=>sufT (s:=s) t st w >>=λp=>prsT s (.chainL p.1) p.2):=by
 rw[zcJ h,zbx,if_pos hc,hw];cases w<;>(
  simp only[sufT];cases zbX s st with
  |error e=>rfl
  |ok a=>
   show(gSuf s a _ >>=_)=((gSuf s a _ >>=_) >>=_);cases gSuf s a _ with
   |error e=>rfl
   |ok p=>
    first
    |rfl
    |(show(prsT s .prim p.2 >>=_)=((prsT s .prim p.2 >>=_) >>=_)
      cases prsT s .prim p.2<;>rfl))
end
section
variable {s:List UInt8}
def Er{α:Type}(s:List UInt8)(m:Except (Int×Int) α):Prop:=∀er,m=.error er->0<=er.1/\er.1<=((s.length:Nat):Int)
theorem zaB{α U:Type}{m:Except (Int×Int) α}{f:α->Except (Int×Int) U}(h1:Er s m)(h2:∀x,m=.ok x->Er s (f x)):Er s (m >>=f):=by
 intro er he;cases hm:m with
 |error e=>
  rw[hm]at he;have he:(.error e:Except (Int×Int) U)=.error er:=he;cases he;exact h1 _ hm
 |ok x=>
  rw[hm]at he;exact h2 x hm er he
theorem zdw{α:Type}{x:α}:Er s (.ok x:Except (Int×Int) α):=λ_ h=>by cases h
theorem zuP{α:Type}{st:GSt}{e:Int}(h:GOk s st):Er s (.error (Tok.at st.1,e):Except (Int×Int) α):=λer he=>by
 cases he;obtain⟨⟨⟨a1,a2,a3⟩,_⟩,_⟩:=h;exact⟨a1,by show Tok.at st.1<=_;omega⟩
theorem zb5{st:GSt}{b:Bool}{e:Int}(h:GOk s st):Er s (zaH st b e):=by
 unfold zaH;split
 .exact zdw
 .exact zuP h
theorem zfg{st:GSt}{w:List UInt8}(h:GOk s st):Er s (za3 s st w):=zaB (zb5 h) λ_ _=>zdw
theorem zgG{st:GSt}(h:GOk s st):Er s (zbX s st):=zaB (zb5 h) λ_ _=>zdw
theorem zbQ{st:GSt}{lo hi:Int}(h:GOk s st):Er s (zaO s st lo hi):=zaB (zb5 h) λ_ _=>zaB (zb5 h) λ_ _=>zdw
theorem zoY{lo hi:Int}{z:Bool}:∀(k:Nat){st:GSt}{l:List Int},GOk s st->Er s (zcU s lo hi z k st l)
 |0,_,_,h=>zuP h
 |k+1,st,l,h=>by
  unfold zcU;split
  .exact zdw
  .exact zaB (zb5 h) λ_ _=>zaB (zb5 h) λ_ _=>zaB (zb5 h) λ_ _=>zaB (zbQ h) λp hp=>zoY k (zap h hp).1.1
theorem zk9{st:GSt}{lo hi:Int}{z:Bool}(h:GOk s st):Er s (zdL s st lo hi z):=
 zaB (zfg h) λa ha=>zaB (zoY _ (zby h ha).1) λp hp=>zaB (zfg (by
  rcases ziR _ (zby h ha).1 hp with e|k
  .rw[e];exact(zby h ha).1
  .exact k.1)) λ_ _=>zdw
theorem zoX{st:GSt}(h:GOk s st):Er s (zei s st):=zaB (zb5 h) λ_ _=>zdw
theorem zx5{st:GSt}(h:GOk s st):∀w:LeafW,Er s (zdM s st w)
 |.days=>zaB (zbQ h) λp hp=>zaB (zbQ (zap h hp).1.1) λ_ _=>zdw
 |.years=>zaB (zbQ h) λp hp=>zaB (zbQ (zap h hp).1.1) λq hq=>zaB (zbQ (zap (zap h hp).1.1 hq).1.1) λ_ _=>zdw
 |.months|.monthdays|.weeks=>zaB (zbQ h) λp hp=>zaB (zk9 (zap h hp).1.1) λ_ _=>zdw
 |.weekdays=>zaB (zk9 h) λ_ _=>zdw
 |.nth=>zaB (zbQ h) λp hp=>zaB (zb5 (zap h hp).1.1) λ_ _=>zaB (zbQ (zap h hp).1.1) λq hq=>zaB (zbQ (zap (zap h hp).1.1 hq).1.1) λr hr=>zaB (zoX (zap (zap (zap h hp).1.1 hq).1.1 hr).1.1) λ_ _=>zdw
theorem zv2{st:GSt}(h:GOk s st):∀w:SufW,Er s (gSuf s st w)
 |.shift|.from_|.until_=>zaB (zbQ h) λ_ _=>zdw
 |.also|.except_=>zaB (zk9 h) λ_ _=>zdw
 |.pos=>zaB (zbQ h) λp hp=>zaB (zoX (zap h hp).1.1) λq hq=>zaB (zk9 (zfd (zap h hp).1.1 hq).1) λ_ _=>zdw
 |.behind=>zaB (zbQ h) λp hp=>zaB (zfg (zap h hp).1.1) λ_ _=>zdw
theorem zhd{md:Md}{st st':GSt}(h:GOk s st)(k:Cons s st st' md):GOk s st':=by
 cases md with
 |bin i=>exact k.1
 |chain=>exact k.1
 |prim=>exact k.1
 |binL i t=>
  rcases k with rfl|k
  .exact h
  .exact k.1
 |chainL t=>
  rcases k with rfl|k
  .exact h
  .exact k.1
theorem zeN:∀(k:Nat)(md:Md)(st:GSt),GOk s st->Er s (prs s k md st)
 |0,_,_,h=>zuP h
 |k+1,.bin i,st,h=>by
  unfold prs;rw[zbx];split
  .exact zeN k _ _ h
  .exact zaB (zeN k _ _ h) λp hp=>zeN k _ _ (zhd h (zc2 k _ _ _ _ h hp))
 |k+1,.binL i t,st,h=>by
  unfold prs;rw[zbx];split
  .rename_i hi;refine zaB (zgG h) λa ha=>?_;have k1:=zbn h (zea hi) ha;exact zaB (zeN k _ _ k1.1) λp hp=>zeN k _ _ (zhd k1.1 (zc2 k _ _ _ _ k1.1 hp))
  .exact zdw
 |k+1,.chain,st,h=>by
  unfold prs;rw[zbx];exact zaB (zeN k _ _ h) λp hp=>zeN k _ _ (zhd h (zc2 k _ _ _ _ h hp))
 |k+1,.chainL t,st,h=>by
  unfold prs;rw[zbx];split
  .rename_i hc;split
   .exact zdw
   .refine zaB (zgG h) λa ha=>?_;have k1:=zbn h (by rw[hc];decide) ha;refine zaB (zv2 k1.1 _) λp hp=>?_;have k2:=zfc k1.1 _ hp;exact zaB (zeN k _ _ k2.1) λq hq=>zeN k _ _ (zhd k2.1 (zc2 k _ _ _ _ k2.1 hq))
   .refine zaB (zgG h) λa ha=>?_;have k1:=zbn h (by rw[hc];decide) ha;refine zaB (zv2 k1.1 _) λp hp=>?_;have k2:=zfc k1.1 _ hp;exact zeN k _ _ k2.1
  .exact zdw
 |k+1,.prim,st,h=>by
  unfold prs;rw[zbx];split
  .rename_i hi;have k0:=zcr h (zea hi);exact zaB (zeN k _ _ k0.1) λp hp=>zaB (zfg (zhd k0.1 (zc2 k _ _ _ _ k0.1 hp))) λ_ _=>zdw
  .split
   .exact zaB (zb5 h) λ_ _=>zaB (zgG h) λ_ _=>zdw
   .refine zaB (zb5 h) λu hu=>?_;have hc:=zbP hu;rw[beq_iff_eq]at hc;split
    .exact zuP h
    .refine zaB (zgG h) λa ha=>?_;have k1:=zbn h (by rw[hc];decide) ha;exact zaB (zx5 k1.1 _) λ_ _=>zdw
theorem zx4{st:GSt}(h:GOk s st):Er s (zgC s st):=
 zaB (zeN _ _ _ h) λp hp=>zaB (zb5 (zhd h (zc2 _ _ _ _ _ h hp))) λ_ _=>zdw
end
def cSym:Ctr:={ args:=[.str,.str],pre:=λx=>[x.1=[40,41,61],∃c,x.2.1=[c]],res:=.bool,own:=none,out:=λx=>decide (0<=qQ x.1 (x.2.1.getD 0 0)) }
theorem zyT:yT zb gmG 102 cSym:=by
 refine⟨Tryz.call102,λw O xs vs hO hr hp hG=>?_⟩;obtain⟨s,d,_⟩:=xs;obtain⟨h1,c,h2⟩:=hp;subst h1;subst h2;obtain⟨v1,r1,rfl,e1,v2,r2,rfl,e2,rfl⟩:=hr;obtain⟨e1,_⟩:=e1;obtain⟨e2,_⟩:=e2;cases e1;cases e2;refine fI (Any.strings_Contains_one Tryz.lays144 ⟨#[40,41,61]⟩ c w) ?_;rintro e w' ⟨rfl,rfl⟩;refine⟨_,rfl,zR _ _,λU=>?_⟩;rfl
def zm1(sk:Nat):List UInt8->TokT
 | []=>(0,(sk:Int),0,[],0,())
 |c::r=>
  if 0<zau (c::r) then(1,(sk:Int),(zau (c::r):Nat),(c::r).take (zau (c::r)),0,())
  else if c=64/\0<zau r then(2,(sk:Int),(zau r:Nat)+1,r.take (zau r),0,())
  else match zc6 (c::r) with
   |some (k,n,t,x)=>(k,(sk:Int),(n:Nat),t,x,())
   |none=>if c=40\/c=41\/c=61 then(4,(sk:Int),1,[c],0,()) else(5,(sk:Int),1,[c],0,())
theorem zqT(sk:Nat)(c:UInt8)(r:List UInt8)(h:¬0<zau (c::r)):zm1 sk (c::r)=(if c=64/\0<zau r then(2,(sk:Int),((zau r:Nat):Int)+1,r.take (zau r),0,())
 else match zc6 (c::r) with
  |some (k,n,t,x)=>(k,(sk:Int),((n:Nat):Int),t,x,())
  |none=>if c=40\/c=41\/c=61 then(4,(sk:Int),1,[c],0,()) else(5,(sk:Int),1,[c],0,()):TokT):=if_neg h
theorem zwQ(s:List UInt8):zbL s=zm1 (zbJ isWh s) (s.drop (zbJ isWh s)):=by
 rw[zbL];cases s.drop (zbJ isWh s)<;>rfl
theorem zqy(c:UInt8):decide (0<=qQ [40,41,61] c)=true↔(c=40\/c=41\/c=61):=by
 have key:∀n:Fin 256,decide (0<=qQ [40,41,61] (UInt8.ofNat n.val))=decide (n.val=40\/n.val=41\/n.val=61):=by decide+kernel
 have h:=key ⟨c.toNat,UInt8.toNat_lt c⟩;simp only[UInt8.ofNat_toNat]at h;rw[h,decide_eq_true_iff];constructor
 .rintro (h|h|h)
  .exact .inl (kb.1 h)
  .exact .inr (.inl (kb.1 h))
  .exact .inr (.inr (kb.1 h))
 .rintro (rfl|rfl|rfl)<;>decide
def zzS:Ctr:={ args:=[.str],pre:=λx=>[zi x.1<=100000],res:=tk,own:=none,out:=λx=>zbL x.1 }
def kSc:Kn:={ gmK with C:=[(30,znO 31 isWh),(34,zli),(101,zo6),(102,cSym)] }
theorem zb2:KnOk zb gmH kSc:=zaj.with (.cons zlK.lift<|.cons zjG.lift<|.cons zpP<|.cons zyT.lift .nil)
theorem zwP:yT zb gmH 58 zzS:=by
 refine ctr2 zb2 Tryz.func58 Tryz.call58 ?_;rintro w0 X hX ⟨s,_⟩ hp;have hlen:s.length<=100000:=hp;change AWP _ _ _ _ _ ⟨[(0,⟨.str,s⟩)],[],0⟩ _
 iterate 2 (refine za (za (zaa zb2 ?_)))
 have x4:=zkm isWh s;have q0:(0:Int)<=((zbJ isWh s:Nat):Int):=o_;have q1:((zbJ isWh s:Nat):Int)<=((s.length:Nat):Int):=o_;refine za (za (zaa zb2 ?_));obtain⟨u,hu⟩:∃u,u=s.drop (zbJ isWh s):=⟨_,rfl⟩;have x1:u.length<=100000:=by rw[hu,qC];omega
 refine zak (Y':=⟨[(0,⟨.str,u⟩),(2,⟨.optr tk,⟨0,tk,.here⟩⟩),(3,⟨i64,((zbJ isWh s:Nat):Int)⟩)],[(0,some (.box tk zTk))],1⟩) ⟨⟨?_,rfl,rfl,t_⟩,⟨rfl,t_⟩,rfl,rfl⟩ ?_
 .show(⟨.str,gj (((zbJ isWh s:Nat):Int)).toNat s⟩:V)=⟨.str,u⟩;rw[zH,hu]
 show AWP _ _ _ _ _ _ (λe Y=>(e=.normal\/e=.ret)/\Done _ _ Y none tk (zbL s));rw[zwQ, <-hu];generalize zbJ isWh s=sk at q0 q1 ⊢;cases u with
 |nil=>
  refine za (za (zaa zb2 ?_));refine zaf rfl (λ_=>?_) (λhb=>?_)
  . (repeat refine za (za (zaa zb2 ?_)));refine za ?_;exact zp ⟨.inr rfl,D1 rfl⟩
  .
   rw[zbs.2 rfl]at hb;cases hb
 |cons c r=>
  have x8:r.length<=100000:=by rw[zv]at x1;omega
  have n1:(1:Int)<=(((c::r).length:Nat):Int):=by rw[zv];omega
  have n2:(0:Int)<(((c::r).length:Nat):Int):=by rw[zv];omega
  refine za (za (zaa zb2 ?_));refine zaf rfl (λhb=>?_) (λ_=>?_)
  .have hb:eqb .str (c::r:List UInt8) []=true:=hb;cases zbs.1 hb
  apply zah;refine za (za (zaa zb2 ?_));refine zak (Y':=⟨[(0,⟨.str,(c::r:List UInt8)⟩),(2,⟨.optr tk,⟨0,tk,.here⟩⟩),(3,⟨i64,(sk:Int)⟩),(4,⟨.optr tk,⟨1,tk,.here⟩⟩)],[(0,some (.box tk zTk)),(1,some (.box tk (5,0,1,[c],0,())))],2⟩) ⟨⟨rfl,rfl,rfl,rfl,t_⟩,⟨rfl,rfl,t_⟩,rfl,rfl⟩ ?_;have x6:=zfm (c::r);refine za8 (Y':=⟨[(2,⟨.optr tk,⟨0,tk,.here⟩⟩),(3,⟨i64,(sk:Int)⟩),(4,⟨.optr tk,⟨1,tk,.here⟩⟩)],[(0,some (.box tk zTk)),(1,some (.box tk ((zm1 sk (c::r)).1,0,(zm1 sk (c::r)).2.2)))],2⟩) ?_ ?_
  .refine za (za (zaa zb2 ?_));have x5:(0:Int)<=((zau (c::r):Nat):Int):=o_;have x2:((zau (c::r):Nat):Int)<=(((c::r).length:Nat):Int):=o_;refine za (za (zaa zb2 ?_));refine zaf rfl (λhb=>?_) (λhb=>?_)
   .have hb:decide (((zau (c::r):Nat):Int)>0)=true:=hb;have hb:=of_decide_eq_true hb;refine za (za (zaa zb2 ?_));refine⟨⟨rfl,rfl,rfl,t_⟩,⟨rfl,zgM ?_,t_⟩,rfl,rfl⟩;rw[zm1,if_pos o_];show((1:Int),(0:Int),((zau (c::r):Nat):Int),List.take (((zau (c::r):Nat):Int)).toNat (c::r),(0:Int),())=_;rw[zH]
   .have hb:decide (((zau (c::r):Nat):Int)>0)=false:=hb;have x7:=of_decide_eq_false hb;have e0:=zqT sk c r o_;rw[e0];have x3:=zfm r;have v0:(0:Int)<=1:=d_;refine za (za (zaa zb2 ?_));refine zak (Y':=⟨[(0,⟨.str,(c::r:List UInt8)⟩),(2,⟨.optr tk,⟨0,tk,.here⟩⟩),(3,⟨i64,(sk:Int)⟩),(4,⟨.optr tk,⟨1,tk,.here⟩⟩),(6,⟨i64,((zau r:Nat):Int)⟩)],[(0,some (.box tk zTk)),(1,some (.box tk (5,0,1,[c],0,())))],2⟩) ⟨⟨rfl,rfl,rfl,rfl,rfl,t_⟩,⟨rfl,rfl,t_⟩,rfl,rfl⟩ ?_;refine za (za (zaa zb2 ?_));have ht:(bif (((c.toNat:Nat):Int)==(((64:UInt8).toNat:Nat):Int)) then decide (((zau r:Nat):Int)>0) else false)=decide (c=64/\0<zau r):=by
     rw[u8eq,zcA,zY,zf,beq_iff_eq,decide_eq_true_iff,decide_eq_true_iff];constructor
     .rintro ⟨h1,h2⟩;exact⟨h1,by omega⟩
     .rintro ⟨h1,h2⟩;exact⟨h1,by omega⟩
    refine zaf rfl (λhb=>?_) (λhb=>?_)
    .have hb:=of_decide_eq_true (ht.symm.trans hb);have g1:inR .i64 (((zau r:Nat):Int)+1):=zad o_ o_;have g2:(1:Int)<=((zau r:Nat):Int)+1:=o_;have g3:((zau r:Nat):Int)+1<=(((c::r).length:Nat):Int):=by rw[zv];omega
     refine za (za (zaa zb2 ?_));refine⟨⟨rfl,rfl,rfl,t_⟩,⟨rfl,zgM ?_,t_⟩,rfl,rfl⟩;rw[if_pos hb];have e1:(((zau r:Nat):Int)+1).toNat=zau r+1:=o_;show((2:Int),(0:Int),((zau r:Nat):Int)+1,gj (1:Int).toNat (List.take (((zau r:Nat):Int)+1).toNat (c::r)),(0:Int),())=_;rw[e1];rfl
    .have hb:=of_decide_eq_false (ht.symm.trans hb);rw[if_neg hb];refine za (za (zaa zb2 ?_));refine zak (Y':=⟨[(0,⟨.str,(c::r:List UInt8)⟩),(2,⟨.optr tk,⟨0,tk,.here⟩⟩),(3,⟨i64,(sk:Int)⟩),(4,⟨.optr tk,⟨1,tk,.here⟩⟩),(7,⟨.optr tk,⟨2,tk,.here⟩⟩),(8,⟨.bool,(zfN (c::r)).2.1⟩)],[(0,some (.box tk zTk)),(1,some (.box tk (5,0,1,[c],0,()))),(2,some (.box tk (zfN (c::r)).1))],3⟩) ⟨⟨rfl,rfl,rfl,rfl,rfl,rfl,t_⟩,⟨rfl,rfl,rfl,t_⟩,rfl,rfl⟩ ?_;unfold zfN;cases zc6 (c::r) with
     |some q=>
      obtain⟨k,n,t,x⟩:=q;(repeat refine za (za (zaa zb2 ?_)));refine za ?_;refine zdo rfl ?_;(repeat(first|apply zaq|apply zah|apply zcQ|apply zaw|apply zay|refine zac hX zb2 rfl t_ ?_|refine zac hX zb2 rfl id ?_|refine zac hX zb2 rfl ⟨id,id⟩ ?_));exact⟨⟨rfl,rfl,rfl,t_⟩,⟨rfl,rfl,t_⟩,rfl,rfl⟩
     |none=>
      (repeat refine za (za (zaa zb2 ?_)));refine za ?_;refine zdc rfl ?_;refine za (za (zaa zb2 ?_));refine zaf rfl (λhb=>?_) (λhb=>?_)
      .have hb:=(zqy c).1 hb;(repeat(first|apply zaq|apply zah|apply zcQ|apply zaw|apply zay|refine zac hX zb2 rfl t_ ?_|refine zac hX zb2 rfl id ?_|refine zac hX zb2 rfl ⟨id,id⟩ ?_));refine⟨⟨rfl,rfl,rfl,t_⟩,⟨rfl,zgM ?_,t_⟩,rfl,rfl⟩;simp only[if_pos hb]
      .have hn:¬(c=40\/c=41\/c=61):=λh=>by
        have:=(zqy c).2 h;have hb:decide (0<=qQ [40,41,61] c)=false:=hb;rw[hb]at this;cases this
       apply zah;refine⟨⟨rfl,rfl,rfl,t_⟩,⟨rfl,zgM ?_,t_⟩,rfl,rfl⟩;simp only[if_neg hn]
  .have x0:(zm1 sk (c::r)).2.1=(sk:Int):=by
    rw[zm1];split
    .rfl
    .split
     .rfl
     .split
      .rfl
      .split<;>rfl
   (repeat refine za (za (zaa zb2 ?_)));refine za ?_;refine zp ⟨.inr rfl,D1 ?_⟩;rw[<-x0]
abbrev PsT:=List UInt8×TokT×List Nd×Int×Unit
def stOf(x:PsT):GSt:=(x.2.1,x.2.2.2.1)
abbrev psX(s:List UInt8)(st:GSt)(l:List Nd):PsT:=(s,st.1,l,st.2,())
def pOk(x:PsT):Prop:=GOk x.1 (stOf x)/\x.1.length<=100000
def pvS(e:Int×Int):zd:=.iface 123 (.agg #[.int .i64 e.1,.int .i64 e.2])
def toX{α U:Type}(f:α->U):Except (Int×Int) α->Except zd U
 |.ok a=>.ok (f a)
 |.error e=>.error (pvS e)
@[reducible] def hP(args:List Ty)(res:Ty)(pre:PsT->Args args->List Prop)(out:PsT->Args args->Except zd (res.T×PsT)):HCtr:=
 { self:=ps,k:=6,te:=46,et:=nd,sl:=λx=>x.2.2.1,args:=args,inv:=ginv,pre:=λx xs=>pOk x::pre x xs,res:=res,out:=out }
theorem zbm{args:List Ty}{res:Ty}{pre:PsT->Args args->List Prop}{out:PsT->Args args->Except zd (res.T×PsT)}:(hP args res pre out).law:=⟨rfl,λ_=>rfl,λa h=>by cases h⟩
@[reducible] def pBox(ty:zo)(s:List UInt8)(st:GSt):OObj:=.hbox ty [⟨.str,s⟩,⟨i64,st.1.1⟩,⟨i64,st.1.2.1⟩,⟨i64,st.1.2.2.1⟩,⟨.str,st.1.2.2.2.1⟩,⟨i64,st.1.2.2.2.2.1⟩,⟨.obuf nd,(1:Nat)⟩,⟨i64,st.2⟩]
@[reducible] def pE(ty:zo)(s:List UInt8)(st:GSt)(l:List Nd):Owns:=[(0,some (pBox ty s st)),(1,some (.buf 46 nd l))]
@[reducible] def pSelf:V:=⟨.hptr,((0:Nat),(0:Nat))⟩
def pQ(rs:List jw)(c:HCtr)(ty:zo)(r:Except zd (c.res.T×c.self.T))(e:Exit)(Y:AS):Prop:=zqj gmT rs c ty e Y r
theorem zhw{rs:List jw}{c:HCtr}{ty:zo}{pv:zd}{Y:AS}:pQ rs c ty (.error pv) (.panic [{ v:=pv,recovered:=false }]) Y:=rfl
theorem zal{α U γ:Type}{f:U->γ}{e:Except (Int×Int) α}{k:α->Except (Int×Int) U}{er:Int×Int}(h:e=.error er):toX f (e >>=k)=.error (pvS er):=by rw[h];rfl
theorem zao{α U γ:Type}{f:U->γ}{e:Except (Int×Int) α}{k:α->Except (Int×Int) U}{a:α}(h:e=.ok a):toX f (e >>=k)=toX f (k a):=by rw[h];rfl
section
variable {P:zw}{K:Kn}{w0:zh}{X:Ownr}{n:Nat}{Y:AS}{Q:Exit->AS->Prop}{ops:Array Oper}
theorem zax(m:Nat)(hX:X.Ok w0)(hK:KnOk P X.G K){C:List (zV×HCtr)}(hC:HsOk P X.G C){l rest:List Oper}{o:Oper}{r:List Prop×AS}(hs:aSeq K n ops (l.take m) Y=some r)(hp:allP r.1)(hl:l.drop m=o::rest){s:HSite}(x0:zsq C n o r.2=some s)
  (hq:allP s.q) (x1:∀w R,(∀g,R g->w0.heap.size<=g\/X.R g)->X.G w->s.c.inv w R s.ty) {α:Type}{f:α->s.c.res.T×s.c.self.T}{e:Except (Int×Int) α} (x2:s.c.out s.x s.xs=toX f e)
  (x3:∀er,e=.error er->Q (.panic [{ v:=pvS er,recovered:=false }]) s.lost) (h:∀a,e=.ok a->AL P w0 X n ops rest (s.next (f a).1 (f a).2) Q)
  (x4:o.guard=none:=by rfl) (x5:∀c,o.op≠ .defer c:=by intro c e;cases e) (hd:za2 (l.take m)=true:=by rfl):AL P w0 X n ops l Y Q:=by
 refine yZ m hX hK hC hs hp hl x0 hq x1 ?_ x4 x5 hd;rw[x2];cases e with
 |error er=>exact x3 er rfl
 |ok a=>exact h a rfl
end
section
variable {P:zw}{K:Kn}{w0:zh}{X:Ownr}{n:Nat}{Q:Exit->AS->Prop}{ops:Array Oper}
theorem zph(hX:X.Ok w0){o:Oper}{rest:List Oper}{f:zV}{c:HCtr}(hc:zaD P X.G f c){y a0:zB}{args:Array zB}{ts:Array zo}(ho:o.op=.call ⟨.value y,args,ts⟩)(x0:args= #[a0])(x9:o.guard=none)
  {F:zN}{E:Owns}{nx:Nat} (hy:evO F y=⟨.lit,.func (.func f) #[] #[]⟩)
  {i:Nat} (xb:evO F a0=⟨.hptr,(i,(0:Nat))⟩) {ty:zo}{vs:List V} (hbox:zm E i=some (.hbox ty vs)) {et:Ty}{j:Nat} (hk:vs[c.k]? =some ⟨.obuf et,j⟩) {x7:List c.et.T} (x5:zm E j=some (.buf c.te c.et x7))
  {x:c.self.T} (xc:unD c.self ((c.back i vs).set c.k ⟨.slice c.et,x7⟩)=some (x,[])) (hd:zaN c.args=true) (x8:c.res.resOk=true)
  {q:List Prop}{xs:Args c.args} (xa:zdY E false [] c.args=some (q,xs)) (hq:allP q) (x2:allP (c.pre x xs)) (x1:∀w R,(∀g,R g->w0.heap.size<=g\/X.R g)->X.G w->c.inv w R ty) {F':c.res.T->zN} (x6:∀y,putD n o.dst (resV c.res y) (Frame.kill j F)=some (F' y))
  {α:Type}{g:α->c.res.T×c.self.T}{e:Except (Int×Int) α} (x3:c.out x xs=toX g e) (x4:∀er,e=.error er->Q (.panic [{ v:=pvS er,recovered:=false }]) ⟨F,(i,none)::(j,none)::E,nx⟩)
  (h:∀a,e=.ok a->AL P w0 X n ops rest ⟨F' (g a).1,(i,some (.hbox ty (c.lv i j (g a).2)))::(j,some (.buf c.te c.et (c.sl (g a).2)))::Owns.kill j E,nx⟩ Q):AL P w0 X n ops (o::rest) ⟨F,E,nx⟩ Q:=by
 refine zyG hX hc ho x0 x9 hy xb hbox hk x5 xc hd x8 xa hq x2 x1 x6 ?_;rw[x3];cases e with
 |error er=>exact x4 er rfl
 |ok a=>exact h a rfl
end
theorem zm3{P:zw}{w:zh}{t:zo}{fs:Array Field}(h:P.underlying t=some (.struct fs))(x:zd):(fe t x).run P w=.ok (.iface t x) w:=by
 unfold fe;simp[run_underlying h]
theorem zil{P:zw}{w:zh}(t:zo)(x:zd):(Instr.panic (.iface t x)).run P w=.halt (.panic (.iface t x)) w:=by
 simp[Instr.panic,Sem.run]
@[reducible] def zyh:HCtr:=hP [i64] .unit (λ_ _=>[]) λx xs=>.error (pvS (Tok.at x.2.1,xs.1))
theorem zxZ:zaD zb gmH 107 zyh:=by
 refine zb9 zaj Tryz.func107 zbm Tryz.call107 za0 ?_;rintro w0 O fix B ty hX x1 x ⟨(e:Int),⟨⟩⟩ hp;obtain⟨s,t,l,b,⟨⟩⟩:=x;change AWP _ _ _ _ _ ⟨[(0,pSelf),(1,⟨i64,e⟩)],pE ty s (t,b) l,2⟩ (pQ _ zyh ty (.error (pvS (Tok.at t,e))));refine za (za (zae ?_));refine za4 7 zaj ?_;refine jS rfl (λc e=>by cases e) λU a w' hs=>?_;have x3:RepD w' _ sto (Tok.at t,e,()) (a.eval (.tmp 10)):=hs.ops (.tmp 10);obtain⟨cs,h1,c1,c2,rfl,h2,c3,c4,rfl,h3,h4⟩:=(RepD.agg rfl).1 x3;have h3:c3=[Value.int .i64 e]:=h3;subst h2;subst h3;subst h4;have h1:a.eval (.tmp 10)=.agg #[.int .i64 (Tok.at t),.int .i64 e]:=h1;refine za5 (u:=pvS (Tok.at t,e)) (w':=w') ?_ ⟨⟨(11,⟨.lit,pvS (Tok.at t,e)⟩)::_,_,_⟩,U,hs.put (zR _ _) (v:=⟨.lit,pvS (Tok.at t,e)⟩) rfl (zk _) (by show 11<12;omega),?_⟩
 .show(execOp a.eval { dst:=some 11,op:=Op.makeInterface 123 (.tmp 10),type:=_,pos:=_,after:=_,guard:=none }).run _ _=_;unfold execOp;simp only[h1];exact zbz (zm3 Tryz.underlying123 _)
 refine jS rfl (λc e=>by cases e) λU a w' hs=>?_;have x2:a.eval (.tmp 11)=pvS (Tok.at t,e):=hs.ops (.tmp 11);have x0:(execOp a.eval { dst:=none,op:=Op.panic (.tmp 11),type:=0,pos:= "",after:=#[],guard:=none }).run zb w'=.halt (.panic (pvS (Tok.at t,e))) w':=by
  unfold execOp;simp only[x2];simp[pvS,zil]
 unfold Oper.wp
 erw [x0]
 exact⟨λe=>(by cases e),_,U,hs,rfl⟩
@[reducible] def zi3:HCtr:=hP [.bool,i64] .unit (λ_ _=>[]) λx xs=>toX (λ_=>((),x)) (zaH (stOf x) xs.1 xs.2.1)
def zBb:List (zV×HCtr):=[(107,zyh)]
theorem zuG:HsOk zb gmH zBb:=.cons zxZ .nil
theorem zfB:zaD zb gmH 60 zi3:=by
 refine zb9 zaj Tryz.func60 zbm Tryz.call60 za0 ?_;rintro w0 O fix B ty hX x0 ⟨(s:List UInt8),(t:TokT),(l:List Nd),(b:Int),⟨⟩⟩ ⟨(c:Bool),(e:Int),⟨⟩⟩ hp;have hI:=zaL (ty:=ty) (ty':=ty) hX rfl x0;have x1:=hp;refine za (za (zaa zaj ?_));cases c with
 |true=>
  refine zdc rfl ?_;apply zah;exact⟨.inl rfl,⟨_,rfl,nd,1,_,rfl,rfl,rfl⟩,D2 rfl⟩
 |false=>
  refine zdo rfl ?_;refine za (za (zae ?_));exact yZ 2 hX zaj zuG rfl t_ rfl rfl x1 hI rfl
@[reducible] def cIs:HCtr:=hP [.str] .bool (λ_ _=>[]) λx xs=>.ok (gIs (stOf x) xs.1,x)
theorem zuC:zaD zb gmH 104 cIs:=by
 refine zb9 zaj Tryz.func104 zbm Tryz.call104 za0 ?_;rintro w0 O fix B ty hX x0 ⟨(s:List UInt8),(t:TokT),(l:List Nd),(b:Int),⟨⟩⟩ ⟨(u:List UInt8),⟨⟩⟩ hp;have hI:=zaL (ty:=ty) (ty':=ty) hX rfl x0
 iterate 2 (refine za (za (zaa zaj ?_)))
 refine zp ⟨.inr rfl,⟨_,rfl,nd,1,_,rfl,rfl,rfl⟩,D1 ?_⟩;rw[zcA,zi7,zek];rfl
@[reducible] def cAdv:HCtr:=hP [] tk (λx _=>[]) λx _=>.ok (x.2.1,psX x.1 (gAdv x.1 (stOf x)) x.2.2.1)
def kAd:Kn:={ gmK with C:=[(58,zzS)] }
theorem zeJ:KnOk zb gmH kAd:=zaj.with (.cons zwP .nil)
theorem zhk:zaD zb gmH 63 cAdv:=by
 refine zb9 zeJ Tryz.func63 zbm Tryz.call63 za0 ?_;rintro w0 O fix B ty hX x0 ⟨(s:List UInt8),(t:TokT),(l:List Nd),(b:Int),⟨⟩⟩ ⟨⟩ hp;have hI:=zaL (ty:=ty) (ty':=ty) hX rfl x0;have x3:pOk (s,t,l,b,()):=hp;change AWP _ _ _ _ _ ⟨[(0,pSelf)],pE ty s (t,b) l,2⟩ (pQ _ cAdv ty (.ok (t,psX s (gAdv s (t,b)) l)));refine za (za (zaa zeJ ?_));obtain⟨⟨⟨⟨a1,a2,a3⟩,-⟩,-⟩,hlen⟩:=x3;have a1:(0:Int)<=t.2.1:=a1;have a2:(0:Int)<=t.2.2.1:=a2;have a3:t.2.1+t.2.2.1<=((s.length:Nat):Int):=a3;have hlen:s.length<=100000:=hlen;have q0:inR .i64 (t.2.1+t.2.2.1):=zad o_ o_;have q1:(0:Int)<=t.2.1+t.2.2.1:=o_
 iterate 2 (refine za (za (zaa zeJ ?_)))
 have x4:zi (gj (t.2.1+t.2.2.1).toNat s)<=100000:=by rw[qC];omega
 refine za (za (zaa zeJ ?_));obtain⟨⟨⟨b1,b2,b3⟩,-⟩,b4⟩:=zkv (s:=s) q1 a3;have x1:=(zoc (s.drop (t.2.1+t.2.2.1).toNat)).1;have x5:Tok.at (zbL (s.drop (t.2.1+t.2.2.1).toNat))<=100000:=by
  have:=x1.2.2;have:=x1.2.1;rw[qC]at *;omega
 have x2:=x1.1;have q2:inR .i64 (Tok.at (zbL (s.drop (t.2.1+t.2.2.1).toNat))+(t.2.1+t.2.2.1)):=zad o_ o_;refine za (za (zaa zeJ ?_));(repeat refine za (za (zaa zeJ ?_)));refine za ?_;exact zp ⟨.inr rfl,⟨_,rfl,nd,1,_,rfl,rfl,rfl⟩,D1 rfl⟩
def hEx:List (zV×HCtr):=[(104,cIs),(60,zi3),(63,cAdv)]
theorem zd5:HsOk zb gmH hEx:=.cons zuC<|.cons zfB<|.cons zhk .nil
@[reducible] def zhi:HCtr:=hP [.str] .unit (λ_ _=>[]) λx xs=>toX (λst=>((),psX x.1 st x.2.2.1)) (za3 x.1 (stOf x) xs.1)
theorem zgF:zaD zb gmH 64 zhi:=by
 refine zb9 zaj Tryz.func64 zbm Tryz.call64 za0 ?_;rintro w0 O fix B ty hX x0 ⟨(s:List UInt8),(t:TokT),(l:List Nd),(b:Int),⟨⟩⟩ ⟨(u:List UInt8),⟨⟩⟩ hp;have hI:=zaL (ty:=ty) (ty':=ty) hX rfl x0;have x1:pOk (s,t,l,b,()):=hp;change AWP _ _ _ _ _ ⟨[(0,pSelf),(1,⟨.str,u⟩)],pE ty s (t,b) l,2⟩ (pQ _ zhi ty (toX (λst=>((),psX s st l)) (za3 s (t,b) u)));refine za (za (zae ?_));refine yZ 3 hX zaj zd5 rfl t_ rfl rfl x1 hI ?_;refine zax 0 hX zaj zd5 rfl t_ rfl rfl x1 hI (e:=zaH (t,b) (gIs (t,b) u) 3) rfl (λer h=>?_) (λa h=>?_)
 .unfold za3;rw[zal h];exact zhw
 unfold za3;rw[zao h];refine yQ ?_;refine za (za (zae ?_));refine yZ 1 hX zaj zd5 rfl t_ rfl rfl x1 hI ?_;refine yQ ?_;exact⟨.inl rfl,⟨_,rfl,nd,1,_,rfl,rfl,rfl⟩,D2 rfl⟩
@[reducible] def zmE:HCtr:=hP [] .unit (λ_ _=>[]) λx _=>toX (λst=>((),psX x.1 st x.2.2.1)) (zbX x.1 (stOf x))
theorem zlq:zaD zb gmH 105 zmE:=by
 refine zb9 zaj Tryz.func105 zbm Tryz.call105 za0 ?_;rintro w0 O fix B ty hX x0 ⟨(s:List UInt8),(t:TokT),(l:List Nd),(b:Int),⟨⟩⟩ ⟨⟩ hp;have hI:=zaL (ty:=ty) (ty':=ty) hX rfl x0;have x2:pOk (s,t,l,b,()):=hp;change AWP _ _ _ _ _ ⟨[(0,pSelf)],pE ty s (t,b) l,2⟩ (pQ _ zmE ty (toX (λst=>((),psX s st l)) (zbX s (t,b))));refine za (za (zae ?_));refine zax 6 hX zaj zd5 rfl t_ rfl rfl x2 hI (e:=zaH (t,b) (decide (b<64)) 2) rfl (λer h=>?_) (λa h=>?_)
 .unfold zbX;rw[zal h];exact zhw
 unfold zbX;rw[zao h];have hb:=of_decide_eq_true (zbP h);obtain⟨⟨g1,g2,g3⟩,hlen⟩:=id x2;have g2:(0:Int)<=b:=g2;have q0:inR .i64 (b+1):=zad o_ o_;have x1:pOk (s,t,l,b+1,()):=⟨⟨g1,(by omega:(0:Int)<=b+1),(by omega:b+1<=64)⟩,hlen⟩;refine yQ ?_;refine za (za (zaa zaj ?_));refine za (za (zae ?_));refine yZ 1 hX zaj zd5 rfl t_ rfl rfl x1 hI ?_;refine yQ ?_;exact⟨.inl rfl,⟨_,rfl,nd,1,_,rfl,rfl,rfl⟩,D2 rfl⟩
@[reducible] def zhh:HCtr:=hP [i64,i64] i64 (λ_ _=>[]) λx xs=>toX (λr=>(r.1,psX x.1 r.2 x.2.2.1)) (zaO x.1 (stOf x) xs.1 xs.2.1)
theorem zgr:zaD zb gmH 143 zhh:=by
 refine zb9 zaj Tryz.func143 zbm Tryz.call143 za0 ?_;rintro w0 O fix B ty hX x0 ⟨(s:List UInt8),(t:TokT),(l:List Nd),(b:Int),⟨⟩⟩ ⟨(lo:Int),(hi:Int),⟨⟩⟩ hp;have hI:=zaL (ty:=ty) (ty':=ty) hX rfl x0;have x1:=hp;change AWP _ _ _ _ _ ⟨[(0,pSelf),(1,⟨i64,lo⟩),(2,⟨i64,hi⟩)],pE ty s (t,b) l,2⟩ (pQ _ zhh ty (toX (λr=>(r.1,psX s r.2 l)) (zaO s (t,b) lo hi)));unfold zaO;refine za (za (zaa zaj ?_));refine za (za (zae ?_));refine zax 7 hX zaj zd5 rfl t_ rfl rfl x1 hI (e:=zaH (t,b) (yJ t==3) 3) rfl (λer h=>?_) (λa h=>?_)
 .rw[zal h];exact zhw
 rw[zao h];refine yQ ?_;refine za (za (zae ?_));refine zax 17 hX zaj zd5 rfl ?_ rfl rfl x1 hI (e:=zaH (t,b) (bif decide (lo<=jJ t) then decide (jJ t<=hi) else false) 1) rfl (λer h=>?_) (λa h=>?_)
 .exact z_
 .rw[zcA]at h;rw[zal h];exact zhw
 rw[zcA]at h;rw[zao h];refine yQ ?_;refine za (za (zae ?_));refine yZ 1 hX zaj zd5 rfl t_ rfl rfl x1 hI ?_;refine zaI zaj ?_;exact zp ⟨.inr rfl,⟨_,rfl,nd,1,_,rfl,rfl,rfl⟩,D1 rfl⟩
@[reducible] def zi4:HCtr:=hP [] i64 (λ_ _=>[]) λx _=>toX (λr=>(r.1,psX x.1 r.2 x.2.2.1)) (gCal x.1 (stOf x))
def hCal:List (zV×HCtr):=[(143,zhh)]
theorem zxI:HsOk zb gmH hCal:=.cons zgr .nil
theorem znN:zaD zb gmH 150 zi4:=by
 refine zb9 zaj Tryz.func150 zbm Tryz.call150 za0 ?_;rintro w0 O fix B ty hX x0 ⟨(s:List UInt8),(t:TokT),(l:List Nd),(b:Int),⟨⟩⟩ ⟨⟩ hp;have hI:=zaL (ty:=ty) (ty':=ty) hX rfl x0;have x1:pOk (s,t,l,b,()):=hp;change AWP _ _ _ _ _ ⟨[(0,pSelf)],pE ty s (t,b) l,2⟩ (pQ _ zi4 ty (toX (λr=>(r.1,psX s r.2 l)) (zaO s (t,b) 0 2)));refine za (za (zaa zaj ?_));refine za (za (zae ?_));refine zax 1 hX zaj zxI rfl t_ rfl rfl x1 hI (e:=zaO s (t,b) 0 2) rfl (λer h=>?_) (λa h=>?_)
 .rw[h];exact zhw
 rw[h];refine zaI zaj ?_;exact zp ⟨.inr rfl,⟨_,rfl,nd,1,_,rfl,rfl,rfl⟩,D1 rfl⟩
@[reducible] def zsV:HCtr:=hP [] i64 (λ_ _=>[]) λx _=>toX (λr=>(r.1,psX x.1 r.2 x.2.2.1)) (zei x.1 (stOf x))
theorem ztK:zaD zb gmH 151 zsV:=by
 refine zb9 zaj Tryz.func151 zbm Tryz.call151 za0 ?_;rintro w0 O fix B ty hX x1 ⟨(s:List UInt8),(t:TokT),(l:List Nd),(b:Int),⟨⟩⟩ ⟨⟩ hp;have hI:=zaL (ty:=ty) (ty':=ty) hX rfl x1;have x0:pOk (s,t,l,b,()):=hp;change AWP _ _ _ _ _ ⟨[(0,pSelf)],pE ty s (t,b) l,2⟩ (pQ _ zsV ty (toX (λr=>(r.1,psX s r.2 l)) (zei s (t,b))));unfold zei;refine za (za (zaa zaj ?_));refine za (za (zae ?_));refine yZ 2 hX zaj zd5 rfl t_ rfl rfl x0 hI ?_;cases hm:gIs (t,b) zlA with
 |true=>
  rw[Bool.true_or];refine jp (Y':=⟨[(0,pSelf),(3,pSelf),(5,⟨.bool,true⟩)],pE ty s (t,b) l,2⟩) ⟨⟨rfl,rfl,zcH hm,t_⟩,⟨rfl,rfl,t_⟩,rfl,rfl⟩ ?_;refine za4 1 zaj ?_
  iterate 2 (refine qE 3 6 false .bool false rfl rfl rfl rfl rfl rfl ?_)
  refine yZ 1 hX zaj zd5 rfl id rfl rfl x0 hI ?_;refine yQ ?_;refine za (za (zae ?_));refine yZ 1 hX zaj zd5 rfl t_ rfl rfl x0 hI ?_;refine zaI zaj ?_;refine zaf rfl (λhb=>?_) (λhb=>?_)
  .have hb:eqb .str t.2.2.2.1 zfD=true:=hb;have hb:yB t=zfD:=zbs.1 hb;(repeat refine za (za (zaa zaj ?_)));refine za ?_;refine zp ⟨.inr rfl,⟨_,rfl,nd,1,_,rfl,rfl,rfl⟩,D1 ?_⟩;show(1:Int)=if yB t=zfD then 1 else 0
   rw[if_pos hb]
  .
   have hb:¬yB t=zfD:=λh=>by rw[zbs.2 h]at hb;cases hb
   (repeat refine za (za (zaa zaj ?_)));refine za ?_;refine zp ⟨.inr rfl,⟨_,rfl,nd,1,_,rfl,rfl,rfl⟩,D1 ?_⟩;show(0:Int)=if yB t=zfD then 1 else 0
   rw[if_neg hb]
 |false=>
  rw[qZ];refine jp (Y':=⟨[(0,pSelf),(3,pSelf),(5,⟨.bool,false⟩)],pE ty s (t,b) l,2⟩) ⟨⟨rfl,rfl,zcH hm,t_⟩,⟨rfl,rfl,t_⟩,rfl,rfl⟩ ?_
  iterate 2 (refine AL.take 1 hX zaj rfl t_ ?_;refine xE 3 6 false rfl rfl rfl rfl ?_)
  refine yZ 0 hX zaj zd5 rfl t_ rfl rfl x0 hI ?_;refine zax 1 hX zaj zd5 rfl t_ rfl rfl x0 hI (e:=zaH (t,b) (gIs (t,b) zfD) 3) rfl (λer h=>?_) (λa h=>?_)
  .rw[zal h];exact zhw
  rw[zao h];refine yQ ?_;refine za (za (zae ?_));refine yZ 1 hX zaj zd5 rfl t_ rfl rfl x0 hI ?_;refine zaI zaj ?_;refine zaf rfl (λhb=>?_) (λhb=>?_)
  .have hb:eqb .str t.2.2.2.1 zfD=true:=hb;have hb:yB t=zfD:=zbs.1 hb;(repeat refine za (za (zaa zaj ?_)));refine za ?_;refine zp ⟨.inr rfl,⟨_,rfl,nd,1,_,rfl,rfl,rfl⟩,D1 ?_⟩;show(1:Int)=if yB t=zfD then 1 else 0
   rw[if_pos hb]
  .
   have hb:¬yB t=zfD:=λh=>by rw[zbs.2 h]at hb;cases hb
   (repeat refine za (za (zaa zaj ?_)));refine za ?_;refine zp ⟨.inr rfl,⟨_,rfl,nd,1,_,rfl,rfl,rfl⟩,D1 ?_⟩;show(0:Int)=if yB t=zfD then 1 else 0
   rw[if_neg hb]
@[reducible] def cAdd:HCtr:=hP [nd] i64 (λx _=>[zi x.2.2.1<=100000]) λx xs=>.ok (((x.2.2.1.length:Nat):Int),psX x.1 (stOf x) (x.2.2.1++[xs.1]))
set_option maxHeartbeats 8000000 in
theorem zti:zaD zb gmH 106 cAdd:=by
 refine zb9 zaj Tryz.func106 zbm Tryz.call106 za0 ?_;rintro w0 O fix B ty hX hinv ⟨(s:List UInt8),(t:TokT),(l:List Nd),(b:Int),⟨⟩⟩ ⟨(m:Nd),⟨⟩⟩ hp;have hI:=zaL (ty:=ty) (ty':=ty) hX rfl hinv;obtain⟨hok,hl⟩:pOk (s,t,l,b,())/\l.length<=100000:=hp;refine za (za (zke hX zaj rfl ?_));have hcap:l.length+1<=1000000000:=o_;apply zaq;refine zlu (Y':=⟨[(0,pSelf)],pE ty s (t,b) (l++[m]),2⟩) dM 11 rfl (by kernel_rfl) ?_ ?_
 .repeat'(first|exact kg|refine vD ⟨_,rfl,?_⟩ ?_|refine zX hX zaj rfl t_ ?_|refine zX hX zaj rfl hcap ?_|(refine ve ?_;exact⟨rfl,⟨rfl,t_⟩,⟨rfl,rfl,t_⟩,rfl,rfl⟩))
 have q0:inR .i64 ((((l++[m]).length:Nat):Int)-1):=by rw[show(l++[m]).length=l.length+1 by simp];exact zad o_ o_
 refine za (za (zke hX zaj rfl ?_));refine zp ⟨.inr rfl,⟨_,rfl,nd,1,_,rfl,rfl,rfl⟩,D1 ?_⟩;rw[zg];simp
@[reducible] def zyg:HCtr:=hP [i64,i64,.bool] ints (λ_ xs=>[-1000<=xs.1,xs.1<=1000]) λx xs=>toX (λr=>(r.1,psX x.1 r.2 x.2.2.1)) (zdL x.1 (stOf x) xs.1 xs.2.1 xs.2.2.1)
def hLi:List (zV×HCtr):=[(104,cIs),(60,zi3),(64,zhi),(143,zhh)]
theorem zhC:HsOk zb gmH hLi:=.cons zuC<|.cons zfB<|.cons zgF<|.cons zgr .nil
@[reducible] def lS(ty:zo)(s:List UInt8)(l:List Nd)(lo hi:Int)(z:Bool)(st:GSt)(acc:List Int):AS:=
 ⟨[(0,pSelf),(1,⟨i64,lo⟩),(2,⟨i64,hi⟩),(3,⟨.bool,z⟩),(9,⟨.obuf i64,(2:Nat)⟩),(10,⟨i64,acc.getLast?.getD (lo-1)⟩)],[(0,some (pBox ty s st)),(1,some (.buf 46 nd l)),(2,some (.buf 3 i64 acc))],3⟩
theorem lt64(n:Nat):decide (((n:Nat):Int)<64)=decide (n<64):=by
 rw[zY,decide_eq_true_iff,decide_eq_true_iff];omega
theorem zxM{s:List UInt8}{lo hi:Int}{z:Bool}{j:Nat}{st:GSt}{acc:List Int}(h:(!acc.isEmpty&&gIs st zdi)=false):zcU s lo hi z (j+1) st acc=(zaH st (yJ st.1==3) 3 >>=λ_=>zaH st (decide (acc.length<64)) 2 >>=λ_=>zaH st (decide (jJ st.1>acc.getLast?.getD (lo-1))&&(z||(jJ st.1 != 0))) 1 >>=λ_=>zaO s st lo hi >>=λp=>zcU s lo hi z j p.2 (acc++[p.1])):=by
 rw[zcU,if_neg (by rw[h];decide)]
theorem zxm:zaD zb gmH 147 zyg:=by
 refine zb9 zaj Tryz.func147 zbm Tryz.call147 za0 ?_;rintro w0 O fix B ty hX x3 ⟨(s:List UInt8),(t:TokT),(l:List Nd),(b:Int),⟨⟩⟩ ⟨(lo:Int),(hi:Int),(z:Bool),⟨⟩⟩ hp;have hI:=zaL (ty:=ty) (ty':=ty) hX rfl x3;obtain⟨xa,xh,xg⟩:pOk (s,t,l,b,())/\ -1000<=lo/\lo<=1000:=hp;change AWP _ _ _ _ _ ⟨[(0,pSelf),(1,⟨i64,lo⟩),(2,⟨i64,hi⟩),(3,⟨.bool,z⟩)],pE ty s (t,b) l,2⟩ (pQ _ zyg ty (toX (λr=>(r.1,psX s r.2 l)) (zdL s (t,b) lo hi z)));unfold zdL;(repeat refine za (za (zaa zaj ?_)));refine za ?_;refine za (za (zae ?_));refine zax 1 hX zaj zhC rfl t_ rfl rfl xa hI (e:=za3 s (t,b) zgc) rfl (λer h=>?_) (λx9 h=>?_)
 .rw[zal h];exact zhw
 rw[zao h];have x4:GOk s x9:=(zby xa.1 h).1;have xj:s.length<=100000:=xa.2;refine yQ ?_;refine za (za ?_);refine zac hX zaj rfl ?_ ?_
 .exact zad o_ o_
 refine zhl hX 9 3 i64 rfl rfl rfl ?_;apply zay;refine xP (ι:=Nat×GSt×List Int) (λi=>lS ty s l lo hi z i.2.1 i.2.2) (λi=>zcU s lo hi z 66 x9 []=zcU s lo hi z i.1 i.2.1 i.2.2/\i.2.2.length+i.1=66/\GOk s i.2.1/\i.2.2.length<=64) (λi=>i.1) (66,x9,[]) ⟨rfl,rfl,x4,zk _⟩ ⟨⟨rfl,rfl,rfl,rfl,rfl,rfl,t_⟩,⟨rfl,rfl,rfl,t_⟩,rfl,rfl⟩ ?_;rintro ⟨k,st,acc⟩ ⟨xi,hk,xb,xd⟩;have x1:pOk (s,st.1,l,st.2,()):=⟨xb,xj⟩;have hk:acc.length+k=66:=hk;obtain⟨j,rfl⟩:∃j,k=j+1:=⟨k-1,by omega⟩;rw[xi];obtain⟨R,hR⟩:∃R,R=zcU s lo hi z (j+1) st acc:=⟨_,rfl⟩;rw[<-hR];have xe:=hR;apply zaq;by_cases x0:(!acc.isEmpty&&gIs st zdi)=true
 .obtain⟨xc,x6⟩:=(zf _ _).mp x0;have xf:R=.ok (acc,st):=hR.trans (if_pos x0);have hlen:(((acc.length:Nat):Int)==0)=false:=by
   cases acc with
   |nil=>cases xc
   |cons a r=>rw[zv];exact beq_false_of_ne o_
  apply zaq;refine zae ?_;refine za4 4 zaj ?_;refine jp (Y':=⟨[(0,pSelf),(9,⟨.obuf i64,(2:Nat)⟩),(18,⟨.bool,false⟩)],[(0,some (pBox ty s st)),(1,some (.buf 46 nd l)),(2,some (.buf 3 i64 acc))],3⟩) ⟨⟨rfl,rfl,zcH hlen,t_⟩,⟨rfl,rfl,rfl,t_⟩,rfl,rfl⟩ ?_;refine xE 3 18 false rfl rfl rfl rfl ?_;refine za4 1 zaj ?_;refine xE 3 18 false rfl rfl rfl rfl ?_;refine yZ 0 hX zaj zhC rfl t_ rfl rfl x1 hI ?_;refine xE 3 18 false rfl rfl rfl rfl ?_;refine zaI zaj ?_;refine zaf rfl (λhb=>?_) (λ_=>?_)
  .have hb:(!gIs st zdi)=true:=hb;rw[x6]at hb;cases hb
  apply zaw;rw[zao xf];refine zak (Y':=⟨[(0,pSelf),(9,⟨.obuf i64,(2:Nat)⟩)],[(0,some (pBox ty s st)),(1,some (.buf 46 nd l)),(2,some (.buf 3 i64 acc))],3⟩) ⟨⟨rfl,rfl,t_⟩,⟨rfl,rfl,rfl,t_⟩,rfl,rfl⟩ ?_;refine za (za (zae ?_));refine zax 1 hX zaj zhC rfl t_ rfl rfl x1 hI (e:=za3 s st zdi) rfl (λer h=>?_) (λx2 h=>?_)
  .rw[zal h];exact zhw
  rw[zao h];refine yQ ?_;refine AWP.frz hX 9 ?_;(repeat refine za (za (zaa zaj ?_)));refine za ?_;exact zp ⟨.inr rfl,⟨_,rfl,nd,1,_,rfl,rfl,rfl⟩,D1 rfl⟩
 have x0:(!acc.isEmpty&&gIs st zdi)=false:=by simpa using x0
 refine zbi (Y':=lS ty s l lo hi z st acc) ?_ ?_
 .apply zaq;refine zae ?_;refine za4 4 zaj ?_;cases acc with
  |nil=>
   refine jp (Y':=⟨[(0,pSelf),(1,⟨i64,lo⟩),(2,⟨i64,hi⟩),(3,⟨.bool,z⟩),(9,⟨.obuf i64,(2:Nat)⟩),(10,⟨i64,([]:List Int).getLast?.getD (lo-1)⟩),(18,⟨.bool,true⟩)],[(0,some (pBox ty s st)),(1,some (.buf 46 nd l)),(2,some (.buf 3 i64 []))],3⟩) ⟨⟨rfl,rfl,rfl,rfl,rfl,rfl,rfl,t_⟩,⟨rfl,rfl,rfl,t_⟩,rfl,rfl⟩ ?_
   iterate 3 (refine qE 3 18 false .bool false rfl rfl rfl rfl rfl rfl ?_)
   refine jz hX zaj rfl id ?_;refine zdo rfl ?_;apply zah;exact⟨⟨rfl,rfl,rfl,rfl,rfl,rfl,t_⟩,⟨rfl,rfl,rfl,t_⟩,rfl,rfl⟩
  |cons a r=>
   have x6:gIs st zdi=false:=x0;have hlen:(((((a::r:List Int)).length:Nat):Int)==0)=false:=by
    rw[zv];exact beq_false_of_ne o_
   refine jp (Y':=⟨[(0,pSelf),(1,⟨i64,lo⟩),(2,⟨i64,hi⟩),(3,⟨.bool,z⟩),(9,⟨.obuf i64,(2:Nat)⟩),(10,⟨i64,(a::r:List Int).getLast?.getD (lo-1)⟩),(18,⟨.bool,false⟩)],[(0,some (pBox ty s st)),(1,some (.buf 46 nd l)),(2,some (.buf 3 i64 (a::r)))],3⟩) ⟨⟨rfl,rfl,rfl,rfl,rfl,rfl,zcH hlen,t_⟩,⟨rfl,rfl,rfl,t_⟩,rfl,rfl⟩ ?_;refine xE 3 18 false rfl rfl rfl rfl ?_;refine za4 1 zaj ?_;refine xE 3 18 false rfl rfl rfl rfl ?_;refine yZ 0 hX zaj zhC rfl t_ rfl rfl x1 hI ?_;refine xE 3 18 false rfl rfl rfl rfl ?_;refine zaI zaj ?_;refine zaf rfl (λ_=>?_) (λhb=>?_)
   .apply zah;exact⟨⟨rfl,rfl,rfl,rfl,rfl,rfl,t_⟩,⟨rfl,rfl,rfl,t_⟩,rfl,rfl⟩
   .have hb:(!gIs st zdi)=false:=hb;rw[x6]at hb;cases hb
 have hR:=hR.trans (zxM x0);apply zaq;apply zay;refine za (za (zae ?_));refine zax 7 hX zaj zhC rfl t_ rfl rfl x1 hI (e:=zaH st (yJ st.1==3) 3) rfl (λer h=>?_) (λu1 h1=>?_)
 .rw[zal (hR.trans (by first|(rw[h];done)|(rw[h];rfl)))];exact rfl
 replace hR:=hR.trans (show _=_ by rw[h1])
 refine yQ ?_;refine zak (Y':=lS ty s l lo hi z st acc) ⟨⟨rfl,rfl,rfl,rfl,rfl,rfl,t_⟩,⟨rfl,rfl,rfl,t_⟩,rfl,rfl⟩ ?_;refine za (za (zae ?_));refine zax 4 hX zaj zhC rfl t_ rfl rfl x1 hI (e:=zaH st (decide (((acc.length:Nat):Int)<64)) 2) rfl (λer h=>?_) (λu2 h2=>?_)
 .rw[lt64]at h;rw[zal (hR.trans (by first|(rw[h];done)|(rw[h];rfl)))];exact rfl
 rw[lt64]at h2;have x5:=of_decide_eq_true (zbP h2)
 replace hR:=hR.trans (show _=_ by rw[h2])
 refine yQ ?_;refine zak (Y':=lS ty s l lo hi z st acc) ⟨⟨rfl,rfl,rfl,rfl,rfl,rfl,t_⟩,⟨rfl,rfl,rfl,t_⟩,rfl,rfl⟩ ?_;refine za (za (zae ?_));refine zax 19 hX zaj zhC rfl ?_ rfl rfl x1 hI (e:=zaH st (bif decide (jJ st.1>acc.getLast?.getD (lo-1)) then(bif z then true else !(jJ st.1==0)) else false) 1) rfl (λer h=>?_) (λu3 h3=>?_)
 .exact z_
 .rw[zcA,zi7]at h;rw[zal (hR.trans (by rw[show(jJ st.1 != 0)= !(jJ st.1==0) from rfl,h];first|done|rfl))];exact rfl
 rw[zcA,zi7]at h3
 replace hR:=hR.trans (show _=_ by rw[show(jJ st.1 != 0)= !(jJ st.1==0) from rfl,h3])
 refine yQ ?_;refine za (za (zae ?_));refine zax 4 hX zaj zhC rfl t_ rfl rfl x1 hI (e:=zaO s st lo hi) rfl (λer h=>?_) (λp h4=>?_)
 .rw[zal (hR.trans (by first|(rw[h];done)|(rw[h];rfl)))];exact rfl
 obtain⟨x,x2⟩:=p
 replace hR:=hR.trans (show _=zcU s lo hi z j x2 (acc++[x]) by rw[h4];rfl)
 have x7:=(zap xb h4).1.1;have x8:acc.length+1<=1000000000:=o_;refine jz hX zaj rfl x8 ?_;have xk:(acc++[x]).length=acc.length+1:=by simp
 have q0:inR .i64 ((((acc++[x]).length:Nat):Int)-1):=zad o_ o_;have q1:=o_;have q2:(((acc++[x]).length:Nat):Int)-1<(((acc++[x]).length:Nat):Int):=o_;have q3:((((acc++[x]).length:Nat):Int)-1).toNat<(acc++[x]).length:=o_;refine zak (Y':=⟨[(0,pSelf),(1,⟨i64,lo⟩),(2,⟨i64,hi⟩),(3,⟨.bool,z⟩),(9,⟨.obuf i64,(2:Nat)⟩)],[(0,some (pBox ty s x2)),(1,some (.buf 46 nd l)),(2,some (.buf 3 i64 (acc++[x])))],3⟩) ⟨⟨rfl,rfl,rfl,rfl,rfl,t_⟩,⟨rfl,rfl,rfl,t_⟩,rfl,rfl⟩ ?_;refine za (za (zaa zaj ?_));refine⟨(j,x2,acc++[x]),⟨xe▸hR,by show(acc++[x]).length+j=66;omega,x7,by show(acc++[x]).length<=64;omega⟩,qp j,⟨rfl,rfl,rfl,rfl,rfl,vI64 ?_,t_⟩,⟨rfl,rfl,rfl,t_⟩,rfl,rfl⟩;show(acc++[x]).getD ((((acc++[x]).length:Nat):Int)-1).toNat 0=(acc++[x]).getLast?.getD (lo-1);rw[show((((acc++[x]).length:Nat):Int)-1).toNat=acc.length by omega];simp
def hFd:List (zV×HCtr):=[(143,zhh),(150,zi4),(151,zsV),(147,zyg),(60,zi3)]
theorem zbW:HsOk zb gmH hFd:=.cons zgr<|.cons znN<|.cons ztK<|.cons zxm<|.cons zfB .nil
theorem nthT(a b:Bool):(bif !a then true else !b)=((!a)||(!b)):=by cases a<;>rfl
@[reducible] def zdO(w:LeafW):HCtr:=hP [] nd (λ_ _=>[]) λx _=>toX (λr=>(r.1,psX x.1 r.2 x.2.2.1)) (zdM x.1 (stOf x) w)
@[reducible] def zhg(w:SufW):HCtr:=hP [] nd (λ_ _=>[]) λx _=>toX (λr=>(r.1,psX x.1 r.2 x.2.2.1)) (gSuf x.1 (stOf x) w)
theorem zuN:zaD zb gmH 172 (zdO .days):=by
 refine zb9 zaj Tryz.func172 zbm Tryz.call172 za0 ?_;rintro w0 O fix B ty hX x4 ⟨(s:List UInt8),(t:TokT),(l:List Nd),(b:Int),⟨⟩⟩ ⟨⟩ hp;have hI:=zaL (ty:=ty) (ty':=ty) hX rfl x4;have x2:pOk (s,t,l,b,()):=hp;change AWP _ _ _ _ _ ⟨[(0,pSelf)],pE ty s (t,b) l,2⟩ (pQ _ (zdO .days) ty (toX (λr=>(r.1,psX s r.2 l)) (zdM s (t,b) .days)));unfold zdM;refine za (za (zaa zaj ?_));refine za (za (zae ?_));refine zax 1 hX zaj zbW rfl t_ rfl rfl x2 hI (e:=zaO s (t,b) 1 zdX) rfl (λer h=>?_) (λa0 h0=>?_)
 .rw[zal h];exact rfl
 rw[zao h0];obtain⟨x0,st0⟩:=a0;have x3:pOk (s,st0.1,l,st0.2,()):=⟨((zap x2.1 h0).1).1,x2.2⟩;refine zaI zaj ?_;refine zak (Y':=⟨[(0,pSelf),(2,⟨.optr nd,⟨2,nd,.here⟩⟩),(3,⟨i64,x0⟩)],[(0,some (pBox ty s st0)),(1,some (.buf 46 nd l)),(2,some (.box nd zNd))],3⟩) ⟨⟨rfl,rfl,rfl,t_⟩,⟨rfl,rfl,rfl,t_⟩,rfl,rfl⟩ ?_;refine za (za (zae ?_));refine zax 2 hX zaj zbW rfl t_ rfl rfl x3 hI (e:=zaO s st0 0 zdX) rfl (λer h=>?_) (λa1 h1=>?_)
 .rw[zal h];exact rfl
 rw[zao h1];obtain⟨x1,x5⟩:=a1;have x6:pOk (s,x5.1,l,x5.2,()):=⟨((zap x3.1 h1).1).1,x3.2⟩;refine zaI zaj ?_;exact zp ⟨.inr rfl,⟨_,rfl,nd,1,_,rfl,rfl,rfl⟩,D1 rfl⟩
theorem zsx:zaD zb gmH 173 (zdO .years):=by
 refine zb9 zaj Tryz.func173 zbm Tryz.call173 za0 ?_;rintro w0 O fix B ty hX x7 ⟨(s:List UInt8),(t:TokT),(l:List Nd),(b:Int),⟨⟩⟩ ⟨⟩ hp;have hI:=zaL (ty:=ty) (ty':=ty) hX rfl x7;have x4:pOk (s,t,l,b,()):=hp;change AWP _ _ _ _ _ ⟨[(0,pSelf)],pE ty s (t,b) l,2⟩ (pQ _ (zdO .years) ty (toX (λr=>(r.1,psX s r.2 l)) (zdM s (t,b) .years)));unfold zdM;refine za (za (zaa zaj ?_));refine za (za (zae ?_));refine zax 1 hX zaj zbW rfl t_ rfl rfl x4 hI (e:=gCal s (t,b)) rfl (λer h=>?_) (λa0 h0=>?_)
 .rw[zal h];exact rfl
 rw[zao h0];obtain⟨x0,st0⟩:=a0;have x3:pOk (s,st0.1,l,st0.2,()):=⟨((zap x4.1 h0).1).1,x4.2⟩;refine zaI zaj ?_;refine zak (Y':=⟨[(0,pSelf),(2,⟨.optr nd,⟨2,nd,.here⟩⟩),(3,⟨.optr nd,⟨3,nd,.here⟩⟩)],[(0,some (pBox ty s st0)),(1,some (.buf 46 nd l)),(2,some (.box nd zNd)),(3,some (.box nd (2,x0,0,0,0,0,[],[],())))],4⟩) ⟨⟨rfl,rfl,rfl,t_⟩,⟨rfl,rfl,rfl,rfl,t_⟩,rfl,rfl⟩ ?_;refine za (za (zae ?_));refine zax 1 hX zaj zbW rfl t_ rfl rfl x3 hI (e:=zaO s st0 1 400) rfl (λer h=>?_) (λa1 h1=>?_)
 .rw[zal h];exact rfl
 rw[zao h1];obtain⟨x1,x6⟩:=a1;have x5:pOk (s,x6.1,l,x6.2,()):=⟨((zap x3.1 h1).1).1,x3.2⟩;refine zaI zaj ?_;refine zak (Y':=⟨[(0,pSelf),(2,⟨.optr nd,⟨2,nd,.here⟩⟩),(3,⟨.optr nd,⟨3,nd,.here⟩⟩)],[(0,some (pBox ty s x6)),(1,some (.buf 46 nd l)),(2,some (.box nd zNd)),(3,some (.box nd (2,x0,0,0,x1,0,[],[],())))],4⟩) ⟨⟨rfl,rfl,rfl,t_⟩,⟨rfl,rfl,rfl,rfl,t_⟩,rfl,rfl⟩ ?_;refine za (za (zae ?_));have xb:=(zap x3.1 h1).2;have xa:inR .i64 (x1-1):=zad o_ o_;refine zax 4 hX zaj zbW rfl xa rfl rfl x5 hI (e:=zaO s x6 0 (x1-1)) rfl (λer h=>?_) (λa2 h2=>?_)
 .rw[zal h];exact rfl
 rw[zao h2];obtain⟨x2,x8⟩:=a2;have x9:pOk (s,x8.1,l,x8.2,()):=⟨((zap x5.1 h2).1).1,x5.2⟩;refine zaI zaj ?_;(repeat refine za (za (zaa zaj ?_)));refine za ?_;exact zp ⟨.inr rfl,⟨_,rfl,nd,1,_,rfl,rfl,rfl⟩,D1 rfl⟩
theorem zqa:zaD zb gmH 174 (zdO .months):=by
 refine zb9 zaj Tryz.func174 zbm Tryz.call174 za0 ?_;rintro w0 O fix B ty hX x4 ⟨(s:List UInt8),(t:TokT),(l:List Nd),(b:Int),⟨⟩⟩ ⟨⟩ hp;have hI:=zaL (ty:=ty) (ty':=ty) hX rfl x4;have x2:pOk (s,t,l,b,()):=hp;change AWP _ _ _ _ _ ⟨[(0,pSelf)],pE ty s (t,b) l,2⟩ (pQ _ (zdO .months) ty (toX (λr=>(r.1,psX s r.2 l)) (zdM s (t,b) .months)));unfold zdM;refine za (za (zaa zaj ?_));refine za (za (zae ?_));refine zax 1 hX zaj zbW rfl t_ rfl rfl x2 hI (e:=gCal s (t,b)) rfl (λer h=>?_) (λa0 h0=>?_)
 .rw[zal h];exact rfl
 rw[zao h0];obtain⟨x0,st0⟩:=a0;have x3:pOk (s,st0.1,l,st0.2,()):=⟨((zap x2.1 h0).1).1,x2.2⟩;refine zaI zaj ?_;refine zak (Y':=⟨[(0,pSelf),(2,⟨.optr nd,⟨2,nd,.here⟩⟩),(3,⟨i64,x0⟩)],[(0,some (pBox ty s st0)),(1,some (.buf 46 nd l)),(2,some (.box nd zNd))],3⟩) ⟨⟨rfl,rfl,rfl,t_⟩,⟨rfl,rfl,rfl,t_⟩,rfl,rfl⟩ ?_;refine za (za (zae ?_));refine zax 2 hX zaj zbW rfl t_ rfl rfl ⟨x3,(by decide:(-1000:Int)<=1),(by decide:(1:Int)<=1000)⟩ hI (e:=zdL s st0 1 16 true) rfl (λer h=>?_) (λa1 h1=>?_)
 .rw[zal h];exact rfl
 rw[zao h1];obtain⟨x1,x5⟩:=a1;have x6:pOk (s,x5.1,l,x5.2,()):=⟨(zb4 x3.1 h1).1,x3.2⟩;refine zaI zaj ?_;exact zp ⟨.inr rfl,⟨_,rfl,nd,1,_,rfl,rfl,rfl⟩,D1 rfl⟩
theorem zk7:zaD zb gmH 175 (zdO .monthdays):=by
 refine zb9 zaj Tryz.func175 zbm Tryz.call175 za0 ?_;rintro w0 O fix B ty hX x4 ⟨(s:List UInt8),(t:TokT),(l:List Nd),(b:Int),⟨⟩⟩ ⟨⟩ hp;have hI:=zaL (ty:=ty) (ty':=ty) hX rfl x4;have x2:pOk (s,t,l,b,()):=hp;change AWP _ _ _ _ _ ⟨[(0,pSelf)],pE ty s (t,b) l,2⟩ (pQ _ (zdO .monthdays) ty (toX (λr=>(r.1,psX s r.2 l)) (zdM s (t,b) .monthdays)));unfold zdM;refine za (za (zaa zaj ?_));refine za (za (zae ?_));refine zax 1 hX zaj zbW rfl t_ rfl rfl x2 hI (e:=gCal s (t,b)) rfl (λer h=>?_) (λa0 h0=>?_)
 .rw[zal h];exact rfl
 rw[zao h0];obtain⟨x0,st0⟩:=a0;have x3:pOk (s,st0.1,l,st0.2,()):=⟨((zap x2.1 h0).1).1,x2.2⟩;refine zaI zaj ?_;refine zak (Y':=⟨[(0,pSelf),(2,⟨.optr nd,⟨2,nd,.here⟩⟩),(3,⟨i64,x0⟩)],[(0,some (pBox ty s st0)),(1,some (.buf 46 nd l)),(2,some (.box nd zNd))],3⟩) ⟨⟨rfl,rfl,rfl,t_⟩,⟨rfl,rfl,rfl,t_⟩,rfl,rfl⟩ ?_;refine za (za (zae ?_));refine zax 2 hX zaj zbW rfl t_ rfl rfl ⟨x3,(by decide:(-1000:Int)<=(-40)),(by decide:((-40):Int)<=1000)⟩ hI (e:=zdL s st0 (-40) 40 false) rfl (λer h=>?_) (λa1 h1=>?_)
 .rw[zal h];exact rfl
 rw[zao h1];obtain⟨x1,x5⟩:=a1;have x6:pOk (s,x5.1,l,x5.2,()):=⟨(zb4 x3.1 h1).1,x3.2⟩;refine zaI zaj ?_;exact zp ⟨.inr rfl,⟨_,rfl,nd,1,_,rfl,rfl,rfl⟩,D1 rfl⟩
theorem zsz:zaD zb gmH 177 (zdO .weeks):=by
 refine zb9 zaj Tryz.func177 zbm Tryz.call177 za0 ?_;rintro w0 O fix B ty hX x4 ⟨(s:List UInt8),(t:TokT),(l:List Nd),(b:Int),⟨⟩⟩ ⟨⟩ hp;have hI:=zaL (ty:=ty) (ty':=ty) hX rfl x4;have x2:pOk (s,t,l,b,()):=hp;change AWP _ _ _ _ _ ⟨[(0,pSelf)],pE ty s (t,b) l,2⟩ (pQ _ (zdO .weeks) ty (toX (λr=>(r.1,psX s r.2 l)) (zdM s (t,b) .weeks)));unfold zdM;refine za (za (zaa zaj ?_));refine za (za (zae ?_));refine zax 1 hX zaj zbW rfl t_ rfl rfl x2 hI (e:=gCal s (t,b)) rfl (λer h=>?_) (λa0 h0=>?_)
 .rw[zal h];exact rfl
 rw[zao h0];obtain⟨x0,st0⟩:=a0;have x3:pOk (s,st0.1,l,st0.2,()):=⟨((zap x2.1 h0).1).1,x2.2⟩;refine zaI zaj ?_;refine zak (Y':=⟨[(0,pSelf),(2,⟨.optr nd,⟨2,nd,.here⟩⟩),(3,⟨i64,x0⟩)],[(0,some (pBox ty s st0)),(1,some (.buf 46 nd l)),(2,some (.box nd zNd))],3⟩) ⟨⟨rfl,rfl,rfl,t_⟩,⟨rfl,rfl,rfl,t_⟩,rfl,rfl⟩ ?_;refine za (za (zae ?_));refine zax 2 hX zaj zbW rfl t_ rfl rfl ⟨x3,(by decide:(-1000:Int)<=1),(by decide:(1:Int)<=1000)⟩ hI (e:=zdL s st0 1 54 true) rfl (λer h=>?_) (λa1 h1=>?_)
 .rw[zal h];exact rfl
 rw[zao h1];obtain⟨x1,x5⟩:=a1;have x6:pOk (s,x5.1,l,x5.2,()):=⟨(zb4 x3.1 h1).1,x3.2⟩;refine zaI zaj ?_;exact zp ⟨.inr rfl,⟨_,rfl,nd,1,_,rfl,rfl,rfl⟩,D1 rfl⟩
theorem zmu:zaD zb gmH 176 (zdO .weekdays):=by
 refine zb9 zaj Tryz.func176 zbm Tryz.call176 za0 ?_;rintro w0 O fix B ty hX x2 ⟨(s:List UInt8),(t:TokT),(l:List Nd),(b:Int),⟨⟩⟩ ⟨⟩ hp;have hI:=zaL (ty:=ty) (ty':=ty) hX rfl x2;have x1:pOk (s,t,l,b,()):=hp;change AWP _ _ _ _ _ ⟨[(0,pSelf)],pE ty s (t,b) l,2⟩ (pQ _ (zdO .weekdays) ty (toX (λr=>(r.1,psX s r.2 l)) (zdM s (t,b) .weekdays)));unfold zdM;refine za (za (zaa zaj ?_));refine za (za (zae ?_));refine zax 1 hX zaj zbW rfl t_ rfl rfl ⟨x1,(by decide:(-1000:Int)<=0),(by decide:(0:Int)<=1000)⟩ hI (e:=zdL s (t,b) 0 6 true) rfl (λer h=>?_) (λa0 h0=>?_)
 .rw[zal h];exact rfl
 rw[zao h0];obtain⟨x0,st0⟩:=a0;have x3:pOk (s,st0.1,l,st0.2,()):=⟨(zb4 x1.1 h0).1,x1.2⟩;refine zaI zaj ?_;exact zp ⟨.inr rfl,⟨_,rfl,nd,1,_,rfl,rfl,rfl⟩,D1 rfl⟩
theorem zx2:zaD zb gmH 178 (zdO .nth):=by
 refine zb9 zaj Tryz.func178 zbm Tryz.call178 za0 ?_;rintro w0 O fix B ty hX hinv ⟨(s:List UInt8),(t:TokT),(l:List Nd),(b:Int),⟨⟩⟩ ⟨⟩ hp;have hI:=zaL (ty:=ty) (ty':=ty) hX rfl hinv;have hok0:pOk (s,t,l,b,()):=hp;change AWP _ _ _ _ _ ⟨[(0,pSelf)],pE ty s (t,b) l,2⟩ (pQ _ (zdO .nth) ty (toX (λr=>(r.1,psX s r.2 l)) (zdM s (t,b) .nth)));unfold zdM;refine za (za (zke hX zaj rfl ?_));refine za (za (zae ?_));refine zax 1 hX zaj zbW rfl t_ rfl rfl hok0 hI (e:=gCal s (t,b)) rfl (λer h=>?_) (λa0 h0=>?_)
 .rw[zal h];exact rfl
 rw[zao h0];obtain⟨x0,st0⟩:=a0;have hok1:pOk (s,st0.1,l,st0.2,()):=⟨((zap hok0.1 h0).1).1,hok0.2⟩;refine jz hX zaj rfl t_ ?_;refine zak (Y':=⟨[(0,pSelf),(2,⟨.optr nd,⟨2,nd,.here⟩⟩),(3,⟨.optr nd,⟨3,nd,.here⟩⟩)],[(0,some (pBox ty s st0)),(1,some (.buf 46 nd l)),(2,some (.box nd zNd)),(3,some (.box nd (7,x0,0,0,0,0,[],[],())))],4⟩) ⟨⟨rfl,rfl,rfl,t_⟩,⟨rfl,rfl,rfl,rfl,t_⟩,rfl,rfl⟩ ?_;refine za (za (zae ?_));refine zax 15 hX zaj zbW rfl ?_ rfl rfl hok1 hI (e:=zaH st0 (bif !(yJ st0.1==3) then true else !(jJ st0.1==0)) 1) rfl (λer h=>?_) (λu1 h1=>?_)
 .exact z_
 .rw[nthT]at h;rw[zal (show zaH st0 ((yJ st0.1 != 3)||(jJ st0.1 != 0)) 1=_ from h)];exact rfl
 rw[nthT]at h1;rw[zao (show zaH st0 ((yJ st0.1 != 3)||(jJ st0.1 != 0)) 1=_ from h1)];refine yQ ?_;refine zak (Y':=⟨[(0,pSelf),(2,⟨.optr nd,⟨2,nd,.here⟩⟩),(3,⟨.optr nd,⟨3,nd,.here⟩⟩)],[(0,some (pBox ty s st0)),(1,some (.buf 46 nd l)),(2,some (.box nd zNd)),(3,some (.box nd (7,x0,0,0,0,0,[],[],())))],4⟩) ⟨⟨rfl,rfl,rfl,t_⟩,⟨rfl,rfl,rfl,rfl,t_⟩,rfl,rfl⟩ ?_;refine za (za (zae ?_));refine zax 1 hX zaj zbW rfl t_ rfl rfl hok1 hI (e:=zaO s st0 (-60) 60) rfl (λer h=>?_) (λa2 h2=>?_)
 .rw[zal h];exact rfl
 rw[zao h2];obtain⟨x2,st2⟩:=a2;have hok2:pOk (s,st2.1,l,st2.2,()):=⟨((zap hok1.1 h2).1).1,hok1.2⟩;refine jz hX zaj rfl t_ ?_;refine zak (Y':=⟨[(0,pSelf),(2,⟨.optr nd,⟨2,nd,.here⟩⟩),(3,⟨.optr nd,⟨3,nd,.here⟩⟩)],[(0,some (pBox ty s st2)),(1,some (.buf 46 nd l)),(2,some (.box nd zNd)),(3,some (.box nd (7,x0,0,0,x2,0,[],[],())))],4⟩) ⟨⟨rfl,rfl,rfl,t_⟩,⟨rfl,rfl,rfl,rfl,t_⟩,rfl,rfl⟩ ?_;refine za (za (zae ?_));refine zax 1 hX zaj zbW rfl t_ rfl rfl hok2 hI (e:=zaO s st2 0 6) rfl (λer h=>?_) (λa3 h3=>?_)
 .rw[zal h];exact rfl
 rw[zao h3];obtain⟨x3,st3⟩:=a3;have hok3:pOk (s,st3.1,l,st3.2,()):=⟨((zap hok2.1 h3).1).1,hok2.2⟩;refine jz hX zaj rfl t_ ?_;refine zak (Y':=⟨[(0,pSelf),(2,⟨.optr nd,⟨2,nd,.here⟩⟩),(3,⟨.optr nd,⟨3,nd,.here⟩⟩)],[(0,some (pBox ty s st3)),(1,some (.buf 46 nd l)),(2,some (.box nd zNd)),(3,some (.box nd (7,x0,0,0,x2,x3,[],[],())))],4⟩) ⟨⟨rfl,rfl,rfl,t_⟩,⟨rfl,rfl,rfl,rfl,t_⟩,rfl,rfl⟩ ?_;refine za (za (zae ?_));refine zax 1 hX zaj zbW rfl t_ rfl rfl hok3 hI (e:=zei s st3) rfl (λer h=>?_) (λa4 h4=>?_)
 .rw[zal h];exact rfl
 rw[zao h4];obtain⟨x4,st4⟩:=a4;have hok4:pOk (s,st4.1,l,st4.2,()):=⟨(zfd hok3.1 h4).1,hok3.2⟩;refine jz hX zaj rfl t_ ?_;refine zak (Y':=⟨[(0,pSelf),(2,⟨.optr nd,⟨2,nd,.here⟩⟩),(3,⟨.optr nd,⟨3,nd,.here⟩⟩)],[(0,some (pBox ty s st4)),(1,some (.buf 46 nd l)),(2,some (.box nd zNd)),(3,some (.box nd (7,x0,x4,0,x2,x3,[],[],())))],4⟩) ⟨⟨rfl,rfl,rfl,t_⟩,⟨rfl,rfl,rfl,rfl,t_⟩,rfl,rfl⟩ ?_;(repeat refine za (za (zke hX zaj rfl ?_)));refine za ?_;exact zp ⟨.inr rfl,⟨_,rfl,nd,1,_,rfl,rfl,rfl⟩,D1 rfl⟩
theorem zsB:zaD zb gmH 142 (zhg .shift):=by
 refine zb9 zaj Tryz.func142 zbm Tryz.call142 za0 ?_;rintro w0 O fix B ty hX x2 ⟨(s:List UInt8),(t:TokT),(l:List Nd),(b:Int),⟨⟩⟩ ⟨⟩ hp;have hI:=zaL (ty:=ty) (ty':=ty) hX rfl x2;have x1:pOk (s,t,l,b,()):=hp;change AWP _ _ _ _ _ ⟨[(0,pSelf)],pE ty s (t,b) l,2⟩ (pQ _ (zhg .shift) ty (toX (λr=>(r.1,psX s r.2 l)) (gSuf s (t,b) .shift)));unfold gSuf;refine za (za (zaa zaj ?_));refine za (za (zae ?_));refine zax 1 hX zaj zbW rfl t_ rfl rfl x1 hI (e:=zaO s (t,b) (-zdX) zdX) rfl (λer h=>?_) (λa0 h0=>?_)
 .rw[zal h];exact rfl
 rw[zao h0];obtain⟨x0,st0⟩:=a0;have x3:pOk (s,st0.1,l,st0.2,()):=⟨((zap x1.1 h0).1).1,x1.2⟩;refine zaI zaj ?_;exact zp ⟨.inr rfl,⟨_,rfl,nd,1,_,rfl,rfl,rfl⟩,D1 rfl⟩
theorem zuM:zaD zb gmH 144 (zhg .from_):=by
 refine zb9 zaj Tryz.func144 zbm Tryz.call144 za0 ?_;rintro w0 O fix B ty hX x2 ⟨(s:List UInt8),(t:TokT),(l:List Nd),(b:Int),⟨⟩⟩ ⟨⟩ hp;have hI:=zaL (ty:=ty) (ty':=ty) hX rfl x2;have x1:pOk (s,t,l,b,()):=hp;change AWP _ _ _ _ _ ⟨[(0,pSelf)],pE ty s (t,b) l,2⟩ (pQ _ (zhg .from_) ty (toX (λr=>(r.1,psX s r.2 l)) (gSuf s (t,b) .from_)));unfold gSuf;refine za (za (zaa zaj ?_));refine za (za (zae ?_));refine zax 1 hX zaj zbW rfl t_ rfl rfl x1 hI (e:=zaO s (t,b) 0 zdX) rfl (λer h=>?_) (λa0 h0=>?_)
 .rw[zal h];exact rfl
 rw[zao h0];obtain⟨x0,st0⟩:=a0;have x3:pOk (s,st0.1,l,st0.2,()):=⟨((zap x1.1 h0).1).1,x1.2⟩;refine zaI zaj ?_;exact zp ⟨.inr rfl,⟨_,rfl,nd,1,_,rfl,rfl,rfl⟩,D1 rfl⟩
theorem zsA:zaD zb gmH 145 (zhg .until_):=by
 refine zb9 zaj Tryz.func145 zbm Tryz.call145 za0 ?_;rintro w0 O fix B ty hX x2 ⟨(s:List UInt8),(t:TokT),(l:List Nd),(b:Int),⟨⟩⟩ ⟨⟩ hp;have hI:=zaL (ty:=ty) (ty':=ty) hX rfl x2;have x1:pOk (s,t,l,b,()):=hp;change AWP _ _ _ _ _ ⟨[(0,pSelf)],pE ty s (t,b) l,2⟩ (pQ _ (zhg .until_) ty (toX (λr=>(r.1,psX s r.2 l)) (gSuf s (t,b) .until_)));unfold gSuf;refine za (za (zaa zaj ?_));refine za (za (zae ?_));refine zax 1 hX zaj zbW rfl t_ rfl rfl x1 hI (e:=zaO s (t,b) 0 zdX) rfl (λer h=>?_) (λa0 h0=>?_)
 .rw[zal h];exact rfl
 rw[zao h0];obtain⟨x0,st0⟩:=a0;have x3:pOk (s,st0.1,l,st0.2,()):=⟨((zap x1.1 h0).1).1,x1.2⟩;refine zaI zaj ?_;exact zp ⟨.inr rfl,⟨_,rfl,nd,1,_,rfl,rfl,rfl⟩,D1 rfl⟩
theorem zuO:zaD zb gmH 146 (zhg .also):=by
 refine zb9 zaj Tryz.func146 zbm Tryz.call146 za0 ?_;rintro w0 O fix B ty hX x2 ⟨(s:List UInt8),(t:TokT),(l:List Nd),(b:Int),⟨⟩⟩ ⟨⟩ hp;have hI:=zaL (ty:=ty) (ty':=ty) hX rfl x2;have x1:pOk (s,t,l,b,()):=hp;change AWP _ _ _ _ _ ⟨[(0,pSelf)],pE ty s (t,b) l,2⟩ (pQ _ (zhg .also) ty (toX (λr=>(r.1,psX s r.2 l)) (gSuf s (t,b) .also)));unfold gSuf;refine za (za (zaa zaj ?_));refine za (za (zae ?_));refine zax 1 hX zaj zbW rfl t_ rfl rfl ⟨x1,(by decide:(-1000:Int)<=0),(by decide:(0:Int)<=1000)⟩ hI (e:=zdL s (t,b) 0 zdX true) rfl (λer h=>?_) (λa0 h0=>?_)
 .rw[zal h];exact rfl
 rw[zao h0];obtain⟨x0,st0⟩:=a0;have x3:pOk (s,st0.1,l,st0.2,()):=⟨(zb4 x1.1 h0).1,x1.2⟩;refine zaI zaj ?_;exact zp ⟨.inr rfl,⟨_,rfl,nd,1,_,rfl,rfl,rfl⟩,D1 rfl⟩
theorem zqb:zaD zb gmH 148 (zhg .except_):=by
 refine zb9 zaj Tryz.func148 zbm Tryz.call148 za0 ?_;rintro w0 O fix B ty hX x2 ⟨(s:List UInt8),(t:TokT),(l:List Nd),(b:Int),⟨⟩⟩ ⟨⟩ hp;have hI:=zaL (ty:=ty) (ty':=ty) hX rfl x2;have x1:pOk (s,t,l,b,()):=hp;change AWP _ _ _ _ _ ⟨[(0,pSelf)],pE ty s (t,b) l,2⟩ (pQ _ (zhg .except_) ty (toX (λr=>(r.1,psX s r.2 l)) (gSuf s (t,b) .except_)));unfold gSuf;refine za (za (zaa zaj ?_));refine za (za (zae ?_));refine zax 1 hX zaj zbW rfl t_ rfl rfl ⟨x1,(by decide:(-1000:Int)<=0),(by decide:(0:Int)<=1000)⟩ hI (e:=zdL s (t,b) 0 zdX true) rfl (λer h=>?_) (λa0 h0=>?_)
 .rw[zal h];exact rfl
 rw[zao h0];obtain⟨x0,st0⟩:=a0;have x3:pOk (s,st0.1,l,st0.2,()):=⟨(zb4 x1.1 h0).1,x1.2⟩;refine zaI zaj ?_;exact zp ⟨.inr rfl,⟨_,rfl,nd,1,_,rfl,rfl,rfl⟩,D1 rfl⟩
theorem zx1:zaD zb gmH 149 (zhg .pos):=by
 refine zb9 zaj Tryz.func149 zbm Tryz.call149 za0 ?_;rintro w0 O fix B ty hX hinv ⟨(s:List UInt8),(t:TokT),(l:List Nd),(b:Int),⟨⟩⟩ ⟨⟩ hp;have hI:=zaL (ty:=ty) (ty':=ty) hX rfl hinv;have hok0:pOk (s,t,l,b,()):=hp;change AWP _ _ _ _ _ ⟨[(0,pSelf)],pE ty s (t,b) l,2⟩ (pQ _ (zhg .pos) ty (toX (λr=>(r.1,psX s r.2 l)) (gSuf s (t,b) .pos)));unfold gSuf;refine za (za (zke hX zaj rfl ?_));refine za (za (zae ?_));refine zax 1 hX zaj zbW rfl t_ rfl rfl hok0 hI (e:=gCal s (t,b)) rfl (λer h=>?_) (λa0 h0=>?_)
 .rw[zal h];exact rfl
 rw[zao h0];obtain⟨x0,st0⟩:=a0;have hok1:pOk (s,st0.1,l,st0.2,()):=⟨((zap hok0.1 h0).1).1,hok0.2⟩;refine jz hX zaj rfl t_ ?_;refine zak (Y':=⟨[(0,pSelf),(2,⟨.optr nd,⟨2,nd,.here⟩⟩),(3,⟨.optr nd,⟨3,nd,.here⟩⟩)],[(0,some (pBox ty s st0)),(1,some (.buf 46 nd l)),(2,some (.box nd zNd)),(3,some (.box nd (16,x0,0,0,0,0,[],[],())))],4⟩) ⟨⟨rfl,rfl,rfl,t_⟩,⟨rfl,rfl,rfl,rfl,t_⟩,rfl,rfl⟩ ?_;refine za (za (zae ?_));refine zax 1 hX zaj zbW rfl t_ rfl rfl hok1 hI (e:=zei s st0) rfl (λer h=>?_) (λa1 h1=>?_)
 .rw[zal h];exact rfl
 rw[zao h1];obtain⟨x1,st1⟩:=a1;have hok2:pOk (s,st1.1,l,st1.2,()):=⟨(zfd hok1.1 h1).1,hok1.2⟩;refine jz hX zaj rfl t_ ?_;refine zak (Y':=⟨[(0,pSelf),(2,⟨.optr nd,⟨2,nd,.here⟩⟩),(3,⟨.optr nd,⟨3,nd,.here⟩⟩)],[(0,some (pBox ty s st1)),(1,some (.buf 46 nd l)),(2,some (.box nd zNd)),(3,some (.box nd (16,x0,0,0,0,x1,[],[],())))],4⟩) ⟨⟨rfl,rfl,rfl,t_⟩,⟨rfl,rfl,rfl,rfl,t_⟩,rfl,rfl⟩ ?_;refine za (za (zae ?_));refine zax 1 hX zaj zbW rfl t_ rfl rfl ⟨hok2,(by decide:(-1000:Int)<=(-400)),(by decide:((-400):Int)<=1000)⟩ hI (e:=zdL s st1 (-400) 400 false) rfl (λer h=>?_) (λa2 h2=>?_)
 .rw[zal h];exact rfl
 rw[zao h2];obtain⟨x2,st2⟩:=a2;have hok3:pOk (s,st2.1,l,st2.2,()):=⟨(zb4 hok2.1 h2).1,hok2.2⟩;refine jz hX zaj rfl t_ ?_;refine zak (Y':=⟨[(0,pSelf),(2,⟨.optr nd,⟨2,nd,.here⟩⟩),(3,⟨.optr nd,⟨3,nd,.here⟩⟩)],[(0,some (pBox ty s st2)),(1,some (.buf 46 nd l)),(2,some (.box nd zNd)),(3,some (.box nd (16,x0,0,0,0,x1,x2,[],())))],4⟩) ⟨⟨rfl,rfl,rfl,t_⟩,⟨rfl,rfl,rfl,rfl,t_⟩,rfl,rfl⟩ ?_;(repeat refine za (za (zke hX zaj rfl ?_)));refine za ?_;exact zp ⟨.inr rfl,⟨_,rfl,nd,1,_,rfl,rfl,rfl⟩,D1 rfl⟩
def fnV(f:zV):zd:=.func (.func f) #[] #[]
def zdl:LeafW->zd
 |.days=>fnV 172
 |.years=>fnV 173
 |.months=>fnV 174
 |.monthdays=>fnV 175
 |.weekdays=>fnV 176
 |.weeks=>fnV 177
 |.nth=>fnV 178
def zfF:SufW->zd
 |.shift=>fnV 142
 |.from_=>fnV 144
 |.until_=>fnV 145
 |.also=>fnV 146
 |.except_=>fnV 148
 |.pos=>fnV 149
 |.behind=>fnV 152
def strV(w:List UInt8):zd:=.string ⟨w.toArray⟩
def zma:List (zd×zd):=[(strV zlC,zdl .days),(strV zho,zdl .years),(strV zct,zdl .months),(strV zbe,zdl .monthdays),(strV zbo,zdl .weekdays),(strV zdA,zdl .weeks),(strV wNth,zdl .nth)]
def zif:List (zd×zd):=[(strV zfK,zfF .shift),(strV zjj,zfF .from_),(strV zfJ,zfF .until_),(strV zfY,zfF .also),(strV zcu,zfF .except_),(strV wPos,zfF .pos),(strV zbY,zfF .behind)]
theorem ztc(a b:ByteArray):(a==b)=(a.toList==b.toList):=by
 rw[jf,jf];show(a.data==b.data)=(a.data.toList==b.data.toList);rw[zY,beq_iff_eq,beq_iff_eq];exact⟨λh=>by rw[h],λh=>Array.toList_inj.1 h⟩
theorem zj8(w k:List UInt8)(v:zd)(es:List (zd×zd)):zgD .string (strV w) ((strV k,v)::es)=if w=k then some (some v) else zgD .string (strV w) es:=by
 rw[zgD];have e:Instr.sameNow .string (strV w) (strV k)=some (decide (w=k)):=by
  show some ((⟨w.toArray⟩:ByteArray)==⟨k.toArray⟩)=_
  congr 1
  rw[ztc,zfj,zek]
 rw[show(strV k,v).1=strV k from rfl,e];by_cases h:w=k
 .rw[if_pos h,decide_eq_true h]
 .rw[if_neg h,decide_eq_false h]
theorem zr0(w:List UInt8):zgD .string (strV w) zma=some ((zhL w).map zdl):=by
 unfold zma zhL
 iterate 7 (rw[zj8];split; · rfl)
 rfl
theorem ztD(w:List UInt8):zgD .string (strV w) zif=some ((sufW w).map zfF):=by
 unfold zif sufW
 iterate 7 (rw[zj8];split; · rfl)
 rfl
def zsZ:Ctr:={ args:=[],pre:=λ_=>[],res:=.mapL,own:=none,out:=λ_=>zma }
def zmA:Ctr:={ args:=[],pre:=λ_=>[],res:=.mapL,own:=none,out:=λ_=>zif }
theorem zrX:yT zb gmH 141 zsZ:=by
 refine ctr2 zaj Tryz.func141 Tryz.call141 ?_;rintro w0 X hX _ hp;apply zaq;refine za (za (zaa zaj ?_));refine za (za (zae ?_));refine zmP hX kU qP rfl zma (ins:=[_,_,_,_,_,_,_]) rfl rfl rfl rfl (.cons rfl (λ_=>rfl) (λ_=>rfl) rfl rfl<|.cons rfl (λ_=>rfl) (λ_=>rfl) rfl rfl<|.cons rfl (λ_=>rfl) (λ_=>rfl) rfl rfl<|.cons rfl (λ_=>rfl) (λ_=>rfl) rfl rfl<|.cons rfl (λ_=>rfl) (λ_=>rfl) rfl rfl<|.cons rfl (λ_=>rfl) (λ_=>rfl) rfl rfl<|.cons rfl (λ_=>rfl) (λ_=>rfl) rfl rfl rfl) ⟨rfl,rfl,rfl,rfl,rfl,rfl,rfl,t_⟩ ?_;refine zaI zaj ?_;refine za (za ?_);exact zp ⟨.inr rfl,D1 rfl⟩
theorem zmX:yT zb gmH 125 zmA:=by
 refine ctr2 zaj Tryz.func125 Tryz.call125 ?_;rintro w0 X hX _ hp;apply zaq;refine za (za (zaa zaj ?_));refine za (za (zae ?_));refine zmP hX kU qP rfl zif (ins:=[_,_,_,_,_,_,_]) rfl rfl rfl rfl (.cons rfl (λ_=>rfl) (λ_=>rfl) rfl rfl<|.cons rfl (λ_=>rfl) (λ_=>rfl) rfl rfl<|.cons rfl (λ_=>rfl) (λ_=>rfl) rfl rfl<|.cons rfl (λ_=>rfl) (λ_=>rfl) rfl rfl<|.cons rfl (λ_=>rfl) (λ_=>rfl) rfl rfl<|.cons rfl (λ_=>rfl) (λ_=>rfl) rfl rfl<|.cons rfl (λ_=>rfl) (λ_=>rfl) rfl rfl rfl) ⟨rfl,rfl,rfl,rfl,rfl,rfl,rfl,t_⟩ ?_;refine zaI zaj ?_;refine za (za ?_);exact zp ⟨.inr rfl,D1 rfl⟩
abbrev Gop:=List UInt8×Int×Unit
def opsL:List Gop:=[(wOr,9,()),(zlB,10,()),(wAnd,8,())]
def cOps:Ctr:={ args:=[],pre:=λ_=>[],res:=.slice gop,own:=none,out:=λ_=>opsL }
theorem zhx:yT zb gmH 45 cOps:=by
 refine ctr2 zaj Tryz.func45 Tryz.call45 ?_;rintro w0 X hX _ hp;(repeat refine za (za (zaa zaj ?_)));refine za ?_;refine AWP.frz hX 0 ?_;exact zp ⟨.inr rfl,D1 rfl⟩
@[reducible] def trX(s:List UInt8)(l:List Nd)(r:Tr×GSt):Int×PsT:=(((l.length+r.1.size:Nat):Int)-1,psX s r.2 (l++r.1.flat l.length))
def few(x:PsT):Prop:=((x.2.2.1.length:Nat):Int)<=x.2.2.2.1
@[reducible] def cBin(k:Nat):HCtr:=hP [i64] i64 (λx xs=>[0<=xs.1,xs.1<=3,few x,meas x.1 (.bin xs.1.toNat) (stOf x)<k]) λx xs=>toX (trX x.1 x.2.2.1) (prsT x.1 (.bin xs.1.toNat) (stOf x))
@[reducible] def zmD(k:Nat):HCtr:=hP [] i64 (λx _=>[few x,meas x.1 .chain (stOf x)<k]) λx _=>toX (trX x.1 x.2.2.1) (prsT x.1 .chain (stOf x))
@[reducible] def zlk(k:Nat):HCtr:=hP [] i64 (λx _=>[few x,meas x.1 .prim (stOf x)<k]) λx _=>toX (trX x.1 x.2.2.1) (prsT x.1 .prim (stOf x))
def gBeh(s:List UInt8)(st:GSt):GE (Nd×Tr×GSt):=gSuf s st .behind >>=λp=>prsT s .prim p.2 >>=λu=>.ok (p.1,u.1,u.2)
def setR(n:Nd)(r:Int):Nd:=(n.1,n.2.1,n.2.2.1,r,n.2.2.2.2)
@[reducible] def cBeh(k:Nat):HCtr:=hP [] nd (λx _=>[few x,meas x.1 .prim (stOf x)<k]) λx _=>toX (λr=>(setR r.1 (((x.2.2.1.length+r.2.1.size:Nat):Int)-1),psX x.1 r.2.2 (x.2.2.1++r.2.1.flat x.2.2.1.length))) (gBeh x.1 (stOf x))
def kBi:Kn:={ gmK with C:=[(45,cOps)] }
theorem zci:KnOk zb gmH kBi:=zaj.with (.cons zhx .nil)
def hBi(k:Nat):List (zV×HCtr):=[(59,cBin k),(103,zmD k),(104,cIs),(105,zmE),(106,cAdd)]
theorem zw0{i:Nat}(h:i<3):opsL.getD ((i:Int)).toNat ([],0,())=(opW i,opK i,()):=by
 rw[zH];rcases (show i=0\/i=1\/i=2 by omega) with rfl|rfl|rfl<;>rfl
theorem zyo{te:zo}{t:Ty}{x y:List t.T}(h:x=y):some (OObj.buf te t x)=some (OObj.buf te t y):=by rw[h]
theorem zta(k:Nat)(hB:zaD zb gmH 59 (cBin k))(hC:zaD zb gmH 103 (zmD k)):zaD zb gmH 59 (cBin (k+1)):=by
 have x5:HsOk zb gmH (hBi k):=.cons hB<|.cons hC<|.cons zuC<|.cons zlq<|.cons zti .nil;refine zb9 zci Tryz.func59 zbm Tryz.call59 za0 ?_;rintro w0 O fix B ty hX xk ⟨(s:List UInt8),(t:TokT),(l:List Nd),(b:Int),⟨⟩⟩ ⟨(j:Int),⟨⟩⟩ hp;have hI:=zaL (ty:=ty) (ty':=ty) hX rfl xk;obtain⟨xg,y7,y6,x2,xc⟩:pOk (s,t,l,b,())/\0<=j/\j<=3/\few (s,t,l,b,())/\meas s (.bin j.toNat) (t,b)<k+1:=hp;obtain⟨i,rfl⟩:∃i:Nat,j=(i:Int):=⟨j.toNat,by omega⟩;rw[zH]at xc;have hg:GOk s (t,b):=xg.1;change AWP _ _ _ _ _ ⟨[(0,pSelf),(1,⟨i64,(i:Int)⟩)],pE ty s (t,b) l,2⟩ (pQ _ (cBin (k+1)) ty (toX (trX s l) (prsT s (.bin ((i:Int)).toNat) (t,b))));rw[zH]
 iterate 3 (refine za (za (zaa zci ?_)))
 refine zaf rfl (λhb=>?_) (λhb=>?_)
 .have hb:decide ((i:Int)=((3:Nat):Int))=true:=hb;have hb:=of_decide_eq_true hb;obtain rfl:i=3:=o_;rw[ziw hg (zj 3)];have xw:meas s .chain (t,b)<k:=by simp only[meas,mdF]at xc ⊢;omega
  refine za (za (zae ?_));refine zax 1 hX zci x5 rfl t_ rfl rfl ⟨xg,x2,xw⟩ hI (e:=prsT s .chain (t,b)) rfl (λer h=>?_) (λa h=>?_)
  .rw[h];exact rfl
  rw[h];refine zaI zci ?_;exact zp ⟨.inr rfl,⟨_,rfl,nd,1,_,rfl,rfl,rfl⟩,D1 rfl⟩
 have hb:decide ((i:Int)=((3:Nat):Int))=false:=hb;have xz:i<3:=by
  have:=of_decide_eq_false hb;omega
 apply zah;rw[zhS hg o_];have hq:inR .i64 ((i:Int)+1):=zad o_ o_;have xd:((i:Int)+1).toNat=i+1:=o_;have xx:meas s (.bin ((i:Int)+1).toNat) (t,b)<k:=by
  rw[xd];simp only[meas,mdF]at xc ⊢;omega
 refine za (za (zae ?_));refine zax 3 hX zci x5 rfl hq rfl rfl ⟨xg,(by omega:(0:Int)<=(i:Int)+1),(by omega:(i:Int)+1<=3),x2,xx⟩ hI (f:=trX s l) (e:=prsT s (.bin (i+1)) (t,b)) (congrArg (λi=>toX (trX s l) (prsT s (.bin i) (t,b))) xd) (λer h=>?_) (λa h=>?_)
 .rw[zal h];exact rfl
 rw[zao h];obtain⟨t1,xm⟩:=a;refine zaI zci ?_;have xt:=zed hg h;have xv:=zkC h;have xn:s.length<=100000:=xg.2;have x2:((l.length:Nat):Int)<=b:=x2;apply zaq;apply zay;refine xP (ι:=Tr×GSt) (λi'=>⟨[(0,pSelf),(1,⟨i64,(i:Int)⟩),(5,⟨.slice gop,opsL⟩),(6,⟨i64,(((l.length+i'.1.size:Nat):Int)-1)⟩)],pE ty s i'.2 (l++i'.1.flat l.length),2⟩) (λi'=>prsT s (.binL i t1) xm=prsT s (.binL i i'.1) i'.2/\Onw s (t,b) i'.2/\i'.2.2=b+(i'.1.size:Int)) (λi'=>rem s i'.2) (t1,xm) ⟨rfl,xt,xv⟩ ⟨⟨rfl,rfl,rfl,rfl,t_⟩,⟨rfl,rfl,t_⟩,rfl,rfl⟩ ?_;rintro ⟨t2,st⟩ ⟨xe,xa,xp⟩;have xe:prsT s (.binL i t1) xm=prsT s (.binL i t2) st:=xe;have xp:st.2=b+(t2.size:Int):=xp;have xa:Onw s (t,b) st:=xa;have x6:GOk s st:=xa.1;have x7:pOk (s,st.1,l++t2.flat l.length,st.2,()):=⟨x6,xn⟩;have xr:(i:Int)<((opsL.length:Nat):Int):=by show(i:Int)<((3:Nat):Int);omega
 have xb:(0:Int)<=(i:Int):=o_;rw[xe];apply zaq;apply zaq;refine zae ?_;refine yZ 6 hX zci x5 rfl ⟨xb,xr⟩ rfl rfl x7 hI ?_;refine yQ ?_;have xo:=zw0 xz;have xq:(opsL.getD ((i:Int)).toNat ([],0,())).1=opW i:=by rw[xo]
 have xy:(opsL.getD ((i:Int)).toNat ([],0,())).2.1=opK i:=by rw[xo]
 refine zaf rfl (λhb=>?_) (λhb=>?_)
 .have hb:gIs st (opsL.getD ((i:Int)).toNat ([],0,())).1=true:=hb;rw[xq]at hb;apply zah;rw[zjT x6 hb]at xe ⊢;refine zak (Y':=⟨[(0,pSelf),(1,⟨i64,(i:Int)⟩),(5,⟨.slice gop,opsL⟩),(6,⟨i64,(((l.length+t2.size:Nat):Int)-1)⟩)],pE ty s st (l++t2.flat l.length),2⟩) ⟨⟨rfl,rfl,rfl,rfl,t_⟩,⟨rfl,rfl,t_⟩,rfl,rfl⟩ ?_;apply zay;refine za (za (zae ?_));refine zax 1 hX zci x5 rfl t_ rfl rfl x7 hI (e:=zbX s st) rfl (λer h=>?_) (λx0 h3=>?_)
  .rw[zal h];exact rfl
  rw[zao h3];have x8:=zbn x6 (zea hb) h3;have y8:=zdv h3;have xu:=t2.len_flat l.length;have xi:pOk (s,x0.1,l++t2.flat l.length,x0.2,()):=⟨x8.1,xn⟩;have x9:few (s,x0.1,l++t2.flat l.length,x0.2,()):=by
   show(((l++t2.flat l.length).length:Nat):Int)<=x0.2;rw[zg];omega
  have y3:=xa.rem hg;have y4:=x8.rem x6;have y0:meas s (.bin ((i:Int)+1).toNat) x0<k:=by
   rw[xd];simp only[meas,mdF]at xc ⊢;omega
  refine yQ ?_;refine zak (Y':=⟨[(0,pSelf),(1,⟨i64,(i:Int)⟩),(5,⟨.slice gop,opsL⟩),(6,⟨i64,(((l.length+t2.size:Nat):Int)-1)⟩)],pE ty s x0 (l++t2.flat l.length),2⟩) ⟨⟨rfl,rfl,rfl,rfl,t_⟩,⟨rfl,rfl,t_⟩,rfl,rfl⟩ ?_;refine za (za (zae ?_));refine zax 3 hX zci x5 rfl hq rfl rfl ⟨xi,(by omega:(0:Int)<=(i:Int)+1),(by omega:(i:Int)+1<=3),x9,y0⟩ hI (f:=trX s (l++t2.flat l.length)) (e:=prsT s (.bin (i+1)) x0) (congrArg (λi=>toX (trX s (l++t2.flat l.length)) (prsT s (.bin i) x0)) xd) (λer h=>?_) (λa h4=>?_)
  .rw[zal h];exact rfl
  rw[zao h4];obtain⟨u,x3⟩:=a;have xf:Onw s x0 x3:=zed x8.1 h4;have y5:x3.2=x0.2+(u.size:Int):=zkC h4;have xh:pOk (s,x3.1,l++t2.flat l.length++u.flat (l.length+t2.size),x3.2,()):=⟨xf.1,xn⟩;have x1:(l++t2.flat l.length).length=l.length+t2.size:=by rw[zg,xu]
  have x4:(l++t2.flat l.length++u.flat (l.length+t2.size)).length=l.length+t2.size+u.size:=by rw[zg,x1,u.len_flat]
  refine zaI zci ?_;refine zak (Y':=⟨[(0,pSelf),(1,⟨i64,(i:Int)⟩),(5,⟨.slice gop,opsL⟩),(6,⟨i64,(((l.length+t2.size:Nat):Int)-1)⟩),(7,⟨i64,(((l.length+t2.size+u.size:Nat):Int)-1)⟩)],pE ty s x3 (l++t2.flat l.length++u.flat (l.length+t2.size)),2⟩) ⟨⟨rfl,rfl,rfl,rfl,vI64 ?_,t_⟩,⟨rfl,zyo ?_,t_⟩,rfl,rfl⟩ ?_
  .show((((l++t2.flat l.length).length+u.size:Nat):Int)-1)=_;rw[x1]
  .show l++t2.flat l.length++u.flat (l++t2.flat l.length).length=_;rw[x1]
  have y1:=xf.1.2.2;have xj:(l++t2.flat l.length++u.flat (l.length+t2.size)).length<=100000:=by
   rw[x4];omega
  refine za (za (zae ?_));refine yZ 9 hX zci x5 rfl ⟨xb,xr⟩ rfl rfl ⟨xh,xj⟩ hI ?_;refine zaI zci ?_;refine⟨(.bin (opK i,zNd.2) t2 u,x3),⟨?_,?_,?_⟩,?_,⟨rfl,rfl,rfl,vI64 ?_,t_⟩,⟨rfl,zyo ?_,t_⟩,rfl,rfl⟩
  .rw[h3];show(prsT s (.bin (i+1)) x0 >>=_)=_;rw[h4];rfl
  .exact(xa.trans x8).trans xf
  .show x3.2=b+((t2.size+u.size+1:Nat):Int);omega
  .have y2:=xf.rem x8.1;show rem s x3<rem s st;omega
  .show(((l++t2.flat l.length++u.flat (l.length+t2.size)).length:Nat):Int)=((l.length+(t2.size+u.size+1):Nat):Int)-1;rw[x4];omega
  .show l++t2.flat l.length++u.flat (l.length+t2.size)++[((opsL.getD ((i:Int)).toNat ([],0,())).2.1,(0:Int),(((l.length+t2.size:Nat):Int)-1),(((l.length+t2.size+u.size:Nat):Int)-1),(0:Int),(0:Int),([]:List Int),([]:List UInt8),())]=l++(t2.flat l.length++u.flat (l.length+t2.size)++[zbZ (opK i,zNd.2) (((l.length+t2.size:Nat):Int)-1) (((l.length+t2.size+u.size:Nat):Int)-1)]);rw[xy, <-zz, <-zz];rfl
 .have hb:gIs st (opsL.getD ((i:Int)).toNat ([],0,())).1=false:=hb;rw[xq]at hb;rw[zjU x6 hb];apply zaw;(repeat refine za (za (zaa zci ?_)));refine za ?_;exact zp ⟨.inr rfl,⟨_,rfl,nd,1,_,rfl,rfl,rfl⟩,D1 rfl⟩
def hBe(k:Nat):List (zV×HCtr):=[(143,zhh),(64,zhi),(124,zlk k)]
theorem zAp(k:Nat)(hP:zaD zb gmH 124 (zlk k)):zaD zb gmH 152 (cBeh k):=by
 have x6:HsOk zb gmH (hBe k):=.cons zgr<|.cons zgF<|.cons hP .nil;refine zb9 zaj Tryz.func152 zbm Tryz.call152 za0 ?_;rintro w0 O fix B ty hX x7 ⟨(s:List UInt8),(t:TokT),(l:List Nd),(b:Int),⟨⟩⟩ ⟨⟩ hp;have hI:=zaL (ty:=ty) (ty':=ty) hX rfl x7;obtain⟨x9,x1,xd⟩:pOk (s,t,l,b,())/\few (s,t,l,b,())/\meas s .prim (t,b)<k:=hp;have hg:GOk s (t,b):=x9.1;have xb:s.length<=100000:=x9.2;have x1:((l.length:Nat):Int)<=b:=x1;change AWP _ _ _ _ _ ⟨[(0,pSelf)],pE ty s (t,b) l,2⟩ (pQ _ (cBeh k) ty (toX (λr=>(setR r.1 (((l.length+r.2.1.size:Nat):Int)-1),psX s r.2.2 (l++r.2.1.flat l.length))) (gBeh s (t,b))));obtain⟨R,hR⟩:∃R,R=gBeh s (t,b):=⟨_,rfl⟩;rw[<-hR];rw[show gBeh s (t,b)=(zaO s (t,b) 1 400 >>=λp=>za3 s p.2 wOf >>=λst=>prsT s .prim st >>=λu=>.ok ((17,0,0,0,p.1,0,[],[],()),u.1,u.2)) by
  unfold gBeh gSuf;cases zaO s (t,b) 1 400 with
  |error e=>rfl
  |ok p=>
   show((za3 s p.2 wOf >>=_) >>=_)=(za3 s p.2 wOf >>=_);cases za3 s p.2 wOf<;>rfl]at hR
 refine za (za (zaa zaj ?_));refine za (za (zae ?_));refine zax 1 hX zaj x6 rfl t_ rfl rfl x9 hI (e:=zaO s (t,b) 1 400) rfl (λer h=>?_) (λp h1=>?_)
 .rw[show R=.error er by rw[hR,h];rfl];exact rfl
 obtain⟨x,x2⟩:=p;rw[h1]at hR;have x4:=(zap hg h1).1;have x8:pOk (s,x2.1,l,x2.2,()):=⟨x4.1,xb⟩;refine zaI zaj ?_;refine za (za (zae ?_));refine zax 1 hX zaj x6 rfl t_ rfl rfl x8 hI (e:=za3 s x2 wOf) rfl (λer h=>?_) (λx0 h2=>?_)
 .rw[show R=.error er by rw[hR];show(za3 s x2 wOf >>=_)=_;rw[h];rfl];exact rfl
 have xa:=zby x4.1 h2;have x5:pOk (s,x0.1,l,x0.2,()):=⟨xa.1,xb⟩;refine yQ ?_;have xh:=x4.rem hg;have xi:=xa.rem x4.1;have xg:meas s .prim x0<k:=by
  simp only[meas,mdF]at xd ⊢;omega
 have xe:=zbD h1;have xf:=zej h2;have x3:few (s,x0.1,l,x0.2,()):=by
  rw[xf,xe];exact x1
 refine za (za (zae ?_));refine zax 1 hX zaj x6 rfl t_ rfl rfl ⟨x5,x3,xg⟩ hI (e:=prsT s .prim x0) rfl (λer h=>?_) (λp h3=>?_)
 .rw[show R=.error er by rw[hR];show(za3 s x2 wOf >>=_)=_;rw[h2];show(prsT s .prim x0 >>=_)=_;rw[h];rfl];exact rfl
 obtain⟨u,xc⟩:=p;rw[show R=.ok ((17,0,0,0,x,0,[],[],()),u,xc) by rw[hR];show(za3 s x2 wOf >>=_)=_;rw[h2];show(prsT s .prim x0 >>=_)=_;rw[h3];rfl];refine zaI zaj ?_;(repeat refine za (za (zaa zaj ?_)));refine za ?_;exact zp ⟨.inr rfl,⟨_,rfl,nd,1,_,rfl,rfl,rfl⟩,D1 rfl⟩
def kCh:Kn:={ gmK with C:=[(125,zmA)] }
theorem zda:KnOk zb gmH kCh:=zaj.with (.cons zmX .nil)
def hCh(k:Nat):List (zV×HCtr):=[(124,zlk k),(105,zmE),(106,cAdd)]
theorem zwF{w:SufW}(hw:w≠ .behind):∃f,zfF w=.func (.func f) #[] #[]/\zaD zb gmH f (zhg w):=by
 cases w with
 |shift=>exact⟨_,rfl,zsB⟩
 |from_=>exact⟨_,rfl,zuM⟩
 |until_=>exact⟨_,rfl,zsA⟩
 |also=>exact⟨_,rfl,zuO⟩
 |except_=>exact⟨_,rfl,zqb⟩
 |pos=>exact⟨_,rfl,zx1⟩
 |behind=>exact absurd rfl hw
deriving instance DecidableEq for SufW
def zk3(s:List UInt8)(st:GSt)(len:Nat)(w:SufW):GE (Nd×List Nd×(Tr->Tr)×GSt):=
 if w=.behind then gBeh s st >>=λr=>.ok (setR r.1 (((len+r.2.1.size:Nat):Int)-1),r.2.1.flat len,λt=>.bin r.1 t r.2.1,r.2.2)
 else gSuf s st w >>=λp=>.ok (p.1,[],λt=>.un p.1 t,p.2)
theorem zqA{s:List UInt8}{t:Tr}{st:GSt}(len:Nat):∀w:SufW,sufT (s:=s) t st w=(zk3 s st len w >>=λr=>.ok (r.2.2.1 t,r.2.2.2))
 |.behind=>by
  unfold sufT zk3 gBeh;rw[if_pos rfl];cases gSuf s st .behind with
  |error e=>rfl
  |ok p=>
   show(prsT s .prim p.2 >>=_)=(((prsT s .prim p.2 >>=_) >>=_) >>=_);cases prsT s .prim p.2<;>rfl
 |.shift|.from_|.until_|.also|.except_|.pos=>by
  unfold sufT zk3;rw[if_neg (by intro h;cases h)];simp only[];cases gSuf s st _<;>rfl
theorem zuH{s:List UInt8}{st:GSt}{len:Nat}{w:SufW}{r:Nd×List Nd×(Tr->Tr)×GSt}(h:GOk s st)(he:zk3 s st len w=.ok r):Onw s st r.2.2.2/\r.2.2.2.2=st.2+(r.2.1.length:Int)/\∀t:Tr,(r.2.2.1 t).size=t.size+r.2.1.length+1/\∀b,len=b+t.size->(r.2.2.1 t).flat b=t.flat b++r.2.1++[setL r.1 (((b+t.size:Nat):Int)-1)]:=by
 unfold zk3 at he;split at he
 .obtain⟨⟨n,u,st'⟩,h1,h2⟩:=zan he;cases h2;obtain⟨⟨n',x1⟩,h3,h4⟩:=zan h1;obtain⟨⟨u',x0⟩,h5,h6⟩:=zan h4;cases h6;have k1:=zfc h _ h3;have k2:Onw s x1 x0:=zed k1.1 h5;have k3:=zoP _ h3;have k4:x0.2=x1.2+(u'.size:Int):=zkC h5;refine⟨k1.trans k2,?_,λt=>⟨?_,λb hb=>?_⟩⟩
  .show x0.2=st.2+(((u'.flat len).length:Nat):Int);rw[u'.len_flat];omega
  .show t.size+u'.size+1=t.size+(u'.flat len).length+1;rw[u'.len_flat]
  .subst hb;rfl
 .obtain⟨⟨n,st'⟩,h1,h2⟩:=zan he;cases h2;refine⟨zfc h _ h1,?_,λt=>⟨rfl,λb hb=>?_⟩⟩
  .show st'.2=st.2+0;rw[zoP _ h1];omega
  .show t.flat b++[_]=t.flat b++[]++[_];rw[zW]
@[reducible] def zBj(w:SufW)(k:Nat):HCtr:=hP [] nd (λx _=>[few x,meas x.1 .prim (stOf x)<k]) λx _=>toX (λr=>(r.1,psX x.1 r.2.2.2 (x.2.2.1++r.2.1))) (zk3 x.1 (stOf x) x.2.2.1.length w)
theorem ztu{args:List Ty}{x:PsT}{xs:Args args}{pre x0:PsT->Args args->List Prop}(hp:∀x xs,allP (x0 x xs)->allP (pre x xs))(h7:allP (pOk x::x0 x xs)):allP (pOk x::pre x xs):=by
 have h8:pOk x/\allP (x0 x xs):=by
  cases hq:x0 x xs with
  |nil=>rw[hq]at h7;exact⟨h7,t_⟩
  |cons a l=>rw[hq]at h7;exact h7
 have h9:=hp x xs h8.2;cases hr:pre x xs with
 |nil=>exact h8.1
 |cons a l=>rw[hr]at h9;exact⟨h8.1,h9⟩
theorem zml{P:zw}{G:zh->Prop}{f:zV}{args:List Ty}{res:Ty}{pre x1:PsT->Args args->List Prop}{out x0:PsT->Args args->Except zd (res.T×PsT)}(h:zaD P G f (hP args res pre out))(hp:∀x xs,allP (x1 x xs)->allP (pre x xs))(ho:∀x xs,x0 x xs=out x xs):zaD P G f (hP args res x1 x0):=by
 obtain rfl:x0=out:=funext λx=>funext λxs=>ho x xs;refine⟨h.1,h.2.1,λw O g cs ty x xs vs b h1 h2 h3 h4 h5 h6 h7 h8 h9=>?_⟩;refine(h.2.2 w O g cs ty x xs vs b h1 h2 h3 h4 h5 h6 ?_ h8 h9).mono λe w' hr=>⟨hr.1,?_⟩
 .exact ztu hp h7
 .have hr:=hr.2;revert hr;show HEnd (hP args res pre x0) ty w w' O g b e (x0 x xs)->HEnd (hP args res x1 x0) ty w w' O g b e (x0 x xs);cases x0 x xs<;>exact id
theorem zwE(k:Nat)(hP:zaD zb gmH 124 (zlk k))(w:SufW):∃f,zfF w=.func (.func f) #[] #[]/\zaD zb gmH f (zBj w k):=by
 by_cases hw:w=.behind
 .subst hw;refine⟨_,rfl,zml (zAp k hP) (λx xs h=>h) λx xs=>?_⟩;unfold zk3;rw[if_pos rfl];cases gBeh x.1 (stOf x)<;>rfl
 .obtain⟨f,h1,h2⟩:=zwF hw;refine⟨f,h1,zml h2 (λx xs h=>trivial) λx xs=>?_⟩;unfold zk3;rw[if_neg hw];cases gSuf x.1 (stOf x) w with
  |error e=>rfl
  |ok p=>
   show Except.ok (p.1,psX x.1 p.2 (x.2.2.1++[]))=Except.ok (p.1,psX x.1 p.2 x.2.2.1);rw[zW]
theorem zuZ(k:Nat)(hP:zaD zb gmH 124 (zlk k)):zaD zb gmH 103 (zmD (k+1)):=by
 have xi:HsOk zb gmH (hCh k):=.cons hP<|.cons zlq<|.cons zti .nil;refine zb9 zda Tryz.func103 zbm Tryz.call103 za0 ?_;rintro w0 O fix B ty hX xj ⟨(s:List UInt8),(t:TokT),(l:List Nd),(b:Int),⟨⟩⟩ ⟨⟩ hp;have hI:=zaL (ty:=ty) (ty':=ty) hX rfl xj;obtain⟨xk,x4,xo⟩:pOk (s,t,l,b,())/\few (s,t,l,b,())/\meas s .chain (t,b)<k+1:=hp;have hg:GOk s (t,b):=xk.1;have xn:s.length<=100000:=xk.2;change AWP _ _ _ _ _ ⟨[(0,pSelf)],pE ty s (t,b) l,2⟩ (pQ _ (zmD (k+1)) ty (toX (trX s l) (prsT s .chain (t,b))));rw[zjS hg];refine za (za (zaa zda ?_));have xw:meas s .prim (t,b)<k:=by simp only[meas,mdF]at xo ⊢;omega
 refine za (za (zae ?_));refine zax 1 hX zda xi rfl t_ rfl rfl ⟨xk,x4,xw⟩ hI (e:=prsT s .prim (t,b)) rfl (λer h=>?_) (λa h=>?_)
 .rw[zal h];exact rfl
 rw[zao h];obtain⟨t1,xm⟩:=a;have xr:=zed hg h;have xu:=zkC h;have x4:((l.length:Nat):Int)<=b:=x4;refine zaI zda ?_;apply zaq;apply zay;refine xP (ι:=Tr×GSt) (λi'=>⟨[(0,pSelf),(3,⟨i64,(((l.length+i'.1.size:Nat):Int)-1)⟩),(4,⟨.mapL,zif⟩)],pE ty s i'.2 (l++i'.1.flat l.length),2⟩) (λi'=>prsT s (.chainL t1) xm=prsT s (.chainL i'.1) i'.2/\Onw s (t,b) i'.2/\i'.2.2=b+(i'.1.size:Int)) (λi'=>rem s i'.2) (t1,xm) ⟨rfl,xr,xu⟩ ⟨⟨rfl,rfl,rfl,t_⟩,⟨rfl,rfl,t_⟩,rfl,rfl⟩ ?_;rintro ⟨t2,st⟩ ⟨xd,xb,xq⟩;have xd:prsT s (.chainL t1) xm=prsT s (.chainL t2) st:=xd;have xq:st.2=b+(t2.size:Int):=xq;have xb:Onw s (t,b) st:=xb;have x6:GOk s st:=xb.1;have xh:pOk (s,st.1,l++t2.flat l.length,st.2,()):=⟨x6,xn⟩;have xt:=t2.len_flat l.length;have x1:(l++t2.flat l.length).length=l.length+t2.size:=by rw[zg,xt]
 rw[xd];apply zaq;refine za (za (zaa zda ?_));refine zaf rfl (λhb=>?_) (λhb=>?_)
 rotate_left
 .have hb:(st.1.1==1)=false:=hb;have hb:yJ st.1≠1:=λh=>by
   have:(st.1.1==1)=true:=beq_iff_eq.2 h;rw[this]at hb;cases hb
  rw[zeW x6 hb];apply zaw;(repeat refine za (za (zaa zda ?_)));refine za ?_;exact zp ⟨.inr rfl,⟨_,rfl,nd,1,_,rfl,rfl,rfl⟩,D1 rfl⟩
 have hb:(st.1.1==1)=true:=hb;have x5:yJ st.1=1:=beq_iff_eq.1 hb;apply zah;refine zak (Y':=⟨[(0,pSelf),(3,⟨i64,(((l.length+t2.size:Nat):Int)-1)⟩),(4,⟨.mapL,zif⟩)],pE ty s st (l++t2.flat l.length),2⟩) ⟨⟨rfl,rfl,rfl,t_⟩,⟨rfl,rfl,t_⟩,rfl,rfl⟩ ?_;apply zay;refine za (za (zae ?_));refine za4 6 zda ?_;refine zvr kU qP rfl (key:=strV (yB st.1)) (z:=.nilFunc) (es:=zif) (r:=(sufW (yB st.1)).map zfF) rfl rfl rfl rfl rfl (zr8 rfl) pn (ztD _) ?_;refine za4 1 zda ?_;refine zyI rfl rfl rfl rfl rfl ?_;refine zyH rfl rfl rfl rfl rfl ?_;refine zaI zda ?_;refine za (za (zaa zda ?_));cases hw:sufW (yB st.1) with
 |none=>
  rw[zht x6 x5 hw];refine zaf rfl (λ_=>?_) (λhb=>?_)
  rotate_left
  .have hb:(!((none:Option SufW).map zfF).isSome)=false:=hb;cases hb
  apply zaw;refine zak (Y':=⟨[(0,pSelf),(3,⟨i64,(((l.length+t2.size:Nat):Int)-1)⟩),(4,⟨.mapL,zif⟩)],pE ty s st (l++t2.flat l.length),2⟩) ⟨⟨rfl,rfl,rfl,t_⟩,⟨rfl,rfl,t_⟩,rfl,rfl⟩ ?_;(repeat refine za (za (zaa zda ?_)));refine za ?_;exact zp ⟨.inr rfl,⟨_,rfl,nd,1,_,rfl,rfl,rfl⟩,D1 rfl⟩
 |some w=>
  rw[zhu x6 x5 hw]at xd ⊢;refine zaf rfl (λhb=>?_) (λ_=>?_)
  .have hb:(!((some w:Option SufW).map zfF).isSome)=true:=hb;cases hb
  apply zah;refine zak (Y':=⟨[(0,pSelf),(3,⟨i64,(((l.length+t2.size:Nat):Int)-1)⟩),(4,⟨.mapL,zif⟩),(5,⟨.lit,zfF w⟩)],pE ty s st (l++t2.flat l.length),2⟩) ⟨⟨rfl,rfl,rfl,rfl,t_⟩,⟨rfl,rfl,t_⟩,rfl,rfl⟩ ?_;refine za (za (zae ?_));refine zax 1 hX zda xi rfl t_ rfl rfl xh hI (e:=zbX s st) rfl (λer h=>?_) (λx0 h3=>?_)
  .rw[zal h];exact rfl
  rw[zao h3];have x8:=zbn x6 (by rw[x5];decide) h3;have y2:=zdv h3;have xf:pOk (s,x0.1,l++t2.flat l.length,x0.2,()):=⟨x8.1,xn⟩;have x9:few (s,x0.1,l++t2.flat l.length,x0.2,()):=by
   show(((l++t2.flat l.length).length:Nat):Int)<=x0.2;rw[x1];omega
  have y0:=xb.rem hg;have y1:=x8.rem x6;have xx:meas s .prim x0<k:=by
   simp only[meas,mdF]at xo ⊢;omega
  refine yQ ?_;refine zak (Y':=⟨[(0,pSelf),(3,⟨i64,(((l.length+t2.size:Nat):Int)-1)⟩),(4,⟨.mapL,zif⟩),(5,⟨.lit,zfF w⟩)],pE ty s x0 (l++t2.flat l.length),2⟩) ⟨⟨rfl,rfl,rfl,rfl,t_⟩,⟨rfl,rfl,t_⟩,rfl,rfl⟩ ?_;obtain⟨f,hf,xv⟩:=zwE k hP w;refine za (za (zae ?_));refine za4 2 zda ?_;refine zph hX xv rfl rfl rfl (by show(⟨.lit,zfF w⟩:V)=_;rw[hf]) rfl rfl rfl rfl rfl rfl rfl rfl t_ ⟨xf,x9,xx⟩ hI (λ_=>rfl) (e:=zk3 s x0 (l++t2.flat l.length).length w) rfl (λer h=>?_) (λr h4=>?_)
  .rw[zqA (l++t2.flat l.length).length w];rw[h];exact rfl
  rw[zqA (l++t2.flat l.length).length w];rw[h4];obtain⟨n0,ex,tf,x2⟩:=r;obtain⟨x7,xp,hT⟩:=zuH x8.1 h4;obtain⟨xc,xa⟩:=hT t2;have xa:=xa l.length x1;have xc:(tf t2).size=t2.size+ex.length+1:=xc;have xa:(tf t2).flat l.length=t2.flat l.length++ex++[setL n0 (((l.length+t2.size:Nat):Int)-1)]:=xa;have x7:Onw s x0 x2:=x7;have xp:x2.2=x0.2+(ex.length:Int):=xp;have x3:(l++t2.flat l.length++ex).length=l.length+t2.size+ex.length:=by rw[zg,x1]
  have xe:pOk (s,x2.1,l++t2.flat l.length++ex,x2.2,()):=⟨x7.1,xn⟩;refine zaI zda ?_;refine zak (Y':=⟨[(0,pSelf),(3,⟨i64,(((l.length+t2.size:Nat):Int)-1)⟩),(4,⟨.mapL,zif⟩),(7,⟨.optr nd,⟨2,nd,.here⟩⟩)],[(0,some (pBox ty s x2)),(1,some (.buf 46 nd (l++t2.flat l.length++ex))),(2,some (.box nd n0))],3⟩) ⟨⟨rfl,rfl,rfl,rfl,t_⟩,⟨rfl,rfl,rfl,t_⟩,rfl,rfl⟩ ?_;refine za (za (zaa zda ?_));have xy:=x7.1.2.2;have xg:(l++t2.flat l.length++ex).length<=100000:=by
   rw[x3];omega
  refine za (za (zae ?_));refine yZ 2 hX zda xi rfl t_ rfl rfl ⟨xe,xg⟩ hI ?_;refine zaI zda ?_;refine⟨(tf t2,x2),⟨?_,?_,?_⟩,?_,⟨rfl,vI64 ?_,rfl,t_⟩,⟨rfl,zyo ?_,t_⟩,rfl,rfl⟩
  .rw[h3];show(sufT t2 x0 w >>=_)=_;rw[zqA (l++t2.flat l.length).length w,h4];rfl
  .exact(xb.trans x8).trans x7
  .show x2.2=b+((tf t2).size:Int);rw[xc];omega
  .have xz:=x7.rem x8.1;show rem s x2<rem s st;omega
  .show(((l++t2.flat l.length++ex).length:Nat):Int)=((l.length+(tf t2).size:Nat):Int)-1;rw[x3,xc];omega
  .show l++t2.flat l.length++ex++[setL n0 (((l.length+t2.size:Nat):Int)-1)]=l++(tf t2).flat l.length;rw[xa, <-zz, <-zz]
section
variable {s:List UInt8}
theorem zpF{st:GSt}(h:GOk s st)(ho:gIs st zgc=true):prsT s .prim st=(prsT s (.bin 0) (gAdv s st) >>=λp=>za3 s p.2 zdi >>=λst=>.ok (p.1,st)):=by
 rw[zcJ h,zbx,if_pos ho];rfl
theorem zpG{st:GSt}(h:GOk s st)(ho:gIs st zgc=false)(hc:yJ st.1=2):prsT s .prim st=(zaH st (decide ((yB st.1).length<=32)) 2 >>=λ_=>zbX s st >>=λst'=>.ok (.leaf (18,0,0,0,0,0,[],yB st.1,()),st')):=by
 rw[zcJ h,zbx,if_neg (by rw[ho];decide),if_pos hc];rfl
def zAT(s:List UInt8)(st:GSt):Option LeafW->GE (Tr×GSt)
 |none=>.error (Tok.at st.1,3)
 |some w=>zbX s st >>=λst=>zdM s st w >>=λp=>.ok (.leaf p.1,p.2)
theorem zpH{st:GSt}(h:GOk s st)(ho:gIs st zgc=false)(hc:yJ st.1≠2):prsT s .prim st=(zaH st (yJ st.1==3-2) 3 >>=λ_=>zAT s st (zhL (yB st.1))):=by
 rw[zcJ h,zbx,if_neg (by rw[ho];decide),if_neg hc];cases zhL (yB st.1)<;>rfl
end
theorem zuz(w:LeafW):∃f,zdl w=.func (.func f) #[] #[]/\zaD zb gmH f (zdO w):=by
 cases w with
 |days=>exact⟨_,rfl,zuN⟩
 |years=>exact⟨_,rfl,zsx⟩
 |months=>exact⟨_,rfl,zqa⟩
 |monthdays=>exact⟨_,rfl,zk7⟩
 |weekdays=>exact⟨_,rfl,zmu⟩
 |weeks=>exact⟨_,rfl,zsz⟩
 |nth=>exact⟨_,rfl,zx2⟩
theorem dNat(a b:Nat):decide (((a:Nat):Int)<=((b:Nat):Int))=decide (a<=b):=decide_eq_decide.2 Int.ofNat_le
def kPm:Kn:={ gmK with C:=[(141,zsZ)] }
theorem zcC:KnOk zb gmH kPm:=zaj.with (.cons zrX .nil)
def hPm(k:Nat):List (zV×HCtr):=[(59,cBin k),(104,cIs),(63,cAdv),(64,zhi),(60,zi3),(105,zmE),(106,cAdd)]
theorem zpI(k:Nat)(hB:zaD zb gmH 59 (cBin k)):zaD zb gmH 124 (zlk (k+1)):=by
 have x0:HsOk zb gmH (hPm k):=.cons hB<|.cons zuC<|.cons zhk<|.cons zgF<|.cons zfB<|.cons zlq<|.cons zti .nil;refine zb9 zcC Tryz.func124 zbm Tryz.call124 za0 ?_;rintro w0 O fix B ty hX xb ⟨(s:List UInt8),(t:TokT),(l:List Nd),(b:Int),⟨⟩⟩ ⟨⟩ hp;have hI:=zaL (ty:=ty) (ty':=ty) hX rfl xb;obtain⟨x3,x8,xd⟩:pOk (s,t,l,b,())/\few (s,t,l,b,())/\meas s .prim (t,b)<k+1:=hp;have hg:GOk s (t,b):=x3.1;have x9:s.length<=100000:=x3.2;have x8:((l.length:Nat):Int)<=b:=x8;change AWP _ _ _ _ _ ⟨[(0,pSelf)],pE ty s (t,b) l,2⟩ (pQ _ (zlk (k+1)) ty (toX (trX s l) (prsT s .prim (t,b))));refine za (za (zaa zcC ?_));refine za (za (zae ?_));refine yZ 1 hX zcC x0 rfl t_ rfl rfl x3 hI ?_;refine yQ ?_;refine zaf rfl (λhb=>?_) (λhb=>?_)
 .have hb:gIs (t,b) zgc=true:=hb;rw[zpF hg hb];have x2:=zcr hg (zea hb);have x1:pOk (s,(gAdv s (t,b)).1,l,(gAdv s (t,b)).2,()):=⟨x2.1,x9⟩;have xk:=x2.rem hg;have xh:meas s (.bin ((0:Int)).toNat) (gAdv s (t,b))<k:=by
   simp only[meas,mdF]at xd ⊢;omega
  refine za (za (zae ?_));refine yZ 1 hX zcC x0 rfl t_ rfl rfl x3 hI ?_;refine yQ ?_;refine za (za (zae ?_));refine zax 1 hX zcC x0 rfl t_ rfl rfl ⟨x1,(by decide:(0:Int)<=0),(by decide:(0:Int)<=3),x8,xh⟩ hI (f:=trX s l) (e:=prsT s (.bin 0) (gAdv s (t,b))) rfl (λer h=>?_) (λa h=>?_)
  .rw[zal h];exact rfl
  rw[zao h];obtain⟨u,x5⟩:=a;have xa:=zed x2.1 h;have x7:pOk (s,x5.1,l++u.flat l.length,x5.2,()):=⟨xa.1,x9⟩;refine zaI zcC ?_;refine zak (Y':=⟨[(0,pSelf),(3,⟨i64,(((l.length+u.size:Nat):Int)-1)⟩)],pE ty s x5 (l++u.flat l.length),2⟩) ⟨⟨rfl,rfl,t_⟩,⟨rfl,rfl,t_⟩,rfl,rfl⟩ ?_;refine za (za (zae ?_));refine zax 1 hX zcC x0 rfl t_ rfl rfl x7 hI (e:=za3 s x5 zdi) rfl (λer h=>?_) (λxi h3=>?_)
  .rw[zal h];exact rfl
  rw[zao h3];refine yQ ?_;(repeat refine za (za (zaa zcC ?_)));refine za ?_;exact zp ⟨.inr rfl,⟨_,rfl,nd,1,_,rfl,rfl,rfl⟩,D1 rfl⟩
 have hb:gIs (t,b) zgc=false:=hb;apply zah
 iterate 2 (refine za (za (zaa zcC ?_)))
 refine zak (Y':=⟨[(0,pSelf),(4,⟨.optr tk,⟨2,tk,.here⟩⟩),(22,⟨.bool,yJ t==2⟩)],[(0,some (pBox ty s (t,b))),(1,some (.buf 46 nd l)),(2,some (.box tk t))],3⟩) ⟨⟨rfl,rfl,zcH rfl,t_⟩,⟨rfl,rfl,rfl,t_⟩,rfl,rfl⟩ ?_;refine zaf rfl (λhc=>?_) (λhc=>?_)
 .have hc:yJ t=2:=beq_iff_eq.1 hc;rw[zpG hg hb hc];have xj:(yB t).length<=100000:=by
   have:=hg.1.2.2.2.2.1;have this:(yB t).length<=s.length:=this;omega
  refine za (za (zae ?_));refine zax 5 hX zcC x0 rfl t_ rfl rfl x3 hI (e:=zaH (t,b) (decide ((yB t).length<=32)) 2) (congrArg (λc=>toX (λ_=>((),(s,t,l,b,()))) (zaH (t,b) c 2)) (dNat (yB t).length 32)) (λer h=>?_) (λa h=>?_)
  .rw[zal h];exact rfl
  rw[zao h];refine yQ ?_;refine za (za (zae ?_));refine zax 1 hX zcC x0 rfl t_ rfl rfl x3 hI (e:=zbX s (t,b)) rfl (λer h=>?_) (λx4 h1=>?_)
  .rw[zal h];exact rfl
  rw[zao h1];have x2:=zbn hg (by show yJ t≠0;rw[hc];decide) h1;have xf:=x2.1.2.2;have xe:=zdv h1;have x1:pOk (s,x4.1,l,x4.2,()):=⟨x2.1,x9⟩;have x6:l.length<=100000:=o_;refine yQ ?_;refine zak (Y':=⟨[(0,pSelf),(4,⟨.optr tk,⟨2,tk,.here⟩⟩)],[(0,some (pBox ty s x4)),(1,some (.buf 46 nd l)),(2,some (.box tk t))],3⟩) ⟨⟨rfl,rfl,t_⟩,⟨rfl,rfl,rfl,t_⟩,rfl,rfl⟩ ?_;refine za (za (zae ?_));refine yZ 4 hX zcC x0 rfl t_ rfl rfl ⟨x1,x6⟩ hI ?_;refine zaI zcC ?_;refine zp ⟨.inr rfl,⟨_,rfl,nd,1,_,rfl,rfl,rfl⟩,D1 ?_⟩;show((l.length:Nat):Int)=((l.length+1:Nat):Int)-1;omega
 .have hc:yJ t≠2:=λh=>by
   have h2:(yJ t==2)=true:=beq_iff_eq.2 h;have hc:(yJ t==2)=false:=hc;rw[h2]at hc;cases hc
  rw[zpH hg hb hc];apply zah;refine za (za (zae ?_));refine zax 7 hX zcC x0 rfl t_ rfl rfl x3 hI (e:=zaH (t,b) (yJ t==1) 3) rfl (λer h=>?_) (λa h=>?_)
  .rw[zal (by exact h)];exact rfl
  rw[zao (by exact h)];have xc:=beq_iff_eq.1 (zbP h);refine yQ ?_;refine za8 (Y':=⟨[(0,pSelf),(5,⟨.lit,((zhL (yB t)).map zdl).getD .nilFunc⟩),(6,⟨.bool,((zhL (yB t)).map zdl).isSome⟩)],pE ty s (t,b) l,2⟩) ?_ ?_
  .refine zbF dM 12 rfl (by kernel_rfl) ?_
   repeat'(first
    |exact kg
    |refine vD ⟨_,rfl,?_⟩ ?_
    |refine zX hX zcC rfl t_ ?_
    |refine jv rfl (zrO kU qP rfl (key:=strV (yB t)) (z:=.nilFunc) (es:=zma) (r:=(zhL (yB t)).map zdl) rfl rfl rfl rfl (zr8 rfl) pn (zr0 _) ?_)
    |refine jv rfl (zsD rfl rfl rfl rfl ?_)
    |refine jv rfl (zsC rfl rfl rfl rfl ?_)
    |(refine ve ?_;exact⟨⟨rfl,rfl,rfl,t_⟩,⟨rfl,rfl,t_⟩,rfl,rfl⟩))
  refine za (za (zae ?_));refine zax 2 hX zcC x0 rfl t_ rfl rfl x3 hI (e:=zaH (t,b) ((zhL (yB t)).map zdl).isSome 3) rfl (λer h=>?_) (λa h2=>?_)
  .cases hw:zhL (yB t) with
   |some w=>rw[hw]at h;cases h
   |none=>
    rw[hw]at h;cases h;exact rfl
  cases hw:zhL (yB t) with
  |none=>rw[hw]at h2;cases h2
  |some w=>
   refine yQ ?_;refine zak (Y':=⟨[(0,pSelf),(5,⟨.lit,zdl w⟩)],pE ty s (t,b) l,2⟩) ⟨⟨rfl,rfl,t_⟩,⟨rfl,rfl,t_⟩,rfl,rfl⟩ ?_;change AWP _ _ _ _ _ _ (pQ _ (zlk (k+1)) ty (toX (trX s l) (zbX s (t,b) >>=λst=>zdM s st w >>=λp=>.ok (.leaf p.1,p.2))));refine za (za (zae ?_));refine zax 1 hX zcC x0 rfl t_ rfl rfl x3 hI (e:=zbX s (t,b)) rfl (λer h=>?_) (λx4 h1=>?_)
   .rw[zal h];exact rfl
   rw[zao h1];have x2:=zbn hg (by show yJ t≠0;rw[xc];decide) h1;have xf:=x2.1.2.2;have xe:=zdv h1;have x1:pOk (s,x4.1,l,x4.2,()):=⟨x2.1,x9⟩;have x6:l.length<=100000:=o_;refine yQ ?_;refine zak (Y':=⟨[(0,pSelf),(5,⟨.lit,zdl w⟩)],pE ty s x4 l,2⟩) ⟨⟨rfl,rfl,t_⟩,⟨rfl,rfl,t_⟩,rfl,rfl⟩ ?_;obtain⟨f,hf,xg⟩:=zuz w;refine za (za (zae ?_));refine za4 3 zcC ?_;refine zph hX xg rfl rfl rfl (by show(⟨.lit,zdl w⟩:V)=_;rw[hf]) rfl rfl rfl rfl rfl rfl rfl rfl t_ x1 hI (λ_=>rfl) (e:=zdM s x4 w) rfl (λer h=>?_) (λr h4=>?_)
   .rw[zal h];exact rfl
   rw[zao h4];obtain⟨n0,x5⟩:=r;have xa:Onw s x4 x5:=zoS x2.1 w h4;have x7:pOk (s,x5.1,l,x5.2,()):=⟨xa.1,x9⟩;refine yZ 0 hX zcC x0 rfl t_ rfl rfl ⟨x7,x6⟩ hI ?_;refine zaI zcC ?_;refine zp ⟨.inr rfl,⟨_,rfl,nd,1,_,rfl,rfl,rfl⟩,D1 ?_⟩;show((l.length:Nat):Int)=((l.length+1:Nat):Int)-1;omega
def Rec3(k:Nat):Prop:=zaD zb gmH 59 (cBin k)/\zaD zb gmH 103 (zmD k)/\zaD zb gmH 124 (zlk k)
theorem ze9{P:zw}{G:zh->Prop}{f:zV}{c:HCtr}(hl:c.law)(x0:∀(vs:Array zd)(w:zh),(callFunc f vs).run P w=.ok (.enter f vs) w)(h:∀x xs,¬allP (c.pre x xs)):zaD P G f c:=
 ⟨x0,hl,λ_ _ _ _ _ x xs _ _ _ _ _ _ _ _ hp=>(h x xs hp).elim⟩
theorem zoi:∀k,Rec3 k
 |0=>by
  refine⟨ze9 zbm Tryz.call59 λx xs h=>?_,ze9 zbm Tryz.call103 λx xs h=>?_,ze9 zbm Tryz.call124 λx xs h=>?_⟩
  .exact absurd h.2.2.2.2 (yH _)
  .exact absurd h.2.2 (yH _)
  .exact absurd h.2.2 (yH _)
 |k+1=>by
  obtain⟨h1,h2,h3⟩:=zoi k;exact⟨zta k h1 h2,zuZ k h3,zpI k h1⟩
@[reducible] def nBox(s:List UInt8)(t:TokT)(b:Int):OObj:=.hbox 129 [⟨.str,s⟩,⟨i64,t.1⟩,⟨i64,t.2.1⟩,⟨i64,t.2.2.1⟩,⟨.str,t.2.2.2.1⟩,⟨i64,t.2.2.2.2.1⟩,⟨.lit,.slice none 0 0⟩,⟨i64,b⟩]
@[reducible] def cNewP:FCtr:={ args:=[.str],pre:=λxs=>[zi xs.1<=100000],obj:=λxs=>nBox xs.1 (zbL xs.1) 0 }
def zlV(s:List UInt8):zd:=.agg #[.string ⟨s.toArray⟩,.int .i64 0,.int .i64 0,.int .i64 0,.string ⟨#[]⟩,.int .i64 0,.slice none 0 0,.int .i64 0]
theorem zt5(s:List UInt8):zb.built 129 [(0,.string ⟨s.toArray⟩)]=some #[.string ⟨s.toArray⟩,.int .i64 0,.int .i64 0,.int .i64 0,.string ⟨#[]⟩,.int .i64 0,.slice none 0 0,.int .i64 0]:=by kernel_rfl
section
variable {w0:zh}{X:Ownr}{n:Nat}{Q:Exit->AS->Prop}{ops:Array Oper}
theorem zvp(hX:X.Ok w0){o1 o2:Oper}{rest:List Oper}{d1 d2:Nat}{x:zB}(x1:o1.op=.build 129 #[(0,x)])(x2:o2.op=.box 129 (.tmp d1))(x9:o1.guard=none)(x8:o2.guard=none)(x6:o1.dst=some d1)(x3:o2.dst=some d2)(x7:zM d1 n=true)(x4:zM d2 n=true){F:zN}{E:Owns}{nx:Nat}{s:List UInt8}(hx:evO F x=⟨.str,s⟩)
  (h:AL zb w0 X n ops rest ⟨(d2,⟨.hptr,(nx,(0:Nat))⟩)::(d1,⟨.lit,zlV s⟩)::F,(nx,some (nBox s zTk 0))::E,nx+1⟩ Q):AL zb w0 X n ops (o1::o2::rest) ⟨F,E,nx⟩ Q:=by
 refine jS x9 (λc e=>by rw[x1]at e;cases e) λU a w hs=>?_;have xa:d1<n:=by simpa using x7
 have xb:d2<n:=by simpa using x4
 have x0:=hs.ops x;rw[show evO (AS.mk F E nx).F x=_ from hx]at x0;obtain⟨x0,x5⟩:=x0;have x0:a.eval x=.string ⟨s.toArray⟩:=ww.1 x0;refine za5 (u:=zlV s) (w':=w) ?_ ?_
 .unfold execOp;simp only[x1];refine zbz ?_;rw[show(#[(0,x)]:Array (Nat×zB)).map (λp=>(p.1,a.eval p.2))= #[(0,Value.string ⟨s.toArray⟩)] from by simp[x0]];exact run_build w _ _ _ (zt5 s)
 rw[x6];refine⟨_,U,hs.put (zR _ _) (v:=⟨.lit,zlV s⟩) rfl (zk _) xa,?_⟩;refine jS x8 (λc e=>by rw[x2]at e;cases e) λU a w hs=>?_;have hv:a.eval (.tmp d1)=zlV s:=by
  have h1:=hs.ops (.tmp d1);have e:evO ((d1,⟨.lit,zlV s⟩)::F) (.tmp d1)=⟨.lit,zlV s⟩:=by
   show zn ((d1,_)::F) d1=_;rw[zam,if_pos rfl]
  rw[show evO (AS.mk ((d1,⟨.lit,zlV s⟩)::F) E nx).F (.tmp d1)=_ from e]at h1;exact h1
 refine za5 (u:=.pointer (some ⟨w.heap.size,0,none⟩)) (w':=w.alloc (.cells #[.string ⟨s.toArray⟩,.int .i64 0,.int .i64 0,.int .i64 0,.string ⟨#[]⟩,.int .i64 0,.slice none 0 0,.int .i64 0] 129 (0,0))) ?_ ?_
 .unfold execOp;simp only[x2];refine zbz ?_;rw[hv];simp[Instr.box,newVar,newRow,Value.cells,go_sem,zlV]
 .rw[x3];obtain⟨U',h4⟩:=hs.make hX ((zR _ w).alloc (zj _) (.cells #[.string ⟨s.toArray⟩,.int .i64 0,.int .i64 0,.int .i64 0,.string ⟨#[]⟩,.int .i64 0,.slice none 0 0,.int .i64 0] 129 (0,0))) (bv:=.pointer (some ⟨w.heap.size,0,none⟩)) (o:=nBox s zTk 0)
   (λO U' hO=>⟨w.heap.size,[_,_,_,_,_,_,_,_],rfl,zk _,qa w _,_,_,rfl,rfl,⟨rfl,x5⟩,_,_,rfl,rfl,rfl,_,_,rfl,rfl,rfl,_,_,rfl,rfl,rfl,_,_,rfl,rfl,⟨rfl,zk _⟩,_,_,rfl,rfl,rfl,_,_,rfl,rfl,rfl,_,_,rfl,rfl,rfl,rfl⟩)
   (λg hg=>by cases hg;exact zj _) (v:=⟨.hptr,(nx,(0:Nat))⟩) (u:=.pointer (some ⟨w.heap.size,0,none⟩))
   (λO U' hb=>⟨w.heap.size,by show zag (U' nx)=_;rw[show U' nx=_ from hb];rfl,rfl⟩) (zj _) xb (λvs e v hv=>by
     cases e;have:((nBox s zTk 0).bare)=true:=rfl;exact OObj.bare_under this _ _ rfl _ hv)
  exact⟨_,U',h4,h⟩
end
theorem ze0:zpc zb gmH 26 cNewP:=by
 refine znB zeJ Tryz.func26 rfl rfl Tryz.call26 rfl (zq rfl) (λxs=>⟨rfl,rfl⟩) ?_;rintro w0 O hX ⟨s,⟨⟩⟩ hp;have hlen:=hp;refine za (za (zaa zeJ ?_));refine za (za (zae ?_));refine za4 1 zeJ ?_;refine zvp hX rfl rfl rfl rfl rfl rfl rfl rfl rfl ?_;refine zaI zeJ ?_;refine za (za (zaa zeJ ?_));(repeat refine za (za (zaa zeJ ?_)));refine za ?_;exact zp ⟨.inr rfl,_,_,rfl,rfl,rfl⟩
def lQ(rs:List jw)(t:Ty)(r:Except zd t.T)(e:Exit)(Y:AS):Prop:=zyE gmT rs t e Y r
def zfe(s:List UInt8)(st:GSt)(l:List Nd):Except zd (List Nd):=toX (λr=>l++r.1.flat l.length) (zgC s st)
@[reducible] def zBl:HCtr:=hP [] (.slice nd) (λx _=>[few x]) λx _=>.ok ([],x)
def hRu(k:Nat):List (zV×HCtr):=[(59,cBin k),(60,zi3)]
theorem zq5:zfV zb gmH 27 zBl (λx _=>zfe x.1 (stOf x) x.2.2.1):=by
 refine zzq zaj Tryz.func27 zbm Tryz.call27 za0 ?_;rintro w0 O fix B ty hX x1 x ⟨⟩ hp;have hI:=zaL (ty:=ty) hX rfl x1 (ty':=ty);obtain⟨s,t,l,b,⟨⟩⟩:=x;obtain⟨x2,x0⟩:pOk (s,t,l,b,())/\few (s,t,l,b,()):=hp;have hg:GOk s (t,b):=x2.1;have x5:s.length<=100000:=x2.2;have x3:HsOk zb gmH (hRu (meas s (.bin 0) (t,b)+1)):=.cons (zoi _).1<|.cons zfB .nil;change AWP _ _ _ _ _ ⟨[(0,pSelf)],pE ty s (t,b) l,2⟩ (lQ _ (.slice nd) (zfe s (t,b) l));unfold zfe;obtain⟨R,hR⟩:∃R,R=zgC s (t,b):=⟨_,rfl⟩;rw[<-hR];unfold zgC at hR;refine za (za (zaa zaj ?_));refine za (za (zae ?_));refine zax 1 hX zaj x3 rfl t_ rfl rfl ⟨x2,(by decide:(0:Int)<=0),(by decide:(0:Int)<=3),x0,qp _⟩ hI (f:=trX s l) (e:=prsT s (.bin 0) (t,b)) rfl (λer h=>?_) (λa h=>?_)
 .rw[hR,zal h];exact rfl
 rw[h]at hR;obtain⟨u,st⟩:=a;have hc:=zed hg h;have x4:pOk (s,st.1,l++u.flat l.length,st.2,()):=⟨hc.1,x5⟩;refine zaI zaj ?_;refine za (za (zae ?_));refine zax 7 hX zaj x3 rfl t_ rfl rfl x4 hI (e:=zaH st (yJ st.1==0) 3) rfl (λer h=>?_) (λa h=>?_)
 .rw[show R=.error er by rw[hR];show(zaH st _ 3 >>=_)=_;rw[h];rfl];exact rfl
 rw[show R=.ok (u,st) by rw[hR];show(zaH st _ 3 >>=_)=_;rw[h];rfl];refine yQ ?_;(repeat refine za (za (zaa zaj ?_)));refine za ?_;refine AWP.frz hX 2 ?_;exact zp ⟨.inr rfl,D1 rfl⟩
def gDef(s:List UInt8)(st:GSt)(n:Int):Except (Int×Int) (List UInt8×Tr):=do
 zaH st (yJ st.1==1) 3
 zaH st (decide ((yB st.1).length<=32)&&decide (n<4096)) 2
 let st'<-za3 s (gAdv s st) wEq
 let p<-zgC s st'
 return (yB st.1,p.1)
def zp8(s:List UInt8)(st:GSt)(l:List Nd)(n:Int):Except zd (List UInt8×List Nd×Unit):=toX (λr=>(r.1,l++r.2.flat l.length,())) (gDef s st n)
@[reducible] def cDef:HCtr:=hP [i64] de (λx _=>[few x]) λx _=>.ok (([],[],()),x)
def hDf:List (zV×HCtr):=[(60,zi3),(63,cAdv),(64,zhi)]
theorem zoN:HsOk zb gmH hDf:=.cons zfB<|.cons zhk<|.cons zgF .nil
theorem zgJ:zfV zb gmH 33 cDef (λx xs=>zp8 x.1 (stOf x) x.2.2.1 xs.1):=by
 refine zzq zaj Tryz.func33 zbm Tryz.call33 za0 ?_;rintro w0 O fix B ty hX x8 x ⟨(k:Int),⟨⟩⟩ hp;have hI:=zaL (ty:=ty) hX rfl x8 (ty':=ty);obtain⟨s,t,l,b,⟨⟩⟩:=x;obtain⟨x4,x9⟩:pOk (s,t,l,b,())/\few (s,t,l,b,()):=hp;have hg:GOk s (t,b):=x4.1;have xb:s.length<=100000:=x4.2;change AWP _ _ _ _ _ ⟨[(0,pSelf),(1,⟨i64,k⟩)],pE ty s (t,b) l,2⟩ (lQ _ de (zp8 s (t,b) l k));unfold zp8;obtain⟨R,hR⟩:∃R,R=gDef s (t,b) k:=⟨_,rfl⟩;rw[<-hR];unfold gDef at hR;have xf:(yB t).length<=100000:=by
  have:=hg.1.2.2.2.2.1;have this:(yB t).length<=s.length:=this;omega
 refine za (za (zaa zaj ?_));refine za (za (zae ?_));refine zax 7 hX zaj zoN rfl t_ rfl rfl x4 hI (e:=zaH (t,b) (yJ t==1) 3) rfl (λer h=>?_) (λa h=>?_)
 .rw[hR,zal (by exact h)];exact rfl
 have xa:yJ t=1:=beq_iff_eq.1 (zbP h);rw[show(zaH (t,b) (yJ (t,b).1==1) 3)=.ok a from h]at hR;have hR:R=(zaH (t,b) (decide ((yB t).length<=32)&&decide (k<4096)) 2 >>=λ_=>za3 s (gAdv s (t,b)) wEq >>=λst'=>zgC s st' >>=λp=>.ok (yB t,p.1)):=hR;refine yQ ?_;refine zak (Y':=⟨[(0,pSelf),(1,⟨i64,k⟩),(4,⟨.optr de,⟨2,de,.here⟩⟩)],[(0,some (pBox ty s (t,b))),(1,some (.buf 46 nd l)),(2,some (.box de ([],[],())))],3⟩) ⟨⟨rfl,rfl,rfl,t_⟩,⟨rfl,rfl,rfl,t_⟩,rfl,rfl⟩ ?_;refine za (za (zae ?_));refine zax 12 hX zaj zoN rfl ?_ rfl rfl x4 hI (e:=zaH (t,b) (bif decide (((yB t).length:Int)<=((32:Nat):Int)) then decide (k<4096) else false) 2) rfl (λer h=>?_) (λa h=>?_)
 .exact z_
 .rw[zcA,dNat]at h;rw[hR,zal h];exact rfl
 rw[zcA,dNat]at h;rw[h]at hR;have hR:R=(za3 s (gAdv s (t,b)) wEq >>=λst'=>zgC s st' >>=λp=>.ok (yB t,p.1)):=hR;refine yQ ?_;refine zak (Y':=⟨[(0,pSelf),(4,⟨.optr de,⟨2,de,.here⟩⟩)],[(0,some (pBox ty s (t,b))),(1,some (.buf 46 nd l)),(2,some (.box de ([],[],())))],3⟩) ⟨⟨rfl,rfl,t_⟩,⟨rfl,rfl,rfl,t_⟩,rfl,rfl⟩ ?_;have x5:=zcr hg (by show yJ t≠0;rw[xa];decide);obtain⟨x1,x2⟩:∃x1,x1=gAdv s (t,b):=⟨_,rfl⟩;have xd:x1.2=b:=by rw[x2];rfl
 refine za (za (zae ?_));refine yZ 1 hX zaj zoN rfl t_ rfl rfl x4 hI ?_;rw[<-x2]at hR x5;refine jp (Y':=⟨[(0,pSelf),(4,⟨.optr de,⟨2,de,.here⟩⟩),(28,⟨tk,t⟩)],[(0,some (pBox ty s x1)),(1,some (.buf 46 nd l)),(2,some (.box de ([],[],())))],3⟩) ⟨⟨rfl,rfl,rfl,t_⟩,⟨by rw[x2];rfl,rfl,rfl,t_⟩,rfl,rfl⟩ ?_;refine zaI zaj ?_;refine zak (Y':=⟨[(0,pSelf),(4,⟨.optr de,⟨2,de,.here⟩⟩),(5,⟨.optr de,⟨3,de,.here⟩⟩)],[(0,some (pBox ty s x1)),(1,some (.buf 46 nd l)),(2,some (.box de ([],[],()))),(3,some (.box de (yB t,[],())))],4⟩) ⟨⟨rfl,rfl,rfl,t_⟩,⟨rfl,rfl,rfl,rfl,t_⟩,rfl,rfl⟩ ?_;have x6:pOk (s,x1.1,l,x1.2,()):=⟨x5.1,xb⟩;refine za (za (zae ?_));refine zax 1 hX zaj zoN rfl t_ rfl rfl x6 hI (e:=za3 s x1 wEq) rfl (λer h=>?_) (λx0 h2=>?_)
 .rw[hR,zal (by exact h)];exact rfl
 rw[h2]at hR;have hR:R=(zgC s x0 >>=λp=>.ok (yB t,p.1)):=hR;have xc:=zby x5.1 h2;have xe:=zej h2;have x7:pOk (s,x0.1,l,x0.2,()):=⟨xc.1,xb⟩;have x3:few (s,x0.1,l,x0.2,()):=by
  show((l.length:Nat):Int)<=x0.2;rw[xe,xd];exact x9
 refine yQ ?_;refine zak (Y':=⟨[(0,pSelf),(4,⟨.optr de,⟨2,de,.here⟩⟩),(5,⟨.optr de,⟨3,de,.here⟩⟩)],[(0,some (pBox ty s x0)),(1,some (.buf 46 nd l)),(2,some (.box de ([],[],()))),(3,some (.box de (yB t,[],())))],4⟩) ⟨⟨rfl,rfl,rfl,t_⟩,⟨rfl,rfl,rfl,rfl,t_⟩,rfl,rfl⟩ ?_;refine za (za (zae ?_));refine za4 1 zaj ?_;refine AL.give hX zq5 rfl rfl rfl rfl rfl rfl rfl rfl rfl rfl rfl rfl t_ ⟨x7,x3⟩ hI rfl rfl ?_;cases h3:zgC s x0 with
 |error er=>
  rw[h3]at hR;rw[show zfe s (stOf (s,x0.1,l,x0.2,())) l=.error (pvS er) by unfold zfe;rw[show stOf (s,x0.1,l,x0.2,())=x0 from rfl,h3];rfl];rw[show R=.error er from hR];exact rfl
 |ok p=>
  rw[h3]at hR;rw[show zfe s (stOf (s,x0.1,l,x0.2,())) l=.ok (l++p.1.flat l.length) by unfold zfe;rw[show stOf (s,x0.1,l,x0.2,())=x0 from rfl,h3];rfl];rw[show R=.ok (yB t,p.1) from hR];refine zaI zaj ?_;(repeat refine za (za (zaa zaj ?_)));refine za ?_;exact zp ⟨.inr rfl,D1 rfl⟩
def ztp(c:HCtr)(ty:zo)(e:Exit)(Y:AS):Except zd (c.res.T×c.self.T)->Prop
 |.ok (_,x')=>(e=.normal\/e=.ret)/\∃vs,zm Y.E 0=some (.hbox ty vs)/\unH c 0 vs Y.E x'
 |.error pv=>e=.panic [{ v:=pv,recovered:=false }]
section
variable {P:zw}{K:Kn}{n:Nat}
theorem zhB{G:zh->Prop}(hK:KnOk P G K){f:zV}{fn:Func}{c:Code}{ctr:HCtr}(hf:P.funcs[f]? =some fn)(hb:fn.body=some c)(hn:fn.ntmps=n)(x0:ctr.law)
  (xw:∀(us:Array zd)(w:zh),(callFunc f us).run P w=.ok (.enter f us) w) (x2:ctr.res=.unit) (xx:∀tmps w,∃v,(results fn tmps).run P w=.ok v w) (hd:zaN ctr.args=true) (hlen:ctr.args.length+1<=n) (xp:∀w w' R ty,ctr.inv w R ty->G w->Kept R w w'->G w')
  (h:∀(w0:zh)(X:Ownr)(ty:zo),X.Ok w0->X.G=G->X.K=1->X.ρ=none->X.D=[]->ctr.inv w0 X.R ty->∀(x:ctr.self.T)(xs:Args ctr.args),allP (ctr.pre x xs)->
    AWP P w0 X n c (zjv ctr ty x xs) (λe Y=>ztp ctr ty e Y (ctr.out x xs))):zaD P G f ctr:=by
 refine⟨xw,x0,λw O g cs ty x xs vs b hO xo hg hx x9 xb hp x6 hG=>calls_of_wp hf hb ?_⟩;obtain⟨X,x1,hX,x8,xa⟩:=zxE (ctr:=ctr) (G:=G) hn x0 hd hlen xp hO xo hg hx x9 xb x6 hG;have xt:X.X=O:=by rw[x1]
 have xu:X.G=G:=by rw[x1]
 have x7:ctr.inv w X.R ty:=by
  rw[show X.R=λh=>h=g\/zag b=some h from funext λh=>propext (x8 h)];exact x6
 have hw:=h w X ty hX xu (by rw[x1]) (by rw[x1]) (by rw[x1]) x7 x xs hp _ _ _ xa;rw[show X.ρ=none by rw[x1]]at hw;refine wp_mono (wpIn_wide.1 hw) λe a' w'⟨Y',U',h1,h2⟩=>?_;have xd:Kept (λh=>h=g\/zag b=some h) w w':=⟨h1.bel.os,h1.bel.tape,h1.bel.output,h1.bel.size,λk hk hr=>h1.bel.block k hk λxv=>hr ((x8 k).1 xv)⟩;have xe:a'.defers=[]:=by rw[h1.df,x1]
 revert h2;cases ho:ctr.out x xs with
 |error pv=>
  rintro rfl;exact⟨xe,xd,rfl⟩
 |ok p=>
  obtain⟨y,x'⟩:=p;rintro ⟨h2,ws,h6,h7⟩;obtain⟨xz,j,k1,k2,_,_⟩:=zgf x0 h7;obtain⟨g',xc,x5,_,xg,xy⟩:=h1.own 0 _ h6;have xk:=(h1.fix.2 0 (by rw[x1];exact qp 0)).1;rw[x5]at xk;have xq:g'=g:=by
   have h:=xk;rw[x1]at h;exact zP h
  subst xq;have hj:=h1.own j _ k2;have xh:(0:Nat)≠j:=λe=>by rw[<-e,h6]at k2;cases k2
  have xf:∀k,zb0 O g' (U' j) k->OSet X Y'.E U' k:=λk hk=>by
   rcases hk with (hk|hk)|hk
   .exact .inl (by rw[xt];exact hk)
   .exact .inr ⟨0,_,h6,by rw[x5,hk];rfl⟩
   .exact .inr ⟨j,_,k2,hk⟩
  have xn:Keeps w' w' (OSet X Y'.E U') (zb0 O g' (U' j)):=⟨zj _,λ_ _ _=>rfl,λk _ hk=>xf k hk⟩;have x3:RepH w' (zb0 O g' (U' j)) (zdP g' (U' j)) (ctr.lv 0 1 x') xc:=RepH.toLv x0 xn h7 xy (λj' xr xj=>by
   rw[k1]at xj;cases xj;rfl) (by rw[x5];rfl)
  have xi:=hj.keep xn λ_ _=>rfl;have x4:∀h,zag (U' j)=some h->zag b=some h\/w.heap.size<=h:=λh hh=>by
   rcases h1.new j _ h k2 hh with h8|h8
   .exact .inr h8
   .rcases (x8 h).1 h8 with rfl|h8
    .exact absurd hh (h1.inj 0 j _ _ h6 k2 xh h (by rw[x5];rfl))
    .exact .inl h8
  have xm:=h1.inj 0 j _ _ h6 k2 xh g' (by rw[x5];rfl);obtain⟨v,h4⟩:=xx a'.tmps w';rcases h2 with rfl|rfl
  .exact⟨xe,v,h4,xd,v,xc,_,rfl,xg,x3,xi,xm,x4,.inl x2⟩
  .exact⟨xe,v,h4,xd,v,xc,_,rfl,xg,x3,xi,xm,x4,.inl x2⟩
end
abbrev prT:Ty:=.pair (.slice nd) .unit
@[reducible] def bTy(T:Ty):Ty:=.pair .bool (.pair bs T)
def bInv(T:Ty)(x0:List zo)(w:zh)(R:Nat->Prop)(ty:zo):Prop:=ginv w R ty/\ty∈x0
theorem zeb(T:Ty)(x0:List zo):∀w w' R(ty:zo),bInv T x0 w R ty->gmH w->Kept R w w'->gmH w':=λ_ _ _ ty h hg hk=>za0 _ _ _ ty h.1 hg hk
@[reducible] def hBl(T:Ty)(x0:List zo)(args:List Ty)(res:Ty)(pre:(bTy T).T->Args args->List Prop)(out:(bTy T).T->Args args->Except zd (res.T×(bTy T).T)):HCtr:=
 { self:=bTy T,k:=1,ad:=some 0,on:=λx=>x.1,te:=5,et:=u8,sl:=λx=>x.2.1,args:=args,inv:=bInv T x0,pre:=pre,res:=res,out:=out }
theorem zcy{T:Ty}(hT:T.leafD=true){x0:List zo}{args:List Ty}{res:Ty}{pre:(bTy T).T->Args args->List Prop}{out:(bTy T).T->Args args->Except zd (res.T×(bTy T).T)}:(hBl T x0 args res pre out).law:=
 ⟨hT,λ_=>rfl,λa h=>by cases h;exact⟨Nat.zero_ne_one,λ_=>rfl⟩⟩
def tyOk(T:Ty):List zo->Prop:=λx0=>∀ty∈x0,(ty=66\/ty=64)/\∀x:T.T,(za7 T x).length=if ty=64 then 0 else 1
@[reducible] def cCC(T:Ty)(x0:List zo):HCtr:=hBl T x0 [] .unit (λ_ _=>[]) λx _=>.ok ((),(true,x.2))
theorem zrL(T:Ty)(x0:List zo){args:List Ty}{res:Ty}{pre:(bTy T).T->Args args->List Prop}{out:(bTy T).T->Args args->Except zd (res.T×(bTy T).T)}(i j:Nat)(x:(bTy T).T):(hBl T x0 args res pre out).lv i j x=adV i x.1::⟨.obuf u8,j⟩::za7 T x.2.2:=rfl
theorem zoh{w:zh}{O:Nat->Prop}{U:Nat->zd}:∀{vs:List V}{cs:List zd},RepH w O U vs cs->cs.length=vs.length
 | [],_,h=>by rw[show _=[] from h];rfl
 |v::r,_,⟨u,s,rfl,_,_,h⟩=>by rw[zv,zv,zoh h]
theorem zhF(T:Ty)(hT:T.leafD=true)(x5:List zo)(ht:tyOk T x5):zaD zb gmH 68 (cCC T x5):=by
 refine⟨Tryz.call68,zcy hT,λw O g cs ty x xs vs b hO x1 hg hx x0 x3 x8 x2 hG=>?_⟩;have hvs:vs=[]:=x3;subst hvs;rw[zrL]at hx;obtain⟨u,r,rfl,xa,hu,hr⟩:=hx;obtain⟨x7,hlen⟩:=ht ty x2.2;have x6:=zoh hr;rw[zv,hlen]at x6;have x9:=(zl.1 hg).1;cases hx1:x.1 with
 |true=>
  rw[hx1]at hu;obtain⟨g',e1,e2⟩:∃g',zag (zdP g b 0)=some g'/\u=.pointer (some ⟨g',0,none⟩):=hu;have e1:some g=some g':=e1;cases e1;subst e2;have hc:w.cell? ⟨g,0,none⟩=some (.pointer (some ⟨g,0,none⟩)):=by simp[qi,hg]
  refine(Go.Proofs.Any.Builder_copyCheck_used Tryz.lays240 Tryz.Builder_X72_240 g w hc).mono ?_;rintro e w' ⟨rfl,rfl⟩;refine⟨jx _ _,_,_,b,rfl,hg,?_,x0,x1,λh hh=>.inl hh,.inl rfl⟩;rw[zrL];exact⟨_,_,rfl,rfl,⟨g,rfl,rfl⟩,hr⟩
 |false=>
  rw[hx1]at hu;have hu:u=.pointer none:=hu;subst hu;refine(zjB ty x7 g w r (by rw[x6];split<;>rfl) hg).mono ?_;rintro e w' ⟨rfl,rfl⟩;have hk:Kept (λh=>h=g\/zag b=some h) w (w.setCell ⟨g,0,none⟩ (.pointer (some ⟨g,0,none⟩))):=⟨rfl,rfl,rfl,by simp[World.setCell],λk _ hn=>qW w ⟨g,0,none⟩ _ k λe=>hn (.inl e)⟩;have x4:Keeps w (w.setCell ⟨g,0,none⟩ (.pointer (some ⟨g,0,none⟩))) (zb0 O g b) (zb0 O g b):=⟨hk.size,λk _ hn=>qW w ⟨g,0,none⟩ _ k λe=>hn (.inl (.inr e)),λ_ _ h=>h⟩;refine⟨hk,_,.pointer (some ⟨g,0,none⟩)::r,b,rfl,?_,?_,x0.keep x4 λk hk=>qW w ⟨g,0,none⟩ _ k λe=>x1 (by rw[hk,e]),x1,λh hh=>.inl hh,.inl rfl⟩
  .show(w.heap.modify g _)[g]? =_;rw[qo (by rw[wV];exact x9),wH,(zl.1 hg).2];simp
  .rw[zrL];exact⟨_,_,rfl,rfl,⟨g,rfl,rfl⟩,hr.keep x4⟩
def Ty.noB:Ty->Bool
 |.obuf _=>false
 |.cond t=>t.noB
 |.hcons a b=>a.noB&&b.noB
 |_=>true
theorem RepV.fixβ{w:zh}{O:Nat->Prop}{U U':Nat->zd}{K:Nat}(x0:∀i,i<K->zag (U' i)=zag (U i)):∀(t:Ty)(x:t.T)(v:zd),t.noB=true->bnd t x<=K->RepV w O U t x v->RepV w O U' t x v:=by
 intro t
 induction t with
 |optr t _=>
  rintro x v _ hb ⟨g,h1,h2⟩;have hb:x.i+1<=K:=hb;exact⟨g,(x0 _ o_).trans h1,h2⟩
 |obuf t _=>intro x v hn;cases hn
 |cond t ih=>intro x v hn hb h;exact⟨λhc=>ih _ _ hn hb (h.1 hc),h.2⟩
 |hptr=>
  rintro x v _ hb ⟨g,h1,h2⟩;have hb:x.1+1<=K:=hb;exact⟨g,(x0 _ o_).trans h1,h2⟩
 |hcons a b iha ihb=>
  rintro x v hn hb ⟨u,s,h1,h2,h3,h4⟩;have x1:max (bnd a x.1) (bnd b x.2)<=K:=hb;have hn:(a.noB&&b.noB)=true:=hn;rw[zf]at hn;exact⟨u,s,h1,h2,iha _ _ hn.1 o_ h3,ihb _ _ hn.2 o_ h4⟩
 |_=>intro x v _ hb h;exact h
def zmd(K:Nat)(v:V):V:=bif v.t.noB&&qO v.bound K then v else ⟨.junk,()⟩
def zmf(K:Nat):List (Nat×V)->List (Nat×V)
 | []=>[]
 |(s,v)::r=>(s,zmd K v)::zmf K r
theorem ziN(K:Nat):∀(F:zN)(s:Nat),zn (zmf K F) s=zmd K (zn F s)
 | [],s=>rfl
 |(d,v)::r,s=>by
  show zn ((d,zmd K v)::zmf K r) s=_;rw[zam,zam];by_cases h:d=s
  .rw[if_pos h,if_pos h]
  .rw[if_neg h,if_neg h,ziN K r s]
theorem zr9{w w':zh}{O O':Nat->Prop}{U U':Nat->zd}{K:Nat}(hk:Keeps w w' O O')(x0:∀i,i<K->zag (U' i)=zag (U i)){v:V}{u:zd}(h:RepV w O U v.t v.x u):RepV w' O' U' (zmd K v).t (zmd K v).x u:=by
 unfold zmd;cases hc:v.t.noB&&qO v.bound K with
 |false=>trivial
 |true=>
  rw[zf]at hc;exact RepV.fixβ x0 _ _ _ hc.1 (zq hc.2) (zZ hk _ _ _ h)
theorem znq{K:Nat}(v:V):(zmd K v).bound<=K:=by
 unfold zmd;cases hc:v.t.noB&&qO v.bound K with
 |false=>exact zk _
 |true=>
  rw[zf]at hc;exact zq hc.2
def zfT(E:Owns):Nat->Bool
 |0=>true
 |k+1=>(match zm E k with
  |some o=>!o.isBuf
  |none=>false)&&zfT E k
theorem zkb{E:Owns}:∀{K:Nat},zfT E K=true->∀i,i<K->∃o,zm E i=some o/\o.isBuf=false
 |0,_,i,hi=>absurd hi (yH _)
 |k+1,h,i,hi=>by
  have h:((match zm E k with
   |some o=>!o.isBuf
   |none=>false)&&zfT E k)=true:=h
  rw[zf]at h;by_cases hk:i=k
  .subst hk;have h1:=h.1;cases ho:zm E i with
   |none=>rw[ho]at h1;cases h1
   |some o=>rw[ho]at h1;exact⟨o,rfl,by simpa using h1⟩
  .exact zkb h.2 i o_
def zxX(U:Nat->zd)(i:Nat):Nat:=(zag (U i)).getD 0
def inX(X:Ownr)(E:Owns)(U:Nat->zd)(K:Nat)(ex:Nat->Prop):Ownr:={ G:=X.G,X:=λg=>X.X g\/ex g,K:=K,fix:=zxX U,D:=[],ρ:=none,B:=λg=>∃i o,zm E i=some o/\zag (U i)=some g }
section
variable {w0 w w1:zh}{X:Ownr}{n m K:Nat}{F F':zN}{E:Owns}{nx:Nat}{U:Nat->zd}{a a1:Act}{ex:Nat->Prop}
theorem zi6(h:Sim w0 X n ⟨F,E,nx⟩ U a w)(hb:zfT E K=true){i:Nat}(hi:i<K):∃o,zm E i=some o/\o.isBuf=false/\zag (U i)=some (zxX U i):=by
 obtain⟨o,ho,x0⟩:=zkb hb i hi;refine⟨o,ho,x0,?_⟩;have h1:=h.own i o ho;unfold zxX;cases o with
 |box t x=>obtain⟨g,_,_,e,_⟩:=h1;rw[e];rfl
 |buf te t xs=>cases x0
 |hbox ty vs=>obtain⟨g,_,e,_⟩:=h1;rw[e];rfl
 |mp m I=>obtain⟨_,_,e,_⟩:=h1;rw[e];rfl
theorem zjw(h:Sim w0 X n ⟨F,E,nx⟩ U a w)(hb:zfT E K=true){g:Nat}:(inX X E U K ex).R g↔∃i o,zm E i=some o/\zag (U i)=some g:=by
 constructor
 .rintro (⟨i,hi,rfl⟩|h1)
  .obtain⟨o,ho,_,hf⟩:=zi6 h hb hi;exact⟨i,o,ho,hf⟩
  .exact h1
 .exact λh1=>.inr h1
theorem zhU(h:Sim w0 X n ⟨F,E,nx⟩ U a w){g:Nat}(hg:∃i o,zm E i=some o/\zag (U i)=some g):g<w.heap.size:=by
 obtain⟨i,o,ho,hf⟩:=hg;exact((h.own i o ho).block_lt hf).2
theorem zvV(h:Sim w0 X n ⟨F,E,nx⟩ U a w)(hX:X.Ok w0)(x0:xG w.heap.size w w1)(hex:∀g,ex g->w.heap.size<=g/\g<w1.heap.size)(hb:zfT E K=true):(inX X E U K ex).Ok w1:=by
 have x1:=h.bel.size;have x3:=x0.size;refine⟨λg hg=>?_,λg hg=>?_,λw' hk=>?_⟩
 .rcases hg with hg|hg
  .have:=hX.1 g hg;refine⟨by omega,λhr=>?_⟩;obtain⟨i,o,ho,hf⟩:=(zjw h hb).1 hr;rcases h.new i o g ho hf with h1|h1
   .omega
   .exact this.2 h1
  .have:=hex g hg;refine⟨this.2,λhr=>?_⟩;have:=zhU h ((zjw h hb).1 hr);omega
 .have:=zhU h ((zjw h hb).1 hg);omega
 .refine hX.2.2 w' ⟨hk.os.trans (x0.os.trans h.bel.os),hk.tape.trans (x0.tape.trans h.bel.tape),hk.output.trans (x0.output.trans h.bel.output),zJ x1 (zJ x3 hk.size),λk x4 hr=>?_⟩;rw[hk.block k o_ λx2=>?_,x0.block k o_,h.bel.block k x4 hr];obtain⟨i,o,ho,hf⟩:=(zjw h hb).1 x2;rcases h.new i o k ho hf with h1|h1
  .omega
  .exact hr h1
theorem Sim.goIn(h:Sim w0 X n ⟨F,E,nx⟩ U a w)(x1:xG w.heap.size w w1)(hex:∀g,ex g->w.heap.size<=g/\g<w1.heap.size)(hb:zfT E K=true)(x4:K<=nx)(x7:a1.tmps.size=m)(x6:a1.defers=[])(x2:∀s,RepV w (OSet X E U) U (zn F' s).t (zn F' s).x (a1.tmps.getD s undef))(x5:bndB nx F'=true):
  Sim w1 (inX X E U K ex) m ⟨F',E,nx⟩ U a1 w1:=by
 have hk:Keeps w w1 (OSet X E U) (OSet (inX X E U K ex) E U):=.of_below x1 λg hg x3=>by
  rcases x3 with (h1|h1)|h1
  .exact .inl h1
  .have:=hex g h1;omega
  .exact .inr h1
 refine⟨x7,x6,jx _ _,λs=>zZ hk _ _ _ (x2 s),λi o ho=>(h.own i o ho).keep hk λg hg=>x1.block g ((h.own i o ho).block_lt hg).2,λi o g ho hg=>.inr ((zjw h hb).2 ⟨i,o,ho,hg⟩),h.inj,h.lt,⟨x4,λi hi=>?_⟩,λs=>zdx x5 s,h.hE⟩;obtain⟨o,ho,x8,hf⟩:=zi6 h hb hi;exact⟨hf,λo' x0=>by
  have x0:zm E i=some o':=x0;rw[ho]at x0;cases x0;exact x8⟩
theorem Sim.goOut(h:Sim w0 X n ⟨F,E,nx⟩ U a w)(hX:X.Ok w0)(x1:xG w.heap.size w w1)(hex:∀g,ex g->w.heap.size<=g/\g<w1.heap.size)(hb:zfT E K=true)(hK:X.K<=K){Y:AS}{U':Nat->zd}{w' x3:zh}(h':Sim w1 (inX X E U K ex) m Y U' a1 w')(hk:Kept ex w' x3):
  Sim w0 X n ⟨zmf K F,Y.E,Y.nx⟩ U' a x3:=by
 have xe:=zvV h hX x1 hex hb;have xc:=h.bel.size;have xd:=x1.size;have xb:=h'.bel.size;have x8:=hk.size;have x2:∀i o g,zm Y.E i=some o->zag (U' i)=some g->w1.heap.size<=g\/∃i o,zm E i=some o/\zag (U i)=some g:=λi o g ho hg=>(h'.new i o g ho hg).imp id (zjw h hb).1;have x4:∀i o g,zm Y.E i=some o->zag (U' i)=some g->¬ex g:=λi o g ho hg he=>by
  have h1:=hex g he;rcases x2 i o g ho hg with h2|h2
  .omega
  .have:=zhU h h2;omega
 have x5:∀i,i<K->zag (U' i)=zag (U i):=λi hi=>by
  obtain⟨o,ho,_,hf⟩:=zi6 h hb hi;exact((h'.fix.2 i hi).1).trans hf.symm
 have x9:Keeps w x3 (OSet X E U) (OSet X Y.E U'):=by
  refine⟨by omega,λg hg hn=>?_,λg hg x0=>?_⟩
  .rw[hk.block g o_ λhe=>?_,h'.bel.block g o_ λhr=>?_,x1.block g hg]
   .exact hn (.inr ((zjw h hb).1 hr))
   .have:=hex g he;omega
  .rcases x0 with h1|⟨i,o,ho,x0⟩
   .exact .inl h1
   .rcases x2 i o g ho x0 with h2|h2
    .omega
    .exact .inr h2
 have xa:Keeps w' x3 (OSet (inX X E U K ex) Y.E U') (OSet X Y.E U'):=by
  refine⟨x8,λg hg hn=>hk.block g hg λhe=>hn (.inl (.inr he)),λg hg x0=>?_⟩;rcases x0 with h1|h1
  .exact .inl (.inl h1)
  .exact .inr h1
 refine⟨h.sz,h.df,?_,λs=>?_,λi o ho=>(h'.own i o ho).keep xa λg hg=>hk.block g ((h'.own i o ho).block_lt hg).2 (x4 i o g ho hg),λi o g ho hg=>?_,h'.inj,h'.lt,⟨zJ hK h'.fix.1,λi hi=>?_⟩,λs=>?_,h'.hE⟩
 .refine⟨hk.os.trans (h'.bel.os.trans (x1.os.trans h.bel.os)),hk.tape.trans (h'.bel.tape.trans (x1.tape.trans h.bel.tape)),hk.output.trans (h'.bel.output.trans (x1.output.trans h.bel.output)),by omega,λk x7 hr=>?_⟩;rw[hk.block k o_ λhe=>?_,h'.bel.block k o_ λx6=>?_,x1.block k o_,h.bel.block k x7 hr]
  .obtain⟨i,o,ho,hf⟩:=(zjw h hb).1 x6;rcases h.new i o k ho hf with h1|h1
   .omega
   .exact hr h1
  .have:=hex k he;omega
 .
  rw[ziN];exact zr9 x9 x5 (h.fr s)
 .rcases x2 i o g ho hg with h2|⟨i',o',ho',x0⟩
  .exact .inl o_
  .exact h.new i' o' g ho' x0
 .
  exact⟨(x5 i o_).trans (h.fix.2 i hi).1,(h'.fix.2 i (by show i<K;omega)).2⟩
 .
  rw[ziN];exact zJ (znq _) h'.fix.1
def Ends(e:Exit)(en:Ending):Prop:=((e=.normal\/e=.ret)/\∃v,en=.returned v)\/∃ch,e=.panic ch/\en=.panicked ch
theorem Sim.inl{P:zw}(h:Sim w0 X n ⟨F,E,nx⟩ U a w)(hX:X.Ok w0)(x3:xG w.heap.size w w1)(hex:∀g,ex g->w.heap.size<=g/\g<w1.heap.size)(hb:zfT E K=true)(x7:K<=nx)(hK:X.K<=K){f:zV}{fn:Func}{c:Code}(hf:P.funcs[f]? =some fn)(x9:fn.body=some c)(hn:fn.ntmps=m)(x2:fn.results= #[])
  {caps:Array zd} (xc:caps.size<=m) (xa:∀s,RepV w (OSet X E U) U (zn F' s).t (zn F' s).x ((caps++zD (m-caps.size) undef).getD s undef)) (x8:bndB nx F'=true) {Q:Exit->AS->Prop} (hq:∀e Y,Q e Y->e=.normal\/e=.ret\/∃ch,e=.panic ch)
  (hw:∀X':Ownr,X'.Ok w1->X'.G=X.G->X'.K=K->X'.ρ=none->X'.D=[]->(∀g,X'.R g->w0.heap.size<=g\/X.R g)->AWP P w1 X' m c ⟨F',E,nx⟩ Q):
  Calls P f caps w1 λen w'=>w1.heap.size<=w'.heap.size/\(∀g,ex g->w'.heap[g]? =w1.heap[g]?)/\∃e Y,Ends e en/\Q e Y/\∀x1,Kept ex w' x1->∃U',Sim w0 X n ⟨zmf K F,Y.E,Y.nx⟩ U' a x1:=by
 refine calls_of_wp hf x9 ?_;have xb:=zvV h hX x3 hex hb;have x5:=h.goIn (a1:={ tmps:=caps++zD (fn.ntmps-caps.size) undef,defers:=[] }) (m:=m) x3 hex hb x7 (by simp[hn];omega) rfl (by rw[hn];exact xa) x8;have hR:∀g,(inX X E U K ex).R g->w0.heap.size<=g\/X.R g:=λg hg=>by
  obtain⟨i,o,ho,hf⟩:=(zjw h hb).1 hg;exact h.new i o g ho hf
 refine wp_mono (wpIn_wide.1 (hw _ xb rfl rfl rfl rfl hR U _ w1 x5)) λe a' w'⟨Y,U',h',hQ⟩=>?_;have x6:∀g,ex g->w'.heap[g]? =w1.heap[g]? :=λg he=>by
  have h1:=hex g he;refine h'.bel.block g h1.2 λhr=>?_;have:=zhU h ((zjw h hb).1 hr);omega
 have x0:∀en,Ends e en->w1.heap.size<=w'.heap.size/\(∀g,ex g->w'.heap[g]? =w1.heap[g]?)/\∃e Y,Ends e en/\Q e Y/\∀x1,Kept ex w' x1->∃U',Sim w0 X n ⟨zmf K F,Y.E,Y.nx⟩ U' a x1:=λen he=>⟨h'.bel.size,x6,e,Y,he,hQ,λx1 hk=>⟨U',h.goOut hX x3 hex hb hK h' hk⟩⟩;have x4:=h'.df;rcases hq e Y hQ with rfl|rfl|⟨ch,rfl⟩
 .exact⟨x4,_,results_none x2 _ _ _,x0 _ (.inl ⟨.inl rfl,_,rfl⟩)⟩
 .exact⟨x4,_,results_none x2 _ _ _,x0 _ (.inl ⟨.inr rfl,_,rfl⟩)⟩
 .exact⟨x4,x0 _ (.inr ⟨ch,rfl,rfl⟩)⟩
end
section
variable {P:zw}{K:Kn}{w0:zh}{X:Ownr}{n:Nat}{Y:AS}{Q:Exit->AS->Prop}{ops:Array Oper}
theorem znZ(hX:X.Ok w0){o:Oper}{f:zV}{c:HCtr}{out:c.self.T->Args c.args->Except zd c.res.T}(hc:zfV P X.G f c out){args:Array zB}{ts:Array zo}{a0:zB}{zas:List zB}(ho:o.op=.call ⟨.value (.func f),args,ts⟩)(x0:args.toList=a0::zas)(x8:o.guard=none)
  {F:zN}{E:Owns}{nx:Nat} (xc:frzs Y zas=⟨F,E,nx⟩) {i:Nat} (xb:evO F a0=⟨.hptr,(i,(0:Nat))⟩) {ty:zo}{vs:List V} (hbox:zm E i=some (.hbox ty vs)) {et:Ty}{j:Nat} (hk:vs[c.k]? =some ⟨.obuf et,j⟩) {x6:List c.et.T} (x5:zm E j=some (.buf c.te c.et x6))
  {x:c.self.T} (xd:unD c.self ((c.back i vs).set c.k ⟨.slice c.et,x6⟩)=some (x,[])) (hd:zaN c.args=true) (x7:c.res.resOk=true)
  {q:List Prop}{xs:Args c.args} (x9:zdY E false (zas.map (evO F)) c.args=some (q,xs)) (hq:allP q) (x3:allP (c.pre x xs)) (x2:∀w R,(∀g,R g->w0.heap.size<=g\/X.R g)->X.G w->c.inv w R ty) {d:Nat} (x1:o.dst=some d) (xa:zM d n=true)
  {N:AS->Prop}{y:c.res.T} (x4:out x xs=.ok y) (h:N ⟨(d,resV c.res y)::F,(i,none)::(j,none)::E,nx⟩):vy P w0 X n ops o Y N Q:=
 StepA.give hX hc ho x0 x8 xc xb hbox hk x5 xd hd x7 x9 hq x3 x2 x1 xa (by rw[x4];exact h)
theorem zn0(hX:X.Ok w0){o:Oper}{f:zV}{c:HCtr}{out:c.self.T->Args c.args->Except zd c.res.T}(hc:zfV P X.G f c out){args:Array zB}{ts:Array zo}{a0:zB}{zas:List zB}(ho:o.op=.call ⟨.value (.func f),args,ts⟩)(x0:args.toList=a0::zas)(x8:o.guard=none)
  {F:zN}{E:Owns}{nx:Nat} (xc:frzs Y zas=⟨F,E,nx⟩) {i:Nat} (xb:evO F a0=⟨.hptr,(i,(0:Nat))⟩) {ty:zo}{vs:List V} (hbox:zm E i=some (.hbox ty vs)) {et:Ty}{j:Nat} (hk:vs[c.k]? =some ⟨.obuf et,j⟩) {x6:List c.et.T} (x5:zm E j=some (.buf c.te c.et x6))
  {x:c.self.T} (xd:unD c.self ((c.back i vs).set c.k ⟨.slice c.et,x6⟩)=some (x,[])) (hd:zaN c.args=true) (x7:c.res.resOk=true)
  {q:List Prop}{xs:Args c.args} (x9:zdY E false (zas.map (evO F)) c.args=some (q,xs)) (hq:allP q) (x3:allP (c.pre x xs)) (x2:∀w R,(∀g,R g->w0.heap.size<=g\/X.R g)->X.G w->c.inv w R ty) {d:Nat} (x1:o.dst=some d) (xa:zM d n=true)
  {N:AS->Prop}{pv:zd} (x4:out x xs=.error pv) (h:Q (.panic [{ v:=pv,recovered:=false }]) ⟨F,(i,none)::(j,none)::E,nx⟩):vy P w0 X n ops o Y N Q:=
 StepA.give hX hc ho x0 x8 xc xb hbox hk x5 xd hd x7 x9 hq x3 x2 x1 xa (by rw[x4];exact h)
theorem StepA.conv{o:Oper}{Y':AS}{N:AS->Prop}(hs:∀U a w,Sim w0 X n Y U a w->∃U',Sim w0 X n Y' U' a w)(h:vy P w0 X n ops o Y' N Q):vy P w0 X n ops o Y N Q:=
 λU a w I R x0 hI hR=>by
  obtain⟨U',h'⟩:=hs U a w x0;exact h U' a w I R h' hI hR
theorem Sim.nilLeaf(i k:Nat)(te:zo)(Z:Ty){ty:zo}{vs:List V}(hi:zm Y.E i=some (.hbox ty vs))(hk:vs[k]? =some ⟨.lit,.slice none 0 0⟩)(x1:zM 0 Z.size=true):
  ∀U a w,Sim w0 X n Y U a w->∃U',Sim w0 X n { Y with E:=(i,some (.hbox ty (vs.set k ⟨.obuf Z,Y.nx⟩)))::(Y.nx,some (.buf te Z []))::Y.E,nx:=Y.nx+1 } U' a w:=by
 intro U a w hs;obtain⟨U',h1,h2,h3⟩:=hs.growNil te Z (by simpa using x1);have x2:=hs.lt i _ hi;have x0:zm ((Y.nx,some (.buf te Z []))::Y.E) i=some (.hbox ty vs):=by rw[zab,if_neg o_];exact hi
 exact⟨U',h3.leaf x0 hk (v':=⟨.obuf Z,Y.nx⟩) (λu hu=>by
  show u=U' Y.nx;rw[hu,h2]) (zj _)⟩
theorem AL.nilLeaf(i k:Nat)(te:zo)(Z:Ty){ty:zo}{vs:List V}{l:List Oper}(hi:zm Y.E i=some (.hbox ty vs))(hk:vs[k]? =some ⟨.lit,.slice none 0 0⟩)(x0:zM 0 Z.size=true)
  (h:AL P w0 X n ops l { Y with E:=(i,some (.hbox ty (vs.set k ⟨.obuf Z,Y.nx⟩)))::(Y.nx,some (.buf te Z []))::Y.E,nx:=Y.nx+1 } Q):AL P w0 X n ops l Y Q:=λU a w hs=>by
 obtain⟨U',h'⟩:=Sim.nilLeaf i k te Z hi hk x0 U a w hs;exact h U' a w h'
def rnK(L:List (Nat×Nat)):Nat->Bool
 |0=>true
 |k+1=>yK (rnF L k) k&&rnK L k
theorem zq7{L:List (Nat×Nat)}:∀{k:Nat},rnK L k=true->∀i,i<k->rnF L i=i
 |0,_,i,hi=>absurd hi (yH _)
 |k+1,h,i,hi=>by
  have h:(yK (rnF L k) k&&rnK L k)=true:=h;rw[zf]at h;by_cases e:i=k
  .subst e;exact qt h.1
  .exact zq7 h.2 i o_
theorem Sim.renameK{w:zh}{U:Nat->zd}{a:Act}{L:List (Nat×Nat)}(h:Sim w0 X n Y U a w)(hL:rnOk L=true){m:Nat}(x0:rnK L X.K=true)(x3:X.K<=m)(hF:bndB m (rnFr L Y.F)=true)(hE:bndE m (rnE L Y.E)=true):Sim w0 X n ⟨rnFr L Y.F,rnE L Y.E,m⟩ (λj=>U (rnB L j)) a w:=by
 have hO:∀g,OSet X (rnE L Y.E) (λj=>U (rnB L j)) g->OSet X Y.E U g:=by
  rintro g (hg|⟨j,o',h1,h2⟩)
  .exact .inl hg
  .obtain⟨o,_,h4,_⟩:=zde hL _ _ _ h1;exact .inr ⟨_,o,h4,h2⟩
 have hk:Keeps w w (OSet X Y.E U) (OSet X (rnE L Y.E) (λj=>U (rnB L j))):=⟨zj _,λ_ _ _=>rfl,λg _ hg=>hO g hg⟩;have hb:∀i,i<X.K->rnB L i=i:=λi hi=>by
  have:=zpy L i hL;rwa[zq7 x0 i hi]at this
 refine⟨h.sz,h.df,h.bel,λs=>?_,λj o' hj=>?_,λj o' g hj hg=>?_,λi j oi oj hi hj x1 g=>?_,λj o' hj=>zlo hE hj,⟨x3,λi hi=>?_⟩,λs=>zdx hF s,λj o' hj=>(zgN hE hj).2⟩
 .
  rw[zoe];exact zm4 hL _ (zZ hk _ _ _ (h.fr s))
 .obtain⟨o,_,h2,rfl⟩:=zde hL _ _ _ hj;have h3:=(h.own _ o h2).keep hk λ_ _=>rfl;cases o with
  |hbox ty vs=>
   obtain⟨g,cs,e,k1,k2,k3⟩:=h3;exact⟨g,cs,e,k1,k2,zkx hL k3⟩
  |box t x=>exact h3
  |buf te t xs=>exact h3
  |mp m I=>exact h3
 .obtain⟨o,_,h2,_⟩:=zde hL _ _ _ hj;exact h.new _ o g h2 hg
 .obtain⟨p,e1,h1,_⟩:=zde hL _ _ _ hi;obtain⟨q,e2,h2,_⟩:=zde hL _ _ _ hj;exact h.inj _ _ p q h1 h2 (λe=>x1 (by rw[e1,e2,e])) g
 .obtain⟨k1,k2⟩:=h.fix.2 i hi;refine⟨by show zag (U (rnB L i))=_;rw[hb i hi];exact k1,λo' x2=>?_⟩;obtain⟨o,_,h2,rfl⟩:=zde hL _ _ _ x2;rw[hb i hi]at h2;rw[zq6];exact k2 o h2
end
section
open Go Go.RowKit Go.Lib
section
variable {P:zw}{w:zh}{O:Nat->Prop}{U:Nat->zd}
theorem zjn(s:List UInt8):strCells ⟨s.toArray⟩=byteCells s:=by
 simp[strCells,byteCells]
theorem znV{t u e:zo}{i:TypeInfo}(ht:P.underlying t=some (.slice e))(hu:P.underlying u=some .string)(hi:P.info? e=some i)(hz:i.zero=some (.int .u8 0))(x0:i.size=1)(x4:i.bytes=1)(ty:zo){B:Nat}(hB:B<=w.heap.size){bv:zd}{xs:List UInt8}(x6:OwnRep w O U B bv (.buf e (.int .u8) xs))
  (x9:∀g,zag bv=some g->O g) (s:List UInt8) (hlen:xs.length+s.length<=1000000000):
  ∃v' w',(Builtin.append_ #[t,u] ty #[bv,.string ⟨s.toArray⟩]).run P w=.ok v' w'/\w.grownBy w' (zag bv)/\(∀g,zag v'=some g->zag bv=some g\/w.heap.size<=g)/\
   ∀O2,(∀g,g<w.heap.size->O2 g->O g)->OwnRep w' O2 U B v' (.buf e (.int .u8) ((xs++s:List UInt8))):=by
 obtain⟨cs,h1,h2,h3⟩:=x6;have x5:(⟨s.toArray⟩:ByteArray).size=s.length:=by simp[ByteArray.size]
 have x7:=zeO h2;have h2:w.ownsRow B e 1 bv xs.length cs:=h2;obtain⟨v',w',k1,k2,k3,k4⟩:=run_append_own_string (P:=P) w B t u ty e i ht hu hi hz x0 x4 bv xs.length cs h2 ⟨s.toArray⟩ (by rw[x5];simp only[Go.maxLen];omega) (by rw[x5];omega) hB;rw[x5]at k2;refine⟨v',w',k1,x7▸k3,?_,λO2 x8=>⟨cs++byteCells s,?_,by rw[show zi (xs++s:List UInt8)=xs.length+s.length from zg, <-zjn];exact k2,h3⟩⟩
 .intro g hg;rcases h2.2 with ⟨rfl,hn⟩|⟨g',cap,cur,rfl,hbg,hg',hnc,hcm,hcs,htake⟩
  .by_cases hm:(⟨s.toArray⟩:ByteArray).size=0
   .have:=k4.2 ⟨rfl,hm⟩;rw[this]at hg;cases hg
   .have x2:=run_append_nil_string (P:=P) w t u ty e i _ ht hu hi hz ⟨s.toArray⟩ o_ o_ (by rw[x4];omega);rw[x2]at k1;cases k1;cases hg;exact .inr (zj _)
  .by_cases x1:xs.length+(⟨s.toArray⟩:ByteArray).size<=cap
   .
    have x2:=run_append_room_string (P:=P) w t u ty e i ht hu hi x0 g' xs.length cap cur hg' ⟨s.toArray⟩ x1 o_;rw[x2]at k1;cases k1;exact .inl hg
   .have x3:=h2.cells (g:=g') rfl;have x2:=run_append_grow_string (P:=P) w t u ty e i (.int .u8 0) ht hu hi hz ⟨g',0,none⟩ xs.length cap cs (by rw[h2.1,x0]) x3 ⟨s.toArray⟩ o_ o_ (by rw[x4];exact growslice_fits o_ o_);rw[x2]at k1;cases k1;cases hg;exact .inr (zj _)
 .have hk:Keeps w w' O O2:=⟨k3.size,λg xb xa=>k3.block g xb λe=>xa (x9 g (by rw[<-x7];exact e.symm)),x8⟩;exact(h1.append (zhs s)).mono λx _ c=>RepC.keep hk _ _ _
end
section
variable {P:zw}{K:Kn}{w0:zh}{X:Ownr}{n:Nat}{Y:AS}{Q:Exit->AS->Prop}{ops:Array Oper}
theorem zmR{t u e:zo}{ti:TypeInfo}(ht:P.underlying t=some (.slice e))(hu:P.underlying u=some .string)(hi:P.info? e=some ti)(hz:ti.zero=some (.int .u8 0))(x1:ti.size=1)(x5:ti.bytes=1){o:Oper}{rest:List Oper}{sl x:zB}(ho:o.op=.call ⟨.builtin .append,#[sl,x],#[t,u]⟩)(x3:o.guard=none){d:Nat}(hd:o.dst=some d)(x4:zM d n=true)
  {F:zN}{E:Owns}{nx i:Nat} (hs:evO F sl=⟨.obuf (.int .u8),i⟩) {xs:List UInt8} (hb:zm E i=some (.buf e (.int .u8) xs)) {s:List UInt8} (hx:evO F x=⟨.str,s⟩) (hlen:xs.length+s.length<=1000000000)
  (h:AL P w0 X n ops rest ⟨(d,⟨.obuf (.int .u8),i⟩)::Frame.kill i F,(i,some (.buf e (.int .u8) ((xs++s:List UInt8))))::Owns.kill i E,nx⟩ Q):AL P w0 X n ops (o::rest) ⟨F,E,nx⟩ Q:=by
 refine jS x3 (λc e=>by rw[ho]at e;cases e) λU a w x0=>?_;have x2:d<n:=by simpa using x4
 have eS:a.eval sl=U i:=by
  have h1:=x0.ops sl;rw[show evO (AS.mk F E nx).F sl=_ from hs]at h1;exact h1
 have eX:a.eval x=.string ⟨s.toArray⟩:=by
  have h1:=x0.ops x;rw[show evO (AS.mk F E nx).F x=_ from hx]at h1;exact ww.1 h1.1
 obtain⟨v',w',k1,k2,k3,k4⟩:=znV (P:=P) ht hu hi hz x1 x5 o.type (zk _) (x0.own i _ hb) (λg hg=>.inr ⟨i,_,hb,hg⟩) s hlen;obtain⟨U',x6⟩:=x0.redo hb rfl k2 (bv:=v') k3 (t:=.int .u8) (o':=.buf e (.int .u8) ((xs++s:List UInt8))) (λO _ hO=>k4 O hO) x2;refine za5 (u:=v') (w':=w') ?_ (by rw[hd];exact⟨_,U',x6,h⟩);unfold execOp;simp only[ho,resolve,invoke,builtin,zK,Sem.run_pure,zG,List.map_toArray,qH,List.map_nil,eS,eX,k1]
theorem StepA.step{o o':Oper}{N:AS->Prop}(x1:OpEq P o o')(hX:X.Ok w0)(hK:KnOk P X.G K){r:List Prop×AS}(hs:zje K n ops o' Y=some r)(hp:allP r.1)(h:N r.2)(x2:o.guard=none:=by rfl):vy P w0 X n ops o Y N Q:=by
 refine jv x2 λU a w x0=>x1.wp ?_;have h1:=zh5 (ops:=ops) (N:=λa' w'=>∃Y' U',Sim w0 X n Y' U' a' w'/\N Y') (R:=λe a' w'=>e≠ .outgrown/\∃Y' U',Sim w0 X n Y' U' a' w'/\Q e Y') hK hX x0 hs hp λU' a' w' h2=>⟨r.2,U',h2,h⟩;have x3:o'.guard=none:=by rw[<-x1.guard];exact x2
 simp only[Region.wanted,x3,if_true]at h1;rcases h1 with h1|⟨_,h1⟩
 .exact h1
 .obtain⟨_,_,h2,_⟩:=h1;exact absurd rfl h2
end
end
theorem zAx:(zb.info? 5).isSome=true:=by kernel_rfl
noncomputable def u8i:TypeInfo:=(zb.info? 5).get zAx
theorem zvx:zb.info? 5=some u8i:=(Option.some_get _).symm
theorem zvv:u8i.zero=some (.int .u8 0):=by kernel_rfl
theorem zvw:u8i.size=1:=by kernel_rfl
theorem zqp:u8i.bytes=1:=by kernel_rfl
theorem eqB1(o:Oper)(x:zB)(h:o.op=.fieldAddr 64 x 1):OpEq zb o { o with op:=.fieldAddr 123 x 1 }:=by
 refine⟨rfl,rfl,rfl,λev w=>?_⟩;unfold execOp;simp only[h];cases ev x<;>simp[go_sem]
@[reducible] def cWSP:HCtr:=hBl prT [66] [.str] .unit (λx xs=>[zi x.2.1+zi xs.1<=1000000000]) λx xs=>.ok ((),(true,((x.2.1++xs.1:List UInt8),x.2.2)))
def hCCP:List (zV×HCtr):=[(68,cCC prT [66])]
theorem zAy:tyOk prT [66]:=λt h=>by
 rw[zt]at h;subst h;exact⟨by first|exact .inl rfl|exact .inr rfl,λx=>rfl⟩
theorem zsr:HsOk zb gmH hCCP:=.cons (zhF prT rfl [66] zAy) .nil
theorem zjF:zaD zb gmH 35 cWSP:=by
 refine zhB (K:=gmK) zaj Tryz.func35 rfl rfl (zcy rfl) Tryz.call35 rfl (λtmps w=>⟨_,by simp[results,gZ,go_sem];rfl⟩) rfl (zq rfl) (zeb prT [66]) ?_;rintro w0 ⟨G,O,K,fix,D,ρ,B⟩ ty hX hG hK x1 hD x0 ⟨b,bf,r,⟨⟩⟩ ⟨(u:List UInt8),⟨⟩⟩ hp;obtain rfl:=hG;obtain rfl:=hK;obtain rfl:=x1;obtain rfl:=hD;have hI:=λw R hR hw=>(⟨zaL (ty:=ty) hX rfl x0.1 (ty':=ty) w R hR hw,x0.2⟩:bInv prT [66] w R ty);have key:∀b',AWP zb w0 { G:=gmH,X:=O,K:=1,fix:=fix,D:=[],ρ:=none,B:=B } gZ.ntmps (gZ.body.getD .skip) ⟨[(0,⟨.hptr,((0:Nat),(0:Nat))⟩),(1,⟨.str,u⟩)],[(0,some (.hbox ty (adV 0 b'::⟨.obuf u8,(1:Nat)⟩:: [⟨.slice nd,r⟩]))),(1,some (.buf 5 u8 bf))],2⟩ (λe Y=>ztp cWSP ty e Y (.ok ((),(true,((bf++u:List UInt8),r,⟨⟩))))):=by
  intro b';apply zaq;refine za (za (zaa zaj ?_));refine za8 (Y':=⟨[(0,⟨.hptr,((0:Nat),(0:Nat))⟩),(1,⟨.str,u⟩),(5,⟨.lit,.nilIface⟩)],[(0,some (.hbox ty (⟨.hptr,((0:Nat),(0:Nat))⟩::⟨.obuf u8,(1:Nat)⟩:: [⟨.slice nd,r⟩]))),(1,some (.buf 5 u8 bf))],2⟩) ?_ ?_
  .cases b' with
   |true=>
    refine za (za (zae ?_));refine yZ 1 hX zaj zsr rfl t_ rfl rfl t_ hI ?_;exact yQ ⟨⟨rfl,rfl,rfl,t_⟩,⟨rfl,rfl,t_⟩,rfl,rfl⟩
   |false=>
    refine za (za (zae ?_));refine yZ 1 hX zaj zsr rfl t_ rfl rfl t_ hI ?_;exact yQ ⟨⟨rfl,rfl,rfl,t_⟩,⟨rfl,rfl,t_⟩,rfl,rfl⟩
  refine za (za (zae ?_));refine za4 3 zaj ?_;refine kD (eqB1 _ _ rfl) hX zaj rfl t_ ?_;refine za4 2 zaj ?_;refine zmR km qP zvx zvv zvw zqp rfl rfl rfl rfl rfl rfl rfl hp ?_;refine za4 1 zaj ?_;refine kD (eqB1 _ _ rfl) hX zaj rfl t_ ?_;refine zaI zaj ?_;(repeat refine za (za (zaa zaj ?_)));refine za ?_;exact zp ⟨.inr rfl,_,rfl,u8,1,_,rfl,rfl,rfl⟩
 exact key b
@[reducible] def cWSB:HCtr:=hBl .unit [64] [.str] .unit (λx xs=>[zi x.2.1+zi xs.1<=1000000000]) λx xs=>.ok ((),(true,((x.2.1++xs.1:List UInt8),x.2.2)))
def hCCB:List (zV×HCtr):=[(68,cCC .unit [64])]
theorem zAz:tyOk .unit [64]:=λt h=>by
 rw[zt]at h;subst h;exact⟨by first|exact .inl rfl|exact .inr rfl,λx=>rfl⟩
theorem zss:HsOk zb gmH hCCB:=.cons (zhF .unit rfl [64] zAz) .nil
theorem zpj:zaD zb gmH 35 cWSB:=by
 refine zhB (K:=gmK) zaj Tryz.func35 rfl rfl (zcy rfl) Tryz.call35 rfl (λtmps w=>⟨_,by simp[results,gZ,go_sem];rfl⟩) rfl (zq rfl) (zeb .unit [64]) ?_;rintro w0 ⟨G,O,K,fix,D,ρ,B⟩ ty hX hG hK x1 hD x0 ⟨b,bf,⟨⟩⟩ ⟨(u:List UInt8),⟨⟩⟩ hp;obtain rfl:=hG;obtain rfl:=hK;obtain rfl:=x1;obtain rfl:=hD;have hI:=λw R hR hw=>(⟨zaL (ty:=ty) hX rfl x0.1 (ty':=ty) w R hR hw,x0.2⟩:bInv .unit [64] w R ty);have key:∀b',AWP zb w0 { G:=gmH,X:=O,K:=1,fix:=fix,D:=[],ρ:=none,B:=B } gZ.ntmps (gZ.body.getD .skip) ⟨[(0,⟨.hptr,((0:Nat),(0:Nat))⟩),(1,⟨.str,u⟩)],[(0,some (.hbox ty (adV 0 b'::⟨.obuf u8,(1:Nat)⟩:: []))),(1,some (.buf 5 u8 bf))],2⟩ (λe Y=>ztp cWSB ty e Y (.ok ((),(true,((bf++u:List UInt8),⟨⟩))))):=by
  intro b';apply zaq;refine za (za (zaa zaj ?_));refine za8 (Y':=⟨[(0,⟨.hptr,((0:Nat),(0:Nat))⟩),(1,⟨.str,u⟩),(5,⟨.lit,.nilIface⟩)],[(0,some (.hbox ty (⟨.hptr,((0:Nat),(0:Nat))⟩::⟨.obuf u8,(1:Nat)⟩:: []))),(1,some (.buf 5 u8 bf))],2⟩) ?_ ?_
  .cases b' with
   |true=>
    refine za (za (zae ?_));refine yZ 1 hX zaj zss rfl t_ rfl rfl t_ hI ?_;exact yQ ⟨⟨rfl,rfl,rfl,t_⟩,⟨rfl,rfl,t_⟩,rfl,rfl⟩
   |false=>
    refine za (za (zae ?_));refine yZ 1 hX zaj zss rfl t_ rfl rfl t_ hI ?_;exact yQ ⟨⟨rfl,rfl,rfl,t_⟩,⟨rfl,rfl,t_⟩,rfl,rfl⟩
  refine za (za (zae ?_));refine za4 3 zaj ?_;refine kD (eqB1 _ _ rfl) hX zaj rfl t_ ?_;refine za4 2 zaj ?_;refine zmR km qP zvx zvv zvw zqp rfl rfl rfl rfl rfl rfl rfl hp ?_;refine za4 1 zaj ?_;refine kD (eqB1 _ _ rfl) hX zaj rfl t_ ?_;refine zaI zaj ?_;(repeat refine za (za (zaa zaj ?_)));refine za ?_;exact zp ⟨.inr rfl,_,rfl,u8,1,_,rfl,rfl,rfl⟩
 exact key b
@[reducible] def zqe(T:Ty)(x0:List zo):HCtr:=hBl T x0 [] i64 (λ_ _=>[]) λx _=>.ok (((x.2.1.length:Nat):Int),x)
theorem zxq:zaD zb gmH 20 (zqe prT [66]):=by
 refine zb9 zaj Tryz.func20 (zcy rfl) Tryz.call20 (zeb prT [66]) ?_;rintro w0 O fix B ty hX x0 ⟨b,bf,r,⟨⟩⟩ ⟨⟩ hp;have key:∀b',AWP zb w0 { G:=gmH,X:=O,K:=1,fix:=fix,D:=[],ρ:=none,B:=B } g7.ntmps (g7.body.getD .skip) ⟨[(0,⟨.hptr,((0:Nat),(0:Nat))⟩)],[(0,some (.hbox ty (adV 0 b'::⟨.obuf u8,(1:Nat)⟩:: [⟨.slice nd,r⟩]))),(1,some (.buf 5 u8 bf))],2⟩ (λe Y=>zqj gmT g7.results.toList (zqe prT [66]) ty e Y (.ok (((bf.length:Nat):Int),(b',bf,r,())))):=by
  intro b';apply zaq;refine za (za (zaa zaj ?_));refine za (za (zae ?_));refine za4 2 zaj ?_;refine kD (eqB1 _ _ rfl) hX zaj rfl t_ ?_;refine zaI zaj ?_;cases b' with
  |true=>exact zp ⟨.inr rfl,⟨_,rfl,u8,1,_,rfl,rfl,rfl⟩,D1 rfl⟩
  |false=>exact zp ⟨.inr rfl,⟨_,rfl,u8,1,_,rfl,rfl,rfl⟩,D1 rfl⟩
 exact key b
theorem zxr:zaD zb gmH 20 (zqe .unit [64]):=by
 refine zb9 zaj Tryz.func20 (zcy rfl) Tryz.call20 (zeb .unit [64]) ?_;rintro w0 O fix B ty hX x0 ⟨b,bf,⟨⟩⟩ ⟨⟩ hp;have key:∀b',AWP zb w0 { G:=gmH,X:=O,K:=1,fix:=fix,D:=[],ρ:=none,B:=B } g7.ntmps (g7.body.getD .skip) ⟨[(0,⟨.hptr,((0:Nat),(0:Nat))⟩)],[(0,some (.hbox ty (adV 0 b'::⟨.obuf u8,(1:Nat)⟩:: []))),(1,some (.buf 5 u8 bf))],2⟩ (λe Y=>zqj gmT g7.results.toList (zqe .unit [64]) ty e Y (.ok (((bf.length:Nat):Int),(b',bf,())))):=by
  intro b';apply zaq;refine za (za (zaa zaj ?_));refine za (za (zae ?_));refine za4 2 zaj ?_;refine kD (eqB1 _ _ rfl) hX zaj rfl t_ ?_;refine zaI zaj ?_;cases b' with
  |true=>exact zp ⟨.inr rfl,⟨_,rfl,u8,1,_,rfl,rfl,rfl⟩,D1 rfl⟩
  |false=>exact zp ⟨.inr rfl,⟨_,rfl,u8,1,_,rfl,rfl,rfl⟩,D1 rfl⟩
 exact key b
section
open Go.Shelf
set_option linter.unusedSimpArgs false
set_option linter.unusedVariables false
set_option maxHeartbeats 1000000 in
theorem zqB{P:zw}{ρ:Ren}(L:Lays.n169 P ρ)(X:Builder.Extra P ρ)(b g cap:Nat)(cs cur:Array zd)(ty:zo)(l:List UInt8)(w:zh)(x3:w.heap[b]? =some (.cells cs ty (0,0)))(h1:cs[1]? =some (.slice (some ⟨g,0,none⟩) l.length cap))(hg:w.heap[g]? =some (.cells cur (ρ.t 5) (0,0)))(x5:l.length<=cap)(x4:cap<=maxLen)(x7:cur.size=cap)(x0:cur.toList.take l.length=fp l)(h0:l≠ []):
  Calls P (ρ.f 169) #[.pointer (some ⟨b,0,none⟩)] w λe w'=>e=.returned (.string ⟨l.toArray⟩)/\w'=w.drew.freeze ⟨g,0,none⟩ l.length:=by
 have xa:l.length≠0:=by simpa using h0
 have c1:w.drew.cell? ⟨b,1,none⟩=some (.slice (some ⟨g,0,none⟩) l.length cap):=by
  have:w.drew.heap[b]? =some (.cells cs ty (0,0)):=x3;rw[Lib.cell_of_heap this];exact h1
 have x8:(Builtin.unsafeSliceData_ #[(ρ.t 37)] (ρ.t 127) #[.slice (some ⟨g,0,none⟩) l.length cap]).run P w.drew=.ok (.pointer (some ⟨g,0,none⟩)) w.drew:=
  Lib.run_unsafeSliceData_row _ _ _ _ _ _ o_
 have xc:(Builtin.unsafeString_ #[(ρ.t 127),(ρ.t 3)] (ρ.t 9) #[.pointer (some ⟨g,0,none⟩),.int .i64 l.length]).run P w.drew=.ok (.string ⟨l.toArray⟩) (w.drew.freeze ⟨g,0,none⟩ l.length):=by
  refine Lib.run_unsafeString_row w.drew (ρ.t 127) (ρ.t 3) (ρ.t 9) (ρ.t 5) L.t127 X.cellsByte g cur.size (by have x1:w.drew.heap[g]? =some (.cells cur (ρ.t 5) (0,0)):=hg;simp[World.shape?,x1]) l h0 o_ (by unfold maxLen at x4;omega) ?_;intro j x hx;have x1:w.drew.heap[g]? =some (.cells cur (ρ.t 5) (0,0)):=hg;rw[show((⟨g,0,none⟩:Addr).add j)=⟨g,j,none⟩ from by simp[Addr.add_lit],Lib.cell_of_heap x1];have h2:(cur.toList.take l.length)[j]? =some (.int .u8 x.toNat):=by rw[x0];simp[fp,hx]
  rw[List.getElem?_take]at h2;split at h2
  .simpa using h2
  .cases h2
 have mixed:=L.mixed;have t72:=L.t72;have a72:=L.a72;have z72:=L.z72;have v72:=L.v72;have x9:=run_underlying L.t72;have t70:=L.t70;have a70:=L.a70;have z70:=L.z70;have v70:=L.v70;have x6:=run_underlying L.t70;have t37:=L.t37;have a37:=L.a37;have z37:=L.z37;have v37:=L.v37;have xb:=run_underlying L.t37;have t127:=L.t127;have a127:=L.a127;have z127:=L.z127;have v127:=L.v127;have x2:=run_underlying L.t127;have t3:=L.t3;have a3:=L.a3;have z3:=L.z3;have v3:=L.v3;have u3:=run_underlying L.t3;have t9:=L.t9;have a9:=L.a9;have z9:=L.z9;have v9:=L.v9;have u9:=run_underlying L.t9;have t5:=X.t5;have a5:=X.a5;have z5:=X.z5;have v5:=X.v5;have u5:=run_underlying X.t5
 go_enter L.f169,Body.n169_ntmps ρ
 go_wp2
 go_region_o
 all_goals (go_wp2;go_ret;exact⟨rfl,rfl⟩)
end
theorem zmq(w:zh)(g n k:Nat)(hk:k≠g):(w.freeze ⟨g,0,none⟩ n).heap[k]? =w.heap[k]? :=by
 unfold vG;split
 .rfl
 .simp only[Array.getElem?_modify];rw[if_neg (λe=>hk e.symm)]
theorem znz{R:Nat->Prop}(w:zh)(g n:Nat)(hR:R g):Kept R w (w.drew.freeze ⟨g,0,none⟩ n):=by
 refine⟨?_,?_,?_,?_,λk _ hn=>zmq w.drew g n k λe=>hn (e▸hR)⟩
 .unfold vG;split<;>rfl
 .unfold vG;split<;>rfl
 .unfold vG;split<;>rfl
 .unfold vG;split
  .exact zj _
  .
   rw[wV];exact zj _
@[reducible] def zBk(T:Ty)(x0:List zo):HCtr:=hBl T x0 [] .str (λx _=>[x.2.1≠ []]) λx _=>.ok (x.2.1,x)
theorem zlI(T:Ty)(hT:T.leafD=true)(x6:List zo):zfV zb gmH 21 (zBk T x6) (λx _=>.ok x.2.1):=by
 refine⟨Tryz.call21,zcy hT,λw O g cs ty x xs vs b hO x7 hg hx x0 x1 x2 x4 hG=>?_⟩;have hvs:vs=[]:=x1;subst hvs;have h0:x.2.1≠ []:=x2;rw[zrL]at hx;obtain⟨u,r,rfl,x9,hu,hr⟩:=hx;obtain⟨v,r,rfl,x8,hv,hr⟩:=hr;have hv:v=b:=hv;subst hv;obtain⟨cells,k1,k2,k3⟩:=x0;have k1:=zgZ k1;subst k1;have x5:x.2.1.length≠0:=by simpa using h0
 rcases k2.2 with ⟨_,hz⟩|⟨g',cap,cur,rfl,_,hg',hnc,hcm,hcs,htake⟩
 .exact absurd hz x5
 rw[show Ty.size u8=1 from rfl,Nat.mul_one]at hcs htake;refine(zqB Tryz.lays169 Tryz.Builder_Extra_169 g g' cap _ cur ty x.2.1 w hg rfl hg' hnc hcm hcs (by simpa [fp] using htake) h0).mono ?_;rintro e w' ⟨rfl,rfl⟩;have x3:zi x.2.1<=cap:=hnc;exact⟨znz w g' _ (.inr rfl),_,rfl,.inr λU=>⟨rfl,by unfold maxLen at *;omega⟩⟩
section
attribute [local go_sem] Oper.semAt_some
theorem zq0(e:Int×Int)(w:zh):(Instr.typeAssert (.iface 123 (.agg #[.int .i64 e.1,.int .i64 e.2])) 20 123 true).run zb w=.ok (.tuple #[.agg #[.int .i64 e.1,.int .i64 e.2],.bool true]) w:=by kernel_rfl
set_option maxHeartbeats 2000000 in
theorem zq2(g2 g3:Nat)(w:zh):CallsDIn yD 0 zb 57 #[.pointer (some ⟨g2,0,none⟩),.pointer (some ⟨g3,0,none⟩)] .returning w λe u' w'=>
  (∃v,e=.returned v)/\u'=.returning/\xG w.heap.size w w':=by
 refine callsDIn_of_wpSIn Tryz.func57 rfl t_ λx0 cs hu=>?_;apply wpSIn_seq;apply wpSIn_region;simp[wpOpsSIn,go_sem,recoverD,hu,Tryz.ntmps57,uE];apply wpSIn_seq;apply wpSIn_region;simp[wpOpsSIn,go_sem,uE];refine wpSIn_cond (t:=false) (by simp[wx]) ?_;simp only[xL,if_false];refine wpSIn_of_wpIn rfl (wpIn_skip ?_);cases x0
 simp_all [bodyPostS,results,Tryz.f57]
 exact zR _ _
def fixR(g2 g3 g5:Nat)(i:Nat):Nat:=if i=0 then g2 else if i=1 then g3 else g5
def sR1(x2 x3:Int)(e:Int×Int):AS:=⟨[(0,⟨.optr i64,⟨0,i64,.here⟩⟩),(1,⟨.optr i64,⟨1,i64,.here⟩⟩),(3,⟨.optr sto,⟨2,sto,.here⟩⟩)],[(0,some (.box i64 x2)),(1,some (.box i64 x3)),(2,some (.box sto (e.1,e.2,())))],3⟩
def sR2(e:Int×Int):AS:=⟨[],[(0,some (.box i64 e.1)),(1,some (.box i64 e.2))],3⟩
noncomputable def ztT:Code:=match Tryz.f57.body.getD .skip with
 |.seq _ (.seq _ (.cond _ c _))=>(match c with
  |.seq _ (.seq _ t)=>t
  |c=>c)
 |c=>c
theorem ztS{w1:zh}{X:Ownr}(hX:X.Ok w1)(hG:∀w w',X.G w->xG w.heap.size w w'->X.G w')(hK:X.K=3)(x2 x3:Int)(e:Int×Int):AWP zb w1 X 20 ztT (sR1 x2 x3 e) (λen Y=>en=.normal/\Fit Y (sR2 e)):=by
 have x0:KnOk zb X.G gmK:=⟨zeK,zdm,CsOk.nil,hG,RsOk.nil⟩;unfold sR1 sR2;refine zbF dM 6 rfl (by kernel_rfl) ?_
 repeat'(first
  |exact kg
  |refine vD ⟨_,rfl,?_⟩ ?_
  |refine zX hX x0 rfl t_ ?_
  |(refine ve ?_;exact⟨rfl,t_,⟨rfl,rfl,t_⟩,rfl,rfl⟩))
set_option maxHeartbeats 600000 in
theorem ztR(g2 g3:Nat)(e:Int×Int)(x2 x3:Int)(t2 t3:zo)(w:zh)(h2:w.heap[g2]? =some (.cells #[.int .i64 x2] t2 (0,0)))(h3:w.heap[g3]? =some (.cells #[.int .i64 x3] t3 (0,0)))(xb:g2≠g3):
  CallsDIn yD 0 zb 57 #[.pointer (some ⟨g2,0,none⟩),.pointer (some ⟨g3,0,none⟩)] (.panicking [{ v:=pvS e,recovered:=false }]) w λen u' w'=>
  (∃v,en=.returned v)/\u'=.panicking [{ v:=pvS e,recovered:=true }]/\Kept (λg=>g=g2\/g=g3) w w'/\∃t2 t3,w'.heap[g2]? =some (.cells #[.int .i64 e.1] t2 (0,0))/\w'.heap[g3]? =some (.cells #[.int .i64 e.2] t3 (0,0)):=by
 refine callsDIn_of_wpSIn Tryz.func57 rfl t_ λxa cs hu=>?_;apply wpSIn_seq;apply wpSIn_region;simp[wpOpsSIn,go_sem,recoverD,hu,Tryz.ntmps57,uE,pvS];apply wpSIn_seq;apply wpSIn_region;simp[wpOpsSIn,go_sem,uE];refine wpSIn_cond (t:=true) (by simp[wx]) ?_;simp only[if_true];apply wpSIn_seq;apply wpSIn_region;simp[wpOpsSIn,go_sem,uE,zq0];apply wpSIn_seq;apply wpSIn_seq;apply wpSIn_region;simp[wpOpsSIn,go_sem,uE];refine wpSIn_cond (t:=false) (by simp[wx]) ?_;simp only[xL,if_false];refine wpSIn_of_wpIn rfl (wpIn_skip ?_);simp only[uE];refine wpSIn_of_wpIn rfl ?_;have x7:=(zl.1 h2).1;have x6:=(zl.1 h3).1;have x0:xG w.heap.size w (w.alloc (.cells #[.int .i64 e.1,.int .i64 e.2] 123)):=zbg _ _;have h5:(w.alloc (.cells #[.int .i64 e.1,.int .i64 e.2] 123)).heap[w.heap.size]? =some (.cells #[.int .i64 e.1,.int .i64 e.2] 123 (0,0)):=qa _ _
 replace h2:=(x0.block _ x7).trans h2
 replace h3:=(x0.block _ x6).trans h3
 generalize w.alloc (.cells #[.int .i64 e.1,.int .i64 e.2] 123)=w1 at *
 let X:Ownr:={ G:=λ_=>True,X:=λ_=>False,K:=3,fix:=fixR g2 g3 w.heap.size }
 have hR:∀g,X.R g->g=g2\/g=g3\/g=w.heap.size:=by
  rintro g (⟨i,hi,rfl⟩|h)
  rotate_left
  .exact False.elim h
  have hi:i<3:=hi;rcases (show i=0\/i=1\/i=2 by omega) with rfl|rfl|rfl
  .exact .inl rfl
  .exact .inr (.inl rfl)
  .exact .inr (.inr rfl)
 have hX:X.Ok w1:=by
  refine⟨λg h=>h.elim,λg h=>?_,λ_ _=>trivial⟩;have:=(zl.1 h5).1;have:=x0.size;rcases hR g h with rfl|rfl|rfl<;>omega
 let U:Nat->zd:=λi=>.pointer (some ⟨X.fix i,0,none⟩)
 have x5:∀a:Act,a.tmps.size=20->a.defers=[]->a.tmps.getD 0 undef=.pointer (some ⟨g2,0,none⟩)->a.tmps.getD 1 undef=.pointer (some ⟨g3,0,none⟩)->a.tmps.getD 3 undef=.pointer (some ⟨w.heap.size,0,none⟩)->
   Sim w1 X 20 (sR1 x2 x3 e) U a w1:=λa x8 x9 e0 e1 e3=>by
  refine Sim.boxes (X:=X) x8 x9 (λi _=>rfl) ?_ ?_ ?_ rfl
  .intro i j hi hj x4;have hi:i<3:=hi;have hj:j<3:=hj;have x4:fixR g2 g3 w.heap.size i=fixR g2 g3 w.heap.size j:=x4;unfold fixR at x4;rcases (show i=0\/i=1\/i=2 by omega) with rfl|rfl|rfl<;>rcases (show j=0\/j=1\/j=2 by omega) with rfl|rfl|rfl<;>first|rfl|(exfalso;simp at x4;omega)
  .intro i o h;rw[zab]at h;split at h
   .rename_i hi;subst hi;cases h;exact⟨by show 0<3;omega,rfl,⟨g2,[_],_,rfl,zk _,h2,rfl⟩,λvs e=>by cases e⟩
   rw[zab]at h;split at h
   .rename_i _ hi;subst hi;cases h;exact⟨by show 1<3;omega,rfl,⟨g3,[_],_,rfl,zk _,h3,rfl⟩,λvs e=>by cases e⟩
   rw[zab]at h;split at h
   .rename_i _ _ hi;subst hi;cases h;exact⟨by show 2<3;omega,rfl,⟨w.heap.size,[.int .i64 e.1,.int .i64 e.2],_,rfl,zk _,h5,[.int .i64 e.1],[.int .i64 e.2],rfl,rfl,[.int .i64 e.2],[],rfl,rfl,rfl⟩,λvs e=>by cases e⟩
   .cases h
  .refine zbG ⟨g2,rfl,e0⟩ (zbG ⟨g3,rfl,e1⟩ (zbG ⟨w.heap.size,rfl,e3⟩ zgX))
 refine zT (ztS hX (λ_ _ _ _=>trivial) rfl x2 x3 e U _ w1 (x5 _ ?_ ?_ ?_ ?_ ?_)) ?_
 .simp
 .rfl
 .simp[zO,vv]
 .simp[zO,vv]
 .simp[zO,vv]
 .rintro en a' w' ⟨Y',U',h1,rfl,hf⟩;have h6:=h1.fit hf (zj _);have x1:∀i,i<3->zag (U' i)=some (fixR g2 g3 w.heap.size i):=λi hi=>(h6.fix.2 i hi).1;obtain⟨k3,c3,y3,q4,_,q5,q6⟩:=h6.own 0 _ rfl;obtain⟨k4,c4,y4,q7,_,q8,q9⟩:=h6.own 1 _ rfl;have e0:=x1 0 o_;have e1:=x1 1 o_;rw[q4]at e0;rw[q7]at e1;have f0:k3=g2:=by simpa [zag,fixR] using e0
  have f1:k4=g3:=by simpa [zag,fixR] using e1
  subst f0;subst f1;subst q6;subst q9;refine⟨h6.df,_,rfl,_,results_none rfl _ _ _,⟨_,rfl⟩,rfl,⟨h6.bel.os.trans x0.os,h6.bel.tape.trans x0.tape,h6.bel.output.trans x0.output,zJ x0.size h6.bel.size,λk hk hn=>(h6.bel.block k (Nat.lt_of_lt_of_le hk x0.size) λhr=>?_).trans (x0.block k hk)⟩,⟨_,q5⟩,⟨_,q8⟩⟩;rcases hR k hr with h|h|h
  .exact hn (.inl h)
  .exact hn (.inr h)
  .omega
theorem za1{W:zh}{B:Nat}{v:zd}{t:zo}(h:W.heap[B]? =some (.cells #[v] t (0,0))):W.cell? ⟨B,0,none⟩=some v/\W.frozen? ⟨B,0,none⟩=false:=by
 constructor<;>simp[qi,World.frozen?,h]
theorem zfZ{W:zh}{B:Nat}{v:zd}{t:zo}(v':zd)(h:W.heap[B]? =some (.cells #[v] t (0,0))):(W.setCell ⟨B,0,none⟩ v').heap[B]? =some (.cells #[v'] t (0,0)):=by
 obtain⟨x0,hk⟩:=zl.1 h;show(W.heap.modify B _)[B]? =_;rw[qo (by rw[wV];exact x0),wH,hk];rfl
theorem zd1{R:Nat->Prop}(W:zh)(g:Nat)(v:zd)(hR:R g):Kept R W (W.setCell ⟨g,0,none⟩ v):=
 ⟨rfl,rfl,rfl,by simp[World.setCell],λk _ hn=>qW W ⟨g,0,none⟩ v k λe=>hn (by rw[e];exact hR)⟩
theorem mkF(fn:Fn)(first cap:Array zd)(w:zh):(Instr.makeFunc fn first cap).run zb w=.ok (.func fn first cap) w:=rfl
theorem zaX{w:zh}(o:Obj){k:Nat}{x:Obj}(h:w.heap[k]? =some x):(w.alloc o).heap[k]? =some x:=((zbg w o).block _ (zl.1 h).1).trans h
theorem zbS{w:zh}(o:Obj){k:Nat}(h:w.heap.size=k):(w.alloc o).heap[k]? =some o:=by subst h;exact qa _ _
def rdfn(N:Nat):Deferred:={ target:=.fn (.func 57) #[.pointer (some ⟨N,0,none⟩),.pointer (some ⟨N+1,0,none⟩)],args:=#[] }
theorem zio(N:Nat)(w:zh):(invoke (rdfn N).target (rdfn N).args).run zb w=.ok (.enter 57 #[.pointer (some ⟨N,0,none⟩),.pointer (some ⟨N+1,0,none⟩)]) w:=by
 have eg:=Tryz.call57;simp[invoke,rdfn,go_sem,eg]
def runW(w:zh):zh:=(w.alloc (.cells #[.int .i64 0] 3)).alloc (.cells #[.int .i64 0] 32)
theorem zq1(w:zh):(runW w).heap.size=w.heap.size+2:=by simp[runW]
theorem zpw(w:zh):xG w.heap.size w (runW w):=((zR _ w).alloc (zj _) _).alloc (by simp) _
def runE:Except (Int×Int) Unit->Int×Int
 |.ok _=>(0,0)
 |.error e=>e
theorem zqY{tmps:Array zd}{g2 g3:Nat}{W:zh}{x y:Int}{t2 t3:zo}(h2:tmps.getD 2 undef=.pointer (some ⟨g2,0,none⟩))(h3:tmps.getD 3 undef=.pointer (some ⟨g3,0,none⟩))
  (c2:W.heap[g2]? =some (.cells #[.int .i64 x] t2 (0,0))) (c3:W.heap[g3]? =some (.cells #[.int .i64 y] t3 (0,0))):
  (results po tmps).run zb W=.ok (.tuple #[.int .i64 x,.int .i64 y]) W:=by
 have d2:=(za1 c2).1;have d3:=(za1 c3).1;rw[zO]at h2 h3;simp[results,po,go_sem,h2,h3,d2,d3]
section
variable {W:zh}{tmps:Array zd}{N:Nat}{x y:Int}{t2 t3:zo}{R:Ending->zh->Prop}
theorem ztV(h2:tmps.getD 2 undef=.pointer (some ⟨N,0,none⟩))(h3:tmps.getD 3 undef=.pointer (some ⟨N+1,0,none⟩))(c2:W.heap[N]? =some (.cells #[.int .i64 x] t2 (0,0)))(c3:W.heap[N+1]? =some (.cells #[.int .i64 y] t3 (0,0)))
  (hr:∀w3,Kept (λg=>g=N\/g=N+1) W w3->R (.returned (.tuple #[.int .i64 x,.int .i64 y])) w3):LeavesInM yD 1 zb po tmps R [rdfn N] .returning W:=by
 refine⟨(by intro h;cases h),.inr ⟨λ_=>zj _,_,_,_,_,rfl,zio N _,λ_ _=>trivial,?_⟩⟩;refine(zq2 N (N+1) _).mono ?_;rintro e u' w3 ⟨⟨v,rfl⟩,rfl,x0⟩;have hl:∀g(o:Obj),W.heap[g]? =some o->w3.heap[g]? =some o:=λg o hg=>(x0.block g (zl.1 hg).1).trans hg;exact⟨_,zqY h2 h3 (hl _ _ c2) (hl _ _ c3),hr _ ⟨x0.os,x0.tape,x0.output,x0.size,λk hk _=>x0.block k hk⟩⟩
theorem ztW{er:Int×Int}(h2:tmps.getD 2 undef=.pointer (some ⟨N,0,none⟩))(h3:tmps.getD 3 undef=.pointer (some ⟨N+1,0,none⟩))(c2:W.heap[N]? =some (.cells #[.int .i64 x] t2 (0,0)))(c3:W.heap[N+1]? =some (.cells #[.int .i64 y] t3 (0,0)))
  (hr:∀w3,Kept (λg=>g=N\/g=N+1) W w3->R (.returned (.tuple #[.int .i64 er.1,.int .i64 er.2])) w3):LeavesInM yD 1 zb po tmps R [rdfn N] (.panicking [{ v:=pvS er,recovered:=false }]) W:=by
 refine⟨(by intro h;cases h),.inr ⟨λ_=>zj _,_,_,_,_,rfl,zio N _,λ_ _=>trivial,?_⟩⟩;refine(ztR N (N+1) er x y t2 t3 _ c2 c3 o_).mono ?_;rintro en u' w3 ⟨⟨v,rfl⟩,rfl,x0,s2,s3,d2,d3⟩;exact⟨_,zqY h2 h3 d2 d3,hr _ x0⟩
end
set_option maxHeartbeats 1000000 in
theorem zqZ{w:zh}{f:zV}{caps:Array zd}{R:Except (Int×Int) Unit->zh->Prop}(x6:∀w,(callFunc f caps).run zb w=.ok (.enter f caps) w)
  (x0:Calls zb f caps (runW w) λe w'=>(runW w).heap.size<=w'.heap.size/\w'.heap[w.heap.size]? =(runW w).heap[w.heap.size]? /\w'.heap[w.heap.size+1]? =(runW w).heap[w.heap.size+1]? /\((∃v,e=.returned v/\R (.ok ()) w')\/∃er,e=.panicked [{ v:=pvS er,recovered:=false }]/\R (.error er) w')):
  Calls zb 24 #[.func (.func f) #[] caps] w λe x4=>∃r w',R r w'/\(runW w).heap.size<=w'.heap.size/\Kept (λg=>g=w.heap.size\/g=w.heap.size+1) w' x4/\e=.returned (.tuple #[.int .i64 (runE r).1,.int .i64 (runE r).2]):=by
 refine callsIn_wide.1 (zfS (m:=1) Tryz.func24 rfl ?_);simp only[Tryz.ntmps24,List.size_toArray,zv,yC,Nat.reduceAdd,Nat.reduceSub,Array.replicate_succ,Array.replicate_zero,List.push_toArray,List.append_toArray,List.nil_append,List.cons_append];generalize hQ:bodyPostM yD 1 zb po _=Q;have x5:=mkF;refine zcj (zco (m:=1) ?_)
 gi_wp2
 refine zcj (zco (m:=1) ?_)
 gi_wp2
 refine zcj (zco (m:=1) ?_)
 gi_wp2
 refine⟨t_,(callsIn_wide.2 x0).mono ?_⟩;rintro e w' ⟨x3,x2,x1,⟨v,rfl,hR⟩|⟨er,rfl,hR⟩⟩
 .have c0:=x2.trans (zaX _ (zbS _ rfl));have c1:=x1.trans (zbS _ (by simp));have d0:=za1 c0;have d1:=za1 ((qW w' ⟨w.heap.size,0,none⟩ (.int .i64 0) (w.heap.size+1) (by show w.heap.size+1≠w.heap.size;omega)).trans c1)
  gi_wp2
  refine zcj (zco (m:=1) ?_)
  gi_wp2
  have f0:=zfZ (.int .i64 0) c0;have f1:=(qW w' ⟨w.heap.size,0,none⟩ (.int .i64 0) (w.heap.size+1) (by show w.heap.size+1≠w.heap.size;omega)).trans c1;have f2:=zfZ (.int .i64 0) f1;have f3:=(qW (w'.setCell ⟨w.heap.size,0,none⟩ (.int .i64 0)) ⟨w.heap.size+1,0,none⟩ (.int .i64 0) w.heap.size (by show w.heap.size≠w.heap.size+1;omega)).trans f0;have k1:=zd1 (R:=λg=>g=w.heap.size\/g=w.heap.size+1) w' w.heap.size (.int .i64 0) (.inl rfl);have k2:=zd1 (R:=λg=>g=w.heap.size\/g=w.heap.size+1) (w'.setCell ⟨w.heap.size,0,none⟩ (.int .i64 0)) (w.heap.size+1) (.int .i64 0) (.inr rfl);refine zco (m:=1) (wpIn_ret ?_);rw[<-hQ];refine ztV rfl rfl f3 f2 λw3 hk=>⟨.ok (),w',hR,x3,?_,rfl⟩;exact(k1.trans k2).trans hk
 .have c0:=x2.trans (zaX _ (zbS _ rfl));have c1:=x1.trans (zbS _ (by simp));rw[<-hQ];exact ztW rfl rfl c0 c1 λw3 hk=>⟨.error er,w',hR,x3,hk,rfl⟩
end
abbrev tupI:Ty:=.tup i64 (.tup i64 .unit)
section
variable {w0:zh}{X:Ownr}{n m K:Nat}{Q:Exit->AS->Prop}{ops:Array Oper}{F:zN}{E:Owns}{nx:Nat}
theorem zmO(hX:X.Ok w0)(K:Nat){o1 o2:Oper}{rest:List Oper}{f:zV}{fn:Func}{c:Code}{x0 x1:zB}{d1 d2:Nat}{ts:Array zo}(x7:o1.op=.makeFunc (.func f) #[] #[x0,x1])(x6:o2.op=.call ⟨.value (.func 24),#[.tmp d1],ts⟩)
  (xg:o1.guard=none) (xq:o2.guard=none) (xo:o1.dst=some d1) (x8:o2.dst=some d2) (xe:zM d1 n=true) (xa:zM d2 n=true) (hb:zfT E K=true) (xm:qO K nx=true) (hK:X.K<=K)
  (hf:zb.funcs[f]? =some fn) (xn:fn.body=some c) (hn:fn.ntmps=m) (x4:fn.results= #[]) (hm:qO 2 m=true) (xt:∀(vs:Array zd)(w:zh),(callFunc f vs).run zb w=.ok (.enter f vs) w) {v0 v1:V} (xp:evO F x0=v0) (xi:evO F x1=v1) (xb:bndB nx [(0,v0),(1,v1)]=true) {N:Except (Int×Int) Unit->AS->Prop}
  (hw:∀(w1:zh)(X':Ownr),X'.Ok w1->X'.G=X.G->X'.K=K->X'.ρ=none->X'.D=[]->(∀g,X'.R g->w0.heap.size<=g\/X.R g)->AWP zb w1 X' m c ⟨[(0,v0),(1,v1)],E,nx⟩ (λe Y=>((e=.normal\/e=.ret)/\N (.ok ()) Y)\/∃er,e=.panic [{ v:=pvS er,recovered:=false }]/\N (.error er) Y))
  (h:∀r Y,N r Y->AL zb w0 X n ops rest ⟨(d2,⟨tupI,((runE r).1,(runE r).2,())⟩)::(d1,⟨.junk,()⟩)::zmf K F,Y.E,Y.nx⟩ Q):AL zb w0 X n ops (o1::o2::rest) ⟨F,E,nx⟩ Q:=by
 intro U a w hs;have x5:d1<n:=by simpa using xe
 have xh:d2<n:=by simpa using xa
 have xj:=hs.sz;refine wpListIn_plain xg λK1 xc=>zbH (λc e=>by rw[x7]at e;cases e) ?_;have xd:(execOp a.eval o1).run zb w=.ok (.value (.func (.func f) #[] #[a.eval x0,a.eval x1])) w:=by
  unfold execOp;simp only[x7];refine zbz ?_;simp[Instr.makeFunc]
 refine za5 xd (xc _ _ ?_);rw[xo];refine wpListIn_plain xq λK2 xk=>zbH (λc e=>by rw[x6]at e;cases e) ?_;refine zen x6 Tryz.call24 ?_;have hc:((#[uL d1]:Array zB).toList.map (a.put (some d1) (.func (.func f) #[] #[a.eval x0,a.eval x1])).eval).toArray= #[.func (.func f) #[] #[a.eval x0,a.eval x1]]:=by
  have:(a.put (some d1) (.func (.func f) #[] #[a.eval x0,a.eval x1])).eval (.tmp d1)=.func (.func f) #[] #[a.eval x0,a.eval x1]:=by
   show(a.put (some d1) _).tmps.getD d1 undef=_;rw[Act.put_get (by rw[xj];exact x5),if_pos rfl]
  rw[qH,this];rfl
 rw[hc];have xu:=zq1 w;have xf:∀s,RepV w (OSet X E U) U (zn [(0,v0),(1,v1)] s).t (zn [(0,v0),(1,v1)] s).x (((#[a.eval x0,a.eval x1]:Array zd)++zD (m-(#[a.eval x0,a.eval x1]:Array zd).size) undef).getD s undef):=by
  refine zbG ?_ (zbG ?_ zgX)
  .have:=hs.ops x0;rw[show evO (AS.mk F E nx).F x0=_ from xp]at this
   simpa [zO,vv] using this
  .have:=hs.ops x1;rw[show evO (AS.mk F E nx).F x1=_ from xi]at this
   simpa [zO,vv] using this
 have x9:=Sim.inl (K:=K) (m:=m) (w1:=runW w) (ex:=λg=>g=w.heap.size\/g=w.heap.size+1) hs hX (zpw w) (λg hg=>by omega) hb (zq xm) hK hf xn hn x4 (caps:=#[a.eval x0,a.eval x1]) (by show 2<=m;exact zq hm) xf xb (Q:=λe Y=>((e=.normal\/e=.ret)/\N (.ok ()) Y)\/∃er,e=.panic [{ v:=pvS er,recovered:=false }]/\N (.error er) Y)
  (λe Y hq=>by
    rcases hq with ⟨rfl|rfl,_⟩|⟨er,rfl,_⟩
    .exact .inl rfl
    .exact .inr (.inl rfl)
    .exact .inr (.inr ⟨_,rfl⟩)) (λX' h1 h2 h3 h4 h5 h6=>hw _ X' h1 h2 h3 h4 h5 h6)
 let R:Except (Int×Int) Unit->zh->Prop:=λr w'=>∃Y,N r Y/\∀x3,Kept (λg=>g=w.heap.size\/g=w.heap.size+1) w' x3->∃U',Sim w0 X n ⟨zmf K F,Y.E,Y.nx⟩ U' a x3
 refine(zqZ (R:=R) (xt _) (x9.mono λen w' hr=>?_)).mono λen x3 hr=>?_
 .obtain⟨h1,h2,e,Y,he,hq,x2⟩:=hr;refine⟨h1,h2 _ (.inl rfl),h2 _ (.inr rfl),?_⟩;rcases hq with ⟨hq,hN⟩|⟨er,rfl,hN⟩
  .rcases he with ⟨_,v,rfl⟩|⟨ch,rfl,_⟩
   .exact .inl ⟨v,rfl,Y,hN,x2⟩
   .rcases hq with hq|hq<;>cases hq
  .rcases he with ⟨hq|hq,_⟩|⟨ch,hq,rfl⟩
   .cases hq
   .cases hq
   .cases hq;exact .inr ⟨er,rfl,Y,hN,x2⟩
 .obtain⟨r,w',⟨Y,hN,x2⟩,xr,hk,rfl⟩:=hr;obtain⟨U',h'⟩:=x2 x3 hk;refine⟨_,rfl,xk _ _ ?_⟩;rw[x8];have h2:=h'.put (zR _ _) (d:=d1) (v:=⟨.junk,()⟩) (u:=.func (.func f) #[] #[a.eval x0,a.eval x1]) t_ (zk _) x5;have h3:=h2.put (zR _ _) (d:=d2) (v:=⟨tupI,((runE r).1,(runE r).2,())⟩) (u:=.tuple #[.int .i64 (runE r).1,.int .i64 (runE r).2]) ⟨[_,_],rfl,_,_,rfl,rfl,_,_,rfl,rfl,rfl⟩ (zk _) xh;exact h r Y hN U' _ x3 h3
end
theorem zod(s:List UInt8):zeT s 0=zbL s:=by
 unfold zeT;rw[show((0:Int)).toNat=0 from rfl,List.drop_zero];show(yJ (zbL s),Tok.at (zbL s)+0,Tok.size (zbL s),yB (zbL s),jJ (zbL s),())=zbL s;rw[Int.add_zero];rfl
def za9(s:List UInt8):List Nd×Int×Int:=if 4000<s.length then([],0,2) else match zeL s with
 |.ok t=>(t.flat 0,0,0)
 |.error e=>([],e.1,e.2)
def zo5:Ctr:={ args:=[.str],pre:=λ_=>[],res:=.tup (.slice nd) (.tup i64 (.tup i64 .unit)),own:=none,out:=λx=>((za9 x.1).1,(za9 x.1).2.1,(za9 x.1).2.2,()) }
def ztm(s:List UInt8)(r:Except (Int×Int) Unit)(Y:AS):Prop:=(∃t,zeL s=.ok t/\r=.ok ()/\Fit Y ⟨[],[(0,some (.box .str s)),(1,some (.box (.slice nd) (t.flat 0)))],2⟩)\/∃er,zeL s=.error er/\r=.error er/\Fit Y ⟨[],[(0,some (.box .str s)),(1,some (.box (.slice nd) []))],2⟩
theorem ziQ(s:List UInt8):zeL s=(zgC s (zbL s,0)).map (·.1):=by
 unfold zeL zjx;rw[zod]
theorem zpL{w1:zh}{X:Ownr}{s:List UInt8}(hs:s.length<=4000)(hX:X.Ok w1)(hG:X.G=gmH)(hK:X.K=2)(x2:X.ρ=none)(hD:X.D=[])(x1:∀ty,ginv w1 X.R ty):
  AWP zb w1 X Tryz.f25.ntmps (Tryz.f25.body.getD .skip) ⟨[(0,⟨.optr .str,⟨0,.str,.here⟩⟩),(1,⟨.optr (.slice nd),⟨1,.slice nd,.here⟩⟩)],[(0,some (.box .str s)),(1,some (.box (.slice nd) []))],2⟩ (λe Y=>((e=.normal\/e=.ret)/\ztm s (.ok ()) Y)\/∃er,e=.panic [{ v:=pvS er,recovered:=false }]/\ztm s (.error er) Y):=by
 obtain⟨G,O,K,fix,D,ρ,B⟩:=X;obtain rfl:G=gmH:=hG;obtain rfl:=hK;obtain rfl:=x2;obtain rfl:=hD;have hI:=λty=>zaL (ty:=ty) hX rfl (x1 ty) (ty':=ty);have hl:s.length<=100000:=o_;refine za (za (zae ?_));refine za4 1 zaj ?_;refine AL.fresh hX ze0 rfl rfl rfl rfl rfl rfl t_ hl ⟨rfl,rfl⟩ rfl rfl ?_;refine AL.nilLeaf 2 6 46 nd rfl rfl rfl ?_;have x3:GOk s (zbL s,0):=by
  have:=zhY (s:=s);unfold zjx at this;rwa[zod]at this
 have x4:pOk (s,zbL s,[],0,()):=⟨x3,hl⟩;have x0:=Int.le_refl 0;refine AL.give hX zq5 rfl rfl rfl rfl rfl rfl rfl rfl rfl rfl rfl rfl t_ ⟨x4,x0⟩ (hI 129) rfl rfl ?_;cases h3:zgC s (zbL s,0) with
 |error er=>
  rw[show zfe s (stOf (s,zbL s,[],0,())) []=.error (pvS er) by unfold zfe;rw[show stOf (s,zbL s,([]:List Nd),(0:Int),())=(zbL s,0) from rfl,h3];rfl];refine .inr ⟨er,rfl,.inr ⟨er,?_,rfl,t_,⟨rfl,rfl,t_⟩,rfl,rfl⟩⟩;rw[ziQ,h3];rfl
 |ok p=>
  rw[show zfe s (stOf (s,zbL s,[],0,())) []=.ok (p.1.flat 0) by unfold zfe;rw[show stOf (s,zbL s,([]:List Nd),(0:Int),())=(zbL s,0) from rfl,h3];rfl];refine zaI zaj ?_;refine .inl ⟨.inl rfl,.inl ⟨p.1,?_,rfl,t_,⟨rfl,rfl,t_⟩,rfl,rfl⟩⟩;rw[ziQ,h3];rfl
theorem zkE:yT zb gmH 12 zo5:=by
 refine ctr2 zaj Tryz.func12 Tryz.call12 ?_;rintro w0 O hX ⟨s,⟨⟩⟩ hp;have x0:=hX.2.2 w0 (jx _ _)
 iterate 2 (refine za (za (zaa zaj ?_)))
 refine zaU rfl (λhb=>?_) (λhb=>?_)
 .have hb:((4000:Nat):Int)<((s.length:Nat):Int):=hb;have hP:za9 s=([],0,2):=if_pos o_;(repeat refine za (za (zaa zaj ?_)));refine za ?_;refine zp ⟨.inr rfl,D2 ?_⟩;show _=((za9 s).1,(za9 s).2.1,(za9 s).2.2,());rw[hP]
 have hb:¬(((4000:Nat):Int)<((s.length:Nat):Int)):=hb;have hP:za9 s=match zeL s with
  |.ok t=>(t.flat 0,0,0)
  |.error e=>([],e.1,e.2):=if_neg o_
 apply zah;refine za (za (zaa zaj ?_));refine zak (Y':=⟨[(1,⟨.optr .str,⟨0,.str,.here⟩⟩),(5,⟨.optr (.slice nd),⟨1,.slice nd,.here⟩⟩)],[(0,some (.box .str s)),(1,some (.box (.slice nd) []))],2⟩) ⟨⟨rfl,rfl,t_⟩,⟨rfl,rfl,t_⟩,rfl,rfl⟩ ?_;refine za (za (zae ?_));refine zmO hX 2 rfl rfl rfl rfl rfl rfl rfl rfl rfl rfl (zk _) Tryz.func25 rfl rfl rfl rfl Tryz.call25 rfl rfl rfl (N:=ztm s) (λw1 X' h1 h2 h3 h4 h5 h6=>?_) (λr Y hN=>?_)
 .refine zpL o_ h1 h2 h3 h4 h5 λty=>?_;obtain⟨l1,l2⟩:=zhE x0;refine⟨λh=>?_,λh=>?_⟩
  .rcases h6 _ h with h7|h7
   .omega
   .exact Ownr.plain_noR _ _ _ h7
  .rcases h6 _ h with h7|h7
   .omega
   .exact Ownr.plain_noR _ _ _ h7
 rcases hN with ⟨t,hN,rfl,hf⟩|⟨er,hN,rfl,hf⟩
 .
  refine jp (Y':=⟨[(13,⟨tupI,((0:Int),(0:Int),())⟩),(1,⟨.optr .str,⟨0,.str,.here⟩⟩),(5,⟨.optr (.slice nd),⟨1,.slice nd,.here⟩⟩)],[(0,some (.box .str s)),(1,some (.box (.slice nd) (t.flat 0)))],2⟩) ⟨⟨rfl,rfl,rfl,t_⟩,hf.e,rfl,rfl⟩ ?_;refine zaI zaj ?_;(repeat refine za (za (zaa zaj ?_)));refine za ?_;refine zp ⟨.inr rfl,D2 ?_⟩;show _=((za9 s).1,(za9 s).2.1,(za9 s).2.2,());rw[hP,hN]
 .
  refine jp (Y':=⟨[(13,⟨tupI,(er.1,er.2,())⟩),(1,⟨.optr .str,⟨0,.str,.here⟩⟩),(5,⟨.optr (.slice nd),⟨1,.slice nd,.here⟩⟩)],[(0,some (.box .str s)),(1,some (.box (.slice nd) []))],2⟩) ⟨⟨rfl,rfl,rfl,t_⟩,hf.e,rfl,rfl⟩ ?_;refine zaI zaj ?_;(repeat refine za (za (zaa zaj ?_)));refine za ?_;refine zp ⟨.inr rfl,D2 ?_⟩;show _=((za9 s).1,(za9 s).2.1,(za9 s).2.2,());rw[hP,hN]
theorem zqg(w:zh)(q:Nat)(os:Array Obj):xG w.heap.size w (Sort.grow (w.drewN q) os):=
 ⟨rfl,rfl,rfl,by show w.heap.size<=(w.heap++os).size;rw[Array.size_append];omega,λi hi=>by
   show(w.heap++os)[i]? =_;rw[Array.getElem?_append_left hi]⟩
abbrev deI(n:Int):List UInt8:=Lib.itoa n
theorem zgK(k:Nat):∀n,n<10^(k+1)->(xK n).length<=k+1:=by
 induction k with
 |zero=>
  intro n h;rw[xK];by_cases hn:n<10
  .rw[dif_pos hn];exact zj _
  .exact absurd (by simpa using h) hn
 |succ k ih=>
  intro n h;rw[xK];by_cases hn:n<10
  .rw[dif_pos hn];simp
  .rw[dif_neg hn,zg];have:=ih (n/10) (by rw[Nat.pow_succ]at h;omega);simp only[List.length_singleton];omega
theorem zfh{n:Int}(h0: -100000000000000000<n)(h1:n<100000000000000000):(deI n).length<=18:=by
 unfold deI Lib.itoa;have e:(10:Nat)^(16+1)=100000000000000000:=d_;split
 .rw[zv];have:=zgK 16 n.natAbs (by rw[e];omega);omega
 .have:=zgK 16 n.toNat (by rw[e];omega);omega
def zb7(n:Int):Prop:=-100000000000000000<n/\n<100000000000000000
def zz2:Ctr:={ args:=[i64],pre:=λx=>[zb7 x.1],res:=.str,own:=none,out:=λx=>deI x.1 }
theorem zxx:yT zb gmH 77 zz2:=by
 refine⟨Tryz.call77,λw O xs vs hO hr hp hG=>?_⟩;obtain⟨(n:Int),_⟩:=xs;obtain⟨v1,r1,rfl,e1,rfl⟩:=hr;have e1: [v1]=[Value.int .i64 n]:=e1;cases e1;obtain⟨h0,h1⟩: -100000000000000000<n/\n<100000000000000000:=hp;refine(Any.strconv_Itoa Tryz.laysM171 n o_ o_ w hG.1).mono ?_;rintro e w' ⟨rfl,k,os,rfl⟩;refine⟨_,rfl,zqg w k os,λU=>⟨rfl,?_⟩⟩;have:=zfh h0 h1;show(deI n).length<=maxLen;unfold maxLen;omega
def levS(k:Int):Int:=if k=9 then 1 else if k=10 then 2 else if k=8 then 3 else if 11<=k/\k<=17 then 4 else 5
def zwe:Ctr:={ args:=[i64],pre:=λ_=>[],res:=i64,own:=none,out:=λx=>levS x.1 }
def opKd(i:Nat):Int:=(opsL.getD i ([],0,())).2.1
theorem zuv:yT zb gmH 42 zwe:=by
 refine ctr2 zci Tryz.func42 Tryz.call42 ?_;rintro w0 X hX ⟨kd,⟨⟩⟩ hp
 iterate 2 (refine za (za (zaa zci ?_)))
 apply zay;refine xP (ι:=Nat) (λi=>⟨[(0,⟨i64,kd⟩),(5,⟨.slice gop,opsL⟩),(6,⟨i64,(3:Int)⟩),(7,⟨i64,(i:Int)⟩)],[],0⟩) (λi=>i<=3/\∀j<i,opKd j≠kd) (λi=>3-i) 0 ⟨by omega,λj h=>by omega⟩ ⟨⟨rfl,rfl,rfl,rfl,t_⟩,t_,rfl,rfl⟩ ?_;rintro i ⟨hi,x0⟩;refine za (za (zaa zci ?_));apply zaq;refine zaU rfl (λhb=>?_) (λhb=>?_)
 .
  apply zah;apply zaq;apply zay
  iterate 2 (refine za (za (zaa zci ?_)))
  refine zaf rfl (λhk=>?_) (λhk=>?_)
  .have hk:((opsL.getD ((i:Int)).toNat ([],0,())).2.1==kd)=true:=hk;have hk:=beq_iff_eq.1 hk;rw[zH]at hk;have q0:inR .i64 ((i:Int)+1):=zad o_ o_;refine za (za (zaa zci ?_));refine zp ⟨.inr rfl,D1 ?_⟩;show(i:Int)+1=levS kd;rcases (show i=0\/i=1\/i=2 by omega) with rfl|rfl|rfl
   .subst hk;rfl
   .subst hk;rfl
   .subst hk;rfl
  .have hk:((opsL.getD ((i:Int)).toNat ([],0,())).2.1==kd)=false:=hk;have hk:(opsL.getD i ([],0,())).2.1≠kd:=λe=>by
    rw[zH]at hk;rw[beq_iff_eq.2 e]at hk;cases hk
   apply zah;have q0:inR .i64 ((i:Int)+1):=zad o_ o_;refine za (za (zaa zci ?_));refine⟨i+1,⟨by omega,λj hj=>?_⟩,by omega,⟨rfl,rfl,rfl,vI64 o_,t_⟩,t_,rfl,rfl⟩;by_cases e:j=i
   .subst e;exact hk
   .exact x0 j o_
 .
  have h9:kd≠9:=λe=>x0 0 o_ e.symm;have x1:kd≠10:=λe=>x0 1 o_ e.symm;have h8:kd≠8:=λe=>x0 2 o_ e.symm;apply zaw;refine za (za (zaa zci ?_));refine zaf rfl (λhb=>?_) (λhb=>?_)
  .
   rw[zcA,zf,decide_eq_true_iff,decide_eq_true_iff]at hb;(repeat refine za (za (zaa zci ?_)));refine za ?_;refine zp ⟨.inr rfl,D1 ?_⟩;show(4:Int)=levS kd;unfold levS;rw[if_neg h9,if_neg x1,if_neg h8,if_pos hb]
  .
   have hb:¬(11<=kd/\kd<=17):=λh=>by
    rw[zcA,decide_eq_true h.1,decide_eq_true h.2]at hb;cases hb
   apply zah;(repeat refine za (za (zaa zci ?_)));refine za ?_;refine zp ⟨.inr rfl,D1 ?_⟩;show(5:Int)=levS kd;unfold levS;rw[if_neg h9,if_neg x1,if_neg h8,if_neg hb]
def zcl(n:Int):List UInt8:=if n=1 then 32::zfD else 32::zlA
def zsU:Ctr:={ args:=[i64],pre:=λx=>[0<=x.1,x.1<=1],res:=.str,own:=none,out:=λx=>zcl x.1 }
theorem zqS:yT zb gmH 79 zsU:=by
 refine ctr2 zaj Tryz.func79 Tryz.call79 ?_;rintro w0 X hX ⟨(n:Int),⟨⟩⟩ hp;obtain⟨h0,h1⟩:0<=n/\n<=1:=hp;change AWP _ _ _ _ _ ⟨[(0,⟨i64,n⟩)],[],0⟩ _;have x0:n.toNat<2:=o_
 iterate 2 (refine za (za (zaa zaj ?_)))
 refine zp ⟨.inr rfl,D1 ?_⟩;rcases (show n=0\/n=1 by omega) with rfl|rfl
 .rfl
 .rfl
theorem eqP0(o:Oper)(x:zB)(h:o.op=.fieldAddr 66 x 0):OpEq zb o { o with op:=.fieldAddr 123 x 0 }:=by
 refine⟨rfl,rfl,rfl,λev w=>?_⟩;unfold execOp;simp only[h];cases ev x<;>simp[go_sem]
theorem eqP1(o:Oper)(x:zB)(h:o.op=.fieldAddr 66 x 1):OpEq zb o { o with op:=.fieldAddr 46 x 2 }:=by
 refine⟨rfl,rfl,rfl,λev w=>?_⟩;unfold execOp;simp only[h];cases ev x<;>simp[go_sem]
@[reducible] def hW(args:List Ty)(pre:(bTy prT).T->Args args->List Prop)(out:(bTy prT).T->Args args->List UInt8):HCtr:=hBl prT [66] args .unit pre λx xs=>.ok ((),(true,((x.2.1++out x xs:List UInt8),x.2.2)))
@[reducible] def wE(ty:zo)(b:Bool)(bf:List UInt8)(r:List Nd):Owns:=[(0,some (.hbox ty [adV 0 b,⟨.obuf u8,(1:Nat)⟩,⟨.slice nd,r⟩])),(1,some (.buf 5 u8 bf))]
def wQ(rs:List jw)(c:HCtr)(ty:zo)(r:Except zd (c.res.T×c.self.T))(e:Exit)(Y:AS):Prop:=zqj gmT rs c ty e Y r
def zeu(l:List Int):List UInt8:=(l.map λn=>32::deI n).flatten
def putS(s:List UInt8)(l:List Int):List UInt8:=s++zeu l
theorem zpO(l:List Int)(n:Int):zeu (l++[n])=zeu l++32::deI n:=by
 unfold zeu;rw[List.map_append,List.flatten_append];simp
theorem zbM{l:List Int}(h:∀n∈l,zb7 n):(zeu l).length<=19*l.length:=by
 induction l with
 |nil=>exact zj _
 |cons n l ih=>
  have h1:=zfh (h n (zC ..)).1 (h n (zC ..)).2;have h2:=ih λm hm=>h m (zE _ hm);show((32::deI n)++zeu l).length<=_;rw[zg,zv,zv];omega
def kPt:Kn:={ gmK with C:=[(77,zz2)] }
theorem zba:KnOk zb gmH kPt:=zaj.with (.cons zxx .nil)
def hPt:List (zV×HCtr):=[(35,cWSP)]
theorem zoM:HsOk zb gmH hPt:=.cons zjF .nil
@[reducible] def cPut:HCtr:=hW [.str,ints] (λx xs=>[zi x.2.1+zi xs.1+19*zi xs.2.1<=1000000000,∀n∈xs.2.1,zb7 n]) λx xs=>putS xs.1 xs.2.1
theorem bufU{te:zo}{x y:List UInt8}(h:x=y):some (OObj.buf te u8 x)=some (OObj.buf te u8 y):=by rw[h]
theorem zrh:zaD zb gmH 44 cPut:=by
 refine zb9 zba Tryz.func44 (zcy rfl) Tryz.call44 (zeb prT [66]) ?_;rintro w0 O fix B ty hX x0 ⟨(b:Bool),(bf:List UInt8),(r:List Nd),⟨⟩⟩ ⟨(s:List UInt8),(l:List Int),⟨⟩⟩ hp;have hI:=λw R hR hw=>(⟨zaL (ty:=ty) hX rfl x0.1 (ty':=ty) w R hR hw,x0.2⟩:bInv prT [66] w R ty);obtain⟨hlen,x1⟩:bf.length+s.length+19*l.length<=1000000000/\∀n∈l,zb7 n:=hp;change AWP _ _ _ _ _ ⟨[(0,⟨.hptr,((0:Nat),(0:Nat))⟩),(1,⟨.str,s⟩),(2,⟨.slice i64,l⟩)],wE ty b bf r,2⟩ (wQ _ cPut ty (.ok ((),(true,((bf++(s++zeu l):List UInt8),(r,()))))));have x6:bf.length+s.length<=1000000000:=o_;refine za8 (Y':=⟨[(0,⟨.hptr,((0:Nat),(0:Nat))⟩),(2,⟨.slice i64,l⟩)],wE ty true ((bf++s:List UInt8)) r,2⟩) ?_ ?_
 .cases b
  all_goals
   refine zae ?_;refine za4 2 zba ?_;refine kD (eqP0 _ _ rfl) hX zba rfl t_ ?_;refine yZ 1 hX zba zoM rfl t_ rfl rfl x6 hI ?_;exact yQ ⟨⟨rfl,rfl,t_⟩,⟨rfl,rfl,t_⟩,rfl,rfl⟩
 refine za (za (zaa zba ?_));apply zay;refine xP (ι:=Nat) (λi=>⟨[(0,⟨.hptr,((0:Nat),(0:Nat))⟩),(13,⟨.slice i64,l⟩),(14,⟨i64,((l.length:Nat):Int)⟩),(15,⟨i64,(i:Int)⟩)],wE ty true ((bf++s++zeu (l.take i):List UInt8)) r,2⟩) (λi=>i<=l.length) (λi=>l.length-i) 0 (zk _) ⟨⟨rfl,rfl,rfl,rfl,t_⟩,⟨rfl,bufU (by show bf++s=bf++s++[];rw[zW]),t_⟩,rfl,rfl⟩ ?_;intro i hi;refine za (za (zaa zba ?_));apply zaq;refine zaU rfl (λhb=>?_) (λhb=>?_)
 .have hb:(i:Int)<((l.length:Nat):Int):=hb;have x2:i<l.length:=o_;have n0:(0:Int)<=(i:Int):=o_;have x4:l.getD ((i:Int)).toNat 0=l[i]:=zaY x2;have hn:zb7 (l.getD ((i:Int)).toNat 0):=by rw[x4];exact x1 _ (List.getElem_mem x2)
  have hd:=zfh hn.1 hn.2;have ht:zi (l.take i)<=i:=by rw[yU];omega
  have x7:=zbM (l:=l.take i) λn hm=>x1 n (List.mem_of_mem_take hm);have x5:zi (bf++s++zeu (l.take i):List UInt8)+zi (32::deI (l.getD ((i:Int)).toNat 0):List UInt8)<=1000000000:=by
   rw[zg,zg,zv];omega
  have x3:1+zi (deI (l.getD ((i:Int)).toNat 0))<=maxLen:=by unfold maxLen;omega
  apply zah;apply zaq;apply zay;refine za (za (zaa zba ?_));refine AWP.mono (Q:=λe sg=>e=.normal/\Fit sg ⟨[(0,⟨.hptr,((0:Nat),(0:Nat))⟩),(13,⟨.slice i64,l⟩),(14,⟨i64,((l.length:Nat):Int)⟩),(15,⟨i64,(i:Int)⟩)],wE ty true ((bf++s++zeu (l.take i)++(32::deI (l.getD ((i:Int)).toNat 0)):List UInt8)) r,2⟩) ?_ ?_
  .refine zbF dM 7 rfl (by kernel_rfl) ?_
   repeat'(first
    |exact kg
    |refine vD ⟨_,rfl,?_⟩ ?_
    |refine zX hX zba rfl t_ ?_
    |refine zX hX zba rfl (by exact hn) ?_
    |refine zX hX zba rfl (by exact x3) ?_
    |refine StepA.step (eqP0 _ _ rfl) hX zba rfl t_ ?_
    |refine StepA.own hX zoM rfl (by exact x5) hI ?_
    |(refine ve ?_;exact⟨rfl,⟨rfl,rfl,rfl,rfl,t_⟩,⟨rfl,rfl,t_⟩,rfl,rfl⟩))
  .rintro e s' ⟨rfl,hf⟩;have q0:inR .i64 ((i:Int)+1):=zad o_ o_;refine zak hf ?_ (by exact zq rfl);refine za (za (zaa zba ?_));refine⟨i+1,x2,by omega,⟨rfl,rfl,rfl,vI64 o_,t_⟩,⟨rfl,bufU ?_,t_⟩,rfl,rfl⟩;rw[x4,List.take_succ_eq_append_getElem x2,zpO, <-zz]
 .have hb:¬((i:Int)<((l.length:Nat):Int)):=hb;obtain rfl:i=l.length:=o_;rw[show(bf++(s++zeu l):List UInt8)=bf++s++zeu (l.take l.length) from by rw[List.take_length,zz]];apply zaw;exact⟨.inl rfl,⟨_,rfl,u8,1,_,rfl,rfl,rfl⟩,D2 rfl⟩
structure Eqv(Y Y':AS):Prop where
 f:∀s,zn Y.F s=zn Y'.F s
 e:∀i,zm Y.E i=zm Y'.E i
 nx:Y.nx=Y'.nx
theorem zgt{done:List Nat}:∀{l:List Oper}{i k:Nat},k∈zeH done l i->∃j o,k=i+j/\l[j]? =some o/\hasN done k=false/\(o.after.toList.all λe=>!qy .any e||hasN done e.on)=true
 | [],_,_,h=>by cases h
 |o::l,i,k,h=>by
  have rest:k∈zeH done l (i+1)->∃j o',k=i+j/\(o::l)[j]? =some o'/\hasN done k=false/\(o'.after.toList.all λe=>!qy .any e||hasN done e.on)=true:=λh=>by
   obtain⟨j,o',h1,h2,h3⟩:=zgt h;exact⟨j+1,o',by omega,by simpa using h2,h3⟩
  rw[zeH,cond_eq_ite]at h;split at h
  .rename_i hc;rw[zf,zL]at hc;rcases zs.1 h with rfl|h
   .exact⟨0,o,rfl,rfl,hc.1,hc.2⟩
   .exact rest h
  .exact rest h
theorem zkJ:∀(n:Nat)(l:List Nat),l.Nodup->(∀x∈l,x<n)->l.length<=n
 |0,l,_,h=>by
  cases l with
  |nil=>exact zj _
  |cons a l=>exact absurd (h a (zC ..)) (yH _)
 |n+1,l,hn,h=>by
  by_cases hm:n∈l
  .have h1:=zkJ n (l.erase n) (hn.erase n) λx hx=>by
    have h2:=h x (List.mem_of_mem_erase hx);have h3:x≠n:=λe=>by rw[hn.mem_erase_iff]at hx;exact hx.1 e
    omega
   rw[w8 hm]at h1;omega
  .have h1:=zkJ n l hn λx hx=>by
    have h2:=h x hx;have h3:x≠n:=λe=>hm (e▸hx);omega
   omega
theorem zru{n:Nat}{l:List Nat}(hn:l.Nodup)(h:∀x∈l,x<n)(hl:l.length=n){i:Nat}(hi:i<n):i∈l:=
 Decidable.byContradiction λhc=>by
  have:=zkJ n (i::l) (kc.2 ⟨hc,hn⟩) λx hx=>by
   rcases zs.1 hx with rfl|hx
   .exact hi
   .exact h x hx
  rw[zv]at this;omega
def zbT(B:zN)(L:List (Nat×Nat×V))(o:Oper):zN:=B++L.filterMap λp=>bif o.after.toList.any (λe=>yK e.on p.1&&qy .any e) then some p.2 else none
def resJ(L:List (Nat×Nat×V))(i:Nat)(F:zN):zN:=(L.filterMap λp=>bif yK p.1 i then some p.2 else none)++F
def disB:List Nat->Bool
 | []=>true
 |s::l=>!hasN l s&&disB l
section
variable {P:zw}{K:Kn}{w0:zh}{X:Ownr}{n:Nat}{Y:AS}{Q:Exit->AS->Prop}{ops:Array Oper}
theorem Sim.eqv{Y':AS}{U:Nat->zd}{a:Act}{w:zh}(h:Sim w0 X n Y U a w)(he:Eqv Y Y'):Sim w0 X n Y' U a w:=by
 have hO:OSet X Y.E U=OSet X Y'.E U:=by
  funext g
  unfold OSet;simp only[he.e]
 obtain⟨h1,h2,h3,h4,h5,h6,h7,h8,h9,x0,x1⟩:=h;simp only[he.e,he.f,he.nx,hO]at h4 h5 h6 h7 h8 h9 x0 x1;exact⟨h1,h2,h3,λs=>by
  have:=h4 s;rw[he.f s]at this;exact this,h5,h6,h7,h8,h9,x0,x1⟩
def zvh(K:Kn)(n:Nat)(ops:Array Oper)(B:zN)(L:List (Nat×Nat×V))(E0:Owns)(nx0 i:Nat):Prop:=
 ∃o,ops.toList[i]? =some o/\∀F,∃r,zje K n ops o ⟨zbT B L o++F,E0,nx0⟩=some r/\allP r.1/\r.2.F=resJ L i (zbT B L o++F)/\(∀j,zm r.2.E j=zm E0 j)/\r.2.nx=nx0
structure KnowJ(f:Nat)(B:zN)(L:List (Nat×Nat×V))(E0:Owns)(nx0:Nat)(done:List Nat)(s:AS):Prop where
 l:∀p∈L,p.1∈done->zn s.F p.2.1=p.2.2
 b:∀p∈B,zn s.F p.1=p.2
 e:∀i,zm s.E i=zm E0 i
 nx:s.nx=nx0
 nd:done.Nodup
 lt:∀x∈done,x<f
theorem zgB{F:zN}:∀{N:zN},(∀p∈N,zn F p.1=p.2)->∀s,zn (N++F) s=zn F s
 | [],_,s=>rfl
 |(t,v)::N,h,s=>by
  show zn ((t,v)::(N++F)) s=_;rw[zam];split
  .rename_i e;subst e;exact(h (t,v) (zC ..)).symm
  .exact zgB (λp hp=>h p (zE _ hp)) s
theorem zfb{F:zN}{s:Nat}:∀{N:zN},(∀p∈N,p.1≠s)->zn (N++F) s=zn F s
 | [],_=>rfl
 |(t,v)::N,h=>by
  show zn ((t,v)::(N++F)) s=_;rw[zam,if_neg (h (t,v) (zC ..))];exact zfb λp hp=>h p (zE _ hp)
theorem zfa{F:zN}{s:Nat}{v:V}:∀{N:zN},(∀p∈N,p.1=s->p.2=v)->(s,v)∈N->zn (N++F) s=v
 | [],_,h=>by cases h
 |(t,u)::N,h,hm=>by
  show zn ((t,u)::(N++F)) s=_;rw[zam];split
  .rename_i e;exact h (t,u) (zC ..) e
  .rename_i x0;rcases zs.1 hm with e|hm
   .cases e;exact absurd rfl x0
   .exact zfa (λp hp=>h p (zE _ hp)) hm
theorem zoZ{l:List Nat}(h:disB l=true):l.Nodup:=by
 induction l with
 |nil=>exact List.nodup_nil
 |cons a l ih=>
  rw[disB,zf,zL]at h;exact kc.2 ⟨λhm=>by
   rw[zaz.2 hm]at h;exact absurd h.1 d_,ih h.2⟩
theorem zeZ{α:Type}{f:α->Nat}:∀{l:List α},(l.map f).Nodup->∀{x y:α},x∈l->y∈l->f x=f y->x=y
 | [],_,_,_,h,_,_=>by cases h
 |a::l,hn,x,y,hx,hy,e=>by
  rw[qH,kc]at hn;rcases zs.1 hx with hxa|hxl
  .rcases zs.1 hy with hya|hyl
   .exact hxa.trans hya.symm
   .exact absurd (jK.2 ⟨y,hyl,by rw[<-e,hxa]⟩) hn.1
  .rcases zs.1 hy with hya|hyl
   .exact absurd (jK.2 ⟨x,hxl,by rw[e,hya]⟩) hn.1
   .exact zeZ hn.2 hxl hyl e
theorem Sub.of{F:zN}:∀{N:zN},(∀p∈N,zn F p.1=p.2)->Sub F N
 | [],_=>trivial
 |(t,v)::N,h=>⟨h (t,v) (zC ..),Sub.of λp hp=>h p (zE _ hp)⟩
theorem SubE.of{E E0:Owns}(he:∀i,zm E i=zm E0 i):∀{N:Owns},SubE E0 N->SubE E N
 | [],_=>trivial
 |(i,some o)::N,h=>⟨(he i).trans h.1,SubE.of he h.2⟩
 |(_,none)::N,h=>SubE.of (N:=N) he h
def AllI(p:Nat->Prop):Nat->Prop
 |0=>True
 |k+1=>AllI p k/\p k
theorem AllI.s{p:Nat->Prop}{k:Nat}(h:AllI p k)(h':p k):AllI p (k+1):=⟨h,h'⟩
theorem AllI.of{p:Nat->Prop}:∀{k:Nat},(∀i,i<k->p i)->AllI p k
 |0,_=>trivial
 |k+1,h=>⟨AllI.of λi hi=>h i o_,h k o_⟩
theorem AllI.get{p:Nat->Prop}:∀{k:Nat},AllI p k->∀i,i<k->p i
 |0,_,i,h=>absurd h (yH _)
 |k+1,h,i,hi=>by
  rcases Nat.lt_succ_iff_lt_or_eq.1 hi with h1|rfl
  .exact h.1.get i h1
  .exact h.2
end
def zyD(P:zw)(m:Nat)(gf:Nat)(lb:Array zd)(C:Nat->Prop)(N:Nat)(T:Nat->Array zd->Prop)(w:zh):Prop:=
 ∀(l:Nat)(J:Nat->zh->Prop)(Jr:zh->Prop)(W:zh),xG w.heap.size w W->(∀k A B,J k A->xG A.heap.size A B->J k B)->(∀A B,Jr A->xG A.heap.size A B->Jr B)->
  (∀k y W1,J k W1->k<N->T k y->W.heap.size<=W1.heap.size->YieldAt yD (m-1) P l y W1 λe W'=>(e=.returned (.bool true)/\J (k+1) W'/\uT C W.heap.size W1 W')\/(e=.returned (.bool false)/\Jr W'/\uT C W.heap.size W1 W'))->
  J 0 W->
  CallsIn yD m P gf (#[.func (.yield l) #[] #[]]++lb) W λe W'=>(∃v,e=.returned v)/\(J N W'\/Jr W')
theorem zpk{P:zw}{n:Nat}{g:zB}{ps:Array Tmp}{assign body:Code}{Q:Exit->Act->zh->Prop}{a:Act}{w:zh}{gf:Nat}{lb:Array zd}(hg:a.eval g=.func (.func gf) #[] lb)(eg:∀args w,(callFunc gf args).run P w=.ok (.enter gf args) w)
  {C:Nat->Prop}{M:Nat}{T:Nat->Array zd->Prop}{w0:zh} (xc:zyD P (n-1) gf lb C M T w0) (xp:∀k y,T k y->y.size=ps.size) (xk:xG w0.heap.size w0 w) (hC:∀k,C k->k<w.heap.size)
  (J:Nat->zh->Prop) (Jr:zh->Prop) (N:Nat->Act->zh->Prop)
  (hJ:∀k A B,J k A->Kept (λg=>A.heap.size<=g\/g=w.heap.size+1) A B->J k B) (xb:∀A B,Jr A->Kept (λg=>A.heap.size<=g\/g=w.heap.size+1) A B->Jr B) (hN:∀k a' A B,N k a' A->Kept (λg=>A.heap.size<=g\/g=w.heap.size+1) A B->N k a' B)
  (h0:∀W1:zh,xG w.heap.size w W1->W1.heap.size=w.heap.size+2->J 0 W1)
  (x4:∀(l k:Nat)(y:Array zd)(W:zh),J k W->k<M->T k y->w.heap.size+2<=W.heap.size->assign.wpIn (yD.inRound l) (n-1-1) P (λe a' W'=>e=.normal/\N k a' W'/\uT (λg=>C g\/g=w.heap.size\/g=w.heap.size+1) (w.heap.size+2) W W') { tmps:=(ps.zip y).foldl (λt(p,v)=>t.setIfInBounds p v) a.tmps,defers:=[] } W)
  (x8:∀(l k:Nat)(W:zh)(a':Act),k<M->w.heap.size+2<=W.heap.size->N k a' W->
    body.wpIn (yD.inRound l) (n-1-1) P (λe _ W3=>((e=.normal/\J (k+1) W3)\/(e=.ret/\Jr W3))/\uT (λg=>C g\/g=w.heap.size\/g=w.heap.size+1) (w.heap.size+2) W W3) a' W)
  (x7:∀W:zh,J M W->W.heap[w.heap.size]? =some (.deferred (some []))->Q .normal { a with defers:={ target:=.collected w.heap.size,args:=#[] }::a.defers } W)
  (xd:∀W:zh,Jr W->W.heap[w.heap.size]? =some (.deferred (some []))->Q .ret { a with defers:={ target:=.collected w.heap.size,args:=#[] }::a.defers } W):
  (Code.rangeFunc g ps assign body).wp P Q a w:=by
 refine(wpIn_wide (n:=n)).1 (wpIn_rangeFunc ?_);intro fn xn;obtain⟨x1,x0⟩:∃x1:LoopState->Option Code->Loop,x1=λst pe=>{ state:=st,pending:=pe,fn,tmps:=a.tmps,params:=ps,assign,body,defers:=w.heap.size }:=⟨_,rfl⟩;obtain⟨W1,x9⟩:∃W1,(w.alloc (.deferred (some []))).alloc (.loop (x1 .ready none))=W1:=⟨_,rfl⟩;have xf:W1.heap.size=w.heap.size+2:=by rw[<-x9];simp
 have xq:W1.heap[w.heap.size+1]? =some (.loop (x1 .ready none)):=by
  rw[<-x9];have:=qa (w.alloc (.deferred (some []))) (.loop (x1 .ready none));rwa[World.size_alloc]at this
 have xu:W1.heap[w.heap.size]? =some (.deferred (some [])):=by
  rw[<-x9];exact(Below.heap_alloc _ _ _ (by simp)).trans (qa w _)
 have x6:xG w.heap.size w W1:=by rw[<-x9];exact((zR _ w).alloc (zj _) _).alloc (by simp) _
 have xx:J 0 W1:=h0 _ x6 xf;have xv:xG w0.heap.size w0 W1:=xk.trans (x6.mono xk.size);refine⟨w.heap.size+1,[{ target:=.collected w.heap.size,args:=#[] }],W1,{ target:=.fn (.func gf) lb,args:=#[.func (.yield (w.heap.size+1)) #[] #[]] },W1,gf,
  #[.func (.yield (w.heap.size+1)) #[] #[]]++lb,W1,?_,?_,?_,?_,(λh=>by cases h),?_⟩
 .rw[<-x9,x0];exact run_enterLoop_outer _ _ _ _ _
 .simp only[resolve,hg];simp[go_sem]
 .intro f' y1;trivial
 .simp[invoke,go_sem,eg]
 refine(xc (w.heap.size+1) (λk W=>J k W/\W.heap[w.heap.size+1]? =some (.loop (x1 .ready none))/\W.heap[w.heap.size]? =some (.deferred (some []))) (λW=>Jr W/\W.heap[w.heap.size+1]? =some (.loop (x1 .done (some .ret)))/\W.heap[w.heap.size]? =some (.deferred (some []))) W1 xv ?_ ?_ ?_ ⟨xx,xq,xu⟩).mono ?_
 .intro k A B hs hb;have hl:=(zl.1 hs.2.1).1;have hd:=(zl.1 hs.2.2).1;exact⟨hJ k _ _ hs.1 (zey hb λk hk=>.inl hk),(hb.block _ hl).trans hs.2.1,(hb.block _ hd).trans hs.2.2⟩
 .intro A B hs hb;have hl:=(zl.1 hs.2.1).1;have hd:=(zl.1 hs.2.2).1;exact⟨xb _ _ hs.1 (zey hb λk hk=>.inl hk),(hb.block _ hl).trans hs.2.1,(hb.block _ hd).trans hs.2.2⟩
 .rintro k y W ⟨hj,hl,hk⟩ xj xi y0;have xz:w.heap.size+1<W.heap.size:=(zl.1 hl).1;have hy:=run_yield (P:=P) (args:=y) hl (by rw[x0];exact xp k y xi);rw[x0]at hy;refine⟨fn,_,assign,body,hy,roundIn_of_wpIn xn ?_⟩;refine zT (x4 _ k y W hj xj xi o_) ?_;rintro e a2 W2 ⟨rfl,xr,x3⟩;have xh:=(x3.block _ (.inr (.inr rfl))).trans hl;have xm:=(x3.block _ (.inr (.inl rfl))).trans hk;have xe:=(zl.1 xh).1;refine⟨_,run_beginRound xh (by rw[x0]),?_⟩;have xt:(W2.putObj (w.heap.size+1) (.loop { x1 .ready none with state:=.busy })).heap[w.heap.size+1]? =some (.loop { x1 .ready none with state:=.busy }):=qL xe;have xo:(W2.putObj (w.heap.size+1) (.loop { x1 .ready none with state:=.busy })).heap[w.heap.size]? =some (.deferred (some [])):=(yA o_).trans xm;have xy:N k a2 (W2.putObj (w.heap.size+1) (.loop { x1 .ready none with state:=.busy })):=hN k a2 _ _ xr (zbq _ (.inr rfl));have x5:=grownBy_putObj' W2 (w.heap.size+1) (.loop { x1 .ready none with state:=.busy });refine zT (x8 _ k _ a2 xj (zJ o_ x5.size) xy) ?_;rintro e a3 W3 ⟨he,x2⟩;have xa:W3.heap[w.heap.size+1]? =some (.loop { x1 .ready none with state:=.busy }):=(x2.block _ (.inr (.inr rfl))).trans xt;have xg:=(x2.block _ (.inr (.inl rfl))).trans xo;rcases he with ⟨rfl,hj3⟩|⟨rfl,hr3⟩
  .have hr:=run_endRound (P:=P) none xa;refine⟨_,_,hr,.inl ⟨rfl,⟨hJ _ _ _ hj3 (zbq _ (.inr rfl)),?_,(yA o_).trans xg⟩,?_⟩⟩
   .rw[qL (zl.1 xa).1,x0];rfl
   .refine⟨?_,?_,?_,?_,λj hj=>?_⟩
    .exact(grownBy_putObj' W3 _ _).os.trans (x2.os.trans (x5.os.trans x3.os))
    .exact(grownBy_putObj' W3 _ _).tape.trans (x2.tape.trans (x5.tape.trans x3.tape))
    .exact(grownBy_putObj' W3 _ _).output.trans (x2.output.trans (x5.output.trans x3.output))
    .exact zJ (by rw[xf];exact x2.size) (grownBy_putObj' W3 _ _).size
    .have xw:=hC j hj;exact(yA o_).trans ((x2.block j (.inl hj)).trans ((yA o_).trans (x3.block j (.inl hj))))
  .have hr:=run_endRound (P:=P) (some .ret) xa;refine⟨_,_,hr,.inr ⟨rfl,⟨xb _ _ hr3 (zbq _ (.inr rfl)),?_,(yA o_).trans xg⟩,?_⟩⟩
   .rw[qL (zl.1 xa).1,x0];rfl
   .refine⟨?_,?_,?_,?_,λj hj=>?_⟩
    .exact(grownBy_putObj' W3 _ _).os.trans (x2.os.trans (x5.os.trans x3.os))
    .exact(grownBy_putObj' W3 _ _).tape.trans (x2.tape.trans (x5.tape.trans x3.tape))
    .exact(grownBy_putObj' W3 _ _).output.trans (x2.output.trans (x5.output.trans x3.output))
    .exact zJ (by rw[xf];exact x2.size) (grownBy_putObj' W3 _ _).size
    .have xw:=hC j hj;exact(yA o_).trans ((x2.block j (.inl hj)).trans ((yA o_).trans (x3.block j (.inl hj))))
 .rintro e W2 ⟨⟨v,rfl⟩,⟨hj,hl,hk⟩|⟨hj,hl,hk⟩⟩
  .exact⟨none,_,by have:=run_endLoop (P:=P) hl (by rw[x0];simp);rw[x0]at this;exact this,x7 _ (hJ _ _ _ hj (zbq _ (.inr rfl))) ((yA o_).trans hk)⟩
  .exact⟨some .ret,_,by have:=run_endLoop (P:=P) hl (by rw[x0];simp);rw[x0]at this;exact this,wpIn_ret (xd _ (xb _ _ hj (zbq _ (.inr rfl))) ((yA o_).trans hk))⟩
def zx3(ps:Array Tmp)(a:Act)(y:Array zd):Act:={ tmps:=(ps.zip y).foldl (λt(p,v)=>t.setIfInBounds p v) a.tmps,defers:=[] }
def zipF:List Tmp->List V->List (Nat×V)
 |p::ps,v::vs=>(p,v)::zipF ps vs
 |_,_=>[]
theorem zoT:∀(ps:List Tmp)(xs:List zd)(t:Array zd),((ps.zip xs).foldl (λt(p:Tmp×zd)=>t.setIfInBounds p.1 p.2) t).size=t.size
 | [],_,_=>rfl
 |_::_,[],_=>rfl
 |p::ps,x::xs,t=>by
  show((ps.zip xs).foldl (λt(p:Tmp×zd)=>t.setIfInBounds p.1 p.2) (t.setIfInBounds p x)).size=t.size;rw[zoT ps xs];simp
theorem zha:∀(ps:List Tmp)(xs:List zd)(t:Array zd)(s:Nat),s ∉ ps->((ps.zip xs).foldl (λt(p:Tmp×zd)=>t.setIfInBounds p.1 p.2) t).getD s undef=t.getD s undef
 | [],_,_,_,_=>rfl
 |_::_,[],_,_,_=>rfl
 |p::ps,x::xs,t,s,hs=>by
  show((ps.zip xs).foldl (λt(p:Tmp×zd)=>t.setIfInBounds p.1 p.2) (t.setIfInBounds p x)).getD s undef=_;rw[zha ps xs _ s λh=>hs (zE _ h),zO,zO,xO,if_neg (λe:p=s=>hs (by rw[e];exact zC ..))]
theorem zoU{w:zh}{O:Nat->Prop}{U:Nat->zd}{F:zN}:∀(ps:List Tmp)(vs:List V)(xs:List zd)(t:Array zd),ps.Nodup->(∀p∈ps,p<t.size)->ps.length=vs.length->RepVs w O U vs xs->
  (∀s,RepV w O U (zn F s).t (zn F s).x (t.getD s undef))->∀s,RepV w O U (zn (zipF ps vs++F) s).t (zn (zipF ps vs++F) s).x (((ps.zip xs).foldl (λt(p:Tmp×zd)=>t.setIfInBounds p.1 p.2) t).getD s undef)
 | [],_,_,_,_,_,_,_,h,s=>h s
 |p::ps,[],_,_,_,_,hl,_,_,_=>by cases hl
 |p::ps,v::vs,[],_,_,_,_,h,_,_=>by have:=h.1;cases this
 |p::ps,v::vs,x::xs,t,hn,hlt,hl,hr,h,s=>by
  rw[kc]at hn;have hx:RepV w O U v.t v.x x:=by
   obtain⟨u,hu,hr⟩:=hr.2 0 v rfl;cases hu;exact hr
  have hp:=hlt p (zC ..);show RepV w O U (zn ((p,v)::(zipF ps vs++F)) s).t (zn ((p,v)::(zipF ps vs++F)) s).x (((ps.zip xs).foldl (λt(p:Tmp×zd)=>t.setIfInBounds p.1 p.2) (t.setIfInBounds p x)).getD s undef);rw[zam];by_cases e:p=s
  .rw[if_pos e, <-e,zha _ _ _ _ hn.1,zO,xO,if_pos rfl]
   simpa [hp] using hx
  .rw[if_neg e];by_cases hs:s∈ps
   .have:=zoU (F:=[]) ps vs xs (t.setIfInBounds p x) hn.2 (λq hq=>by have:=hlt q (zE _ hq);simpa using this) (wb hl) ⟨wb hr.1,λi v hv=>hr.2 (i+1) v hv⟩ (λs=>trivial) s;have hg:∀(ps:List Tmp)(vs:List V),s∈ps->ps.length=vs.length->zn (zipF ps vs++F) s=zn (zipF ps vs++[]) s:=by
     intro ps
     induction ps with
     |nil=>intro vs h;cases h
     |cons p ps ih=>
      intro vs h hl;cases vs with
      |nil=>cases hl
      |cons v vs=>
       show zn ((p,v)::(zipF ps vs++F)) s=zn ((p,v)::(zipF ps vs++[])) s;rw[zam,zam];by_cases e:p=s
       .rw[if_pos e,if_pos e]
       .rw[if_neg e,if_neg e];exact ih vs ((zs.1 h).resolve_left λh=>e h.symm) (wb hl)
    rw[hg ps vs hs (wb hl)];exact this
   .rw[zha _ _ _ _ hs,zO,xO,if_neg e, <-zO];have hg:∀(ps:List Tmp)(vs:List V),s ∉ ps->zn (zipF ps vs++F) s=zn F s:=by
     intro ps
     induction ps with
     |nil=>intro vs _;rfl
     |cons p ps ih=>
      intro vs h;cases vs with
      |nil=>rfl
      |cons v vs=>
       show zn ((p,v)::(zipF ps vs++F)) s=_;rw[zam,if_neg (λe:p=s=>h (by rw[e];exact zC ..))];exact ih vs λh'=>h (zE _ h')
    rw[hg ps vs hs];exact h s
def zpb(W0:zh)(C:Nat->Prop)(vs:List V)(y:Array zd):Prop:=∃xs:List zd,y=xs.toArray/\xs.length=vs.length/\∀(w':zh)(O'':Nat->Prop)(U':Nat->zd),W0.heap.size<=w'.heap.size->(∀g,C g->w'.heap[g]? =W0.heap[g]? /\¬O'' g)->RepVs w' O'' U' vs xs
def Iter(P:zw)(gf:Nat)(cap:Ty)(cx:cap.T)(N:Nat)(x0:Nat->List V):Prop:=
 ∀(w:zh)(us:List zd)(O':Nat->Prop),RepCap w O' cap cx us->∃(C:Nat->Prop),(∀g,C g->g<w.heap.size/\¬O' g)/\zyD P 0 gf us.toArray C N (λk y=>zpb w C (x0 k) y) w
theorem zeG{P:zw}{w0:zh}{G:zh->Prop}{O Bo:Nat->Prop}{n:Nat}{Y:AS}{Q:Exit->AS->Prop}{g gf:Nat}{ps:Array Tmp}{cap:Ty}{cx:cap.T}{assign body:Code}(hX:∀ds,(xB G O ds Bo).Ok w0)
  (hg:zn Y.F g=⟨.clo gf cap,cx⟩) (eg:∀args w,(callFunc gf args).run P w=.ok (.enter gf args) w) (pl:List Tmp) (yc:ps=pl.toArray) (yb:pl.all (λp=>zM p n)=true) (yf:disB pl=true)
  (N:Nat) (x2:Nat->List V) (y9:∀k,(x2 k).length=pl.length) (xy:Iter P gf cap cx N x2)
  (K:Nat) (hK:∀i,i<K->∃ob,zm Y.E i=some ob/\ob.isBuf=false) (F:List (Nat×V)) (hF:Sub Y.F F) (hh:F.all (λz=>zmn K z.2&& !hasN pl z.1)=true) (E:Nat->Owns) (nx:Nat) (xc:K<=nx) (xp:Fit Y ⟨F,E 0,nx⟩) (hv:∀k,bndV nx (x2 k)=true)
  (A R:Nat->Prop) (hA:A 0) (S1:Nat->AS) (yj:∀k,K<=(S1 k).nx) (ER:Nat->Owns)
  (x5:∀(W:zh)(O' Bf:Nat->Prop)(fix:Nat->Nat)(l:Nat),(⟨G,O',K,fix,[],some l,Bf⟩:Ownr).Ok W->∀k,k<N->A k->AWP P W ⟨G,O',K,fix,[],some l,Bf⟩ n assign ⟨zipF pl (x2 k)++F,E k,nx⟩ (λe s=>e=.normal/\Fit s (S1 k)))
  (xg:∀(W:zh)(O' Bf:Nat->Prop)(fix:Nat->Nat)(l:Nat),(⟨G,O',K,fix,[],some l,Bf⟩:Ownr).Ok W->∀k,k<N->A k->AWP P W ⟨G,O',K,fix,[],some l,Bf⟩ n body (S1 k) (λe s=>(e=.normal/\A (k+1)/\Fit s ⟨[],E (k+1),nx⟩)\/(e=.ret/\R k/\Fit s ⟨[],ER k,nx⟩)))
  (yk:A N->Q .normal ⟨F,E N,nx⟩) (yo:∀k,k<N->A k->R k->Q .ret ⟨F,ER k,nx⟩):AWPD P w0 G O Bo n (.rangeFunc (.tmp g) ps assign body) Y Q:=by
 intro ds U a w hs hm;subst yc;have xw:∀p∈pl,p<n:=λp hp=>by simpa using yE.1 yb p hp
 have xz:a.tmps.size=n:=hs.sz;have y2:=hs.fr g;rw[hg]at y2;obtain⟨us,ym,ye⟩:∃us,a.tmps.getD g undef=.func (.func gf) #[] (List.toArray us)/\RepCap w (OSet (xB G O ds Bo) Y.E U) cap cx us:=y2;obtain⟨C,hC,yi⟩:=xy w us _ ye;have xb:∀g,ownB Y.E U g->(w0.heap.size<=g\/Bo g)/\g<w.heap.size:=λg hg=>zfs hs hg;obtain⟨fix,xh⟩:∃fix:Nat->Nat,fix=λi=>(zag (U i)).getD 0:=⟨_,rfl⟩;have x9:∀i,i<K->zag (U i)=some (fix i)/\ownB Y.E U (fix i):=λi hi=>by
  obtain⟨ob,h1,h2⟩:=hK i hi;have h3:∃g,zag (U i)=some g:=by
   have h4:=hs.own i ob h1;cases ob with
   |box t x=>obtain⟨g',cs,ty,e,_⟩:=h4;rw[e];exact⟨_,rfl⟩
   |buf te t xs=>cases h2
   |hbox ty vs=>obtain⟨g',cs,e,_⟩:=h4;rw[e];exact⟨_,rfl⟩
   |mp m I=>obtain⟨ms,ck,e,_⟩:=h4;rw[e];exact⟨_,rfl⟩
  obtain⟨g',h4⟩:=h3;have h5:fix i=g':=by rw[xh];simp only[h4];rfl
  rw[h5];exact⟨h4,i,ob,h1,h4⟩
 obtain⟨D,hD⟩:∃D,D=w.heap.size:=⟨_,rfl⟩
 let OX:Nat->Prop:=λg=>O g\/g=D+1
 let XB:Option Nat->Ownr:=λρ=>⟨G,OX,K,fix,[],ρ,ownB Y.E U⟩
 have hR:∀ρ g,(XB ρ).R g->ownB Y.E U g:=λρ g h=>by
  rcases h with ⟨i,hi,rfl⟩|h
  .exact(x9 i hi).2
  .exact h
 have xj:∀g,O g->g<w0.heap.size:=λg hg=>((hX ds).1 g hg).1;have yg:=hs.bel.size;have chain:∀(ρ:Option Nat)(B W:zh),B.heap.size=D+2->Kept (λg=>D<=g) w B->Kept (XB ρ).R B W->Kept (λg=>ownB Y.E U g\/D<=g) w W:=λρ B W _ h1 h2=>
  (h1.mono λg h=>.inr h).trans (h2.mono λg h=>.inl (hR ρ g h))
 have xq:∀(ρ:Option Nat)(B:zh),B.heap.size=D+2->Kept (λg=>D<=g) w B->(XB ρ).Ok B:=λρ B y1 xo=>by
  refine⟨λg hg=>?_,λg hg=>?_,λW' hk=>?_⟩
  .
   refine⟨?_,λhr=>?_⟩
   .rcases hg with h|h
    .have:=xj g h;omega
    .omega
   .have h1:=xb g (hR ρ g hr);have ys:=h1.2;rcases hg with h|h
    .rcases h1.1 with h2|h2
     .have:=xj g h;omega
     .exact((hX ds).1 g h).2 (.inr h2)
    .omega
  .have:=(xb g (hR ρ g hg)).2;omega
  .exact(hX ds).2.2 W' (zuB (ds':=ds) hs (R:=λg=>ownB Y.E U g\/D<=g) (λg h=>h.elim (λh=>(xb g h).1) λh=>.inl (by have h:D<=g:=h;omega)) (chain ρ B W' y1 xo hk))
 let J:Nat->zh->Prop:=λk W=>A k/\∃(B:zh)(x0:Nat->zd),B.heap.size=D+2/\Kept (λg=>D<=g) w B/\Sim B (XB none) 0 ⟨[],E k,nx⟩ x0 nA0 W
 let Jr:zh->Prop:=λW=>∃k,k<N/\A k/\R k/\∃(B:zh)(x0:Nat->zd),B.heap.size=D+2/\Kept (λg=>D<=g) w B/\Sim B (XB none) 0 ⟨[],ER k,nx⟩ x0 nA0 W
 let NN:Nat->Act->zh->Prop:=λk a' W=>A k/\bndB (S1 k).nx (S1 k).F=true/\∃(B:zh)(x0:Nat->zd),B.heap.size=D+2/\Kept (λg=>D<=g) w B/\Sim B (XB none) n (S1 k) x0 a' W
 have y8:∀(E':Owns)(B W:zh)(x0:Nat->zd),B.heap.size=D+2->Kept (λg=>D<=g) w B->Sim B (XB none) 0 ⟨[],E',nx⟩ x0 nA0 W->∀s,RepV W (OSet (XB none) E' x0) x0 (zn F s).t (zn F s).x (a.tmps.getD s undef):=by
  intro E' B W x0 y1 xo x1 s;have h1:=(hs.weaken hF.get).fr s;have yh:zmn K (zn F s)=true:=by
   have:∀(F:List (Nat×V)),F.all (λz=>zmn K z.2&& !hasN pl z.1)=true->zmn K (zn F s)=true:=by
    intro F
    induction F with
    |nil=>intro _;rfl
    |cons z F ih=>
     intro h;rw[List.all_cons,zf,zf]at h;obtain⟨s',v⟩:=z;rw[zam];split
     .exact h.1.1
     .exact ih h.2
   exact this F hh
  have h2:=RepV.rehand (U':=x0) (λi hi g hg=>by
   have h3:=(x9 i hi).1;rw[hg]at h3;rw[(x1.fix.2 i hi).1];exact h3.symm▸rfl) (zn F s) yh h1
  refine zZ ⟨?_,λg xk x4=>?_,λg xk x4=>?_⟩ _ _ _ h2
  .have:=x1.bel.size;omega
  .refine(x1.bel.block g o_ λhr=>x4 (.inr (hR none g hr))).trans (xo.block g xk λh=>by omega)
  .rcases x4 with h3|⟨i,ob,h3,h4⟩
   .
    rcases h3 with h3|h3
    .exact .inl h3
    .omega
   .rcases x1.new i ob g h3 h4 with h5|h5
    .omega
    .exact .inr (hR none g h5)
 have h0:=hs.fit xp (zk _);have xi:=xp.e.get;have x7:∀(m:Nat)(xd:AS)(a1:Act)(B A B':zh)(x0:Nat->zd),B.heap.size=D+2->Kept (λg=>D<=g) w B->Sim B (XB none) m xd x0 a1 A->Kept (λg=>A.heap.size<=g\/g=w.heap.size+1) A B'->∃B2:zh,B2.heap.size=D+2/\Kept (λg=>D<=g) w B2/\Sim B2 (XB none) m xd x0 a1 B':=by
  intro m xd a1 B A B' x0 h1 h2 h3 hk;obtain⟨B2,e1,e2,e3⟩:=h3.outside (xq none B h1 h2) (I:=λg=>g=D+1) (λg h=>.inr h) (C:=B') ⟨hk.os,hk.tape,hk.output,hk.size,λq hq hn=>hk.block q hq λh=>h.elim (λh=>by omega) λh=>hn (by rw[h,hD])⟩;exact⟨B2,e1.trans h1,h2.trans (e2.mono λg h=>by have h:g=D+1:=h;show D<=g;omega),e3⟩
 have x6:∀(l m1 m2:Nat)(B W W':zh)(xd Y2:AS)(y3 ya:Nat->zd)(a1 a2:Act)(xr xx:Option Nat),B.heap.size=D+2->Kept (λg=>D<=g) w B->Sim B (XB xr) m1 xd y3 a1 W->Sim B (XB xx) m2 Y2 ya a2 W'->uT (λg=>C g\/g=w.heap.size\/g=w.heap.size+1) (w.heap.size+2) W W':=by
  intro l m1 m2 B W W' xd Y2 y3 ya a1 a2 xr xx y1 xo h3 h4;refine⟨h4.bel.os.trans h3.bel.os.symm,h4.bel.tape.trans h3.bel.tape.symm,h4.bel.output.trans h3.bel.output.symm,by have:=h4.bel.size;omega,λq hq=>?_⟩;have xn:q<B.heap.size/\¬ownB Y.E U q:=by
   rcases hq with h|h|h
   .exact⟨by have:=(hC q h).1;omega,λhr=>(hC q h).2 (.inr hr)⟩
   .exact⟨by omega,λhr=>by have:=(xb q hr).2;omega⟩
   .exact⟨by omega,λhr=>by have:=(xb q hr).2;omega⟩
  exact(h4.bel.block q xn.1 λhr=>xn.2 (hR xx q hr)).trans (h3.bel.block q xn.1 λhr=>xn.2 (hR xr q hr)).symm
 have xf:∀(e:Exit)(E':Owns)(B W:zh)(x0:Nat->zd),B.heap.size=D+2->Kept (λg=>D<=g) w B->Sim B (XB none) 0 ⟨[],E',nx⟩ x0 nA0 W->W.heap[w.heap.size]? =some (.deferred (some []))->Q e ⟨F,E',nx⟩->
   ∃Y' U' ds',Sim w0 (xB G O ds' Bo) n Y' U' { a with defers:={ target:=.collected w.heap.size,args:=#[] }::a.defers } W/\Marks w0.heap.size W ds'/\Q e Y':=by
  intro e E' B W x0 h1 h2 h3 x3 yn;have y5:=chain none B W h1 h2 h3.bel;refine⟨⟨F,E',nx⟩,x0,{ target:=.collected w.heap.size,args:=#[] }::ds,⟨xz,by show _::a.defers=_::ds;rw[hs.df],?_,λs=>?_,λi ob hi=>?_,λi ob g hi hg=>?_,h3.inj,h3.lt,⟨zk _,λi hi=>absurd hi (yH _)⟩,λs=>zdx xp.bf s,h3.hE⟩,?_,yn⟩
  .exact zuB hs (λg h=>h.elim (λh=>(xb g h).1) λh=>.inl (by have h:D<=g:=h;omega)) y5
  .exact zZ ⟨zj _,λ_ _ _=>rfl,λg _ x4=>x4.imp (λh=>.inl h) λh=>h⟩ _ _ _ (y8 E' B W x0 h1 h2 h3 s)
  .exact(h3.own i ob hi).keep ⟨zj _,λ_ _ _=>rfl,λg _ x4=>x4.imp (λh=>.inl h) λh=>h⟩ λ_ _=>rfl
  .rcases h3.new i ob g hi hg with h|h
   .exact .inl o_
   .exact(xb g (hR none g h)).1.imp (λh=>h) .inr
  .refine⟨⟨w.heap.size,rfl,yg,x3,λe he g' y6 e2=>?_⟩,hm.keep λg xm=>(y5.block g (zl.1 xm).1 λh=>?_).trans xm⟩
   .obtain⟨g1,e1,_,e3⟩:=hm.mem he;rw[e1]at y6;cases y6;have:=(zl.1 e3).1;omega
   .rcases h with h|h
    .exact hs.isCells h _ xm
    .have:=(zl.1 xm).1;omega
 refine wpIn_wide.2 (zpk (n:=0) (w0:=w) (C:=C) ym eg yi (λk y hy=>?_) (zR _ _) (λk hk=>(hC k hk).1) J Jr NN ?_ ?_ ?_ ?_ ?_ ?_ ?_ ?_)
 .obtain⟨xs,rfl,h,_⟩:=hy;rw[y9]at h;simp[h]
 .rintro k A B' ⟨hA,B,x0,h1,h2,h3⟩ hk;obtain⟨B2,k1,k2,k3⟩:=x7 _ _ _ B A B' x0 h1 h2 h3 hk;exact⟨hA,B2,x0,k1,k2,k3⟩
 .rintro A B' ⟨k,yl,hA,xu,B,x0,h1,h2,h3⟩ hk;obtain⟨B2,k1,k2,k3⟩:=x7 _ _ _ B A B' x0 h1 h2 h3 hk;exact⟨k,yl,hA,xu,B2,x0,k1,k2,k3⟩
 .rintro k a' A B' ⟨hA,xt,B,x0,h1,h2,h3⟩ hk;obtain⟨B2,k1,k2,k3⟩:=x7 _ _ _ B A B' x0 h1 h2 h3 hk;exact⟨hA,xt,B2,x0,k1,k2,k3⟩
 .intro W1 y0 yr;refine⟨hA,W1,U,by omega,zey y0 λk hk=>by rw[hD];exact hk,rfl,rfl,jx _ _,λ_=>trivial,λi ob hi=>?_,λi ob g hi hg=>.inr (.inr ⟨i,ob,xi i ob hi,hg⟩),h0.inj,h0.lt,⟨xc,λi hi=>⟨(x9 i hi).1,λob yp=>?_⟩⟩,λ_=>zk _,h0.hE⟩
  .refine(h0.own i ob hi).keep ⟨by omega,λg xk _=>y0.block g xk,λg xk x4=>?_⟩ λg hg=>y0.block g ((h0.own i ob hi).block_lt hg).2;rcases x4 with h3|h3
   .
    rcases h3 with h3|h3
    .exact .inl h3
    .omega
   .exact .inr h3
  .obtain⟨yt,h1,h2⟩:=hK i hi;have h3:=xi i ob yp;rw[h1]at h3;cases h3;exact h2
 .rintro l k y W ⟨x8,B,x0,h1,h2,h3⟩ xe ⟨xs,rfl,yq,xa⟩ xv;have hb:=x5 B OX (ownB Y.E U) fix l (xq (some l) B h1 h2) k xe x8;have xa:=xa W (OSet (XB (some l)) (E k) x0) x0 (by have:=h3.bel.size;omega) λq hq=>by
   refine⟨(h3.bel.block q (by have:=(hC q hq).1;omega) λhr=>(hC q hq).2 (.inr (hR none q hr))).trans (h2.block q (hC q hq).1 λh=>by have:=(hC q hq).1;omega),?_⟩;rintro (h|⟨i,ob,h8,h9⟩)
   .
    rcases h with h|h
    .exact(hC q hq).2 (.inl h)
    .have:=(hC q hq).1;omega
   .rcases h3.new i ob q h8 h9 with h|h
    .have:=(hC q hq).1;omega
    .exact(hC q hq).2 (.inr (hR none q h))
  have y4:(zx3 pl.toArray a xs.toArray).tmps=(pl.zip xs).foldl (λt(p:Tmp×zd)=>t.setIfInBounds p.1 p.2) a.tmps:=by
   unfold zx3;simp
  have x1:Sim B (XB (some l)) n ⟨zipF pl (x2 k)++F,E k,nx⟩ x0 (zx3 pl.toArray a xs.toArray) W:=by
   refine pZ (X':=XB (some l)) h3 rfl rfl rfl ?_ rfl (λs=>?_) ?_
   .rw[y4,zoT];exact xz
   .rw[y4];exact zoU pl (x2 k) xs a.tmps (zoZ yf) (λp hp=>by rw[xz];exact xw p hp) (y9 k).symm xa (λs=>y8 (E k) B W x0 h1 h2 h3 s) s
   .have y7:=xp.bf;have:∀(ps:List Tmp)(vs:List V),bndV nx vs=true->bndB nx (zipF ps vs++F)=true:=by
     intro ps
     induction ps with
     |nil=>intro vs _;exact y7
     |cons p ps ih=>
      intro vs h;cases vs with
      |nil=>exact y7
      |cons v vs=>
       simp only[bndV,zf]at h;show bndB nx ((p,v)::(zipF ps vs++F))=true;simp only[bndB,zf];exact⟨h.1,ih vs h.2⟩
    exact this pl (x2 k) (hv k)
  refine zT (hb x0 _ W x1) ?_;rintro e a' W' ⟨Y',U',h4,rfl,h5⟩;have h6:=h4.fit h5 (yj k);refine⟨rfl,⟨x8,h5.bf,B,U',h1,h2,?_⟩,x6 l _ _ B W W' _ _ _ _ _ _ none (some l) h1 h2 h3 h4⟩;exact pZ (X':=XB none) (a':=a') (m:=n) (F:=(S1 k).F) h6 rfl rfl rfl h6.sz h6.df (λs=>h6.fr s) h5.bf
 .rintro l k W a' xe xv ⟨x8,xt,B,x0,h1,h2,h3⟩;have hb:=xg B OX (ownB Y.E U) fix l (xq (some l) B h1 h2) k xe x8;have x1:Sim B (XB (some l)) n (S1 k) x0 a' W:=by
   exact pZ (X':=XB (some l)) (a':=a') (m:=n) (F:=(S1 k).F) h3 rfl rfl rfl h3.sz h3.df (λs=>h3.fr s) xt
  refine zT (hb x0 _ W x1) ?_;rintro e a3 W' ⟨Y',U',h4,h5⟩;refine⟨?_,x6 l _ _ B W W' _ _ _ _ _ _ none (some l) h1 h2 h3 h4⟩;rcases h5 with ⟨rfl,hA1,h5⟩|⟨rfl,hR1,h5⟩
  .exact .inl ⟨rfl,hA1,B,U',h1,h2,pZ (X':=XB none) (a':=nA0) (m:=0) (F:=[]) (h4.fit h5 xc) rfl rfl rfl rfl rfl (λs=>trivial) rfl⟩
  .exact .inr ⟨rfl,k,xe,x8,hR1,B,U',h1,h2,pZ (X':=XB none) (a':=nA0) (m:=0) (F:=[]) (h4.fit h5 xc) rfl rfl rfl rfl rfl (λs=>trivial) rfl⟩
 .rintro W ⟨yd,B,x0,h1,h2,h3⟩ x3;exact xf .normal (E N) B W x0 h1 h2 h3 x3 (yk yd)
 .rintro W ⟨k,xe,x8,xu,B,x0,h1,h2,h3⟩ x3;exact xf .ret (ER k) B W x0 h1 h2 h3 x3 (yo k xe x8 xu)
section
variable {P:zw}{G:zh->Prop}{n:Nat}{W0:zh}{C:Nat->Prop}{B:Nat}{J:Option Nat->zh->Prop}{F:zN}{κ:Option Nat}{Q:Exit->zN->Option Nat->Prop}{ops:Array Oper}{l:List Oper}
abbrev Ownr.it(G:zh->Prop):Ownr:=⟨G,λ_=>False,0,λ_=>0,[],none,λ_=>False⟩
theorem Ownr.it_R{g:Nat}:¬(Ownr.it G).R g:=λh=>h.elim (λ⟨_,h,_⟩=>absurd h (yH _)) id
structure ISt(G:zh->Prop)(n:Nat)(W0:zh)(C:Nat->Prop)(B:Nat)(F:zN)(a:Act)(w:zh):Prop where
 big:B<=w.heap.size
 same:∀g,C g->w.heap[g]? =W0.heap[g]?
 sim:∃U,Sim w (Ownr.it G) n ⟨F,[],0⟩ U a w
def IWP(P:zw)(G:zh->Prop)(n:Nat)(W0:zh)(C:Nat->Prop)(B:Nat)(J:Option Nat->zh->Prop)(c:Code)(F:zN)(κ:Option Nat)(Q:Exit->zN->Option Nat->Prop):Prop:=
 ∀a w,ISt G n W0 C B F a w->J κ w->c.wpIn yD 0 P (λe a' w'=>∃F' κ',ISt G n W0 C B F' a' w'/\J κ' w'/\Q e F' κ') a w
def IL(P:zw)(G:zh->Prop)(n:Nat)(W0:zh)(C:Nat->Prop)(B:Nat)(J:Option Nat->zh->Prop)(ops:Array Oper)(l:List Oper)(F:zN)(κ:Option Nat)(Q:Exit->zN->Option Nat->Prop):Prop:=
 ∀a w,ISt G n W0 C B F a w->J κ w->wpListIn yD 0 P ops (λe a' w'=>∃F' κ',ISt G n W0 C B F' a' w'/\J κ' w'/\Q e F' κ') l a w
theorem zzy(hG:∀w,G w)(w:zh):(Ownr.it G).Ok w:=⟨λg h=>h.elim,λg h=>(Ownr.it_R h).elim,λw' _=>hG w'⟩
theorem ISt.step{Y:AS}{F':zN}{U:Nat->zd}{a a':Act}{w w':zh}(hW:W0.heap.size<=B)(hC:∀g,C g->g<W0.heap.size)(h:ISt G n W0 C B F a w)(h1:Sim w (Ownr.it G) n Y U a' w')(hE:Y.E=[])(hF:Sub Y.F F')(hb:bndB 0 F'=true):ISt G n W0 C B F' a' w'/\xG w.heap.size w w':=by
 have x0:=h1.bel.below λg h=>Ownr.it_R h;exact⟨⟨zJ h.big x0.size,λg hg=>(x0.block g (by have:=hC g hg;have:=h.big;omega)).trans (h.same g hg),U,h1.rebase hE rfl hF hb⟩,x0⟩
theorem IWP.of{c:Code}(hW:W0.heap.size<=B)(hC:∀g,C g->g<W0.heap.size)(hG:∀w,G w)(hJ:∀κ A A',J κ A->xG A.heap.size A A'->J κ A')
  (h:∀W,(Ownr.it G).Ok W->B<=W.heap.size->(∀g,C g->W.heap[g]? =W0.heap[g]?)->AWP P W (Ownr.it G) n c ⟨F,[],0⟩ (λe Y=>Y.E=[]/\∃F',Sub Y.F F'/\bndB 0 F'=true/\Q e F' κ)):IWP P G n W0 C B J c F κ Q:=by
 intro a w hs hj;obtain⟨U,x0⟩:=hs.sim;refine zT (h w (zzy hG w) hs.big hs.same U a w x0) ?_;rintro e a' w' ⟨Y',U',h1,hE,F',hF,hb,hq⟩;obtain⟨h2,h3⟩:=hs.step hW hC h1 hE hF hb;exact⟨F',κ,h2,hJ κ _ _ hj h3,hq⟩
theorem ze8{W w:zh}{Y:AS}{U:Nat->zd}{a:Act}(hW:W0.heap.size<=B)(hC:∀g,C g->g<W0.heap.size)(x1:B<=W.heap.size)(hw:∀g,C g->W.heap[g]? =W0.heap[g]?)(h:Sim W (Ownr.it G) n Y U a w):W0.heap.size<=w.heap.size/\∀g,C g->w.heap[g]? =W0.heap[g]? :=by
 have x0:=h.bel.below λg h=>Ownr.it_R h;exact⟨by have:=x0.size;omega,λg hg=>(x0.block g (by have:=hC g hg;omega)).trans (hw g hg)⟩
def zyR(N:zN->Option Nat->Prop)(Q:Exit->zN->Option Nat->Prop):Exit->zN->Option Nat->Prop
 |.normal,F,κ=>N F κ
 |e,F,κ=>Q e F κ
def zwg(id:Nat)(Q:Exit->zN->Option Nat->Prop):Exit->zN->Option Nat->Prop
 |.exit j,F,κ=>bif yK j id then Q .normal F κ else Q (.exit j) F κ
 |e,F,κ=>Q e F κ
theorem IWP.mono{c:Code}{Q':Exit->zN->Option Nat->Prop}(h:IWP P G n W0 C B J c F κ Q)(hq:∀e F κ,Q e F κ->Q' e F κ):IWP P G n W0 C B J c F κ Q':=
 λa w hs hj=>zT (h a w hs hj) λe a' w'⟨F',x0,h1,h2,h3⟩=>⟨F',x0,h1,h2,hq _ _ _ h3⟩
theorem IWP.seq{x y:Code}(h:IWP P G n W0 C B J x F κ (zyR (λF' x0=>IWP P G n W0 C B J y F' x0 Q) Q)):IWP P G n W0 C B J (.seq x y) F κ Q:=
 λa w hs hj=>wpIn_seq (zT (h a w hs hj) λe a' w'⟨F',x0,h1,h2,h3⟩=>by
  cases e with
  |normal=>exact h3 a' w' h1 h2
  |_=>exact⟨F',x0,h1,h2,h3⟩)
theorem IWP.block{id:Nat}{c:Code}(h:IWP P G n W0 C B J c F κ (zwg id Q)):IWP P G n W0 C B J (.block id c) F κ Q:=
 λa w hs hj=>wpIn_block (zT (h a w hs hj) λe a' w'⟨F',κ',h1,h2,h3⟩=>by
  cases e with
  |exit j=>
   simp only[zwg,cond_eq_ite,Nat.beq_eq]at h3;simp only[Exit.inBlock];split
   .rename_i hj;rw[if_pos hj]at h3;exact⟨F',κ',h1,h2,h3⟩
   .rename_i hj;rw[if_neg hj]at h3;exact⟨F',κ',h1,h2,h3⟩
  |_=>exact⟨F',κ',h1,h2,h3⟩)
theorem ISt.weaken{F':zN}{a:Act}{w:zh}(h:ISt G n W0 C B F a w)(hF:Sub F F')(hb:bndB 0 F'=true):ISt G n W0 C B F' a w:=by
 obtain⟨U,hs⟩:=h.sim;exact⟨h.big,h.same,U,hs.rebase rfl rfl hF hb⟩
theorem IWP.loop{c:Code}{ι:Type}(S:ι->zN)(K:ι->Option Nat)(I:ι->Prop)(μ:ι->Nat)(i0:ι)(h0:I i0)(hF:Sub F (S i0))(hk:K i0=κ)(hb:∀i,bndB 0 (S i)=true)
  (round:∀i,I i->IWP P G n W0 C B J c (S i) (K i) (zyR (λF' x0=>∃i',I i'/\μ i'<μ i/\Sub F' (S i')/\K i'=x0) Q)):IWP P G n W0 C B J (.loop c) F κ Q:=by
 intro a w hs hj;refine zfX (λi a w=>I i/\ISt G n W0 C B (S i) a w/\J (K i) w) μ i0 ⟨h0,hs.weaken hF (hb i0),by rw[hk];exact hj⟩ λi a w⟨h1,h2,h3⟩=>zT (round i h1 a w h2 h3) λe a' w'⟨F',x0,k1,k2,k3⟩=>?_;cases e with
 |normal=>
  obtain⟨i',e1,e2,e3,e4⟩:=k3;exact⟨i',e2,e1,k1.weaken e3 (hb i'),by rw[e4];exact k2⟩
 |_=>exact⟨F',x0,k1,k2,k3⟩
theorem IWP.list{id:Nat}(h:IL P G n W0 C B J ops ops.toList F κ Q):IWP P G n W0 C B J (.region id ops false) F κ Q:=λa w hs hj=>wpIn_region_list (h a w hs hj)
theorem IL.nil(h:Q .normal F κ):IL P G n W0 C B J ops [] F κ Q:=λa w hs hj=>⟨F,κ,hs,hj,h⟩
theorem IL.of(m:Nat)(F':zN)(hW:W0.heap.size<=B)(hC:∀g,C g->g<W0.heap.size)(hG:∀w,G w)(hJ:∀κ A A',J κ A->xG A.heap.size A A'->J κ A')(hb:bndB 0 F'=true)
  (h:∀W,(Ownr.it G).Ok W->B<=W.heap.size->(∀g,C g->W.heap[g]? =W0.heap[g]?)->AL P W (Ownr.it G) n ops (l.take m) ⟨F,[],0⟩ (λe Y=>e=.normal/\Y.E=[]/\Sub Y.F F')) (hr:IL P G n W0 C B J ops (l.drop m) F' κ Q):IL P G n W0 C B J ops l F κ Q:=by
 intro a w hs hj;obtain⟨U,x0⟩:=hs.sim;rw[<-jC m l];refine(h w (zzy hG w) hs.big hs.same).then (r:=l.drop m) x0 ?_ ?_
 .rintro Y' U' a' w' h1 ⟨_,hE,hF⟩;obtain⟨h2,h3⟩:=hs.step hW hC h1 hE hF hb;exact hr a' w' h2 (hJ κ _ _ hj h3)
 .rintro e Y' U' a' w' x1 h1 ⟨he,_⟩;exact absurd he x1
def zqD(F:zN):Bool:=F.all λp=>match p.2 with |⟨.lit,_⟩=>true|v=>v.t.flat
theorem IL.yield{o:Oper}{f:zB}{args:Array zB}{ts:Array zo}{lp:Nat}{y:Array zd}{d:Nat}{L:List Oper}(ho:o.op=.call ⟨.value f,args,ts⟩)(x7:o.guard=none)(x2:o.dst=some d)(x9:zM d n=true)
  (hf:evO F f=⟨.lit,.func (.yield lp) #[] #[]⟩) (x1:∀U a w,Sim w (Ownr.it G) n ⟨F,[],0⟩ U a w->args.map a.eval=y) (hy:∀w,J κ w->B<=w.heap.size->YieldAt yD 0 P lp y w λe W'=>∃b x3,e=.returned (.bool b)/\J x3 W'/\uT C B w W'/\IL P G n W0 C B J ops L ((d,⟨.bool,b⟩)::F) x3 Q)
  (xb:zqD F=true) (hb:bndB 0 F=true):IL P G n W0 C B J ops (o::L) F κ Q:=by
 intro a w hs hj;obtain⟨U,x0⟩:=hs.sim;have h1:=hy w hj hs.big;rw[<-x1 U a w x0]at h1;refine wpListIn_plain x7 λK hK=>?_;have x6:a.eval f=.func (.yield lp) #[] #[]:=by
  have h2:=x0.ops f;rw[show evO (AS.mk F [] 0).F f=_ from hf]at h2;exact h2
 refine zpl ho x6 (YieldAt.any h1) ?_;rintro e w' ⟨b,x3,rfl,xc,x5,hl⟩;refine⟨_,rfl,hK _ _ ?_⟩;have x8:Sim w' (Ownr.it G) n ⟨F,[],0⟩ U a w':=by
  refine Sim.fresh rfl x0.sz x0.df (λs=>?_) hb;have h3:=x0.fr s;rw[OSet.nil]at h3;have x4:∀(F:zN)(s:Nat),zqD F=true->(∃u,zn F s=⟨.lit,u⟩)\/(zn F s).t.flat=true\/zn F s=⟨.junk,()⟩:=by
   intro F s
   induction F with
   |nil=>intro _;exact .inr (.inr rfl)
   |cons p F ih=>
    intro h;obtain⟨q,v⟩:=p;simp only[zqD,List.all_cons,zf]at h;rw[zam];split
    .obtain⟨t,x⟩:=v;cases t with
     |lit=>exact .inl ⟨x,rfl⟩
     |_=>exact .inr (.inl h.1)
    .exact ih h.2
  rcases x4 F s xb with ⟨u,e⟩|e|e
  .rw[e]at h3 ⊢;exact h3
  .exact zeV e h3
  .rw[e];trivial
 have xa:=x8.put (zR _ _) (v:=⟨.bool,b⟩) (u:=.bool b) qR (zk _) (d:=d) (by simpa using x9);rw[x2];refine hl _ w' ⟨x5.size,λg hg=>(x5.block g hg).trans (hs.same g hg),U,xa⟩ xc
def litF:Nat->List zd->zN
 |_,[]=>[]
 |i,u::us=>(i,⟨.lit,u⟩)::litF (i+1) us
theorem zoA:∀(us:List zd)(i s:Nat),zn (litF i us) s=if i<=s/\s<i+us.length then ⟨.lit,us.getD (s-i) undef⟩ else ⟨.junk,()⟩
 | [],i,s=>by
  rw[if_neg (by simp only[yC];omega)];rfl
 |u::us,i,s=>by
  show zn ((i,⟨.lit,u⟩)::litF (i+1) us) s=_;rw[zam,zoA us (i+1) s];simp only[zv];by_cases e:i=s
  .subst e;rw[if_pos rfl,if_pos o_,Nat.sub_self];rfl
  .rw[if_neg e];by_cases h:i+1<=s/\s<i+1+us.length
   .rw[if_pos h,if_pos o_,show s-i=(s-(i+1))+1 by omega];rfl
   .rw[if_neg h,if_neg o_]
theorem zoB:∀(us:List zd)(i:Nat),bndB 0 (litF i us)=true
 | [],_=>rfl
 |u::us,i=>by
  show bndB 0 ((i,⟨.lit,u⟩)::litF (i+1) us)=true;simp only[bndB,zf];exact⟨rfl,zoB us (i+1)⟩
theorem zkt(hC:∀g,C g->g<W0.heap.size){gf:zV}{fn:Func}{c:Code}(hf:P.funcs[gf]? =some fn)(hb:fn.body=some c)(hn:fn.ntmps=n)(x3:fn.results= #[]){us:List zd}(hlen:us.length+1<=n){N:Nat}{T:Nat->Array zd->Prop}
  (h:∀(l:Nat)(J:Option Nat->zh->Prop)(B:Nat),W0.heap.size<=B->(∀κ A A',J κ A->xG A.heap.size A A'->J κ A')->(∀k y W1,J (some k) W1->k<N->T k y->B<=W1.heap.size->YieldAt yD 0 P l y W1 λe W'=>∃b,e=.returned (.bool b)/\J (bif b then some (k+1) else none) W'/\uT C B W1 W')->
    IWP P G n W0 C B J c (litF 0 (.func (.yield l) #[] #[]::us)) (some 0) (λe _ κ=>(e=.normal\/e=.ret)/\(κ=some N\/κ=none))):zyD P 0 gf us.toArray C N T W0:=by
 intro l J Jr W hW hJ x5 hY h0;refine callsIn_of_wp hf hb trivial ?_ rfl;have x0:∀g,g<W0.heap.size->W.heap[g]? =W0.heap[g]? :=λg hg=>hW.block g hg;have x2:=h l (λκ w=>match κ with |some k=>J k w|none=>Jr w) W.heap.size hW.size (λκ A A' hj hb=>by
  cases κ with
  |none=>exact x5 _ _ hj hb
  |some k=>exact hJ k _ _ hj hb) (λk y W1 hj hk ht hs=>YieldAt.mono (YieldAt.any (hY k y W1 hj hk ht hs)) λe W' he=>by
   rcases he with ⟨rfl,h1,h2⟩|⟨rfl,h1,h2⟩
   .exact⟨true,rfl,h1,h2⟩
   .exact⟨false,rfl,h1,h2⟩)
 have x1:ISt G n W0 C W.heap.size (litF 0 (.func (.yield l) #[] #[]::us)) { tmps:=(#[.func (.yield l) #[] #[]]++us.toArray)++zD (fn.ntmps-(#[.func (.yield l) #[] #[]]++us.toArray:Array zd).size) undef,defers:=[] } W:=by
  refine⟨zj _,λg hg=>x0 g (hC g hg),λ_=>undef,Sim.fresh rfl ?_ rfl (λs=>?_) (zoB _ _)⟩
  .simp[hn];omega
  .rw[zoA];by_cases hs:0<=s/\s<0+(wy (.yield l) #[] #[]::us).length
   .rw[if_pos hs];have e:(#[wy (.yield l) #[] #[]]++us.toArray)++zD (fn.ntmps-(#[wy (.yield l) #[] #[]]++us.toArray:Array zd).size) undef=(((.func (.yield l) #[] #[]::us):List zd)++zr (fn.ntmps-(us.length+1)) undef).toArray:=by
     simp[Nat.add_comm]
    show(_:Array zd).getD s undef=_;rw[e];have h2:s<(wy (.yield l) #[] #[]::us).length:=by simpa using hs.2
    simp only[zO,List.getElem?_toArray];rw[List.getElem?_append_left h2,Nat.sub_zero,zu]
   .rw[if_neg hs];trivial
 refine zT (x2 _ W x1 h0) ?_;rintro e a' w' ⟨F',x7,h1,h2,he,x6⟩;obtain⟨U,x4⟩:=h1.sim;have hr:(results fn a'.tmps).run P w'=.ok (.tuple #[]) w':=results_none x3 _ _ _;have hj:J N w'\/Jr w':=by
  rcases x6 with rfl|rfl
  .exact .inl h2
  .exact .inr h2
 rcases he with rfl|rfl
 .exact⟨x4.df,_,hr,⟨_,rfl⟩,hj⟩
 .exact⟨x4.df,_,hr,⟨_,rfl⟩,hj⟩
end
section
variable {P:zw}{K:Kn}{w0:zh}{X:Ownr}{n:Nat}{F:zN}{E:Owns}{nx:Nat}{Q:Exit->AS->Prop}{ops:Array Oper}
theorem AL.handV{o:Oper}{rest:List Oper}(x1:o.guard=none)(x2:∀c,o.op≠ .defer c){d:Nat}(hd:o.dst=some d)(x3:zM d n=true)(v:V)(hb:v.bound=0)(x0:∀U a w,Sim w0 X n ⟨F,E,nx⟩ U a w->∃u,(execOp a.eval o).run P w=.ok (.value u) w/\RepV w (OSet X E U) U v.t v.x u)
  (h:AL P w0 X n ops rest ⟨(d,v)::F,E,nx⟩ Q):AL P w0 X n ops (o::rest) ⟨F,E,nx⟩ Q:=
 jS x1 x2 λU a w hs=>by
  obtain⟨u,h1,h2⟩:=x0 U a w hs;exact zgS hd x3 (v:=v) (by rw[hb];exact zk _) (N:=λY'=>AL P w0 X n ops rest Y' Q) h hs h1 h2
theorem StepA.handV{o:Oper}{N:AS->Prop}(x1:o.guard=none){d:Nat}(hd:o.dst=some d)(x2:zM d n=true)(v:V)(hb:v.bound=0)(x0:∀U a w,Sim w0 X n ⟨F,E,nx⟩ U a w->∃u,(execOp a.eval o).run P w=.ok (.value u) w/\RepV w (OSet X E U) U v.t v.x u)
  (h:N ⟨(d,v)::F,E,nx⟩):vy P w0 X n ops o ⟨F,E,nx⟩ N Q:=
 jv x1 λU a w hs=>by
  obtain⟨u,h1,h2⟩:=x0 U a w hs;exact zgS hd x2 (v:=v) (by rw[hb];exact zk _) (N:=N) h hs h1 h2
theorem Lay.loadAgg{Z:Ty}{t:zo}(h:Lay P Z (.inl t))(hd:Z.isAgg=true){cs:List zd}(hl:cs.length=Z.size){w:zh}{g off:Nat}(hc:CellsAt w g off cs):
  (Instr.loadAt t (.pointer (some ⟨g,off,none⟩))).run P w=.ok (.agg cs.toArray) w:=by
 have h2:=run_loadCells_list (P:=P) w ⟨g,off,none⟩ cs (λj v hv=>by rw[Addr.add_mid];exact hc j v hv);rw[hl]at h2;have h3:(Go.loadVar t ⟨g,off,none⟩).run P w=.ok (.agg cs.toArray) w:=by
  unfold Go.loadVar;simp only[zK,h.isAgg,zG];simp only[hd,if_true,zK,h.sizeOf,zG,h2,Sem.run_pure]
 simp[Instr.loadAt,Instr.sureAddr,h3]
end
structure MCtx where
 G:zh->Prop
 wB:zh
 m:Nat
 I:List (zd×zd)->Prop
def MCtx.st(S:MCtx)(w:zh):Prop:=S.G w/\Kept (λg=>g=S.m) S.wB w
def MCtx.inv(S:MCtx)(w:zh):Prop:=∃ms ck,w.heap[S.m]? =some (.map ms ck)/\S.I (ms.toList.map λe=>(e.key,e.val))
structure MCtr where
 args:List Ty
 pre:Args args->List Prop
 out:Args args->Bool
def MOk(P:zw)(S:MCtx)(f:zV)(c:MCtr):Prop:=
 (∀(zas:Array zd)(w:zh),(callFunc f zas).run P w=.ok (.enter f zas) w)/\
 ∀(w:zh)(xs:Args c.args)(vs:List zd),RepA w (λg=>g=S.m) c.args xs vs->allP (c.pre xs)->S.st w->S.inv w->
  Calls P f vs.toArray w λe w'=>e=.returned (.bool (c.out xs))/\Kept (λg=>g=S.m) w w'/\S.inv w'
theorem MCtx.st_kept{S:MCtx}(hG:∀w w',S.G w->Kept (λg=>g=S.m) w w'->S.G w'){w w':zh}(h:S.st w)(hk:Kept (λg=>g=S.m) w w'):S.st w':=⟨hG w w' h.1 hk,h.2.trans hk⟩
theorem MCtx.inv_lt{S:MCtx}{w:zh}(h:S.inv w):S.m<w.heap.size:=by
 obtain⟨ms,ck,h,_⟩:=h;exact(zl.1 h).1
theorem zqf{R:Nat->Prop}{w w':zh}(h:xG w.heap.size w w'):Kept R w w':=⟨h.os,h.tape,h.output,h.size,λk hk _=>h.block k hk⟩
abbrev MCtx.own(S:MCtx):Ownr:=⟨S.st,λ_=>False,0,λ_=>0,[],none,λg=>g=S.m⟩
theorem MCtx.own_R{S:MCtx}{g:Nat}:S.own.R g↔g=S.m:=⟨λh=>h.elim (λ⟨_,h,_⟩=>absurd h (yH _)) id,.inr⟩
theorem MCtx.own_R'(S:MCtx):S.own.R=λg=>g=S.m:=funext λ_=>propext S.own_R
def zp4(S:MCtx)(ts:List Ty)(xs:Args ts):AS:=⟨zdu ts xs 0,[(0,some (.mp S.m S.I))],1⟩
section
variable {P:zw}{K:Kn}{n:Nat}
theorem zzh{S:MCtx}(hG:∀w w',S.G w->Kept (λg=>g=S.m) w w'->S.G w'){fn:Func}{c:MCtr}(hn:fn.ntmps=n)(hd:zaN c.args=true)(hlen:c.args.length<=n){w:zh}{xs:Args c.args}{vs:List zd}
  (x1:RepA w (λg=>g=S.m) c.args xs vs) (x4:S.st w) (x0:S.inv w):
  S.own.Ok w/\Sim w S.own n (zp4 S c.args xs) (λ_=>.pointer (some ⟨S.m,0,none⟩)) { tmps:=vs.toArray++zD (fn.ntmps-vs.toArray.size) undef,defers:=[] } w:=by
 have x5:=zeq _ _ _ x1;have x3:=S.inv_lt x0;have hE:OSet S.own (zp4 S c.args xs).E (λ_=>.pointer (some ⟨S.m,0,none⟩))=λg=>g=S.m:=by
  funext g
  apply propext;constructor
  .rintro (h|⟨i,o,_,h⟩)
   .exact h.elim
   .exact(zP h).symm
  .rintro rfl;exact .inr ⟨0,_,rfl,rfl⟩
 have hget:∀i o,zm (zp4 S c.args xs).E i=some o->i=0/\o=.mp S.m S.I:=λi o h=>by
  rw[show(zp4 S c.args xs).E=[(0,some (.mp S.m S.I))] from rfl,zab]at h;by_cases hi:0=i
  .rw[if_pos hi]at h;cases h;exact⟨hi.symm,rfl⟩
  .rw[if_neg hi]at h;cases h
 refine⟨⟨λg h=>h.elim,λg h=>(S.own_R.1 h)▸x3,λw' hk=>S.st_kept hG x4 (S.own_R'▸hk)⟩,?_⟩;refine⟨by simp[hn,x5];omega,rfl,jx _ _,λs=>?_,λi o h=>?_,λi o g h hg=>?_,λi j oi oj h h' x2=>?_,λi o h=>?_,⟨zk _,λi h=>absurd h (yH _)⟩,λs=>?_,λi o h=>?_⟩
 .rw[hE];have:=zdJ (U:=λ_=>.pointer (some ⟨S.m,0,none⟩)) c.args xs vs [] (zr (fn.ntmps-vs.length) undef) hd x1 s;simp only[List.nil_append,yC]at this;have e:(vs.toArray++zD (fn.ntmps-vs.toArray.size) undef)=(vs++zr (fn.ntmps-vs.length) undef).toArray:=by simp
  show RepV w _ _ _ _ ((vs.toArray++zD (fn.ntmps-vs.toArray.size) undef).getD s undef);rw[e];exact this
 .obtain⟨rfl,rfl⟩:=hget i o h;obtain⟨ms,ck,h1,h2⟩:=x0;exact⟨ms,ck,rfl,zk _,h1,h2⟩
 .exact .inr (S.own_R.2 (zP hg).symm)
 .exact absurd ((hget i oi h).1.trans (hget j oj h').1.symm) x2
 .rw[(hget i o h).1];exact Nat.zero_lt_succ 0
 .show(zn (zdu c.args xs 0) s).bound<=1;rw[zcx _ _ _ _ hd];exact zk _
 .rw[(hget i o h).2];intro vs e;cases e
theorem zAQ{S:MCtx}{w w':zh}{Y:AS}{U:Nat->zd}{a:Act}(hs:Sim w S.own n Y U a w')(hm:zm Y.E 0=some (.mp S.m S.I)):Kept (λg=>g=S.m) w w'/\S.inv w':=by
 refine⟨S.own_R'▸hs.bel,?_⟩;obtain⟨ms,ck,_,_,h1,h2⟩:=hs.own 0 _ hm;exact⟨ms,ck,h1,h2⟩
theorem zbf{S:MCtx}(hG:∀w w',S.G w->Kept (λg=>g=S.m) w w'->S.G w')(hK:KnOk P S.st K){f:zV}{fn:Func}{code:Code}{c:MCtr}(hf:P.funcs[f]? =some fn)(hb:fn.body=some code)(hn:fn.ntmps=n)
  (x5:∀(zas:Array zd)(w:zh),(callFunc f zas).run P w=.ok (.enter f zas) w) (hd:zaN c.args=true) (hlen:c.args.length<=n)
  (h:∀w0,S.own.Ok w0->S.st w0->∀xs:Args c.args,allP (c.pre xs)->AWP P w0 S.own n code (zp4 S c.args xs) (λe Y=>(e=.normal\/e=.ret)/\zm Y.E 0=some (.mp S.m S.I)/\Done K.T fn.results.toList ⟨Y.F,zgw [] Y.E,Y.nx⟩ none .bool (c.out xs))):MOk P S f c:=by
 refine⟨x5,λw xs vs x3 hp x4 x0=>calls_of_wp hf hb ?_⟩;obtain⟨hX,x2⟩:=zzh hG hn hd hlen x3 x4 x0;refine wp_mono (wpIn_wide.1 (h w hX x4 xs hp _ _ _ x2)) λe a' w'⟨Y',U',h1,h2,hm,h3⟩=>?_;obtain⟨hk,hi⟩:=zAQ h1 hm;have x1:=zgI hK hX h1 [] h3 (O':=λ_=>False) (λ_ h=>h.elim);obtain⟨v,hv,hr⟩:=x1;have e':=(zcY (U:=λ_=>undef) .bool (c.out xs) v (hr.resolve_left (by intro h;cases h))).bool;subst e';rcases h2 with rfl|rfl
 .exact⟨h1.df,_,hv,rfl,hk,hi⟩
 .exact⟨h1.df,_,hv,rfl,hk,hi⟩
end
section
variable {P:zw}{K:Kn}{w0:zh}{X:Ownr}{n:Nat}{Y:AS}{Q:Exit->AS->Prop}{ops:Array Oper}
theorem Sim.sameE{U:Nat->zd}{a:Act}{w:zh}(h:Sim w0 X n Y U a w){E':Owns}(he:∀j,zm E' j=zm Y.E j):Sim w0 X n ⟨Y.F,E',Y.nx⟩ U a w:=by
 have hO:OSet X E' U=OSet X Y.E U:=by funext g;simp only[OSet,he]
 refine⟨h.sz,h.df,h.bel,λs=>?_,λi o hi=>?_,λi o g hi=>h.new i o g ((he i).symm.trans hi),λi j oi oj hi hj=>h.inj i j oi oj ((he i).symm.trans hi) ((he j).symm.trans hj),λi o hi=>h.lt i o ((he i).symm.trans hi),⟨h.fix.1,λi hi=>⟨(h.fix.2 i hi).1,λo ho=>(h.fix.2 i hi).2 o ((he i).symm.trans ho)⟩⟩,h.hb,λi o hi=>h.hE i o ((he i).symm.trans hi)⟩
 .
  rw[hO];exact h.fr s
 .
  rw[hO];exact h.own i o ((he i).symm.trans hi)
theorem zov(hX:X.Ok w0){S:MCtx}{f:zV}{c:MCtr}(hc:MOk P S f c)(hS:X.G=S.st){i:Nat}(hm:zm Y.E i=some (.mp S.m S.I)){o:Oper}{vs:List V}
  (x6:∀(U:Nat->zd)(a:Act)(w:zh),Sim w0 X n Y U a w->∃us:List zd,us.length=vs.length/\(∀(i:Nat)(v:V),vs[i]? =some v->∃u,us[i]? =some u/\RepV w (OSet X Y.E U) U v.t v.x u)/\((∀(zas:Array zd)(w:zh),(callFunc f zas).run P w=.ok (.enter f zas) w)->(execOp a.eval o).run P w=.ok (.enter f us.toArray) w))
  (hd:zaN c.args=true) {q:List Prop}{xs:Args c.args} (x9:zdY Y.E false vs c.args=some (q,xs)) (hq:allP q) (x5:allP (c.pre xs)) {d:Nat} (x4:o.dst=some d) (xa:zM d n=true) {N:AS->Prop} (h:N ⟨(d,⟨.bool,c.out xs⟩)::Y.F,Y.E,Y.nx⟩)
  (U:Nat->zd) (a:Act) (w:zh) (hs:Sim w0 X n Y U a w):o.wp P a w (λa' w'=>∃Y' U',Sim w0 X n Y' U' a' w'/\N Y') (λe a' w'=>e≠ .outgrown/\∃Y' U',Sim w0 X n Y' U' a' w'/\Q e Y'):=by
 obtain⟨us,hl,hu,hr⟩:=x6 U a w hs;obtain⟨xf,x0⟩:=hc;have x2:=hs.own i _ hm;obtain⟨ms,ck,eb,_,h1,h2⟩:=x2;have x7:zag (U i)=some S.m:=by rw[eb];rfl
 have x3:=zdR (λi o h=>hs.own i o h) hd x9 hq hu hl;have x1:RepA w (λg=>g=S.m) c.args xs us:=by
  have:∀(ts:List Ty)(xs:Args ts)(us:List zd),RepA w (λg=>false=false/\OSet X Y.E U g) ts xs us->RepA w (λg=>g=S.m) ts xs us:=by
   intro ts
   induction ts with
   |nil=>intro _ _ h;exact h
   |cons t ts ih=>
    rintro xs us ⟨u,r,h1,h2,h3⟩;exact⟨u,r,h1,zZ ⟨zj _,λ_ _ _=>rfl,λg _ hg=>⟨rfl,.inr ⟨i,_,hm,by rw[x7,hg]⟩⟩⟩ _ _ _ h2,ih _ _ h3⟩
  exact this _ _ _ x3
 have xb:S.st w:=by rw[<-hS];exact hX.2.2 w hs.bel
 unfold Oper.wp;rw[hr xf];show Calls P f us.toArray w _;refine(x0 w xs us x1 x5 xb ⟨ms,ck,h1,h2⟩).mono λe w'⟨he,hk,hi⟩=>?_;subst he;refine⟨_,U,?_,h⟩;rw[x4];obtain⟨xd,xc,k1,k2⟩:=hi;have hg:w.grownBy w' (zag (U i)):=by
  rw[x7];exact⟨hk.os,hk.tape,hk.output,hk.size,λk xe x8=>hk.block k xe λe=>x8 (by rw[e])⟩
 have h5:=hs.write (o':=.mp S.m S.I) hm hg (λ_=>⟨xd,xc,eb,zk _,k1,k2⟩) rfl (by intro vs e;cases e);have h6:=h5.sameE (E':=Y.E) λj=>by
  rw[zab];split
  .rename_i e;rw[<-e];exact hm
  .rfl
 exact h6.put (zR _ _) qR (zk _) (by simpa using xa)
theorem StepA.mcall(hX:X.Ok w0){S:MCtx}{f:zV}{c:MCtr}(hc:MOk P S f c)(hS:X.G=S.st){i:Nat}(hm:zm Y.E i=some (.mp S.m S.I)){o:Oper}{args:Array zB}{ts:Array zo}(ho:o.op=.call ⟨.value (.func f),args,ts⟩)(x3:o.guard=none)
  {zas:List zB} (x0:args.toList=zas) (hd:zaN c.args=true) {q:List Prop}{xs:Args c.args} (x5:zdY Y.E false (zas.map (evO Y.F)) c.args=some (q,xs)) (hq:allP q) (x2:allP (c.pre xs)) {d:Nat} (x1:o.dst=some d) (x4:zM d n=true) {N:AS->Prop} (h:N ⟨(d,⟨.bool,c.out xs⟩)::Y.F,Y.E,Y.nx⟩):vy P w0 X n ops o Y N Q:=
 jv x3 (zov hX hc hS hm (vs:=zas.map (evO Y.F)) (λU a w hs=>⟨zas.map a.eval,by simp,λi v hv=>by
  rw[yP]at hv;obtain⟨x,hx,rfl⟩:=zQ.1 hv;exact⟨a.eval x,by rw[yP,hx];rfl,hs.ops x⟩,λx6=>by
   have e:(zas.map a.eval).toArray=args.map a.eval:=by rw[<-x0,zdE]
   rw[e];unfold execOp;simp[ho,resolve,invoke,vd,wx,x6]⟩) hd x5 hq x2 x1 x4 h)
theorem AL.mcall(hX:X.Ok w0){S:MCtx}{f:zV}{c:MCtr}(hc:MOk P S f c)(hS:X.G=S.st){i:Nat}(hm:zm Y.E i=some (.mp S.m S.I)){o:Oper}{rest:List Oper}{args:Array zB}{ts:Array zo}(ho:o.op=.call ⟨.value (.func f),args,ts⟩)(x3:o.guard=none)
  {zas:List zB} (x0:args.toList=zas) (hd:zaN c.args=true) {q:List Prop}{xs:Args c.args} (x4:zdY Y.E false (zas.map (evO Y.F)) c.args=some (q,xs)) (hq:allP q) (x2:allP (c.pre xs)) {d:Nat} (x1:o.dst=some d) (x5:zM d n=true) (h:AL P w0 X n ops rest ⟨(d,⟨.bool,c.out xs⟩)::Y.F,Y.E,Y.nx⟩ Q):AL P w0 X n ops (o::rest) Y Q:=
 zh8 (λc e=>by rw[ho]at e;cases e) (StepA.mcall hX hc hS hm ho x3 x0 hd x4 hq x2 x1 x5 h)
theorem zmL(hX:X.Ok w0){S:MCtx}{f:zV}{c:MCtr}(hc:MOk P S f c)(hS:X.G=S.st){i:Nat}(hm:zm Y.E i=some (.mp S.m S.I)){o:Oper}{y:zB}{args:Array zB}{ts:Array zo}(ho:o.op=.call ⟨.value y,args,ts⟩)(x3:o.guard=none){r:zd}(hy:evO Y.F y=⟨.lit,.func (.func f) #[r] #[]⟩)
  {zas:List zB} (x0:args.toList=zas) (hd:zaN c.args=true) {q:List Prop}{xs:Args c.args} (x4:zdY Y.E false (⟨.lit,r⟩::zas.map (evO Y.F)) c.args=some (q,xs)) (hq:allP q) (x2:allP (c.pre xs)) {d:Nat} (x1:o.dst=some d) (x5:zM d n=true) {N:AS->Prop} (h:N ⟨(d,⟨.bool,c.out xs⟩)::Y.F,Y.E,Y.nx⟩):vy P w0 X n ops o Y N Q:=
 jv x3 (zov hX hc hS hm (vs:=⟨.lit,r⟩::zas.map (evO Y.F)) (λU a w hs=>⟨r::zas.map a.eval,by simp,λi v hv=>by
  cases i with
  |zero=>cases hv;exact⟨r,rfl,rfl⟩
  |succ i=>
   rw[gt,yP]at hv;obtain⟨x,hx,rfl⟩:=zQ.1 hv;exact⟨a.eval x,by rw[gt,yP,hx];rfl,hs.ops x⟩,λx6=>by
   have h1:=zb1 hs hy;have e:(r::zas.map a.eval).toArray= #[r]++args.map a.eval:=by rw[<-x0];simp
   rw[e];unfold execOp;simp[ho,resolve,invoke,vd,h1,x6]⟩) hd x4 hq x2 x1 x5 h)
end
def zcd(l:List Oper)(k:Nat):List Nat:=match l[k]? with |some o=>o.after.toList.filterMap λe=>bif qy .any e then some e.on else none|none=>[]
def ancs(l:List Oper):Nat->List Nat->List Nat
 |0,S=>S
 |i+1,S=>bif S.any (λk=>hasN (zcd l k) i) then ancs l i (i::S) else ancs l i S
def zjl(l:List Oper)(m f:Nat):Bool:=(List.range (f-m)).all λj=>(List.range (m+j)).all λi=>hasN (ancs l (m+j) [m+j]) i
section
variable {P:zw}{K:Kn}{w0:zh}{X:Ownr}{n:Nat}{Y:AS}{Q:Exit->AS->Prop}{ops:Array Oper}
theorem zjd{done:List Nat}{o:Oper}{k:Nat}(hk:ops.toList[k]? =some o)(h:(o.after.toList.all λe=>!qy .any e||hasN done e.on)=true):∀i,hasN (zcd ops.toList k) i=true->hasN done i=true:=by
 intro i hi;unfold zcd at hi;rw[hk]at hi;rw[zaz]at hi;obtain⟨e,he,h2⟩:=jI.1 hi;rw[cond_eq_ite]at h2;split at h2
 .rename_i hb;cases h2;have:=yE.1 h e he;rw[hb,Bool.not_true,qZ]at this;exact this
 .cases h2
theorem znW{done:List Nat}{j:Nat}(hj:∀i,hasN (zcd ops.toList j) i=true->i∈done)(hd:∀k,k∈done->∀i,hasN (zcd ops.toList k) i=true->i∈done):∀(i:Nat)(S:List Nat),(∀x∈S,x=j\/x∈done)->∀x∈ancs ops.toList i S,x=j\/x∈done
 |0,S,h=>h
 |i+1,S,h=>by
  rw[ancs,cond_eq_ite];split
  .rename_i hc;refine znW hj hd i _ λx hx=>?_;rcases zs.1 hx with rfl|hx
   .obtain⟨k,hk,x0⟩:=kE.1 hc;rcases h k hk with rfl|h3
    .exact .inr (hj _ x0)
    .exact .inr (hd k h3 _ x0)
   .exact h x hx
  .exact znW hj hd i S h
def StepX(P:zw)(w0:zh)(X:Ownr)(n:Nat)(ops:Array Oper)(Q:Exit->AS->Prop)(B:zN)(L:List (Nat×Nat×V))(E0 E1:Owns)(nx0 i:Nat):Prop:=
 ∃o,ops.toList[i]? =some o/\∀(F:zN)(N:AS->Prop),(∀s s',(∀U a w,Sim w0 X n s U a w->Sim w0 X n s' U a w)->N s'->N s)->(∀r:AS,r.F=resJ L i (zbT B L o++F)->(∀j,zm r.E j=zm E1 j)->r.nx=nx0->N r)->vy P w0 X n ops o ⟨zbT B L o++F,E0,nx0⟩ N Q
def StepK(P:zw)(w0:zh)(X:Ownr)(n:Nat)(ops:Array Oper)(Q:Exit->AS->Prop)(B:zN)(L:List (Nat×Nat×V))(E0:Owns)(nx0 i:Nat):Prop:=StepX P w0 X n ops Q B L E0 E0 nx0 i
theorem StepX.eval(hX:X.Ok w0)(hK:KnOk P X.G K){B:zN}{L:List (Nat×Nat×V)}{E0 E1:Owns}{nx0 i:Nat}(h:∃o,ops.toList[i]? =some o/\∀F,∃r,zje K n ops o ⟨zbT B L o++F,E0,nx0⟩=some r/\allP r.1/\r.2.F=resJ L i (zbT B L o++F)/\(∀j,zm r.2.E j=zm E1 j)/\r.2.nx=nx0):StepX P w0 X n ops Q B L E0 E1 nx0 i:=by
 obtain⟨o,ho,h⟩:=h;refine⟨o,ho,λF N _ hN=>?_⟩;obtain⟨r,h1,h2,h3,h4,h5⟩:=h F;exact zX hX hK h1 h2 (hN _ h3 h4 h5)
def Eph(p:Nat)(E0 E1:Owns)(done:List Nat):Owns:=bif hasN done p then E1 else E0
theorem StepK.eval(hX:X.Ok w0)(hK:KnOk P X.G K){B:zN}{L:List (Nat×Nat×V)}{E0:Owns}{nx0 i:Nat}(h:zvh K n ops B L E0 nx0 i):StepK P w0 X n ops Q B L E0 nx0 i:=by
 obtain⟨o,ho,h⟩:=h;refine⟨o,ho,λF N _ hN=>?_⟩;obtain⟨r,h1,h2,h3,h4,h5⟩:=h F;exact zX hX hK h1 h2 (hN _ h3 h4 h5)
theorem StepK.val{B:zN}{L:List (Nat×Nat×V)}{E0:Owns}{nx0 i:Nat}(o:Oper)(ho:ops.toList[i]? =some o)(x2:o.guard=none){d:Nat}(x0:o.dst=some d)(x3:zM d n=true)(v:V)(hb:v.bound=0)(hL:∀G,resJ L i G=(d,v)::G)
  (x1:∀F U a w,Sim w0 X n ⟨zbT B L o++F,E0,nx0⟩ U a w->∃u,(execOp a.eval o).run P w=.ok (.value u) w/\RepV w (OSet X E0 U) U v.t v.x u):StepK P w0 X n ops Q B L E0 nx0 i:=
 ⟨o,ho,λF N _ hN=>StepA.handV x2 x0 x3 v hb (x1 F) (hN _ (hL _).symm (λ_=>rfl) rfl)⟩
theorem StepK.step{B:zN}{L:List (Nat×Nat×V)}{E0:Owns}{nx0 i:Nat}(o:Oper)(ho:ops.toList[i]? =some o){d:Nat}(v:V)(hL:∀G,resJ L i G=(d,v)::G)
  (h:∀F N,N ⟨(d,v)::(zbT B L o++F),E0,nx0⟩->vy P w0 X n ops o ⟨zbT B L o++F,E0,nx0⟩ N Q):StepK P w0 X n ops Q B L E0 nx0 i:=
 ⟨o,ho,λF N _ hN=>h F N (hN _ (hL _).symm (λ_=>rfl) rfl)⟩
theorem StepK.same{B:zN}{L:List (Nat×Nat×V)}{E0:Owns}{nx0 i:Nat}(o:Oper)(ho:ops.toList[i]? =some o){d:Nat}(v:V)(hL:∀G,resJ L i G=G)(hg:∀F,zn (zbT B L o++F) d=v)
  (h:∀F N,N ⟨(d,v)::(zbT B L o++F),E0,nx0⟩->vy P w0 X n ops o ⟨zbT B L o++F,E0,nx0⟩ N Q):StepK P w0 X n ops Q B L E0 nx0 i:=
 ⟨o,ho,λF N hc hN=>h F N (hc _ ⟨zbT B L o++F,E0,nx0⟩ (λU a w hs=>hs.eqv ⟨λt=>by
   rw[zam];split
   .rename_i e;rw[<-e];exact(hg F).symm
   .rfl,λ_=>rfl,rfl⟩) (hN _ (hL _).symm (λ_=>rfl) rfl))⟩
def TailA(P:zw)(w0:zh)(X:Ownr)(n:Nat)(ops:Array Oper)(Q:Exit->AS->Prop):List Oper->AS->Prop
 | [],s=>Q .normal s
 |o::r,s=>vy P w0 X n ops o s (λs'=>TailA P w0 X n ops Q r s') Q
theorem znY{o:Oper}{N N':AS->Prop}{Q':Exit->AS->Prop}(h:vy P w0 X n ops o Y N Q)(hN:∀s,N s->N' s)(hQ:∀e s,Q e s->Q' e s):vy P w0 X n ops o Y N' Q':=
 λU a w I R hs hI hR=>h U a w I R hs (λY' U' a' w' h1 h2=>hI _ _ _ _ h1 (hN _ h2)) (λe Y' U' a' w' x0 h1 h2=>hR e Y' U' a' w' x0 h1 (hQ _ _ h2))
def QC(w0:zh)(X:Ownr)(n:Nat)(Q:Exit->AS->Prop)(e:Exit)(s:AS):Prop:=∃s',(∀U a w,Sim w0 X n s U a w->∃U',Sim w0 X n s' U' a w)/\Q e s'
theorem QC.of{e:Exit}{s:AS}(h:Q e s):QC w0 X n Q e s:=⟨s,λU _ _ h=>⟨U,h⟩,h⟩
theorem OrdA.conv{s s':AS}(hs:∀U a w,Sim w0 X n s U a w->∃U',Sim w0 X n s' U' a w):∀{k:Nat}{done:List Nat},OrdA P w0 X n ops (QC w0 X n Q) k done s'->OrdA P w0 X n ops (QC w0 X n Q) k done s
 |0,_,h=>by
  obtain⟨s2,h1,h2⟩:=h;exact⟨s2,λU a w h=>let ⟨x0,h3⟩:=hs U a w h;h1 x0 a w h3,h2⟩
 |k+1,done,h=>by
  refine OrdA.step _ rfl (pT λi hi=>?_);obtain⟨o,ho,h1⟩:=AllN.mem h hi;exact⟨o,ho,StepA.conv hs h1⟩
theorem zfO{done:List Nat}{k:Nat}(h:k∈zeH done ops.toList 0):∃o,ops.toList[k]? =some o/\hasN done k=false/\(o.after.toList.all λe=>!qy .any e||hasN done e.on)=true:=by
 obtain⟨j,o,hj,h1,h2,h3⟩:=zgt h;obtain rfl:k=j:=o_;exact⟨o,h1,h2,h3⟩
theorem zjI{m f:Nat}(ht:zjl ops.toList m f=true){done:List Nat}(x0:∀k,k∈done->∀i,hasN (zcd ops.toList k) i=true->i∈done){j:Nat}{o:Oper}(hj:ops.toList[j]? =some o)(x1:(o.after.toList.all λe=>!qy .any e||hasN done e.on)=true)(h1:m<=j)(h2:j<f):∀i,i<j->i∈done:=by
 intro i hi;have h3:=yE.1 ht (j-m) (List.mem_range.2 o_);rw[show m+(j-m)=j by omega]at h3;have h4:=zaz.1 (yE.1 h3 i (List.mem_range.2 hi));rcases znW (λi h=>zaz.1 (zjd hj x1 i h)) x0 j [j] (λx hx=>.inl (zt.1 hx)) i h4 with rfl|h5
 .omega
 .exact h5
theorem zn6{m f:Nat}(hf:ops.toList.length=f)(ht:zjl ops.toList m f=true):∀(k p:Nat)(done:List Nat)(s:AS),p+k=f->m<=p->(∀x,x∈done↔x<p)->(∀q,q∈done->∀i,hasN (zcd ops.toList q) i=true->i∈done)->TailA P w0 X n ops Q (ops.toList.drop p) s->OrdA P w0 X n ops Q k done s
 |0,p,done,s,hp,_,_,_,h=>by
  refine ve ?_;rw[gG o_]at h;exact h
 |k+1,p,done,s,hp,hm,hdn,hdc,h=>by
  refine OrdA.step _ rfl (pT λi hi=>?_);obtain⟨o,ho,x3,x2⟩:=zfO hi;have x1:=(yI.1 ho).1;have x5:p<=i:=by
   have:¬i<p:=λh=>by rw[zaz.2 ((hdn i).2 h)]at x3;cases x3
   omega
  have x0:=zjI ht hdc ho x2 o_ o_;have x4:i=p:=by
   have:¬p<i:=λh=>by have:=(hdn p).1 (x0 p h);omega
   omega
  subst x4;refine⟨o,ho,?_⟩;rw[qf x1]at h;have e:ops.toList[i]=o:=by
   rw[zI x1]at ho;exact zP ho
  rw[e]at h;refine znY h (λs' h'=>zn6 hf ht k (i+1) (i::done) s' o_ o_ (λx=>?_) (λq hq x hx=>?_) h') λ_ _ h=>h
  .rw[zs,hdn];omega
  .rcases zs.1 hq with rfl|hq
   .exact zE _ (zaz.1 (zjd ho x2 x hx))
   .exact zE _ (hdc q hq x hx)
theorem ztg:∀(m:Nat)(l:List Nat),(∀x,x<m->x∈l)->m<=l.length
 |0,_,_=>zk _
 |m+1,l,h=>by
  have hm:=h m (qp m);have h1:=ztg m (l.erase m) λx hx=>(List.mem_erase_of_ne o_).2 (h x o_);rw[w8 hm]at h1;have:=List.length_pos_of_mem hm;omega
def FrJ(B:zN)(L:List (Nat×Nat×V))(done:List Nat)(F:zN):Prop:=∀p∈F,p∈B\/∃q∈L,q.1∈done/\q.2=p
def StepN(P:zw)(w0:zh)(X:Ownr)(n:Nat)(ops:Array Oper)(Q:Exit->AS->Prop)(B:zN)(L:List (Nat×Nat×V))(done:List Nat)(E0 E1:Owns)(nx0 x0 i:Nat):Prop:=
 ∃o,ops.toList[i]? =some o/\∀(F:zN)(N:AS->Prop),FrJ B L done F->(∀s s',(∀U a w,Sim w0 X n s U a w->∃U',Sim w0 X n s' U' a w)->N s'->N s)->(∀r:AS,r.F=resJ L i (zbT B L o++F)->(∀j,zm r.E j=zm E1 j)->r.nx=x0->N r)->vy P w0 X n ops o ⟨zbT B L o++F,E0,nx0⟩ N Q
theorem StepN.of{B:zN}{L:List (Nat×Nat×V)}{done:List Nat}{E0 E1:Owns}{nx0 i:Nat}(h:StepX P w0 X n ops Q B L E0 E1 nx0 i):StepN P w0 X n ops Q B L done E0 E1 nx0 nx0 i:=by
 obtain⟨o,ho,h⟩:=h;exact⟨o,ho,λF N _ hc hN=>h F N (λs s' hs=>hc s s' λU a w h=>⟨U,hs U a w h⟩) hN⟩
theorem StepN.eval(hX:X.Ok w0)(hK:KnOk P X.G K){B:zN}{L:List (Nat×Nat×V)}{done:List Nat}{E0 E1:Owns}{nx0 x0 i:Nat}(h:∃o,ops.toList[i]? =some o/\∀F,∃r,zje K n ops o ⟨zbT B L o++F,E0,nx0⟩=some r/\allP r.1/\r.2.F=resJ L i (zbT B L o++F)/\(∀j,zm r.2.E j=zm E1 j)/\r.2.nx=x0):StepN P w0 X n ops Q B L done E0 E1 nx0 x0 i:=by
 obtain⟨o,ho,h⟩:=h;refine⟨o,ho,λF N _ _ hN=>?_⟩;obtain⟨r,h1,h2,h3,h4,h5⟩:=h F;exact zX hX hK h1 h2 (hN _ h3 h4 h5)
theorem zoo(hX:X.Ok w0){m f:Nat}(hf:ops.toList.length=f)(hm:m<=f)(ht:zjl ops.toList m f=true){B:zN}{L:List (Nat×Nat×V)}{ph:List Nat->Owns×Nat}(hd:((L.map (·.2.1))++(B.map (·.1))).Nodup)
  (xe:∀i,i<m->∀done,hasN done i=false->(∀x,hasN (zcd ops.toList i) x=true->x∈done)->(∀q,q∈done->∀i,hasN (zcd ops.toList q) i=true->i∈done)->StepN P w0 X n ops (QC w0 X n Q) B L done (ph done).1 (ph (i::done)).1 (ph done).2 (ph (i::done)).2 i) (hq:∀done s,KnowJ m B L (ph done).1 (ph done).2 done s->(∀i,i<m->i∈done)->∃s',(∀U a w,Sim w0 X n s U a w->∃U',Sim w0 X n s' U' a w)/\TailA P w0 X n ops (QC w0 X n Q) (ops.toList.drop m) s'):
  ∀(k:Nat)(done:List Nat)(s:AS),done.length+k=m->(∀q,q∈done->∀i,hasN (zcd ops.toList q) i=true->i∈done)->KnowJ m B L (ph done).1 (ph done).2 done s->FrJ B L done s.F->OrdA P w0 X n ops (QC w0 X n Q) (k+(f-m)) done s
 |0,done,s,hl,hdc,h,_=>by
  have x4:∀i,i<m->i∈done:=λi hi=>zru h.nd h.lt o_ hi;obtain⟨s',xj,xi⟩:=hq done s h x4;rw[Nat.zero_add];refine OrdA.conv xj (zn6 hf ht (f-m) m done s' o_ (zj _) (λx=>⟨h.lt x,x4 x⟩) hdc xi)
 |k+1,done,s,hl,hdc,h,hfj=>by
  obtain⟨xf,xm,xh⟩:=List.nodup_append.1 hd;rw[show k+1+(f-m)=(k+(f-m))+1 by omega];refine OrdA.step _ rfl (pT λi hi=>?_);obtain⟨o,ho,xb,x9⟩:=zfO hi;have xn:=(yI.1 ho).1;have xd:i<m:=by
   by_cases hc:i<m
   .exact hc
   .have x4:=zjI ht hdc ho x9 o_ o_;have h1:m<=done.length:=by
     exact ztg m done λx hx=>x4 x o_
    omega
  have x5:∀x,hasN (zcd ops.toList i) x=true->x∈done:=λx hx=>zaz.1 (zjd ho x9 x hx);obtain⟨o',xg,hs⟩:=xe i xd done xb x5 hdc;obtain rfl:o=o':=by rw[ho]at xg;cases xg;rfl
  refine⟨o,ho,?_⟩;have x6:∀p∈zbT B L o,p∈B\/∃q∈L,q.1∈done/\q.2=p:=λp hp=>by
   rcases zU.1 hp with hp|hp
   .exact .inl hp
   .obtain⟨q,x3,x0⟩:=jI.1 hp;rw[cond_eq_ite]at x0;split at x0
    .rename_i hc;cases x0;obtain⟨e,xk,xa⟩:=kE.1 hc;rw[zf,Nat.beq_eq]at xa;have h6:=yE.1 x9 e xk;rw[xa.2,Bool.not_true,qZ]at h6;exact .inr ⟨q,x3,xa.1▸zaz.1 h6,rfl⟩
    .cases x0
  have x7:∀p∈zbT B L o,zn s.F p.1=p.2:=λp hp=>by
   rcases x6 p hp with h1|⟨q,h1,h2,rfl⟩
   .exact h.b p h1
   .exact h.l q h1 h2
  have x1:=zgB x7;refine StepA.conv (Y':=⟨zbT B L o++s.F,(ph done).1,(ph done).2⟩) (λU a w hs=>⟨U,hs.eqv ⟨λt=>(x1 t).symm,h.e,h.nx⟩⟩) (hs s.F _ hfj (λ_ _ h1 h2=>OrdA.conv h1 h2) λr h3 h4 h5=>?_);have x2:∀p∈L.filterMap (λp=>bif yK p.1 i then some p.2 else none),∃q∈L,q.1=i/\q.2=p:=λp hp=>by
   obtain⟨q,x3,x0⟩:=jI.1 hp;rw[cond_eq_ite]at x0;split at x0
   .rename_i hc;cases x0;exact⟨q,x3,qt hc,rfl⟩
   .cases x0
  refine zoo hX hf hm ht hd xe hq k (i::done) r (by rw[zv];omega) (λq hq x hx=>?_) ?_ λp hp=>?_
  .rcases zs.1 hq with rfl|hq
   .exact zE _ (x5 x hx)
   .exact zE _ (hdc q hq x hx)
  .refine⟨λp hp xc=>?_,λp hp=>?_,h4,h5,kc.2 ⟨λhm=>(by rw[zaz.2 hm]at xb;cases xb),h.nd⟩,λx hx=>?_⟩
   .rw[h3];unfold resJ;by_cases x8:p.1=i
    .refine zfa (λq hq he=>?_) (jI.2 ⟨p,hp,?_⟩)
     .obtain⟨q',x3,x0,rfl⟩:=x2 q hq;rw[zeZ xf x3 hp he]
     .rw[x8,cond_eq_ite,if_pos (Nat.beq_refl i)]
    .rw[zfb λq hq he=>?_,x1]
     .rcases zs.1 xc with e|xc
      .exact absurd e x8
      .exact h.l p hp xc
     .obtain⟨q',x3,x0,rfl⟩:=x2 q hq;exact x8 (by rw[<-zeZ xf x3 hp he];exact x0)
   .rw[h3];unfold resJ;rw[zfb λq hq he=>?_,x1]
    .exact h.b p hp
    .obtain⟨q',x3,x0,rfl⟩:=x2 q hq;exact xh _ (jh x3) _ (jh hp) he
   .rcases zs.1 hx with rfl|hx
    .exact xd
    .exact h.lt x hx
  .rw[h3]at hp;unfold resJ at hp;have up:(p∈B\/∃q∈L,q.1∈done/\q.2=p)->p∈B\/∃q∈L,q.1∈i::done/\q.2=p:=λh=>h.imp id λ⟨q,h1,h2,h3⟩=>⟨q,h1,zE _ h2,h3⟩;rcases zU.1 hp with hp|hp
   .obtain⟨q,h1,h2,h3⟩:=x2 p hp;exact .inr ⟨q,h1,by rw[h2];exact zC ..,h3⟩
   .rcases zU.1 hp with hp|hp
    .exact up (x6 p hp)
    .exact up (hfj p hp)
theorem zh7(m:Nat)(B:zN)(L:List (Nat×Nat×V)){ph:List Nat->Owns×Nat}(EF:Owns)(nF:Nat)(xa:P.follows .mixedOrders=true)(hX:X.Ok w0){id:Nat}(f:Nat)(hf:ops.toList.length=f)(x2:qO m f=true)(hb:zgO ops=true)(ht:zjl ops.toList m f=true)
  (hd:disB ((L.map (·.2.1))++(B.map (·.1)))=true) (hB:Sub Y.F B) (h0:ph []=(Y.E,Y.nx)) (hF:∀done,(∀i,i<m->i∈done)->(∀j,zm (ph done).1 j=zm EF j)/\(ph done).2=nF)
  (x7:∀i,i<m->∀done,hasN done i=false->(∀x,hasN (zcd ops.toList i) x=true->x∈done)->(∀q,q∈done->∀i,hasN (zcd ops.toList q) i=true->i∈done)->StepN P w0 X n ops (QC w0 X n Q) B L done (ph done).1 (ph (i::done)).1 (ph done).2 (ph (i::done)).2 i)
  (x9:bndB nF (L.map (·.2)++B)=true) (x3:SubE EF EF) (x6:bndE nF EF=true) (hlen:L.all (λp=>zM p.1 m)=true) (hq:TailA P w0 X n ops (QC w0 X n Q) (ops.toList.drop m) ⟨L.map (·.2)++B,EF,nF⟩) (hk:X.K<=nF:=by exact zq rfl) (x8:za2 ops.toList=true:=by rfl):AWP P w0 X n (.region id ops true) Y Q:=by
 have x2:=zq x2;have x0:∀{F:zN}{N:zN},Sub F N->∀p∈N,zn F p.1=p.2:=by
  intro F N
  induction N with
  |nil=>intro _ p hp;cases hp
  |cons q N ih=>
   intro h p hp;rcases zs.1 hp with rfl|hp
   .exact h.1
   .exact ih h.2 p hp
 refine AWP.weaken hB ?_;have x5:∀p∈B,zn B p.1=p.2:=λp hp=>by
  have h1:=zfa (F:=[]) (N:=B) (s:=p.1) (v:=p.2) (λq hq he=>by
   have h2:=x0 hB q hq;rw[he,x0 hB p hp]at h2;exact h2.symm) hp
  rwa[zW]at h1
 have ho:=zoo (P:=P) (Q:=Q) (B:=B) (L:=L) (ph:=ph) hX hf x2 ht (zoZ hd) x7 (λdone s h x1=>⟨⟨L.map (·.2)++B,EF,nF⟩,λU a w hs=>⟨U,hs.fit ⟨Sub.of λp hp=>?_,SubE.of (λj=>(h.e j).trans ((hF done x1).1 j)) x3,x9,x6⟩ hk⟩,hq⟩) m [] ⟨B,Y.E,Y.nx⟩ (by simp) (λq hq=>by cases hq) ⟨λp _ h=>(by cases h),x5,λ_=>by rw[h0],by rw[h0],List.nodup_nil,λx h=>(by cases h)⟩ λp hp=>.inl hp
 .rw[show m+(f-m)=f by omega]at ho;exact λU a w hs=>zT (zbF xa f hf hb ho x8 U a w hs) λe a' w'⟨Y',U',h1,s2,h2,h3⟩=>let ⟨xb,h4⟩:=h2 U' a' w' h1;⟨s2,xb,h4,h3⟩
 .rcases zU.1 hp with hp|hp
  .obtain⟨q,x4,rfl⟩:=jK.1 hp;exact h.l q x4 (x1 _ (zq (yE.1 hlen q x4)))
  .exact h.b p hp
theorem zcs(m:Nat)(B:zN)(L:List (Nat×Nat×V))(x3:P.follows .mixedOrders=true)(hX:X.Ok w0){id:Nat}(f:Nat)(hf:ops.toList.length=f)(x4:qO m f=true)(hb:zgO ops=true)(ht:zjl ops.toList m f=true)
  (hd:disB ((L.map (·.2.1))++(B.map (·.1)))=true) (hB:Sub Y.F B) (x5:AllI (StepK P w0 X n ops (QC w0 X n Q) B L Y.E Y.nx) m) (x2:bndB Y.nx (L.map (·.2)++B)=true) (x0:SubE Y.E Y.E) (x1:bndE Y.nx Y.E=true)
  (hlen:L.all (λp=>zM p.1 m)=true) (hq:TailA P w0 X n ops (QC w0 X n Q) (ops.toList.drop m) ⟨L.map (·.2)++B,Y.E,Y.nx⟩) (hk:X.K<=Y.nx:=by exact zq rfl) (x6:za2 ops.toList=true:=by rfl):AWP P w0 X n (.region id ops true) Y Q:=
 zh7 m B L (ph:=λ_=>(Y.E,Y.nx)) Y.E Y.nx x3 hX f hf x4 hb ht hd hB rfl (λ_ _=>⟨λ_=>rfl,rfl⟩) (λi hi _ _ _ _=>.of (x5.get i hi)) x2 x0 x1 hlen hq hk x6
theorem zvl(m p:Nat)(E1:Owns)(B:zN)(L:List (Nat×Nat×V))(x5:P.follows .mixedOrders=true)(hX:X.Ok w0){id:Nat}(f:Nat)(hf:ops.toList.length=f)(x6:qO m f=true)(hb:zgO ops=true)(ht:zjl ops.toList m f=true)
  (hd:disB ((L.map (·.2.1))++(B.map (·.1)))=true) (hB:Sub Y.F B) (x1:AllI (λi=>(i≠p->StepK P w0 X n ops (QC w0 X n Q) B L Y.E Y.nx i/\StepK P w0 X n ops (QC w0 X n Q) B L E1 Y.nx i)/\(i=p->StepX P w0 X n ops (QC w0 X n Q) B L Y.E E1 Y.nx i)) m) (x4:bndB Y.nx (L.map (·.2)++B)=true) (x0:SubE E1 E1) (x2:bndE Y.nx E1=true) (x7:zM p m=true)
  (hlen:L.all (λp=>zM p.1 m)=true) (hq:TailA P w0 X n ops (QC w0 X n Q) (ops.toList.drop m) ⟨L.map (·.2)++B,E1,Y.nx⟩) (hk:X.K<=Y.nx:=by exact zq rfl) (x8:za2 ops.toList=true:=by rfl):AWP P w0 X n (.region id ops true) Y Q:=by
 refine zh7 m B L (ph:=λdone=>(Eph p Y.E E1 done,Y.nx)) E1 Y.nx x5 hX f hf x6 hb ht hd hB rfl (λdone h=>⟨λ_=>by unfold Eph;rw[zaz.2 (h p (by simpa using x7))];rfl,rfl⟩) (λi hi done x3 _ _=>?_) x4 x0 x2 hlen hq hk x8;unfold Eph;by_cases e:i=p
 .subst e;rw[x3,zaz.2 (zC ..)];exact .of ((x1.get i hi).2 rfl)
 .have:hasN (i::done) p=hasN done p:=by
   rw[zY,zaz,zaz,zs];exact⟨λh=>h.resolve_left λh=>e h.symm,.inr⟩
  rw[this];cases hasN done p with
  |true=>exact .of ((x1.get i hi).1 e).2
  |false=>exact .of ((x1.get i hi).1 e).1
end
end Go.Proofs.YthbecdbmifchiaaGreatDoor
