/-
  Texts of this claim, joined: what the statement's proof uses.
-/
import Derived.Test.YtpeaigpfddalcaaGreatDoorME
set_option linter.unusedSimpArgs false
set_option linter.unusedVariables false
set_option maxRecDepth 100000
open Bool renaming not_eq_true -> j2,not_eq_true' -> zs
open Go.Proofs.YtpeaigpfddalcaaGreatDoor.AWP renaming go -> za,ret -> zm
open Int renaming natCast_nonneg -> zn
open List renaming length -> zf,take_length -> xe,take_succ_eq_append_getElem -> zE
open Nat renaming le_of_ble_eq_true -> zb
open Go Go.RowKit
namespace Go.Proofs.YtpeaigpfddalcaaGreatDoor
theorem zgy {a b:List De}:zmT a b=true↔a=b:=zay
theorem zgV {a b:List De}:zmT a b=false↔a≠b:=by rw[<-j2,zgy]
noncomputable def zta:Ctr:={ args:=[.slice de,.slice de],pre:=fun _=>[],res:=.bool,own:=none,out:=fun x=>zmT x.1 x.2.1 }
noncomputable def zsY:Kn:={ gmK with C:=[(18,zsD)] }
theorem zbq:KnOk Tryz.prog gmH zsY:=zak.with (.cons zlV .nil)
theorem zrs:CtrOk Tryz.prog gmH 21 zta:=by
 refine zap (K:=zsY) zbq Tryz.func21 rfl rfl Tryz.call21 rfl (by decide) (by intro h;cases h) ?_;rintro w0 X hX ⟨(la:List De),(lb:List De),_⟩ hp;change AWP _ _ _ _ _ ⟨[(0,⟨.slice de,la⟩),(1,⟨.slice de,lb⟩)],[],0⟩ _;refine AWP.len 0 rfl fun hl=>?_;unfold maxLen at hl;refine za (za ?_);refine zaa hX zbq rfl ?_ ?_
 ·trivial
 refine za (za ?_);refine zaa hX zbq rfl ?_ ?_
 ·trivial
 refine zaf rfl (fun hb=>?_) (fun hb=>?_)
 ·have hb:(((la.length:Nat):Int) != ((lb.length:Nat):Int))=true:=hb;have hb:=bne_iff_ne.1 hb;(repeat(first|apply zae|apply zab|apply zal|apply zad|apply zac|refine zaa hX zbq rfl trivial ?_|refine zaa hX zbq rfl id ?_|refine zaa hX zbq rfl ⟨id,id⟩ ?_));refine zm ⟨.inr rfl,zas rfl trivial rfl rfl ?_⟩;exact (zgV.2 fun e=>hb (by have e:la=lb:=e;rw[e])).symm
 have hb:(((la.length:Nat):Int) != ((lb.length:Nat):Int))=false:=hb;have hb:=bne_eq_false_iff_eq.1 hb;have hlen:la.length=lb.length:=by omega
 apply zab;refine za (za ?_);refine zaa hX zbq rfl ?_ ?_
 ·trivial
 (repeat(first|apply zae|apply zab|apply zac|apply zad));refine AWP.loop (ι:=Nat) (fun k=>⟨[(0,⟨.slice de,la⟩),(1,⟨.slice de,lb⟩),(5,⟨i64,(k:Int)⟩)],[],0⟩) (fun k=>k≤la.length∧la.take k=lb.take k) (fun k=>la.length - k) 0 ⟨Nat.zero_le _,rfl⟩ ⟨⟨rfl,rfl,rfl,trivial⟩,trivial,rfl,rfl⟩ ?_;rintro k ⟨hk,he⟩;refine za (za ?_);refine zaa hX zbq rfl ?_ ?_
 ·trivial
 refine zaf rfl (fun hb=>?_) (fun hb=>?_)
 ·have hb:decide ((k:Int) < ((la.length:Nat):Int))=true:=hb;have hb:=of_decide_eq_true hb;have hlt:k < la.length:=by omega
  have hlt2:k < lb.length:=by omega
  have z0:(0:Int)≤(k:Int):=by omega
  have z1:(k:Int) < ((la.length:Nat):Int):=by omega
  have z2:(k:Int) < ((lb.length:Nat):Int):=by omega
  have g1:la.getD (k:Int).toNat zDe=la[k]:=zaM hlt;have g2:lb.getD (k:Int).toNat zDe=lb[k]:=zaM hlt2;have hq:(bif !eqb .str la[k].1 lb[k].1 then true else !zjD la[k].2.1 lb[k].2.1)=true↔la[k]≠lb[k]:=by
   rw[b_or,Bool.or_eq_true,zs,zs,zfu, <-j2,zay];generalize la[k]=x;generalize lb[k]=y;obtain⟨x1,x2,⟨⟩⟩:=x;obtain⟨y1,y2,⟨⟩⟩:=y;constructor
   ·rintro (h|h) e
    ·cases e;exact h rfl
    ·cases e;exact h rfl
   ·intro h;by_cases h1:x1=y1
    ·refine .inr fun h2=>h ?_;have h2:x2=y2:=h2;rw[h1,h2]
    ·exact .inl h1
  (repeat(first|apply zae|apply zab|apply zac|apply zad));refine AWP.draw dM hX zbq 25 (by kernel_rfl) rfl rfl ?_ ?_ ?_
  ·repeat'(first|exact trivial|assumption|exact z0|exact z1|exact z2|(refine⟨?_,?_⟩)|(intro _)|exact zb rfl|exact zn _|(simp_all [allP];done))
  ·trivial
  refine zaf rfl (fun hc=>?_) (fun hc=>?_)
  ·have hc:(bif !eqb .str (la.getD (k:Int).toNat zDe).1 (lb.getD (k:Int).toNat zDe).1 then true else !zjD (la.getD (k:Int).toNat zDe).2.1 (lb.getD (k:Int).toNat zDe).2.1)=true:=hc;rw[g1,g2]at hc;have hc:=hq.1 hc;(repeat(first|apply zae|apply zab|apply zal|apply zad|apply zac|refine zaa hX zbq rfl trivial ?_|refine zaa hX zbq rfl id ?_|refine zaa hX zbq rfl ⟨id,id⟩ ?_));refine zm ⟨.inr rfl,zas rfl trivial rfl rfl ?_⟩;refine (zgV.2 fun e=>hc ?_).symm;have e:la=lb:=e;subst e;rfl
  ·have hc:(bif !eqb .str (la.getD (k:Int).toNat zDe).1 (lb.getD (k:Int).toNat zDe).1 then true else !zjD (la.getD (k:Int).toNat zDe).2.1 (lb.getD (k:Int).toNat zDe).2.1)=false:=hc;rw[g1,g2]at hc;have hc:la[k]=lb[k]:=Classical.not_not.1 fun h=>by rw[hq.2 h]at hc;cases hc
   apply zab;refine za (za ?_);refine zaa hX zbq rfl ?_ ?_
   ·exact zaZ (by omega)
   refine⟨k+1,⟨hlt,?_⟩,by omega,⟨rfl,rfl,zdM _,trivial⟩,trivial,rfl,rfl⟩;rw[zE hlt,zE hlt2,he,hc]
 ·have hb:decide ((k:Int) < ((la.length:Nat):Int))=false:=hb;have hb:=of_decide_eq_false hb;obtain rfl:k=la.length:=by omega
  (repeat(first|apply zae|apply zab|apply zal|apply zad|apply zac|refine zaa hX zbq rfl trivial ?_|refine zaa hX zbq rfl id ?_|refine zaa hX zbq rfl ⟨id,id⟩ ?_));refine zm ⟨.inr rfl,zas rfl trivial rfl rfl ?_⟩;refine (zgy.2 ?_).symm;rw[xe,hlen,xe]at he;exact he
def tx_sA:List UInt8:=[100,97,121,115,32,55,32,51,32,111,114,32,40,64,102,114,101,101,32,115,104,105,102,116,32,45,49,41]
def tx_sB:List UInt8:=[35,32,104,111,108,105,100,97,121,115,10,102,114,101,101,32,61,32,119,101,101,107,100,97,121,115,32,40,53,32,54,41,10,10,111,114,32,61,32,64,102,114,101,101,32,115,104,105,102,116,32,49]
def tx_sC:List UInt8:=[102,114,101,101,32,119,101,101,107,100,97,121,115,32,40,53,41]
def zkt:List UInt8:=[100,97,121,115,32,55,32,51,32,111,114,32,64,102,114,101,101,32,115,104,105,102,116,32,45,49]
def zrc:List UInt8:=[102,114,101,101,32,61,32,119,101,101,107,100,97,121,115,32,40,53,32,54,41,10,111,114,32,61,32,64,102,114,101,101,32,115,104,105,102,116,32,49,10]
def zty:List UInt8:=[100,97,121,115,32,48,32,51]
def ztx:List UInt8:=[109,111,110,116,104,115,32,48,32,40,50,32,50,41]
def ztw:List UInt8:=[100,97,121,115,32,48,55,32,51]
def ztv:List UInt8:=[119,101,101,107,100,97,121,115,32,40,41]
def ztu:List UInt8:=[100,97,121,115,32,55]
def ztt:List UInt8:=[]
def zfQ:List UInt8:=[102,114,101,101]
def zoJ:List UInt8:=[111,114]
def sanR:List Nd:=[(1,0,0,0,7,3,[],[],()),(18,0,0,0,0,0,[],zfQ,()),(11,0,1,0,-1,0,[],[],()),(9,0,0,2,0,0,[],[],())]
def sanL:List De:=[(zfQ,[(5,0,0,0,0,0,[5,6],[],())],()),(zoJ,[(18,0,0,0,0,0,[],zfQ,()),(11,0,0,0,1,0,[],[],())],())]
theorem sanA:zbc tx_sA=(sanR,0,0):=by kernel_rfl
theorem san1:zbc zty=([],5,1):=by kernel_rfl
theorem san2:zbc ztx=([],12,1):=by kernel_rfl
theorem san3:zbc ztw=([],5,3):=by kernel_rfl
theorem san4:zbc ztv=([],10,3):=by kernel_rfl
theorem san5:zbc ztu=([],6,3):=by kernel_rfl
theorem san6:zbc ztt=([],0,3):=by kernel_rfl
theorem sanF:fmtS sanR=(zkt,0):=by kernel_rfl
theorem sanN:fmtS []=([],1):=by kernel_rfl
theorem sanG:zbw sanL=(zrc,0):=by kernel_rfl
def zt2 (y:List UInt8):Bool:=(!decide (y.take 1=[35]))&&decide (zaD isWh y < y.length)
theorem zrX (y:List UInt8):zgF y=zt2 y:=by
 unfold zgF zt2 zjV;rw[zcw];have:(decide (zf ([35]:List UInt8)≤y.length)&&decide (y.take (zf ([35]:List UInt8))=[35]))=decide (y.take 1=[35]):=by
  cases y with
  |nil=>rfl
  |cons c q=>rw[decide_eq_true (by simp:zf ([35]:List UInt8)≤(c::q).length),Bool.true_and];rfl
 rw[this]
def zrk (y:List UInt8) (fr:Nat) (acc:List De):Except (Int×Int) (List De):=
 if zt2 y=true then
  if 4000 < y.length then .error ((fr:Int),2)
  else match zfi y ((acc.length:Nat):Int) with
   | .ok d=>.ok (acc++ [d])
   | .error e=>if e.2=0 then .ok acc else .error ((fr:Int)+e.1,e.2)
 else .ok acc
theorem zrj (y:List UInt8) (fr:Nat) (acc:List De):zhC y fr acc=zrk y fr acc:=by
 unfold zhC zrk;rw[zrX]
 all_goals rfl
def libC:List (List UInt8)->Nat->List De->List De×Int×Int
 | [],_,acc=>(acc,0,0)
 |y::r,fr,acc=>match zrk y fr acc with
  | .error e=>([],e.1,e.2)
  | .ok acc'=>libC r (fr+y.length+1) acc'
theorem zp1:∀ (l:List (List UInt8)) (fr:Nat) (acc:List De),libK l fr acc=libC l fr acc
 | [],_,_=>rfl
 |y::r,fr,acc=>by
  unfold libK libC;rw[zrj];cases zrk y fr acc with
  |error e=>rfl
  |ok a=>exact zp1 r _ a
def zkT (s:List UInt8):List De×Int×Int:=if 1048576 < s.length then ([],0,2) else libC (segs s) 0 []
theorem zgZ (s:List UInt8):zaL s=zkT s:=by
 unfold zaL zkT;rw[zp1]
theorem sanB:zaL tx_sB=(sanL,0,0):=(zgZ _).trans (by kernel_rfl)
theorem sanC:zaL tx_sC=([],5,3):=(zgZ _).trans (by kernel_rfl)
def zcO (s:List UInt8) (at' e:Int):Bool:=(((((zbc s).1.length:Nat):Int)==0)&&((zbc s).2.1==at'))&&((zbc s).2.2==e)
def zs6:Ctr:={ args:=[.str,i64,i64],pre:=fun _=>[],res:=.bool,own:=none,out:=fun x=>zcO x.1 x.2.1 x.2.2.1 }
def kPa:Kn:={ gmK with C:=[(16,zg8)] }
theorem zne:KnOk Tryz.prog gmH kPa:=zak.with (.cons zjL .nil)
theorem zrb:CtrOk Tryz.prog gmH 42 zs6:=by
 refine zap (K:=kPa) zne Tryz.func42 rfl rfl Tryz.call42 rfl (by decide) (by intro h;cases h) ?_;rintro w0 X hX ⟨(s:List UInt8),(at':Int),(e:Int),_⟩ hp;change AWP _ _ _ _ _ ⟨[(0,⟨.str,s⟩),(1,⟨i64,at'⟩),(2,⟨i64,e⟩)],[],0⟩ _;refine za (za ?_);refine zaa hX zne rfl ?_ ?_
 ·trivial
 refine za (za ?_);refine zaa hX zne rfl ?_ ?_
 ·trivial
 refine za (za ?_);refine zaa hX zne rfl ?_ ?_
 ·repeat'(first|exact trivial|assumption|(refine⟨?_,?_⟩)|(intro _)|exact zb rfl|exact zn _|(simp_all [allP];done))
 refine zm ⟨.inr rfl,zas rfl trivial rfl rfl ?_⟩;show (bif (bif ((((zbc s).1.length:Nat):Int)==0) then (zbc s).2.1==at' else false) then (zbc s).2.2==e else false)=zcO s at' e;rw[zc2,zc2];rfl
def zqK:Ctr:={ args:=[],pre:=fun _=>[],res:=.bool,own:=none,out:=fun _=>true }
noncomputable def kSan:Kn:={ gmK with C:=[(16,zg8),(24,cFmt),(19,zfK),(26,cFmtL),(18,zsD),(42,zs6)] }
theorem zdm:KnOk Tryz.prog gmH kSan:=zak.with (.cons zjL <| .cons zll <| .cons zhW <| .cons zqq <| .cons zlV <| .cons zrb .nil)
theorem vStr {x y:List UInt8} (h:x=y):(⟨.str,x⟩:V)=⟨.str,y⟩:=by rw[h]
theorem vRul {x y:List Nd} (h:x=y):(⟨.slice nd,x⟩:V)=⟨.slice nd,y⟩:=by rw[h]
theorem vDes {x y:List De} (h:x=y):(⟨.slice de,x⟩:V)=⟨.slice de,y⟩:=by rw[h]
set_option maxHeartbeats 2000000 in
theorem zo9:CtrOk Tryz.prog gmH 15 zqK:=by
 refine zap (K:=kSan) zdm Tryz.func15 rfl rfl Tryz.call15 rfl (by decide) (by intro h;cases h) ?_;rintro w0 X hX _ hp;change AWP _ _ _ _ _ ⟨[],[],0⟩ _;refine za (za ?_);refine zaa hX zdm rfl ?_ ?_
 ·trivial
 refine za (za ?_);refine zaa hX zdm rfl ?_ ?_
 ·trivial
 refine zam (σ':=⟨[(1,⟨.slice nd,sanR⟩),(3,⟨i64,(0:Int)⟩)],[],0⟩) ⟨⟨vRul (congrArg (fun x=>x.1) sanA),vI64 (congrArg (fun x=>x.2.2) sanA),trivial⟩,trivial,rfl,rfl⟩ ?_;refine za (za ?_);refine zaa hX zdm rfl ?_ ?_
 ·trivial
 refine AWP.frz hX 4 ?_;refine zam (σ':=⟨[(1,⟨.slice nd,sanR⟩),(3,⟨i64,(0:Int)⟩),(4,⟨.slice nd,sanR⟩)],[],1⟩) ⟨⟨rfl,rfl,rfl,trivial⟩,trivial,rfl,rfl⟩ ?_;refine za (za ?_);refine zaa hX zdm rfl ?_ ?_
 ·trivial
 refine zam (σ':=⟨[(1,⟨.slice nd,sanR⟩),(3,⟨i64,(0:Int)⟩),(4,⟨.slice nd,sanR⟩),(5,⟨.str,zkt⟩),(6,⟨i64,(0:Int)⟩)],[],1⟩) ⟨⟨rfl,rfl,rfl,vStr (congrArg (fun x=>x.1) sanF),vI64 (congrArg (fun x=>x.2) sanF),trivial⟩,trivial,rfl,rfl⟩ ?_;refine za (za ?_);refine zaa hX zdm rfl ?_ ?_
 ·trivial
 refine zam (σ':=⟨[(1,⟨.slice nd,sanR⟩),(3,⟨i64,(0:Int)⟩),(4,⟨.slice nd,sanR⟩),(5,⟨.str,zkt⟩),(6,⟨i64,(0:Int)⟩),(7,⟨.slice de,sanL⟩),(9,⟨i64,(0:Int)⟩)],[],1⟩) ⟨⟨rfl,rfl,rfl,rfl,rfl,vDes (congrArg (fun x=>x.1) sanB),vI64 (congrArg (fun x=>x.2.2) sanB),trivial⟩,trivial,rfl,rfl⟩ ?_;refine za (za ?_);refine zaa hX zdm rfl ?_ ?_
 ·trivial
 refine zam (σ':=⟨[(1,⟨.slice nd,sanR⟩),(3,⟨i64,(0:Int)⟩),(4,⟨.slice nd,sanR⟩),(5,⟨.str,zkt⟩),(6,⟨i64,(0:Int)⟩),(7,⟨.slice de,sanL⟩),(9,⟨i64,(0:Int)⟩),(11,⟨i64,(5:Int)⟩),(12,⟨i64,(3:Int)⟩)],[],1⟩) ⟨⟨rfl,rfl,rfl,rfl,rfl,rfl,rfl,vI64 (congrArg (fun x=>x.2.1) sanC),vI64 (congrArg (fun x=>x.2.2) sanC),trivial⟩,trivial,rfl,rfl⟩ ?_;refine za (za ?_);refine zaa hX zdm rfl ?_ ?_
 ·trivial
 refine zam (σ':=⟨[(1,⟨.slice nd,sanR⟩),(3,⟨i64,(0:Int)⟩),(4,⟨.slice nd,sanR⟩),(5,⟨.str,zkt⟩),(6,⟨i64,(0:Int)⟩),(7,⟨.slice de,sanL⟩),(9,⟨i64,(0:Int)⟩),(11,⟨i64,(5:Int)⟩),(12,⟨i64,(3:Int)⟩),(14,⟨i64,(1:Int)⟩)],[],1⟩) ⟨⟨rfl,rfl,rfl,rfl,rfl,rfl,rfl,rfl,rfl,vI64 (congrArg (fun x=>x.2) sanN),trivial⟩,trivial,rfl,rfl⟩ ?_;refine za (za ?_);refine zaa hX zdm rfl ?_ ?_
 ·repeat'(first|exact trivial|assumption|(refine⟨?_,?_⟩)|(intro _)|exact zb rfl|exact zn _|(simp_all [allP];done))
 refine zaf rfl (fun hb=>?_) (fun _=>?_)
 ·have hb:false=true:=hb;cases hb
 apply zab;refine za (za ?_);refine zaa hX zdm rfl ?_ ?_
 ·trivial
 refine zam (σ':=⟨[(1,⟨.slice nd,sanR⟩),(4,⟨.slice nd,sanR⟩),(5,⟨.str,zkt⟩),(7,⟨.slice de,sanL⟩),(15,⟨.str,zrc⟩),(16,⟨i64,(0:Int)⟩)],[],1⟩) ⟨⟨rfl,rfl,rfl,rfl,vStr (congrArg (fun x=>x.1) sanG),vI64 (congrArg (fun x=>x.2) sanG),trivial⟩,trivial,rfl,rfl⟩ ?_;have hs:zjD sanR sanR=true:=zfV.2 rfl;have b0:(0:Int) < ((sanL.length:Nat):Int):=by decide
 have b1:(1:Int) < ((sanL.length:Nat):Int):=by decide
 refine za (za ?_);refine zaa hX zdm rfl ?_ ?_
 ·repeat'(first|exact trivial|assumption|exact b0|exact b1|(refine⟨?_,?_⟩)|(intro _)|decide)
 refine zam (σ':=⟨[(17,⟨.bool,true⟩)],[],1⟩) ⟨⟨zbz ?_,trivial⟩,trivial,rfl,rfl⟩ ?_
 ·show (bif (bif (bif (bif (bif zjD sanR sanR then eqb .str zkt zkt else false) then eqb .str zfQ zfQ else false) then eqb .str zoJ zoJ else false) then ((0:Int)==0) else false) then eqb .str zrc zrc else false)=true;rw[hs,zfc,zfc,zfc,zfc];rfl
 have w1:zcO zty 5 1=true:=by unfold zcO;rw[san1];rfl
 have w2:zcO ztx 12 1=true:=by unfold zcO;rw[san2];rfl
 have w3:zcO ztw 5 3=true:=by unfold zcO;rw[san3];rfl
 have w4:zcO ztv 10 3=true:=by unfold zcO;rw[san4];rfl
 have w5:zcO ztu 6 3=true:=by unfold zcO;rw[san5];rfl
 have w6:zcO ztt 0 3=true:=by unfold zcO;rw[san6];rfl
 refine za (za ?_);refine zaa hX zdm rfl ?_ ?_
 ·repeat'(first|exact trivial|assumption|(refine⟨?_,?_⟩)|(intro _))
 refine zm ⟨.inr rfl,zas rfl trivial rfl rfl ?_⟩;show (bif (bif (bif (bif (bif (bif true then zcO zty 5 1 else false) then zcO ztx 12 1 else false) then zcO ztw 5 3 else false) then zcO ztv 10 3 else false) then zcO ztu 6 3 else false) then zcO ztt 0 3 else false)=true;rw[w1,w2,w3,w4,w5,w6];rfl
theorem zrL:CtrOk Tryz.prog gmH 17 zg8:=by
 have h:CtrOk Tryz.prog gmH 17 zj9:=zpH.lift;have e:zj9=zg8:=by
  unfold zj9 zg8;simp only[zpv]
 rwa[e]at h
theorem ztT:CtrOk Tryz.prog gmH 20 zfK:=by
 have h:CtrOk Tryz.prog gmH 20 znB:=zrM.lift;have e:znB=zfK:=by
  unfold znB zfK;simp only[zkO]
 rwa[e]at h
noncomputable def kLaI:Kn:={ gmK with C:=[(16,zg8),(17,zg8),(19,zfK),(20,zfK),(15,zqK),(18,zsD),(21,zta)] }
theorem zdb:KnOk Tryz.prog gmH kLaI:=zak.with (.cons zjL <| .cons zrL <| .cons zhW <| .cons ztT <| .cons zo9 <| .cons zlV <| .cons zrs .nil)
set_option maxHeartbeats 1000000 in
theorem law1_ok:CtrOk Tryz.prog gmH 3 (lawCtr [.str]):=by
 refine zap (K:=kLaI) zdb Tryz.func3 rfl rfl Tryz.call3 rfl (by decide) (by intro h;cases h) ?_;rintro w0 X hX ⟨(s:List UInt8),_⟩ hp;change AWP _ _ _ _ _ ⟨[(0,⟨.str,s⟩)],[],0⟩ _;refine za (za ?_);refine zaa hX zdb rfl ?_ ?_
 ·trivial
 refine za (za ?_);refine zaa hX zdb rfl ?_ ?_
 ·trivial
 refine za (za ?_);refine zaa hX zdb rfl ?_ ?_
 ·trivial
 refine zaf rfl (fun hb=>?_) (fun hb=>?_)
 ·(repeat(first|apply zae|apply zab|apply zal|apply zad|apply zac|refine zaa hX zdb rfl trivial ?_|refine zaa hX zdb rfl id ?_|refine zaa hX zdb rfl ⟨id,id⟩ ?_));exact zm ⟨.inr rfl,zas rfl trivial rfl rfl rfl⟩
 apply zab;refine za (za ?_);refine zaa hX zdb rfl ?_ ?_
 ·trivial
 refine za (za ?_);refine zaa hX zdb rfl ?_ ?_
 ·trivial
 refine zam (σ':=⟨[(0,⟨.str,s⟩),(3,⟨.bool,true⟩),(4,⟨.slice nd,(zbc s).1⟩),(5,⟨i64,(zbc s).2.1⟩),(6,⟨i64,(zbc s).2.2⟩),(7,⟨.slice nd,(zbc s).1⟩),(8,⟨i64,(zbc s).2.1⟩),(9,⟨i64,(zbc s).2.2⟩)],[],0⟩) ⟨⟨rfl,rfl,rfl,rfl,rfl,rfl,rfl,rfl,trivial⟩,trivial,rfl,rfl⟩ ?_;generalize (zbc s).1=a;generalize (zbc s).2.1=m;generalize (zbc s).2.2=e;refine za (za ?_);refine zaa hX zdb rfl ?_ ?_
 ·repeat'(first|exact trivial|assumption|(refine⟨?_,?_⟩)|(intro _)|exact zb rfl|exact zn _|(simp_all [allP];done))
 refine zaf rfl (fun hb=>?_) (fun hb=>?_)
 ·have hb:(bif (bif !zjD a a then true else (m != m)) then true else (e != e))=true:=hb;rw[zfV.2 rfl]at hb;simp at hb
 apply zab;refine za (za ?_);refine zaa hX zdb rfl ?_ ?_
 ·trivial
 refine za (za ?_);refine zaa hX zdb rfl ?_ ?_
 ·trivial
 refine zam (σ':=⟨[(3,⟨.bool,true⟩),(10,⟨.slice de,(zaL s).1⟩),(11,⟨i64,(zaL s).2.1⟩),(12,⟨i64,(zaL s).2.2⟩),(13,⟨.slice de,(zaL s).1⟩),(14,⟨i64,(zaL s).2.1⟩),(15,⟨i64,(zaL s).2.2⟩)],[],0⟩) ⟨⟨rfl,rfl,rfl,rfl,rfl,rfl,rfl,trivial⟩,trivial,rfl,rfl⟩ ?_;generalize (zaL s).1=c;generalize (zaL s).2.1=i;generalize (zaL s).2.2=g;refine za (za ?_);refine zaa hX zdb rfl ?_ ?_
 ·repeat'(first|exact trivial|assumption|(refine⟨?_,?_⟩)|(intro _)|exact zb rfl|exact zn _|(simp_all [allP];done))
 refine zm ⟨.inr rfl,zas rfl trivial rfl rfl ?_⟩;show (bif (bif (bif zmT c c then (i==i) else false) then (g==g) else false) then true else false)=true;rw[zgy.2 rfl];simp
end Go.Proofs.YtpeaigpfddalcaaGreatDoor
