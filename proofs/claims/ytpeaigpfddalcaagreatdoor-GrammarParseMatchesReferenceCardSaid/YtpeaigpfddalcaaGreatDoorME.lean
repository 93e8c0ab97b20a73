/-
  Texts of this claim, joined: what the statement's proof uses.
-/
import Derived.Test.YtpeaigpfddalcaaGreatDoorMD
set_option linter.unusedSimpArgs false
set_option linter.unusedVariables false
set_option maxRecDepth 100000
open Array renaming getD_eq_getD_getElem? -> zL,getElem?_eq_some_iff -> zo,getElem?_setIfInBounds -> xC
open Bool renaming and_eq_true -> zd,eq_false_iff -> qg,eq_iff_iff -> yb,not_eq_false' -> yC,not_eq_true -> j2,not_eq_true' -> zs,or_eq_true -> zJ
open Decidable renaming byContradiction -> xg
open Go renaming Deferred -> qW,Value -> zg,World -> zi,wpIn_mono -> yS
open Go.Fence renaming wide -> yz
open Go.Oper renaming semAt_some -> jH
open Go.Proofs.YtpeaigpfddalcaaGreatDoor renaming CtrOk -> yB,Frame -> yp
open Go.Proofs.YtpeaigpfddalcaaGreatDoor.AL renaming all -> zY,fit -> qC,guardT -> qY,take -> yy
open Go.Proofs.YtpeaigpfddalcaaGreatDoor.AWP renaming draw -> v8,frz -> qS,go -> za,loop -> yD,ordersA -> ju,ret -> zm,via -> yO,viaQ -> xM
open Go.Proofs.YtpeaigpfddalcaaGreatDoor.AllN renaming cons -> jj,nil -> jE
open Go.Proofs.YtpeaigpfddalcaaGreatDoor.Frame renaming get -> zq
open Go.Proofs.YtpeaigpfddalcaaGreatDoor.OrdA renaming last -> jk
open Go.Proofs.YtpeaigpfddalcaaGreatDoor.Owns renaming get -> zl
open Go.Proofs.YtpeaigpfddalcaaGreatDoor.RSt renaming nodes -> um
open Go.Proofs.YtpeaigpfddalcaaGreatDoor.RTk renaming kind -> zt,n -> yG,text -> yc
open Go.Proofs.YtpeaigpfddalcaaGreatDoor.StepA renaming eval -> yZ
open Go.Proofs.YtpeaigpfddalcaaGreatDoor.Tok renaming cls -> zF,text -> zD
open Go.Region renaming binds -> xD
open Go.RowKit renaming Below -> y7
open Go.RowKit.Below renaming refl -> zU
open Int renaming add_assoc -> kI,le_refl -> yN,le_trans -> k7,natCast_nonneg -> zn,toNat -> v7,toNat_natCast -> zy
open Int.ofNat renaming inj -> uL
open List renaming all_eq_true -> zW,all_takeWhile -> vC,concat_eq_append -> kn,cons_ne_nil -> uo,drop_drop -> xm,drop_eq_getElem_cons -> zI,drop_eq_nil_of_le -> qn,drop_take -> x9,eq_nil_or_concat -> km,foldl_append -> jT,getD_eq_getElem?_getD -> zR,getElem?_eq_getElem -> zT,getElem?_eq_some_iff -> yA,length -> zf,length_append -> zh,length_cons -> zr,length_drop -> ya,length_nil -> zX,length_pos_iff -> xN,length_singleton -> zN,mem_append -> yL,mem_cons -> zP,mem_cons_of_mem -> yk,mem_cons_self -> zS,mem_filterMap -> jJ,mem_map -> qQ,mem_map_of_mem -> kC,mem_singleton -> zw,nodup_cons -> jG,prefix_iff_eq_take -> xI,takeWhile_cons -> yE,takeWhile_prefix -> yq,take_length -> xe,take_succ_cons -> qV,take_succ_eq_append_getElem -> zE
open Nat renaming le_of_ble_eq_true -> zb,le_refl -> zj,le_trans -> zV,lt_of_lt_of_le -> zM,not_lt_zero -> yg,zero_le -> zk
open Option renaming isSome_iff_exists -> jF,some_beq_some -> kz
open Option.some renaming inj -> zx
open UInt8 renaming le_iff_toNat_le -> yK,ofNat -> yr,toNat -> yn,toNat_inj -> ql
open Go Go.RowKit
namespace Go.Proofs.YtpeaigpfddalcaaGreatDoor
section
theorem zjg:yB Tryz.prog gmG 115 (zef isLt):=by
 refine zap (K:=gmK) zaC Tryz.func115 rfl rfl Tryz.call115 rfl (by decide) (by intro h;cases h) ?_;rintro w0 X hX ⟨(c:UInt8),_⟩ hp;change AWP _ _ _ _ _ ⟨[(0,⟨u8,c⟩)],[],0⟩ _;refine za (za ?_);refine zaa hX zaC rfl ?_ ?_
 ·trivial
 refine za (za ?_);refine zaa hX zaC rfl ?_ ?_
 ·repeat'(first|exact trivial|assumption|(refine⟨?_,?_⟩)|(intro _)|exact zb rfl|exact zn _|(simp_all [allP];done))
 refine zm ⟨.inr rfl,zas rfl trivial rfl rfl ?_⟩;show (bif (bif decide ((((97:UInt8).toNat:Nat):Int)≤((c.toNat:Nat):Int)) then decide (((c.toNat:Nat):Int)≤(((122:UInt8).toNat:Nat):Int)) else false) then true else (bif decide ((((65:UInt8).toNat:Nat):Int)≤((c.toNat:Nat):Int)) then decide (((c.toNat:Nat):Int)≤(((90:UInt8).toNat:Nat):Int)) else false))=isLt c;simp only[zct,zev,u8le];exact lt6_eq c
theorem zit:yB Tryz.prog gmG 139 (zef isDg):=by
 refine zap (K:=gmK) zaC Tryz.func139 rfl rfl Tryz.call139 rfl (by decide) (by intro h;cases h) ?_;rintro w0 X hX ⟨(c:UInt8),_⟩ hp;change AWP _ _ _ _ _ ⟨[(0,⟨u8,c⟩)],[],0⟩ _;refine za (za ?_);refine zaa hX zaC rfl ?_ ?_
 ·trivial
 refine za (za ?_);refine zaa hX zaC rfl ?_ ?_
 ·repeat'(first|exact trivial|assumption|(refine⟨?_,?_⟩)|(intro _)|exact zb rfl|exact zn _|(simp_all [allP];done))
 refine zm ⟨.inr rfl,zas rfl trivial rfl rfl ?_⟩;show (bif decide ((((48:UInt8).toNat:Nat):Int)≤((c.toNat:Nat):Int)) then decide (((c.toNat:Nat):Int)≤(((57:UInt8).toNat:Nat):Int)) else false)=isDg c;simp only[zct,u8le];rfl
def kPa7:Kn:={ gmK with C:=[(115,zef isLt),(139,zef isDg)] }
theorem zmi:KnOk Tryz.prog gmG kPa7:=zaC.with (.cons zjg <| .cons zit .nil)
theorem zrK:yB Tryz.prog gmG 116 (zef isPt):=by
 refine zap (K:=kPa7) zmi Tryz.func116 rfl rfl Tryz.call116 rfl (by decide) (by intro h;cases h) ?_;rintro w0 X hX ⟨(c:UInt8),_⟩ hp;change AWP _ _ _ _ _ ⟨[(0,⟨u8,c⟩)],[],0⟩ _;refine za (za ?_);refine zaa hX zmi rfl ?_ ?_
 ·trivial
 refine za (za ?_);refine zaa hX zmi rfl ?_ ?_
 ·repeat'(first|exact trivial|assumption|(refine⟨?_,?_⟩)|(intro _)|exact zb rfl|exact zn _|(simp_all [allP];done))
 refine zm ⟨.inr rfl,zas rfl trivial rfl rfl ?_⟩;show (bif (bif isLt c then true else isDg c) then true else (((c.toNat:Nat):Int)==(((45:UInt8).toNat:Nat):Int)))=isPt c;simp only[zev,u8eq];rfl
theorem zkp:yB Tryz.prog gmG 89 (zef isWh):=by
 refine zap (K:=gmK) zaC Tryz.func89 rfl rfl Tryz.call89 rfl (by decide) (by intro h;cases h) ?_;rintro w0 X hX ⟨(c:UInt8),_⟩ hp;change AWP _ _ _ _ _ ⟨[(0,⟨u8,c⟩)],[],0⟩ _;refine za (za ?_);refine zaa hX zaC rfl ?_ ?_
 ·trivial
 refine za (za ?_);refine zaa hX zaC rfl ?_ ?_
 ·repeat'(first|exact trivial|assumption|(refine⟨?_,?_⟩)|(intro _)|exact zb rfl|exact zn _|(simp_all [allP];done))
 refine zm ⟨.inr rfl,zas rfl trivial rfl rfl ?_⟩;show (bif (bif (bif (((c.toNat:Nat):Int)==(((32:UInt8).toNat:Nat):Int)) then true else (((c.toNat:Nat):Int)==(((9:UInt8).toNat:Nat):Int))) then true else (((c.toNat:Nat):Int)==(((10:UInt8).toNat:Nat):Int))) then true else (((c.toNat:Nat):Int)==(((13:UInt8).toNat:Nat):Int)))=isWh c;simp only[zev,u8eq];rfl
theorem zeE (p:UInt8->Bool) {s:List UInt8} {k:Nat} (h:k < s.length):zaD p (s.drop k)=if p s[k]=true then zaD p (s.drop (k+1))+1 else 0:=by
 rw[zI h];unfold zaD;rw[yE];split<;>rfl
theorem zhf (p:UInt8->Bool) {s:List UInt8} {k:Nat} (h:s.length≤k):zaD p (s.drop k)=0:=by
 rw[qn h];rfl
def cWEnd:Ctr:={ args:=[.str,i64],pre:=fun x=>[zf x.1≤2000000,0≤x.2.1,x.2.1.toNat≤zf x.1],res:=i64,own:=none,out:=fun x=>x.2.1+(zaD isPt (x.1.drop x.2.1.toNat):Nat) }
def kWe7:Kn:={ gmK with C:=[(116,zef isPt)] }
theorem zfF:KnOk Tryz.prog gmG kWe7:=zaC.with (.cons zrK .nil)
theorem ztn:yB Tryz.prog gmG 138 cWEnd:=by
 refine zap (K:=kWe7) zfF Tryz.func138 rfl rfl Tryz.call138 rfl (by decide) (by intro h;cases h) ?_;rintro w0 X hX ⟨(s:List UInt8),(o:Int),_⟩ hp;obtain⟨hl,h0,h1⟩:s.length≤2000000∧0≤o∧o.toNat≤s.length:=hp;obtain⟨a,rfl⟩:∃ a:Nat,o=(a:Int):=⟨o.toNat,by omega⟩;have h1:a≤s.length:=h1;change AWP _ _ _ _ _ ⟨[(0,⟨.str,s⟩),(1,⟨i64,(a:Int)⟩)],[],0⟩ _;refine za (za ?_);refine zaa hX zfF rfl ?_ ?_
 ·trivial
 (repeat(first|apply zae|apply zab|apply zac|apply zad));refine yD (ι:=Nat) (fun k=>⟨[(0,⟨.str,s⟩),(1,⟨i64,(k:Int)⟩)],[],0⟩) (fun k=>k≤s.length∧a+zaD isPt (s.drop a)=k+zaD isPt (s.drop k)) (fun k=>s.length - k) a ⟨h1,rfl⟩ ⟨⟨rfl,rfl,trivial⟩,trivial,rfl,rfl⟩ ?_;rintro k ⟨hk,he⟩;have m0:(0:Int)≤(k:Int):=by omega
 by_cases hkl:(k:Int) < ((s.length:Nat):Int)
 ·have hlt:k < s.length:=by omega
  have hget:s.getD ((k:Int)).toNat 0=s[k]:=zaM hlt;rw[zeE isPt hlt]at he;refine za (za ?_);refine zaa hX zfF rfl ?_ ?_
  ·repeat'(first|exact trivial|assumption|exact m0|exact hkl|(refine⟨?_,?_⟩)|(intro _)|exact zb rfl|exact zn _|(simp_all [allP];done))
  have hq:(bif decide ((k:Int) < ((s.length:Nat):Int)) then isPt (s.getD ((k:Int)).toNat 0) else false)=isPt s[k]:=by rw[decide_eq_true hkl,hget];rfl
  refine zaf rfl (fun hb=>?_) (fun hb=>?_)
  ·have hb:=hq.symm.trans hb;rw[if_pos hb]at he;refine za (za ?_);refine zaa hX zfF rfl ?_ ?_
   ·exact zaq (by omega) (by omega)
   exact⟨k+1,⟨hlt,by omega⟩,by omega,⟨rfl,vI64 (by omega),trivial⟩,trivial,rfl,rfl⟩
  ·have hb:=hq.symm.trans hb;rw[if_neg (by rw[hb];decide)]at he;apply zad;refine za (za ?_);refine zaa hX zfF rfl ?_ ?_
   ·trivial
   refine zm ⟨.inr rfl,zas rfl trivial rfl rfl ?_⟩;show (k:Int)=(a:Int)+(zaD isPt (s.drop a):Nat);omega
 ·have hkf:decide ((k:Int) < ((s.length:Nat):Int))=false:=decide_eq_false hkl;rw[zhf isPt (k:=k) (by omega)]at he;refine za (za ?_);refine zaa hX zfF rfl ?_ ?_
  ·repeat'(first|exact trivial|(intro h;rw[hkf]at h;cases h;done)|(refine⟨?_,?_⟩))
  refine zaf rfl (fun hb=>?_) (fun hb=>?_)
  ·have hb:(bif decide ((k:Int) < ((s.length:Nat):Int)) then isPt (s.getD ((k:Int)).toNat 0) else false)=true:=hb;rw[hkf]at hb;cases hb
  ·apply zad;refine za (za ?_);refine zaa hX zfF rfl ?_ ?_
   ·trivial
   refine zm ⟨.inr rfl,zas rfl trivial rfl rfl ?_⟩;show (k:Int)=(a:Int)+(zaD isPt (s.drop a):Nat);omega
def numF (s:List UInt8) (a:Nat):Nat:=if (s.drop a).head? ==some 45 then a+1 else a
def cNum7:Ctr:={ args:=[.str,i64],pre:=fun x=>[zf x.1≤2000000,0≤x.2.1,x.2.1.toNat < zf x.1,numF x.1 x.2.1.toNat < zf x.1],res:=rtk,own:=none,out:=fun x=>zcu x.2.1 (x.1.drop x.2.1.toNat) }
def kNu7:Kn:={ gmK with C:=[(139,zef isDg)] }
theorem zb9:KnOk Tryz.prog gmG kNu7:=zaC.with (.cons zit .nil)
theorem zlY (l:List UInt8) (c:UInt8):rn (l++ [c])=min (10 * rn l+(c.toNat - 48)) zcv:=by unfold rn;rw[jT];rfl
theorem ztM (l:List UInt8):rn l≤zcv:=by
 rcases km l with rfl|⟨q,c,rfl⟩
 ·exact zk _
 ·rw[kn,zlY];exact Nat.min_le_right _ _
def zRt:rtk.T:=(0,0,[],0,())
set_option maxHeartbeats 1000000 in
theorem zl5:yB Tryz.prog gmG 140 cNum7:=by
 refine zap (K:=kNu7) zb9 Tryz.func140 rfl rfl Tryz.call140 rfl (by decide) (by intro h;cases h) ?_;rintro w0 X hX ⟨(s:List UInt8),(o:Int),_⟩ hp;obtain⟨hl,h0,h1,h2⟩:s.length≤2000000∧0≤o∧o.toNat < s.length∧numF s o.toNat < s.length:=hp;obtain⟨a,rfl⟩:∃ a:Nat,o=(a:Int):=⟨o.toNat,by omega⟩;have h1:a < s.length:=h1;have h2:numF s a < s.length:=h2;change AWP _ _ _ _ _ ⟨[(0,⟨.str,s⟩),(1,⟨i64,(a:Int)⟩)],[],0⟩ _;have hga:s.getD ((a:Int)).toNat 0=s[a]:=zaM h1;have hhd:(s.drop a).head? =some s[a]:=by rw[List.head?_drop,zT h1]
 obtain⟨neg,hneg⟩:∃ b:Bool,(s[a]==45)=b:=⟨_,rfl⟩;have hneg2:((s.drop a).head? ==some 45)=neg:=by rw[hhd, <-hneg];rfl
 obtain⟨f,hf⟩:∃ f,numF s a=f:=⟨_,rfl⟩;have hfe:f=if neg=true then a+1 else a:=by rw[<-hf];unfold numF;rw[hneg2]
 rw[hf]at h2;have hR:zcu (a:Int) (s.drop a)=(if ((s.drop f).takeWhile isDg).head? =some 48∧(neg=true∨1 < ((s.drop f).takeWhile isDg).length) then 5 else 3,(a:Int),(if neg then 45::(s.drop f).takeWhile isDg else (s.drop f).takeWhile isDg),if neg then -((rn ((s.drop f).takeWhile isDg):Nat):Int) else ((rn ((s.drop f).takeWhile isDg):Nat):Int),()):=by
  have e:(if neg then (s.drop a).drop 1 else s.drop a)=s.drop f:=by
   rw[hfe];cases neg
   ·rfl
   ·rw[if_pos rfl,if_pos rfl,xm]
  unfold zcu;rw[hneg2];simp only[];rw[e]
 have m0:(0:Int)≤(a:Int):=by omega
 have m1:(a:Int) < ((s.length:Nat):Int):=by omega
 refine za (za ?_);refine zaa hX zb9 rfl ?_ ?_
 ·trivial
 refine za (za ?_);refine zaa hX zb9 rfl ?_ ?_
 ·trivial
 refine za (za ?_);refine zaa hX zb9 rfl ?_ ?_
 ·repeat'(first|exact trivial|assumption|exact m0|exact m1|(refine⟨?_,?_⟩)|(intro _)|exact zb rfl|exact zn _|(simp_all [allP];done))
 refine zam (σ':=⟨[(0,⟨.str,s⟩),(1,⟨i64,(a:Int)⟩),(4,⟨.optr rtk,⟨0,rtk,.here⟩⟩),(5,⟨i64,(a:Int)⟩),(6,⟨.bool,neg⟩)],[(0,some (.box rtk zRt))],1⟩) ⟨⟨rfl,rfl,rfl,rfl,zbz ?_,trivial⟩,⟨rfl,trivial⟩,rfl,rfl⟩ ?_
 ·show (((yn (s.getD ((a:Int)).toNat 0):Nat):Int)==((yn 45:Nat):Int))=neg;rw[u8eq,hga,hneg]
 have qa:inR .i64 ((a:Int)+1):=zaZ (by omega);refine yO (σ':=⟨[(0,⟨.str,s⟩),(1,⟨i64,(a:Int)⟩),(4,⟨.optr rtk,⟨0,rtk,.here⟩⟩),(5,⟨i64,(f:Int)⟩),(6,⟨.bool,neg⟩)],[(0,some (.box rtk zRt))],1⟩) ?_ ?_
 ·refine za (za ?_);refine zaa hX zb9 rfl ?_ ?_
  ·trivial
  refine zaf rfl (fun hb=>?_) (fun hb=>?_)
  ·have hb:neg=true:=hb;subst hb;refine za (za ?_);refine zaa hX zb9 rfl ?_ ?_
   ·exact qa
   exact⟨⟨rfl,rfl,rfl,vI64 (by rw[hfe,if_pos rfl];omega),rfl,trivial⟩,⟨rfl,trivial⟩,rfl,rfl⟩
  ·have hb:neg=false:=hb;subst hb;apply zab;exact⟨⟨rfl,rfl,rfl,vI64 (by rw[hfe,if_neg (by decide)]),rfl,trivial⟩,⟨rfl,trivial⟩,rfl,rfl⟩
 have haf:a≤f:=by rw[hfe];split<;>omega
 have htx:(s.take (f+((s.drop f).takeWhile isDg).length)).drop a=if neg then 45::(s.drop f).takeWhile isDg else (s.drop f).takeWhile isDg:=by
  have e:(s.drop f).takeWhile isDg=(s.drop f).take ((s.drop f).takeWhile isDg).length:=xI.1 (yq isDg);rw[x9];cases neg
  ·have:f=a:=by rw[hfe,if_neg (by decide)]
   subst this;rw[show f+((s.drop f).takeWhile isDg).length - f=((s.drop f).takeWhile isDg).length by omega,if_neg (by decide)];exact e.symm
  ·have hf1:f=a+1:=by rw[hfe,if_pos rfl]
   subst hf1;rw[show a+1+((s.drop (a+1)).takeWhile isDg).length - a=((s.drop (a+1)).takeWhile isDg).length+1 by omega,zI h1,qV,beq_iff_eq.1 hneg,if_pos rfl, <-e]
 have hD0:((s.drop f).takeWhile isDg).head? =some 48↔s[f]=48:=by
  rw[zI h2,yE];constructor
  ·intro h;split at h
   ·exact zx h
   ·cases h
  ·intro h;rw[h];rfl
 clear hfe hneg hneg2 hhd hga hf;generalize hD:(s.drop f).takeWhile isDg=D at hR htx hD0;have hDl:D.length=zaD isDg (s.drop f):=by rw[<-hD];rfl
 have hDt:D=(s.drop f).take D.length:=by
  rw[<-hD];exact xI.1 (yq isDg)
 have hDs:f+D.length≤s.length:=by
  have:=(yq isDg (l:=s.drop f)).length_le;rw[hD,ya]at this;omega
 refine za (za ?_);refine zaa hX zb9 rfl ?_ ?_
 ·trivial
 refine za (za ?_);refine zaa hX zb9 rfl ?_ ?_
 ·trivial
 (repeat(first|apply zae|apply zab|apply zac|apply zad));refine yD (ι:=Nat) (fun j=>⟨[(0,⟨.str,s⟩),(1,⟨i64,(a:Int)⟩),(4,⟨.optr rtk,⟨0,rtk,.here⟩⟩),(5,⟨i64,((f+j:Nat):Int)⟩),(6,⟨.bool,neg⟩),(7,⟨i64,(f:Int)⟩),(8,⟨i64,((rn (D.take j):Nat):Int)⟩)],[(0,some (.box rtk zRt))],1⟩) (fun j=>j≤D.length∧f+zaD isDg (s.drop f)=f+j+zaD isDg (s.drop (f+j))) (fun j=>D.length - j) 0 ⟨zk _,rfl⟩ ⟨⟨rfl,rfl,rfl,rfl,rfl,rfl,rfl,trivial⟩,⟨rfl,trivial⟩,rfl,rfl⟩ ?_;rintro j ⟨hj,he⟩;obtain⟨k,hk⟩:∃ k,f+j=k:=⟨_,rfl⟩;rw[<-hDl,hk]at he;show AWP _ _ _ _ _ ⟨[(0,⟨.str,s⟩),(1,⟨i64,(a:Int)⟩),(4,⟨.optr rtk,⟨0,rtk,.here⟩⟩),(5,⟨i64,((f+j:Nat):Int)⟩),(6,⟨.bool,neg⟩),(7,⟨i64,(f:Int)⟩),(8,⟨i64,((rn (D.take j):Nat):Int)⟩)],[(0,some (.box rtk zRt))],1⟩ _;rw[hk];have k0:(0:Int)≤(k:Int):=by omega
 have hrn:=ztM (D.take j);have hhu:zcv=1125899906842624:=rfl;have hgu:(decide ((k:Int) < ((s.length:Nat):Int))=true∧j < D.length∧∃ hlt:k < s.length,isDg s[k]=true∧D.take (j+1)=D.take j++ [s[k]])∨(j=D.length∧(bif decide ((k:Int) < ((s.length:Nat):Int)) then isDg (s.getD ((k:Int)).toNat 0) else false)=false):=by
  by_cases hlt:k < s.length
  ·have hget:s.getD ((k:Int)).toNat 0=s[k]:=zaM hlt;rw[zeE isDg hlt]at he;have hd:decide ((k:Int) < ((s.length:Nat):Int))=true:=decide_eq_true (by omega);by_cases hdg:isDg s[k]=true
   ·rw[if_pos hdg]at he;refine .inl ⟨hd,by omega,hlt,hdg,?_⟩;have hjl:j < D.length:=by omega
    rw[zE hjl]
    congr 2
    have h1:D[j]? =some s[k]:=by rw[hDt,List.getElem?_take,if_pos hjl,List.getElem?_drop,hk,zT hlt]
    rw[zT hjl]at h1;exact zx h1
   ·rw[if_neg hdg]at he;refine .inr ⟨by omega,?_⟩;rw[hd,hget]
    simpa using hdg
  ·rw[zhf isDg (by omega)]at he;refine .inr ⟨by omega,?_⟩;rw[decide_eq_false (by omega)];rfl
 apply zae;refine yO (σ':=⟨[(0,⟨.str,s⟩),(1,⟨i64,(a:Int)⟩),(4,⟨.optr rtk,⟨0,rtk,.here⟩⟩),(5,⟨i64,(k:Int)⟩),(6,⟨.bool,neg⟩),(7,⟨i64,(f:Int)⟩),(8,⟨i64,((rn (D.take j):Nat):Int)⟩),(28,⟨.bool,decide (j < D.length)⟩)],[(0,some (.box rtk zRt))],1⟩) ?_ ?_
 ·by_cases hkl:(k:Int) < ((s.length:Nat):Int)
  ·refine za (za ?_);refine zaa hX zb9 rfl ?_ ?_
   ·repeat'(first|exact trivial|assumption|exact k0|exact hkl|(refine⟨?_,?_⟩)|(intro _)|exact zb rfl|exact zn _|(simp_all [allP];done))
   refine⟨⟨rfl,rfl,rfl,rfl,rfl,rfl,rfl,zbz ?_,trivial⟩,⟨rfl,trivial⟩,rfl,rfl⟩;show (bif decide ((k:Int) < ((s.length:Nat):Int)) then isDg (s.getD ((k:Int)).toNat 0) else false)=_;rcases hgu with ⟨g1,g2,hlt,g3,_⟩|⟨g1,g2⟩
   ·rw[g1,zaM hlt,g3,decide_eq_true g2];rfl
   ·rw[g2,decide_eq_false (by omega)]
  ·have hkf:decide ((k:Int) < ((s.length:Nat):Int))=false:=decide_eq_false hkl;refine za (za ?_);refine zaa hX zb9 rfl ?_ ?_
   ·repeat'(first|exact trivial|(intro h;rw[hkf]at h;cases h;done)|(refine⟨?_,?_⟩))
   refine⟨⟨rfl,rfl,rfl,rfl,rfl,rfl,rfl,zbz ?_,trivial⟩,⟨rfl,trivial⟩,rfl,rfl⟩;show (bif decide ((k:Int) < ((s.length:Nat):Int)) then isDg (s.getD ((k:Int)).toNat 0) else false)=_;rcases hgu with ⟨g1,_⟩|⟨g1,g2⟩
   ·rw[g1]at hkf;cases hkf
   ·rw[g2,decide_eq_false (by omega)]
 refine zaf rfl (fun hb=>?_) (fun hb=>?_)
 ·have hb:=of_decide_eq_true hb;rcases hgu with ⟨g1,g2,hlt,g3,g4⟩|⟨g1,g2⟩
  ·have hkl:=of_decide_eq_true g1;have i1:inR .i64 (10 * ((rn (D.take j):Nat):Int)):=zaq (by omega) (by omega);have hc:=(zgl s[k] g3);have g3':=g3;simp only[isDg,zd,decide_eq_true_iff,yK]at g3;have g5:(yn 48)=48∧yn 57=57:=⟨rfl,rfl⟩;have hcn:(s.getD ((k:Int)).toNat 0 - yr (v7 48)).toNat=s[k].toNat - 48:=by
    rw[zaM hlt];exact UInt8.toNat_sub_of_le _ _ (yK.2 g3.1)
   have i2:inR .i64 (10 * ((rn (D.take j):Nat):Int)+(((s.getD ((k:Int)).toNat 0 - yr (v7 48)).toNat:Nat):Int)):=by
    rw[hcn];exact zaq (by omega) (by omega)
   refine za (za ?_);refine zaa hX zb9 rfl ?_ ?_
   ·exact⟨i1,k0,hkl,i2⟩
   refine za (za ?_);refine zaa hX zb9 rfl ?_ ?_
   ·exact zaq (by omega) (by omega)
   refine⟨j+1,⟨g2,?_⟩,by omega,⟨rfl,rfl,rfl,vI64 (by omega),rfl,rfl,vI64 ?_,trivial⟩,⟨rfl,trivial⟩,rfl,rfl⟩
   ·rw[zeE isDg hlt,if_pos g3']at he;rw[<-hDl,show f+(j+1)=k+1 by omega];omega
   ·show min (10 * ((rn (D.take j):Nat):Int)+(((s.getD ((k:Int)).toNat 0 - yr (v7 48)).toNat:Nat):Int)) 1125899906842624=((rn (D.take (j+1)):Nat):Int);rw[g4,zlY,hcn,hhu];omega
  ·omega
 ·have hb:=of_decide_eq_false hb;obtain rfl:j=D.length:=by omega
  rw[hk]at htx;rw[xe];clear hgu he hrn;apply zad;have t1:(a:Int)≤(k:Int):=by omega
  have t2:(k:Int)≤((s.length:Nat):Int):=by omega
  refine za (za ?_);refine zaa hX zb9 rfl ?_ ?_
  ·exact⟨m0,t1,t2⟩
  have e10:(s.take ((k:Int)).toNat).drop ((a:Int)).toNat=if neg then 45::D else D:=htx
  refine zam (σ':=⟨[(0,⟨.str,s⟩),(1,⟨i64,(a:Int)⟩),(4,⟨.optr rtk,⟨0,rtk,.here⟩⟩),(5,⟨i64,(k:Int)⟩),(6,⟨.bool,neg⟩),(7,⟨i64,(f:Int)⟩),(8,⟨i64,((rn D:Nat):Int)⟩),(9,⟨.optr rtk,⟨1,rtk,.here⟩⟩)],[(0,some (.box rtk zRt)),(1,some (.box rtk (3,(a:Int),(if neg then 45::D else D),((rn D:Nat):Int),())))],2⟩) ⟨⟨rfl,rfl,rfl,rfl,rfl,rfl,rfl,rfl,trivial⟩,⟨rfl,by rw[<-e10];rfl,trivial⟩,rfl,rfl⟩ ?_;generalize (if neg then 45::D else D)=T at *;have f0:(0:Int)≤(f:Int):=by omega
  have f1:(f:Int) < ((s.length:Nat):Int):=by omega
  have f2:inR .i64 ((k:Int) - (f:Int)):=zaq (by omega) (by omega);have hq:(bif (((yn (s.getD ((f:Int)).toNat 0):Nat):Int)==((yn 48:Nat):Int)) then (bif neg then true else decide ((k:Int) - (f:Int) > 1)) else false)=decide (D.head? =some 48∧(neg=true∨1 < D.length)):=by
   rw[u8eq,zaM h2,zc2,b_or,yb,zd,zJ,beq_iff_eq,decide_eq_true_iff,decide_eq_true_iff,hD0];constructor
   ·rintro ⟨u1,u2⟩;exact⟨u1,u2.imp id fun u=>by omega⟩
   ·rintro ⟨u1,u2⟩;exact⟨u1,u2.imp id fun u=>by omega⟩
  refine yO (σ':=⟨[(4,⟨.optr rtk,⟨0,rtk,.here⟩⟩),(6,⟨.bool,neg⟩),(8,⟨i64,((rn D:Nat):Int)⟩),(9,⟨.optr rtk,⟨1,rtk,.here⟩⟩)],[(0,some (.box rtk zRt)),(1,some (.box rtk (if D.head? =some 48∧(neg=true∨1 < D.length) then 5 else 3,(a:Int),T,((rn D:Nat):Int),())))],2⟩) ?_ ?_
  ·refine za (za ?_);refine zaa hX zb9 rfl ?_ ?_
   ·generalize (((yn (s.getD ((f:Int)).toNat 0):Nat):Int)==(((yr (v7 48)).toNat:Nat):Int))=b;cases b<;>cases neg<;>repeat'(first|exact trivial|exact f0|exact f1|exact f2|rfl|(intro h;cases h;done)|(intro _)|(refine⟨?_,?_⟩))
   refine zaf rfl (fun hb=>?_) (fun hb=>?_)
   ·have hb:=of_decide_eq_true (hq.symm.trans hb);refine za (za ?_);refine zaa hX zb9 rfl ?_ ?_
    ·trivial
    exact⟨⟨rfl,rfl,rfl,rfl,trivial⟩,⟨rfl,by rw[if_pos hb];rfl,trivial⟩,rfl,rfl⟩
   ·have hb:=of_decide_eq_false (hq.symm.trans hb);apply zab;exact⟨⟨rfl,rfl,rfl,rfl,trivial⟩,⟨rfl,by rw[if_neg hb];rfl,trivial⟩,rfl,rfl⟩
  generalize (if D.head? =some 48∧(neg=true∨1 < D.length) then (5:Int) else 3)=kd at *;have n1:inR .i64 (-((rn D:Nat):Int)):=by have:=ztM D;exact zaq (by omega) (by omega)
  refine yO (σ':=⟨[(4,⟨.optr rtk,⟨0,rtk,.here⟩⟩),(9,⟨.optr rtk,⟨1,rtk,.here⟩⟩)],[(0,some (.box rtk zRt)),(1,some (.box rtk (kd,(a:Int),T,(if neg then -((rn D:Nat):Int) else ((rn D:Nat):Int)),())))],2⟩) ?_ ?_
  ·refine za (za ?_);refine zaa hX zb9 rfl ?_ ?_
   ·trivial
   refine zaf rfl (fun hb=>?_) (fun hb=>?_)
   ·have hb:neg=true:=hb;subst hb;refine za (za ?_);refine zaa hX zb9 rfl ?_ ?_
    ·exact n1
    exact⟨⟨rfl,rfl,trivial⟩,⟨rfl,rfl,trivial⟩,rfl,rfl⟩
   ·have hb:neg=false:=hb;subst hb;apply zab;exact⟨⟨rfl,rfl,trivial⟩,⟨rfl,rfl,trivial⟩,rfl,rfl⟩
  refine za (za ?_);refine zaa hX zb9 rfl ?_ ?_
  ·trivial
  refine zm ⟨.inr rfl,zas rfl trivial rfl rfl ?_⟩;exact hR.symm
def zs8:Ctr:={ args:=[.str,i64],pre:=fun x=>[zf x.1≤2000000,0≤x.2.1,x.2.1.toNat≤zf x.1],res:=rtk,own:=none,out:=fun x=>zck x.1 x.2.1 }
def kSc7:Kn:={ gmK with C:=[(89,zef isWh),(115,zef isLt),(139,zef isDg),(138,cWEnd),(140,cNum7)] }
theorem zco:KnOk Tryz.prog gmG kSc7:=zaC.with (.cons zkp <| .cons zjg <| .cons zit <| .cons ztn <| .cons zl5 .nil)
theorem zed (p:UInt8->Bool):∀ l:List UInt8,l.dropWhile p=l.drop (zaD p l)
 | []=>rfl
 |c::r=>by
  unfold zaD;rw[List.dropWhile_cons,yE];cases p c with
  |true=>exact zed p r
  |false=>rfl
theorem zgv (p:UInt8->Bool) (s:List UInt8) (k:Nat):(s.take (k+zaD p (s.drop k))).drop k=(s.drop k).takeWhile p:=by
 rw[x9,show k+zaD p (s.drop k) - k=zaD p (s.drop k) by omega];exact (xI.1 (yq p)).symm
set_option maxHeartbeats 1000000 in
theorem zro:yB Tryz.prog gmG 82 zs8:=by
 refine zap (K:=kSc7) zco Tryz.func82 rfl rfl Tryz.call82 rfl (by decide) (by intro h;cases h) ?_;rintro w0 X hX ⟨(s:List UInt8),(o:Int),_⟩ hp;obtain⟨hl,h0,h1⟩:s.length≤2000000∧0≤o∧o.toNat≤s.length:=hp;obtain⟨a,rfl⟩:∃ a:Nat,o=(a:Int):=⟨o.toNat,by omega⟩;have h1:a≤s.length:=h1;change AWP _ _ _ _ _ ⟨[(0,⟨.str,s⟩),(1,⟨i64,(a:Int)⟩)],[],0⟩ _;have hR:zck s ((a:Nat):Int)=match s.drop (a+zaD isWh (s.drop a)) with
   | []=>(0,((s.length:Nat):Int),[],0,())
   |c::q=>if isLt c then (1,((a+zaD isWh (s.drop a):Nat):Int),(c::q).takeWhile isPt,0,())
    else if c=64∧q.head?.any isLt=true then (2,((a+zaD isWh (s.drop a):Nat):Int),q.takeWhile isPt,0,())
    else if isDg c=true∨c=45∧q.head?.any isDg=true then zcu ((a+zaD isWh (s.drop a):Nat):Int) (c::q)
    else if c=40∨c=41∨c=61 then (4,((a+zaD isWh (s.drop a):Nat):Int),[c],0,()) else (5,((a+zaD isWh (s.drop a):Nat):Int),[c],0,()):=by
  unfold zck;rw[zy,zed,xm];rfl
 refine za (za ?_);refine zaa hX zco rfl ?_ ?_
 ·trivial
 (repeat(first|apply zae|apply zab|apply zac|apply zad));refine yD (ι:=Nat) (fun k=>⟨[(0,⟨.str,s⟩),(1,⟨i64,(k:Int)⟩),(4,⟨.optr rtk,⟨0,rtk,.here⟩⟩)],[(0,some (.box rtk zRt))],1⟩) (fun k=>k≤s.length∧a+zaD isWh (s.drop a)=k+zaD isWh (s.drop k)) (fun k=>s.length - k) a ⟨h1,rfl⟩ ⟨⟨rfl,rfl,rfl,trivial⟩,⟨rfl,trivial⟩,rfl,rfl⟩ ?_;rintro k ⟨hk,he⟩;have m0:(0:Int)≤(k:Int):=by omega
 have hst:(∃ hlt:k < s.length,decide ((k:Int) < ((s.length:Nat):Int))=true∧isWh s[k]=true∧a+zaD isWh (s.drop a)=k+1+zaD isWh (s.drop (k+1)))∨(a+zaD isWh (s.drop a)=k∧(bif decide ((k:Int) < ((s.length:Nat):Int)) then isWh (s.getD ((k:Int)).toNat 0) else false)=false):=by
  by_cases hlt:k < s.length
  ·have hget:s.getD ((k:Int)).toNat 0=s[k]:=zaM hlt;rw[zeE isWh hlt]at he;have hd:decide ((k:Int) < ((s.length:Nat):Int))=true:=decide_eq_true (by omega);by_cases hw:isWh s[k]=true
   ·rw[if_pos hw]at he;exact .inl ⟨hlt,hd,hw,by omega⟩
   ·rw[if_neg hw]at he;refine .inr ⟨by omega,?_⟩;rw[hd,hget]
    simpa using hw
  ·rw[zhf isWh (k:=k) (by omega)]at he;refine .inr ⟨by omega,?_⟩;rw[decide_eq_false (by omega)];rfl
 apply zae;refine yO (σ':=⟨[(0,⟨.str,s⟩),(1,⟨i64,(k:Int)⟩),(4,⟨.optr rtk,⟨0,rtk,.here⟩⟩),(15,⟨.bool,bif decide ((k:Int) < ((s.length:Nat):Int)) then isWh (s.getD ((k:Int)).toNat 0) else false⟩)],[(0,some (.box rtk zRt))],1⟩) ?_ ?_
 ·by_cases hkl:(k:Int) < ((s.length:Nat):Int)
  ·refine za (za ?_);refine zaa hX zco rfl ?_ ?_
   ·repeat'(first|exact trivial|assumption|exact m0|exact hkl|(refine⟨?_,?_⟩)|(intro _)|exact zb rfl|exact zn _|(simp_all [allP];done))
   exact⟨⟨rfl,rfl,rfl,rfl,trivial⟩,⟨rfl,trivial⟩,rfl,rfl⟩
  ·have hkf:decide ((k:Int) < ((s.length:Nat):Int))=false:=decide_eq_false hkl;refine za (za ?_);refine zaa hX zco rfl ?_ ?_
   ·repeat'(first|exact trivial|(intro h;rw[hkf]at h;cases h;done)|(refine⟨?_,?_⟩))
   exact⟨⟨rfl,rfl,rfl,rfl,trivial⟩,⟨rfl,trivial⟩,rfl,rfl⟩
 refine zaf rfl (fun hb=>?_) (fun hb=>?_)
 ·have hb:(bif decide ((k:Int) < ((s.length:Nat):Int)) then isWh (s.getD ((k:Int)).toNat 0) else false)=true:=hb;rcases hst with ⟨hlt,g1,g2,g3⟩|⟨g1,g2⟩
  ·refine za (za ?_);refine zaa hX zco rfl ?_ ?_
   ·exact zaq (by omega) (by omega)
   exact⟨k+1,⟨hlt,g3⟩,by omega,⟨rfl,vI64 (by omega),rfl,trivial⟩,⟨rfl,trivial⟩,rfl,rfl⟩
  ·rw[g2]at hb;cases hb
 have hke:a+zaD isWh (s.drop a)=k:=by
  rcases hst with ⟨hlt,g1,g2,g3⟩|⟨g1,g2⟩
  ·have hb:(bif decide ((k:Int) < ((s.length:Nat):Int)) then isWh (s.getD ((k:Int)).toNat 0) else false)=false:=hb;rw[g1,zaM hlt,g2]at hb;cases hb
  ·exact g1
 rw[hke]at hR;clear hst he hb h1 hke;apply zad;refine zam (σ':=⟨[(0,⟨.str,s⟩),(1,⟨i64,(k:Int)⟩),(4,⟨.optr rtk,⟨0,rtk,.here⟩⟩)],[(0,some (.box rtk zRt))],1⟩) ⟨⟨rfl,rfl,rfl,trivial⟩,⟨rfl,trivial⟩,rfl,rfl⟩ ?_;refine za (za ?_);refine zaa hX zco rfl ?_ ?_
 ·trivial
 refine zaf rfl (fun hb=>?_) (fun hb=>?_)
 ·have hb:decide ((k:Int)≥((s.length:Nat):Int))=true:=hb;have hb:=of_decide_eq_true hb;refine za (za ?_);refine zaa hX zco rfl ?_ ?_
  ·trivial
  refine zm ⟨.inr rfl,zas rfl trivial rfl rfl ?_⟩;show _=zck s ((a:Nat):Int);rw[hR,qn (by omega)];rfl
 have hb:decide ((k:Int)≥((s.length:Nat):Int))=false:=hb;have hb:=of_decide_eq_false hb;have hlt:k < s.length:=by omega
 have hkl:(k:Int) < ((s.length:Nat):Int):=by omega
 have hget:s.getD ((k:Int)).toNat 0=s[k]:=zaM hlt;rw[zI hlt]at hR;simp only[]at hR;apply zab;refine za (za ?_);refine zaa hX zco rfl ?_ ?_
 ·repeat'(first|exact trivial|assumption|exact m0|exact hkl|(refine⟨?_,?_⟩)|(intro _)|exact zb rfl|exact zn _|(simp_all [allP];done))
 refine zam (σ':=⟨[(0,⟨.str,s⟩),(1,⟨i64,(k:Int)⟩),(4,⟨.optr rtk,⟨0,rtk,.here⟩⟩),(5,⟨u8,s[k]⟩)],[(0,some (.box rtk zRt))],1⟩) ⟨⟨rfl,rfl,rfl,by rw[<-hget];rfl,trivial⟩,⟨rfl,trivial⟩,rfl,rfl⟩ ?_;obtain⟨c,hc⟩:∃ c,s[k]=c:=⟨_,rfl⟩;rw[hc]at hR;rw[hc];have t0:s.length≤2000000:=hl;have t1:((k:Int)).toNat≤s.length:=by omega
 refine za (za ?_);refine zaa hX zco rfl ?_ ?_
 ·trivial
 refine zaf rfl (fun h1=>?_) (fun h1=>?_)
 ·have h1:isLt c=true:=h1;rw[if_pos h1]at hR;have hsp:=zdS isPt (s.drop k);rw[ya]at hsp;have t2:(k:Int)≤(k:Int)+(zaD isPt (s.drop ((k:Int)).toNat):Nat):=by omega
  have t3:(k:Int)+(zaD isPt (s.drop ((k:Int)).toNat):Nat)≤((s.length:Nat):Int):=by rw[zy];omega
  refine za (za ?_);refine zaa hX zco rfl ?_ ?_
  ·repeat'(first|exact trivial|assumption|exact t0|exact t1|exact m0|exact t2|exact t3|(refine⟨?_,?_⟩)|(intro _)|exact zb rfl|exact zn _|(simp_all [allP];done))
  refine zm ⟨.inr rfl,zas rfl trivial rfl rfl ?_⟩;show ((1:Int),(k:Int),(s.take ((k:Int)+(zaD isPt (s.drop ((k:Int)).toNat):Nat)).toNat).drop ((k:Int)).toNat,(0:Int),())=zck s ((a:Nat):Int);rw[hR,zy,show ((k:Int)+((zaD isPt (s.drop k):Nat):Int)).toNat=k+zaD isPt (s.drop k) by omega,zgv,zI hlt,hc]
 have h1:isLt c=false:=h1;rw[if_neg (by rw[h1];decide)]at hR;apply zab;have hq1:s.drop (k+1)=[]∨∃ hl1:k+1 < s.length,(s.drop (k+1)).head? =some s[k+1]:=by
  by_cases h:k+1 < s.length
  ·exact .inr ⟨h,by rw[List.head?_drop,zT h]⟩
  ·exact .inl (qn (by omega))
 have k1:inR .i64 ((k:Int)+1):=zaq (by omega) (by omega);have k2:(0:Int)≤(k:Int)+1:=by omega
 have n1:(((k:Int)+1)).toNat=k+1:=by omega
 have hnx:∀ p:UInt8->Bool,(bif decide ((k:Int)+1 < ((s.length:Nat):Int)) then p (s.getD (((k:Int)+1)).toNat 0) else false)=(s.drop (k+1)).head?.any p:=fun p=>by
  rcases hq1 with h|⟨hl1,h⟩
  ·rw[h,decide_eq_false (by have:=congrArg zf h;rw[ya,zX]at this;omega)];rfl
  ·rw[h,decide_eq_true (by omega),n1,zR,zT hl1];rfl
 apply zae;refine yO (σ':=⟨[(0,⟨.str,s⟩),(1,⟨i64,(k:Int)⟩),(4,⟨.optr rtk,⟨0,rtk,.here⟩⟩),(5,⟨u8,c⟩),(53,⟨.bool,(c==64)&&(s.drop (k+1)).head?.any isLt⟩)],[(0,some (.box rtk zRt))],1⟩) ?_ ?_
 ·refine za (za ?_);refine zaa hX zco rfl ?_ ?_
  ·generalize (((yn c:Nat):Int)==(((yr (v7 64)).toNat:Nat):Int))=b;generalize hd:decide ((k:Int)+1 < ((s.length:Nat):Int))=d;cases b<;>cases d<;>repeat'(first|exact trivial|exact k1|exact k2|(have:=of_decide_eq_true hd;exact this)|rfl|(intro h;cases h;done)|(intro _)|(refine⟨?_,?_⟩))
  refine⟨⟨rfl,rfl,rfl,rfl,zbz ?_,trivial⟩,⟨rfl,trivial⟩,rfl,rfl⟩;show (bif (bif (((yn c:Nat):Int)==((yn 64:Nat):Int)) then decide ((k:Int)+1 < ((s.length:Nat):Int)) else false) then isLt (s.getD (((k:Int)+1)).toNat 0) else false)=_;rw[<-hnx,u8eq];cases c==64<;>rfl
 have w0':s.length≤2000000:=hl;have w1:(((k:Int)+1)).toNat≤s.length:=by omega
 have g1:(0:Int)≤(k:Int):=m0;refine zaf rfl (fun hb2=>?_) (fun hb2=>?_)
 ·have hb2:((c==64)&&(s.drop (k+1)).head?.any isLt)=true:=hb2;rw[zd,beq_iff_eq]at hb2;rw[if_pos hb2]at hR;have hsp:=zdS isPt (s.drop (k+1));rw[ya]at hsp;have hk1:k+1≤s.length:=by omega
  have t2:(k:Int)+1≤(k:Int)+1+(zaD isPt (s.drop (((k:Int)+1)).toNat):Nat):=by omega
  have t3:(k:Int)+1+(zaD isPt (s.drop (((k:Int)+1)).toNat):Nat)≤((s.length:Nat):Int):=by rw[n1];omega
  refine za (za ?_);refine zaa hX zco rfl ?_ ?_
  ·repeat'(first|exact trivial|assumption|exact k1|exact k2|exact w0'|exact w1|exact t2|exact t3|(refine⟨?_,?_⟩)|(intro _)|exact zb rfl|exact zn _|(simp_all [allP];done))
  refine zm ⟨.inr rfl,zas rfl trivial rfl rfl ?_⟩;show ((2:Int),(k:Int),(s.take ((k:Int)+1+(zaD isPt (s.drop (((k:Int)+1)).toNat):Nat)).toNat).drop (((k:Int)+1)).toNat,(0:Int),())=zck s ((a:Nat):Int);rw[hR,n1,show ((k:Int)+1+((zaD isPt (s.drop (k+1)):Nat):Int)).toNat=k+1+zaD isPt (s.drop (k+1)) by omega,zgv]
 have hb2:((c==64)&&(s.drop (k+1)).head?.any isLt)=false:=hb2;rw[if_neg (by rw[<-beq_iff_eq (a:=c), <-zd,hb2];decide)]at hR;apply zab;apply zae;refine yO (σ':=⟨[(0,⟨.str,s⟩),(1,⟨i64,(k:Int)⟩),(4,⟨.optr rtk,⟨0,rtk,.here⟩⟩),(5,⟨u8,c⟩),(83,⟨.bool,isDg c||((c==45)&&(s.drop (k+1)).head?.any isDg)⟩)],[(0,some (.box rtk zRt))],1⟩) ?_ ?_
 ·refine za (za ?_);refine zaa hX zco rfl ?_ ?_
  ·generalize (zef isDg).out (c,())=e;generalize (((yn c:Nat):Int)==(((yr (v7 45)).toNat:Nat):Int))=b;generalize hd:decide ((k:Int)+1 < ((s.length:Nat):Int))=d;cases e<;>cases b<;>cases d<;>repeat'(first|exact trivial|exact k1|exact k2|(have:=of_decide_eq_true hd;exact this)|rfl|(intro h;cases h;done)|(intro _)|(refine⟨?_,?_⟩))
  refine⟨⟨rfl,rfl,rfl,rfl,zbz ?_,trivial⟩,⟨rfl,trivial⟩,rfl,rfl⟩;show (bif isDg c then true else (bif (bif (((yn c:Nat):Int)==((yn 45:Nat):Int)) then decide ((k:Int)+1 < ((s.length:Nat):Int)) else false) then isDg (s.getD (((k:Int)+1)).toNat 0) else false))=_;rw[<-hnx,u8eq];cases isDg c<;>cases c==45<;>rfl
 refine zaf rfl (fun hb3=>?_) (fun hb3=>?_)
 ·have hb3:(isDg c||((c==45)&&(s.drop (k+1)).head?.any isDg))=true:=hb3;rw[zJ,zd,beq_iff_eq]at hb3;rw[if_pos hb3]at hR;have hnf:numF s ((k:Int)).toNat < s.length:=by
   show numF s k < s.length;unfold numF;split
   ·rename_i h45;rw[zI hlt,List.head?_cons,beq_iff_eq]at h45;have h45:c=45:=hc.symm.trans (zx h45);rcases hb3 with h|⟨_,h⟩
    ·rw[h45]at h;exact absurd h (by decide)
    ·rcases hq1 with e|⟨hl1,_⟩
     ·rw[e]at h;cases h
     ·exact hl1
   ·exact hlt
  have t4:((k:Int)).toNat < s.length:=by omega
  refine za (za ?_);refine zaa hX zco rfl ?_ ?_
  ·repeat'(first|exact trivial|assumption|exact w0'|exact m0|exact t4|exact hnf|(refine⟨?_,?_⟩)|(intro _)|exact zb rfl|exact zn _|(simp_all [allP];done))
  refine zm ⟨.inr rfl,zas rfl trivial rfl rfl ?_⟩;show zcu (k:Int) (s.drop ((k:Int)).toNat)=zck s ((a:Nat):Int);rw[hR,zy,zI hlt,hc]
 have hb3:(isDg c||((c==45)&&(s.drop (k+1)).head?.any isDg))=false:=hb3;rw[if_neg (by rw[<-beq_iff_eq (a:=c), <-zd, <-zJ,hb3];decide)]at hR;apply zab;have u1:(k:Int)≤(k:Int)+1:=by omega
 have u2:(k:Int)+1≤((s.length:Nat):Int):=by omega
 have hcut:(s.take (((k:Int)+1)).toNat).drop ((k:Int)).toNat=[c]:=by
  rw[n1,zy,x9,zI hlt,show k+1 - k=1 by omega,hc];rfl
 refine za (za ?_);refine zaa hX zco rfl ?_ ?_
 ·repeat'(first|exact trivial|assumption|(refine⟨?_,?_⟩)|(intro _)|exact zb rfl|exact zn _|(simp_all [allP];done))
 have hq4:(bif (bif (((yn c:Nat):Int)==((yn 40:Nat):Int)) then true else (((yn c:Nat):Int)==((yn 41:Nat):Int))) then true else (((yn c:Nat):Int)==((yn 61:Nat):Int)))=decide (c=40∨c=41∨c=61):=by
  simp only[zev,u8eq];rw[yb,zJ,zJ,beq_iff_eq,beq_iff_eq,beq_iff_eq,decide_eq_true_iff,or_assoc]
 refine zaf rfl (fun hb4=>?_) (fun hb4=>?_)
 ·have hb4:=of_decide_eq_true (hq4.symm.trans hb4);rw[if_pos hb4]at hR;refine za (za ?_);refine zaa hX zco rfl ?_ ?_
  ·exact⟨k1,m0,u1,u2⟩
  refine zm ⟨.inr rfl,zas rfl trivial rfl rfl ?_⟩;show ((4:Int),(k:Int),(s.take (((k:Int)+1)).toNat).drop ((k:Int)).toNat,(0:Int),())=zck s ((a:Nat):Int);rw[hR,hcut]
 ·have hb4:=of_decide_eq_false (hq4.symm.trans hb4);rw[if_neg hb4]at hR;apply zab;refine za (za ?_);refine zaa hX zco rfl ?_ ?_
  ·exact⟨k1,m0,u1,u2⟩
  refine zm ⟨.inr rfl,zas rfl trivial rfl rfl ?_⟩;show ((5:Int),(k:Int),(s.take (((k:Int)+1)).toNat).drop ((k:Int)).toNat,(0:Int),())=zck s ((a:Nat):Int);rw[hR,hcut]
def P7 (p:RSt):Prop:=(zf p.1≤2000000∧0≤RTk.at p.t∧RTk.at p.t+((yc p.t).length:Nat)+(if zt p.t=2 then 1 else 0)≤((zf p.1:Nat):Int))∧(-1125899906842624≤yG p.t∧yG p.t≤1125899906842624)∧(zt p.t≠0->1≤(((yc p.t).length:Nat):Int)+(if zt p.t=2 then 1 else 0))
theorem zou {T:Tbl} {rs:List ResultVar} {σ:AS} (h:rs=[]):Done T rs σ none .unit ():=by
 subst h;exact⟨by decide,rfl,[],rfl,trivial⟩
theorem boxP {p q:RSt} (h:p=q):some (OObj.box rps p)=some (OObj.box rps q):=by rw[h]
def ziv:RCtr:={ self:=rps,args:=[i64],inv:=fun _ _=>True,pre:=fun _ _=>[],res:=.unit,out:=fun _ _=>(),post:=fun p xs=>zat p xs.1 }
theorem zfb:zbF Tryz.prog gmG 84 ziv:=by
 refine za4 (K:=gmK) zaC Tryz.func84 rfl rfl Tryz.call84 rfl (by decide) (fun w w' g hg h hk=>trivial) ?_;rintro w0 O g hX hinv ⟨(s:List UInt8),⟨(k:Int),(a:Int),(t:List UInt8),(n:Int),_⟩,(nd:Int),(e:Int),(at':Int),_⟩ ⟨(c:Int),_⟩ hp;change AWP _ _ _ _ _ ⟨[(0,⟨.optr rps,⟨0,rps,.here⟩⟩),(1,⟨i64,c⟩)],[(0,some (.box rps (s,(k,a,t,n,()),nd,e,at',())))],1⟩ _;refine za (za ?_);refine zaa hX zaC rfl ?_ ?_
 ·trivial
 refine zaf rfl (fun hb=>?_) (fun hb=>?_)
 ·have hb:e=0:=eq_of_beq hb;subst hb;refine za (za ?_);refine zaa hX zaC rfl ?_ ?_
  ·trivial
  refine za (za ?_);refine zaa hX zaC rfl ?_ ?_
  ·trivial
  exact⟨.inl rfl,rfl,zou rfl⟩
 ·have hb:(e==0)=false:=hb;refine zab ⟨.inl rfl,boxP ?_,zou rfl⟩;exact (if_neg (ne_of_beq_false hb)).symm
theorem zpw {p:RSt} (h:p.e=0):zbB p=(p.1,zck p.1 (RTk.at p.t+((yc p.t).length:Nat)+(if zt p.t=2 then 1 else 0)),p.2.2):=if_pos h
def zlA:RCtr:={ self:=rps,args:=[],inv:=fun _ _=>True,pre:=fun p _=>[P7 p],res:=.unit,out:=fun _ _=>(),post:=fun p _=>zbB p }
def kNx7:Kn:={ gmK with C:=[(82,zs8)] }
theorem zeq:KnOk Tryz.prog gmG kNx7:=zaC.with (.cons zro .nil)
theorem zhn:zbF Tryz.prog gmG 90 zlA:=by
 refine za4 (K:=kNx7) zeq Tryz.func90 rfl rfl Tryz.call90 rfl (by decide) (fun w w' g hg h hk=>trivial) ?_;rintro w0 O g hX hinv ⟨(s:List UInt8),⟨(k:Int),(a:Int),(t:List UInt8),(n:Int),_⟩,(nd:Int),(e:Int),(at':Int),_⟩ _ hp;obtain⟨hl,h0,h1⟩:s.length≤2000000∧0≤a∧a+(t.length:Nat)+(if k=2 then 1 else 0)≤((s.length:Nat):Int):=hp.1;change AWP _ _ _ _ _ ⟨[(0,⟨.optr rps,⟨0,rps,.here⟩⟩)],[(0,some (.box rps (s,(k,a,t,n,()),nd,e,at',())))],1⟩ _;refine za (za ?_);refine zaa hX zeq rfl ?_ ?_
 ·trivial
 refine zaf rfl (fun hb=>?_) (fun hb=>?_)
 ·have hb:(e != 0)=true:=hb;refine zm ⟨.inr rfl,boxP ?_,zou rfl⟩;exact (if_neg (bne_iff_ne.1 hb)).symm
 have hb:(e != 0)=false:=hb;have he:e=0:=bne_eq_false_iff_eq.1 hb;subst he;apply zab;refine za (za ?_);refine zaa hX zeq rfl ?_ ?_
 ·trivial
 obtain⟨L,hL⟩:∃ L:Int,L=(t.length:Nat)+(if k=2 then 1 else 0):=⟨_,rfl⟩;have hL2:0≤L∧a+L≤((s.length:Nat):Int):=by
  rw[hL];split at h1
  ·rename_i hk;rw[if_pos hk];omega
  ·rename_i hk;rw[if_neg hk];omega
 refine yO (σ':=⟨[(0,⟨.optr rps,⟨0,rps,.here⟩⟩),(2,⟨i64,L⟩)],[(0,some (.box rps (s,(k,a,t,n,()),nd,0,at',())))],1⟩) ?_ ?_
 ·refine za (za ?_);refine zaa hX zeq rfl ?_ ?_
  ·trivial
  refine zaf rfl (fun hk=>?_) (fun hk=>?_)
  ·have hk:k=2:=eq_of_beq hk;rw[if_pos hk]at hL;have q:inR .i64 (((t.length:Nat):Int)+1):=zaq (by omega) (by omega);refine za (za ?_);refine zaa hX zeq rfl ?_ ?_
   ·exact q
   exact⟨⟨rfl,vI64 (show ((t.length:Nat):Int)+1=L by omega),trivial⟩,⟨rfl,trivial⟩,rfl,rfl⟩
  ·have hk:k≠2:=ne_of_beq_false hk;rw[if_neg hk]at hL;apply zab;exact⟨⟨rfl,vI64 (show ((t.length:Nat):Int)=L by omega),trivial⟩,⟨rfl,trivial⟩,rfl,rfl⟩
 have q1:inR .i64 (a+L):=zaq (by omega) (by omega);have q2:0≤a+L:=by omega
 have q3:(a+L).toNat≤s.length:=by omega
 (repeat(first|apply zae|apply zab|apply zac|apply zad));refine v8 dM hX zeq 13 (by kernel_rfl) rfl rfl ?_ ?_ ?_
 ·repeat'(first|exact trivial|assumption|exact q1|exact q2|exact q3|exact hl|(refine⟨?_,?_⟩)|(intro _)|exact zb rfl|exact zn _|(simp_all [allP];done))
 ·repeat'(first|exact trivial|assumption|(refine⟨?_,?_⟩)|(intro _)|exact zb rfl|exact zn _|(simp_all [allP];done))
 refine⟨.inl rfl,boxP ?_,zou rfl⟩;refine Eq.trans ?_ (zpw (p:=(s,(k,a,t,n,()),nd,0,at',())) rfl).symm;show (s,zck s (a+L),nd,(0:Int),at',())=(s,zck s (a+(t.length:Nat)+(if k=2 then 1 else 0)),nd,(0:Int),at',());rw[hL,kI]
def cIs7:RCtr:={ self:=rps,args:=[.str],inv:=fun _ _=>True,pre:=fun _ _=>[],res:=.bool,out:=fun p xs=>rIs p xs.1,post:=fun p _=>p }
theorem zng:zbF Tryz.prog gmG 143 cIs7:=by
 refine za4 (K:=gmK) zaC Tryz.func143 rfl rfl Tryz.call143 rfl (by decide) (fun w w' g hg h hk=>trivial) ?_;rintro w0 O g hX hinv ⟨(s:List UInt8),⟨(k:Int),(a:Int),(t:List UInt8),(n:Int),_⟩,(nd:Int),(e:Int),(at':Int),_⟩ ⟨(c:List UInt8),_⟩ hp;change AWP _ _ _ _ _ ⟨[(0,⟨.optr rps,⟨0,rps,.here⟩⟩),(1,⟨.str,c⟩)],[(0,some (.box rps (s,(k,a,t,n,()),nd,e,at',())))],1⟩ _;refine za (za ?_);refine zaa hX zaC rfl ?_ ?_
 ·trivial
 refine za (za ?_);refine zaa hX zaC rfl ?_ ?_
 ·repeat'(first|exact trivial|assumption|(refine⟨?_,?_⟩)|(intro _)|exact zb rfl|exact zn _|(simp_all [allP];done))
 refine zm ⟨.inr rfl,rfl,zas rfl trivial rfl rfl ?_⟩;show (bif (bif (e==0) then (bif (k==1) then true else (k==4)) else false) then eqb .str t c else false)=((e==0)&&((k==1)||(k==4))&&decide (t=c));rw[zc2,zc2,b_or,zcw]
theorem rIs_e {p:RSt} {w:List UInt8} (h:rIs p w=true):p.e=0:=by
 unfold rIs at h;rw[zd,zd,beq_iff_eq]at h;exact h.1.1
theorem zki {p:RSt} (h:P7 p) (e:Int):P7 (zat p e):=by
 unfold zat;split
 ·exact h
 ·exact h
def hR7a:List (FuncId×RCtr):=[(143,cIs7),(84,ziv),(90,zlA)]
def k7a:Kn:={ gmK with R:=hR7a }
theorem zc4:KnOk Tryz.prog gmG k7a:=zaC.withR (.cons zng (fun _ _=>trivial) <| .cons zfb (fun _ _=>trivial) <| .cons zhn (fun _ _=>trivial) .nil)
def zlB:RCtr:={ self:=rps,args:=[.str],inv:=fun _ _=>True,pre:=fun p _=>[P7 p],res:=.unit,out:=fun _ _=>(),post:=fun p xs=>zb5 p xs.1 }
theorem zho:zbF Tryz.prog gmG 91 zlB:=by
 refine za4 (K:=k7a) zc4 Tryz.func91 rfl rfl Tryz.call91 rfl (by decide) (fun w w' g hg h hk=>trivial) ?_;rintro w0 O g hX hinv (p:RSt) ⟨(c:List UInt8),_⟩ hp;have hp:P7 p:=hp;change AWP _ _ _ _ _ ⟨[(0,⟨.optr rps,⟨0,rps,.here⟩⟩),(1,⟨.str,c⟩)],[(0,some (.box rps p))],1⟩ _;refine za (za ?_);refine zaa hX zc4 rfl ?_ ?_
 ·trivial
 refine xM (σ':=⟨[(0,⟨.optr rps,⟨0,rps,.here⟩⟩),(1,⟨.str,c⟩)],[(0,some (.box rps (if rIs p c then p else zat p 3)))],1⟩) ?_ ?_
 ·refine zaf rfl (fun hb=>?_) (fun hb=>?_)
  ·have hb:(!rIs p c)=true:=hb;rw[zs]at hb;refine za (za ?_);refine zaa hX zc4 rfl ?_ ?_
   ·trivial
   exact⟨⟨rfl,rfl,trivial⟩,⟨boxP (by rw[if_neg (by rw[hb];decide)];rfl),trivial⟩,rfl,rfl⟩
  ·have hb:(!rIs p c)=false:=hb;rw[yC]at hb;exact zab ⟨⟨rfl,rfl,trivial⟩,⟨boxP (by rw[if_pos hb];rfl),trivial⟩,rfl,rfl⟩
 have hq:P7 (if rIs p c then p else zat p 3):=by
  split
  ·exact hp
  ·exact zki hp 3
 refine za (za ?_);refine zaa hX zc4 rfl ?_ ?_
 ·exact hq
 exact⟨.inl rfl,rfl,zou rfl⟩
def zix:RCtr:={ self:=rps,args:=[],inv:=fun _ _=>True,pre:=fun p _=>[P7 p,0≤um p,um p≤1000000],res:=.unit,out:=fun _ _=>(),post:=fun p _=>zaz p }
theorem zgq:zbF Tryz.prog gmG 144 zix:=by
 refine za4 (K:=k7a) zc4 Tryz.func144 rfl rfl Tryz.call144 rfl (by decide) (fun w w' g hg h hk=>trivial) ?_;rintro w0 O g hX hinv (p:RSt) _ hp;obtain⟨hp,h0,h1⟩:P7 p∧0≤p.nodes∧p.nodes≤1000000:=hp;change AWP _ _ _ _ _ ⟨[(0,⟨.optr rps,⟨0,rps,.here⟩⟩)],[(0,some (.box rps p))],1⟩ _;refine za (za ?_);refine zaa hX zc4 rfl ?_ ?_
 ·trivial
 refine xM (σ':=⟨[(0,⟨.optr rps,⟨0,rps,.here⟩⟩)],[(0,some (.box rps (if 64≤p.nodes then zat p 2 else p)))],1⟩) ?_ ?_
 ·refine zaf rfl (fun hb=>?_) (fun hb=>?_)
  ·have hb:decide (p.nodes≥64)=true:=hb;have hb:=of_decide_eq_true hb;refine za (za ?_);refine zaa hX zc4 rfl ?_ ?_
   ·trivial
   exact⟨⟨rfl,trivial⟩,⟨boxP (by rw[if_pos (by omega)];rfl),trivial⟩,rfl,rfl⟩
  ·have hb:decide (p.nodes≥64)=false:=hb;have hb:=of_decide_eq_false hb;exact zab ⟨⟨rfl,trivial⟩,⟨boxP (by rw[if_neg (by omega)]),trivial⟩,rfl,rfl⟩
 have hq:P7 (if 64≤p.nodes then zat p 2 else p)∧(if 64≤p.nodes then zat p 2 else p).nodes=p.nodes:=by
  split
  ·refine⟨zki hp 2,?_⟩;unfold zat;split<;>rfl
  ·exact⟨hp,rfl⟩
 have hB:zaz p=zbB (zd7 (if 64≤p.nodes then zat p 2 else p)):=rfl;obtain⟨hq,hn⟩:=hq;generalize (if 64≤p.nodes then zat p 2 else p)=q at *;have i1:inR .i64 (q.nodes+1):=zaq (by omega) (by omega);refine za (za ?_);refine zaa hX zc4 rfl ?_ ?_
 ·exact i1
 refine zam (σ':=⟨[(0,⟨.optr rps,⟨0,rps,.here⟩⟩)],[(0,some (.box rps (zd7 q)))],1⟩) ⟨⟨rfl,trivial⟩,⟨rfl,trivial⟩,rfl,rfl⟩ ?_;have hq2:P7 (zd7 q):=hq;refine za (za ?_);refine zaa hX zc4 rfl ?_ ?_
 ·exact hq2
 exact⟨.inl rfl,boxP hB.symm,zou rfl⟩
def zly:RCtr:={ self:=rps,args:=[i64,i64],inv:=fun _ _=>True,pre:=fun p _=>[P7 p],res:=i64,out:=fun p xs=>(zaF p xs.1 xs.2.1).1,post:=fun p xs=>(zaF p xs.1 xs.2.1).2 }
theorem ze6:zbF Tryz.prog gmG 213 zly:=by
 refine za4 (K:=k7a) zc4 Tryz.func213 rfl rfl Tryz.call213 rfl (by decide) (fun w w' g hg h hk=>trivial) ?_;rintro w0 O g hX hinv (p:RSt) ⟨(lo:Int),(hi:Int),_⟩ hp;have hp:P7 p:=hp;change AWP _ _ _ _ _ ⟨[(0,⟨.optr rps,⟨0,rps,.here⟩⟩),(1,⟨i64,lo⟩),(2,⟨i64,hi⟩)],[(0,some (.box rps p))],1⟩ _;refine za (za ?_);refine zaa hX zc4 rfl ?_ ?_
 ·trivial
 refine za (za ?_);refine zaa hX zc4 rfl ?_ ?_
 ·trivial
 refine zam (σ':=⟨[(0,⟨.optr rps,⟨0,rps,.here⟩⟩),(1,⟨i64,lo⟩),(2,⟨i64,hi⟩),(7,⟨i64,yG p.t⟩)],[(0,some (.box rps p))],1⟩) ⟨⟨rfl,rfl,rfl,rfl,trivial⟩,⟨rfl,trivial⟩,rfl,rfl⟩ ?_;obtain⟨n,hn⟩:∃ n,yG p.t=n:=⟨_,rfl⟩;rw[hn];refine za (za ?_);refine zaa hX zc4 rfl ?_ ?_
 ·trivial
 refine xM (σ':=⟨[(0,⟨.optr rps,⟨0,rps,.here⟩⟩),(1,⟨i64,lo⟩),(2,⟨i64,hi⟩),(7,⟨i64,n⟩)],[(0,some (.box rps (if zt p.t=3 then p else zat p 3)))],1⟩) ?_ ?_
 ·refine zaf rfl (fun hb=>?_) (fun hb=>?_)
  ·have hb:(zt p.t != 3)=true:=hb;refine za (za ?_);refine zaa hX zc4 rfl ?_ ?_
   ·trivial
   exact⟨⟨rfl,rfl,rfl,rfl,trivial⟩,⟨boxP (by rw[if_neg (bne_iff_ne.1 hb)];rfl),trivial⟩,rfl,rfl⟩
  ·have hb:(zt p.t != 3)=false:=hb;exact zab ⟨⟨rfl,rfl,rfl,rfl,trivial⟩,⟨boxP (by rw[if_pos (bne_eq_false_iff_eq.1 hb)]),trivial⟩,rfl,rfl⟩
 have hq:P7 (if zt p.t=3 then p else zat p 3):=by
  split
  ·exact hp
  ·exact zki hp 3
 have hR:zaF p lo hi=(n,zbB (if n < lo∨hi < n then zat (if zt p.t=3 then p else zat p 3) 1 else (if zt p.t=3 then p else zat p 3))):=by
  unfold zaF;rw[hn]
 generalize (if zt p.t=3 then p else zat p 3)=q at *;refine za (za ?_);refine zaa hX zc4 rfl ?_ ?_
 ·repeat'(first|exact trivial|assumption|(refine⟨?_,?_⟩)|(intro _)|exact zb rfl|exact zn _|(simp_all [allP];done))
 have hc:(bif decide (n < lo) then true else decide (n > hi))=decide (n < lo∨hi < n):=by
  rw[b_or,yb,zJ,decide_eq_true_iff,decide_eq_true_iff,decide_eq_true_iff]
 refine xM (σ':=⟨[(0,⟨.optr rps,⟨0,rps,.here⟩⟩),(7,⟨i64,n⟩)],[(0,some (.box rps (if n < lo∨hi < n then zat q 1 else q)))],1⟩) ?_ ?_
 ·refine zaf rfl (fun hb=>?_) (fun hb=>?_)
  ·have hb:=of_decide_eq_true (hc.symm.trans hb);refine za (za ?_);refine zaa hX zc4 rfl ?_ ?_
   ·trivial
   exact⟨⟨rfl,rfl,trivial⟩,⟨boxP (by rw[if_pos hb];rfl),trivial⟩,rfl,rfl⟩
  ·have hb:=of_decide_eq_false (hc.symm.trans hb);exact zab ⟨⟨rfl,rfl,trivial⟩,⟨boxP (by rw[if_neg hb]),trivial⟩,rfl,rfl⟩
 have hq2:P7 (if n < lo∨hi < n then zat q 1 else q):=by
  split
  ·exact zki hq 1
  ·exact hq
 refine za (za ?_);refine zaa hX zc4 rfl ?_ ?_
 ·exact hq2
 refine za (za ?_);refine zaa hX zc4 rfl ?_ ?_
 ·trivial
 refine zm ⟨.inr rfl,boxP ?_,zas rfl trivial rfl rfl ?_⟩
 ·exact (congrArg (fun x=>x.2) hR).symm
 ·exact (congrArg (fun x=>x.1) hR).symm
set_option maxRecDepth 10000
theorem zhz {p:UInt8->Bool} {c:UInt8} {q:List UInt8} (h:p c=true):1≤((c::q).takeWhile p).length:=by
 rw[yE,h];exact Nat.succ_le_succ (zk _)
theorem ze2 (p:UInt8->Bool) (q:List UInt8):(q.takeWhile p).length≤q.length:=(yq p).length_le
def rSz (t:RTk):Int:=((yc t).length:Nat)+(if zt t=2 then 1 else 0)
theorem zhg {s:List UInt8} {o:Int} (h0:0≤o) (h1:o≤((s.length:Nat):Int)):o≤RTk.at (zck s o)∧RTk.at (zck s o)+rSz (zck s o)≤((s.length:Nat):Int)∧(zt (zck s o)≠0->1≤rSz (zck s o)):=by
 obtain⟨a,rfl⟩:∃ a:Nat,o=(a:Int):=⟨o.toNat,by omega⟩;have hsp:=zdS isWh (s.drop a);rw[ya]at hsp;unfold zck;rw[zy,zed,xm];generalize hu:s.drop (a+zaD isWh (s.drop a))=u;have hul:u.length=s.length - (a+zaD isWh (s.drop a)):=by rw[<-hu,ya]
 generalize zaD isWh (s.drop a)=k at *;cases u with
 |nil=>
  refine⟨h1,?_,fun h=>absurd rfl h⟩;show ((s.length:Nat):Int)+(((0:Nat):Int)+0)≤_;omega
 |cons c q=>
  rw[zr]at hul;simp only[];split
  ·rename_i hc;have e1:=zhz (q:=q) (zjR c hc).1;have e2:=ze2 isPt (c::q);rw[zr]at e2;show (a:Int)≤(a:Int)+(k:Nat)∧(a:Int)+(k:Nat)+((((c::q).takeWhile isPt).length:Nat)+0)≤_∧(_->1≤((((c::q).takeWhile isPt).length:Nat):Int)+0);exact⟨by omega,by omega,fun _=>by omega⟩
  ·split
   ·rename_i hc;have e2:=ze2 isPt q;show (a:Int)≤(a:Int)+(k:Nat)∧(a:Int)+(k:Nat)+(((q.takeWhile isPt).length:Nat)+1)≤_∧(_->1≤(((q.takeWhile isPt).length:Nat):Int)+1);exact⟨by omega,by omega,fun _=>by omega⟩
   ·split
    ·rename_i hc;unfold zcu;have hk:∀ (P:Prop) [Decidable P] (x:Int×List UInt8×Int×Unit),zt (if P then 5 else 3,x)≠2:=fun P _ x=>by
      show (if P then (5:Int) else 3)≠2;split<;>decide
     by_cases hn:((c::q).head? ==some 45)=true
     ·rw[hn];have e2:=ze2 isDg q;show (a:Int)≤(a:Int)+(k:Nat)∧(a:Int)+(k:Nat)+((((45::q.takeWhile isDg).length:Nat):Int)+(if zt _=2 then 1 else 0))≤_∧(_->1≤(((45::q.takeWhile isDg).length:Nat):Int)+(if zt _=2 then 1 else 0));rw[if_neg (hk _ _),zr];exact⟨by omega,by omega,fun _=>by omega⟩
     ·have hn2:((c::q).head? ==some 45)=false:=by simpa using hn
      have hd:isDg c=true:=by
       rcases hc with h|⟨h,_⟩
       ·exact h
       ·exact absurd (by rw[h];rfl) hn
      rw[hn2];have e1:=zhz (q:=q) hd;have e2:=ze2 isDg (c::q);rw[zr]at e2;show (a:Int)≤(a:Int)+(k:Nat)∧(a:Int)+(k:Nat)+(((((c::q).takeWhile isDg).length:Nat):Int)+(if zt _=2 then 1 else 0))≤_∧(_->1≤((((c::q).takeWhile isDg).length:Nat):Int)+(if zt _=2 then 1 else 0));rw[if_neg (hk _ _)];exact⟨by omega,by omega,fun _=>by omega⟩
    ·split
     ·show (a:Int)≤(a:Int)+(k:Nat)∧(a:Int)+(k:Nat)+(((1:Nat):Int)+0)≤_∧(_->1≤((1:Nat):Int)+0);exact⟨by omega,by omega,fun _=>by omega⟩
     ·show (a:Int)≤(a:Int)+(k:Nat)∧(a:Int)+(k:Nat)+(((1:Nat):Int)+0)≤_∧(_->1≤((1:Nat):Int)+0);exact⟨by omega,by omega,fun _=>by omega⟩
theorem nB7 {b:Bool} {x:Nat} (h:x≤1125899906842624): -1125899906842624≤(if b=true then -((x:Nat):Int) else ((x:Nat):Int))∧(if b=true then -((x:Nat):Int) else ((x:Nat):Int))≤1125899906842624:=by split<;>omega
theorem zpt (s:List UInt8) (o:Int): -1125899906842624≤yG (zck s o)∧yG (zck s o)≤1125899906842624:=by
 have hz: -1125899906842624≤(0:Int)∧(0:Int)≤1125899906842624:=by decide
 unfold zck;split
 ·exact hz
 ·simp only[];split
  ·exact hz
  ·split
   ·exact hz
   ·split
    ·unfold zcu;exact nB7 (ztM _)
    ·split<;>exact hz
structure Go7 (p q:RSt):Prop where
 ok:P7 q
 s:q.1=p.1
 on:RTk.at p.t≤RTk.at q.t
 n:p.nodes≤q.nodes
 e:p.e≠0->q.e≠0
theorem Go7.refl {p:RSt} (h:P7 p):Go7 p p:=⟨h,rfl,yN _,yN _,id⟩
theorem Go7.trans {p q r:RSt} (h:Go7 p q) (h':Go7 q r):Go7 p r:=⟨h'.ok,h'.s.trans h.s,k7 h.on h'.on,k7 h.n h'.n,fun e=>h'.e (h.e e)⟩
theorem zaI {p:RSt} (h:P7 p) {e:Int}:Go7 p (zat p e)∧(zat p e).nodes=p.nodes∧(zat p e).t=p.t∧(e≠0->(zat p e).e≠0):=by
 unfold zat;split
 ·rename_i he;exact⟨⟨h,rfl,yN _,yN _,fun h=>absurd he h⟩,rfl,rfl,id⟩
 ·rename_i he;exact⟨Go7.refl h,rfl,rfl,fun _=>he⟩
theorem zcU {p:RSt} (h:P7 p):Go7 p (zbB p)∧(zbB p).nodes=p.nodes∧(zbB p).e=p.e∧(p.e=0->zt p.t≠0->RTk.at p.t < RTk.at (zbB p).t):=by
 obtain⟨⟨h1,h2,h3⟩,hn⟩:=h;unfold zbB;split
 ·rename_i he;have hz:0≤rSz p.t:=by unfold rSz;split<;>omega
  have e1:RTk.at p.t+((yc p.t).length:Nat)+(if zt p.t=2 then 1 else 0)=RTk.at p.t+rSz p.t:=by unfold rSz;omega
  rw[e1]at h3 ⊢;obtain⟨a1,a2,a3⟩:=zhg (s:=p.1) (o:=RTk.at p.t+rSz p.t) (by omega) h3;refine⟨⟨⟨⟨h1,by show 0≤RTk.at (zck _ _);omega,?_⟩,zpt _ _,a3⟩,rfl,by show _≤RTk.at (zck _ _);omega,yN _,fun h=>absurd he h⟩,rfl,rfl,fun _ h4=>by have h4:1≤rSz p.t:=hn.2 h4;show _ < RTk.at (zck _ _);omega⟩;show RTk.at (zck _ _)+((yc (zck _ _)).length:Nat)+(if zt (zck _ _)=2 then 1 else 0)≤((zf p.1:Nat):Int);rw[kI];exact a2
 ·rename_i he;exact⟨Go7.refl ⟨⟨h1,h2,h3⟩,hn⟩,rfl,rfl,fun h=>absurd h he⟩
theorem zen {p:RSt} (h:P7 p) {w:List UInt8}:Go7 p (zb5 p w)∧(zb5 p w).nodes=p.nodes:=by
 unfold zb5;split
 ·exact⟨(zcU h).1,(zcU h).2.1⟩
 ·obtain⟨a,b,_⟩:=zaI h (e:=3);obtain⟨c,d,_⟩:=zcU a.ok;exact⟨a.trans c,d.trans b⟩
theorem zaK {p:RSt} (h:P7 p) {lo hi:Int}:Go7 p (zaF p lo hi).2∧(zaF p lo hi).2.nodes=p.nodes:=by
 unfold zaF;simp only[];have h1:Go7 p (if zt p.t=3 then p else zat p 3)∧(if zt p.t=3 then p else zat p 3).nodes=p.nodes:=by
  split
  ·exact⟨Go7.refl h,rfl⟩
  ·exact⟨(zaI h).1,(zaI h).2.1⟩
 obtain⟨g1,n1⟩:=h1;generalize (if zt p.t=3 then p else zat p 3)=q at *;have h2:Go7 q (if yG p.t < lo∨hi < yG p.t then zat q 1 else q)∧(if yG p.t < lo∨hi < yG p.t then zat q 1 else q).nodes=q.nodes:=by
  split
  ·exact⟨(zaI g1.ok).1,(zaI g1.ok).2.1⟩
  ·exact⟨Go7.refl g1.ok,rfl⟩
 obtain⟨g2,n2⟩:=h2;obtain⟨c,d,_⟩:=zcU g2.ok;exact⟨(g1.trans g2).trans c,d.trans (n2.trans n1)⟩
def zuX:RCtr:={ self:=rps,args:=[],inv:=fun _ _=>True,pre:=fun p _=>[P7 p],res:=i64,out:=fun p _=>(rCal p).1,post:=fun p _=>(rCal p).2 }
def kCal7:Kn:={ gmK with R:=[(213,zly)] }
theorem zjU:KnOk Tryz.prog gmG kCal7:=zaC.withR (.cons ze6 (fun _ _=>trivial) .nil)
theorem zg7:zbF Tryz.prog gmG 215 zuX:=by
 refine za4 (K:=kCal7) zjU Tryz.func215 rfl rfl Tryz.call215 rfl (by decide) (fun w w' g hg h hk=>trivial) ?_;rintro w0 O g hX hinv (p:RSt) _ hp;have hp:P7 p:=hp;change AWP _ _ _ _ _ ⟨[(0,⟨.optr rps,⟨0,rps,.here⟩⟩)],[(0,some (.box rps p))],1⟩ _;refine za (za ?_);refine zaa hX zjU rfl ?_ ?_
 ·trivial
 refine za (za ?_);refine zaa hX zjU rfl ?_ ?_
 ·exact hp
 exact zm ⟨.inr rfl,rfl,zas rfl trivial rfl rfl rfl⟩
def zuU:RCtr:={ self:=rps,args:=[],inv:=fun _ _=>True,pre:=fun p _=>[P7 p],res:=i64,out:=fun p _=>(zbO p).1,post:=fun p _=>(zbO p).2 }
def k7b:Kn:={ gmK with R:=[(143,cIs7),(84,ziv),(90,zlA),(91,zlB),(213,zly)] }
theorem zbD:KnOk Tryz.prog gmG k7b:=zaC.withR (.cons zng (fun _ _=>trivial) <| .cons zfb (fun _ _=>trivial) <| .cons zhn (fun _ _=>trivial) <| .cons zho (fun _ _=>trivial) <| .cons ze6 (fun _ _=>trivial) .nil)
theorem ziZ:zbF Tryz.prog gmG 216 zuU:=by
 refine za4 (K:=k7b) zbD Tryz.func216 rfl rfl Tryz.call216 rfl (by decide) (fun w w' g hg h hk=>trivial) ?_;rintro w0 O g hX hinv (p:RSt) _ hp;have hp:P7 p:=hp;change AWP _ _ _ _ _ ⟨[(0,⟨.optr rps,⟨0,rps,.here⟩⟩)],[(0,some (.box rps p))],1⟩ _;refine za (za ?_);refine zaa hX zbD rfl ?_ ?_
 ·trivial
 refine za (za ?_);refine zaa hX zbD rfl ?_ ?_
 ·trivial
 refine zaf rfl (fun hb=>?_) (fun hb=>?_)
 ·have hb:rIs p zdv=true:=hb;refine za (za ?_);refine zaa hX zbD rfl ?_ ?_
  ·exact hp
  refine za (za ?_);refine zaa hX zbD rfl ?_ ?_
  ·trivial
  have hR:zbO p=(1,zbB p):=if_pos hb;exact zm ⟨.inr rfl,boxP (congrArg (fun x=>x.2) hR).symm,zas rfl trivial rfl rfl (congrArg (fun x=>x.1) hR).symm⟩
 ·have hb:rIs p zdv=false:=hb;have hR:zbO p=(0,zb5 p zfj):=if_neg (by rw[hb];decide);apply zab;refine za (za ?_);refine zaa hX zbD rfl ?_ ?_
  ·exact hp
  refine za (za ?_);refine zaa hX zbD rfl ?_ ?_
  ·trivial
  exact zm ⟨.inr rfl,boxP (congrArg (fun x=>x.2) hR).symm,zas rfl trivial rfl rfl (congrArg (fun x=>x.1) hR).symm⟩
theorem zm0 {p:RSt} (h:P7 p) {lo hi:Int} {l:List Int}:Go7 p (ziM p lo hi l).2∧(ziM p lo hi l).2.nodes=p.nodes∧(64≤l.length->(ziM p lo hi l).2.e≠0):=by
 unfold ziM;simp only[];have h1:Go7 p (if zt p.t=3 then p else zat p 3)∧(if zt p.t=3 then p else zat p 3).nodes=p.nodes:=by
  split
  ·exact⟨Go7.refl h,rfl⟩
  ·exact⟨(zaI h).1,(zaI h).2.1⟩
 obtain⟨g1,n1⟩:=h1;generalize (if zt p.t=3 then p else zat p 3)=q at *;have h2:Go7 q (if 64≤l.length then zat q 2 else q)∧(if 64≤l.length then zat q 2 else q).nodes=q.nodes∧(64≤l.length->(if 64≤l.length then zat q 2 else q).e≠0):=by
  split
  ·exact⟨(zaI g1.ok).1,(zaI g1.ok).2.1,fun _=>(zaI g1.ok).2.2.2 (by decide)⟩
  ·rename_i h64;exact⟨Go7.refl g1.ok,rfl,fun h=>absurd h h64⟩
 obtain⟨g2,n2,e2⟩:=h2;generalize (if 64≤l.length then zat q 2 else q)=q2 at *;have h3:Go7 q2 (if (l≠ []∧yG p.t≤l.getLast?.getD 0)∨(lo < 0∧yG p.t=0) then zat q2 1 else q2)∧(if (l≠ []∧yG p.t≤l.getLast?.getD 0)∨(lo < 0∧yG p.t=0) then zat q2 1 else q2).nodes=q2.nodes:=by
  split
  ·exact⟨(zaI g2.ok).1,(zaI g2.ok).2.1⟩
  ·exact⟨Go7.refl g2.ok,rfl⟩
 obtain⟨g3,n3⟩:=h3;obtain⟨c,d⟩:=zaK g3.ok (lo:=lo) (hi:=hi);exact⟨((g1.trans g2).trans g3).trans c,d.trans (n3.trans (n2.trans n1)),fun h=>c.e (g3.e (e2 h))⟩
def zmy:RCtr:={ self:=rps,args:=[i64,i64],inv:=fun _ _=>True,pre:=fun p xs=>[P7 p],res:=ints,out:=fun p xs=>(zdi p xs.1 xs.2.1).1,post:=fun p xs=>(zdi p xs.1 xs.2.1).2 }
def zij (p:RSt) (l:List Int):Bool:=(p.e==0)&&(l.isEmpty|| !rIs p zbu)
abbrev lS7 (lo hi:Int) (p:RSt) (l:List Int):AS:=⟨[(0,⟨.optr rps,⟨0,rps,.here⟩⟩),(1,⟨i64,lo⟩),(2,⟨i64,hi⟩),(7,⟨.obuf i64,(1:Nat)⟩)],[(0,some (.box rps p)),(1,some (.buf 3 i64 l))],2⟩
set_option maxHeartbeats 2000000 in
theorem zk3:zbF Tryz.prog gmG 214 zmy:=by
 refine za4 (K:=k7b) zbD Tryz.func214 rfl rfl Tryz.call214 rfl (by decide) (fun w w' g hg h hk=>trivial) ?_;rintro w0 O g hX hinv (p:RSt) ⟨(lo:Int),(hi:Int),_⟩ hp;have hp:P7 p:=hp;change AWP _ _ _ _ _ ⟨[(0,⟨.optr rps,⟨0,rps,.here⟩⟩),(1,⟨i64,lo⟩),(2,⟨i64,hi⟩)],[(0,some (.box rps p))],1⟩ _;refine za (za ?_);refine zaa hX zbD rfl ?_ ?_
 ·trivial
 refine za (za ?_);refine zaa hX zbD rfl ?_ ?_
 ·trivial
 refine AWP.nilBuf hX 7 3 i64 rfl rfl rfl ?_;refine za (za ?_);refine zaa hX zbD rfl ?_ ?_
 ·exact hp
 obtain⟨hm,_⟩:=zen hp (w:=zc6);refine zam (σ':=lS7 lo hi (zb5 p zc6) []) ⟨⟨rfl,rfl,rfl,rfl,trivial⟩,⟨rfl,rfl,trivial⟩,rfl,rfl⟩ ?_;have hR:zdi p lo hi=((zcW lo hi 66 (zb5 p zc6) []).1,zb5 (zcW lo hi 66 (zb5 p zc6) []).2 zbu):=rfl;obtain⟨R,hRR⟩:∃ R,zcW lo hi 66 (zb5 p zc6) []=R:=⟨_,rfl⟩;rw[hRR]at hR;(repeat(first|apply zae|apply zab|apply zac|apply zad));refine yD (ι:=RSt×List Int) (fun x=>lS7 lo hi x.1 x.2) (fun x=>P7 x.1∧x.2.length≤65∧(x.1.e=0->x.2.length≤64)∧zcW lo hi (66 - x.2.length) x.1 x.2=R) (fun x=>66 - x.2.length) (zb5 p zc6,[]) ⟨hm.ok,zk _,fun _=>zk _,hRR⟩ ⟨⟨rfl,rfl,rfl,rfl,trivial⟩,⟨rfl,rfl,trivial⟩,rfl,rfl⟩ ?_;rintro ⟨q,l⟩ ⟨hq,h65,h64,hL⟩;have hq:P7 q:=hq;have h65:l.length≤65:=h65;have h64:q.e=0->l.length≤64:=h64;have hL:zcW lo hi (66 - l.length) q l=R:=hL;show AWP _ _ _ _ _ (lS7 lo hi q l) _;obtain⟨f,hf⟩:∃ f,66 - l.length=f+1:=⟨65 - l.length,by omega⟩;rw[hf,zcW]at hL;apply zae;refine yO (σ':=⟨[(0,⟨.optr rps,⟨0,rps,.here⟩⟩),(1,⟨i64,lo⟩),(2,⟨i64,hi⟩),(7,⟨.obuf i64,(1:Nat)⟩),(25,⟨.bool,zij q l⟩)],[(0,some (.box rps q)),(1,some (.buf 3 i64 l))],2⟩) ?_ ?_
 ·(repeat(first|apply zae|apply zab|apply zac|apply zad));refine zah ?_;refine yy 6 hX zbD rfl trivial ?_;by_cases he:q.e=0
  ·have he':(q.e==0)=true:=beq_iff_eq.2 he;refine qC (σ':=⟨[(0,⟨.optr rps,⟨0,rps,.here⟩⟩),(1,⟨i64,lo⟩),(2,⟨i64,hi⟩),(7,⟨.obuf i64,(1:Nat)⟩),(16,⟨.bool,true⟩)],[(0,some (.box rps q)),(1,some (.buf 3 i64 l))],2⟩) ⟨⟨rfl,rfl,rfl,rfl,zbz he',trivial⟩,⟨rfl,rfl,trivial⟩,rfl,rfl⟩ ?_
   iterate 4 (refine qY 5 16 true rfl rfl rfl rfl ?_;refine yy 1 hX zbD rfl trivial ?_)
   cases l with
   |nil=>
    refine qC (σ':=⟨[(0,⟨.optr rps,⟨0,rps,.here⟩⟩),(1,⟨i64,lo⟩),(2,⟨i64,hi⟩),(7,⟨.obuf i64,(1:Nat)⟩),(16,⟨.bool,true⟩),(20,⟨.bool,true⟩)],[(0,some (.box rps q)),(1,some (.buf 3 i64 []))],2⟩) ⟨⟨rfl,rfl,rfl,rfl,rfl,rfl,trivial⟩,⟨rfl,rfl,trivial⟩,rfl,rfl⟩ ?_
    iterate 3 refine AL.guardF 9 20 false .bool false rfl rfl rfl rfl rfl rfl ?_
    refine qY 5 16 true rfl rfl rfl rfl ?_;refine yy 1 hX zbD rfl (fun h=>by cases h) ?_;refine zY hX zbD rfl trivial ?_;refine⟨⟨rfl,rfl,rfl,rfl,zbz ?_,trivial⟩,⟨rfl,rfl,trivial⟩,rfl,rfl⟩;unfold zij;rw[he'];rfl
   |cons y r=>
    have hz:((((y::r).length:Nat):Int)==0)=false:=by rw[zr];exact beq_eq_false_iff_ne.2 (by omega)
    refine qC (σ':=⟨[(0,⟨.optr rps,⟨0,rps,.here⟩⟩),(1,⟨i64,lo⟩),(2,⟨i64,hi⟩),(7,⟨.obuf i64,(1:Nat)⟩),(16,⟨.bool,true⟩),(20,⟨.bool,false⟩)],[(0,some (.box rps q)),(1,some (.buf 3 i64 (y::r)))],2⟩) ⟨⟨rfl,rfl,rfl,rfl,rfl,zbz hz,trivial⟩,⟨rfl,rfl,trivial⟩,rfl,rfl⟩ ?_
    iterate 3 (refine qY 9 20 false rfl rfl rfl rfl ?_;refine yy 1 hX zbD rfl trivial ?_)
    refine qY 5 16 true rfl rfl rfl rfl ?_;refine yy 1 hX zbD rfl trivial ?_;refine zY hX zbD rfl trivial ?_;refine⟨⟨rfl,rfl,rfl,rfl,zbz ?_,trivial⟩,⟨boxP rfl,rfl,trivial⟩,rfl,rfl⟩;show (!rIs q zbu)=zij q (y::r);unfold zij;rw[he'];rfl
  ·have he':(q.e==0)=false:=beq_eq_false_iff_ne.2 he;refine qC (σ':=⟨[(0,⟨.optr rps,⟨0,rps,.here⟩⟩),(1,⟨i64,lo⟩),(2,⟨i64,hi⟩),(7,⟨.obuf i64,(1:Nat)⟩),(16,⟨.bool,false⟩)],[(0,some (.box rps q)),(1,some (.buf 3 i64 l))],2⟩) ⟨⟨rfl,rfl,rfl,rfl,zbz he',trivial⟩,⟨rfl,rfl,trivial⟩,rfl,rfl⟩ ?_
   iterate 4 refine AL.guardF 5 16 true .bool false rfl rfl rfl rfl rfl rfl ?_
   iterate 3 refine AL.guardU 9 20 false .bool false rfl rfl rfl rfl rfl rfl ?_
   refine AL.guardF 5 16 true .bool false rfl rfl rfl rfl rfl rfl ?_;refine zY hX zbD rfl (fun h=>by cases h) ?_;refine⟨⟨rfl,rfl,rfl,rfl,zbz ?_,trivial⟩,⟨rfl,rfl,trivial⟩,rfl,rfl⟩;unfold zij;rw[he'];rfl
 have hgl:zij q l=decide (q.e=0∧(l=[]∨rIs q zbu=false)):=by
  unfold zij;rw[yb,zd,zJ,beq_iff_eq,decide_eq_true_iff,List.isEmpty_iff,zs]
 refine zaf rfl (fun hb=>?_) (fun hb=>?_)
 rotate_left
 ·have hb:=of_decide_eq_false (hgl.symm.trans hb);rw[if_neg hb]at hL;apply zad;refine za (za ?_);refine zaa hX zbD rfl ?_ ?_
  ·exact hq
  refine qS hX 7 ?_;refine za (za ?_);refine zaa hX zbD rfl ?_ ?_
  ·trivial
  refine zm ⟨.inr rfl,boxP ?_,zas rfl trivial rfl rfl ?_⟩
  ·show zb5 q zbu=(zdi p lo hi).2;rw[hR, <-hL]
  ·show l=(zdi p lo hi).1;rw[hR, <-hL]
 have hb:=of_decide_eq_true (hgl.symm.trans hb);rw[if_pos hb]at hL;have hL:zcW lo hi f (ziM q lo hi l).2 (l++ [(ziM q lo hi l).1])=R:=hL;obtain⟨hi1,hi2,hi3⟩:=zm0 hq (lo:=lo) (hi:=hi) (l:=l);have hI:ziM q lo hi l=zaF (if (l≠ []∧yG q.t≤l.getLast?.getD 0)∨(lo < 0∧yG q.t=0) then zat (if 64≤l.length then zat (if zt q.t=3 then q else zat q 3) 2 else (if zt q.t=3 then q else zat q 3)) 1 else (if 64≤l.length then zat (if zt q.t=3 then q else zat q 3) 2 else (if zt q.t=3 then q else zat q 3))) lo hi:=rfl;apply zab;refine zam (σ':=lS7 lo hi q l) ⟨⟨rfl,rfl,rfl,rfl,trivial⟩,⟨rfl,rfl,trivial⟩,rfl,rfl⟩ ?_;refine za (za ?_);refine zaa hX zbD rfl ?_ ?_
 ·trivial
 refine xM (σ':=lS7 lo hi (if zt q.t=3 then q else zat q 3) l) ?_ ?_
 ·refine zaf rfl (fun hb=>?_) (fun hb=>?_)
  ·have hb:(zt q.t != 3)=true:=hb;refine za (za ?_);refine zaa hX zbD rfl ?_ ?_
   ·trivial
   exact⟨⟨rfl,rfl,rfl,rfl,trivial⟩,⟨boxP (by rw[if_neg (bne_iff_ne.1 hb)];rfl),rfl,trivial⟩,rfl,rfl⟩
  ·have hb:(zt q.t != 3)=false:=hb;exact zab ⟨⟨rfl,rfl,rfl,rfl,trivial⟩,⟨boxP (by rw[if_pos (bne_eq_false_iff_eq.1 hb)]),rfl,trivial⟩,rfl,rfl⟩
 have h1:P7 (if zt q.t=3 then q else zat q 3)∧(if zt q.t=3 then q else zat q 3).t=q.t:=by
  split
  ·exact⟨hq,rfl⟩
  ·exact⟨(zaI hq).1.ok,(zaI hq).2.2.1⟩
 obtain⟨g1,e1⟩:=h1;generalize (if zt q.t=3 then q else zat q 3)=q1 at *;refine zam (σ':=lS7 lo hi q1 l) ⟨⟨rfl,rfl,rfl,rfl,trivial⟩,⟨rfl,rfl,trivial⟩,rfl,rfl⟩ ?_;refine za (za ?_);refine zaa hX zbD rfl ?_ ?_
 ·trivial
 refine xM (σ':=lS7 lo hi (if 64≤l.length then zat q1 2 else q1) l) ?_ ?_
 ·refine zaf rfl (fun hb=>?_) (fun hb=>?_)
  ·have hb:decide (((l.length:Nat):Int)≥64)=true:=hb;have hb:=of_decide_eq_true hb;refine za (za ?_);refine zaa hX zbD rfl ?_ ?_
   ·trivial
   exact⟨⟨rfl,rfl,rfl,rfl,trivial⟩,⟨boxP (by rw[if_pos (by omega)];rfl),rfl,trivial⟩,rfl,rfl⟩
  ·have hb:decide (((l.length:Nat):Int)≥64)=false:=hb;have hb:=of_decide_eq_false hb;exact zab ⟨⟨rfl,rfl,rfl,rfl,trivial⟩,⟨boxP (by rw[if_neg (by omega)]),rfl,trivial⟩,rfl,rfl⟩
 have h2:P7 (if 64≤l.length then zat q1 2 else q1)∧(if 64≤l.length then zat q1 2 else q1).t=q.t:=by
  split
  ·exact⟨(zaI g1).1.ok,(zaI g1).2.2.1.trans e1⟩
  ·exact⟨g1,e1⟩
 obtain⟨g2,e2⟩:=h2;generalize (if 64≤l.length then zat q1 2 else q1)=q2 at *;refine zam (σ':=lS7 lo hi q2 l) ⟨⟨rfl,rfl,rfl,rfl,trivial⟩,⟨rfl,rfl,trivial⟩,rfl,rfl⟩ ?_;apply zae;refine yO (σ':=⟨[(0,⟨.optr rps,⟨0,rps,.here⟩⟩),(1,⟨i64,lo⟩),(2,⟨i64,hi⟩),(7,⟨.obuf i64,(1:Nat)⟩),(67,⟨.bool,decide ((l≠ []∧yG q.t≤l.getLast?.getD 0)∨(lo < 0∧yG q.t=0))⟩)],[(0,some (.box rps q2)),(1,some (.buf 3 i64 l))],2⟩) ?_ ?_
 ·have d1:((l.length:Nat):Int) > 0->inR .i64 (((l.length:Nat):Int) - 1):=fun _=>zaq (by omega) (by omega);have d2:((l.length:Nat):Int) > 0->(0:Int)≤((l.length:Nat):Int) - 1:=fun h=>by omega
  have d3:((l.length:Nat):Int) > 0->((l.length:Nat):Int) - 1 < ((l.length:Nat):Int):=fun h=>by omega
  have d4:((l.length:Nat):Int) > 0->(((l.length:Nat):Int) - 1).toNat < l.length:=fun h=>by omega
  have hlast:l.getD (((l.length:Nat):Int) - 1).toNat (0:Int)=l.getLast?.getD 0:=by
   rw[List.getLast?_eq_getElem?,zR,show (((l.length:Nat):Int) - 1).toNat=l.length - 1 by omega]
  have hv:(bif (bif decide (((l.length:Nat):Int) > 0) then decide (yG q2.t≤l.getD (((l.length:Nat):Int) - 1).toNat (0:Int)) else false) then true else (bif decide (lo < 0) then (yG q2.t==0) else false))=decide ((l≠ []∧yG q.t≤l.getLast?.getD 0)∨(lo < 0∧yG q.t=0)):=by
   rw[b_or,zc2,zc2,e2,hlast,yb,zJ,zd,zd,decide_eq_true_iff,decide_eq_true_iff,decide_eq_true_iff,decide_eq_true_iff,beq_iff_eq];have:((l.length:Nat):Int) > 0↔l≠ []:=by
    rw[<-xN];omega
   rw[this]
  (repeat(first|apply zae|apply zab|apply zac|apply zad));refine v8 dM hX zbD 29 (by kernel_rfl) rfl rfl ?_ ?_ ?_
  ·generalize hA:decide (((l.length:Nat):Int) > 0)=A;generalize decide ((q2:rps.T).2.1.2.2.2.1≤l.getD (((l.length:Nat):Int) - 1).toNat (zbk i64))=B;generalize decide (lo < 0)=C;cases A<;>cases B<;>cases C<;>repeat'(first|exact trivial|exact d1 (of_decide_eq_true hA)|exact d2 (of_decide_eq_true hA)|exact d3 (of_decide_eq_true hA)|exact d4 (of_decide_eq_true hA)|rfl|(intro h;cases h;done)|(intro _)|(refine⟨?_,?_⟩))
  ·trivial
  exact⟨⟨rfl,rfl,rfl,rfl,zbz hv,trivial⟩,⟨rfl,rfl,trivial⟩,rfl,rfl⟩
 refine xM (σ':=lS7 lo hi (if (l≠ []∧yG q.t≤l.getLast?.getD 0)∨(lo < 0∧yG q.t=0) then zat q2 1 else q2) l) ?_ ?_
 ·refine zaf rfl (fun hb=>?_) (fun hb=>?_)
  ·have hb:=of_decide_eq_true hb;refine za (za ?_);refine zaa hX zbD rfl ?_ ?_
   ·trivial
   exact⟨⟨rfl,rfl,rfl,rfl,trivial⟩,⟨boxP (by rw[if_pos hb];rfl),rfl,trivial⟩,rfl,rfl⟩
  ·have hb:=of_decide_eq_false hb;exact zab ⟨⟨rfl,rfl,rfl,rfl,trivial⟩,⟨boxP (by rw[if_neg hb]),rfl,trivial⟩,rfl,rfl⟩
 have g3:P7 (if (l≠ []∧yG q.t≤l.getLast?.getD 0)∨(lo < 0∧yG q.t=0) then zat q2 1 else q2):=by
  split
  ·exact (zaI g2).1.ok
  ·exact g2
 generalize (if (l≠ []∧yG q.t≤l.getLast?.getD 0)∨(lo < 0∧yG q.t=0) then zat q2 1 else q2)=q3 at *;refine zam (σ':=lS7 lo hi q3 l) ⟨⟨rfl,rfl,rfl,rfl,trivial⟩,⟨rfl,rfl,trivial⟩,rfl,rfl⟩ ?_;rw[hI]at hL hi1 hi3;refine za (za ?_);refine zaa hX zbD rfl ?_ ?_
 ·exact g3
 have hl1:l.length+1≤1000000000:=by omega
 refine za (za ?_);refine zaa hX zbD rfl ?_ ?_
 ·exact hl1
 refine⟨((zaF q3 lo hi).2,l++ [(zaF q3 lo hi).1]),⟨hi1.ok,?_,fun h=>?_,?_⟩,?_,⟨rfl,rfl,rfl,rfl,trivial⟩,⟨rfl,rfl,trivial⟩,rfl,rfl⟩
 ·show (l++ [_]).length≤65;rw[zh,zN];have:=h64 hb.1;omega
 ·show (l++ [_]).length≤64;rw[zh,zN];have:=h64 hb.1;by_cases h64':64≤l.length
  ·exact absurd h (hi3 h64')
  ·omega
 ·show zcW lo hi (66 - (l++ [_]).length) _ _=R;rw[zh,zN,show 66 - (l.length+1)=f by omega];exact hL
 ·show 66 - (l++ [_]).length < 66 - l.length;rw[zh,zN];omega
theorem zcV {p:RSt} (h:P7 p) {lo hi:Int}:Go7 p (zdi p lo hi).2∧(zdi p lo hi).2.nodes=p.nodes:=by
 have key:∀ (k:Nat) (q:RSt) (l:List Int),P7 q->Go7 q (zcW lo hi k q l).2∧(zcW lo hi k q l).2.nodes=q.nodes:=by
  intro k
  induction k with
  |zero=>exact fun q l hq=>⟨Go7.refl hq,rfl⟩
  |succ k ih=>
   intro q l hq;rw[zcW];split
   ·obtain⟨a,b,_⟩:=zm0 hq (lo:=lo) (hi:=hi) (l:=l);obtain⟨c,d⟩:=ih _ (l++ [(ziM q lo hi l).1]) a.ok;exact⟨a.trans c,d.trans b⟩
   ·exact⟨Go7.refl hq,rfl⟩
 obtain⟨a,b⟩:=zen h (w:=zc6);obtain⟨c,d⟩:=key 66 _ [] a.ok;obtain⟨e,f⟩:=zen c.ok (w:=zbu);exact⟨(a.trans c).trans e,f.trans (d.trans b)⟩
theorem zhO {p:RSt} (h:P7 p):Go7 p (zbO p).2∧(zbO p).2.nodes=p.nodes:=by
 unfold zbO;split
 ·exact⟨(zcU h).1,(zcU h).2.1⟩
 ·exact zen h
theorem zhR {p:RSt} (h:P7 p):Go7 p (zaz p)∧(zaz p).nodes=p.nodes+1∧(64≤p.nodes->(zaz p).e≠0)∧(p.e=0->p.nodes < 64->(zaz p).e=0):=by
 unfold zaz;have h1:Go7 p (if 64≤p.nodes then zat p 2 else p)∧(if 64≤p.nodes then zat p 2 else p).nodes=p.nodes∧(64≤p.nodes->(if 64≤p.nodes then zat p 2 else p).e≠0)∧(p.e=0->p.nodes < 64->(if 64≤p.nodes then zat p 2 else p).e=0):=by
  split
  ·rename_i h64;exact⟨(zaI h).1,(zaI h).2.1,fun _=>(zaI h).2.2.2 (by decide),fun _ h=>by omega⟩
  ·rename_i h64;exact⟨Go7.refl h,rfl,fun h=>absurd h h64,fun h _=>h⟩
 obtain⟨a,b,c,d⟩:=h1;generalize (if 64≤p.nodes then zat p 2 else p)=q at *;have hc:P7 (zd7 q):=a.ok;obtain⟨e,f,g,_⟩:=zcU hc;have e':Go7 q (zbB (zd7 q)):=⟨e.ok,e.s,e.on,by have:=e.n;have h2:(zd7 q).nodes=q.nodes+1:=rfl;omega,fun h=>e.e h⟩;refine⟨a.trans e',?_,fun h=>?_,fun h h'=>?_⟩
 ·rw[f, <-b];rfl
 ·rw[g];exact c h
 ·rw[g];exact d h h'
def k7c:Kn:={ gmK with R:=[(84,ziv),(144,zix),(213,zly),(214,zmy),(215,zuX),(216,zuU)] }
theorem zaQ:KnOk Tryz.prog gmG k7c:=zaC.withR (.cons zfb (fun _ _=>trivial) <| .cons zgq (fun _ _=>trivial) <| .cons ze6 (fun _ _=>trivial) <| .cons zk3 (fun _ _=>trivial) <| .cons zg7 (fun _ _=>trivial) <| .cons ziZ (fun _ _=>trivial) .nil)
def ztf:RCtr:={ self:=rps,args:=[],inv:=fun _ _=>True,pre:=fun p _=>[P7 p,0≤um p,um p≤1000000],res:=nd,out:=fun p _=>(zd6 p).1,post:=fun p _=>(zd6 p).2 }
set_option maxHeartbeats 4000000 in
theorem zr7:zbF Tryz.prog gmG 212 ztf:=by
 refine za4 (K:=k7c) zaQ Tryz.func212 rfl rfl Tryz.call212 rfl (by decide) (fun w w' g hg h hk=>trivial) ?_;rintro w0 O g hX hinv (p:RSt) _ hp;obtain⟨hp,hn0,hn1⟩:P7 p∧0≤p.nodes∧p.nodes≤1000000:=hp;change AWP _ _ _ _ _ ⟨[(0,⟨.optr rps,⟨0,rps,.here⟩⟩)],[(0,some (.box rps p))],1⟩ _;refine za (za ?_);refine zaa hX zaQ rfl ?_ ?_
 ·trivial
 refine za (za ?_);refine zaa hX zaQ rfl ?_ ?_
 ·trivial
 have hL:zd6 p=match zdw (yc p.t) with
  |none=>(zNd,zat p 3)
  |some w=>zd5 w (zaz p):=rfl
 refine zam (σ':=⟨[(0,⟨.optr rps,⟨0,rps,.here⟩⟩),(2,⟨.optr nd,⟨1,nd,.here⟩⟩),(3,⟨.str,yc p.t⟩)],[(0,some (.box rps p)),(1,some (.box nd zNd))],2⟩) ⟨⟨rfl,rfl,rfl,trivial⟩,⟨rfl,rfl,trivial⟩,rfl,rfl⟩ ?_;generalize yc p.t=T at *;refine za (za ?_);refine zaa hX zaQ rfl ?_ ?_
 ·trivial
 apply zac;refine yO (σ':=⟨[(0,⟨.optr rps,⟨0,rps,.here⟩⟩),(2,⟨.optr nd,⟨1,nd,.here⟩⟩),(3,⟨.str,T⟩),(14,⟨.bool,(zdw T).isSome⟩)],[(0,some (.box rps p)),(1,some (.box nd zNd))],2⟩) ?_ ?_
 ·refine za (za ?_);refine zaa hX zaQ rfl ?_ ?_
  ·trivial
  refine zaf rfl (fun hb=>?_) (fun n0=>?_)
  ·have hb:T=zfN:=zay.1 hb;exact zab ⟨⟨rfl,rfl,rfl,zbz (by subst hb;exact zay.2 rfl),trivial⟩,⟨rfl,rfl,trivial⟩,rfl,rfl⟩
  have n0:T≠zfN:=fun e=>by have h:eqb .str T zfN=false:=n0;rw[zay.2 e]at h;cases h
  refine za (za ?_);refine zaa hX zaQ rfl ?_ ?_
  ·trivial
  refine zaf rfl (fun hb=>?_) (fun n1=>?_)
  ·have hb:T=zdO:=zay.1 hb;exact zab ⟨⟨rfl,rfl,rfl,zbz (by subst hb;exact zay.2 rfl),trivial⟩,⟨rfl,rfl,trivial⟩,rfl,rfl⟩
  have n1:T≠zdO:=fun e=>by have h:eqb .str T zdO=false:=n1;rw[zay.2 e]at h;cases h
  refine za (za ?_);refine zaa hX zaQ rfl ?_ ?_
  ·trivial
  refine zaf rfl (fun hb=>?_) (fun n2=>?_)
  ·have hb:T=zbM:=zay.1 hb;exact zab ⟨⟨rfl,rfl,rfl,zbz (by subst hb;exact zay.2 rfl),trivial⟩,⟨rfl,rfl,trivial⟩,rfl,rfl⟩
  have n2:T≠zbM:=fun e=>by have h:eqb .str T zbM=false:=n2;rw[zay.2 e]at h;cases h
  refine za (za ?_);refine zaa hX zaQ rfl ?_ ?_
  ·trivial
  refine zaf rfl (fun hb=>?_) (fun n3=>?_)
  ·have hb:T=zaW:=zay.1 hb;exact zab ⟨⟨rfl,rfl,rfl,zbz (by subst hb;exact zay.2 rfl),trivial⟩,⟨rfl,rfl,trivial⟩,rfl,rfl⟩
  have n3:T≠zaW:=fun e=>by have h:eqb .str T zaW=false:=n3;rw[zay.2 e]at h;cases h
  refine za (za ?_);refine zaa hX zaQ rfl ?_ ?_
  ·trivial
  refine zaf rfl (fun hb=>?_) (fun n4=>?_)
  ·have hb:T=za7:=zay.1 hb;exact zab ⟨⟨rfl,rfl,rfl,zbz (by subst hb;exact zay.2 rfl),trivial⟩,⟨rfl,rfl,trivial⟩,rfl,rfl⟩
  have n4:T≠za7:=fun e=>by have h:eqb .str T za7=false:=n4;rw[zay.2 e]at h;cases h
  refine za (za ?_);refine zaa hX zaQ rfl ?_ ?_
  ·trivial
  refine zaf rfl (fun hb=>?_) (fun n5=>?_)
  ·have hb:T=zcP:=zay.1 hb;exact zab ⟨⟨rfl,rfl,rfl,zbz (by subst hb;exact zay.2 rfl),trivial⟩,⟨rfl,rfl,trivial⟩,rfl,rfl⟩
  have n5:T≠zcP:=fun e=>by have h:eqb .str T zcP=false:=n5;rw[zay.2 e]at h;cases h
  refine za (za ?_);refine zaa hX zaQ rfl ?_ ?_
  ·trivial
  refine⟨⟨rfl,rfl,rfl,zbz ?_,trivial⟩,⟨rfl,rfl,trivial⟩,rfl,rfl⟩;show eqb .str T wNth=(zdw T).isSome;unfold zdw;rw[if_neg n0,if_neg n1,if_neg n2,if_neg n3,if_neg n4,if_neg n5,zcw];by_cases e:T=wNth
  ·rw[if_pos e,decide_eq_true e];rfl
  ·rw[if_neg e,decide_eq_false e];rfl
 refine zaf rfl (fun hb=>?_) (fun hb=>?_)
 rotate_left
 ·have hb:(zdw T).isSome=false:=hb;have hw:zdw T=none:=by
   cases h:zdw T with
   |none=>rfl
   |some w=>rw[h]at hb;cases hb
  rw[hw]at hL;refine za (za ?_);refine zaa hX zaQ rfl ?_ ?_
  ·trivial
  refine za (za ?_);refine zaa hX zaQ rfl ?_ ?_
  ·trivial
  exact zm ⟨.inr rfl,boxP (congrArg (fun x=>x.2) hL).symm,zas rfl trivial rfl rfl (congrArg (fun x=>x.1) hL).symm⟩
 have hb:(zdw T).isSome=true:=hb;obtain⟨w,hw⟩:=jF.1 hb;rw[hw]at hL;have hL:zd6 p=zd5 w (zaz p):=hL;refine za (za ?_);refine zaa hX zaQ rfl ?_ ?_
 ·exact⟨hp,hn0,hn1⟩
 have hq:=(zhR hp).1.ok;refine zam (σ':=⟨[(0,⟨.optr rps,⟨0,rps,.here⟩⟩),(2,⟨.optr nd,⟨1,nd,.here⟩⟩),(3,⟨.str,T⟩)],[(0,some (.box rps (zaz p))),(1,some (.box nd zNd))],2⟩) ⟨⟨rfl,rfl,rfl,trivial⟩,⟨rfl,rfl,trivial⟩,rfl,rfl⟩ ?_;generalize zaz p=q at *;refine za (za ?_);refine zaa hX zaQ rfl ?_ ?_
 ·trivial
 refine za (za ?_);refine zaa hX zaQ rfl ?_ ?_
 ·trivial
 refine zam (σ':=⟨[(0,⟨.optr rps,⟨0,rps,.here⟩⟩),(2,⟨.optr nd,⟨1,nd,.here⟩⟩),(4,⟨.optr nd,⟨2,nd,.here⟩⟩),(25,⟨.str,T⟩)],[(0,some (.box rps q)),(1,some (.box nd zNd)),(2,some (.box nd zNd))],3⟩) ⟨⟨rfl,rfl,rfl,rfl,trivial⟩,⟨rfl,rfl,rfl,trivial⟩,rfl,rfl⟩ ?_;apply zac;unfold zdw at hw;refine za (za ?_);refine zaa hX zaQ rfl ?_ ?_
 ·trivial
 refine zaf rfl (fun hb=>?_) (fun m0=>?_)
 ·have hb:T=zfN:=zay.1 hb;subst hb;obtain rfl:LeafW.days=w:=zx hw;refine za (za ?_);refine zaa hX zaQ rfl ?_ ?_
  ·trivial
  refine za (za ?_);refine zaa hX zaQ rfl ?_ ?_
  ·exact hq
  have a0:=(zaK hq (lo:=1) (hi:=zbt)).1.ok;refine za (za ?_);refine zaa hX zaQ rfl ?_ ?_
  ·exact a0
  have a1:=(zaK a0 (lo:=0) (hi:=zbt)).1.ok;refine za (za ?_);refine zaa hX zaQ rfl ?_ ?_
  ·trivial
  exact zm ⟨.inr rfl,boxP (congrArg (fun x=>x.2) hL).symm,zas rfl trivial rfl rfl (congrArg (fun x=>x.1) hL).symm⟩
 have m0:T≠zfN:=fun e=>by have h:eqb .str T zfN=false:=m0;rw[zay.2 e]at h;cases h
 refine za (za ?_);refine zaa hX zaQ rfl ?_ ?_
 ·trivial
 refine zaf rfl (fun hb=>?_) (fun m1=>?_)
 ·have hb:T=za7:=zay.1 hb;subst hb;obtain rfl:LeafW.weekdays=w:=zx hw;refine za (za ?_);refine zaa hX zaQ rfl ?_ ?_
  ·trivial
  refine za (za ?_);refine zaa hX zaQ rfl ?_ ?_
  ·exact hq
  have a0:=(zcV hq (lo:=0) (hi:=6)).1.ok;refine za (za ?_);refine zaa hX zaQ rfl ?_ ?_
  ·trivial
  exact zm ⟨.inr rfl,boxP (congrArg (fun x=>x.2) hL).symm,zas rfl trivial rfl rfl (congrArg (fun x=>x.1) hL).symm⟩
 have m1:T≠za7:=fun e=>by have h:eqb .str T za7=false:=m1;rw[zay.2 e]at h;cases h
 refine za (za ?_);refine zaa hX zaQ rfl ?_ ?_
 ·trivial
 refine zaf rfl (fun hb=>?_) (fun m2=>?_)
 ·have hb:T=zdO:=zay.1 hb;subst hb;obtain rfl:LeafW.years=w:=zx hw;refine za (za ?_);refine zaa hX zaQ rfl ?_ ?_
  ·trivial
  refine za (za ?_);refine zaa hX zaQ rfl ?_ ?_
  ·exact hq
  have a0:=(zaK hq (lo:=0) (hi:=2)).1.ok;refine za (za ?_);refine zaa hX zaQ rfl ?_ ?_
  ·exact a0
  have a1:=(zaK a0 (lo:=1) (hi:=400)).1.ok;have iN:inR .i64 ((zaF (rCal q).2 1 400).1 - 1):=by
   have: -1125899906842624≤yG (rCal q).2.t∧yG (rCal q).2.t≤1125899906842624:=a0.2.1;exact zaq (show _≤yG _ - 1 by omega) (show yG _ - 1≤_ by omega)
  refine za (za ?_);refine zaa hX zaQ rfl ?_ ?_
  ·exact⟨iN,a1⟩
  have a2:=(zaK a1 (lo:=0) (hi:=((zaF (rCal q).2 1 400).1 - 1))).1.ok;refine za (za ?_);refine zaa hX zaQ rfl ?_ ?_
  ·trivial
  exact zm ⟨.inr rfl,boxP (congrArg (fun x=>x.2) hL).symm,zas rfl trivial rfl rfl (congrArg (fun x=>x.1) hL).symm⟩
 have m2:T≠zdO:=fun e=>by have h:eqb .str T zdO=false:=m2;rw[zay.2 e]at h;cases h
 refine za (za ?_);refine zaa hX zaQ rfl ?_ ?_
 ·trivial
 refine zaf rfl (fun hb=>?_) (fun m3=>?_)
 ·have hb:T=zbM:=zay.1 hb;subst hb;obtain rfl:LeafW.months=w:=zx hw;refine za (za ?_);refine zaa hX zaQ rfl ?_ ?_
  ·trivial
  refine za (za ?_);refine zaa hX zaQ rfl ?_ ?_
  ·exact hq
  have a0:=(zaK hq (lo:=0) (hi:=2)).1.ok;refine za (za ?_);refine zaa hX zaQ rfl ?_ ?_
  ·exact a0
  have a1:=(zcV a0 (lo:=1) (hi:=16)).1.ok;refine za (za ?_);refine zaa hX zaQ rfl ?_ ?_
  ·trivial
  exact zm ⟨.inr rfl,boxP (congrArg (fun x=>x.2) hL).symm,zas rfl trivial rfl rfl (congrArg (fun x=>x.1) hL).symm⟩
 have m3:T≠zbM:=fun e=>by have h:eqb .str T zbM=false:=m3;rw[zay.2 e]at h;cases h
 refine za (za ?_);refine zaa hX zaQ rfl ?_ ?_
 ·trivial
 refine zaf rfl (fun hb=>?_) (fun m4=>?_)
 ·have hb:T=zaW:=zay.1 hb;subst hb;obtain rfl:LeafW.monthdays=w:=zx hw;refine za (za ?_);refine zaa hX zaQ rfl ?_ ?_
  ·trivial
  refine za (za ?_);refine zaa hX zaQ rfl ?_ ?_
  ·exact hq
  have a0:=(zaK hq (lo:=0) (hi:=2)).1.ok;refine za (za ?_);refine zaa hX zaQ rfl ?_ ?_
  ·exact a0
  have a1:=(zcV a0 (lo:=(-40)) (hi:=40)).1.ok;refine za (za ?_);refine zaa hX zaQ rfl ?_ ?_
  ·trivial
  exact zm ⟨.inr rfl,boxP (congrArg (fun x=>x.2) hL).symm,zas rfl trivial rfl rfl (congrArg (fun x=>x.1) hL).symm⟩
 have m4:T≠zaW:=fun e=>by have h:eqb .str T zaW=false:=m4;rw[zay.2 e]at h;cases h
 refine za (za ?_);refine zaa hX zaQ rfl ?_ ?_
 ·trivial
 refine zaf rfl (fun hb=>?_) (fun m5=>?_)
 ·have hb:T=zcP:=zay.1 hb;subst hb;obtain rfl:LeafW.weeks=w:=zx hw;refine za (za ?_);refine zaa hX zaQ rfl ?_ ?_
  ·trivial
  refine za (za ?_);refine zaa hX zaQ rfl ?_ ?_
  ·exact hq
  have a0:=(zaK hq (lo:=0) (hi:=2)).1.ok;refine za (za ?_);refine zaa hX zaQ rfl ?_ ?_
  ·exact a0
  have a1:=(zcV a0 (lo:=1) (hi:=54)).1.ok;refine za (za ?_);refine zaa hX zaQ rfl ?_ ?_
  ·trivial
  exact zm ⟨.inr rfl,boxP (congrArg (fun x=>x.2) hL).symm,zas rfl trivial rfl rfl (congrArg (fun x=>x.1) hL).symm⟩
 have m5:T≠zcP:=fun e=>by have h:eqb .str T zcP=false:=m5;rw[zay.2 e]at h;cases h
 have hT:T=wNth:=by
  rw[if_neg m0,if_neg m2,if_neg m3,if_neg m4,if_neg m1,if_neg m5]at hw;by_cases e:T=wNth
  ·exact e
  ·rw[if_neg e]at hw;cases hw
 subst hT;obtain rfl:LeafW.nth=w:=zx hw;refine za (za ?_);refine zaa hX zaQ rfl ?_ ?_
 ·trivial
 refine za (za ?_);refine zaa hX zaQ rfl ?_ ?_
 ·exact hq
 have b0:=(zaK hq (lo:=0) (hi:=2)).1.ok;have hL:zd6 p=((7,(rCal q).1,(zbO (zaF (zaF (if zt (rCal q).2.t=3∧yG (rCal q).2.t=0 then zat (rCal q).2 1 else (rCal q).2) (-60) 60).2 0 6).2).1,0,(zaF (if zt (rCal q).2.t=3∧yG (rCal q).2.t=0 then zat (rCal q).2 1 else (rCal q).2) (-60) 60).1,(zaF (zaF (if zt (rCal q).2.t=3∧yG (rCal q).2.t=0 then zat (rCal q).2 1 else (rCal q).2) (-60) 60).2 0 6).1,[],[],()),(zbO (zaF (zaF (if zt (rCal q).2.t=3∧yG (rCal q).2.t=0 then zat (rCal q).2 1 else (rCal q).2) (-60) 60).2 0 6).2).2):=hL;refine zam (σ':=⟨[(0,⟨.optr rps,⟨0,rps,.here⟩⟩),(2,⟨.optr nd,⟨1,nd,.here⟩⟩),(4,⟨.optr nd,⟨2,nd,.here⟩⟩)],[(0,some (.box rps (rCal q).2)),(1,some (.box nd zNd)),(2,some (.box nd (7,(rCal q).1,0,0,0,0,[],[],())))],3⟩) ⟨⟨rfl,rfl,rfl,trivial⟩,⟨rfl,rfl,rfl,trivial⟩,rfl,rfl⟩ ?_;generalize (rCal q).1=c at *;have b0:P7 (rCal q).2:=b0;generalize (rCal q).2=q1 at *;refine yO (σ':=⟨[(0,⟨.optr rps,⟨0,rps,.here⟩⟩),(2,⟨.optr nd,⟨1,nd,.here⟩⟩),(4,⟨.optr nd,⟨2,nd,.here⟩⟩)],[(0,some (.box rps (if zt q1.t=3∧yG q1.t=0 then zat q1 1 else q1))),(1,some (.box nd zNd)),(2,some (.box nd (7,c,0,0,0,0,[],[],())))],3⟩) ?_ ?_
 ·refine za (za ?_);refine zaa hX zaQ rfl ?_ ?_
  ·repeat'(first|exact trivial|assumption|(refine⟨?_,?_⟩)|(intro _)|exact zb rfl|exact zn _|(simp_all [allP];done))
  have hv:(bif (zt q1.t==3) then (yG q1.t==0) else false)=decide (zt q1.t=3∧yG q1.t=0):=by
   rw[zc2,yb,zd,beq_iff_eq,beq_iff_eq,decide_eq_true_iff]
  refine zaf rfl (fun hb=>?_) (fun hb=>?_)
  ·have hb:=of_decide_eq_true (hv.symm.trans hb);refine za (za ?_);refine zaa hX zaQ rfl ?_ ?_
   ·trivial
   exact⟨⟨rfl,rfl,rfl,trivial⟩,⟨boxP (by rw[if_pos hb];rfl),rfl,rfl,trivial⟩,rfl,rfl⟩
  ·have hb:=of_decide_eq_false (hv.symm.trans hb);exact zab ⟨⟨rfl,rfl,rfl,trivial⟩,⟨boxP (by rw[if_neg hb]),rfl,rfl,trivial⟩,rfl,rfl⟩
 have b1:P7 (if zt q1.t=3∧yG q1.t=0 then zat q1 1 else q1):=by
  split
  ·exact (zaI b0).1.ok
  ·exact b0
 generalize (if zt q1.t=3∧yG q1.t=0 then zat q1 1 else q1)=q2 at *;refine za (za ?_);refine zaa hX zaQ rfl ?_ ?_
 ·exact b1
 have b2:=(zaK b1 (lo:=(-60)) (hi:=60)).1.ok;refine za (za ?_);refine zaa hX zaQ rfl ?_ ?_
 ·exact b2
 have b3:=(zaK b2 (lo:=0) (hi:=6)).1.ok;refine za (za ?_);refine zaa hX zaQ rfl ?_ ?_
 ·exact b3
 refine za (za ?_);refine zaa hX zaQ rfl ?_ ?_
 ·trivial
 exact zm ⟨.inr rfl,boxP (congrArg (fun x=>x.2) hL).symm,zas rfl trivial rfl rfl (congrArg (fun x=>x.1) hL).symm⟩
set_option maxRecDepth 10000
def N7 (p:RSt):Prop:=0≤p.nodes∧p.nodes≤65∧(p.e=0->p.nodes≤64)
def RB (r:List Nd):Prop:=∀ m∈r,(-1≤ndL m∧ndL m≤10+(r.length:Int))∧(-1≤ndR m∧ndR m≤10+(r.length:Int))
structure Res7 (p:RSt) (r:List Nd) (q:RSt):Prop where
 go:Go7 p q
 n:N7 q
 len:(r.length:Int)≤2 * (q.nodes - p.nodes)+1
 rb:RB r
 ne:q.e=0->1≤r.length
theorem Res7.nil {p:RSt} (h:P7 p) (hn:N7 p) (he:p.e≠0):Res7 p [] p:=⟨Go7.refl h,hn,by rw[zX];omega,fun m hm=>(by cases hm),fun h=>absurd h he⟩
theorem N7.of {p q:RSt} (h:N7 p) (hn:q.nodes=p.nodes) (he:p.e≠0->q.e≠0):N7 q:=by
 obtain⟨a,b,c⟩:=h;exact⟨by omega,by omega,fun h=>by
  by_cases e:p.e=0
  ·have:=c e;omega
  ·exact absurd h (he e)⟩
theorem zfL {p:RSt} (h:P7 p) (hn:N7 p) (he:p.nodes≤64):Go7 p (zaz p)∧N7 (zaz p)∧(zaz p).nodes=p.nodes+1:=by
 obtain⟨a,b,c,d⟩:=zhR h;obtain⟨n1,n2,n3⟩:=hn;refine⟨a,⟨by omega,by omega,fun h=>?_⟩,b⟩;by_cases h64:64≤p.nodes
 ·exact absurd h (c h64)
 ·omega
theorem z010: -1≤(0:Int)∧(0:Int)≤10:=by decide
theorem z011: -1≤(0:Int)∧(0:Int)≤11:=by decide
theorem zpq {n:Nd} (h1: -1≤ndL n∧ndL n≤11) (h2: -1≤ndR n∧ndR n≤11):RB [n]:=fun m hm=>by
 rw[zw.1 hm,zN];exact⟨⟨h1.1,by omega⟩,⟨h2.1,by omega⟩⟩
theorem ztN {r:List Nd} (h:RB r) (n:Nd) (hR: -1≤ndR n∧ndR n≤10):RB (ziN r n):=by
 intro m hm;unfold ziN at hm ⊢;rw[zh,zN];rcases yL.1 hm with hm|hm
 ·obtain⟨⟨a,b⟩,c,d⟩:=h m hm;exact⟨⟨a,by omega⟩,⟨c,by omega⟩⟩
 ·rw[zw.1 hm];have e1:ndL (setL n ((r.length:Nat) - 1))=(r.length:Nat) - 1:=rfl;have e2:ndR (setL n ((r.length:Nat) - 1))=ndR n:=rfl;rw[e1,e2];exact⟨⟨by omega,by omega⟩,⟨by omega,by omega⟩⟩
theorem zpr {r s:List Nd} (h:RB r) (h':RB s) (n:Nd):RB (zeg r s n):=by
 intro m hm;have hl:(zeg r s n).length=r.length+s.length+1:=by
  unfold zeg zdC;rw[zh,zh,List.length_map,zN]
 rw[hl];unfold zeg zdC at hm;rcases yL.1 hm with hm|hm
 ·rcases yL.1 hm with hm|hm
  ·obtain⟨⟨a,b⟩,c,d⟩:=h m hm;exact⟨⟨a,by omega⟩,⟨c,by omega⟩⟩
  ·obtain⟨x,hx,rfl⟩:=qQ.1 hm;obtain⟨⟨a,b⟩,c,d⟩:=h' x hx;have e1:ndL (zcy (r.length:Nat) x)=(if 8≤x.1∧x.1≤17 then ndL x+(r.length:Nat) else ndL x):=rfl;have e2:ndR (zcy (r.length:Nat) x)=(if two x.1=true then ndR x+(r.length:Nat) else ndR x):=rfl;rw[e1,e2];exact⟨by split<;>exact⟨by omega,by omega⟩,by split<;>exact⟨by omega,by omega⟩⟩
 ·rw[zw.1 hm];have e1:ndL (zel n ((r.length:Nat) - 1) ((r.length:Nat)+(s.length:Nat) - 1))=(r.length:Nat) - 1:=rfl;have e2:ndR (zel n ((r.length:Nat) - 1) ((r.length:Nat)+(s.length:Nat) - 1))=(r.length:Nat)+(s.length:Nat) - 1:=rfl;rw[e1,e2];exact⟨⟨by omega,by omega⟩,⟨by omega,by omega⟩⟩
theorem znb (r:List Nd) (n:Nd):((ziN r n).length:Int)=r.length+1:=by
 unfold ziN;rw[zh,zN];omega
theorem zhp (r s:List Nd) (n:Nd):((zeg r s n).length:Int)=r.length+s.length+1:=by
 unfold zeg zdC;rw[zh,zh,List.length_map,zN];omega
theorem znI {p:RSt} (h:P7 p) (he:p.e=0) (hk:zt p.t≠0):(zaz p).e≠0∨RTk.at p.t < RTk.at (zaz p).t:=by
 by_cases h64:64≤p.nodes
 ·exact .inl ((zhR h).2.2.1 h64)
 ·have e:zaz p=zbB (zd7 p):=by unfold zaz;rw[if_neg h64]
  have hc:P7 (zd7 p):=h;rw[e];exact .inr ((zcU hc).2.2.2 he hk)
theorem ztP {p:RSt} {w:List UInt8} (h:rIs p w=true):zt p.t≠0:=by
 unfold rIs at h;simp only[zd,zJ,beq_iff_eq]at h;rcases h.1.2 with e|e<;>omega
theorem zhQ {p:RSt} (h:P7 p):Go7 p (rCal p).2∧(rCal p).2.nodes=p.nodes:=zaK h
theorem zrC (p:RSt): -1≤(zbO p).1∧(zbO p).1≤10:=by
 unfold zbO;split
 ·show -1≤(1:Int)∧(1:Int)≤10;decide
 ·show -1≤(0:Int)∧(0:Int)≤10;decide
theorem go2 {p q r:RSt} (h:Go7 p q∧q.nodes=p.nodes) (h':Go7 q r∧r.nodes=q.nodes):Go7 p r∧r.nodes=p.nodes:=⟨h.1.trans h'.1,h'.2.trans h.2⟩
theorem zpy:∀ (w:LeafW) {p:RSt},P7 p->(Go7 p (zd5 w p).2∧(zd5 w p).2.nodes=p.nodes)∧(-1≤ndL (zd5 w p).1∧ndL (zd5 w p).1≤10)∧ndR (zd5 w p).1=0
 | .days,p,h=>by
  have a:=zaK h (lo:=1) (hi:=zbt);exact⟨go2 a (zaK a.1.ok),z010,rfl⟩
 | .years,p,h=>by
  have a:=zhQ h;have b:=zaK a.1.ok (lo:=1) (hi:=400);exact⟨go2 a (go2 b (zaK b.1.ok)),z010,rfl⟩
 | .months,p,h| .monthdays,p,h| .weeks,p,h=>by
  have a:=zhQ h;exact⟨go2 a (zcV a.1.ok),z010,rfl⟩
 | .weekdays,p,h=>⟨zcV h,z010,rfl⟩
 | .nth,p,h=>by
  have a:=zhQ h;have b:Go7 (rCal p).2 (if zt (rCal p).2.t=3∧yG (rCal p).2.t=0 then zat (rCal p).2 1 else (rCal p).2)∧(if zt (rCal p).2.t=3∧yG (rCal p).2.t=0 then zat (rCal p).2 1 else (rCal p).2).nodes=(rCal p).2.nodes:=by
   split
   ·exact⟨(zaI a.1.ok).1,(zaI a.1.ok).2.1⟩
   ·exact⟨Go7.refl a.1.ok,rfl⟩
  have c:=zaK b.1.ok (lo:=-60) (hi:=60);have d:=zaK c.1.ok (lo:=0) (hi:=6);exact⟨go2 a (go2 b (go2 c (go2 d (zhO d.1.ok)))),zrC _,rfl⟩
theorem zjF:∀ (w:SufW) {p:RSt},P7 p->(Go7 p (zbZ w p).2∧(zbZ w p).2.nodes=p.nodes)∧ndR (zbZ w p).1=0
 | .shift,p,h| .from_,p,h| .until_,p,h=>⟨zaK h,rfl⟩
 | .also,p,h| .except_,p,h=>⟨zcV h,rfl⟩
 | .pos,p,h=>by
  have a:=zhQ h;have b:=zhO a.1.ok;exact⟨go2 a (go2 b (zcV b.1.ok)),rfl⟩
 | .behind,p,h=>by
  have a:=zaK h (lo:=1) (hi:=400);exact⟨go2 a (zen a.1.ok),rfl⟩
theorem N7.e0 {p:RSt} (h:N7 p) (he:p.e=0):p.nodes≤64:=h.2.2 he
theorem zpx {p:RSt} (h:P7 p) (hn:N7 p) (he:p.e=0):Res7 p [(zd6 p).1] (zd6 p).2:=by
 unfold zd6;split
 ·refine⟨(zaI h).1,hn.of (zaI h).2.1 (zaI h).1.e,by rw[(zaI h).2.1,zN];omega,zpq z011 z011,fun _=>zj _⟩
 ·rename_i w _;obtain⟨b1,b2,b3⟩:=zfL h hn (hn.e0 he);obtain⟨⟨c1,c2⟩,c3,c4⟩:=zpy w b1.ok;exact⟨b1.trans c1,b2.of c2 c1.e,by rw[c2,b3,zN];omega,zpq ⟨c3.1,by omega⟩ (by rw[c4];decide),fun _=>zj _⟩
def rem7 (p:RSt):Nat:=(((zf p.1:Nat):Int) - RTk.at p.t).toNat
theorem Go7.rem {p q:RSt} (h:Go7 p q):rem7 q≤rem7 p:=by
 unfold rem7;rw[h.s];have:=h.on;omega
theorem zsR {p q:RSt} (h:Go7 p q) (hp:P7 p) (ha:RTk.at p.t < RTk.at q.t):rem7 q < rem7 p:=by
 obtain⟨⟨a1,a2,a3⟩,_⟩:=h.ok;unfold rem7;rw[h.s]at *;have:0≤((yc q.t).length:Int):=by omega
 have:(0:Int)≤(if zt q.t=2 then 1 else 0):=by split<;>decide
 omega
def Rec7 (p:RSt) (rec:RSt->List Nd×RSt):Prop:=∀ b,P7 b->N7 b->rem7 b≤rem7 p->Res7 b (rec b).1 (rec b).2
theorem znG {p q:RSt} {r:List Nd} {rec:RSt->List Nd×RSt} (h:Res7 p r q) (hrec:Rec7 p rec) (he:q.e=0) (n:Nd):Res7 p (zeg r (rec (zaz q)).1 n) (rec (zaz q)).2:=by
 obtain⟨b1,b2,b3⟩:=zfL h.go.ok h.n (h.n.e0 he);have x:=hrec _ b1.ok b2 (h.go.trans b1).rem;have l1:=h.len;have l2:=x.len;exact⟨(h.go.trans b1).trans x.go,x.n,by rw[zhp];omega,zpr h.rb x.rb n,fun _=>by have:=zhp r (rec (zaz q)).1 n;omega⟩
theorem zkP {p:RSt} {rec:RSt->List Nd×RSt} (hrec:Rec7 p rec) {l:Nat}:∀ (f:Nat) {r:List Nd} {q:RSt},Res7 p r q->Res7 p (zdN rec l f r q).1 (zdN rec l f r q).2
 |0,_,_,h=>h
 |f+1,r,q,h=>by
  rw[zdN];split
  ·rename_i hi;exact zkP hrec f (znG h hrec (rIs_e hi) _)
  ·exact h
theorem zmO {p q:RSt} {r:List Nd} {rec:RSt->List Nd×RSt} (h:Res7 p r q) (hrec:Rec7 p rec) (he:q.e=0) (w:SufW):Res7 p (zbY rec w r q).1 (zbY rec w r q).2:=by
 obtain⟨b1,b2,b3⟩:=zfL h.go.ok h.n (h.n.e0 he);obtain⟨⟨c1,c2⟩,c3⟩:=zjF w b1.ok;have n1:N7 (zbZ w (zaz q)).2:=b2.of c2 c1.e;have l1:=h.len;have un:Res7 p (ziN r (zbZ w (zaz q)).1) (zbZ w (zaz q)).2:=⟨(h.go.trans b1).trans c1,n1,by rw[znb];omega,ztN h.rb _ (by rw[c3];decide),fun _=>by have:=znb r (zbZ w (zaz q)).1;omega⟩;cases w with
 |behind=>
  have x:=hrec _ c1.ok n1 ((h.go.trans b1).trans c1).rem;have l2:=x.len;exact⟨((h.go.trans b1).trans c1).trans x.go,x.n,by
   show ((zeg r (rec (zbZ .behind (zaz q)).2).1 (zbZ .behind (zaz q)).1).length:Int)≤2 * ((rec (zbZ .behind (zaz q)).2).2.nodes - p.nodes)+1;rw[zhp];omega,zpr h.rb x.rb _,fun _=>by
   have:=zhp r (rec (zbZ .behind (zaz q)).2).1 (zbZ .behind (zaz q)).1;show 1≤(zeg r (rec (zbZ .behind (zaz q)).2).1 (zbZ .behind (zaz q)).1).length;omega⟩
 |_=>exact un
theorem zhP {p:RSt} {rec:RSt->List Nd×RSt} (hrec:Rec7 p rec):∀ (f:Nat) {r:List Nd} {q:RSt},Res7 p r q->Res7 p (zbs rec f r q).1 (zbs rec f r q).2
 |0,_,_,h=>h
 |f+1,r,q,h=>by
  rw[zbs];split
  ·rename_i hc;split
   ·exact h
   ·rename_i w _;exact zhP hrec f (zmO h hrec hc.1 w)
  ·exact h
def mdF7:RMd->Nat
 | .bin l=>7 - l
 | .chain=>2
 | .prim=>1
def zh1 (md:RMd) (p:RSt):Nat:=8 * rem7 p+mdF7 md
theorem zdT:∀ (k:Nat) (md:RMd) (p:RSt),P7 p->N7 p->(∀ l,md= .bin l->1≤l∧l≤4)->zh1 md p < k->Res7 p (rPrs k md p).1 (rPrs k md p).2
 |0,_,_,_,_,_,hm=>absurd hm (yg _)
 |k+1,.bin l,p,h,hn,hl,hm=>by
  have hl:=hl l rfl;have hm:8 * rem7 p+(7 - l) < k+1:=hm;rw[rPrs];split
  ·exact zdT k .chain p h hn (fun _ e=>by cases e) (by show 8 * rem7 p+2 < k;omega)
  ·rename_i h3;have hrec:Rec7 p (rPrs k (.bin (l+1))):=fun b hb hnb hr=>zdT k (.bin (l+1)) b hb hnb (fun _ e=>by cases e;omega) (by show 8 * rem7 b+(7 - (l+1)) < k;omega);exact zkP hrec _ (hrec p h hn (zj _))
 |k+1,.chain,p,h,hn,hl,hm=>by
  have hm:8 * rem7 p+2 < k+1:=hm;rw[rPrs];have hrec:Rec7 p (rPrs k .prim):=fun b hb hnb hr=>zdT k .prim b hb hnb (fun _ e=>by cases e) (by show 8 * rem7 b+1 < k;omega);exact zhP hrec _ (hrec p h hn (zj _))
 |k+1,.prim,p,h,hn,hl,hm=>by
  have hm:8 * rem7 p+1 < k+1:=hm;rw[rPrs];unfold zkN;split
  ·rename_i he;split
   ·rename_i hi;obtain⟨a1,a2,a3,a4⟩:=zcU h;have hlt:=zsR a1 h (a4 he (ztP hi));have x:=zdT k (.bin 1) _ a1.ok (hn.of a2 a1.e) (fun _ e=>by cases e;omega) (by show 8 * rem7 (zbB p)+(7 - 1) < k;omega);obtain⟨m1,m2⟩:=zen x.go.ok (w:=zbu);have l1:=x.len;exact⟨(a1.trans x.go).trans m1,x.n.of m2 m1.e,by
     show ((rPrs k (.bin 1) (zbB p)).1.length:Int)≤2 * ((zb5 (rPrs k (.bin 1) (zbB p)).2 zbu).nodes - p.nodes)+1;rw[m2];omega,x.rb,fun e=>x.ne (by
     by_cases e0:(rPrs k (.bin 1) (zbB p)).2.e=0
     ·exact e0
     ·exact absurd e (m1.e e0))⟩
   ·split
    ·have h1:Go7 p (if 32 < (yc p.t).length then zat p 2 else p)∧(if 32 < (yc p.t).length then zat p 2 else p).nodes=p.nodes:=by
      split
      ·exact⟨(zaI h).1,(zaI h).2.1⟩
      ·exact⟨Go7.refl h,rfl⟩
     obtain⟨g1,n1⟩:=h1;obtain⟨b1,b2,b3⟩:=zfL g1.ok (hn.of n1 g1.e) (by rw[n1];exact hn.e0 he);exact⟨g1.trans b1,b2,by
      show (([_]:List Nd).length:Int)≤2 * ((zaz _).nodes - p.nodes)+1;rw[b3,n1,zN];omega,zpq z011 z011,fun _=>zj _⟩
    ·split
     ·exact zpx h hn he
     ·exact⟨(zaI h).1,hn.of (zaI h).2.1 (zaI h).1.e,by
       show (([]:List Nd).length:Int)≤2 * ((zat p 3).nodes - p.nodes)+1;rw[(zaI h).2.1,zX];omega,fun m hm=>(by cases hm),fun e=>absurd e ((zaI h).2.2.2 (by decide))⟩
  ·rename_i he;exact Res7.nil h hn he
section
variable {s:List UInt8}
def Scn (s:List UInt8) (st:GSt):Prop:=∃ o,st.1=zc1 s o
theorem zrn {o:Int} (h:zF (zc1 s o)=2):zD (zc1 s o)≠ []∧(zD (zc1 s o)).head?.all isLt=true∧(zD (zc1 s o)).all isPt=true:=by
 have h1:zD (zc1 s o)=zD (za2 (s.drop o.toNat)):=rfl;have h2:zF (zc1 s o)=zF (za2 (s.drop o.toNat)):=rfl;rw[h2]at h;rw[h1];rw[zjA]at h ⊢;generalize ((zaD isWh (s.drop o.toNat):Nat):Int)=k at *;generalize (s.drop o.toNat).drop (zaD isWh (s.drop o.toNat))=u at *;unfold zdY at h ⊢;cases u with
 |nil=>cases h
 |cons c r=>
  simp only[]at h ⊢;split at h
  ·cases h
  ·rename_i h0;split at h
   ·rename_i h1;rw[if_neg h0,if_pos h1];show r.take (zaw r)≠ []∧(r.take (zaw r)).head?.all isLt=true∧(r.take (zaw r)).all isPt=true;obtain⟨_,hw⟩:=h1;cases r with
    |nil=>exact absurd hw (by decide)
    |cons d q=>
     have hd:isLt d=true:=by
      cases hd:isLt d with
      |true=>rfl
      |false=>
       have:zaw (d::q)=0:=by show (if isLt d then zaD isPt (d::q) else 0)=0;rw[hd];rfl
       omega
     have hp:=(zjR d hd).1;have hwl:zaw (d::q)=((d::q).takeWhile isPt).length:=by show (if isLt d then zaD isPt (d::q) else 0)=_;rw[if_pos hd];rfl
     have ht:(d::q).take (zaw (d::q))=(d::q).takeWhile isPt:=by
      rw[hwl];exact (xI.1 (yq isPt)).symm
     rw[ht];refine⟨?_,?_,vC⟩
     ·rw[yE,hp];simp
     ·rw[yE,hp];exact hd
   ·rename_i h1;split at h
    ·rename_i kk nn tt xx hn;have h:kk=2:=h;rcases (zkW hn).1 with e|e<;>omega
    ·split at h<;>cases h
theorem ze5 {st st':GSt} {w:List UInt8} (he:za0 s st w= .ok st'):Scn s st':=by
 obtain⟨u,_,h2⟩:=zaj he;cases h2;exact⟨_,rfl⟩
theorem zhE {st st':GSt} (he:zbj s st= .ok st'):Scn s st':=by
 obtain⟨u,_,h2⟩:=zaj he;cases h2;exact⟨_,rfl⟩
theorem zd4 {st st':GSt} {lo hi x:Int} (he:zaR s st lo hi= .ok (x,st')):Scn s st':=by
 obtain⟨_,_,he⟩:=zaj he;obtain⟨_,_,he⟩:=zaj he;cases he;exact⟨_,rfl⟩
theorem zkF {st st':GSt} {x:Int} (he:zdt s st= .ok (x,st')):Scn s st'∧(x=0∨x=1):=by
 obtain⟨_,_,he⟩:=zaj he;cases he;refine⟨⟨_,rfl⟩,?_⟩;split
 ·exact .inr rfl
 ·exact .inl rfl
theorem zmV {lo hi:Int} {z:Bool} {x:Int} (h1:lo≤x) (h2:x≤hi) (h3:z=true∨x≠0):∀ {l:List Int} {last:Int},Ris lo hi z last l->l.getLast?.getD last < x->Ris lo hi z last (l++ [x])
 | [],_,_,h=>⟨h,h1,h2,h3,trivial⟩
 |y::r,last,h,hx=>by
  obtain⟨a,b,c,d,e⟩:=h;refine⟨a,b,c,d,zmV h1 h2 h3 e ?_⟩;rw[List.getLast?_cons]at hx;exact hx
theorem zjk {lo hi:Int} {z:Bool}:∀ (k:Nat) {st st':GSt} {l l':List Int},GOk s st->zci s lo hi z k st l= .ok (l',st')->l.length≤64->Ris lo hi z (lo - 1) l->l'≠ []∧l'.length≤64∧Ris lo hi z (lo - 1) l'
 |0,_,_,_,_,_,he,_,_=>by cases he
 |k+1,st,st',l,l',h,he,hlen,hr=>by
  unfold zci at he;split at he
  ·rename_i hc;cases he;refine⟨fun e=>?_,hlen,hr⟩;rw[e]at hc;exact absurd hc (by simp)
  ·obtain⟨_,_,he⟩:=zaj he;obtain⟨_,c2,he⟩:=zaj he;obtain⟨_,c3,he⟩:=zaj he;obtain⟨⟨x,st1⟩,h1,he⟩:=zaj he;have c2:=of_decide_eq_true (zbb c2);have c3:=zbb c3;rw[zd,decide_eq_true_iff,zJ,bne_iff_ne]at c3;have h2:=zan h h1;have hx:Tok.n st.1=x:=by
    obtain⟨_,_,he⟩:=zaj h1;obtain⟨_,_,he⟩:=zaj he;cases he;rfl
   rw[hx]at c3;exact zjk k h2.1.1 he (by rw[zh,zN];omega) (zmV h2.2.1 h2.2.2 c3.2 hr c3.1)
theorem zdG {st st':GSt} {lo hi:Int} {z:Bool} {l:List Int} (h:GOk s st) (he:zdc s st lo hi z= .ok (l,st')):(l≠ []∧l.length≤64∧Ris lo hi z (lo - 1) l)∧Scn s st':=by
 unfold zdc at he;obtain⟨st1,h1,he⟩:=zaj he;obtain⟨⟨l1,st2⟩,h2,he⟩:=zaj he;obtain⟨st3,h3,he⟩:=zaj he;cases he;exact⟨zjk _ (zbm h h1).1 h2 (zk _) trivial,ze5 h3⟩
end
theorem zsQ {lo hi:Int} {z:Bool}:∀ {l:List Int} {last:Int},Ris lo hi z last l->∀ i,i < l.length->(lo≤l.getD i 0∧l.getD i 0≤hi)∧(0 < i->l.getD (i - 1) 0 < l.getD i 0)∧(z=true∨l.getD i 0≠0)
 | [],_,_,i,hi=>absurd hi (yg _)
 |x::r,last,h,i,hi=>by
  obtain⟨a,b,c,d,e⟩:=h;cases i with
  |zero=>exact⟨⟨b,c⟩,fun h=>absurd h (Nat.lt_irrefl _),d⟩
  |succ i=>
   obtain⟨h1,h2,h3⟩:=zsQ e i (by rw[zr]at hi;omega);refine⟨h1,fun _=>?_,h3⟩;cases i with
   |zero=>
    cases r with
    |nil=>rw[zr,zX]at hi;omega
    |cons y r=>exact e.1
   |succ i=>exact h2 (by omega)
theorem zh4 {l:List Int} {lo hi:Int} {z:Bool} (h0:¬ (lo=0∧hi=0)) (hz:z=decide (¬ lo < 0)) (hne:l≠ []) (h:Ris lo hi z (lo - 1) l):za3 l (lo,hi,())=true:=by
 have hz0:zh2 (lo,hi,())=false:=by
  rw[qg];intro e;unfold zh2 at e;rw[zd,beq_iff_eq,beq_iff_eq]at e;exact h0 e
 unfold za3;rw[hz0,cond_false,zd,decide_eq_true_iff,zW];refine⟨fun i hi=>?_,by have:=xN.2 hne;omega⟩;obtain⟨⟨a,b⟩,c,d⟩:=zsQ h i (List.mem_range.1 hi);rw[zs];unfold ziB;simp only[Bool.or_eq_false_iff,yC,zaU,Bool.and_eq_false_iff,decide_eq_false_iff_not,beq_eq_false_iff_ne];refine⟨⟨⟨a,b⟩,?_⟩,?_⟩
 ·by_cases e:0 < i
  ·exact .inr (by have:=c e;omega)
  ·exact .inl e
 ·rcases d with d|d
  ·rw[hz]at d;exact .inr (of_decide_eq_true d)
  ·exact .inl d
theorem and4 {a b c d:Bool} (ha:a=true) (hb:b=true) (hc:c=true) (hd:d=true):((true&&a)&&(b&&(true&&(c&&d))))=true:=by rw[ha,hb,hc,hd];rfl
theorem zc5 {n lo hi:Int} (h:lo≤n∧n≤hi):inB n lo hi=true:=zaU.2 h
section
variable {s:List UInt8}
theorem zsh {st st':GSt} {n:Nd} (h:GOk s st):∀ (w:LeafW),zcl s st w= .ok (n,st')->TrOk (.leaf n)∧Scn s st'
 | .days,he=>by
  obtain⟨⟨x,a⟩,h1,he⟩:=zaj he;obtain⟨⟨y,b⟩,h2,he⟩:=zaj he;cases he;have k1:=zan h h1;have k2:=zan k1.1.1 h2;refine⟨⟨?_,by show ¬ ((8:Int)≤1∧_);omega,rfl,fun _=>rfl⟩,zd4 h2⟩;exact and4 (a:=true) (b:=true) (c:=true) rfl rfl rfl (show (bif inB x 1 1099511627776 then inB y 0 1099511627776 else false)=true by rw[zc5 (hi:=1099511627776) k1.2,zc5 (hi:=1099511627776) k2.2];rfl)
 | .years,he=>by
  obtain⟨⟨c,a⟩,h0,he⟩:=zaj he;obtain⟨⟨x,b⟩,h1,he⟩:=zaj he;obtain⟨⟨y,d⟩,h2,he⟩:=zaj he;cases he;have k0:=zan h h0;have k1:=zan k0.1.1 h1;have k2:=zan k1.1.1 h2;refine⟨⟨?_,by show ¬ ((8:Int)≤2∧_);omega,rfl,fun _=>rfl⟩,zd4 h2⟩;exact and4 (a:=true) (b:=inB c 0 2) (c:=true) rfl (zc5 k0.2) rfl (show (bif inB x 1 400 then inB y 0 (x - 1) else false)=true by rw[zc5 k1.2,zc5 k2.2];rfl)
 | .months,he=>by
  obtain⟨⟨c,a⟩,h0,he⟩:=zaj he;obtain⟨⟨l,b⟩,h1,he⟩:=zaj he;cases he;have k0:=zan h h0;obtain⟨⟨a1,a2,a3⟩,sc⟩:=zdG k0.1.1 h1;refine⟨⟨?_,by show ¬ ((8:Int)≤3∧_);omega,rfl,fun _=>rfl⟩,sc⟩;exact and4 (a:=decide (l.length≤64)) (b:=inB c 0 2) (c:=za3 l (1,16,())) (d:=true) (decide_eq_true a2) (zc5 k0.2) (zh4 (by decide) (by decide) a1 a3) rfl
 | .monthdays,he=>by
  obtain⟨⟨c,a⟩,h0,he⟩:=zaj he;obtain⟨⟨l,b⟩,h1,he⟩:=zaj he;cases he;have k0:=zan h h0;obtain⟨⟨a1,a2,a3⟩,sc⟩:=zdG k0.1.1 h1;refine⟨⟨?_,by show ¬ ((8:Int)≤4∧_);omega,rfl,fun _=>rfl⟩,sc⟩;exact and4 (a:=decide (l.length≤64)) (b:=inB c 0 2) (c:=za3 l (-40,40,())) (d:=true) (decide_eq_true a2) (zc5 k0.2) (zh4 (by decide) (by decide) a1 a3) rfl
 | .weekdays,he=>by
  obtain⟨⟨l,b⟩,h1,he⟩:=zaj he;cases he;obtain⟨⟨a1,a2,a3⟩,sc⟩:=zdG h h1;refine⟨⟨?_,by show ¬ ((8:Int)≤5∧_);omega,rfl,fun _=>rfl⟩,sc⟩;exact and4 (a:=decide (l.length≤64)) (b:=true) (c:=za3 l (0,6,())) (d:=true) (decide_eq_true a2) rfl (zh4 (by decide) (by decide) a1 a3) rfl
 | .weeks,he=>by
  obtain⟨⟨c,a⟩,h0,he⟩:=zaj he;obtain⟨⟨l,b⟩,h1,he⟩:=zaj he;cases he;have k0:=zan h h0;obtain⟨⟨a1,a2,a3⟩,sc⟩:=zdG k0.1.1 h1;refine⟨⟨?_,by show ¬ ((8:Int)≤6∧_);omega,rfl,fun _=>rfl⟩,sc⟩;exact and4 (a:=decide (l.length≤64)) (b:=inB c 0 2) (c:=za3 l (1,54,())) (d:=true) (decide_eq_true a2) (zc5 k0.2) (zh4 (by decide) (by decide) a1 a3) rfl
 | .nth,he=>by
  obtain⟨⟨c,a⟩,h0,he⟩:=zaj he;obtain⟨_,hz,he⟩:=zaj he;obtain⟨⟨x,b⟩,h1,he⟩:=zaj he;obtain⟨⟨y,d⟩,h2,he⟩:=zaj he;obtain⟨⟨u,e⟩,h3,he⟩:=zaj he;cases he;have k0:=zan h h0;have k1:=zan k0.1.1 h1;have k2:=zan k1.1.1 h2;obtain⟨sc,hu⟩:=zkF h3;have hz:=zbb hz;obtain⟨_,c1,hm⟩:=zaj h1;obtain⟨_,_,hm⟩:=zaj hm;have hx:Tok.n a.1=x:=by cases hm;rfl
  have c1:=beq_iff_eq.1 (zbb c1);rw[c1,hx]at hz;have hx0:x≠0:=by simpa using hz
  refine⟨⟨?_,by show ¬ ((8:Int)≤7∧_);omega,rfl,fun e=>absurd rfl e⟩,sc⟩;refine and4 (a:=true) (b:=inB c 0 2) (c:=true) rfl (zc5 k0.2) rfl (show (bif (bif (bif inB x (-60) 60 then !(x==0) else false) then inB y 0 6 else false) then inB u 0 1 else false)=true from ?_);rw[zc5 k1.2,zc5 k2.2,zc5 (n:=u) (lo:=0) (hi:=1) (by omega),beq_eq_false_iff_ne.2 hx0];rfl
theorem zjZ {st st':GSt} {n:Nd} (h:GOk s st):∀ (w:SufW),gSuf s st w= .ok (n,st')->(zbI n=true∧(ndL n=0∧ndR n=0)∧(match w with | .behind=>ndK n=17|_=>11≤ndK n∧ndK n≤16))∧Scn s st'
 | .shift,he=>by
  obtain⟨⟨x,a⟩,h1,he⟩:=zaj he;cases he;have k1:=zan h h1;refine⟨⟨?_,⟨rfl,rfl⟩,by show (11:Int)≤11∧(11:Int)≤16;omega⟩,zd4 h1⟩;exact and4 (a:=true) (b:=true) (c:=true) rfl rfl rfl (show (bif inB x (-1099511627776) 1099511627776 then true else false)=true by rw[zc5 (lo:=-1099511627776) (hi:=1099511627776) k1.2];rfl)
 | .from_,he=>by
  obtain⟨⟨x,a⟩,h1,he⟩:=zaj he;cases he;have k1:=zan h h1;refine⟨⟨?_,⟨rfl,rfl⟩,by show (11:Int)≤12∧(12:Int)≤16;omega⟩,zd4 h1⟩;exact and4 (a:=true) (b:=true) (c:=true) rfl rfl rfl (show (bif inB x 0 1099511627776 then true else false)=true by rw[zc5 (hi:=1099511627776) k1.2];rfl)
 | .until_,he=>by
  obtain⟨⟨x,a⟩,h1,he⟩:=zaj he;cases he;have k1:=zan h h1;refine⟨⟨?_,⟨rfl,rfl⟩,by show (11:Int)≤13∧(13:Int)≤16;omega⟩,zd4 h1⟩;exact and4 (a:=true) (b:=true) (c:=true) rfl rfl rfl (show (bif inB x 0 1099511627776 then true else false)=true by rw[zc5 (hi:=1099511627776) k1.2];rfl)
 | .also,he=>by
  obtain⟨⟨l,b⟩,h1,he⟩:=zaj he;cases he;obtain⟨⟨a1,a2,a3⟩,sc⟩:=zdG h h1;refine⟨⟨?_,⟨rfl,rfl⟩,by show (11:Int)≤14∧(14:Int)≤16;omega⟩,sc⟩;exact and4 (a:=decide (l.length≤64)) (b:=true) (c:=za3 l (0,1099511627776,())) (d:=true) (decide_eq_true a2) rfl (zh4 (by decide) (by decide) a1 a3) rfl
 | .except_,he=>by
  obtain⟨⟨l,b⟩,h1,he⟩:=zaj he;cases he;obtain⟨⟨a1,a2,a3⟩,sc⟩:=zdG h h1;refine⟨⟨?_,⟨rfl,rfl⟩,by show (11:Int)≤15∧(15:Int)≤16;omega⟩,sc⟩;exact and4 (a:=decide (l.length≤64)) (b:=true) (c:=za3 l (0,1099511627776,())) (d:=true) (decide_eq_true a2) rfl (zh4 (by decide) (by decide) a1 a3) rfl
 | .pos,he=>by
  obtain⟨⟨c,a⟩,h0,he⟩:=zaj he;obtain⟨⟨m,b⟩,h1,he⟩:=zaj he;obtain⟨⟨l,d⟩,h2,he⟩:=zaj he;cases he;have k0:=zan h h0;obtain⟨_,hm⟩:=zkF h1;obtain⟨⟨a1,a2,a3⟩,sc⟩:=zdG (zeb k0.1.1 h1).1 h2;refine⟨⟨?_,⟨rfl,rfl⟩,by show (11:Int)≤16∧(16:Int)≤16;omega⟩,sc⟩;exact and4 (a:=decide (l.length≤64)) (b:=inB c 0 2) (c:=za3 l (-400,400,())) (d:=inB m 0 1) (decide_eq_true a2) (zc5 k0.2) (zh4 (by decide) (by decide) a1 a3) (zc5 (by omega))
 | .behind,he=>by
  obtain⟨⟨x,a⟩,h1,he⟩:=zaj he;obtain⟨b,h2,he⟩:=zaj he;cases he;have k1:=zan h h1;refine⟨⟨?_,⟨rfl,rfl⟩,rfl⟩,ze5 h2⟩;exact and4 (a:=true) (b:=true) (c:=true) rfl rfl rfl (show (bif inB x 1 400 then true else false)=true by rw[zc5 k1.2];rfl)
def mdOk:Md->Prop
 | .binL i t=>i≤2∧TrOk t
 | .chainL t=>TrOk t
 |_=>True
theorem zsX {i:Nat} (h:i≤2):zbI (opK i,zNd.2)=true∧(8≤opK i∧opK i≤10):=by
 rcases (show i=0∨i=1∨i=2 by omega) with rfl|rfl|rfl
 ·exact⟨by decide+kernel,by decide⟩
 ·exact⟨by decide+kernel,by decide⟩
 ·exact⟨by decide+kernel,by decide⟩
theorem zex:∀ (k:Nat) (md:Md) (st st':GSt) (t:Tr),GOk s st->Scn s st->mdOk md->prs s k md st= .ok (t,st')->TrOk t∧Scn s st'
 |0,_,_,_,_,_,_,_,he=>by cases he
 |k+1,.bin i,st,st',t,h,hs,hm,he=>by
  unfold prs at he;rw[zbe]at he;split at he
  ·exact zex k .chain _ _ _ h hs (by exact trivial) he
  ·rename_i hi;obtain⟨⟨u,a⟩,h1,he⟩:=zaj he;obtain⟨t1,s1⟩:=zex k _ _ _ _ h hs (by exact trivial) h1;have k1:=zdI h (zcb k _ _ _ _ h h1);exact zex k _ _ _ _ k1 s1 (by exact⟨by omega,t1⟩) he
 |k+1,.binL i t0,st,st',t,h,hs,hm,he=>by
  unfold prs at he;rw[zbe]at he;split at he
  ·rename_i hi;obtain⟨a,h1,he⟩:=zaj he;obtain⟨⟨u,b⟩,h2,he⟩:=zaj he;have k1:=(zaY h (zcY hi) h1).1;obtain⟨t1,s1⟩:=zex k _ _ _ _ k1 (zhE h1) (by exact trivial) h2;have k2:=zdI k1 (zcb k _ _ _ _ k1 h2);obtain⟨f1,f2⟩:=zsX hm.1;exact zex k _ _ _ _ k2 s1 (by exact⟨hm.1,f1,.inl f2,⟨rfl,rfl⟩,hm.2,t1⟩) he
  ·cases he;exact⟨hm.2,hs⟩
 |k+1,.chain,st,st',t,h,hs,hm,he=>by
  unfold prs at he;rw[zbe]at he;obtain⟨⟨u,a⟩,h1,he⟩:=zaj he;obtain⟨t1,s1⟩:=zex k _ _ _ _ h hs (by exact trivial) h1;have k1:=zdI h (zcb k _ _ _ _ h h1);exact zex k _ _ _ _ k1 s1 (by exact t1) he
 |k+1,.chainL t0,st,st',t,h,hs,hm,he=>by
  unfold prs at he;rw[zbe]at he;split at he
  ·rename_i hc;split at he
   ·cases he;exact⟨hm,hs⟩
   ·obtain⟨a,h1,he⟩:=zaj he;obtain⟨⟨n,b⟩,h2,he⟩:=zaj he;obtain⟨⟨u,c⟩,h3,he⟩:=zaj he;have k1:=(zaY h (by rw[hc];decide) h1).1;have k2:=(zdo k1 _ h2).1;obtain⟨⟨f1,f2,f3⟩,s2⟩:=zjZ k1 _ h2;obtain⟨t3,s3⟩:=zex k _ _ _ _ k2 s2 (by exact trivial) h3;have k3:=zdI k2 (zcb k _ _ _ _ k2 h3);exact zex k _ _ _ _ k3 s3 (by exact⟨f1,.inr f3,f2,hm,t3⟩) he
   ·rename_i w hb hw;obtain⟨a,h1,he⟩:=zaj he;obtain⟨⟨n,b⟩,h2,he⟩:=zaj he;have k1:=(zaY h (by rw[hc];decide) h1).1;have k2:=(zdo k1 _ h2).1;obtain⟨⟨f1,f2,f3⟩,s2⟩:=zjZ k1 _ h2;have f4:11≤ndK n∧ndK n≤16:=by
     cases w with
     |behind=>exact absurd rfl hb
     |shift=>exact f3
     |from_=>exact f3
     |until_=>exact f3
     |also=>exact f3
     |except_=>exact f3
     |pos=>exact f3
    exact zex k _ _ _ _ k2 s2 (by exact⟨f1,f4,f2,hm⟩) he
  ·cases he;exact⟨hm,hs⟩
 |k+1,.prim,st,st',t,h,hs,hm,he=>by
  unfold prs at he;rw[zbe]at he;split at he
  ·rename_i hi;obtain⟨⟨u,a⟩,h1,he⟩:=zaj he;obtain⟨b,h2,he⟩:=zaj he;cases he;have k0:=zb2 h (zcY hi);exact⟨(zex k _ _ _ _ k0.1 ⟨_,rfl⟩ (by exact trivial) h1).1,ze5 h2⟩
  ·split at he
   ·rename_i hc;obtain⟨_,h0,he⟩:=zaj he;obtain⟨a,h1,he⟩:=zaj he;cases he;refine⟨⟨?_,by show ¬ ((8:Int)≤18∧(18:Int)≤17);omega,rfl,fun _=>rfl⟩,zhE h1⟩;have hl:=of_decide_eq_true (zbb h0);obtain⟨o,ho⟩:=hs;rw[ho]at hc hl ⊢;obtain⟨r1,r2,r3⟩:=zrn hc;generalize zD (zc1 s o)=w at *;refine and4 (a:=true) (b:=true) (c:=zfh w) (d:=true) rfl rfl ?_ rfl;unfold zfh;rw[decide_eq_true r1,decide_eq_true hl,r2,r3];rfl
   ·obtain⟨_,h0,he⟩:=zaj he;have hc:=zbb h0;rw[beq_iff_eq]at hc;split at he
    ·cases he
    ·obtain⟨a,h1,he⟩:=zaj he;obtain⟨⟨n,b⟩,h2,he⟩:=zaj he;cases he;have k1:=(zaY h (by rw[hc];decide) h1).1;exact zsh k1 _ h2
end
structure TkR (t:RTk) (u:TokT):Prop where
 k:zt t=zF u
 a:RTk.at t=Tok.at u
 x:yc t=zD u
 z:rSz t=Tok.size u
 n:zF u=3->yG t=Tok.n u
theorem zph (l:List UInt8):rn l=min (numv l) zcv:=by
 obtain⟨m,hm⟩:∃ m,l.length=m:=⟨_,rfl⟩
 induction m generalizing l with
 |zero=>
  obtain rfl:=List.length_eq_zero_iff.1 hm;rfl
 |succ m ih=>
  obtain⟨a,c,rfl⟩:∃ a c,l=a++ [c]:=by
   rcases km l with rfl|⟨a,c,e⟩
   ·cases hm
   ·exact⟨a,c,by rw[e,kn]⟩
  have ha:a.length=m:=by simpa using hm
  rw[zlY,ih a ha];have hn:numv (a++ [c])=10 * numv a+(c.toNat - 48):=by
   unfold numv;rw[jT];rfl
  rw[hn];unfold zcv;omega
theorem zhy (p:UInt8->Bool) (l:List UInt8):l.take (l.takeWhile p).length=l.takeWhile p:=(xI.1 (yq p)).symm
theorem wl_lt {c:UInt8} {r:List UInt8} (h:isLt c=true):zaw (c::r)=((c::r).takeWhile isPt).length:=if_pos h
theorem zmH {l:List UInt8}:0 < zaw l↔l.head?.any isLt=true:=by
 cases l with
 |nil=>exact⟨fun h=>absurd h (by decide),fun h=>by cases h⟩
 |cons c r=>
  show 0 < (if isLt c then ((c::r).takeWhile isPt).length else 0)↔isLt c=true;split
  ·rename_i h;exact⟨fun _=>h,fun _=>zhz (zjR c h).1⟩
  ·rename_i h;exact⟨fun h'=>absurd h' (by decide),fun h'=>absurd h' h⟩
theorem wl_tw {l:List UInt8} (h:l.head?.any isLt=true):zaw l=(l.takeWhile isPt).length:=by
 cases l with
 |nil=>cases h
 |cons c r=>exact wl_lt h
def zmZ (a:Int) (u:List UInt8):RTk:=match u with
 | []=>(0,a,[],0,())
 |c::q=>
  if isLt c then (1,a,(c::q).takeWhile isPt,0,())
  else if c=64∧q.head?.any isLt=true then (2,a,q.takeWhile isPt,0,())
  else if isDg c=true∨c=45∧q.head?.any isDg=true then zcu a (c::q)
  else if c=40∨c=41∨c=61 then (4,a,[c],0,()) else (5,a,[c],0,())
theorem zm4 {c:UInt8} {q:List UInt8}:(zaP (c::q)).length=0↔¬ (isDg c=true∨c=45∧q.head?.any isDg=true):=by
 unfold zaP;by_cases h:c=45
 ·subst h;rw[show zaV (45::q)=1 from rfl];cases q with
  |nil=>exact⟨fun _=>by decide,fun _=>rfl⟩
  |cons d q=>
   show ((d::q).takeWhile isDg).length=0↔¬ (isDg 45=true∨(45:UInt8)=45∧isDg d=true);rw[yE];cases hd:isDg d with
   |true=>exact⟨fun h=>(by cases h),fun h=>absurd (Or.inr ⟨rfl,rfl⟩) h⟩
   |false=>exact⟨fun _=>by decide,fun _=>rfl⟩
 ·rw[show zaV (c::q)=0 from if_neg (fun e=>h (zx e))];show ((c::q).takeWhile isDg).length=0↔_;rw[yE];cases hd:isDg c with
  |true=>exact⟨fun h=>(by cases h),fun h=>absurd (Or.inl rfl) h⟩
  |false=>exact⟨fun _=>fun h'=>by rcases h' with h'|⟨h',_⟩;cases h';exact h h',fun _=>rfl⟩
theorem num_R {a:Int} {c:UInt8} {q:List UInt8} (h:isDg c=true∨c=45∧q.head?.any isDg=true):∃ k n t x,zcQ (c::q)=some (k,n,t,x)∧TkR (zcu a (c::q)) (k,a,(n:Nat),t,x,()):=by
 have hne:¬ (zaP (c::q)).length=0:=fun e=>zm4.1 e h;unfold zcQ;rw[if_neg hne];have hk:∀ (P:Prop) [Decidable P] (x:Int×List UInt8×Int×Unit),zt (if P then 5 else 3,x)≠2:=fun P _ x=>by
  show (if P then (5:Int) else 3)≠2;split<;>decide
 by_cases hc:c=45
 ·subst hc;have hs:zaV (45::q)=1:=rfl;have hd:zaP (45::q)=q.takeWhile isDg:=rfl;have hv:valN (45::q)= -((min (numv (q.takeWhile isDg)) zcv:Nat):Int):=rfl;rw[hs,hd,hv];rw[hd]at hne;have hr:zcu a (45::q)=(if (q.takeWhile isDg).head? =some 48∧(true=true∨1 < (q.takeWhile isDg).length) then 5 else 3,a,45::q.takeWhile isDg,-((rn (q.takeWhile isDg):Nat):Int),()):=rfl;rw[hr,zph];have ht:(45::q).take (1+(q.takeWhile isDg).length)=45::q.takeWhile isDg:=by rw[Nat.add_comm,qV,zhy]
  rw[ht];have hz:∀ (k:Int),k≠2->rSz (k,a,45::q.takeWhile isDg,-((min (numv (q.takeWhile isDg)) zcv:Nat):Int),())=((1+(q.takeWhile isDg).length:Nat):Int):=fun k hk=>by
   show (((45::q.takeWhile isDg).length:Nat):Int)+(if k=2 then 1 else 0)=_;rw[if_neg hk,zr];omega
  by_cases h0:(q.takeWhile isDg).head? =some 48
  ·rw[if_pos ⟨h0,by omega⟩,if_pos ⟨h0,.inl rfl⟩];exact⟨_,_,_,_,rfl,rfl,rfl,rfl,hz 5 (by decide),fun h=>by cases h⟩
  ·rw[if_neg fun h=>h0 h.1,if_neg fun h=>h0 h.1];exact⟨_,_,_,_,rfl,rfl,rfl,rfl,hz 3 (by decide),fun _=>rfl⟩
 ·have hs:zaV (c::q)=0:=if_neg (fun e=>hc (zx e));have hd:zaP (c::q)=(c::q).takeWhile isDg:=by unfold zaP;rw[hs];rfl
  have hv:valN (c::q)=((min (numv ((c::q).takeWhile isDg)) zcv:Nat):Int):=by unfold valN;rw[hs,hd];rfl
  rw[hs,hd,hv];rw[hd]at hne;have hn45:((c::q).head? ==some 45)=false:=beq_eq_false_iff_ne.2 fun e=>hc (zx e);have hr:zcu a (c::q)=(if ((c::q).takeWhile isDg).head? =some 48∧(false=true∨1 < ((c::q).takeWhile isDg).length) then 5 else 3,a,(c::q).takeWhile isDg,((rn ((c::q).takeWhile isDg):Nat):Int),()):=by
   unfold zcu;rw[hn45];rfl
  rw[hr,zph,Nat.zero_add,zhy];have hz:∀ (k:Int),k≠2->rSz (k,a,(c::q).takeWhile isDg,((min (numv ((c::q).takeWhile isDg)) zcv:Nat):Int),())=((((c::q).takeWhile isDg).length:Nat):Int):=fun k hk=>by
   show ((((c::q).takeWhile isDg).length:Nat):Int)+(if k=2 then 1 else 0)=_;rw[if_neg hk];omega
  by_cases h0:((c::q).takeWhile isDg).head? =some 48∧1 < ((c::q).takeWhile isDg).length
  ·rw[if_pos h0,if_pos ⟨h0.1,.inr h0.2⟩];exact⟨_,_,_,_,rfl,rfl,rfl,rfl,hz 5 (by decide),fun h=>by cases h⟩
  ·rw[if_neg h0,if_neg fun h=>h0 ⟨h.1,h.2.resolve_left (by decide)⟩];exact⟨_,_,_,_,rfl,rfl,rfl,rfl,hz 3 (by decide),fun _=>rfl⟩
theorem ztL (a:Int) (u:List UInt8):TkR (zmZ a u) (zdY a u):=by
 cases u with
 |nil=>exact⟨rfl,rfl,rfl,rfl,fun h=>by cases h⟩
 |cons c q=>
  unfold zmZ zdY;simp only[];by_cases h1:isLt c=true
  ·rw[if_pos h1,if_pos (zmH (l:=c::q).2 h1),wl_lt h1,zhy];exact⟨rfl,rfl,rfl,Int.add_zero _,fun h=>by cases h⟩
  rw[if_neg h1,if_neg (fun h=>h1 (zmH (l:=c::q).1 h))];by_cases h2:c=64∧q.head?.any isLt=true
  ·rw[if_pos h2,if_pos ⟨h2.1,zmH.2 h2.2⟩,wl_tw h2.2,zhy];exact⟨rfl,rfl,rfl,rfl,fun h=>by cases h⟩
  have h2':¬ (c=64∧0 < zaw q):=fun h=>h2 ⟨h.1,zmH.1 h.2⟩;rw[if_neg h2,if_neg h2'];by_cases h3:isDg c=true∨c=45∧q.head?.any isDg=true
  ·rw[if_pos h3];obtain⟨k,n,t,x,e,hR⟩:=num_R (a:=a) h3;rw[e];exact hR
  rw[if_neg h3];have hno:zcQ (c::q)=none:=if_pos (zm4.2 h3);rw[hno];simp only[];split
  ·exact⟨rfl,rfl,rfl,rfl,fun h=>by cases h⟩
  ·exact⟨rfl,rfl,rfl,rfl,fun h=>by cases h⟩
theorem zpu {s:List UInt8} {o:Int} (h0:0≤o) (h1:o≤((s.length:Nat):Int)):TkR (zck s o) (zc1 s o):=by
 obtain⟨a,rfl⟩:∃ a:Nat,o=(a:Int):=⟨o.toNat,by omega⟩;have hsp:=zdS isWh (s.drop a);rw[ya]at hsp;have e1:zc1 s (a:Int)=((zdY 0 ((s.drop a).drop (zaD isWh (s.drop a)))).1,((zaD isWh (s.drop a):Nat):Int)+(a:Int),(zdY 0 ((s.drop a).drop (zaD isWh (s.drop a)))).2.2):=by
  show ((za2 (s.drop ((a:Int)).toNat)).1,(za2 (s.drop ((a:Int)).toNat)).2.1+(a:Int),(za2 (s.drop ((a:Int)).toNat)).2.2)=_;rw[zy,zjA,zjB]
 have e2:zck s (a:Int)=zmZ ((a:Int)+(zaD isWh (s.drop a):Nat)) ((s.drop a).drop (zaD isWh (s.drop a))):=by
  unfold zck zmZ;rw[zy,zed];generalize hu:(s.drop a).drop (zaD isWh (s.drop a))=u;cases u with
  |nil=>
   have:=congrArg zf hu;rw[ya,ya,zX]at this;show (0,((s.length:Nat):Int),[],0,())=(0,(a:Int)+(zaD isWh (s.drop a):Nat),[],0,());rw[show ((s.length:Nat):Int)=(a:Int)+(zaD isWh (s.drop a):Nat) by omega]
  |cons c q=>rfl
 rw[e1,e2];have h3:=ztL ((a:Int)+(zaD isWh (s.drop a):Nat)) ((s.drop a).drop (zaD isWh (s.drop a)));rw[zjB,Int.add_comm (a:Int)]at h3;rw[Int.add_comm (a:Int)];exact h3
section
variable {s:List UInt8}
structure Rl (s:List UInt8) (p:RSt) (st:GSt):Prop where
 q:p.1=s
 t:TkR p.t st.1
 b0:0≤RTk.at p.t
 b1:RTk.at p.t+rSz p.t≤((s.length:Nat):Int)
 n:p.nodes=st.2
 e:p.e=0
def Er7 (s:List UInt8) (q:RSt) (e:Int×Int):Prop:=(q.e=e.2∧q.at=e.1)∧e.2≠0∧0≤e.1∧e.1≤((s.length:Nat):Int)
def Dd (p q:RSt):Prop:=q.e=p.e∧q.at=p.at
def OkR {β:Type} (s:List UInt8) (g:Except (Int×Int) β) (R:β->Prop) (q:RSt):Prop:=match g with
 | .ok y=>R y
 | .error e=>Er7 s q e
theorem Dd.of {p q:RSt} (h:q=p):Dd p q:=by subst h;exact⟨rfl,rfl⟩
theorem OkR.bind {β γ:Type} {g:Except (Int×Int) β} {f:β->Except (Int×Int) γ} {R:β->Prop} {R':γ->Prop} {q q':RSt} (hg:OkR s g R q) (hd:q.e≠0->Dd q q') (hf:∀ y,g= .ok y->R y->OkR s (f y) R' q'):OkR s (g >>= f) R' q':=by
 cases g with
 |ok y=>exact hf y rfl hg
 |error e=>
  obtain⟨⟨h1,h2⟩,h3,h4⟩:Er7 s q e:=hg;have hd:=hd (by rw[h1];exact h3);exact⟨⟨hd.1.trans h1,hd.2.trans h2⟩,h3,h4⟩
theorem zps (t:RTk):0≤rSz t:=by unfold rSz;split<;>omega
theorem zpz {p:RSt} (h:p.e=0) (e:Int):zat p e=(p.1,p.2.1,p.nodes,e,RTk.at p.t,()):=if_pos h
theorem zqA {p:RSt} {st:GSt} (h:Rl s p st) {e:Int} (he:e≠0):Er7 s (zat p e) (Tok.at st.1,e):=by
 rw[zpz h.e];have h0:=h.b0;have h1:=h.b1;have h2:=zps p.t;have h3:RTk.at p.t=Tok.at st.1:=h.t.a;exact⟨⟨rfl,h3⟩,he,by show 0≤Tok.at st.1;omega,by show Tok.at st.1≤_;omega⟩
theorem ckP {p:RSt} {st:GSt} {b:Bool} {e:Int} {P:Prop} [Decidable P] (h:Rl s p st) (he:e≠0) (hb:b=true↔P):OkR s (zaG st b e) (fun _=>P∧Rl s (if P then p else zat p e) st) (if P then p else zat p e):=by
 unfold zaG;cases b with
 |true=>
  have hp:=hb.1 rfl;rw[if_pos hp];exact⟨hp,h⟩
 |false=>
  have hp:¬ P:=fun hp=>by have:=hb.2 hp;cases this
  rw[if_neg hp];exact zqA h he
theorem ckN {p:RSt} {st:GSt} {b:Bool} {e:Int} {P:Prop} [Decidable P] (h:Rl s p st) (he:e≠0) (hb:b=true↔¬ P):OkR s (zaG st b e) (fun _=>¬ P∧Rl s (if P then zat p e else p) st) (if P then zat p e else p):=by
 unfold zaG;cases b with
 |true=>
  have hp:=hb.1 rfl;rw[if_neg hp];exact⟨hp,h⟩
 |false=>
  have hp:P:=xg fun hp=>by have:=hb.2 hp;cases this
  rw[if_pos hp];exact zqA h he
section
variable {p:RSt} (h:p.e≠0)
include h
theorem zns (e:Int):zat p e=p:=if_neg h
theorem zf4:zbB p=p:=if_neg h
theorem zmn (P:Prop) [Decidable P] (e:Int):(if P then p else zat p e)=p:=by rw[zns h];exact ite_self _
theorem zeT (P:Prop) [Decidable P] (e:Int):(if P then zat p e else p)=p:=by rw[zns h];exact ite_self _
theorem is_d (w:List UInt8):rIs p w=false:=by
 unfold rIs;rw[beq_eq_false_iff_ne.2 h];rfl
theorem zfn (w:List UInt8):zb5 p w=p:=by
 unfold zb5;rw[zns h,ite_self,zf4 h]
theorem zu4:zaz p=zd7 p:=by
 unfold zaz;rw[zns h,ite_self];exact if_neg h
theorem zsG:Dd p (zaz p):=by rw[zu4 h];exact⟨rfl,rfl⟩
theorem zba (lo hi:Int):(zaF p lo hi).2=p:=by
 show zbB (if yG p.t < lo∨hi < yG p.t then zat (if zt p.t=3 then p else zat p 3) 1 else (if zt p.t=3 then p else zat p 3))=p;rw[zmn h,zeT h,zf4 h]
theorem zfD (lo hi:Int) (k:Nat) (l:List Int):zcW lo hi k p l=(l,p):=by
 cases k with
 |zero=>rfl
 |succ k=>exact if_neg fun h'=>h h'.1
theorem zey (lo hi:Int):(zdi p lo hi).2=p:=by
 unfold zdi;simp only[];rw[zfn h,zfD h];exact zfn h _
theorem zft:(zbO p).2=p:=by
 unfold zbO;rw[is_d h];exact zfn h _
theorem zox:(rCal p).2=p:=zba h 0 2
end
theorem zhZ {p:RSt} {st:GSt} (h:Rl s p st):Rl s (zbB p) (gAdv s st):=by
 have h2:=zps p.t;have hb0:=h.b0;have hb1:=h.b1;have ho:RTk.at p.t+((yc p.t).length:Nat)+(if zt p.t=2 then 1 else 0)=RTk.at p.t+rSz p.t:=by unfold rSz;omega
 rw[zpw h.e,ho,h.q];obtain⟨k1,k2,_⟩:=zhg (s:=s) (o:=RTk.at p.t+rSz p.t) (by omega) hb1;have hR:=zpu (s:=s) (o:=RTk.at p.t+rSz p.t) (by omega) hb1;refine⟨rfl,?_,k7 (by omega) k1,k2,h.n,h.e⟩;show TkR (zck s (RTk.at p.t+rSz p.t)) (zc1 s (Tok.at st.1+Tok.size st.1));rw[<-h.t.a, <-h.t.z];exact hR
theorem is_R {p:RSt} {st:GSt} (h:Rl s p st) (w:List UInt8):rIs p w=gIs st w:=by
 unfold rIs gIs;rw[h.e,h.t.k,h.t.x];rfl
theorem zgi {p:RSt} {st:GSt} (h:Rl s p st) (w:List UInt8):OkR s (za0 s st w) (fun st'=>Rl s (zb5 p w) st') (zb5 p w):=by
 unfold za0 zb5;refine OkR.bind (ckP (P:=rIs p w=true) h (by decide) (by rw[is_R h])) (fun hq=>.of (zf4 hq)) fun _ _ hy=>?_;exact zhZ hy.2
theorem zuM {p:RSt} {st:GSt} (h:Rl s p st):Rl s (zd7 p) (st.1,st.2+1):=⟨h.q,h.t,h.b0,h.b1,by show p.nodes+1=st.2+1;rw[h.n],h.e⟩
theorem ziA {p:RSt} {st:GSt} (h:Rl s p st):OkR s (zbj s st) (fun st'=>Rl s (zaz p) st') (zaz p):=by
 unfold zbj zaz;refine OkR.bind (ckN (P:=64≤p.nodes) h (by decide) (by rw[decide_eq_true_iff,h.n];omega)) (fun hq=>?_) fun _ _ hy=>?_
 ·have hc:zbB (zd7 (if 64≤p.nodes then zat p 2 else p))=zd7 (if 64≤p.nodes then zat p 2 else p):=if_neg hq;rw[hc];exact⟨rfl,rfl⟩
 ·exact zhZ (zuM hy.2)
theorem zcI {p:RSt} {st:GSt} (h:Rl s p st) (lo hi:Int):OkR s (zaR s st lo hi) (fun y=>(zaF p lo hi).1=y.1∧Rl s (zaF p lo hi).2 y.2) (zaF p lo hi).2:=by
 unfold zaR;show OkR s _ _ (zbB (if yG p.t < lo∨hi < yG p.t then zat (if zt p.t=3 then p else zat p 3) 1 else (if zt p.t=3 then p else zat p 3)));refine OkR.bind (ckP (P:=zt p.t=3) h (by decide) (by rw[beq_iff_eq,h.t.k])) (fun hq=>.of (by rw[zeT hq,zf4 hq])) fun _ _ hy=>?_;have hn:=h.t.n (by rw[<-h.t.k];exact hy.1);refine OkR.bind (ckN (P:=yG p.t < lo∨hi < yG p.t) hy.2 (by decide) (by rw[zd,decide_eq_true_iff,decide_eq_true_iff, <-hn];omega)) (fun hq=>.of (zf4 hq)) fun _ _ hz=>?_;exact⟨hn,zhZ hz.2⟩
theorem zpW {lo hi:Int} {z:Bool} (hz:z= !decide (lo < 0)):∀ (k:Nat) {p:RSt} {st:GSt} {l:List Int},Rl s p st->66≤l.length+k->l.length≤64->OkR s (zci s lo hi z k st l) (fun y=>(zcW lo hi k p l).1=y.1∧Rl s (zcW lo hi k p l).2 y.2) (zcW lo hi k p l).2
 |0,p,st,l,h,h1,h2=>by omega
 |k+1,p,st,l,h,h1,h2=>by
  rw[zci,zcW];by_cases hc:(!l.isEmpty&&gIs st zbu)=true
  ·rw[if_pos hc];rw[zd,zs, <-is_R h]at hc;rw[if_neg (fun h'=>by
    rcases h'.2 with e|e
    ·rw[e]at hc;exact absurd hc.1 (by decide)
    ·rw[hc.2]at e;cases e)]
   exact⟨rfl,h⟩
  ·rw[if_neg hc];rw[zd,zs, <-is_R h]at hc;rw[if_pos ⟨h.e,by
    cases hl:l with
    |nil=>exact .inl rfl
    |cons a b=>
     right;cases hi:rIs p zbu with
     |false=>rfl
     |true=>exact absurd ⟨by rw[hl];rfl,hi⟩ hc⟩]
   simp only[];have hI:ziM p lo hi l=zaF (if (l≠ []∧yG p.t≤l.getLast?.getD 0)∨(lo < 0∧yG p.t=0) then zat (if 64≤l.length then zat (if zt p.t=3 then p else zat p 3) 2 else (if zt p.t=3 then p else zat p 3)) 1 else (if 64≤l.length then zat (if zt p.t=3 then p else zat p 3) 2 else (if zt p.t=3 then p else zat p 3))) lo hi:=by
    rfl
   rw[hI];refine OkR.bind (ckP (P:=zt p.t=3) h (by decide) (by rw[beq_iff_eq,h.t.k])) (fun hq=>.of (by rw[zeT hq,zeT hq,zba hq,zfD hq])) fun _ _ hy=>?_;have hn:=h.t.n (by rw[<-h.t.k];exact hy.1);refine OkR.bind (ckN (P:=64≤l.length) hy.2 (by decide) (by rw[decide_eq_true_iff];omega)) (fun hq=>.of (by rw[zeT hq,zba hq,zfD hq])) fun _ _ hy2=>?_;have hq1:=hy.1;rw[if_neg hy2.1,if_pos hq1]at hy2 ⊢;obtain⟨h64,hy2⟩:=hy2;by_cases hA:l=[]∧yG p.t < lo
   ·obtain⟨hA,hlt⟩:=hA;rw[hA]at h64 ⊢;have hb:(decide (Tok.n st.1 > (([]:List Int).getLast?.getD (lo - 1)))&&(z||(Tok.n st.1 != 0)))=false:=by
     rw[<-hn,show decide (yG p.t > (([]:List Int).getLast?.getD (lo - 1)))=false from decide_eq_false (by show ¬ (yG p.t > lo - 1);omega)];rfl
    rw[hb,if_neg (by
     rintro (⟨h,_⟩|⟨h,h'⟩)
     ·exact h rfl
     ·omega)]
    have hN:(zaF p lo hi).2=zat p 1:=by
     show zbB (if yG p.t < lo∨hi < yG p.t then zat (if zt p.t=3 then p else zat p 3) 1 else (if zt p.t=3 then p else zat p 3))=_;rw[if_pos hq1,if_pos (.inl hlt)];refine zf4 ?_;rw[zpz h.e];exact (by decide:(1:Int)≠0)
    have hE:=zqA h (e:=1) (by decide);show Er7 s (zcW lo hi k (zaF p lo hi).2 _).2 (Tok.at st.1,1);rw[hN,zfD (by rw[hE.1.1];exact hE.2.1)];exact hE
   refine OkR.bind (ckN (P:=(l≠ []∧yG p.t≤l.getLast?.getD 0)∨(lo < 0∧yG p.t=0)) hy2 (by decide) ?_) (fun hq=>.of (by rw[zba hq,zfD hq])) fun _ _ hy3=>?_
   ·rw[zd,decide_eq_true_iff,zJ, <-hn,hz,zs,decide_eq_false_iff_not,bne_iff_ne];cases l with
    |nil=>
     have:¬ yG p.t < lo:=fun h=>hA ⟨rfl,h⟩;show (yG p.t > lo - 1∧_)↔_;constructor
     ·rintro ⟨h1,h2⟩ (⟨h3,_⟩|⟨h3,h4⟩)
      ·exact h3 rfl
      ·rcases h2 with h2|h2
       ·exact h2 h3
       ·exact h2 h4
     ·intro h1;exact⟨by omega,xg fun h2=>h1 (.inr ⟨by omega,by omega⟩)⟩
    |cons a r=>
     have hg:∀ d:Int,(a::r).getLast?.getD d=(a::r).getLast?.getD 0:=fun d=>by rw[List.getLast?_eq_some_getLast (uo a r)];rfl
     rw[hg (lo - 1)];constructor
     ·rintro ⟨h1,h2⟩ (⟨_,h3⟩|⟨h3,h4⟩)
      ·omega
      ·rcases h2 with h2|h2
       ·exact h2 h3
       ·exact h2 h4
     ·intro h1;exact⟨xg fun h2=>h1 (.inl ⟨uo a r,by omega⟩),xg fun h2=>h1 (.inr ⟨by omega,by omega⟩)⟩
   refine OkR.bind (zcI hy3.2 lo hi) (fun hq=>.of (by rw[zfD hq])) fun y _ hx=>?_;obtain⟨x,st'⟩:=y;obtain⟨hx1,hx2⟩:=hx;rw[hx1];exact zpW hz k hx2 (by rw[zh];simp;omega) (by rw[zh];simp;omega)
theorem zh5 {p:RSt} {st:GSt} (h:Rl s p st) {lo hi:Int} {z:Bool} (hz:z= !decide (lo < 0)):OkR s (zdc s st lo hi z) (fun y=>(zdi p lo hi).1=y.1∧Rl s (zdi p lo hi).2 y.2) (zdi p lo hi).2:=by
 unfold zdc zdi;simp only[];refine OkR.bind (zgi h zc6) (fun hq=>.of (by rw[zfD hq,zfn hq])) fun st1 _ h1=>?_;refine OkR.bind (zpW hz 66 h1 (by simp) (by simp)) (fun hq=>.of (zfn hq _)) fun y _ h2=>?_;obtain⟨l,st2⟩:=y;refine OkR.bind (zgi h2.2 zbu) (fun hq=>.of rfl) fun st3 _ h3=>?_;exact⟨h2.1,h3⟩
theorem zmR {p:RSt} {st:GSt} (h:Rl s p st):OkR s (zdt s st) (fun y=>(zbO p).1=y.1∧Rl s (zbO p).2 y.2) (zbO p).2:=by
 unfold zdt;by_cases hy:rIs p zdv=true
 ·have e:zbO p=(1,zbB p):=if_pos hy;have hx:zD st.1=zdv:=by
   rw[is_R h]at hy;unfold gIs at hy;rw[zd,decide_eq_true_iff]at hy;exact hy.2
  rw[is_R h]at hy;rw[e,hy,Bool.or_true,if_pos hx];exact⟨rfl,zhZ h⟩
 ·have e:zbO p=(0,zb5 p zfj):=if_neg hy;have hy':gIs st zdv=false:=by rw[<-is_R h];simpa using hy
  rw[e,hy',Bool.or_false];unfold zb5;refine OkR.bind (ckP (P:=rIs p zfj=true) h (by decide) (by rw[is_R h])) (fun hq=>.of (zf4 hq)) fun _ _ hz=>?_;refine⟨?_,zhZ hz.2⟩;have hx:zD st.1=zfj:=by
   have:=hz.1;rw[is_R h]at this;unfold gIs at this;rw[zd,decide_eq_true_iff]at this;exact this.2
  rw[hx];rfl
theorem zoy {p:RSt} {st:GSt} (h:Rl s p st):OkR s (gCal s st) (fun y=>(rCal p).1=y.1∧Rl s (rCal p).2 y.2) (rCal p).2:=zcI h 0 2
theorem zua {p:RSt} {st:GSt} (h:Rl s p st):∀ w:LeafW,OkR s (zcl s st w) (fun y=>(zd5 w p).1=y.1∧Rl s (zd5 w p).2 y.2) (zd5 w p).2
 | .days=>by
  unfold zcl;refine OkR.bind (zcI h 1 zbt) (fun hq=>.of (zba hq _ _)) fun y _ h1=>?_;obtain⟨x1,st1⟩:=y;refine OkR.bind (zcI h1.2 0 zbt) (fun hq=>.of rfl) fun y _ h2=>?_;obtain⟨x2,st2⟩:=y;obtain⟨e1,h1⟩:=h1;obtain⟨e2,h2⟩:=h2;have e1:_=x1:=e1;have e2:_=x2:=e2;subst e1 e2;exact⟨rfl,h2⟩
 | .years=>by
  unfold zcl;refine OkR.bind (zoy h) (fun hq=>.of (by show (zaF (zaF (rCal p).2 1 400).2 0 _).2=_;rw[zba hq,zba hq])) fun y _ h1=>?_;obtain⟨x1,st1⟩:=y;refine OkR.bind (zcI h1.2 1 400) (fun hq=>.of (zba hq _ _)) fun y _ h2=>?_;obtain⟨x2,st2⟩:=y;obtain⟨e1,h1⟩:=h1;obtain⟨e2,h2⟩:=h2;have e1:_=x1:=e1;have e2:_=x2:=e2;subst e1 e2;refine OkR.bind (zcI h2 0 _) (fun hq=>.of rfl) fun y _ h3=>?_;obtain⟨x3,st3⟩:=y;obtain⟨e3,h3⟩:=h3;have e3:_=x3:=e3;subst e3;exact⟨rfl,h3⟩
 | .months=>by
  unfold zcl;refine OkR.bind (zoy h) (fun hq=>.of (zey hq _ _)) fun y _ h1=>?_;obtain⟨x1,st1⟩:=y;refine OkR.bind (zh5 h1.2 (lo:=1) (hi:=16) rfl) (fun hq=>.of rfl) fun y _ h2=>?_;obtain⟨x2,st2⟩:=y;obtain⟨e1,h1⟩:=h1;obtain⟨e2,h2⟩:=h2;have e1:_=x1:=e1;have e2:_=x2:=e2;subst e1 e2;exact⟨rfl,h2⟩
 | .monthdays=>by
  unfold zcl;refine OkR.bind (zoy h) (fun hq=>.of (zey hq _ _)) fun y _ h1=>?_;obtain⟨x1,st1⟩:=y;refine OkR.bind (zh5 h1.2 (lo:=-40) (hi:=40) rfl) (fun hq=>.of rfl) fun y _ h2=>?_;obtain⟨x2,st2⟩:=y;obtain⟨e1,h1⟩:=h1;obtain⟨e2,h2⟩:=h2;have e1:_=x1:=e1;have e2:_=x2:=e2;subst e1 e2;exact⟨rfl,h2⟩
 | .weekdays=>by
  unfold zcl;refine OkR.bind (zh5 h (lo:=0) (hi:=6) rfl) (fun hq=>.of rfl) fun y _ h2=>?_;obtain⟨x2,st2⟩:=y;obtain⟨e2,h2⟩:=h2;have e2:_=x2:=e2;subst e2;exact⟨rfl,h2⟩
 | .weeks=>by
  unfold zcl;refine OkR.bind (zoy h) (fun hq=>.of (zey hq _ _)) fun y _ h1=>?_;obtain⟨x1,st1⟩:=y;refine OkR.bind (zh5 h1.2 (lo:=1) (hi:=54) rfl) (fun hq=>.of rfl) fun y _ h2=>?_;obtain⟨x2,st2⟩:=y;obtain⟨e1,h1⟩:=h1;obtain⟨e2,h2⟩:=h2;have e1:_=x1:=e1;have e2:_=x2:=e2;subst e1 e2;exact⟨rfl,h2⟩
 | .nth=>by
  unfold zcl;refine OkR.bind (zoy h) (fun hq=>.of (by
   show (zbO (zaF (zaF (if zt (rCal p).2.t=3∧yG (rCal p).2.t=0 then zat (rCal p).2 1 else (rCal p).2) (-60) 60).2 0 6).2).2=_;rw[zeT hq,zba hq,zba hq,zft hq])) fun y _ h1=>?_
  obtain⟨x1,st1⟩:=y;obtain⟨e1,h1⟩:=h1;refine OkR.bind (ckN (P:=zt (rCal p).2.t=3∧yG (rCal p).2.t=0) h1 (by decide) ?_) (fun hq=>.of (by
   show (zbO (zaF (zaF (if zt (rCal p).2.t=3∧yG (rCal p).2.t=0 then zat (rCal p).2 1 else (rCal p).2) (-60) 60).2 0 6).2).2=_;rw[zba hq,zba hq,zft hq])) fun _ _ h2=>?_
  ·rw[zJ,bne_iff_ne,bne_iff_ne,h1.t.k];constructor
   ·rintro (h|h) ⟨h3,h4⟩
    ·exact h h3
    ·exact h (by rw[<-h1.t.n h3];exact h4)
   ·intro h;by_cases h3:zF st1.1=3
    ·exact .inr fun h4=>h ⟨h3,by rw[h1.t.n h3];exact h4⟩
    ·exact .inl h3
  refine OkR.bind (zcI h2.2 (-60) 60) (fun hq=>.of (by
   show (zbO (zaF (zaF (if zt (rCal p).2.t=3∧yG (rCal p).2.t=0 then zat (rCal p).2 1 else (rCal p).2) (-60) 60).2 0 6).2).2=_;rw[zba hq,zft hq])) fun y _ h3=>?_
  obtain⟨x3,st3⟩:=y;obtain⟨e3,h3⟩:=h3;refine OkR.bind (zcI h3 0 6) (fun hq=>.of (zft hq)) fun y _ h4=>?_;obtain⟨x4,st4⟩:=y;obtain⟨e4,h4⟩:=h4;refine OkR.bind (zmR h4) (fun hq=>.of rfl) fun y _ h5=>?_;obtain⟨x5,st5⟩:=y;obtain⟨e5,h5⟩:=h5;have e1:_=x1:=e1;have e3:_=x3:=e3;have e4:_=x4:=e4;have e5:_=x5:=e5;subst e1 e3 e4 e5;exact⟨rfl,h5⟩
theorem zsN {p:RSt} {st:GSt} (h:Rl s p st):∀ w:SufW,OkR s (gSuf s st w) (fun y=>(zbZ w p).1=y.1∧Rl s (zbZ w p).2 y.2) (zbZ w p).2
 | .shift=>by
  unfold gSuf;refine OkR.bind (zcI h (-zbt) zbt) (fun hq=>.of rfl) fun y _ h1=>?_;obtain⟨x1,st1⟩:=y;obtain⟨e1,h1⟩:=h1;have e1:_=x1:=e1;subst e1;exact⟨rfl,h1⟩
 | .from_=>by
  unfold gSuf;refine OkR.bind (zcI h 0 zbt) (fun hq=>.of rfl) fun y _ h1=>?_;obtain⟨x1,st1⟩:=y;obtain⟨e1,h1⟩:=h1;have e1:_=x1:=e1;subst e1;exact⟨rfl,h1⟩
 | .until_=>by
  unfold gSuf;refine OkR.bind (zcI h 0 zbt) (fun hq=>.of rfl) fun y _ h1=>?_;obtain⟨x1,st1⟩:=y;obtain⟨e1,h1⟩:=h1;have e1:_=x1:=e1;subst e1;exact⟨rfl,h1⟩
 | .also=>by
  unfold gSuf;refine OkR.bind (zh5 h (lo:=0) (hi:=zbt) rfl) (fun hq=>.of rfl) fun y _ h1=>?_;obtain⟨x1,st1⟩:=y;obtain⟨e1,h1⟩:=h1;have e1:_=x1:=e1;subst e1;exact⟨rfl,h1⟩
 | .except_=>by
  unfold gSuf;refine OkR.bind (zh5 h (lo:=0) (hi:=zbt) rfl) (fun hq=>.of rfl) fun y _ h1=>?_;obtain⟨x1,st1⟩:=y;obtain⟨e1,h1⟩:=h1;have e1:_=x1:=e1;subst e1;exact⟨rfl,h1⟩
 | .pos=>by
  unfold gSuf;refine OkR.bind (zoy h) (fun hq=>.of (by
   show (zdi (zbO (rCal p).2).2 (-400) 400).2=_;rw[zft hq,zey hq])) fun y _ h1=>?_
  obtain⟨x1,st1⟩:=y;obtain⟨e1,h1⟩:=h1;refine OkR.bind (zmR h1) (fun hq=>.of (zey hq _ _)) fun y _ h2=>?_;obtain⟨x2,st2⟩:=y;obtain⟨e2,h2⟩:=h2;refine OkR.bind (zh5 h2 (lo:=-400) (hi:=400) rfl) (fun hq=>.of rfl) fun y _ h3=>?_;obtain⟨x3,st3⟩:=y;obtain⟨e3,h3⟩:=h3;have e1:_=x1:=e1;have e2:_=x2:=e2;have e3:_=x3:=e3;subst e1 e2 e3;exact⟨rfl,h3⟩
 | .behind=>by
  unfold gSuf;refine OkR.bind (zcI h 1 400) (fun hq=>.of (zfn hq _)) fun y _ h1=>?_;obtain⟨x1,st1⟩:=y;obtain⟨e1,h1⟩:=h1;refine OkR.bind (zgi h1 wOf) (fun hq=>.of rfl) fun st2 _ h2=>?_;have e1:_=x1:=e1;subst e1;exact⟨rfl,h2⟩
end
theorem TrOk.sh:∀ {t:Tr},TrOk t->TrSh t
 | .leaf n,⟨h1,h2,h3,h4⟩=>by
  refine⟨h2,?_,h3⟩;by_cases h7:ndK n=7
  ·exact (zkV h1).2.2.2.2.1 h7
  ·have:=h4 h7;omega
 | .un n a,⟨_,h2,h3,h4⟩=>⟨h2,h3.2,TrOk.sh h4⟩
 | .bin n a b,⟨_,h2,_,h4,h5⟩=>⟨h2,TrOk.sh h4,TrOk.sh h5⟩
section
variable {p:RSt} (h:p.e≠0)
include h
theorem zt9:∀ w:LeafW,(zd5 w p).2=p
 | .days=>by show (zaF (zaF p 1 zbt).2 0 zbt).2=p;rw[zba h,zba h]
 | .years=>by show (zaF (zaF (rCal p).2 1 400).2 0 _).2=p;rw[zox h,zba h,zba h]
 | .months=>by show (zdi (rCal p).2 1 16).2=p;rw[zox h,zey h]
 | .monthdays=>by show (zdi (rCal p).2 (-40) 40).2=p;rw[zox h,zey h]
 | .weekdays=>zey h 0 6
 | .weeks=>by show (zdi (rCal p).2 1 54).2=p;rw[zox h,zey h]
 | .nth=>by
  show (zbO (zaF (zaF (if zt (rCal p).2.t=3∧yG (rCal p).2.t=0 then zat (rCal p).2 1 else (rCal p).2) (-60) 60).2 0 6).2).2=p;rw[zox h,zeT h,zba h,zba h,zft h]
theorem zsM:∀ w:SufW,(zbZ w p).2=p
 | .shift=>zba h _ _
 | .from_=>zba h _ _
 | .until_=>zba h _ _
 | .also=>zey h _ _
 | .except_=>zey h _ _
 | .pos=>by show (zdi (zbO (rCal p).2).2 (-400) 400).2=p;rw[zox h,zft h,zey h]
 | .behind=>by show zb5 (zaF p 1 400).2 wOf=p;rw[zba h,zfn h]
theorem znH (rec:RSt->List Nd×RSt) (l f:Nat) (r:List Nd):zdN rec l f r p=(r,p):=by
 cases f with
 |zero=>rfl
 |succ f=>exact if_neg (by rw[is_d h];decide)
theorem zet (rec:RSt->List Nd×RSt) (f:Nat) (r:List Nd):zbs rec f r p=(r,p):=by
 cases f with
 |zero=>rfl
 |succ f=>exact if_neg fun h'=>h h'.1
theorem zn4:∀ (k:Nat) (md:RMd),(rPrs k md p).2=p
 |0,_=>rfl
 |k+1,.prim=>by
  show (zkN (rPrs k) p).2=p;unfold zkN;rw[if_neg h]
 |k+1,.chain=>by
  show (zbs (rPrs k .prim) 5000 (rPrs k .prim p).1 (rPrs k .prim p).2).2=p;rw[zn4 k .prim,zet h]
 |k+1,.bin l=>by
  rw[rPrs];split
  ·exact zn4 k .chain
  ·show (zdN (rPrs k (.bin (l+1))) l 5000 (rPrs k (.bin (l+1)) p).1 (rPrs k (.bin (l+1)) p).2).2=p;rw[zn4 k (.bin (l+1)),znH h]
end
section
variable {s:List UInt8}
def RuR (s:List UInt8) (g:GE (Tr×GSt)) (x:List Nd×RSt):Prop:=OkR s g (fun y=>x.1=y.1.flat 0∧Rl s x.2 y.2) x.2
theorem zhi {md:Md} {st st':GSt} {t:Tr} (hg:GOk s st) (hs:Scn s st) (hm:mdOk md) (he:prsT s md st= .ok (t,st')):GOk s st'∧Scn s st'∧TrOk t:=by
 obtain⟨h1,h2⟩:=zex _ md st st' t hg hs hm he;exact⟨zdI hg (zcm hg he),h2,h1⟩
theorem ztg {i:Nat} (hi:i≤2) {rec:RSt->List Nd×RSt} {n:Nat} (hd:∀ {q:RSt},q.e≠0->(rec q).2=q) (hrec:∀ q st,Rl s q st->GOk s st->Scn s st->rem s st < n->RuR s (prsT s (.bin (i+1)) st) (rec q)):
  ∀ (f:Nat) {p:RSt} {st:GSt} {t:Tr},Rl s p st->GOk s st->Scn s st->rem s st≤n->rem s st < f->TrOk t->RuR s (prsT s (.binL i t) st) (zdN rec (i+1) f (t.flat 0) p)
 |0,p,st,t,_,_,_,_,hf,_=>absurd hf (yg _)
 |f+1,p,st,t,h,hg,hs,hn,hf,ht=>by
  unfold RuR;rw[zb0 hg,zbe,zdN,is_R h,show i+1 - 1=i from rfl];by_cases hc:gIs st (opW i)=true
  ·rw[if_pos hc,if_pos hc];have hcl:=zcY hc;refine OkR.bind (ziA h) (fun hq=>.of (by show (zdN rec (i+1) f _ (rec (zaz p)).2).2=_;rw[hd hq,znH hq])) fun st1 he1 h1=>?_;have k1:=zaY hg hcl he1;have r1:=k1.rem hg;have s1:=zhE he1;refine OkR.bind (hrec _ _ h1 k1.1 s1 (by omega)) (fun hq=>.of (by show (zdN rec (i+1) f _ (rec (zaz p)).2).2=_;rw[znH hq])) fun y he2 h2=>?_;obtain⟨u,st2⟩:=y;obtain⟨e2,h2⟩:=h2;have h2:Rl s _ st2:=h2;have e2:(rec (zaz p)).1=u.flat 0:=e2;obtain⟨g2,s2,tu⟩:=zhi k1.1 s1 (by exact trivial) he2;have k2:Onw s st1 st2:=zcm k1.1 he2;have r2:=k2.rem k1.1;have hk:=zsX hi;have hT:TrOk (.bin (opK i,zNd.2) t u):=⟨hk.1,.inl hk.2,⟨rfl,rfl⟩,ht,tu⟩;have hb:=zlE t u (opK i,zNd.2) tu.sh;show RuR s (prsT s (.binL i (.bin (opK i,zNd.2) t u)) st2) (zdN rec (i+1) f (zeg (t.flat 0) (rec (zaz p)).1 (opK i,zNd.2)) (rec (zaz p)).2);rw[e2,hb];exact ztg hi hd hrec f h2 g2 s2 (by omega) (by omega) hT
  ·rw[if_neg hc,if_neg hc];exact⟨rfl,h⟩
theorem zj5 {rec:RSt->List Nd×RSt} {n:Nat} (hd:∀ {q:RSt},q.e≠0->(rec q).2=q) (hrec:∀ q st,Rl s q st->GOk s st->Scn s st->rem s st < n->RuR s (prsT s .prim st) (rec q)):
  ∀ (f:Nat) {p:RSt} {st:GSt} {t:Tr},Rl s p st->GOk s st->Scn s st->rem s st≤n->rem s st < f->TrOk t->RuR s (prsT s (.chainL t) st) (zbs rec f (t.flat 0) p)
 |0,p,st,t,_,_,_,_,hf,_=>absurd hf (yg _)
 |f+1,p,st,t,h,hg,hs,hn,hf,ht=>by
  unfold RuR;rw[zb0 hg,zbe,zbs];by_cases hc:zF st.1=1
  ·have hcl:zF st.1≠0:=by rw[hc];decide
   rw[if_pos hc,if_pos ⟨h.e,h.t.k.trans hc⟩,h.t.x];cases hw:sufW (zD st.1) with
   |none=>exact⟨rfl,h⟩
   |some w=>
    by_cases hb:w= .behind
    ·subst hb;show OkR s (zbj s st >>= fun st=>gSuf s st .behind >>= fun x=>prsT s .prim x.2 >>= fun y=>prsT s (.chainL (.bin x.1 t y.1)) y.2) _ (zbs rec f (zeg (t.flat 0) (rec (zbZ .behind (zaz p)).2).1 (zbZ .behind (zaz p)).1) (rec (zbZ .behind (zaz p)).2).2).2;refine OkR.bind (ziA h) (fun hq=>.of (by rw[zsM hq,hd hq,zet hq])) fun st1 he1 h1=>?_;have k1:=zaY hg hcl he1;have r1:=k1.rem hg;refine OkR.bind (zsN h1 .behind) (fun hq=>.of (by rw[hd hq,zet hq])) fun y he2 h2=>?_;obtain⟨m,st2⟩:=y;obtain⟨e2,h2⟩:=h2;have h2:Rl s _ st2:=h2;have e2:_=m:=e2;obtain⟨⟨m1,m2,m3⟩,s2⟩:=zjZ k1.1 .behind he2;have k2:=zdo k1.1 .behind he2;have r2:=k2.rem k1.1;refine OkR.bind (hrec _ _ h2 k2.1 s2 (by show rem s st2 < n;omega)) (fun hq=>.of (by rw[zet hq])) fun y he3 h3=>?_;obtain⟨u,st3⟩:=y;obtain⟨e3,h3⟩:=h3;have h3:Rl s _ st3:=h3;have e3:(rec (zbZ .behind (zaz p)).2).1=u.flat 0:=e3;obtain⟨g3,s3,tu⟩:=zhi k2.1 s2 (by exact trivial) he3;have k3:Onw s st2 st3:=zcm k2.1 he3;have r3:=k3.rem k2.1;have hT:TrOk (.bin m t u):=⟨m1,.inr m3,m2,ht,tu⟩;have hbf:=zlE t u m tu.sh;show RuR s (prsT s (.chainL (.bin m t u)) st3) (zbs rec f (zeg (t.flat 0) (rec (zbZ .behind (zaz p)).2).1 (zbZ .behind (zaz p)).1) (rec (zbZ .behind (zaz p)).2).2);rw[e3,e2,hbf];exact zj5 hd hrec f h3 g3 s3 (by omega) (by omega) hT
    ·have hp:(match some w with
       |none=>(.ok (t,st):GE (Tr×GSt))
       |some .behind=>do
        let st<-zbj s st
        let (n,st)<-gSuf s st .behind
        let (u,st)<-prsT s .prim st
        prsT s (.chainL (.bin n t u)) st
       |some w=>do
        let st<-zbj s st
        let (n,st)<-gSuf s st w
        prsT s (.chainL (.un n t)) st)=(zbj s st >>= fun st=>gSuf s st w >>= fun x=>prsT s (.chainL (.un x.1 t)) x.2):=by
      cases w<;>first|rfl|exact absurd rfl hb
     have hx:zbY rec w (t.flat 0) p=(ziN (t.flat 0) (zbZ w (zaz p)).1,(zbZ w (zaz p)).2):=by
      cases w<;>first|rfl|exact absurd rfl hb
     show OkR s _ (fun (y:Tr×GSt)=>(zbs rec f (zbY rec w (t.flat 0) p).1 (zbY rec w (t.flat 0) p).2).1=y.1.flat 0∧Rl s (zbs rec f (zbY rec w (t.flat 0) p).1 (zbY rec w (t.flat 0) p).2).2 y.2) (zbs rec f (zbY rec w (t.flat 0) p).1 (zbY rec w (t.flat 0) p).2).2;rw[hx];refine Eq.mpr (congrArg (fun g=>OkR s g _ _) hp) ?_;refine OkR.bind (ziA h) (fun hq=>.of (by rw[zsM hq,zet hq])) fun st1 he1 h1=>?_;have k1:=zaY hg hcl he1;have r1:=k1.rem hg;refine OkR.bind (zsN h1 w) (fun hq=>.of (by rw[zet hq])) fun y he2 h2=>?_;obtain⟨m,st2⟩:=y;obtain⟨e2,h2⟩:=h2;have h2:Rl s _ st2:=h2;have e2:_=m:=e2;obtain⟨⟨m1,m2,m3⟩,s2⟩:=zjZ k1.1 w he2;have k2:=zdo k1.1 w he2;have r2:=k2.rem k1.1;have hT:TrOk (.un m t):=⟨m1,by cases w<;>first|exact m3|exact absurd rfl hb,m2,ht⟩;have hof:=zpI t m;show OkR s (prsT s (.chainL (.un m t)) st2) _ _;rw[e2,hof];exact zj5 hd hrec f h2 k2.1 s2 (by omega) (by omega) hT
  ·rw[if_neg hc,if_neg (fun h'=>hc (h.t.k.symm.trans h'.2))];exact⟨rfl,h⟩
theorem leaf_R {p:RSt} {st:GSt} (h:Rl s p st) {w:LeafW} (hw:zdw (zD st.1)=some w):OkR s (zbj s st >>= fun st=>zcl s st w) (fun y=>(zd6 p).1=y.1∧Rl s (zd6 p).2 y.2) (zd6 p).2:=by
 have e:zd6 p=zd5 w (zaz p):=by
  unfold zd6;rw[h.t.x,hw]
 rw[e];refine OkR.bind (ziA h) (fun hq=>.of (by rw[zt9 hq])) fun st1 he1 h1=>?_;exact zua h1 w
theorem prs_R (hl:s.length≤4900):∀ k:Nat,
  (∀ q st,Rl s q st->GOk s st->Scn s st->8 * rem s st+1 < k->RuR s (prsT s .prim st) (rPrs k .prim q))∧
  (∀ q st,Rl s q st->GOk s st->Scn s st->8 * rem s st+2 < k->RuR s (prsT s .chain st) (rPrs k .chain q))∧
  (∀ i q st,i≤3->Rl s q st->GOk s st->Scn s st->8 * rem s st+(6 - i) < k->RuR s (prsT s (.bin i) st) (rPrs k (.bin (i+1)) q))
 |0=>⟨fun _ _ _ _ _ h=>absurd h (yg _),fun _ _ _ _ _ h=>absurd h (yg _),fun _ _ _ _ _ _ _ h=>absurd h (yg _)⟩
 |k+1=>by
  obtain⟨hP,hC,hB⟩:=prs_R hl k;have hrl:∀ st:GSt,GOk s st->rem s st < 5000:=fun st hg=>by
   have:=hg.1.1.1;unfold rem;omega
  refine⟨fun q st h hg hs hk=>?_,fun q st h hg hs hk=>?_,fun i q st hi h hg hs hk=>?_⟩
  ·unfold RuR;rw[zb0 hg,zbe,show rPrs (k+1) .prim q=zkN (rPrs k) q from rfl,zkN,if_pos h.e,is_R h];by_cases hc:gIs st zc6=true
   ·rw[if_pos hc,if_pos hc];have k1:=zb2 hg (zcY hc);have r1:=k1.rem hg;refine OkR.bind (hB 0 _ _ (zk _) (zhZ h) k1.1 ⟨_,rfl⟩ (by omega)) (fun hq=>.of (by show zb5 (rPrs k (.bin 1) (zbB q)).2 zbu=_;rw[zfn hq])) fun y he1 h1=>?_;obtain⟨t,st1⟩:=y;obtain⟨e1,h1⟩:=h1;refine OkR.bind (zgi h1 zbu) (fun hq=>.of rfl) fun st2 he2 h2=>?_;exact⟨e1,h2⟩
   rw[if_neg hc,if_neg hc];by_cases hc2:zF st.1=2
   ·rw[if_pos hc2,if_pos (h.t.k.trans hc2),h.t.x];refine OkR.bind (ckN (P:=32 < (zD st.1).length) h (by decide) (by rw[decide_eq_true_iff];omega)) (fun hq=>by
     exact zsG hq) fun _ _ h1=>?_
    refine OkR.bind (ziA h1.2) (fun hq=>.of rfl) fun st1 he1 h2=>?_;exact⟨rfl,h2⟩
   rw[if_neg hc2,if_neg (fun e=>hc2 (h.t.k.symm.trans e))];by_cases hc1:zF st.1=1
   ·rw[if_pos (h.t.k.trans hc1)];have hck:zaG st (zF st.1==1) 3= .ok ():=by
     unfold zaG;rw[if_pos (beq_iff_eq.2 hc1)]
    rw[hck];cases hw:zdw (zD st.1) with
    |none=>
     have e:zd6 q=(zNd,zat q 3):=by
      unfold zd6;rw[h.t.x,hw]
     rw[e];exact zqA h (by decide)
    |some w=>
     have hL:=leaf_R h hw;show OkR s (zbj s st >>= fun st=>zcl s st w >>= fun x=>(.ok (Tr.leaf x.1,x.2):GE (Tr×GSt))) _ (zd6 q).2;cases hb:zbj s st with
     |error e=>rw[hb]at hL;exact hL
     |ok st1=>
      rw[hb]at hL;have hL:OkR s (zcl s st1 w) _ (zd6 q).2:=hL;show OkR s (zcl s st1 w >>= fun x=>(.ok (Tr.leaf x.1,x.2):GE (Tr×GSt))) _ (zd6 q).2;refine OkR.bind hL (fun hq=>.of rfl) fun y _ hy=>?_;exact⟨by show [(zd6 q).1]=[y.1];rw[hy.1],hy.2⟩
   ·rw[if_neg (fun e=>hc1 (h.t.k.symm.trans e))];have hck:zaG st (zF st.1==1) 3= .error (Tok.at st.1,3):=by
     unfold zaG;rw[if_neg (fun e=>hc1 (beq_iff_eq.1 e))]
    rw[hck];exact zqA h (by decide)
  ·unfold RuR;rw[zb0 hg,zbe];show OkR s _ _ (zbs (rPrs k .prim) 5000 (rPrs k .prim q).1 (rPrs k .prim q).2).2;refine OkR.bind (hP q st h hg hs (by omega)) (fun hq=>.of (by rw[zet hq])) fun y he1 h1=>?_;obtain⟨t,st1⟩:=y;obtain⟨e1,h1⟩:=h1;have h1:Rl s _ st1:=h1;obtain⟨g1,s1,tt⟩:=zhi hg hs (by exact trivial) he1;have k1:Onw s st st1:=zcm hg he1;have r1:=k1.rem hg;have e1:(rPrs k .prim q).1=t.flat 0:=e1;show OkR s (prsT s (.chainL t) st1) (fun (y:Tr×GSt)=>(zbs (rPrs k .prim) 5000 (rPrs k .prim q).1 (rPrs k .prim q).2).1=y.1.flat 0∧Rl s (zbs (rPrs k .prim) 5000 (rPrs k .prim q).1 (rPrs k .prim q).2).2 y.2) _;rw[e1];exact zj5 (n:=rem s st1) (fun hq=>zn4 hq _ _) (fun q' st' hR hG hS hr=>hP q' st' hR hG hS (by omega)) 5000 h1 g1 s1 (zj _) (hrl _ g1) tt
  ·unfold RuR;rw[zb0 hg,zbe,rPrs];by_cases h3:3≤i
   ·rw[if_pos h3,if_pos (by omega)];exact hC q st h hg hs (by omega)
   rw[if_neg h3,if_neg (by omega)];show OkR s _ _ (zdN (rPrs k (.bin (i+1+1))) (i+1) 5000 (rPrs k (.bin (i+1+1)) q).1 (rPrs k (.bin (i+1+1)) q).2).2;refine OkR.bind (hB (i+1) q st (by omega) h hg hs (by omega)) (fun hq=>.of (by rw[znH hq])) fun y he1 h1=>?_;obtain⟨t,st1⟩:=y;obtain⟨e1,h1⟩:=h1;have h1:Rl s _ st1:=h1;obtain⟨g1,s1,tt⟩:=zhi hg hs (by exact trivial) he1;have k1:Onw s st st1:=zcm hg he1;have r1:=k1.rem hg;have e1:(rPrs k (.bin (i+1+1)) q).1=t.flat 0:=e1;show OkR s (prsT s (.binL i t) st1) (fun (y:Tr×GSt)=>(zdN (rPrs k (.bin (i+1+1))) (i+1) 5000 (rPrs k (.bin (i+1+1)) q).1 (rPrs k (.bin (i+1+1)) q).2).1=y.1.flat 0∧Rl s (zdN (rPrs k (.bin (i+1+1))) (i+1) 5000 (rPrs k (.bin (i+1+1)) q).1 (rPrs k (.bin (i+1+1)) q).2).2 y.2) _;rw[e1];exact ztg (n:=rem s st1) (by omega) (fun hq=>zn4 hq _ _) (fun q' st' hR hG hS hr=>hB (i+1) q' st' (by omega) hR hG hS (by omega)) 5000 h1 g1 s1 (zj _) (hrl _ g1) tt
end
abbrev strs7:Ty:=.slice .str
def ztb:Ctr:={ args:=[i64],pre:=fun x=>[1≤x.1,x.1≤3],res:=.tup .str (.tup i64 .unit),own:=none,out:=fun x=>(opW (x.1 - 1).toNat,opK (x.1 - 1).toNat,()) }
theorem zrO:yB Tryz.prog gmG 142 ztb:=by
 refine zap (K:=gmK) zaC Tryz.func142 rfl rfl Tryz.call142 rfl (by decide) (by intro h;cases h) ?_;rintro w0 X hX ⟨(x:Int),_⟩ hp;obtain⟨h1,h2⟩:1≤x∧x≤3:=hp;change AWP _ _ _ _ _ ⟨[(0,⟨i64,x⟩)],[],0⟩ _;refine za (za ?_);refine zaa hX zaC rfl ?_ ?_
 ·trivial
 refine za (za ?_);refine zaa hX zaC rfl ?_ ?_
 ·trivial
 apply zac;refine za (za ?_);refine zaa hX zaC rfl ?_ ?_
 ·trivial
 refine zaf rfl (fun hb=>?_) (fun n1=>?_)
 ·obtain rfl:x=1:=eq_of_beq hb;refine za (za ?_);refine zaa hX zaC rfl ?_ ?_
  ·trivial
  exact zm ⟨.inr rfl,za9 (by decide) rfl rfl trivial rfl⟩
 have n1:x≠1:=ne_of_beq_false n1;refine za (za ?_);refine zaa hX zaC rfl ?_ ?_
 ·trivial
 refine zaf rfl (fun hb=>?_) (fun n2=>?_)
 ·obtain rfl:x=2:=eq_of_beq hb;refine za (za ?_);refine zaa hX zaC rfl ?_ ?_
  ·trivial
  exact zm ⟨.inr rfl,za9 (by decide) rfl rfl trivial rfl⟩
 have n2:x≠2:=ne_of_beq_false n2;obtain rfl:x=3:=by omega
 apply zab;refine za (za ?_);refine zaa hX zaC rfl ?_ ?_
 ·trivial
 exact zm ⟨.inr rfl,za9 (by decide) rfl rfl trivial rfl⟩
def zgw:List (List UInt8):=[zdQ,zfM,zdP,zek,zbX,wPos,zbG]
def zs7:Ctr:={ args:=[],pre:=fun _=>[],res:=strs7,own:=none,out:=fun _=>zgw }
theorem zrf:yB Tryz.prog gmG 181 zs7:=by
 refine zap (K:=gmK) zaC Tryz.func181 rfl rfl Tryz.call181 rfl (by decide) (by intro h;cases h) ?_;rintro w0 X hX _ hp;change AWP _ _ _ _ _ ⟨[],[],0⟩ _;refine za (za ?_);refine zaa hX zaC rfl ?_ ?_
 ·trivial
 refine za (za ?_);refine zaa hX zaC rfl ?_ ?_
 ·trivial
 refine qS hX 0 ?_;exact zm ⟨.inr rfl,zas rfl trivial rfl rfl rfl⟩
def zmx (k:Nat):RCtr:={ self:=rps,args:=[],inv:=fun _ _=>True,pre:=fun p _=>[P7 p,N7 p,zh1 .prim p < k,zf p.1≤4900],res:=.slice nd,out:=fun p _=>(rPrs k .prim p).1,post:=fun p _=>(rPrs k .prim p).2 }
def zsE (k:Nat):RCtr:={ self:=rps,args:=[],inv:=fun _ _=>True,pre:=fun p _=>[P7 p,N7 p,zh1 .chain p < k,zf p.1≤4900],res:=.slice nd,out:=fun p _=>(rPrs k .chain p).1,post:=fun p _=>(rPrs k .chain p).2 }
def zmz (k:Nat):RCtr:={ self:=rps,args:=[i64],inv:=fun _ _=>True,pre:=fun p x=>[P7 p,N7 p,1≤x.1,x.1≤4,zh1 (.bin x.1.toNat) p < k,zf p.1≤4900],res:=.slice nd,out:=fun p x=>(rPrs k (.bin x.1.toNat) p).1,post:=fun p x=>(rPrs k (.bin x.1.toNat) p).2 }
def zlR (k:Nat) (p:RSt) (r:List Nd):List Nd×RSt:=match sufW (yc p.t) with
 |some w=>zbY (rPrs k .prim) w r p
 |none=>(r,p)
def cSuf7 (k:Nat):RCtr:={ self:=rps,args:=[.slice nd],inv:=fun _ _=>True,pre:=fun p x=>[P7 p,N7 p,RSt.e p=0,(sufW (yc (RSt.t p))).isSome=true,1≤zf x.1,zf x.1≤1000,RB x.1,8 * rem7 p+1 < k,zf p.1≤4900],res:=.slice nd,out:=fun p x=>(zlR k p x.1).1,post:=fun p x=>(zlR k p x.1).2 }
def k7s (k:Nat):Kn:={ gmK with C:=[(95,zuZ),(97,cOver)],R:=[(91,zlB),(144,zix),(213,zly),(214,zmy),(215,zuX),(216,zuU),(180,zmx k)] }
theorem k7s_ok {k:Nat} (hP:zbF Tryz.prog gmG 180 (zmx k)):KnOk Tryz.prog gmG (k7s k):=(zaC.with (.cons zqR <| .cons ztU .nil)).withR (.cons zho (fun _ _=>trivial) <| .cons zgq (fun _ _=>trivial) <| .cons ze6 (fun _ _=>trivial) <| .cons zk3 (fun _ _=>trivial) <| .cons zg7 (fun _ _=>trivial) <| .cons ziZ (fun _ _=>trivial) <| .cons hP (fun _ _=>trivial) .nil)
theorem zsS {r:List Nd} (h:RB r) (hl:r.length≤1000):∀ n∈r,(-1000000≤ndL n∧ndL n≤1000000)∧(-1000000≤ndR n∧ndR n≤1000000):=fun n hn=>by
 obtain⟨⟨a,b⟩,c,d⟩:=h n hn;exact⟨⟨by omega,by omega⟩,⟨by omega,by omega⟩⟩
set_option maxHeartbeats 4000000 in
theorem znQ {k:Nat} (hP:zbF Tryz.prog gmG 180 (zmx k)):zbF Tryz.prog gmG 182 (cSuf7 k):=by
 have hK:=k7s_ok hP;refine za4 (K:=k7s k) hK Tryz.func182 rfl rfl Tryz.call182 rfl (zb rfl) (fun w w' g hg h hk=>trivial) ?_;rintro w0 O g hX hinv (p:RSt) ⟨(r:List Nd),_⟩ hp;obtain⟨hp,hn,he,hsw,hr1,hr2,hrb,hm,hl49⟩:P7 p∧N7 p∧p.e=0∧(sufW (yc p.t)).isSome=true∧1≤r.length∧r.length≤1000∧RB r∧8 * rem7 p+1 < k∧zf p.1≤4900:=hp;change AWP _ _ _ _ _ ⟨[(0,⟨.optr rps,⟨0,rps,.here⟩⟩),(1,⟨.slice nd,r⟩)],[(0,some (.box rps p))],1⟩ _;refine za (za ?_);refine zaa hX hK rfl ?_ ?_
 ·trivial
 refine za (za ?_);refine zaa hX hK rfl ?_ ?_
 ·trivial
 have hO:zlR k p r=match sufW (yc p.t) with
  |some w=>zbY (rPrs k .prim) w r p
  |none=>(r,p):=rfl
 refine zam (σ':=⟨[(0,⟨.optr rps,⟨0,rps,.here⟩⟩),(1,⟨.slice nd,r⟩),(5,⟨.str,yc p.t⟩)],[(0,some (.box rps p))],1⟩) ⟨⟨rfl,rfl,rfl,trivial⟩,⟨rfl,trivial⟩,rfl,rfl⟩ ?_;generalize yc p.t=T at *;obtain⟨w,hw⟩:=jF.1 hsw;rw[hw]at hO;have hO:zlR k p r=zbY (rPrs k .prim) w r p:=hO;have hn0:0≤p.nodes∧p.nodes≤1000000:=⟨hn.1,by have:=hn.2.1;omega⟩;refine za (za ?_);refine zaa hX hK rfl ?_ ?_
 ·exact⟨hp,hn0⟩
 obtain⟨b1,b2,b3⟩:=zfL hp hn (hn.e0 he);refine zam (σ':=⟨[(0,⟨.optr rps,⟨0,rps,.here⟩⟩),(1,⟨.slice nd,r⟩),(5,⟨.str,T⟩)],[(0,some (.box rps (zaz p)))],1⟩) ⟨⟨rfl,rfl,rfl,trivial⟩,⟨rfl,trivial⟩,rfl,rfl⟩ ?_;have hq:=b1.ok;have hqm:8 * rem7 (zaz p)+1 < k:=by have:=b1.rem;omega
 refine za (za ?_);refine zaa hX hK rfl ?_ ?_
 ·trivial
 refine za (za ?_);refine zaa hX hK rfl ?_ ?_
 ·trivial
 refine zam (σ':=⟨[(0,⟨.optr rps,⟨0,rps,.here⟩⟩),(1,⟨.slice nd,r⟩),(6,⟨.optr nd,⟨1,nd,.here⟩⟩),(16,⟨.str,T⟩)],[(0,some (.box rps (zaz p))),(1,some (.box nd zNd))],2⟩) ⟨⟨rfl,rfl,rfl,rfl,trivial⟩,⟨rfl,rfl,trivial⟩,rfl,rfl⟩ ?_;have hr1000:r.length≤1000000:=by omega
 apply zac;unfold sufW at hw;refine za (za ?_);refine zaa hX hK rfl ?_ ?_
 ·trivial
 refine zaf rfl (fun hb=>?_) (fun m0=>?_)
 ·have hb:T=zdQ:=zay.1 hb;subst hb;obtain rfl:SufW.shift=w:=zx hw;refine za (za ?_);refine zaa hX hK rfl ?_ ?_
  ·trivial
  refine za (za ?_);refine zaa hX hK rfl ?_ ?_
  ·exact hq
  have a0:=(zaK hq (lo:=(-zbt)) (hi:=zbt)).1.ok;refine za (za ?_);refine zaa hX hK rfl ?_ ?_
  ·exact hr1000
  exact zm ⟨.inr rfl,boxP (congrArg (fun x=>x.2) hO).symm,zas rfl trivial rfl rfl (congrArg (fun x=>x.1) hO).symm⟩
 have m0:T≠zdQ:=fun e=>by have h:eqb .str T zdQ=false:=m0;rw[zay.2 e]at h;cases h
 refine za (za ?_);refine zaa hX hK rfl ?_ ?_
 ·trivial
 refine zaf rfl (fun hb=>?_) (fun m1=>?_)
 ·have hb:T=zfM:=zay.1 hb;subst hb;obtain rfl:SufW.from_=w:=zx hw;refine za (za ?_);refine zaa hX hK rfl ?_ ?_
  ·trivial
  refine za (za ?_);refine zaa hX hK rfl ?_ ?_
  ·exact hq
  have a0:=(zaK hq (lo:=0) (hi:=zbt)).1.ok;refine za (za ?_);refine zaa hX hK rfl ?_ ?_
  ·exact hr1000
  exact zm ⟨.inr rfl,boxP (congrArg (fun x=>x.2) hO).symm,zas rfl trivial rfl rfl (congrArg (fun x=>x.1) hO).symm⟩
 have m1:T≠zfM:=fun e=>by have h:eqb .str T zfM=false:=m1;rw[zay.2 e]at h;cases h
 refine za (za ?_);refine zaa hX hK rfl ?_ ?_
 ·trivial
 refine zaf rfl (fun hb=>?_) (fun m2=>?_)
 ·have hb:T=zdP:=zay.1 hb;subst hb;obtain rfl:SufW.until_=w:=zx hw;refine za (za ?_);refine zaa hX hK rfl ?_ ?_
  ·trivial
  refine za (za ?_);refine zaa hX hK rfl ?_ ?_
  ·exact hq
  have a0:=(zaK hq (lo:=0) (hi:=zbt)).1.ok;refine za (za ?_);refine zaa hX hK rfl ?_ ?_
  ·exact hr1000
  exact zm ⟨.inr rfl,boxP (congrArg (fun x=>x.2) hO).symm,zas rfl trivial rfl rfl (congrArg (fun x=>x.1) hO).symm⟩
 have m2:T≠zdP:=fun e=>by have h:eqb .str T zdP=false:=m2;rw[zay.2 e]at h;cases h
 refine za (za ?_);refine zaa hX hK rfl ?_ ?_
 ·trivial
 refine zaf rfl (fun hb=>?_) (fun m3=>?_)
 ·have hb:T=zek:=zay.1 hb;subst hb;obtain rfl:SufW.also=w:=zx hw;refine za (za ?_);refine zaa hX hK rfl ?_ ?_
  ·trivial
  refine za (za ?_);refine zaa hX hK rfl ?_ ?_
  ·exact hq
  have a0:=(zcV hq (lo:=0) (hi:=zbt)).1.ok;refine za (za ?_);refine zaa hX hK rfl ?_ ?_
  ·exact hr1000
  exact zm ⟨.inr rfl,boxP (congrArg (fun x=>x.2) hO).symm,zas rfl trivial rfl rfl (congrArg (fun x=>x.1) hO).symm⟩
 have m3:T≠zek:=fun e=>by have h:eqb .str T zek=false:=m3;rw[zay.2 e]at h;cases h
 refine za (za ?_);refine zaa hX hK rfl ?_ ?_
 ·trivial
 refine zaf rfl (fun hb=>?_) (fun m4=>?_)
 ·have hb:T=zbX:=zay.1 hb;subst hb;obtain rfl:SufW.except_=w:=zx hw;refine za (za ?_);refine zaa hX hK rfl ?_ ?_
  ·trivial
  refine za (za ?_);refine zaa hX hK rfl ?_ ?_
  ·exact hq
  have a0:=(zcV hq (lo:=0) (hi:=zbt)).1.ok;refine za (za ?_);refine zaa hX hK rfl ?_ ?_
  ·exact hr1000
  exact zm ⟨.inr rfl,boxP (congrArg (fun x=>x.2) hO).symm,zas rfl trivial rfl rfl (congrArg (fun x=>x.1) hO).symm⟩
 have m4:T≠zbX:=fun e=>by have h:eqb .str T zbX=false:=m4;rw[zay.2 e]at h;cases h
 refine za (za ?_);refine zaa hX hK rfl ?_ ?_
 ·trivial
 refine zaf rfl (fun hb=>?_) (fun m5=>?_)
 ·have hb:T=wPos:=zay.1 hb;subst hb;obtain rfl:SufW.pos=w:=zx hw;refine za (za ?_);refine zaa hX hK rfl ?_ ?_
  ·trivial
  refine za (za ?_);refine zaa hX hK rfl ?_ ?_
  ·exact hq
  have a0:=(zhQ hq).1.ok;refine za (za ?_);refine zaa hX hK rfl ?_ ?_
  ·exact a0
  have a1:=(zhO a0).1.ok;refine za (za ?_);refine zaa hX hK rfl ?_ ?_
  ·exact a1
  have a2:=(zcV a1 (lo:=(-400)) (hi:=400)).1.ok;refine za (za ?_);refine zaa hX hK rfl ?_ ?_
  ·exact hr1000
  exact zm ⟨.inr rfl,boxP (congrArg (fun x=>x.2) hO).symm,zas rfl trivial rfl rfl (congrArg (fun x=>x.1) hO).symm⟩
 have m5:T≠wPos:=fun e=>by have h:eqb .str T wPos=false:=m5;rw[zay.2 e]at h;cases h
 have hT:T=zbG:=by
  rw[if_neg m0,if_neg m1,if_neg m2,if_neg m3,if_neg m4,if_neg m5]at hw;by_cases e:T=zbG
  ·exact e
  ·rw[if_neg e]at hw;cases hw
 subst hT;obtain rfl:SufW.behind=w:=zx hw;obtain⟨⟨c1,c2⟩,c3⟩:=zjF .behind hq;have n1:N7 (zbZ .behind (zaz p)).2:=b2.of c2 c1.e;have hm1:zh1 .prim (zbZ .behind (zaz p)).2 < k:=by
  show 8 * rem7 _+1 < k;have:=c1.rem;omega
 have hx:=zdT k .prim _ c1.ok n1 (fun _ e=>by cases e) hm1;have hxl:(rPrs k .prim (zbZ .behind (zaz p)).2).1.length≤1000:=by
  have:=hx.len;have:=hx.n.2.1;have:=n1.1;omega
 have hxb:=zsS hx.rb hxl;have hl1:r.length≤100000:=by omega
 have hl49':zf (zbZ .behind (zaz p)).2.1≤4900:=by rw[c1.s,b1.s];exact hl49
 have hl2:(rPrs k .prim (zbZ .behind (zaz p)).2).1.length≤100000:=by omega
 have hO:zlR k p r=(zeg r (rPrs k .prim (zbZ .behind (zaz p)).2).1 (zbZ .behind (zaz p)).1,(rPrs k .prim (zbZ .behind (zaz p)).2).2):=hO;refine za (za ?_);refine zaa hX hK rfl ?_ ?_
 ·trivial
 refine za (za ?_);refine zaa hX hK rfl ?_ ?_
 ·exact hq
 have a0:=(zaK hq (lo:=1) (hi:=400)).1.ok;refine za (za ?_);refine zaa hX hK rfl ?_ ?_
 ·exact a0
 refine zam (σ':=⟨[(0,⟨.optr rps,⟨0,rps,.here⟩⟩),(1,⟨.slice nd,r⟩),(6,⟨.optr nd,⟨1,nd,.here⟩⟩)],[(0,some (.box rps (zbZ .behind (zaz p)).2)),(1,some (.box nd (zbZ .behind (zaz p)).1))],2⟩) ⟨⟨rfl,rfl,rfl,trivial⟩,⟨rfl,rfl,trivial⟩,rfl,rfl⟩ ?_;refine za (za ?_);refine zaa hX hK rfl ?_ ?_
 ·exact⟨c1.ok,n1,hm1,hl49'⟩
 refine za (za ?_);refine zaa hX hK rfl ?_ ?_
 ·exact⟨hr1,hl1,hl2,hxb⟩
 exact zm ⟨.inr rfl,boxP (congrArg (fun x=>x.2) hO).symm,zas rfl trivial rfl rfl (congrArg (fun x=>x.1) hO).symm⟩
theorem zrh (T:List UInt8):zgw.any (fun y=>eqb .str y T)=(sufW T).isSome:=by
 have e:∀ y:List UInt8,eqb .str y T=decide (T=y):=fun y=>by rw[zcw,yb,decide_eq_true_iff,decide_eq_true_iff];exact⟨Eq.symm,Eq.symm⟩
 unfold sufW zgw;simp only[List.any_cons,List.any_nil,e];by_cases h0:T=zdQ
 ·rw[if_pos h0,decide_eq_true h0];rfl
 rw[if_neg h0,decide_eq_false h0];by_cases h1:T=zfM
 ·rw[if_pos h1,decide_eq_true h1];rfl
 rw[if_neg h1,decide_eq_false h1];by_cases h2:T=zdP
 ·rw[if_pos h2,decide_eq_true h2];rfl
 rw[if_neg h2,decide_eq_false h2];by_cases h3:T=zek
 ·rw[if_pos h3,decide_eq_true h3];rfl
 rw[if_neg h3,decide_eq_false h3];by_cases h4:T=zbX
 ·rw[if_pos h4,decide_eq_true h4];rfl
 rw[if_neg h4,decide_eq_false h4];by_cases h5:T=wPos
 ·rw[if_pos h5,decide_eq_true h5];rfl
 rw[if_neg h5,decide_eq_false h5];by_cases h6:T=zbG
 ·rw[if_pos h6,decide_eq_true h6];rfl
 rw[if_neg h6,decide_eq_false h6];rfl
def Cnt7 (i:Nat) (q:RSt):Prop:=(i:Int)≤RTk.at q.t+(if q.e=0 then 0 else 1)
theorem Cnt7.le {i:Nat} {p q:RSt} (h:Cnt7 i q) (hq:P7 q) (hs:q.1=p.1) (hl:zf p.1≤4900):i≤4901:=by
 obtain⟨⟨_,a2,a3⟩,_⟩:=hq;unfold Cnt7 at h;rw[hs]at a3;have:(0:Int)≤(if zt q.t=2 then 1 else 0):=by split<;>decide
 split at h<;>omega
theorem Cnt7.step {i:Nat} {q b x:RSt} (h:Cnt7 i q) (he:q.e=0) (hb:b.e≠0∨RTk.at q.t < RTk.at b.t) (hqb:Go7 q b) (hx:Go7 b x):Cnt7 (i+1) x:=by
 unfold Cnt7 at *;rw[if_pos he]at h;have:=hqb.on;have:=hx.on;rcases hb with hb|hb
 ·rw[if_neg (hx.e hb)];omega
 ·split<;>omega
def k7h (k:Nat):Kn:={ gmK with C:=[(181,zs7)],R:=[(180,zmx k),(182,cSuf7 k)] }
set_option maxHeartbeats 4000000 in
theorem zqG {k:Nat} (hP:zbF Tryz.prog gmG 180 (zmx k)):zbF Tryz.prog gmG 141 (zsE (k+1)):=by
 have hK:KnOk Tryz.prog gmG (k7h k):=(zaC.with (.cons zrf .nil)).withR (.cons hP (fun _ _=>trivial) <| .cons (znQ hP) (fun _ _=>trivial) .nil);refine za4 (K:=k7h k) hK Tryz.func141 rfl rfl Tryz.call141 rfl (zb rfl) (fun w w' g hg h hk=>trivial) ?_;rintro w0 O g hX hinv (p:RSt) _ hp;obtain⟨hp,hn,hm,hl⟩:P7 p∧N7 p∧8 * rem7 p+2 < k+1∧zf p.1≤4900:=hp;change AWP _ _ _ _ _ ⟨[(0,⟨.optr rps,⟨0,rps,.here⟩⟩)],[(0,some (.box rps p))],1⟩ _;have hrec:Rec7 p (rPrs k .prim):=fun b hb hnb hr=>zdT k .prim b hb hnb (fun _ e=>by cases e) (by show 8 * rem7 b+1 < k;omega);have hm1:zh1 .prim p < k:=by show 8 * rem7 p+1 < k;omega
 have hr0:=hrec p hp hn (zj _);have hO:rPrs (k+1) .chain p=zbs (rPrs k .prim) 5000 (rPrs k .prim p).1 (rPrs k .prim p).2:=rfl;obtain⟨R,hR⟩:∃ R,zbs (rPrs k .prim) 5000 (rPrs k .prim p).1 (rPrs k .prim p).2=R:=⟨_,rfl⟩;rw[hR]at hO;refine za (za ?_);refine zaa hX hK rfl ?_ ?_
 ·trivial
 refine za (za ?_);refine zaa hX hK rfl ?_ ?_
 ·exact⟨hp,hn,hm1,hl⟩
 refine zam (σ':=⟨[(0,⟨.optr rps,⟨0,rps,.here⟩⟩),(3,⟨.slice nd,(rPrs k .prim p).1⟩)],[(0,some (.box rps (rPrs k .prim p).2))],1⟩) ⟨⟨rfl,rfl,trivial⟩,⟨rfl,trivial⟩,rfl,rfl⟩ ?_;have hc0:Cnt7 0 (rPrs k .prim p).2:=by
  unfold Cnt7;have:=hr0.go.ok.1.2.1;split<;>omega
 (repeat(first|apply zae|apply zab|apply zac|apply zad));refine yD (ι:=Nat×List Nd×RSt) (fun x=>⟨[(0,⟨.optr rps,⟨0,rps,.here⟩⟩),(3,⟨.slice nd,x.2.1⟩)],[(0,some (.box rps x.2.2))],1⟩) (fun x=>Res7 p x.2.1 x.2.2∧Cnt7 x.1 x.2.2∧zbs (rPrs k .prim) (5000 - x.1) x.2.1 x.2.2=R) (fun x=>5000 - x.1) (0,(rPrs k .prim p).1,(rPrs k .prim p).2) ⟨hr0,hc0,hR⟩ ⟨⟨rfl,rfl,trivial⟩,⟨rfl,trivial⟩,rfl,rfl⟩ ?_;rintro ⟨i,r,q⟩ ⟨hres,hcn,hL⟩;have hres:Res7 p r q:=hres;have hcn:Cnt7 i q:=hcn;have hL:zbs (rPrs k .prim) (5000 - i) r q=R:=hL;have hi:=hcn.le hres.go.ok hres.go.s hl;show AWP _ _ _ _ _ ⟨[(0,⟨.optr rps,⟨0,rps,.here⟩⟩),(3,⟨.slice nd,r⟩)],[(0,some (.box rps q))],1⟩ _;obtain⟨f,hf⟩:∃ f,5000 - i=f+1:=⟨4999 - i,by omega⟩;rw[hf,zbs]at hL;refine za (za ?_);refine zaa hX hK rfl ?_ ?_
 ·repeat'(first|exact trivial|assumption|(refine⟨?_,?_⟩)|(intro _)|exact zb rfl|exact zn _|(simp_all [allP];done))
 have hv:(bif (q.e==0) then (zt q.t==1) else false)=decide (q.e=0∧zt q.t=1):=by
  rw[zc2,yb,zd,beq_iff_eq,beq_iff_eq,decide_eq_true_iff]
 refine zaf rfl (fun hb=>?_) (fun hb=>?_)
 rotate_left
 ·have hb:=of_decide_eq_false (hv.symm.trans hb);rw[if_neg hb]at hL;apply zad;refine za (za ?_);refine zaa hX hK rfl ?_ ?_
  ·trivial
  have hO:rPrs (k+1) .chain p=(r,q):=hO.trans hL.symm;exact zm ⟨.inr rfl,boxP (congrArg (fun x=>x.2) hO).symm,zas rfl trivial rfl rfl (congrArg (fun x=>x.1) hO).symm⟩
 have hb:=of_decide_eq_true (hv.symm.trans hb);rw[if_pos hb]at hL;apply zab;refine za (za ?_);refine zaa hX hK rfl ?_ ?_
 ·trivial
 refine za (za ?_);refine zaa hX hK rfl ?_ ?_
 ·trivial
 refine za (za ?_);refine zaa hX hK rfl ?_ ?_
 ·trivial
 obtain⟨T,hT⟩:∃ T,yc q.t=T:=⟨_,rfl⟩;refine xM (σ':=⟨[(0,⟨.optr rps,⟨0,rps,.here⟩⟩),(3,⟨.slice nd,r⟩),(4,⟨.bool,zgw.any (fun y=>eqb .str y T)⟩)],[(0,some (.box rps q))],1⟩) ?_ ?_
 ·(repeat(first|apply zae|apply zab|apply zac|apply zad));refine yD (ι:=Nat) (fun j=>⟨[(0,⟨.optr rps,⟨0,rps,.here⟩⟩),(3,⟨.slice nd,r⟩),(4,⟨.bool,(zgw.take j).any (fun y=>eqb .str y T)⟩),(5,⟨strs7,zgw⟩),(6,⟨i64,(j:Int)⟩)],[(0,some (.box rps q))],1⟩) (fun j=>j≤7) (fun j=>7 - j) 0 (zk _) ⟨⟨rfl,rfl,rfl,rfl,rfl,trivial⟩,⟨rfl,trivial⟩,rfl,rfl⟩ ?_;intro j hj;have j0:(0:Int)≤(j:Int):=by omega
  have h7:zgw.length=7:=rfl;refine za (za ?_);refine zaa hX hK rfl ?_ ?_
  ·trivial
  refine zaf rfl (fun hb2=>?_) (fun hb2=>?_)
  ·have hb2:decide ((j:Int) < ((zgw.length:Nat):Int))=true:=hb2;have hb2:=of_decide_eq_true hb2;have hj7:j < zgw.length:=by omega
   apply zab;generalize hA:(zgw.take j).any (fun y=>eqb .str y T)=A;(repeat(first|apply zae|apply zab|apply zac|apply zad));refine v8 dM hX hK 13 (by kernel_rfl) rfl rfl ?_ ?_ ?_
   ·cases A<;>repeat'(first|exact trivial|exact j0|exact hb2|rfl|(intro h;cases h;done)|(intro _)|(refine⟨?_,?_⟩))
   ·trivial
   refine za (za ?_);refine zaa hX hK rfl ?_ ?_
   ·exact zaZ (by omega)
   refine⟨j+1,by omega,by omega,⟨rfl,rfl,zbz ?_,rfl,zdM _,trivial⟩,⟨rfl,trivial⟩,rfl,rfl⟩;show (bif A then true else eqb .str (zgw.getD ((j:Int)).toNat []) (yc q.t))=(zgw.take (j+1)).any (fun y=>eqb .str y T);rw[zE hj7,List.any_append,hA,zaM hj7,hT,b_or];simp
  ·have hb2:decide ((j:Int) < ((zgw.length:Nat):Int))=false:=hb2;have hb2:=of_decide_eq_false hb2;obtain rfl:j=7:=by omega
   exact zad ⟨⟨rfl,rfl,rfl,trivial⟩,⟨rfl,trivial⟩,rfl,rfl⟩
 rw[zrh];rw[hT]at hL;refine za (za ?_);refine zaa hX hK rfl ?_ ?_
 ·trivial
 refine zaf rfl (fun hb3=>?_) (fun hb3=>?_)
 ·have hb3:(!(sufW T).isSome)=true:=hb3;have hw:sufW T=none:=by
   cases h:sufW T with
   |none=>rfl
   |some w=>rw[h]at hb3;cases hb3
  rw[hw]at hL;have hO:rPrs (k+1) .chain p=(r,q):=hO.trans hL.symm;refine za (za ?_);refine zaa hX hK rfl ?_ ?_
  ·trivial
  exact zm ⟨.inr rfl,boxP (congrArg (fun x=>x.2) hO).symm,zas rfl trivial rfl rfl (congrArg (fun x=>x.1) hO).symm⟩
 have hb3:(!(sufW T).isSome)=false:=hb3;rw[yC]at hb3;obtain⟨w,hw⟩:=jF.1 hb3;rw[hw]at hL;have hL:zbs (rPrs k .prim) f (zbY (rPrs k .prim) w r q).1 (zbY (rPrs k .prim) w r q).2=R:=hL;have hsO:zlR k q r=zbY (rPrs k .prim) w r q:=by
  unfold zlR;rw[hT,hw]
 have s1:(sufW (yc q.t)).isSome=true:=by rw[hT];exact hb3
 have s2:r.length≤1000:=by
  have:=hres.len;have:=hres.n.2.1;have:=hn.1;omega
 have s3:8 * rem7 q+1 < k:=by have:=hres.go.rem;omega
 have s4:zf q.1≤4900:=by rw[hres.go.s];exact hl
 apply zab;refine za (za ?_);refine zaa hX hK rfl ?_ ?_
 ·exact⟨hres.go.ok,hres.n,hb.1,s1,hres.ne hb.1,s2,hres.rb,s3,s4⟩
 have hst:=zmO hres hrec hb.1 w;obtain⟨b1,b2,b3⟩:=zfL hres.go.ok hres.n (hres.n.e0 hb.1);have hbx:Go7 (zaz q) (zbY (rPrs k .prim) w r q).2:=by
  obtain⟨⟨c1,c2⟩,c3⟩:=zjF w b1.ok;cases w with
  |behind=>exact c1.trans (hrec _ c1.ok (b2.of c2 c1.e) ((hres.go.trans b1).trans c1).rem).go
  |_=>exact c1
 exact⟨(i+1,(zbY (rPrs k .prim) w r q).1,(zbY (rPrs k .prim) w r q).2),⟨hst,hcn.step hb.1 (znI hres.go.ok hb.1 (by rw[hb.2];decide)) b1 hbx,by
  show zbs _ (5000 - (i+1)) _ _=R;rw[show 5000 - (i+1)=f by omega];exact hL⟩,by show 5000 - (i+1) < 5000 - i;omega,⟨rfl,by rw[<-hsO];rfl,trivial⟩,⟨boxP (by rw[<-hsO];rfl),trivial⟩,rfl,rfl⟩
def k7p (k:Nat):Kn:={ gmK with R:=[(143,cIs7),(84,ziv),(90,zlA),(91,zlB),(144,zix),(212,ztf),(83,zmz k)] }
set_option maxHeartbeats 4000000 in
theorem zrI {k:Nat} (hB:zbF Tryz.prog gmG 83 (zmz k)):zbF Tryz.prog gmG 180 (zmx (k+1)):=by
 have hK:KnOk Tryz.prog gmG (k7p k):=zaC.withR (.cons zng (fun _ _=>trivial) <| .cons zfb (fun _ _=>trivial) <| .cons zhn (fun _ _=>trivial) <| .cons zho (fun _ _=>trivial) <| .cons zgq (fun _ _=>trivial) <| .cons zr7 (fun _ _=>trivial) <| .cons hB (fun _ _=>trivial) .nil);refine za4 (K:=k7p k) hK Tryz.func180 rfl rfl Tryz.call180 rfl (zb rfl) (fun w w' g hg h hk=>trivial) ?_;rintro w0 O g hX hinv (p:RSt) _ hp;obtain⟨hp,hn,hm,hl⟩:P7 p∧N7 p∧8 * rem7 p+1 < k+1∧zf p.1≤4900:=hp;change AWP _ _ _ _ _ ⟨[(0,⟨.optr rps,⟨0,rps,.here⟩⟩)],[(0,some (.box rps p))],1⟩ _;have hO:rPrs (k+1) .prim p=zkN (rPrs k) p:=rfl;unfold zkN at hO;refine za (za ?_);refine zaa hX hK rfl ?_ ?_
 ·trivial
 refine za (za ?_);refine zaa hX hK rfl ?_ ?_
 ·trivial
 refine zaf rfl (fun hb=>?_) (fun hb=>?_)
 ·have hb:(p.e != 0)=true:=hb;rw[if_neg (bne_iff_ne.1 hb)]at hO;refine za (za ?_);refine zaa hX hK rfl ?_ ?_
  ·trivial
  exact zm ⟨.inr rfl,boxP (congrArg (fun x=>x.2) hO).symm,zas rfl trivial rfl rfl (congrArg (fun x=>x.1) hO).symm⟩
 have hb:(p.e != 0)=false:=hb;have he:p.e=0:=bne_eq_false_iff_eq.1 hb;rw[if_pos he]at hO;apply zab;refine za (za ?_);refine zaa hX hK rfl ?_ ?_
 ·trivial
 refine zaf rfl (fun hb=>?_) (fun hb=>?_)
 ·have hb:rIs p zc6=true:=hb;rw[if_pos hb]at hO;obtain⟨a1,a2,a3,a4⟩:=zcU hp;have hlt:=zsR a1 hp (a4 he (ztP hb));have n1:=hn.of a2 a1.e;have m1:zh1 (.bin ((1:Int)).toNat) (zbB p) < k:=by show 8 * rem7 (zbB p)+(7 - 1) < k;omega
  have x:=zdT k (.bin 1) _ a1.ok n1 (fun _ e=>by cases e;omega) m1;have l1:zf (zbB p).1≤4900:=by rw[a1.s];exact hl
  have o1:(1:Int)≤1:=by decide
  have o4:(1:Int)≤4:=by decide
  refine za (za ?_);refine zaa hX hK rfl ?_ ?_
  ·exact hp
  refine za (za ?_);refine zaa hX hK rfl ?_ ?_
  ·exact⟨a1.ok,n1,o1,o4,m1,l1⟩
  refine za (za ?_);refine zaa hX hK rfl ?_ ?_
  ·exact x.go.ok
  refine za (za ?_);refine zaa hX hK rfl ?_ ?_
  ·trivial
  exact zm ⟨.inr rfl,boxP (congrArg (fun x=>x.2) hO).symm,zas rfl trivial rfl rfl (congrArg (fun x=>x.1) hO).symm⟩
 have hb:rIs p zc6=false:=hb;rw[if_neg (by rw[hb];decide)]at hO;apply zab;refine zam (σ':=⟨[(0,⟨.optr rps,⟨0,rps,.here⟩⟩)],[(0,some (.box rps p))],1⟩) ⟨⟨rfl,trivial⟩,⟨rfl,trivial⟩,rfl,rfl⟩ ?_;refine za (za ?_);refine zaa hX hK rfl ?_ ?_
 ·trivial
 refine zaf rfl (fun hb2=>?_) (fun hb2=>?_)
 ·have hb2:zt p.t=2:=eq_of_beq hb2;rw[if_pos hb2]at hO;refine za (za ?_);refine zaa hX hK rfl ?_ ?_
  ·trivial
  refine zam (σ':=⟨[(0,⟨.optr rps,⟨0,rps,.here⟩⟩),(4,⟨.optr nd,⟨1,nd,.here⟩⟩)],[(0,some (.box rps p)),(1,some (.box nd (18,0,0,0,0,0,[],yc p.t,())))],2⟩) ⟨⟨rfl,rfl,trivial⟩,⟨rfl,rfl,trivial⟩,rfl,rfl⟩ ?_;refine za (za ?_);refine zaa hX hK rfl ?_ ?_
  ·trivial
  refine xM (σ':=⟨[(0,⟨.optr rps,⟨0,rps,.here⟩⟩),(4,⟨.optr nd,⟨1,nd,.here⟩⟩)],[(0,some (.box rps (if 32 < (yc p.t).length then zat p 2 else p))),(1,some (.box nd (18,0,0,0,0,0,[],yc p.t,())))],2⟩) ?_ ?_
  ·refine zaf rfl (fun hb3=>?_) (fun hb3=>?_)
   ·have hb3:decide ((((yc p.t).length:Nat):Int) > 32)=true:=hb3;have hb3:=of_decide_eq_true hb3;refine za (za ?_);refine zaa hX hK rfl ?_ ?_
    ·trivial
    exact⟨⟨rfl,rfl,trivial⟩,⟨boxP (by rw[if_pos (by omega)];rfl),rfl,trivial⟩,rfl,rfl⟩
   ·have hb3:decide ((((yc p.t).length:Nat):Int) > 32)=false:=hb3;have hb3:=of_decide_eq_false hb3;exact zab ⟨⟨rfl,rfl,trivial⟩,⟨boxP (by rw[if_neg (by omega)]),rfl,trivial⟩,rfl,rfl⟩
  have h1:P7 (if 32 < (yc p.t).length then zat p 2 else p)∧0≤(if 32 < (yc p.t).length then zat p 2 else p).nodes∧(if 32 < (yc p.t).length then zat p 2 else p).nodes≤1000000:=by
   have:=hn.1;have:=hn.2.1;split
   ·rw[(zaI hp).2.1];exact⟨(zaI hp).1.ok,by omega,by omega⟩
   ·exact⟨hp,by omega,by omega⟩
  generalize (if 32 < (yc p.t).length then zat p 2 else p)=q at *;refine za (za ?_);refine zaa hX hK rfl ?_ ?_
  ·exact h1
  refine za (za ?_);refine zaa hX hK rfl ?_ ?_
  ·trivial
  refine qS hX 2 ?_;exact zm ⟨.inr rfl,boxP (congrArg (fun x=>x.2) hO).symm,zas rfl trivial rfl rfl (congrArg (fun x=>x.1) hO).symm⟩
 have hb2:zt p.t≠2:=ne_of_beq_false hb2;rw[if_neg hb2]at hO;apply zab;refine za (za ?_);refine zaa hX hK rfl ?_ ?_
 ·trivial
 refine zaf rfl (fun hb3=>?_) (fun hb3=>?_)
 ·have hb3:(zt p.t != 1)=true:=hb3;rw[if_neg (bne_iff_ne.1 hb3)]at hO;refine za (za ?_);refine zaa hX hK rfl ?_ ?_
  ·trivial
  refine za (za ?_);refine zaa hX hK rfl ?_ ?_
  ·trivial
  exact zm ⟨.inr rfl,boxP (congrArg (fun x=>x.2) hO).symm,zas rfl trivial rfl rfl (congrArg (fun x=>x.1) hO).symm⟩
 ·have hb3:(zt p.t != 1)=false:=hb3;rw[if_pos (bne_eq_false_iff_eq.1 hb3)]at hO;have hn0:0≤p.nodes∧p.nodes≤1000000:=⟨hn.1,by have:=hn.2.1;omega⟩;apply zab;refine za (za ?_);refine zaa hX hK rfl ?_ ?_
  ·exact⟨hp,hn0⟩
  refine qS hX 2 ?_;exact zm ⟨.inr rfl,boxP (congrArg (fun x=>x.2) hO).symm,zas rfl trivial rfl rfl (congrArg (fun x=>x.1) hO).symm⟩
theorem vWd {x y:List UInt8} (h:x=y):(⟨.str,x⟩:V)=⟨.str,y⟩:=by rw[h]
def k7q (k:Nat):Kn:={ gmK with C:=[(142,ztb),(95,zuZ)],R:=[(143,cIs7),(144,zix),(141,zsE k),(83,zmz k)] }
set_option maxHeartbeats 4000000 in
theorem zu2 {k:Nat} (hC:zbF Tryz.prog gmG 141 (zsE k)) (hB:zbF Tryz.prog gmG 83 (zmz k)):zbF Tryz.prog gmG 83 (zmz (k+1)):=by
 have hK:KnOk Tryz.prog gmG (k7q k):=(zaC.with (.cons zrO <| .cons zqR .nil)).withR (.cons zng (fun _ _=>trivial) <| .cons zgq (fun _ _=>trivial) <| .cons hC (fun _ _=>trivial) <| .cons hB (fun _ _=>trivial) .nil);refine za4 (K:=k7q k) hK Tryz.func83 rfl rfl Tryz.call83 rfl (zb rfl) (fun w w' g hg h hk=>trivial) ?_;rintro w0 O g hX hinv (p:RSt) ⟨(x:Int),_⟩ hp;obtain⟨hp,hn,hx1,hx4,hm,hl⟩:P7 p∧N7 p∧1≤x∧x≤4∧8 * rem7 p+(7 - x.toNat) < k+1∧zf p.1≤4900:=hp;obtain⟨l,rfl⟩:∃ l:Nat,x=(l:Int):=⟨x.toNat,by omega⟩;rw[zy]at hm;change AWP _ _ _ _ _ ⟨[(0,⟨.optr rps,⟨0,rps,.here⟩⟩),(1,⟨i64,(l:Int)⟩)],[(0,some (.box rps p))],1⟩ _;have hO:rPrs (k+1) (.bin ((l:Int)).toNat) p=if 3 < l then rPrs k .chain p else zdN (rPrs k (.bin (l+1))) l 5000 (rPrs k (.bin (l+1)) p).1 (rPrs k (.bin (l+1)) p).2:=by
  rw[zy,rPrs]
 refine za (za ?_);refine zaa hX hK rfl ?_ ?_
 ·trivial
 refine za (za ?_);refine zaa hX hK rfl ?_ ?_
 ·trivial
 refine zaf rfl (fun hb=>?_) (fun hb=>?_)
 ·have hb:decide ((l:Int) > 3)=true:=hb;have hb:=of_decide_eq_true hb;rw[if_pos (by omega)]at hO;have m1:zh1 .chain p < k:=by show 8 * rem7 p+2 < k;omega
  refine za (za ?_);refine zaa hX hK rfl ?_ ?_
  ·exact⟨hp,hn,m1,hl⟩
  exact zm ⟨.inr rfl,boxP (congrArg (fun x=>x.2) hO).symm,zas rfl trivial rfl rfl (congrArg (fun x=>x.1) hO).symm⟩
 have hb:decide ((l:Int) > 3)=false:=hb;have hb:=of_decide_eq_false hb;rw[if_neg (by omega)]at hO;have hrec:Rec7 p (rPrs k (.bin (l+1))):=fun b hb hnb hr=>zdT k (.bin (l+1)) b hb hnb (fun _ e=>by cases e;omega) (by show 8 * rem7 b+(7 - (l+1)) < k;omega);have q0:inR .i64 ((l:Int)+1):=zaq (by omega) (by omega);have q1:(1:Int)≤(l:Int)+1:=by omega
 have q2:(l:Int)+1≤4:=by omega
 have q3:(((l:Int)+1)).toNat=l+1:=by omega
 have m1:zh1 (.bin (((l:Int)+1)).toNat) p < k:=by rw[q3];show 8 * rem7 p+(7 - (l+1)) < k;omega
 have hr0:=hrec p hp hn (zj _);obtain⟨R,hR⟩:∃ R,zdN (rPrs k (.bin (l+1))) l 5000 (rPrs k (.bin (l+1)) p).1 (rPrs k (.bin (l+1)) p).2=R:=⟨_,rfl⟩;rw[hR]at hO;apply zab;refine za (za ?_);refine zaa hX hK rfl ?_ ?_
 ·exact⟨q0,hp,hn,q1,q2,m1,hl⟩
 refine zam (σ':=⟨[(0,⟨.optr rps,⟨0,rps,.here⟩⟩),(1,⟨i64,(l:Int)⟩),(5,⟨.slice nd,(rPrs k (.bin (l+1)) p).1⟩)],[(0,some (.box rps (rPrs k (.bin (l+1)) p).2))],1⟩) ⟨⟨rfl,rfl,by rw[<-q3];rfl,trivial⟩,⟨boxP (by rw[<-q3];rfl),trivial⟩,rfl,rfl⟩ ?_;have x1:(1:Int)≤(l:Int):=hx1;have x3:(l:Int)≤3:=by omega
 refine za (za ?_);refine zaa hX hK rfl ?_ ?_
 ·exact⟨x1,x3⟩
 have e1:((l:Int) - 1).toNat=l - 1:=by omega
 refine zam (σ':=⟨[(0,⟨.optr rps,⟨0,rps,.here⟩⟩),(1,⟨i64,(l:Int)⟩),(5,⟨.slice nd,(rPrs k (.bin (l+1)) p).1⟩),(6,⟨.str,opW (l - 1)⟩),(7,⟨i64,opK (l - 1)⟩)],[(0,some (.box rps (rPrs k (.bin (l+1)) p).2))],1⟩) ⟨⟨rfl,rfl,rfl,vWd (congrArg opW e1),vI64 (congrArg opK e1),trivial⟩,⟨rfl,trivial⟩,rfl,rfl⟩ ?_;have hc0:Cnt7 0 (rPrs k (.bin (l+1)) p).2:=by
  unfold Cnt7;have:=hr0.go.ok.1.2.1;split<;>omega
 (repeat(first|apply zae|apply zab|apply zac|apply zad));refine yD (ι:=Nat×List Nd×RSt) (fun x=>⟨[(0,⟨.optr rps,⟨0,rps,.here⟩⟩),(1,⟨i64,(l:Int)⟩),(5,⟨.slice nd,x.2.1⟩),(6,⟨.str,opW (l - 1)⟩),(7,⟨i64,opK (l - 1)⟩)],[(0,some (.box rps x.2.2))],1⟩) (fun x=>Res7 p x.2.1 x.2.2∧Cnt7 x.1 x.2.2∧zdN (rPrs k (.bin (l+1))) l (5000 - x.1) x.2.1 x.2.2=R) (fun x=>5000 - x.1) (0,(rPrs k (.bin (l+1)) p).1,(rPrs k (.bin (l+1)) p).2) ⟨hr0,hc0,hR⟩ ⟨⟨rfl,rfl,rfl,rfl,rfl,trivial⟩,⟨rfl,trivial⟩,rfl,rfl⟩ ?_;rintro ⟨i,r,q⟩ ⟨hres,hcn,hL⟩;have hres:Res7 p r q:=hres;have hcn:Cnt7 i q:=hcn;have hL:zdN (rPrs k (.bin (l+1))) l (5000 - i) r q=R:=hL;have hi:=hcn.le hres.go.ok hres.go.s hl;show AWP _ _ _ _ _ ⟨[(0,⟨.optr rps,⟨0,rps,.here⟩⟩),(1,⟨i64,(l:Int)⟩),(5,⟨.slice nd,r⟩),(6,⟨.str,opW (l - 1)⟩),(7,⟨i64,opK (l - 1)⟩)],[(0,some (.box rps q))],1⟩ _;obtain⟨f,hf⟩:∃ f,5000 - i=f+1:=⟨4999 - i,by omega⟩;rw[hf,zdN]at hL;refine za (za ?_);refine zaa hX hK rfl ?_ ?_
 ·trivial
 refine zaf rfl (fun hb2=>?_) (fun hb2=>?_)
 rotate_left
 ·have hb2:rIs q (opW (l - 1))=false:=hb2;rw[if_neg (by rw[hb2];decide)]at hL;apply zad;refine za (za ?_);refine zaa hX hK rfl ?_ ?_
  ·trivial
  have hO:rPrs (k+1) (.bin ((l:Int)).toNat) p=(r,q):=hO.trans hL.symm;exact zm ⟨.inr rfl,boxP (congrArg (fun x=>x.2) hO).symm,zas rfl trivial rfl rfl (congrArg (fun x=>x.1) hO).symm⟩
 have hb2:rIs q (opW (l - 1))=true:=hb2;rw[if_pos hb2]at hL;have hL:zdN (rPrs k (.bin (l+1))) l f (zeg r (rPrs k (.bin (l+1)) (zaz q)).1 (opK (l - 1),zNd.2)) (rPrs k (.bin (l+1)) (zaz q)).2=R:=hL;have he:=rIs_e hb2;have hn0:0≤q.nodes∧q.nodes≤1000000:=⟨hres.n.1,by have:=hres.n.2.1;omega⟩;obtain⟨b1,b2,b3⟩:=zfL hres.go.ok hres.n (hres.n.e0 he);have hx:=hrec _ b1.ok b2 (hres.go.trans b1).rem;have m2:zh1 (.bin (((l:Int)+1)).toNat) (zaz q) < k:=by
  rw[q3];show 8 * rem7 (zaz q)+(7 - (l+1)) < k;have:=(hres.go.trans b1).rem;omega
 have l2:zf (zaz q).1≤4900:=by rw[b1.s,hres.go.s];exact hl
 have s1:r.length≤100000:=by
  have:=hres.len;have:=hres.n.2.1;have:=hn.1;omega
 have s2:(rPrs k (.bin (l+1)) (zaz q)).1.length≤1000:=by
  have:=hx.len;have:=hx.n.2.1;have:=b2.1;omega
 have s3:(rPrs k (.bin (l+1)) (zaz q)).1.length≤100000:=by omega
 have s4:=zsS hx.rb s2;have s5:=hres.ne he;apply zab;refine za (za ?_);refine zaa hX hK rfl ?_ ?_
 ·exact⟨hres.go.ok,hn0⟩
 refine za (za ?_);refine zaa hX hK rfl ?_ ?_
 ·exact⟨q0,b1.ok,b2,q1,q2,m2,l2⟩
 refine zam (σ':=⟨[(0,⟨.optr rps,⟨0,rps,.here⟩⟩),(1,⟨i64,(l:Int)⟩),(5,⟨.slice nd,r⟩),(6,⟨.str,opW (l - 1)⟩),(7,⟨i64,opK (l - 1)⟩),(8,⟨.slice nd,(rPrs k (.bin (l+1)) (zaz q)).1⟩)],[(0,some (.box rps (rPrs k (.bin (l+1)) (zaz q)).2))],1⟩) ⟨⟨rfl,rfl,rfl,rfl,rfl,by rw[<-q3];rfl,trivial⟩,⟨boxP (by rw[<-q3];rfl),trivial⟩,rfl,rfl⟩ ?_;refine za (za ?_);refine zaa hX hK rfl ?_ ?_
 ·exact⟨s5,s1,s3,s4⟩
 exact⟨(i+1,zeg r (rPrs k (.bin (l+1)) (zaz q)).1 (opK (l - 1),zNd.2),(rPrs k (.bin (l+1)) (zaz q)).2),⟨znG hres hrec he _,hcn.step he (znI hres.go.ok he (ztP hb2)) b1 hx.go,by
  show zdN _ l (5000 - (i+1)) _ _=R;rw[show 5000 - (i+1)=f by omega];exact hL⟩,by show 5000 - (i+1) < 5000 - i;omega,⟨rfl,rfl,rfl,rfl,rfl,trivial⟩,⟨rfl,trivial⟩,rfl,rfl⟩
theorem no7 {c:RCtr} {f:FuncId} (hen:∀ (vs:Array zg) (w:zi),(callFunc f vs).run Tryz.prog w= .ok (.enter f vs) w) (h:∀ x xs,¬ allP (c.pre x xs)):zbF Tryz.prog gmG f c:=⟨hen,fun _ _ _ _ _ x xs _ _ _ _ _ hp=>absurd hp (h x xs)⟩
theorem zpp:∀ k:Nat,zbF Tryz.prog gmG 180 (zmx k)∧zbF Tryz.prog gmG 141 (zsE k)∧zbF Tryz.prog gmG 83 (zmz k)
 |0=>⟨no7 Tryz.call180 fun x xs h=>absurd h.2.2.1 (yg _),no7 Tryz.call141 fun x xs h=>absurd h.2.2.1 (yg _),no7 Tryz.call83 fun x xs h=>absurd h.2.2.2.2.1 (yg _)⟩
 |k+1=>by
  obtain⟨a,b,c⟩:=zpp k;exact⟨zrI c,zqG a,zu2 b c⟩
def zfx (k:Nat) (p:RSt):List Nd×RSt:=
 let r:=rPrs k (.bin 1) p
 (r.1,if zt r.2.t=0 then r.2 else zat r.2 3)
def cWhoK (k:Nat):RCtr:={ self:=rps,args:=[],inv:=fun _ _=>True,pre:=fun p _=>[P7 p,N7 p,8 * rem7 p+6 < k,zf p.1≤4900],res:=.slice nd,out:=fun p _=>(zfx k p).1,post:=fun p _=>(zfx k p).2 }
def kWhK (k:Nat):Kn:={ gmK with R:=[(84,ziv),(83,zmz k)] }
theorem zq9 (k:Nat):zbF Tryz.prog gmG 48 (cWhoK k):=by
 have hK:KnOk Tryz.prog gmG (kWhK k):=zaC.withR (.cons zfb (fun _ _=>trivial) <| .cons (zpp k).2.2 (fun _ _=>trivial) .nil);refine za4 (K:=kWhK k) hK Tryz.func48 rfl rfl Tryz.call48 rfl (zb rfl) (fun w w' g hg h hk=>trivial) ?_;rintro w0 O g hX hinv (p:RSt) _ hp;obtain⟨hp,hn,hm,hl⟩:P7 p∧N7 p∧8 * rem7 p+6 < k∧zf p.1≤4900:=hp;have hm:zh1 (.bin ((1:Int)).toNat) p < k:=hm;change AWP _ _ _ _ _ ⟨[(0,⟨.optr rps,⟨0,rps,.here⟩⟩)],[(0,some (.box rps p))],1⟩ _;have hO:zfx k p=((rPrs k (.bin 1) p).1,if zt (rPrs k (.bin 1) p).2.t=0 then (rPrs k (.bin 1) p).2 else zat (rPrs k (.bin 1) p).2 3):=rfl;refine za (za ?_);refine zaa hX hK rfl ?_ ?_
 ·trivial
 refine za (za ?_);refine zaa hX hK rfl ?_ ?_
 ·exact⟨hp,hn,by decide,by decide,hm,hl⟩
 refine zam (σ':=⟨[(0,⟨.optr rps,⟨0,rps,.here⟩⟩),(3,⟨.slice nd,(rPrs k (.bin 1) p).1⟩)],[(0,some (.box rps (rPrs k (.bin 1) p).2))],1⟩) ⟨⟨rfl,rfl,trivial⟩,⟨rfl,trivial⟩,rfl,rfl⟩ ?_;generalize rPrs k (.bin 1) p=R at *;obtain⟨r,q⟩:=R;refine za (za ?_);refine zaa hX hK rfl ?_ ?_
 ·trivial
 refine xM (σ':=⟨[(0,⟨.optr rps,⟨0,rps,.here⟩⟩),(3,⟨.slice nd,r⟩)],[(0,some (.box rps (if zt q.t=0 then q else zat q 3)))],1⟩) ?_ ?_
 ·refine zaf rfl (fun hb=>?_) (fun hb=>?_)
  ·have hb:(zt q.t != 0)=true:=hb;refine za (za ?_);refine zaa hX hK rfl ?_ ?_
   ·trivial
   exact⟨⟨rfl,rfl,trivial⟩,⟨boxP (by rw[if_neg (bne_iff_ne.1 hb)];rfl),trivial⟩,rfl,rfl⟩
  ·have hb:(zt q.t != 0)=false:=hb;exact zab ⟨⟨rfl,rfl,trivial⟩,⟨boxP (by rw[if_pos (bne_eq_false_iff_eq.1 hb)]),trivial⟩,rfl,rfl⟩
 refine za (za ?_);refine zaa hX hK rfl ?_ ?_
 ·trivial
 exact zm ⟨.inr rfl,boxP (congrArg (fun x=>x.2) hO).symm,zas rfl trivial rfl rfl (congrArg (fun x=>x.1) hO).symm⟩
def zuR:RCtr:={ self:=rps,args:=[],inv:=fun _ _=>True,pre:=fun p _=>[P7 p,N7 p,8 * rem7 p+6 < zjH,zf p.1≤4900],res:=.slice nd,out:=fun p _=>(zcx p).1,post:=fun p _=>(zcx p).2 }
theorem zko:zbF Tryz.prog gmG 48 zuR:=zq9 zjH
theorem zoW {s:List UInt8} (h:s.length≤2000000):P7 (zaJ s):=by
 obtain⟨h1,h2,h3⟩:=zhg (s:=s) (o:=0) (yN 0) (by omega);have e:RTk.at (zck s 0)+((yc (zck s 0)).length:Nat)+(if zt (zck s 0)=2 then 1 else 0)≤((s.length:Nat):Int):=by
  rw[kI];exact h2
 exact⟨⟨h,h1,e⟩,zpt s 0,h3⟩
theorem ztE (s:List UInt8):N7 (zaJ s):=⟨yN 0,(by decide:(0:Int)≤65),fun _=>(by decide:(0:Int)≤64)⟩
def zuT:FCtr:={ args:=[.str],pre:=fun xs=>[zf xs.1≤2000000],obj:=fun xs=>.box rps (zaJ xs.1) }
theorem zky:zlK Tryz.prog gmG 47 zuT:=by
 refine zin zeq Tryz.func47 rfl rfl Tryz.call47 rfl (zb rfl) (fun xs=>⟨rfl,rfl⟩) ?_;rintro w0 O hX ⟨(s:List UInt8),⟨⟩⟩ hp;have hlen:s.length≤2000000:=hp;change AWP _ _ _ _ _ ⟨[(0,⟨.str,s⟩)],[],0⟩ _;refine za (za ?_);refine zaa hX zeq rfl ?_ ?_
 ·trivial
 refine za (za ?_);refine zaa hX zeq rfl ?_ ?_
 ·exact⟨hlen,yN 0,zk _⟩
 exact zm ⟨.inr rfl,_,_,rfl,rfl,rfl⟩
def zj9:Ctr:={ args:=[.str],pre:=fun _=>[],res:=.tup (.slice nd) (.tup i64 (.tup i64 .unit)),own:=none,out:=fun x=>((zdq x.1).1,(zdq x.1).2.1,(zdq x.1).2.2,()) }
def kRp8:Kn:={ gmK with R:=[(48,zuR)] }
theorem zdZ:KnOk Tryz.prog gmG kRp8:=zaC.withR (.cons zko (fun _ _=>trivial) .nil)
theorem fuel7 {p:RSt} (h:P7 p) (hl:zf p.1≤4900):8 * rem7 p+6 < zjH:=by
 show 8 * rem7 p+6 < 40000;have:=h.1.2.1;unfold rem7;omega
theorem zpH:yB Tryz.prog gmG 17 zj9:=by
 refine zap (K:=kRp8) zdZ Tryz.func17 rfl rfl Tryz.call17 rfl (by decide) (by intro h;cases h) ?_;rintro w0 O hX ⟨(s:List UInt8),⟨⟩⟩ hp;change AWP _ _ _ _ _ ⟨[(0,⟨.str,s⟩)],[],0⟩ _;refine za (za ?_);refine zaa hX zdZ rfl ?_ ?_
 ·trivial
 refine za (za ?_);refine zaa hX zdZ rfl ?_ ?_
 ·trivial
 refine zaf rfl (fun hb=>?_) (fun hb=>?_)
 ·have hb:decide (((s.length:Nat):Int) > 4000)=true:=hb;have hb:=of_decide_eq_true hb;have hP:zdq s=([],0,2):=if_pos (by omega);refine za (za ?_);refine zaa hX zdZ rfl ?_ ?_
  ·trivial
  refine zm ⟨.inr rfl,za9 (by decide) rfl rfl trivial ?_⟩;show _=((zdq s).1,(zdq s).2.1,(zdq s).2.2,());rw[hP]
 have hb:decide (((s.length:Nat):Int) > 4000)=false:=hb;have hb:=of_decide_eq_false hb;have hP:zdq s=if (zcx (zaJ s)).2.e=0 then ((zcx (zaJ s)).1,0,0) else ([],(zcx (zaJ s)).2.at,(zcx (zaJ s)).2.e):=if_neg (by omega)
 have hs:s.length≤2000000:=by omega
 have hl:zf (zaJ s).1≤4900:=by show s.length≤4900;omega
 apply zab;(repeat(first|apply zae|apply zab|apply zac|apply zad));refine zah ?_;refine yy 1 hX zdZ rfl trivial ?_;refine AL.fresh hX zky rfl rfl rfl rfl rfl rfl trivial hs ⟨rfl,rfl⟩ rfl rfl ?_;refine zY hX zdZ rfl trivial ?_;refine zam (σ':=⟨[(5,⟨.optr rps,⟨0,rps,.here⟩⟩)],[(0,some (.box rps (zaJ s)))],1⟩) ⟨⟨rfl,trivial⟩,⟨rfl,trivial⟩,rfl,rfl⟩ ?_;have h1:=zoW hs;have h2:=ztE s;have h3:=fuel7 h1 hl;refine za (za ?_);refine zaa hX zdZ rfl ?_ ?_
 ·exact⟨h1,h2,h3,hl⟩
 refine zam (σ':=⟨[(5,⟨.optr rps,⟨0,rps,.here⟩⟩),(6,⟨.slice nd,(zcx (zaJ s)).1⟩)],[(0,some (.box rps (zcx (zaJ s)).2))],1⟩) ⟨⟨rfl,rfl,trivial⟩,⟨rfl,trivial⟩,rfl,rfl⟩ ?_;generalize zcx (zaJ s)=R at *;obtain⟨r,q⟩:=R;refine za (za ?_);refine zaa hX zdZ rfl ?_ ?_
 ·trivial
 refine zaf rfl (fun hb=>?_) (fun hb=>?_)
 ·have hb:(q.e != 0)=true:=hb;rw[if_neg (bne_iff_ne.1 hb)]at hP;(repeat(first|apply zae|apply zab|apply zac|apply zad));refine v8 dM hX zdZ 11 (by kernel_rfl) rfl rfl ?_ ?_ ?_
  ·trivial
  ·trivial
  refine zm ⟨.inr rfl,za9 (by decide) rfl rfl trivial ?_⟩;show _=((zdq s).1,(zdq s).2.1,(zdq s).2.2,());rw[hP];rfl
 have hb:(q.e != 0)=false:=hb;rw[if_pos (bne_eq_false_iff_eq.1 hb)]at hP;apply zab;refine za (za ?_);refine zaa hX zdZ rfl ?_ ?_
 ·trivial
 refine zm ⟨.inr rfl,za9 (by decide) rfl rfl trivial ?_⟩;show _=((zdq s).1,(zdq s).2.1,(zdq s).2.2,());rw[hP]
structure Eqv (σ σ':AS):Prop where
 f:∀ s,zq σ.F s=zq σ'.F s
 e:∀ i,zl σ.E i=zl σ'.E i
 nx:σ.nx=σ'.nx
theorem zf6 {done:List Nat}:∀ {l:List Oper} {i k:Nat},k∈zeI done l i->∃ j o,k=i+j∧l[j]? =some o∧hasN done k=false∧(o.after.toList.all fun e=>!xD .any e||hasN done e.on)=true
 | [],_,_,h=>by cases h
 |o::l,i,k,h=>by
  have rest:k∈zeI done l (i+1)->∃ j o',k=i+j∧(o::l)[j]? =some o'∧hasN done k=false∧(o'.after.toList.all fun e=>!xD .any e||hasN done e.on)=true:=fun h=>by
   obtain⟨j,o',h1,h2,h3⟩:=zf6 h;exact⟨j+1,o',by omega,by simpa using h2,h3⟩
  rw[zeI,cond_eq_ite]at h;split at h
  ·rename_i hc;rw[zd,zs]at hc;rcases zP.1 h with rfl|h
   ·exact⟨0,o,rfl,rfl,hc.1,hc.2⟩
   ·exact rest h
  ·exact rest h
theorem zjP:∀ (n:Nat) (l:List Nat),l.Nodup->(∀ x∈l,x < n)->l.length≤n
 |0,l,_,h=>by
  cases l with
  |nil=>exact zj _
  |cons a l=>exact absurd (h a (zS ..)) (yg _)
 |n+1,l,hn,h=>by
  by_cases hm:n∈l
  ·have h1:=zjP n (l.erase n) (hn.erase n) fun x hx=>by
    have h2:=h x (List.mem_of_mem_erase hx);have h3:x≠n:=fun e=>by rw[hn.mem_erase_iff]at hx;exact hx.1 e
    omega
   rw[List.length_erase_of_mem hm]at h1;omega
  ·have h1:=zjP n l hn fun x hx=>by
    have h2:=h x hx;have h3:x≠n:=fun e=>hm (e▸hx);omega
   omega
theorem zpM {n:Nat} {l:List Nat} (hn:l.Nodup) (h:∀ x∈l,x < n) (hl:l.length=n) {i:Nat} (hi:i < n):i∈l:=
 xg fun hc=>by
  have:=zjP n (i::l) (jG.2 ⟨hc,hn⟩) fun x hx=>by
   rcases zP.1 hx with rfl|hx
   ·exact hi
   ·exact h x hx
  rw[zr]at this;omega
def zrR (B:yp) (L:List (Nat×Nat×V)) (o:Oper):yp:=B++L.filterMap fun p=>bif o.after.toList.any (fun e=>Nat.beq e.on p.1&&xD .any e) then some p.2 else none
def resJ (L:List (Nat×Nat×V)) (i:Nat) (F:yp):yp:=(L.filterMap fun p=>bif Nat.beq p.1 i then some p.2 else none)++F
def disB:List Nat->Bool
 | []=>true
 |s::l=>!hasN l s&&disB l
section
variable {P:Program} {K:Kn} {w0:zi} {X:Ownr} {n:Nat} {σ:AS} {Q:Exit->AS->Prop} {ops:Array Oper}
theorem Sim.eqv {σ':AS} {β:Nat->zg} {a:Act} {w:zi} (h:Sim w0 X n σ β a w) (he:Eqv σ σ'):Sim w0 X n σ' β a w:=by
 have hO:OSet X σ.E β=OSet X σ'.E β:=by
  funext g
  unfold OSet;simp only[he.e]
 obtain⟨h1,h2,h3,h4,h5,h6,h7,h8,h9,h10,h11⟩:=h;simp only[he.e,he.f,he.nx,hO]at h4 h5 h6 h7 h8 h9 h10 h11;exact⟨h1,h2,h3,fun s=>by
  have:=h4 s;rw[he.f s]at this;exact this,h5,h6,h7,h8,h9,h10,h11⟩
def StepJ (K:Kn) (n:Nat) (ops:Array Oper) (B:yp) (L:List (Nat×Nat×V)) (E0:Owns) (nx0 i:Nat):Prop:=
 ∃ o,ops.toList[i]? =some o∧∀ F,∃ r,zmF K n ops o ⟨zrR B L o++F,E0,nx0⟩=some r∧allP r.1∧r.2.F=resJ L i (zrR B L o++F)∧(∀ j,zl r.2.E j=zl E0 j)∧r.2.nx=nx0
structure KnowJ (f:Nat) (B:yp) (L:List (Nat×Nat×V)) (E0:Owns) (nx0:Nat) (done:List Nat) (s:AS):Prop where
 l:∀ p∈L,p.1∈done->zq s.F p.2.1=p.2.2
 b:∀ p∈B,zq s.F p.1=p.2
 e:∀ i,zl s.E i=zl E0 i
 nx:s.nx=nx0
 nd:done.Nodup
 lt:∀ x∈done,x < f
theorem zgd {F:yp}:∀ {N:yp},(∀ p∈N,zq F p.1=p.2)->∀ s,zq (N++F) s=zq F s
 | [],_,s=>rfl
 |(t,v)::N,h,s=>by
  show zq ((t,v)::(N++F)) s=_;rw[zau];split
  ·rename_i e;subst e;exact (h (t,v) (zS ..)).symm
  ·exact zgd (fun p hp=>h p (yk _ hp)) s
theorem zeR {F:yp} {s:Nat}:∀ {N:yp},(∀ p∈N,p.1≠s)->zq (N++F) s=zq F s
 | [],_=>rfl
 |(t,v)::N,h=>by
  show zq ((t,v)::(N++F)) s=_;rw[zau,if_neg (h (t,v) (zS ..))];exact zeR fun p hp=>h p (yk _ hp)
theorem zg5 {F:yp} {s:Nat} {v:V}:∀ {N:yp},(∀ p∈N,p.1=s->p.2=v)->(s,v)∈N->zq (N++F) s=v
 | [],_,h=>by cases h
 |(t,u)::N,h,hm=>by
  show zq ((t,u)::(N++F)) s=_;rw[zau];split
  ·rename_i e;exact h (t,u) (zS ..) e
  ·rename_i hne;rcases zP.1 hm with e|hm
   ·cases e;exact absurd rfl hne
   ·exact zg5 (fun p hp=>h p (yk _ hp)) hm
theorem zss {l:List Nat} (h:disB l=true):l.Nodup:=by
 induction l with
 |nil=>exact List.nodup_nil
 |cons a l ih=>
  rw[disB,zd,zs]at h;exact jG.2 ⟨fun hm=>by
   rw[zgc.2 hm]at h;exact absurd h.1 (by decide),ih h.2⟩
theorem zeK {α:Type} {f:α->Nat}:∀ {l:List α},(l.map f).Nodup->∀ {x y:α},x∈l->y∈l->f x=f y->x=y
 | [],_,_,_,h,_,_=>by cases h
 |a::l,hn,x,y,hx,hy,e=>by
  rw[List.map_cons,jG]at hn;rcases zP.1 hx with hxa|hxl
  ·rcases zP.1 hy with hya|hyl
   ·exact hxa.trans hya.symm
   ·exact absurd (qQ.2 ⟨y,hyl,by rw[<-e,hxa]⟩) hn.1
  ·rcases zP.1 hy with hya|hyl
   ·exact absurd (qQ.2 ⟨x,hxl,by rw[e,hya]⟩) hn.1
   ·exact zeK hn.2 hxl hyl e
theorem zm3 (hX:X.Ok w0) (hK:KnOk P X.G K) {B:yp} {L:List (Nat×Nat×V)} {E0:Owns} {nx0:Nat} (hd:((L.map (·.2.1))++(B.map (·.1))).Nodup)
  (hst:∀ i,i < ops.toList.length->StepJ K n ops B L E0 nx0 i) (hq:∀ done s,KnowJ ops.toList.length B L E0 nx0 done s->(∀ i,i < ops.toList.length->i∈done)->Q .normal s):
  ∀ (k:Nat) (done:List Nat) (s:AS),done.length+k=ops.toList.length->KnowJ ops.toList.length B L E0 nx0 done s->OrdA P w0 X n ops Q k done s
 |0,done,s,hl,h=>jk (hq done s h fun i hi=>zpM h.nd h.lt (by omega) hi)
 |k+1,done,s,hl,h=>by
  obtain⟨hd1,hd2,hd3⟩:=List.nodup_append.1 hd;refine OrdA.step _ rfl (AllN.of_mem fun i hi=>?_);obtain⟨j,o,hij,ho,hun,haf⟩:=zf6 hi;obtain rfl:i=j:=by omega
  have hlt:=(yA.1 ho).1;obtain⟨o',ho',hs⟩:=hst i hlt;obtain rfl:o=o':=by rw[ho]at ho';cases ho';rfl
  refine⟨o,ho,?_⟩;obtain⟨r,h1,h2,h3,h4,h5⟩:=hs s.F;have hneed:∀ p∈zrR B L o,zq s.F p.1=p.2:=fun p hp=>by
   rcases yL.1 hp with hp|hp
   ·exact h.b p hp
   ·obtain⟨q,hq1,hq2⟩:=jJ.1 hp;rw[cond_eq_ite]at hq2;split at hq2
    ·rename_i hc;cases hq2;obtain⟨e,he1,he2⟩:=List.any_eq_true.1 hc;rw[zd,Nat.beq_eq]at he2;have h6:=zW.1 haf e he1;rw[he2.2,Bool.not_true,Bool.false_or]at h6;exact h.l q hq1 (he2.1▸zgc.1 h6)
    ·cases hq2
  have hknow:=zgd hneed;refine StepA.conv (σ':=⟨zrR B L o++s.F,E0,nx0⟩) (fun β a w hs=>⟨β,hs.eqv ⟨fun t=>(hknow t).symm,h.e,h.nx⟩⟩) (yZ hX hK h1 h2 ?_);refine zm3 hX hK hd hst hq k (i::done) r.2 (by rw[zr];omega) ?_;have hres:∀ p∈L.filterMap (fun p=>bif Nat.beq p.1 i then some p.2 else none),∃ q∈L,q.1=i∧q.2=p:=fun p hp=>by
   obtain⟨q,hq1,hq2⟩:=jJ.1 hp;rw[cond_eq_ite]at hq2;split at hq2
   ·rename_i hc;cases hq2;exact⟨q,hq1,Nat.eq_of_beq_eq_true hc,rfl⟩
   ·cases hq2
  refine⟨fun p hp hpd=>?_,fun p hp=>?_,h4,h5,jG.2 ⟨fun hm=>(by rw[zgc.2 hm]at hun;cases hun),h.nd⟩,fun x hx=>?_⟩
  ·rw[h3];unfold resJ;by_cases hpi:p.1=i
   ·refine zg5 (fun q hq he=>?_) (jJ.2 ⟨p,hp,?_⟩)
    ·obtain⟨q',hq1,hq2,rfl⟩:=hres q hq;rw[zeK hd1 hq1 hp he]
    ·rw[hpi,cond_eq_ite,if_pos (Nat.beq_refl i)]
   ·rw[zeR fun q hq he=>?_,hknow]
    ·rcases zP.1 hpd with e|hpd
     ·exact absurd e hpi
     ·exact h.l p hp hpd
    ·obtain⟨q',hq1,hq2,rfl⟩:=hres q hq;exact hpi (by rw[<-zeK hd1 hq1 hp he];exact hq2)
  ·rw[h3];unfold resJ;rw[zeR fun q hq he=>?_,hknow]
   ·exact h.b p hp
   ·obtain⟨q',hq1,hq2,rfl⟩:=hres q hq;exact hd3 _ (kC hq1) _ (kC hp) he
  ·rcases zP.1 hx with rfl|hx
   ·exact hlt
   ·exact h.lt x hx
theorem Sub.of {F:yp}:∀ {N:yp},(∀ p∈N,zq F p.1=p.2)->Sub F N
 | [],_=>trivial
 |(t,v)::N,h=>⟨h (t,v) (zS ..),Sub.of fun p hp=>h p (yk _ hp)⟩
theorem SubE.of {E E0:Owns} (he:∀ i,zl E i=zl E0 i):∀ {N:Owns},SubE E0 N->SubE E N
 | [],_=>trivial
 |(i,some o)::N,h=>⟨(he i).trans h.1,SubE.of he h.2⟩
 |(_,none)::N,h=>SubE.of (N:=N) he h
def AllI (p:Nat->Prop):Nat->Prop
 |0=>True
 |k+1=>AllI p k∧p k
theorem AllI.s {p:Nat->Prop} {k:Nat} (h:AllI p k) (h':p k):AllI p (k+1):=⟨h,h'⟩
theorem AllI.get {p:Nat->Prop}:∀ {k:Nat},AllI p k->∀ i,i < k->p i
 |0,_,i,h=>absurd h (yg _)
 |k+1,h,i,hi=>by
  rcases Nat.lt_succ_iff_lt_or_eq.1 hi with h1|rfl
  ·exact h.1.get i h1
  ·exact h.2
theorem AWP.ordJ (B:yp) (L:List (Nat×Nat×V)) (hm:P.follows .mixedOrders=true) (hX:X.Ok w0) (hK:KnOk P X.G K) {id:Nat} (f:Nat) (hf:ops.toList.length=f) (hb:zmB ops=true)
  (hd:disB ((L.map (·.2.1))++(B.map (·.1)))=true) (hB:Sub σ.F B) (hst:AllI (StepJ K n ops B L σ.E σ.nx) f) (hbf:bndB σ.nx (L.map (·.2)++B)=true) (hsub:SubE σ.E σ.E) (hbe:bndE σ.nx σ.E=true)
  (hlen:L.all (fun p=>Nat.blt p.1 f)=true) (hq:Q .normal ⟨L.map (·.2)++B,σ.E,σ.nx⟩) (hk:X.K≤σ.nx:=by exact zb rfl) (hdf:zbA ops.toList=true:=by rfl):AWP P w0 X n (.region id ops true) σ Q:=by
 subst hf;have hsubget:∀ {F:yp} {N:yp},Sub F N->∀ p∈N,zq F p.1=p.2:=by
  intro F N
  induction N with
  |nil=>intro _ p hp;cases hp
  |cons q N ih=>
   intro h p hp;rcases zP.1 hp with rfl|hp
   ·exact h.1
   ·exact ih h.2 p hp
 refine AWP.ordF (σ':=⟨L.map (·.2)++B,σ.E,σ.nx⟩) hm _ rfl hb ?_ hq hk hdf;refine zm3 (B:=B) (L:=L) (E0:=σ.E) (nx0:=σ.nx) hX hK (zss hd) hst.get (fun done s h hall=>⟨rfl,Sub.of fun p hp=>?_,SubE.of h.e hsub,hbf,hbe⟩) _ [] σ (by simp) ⟨fun p _ h=>(by cases h),hsubget hB,fun _=>rfl,rfl,List.nodup_nil,fun x h=>(by cases h)⟩;rcases yL.1 hp with hp|hp
 ·obtain⟨q,hq1,rfl⟩:=qQ.1 hp;exact h.l q hq1 (hall _ (zb (zW.1 hlen q hq1)))
 ·exact h.b p hp
end
def zew (s:List UInt8):Bool:=(s.head? ==some 35)||s.all isWh
def zqP:Ctr:={ args:=[.str],pre:=fun _=>[],res:=.bool,own:=none,out:=fun x=>zew x.1 }
def kBl7:Kn:={ gmK with C:=[(89,zef isWh)] }
theorem zcs:KnOk Tryz.prog gmG kBl7:=zaC.with (.cons zkp .nil)
theorem zqT:yB Tryz.prog gmG 56 zqP:=by
 refine zap (K:=kBl7) zcs Tryz.func56 rfl rfl Tryz.call56 rfl (by decide) (by intro h;cases h) ?_;rintro w0 X hX ⟨(s:List UInt8),_⟩ hp;change AWP _ _ _ _ _ ⟨[(0,⟨.str,s⟩)],[],0⟩ _;refine AWP.slen 0 rfl fun hl=>?_;unfold maxLen at hl;refine za (za ?_);refine zaa hX zcs rfl ?_ ?_
 ·trivial
 obtain⟨B,hB⟩:∃ B,B=(s.head? ==some 35):=⟨_,rfl⟩;apply zae;refine yO (σ':=⟨[(0,⟨.str,s⟩),(11,⟨.bool,B⟩)],[],0⟩) ?_ ?_
 ·cases s with
  |nil=>
   refine za (za ?_);refine zaa hX zcs rfl ?_ ?_
   ·repeat'(first|exact trivial|(intro h;exact absurd (show false=true from h) Bool.false_ne_true)|(refine⟨?_,?_⟩))
   exact⟨⟨rfl,zbz hB.symm,trivial⟩,trivial,rfl,rfl⟩
  |cons c r=>
   have z0:(0:Int)≤0:=yN _;have z1:(0:Int) < ((((c::r:List UInt8)).length:Nat):Int):=by rw[zr];omega
   have z2:((0:Int)).toNat < ((c::r:List UInt8)).length:=by rw[zr];exact Nat.succ_pos _
   refine za (za ?_);refine zaa hX zcs rfl ?_ ?_
   ·repeat'(first|exact trivial|assumption|exact z0|exact z1|exact z2|(refine⟨?_,?_⟩)|(intro _)|exact zb rfl|exact zn _|(simp_all [allP];done))
   refine⟨⟨rfl,zbz ?_,trivial⟩,trivial,rfl,rfl⟩;rw[hB];show (bif decide (((((c::r:List UInt8)).length:Nat):Int) > 0) then (((c.toNat:Nat):Int)==((((35:UInt8)).toNat:Nat):Int)) else false)=(some c==some 35);rw[decide_eq_true z1,kz];show (((c.toNat:Nat):Int)==((((35:UInt8)).toNat:Nat):Int))=(c==35);by_cases e:c=35
   ·subst e;rfl
   ·rw[beq_eq_false_iff_ne.2 e];exact beq_eq_false_iff_ne.2 fun h=>e (ql.1 (uL h))
 have hN:zew s=(B||s.all isWh):=by rw[hB];rfl
 refine zaf rfl (fun hb=>?_) (fun hb=>?_)
 ·have hb:B=true:=hb;(repeat(first|apply zae|apply zab|apply zal|apply zad|apply zac|refine zaa hX zcs rfl trivial ?_|refine zaa hX zcs rfl id ?_|refine zaa hX zcs rfl ⟨id,id⟩ ?_));refine zm ⟨.inr rfl,zas rfl trivial rfl rfl ?_⟩;show true=zew s;rw[hN,hb];rfl
 have hb:B=false:=hb;rw[hb,Bool.false_or]at hN;apply zab;refine za (za ?_);refine zaa hX zcs rfl ?_ ?_
 ·trivial
 (repeat(first|apply zae|apply zab|apply zac|apply zad));refine yD (ι:=Nat) (fun i=>⟨[(0,⟨.str,s⟩),(3,⟨i64,(i:Int)⟩)],[],0⟩) (fun i=>i≤s.length∧∀ j (hj:j < s.length),j < i->isWh s[j]=true) (fun i=>s.length - i) 0 ⟨zk _,fun j hj h=>absurd h (yg _)⟩ ⟨⟨rfl,rfl,trivial⟩,trivial,rfl,rfl⟩ ?_;rintro i ⟨hi,hn⟩;refine za (za ?_);refine zaa hX zcs rfl ?_ ?_
 ·trivial
 refine zaf rfl (fun hb=>?_) (fun hb=>?_)
 ·have hb:decide ((i:Int) < ((s.length:Nat):Int))=true:=hb;have hb:=of_decide_eq_true hb;have hlt:i < s.length:=by omega
  have y0:(0:Int)≤(i:Int):=by omega
  have y2:((i:Int)).toNat < s.length:=by omega
  have hget:s.getD ((i:Int)).toNat 0=s[i]:=by rw[zy,zR,zT hlt];rfl
  refine za (za ?_);refine zaa hX zcs rfl ?_ ?_
  ·repeat'(first|exact trivial|assumption|exact y0|exact hb|exact y2|(refine⟨?_,?_⟩)|(intro _)|exact zb rfl|exact zn _|(simp_all [allP];done))
  refine zaf rfl (fun hc=>?_) (fun hc=>?_)
  ·have hc:(!isWh (s.getD ((i:Int)).toNat 0))=true:=hc;rw[hget,zs]at hc;(repeat(first|apply zae|apply zab|apply zal|apply zad|apply zac|refine zaa hX zcs rfl trivial ?_|refine zaa hX zcs rfl id ?_|refine zaa hX zcs rfl ⟨id,id⟩ ?_));refine zm ⟨.inr rfl,zas rfl trivial rfl rfl ?_⟩;show false=zew s;rw[hN];refine (qg.2 fun ha=>?_).symm;rw[zW.1 ha _ (List.getElem_mem hlt)]at hc;cases hc
  ·have hc:(!isWh (s.getD ((i:Int)).toNat 0))=false:=hc;rw[hget,yC]at hc;apply zab;refine za (za ?_);refine zaa hX zcs rfl ?_ ?_
   ·exact zaZ (by omega)
   exact⟨i+1,⟨hlt,fun j hj hji=>by
    by_cases e:j=i
    ·subst e;exact hc
    ·exact hn j hj (by omega)⟩,by omega,⟨rfl,zdM _,trivial⟩,trivial,rfl,rfl⟩
 ·have hb:decide ((i:Int) < ((s.length:Nat):Int))=false:=hb;have hb:=of_decide_eq_false hb;obtain rfl:i=s.length:=by omega
  apply zad;(repeat(first|apply zae|apply zab|apply zal|apply zad|apply zac|refine zaa hX zcs rfl trivial ?_|refine zaa hX zcs rfl id ?_|refine zaa hX zcs rfl ⟨id,id⟩ ?_));refine zm ⟨.inr rfl,zas rfl trivial rfl rfl ?_⟩;show true=zew s;rw[hN];refine (zW.2 fun x hx=>?_).symm;obtain⟨j,hj,rfl⟩:=List.mem_iff_getElem.1 hx;exact hn j hj hj
def rDef (s:List UInt8) (k:Int):(List UInt8×List Nd×Unit)×Int×Int:=
 if 4000 < s.length then (zDe,0,2) else
 let p:=zaJ s
 let p1:=if zt p.t=1 then p else zat p 3
 let p2:=if 32 < (yc p.t).length∨4096≤k then zat p1 2 else p1
 let r:=zcx (zb5 (zbB p2) wEq)
 if r.2.e=0 then ((yc p.t,r.1,()),0,0) else (zDe,r.2.at,r.2.e)
abbrev tyDef7:Ty:=.tup de (.tup i64 (.tup i64 .unit))
def cDef7:Ctr:={ args:=[.str,i64],pre:=fun _=>[],res:=tyDef7,own:=none,out:=fun x=>((rDef x.1 x.2.1).1,(rDef x.1 x.2.1).2.1,(rDef x.1 x.2.1).2.2,()) }
def kDf7:Kn:={ gmK with R:=[(84,ziv),(90,zlA),(91,zlB),(48,zuR)] }
theorem zcr:KnOk Tryz.prog gmG kDf7:=zaC.withR (.cons zfb (fun _ _=>trivial) <| .cons zhn (fun _ _=>trivial) <| .cons zho (fun _ _=>trivial) <| .cons zko (fun _ _=>trivial) .nil)
abbrev dF7:yp:=[(4,⟨.optr de,⟨0,de,.here⟩⟩),(7,⟨.optr rps,⟨1,rps,.here⟩⟩),(8,⟨.optr de,⟨2,de,.here⟩⟩)]
abbrev dE7 (T:List UInt8) (p:RSt):Owns:=[(0,some (.box de zDe)),(1,some (.box rps p)),(2,some (.box de (T,[],())))]
set_option maxHeartbeats 1000000 in
theorem zuJ:yB Tryz.prog gmG 57 cDef7:=by
 refine zap (K:=kDf7) zcr Tryz.func57 rfl rfl Tryz.call57 rfl (by decide) (by intro h;cases h) ?_;rintro w0 O hX ⟨(s:List UInt8),(k:Int),⟨⟩⟩ hp;change AWP _ _ _ _ _ ⟨[(0,⟨.str,s⟩),(1,⟨i64,k⟩)],[],0⟩ _;refine za (za ?_);refine zaa hX zcr rfl ?_ ?_
 ·trivial
 refine za (za ?_);refine zaa hX zcr rfl ?_ ?_
 ·trivial
 refine zaf rfl (fun hb=>?_) (fun hb=>?_)
 ·have hb:decide (((s.length:Nat):Int) > 4000)=true:=hb;have hb:=of_decide_eq_true hb;have hP:rDef s k=(zDe,0,2):=if_pos (by omega);refine za (za ?_);refine zaa hX zcr rfl ?_ ?_
  ·trivial
  refine zm ⟨.inr rfl,za9 (by decide) rfl rfl trivial ?_⟩;show _=((rDef s k).1,(rDef s k).2.1,(rDef s k).2.2,());rw[hP];rfl
 have hb:decide (((s.length:Nat):Int) > 4000)=false:=hb;have hb:=of_decide_eq_false hb;have hs:s.length≤2000000:=by omega
 apply zab;(repeat(first|apply zae|apply zab|apply zac|apply zad));refine zah ?_;refine yy 1 hX zcr rfl trivial ?_;refine AL.fresh hX zky rfl rfl rfl rfl rfl rfl trivial hs ⟨rfl,rfl⟩ rfl rfl ?_;refine zY hX zcr rfl trivial ?_;refine zam (σ':=⟨[(1,⟨i64,k⟩),(4,⟨.optr de,⟨0,de,.here⟩⟩),(7,⟨.optr rps,⟨1,rps,.here⟩⟩)],[(0,some (.box de zDe)),(1,some (.box rps (zaJ s)))],2⟩) ⟨⟨rfl,rfl,rfl,trivial⟩,⟨rfl,rfl,trivial⟩,rfl,rfl⟩ ?_;have h1:=zoW hs;have hl:zf (zaJ s).1≤4900:=by show s.length≤4900;omega
 have hn:(zaJ s).nodes=0:=rfl;have hP:rDef s k=if (zcx (zb5 (zbB (if 32 < (yc (zaJ s).t).length∨4096≤k then zat (if zt (zaJ s).t=1 then (zaJ s) else zat (zaJ s) 3) 2 else (if zt (zaJ s).t=1 then (zaJ s) else zat (zaJ s) 3))) wEq)).2.e=0 then ((yc (zaJ s).t,(zcx (zb5 (zbB (if 32 < (yc (zaJ s).t).length∨4096≤k then zat (if zt (zaJ s).t=1 then (zaJ s) else zat (zaJ s) 3) 2 else (if zt (zaJ s).t=1 then (zaJ s) else zat (zaJ s) 3))) wEq)).1,()),0,0) else (zDe,(zcx (zb5 (zbB (if 32 < (yc (zaJ s).t).length∨4096≤k then zat (if zt (zaJ s).t=1 then (zaJ s) else zat (zaJ s) 3) 2 else (if zt (zaJ s).t=1 then (zaJ s) else zat (zaJ s) 3))) wEq)).2.at,(zcx (zb5 (zbB (if 32 < (yc (zaJ s).t).length∨4096≤k then zat (if zt (zaJ s).t=1 then (zaJ s) else zat (zaJ s) 3) 2 else (if zt (zaJ s).t=1 then (zaJ s) else zat (zaJ s) 3))) wEq)).2.e):=if_neg (by omega)
 generalize zaJ s=p at *;refine za (za ?_);refine zaa hX zcr rfl ?_ ?_
 ·trivial
 refine zam (σ':=⟨(1,⟨i64,k⟩)::dF7,dE7 (yc p.t) p,3⟩) ⟨⟨rfl,rfl,rfl,rfl,trivial⟩,⟨rfl,rfl,rfl,trivial⟩,rfl,rfl⟩ ?_;generalize yc p.t=T at *;refine za (za ?_);refine zaa hX zcr rfl ?_ ?_
 ·trivial
 refine xM (σ':=⟨(1,⟨i64,k⟩)::dF7,dE7 T (if zt p.t=1 then p else zat p 3),3⟩) ?_ ?_
 ·refine zaf rfl (fun hb=>?_) (fun hb=>?_)
  ·have hb:(zt p.t != 1)=true:=hb;refine za (za ?_);refine zaa hX zcr rfl ?_ ?_
   ·trivial
   exact⟨⟨rfl,rfl,rfl,rfl,trivial⟩,⟨rfl,boxP (by rw[if_neg (bne_iff_ne.1 hb)];rfl),rfl,trivial⟩,rfl,rfl⟩
  ·have hb:(zt p.t != 1)=false:=hb;exact zab ⟨⟨rfl,rfl,rfl,rfl,trivial⟩,⟨rfl,boxP (by rw[if_pos (bne_eq_false_iff_eq.1 hb)]),rfl,trivial⟩,rfl,rfl⟩
 have g1:Go7 p (if zt p.t=1 then p else zat p 3)∧(if zt p.t=1 then p else zat p 3).nodes=p.nodes:=by
  split
  ·exact⟨Go7.refl h1,rfl⟩
  ·exact⟨(zaI h1).1,(zaI h1).2.1⟩
 generalize (if zt p.t=1 then p else zat p 3)=p1 at *;refine za (za ?_);refine zaa hX zcr rfl ?_ ?_
 ·repeat'(first|exact trivial|assumption|(refine⟨?_,?_⟩)|(intro _)|exact zb rfl|exact zn _|(simp_all [allP];done))
 have hc:(bif decide (((T.length:Nat):Int) > 32) then true else decide (k≥4096))=decide (32 < T.length∨4096≤k):=by
  rw[b_or,yb,zJ,decide_eq_true_iff,decide_eq_true_iff,decide_eq_true_iff];omega
 refine xM (σ':=⟨dF7,dE7 T (if 32 < T.length∨4096≤k then zat p1 2 else p1),3⟩) ?_ ?_
 ·refine zaf rfl (fun hb=>?_) (fun hb=>?_)
  ·have hb:=of_decide_eq_true (hc.symm.trans hb);refine za (za ?_);refine zaa hX zcr rfl ?_ ?_
   ·trivial
   exact⟨⟨rfl,rfl,rfl,trivial⟩,⟨rfl,boxP (by rw[if_pos hb];rfl),rfl,trivial⟩,rfl,rfl⟩
  ·have hb:=of_decide_eq_false (hc.symm.trans hb);exact zab ⟨⟨rfl,rfl,rfl,trivial⟩,⟨rfl,boxP (by rw[if_neg hb]),rfl,trivial⟩,rfl,rfl⟩
 have g2:Go7 p1 (if 32 < T.length∨4096≤k then zat p1 2 else p1)∧(if 32 < T.length∨4096≤k then zat p1 2 else p1).nodes=p1.nodes:=by
  split
  ·exact⟨(zaI g1.1.ok).1,(zaI g1.1.ok).2.1⟩
  ·exact⟨Go7.refl g1.1.ok,rfl⟩
 generalize (if 32 < T.length∨4096≤k then zat p1 2 else p1)=p2 at *;have q2:=g2.1.ok;refine za (za ?_);refine zaa hX zcr rfl ?_ ?_
 ·exact q2
 obtain⟨n1,n2,_⟩:=zcU q2;have q3:=n1.ok;refine zam (σ':=⟨dF7,dE7 T (zbB p2),3⟩) ⟨⟨rfl,rfl,rfl,trivial⟩,⟨rfl,rfl,rfl,trivial⟩,rfl,rfl⟩ ?_;refine za (za ?_);refine zaa hX zcr rfl ?_ ?_
 ·exact q3
 obtain⟨m1,m2⟩:=zen q3 (w:=wEq);have q4:=m1.ok;refine zam (σ':=⟨dF7,dE7 T (zb5 (zbB p2) wEq),3⟩) ⟨⟨rfl,rfl,rfl,trivial⟩,⟨rfl,rfl,rfl,trivial⟩,rfl,rfl⟩ ?_;have hl4:zf (zb5 (zbB p2) wEq).1≤4900:=by rw[m1.s,n1.s,g2.1.s,g1.1.s];exact hl
 have hn4:(zb5 (zbB p2) wEq).nodes=0:=by rw[m2,n2,g2.2,g1.2,hn]
 have hN4:N7 (zb5 (zbB p2) wEq):=by
  unfold N7;rw[hn4];exact⟨by decide,by decide,fun _=>by decide⟩
 generalize zb5 (zbB p2) wEq=p4 at *;have hf4:=fuel7 q4 hl4;refine za (za ?_);refine zaa hX zcr rfl ?_ ?_
 ·exact⟨q4,hN4,hf4,hl4⟩
 refine zam (σ':=⟨dF7,[(0,some (.box de zDe)),(1,some (.box rps (zcx p4).2)),(2,some (.box de (T,(zcx p4).1,())))],3⟩) ⟨⟨rfl,rfl,rfl,trivial⟩,⟨rfl,rfl,rfl,trivial⟩,rfl,rfl⟩ ?_;generalize zcx p4=R at *;obtain⟨r,q⟩:=R;refine za (za ?_);refine zaa hX zcr rfl ?_ ?_
 ·trivial
 refine zaf rfl (fun hb=>?_) (fun hb=>?_)
 ·have hb:(q.e != 0)=true:=hb;rw[if_neg (bne_iff_ne.1 hb)]at hP;refine zam (σ':=⟨dF7,[(0,some (.box de zDe)),(1,some (.box rps q)),(2,some (.box de (T,r,())))],3⟩) ⟨⟨rfl,rfl,rfl,trivial⟩,⟨rfl,rfl,rfl,trivial⟩,rfl,rfl⟩ ?_;apply zae;refine AWP.ordJ [(4,⟨.optr de,⟨0,de,.here⟩⟩),(7,⟨.optr rps,⟨1,rps,.here⟩⟩)] [(0,51,⟨de,zDe⟩),(1,52,⟨.optr rps,⟨1,rps,.here⟩⟩),(2,53,⟨.optr rps,⟨1,rps,.here⟩⟩),(3,54,⟨.optr i64,⟨1,rps,.fst (.snd (.snd (.snd (.snd .here))))⟩⟩),(4,55,⟨i64,q.at⟩),(5,56,⟨.optr rps,⟨1,rps,.here⟩⟩),(6,57,⟨.optr rps,⟨1,rps,.here⟩⟩),(7,58,⟨.optr i64,⟨1,rps,.fst (.snd (.snd (.snd .here)))⟩⟩),(8,59,⟨i64,q.e⟩),(10,5,⟨i64,q.at⟩),(11,6,⟨i64,q.e⟩)] dM hX zcr 12 rfl (by kernel_rfl) rfl ⟨rfl,rfl,trivial⟩ ?_ rfl ⟨rfl,rfl,rfl,trivial⟩ rfl rfl ?_
  ·repeat'(first|exact trivial|exact⟨_,rfl,fun F=>⟨_,rfl,trivial,rfl,fun _=>rfl,rfl⟩⟩|exact⟨_,rfl,fun F=>⟨_,rfl,trivial,rfl,fun i=>match i with |0=>rfl|1=>rfl|2=>rfl|_+3=>rfl,rfl⟩⟩|refine AllI.s ?_ ?_)
  refine zm ⟨.inr rfl,za9 (by decide) rfl rfl trivial ?_⟩;show _=((rDef s k).1,(rDef s k).2.1,(rDef s k).2.2,());rw[hP]
 have hb:(q.e != 0)=false:=hb;rw[if_pos (bne_eq_false_iff_eq.1 hb)]at hP;apply zab;refine za (za ?_);refine zaa hX zcr rfl ?_ ?_
 ·trivial
 refine zm ⟨.inr rfl,za9 (by decide) rfl rfl trivial ?_⟩;show _=((rDef s k).1,(rDef s k).2.1,(rDef s k).2.2,());rw[hP]
noncomputable def zgF (y:List UInt8):Bool:=(!zjV y [35])&&decide (zaD isWh y < y.length)
noncomputable def zhC (y:List UInt8) (fr:Nat) (acc:List De):Except (Int×Int) (List De):=
 if zgF y=true then
  if 4000 < y.length then .error ((fr:Int),2)
  else match zfi y ((acc.length:Nat):Int) with
   | .ok d=>.ok (acc++ [d])
   | .error e=>if e.2=0 then .ok acc else .error ((fr:Int)+e.1,e.2)
 else .ok acc
noncomputable def libK:List (List UInt8)->Nat->List De->List De×Int×Int
 | [],_,acc=>(acc,0,0)
 |y::r,fr,acc=>match zhC y fr acc with
  | .error e=>([],e.1,e.2)
  | .ok acc'=>libK r (fr+y.length+1) acc'
noncomputable def zaL (s:List UInt8):List De×Int×Int:=if 1048576 < s.length then ([],0,2) else libK (segs s) 0 []
def lPF:List (Nat×V):=[(2,⟨.hptr,((0:Nat),(0:Nat))⟩),(3,⟨.optr i64,⟨1,i64,.here⟩⟩),(4,⟨.optr i64,⟨2,i64,.here⟩⟩),(5,⟨.hptr,((3:Nat),(0:Nat))⟩),(6,⟨.optr i64,⟨4,i64,.here⟩⟩),(7,⟨.optr .str,⟨5,.str,.here⟩⟩)]
def lRE (at' e:Int):Owns:=[(0,some (.hbox tD [⟨.lit,.slice none 0 0⟩])),(1,some (.box i64 at')),(2,some (.box i64 e))]
def zl9 (y:List UInt8) (fr:Nat) (e:Exit) (σ:AS):Except (Int×Int) (List De)->Prop
 | .ok acc'=>e= .normal∧Fit σ ⟨[],libE y ((fr+y.length+1:Nat):Int) acc',7⟩
 | .error er=>e= .ret∧Fit σ ⟨[],lRE er.1 er.2,7⟩
noncomputable def kLc:Kn:={ gmK with H:=[tD],C:=[(51,cPre),(52,zmv 53 isWh)] }
theorem zcz:KnOk Tryz.prog gmH kLc:=⟨zih,zig,.cons zqm <| .cons zkz.lift .nil,zjh,RsOk.nil⟩
def zqs:Code->Option (Code×Code)
 | .rangeFunc _ _ a b=>some (a,b)
 | .seq x y=>match zqs x with
  |some r=>some r
  |none=>zqs y
 | .block _ c=>zqs c
 |_=>none
noncomputable def lBody:Code:=match zqs (Tryz.f19.body.getD .skip) with
 |some r=>r.2
 |none=>.skip
noncomputable def lAsgn:Code:=match zqs (Tryz.f19.body.getD .skip) with
 |some r=>r.1
 |none=>.skip
theorem zrY {w1:zi} {X:Ownr} {y:List UInt8} {fr:Nat} {acc:List De} (hy:y.length≤1100000) (hfr:fr≤1100000) (ha:acc.length≤1000000) (hX:X.Ok w1) (hG:X.G=gmH) (hK:X.K=5) (hinv:∀ ty,ginv w1 X.R ty) (her:∀ er,zfi y ((acc.length:Nat):Int)= .error er->0≤er.1∧er.1≤1100000):
  AWP Tryz.prog w1 X 47 lBody ⟨lPF,libE y (fr:Int) acc,7⟩ (fun e σ=>zl9 y fr e σ (zhC y fr acc)):=by
 obtain⟨G,O,K,fix,D,ρ,B⟩:=X;obtain rfl:G=gmH:=hG;obtain rfl:K=5:=hK;unfold lPF libE;apply zac;have hp1:y.length≤2000000∧([35]:List UInt8).length≤2000000:=⟨by omega,by decide⟩;apply zae;refine yO (σ':=⟨[(2,⟨.hptr,((0:Nat),(0:Nat))⟩),(3,⟨.optr i64,⟨1,i64,.here⟩⟩),(4,⟨.optr i64,⟨2,i64,.here⟩⟩),(5,⟨.hptr,((3:Nat),(0:Nat))⟩),(6,⟨.optr i64,⟨4,i64,.here⟩⟩),(7,⟨.optr .str,⟨5,.str,.here⟩⟩),(25,⟨.bool,zgF y⟩)],libE y (fr:Int) acc,7⟩) ?_ ?_
 ·unfold libE;refine ju dM 10 rfl (by kernel_rfl) ?_;cases hq:zjV y [35] with
  |true=>
   have hl0:zgF y=false:=by unfold zgF;rw[hq];rfl
   have hb:(!zjV y [35])=false:=by rw[hq];rfl
   have hl2:(bif !zjV y [35] then false else false)=zgF y:=by rw[hl0,hb];rfl
   repeat'(first
    |exact jE
    |refine jj ⟨_,rfl,?_⟩ ?_
    |refine yZ hX zcz rfl trivial ?_
    |refine yZ hX zcz rfl hp1 ?_
    |(refine StepA.guardF 3 19 true .bool false rfl rfl (zbz hb) rfl rfl rfl ?_)
    |refine yZ hX zcz rfl (by exact fun h=>hb.symm.trans h) ?_
    |(refine jk ?_;exact⟨⟨rfl,rfl,rfl,rfl,rfl,rfl,zbz hl2,trivial⟩,⟨rfl,rfl,rfl,rfl,rfl,rfl,rfl,trivial⟩,rfl,rfl⟩))
  |false=>
   have hb:(!zjV y [35])=true:=by rw[hq];rfl
   have hl1:(bif !zjV y [35] then decide (((zaD isWh y:Nat):Int) < ((y.length:Nat):Int)) else false)=zgF y:=by
    unfold zgF;rw[zct]
    congr 1
    exact decide_eq_decide.2 Int.ofNat_lt
   repeat'(first
    |exact jE
    |refine jj ⟨_,rfl,?_⟩ ?_
    |refine StepA.guardT 3 19 true rfl rfl (zbz hb) rfl ?_
    |refine yZ hX zcz rfl trivial ?_
    |refine yZ hX zcz rfl hp1 ?_
    |refine yZ hX zcz rfl (by exact rfl) ?_
    |refine yZ hX zcz rfl (by exact fun h=>h) ?_
    |(refine jk ?_;exact⟨⟨rfl,rfl,rfl,rfl,rfl,rfl,zbz hl1,trivial⟩,⟨rfl,rfl,rfl,rfl,rfl,rfl,rfl,trivial⟩,rfl,rfl⟩))
 have hlen:((y.length:Nat):Int)≤1100000:=by omega
 have hfrl:((fr:Nat):Int)≤1100000:=by omega
 have q0:inR .i64 (((y.length:Nat):Int)+1):=zaq (by omega) (by omega);have q1:inR .i64 ((fr:Int)+(((y.length:Nat):Int)+1)):=zaq (by omega) (by omega);have hend:(fr:Int)+(((y.length:Nat):Int)+1)=((fr+y.length+1:Nat):Int):=by omega
 unfold libE;refine zaf rfl (fun hb=>?_) (fun hb=>?_)
 ·have hb:zgF y=true:=hb;unfold zhC;rw[if_pos hb];refine za (za ?_);refine zaa hX zcz rfl ?_ ?_
  ·trivial
  refine zaf rfl (fun hb=>?_) (fun hb=>?_)
  ·have hb:decide (((4000:Nat):Int) < ((y.length:Nat):Int))=true:=hb;have hb:=of_decide_eq_true hb;rw[if_pos (by omega)];refine yO (σ':=⟨[],lRE (fr:Int) 2,7⟩) ?_ ?_
   ·unfold lRE;refine ju dM 4 rfl (by kernel_rfl) ?_
    repeat'(first
     |exact jE
     |refine jj ⟨_,rfl,?_⟩ ?_
     |refine yZ hX zcz rfl trivial ?_
     |(refine jk ?_;exact⟨trivial,⟨rfl,rfl,rfl,trivial⟩,rfl,rfl⟩))
   ·exact zm ⟨rfl,trivial,⟨rfl,rfl,rfl,trivial⟩,rfl,rfl⟩
  have hb:decide (((4000:Nat):Int) < ((y.length:Nat):Int))=false:=hb;have hb:=of_decide_eq_false hb;rw[if_neg (by omega)];apply zab;refine zam (σ':=⟨lPF,libE y (fr:Int) acc,7⟩) ⟨⟨rfl,rfl,rfl,rfl,rfl,rfl,trivial⟩,⟨rfl,rfl,rfl,rfl,rfl,rfl,rfl,trivial⟩,rfl,rfl⟩ ?_;unfold lPF;(repeat(first|apply zae|apply zab|apply zac|apply zad));refine zah ?_;refine AL.runClo hX 6 rfl rfl rfl rfl rfl rfl rfl rfl rfl rfl (by show 5≤6;omega) Tryz.func54 rfl rfl rfl rfl Tryz.call54 rfl rfl rfl (N:=NLib y (fr:Int) acc) (fun w2 X' h1 h2 h3 h4 h5 h6=>?_) (fun r σ hN=>?_)
  ·refine zrZ (by omega) ha h1 h2 h3 h4 h5 fun ty=>zaN (ty:=ty) hX rfl (hinv ty) _ _ h6 (by
    have:=h1.2.2 w2 (Kept.refl _ _);rwa[h2]at this)
  rcases hN with ⟨d,hd,rfl,hf⟩|⟨er,hd,rfl,hf⟩
  ·refine qC (σ':=⟨(32,⟨tupI,((0:Int),(0:Int),())⟩)::lPF,libE y (fr:Int) (acc++ [d]),7⟩) ⟨⟨rfl,rfl,rfl,rfl,rfl,rfl,rfl,trivial⟩,hf.e,rfl,rfl⟩ ?_;unfold lPF libE;refine zY hX zcz rfl trivial ?_;refine za (za ?_);refine zaa hX zcz rfl ?_ ?_
   ·trivial
   refine zaf rfl (fun hb=>absurd (show false=true from hb) (by decide)) (fun _=>?_);apply zab;rw[hd];refine za (za ?_);refine zaa hX zcz rfl ?_ ?_
   ·exact⟨q0,q1⟩
   exact⟨rfl,trivial,⟨rfl,rfl,rfl,rfl,zgo hend,rfl,rfl,trivial⟩,rfl,rfl⟩
  ·refine qC (σ':=⟨(32,⟨tupI,(er.1,er.2,())⟩)::lPF,libE y (fr:Int) acc,7⟩) ⟨⟨rfl,rfl,rfl,rfl,rfl,rfl,rfl,trivial⟩,hf.e,rfl,rfl⟩ ?_;obtain⟨her0,her1⟩:=her er hd;have q2:inR .i64 ((fr:Int)+er.1):=zaq (by omega) (by omega);unfold lPF libE;refine zY hX zcz rfl trivial ?_;refine za (za ?_);refine zaa hX zcz rfl ?_ ?_
   ·trivial
   rw[hd];refine zaf rfl (fun hb=>?_) (fun hb=>?_)
   ·have hb:(er.2 != 0)=true:=hb;have hb:er.2≠0:=bne_iff_ne.1 hb;show AWP _ _ _ _ _ _ (zkv _ _);refine yO (σ':=⟨[],lRE ((fr:Int)+er.1) er.2,7⟩) ?_ ?_
    ·unfold lRE;refine ju dM 7 rfl (by kernel_rfl) ?_
     repeat'(first
      |exact jE
      |refine jj ⟨_,rfl,?_⟩ ?_
      |refine yZ hX zcz rfl trivial ?_
      |refine yZ hX zcz rfl q2 ?_
      |(refine jk ?_;exact⟨trivial,⟨rfl,rfl,rfl,trivial⟩,rfl,rfl⟩))
    ·refine zm ?_;show zl9 y fr .ret _ (if er.2=0 then .ok acc else .error ((fr:Int)+er.1,er.2));rw[if_neg hb];exact⟨rfl,trivial,⟨rfl,rfl,rfl,trivial⟩,rfl,rfl⟩
   ·have hb:(er.2 != 0)=false:=hb;have hb:er.2=0:=by
     by_cases h:er.2=0
     ·exact h
     ·rw[bne_iff_ne.2 h]at hb;cases hb
    apply zab;refine za (za ?_);refine zaa hX zcz rfl ?_ ?_
    ·exact⟨q0,q1⟩
    show zl9 y fr .normal _ (if er.2=0 then .ok acc else .error ((fr:Int)+er.1,er.2));rw[if_pos hb];exact⟨rfl,trivial,⟨rfl,rfl,rfl,rfl,zgo hend,rfl,rfl,trivial⟩,rfl,rfl⟩
 ·have hb:zgF y=false:=hb;unfold zhC;rw[if_neg (by rw[hb];decide)];apply zab;refine za (za ?_);refine zaa hX zcz rfl ?_ ?_
  ·exact⟨q0,q1⟩
  exact⟨rfl,trivial,⟨rfl,rfl,rfl,rfl,zgo hend,rfl,rfl,trivial⟩,rfl,rfl⟩
set_option maxRecDepth 10000
section
variable {s:List UInt8}
theorem ztm (hl:s.length≤4900) {k:Nat} {p:RSt} {st:GSt} (h:Rl s p st) (hg:GOk s st) (hs:Scn s st) (hk:8 * rem s st+6 < k):RuR s (zeC s st) (zfx k p):=by
 unfold RuR zeC zfx;refine OkR.bind ((prs_R hl k).2.2 0 p st (zk _) h hg hs (by omega)) (fun hq=>.of (by show (if zt (rPrs k (.bin 1) p).2.t=0 then (rPrs k (.bin 1) p).2 else zat (rPrs k (.bin 1) p).2 3)=_;rw[zmn hq])) fun y he1 h1=>?_;obtain⟨t,st1⟩:=y;obtain⟨e1,h1⟩:=h1;have h1:Rl s _ st1:=h1;refine OkR.bind (ckP (P:=zt (rPrs k (.bin 1) p).2.t=0) h1 (by decide) (by rw[beq_iff_eq,h1.t.k])) (fun hq=>.of rfl) fun _ _ h2=>?_;exact⟨e1,h2.2⟩
theorem zmI (hl:s.length≤4900) {p:RSt} {st:GSt} (h:Rl s p st) (hg:GOk s st) (hs:Scn s st):RuR s (zeC s st) (zcx p):=by
 have:=hg.1.1.1;exact ztm (k:=zjH) hl h hg hs (by show 8 * rem s st+6 < 40000;unfold rem;omega)
theorem zoV (s:List UInt8):Rl s (zaJ s) (za2 s,0):=by
 have h1:(0:Int)≤((s.length:Nat):Int):=by omega
 obtain⟨k1,k2,_⟩:=zhg (s:=s) (o:=0) (yN 0) h1;refine⟨rfl,?_,k1,k2,rfl,rfl⟩;have:=zpu (s:=s) (o:=0) (yN 0) h1;rwa[zhF]at this
theorem zmj (s:List UInt8):GOk s (za2 s,0)∧Scn s (za2 s,0):=by
 have:=zge (s:=s);unfold zik at this;rw[zhF]at this;exact⟨this,0,(zhF s).symm⟩
theorem zpv (s:List UInt8):zdq s=zbc s:=by
 unfold zdq zbc;by_cases hl:4000 < s.length
 ·rw[if_pos hl,if_pos hl]
 rw[if_neg hl,if_neg hl];have h:=zmI (by omega) (zoV s) (zmj s).1 (zmj s).2;rw[zfH];simp only[];generalize zcx (zaJ s)=R at *;cases hr:zeC s (za2 s,0) with
 |ok y=>
  rw[hr]at h;obtain⟨h1,h2⟩:=h;rw[if_pos h2.e,h1];rfl
 |error e=>
  rw[hr]at h;obtain⟨⟨h1,h2⟩,h3,_⟩:Er7 s R.2 e:=h;rw[if_neg (by rw[h1];exact h3),h1,h2];rfl
theorem zsT (hl:s.length≤4000) (k:Int):match zfi s k with
  | .ok d=>rDef s k=(d,0,0)
  | .error e=>rDef s k=(zDe,e.1,e.2)∧e.2≠0∧0≤e.1∧e.1≤((s.length:Nat):Int):=by
 have h:=zoV s;obtain⟨hg,hs⟩:=zmj s;obtain⟨q,hq⟩:∃ q,zcx (zb5 (zbB (if 32 < (yc (zaJ s).t).length∨4096≤k then zat (if zt (zaJ s).t=1 then zaJ s else zat (zaJ s) 3) 2 else (if zt (zaJ s).t=1 then zaJ s else zat (zaJ s) 3))) wEq)=q:=⟨_,rfl⟩;have hD:rDef s k=if q.2.e=0 then ((yc (zaJ s).t,q.1,()),0,0) else (zDe,q.2.at,q.2.e):=by
  rw[<-hq];exact if_neg (by omega)
 have hx:yc (zaJ s).t=zD (za2 s):=h.t.x;have key:OkR s (gDef s (za2 s,0) k) (fun y=>yc (zaJ s).t=y.1∧q.1=y.2.flat 0∧q.2.e=0) q.2:=by
  unfold gDef;rw[hx]at hq ⊢;have dW:∀ {p:RSt},p.e≠0->(zcx p).2=p:=fun {p} hp=>by
   show (zfx zjH p).2=p;unfold zfx;show (if zt (rPrs zjH (.bin 1) p).2.t=0 then (rPrs zjH (.bin 1) p).2 else zat (rPrs zjH (.bin 1) p).2 3)=p;rw[zn4 hp,zmn hp]
  refine OkR.bind (ckP (P:=zt (zaJ s).t=1) h (by decide) (by rw[beq_iff_eq,h.t.k])) (fun hp=>.of (by rw[<-hq,zeT hp,zf4 hp,zfn hp,dW hp])) fun _ _ h1=>?_;refine OkR.bind (ckN (P:=32 < (zD (za2 s)).length∨4096≤k) h1.2 (by decide) (by rw[zd,decide_eq_true_iff,decide_eq_true_iff];show (zD (za2 s)).length≤32∧_↔_;omega)) (fun hp=>.of (by rw[<-hq,zf4 hp,zfn hp,dW hp])) fun _ _ h2=>?_;have hc:zF (za2 s)=1:=by rw[<-h1.1];exact h.t.k.symm
  have ka:=zb2 hg (by show zF (za2 s)≠0;rw[hc];decide);refine OkR.bind (zgi (zhZ h2.2) wEq) (fun hp=>.of (by rw[<-hq,dW hp])) fun st2 he3 h3=>?_;have kb:=zbm ka.1 he3;have hW:=zmI (by omega) h3 kb.1 (ze5 he3);unfold RuR at hW;rw[hq]at hW;refine OkR.bind hW (fun hp=>.of rfl) fun y _ h4=>?_;exact⟨rfl,h4.1,h4.2.e⟩
 unfold zfi;cases hr:gDef s (za2 s,0) k with
 |ok y=>
  rw[hr]at key;obtain⟨k1,k2,k3⟩:=key;show rDef s k=((y.1,y.2.flat 0,()),0,0);rw[hD,if_pos k3,k1,k2]
 |error e=>
  rw[hr]at key;obtain⟨⟨h1,h2⟩,h3,h4⟩:Er7 s q.2 e:=key;show rDef s k=(zDe,e.1,e.2)∧_;refine⟨?_,h3,h4⟩;rw[hD,if_neg (by rw[h1];exact h3),h1,h2]
end
theorem ztQ (s:List UInt8) (k:Int):0≤(rDef s k).2.1∧(rDef s k).2.1≤4000:=by
 by_cases hl:4000 < s.length
 ·rw[show rDef s k=(zDe,0,2) from if_pos hl];exact⟨yN 0,(by decide:(0:Int)≤4000)⟩
 have h:=zsT (s:=s) (by omega) k;cases hr:zfi s k with
 |ok d=>rw[hr]at h;have h:rDef s k=(d,0,0):=h;rw[h];exact⟨yN 0,(by decide:(0:Int)≤4000)⟩
 |error e=>
  rw[hr]at h;obtain⟨h1,_,h3,h4⟩:=h;rw[h1];exact⟨h3,by show e.1≤4000;omega⟩
def zhb:List (List UInt8)->Nat->List (List UInt8×List Nd×Unit)->List (List UInt8×List Nd×Unit)×Int×Int
 | [],_,acc=>(acc,0,0)
 |y::r,fr,acc=>if zew y=true then zhb r (fr+y.length+1) acc
  else if (rDef y ((acc.length:Nat):Int)).2.2=0 then zhb r (fr+y.length+1) (acc++ [(rDef y ((acc.length:Nat):Int)).1])
  else ([],(fr:Int)+(rDef y ((acc.length:Nat):Int)).2.1,(rDef y ((acc.length:Nat):Int)).2.2)
def zbo (s:List UInt8):List (List UInt8×List Nd×Unit)×Int×Int:=if 1048576 < s.length then ([],0,2) else zhb (segs s) 0 []
theorem zoL {p:UInt8->Bool}:∀ {y:List UInt8},(∀ x∈y,p x=true)->y.takeWhile p=y
 | [],_=>rfl
 |c::y,h=>by
  rw[yE,h c (zS ..)];exact congrArg (c:: ·) (zoL fun x hx=>h x (yk _ hx))
theorem zoA (y:List UInt8):zgF y= !zew y:=by
 unfold zgF zew;rw[Bool.not_or]
 congr 1
 ·unfold zjV;cases y with
  |nil=>rfl
  |cons c r=>
   rw[show decide (([35]:List UInt8).length≤(c::r).length)=true from decide_eq_true (by rw[zr,zr];exact Nat.succ_le_succ (zk _)),Bool.true_and,zcw];show (!decide ([c]=[35]))= !(some c==some 35);rw[kz];by_cases h:c=35
   ·subst h;rfl
   ·rw[decide_eq_false (fun e=>h (List.head_eq_of_cons_eq e)),beq_eq_false_iff_ne.2 h]
 ·rw[yb,decide_eq_true_iff,zs,List.all_eq_false];unfold zaD;constructor
  ·intro h;exact xg fun hn=>by
    have ha:∀ x∈y,isWh x=true:=fun x hx=>by
     cases hw:isWh x with
     |true=>rfl
     |false=>exact absurd ⟨x,hx,by rw[hw];decide⟩ hn
    rw[zoL ha]at h;exact Nat.lt_irrefl _ h
  ·rintro ⟨x,hx,hw⟩;refine Nat.lt_of_le_of_ne (ze2 isWh y) fun e=>hw ?_;have:y.takeWhile isWh=y:=(yq isWh).eq_of_length e;have ha:(y.takeWhile isWh).all isWh=true:=vC;rw[this]at ha;exact zW.1 ha x hx
theorem zjG:∀ (L:List (List UInt8)) (fr:Nat) (acc:List (List UInt8×List Nd×Unit)),zhb L fr acc=libK L fr acc
 | [],_,_=>rfl
 |y::r,fr,acc=>by
  rw[zhb,libK,zhC,zoA];by_cases hb:zew y=true
  ·rw[if_pos hb,hb];exact zjG r _ _
  have hb':zew y=false:=by simpa using hb
  rw[if_neg hb,hb',if_pos (show (!false)=true from rfl)];by_cases hl:4000 < y.length
  ·rw[if_pos hl,show rDef y ((acc.length:Nat):Int)=(zDe,0,2) from if_pos hl,if_neg (by decide)];show ([],(fr:Int)+0,(2:Int))=([],(fr:Int),2);rw[Int.add_zero]
  rw[if_neg hl];have h:=zsT (s:=y) (by omega) ((acc.length:Nat):Int);cases hr:zfi y ((acc.length:Nat):Int) with
  |ok d=>
   rw[hr]at h;have h:rDef y ((acc.length:Nat):Int)=(d,0,0):=h;rw[h,if_pos rfl];exact zjG r _ _
  |error e=>
   rw[hr]at h;obtain⟨h1,h2,_⟩:=h;rw[h1,if_neg (show ¬ (zDe,e.1,e.2).2.2=0 from h2)];simp only[];rw[if_neg h2]
theorem zkO (s:List UInt8):zbo s=zaL s:=by
 unfold zbo zaL;rw[zjG]
def noNl (c:UInt8):Bool:=c != 10
theorem u8_ne (c d:UInt8):((((c.toNat:Nat):Int)) != ((d.toNat:Nat):Int))=(c != d):=by
 by_cases e:c=d
 ·subst e;rw[show (c != c)=false by simp,show ((((c.toNat:Nat):Int)) != ((c.toNat:Nat):Int))=false by simp]
 ·rw[bne_iff_ne.2 e];exact bne_iff_ne.2 fun h=>e (ql.1 (uL h))
theorem zo4 (l:List UInt8):segs l=l.takeWhile noNl::(if zaD noNl l < l.length then segs (l.drop (zaD noNl l+1)) else []):=by
 have ht:∀ x∈l.takeWhile noNl,x≠10:=fun x hx=>by
  have ha:(l.takeWhile noNl).all noNl=true:=vC;exact bne_iff_ne.1 (zW.1 ha x hx)
 have htk:l.take (zaD noNl l)=l.takeWhile noNl:=zhy noNl l;by_cases h:zaD noNl l < l.length
 ·rw[if_pos h];have hd:l.drop (zaD noNl l)=10::l.drop (zaD noNl l+1):=by
   rw[zI h]
   congr 1
   have h2:=zed noNl l;rw[zI h]at h2;have h3:=List.head?_dropWhile_not noNl l;rw[h2]at h3;have h3:noNl l[zaD noNl l]=false:=by simpa [zT h] using h3
   exact xg fun hn=>by
    have:noNl l[zaD noNl l]=true:=bne_iff_ne.2 hn;rw[this]at h3;cases h3
  rw[<-htk];exact zkC (by rw[htk];exact ht) hd
 ·rw[if_neg h];have he:l.takeWhile noNl=l:=(yq noNl).eq_of_length (by have:=ze2 noNl l;unfold zaD at h;omega);rw[he]at ht ⊢;exact zkD ht
abbrev tyLb7:Ty:=.tup (.slice de) (.tup i64 (.tup i64 .unit))
def znB:Ctr:={ args:=[.str],pre:=fun _=>[],res:=tyLb7,own:=none,out:=fun x=>((zbo x.1).1,(zbo x.1).2.1,(zbo x.1).2.2,()) }
def kPl7:Kn:={ gmK with C:=[(56,zqP),(57,cDef7)] }
theorem zbQ:KnOk Tryz.prog gmG kPl7:=zaC.with (.cons zqT <| .cons zuJ .nil)
abbrev lF7 (s:List UInt8) (fr:Nat):yp:=[(0,⟨.str,s⟩),(5,⟨.obuf de,(0:Nat)⟩),(6,⟨i64,(fr:Int)⟩)]
abbrev lE7 (acc:List De):Owns:=[(0,some (.buf 37 de acc))]
set_option maxHeartbeats 1000000 in
theorem zrM:yB Tryz.prog gmG 20 znB:=by
 refine zap (K:=kPl7) zbQ Tryz.func20 rfl rfl Tryz.call20 rfl (by decide) (by intro h;cases h) ?_;rintro w0 O hX ⟨(s:List UInt8),⟨⟩⟩ hp;change AWP _ _ _ _ _ ⟨[(0,⟨.str,s⟩)],[],0⟩ _;refine za (za ?_);refine zaa hX zbQ rfl ?_ ?_
 ·trivial
 refine za (za ?_);refine zaa hX zbQ rfl ?_ ?_
 ·trivial
 refine zaf rfl (fun hb=>?_) (fun hb=>?_)
 ·have hb:decide (((s.length:Nat):Int) > 1048576)=true:=hb;have hb:=of_decide_eq_true hb;have hP:zbo s=([],0,2):=if_pos (by omega);refine za (za ?_);refine zaa hX zbQ rfl ?_ ?_
  ·trivial
  refine zm ⟨.inr rfl,za9 (by decide) rfl rfl trivial ?_⟩;show _=((zbo s).1,(zbo s).2.1,(zbo s).2.2,());rw[hP]
 have hb:decide (((s.length:Nat):Int) > 1048576)=false:=hb;have hl:=of_decide_eq_false hb;have hl:s.length≤1048576:=by omega
 have hP:zbo s=zhb (segs s) 0 []:=if_neg (by omega);apply zab;refine za (za ?_);refine zaa hX zbQ rfl ?_ ?_
 ·trivial
 refine AWP.nilBuf hX 5 37 de rfl rfl rfl ?_;refine za (za ?_);refine zaa hX zbQ rfl ?_ ?_
 ·trivial
 obtain⟨R,hR⟩:∃ R,zhb (segs s) 0 []=R:=⟨_,rfl⟩;rw[hR]at hP;(repeat(first|apply zae|apply zab|apply zac|apply zad));refine yD (ι:=Nat×List De) (fun x=>⟨lF7 s x.1,lE7 x.2,1⟩) (fun x=>x.2.length≤x.1∧x.1≤s.length+1∧(if x.1≤s.length then zhb (segs (s.drop x.1)) x.1 x.2 else (x.2,0,0))=R) (fun x=>s.length+1 - x.1) (0,[]) ⟨zk _,zk _,(if_pos (zk _)).trans hR⟩ ⟨⟨rfl,rfl,rfl,trivial⟩,⟨rfl,trivial⟩,rfl,rfl⟩ ?_;rintro ⟨fr,acc⟩ ⟨ha,hf,hL⟩;have ha:acc.length≤fr:=ha;have hf:fr≤s.length+1:=hf;have hL:(if fr≤s.length then zhb (segs (s.drop fr)) fr acc else (acc,0,0))=R:=hL;show AWP _ _ _ _ _ ⟨lF7 s fr,lE7 acc,1⟩ _;refine za (za ?_);refine zaa hX zbQ rfl ?_ ?_
 ·trivial
 refine zaf rfl (fun hb=>?_) (fun hb=>?_)
 rotate_left
 ·have hb:decide ((fr:Int)≤((s.length:Nat):Int))=false:=hb;have hb:=of_decide_eq_false hb;rw[if_neg (by omega)]at hL;apply zad;refine qS hX 5 ?_;refine za (za ?_);refine zaa hX zbQ rfl ?_ ?_
  ·trivial
  refine zm ⟨.inr rfl,za9 (by decide) rfl rfl trivial ?_⟩;show _=((zbo s).1,(zbo s).2.1,(zbo s).2.2,());rw[hP, <-hL]
 have hb:decide ((fr:Int)≤((s.length:Nat):Int))=true:=hb;have hb:=of_decide_eq_true hb;have hle:fr≤s.length:=by omega
 rw[if_pos hle,zo4,zhb]at hL;obtain⟨n,hn⟩:∃ n,zaD noNl (s.drop fr)=n:=⟨_,rfl⟩;have hnl:fr+n≤s.length:=by
  have:=zdS noNl (s.drop fr);rw[ya]at this;omega
 have htk:(s.take (fr+n)).drop fr=(s.drop fr).takeWhile noNl:=by rw[<-hn];exact zgv noNl s fr
 have hyl:((s.drop fr).takeWhile noNl).length=n:=hn;rw[hn]at hL;apply zab;refine za (za ?_);refine zaa hX zbQ rfl ?_ ?_
 ·trivial
 refine yO (σ':=⟨[(0,⟨.str,s⟩),(5,⟨.obuf de,(0:Nat)⟩),(6,⟨i64,(fr:Int)⟩),(7,⟨i64,((fr+n:Nat):Int)⟩)],lE7 acc,1⟩) ?_ ?_
 ·(repeat(first|apply zae|apply zab|apply zac|apply zad));refine yD (ι:=Nat) (fun k=>⟨[(0,⟨.str,s⟩),(5,⟨.obuf de,(0:Nat)⟩),(6,⟨i64,(fr:Int)⟩),(7,⟨i64,(k:Int)⟩)],lE7 acc,1⟩) (fun k=>k≤s.length∧fr+n=k+zaD noNl (s.drop k)) (fun k=>s.length - k) fr ⟨hle,by rw[hn]⟩ ⟨⟨rfl,rfl,rfl,rfl,trivial⟩,⟨rfl,trivial⟩,rfl,rfl⟩ ?_;rintro k ⟨hk,he⟩;have m0:(0:Int)≤(k:Int):=by omega
  by_cases hkl:(k:Int) < ((s.length:Nat):Int)
  ·have hlt:k < s.length:=by omega
   have hget:s.getD ((k:Int)).toNat 0=s[k]:=zaM hlt;rw[zeE noNl hlt]at he;refine za (za ?_);refine zaa hX zbQ rfl ?_ ?_
   ·repeat'(first|exact trivial|assumption|exact m0|exact hkl|(refine⟨?_,?_⟩)|(intro _)|exact zb rfl|exact zn _|(simp_all [allP];done))
   have hq:(bif decide ((k:Int) < ((s.length:Nat):Int)) then (((((s.getD ((k:Int)).toNat 0)).toNat:Nat):Int) != ((((10:UInt8)).toNat:Nat):Int)) else false)=noNl s[k]:=by rw[decide_eq_true hkl,hget];exact u8_ne _ _
   refine zaf rfl (fun hb=>?_) (fun hb=>?_)
   ·have hb:=hq.symm.trans hb;rw[if_pos hb]at he;apply zab;refine za (za ?_);refine zaa hX zbQ rfl ?_ ?_
    ·exact zaq (by omega) (by omega)
    exact⟨k+1,⟨hlt,by omega⟩,by omega,⟨rfl,rfl,rfl,vI64 (by omega),trivial⟩,⟨rfl,trivial⟩,rfl,rfl⟩
   ·have hb:=hq.symm.trans hb;rw[if_neg (by rw[hb];decide)]at he;exact zad ⟨⟨rfl,rfl,rfl,vI64 (by omega),trivial⟩,⟨rfl,trivial⟩,rfl,rfl⟩
  ·have hkf:decide ((k:Int) < ((s.length:Nat):Int))=false:=decide_eq_false hkl;rw[zhf noNl (k:=k) (by omega)]at he;refine za (za ?_);refine zaa hX zbQ rfl ?_ ?_
   ·repeat'(first|exact trivial|(intro h;rw[hkf]at h;cases h;done)|(refine⟨?_,?_⟩))
   refine zaf rfl (fun hb=>?_) (fun hb=>?_)
   ·have hb:(bif decide ((k:Int) < ((s.length:Nat):Int)) then (((((s.getD ((k:Int)).toNat 0)).toNat:Nat):Int) != ((((10:UInt8)).toNat:Nat):Int)) else false)=true:=hb;rw[hkf]at hb;cases hb
   ·exact zad ⟨⟨rfl,rfl,rfl,vI64 (by omega),trivial⟩,⟨rfl,trivial⟩,rfl,rfl⟩
 have z0:(0:Int)≤(fr:Int):=by omega
 have z1:(fr:Int)≤((fr+n:Nat):Int):=by omega
 have z2:((fr+n:Nat):Int)≤((s.length:Nat):Int):=by omega
 refine za (za ?_);refine zaa hX zbQ rfl ?_ ?_
 ·repeat'(first|exact trivial|assumption|exact z0|exact z1|exact z2|(refine⟨?_,?_⟩)|(intro _)|exact zb rfl|exact zn _|(simp_all [allP];done))
 refine zam (σ':=⟨[(0,⟨.str,s⟩),(5,⟨.obuf de,(0:Nat)⟩),(6,⟨i64,(fr:Int)⟩),(7,⟨i64,((fr+n:Nat):Int)⟩),(8,⟨.str,(s.drop fr).takeWhile noNl⟩)],lE7 acc,1⟩) ⟨⟨rfl,rfl,rfl,rfl,by rw[<-htk];rfl,trivial⟩,⟨rfl,trivial⟩,rfl,rfl⟩ ?_;have hnext:(if n < (s.drop fr).length then segs ((s.drop fr).drop (n+1)) else [])=(if fr+n+1≤s.length then segs (s.drop (fr+n+1)) else []):=by
  rw[ya,xm];by_cases h:fr+n+1≤s.length
  ·rw[if_pos h,if_pos (by omega)];rfl
  ·rw[if_neg h,if_neg (by omega)]
 rw[hnext,hyl]at hL;have hgo:∀ acc':List De,zhb (if fr+n+1≤s.length then segs (s.drop (fr+n+1)) else []) (fr+n+1) acc'=(if fr+n+1≤s.length then zhb (segs (s.drop (fr+n+1))) (fr+n+1) acc' else (acc',0,0)):=fun acc'=>by
  by_cases h:fr+n+1≤s.length
  ·rw[if_pos h,if_pos h]
  ·rw[if_neg h,if_neg h];rfl
 rw[hgo,hgo]at hL;generalize (s.drop fr).takeWhile noNl=y at *;have q1:inR .i64 (((fr+n:Nat):Int)+1):=zaq (by omega) (by omega);refine za (za ?_);refine zaa hX zbQ rfl ?_ ?_
 ·trivial
 refine zaf rfl (fun hb2=>?_) (fun hb2=>?_)
 rotate_left
 ·have hb2:(!zew y)=false:=hb2;rw[yC]at hb2;rw[if_pos hb2]at hL;apply zab;refine za (za ?_);refine zaa hX zbQ rfl ?_ ?_
  ·exact q1
  exact⟨(fr+n+1,acc),⟨by show acc.length≤fr+n+1;omega,by show fr+n+1≤s.length+1;omega,hL⟩,by show s.length+1 - (fr+n+1) < s.length+1 - fr;omega,⟨rfl,rfl,vI64 (by omega),trivial⟩,⟨rfl,trivial⟩,rfl,rfl⟩
 have hb2:(!zew y)=true:=hb2;rw[zs]at hb2;rw[if_neg (by rw[hb2];decide)]at hL;obtain⟨D,hD⟩:∃ D,rDef y ((acc.length:Nat):Int)=D:=⟨_,rfl⟩;have hat:=ztQ y ((acc.length:Nat):Int);rw[hD]at hL hat;obtain⟨d,at',e⟩:=D;obtain⟨at0,at1⟩:0≤at'∧at'≤4000:=hat;refine za (za ?_);refine zaa hX zbQ rfl ?_ ?_
 ·trivial
 refine zam (σ':=⟨[(0,⟨.str,s⟩),(5,⟨.obuf de,(0:Nat)⟩),(6,⟨i64,(fr:Int)⟩),(7,⟨i64,((fr+n:Nat):Int)⟩),(9,⟨.optr de,⟨1,de,.here⟩⟩),(10,⟨i64,at'⟩),(11,⟨i64,e⟩)],[(0,some (.buf 37 de acc)),(1,some (.box de d))],2⟩) ⟨⟨rfl,rfl,rfl,rfl,rfl,by show (⟨i64,(rDef y ((acc.length:Nat):Int)).2.1⟩:V)=_;rw[hD],by show (⟨i64,(rDef y ((acc.length:Nat):Int)).2.2⟩:V)=_;rw[hD],trivial⟩,⟨rfl,by show some (OObj.box de (rDef y ((acc.length:Nat):Int)).1)=_;rw[hD],trivial⟩,rfl,rfl⟩ ?_;refine za (za ?_);refine zaa hX zbQ rfl ?_ ?_
 ·trivial
 refine zaf rfl (fun hb3=>?_) (fun hb3=>?_)
 ·have hb3:(e != 0)=true:=hb3;rw[if_neg (bne_iff_ne.1 hb3)]at hL;have q2:inR .i64 ((fr:Int)+at'):=zaq (by omega) (by omega);refine za (za ?_);refine zaa hX zbQ rfl ?_ ?_
  ·exact q2
  refine zm ⟨.inr rfl,za9 (by decide) rfl rfl trivial ?_⟩;show _=((zbo s).1,(zbo s).2.1,(zbo s).2.2,());rw[hP, <-hL]
 have hb3:(e != 0)=false:=hb3;rw[if_pos (bne_eq_false_iff_eq.1 hb3)]at hL;have hcap:acc.length+1≤1000000000:=by omega
 apply zab;refine za (za ?_);refine zaa hX zbQ rfl ?_ ?_
 ·exact hcap
 refine za (za ?_);refine zaa hX zbQ rfl ?_ ?_
 ·exact q1
 exact⟨(fr+n+1,acc++ [d]),⟨by show (acc++ [d]).length≤fr+n+1;rw[zh,zN];omega,by show fr+n+1≤s.length+1;omega,hL⟩,by show s.length+1 - (fr+n+1) < s.length+1 - fr;omega,⟨rfl,rfl,vI64 (by omega),trivial⟩,⟨rfl,trivial⟩,rfl,rfl⟩
end
section
attribute [local go_sem] jH
def ziG:List (List UInt8)->Nat
 | []=>0
 |g::r=>g.length+1+ziG r
theorem zgx:∀ (s c:List UInt8),ziG (segF c s)=c.length+s.length+1
 | [],c=>by unfold segF ziG ziG;simp
 |x::r,c=>by
  unfold segF;split
  ·rw[ziG,zgx r []];simp;omega
  ·rw[zgx r];simp;omega
theorem znT (s:List UInt8):ziG (segs s)=s.length+1:=by rw[segs,zgx];simp
theorem zo8 (y:List UInt8):GOk y (za2 y,0):=by
 have:=zge (s:=y);unfold zik at this;rwa[zhF]at this
theorem zm9 {y:List UInt8} {k:Int} {er:Int×Int} (h:zfi y k= .error er):0≤er.1∧er.1≤((y.length:Nat):Int):=by
 have hg:=zo8 y;have he:Er y (gDef y (za2 y,0) k):=zaE (zcj hg) fun u hu=>zaE (zcj hg) fun _ _=>by
  have hc:=zbb hu;rw[beq_iff_eq]at hc;have k1:=zb2 hg (by show zF (za2 y,(0:Int)).1≠0;rw[hc];decide);exact zaE (zeV k1.1) fun a ha=>zaE (zuF (zbm k1.1 ha).1) fun _ _=>zdy
 unfold zfi at h;cases hd:gDef y (za2 y,0) k with
 |ok r=>rw[hd]at h;cases h
 |error e=>
  rw[hd]at h;cases h;exact he _ hd
theorem zpX {y:List UInt8} {k:Nat} {d:De} (h:zfi y (k:Int)= .ok d):k < 4096:=by
 unfold zfi at h;cases hd:gDef y (za2 y,0) (k:Int) with
 |error e=>rw[hd]at h;cases h
 |ok r=>
  obtain⟨u,_,h2⟩:=zaj hd;obtain⟨u2,h3,_⟩:=zaj h2;have h3:=zbb h3;rw[zd,decide_eq_true_iff,decide_eq_true_iff]at h3;omega
theorem zoU {y:List UInt8} {fr:Nat} {acc acc':List De} (ha:acc.length≤4096) (h:zhC y fr acc= .ok acc'):acc'.length≤4096:=by
 unfold zhC at h;split at h
 ·split at h
  ·cases h
  ·split at h
   ·rename_i d hd;cases h;have:=zpX hd;rw[zh,zN];omega
   ·split at h
    ·cases h;exact ha
    ·cases h
 ·cases h;exact ha
abbrev XL (O:Nat->Prop) (fix:Nat->Nat) (D:List qW) (ρ:Option Nat):Ownr:={ G:=gmH,X:=O,K:=5,fix:=fix,D:=D,ρ:=ρ }
def sLE (fr:Nat) (acc:List De):Owns:=[(0,some (.hbox tD [⟨.lit,.slice none 0 0⟩])),(1,some (.box i64 (0:Int))),(2,some (.box i64 (0:Int))),(3,some (zpf 5)),(4,some (.box i64 (fr:Int))),(5,some (.buf 37 de acc))]
def lPF0:List (Nat×V):=[(2,⟨.hptr,((0:Nat),(0:Nat))⟩),(3,⟨.optr i64,⟨1,i64,.here⟩⟩),(4,⟨.optr i64,⟨2,i64,.here⟩⟩),(5,⟨.hptr,((3:Nat),(0:Nat))⟩),(6,⟨.optr i64,⟨4,i64,.here⟩⟩)]
def lRn:List (Nat×Nat):=[(0,0),(1,1),(2,2),(3,3),(4,4),(6,5),(5,6)]
theorem zp8 {B:zi} {O:Nat->Prop} {fix:Nat->Nat} {D:List qW} {ρ:Option Nat} (hX:(XL O fix D ρ).Ok B) (y:List UInt8) (fr:Nat) (acc:List De):
  AWP Tryz.prog B (XL O fix D ρ) 47 lAsgn ⟨(15,⟨.str,y⟩)::lPF0,sLE fr acc,6⟩ (fun e σ=>e= .normal∧Fit σ ⟨(2,⟨.hptr,((0:Nat),(0:Nat))⟩)::(3,⟨.optr i64,⟨1,i64,.here⟩⟩)::(4,⟨.optr i64,⟨2,i64,.here⟩⟩)::(5,⟨.hptr,((3:Nat),(0:Nat))⟩)::(6,⟨.optr i64,⟨4,i64,.here⟩⟩):: [(7,⟨.optr .str,⟨6,.str,.here⟩⟩)],(6,some (.box .str y))::sLE fr acc,7⟩):=by
 unfold lPF0 sLE;refine za (za ?_);refine zaa hX zcz rfl ?_ ?_
 ·trivial
 exact⟨rfl,⟨rfl,rfl,rfl,rfl,rfl,rfl,trivial⟩,⟨rfl,rfl,rfl,rfl,rfl,rfl,rfl,trivial⟩,rfl,rfl⟩
noncomputable def lTail:Code:=match Tryz.f19.body.getD .skip with
 | .seq _ (.seq _ (.seq _ (.seq _ (.seq _ t))))=>t
 |c=>c
def sLT (acc:List De):AS:=⟨[(2,⟨.hptr,((0:Nat),(0:Nat))⟩),(3,⟨.optr i64,⟨1,i64,.here⟩⟩),(4,⟨.optr i64,⟨2,i64,.here⟩⟩)],[(0,some (.hbox tD [⟨.slice de,acc⟩])),(1,some (.box i64 (0:Int))),(2,some (.box i64 (0:Int)))],6⟩
theorem zpT {B:zi} {O:Nat->Prop} {fix:Nat->Nat} {D:List qW} (hX:(XL O fix D none).Ok B) (fr:Nat) (acc:List De):
  AWP Tryz.prog B (XL O fix D none) 47 lTail ⟨lPF0,sLE fr acc,6⟩ (fun e σ=>e= .ret∧Fit σ (sLT acc)):=by
 unfold lPF0 sLE sLT;refine AWP.frzL hX 3 0 ?_;(repeat(first|apply zae|apply zab|apply zal|apply zad|apply zac|refine zaa hX zcz rfl trivial ?_|refine zaa hX zcz rfl id ?_|refine zaa hX zcz rfl ⟨id,id⟩ ?_));exact zm ⟨rfl,⟨rfl,rfl,rfl,trivial⟩,⟨rfl,rfl,rfl,trivial⟩,rfl,rfl⟩
section
variable {B W:zi} {X:Ownr} {n:Nat} {σ:AS} {β:Nat->zg} {a:Act}
theorem znE (h:Sim B X n σ β a W) {i:Nat} (hi:i < X.K) {t:Ty} {x:t.T} (hE:zl σ.E i=some (.box t x)):∃ cs ty,W.heap[X.fix i]? =some (.cells (List.toArray cs) ty (0,0))∧RepC W (OSet X σ.E β) t x cs:=by
 obtain⟨g,cs,ty,q1,_,q2,q3⟩:=h.own i _ hE;have q4:=(h.fix.2 i hi).1;rw[q1]at q4;have q4:g=X.fix i:=by simpa [zai] using q4
 subst q4;exact⟨cs,ty,q2,q3⟩
theorem zql (h:Sim B X n σ β a W) {i:Nat} (hi:i < X.K) {v:V} {ty:TypeId} (hE:zl σ.E i=some (.hbox ty [v])):∃ u,W.heap[X.fix i]? =some (.cells #[u] ty (0,0))∧u.oneCell'=true∧RepV W (OSet X σ.E β) β v.t v.x u:=by
 obtain⟨g,cs,q1,_,q2,u,r,rfl,q5,q6,q7⟩:=h.own i _ hE;have q7:r=[]:=q7;subst q7;have q4:=(h.fix.2 i hi).1;rw[q1]at q4;have q4:g=X.fix i:=by simpa [zai] using q4
 subst q4;exact⟨u,q2,q5,q6⟩
theorem znU {B A C:zi} {X X':Ownr} {n n':Nat} {σ σ':AS} {β β':Nat->zg} {a a':Act} {I:Nat->Prop} (h:Sim B X n σ β a A) (h':Sim B X' n' σ' β' a' C) (hR:∀ g,X'.R g->X.R g) (hX:X.Ok B) (hI:∀ g,I g->X g):SameOn I B.heap.size A C:=
 ⟨h'.bel.os.trans h.bel.os.symm,h'.bel.tape.trans h.bel.tape.symm,h'.bel.output.trans h.bel.output.symm,h'.bel.size,fun k hk=>
   have hx:=hX.1 k (hI k hk)
   (h'.bel.block k hx.1 fun hr=>hx.2 (hR k hr)).trans (h.bel.block k hx.1 hx.2).symm⟩
end
def zqb (a:Act) (x:zg):Act:={ tmps:=((#[15]:Array Tmp).zip #[x]).foldl (fun t (p,v)=>t.setIfInBounds p v) a.tmps,defers:=[] }
theorem zd9 {a:Act} {x:zg} (hsz:a.tmps.size=47) (s:Nat):(zqb a x).tmps.getD s undef=if 15=s then x else a.tmps.getD s undef:=by
 have:(zqb a x).tmps=a.tmps.setIfInBounds 15 x:=by simp[zqb]
 rw[this];by_cases h:15=s
 ·subst h;rw[if_pos rfl];simp[zL,xC,hsz]
 ·rw[if_neg h];simp[zL,xC,h]
def nA:Act:={ tmps:=#[],defers:=[] }
section
variable {w w5:zi} {O:Nat->Prop} {N:Nat} {s:List UInt8} {t0 t1 t2 t3 t4:TypeId} {a5:Act}
def lI (N D:Nat) (g:Nat):Prop:=itI (N+5) (N+6) (N+7) g∨g=D∨g=D+1
def lO (O:Nat->Prop) (N D:Nat) (g:Nat):Prop:=O g∨lI N D g
def lFix (N:Nat) (i:Nat):Nat:=N+i
def lBB (w5:zi) (N:Nat) (B:zi):Prop:=B.heap.size=w5.heap.size+2∧Kept (lI N w5.heap.size) w5 B
theorem lR {N:Nat} {O':Nat->Prop} {D:List qW} {ρ:Option Nat} {g:Nat} (h:(XL O' (lFix N) D ρ).R g):N≤g∧g≤N+4:=by
 rcases h with ⟨i,hi,rfl⟩|h
 ·have hi:i < 5:=hi;show N≤N+i∧N+i≤N+4;omega
 ·exact False.elim h
theorem zqa (hN:N=w.heap.size) (hs5:w5.heap.size=N+8) (hb5:y7 w.heap.size w w5) {B:zi} (h:lBB w5 N B):y7 w.heap.size w B:=
 ⟨h.2.os.trans hb5.os,h.2.tape.trans hb5.tape,h.2.output.trans hb5.output,zV hb5.size h.2.size,fun k hk=>(h.2.block k (zM hk hb5.size) (by unfold lI itI;omega)).trans (hb5.block k hk)⟩
theorem zmg (hN:N=w.heap.size) (hs5:w5.heap.size=N+8) (hb5:y7 w.heap.size w w5) {B W:zi} (h:lBB w5 N B) {O':Nat->Prop} {D:List qW} {ρ:Option Nat} (hk:Kept (XL O' (lFix N) D ρ).R B W):y7 w.heap.size w W:=
 have hb:=zqa hN hs5 hb5 h
 ⟨hk.os.trans hb.os,hk.tape.trans hb.tape,hk.output.trans hb.output,zV hb.size hk.size,fun k hkl=>(hk.block k (zM hkl hb.size) fun hr=>by have:=(lR hr).1;omega).trans (hb.block k hkl)⟩
theorem lX_ok (hN:N=w.heap.size) (hO:∀ g,O g->g < w.heap.size) (hG:gmH w) (hs5:w5.heap.size=N+8) (hb5:y7 w.heap.size w w5) {B:zi} (h:lBB w5 N B) (D:List qW) (ρ:Option Nat):(XL (lO O N w5.heap.size) (lFix N) D ρ).Ok B:=by
 have hs:=h.1;refine⟨fun g hg=>?_,fun g hg=>?_,fun w' hk=>zjh _ _ hG (zmg hN hs5 hb5 h hk)⟩
 ·have hg:O g∨(g=N+5∨g=N+6∨g=N+7)∨g=w5.heap.size∨g=w5.heap.size+1:=hg;refine⟨?_,fun hr=>?_⟩
  ·rcases hg with h1|h1
   ·have:=hO g h1;omega
   ·omega
  ·have:=lR hr;rcases hg with h1|h1
   ·have:=hO g h1;omega
   ·omega
 ·have:=lR hg;omega
theorem lX_inv (hN:N=w.heap.size) (hG:gmH w) {O':Nat->Prop} {D:List qW} {ρ:Option Nat} {B:zi} (ty:TypeId):ginv B (XL O' (lFix N) D ρ).R ty:=by
 have hl:=znl hG;exact⟨fun h=>by have:=lR h;omega,fun h=>by have:=lR h;omega⟩
def lJ (w5:zi) (O:Nat->Prop) (N:Nat) (s:List UInt8) (k:Nat) (W:zi):Prop:=∃ (B:zi) (β:Nat->zg) (acc:List De) (fr:Nat),lBB w5 N B∧Sim B (XL (lO O N w5.heap.size) (lFix N) [] none) 0 ⟨[],sLE fr acc,6⟩ β nA W∧acc.length≤4096∧k≤(segs s).length∧fr+ziG ((segs s).drop k)≤s.length+1∧libK ((segs s).drop k) fr acc=zaL s
def lN (w5:zi) (O:Nat->Prop) (N:Nat) (s:List UInt8) (k:Nat) (y:List UInt8) (a':Act) (W:zi):Prop:=∃ (B:zi) (β:Nat->zg) (acc:List De) (fr:Nat),lBB w5 N B∧Sim B (XL (lO O N w5.heap.size) (lFix N) [] none) 47 ⟨lPF,libE y (fr:Int) acc,7⟩ β a' W∧acc.length≤4096∧k≤(segs s).length∧fr+ziG ((segs s).drop k)≤s.length+1∧libK ((segs s).drop k) fr acc=zaL s
def lJr (w5:zi) (O:Nat->Prop) (N:Nat) (s:List UInt8) (W:zi):Prop:=∃ (er:Int×Int) (B:zi) (β:Nat->zg),zaL s=([],er.1,er.2)∧lBB w5 N B∧Sim B (XL (lO O N w5.heap.size) (lFix N) [] none) 0 ⟨[],lRE er.1 er.2,7⟩ β nA W
theorem zpY {tmps:Array zg} {g2 g3 g4:Nat} {W:zi} {u:zg} {x y:Int} {t2 t3 t4:TypeId} (hu:u.oneCell'=true) (h2:tmps.getD 2 undef= .pointer (some ⟨g2,0,none⟩)) (h3:tmps.getD 3 undef= .pointer (some ⟨g3,0,none⟩)) (h4:tmps.getD 4 undef= .pointer (some ⟨g4,0,none⟩))
  (c2:W.heap[g2]? =some (.cells #[u] t2 (0,0))) (c3:W.heap[g3]? =some (.cells #[.int .i64 x] t3 (0,0))) (c4:W.heap[g4]? =some (.cells #[.int .i64 y] t4 (0,0))):
  (results Tryz.f19 tmps).run Tryz.prog W= .ok (.tuple #[u,.int .i64 x,.int .i64 y]) W:=by
 have d2:=(za6 c2).1;have d3:=(za6 c3).1;have d4:=(za6 c4).1;rw[zL]at h2 h3 h4;simp[results,Tryz.f19,go_sem,h2,h3,h4,d2,d3,d4]
abbrev zts:Ty:=.tup (.slice de) (.tup i64 (.tup i64 .unit))
theorem zpm {w:zi} {O:Nat->Prop} {acc:List De} {x y:Int} {u:zg} (hu:RepD w O (.slice de) acc u):zdL w O 0 none zts (acc,x,y,()) (.tuple #[u,.int .i64 x,.int .i64 y]):=fun β=>
 ⟨[_,_,_],rfl,_,_,rfl,hu,_,_,rfl,rfl,_,_,rfl,rfl,rfl⟩
def ldco (D:Nat):qW:={ target:=.collected D,args:=#[] }
def zoC (w:zi) (O:Nat->Prop) (r:List De×Int×Int) (e:Ending) (w':zi):Prop:=∃ v,e= .returned v∧y7 w.heap.size w w'∧zdL w' O w.heap.size none zts (r.1,r.2.1,r.2.2,()) v
theorem lfin {W:zi} {O':Nat->Prop} {tmps:Array zg} {D:Nat} {u:zg} {x y:Int} {acc:List De} (hN:N=w.heap.size) (hO:∀ g,O g->O' g) (hD:O' D) (hlt:N+2 < D) (hbel:y7 w.heap.size w W) (hd:W.heap[D]? =some (.deferred (some []))) (hu:u.oneCell'=true) (h2:tmps.getD 2 undef= .pointer (some ⟨N,0,none⟩)) (h3:tmps.getD 3 undef= .pointer (some ⟨N+1,0,none⟩)) (h4:tmps.getD 4 undef= .pointer (some ⟨N+2,0,none⟩))
  (c2:W.heap[N]? =some (.cells #[u] t2 (0,0))) (c3:W.heap[N+1]? =some (.cells #[.int .i64 x] t3 (0,0))) (c4:W.heap[N+2]? =some (.cells #[.int .i64 y] t4 (0,0))) (hr:RepD W O' (.slice de) acc u):
  LeavesInM yz 1 Tryz.prog Tryz.f19 tmps (zoC w O (acc,x,y)) [ldco D] .returning W:=by
 refine⟨(by intro h;cases h),.inl ⟨D,_,rfl,run_takeDeferred hd,?_⟩⟩;have hk:Kept (fun g=>g=D) W (W.putObj D (.deferred none)):=zda _ rfl;have hlD:=(zo.1 hd).1;have hl:∀ g (o:Obj),W.heap[g]? =some o->g≠D->(W.putObj D (.deferred none)).heap[g]? =some o:=fun g o hg hne=>(hk.block g (zo.1 hg).1 hne).trans hg;refine⟨_,zpY hu h2 h3 h4 (hl _ _ c2 (by omega)) (hl _ _ c3 (by omega)) (hl _ _ c4 (by omega)),_,rfl,?_,?_⟩
 ·refine⟨hk.os.trans hbel.os,hk.tape.trans hbel.tape,hk.output.trans hbel.output,zV hbel.size hk.size,fun k hkl=>?_⟩;have h1:k < W.heap.size:=zM hkl hbel.size;exact (hk.block k h1 (by omega)).trans (hbel.block k hkl)
 ·exact zpm (RepD.keep ⟨hk.size,fun g hg hn=>hk.block g hg fun e=>hn (e▸hD),fun g _ hg=>hO g hg⟩ hr)
end
end
section
attribute [local go_sem] jH
section
variable {w w5:zi} {O:Nat->Prop} {N:Nat} {s:List UInt8} {t0 t1 t2 t3 t4:TypeId} {a5:Act}
theorem zjy {B W:zi} {O':Nat->Prop} {D:List qW} {ρ:Option Nat} {n:Nat} {σ:AS} {β:Nat->zg} {a:Act} (h:Sim B (XL O' (lFix N) D ρ) n σ β a W) {E:Owns} {m:Nat} (hf:Fit σ ⟨[],E,m⟩) (hm:5≤m):Sim B (XL O' (lFix N) [] none) 0 ⟨[],E,m⟩ β nA W:=
 (h.fit hf hm).act (X':=XL O' (lFix N) [] none) (a':=nA) rfl rfl rfl rfl rfl (F:=[]) zgB rfl
theorem zp0 {y:List UInt8} {r:List (List UInt8)} {fr:Nat} {acc:List De}:libK (y::r) fr acc=match zhC y fr acc with
 | .error e=>([],e.1,e.2)
 | .ok acc'=>libK r (fr+y.length+1) acc':=rfl
set_option maxHeartbeats 1000000 in
theorem zpZ (hN:N=w.heap.size) (hO:∀ g,O g->g < w.heap.size) (hG:gmH w) (hlen:s.length≤1048576) (hs5:w5.heap.size=N+8) (hb5:y7 w.heap.size w w5)
  (b0:w5.heap[N]? =some (.cells #[.slice none 0 0] tD (0,0))) (b1:w5.heap[N+1]? =some (.cells #[.int .i64 0] t1 (0,0))) (b2:w5.heap[N+2]? =some (.cells #[.int .i64 0] t2 (0,0))) (b3:w5.heap[N+3]? =some (.cells #[.slice none 0 0] tD (0,0))) (b4:w5.heap[N+4]? =some (.cells #[.int .i64 0] t4 (0,0)))
  (i0:w5.heap[N+5]? =some (.cells #[.string ⟨s.toArray⟩] 9 (0,0))) (i1:w5.heap[N+6]? =some (.cells #[.string ⟨#[10]⟩] 9 (0,0))) (i2:w5.heap[N+7]? =some (.cells #[.int .i64 0] 3 (0,0)))
  (hsz:a5.tmps.size=47) (e2:a5.tmps.getD 2 undef= .pointer (some ⟨N,0,none⟩)) (e3:a5.tmps.getD 3 undef= .pointer (some ⟨N+1,0,none⟩)) (e4:a5.tmps.getD 4 undef= .pointer (some ⟨N+2,0,none⟩)) (e5:a5.tmps.getD 5 undef= .pointer (some ⟨N+3,0,none⟩)) (e6:a5.tmps.getD 6 undef= .pointer (some ⟨N+4,0,none⟩))
  (e14:a5.eval (.tmp 14)= .func (.func 145) #[] #[.pointer (some ⟨N+6,0,none⟩),.pointer (some ⟨N+5,0,none⟩),.pointer (some ⟨N+7,0,none⟩)]) (hdf:a5.defers=[]):
  zgt Tryz.prog 19 (.rangeFunc (.tmp 14) #[15] lAsgn lBody) (fun e a w'=>(e= .normal∨e= .ret)∧Exit.then (zgt Tryz.prog 19 lTail (bodyPostM yz 1 Tryz.prog Tryz.f19 (zoC w O (zaL s)))) (bodyPostM yz 1 Tryz.prog Tryz.f19 (zoC w O (zaL s))) e a w') a5 w5:=by
 have hP:zaL s=libK (segs s) 0 []:=if_neg (by omega);have hXok:∀ B D ρ,lBB w5 N B->(XL (lO O N w5.heap.size) (lFix N) D ρ).Ok B:=fun B D ρ h=>lX_ok hN hO hG hs5 hb5 h D ρ;have hsame:∀ {B A C:zi} {ρ ρ':Option Nat} {D D':List qW} {n n':Nat} {σ σ':AS} {β β':Nat->zg} {a a':Act},lBB w5 N B->Sim B (XL (lO O N w5.heap.size) (lFix N) D ρ) n σ β a A->Sim B (XL (lO O N w5.heap.size) (lFix N) D' ρ') n' σ' β' a' C->SameOn (lI N w5.heap.size) (w5.heap.size+2) A C:=fun hBB h h'=>by
  have:=znU h h' (fun g hr=>hr) (hXok _ _ _ hBB) (I:=lI N w5.heap.size) (fun g hg=>.inr hg);rwa[hBB.1]at this
 refine ziF (m:=1) e14 Tryz.call145 (zlU (N+5) (N+6) (N+7) s w5 (by omega) (by omega) i0 i1 i2) (zU _ _) ?_ (lJ w5 O N s) (lJr w5 O N s) (lN w5 O N s) ?_ ?_ ?_ ?_ ?_ ?_ ?_ ?_
 ·intro k hk;have hk:k=N+5∨k=N+6∨k=N+7:=hk;omega
 ·rintro k A C ⟨B,β,acc,fr,hBB,hS,h1,h2,h3,h4⟩ hk;obtain⟨B',hs',hk',hS'⟩:=hS.outside (hXok _ _ _ hBB) (I:=lI N w5.heap.size) (fun g hg=>.inr hg) hk;exact⟨B',β,acc,fr,⟨hs'.trans hBB.1,hBB.2.trans hk'⟩,hS',h1,h2,h3,h4⟩
 ·rintro A C ⟨er,B,β,hpe,hBB,hS⟩ hk;obtain⟨B',hs',hk',hS'⟩:=hS.outside (hXok _ _ _ hBB) (I:=lI N w5.heap.size) (fun g hg=>.inr hg) hk;exact⟨er,B',β,hpe,⟨hs'.trans hBB.1,hBB.2.trans hk'⟩,hS'⟩
 ·rintro k y a' A C ⟨B,β,acc,fr,hBB,hS,h1,h2,h3,h4⟩ hk;obtain⟨B',hs',hk',hS'⟩:=hS.outside (hXok _ _ _ hBB) (I:=lI N w5.heap.size) (fun g hg=>.inr hg) hk;exact⟨B',β,acc,fr,⟨hs'.trans hBB.1,hBB.2.trans hk'⟩,hS',h1,h2,h3,h4⟩
 ·intro W1 hb hs1;have hBB:lBB w5 N W1:=⟨hs1,⟨hb.os,hb.tape,hb.output,hb.size,fun k hk _=>hb.block k hk⟩⟩;have hl:∀ g (o:Obj),w5.heap[g]? =some o->W1.heap[g]? =some o:=fun g o hg=>(hb.block g (zo.1 hg).1).trans hg
  let β:Nat->zg:=fun i=>.pointer (some ⟨lFix N i,0,none⟩)
  have hS0:Sim W1 (XL (lO O N w5.heap.size) (lFix N) [] none) 0 ⟨[],[(0,some (.hbox tD [⟨.lit,.slice none 0 0⟩])),(1,some (.box i64 (0:Int))),(2,some (.box i64 (0:Int))),(3,some (.hbox tD [⟨.lit,.slice none 0 0⟩])),(4,some (.box i64 (0:Int)))],5⟩ β nA W1:=by
   refine Sim.boxes (X:=XL (lO O N w5.heap.size) (lFix N) [] none) rfl rfl (fun i _=>rfl) ?_ ?_ zgB rfl
   ·intro i j hi hj hij;have hij:N+i=N+j:=hij;omega
   ·intro i o h;rw[zag]at h;split at h
    ·rename_i hi;subst hi;cases h;exact⟨by show 0 < 5;omega,rfl,⟨N,[_],rfl,zk _,hl _ _ b0,_,[],rfl,rfl,rfl,rfl⟩,fun vs e v hv=>by cases e;rw[zw]at hv;subst hv;exact zk _⟩
    rw[zag]at h;split at h
    ·rename_i _ hi;subst hi;cases h;exact⟨by show 1 < 5;omega,rfl,⟨N+1,[_],_,rfl,zk _,hl _ _ b1,rfl⟩,fun vs e=>by cases e⟩
    rw[zag]at h;split at h
    ·rename_i _ _ hi;subst hi;cases h;exact⟨by show 2 < 5;omega,rfl,⟨N+2,[_],_,rfl,zk _,hl _ _ b2,rfl⟩,fun vs e=>by cases e⟩
    rw[zag]at h;split at h
    ·rename_i _ _ _ hi;subst hi;cases h;exact⟨by show 3 < 5;omega,rfl,⟨N+3,[_],rfl,zk _,hl _ _ b3,_,[],rfl,rfl,rfl,rfl⟩,fun vs e v hv=>by cases e;rw[zw]at hv;subst hv;exact zk _⟩
    rw[zag]at h;split at h
    ·rename_i _ _ _ _ hi;subst hi;cases h;exact⟨by show 4 < 5;omega,rfl,⟨N+4,[_],_,rfl,zk _,hl _ _ b4,rfl⟩,fun vs e=>by cases e⟩
    ·cases h
  obtain⟨β',hS1⟩:=Sim.nilLeaf 3 0 37 de rfl rfl rfl _ _ _ hS0;refine⟨W1,β',[],0,hBB,zjy hS1 ⟨trivial,⟨rfl,rfl,rfl,rfl,rfl,rfl,trivial⟩,rfl,rfl⟩ (by omega),by simp,zk _,?_,hP.symm⟩;rw[List.drop_zero,znT];omega
 ·rintro l k y W ⟨B,β,acc,fr,hBB,hS,h1,h2,h3,h4⟩ hy hsz2;obtain⟨hkl,hyk⟩:=yA.1 hy;have hd:(segs s).drop k=y::(segs s).drop (k+1):=by rw[<-hyk];exact zI hkl
  have h3':=h3;rw[hd,ziG]at h3';have hb:=fun k (hk:k < 5)=>(hS.fix.2 k hk).1;have hsim:=hS.act (X':=XL (lO O N w5.heap.size) (lFix N) [] (some l)) (m:=47) (a':=zqb a5 (.string ⟨y.toArray⟩)) rfl rfl rfl (by simp[zqb,hsz]) rfl (F:=(15,⟨.str,y⟩)::lPF0) (zbJ (by rw[zd9 hsz];exact⟨rfl,by show y.length≤maxLen;unfold maxLen;omega⟩) (zbJ ⟨_,hb 0 (by omega),by rw[zd9 hsz];exact e2⟩ (zbJ ⟨_,hb 1 (by omega),by rw[zd9 hsz];exact e3⟩ (zbJ ⟨_,hb 2 (by omega),by rw[zd9 hsz];exact e4⟩ (zbJ ⟨_,hb 3 (by omega),by rw[zd9 hsz];exact e5⟩ (zbJ ⟨_,hb 4 (by omega),by rw[zd9 hsz];exact e6⟩ zgB)))))) rfl;refine yS (zp8 (hXok B [] (some l) hBB) y fr acc β _ W hsim) ?_;rintro e a' W' ⟨σ',β',h',rfl,hf⟩;have hso:=hsame hBB hS h';have h6:=h'.fit hf (by show 5≤7;omega);have h7:=h6.renameK (L:=lRn) (m:=7) rfl rfl (by show 5≤7;omega) rfl rfl;refine⟨rfl,⟨B,_,acc,fr,hBB,(h7.fit (σ':=⟨lPF,libE y (fr:Int) acc,7⟩) ⟨⟨rfl,rfl,rfl,rfl,rfl,rfl,trivial⟩,⟨rfl,rfl,rfl,rfl,rfl,rfl,rfl,trivial⟩,rfl,rfl⟩ (by show 5≤7;omega)).act (X':=XL (lO O N w5.heap.size) (lFix N) [] none) rfl rfl rfl h7.sz h7.df (fun sl=>(h7.fit (σ':=⟨lPF,libE y (fr:Int) acc,7⟩) ⟨⟨rfl,rfl,rfl,rfl,rfl,rfl,trivial⟩,⟨rfl,rfl,rfl,rfl,rfl,rfl,rfl,trivial⟩,rfl,rfl⟩ (by show 5≤7;omega)).fr sl) rfl,h1,h2,h3,h4⟩,hso⟩
 ·rintro l k y W a' hy hsz2 ⟨B,β,acc,fr,hBB,hS,h1,h2,h3,h4⟩;obtain⟨hkl,hyk⟩:=yA.1 hy;have hd:(segs s).drop k=y::(segs s).drop (k+1):=by rw[<-hyk];exact zI hkl
  rw[hd,ziG]at h3;rw[hd,zp0]at h4;have hsim:=hS.act (X':=XL (lO O N w5.heap.size) (lFix N) [] (some l)) rfl rfl rfl hS.sz hS.df hS.fr rfl;refine yS (zrY (by omega) (by omega) (by omega) (hXok B [] (some l) hBB) rfl rfl (fun ty=>lX_inv hN hG ty) (fun er he=>⟨(zm9 he).1,by have:=(zm9 he).2;omega⟩) β _ W hsim) ?_;rintro e a3 W' ⟨σ',β',h',hR⟩;have hso:=hsame hBB hS h';refine⟨?_,hso⟩;cases hst:zhC y fr acc with
  |error er=>
   rw[hst]at hR h4;obtain⟨rfl,hf⟩:=hR;exact .inr ⟨rfl,er,B,β',h4.symm,hBB,zjy h' hf (by omega)⟩
  |ok acc'=>
   rw[hst]at hR h4;obtain⟨rfl,hf⟩:=hR;have h6:=(h'.fit hf (by show 5≤7;omega)).fit (σ':=⟨[],[(0,some (.hbox tD [⟨.lit,.slice none 0 0⟩])),(1,some (.box i64 (0:Int))),(2,some (.box i64 (0:Int))),(3,some (zpf 6)),(4,some (.box i64 ((fr+y.length+1:Nat):Int))),(6,some (.buf 37 de acc'))],7⟩) ⟨trivial,⟨rfl,rfl,rfl,rfl,rfl,rfl,trivial⟩,rfl,rfl⟩ (by show 5≤7;omega);have h7:=h6.renameK (L:=lRn) (m:=6) rfl rfl (by show 5≤6;omega) rfl rfl;exact .inl ⟨rfl,B,_,acc',fr+y.length+1,hBB,zjy h7 ⟨trivial,⟨rfl,rfl,rfl,rfl,rfl,rfl,trivial⟩,rfl,rfl⟩ (by omega),zoU h1 hst,hkl,by omega,h4⟩
 ·rintro W ⟨B,β,acc,fr,hBB,hS,h1,h2,h3,h4⟩ hdef;refine⟨.inl rfl,?_⟩;rw[List.drop_length]at h4;have h4:(acc,(0:Int),(0:Int))=zaL s:=h4;have hb:=fun k (hk:k < 5)=>(hS.fix.2 k hk).1;have hsim:=hS.act (X':=XL (lO O N w5.heap.size) (lFix N) [ldco w5.heap.size] none) (m:=47) (a':={ a5 with defers:={ target:=.collected w5.heap.size,args:=#[] }::a5.defers }) rfl rfl rfl hsz (by rw[hdf];rfl) (F:=lPF0) (zbJ ⟨_,hb 0 (by omega),e2⟩ (zbJ ⟨_,hb 1 (by omega),e3⟩ (zbJ ⟨_,hb 2 (by omega),e4⟩ (zbJ ⟨_,hb 3 (by omega),e5⟩ (zbJ ⟨_,hb 4 (by omega),e6⟩ zgB))))) rfl;refine zcH (m:=0) (yS (zpT (hXok _ _ _ hBB) fr acc β _ W hsim) ?_);rintro e a' W' ⟨σ',β',h',rfl,hf⟩;have h6:=h'.fit hf (by show 5≤6;omega);have hso:=hsame hBB hS h6;obtain⟨u,q0,q1,hu⟩:=zql h6 (i:=0) (by show 0 < 5;omega) rfl;obtain⟨c1,y1,q2,q3⟩:=znE h6 (i:=1) (by show 1 < 5;omega) rfl;obtain⟨c2,y2,q4,q5⟩:=znE h6 (i:=2) (by show 2 < 5;omega) rfl;have q3:c1=[.int .i64 0]:=q3;have q5:c2=[.int .i64 0]:=q5;subst q3;subst q5;have hb6:=fun k (hk:k < 5)=>(h6.fix.2 k hk).1;have k2:a'.tmps.getD 2 undef= .pointer (some ⟨N,0,none⟩):=by
   obtain⟨g,r1,r2⟩:∃ g,zai (β' 0)=some g∧a'.tmps.getD 2 undef= .pointer (some ⟨g,0,none⟩):=h6.fr 2;rw[hb6 0 (by omega)]at r1;cases r1;exact r2
  have k3:a'.tmps.getD 3 undef= .pointer (some ⟨N+1,0,none⟩):=by
   obtain⟨g,r1,r2⟩:∃ g,zai (β' 1)=some g∧a'.tmps.getD 3 undef= .pointer (some ⟨g,0,none⟩):=h6.fr 3;rw[hb6 1 (by omega)]at r1;cases r1;exact r2
  have k4:a'.tmps.getD 4 undef= .pointer (some ⟨N+2,0,none⟩):=by
   obtain⟨g,r1,r2⟩:∃ g,zai (β' 2)=some g∧a'.tmps.getD 4 undef= .pointer (some ⟨g,0,none⟩):=h6.fr 4;rw[hb6 2 (by omega)]at r1;cases r1;exact r2
  show LeavesInM yz 1 Tryz.prog Tryz.f19 a'.tmps (zoC w O (zaL s)) a'.defers .returning W';rw[h6.df, <-h4];exact lfin hN (O':=OSet (XL (lO O N w5.heap.size) (lFix N) [ldco w5.heap.size] none) (sLT acc).E β') (fun g hg=>.inl (.inl hg)) (.inl (.inr (.inr (.inl rfl)))) (by omega) (zmg hN hs5 hb5 hBB h6.bel) ((hso.block _ (.inr (.inl rfl))).trans hdef) q1 k2 k3 k4 q0 q2 q4 hu
 ·rintro W ⟨er,B,β,hpe,hBB,hS⟩ hdef;refine⟨.inr rfl,?_⟩;obtain⟨u,q0,q1,hu⟩:=zql hS (i:=0) (by show 0 < 5;omega) rfl;have hu:u= .slice none 0 0:=hu;subst hu;obtain⟨c1,y1,q2,q3⟩:=znE hS (i:=1) (by show 1 < 5;omega) rfl;obtain⟨c2,y2,q4,q5⟩:=znE hS (i:=2) (by show 2 < 5;omega) rfl;have q3:c1=[.int .i64 er.1]:=q3;have q5:c2=[.int .i64 er.2]:=q5;subst q3;subst q5;show LeavesInM yz 1 Tryz.prog Tryz.f19 a5.tmps (zoC w O (zaL s)) (ldco w5.heap.size::a5.defers) .returning W;rw[hdf,hpe];exact lfin (acc:=[]) hN (O':=OSet (XL (lO O N w5.heap.size) (lFix N) [] none) (lRE er.1 er.2) β) (fun g hg=>.inl (.inl hg)) (.inl (.inr (.inr (.inl rfl)))) (by omega) (zmg hN hs5 hb5 hBB hS.bel) hdef q1 e2 e3 e4 q0 q2 q4 ⟨_,rfl,.inl ⟨rfl,none,0,rfl,zk _⟩⟩
end
end
section
attribute [local go_sem] jH
theorem zkl {P:Program} {f:FuncId} {Q:Exit->Act->zi->Prop} {a:Act} {w:zi} {id:Nat} {c:Code} (h:zgt P f c (fun e a w=>(e= .normal∨e= .ret)∧Q e a w) a w):zgt P f (.block id c) Q a w:=by
 intro b k cs hb hro;have h0:(lone (b.atR a (.code (.block id c)::k)) cs w).fenced P yz:=fenced_wide P _;obtain⟨e,a1,w1,⟨he,hq⟩,harr⟩:=h b (.inBlock id::k) cs hb hro;rcases he with rfl|rfl
 ·exact⟨.normal,a1,w1,hq,.head h0 stepR_block (StepsIn.trans harr (.one (fenced_wide P _) stepR_inBlock))⟩
 ·exact⟨_,a1,w1,hq,.of_steps (.one h0 stepR_block) harr⟩
noncomputable def zfK:Ctr:={ args:=[.str],pre:=fun _=>[],res:=zts,own:=none,out:=fun x=>((zaL x.1).1,(zaL x.1).2.1,(zaL x.1).2.2,()) }
set_option maxHeartbeats 1000000 in
theorem zhW:yB Tryz.prog gmH 19 zfK:=by
 refine⟨Tryz.call19,fun w O xs vs hO hr hp hG=>?_⟩;obtain⟨(s:List UInt8),_⟩:=xs;obtain⟨v1,r1,rfl,e1,rfl⟩:=hr;have e1: [v1]=[Value.string ⟨s.toArray⟩]∧s.length≤maxLen:=e1;obtain⟨e1,hmax⟩:=e1;cases e1;refine callsIn_wide.1 (zfp (m:=1) Tryz.func19 rfl ?_);simp only[Tryz.ntmps19,List.size_toArray,zr,zX,Nat.reduceAdd,Nat.reduceSub,Array.replicate_succ,Array.replicate_zero,List.push_toArray,List.append_toArray,List.nil_append,List.cons_append];change zgt _ _ _ (bodyPostM yz 1 Tryz.prog Tryz.f19 (zoC w O (zaL s))) _ _;generalize hQ:bodyPostM yz 1 Tryz.prog Tryz.f19 _=Q;refine zcA (zcH (m:=1) ?_)
 gi_wp2
 refine zcA (zcH (m:=1) ?_)
 gi_wp2
 ·rename_i hlong;have hP:zaL s=([],0,2):=if_pos (by omega);rw[<-hQ,hP];refine⟨_,zpY (g2:=w.heap.size) (g3:=w.heap.size+1) (g4:=w.heap.size+1+1) (u:=.slice none 0 0) (x:=0) (y:=2) (t2:=tD) (t3:=3) (t4:=25) rfl rfl rfl rfl ?_ ?_ ?_,_,rfl,((((zU _ w).alloc (zj _) _).alloc (by simp) _).alloc (by simp;omega) _),zpm (acc:=[]) ⟨_,rfl,.inl ⟨rfl,none,0,rfl,zk _⟩⟩⟩
  ·exact za1 _ (za1 _ (zb3 _ rfl))
  ·exact za1 _ (zb3 _ (by simp))
  ·exact zb3 _ (by simp)
 rename_i hshort;have hlen:s.length≤1048576:=by omega
 refine zcA (zcH (m:=1) ?_)
 gi_wp2
 refine zcA (zcH (m:=1) ?_)
 gi_wp2
 refine zcA (zcA (zcH (m:=1) ?_))
 gi_wp2
 refine⟨trivial,(callsIn_wide.2 (zjv _ _ _)).mono ?_⟩;rintro e w' ⟨rfl,rfl⟩
 gi_wp2
 refine zkl ?_;obtain⟨w4,hw4⟩:∃ w4:zi,w4=(((((w.alloc (.cells #[.slice none 0 0] tD)).alloc (.cells #[.int .i64 0] 3)).alloc (.cells #[.int .i64 0] 25)).alloc (.cells #[.slice none 0 0] tD)).alloc (.cells #[.int .i64 0] 3)):=⟨_,rfl⟩;rw[<-hw4, <-hQ];have hs4:w4.heap.size=w.heap.size+5:=by rw[hw4];simp
 have hb4:y7 w.heap.size w w4:=by rw[hw4];exact ((((((zU _ w).alloc (zj _) _).alloc (by simp) _).alloc (by simp;omega) _).alloc (by simp;omega) _).alloc (by simp;omega) _)
 have b0:w4.heap[w.heap.size]? =some (.cells #[.slice none 0 0] tD (0,0)):=by rw[hw4];exact za1 _ (za1 _ (za1 _ (za1 _ (zb3 _ rfl))))
 have b1:w4.heap[w.heap.size+1]? =some (.cells #[.int .i64 0] 3 (0,0)):=by rw[hw4];exact za1 _ (za1 _ (za1 _ (zb3 _ (by simp))))
 have b2:w4.heap[w.heap.size+2]? =some (.cells #[.int .i64 0] 25 (0,0)):=by rw[hw4];exact za1 _ (za1 _ (zb3 _ (by simp)))
 have b3:w4.heap[w.heap.size+3]? =some (.cells #[.slice none 0 0] tD (0,0)):=by rw[hw4];exact za1 _ (zb3 _ (by simp))
 have b4:w4.heap[w.heap.size+4]? =some (.cells #[.int .i64 0] 3 (0,0)):=by rw[hw4];exact zb3 _ (by simp)
 have hb5:y7 w.heap.size w (itW w4 ⟨s.toArray⟩ ⟨#[10]⟩):=hb4.trans ((((zU _ w4).alloc (zj _) _).alloc (by simp) _).alloc (by simp;omega) _ |>.mono hb4.size);have i0:(itW w4 ⟨s.toArray⟩ ⟨#[10]⟩).heap[w.heap.size+5]? =some (.cells #[.string ⟨s.toArray⟩] 9 (0,0)):=za1 _ (za1 _ (zb3 _ hs4));have i1:(itW w4 ⟨s.toArray⟩ ⟨#[10]⟩).heap[w.heap.size+6]? =some (.cells #[.string ⟨#[10]⟩] 9 (0,0)):=za1 _ (zb3 _ (by simp[hs4]));have i2:(itW w4 ⟨s.toArray⟩ ⟨#[10]⟩).heap[w.heap.size+7]? =some (.cells #[.int .i64 0] 3 (0,0)):=zb3 _ (by simp[hs4]);have hs5:(itW w4 ⟨s.toArray⟩ ⟨#[10]⟩).heap.size=w.heap.size+8:=by simp[itW,hs4]
 have hit:itV w4= .func (.func 145) #[] #[.pointer (some ⟨w.heap.size+6,0,none⟩),.pointer (some ⟨w.heap.size+5,0,none⟩),.pointer (some ⟨w.heap.size+7,0,none⟩)]:=by unfold itV;rw[hs4]
 have hl:∀ g (o:Obj),w4.heap[g]? =some o->(itW w4 ⟨s.toArray⟩ ⟨#[10]⟩).heap[g]? =some o:=fun g o hg=>za1 _ (za1 _ (za1 _ hg));exact zpZ rfl hO hG hlen hs5 hb5 (hl _ _ b0) (hl _ _ b1) (hl _ _ b2) (hl _ _ b3) (hl _ _ b4) i0 i1 i2 rfl rfl rfl rfl rfl rfl hit rfl
end
noncomputable def eqN (a b:Nd):Bool:=eqb nd a b
theorem zmq {a b:Nd}:eqN a b=true↔a=b:=zay
theorem ziq {a b:Nd}:eqN a b=false↔a≠b:=by rw[<-j2,zmq]
noncomputable def zs9:Ctr:={ args:=[nd,nd],pre:=fun _=>[],res:=.bool,own:=none,out:=fun x=>eqN x.1 x.2.1 }
theorem eqb_ne (x y:List UInt8):(!eqb .str x y)= !decide (x=y):=by rw[zcw]
theorem zrr:yB Tryz.prog gmH 49 zs9:=by
 refine zap (K:=gmK) zak Tryz.func49 rfl rfl Tryz.call49 rfl (by decide) (by intro h;cases h) ?_;rintro w0 X hX ⟨(a:Nd),(b:Nd),_⟩ hp;change AWP _ _ _ _ _ ⟨[(0,⟨nd,a⟩),(1,⟨nd,b⟩)],[],0⟩ _;refine za (za ?_);refine zaa hX zak rfl ?_ ?_
 ·trivial
 refine za (za ?_);refine zaa hX zak rfl ?_ ?_
 ·repeat'(first|exact trivial|assumption|(refine⟨?_,?_⟩)|(intro _)|exact zb rfl|exact zn _|(simp_all [allP];done))
 obtain⟨a1,a2,a3,a4,a5,a6,(la:List Int),a8,⟨⟩⟩:=a;obtain⟨b1,b2,b3,b4,b5,b6,(lb:List Int),b8,⟨⟩⟩:=b;have ht:(bif (bif (bif (bif (bif (bif (bif a1 != b1 then true else a2 != b2) then true else a3 != b3) then true else a4 != b4) then true else a5 != b5) then true else a6 != b6) then true else !eqb .str a8 b8) then true else ((la.length:Nat):Int) != ((lb.length:Nat):Int))=true↔¬ (a1=b1∧a2=b2∧a3=b3∧a4=b4∧a5=b5∧a6=b6∧a8=b8∧la.length=lb.length):=by
  rw[eqb_ne];simp only[b_or,zJ,bne_iff_ne,zs,decide_eq_false_iff_not];constructor
  ·rintro (((((((h|h)|h)|h)|h)|h)|h)|h) ⟨x1,x2,x3,x4,x5,x6,x7,x8⟩
   ·exact h x1
   ·exact h x2
   ·exact h x3
   ·exact h x4
   ·exact h x5
   ·exact h x6
   ·exact h x7
   ·exact h (by rw[x8])
  ·intro h;by_cases x1:a1=b1
   ·by_cases x2:a2=b2
    ·by_cases x3:a3=b3
     ·by_cases x4:a4=b4
      ·by_cases x5:a5=b5
       ·by_cases x6:a6=b6
        ·by_cases x7:a8=b8
         ·refine .inr fun e=>h ⟨x1,x2,x3,x4,x5,x6,x7,by omega⟩
         ·exact .inl (.inr x7)
        ·exact .inl (.inl (.inr x6))
       ·exact .inl (.inl (.inl (.inr x5)))
      ·exact .inl (.inl (.inl (.inl (.inr x4))))
     ·exact .inl (.inl (.inl (.inl (.inl (.inr x3)))))
    ·exact .inl (.inl (.inl (.inl (.inl (.inl (.inr x2))))))
   ·exact .inl (.inl (.inl (.inl (.inl (.inl (.inl x1))))))
 refine zaf rfl (fun hb=>?_) (fun hb=>?_)
 ·have hb:=ht.1 hb;(repeat(first|apply zae|apply zab|apply zal|apply zad|apply zac|refine zaa hX zak rfl trivial ?_|refine zaa hX zak rfl id ?_|refine zaa hX zak rfl ⟨id,id⟩ ?_));refine zm ⟨.inr rfl,zas rfl trivial rfl rfl ?_⟩;refine (ziq.2 fun e=>hb ?_).symm;cases e;exact⟨rfl,rfl,rfl,rfl,rfl,rfl,rfl,rfl⟩
 ·have hb:¬ _:=fun h=>by rw[ht.2 h]at hb;cases hb
  obtain⟨rfl,rfl,rfl,rfl,rfl,rfl,rfl,hlen⟩:=Classical.not_not.1 hb;apply zab;refine za (za ?_);refine zaa hX zak rfl ?_ ?_
  ·trivial
  (repeat(first|apply zae|apply zab|apply zac|apply zad));refine zam (σ':=⟨[(2,⟨.optr nd,⟨0,nd,.here⟩⟩),(3,⟨.optr nd,⟨1,nd,.here⟩⟩),(5,⟨i64,(0:Int)⟩)],[(0,some (.box nd (a1,a2,a3,a4,a5,a6,la,a8,()))),(1,some (.box nd (a1,a2,a3,a4,a5,a6,lb,a8,())))],2⟩) ⟨⟨rfl,rfl,rfl,trivial⟩,⟨rfl,rfl,trivial⟩,rfl,rfl⟩ ?_;refine yD (ι:=Nat) (fun k=>⟨[(2,⟨.optr nd,⟨0,nd,.here⟩⟩),(3,⟨.optr nd,⟨1,nd,.here⟩⟩),(5,⟨i64,(k:Int)⟩)],[(0,some (.box nd (a1,a2,a3,a4,a5,a6,la,a8,()))),(1,some (.box nd (a1,a2,a3,a4,a5,a6,lb,a8,())))],2⟩) (fun k=>k≤la.length∧la.take k=lb.take k) (fun k=>la.length - k) 0 ⟨zk _,rfl⟩ ⟨⟨rfl,rfl,rfl,trivial⟩,⟨rfl,rfl,trivial⟩,rfl,rfl⟩ ?_;rintro k ⟨hk,he⟩;refine za (za ?_);refine zaa hX zak rfl ?_ ?_
  ·trivial
  refine AWP.len 64 rfl fun hl=>?_;have hl:la.length≤maxLen:=hl;unfold maxLen at hl;refine zaf rfl (fun hb=>?_) (fun hb=>?_)
  ·have hb:decide ((k:Int) < ((la.length:Nat):Int))=true:=hb;have hb:=of_decide_eq_true hb;have hlt:k < la.length:=by omega
   have hlt2:k < lb.length:=by omega
   have z0:(0:Int)≤(k:Int):=by omega
   have z1:(k:Int) < ((la.length:Nat):Int):=by omega
   have z2:(k:Int) < ((lb.length:Nat):Int):=by omega
   have g1:la.getD (k:Int).toNat (0:Int)=la[k]:=zaM hlt;have g2:lb.getD (k:Int).toNat (0:Int)=lb[k]:=zaM hlt2;(repeat(first|apply zae|apply zab|apply zac|apply zad));refine v8 dM hX zak 11 (by kernel_rfl) rfl rfl ?_ ?_ ?_
   ·repeat'(first|exact trivial|assumption|exact z0|exact z1|exact z2|(refine⟨?_,?_⟩)|(intro _)|exact zb rfl|exact zn _|(simp_all [allP];done))
   ·trivial
   refine zaf rfl (fun hc=>?_) (fun hc=>?_)
   ·have hc:(la.getD (k:Int).toNat (0:Int) != lb.getD (k:Int).toNat (0:Int))=true:=hc;rw[g1,g2]at hc;have hc:=bne_iff_ne.1 hc;(repeat(first|apply zae|apply zab|apply zal|apply zad|apply zac|refine zaa hX zak rfl trivial ?_|refine zaa hX zak rfl id ?_|refine zaa hX zak rfl ⟨id,id⟩ ?_));refine zm ⟨.inr rfl,zas rfl trivial rfl rfl ?_⟩;refine (ziq.2 fun e=>hc ?_).symm;have e:la=lb:=congrArg ndI e;subst e;rfl
   ·have hc:(la.getD (k:Int).toNat (0:Int) != lb.getD (k:Int).toNat (0:Int))=false:=hc;rw[g1,g2]at hc;have hc:=bne_eq_false_iff_eq.1 hc;apply zab;refine za (za ?_);refine zaa hX zak rfl ?_ ?_
    ·exact zaZ (by omega)
    refine⟨k+1,⟨hlt,?_⟩,by omega,⟨rfl,rfl,zdM _,trivial⟩,⟨rfl,rfl,trivial⟩,rfl,rfl⟩;rw[zE hlt,zE hlt2,he,hc]
  ·have hb:decide ((k:Int) < ((la.length:Nat):Int))=false:=hb;have hb:=of_decide_eq_false hb;obtain rfl:k=la.length:=by omega
   (repeat(first|apply zae|apply zab|apply zal|apply zad|apply zac|refine zaa hX zak rfl trivial ?_|refine zaa hX zak rfl id ?_|refine zaa hX zak rfl ⟨id,id⟩ ?_));refine zm ⟨.inr rfl,zas rfl trivial rfl rfl ?_⟩;refine (zmq.2 ?_).symm;rw[xe,hlen,xe]at he;rw[he]
noncomputable def zjD (a b:List Nd):Bool:=eqb (.slice nd) a b
theorem zfV {a b:List Nd}:zjD a b=true↔a=b:=zay
theorem zfu {a b:List Nd}:zjD a b=false↔a≠b:=by rw[<-j2,zfV]
noncomputable def zsD:Ctr:={ args:=[.slice nd,.slice nd],pre:=fun _=>[],res:=.bool,own:=none,out:=fun x=>zjD x.1 x.2.1 }
noncomputable def kSame:Kn:={ gmK with C:=[(49,zs9)] }
theorem zbK:KnOk Tryz.prog gmH kSame:=zak.with (.cons zrr .nil)
theorem zlV:yB Tryz.prog gmH 18 zsD:=by
 refine zap (K:=kSame) zbK Tryz.func18 rfl rfl Tryz.call18 rfl (by decide) (by intro h;cases h) ?_;rintro w0 X hX ⟨(la:List Nd),(lb:List Nd),_⟩ hp;change AWP _ _ _ _ _ ⟨[(0,⟨.slice nd,la⟩),(1,⟨.slice nd,lb⟩)],[],0⟩ _;refine AWP.len 0 rfl fun hl=>?_;unfold maxLen at hl;refine za (za ?_);refine zaa hX zbK rfl ?_ ?_
 ·trivial
 refine za (za ?_);refine zaa hX zbK rfl ?_ ?_
 ·trivial
 refine zaf rfl (fun hb=>?_) (fun hb=>?_)
 ·have hb:(((la.length:Nat):Int) != ((lb.length:Nat):Int))=true:=hb;have hb:=bne_iff_ne.1 hb;(repeat(first|apply zae|apply zab|apply zal|apply zad|apply zac|refine zaa hX zbK rfl trivial ?_|refine zaa hX zbK rfl id ?_|refine zaa hX zbK rfl ⟨id,id⟩ ?_));refine zm ⟨.inr rfl,zas rfl trivial rfl rfl ?_⟩;exact (zfu.2 fun e=>hb (by have e:la=lb:=e;rw[e])).symm
 have hb:(((la.length:Nat):Int) != ((lb.length:Nat):Int))=false:=hb;have hb:=bne_eq_false_iff_eq.1 hb;have hlen:la.length=lb.length:=by omega
 apply zab;refine za (za ?_);refine zaa hX zbK rfl ?_ ?_
 ·trivial
 (repeat(first|apply zae|apply zab|apply zac|apply zad));refine yD (ι:=Nat) (fun k=>⟨[(0,⟨.slice nd,la⟩),(1,⟨.slice nd,lb⟩),(5,⟨i64,(k:Int)⟩)],[],0⟩) (fun k=>k≤la.length∧la.take k=lb.take k) (fun k=>la.length - k) 0 ⟨zk _,rfl⟩ ⟨⟨rfl,rfl,rfl,trivial⟩,trivial,rfl,rfl⟩ ?_;rintro k ⟨hk,he⟩;refine za (za ?_);refine zaa hX zbK rfl ?_ ?_
 ·trivial
 refine zaf rfl (fun hb=>?_) (fun hb=>?_)
 ·have hb:decide ((k:Int) < ((la.length:Nat):Int))=true:=hb;have hb:=of_decide_eq_true hb;have hlt:k < la.length:=by omega
  have hlt2:k < lb.length:=by omega
  have z0:(0:Int)≤(k:Int):=by omega
  have z1:(k:Int) < ((la.length:Nat):Int):=by omega
  have z2:(k:Int) < ((lb.length:Nat):Int):=by omega
  have g1:la.getD (k:Int).toNat zNd=la[k]:=zaM hlt;have g2:lb.getD (k:Int).toNat zNd=lb[k]:=zaM hlt2;(repeat(first|apply zae|apply zab|apply zac|apply zad));refine v8 dM hX zbK 10 (by kernel_rfl) rfl rfl ?_ ?_ ?_
  ·repeat'(first|exact trivial|assumption|exact z0|exact z1|exact z2|(refine⟨?_,?_⟩)|(intro _)|exact zb rfl|exact zn _|(simp_all [allP];done))
  ·trivial
  refine zaf rfl (fun hc=>?_) (fun hc=>?_)
  ·have hc:(!eqN (la.getD (k:Int).toNat zNd) (lb.getD (k:Int).toNat zNd))=true:=hc;rw[g1,g2,zs]at hc;have hc:=ziq.1 hc;(repeat(first|apply zae|apply zab|apply zal|apply zad|apply zac|refine zaa hX zbK rfl trivial ?_|refine zaa hX zbK rfl id ?_|refine zaa hX zbK rfl ⟨id,id⟩ ?_));refine zm ⟨.inr rfl,zas rfl trivial rfl rfl ?_⟩;refine (zfu.2 fun e=>hc ?_).symm;have e:la=lb:=e;subst e;rfl
  ·have hc:(!eqN (la.getD (k:Int).toNat zNd) (lb.getD (k:Int).toNat zNd))=false:=hc;rw[g1,g2,yC]at hc;have hc:=zmq.1 hc;apply zab;refine za (za ?_);refine zaa hX zbK rfl ?_ ?_
   ·exact zaZ (by omega)
   refine⟨k+1,⟨hlt,?_⟩,by omega,⟨rfl,rfl,zdM _,trivial⟩,trivial,rfl,rfl⟩;rw[zE hlt,zE hlt2,he,hc]
 ·have hb:decide ((k:Int) < ((la.length:Nat):Int))=false:=hb;have hb:=of_decide_eq_false hb;obtain rfl:k=la.length:=by omega
  (repeat(first|apply zae|apply zab|apply zal|apply zad|apply zac|refine zaa hX zbK rfl trivial ?_|refine zaa hX zbK rfl id ?_|refine zaa hX zbK rfl ⟨id,id⟩ ?_));refine zm ⟨.inr rfl,zas rfl trivial rfl rfl ?_⟩;refine (zfV.2 ?_).symm;rw[xe,hlen,xe]at he;exact he
noncomputable def zmT (a b:List De):Bool:=eqb (.slice de) a b
end Go.Proofs.YtpeaigpfddalcaaGreatDoor
