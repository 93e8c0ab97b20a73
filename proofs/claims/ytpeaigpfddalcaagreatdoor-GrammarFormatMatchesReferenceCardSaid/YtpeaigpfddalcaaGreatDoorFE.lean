/-
  Texts of this claim, joined: what the statement's proof uses.
-/
import Derived.Test.YtpeaigpfddalcaaGreatDoorFD
set_option linter.unusedSimpArgs false
set_option linter.unusedVariables false
set_option maxRecDepth 100000
open Array renaming getD_eq_getD_getElem? -> zO,getElem?_eq_getElem -> yn,getElem?_eq_some_iff -> zp,getElem?_setIfInBounds -> xP,replicate_succ -> vw,replicate_zero -> vy,toList -> vE
open Bool renaming and_eq_true -> zf,eq_iff_iff -> zL,not_eq_true -> uQ,not_eq_true' -> zr,or_eq_true -> zY
open ByteArray renaming data_extract -> j0,ext -> wl,mk -> vL
open Go renaming Deferred -> jd,FuncId -> zT,Operand -> zI,TypeId -> zq,Value -> zi,World -> zj,wpIn_mono -> yR
open Go.Ending renaming returned -> wb
open Go.Extern.BytealgIndexByte renaming indexByte -> uu
open Go.Fence renaming wide -> yD
open Go.Lib renaming indexByte -> xy
open Go.Oper renaming semAt_some -> jU
open Go.Operand renaming const -> ku
open Go.Proofs.YtpeaigpfddalcaaGreatDoor renaming CtrOk -> yk
open Go.Proofs.YtpeaigpfddalcaaGreatDoor.AL renaming all -> zV,fit -> qJ,guardF -> yp,guardT -> xf,nil -> yd,own -> yq,step -> jK,take -> yh
open Go.Proofs.YtpeaigpfddalcaaGreatDoor.AWP renaming draw -> qY,frz -> qx,go -> za,len -> ju,loop -> yi,ordersA -> jD,ret -> zl,via -> xM
open Go.Proofs.YtpeaigpfddalcaaGreatDoor.AllN renaming cons -> jr,nil -> jT
open Go.Proofs.YtpeaigpfddalcaaGreatDoor.OrdA renaming last -> jJ
open Go.Proofs.YtpeaigpfddalcaaGreatDoor.Ownr renaming plain -> qs
open Go.Proofs.YtpeaigpfddalcaaGreatDoor.Sim renaming nilLeaf -> kW
open Go.Proofs.YtpeaigpfddalcaaGreatDoor.StepA renaming eval -> xp
open Go.Proofs.YtpeaigpfddalcaaGreatDoor.Tr renaming flat -> ve,len_flat -> jE,size -> vK
open Go.Region renaming wanted -> zG
open Go.RowKit renaming Below -> yW
open Go.RowKit.Below renaming heap_setCell -> xF,refl -> zP
open Go.StepsIn renaming trans -> k8
open Go.Value renaming int -> yB,slice -> uZ
open Go.Value.agg renaming inj -> kq
open Go.World renaming alloc_heap_new -> xE,putObj_heap_other -> xo,putObj_heap_same -> qu
open Int renaming le_refl -> xL,natCast_nonneg -> zd,toNat_natCast -> zz,toNat_of_nonneg -> xz
open List renaming append_assoc -> zu,append_nil -> zS,append_toArray -> vB,cons_append -> xU,drop_eq_getElem_cons -> yG,drop_length -> jf,getD_eq_getElem?_getD -> zx,getElem?_eq_getElem -> zA,getElem?_eq_some_iff -> zD,getElem_mem -> yZ,length -> zg,length_append -> zh,length_cons -> zs,length_drop -> y9,length_nil -> ya,length_singleton -> xi,length_take -> yC,map_append -> xQ,mem_append -> yT,mem_cons -> yg,mem_singleton -> zy,nil_append -> yV,push_toArray -> kj,size_toArray -> qp,take_length -> xx,take_succ_eq_append_getElem -> zH
open Nat renaming blt -> zW,gcd -> yS,lcm -> xR,le_of_ble_eq_true -> zb,le_refl -> zk,le_trans -> zU,lt_of_lt_of_le -> zK,not_lt_zero -> yN,zero_le -> zn
open Go Go.RowKit
namespace Go.Proofs.YtpeaigpfddalcaaGreatDoor
section
set_option maxRecDepth 10000
set_option maxRecDepth 10000
set_option maxHeartbeats 1000000 in
theorem zrJ:yk Tryz.prog gmG 105 zsf:=by
 refine zal (K:=kCv2) zbW Tryz.func105 rfl rfl Tryz.call105 rfl (by decide) (by intro h;cases h) ?_;rintro w0 X hX ⟨(c:Cal),_⟩ hp;obtain⟨(ep:Int),(ms:List Int),(lp:Int),(rs:List Lr),⟨⟩⟩:=c;obtain⟨⟨e0,e1⟩,⟨n0,n1⟩,⟨l0,l1⟩,r0,lr,hm,hper⟩:zgE (ep,ms,lp,rs,()):=hp;have e0:0≤ep:=e0;have e1:ep≤1048576:=e1;have n0:1≤ms.length:=n0;have n1:ms.length≤16:=n1;have l0: -1≤lp:=l0;have l1:lp < (ms.length:Int):=l1;have r0:rs.length≤16:=r0;have lr:lp= -1->rs=[]:=lr;have hm:∀ m∈ms,1≤m∧m≤40:=hm;have hper:(perS 1 rs).2=true:=hper;change AWP _ _ _ _ _ ⟨[(0,⟨cal,(ep,ms,lp,rs,())⟩)],[],0⟩ _;refine za (za ?_);refine zaa hX zbW rfl ?_ ?_
 ·trivial
 refine za (za ?_);refine zaa hX zbW rfl ?_ ?_
 ·repeat'(first|exact trivial|assumption|(refine⟨?_,?_⟩)|(intro _)|exact zb rfl|exact zd _|(simp_all [allP];done))
 have t1:(bif (bif (bif (bif decide (ep < 0) then true else decide (ep > 1048576)) then true else decide (((ms.length:Nat):Int) < 1)) then true else decide (((ms.length:Nat):Int) > 16)) then true else decide (((rs.length:Nat):Int) > 16))=false:=
  zeZ (zeZ (zeZ (zeZ (decide_eq_false (by omega)) (decide_eq_false (by omega))) (decide_eq_false (by omega))) (decide_eq_false (by omega))) (decide_eq_false (by omega))
 refine zae rfl (fun hc=>?_) (fun _=>?_)
 ·have hc:=t1.symm.trans hc;cases hc
 apply zab;refine za (za ?_);refine zaa hX zbW rfl ?_ ?_
 ·repeat'(first|exact trivial|assumption|(refine⟨?_,?_⟩)|(intro _)|exact zb rfl|exact zd _|(simp_all [allP];done))
 have t2:(bif (bif decide (lp < -1) then true else decide (lp≥((ms.length:Nat):Int))) then true else (bif (lp== -1) then decide (((rs.length:Nat):Int) > 0) else false))=false:=by
  refine zeZ (zeZ (decide_eq_false (by omega)) (decide_eq_false (by omega))) ?_;by_cases h:lp= -1
  ·rw[lr h];cases (lp== -1)<;>rfl
  ·rw[beq_eq_false_iff_ne.2 h];rfl
 refine zae rfl (fun hc=>?_) (fun _=>?_)
 ·have hc:=t2.symm.trans hc;cases hc
 apply zab;refine za (za ?_);refine zaa hX zbW rfl ?_ ?_
 ·trivial
 (repeat(first|apply zaf|apply zab|apply zac|apply zad));refine yi (ι:=Nat) (fun i=>⟨[(1,⟨.optr cal,⟨0,cal,.here⟩⟩),(3,⟨i64,(i:Int)⟩)],[(0,some (.box cal (ep,ms,lp,rs,())))],1⟩) (fun i=>i≤ms.length) (fun i=>ms.length - i) 0 (zn _) ⟨⟨rfl,rfl,trivial⟩,⟨rfl,trivial⟩,rfl,rfl⟩ ?_
 ·intro i hi;refine za (za ?_);refine zaa hX zbW rfl ?_ ?_
  ·trivial
  refine zae rfl (fun hb=>?_) (fun hb=>?_)
  ·have hb:decide ((i:Int) < ((ms.length:Nat):Int))=true:=hb;have hb:=of_decide_eq_true hb;have z0:(0:Int)≤(i:Int):=by omega
   have z2:((i:Int)).toNat < ms.length:=by omega
   refine za (za ?_);refine zaa hX zbW rfl ?_ ?_
   ·repeat'(first|exact trivial|assumption|exact z0|exact hb|exact z2|(refine⟨?_,?_⟩)|(intro _)|exact zb rfl|exact zd _|(simp_all [allP];done))
   have hget:ms.getD ((i:Int)).toNat 0∈ms:=by
    rw[zx,zA z2];exact yZ _
   have hmm:=hm _ hget;have t3:(bif decide (ms.getD ((i:Int)).toNat 0 < 1) then true else decide (ms.getD ((i:Int)).toNat 0 > 40))=false:=zeZ (decide_eq_false (by omega)) (decide_eq_false (by omega));refine zae rfl (fun hc=>?_) (fun _=>?_)
   ·have hc:=t3.symm.trans hc;cases hc
   apply zab;refine za (za ?_);refine zaa hX zbW rfl ?_ ?_
   ·exact zaF (by omega)
   exact⟨i+1,by omega,by omega,⟨rfl,zbY _,trivial⟩,⟨rfl,trivial⟩,rfl,rfl⟩
  ·apply zad;refine za (za ?_);refine zaa hX zbW rfl ?_ ?_
   ·trivial
   refine za (za ?_);refine zaa hX zbW rfl ?_ ?_
   ·trivial
   (repeat(first|apply zaf|apply zab|apply zac|apply zad));refine yi (ι:=Nat×Nat) (fun p=>⟨[(1,⟨.optr cal,⟨0,cal,.here⟩⟩),(4,⟨i64,(p.2:Int)⟩),(5,⟨i64,(p.1:Int)⟩)],[(0,some (.box cal (ep,ms,lp,rs,())))],1⟩) (fun p=>p.1≤rs.length∧(1≤p.2∧p.2≤400)∧(perS p.2 (rs.drop p.1)).2=true) (fun p=>rs.length - p.1) (0,1) ⟨zn _,⟨by decide,by decide⟩,hper⟩ ⟨⟨rfl,rfl,rfl,trivial⟩,⟨rfl,trivial⟩,rfl,rfl⟩ ?_;rintro ⟨k,y⟩ ⟨hk,⟨hy1,hy2⟩,hr⟩;have hk:k≤rs.length:=hk;have hy1:1≤y:=hy1;have hy2:y≤400:=hy2;have hr:(perS y (rs.drop k)).2=true:=hr;change AWP _ _ _ _ _ ⟨[(1,⟨.optr cal,⟨0,cal,.here⟩⟩),(4,⟨i64,(y:Int)⟩),(5,⟨i64,(k:Int)⟩)],[(0,some (.box cal (ep,ms,lp,rs,())))],1⟩ _;refine za (za ?_);refine zaa hX zbW rfl ?_ ?_
   ·trivial
   refine zae rfl (fun hb=>?_) (fun hb=>?_)
   ·have hb:decide ((k:Int) < ((rs.length:Nat):Int))=true:=hb;have hb:=of_decide_eq_true hb;have hlt:k < rs.length:=by omega
    have z0:(0:Int)≤(k:Int):=by omega
    have z2:((k:Int)).toNat < rs.length:=by omega
    have hdr:rs.drop k=rs[k]::rs.drop (k+1):=yG hlt;have hget:rs.getD ((k:Int)).toNat zLr=rs[k]:=by rw[zz,zx,zA hlt];rfl
    rw[hdr]at hr;generalize hn:rs.drop (k+1)=tl at *;generalize rs[k]=q at *;unfold perS at hr;have hbad:zk7 q=false:=by
     cases h:zk7 q with
     |false=>rfl
     |true=>rw[if_pos h]at hr;cases hr
    rw[hbad,if_neg (by decide)]at hr;have hlcm:¬ 400 < xR y q.1.toNat:=fun h=>by rw[if_pos h]at hr;cases hr
    rw[if_neg hlcm]at hr;unfold zk7 at hbad;simp only[Bool.or_eq_false_iff,decide_eq_false_iff_not]at hbad;obtain⟨⟨⟨b1,b2⟩,b3⟩,b4⟩:=hbad;refine za (za ?_);refine zaa hX zbW rfl ?_ ?_
    ·repeat'(first|exact trivial|assumption|exact z0|exact hb|exact z2|(refine⟨?_,?_⟩)|(intro _)|exact zb rfl|exact zd _|(simp_all [allP];done))
    refine zap (σ':=⟨[(1,⟨.optr cal,⟨0,cal,.here⟩⟩),(4,⟨i64,(y:Int)⟩),(5,⟨i64,(k:Int)⟩),(6,⟨.optr lru,⟨1,lru,.here⟩⟩)],[(0,some (.box cal (ep,ms,lp,rs,()))),(1,some (.box lru q))],2⟩) ⟨⟨rfl,rfl,rfl,rfl,trivial⟩,⟨rfl,by show some (OObj.box lru (rs.getD ((k:Int)).toNat zLr))=_;rw[hget],trivial⟩,rfl,rfl⟩ ?_;obtain⟨(m:Int),(ph:Int),(fl:Bool),⟨⟩⟩:=q;have b1:¬ m < 1:=b1;have b2:¬ m > 400:=b2;have b3:¬ ph < 0:=b3;have b4:¬ ph≥m:=b4;have hr:(perS (xR y m.toNat) tl).2=true:=hr;have hlcm:¬ 400 < xR y m.toNat:=hlcm;refine za (za ?_);refine zaa hX zbW rfl ?_ ?_
    ·repeat'(first|exact trivial|assumption|(refine⟨?_,?_⟩)|(intro _)|exact zb rfl|exact zd _|(simp_all [allP];done))
    have t4:(bif (bif (bif decide (m < 1) then true else decide (m > 400)) then true else decide (ph < 0)) then true else decide (ph≥m))=false:=zeZ (zeZ (zeZ (decide_eq_false b1) (decide_eq_false b2)) (decide_eq_false b3)) (decide_eq_false b4);refine zae rfl (fun hc=>?_) (fun _=>?_)
    ·have hc:=t4.symm.trans hc;cases hc
    apply zab;have hg:0 < yS y m.toNat:=Nat.gcd_pos_of_pos_left _ (by omega);have hq:((y:Int)).tdiv ((yS ((y:Int)).toNat m.toNat:Nat):Int)=((y / yS y m.toNat:Nat):Int):=by
     rw[zz];exact Int.ofNat_tdiv ..
    have hmul:((y / yS y m.toNat:Nat):Int) * m=((xR y m.toNat:Nat):Int):=by
     have:=zle (x:=y) (y:=m.toNat) hy1;rw[Nat.gcd_comm]at this;rw[<-this,Int.natCast_mul,xz (by omega:0≤m)]
    have hle:y / yS y m.toNat≤y:=Nat.div_le_self ..;have c1:(0:Int)≤(y:Int):=by omega
    have c2:(y:Int)≤1000000:=by omega
    have c3:0≤m:=by omega
    have c4:m≤1000000:=by omega
    have c5:((yS ((y:Int)).toNat m.toNat:Nat):Int)≠0:=by rw[zz];omega
    have c6:inR .i64 (((y:Int)).tdiv ((yS ((y:Int)).toNat m.toNat:Nat):Int)):=by rw[hq];generalize y / yS y m.toNat=z at hle;exact zam (by omega) (by omega)
    have c7:inR .i64 (((y:Int)).tdiv ((yS ((y:Int)).toNat m.toNat:Nat):Int) * m):=by rw[hq,hmul];exact zam (by omega) (by omega)
    (repeat(first|apply zaf|apply zab|apply zac|apply zad));refine qY dM hX zbW 9 (by kernel_rfl) rfl rfl ?_ ?_ ?_
    ·repeat'(first|exact trivial|assumption|exact c1|exact c2|exact c3|exact c4|exact c5|exact c6|exact c7|(refine⟨?_,?_⟩)|(intro _)|exact zb rfl|exact zd _|(simp_all [allP];done))
    ·trivial
    refine zap (σ':=⟨[(1,⟨.optr cal,⟨0,cal,.here⟩⟩),(4,⟨i64,((xR y m.toNat:Nat):Int)⟩),(5,⟨i64,(k:Int)⟩)],[(0,some (.box cal (ep,ms,lp,rs,())))],2⟩) ⟨⟨rfl,vI64 (by show ((y:Int)).tdiv ((yS ((y:Int)).toNat m.toNat:Nat):Int) * m=_;rw[hq,hmul]),rfl,trivial⟩,⟨rfl,trivial⟩,rfl,rfl⟩ ?_;refine za (za ?_);refine zaa hX zbW rfl ?_ ?_
    ·trivial
    refine zae rfl (fun hc=>?_) (fun _=>?_)
    ·have hc:decide (((xR y m.toNat:Nat):Int) > 400)=true:=hc;have:=of_decide_eq_true hc;omega
    apply zab;refine za (za ?_);refine zaa hX zbW rfl ?_ ?_
    ·exact zaF (by omega)
    have hl1:1≤xR y m.toNat:=Nat.lcm_pos (by omega) (by omega);exact⟨(k+1,xR y m.toNat),⟨hlt,⟨hl1,by show xR y m.toNat≤400;omega⟩,by show (perS (xR y m.toNat) (rs.drop (k+1))).2=true;rw[hn];exact hr⟩,by show rs.length - (k+1) < rs.length - k;omega,⟨rfl,rfl,zbY _,trivial⟩,⟨rfl,trivial⟩,rfl,rfl⟩
   ·apply zad;(repeat(first|apply zaf|apply zab|apply zai|apply zad|apply zac|refine zaa hX zbW rfl trivial ?_|refine zaa hX zbW rfl id ?_|refine zaa hX zbW rfl ⟨id,id⟩ ?_));exact zl ⟨.inr rfl,zas rfl trivial rfl rfl rfl⟩
def zpJ:Ctr:={ args:=[],pre:=fun _=>[],res:=ints,own:=none,out:=fun _=>znU }
theorem znV:yk Tryz.prog gmH 126 zpJ:=by
 refine zal (K:=gmK) zaj Tryz.func126 rfl rfl Tryz.call126 rfl (by decide) (by intro h;cases h) ?_;rintro w0 X hX _ hp;change AWP _ _ _ _ _ ⟨[],[],0⟩ _;refine za (za ?_);refine zaa hX zaj rfl ?_ ?_
 ·trivial
 refine za (za ?_);refine zaa hX zaj rfl ?_ ?_
 ·trivial
 refine qx hX 0 ?_;refine zl ⟨.inr rfl,zas rfl trivial rfl rfl ?_⟩;rfl
def kKn2:Kn:={ gmK with C:=[(126,zpJ)],H:=[63] }
theorem zcm:KnOk Tryz.prog gmH kKn2:=⟨zgv,zgu,.cons znV .nil,zhv,RsOk.nil⟩
theorem zng (x:Option Addr) (y z:Nat):Tryz.prog.built 63 [(0,.int .i64 227021),(1,.slice x y z),(2,.int .i64 11)]=some #[.int .i64 227021,.slice x y z,.int .i64 11,.slice none 0 0]:=by kernel_rfl
set_option maxHeartbeats 1000000 in
theorem zpa:yk Tryz.prog gmH 75 ziF:=by
 refine zal (K:=kKn2) zcm Tryz.func75 rfl rfl Tryz.call75 rfl (by decide) (by intro h;cases h) ?_;rintro w0 X hX ⟨(k:Int),_⟩ hp;obtain⟨h0,h1⟩:0≤k∧k≤2:=by
  simp only[ziF,allP]at hp
  simpa using hp
 change AWP _ _ _ _ _ ⟨[(0,⟨i64,k⟩)],[],0⟩ _;refine za (za ?_);refine zaa hX zcm rfl ?_ ?_
 ·trivial
 refine za (za ?_);refine zaa hX zcm rfl ?_ ?_
 ·trivial
 apply zac;refine za (za ?_);refine zaa hX zcm rfl ?_ ?_
 ·trivial
 refine zae rfl (fun hb=>?_) (fun hb=>?_)
 ·have hb:(k==0)=true:=hb;obtain rfl:=beq_iff_eq.1 hb;refine za (za ?_);refine zaa hX zcm rfl ?_ ?_
  ·trivial
  refine zl ⟨.inr rfl,za1 (by decide) rfl rfl trivial ?_⟩;rfl
 have hb:(k==0)=false:=hb;have hk0:k≠0:=fun e=>by rw[e]at hb;cases hb
 refine za (za ?_);refine zaa hX zcm rfl ?_ ?_
 ·trivial
 refine zae rfl (fun hb=>?_) (fun hb=>?_)
 ·have hb:(k==1)=true:=hb;obtain rfl:=beq_iff_eq.1 hb;refine za (za ?_);refine zaa hX zcm rfl ?_ ?_
  ·trivial
  refine zl ⟨.inr rfl,za1 (by decide) rfl rfl trivial ?_⟩;rfl
 have hb:(k==1)=false:=hb;have hk1:k≠1:=fun e=>by rw[e]at hb;cases hb
 refine za (za ?_);refine zaa hX zcm rfl ?_ ?_
 ·trivial
 refine zae rfl (fun hb=>?_) (fun hb=>?_)
 ·have hb:(k==2)=true:=hb;obtain rfl:=beq_iff_eq.1 hb;(repeat(first|apply zaf|apply zab|apply zac|apply zad));refine zak ?_;refine yh 1 hX zcm rfl trivial ?_;refine AL.hand rfl (by intro c e;cases e) fun β a w hs=>?_;have hu:a.tmps.getD 24 undef=β 1:=hs.fr 24;obtain⟨x,y,z,hxyz⟩:∃ x y z,β 1= .slice x y z:=by
   obtain⟨cs,_,hro,_⟩:=hs.own 1 _ rfl;rcases hro.2 with ⟨e,_⟩|⟨g,cap,cur,e,_⟩
   ·exact⟨_,_,_,e⟩
   ·exact⟨_,_,_,e⟩
  rw[hxyz]at hu;refine zkK (v:=⟨.hcons i64 (.hcons (.obuf i64) (.hcons i64 (.hcons .lit .unit))),((227021:Int),(1:Nat),(11:Int),uZ none 0 0,())⟩) rfl rfl (by decide) (N:=fun σ'=>AL _ w0 _ _ _ _ σ' _) ?_ hs (u:=.agg #[.int .i64 227021,.slice x y z,.int .i64 11,.slice none 0 0]) ?_ ?_
  rotate_left
  ·unfold execOp;refine zeb ?_;rw[show (#[(0,ku (yB .i64 227021)),(1,Operand.tmp 24),(2,ku (yB .i64 11))]:Array (Nat×zI)).map (fun p=>(p.1,a.eval p.2))= #[(0,yB .i64 227021),(1,uZ x y z),(2,yB .i64 11)] from by
    have e:a.eval (.tmp 24)= .slice x y z:=hu;simp[e];exact⟨rfl,rfl⟩]
   exact run_build w _ _ _ (zng x y z)
  ·refine⟨_,[.slice x y z,.int .i64 11,.slice none 0 0],rfl,rfl,(RepD.scalar (t:=.int .i64) rfl).2 rfl,?_⟩;refine⟨_,[.int .i64 11,.slice none 0 0],rfl,rfl,hxyz.symm,?_⟩;refine⟨_,[.slice none 0 0],rfl,rfl,(RepD.scalar (t:=.int .i64) rfl).2 rfl,?_⟩;refine⟨_,[],rfl,rfl,rfl,?_⟩;exact (RepD.agg rfl).2 ⟨[],rfl,rfl⟩
  refine zV hX zcm rfl trivial ?_;refine AWP.nilLeaf 2 3 129 lru rfl rfl rfl ?_;refine za (za ?_);refine zaa hX zcm rfl ?_ ?_
  ·trivial
  refine qx hX 5 ?_;refine za (za ?_);refine zaa hX zcm rfl ?_ ?_
  ·trivial
  (repeat(first|apply zaf|apply zab|apply zac|apply zad));refine yi (ι:=Nat) (fun j=>⟨[(2,⟨.hptr,((0:Nat),(0:Nat))⟩),(4,⟨.hptr,((2:Nat),(0:Nat))⟩),(5,⟨ints,zc2⟩),(6,⟨i64,(j:Int)⟩)],[(0,some (.hbox 63 [⟨i64,(0:Int)⟩,⟨.lit,.slice none 0 0⟩,⟨i64,(0:Int)⟩,⟨.lit,.slice none 0 0⟩])),(1,some (.buf 3 i64 zgq)),(2,some (.hbox 63 [⟨i64,(227021:Int)⟩,⟨.obuf i64,(1:Nat)⟩,⟨i64,(11:Int)⟩,⟨.obuf lru,(3:Nat)⟩])),(3,some (.buf 129 lru ((zc2.take j).map fun x=>(30,x,true,()))))],4⟩) (fun j=>j≤11) (fun j=>11 - j) 0 (zn _) ⟨⟨rfl,rfl,rfl,rfl,trivial⟩,⟨rfl,rfl,rfl,rfl,trivial⟩,rfl,rfl⟩ ?_;intro j hj;refine za (za ?_);refine zaa hX zcm rfl ?_ ?_
  ·trivial
  refine zae rfl (fun hb=>?_) (fun hb=>?_)
  ·have hb:decide ((j:Int) < ((zc2.length:Nat):Int))=true:=hb;have hb:=of_decide_eq_true hb;have hlt:j < zc2.length:=by omega
   have z0:(0:Int)≤(j:Int):=by omega
   have hl:((zc2.take j).map fun x=>((30,x,true,()):Lr)).length+1≤1000000000:=by rw[List.length_map,yC];omega
   have z2:((j:Int)).toNat < zc2.length:=by omega
   (repeat(first|apply zaf|apply zab|apply zac|apply zad));refine AWP.drawN dM hX zcm 8 (by kernel_rfl) rfl rfl ?_ ?_ ?_
   ·repeat'(first|exact trivial|assumption|exact z0|exact hb|(refine⟨?_,?_⟩)|(intro _)|exact zb rfl|exact zd _|(simp_all [allP];done))
   ·exact hl
   refine za (za ?_);refine zaa hX zcm rfl ?_ ?_
   ·exact zaF (by omega)
   have h11:zc2.length=11:=rfl;refine⟨j+1,by omega,by omega,⟨rfl,rfl,rfl,zbY _,trivial⟩,⟨rfl,rfl,rfl,bufL ?_,trivial⟩,rfl,rfl⟩;rw[zH hlt,xQ];show _++ [((30:Int),zc2.getD (j:Int).toNat (0:Int),true,())]=_;rw[za4 hlt];rfl
  ·have hb:decide ((j:Int) < ((zc2.length:Nat):Int))=false:=hb;have hb:=of_decide_eq_false hb;have h11:zc2.length=11:=rfl;obtain rfl:j=11:=by omega
   apply zad;refine AWP.frzL hX 2 1 ?_;refine AWP.frzL hX 2 3 ?_;refine za (za ?_);refine zaa hX zcm rfl ?_ ?_
   ·trivial
   refine zl ⟨.inr rfl,za1 (by decide) rfl rfl trivial ?_⟩;rfl
 ·have hb:(k==2)=false:=hb;exact absurd (beq_iff_eq.2 (by omega:k=2)) (by rw[hb];decide)
theorem zji:∀ k:Int,0≤k∧k≤2->zgE (zgr k):=fun k hk=>by
 rcases (show k=0∨k=1∨k=2 by omega) with rfl|rfl|rfl
 ·exact⟨by decide,by decide,by decide,by decide,fun h=>absurd h (by decide),by decide,by decide+kernel⟩
 ·exact⟨by decide,by decide,by decide,by decide,fun h=>absurd h (by decide),by decide,by decide+kernel⟩
 ·exact⟨by decide,by decide,by decide,by decide,fun h=>absurd h (by decide),by decide,by decide+kernel⟩
def zdI:List Cal:=[zgr 0,zgr 1,zgr 2]
def zpV:Ctr:={ args:=[],pre:=fun _=>[],res:=.slice cal,own:=none,out:=fun _=>zdI }
def kCl7:Kn:={ gmK with C:=[(75,ziF)] }
theorem zdp:KnOk Tryz.prog gmH kCl7:=zaj.with (.cons zpa .nil)
theorem bufC2 {te:zq} {x y:List Cal} (h:x=y):some (OObj.buf te cal x)=some (OObj.buf te cal y):=by rw[h]
theorem zrH:yk Tryz.prog gmH 35 zpV:=by
 refine zal (K:=kCl7) zdp Tryz.func35 rfl rfl Tryz.call35 rfl (by decide) (by intro h;cases h) ?_;rintro w0 X hX _ hp;change AWP _ _ _ _ _ ⟨[],[],0⟩ _;refine za (za ?_);refine zaa hX zdp rfl ?_ ?_
 ·trivial
 refine za (za ?_);refine zaa hX zdp rfl ?_ ?_
 ·trivial
 refine AWP.nilBuf hX 1 63 cal rfl rfl rfl ?_;refine za (za ?_);refine zaa hX zdp rfl ?_ ?_
 ·trivial
 (repeat(first|apply zaf|apply zab|apply zac|apply zad));refine yi (ι:=Nat) (fun i=>⟨[(1,⟨.obuf cal,(0:Nat)⟩),(2,⟨i64,(i:Int)⟩)],[(0,some (.buf 63 cal (zdI.take i)))],1⟩) (fun i=>i≤3) (fun i=>3 - i) 0 (zn _) ⟨⟨rfl,rfl,trivial⟩,⟨rfl,trivial⟩,rfl,rfl⟩ ?_;intro i hi;refine za (za ?_);refine zaa hX zdp rfl ?_ ?_
 ·trivial
 refine zae rfl (fun hb=>?_) (fun hb=>?_)
 ·have hb:decide ((i:Int) < 3)=true:=hb;have hb:=of_decide_eq_true hb;have z0:(0:Int)≤(i:Int):=by omega
  have z1:(i:Int)≤2:=by omega
  have hl:(zdI.take i).length+1≤1000000000:=by rw[yC];omega
  refine za (za ?_);refine zaa hX zdp rfl ?_ ?_
  ·repeat'(first|exact trivial|assumption|exact z0|exact z1|(refine⟨?_,?_⟩)|(intro _)|exact zb rfl|exact zd _|(simp_all [allP];done))
  refine za (za ?_);refine zaa hX zdp rfl ?_ ?_
  ·exact hl
  refine za (za ?_);refine zaa hX zdp rfl ?_ ?_
  ·exact zaF (by omega)
  refine⟨i+1,by omega,by omega,⟨rfl,zbY _,trivial⟩,⟨bufC2 ?_,trivial⟩,rfl,rfl⟩;rcases (show i=0∨i=1∨i=2 by omega) with rfl|rfl|rfl<;>rfl
 ·have hb:decide ((i:Int) < 3)=false:=hb;have hb:=of_decide_eq_false hb;obtain rfl:i=3:=by omega
  apply zad;refine qx hX 1 ?_;(repeat(first|apply zaf|apply zab|apply zai|apply zad|apply zac|refine zaa hX zdp rfl trivial ?_|refine zaa hX zdp rfl id ?_|refine zaa hX zdp rfl ⟨id,id⟩ ?_));refine zl ⟨.inr rfl,zas rfl trivial rfl rfl ?_⟩;rfl
def cVal6:Ctr:={ args:=[.slice nd,.slice cal],pre:=fun x=>[x.2.1=zdI],res:=i64,own:=none,out:=fun x=>zbr x.1 }
def k6v:Kn:={ gmK with C:=[(104,zse),(105,zsf),(106,zgx)] }
theorem zbf:KnOk Tryz.prog gmH k6v:=zaj.with (.cons zrn <| .cons zrJ.lift <| .cons zlH .nil)
theorem zt0 {r:List Nd} {i:Nat} (hi:i < r.length) (h:bigN (zao r i)=true):r.any bigN=true:=by
 rw[List.any_eq_true];refine⟨r[i],yZ hi,?_⟩;rw[zdN,zx,zA hi]at h;exact h
set_option maxHeartbeats 1000000 in
theorem zsm:yk Tryz.prog gmH 63 cVal6:=by
 refine zal (K:=k6v) zbf Tryz.func63 rfl rfl Tryz.call63 rfl (by decide) (by intro h;cases h) ?_;rintro w0 X hX ⟨(r:List Nd),(cs:List Cal),_⟩ hp;have hcs:cs=zdI:=hp;subst hcs;change AWP _ _ _ _ _ ⟨[(0,⟨.slice nd,r⟩),(1,⟨.slice cal,zdI⟩)],[],0⟩ _;refine ju 0 rfl fun hl=>?_;unfold maxLen at hl;refine za (za ?_);refine zaa hX zbf rfl ?_ ?_
 ·trivial
 refine za (za ?_);refine zaa hX zbf rfl ?_ ?_
 ·trivial
 refine zae rfl (fun hb=>?_) (fun hb=>?_)
 ·have hb:decide (((r.length:Nat):Int) > 64)=true:=hb;have hb:=of_decide_eq_true hb;(repeat(first|apply zaf|apply zab|apply zai|apply zad|apply zac|refine zaa hX zbf rfl trivial ?_|refine zaa hX zbf rfl id ?_|refine zaa hX zbf rfl ⟨id,id⟩ ?_));refine zl ⟨.inr rfl,zas rfl trivial rfl rfl ?_⟩;show (2:Int)=zbr r;unfold zbr;rw[if_pos (.inl (by omega))]
 have hb:decide (((r.length:Nat):Int) > 64)=false:=hb;have hb:=of_decide_eq_false hb;have hl64:r.length≤64:=by omega
 apply zab;refine za (za ?_);refine zaa hX zbf rfl ?_ ?_
 ·trivial
 (repeat(first|apply zaf|apply zab|apply zac|apply zad));refine yi (ι:=Nat) (fun i=>⟨[(0,⟨.slice nd,r⟩),(1,⟨.slice cal,zdI⟩),(5,⟨i64,(i:Int)⟩)],[],0⟩) (fun i=>i≤r.length∧∀ j,j < i->bigN (zao r j)=false) (fun i=>r.length - i) 0 ⟨zn _,fun j hj=>absurd hj (yN _)⟩ ⟨⟨rfl,rfl,rfl,trivial⟩,trivial,rfl,rfl⟩ ?_;rintro i ⟨hi,hn⟩;refine za (za ?_);refine zaa hX zbf rfl ?_ ?_
 ·trivial
 refine zae rfl (fun hb=>?_) (fun hb=>?_)
 ·have hb:decide ((i:Int) < (r.length:Nat))=true:=hb;have hb:=of_decide_eq_true hb;have hlt:i < r.length:=by omega
  have z0:(0:Int)≤(i:Int):=by omega
  have z2:((i:Int)).toNat < r.length:=by omega
  refine za (za ?_);refine zaa hX zbf rfl ?_ ?_
  ·repeat'(first|exact trivial|assumption|exact z0|exact hb|exact z2|(refine⟨?_,?_⟩)|(intro _)|exact zb rfl|exact zd _|(simp_all [allP];done))
  have hq:(bif decide ((((ndI (zao r i)).length:Nat):Int) > 64) then true else decide ((((ndS (zao r i)).length:Nat):Int) > 32))=bigN (zao r i):=by
   rw[b_or];unfold bigN
   congr 1<;>(rw[zL,decide_eq_true_iff,decide_eq_true_iff];first|(show _↔_;omega)|omega)
  refine zae rfl (fun hc=>?_) (fun hc=>?_)
  ·have hc:=hq.symm.trans hc;(repeat(first|apply zaf|apply zab|apply zai|apply zad|apply zac|refine zaa hX zbf rfl trivial ?_|refine zaa hX zbf rfl id ?_|refine zaa hX zbf rfl ⟨id,id⟩ ?_));refine zl ⟨.inr rfl,zas rfl trivial rfl rfl ?_⟩;show (2:Int)=zbr r;unfold zbr;rw[if_pos (.inr (zt0 hlt hc))]
  ·have hc:=hq.symm.trans hc;apply zab;refine za (za ?_);refine zaa hX zbf rfl ?_ ?_
   ·exact zaF (by omega)
   exact⟨i+1,⟨hlt,fun j hj=>by
    by_cases e:j=i
    ·rw[e];exact hc
    ·exact hn j (by omega)⟩,by omega,⟨rfl,rfl,zbY _,trivial⟩,trivial,rfl,rfl⟩
 have hb:decide ((i:Int) < (r.length:Nat))=false:=hb;have hb:=of_decide_eq_false hb;obtain rfl:i=r.length:=by omega
 have hbig:r.any bigN=false:=by
  rw[List.any_eq_false];intro x hx;obtain⟨j,hj,rfl⟩:=List.mem_iff_getElem.1 hx;have:=hn j hj;rw[zdN,zx,zA hj]at this;rw[show r[j]=(some r[j]).getD zNd from rfl,this];decide
 have hV:zbr r=if wfS r=true then 0 else 1:=by
  unfold zbr;rw[if_neg (by rw[hbig];rintro (h|h)<;>first|omega|cases h)]
 clear hn hi;apply zad;refine za (za ?_);refine zaa hX zbf rfl ?_ ?_
 ·repeat'(first|exact trivial|assumption|exact hl64|(refine⟨?_,?_⟩)|(intro _)|exact zb rfl|exact zd _|(simp_all [allP];done))
 have hc3:(((zdI.length:Nat):Int))=3:=rfl;refine zap (σ':=⟨[(0,⟨.slice nd,r⟩),(1,⟨.slice cal,zdI⟩),(6,⟨.bool,wfS r⟩)],[],0⟩) ⟨⟨rfl,rfl,zco (by show (bif wfS r then decide (((zdI.length:Nat):Int)≤3) else false)=wfS r;rw[hc3];cases wfS r<;>rfl),trivial⟩,trivial,rfl,rfl⟩ ?_;refine za (za ?_);refine zaa hX zbf rfl ?_ ?_
 ·trivial
 cases hw:wfS r with
 |false=>
  rw[hw]at hV;(repeat(first|apply zaf|apply zab|apply zac|apply zad));refine yi (ι:=Unit) (fun _=>⟨[(0,⟨.slice nd,r⟩),(1,⟨.slice cal,zdI⟩),(6,⟨.bool,false⟩),(7,⟨i64,(0:Int)⟩)],[],0⟩) (fun _=>True) (fun _=>0) () trivial ⟨⟨rfl,rfl,rfl,rfl,trivial⟩,trivial,rfl,rfl⟩ ?_;intro _ _;refine za (za ?_);refine zaa hX zbf rfl ?_ ?_
  ·repeat'(first|exact trivial|assumption|(refine⟨?_,?_⟩)|(intro _)|exact zb rfl|exact zd _|(simp_all [allP];done))
  refine zae rfl (fun hb=>?_) (fun _=>?_)
  ·have hb:(bif decide ((0:Int) < ((zdI.length:Nat):Int)) then false else false)=true:=hb;cases hb
  apply zad;refine za (za ?_);refine zaa hX zbf rfl ?_ ?_
  ·trivial
  (repeat(first|apply zaf|apply zab|apply zac|apply zad));refine yi (ι:=Unit) (fun _=>⟨[(0,⟨.slice nd,r⟩),(1,⟨.slice cal,zdI⟩),(6,⟨.bool,false⟩),(8,⟨i64,(0:Int)⟩)],[],0⟩) (fun _=>True) (fun _=>0) () trivial ⟨⟨rfl,rfl,rfl,rfl,trivial⟩,trivial,rfl,rfl⟩ ?_;intro _ _;refine za (za ?_);refine zaa hX zbf rfl ?_ ?_
  ·repeat'(first|exact trivial|assumption|(refine⟨?_,?_⟩)|(intro _)|exact zb rfl|exact zd _|(simp_all [allP];done))
  refine zae rfl (fun hb=>?_) (fun _=>?_)
  ·have hb:(bif decide ((0:Int) < ((r.length:Nat):Int)) then false else false)=true:=hb;generalize decide ((0:Int) < ((r.length:Nat):Int))=d at hb;cases d<;>cases hb
  apply zad;refine za (za ?_);refine zaa hX zbf rfl ?_ ?_
  ·trivial
  refine zae rfl (fun _=>?_) (fun hb=>absurd (show true=false from hb) (by decide));(repeat(first|apply zaf|apply zab|apply zai|apply zad|apply zac|refine zaa hX zbf rfl trivial ?_|refine zaa hX zbf rfl id ?_|refine zaa hX zbf rfl ⟨id,id⟩ ?_));refine zl ⟨.inr rfl,zas rfl trivial rfl rfl ?_⟩;show (1:Int)=zbr r;rw[hV];rfl
 |true=>
  rw[hw]at hV;have hnd:=zd3.1 (zcN hw).2.1;(repeat(first|apply zaf|apply zab|apply zac|apply zad));refine yi (ι:=Nat) (fun i=>⟨[(0,⟨.slice nd,r⟩),(1,⟨.slice cal,zdI⟩),(6,⟨.bool,true⟩),(7,⟨i64,(i:Int)⟩)],[],0⟩) (fun i=>i≤3) (fun i=>3 - i) 0 (zn _) ⟨⟨rfl,rfl,rfl,rfl,trivial⟩,trivial,rfl,rfl⟩ ?_;intro i hi;refine za (za ?_);refine zaa hX zbf rfl ?_ ?_
  ·repeat'(first|exact trivial|assumption|(refine⟨?_,?_⟩)|(intro _)|exact zb rfl|exact zd _|(simp_all [allP];done))
  refine zae rfl (fun hb=>?_) (fun hb=>?_)
  ·have hb:(bif decide ((i:Int) < ((zdI.length:Nat):Int)) then true else false)=true:=hb;rw[hc3]at hb;have hb:(i:Int) < 3:=by
    by_cases h:(i:Int) < 3
    ·exact h
    ·rw[decide_eq_false h]at hb;cases hb
   have z0:(0:Int)≤(i:Int):=by omega
   have z1:(i:Int) < ((zdI.length:Nat):Int):=by rw[hc3];exact hb
   have hcl:zgE (zdI.getD ((i:Int)).toNat (zaA cal)):=by
    rcases (show i=0∨i=1∨i=2 by omega) with rfl|rfl|rfl
    ·exact zji 0 (by decide)
    ·exact zji 1 (by decide)
    ·exact zji 2 (by decide)
   refine za (za ?_);refine zaa hX zbf rfl ?_ ?_
   ·exact⟨z0,z1,hcl⟩
   refine za (za ?_);refine zaa hX zbf rfl ?_ ?_
   ·exact zaF (by omega)
   exact⟨i+1,by omega,by omega,⟨rfl,rfl,rfl,zbY _,trivial⟩,trivial,rfl,rfl⟩
  apply zad;refine za (za ?_);refine zaa hX zbf rfl ?_ ?_
  ·trivial
  (repeat(first|apply zaf|apply zab|apply zac|apply zad));refine yi (ι:=Nat) (fun i=>⟨[(0,⟨.slice nd,r⟩),(1,⟨.slice cal,zdI⟩),(6,⟨.bool,true⟩),(8,⟨i64,(i:Int)⟩)],[],0⟩) (fun i=>i≤r.length) (fun i=>r.length - i) 0 (zn _) ⟨⟨rfl,rfl,rfl,rfl,trivial⟩,trivial,rfl,rfl⟩ ?_;intro i hi;refine za (za ?_);refine zaa hX zbf rfl ?_ ?_
  ·repeat'(first|exact trivial|assumption|(refine⟨?_,?_⟩)|(intro _)|exact zb rfl|exact zd _|(simp_all [allP];done))
  refine zae rfl (fun hb=>?_) (fun hb=>?_)
  ·have hb:(bif decide ((i:Int) < ((r.length:Nat):Int)) then true else false)=true:=hb;have hb:(i:Int) < ((r.length:Nat):Int):=by
    by_cases h:(i:Int) < ((r.length:Nat):Int)
    ·exact h
    ·rw[decide_eq_false h]at hb;cases hb
   have hlt:i < r.length:=by omega
   have z0:(0:Int)≤(i:Int):=by omega
   have z2:((i:Int)).toNat < r.length:=by omega
   obtain⟨hf,_⟩:=(zf _ _).mp (hnd i hlt);obtain⟨⟨k1,k2⟩,_,hcal,_⟩:=zaI hf;have k1:1≤(r.getD ((i:Int)).toNat (zaA nd)).1:=k1;have k2:(r.getD ((i:Int)).toNat (zaA nd)).1≤18:=k2;have hC:ndC (r.getD i zNd) < 3:=by
    unfold zdv at hcal;cases hu:(zbH (ndK (r.getD i zNd))).2.1 with
    |true=>
     rw[hu]at hcal;have:=(zaM.1 hcal).2;omega
    |false=>
     rw[hu]at hcal;have:=eq_of_beq (show (ndC (r.getD i zNd)==0)=true from hcal);omega
   have hC:decide ((r.getD ((i:Int)).toNat (zaA nd)).2.1 < ((zdI.length:Nat):Int))=true:=decide_eq_true (by rw[hc3];exact hC);refine za (za ?_);refine zaa hX zbf rfl ?_ ?_
   ·cases zgx.out ((r.getD ((i:Int)).toNat (zaA nd)).1,())
    all_goals
     (repeat'(first|exact trivial|assumption|exact z0|exact hb|exact z2|exact k1|exact k2|rfl|(intro h;exact absurd h Bool.false_ne_true)|(refine⟨?_,?_⟩)|(intro _)))
   refine za (za ?_);refine zaa hX zbf rfl ?_ ?_
   ·exact zaF (by omega)
   refine⟨i+1,hlt,by omega,⟨rfl,rfl,zco ?_,zbY _,trivial⟩,trivial,rfl,rfl⟩;show (bif !zgx.out ((r.getD ((i:Int)).toNat (zaA nd)).1,()) then true else decide ((r.getD ((i:Int)).toNat (zaA nd)).2.1 < ((zdI.length:Nat):Int)))=true;rw[hC];cases zgx.out ((r.getD ((i:Int)).toNat (zaA nd)).1,())<;>rfl
  ·apply zad;refine za (za ?_);refine zaa hX zbf rfl ?_ ?_
   ·trivial
   refine zae rfl (fun hb=>absurd (show false=true from hb) (by decide)) (fun _=>?_);(repeat(first|apply zaf|apply zab|apply zai|apply zad|apply zac|refine zaa hX zbf rfl trivial ?_|refine zaa hX zbf rfl id ?_|refine zaa hX zbf rfl ⟨id,id⟩ ?_));refine zl ⟨.inr rfl,zas rfl trivial rfl rfl ?_⟩;show (0:Int)=zbr r;rw[hV];rfl
theorem zo0:yk Tryz.prog gmH 155 zmz:=by
 refine zal (K:=gmK) zaj Tryz.func155 rfl rfl Tryz.call155 rfl (by decide) (by intro h;cases h) ?_;rintro w0 X hX ⟨(k:Int),_⟩ hp;change AWP _ _ _ _ _ ⟨[(0,⟨i64,k⟩)],[],0⟩ _;refine za (za ?_);refine zaa hX zaj rfl ?_ ?_
 ·trivial
 refine za (za ?_);refine zaa hX zaj rfl ?_ ?_
 ·trivial
 apply zac;refine za (za ?_);refine zaa hX zaj rfl ?_ ?_
 ·trivial
 refine zae rfl (fun h=>?_) (fun h=>?_)
 ·have h:k=9:=eq_of_beq h;(repeat(first|apply zaf|apply zab|apply zai|apply zad|apply zac|refine zaa hX zaj rfl trivial ?_|refine zaa hX zaj rfl id ?_|refine zaa hX zaj rfl ⟨id,id⟩ ?_));refine zl ⟨.inr rfl,zas rfl trivial rfl rfl ?_⟩;show (1:Int)=levS k;rw[h];rfl
 have h9:k≠9:=fun e=>by have h:(k==9)=false:=h;rw[e]at h;cases h
 refine za (za ?_);refine zaa hX zaj rfl ?_ ?_
 ·trivial
 refine zae rfl (fun h=>?_) (fun h=>?_)
 ·have h:k=10:=eq_of_beq h;(repeat(first|apply zaf|apply zab|apply zai|apply zad|apply zac|refine zaa hX zaj rfl trivial ?_|refine zaa hX zaj rfl id ?_|refine zaa hX zaj rfl ⟨id,id⟩ ?_));refine zl ⟨.inr rfl,zas rfl trivial rfl rfl ?_⟩;show (2:Int)=levS k;rw[h];rfl
 have h10:k≠10:=fun e=>by have h:(k==10)=false:=h;rw[e]at h;cases h
 refine za (za ?_);refine zaa hX zaj rfl ?_ ?_
 ·trivial
 refine zae rfl (fun h=>?_) (fun h=>?_)
 ·have h:k=8:=eq_of_beq h;(repeat(first|apply zaf|apply zab|apply zai|apply zad|apply zac|refine zaa hX zaj rfl trivial ?_|refine zaa hX zaj rfl id ?_|refine zaa hX zaj rfl ⟨id,id⟩ ?_));refine zl ⟨.inr rfl,zas rfl trivial rfl rfl ?_⟩;show (3:Int)=levS k;rw[h];rfl
 have h8:k≠8:=fun e=>by have h:(k==8)=false:=h;rw[e]at h;cases h
 have hq:(bif decide (k≥11) then decide (k≤17) else false)=decide (11≤k∧k≤17):=by
  rw[zcS,zL,zf,decide_eq_true_iff,decide_eq_true_iff,decide_eq_true_iff]
 apply zab;refine za (za ?_);refine zaa hX zaj rfl ?_ ?_
 ·repeat'(first|exact trivial|assumption|(refine⟨?_,?_⟩)|(intro _)|exact zb rfl|exact zd _|(simp_all [allP];done))
 have hL:levS k=if 11≤k∧k≤17 then 4 else 5:=by
  unfold levS;rw[if_neg h9,if_neg h10,if_neg h8]
 refine zae rfl (fun h=>?_) (fun h=>?_)
 ·have h:=of_decide_eq_true (hq.symm.trans h);(repeat(first|apply zaf|apply zab|apply zai|apply zad|apply zac|refine zaa hX zaj rfl trivial ?_|refine zaa hX zaj rfl id ?_|refine zaa hX zaj rfl ⟨id,id⟩ ?_));refine zl ⟨.inr rfl,zas rfl trivial rfl rfl ?_⟩;show (4:Int)=levS k;rw[hL,if_pos h]
 ·have h:=of_decide_eq_false (hq.symm.trans h);(repeat(first|apply zaf|apply zab|apply zai|apply zad|apply zac|refine zaa hX zaj rfl trivial ?_|refine zaa hX zaj rfl id ?_|refine zaa hX zaj rfl ⟨id,id⟩ ?_));refine zl ⟨.inr rfl,zas rfl trivial rfl rfl ?_⟩;show (5:Int)=levS k;rw[hL,if_neg h]
def scR (n:Int):List UInt8:=if n=1 then zdX else zic
theorem zn3 (n:Int):zcr n=32::scR n:=by unfold zcr scR;split<;>rfl
theorem zn9 (n:Int):(scR n).length≤10:=by unfold scR;split<;>decide
def zpL:Ctr:={ args:=[i64],pre:=fun _=>[],res:=.str,own:=none,out:=fun x=>scR x.1 }
theorem zn5:yk Tryz.prog gmH 109 zpL:=by
 refine zal (K:=gmK) zaj Tryz.func109 rfl rfl Tryz.call109 rfl (by decide) (by intro h;cases h) ?_;rintro w0 X hX ⟨(k:Int),_⟩ hp;change AWP _ _ _ _ _ ⟨[(0,⟨i64,k⟩)],[],0⟩ _;refine za (za ?_);refine zaa hX zaj rfl ?_ ?_
 ·trivial
 refine za (za ?_);refine zaa hX zaj rfl ?_ ?_
 ·trivial
 refine zae rfl (fun h=>?_) (fun h=>?_)
 ·have h:k=1:=eq_of_beq h;(repeat(first|apply zaf|apply zab|apply zai|apply zad|apply zac|refine zaa hX zaj rfl trivial ?_|refine zaa hX zaj rfl id ?_|refine zaa hX zaj rfl ⟨id,id⟩ ?_));refine zl ⟨.inr rfl,zas rfl trivial rfl rfl ?_⟩;show _=scR k;rw[h];rfl
 ·have h1:k≠1:=fun e=>by have h:(k==1)=false:=h;rw[e]at h;cases h
  (repeat(first|apply zaf|apply zab|apply zai|apply zad|apply zac|refine zaa hX zaj rfl trivial ?_|refine zaa hX zaj rfl id ?_|refine zaa hX zaj rfl ⟨id,id⟩ ?_));refine zl ⟨.inr rfl,zas rfl trivial rfl rfl ?_⟩;show _=scR k;unfold scR;rw[if_neg h1];rfl
def lstJ (l:List Int):List UInt8:=(litS 0 l).drop 1
def lstR (l:List Int):List UInt8:=if l=[] then [40,41] else lstJ l++ [41]
theorem zk6 {l:List Int} (h:l≠ []):zch l=32::lstR l:=by
 cases l with
 |nil=>exact absurd rfl h
 |cons x r=>
  unfold lstR zch;rw[if_neg (by simp)];rfl
theorem zl3 {l:List Int} (h:∀ n∈l,zbR n):(lstJ l).length≤20 * l.length:=by
 have:=zeI l 0 h;unfold lstJ;rw[y9];omega
theorem zoQ (l:List Int) (n:Int):(if l++ [n]=[] then [40] else lstJ (l++ [n]))=(if l=[] then [40] else lstJ l)++(if l=[] then [] else [32])++deI n:=by
 rw[if_neg (by simp)];cases l with
 |nil=>
  rw[if_pos rfl,if_pos rfl];show ((sepS 0++deI n++ []).drop 1:List UInt8)=[40]++ []++deI n;simp[sepS]
 |cons x r=>
  rw[if_neg (by simp),if_neg (by simp)];unfold lstJ;rw[zhl];show (sepS 0++deI x++litS 1 r++(sepS (0+(r.length+1))++deI n)).drop 1=_;rw[show sepS (0+(r.length+1))=[32] from if_neg (by omega)];show _=(sepS 0++deI x++litS 1 r).drop 1++ [32]++deI n;simp[sepS]
theorem bufS {x y:List UInt8} (h:x=y):(⟨.str,x⟩:V)=⟨.str,y⟩:=by rw[h]
def zsc:Ctr:={ args:=[ints],pre:=fun x=>[zg x.1≤1000,∀ n∈(x.1:List Int),zbR n],res:=.str,own:=none,out:=fun x=>lstR x.1 }
def kLi7:Kn:={ gmK with C:=[(107,cDec)] }
theorem zc8:KnOk Tryz.prog gmH kLi7:=zaj.with (.cons zpE.lift .nil)
theorem zq3:yk Tryz.prog gmH 108 zsc:=by
 refine zal (K:=kLi7) zc8 Tryz.func108 rfl rfl Tryz.call108 rfl (by decide) (by intro h;cases h) ?_;rintro w0 X hX ⟨(l:List Int),_⟩ hp;obtain⟨hl,hn⟩:l.length≤1000∧∀ n∈l,zbR n:=hp;change AWP _ _ _ _ _ ⟨[(0,⟨ints,l⟩)],[],0⟩ _;refine za (za ?_);refine zaa hX zc8 rfl ?_ ?_
 ·trivial
 refine za (za ?_);refine zaa hX zc8 rfl ?_ ?_
 ·trivial
 refine za (za ?_);refine zaa hX zc8 rfl ?_ ?_
 ·trivial
 (repeat(first|apply zaf|apply zab|apply zac|apply zad));refine yi (ι:=Nat) (fun i=>⟨[(0,⟨ints,l⟩),(3,⟨.str,if l.take i=[] then [40] else lstJ (l.take i)⟩),(4,⟨i64,(i:Int)⟩)],[],0⟩) (fun i=>i≤l.length) (fun i=>l.length - i) 0 (zn _) ⟨⟨rfl,rfl,rfl,trivial⟩,trivial,rfl,rfl⟩ ?_;intro i hi;have hlen:(if l.take i=[] then [40] else lstJ (l.take i):List UInt8).length≤20001:=by
  split
  ·decide
  ·have:=zl3 (l:=l.take i) (fun n h=>hn n (List.mem_of_mem_take h));rw[yC]at this;omega
 refine za (za ?_);refine zaa hX zc8 rfl ?_ ?_
 ·trivial
 refine zae rfl (fun hb=>?_) (fun hb=>?_)
 ·have hb:decide ((i:Int) < ((l.length:Nat):Int))=true:=hb;have hb:=of_decide_eq_true hb;have hlt:i < l.length:=by omega
  have hsn:=zoQ (l.take i) l[i];rw[<-zH hlt]at hsn;have ht0:l.take i=[]↔i=0:=by
   constructor
   ·intro e;have:=congrArg zg e;rw[yC,ya]at this;omega
   ·rintro rfl;rfl
  generalize (if l.take i=[] then [40] else lstJ (l.take i):List UInt8)=p at *;have z0:(0:Int)≤(i:Int):=by omega
  have z2:((i:Int)).toNat < l.length:=by omega
  have hget:l.getD ((i:Int)).toNat 0=l[i]:=by rw[zz,zx,zA hlt];rfl
  obtain⟨y0,y1⟩:=hn _ (yZ hlt);have y0': -100000000000000000 < l.getD ((i:Int)).toNat 0:=by rw[hget];exact y0
  have y1':l.getD ((i:Int)).toNat 0 < 100000000000000000:=by rw[hget];exact y1
  have yl:(deI (l.getD ((i:Int)).toNat 0)).length≤18:=zc9 y0' y1';have m1:p.length+1≤maxLen:=by unfold maxLen;omega
  have m2:p.length+(deI (l.getD ((i:Int)).toNat 0)).length≤maxLen:=by unfold maxLen;omega
  have m3:(p++ [32]:List UInt8).length+(deI (l.getD ((i:Int)).toNat 0)).length≤maxLen:=by rw[zh];show p.length+1+_≤_;unfold maxLen;omega
  have e1:l.length - (i+1) < l.length - i:=by omega
  have fin:inR .i64 ((i:Int)+1):=zaF (by omega);refine za (za ?_);refine zaa hX zc8 rfl ?_ ?_
  ·trivial
  refine zae rfl (fun hc=>?_) (fun hc=>?_)
  ·have hc:decide ((i:Int) > 0)=true:=hc;have hc:=of_decide_eq_true hc;refine za (za ?_);refine zaa hX zc8 rfl ?_ ?_
   ·exact m1
   refine za (za ?_);refine zaa hX zc8 rfl ?_ ?_
   ·repeat'(first|exact trivial|assumption|exact z0|exact hb|exact z2|exact y0'|exact y1'|exact m3|(refine⟨?_,?_⟩)|(intro _)|exact zb rfl|exact zd _|(simp_all [allP];done))
   refine za (za ?_);refine zaa hX zc8 rfl ?_ ?_
   ·exact fin
   refine⟨i+1,hlt,e1,⟨rfl,bufS ?_,zbY _,trivial⟩,trivial,rfl,rfl⟩;show p++ [32]++deI (l.getD ((i:Int)).toNat 0)=_;rw[hget,hsn,if_neg (by rw[ht0];omega)]
  ·have hc:decide ((i:Int) > 0)=false:=hc;have hc:=of_decide_eq_false hc;apply zab;refine za (za ?_);refine zaa hX zc8 rfl ?_ ?_
   ·repeat'(first|exact trivial|assumption|exact z0|exact hb|exact z2|exact y0'|exact y1'|exact m2|(refine⟨?_,?_⟩)|(intro _)|exact zb rfl|exact zd _|(simp_all [allP];done))
   refine za (za ?_);refine zaa hX zc8 rfl ?_ ?_
   ·exact fin
   refine⟨i+1,hlt,e1,⟨rfl,bufS ?_,zbY _,trivial⟩,trivial,rfl,rfl⟩;show p++deI (l.getD ((i:Int)).toNat 0)=_;rw[hget,hsn,if_pos (by rw[ht0];omega),zS]
 ·have hb:decide ((i:Int) < ((l.length:Nat):Int))=false:=hb;have hb:=of_decide_eq_false hb;obtain rfl:i=l.length:=by omega
  rw[xx]at hlen ⊢;apply zad;have m1:(if l=[] then [40] else lstJ l:List UInt8).length+1≤maxLen:=by unfold maxLen;omega
  refine za (za ?_);refine zaa hX zc8 rfl ?_ ?_
  ·exact m1
  refine zl ⟨.inr rfl,zas rfl trivial rfl rfl ?_⟩;show (if l=[] then [40] else lstJ l)++ [41]=lstR l;unfold lstR;split<;>rfl
theorem ze7 {a:Int} (ha:zbR a):∀ x∈ [a],zbR x:=fun x hx=>by rw[zy]at hx;subst hx;exact ha
theorem numL2 {a b:Int} (ha:zbR a) (hb:zbR b):∀ x∈ [a,b],zbR x:=fun x hx=>by
 rcases yg.1 hx with rfl|hx
 ·exact ha
 ·exact ze7 hb x hx
theorem zsR {a b c:Int} (ha:zbR a) (hb:zbR b) (hc:zbR c):∀ x∈ [a,b,c],zbR x:=fun x hx=>by
 rcases yg.1 hx with rfl|hx
 ·exact ha
 ·exact numL2 hb hc x hx
def hLf:List (zT×HCtr):=[(100,cPut),(150,zmy)]
theorem zdR:HsOk Tryz.prog gmH hLf:=.cons zou <| .cons zl4 .nil
def kLf:Kn:={ gmK with C:=[(151,zpK)] }
theorem zaR:KnOk Tryz.prog gmH kLf:=zaj.with (.cons zn4 .nil)
theorem zdK (n:Int):(zcr n).length≤10:=by
 unfold zcr;split
 ·decide
 ·decide
theorem cat3 (a b c:List UInt8):(a++b++c:List UInt8)=a++(b++c):=zu a b c
@[reducible] def zpS:HCtr:=hW [nd] (fun x xs=>[zg x.2.1+10000≤1000000000,zkG xs.1,1≤ndK xs.1,ndK xs.1≤7∨ndK xs.1=18]) fun x xs=>zcJ xs.1
theorem zrb:zaE Tryz.prog gmH 103 zpS:=by
 refine zaw (K:=_) zaR Tryz.func103 rfl rfl (zcC rfl) Tryz.call103 rfl (zb rfl) (zdJ prT [107]) ?_;rintro w0 ⟨G,O,K,fix,D,ρ,B⟩ ty hX hG hK hρ hD hinv ⟨(b:Bool),(bf:List UInt8),(r:List Nd),⟨⟩⟩ ⟨(n:Nd),⟨⟩⟩ hp;obtain rfl:G=gmH:=hG;obtain rfl:K=1:=hK;obtain rfl:ρ=none:=hρ;obtain rfl:D=[]:=hD;have hI:=fun w R hR hw=>(⟨zaJ (ty:=ty) hX rfl hinv.1 (ty':=ty) w R hR hw,hinv.2⟩:bInv prT [107] w R ty);obtain⟨hlen,⟨⟨hC,hN,hM⟩,hI',hil,hnl,hsc,-⟩,hk0,hkk⟩:bf.length+10000≤1000000000∧zkG n∧1≤ndK n∧(ndK n≤7∨ndK n=18):=hp;have hq0:bf.length+200+19 * 3≤1000000000:=by omega
 change AWP _ _ _ _ _ ⟨[(0,⟨.hptr,((0:Nat),(0:Nat))⟩),(1,⟨nd,n⟩)],wE ty b bf r,2⟩ (wQ _ zpS ty (.ok ((),(true,((bf++zcJ n:List UInt8),(r,()))))));unfold zcJ;refine za (za ?_);refine zaa hX zaR rfl ?_ ?_
 ·trivial
 refine za (za ?_);refine zaa hX zaR rfl ?_ ?_
 ·trivial
 apply zac;refine zap (σ':=⟨[(0,⟨.hptr,((0:Nat),(0:Nat))⟩),(3,⟨.optr nd,⟨2,nd,.here⟩⟩),(5,⟨i64,ndK n⟩)],(2,some (.box nd n))::wE ty b bf r,3⟩) ⟨⟨rfl,rfl,rfl,trivial⟩,⟨rfl,rfl,rfl,trivial⟩,rfl,by cases b<;>rfl⟩ ?_;refine za (za ?_);refine zaa hX zaR rfl ?_ ?_
 ·trivial
 refine zae rfl (fun hb=>?_) (fun hb=>?_)
 ·have hb:(ndK n==1)=true:=hb;have hk:=beq_iff_eq.1 hb;rw[if_pos hk];cases b
  all_goals
   (repeat(first|apply zaf|apply zab|apply zac|apply zad));refine zak ?_;refine yq 6 hX zaR zdR rfl trivial rfl rfl ⟨(by show zg bf+zg ziK+19 * 2≤1000000000;have:zg ziK≤20:=(by decide);omega),(numL2 hN hM)⟩ hI ?_;exact yd ⟨.inl rfl,⟨_,rfl,u8,1,_,rfl,rfl,rfl⟩,za1 (by decide) rfl rfl trivial rfl⟩
 have hb:(ndK n==1)=false:=hb;have hk1:ndK n≠1:=fun e=>by rw[beq_iff_eq.2 e]at hb;cases hb
 rw[if_neg hk1];refine za (za ?_);refine zaa hX zaR rfl ?_ ?_
 ·trivial
 refine zae rfl (fun hb=>?_) (fun hb=>?_)
 ·have hb:(ndK n==2)=true:=hb;have hk:=beq_iff_eq.1 hb;rw[if_pos hk];cases b
  all_goals
   (repeat(first|apply zaf|apply zab|apply zac|apply zad));refine zak ?_;refine yq 8 hX zaR zdR rfl trivial rfl rfl ⟨(by show zg bf+zg zfg+19 * 3≤1000000000;have:zg zfg≤20:=(by decide);omega),(zsR hC hN hM)⟩ hI ?_;exact yd ⟨.inl rfl,⟨_,rfl,u8,1,_,rfl,rfl,rfl⟩,za1 (by decide) rfl rfl trivial rfl⟩
 have hb:(ndK n==2)=false:=hb;have hk2:ndK n≠2:=fun e=>by rw[beq_iff_eq.2 e]at hb;cases hb
 rw[if_neg hk2];refine za (za ?_);refine zaa hX zaR rfl ?_ ?_
 ·trivial
 refine zae rfl (fun hb=>?_) (fun hb=>?_)
 ·have hb:(ndK n==3)=true:=hb;have hk:=beq_iff_eq.1 hb;rw[if_pos hk];refine xM (σ':=⟨[(0,⟨.hptr,((0:Nat),(0:Nat))⟩),(3,⟨.optr nd,⟨2,nd,.here⟩⟩)],(2,some (.box nd n))::wE ty true ((bf++putS zcy [ndC n]:List UInt8)) r,3⟩) ?_ ?_
  ·cases b
   all_goals
    (repeat(first|apply zaf|apply zab|apply zac|apply zad));refine zak ?_;refine yq 4 hX zaR zdR rfl trivial rfl rfl ⟨(by show zg bf+zg zcy+19 * 1≤1000000000;have:zg zcy≤20:=(by decide);omega),(ze7 hC)⟩ hI ?_;exact yd ⟨⟨rfl,rfl,trivial⟩,⟨rfl,rfl,rfl,trivial⟩,rfl,rfl⟩
  have hl2:zg (bf++putS zcy [ndC n]:List UInt8)+20 * zg (ndI n)+1≤1000000000:=by
   have:=zbK (ze7 hC);have hw:zg zcy≤20:=by decide
   simp only[putS,zh,zs,ya]at this ⊢;omega
  rw[show (bf++(putS zcy [ndC n]++zch (ndI n)):List UInt8)=bf++putS zcy [ndC n]++zch (ndI n) from (cat3 _ _ _).symm];(repeat(first|apply zaf|apply zab|apply zac|apply zad));refine zak ?_;refine yq 3 hX zaR zdR rfl trivial rfl rfl ⟨hl2,hI'⟩ hI ?_;exact yd ⟨.inl rfl,⟨_,rfl,u8,1,_,rfl,rfl,rfl⟩,za1 (by decide) rfl rfl trivial rfl⟩
 have hb:(ndK n==3)=false:=hb;have hk3:ndK n≠3:=fun e=>by rw[beq_iff_eq.2 e]at hb;cases hb
 rw[if_neg hk3];refine za (za ?_);refine zaa hX zaR rfl ?_ ?_
 ·trivial
 refine zae rfl (fun hb=>?_) (fun hb=>?_)
 ·have hb:(ndK n==4)=true:=hb;have hk:=beq_iff_eq.1 hb;rw[if_pos hk];refine xM (σ':=⟨[(0,⟨.hptr,((0:Nat),(0:Nat))⟩),(3,⟨.optr nd,⟨2,nd,.here⟩⟩)],(2,some (.box nd n))::wE ty true ((bf++putS za7 [ndC n]:List UInt8)) r,3⟩) ?_ ?_
  ·cases b
   all_goals
    (repeat(first|apply zaf|apply zab|apply zac|apply zad));refine zak ?_;refine yq 4 hX zaR zdR rfl trivial rfl rfl ⟨(by show zg bf+zg za7+19 * 1≤1000000000;have:zg za7≤20:=(by decide);omega),(ze7 hC)⟩ hI ?_;exact yd ⟨⟨rfl,rfl,trivial⟩,⟨rfl,rfl,rfl,trivial⟩,rfl,rfl⟩
  have hl2:zg (bf++putS za7 [ndC n]:List UInt8)+20 * zg (ndI n)+1≤1000000000:=by
   have:=zbK (ze7 hC);have hw:zg za7≤20:=by decide
   simp only[putS,zh,zs,ya]at this ⊢;omega
  rw[show (bf++(putS za7 [ndC n]++zch (ndI n)):List UInt8)=bf++putS za7 [ndC n]++zch (ndI n) from (cat3 _ _ _).symm];(repeat(first|apply zaf|apply zab|apply zac|apply zad));refine zak ?_;refine yq 3 hX zaR zdR rfl trivial rfl rfl ⟨hl2,hI'⟩ hI ?_;exact yd ⟨.inl rfl,⟨_,rfl,u8,1,_,rfl,rfl,rfl⟩,za1 (by decide) rfl rfl trivial rfl⟩
 have hb:(ndK n==4)=false:=hb;have hk4:ndK n≠4:=fun e=>by rw[beq_iff_eq.2 e]at hb;cases hb
 rw[if_neg hk4];refine za (za ?_);refine zaa hX zaR rfl ?_ ?_
 ·trivial
 refine zae rfl (fun hb=>?_) (fun hb=>?_)
 ·have hb:(ndK n==5)=true:=hb;have hk:=beq_iff_eq.1 hb;rw[if_pos hk];refine xM (σ':=⟨[(0,⟨.hptr,((0:Nat),(0:Nat))⟩),(3,⟨.optr nd,⟨2,nd,.here⟩⟩)],(2,some (.box nd n))::wE ty true ((bf++putS zbm []:List UInt8)) r,3⟩) ?_ ?_
  ·cases b
   all_goals
    (repeat(first|apply zaf|apply zab|apply zac|apply zad));refine zak ?_;refine yq 1 hX zaR zdR rfl trivial rfl rfl ⟨(by show zg bf+zg zbm+19 * 0≤1000000000;have:zg zbm≤20:=(by decide);omega),(fun x hx=>by cases hx)⟩ hI ?_;exact yd ⟨⟨rfl,rfl,trivial⟩,⟨rfl,rfl,rfl,trivial⟩,rfl,rfl⟩
  have hl2:zg (bf++putS zbm []:List UInt8)+20 * zg (ndI n)+1≤1000000000:=by
   have:=zbK (l:=[]) (fun x hx=>by cases hx);have hw:zg zbm≤20:=by decide
   simp only[putS,zh,zs,ya]at this ⊢;omega
  rw[show (bf++(putS zbm []++zch (ndI n)):List UInt8)=bf++putS zbm []++zch (ndI n) from (cat3 _ _ _).symm];(repeat(first|apply zaf|apply zab|apply zac|apply zad));refine zak ?_;refine yq 3 hX zaR zdR rfl trivial rfl rfl ⟨hl2,hI'⟩ hI ?_;exact yd ⟨.inl rfl,⟨_,rfl,u8,1,_,rfl,rfl,rfl⟩,za1 (by decide) rfl rfl trivial rfl⟩
 have hb:(ndK n==5)=false:=hb;have hk5:ndK n≠5:=fun e=>by rw[beq_iff_eq.2 e]at hb;cases hb
 rw[if_neg hk5];refine za (za ?_);refine zaa hX zaR rfl ?_ ?_
 ·trivial
 refine zae rfl (fun hb=>?_) (fun hb=>?_)
 ·have hb:(ndK n==6)=true:=hb;have hk:=beq_iff_eq.1 hb;rw[if_pos hk];refine xM (σ':=⟨[(0,⟨.hptr,((0:Nat),(0:Nat))⟩),(3,⟨.optr nd,⟨2,nd,.here⟩⟩)],(2,some (.box nd n))::wE ty true ((bf++putS zdk [ndC n]:List UInt8)) r,3⟩) ?_ ?_
  ·cases b
   all_goals
    (repeat(first|apply zaf|apply zab|apply zac|apply zad));refine zak ?_;refine yq 4 hX zaR zdR rfl trivial rfl rfl ⟨(by show zg bf+zg zdk+19 * 1≤1000000000;have:zg zdk≤20:=(by decide);omega),(ze7 hC)⟩ hI ?_;exact yd ⟨⟨rfl,rfl,trivial⟩,⟨rfl,rfl,rfl,trivial⟩,rfl,rfl⟩
  have hl2:zg (bf++putS zdk [ndC n]:List UInt8)+20 * zg (ndI n)+1≤1000000000:=by
   have:=zbK (ze7 hC);have hw:zg zdk≤20:=by decide
   simp only[putS,zh,zs,ya]at this ⊢;omega
  rw[show (bf++(putS zdk [ndC n]++zch (ndI n)):List UInt8)=bf++putS zdk [ndC n]++zch (ndI n) from (cat3 _ _ _).symm];(repeat(first|apply zaf|apply zab|apply zac|apply zad));refine zak ?_;refine yq 3 hX zaR zdR rfl trivial rfl rfl ⟨hl2,hI'⟩ hI ?_;exact yd ⟨.inl rfl,⟨_,rfl,u8,1,_,rfl,rfl,rfl⟩,za1 (by decide) rfl rfl trivial rfl⟩
 have hb:(ndK n==6)=false:=hb;have hk6:ndK n≠6:=fun e=>by rw[beq_iff_eq.2 e]at hb;cases hb
 rw[if_neg hk6];refine za (za ?_);refine zaa hX zaR rfl ?_ ?_
 ·trivial
 refine zae rfl (fun hb=>?_) (fun hb=>?_)
 ·have hb:(ndK n==7)=true:=hb;have hk:=beq_iff_eq.1 hb;rw[if_pos hk];obtain⟨hs0,hs1⟩:=hsc hk;refine xM (σ':=⟨[(0,⟨.hptr,((0:Nat),(0:Nat))⟩),(3,⟨.optr nd,⟨2,nd,.here⟩⟩)],(2,some (.box nd n))::wE ty true ((bf++putS wNth [ndC n,ndN n,ndM n]:List UInt8)) r,3⟩) ?_ ?_
  ·cases b
   all_goals
    (repeat(first|apply zaf|apply zab|apply zac|apply zad));refine zak ?_;refine yq 8 hX zaR zdR rfl trivial rfl rfl ⟨(by show zg bf+zg wNth+19 * 3≤1000000000;have:zg wNth≤20:=(by decide);omega),(zsR hC hN hM)⟩ hI ?_;exact yd ⟨⟨rfl,rfl,trivial⟩,⟨rfl,rfl,rfl,trivial⟩,rfl,rfl⟩
  have hl2:zg (bf++putS wNth [ndC n,ndN n,ndM n]:List UInt8)+zg (zcr (ndL n))+19 * 0≤1000000000:=by
   have:=zbK (zsR hC hN hM);have hw:zg wNth≤20:=by decide
   have hs:=zdK (ndL n);simp only[putS,zh,zs,ya]at this ⊢;omega
  rw[show (bf++(putS wNth [ndC n,ndN n,ndM n]++putS (zcr (ndL n)) []):List UInt8)=bf++putS wNth [ndC n,ndN n,ndM n]++putS (zcr (ndL n)) [] from (cat3 _ _ _).symm];(repeat(first|apply zaf|apply zab|apply zac|apply zad));refine zak ?_;refine yq 4 hX zaR zdR rfl ⟨hs0,hs1⟩ rfl rfl ⟨hl2,fun x hx=>by cases hx⟩ hI ?_;exact yd ⟨.inl rfl,⟨_,rfl,u8,1,_,rfl,rfl,rfl⟩,za1 (by decide) rfl rfl trivial rfl⟩
 have hb:(ndK n==7)=false:=hb;have hk7:ndK n≠7:=fun e=>by rw[beq_iff_eq.2 e]at hb;cases hb
 rw[if_neg hk7];refine za (za ?_);refine zaa hX zaR rfl ?_ ?_
 ·trivial
 refine zae rfl (fun hb=>?_) (fun hb=>?_)
 ·have hb:(ndK n==18)=true:=hb;have hk:=beq_iff_eq.1 hb;rw[if_pos hk];have hcat:1+zg (ndS n)≤maxLen:=by unfold maxLen;omega
  have hl2:zg bf+zg (wAt++ndS n:List UInt8)+19 * 0≤1000000000:=by
   rw[zh];show _+(1+_)+_≤_;omega
  cases b
  all_goals
   (repeat(first|apply zaf|apply zab|apply zac|apply zad));refine zak ?_;refine yq 4 hX zaR zdR rfl hcat rfl rfl ⟨hl2,fun x hx=>by cases hx⟩ hI ?_;exact yd ⟨.inl rfl,⟨_,rfl,u8,1,_,rfl,rfl,rfl⟩,za1 (by decide) rfl rfl trivial rfl⟩
 have hb:(ndK n==18)=false:=hb;have hk18:ndK n≠18:=fun e=>by rw[beq_iff_eq.2 e]at hb;cases hb
 rw[if_neg hk18];exfalso;omega
def WfP (r:List Nd):Prop:=r.length≤1000∧∀ j:Nat,j < r.length->zkG (zao r j)∧(1≤ndK (zao r j)∧ndK (zao r j)≤18)∧(8≤ndK (zao r j)->ndK (zao r j)≤17->0≤ndL (zao r j)∧ndL (zao r j) < j)∧(8≤ndK (zao r j)->ndK (zao r j)≤10∨ndK (zao r j)=17->0≤ndR (zao r j)∧ndR (zao r j) < j)
@[reducible] def cOpd (k:Nat):HCtr:=hW [i64,i64] (fun x xs=>[WfP x.2.2.1,0≤xs.1,xs.1.toNat < k,xs.1.toNat < zg x.2.2.1,zg x.2.1+zg (opdF k x.2.2.1 xs.1 xs.2.1)+10000≤1000000000]) fun x xs=>opdF k x.2.2.1 xs.1 xs.2.1
@[reducible] def zrK (k:Nat):HCtr:=hW [nd] (fun x xs=>[WfP x.2.2.1,zkG xs.1,11≤ndK xs.1,ndK xs.1≤17,ndK xs.1=17->0≤ndR xs.1∧(ndR xs.1).toNat < k∧(ndR xs.1).toNat < zg x.2.2.1,zg x.2.1+zg (zcc (opdF k x.2.2.1 (ndR xs.1) 5) xs.1)+10000≤1000000000]) fun x xs=>zcc (opdF k x.2.2.1 (ndR xs.1) 5) xs.1
def hSf (k:Nat):List (zT×HCtr):=[(100,cPut),(150,zmy),(99,cOpd k)]
theorem cat4 (a b c d:List UInt8):(a++b++c++d:List UInt8)=a++(b++(c++d)):=by rw[zu,zu]
theorem zmK (k:Nat) (hO:zaE Tryz.prog gmH 99 (cOpd k)):zaE Tryz.prog gmH 102 (zrK k):=by
 have hsf:HsOk Tryz.prog gmH (hSf k):=.cons zou <| .cons zl4 <| .cons hO .nil;refine zaw (K:=_) zaR Tryz.func102 rfl rfl (zcC rfl) Tryz.call102 rfl (zb rfl) (zdJ prT [107]) ?_;rintro w0 ⟨G,O,K,fix,D,ρ,B⟩ ty hX hG hK hρ hD hinv ⟨(b:Bool),(bf:List UInt8),(r:List Nd),⟨⟩⟩ ⟨(n:Nd),⟨⟩⟩ hp;obtain rfl:G=gmH:=hG;obtain rfl:K=1:=hK;obtain rfl:ρ=none:=hρ;obtain rfl:D=[]:=hD;have hI:=fun w R hR hw=>(⟨zaJ (ty:=ty) hX rfl hinv.1 (ty':=ty) w R hR hw,hinv.2⟩:bInv prT [107] w R ty);obtain⟨hwf,⟨⟨hC,hN,hM⟩,hI',hil,hnl,-,hsc⟩,hk0,hkk,hbh,hT⟩:WfP r∧zkG n∧11≤ndK n∧ndK n≤17∧(ndK n=17->0≤ndR n∧(ndR n).toNat < k∧(ndR n).toNat < r.length)∧bf.length+(zcc (opdF k r (ndR n) 5) n).length+10000≤1000000000:=hp;have hlen:bf.length+10000≤1000000000:=by omega
 change AWP _ _ _ _ _ ⟨[(0,⟨.hptr,((0:Nat),(0:Nat))⟩),(1,⟨nd,n⟩)],wE ty b bf r,2⟩ (wQ _ (zrK k) ty (.ok ((),(true,((bf++zcc (opdF k r (ndR n) 5) n:List UInt8),(r,()))))));unfold zcc at hT ⊢;refine za (za ?_);refine zaa hX zaR rfl ?_ ?_
 ·trivial
 refine za (za ?_);refine zaa hX zaR rfl ?_ ?_
 ·trivial
 apply zac;refine zap (σ':=⟨[(0,⟨.hptr,((0:Nat),(0:Nat))⟩),(3,⟨.optr nd,⟨2,nd,.here⟩⟩),(5,⟨i64,ndK n⟩)],(2,some (.box nd n))::wE ty b bf r,3⟩) ⟨⟨rfl,rfl,rfl,trivial⟩,⟨rfl,rfl,rfl,trivial⟩,rfl,by cases b<;>rfl⟩ ?_;refine za (za ?_);refine zaa hX zaR rfl ?_ ?_
 ·trivial
 refine zae rfl (fun hb=>?_) (fun hb=>?_)
 ·have hb:(ndK n==11)=true:=hb;have hk:=beq_iff_eq.1 hb;rw[if_pos hk];cases b
  all_goals
   (repeat(first|apply zaf|apply zab|apply zac|apply zad));refine zak ?_;refine yq 4 hX zaR hsf rfl trivial rfl rfl ⟨(by show zg bf+zg (spW zeS)+19 * 1≤1000000000;have:zg (spW zeS)≤20:=(by decide);omega),(ze7 hN)⟩ hI ?_;exact yd ⟨.inl rfl,⟨_,rfl,u8,1,_,rfl,rfl,rfl⟩,za1 (by decide) rfl rfl trivial rfl⟩
 have hb:(ndK n==11)=false:=hb;have hk11:ndK n≠11:=fun e=>by rw[beq_iff_eq.2 e]at hb;cases hb
 rw[if_neg hk11];refine za (za ?_);refine zaa hX zaR rfl ?_ ?_
 ·trivial
 refine zae rfl (fun hb=>?_) (fun hb=>?_)
 ·have hb:(ndK n==12)=true:=hb;have hk:=beq_iff_eq.1 hb;rw[if_pos hk];cases b
  all_goals
   (repeat(first|apply zaf|apply zab|apply zac|apply zad));refine zak ?_;refine yq 4 hX zaR hsf rfl trivial rfl rfl ⟨(by show zg bf+zg (spW zhS)+19 * 1≤1000000000;have:zg (spW zhS)≤20:=(by decide);omega),(ze7 hN)⟩ hI ?_;exact yd ⟨.inl rfl,⟨_,rfl,u8,1,_,rfl,rfl,rfl⟩,za1 (by decide) rfl rfl trivial rfl⟩
 have hb:(ndK n==12)=false:=hb;have hk12:ndK n≠12:=fun e=>by rw[beq_iff_eq.2 e]at hb;cases hb
 rw[if_neg hk12];refine za (za ?_);refine zaa hX zaR rfl ?_ ?_
 ·trivial
 refine zae rfl (fun hb=>?_) (fun hb=>?_)
 ·have hb:(ndK n==13)=true:=hb;have hk:=beq_iff_eq.1 hb;rw[if_pos hk];cases b
  all_goals
   (repeat(first|apply zaf|apply zab|apply zac|apply zad));refine zak ?_;refine yq 4 hX zaR hsf rfl trivial rfl rfl ⟨(by show zg bf+zg (spW zeR)+19 * 1≤1000000000;have:zg (spW zeR)≤20:=(by decide);omega),(ze7 hN)⟩ hI ?_;exact yd ⟨.inl rfl,⟨_,rfl,u8,1,_,rfl,rfl,rfl⟩,za1 (by decide) rfl rfl trivial rfl⟩
 have hb:(ndK n==13)=false:=hb;have hk13:ndK n≠13:=fun e=>by rw[beq_iff_eq.2 e]at hb;cases hb
 rw[if_neg hk13];refine za (za ?_);refine zaa hX zaR rfl ?_ ?_
 ·trivial
 refine zae rfl (fun hb=>?_) (fun hb=>?_)
 ·have hb:(ndK n==14)=true:=hb;have hk:=beq_iff_eq.1 hb;rw[if_pos hk];refine xM (σ':=⟨[(0,⟨.hptr,((0:Nat),(0:Nat))⟩),(3,⟨.optr nd,⟨2,nd,.here⟩⟩)],(2,some (.box nd n))::wE ty true ((bf++putS (spW ze1) []:List UInt8)) r,3⟩) ?_ ?_
  ·cases b
   all_goals
    (repeat(first|apply zaf|apply zab|apply zac|apply zad));refine zak ?_;refine yq 1 hX zaR hsf rfl trivial rfl rfl ⟨(by show zg bf+zg (spW ze1)+19 * 0≤1000000000;have:zg (spW ze1)≤20:=(by decide);omega),(fun x hx=>by cases hx)⟩ hI ?_;exact yd ⟨⟨rfl,rfl,trivial⟩,⟨rfl,rfl,rfl,trivial⟩,rfl,rfl⟩
  have hl2:zg (bf++putS (spW ze1) []:List UInt8)+20 * zg (ndI n)+1≤1000000000:=by
   have:=zbK (l:=[]) (fun x hx=>by cases hx);have hw:zg (spW ze1)≤20:=by decide
   simp only[putS,zh,zs,ya]at this ⊢;omega
  rw[show (bf++(putS (spW ze1) []++zch (ndI n)):List UInt8)=bf++putS (spW ze1) []++zch (ndI n) from (cat3 _ _ _).symm];(repeat(first|apply zaf|apply zab|apply zac|apply zad));refine zak ?_;refine yq 3 hX zaR hsf rfl trivial rfl rfl ⟨hl2,hI'⟩ hI ?_;exact yd ⟨.inl rfl,⟨_,rfl,u8,1,_,rfl,rfl,rfl⟩,za1 (by decide) rfl rfl trivial rfl⟩
 have hb:(ndK n==14)=false:=hb;have hk14:ndK n≠14:=fun e=>by rw[beq_iff_eq.2 e]at hb;cases hb
 rw[if_neg hk14];refine za (za ?_);refine zaa hX zaR rfl ?_ ?_
 ·trivial
 refine zae rfl (fun hb=>?_) (fun hb=>?_)
 ·have hb:(ndK n==15)=true:=hb;have hk:=beq_iff_eq.1 hb;rw[if_pos hk];refine xM (σ':=⟨[(0,⟨.hptr,((0:Nat),(0:Nat))⟩),(3,⟨.optr nd,⟨2,nd,.here⟩⟩)],(2,some (.box nd n))::wE ty true ((bf++putS (spW zcz) []:List UInt8)) r,3⟩) ?_ ?_
  ·cases b
   all_goals
    (repeat(first|apply zaf|apply zab|apply zac|apply zad));refine zak ?_;refine yq 1 hX zaR hsf rfl trivial rfl rfl ⟨(by show zg bf+zg (spW zcz)+19 * 0≤1000000000;have:zg (spW zcz)≤20:=(by decide);omega),(fun x hx=>by cases hx)⟩ hI ?_;exact yd ⟨⟨rfl,rfl,trivial⟩,⟨rfl,rfl,rfl,trivial⟩,rfl,rfl⟩
  have hl2:zg (bf++putS (spW zcz) []:List UInt8)+20 * zg (ndI n)+1≤1000000000:=by
   have:=zbK (l:=[]) (fun x hx=>by cases hx);have hw:zg (spW zcz)≤20:=by decide
   simp only[putS,zh,zs,ya]at this ⊢;omega
  rw[show (bf++(putS (spW zcz) []++zch (ndI n)):List UInt8)=bf++putS (spW zcz) []++zch (ndI n) from (cat3 _ _ _).symm];(repeat(first|apply zaf|apply zab|apply zac|apply zad));refine zak ?_;refine yq 3 hX zaR hsf rfl trivial rfl rfl ⟨hl2,hI'⟩ hI ?_;exact yd ⟨.inl rfl,⟨_,rfl,u8,1,_,rfl,rfl,rfl⟩,za1 (by decide) rfl rfl trivial rfl⟩
 have hb:(ndK n==15)=false:=hb;have hk15:ndK n≠15:=fun e=>by rw[beq_iff_eq.2 e]at hb;cases hb
 rw[if_neg hk15];refine za (za ?_);refine zaa hX zaR rfl ?_ ?_
 ·trivial
 refine zae rfl (fun hb=>?_) (fun hb=>?_)
 ·have hb:(ndK n==16)=true:=hb;have hk:=beq_iff_eq.1 hb;rw[if_pos hk];obtain⟨hs0,hs1⟩:=hsc hk;refine xM (σ':=⟨[(0,⟨.hptr,((0:Nat),(0:Nat))⟩),(3,⟨.optr nd,⟨2,nd,.here⟩⟩)],(2,some (.box nd n))::wE ty true ((bf++putS (spW wPos) [ndC n]:List UInt8)) r,3⟩) ?_ ?_
  ·cases b
   all_goals
    (repeat(first|apply zaf|apply zab|apply zac|apply zad));refine zak ?_;refine yq 4 hX zaR hsf rfl trivial rfl rfl ⟨(by show zg bf+zg (spW wPos)+19 * 1≤1000000000;have:zg (spW wPos)≤20:=(by decide);omega),(ze7 hC)⟩ hI ?_;exact yd ⟨⟨rfl,rfl,trivial⟩,⟨rfl,rfl,rfl,trivial⟩,rfl,rfl⟩
  have hl2:zg (bf++putS (spW wPos) [ndC n]:List UInt8)+zg (zcr (ndM n))+19 * 0≤1000000000:=by
   have:=zbK (ze7 hC);have hw:zg (spW wPos)≤20:=by decide
   have hs:=zdK (ndM n);simp only[putS,zh,zs,ya]at this ⊢;omega
  refine xM (σ':=⟨[(0,⟨.hptr,((0:Nat),(0:Nat))⟩),(3,⟨.optr nd,⟨2,nd,.here⟩⟩)],(2,some (.box nd n))::wE ty true ((bf++putS (spW wPos) [ndC n]++putS (zcr (ndM n)) []:List UInt8)) r,3⟩) ?_ ?_
  ·cases b
   all_goals
    (repeat(first|apply zaf|apply zab|apply zac|apply zad));refine zak ?_;refine yq 4 hX zaR hsf rfl ⟨hs0,hs1⟩ rfl rfl ⟨hl2,fun x hx=>by cases hx⟩ hI ?_;exact yd ⟨⟨rfl,rfl,trivial⟩,⟨rfl,rfl,rfl,trivial⟩,rfl,rfl⟩
  have hl2b:zg (bf++putS (spW wPos) [ndC n]++putS (zcr (ndM n)) []:List UInt8)+20 * zg (ndI n)+1≤1000000000:=by
   have:=zbK (ze7 hC);have hw:zg (spW wPos)≤20:=by decide
   have hs:=zdK (ndM n);have h0:zg (zcg [])=0:=rfl;simp only[putS,zh,zs,ya]at this h0 ⊢;omega
  rw[show (bf++(putS (spW wPos) [ndC n]++(putS (zcr (ndM n)) []++zch (ndI n))):List UInt8)=bf++putS (spW wPos) [ndC n]++putS (zcr (ndM n)) []++zch (ndI n) from (cat4 _ _ _ _).symm];(repeat(first|apply zaf|apply zab|apply zac|apply zad));refine zak ?_;refine yq 3 hX zaR hsf rfl trivial rfl rfl ⟨hl2b,hI'⟩ hI ?_;exact yd ⟨.inl rfl,⟨_,rfl,u8,1,_,rfl,rfl,rfl⟩,za1 (by decide) rfl rfl trivial rfl⟩
 have hb:(ndK n==16)=false:=hb;have hk16:ndK n≠16:=fun e=>by rw[beq_iff_eq.2 e]at hb;cases hb
 rw[if_neg hk16];refine za (za ?_);refine zaa hX zaR rfl ?_ ?_
 ·trivial
 refine zae rfl (fun hb=>?_) (fun hb=>?_)
 ·have hb:(ndK n==17)=true:=hb;have hk:=beq_iff_eq.1 hb;rw[if_pos hk];refine xM (σ':=⟨[(0,⟨.hptr,((0:Nat),(0:Nat))⟩),(3,⟨.optr nd,⟨2,nd,.here⟩⟩)],(2,some (.box nd n))::wE ty true ((bf++putS (spW zbG) [ndN n]:List UInt8)) r,3⟩) ?_ ?_
  ·cases b
   all_goals
    (repeat(first|apply zaf|apply zab|apply zac|apply zad));refine zak ?_;refine yq 4 hX zaR hsf rfl trivial rfl rfl ⟨(by show zg bf+zg (spW zbG)+19 * 1≤1000000000;have:zg (spW zbG)≤20:=(by decide);omega),(ze7 hN)⟩ hI ?_;exact yd ⟨⟨rfl,rfl,trivial⟩,⟨rfl,rfl,rfl,trivial⟩,rfl,rfl⟩
  obtain⟨hb0,hb1,hb2⟩:=hbh hk;have hl2:zg (bf++putS (spW zbG) [ndN n]:List UInt8)+zg (spW wOf++ [32]:List UInt8)+19 * 0≤1000000000:=by
   have:=zbK (ze7 hN);have hw:zg (spW zbG)≤20:=by decide
   have hw2:zg (spW wOf++ [32]:List UInt8)≤20:=by decide
   rw[zh];simp only[putS,zh,zs,ya]at this hw2 ⊢;omega
  refine xM (σ':=⟨[(0,⟨.hptr,((0:Nat),(0:Nat))⟩),(3,⟨.optr nd,⟨2,nd,.here⟩⟩)],(2,some (.box nd n))::wE ty true ((bf++putS (spW zbG) [ndN n]++putS (spW wOf++ [32]) []:List UInt8)) r,3⟩) ?_ ?_
  ·cases b
   all_goals
    (repeat(first|apply zaf|apply zab|apply zac|apply zad));refine zak ?_;refine yq 1 hX zaR hsf rfl trivial rfl rfl ⟨hl2,fun x hx=>by cases hx⟩ hI ?_;exact yd ⟨⟨rfl,rfl,trivial⟩,⟨rfl,rfl,rfl,trivial⟩,rfl,rfl⟩
  have hl3:zg (bf++putS (spW zbG) [ndN n]++putS (spW wOf++ [32]) []:List UInt8)+zg (opdF k r (ndR n) 5)+10000≤1000000000:=by
   rw[if_neg hk11,if_neg hk12,if_neg hk13,if_neg hk14,if_neg hk15,if_neg hk16,if_pos hk]at hT;rw[zh,zh]at hT ⊢;omega
  rw[show (bf++(putS (spW zbG) [ndN n]++(putS (spW wOf++ [32]) []++opdF k r (ndR n) 5)):List UInt8)=bf++putS (spW zbG) [ndN n]++putS (spW wOf++ [32]) []++opdF k r (ndR n) 5 from (cat4 _ _ _ _).symm];(repeat(first|apply zaf|apply zab|apply zac|apply zad));refine zak ?_;refine yq 3 hX zaR hsf rfl trivial rfl rfl ⟨hwf,hb0,hb1,hb2,hl3⟩ hI ?_;exact yd ⟨.inl rfl,⟨_,rfl,u8,1,_,rfl,rfl,rfl⟩,za1 (by decide) rfl rfl trivial rfl⟩
 have hb:(ndK n==17)=false:=hb;have hk17:ndK n≠17:=fun e=>by rw[beq_iff_eq.2 e]at hb;cases hb
 rw[if_neg hk17];exfalso;omega
@[reducible] def zkA (k:Nat):HCtr:=hW [i64] (fun x xs=>[WfP x.2.2.1,0≤xs.1,xs.1.toNat < k,xs.1.toNat < zg x.2.2.1,zg x.2.1+zg (zaT k x.2.2.1 xs.1)+10000≤1000000000]) fun x xs=>zaT k x.2.2.1 xs.1
def kOd:Kn:={ gmK with C:=[(98,zmz),(101,cOps)] }
theorem zb0:KnOk Tryz.prog gmH kOd:=zaj.with (.cons zq8 <| .cons zgp .nil)
def hOd (k:Nat):List (zT×HCtr):=[(66,cWSP),(60,zkA k)]
theorem zm7 (k:Nat) (hNd:zaE Tryz.prog gmH 60 (zkA k)):zaE Tryz.prog gmH 99 (cOpd k):=by
 have hod:HsOk Tryz.prog gmH (hOd k):=.cons zh9 <| .cons hNd .nil;refine zaw (K:=_) zb0 Tryz.func99 rfl rfl (zcC rfl) Tryz.call99 rfl (zb rfl) (zdJ prT [107]) ?_;rintro w0 ⟨G,O,K,fix,D,ρ,B⟩ ty hX hG hK hρ hD hinv ⟨(b:Bool),(bf:List UInt8),(r:List Nd),⟨⟩⟩ ⟨(i:Int),(q:Int),⟨⟩⟩ hp;obtain rfl:G=gmH:=hG;obtain rfl:K=1:=hK;obtain rfl:ρ=none:=hρ;obtain rfl:D=[]:=hD;have hI:=fun w R hR hw=>(⟨zaJ (ty:=ty) hX rfl hinv.1 (ty':=ty) w R hR hw,hinv.2⟩:bInv prT [107] w R ty);obtain⟨hwf,h0,hk,hr,hT⟩:WfP r∧0≤i∧i.toNat < k∧i.toNat < r.length∧bf.length+(opdF k r i q).length+10000≤1000000000:=hp;have hil:i < ((r.length:Nat):Int):=by omega
 change AWP _ _ _ _ _ ⟨[(0,⟨.hptr,((0:Nat),(0:Nat))⟩),(1,⟨i64,i⟩),(2,⟨i64,q⟩)],wE ty b bf r,2⟩ (wQ _ (cOpd k) ty (.ok ((),(true,((bf++opdF k r i q:List UInt8),(r,()))))));unfold opdF at hT ⊢;apply zaf;refine xM (σ':=⟨[(0,⟨.hptr,((0:Nat),(0:Nat))⟩),(1,⟨i64,i⟩),(16,⟨.bool,decide (levS (ndK (zao r i))≥q)⟩)],wE ty b bf r,2⟩) ?_ ?_
 ·cases b
  all_goals
   refine zak ?_;refine yh 2 hX zb0 rfl trivial ?_;refine jK (eqP1 _ _ rfl) hX zb0 rfl trivial ?_;refine zV hX zb0 rfl ⟨h0,hil⟩ ?_;exact⟨⟨rfl,rfl,rfl,trivial⟩,⟨rfl,rfl,trivial⟩,rfl,rfl⟩
 refine zae rfl (fun hb=>?_) (fun hb=>?_)
 ·have hb:decide (levS (ndK (zao r i))≥q)=true:=hb;rw[hb]at hT ⊢;have hT:bf.length+(zaT k r i).length+10000≤1000000000:=hT;show AWP _ _ _ _ _ _ (zjD _ (wQ _ (cOpd k) ty (.ok ((),(true,((bf++zaT k r i:List UInt8),(r,())))))));cases b
  all_goals
   (repeat(first|apply zaf|apply zab|apply zac|apply zad));refine zak ?_;refine yq 2 hX zb0 hod rfl trivial rfl rfl ⟨hwf,h0,hk,hr,hT⟩ hI ?_;refine yd ?_;exact zl ⟨.inr rfl,⟨_,rfl,u8,1,_,rfl,rfl,rfl⟩,za1 (by decide) rfl rfl trivial rfl⟩
 ·have hb:decide (levS (ndK (zao r i))≥q)=false:=hb;rw[hb]at hT ⊢;have hT:bf.length+([40]++(zaT k r i++ [41]):List UInt8).length+10000≤1000000000:=hT;rw[zh,zh]at hT;have hT1:bf.length+zg ([40]:List UInt8)≤1000000000:=by omega
  have hT2:zg (bf++ [40]:List UInt8)+(zaT k r i).length+10000≤1000000000:=by rw[zh];omega
  have hT3:zg (bf++ [40]++zaT k r i:List UInt8)+zg ([41]:List UInt8)≤1000000000:=by rw[zh,zh];omega
  apply zab;rw[show (bf++parS false (zaT k r i):List UInt8)=bf++ [40]++zaT k r i++ [41] from (cat4 _ _ _ _).symm];refine xM (σ':=⟨[(0,⟨.hptr,((0:Nat),(0:Nat))⟩),(1,⟨i64,i⟩)],wE ty true ((bf++ [40]:List UInt8)) r,2⟩) ?_ ?_
  ·cases b
   all_goals
    refine zak ?_;refine yh 2 hX zb0 rfl trivial ?_;refine jK (eqP0 _ _ rfl) hX zb0 rfl trivial ?_;refine yq 0 hX zb0 hod rfl trivial rfl rfl hT1 hI ?_;exact yd ⟨⟨rfl,rfl,trivial⟩,⟨rfl,rfl,trivial⟩,rfl,rfl⟩
  (repeat(first|apply zaf|apply zab|apply zac|apply zad));refine zak ?_;refine yq 2 hX zb0 hod rfl trivial rfl rfl ⟨hwf,h0,hk,hr,hT2⟩ hI ?_;refine yd ?_;refine zap (σ':=⟨[(0,⟨.hptr,((0:Nat),(0:Nat))⟩)],wE ty true ((bf++ [40]++zaT k r i:List UInt8)) r,2⟩) ⟨⟨rfl,trivial⟩,⟨rfl,rfl,trivial⟩,rfl,rfl⟩ ?_;refine zak ?_;refine yh 2 hX zb0 rfl trivial ?_;refine jK (eqP0 _ _ rfl) hX zb0 rfl trivial ?_;refine yq 0 hX zb0 hod rfl trivial rfl rfl hT3 hI ?_;refine yd ?_;exact⟨.inl rfl,⟨_,rfl,u8,1,_,rfl,rfl,rfl⟩,za1 (by decide) rfl rfl trivial rfl⟩
theorem zs5 {k:Int} (h:levS k < 4):(8≤k∧k≤10)∧1≤levS k:=by
 unfold levS at *;split at h
 ·rename_i e;subst e;decide
 ·split at h
  ·rename_i e;subst e;decide
  ·split at h
   ·rename_i e;subst e;decide
   ·split at h<;>omega
theorem levS_4 {k:Int} (h:levS k=4):11≤k∧k≤17:=by
 unfold levS at h;split at h
 ·omega
 ·split at h
  ·omega
  ·split at h
   ·omega
   ·split at h
    ·assumption
    ·omega
theorem levS_5 {k:Int} (h4:¬ levS k < 4) (h5:levS k≠4):¬ (8≤k∧k≤17):=by
 intro hk;unfold levS at *;split at h4
 ·omega
 ·split at h4
  ·omega
  ·split at h4
   ·omega
   ·split at h4
    ·rename_i a b c d;rw[if_neg a,if_neg b,if_neg c,if_pos d]at h5;exact h5 rfl
    ·omega
def hNo (k:Nat):List (zT×HCtr):=[(99,cOpd k),(100,cPut),(102,zrK k),(103,zpS)]
theorem zsT (k:Nat) (hOp:zaE Tryz.prog gmH 99 (cOpd k)) (hSu:zaE Tryz.prog gmH 102 (zrK k)):zaE Tryz.prog gmH 60 (zkA (k+1)):=by
 have hno:HsOk Tryz.prog gmH (hNo k):=.cons hOp <| .cons zou <| .cons hSu <| .cons zrb .nil;refine zaw (K:=_) zb0 Tryz.func60 rfl rfl (zcC rfl) Tryz.call60 rfl (zb rfl) (zdJ prT [107]) ?_;rintro w0 ⟨G,O,K,fix,D,ρ,B⟩ ty hX hG hK hρ hD hinv ⟨(b:Bool),(bf:List UInt8),(r:List Nd),⟨⟩⟩ ⟨(i:Int),⟨⟩⟩ hp;obtain rfl:G=gmH:=hG;obtain rfl:K=1:=hK;obtain rfl:ρ=none:=hρ;obtain rfl:D=[]:=hD;have hI:=fun w R hR hw=>(⟨zaJ (ty:=ty) hX rfl hinv.1 (ty':=ty) w R hR hw,hinv.2⟩:bInv prT [107] w R ty);obtain⟨hwf,h0,hk,hr,hT⟩:WfP r∧0≤i∧i.toNat < k+1∧i.toNat < r.length∧bf.length+(zaT (k+1) r i).length+10000≤1000000000:=hp;have hil:i < ((r.length:Nat):Int):=by omega
 obtain⟨hnum,⟨hk1,hk18⟩,hL,hR⟩:=hwf.2 i.toNat hr;have hi:((i.toNat:Nat):Int)=i:=xz h0;rw[hi]at hnum hk1 hk18 hL hR;change AWP _ _ _ _ _ ⟨[(0,⟨.hptr,((0:Nat),(0:Nat))⟩),(1,⟨i64,i⟩)],wE ty b bf r,2⟩ (wQ _ (zkA (k+1)) ty (.ok ((),(true,((bf++zaT (k+1) r i:List UInt8),(r,()))))));unfold zaT at hT ⊢;generalize hn:zao r i=n at *;refine xM (σ':=⟨[(0,⟨.hptr,((0:Nat),(0:Nat))⟩),(4,⟨.optr nd,⟨2,nd,.here⟩⟩)],(2,some (.box nd n))::wE ty b bf r,3⟩) ?_ ?_
 ·subst hn;cases b
  all_goals
   refine zak ?_;refine yh 2 hX zb0 rfl trivial ?_;refine jK (eqP1 _ _ rfl) hX zb0 rfl trivial ?_;refine zV hX zb0 rfl ⟨h0,hil⟩ ?_;exact⟨⟨rfl,rfl,trivial⟩,⟨rfl,rfl,rfl,trivial⟩,rfl,rfl⟩
 clear hn;refine xM (σ':=⟨[(0,⟨.hptr,((0:Nat),(0:Nat))⟩),(4,⟨.optr nd,⟨2,nd,.here⟩⟩),(5,⟨i64,levS (ndK n)⟩)],(2,some (.box nd n))::wE ty b bf r,3⟩) ?_ ?_
 ·refine zak ?_;refine zV hX zb0 rfl trivial ?_;exact⟨⟨rfl,rfl,rfl,trivial⟩,⟨rfl,rfl,rfl,trivial⟩,rfl,by cases b<;>rfl⟩
 apply zac;refine za (za ?_);refine zaa hX zb0 rfl ?_ ?_
 ·trivial
 refine zae rfl (fun hb=>?_) (fun hb=>?_)
 ·have hb:decide (levS (ndK n) < 4)=true:=hb;have hb:=of_decide_eq_true hb;rw[if_pos hb]at hT ⊢;obtain⟨⟨hk8,hk10⟩,hl1⟩:=zs5 hb;obtain⟨hL0,hL1⟩:=hL hk8 (by omega);obtain⟨hR0,hR1⟩:=hR hk8 (.inl hk10);generalize levS (ndK n)=x at hb hT hl1;change bf.length+(opdF k r (ndL n) x++(putS ([32]++opWd x++ [32]) []++opdF k r (ndR n) (x+1))).length+10000≤1000000000 at hT;have hx3:x=1∨x=2∨x=3:=by omega
  have hw:zg (opWd x)≤5:=by rcases hx3 with rfl|rfl|rfl<;>decide
  have hT0:=hT;rw[zh,zh]at hT;have hLk:(ndL n).toNat < k:=by omega
  have hLr:(ndL n).toNat < r.length:=by omega
  have hRk:(ndR n).toNat < k:=by omega
  have hRr:(ndR n).toNat < r.length:=by omega
  have hTA:bf.length+(opdF k r (ndL n) x).length+10000≤1000000000:=by omega
  have hM0:zg (putS ([32]++opWd x++ [32]) [])=zg ([32]++opWd x++ [32]:List UInt8):=by
   show zg (([32]++opWd x++ [32])++ []:List UInt8)=_;rw[zS]
  have hM1:zg ([32]++opWd x++ [32]:List UInt8)≤7:=by
   rw[zh,zh];show 1+_+1≤7;omega
  have hTM:zg (bf++opdF k r (ndL n) x:List UInt8)+zg ([32]++opWd x++ [32]:List UInt8)+19 * 0≤1000000000:=by rw[zh];omega
  have hTC:zg (bf++opdF k r (ndL n) x++putS ([32]++opWd x++ [32]) []:List UInt8)+(opdF k r (ndR n) (x+1)).length+10000≤1000000000:=by rw[zh,zh];omega
  have q0:inR .i64 (x - 1):=zam (by omega) (by omega);have q1:inR .i64 (x+1):=zam (by omega) (by omega);have q2:(0:Int)≤x - 1:=by omega
  have q3:x - 1 < ((opsL.length:Nat):Int):=by show x - 1 < ((3:Nat):Int);omega
  have q4:1+zg (opWd x)≤maxLen:=by unfold maxLen;omega
  have q5:zg ([32]++opWd x:List UInt8)+1≤maxLen:=by rw[zh];show 1+_+1≤_;unfold maxLen;omega
  change AWP _ _ _ _ _ _ (zkD 0 (wQ _ (zkA (k+1)) ty (.ok ((),(true,((bf++(opdF k r (ndL n) x++(putS ([32]++opWd x++ [32]) []++opdF k r (ndR n) (x+1))):List UInt8),(r,())))))));rw[show (bf++(opdF k r (ndL n) x++(putS ([32]++opWd x++ [32]) []++opdF k r (ndR n) (x+1))):List UInt8)=bf++opdF k r (ndL n) x++putS ([32]++opWd x++ [32]) []++opdF k r (ndR n) (x+1) from (cat4 _ _ _ _).symm];refine xM (σ':=⟨[(0,⟨.hptr,((0:Nat),(0:Nat))⟩),(4,⟨.optr nd,⟨2,nd,.here⟩⟩),(5,⟨i64,x⟩)],(2,some (.box nd n))::wE ty true ((bf++opdF k r (ndL n) x:List UInt8)) r,3⟩) ?_ ?_
  ·cases b
   all_goals
    refine zak ?_;refine yq 4 hX zb0 hno rfl trivial rfl rfl ⟨hwf,hL0,hLk,hLr,hTA⟩ hI ?_;exact yd ⟨⟨rfl,rfl,rfl,trivial⟩,⟨rfl,rfl,rfl,trivial⟩,rfl,rfl⟩
  refine xM (σ':=⟨[(0,⟨.hptr,((0:Nat),(0:Nat))⟩),(4,⟨.optr nd,⟨2,nd,.here⟩⟩),(5,⟨i64,x⟩)],(2,some (.box nd n))::wE ty true ((bf++opdF k r (ndL n) x++putS ([32]++opWd x++ [32]) []:List UInt8)) r,3⟩) ?_ ?_
  ·refine zak ?_;refine yq 9 hX zb0 hno rfl ⟨q0,q2,q3,q4,q5⟩ rfl rfl ⟨hTM,fun y hy=>by cases hy⟩ hI ?_;exact yd ⟨⟨rfl,rfl,rfl,trivial⟩,⟨rfl,rfl,rfl,trivial⟩,rfl,rfl⟩
  refine zak ?_;refine yq 5 hX zb0 hno rfl q1 rfl rfl ⟨hwf,hR0,hRk,hRr,hTC⟩ hI ?_;exact yd ⟨.inl rfl,⟨_,rfl,u8,1,_,rfl,rfl,rfl⟩,za1 (by decide) rfl rfl trivial rfl⟩
 ·have hb:decide (levS (ndK n) < 4)=false:=hb;have hb:=of_decide_eq_false hb;rw[if_neg hb]at hT ⊢;apply zaf;refine za (za ?_);refine zaa hX zb0 rfl ?_ ?_
  ·trivial
  refine zae rfl (fun hc=>?_) (fun hc=>?_)
  ·have hc:(levS (ndK n)==4)=true:=hc;have hc:=beq_iff_eq.1 hc;rw[if_pos hc]at hT ⊢;obtain⟨hk11,hk17⟩:=levS_4 hc;obtain⟨hL0,hL1⟩:=hL (by omega) hk17;have hLk:(ndL n).toNat < k:=by omega
   have hLr:(ndL n).toNat < r.length:=by omega
   have hB:ndK n=17->0≤ndR n∧(ndR n).toNat < k∧(ndR n).toNat < r.length:=fun e=>by
    obtain⟨hR0,hR1⟩:=hR (by omega) (.inr e);exact⟨hR0,by omega,by omega⟩
   change bf.length+(opdF k r (ndL n) 4++zcc (opdF k r (ndR n) 5) n).length+10000≤1000000000 at hT;rw[zh]at hT;have hTA:bf.length+(opdF k r (ndL n) 4).length+10000≤1000000000:=by omega
   have hTS:zg (bf++opdF k r (ndL n) 4:List UInt8)+(zcc (opdF k r (ndR n) 5) n).length+10000≤1000000000:=by rw[zh];omega
   change AWP _ _ _ _ _ _ (zkD 0 (wQ _ (zkA (k+1)) ty (.ok ((),(true,((bf++(opdF k r (ndL n) 4++zcc (opdF k r (ndR n) 5) n):List UInt8),(r,())))))));rw[show (bf++(opdF k r (ndL n) 4++zcc (opdF k r (ndR n) 5) n):List UInt8)=bf++opdF k r (ndL n) 4++zcc (opdF k r (ndR n) 5) n from (cat3 _ _ _).symm];refine xM (σ':=⟨[(0,⟨.hptr,((0:Nat),(0:Nat))⟩),(4,⟨.optr nd,⟨2,nd,.here⟩⟩)],(2,some (.box nd n))::wE ty true ((bf++opdF k r (ndL n) 4:List UInt8)) r,3⟩) ?_ ?_
   ·cases b
    all_goals
     refine zak ?_;refine yq 3 hX zb0 hno rfl trivial rfl rfl ⟨hwf,hL0,hLk,hLr,hTA⟩ hI ?_;exact yd ⟨⟨rfl,rfl,trivial⟩,⟨rfl,rfl,rfl,trivial⟩,rfl,rfl⟩
   refine zak ?_;refine yq 2 hX zb0 hno rfl trivial rfl rfl ⟨hwf,hnum,hk11,hk17,hB,hTS⟩ hI ?_;exact yd ⟨.inl rfl,⟨_,rfl,u8,1,_,rfl,rfl,rfl⟩,za1 (by decide) rfl rfl trivial rfl⟩
  ·have hc:(levS (ndK n)==4)=false:=hc;have hc:levS (ndK n)≠4:=fun e=>by rw[beq_iff_eq.2 e]at hc;cases hc
   rw[if_neg hc]at hT ⊢;have h5:=levS_5 hb hc;have hkl:ndK n≤7∨ndK n=18:=by omega
   have hT:bf.length+(zcJ n).length+10000≤1000000000:=hT;have hT1:bf.length+10000≤1000000000:=by omega
   cases b
   all_goals
    refine zak ?_;refine yq 2 hX zb0 hno rfl trivial rfl rfl ⟨hT1,hnum,hk1,hkl⟩ hI ?_;exact yd ⟨.inl rfl,⟨_,rfl,u8,1,_,rfl,rfl,rfl⟩,za1 (by decide) rfl rfl trivial rfl⟩
theorem zrV:∀ k,zaE Tryz.prog gmH 60 (zkA k)∧zaE Tryz.prog gmH 99 (cOpd k)
 |0=>⟨zer (zcC rfl) Tryz.call60 fun x xs h=>absurd h.2.2.1 (yN _),zer (zcC rfl) Tryz.call99 fun x xs h=>absurd h.2.2.1 (yN _)⟩
 |k+1=>by
  obtain⟨h1,h2⟩:=zrV k;have h3:=zsT k h2 (zmK k h2);exact⟨h3,zm7 (k+1) h3⟩
set_option maxRecDepth 10000
theorem zjY {n:Nd} (h:zbA n=true):zkG n:=by
 obtain⟨⟨k1,k2⟩,hl,_⟩:=zaI h;have hs:=zro h;have key:(zbR (ndC n)∧zbR (ndN n)∧zbR (ndM n))∧(∀ x∈ndI n,zbR x)∧(ndK n=7->0≤ndL n∧ndL n≤1)∧(ndK n=16->0≤ndM n∧ndM n≤1):=by
  rcases (show ndK n=1∨ndK n=2∨ndK n=3∨ndK n=4∨ndK n=5∨ndK n=6∨ndK n=7∨ndK n=8∨ndK n=9∨ndK n=10∨ndK n=11∨ndK n=12∨ndK n=13∨ndK n=14∨ndK n=15∨ndK n=16∨ndK n=17∨ndK n=18 by omega) with k|k|k|k|k|k|k|k|k|k|k|k|k|k|k|k|k|k
  ·obtain⟨e,b1,b2⟩:=fld1 h k;have eC:=congrArg ndC e;have eN:=congrArg ndN e;have eM:=congrArg ndM e;have eI:=congrArg ndI e;have eC:ndC n=0:=eC;have eN:ndN n=ndN n:=eN;have eM:ndM n=ndM n:=eM;have eI:ndI n=[]:=eI;refine⟨⟨⟨by omega,by omega⟩,⟨by omega,by omega⟩,⟨by omega,by omega⟩⟩,?_,fun e=>by omega,fun e=>by omega⟩;rw[eI];exact fun x hx=>by cases hx
  ·obtain⟨e,bc,b1,b2⟩:=fld2 h k;have eC:=congrArg ndC e;have eN:=congrArg ndN e;have eM:=congrArg ndM e;have eI:=congrArg ndI e;have eC:ndC n=ndC n:=eC;have eN:ndN n=ndN n:=eN;have eM:ndM n=ndM n:=eM;have eI:ndI n=[]:=eI;refine⟨⟨⟨by omega,by omega⟩,⟨by omega,by omega⟩,⟨by omega,by omega⟩⟩,?_,fun e=>by omega,fun e=>by omega⟩;rw[eI];exact fun x hx=>by cases hx
  ·obtain⟨e,bc,⟨l1,l2,l3⟩⟩:=fld3 h k;have eC:=congrArg ndC e;have eN:=congrArg ndN e;have eM:=congrArg ndM e;have eI:=congrArg ndI e;have eC:ndC n=ndC n:=eC;have eN:ndN n=0:=eN;have eM:ndM n=0:=eM;have eI:ndI n=ndI n:=eI;refine⟨⟨⟨by omega,by omega⟩,⟨by omega,by omega⟩,⟨by omega,by omega⟩⟩,?_,fun e=>by omega,fun e=>by omega⟩;exact fun x hx=>by have:=zcA (by decide) (by decide) l3 x hx;exact⟨by have:=this.1;omega,by have:=this.2;omega⟩
  ·obtain⟨e,bc,⟨l1,l2,l3⟩⟩:=fld4 h k;have eC:=congrArg ndC e;have eN:=congrArg ndN e;have eM:=congrArg ndM e;have eI:=congrArg ndI e;have eC:ndC n=ndC n:=eC;have eN:ndN n=0:=eN;have eM:ndM n=0:=eM;have eI:ndI n=ndI n:=eI;refine⟨⟨⟨by omega,by omega⟩,⟨by omega,by omega⟩,⟨by omega,by omega⟩⟩,?_,fun e=>by omega,fun e=>by omega⟩;exact fun x hx=>by have:=zcA (by decide) (by decide) l3 x hx;exact⟨by have:=this.1;omega,by have:=this.2;omega⟩
  ·obtain⟨e,⟨l1,l2,l3⟩⟩:=fld5 h k;have eC:=congrArg ndC e;have eN:=congrArg ndN e;have eM:=congrArg ndM e;have eI:=congrArg ndI e;have eC:ndC n=0:=eC;have eN:ndN n=0:=eN;have eM:ndM n=0:=eM;have eI:ndI n=ndI n:=eI;refine⟨⟨⟨by omega,by omega⟩,⟨by omega,by omega⟩,⟨by omega,by omega⟩⟩,?_,fun e=>by omega,fun e=>by omega⟩;exact fun x hx=>by have:=zcA (by decide) (by decide) l3 x hx;exact⟨by have:=this.1;omega,by have:=this.2;omega⟩
  ·obtain⟨e,bc,⟨l1,l2,l3⟩⟩:=fld6 h k;have eC:=congrArg ndC e;have eN:=congrArg ndN e;have eM:=congrArg ndM e;have eI:=congrArg ndI e;have eC:ndC n=ndC n:=eC;have eN:ndN n=0:=eN;have eM:ndM n=0:=eM;have eI:ndI n=ndI n:=eI;refine⟨⟨⟨by omega,by omega⟩,⟨by omega,by omega⟩,⟨by omega,by omega⟩⟩,?_,fun e=>by omega,fun e=>by omega⟩;exact fun x hx=>by have:=zcA (by decide) (by decide) l3 x hx;exact⟨by have:=this.1;omega,by have:=this.2;omega⟩
  ·obtain⟨e,bc,b1,bz,b2,b3⟩:=fld7 h k;have eC:=congrArg ndC e;have eN:=congrArg ndN e;have eM:=congrArg ndM e;have eI:=congrArg ndI e;have eC:ndC n=ndC n:=eC;have eN:ndN n=ndN n:=eN;have eM:ndM n=ndM n:=eM;have eI:ndI n=[]:=eI;refine⟨⟨⟨by omega,by omega⟩,⟨by omega,by omega⟩,⟨by omega,by omega⟩⟩,?_,fun e=>by omega,fun e=>by omega⟩;rw[eI];exact fun x hx=>by cases hx
  ·have e:=fld8 h k;have eC:=congrArg ndC e;have eN:=congrArg ndN e;have eM:=congrArg ndM e;have eI:=congrArg ndI e;have eC:ndC n=0:=eC;have eN:ndN n=0:=eN;have eM:ndM n=0:=eM;have eI:ndI n=[]:=eI;refine⟨⟨⟨by omega,by omega⟩,⟨by omega,by omega⟩,⟨by omega,by omega⟩⟩,?_,fun e=>by omega,fun e=>by omega⟩;rw[eI];exact fun x hx=>by cases hx
  ·have e:=fld9 h k;have eC:=congrArg ndC e;have eN:=congrArg ndN e;have eM:=congrArg ndM e;have eI:=congrArg ndI e;have eC:ndC n=0:=eC;have eN:ndN n=0:=eN;have eM:ndM n=0:=eM;have eI:ndI n=[]:=eI;refine⟨⟨⟨by omega,by omega⟩,⟨by omega,by omega⟩,⟨by omega,by omega⟩⟩,?_,fun e=>by omega,fun e=>by omega⟩;rw[eI];exact fun x hx=>by cases hx
  ·have e:=fld10 h k;have eC:=congrArg ndC e;have eN:=congrArg ndN e;have eM:=congrArg ndM e;have eI:=congrArg ndI e;have eC:ndC n=0:=eC;have eN:ndN n=0:=eN;have eM:ndM n=0:=eM;have eI:ndI n=[]:=eI;refine⟨⟨⟨by omega,by omega⟩,⟨by omega,by omega⟩,⟨by omega,by omega⟩⟩,?_,fun e=>by omega,fun e=>by omega⟩;rw[eI];exact fun x hx=>by cases hx
  ·obtain⟨e,b1⟩:=ztv h k;have eC:=congrArg ndC e;have eN:=congrArg ndN e;have eM:=congrArg ndM e;have eI:=congrArg ndI e;have eC:ndC n=0:=eC;have eN:ndN n=ndN n:=eN;have eM:ndM n=0:=eM;have eI:ndI n=[]:=eI;refine⟨⟨⟨by omega,by omega⟩,⟨by omega,by omega⟩,⟨by omega,by omega⟩⟩,?_,fun e=>by omega,fun e=>by omega⟩;rw[eI];exact fun x hx=>by cases hx
  ·obtain⟨e,b1⟩:=ztu h k;have eC:=congrArg ndC e;have eN:=congrArg ndN e;have eM:=congrArg ndM e;have eI:=congrArg ndI e;have eC:ndC n=0:=eC;have eN:ndN n=ndN n:=eN;have eM:ndM n=0:=eM;have eI:ndI n=[]:=eI;refine⟨⟨⟨by omega,by omega⟩,⟨by omega,by omega⟩,⟨by omega,by omega⟩⟩,?_,fun e=>by omega,fun e=>by omega⟩;rw[eI];exact fun x hx=>by cases hx
  ·obtain⟨e,b1⟩:=ztt h k;have eC:=congrArg ndC e;have eN:=congrArg ndN e;have eM:=congrArg ndM e;have eI:=congrArg ndI e;have eC:ndC n=0:=eC;have eN:ndN n=ndN n:=eN;have eM:ndM n=0:=eM;have eI:ndI n=[]:=eI;refine⟨⟨⟨by omega,by omega⟩,⟨by omega,by omega⟩,⟨by omega,by omega⟩⟩,?_,fun e=>by omega,fun e=>by omega⟩;rw[eI];exact fun x hx=>by cases hx
  ·obtain⟨e,⟨l1,l2,l3⟩⟩:=zrr h k;have eC:=congrArg ndC e;have eN:=congrArg ndN e;have eM:=congrArg ndM e;have eI:=congrArg ndI e;have eC:ndC n=0:=eC;have eN:ndN n=0:=eN;have eM:ndM n=0:=eM;have eI:ndI n=ndI n:=eI;refine⟨⟨⟨by omega,by omega⟩,⟨by omega,by omega⟩,⟨by omega,by omega⟩⟩,?_,fun e=>by omega,fun e=>by omega⟩;exact fun x hx=>by have:=zcA (by decide) (by decide) l3 x hx;exact⟨by have:=this.1;omega,by have:=this.2;omega⟩
  ·obtain⟨e,⟨l1,l2,l3⟩⟩:=zrq h k;have eC:=congrArg ndC e;have eN:=congrArg ndN e;have eM:=congrArg ndM e;have eI:=congrArg ndI e;have eC:ndC n=0:=eC;have eN:ndN n=0:=eN;have eM:ndM n=0:=eM;have eI:ndI n=ndI n:=eI;refine⟨⟨⟨by omega,by omega⟩,⟨by omega,by omega⟩,⟨by omega,by omega⟩⟩,?_,fun e=>by omega,fun e=>by omega⟩;exact fun x hx=>by have:=zcA (by decide) (by decide) l3 x hx;exact⟨by have:=this.1;omega,by have:=this.2;omega⟩
  ·obtain⟨e,bc,⟨l1,l2,l3⟩,b1⟩:=zrp h k;have eC:=congrArg ndC e;have eN:=congrArg ndN e;have eM:=congrArg ndM e;have eI:=congrArg ndI e;have eC:ndC n=ndC n:=eC;have eN:ndN n=0:=eN;have eM:ndM n=ndM n:=eM;have eI:ndI n=ndI n:=eI;refine⟨⟨⟨by omega,by omega⟩,⟨by omega,by omega⟩,⟨by omega,by omega⟩⟩,?_,fun e=>by omega,fun e=>by omega⟩;exact fun x hx=>by have:=zcA (by decide) (by decide) l3 x hx;exact⟨by have:=this.1;omega,by have:=this.2;omega⟩
  ·obtain⟨e,b1⟩:=zts h k;have eC:=congrArg ndC e;have eN:=congrArg ndN e;have eM:=congrArg ndM e;have eI:=congrArg ndI e;have eC:ndC n=0:=eC;have eN:ndN n=ndN n:=eN;have eM:ndM n=0:=eM;have eI:ndI n=[]:=eI;refine⟨⟨⟨by omega,by omega⟩,⟨by omega,by omega⟩,⟨by omega,by omega⟩⟩,?_,fun e=>by omega,fun e=>by omega⟩;rw[eI];exact fun x hx=>by cases hx
  ·obtain⟨e,bn⟩:=ztr h k;have eC:=congrArg ndC e;have eN:=congrArg ndN e;have eM:=congrArg ndM e;have eI:=congrArg ndI e;have eC:ndC n=0:=eC;have eN:ndN n=0:=eN;have eM:ndM n=0:=eM;have eI:ndI n=[]:=eI;refine⟨⟨⟨by omega,by omega⟩,⟨by omega,by omega⟩,⟨by omega,by omega⟩⟩,?_,fun e=>by omega,fun e=>by omega⟩;rw[eI];exact fun x hx=>by cases hx
 exact⟨key.1,key.2.1,by omega,by omega,key.2.2⟩
theorem wfp_of {r:List Nd} (h:wfS r=true):WfP r:=by
 obtain⟨⟨h1,h2⟩,h3,h4⟩:=zcN h;refine⟨by omega,fun j hj=>?_⟩;obtain⟨f1,f2⟩:=zcL h3 hj;obtain⟨l1,l2⟩:=zhj h3 j hj;exact⟨zjY f1,(zaI f1).1,l1,l2⟩
theorem zfv (c:Bool) (t:List UInt8):(parS c t).length≤t.length+2:=by
 cases c with
 |true=>show t.length≤_;omega
 |false=>show ([40]++(t++ [41]):List UInt8).length≤_;simp
theorem zra {n:Nd} (h:zkG n):(zcJ n).length≤2100:=by
 obtain⟨⟨hC,hN,hM⟩,hI,hl,hs,_⟩:=h;have l1:∀ w:List UInt8,w.length≤10->∀ l:List Int,l.length≤3->(∀ x∈l,zbR x)->(putS w l).length≤67:=fun w hw l hl hx=>by
  have:=zbK hx;unfold putS;rw[zh];omega
 have l2:(zch (ndI n)).length≤2001:=by
  have:=zeI (ndI n) 0 hI;unfold zch;rw[zh,xi];omega
 have p0:∀ x∈([]:List Int),zbR x:=fun x hx=>by cases hx
 have p1:∀ x∈ [ndC n],zbR x:=fun x hx=>by rw[zy.1 hx];exact hC
 have p2:∀ x∈ [ndN n,ndM n],zbR x:=fun x hx=>by
  rcases yg.1 hx with rfl|hx
  ·exact hN
  ·rw[zy.1 hx];exact hM
 have p3:∀ x∈ [ndC n,ndN n,ndM n],zbR x:=fun x hx=>by
  rcases yg.1 hx with rfl|hx
  ·exact hC
  ·exact p2 x hx
 unfold zcJ;split
 ·exact zU (l1 _ (by decide) _ (by simp) p2) (by decide)
 split
 ·exact zU (l1 _ (by decide) _ (by simp) p3) (by decide)
 split
 ·rw[zh];have:=l1 zcy (by decide) _ (by simp) p1;omega
 split
 ·rw[zh];have:=l1 za7 (by decide) _ (by simp) p1;omega
 split
 ·rw[zh];have:=l1 zbm (by decide) _ (by simp) p0;omega
 split
 ·rw[zh];have:=l1 zdk (by decide) _ (by simp) p1;omega
 split
 ·rw[zh];have:=l1 wNth (by decide) _ (by simp) p3;have:=l1 (zcr (ndL n)) (zdK _) [] (by decide) p0;omega
 split
 ·show (64::ndS n++ []).length≤_;rw[zS,zs];omega
 ·exact zn _
theorem znM {n:Nd} (b:List UInt8) (h:zkG n):(zcc b n).length≤2200+b.length:=by
 obtain⟨⟨hC,hN,hM⟩,hI,hl,hs,_⟩:=h;have l1:∀ w:List UInt8,w.length≤10->∀ l:List Int,l.length≤3->(∀ x∈l,zbR x)->(putS w l).length≤67:=fun w hw l hl hx=>by
  have:=zbK hx;unfold putS;rw[zh];omega
 have l2:(zch (ndI n)).length≤2001:=by
  have:=zeI (ndI n) 0 hI;unfold zch;rw[zh,xi];omega
 have p0:∀ x∈([]:List Int),zbR x:=fun x hx=>by cases hx
 have p1:∀ x∈ [ndC n],zbR x:=fun x hx=>by rw[zy.1 hx];exact hC
 have p2:∀ x∈ [ndN n],zbR x:=fun x hx=>by rw[zy.1 hx];exact hN
 unfold zcc;split
 ·have:=l1 (spW zeS) (by decide) _ (by simp) p2;omega
 split
 ·have:=l1 (spW zhS) (by decide) _ (by simp) p2;omega
 split
 ·have:=l1 (spW zeR) (by decide) _ (by simp) p2;omega
 split
 ·rw[zh];have:=l1 (spW ze1) (by decide) _ (by simp) p0;omega
 split
 ·rw[zh];have:=l1 (spW zcz) (by decide) _ (by simp) p0;omega
 split
 ·rw[zh,zh];have:=l1 (spW wPos) (by decide) _ (by simp) p1;have:=l1 (zcr (ndM n)) (zdK _) [] (by decide) p0;omega
 split
 ·rw[zh,zh];have:=l1 (spW zbG) (by decide) _ (by simp) p2;have:=l1 (spW wOf++ [32]) (by decide) [] (by decide) p0;omega
 ·exact zn _
theorem zfm:∀ t:Tr,TrOk t->t.text.length≤3000 * t.size
 | .leaf n,h=>by
  have:=zra (zjY h.1);show (zcJ n).length≤3000 * 1;omega
 | .un n a,h=>by
  have h1:=znM [] (zjY h.1);have h2:=zfm a h.2.2.2;have h3:=zfv (decide (a.lev≥4)) a.text;show (parS _ a.text++zcc [] n).length≤3000 * (a.size+1);rw[zh];rw[ya]at h1;omega
 | .bin n a b,h=>by
  have h1:=zfm a h.2.2.2.1;have h2:=zfm b h.2.2.2.2;show _≤3000 * (a.size+b.size+1);rw[zlI];split
  ·have h3:=zfv (decide (a.lev≥4)) a.text;have h4:=zfv (decide (b.lev≥5)) b.text;have h5:=znM (parS (decide (b.lev≥5)) b.text) (zjY h.1);rw[zh];omega
  ·have h3:=zfv (decide (a.lev≥levS (ndK n))) a.text;have h4:=zfv (decide (b.lev≥levS (ndK n)+1)) b.text;have h5:(putS ([32]++opWd (levS (ndK n))++ [32]) []).length≤20:=by
    have h6:=zk9 (ndK n);show (([32]++opWd (levS (ndK n))++ [32])++ []:List UInt8).length≤20;rcases (show levS (ndK n)=1∨levS (ndK n)=2∨levS (ndK n)=3∨levS (ndK n)=4∨levS (ndK n)=5 by omega) with e|e|e|e|e<;>rw[e]<;>decide
   rw[zh,zh];omega
theorem zsx {t:Tr} (h:TrOk t) (hs:t.size≤64):t.text≠ []:=fun e=>by
 have h1:=zm3 h hs;rw[e]at h1;have h2:(match zeW [] with | .ok _=>true| .error _=>false)=false:=by kernel_rfl
 rw[h1]at h2;cases h2
theorem catA {a b:List UInt8} {m n:Nat} (ha:a.length≤m) (hb:b.length≤n):(a++b).length≤m+n:=by rw[zh];omega
theorem cat2 {a b:List UInt8} {m n:Nat} (ha:a.length≤m) (hb:b.length≤n) (h:Nat.ble (m+n) 1048576=true):a.length+b.length≤maxLen:=by have:=zb h;unfold maxLen;omega
def zkx (k:Nat):Ctr:={ args:=[.slice nd,i64],pre:=fun x=>[wfS x.1=true,0≤x.2.1,x.2.1.toNat < k,x.2.1.toNat < zg x.1,(zaT k x.1 x.2.1).length≤1000000],res:=.str,own:=none,out:=fun x=>zaT k x.1 x.2.1 }
def ztL (k:Nat):Ctr:={ args:=[.slice nd,i64,i64],pre:=fun x=>[wfS x.1=true,0≤x.2.1,x.2.1.toNat < k,x.2.1.toNat < zg x.1,(zaT k x.1 x.2.1).length≤1000000],res:=.str,own:=none,out:=fun x=>opdF k x.1 x.2.1 x.2.2.1 }
def kOp7 (k:Nat):Kn:={ gmK with C:=[(155,zmz),(64,zkx k)] }
theorem zsP {k:Nat} (ih:yk Tryz.prog gmH 64 (zkx k)):yk Tryz.prog gmH 110 (ztL k):=by
 have hK:KnOk Tryz.prog gmH (kOp7 k):=zaj.with (.cons zo0 <| .cons ih .nil);refine zal (K:=kOp7 k) hK Tryz.func110 rfl rfl Tryz.call110 rfl (zb rfl) (by intro h;cases h) ?_;rintro w0 X hX ⟨(r:List Nd),(i:Int),(q:Int),_⟩ hp;obtain⟨hw,h0,hk,hr,hT⟩:wfS r=true∧0≤i∧i.toNat < k∧i.toNat < r.length∧(zaT k r i).length≤1000000:=hp;change AWP _ _ _ _ _ ⟨[(0,⟨.slice nd,r⟩),(1,⟨i64,i⟩),(2,⟨i64,q⟩)],[],0⟩ _;have z1:i < ((r.length:Nat):Int):=by omega
 refine za (za ?_);refine zaa hX hK rfl ?_ ?_
 ·trivial
 refine za (za ?_);refine zaa hX hK rfl ?_ ?_
 ·repeat'(first|exact trivial|assumption|exact h0|exact z1|exact hr|(refine⟨?_,?_⟩)|(intro _)|exact zb rfl|exact zd _|(simp_all [allP];done))
 refine zae rfl (fun hc=>?_) (fun hc=>?_)
 ·have hc:decide (levS (ndK (zao r i)) < q)=true:=hc;have hc:=of_decide_eq_true hc;have m1:1+(zaT k r i).length≤maxLen:=by unfold maxLen;omega
  have m2:zg ([40]++zaT k r i:List UInt8)+1≤maxLen:=by rw[zh];show 1+_+1≤_;unfold maxLen;omega
  refine za (za ?_);refine zaa hX hK rfl ?_ ?_
  ·repeat'(first|exact trivial|assumption|exact hw|exact h0|exact hk|exact hr|exact hT|exact m1|exact m2|(refine⟨?_,?_⟩)|(intro _)|exact zb rfl|exact zd _|(simp_all [allP];done))
  refine zl ⟨.inr rfl,zas rfl trivial rfl rfl ?_⟩;show [40]++zaT k r i++ [41]=parS (decide (levS (ndK (zao r i))≥q)) (zaT k r i);rw[decide_eq_false (by omega)];exact zu _ _ _
 ·have hc:decide (levS (ndK (zao r i)) < q)=false:=hc;have hc:=of_decide_eq_false hc;apply zab;refine za (za ?_);refine zaa hX hK rfl ?_ ?_
  ·repeat'(first|exact trivial|assumption|exact hw|exact h0|exact hk|exact hr|exact hT|(refine⟨?_,?_⟩)|(intro _)|exact zb rfl|exact zd _|(simp_all [allP];done))
  refine zl ⟨.inr rfl,zas rfl trivial rfl rfl ?_⟩;show zaT k r i=parS (decide (levS (ndK (zao r i))≥q)) (zaT k r i);rw[decide_eq_true (by omega)];rfl
theorem zna {k:Nat} {r:List Nd} {i:Int} (h:¬ (8≤ndK (zao r i)∧ndK (zao r i)≤17)):zaT (k+1) r i=zcJ (zao r i):=by
 have hl:=zi4 h;unfold zaT;rw[hl,if_neg (by decide),if_neg (by decide)]
theorem zoE {k:Nat} {r:List Nd} {i:Int} (h:11≤ndK (zao r i)∧ndK (zao r i)≤17):zaT (k+1) r i=opdF k r (ndL (zao r i)) 4++zcc (opdF k r (ndR (zao r i)) 5) (zao r i):=by
 have hl:=zi3 h
 conv=>lhs;unfold zaT
 rw[hl,if_neg (by decide),if_pos rfl];rfl
theorem zoF {k:Nat} {r:List Nd} {i:Int} (h:8≤ndK (zao r i)∧ndK (zao r i)≤10):zaT (k+1) r i=opdF k r (ndL (zao r i)) (levS (ndK (zao r i)))++(putS ([32]++opWd (levS (ndK (zao r i)))++ [32]) []++opdF k r (ndR (zao r i)) (levS (ndK (zao r i))+1)):=by
 conv=>lhs;unfold zaT
 rw[if_pos (by rcases (show ndK (zao r i)=8∨ndK (zao r i)=9∨ndK (zao r i)=10 by omega) with e|e|e<;>rw[e]<;>decide)];rfl
theorem zlW (k:Nat) (r:List Nd) (i q:Int):(zaT k r i).length≤(opdF k r i q).length:=by
 unfold opdF parS;split
 ·exact zk _
 ·rw[zh,zh];omega
theorem zq1 {l:List Int} (h:∀ n∈l,zbR n):(lstR l).length≤20 * l.length+2:=by
 unfold lstR;split
 ·show 2≤_;omega
 ·have:=zl3 h;rw[zh,xi];omega
theorem fld_ne {n:Nd} (h:zbA n=true) (k:(3≤ndK n∧ndK n≤6)∨(14≤ndK n∧ndK n≤16)):ndI n≠ []:=by
 rcases (show ndK n=3∨ndK n=4∨ndK n=5∨ndK n=6∨ndK n=14∨ndK n=15∨ndK n=16 by omega) with e|e|e|e|e|e|e
 ·exact (fld3 h e).2.2.1
 ·exact (fld4 h e).2.2.1
 ·exact (fld5 h e).2.1
 ·exact (fld6 h e).2.2.1
 ·exact (zrr h e).2.1
 ·exact (zrq h e).2.1
 ·exact (zrp h e).2.2.1.1
def kTx7 (k:Nat):Kn:={ gmK with C:=[(107,cDec),(108,zsc),(109,zpL),(110,ztL k)] }
set_option maxHeartbeats 4000000 in
theorem zmJ {k:Nat} (ih:yk Tryz.prog gmH 110 (ztL k)):yk Tryz.prog gmH 64 (zkx (k+1)):=by
 have hK:KnOk Tryz.prog gmH (kTx7 k):=zaj.with (.cons zpE.lift <| .cons zq3 <| .cons zn5 <| .cons ih .nil);refine zal (K:=kTx7 k) hK Tryz.func64 rfl rfl Tryz.call64 rfl (zb rfl) (by intro h;cases h) ?_;rintro w0 X hX ⟨(r:List Nd),(i:Int),_⟩ hp;obtain⟨hw,h0,hk,hr,hT⟩:wfS r=true∧0≤i∧i.toNat < k+1∧i.toNat < r.length∧(zaT (k+1) r i).length≤1000000:=hp;change AWP _ _ _ _ _ ⟨[(0,⟨.slice nd,r⟩),(1,⟨i64,i⟩)],[],0⟩ _;have z1:i < ((r.length:Nat):Int):=by omega
 refine za (za ?_);refine zaa hX hK rfl ?_ ?_
 ·trivial
 refine za (za ?_);refine zaa hX hK rfl ?_ ?_
 ·repeat'(first|exact trivial|assumption|exact h0|exact z1|exact hr|(refine⟨?_,?_⟩)|(intro _)|exact zb rfl|exact zd _|(simp_all [allP];done))
 obtain⟨R,hR⟩:∃ R,R=zaT (k+1) r i:=⟨_,rfl⟩;obtain⟨zgD,hsuf,hbin⟩:=And.intro (@zna k r i) (And.intro (@zoE k r i) (@zoF k r i));rw[<-hR]at hT zgD hsuf hbin;refine zap (σ':=⟨[(0,⟨.slice nd,r⟩),(5,⟨.optr nd,⟨0,nd,.here⟩⟩)],[(0,some (.box nd (zao r i)))],1⟩) ⟨⟨rfl,rfl,trivial⟩,⟨rfl,trivial⟩,rfl,rfl⟩ ?_;obtain⟨j,hj⟩:∃ j:Nat,i=(j:Int):=⟨i.toNat,by omega⟩;have hjr:j < r.length:=by omega
 have hjk:j < k+1:=by omega
 have h3:=(zcN hw).2.1;obtain⟨hf,_⟩:=zcL h3 hjr;have hlow:=zhj h3 j hjr;rw[<-hj]at hf hlow;obtain⟨⟨⟨c1,c2⟩,⟨a1,a2⟩,⟨b1,b2⟩⟩,hI,hIl,hS,_⟩:=zjY hf;obtain⟨⟨k1,k2⟩,_⟩:=zaI hf;generalize zao r i=n at *;have lC:=zc9 c1 c2;have lN:=zc9 a1 a2;have lM:=zc9 b1 b2;have lS:=zn9 (ndL n);have lS2:=zn9 (ndM n);have lI:(lstR (ndI n)).length≤20002:=by have:=zq1 hI;omega
 have low1:=hlow.1;have low2:=hlow.2;have hne:=fld_ne hf;have hIl2:(ndI n).length≤1000:=by omega
 have m0:(deI (ndC n)).length+1≤maxLen:=by unfold maxLen;omega
 refine za (za ?_);refine zaa hX hK rfl ?_ ?_
 ·repeat'(first|exact trivial|assumption|exact c1|exact c2|exact m0|(refine⟨?_,?_⟩)|(intro _)|exact zb rfl|exact zd _|(simp_all [allP];done))
 refine za (za ?_);refine zaa hX hK rfl ?_ ?_
 ·trivial
 apply zac;refine za (za ?_);refine zaa hX hK rfl ?_ ?_
 ·trivial
 have hR0:R=zaT (k+1) r i:=hR;refine zae rfl (fun e1=>?_) (fun e1=>?_)
 ·have e1:ndK n=1:=eq_of_beq e1;(repeat(first|apply zaf|apply zab|apply zac|apply zad));refine qY dM hX hK 9 (by kernel_rfl) rfl rfl ?_ ?_ ?_
  ·(repeat' first|exact trivial|with_reducible assumption|exact hI|refine⟨?_,?_⟩|intro _|apply cat2|apply catA|exact lC|exact lN|exact lM|exact lS|exact lS2|exact lI|exact hS|exact zk _|exact zd _|rfl|assumption)
  ·(repeat' first|exact trivial|with_reducible assumption|exact hI|refine⟨?_,?_⟩|intro _|apply cat2|apply catA|exact lC|exact lN|exact lM|exact lS|exact lS2|exact lI|exact hS|exact zk _|exact zd _|rfl|assumption)
  refine zl ⟨.inr rfl,zas rfl trivial rfl rfl ?_⟩;show ([100,97,121,115,32]:List UInt8)++deI (ndN n)++([32]:List UInt8)++deI (ndM n)=zaT (k+1) r i;rw[<-hR,zgD (by omega)];simp[zcJ,e1,putS,zcg,ziK]
 have e1:ndK n≠1:=ne_of_beq_false e1;refine za (za ?_);refine zaa hX hK rfl ?_ ?_
 ·trivial
 refine zae rfl (fun e2=>?_) (fun e2=>?_)
 ·have e2:ndK n=2:=eq_of_beq e2;(repeat(first|apply zaf|apply zab|apply zac|apply zad));refine qY dM hX hK 11 (by kernel_rfl) rfl rfl ?_ ?_ ?_
  ·(repeat' first|exact trivial|with_reducible assumption|exact hI|refine⟨?_,?_⟩|intro _|apply cat2|apply catA|exact lC|exact lN|exact lM|exact lS|exact lS2|exact lI|exact hS|exact zk _|exact zd _|rfl|assumption)
  ·(repeat' first|exact trivial|with_reducible assumption|exact hI|refine⟨?_,?_⟩|intro _|apply cat2|apply catA|exact lC|exact lN|exact lM|exact lS|exact lS2|exact lI|exact hS|exact zk _|exact zd _|rfl|assumption)
  refine zl ⟨.inr rfl,zas rfl trivial rfl rfl ?_⟩;show ([121,101,97,114,115,32]:List UInt8)++(deI (ndC n)++ [32])++deI (ndN n)++([32]:List UInt8)++deI (ndM n)=zaT (k+1) r i;rw[<-hR,zgD (by omega)];simp[zcJ,e2,putS,zcg,zfg]
 have e2:ndK n≠2:=ne_of_beq_false e2;refine za (za ?_);refine zaa hX hK rfl ?_ ?_
 ·trivial
 refine zae rfl (fun e3=>?_) (fun e3=>?_)
 ·have e3:ndK n=3:=eq_of_beq e3;refine za (za ?_);refine zaa hX hK rfl ?_ ?_
  ·(repeat' first|exact trivial|with_reducible assumption|exact hI|refine⟨?_,?_⟩|intro _|apply cat2|apply catA|exact lC|exact lN|exact lM|exact lS|exact lS2|exact lI|exact hS|exact zk _|exact zd _|rfl|assumption)
  refine zl ⟨.inr rfl,zas rfl trivial rfl rfl ?_⟩;show ([109,111,110,116,104,115,32]:List UInt8)++(deI (ndC n)++ [32])++lstR (ndI n)=zaT (k+1) r i;rw[<-hR,zgD (by omega)];simp[zcJ,e3,zk6 (hne (by omega)),putS,zcg,zcy]
 have e3:ndK n≠3:=ne_of_beq_false e3;refine za (za ?_);refine zaa hX hK rfl ?_ ?_
 ·trivial
 refine zae rfl (fun e4=>?_) (fun e4=>?_)
 ·have e4:ndK n=4:=eq_of_beq e4;refine za (za ?_);refine zaa hX hK rfl ?_ ?_
  ·(repeat' first|exact trivial|with_reducible assumption|exact hI|refine⟨?_,?_⟩|intro _|apply cat2|apply catA|exact lC|exact lN|exact lM|exact lS|exact lS2|exact lI|exact hS|exact zk _|exact zd _|rfl|assumption)
  refine zl ⟨.inr rfl,zas rfl trivial rfl rfl ?_⟩;show ([109,111,110,116,104,100,97,121,115,32]:List UInt8)++(deI (ndC n)++ [32])++lstR (ndI n)=zaT (k+1) r i;rw[<-hR,zgD (by omega)];simp[zcJ,e4,zk6 (hne (by omega)),putS,zcg,za7]
 have e4:ndK n≠4:=ne_of_beq_false e4;refine za (za ?_);refine zaa hX hK rfl ?_ ?_
 ·trivial
 refine zae rfl (fun e5=>?_) (fun e5=>?_)
 ·have e5:ndK n=5:=eq_of_beq e5;refine za (za ?_);refine zaa hX hK rfl ?_ ?_
  ·(repeat' first|exact trivial|with_reducible assumption|exact hI|refine⟨?_,?_⟩|intro _|apply cat2|apply catA|exact lC|exact lN|exact lM|exact lS|exact lS2|exact lI|exact hS|exact zk _|exact zd _|rfl|assumption)
  refine zl ⟨.inr rfl,zas rfl trivial rfl rfl ?_⟩;show ([119,101,101,107,100,97,121,115,32]:List UInt8)++lstR (ndI n)=zaT (k+1) r i;rw[<-hR,zgD (by omega)];simp[zcJ,e5,zk6 (hne (by omega)),putS,zcg,zbm]
 have e5:ndK n≠5:=ne_of_beq_false e5;refine za (za ?_);refine zaa hX hK rfl ?_ ?_
 ·trivial
 refine zae rfl (fun e6=>?_) (fun e6=>?_)
 ·have e6:ndK n=6:=eq_of_beq e6;refine za (za ?_);refine zaa hX hK rfl ?_ ?_
  ·(repeat' first|exact trivial|with_reducible assumption|exact hI|refine⟨?_,?_⟩|intro _|apply cat2|apply catA|exact lC|exact lN|exact lM|exact lS|exact lS2|exact lI|exact hS|exact zk _|exact zd _|rfl|assumption)
  refine zl ⟨.inr rfl,zas rfl trivial rfl rfl ?_⟩;show ([119,101,101,107,115,32]:List UInt8)++(deI (ndC n)++ [32])++lstR (ndI n)=zaT (k+1) r i;rw[<-hR,zgD (by omega)];simp[zcJ,e6,zk6 (hne (by omega)),putS,zcg,zdk]
 have e6:ndK n≠6:=ne_of_beq_false e6;refine za (za ?_);refine zaa hX hK rfl ?_ ?_
 ·trivial
 refine zae rfl (fun e7=>?_) (fun e7=>?_)
 ·have e7:ndK n=7:=eq_of_beq e7;(repeat(first|apply zaf|apply zab|apply zac|apply zad));refine qY dM hX hK 16 (by kernel_rfl) rfl rfl ?_ ?_ ?_
  ·(repeat' first|exact trivial|with_reducible assumption|exact hI|refine⟨?_,?_⟩|intro _|apply cat2|apply catA|exact lC|exact lN|exact lM|exact lS|exact lS2|exact lI|exact hS|exact zk _|exact zd _|rfl|assumption)
  ·(repeat' first|exact trivial|with_reducible assumption|exact hI|refine⟨?_,?_⟩|intro _|apply cat2|apply catA|exact lC|exact lN|exact lM|exact lS|exact lS2|exact lI|exact hS|exact zk _|exact zd _|rfl|assumption)
  refine zl ⟨.inr rfl,zas rfl trivial rfl rfl ?_⟩;show ([110,116,104,32]:List UInt8)++(deI (ndC n)++ [32])++deI (ndN n)++([32]:List UInt8)++deI (ndM n)++([32]:List UInt8)++scR (ndL n)=zaT (k+1) r i;rw[<-hR,zgD (by omega)];simp[zcJ,e7,putS,zcg,zn3,wNth]
 have e7:ndK n≠7:=ne_of_beq_false e7;refine za (za ?_);refine zaa hX hK rfl ?_ ?_
 ·trivial
 refine zae rfl (fun e18=>?_) (fun e18=>?_)
 ·have e18:ndK n=18:=eq_of_beq e18;refine za (za ?_);refine zaa hX hK rfl ?_ ?_
  ·(repeat' first|exact trivial|with_reducible assumption|exact hI|refine⟨?_,?_⟩|intro _|apply cat2|apply catA|exact lC|exact lN|exact lM|exact lS|exact lS2|exact lI|exact hS|exact zk _|exact zd _|rfl|assumption)
  refine zl ⟨.inr rfl,zas rfl trivial rfl rfl ?_⟩;show ([64]:List UInt8)++ndS n=zaT (k+1) r i;rw[<-hR,zgD (by omega)];simp[zcJ,e18,putS,zcg,wAt]
 have e18:ndK n≠18:=ne_of_beq_false e18;refine za (za ?_);refine zaa hX hK rfl ?_ ?_
 ·trivial
 have two:∀ (p q:Int) (W:List UInt8),8≤ndK n∧ndK n≤10->R=opdF k r (ndL n) p++(W++ []++opdF k r (ndR n) q)->zg (opdF k r (ndL n) p)+W.length≤maxLen∧zg (opdF k r (ndL n) p++W)+zg (opdF k r (ndR n) q)≤maxLen∧(0≤ndL n∧(ndL n).toNat < k∧(ndL n).toNat < r.length∧(zaT k r (ndL n)).length≤1000000)∧0≤ndR n∧(ndR n).toNat < k∧(ndR n).toNat < r.length∧(zaT k r (ndR n)).length≤1000000:=fun p q W h8 hb=>by
  have hl:=low1 (by omega) (by omega);have hr2:=low2 (by omega) (by omega);have hlen:=congrArg zg hb;simp only[zh,ya]at hlen;have g1:=zlW k r (ndL n) p;have g2:=zlW k r (ndR n) q;rw[zh];unfold maxLen;omega
 refine zae rfl (fun e9=>?_) (fun e9=>?_)
 ·have e9:ndK n=9:=eq_of_beq e9;have hb:=hbin (by omega);rw[e9]at hb;have hb:R=opdF k r (ndL n) 1++(([32,111,114,32]:List UInt8)++ []++opdF k r (ndR n) 2):=hb;obtain⟨q0,q1,⟨y1,y2,y3,y4⟩,y5,y6,y7,y8⟩:=two _ _ _ (by omega) hb;(repeat(first|apply zaf|apply zab|apply zac|apply zad));refine qY dM hX hK 9 (by kernel_rfl) rfl rfl ?_ ?_ ?_
  ·repeat'(first|exact trivial|assumption|exact q0|exact q1|exact hw|exact y1|exact y2|exact y3|exact y4|exact y5|exact y6|exact y7|exact y8|(refine⟨?_,?_⟩)|(intro _)|exact zb rfl|exact zd _|(simp_all [allP];done))
  ·repeat'(first|exact trivial|assumption|exact q0|exact q1|exact hw|exact y1|exact y2|exact y3|exact y4|exact y5|exact y6|exact y7|exact y8|(refine⟨?_,?_⟩)|(intro _)|exact zb rfl|exact zd _|(simp_all [allP];done))
  refine zl ⟨.inr rfl,zas rfl trivial rfl rfl ?_⟩;show opdF k r (ndL n) 1++([32,111,114,32]:List UInt8)++opdF k r (ndR n) 2=zaT (k+1) r i;rw[<-hR,hb,zS,zu]
 have e9:ndK n≠9:=ne_of_beq_false e9;refine za (za ?_);refine zaa hX hK rfl ?_ ?_
 ·trivial
 refine zae rfl (fun e10=>?_) (fun e10=>?_)
 ·have e10:ndK n=10:=eq_of_beq e10;have hb:=hbin (by omega);rw[e10]at hb;have hb:R=opdF k r (ndL n) 2++(([32,109,105,110,117,115,32]:List UInt8)++ []++opdF k r (ndR n) 3):=hb;obtain⟨q0,q1,⟨y1,y2,y3,y4⟩,y5,y6,y7,y8⟩:=two _ _ _ (by omega) hb;(repeat(first|apply zaf|apply zab|apply zac|apply zad));refine qY dM hX hK 9 (by kernel_rfl) rfl rfl ?_ ?_ ?_
  ·repeat'(first|exact trivial|assumption|exact q0|exact q1|exact hw|exact y1|exact y2|exact y3|exact y4|exact y5|exact y6|exact y7|exact y8|(refine⟨?_,?_⟩)|(intro _)|exact zb rfl|exact zd _|(simp_all [allP];done))
  ·repeat'(first|exact trivial|assumption|exact q0|exact q1|exact hw|exact y1|exact y2|exact y3|exact y4|exact y5|exact y6|exact y7|exact y8|(refine⟨?_,?_⟩)|(intro _)|exact zb rfl|exact zd _|(simp_all [allP];done))
  refine zl ⟨.inr rfl,zas rfl trivial rfl rfl ?_⟩;show opdF k r (ndL n) 2++([32,109,105,110,117,115,32]:List UInt8)++opdF k r (ndR n) 3=zaT (k+1) r i;rw[<-hR,hb,zS,zu]
 have e10:ndK n≠10:=ne_of_beq_false e10;refine za (za ?_);refine zaa hX hK rfl ?_ ?_
 ·trivial
 refine zae rfl (fun e8=>?_) (fun e8=>?_)
 ·have e8:ndK n=8:=eq_of_beq e8;have hb:=hbin (by omega);rw[e8]at hb;have hb:R=opdF k r (ndL n) 3++(([32,97,110,100,32]:List UInt8)++ []++opdF k r (ndR n) 4):=hb;obtain⟨q0,q1,⟨y1,y2,y3,y4⟩,y5,y6,y7,y8⟩:=two _ _ _ (by omega) hb;(repeat(first|apply zaf|apply zab|apply zac|apply zad));refine qY dM hX hK 9 (by kernel_rfl) rfl rfl ?_ ?_ ?_
  ·repeat'(first|exact trivial|assumption|exact q0|exact q1|exact hw|exact y1|exact y2|exact y3|exact y4|exact y5|exact y6|exact y7|exact y8|(refine⟨?_,?_⟩)|(intro _)|exact zb rfl|exact zd _|(simp_all [allP];done))
  ·repeat'(first|exact trivial|assumption|exact q0|exact q1|exact hw|exact y1|exact y2|exact y3|exact y4|exact y5|exact y6|exact y7|exact y8|(refine⟨?_,?_⟩)|(intro _)|exact zb rfl|exact zd _|(simp_all [allP];done))
  refine zl ⟨.inr rfl,zas rfl trivial rfl rfl ?_⟩;show opdF k r (ndL n) 3++([32,97,110,100,32]:List UInt8)++opdF k r (ndR n) 4=zaT (k+1) r i;rw[<-hR,hb,zS,zu]
 have e8:ndK n≠8:=ne_of_beq_false e8;apply zab;have hs:=hsuf (by omega);have hl:=low1 (by omega) (by omega);have hlen:=congrArg zg hs;rw[zh]at hlen;have g1:=zlW k r (ndL n) 4;have y1:0≤ndL n:=hl.1;have y2:(ndL n).toNat < k:=by omega
 have y3:(ndL n).toNat < r.length:=by omega
 have y4:(zaT k r (ndL n)).length≤1000000:=by omega
 refine za (za ?_);refine zaa hX hK rfl ?_ ?_
 ·repeat'(first|exact trivial|assumption|exact hw|exact y1|exact y2|exact y3|exact y4|(refine⟨?_,?_⟩)|(intro _)|exact zb rfl|exact zd _|(simp_all [allP];done))
 have hO:(opdF k r (ndL n) 4).length≤1000000:=by omega
 refine zap (σ':=⟨[(0,⟨.slice nd,r⟩),(5,⟨.optr nd,⟨0,nd,.here⟩⟩),(6,⟨.str,deI (ndC n)++ [32]⟩),(7,⟨.str,opdF k r (ndL n) 4⟩)],[(0,some (.box nd n))],1⟩) ⟨⟨rfl,rfl,rfl,rfl,trivial⟩,⟨rfl,trivial⟩,rfl,rfl⟩ ?_;generalize opdF k r (ndL n) 4=O at *;refine za (za ?_);refine zaa hX hK rfl ?_ ?_
 ·trivial
 apply zac;refine za (za ?_);refine zaa hX hK rfl ?_ ?_
 ·trivial
 refine zae rfl (fun e11=>?_) (fun e11=>?_)
 ·have e11:ndK n=11:=eq_of_beq e11;refine za (za ?_);refine zaa hX hK rfl ?_ ?_
  ·(repeat' first|exact trivial|with_reducible assumption|exact hI|refine⟨?_,?_⟩|intro _|apply cat2|apply catA|exact hO|exact lC|exact lN|exact lM|exact lS|exact lS2|exact lI|exact zk _|exact zd _|rfl|assumption)
  refine zl ⟨.inr rfl,zas rfl trivial rfl rfl ?_⟩;show O++([32,115,104,105,102,116,32]:List UInt8)++deI (ndN n)=zaT (k+1) r i;rw[<-hR,hs];simp[zcc,e11,putS,zcg,spW,zeS]
 have e11:ndK n≠11:=ne_of_beq_false e11;refine za (za ?_);refine zaa hX hK rfl ?_ ?_
 ·trivial
 refine zae rfl (fun e12=>?_) (fun e12=>?_)
 ·have e12:ndK n=12:=eq_of_beq e12;refine za (za ?_);refine zaa hX hK rfl ?_ ?_
  ·(repeat' first|exact trivial|with_reducible assumption|exact hI|refine⟨?_,?_⟩|intro _|apply cat2|apply catA|exact hO|exact lC|exact lN|exact lM|exact lS|exact lS2|exact lI|exact zk _|exact zd _|rfl|assumption)
  refine zl ⟨.inr rfl,zas rfl trivial rfl rfl ?_⟩;show O++([32,102,114,111,109,32]:List UInt8)++deI (ndN n)=zaT (k+1) r i;rw[<-hR,hs];simp[zcc,e12,putS,zcg,spW,zhS]
 have e12:ndK n≠12:=ne_of_beq_false e12;refine za (za ?_);refine zaa hX hK rfl ?_ ?_
 ·trivial
 refine zae rfl (fun e13=>?_) (fun e13=>?_)
 ·have e13:ndK n=13:=eq_of_beq e13;refine za (za ?_);refine zaa hX hK rfl ?_ ?_
  ·(repeat' first|exact trivial|with_reducible assumption|exact hI|refine⟨?_,?_⟩|intro _|apply cat2|apply catA|exact hO|exact lC|exact lN|exact lM|exact lS|exact lS2|exact lI|exact zk _|exact zd _|rfl|assumption)
  refine zl ⟨.inr rfl,zas rfl trivial rfl rfl ?_⟩;show O++([32,117,110,116,105,108,32]:List UInt8)++deI (ndN n)=zaT (k+1) r i;rw[<-hR,hs];simp[zcc,e13,putS,zcg,spW,zeR]
 have e13:ndK n≠13:=ne_of_beq_false e13;refine za (za ?_);refine zaa hX hK rfl ?_ ?_
 ·trivial
 refine zae rfl (fun e14=>?_) (fun e14=>?_)
 ·have e14:ndK n=14:=eq_of_beq e14;refine za (za ?_);refine zaa hX hK rfl ?_ ?_
  ·(repeat' first|exact trivial|with_reducible assumption|exact hI|refine⟨?_,?_⟩|intro _|apply cat2|apply catA|exact hO|exact lC|exact lN|exact lM|exact lS|exact lS2|exact lI|exact zk _|exact zd _|rfl|assumption)
  refine zl ⟨.inr rfl,zas rfl trivial rfl rfl ?_⟩;show O++([32,97,108,115,111,32]:List UInt8)++lstR (ndI n)=zaT (k+1) r i;rw[<-hR,hs];simp[zcc,e14,zk6 (hne (by omega)),putS,zcg,spW,ze1]
 have e14:ndK n≠14:=ne_of_beq_false e14;refine za (za ?_);refine zaa hX hK rfl ?_ ?_
 ·trivial
 refine zae rfl (fun e15=>?_) (fun e15=>?_)
 ·have e15:ndK n=15:=eq_of_beq e15;refine za (za ?_);refine zaa hX hK rfl ?_ ?_
  ·(repeat' first|exact trivial|with_reducible assumption|exact hI|refine⟨?_,?_⟩|intro _|apply cat2|apply catA|exact hO|exact lC|exact lN|exact lM|exact lS|exact lS2|exact lI|exact zk _|exact zd _|rfl|assumption)
  refine zl ⟨.inr rfl,zas rfl trivial rfl rfl ?_⟩;show O++([32,101,120,99,101,112,116,32]:List UInt8)++lstR (ndI n)=zaT (k+1) r i;rw[<-hR,hs];simp[zcc,e15,zk6 (hne (by omega)),putS,zcg,spW,zcz]
 have e15:ndK n≠15:=ne_of_beq_false e15;refine za (za ?_);refine zaa hX hK rfl ?_ ?_
 ·trivial
 refine zae rfl (fun e16=>?_) (fun e16=>?_)
 ·have e16:ndK n=16:=eq_of_beq e16;(repeat(first|apply zaf|apply zab|apply zac|apply zad));refine qY dM hX hK 13 (by kernel_rfl) rfl rfl ?_ ?_ ?_
  ·(repeat' first|exact trivial|with_reducible assumption|exact hI|refine⟨?_,?_⟩|intro _|apply cat2|apply catA|exact hO|exact lC|exact lN|exact lM|exact lS|exact lS2|exact lI|exact zk _|exact zd _|rfl|assumption)
  ·(repeat' first|exact trivial|with_reducible assumption|exact hI|refine⟨?_,?_⟩|intro _|apply cat2|apply catA|exact hO|exact lC|exact lN|exact lM|exact lS|exact lS2|exact lI|exact zk _|exact zd _|rfl|assumption)
  refine zl ⟨.inr rfl,zas rfl trivial rfl rfl ?_⟩;show O++([32,112,111,115,32]:List UInt8)++(deI (ndC n)++ [32])++scR (ndM n)++([32]:List UInt8)++lstR (ndI n)=zaT (k+1) r i;rw[<-hR,hs];simp[zcc,e16,zk6 (hne (by omega)),putS,zcg,spW,zn3,wPos]
 have e16:ndK n≠16:=ne_of_beq_false e16;apply zab;have e17:ndK n=17:=by omega
 have hr2:=low2 (by omega) (by omega);have hs:R=O++(putS (spW zbG) [ndN n]++(putS (spW wOf++ [32]) []++opdF k r (ndR n) 5)):=by
  rw[hs];unfold zcc;rw[if_neg (by omega),if_neg (by omega),if_neg (by omega),if_neg (by omega),if_neg (by omega),if_neg (by omega),if_pos e17]
 have hlen:=congrArg zg hs;rw[zh,zh,zh]at hlen;have g2:=zlW k r (ndR n) 5;have y5:0≤ndR n:=hr2.1;have y6:(ndR n).toNat < k:=by omega
 have y7:(ndR n).toNat < r.length:=by omega
 have y8:(zaT k r (ndR n)).length≤1000000:=by omega
 have hP:(opdF k r (ndR n) 5).length≤1000000:=by omega
 have q3:zg (O++([32,98,101,104,105,110,100,32]:List UInt8)++deI (ndN n)++([32,111,102,32]:List UInt8))+zg (opdF k r (ndR n) 5)≤maxLen:=by
  simp only[putS,zcg,spW,zbG,wOf,zh,zs,ya]at hlen ⊢;unfold maxLen;omega
 have q0:zg O+zg ([32,98,101,104,105,110,100,32]:List UInt8)≤maxLen:=cat2 hO (zk _) rfl;have q1:zg (O++([32,98,101,104,105,110,100,32]:List UInt8))+zg (deI (ndN n))≤maxLen:=cat2 (catA hO (zk _)) lN rfl;have q2:zg (O++([32,98,101,104,105,110,100,32]:List UInt8)++deI (ndN n))+zg ([32,111,102,32]:List UInt8)≤maxLen:=cat2 (catA (catA hO (zk _)) lN) (zk _) rfl;(repeat(first|apply zaf|apply zab|apply zac|apply zad));refine qY dM hX hK 12 (by kernel_rfl) rfl rfl ?_ ?_ ?_
 ·repeat'(first|exact trivial|assumption|exact q0|exact q1|exact q2|exact q3|exact a1|exact a2|exact hw|exact y5|exact y6|exact y7|exact y8|(refine⟨?_,?_⟩)|(intro _)|exact zb rfl|exact zd _|(simp_all [allP];done))
 ·repeat'(first|exact trivial|assumption|exact q0|exact q1|exact q2|exact q3|exact a1|exact a2|exact hw|exact y5|exact y6|exact y7|exact y8|(refine⟨?_,?_⟩)|(intro _)|exact zb rfl|exact zd _|(simp_all [allP];done))
 refine zl ⟨.inr rfl,zas rfl trivial rfl rfl ?_⟩;show O++([32,98,101,104,105,110,100,32]:List UInt8)++deI (ndN n)++([32,111,102,32]:List UInt8)++opdF k r (ndR n) 5=zaT (k+1) r i;rw[<-hR,hs];simp[putS,zcg,spW,zbG,wOf]
theorem zlJ:∀ k:Nat,yk Tryz.prog gmH 64 (zkx k)
 |0=>by
  refine⟨Tryz.call64,fun w O xs vs _ _ hp=>?_⟩;obtain⟨(r:List Nd),(i:Int),_⟩:=xs;have h:i.toNat < 0:=hp.2.2.1;omega
 |k+1=>zmJ (zsP (zlJ k))
theorem zqI (A:Option Addr) (n c:Nat):Tryz.prog.built 107 [(1,.slice A n c)]=some #[.pointer none,.slice none 0 0,.slice A n c]:=by kernel_rfl
abbrev prV:Ty:=.hcons .lit (.hcons .lit (.hcons (.slice nd) .unit))
def prX (r:List Nd):prV.T:=(.pointer none,(.slice none 0 0,(r,())))
section
variable {w0:zj} {X:Ownr} {n:Nat} {Q:Exit->AS->Prop} {ops:Array Oper} {F:Frame} {E:Owns} {nx:Nat}
theorem AL.bldPr {o:Oper} {rest:List Oper} {x:zI} (ho:o.op= .build 107 #[(1,x)]) (hgd:o.guard=none) {d:Nat} (hd:o.dst=some d) (hdn:zW d n=true) {r:List Nd} (hx:evO F x=⟨.slice nd,r⟩)
  (h:AL Tryz.prog w0 X n ops rest ⟨(d,⟨prV,prX r⟩)::F,E,nx⟩ Q):AL Tryz.prog w0 X n ops (o::rest) ⟨F,E,nx⟩ Q:=by
 refine AL.hand hgd (fun c e=>by rw[ho]at e;cases e) fun β a w hs=>?_;have hsx:=hs.ops x;rw[show evO (AS.mk F E nx).F x=_ from hx]at hsx;have hsx':=hsx;obtain⟨v,e,hS⟩:=hsx;obtain⟨A,m,c,hv⟩:∃ A m c,a.eval x= .slice A m c:=by
  rw[List.singleton_inj.1 e];rcases hS with ⟨_,A,c,rfl,_⟩|⟨g,off,c,vs,rfl,_⟩
  ·exact⟨_,_,_,rfl⟩
  ·exact⟨_,_,_,rfl⟩
 rw[hv]at hsx';refine zkK hd hdn (v:=⟨prV,prX r⟩) (zn _) (N:=fun σ'=>AL Tryz.prog w0 X n ops rest σ' Q) h hs (u:=.agg #[.pointer none,.slice none 0 0,.slice A m c]) ?_ ?_
 ·unfold execOp;simp only[ho];refine zeb ?_;rw[show (#[(1,x)]:Array (Nat×zI)).map (fun p=>(p.1,a.eval p.2))= #[(1,uZ A m c)] from by simp[hv]];exact run_build w _ _ _ (zqI A m c)
 ·exact⟨_,[_,_],rfl,rfl,rfl,_,[_],rfl,rfl,rfl,_,[],rfl,rfl,hsx',[],rfl,rfl⟩
theorem AL.box3 (hX:X.Ok w0) {o:Oper} {rest:List Oper} {t:zq} {x:zI} (ho:o.op= .box t x) (hgd:o.guard=none) {d:Nat} (hd:o.dst=some d) (hdn:zW d n=true) {A:Ty} {q1 q2:zi} {p:A.T} (hx:evO F x=⟨.hcons .lit (.hcons .lit (.hcons A .unit)),(q1,(q2,(p,())))⟩)
  (hA:A.plainL=true) (hbA:(⟨A,p⟩:V).bound=0) (h:AL Tryz.prog w0 X n ops rest ⟨(d,⟨.hptr,(nx,(0:Nat))⟩)::F,(nx,some (.hbox t [⟨.lit,q1⟩,⟨.lit,q2⟩,⟨A,p⟩]))::E,nx+1⟩ Q):AL Tryz.prog w0 X n ops (o::rest) ⟨F,E,nx⟩ Q:=by
 refine AL.hand hgd (fun c e=>by rw[ho]at e;cases e) fun β a w hs=>?_;have hlt:d < n:=by simpa using hdn
 have h1:=hs.ops x;rw[show evO (AS.mk F E nx).F x=_ from hx]at h1;obtain⟨c1,s1,e1,hc1,r1,h2⟩:=h1;obtain⟨c2,s2,e2,hc2,r2,h3⟩:=h2;obtain⟨c3,s3,e3,hc3,r3,h4⟩:=h3;obtain⟨cs,e4,h4⟩:∃ cs:List zi,(Value.agg s3.toArray)= .agg cs.toArray∧RepC w (OSet X E β) .unit () cs:=(RepD.agg rfl).1 h4;have h4:cs=[]:=h4;subst h4;have e4:s3=[]:=by
  have:=kq e4
  simpa using congrArg vE this
 subst e4;have e3:s2=[c3]:=by
  have:=kq e3
  simpa using congrArg vE this
 subst e3;have e2:s1=[c2,c3]:=by
  have:=kq e2
  simpa using congrArg vE this
 subst e2;refine zbD (u:=.pointer (some ⟨w.heap.size,0,none⟩)) (w':=w.alloc (.cells #[c1,c2,c3] t (0,0))) ?_ ?_
 ·unfold execOp;simp only[ho];refine zeb ?_;rw[e1];simp[Instr.box,newVar,newRow,Value.cells,go_sem]
 ·rw[hd];have hk:yW w.heap.size w (w.alloc (.cells #[c1,c2,c3] t (0,0))):=(zP _ w).alloc (zk _) (.cells #[c1,c2,c3] t (0,0));obtain⟨β',h4⟩:=hs.make hX hk (bv:=.pointer (some ⟨w.heap.size,0,none⟩)) (o:=.hbox t [⟨.lit,q1⟩,⟨.lit,q2⟩,⟨A,p⟩])
   (fun O β' hO=>by
     have hkk:Keeps w (w.alloc (.cells #[c1,c2,c3] t (0,0))) (OSet X E β) O:=.of_below hk fun g hg hg'=>by
      rcases hO g hg' with h5|h5
      ·exact h5
      ·simp[zah]at h5;omega
     exact⟨w.heap.size,[c1,c2,c3],rfl,zn _,xE w _,⟨c1,[c2,c3],rfl,hc1,r1,⟨c2,[c3],rfl,hc2,r2,⟨c3,[],rfl,hc3,RepV.plainL hkk hA r3,rfl⟩⟩⟩⟩) (fun g hg=>by cases hg;exact zk _) (v:=⟨.hptr,(nx,(0:Nat))⟩) (u:=.pointer (some ⟨w.heap.size,0,none⟩))
   (fun O β' hb=>⟨w.heap.size,by show zah (β' nx)=_;rw[show β' nx=_ from hb];rfl,rfl⟩) (zk _) hlt (fun vs e v hv=>by
     cases e;rcases yg.1 hv with rfl|hv
     ·exact zn _
     ·rcases yg.1 hv with rfl|hv
      ·exact zn _
      ·rw[zy.1 hv,hbA];exact zn _)
  exact⟨_,β',h4,h⟩
end
theorem ziA {w0:zj} {O:Nat->Prop} (hX:(qs gmH O).Ok w0) {ty:zq}:ginv w0 (qs gmH O).R ty:=⟨Ownr.plain_noR _ _ _,Ownr.plain_noR _ _ _⟩
theorem know3 (k:Int) (h:0≤k∧k≤2):zgE (zgr k):=by
 have key:∀ k:Fin 3,zgE (zgr ((k.val:Nat):Int)):=by
  intro k;unfold zgE;revert k;decide+kernel
 have:=key ⟨k.toNat,by omega⟩;rwa[show (((⟨k.toNat,by omega⟩:Fin 3).val:Nat):Int)=k by show ((k.toNat:Nat):Int)=k;omega]at this
def zrG (k:Nat):List Cal:=(List.range 3).map fun j=>if j < k then zgr ((j:Nat):Int) else zCal
theorem bufC {te:zq} {x y:List Cal} (h:x=y):some (OObj.buf te cal x)=some (OObj.buf te cal y):=by rw[h]
theorem ztI:∀ c∈zrG 3,zgE c:=fun c hc=>by
 obtain⟨j,hj,rfl⟩:=List.mem_map.1 hc;have hj:=List.mem_range.1 hj;rw[if_pos hj];exact know3 _ ⟨by omega,by omega⟩
def cFmt:Ctr:={ args:=[.slice nd],pre:=fun _=>[],res:=.tup .str (.tup i64 .unit),own:=none,out:=fun x=>((fmtS x.1).1,(fmtS x.1).2,()) }
def kFm:Kn:={ gmK with C:=[(59,ziF),(34,ztK)] }
theorem zbS:KnOk Tryz.prog gmH kFm:=zaj.with (.cons zrd <| .cons zsl .nil)
def hFm:List (zT×HCtr):=[(60,zkA 65),(61,znu prT [107])]
theorem zr1:HsOk Tryz.prog gmH hFm:=.cons (zrV 65).1 <| .cons zs6 .nil
set_option maxHeartbeats 1000000 in
theorem zhA:yk Tryz.prog gmH 24 cFmt:=by
 refine zal (K:=kFm) zbS Tryz.func24 rfl rfl Tryz.call24 rfl (by decide) (by intro h;cases h) ?_;rintro w0 X hX ⟨(r:List Nd),_⟩ hp;change AWP _ _ _ _ _ ⟨[(0,⟨.slice nd,r⟩)],[],0⟩ _;refine ju 0 rfl fun hl=>?_;unfold maxLen at hl;have hI:∀ w R,(∀ g,R g->w0.heap.size≤g∨(qs gmH X).R g)->(qs gmH X).G w->bInv prT [107] w R 107:=fun w R hR hw=>⟨zaJ (ty:=107) hX rfl (ziA hX) (ty':=107) w R hR hw,zy.2 rfl⟩;refine za (za ?_);refine zaa hX zbS rfl ?_ ?_
 ·trivial
 refine za (za ?_);refine zaa hX zbS rfl ?_ ?_
 ·exact⟨by decide,by decide,(by decide:(3:Int)≤1000000000)⟩
 refine za (za ?_);refine zaa hX zbS rfl ?_ ?_
 ·trivial
 (repeat(first|apply zaf|apply zab|apply zac|apply zad));refine yi (ι:=Nat) (fun k=>⟨[(0,⟨.slice nd,r⟩),(4,⟨.obuf cal,(0:Nat)⟩),(10,⟨i64,(3:Int)⟩),(11,⟨i64,(k:Int)⟩)],[(0,some (.buf 63 cal (zrG k)))],1⟩) (fun k=>k≤3) (fun k=>3 - k) 0 (zn _) ⟨⟨rfl,rfl,rfl,rfl,trivial⟩,⟨rfl,trivial⟩,rfl,rfl⟩ ?_;intro k hk;refine za (za ?_);refine zaa hX zbS rfl ?_ ?_
 ·trivial
 apply zaf;refine zae rfl (fun hb=>?_) (fun hb=>?_)
 ·have hb:decide ((k:Int) < 3)=true:=hb;have hb:=of_decide_eq_true hb;have z0:(0:Int)≤(k:Int):=by omega
  have z1:(k:Int)≤2:=by omega
  have z2:(k:Int) < (((zrG k).length:Nat):Int):=by show (k:Int) < ((3:Nat):Int);omega
  have z3:((k:Int)).toNat < (zrG k).length:=by show _ < 3;omega
  refine za (za ?_);refine zaa hX zbS rfl ?_ ?_
  ·trivial
  refine za (za ?_);refine zaa hX zbS rfl ?_ ?_
  ·repeat'(first|exact trivial|exact z0|exact z1|exact z2|exact z3|(refine⟨?_,?_⟩))
  refine za (za ?_);refine zaa hX zbS rfl ?_ ?_
  ·exact zaF (by omega)
  refine⟨k+1,by omega,by omega,⟨rfl,rfl,rfl,zbY _,trivial⟩,⟨bufC ?_,trivial⟩,rfl,rfl⟩;rcases (show k=0∨k=1∨k=2 by omega) with rfl|rfl|rfl<;>rfl
 have hb:decide ((k:Int) < 3)=false:=hb;have hb:=of_decide_eq_false hb;obtain rfl:k=3:=by omega
 apply zad;refine qx hX 4 ?_;refine za (za ?_);refine zaa hX zbS rfl ?_ ?_
 ·exact⟨rfl,ztI⟩
 refine za (za ?_);refine zaa hX zbS rfl ?_ ?_
 ·trivial
 refine zae rfl (fun hb=>?_) (fun hb=>?_)
 ·have hb:(zbr r != 0)=true:=hb;have hb:=bne_iff_ne.1 hb;(repeat(first|apply zaf|apply zab|apply zai|apply zad|apply zac|refine zaa hX zbS rfl trivial ?_|refine zaa hX zbS rfl id ?_|refine zaa hX zbS rfl ⟨id,id⟩ ?_));refine zl ⟨.inr rfl,za1 (by decide) rfl rfl trivial ?_⟩;show (([]:List UInt8),zbr r,())=((fmtS r).1,(fmtS r).2,());unfold fmtS;rw[if_neg hb]
 have hb:(zbr r != 0)=false:=hb;have hv:zbr r=0:=by
  have:=bne_eq_false_iff_eq.1 hb;exact this
 have hwf:=zgW hv;have hok:=znK hwf;have hsz:=zjC hwf;have htx:=znJ hwf;have htl:=zfm _ hok;obtain⟨⟨w1,w2⟩,_⟩:=zcN hwf;have hne:=zsx hok (by omega);apply zab;refine zap (σ':=⟨[(0,⟨.slice nd,r⟩)],[],1⟩) ⟨⟨rfl,trivial⟩,trivial,rfl,rfl⟩ ?_;apply zaf;refine zak ?_;refine yh 1 hX zbS rfl trivial ?_;refine AL.bldPr rfl rfl rfl rfl rfl ?_;refine AL.box3 hX rfl rfl rfl rfl rfl rfl rfl ?_;refine AL.nilLeaf 1 1 5 u8 rfl rfl rfl ?_;refine zV hX zbS rfl trivial ?_;have p0:(0:Int)≤((r.length:Nat):Int) - 1:=by omega
 have p1:(((r.length:Nat):Int) - 1).toNat < 65:=by omega
 have p2:(((r.length:Nat):Int) - 1).toNat < r.length:=by omega
 have hnf:zaT 65 r (((r.length:Nat):Int) - 1)=(zcH r).text:=by
  rw[<-htx];have hlow:=zhj (zcN hwf).2.1;rw[show (((r.length:Nat):Int) - 1)=((r.length - 1:Nat):Int) by omega,zfy hlow _ _ (by omega) (by omega),zfy hlow _ _ (by omega) (by omega),zgH hlow 65 (r.length+1) _ (by omega) (by omega) (by omega)]
 have p3:zg ([]:List UInt8)+zg (zaT 65 r (((r.length:Nat):Int) - 1))+10000≤1000000000:=by
  rw[hnf,ya];omega
 have p4:inR .i64 (((r.length:Nat):Int) - 1):=zam (by omega) (by omega);refine zap (σ':=⟨[(0,⟨.slice nd,r⟩),(7,⟨.hptr,((1:Nat),(0:Nat))⟩)],[(1,some (.hbox 107 [adV 1 false,⟨.obuf u8,(2:Nat)⟩,⟨.slice nd,r⟩])),(2,some (.buf 5 u8 []))],3⟩) ⟨⟨rfl,rfl,trivial⟩,⟨rfl,rfl,trivial⟩,rfl,rfl⟩ ?_;refine xM (σ':=⟨[(7,⟨.hptr,((1:Nat),(0:Nat))⟩)],[(1,some (.hbox 107 [adV 1 true,⟨.obuf u8,(2:Nat)⟩,⟨.slice nd,r⟩])),(2,some (.buf 5 u8 (zcH r).text))],3⟩) ?_ ?_
 ·refine zak ?_;refine yq 4 hX zbS zr1 rfl p4 rfl rfl ⟨wfp_of hwf,p0,p1,p2,p3⟩ hI ?_;refine yd ?_;exact⟨⟨rfl,trivial⟩,⟨rfl,(by show some (OObj.buf _ u8 ([]++zaT 65 r _))=_;rw[yV,hnf]),trivial⟩,rfl,rfl⟩
 have hf:fmtS r=if 4000 < (zcH r).text.length then ([],2) else ((zcH r).text,0):=by unfold fmtS;rw[if_pos hv]
 generalize (zcH r).text=T at hf hne;(repeat(first|apply zaf|apply zab|apply zac|apply zad));refine zak ?_;refine yh 2 hX zbS rfl trivial ?_;refine jK (eqP0 _ _ rfl) hX zbS rfl trivial ?_;refine yq 0 hX zbS zr1 rfl trivial rfl rfl trivial hI ?_;refine zV hX zbS rfl trivial ?_;refine zap (σ':=⟨[(7,⟨.hptr,((1:Nat),(0:Nat))⟩),(41,⟨.bool,decide (((T.length:Nat):Int) > 4000)⟩)],[(1,some (.hbox 107 [adV 1 true,⟨.obuf u8,(2:Nat)⟩,⟨.slice nd,r⟩])),(2,some (.buf 5 u8 T))],3⟩) ⟨⟨rfl,rfl,trivial⟩,⟨rfl,rfl,trivial⟩,rfl,rfl⟩ ?_;refine zae rfl (fun hb=>?_) (fun hb=>?_)
 ·have hb:=of_decide_eq_true hb;(repeat(first|apply zaf|apply zab|apply zai|apply zad|apply zac|refine zaa hX zbS rfl trivial ?_|refine zaa hX zbS rfl id ?_|refine zaa hX zbS rfl ⟨id,id⟩ ?_));refine zl ⟨.inr rfl,za1 (by decide) rfl rfl trivial ?_⟩;show (([]:List UInt8),(2:Int),())=((fmtS r).1,(fmtS r).2,());rw[hf,if_pos (by omega)]
 ·have hb:=of_decide_eq_false hb;apply zab;(repeat(first|apply zaf|apply zab|apply zac|apply zad));refine zak ?_;refine yh 2 hX zbS rfl trivial ?_;refine jK (eqP0 _ _ rfl) hX zbS rfl trivial ?_;refine AL.give hX (zjE prT rfl [107]) rfl rfl rfl rfl rfl rfl rfl rfl rfl rfl rfl rfl trivial hne hI rfl rfl ?_;show AL _ _ _ _ _ _ _ _;refine zV hX zbS rfl trivial ?_;refine zl ⟨.inr rfl,za1 (by decide) rfl rfl trivial ?_⟩;show (T,(0:Int),())=((fmtS r).1,(fmtS r).2,());rw[hf,if_neg (by omega)]
def kFm7:Kn:={ gmK with C:=[(35,zpV),(63,cVal6),(64,zkx 1000)] }
theorem zcB:KnOk Tryz.prog gmH kFm7:=zaj.with (.cons zrH <| .cons zsm <| .cons (zlJ 1000) .nil)
theorem znb {r:List Nd} (h:wfS r=true):zaT 1000 r ((r.length:Int) - 1)=(zcH r).text:=by
 obtain⟨⟨h1,h2⟩,h3,h4⟩:=zcN h;have e:((r.length:Int) - 1)=((r.length - 1:Nat):Int):=by omega
 unfold zcH;rw[e,zgH (zhj h3) (r.length+1) 1000 (r.length - 1) (by omega) (by omega) (by omega)];exact zfy (zhj h3) _ _ (by omega) (by omega)
theorem zpq:yk Tryz.prog gmH 25 cFmt:=by
 refine zal (K:=kFm7) zcB Tryz.func25 rfl rfl Tryz.call25 rfl (by decide) (by intro h;cases h) ?_;rintro w0 X hX ⟨(r:List Nd),_⟩ hp;change AWP _ _ _ _ _ ⟨[(0,⟨.slice nd,r⟩)],[],0⟩ _;refine ju 0 rfl fun hl=>?_;unfold maxLen at hl;refine za (za ?_);refine zaa hX zcB rfl ?_ ?_
 ·trivial
 have hcc:zpV.out ()=zdI:=rfl;refine za (za ?_);refine zaa hX zcB rfl ?_ ?_
 ·exact hcc
 refine zap (σ':=⟨[(0,⟨.slice nd,r⟩),(4,⟨i64,zbr r⟩)],[],0⟩) ⟨⟨rfl,rfl,trivial⟩,trivial,rfl,rfl⟩ ?_;refine za (za ?_);refine zaa hX zcB rfl ?_ ?_
 ·trivial
 refine zae rfl (fun hc=>?_) (fun hc=>?_)
 ·have hc:(zbr r != 0)=true:=hc;have hc:zbr r≠0:=by simpa using hc
  (repeat(first|apply zaf|apply zab|apply zai|apply zad|apply zac|refine zaa hX zcB rfl trivial ?_|refine zaa hX zcB rfl id ?_|refine zaa hX zcB rfl ⟨id,id⟩ ?_));refine zl ⟨.inr rfl,za1 (by decide) rfl rfl trivial ?_⟩;show (([]:List UInt8),zbr r,())=((fmtS r).1,(fmtS r).2,());unfold fmtS;rw[if_neg hc]
 have hc:(zbr r != 0)=false:=hc;have hc:zbr r=0:=by simpa using hc
 have hw:=zgW hc;obtain⟨⟨h1,h2⟩,_⟩:=zcN hw;have hT:=znb hw;have htl:=zfm _ (znK hw);rw[zjC hw]at htl;apply zab;have i1:inR .i64 (((r.length:Nat):Int) - 1):=zam (by omega) (by omega);have i2:0≤((r.length:Nat):Int) - 1:=by omega
 have i3:(((r.length:Nat):Int) - 1).toNat < 1000:=by omega
 have i4:(((r.length:Nat):Int) - 1).toNat < r.length:=by omega
 have i5:(zaT 1000 r (((r.length:Nat):Int) - 1)).length≤1000000:=by rw[hT];omega
 refine za (za ?_);refine zaa hX zcB rfl ?_ ?_
 ·exact⟨i1,hw,i2,i3,i4,i5⟩
 refine zap (σ':=⟨[(5,⟨.str,(zcH r).text⟩)],[],0⟩) ⟨⟨bufS hT,trivial⟩,trivial,rfl,rfl⟩ ?_;refine za (za ?_);refine zaa hX zcB rfl ?_ ?_
 ·trivial
 refine zae rfl (fun hd=>?_) (fun hd=>?_)
 ·have hd:decide ((((zcH r).text.length:Nat):Int) > 4000)=true:=hd;have hd:=of_decide_eq_true hd;(repeat(first|apply zaf|apply zab|apply zai|apply zad|apply zac|refine zaa hX zcB rfl trivial ?_|refine zaa hX zcB rfl id ?_|refine zaa hX zcB rfl ⟨id,id⟩ ?_));refine zl ⟨.inr rfl,za1 (by decide) rfl rfl trivial ?_⟩;show (([]:List UInt8),(2:Int),())=((fmtS r).1,(fmtS r).2,());unfold fmtS;rw[if_pos hc,if_pos (by omega)]
 ·have hd:decide ((((zcH r).text.length:Nat):Int) > 4000)=false:=hd;have hd:=of_decide_eq_false hd;(repeat(first|apply zaf|apply zab|apply zai|apply zad|apply zac|refine zaa hX zcB rfl trivial ?_|refine zaa hX zcB rfl id ?_|refine zaa hX zcB rfl ⟨id,id⟩ ?_));refine zl ⟨.inr rfl,za1 (by decide) rfl rfl trivial ?_⟩;show ((zcH r).text,(0:Int),())=((fmtS r).1,(fmtS r).2,());unfold fmtS;rw[if_pos hc,if_neg (by omega)]
abbrev Mk:=List Int×Int×Int×Int×Unit
def mkD (m:Mk):List Int:=m.1
def mkU (m:Mk):Int:=m.2.1
def mkN (m:Mk):Int:=m.2.2.1
def mkS (m:Mk):Int:=m.2.2.2.1
def mkUp (m:Mk):Mk:=(mkD m,mkU m+1,mkN m,mkS m,())
def zat (m:Mk) (n:Int):Int×Mk:=(if mkU m+1 > (((mkD m).length:Nat):Int) then 0 else (mkD m).getD (mkU m).toNat 0 % n,mkUp m)
def zrL:RCtr:={ self:=mkr,args:=[i64],inv:=fun _ _=>True,pre:=fun m xs=>[0≤mkU m,mkU m≤1000000,0 < xs.1,xs.1≤1000000000],res:=i64,out:=fun m xs=>(zat m xs.1).1,post:=fun m xs=>(zat m xs.1).2 }
def kMd:Kn:={ gmK with C:=[(40,cMod)] }
theorem ziz:KnOk Tryz.prog gmG kMd:=zaC.with (.cons mod_ok .nil)
theorem zkX:ze0 Tryz.prog gmG 92 zrL:=by
 refine zd1 (K:=kMd) ziz Tryz.func92 rfl rfl Tryz.call92 rfl (by decide) (fun w w' g hg h hk=>trivial) ?_;rintro w0 O g hX hinv ⟨(d:List Int),(u:Int),(nm:Int),(sz:Int),_⟩ ⟨(n:Int),_⟩ hp;obtain⟨h0,h1,h2,h3⟩:0≤u∧u≤1000000∧0 < n∧n≤1000000000:=hp;change AWP _ _ _ _ _ ⟨[(0,⟨.optr mkr,⟨0,mkr,.here⟩⟩),(1,⟨i64,n⟩)],[(0,some (.box mkr (d,u,nm,sz,())))],1⟩ _;have i1:inR .i64 (u+1):=zam (by omega) (by omega);have i2:inR .i64 (u+1 - 1):=zam (by omega) (by omega);have i3:(0:Int)≤u+1 - 1:=by omega
 refine za (za ?_);refine zaa hX ziz rfl ?_ ?_
 ·trivial
 refine za (za ?_);refine zaa hX ziz rfl ?_ ?_
 ·exact i1
 (repeat(first|apply zaf|apply zab|apply zac|apply zad));refine qY dM hX ziz 9 (by kernel_rfl) rfl rfl ?_ ?_ ?_
 ·trivial
 ·trivial
 refine zae rfl (fun hb=>?_) (fun hb=>?_)
 ·have hb:decide (u+1 > ((d.length:Nat):Int))=true:=hb;have hb:=of_decide_eq_true hb;refine za (za ?_);refine zaa hX ziz rfl ?_ ?_
  ·trivial
  refine zl ⟨.inr rfl,rfl,zas rfl trivial rfl rfl ?_⟩;exact (if_pos (show mkU (d,u,nm,sz,())+1 > (((mkD (d,u,nm,sz,())).length:Nat):Int) from hb)).symm
 ·have hb:decide (u+1 > ((d.length:Nat):Int))=false:=hb;have hb:=of_decide_eq_false hb;apply zab;have i4:u+1 - 1 < ((d.length:Nat):Int):=by omega
  have i5:(u+1 - 1).toNat < d.length:=by omega
  (repeat(first|apply zaf|apply zab|apply zac|apply zad));refine qY dM hX ziz 12 (by kernel_rfl) rfl rfl ?_ ?_ ?_
  ·repeat'(first|exact trivial|assumption|exact i2|exact i3|exact i4|exact i5|exact h2|exact h3|(refine⟨?_,?_⟩)|(intro _)|exact zb rfl|exact zd _|(simp_all [allP];done))
  ·repeat'(first|exact trivial|assumption|exact i2|exact i3|exact i4|exact i5|exact h2|exact h3|(refine⟨?_,?_⟩)|(intro _)|exact zb rfl|exact zd _|(simp_all [allP];done))
  refine zl ⟨.inr rfl,rfl,zas rfl trivial rfl rfl ?_⟩;show d.getD (u+1 - 1).toNat 0 % n=_;refine Eq.trans ?_ (if_neg (show ¬ mkU (d,u,nm,sz,())+1 > (((mkD (d,u,nm,sz,())).length:Nat):Int) from hb)).symm;rw[show u+1 - 1=u by omega];rfl
theorem zbV (m:Mk) {n:Int} (h:0 < n):0≤(zat m n).1∧(zat m n).1 < n:=by
 unfold zat;split
 ·exact⟨xL _,h⟩
 ·exact⟨Int.emod_nonneg _ (by omega),Int.emod_lt_of_pos _ h⟩
theorem zaW (m:Mk) (n:Int):mkU (zat m n).2=mkU m+1:=rfl
theorem zsY (m:Mk) (n:Int):mkN (zat m n).2=mkN m:=rfl
def mRis (lo hi:Int):Nat->Mk->Int->List Int->List Int×Mk
 |0,m,_,acc=>(acc,m)
 |k+1,m,v,acc=>if v≤hi then mRis lo hi k (zat m 3).2 (v+1+(zat m 3).1) (if v≠0∨0≤lo then acc++ [v] else acc) else (acc,m)
def orHi (hi:Int) (p:List Int×Mk):List Int×Mk:=(if p.1.length=0 then [hi] else p.1,p.2)
def zcd (m:Mk) (lo hi:Int):List Int×Mk:=
 let p:=zat m 4
 let q:=zat p.2 (hi - lo+1)
 orHi hi (mRis lo hi (1+p.1).toNat q.2 (lo+q.1) [])
def zly:RCtr:={ self:=mkr,args:=[i64,i64],inv:=fun _ _=>True,pre:=fun m xs=>[0≤mkU m,mkU m≤900000,-1000≤xs.1,xs.1≤xs.2.1,xs.2.1≤1000],res:=ints,out:=fun m xs=>(zcd m xs.1 xs.2.1).1,post:=fun m xs=>(zcd m xs.1 xs.2.1).2 }
def kRi:Kn:={ gmK with R:=[(92,zrL)] }
theorem zc4:KnOk Tryz.prog gmG kRi:=zaC.withR (.cons zkX (fun _ _=>trivial) .nil)
theorem zjN:ze0 Tryz.prog gmG 96 zly:=by
 refine zd1 (K:=kRi) zc4 Tryz.func96 rfl rfl Tryz.call96 rfl (by decide) (fun w w' g hg h hk=>trivial) ?_;rintro w0 O g hX hinv ⟨(d:List Int),(u:Int),(nm:Int),(sz:Int),_⟩ ⟨(lo:Int),(hi:Int),_⟩ hp;obtain⟨h0,h1,h2,h3,h4⟩:0≤u∧u≤900000∧ -1000≤lo∧lo≤hi∧hi≤1000:=hp;obtain⟨m,hm⟩:∃ m:Mk,m=(d,u,nm,sz,()):=⟨_,rfl⟩;rw[<-hm];have h0:0≤mkU m:=by rw[hm];exact h0
 have h1:mkU m≤900000:=by rw[hm];exact h1
 change AWP _ _ _ _ _ ⟨[(0,⟨.optr mkr,⟨0,mkr,.here⟩⟩),(1,⟨i64,lo⟩),(2,⟨i64,hi⟩)],[(0,some (.box mkr m))],1⟩ _;clear hm;have hc:=zbV m (n:=4) (by decide);have hu1:=zaW m 4;obtain⟨c,hc0⟩:∃ k:Nat,(zat m 4).1=(k:Int):=⟨(zat m 4).1.toNat,by omega⟩;have ha1:mkU m≤1000000:=by omega
 have i1:inR .i64 (1+(zat m 4).1):=zam (by omega) (by omega);refine za (za ?_);refine zaa hX zc4 rfl ?_ ?_
 ·trivial
 refine za (za ?_);refine zaa hX zc4 rfl ?_ ?_
 ·repeat'(first|exact trivial|assumption|exact h0|exact ha1|exact i1|(refine⟨?_,?_⟩)|(intro _)|exact zb rfl|exact zd _|(simp_all [allP];done))
 have hN0:1+(zat m 4).1=((c+1:Nat):Int):=by omega
 have e0:orHi hi (mRis lo hi (c+1) (zat (zat m 4).2 (hi - lo+1)).2 (lo+(zat (zat m 4).2 (hi - lo+1)).1) [])=zcd m lo hi:=by
  unfold zcd;simp only[hN0,zz]
 have hd1:=zbV (zat m 4).2 (n:=hi - lo+1) (by omega);have hu2:=zaW (zat m 4).2 (hi - lo+1);have j1:inR .i64 (hi - lo):=zam (by omega) (by omega);have j2:inR .i64 (hi - lo+1):=zam (by omega) (by omega);have j3:0≤mkU (zat m 4).2:=by omega
 have j4:mkU (zat m 4).2≤1000000:=by omega
 have j5:0 < hi - lo+1:=by omega
 have j6:hi - lo+1≤1000000000:=by omega
 have j7:inR .i64 (lo+(zat (zat m 4).2 (hi - lo+1)).1):=zam (by omega) (by omega);refine za (za ?_);refine zaa hX zc4 rfl ?_ ?_
 ·repeat'(first|exact trivial|assumption|exact j1|exact j2|exact j3|exact j4|exact j5|exact j6|exact j7|(refine⟨?_,?_⟩)|(intro _)|exact zb rfl|exact zd _|(simp_all [allP];done))
 have u2:mkU (zat (zat m 4).2 (hi - lo+1)).2=mkU m+2:=by omega
 have v2:lo≤lo+(zat (zat m 4).2 (hi - lo+1)).1∧lo+(zat (zat m 4).2 (hi - lo+1)).1≤hi:=by omega
 refine za (za ?_);refine zaa hX zc4 rfl ?_ ?_
 ·trivial
 refine AWP.nilBuf hX 9 3 i64 rfl rfl rfl ?_;refine za (za ?_);refine zaa hX zc4 rfl ?_ ?_
 ·trivial
 have hcl:c+1≤4:=by omega
 refine zap (σ':=⟨[(0,⟨.optr mkr,⟨0,mkr,.here⟩⟩),(1,⟨i64,lo⟩),(2,⟨i64,hi⟩),(7,⟨i64,((c+1:Nat):Int)⟩),(8,⟨i64,lo+(zat (zat m 4).2 (hi - lo+1)).1⟩),(9,⟨.obuf i64,(1:Nat)⟩),(10,⟨i64,(0:Int)⟩)],[(0,some (.box mkr (zat (zat m 4).2 (hi - lo+1)).2)),(1,some (.buf 3 i64 []))],2⟩) ⟨⟨rfl,rfl,rfl,vI64 hN0,rfl,rfl,rfl,trivial⟩,⟨rfl,rfl,trivial⟩,rfl,rfl⟩ ?_;obtain⟨R,hRR⟩:∃ R,R=zcd m lo hi:=⟨_,rfl⟩;rw[<-hRR]at e0;generalize (zat (zat m 4).2 (hi - lo+1)).2=m2 at *;generalize lo+(zat (zat m 4).2 (hi - lo+1)).1=v at *;clear hc hu1 hc0 ha1 i1 hN0 hd1 hu2 j1 j2 j3 j4 j5 j6 j7;apply zac;refine yi (ι:=Nat×Mk×Int×List Int) (fun x=>⟨[(0,⟨.optr mkr,⟨0,mkr,.here⟩⟩),(1,⟨i64,lo⟩),(2,⟨i64,hi⟩),(7,⟨i64,((c+1:Nat):Int)⟩),(8,⟨i64,x.2.2.1⟩),(9,⟨.obuf i64,(1:Nat)⟩),(10,⟨i64,(((c+1) - x.1:Nat):Int)⟩)],[(0,some (.box mkr x.2.1)),(1,some (.buf 3 i64 x.2.2.2))],2⟩) (fun x=>orHi hi (mRis lo hi x.1 x.2.1 x.2.2.1 x.2.2.2)=R∧x.1≤c+1∧mkU x.2.1=mkU m+2+((c+1 - x.1:Nat):Int)∧(lo≤x.2.2.1∧x.2.2.1≤hi+3)∧x.2.2.2.length≤4 - x.1) (fun x=>x.1) (c+1,m2,v,[]) ⟨e0,zk _,?_,⟨v2.1,?_⟩,zn _⟩ ⟨⟨rfl,rfl,rfl,rfl,rfl,rfl,vI64 ?_,trivial⟩,⟨rfl,rfl,trivial⟩,rfl,rfl⟩ ?_
 ·show mkU m2=mkU m+2+((c+1 - (c+1):Nat):Int);omega
 ·show v≤hi+3;omega
 ·show (0:Int)=((c+1 - (c+1):Nat):Int);omega
 rintro ⟨k,mk,w,acc⟩ ⟨hR,hk,hu,⟨hw1,hw2⟩,hacc⟩;have hR:orHi hi (mRis lo hi k mk w acc)=R:=hR;have hk:k≤c+1:=hk;have hu:mkU mk=mkU m+2+((c+1 - k:Nat):Int):=hu;have hw1:lo≤w:=hw1;have hw2:w≤hi+3:=hw2;have hacc:acc.length≤4 - k:=hacc;clear e0 u2 v2;change AWP _ _ _ _ _ ⟨[(0,⟨.optr mkr,⟨0,mkr,.here⟩⟩),(1,⟨i64,lo⟩),(2,⟨i64,hi⟩),(7,⟨i64,((c+1:Nat):Int)⟩),(8,⟨i64,w⟩),(9,⟨.obuf i64,(1:Nat)⟩),(10,⟨i64,(((c+1) - k:Nat):Int)⟩)],[(0,some (.box mkr mk)),(1,some (.buf 3 i64 acc))],2⟩ _;have hq:(bif decide ((((c+1) - k:Nat):Int) < ((c+1:Nat):Int)) then decide (w≤hi) else false)=decide (0 < k∧w≤hi):=by
  rw[zcS,zL,zf,decide_eq_true_iff,decide_eq_true_iff,decide_eq_true_iff];omega
 refine za (za ?_);refine zaa hX zc4 rfl ?_ ?_
 ·repeat'(first|exact trivial|assumption|(refine⟨?_,?_⟩)|(intro _)|exact zb rfl|exact zd _|(simp_all [allP];done))
 refine zae rfl (fun hb=>?_) (fun hb=>?_)
 ·have hb:=of_decide_eq_true (hq.symm.trans hb);obtain⟨hk0,hwh⟩:=hb;obtain⟨k,rfl⟩:∃ j,k=j+1:=⟨k - 1,by omega⟩;have hR2:orHi hi (mRis lo hi k (zat mk 3).2 (w+1+(zat mk 3).1) (if w≠0∨0≤lo then acc++ [w] else acc))=R:=by
   rw[<-hR]
   conv=>rhs;rw[mRis,if_pos hwh]
  have hp3:=zbV mk (n:=3) (by decide);have hu3:=zaW mk 3;have q1:0≤mkU mk:=by omega
  have q2:mkU mk≤1000000:=by omega
  have q3:inR .i64 (w+1):=zam (by omega) (by omega);have q4:inR .i64 (w+1+(zat mk 3).1):=zam (by omega) (by omega);have q5:inR .i64 ((((c+1) - (k+1):Nat):Int)+1):=zam (by omega) (by omega);have q6:acc.length+1≤1000000000:=by omega
  have hend:((((c+1) - (k+1):Nat):Int)+1)=(((c+1) - k:Nat):Int):=by omega
  have hq2:(bif (!(w==0)) then true else decide (lo≥0))=decide (w≠0∨0≤lo):=by
   rw[b_or,zL,zY,decide_eq_true_iff,decide_eq_true_iff,zr,beq_eq_false_iff_ne]
  refine za (za ?_);refine zaa hX zc4 rfl ?_ ?_
  ·repeat'(first|exact trivial|assumption|(refine⟨?_,?_⟩)|(intro _)|exact zb rfl|exact zd _|(simp_all [allP];done))
  refine zae rfl (fun hc=>?_) (fun hc=>?_)
  ·have hc:=of_decide_eq_true (hq2.symm.trans hc);rw[if_pos hc]at hR2;refine za (za ?_);refine zaa hX zc4 rfl ?_ ?_
   ·exact q6
   refine za (za ?_);refine zaa hX zc4 rfl ?_ ?_
   ·repeat'(first|exact trivial|assumption|exact q1|exact q2|exact q3|exact q4|(refine⟨?_,?_⟩)|(intro _)|exact zb rfl|exact zd _|(simp_all [allP];done))
   refine za (za ?_);refine zaa hX zc4 rfl ?_ ?_
   ·exact q5
   refine⟨(k,(zat mk 3).2,w+1+(zat mk 3).1,acc++ [w]),⟨hR2,by show k≤c+1;omega,?_,⟨?_,?_⟩,?_⟩,by show k < k+1;omega,⟨rfl,rfl,rfl,rfl,rfl,rfl,vI64 hend,trivial⟩,⟨rfl,rfl,trivial⟩,rfl,rfl⟩
   ·show mkU (zat mk 3).2=mkU m+2+((c+1 - k:Nat):Int);omega
   ·show lo≤w+1+(zat mk 3).1;omega
   ·show w+1+(zat mk 3).1≤hi+3;omega
   ·show (acc++ [w]).length≤4 - k;rw[zh,xi];omega
  ·have hc:=of_decide_eq_false (hq2.symm.trans hc);rw[if_neg hc]at hR2;apply zab;refine za (za ?_);refine zaa hX zc4 rfl ?_ ?_
   ·repeat'(first|exact trivial|assumption|exact q1|exact q2|exact q3|exact q4|(refine⟨?_,?_⟩)|(intro _)|exact zb rfl|exact zd _|(simp_all [allP];done))
   refine za (za ?_);refine zaa hX zc4 rfl ?_ ?_
   ·exact q5
   refine⟨(k,(zat mk 3).2,w+1+(zat mk 3).1,acc),⟨hR2,by show k≤c+1;omega,?_,⟨?_,?_⟩,?_⟩,by show k < k+1;omega,⟨rfl,rfl,rfl,rfl,rfl,rfl,vI64 hend,trivial⟩,⟨rfl,rfl,trivial⟩,rfl,rfl⟩
   ·show mkU (zat mk 3).2=mkU m+2+((c+1 - k:Nat):Int);omega
   ·show lo≤w+1+(zat mk 3).1;omega
   ·show w+1+(zat mk 3).1≤hi+3;omega
   ·show acc.length≤4 - k;omega
 ·have hb:=of_decide_eq_false (hq.symm.trans hb);have hR3:(mRis lo hi k mk w acc)=(acc,mk):=by
   cases k with
   |zero=>rfl
   |succ k=>rw[mRis,if_neg (by omega)]
  rw[hR3]at hR;apply zad;have q6:acc.length+1≤1000000000:=by omega
  have hq3:(((acc.length:Nat):Int)==0)=decide (acc.length=0):=by
   rw[zL,beq_iff_eq,decide_eq_true_iff];omega
  refine za (za ?_);refine zaa hX zc4 rfl ?_ ?_
  ·trivial
  refine zae rfl (fun hc=>?_) (fun hc=>?_)
  ·have hc:=of_decide_eq_true (hq3.symm.trans hc);refine za (za ?_);refine zaa hX zc4 rfl ?_ ?_
   ·exact q6
   refine qx hX 9 ?_;refine za (za ?_);refine zaa hX zc4 rfl ?_ ?_
   ·trivial
   refine zl ⟨.inr rfl,?_,zas rfl trivial rfl rfl ?_⟩
   ·show some (OObj.box mkr mk)=some (OObj.box mkr (zcd m lo hi).2);rw[<-hRR, <-hR];rfl
   ·show acc++ [hi]=(zcd m lo hi).1;rw[<-hRR, <-hR];unfold orHi;rw[if_pos hc,List.length_eq_zero_iff.1 hc];rfl
  ·have hc:=of_decide_eq_false (hq3.symm.trans hc);apply zab;refine qx hX 9 ?_;refine za (za ?_);refine zaa hX zc4 rfl ?_ ?_
   ·trivial
   refine zl ⟨.inr rfl,?_,zas rfl trivial rfl rfl ?_⟩
   ·show some (OObj.box mkr mk)=some (OObj.box mkr (zcd m lo hi).2);rw[<-hRR, <-hR];rfl
   ·show acc=(zcd m lo hi).1;rw[<-hRR, <-hR];unfold orHi;rw[if_neg hc]
section
variable {P:Program} {w0:zj} {X:Ownr} {n:Nat} {σ:AS} {Q:Exit->AS->Prop} {ops:Array Oper}
theorem AL.guardU (j s:Nat) (b:Bool) (t:Ty) (y:t.T) {z:Bool} {o:Oper} {rest:List Oper} (hg:o.guard=some (j,b)) (hd:(ops[j]?).bind (·.dst)=some s) (hs:Frame.get σ.F s=⟨.cond .bool,(false,z)⟩) (hsn:zW s n=true) {d:Nat} (hdst:o.dst=some d) (hdn:zW d n=true) (h:AL P w0 X n ops rest ⟨(d,⟨.cond t,(false,y)⟩)::σ.F,σ.E,σ.nx⟩ Q) (hb:bnd t y=0:=by rfl):AL P w0 X n ops (o::rest) σ Q:=by
 intro β a w hsim;have hv:a.tmps.getD s undef=undef:=by
  have h2:=hsim.fr s;rw[hs]at h2;exact h2.2 rfl
 have hsz:s < a.tmps.size:=by rw[hsim.sz];simpa using hsn
 have hy:yielded ops a.tmps j=none:=by
  unfold yielded;rw[hd];have:a.tmps[s]? =some undef:=by
   rw[zO,yn hsz]at hv;rw[yn hsz];exact congrArg some hv
  show (match (a.tmps[s]?) with
   |some (.bool b)=>some b
   |_=>none)=none
  rw[this];rfl
 have hw:¬ zG o (yielded ops a.tmps)=true:=by simp[zG,hg,hy]
 show if zG o (yielded ops a.tmps)=true then _ else _
 rw[if_neg hw];refine⟨fun f _=>zeC _ f,?_⟩;rw[hdst];exact h _ _ _ (hsim.put (zP _ _) (v:=⟨.cond t,(false,y)⟩) ⟨fun h=>(by cases h),fun _=>rfl⟩ (by rw[show V.bound ⟨.cond t,(false,y)⟩=bnd t y from rfl,hb];exact zn _) (by simpa using hdn))
end
def zdP (k:Int) (m:Mk):Bool×Mk:=if k=8 then (mkN m==0,m) else if k=6 then ((zat m 2).1==0,(zat m 2).2) else (false,m)
def zfA (k:Int) (m:Mk) (ids:Int):Int×Mk:=if k≠1∧k≠5 then zat m ids else (0,m)
def zix (k c:Int) (m:Mk):Nd×Mk:=
 if k=1 then let p:=zat m 12;let q:=zat p.2 20;((1,c,0,0,1+p.1,q.1,[],[],()),q.2)
 else if k=2 then let p:=zat m 4;let q:=zat p.2 (1+p.1);((2,c,0,0,1+p.1,q.1,[],[],()),q.2)
 else if k=3 then let p:=zcd m 1 4;((3,c,0,0,0,0,p.1,[],()),p.2)
 else if k=4 then let p:=zcd m (-4) 7;((4,c,0,0,0,0,p.1,[],()),p.2)
 else if k=5 then let p:=zcd m 0 6;((5,c,0,0,0,0,p.1,[],()),p.2)
 else if k=6 then let p:=zcd m 1 4;((6,c,0,0,0,0,p.1,[],()),p.2)
 else let p:=zat m 3;let q:=zat p.2 2;let r:=zat q.2 7;let s:=zat r.2 2;((k,c,s.1,0,(if q.1=1 then -(1+p.1) else 1+p.1),r.1,[],[],()),s.2)
def lfK (k:Int) (b:Bool):Int:=bif b then 1 else k
def zj1 (k:Int) (m:Mk) (ids:Int):Nd×Mk:=
 let q:=zdP k m
 if k=8∧mkN q.2 > 0 then let r:=zat q.2 (mkN q.2);((18,0,0,0,0,0,[],[110]++deI r.1,()),r.2)
 else zix (lfK k q.1) (zfA (lfK k q.1) q.2 ids).1 (zfA (lfK k q.1) q.2 ids).2
def zdF (m:Mk) (ids:Int):Nd×Mk:=zj1 (1+(zat m 8).1) (zat m 8).2 ids
def zsd:RCtr:={ self:=mkr,args:=[i64],inv:=fun _ _=>True,pre:=fun m xs=>[0≤mkU m,mkU m≤800000,0≤mkN m,mkN m≤1000000,0 < xs.1,xs.1≤1000000],res:=nd,out:=fun m xs=>(zdF m xs.1).1,post:=fun m xs=>(zdF m xs.1).2 }
def kMl:Kn:={ gmK with C:=[(107,cDec)],R:=[(92,zrL),(96,zly)] }
theorem zaB:KnOk Tryz.prog gmG kMl:={ zaC.with (.cons zpE .nil) with r:=.cons zkX (fun _ _=>trivial) (.cons zjN (fun _ _=>trivial) .nil) }
abbrev sLf (m:Mk) (ids k:Int) (n:Nd):AS:=⟨[(0,⟨.optr mkr,⟨0,mkr,.here⟩⟩),(1,⟨i64,ids⟩),(4,⟨.optr nd,⟨1,nd,.here⟩⟩),(5,⟨i64,k⟩),(6,⟨.optr nd,⟨2,nd,.here⟩⟩)],[(0,some (.box mkr m)),(1,some (.box nd zNd)),(2,some (.box nd n))],3⟩
theorem zqV:ze0 Tryz.prog gmG 93 zsd:=by
 refine zd1 (K:=kMl) zaB Tryz.func93 rfl rfl Tryz.call93 rfl (by decide) (fun w w' g hg h hk=>trivial) ?_;rintro w0 O g hX hinv (m:Mk) ⟨(ids:Int),_⟩ hp;obtain⟨h0,h1,h2,h3,h4,h5⟩:0≤mkU m∧mkU m≤800000∧0≤mkN m∧mkN m≤1000000∧0 < ids∧ids≤1000000:=hp;change AWP _ _ _ _ _ ⟨[(0,⟨.optr mkr,⟨0,mkr,.here⟩⟩),(1,⟨i64,ids⟩)],[(0,some (.box mkr m))],1⟩ _;have a1:mkU m≤1000000:=by omega
 have hk:=zbV m (n:=8) (by decide);have hu1:=zaW m 8;have hn1:=zsY m 8;have a2:inR .i64 (1+(zat m 8).1):=zam (by omega) (by omega);refine za (za ?_);refine zaa hX zaB rfl ?_ ?_
 ·trivial
 refine za (za ?_);refine zaa hX zaB rfl ?_ ?_
 ·repeat'(first|exact trivial|assumption|exact h0|exact a1|exact a2|(refine⟨?_,?_⟩)|(intro _)|exact zb rfl|exact zd _|(simp_all [allP];done))
 refine za (za ?_);refine zaa hX zaB rfl ?_ ?_
 ·trivial
 obtain⟨R,hRR⟩:∃ R,R=zdF m ids:=⟨_,rfl⟩;have hR:R=zj1 (1+(zat m 8).1) (zat m 8).2 ids:=hRR;refine zap (σ':=sLf (zat m 8).2 ids (1+(zat m 8).1) (1+(zat m 8).1,0,0,0,0,0,[],[],())) ⟨⟨rfl,rfl,rfl,rfl,rfl,trivial⟩,⟨rfl,rfl,rfl,trivial⟩,rfl,rfl⟩ ?_;generalize hk1:1+(zat m 8).1=k at *;have hkr:1≤k∧k≤8:=by omega
 generalize (zat m 8).2=m1 at *;have b1:0≤mkU m1:=by omega
 have b2:mkU m1≤1000000:=by omega
 clear hk hk1 a1 a2;apply zaf;refine AWP.viaQ (σ':=sLf (zdP k m1).2 ids k (lfK k (zdP k m1).1,0,0,0,0,0,[],[],())) ?_ ?_
 ·apply zaf;refine zak ?_;refine yh 3 hX zaB rfl trivial ?_;by_cases h8:k=8
  ·subst h8;have e:zdP 8 m1=(mkN m1==0,m1):=rfl;rw[e];refine xf 2 14 true rfl rfl rfl rfl ?_;refine yh 1 hX zaB rfl trivial ?_;refine xf 2 14 true rfl rfl rfl rfl ?_;refine yh 1 hX zaB rfl trivial ?_;refine xf 2 14 true rfl rfl rfl rfl ?_;refine yh 1 hX zaB rfl trivial ?_;refine xf 2 14 true rfl rfl rfl rfl ?_;refine yh 1 hX zaB rfl trivial ?_;refine xf 2 14 true rfl rfl rfl rfl ?_;refine yh 3 hX zaB rfl trivial ?_;by_cases hN:(mkN m1==0)=true
   ·rw[hN];refine yp 9 21 false i64 0 rfl rfl (zco hN) rfl rfl rfl ?_;refine yp 9 21 false .bool false rfl rfl (zco hN) rfl rfl rfl ?_;refine yp 9 21 false .bool false rfl rfl (zco hN) rfl rfl rfl ?_;refine AL.guardU 12 24 true i64 0 rfl rfl rfl rfl rfl rfl ?_;refine AL.guardU 12 24 true i64 0 rfl rfl rfl rfl rfl rfl ?_;refine AL.guardU 12 24 true .bool false rfl rfl rfl rfl rfl rfl ?_;refine yp 9 21 false .bool false rfl rfl (zco hN) rfl rfl rfl ?_;refine zV hX zaB rfl (fun hc=>absurd (show (!(mkN m1==0))=true from hc) (by rw[hN];decide)) ?_;refine zae rfl (fun _=>?_) (fun hb=>?_)
    ·refine za (za ?_);refine zaa hX zaB rfl ?_ ?_
     ·trivial
     exact⟨⟨rfl,rfl,rfl,rfl,rfl,trivial⟩,⟨rfl,rfl,rfl,trivial⟩,rfl,rfl⟩
    ·have hb:(bif (mkN m1==0) then true else false)=false:=hb;rw[hN]at hb;cases hb
   ·have hN:(mkN m1==0)=false:=by simpa using hN
    rw[hN];refine qJ (σ':=⟨(21,⟨.bool,false⟩)::(sLf m1 ids 8 (8,0,0,0,0,0,[],[],())).F,(sLf m1 ids 8 (8,0,0,0,0,0,[],[],())).E,3⟩) ⟨⟨zco hN,rfl,rfl,rfl,rfl,rfl,trivial⟩,⟨rfl,rfl,rfl,trivial⟩,rfl,rfl⟩ ?_;refine xf 9 21 false rfl rfl rfl rfl ?_;refine yh 1 hX zaB rfl trivial ?_;refine xf 9 21 false rfl rfl rfl rfl ?_;refine yh 1 hX zaB rfl trivial ?_;refine xf 9 21 false rfl rfl rfl rfl ?_;refine yh 1 hX zaB rfl trivial ?_;refine yp 12 24 true i64 0 rfl rfl rfl rfl rfl rfl ?_;refine yp 12 24 true i64 0 rfl rfl rfl rfl rfl rfl ?_;refine yp 12 24 true .bool false rfl rfl rfl rfl rfl rfl ?_;refine xf 9 21 false rfl rfl rfl rfl ?_;refine zV hX zaB rfl (by repeat'(first|exact trivial|assumption|(refine⟨?_,?_⟩)|(intro _)|exact zb rfl|exact zd _|(simp_all [allP];done))) ?_;refine zae rfl (fun hb=>?_) (fun _=>?_)
    ·have hb:false=true:=hb;cases hb
    apply zab;exact⟨⟨rfl,rfl,rfl,rfl,rfl,trivial⟩,⟨rfl,rfl,rfl,trivial⟩,rfl,rfl⟩
  ·have h8b:(k==8)=false:=beq_false_of_ne h8;refine qJ (σ':=⟨(14,⟨.bool,false⟩)::(sLf m1 ids k (k,0,0,0,0,0,[],[],())).F,(sLf m1 ids k (k,0,0,0,0,0,[],[],())).E,3⟩) ⟨⟨zco h8b,rfl,rfl,rfl,rfl,rfl,trivial⟩,⟨rfl,rfl,rfl,trivial⟩,rfl,rfl⟩ ?_;refine yp 2 14 true i64 0 rfl rfl rfl rfl rfl rfl ?_;refine yp 2 14 true i64 0 rfl rfl rfl rfl rfl rfl ?_;refine yp 2 14 true i64 0 rfl rfl rfl rfl rfl rfl ?_;refine yp 2 14 true i64 0 rfl rfl rfl rfl rfl rfl ?_;refine yp 2 14 true .bool false rfl rfl rfl rfl rfl rfl ?_;refine yh 2 hX zaB rfl (by repeat'(first|exact trivial|assumption|(refine⟨?_,?_⟩)|(intro _)|exact zb rfl|exact zd _|(simp_all [allP];done))) ?_;refine qJ (σ':=⟨(21,⟨.bool,false⟩)::(sLf m1 ids k (k,0,0,0,0,0,[],[],())).F,(sLf m1 ids k (k,0,0,0,0,0,[],[],())).E,3⟩) ⟨⟨rfl,rfl,rfl,rfl,rfl,rfl,trivial⟩,⟨rfl,rfl,rfl,trivial⟩,rfl,rfl⟩ ?_;refine xf 9 21 false rfl rfl rfl rfl ?_;refine yh 1 hX zaB rfl trivial ?_;refine xf 9 21 false rfl rfl rfl rfl ?_;refine yh 1 hX zaB rfl trivial ?_;refine xf 9 21 false rfl rfl rfl rfl ?_;refine yh 1 hX zaB rfl trivial ?_;by_cases h6:k=6
   ·subst h6;have e:zdP 6 m1=((zat m1 2).1==0,(zat m1 2).2):=rfl;rw[e];refine xf 12 24 true rfl rfl rfl rfl ?_;refine yh 1 hX zaB rfl trivial ?_;refine xf 12 24 true rfl rfl rfl rfl ?_;refine yh 1 hX zaB rfl (by repeat'(first|exact trivial|assumption|exact b1|exact b2|(refine⟨?_,?_⟩)|(intro _)|exact zb rfl|exact zd _|(simp_all [allP];done))) ?_;refine xf 12 24 true rfl rfl rfl rfl ?_;refine yh 1 hX zaB rfl trivial ?_;refine xf 9 21 false rfl rfl rfl rfl ?_;refine zV hX zaB rfl (by repeat'(first|exact trivial|assumption|(refine⟨?_,?_⟩)|(intro _)|exact zb rfl|exact zd _|(simp_all [allP];done))) ?_;refine zae rfl (fun hb=>?_) (fun hb=>?_)
    ·have hb:((zat m1 2).1==0)=true:=hb;rw[hb];refine za (za ?_);refine zaa hX zaB rfl ?_ ?_
     ·trivial
     exact⟨⟨rfl,rfl,rfl,rfl,rfl,trivial⟩,⟨rfl,rfl,rfl,trivial⟩,rfl,rfl⟩
    ·have hb:((zat m1 2).1==0)=false:=hb;rw[hb];apply zab;exact⟨⟨rfl,rfl,rfl,rfl,rfl,trivial⟩,⟨rfl,rfl,rfl,trivial⟩,rfl,rfl⟩
   ·have h6b:(k==6)=false:=beq_false_of_ne h6;have e:zdP k m1=(false,m1):=by unfold zdP;rw[if_neg h8,if_neg h6]
    rw[e];refine qJ (σ':=⟨(21,⟨.bool,false⟩)::(24,⟨.bool,false⟩)::(sLf m1 ids k (k,0,0,0,0,0,[],[],())).F,(sLf m1 ids k (k,0,0,0,0,0,[],[],())).E,3⟩) ⟨⟨rfl,zco h6b,rfl,rfl,rfl,rfl,rfl,trivial⟩,⟨rfl,rfl,rfl,trivial⟩,rfl,rfl⟩ ?_;refine yp 12 24 true i64 0 rfl rfl rfl rfl rfl rfl ?_;refine yp 12 24 true i64 0 rfl rfl rfl rfl rfl rfl ?_;refine yp 12 24 true .bool false rfl rfl rfl rfl rfl rfl ?_;refine xf 9 21 false rfl rfl rfl rfl ?_;refine zV hX zaB rfl (by repeat'(first|exact trivial|assumption|(refine⟨?_,?_⟩)|(intro _)|exact zb rfl|exact zd _|(simp_all [allP];done))) ?_;refine zae rfl (fun hb=>?_) (fun _=>?_)
    ·have hb:false=true:=hb;cases hb
    apply zab;exact⟨⟨rfl,rfl,rfl,rfl,rfl,trivial⟩,⟨rfl,rfl,rfl,trivial⟩,rfl,rfl⟩
 have hm2:mkN (zdP k m1).2=mkN m∧0≤mkU (zdP k m1).2∧mkU (zdP k m1).2≤mkU m+2:=by
  unfold zdP;split
  ·exact⟨hn1,b1,by show mkU m1≤_;omega⟩
  ·split
   ·exact⟨hn1,by show 0≤mkU (zat m1 2).2;rw[zaW];omega,by show mkU (zat m1 2).2≤_;rw[zaW];omega⟩
   ·exact⟨hn1,b1,by show mkU m1≤_;omega⟩
 have hk8:k=8->(zdP k m1).1=(mkN m==0):=fun h=>by
  rw[h];show (mkN m1==0)=(mkN m==0);rw[hn1]
 unfold zj1 at hR;generalize zdP k m1=q at *;obtain⟨b,m2⟩:=q;obtain⟨n2,u2,u3⟩:mkN m2=mkN m∧0≤mkU m2∧mkU m2≤mkU m+2:=hm2;have hk8:k=8->b=(mkN m==0):=hk8;have hR:R=if k=8∧mkN m2 > 0 then ((18,0,0,0,0,0,[],[110]++deI (zat m2 (mkN m2)).1,()),(zat m2 (mkN m2)).2) else zix (lfK k b) (zfA (lfK k b) m2 ids).1 (zfA (lfK k b) m2 ids).2:=hR
 show AWP _ _ _ _ _ (sLf m2 ids k (lfK k b,0,0,0,0,0,[],[],())) _;have g1:mkU m2≤1000000:=by omega
 have g2:mkN m2≤1000000000:=by omega
 have hq:(bif (k==8) then decide (mkN m2 > 0) else false)=decide (k=8∧mkN m2 > 0):=by
  rw[zcS,zL,zf,decide_eq_true_iff,decide_eq_true_iff,beq_iff_eq]
 refine za (za ?_);refine zaa hX zaB rfl ?_ ?_
 ·repeat'(first|exact trivial|assumption|(refine⟨?_,?_⟩)|(intro _)|exact zb rfl|exact zd _|(simp_all [allP];done))
 refine zae rfl (fun hc=>?_) (fun hc=>?_)
 ·have hc:=of_decide_eq_true (hq.symm.trans hc);rw[if_pos hc]at hR;have hp2:=zbV m2 (n:=mkN m2) (by omega);have g3:0 < mkN m2:=hc.2;have g4: -100000000000000000 < (zat m2 (mkN m2)).1:=by omega
  have g5:(zat m2 (mkN m2)).1 < 100000000000000000:=by omega
  have hl:(deI (zat m2 (mkN m2)).1).length≤18:=zc9 (by omega) (by omega);have g6:1+(deI (zat m2 (mkN m2)).1).length≤maxLen:=by unfold maxLen;omega
  refine za (za ?_);refine zaa hX zaB rfl ?_ ?_
  ·trivial
  refine za (za ?_);refine zaa hX zaB rfl ?_ ?_
  ·repeat'(first|exact trivial|assumption|exact u2|exact g1|exact g3|exact g2|exact g4|exact g5|exact g6|(refine⟨?_,?_⟩)|(intro _)|exact zb rfl|exact zd _|(simp_all [allP];done))
  refine za (za ?_);refine zaa hX zaB rfl ?_ ?_
  ·trivial
  refine zl ⟨.inr rfl,?_,zas rfl trivial rfl rfl ?_⟩
  ·show some (OObj.box mkr (zat m2 (mkN m2)).2)=some (OObj.box mkr (zdF m ids).2);rw[<-hRR,hR]
  ·show (((18:Int),(0:Int),(0:Int),(0:Int),(0:Int),(0:Int),([]:List Int),[110]++deI (zat m2 (mkN m2)).1,()):Nd)=(zdF m ids).1;rw[<-hRR,hR]
 have hc:=of_decide_eq_false (hq.symm.trans hc);rw[if_neg hc]at hR;apply zab;have hk2:1≤lfK k b∧lfK k b≤7:=by
  unfold lfK;cases b with
  |true=>exact⟨by show (1:Int)≤1;omega,by show (1:Int)≤7;omega⟩
  |false=>
   show 1≤k∧k≤7;refine⟨hkr.1,?_⟩;by_cases h8:k=8
   ·have hz:=hk8 h8;have:mkN m≠0:=fun h=>by rw[h]at hz;cases hz
    exact absurd ⟨h8,by omega⟩ hc
   ·omega
 clear hk8 hq hc;generalize lfK k b=c at *;apply zaf;refine AWP.viaQ (σ':=sLf (zfA c m2 ids).2 ids k (c,(zfA c m2 ids).1,0,0,0,0,[],[],())) ?_ ?_
 ·have hq:(bif (!(c==1)) then (!(c==5)) else false)=decide (c≠1∧c≠5):=by
   rw[zcS,zL,zf,decide_eq_true_iff,zr,zr,beq_eq_false_iff_ne,beq_eq_false_iff_ne]
  refine za (za ?_);refine zaa hX zaB rfl ?_ ?_
  ·repeat'(first|exact trivial|assumption|(refine⟨?_,?_⟩)|(intro _)|exact zb rfl|exact zd _|(simp_all [allP];done))
  refine zae rfl (fun hc=>?_) (fun hc=>?_)
  ·have hc:=of_decide_eq_true (hq.symm.trans hc);have e:zfA c m2 ids=zat m2 ids:=if_pos hc;have h6:ids≤1000000000:=by omega
   refine za (za ?_);refine zaa hX zaB rfl ?_ ?_
   ·repeat'(first|exact trivial|assumption|exact u2|exact g1|exact h4|exact h6|(refine⟨?_,?_⟩)|(intro _)|exact zb rfl|exact zd _|(simp_all [allP];done))
   rw[e];exact⟨⟨rfl,rfl,rfl,rfl,rfl,trivial⟩,⟨rfl,rfl,rfl,trivial⟩,rfl,rfl⟩
  ·have hc:=of_decide_eq_false (hq.symm.trans hc);have e:zfA c m2 ids=(0,m2):=if_neg hc;apply zab;rw[e];exact⟨⟨rfl,rfl,rfl,rfl,rfl,trivial⟩,⟨rfl,rfl,rfl,trivial⟩,rfl,rfl⟩
 have hm3:0≤mkU (zfA c m2 ids).2∧mkU (zfA c m2 ids).2≤mkU m+3:=by
  unfold zfA;split
  ·rw[zaW];omega
  ·exact⟨u2,by show mkU m2≤_;omega⟩
 generalize zfA c m2 ids=q at *;obtain⟨(cy:Int),(m3:Mk)⟩:=q;obtain⟨w1,w2⟩:0≤mkU m3∧mkU m3≤mkU m+3:=hm3;have hR:R=zix c cy m3:=hR;show AWP _ _ _ _ _ (sLf m3 ids k (c,cy,0,0,0,0,[],[],())) _;have w3:mkU m3≤1000000:=by omega
 have w4:mkU m3≤900000:=by omega
 refine za (za ?_);refine zaa hX zaB rfl ?_ ?_
 ·trivial
 refine AWP.viaQ (σ':=sLf R.2 ids k R.1) ?_ ?_
 ·apply zac;rcases (show c=1∨c=2∨c=3∨c=4∨c=5∨c=6∨c=7 by omega) with rfl|rfl|rfl|rfl|rfl|rfl|rfl
  ·skip
   refine za (za ?_);refine zaa hX zaB rfl ?_ ?_
   ·trivial
   refine zae rfl (fun _=>?_) (fun hb=>absurd (show ((1:Int)==1)=false from hb) (by decide));have hp:=zbV m3 (n:=12) (by decide);have z1:inR .i64 (1+(zat m3 12).1):=zam (by omega) (by omega);have z2:0≤mkU (zat m3 12).2:=by rw[zaW];omega
   have z3:mkU (zat m3 12).2≤1000000:=by rw[zaW];omega
   refine za (za ?_);refine zaa hX zaB rfl ?_ ?_
   ·repeat'(first|exact trivial|assumption|exact w1|exact w3|exact z1|(refine⟨?_,?_⟩)|(intro _)|exact zb rfl|exact zd _|(simp_all [allP];done))
   refine za (za ?_);refine zaa hX zaB rfl ?_ ?_
   ·repeat'(first|exact trivial|assumption|exact z2|exact z3|(refine⟨?_,?_⟩)|(intro _)|exact zb rfl|exact zd _|(simp_all [allP];done))
   rw[hR];exact⟨⟨rfl,rfl,rfl,rfl,rfl,trivial⟩,⟨rfl,rfl,rfl,trivial⟩,rfl,rfl⟩
  ·have hp4:=zbV m3 (n:=4) (by decide);refine za (za ?_);refine zaa hX zaB rfl ?_ ?_
   ·trivial
   refine zae rfl (fun hb=>absurd (show ((2:Int)==1)=true from hb) (by decide)) (fun _=>?_);refine za (za ?_);refine zaa hX zaB rfl ?_ ?_
   ·trivial
   refine zae rfl (fun _=>?_) (fun hb=>absurd (show ((2:Int)==2)=false from hb) (by decide));have z1:inR .i64 (1+(zat m3 4).1):=zam (by omega) (by omega);have z2:0≤mkU (zat m3 4).2:=by rw[zaW];omega
   have z3:mkU (zat m3 4).2≤1000000:=by rw[zaW];omega
   have z4:0 < 1+(zat m3 4).1:=by omega
   have z5:1+(zat m3 4).1≤1000000000:=by omega
   refine za (za ?_);refine zaa hX zaB rfl ?_ ?_
   ·repeat'(first|exact trivial|assumption|exact w1|exact w3|exact z1|(refine⟨?_,?_⟩)|(intro _)|exact zb rfl|exact zd _|(simp_all [allP];done))
   refine za (za ?_);refine zaa hX zaB rfl ?_ ?_
   ·repeat'(first|exact trivial|assumption|exact z2|exact z3|exact z4|exact z5|(refine⟨?_,?_⟩)|(intro _)|exact zb rfl|exact zd _|(simp_all [allP];done))
   rw[hR];exact⟨⟨rfl,rfl,rfl,rfl,rfl,trivial⟩,⟨rfl,rfl,rfl,trivial⟩,rfl,rfl⟩
  ·skip
   refine za (za ?_);refine zaa hX zaB rfl ?_ ?_
   ·trivial
   refine zae rfl (fun hb=>absurd (show ((3:Int)==1)=true from hb) (by decide)) (fun _=>?_);refine za (za ?_);refine zaa hX zaB rfl ?_ ?_
   ·trivial
   refine zae rfl (fun hb=>absurd (show ((3:Int)==2)=true from hb) (by decide)) (fun _=>?_);refine za (za ?_);refine zaa hX zaB rfl ?_ ?_
   ·trivial
   refine zae rfl (fun _=>?_) (fun hb=>absurd (show ((3:Int)==3)=false from hb) (by decide));refine za (za ?_);refine zaa hX zaB rfl ?_ ?_
   ·repeat'(first|exact trivial|assumption|exact w1|exact w4|(refine⟨?_,?_⟩)|(intro _)|exact zb rfl|exact zd _|(simp_all [allP];done))
   rw[hR];exact⟨⟨rfl,rfl,rfl,rfl,rfl,trivial⟩,⟨rfl,rfl,rfl,trivial⟩,rfl,rfl⟩
  ·skip
   refine za (za ?_);refine zaa hX zaB rfl ?_ ?_
   ·trivial
   refine zae rfl (fun hb=>absurd (show ((4:Int)==1)=true from hb) (by decide)) (fun _=>?_);refine za (za ?_);refine zaa hX zaB rfl ?_ ?_
   ·trivial
   refine zae rfl (fun hb=>absurd (show ((4:Int)==2)=true from hb) (by decide)) (fun _=>?_);refine za (za ?_);refine zaa hX zaB rfl ?_ ?_
   ·trivial
   refine zae rfl (fun hb=>absurd (show ((4:Int)==3)=true from hb) (by decide)) (fun _=>?_);refine za (za ?_);refine zaa hX zaB rfl ?_ ?_
   ·trivial
   refine zae rfl (fun _=>?_) (fun hb=>absurd (show ((4:Int)==4)=false from hb) (by decide));refine za (za ?_);refine zaa hX zaB rfl ?_ ?_
   ·repeat'(first|exact trivial|assumption|exact w1|exact w4|(refine⟨?_,?_⟩)|(intro _)|exact zb rfl|exact zd _|(simp_all [allP];done))
   rw[hR];exact⟨⟨rfl,rfl,rfl,rfl,rfl,trivial⟩,⟨rfl,rfl,rfl,trivial⟩,rfl,rfl⟩
  ·skip
   refine za (za ?_);refine zaa hX zaB rfl ?_ ?_
   ·trivial
   refine zae rfl (fun hb=>absurd (show ((5:Int)==1)=true from hb) (by decide)) (fun _=>?_);refine za (za ?_);refine zaa hX zaB rfl ?_ ?_
   ·trivial
   refine zae rfl (fun hb=>absurd (show ((5:Int)==2)=true from hb) (by decide)) (fun _=>?_);refine za (za ?_);refine zaa hX zaB rfl ?_ ?_
   ·trivial
   refine zae rfl (fun hb=>absurd (show ((5:Int)==3)=true from hb) (by decide)) (fun _=>?_);refine za (za ?_);refine zaa hX zaB rfl ?_ ?_
   ·trivial
   refine zae rfl (fun hb=>absurd (show ((5:Int)==4)=true from hb) (by decide)) (fun _=>?_);refine za (za ?_);refine zaa hX zaB rfl ?_ ?_
   ·trivial
   refine zae rfl (fun _=>?_) (fun hb=>absurd (show ((5:Int)==5)=false from hb) (by decide));refine za (za ?_);refine zaa hX zaB rfl ?_ ?_
   ·repeat'(first|exact trivial|assumption|exact w1|exact w4|(refine⟨?_,?_⟩)|(intro _)|exact zb rfl|exact zd _|(simp_all [allP];done))
   rw[hR];exact⟨⟨rfl,rfl,rfl,rfl,rfl,trivial⟩,⟨rfl,rfl,rfl,trivial⟩,rfl,rfl⟩
  ·skip
   refine za (za ?_);refine zaa hX zaB rfl ?_ ?_
   ·trivial
   refine zae rfl (fun hb=>absurd (show ((6:Int)==1)=true from hb) (by decide)) (fun _=>?_);refine za (za ?_);refine zaa hX zaB rfl ?_ ?_
   ·trivial
   refine zae rfl (fun hb=>absurd (show ((6:Int)==2)=true from hb) (by decide)) (fun _=>?_);refine za (za ?_);refine zaa hX zaB rfl ?_ ?_
   ·trivial
   refine zae rfl (fun hb=>absurd (show ((6:Int)==3)=true from hb) (by decide)) (fun _=>?_);refine za (za ?_);refine zaa hX zaB rfl ?_ ?_
   ·trivial
   refine zae rfl (fun hb=>absurd (show ((6:Int)==4)=true from hb) (by decide)) (fun _=>?_);refine za (za ?_);refine zaa hX zaB rfl ?_ ?_
   ·trivial
   refine zae rfl (fun hb=>absurd (show ((6:Int)==5)=true from hb) (by decide)) (fun _=>?_);refine za (za ?_);refine zaa hX zaB rfl ?_ ?_
   ·trivial
   refine zae rfl (fun _=>?_) (fun hb=>absurd (show ((6:Int)==6)=false from hb) (by decide));refine za (za ?_);refine zaa hX zaB rfl ?_ ?_
   ·repeat'(first|exact trivial|assumption|exact w1|exact w4|(refine⟨?_,?_⟩)|(intro _)|exact zb rfl|exact zd _|(simp_all [allP];done))
   rw[hR];exact⟨⟨rfl,rfl,rfl,rfl,rfl,trivial⟩,⟨rfl,rfl,rfl,trivial⟩,rfl,rfl⟩
  ·skip
   refine za (za ?_);refine zaa hX zaB rfl ?_ ?_
   ·trivial
   refine zae rfl (fun hb=>absurd (show ((7:Int)==1)=true from hb) (by decide)) (fun _=>?_);refine za (za ?_);refine zaa hX zaB rfl ?_ ?_
   ·trivial
   refine zae rfl (fun hb=>absurd (show ((7:Int)==2)=true from hb) (by decide)) (fun _=>?_);refine za (za ?_);refine zaa hX zaB rfl ?_ ?_
   ·trivial
   refine zae rfl (fun hb=>absurd (show ((7:Int)==3)=true from hb) (by decide)) (fun _=>?_);refine za (za ?_);refine zaa hX zaB rfl ?_ ?_
   ·trivial
   refine zae rfl (fun hb=>absurd (show ((7:Int)==4)=true from hb) (by decide)) (fun _=>?_);refine za (za ?_);refine zaa hX zaB rfl ?_ ?_
   ·trivial
   refine zae rfl (fun hb=>absurd (show ((7:Int)==5)=true from hb) (by decide)) (fun _=>?_);refine za (za ?_);refine zaa hX zaB rfl ?_ ?_
   ·trivial
   refine zae rfl (fun hb=>absurd (show ((7:Int)==6)=true from hb) (by decide)) (fun _=>?_);have hp:=zbV m3 (n:=3) (by decide);have z1:inR .i64 (1+(zat m3 3).1):=zam (by omega) (by omega);have z2:0≤mkU (zat m3 3).2:=by rw[zaW];omega
   have z3:mkU (zat m3 3).2≤1000000:=by rw[zaW];omega
   refine za (za ?_);refine zaa hX zaB rfl ?_ ?_
   ·repeat'(first|exact trivial|assumption|exact w1|exact w3|exact z1|(refine⟨?_,?_⟩)|(intro _)|exact zb rfl|exact zd _|(simp_all [allP];done))
   have z4:0≤mkU (zat (zat m3 3).2 2).2:=by rw[zaW,zaW];omega
   have z5:mkU (zat (zat m3 3).2 2).2≤1000000:=by rw[zaW,zaW];omega
   have z6:0≤mkU (zat (zat (zat m3 3).2 2).2 7).2:=by rw[zaW,zaW,zaW];omega
   have z7:mkU (zat (zat (zat m3 3).2 2).2 7).2≤1000000:=by rw[zaW,zaW,zaW];omega
   have z8:inR .i64 (-(1+(zat m3 3).1)):=zam (by omega) (by omega);have hR:R=((7,cy,(zat (zat (zat (zat m3 3).2 2).2 7).2 2).1,0,(if (zat (zat m3 3).2 2).1=1 then -(1+(zat m3 3).1) else 1+(zat m3 3).1),(zat (zat (zat m3 3).2 2).2 7).1,[],[],()),(zat (zat (zat (zat m3 3).2 2).2 7).2 2).2):=hR;refine za (za ?_);refine zaa hX zaB rfl ?_ ?_
   ·repeat'(first|exact trivial|assumption|exact z2|exact z3|(refine⟨?_,?_⟩)|(intro _)|exact zb rfl|exact zd _|(simp_all [allP];done))
   refine zae rfl (fun hb=>?_) (fun hb=>?_)
   ·have hb:((zat (zat m3 3).2 2).1==1)=true:=hb;rw[if_pos (eq_of_beq hb)]at hR;refine za (za ?_);refine zaa hX zaB rfl ?_ ?_
    ·exact z8
    refine za (za ?_);refine zaa hX zaB rfl ?_ ?_
    ·repeat'(first|exact trivial|assumption|exact z4|exact z5|(refine⟨?_,?_⟩)|(intro _)|exact zb rfl|exact zd _|(simp_all [allP];done))
    refine za (za ?_);refine zaa hX zaB rfl ?_ ?_
    ·repeat'(first|exact trivial|assumption|exact z6|exact z7|(refine⟨?_,?_⟩)|(intro _)|exact zb rfl|exact zd _|(simp_all [allP];done))
    rw[hR];exact⟨⟨rfl,rfl,rfl,rfl,rfl,trivial⟩,⟨rfl,rfl,rfl,trivial⟩,rfl,rfl⟩
   ·have hb:((zat (zat m3 3).2 2).1==1)=false:=hb;rw[if_neg (by simpa using hb)]at hR;apply zab;refine za (za ?_);refine zaa hX zaB rfl ?_ ?_
    ·repeat'(first|exact trivial|assumption|exact z4|exact z5|(refine⟨?_,?_⟩)|(intro _)|exact zb rfl|exact zd _|(simp_all [allP];done))
    refine za (za ?_);refine zaa hX zaB rfl ?_ ?_
    ·repeat'(first|exact trivial|assumption|exact z6|exact z7|(refine⟨?_,?_⟩)|(intro _)|exact zb rfl|exact zd _|(simp_all [allP];done))
    rw[hR];exact⟨⟨rfl,rfl,rfl,rfl,rfl,trivial⟩,⟨rfl,rfl,rfl,trivial⟩,rfl,rfl⟩
 show AWP _ _ _ _ _ (sLf R.2 ids k R.1) _;refine za (za ?_);refine zaa hX zaB rfl ?_ ?_
 ·trivial
 refine zl ⟨.inr rfl,?_,zas rfl trivial rfl rfl ?_⟩
 ·show some (OObj.box mkr R.2)=some (OObj.box mkr (zdF m ids).2);rw[<-hRR]
 ·show R.1=(zdF m ids).1;rw[<-hRR]
def TrSh:Tr->Prop
 | .leaf n=>¬ (8≤ndK n∧ndK n≤17)∧(0≤ndL n∧ndL n≤1)∧ndR n=0
 | .un n a=>(11≤ndK n∧ndK n≤16)∧ndR n=0∧TrSh a
 | .bin n a b=>((8≤ndK n∧ndK n≤10)∨ndK n=17)∧TrSh a∧TrSh b
theorem zdZ:∀ t:Tr,1≤t.size
 | .leaf _=>zk _
 | .un _ a=>by have:=zdZ a;rw[vK];omega
 | .bin _ a b=>by have:=zdZ a;rw[vK];omega
theorem zie {k:Int}:two k=true↔(8≤k∧k≤10)∨k=17:=by
 unfold two;rw[zY,zY,zY,beq_iff_eq,beq_iff_eq,beq_iff_eq,beq_iff_eq];omega
theorem zk4 {n:Nd} {b:Int} (h:¬ (8≤ndK n∧ndK n≤17)):zcI b n=n:=by
 obtain⟨k,c,L,R,rest⟩:=n;have h:¬ (8≤k∧k≤17):=h;have h2:¬ two k=true:=by rw[zie];omega
 unfold zcI;rw[if_neg h,if_neg h2]
theorem zoK {n:Nd} {b x:Int} (h:11≤ndK n∧ndK n≤16):zcI b (setL n x)=setL n (x+b):=by
 obtain⟨k,c,L,R,rest⟩:=n;have h:11≤k∧k≤16:=h;have h1:8≤k∧k≤17:=by omega
 have h2:¬ two k=true:=by rw[zie];omega
 show (k,c,(if 8≤k∧k≤17 then x+b else x),(if two k then R+b else R),rest)=(k,c,x+b,R,rest);rw[if_pos h1,if_neg h2]
theorem zne {n:Nd} {b x y:Int} (h:(8≤ndK n∧ndK n≤10)∨ndK n=17):zcI b (zeh n x y)=zeh n (x+b) (y+b):=by
 obtain⟨k,c,L,R,rest⟩:=n;have h:(8≤k∧k≤10)∨k=17:=h;have h1:8≤k∧k≤17:=by omega
 have h2:two k=true:=zie.2 h;show (k,c,(if 8≤k∧k≤17 then x+b else x),(if two k then y+b else y),rest)=(k,c,x+b,y+b,rest);rw[if_pos h1,if_pos h2]
theorem zeH:∀ (t:Tr) (i j:Nat),TrSh t->zd8 (t.flat i) (j:Int)=t.flat (i+j)
 | .leaf n,i,j,h=>by
  rw[ve,ve];show [zcI _ n]=_;rw[zk4 h.1]
 | .un n a,i,j,h=>by
  rw[ve,ve];unfold zd8;rw[xQ];have:=zeH a i j h.2.2;unfold zd8 at this;rw[this];show _++ [zcI _ _]=_;rw[zoK h.1]
  congr 3
  have:=zdZ a;omega
 | .bin n a b,i,j,h=>by
  rw[ve,ve];unfold zd8;rw[xQ,xQ];have ha:=zeH a i j h.2.1;have hb:=zeH b (i+a.size) j h.2.2;unfold zd8 at ha hb;rw[ha,hb,show i+a.size+j=i+j+a.size by omega];show _++ [zcI _ _]=_;rw[zne h.1];have:=zdZ a;have:=zdZ b;rw[show ((i+a.size:Nat):Int) - 1+(j:Int)=((i+j+a.size:Nat):Int) - 1 by omega,show ((i+a.size+b.size:Nat):Int) - 1+(j:Int)=((i+j+a.size+b.size:Nat):Int) - 1 by omega]
theorem zoz (a:Tr) (n:Nd):zqL (a.flat 0) n=(Tr.un n a).flat 0:=by
 rw[ve];unfold zqL;rw[jE,Nat.zero_add]
theorem zpX (a b:Tr) (n:Nd) (h:TrSh b):zrO (a.flat 0) (b.flat 0) n=(Tr.bin n a b).flat 0:=by
 rw[ve];unfold zrO;rw[jE,jE,zeH b 0 a.size h,Nat.zero_add]
 congr 3
theorem zje:∀ (t:Tr) (i:Nat),TrSh t->∀ n∈t.flat i,(0≤ndL n∧ndL n≤i+t.size)∧(0≤ndR n∧ndR n≤i+t.size)
 | .leaf n,i,h,x,hx=>by
  obtain rfl:=zy.1 hx;obtain⟨_,⟨h1,h2⟩,h3⟩:=h;rw[vK];exact⟨⟨h1,by omega⟩,⟨by omega,by omega⟩⟩
 | .un n a,i,h,x,hx=>by
  rw[ve]at hx;rw[vK];have hs:=zdZ a;rcases yT.1 hx with hx|hx
  ·have:=zje a i h.2.2 x hx;omega
  ·obtain rfl:=zy.1 hx;have hr:ndR n=0:=h.2.1;show (0≤((i+a.size:Nat):Int) - 1∧((i+a.size:Nat):Int) - 1≤_)∧(0≤ndR n∧ndR n≤_);omega
 | .bin n a b,i,h,x,hx=>by
  rw[ve]at hx;rw[vK];have hs:=zdZ a;have ht:=zdZ b;rcases yT.1 hx with hx|hx
  ·rcases yT.1 hx with hx|hx
   ·have:=zje a i h.2.1 x hx;omega
   ·have:=zje b (i+a.size) h.2.2 x hx;omega
  ·obtain rfl:=zy.1 hx;show (0≤((i+a.size:Nat):Int) - 1∧((i+a.size:Nat):Int) - 1≤_)∧(0≤((i+a.size+b.size:Nat):Int) - 1∧((i+a.size+b.size:Nat):Int) - 1≤_);omega
def zaU (m:Mk):Mk:=(mkD m,mkU m,mkN m,mkS m+1,())
def zhi (d:Nat) (p:Int×Mk):Bool:=decide (d=0)||decide (mkU p.2 > (((mkD p.2).length:Nat):Int))||decide (mkS p.2 > 30)||decide (10≤p.1)
def mOne (k ids:Int) (m:Mk):Nd×Mk:=
 if k=11 then ((k,0,0,0,(zat m 15).1 - 7,0,[],[],()),(zat m 15).2)
 else if k=12∨k=13 then ((k,0,0,0,(zat m 60).1,0,[],[],()),(zat m 60).2)
 else if k=14∨k=15 then ((k,0,0,0,0,0,(zcd m 0 60).1,[],()),(zcd m 0 60).2)
 else let p:=zat m ids;let q:=zat p.2 2;let r:=zcd q.2 (-3) 3;((k,p.1,0,0,0,q.1,r.1,[],()),r.2)
def mCnt (k:Int) (m:Mk):Int×Mk:=if k=17 then (1+(zat m 3).1,(zat m 3).2) else (0,m)
def mTr (ids:Int):Nat->Mk->Tr×Mk
 |0,m=>(.leaf (zdF (zat (zaU m) 14).2 ids).1,(zdF (zat (zaU m) 14).2 ids).2)
 |d+1,m=>
  let p:=zat (zaU m) 14
  if zhi (d+1) p=true then (.leaf (zdF p.2 ids).1,(zdF p.2 ids).2)
  else
   let a:=mTr ids d p.2
   if two (8+p.1)=true then
    let c:=mCnt (8+p.1) a.2
    let b:=mTr ids d c.2
    (.bin (8+p.1,0,0,0,c.1,0,[],[],()) a.1 b.1,b.2)
   else (.un (mOne (8+p.1) ids a.2).1 a.1,(mOne (8+p.1) ids a.2).2)
def MkLe (c:Nat) (m r:Mk):Prop:=mkN r=mkN m∧mkS r=mkS m∧mkD r=mkD m∧mkU m≤mkU r∧mkU r≤mkU m+(c:Int)
theorem MkLe.trans {a b:Nat} {m r s:Mk} (h1:MkLe a m r) (h2:MkLe b r s):MkLe (a+b) m s:=by
 obtain⟨x1,x2,x3,x4,x5⟩:=h1;obtain⟨y1,y2,y3,y4,y5⟩:=h2;exact⟨y1.trans x1,y2.trans x2,y3.trans x3,by omega,by omega⟩
theorem MkLe.mono {a b:Nat} {m r:Mk} (h:MkLe a m r) (hab:a≤b):MkLe b m r:=by
 obtain⟨x1,x2,x3,x4,x5⟩:=h;exact⟨x1,x2,x3,x4,by omega⟩
theorem MkLe.refl (m:Mk):MkLe 0 m m:=⟨rfl,rfl,rfl,xL _,by omega⟩
theorem zbn (m:Mk) (n:Int):MkLe 1 m (zat m n).2:=⟨rfl,rfl,rfl,by rw[zaW];omega,by rw[zaW];omega⟩
theorem zrU (lo hi:Int):∀ (k:Nat) (m:Mk) (v:Int) (acc:List Int),MkLe k m (mRis lo hi k m v acc).2
 |0,m,_,_=>MkLe.refl m
 |k+1,m,v,acc=>by
  rw[mRis];split
  ·exact ((zbn m 3).trans (zrU lo hi k _ _ _)).mono (by omega)
  ·exact (MkLe.refl m).mono (by omega)
theorem zdL (m:Mk) (lo hi:Int):MkLe 6 m (zcd m lo hi).2:=by
 have h:=zbV m (n:=4) (by decide);have h3:=zrU lo hi (1+(zat m 4).1).toNat (zat (zat m 4).2 (hi - lo+1)).2 (lo+(zat (zat m 4).2 (hi - lo+1)).1) [];exact (((zbn m 4).trans (zbn _ _)).trans h3).mono (by omega)
theorem zsJ (k c:Int) (m:Mk):MkLe 6 m (zix k c m).2:=by
 unfold zix;split
 ·exact ((zbn m 12).trans (zbn _ 20)).mono (by omega)
 split
 ·exact ((zbn m 4).trans (zbn _ (1+(zat m 4).1))).mono (by omega)
 split
 ·exact zdL _ _ _
 split
 ·exact zdL _ _ _
 split
 ·exact zdL _ _ _
 split
 ·exact zdL _ _ _
 ·exact ((((zbn m 3).trans (zbn _ 2)).trans (zbn _ 7)).trans (zbn _ 2)).mono (by omega)
theorem to1_le (k:Int) (m:Mk):MkLe 1 m (zdP k m).2:=by
 unfold zdP;split
 ·exact (MkLe.refl m).mono (by omega)
 split
 ·exact zbn m 2
 ·exact (MkLe.refl m).mono (by omega)
theorem cyc_le (k:Int) (m:Mk) (ids:Int):MkLe 1 m (zfA k m ids).2:=by
 unfold zfA;split
 ·exact zbn m ids
 ·exact (MkLe.refl m).mono (by omega)
theorem zo5 (m:Mk) (ids:Int):MkLe 9 m (zdF m ids).2:=by
 unfold zdF zj1;have h1:=(zbn m 8).trans (to1_le (1+(zat m 8).1) (zat m 8).2);dsimp only;split
 ·exact (h1.trans (zbn _ (mkN (zdP (1+(zat m 8).1) (zat m 8).2).2))).mono (by omega)
 ·exact ((h1.trans (cyc_le _ _ _)).trans (zsJ _ _ _)).mono (by omega)
theorem one_le (k ids:Int) (m:Mk):MkLe 8 m (mOne k ids m).2:=by
 unfold mOne;split
 ·exact (zbn m 15).mono (by omega)
 split
 ·exact (zbn m 60).mono (by omega)
 split
 ·exact (zdL m 0 60).mono (by omega)
 ·exact (((zbn m ids).trans (zbn _ 2)).trans (zdL _ _ _)).mono (by omega)
theorem zpG (k:Int) (m:Mk):MkLe 1 m (mCnt k m).2:=by
 unfold mCnt;split
 ·exact zbn m 3
 ·exact (MkLe.refl m).mono (by omega)
def MkGe (c e:Nat) (m r:Mk):Prop:=mkN r=mkN m∧mkD r=mkD m∧(mkS m≤mkS r∧mkS r≤mkS m+(e:Int))∧mkU m≤mkU r∧mkU r≤mkU m+(c:Int)
theorem MkGe.trans {a b e f:Nat} {m r s:Mk} (h1:MkGe a e m r) (h2:MkGe b f r s):MkGe (a+b) (e+f) m s:=by
 obtain⟨x1,x2,⟨x3,x6⟩,x4,x5⟩:=h1;obtain⟨y1,y2,⟨y3,y6⟩,y4,y5⟩:=h2;exact⟨y1.trans x1,y2.trans x2,⟨by omega,by omega⟩,by omega,by omega⟩
theorem MkLe.ge {a:Nat} {m r:Mk} (h:MkLe a m r):MkGe a 0 m r:=by
 obtain⟨x1,x2,x3,x4,x5⟩:=h;exact⟨x1,x3,⟨by omega,by omega⟩,x4,x5⟩
theorem MkGe.mono {a b e f:Nat} {m r:Mk} (h:MkGe a e m r) (hab:a≤b) (hef:e≤f):MkGe b f m r:=by
 obtain⟨x1,x2,⟨x3,x6⟩,x4,x5⟩:=h;exact⟨x1,x2,⟨by omega,by omega⟩,x4,by omega⟩
theorem zli (m:Mk):MkGe 0 1 m (zaU m):=⟨rfl,rfl,⟨by show mkS m≤mkS m+1;omega,by show mkS m+1≤_;omega⟩,xL _,by show mkU m≤_;omega⟩
def mMax:Nat->Nat
 |0=>1
 |d+1=>2 * mMax d+1
theorem zlZ (ids:Int):∀ (d:Nat) (m:Mk),MkGe (20 * mMax d) (mMax d) m (mTr ids d m).2
 |0,m=>(((zli m).trans (zbn _ 14).ge).trans (zo5 _ _).ge).mono (by decide) (by decide)
 |d+1,m=>by
  have h0:=(zli m).trans (zbn (zaU m) 14).ge;have hM:mMax (d+1)=2 * mMax d+1:=rfl;rw[mTr];dsimp only;split
  ·exact (h0.trans (zo5 _ _).ge).mono (by omega) (by omega)
  have ha:=zlZ ids d (zat (zaU m) 14).2;split
  ·exact (((h0.trans ha).trans (zpG _ _).ge).trans (zlZ ids d _)).mono (by omega) (by omega)
  ·exact ((h0.trans ha).trans (one_le _ _ _).ge).mono (by omega) (by omega)
theorem zgN (ids:Int):∀ (d:Nat) (m:Mk),(mTr ids d m).1.size≤mMax d
 |0,m=>zk _
 |d+1,m=>by
  have hM:mMax (d+1)=2 * mMax d+1:=rfl;rw[mTr];dsimp only;split
  ·rw[vK];omega
  have ha:=zgN ids d (zat (zaU m) 14).2;split
  ·rw[vK];have hb:=zgN ids d (mCnt (8+(zat (zaU m) 14).1) (mTr ids d (zat (zaU m) 14).2).2).2;omega
  ·rw[vK];omega
theorem lfK_in {k:Int} {m:Mk} (hn:0≤mkN m) (hk:1≤k∧k≤8) (hc:¬ (k=8∧mkN (zdP k m).2 > 0)):1≤lfK k (zdP k m).1∧lfK k (zdP k m).1≤7:=by
 unfold zdP at hc ⊢;by_cases h8:k=8
 ·rw[if_pos h8]at hc ⊢;have hz:mkN m=0:=by
   by_cases hz:mkN m=0
   ·exact hz
   ·exact absurd ⟨h8,by show mkN m > 0;omega⟩ hc
  rw[hz];show (1:Int)≤1∧(1:Int)≤7;omega
 ·rw[if_neg h8];have:∀ b:Bool,1≤lfK k b∧lfK k b≤7:=fun b=>by
   cases b with
   |true=>show (1:Int)≤1∧(1:Int)≤7;omega
   |false=>show 1≤k∧k≤7;omega
  exact this _
theorem zgi {n:Nd} (k L:Int) (h:ndK n=k) (hk:¬ (8≤k∧k≤17)) (hL:ndL n=L) (h0:0≤L∧L≤1) (hR:ndR n=0):TrSh (.leaf n):=⟨by rw[h];exact hk,by rw[hL];exact h0,hR⟩
theorem zsI {k c:Int} {m:Mk} (hk:1≤k∧k≤7):TrSh (.leaf (zix k c m).1):=by
 rcases (show k=1∨k=2∨k=3∨k=4∨k=5∨k=6∨k=7 by omega) with rfl|rfl|rfl|rfl|rfl|rfl|rfl
 ·exact zgi 1 0 rfl (by decide) rfl (by decide) rfl
 ·exact zgi 2 0 rfl (by decide) rfl (by decide) rfl
 ·exact zgi 3 0 rfl (by decide) rfl (by decide) rfl
 ·exact zgi 4 0 rfl (by decide) rfl (by decide) rfl
 ·exact zgi 5 0 rfl (by decide) rfl (by decide) rfl
 ·exact zgi 6 0 rfl (by decide) rfl (by decide) rfl
 ·have:=zbV (zat (zat (zat m 3).2 2).2 7).2 (n:=2) (by decide);exact zgi 7 (zat (zat (zat (zat m 3).2 2).2 7).2 2).1 rfl (by decide) rfl (by omega) rfl
theorem zo3 (m:Mk) (ids:Int) (hn:0≤mkN m):TrSh (.leaf (zdF m ids).1):=by
 have hk:=zbV m (n:=8) (by decide);unfold zdF zj1;dsimp only;split
 ·exact zgi 18 0 rfl (by decide) rfl (by decide) rfl
 ·rename_i hc;exact zsI (lfK_in (m:=(zat m 8).2) hn (by omega) hc)
theorem one_un {k ids:Int} {m:Mk}:ndK (mOne k ids m).1=k∧ndL (mOne k ids m).1=0∧ndR (mOne k ids m).1=0:=by
 unfold mOne;split
 ·exact⟨rfl,rfl,rfl⟩
 split
 ·exact⟨rfl,rfl,rfl⟩
 split
 ·exact⟨rfl,rfl,rfl⟩
 ·exact⟨rfl,rfl,rfl⟩
theorem zlY (ids:Int):∀ (d:Nat) (m:Mk),0≤mkN m->TrSh (mTr ids d m).1
 |0,m,h=>zo3 _ _ h
 |d+1,m,h=>by
  have hp:=zbV (zaU m) (n:=14) (by decide);rw[mTr];dsimp only;split
  ·exact zo3 _ _ h
  rename_i hst;have hs:(zat (zaU m) 14).1 < 10:=by
   have:¬ zhi (d+1) (zat (zaU m) 14)=true:=hst;unfold zhi at this;simp only[zY,decide_eq_true_iff,not_or]at this;omega
  have h0:0≤mkN (zat (zaU m) 14).2:=h;have ha:=zlY ids d (zat (zaU m) 14).2 h0;have hg:=(zlZ ids d (zat (zaU m) 14).2).1;split
  ·rename_i ht;have hc:=(zpG (8+(zat (zaU m) 14).1) (mTr ids d (zat (zaU m) 14).2).2).1;exact⟨zie.1 ht,ha,zlY ids d _ (by rw[hc,hg];exact h0)⟩
  ·rename_i ht;obtain⟨e1,_,e3⟩:=one_un (k:=8+(zat (zaU m) 14).1) (ids:=ids) (m:=(mTr ids d (zat (zaU m) 14).2).2);refine⟨?_,e3,ha⟩;rw[e1];rw[zie]at ht;omega
end
section
attribute [local go_sem] jU
set_option maxHeartbeats 1000000 in
theorem zh1 (s:ByteArray) (c:Int) (w:zj):
  Calls Tryz.prog 217 #[.string s,.int .u8 c] w fun e w'=>e= .returned (.int .i64 (xy s.data.toList c.toNat.toUInt8))∧w'=w:=by
 go_enter Tryz.func217,Tryz.ntmps217
 go_wp2
 rw[run_callFunc_extern Tryz.func244 (by kernel_rfl) (by kernel_rfl) (by kernel_rfl) (e:=uu) (by kernel_rfl),Lib.run_indexByteString];simp only[Result.andThen];rw[Oper.upon_value]
 go_wp2
 go_ret
 exact⟨rfl,rfl⟩
theorem zta (l:List UInt8) (c:UInt8):(xy l c= -1∧∀ x∈l,x≠c)∨∃ n:Nat,xy l c=(n:Int)∧n < l.length∧(∀ x∈l.take n,x≠c)∧l.drop n=c::l.drop (n+1):=by
 induction l with
 |nil=>exact .inl ⟨rfl,by simp⟩
 |cons b l ih=>
  unfold xy;by_cases h:b=c
  ·refine .inr ⟨0,by rw[if_pos (by simp[h])];rfl,by simp,by simp,by simp[h]⟩
  ·rw[if_neg (by simp[h])];rcases ih with ⟨h1,h2⟩|⟨n,h1,h2,h3,h4⟩
   ·refine .inl ⟨by rw[h1];rfl,fun x hx=>?_⟩;rcases yg.1 hx with rfl|hx
    ·exact h
    ·exact h2 x hx
   ·refine .inr ⟨n+1,?_,by simp;omega,fun x hx=>?_,by simpa using h4⟩
    ·rw[h1,if_neg (by simp)];omega
    ·rw[List.take_succ_cons]at hx;rcases yg.1 hx with rfl|hx
     ·exact h
     ·exact h3 x hx
def segF:List UInt8->List UInt8->List (List UInt8)
 |c,[]=>[c]
 |c,x::r=>if x=10 then c::segF [] r else segF (c++ [x]) r
def segs (s:List UInt8):List (List UInt8):=segF [] s
set_option maxHeartbeats 1000000 in
theorem zkS (s:ByteArray) (c:UInt8) (w:zj):
  Calls Tryz.prog 184 #[.string s,.string ⟨#[c]⟩] w fun e w'=>e= .returned (.int .i64 (xy s.data.toList c))∧w'=w:=by
 go_enter Tryz.func184,Tryz.ntmps184
 go_wp2_with (go_at_call 217;refine (zh1 s _ _).mono ?_;rintro e w' ⟨rfl,rfl⟩)
 ·rename_i hs
  go_ret
  rw[ByteArray.toList_eq]at hs;have hs:=eq_of_beq hs;refine⟨?_,rfl⟩;rw[<-hs];show wb (.int .i64 0)=wb (.int .i64 (xy [c] c));unfold xy;rw[if_pos (by simp)]
 ·go_ret
  exact⟨rfl,rfl⟩
set_option maxHeartbeats 1000000 in
theorem ziO (s:ByteArray) (c:UInt8) (w:zj):
  Calls Tryz.prog 147 #[.string s,.string ⟨#[c]⟩] w fun e w'=>e= .returned (.int .i64 (xy s.data.toList c))∧w'=w:=by
 go_enter Tryz.func147,Tryz.ntmps147
 go_wp2_with (go_at_call 184;refine (zkS s c _).mono ?_;rintro e w' ⟨rfl,rfl⟩)
 go_ret
 exact⟨rfl,rfl⟩
def itV (w:zj):zi:=.func (.func 145) #[] #[.pointer (some ⟨w.heap.size+1,0,none⟩),.pointer (some ⟨w.heap.size,0,none⟩),.pointer (some ⟨w.heap.size+1+1,0,none⟩)]
def itW (w:zj) (s p:ByteArray):zj:=((w.alloc (.cells #[.string s] 9)).alloc (.cells #[.string p] 9)).alloc (.cells #[.int .i64 0] 3)
set_option maxHeartbeats 1000000 in
theorem zhX (s p:ByteArray) (w:zj):Calls Tryz.prog 85 #[.string s,.string p,.int .i64 0] w fun e w'=>e= .returned (itV w)∧w'=itW w s p:=by
 go_enter Tryz.func85,Tryz.ntmps85
 go_wp2
 go_ret
 refine⟨?_,rfl⟩;unfold itV;simp
set_option maxHeartbeats 1000000 in
theorem ziP (s p:ByteArray) (w:zj):Calls Tryz.prog 50 #[.string s,.string p] w fun e w'=>e= .returned (itV w)∧w'=itW w s p:=by
 go_enter Tryz.func50,Tryz.ntmps50
 go_wp2_with (go_at_call 85;refine (zhX s p _).mono ?_;rintro e w' ⟨rfl,rfl⟩)
 go_ret
 exact⟨rfl,rfl⟩
theorem zjJ (p:List UInt8) (hp:∀ x∈p,x≠10) (r:List UInt8):∀ (c:List UInt8),segF c (p++r)=segF (c++p) r:=by
 induction p with
 |nil=>intro c;rw[zS];rfl
 |cons x p ih=>
  intro c;rw[xU];show (if x=10 then _ else _)=_;rw[if_neg (hp x (List.mem_cons_self ..)),ih (fun y hy=>hp y (List.mem_cons_of_mem _ hy)),zu];rfl
theorem zn2 {l:List UInt8} (h:∀ x∈l,x≠10):segs l=[l]:=by
 have:=zjJ l h [] [];rw[zS,yV]at this;exact this
theorem zn1 {l:List UInt8} {n:Nat} (h:∀ x∈l.take n,x≠10) (hd:l.drop n=10::l.drop (n+1)):segs l=l.take n::segs (l.drop (n+1)):=by
 have:=zjJ (l.take n) h (l.drop n) [];rw[List.take_append_drop,yV,hd]at this;exact this.trans (if_pos rfl)
theorem ztW (l:List UInt8) (n:Nat):(vL l.toArray).extract 0 n=⟨(l.take n).toArray⟩:=by
 apply wl;rw[j0];simp
theorem ztX (l:List UInt8) (n:Nat):(vL l.toArray).extract n l.length=⟨(l.drop n).toArray⟩:=by
 apply wl;rw[j0];simp;exact List.take_of_length_le (by rw[y9];exact zk _)
def itI (gs gp gv:Nat) (g:Nat):Prop:=g=gs∨g=gp∨g=gv
noncomputable def zrY (gs:Nat) (W:zj):Nat:=match W.cell? ⟨gs,0,none⟩ with |some (.string s)=>s.size|_=>0
set_option maxHeartbeats 2000000 in
theorem zmM (l gs gp gv:Nat) (s:List UInt8) (J:Nat->zj->Prop) (Jr:zj->Prop) (W:zj) (hne:gs≠gp∧gs≠gv) (hlen:s.length≤2000000)
  (hs:W.heap[gs]? =some (.cells #[.string ⟨s.toArray⟩] 9 (0,0))) (hp:W.heap[gp]? =some (.cells #[.string ⟨#[10]⟩] 9 (0,0))) (hv:W.heap[gv]? =some (.cells #[.int .i64 0] 3 (0,0)))
  (hJ:∀ k A C,J k A->Kept (itI gs gp gv) A C->J k C)
  (hY:∀ k y W1,J k W1->(segs s)[k]? =some y->W.heap.size≤W1.heap.size->YieldAt yD 0 Tryz.prog l #[.string ⟨y.toArray⟩] W1 fun e W'=>(e= .returned (.bool true)∧J (k+1) W'∧SameOn (itI gs gp gv) W.heap.size W1 W')∨(e= .returned (.bool false)∧Jr W'))
  (h0:J 0 W):
  CallsIn yD 1 Tryz.prog 145 #[.func (.yield l) #[] #[],.pointer (some ⟨gp,0,none⟩),.pointer (some ⟨gs,0,none⟩),.pointer (some ⟨gv,0,none⟩)] W fun e W'=>(∃ v,e= .returned v)∧(J (segs s).length W'∨Jr W'):=by
 refine callsIn_of_wp Tryz.func145 rfl trivial ?_ rfl;have c1:=(zaY hp).1;have c2:=zaY hs;simp only[Tryz.ntmps145,qp,zs,ya,Nat.reduceAdd,Nat.reduceSub,vw,vy,kj,vB,yV,xU]
 gi_wp2
 gi_loopw [7] (fun p wr=>∃ (pre:List (List UInt8)) (rest:List UInt8),segs s=pre++segs rest∧rest.length≤s.length∧wr.heap[gs]? =some (.cells #[.string ⟨rest.toArray⟩] 9 (0,0))∧wr.heap[gp]? =some (.cells #[.string ⟨#[10]⟩] 9 (0,0))∧wr.heap[gv]? =some (.cells #[.int .i64 0] 3 (0,0))∧J pre.length wr∧W.heap.size≤wr.heap.size)
  (fun p wr=>zrY gs wr)
 case atStart=>exact⟨[],s,rfl,zk _,hs,hp,hv,h0,zk _⟩
 case round=>
  obtain⟨pre,rest,hsg,hrl,hs',hp',hv',hj,hsz⟩:=hrel;have d1:=(zaY hp').1;have d2:=zaY hs';have d3:=(zaY hv').1
  gi_wp2
  refine⟨trivial,(callsIn_wide.2 (ziO _ _ _)).mono ?_⟩;rintro e w' ⟨rfl,rfl⟩;have hix:xy (vL rest.toArray).data.toList 10=xy rest 10:=rfl;rw[hix];rcases zta rest 10 with ⟨h1,h2⟩|⟨n,h1,h2,h3,h4⟩
  ·rw[h1];have hseg:=zn2 h2;rw[hseg]at hsg;obtain⟨fn,tmps,assign,body,hy,hR⟩:=hY pre.length rest _ hj (by rw[hsg];simp) hsz
   gi_wp2
   refine hR.mono ?_;rintro e W3 (⟨rfl,hJ3,hk3⟩|⟨rfl,hp3⟩)
   ·gi_wp2
    go_end0
    refine⟨⟨_,rfl⟩,.inl ?_⟩;rw[hsg,zh];exact hJ3
   ·gi_wp2
    go_end0
    exact⟨⟨_,rfl⟩,.inr hp3⟩
  ·rw[h1];have hseg:=zn1 h3 h4;rw[hseg]at hsg;have hn0:¬ (n:Int) < 0:=by omega
   have hex:(vL rest.toArray).extract 0 n=⟨(rest.take n).toArray⟩:=ztW rest n;have hex2:(vL rest.toArray).extract (n+1) rest.length=⟨(rest.drop (n+1)).toArray⟩:=ztX rest (n+1);have hnl:n < rest.length:=h2;obtain⟨fn,tmps,assign,body,hy,hR⟩:=hY pre.length (rest.take n) _ hj (by rw[hsg];simp) hsz
   gi_wp2
   refine hR.mono ?_;rintro e W3 (⟨rfl,hJ3,hk3⟩|⟨rfl,hp3⟩)
   ·have e1:=(hk3.block gs (.inl rfl)).trans hs';have e2:=(hk3.block gp (.inr (.inl rfl))).trans hp';have e3:=(hk3.block gv (.inr (.inr rfl))).trans hv';have f1:=(zaY e2).1;have f2:=zaY e1
    gi_wp2
    have g1:=ze3 (.string ⟨(rest.drop (n+1)).toArray⟩) e1;refine⟨⟨pre++ [rest.take n],rest.drop (n+1),by rw[hsg,zu];rfl,by rw[y9];omega,g1,(xF W3 ⟨gs,0,none⟩ _ gp fun e=>hne.1 e.symm).trans e2,(xF W3 ⟨gs,0,none⟩ _ gv fun e=>hne.2 e.symm).trans e3,?_,?_⟩,?_⟩
    ·rw[zh,xi];exact hJ _ _ _ hJ3 (zdA W3 gs _ (.inl rfl))
    ·exact zU hk3.size (zdA (R:=itI gs gp gv) W3 gs _ (.inl rfl)).size
    ·unfold zrY;rw[(zaY g1).1,d2.1];show (rest.drop (n+1)).toArray.size < rest.toArray.size;simp;omega
   ·gi_wp2
    exact⟨rfl,_,results_none rfl _ _ _,⟨_,rfl⟩,.inr hp3⟩
theorem zgA {P:Program} {f:zT} {Q:Exit->Act->zj->Prop} {a:Act} {w:zj} {g:zI} {ps:Array Tmp} {assign body:Code} {m:Nat}
  (h:∃ (l:Nat) (mark:List jd) (w1:zj) (d:jd) (w1':zj) (gf:zT) (args:Array zi) (w2:zj),
    (Instr.enterLoop f a.tmps ps assign body none).run P w= .ok (l,mark) w1∧(resolve a.eval (rangeCall g l) 0).run P w1= .ok d w1'∧(invoke d.target d.args).run P w1'= .ok (.enter gf args) w2∧
    CallsIn yD m P gf args w2 (fun e w3=>(∃ v,e= .returned v)∧∃ jump w4,(Instr.endLoop l).run P w3= .ok jump w4∧(match jump with
     |none=>Q .normal { a with defers:=mark++a.defers } w4
     |some c=>zfS P f c Q { a with defers:=mark++a.defers } w4))):
  zfS P f (.rangeFunc g ps assign body) Q a w:=by
 intro b k cs hb hro;obtain⟨l,mark,w1,d,w1',gf,args,w2,he,hres,hinv,_,hcall⟩:=h;rw[<-hro, <-hb]at he;have henter:=stepR_rangeFunc (P:=P) (b:=b) (a:=a) (k:=k) (cs:=cs) (w:=w) he hres hinv;obtain⟨e,w3,fr,⟨⟨v,rfl⟩,jump,w4,hend,hj⟩,hsteps,hfn,hleave⟩:=hcall (b.atR { a with defers:=mark++a.defers } (.inRangeFunc l::k)::cs) (room_wide _);have sback:StepsIn (Machine.fenced P yD) P (lone (b.atR a (.code (.rangeFunc g ps assign body)::k)) cs w) (lone (b.atR { a with defers:=mark++a.defers } ((jump.map Item.code).toList++k)) cs w4):=by
  refine .head (fenced_wide P _) henter (k8 hsteps (.head (fenced_wide P _) ?_ (.one (fenced_wide P _) (stepR_endRangeFunc hend))));rw[<-finish_atR_inRangeFunc l v];exact step_leave_returned hleave
 cases jump with
 |none=>exact⟨.normal,_,w4,hj,sback⟩
 |some c=>
  obtain⟨e',a'',w5,hq,harr⟩:=hj b k cs hb hro;exact⟨e',a'',w5,hq,.of_steps sback harr⟩
def zsh (P:Program) (m:Nat) (gf:Nat) (lb:Array zi) (I:Nat->Prop) (ts:List (List UInt8)) (w:zj):Prop:=
 ∀ (l:Nat) (J:Nat->zj->Prop) (Jr:zj->Prop) (W:zj),yW w.heap.size w W->(∀ k A C,J k A->Kept I A C->J k C)->
  (∀ k y W1,J k W1->ts[k]? =some y->W.heap.size≤W1.heap.size->YieldAt yD (m - 1) P l #[.string ⟨List.toArray y⟩] W1 fun e W'=>(e= .returned (.bool true)∧J (k+1) W'∧SameOn I W.heap.size W1 W')∨(e= .returned (.bool false)∧Jr W'))->
  J 0 W->
  CallsIn yD m P gf (#[.func (.yield l) #[] #[]]++lb) W fun e W'=>(∃ v,e= .returned v)∧(J ts.length W'∨Jr W')
theorem zhR {P:Program} {f:zT} {m:Nat} {g:zI} {p:Tmp} {assign body:Code} {Q:Exit->Act->zj->Prop} {a:Act} {w:zj} {gf:Nat} {lb:Array zi} (hg:a.eval g= .func (.func gf) #[] lb) (eg:∀ args w,(callFunc gf args).run P w= .ok (.enter gf args) w)
  {I:Nat->Prop} {ts:List (List UInt8)} {w0:zj} (hseq:zsh P m gf lb I ts w0) (hb0:yW w0.heap.size w0 w) (hI:∀ k,I k->k < w.heap.size)
  (J:Nat->zj->Prop) (Jr:zj->Prop) (N:Nat->List UInt8->Act->zj->Prop) (hJ:∀ k A C,J k A->Kept (fun g=>I g∨g=w.heap.size∨g=w.heap.size+1) A C->J k C) (hJr:∀ A C,Jr A->Kept (fun g=>I g∨g=w.heap.size∨g=w.heap.size+1) A C->Jr C)
  (hN:∀ k y a' A C,N k y a' A->Kept (fun g=>I g∨g=w.heap.size∨g=w.heap.size+1) A C->N k y a' C) (h0:∀ W1:zj,yW w.heap.size w W1->W1.heap.size=w.heap.size+2->J 0 W1)
  (hassign:∀ (l k:Nat) (y:List UInt8) (W:zj),J k W->ts[k]? =some y->w.heap.size+2≤W.heap.size->assign.wpIn (yD.inRound l) (m - 1) P (fun e a' W'=>e= .normal∧N k y a' W'∧SameOn (fun g=>I g∨g=w.heap.size∨g=w.heap.size+1) (w.heap.size+2) W W') { tmps:=((#[p]:Array Tmp).zip #[(.string ⟨y.toArray⟩:zi)]).foldl (fun t (p,v)=>t.setIfInBounds p v) a.tmps,defers:=[] } W)
  (hbody:∀ (l k:Nat) (y:List UInt8) (W:zj) (a':Act),ts[k]? =some y->w.heap.size+2≤W.heap.size->N k y a' W->
    body.wpIn (yD.inRound l) (m - 1) P (fun e _ W3=>((e= .normal∧J (k+1) W3)∨(e= .ret∧Jr W3))∧SameOn (fun g=>I g∨g=w.heap.size∨g=w.heap.size+1) (w.heap.size+2) W W3) a' W)
  (hdone:∀ W:zj,J ts.length W->W.heap[w.heap.size]? =some (.deferred (some []))->Q .normal { a with defers:={ target:=.collected w.heap.size,args:=#[] }::a.defers } W)
  (hret:∀ (W:zj),Jr W->W.heap[w.heap.size]? =some (.deferred (some []))->Q .ret { a with defers:={ target:=.collected w.heap.size,args:=#[] }::a.defers } W):
  zfS P f (.rangeFunc g #[p] assign body) Q a w:=by
 obtain⟨rec,hrec⟩:∃ rec:LoopState->Option Code->Loop,rec=fun st pe=>{ state:=st,pending:=pe,fn:=f,tmps:=a.tmps,params:=#[p],assign,body,defers:=w.heap.size }:=⟨_,rfl⟩;obtain⟨W1,hW1⟩:∃ W1,(w.alloc (.deferred (some []))).alloc (.loop (rec .ready none))=W1:=⟨_,rfl⟩;have hs1:W1.heap.size=w.heap.size+2:=by rw[<-hW1];simp
 have hL1:W1.heap[w.heap.size+1]? =some (.loop (rec .ready none)):=by
  rw[<-hW1];have:=xE (w.alloc (.deferred (some []))) (.loop (rec .ready none));rwa[World.size_alloc]at this
 have hK1:W1.heap[w.heap.size]? =some (.deferred (some [])):=by
  rw[<-hW1];exact (Below.heap_alloc _ _ _ (by simp)).trans (xE w _)
 have hb1':yW w.heap.size w W1:=by rw[<-hW1];exact ((zP _ w).alloc (zk _) _).alloc (by simp) _
 have hJ1:J 0 W1:=h0 _ hb1' hs1;have hb1:yW w0.heap.size w0 W1:=hb0.trans (hb1'.mono hb0.size);refine zgA (m:=m) ⟨w.heap.size+1,[{ target:=.collected w.heap.size,args:=#[] }],W1,{ target:=.fn (.func gf) lb,args:=#[.func (.yield (w.heap.size+1)) #[] #[]] },W1,gf,
  #[.func (.yield (w.heap.size+1)) #[] #[]]++lb,W1,?_,?_,?_,?_⟩
 ·rw[<-hW1,hrec];exact run_enterLoop_outer _ _ _ _ _
 ·simp only[resolve,hg];simp[go_sem]
 ·simp[invoke,go_sem,eg]
 refine (hseq (w.heap.size+1) (fun k W=>J k W∧W.heap[w.heap.size+1]? =some (.loop (rec .ready none))∧W.heap[w.heap.size]? =some (.deferred (some []))) (fun W=>Jr W∧W.heap[w.heap.size+1]? =some (.loop (rec .done (some .ret)))∧W.heap[w.heap.size]? =some (.deferred (some []))) W1 hb1 ?_ ?_ ⟨hJ1,hL1,hK1⟩).mono ?_
 ·intro k A C hs hb;have hl:=(zp.1 hs.2.1).1;have hd:=(zp.1 hs.2.2).1;exact⟨hJ k _ _ hs.1 (hb.mono fun g h=>.inl h),(hb.block _ hl fun h=>by have:=hI _ h;omega).trans hs.2.1,(hb.block _ hd fun h=>by have:=hI _ h;omega).trans hs.2.2⟩
 ·rintro k y W ⟨hj,hl,hk⟩ hy1 hsz;have hlt:w.heap.size+1 < W.heap.size:=(zp.1 hl).1;have hy:=run_yield (P:=P) (args:=#[.string ⟨y.toArray⟩]) hl (by rw[hrec];rfl);rw[hrec]at hy;refine⟨f,_,assign,body,hy,roundIn_of_wpIn trivial ?_⟩;refine yR (hassign _ k y W hj hy1 (by omega)) ?_;rintro e a2 W2 ⟨rfl,hn2,hk2⟩;have hl2:W2.heap[w.heap.size+1]? =some (.loop (rec .ready none)):=(hk2.block _ (.inr (.inr rfl))).trans hl;have hd2:W2.heap[w.heap.size]? =some (.deferred (some [])):=(hk2.block _ (.inr (.inl rfl))).trans hk;have hlt2:w.heap.size+1 < W2.heap.size:=(zp.1 hl2).1;refine⟨_,run_beginRound hl2 (by rw[hrec]),?_⟩;have hl3:(W2.putObj (w.heap.size+1) (.loop { rec .ready none with state:=.busy })).heap[w.heap.size+1]? =some (.loop { rec .ready none with state:=.busy }):=qu hlt2;have hd3:(W2.putObj (w.heap.size+1) (.loop { rec .ready none with state:=.busy })).heap[w.heap.size]? =some (.deferred (some [])):=(xo (by omega)).trans hd2;have hn3:N k y a2 (W2.putObj (w.heap.size+1) (.loop { rec .ready none with state:=.busy })):=hN k y a2 _ _ hn2 (zcY _ (.inr (.inr rfl)));have hp3:=grownBy_putObj' W2 (w.heap.size+1) (.loop { rec .ready none with state:=.busy });refine yR (hbody _ k y _ a2 hy1 (zU (by omega) hp3.size) hn3) ?_;rintro e a3 W3 ⟨he,hk3⟩;have hl4:W3.heap[w.heap.size+1]? =some (.loop { rec .ready none with state:=.busy }):=(hk3.block _ (.inr (.inr rfl))).trans hl3;have hd4:W3.heap[w.heap.size]? =some (.deferred (some [])):=(hk3.block _ (.inr (.inl rfl))).trans hd3;rcases he with ⟨rfl,hj3⟩|⟨rfl,hr3⟩
  ·have hr:=run_endRound (P:=P) none hl4;refine⟨_,_,hr,.inl ⟨rfl,⟨hJ _ _ _ hj3 (zcY _ (.inr (.inr rfl))),?_,(xo (by omega)).trans hd4⟩,?_⟩⟩
   ·rw[qu (zp.1 hl4).1,hrec];rfl
   ·refine⟨?_,?_,?_,?_,fun j hj=>?_⟩
    ·exact (grownBy_putObj' W3 _ _).os.trans (hk3.os.trans (hp3.os.trans hk2.os))
    ·exact (grownBy_putObj' W3 _ _).tape.trans (hk3.tape.trans (hp3.tape.trans hk2.tape))
    ·exact (grownBy_putObj' W3 _ _).output.trans (hk3.output.trans (hp3.output.trans hk2.output))
    ·exact zU (by rw[hs1];exact hk3.size) (grownBy_putObj' W3 _ _).size
    ·have hjl:=hI j hj;exact (xo (by omega)).trans ((hk3.block j (.inl hj)).trans ((xo (by omega)).trans (hk2.block j (.inl hj))))
  ·have hr:=run_endRound (P:=P) (some .ret) hl4;refine⟨_,_,hr,.inr ⟨rfl,hJr _ _ hr3 (zcY _ (.inr (.inr rfl))),?_,(xo (by omega)).trans hd4⟩⟩;rw[qu (zp.1 hl4).1,hrec];rfl
 ·rintro e W2 ⟨hv,⟨hj,hl,hk⟩|⟨hj,hl,hk⟩⟩
  ·refine⟨hv,none,_,by have:=run_endLoop (P:=P) hl (by rw[hrec];simp);rw[hrec]at this;exact this,hdone _ (hJ _ _ _ hj (zcY _ (.inr (.inr rfl)))) ((xo (by omega)).trans hk)⟩
  ·refine⟨hv,some .ret,_,by have:=run_endLoop (P:=P) hl (by rw[hrec];simp);rw[hrec]at this;exact this,?_⟩;exact zcv (m:=0) (wpIn_ret (hret _ (hJr _ _ hj (zcY _ (.inr (.inr rfl)))) ((xo (by omega)).trans hk)))
theorem zkR (gs gp gv:Nat) (s:List UInt8) (w:zj) (hne:gs≠gp∧gs≠gv) (hlen:s.length≤2000000)
  (hs:w.heap[gs]? =some (.cells #[.string ⟨s.toArray⟩] 9 (0,0))) (hp:w.heap[gp]? =some (.cells #[.string ⟨#[10]⟩] 9 (0,0))) (hv:w.heap[gv]? =some (.cells #[.int .i64 0] 3 (0,0))):
  zsh Tryz.prog 1 145 #[.pointer (some ⟨gp,0,none⟩),.pointer (some ⟨gs,0,none⟩),.pointer (some ⟨gv,0,none⟩)] (itI gs gp gv) (segs s) w:=fun l J Jr W hW hJ hY h0=>
 zmM l gs gp gv s J Jr W hne hlen ((hW.block _ (zp.1 hs).1).trans hs) ((hW.block _ (zp.1 hp).1).trans hp) ((hW.block _ (zp.1 hv).1).trans hv) hJ hY h0
end
noncomputable def zkc (s p:List UInt8):Bool:=decide (p.length≤s.length)&&eqb .str (s.take p.length) p
noncomputable def cPre:Ctr:={ args:=[.str,.str],pre:=fun x=>[zg x.1≤2000000,zg x.2.1≤2000000],res:=.bool,own:=none,out:=fun x=>zkc x.1 x.2.1 }
theorem zni:yk Tryz.prog gmH 86 cPre:=by
 refine zal (K:=gmK) zaj Tryz.func86 rfl rfl Tryz.call86 rfl (by decide) (by intro h;cases h) ?_;rintro w0 X hX ⟨(s:List UInt8),(p:List UInt8),⟨⟩⟩ hp;obtain⟨hs,hpl⟩:s.length≤2000000∧p.length≤2000000:=hp;change AWP _ _ _ _ _ ⟨[(0,⟨.str,s⟩),(1,⟨.str,p⟩)],[],0⟩ _;refine za (za ?_);refine zaa hX zaj rfl ?_ ?_
 ·trivial
 refine za (za ?_);refine zaa hX zaj rfl ?_ ?_
 ·have hd:decide (((p.length:Nat):Int)≤((s.length:Nat):Int))=true->((p.length:Nat):Int)≤((s.length:Nat):Int):=of_decide_eq_true;exact⟨fun h=>h,fun h=>⟨h,h,zd _,hd h⟩,fun h=>⟨h,h⟩,fun h=>h⟩
 refine zl ⟨.inr rfl,zas rfl trivial rfl rfl ?_⟩;show (bif decide (((p.length:Nat):Int)≤((s.length:Nat):Int)) then eqb .str (List.take (((p.length:Nat):Int)).toNat s) p else false)=(decide (p.length≤s.length)&&eqb .str (s.take p.length) p);rw[zb3,dNat,zz]
noncomputable def kPx:Kn:={ gmK with C:=[(86,cPre)] }
theorem zpd:KnOk Tryz.prog gmH kPx:=zaj.with (.cons zni .nil)
theorem zpl:yk Tryz.prog gmH 51 cPre:=by
 refine zal (K:=kPx) zpd Tryz.func51 rfl rfl Tryz.call51 rfl (by decide) (by intro h;cases h) ?_;rintro w0 X hX ⟨(s:List UInt8),(p:List UInt8),⟨⟩⟩ hp;obtain⟨hs,hpl⟩:s.length≤2000000∧p.length≤2000000:=hp;change AWP _ _ _ _ _ ⟨[(0,⟨.str,s⟩),(1,⟨.str,p⟩)],[],0⟩ _;refine za (za ?_);refine zaa hX zpd rfl ?_ ?_
 ·trivial
 refine za (za ?_);refine zaa hX zpd rfl ?_ ?_
 ·exact⟨hs,hpl⟩
 exact zl ⟨.inr rfl,zas rfl trivial rfl rfl rfl⟩
abbrev De:=List UInt8×List Nd×Unit
abbrev zoh (j:Nat):OObj:=.hbox 29 [⟨.obuf de,j⟩]
abbrev tD:zq:=29
def libE (l:List UInt8) (fr:Int) (acc:List De):Owns:=[(0,some (.hbox tD [⟨.lit,.slice none 0 0⟩])),(1,some (.box i64 (0:Int))),(2,some (.box i64 (0:Int))),(3,some (zoh 6)),(4,some (.box i64 fr)),(5,some (.box .str l)),(6,some (.buf 37 de acc))]
def kLb:Kn:={ gmK with H:=[tD] }
theorem zpe:KnOk Tryz.prog gmH kLb:=⟨zgv,zgu,CsOk.nil,zhv,RsOk.nil⟩
def zgB (l:List UInt8) (k:Int):Except (Int×Int) De:=(gDef l (zbl l,0) k).map fun r=>(r.1,r.2.flat 0,())
theorem znn (l:List UInt8) (k:Int):zlj l (zbl l,0) [] k=toX id (zgB l k):=by
 unfold zlj zgB;cases gDef l (zbl l,0) k<;>rfl
def NLib (l:List UInt8) (fr:Int) (acc:List De) (r:Except (Int×Int) Unit) (σ:AS):Prop:=(∃ d,zgB l ((acc.length:Nat):Int)= .ok d∧r= .ok ()∧Fit σ ⟨[],libE l fr (acc++ [d]),7⟩)∨∃ er,zgB l ((acc.length:Nat):Int)= .error er∧r= .error er∧Fit σ ⟨[],libE l fr acc,7⟩
set_option maxHeartbeats 4000000 in
theorem zq5 {w1:zj} {X:Ownr} {l:List UInt8} {fr:Int} {acc:List De} (hl:l.length≤4000) (ha:acc.length≤1000000) (hX:X.Ok w1) (hG:X.G=gmH) (hK:X.K=6) (hρ:X.ρ=none) (hD:X.D=[]) (hinv:∀ ty,ginv w1 X.R ty):
  AWP Tryz.prog w1 X Tryz.f54.ntmps (Tryz.f54.body.getD .skip) ⟨[(0,⟨.hptr,((3:Nat),(0:Nat))⟩),(1,⟨.optr .str,⟨5,.str,.here⟩⟩)],libE l fr acc,7⟩ (fun e σ=>((e= .normal∨e= .ret)∧NLib l fr acc (.ok ()) σ)∨∃ er,e= .panic [{ v:=pvS er,recovered:=false }]∧NLib l fr acc (.error er) σ):=by
 obtain⟨G,O,K,fix,D,ρ,B⟩:=X;obtain rfl:G=gmH:=hG;obtain rfl:K=6:=hK;obtain rfl:ρ=none:=hρ;obtain rfl:D=[]:=hD;have hI:=fun ty=>zaJ (ty:=ty) hX rfl (hinv ty) (ty':=ty);have hl1:l.length≤100000:=by omega
 have hcap:acc.length+1≤1000000000:=by omega
 have hg0:GOk l (zbl l,0):=by
  have:=zgO (s:=l);unfold zh3 at this;rwa[zlN]at this
 have hok:pOk (l,zbl l,[],0,()):=⟨hg0,hl1⟩;have hfew:few (l,zbl l,[],0,()):=xL 0;have hx:=znn l ((acc.length:Nat):Int);unfold libE;refine jD dM 9 rfl (by kernel_rfl) ?_;cases hr:zgB l ((acc.length:Nat):Int) with
 |ok d=>
  rw[hr]at hx;have hx:zlj l (zbl l,0) [] ((acc.length:Nat):Int)= .ok d:=hx
  repeat'(first
   |exact jT
   |refine jr ⟨_,rfl,?_⟩ ?_
   |refine xp hX zpe rfl trivial ?_
   |refine StepA.fresh hX zen rfl rfl rfl rfl rfl rfl (by exact trivial) (by exact hl1) (by exact⟨rfl,rfl⟩) rfl rfl ?_
   |refine xp hX zpe rfl hcap ?_
   |refine StepA.conv (kW 7 6 73 nd rfl rfl rfl) (StepA.giveO hX zfM rfl rfl rfl rfl rfl rfl rfl rfl rfl rfl rfl rfl (by exact trivial) (by exact⟨hok,hfew⟩) (by exact hI 139) rfl rfl (by exact hx) ?_)
   |(refine jJ ?_;exact .inl ⟨.inl rfl,.inl ⟨d,hr,rfl,trivial,⟨rfl,rfl,rfl,rfl,rfl,rfl,rfl,trivial⟩,rfl,rfl⟩⟩))
 |error er=>
  rw[hr]at hx;have hx:zlj l (zbl l,0) [] ((acc.length:Nat):Int)= .error (pvS er):=hx
  repeat'(first
   |exact jT
   |refine jr ⟨_,rfl,?_⟩ ?_
   |refine xp hX zpe rfl trivial ?_
   |refine StepA.fresh hX zen rfl rfl rfl rfl rfl rfl (by exact trivial) (by exact hl1) (by exact⟨rfl,rfl⟩) rfl rfl ?_
   |refine StepA.conv (kW 7 6 73 nd rfl rfl rfl) (StepA.giveE hX zfM rfl rfl rfl rfl rfl rfl rfl rfl rfl rfl rfl rfl (by exact trivial) (by exact⟨hok,hfew⟩) (by exact hI 139) rfl rfl (by exact hx) ?_)
   |exact .inr ⟨er,rfl,.inr ⟨er,hr,rfl,trivial,⟨rfl,rfl,rfl,rfl,rfl,rfl,rfl,trivial⟩,rfl,rfl⟩⟩)
def zfc:List De->List UInt8->List UInt8×Int
 | [],acc=>if 1048576 < acc.length then ([],2) else (acc,0)
 |d::r,acc=>
  if 32 < d.1.length then ([],2)
  else if zax d.1=0∨zax d.1 < d.1.length then ([],1)
  else if (fmtS d.2.1).2≠0 then ([],(fmtS d.2.1).2)
  else if 4000 < (d.1++ [32,61,32]++(fmtS d.2.1).1).length then ([],2)
  else zfc r (acc++(d.1++ [32,61,32]++(fmtS d.2.1).1++ [10]))
def zaG (l:List De):List UInt8×Int:=if 4096 < l.length then ([],2) else zfc l []
theorem zml (r:List Nd):(fmtS r).1.length≤4000:=by
 unfold fmtS;split
 ·split
  ·exact zn _
  ·show (zcH r).text.length≤4000;omega
 ·exact zn _
section
variable {w0:zj} {X:Ownr} {n:Nat} {Q:Exit->AS->Prop} {ops:Array Oper} {F:Frame} {E:Owns} {nx:Nat}
theorem AL.newBd (hX:X.Ok w0) {o:Oper} {rest:List Oper} (ho:o.op= .alloc 105) (hgd:o.guard=none) {d:Nat} (hd:o.dst=some d) (hdn:zW d n=true)
  (h:AL Tryz.prog w0 X n ops rest ⟨(d,⟨.hptr,(nx,(0:Nat))⟩)::F,(nx,some (.hbox 105 [⟨.lit,.pointer none⟩,⟨.lit,.slice none 0 0⟩]))::E,nx+1⟩ Q):AL Tryz.prog w0 X n ops (o::rest) ⟨F,E,nx⟩ Q:=by
 refine AL.hand hgd (fun c e=>by rw[ho]at e;cases e) fun β a w hs=>?_;have hlt:d < n:=by simpa using hdn
 refine zbD (u:=.pointer (some ⟨w.heap.size,0,none⟩)) (w':=w.alloc (.cells #[.pointer none,.slice none 0 0] 105 (0,0))) ?_ ?_
 ·unfold execOp;simp[ho,Instr.alloc,Tryz.zeroValue105,newVar,newRow,Value.cells,go_sem]
 ·rw[hd];obtain⟨β',h1⟩:=hs.make hX ((zP _ w).alloc (zk _) (.cells #[.pointer none,.slice none 0 0] 105 (0,0))) (bv:=.pointer (some ⟨w.heap.size,0,none⟩)) (o:=.hbox 105 [⟨.lit,.pointer none⟩,⟨.lit,.slice none 0 0⟩])
   (fun O β' _=>⟨w.heap.size,[.pointer none,.slice none 0 0],rfl,zn _,xE w _,⟨.pointer none,[.slice none 0 0],rfl,rfl,rfl,⟨.slice none 0 0,[],rfl,rfl,rfl,rfl⟩⟩⟩) (fun g hg=>by cases hg;exact zk _) (v:=⟨.hptr,(nx,(0:Nat))⟩) (u:=.pointer (some ⟨w.heap.size,0,none⟩))
   (fun O β' hb=>⟨w.heap.size,by show zah (β' nx)=_;rw[show β' nx=_ from hb];rfl,rfl⟩) (zk _) hlt (fun vs e v hv=>by
     cases e;rcases yg.1 hv with rfl|hv
     ·exact zn _
     ·rw[zy.1 hv];exact zn _)
  exact⟨_,β',h1,h⟩
end
@[reducible] def cStr0:HCtr:=hBl .unit [105] [] .str (fun _ _=>[]) fun x _=>.ok (x.2.1,x)
theorem znj {R:Nat->Prop} {w w':zj} (h:yW w.heap.size w w'):Kept R w w':=⟨h.os,h.tape,h.output,h.size,fun k hk _=>h.block k hk⟩
theorem zmL:zfR Tryz.prog gmH 62 cStr0 (fun x _=>.ok x.2.1):=by
 refine⟨Tryz.call62,zcC rfl,fun w O g cs ty x xs vs b hO hgb hg hx hbuf hrep hpre hinv hG=>?_⟩;by_cases h0:x.2.1=[]
 ·obtain⟨xb,(xl:List UInt8),⟨⟩⟩:=x;obtain rfl:xl=[]:=h0;have hvs:vs=[]:=hrep;subst hvs;obtain rfl:ty=105:=zy.1 hinv.2;rw[zoN]at hx;obtain⟨u,r,rfl,hu1,hu,hr⟩:=hx;obtain⟨v,r,rfl,hv1,hv,hr⟩:=hr;have hv:v=b:=hv;subst hv;have hr:r=[]:=hr;subst hr;obtain⟨cells,k1,k2,k3⟩:=hbuf;have k1:=zf0 k1;subst k1;have fin:∀ {e:Ending} {w':zj},(e= .returned (.string ⟨#[]⟩)∧yW w.heap.size w w')->Kept (fun h=>h=g∨zah v=some h) w w'∧LEnd cStr0 w w' O e (.ok ([]:List UInt8)):=fun {e w'} h=>⟨znj h.2,_,h.1,.inr fun β=>⟨rfl,zn _⟩⟩;rcases k2.2 with ⟨rfl,_⟩|⟨g',cap,cur,rfl,_,hg',hnc,hcm,hcs,htake⟩
  ·refine (Any.Builder_String_nil Tryz.lays169 Tryz.Builder_Extra_169 w.heap.size g u w hg).mono ?_;exact fun e w' h=>fin h
  ·by_cases hc0:cap=0
   ·subst hc0;refine (Any.Builder_String_noroom Tryz.lays169 Tryz.Builder_Extra_169 w.heap.size g g' u cur w (zk _) hg hg').mono ?_;exact fun e w' h=>fin h
   ·refine (Any.Builder_String_room Tryz.lays169 Tryz.Builder_Extra_169 w.heap.size g g' cap u w hc0 hg).mono ?_;exact fun e w' h=>fin h
 ·exact (zjE .unit rfl [105]).2.2 w O g cs ty x xs vs b hO hgb hg hx hbuf hrep h0 hinv hG
def zDe:De:=([],[],())
def zpU:Ctr:={ args:=[.slice de],pre:=fun _=>[],res:=.tup .str (.tup i64 .unit),own:=none,out:=fun x=>((zaG x.1).1,(zaG x.1).2,()) }
def kFb:Kn:={ gmK with C:=[(65,zjk),(24,cFmt)] }
theorem za9:KnOk Tryz.prog gmH kFb:=zaj.with (.cons zia.lift <| .cons zhA .nil)
def hFb:List (zT×HCtr):=[(66,cWSB),(61,znu .unit [105])]
theorem zr2:HsOk Tryz.prog gmH hFb:=.cons zmE <| .cons zs7 .nil
def bdE (b:Bool) (acc:List UInt8):Owns:=[(0,some (.hbox 105 [adV 0 b,⟨.obuf u8,(1:Nat)⟩])),(1,some (.buf 5 u8 acc))]
set_option maxHeartbeats 1000000 in
theorem zkn:yk Tryz.prog gmH 26 zpU:=by
 refine zal (K:=kFb) za9 Tryz.func26 rfl rfl Tryz.call26 rfl (by decide) (by intro h;cases h) ?_;rintro w0 X hX ⟨(l:List De),_⟩ hp;change AWP _ _ _ _ _ ⟨[(0,⟨.slice de,l⟩)],[],0⟩ _;refine ju 0 rfl fun hl=>?_;unfold maxLen at hl;have hI:∀ w R,(∀ g,R g->w0.heap.size≤g∨(qs gmH X).R g)->(qs gmH X).G w->bInv .unit [105] w R 105:=fun w R hR hw=>⟨zaJ (ty:=105) hX rfl (ziA hX) (ty':=105) w R hR hw,zy.2 rfl⟩;refine za (za ?_);refine zaa hX za9 rfl ?_ ?_
 ·trivial
 refine za (za ?_);refine zaa hX za9 rfl ?_ ?_
 ·trivial
 refine zae rfl (fun hb=>?_) (fun hb=>?_)
 ·have hb:decide (((l.length:Nat):Int) > 4096)=true:=hb;have hb:=of_decide_eq_true hb;(repeat(first|apply zaf|apply zab|apply zai|apply zad|apply zac|refine zaa hX za9 rfl trivial ?_|refine zaa hX za9 rfl id ?_|refine zaa hX za9 rfl ⟨id,id⟩ ?_));refine zl ⟨.inr rfl,za1 (by decide) rfl rfl trivial ?_⟩;show (([]:List UInt8),(2:Int),())=((zaG l).1,(zaG l).2,());unfold zaG;rw[if_pos (by omega)]
 have hb:decide (((l.length:Nat):Int) > 4096)=false:=hb;have hb:=of_decide_eq_false hb;have hS:zaG l=zfc l []:=by unfold zaG;rw[if_neg (by omega)]
 apply zab;apply zaf;refine zak ?_;refine AL.newBd hX rfl rfl rfl rfl ?_;refine AL.nilLeaf 0 1 5 u8 rfl rfl rfl ?_;refine yd ?_;refine za (za ?_);refine zaa hX za9 rfl ?_ ?_
 ·trivial
 (repeat(first|apply zaf|apply zab|apply zac|apply zad));refine yi (ι:=Nat×List UInt8) (fun p=>⟨[(0,⟨.slice de,l⟩),(4,⟨.hptr,((0:Nat),(0:Nat))⟩),(14,⟨.slice de,l⟩),(15,⟨i64,((l.length:Nat):Int)⟩),(16,⟨i64,(p.1:Int)⟩)],bdE (decide (0 < p.1)) p.2,2⟩) (fun p=>p.1≤l.length∧zaG l=zfc (l.drop p.1) p.2∧p.2.length≤4001 * p.1) (fun p=>l.length - p.1) (0,[]) ⟨zn _,hS,zn _⟩ ⟨⟨rfl,rfl,rfl,rfl,rfl,trivial⟩,⟨rfl,rfl,trivial⟩,rfl,rfl⟩ ?_;rintro ⟨i,acc⟩ ⟨hi,hR,hal⟩;have hi:i≤l.length:=hi;have hR:zaG l=zfc (l.drop i) acc:=hR;have hal:acc.length≤4001 * i:=hal;unfold bdE;refine za (za ?_);refine zaa hX za9 rfl ?_ ?_
 ·trivial
 apply zaf;refine zae rfl (fun hb=>?_) (fun hb=>?_)
 ·have hb2:decide ((i:Int) < (l.length:Nat))=true:=hb;have hb2:=of_decide_eq_true hb2;have hlt:i < l.length:=by omega
  have z0:(0:Int)≤(i:Int):=by omega
  have hgd:l.getD (i:Int).toNat zDe=l[i]:=za4 hlt;rw[yG hlt,zfc, <-hgd]at hR;generalize hbq:decide (0 < i)=b;refine za (za ?_);refine zaa hX za9 rfl ?_ ?_
  ·exact⟨z0,hb2⟩
  generalize hD:l.getD (i:Int).toNat zDe=D at *;obtain⟨(nm:List UInt8),(rl:List Nd),⟨⟩⟩:=D;refine zap (σ':=⟨[(0,⟨.slice de,l⟩),(4,⟨.hptr,((0:Nat),(0:Nat))⟩),(14,⟨.slice de,l⟩),(15,⟨i64,((l.length:Nat):Int)⟩),(16,⟨i64,(i:Int)⟩),(6,⟨.optr de,⟨2,de,.here⟩⟩)],(2,some (.box de (nm,rl,())))::bdE b acc,3⟩) ⟨⟨rfl,rfl,rfl,rfl,rfl,rfl,trivial⟩,⟨zfO hD,rfl,rfl,trivial⟩,rfl,by cases b<;>rfl⟩ ?_;have hR:zaG l=if 32 < nm.length then ([],2) else if zax nm=0∨zax nm < nm.length then ([],1) else if (fmtS rl).2≠0 then ([],(fmtS rl).2) else if 4000 < (nm++ [32,61,32]++(fmtS rl).1).length then ([],2) else zfc (l.drop (i+1)) (acc++(nm++ [32,61,32]++(fmtS rl).1++ [10])):=hR
  unfold bdE;refine za (za ?_);refine zaa hX za9 rfl ?_ ?_
  ·trivial
  refine za (za ?_);refine zaa hX za9 rfl ?_ ?_
  ·trivial
  refine zae rfl (fun hc=>?_) (fun hc=>?_)
  ·have hc:decide (((nm.length:Nat):Int) > 32)=true:=hc;have hc:=of_decide_eq_true hc;(repeat(first|apply zaf|apply zab|apply zai|apply zad|apply zac|refine zaa hX za9 rfl trivial ?_|refine zaa hX za9 rfl id ?_|refine zaa hX za9 rfl ⟨id,id⟩ ?_));refine zl ⟨.inr rfl,za1 (by decide) rfl rfl trivial ?_⟩;show (([]:List UInt8),(2:Int),())=((zaG l).1,(zaG l).2,());rw[hR,if_pos (by omega)]
  have hc:decide (((nm.length:Nat):Int) > 32)=false:=hc;have hc:=of_decide_eq_false hc;refine za (za ?_);refine zaa hX za9 rfl ?_ ?_
  ·repeat'(first|exact trivial|assumption|(refine⟨?_,?_⟩)|(intro _)|exact zb rfl|exact zd _|(simp_all [allP];done))
  have hq:(bif ((zax nm:Nat):Int)==0 then true else decide (((zax nm:Nat):Int) < ((nm.length:Nat):Int)))=decide (zax nm=0∨zax nm < nm.length):=by
   rw[b_or,zL,zY,decide_eq_true_iff,decide_eq_true_iff,beq_iff_eq];omega
  refine zae rfl (fun hd=>?_) (fun hd=>?_)
  ·have hd:=hq.symm.trans hd;have hd:=of_decide_eq_true hd;(repeat(first|apply zaf|apply zab|apply zai|apply zad|apply zac|refine zaa hX za9 rfl trivial ?_|refine zaa hX za9 rfl id ?_|refine zaa hX za9 rfl ⟨id,id⟩ ?_));refine zl ⟨.inr rfl,za1 (by decide) rfl rfl trivial ?_⟩;show (([]:List UInt8),(1:Int),())=((zaG l).1,(zaG l).2,());rw[hR,if_neg (by omega),if_pos hd]
  have hd:=hq.symm.trans hd;have hd:=of_decide_eq_false hd;apply zab;refine za (za ?_);refine zaa hX za9 rfl ?_ ?_
  ·trivial
  refine zap (σ':=⟨[(0,⟨.slice de,l⟩),(4,⟨.hptr,((0:Nat),(0:Nat))⟩),(14,⟨.slice de,l⟩),(15,⟨i64,((l.length:Nat):Int)⟩),(16,⟨i64,(i:Int)⟩),(6,⟨.optr de,⟨2,de,.here⟩⟩),(8,⟨.str,(fmtS rl).1⟩),(9,⟨i64,(fmtS rl).2⟩)],(2,some (.box de (nm,rl,())))::bdE b acc,3⟩) ⟨⟨rfl,rfl,rfl,rfl,rfl,rfl,rfl,rfl,trivial⟩,⟨rfl,rfl,rfl,trivial⟩,rfl,by cases b<;>rfl⟩ ?_;have hfl:=zml rl;generalize (fmtS rl).1=T at *;generalize (fmtS rl).2=ec at *;unfold bdE;refine za (za ?_);refine zaa hX za9 rfl ?_ ?_
  ·trivial
  refine zae rfl (fun he=>?_) (fun he=>?_)
  ·have he:(ec != 0)=true:=he;have he:=bne_iff_ne.1 he;(repeat(first|apply zaf|apply zab|apply zai|apply zad|apply zac|refine zaa hX za9 rfl trivial ?_|refine zaa hX za9 rfl id ?_|refine zaa hX za9 rfl ⟨id,id⟩ ?_));refine zl ⟨.inr rfl,za1 (by decide) rfl rfl trivial ?_⟩;show (([]:List UInt8),ec,())=((zaG l).1,(zaG l).2,());rw[hR,if_neg (by omega),if_neg hd,if_pos he]
  have he:(ec != 0)=false:=he;have he:¬ ec≠0:=fun h=>by rw[bne_iff_ne.2 h]at he;cases he
  apply zab;have t1:nm.length+3≤maxLen:=by unfold maxLen;omega
  have t2:zg (nm++ [32,61,32]:List UInt8)+T.length≤maxLen:=by rw[zh];show nm.length+3+_≤_;unfold maxLen;omega
  have t3:(nm++ [32,61,32]++T:List UInt8).length=nm.length+3+T.length:=by rw[zh,zh];rfl
  refine za (za ?_);refine zaa hX za9 rfl ?_ ?_
  ·exact⟨t1,t2⟩
  refine zap (σ':=⟨[(0,⟨.slice de,l⟩),(4,⟨.hptr,((0:Nat),(0:Nat))⟩),(14,⟨.slice de,l⟩),(15,⟨i64,((l.length:Nat):Int)⟩),(16,⟨i64,(i:Int)⟩),(10,⟨.str,nm++ [32,61,32]++T⟩)],bdE b acc,3⟩) ⟨⟨rfl,rfl,rfl,rfl,rfl,rfl,trivial⟩,⟨rfl,rfl,trivial⟩,rfl,by cases b<;>rfl⟩ ?_;generalize (nm++ [32,61,32]++T:List UInt8)=L at hR t3;unfold bdE;refine za (za ?_);refine zaa hX za9 rfl ?_ ?_
  ·trivial
  refine zae rfl (fun hf=>?_) (fun hf=>?_)
  ·have hf:decide (((L.length:Nat):Int) > 4000)=true:=hf;have hf:=of_decide_eq_true hf;(repeat(first|apply zaf|apply zab|apply zai|apply zad|apply zac|refine zaa hX za9 rfl trivial ?_|refine zaa hX za9 rfl id ?_|refine zaa hX za9 rfl ⟨id,id⟩ ?_));refine zl ⟨.inr rfl,za1 (by decide) rfl rfl trivial ?_⟩;show (([]:List UInt8),(2:Int),())=((zaG l).1,(zaG l).2,());rw[hR,if_neg (by omega),if_neg hd,if_neg he,if_pos (by omega)]
  have hf:decide (((L.length:Nat):Int) > 4000)=false:=hf;have hf:=of_decide_eq_false hf;rw[if_neg (by omega),if_neg hd,if_neg he,if_neg (by omega)]at hR;apply zab;have hl1:(L++ [10]:List UInt8).length=L.length+1:=by rw[zh];rfl
  have t4:L.length+1≤maxLen:=by unfold maxLen;omega
  have t5:acc.length+zg (L++ [10]:List UInt8)≤1000000000:=by omega
  cases b
  all_goals
   (repeat(first|apply zaf|apply zab|apply zac|apply zad));refine zak ?_;refine yq 2 hX za9 zr2 rfl t4 rfl rfl t5 hI ?_;refine yd ?_;refine zap (σ':=⟨[(0,⟨.slice de,l⟩),(4,⟨.hptr,((0:Nat),(0:Nat))⟩),(14,⟨.slice de,l⟩),(15,⟨i64,((l.length:Nat):Int)⟩),(16,⟨i64,(i:Int)⟩)],[(0,some (.hbox 105 [adV 0 true,⟨.obuf u8,(1:Nat)⟩])),(1,some (.buf 5 u8 (acc++(L++ [10]))))],3⟩) ⟨⟨rfl,rfl,rfl,rfl,rfl,trivial⟩,⟨rfl,rfl,trivial⟩,rfl,rfl⟩ ?_;refine za (za ?_);refine zaa hX za9 rfl ?_ ?_
   ·exact zaF (by omega)
   refine⟨(i+1,acc++(L++ [10])),⟨hlt,hR,?_⟩,by show l.length - (i+1) < l.length - i;omega,⟨rfl,rfl,rfl,rfl,zbY _,trivial⟩,⟨?_,rfl,trivial⟩,rfl,?_⟩
   ·show zg (acc++(L++ [10]):List UInt8)≤4001 * (i+1);rw[zh];omega
   ·rw[show decide (0 < (i+1,acc++(L++ [10])).1)=true from decide_eq_true (Nat.succ_pos _)];rfl
   ·rw[show decide (0 < (i+1,acc++(L++ [10])).1)=true from decide_eq_true (Nat.succ_pos _)];rfl
 ·have hb2:decide ((i:Int) < (l.length:Nat))=false:=hb;have hb2:=of_decide_eq_false hb2;obtain rfl:i=l.length:=by omega
  rw[jf,zfc]at hR;generalize decide (0 < l.length)=b;apply zad;refine zap (σ':=⟨[(4,⟨.hptr,((0:Nat),(0:Nat))⟩)],bdE b acc,2⟩) ⟨⟨rfl,trivial⟩,⟨rfl,rfl,trivial⟩,rfl,by cases b<;>rfl⟩ ?_;unfold bdE;cases b
  all_goals
   (repeat(first|apply zaf|apply zab|apply zac|apply zad));refine zak ?_;refine yq 0 hX za9 zr2 rfl trivial rfl rfl trivial hI ?_;refine zV hX za9 rfl trivial ?_;refine zae rfl (fun hc=>?_) (fun hc=>?_)
   ·have hc:decide (((acc.length:Nat):Int) > 1048576)=true:=hc;have hc:=of_decide_eq_true hc;(repeat(first|apply zaf|apply zab|apply zai|apply zad|apply zac|refine zaa hX za9 rfl trivial ?_|refine zaa hX za9 rfl id ?_|refine zaa hX za9 rfl ⟨id,id⟩ ?_));refine zl ⟨.inr rfl,za1 (by decide) rfl rfl trivial ?_⟩;show (([]:List UInt8),(2:Int),())=((zaG l).1,(zaG l).2,());rw[hR,if_pos (by omega)]
   ·have hc:decide (((acc.length:Nat):Int) > 1048576)=false:=hc;have hc:=of_decide_eq_false hc;apply zab;(repeat(first|apply zaf|apply zab|apply zac|apply zad));refine zak ?_;refine AL.give hX zmL rfl rfl rfl rfl rfl rfl rfl rfl rfl rfl rfl rfl trivial trivial hI rfl rfl ?_;show AL _ _ _ _ _ _ _ _;refine zV hX za9 rfl trivial ?_;refine zl ⟨.inr rfl,za1 (by decide) rfl rfl trivial ?_⟩;show (acc,(0:Int),())=((zaG l).1,(zaG l).2,());rw[hR,if_neg (by omega)]
noncomputable def eqN (a b:Nd):Bool:=eqb nd a b
theorem zlq {a b:Nd}:eqN a b=true↔a=b:=zbj
theorem zhE {a b:Nd}:eqN a b=false↔a≠b:=by rw[<-uQ,zlq]
noncomputable def zr7:Ctr:={ args:=[nd,nd],pre:=fun _=>[],res:=.bool,own:=none,out:=fun x=>eqN x.1 x.2.1 }
theorem eqb_ne (x y:List UInt8):(!eqb .str x y)= !decide (x=y):=by rw[zdi]
theorem zqt:yk Tryz.prog gmH 49 zr7:=by
 refine zal (K:=gmK) zaj Tryz.func49 rfl rfl Tryz.call49 rfl (by decide) (by intro h;cases h) ?_;rintro w0 X hX ⟨(a:Nd),(b:Nd),_⟩ hp;change AWP _ _ _ _ _ ⟨[(0,⟨nd,a⟩),(1,⟨nd,b⟩)],[],0⟩ _;refine za (za ?_);refine zaa hX zaj rfl ?_ ?_
 ·trivial
 refine za (za ?_);refine zaa hX zaj rfl ?_ ?_
 ·repeat'(first|exact trivial|assumption|(refine⟨?_,?_⟩)|(intro _)|exact zb rfl|exact zd _|(simp_all [allP];done))
 obtain⟨a1,a2,a3,a4,a5,a6,(la:List Int),a8,⟨⟩⟩:=a;obtain⟨b1,b2,b3,b4,b5,b6,(lb:List Int),b8,⟨⟩⟩:=b;have ht:(bif (bif (bif (bif (bif (bif (bif a1 != b1 then true else a2 != b2) then true else a3 != b3) then true else a4 != b4) then true else a5 != b5) then true else a6 != b6) then true else !eqb .str a8 b8) then true else ((la.length:Nat):Int) != ((lb.length:Nat):Int))=true↔¬ (a1=b1∧a2=b2∧a3=b3∧a4=b4∧a5=b5∧a6=b6∧a8=b8∧la.length=lb.length):=by
  rw[eqb_ne];simp only[b_or,zY,bne_iff_ne,zr,decide_eq_false_iff_not];constructor
  ·rintro (((((((h|h)|h)|h)|h)|h)|h)|h) ⟨x1,x2,x3,x4,x5,x6,x7,x8⟩
   ·exact h x1
   ·exact h x2
   ·exact h x3
   ·exact h x4
   ·exact h x5
   ·exact h x6
   ·exact h x7
   ·exact h (by rw[x8])
  ·intro h;by_cases x1:a1=b1
   ·by_cases x2:a2=b2
    ·by_cases x3:a3=b3
     ·by_cases x4:a4=b4
      ·by_cases x5:a5=b5
       ·by_cases x6:a6=b6
        ·by_cases x7:a8=b8
         ·refine .inr fun e=>h ⟨x1,x2,x3,x4,x5,x6,x7,by omega⟩
         ·exact .inl (.inr x7)
        ·exact .inl (.inl (.inr x6))
       ·exact .inl (.inl (.inl (.inr x5)))
      ·exact .inl (.inl (.inl (.inl (.inr x4))))
     ·exact .inl (.inl (.inl (.inl (.inl (.inr x3)))))
    ·exact .inl (.inl (.inl (.inl (.inl (.inl (.inr x2))))))
   ·exact .inl (.inl (.inl (.inl (.inl (.inl (.inl x1))))))
 refine zae rfl (fun hb=>?_) (fun hb=>?_)
 ·have hb:=ht.1 hb;(repeat(first|apply zaf|apply zab|apply zai|apply zad|apply zac|refine zaa hX zaj rfl trivial ?_|refine zaa hX zaj rfl id ?_|refine zaa hX zaj rfl ⟨id,id⟩ ?_));refine zl ⟨.inr rfl,zas rfl trivial rfl rfl ?_⟩;refine (zhE.2 fun e=>hb ?_).symm;cases e;exact⟨rfl,rfl,rfl,rfl,rfl,rfl,rfl,rfl⟩
 ·have hb:¬ _:=fun h=>by rw[ht.2 h]at hb;cases hb
  obtain⟨rfl,rfl,rfl,rfl,rfl,rfl,rfl,hlen⟩:=Classical.not_not.1 hb;apply zab;refine za (za ?_);refine zaa hX zaj rfl ?_ ?_
  ·trivial
  (repeat(first|apply zaf|apply zab|apply zac|apply zad));refine zap (σ':=⟨[(2,⟨.optr nd,⟨0,nd,.here⟩⟩),(3,⟨.optr nd,⟨1,nd,.here⟩⟩),(5,⟨i64,(0:Int)⟩)],[(0,some (.box nd (a1,a2,a3,a4,a5,a6,la,a8,()))),(1,some (.box nd (a1,a2,a3,a4,a5,a6,lb,a8,())))],2⟩) ⟨⟨rfl,rfl,rfl,trivial⟩,⟨rfl,rfl,trivial⟩,rfl,rfl⟩ ?_;refine yi (ι:=Nat) (fun k=>⟨[(2,⟨.optr nd,⟨0,nd,.here⟩⟩),(3,⟨.optr nd,⟨1,nd,.here⟩⟩),(5,⟨i64,(k:Int)⟩)],[(0,some (.box nd (a1,a2,a3,a4,a5,a6,la,a8,()))),(1,some (.box nd (a1,a2,a3,a4,a5,a6,lb,a8,())))],2⟩) (fun k=>k≤la.length∧la.take k=lb.take k) (fun k=>la.length - k) 0 ⟨zn _,rfl⟩ ⟨⟨rfl,rfl,rfl,trivial⟩,⟨rfl,rfl,trivial⟩,rfl,rfl⟩ ?_;rintro k ⟨hk,he⟩;refine za (za ?_);refine zaa hX zaj rfl ?_ ?_
  ·trivial
  refine ju 64 rfl fun hl=>?_;have hl:la.length≤maxLen:=hl;unfold maxLen at hl;refine zae rfl (fun hb=>?_) (fun hb=>?_)
  ·have hb:decide ((k:Int) < ((la.length:Nat):Int))=true:=hb;have hb:=of_decide_eq_true hb;have hlt:k < la.length:=by omega
   have hlt2:k < lb.length:=by omega
   have z0:(0:Int)≤(k:Int):=by omega
   have z1:(k:Int) < ((la.length:Nat):Int):=by omega
   have z2:(k:Int) < ((lb.length:Nat):Int):=by omega
   have g1:la.getD (k:Int).toNat (0:Int)=la[k]:=za4 hlt;have g2:lb.getD (k:Int).toNat (0:Int)=lb[k]:=za4 hlt2;(repeat(first|apply zaf|apply zab|apply zac|apply zad));refine qY dM hX zaj 11 (by kernel_rfl) rfl rfl ?_ ?_ ?_
   ·repeat'(first|exact trivial|assumption|exact z0|exact z1|exact z2|(refine⟨?_,?_⟩)|(intro _)|exact zb rfl|exact zd _|(simp_all [allP];done))
   ·trivial
   refine zae rfl (fun hc=>?_) (fun hc=>?_)
   ·have hc:(la.getD (k:Int).toNat (0:Int) != lb.getD (k:Int).toNat (0:Int))=true:=hc;rw[g1,g2]at hc;have hc:=bne_iff_ne.1 hc;(repeat(first|apply zaf|apply zab|apply zai|apply zad|apply zac|refine zaa hX zaj rfl trivial ?_|refine zaa hX zaj rfl id ?_|refine zaa hX zaj rfl ⟨id,id⟩ ?_));refine zl ⟨.inr rfl,zas rfl trivial rfl rfl ?_⟩;refine (zhE.2 fun e=>hc ?_).symm;have e:la=lb:=congrArg ndI e;subst e;rfl
   ·have hc:(la.getD (k:Int).toNat (0:Int) != lb.getD (k:Int).toNat (0:Int))=false:=hc;rw[g1,g2]at hc;have hc:=bne_eq_false_iff_eq.1 hc;apply zab;refine za (za ?_);refine zaa hX zaj rfl ?_ ?_
    ·exact zaF (by omega)
    refine⟨k+1,⟨hlt,?_⟩,by omega,⟨rfl,rfl,zbY _,trivial⟩,⟨rfl,rfl,trivial⟩,rfl,rfl⟩;rw[zH hlt,zH hlt2,he,hc]
  ·have hb:decide ((k:Int) < ((la.length:Nat):Int))=false:=hb;have hb:=of_decide_eq_false hb;obtain rfl:k=la.length:=by omega
   (repeat(first|apply zaf|apply zab|apply zai|apply zad|apply zac|refine zaa hX zaj rfl trivial ?_|refine zaa hX zaj rfl id ?_|refine zaa hX zaj rfl ⟨id,id⟩ ?_));refine zl ⟨.inr rfl,zas rfl trivial rfl rfl ?_⟩;refine (zlq.2 ?_).symm;rw[xx,hlen,xx]at he;rw[he]
noncomputable def zob (a b:List Nd):Bool:=eqb (.slice nd) a b
theorem zg1 {a b:List Nd}:zob a b=true↔a=b:=zbj
theorem zg2 {a b:List Nd}:zob a b=false↔a≠b:=by rw[<-uQ,zg1]
noncomputable def cSame:Ctr:={ args:=[.slice nd,.slice nd],pre:=fun _=>[],res:=.bool,own:=none,out:=fun x=>zob x.1 x.2.1 }
noncomputable def kSame:Kn:={ gmK with C:=[(49,zr7)] }
theorem zbF:KnOk Tryz.prog gmH kSame:=zaj.with (.cons zqt .nil)
theorem zsG:yk Tryz.prog gmH 18 cSame:=by
 refine zal (K:=kSame) zbF Tryz.func18 rfl rfl Tryz.call18 rfl (by decide) (by intro h;cases h) ?_;rintro w0 X hX ⟨(la:List Nd),(lb:List Nd),_⟩ hp;change AWP _ _ _ _ _ ⟨[(0,⟨.slice nd,la⟩),(1,⟨.slice nd,lb⟩)],[],0⟩ _;refine ju 0 rfl fun hl=>?_;unfold maxLen at hl;refine za (za ?_);refine zaa hX zbF rfl ?_ ?_
 ·trivial
 refine za (za ?_);refine zaa hX zbF rfl ?_ ?_
 ·trivial
 refine zae rfl (fun hb=>?_) (fun hb=>?_)
 ·have hb:(((la.length:Nat):Int) != ((lb.length:Nat):Int))=true:=hb;have hb:=bne_iff_ne.1 hb;(repeat(first|apply zaf|apply zab|apply zai|apply zad|apply zac|refine zaa hX zbF rfl trivial ?_|refine zaa hX zbF rfl id ?_|refine zaa hX zbF rfl ⟨id,id⟩ ?_));refine zl ⟨.inr rfl,zas rfl trivial rfl rfl ?_⟩;exact (zg2.2 fun e=>hb (by have e:la=lb:=e;rw[e])).symm
 have hb:(((la.length:Nat):Int) != ((lb.length:Nat):Int))=false:=hb;have hb:=bne_eq_false_iff_eq.1 hb;have hlen:la.length=lb.length:=by omega
 apply zab;refine za (za ?_);refine zaa hX zbF rfl ?_ ?_
 ·trivial
 (repeat(first|apply zaf|apply zab|apply zac|apply zad));refine yi (ι:=Nat) (fun k=>⟨[(0,⟨.slice nd,la⟩),(1,⟨.slice nd,lb⟩),(5,⟨i64,(k:Int)⟩)],[],0⟩) (fun k=>k≤la.length∧la.take k=lb.take k) (fun k=>la.length - k) 0 ⟨zn _,rfl⟩ ⟨⟨rfl,rfl,rfl,trivial⟩,trivial,rfl,rfl⟩ ?_;rintro k ⟨hk,he⟩;refine za (za ?_);refine zaa hX zbF rfl ?_ ?_
 ·trivial
 refine zae rfl (fun hb=>?_) (fun hb=>?_)
 ·have hb:decide ((k:Int) < ((la.length:Nat):Int))=true:=hb;have hb:=of_decide_eq_true hb;have hlt:k < la.length:=by omega
  have hlt2:k < lb.length:=by omega
  have z0:(0:Int)≤(k:Int):=by omega
  have z1:(k:Int) < ((la.length:Nat):Int):=by omega
  have z2:(k:Int) < ((lb.length:Nat):Int):=by omega
  have g1:la.getD (k:Int).toNat zNd=la[k]:=za4 hlt;have g2:lb.getD (k:Int).toNat zNd=lb[k]:=za4 hlt2;(repeat(first|apply zaf|apply zab|apply zac|apply zad));refine qY dM hX zbF 10 (by kernel_rfl) rfl rfl ?_ ?_ ?_
  ·repeat'(first|exact trivial|assumption|exact z0|exact z1|exact z2|(refine⟨?_,?_⟩)|(intro _)|exact zb rfl|exact zd _|(simp_all [allP];done))
  ·trivial
  refine zae rfl (fun hc=>?_) (fun hc=>?_)
  ·have hc:(!eqN (la.getD (k:Int).toNat zNd) (lb.getD (k:Int).toNat zNd))=true:=hc;rw[g1,g2,zr]at hc;have hc:=zhE.1 hc;(repeat(first|apply zaf|apply zab|apply zai|apply zad|apply zac|refine zaa hX zbF rfl trivial ?_|refine zaa hX zbF rfl id ?_|refine zaa hX zbF rfl ⟨id,id⟩ ?_));refine zl ⟨.inr rfl,zas rfl trivial rfl rfl ?_⟩;refine (zg2.2 fun e=>hc ?_).symm;have e:la=lb:=e;subst e;rfl
  ·have hc:(!eqN (la.getD (k:Int).toNat zNd) (lb.getD (k:Int).toNat zNd))=false:=hc;rw[g1,g2,Bool.not_eq_false']at hc;have hc:=zlq.1 hc;apply zab;refine za (za ?_);refine zaa hX zbF rfl ?_ ?_
   ·exact zaF (by omega)
   refine⟨k+1,⟨hlt,?_⟩,by omega,⟨rfl,rfl,zbY _,trivial⟩,trivial,rfl,rfl⟩;rw[zH hlt,zH hlt2,he,hc]
 ·have hb:decide ((k:Int) < ((la.length:Nat):Int))=false:=hb;have hb:=of_decide_eq_false hb;obtain rfl:k=la.length:=by omega
  (repeat(first|apply zaf|apply zab|apply zai|apply zad|apply zac|refine zaa hX zbF rfl trivial ?_|refine zaa hX zbF rfl id ?_|refine zaa hX zbF rfl ⟨id,id⟩ ?_));refine zl ⟨.inr rfl,zas rfl trivial rfl rfl ?_⟩;refine (zg1.2 ?_).symm;rw[xx,hlen,xx]at he;exact he
noncomputable def zhk (y:List UInt8):Bool:=(!zkc y [35])&&decide (zbi isWh y < y.length)
noncomputable def zhV (y:List UInt8) (fr:Nat) (acc:List De):Except (Int×Int) (List De):=
 if zhk y=true then
  if 4000 < y.length then .error ((fr:Int),2)
  else match zgB y ((acc.length:Nat):Int) with
   | .ok d=>.ok (acc++ [d])
   | .error e=>if e.2=0 then .ok acc else .error ((fr:Int)+e.1,e.2)
 else .ok acc
noncomputable def libK:List (List UInt8)->Nat->List De->List De×Int×Int
 | [],_,acc=>(acc,0,0)
 |y::r,fr,acc=>match zhV y fr acc with
  | .error e=>([],e.1,e.2)
  | .ok acc'=>libK r (fr+y.length+1) acc'
noncomputable def za6 (s:List UInt8):List De×Int×Int:=if 1048576 < s.length then ([],0,2) else libK (segs s) 0 []
def lPF:List (Nat×V):=[(2,⟨.hptr,((0:Nat),(0:Nat))⟩),(3,⟨.optr i64,⟨1,i64,.here⟩⟩),(4,⟨.optr i64,⟨2,i64,.here⟩⟩),(5,⟨.hptr,((3:Nat),(0:Nat))⟩),(6,⟨.optr i64,⟨4,i64,.here⟩⟩),(7,⟨.optr .str,⟨5,.str,.here⟩⟩)]
def lRE (at' e:Int):Owns:=[(0,some (.hbox tD [⟨.lit,.slice none 0 0⟩])),(1,some (.box i64 at')),(2,some (.box i64 e))]
def zk8 (y:List UInt8) (fr:Nat) (e:Exit) (σ:AS):Except (Int×Int) (List De)->Prop
 | .ok acc'=>e= .normal∧Fit σ ⟨[],libE y ((fr+y.length+1:Nat):Int) acc',7⟩
 | .error er=>e= .ret∧Fit σ ⟨[],lRE er.1 er.2,7⟩
noncomputable def kLc:Kn:={ gmK with H:=[tD],C:=[(51,cPre),(52,zlw 53 isWh)] }
theorem zck:KnOk Tryz.prog gmH kLc:=⟨zgv,zgu,.cons zpl <| .cons zjG.lift .nil,zhv,RsOk.nil⟩
def zps:Code->Option (Code×Code)
 | .rangeFunc _ _ a b=>some (a,b)
 | .seq x y=>match zps x with
  |some r=>some r
  |none=>zps y
 | .block _ c=>zps c
 |_=>none
noncomputable def lBody:Code:=match zps (Tryz.f19.body.getD .skip) with
 |some r=>r.2
 |none=>.skip
noncomputable def lAsgn:Code:=match zps (Tryz.f19.body.getD .skip) with
 |some r=>r.1
 |none=>.skip
theorem zq4 {w1:zj} {X:Ownr} {y:List UInt8} {fr:Nat} {acc:List De} (hy:y.length≤1100000) (hfr:fr≤1100000) (ha:acc.length≤1000000) (hX:X.Ok w1) (hG:X.G=gmH) (hK:X.K=5) (hinv:∀ ty,ginv w1 X.R ty) (her:∀ er,zgB y ((acc.length:Nat):Int)= .error er->0≤er.1∧er.1≤1100000):
  AWP Tryz.prog w1 X 47 lBody ⟨lPF,libE y (fr:Int) acc,7⟩ (fun e σ=>zk8 y fr e σ (zhV y fr acc)):=by
 obtain⟨G,O,K,fix,D,ρ,B⟩:=X;obtain rfl:G=gmH:=hG;obtain rfl:K=5:=hK;unfold lPF libE;apply zac;have hp1:y.length≤2000000∧([35]:List UInt8).length≤2000000:=⟨by omega,by decide⟩;apply zaf;refine xM (σ':=⟨[(2,⟨.hptr,((0:Nat),(0:Nat))⟩),(3,⟨.optr i64,⟨1,i64,.here⟩⟩),(4,⟨.optr i64,⟨2,i64,.here⟩⟩),(5,⟨.hptr,((3:Nat),(0:Nat))⟩),(6,⟨.optr i64,⟨4,i64,.here⟩⟩),(7,⟨.optr .str,⟨5,.str,.here⟩⟩),(25,⟨.bool,zhk y⟩)],libE y (fr:Int) acc,7⟩) ?_ ?_
 ·unfold libE;refine jD dM 10 rfl (by kernel_rfl) ?_;cases hq:zkc y [35] with
  |true=>
   have hl0:zhk y=false:=by unfold zhk;rw[hq];rfl
   have hb:(!zkc y [35])=false:=by rw[hq];rfl
   have hl2:(bif !zkc y [35] then false else false)=zhk y:=by rw[hl0,hb];rfl
   repeat'(first
    |exact jT
    |refine jr ⟨_,rfl,?_⟩ ?_
    |refine xp hX zck rfl trivial ?_
    |refine xp hX zck rfl hp1 ?_
    |(refine StepA.guardF 3 19 true .bool false rfl rfl (zco hb) rfl rfl rfl ?_)
    |refine xp hX zck rfl (by exact fun h=>hb.symm.trans h) ?_
    |(refine jJ ?_;exact⟨⟨rfl,rfl,rfl,rfl,rfl,rfl,zco hl2,trivial⟩,⟨rfl,rfl,rfl,rfl,rfl,rfl,rfl,trivial⟩,rfl,rfl⟩))
  |false=>
   have hb:(!zkc y [35])=true:=by rw[hq];rfl
   have hl1:(bif !zkc y [35] then decide (((zbi isWh y:Nat):Int) < ((y.length:Nat):Int)) else false)=zhk y:=by
    unfold zhk;rw[zb3]
    congr 1
    exact decide_eq_decide.2 Int.ofNat_lt
   repeat'(first
    |exact jT
    |refine jr ⟨_,rfl,?_⟩ ?_
    |refine StepA.guardT 3 19 true rfl rfl (zco hb) rfl ?_
    |refine xp hX zck rfl trivial ?_
    |refine xp hX zck rfl hp1 ?_
    |refine xp hX zck rfl (by exact rfl) ?_
    |refine xp hX zck rfl (by exact fun h=>h) ?_
    |(refine jJ ?_;exact⟨⟨rfl,rfl,rfl,rfl,rfl,rfl,zco hl1,trivial⟩,⟨rfl,rfl,rfl,rfl,rfl,rfl,rfl,trivial⟩,rfl,rfl⟩))
 have hlen:((y.length:Nat):Int)≤1100000:=by omega
 have hfrl:((fr:Nat):Int)≤1100000:=by omega
 have q0:inR .i64 (((y.length:Nat):Int)+1):=zam (by omega) (by omega);have q1:inR .i64 ((fr:Int)+(((y.length:Nat):Int)+1)):=zam (by omega) (by omega);have hend:(fr:Int)+(((y.length:Nat):Int)+1)=((fr+y.length+1:Nat):Int):=by omega
 unfold libE;refine zae rfl (fun hb=>?_) (fun hb=>?_)
 ·have hb:zhk y=true:=hb;unfold zhV;rw[if_pos hb];refine za (za ?_);refine zaa hX zck rfl ?_ ?_
  ·trivial
  refine zae rfl (fun hb=>?_) (fun hb=>?_)
  ·have hb:decide (((4000:Nat):Int) < ((y.length:Nat):Int))=true:=hb;have hb:=of_decide_eq_true hb;rw[if_pos (by omega)];refine xM (σ':=⟨[],lRE (fr:Int) 2,7⟩) ?_ ?_
   ·unfold lRE;refine jD dM 4 rfl (by kernel_rfl) ?_
    repeat'(first
     |exact jT
     |refine jr ⟨_,rfl,?_⟩ ?_
     |refine xp hX zck rfl trivial ?_
     |(refine jJ ?_;exact⟨trivial,⟨rfl,rfl,rfl,trivial⟩,rfl,rfl⟩))
   ·exact zl ⟨rfl,trivial,⟨rfl,rfl,rfl,trivial⟩,rfl,rfl⟩
  have hb:decide (((4000:Nat):Int) < ((y.length:Nat):Int))=false:=hb;have hb:=of_decide_eq_false hb;rw[if_neg (by omega)];apply zab;refine zap (σ':=⟨lPF,libE y (fr:Int) acc,7⟩) ⟨⟨rfl,rfl,rfl,rfl,rfl,rfl,trivial⟩,⟨rfl,rfl,rfl,rfl,rfl,rfl,rfl,trivial⟩,rfl,rfl⟩ ?_;unfold lPF;(repeat(first|apply zaf|apply zab|apply zac|apply zad));refine zak ?_;refine AL.runClo hX 6 rfl rfl rfl rfl rfl rfl rfl rfl rfl rfl (by show 5≤6;omega) Tryz.func54 rfl rfl rfl rfl Tryz.call54 rfl rfl rfl (N:=NLib y (fr:Int) acc) (fun w2 X' h1 h2 h3 h4 h5 h6=>?_) (fun r σ hN=>?_)
  ·refine zq5 (by omega) ha h1 h2 h3 h4 h5 fun ty=>zaJ (ty:=ty) hX rfl (hinv ty) _ _ h6 (by
    have:=h1.2.2 w2 (Kept.refl _ _);rwa[h2]at this)
  rcases hN with ⟨d,hd,rfl,hf⟩|⟨er,hd,rfl,hf⟩
  ·refine qJ (σ':=⟨(32,⟨tupI,((0:Int),(0:Int),())⟩)::lPF,libE y (fr:Int) (acc++ [d]),7⟩) ⟨⟨rfl,rfl,rfl,rfl,rfl,rfl,rfl,trivial⟩,hf.e,rfl,rfl⟩ ?_;unfold lPF libE;refine zV hX zck rfl trivial ?_;refine za (za ?_);refine zaa hX zck rfl ?_ ?_
   ·trivial
   refine zae rfl (fun hb=>absurd (show false=true from hb) (by decide)) (fun _=>?_);apply zab;rw[hd];refine za (za ?_);refine zaa hX zck rfl ?_ ?_
   ·exact⟨q0,q1⟩
   exact⟨rfl,trivial,⟨rfl,rfl,rfl,rfl,zfO hend,rfl,rfl,trivial⟩,rfl,rfl⟩
  ·refine qJ (σ':=⟨(32,⟨tupI,(er.1,er.2,())⟩)::lPF,libE y (fr:Int) acc,7⟩) ⟨⟨rfl,rfl,rfl,rfl,rfl,rfl,rfl,trivial⟩,hf.e,rfl,rfl⟩ ?_;obtain⟨her0,her1⟩:=her er hd;have q2:inR .i64 ((fr:Int)+er.1):=zam (by omega) (by omega);unfold lPF libE;refine zV hX zck rfl trivial ?_;refine za (za ?_);refine zaa hX zck rfl ?_ ?_
   ·trivial
   rw[hd];refine zae rfl (fun hb=>?_) (fun hb=>?_)
   ·have hb:(er.2 != 0)=true:=hb;have hb:er.2≠0:=bne_iff_ne.1 hb;show AWP _ _ _ _ _ _ (zjD _ _);refine xM (σ':=⟨[],lRE ((fr:Int)+er.1) er.2,7⟩) ?_ ?_
    ·unfold lRE;refine jD dM 7 rfl (by kernel_rfl) ?_
     repeat'(first
      |exact jT
      |refine jr ⟨_,rfl,?_⟩ ?_
      |refine xp hX zck rfl trivial ?_
      |refine xp hX zck rfl q2 ?_
      |(refine jJ ?_;exact⟨trivial,⟨rfl,rfl,rfl,trivial⟩,rfl,rfl⟩))
    ·refine zl ?_;show zk8 y fr .ret _ (if er.2=0 then .ok acc else .error ((fr:Int)+er.1,er.2));rw[if_neg hb];exact⟨rfl,trivial,⟨rfl,rfl,rfl,trivial⟩,rfl,rfl⟩
   ·have hb:(er.2 != 0)=false:=hb;have hb:er.2=0:=by
     by_cases h:er.2=0
     ·exact h
     ·rw[bne_iff_ne.2 h]at hb;cases hb
    apply zab;refine za (za ?_);refine zaa hX zck rfl ?_ ?_
    ·exact⟨q0,q1⟩
    show zk8 y fr .normal _ (if er.2=0 then .ok acc else .error ((fr:Int)+er.1,er.2));rw[if_pos hb];exact⟨rfl,trivial,⟨rfl,rfl,rfl,rfl,zfO hend,rfl,rfl,trivial⟩,rfl,rfl⟩
 ·have hb:zhk y=false:=hb;unfold zhV;rw[if_neg (by rw[hb];decide)];apply zab;refine za (za ?_);refine zaa hX zck rfl ?_ ?_
  ·exact⟨q0,q1⟩
  exact⟨rfl,trivial,⟨rfl,rfl,rfl,rfl,zfO hend,rfl,rfl,trivial⟩,rfl,rfl⟩
section
attribute [local go_sem] jU
def zhT:List (List UInt8)->Nat
 | []=>0
 |g::r=>g.length+1+zhT r
theorem zfV:∀ (s c:List UInt8),zhT (segF c s)=c.length+s.length+1
 | [],c=>by unfold segF zhT zhT;simp
 |x::r,c=>by
  unfold segF;split
  ·rw[zhT,zfV r []];simp;omega
  ·rw[zfV r];simp;omega
theorem zmN (s:List UInt8):zhT (segs s)=s.length+1:=by rw[segs,zfV];simp
theorem zn7 (y:List UInt8):GOk y (zbl y,0):=by
 have:=zgO (s:=y);unfold zh3 at this;rwa[zlN]at this
theorem zl5 {y:List UInt8} {k:Int} {er:Int×Int} (h:zgB y k= .error er):0≤er.1∧er.1≤((y.length:Nat):Int):=by
 have hg:=zn7 y;have he:Er y (gDef y (zbl y,0) k):=zaD (zcb hg) fun u hu=>zaD (zcb hg) fun _ _=>by
  have hc:=zbP hu;rw[beq_iff_eq]at hc;have k1:=zcx hg (by show Tok.cls (zbl y,(0:Int)).1≠0;rw[hc];decide);exact zaD (zew k1.1) fun a ha=>zaD (ztA (zbv k1.1 ha).1) fun _ _=>zdh
 unfold zgB at h;cases hd:gDef y (zbl y,0) k with
 |ok r=>rw[hd]at h;cases h
 |error e=>
  rw[hd]at h;cases h;exact he _ hd
theorem zoT {y:List UInt8} {k:Nat} {d:De} (h:zgB y (k:Int)= .ok d):k < 4096:=by
 unfold zgB at h;cases hd:gDef y (zbl y,0) (k:Int) with
 |error e=>rw[hd]at h;cases h
 |ok r=>
  obtain⟨u,_,h2⟩:=zaq hd;obtain⟨u2,h3,_⟩:=zaq h2;have h3:=zbP h3;rw[zf,decide_eq_true_iff,decide_eq_true_iff]at h3;omega
theorem znP {y:List UInt8} {fr:Nat} {acc acc':List De} (ha:acc.length≤4096) (h:zhV y fr acc= .ok acc'):acc'.length≤4096:=by
 unfold zhV at h;split at h
 ·split at h
  ·cases h
  ·split at h
   ·rename_i d hd;cases h;have:=zoT hd;rw[zh,xi];omega
   ·split at h
    ·cases h;exact ha
    ·cases h
 ·cases h;exact ha
abbrev XL (O:Nat->Prop) (fix:Nat->Nat) (D:List jd) (ρ:Option Nat):Ownr:={ G:=gmH,X:=O,K:=5,fix:=fix,D:=D,ρ:=ρ }
def sLE (fr:Nat) (acc:List De):Owns:=[(0,some (.hbox tD [⟨.lit,.slice none 0 0⟩])),(1,some (.box i64 (0:Int))),(2,some (.box i64 (0:Int))),(3,some (zoh 5)),(4,some (.box i64 (fr:Int))),(5,some (.buf 37 de acc))]
def lPF0:List (Nat×V):=[(2,⟨.hptr,((0:Nat),(0:Nat))⟩),(3,⟨.optr i64,⟨1,i64,.here⟩⟩),(4,⟨.optr i64,⟨2,i64,.here⟩⟩),(5,⟨.hptr,((3:Nat),(0:Nat))⟩),(6,⟨.optr i64,⟨4,i64,.here⟩⟩)]
def lRn:List (Nat×Nat):=[(0,0),(1,1),(2,2),(3,3),(4,4),(6,5),(5,6)]
theorem zo6 {B:zj} {O:Nat->Prop} {fix:Nat->Nat} {D:List jd} {ρ:Option Nat} (hX:(XL O fix D ρ).Ok B) (y:List UInt8) (fr:Nat) (acc:List De):
  AWP Tryz.prog B (XL O fix D ρ) 47 lAsgn ⟨(15,⟨.str,y⟩)::lPF0,sLE fr acc,6⟩ (fun e σ=>e= .normal∧Fit σ ⟨(2,⟨.hptr,((0:Nat),(0:Nat))⟩)::(3,⟨.optr i64,⟨1,i64,.here⟩⟩)::(4,⟨.optr i64,⟨2,i64,.here⟩⟩)::(5,⟨.hptr,((3:Nat),(0:Nat))⟩)::(6,⟨.optr i64,⟨4,i64,.here⟩⟩):: [(7,⟨.optr .str,⟨6,.str,.here⟩⟩)],(6,some (.box .str y))::sLE fr acc,7⟩):=by
 unfold lPF0 sLE;refine za (za ?_);refine zaa hX zck rfl ?_ ?_
 ·trivial
 exact⟨rfl,⟨rfl,rfl,rfl,rfl,rfl,rfl,trivial⟩,⟨rfl,rfl,rfl,rfl,rfl,rfl,rfl,trivial⟩,rfl,rfl⟩
noncomputable def lTail:Code:=match Tryz.f19.body.getD .skip with
 | .seq _ (.seq _ (.seq _ (.seq _ (.seq _ t))))=>t
 |c=>c
def sLT (acc:List De):AS:=⟨[(2,⟨.hptr,((0:Nat),(0:Nat))⟩),(3,⟨.optr i64,⟨1,i64,.here⟩⟩),(4,⟨.optr i64,⟨2,i64,.here⟩⟩)],[(0,some (.hbox tD [⟨.slice de,acc⟩])),(1,some (.box i64 (0:Int))),(2,some (.box i64 (0:Int)))],6⟩
theorem zoP {B:zj} {O:Nat->Prop} {fix:Nat->Nat} {D:List jd} (hX:(XL O fix D none).Ok B) (fr:Nat) (acc:List De):
  AWP Tryz.prog B (XL O fix D none) 47 lTail ⟨lPF0,sLE fr acc,6⟩ (fun e σ=>e= .ret∧Fit σ (sLT acc)):=by
 unfold lPF0 sLE sLT;refine AWP.frzL hX 3 0 ?_;(repeat(first|apply zaf|apply zab|apply zai|apply zad|apply zac|refine zaa hX zck rfl trivial ?_|refine zaa hX zck rfl id ?_|refine zaa hX zck rfl ⟨id,id⟩ ?_));exact zl ⟨rfl,⟨rfl,rfl,rfl,trivial⟩,⟨rfl,rfl,rfl,trivial⟩,rfl,rfl⟩
section
variable {B W:zj} {X:Ownr} {n:Nat} {σ:AS} {β:Nat->zi} {a:Act}
theorem zmA (h:Sim B X n σ β a W) {i:Nat} (hi:i < X.K) {t:Ty} {x:t.T} (hE:Owns.get σ.E i=some (.box t x)):∃ cs ty,W.heap[X.fix i]? =some (.cells (List.toArray cs) ty (0,0))∧RepC W (OSet X σ.E β) t x cs:=by
 obtain⟨g,cs,ty,q1,_,q2,q3⟩:=h.own i _ hE;have q4:=(h.fix.2 i hi).1;rw[q1]at q4;have q4:g=X.fix i:=by simpa [zah] using q4
 subst q4;exact⟨cs,ty,q2,q3⟩
theorem zpk (h:Sim B X n σ β a W) {i:Nat} (hi:i < X.K) {v:V} {ty:zq} (hE:Owns.get σ.E i=some (.hbox ty [v])):∃ u,W.heap[X.fix i]? =some (.cells #[u] ty (0,0))∧u.oneCell'=true∧RepV W (OSet X σ.E β) β v.t v.x u:=by
 obtain⟨g,cs,q1,_,q2,u,r,rfl,q5,q6,q7⟩:=h.own i _ hE;have q7:r=[]:=q7;subst q7;have q4:=(h.fix.2 i hi).1;rw[q1]at q4;have q4:g=X.fix i:=by simpa [zah] using q4
 subst q4;exact⟨u,q2,q5,q6⟩
theorem zmO {B A C:zj} {X X':Ownr} {n n':Nat} {σ σ':AS} {β β':Nat->zi} {a a':Act} {I:Nat->Prop} (h:Sim B X n σ β a A) (h':Sim B X' n' σ' β' a' C) (hR:∀ g,X'.R g->X.R g) (hX:X.Ok B) (hI:∀ g,I g->X g):SameOn I B.heap.size A C:=
 ⟨h'.bel.os.trans h.bel.os.symm,h'.bel.tape.trans h.bel.tape.symm,h'.bel.output.trans h.bel.output.symm,h'.bel.size,fun k hk=>
   have hx:=hX.1 k (hI k hk)
   (h'.bel.block k hx.1 fun hr=>hx.2 (hR k hr)).trans (h.bel.block k hx.1 hx.2).symm⟩
end
def zo9 (a:Act) (x:zi):Act:={ tmps:=((#[15]:Array Tmp).zip #[x]).foldl (fun t (p,v)=>t.setIfInBounds p v) a.tmps,defers:=[] }
theorem zdQ {a:Act} {x:zi} (hsz:a.tmps.size=47) (s:Nat):(zo9 a x).tmps.getD s undef=if 15=s then x else a.tmps.getD s undef:=by
 have:(zo9 a x).tmps=a.tmps.setIfInBounds 15 x:=by simp[zo9]
 rw[this];by_cases h:15=s
 ·subst h;rw[if_pos rfl];simp[zO,xP,hsz]
 ·rw[if_neg h];simp[zO,xP,h]
def nA:Act:={ tmps:=#[],defers:=[] }
section
variable {w w5:zj} {O:Nat->Prop} {N:Nat} {s:List UInt8} {t0 t1 t2 t3 t4:zq} {a5:Act}
def lI (N D:Nat) (g:Nat):Prop:=itI (N+5) (N+6) (N+7) g∨g=D∨g=D+1
def lO (O:Nat->Prop) (N D:Nat) (g:Nat):Prop:=O g∨lI N D g
def lFix (N:Nat) (i:Nat):Nat:=N+i
def lBB (w5:zj) (N:Nat) (B:zj):Prop:=B.heap.size=w5.heap.size+2∧Kept (lI N w5.heap.size) w5 B
theorem lR {N:Nat} {O':Nat->Prop} {D:List jd} {ρ:Option Nat} {g:Nat} (h:(XL O' (lFix N) D ρ).R g):N≤g∧g≤N+4:=by
 rcases h with ⟨i,hi,rfl⟩|h
 ·have hi:i < 5:=hi;show N≤N+i∧N+i≤N+4;omega
 ·exact False.elim h
theorem zo8 (hN:N=w.heap.size) (hs5:w5.heap.size=N+8) (hb5:yW w.heap.size w w5) {B:zj} (h:lBB w5 N B):yW w.heap.size w B:=
 ⟨h.2.os.trans hb5.os,h.2.tape.trans hb5.tape,h.2.output.trans hb5.output,zU hb5.size h.2.size,fun k hk=>(h.2.block k (zK hk hb5.size) (by unfold lI itI;omega)).trans (hb5.block k hk)⟩
theorem zlf (hN:N=w.heap.size) (hs5:w5.heap.size=N+8) (hb5:yW w.heap.size w w5) {B W:zj} (h:lBB w5 N B) {O':Nat->Prop} {D:List jd} {ρ:Option Nat} (hk:Kept (XL O' (lFix N) D ρ).R B W):yW w.heap.size w W:=
 have hb:=zo8 hN hs5 hb5 h
 ⟨hk.os.trans hb.os,hk.tape.trans hb.tape,hk.output.trans hb.output,zU hb.size hk.size,fun k hkl=>(hk.block k (zK hkl hb.size) fun hr=>by have:=(lR hr).1;omega).trans (hb.block k hkl)⟩
theorem lX_ok (hN:N=w.heap.size) (hO:∀ g,O g->g < w.heap.size) (hG:gmH w) (hs5:w5.heap.size=N+8) (hb5:yW w.heap.size w w5) {B:zj} (h:lBB w5 N B) (D:List jd) (ρ:Option Nat):(XL (lO O N w5.heap.size) (lFix N) D ρ).Ok B:=by
 have hs:=h.1;refine⟨fun g hg=>?_,fun g hg=>?_,fun w' hk=>zhv _ _ hG (zlf hN hs5 hb5 h hk)⟩
 ·have hg:O g∨(g=N+5∨g=N+6∨g=N+7)∨g=w5.heap.size∨g=w5.heap.size+1:=hg;refine⟨?_,fun hr=>?_⟩
  ·rcases hg with h1|h1
   ·have:=hO g h1;omega
   ·omega
  ·have:=lR hr;rcases hg with h1|h1
   ·have:=hO g h1;omega
   ·omega
 ·have:=lR hg;omega
theorem lX_inv (hN:N=w.heap.size) (hG:gmH w) {O':Nat->Prop} {D:List jd} {ρ:Option Nat} {B:zj} (ty:zq):ginv B (XL O' (lFix N) D ρ).R ty:=by
 have hl:=zmf hG;exact⟨fun h=>by have:=lR h;omega,fun h=>by have:=lR h;omega⟩
def lJ (w5:zj) (O:Nat->Prop) (N:Nat) (s:List UInt8) (k:Nat) (W:zj):Prop:=∃ (B:zj) (β:Nat->zi) (acc:List De) (fr:Nat),lBB w5 N B∧Sim B (XL (lO O N w5.heap.size) (lFix N) [] none) 0 ⟨[],sLE fr acc,6⟩ β nA W∧acc.length≤4096∧k≤(segs s).length∧fr+zhT ((segs s).drop k)≤s.length+1∧libK ((segs s).drop k) fr acc=za6 s
def lN (w5:zj) (O:Nat->Prop) (N:Nat) (s:List UInt8) (k:Nat) (y:List UInt8) (a':Act) (W:zj):Prop:=∃ (B:zj) (β:Nat->zi) (acc:List De) (fr:Nat),lBB w5 N B∧Sim B (XL (lO O N w5.heap.size) (lFix N) [] none) 47 ⟨lPF,libE y (fr:Int) acc,7⟩ β a' W∧acc.length≤4096∧k≤(segs s).length∧fr+zhT ((segs s).drop k)≤s.length+1∧libK ((segs s).drop k) fr acc=za6 s
def lJr (w5:zj) (O:Nat->Prop) (N:Nat) (s:List UInt8) (W:zj):Prop:=∃ (er:Int×Int) (B:zj) (β:Nat->zi),za6 s=([],er.1,er.2)∧lBB w5 N B∧Sim B (XL (lO O N w5.heap.size) (lFix N) [] none) 0 ⟨[],lRE er.1 er.2,7⟩ β nA W
theorem zoU {tmps:Array zi} {g2 g3 g4:Nat} {W:zj} {u:zi} {x y:Int} {t2 t3 t4:zq} (hu:u.oneCell'=true) (h2:tmps.getD 2 undef= .pointer (some ⟨g2,0,none⟩)) (h3:tmps.getD 3 undef= .pointer (some ⟨g3,0,none⟩)) (h4:tmps.getD 4 undef= .pointer (some ⟨g4,0,none⟩))
  (c2:W.heap[g2]? =some (.cells #[u] t2 (0,0))) (c3:W.heap[g3]? =some (.cells #[.int .i64 x] t3 (0,0))) (c4:W.heap[g4]? =some (.cells #[.int .i64 y] t4 (0,0))):
  (results Tryz.f19 tmps).run Tryz.prog W= .ok (.tuple #[u,.int .i64 x,.int .i64 y]) W:=by
 have d2:=(zaY c2).1;have d3:=(zaY c3).1;have d4:=(zaY c4).1;rw[zO]at h2 h3 h4;simp[results,Tryz.f19,go_sem,h2,h3,h4,d2,d3,d4]
abbrev zsq:Ty:=.tup (.slice de) (.tup i64 (.tup i64 .unit))
theorem zoo {w:zj} {O:Nat->Prop} {acc:List De} {x y:Int} {u:zi} (hu:RepD w O (.slice de) acc u):zdy w O 0 none zsq (acc,x,y,()) (.tuple #[u,.int .i64 x,.int .i64 y]):=fun β=>
 ⟨[_,_,_],rfl,_,_,rfl,hu,_,_,rfl,rfl,_,_,rfl,rfl,rfl⟩
def ldco (D:Nat):jd:={ target:=.collected D,args:=#[] }
def zny (w:zj) (O:Nat->Prop) (r:List De×Int×Int) (e:Ending) (w':zj):Prop:=∃ v,e= .returned v∧yW w.heap.size w w'∧zdy w' O w.heap.size none zsq (r.1,r.2.1,r.2.2,()) v
theorem lfin {W:zj} {O':Nat->Prop} {tmps:Array zi} {D:Nat} {u:zi} {x y:Int} {acc:List De} (hN:N=w.heap.size) (hO:∀ g,O g->O' g) (hD:O' D) (hlt:N+2 < D) (hbel:yW w.heap.size w W) (hd:W.heap[D]? =some (.deferred (some []))) (hu:u.oneCell'=true) (h2:tmps.getD 2 undef= .pointer (some ⟨N,0,none⟩)) (h3:tmps.getD 3 undef= .pointer (some ⟨N+1,0,none⟩)) (h4:tmps.getD 4 undef= .pointer (some ⟨N+2,0,none⟩))
  (c2:W.heap[N]? =some (.cells #[u] t2 (0,0))) (c3:W.heap[N+1]? =some (.cells #[.int .i64 x] t3 (0,0))) (c4:W.heap[N+2]? =some (.cells #[.int .i64 y] t4 (0,0))) (hr:RepD W O' (.slice de) acc u):
  LeavesInM yD 1 Tryz.prog Tryz.f19 tmps (zny w O (acc,x,y)) [ldco D] .returning W:=by
 refine⟨(by intro h;cases h),.inl ⟨D,_,rfl,run_takeDeferred hd,?_⟩⟩;have hk:Kept (fun g=>g=D) W (W.putObj D (.deferred none)):=zcY _ rfl;have hlD:=(zp.1 hd).1;have hl:∀ g (o:Obj),W.heap[g]? =some o->g≠D->(W.putObj D (.deferred none)).heap[g]? =some o:=fun g o hg hne=>(hk.block g (zp.1 hg).1 hne).trans hg;refine⟨_,zoU hu h2 h3 h4 (hl _ _ c2 (by omega)) (hl _ _ c3 (by omega)) (hl _ _ c4 (by omega)),_,rfl,?_,?_⟩
 ·refine⟨hk.os.trans hbel.os,hk.tape.trans hbel.tape,hk.output.trans hbel.output,zU hbel.size hk.size,fun k hkl=>?_⟩;have h1:k < W.heap.size:=zK hkl hbel.size;exact (hk.block k h1 (by omega)).trans (hbel.block k hkl)
 ·exact zoo (RepD.keep ⟨hk.size,fun g hg hn=>hk.block g hg fun e=>hn (e▸hD),fun g _ hg=>hO g hg⟩ hr)
end
end
section
attribute [local go_sem] jU
section
variable {w w5:zj} {O:Nat->Prop} {N:Nat} {s:List UInt8} {t0 t1 t2 t3 t4:zq} {a5:Act}
theorem ziT {B W:zj} {O':Nat->Prop} {D:List jd} {ρ:Option Nat} {n:Nat} {σ:AS} {β:Nat->zi} {a:Act} (h:Sim B (XL O' (lFix N) D ρ) n σ β a W) {E:Owns} {m:Nat} (hf:Fit σ ⟨[],E,m⟩) (hm:5≤m):Sim B (XL O' (lFix N) [] none) 0 ⟨[],E,m⟩ β nA W:=
 (h.fit hf hm).act (X':=XL O' (lFix N) [] none) (a':=nA) rfl rfl rfl rfl rfl (F:=[]) zfY rfl
theorem zoW {y:List UInt8} {r:List (List UInt8)} {fr:Nat} {acc:List De}:libK (y::r) fr acc=match zhV y fr acc with
 | .error e=>([],e.1,e.2)
 | .ok acc'=>libK r (fr+y.length+1) acc':=rfl
set_option maxHeartbeats 1000000 in
theorem zoV (hN:N=w.heap.size) (hO:∀ g,O g->g < w.heap.size) (hG:gmH w) (hlen:s.length≤1048576) (hs5:w5.heap.size=N+8) (hb5:yW w.heap.size w w5)
  (b0:w5.heap[N]? =some (.cells #[.slice none 0 0] tD (0,0))) (b1:w5.heap[N+1]? =some (.cells #[.int .i64 0] t1 (0,0))) (b2:w5.heap[N+2]? =some (.cells #[.int .i64 0] t2 (0,0))) (b3:w5.heap[N+3]? =some (.cells #[.slice none 0 0] tD (0,0))) (b4:w5.heap[N+4]? =some (.cells #[.int .i64 0] t4 (0,0)))
  (i0:w5.heap[N+5]? =some (.cells #[.string ⟨s.toArray⟩] 9 (0,0))) (i1:w5.heap[N+6]? =some (.cells #[.string ⟨#[10]⟩] 9 (0,0))) (i2:w5.heap[N+7]? =some (.cells #[.int .i64 0] 3 (0,0)))
  (hsz:a5.tmps.size=47) (e2:a5.tmps.getD 2 undef= .pointer (some ⟨N,0,none⟩)) (e3:a5.tmps.getD 3 undef= .pointer (some ⟨N+1,0,none⟩)) (e4:a5.tmps.getD 4 undef= .pointer (some ⟨N+2,0,none⟩)) (e5:a5.tmps.getD 5 undef= .pointer (some ⟨N+3,0,none⟩)) (e6:a5.tmps.getD 6 undef= .pointer (some ⟨N+4,0,none⟩))
  (e14:a5.eval (.tmp 14)= .func (.func 145) #[] #[.pointer (some ⟨N+6,0,none⟩),.pointer (some ⟨N+5,0,none⟩),.pointer (some ⟨N+7,0,none⟩)]) (hdf:a5.defers=[]):
  zfS Tryz.prog 19 (.rangeFunc (.tmp 14) #[15] lAsgn lBody) (fun e a w'=>(e= .normal∨e= .ret)∧Exit.then (zfS Tryz.prog 19 lTail (bodyPostM yD 1 Tryz.prog Tryz.f19 (zny w O (za6 s)))) (bodyPostM yD 1 Tryz.prog Tryz.f19 (zny w O (za6 s))) e a w') a5 w5:=by
 have hP:za6 s=libK (segs s) 0 []:=if_neg (by omega);have hXok:∀ B D ρ,lBB w5 N B->(XL (lO O N w5.heap.size) (lFix N) D ρ).Ok B:=fun B D ρ h=>lX_ok hN hO hG hs5 hb5 h D ρ;have hsame:∀ {B A C:zj} {ρ ρ':Option Nat} {D D':List jd} {n n':Nat} {σ σ':AS} {β β':Nat->zi} {a a':Act},lBB w5 N B->Sim B (XL (lO O N w5.heap.size) (lFix N) D ρ) n σ β a A->Sim B (XL (lO O N w5.heap.size) (lFix N) D' ρ') n' σ' β' a' C->SameOn (lI N w5.heap.size) (w5.heap.size+2) A C:=fun hBB h h'=>by
  have:=zmO h h' (fun g hr=>hr) (hXok _ _ _ hBB) (I:=lI N w5.heap.size) (fun g hg=>.inr hg);rwa[hBB.1]at this
 refine zhR (m:=1) e14 Tryz.call145 (zkR (N+5) (N+6) (N+7) s w5 (by omega) (by omega) i0 i1 i2) (zP _ _) ?_ (lJ w5 O N s) (lJr w5 O N s) (lN w5 O N s) ?_ ?_ ?_ ?_ ?_ ?_ ?_ ?_
 ·intro k hk;have hk:k=N+5∨k=N+6∨k=N+7:=hk;omega
 ·rintro k A C ⟨B,β,acc,fr,hBB,hS,h1,h2,h3,h4⟩ hk;obtain⟨B',hs',hk',hS'⟩:=hS.outside (hXok _ _ _ hBB) (I:=lI N w5.heap.size) (fun g hg=>.inr hg) hk;exact⟨B',β,acc,fr,⟨hs'.trans hBB.1,hBB.2.trans hk'⟩,hS',h1,h2,h3,h4⟩
 ·rintro A C ⟨er,B,β,hpe,hBB,hS⟩ hk;obtain⟨B',hs',hk',hS'⟩:=hS.outside (hXok _ _ _ hBB) (I:=lI N w5.heap.size) (fun g hg=>.inr hg) hk;exact⟨er,B',β,hpe,⟨hs'.trans hBB.1,hBB.2.trans hk'⟩,hS'⟩
 ·rintro k y a' A C ⟨B,β,acc,fr,hBB,hS,h1,h2,h3,h4⟩ hk;obtain⟨B',hs',hk',hS'⟩:=hS.outside (hXok _ _ _ hBB) (I:=lI N w5.heap.size) (fun g hg=>.inr hg) hk;exact⟨B',β,acc,fr,⟨hs'.trans hBB.1,hBB.2.trans hk'⟩,hS',h1,h2,h3,h4⟩
 ·intro W1 hb hs1;have hBB:lBB w5 N W1:=⟨hs1,⟨hb.os,hb.tape,hb.output,hb.size,fun k hk _=>hb.block k hk⟩⟩;have hl:∀ g (o:Obj),w5.heap[g]? =some o->W1.heap[g]? =some o:=fun g o hg=>(hb.block g (zp.1 hg).1).trans hg
  let β:Nat->zi:=fun i=>.pointer (some ⟨lFix N i,0,none⟩)
  have hS0:Sim W1 (XL (lO O N w5.heap.size) (lFix N) [] none) 0 ⟨[],[(0,some (.hbox tD [⟨.lit,.slice none 0 0⟩])),(1,some (.box i64 (0:Int))),(2,some (.box i64 (0:Int))),(3,some (.hbox tD [⟨.lit,.slice none 0 0⟩])),(4,some (.box i64 (0:Int)))],5⟩ β nA W1:=by
   refine Sim.boxes (X:=XL (lO O N w5.heap.size) (lFix N) [] none) rfl rfl (fun i _=>rfl) ?_ ?_ zfY rfl
   ·intro i j hi hj hij;have hij:N+i=N+j:=hij;omega
   ·intro i o h;rw[zag]at h;split at h
    ·rename_i hi;subst hi;cases h;exact⟨by show 0 < 5;omega,rfl,⟨N,[_],rfl,zn _,hl _ _ b0,_,[],rfl,rfl,rfl,rfl⟩,fun vs e v hv=>by cases e;rw[zy]at hv;subst hv;exact zn _⟩
    rw[zag]at h;split at h
    ·rename_i _ hi;subst hi;cases h;exact⟨by show 1 < 5;omega,rfl,⟨N+1,[_],_,rfl,zn _,hl _ _ b1,rfl⟩,fun vs e=>by cases e⟩
    rw[zag]at h;split at h
    ·rename_i _ _ hi;subst hi;cases h;exact⟨by show 2 < 5;omega,rfl,⟨N+2,[_],_,rfl,zn _,hl _ _ b2,rfl⟩,fun vs e=>by cases e⟩
    rw[zag]at h;split at h
    ·rename_i _ _ _ hi;subst hi;cases h;exact⟨by show 3 < 5;omega,rfl,⟨N+3,[_],rfl,zn _,hl _ _ b3,_,[],rfl,rfl,rfl,rfl⟩,fun vs e v hv=>by cases e;rw[zy]at hv;subst hv;exact zn _⟩
    rw[zag]at h;split at h
    ·rename_i _ _ _ _ hi;subst hi;cases h;exact⟨by show 4 < 5;omega,rfl,⟨N+4,[_],_,rfl,zn _,hl _ _ b4,rfl⟩,fun vs e=>by cases e⟩
    ·cases h
  obtain⟨β',hS1⟩:=kW 3 0 37 de rfl rfl rfl _ _ _ hS0;refine⟨W1,β',[],0,hBB,ziT hS1 ⟨trivial,⟨rfl,rfl,rfl,rfl,rfl,rfl,trivial⟩,rfl,rfl⟩ (by omega),by simp,zn _,?_,hP.symm⟩;rw[List.drop_zero,zmN];omega
 ·rintro l k y W ⟨B,β,acc,fr,hBB,hS,h1,h2,h3,h4⟩ hy hsz2;obtain⟨hkl,hyk⟩:=zD.1 hy;have hd:(segs s).drop k=y::(segs s).drop (k+1):=by rw[<-hyk];exact yG hkl
  have h3':=h3;rw[hd,zhT]at h3';have hb:=fun k (hk:k < 5)=>(hS.fix.2 k hk).1;have hsim:=hS.act (X':=XL (lO O N w5.heap.size) (lFix N) [] (some l)) (m:=47) (a':=zo9 a5 (.string ⟨y.toArray⟩)) rfl rfl rfl (by simp[zo9,hsz]) rfl (F:=(15,⟨.str,y⟩)::lPF0) (zbE (by rw[zdQ hsz];exact⟨rfl,by show y.length≤maxLen;unfold maxLen;omega⟩) (zbE ⟨_,hb 0 (by omega),by rw[zdQ hsz];exact e2⟩ (zbE ⟨_,hb 1 (by omega),by rw[zdQ hsz];exact e3⟩ (zbE ⟨_,hb 2 (by omega),by rw[zdQ hsz];exact e4⟩ (zbE ⟨_,hb 3 (by omega),by rw[zdQ hsz];exact e5⟩ (zbE ⟨_,hb 4 (by omega),by rw[zdQ hsz];exact e6⟩ zfY)))))) rfl;refine yR (zo6 (hXok B [] (some l) hBB) y fr acc β _ W hsim) ?_;rintro e a' W' ⟨σ',β',h',rfl,hf⟩;have hso:=hsame hBB hS h';have h6:=h'.fit hf (by show 5≤7;omega);have h7:=h6.renameK (L:=lRn) (m:=7) rfl rfl (by show 5≤7;omega) rfl rfl;refine⟨rfl,⟨B,_,acc,fr,hBB,(h7.fit (σ':=⟨lPF,libE y (fr:Int) acc,7⟩) ⟨⟨rfl,rfl,rfl,rfl,rfl,rfl,trivial⟩,⟨rfl,rfl,rfl,rfl,rfl,rfl,rfl,trivial⟩,rfl,rfl⟩ (by show 5≤7;omega)).act (X':=XL (lO O N w5.heap.size) (lFix N) [] none) rfl rfl rfl h7.sz h7.df (fun sl=>(h7.fit (σ':=⟨lPF,libE y (fr:Int) acc,7⟩) ⟨⟨rfl,rfl,rfl,rfl,rfl,rfl,trivial⟩,⟨rfl,rfl,rfl,rfl,rfl,rfl,rfl,trivial⟩,rfl,rfl⟩ (by show 5≤7;omega)).fr sl) rfl,h1,h2,h3,h4⟩,hso⟩
 ·rintro l k y W a' hy hsz2 ⟨B,β,acc,fr,hBB,hS,h1,h2,h3,h4⟩;obtain⟨hkl,hyk⟩:=zD.1 hy;have hd:(segs s).drop k=y::(segs s).drop (k+1):=by rw[<-hyk];exact yG hkl
  rw[hd,zhT]at h3;rw[hd,zoW]at h4;have hsim:=hS.act (X':=XL (lO O N w5.heap.size) (lFix N) [] (some l)) rfl rfl rfl hS.sz hS.df hS.fr rfl;refine yR (zq4 (by omega) (by omega) (by omega) (hXok B [] (some l) hBB) rfl rfl (fun ty=>lX_inv hN hG ty) (fun er he=>⟨(zl5 he).1,by have:=(zl5 he).2;omega⟩) β _ W hsim) ?_;rintro e a3 W' ⟨σ',β',h',hR⟩;have hso:=hsame hBB hS h';refine⟨?_,hso⟩;cases hst:zhV y fr acc with
  |error er=>
   rw[hst]at hR h4;obtain⟨rfl,hf⟩:=hR;exact .inr ⟨rfl,er,B,β',h4.symm,hBB,ziT h' hf (by omega)⟩
  |ok acc'=>
   rw[hst]at hR h4;obtain⟨rfl,hf⟩:=hR;have h6:=(h'.fit hf (by show 5≤7;omega)).fit (σ':=⟨[],[(0,some (.hbox tD [⟨.lit,.slice none 0 0⟩])),(1,some (.box i64 (0:Int))),(2,some (.box i64 (0:Int))),(3,some (zoh 6)),(4,some (.box i64 ((fr+y.length+1:Nat):Int))),(6,some (.buf 37 de acc'))],7⟩) ⟨trivial,⟨rfl,rfl,rfl,rfl,rfl,rfl,trivial⟩,rfl,rfl⟩ (by show 5≤7;omega);have h7:=h6.renameK (L:=lRn) (m:=6) rfl rfl (by show 5≤6;omega) rfl rfl;exact .inl ⟨rfl,B,_,acc',fr+y.length+1,hBB,ziT h7 ⟨trivial,⟨rfl,rfl,rfl,rfl,rfl,rfl,trivial⟩,rfl,rfl⟩ (by omega),znP h1 hst,hkl,by omega,h4⟩
 ·rintro W ⟨B,β,acc,fr,hBB,hS,h1,h2,h3,h4⟩ hdef;refine⟨.inl rfl,?_⟩;rw[jf]at h4;have h4:(acc,(0:Int),(0:Int))=za6 s:=h4;have hb:=fun k (hk:k < 5)=>(hS.fix.2 k hk).1;have hsim:=hS.act (X':=XL (lO O N w5.heap.size) (lFix N) [ldco w5.heap.size] none) (m:=47) (a':={ a5 with defers:={ target:=.collected w5.heap.size,args:=#[] }::a5.defers }) rfl rfl rfl hsz (by rw[hdf];rfl) (F:=lPF0) (zbE ⟨_,hb 0 (by omega),e2⟩ (zbE ⟨_,hb 1 (by omega),e3⟩ (zbE ⟨_,hb 2 (by omega),e4⟩ (zbE ⟨_,hb 3 (by omega),e5⟩ (zbE ⟨_,hb 4 (by omega),e6⟩ zfY))))) rfl;refine zcv (m:=0) (yR (zoP (hXok _ _ _ hBB) fr acc β _ W hsim) ?_);rintro e a' W' ⟨σ',β',h',rfl,hf⟩;have h6:=h'.fit hf (by show 5≤6;omega);have hso:=hsame hBB hS h6;obtain⟨u,q0,q1,hu⟩:=zpk h6 (i:=0) (by show 0 < 5;omega) rfl;obtain⟨c1,y1,q2,q3⟩:=zmA h6 (i:=1) (by show 1 < 5;omega) rfl;obtain⟨c2,y2,q4,q5⟩:=zmA h6 (i:=2) (by show 2 < 5;omega) rfl;have q3:c1=[.int .i64 0]:=q3;have q5:c2=[.int .i64 0]:=q5;subst q3;subst q5;have hb6:=fun k (hk:k < 5)=>(h6.fix.2 k hk).1;have k2:a'.tmps.getD 2 undef= .pointer (some ⟨N,0,none⟩):=by
   obtain⟨g,r1,r2⟩:∃ g,zah (β' 0)=some g∧a'.tmps.getD 2 undef= .pointer (some ⟨g,0,none⟩):=h6.fr 2;rw[hb6 0 (by omega)]at r1;cases r1;exact r2
  have k3:a'.tmps.getD 3 undef= .pointer (some ⟨N+1,0,none⟩):=by
   obtain⟨g,r1,r2⟩:∃ g,zah (β' 1)=some g∧a'.tmps.getD 3 undef= .pointer (some ⟨g,0,none⟩):=h6.fr 3;rw[hb6 1 (by omega)]at r1;cases r1;exact r2
  have k4:a'.tmps.getD 4 undef= .pointer (some ⟨N+2,0,none⟩):=by
   obtain⟨g,r1,r2⟩:∃ g,zah (β' 2)=some g∧a'.tmps.getD 4 undef= .pointer (some ⟨g,0,none⟩):=h6.fr 4;rw[hb6 2 (by omega)]at r1;cases r1;exact r2
  show LeavesInM yD 1 Tryz.prog Tryz.f19 a'.tmps (zny w O (za6 s)) a'.defers .returning W';rw[h6.df, <-h4];exact lfin hN (O':=OSet (XL (lO O N w5.heap.size) (lFix N) [ldco w5.heap.size] none) (sLT acc).E β') (fun g hg=>.inl (.inl hg)) (.inl (.inr (.inr (.inl rfl)))) (by omega) (zlf hN hs5 hb5 hBB h6.bel) ((hso.block _ (.inr (.inl rfl))).trans hdef) q1 k2 k3 k4 q0 q2 q4 hu
 ·rintro W ⟨er,B,β,hpe,hBB,hS⟩ hdef;refine⟨.inr rfl,?_⟩;obtain⟨u,q0,q1,hu⟩:=zpk hS (i:=0) (by show 0 < 5;omega) rfl;have hu:u= .slice none 0 0:=hu;subst hu;obtain⟨c1,y1,q2,q3⟩:=zmA hS (i:=1) (by show 1 < 5;omega) rfl;obtain⟨c2,y2,q4,q5⟩:=zmA hS (i:=2) (by show 2 < 5;omega) rfl;have q3:c1=[.int .i64 er.1]:=q3;have q5:c2=[.int .i64 er.2]:=q5;subst q3;subst q5;show LeavesInM yD 1 Tryz.prog Tryz.f19 a5.tmps (zny w O (za6 s)) (ldco w5.heap.size::a5.defers) .returning W;rw[hdf,hpe];exact lfin (acc:=[]) hN (O':=OSet (XL (lO O N w5.heap.size) (lFix N) [] none) (lRE er.1 er.2) β) (fun g hg=>.inl (.inl hg)) (.inl (.inr (.inr (.inl rfl)))) (by omega) (zlf hN hs5 hb5 hBB hS.bel) hdef q1 e2 e3 e4 q0 q2 q4 ⟨_,rfl,.inl ⟨rfl,none,0,rfl,zn _⟩⟩
end
end
section
attribute [local go_sem] jU
theorem zju {P:Program} {f:zT} {Q:Exit->Act->zj->Prop} {a:Act} {w:zj} {id:Nat} {c:Code} (h:zfS P f c (fun e a w=>(e= .normal∨e= .ret)∧Q e a w) a w):zfS P f (.block id c) Q a w:=by
 intro b k cs hb hro;have h0:(lone (b.atR a (.code (.block id c)::k)) cs w).fenced P yD:=fenced_wide P _;obtain⟨e,a1,w1,⟨he,hq⟩,harr⟩:=h b (.inBlock id::k) cs hb hro;rcases he with rfl|rfl
 ·exact⟨.normal,a1,w1,hq,.head h0 stepR_block (k8 harr (.one (fenced_wide P _) stepR_inBlock))⟩
 ·exact⟨_,a1,w1,hq,.of_steps (.one h0 stepR_block) harr⟩
noncomputable def zpO:Ctr:={ args:=[.str],pre:=fun _=>[],res:=zsq,own:=none,out:=fun x=>((za6 x.1).1,(za6 x.1).2.1,(za6 x.1).2.2,()) }
set_option maxHeartbeats 1000000 in
theorem zkY:yk Tryz.prog gmH 19 zpO:=by
 refine⟨Tryz.call19,fun w O xs vs hO hr hp hG=>?_⟩;obtain⟨(s:List UInt8),_⟩:=xs;obtain⟨v1,r1,rfl,e1,rfl⟩:=hr;have e1: [v1]=[Value.string ⟨s.toArray⟩]∧s.length≤maxLen:=e1;obtain⟨e1,hmax⟩:=e1;cases e1;refine callsIn_wide.1 (zeX (m:=1) Tryz.func19 rfl ?_);simp only[Tryz.ntmps19,qp,zs,ya,Nat.reduceAdd,Nat.reduceSub,vw,vy,kj,vB,yV,xU];change zfS _ _ _ (bodyPostM yD 1 Tryz.prog Tryz.f19 (zny w O (za6 s))) _ _;generalize hQ:bodyPostM yD 1 Tryz.prog Tryz.f19 _=Q;refine zcn (zcv (m:=1) ?_)
 gi_wp2
 refine zcn (zcv (m:=1) ?_)
 gi_wp2
 ·rename_i hlong;have hP:za6 s=([],0,2):=if_pos (by omega);rw[<-hQ,hP];refine⟨_,zoU (g2:=w.heap.size) (g3:=w.heap.size+1) (g4:=w.heap.size+1+1) (u:=.slice none 0 0) (x:=0) (y:=2) (t2:=tD) (t3:=3) (t4:=25) rfl rfl rfl rfl ?_ ?_ ?_,_,rfl,((((zP _ w).alloc (zk _) _).alloc (by simp) _).alloc (by simp;omega) _),zoo (acc:=[]) ⟨_,rfl,.inl ⟨rfl,none,0,rfl,zn _⟩⟩⟩
  ·exact zaV _ (zaV _ (zbX _ rfl))
  ·exact zaV _ (zbX _ (by simp))
  ·exact zbX _ (by simp)
 rename_i hshort;have hlen:s.length≤1048576:=by omega
 refine zcn (zcv (m:=1) ?_)
 gi_wp2
 refine zcn (zcv (m:=1) ?_)
 gi_wp2
 refine zcn (zcn (zcv (m:=1) ?_))
 gi_wp2
 refine⟨trivial,(callsIn_wide.2 (ziP _ _ _)).mono ?_⟩;rintro e w' ⟨rfl,rfl⟩
 gi_wp2
 refine zju ?_;obtain⟨w4,hw4⟩:∃ w4:zj,w4=(((((w.alloc (.cells #[.slice none 0 0] tD)).alloc (.cells #[.int .i64 0] 3)).alloc (.cells #[.int .i64 0] 25)).alloc (.cells #[.slice none 0 0] tD)).alloc (.cells #[.int .i64 0] 3)):=⟨_,rfl⟩;rw[<-hw4, <-hQ];have hs4:w4.heap.size=w.heap.size+5:=by rw[hw4];simp
 have hb4:yW w.heap.size w w4:=by rw[hw4];exact ((((((zP _ w).alloc (zk _) _).alloc (by simp) _).alloc (by simp;omega) _).alloc (by simp;omega) _).alloc (by simp;omega) _)
 have b0:w4.heap[w.heap.size]? =some (.cells #[.slice none 0 0] tD (0,0)):=by rw[hw4];exact zaV _ (zaV _ (zaV _ (zaV _ (zbX _ rfl))))
 have b1:w4.heap[w.heap.size+1]? =some (.cells #[.int .i64 0] 3 (0,0)):=by rw[hw4];exact zaV _ (zaV _ (zaV _ (zbX _ (by simp))))
 have b2:w4.heap[w.heap.size+2]? =some (.cells #[.int .i64 0] 25 (0,0)):=by rw[hw4];exact zaV _ (zaV _ (zbX _ (by simp)))
 have b3:w4.heap[w.heap.size+3]? =some (.cells #[.slice none 0 0] tD (0,0)):=by rw[hw4];exact zaV _ (zbX _ (by simp))
 have b4:w4.heap[w.heap.size+4]? =some (.cells #[.int .i64 0] 3 (0,0)):=by rw[hw4];exact zbX _ (by simp)
 have hb5:yW w.heap.size w (itW w4 ⟨s.toArray⟩ ⟨#[10]⟩):=hb4.trans ((((zP _ w4).alloc (zk _) _).alloc (by simp) _).alloc (by simp;omega) _ |>.mono hb4.size);have i0:(itW w4 ⟨s.toArray⟩ ⟨#[10]⟩).heap[w.heap.size+5]? =some (.cells #[.string ⟨s.toArray⟩] 9 (0,0)):=zaV _ (zaV _ (zbX _ hs4));have i1:(itW w4 ⟨s.toArray⟩ ⟨#[10]⟩).heap[w.heap.size+6]? =some (.cells #[.string ⟨#[10]⟩] 9 (0,0)):=zaV _ (zbX _ (by simp[hs4]));have i2:(itW w4 ⟨s.toArray⟩ ⟨#[10]⟩).heap[w.heap.size+7]? =some (.cells #[.int .i64 0] 3 (0,0)):=zbX _ (by simp[hs4]);have hs5:(itW w4 ⟨s.toArray⟩ ⟨#[10]⟩).heap.size=w.heap.size+8:=by simp[itW,hs4]
 have hit:itV w4= .func (.func 145) #[] #[.pointer (some ⟨w.heap.size+6,0,none⟩),.pointer (some ⟨w.heap.size+5,0,none⟩),.pointer (some ⟨w.heap.size+7,0,none⟩)]:=by unfold itV;rw[hs4]
 have hl:∀ g (o:Obj),w4.heap[g]? =some o->(itW w4 ⟨s.toArray⟩ ⟨#[10]⟩).heap[g]? =some o:=fun g o hg=>zaV _ (zaV _ (zaV _ hg));exact zoV rfl hO hG hlen hs5 hb5 (hl _ _ b0) (hl _ _ b1) (hl _ _ b2) (hl _ _ b3) (hl _ _ b4) i0 i1 i2 rfl rfl rfl rfl rfl rfl hit rfl
end
section
set_option maxRecDepth 10000
def tx_sA:List UInt8:=[100,97,121,115,32,55,32,51,32,111,114,32,40,64,102,114,101,101,32,115,104,105,102,116,32,45,49,41]
def tx_sB:List UInt8:=[35,32,104,111,108,105,100,97,121,115,10,102,114,101,101,32,61,32,119,101,101,107,100,97,121,115,32,40,53,32,54,41,10,10,111,114,32,61,32,64,102,114,101,101,32,115,104,105,102,116,32,49]
def tx_sC:List UInt8:=[102,114,101,101,32,119,101,101,107,100,97,121,115,32,40,53,41]
def zjA:List UInt8:=[100,97,121,115,32,55,32,51,32,111,114,32,64,102,114,101,101,32,115,104,105,102,116,32,45,49]
def zqh:List UInt8:=[102,114,101,101,32,61,32,119,101,101,107,100,97,121,115,32,40,53,32,54,41,10,111,114,32,61,32,64,102,114,101,101,32,115,104,105,102,116,32,49,10]
def zsw:List UInt8:=[100,97,121,115,32,48,32,51]
def zsv:List UInt8:=[109,111,110,116,104,115,32,48,32,40,50,32,50,41]
def zsu:List UInt8:=[100,97,121,115,32,48,55,32,51]
def zst:List UInt8:=[119,101,101,107,100,97,121,115,32,40,41]
def zss:List UInt8:=[100,97,121,115,32,55]
def zsr:List UInt8:=[]
def zfk:List UInt8:=[102,114,101,101]
def znG:List UInt8:=[111,114]
def sanR:List Nd:=[(1,0,0,0,7,3,[],[],()),(18,0,0,0,0,0,[],zfk,()),(11,0,1,0,-1,0,[],[],()),(9,0,0,2,0,0,[],[],())]
def sanL:List De:=[(zfk,[(5,0,0,0,0,0,[5,6],[],())],()),(znG,[(18,0,0,0,0,0,[],zfk,()),(11,0,0,0,1,0,[],[],())],())]
theorem sanA:zbJ tx_sA=(sanR,0,0):=by kernel_rfl
theorem san1:zbJ zsw=([],5,1):=by kernel_rfl
theorem san2:zbJ zsv=([],12,1):=by kernel_rfl
theorem san3:zbJ zsu=([],5,3):=by kernel_rfl
theorem san4:zbJ zst=([],10,3):=by kernel_rfl
theorem san5:zbJ zss=([],6,3):=by kernel_rfl
theorem san6:zbJ zsr=([],0,3):=by kernel_rfl
theorem sanF:fmtS sanR=(zjA,0):=by kernel_rfl
theorem sanN:fmtS []=([],1):=by kernel_rfl
theorem sanG:zaG sanL=(zqh,0):=by kernel_rfl
def zs1 (y:List UInt8):Bool:=(!decide (y.take 1=[35]))&&decide (zbi isWh y < y.length)
theorem zq2 (y:List UInt8):zhk y=zs1 y:=by
 unfold zhk zs1 zkc;rw[zdi];have:(decide (zg ([35]:List UInt8)≤y.length)&&decide (y.take (zg ([35]:List UInt8))=[35]))=decide (y.take 1=[35]):=by
  cases y with
  |nil=>rfl
  |cons c q=>rw[decide_eq_true (by simp:zg ([35]:List UInt8)≤(c::q).length),Bool.true_and];rfl
 rw[this]
def zqn (y:List UInt8) (fr:Nat) (acc:List De):Except (Int×Int) (List De):=
 if zs1 y=true then
  if 4000 < y.length then .error ((fr:Int),2)
  else match zgB y ((acc.length:Nat):Int) with
   | .ok d=>.ok (acc++ [d])
   | .error e=>if e.2=0 then .ok acc else .error ((fr:Int)+e.1,e.2)
 else .ok acc
theorem zqm (y:List UInt8) (fr:Nat) (acc:List De):zhV y fr acc=zqn y fr acc:=by
 unfold zhV zqn;rw[zq2]
 all_goals rfl
def libC:List (List UInt8)->Nat->List De->List De×Int×Int
 | [],_,acc=>(acc,0,0)
 |y::r,fr,acc=>match zqn y fr acc with
  | .error e=>([],e.1,e.2)
  | .ok acc'=>libC r (fr+y.length+1) acc'
theorem zoX:∀ (l:List (List UInt8)) (fr:Nat) (acc:List De),libK l fr acc=libC l fr acc
 | [],_,_=>rfl
 |y::r,fr,acc=>by
  unfold libK libC;rw[zqm];cases zqn y fr acc with
  |error e=>rfl
  |ok a=>exact zoX r _ a
def zjW (s:List UInt8):List De×Int×Int:=if 1048576 < s.length then ([],0,2) else libC (segs s) 0 []
theorem zgn (s:List UInt8):za6 s=zjW s:=by
 unfold za6 zjW;rw[zoX]
theorem sanB:za6 tx_sB=(sanL,0,0):=(zgn _).trans (by kernel_rfl)
theorem sanC:za6 tx_sC=([],5,3):=(zgn _).trans (by kernel_rfl)
def zcF (s:List UInt8) (at' e:Int):Bool:=(((((zbJ s).1.length:Nat):Int)==0)&&((zbJ s).2.1==at'))&&((zbJ s).2.2==e)
def zr5:Ctr:={ args:=[.str,i64,i64],pre:=fun _=>[],res:=.bool,own:=none,out:=fun x=>zcF x.1 x.2.1 x.2.2.1 }
def kPa:Kn:={ gmK with C:=[(16,zpP)] }
theorem zl7:KnOk Tryz.prog gmH kPa:=zaj.with (.cons zlU .nil)
theorem zqg:yk Tryz.prog gmH 42 zr5:=by
 refine zal (K:=kPa) zl7 Tryz.func42 rfl rfl Tryz.call42 rfl (by decide) (by intro h;cases h) ?_;rintro w0 X hX ⟨(s:List UInt8),(at':Int),(e:Int),_⟩ hp;change AWP _ _ _ _ _ ⟨[(0,⟨.str,s⟩),(1,⟨i64,at'⟩),(2,⟨i64,e⟩)],[],0⟩ _;refine za (za ?_);refine zaa hX zl7 rfl ?_ ?_
 ·trivial
 refine za (za ?_);refine zaa hX zl7 rfl ?_ ?_
 ·trivial
 refine za (za ?_);refine zaa hX zl7 rfl ?_ ?_
 ·repeat'(first|exact trivial|assumption|(refine⟨?_,?_⟩)|(intro _)|exact zb rfl|exact zd _|(simp_all [allP];done))
 refine zl ⟨.inr rfl,zas rfl trivial rfl rfl ?_⟩;show (bif (bif ((((zbJ s).1.length:Nat):Int)==0) then (zbJ s).2.1==at' else false) then (zbJ s).2.2==e else false)=zcF s at' e;rw[zcS,zcS];rfl
def zpN:Ctr:={ args:=[],pre:=fun _=>[],res:=.bool,own:=none,out:=fun _=>true }
noncomputable def kSan:Kn:={ gmK with C:=[(16,zpP),(24,cFmt),(19,zpO),(26,zpU),(18,cSame),(42,zr5)] }
theorem zc6:KnOk Tryz.prog gmH kSan:=zaj.with (.cons zlU <| .cons zhA <| .cons zkY <| .cons zkn <| .cons zsG <| .cons zqg .nil)
theorem vStr {x y:List UInt8} (h:x=y):(⟨.str,x⟩:V)=⟨.str,y⟩:=by rw[h]
theorem vRul {x y:List Nd} (h:x=y):(⟨.slice nd,x⟩:V)=⟨.slice nd,y⟩:=by rw[h]
theorem vDes {x y:List De} (h:x=y):(⟨.slice de,x⟩:V)=⟨.slice de,y⟩:=by rw[h]
set_option maxHeartbeats 2000000 in
theorem zoa:yk Tryz.prog gmH 15 zpN:=by
 refine zal (K:=kSan) zc6 Tryz.func15 rfl rfl Tryz.call15 rfl (by decide) (by intro h;cases h) ?_;rintro w0 X hX _ hp;change AWP _ _ _ _ _ ⟨[],[],0⟩ _;refine za (za ?_);refine zaa hX zc6 rfl ?_ ?_
 ·trivial
 refine za (za ?_);refine zaa hX zc6 rfl ?_ ?_
 ·trivial
 refine zap (σ':=⟨[(1,⟨.slice nd,sanR⟩),(3,⟨i64,(0:Int)⟩)],[],0⟩) ⟨⟨vRul (congrArg (fun x=>x.1) sanA),vI64 (congrArg (fun x=>x.2.2) sanA),trivial⟩,trivial,rfl,rfl⟩ ?_;refine za (za ?_);refine zaa hX zc6 rfl ?_ ?_
 ·trivial
 refine qx hX 4 ?_;refine zap (σ':=⟨[(1,⟨.slice nd,sanR⟩),(3,⟨i64,(0:Int)⟩),(4,⟨.slice nd,sanR⟩)],[],1⟩) ⟨⟨rfl,rfl,rfl,trivial⟩,trivial,rfl,rfl⟩ ?_;refine za (za ?_);refine zaa hX zc6 rfl ?_ ?_
 ·trivial
 refine zap (σ':=⟨[(1,⟨.slice nd,sanR⟩),(3,⟨i64,(0:Int)⟩),(4,⟨.slice nd,sanR⟩),(5,⟨.str,zjA⟩),(6,⟨i64,(0:Int)⟩)],[],1⟩) ⟨⟨rfl,rfl,rfl,vStr (congrArg (fun x=>x.1) sanF),vI64 (congrArg (fun x=>x.2) sanF),trivial⟩,trivial,rfl,rfl⟩ ?_;refine za (za ?_);refine zaa hX zc6 rfl ?_ ?_
 ·trivial
 refine zap (σ':=⟨[(1,⟨.slice nd,sanR⟩),(3,⟨i64,(0:Int)⟩),(4,⟨.slice nd,sanR⟩),(5,⟨.str,zjA⟩),(6,⟨i64,(0:Int)⟩),(7,⟨.slice de,sanL⟩),(9,⟨i64,(0:Int)⟩)],[],1⟩) ⟨⟨rfl,rfl,rfl,rfl,rfl,vDes (congrArg (fun x=>x.1) sanB),vI64 (congrArg (fun x=>x.2.2) sanB),trivial⟩,trivial,rfl,rfl⟩ ?_;refine za (za ?_);refine zaa hX zc6 rfl ?_ ?_
 ·trivial
 refine zap (σ':=⟨[(1,⟨.slice nd,sanR⟩),(3,⟨i64,(0:Int)⟩),(4,⟨.slice nd,sanR⟩),(5,⟨.str,zjA⟩),(6,⟨i64,(0:Int)⟩),(7,⟨.slice de,sanL⟩),(9,⟨i64,(0:Int)⟩),(11,⟨i64,(5:Int)⟩),(12,⟨i64,(3:Int)⟩)],[],1⟩) ⟨⟨rfl,rfl,rfl,rfl,rfl,rfl,rfl,vI64 (congrArg (fun x=>x.2.1) sanC),vI64 (congrArg (fun x=>x.2.2) sanC),trivial⟩,trivial,rfl,rfl⟩ ?_;refine za (za ?_);refine zaa hX zc6 rfl ?_ ?_
 ·trivial
 refine zap (σ':=⟨[(1,⟨.slice nd,sanR⟩),(3,⟨i64,(0:Int)⟩),(4,⟨.slice nd,sanR⟩),(5,⟨.str,zjA⟩),(6,⟨i64,(0:Int)⟩),(7,⟨.slice de,sanL⟩),(9,⟨i64,(0:Int)⟩),(11,⟨i64,(5:Int)⟩),(12,⟨i64,(3:Int)⟩),(14,⟨i64,(1:Int)⟩)],[],1⟩) ⟨⟨rfl,rfl,rfl,rfl,rfl,rfl,rfl,rfl,rfl,vI64 (congrArg (fun x=>x.2) sanN),trivial⟩,trivial,rfl,rfl⟩ ?_;refine za (za ?_);refine zaa hX zc6 rfl ?_ ?_
 ·repeat'(first|exact trivial|assumption|(refine⟨?_,?_⟩)|(intro _)|exact zb rfl|exact zd _|(simp_all [allP];done))
 refine zae rfl (fun hb=>?_) (fun _=>?_)
 ·have hb:false=true:=hb;cases hb
 apply zab;refine za (za ?_);refine zaa hX zc6 rfl ?_ ?_
 ·trivial
 refine zap (σ':=⟨[(1,⟨.slice nd,sanR⟩),(4,⟨.slice nd,sanR⟩),(5,⟨.str,zjA⟩),(7,⟨.slice de,sanL⟩),(15,⟨.str,zqh⟩),(16,⟨i64,(0:Int)⟩)],[],1⟩) ⟨⟨rfl,rfl,rfl,rfl,vStr (congrArg (fun x=>x.1) sanG),vI64 (congrArg (fun x=>x.2) sanG),trivial⟩,trivial,rfl,rfl⟩ ?_;have hs:zob sanR sanR=true:=zg1.2 rfl;have b0:(0:Int) < ((sanL.length:Nat):Int):=by decide
 have b1:(1:Int) < ((sanL.length:Nat):Int):=by decide
 refine za (za ?_);refine zaa hX zc6 rfl ?_ ?_
 ·repeat'(first|exact trivial|assumption|exact b0|exact b1|(refine⟨?_,?_⟩)|(intro _)|decide)
 refine zap (σ':=⟨[(17,⟨.bool,true⟩)],[],1⟩) ⟨⟨zco ?_,trivial⟩,trivial,rfl,rfl⟩ ?_
 ·show (bif (bif (bif (bif (bif zob sanR sanR then eqb .str zjA zjA else false) then eqb .str zfk zfk else false) then eqb .str znG znG else false) then ((0:Int)==0) else false) then eqb .str zqh zqh else false)=true;rw[hs,zeM,zeM,zeM,zeM];rfl
 have w1:zcF zsw 5 1=true:=by unfold zcF;rw[san1];rfl
 have w2:zcF zsv 12 1=true:=by unfold zcF;rw[san2];rfl
 have w3:zcF zsu 5 3=true:=by unfold zcF;rw[san3];rfl
 have w4:zcF zst 10 3=true:=by unfold zcF;rw[san4];rfl
 have w5:zcF zss 6 3=true:=by unfold zcF;rw[san5];rfl
 have w6:zcF zsr 0 3=true:=by unfold zcF;rw[san6];rfl
 refine za (za ?_);refine zaa hX zc6 rfl ?_ ?_
 ·repeat'(first|exact trivial|assumption|(refine⟨?_,?_⟩)|(intro _))
 refine zl ⟨.inr rfl,zas rfl trivial rfl rfl ?_⟩;show (bif (bif (bif (bif (bif (bif true then zcF zsw 5 1 else false) then zcF zsv 12 1 else false) then zcF zsu 5 3 else false) then zcF zst 10 3 else false) then zcF zss 6 3 else false) then zcF zsr 0 3 else false)=true;rw[w1,w2,w3,w4,w5,w6];rfl
set_option maxRecDepth 10000
end
end Go.Proofs.YtpeaigpfddalcaaGreatDoor
