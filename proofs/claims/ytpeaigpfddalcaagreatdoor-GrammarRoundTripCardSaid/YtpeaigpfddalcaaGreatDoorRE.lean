/-
  Texts of this claim, joined: what the statement's proof uses.
-/
import Derived.Test.YtpeaigpfddalcaaGreatDoorRD
set_option linter.unusedSimpArgs false
set_option linter.unusedVariables false
set_option maxRecDepth 100000
open Array renaming getD_eq_getD_getElem? -> zQ,getElem?_eq_getElem -> yn,getElem?_eq_some_iff -> zp,getElem?_setIfInBounds -> xS,toList -> vH
open Bool renaming and_eq_true -> zf,eq_iff_iff -> zL,not_eq_true -> uN,not_eq_true' -> zu,or_eq_true -> zV
open ByteArray renaming data_extract -> vh,ext -> wi,mk -> vM
open Go renaming Deferred -> je,FuncId -> zU,Operand -> zK,TypeId -> zq,Value -> zi,World -> zk,wpIn_mono -> yV
open Go.Ending renaming returned -> u6
open Go.Extern.BytealgIndexByte renaming indexByte -> ur
open Go.Fence renaming wide -> yF
open Go.Lib renaming indexByte -> xz
open Go.Oper renaming semAt_some -> j0
open Go.Operand renaming const -> kv
open Go.Proofs.YtpeaigpfddalcaaGreatDoor renaming CtrOk -> ym
open Go.Proofs.YtpeaigpfddalcaaGreatDoor.AL renaming all -> zX,fit -> qN,guardF -> yp,guardT -> xe,nil -> yf,own -> yq,step -> jO,take -> yj
open Go.Proofs.YtpeaigpfddalcaaGreatDoor.AWP renaming draw -> qx,frz -> qB,go -> za,len -> j8,loop -> yw,ordersA -> jH,ret -> zm,via -> xN,viaQ -> jf
open Go.Proofs.YtpeaigpfddalcaaGreatDoor.AllN renaming cons -> jt,nil -> jZ
open Go.Proofs.YtpeaigpfddalcaaGreatDoor.OrdA renaming last -> jN
open Go.Proofs.YtpeaigpfddalcaaGreatDoor.Ownr renaming plain -> qv
open Go.Proofs.YtpeaigpfddalcaaGreatDoor.Sim renaming nilLeaf -> kW
open Go.Proofs.YtpeaigpfddalcaaGreatDoor.StepA renaming eval -> xr
open Go.Proofs.YtpeaigpfddalcaaGreatDoor.Tr renaming flat -> jM,len_flat -> xg,size -> vp
open Go.Region renaming wanted -> zG
open Go.RowKit renaming Below -> yZ
open Go.RowKit.Below renaming heap_setCell -> xG,refl -> zR
open Go.Value renaming int -> yD,slice -> uW
open Go.Value.agg renaming inj -> kr
open Go.World renaming alloc_heap_new -> xE,putObj_heap_other -> xp,putObj_heap_same -> qy
open Int renaming le_refl -> xF,natCast_nonneg -> zd,toNat_natCast -> zB,toNat_of_nonneg -> xA
open List renaming append_assoc -> zs,append_nil -> zO,cons_append -> xH,drop_eq_getElem_cons -> yS,drop_length -> jQ,getD_eq_getElem?_getD -> zy,getElem?_eq_getElem -> zC,getElem?_eq_some_iff -> zE,getElem_mem -> xo,length -> zh,length_append -> zg,length_cons -> zt,length_drop -> xd,length_map -> j9,length_nil -> zW,length_singleton -> yv,length_take -> yE,map_append -> xT,mem_append -> yQ,mem_cons -> ya,mem_singleton -> zv,nil_append -> yI,set_append_right -> ju,take_length -> xn,take_succ_eq_append_getElem -> zI
open Nat renaming blt -> zY,gcd -> yW,gcd_comm -> kM,lcm -> xU,le_of_ble_eq_true -> zb,le_refl -> zj,le_trans -> zH,lt_of_lt_of_le -> zM,not_lt_zero -> yH,zero_le -> zl
open Go Go.RowKit
namespace Go.Proofs.YtpeaigpfddalcaaGreatDoor
section
set_option maxRecDepth 10000
set_option maxRecDepth 10000
theorem zrj:ym Tryz.prog gmG 148 zsJ:=by
 refine zao (K:=kMvd) zdd Tryz.func148 rfl rfl Tryz.call148 rfl (by decide) (by intro h;cases h) ?_;rintro w0 X hX ⟨(r:List Nd),(b:Int),_⟩ hp;obtain⟨hl,b0,b1,hn⟩:r.length≤1000000∧0≤b∧b≤1000000∧∀ n∈r,(-1000000≤ndL n∧ndL n≤1000000)∧(-1000000≤ndR n∧ndR n≤1000000):=hp;change AWP _ _ _ _ _ ⟨[(0,⟨.slice nd,r⟩),(1,⟨i64,b⟩)],[],0⟩ _;have i2:0+r.length≤1000000000:=by omega
 refine za (za ?_);refine zaa hX zdd rfl ?_ ?_
 ·trivial
 refine za (za ?_);refine zaa hX zdd rfl ?_ ?_
 ·exact i2
 refine za (za ?_);refine zaa hX zdd rfl ?_ ?_
 ·trivial
 (repeat(first|apply zaf|apply zab|apply zac|apply zad));refine yw (ι:=Nat) (fun i=>⟨[(1,⟨i64,b⟩),(5,⟨.obuf nd,(0:Nat)⟩),(6,⟨i64,(i:Int)⟩)],[(0,some (.buf 73 nd ((r.take i).map (zcL b)++r.drop i)))],1⟩) (fun i=>i≤r.length) (fun i=>r.length - i) 0 (zl _) ⟨⟨rfl,rfl,rfl,trivial⟩,⟨bufN ?_,trivial⟩,rfl,rfl⟩ ?_
 ·rfl
 intro i hi;have hlen:((r.take i).map (zcL b)++r.drop i).length=r.length:=by rw[zg,j9,yE,xd];omega
 refine za (za ?_);refine zaa hX zdd rfl ?_ ?_
 ·trivial
 refine zae rfl (fun hb=>?_) (fun hb=>?_)
 ·have hb:decide ((i:Int) < ((((r.take i).map (zcL b)++r.drop i).length:Nat):Int))=true:=hb;have hb:=of_decide_eq_true hb;rw[hlen]at hb;have hlt:i < r.length:=by omega
  have z0:(0:Int)≤(i:Int):=by omega
  have hdr:r.drop i=r[i]::r.drop (i+1):=yS hlt;have hpl:((r.take i).map (zcL b)).length=i:=by rw[j9,yE];omega
  obtain⟨⟨q1,q2⟩,⟨q3,q4⟩⟩:=hn r[i] (xo hlt);rw[hdr]at hlen ⊢;have htk:(r.take (i+1)).map (zcL b)=(r.take i).map (zcL b)++ [zcL b r[i]]:=by rw[zI hlt,xT];rfl
  generalize (r.take i).map (zcL b)=p at *;generalize hdq:r.drop (i+1)=q at *;generalize r[i]=n at *;have z1:(i:Int) < (((p++n::q).length:Nat):Int):=by rw[hlen];omega
  have z2:((i:Int)).toNat < (p++n::q).length:=by rw[hlen];omega
  have hget:(p++n::q).getD ((i:Int)).toNat zNd=n:=by
   have:=zcn (l:=p) (m:=n::q) (z:=zNd) (j:=0);rw[zB,show i=p.length+0 by omega,this];rfl
  have hset:∀ x,(p++n::q).set ((i:Int)).toNat x=p++x::q:=fun x=>by
   rw[zB,ju _ _ (by omega),show i - p.length=0 by omega];rfl
  have i3:inR .i64 (ndL n+b):=zan (by omega) (by omega);have i4:inR .i64 (ndR n+b):=zan (by omega) (by omega);have i3':inR .i64 (ndL ((p++n::q).getD ((i:Int)).toNat zNd)+b):=by rw[hget];exact i3
  refine za (za ?_);refine zaa hX zdd rfl ?_ ?_
  ·repeat'(first|exact trivial|assumption|exact z0|exact z1|exact z2|(refine⟨?_,?_⟩)|(intro _)|exact zb rfl|exact zd _|(simp_all [allP];done))
  refine jf (σ':=⟨[(1,⟨i64,b⟩),(5,⟨.obuf nd,(0:Nat)⟩),(6,⟨i64,(i:Int)⟩)],[(0,some (.buf 73 nd (p++(if 8≤ndK n∧ndK n≤17 then setL n (ndL n+b) else n)::q)))],1⟩) ?_ ?_
  ·have hq:(bif decide (ndK ((p++n::q).getD ((i:Int)).toNat zNd)≥8) then decide (ndK ((p++n::q).getD ((i:Int)).toNat zNd)≤17) else false)=decide (8≤ndK n∧ndK n≤17):=by
    rw[hget,zcS,zL,zf,decide_eq_true_iff,decide_eq_true_iff,decide_eq_true_iff]
   refine zae rfl (fun hc=>?_) (fun hc=>?_)
   ·have hc:=of_decide_eq_true (hq.symm.trans hc);refine za (za ?_);refine zaa hX zdd rfl ?_ ?_
    ·repeat'(first|exact trivial|assumption|exact z0|exact z1|exact z2|exact i3'|(refine⟨?_,?_⟩)|(intro _)|exact zb rfl|exact zd _|(simp_all [allP];done))
    refine⟨⟨rfl,rfl,rfl,trivial⟩,⟨bufN ?_,trivial⟩,rfl,rfl⟩;refine (hset _).trans ?_;rw[if_pos hc];show p++(setL ((p++n::q).getD ((i:Int)).toNat zNd) (ndL ((p++n::q).getD ((i:Int)).toNat zNd)+b))::q=_;rw[hget]
   ·have hc:=of_decide_eq_false (hq.symm.trans hc);apply zab;rw[if_neg hc];exact⟨⟨rfl,rfl,rfl,trivial⟩,⟨rfl,trivial⟩,rfl,rfl⟩
  generalize hn1:(if 8≤ndK n∧ndK n≤17 then setL n (ndL n+b) else n)=n1;have hK:ndK n1=ndK n:=by rw[<-hn1];split<;>rfl
  have hR:ndR n1=ndR n:=by rw[<-hn1];split<;>rfl
  have hlen1:(p++n1::q).length=r.length:=by rw[<-hlen];simp
  have y1:(i:Int) < (((p++n1::q).length:Nat):Int):=by rw[hlen1];omega
  have y2:((i:Int)).toNat < (p++n1::q).length:=by rw[hlen1];omega
  have hget1:(p++n1::q).getD ((i:Int)).toNat zNd=n1:=by
   have:=zcn (l:=p) (m:=n1::q) (z:=zNd) (j:=0);rw[zB,show i=p.length+0 by omega,this];rfl
  have hset1:∀ x,(p++n1::q).set ((i:Int)).toNat x=p++x::q:=fun x=>by
   rw[zB,ju _ _ (by omega),show i - p.length=0 by omega];rfl
  have i4':inR .i64 (ndR ((p++n1::q).getD ((i:Int)).toNat zNd)+b):=by rw[hget1,hR];exact i4
  refine za (za ?_);refine zaa hX zdd rfl ?_ ?_
  ·repeat'(first|exact trivial|assumption|exact z0|exact y1|exact y2|(refine⟨?_,?_⟩)|(intro _)|exact zb rfl|exact zd _|(simp_all [allP];done))
  have hmv:zcL b n=if two (ndK n)=true then zcr n1 (ndL n1) (ndR n1+b) else n1:=by
   rw[<-hn1];unfold zcL;obtain⟨k,c,L,R,rest⟩:=n;by_cases h8:8≤k∧k≤17
   ·rw[if_pos h8,if_pos (c:=8≤ndK (k,c,L,R,rest)∧ndK (k,c,L,R,rest)≤17) h8];cases ht:two k with
    |true=>rw[if_pos (c:=two (ndK (k,c,L,R,rest))=true) ht];rfl
    |false=>rw[if_neg (c:=two (ndK (k,c,L,R,rest))=true) (by show ¬ two k=true;rw[ht];decide)];rfl
   ·rw[if_neg h8,if_neg (c:=8≤ndK (k,c,L,R,rest)∧ndK (k,c,L,R,rest)≤17) h8];cases ht:two k with
    |true=>rw[if_pos (c:=two (ndK (k,c,L,R,rest))=true) ht];rfl
    |false=>rw[if_neg (c:=two (ndK (k,c,L,R,rest))=true) (by show ¬ two k=true;rw[ht];decide)];rfl
  have hq:two (ndK ((p++n1::q).getD ((i:Int)).toNat zNd))=two (ndK n):=by rw[hget1,hK]
  refine zae rfl (fun hc=>?_) (fun hc=>?_)
  ·have hc:=hq.symm.trans hc;refine za (za ?_);refine zaa hX zdd rfl ?_ ?_
   ·repeat'(first|exact trivial|assumption|exact z0|exact y1|exact y2|exact i4'|(refine⟨?_,?_⟩)|(intro _)|exact zb rfl|exact zd _|(simp_all [allP];done))
   refine za (za ?_);refine zaa hX zdd rfl ?_ ?_
   ·exact zaG (by omega)
   refine⟨i+1,hlt,by omega,⟨rfl,rfl,zci _,trivial⟩,⟨bufN ?_,trivial⟩,rfl,rfl⟩;refine (hset1 _).trans ?_;rw[htk,hmv,if_pos hc,zs,hdq];show p++(zcr ((p++n1::q).getD ((i:Int)).toNat zNd) (ndL ((p++n1::q).getD ((i:Int)).toNat zNd)) (ndR ((p++n1::q).getD ((i:Int)).toNat zNd)+b))::q=_;rw[hget1];rfl
  ·have hc:=hq.symm.trans hc;apply zab;refine za (za ?_);refine zaa hX zdd rfl ?_ ?_
   ·exact zaG (by omega)
   refine⟨i+1,hlt,by omega,⟨rfl,rfl,zci _,trivial⟩,⟨bufN ?_,trivial⟩,rfl,rfl⟩;rw[htk,hmv,if_neg (by rw[hc];decide),zs,hdq];rfl
 ·have hb:decide ((i:Int) < ((((r.take i).map (zcL b)++r.drop i).length:Nat):Int))=false:=hb;have hb:=of_decide_eq_false hb;rw[hlen]at hb;obtain rfl:i=r.length:=by omega
  apply zad;refine qB hX 5 ?_;refine za (za ?_);refine zaa hX zdd rfl ?_ ?_
  ·trivial
  refine zm ⟨.inr rfl,zat rfl trivial rfl rfl ?_⟩;show (r.take r.length).map (zcL b)++r.drop r.length=zeg r b;rw[xn,jQ,zO];rfl
def zuv:Ctr:={ args:=[.slice nd,.slice nd,nd],pre:=fun x=>[1≤zh x.1,zh x.1≤100000,zh x.2.1≤100000,∀ n∈(x.2.1:List Nd),(-1000000≤ndL n∧ndL n≤1000000)∧(-1000000≤ndR n∧ndR n≤1000000)],res:=.slice nd,own:=none,out:=fun x=>zqo x.1 x.2.1 x.2.2.1 }
def kBth:Kn:={ gmK with C:=[(148,zsJ)] }
theorem zfl:KnOk Tryz.prog gmG kBth:=zaE.with (.cons zrj .nil)
theorem zqn:ym Tryz.prog gmG 95 zuv:=by
 refine zao (K:=kBth) zfl Tryz.func95 rfl rfl Tryz.call95 rfl (by decide) (by intro h;cases h) ?_;rintro w0 X hX ⟨(a:List Nd),(c:List Nd),(n:Nd),_⟩ hp;obtain⟨h1,hl,hl2,hn⟩:1≤a.length∧a.length≤100000∧c.length≤100000∧∀ n∈c,(-1000000≤ndL n∧ndL n≤1000000)∧(-1000000≤ndR n∧ndR n≤1000000):=hp;change AWP _ _ _ _ _ ⟨[(0,⟨.slice nd,a⟩),(1,⟨.slice nd,c⟩),(2,⟨nd,n⟩)],[],0⟩ _;have i1:inR .i64 (((a.length:Nat):Int) - 1):=zan (by omega) (by omega);have i2:inR .i64 (((a.length:Nat):Int)+((c.length:Nat):Int)):=zan (by omega) (by omega);have i3:inR .i64 (((a.length:Nat):Int)+((c.length:Nat):Int) - 1):=zan (by omega) (by omega);have i4:0+a.length≤1000000000:=by omega
 have i5:c.length≤1000000:=by omega
 have i6:(0:Int)≤((a.length:Nat):Int):=by omega
 have i7:((a.length:Nat):Int)≤1000000:=by omega
 have hml:(zeg c ((a.length:Nat):Int)).length=c.length:=by unfold zeg;rw[j9]
 have i8:zh ([]++a)+(zeg c ((a.length:Nat):Int)).length≤1000000000:=by rw[yI];omega
 have i9:zh ([]++a++zeg c ((a.length:Nat):Int))+1≤1000000000:=by rw[yI,zg];omega
 refine za (za ?_);refine zaa hX zfl rfl ?_ ?_
 ·trivial
 refine za (za ?_);refine zaa hX zfl rfl ?_ ?_
 ·exact i1
 refine za (za ?_);refine zaa hX zfl rfl ?_ ?_
 ·exact⟨i2,i3⟩
 refine za (za ?_);refine zaa hX zfl rfl ?_ ?_
 ·exact i4
 refine za (za ?_);refine zaa hX zfl rfl ?_ ?_
 ·exact⟨i5,i6,i7,hn,i8⟩
 refine za (za ?_);refine zaa hX zfl rfl ?_ ?_
 ·exact i9
 refine qB hX 6 ?_;refine zm ⟨.inr rfl,zat rfl trivial rfl rfl ?_⟩;rfl
def cGcd2:Ctr:={ args:=[i64,i64],pre:=fun x=>[0≤x.1,x.1≤1000000,0≤x.2.1,x.2.1≤1000000],res:=i64,own:=none,out:=fun x=>((yW x.1.toNat x.2.1.toNat:Nat):Int) }
theorem ztX:ym Tryz.prog gmG 154 cGcd2:=by
 refine zao (K:=gmK) zaE Tryz.func154 rfl rfl Tryz.call154 rfl (by decide) (by intro h;cases h) ?_;rintro w0 X hX ⟨(a:Int),(b:Int),_⟩ hp;obtain⟨ha,ha',hb,hb'⟩:0≤a∧a≤1000000∧0≤b∧b≤1000000:=hp;change AWP _ _ _ _ _ ⟨[(0,⟨i64,a⟩),(1,⟨i64,b⟩)],[],0⟩ _;refine za (za ?_);refine zaa hX zaE rfl ?_ ?_
 ·trivial
 (repeat(first|apply zaf|apply zab|apply zac|apply zad));refine yw (ι:=Nat×Nat) (fun p=>⟨[(0,⟨i64,(p.1:Int)⟩),(1,⟨i64,(p.2:Int)⟩)],[],0⟩) (fun p=>yW p.1 p.2=yW a.toNat b.toNat) (fun p=>p.2) (a.toNat,b.toNat) rfl ⟨⟨vI64 (xA ha).symm,vI64 (xA hb).symm,trivial⟩,trivial,rfl,rfl⟩ ?_;rintro ⟨x,y⟩ hg;have hg:yW x y=yW a.toNat b.toNat:=hg;refine za (za ?_);refine zaa hX zaE rfl ?_ ?_
 ·trivial
 refine zae rfl (fun hc=>?_) (fun hc=>?_)
 ·have hc:((y:Int) != 0)=true:=hc;have hy:(y:Int)≠0:=by simpa using hc
  refine za (za ?_);refine zaa hX zaE rfl ?_ ?_
  ·exact hy
  refine za (za ?_);refine zaa hX zaE rfl ?_ ?_
  ·trivial
  refine za (za ?_);refine zaa hX zaE rfl ?_ ?_
  ·trivial
  have hy0:0 < y:=by omega
  refine⟨(y,x % y),?_,Nat.mod_lt _ hy0,⟨rfl,vI64 rfl,trivial⟩,trivial,rfl,rfl⟩;show yW y (x % y)=_;rw[<-hg,kM y, <-Nat.gcd_rec,kM]
 ·have hc:((y:Int) != 0)=false:=hc;have hy:y=0:=by
   have:(y:Int)=0:=by simpa using hc
   omega
  apply zad;(repeat(first|apply zaf|apply zab|apply zaj|apply zad|apply zac|refine zaa hX zaE rfl trivial ?_|refine zaa hX zaE rfl id ?_|refine zaa hX zaE rfl ⟨id,id⟩ ?_));refine zm ⟨.inr rfl,zat rfl trivial rfl rfl ?_⟩;show (x:Int)=((yW a.toNat b.toNat:Nat):Int);rw[<-hg,hy,Nat.gcd_zero_right]
theorem zfa {a b:Bool} (ha:a=false) (hb:b=false):(bif a then true else b)=false:=by rw[ha,hb];rfl
def zsN:Ctr:={ args:=[cal],pre:=fun x=>[zgW x.1],res:=.bool,own:=none,out:=fun _=>true }
def kCv2:Kn:={ gmK with C:=[(154,cGcd2)] }
theorem zb0:KnOk Tryz.prog gmG kCv2:=zaE.with (.cons ztX .nil)
set_option maxHeartbeats 1000000 in
theorem zsa:ym Tryz.prog gmG 105 zsN:=by
 refine zao (K:=kCv2) zb0 Tryz.func105 rfl rfl Tryz.call105 rfl (by decide) (by intro h;cases h) ?_;rintro w0 X hX ⟨(c:Cal),_⟩ hp;obtain⟨(ep:Int),(ms:List Int),(lp:Int),(rs:List Lr),⟨⟩⟩:=c;obtain⟨⟨e0,e1⟩,⟨n0,n1⟩,⟨l0,l1⟩,r0,lr,hm,hper⟩:zgW (ep,ms,lp,rs,()):=hp;have e0:0≤ep:=e0;have e1:ep≤1048576:=e1;have n0:1≤ms.length:=n0;have n1:ms.length≤16:=n1;have l0: -1≤lp:=l0;have l1:lp < (ms.length:Int):=l1;have r0:rs.length≤16:=r0;have lr:lp= -1->rs=[]:=lr;have hm:∀ m∈ms,1≤m∧m≤40:=hm;have hper:(perS 1 rs).2=true:=hper;change AWP _ _ _ _ _ ⟨[(0,⟨cal,(ep,ms,lp,rs,())⟩)],[],0⟩ _;refine za (za ?_);refine zaa hX zb0 rfl ?_ ?_
 ·trivial
 refine za (za ?_);refine zaa hX zb0 rfl ?_ ?_
 ·repeat'(first|exact trivial|assumption|(refine⟨?_,?_⟩)|(intro _)|exact zb rfl|exact zd _|(simp_all [allP];done))
 have t1:(bif (bif (bif (bif decide (ep < 0) then true else decide (ep > 1048576)) then true else decide (((ms.length:Nat):Int) < 1)) then true else decide (((ms.length:Nat):Int) > 16)) then true else decide (((rs.length:Nat):Int) > 16))=false:=
  zfa (zfa (zfa (zfa (decide_eq_false (by omega)) (decide_eq_false (by omega))) (decide_eq_false (by omega))) (decide_eq_false (by omega))) (decide_eq_false (by omega))
 refine zae rfl (fun hc=>?_) (fun _=>?_)
 ·have hc:=t1.symm.trans hc;cases hc
 apply zab;refine za (za ?_);refine zaa hX zb0 rfl ?_ ?_
 ·repeat'(first|exact trivial|assumption|(refine⟨?_,?_⟩)|(intro _)|exact zb rfl|exact zd _|(simp_all [allP];done))
 have t2:(bif (bif decide (lp < -1) then true else decide (lp≥((ms.length:Nat):Int))) then true else (bif (lp== -1) then decide (((rs.length:Nat):Int) > 0) else false))=false:=by
  refine zfa (zfa (decide_eq_false (by omega)) (decide_eq_false (by omega))) ?_;by_cases h:lp= -1
  ·rw[lr h];cases (lp== -1)<;>rfl
  ·rw[beq_eq_false_iff_ne.2 h];rfl
 refine zae rfl (fun hc=>?_) (fun _=>?_)
 ·have hc:=t2.symm.trans hc;cases hc
 apply zab;refine za (za ?_);refine zaa hX zb0 rfl ?_ ?_
 ·trivial
 (repeat(first|apply zaf|apply zab|apply zac|apply zad));refine yw (ι:=Nat) (fun i=>⟨[(1,⟨.optr cal,⟨0,cal,.here⟩⟩),(3,⟨i64,(i:Int)⟩)],[(0,some (.box cal (ep,ms,lp,rs,())))],1⟩) (fun i=>i≤ms.length) (fun i=>ms.length - i) 0 (zl _) ⟨⟨rfl,rfl,trivial⟩,⟨rfl,trivial⟩,rfl,rfl⟩ ?_
 ·intro i hi;refine za (za ?_);refine zaa hX zb0 rfl ?_ ?_
  ·trivial
  refine zae rfl (fun hb=>?_) (fun hb=>?_)
  ·have hb:decide ((i:Int) < ((ms.length:Nat):Int))=true:=hb;have hb:=of_decide_eq_true hb;have z0:(0:Int)≤(i:Int):=by omega
   have z2:((i:Int)).toNat < ms.length:=by omega
   refine za (za ?_);refine zaa hX zb0 rfl ?_ ?_
   ·repeat'(first|exact trivial|assumption|exact z0|exact hb|exact z2|(refine⟨?_,?_⟩)|(intro _)|exact zb rfl|exact zd _|(simp_all [allP];done))
   have hget:ms.getD ((i:Int)).toNat 0∈ms:=by
    rw[zy,zC z2];exact xo _
   have hmm:=hm _ hget;have t3:(bif decide (ms.getD ((i:Int)).toNat 0 < 1) then true else decide (ms.getD ((i:Int)).toNat 0 > 40))=false:=zfa (decide_eq_false (by omega)) (decide_eq_false (by omega));refine zae rfl (fun hc=>?_) (fun _=>?_)
   ·have hc:=t3.symm.trans hc;cases hc
   apply zab;refine za (za ?_);refine zaa hX zb0 rfl ?_ ?_
   ·exact zaG (by omega)
   exact⟨i+1,by omega,by omega,⟨rfl,zci _,trivial⟩,⟨rfl,trivial⟩,rfl,rfl⟩
  ·apply zad;refine za (za ?_);refine zaa hX zb0 rfl ?_ ?_
   ·trivial
   refine za (za ?_);refine zaa hX zb0 rfl ?_ ?_
   ·trivial
   (repeat(first|apply zaf|apply zab|apply zac|apply zad));refine yw (ι:=Nat×Nat) (fun p=>⟨[(1,⟨.optr cal,⟨0,cal,.here⟩⟩),(4,⟨i64,(p.2:Int)⟩),(5,⟨i64,(p.1:Int)⟩)],[(0,some (.box cal (ep,ms,lp,rs,())))],1⟩) (fun p=>p.1≤rs.length∧(1≤p.2∧p.2≤400)∧(perS p.2 (rs.drop p.1)).2=true) (fun p=>rs.length - p.1) (0,1) ⟨zl _,⟨by decide,by decide⟩,hper⟩ ⟨⟨rfl,rfl,rfl,trivial⟩,⟨rfl,trivial⟩,rfl,rfl⟩ ?_;rintro ⟨k,y⟩ ⟨hk,⟨hy1,hy2⟩,hr⟩;have hk:k≤rs.length:=hk;have hy1:1≤y:=hy1;have hy2:y≤400:=hy2;have hr:(perS y (rs.drop k)).2=true:=hr;change AWP _ _ _ _ _ ⟨[(1,⟨.optr cal,⟨0,cal,.here⟩⟩),(4,⟨i64,(y:Int)⟩),(5,⟨i64,(k:Int)⟩)],[(0,some (.box cal (ep,ms,lp,rs,())))],1⟩ _;refine za (za ?_);refine zaa hX zb0 rfl ?_ ?_
   ·trivial
   refine zae rfl (fun hb=>?_) (fun hb=>?_)
   ·have hb:decide ((k:Int) < ((rs.length:Nat):Int))=true:=hb;have hb:=of_decide_eq_true hb;have hlt:k < rs.length:=by omega
    have z0:(0:Int)≤(k:Int):=by omega
    have z2:((k:Int)).toNat < rs.length:=by omega
    have hdr:rs.drop k=rs[k]::rs.drop (k+1):=yS hlt;have hget:rs.getD ((k:Int)).toNat zLr=rs[k]:=by rw[zB,zy,zC hlt];rfl
    rw[hdr]at hr;generalize hn:rs.drop (k+1)=tl at *;generalize rs[k]=q at *;unfold perS at hr;have hbad:zly q=false:=by
     cases h:zly q with
     |false=>rfl
     |true=>rw[if_pos h]at hr;cases hr
    rw[hbad,if_neg (by decide)]at hr;have hlcm:¬ 400 < xU y q.1.toNat:=fun h=>by rw[if_pos h]at hr;cases hr
    rw[if_neg hlcm]at hr;unfold zly at hbad;simp only[Bool.or_eq_false_iff,decide_eq_false_iff_not]at hbad;obtain⟨⟨⟨b1,b2⟩,b3⟩,b4⟩:=hbad;refine za (za ?_);refine zaa hX zb0 rfl ?_ ?_
    ·repeat'(first|exact trivial|assumption|exact z0|exact hb|exact z2|(refine⟨?_,?_⟩)|(intro _)|exact zb rfl|exact zd _|(simp_all [allP];done))
    refine zaq (σ':=⟨[(1,⟨.optr cal,⟨0,cal,.here⟩⟩),(4,⟨i64,(y:Int)⟩),(5,⟨i64,(k:Int)⟩),(6,⟨.optr lru,⟨1,lru,.here⟩⟩)],[(0,some (.box cal (ep,ms,lp,rs,()))),(1,some (.box lru q))],2⟩) ⟨⟨rfl,rfl,rfl,rfl,trivial⟩,⟨rfl,by show some (OObj.box lru (rs.getD ((k:Int)).toNat zLr))=_;rw[hget],trivial⟩,rfl,rfl⟩ ?_;obtain⟨(m:Int),(ph:Int),(fl:Bool),⟨⟩⟩:=q;have b1:¬ m < 1:=b1;have b2:¬ m > 400:=b2;have b3:¬ ph < 0:=b3;have b4:¬ ph≥m:=b4;have hr:(perS (xU y m.toNat) tl).2=true:=hr;have hlcm:¬ 400 < xU y m.toNat:=hlcm;refine za (za ?_);refine zaa hX zb0 rfl ?_ ?_
    ·repeat'(first|exact trivial|assumption|(refine⟨?_,?_⟩)|(intro _)|exact zb rfl|exact zd _|(simp_all [allP];done))
    have t4:(bif (bif (bif decide (m < 1) then true else decide (m > 400)) then true else decide (ph < 0)) then true else decide (ph≥m))=false:=zfa (zfa (zfa (decide_eq_false b1) (decide_eq_false b2)) (decide_eq_false b3)) (decide_eq_false b4);refine zae rfl (fun hc=>?_) (fun _=>?_)
    ·have hc:=t4.symm.trans hc;cases hc
    apply zab;have hg:0 < yW y m.toNat:=Nat.gcd_pos_of_pos_left _ (by omega);have hq:((y:Int)).tdiv ((yW ((y:Int)).toNat m.toNat:Nat):Int)=((y / yW y m.toNat:Nat):Int):=by
     rw[zB];exact Int.ofNat_tdiv ..
    have hmul:((y / yW y m.toNat:Nat):Int) * m=((xU y m.toNat:Nat):Int):=by
     have:=zlE (x:=y) (y:=m.toNat) hy1;rw[kM]at this;rw[<-this,Int.natCast_mul,xA (by omega:0≤m)]
    have hle:y / yW y m.toNat≤y:=Nat.div_le_self ..;have c1:(0:Int)≤(y:Int):=by omega
    have c2:(y:Int)≤1000000:=by omega
    have c3:0≤m:=by omega
    have c4:m≤1000000:=by omega
    have c5:((yW ((y:Int)).toNat m.toNat:Nat):Int)≠0:=by rw[zB];omega
    have c6:inR .i64 (((y:Int)).tdiv ((yW ((y:Int)).toNat m.toNat:Nat):Int)):=by rw[hq];generalize y / yW y m.toNat=z at hle;exact zan (by omega) (by omega)
    have c7:inR .i64 (((y:Int)).tdiv ((yW ((y:Int)).toNat m.toNat:Nat):Int) * m):=by rw[hq,hmul];exact zan (by omega) (by omega)
    (repeat(first|apply zaf|apply zab|apply zac|apply zad));refine qx dM hX zb0 9 (by kernel_rfl) rfl rfl ?_ ?_ ?_
    ·repeat'(first|exact trivial|assumption|exact c1|exact c2|exact c3|exact c4|exact c5|exact c6|exact c7|(refine⟨?_,?_⟩)|(intro _)|exact zb rfl|exact zd _|(simp_all [allP];done))
    ·trivial
    refine zaq (σ':=⟨[(1,⟨.optr cal,⟨0,cal,.here⟩⟩),(4,⟨i64,((xU y m.toNat:Nat):Int)⟩),(5,⟨i64,(k:Int)⟩)],[(0,some (.box cal (ep,ms,lp,rs,())))],2⟩) ⟨⟨rfl,vI64 (by show ((y:Int)).tdiv ((yW ((y:Int)).toNat m.toNat:Nat):Int) * m=_;rw[hq,hmul]),rfl,trivial⟩,⟨rfl,trivial⟩,rfl,rfl⟩ ?_;refine za (za ?_);refine zaa hX zb0 rfl ?_ ?_
    ·trivial
    refine zae rfl (fun hc=>?_) (fun _=>?_)
    ·have hc:decide (((xU y m.toNat:Nat):Int) > 400)=true:=hc;have:=of_decide_eq_true hc;omega
    apply zab;refine za (za ?_);refine zaa hX zb0 rfl ?_ ?_
    ·exact zaG (by omega)
    have hl1:1≤xU y m.toNat:=Nat.lcm_pos (by omega) (by omega);exact⟨(k+1,xU y m.toNat),⟨hlt,⟨hl1,by show xU y m.toNat≤400;omega⟩,by show (perS (xU y m.toNat) (rs.drop (k+1))).2=true;rw[hn];exact hr⟩,by show rs.length - (k+1) < rs.length - k;omega,⟨rfl,rfl,zci _,trivial⟩,⟨rfl,trivial⟩,rfl,rfl⟩
   ·apply zad;(repeat(first|apply zaf|apply zab|apply zaj|apply zad|apply zac|refine zaa hX zb0 rfl trivial ?_|refine zaa hX zb0 rfl id ?_|refine zaa hX zb0 rfl ⟨id,id⟩ ?_));exact zm ⟨.inr rfl,zat rfl trivial rfl rfl rfl⟩
def zqb:Ctr:={ args:=[],pre:=fun _=>[],res:=ints,own:=none,out:=fun _=>zoi }
theorem zoj:ym Tryz.prog gmH 126 zqb:=by
 refine zao (K:=gmK) zai Tryz.func126 rfl rfl Tryz.call126 rfl (by decide) (by intro h;cases h) ?_;rintro w0 X hX _ hp;change AWP _ _ _ _ _ ⟨[],[],0⟩ _;refine za (za ?_);refine zaa hX zai rfl ?_ ?_
 ·trivial
 refine za (za ?_);refine zaa hX zai rfl ?_ ?_
 ·trivial
 refine qB hX 0 ?_;refine zm ⟨.inr rfl,zat rfl trivial rfl rfl ?_⟩;rfl
def kKn2:Kn:={ gmK with C:=[(126,zqb)],H:=[63] }
theorem zcs:KnOk Tryz.prog gmH kKn2:=⟨zgM,zgL,.cons zoj .nil,zhN,RsOk.nil⟩
theorem znE (x:Option Addr) (y z:Nat):Tryz.prog.built 63 [(0,.int .i64 227021),(1,.slice x y z),(2,.int .i64 11)]=some #[.int .i64 227021,.slice x y z,.int .i64 11,.slice none 0 0]:=by kernel_rfl
set_option maxHeartbeats 1000000 in
theorem zpD:ym Tryz.prog gmH 75 ziW:=by
 refine zao (K:=kKn2) zcs Tryz.func75 rfl rfl Tryz.call75 rfl (by decide) (by intro h;cases h) ?_;rintro w0 X hX ⟨(k:Int),_⟩ hp;obtain⟨h0,h1⟩:0≤k∧k≤2:=by
  simp only[ziW,allP]at hp
  simpa using hp
 change AWP _ _ _ _ _ ⟨[(0,⟨i64,k⟩)],[],0⟩ _;refine za (za ?_);refine zaa hX zcs rfl ?_ ?_
 ·trivial
 refine za (za ?_);refine zaa hX zcs rfl ?_ ?_
 ·trivial
 apply zac;refine za (za ?_);refine zaa hX zcs rfl ?_ ?_
 ·trivial
 refine zae rfl (fun hb=>?_) (fun hb=>?_)
 ·have hb:(k==0)=true:=hb;obtain rfl:=beq_iff_eq.1 hb;refine za (za ?_);refine zaa hX zcs rfl ?_ ?_
  ·trivial
  refine zm ⟨.inr rfl,zba (by decide) rfl rfl trivial ?_⟩;rfl
 have hb:(k==0)=false:=hb;have hk0:k≠0:=fun e=>by rw[e]at hb;cases hb
 refine za (za ?_);refine zaa hX zcs rfl ?_ ?_
 ·trivial
 refine zae rfl (fun hb=>?_) (fun hb=>?_)
 ·have hb:(k==1)=true:=hb;obtain rfl:=beq_iff_eq.1 hb;refine za (za ?_);refine zaa hX zcs rfl ?_ ?_
  ·trivial
  refine zm ⟨.inr rfl,zba (by decide) rfl rfl trivial ?_⟩;rfl
 have hb:(k==1)=false:=hb;have hk1:k≠1:=fun e=>by rw[e]at hb;cases hb
 refine za (za ?_);refine zaa hX zcs rfl ?_ ?_
 ·trivial
 refine zae rfl (fun hb=>?_) (fun hb=>?_)
 ·have hb:(k==2)=true:=hb;obtain rfl:=beq_iff_eq.1 hb;(repeat(first|apply zaf|apply zab|apply zac|apply zad));refine zak ?_;refine yj 1 hX zcs rfl trivial ?_;refine AL.hand rfl (by intro c e;cases e) fun β a w hs=>?_;have hu:a.tmps.getD 24 undef=β 1:=hs.fr 24;obtain⟨x,y,z,hxyz⟩:∃ x y z,β 1= .slice x y z:=by
   obtain⟨cs,_,hro,_⟩:=hs.own 1 _ rfl;rcases hro.2 with ⟨e,_⟩|⟨g,cap,cur,e,_⟩
   ·exact⟨_,_,_,e⟩
   ·exact⟨_,_,_,e⟩
  rw[hxyz]at hu;refine zlc (v:=⟨.hcons i64 (.hcons (.obuf i64) (.hcons i64 (.hcons .lit .unit))),((227021:Int),(1:Nat),(11:Int),uW none 0 0,())⟩) rfl rfl (by decide) (N:=fun σ'=>AL _ w0 _ _ _ _ σ' _) ?_ hs (u:=.agg #[.int .i64 227021,.slice x y z,.int .i64 11,.slice none 0 0]) ?_ ?_
  rotate_left
  ·unfold execOp;refine zej ?_;rw[show (#[(0,kv (yD .i64 227021)),(1,Operand.tmp 24),(2,kv (yD .i64 11))]:Array (Nat×zK)).map (fun p=>(p.1,a.eval p.2))= #[(0,yD .i64 227021),(1,uW x y z),(2,yD .i64 11)] from by
    have e:a.eval (.tmp 24)= .slice x y z:=hu;simp[e];exact⟨rfl,rfl⟩]
   exact run_build w _ _ _ (znE x y z)
  ·refine⟨_,[.slice x y z,.int .i64 11,.slice none 0 0],rfl,rfl,(RepD.scalar (t:=.int .i64) rfl).2 rfl,?_⟩;refine⟨_,[.int .i64 11,.slice none 0 0],rfl,rfl,hxyz.symm,?_⟩;refine⟨_,[.slice none 0 0],rfl,rfl,(RepD.scalar (t:=.int .i64) rfl).2 rfl,?_⟩;refine⟨_,[],rfl,rfl,rfl,?_⟩;exact (RepD.agg rfl).2 ⟨[],rfl,rfl⟩
  refine zX hX zcs rfl trivial ?_;refine AWP.nilLeaf 2 3 129 lru rfl rfl rfl ?_;refine za (za ?_);refine zaa hX zcs rfl ?_ ?_
  ·trivial
  refine qB hX 5 ?_;refine za (za ?_);refine zaa hX zcs rfl ?_ ?_
  ·trivial
  (repeat(first|apply zaf|apply zab|apply zac|apply zad));refine yw (ι:=Nat) (fun j=>⟨[(2,⟨.hptr,((0:Nat),(0:Nat))⟩),(4,⟨.hptr,((2:Nat),(0:Nat))⟩),(5,⟨ints,zc6⟩),(6,⟨i64,(j:Int)⟩)],[(0,some (.hbox 63 [⟨i64,(0:Int)⟩,⟨.lit,.slice none 0 0⟩,⟨i64,(0:Int)⟩,⟨.lit,.slice none 0 0⟩])),(1,some (.buf 3 i64 zgG)),(2,some (.hbox 63 [⟨i64,(227021:Int)⟩,⟨.obuf i64,(1:Nat)⟩,⟨i64,(11:Int)⟩,⟨.obuf lru,(3:Nat)⟩])),(3,some (.buf 129 lru ((zc6.take j).map fun x=>(30,x,true,()))))],4⟩) (fun j=>j≤11) (fun j=>11 - j) 0 (zl _) ⟨⟨rfl,rfl,rfl,rfl,trivial⟩,⟨rfl,rfl,rfl,rfl,trivial⟩,rfl,rfl⟩ ?_;intro j hj;refine za (za ?_);refine zaa hX zcs rfl ?_ ?_
  ·trivial
  refine zae rfl (fun hb=>?_) (fun hb=>?_)
  ·have hb:decide ((j:Int) < ((zc6.length:Nat):Int))=true:=hb;have hb:=of_decide_eq_true hb;have hlt:j < zc6.length:=by omega
   have z0:(0:Int)≤(j:Int):=by omega
   have hl:((zc6.take j).map fun x=>((30,x,true,()):Lr)).length+1≤1000000000:=by rw[j9,yE];omega
   have z2:((j:Int)).toNat < zc6.length:=by omega
   (repeat(first|apply zaf|apply zab|apply zac|apply zad));refine AWP.drawN dM hX zcs 8 (by kernel_rfl) rfl rfl ?_ ?_ ?_
   ·repeat'(first|exact trivial|assumption|exact z0|exact hb|(refine⟨?_,?_⟩)|(intro _)|exact zb rfl|exact zd _|(simp_all [allP];done))
   ·exact hl
   refine za (za ?_);refine zaa hX zcs rfl ?_ ?_
   ·exact zaG (by omega)
   have h11:zc6.length=11:=rfl;refine⟨j+1,by omega,by omega,⟨rfl,rfl,rfl,zci _,trivial⟩,⟨rfl,rfl,rfl,bufL ?_,trivial⟩,rfl,rfl⟩;rw[zI hlt,xT];show _++ [((30:Int),zc6.getD (j:Int).toNat (0:Int),true,())]=_;rw[za4 hlt];rfl
  ·have hb:decide ((j:Int) < ((zc6.length:Nat):Int))=false:=hb;have hb:=of_decide_eq_false hb;have h11:zc6.length=11:=rfl;obtain rfl:j=11:=by omega
   apply zad;refine AWP.frzL hX 2 1 ?_;refine AWP.frzL hX 2 3 ?_;refine za (za ?_);refine zaa hX zcs rfl ?_ ?_
   ·trivial
   refine zm ⟨.inr rfl,zba (by decide) rfl rfl trivial ?_⟩;rfl
 ·have hb:(k==2)=false:=hb;exact absurd (beq_iff_eq.2 (by omega:k=2)) (by rw[hb];decide)
theorem zjG:∀ k:Int,0≤k∧k≤2->zgW (zgI k):=fun k hk=>by
 rcases (show k=0∨k=1∨k=2 by omega) with rfl|rfl|rfl
 ·exact⟨by decide,by decide,by decide,by decide,fun h=>absurd h (by decide),by decide,by decide+kernel⟩
 ·exact⟨by decide,by decide,by decide,by decide,fun h=>absurd h (by decide),by decide,by decide+kernel⟩
 ·exact⟨by decide,by decide,by decide,by decide,fun h=>absurd h (by decide),by decide,by decide+kernel⟩
def zdS:List Cal:=[zgI 0,zgI 1,zgI 2]
def zql:Ctr:={ args:=[],pre:=fun _=>[],res:=.slice cal,own:=none,out:=fun _=>zdS }
def kCl7:Kn:={ gmK with C:=[(75,ziW)] }
theorem zdy:KnOk Tryz.prog gmH kCl7:=zai.with (.cons zpD .nil)
theorem bufC2 {te:zq} {x y:List Cal} (h:x=y):some (OObj.buf te cal x)=some (OObj.buf te cal y):=by rw[h]
theorem zr8:ym Tryz.prog gmH 35 zql:=by
 refine zao (K:=kCl7) zdy Tryz.func35 rfl rfl Tryz.call35 rfl (by decide) (by intro h;cases h) ?_;rintro w0 X hX _ hp;change AWP _ _ _ _ _ ⟨[],[],0⟩ _;refine za (za ?_);refine zaa hX zdy rfl ?_ ?_
 ·trivial
 refine za (za ?_);refine zaa hX zdy rfl ?_ ?_
 ·trivial
 refine AWP.nilBuf hX 1 63 cal rfl rfl rfl ?_;refine za (za ?_);refine zaa hX zdy rfl ?_ ?_
 ·trivial
 (repeat(first|apply zaf|apply zab|apply zac|apply zad));refine yw (ι:=Nat) (fun i=>⟨[(1,⟨.obuf cal,(0:Nat)⟩),(2,⟨i64,(i:Int)⟩)],[(0,some (.buf 63 cal (zdS.take i)))],1⟩) (fun i=>i≤3) (fun i=>3 - i) 0 (zl _) ⟨⟨rfl,rfl,trivial⟩,⟨rfl,trivial⟩,rfl,rfl⟩ ?_;intro i hi;refine za (za ?_);refine zaa hX zdy rfl ?_ ?_
 ·trivial
 refine zae rfl (fun hb=>?_) (fun hb=>?_)
 ·have hb:decide ((i:Int) < 3)=true:=hb;have hb:=of_decide_eq_true hb;have z0:(0:Int)≤(i:Int):=by omega
  have z1:(i:Int)≤2:=by omega
  have hl:(zdS.take i).length+1≤1000000000:=by rw[yE];omega
  refine za (za ?_);refine zaa hX zdy rfl ?_ ?_
  ·repeat'(first|exact trivial|assumption|exact z0|exact z1|(refine⟨?_,?_⟩)|(intro _)|exact zb rfl|exact zd _|(simp_all [allP];done))
  refine za (za ?_);refine zaa hX zdy rfl ?_ ?_
  ·exact hl
  refine za (za ?_);refine zaa hX zdy rfl ?_ ?_
  ·exact zaG (by omega)
  refine⟨i+1,by omega,by omega,⟨rfl,zci _,trivial⟩,⟨bufC2 ?_,trivial⟩,rfl,rfl⟩;rcases (show i=0∨i=1∨i=2 by omega) with rfl|rfl|rfl<;>rfl
 ·have hb:decide ((i:Int) < 3)=false:=hb;have hb:=of_decide_eq_false hb;obtain rfl:i=3:=by omega
  apply zad;refine qB hX 1 ?_;(repeat(first|apply zaf|apply zab|apply zaj|apply zad|apply zac|refine zaa hX zdy rfl trivial ?_|refine zaa hX zdy rfl id ?_|refine zaa hX zdy rfl ⟨id,id⟩ ?_));refine zm ⟨.inr rfl,zat rfl trivial rfl rfl ?_⟩;rfl
def cVal6:Ctr:={ args:=[.slice nd,.slice cal],pre:=fun x=>[x.2.1=zdS],res:=i64,own:=none,out:=fun x=>zbg x.1 }
def k6v:Kn:={ gmK with C:=[(104,zsM),(105,zsN),(106,zgO)] }
theorem zbi:KnOk Tryz.prog gmH k6v:=zai.with (.cons zrM <| .cons zsa.lift <| .cons zl6 .nil)
theorem zuE {r:List Nd} {i:Nat} (hi:i < r.length) (h:bigN (zam r i)=true):r.any bigN=true:=by
 rw[List.any_eq_true];refine⟨r[i],xo hi,?_⟩;rw[zdq,zy,zC hi]at h;exact h
set_option maxHeartbeats 1000000 in
theorem zsV:ym Tryz.prog gmH 63 cVal6:=by
 refine zao (K:=k6v) zbi Tryz.func63 rfl rfl Tryz.call63 rfl (by decide) (by intro h;cases h) ?_;rintro w0 X hX ⟨(r:List Nd),(cs:List Cal),_⟩ hp;have hcs:cs=zdS:=hp;subst hcs;change AWP _ _ _ _ _ ⟨[(0,⟨.slice nd,r⟩),(1,⟨.slice cal,zdS⟩)],[],0⟩ _;refine j8 0 rfl fun hl=>?_;unfold maxLen at hl;refine za (za ?_);refine zaa hX zbi rfl ?_ ?_
 ·trivial
 refine za (za ?_);refine zaa hX zbi rfl ?_ ?_
 ·trivial
 refine zae rfl (fun hb=>?_) (fun hb=>?_)
 ·have hb:decide (((r.length:Nat):Int) > 64)=true:=hb;have hb:=of_decide_eq_true hb;(repeat(first|apply zaf|apply zab|apply zaj|apply zad|apply zac|refine zaa hX zbi rfl trivial ?_|refine zaa hX zbi rfl id ?_|refine zaa hX zbi rfl ⟨id,id⟩ ?_));refine zm ⟨.inr rfl,zat rfl trivial rfl rfl ?_⟩;show (2:Int)=zbg r;unfold zbg;rw[if_pos (.inl (by omega))]
 have hb:decide (((r.length:Nat):Int) > 64)=false:=hb;have hb:=of_decide_eq_false hb;have hl64:r.length≤64:=by omega
 apply zab;refine za (za ?_);refine zaa hX zbi rfl ?_ ?_
 ·trivial
 (repeat(first|apply zaf|apply zab|apply zac|apply zad));refine yw (ι:=Nat) (fun i=>⟨[(0,⟨.slice nd,r⟩),(1,⟨.slice cal,zdS⟩),(5,⟨i64,(i:Int)⟩)],[],0⟩) (fun i=>i≤r.length∧∀ j,j < i->bigN (zam r j)=false) (fun i=>r.length - i) 0 ⟨zl _,fun j hj=>absurd hj (yH _)⟩ ⟨⟨rfl,rfl,rfl,trivial⟩,trivial,rfl,rfl⟩ ?_;rintro i ⟨hi,hn⟩;refine za (za ?_);refine zaa hX zbi rfl ?_ ?_
 ·trivial
 refine zae rfl (fun hb=>?_) (fun hb=>?_)
 ·have hb:decide ((i:Int) < (r.length:Nat))=true:=hb;have hb:=of_decide_eq_true hb;have hlt:i < r.length:=by omega
  have z0:(0:Int)≤(i:Int):=by omega
  have z2:((i:Int)).toNat < r.length:=by omega
  refine za (za ?_);refine zaa hX zbi rfl ?_ ?_
  ·repeat'(first|exact trivial|assumption|exact z0|exact hb|exact z2|(refine⟨?_,?_⟩)|(intro _)|exact zb rfl|exact zd _|(simp_all [allP];done))
  have hq:(bif decide ((((ndI (zam r i)).length:Nat):Int) > 64) then true else decide ((((ndS (zam r i)).length:Nat):Int) > 32))=bigN (zam r i):=by
   rw[b_or];unfold bigN
   congr 1<;>(rw[zL,decide_eq_true_iff,decide_eq_true_iff];first|(show _↔_;omega)|omega)
  refine zae rfl (fun hc=>?_) (fun hc=>?_)
  ·have hc:=hq.symm.trans hc;(repeat(first|apply zaf|apply zab|apply zaj|apply zad|apply zac|refine zaa hX zbi rfl trivial ?_|refine zaa hX zbi rfl id ?_|refine zaa hX zbi rfl ⟨id,id⟩ ?_));refine zm ⟨.inr rfl,zat rfl trivial rfl rfl ?_⟩;show (2:Int)=zbg r;unfold zbg;rw[if_pos (.inr (zuE hlt hc))]
  ·have hc:=hq.symm.trans hc;apply zab;refine za (za ?_);refine zaa hX zbi rfl ?_ ?_
   ·exact zaG (by omega)
   exact⟨i+1,⟨hlt,fun j hj=>by
    by_cases e:j=i
    ·rw[e];exact hc
    ·exact hn j (by omega)⟩,by omega,⟨rfl,rfl,zci _,trivial⟩,trivial,rfl,rfl⟩
 have hb:decide ((i:Int) < (r.length:Nat))=false:=hb;have hb:=of_decide_eq_false hb;obtain rfl:i=r.length:=by omega
 have hbig:r.any bigN=false:=by
  rw[List.any_eq_false];intro x hx;obtain⟨j,hj,rfl⟩:=List.mem_iff_getElem.1 hx;have:=hn j hj;rw[zdq,zy,zC hj]at this;rw[show r[j]=(some r[j]).getD zNd from rfl,this];decide
 have hV:zbg r=if wfS r=true then 0 else 1:=by
  unfold zbg;rw[if_neg (by rw[hbig];rintro (h|h)<;>first|omega|cases h)]
 clear hn hi;apply zad;refine za (za ?_);refine zaa hX zbi rfl ?_ ?_
 ·repeat'(first|exact trivial|assumption|exact hl64|(refine⟨?_,?_⟩)|(intro _)|exact zb rfl|exact zd _|(simp_all [allP];done))
 have hc3:(((zdS.length:Nat):Int))=3:=rfl;refine zaq (σ':=⟨[(0,⟨.slice nd,r⟩),(1,⟨.slice cal,zdS⟩),(6,⟨.bool,wfS r⟩)],[],0⟩) ⟨⟨rfl,rfl,zcv (by show (bif wfS r then decide (((zdS.length:Nat):Int)≤3) else false)=wfS r;rw[hc3];cases wfS r<;>rfl),trivial⟩,trivial,rfl,rfl⟩ ?_;refine za (za ?_);refine zaa hX zbi rfl ?_ ?_
 ·trivial
 cases hw:wfS r with
 |false=>
  rw[hw]at hV;(repeat(first|apply zaf|apply zab|apply zac|apply zad));refine yw (ι:=Unit) (fun _=>⟨[(0,⟨.slice nd,r⟩),(1,⟨.slice cal,zdS⟩),(6,⟨.bool,false⟩),(7,⟨i64,(0:Int)⟩)],[],0⟩) (fun _=>True) (fun _=>0) () trivial ⟨⟨rfl,rfl,rfl,rfl,trivial⟩,trivial,rfl,rfl⟩ ?_;intro _ _;refine za (za ?_);refine zaa hX zbi rfl ?_ ?_
  ·repeat'(first|exact trivial|assumption|(refine⟨?_,?_⟩)|(intro _)|exact zb rfl|exact zd _|(simp_all [allP];done))
  refine zae rfl (fun hb=>?_) (fun _=>?_)
  ·have hb:(bif decide ((0:Int) < ((zdS.length:Nat):Int)) then false else false)=true:=hb;cases hb
  apply zad;refine za (za ?_);refine zaa hX zbi rfl ?_ ?_
  ·trivial
  (repeat(first|apply zaf|apply zab|apply zac|apply zad));refine yw (ι:=Unit) (fun _=>⟨[(0,⟨.slice nd,r⟩),(1,⟨.slice cal,zdS⟩),(6,⟨.bool,false⟩),(8,⟨i64,(0:Int)⟩)],[],0⟩) (fun _=>True) (fun _=>0) () trivial ⟨⟨rfl,rfl,rfl,rfl,trivial⟩,trivial,rfl,rfl⟩ ?_;intro _ _;refine za (za ?_);refine zaa hX zbi rfl ?_ ?_
  ·repeat'(first|exact trivial|assumption|(refine⟨?_,?_⟩)|(intro _)|exact zb rfl|exact zd _|(simp_all [allP];done))
  refine zae rfl (fun hb=>?_) (fun _=>?_)
  ·have hb:(bif decide ((0:Int) < ((r.length:Nat):Int)) then false else false)=true:=hb;generalize decide ((0:Int) < ((r.length:Nat):Int))=d at hb;cases d<;>cases hb
  apply zad;refine za (za ?_);refine zaa hX zbi rfl ?_ ?_
  ·trivial
  refine zae rfl (fun _=>?_) (fun hb=>absurd (show true=false from hb) (by decide));(repeat(first|apply zaf|apply zab|apply zaj|apply zad|apply zac|refine zaa hX zbi rfl trivial ?_|refine zaa hX zbi rfl id ?_|refine zaa hX zbi rfl ⟨id,id⟩ ?_));refine zm ⟨.inr rfl,zat rfl trivial rfl rfl ?_⟩;show (1:Int)=zbg r;rw[hV];rfl
 |true=>
  rw[hw]at hV;have hnd:=zdv.1 (zbX hw).2.1;(repeat(first|apply zaf|apply zab|apply zac|apply zad));refine yw (ι:=Nat) (fun i=>⟨[(0,⟨.slice nd,r⟩),(1,⟨.slice cal,zdS⟩),(6,⟨.bool,true⟩),(7,⟨i64,(i:Int)⟩)],[],0⟩) (fun i=>i≤3) (fun i=>3 - i) 0 (zl _) ⟨⟨rfl,rfl,rfl,rfl,trivial⟩,trivial,rfl,rfl⟩ ?_;intro i hi;refine za (za ?_);refine zaa hX zbi rfl ?_ ?_
  ·repeat'(first|exact trivial|assumption|(refine⟨?_,?_⟩)|(intro _)|exact zb rfl|exact zd _|(simp_all [allP];done))
  refine zae rfl (fun hb=>?_) (fun hb=>?_)
  ·have hb:(bif decide ((i:Int) < ((zdS.length:Nat):Int)) then true else false)=true:=hb;rw[hc3]at hb;have hb:(i:Int) < 3:=by
    by_cases h:(i:Int) < 3
    ·exact h
    ·rw[decide_eq_false h]at hb;cases hb
   have z0:(0:Int)≤(i:Int):=by omega
   have z1:(i:Int) < ((zdS.length:Nat):Int):=by rw[hc3];exact hb
   have hcl:zgW (zdS.getD ((i:Int)).toNat (zaC cal)):=by
    rcases (show i=0∨i=1∨i=2 by omega) with rfl|rfl|rfl
    ·exact zjG 0 (by decide)
    ·exact zjG 1 (by decide)
    ·exact zjG 2 (by decide)
   refine za (za ?_);refine zaa hX zbi rfl ?_ ?_
   ·exact⟨z0,z1,hcl⟩
   refine za (za ?_);refine zaa hX zbi rfl ?_ ?_
   ·exact zaG (by omega)
   exact⟨i+1,by omega,by omega,⟨rfl,rfl,rfl,zci _,trivial⟩,trivial,rfl,rfl⟩
  apply zad;refine za (za ?_);refine zaa hX zbi rfl ?_ ?_
  ·trivial
  (repeat(first|apply zaf|apply zab|apply zac|apply zad));refine yw (ι:=Nat) (fun i=>⟨[(0,⟨.slice nd,r⟩),(1,⟨.slice cal,zdS⟩),(6,⟨.bool,true⟩),(8,⟨i64,(i:Int)⟩)],[],0⟩) (fun i=>i≤r.length) (fun i=>r.length - i) 0 (zl _) ⟨⟨rfl,rfl,rfl,rfl,trivial⟩,trivial,rfl,rfl⟩ ?_;intro i hi;refine za (za ?_);refine zaa hX zbi rfl ?_ ?_
  ·repeat'(first|exact trivial|assumption|(refine⟨?_,?_⟩)|(intro _)|exact zb rfl|exact zd _|(simp_all [allP];done))
  refine zae rfl (fun hb=>?_) (fun hb=>?_)
  ·have hb:(bif decide ((i:Int) < ((r.length:Nat):Int)) then true else false)=true:=hb;have hb:(i:Int) < ((r.length:Nat):Int):=by
    by_cases h:(i:Int) < ((r.length:Nat):Int)
    ·exact h
    ·rw[decide_eq_false h]at hb;cases hb
   have hlt:i < r.length:=by omega
   have z0:(0:Int)≤(i:Int):=by omega
   have z2:((i:Int)).toNat < r.length:=by omega
   obtain⟨hf,_⟩:=(zf _ _).mp (hnd i hlt);obtain⟨⟨k1,k2⟩,_,hcal,_⟩:=zaF hf;have k1:1≤(r.getD ((i:Int)).toNat (zaC nd)).1:=k1;have k2:(r.getD ((i:Int)).toNat (zaC nd)).1≤18:=k2;have hC:ndC (r.getD i zNd) < 3:=by
    unfold zdE at hcal;cases hu:(zbM (ndK (r.getD i zNd))).2.1 with
    |true=>
     rw[hu]at hcal;have:=(zaK.1 hcal).2;omega
    |false=>
     rw[hu]at hcal;have:=eq_of_beq (show (ndC (r.getD i zNd)==0)=true from hcal);omega
   have hC:decide ((r.getD ((i:Int)).toNat (zaC nd)).2.1 < ((zdS.length:Nat):Int))=true:=decide_eq_true (by rw[hc3];exact hC);refine za (za ?_);refine zaa hX zbi rfl ?_ ?_
   ·cases zgO.out ((r.getD ((i:Int)).toNat (zaC nd)).1,())
    all_goals
     (repeat'(first|exact trivial|assumption|exact z0|exact hb|exact z2|exact k1|exact k2|rfl|(intro h;exact absurd h Bool.false_ne_true)|(refine⟨?_,?_⟩)|(intro _)))
   refine za (za ?_);refine zaa hX zbi rfl ?_ ?_
   ·exact zaG (by omega)
   refine⟨i+1,hlt,by omega,⟨rfl,rfl,zcv ?_,zci _,trivial⟩,trivial,rfl,rfl⟩;show (bif !zgO.out ((r.getD ((i:Int)).toNat (zaC nd)).1,()) then true else decide ((r.getD ((i:Int)).toNat (zaC nd)).2.1 < ((zdS.length:Nat):Int)))=true;rw[hC];cases zgO.out ((r.getD ((i:Int)).toNat (zaC nd)).1,())<;>rfl
  ·apply zad;refine za (za ?_);refine zaa hX zbi rfl ?_ ?_
   ·trivial
   refine zae rfl (fun hb=>absurd (show false=true from hb) (by decide)) (fun _=>?_);(repeat(first|apply zaf|apply zab|apply zaj|apply zad|apply zac|refine zaa hX zbi rfl trivial ?_|refine zaa hX zbi rfl id ?_|refine zaa hX zbi rfl ⟨id,id⟩ ?_));refine zm ⟨.inr rfl,zat rfl trivial rfl rfl ?_⟩;show (0:Int)=zbg r;rw[hV];rfl
theorem zps:ym Tryz.prog gmH 155 zmY:=by
 refine zao (K:=gmK) zai Tryz.func155 rfl rfl Tryz.call155 rfl (by decide) (by intro h;cases h) ?_;rintro w0 X hX ⟨(k:Int),_⟩ hp;change AWP _ _ _ _ _ ⟨[(0,⟨i64,k⟩)],[],0⟩ _;refine za (za ?_);refine zaa hX zai rfl ?_ ?_
 ·trivial
 refine za (za ?_);refine zaa hX zai rfl ?_ ?_
 ·trivial
 apply zac;refine za (za ?_);refine zaa hX zai rfl ?_ ?_
 ·trivial
 refine zae rfl (fun h=>?_) (fun h=>?_)
 ·have h:k=9:=eq_of_beq h;(repeat(first|apply zaf|apply zab|apply zaj|apply zad|apply zac|refine zaa hX zai rfl trivial ?_|refine zaa hX zai rfl id ?_|refine zaa hX zai rfl ⟨id,id⟩ ?_));refine zm ⟨.inr rfl,zat rfl trivial rfl rfl ?_⟩;show (1:Int)=levS k;rw[h];rfl
 have h9:k≠9:=fun e=>by have h:(k==9)=false:=h;rw[e]at h;cases h
 refine za (za ?_);refine zaa hX zai rfl ?_ ?_
 ·trivial
 refine zae rfl (fun h=>?_) (fun h=>?_)
 ·have h:k=10:=eq_of_beq h;(repeat(first|apply zaf|apply zab|apply zaj|apply zad|apply zac|refine zaa hX zai rfl trivial ?_|refine zaa hX zai rfl id ?_|refine zaa hX zai rfl ⟨id,id⟩ ?_));refine zm ⟨.inr rfl,zat rfl trivial rfl rfl ?_⟩;show (2:Int)=levS k;rw[h];rfl
 have h10:k≠10:=fun e=>by have h:(k==10)=false:=h;rw[e]at h;cases h
 refine za (za ?_);refine zaa hX zai rfl ?_ ?_
 ·trivial
 refine zae rfl (fun h=>?_) (fun h=>?_)
 ·have h:k=8:=eq_of_beq h;(repeat(first|apply zaf|apply zab|apply zaj|apply zad|apply zac|refine zaa hX zai rfl trivial ?_|refine zaa hX zai rfl id ?_|refine zaa hX zai rfl ⟨id,id⟩ ?_));refine zm ⟨.inr rfl,zat rfl trivial rfl rfl ?_⟩;show (3:Int)=levS k;rw[h];rfl
 have h8:k≠8:=fun e=>by have h:(k==8)=false:=h;rw[e]at h;cases h
 have hq:(bif decide (k≥11) then decide (k≤17) else false)=decide (11≤k∧k≤17):=by
  rw[zcS,zL,zf,decide_eq_true_iff,decide_eq_true_iff,decide_eq_true_iff]
 apply zab;refine za (za ?_);refine zaa hX zai rfl ?_ ?_
 ·repeat'(first|exact trivial|assumption|(refine⟨?_,?_⟩)|(intro _)|exact zb rfl|exact zd _|(simp_all [allP];done))
 have hL:levS k=if 11≤k∧k≤17 then 4 else 5:=by
  unfold levS;rw[if_neg h9,if_neg h10,if_neg h8]
 refine zae rfl (fun h=>?_) (fun h=>?_)
 ·have h:=of_decide_eq_true (hq.symm.trans h);(repeat(first|apply zaf|apply zab|apply zaj|apply zad|apply zac|refine zaa hX zai rfl trivial ?_|refine zaa hX zai rfl id ?_|refine zaa hX zai rfl ⟨id,id⟩ ?_));refine zm ⟨.inr rfl,zat rfl trivial rfl rfl ?_⟩;show (4:Int)=levS k;rw[hL,if_pos h]
 ·have h:=of_decide_eq_false (hq.symm.trans h);(repeat(first|apply zaf|apply zab|apply zaj|apply zad|apply zac|refine zaa hX zai rfl trivial ?_|refine zaa hX zai rfl id ?_|refine zaa hX zai rfl ⟨id,id⟩ ?_));refine zm ⟨.inr rfl,zat rfl trivial rfl rfl ?_⟩;show (5:Int)=levS k;rw[hL,if_neg h]
def scR (n:Int):List UInt8:=if n=1 then zd6 else ziv
theorem zor (n:Int):zcj n=32::scR n:=by unfold zcj scR;split<;>rfl
theorem zox (n:Int):(scR n).length≤10:=by unfold scR;split<;>decide
def zqd:Ctr:={ args:=[i64],pre:=fun _=>[],res:=.str,own:=none,out:=fun x=>scR x.1 }
theorem zot:ym Tryz.prog gmH 109 zqd:=by
 refine zao (K:=gmK) zai Tryz.func109 rfl rfl Tryz.call109 rfl (by decide) (by intro h;cases h) ?_;rintro w0 X hX ⟨(k:Int),_⟩ hp;change AWP _ _ _ _ _ ⟨[(0,⟨i64,k⟩)],[],0⟩ _;refine za (za ?_);refine zaa hX zai rfl ?_ ?_
 ·trivial
 refine za (za ?_);refine zaa hX zai rfl ?_ ?_
 ·trivial
 refine zae rfl (fun h=>?_) (fun h=>?_)
 ·have h:k=1:=eq_of_beq h;(repeat(first|apply zaf|apply zab|apply zaj|apply zad|apply zac|refine zaa hX zai rfl trivial ?_|refine zaa hX zai rfl id ?_|refine zaa hX zai rfl ⟨id,id⟩ ?_));refine zm ⟨.inr rfl,zat rfl trivial rfl rfl ?_⟩;show _=scR k;rw[h];rfl
 ·have h1:k≠1:=fun e=>by have h:(k==1)=false:=h;rw[e]at h;cases h
  (repeat(first|apply zaf|apply zab|apply zaj|apply zad|apply zac|refine zaa hX zai rfl trivial ?_|refine zaa hX zai rfl id ?_|refine zaa hX zai rfl ⟨id,id⟩ ?_));refine zm ⟨.inr rfl,zat rfl trivial rfl rfl ?_⟩;show _=scR k;unfold scR;rw[if_neg h1];rfl
def lstJ (l:List Int):List UInt8:=(litS 0 l).drop 1
def lstR (l:List Int):List UInt8:=if l=[] then [40,41] else lstJ l++ [41]
theorem zlx {l:List Int} (h:l≠ []):zb3 l=32::lstR l:=by
 cases l with
 |nil=>exact absurd rfl h
 |cons x r=>
  unfold lstR zb3;rw[if_neg (by simp)];rfl
theorem zmr {l:List Int} (h:∀ n∈l,zbU n):(lstJ l).length≤20 * l.length:=by
 have:=zeU l 0 h;unfold lstJ;rw[xd];omega
theorem zpi (l:List Int) (n:Int):(if l++ [n]=[] then [40] else lstJ (l++ [n]))=(if l=[] then [40] else lstJ l)++(if l=[] then [] else [32])++deI n:=by
 rw[if_neg (by simp)];cases l with
 |nil=>
  rw[if_pos rfl,if_pos rfl];show ((sepS 0++deI n++ []).drop 1:List UInt8)=[40]++ []++deI n;simp[sepS]
 |cons x r=>
  rw[if_neg (by simp),if_neg (by simp)];unfold lstJ;rw[zhD];show (sepS 0++deI x++litS 1 r++(sepS (0+(r.length+1))++deI n)).drop 1=_;rw[show sepS (0+(r.length+1))=[32] from if_neg (by omega)];show _=(sepS 0++deI x++litS 1 r).drop 1++ [32]++deI n;simp[sepS]
theorem bufS {x y:List UInt8} (h:x=y):(⟨.str,x⟩:V)=⟨.str,y⟩:=by rw[h]
def zsK:Ctr:={ args:=[ints],pre:=fun x=>[zh x.1≤1000,∀ n∈(x.1:List Int),zbU n],res:=.str,own:=none,out:=fun x=>lstR x.1 }
def kLi7:Kn:={ gmK with C:=[(107,cDec)] }
theorem zde:KnOk Tryz.prog gmH kLi7:=zai.with (.cons zp7.lift .nil)
theorem zrs:ym Tryz.prog gmH 108 zsK:=by
 refine zao (K:=kLi7) zde Tryz.func108 rfl rfl Tryz.call108 rfl (by decide) (by intro h;cases h) ?_;rintro w0 X hX ⟨(l:List Int),_⟩ hp;obtain⟨hl,hn⟩:l.length≤1000∧∀ n∈l,zbU n:=hp;change AWP _ _ _ _ _ ⟨[(0,⟨ints,l⟩)],[],0⟩ _;refine za (za ?_);refine zaa hX zde rfl ?_ ?_
 ·trivial
 refine za (za ?_);refine zaa hX zde rfl ?_ ?_
 ·trivial
 refine za (za ?_);refine zaa hX zde rfl ?_ ?_
 ·trivial
 (repeat(first|apply zaf|apply zab|apply zac|apply zad));refine yw (ι:=Nat) (fun i=>⟨[(0,⟨ints,l⟩),(3,⟨.str,if l.take i=[] then [40] else lstJ (l.take i)⟩),(4,⟨i64,(i:Int)⟩)],[],0⟩) (fun i=>i≤l.length) (fun i=>l.length - i) 0 (zl _) ⟨⟨rfl,rfl,rfl,trivial⟩,trivial,rfl,rfl⟩ ?_;intro i hi;have hlen:(if l.take i=[] then [40] else lstJ (l.take i):List UInt8).length≤20001:=by
  split
  ·decide
  ·have:=zmr (l:=l.take i) (fun n h=>hn n (List.mem_of_mem_take h));rw[yE]at this;omega
 refine za (za ?_);refine zaa hX zde rfl ?_ ?_
 ·trivial
 refine zae rfl (fun hb=>?_) (fun hb=>?_)
 ·have hb:decide ((i:Int) < ((l.length:Nat):Int))=true:=hb;have hb:=of_decide_eq_true hb;have hlt:i < l.length:=by omega
  have hsn:=zpi (l.take i) l[i];rw[<-zI hlt]at hsn;have ht0:l.take i=[]↔i=0:=by
   constructor
   ·intro e;have:=congrArg zh e;rw[yE,zW]at this;omega
   ·rintro rfl;rfl
  generalize (if l.take i=[] then [40] else lstJ (l.take i):List UInt8)=p at *;have z0:(0:Int)≤(i:Int):=by omega
  have z2:((i:Int)).toNat < l.length:=by omega
  have hget:l.getD ((i:Int)).toNat 0=l[i]:=by rw[zB,zy,zC hlt];rfl
  obtain⟨y0,y1⟩:=hn _ (xo hlt);have y0': -100000000000000000 < l.getD ((i:Int)).toNat 0:=by rw[hget];exact y0
  have y1':l.getD ((i:Int)).toNat 0 < 100000000000000000:=by rw[hget];exact y1
  have yl:(deI (l.getD ((i:Int)).toNat 0)).length≤18:=zdf y0' y1';have m1:p.length+1≤maxLen:=by unfold maxLen;omega
  have m2:p.length+(deI (l.getD ((i:Int)).toNat 0)).length≤maxLen:=by unfold maxLen;omega
  have m3:(p++ [32]:List UInt8).length+(deI (l.getD ((i:Int)).toNat 0)).length≤maxLen:=by rw[zg];show p.length+1+_≤_;unfold maxLen;omega
  have e1:l.length - (i+1) < l.length - i:=by omega
  have fin:inR .i64 ((i:Int)+1):=zaG (by omega);refine za (za ?_);refine zaa hX zde rfl ?_ ?_
  ·trivial
  refine zae rfl (fun hc=>?_) (fun hc=>?_)
  ·have hc:decide ((i:Int) > 0)=true:=hc;have hc:=of_decide_eq_true hc;refine za (za ?_);refine zaa hX zde rfl ?_ ?_
   ·exact m1
   refine za (za ?_);refine zaa hX zde rfl ?_ ?_
   ·repeat'(first|exact trivial|assumption|exact z0|exact hb|exact z2|exact y0'|exact y1'|exact m3|(refine⟨?_,?_⟩)|(intro _)|exact zb rfl|exact zd _|(simp_all [allP];done))
   refine za (za ?_);refine zaa hX zde rfl ?_ ?_
   ·exact fin
   refine⟨i+1,hlt,e1,⟨rfl,bufS ?_,zci _,trivial⟩,trivial,rfl,rfl⟩;show p++ [32]++deI (l.getD ((i:Int)).toNat 0)=_;rw[hget,hsn,if_neg (by rw[ht0];omega)]
  ·have hc:decide ((i:Int) > 0)=false:=hc;have hc:=of_decide_eq_false hc;apply zab;refine za (za ?_);refine zaa hX zde rfl ?_ ?_
   ·repeat'(first|exact trivial|assumption|exact z0|exact hb|exact z2|exact y0'|exact y1'|exact m2|(refine⟨?_,?_⟩)|(intro _)|exact zb rfl|exact zd _|(simp_all [allP];done))
   refine za (za ?_);refine zaa hX zde rfl ?_ ?_
   ·exact fin
   refine⟨i+1,hlt,e1,⟨rfl,bufS ?_,zci _,trivial⟩,trivial,rfl,rfl⟩;show p++deI (l.getD ((i:Int)).toNat 0)=_;rw[hget,hsn,if_pos (by rw[ht0];omega),zO]
 ·have hb:decide ((i:Int) < ((l.length:Nat):Int))=false:=hb;have hb:=of_decide_eq_false hb;obtain rfl:i=l.length:=by omega
  rw[xn]at hlen ⊢;apply zad;have m1:(if l=[] then [40] else lstJ l:List UInt8).length+1≤maxLen:=by unfold maxLen;omega
  refine za (za ?_);refine zaa hX zde rfl ?_ ?_
  ·exact m1
  refine zm ⟨.inr rfl,zat rfl trivial rfl rfl ?_⟩;show (if l=[] then [40] else lstJ l)++ [41]=lstR l;unfold lstR;split<;>rfl
theorem zfi {a:Int} (ha:zbU a):∀ x∈ [a],zbU x:=fun x hx=>by rw[zv]at hx;subst hx;exact ha
theorem numL2 {a b:Int} (ha:zbU a) (hb:zbU b):∀ x∈ [a,b],zbU x:=fun x hx=>by
 rcases ya.1 hx with rfl|hx
 ·exact ha
 ·exact zfi hb x hx
theorem ztr {a b c:Int} (ha:zbU a) (hb:zbU b) (hc:zbU c):∀ x∈ [a,b,c],zbU x:=fun x hx=>by
 rcases ya.1 hx with rfl|hx
 ·exact ha
 ·exact numL2 hb hc x hx
def hLf:List (zU×HCtr):=[(100,cPut),(150,zmX)]
theorem zd0:HsOk Tryz.prog gmH hLf:=.cons zoS <| .cons zms .nil
def kLf:Kn:={ gmK with C:=[(151,zqc)] }
theorem zaS:KnOk Tryz.prog gmH kLf:=zai.with (.cons zos .nil)
theorem zcY (n:Int):(zcj n).length≤10:=by
 unfold zcj;split
 ·decide
 ·decide
theorem cat3 (a b c:List UInt8):(a++b++c:List UInt8)=a++(b++c):=zs a b c
@[reducible] def zqj:HCtr:=hW [nd] (fun x xs=>[zh x.2.1+10000≤1000000000,zk7 xs.1,1≤ndK xs.1,ndK xs.1≤7∨ndK xs.1=18]) fun x xs=>zck xs.1
theorem zrA:zaD Tryz.prog gmH 103 zqj:=by
 refine zaw (K:=_) zaS Tryz.func103 rfl rfl (zcG rfl) Tryz.call103 rfl (zb rfl) (zdT prT [107]) ?_;rintro w0 ⟨G,O,K,fix,D,ρ,B⟩ ty hX hG hK hρ hD hinv ⟨(b:Bool),(bf:List UInt8),(r:List Nd),⟨⟩⟩ ⟨(n:Nd),⟨⟩⟩ hp;obtain rfl:G=gmH:=hG;obtain rfl:K=1:=hK;obtain rfl:ρ=none:=hρ;obtain rfl:D=[]:=hD;have hI:=fun w R hR hw=>(⟨zaM (ty:=ty) hX rfl hinv.1 (ty':=ty) w R hR hw,hinv.2⟩:bInv prT [107] w R ty);obtain⟨hlen,⟨⟨hC,hN,hM⟩,hI',hil,hnl,hsc,-⟩,hk0,hkk⟩:bf.length+10000≤1000000000∧zk7 n∧1≤ndK n∧(ndK n≤7∨ndK n=18):=hp;have hq0:bf.length+200+19 * 3≤1000000000:=by omega
 change AWP _ _ _ _ _ ⟨[(0,⟨.hptr,((0:Nat),(0:Nat))⟩),(1,⟨nd,n⟩)],wE ty b bf r,2⟩ (wQ _ zqj ty (.ok ((),(true,((bf++zck n:List UInt8),(r,()))))));unfold zck;refine za (za ?_);refine zaa hX zaS rfl ?_ ?_
 ·trivial
 refine za (za ?_);refine zaa hX zaS rfl ?_ ?_
 ·trivial
 apply zac;refine zaq (σ':=⟨[(0,⟨.hptr,((0:Nat),(0:Nat))⟩),(3,⟨.optr nd,⟨2,nd,.here⟩⟩),(5,⟨i64,ndK n⟩)],(2,some (.box nd n))::wE ty b bf r,3⟩) ⟨⟨rfl,rfl,rfl,trivial⟩,⟨rfl,rfl,rfl,trivial⟩,rfl,by cases b<;>rfl⟩ ?_;refine za (za ?_);refine zaa hX zaS rfl ?_ ?_
 ·trivial
 refine zae rfl (fun hb=>?_) (fun hb=>?_)
 ·have hb:(ndK n==1)=true:=hb;have hk:=beq_iff_eq.1 hb;rw[if_pos hk];cases b
  all_goals
   (repeat(first|apply zaf|apply zab|apply zac|apply zad));refine zak ?_;refine yq 6 hX zaS zd0 rfl trivial rfl rfl ⟨(by show zh bf+zh zi1+19 * 2≤1000000000;have:zh zi1≤20:=(by decide);omega),(numL2 hN hM)⟩ hI ?_;exact yf ⟨.inl rfl,⟨_,rfl,u8,1,_,rfl,rfl,rfl⟩,zba (by decide) rfl rfl trivial rfl⟩
 have hb:(ndK n==1)=false:=hb;have hk1:ndK n≠1:=fun e=>by rw[beq_iff_eq.2 e]at hb;cases hb
 rw[if_neg hk1];refine za (za ?_);refine zaa hX zaS rfl ?_ ?_
 ·trivial
 refine zae rfl (fun hb=>?_) (fun hb=>?_)
 ·have hb:(ndK n==2)=true:=hb;have hk:=beq_iff_eq.1 hb;rw[if_pos hk];cases b
  all_goals
   (repeat(first|apply zaf|apply zab|apply zac|apply zad));refine zak ?_;refine yq 8 hX zaS zd0 rfl trivial rfl rfl ⟨(by show zh bf+zh zfq+19 * 3≤1000000000;have:zh zfq≤20:=(by decide);omega),(ztr hC hN hM)⟩ hI ?_;exact yf ⟨.inl rfl,⟨_,rfl,u8,1,_,rfl,rfl,rfl⟩,zba (by decide) rfl rfl trivial rfl⟩
 have hb:(ndK n==2)=false:=hb;have hk2:ndK n≠2:=fun e=>by rw[beq_iff_eq.2 e]at hb;cases hb
 rw[if_neg hk2];refine za (za ?_);refine zaa hX zaS rfl ?_ ?_
 ·trivial
 refine zae rfl (fun hb=>?_) (fun hb=>?_)
 ·have hb:(ndK n==3)=true:=hb;have hk:=beq_iff_eq.1 hb;rw[if_pos hk];refine xN (σ':=⟨[(0,⟨.hptr,((0:Nat),(0:Nat))⟩),(3,⟨.optr nd,⟨2,nd,.here⟩⟩)],(2,some (.box nd n))::wE ty true ((bf++putS zcp [ndC n]:List UInt8)) r,3⟩) ?_ ?_
  ·cases b
   all_goals
    (repeat(first|apply zaf|apply zab|apply zac|apply zad));refine zak ?_;refine yq 4 hX zaS zd0 rfl trivial rfl rfl ⟨(by show zh bf+zh zcp+19 * 1≤1000000000;have:zh zcp≤20:=(by decide);omega),(zfi hC)⟩ hI ?_;exact yf ⟨⟨rfl,rfl,trivial⟩,⟨rfl,rfl,rfl,trivial⟩,rfl,rfl⟩
  have hl2:zh (bf++putS zcp [ndC n]:List UInt8)+20 * zh (ndI n)+1≤1000000000:=by
   have:=zbO (zfi hC);have hw:zh zcp≤20:=by decide
   simp only[putS,zg,zt,zW]at this ⊢;omega
  rw[show (bf++(putS zcp [ndC n]++zb3 (ndI n)):List UInt8)=bf++putS zcp [ndC n]++zb3 (ndI n) from (cat3 _ _ _).symm];(repeat(first|apply zaf|apply zab|apply zac|apply zad));refine zak ?_;refine yq 3 hX zaS zd0 rfl trivial rfl rfl ⟨hl2,hI'⟩ hI ?_;exact yf ⟨.inl rfl,⟨_,rfl,u8,1,_,rfl,rfl,rfl⟩,zba (by decide) rfl rfl trivial rfl⟩
 have hb:(ndK n==3)=false:=hb;have hk3:ndK n≠3:=fun e=>by rw[beq_iff_eq.2 e]at hb;cases hb
 rw[if_neg hk3];refine za (za ?_);refine zaa hX zaS rfl ?_ ?_
 ·trivial
 refine zae rfl (fun hb=>?_) (fun hb=>?_)
 ·have hb:(ndK n==4)=true:=hb;have hk:=beq_iff_eq.1 hb;rw[if_pos hk];refine xN (σ':=⟨[(0,⟨.hptr,((0:Nat),(0:Nat))⟩),(3,⟨.optr nd,⟨2,nd,.here⟩⟩)],(2,some (.box nd n))::wE ty true ((bf++putS za2 [ndC n]:List UInt8)) r,3⟩) ?_ ?_
  ·cases b
   all_goals
    (repeat(first|apply zaf|apply zab|apply zac|apply zad));refine zak ?_;refine yq 4 hX zaS zd0 rfl trivial rfl rfl ⟨(by show zh bf+zh za2+19 * 1≤1000000000;have:zh za2≤20:=(by decide);omega),(zfi hC)⟩ hI ?_;exact yf ⟨⟨rfl,rfl,trivial⟩,⟨rfl,rfl,rfl,trivial⟩,rfl,rfl⟩
  have hl2:zh (bf++putS za2 [ndC n]:List UInt8)+20 * zh (ndI n)+1≤1000000000:=by
   have:=zbO (zfi hC);have hw:zh za2≤20:=by decide
   simp only[putS,zg,zt,zW]at this ⊢;omega
  rw[show (bf++(putS za2 [ndC n]++zb3 (ndI n)):List UInt8)=bf++putS za2 [ndC n]++zb3 (ndI n) from (cat3 _ _ _).symm];(repeat(first|apply zaf|apply zab|apply zac|apply zad));refine zak ?_;refine yq 3 hX zaS zd0 rfl trivial rfl rfl ⟨hl2,hI'⟩ hI ?_;exact yf ⟨.inl rfl,⟨_,rfl,u8,1,_,rfl,rfl,rfl⟩,zba (by decide) rfl rfl trivial rfl⟩
 have hb:(ndK n==4)=false:=hb;have hk4:ndK n≠4:=fun e=>by rw[beq_iff_eq.2 e]at hb;cases hb
 rw[if_neg hk4];refine za (za ?_);refine zaa hX zaS rfl ?_ ?_
 ·trivial
 refine zae rfl (fun hb=>?_) (fun hb=>?_)
 ·have hb:(ndK n==5)=true:=hb;have hk:=beq_iff_eq.1 hb;rw[if_pos hk];refine xN (σ':=⟨[(0,⟨.hptr,((0:Nat),(0:Nat))⟩),(3,⟨.optr nd,⟨2,nd,.here⟩⟩)],(2,some (.box nd n))::wE ty true ((bf++putS zbf []:List UInt8)) r,3⟩) ?_ ?_
  ·cases b
   all_goals
    (repeat(first|apply zaf|apply zab|apply zac|apply zad));refine zak ?_;refine yq 1 hX zaS zd0 rfl trivial rfl rfl ⟨(by show zh bf+zh zbf+19 * 0≤1000000000;have:zh zbf≤20:=(by decide);omega),(fun x hx=>by cases hx)⟩ hI ?_;exact yf ⟨⟨rfl,rfl,trivial⟩,⟨rfl,rfl,rfl,trivial⟩,rfl,rfl⟩
  have hl2:zh (bf++putS zbf []:List UInt8)+20 * zh (ndI n)+1≤1000000000:=by
   have:=zbO (l:=[]) (fun x hx=>by cases hx);have hw:zh zbf≤20:=by decide
   simp only[putS,zg,zt,zW]at this ⊢;omega
  rw[show (bf++(putS zbf []++zb3 (ndI n)):List UInt8)=bf++putS zbf []++zb3 (ndI n) from (cat3 _ _ _).symm];(repeat(first|apply zaf|apply zab|apply zac|apply zad));refine zak ?_;refine yq 3 hX zaS zd0 rfl trivial rfl rfl ⟨hl2,hI'⟩ hI ?_;exact yf ⟨.inl rfl,⟨_,rfl,u8,1,_,rfl,rfl,rfl⟩,zba (by decide) rfl rfl trivial rfl⟩
 have hb:(ndK n==5)=false:=hb;have hk5:ndK n≠5:=fun e=>by rw[beq_iff_eq.2 e]at hb;cases hb
 rw[if_neg hk5];refine za (za ?_);refine zaa hX zaS rfl ?_ ?_
 ·trivial
 refine zae rfl (fun hb=>?_) (fun hb=>?_)
 ·have hb:(ndK n==6)=true:=hb;have hk:=beq_iff_eq.1 hb;rw[if_pos hk];refine xN (σ':=⟨[(0,⟨.hptr,((0:Nat),(0:Nat))⟩),(3,⟨.optr nd,⟨2,nd,.here⟩⟩)],(2,some (.box nd n))::wE ty true ((bf++putS zdh [ndC n]:List UInt8)) r,3⟩) ?_ ?_
  ·cases b
   all_goals
    (repeat(first|apply zaf|apply zab|apply zac|apply zad));refine zak ?_;refine yq 4 hX zaS zd0 rfl trivial rfl rfl ⟨(by show zh bf+zh zdh+19 * 1≤1000000000;have:zh zdh≤20:=(by decide);omega),(zfi hC)⟩ hI ?_;exact yf ⟨⟨rfl,rfl,trivial⟩,⟨rfl,rfl,rfl,trivial⟩,rfl,rfl⟩
  have hl2:zh (bf++putS zdh [ndC n]:List UInt8)+20 * zh (ndI n)+1≤1000000000:=by
   have:=zbO (zfi hC);have hw:zh zdh≤20:=by decide
   simp only[putS,zg,zt,zW]at this ⊢;omega
  rw[show (bf++(putS zdh [ndC n]++zb3 (ndI n)):List UInt8)=bf++putS zdh [ndC n]++zb3 (ndI n) from (cat3 _ _ _).symm];(repeat(first|apply zaf|apply zab|apply zac|apply zad));refine zak ?_;refine yq 3 hX zaS zd0 rfl trivial rfl rfl ⟨hl2,hI'⟩ hI ?_;exact yf ⟨.inl rfl,⟨_,rfl,u8,1,_,rfl,rfl,rfl⟩,zba (by decide) rfl rfl trivial rfl⟩
 have hb:(ndK n==6)=false:=hb;have hk6:ndK n≠6:=fun e=>by rw[beq_iff_eq.2 e]at hb;cases hb
 rw[if_neg hk6];refine za (za ?_);refine zaa hX zaS rfl ?_ ?_
 ·trivial
 refine zae rfl (fun hb=>?_) (fun hb=>?_)
 ·have hb:(ndK n==7)=true:=hb;have hk:=beq_iff_eq.1 hb;rw[if_pos hk];obtain⟨hs0,hs1⟩:=hsc hk;refine xN (σ':=⟨[(0,⟨.hptr,((0:Nat),(0:Nat))⟩),(3,⟨.optr nd,⟨2,nd,.here⟩⟩)],(2,some (.box nd n))::wE ty true ((bf++putS wNth [ndC n,ndN n,ndM n]:List UInt8)) r,3⟩) ?_ ?_
  ·cases b
   all_goals
    (repeat(first|apply zaf|apply zab|apply zac|apply zad));refine zak ?_;refine yq 8 hX zaS zd0 rfl trivial rfl rfl ⟨(by show zh bf+zh wNth+19 * 3≤1000000000;have:zh wNth≤20:=(by decide);omega),(ztr hC hN hM)⟩ hI ?_;exact yf ⟨⟨rfl,rfl,trivial⟩,⟨rfl,rfl,rfl,trivial⟩,rfl,rfl⟩
  have hl2:zh (bf++putS wNth [ndC n,ndN n,ndM n]:List UInt8)+zh (zcj (ndL n))+19 * 0≤1000000000:=by
   have:=zbO (ztr hC hN hM);have hw:zh wNth≤20:=by decide
   have hs:=zcY (ndL n);simp only[putS,zg,zt,zW]at this ⊢;omega
  rw[show (bf++(putS wNth [ndC n,ndN n,ndM n]++putS (zcj (ndL n)) []):List UInt8)=bf++putS wNth [ndC n,ndN n,ndM n]++putS (zcj (ndL n)) [] from (cat3 _ _ _).symm];(repeat(first|apply zaf|apply zab|apply zac|apply zad));refine zak ?_;refine yq 4 hX zaS zd0 rfl ⟨hs0,hs1⟩ rfl rfl ⟨hl2,fun x hx=>by cases hx⟩ hI ?_;exact yf ⟨.inl rfl,⟨_,rfl,u8,1,_,rfl,rfl,rfl⟩,zba (by decide) rfl rfl trivial rfl⟩
 have hb:(ndK n==7)=false:=hb;have hk7:ndK n≠7:=fun e=>by rw[beq_iff_eq.2 e]at hb;cases hb
 rw[if_neg hk7];refine za (za ?_);refine zaa hX zaS rfl ?_ ?_
 ·trivial
 refine zae rfl (fun hb=>?_) (fun hb=>?_)
 ·have hb:(ndK n==18)=true:=hb;have hk:=beq_iff_eq.1 hb;rw[if_pos hk];have hcat:1+zh (ndS n)≤maxLen:=by unfold maxLen;omega
  have hl2:zh bf+zh (wAt++ndS n:List UInt8)+19 * 0≤1000000000:=by
   rw[zg];show _+(1+_)+_≤_;omega
  cases b
  all_goals
   (repeat(first|apply zaf|apply zab|apply zac|apply zad));refine zak ?_;refine yq 4 hX zaS zd0 rfl hcat rfl rfl ⟨hl2,fun x hx=>by cases hx⟩ hI ?_;exact yf ⟨.inl rfl,⟨_,rfl,u8,1,_,rfl,rfl,rfl⟩,zba (by decide) rfl rfl trivial rfl⟩
 have hb:(ndK n==18)=false:=hb;have hk18:ndK n≠18:=fun e=>by rw[beq_iff_eq.2 e]at hb;cases hb
 rw[if_neg hk18];exfalso;omega
def WfP (r:List Nd):Prop:=r.length≤1000∧∀ j:Nat,j < r.length->zk7 (zam r j)∧(1≤ndK (zam r j)∧ndK (zam r j)≤18)∧(8≤ndK (zam r j)->ndK (zam r j)≤17->0≤ndL (zam r j)∧ndL (zam r j) < j)∧(8≤ndK (zam r j)->ndK (zam r j)≤10∨ndK (zam r j)=17->0≤ndR (zam r j)∧ndR (zam r j) < j)
@[reducible] def cOpd (k:Nat):HCtr:=hW [i64,i64] (fun x xs=>[WfP x.2.2.1,0≤xs.1,xs.1.toNat < k,xs.1.toNat < zh x.2.2.1,zh x.2.1+zh (opdF k x.2.2.1 xs.1 xs.2.1)+10000≤1000000000]) fun x xs=>opdF k x.2.2.1 xs.1 xs.2.1
@[reducible] def zsb (k:Nat):HCtr:=hW [nd] (fun x xs=>[WfP x.2.2.1,zk7 xs.1,11≤ndK xs.1,ndK xs.1≤17,ndK xs.1=17->0≤ndR xs.1∧(ndR xs.1).toNat < k∧(ndR xs.1).toNat < zh x.2.2.1,zh x.2.1+zh (zb2 (opdF k x.2.2.1 (ndR xs.1) 5) xs.1)+10000≤1000000000]) fun x xs=>zb2 (opdF k x.2.2.1 (ndR xs.1) 5) xs.1
def hSf (k:Nat):List (zU×HCtr):=[(100,cPut),(150,zmX),(99,cOpd k)]
theorem cat4 (a b c d:List UInt8):(a++b++c++d:List UInt8)=a++(b++(c++d)):=by rw[zs,zs]
theorem zna (k:Nat) (hO:zaD Tryz.prog gmH 99 (cOpd k)):zaD Tryz.prog gmH 102 (zsb k):=by
 have hsf:HsOk Tryz.prog gmH (hSf k):=.cons zoS <| .cons zms <| .cons hO .nil;refine zaw (K:=_) zaS Tryz.func102 rfl rfl (zcG rfl) Tryz.call102 rfl (zb rfl) (zdT prT [107]) ?_;rintro w0 ⟨G,O,K,fix,D,ρ,B⟩ ty hX hG hK hρ hD hinv ⟨(b:Bool),(bf:List UInt8),(r:List Nd),⟨⟩⟩ ⟨(n:Nd),⟨⟩⟩ hp;obtain rfl:G=gmH:=hG;obtain rfl:K=1:=hK;obtain rfl:ρ=none:=hρ;obtain rfl:D=[]:=hD;have hI:=fun w R hR hw=>(⟨zaM (ty:=ty) hX rfl hinv.1 (ty':=ty) w R hR hw,hinv.2⟩:bInv prT [107] w R ty);obtain⟨hwf,⟨⟨hC,hN,hM⟩,hI',hil,hnl,-,hsc⟩,hk0,hkk,hbh,hT⟩:WfP r∧zk7 n∧11≤ndK n∧ndK n≤17∧(ndK n=17->0≤ndR n∧(ndR n).toNat < k∧(ndR n).toNat < r.length)∧bf.length+(zb2 (opdF k r (ndR n) 5) n).length+10000≤1000000000:=hp;have hlen:bf.length+10000≤1000000000:=by omega
 change AWP _ _ _ _ _ ⟨[(0,⟨.hptr,((0:Nat),(0:Nat))⟩),(1,⟨nd,n⟩)],wE ty b bf r,2⟩ (wQ _ (zsb k) ty (.ok ((),(true,((bf++zb2 (opdF k r (ndR n) 5) n:List UInt8),(r,()))))));unfold zb2 at hT ⊢;refine za (za ?_);refine zaa hX zaS rfl ?_ ?_
 ·trivial
 refine za (za ?_);refine zaa hX zaS rfl ?_ ?_
 ·trivial
 apply zac;refine zaq (σ':=⟨[(0,⟨.hptr,((0:Nat),(0:Nat))⟩),(3,⟨.optr nd,⟨2,nd,.here⟩⟩),(5,⟨i64,ndK n⟩)],(2,some (.box nd n))::wE ty b bf r,3⟩) ⟨⟨rfl,rfl,rfl,trivial⟩,⟨rfl,rfl,rfl,trivial⟩,rfl,by cases b<;>rfl⟩ ?_;refine za (za ?_);refine zaa hX zaS rfl ?_ ?_
 ·trivial
 refine zae rfl (fun hb=>?_) (fun hb=>?_)
 ·have hb:(ndK n==11)=true:=hb;have hk:=beq_iff_eq.1 hb;rw[if_pos hk];cases b
  all_goals
   (repeat(first|apply zaf|apply zab|apply zac|apply zad));refine zak ?_;refine yq 4 hX zaS hsf rfl trivial rfl rfl ⟨(by show zh bf+zh (spW zeo)+19 * 1≤1000000000;have:zh (spW zeo)≤20:=(by decide);omega),(zfi hN)⟩ hI ?_;exact yf ⟨.inl rfl,⟨_,rfl,u8,1,_,rfl,rfl,rfl⟩,zba (by decide) rfl rfl trivial rfl⟩
 have hb:(ndK n==11)=false:=hb;have hk11:ndK n≠11:=fun e=>by rw[beq_iff_eq.2 e]at hb;cases hb
 rw[if_neg hk11];refine za (za ?_);refine zaa hX zaS rfl ?_ ?_
 ·trivial
 refine zae rfl (fun hb=>?_) (fun hb=>?_)
 ·have hb:(ndK n==12)=true:=hb;have hk:=beq_iff_eq.1 hb;rw[if_pos hk];cases b
  all_goals
   (repeat(first|apply zaf|apply zab|apply zac|apply zad));refine zak ?_;refine yq 4 hX zaS hsf rfl trivial rfl rfl ⟨(by show zh bf+zh (spW zhe)+19 * 1≤1000000000;have:zh (spW zhe)≤20:=(by decide);omega),(zfi hN)⟩ hI ?_;exact yf ⟨.inl rfl,⟨_,rfl,u8,1,_,rfl,rfl,rfl⟩,zba (by decide) rfl rfl trivial rfl⟩
 have hb:(ndK n==12)=false:=hb;have hk12:ndK n≠12:=fun e=>by rw[beq_iff_eq.2 e]at hb;cases hb
 rw[if_neg hk12];refine za (za ?_);refine zaa hX zaS rfl ?_ ?_
 ·trivial
 refine zae rfl (fun hb=>?_) (fun hb=>?_)
 ·have hb:(ndK n==13)=true:=hb;have hk:=beq_iff_eq.1 hb;rw[if_pos hk];cases b
  all_goals
   (repeat(first|apply zaf|apply zab|apply zac|apply zad));refine zak ?_;refine yq 4 hX zaS hsf rfl trivial rfl rfl ⟨(by show zh bf+zh (spW zen)+19 * 1≤1000000000;have:zh (spW zen)≤20:=(by decide);omega),(zfi hN)⟩ hI ?_;exact yf ⟨.inl rfl,⟨_,rfl,u8,1,_,rfl,rfl,rfl⟩,zba (by decide) rfl rfl trivial rfl⟩
 have hb:(ndK n==13)=false:=hb;have hk13:ndK n≠13:=fun e=>by rw[beq_iff_eq.2 e]at hb;cases hb
 rw[if_neg hk13];refine za (za ?_);refine zaa hX zaS rfl ?_ ?_
 ·trivial
 refine zae rfl (fun hb=>?_) (fun hb=>?_)
 ·have hb:(ndK n==14)=true:=hb;have hk:=beq_iff_eq.1 hb;rw[if_pos hk];refine xN (σ':=⟨[(0,⟨.hptr,((0:Nat),(0:Nat))⟩),(3,⟨.optr nd,⟨2,nd,.here⟩⟩)],(2,some (.box nd n))::wE ty true ((bf++putS (spW ze1) []:List UInt8)) r,3⟩) ?_ ?_
  ·cases b
   all_goals
    (repeat(first|apply zaf|apply zab|apply zac|apply zad));refine zak ?_;refine yq 1 hX zaS hsf rfl trivial rfl rfl ⟨(by show zh bf+zh (spW ze1)+19 * 0≤1000000000;have:zh (spW ze1)≤20:=(by decide);omega),(fun x hx=>by cases hx)⟩ hI ?_;exact yf ⟨⟨rfl,rfl,trivial⟩,⟨rfl,rfl,rfl,trivial⟩,rfl,rfl⟩
  have hl2:zh (bf++putS (spW ze1) []:List UInt8)+20 * zh (ndI n)+1≤1000000000:=by
   have:=zbO (l:=[]) (fun x hx=>by cases hx);have hw:zh (spW ze1)≤20:=by decide
   simp only[putS,zg,zt,zW]at this ⊢;omega
  rw[show (bf++(putS (spW ze1) []++zb3 (ndI n)):List UInt8)=bf++putS (spW ze1) []++zb3 (ndI n) from (cat3 _ _ _).symm];(repeat(first|apply zaf|apply zab|apply zac|apply zad));refine zak ?_;refine yq 3 hX zaS hsf rfl trivial rfl rfl ⟨hl2,hI'⟩ hI ?_;exact yf ⟨.inl rfl,⟨_,rfl,u8,1,_,rfl,rfl,rfl⟩,zba (by decide) rfl rfl trivial rfl⟩
 have hb:(ndK n==14)=false:=hb;have hk14:ndK n≠14:=fun e=>by rw[beq_iff_eq.2 e]at hb;cases hb
 rw[if_neg hk14];refine za (za ?_);refine zaa hX zaS rfl ?_ ?_
 ·trivial
 refine zae rfl (fun hb=>?_) (fun hb=>?_)
 ·have hb:(ndK n==15)=true:=hb;have hk:=beq_iff_eq.1 hb;rw[if_pos hk];refine xN (σ':=⟨[(0,⟨.hptr,((0:Nat),(0:Nat))⟩),(3,⟨.optr nd,⟨2,nd,.here⟩⟩)],(2,some (.box nd n))::wE ty true ((bf++putS (spW zcq) []:List UInt8)) r,3⟩) ?_ ?_
  ·cases b
   all_goals
    (repeat(first|apply zaf|apply zab|apply zac|apply zad));refine zak ?_;refine yq 1 hX zaS hsf rfl trivial rfl rfl ⟨(by show zh bf+zh (spW zcq)+19 * 0≤1000000000;have:zh (spW zcq)≤20:=(by decide);omega),(fun x hx=>by cases hx)⟩ hI ?_;exact yf ⟨⟨rfl,rfl,trivial⟩,⟨rfl,rfl,rfl,trivial⟩,rfl,rfl⟩
  have hl2:zh (bf++putS (spW zcq) []:List UInt8)+20 * zh (ndI n)+1≤1000000000:=by
   have:=zbO (l:=[]) (fun x hx=>by cases hx);have hw:zh (spW zcq)≤20:=by decide
   simp only[putS,zg,zt,zW]at this ⊢;omega
  rw[show (bf++(putS (spW zcq) []++zb3 (ndI n)):List UInt8)=bf++putS (spW zcq) []++zb3 (ndI n) from (cat3 _ _ _).symm];(repeat(first|apply zaf|apply zab|apply zac|apply zad));refine zak ?_;refine yq 3 hX zaS hsf rfl trivial rfl rfl ⟨hl2,hI'⟩ hI ?_;exact yf ⟨.inl rfl,⟨_,rfl,u8,1,_,rfl,rfl,rfl⟩,zba (by decide) rfl rfl trivial rfl⟩
 have hb:(ndK n==15)=false:=hb;have hk15:ndK n≠15:=fun e=>by rw[beq_iff_eq.2 e]at hb;cases hb
 rw[if_neg hk15];refine za (za ?_);refine zaa hX zaS rfl ?_ ?_
 ·trivial
 refine zae rfl (fun hb=>?_) (fun hb=>?_)
 ·have hb:(ndK n==16)=true:=hb;have hk:=beq_iff_eq.1 hb;rw[if_pos hk];obtain⟨hs0,hs1⟩:=hsc hk;refine xN (σ':=⟨[(0,⟨.hptr,((0:Nat),(0:Nat))⟩),(3,⟨.optr nd,⟨2,nd,.here⟩⟩)],(2,some (.box nd n))::wE ty true ((bf++putS (spW wPos) [ndC n]:List UInt8)) r,3⟩) ?_ ?_
  ·cases b
   all_goals
    (repeat(first|apply zaf|apply zab|apply zac|apply zad));refine zak ?_;refine yq 4 hX zaS hsf rfl trivial rfl rfl ⟨(by show zh bf+zh (spW wPos)+19 * 1≤1000000000;have:zh (spW wPos)≤20:=(by decide);omega),(zfi hC)⟩ hI ?_;exact yf ⟨⟨rfl,rfl,trivial⟩,⟨rfl,rfl,rfl,trivial⟩,rfl,rfl⟩
  have hl2:zh (bf++putS (spW wPos) [ndC n]:List UInt8)+zh (zcj (ndM n))+19 * 0≤1000000000:=by
   have:=zbO (zfi hC);have hw:zh (spW wPos)≤20:=by decide
   have hs:=zcY (ndM n);simp only[putS,zg,zt,zW]at this ⊢;omega
  refine xN (σ':=⟨[(0,⟨.hptr,((0:Nat),(0:Nat))⟩),(3,⟨.optr nd,⟨2,nd,.here⟩⟩)],(2,some (.box nd n))::wE ty true ((bf++putS (spW wPos) [ndC n]++putS (zcj (ndM n)) []:List UInt8)) r,3⟩) ?_ ?_
  ·cases b
   all_goals
    (repeat(first|apply zaf|apply zab|apply zac|apply zad));refine zak ?_;refine yq 4 hX zaS hsf rfl ⟨hs0,hs1⟩ rfl rfl ⟨hl2,fun x hx=>by cases hx⟩ hI ?_;exact yf ⟨⟨rfl,rfl,trivial⟩,⟨rfl,rfl,rfl,trivial⟩,rfl,rfl⟩
  have hl2b:zh (bf++putS (spW wPos) [ndC n]++putS (zcj (ndM n)) []:List UInt8)+20 * zh (ndI n)+1≤1000000000:=by
   have:=zbO (zfi hC);have hw:zh (spW wPos)≤20:=by decide
   have hs:=zcY (ndM n);have h0:zh (zch [])=0:=rfl;simp only[putS,zg,zt,zW]at this h0 ⊢;omega
  rw[show (bf++(putS (spW wPos) [ndC n]++(putS (zcj (ndM n)) []++zb3 (ndI n))):List UInt8)=bf++putS (spW wPos) [ndC n]++putS (zcj (ndM n)) []++zb3 (ndI n) from (cat4 _ _ _ _).symm];(repeat(first|apply zaf|apply zab|apply zac|apply zad));refine zak ?_;refine yq 3 hX zaS hsf rfl trivial rfl rfl ⟨hl2b,hI'⟩ hI ?_;exact yf ⟨.inl rfl,⟨_,rfl,u8,1,_,rfl,rfl,rfl⟩,zba (by decide) rfl rfl trivial rfl⟩
 have hb:(ndK n==16)=false:=hb;have hk16:ndK n≠16:=fun e=>by rw[beq_iff_eq.2 e]at hb;cases hb
 rw[if_neg hk16];refine za (za ?_);refine zaa hX zaS rfl ?_ ?_
 ·trivial
 refine zae rfl (fun hb=>?_) (fun hb=>?_)
 ·have hb:(ndK n==17)=true:=hb;have hk:=beq_iff_eq.1 hb;rw[if_pos hk];refine xN (σ':=⟨[(0,⟨.hptr,((0:Nat),(0:Nat))⟩),(3,⟨.optr nd,⟨2,nd,.here⟩⟩)],(2,some (.box nd n))::wE ty true ((bf++putS (spW zbE) [ndN n]:List UInt8)) r,3⟩) ?_ ?_
  ·cases b
   all_goals
    (repeat(first|apply zaf|apply zab|apply zac|apply zad));refine zak ?_;refine yq 4 hX zaS hsf rfl trivial rfl rfl ⟨(by show zh bf+zh (spW zbE)+19 * 1≤1000000000;have:zh (spW zbE)≤20:=(by decide);omega),(zfi hN)⟩ hI ?_;exact yf ⟨⟨rfl,rfl,trivial⟩,⟨rfl,rfl,rfl,trivial⟩,rfl,rfl⟩
  obtain⟨hb0,hb1,hb2⟩:=hbh hk;have hl2:zh (bf++putS (spW zbE) [ndN n]:List UInt8)+zh (spW wOf++ [32]:List UInt8)+19 * 0≤1000000000:=by
   have:=zbO (zfi hN);have hw:zh (spW zbE)≤20:=by decide
   have hw2:zh (spW wOf++ [32]:List UInt8)≤20:=by decide
   rw[zg];simp only[putS,zg,zt,zW]at this hw2 ⊢;omega
  refine xN (σ':=⟨[(0,⟨.hptr,((0:Nat),(0:Nat))⟩),(3,⟨.optr nd,⟨2,nd,.here⟩⟩)],(2,some (.box nd n))::wE ty true ((bf++putS (spW zbE) [ndN n]++putS (spW wOf++ [32]) []:List UInt8)) r,3⟩) ?_ ?_
  ·cases b
   all_goals
    (repeat(first|apply zaf|apply zab|apply zac|apply zad));refine zak ?_;refine yq 1 hX zaS hsf rfl trivial rfl rfl ⟨hl2,fun x hx=>by cases hx⟩ hI ?_;exact yf ⟨⟨rfl,rfl,trivial⟩,⟨rfl,rfl,rfl,trivial⟩,rfl,rfl⟩
  have hl3:zh (bf++putS (spW zbE) [ndN n]++putS (spW wOf++ [32]) []:List UInt8)+zh (opdF k r (ndR n) 5)+10000≤1000000000:=by
   rw[if_neg hk11,if_neg hk12,if_neg hk13,if_neg hk14,if_neg hk15,if_neg hk16,if_pos hk]at hT;rw[zg,zg]at hT ⊢;omega
  rw[show (bf++(putS (spW zbE) [ndN n]++(putS (spW wOf++ [32]) []++opdF k r (ndR n) 5)):List UInt8)=bf++putS (spW zbE) [ndN n]++putS (spW wOf++ [32]) []++opdF k r (ndR n) 5 from (cat4 _ _ _ _).symm];(repeat(first|apply zaf|apply zab|apply zac|apply zad));refine zak ?_;refine yq 3 hX zaS hsf rfl trivial rfl rfl ⟨hwf,hb0,hb1,hb2,hl3⟩ hI ?_;exact yf ⟨.inl rfl,⟨_,rfl,u8,1,_,rfl,rfl,rfl⟩,zba (by decide) rfl rfl trivial rfl⟩
 have hb:(ndK n==17)=false:=hb;have hk17:ndK n≠17:=fun e=>by rw[beq_iff_eq.2 e]at hb;cases hb
 rw[if_neg hk17];exfalso;omega
@[reducible] def zkZ (k:Nat):HCtr:=hW [i64] (fun x xs=>[WfP x.2.2.1,0≤xs.1,xs.1.toNat < k,xs.1.toNat < zh x.2.2.1,zh x.2.1+zh (zaU k x.2.2.1 xs.1)+10000≤1000000000]) fun x xs=>zaU k x.2.2.1 xs.1
def kOd:Kn:={ gmK with C:=[(98,zmY),(101,cOps)] }
theorem zb5:KnOk Tryz.prog gmH kOd:=zai.with (.cons zrx <| .cons zgF .nil)
def hOd (k:Nat):List (zU×HCtr):=[(66,cWSP),(60,zkZ k)]
theorem znw (k:Nat) (hNd:zaD Tryz.prog gmH 60 (zkZ k)):zaD Tryz.prog gmH 99 (cOpd k):=by
 have hod:HsOk Tryz.prog gmH (hOd k):=.cons zis <| .cons hNd .nil;refine zaw (K:=_) zb5 Tryz.func99 rfl rfl (zcG rfl) Tryz.call99 rfl (zb rfl) (zdT prT [107]) ?_;rintro w0 ⟨G,O,K,fix,D,ρ,B⟩ ty hX hG hK hρ hD hinv ⟨(b:Bool),(bf:List UInt8),(r:List Nd),⟨⟩⟩ ⟨(i:Int),(q:Int),⟨⟩⟩ hp;obtain rfl:G=gmH:=hG;obtain rfl:K=1:=hK;obtain rfl:ρ=none:=hρ;obtain rfl:D=[]:=hD;have hI:=fun w R hR hw=>(⟨zaM (ty:=ty) hX rfl hinv.1 (ty':=ty) w R hR hw,hinv.2⟩:bInv prT [107] w R ty);obtain⟨hwf,h0,hk,hr,hT⟩:WfP r∧0≤i∧i.toNat < k∧i.toNat < r.length∧bf.length+(opdF k r i q).length+10000≤1000000000:=hp;have hil:i < ((r.length:Nat):Int):=by omega
 change AWP _ _ _ _ _ ⟨[(0,⟨.hptr,((0:Nat),(0:Nat))⟩),(1,⟨i64,i⟩),(2,⟨i64,q⟩)],wE ty b bf r,2⟩ (wQ _ (cOpd k) ty (.ok ((),(true,((bf++opdF k r i q:List UInt8),(r,()))))));unfold opdF at hT ⊢;apply zaf;refine xN (σ':=⟨[(0,⟨.hptr,((0:Nat),(0:Nat))⟩),(1,⟨i64,i⟩),(16,⟨.bool,decide (levS (ndK (zam r i))≥q)⟩)],wE ty b bf r,2⟩) ?_ ?_
 ·cases b
  all_goals
   refine zak ?_;refine yj 2 hX zb5 rfl trivial ?_;refine jO (eqP1 _ _ rfl) hX zb5 rfl trivial ?_;refine zX hX zb5 rfl ⟨h0,hil⟩ ?_;exact⟨⟨rfl,rfl,rfl,trivial⟩,⟨rfl,rfl,trivial⟩,rfl,rfl⟩
 refine zae rfl (fun hb=>?_) (fun hb=>?_)
 ·have hb:decide (levS (ndK (zam r i))≥q)=true:=hb;rw[hb]at hT ⊢;have hT:bf.length+(zaU k r i).length+10000≤1000000000:=hT;show AWP _ _ _ _ _ _ (zj1 _ (wQ _ (cOpd k) ty (.ok ((),(true,((bf++zaU k r i:List UInt8),(r,())))))));cases b
  all_goals
   (repeat(first|apply zaf|apply zab|apply zac|apply zad));refine zak ?_;refine yq 2 hX zb5 hod rfl trivial rfl rfl ⟨hwf,h0,hk,hr,hT⟩ hI ?_;refine yf ?_;exact zm ⟨.inr rfl,⟨_,rfl,u8,1,_,rfl,rfl,rfl⟩,zba (by decide) rfl rfl trivial rfl⟩
 ·have hb:decide (levS (ndK (zam r i))≥q)=false:=hb;rw[hb]at hT ⊢;have hT:bf.length+([40]++(zaU k r i++ [41]):List UInt8).length+10000≤1000000000:=hT;rw[zg,zg]at hT;have hT1:bf.length+zh ([40]:List UInt8)≤1000000000:=by omega
  have hT2:zh (bf++ [40]:List UInt8)+(zaU k r i).length+10000≤1000000000:=by rw[zg];omega
  have hT3:zh (bf++ [40]++zaU k r i:List UInt8)+zh ([41]:List UInt8)≤1000000000:=by rw[zg,zg];omega
  apply zab;rw[show (bf++parS false (zaU k r i):List UInt8)=bf++ [40]++zaU k r i++ [41] from (cat4 _ _ _ _).symm];refine xN (σ':=⟨[(0,⟨.hptr,((0:Nat),(0:Nat))⟩),(1,⟨i64,i⟩)],wE ty true ((bf++ [40]:List UInt8)) r,2⟩) ?_ ?_
  ·cases b
   all_goals
    refine zak ?_;refine yj 2 hX zb5 rfl trivial ?_;refine jO (eqP0 _ _ rfl) hX zb5 rfl trivial ?_;refine yq 0 hX zb5 hod rfl trivial rfl rfl hT1 hI ?_;exact yf ⟨⟨rfl,rfl,trivial⟩,⟨rfl,rfl,trivial⟩,rfl,rfl⟩
  (repeat(first|apply zaf|apply zab|apply zac|apply zad));refine zak ?_;refine yq 2 hX zb5 hod rfl trivial rfl rfl ⟨hwf,h0,hk,hr,hT2⟩ hI ?_;refine yf ?_;refine zaq (σ':=⟨[(0,⟨.hptr,((0:Nat),(0:Nat))⟩)],wE ty true ((bf++ [40]++zaU k r i:List UInt8)) r,2⟩) ⟨⟨rfl,trivial⟩,⟨rfl,rfl,trivial⟩,rfl,rfl⟩ ?_;refine zak ?_;refine yj 2 hX zb5 rfl trivial ?_;refine jO (eqP0 _ _ rfl) hX zb5 rfl trivial ?_;refine yq 0 hX zb5 hod rfl trivial rfl rfl hT3 hI ?_;refine yf ?_;exact⟨.inl rfl,⟨_,rfl,u8,1,_,rfl,rfl,rfl⟩,zba (by decide) rfl rfl trivial rfl⟩
theorem ztG {k:Int} (h:levS k < 4):(8≤k∧k≤10)∧1≤levS k:=by
 unfold levS at *;split at h
 ·rename_i e;subst e;decide
 ·split at h
  ·rename_i e;subst e;decide
  ·split at h
   ·rename_i e;subst e;decide
   ·split at h<;>omega
theorem levS_4 {k:Int} (h:levS k=4):11≤k∧k≤17:=by
 unfold levS at h;split at h
 ·omega
 ·split at h
  ·omega
  ·split at h
   ·omega
   ·split at h
    ·assumption
    ·omega
theorem levS_5 {k:Int} (h4:¬ levS k < 4) (h5:levS k≠4):¬ (8≤k∧k≤17):=by
 intro hk;unfold levS at *;split at h4
 ·omega
 ·split at h4
  ·omega
  ·split at h4
   ·omega
   ·split at h4
    ·rename_i a b c d;rw[if_neg a,if_neg b,if_neg c,if_pos d]at h5;exact h5 rfl
    ·omega
def hNo (k:Nat):List (zU×HCtr):=[(99,cOpd k),(100,cPut),(102,zsb k),(103,zqj)]
theorem ztt (k:Nat) (hOp:zaD Tryz.prog gmH 99 (cOpd k)) (hSu:zaD Tryz.prog gmH 102 (zsb k)):zaD Tryz.prog gmH 60 (zkZ (k+1)):=by
 have hno:HsOk Tryz.prog gmH (hNo k):=.cons hOp <| .cons zoS <| .cons hSu <| .cons zrA .nil;refine zaw (K:=_) zb5 Tryz.func60 rfl rfl (zcG rfl) Tryz.call60 rfl (zb rfl) (zdT prT [107]) ?_;rintro w0 ⟨G,O,K,fix,D,ρ,B⟩ ty hX hG hK hρ hD hinv ⟨(b:Bool),(bf:List UInt8),(r:List Nd),⟨⟩⟩ ⟨(i:Int),⟨⟩⟩ hp;obtain rfl:G=gmH:=hG;obtain rfl:K=1:=hK;obtain rfl:ρ=none:=hρ;obtain rfl:D=[]:=hD;have hI:=fun w R hR hw=>(⟨zaM (ty:=ty) hX rfl hinv.1 (ty':=ty) w R hR hw,hinv.2⟩:bInv prT [107] w R ty);obtain⟨hwf,h0,hk,hr,hT⟩:WfP r∧0≤i∧i.toNat < k+1∧i.toNat < r.length∧bf.length+(zaU (k+1) r i).length+10000≤1000000000:=hp;have hil:i < ((r.length:Nat):Int):=by omega
 obtain⟨hnum,⟨hk1,hk18⟩,hL,hR⟩:=hwf.2 i.toNat hr;have hi:((i.toNat:Nat):Int)=i:=xA h0;rw[hi]at hnum hk1 hk18 hL hR;change AWP _ _ _ _ _ ⟨[(0,⟨.hptr,((0:Nat),(0:Nat))⟩),(1,⟨i64,i⟩)],wE ty b bf r,2⟩ (wQ _ (zkZ (k+1)) ty (.ok ((),(true,((bf++zaU (k+1) r i:List UInt8),(r,()))))));unfold zaU at hT ⊢;generalize hn:zam r i=n at *;refine xN (σ':=⟨[(0,⟨.hptr,((0:Nat),(0:Nat))⟩),(4,⟨.optr nd,⟨2,nd,.here⟩⟩)],(2,some (.box nd n))::wE ty b bf r,3⟩) ?_ ?_
 ·subst hn;cases b
  all_goals
   refine zak ?_;refine yj 2 hX zb5 rfl trivial ?_;refine jO (eqP1 _ _ rfl) hX zb5 rfl trivial ?_;refine zX hX zb5 rfl ⟨h0,hil⟩ ?_;exact⟨⟨rfl,rfl,trivial⟩,⟨rfl,rfl,rfl,trivial⟩,rfl,rfl⟩
 clear hn;refine xN (σ':=⟨[(0,⟨.hptr,((0:Nat),(0:Nat))⟩),(4,⟨.optr nd,⟨2,nd,.here⟩⟩),(5,⟨i64,levS (ndK n)⟩)],(2,some (.box nd n))::wE ty b bf r,3⟩) ?_ ?_
 ·refine zak ?_;refine zX hX zb5 rfl trivial ?_;exact⟨⟨rfl,rfl,rfl,trivial⟩,⟨rfl,rfl,rfl,trivial⟩,rfl,by cases b<;>rfl⟩
 apply zac;refine za (za ?_);refine zaa hX zb5 rfl ?_ ?_
 ·trivial
 refine zae rfl (fun hb=>?_) (fun hb=>?_)
 ·have hb:decide (levS (ndK n) < 4)=true:=hb;have hb:=of_decide_eq_true hb;rw[if_pos hb]at hT ⊢;obtain⟨⟨hk8,hk10⟩,hl1⟩:=ztG hb;obtain⟨hL0,hL1⟩:=hL hk8 (by omega);obtain⟨hR0,hR1⟩:=hR hk8 (.inl hk10);generalize levS (ndK n)=x at hb hT hl1;change bf.length+(opdF k r (ndL n) x++(putS ([32]++opWd x++ [32]) []++opdF k r (ndR n) (x+1))).length+10000≤1000000000 at hT;have hx3:x=1∨x=2∨x=3:=by omega
  have hw:zh (opWd x)≤5:=by rcases hx3 with rfl|rfl|rfl<;>decide
  have hT0:=hT;rw[zg,zg]at hT;have hLk:(ndL n).toNat < k:=by omega
  have hLr:(ndL n).toNat < r.length:=by omega
  have hRk:(ndR n).toNat < k:=by omega
  have hRr:(ndR n).toNat < r.length:=by omega
  have hTA:bf.length+(opdF k r (ndL n) x).length+10000≤1000000000:=by omega
  have hM0:zh (putS ([32]++opWd x++ [32]) [])=zh ([32]++opWd x++ [32]:List UInt8):=by
   show zh (([32]++opWd x++ [32])++ []:List UInt8)=_;rw[zO]
  have hM1:zh ([32]++opWd x++ [32]:List UInt8)≤7:=by
   rw[zg,zg];show 1+_+1≤7;omega
  have hTM:zh (bf++opdF k r (ndL n) x:List UInt8)+zh ([32]++opWd x++ [32]:List UInt8)+19 * 0≤1000000000:=by rw[zg];omega
  have hTC:zh (bf++opdF k r (ndL n) x++putS ([32]++opWd x++ [32]) []:List UInt8)+(opdF k r (ndR n) (x+1)).length+10000≤1000000000:=by rw[zg,zg];omega
  have q0:inR .i64 (x - 1):=zan (by omega) (by omega);have q1:inR .i64 (x+1):=zan (by omega) (by omega);have q2:(0:Int)≤x - 1:=by omega
  have q3:x - 1 < ((opsL.length:Nat):Int):=by show x - 1 < ((3:Nat):Int);omega
  have q4:1+zh (opWd x)≤maxLen:=by unfold maxLen;omega
  have q5:zh ([32]++opWd x:List UInt8)+1≤maxLen:=by rw[zg];show 1+_+1≤_;unfold maxLen;omega
  change AWP _ _ _ _ _ _ (zk4 0 (wQ _ (zkZ (k+1)) ty (.ok ((),(true,((bf++(opdF k r (ndL n) x++(putS ([32]++opWd x++ [32]) []++opdF k r (ndR n) (x+1))):List UInt8),(r,())))))));rw[show (bf++(opdF k r (ndL n) x++(putS ([32]++opWd x++ [32]) []++opdF k r (ndR n) (x+1))):List UInt8)=bf++opdF k r (ndL n) x++putS ([32]++opWd x++ [32]) []++opdF k r (ndR n) (x+1) from (cat4 _ _ _ _).symm];refine xN (σ':=⟨[(0,⟨.hptr,((0:Nat),(0:Nat))⟩),(4,⟨.optr nd,⟨2,nd,.here⟩⟩),(5,⟨i64,x⟩)],(2,some (.box nd n))::wE ty true ((bf++opdF k r (ndL n) x:List UInt8)) r,3⟩) ?_ ?_
  ·cases b
   all_goals
    refine zak ?_;refine yq 4 hX zb5 hno rfl trivial rfl rfl ⟨hwf,hL0,hLk,hLr,hTA⟩ hI ?_;exact yf ⟨⟨rfl,rfl,rfl,trivial⟩,⟨rfl,rfl,rfl,trivial⟩,rfl,rfl⟩
  refine xN (σ':=⟨[(0,⟨.hptr,((0:Nat),(0:Nat))⟩),(4,⟨.optr nd,⟨2,nd,.here⟩⟩),(5,⟨i64,x⟩)],(2,some (.box nd n))::wE ty true ((bf++opdF k r (ndL n) x++putS ([32]++opWd x++ [32]) []:List UInt8)) r,3⟩) ?_ ?_
  ·refine zak ?_;refine yq 9 hX zb5 hno rfl ⟨q0,q2,q3,q4,q5⟩ rfl rfl ⟨hTM,fun y hy=>by cases hy⟩ hI ?_;exact yf ⟨⟨rfl,rfl,rfl,trivial⟩,⟨rfl,rfl,rfl,trivial⟩,rfl,rfl⟩
  refine zak ?_;refine yq 5 hX zb5 hno rfl q1 rfl rfl ⟨hwf,hR0,hRk,hRr,hTC⟩ hI ?_;exact yf ⟨.inl rfl,⟨_,rfl,u8,1,_,rfl,rfl,rfl⟩,zba (by decide) rfl rfl trivial rfl⟩
 ·have hb:decide (levS (ndK n) < 4)=false:=hb;have hb:=of_decide_eq_false hb;rw[if_neg hb]at hT ⊢;apply zaf;refine za (za ?_);refine zaa hX zb5 rfl ?_ ?_
  ·trivial
  refine zae rfl (fun hc=>?_) (fun hc=>?_)
  ·have hc:(levS (ndK n)==4)=true:=hc;have hc:=beq_iff_eq.1 hc;rw[if_pos hc]at hT ⊢;obtain⟨hk11,hk17⟩:=levS_4 hc;obtain⟨hL0,hL1⟩:=hL (by omega) hk17;have hLk:(ndL n).toNat < k:=by omega
   have hLr:(ndL n).toNat < r.length:=by omega
   have hB:ndK n=17->0≤ndR n∧(ndR n).toNat < k∧(ndR n).toNat < r.length:=fun e=>by
    obtain⟨hR0,hR1⟩:=hR (by omega) (.inr e);exact⟨hR0,by omega,by omega⟩
   change bf.length+(opdF k r (ndL n) 4++zb2 (opdF k r (ndR n) 5) n).length+10000≤1000000000 at hT;rw[zg]at hT;have hTA:bf.length+(opdF k r (ndL n) 4).length+10000≤1000000000:=by omega
   have hTS:zh (bf++opdF k r (ndL n) 4:List UInt8)+(zb2 (opdF k r (ndR n) 5) n).length+10000≤1000000000:=by rw[zg];omega
   change AWP _ _ _ _ _ _ (zk4 0 (wQ _ (zkZ (k+1)) ty (.ok ((),(true,((bf++(opdF k r (ndL n) 4++zb2 (opdF k r (ndR n) 5) n):List UInt8),(r,())))))));rw[show (bf++(opdF k r (ndL n) 4++zb2 (opdF k r (ndR n) 5) n):List UInt8)=bf++opdF k r (ndL n) 4++zb2 (opdF k r (ndR n) 5) n from (cat3 _ _ _).symm];refine xN (σ':=⟨[(0,⟨.hptr,((0:Nat),(0:Nat))⟩),(4,⟨.optr nd,⟨2,nd,.here⟩⟩)],(2,some (.box nd n))::wE ty true ((bf++opdF k r (ndL n) 4:List UInt8)) r,3⟩) ?_ ?_
   ·cases b
    all_goals
     refine zak ?_;refine yq 3 hX zb5 hno rfl trivial rfl rfl ⟨hwf,hL0,hLk,hLr,hTA⟩ hI ?_;exact yf ⟨⟨rfl,rfl,trivial⟩,⟨rfl,rfl,rfl,trivial⟩,rfl,rfl⟩
   refine zak ?_;refine yq 2 hX zb5 hno rfl trivial rfl rfl ⟨hwf,hnum,hk11,hk17,hB,hTS⟩ hI ?_;exact yf ⟨.inl rfl,⟨_,rfl,u8,1,_,rfl,rfl,rfl⟩,zba (by decide) rfl rfl trivial rfl⟩
  ·have hc:(levS (ndK n)==4)=false:=hc;have hc:levS (ndK n)≠4:=fun e=>by rw[beq_iff_eq.2 e]at hc;cases hc
   rw[if_neg hc]at hT ⊢;have h5:=levS_5 hb hc;have hkl:ndK n≤7∨ndK n=18:=by omega
   have hT:bf.length+(zck n).length+10000≤1000000000:=hT;have hT1:bf.length+10000≤1000000000:=by omega
   cases b
   all_goals
    refine zak ?_;refine yq 2 hX zb5 hno rfl trivial rfl rfl ⟨hT1,hnum,hk1,hkl⟩ hI ?_;exact yf ⟨.inl rfl,⟨_,rfl,u8,1,_,rfl,rfl,rfl⟩,zba (by decide) rfl rfl trivial rfl⟩
theorem zsr:∀ k,zaD Tryz.prog gmH 60 (zkZ k)∧zaD Tryz.prog gmH 99 (cOpd k)
 |0=>⟨zeB (zcG rfl) Tryz.call60 fun x xs h=>absurd h.2.2.1 (yH _),zeB (zcG rfl) Tryz.call99 fun x xs h=>absurd h.2.2.1 (yH _)⟩
 |k+1=>by
  obtain⟨h1,h2⟩:=zsr k;have h3:=ztt k h2 (zna k h2);exact⟨h3,znw (k+1) h3⟩
set_option maxRecDepth 10000
theorem zko {n:Nd} (h:zbb n=true):zk7 n:=by
 obtain⟨⟨k1,k2⟩,hl,_⟩:=zaF h;have hs:=zmK h;have key:(zbU (ndC n)∧zbU (ndN n)∧zbU (ndM n))∧(∀ x∈ndI n,zbU x)∧(ndK n=7->0≤ndL n∧ndL n≤1)∧(ndK n=16->0≤ndM n∧ndM n≤1):=by
  rcases (show ndK n=1∨ndK n=2∨ndK n=3∨ndK n=4∨ndK n=5∨ndK n=6∨ndK n=7∨ndK n=8∨ndK n=9∨ndK n=10∨ndK n=11∨ndK n=12∨ndK n=13∨ndK n=14∨ndK n=15∨ndK n=16∨ndK n=17∨ndK n=18 by omega) with k|k|k|k|k|k|k|k|k|k|k|k|k|k|k|k|k|k
  ·obtain⟨e,b1,b2⟩:=fld1 h k;have eC:=congrArg ndC e;have eN:=congrArg ndN e;have eM:=congrArg ndM e;have eI:=congrArg ndI e;have eC:ndC n=0:=eC;have eN:ndN n=ndN n:=eN;have eM:ndM n=ndM n:=eM;have eI:ndI n=[]:=eI;refine⟨⟨⟨by omega,by omega⟩,⟨by omega,by omega⟩,⟨by omega,by omega⟩⟩,?_,fun e=>by omega,fun e=>by omega⟩;rw[eI];exact fun x hx=>by cases hx
  ·obtain⟨e,bc,b1,b2⟩:=fld2 h k;have eC:=congrArg ndC e;have eN:=congrArg ndN e;have eM:=congrArg ndM e;have eI:=congrArg ndI e;have eC:ndC n=ndC n:=eC;have eN:ndN n=ndN n:=eN;have eM:ndM n=ndM n:=eM;have eI:ndI n=[]:=eI;refine⟨⟨⟨by omega,by omega⟩,⟨by omega,by omega⟩,⟨by omega,by omega⟩⟩,?_,fun e=>by omega,fun e=>by omega⟩;rw[eI];exact fun x hx=>by cases hx
  ·obtain⟨e,bc,⟨l1,l2,l3⟩⟩:=fld3 h k;have eC:=congrArg ndC e;have eN:=congrArg ndN e;have eM:=congrArg ndM e;have eI:=congrArg ndI e;have eC:ndC n=ndC n:=eC;have eN:ndN n=0:=eN;have eM:ndM n=0:=eM;have eI:ndI n=ndI n:=eI;refine⟨⟨⟨by omega,by omega⟩,⟨by omega,by omega⟩,⟨by omega,by omega⟩⟩,?_,fun e=>by omega,fun e=>by omega⟩;exact fun x hx=>by have:=zcE (by decide) (by decide) l3 x hx;exact⟨by have:=this.1;omega,by have:=this.2;omega⟩
  ·obtain⟨e,bc,⟨l1,l2,l3⟩⟩:=fld4 h k;have eC:=congrArg ndC e;have eN:=congrArg ndN e;have eM:=congrArg ndM e;have eI:=congrArg ndI e;have eC:ndC n=ndC n:=eC;have eN:ndN n=0:=eN;have eM:ndM n=0:=eM;have eI:ndI n=ndI n:=eI;refine⟨⟨⟨by omega,by omega⟩,⟨by omega,by omega⟩,⟨by omega,by omega⟩⟩,?_,fun e=>by omega,fun e=>by omega⟩;exact fun x hx=>by have:=zcE (by decide) (by decide) l3 x hx;exact⟨by have:=this.1;omega,by have:=this.2;omega⟩
  ·obtain⟨e,⟨l1,l2,l3⟩⟩:=fld5 h k;have eC:=congrArg ndC e;have eN:=congrArg ndN e;have eM:=congrArg ndM e;have eI:=congrArg ndI e;have eC:ndC n=0:=eC;have eN:ndN n=0:=eN;have eM:ndM n=0:=eM;have eI:ndI n=ndI n:=eI;refine⟨⟨⟨by omega,by omega⟩,⟨by omega,by omega⟩,⟨by omega,by omega⟩⟩,?_,fun e=>by omega,fun e=>by omega⟩;exact fun x hx=>by have:=zcE (by decide) (by decide) l3 x hx;exact⟨by have:=this.1;omega,by have:=this.2;omega⟩
  ·obtain⟨e,bc,⟨l1,l2,l3⟩⟩:=fld6 h k;have eC:=congrArg ndC e;have eN:=congrArg ndN e;have eM:=congrArg ndM e;have eI:=congrArg ndI e;have eC:ndC n=ndC n:=eC;have eN:ndN n=0:=eN;have eM:ndM n=0:=eM;have eI:ndI n=ndI n:=eI;refine⟨⟨⟨by omega,by omega⟩,⟨by omega,by omega⟩,⟨by omega,by omega⟩⟩,?_,fun e=>by omega,fun e=>by omega⟩;exact fun x hx=>by have:=zcE (by decide) (by decide) l3 x hx;exact⟨by have:=this.1;omega,by have:=this.2;omega⟩
  ·obtain⟨e,bc,b1,bz,b2,b3⟩:=fld7 h k;have eC:=congrArg ndC e;have eN:=congrArg ndN e;have eM:=congrArg ndM e;have eI:=congrArg ndI e;have eC:ndC n=ndC n:=eC;have eN:ndN n=ndN n:=eN;have eM:ndM n=ndM n:=eM;have eI:ndI n=[]:=eI;refine⟨⟨⟨by omega,by omega⟩,⟨by omega,by omega⟩,⟨by omega,by omega⟩⟩,?_,fun e=>by omega,fun e=>by omega⟩;rw[eI];exact fun x hx=>by cases hx
  ·have e:=fld8 h k;have eC:=congrArg ndC e;have eN:=congrArg ndN e;have eM:=congrArg ndM e;have eI:=congrArg ndI e;have eC:ndC n=0:=eC;have eN:ndN n=0:=eN;have eM:ndM n=0:=eM;have eI:ndI n=[]:=eI;refine⟨⟨⟨by omega,by omega⟩,⟨by omega,by omega⟩,⟨by omega,by omega⟩⟩,?_,fun e=>by omega,fun e=>by omega⟩;rw[eI];exact fun x hx=>by cases hx
  ·have e:=fld9 h k;have eC:=congrArg ndC e;have eN:=congrArg ndN e;have eM:=congrArg ndM e;have eI:=congrArg ndI e;have eC:ndC n=0:=eC;have eN:ndN n=0:=eN;have eM:ndM n=0:=eM;have eI:ndI n=[]:=eI;refine⟨⟨⟨by omega,by omega⟩,⟨by omega,by omega⟩,⟨by omega,by omega⟩⟩,?_,fun e=>by omega,fun e=>by omega⟩;rw[eI];exact fun x hx=>by cases hx
  ·have e:=fld10 h k;have eC:=congrArg ndC e;have eN:=congrArg ndN e;have eM:=congrArg ndM e;have eI:=congrArg ndI e;have eC:ndC n=0:=eC;have eN:ndN n=0:=eN;have eM:ndM n=0:=eM;have eI:ndI n=[]:=eI;refine⟨⟨⟨by omega,by omega⟩,⟨by omega,by omega⟩,⟨by omega,by omega⟩⟩,?_,fun e=>by omega,fun e=>by omega⟩;rw[eI];exact fun x hx=>by cases hx
  ·obtain⟨e,b1⟩:=zt7 h k;have eC:=congrArg ndC e;have eN:=congrArg ndN e;have eM:=congrArg ndM e;have eI:=congrArg ndI e;have eC:ndC n=0:=eC;have eN:ndN n=ndN n:=eN;have eM:ndM n=0:=eM;have eI:ndI n=[]:=eI;refine⟨⟨⟨by omega,by omega⟩,⟨by omega,by omega⟩,⟨by omega,by omega⟩⟩,?_,fun e=>by omega,fun e=>by omega⟩;rw[eI];exact fun x hx=>by cases hx
  ·obtain⟨e,b1⟩:=zt6 h k;have eC:=congrArg ndC e;have eN:=congrArg ndN e;have eM:=congrArg ndM e;have eI:=congrArg ndI e;have eC:ndC n=0:=eC;have eN:ndN n=ndN n:=eN;have eM:ndM n=0:=eM;have eI:ndI n=[]:=eI;refine⟨⟨⟨by omega,by omega⟩,⟨by omega,by omega⟩,⟨by omega,by omega⟩⟩,?_,fun e=>by omega,fun e=>by omega⟩;rw[eI];exact fun x hx=>by cases hx
  ·obtain⟨e,b1⟩:=zt5 h k;have eC:=congrArg ndC e;have eN:=congrArg ndN e;have eM:=congrArg ndM e;have eI:=congrArg ndI e;have eC:ndC n=0:=eC;have eN:ndN n=ndN n:=eN;have eM:ndM n=0:=eM;have eI:ndI n=[]:=eI;refine⟨⟨⟨by omega,by omega⟩,⟨by omega,by omega⟩,⟨by omega,by omega⟩⟩,?_,fun e=>by omega,fun e=>by omega⟩;rw[eI];exact fun x hx=>by cases hx
  ·obtain⟨e,⟨l1,l2,l3⟩⟩:=zrR h k;have eC:=congrArg ndC e;have eN:=congrArg ndN e;have eM:=congrArg ndM e;have eI:=congrArg ndI e;have eC:ndC n=0:=eC;have eN:ndN n=0:=eN;have eM:ndM n=0:=eM;have eI:ndI n=ndI n:=eI;refine⟨⟨⟨by omega,by omega⟩,⟨by omega,by omega⟩,⟨by omega,by omega⟩⟩,?_,fun e=>by omega,fun e=>by omega⟩;exact fun x hx=>by have:=zcE (by decide) (by decide) l3 x hx;exact⟨by have:=this.1;omega,by have:=this.2;omega⟩
  ·obtain⟨e,⟨l1,l2,l3⟩⟩:=zrQ h k;have eC:=congrArg ndC e;have eN:=congrArg ndN e;have eM:=congrArg ndM e;have eI:=congrArg ndI e;have eC:ndC n=0:=eC;have eN:ndN n=0:=eN;have eM:ndM n=0:=eM;have eI:ndI n=ndI n:=eI;refine⟨⟨⟨by omega,by omega⟩,⟨by omega,by omega⟩,⟨by omega,by omega⟩⟩,?_,fun e=>by omega,fun e=>by omega⟩;exact fun x hx=>by have:=zcE (by decide) (by decide) l3 x hx;exact⟨by have:=this.1;omega,by have:=this.2;omega⟩
  ·obtain⟨e,bc,⟨l1,l2,l3⟩,b1⟩:=zrP h k;have eC:=congrArg ndC e;have eN:=congrArg ndN e;have eM:=congrArg ndM e;have eI:=congrArg ndI e;have eC:ndC n=ndC n:=eC;have eN:ndN n=0:=eN;have eM:ndM n=ndM n:=eM;have eI:ndI n=ndI n:=eI;refine⟨⟨⟨by omega,by omega⟩,⟨by omega,by omega⟩,⟨by omega,by omega⟩⟩,?_,fun e=>by omega,fun e=>by omega⟩;exact fun x hx=>by have:=zcE (by decide) (by decide) l3 x hx;exact⟨by have:=this.1;omega,by have:=this.2;omega⟩
  ·obtain⟨e,b1⟩:=zt4 h k;have eC:=congrArg ndC e;have eN:=congrArg ndN e;have eM:=congrArg ndM e;have eI:=congrArg ndI e;have eC:ndC n=0:=eC;have eN:ndN n=ndN n:=eN;have eM:ndM n=0:=eM;have eI:ndI n=[]:=eI;refine⟨⟨⟨by omega,by omega⟩,⟨by omega,by omega⟩,⟨by omega,by omega⟩⟩,?_,fun e=>by omega,fun e=>by omega⟩;rw[eI];exact fun x hx=>by cases hx
  ·obtain⟨e,bn⟩:=zt3 h k;have eC:=congrArg ndC e;have eN:=congrArg ndN e;have eM:=congrArg ndM e;have eI:=congrArg ndI e;have eC:ndC n=0:=eC;have eN:ndN n=0:=eN;have eM:ndM n=0:=eM;have eI:ndI n=[]:=eI;refine⟨⟨⟨by omega,by omega⟩,⟨by omega,by omega⟩,⟨by omega,by omega⟩⟩,?_,fun e=>by omega,fun e=>by omega⟩;rw[eI];exact fun x hx=>by cases hx
 exact⟨key.1,key.2.1,by omega,by omega,key.2.2⟩
theorem wfp_of {r:List Nd} (h:wfS r=true):WfP r:=by
 obtain⟨⟨h1,h2⟩,h3,h4⟩:=zbX h;refine⟨by omega,fun j hj=>?_⟩;obtain⟨f1,f2⟩:=zbD h3 hj;obtain⟨l1,l2⟩:=ze7 h3 j hj;exact⟨zko f1,(zaF f1).1,l1,l2⟩
theorem zc5 (c:Bool) (t:List UInt8):(parS c t).length≤t.length+2:=by
 cases c with
 |true=>show t.length≤_;omega
 |false=>show ([40]++(t++ [41]):List UInt8).length≤_;simp
theorem zrz {n:Nd} (h:zk7 n):(zck n).length≤2100:=by
 obtain⟨⟨hC,hN,hM⟩,hI,hl,hs,_⟩:=h;have l1:∀ w:List UInt8,w.length≤10->∀ l:List Int,l.length≤3->(∀ x∈l,zbU x)->(putS w l).length≤67:=fun w hw l hl hx=>by
  have:=zbO hx;unfold putS;rw[zg];omega
 have l2:(zb3 (ndI n)).length≤2001:=by
  have:=zeU (ndI n) 0 hI;unfold zb3;rw[zg,yv];omega
 have p0:∀ x∈([]:List Int),zbU x:=fun x hx=>by cases hx
 have p1:∀ x∈ [ndC n],zbU x:=fun x hx=>by rw[zv.1 hx];exact hC
 have p2:∀ x∈ [ndN n,ndM n],zbU x:=fun x hx=>by
  rcases ya.1 hx with rfl|hx
  ·exact hN
  ·rw[zv.1 hx];exact hM
 have p3:∀ x∈ [ndC n,ndN n,ndM n],zbU x:=fun x hx=>by
  rcases ya.1 hx with rfl|hx
  ·exact hC
  ·exact p2 x hx
 unfold zck;split
 ·exact zH (l1 _ (by decide) _ (by simp) p2) (by decide)
 split
 ·exact zH (l1 _ (by decide) _ (by simp) p3) (by decide)
 split
 ·rw[zg];have:=l1 zcp (by decide) _ (by simp) p1;omega
 split
 ·rw[zg];have:=l1 za2 (by decide) _ (by simp) p1;omega
 split
 ·rw[zg];have:=l1 zbf (by decide) _ (by simp) p0;omega
 split
 ·rw[zg];have:=l1 zdh (by decide) _ (by simp) p1;omega
 split
 ·rw[zg];have:=l1 wNth (by decide) _ (by simp) p3;have:=l1 (zcj (ndL n)) (zcY _) [] (by decide) p0;omega
 split
 ·show (64::ndS n++ []).length≤_;rw[zO,zt];omega
 ·exact zl _
theorem zoa {n:Nd} (b:List UInt8) (h:zk7 n):(zb2 b n).length≤2200+b.length:=by
 obtain⟨⟨hC,hN,hM⟩,hI,hl,hs,_⟩:=h;have l1:∀ w:List UInt8,w.length≤10->∀ l:List Int,l.length≤3->(∀ x∈l,zbU x)->(putS w l).length≤67:=fun w hw l hl hx=>by
  have:=zbO hx;unfold putS;rw[zg];omega
 have l2:(zb3 (ndI n)).length≤2001:=by
  have:=zeU (ndI n) 0 hI;unfold zb3;rw[zg,yv];omega
 have p0:∀ x∈([]:List Int),zbU x:=fun x hx=>by cases hx
 have p1:∀ x∈ [ndC n],zbU x:=fun x hx=>by rw[zv.1 hx];exact hC
 have p2:∀ x∈ [ndN n],zbU x:=fun x hx=>by rw[zv.1 hx];exact hN
 unfold zb2;split
 ·have:=l1 (spW zeo) (by decide) _ (by simp) p2;omega
 split
 ·have:=l1 (spW zhe) (by decide) _ (by simp) p2;omega
 split
 ·have:=l1 (spW zen) (by decide) _ (by simp) p2;omega
 split
 ·rw[zg];have:=l1 (spW ze1) (by decide) _ (by simp) p0;omega
 split
 ·rw[zg];have:=l1 (spW zcq) (by decide) _ (by simp) p0;omega
 split
 ·rw[zg,zg];have:=l1 (spW wPos) (by decide) _ (by simp) p1;have:=l1 (zcj (ndM n)) (zcY _) [] (by decide) p0;omega
 split
 ·rw[zg,zg];have:=l1 (spW zbE) (by decide) _ (by simp) p2;have:=l1 (spW wOf++ [32]) (by decide) [] (by decide) p0;omega
 ·exact zl _
theorem zfz:∀ t:Tr,TrOk t->t.text.length≤3000 * t.size
 | .leaf n,h=>by
  have:=zrz (zko h.1);show (zck n).length≤3000 * 1;omega
 | .un n a,h=>by
  have h1:=zoa [] (zko h.1);have h2:=zfz a h.2.2.2;have h3:=zc5 (decide (a.lev≥4)) a.text;show (parS _ a.text++zb2 [] n).length≤3000 * (a.size+1);rw[zg];rw[zW]at h1;omega
 | .bin n a b,h=>by
  have h1:=zfz a h.2.2.2.1;have h2:=zfz b h.2.2.2.2;show _≤3000 * (a.size+b.size+1);rw[zi4];split
  ·have h3:=zc5 (decide (a.lev≥4)) a.text;have h4:=zc5 (decide (b.lev≥5)) b.text;have h5:=zoa (parS (decide (b.lev≥5)) b.text) (zko h.1);rw[zg];omega
  ·have h3:=zc5 (decide (a.lev≥levS (ndK n))) a.text;have h4:=zc5 (decide (b.lev≥levS (ndK n)+1)) b.text;have h5:(putS ([32]++opWd (levS (ndK n))++ [32]) []).length≤20:=by
    have h6:=zjt (ndK n);show (([32]++opWd (levS (ndK n))++ [32])++ []:List UInt8).length≤20;rcases (show levS (ndK n)=1∨levS (ndK n)=2∨levS (ndK n)=3∨levS (ndK n)=4∨levS (ndK n)=5 by omega) with e|e|e|e|e<;>rw[e]<;>decide
   rw[zg,zg];omega
theorem zs6 {t:Tr} (h:TrOk t) (hs:t.size≤64):t.text≠ []:=fun e=>by
 have h1:=zgf h hs;rw[e]at h1;have h2:(match zeF [] with | .ok _=>true| .error _=>false)=false:=by kernel_rfl
 rw[h1]at h2;cases h2
theorem catA {a b:List UInt8} {m n:Nat} (ha:a.length≤m) (hb:b.length≤n):(a++b).length≤m+n:=by rw[zg];omega
theorem cat2 {a b:List UInt8} {m n:Nat} (ha:a.length≤m) (hb:b.length≤n) (h:Nat.ble (m+n) 1048576=true):a.length+b.length≤maxLen:=by have:=zb h;unfold maxLen;omega
def zkW (k:Nat):Ctr:={ args:=[.slice nd,i64],pre:=fun x=>[wfS x.1=true,0≤x.2.1,x.2.1.toNat < k,x.2.1.toNat < zh x.1,(zaU k x.1 x.2.1).length≤1000000],res:=.str,own:=none,out:=fun x=>zaU k x.1 x.2.1 }
def zup (k:Nat):Ctr:={ args:=[.slice nd,i64,i64],pre:=fun x=>[wfS x.1=true,0≤x.2.1,x.2.1.toNat < k,x.2.1.toNat < zh x.1,(zaU k x.1 x.2.1).length≤1000000],res:=.str,own:=none,out:=fun x=>opdF k x.1 x.2.1 x.2.2.1 }
def kOp7 (k:Nat):Kn:={ gmK with C:=[(155,zmY),(64,zkW k)] }
theorem ztp {k:Nat} (ih:ym Tryz.prog gmH 64 (zkW k)):ym Tryz.prog gmH 110 (zup k):=by
 have hK:KnOk Tryz.prog gmH (kOp7 k):=zai.with (.cons zps <| .cons ih .nil);refine zao (K:=kOp7 k) hK Tryz.func110 rfl rfl Tryz.call110 rfl (zb rfl) (by intro h;cases h) ?_;rintro w0 X hX ⟨(r:List Nd),(i:Int),(q:Int),_⟩ hp;obtain⟨hw,h0,hk,hr,hT⟩:wfS r=true∧0≤i∧i.toNat < k∧i.toNat < r.length∧(zaU k r i).length≤1000000:=hp;change AWP _ _ _ _ _ ⟨[(0,⟨.slice nd,r⟩),(1,⟨i64,i⟩),(2,⟨i64,q⟩)],[],0⟩ _;have z1:i < ((r.length:Nat):Int):=by omega
 refine za (za ?_);refine zaa hX hK rfl ?_ ?_
 ·trivial
 refine za (za ?_);refine zaa hX hK rfl ?_ ?_
 ·repeat'(first|exact trivial|assumption|exact h0|exact z1|exact hr|(refine⟨?_,?_⟩)|(intro _)|exact zb rfl|exact zd _|(simp_all [allP];done))
 refine zae rfl (fun hc=>?_) (fun hc=>?_)
 ·have hc:decide (levS (ndK (zam r i)) < q)=true:=hc;have hc:=of_decide_eq_true hc;have m1:1+(zaU k r i).length≤maxLen:=by unfold maxLen;omega
  have m2:zh ([40]++zaU k r i:List UInt8)+1≤maxLen:=by rw[zg];show 1+_+1≤_;unfold maxLen;omega
  refine za (za ?_);refine zaa hX hK rfl ?_ ?_
  ·repeat'(first|exact trivial|assumption|exact hw|exact h0|exact hk|exact hr|exact hT|exact m1|exact m2|(refine⟨?_,?_⟩)|(intro _)|exact zb rfl|exact zd _|(simp_all [allP];done))
  refine zm ⟨.inr rfl,zat rfl trivial rfl rfl ?_⟩;show [40]++zaU k r i++ [41]=parS (decide (levS (ndK (zam r i))≥q)) (zaU k r i);rw[decide_eq_false (by omega)];exact zs _ _ _
 ·have hc:decide (levS (ndK (zam r i)) < q)=false:=hc;have hc:=of_decide_eq_false hc;apply zab;refine za (za ?_);refine zaa hX hK rfl ?_ ?_
  ·repeat'(first|exact trivial|assumption|exact hw|exact h0|exact hk|exact hr|exact hT|(refine⟨?_,?_⟩)|(intro _)|exact zb rfl|exact zd _|(simp_all [allP];done))
  refine zm ⟨.inr rfl,zat rfl trivial rfl rfl ?_⟩;show zaU k r i=parS (decide (levS (ndK (zam r i))≥q)) (zaU k r i);rw[decide_eq_true (by omega)];rfl
theorem znz {k:Nat} {r:List Nd} {i:Int} (h:¬ (8≤ndK (zam r i)∧ndK (zam r i)≤17)):zaU (k+1) r i=zck (zam r i):=by
 have hl:=zjs h;unfold zaU;rw[hl,if_neg (by decide),if_neg (by decide)]
theorem zo3 {k:Nat} {r:List Nd} {i:Int} (h:11≤ndK (zam r i)∧ndK (zam r i)≤17):zaU (k+1) r i=opdF k r (ndL (zam r i)) 4++zb2 (opdF k r (ndR (zam r i)) 5) (zam r i):=by
 have hl:=zjr h
 conv=>lhs;unfold zaU
 rw[hl,if_neg (by decide),if_pos rfl];rfl
theorem zo4 {k:Nat} {r:List Nd} {i:Int} (h:8≤ndK (zam r i)∧ndK (zam r i)≤10):zaU (k+1) r i=opdF k r (ndL (zam r i)) (levS (ndK (zam r i)))++(putS ([32]++opWd (levS (ndK (zam r i)))++ [32]) []++opdF k r (ndR (zam r i)) (levS (ndK (zam r i))+1)):=by
 conv=>lhs;unfold zaU
 rw[if_pos (by rcases (show ndK (zam r i)=8∨ndK (zam r i)=9∨ndK (zam r i)=10 by omega) with e|e|e<;>rw[e]<;>decide)];rfl
theorem zmm (k:Nat) (r:List Nd) (i q:Int):(zaU k r i).length≤(opdF k r i q).length:=by
 unfold opdF parS;split
 ·exact zj _
 ·rw[zg,zg];omega
theorem zrq {l:List Int} (h:∀ n∈l,zbU n):(lstR l).length≤20 * l.length+2:=by
 unfold lstR;split
 ·show 2≤_;omega
 ·have:=zmr h;rw[zg,yv];omega
theorem fld_ne {n:Nd} (h:zbb n=true) (k:(3≤ndK n∧ndK n≤6)∨(14≤ndK n∧ndK n≤16)):ndI n≠ []:=by
 rcases (show ndK n=3∨ndK n=4∨ndK n=5∨ndK n=6∨ndK n=14∨ndK n=15∨ndK n=16 by omega) with e|e|e|e|e|e|e
 ·exact (fld3 h e).2.2.1
 ·exact (fld4 h e).2.2.1
 ·exact (fld5 h e).2.1
 ·exact (fld6 h e).2.2.1
 ·exact (zrR h e).2.1
 ·exact (zrQ h e).2.1
 ·exact (zrP h e).2.2.1.1
def kTx7 (k:Nat):Kn:={ gmK with C:=[(107,cDec),(108,zsK),(109,zqd),(110,zup k)] }
set_option maxHeartbeats 4000000 in
theorem zm9 {k:Nat} (ih:ym Tryz.prog gmH 110 (zup k)):ym Tryz.prog gmH 64 (zkW (k+1)):=by
 have hK:KnOk Tryz.prog gmH (kTx7 k):=zai.with (.cons zp7.lift <| .cons zrs <| .cons zot <| .cons ih .nil);refine zao (K:=kTx7 k) hK Tryz.func64 rfl rfl Tryz.call64 rfl (zb rfl) (by intro h;cases h) ?_;rintro w0 X hX ⟨(r:List Nd),(i:Int),_⟩ hp;obtain⟨hw,h0,hk,hr,hT⟩:wfS r=true∧0≤i∧i.toNat < k+1∧i.toNat < r.length∧(zaU (k+1) r i).length≤1000000:=hp;change AWP _ _ _ _ _ ⟨[(0,⟨.slice nd,r⟩),(1,⟨i64,i⟩)],[],0⟩ _;have z1:i < ((r.length:Nat):Int):=by omega
 refine za (za ?_);refine zaa hX hK rfl ?_ ?_
 ·trivial
 refine za (za ?_);refine zaa hX hK rfl ?_ ?_
 ·repeat'(first|exact trivial|assumption|exact h0|exact z1|exact hr|(refine⟨?_,?_⟩)|(intro _)|exact zb rfl|exact zd _|(simp_all [allP];done))
 obtain⟨R,hR⟩:∃ R,R=zaU (k+1) r i:=⟨_,rfl⟩;obtain⟨zgV,hsuf,hbin⟩:=And.intro (@znz k r i) (And.intro (@zo3 k r i) (@zo4 k r i));rw[<-hR]at hT zgV hsuf hbin;refine zaq (σ':=⟨[(0,⟨.slice nd,r⟩),(5,⟨.optr nd,⟨0,nd,.here⟩⟩)],[(0,some (.box nd (zam r i)))],1⟩) ⟨⟨rfl,rfl,trivial⟩,⟨rfl,trivial⟩,rfl,rfl⟩ ?_;obtain⟨j,hj⟩:∃ j:Nat,i=(j:Int):=⟨i.toNat,by omega⟩;have hjr:j < r.length:=by omega
 have hjk:j < k+1:=by omega
 have h3:=(zbX hw).2.1;obtain⟨hf,_⟩:=zbD h3 hjr;have hlow:=ze7 h3 j hjr;rw[<-hj]at hf hlow;obtain⟨⟨⟨c1,c2⟩,⟨a1,a2⟩,⟨b1,b2⟩⟩,hI,hIl,hS,_⟩:=zko hf;obtain⟨⟨k1,k2⟩,_⟩:=zaF hf;generalize zam r i=n at *;have lC:=zdf c1 c2;have lN:=zdf a1 a2;have lM:=zdf b1 b2;have lS:=zox (ndL n);have lS2:=zox (ndM n);have lI:(lstR (ndI n)).length≤20002:=by have:=zrq hI;omega
 have low1:=hlow.1;have low2:=hlow.2;have hne:=fld_ne hf;have hIl2:(ndI n).length≤1000:=by omega
 have m0:(deI (ndC n)).length+1≤maxLen:=by unfold maxLen;omega
 refine za (za ?_);refine zaa hX hK rfl ?_ ?_
 ·repeat'(first|exact trivial|assumption|exact c1|exact c2|exact m0|(refine⟨?_,?_⟩)|(intro _)|exact zb rfl|exact zd _|(simp_all [allP];done))
 refine za (za ?_);refine zaa hX hK rfl ?_ ?_
 ·trivial
 apply zac;refine za (za ?_);refine zaa hX hK rfl ?_ ?_
 ·trivial
 have hR0:R=zaU (k+1) r i:=hR;refine zae rfl (fun e1=>?_) (fun e1=>?_)
 ·have e1:ndK n=1:=eq_of_beq e1;(repeat(first|apply zaf|apply zab|apply zac|apply zad));refine qx dM hX hK 9 (by kernel_rfl) rfl rfl ?_ ?_ ?_
  ·(repeat' first|exact trivial|with_reducible assumption|exact hI|refine⟨?_,?_⟩|intro _|apply cat2|apply catA|exact lC|exact lN|exact lM|exact lS|exact lS2|exact lI|exact hS|exact zj _|exact zd _|rfl|assumption)
  ·(repeat' first|exact trivial|with_reducible assumption|exact hI|refine⟨?_,?_⟩|intro _|apply cat2|apply catA|exact lC|exact lN|exact lM|exact lS|exact lS2|exact lI|exact hS|exact zj _|exact zd _|rfl|assumption)
  refine zm ⟨.inr rfl,zat rfl trivial rfl rfl ?_⟩;show ([100,97,121,115,32]:List UInt8)++deI (ndN n)++([32]:List UInt8)++deI (ndM n)=zaU (k+1) r i;rw[<-hR,zgV (by omega)];simp[zck,e1,putS,zch,zi1]
 have e1:ndK n≠1:=ne_of_beq_false e1;refine za (za ?_);refine zaa hX hK rfl ?_ ?_
 ·trivial
 refine zae rfl (fun e2=>?_) (fun e2=>?_)
 ·have e2:ndK n=2:=eq_of_beq e2;(repeat(first|apply zaf|apply zab|apply zac|apply zad));refine qx dM hX hK 11 (by kernel_rfl) rfl rfl ?_ ?_ ?_
  ·(repeat' first|exact trivial|with_reducible assumption|exact hI|refine⟨?_,?_⟩|intro _|apply cat2|apply catA|exact lC|exact lN|exact lM|exact lS|exact lS2|exact lI|exact hS|exact zj _|exact zd _|rfl|assumption)
  ·(repeat' first|exact trivial|with_reducible assumption|exact hI|refine⟨?_,?_⟩|intro _|apply cat2|apply catA|exact lC|exact lN|exact lM|exact lS|exact lS2|exact lI|exact hS|exact zj _|exact zd _|rfl|assumption)
  refine zm ⟨.inr rfl,zat rfl trivial rfl rfl ?_⟩;show ([121,101,97,114,115,32]:List UInt8)++(deI (ndC n)++ [32])++deI (ndN n)++([32]:List UInt8)++deI (ndM n)=zaU (k+1) r i;rw[<-hR,zgV (by omega)];simp[zck,e2,putS,zch,zfq]
 have e2:ndK n≠2:=ne_of_beq_false e2;refine za (za ?_);refine zaa hX hK rfl ?_ ?_
 ·trivial
 refine zae rfl (fun e3=>?_) (fun e3=>?_)
 ·have e3:ndK n=3:=eq_of_beq e3;refine za (za ?_);refine zaa hX hK rfl ?_ ?_
  ·(repeat' first|exact trivial|with_reducible assumption|exact hI|refine⟨?_,?_⟩|intro _|apply cat2|apply catA|exact lC|exact lN|exact lM|exact lS|exact lS2|exact lI|exact hS|exact zj _|exact zd _|rfl|assumption)
  refine zm ⟨.inr rfl,zat rfl trivial rfl rfl ?_⟩;show ([109,111,110,116,104,115,32]:List UInt8)++(deI (ndC n)++ [32])++lstR (ndI n)=zaU (k+1) r i;rw[<-hR,zgV (by omega)];simp[zck,e3,zlx (hne (by omega)),putS,zch,zcp]
 have e3:ndK n≠3:=ne_of_beq_false e3;refine za (za ?_);refine zaa hX hK rfl ?_ ?_
 ·trivial
 refine zae rfl (fun e4=>?_) (fun e4=>?_)
 ·have e4:ndK n=4:=eq_of_beq e4;refine za (za ?_);refine zaa hX hK rfl ?_ ?_
  ·(repeat' first|exact trivial|with_reducible assumption|exact hI|refine⟨?_,?_⟩|intro _|apply cat2|apply catA|exact lC|exact lN|exact lM|exact lS|exact lS2|exact lI|exact hS|exact zj _|exact zd _|rfl|assumption)
  refine zm ⟨.inr rfl,zat rfl trivial rfl rfl ?_⟩;show ([109,111,110,116,104,100,97,121,115,32]:List UInt8)++(deI (ndC n)++ [32])++lstR (ndI n)=zaU (k+1) r i;rw[<-hR,zgV (by omega)];simp[zck,e4,zlx (hne (by omega)),putS,zch,za2]
 have e4:ndK n≠4:=ne_of_beq_false e4;refine za (za ?_);refine zaa hX hK rfl ?_ ?_
 ·trivial
 refine zae rfl (fun e5=>?_) (fun e5=>?_)
 ·have e5:ndK n=5:=eq_of_beq e5;refine za (za ?_);refine zaa hX hK rfl ?_ ?_
  ·(repeat' first|exact trivial|with_reducible assumption|exact hI|refine⟨?_,?_⟩|intro _|apply cat2|apply catA|exact lC|exact lN|exact lM|exact lS|exact lS2|exact lI|exact hS|exact zj _|exact zd _|rfl|assumption)
  refine zm ⟨.inr rfl,zat rfl trivial rfl rfl ?_⟩;show ([119,101,101,107,100,97,121,115,32]:List UInt8)++lstR (ndI n)=zaU (k+1) r i;rw[<-hR,zgV (by omega)];simp[zck,e5,zlx (hne (by omega)),putS,zch,zbf]
 have e5:ndK n≠5:=ne_of_beq_false e5;refine za (za ?_);refine zaa hX hK rfl ?_ ?_
 ·trivial
 refine zae rfl (fun e6=>?_) (fun e6=>?_)
 ·have e6:ndK n=6:=eq_of_beq e6;refine za (za ?_);refine zaa hX hK rfl ?_ ?_
  ·(repeat' first|exact trivial|with_reducible assumption|exact hI|refine⟨?_,?_⟩|intro _|apply cat2|apply catA|exact lC|exact lN|exact lM|exact lS|exact lS2|exact lI|exact hS|exact zj _|exact zd _|rfl|assumption)
  refine zm ⟨.inr rfl,zat rfl trivial rfl rfl ?_⟩;show ([119,101,101,107,115,32]:List UInt8)++(deI (ndC n)++ [32])++lstR (ndI n)=zaU (k+1) r i;rw[<-hR,zgV (by omega)];simp[zck,e6,zlx (hne (by omega)),putS,zch,zdh]
 have e6:ndK n≠6:=ne_of_beq_false e6;refine za (za ?_);refine zaa hX hK rfl ?_ ?_
 ·trivial
 refine zae rfl (fun e7=>?_) (fun e7=>?_)
 ·have e7:ndK n=7:=eq_of_beq e7;(repeat(first|apply zaf|apply zab|apply zac|apply zad));refine qx dM hX hK 16 (by kernel_rfl) rfl rfl ?_ ?_ ?_
  ·(repeat' first|exact trivial|with_reducible assumption|exact hI|refine⟨?_,?_⟩|intro _|apply cat2|apply catA|exact lC|exact lN|exact lM|exact lS|exact lS2|exact lI|exact hS|exact zj _|exact zd _|rfl|assumption)
  ·(repeat' first|exact trivial|with_reducible assumption|exact hI|refine⟨?_,?_⟩|intro _|apply cat2|apply catA|exact lC|exact lN|exact lM|exact lS|exact lS2|exact lI|exact hS|exact zj _|exact zd _|rfl|assumption)
  refine zm ⟨.inr rfl,zat rfl trivial rfl rfl ?_⟩;show ([110,116,104,32]:List UInt8)++(deI (ndC n)++ [32])++deI (ndN n)++([32]:List UInt8)++deI (ndM n)++([32]:List UInt8)++scR (ndL n)=zaU (k+1) r i;rw[<-hR,zgV (by omega)];simp[zck,e7,putS,zch,zor,wNth]
 have e7:ndK n≠7:=ne_of_beq_false e7;refine za (za ?_);refine zaa hX hK rfl ?_ ?_
 ·trivial
 refine zae rfl (fun e18=>?_) (fun e18=>?_)
 ·have e18:ndK n=18:=eq_of_beq e18;refine za (za ?_);refine zaa hX hK rfl ?_ ?_
  ·(repeat' first|exact trivial|with_reducible assumption|exact hI|refine⟨?_,?_⟩|intro _|apply cat2|apply catA|exact lC|exact lN|exact lM|exact lS|exact lS2|exact lI|exact hS|exact zj _|exact zd _|rfl|assumption)
  refine zm ⟨.inr rfl,zat rfl trivial rfl rfl ?_⟩;show ([64]:List UInt8)++ndS n=zaU (k+1) r i;rw[<-hR,zgV (by omega)];simp[zck,e18,putS,zch,wAt]
 have e18:ndK n≠18:=ne_of_beq_false e18;refine za (za ?_);refine zaa hX hK rfl ?_ ?_
 ·trivial
 have two:∀ (p q:Int) (W:List UInt8),8≤ndK n∧ndK n≤10->R=opdF k r (ndL n) p++(W++ []++opdF k r (ndR n) q)->zh (opdF k r (ndL n) p)+W.length≤maxLen∧zh (opdF k r (ndL n) p++W)+zh (opdF k r (ndR n) q)≤maxLen∧(0≤ndL n∧(ndL n).toNat < k∧(ndL n).toNat < r.length∧(zaU k r (ndL n)).length≤1000000)∧0≤ndR n∧(ndR n).toNat < k∧(ndR n).toNat < r.length∧(zaU k r (ndR n)).length≤1000000:=fun p q W h8 hb=>by
  have hl:=low1 (by omega) (by omega);have hr2:=low2 (by omega) (by omega);have hlen:=congrArg zh hb;simp only[zg,zW]at hlen;have g1:=zmm k r (ndL n) p;have g2:=zmm k r (ndR n) q;rw[zg];unfold maxLen;omega
 refine zae rfl (fun e9=>?_) (fun e9=>?_)
 ·have e9:ndK n=9:=eq_of_beq e9;have hb:=hbin (by omega);rw[e9]at hb;have hb:R=opdF k r (ndL n) 1++(([32,111,114,32]:List UInt8)++ []++opdF k r (ndR n) 2):=hb;obtain⟨q0,q1,⟨y1,y2,y3,y4⟩,y5,y6,y7,y8⟩:=two _ _ _ (by omega) hb;(repeat(first|apply zaf|apply zab|apply zac|apply zad));refine qx dM hX hK 9 (by kernel_rfl) rfl rfl ?_ ?_ ?_
  ·repeat'(first|exact trivial|assumption|exact q0|exact q1|exact hw|exact y1|exact y2|exact y3|exact y4|exact y5|exact y6|exact y7|exact y8|(refine⟨?_,?_⟩)|(intro _)|exact zb rfl|exact zd _|(simp_all [allP];done))
  ·repeat'(first|exact trivial|assumption|exact q0|exact q1|exact hw|exact y1|exact y2|exact y3|exact y4|exact y5|exact y6|exact y7|exact y8|(refine⟨?_,?_⟩)|(intro _)|exact zb rfl|exact zd _|(simp_all [allP];done))
  refine zm ⟨.inr rfl,zat rfl trivial rfl rfl ?_⟩;show opdF k r (ndL n) 1++([32,111,114,32]:List UInt8)++opdF k r (ndR n) 2=zaU (k+1) r i;rw[<-hR,hb,zO,zs]
 have e9:ndK n≠9:=ne_of_beq_false e9;refine za (za ?_);refine zaa hX hK rfl ?_ ?_
 ·trivial
 refine zae rfl (fun e10=>?_) (fun e10=>?_)
 ·have e10:ndK n=10:=eq_of_beq e10;have hb:=hbin (by omega);rw[e10]at hb;have hb:R=opdF k r (ndL n) 2++(([32,109,105,110,117,115,32]:List UInt8)++ []++opdF k r (ndR n) 3):=hb;obtain⟨q0,q1,⟨y1,y2,y3,y4⟩,y5,y6,y7,y8⟩:=two _ _ _ (by omega) hb;(repeat(first|apply zaf|apply zab|apply zac|apply zad));refine qx dM hX hK 9 (by kernel_rfl) rfl rfl ?_ ?_ ?_
  ·repeat'(first|exact trivial|assumption|exact q0|exact q1|exact hw|exact y1|exact y2|exact y3|exact y4|exact y5|exact y6|exact y7|exact y8|(refine⟨?_,?_⟩)|(intro _)|exact zb rfl|exact zd _|(simp_all [allP];done))
  ·repeat'(first|exact trivial|assumption|exact q0|exact q1|exact hw|exact y1|exact y2|exact y3|exact y4|exact y5|exact y6|exact y7|exact y8|(refine⟨?_,?_⟩)|(intro _)|exact zb rfl|exact zd _|(simp_all [allP];done))
  refine zm ⟨.inr rfl,zat rfl trivial rfl rfl ?_⟩;show opdF k r (ndL n) 2++([32,109,105,110,117,115,32]:List UInt8)++opdF k r (ndR n) 3=zaU (k+1) r i;rw[<-hR,hb,zO,zs]
 have e10:ndK n≠10:=ne_of_beq_false e10;refine za (za ?_);refine zaa hX hK rfl ?_ ?_
 ·trivial
 refine zae rfl (fun e8=>?_) (fun e8=>?_)
 ·have e8:ndK n=8:=eq_of_beq e8;have hb:=hbin (by omega);rw[e8]at hb;have hb:R=opdF k r (ndL n) 3++(([32,97,110,100,32]:List UInt8)++ []++opdF k r (ndR n) 4):=hb;obtain⟨q0,q1,⟨y1,y2,y3,y4⟩,y5,y6,y7,y8⟩:=two _ _ _ (by omega) hb;(repeat(first|apply zaf|apply zab|apply zac|apply zad));refine qx dM hX hK 9 (by kernel_rfl) rfl rfl ?_ ?_ ?_
  ·repeat'(first|exact trivial|assumption|exact q0|exact q1|exact hw|exact y1|exact y2|exact y3|exact y4|exact y5|exact y6|exact y7|exact y8|(refine⟨?_,?_⟩)|(intro _)|exact zb rfl|exact zd _|(simp_all [allP];done))
  ·repeat'(first|exact trivial|assumption|exact q0|exact q1|exact hw|exact y1|exact y2|exact y3|exact y4|exact y5|exact y6|exact y7|exact y8|(refine⟨?_,?_⟩)|(intro _)|exact zb rfl|exact zd _|(simp_all [allP];done))
  refine zm ⟨.inr rfl,zat rfl trivial rfl rfl ?_⟩;show opdF k r (ndL n) 3++([32,97,110,100,32]:List UInt8)++opdF k r (ndR n) 4=zaU (k+1) r i;rw[<-hR,hb,zO,zs]
 have e8:ndK n≠8:=ne_of_beq_false e8;apply zab;have hs:=hsuf (by omega);have hl:=low1 (by omega) (by omega);have hlen:=congrArg zh hs;rw[zg]at hlen;have g1:=zmm k r (ndL n) 4;have y1:0≤ndL n:=hl.1;have y2:(ndL n).toNat < k:=by omega
 have y3:(ndL n).toNat < r.length:=by omega
 have y4:(zaU k r (ndL n)).length≤1000000:=by omega
 refine za (za ?_);refine zaa hX hK rfl ?_ ?_
 ·repeat'(first|exact trivial|assumption|exact hw|exact y1|exact y2|exact y3|exact y4|(refine⟨?_,?_⟩)|(intro _)|exact zb rfl|exact zd _|(simp_all [allP];done))
 have hO:(opdF k r (ndL n) 4).length≤1000000:=by omega
 refine zaq (σ':=⟨[(0,⟨.slice nd,r⟩),(5,⟨.optr nd,⟨0,nd,.here⟩⟩),(6,⟨.str,deI (ndC n)++ [32]⟩),(7,⟨.str,opdF k r (ndL n) 4⟩)],[(0,some (.box nd n))],1⟩) ⟨⟨rfl,rfl,rfl,rfl,trivial⟩,⟨rfl,trivial⟩,rfl,rfl⟩ ?_;generalize opdF k r (ndL n) 4=O at *;refine za (za ?_);refine zaa hX hK rfl ?_ ?_
 ·trivial
 apply zac;refine za (za ?_);refine zaa hX hK rfl ?_ ?_
 ·trivial
 refine zae rfl (fun e11=>?_) (fun e11=>?_)
 ·have e11:ndK n=11:=eq_of_beq e11;refine za (za ?_);refine zaa hX hK rfl ?_ ?_
  ·(repeat' first|exact trivial|with_reducible assumption|exact hI|refine⟨?_,?_⟩|intro _|apply cat2|apply catA|exact hO|exact lC|exact lN|exact lM|exact lS|exact lS2|exact lI|exact zj _|exact zd _|rfl|assumption)
  refine zm ⟨.inr rfl,zat rfl trivial rfl rfl ?_⟩;show O++([32,115,104,105,102,116,32]:List UInt8)++deI (ndN n)=zaU (k+1) r i;rw[<-hR,hs];simp[zb2,e11,putS,zch,spW,zeo]
 have e11:ndK n≠11:=ne_of_beq_false e11;refine za (za ?_);refine zaa hX hK rfl ?_ ?_
 ·trivial
 refine zae rfl (fun e12=>?_) (fun e12=>?_)
 ·have e12:ndK n=12:=eq_of_beq e12;refine za (za ?_);refine zaa hX hK rfl ?_ ?_
  ·(repeat' first|exact trivial|with_reducible assumption|exact hI|refine⟨?_,?_⟩|intro _|apply cat2|apply catA|exact hO|exact lC|exact lN|exact lM|exact lS|exact lS2|exact lI|exact zj _|exact zd _|rfl|assumption)
  refine zm ⟨.inr rfl,zat rfl trivial rfl rfl ?_⟩;show O++([32,102,114,111,109,32]:List UInt8)++deI (ndN n)=zaU (k+1) r i;rw[<-hR,hs];simp[zb2,e12,putS,zch,spW,zhe]
 have e12:ndK n≠12:=ne_of_beq_false e12;refine za (za ?_);refine zaa hX hK rfl ?_ ?_
 ·trivial
 refine zae rfl (fun e13=>?_) (fun e13=>?_)
 ·have e13:ndK n=13:=eq_of_beq e13;refine za (za ?_);refine zaa hX hK rfl ?_ ?_
  ·(repeat' first|exact trivial|with_reducible assumption|exact hI|refine⟨?_,?_⟩|intro _|apply cat2|apply catA|exact hO|exact lC|exact lN|exact lM|exact lS|exact lS2|exact lI|exact zj _|exact zd _|rfl|assumption)
  refine zm ⟨.inr rfl,zat rfl trivial rfl rfl ?_⟩;show O++([32,117,110,116,105,108,32]:List UInt8)++deI (ndN n)=zaU (k+1) r i;rw[<-hR,hs];simp[zb2,e13,putS,zch,spW,zen]
 have e13:ndK n≠13:=ne_of_beq_false e13;refine za (za ?_);refine zaa hX hK rfl ?_ ?_
 ·trivial
 refine zae rfl (fun e14=>?_) (fun e14=>?_)
 ·have e14:ndK n=14:=eq_of_beq e14;refine za (za ?_);refine zaa hX hK rfl ?_ ?_
  ·(repeat' first|exact trivial|with_reducible assumption|exact hI|refine⟨?_,?_⟩|intro _|apply cat2|apply catA|exact hO|exact lC|exact lN|exact lM|exact lS|exact lS2|exact lI|exact zj _|exact zd _|rfl|assumption)
  refine zm ⟨.inr rfl,zat rfl trivial rfl rfl ?_⟩;show O++([32,97,108,115,111,32]:List UInt8)++lstR (ndI n)=zaU (k+1) r i;rw[<-hR,hs];simp[zb2,e14,zlx (hne (by omega)),putS,zch,spW,ze1]
 have e14:ndK n≠14:=ne_of_beq_false e14;refine za (za ?_);refine zaa hX hK rfl ?_ ?_
 ·trivial
 refine zae rfl (fun e15=>?_) (fun e15=>?_)
 ·have e15:ndK n=15:=eq_of_beq e15;refine za (za ?_);refine zaa hX hK rfl ?_ ?_
  ·(repeat' first|exact trivial|with_reducible assumption|exact hI|refine⟨?_,?_⟩|intro _|apply cat2|apply catA|exact hO|exact lC|exact lN|exact lM|exact lS|exact lS2|exact lI|exact zj _|exact zd _|rfl|assumption)
  refine zm ⟨.inr rfl,zat rfl trivial rfl rfl ?_⟩;show O++([32,101,120,99,101,112,116,32]:List UInt8)++lstR (ndI n)=zaU (k+1) r i;rw[<-hR,hs];simp[zb2,e15,zlx (hne (by omega)),putS,zch,spW,zcq]
 have e15:ndK n≠15:=ne_of_beq_false e15;refine za (za ?_);refine zaa hX hK rfl ?_ ?_
 ·trivial
 refine zae rfl (fun e16=>?_) (fun e16=>?_)
 ·have e16:ndK n=16:=eq_of_beq e16;(repeat(first|apply zaf|apply zab|apply zac|apply zad));refine qx dM hX hK 13 (by kernel_rfl) rfl rfl ?_ ?_ ?_
  ·(repeat' first|exact trivial|with_reducible assumption|exact hI|refine⟨?_,?_⟩|intro _|apply cat2|apply catA|exact hO|exact lC|exact lN|exact lM|exact lS|exact lS2|exact lI|exact zj _|exact zd _|rfl|assumption)
  ·(repeat' first|exact trivial|with_reducible assumption|exact hI|refine⟨?_,?_⟩|intro _|apply cat2|apply catA|exact hO|exact lC|exact lN|exact lM|exact lS|exact lS2|exact lI|exact zj _|exact zd _|rfl|assumption)
  refine zm ⟨.inr rfl,zat rfl trivial rfl rfl ?_⟩;show O++([32,112,111,115,32]:List UInt8)++(deI (ndC n)++ [32])++scR (ndM n)++([32]:List UInt8)++lstR (ndI n)=zaU (k+1) r i;rw[<-hR,hs];simp[zb2,e16,zlx (hne (by omega)),putS,zch,spW,zor,wPos]
 have e16:ndK n≠16:=ne_of_beq_false e16;apply zab;have e17:ndK n=17:=by omega
 have hr2:=low2 (by omega) (by omega);have hs:R=O++(putS (spW zbE) [ndN n]++(putS (spW wOf++ [32]) []++opdF k r (ndR n) 5)):=by
  rw[hs];unfold zb2;rw[if_neg (by omega),if_neg (by omega),if_neg (by omega),if_neg (by omega),if_neg (by omega),if_neg (by omega),if_pos e17]
 have hlen:=congrArg zh hs;rw[zg,zg,zg]at hlen;have g2:=zmm k r (ndR n) 5;have y5:0≤ndR n:=hr2.1;have y6:(ndR n).toNat < k:=by omega
 have y7:(ndR n).toNat < r.length:=by omega
 have y8:(zaU k r (ndR n)).length≤1000000:=by omega
 have hP:(opdF k r (ndR n) 5).length≤1000000:=by omega
 have q3:zh (O++([32,98,101,104,105,110,100,32]:List UInt8)++deI (ndN n)++([32,111,102,32]:List UInt8))+zh (opdF k r (ndR n) 5)≤maxLen:=by
  simp only[putS,zch,spW,zbE,wOf,zg,zt,zW]at hlen ⊢;unfold maxLen;omega
 have q0:zh O+zh ([32,98,101,104,105,110,100,32]:List UInt8)≤maxLen:=cat2 hO (zj _) rfl;have q1:zh (O++([32,98,101,104,105,110,100,32]:List UInt8))+zh (deI (ndN n))≤maxLen:=cat2 (catA hO (zj _)) lN rfl;have q2:zh (O++([32,98,101,104,105,110,100,32]:List UInt8)++deI (ndN n))+zh ([32,111,102,32]:List UInt8)≤maxLen:=cat2 (catA (catA hO (zj _)) lN) (zj _) rfl;(repeat(first|apply zaf|apply zab|apply zac|apply zad));refine qx dM hX hK 12 (by kernel_rfl) rfl rfl ?_ ?_ ?_
 ·repeat'(first|exact trivial|assumption|exact q0|exact q1|exact q2|exact q3|exact a1|exact a2|exact hw|exact y5|exact y6|exact y7|exact y8|(refine⟨?_,?_⟩)|(intro _)|exact zb rfl|exact zd _|(simp_all [allP];done))
 ·repeat'(first|exact trivial|assumption|exact q0|exact q1|exact q2|exact q3|exact a1|exact a2|exact hw|exact y5|exact y6|exact y7|exact y8|(refine⟨?_,?_⟩)|(intro _)|exact zb rfl|exact zd _|(simp_all [allP];done))
 refine zm ⟨.inr rfl,zat rfl trivial rfl rfl ?_⟩;show O++([32,98,101,104,105,110,100,32]:List UInt8)++deI (ndN n)++([32,111,102,32]:List UInt8)++opdF k r (ndR n) 5=zaU (k+1) r i;rw[<-hR,hs];simp[putS,zch,spW,zbE,wOf]
theorem zl8:∀ k:Nat,ym Tryz.prog gmH 64 (zkW k)
 |0=>by
  refine⟨Tryz.call64,fun w O xs vs _ _ hp=>?_⟩;obtain⟨(r:List Nd),(i:Int),_⟩:=xs;have h:i.toNat < 0:=hp.2.2.1;omega
 |k+1=>zm9 (ztp (zl8 k))
theorem zra (A:Option Addr) (n c:Nat):Tryz.prog.built 107 [(1,.slice A n c)]=some #[.pointer none,.slice none 0 0,.slice A n c]:=by kernel_rfl
abbrev prV:Ty:=.hcons .lit (.hcons .lit (.hcons (.slice nd) .unit))
def prX (r:List Nd):prV.T:=(.pointer none,(.slice none 0 0,(r,())))
section
variable {w0:zk} {X:Ownr} {n:Nat} {Q:Exit->AS->Prop} {ops:Array Oper} {F:Frame} {E:Owns} {nx:Nat}
theorem AL.bldPr {o:Oper} {rest:List Oper} {x:zK} (ho:o.op= .build 107 #[(1,x)]) (hgd:o.guard=none) {d:Nat} (hd:o.dst=some d) (hdn:zY d n=true) {r:List Nd} (hx:evO F x=⟨.slice nd,r⟩)
 (h:AL Tryz.prog w0 X n ops rest ⟨(d,⟨prV,prX r⟩)::F,E,nx⟩ Q):AL Tryz.prog w0 X n ops (o::rest) ⟨F,E,nx⟩ Q:=by
 refine AL.hand hgd (fun c e=>by rw[ho]at e;cases e) fun β a w hs=>?_;have hsx:=hs.ops x;rw[show evO (AS.mk F E nx).F x=_ from hx]at hsx;have hsx':=hsx;obtain⟨v,e,hS⟩:=hsx;obtain⟨A,m,c,hv⟩:∃ A m c,a.eval x= .slice A m c:=by
  rw[List.singleton_inj.1 e];rcases hS with ⟨_,A,c,rfl,_⟩|⟨g,off,c,vs,rfl,_⟩
  ·exact⟨_,_,_,rfl⟩
  ·exact⟨_,_,_,rfl⟩
 rw[hv]at hsx';refine zlc hd hdn (v:=⟨prV,prX r⟩) (zl _) (N:=fun σ'=>AL Tryz.prog w0 X n ops rest σ' Q) h hs (u:=.agg #[.pointer none,.slice none 0 0,.slice A m c]) ?_ ?_
 ·unfold execOp;simp only[ho];refine zej ?_;rw[show (#[(1,x)]:Array (Nat×zK)).map (fun p=>(p.1,a.eval p.2))= #[(1,uW A m c)] from by simp[hv]];exact run_build w _ _ _ (zra A m c)
 ·exact⟨_,[_,_],rfl,rfl,rfl,_,[_],rfl,rfl,rfl,_,[],rfl,rfl,hsx',[],rfl,rfl⟩
theorem AL.box3 (hX:X.Ok w0) {o:Oper} {rest:List Oper} {t:zq} {x:zK} (ho:o.op= .box t x) (hgd:o.guard=none) {d:Nat} (hd:o.dst=some d) (hdn:zY d n=true) {A:Ty} {q1 q2:zi} {p:A.T} (hx:evO F x=⟨.hcons .lit (.hcons .lit (.hcons A .unit)),(q1,(q2,(p,())))⟩)
 (hA:A.plainL=true) (hbA:(⟨A,p⟩:V).bound=0) (h:AL Tryz.prog w0 X n ops rest ⟨(d,⟨.hptr,(nx,(0:Nat))⟩)::F,(nx,some (.hbox t [⟨.lit,q1⟩,⟨.lit,q2⟩,⟨A,p⟩]))::E,nx+1⟩ Q):AL Tryz.prog w0 X n ops (o::rest) ⟨F,E,nx⟩ Q:=by
 refine AL.hand hgd (fun c e=>by rw[ho]at e;cases e) fun β a w hs=>?_;have hlt:d < n:=by simpa using hdn
 have h1:=hs.ops x;rw[show evO (AS.mk F E nx).F x=_ from hx]at h1;obtain⟨c1,s1,e1,hc1,r1,h2⟩:=h1;obtain⟨c2,s2,e2,hc2,r2,h3⟩:=h2;obtain⟨c3,s3,e3,hc3,r3,h4⟩:=h3;obtain⟨cs,e4,h4⟩:∃ cs:List zi,(Value.agg s3.toArray)= .agg cs.toArray∧RepC w (OSet X E β) .unit () cs:=(RepD.agg rfl).1 h4;have h4:cs=[]:=h4;subst h4;have e4:s3=[]:=by
  have:=kr e4
  simpa using congrArg vH this
 subst e4;have e3:s2=[c3]:=by
  have:=kr e3
  simpa using congrArg vH this
 subst e3;have e2:s1=[c2,c3]:=by
  have:=kr e2
  simpa using congrArg vH this
 subst e2;refine zbI (u:=.pointer (some ⟨w.heap.size,0,none⟩)) (w':=w.alloc (.cells #[c1,c2,c3] t (0,0))) ?_ ?_
 ·unfold execOp;simp only[ho];refine zej ?_;rw[e1];simp[Instr.box,newVar,newRow,Value.cells,go_sem]
 ·rw[hd];have hk:yZ w.heap.size w (w.alloc (.cells #[c1,c2,c3] t (0,0))):=(zR _ w).alloc (zj _) (.cells #[c1,c2,c3] t (0,0));obtain⟨β',h4⟩:=hs.make hX hk (bv:=.pointer (some ⟨w.heap.size,0,none⟩)) (o:=.hbox t [⟨.lit,q1⟩,⟨.lit,q2⟩,⟨A,p⟩])
   (fun O β' hO=>by
     have hkk:Keeps w (w.alloc (.cells #[c1,c2,c3] t (0,0))) (OSet X E β) O:=.of_below hk fun g hg hg'=>by
      rcases hO g hg' with h5|h5
      ·exact h5
      ·simp[zah]at h5;omega
     exact⟨w.heap.size,[c1,c2,c3],rfl,zl _,xE w _,⟨c1,[c2,c3],rfl,hc1,r1,⟨c2,[c3],rfl,hc2,r2,⟨c3,[],rfl,hc3,RepV.plainL hkk hA r3,rfl⟩⟩⟩⟩) (fun g hg=>by cases hg;exact zj _) (v:=⟨.hptr,(nx,(0:Nat))⟩) (u:=.pointer (some ⟨w.heap.size,0,none⟩))
   (fun O β' hb=>⟨w.heap.size,by show zah (β' nx)=_;rw[show β' nx=_ from hb];rfl,rfl⟩) (zj _) hlt (fun vs e v hv=>by
     cases e;rcases ya.1 hv with rfl|hv
     ·exact zl _
     ·rcases ya.1 hv with rfl|hv
      ·exact zl _
      ·rw[zv.1 hv,hbA];exact zl _)
  exact⟨_,β',h4,h⟩
end
theorem ziS {w0:zk} {O:Nat->Prop} (hX:(qv gmH O).Ok w0) {ty:zq}:ginv w0 (qv gmH O).R ty:=⟨Ownr.plain_noR _ _ _,Ownr.plain_noR _ _ _⟩
theorem know3 (k:Int) (h:0≤k∧k≤2):zgW (zgI k):=by
 have key:∀ k:Fin 3,zgW (zgI ((k.val:Nat):Int)):=by
  intro k;unfold zgW;revert k;decide+kernel
 have:=key ⟨k.toNat,by omega⟩;rwa[show (((⟨k.toNat,by omega⟩:Fin 3).val:Nat):Int)=k by show ((k.toNat:Nat):Int)=k;omega]at this
def zr7 (k:Nat):List Cal:=(List.range 3).map fun j=>if j < k then zgI ((j:Nat):Int) else zCal
theorem bufC {te:zq} {x y:List Cal} (h:x=y):some (OObj.buf te cal x)=some (OObj.buf te cal y):=by rw[h]
theorem zuk:∀ c∈zr7 3,zgW c:=fun c hc=>by
 obtain⟨j,hj,rfl⟩:=List.mem_map.1 hc;have hj:=List.mem_range.1 hj;rw[if_pos hj];exact know3 _ ⟨by omega,by omega⟩
def cFmt:Ctr:={ args:=[.slice nd],pre:=fun _=>[],res:=.tup .str (.tup i64 .unit),own:=none,out:=fun x=>((fmtS x.1).1,(fmtS x.1).2,()) }
def kFm:Kn:={ gmK with C:=[(59,ziW),(34,zum)] }
theorem zbV:KnOk Tryz.prog gmH kFm:=zai.with (.cons zrC <| .cons zsU .nil)
def hFm:List (zU×HCtr):=[(60,zkZ 65),(61,znS prT [107])]
theorem zsz:HsOk Tryz.prog gmH hFm:=.cons (zsr 65).1 <| .cons ztH .nil
set_option maxHeartbeats 1000000 in
theorem zhS:ym Tryz.prog gmH 24 cFmt:=by
 refine zao (K:=kFm) zbV Tryz.func24 rfl rfl Tryz.call24 rfl (by decide) (by intro h;cases h) ?_;rintro w0 X hX ⟨(r:List Nd),_⟩ hp;change AWP _ _ _ _ _ ⟨[(0,⟨.slice nd,r⟩)],[],0⟩ _;refine j8 0 rfl fun hl=>?_;unfold maxLen at hl;have hI:∀ w R,(∀ g,R g->w0.heap.size≤g∨(qv gmH X).R g)->(qv gmH X).G w->bInv prT [107] w R 107:=fun w R hR hw=>⟨zaM (ty:=107) hX rfl (ziS hX) (ty':=107) w R hR hw,zv.2 rfl⟩;refine za (za ?_);refine zaa hX zbV rfl ?_ ?_
 ·trivial
 refine za (za ?_);refine zaa hX zbV rfl ?_ ?_
 ·exact⟨by decide,by decide,(by decide:(3:Int)≤1000000000)⟩
 refine za (za ?_);refine zaa hX zbV rfl ?_ ?_
 ·trivial
 (repeat(first|apply zaf|apply zab|apply zac|apply zad));refine yw (ι:=Nat) (fun k=>⟨[(0,⟨.slice nd,r⟩),(4,⟨.obuf cal,(0:Nat)⟩),(10,⟨i64,(3:Int)⟩),(11,⟨i64,(k:Int)⟩)],[(0,some (.buf 63 cal (zr7 k)))],1⟩) (fun k=>k≤3) (fun k=>3 - k) 0 (zl _) ⟨⟨rfl,rfl,rfl,rfl,trivial⟩,⟨rfl,trivial⟩,rfl,rfl⟩ ?_;intro k hk;refine za (za ?_);refine zaa hX zbV rfl ?_ ?_
 ·trivial
 apply zaf;refine zae rfl (fun hb=>?_) (fun hb=>?_)
 ·have hb:decide ((k:Int) < 3)=true:=hb;have hb:=of_decide_eq_true hb;have z0:(0:Int)≤(k:Int):=by omega
  have z1:(k:Int)≤2:=by omega
  have z2:(k:Int) < (((zr7 k).length:Nat):Int):=by show (k:Int) < ((3:Nat):Int);omega
  have z3:((k:Int)).toNat < (zr7 k).length:=by show _ < 3;omega
  refine za (za ?_);refine zaa hX zbV rfl ?_ ?_
  ·trivial
  refine za (za ?_);refine zaa hX zbV rfl ?_ ?_
  ·repeat'(first|exact trivial|exact z0|exact z1|exact z2|exact z3|(refine⟨?_,?_⟩))
  refine za (za ?_);refine zaa hX zbV rfl ?_ ?_
  ·exact zaG (by omega)
  refine⟨k+1,by omega,by omega,⟨rfl,rfl,rfl,zci _,trivial⟩,⟨bufC ?_,trivial⟩,rfl,rfl⟩;rcases (show k=0∨k=1∨k=2 by omega) with rfl|rfl|rfl<;>rfl
 have hb:decide ((k:Int) < 3)=false:=hb;have hb:=of_decide_eq_false hb;obtain rfl:k=3:=by omega
 apply zad;refine qB hX 4 ?_;refine za (za ?_);refine zaa hX zbV rfl ?_ ?_
 ·exact⟨rfl,zuk⟩
 refine za (za ?_);refine zaa hX zbV rfl ?_ ?_
 ·trivial
 refine zae rfl (fun hb=>?_) (fun hb=>?_)
 ·have hb:(zbg r != 0)=true:=hb;have hb:=bne_iff_ne.1 hb;(repeat(first|apply zaf|apply zab|apply zaj|apply zad|apply zac|refine zaa hX zbV rfl trivial ?_|refine zaa hX zbV rfl id ?_|refine zaa hX zbV rfl ⟨id,id⟩ ?_));refine zm ⟨.inr rfl,zba (by decide) rfl rfl trivial ?_⟩;show (([]:List UInt8),zbg r,())=((fmtS r).1,(fmtS r).2,());unfold fmtS;rw[if_neg hb]
 have hb:(zbg r != 0)=false:=hb;have hv:zbg r=0:=by
  have:=bne_eq_false_iff_eq.1 hb;exact this
 have hwf:=zfc hv;have hok:=zle hwf;have hsz:=zfx hwf;have htx:=zn7 hwf;have htl:=zfz _ hok;obtain⟨⟨w1,w2⟩,_⟩:=zbX hwf;have hne:=zs6 hok (by omega);apply zab;refine zaq (σ':=⟨[(0,⟨.slice nd,r⟩)],[],1⟩) ⟨⟨rfl,trivial⟩,trivial,rfl,rfl⟩ ?_;apply zaf;refine zak ?_;refine yj 1 hX zbV rfl trivial ?_;refine AL.bldPr rfl rfl rfl rfl rfl ?_;refine AL.box3 hX rfl rfl rfl rfl rfl rfl rfl ?_;refine AL.nilLeaf 1 1 5 u8 rfl rfl rfl ?_;refine zX hX zbV rfl trivial ?_;have p0:(0:Int)≤((r.length:Nat):Int) - 1:=by omega
 have p1:(((r.length:Nat):Int) - 1).toNat < 65:=by omega
 have p2:(((r.length:Nat):Int) - 1).toNat < r.length:=by omega
 have hnf:zaU 65 r (((r.length:Nat):Int) - 1)=(zbo r).text:=by
  rw[<-htx];have hlow:=ze7 (zbX hwf).2.1;rw[show (((r.length:Nat):Int) - 1)=((r.length - 1:Nat):Int) by omega,zfJ hlow _ _ (by omega) (by omega),zfJ hlow _ _ (by omega) (by omega),zfy hlow 65 (r.length+1) _ (by omega) (by omega) (by omega)]
 have p3:zh ([]:List UInt8)+zh (zaU 65 r (((r.length:Nat):Int) - 1))+10000≤1000000000:=by
  rw[hnf,zW];omega
 have p4:inR .i64 (((r.length:Nat):Int) - 1):=zan (by omega) (by omega);refine zaq (σ':=⟨[(0,⟨.slice nd,r⟩),(7,⟨.hptr,((1:Nat),(0:Nat))⟩)],[(1,some (.hbox 107 [adV 1 false,⟨.obuf u8,(2:Nat)⟩,⟨.slice nd,r⟩])),(2,some (.buf 5 u8 []))],3⟩) ⟨⟨rfl,rfl,trivial⟩,⟨rfl,rfl,trivial⟩,rfl,rfl⟩ ?_;refine xN (σ':=⟨[(7,⟨.hptr,((1:Nat),(0:Nat))⟩)],[(1,some (.hbox 107 [adV 1 true,⟨.obuf u8,(2:Nat)⟩,⟨.slice nd,r⟩])),(2,some (.buf 5 u8 (zbo r).text))],3⟩) ?_ ?_
 ·refine zak ?_;refine yq 4 hX zbV zsz rfl p4 rfl rfl ⟨wfp_of hwf,p0,p1,p2,p3⟩ hI ?_;refine yf ?_;exact⟨⟨rfl,trivial⟩,⟨rfl,(by show some (OObj.buf _ u8 ([]++zaU 65 r _))=_;rw[yI,hnf]),trivial⟩,rfl,rfl⟩
 have hf:fmtS r=if 4000 < (zbo r).text.length then ([],2) else ((zbo r).text,0):=by unfold fmtS;rw[if_pos hv]
 generalize (zbo r).text=T at hf hne;(repeat(first|apply zaf|apply zab|apply zac|apply zad));refine zak ?_;refine yj 2 hX zbV rfl trivial ?_;refine jO (eqP0 _ _ rfl) hX zbV rfl trivial ?_;refine yq 0 hX zbV zsz rfl trivial rfl rfl trivial hI ?_;refine zX hX zbV rfl trivial ?_;refine zaq (σ':=⟨[(7,⟨.hptr,((1:Nat),(0:Nat))⟩),(41,⟨.bool,decide (((T.length:Nat):Int) > 4000)⟩)],[(1,some (.hbox 107 [adV 1 true,⟨.obuf u8,(2:Nat)⟩,⟨.slice nd,r⟩])),(2,some (.buf 5 u8 T))],3⟩) ⟨⟨rfl,rfl,trivial⟩,⟨rfl,rfl,trivial⟩,rfl,rfl⟩ ?_;refine zae rfl (fun hb=>?_) (fun hb=>?_)
 ·have hb:=of_decide_eq_true hb;(repeat(first|apply zaf|apply zab|apply zaj|apply zad|apply zac|refine zaa hX zbV rfl trivial ?_|refine zaa hX zbV rfl id ?_|refine zaa hX zbV rfl ⟨id,id⟩ ?_));refine zm ⟨.inr rfl,zba (by decide) rfl rfl trivial ?_⟩;show (([]:List UInt8),(2:Int),())=((fmtS r).1,(fmtS r).2,());rw[hf,if_pos (by omega)]
 ·have hb:=of_decide_eq_false hb;apply zab;(repeat(first|apply zaf|apply zab|apply zac|apply zad));refine zak ?_;refine yj 2 hX zbV rfl trivial ?_;refine jO (eqP0 _ _ rfl) hX zbV rfl trivial ?_;refine AL.give hX (zj3 prT rfl [107]) rfl rfl rfl rfl rfl rfl rfl rfl rfl rfl rfl rfl trivial hne hI rfl rfl ?_;show AL _ _ _ _ _ _ _ _;refine zX hX zbV rfl trivial ?_;refine zm ⟨.inr rfl,zba (by decide) rfl rfl trivial ?_⟩;show (T,(0:Int),())=((fmtS r).1,(fmtS r).2,());rw[hf,if_neg (by omega)]
def kFm7:Kn:={ gmK with C:=[(35,zql),(63,cVal6),(64,zkW 1000)] }
theorem zcF:KnOk Tryz.prog gmH kFm7:=zai.with (.cons zr8 <| .cons zsV <| .cons (zl8 1000) .nil)
theorem znA {r:List Nd} (h:wfS r=true):zaU 1000 r ((r.length:Int) - 1)=(zbo r).text:=by
 obtain⟨⟨h1,h2⟩,h3,h4⟩:=zbX h;have e:((r.length:Int) - 1)=((r.length - 1:Nat):Int):=by omega
 unfold zbo;rw[e,zfy (ze7 h3) (r.length+1) 1000 (r.length - 1) (by omega) (by omega) (by omega)];exact zfJ (ze7 h3) _ _ (by omega) (by omega)
theorem zt2:ym Tryz.prog gmH 25 cFmt:=by
 refine zao (K:=kFm7) zcF Tryz.func25 rfl rfl Tryz.call25 rfl (by decide) (by intro h;cases h) ?_;rintro w0 X hX ⟨(r:List Nd),_⟩ hp;change AWP _ _ _ _ _ ⟨[(0,⟨.slice nd,r⟩)],[],0⟩ _;refine j8 0 rfl fun hl=>?_;unfold maxLen at hl;refine za (za ?_);refine zaa hX zcF rfl ?_ ?_
 ·trivial
 have hcc:zql.out ()=zdS:=rfl;refine za (za ?_);refine zaa hX zcF rfl ?_ ?_
 ·exact hcc
 refine zaq (σ':=⟨[(0,⟨.slice nd,r⟩),(4,⟨i64,zbg r⟩)],[],0⟩) ⟨⟨rfl,rfl,trivial⟩,trivial,rfl,rfl⟩ ?_;refine za (za ?_);refine zaa hX zcF rfl ?_ ?_
 ·trivial
 refine zae rfl (fun hc=>?_) (fun hc=>?_)
 ·have hc:(zbg r != 0)=true:=hc;have hc:zbg r≠0:=by simpa using hc
  (repeat(first|apply zaf|apply zab|apply zaj|apply zad|apply zac|refine zaa hX zcF rfl trivial ?_|refine zaa hX zcF rfl id ?_|refine zaa hX zcF rfl ⟨id,id⟩ ?_));refine zm ⟨.inr rfl,zba (by decide) rfl rfl trivial ?_⟩;show (([]:List UInt8),zbg r,())=((fmtS r).1,(fmtS r).2,());unfold fmtS;rw[if_neg hc]
 have hc:(zbg r != 0)=false:=hc;have hc:zbg r=0:=by simpa using hc
 have hw:=zfc hc;obtain⟨⟨h1,h2⟩,_⟩:=zbX hw;have hT:=znA hw;have htl:=zfz _ (zle hw);rw[zfx hw]at htl;apply zab;have i1:inR .i64 (((r.length:Nat):Int) - 1):=zan (by omega) (by omega);have i2:0≤((r.length:Nat):Int) - 1:=by omega
 have i3:(((r.length:Nat):Int) - 1).toNat < 1000:=by omega
 have i4:(((r.length:Nat):Int) - 1).toNat < r.length:=by omega
 have i5:(zaU 1000 r (((r.length:Nat):Int) - 1)).length≤1000000:=by rw[hT];omega
 refine za (za ?_);refine zaa hX zcF rfl ?_ ?_
 ·exact⟨i1,hw,i2,i3,i4,i5⟩
 refine zaq (σ':=⟨[(5,⟨.str,(zbo r).text⟩)],[],0⟩) ⟨⟨bufS hT,trivial⟩,trivial,rfl,rfl⟩ ?_;refine za (za ?_);refine zaa hX zcF rfl ?_ ?_
 ·trivial
 refine zae rfl (fun hd=>?_) (fun hd=>?_)
 ·have hd:decide ((((zbo r).text.length:Nat):Int) > 4000)=true:=hd;have hd:=of_decide_eq_true hd;(repeat(first|apply zaf|apply zab|apply zaj|apply zad|apply zac|refine zaa hX zcF rfl trivial ?_|refine zaa hX zcF rfl id ?_|refine zaa hX zcF rfl ⟨id,id⟩ ?_));refine zm ⟨.inr rfl,zba (by decide) rfl rfl trivial ?_⟩;show (([]:List UInt8),(2:Int),())=((fmtS r).1,(fmtS r).2,());unfold fmtS;rw[if_pos hc,if_pos (by omega)]
 ·have hd:decide ((((zbo r).text.length:Nat):Int) > 4000)=false:=hd;have hd:=of_decide_eq_false hd;(repeat(first|apply zaf|apply zab|apply zaj|apply zad|apply zac|refine zaa hX zcF rfl trivial ?_|refine zaa hX zcF rfl id ?_|refine zaa hX zcF rfl ⟨id,id⟩ ?_));refine zm ⟨.inr rfl,zba (by decide) rfl rfl trivial ?_⟩;show ((zbo r).text,(0:Int),())=((fmtS r).1,(fmtS r).2,());unfold fmtS;rw[if_pos hc,if_neg (by omega)]
abbrev Mk:=List Int×Int×Int×Int×Unit
def mkD (m:Mk):List Int:=m.1
def mkU (m:Mk):Int:=m.2.1
def mkN (m:Mk):Int:=m.2.2.1
def mkS (m:Mk):Int:=m.2.2.2.1
def mkUp (m:Mk):Mk:=(mkD m,mkU m+1,mkN m,mkS m,())
def zal (m:Mk) (n:Int):Int×Mk:=(if mkU m+1 > (((mkD m).length:Nat):Int) then 0 else (mkD m).getD (mkU m).toNat 0 % n,mkUp m)
def zsc:RCtr:={ self:=mkr,args:=[i64],inv:=fun _ _=>True,pre:=fun m xs=>[0≤mkU m,mkU m≤1000000,0 < xs.1,xs.1≤1000000000],res:=i64,out:=fun m xs=>(zal m xs.1).1,post:=fun m xs=>(zal m xs.1).2 }
def kMd:Kn:={ gmK with C:=[(40,cMod)] }
theorem ziR:KnOk Tryz.prog gmG kMd:=zaE.with (.cons mod_ok .nil)
theorem zlq:zfb Tryz.prog gmG 92 zsc:=by
 refine zd9 (K:=kMd) ziR Tryz.func92 rfl rfl Tryz.call92 rfl (by decide) (fun w w' g hg h hk=>trivial) ?_;rintro w0 O g hX hinv ⟨(d:List Int),(u:Int),(nm:Int),(sz:Int),_⟩ ⟨(n:Int),_⟩ hp;obtain⟨h0,h1,h2,h3⟩:0≤u∧u≤1000000∧0 < n∧n≤1000000000:=hp;change AWP _ _ _ _ _ ⟨[(0,⟨.optr mkr,⟨0,mkr,.here⟩⟩),(1,⟨i64,n⟩)],[(0,some (.box mkr (d,u,nm,sz,())))],1⟩ _;have i1:inR .i64 (u+1):=zan (by omega) (by omega);have i2:inR .i64 (u+1 - 1):=zan (by omega) (by omega);have i3:(0:Int)≤u+1 - 1:=by omega
 refine za (za ?_);refine zaa hX ziR rfl ?_ ?_
 ·trivial
 refine za (za ?_);refine zaa hX ziR rfl ?_ ?_
 ·exact i1
 (repeat(first|apply zaf|apply zab|apply zac|apply zad));refine qx dM hX ziR 9 (by kernel_rfl) rfl rfl ?_ ?_ ?_
 ·trivial
 ·trivial
 refine zae rfl (fun hb=>?_) (fun hb=>?_)
 ·have hb:decide (u+1 > ((d.length:Nat):Int))=true:=hb;have hb:=of_decide_eq_true hb;refine za (za ?_);refine zaa hX ziR rfl ?_ ?_
  ·trivial
  refine zm ⟨.inr rfl,rfl,zat rfl trivial rfl rfl ?_⟩;exact (if_pos (show mkU (d,u,nm,sz,())+1 > (((mkD (d,u,nm,sz,())).length:Nat):Int) from hb)).symm
 ·have hb:decide (u+1 > ((d.length:Nat):Int))=false:=hb;have hb:=of_decide_eq_false hb;apply zab;have i4:u+1 - 1 < ((d.length:Nat):Int):=by omega
  have i5:(u+1 - 1).toNat < d.length:=by omega
  (repeat(first|apply zaf|apply zab|apply zac|apply zad));refine qx dM hX ziR 12 (by kernel_rfl) rfl rfl ?_ ?_ ?_
  ·repeat'(first|exact trivial|assumption|exact i2|exact i3|exact i4|exact i5|exact h2|exact h3|(refine⟨?_,?_⟩)|(intro _)|exact zb rfl|exact zd _|(simp_all [allP];done))
  ·repeat'(first|exact trivial|assumption|exact i2|exact i3|exact i4|exact i5|exact h2|exact h3|(refine⟨?_,?_⟩)|(intro _)|exact zb rfl|exact zd _|(simp_all [allP];done))
  refine zm ⟨.inr rfl,rfl,zat rfl trivial rfl rfl ?_⟩;show d.getD (u+1 - 1).toNat 0 % n=_;refine Eq.trans ?_ (if_neg (show ¬ mkU (d,u,nm,sz,())+1 > (((mkD (d,u,nm,sz,())).length:Nat):Int) from hb)).symm;rw[show u+1 - 1=u by omega];rfl
theorem zaJ (m:Mk) {n:Int} (h:0 < n):0≤(zal m n).1∧(zal m n).1 < n:=by
 unfold zal;split
 ·exact⟨xF _,h⟩
 ·exact⟨Int.emod_nonneg _ (by omega),Int.emod_lt_of_pos _ h⟩
theorem zaW (m:Mk) (n:Int):mkU (zal m n).2=mkU m+1:=rfl
theorem ztz (m:Mk) (n:Int):mkN (zal m n).2=mkN m:=rfl
def mRis (lo hi:Int):Nat->Mk->Int->List Int->List Int×Mk
 |0,m,_,acc=>(acc,m)
 |k+1,m,v,acc=>if v≤hi then mRis lo hi k (zal m 3).2 (v+1+(zal m 3).1) (if v≠0∨0≤lo then acc++ [v] else acc) else (acc,m)
def orHi (hi:Int) (p:List Int×Mk):List Int×Mk:=(if p.1.length=0 then [hi] else p.1,p.2)
def zaL (m:Mk) (lo hi:Int):List Int×Mk:=
 let p:=zal m 4
 let q:=zal p.2 (hi - lo+1)
 orHi hi (mRis lo hi (1+p.1).toNat q.2 (lo+q.1) [])
def zlX:RCtr:={ self:=mkr,args:=[i64,i64],inv:=fun _ _=>True,pre:=fun m xs=>[0≤mkU m,mkU m≤900000,-1000≤xs.1,xs.1≤xs.2.1,xs.2.1≤1000],res:=ints,out:=fun m xs=>(zaL m xs.1 xs.2.1).1,post:=fun m xs=>(zaL m xs.1 xs.2.1).2 }
def kRi:Kn:={ gmK with R:=[(92,zsc)] }
theorem zc9:KnOk Tryz.prog gmG kRi:=zaE.withR (.cons zlq (fun _ _=>trivial) .nil)
theorem zkc:zfb Tryz.prog gmG 96 zlX:=by
 refine zd9 (K:=kRi) zc9 Tryz.func96 rfl rfl Tryz.call96 rfl (by decide) (fun w w' g hg h hk=>trivial) ?_;rintro w0 O g hX hinv ⟨(d:List Int),(u:Int),(nm:Int),(sz:Int),_⟩ ⟨(lo:Int),(hi:Int),_⟩ hp;obtain⟨h0,h1,h2,h3,h4⟩:0≤u∧u≤900000∧ -1000≤lo∧lo≤hi∧hi≤1000:=hp;obtain⟨m,hm⟩:∃ m:Mk,m=(d,u,nm,sz,()):=⟨_,rfl⟩;rw[<-hm];have h0:0≤mkU m:=by rw[hm];exact h0
 have h1:mkU m≤900000:=by rw[hm];exact h1
 change AWP _ _ _ _ _ ⟨[(0,⟨.optr mkr,⟨0,mkr,.here⟩⟩),(1,⟨i64,lo⟩),(2,⟨i64,hi⟩)],[(0,some (.box mkr m))],1⟩ _;clear hm;have hc:=zaJ m (n:=4) (by decide);have hu1:=zaW m 4;obtain⟨c,hc0⟩:∃ k:Nat,(zal m 4).1=(k:Int):=⟨(zal m 4).1.toNat,by omega⟩;have ha1:mkU m≤1000000:=by omega
 have i1:inR .i64 (1+(zal m 4).1):=zan (by omega) (by omega);refine za (za ?_);refine zaa hX zc9 rfl ?_ ?_
 ·trivial
 refine za (za ?_);refine zaa hX zc9 rfl ?_ ?_
 ·repeat'(first|exact trivial|assumption|exact h0|exact ha1|exact i1|(refine⟨?_,?_⟩)|(intro _)|exact zb rfl|exact zd _|(simp_all [allP];done))
 have hN0:1+(zal m 4).1=((c+1:Nat):Int):=by omega
 have e0:orHi hi (mRis lo hi (c+1) (zal (zal m 4).2 (hi - lo+1)).2 (lo+(zal (zal m 4).2 (hi - lo+1)).1) [])=zaL m lo hi:=by
  unfold zaL;simp only[hN0,zB]
 have hd1:=zaJ (zal m 4).2 (n:=hi - lo+1) (by omega);have hu2:=zaW (zal m 4).2 (hi - lo+1);have j1:inR .i64 (hi - lo):=zan (by omega) (by omega);have j2:inR .i64 (hi - lo+1):=zan (by omega) (by omega);have j3:0≤mkU (zal m 4).2:=by omega
 have j4:mkU (zal m 4).2≤1000000:=by omega
 have j5:0 < hi - lo+1:=by omega
 have j6:hi - lo+1≤1000000000:=by omega
 have j7:inR .i64 (lo+(zal (zal m 4).2 (hi - lo+1)).1):=zan (by omega) (by omega);refine za (za ?_);refine zaa hX zc9 rfl ?_ ?_
 ·repeat'(first|exact trivial|assumption|exact j1|exact j2|exact j3|exact j4|exact j5|exact j6|exact j7|(refine⟨?_,?_⟩)|(intro _)|exact zb rfl|exact zd _|(simp_all [allP];done))
 have u2:mkU (zal (zal m 4).2 (hi - lo+1)).2=mkU m+2:=by omega
 have v2:lo≤lo+(zal (zal m 4).2 (hi - lo+1)).1∧lo+(zal (zal m 4).2 (hi - lo+1)).1≤hi:=by omega
 refine za (za ?_);refine zaa hX zc9 rfl ?_ ?_
 ·trivial
 refine AWP.nilBuf hX 9 3 i64 rfl rfl rfl ?_;refine za (za ?_);refine zaa hX zc9 rfl ?_ ?_
 ·trivial
 have hcl:c+1≤4:=by omega
 refine zaq (σ':=⟨[(0,⟨.optr mkr,⟨0,mkr,.here⟩⟩),(1,⟨i64,lo⟩),(2,⟨i64,hi⟩),(7,⟨i64,((c+1:Nat):Int)⟩),(8,⟨i64,lo+(zal (zal m 4).2 (hi - lo+1)).1⟩),(9,⟨.obuf i64,(1:Nat)⟩),(10,⟨i64,(0:Int)⟩)],[(0,some (.box mkr (zal (zal m 4).2 (hi - lo+1)).2)),(1,some (.buf 3 i64 []))],2⟩) ⟨⟨rfl,rfl,rfl,vI64 hN0,rfl,rfl,rfl,trivial⟩,⟨rfl,rfl,trivial⟩,rfl,rfl⟩ ?_;obtain⟨R,hRR⟩:∃ R,R=zaL m lo hi:=⟨_,rfl⟩;rw[<-hRR]at e0;generalize (zal (zal m 4).2 (hi - lo+1)).2=m2 at *;generalize lo+(zal (zal m 4).2 (hi - lo+1)).1=v at *;clear hc hu1 hc0 ha1 i1 hN0 hd1 hu2 j1 j2 j3 j4 j5 j6 j7;apply zac;refine yw (ι:=Nat×Mk×Int×List Int) (fun x=>⟨[(0,⟨.optr mkr,⟨0,mkr,.here⟩⟩),(1,⟨i64,lo⟩),(2,⟨i64,hi⟩),(7,⟨i64,((c+1:Nat):Int)⟩),(8,⟨i64,x.2.2.1⟩),(9,⟨.obuf i64,(1:Nat)⟩),(10,⟨i64,(((c+1) - x.1:Nat):Int)⟩)],[(0,some (.box mkr x.2.1)),(1,some (.buf 3 i64 x.2.2.2))],2⟩) (fun x=>orHi hi (mRis lo hi x.1 x.2.1 x.2.2.1 x.2.2.2)=R∧x.1≤c+1∧mkU x.2.1=mkU m+2+((c+1 - x.1:Nat):Int)∧(lo≤x.2.2.1∧x.2.2.1≤hi+3)∧x.2.2.2.length≤4 - x.1) (fun x=>x.1) (c+1,m2,v,[]) ⟨e0,zj _,?_,⟨v2.1,?_⟩,zl _⟩ ⟨⟨rfl,rfl,rfl,rfl,rfl,rfl,vI64 ?_,trivial⟩,⟨rfl,rfl,trivial⟩,rfl,rfl⟩ ?_
 ·show mkU m2=mkU m+2+((c+1 - (c+1):Nat):Int);omega
 ·show v≤hi+3;omega
 ·show (0:Int)=((c+1 - (c+1):Nat):Int);omega
 rintro ⟨k,mk,w,acc⟩ ⟨hR,hk,hu,⟨hw1,hw2⟩,hacc⟩;have hR:orHi hi (mRis lo hi k mk w acc)=R:=hR;have hk:k≤c+1:=hk;have hu:mkU mk=mkU m+2+((c+1 - k:Nat):Int):=hu;have hw1:lo≤w:=hw1;have hw2:w≤hi+3:=hw2;have hacc:acc.length≤4 - k:=hacc;clear e0 u2 v2;change AWP _ _ _ _ _ ⟨[(0,⟨.optr mkr,⟨0,mkr,.here⟩⟩),(1,⟨i64,lo⟩),(2,⟨i64,hi⟩),(7,⟨i64,((c+1:Nat):Int)⟩),(8,⟨i64,w⟩),(9,⟨.obuf i64,(1:Nat)⟩),(10,⟨i64,(((c+1) - k:Nat):Int)⟩)],[(0,some (.box mkr mk)),(1,some (.buf 3 i64 acc))],2⟩ _;have hq:(bif decide ((((c+1) - k:Nat):Int) < ((c+1:Nat):Int)) then decide (w≤hi) else false)=decide (0 < k∧w≤hi):=by
  rw[zcS,zL,zf,decide_eq_true_iff,decide_eq_true_iff,decide_eq_true_iff];omega
 refine za (za ?_);refine zaa hX zc9 rfl ?_ ?_
 ·repeat'(first|exact trivial|assumption|(refine⟨?_,?_⟩)|(intro _)|exact zb rfl|exact zd _|(simp_all [allP];done))
 refine zae rfl (fun hb=>?_) (fun hb=>?_)
 ·have hb:=of_decide_eq_true (hq.symm.trans hb);obtain⟨hk0,hwh⟩:=hb;obtain⟨k,rfl⟩:∃ j,k=j+1:=⟨k - 1,by omega⟩;have hR2:orHi hi (mRis lo hi k (zal mk 3).2 (w+1+(zal mk 3).1) (if w≠0∨0≤lo then acc++ [w] else acc))=R:=by
   rw[<-hR]
   conv=>rhs;rw[mRis,if_pos hwh]
  have hp3:=zaJ mk (n:=3) (by decide);have hu3:=zaW mk 3;have q1:0≤mkU mk:=by omega
  have q2:mkU mk≤1000000:=by omega
  have q3:inR .i64 (w+1):=zan (by omega) (by omega);have q4:inR .i64 (w+1+(zal mk 3).1):=zan (by omega) (by omega);have q5:inR .i64 ((((c+1) - (k+1):Nat):Int)+1):=zan (by omega) (by omega);have q6:acc.length+1≤1000000000:=by omega
  have hend:((((c+1) - (k+1):Nat):Int)+1)=(((c+1) - k:Nat):Int):=by omega
  have hq2:(bif (!(w==0)) then true else decide (lo≥0))=decide (w≠0∨0≤lo):=by
   rw[b_or,zL,zV,decide_eq_true_iff,decide_eq_true_iff,zu,beq_eq_false_iff_ne]
  refine za (za ?_);refine zaa hX zc9 rfl ?_ ?_
  ·repeat'(first|exact trivial|assumption|(refine⟨?_,?_⟩)|(intro _)|exact zb rfl|exact zd _|(simp_all [allP];done))
  refine zae rfl (fun hc=>?_) (fun hc=>?_)
  ·have hc:=of_decide_eq_true (hq2.symm.trans hc);rw[if_pos hc]at hR2;refine za (za ?_);refine zaa hX zc9 rfl ?_ ?_
   ·exact q6
   refine za (za ?_);refine zaa hX zc9 rfl ?_ ?_
   ·repeat'(first|exact trivial|assumption|exact q1|exact q2|exact q3|exact q4|(refine⟨?_,?_⟩)|(intro _)|exact zb rfl|exact zd _|(simp_all [allP];done))
   refine za (za ?_);refine zaa hX zc9 rfl ?_ ?_
   ·exact q5
   refine⟨(k,(zal mk 3).2,w+1+(zal mk 3).1,acc++ [w]),⟨hR2,by show k≤c+1;omega,?_,⟨?_,?_⟩,?_⟩,by show k < k+1;omega,⟨rfl,rfl,rfl,rfl,rfl,rfl,vI64 hend,trivial⟩,⟨rfl,rfl,trivial⟩,rfl,rfl⟩
   ·show mkU (zal mk 3).2=mkU m+2+((c+1 - k:Nat):Int);omega
   ·show lo≤w+1+(zal mk 3).1;omega
   ·show w+1+(zal mk 3).1≤hi+3;omega
   ·show (acc++ [w]).length≤4 - k;rw[zg,yv];omega
  ·have hc:=of_decide_eq_false (hq2.symm.trans hc);rw[if_neg hc]at hR2;apply zab;refine za (za ?_);refine zaa hX zc9 rfl ?_ ?_
   ·repeat'(first|exact trivial|assumption|exact q1|exact q2|exact q3|exact q4|(refine⟨?_,?_⟩)|(intro _)|exact zb rfl|exact zd _|(simp_all [allP];done))
   refine za (za ?_);refine zaa hX zc9 rfl ?_ ?_
   ·exact q5
   refine⟨(k,(zal mk 3).2,w+1+(zal mk 3).1,acc),⟨hR2,by show k≤c+1;omega,?_,⟨?_,?_⟩,?_⟩,by show k < k+1;omega,⟨rfl,rfl,rfl,rfl,rfl,rfl,vI64 hend,trivial⟩,⟨rfl,rfl,trivial⟩,rfl,rfl⟩
   ·show mkU (zal mk 3).2=mkU m+2+((c+1 - k:Nat):Int);omega
   ·show lo≤w+1+(zal mk 3).1;omega
   ·show w+1+(zal mk 3).1≤hi+3;omega
   ·show acc.length≤4 - k;omega
 ·have hb:=of_decide_eq_false (hq.symm.trans hb);have hR3:(mRis lo hi k mk w acc)=(acc,mk):=by
   cases k with
   |zero=>rfl
   |succ k=>rw[mRis,if_neg (by omega)]
  rw[hR3]at hR;apply zad;have q6:acc.length+1≤1000000000:=by omega
  have hq3:(((acc.length:Nat):Int)==0)=decide (acc.length=0):=by
   rw[zL,beq_iff_eq,decide_eq_true_iff];omega
  refine za (za ?_);refine zaa hX zc9 rfl ?_ ?_
  ·trivial
  refine zae rfl (fun hc=>?_) (fun hc=>?_)
  ·have hc:=of_decide_eq_true (hq3.symm.trans hc);refine za (za ?_);refine zaa hX zc9 rfl ?_ ?_
   ·exact q6
   refine qB hX 9 ?_;refine za (za ?_);refine zaa hX zc9 rfl ?_ ?_
   ·trivial
   refine zm ⟨.inr rfl,?_,zat rfl trivial rfl rfl ?_⟩
   ·show some (OObj.box mkr mk)=some (OObj.box mkr (zaL m lo hi).2);rw[<-hRR, <-hR];rfl
   ·show acc++ [hi]=(zaL m lo hi).1;rw[<-hRR, <-hR];unfold orHi;rw[if_pos hc,List.length_eq_zero_iff.1 hc];rfl
  ·have hc:=of_decide_eq_false (hq3.symm.trans hc);apply zab;refine qB hX 9 ?_;refine za (za ?_);refine zaa hX zc9 rfl ?_ ?_
   ·trivial
   refine zm ⟨.inr rfl,?_,zat rfl trivial rfl rfl ?_⟩
   ·show some (OObj.box mkr mk)=some (OObj.box mkr (zaL m lo hi).2);rw[<-hRR, <-hR];rfl
   ·show acc=(zaL m lo hi).1;rw[<-hRR, <-hR];unfold orHi;rw[if_neg hc]
section
variable {P:Program} {w0:zk} {X:Ownr} {n:Nat} {σ:AS} {Q:Exit->AS->Prop} {ops:Array Oper}
theorem AL.guardU (j s:Nat) (b:Bool) (t:Ty) (y:t.T) {z:Bool} {o:Oper} {rest:List Oper} (hg:o.guard=some (j,b)) (hd:(ops[j]?).bind (·.dst)=some s) (hs:Frame.get σ.F s=⟨.cond .bool,(false,z)⟩) (hsn:zY s n=true) {d:Nat} (hdst:o.dst=some d) (hdn:zY d n=true) (h:AL P w0 X n ops rest ⟨(d,⟨.cond t,(false,y)⟩)::σ.F,σ.E,σ.nx⟩ Q) (hb:bnd t y=0:=by rfl):AL P w0 X n ops (o::rest) σ Q:=by
 intro β a w hsim;have hv:a.tmps.getD s undef=undef:=by
  have h2:=hsim.fr s;rw[hs]at h2;exact h2.2 rfl
 have hsz:s < a.tmps.size:=by rw[hsim.sz];simpa using hsn
 have hy:yielded ops a.tmps j=none:=by
  unfold yielded;rw[hd];have:a.tmps[s]? =some undef:=by
   rw[zQ,yn hsz]at hv;rw[yn hsz];exact congrArg some hv
  show (match (a.tmps[s]?) with
   |some (.bool b)=>some b
   |_=>none)=none
  rw[this];rfl
 have hw:¬ zG o (yielded ops a.tmps)=true:=by simp[zG,hg,hy]
 show if zG o (yielded ops a.tmps)=true then _ else _
 rw[if_neg hw];refine⟨fun f _=>zeM _ f,?_⟩;rw[hdst];exact h _ _ _ (hsim.put (zR _ _) (v:=⟨.cond t,(false,y)⟩) ⟨fun h=>(by cases h),fun _=>rfl⟩ (by rw[show V.bound ⟨.cond t,(false,y)⟩=bnd t y from rfl,hb];exact zl _) (by simpa using hdn))
end
def zdb (k:Int) (m:Mk):Bool×Mk:=if k=8 then (mkN m==0,m) else if k=6 then ((zal m 2).1==0,(zal m 2).2) else (false,m)
def zek (k:Int) (m:Mk) (ids:Int):Int×Mk:=if k≠1∧k≠5 then zal m ids else (0,m)
def zgH (k c:Int) (m:Mk):Nd×Mk:=
 if k=1 then let p:=zal m 12;let q:=zal p.2 20;((1,c,0,0,1+p.1,q.1,[],[],()),q.2)
 else if k=2 then let p:=zal m 4;let q:=zal p.2 (1+p.1);((2,c,0,0,1+p.1,q.1,[],[],()),q.2)
 else if k=3 then let p:=zaL m 1 4;((3,c,0,0,0,0,p.1,[],()),p.2)
 else if k=4 then let p:=zaL m (-4) 7;((4,c,0,0,0,0,p.1,[],()),p.2)
 else if k=5 then let p:=zaL m 0 6;((5,c,0,0,0,0,p.1,[],()),p.2)
 else if k=6 then let p:=zaL m 1 4;((6,c,0,0,0,0,p.1,[],()),p.2)
 else let p:=zal m 3;let q:=zal p.2 2;let r:=zal q.2 7;let s:=zal r.2 2;((k,c,s.1,0,(if q.1=1 then -(1+p.1) else 1+p.1),r.1,[],[],()),s.2)
def lfK (k:Int) (b:Bool):Int:=bif b then 1 else k
def ziO (k:Int) (m:Mk) (ids:Int):Nd×Mk:=
 let q:=zdb k m
 if k=8∧mkN q.2 > 0 then let r:=zal q.2 (mkN q.2);((18,0,0,0,0,0,[],[110]++deI r.1,()),r.2)
 else zgH (lfK k q.1) (zek (lfK k q.1) q.2 ids).1 (zek (lfK k q.1) q.2 ids).2
def zdm (m:Mk) (ids:Int):Nd×Mk:=ziO (1+(zal m 8).1) (zal m 8).2 ids
def zsL:RCtr:={ self:=mkr,args:=[i64],inv:=fun _ _=>True,pre:=fun m xs=>[0≤mkU m,mkU m≤800000,0≤mkN m,mkN m≤1000000,0 < xs.1,xs.1≤1000000],res:=nd,out:=fun m xs=>(zdm m xs.1).1,post:=fun m xs=>(zdm m xs.1).2 }
def kMl:Kn:={ gmK with C:=[(107,cDec)],R:=[(92,zsc),(96,zlX)] }
theorem zaA:KnOk Tryz.prog gmG kMl:={ zaE.with (.cons zp7 .nil) with r:=.cons zlq (fun _ _=>trivial) (.cons zkc (fun _ _=>trivial) .nil) }
abbrev sLf (m:Mk) (ids k:Int) (n:Nd):AS:=⟨[(0,⟨.optr mkr,⟨0,mkr,.here⟩⟩),(1,⟨i64,ids⟩),(4,⟨.optr nd,⟨1,nd,.here⟩⟩),(5,⟨i64,k⟩),(6,⟨.optr nd,⟨2,nd,.here⟩⟩)],[(0,some (.box mkr m)),(1,some (.box nd zNd)),(2,some (.box nd n))],3⟩
theorem zrk:zfb Tryz.prog gmG 93 zsL:=by
 refine zd9 (K:=kMl) zaA Tryz.func93 rfl rfl Tryz.call93 rfl (by decide) (fun w w' g hg h hk=>trivial) ?_;rintro w0 O g hX hinv (m:Mk) ⟨(ids:Int),_⟩ hp;obtain⟨h0,h1,h2,h3,h4,h5⟩:0≤mkU m∧mkU m≤800000∧0≤mkN m∧mkN m≤1000000∧0 < ids∧ids≤1000000:=hp;change AWP _ _ _ _ _ ⟨[(0,⟨.optr mkr,⟨0,mkr,.here⟩⟩),(1,⟨i64,ids⟩)],[(0,some (.box mkr m))],1⟩ _;have a1:mkU m≤1000000:=by omega
 have hk:=zaJ m (n:=8) (by decide);have hu1:=zaW m 8;have hn1:=ztz m 8;have a2:inR .i64 (1+(zal m 8).1):=zan (by omega) (by omega);refine za (za ?_);refine zaa hX zaA rfl ?_ ?_
 ·trivial
 refine za (za ?_);refine zaa hX zaA rfl ?_ ?_
 ·repeat'(first|exact trivial|assumption|exact h0|exact a1|exact a2|(refine⟨?_,?_⟩)|(intro _)|exact zb rfl|exact zd _|(simp_all [allP];done))
 refine za (za ?_);refine zaa hX zaA rfl ?_ ?_
 ·trivial
 obtain⟨R,hRR⟩:∃ R,R=zdm m ids:=⟨_,rfl⟩;have hR:R=ziO (1+(zal m 8).1) (zal m 8).2 ids:=hRR;refine zaq (σ':=sLf (zal m 8).2 ids (1+(zal m 8).1) (1+(zal m 8).1,0,0,0,0,0,[],[],())) ⟨⟨rfl,rfl,rfl,rfl,rfl,trivial⟩,⟨rfl,rfl,rfl,trivial⟩,rfl,rfl⟩ ?_;generalize hk1:1+(zal m 8).1=k at *;have hkr:1≤k∧k≤8:=by omega
 generalize (zal m 8).2=m1 at *;have b1:0≤mkU m1:=by omega
 have b2:mkU m1≤1000000:=by omega
 clear hk hk1 a1 a2;apply zaf;refine jf (σ':=sLf (zdb k m1).2 ids k (lfK k (zdb k m1).1,0,0,0,0,0,[],[],())) ?_ ?_
 ·apply zaf;refine zak ?_;refine yj 3 hX zaA rfl trivial ?_;by_cases h8:k=8
  ·subst h8;have e:zdb 8 m1=(mkN m1==0,m1):=rfl;rw[e];refine xe 2 14 true rfl rfl rfl rfl ?_;refine yj 1 hX zaA rfl trivial ?_;refine xe 2 14 true rfl rfl rfl rfl ?_;refine yj 1 hX zaA rfl trivial ?_;refine xe 2 14 true rfl rfl rfl rfl ?_;refine yj 1 hX zaA rfl trivial ?_;refine xe 2 14 true rfl rfl rfl rfl ?_;refine yj 1 hX zaA rfl trivial ?_;refine xe 2 14 true rfl rfl rfl rfl ?_;refine yj 3 hX zaA rfl trivial ?_;by_cases hN:(mkN m1==0)=true
   ·rw[hN];refine yp 9 21 false i64 0 rfl rfl (zcv hN) rfl rfl rfl ?_;refine yp 9 21 false .bool false rfl rfl (zcv hN) rfl rfl rfl ?_;refine yp 9 21 false .bool false rfl rfl (zcv hN) rfl rfl rfl ?_;refine AL.guardU 12 24 true i64 0 rfl rfl rfl rfl rfl rfl ?_;refine AL.guardU 12 24 true i64 0 rfl rfl rfl rfl rfl rfl ?_;refine AL.guardU 12 24 true .bool false rfl rfl rfl rfl rfl rfl ?_;refine yp 9 21 false .bool false rfl rfl (zcv hN) rfl rfl rfl ?_;refine zX hX zaA rfl (fun hc=>absurd (show (!(mkN m1==0))=true from hc) (by rw[hN];decide)) ?_;refine zae rfl (fun _=>?_) (fun hb=>?_)
    ·refine za (za ?_);refine zaa hX zaA rfl ?_ ?_
     ·trivial
     exact⟨⟨rfl,rfl,rfl,rfl,rfl,trivial⟩,⟨rfl,rfl,rfl,trivial⟩,rfl,rfl⟩
    ·have hb:(bif (mkN m1==0) then true else false)=false:=hb;rw[hN]at hb;cases hb
   ·have hN:(mkN m1==0)=false:=by simpa using hN
    rw[hN];refine qN (σ':=⟨(21,⟨.bool,false⟩)::(sLf m1 ids 8 (8,0,0,0,0,0,[],[],())).F,(sLf m1 ids 8 (8,0,0,0,0,0,[],[],())).E,3⟩) ⟨⟨zcv hN,rfl,rfl,rfl,rfl,rfl,trivial⟩,⟨rfl,rfl,rfl,trivial⟩,rfl,rfl⟩ ?_;refine xe 9 21 false rfl rfl rfl rfl ?_;refine yj 1 hX zaA rfl trivial ?_;refine xe 9 21 false rfl rfl rfl rfl ?_;refine yj 1 hX zaA rfl trivial ?_;refine xe 9 21 false rfl rfl rfl rfl ?_;refine yj 1 hX zaA rfl trivial ?_;refine yp 12 24 true i64 0 rfl rfl rfl rfl rfl rfl ?_;refine yp 12 24 true i64 0 rfl rfl rfl rfl rfl rfl ?_;refine yp 12 24 true .bool false rfl rfl rfl rfl rfl rfl ?_;refine xe 9 21 false rfl rfl rfl rfl ?_;refine zX hX zaA rfl (by repeat'(first|exact trivial|assumption|(refine⟨?_,?_⟩)|(intro _)|exact zb rfl|exact zd _|(simp_all [allP];done))) ?_;refine zae rfl (fun hb=>?_) (fun _=>?_)
    ·have hb:false=true:=hb;cases hb
    apply zab;exact⟨⟨rfl,rfl,rfl,rfl,rfl,trivial⟩,⟨rfl,rfl,rfl,trivial⟩,rfl,rfl⟩
  ·have h8b:(k==8)=false:=beq_false_of_ne h8;refine qN (σ':=⟨(14,⟨.bool,false⟩)::(sLf m1 ids k (k,0,0,0,0,0,[],[],())).F,(sLf m1 ids k (k,0,0,0,0,0,[],[],())).E,3⟩) ⟨⟨zcv h8b,rfl,rfl,rfl,rfl,rfl,trivial⟩,⟨rfl,rfl,rfl,trivial⟩,rfl,rfl⟩ ?_;refine yp 2 14 true i64 0 rfl rfl rfl rfl rfl rfl ?_;refine yp 2 14 true i64 0 rfl rfl rfl rfl rfl rfl ?_;refine yp 2 14 true i64 0 rfl rfl rfl rfl rfl rfl ?_;refine yp 2 14 true i64 0 rfl rfl rfl rfl rfl rfl ?_;refine yp 2 14 true .bool false rfl rfl rfl rfl rfl rfl ?_;refine yj 2 hX zaA rfl (by repeat'(first|exact trivial|assumption|(refine⟨?_,?_⟩)|(intro _)|exact zb rfl|exact zd _|(simp_all [allP];done))) ?_;refine qN (σ':=⟨(21,⟨.bool,false⟩)::(sLf m1 ids k (k,0,0,0,0,0,[],[],())).F,(sLf m1 ids k (k,0,0,0,0,0,[],[],())).E,3⟩) ⟨⟨rfl,rfl,rfl,rfl,rfl,rfl,trivial⟩,⟨rfl,rfl,rfl,trivial⟩,rfl,rfl⟩ ?_;refine xe 9 21 false rfl rfl rfl rfl ?_;refine yj 1 hX zaA rfl trivial ?_;refine xe 9 21 false rfl rfl rfl rfl ?_;refine yj 1 hX zaA rfl trivial ?_;refine xe 9 21 false rfl rfl rfl rfl ?_;refine yj 1 hX zaA rfl trivial ?_;by_cases h6:k=6
   ·subst h6;have e:zdb 6 m1=((zal m1 2).1==0,(zal m1 2).2):=rfl;rw[e];refine xe 12 24 true rfl rfl rfl rfl ?_;refine yj 1 hX zaA rfl trivial ?_;refine xe 12 24 true rfl rfl rfl rfl ?_;refine yj 1 hX zaA rfl (by repeat'(first|exact trivial|assumption|exact b1|exact b2|(refine⟨?_,?_⟩)|(intro _)|exact zb rfl|exact zd _|(simp_all [allP];done))) ?_;refine xe 12 24 true rfl rfl rfl rfl ?_;refine yj 1 hX zaA rfl trivial ?_;refine xe 9 21 false rfl rfl rfl rfl ?_;refine zX hX zaA rfl (by repeat'(first|exact trivial|assumption|(refine⟨?_,?_⟩)|(intro _)|exact zb rfl|exact zd _|(simp_all [allP];done))) ?_;refine zae rfl (fun hb=>?_) (fun hb=>?_)
    ·have hb:((zal m1 2).1==0)=true:=hb;rw[hb];refine za (za ?_);refine zaa hX zaA rfl ?_ ?_
     ·trivial
     exact⟨⟨rfl,rfl,rfl,rfl,rfl,trivial⟩,⟨rfl,rfl,rfl,trivial⟩,rfl,rfl⟩
    ·have hb:((zal m1 2).1==0)=false:=hb;rw[hb];apply zab;exact⟨⟨rfl,rfl,rfl,rfl,rfl,trivial⟩,⟨rfl,rfl,rfl,trivial⟩,rfl,rfl⟩
   ·have h6b:(k==6)=false:=beq_false_of_ne h6;have e:zdb k m1=(false,m1):=by unfold zdb;rw[if_neg h8,if_neg h6]
    rw[e];refine qN (σ':=⟨(21,⟨.bool,false⟩)::(24,⟨.bool,false⟩)::(sLf m1 ids k (k,0,0,0,0,0,[],[],())).F,(sLf m1 ids k (k,0,0,0,0,0,[],[],())).E,3⟩) ⟨⟨rfl,zcv h6b,rfl,rfl,rfl,rfl,rfl,trivial⟩,⟨rfl,rfl,rfl,trivial⟩,rfl,rfl⟩ ?_;refine yp 12 24 true i64 0 rfl rfl rfl rfl rfl rfl ?_;refine yp 12 24 true i64 0 rfl rfl rfl rfl rfl rfl ?_;refine yp 12 24 true .bool false rfl rfl rfl rfl rfl rfl ?_;refine xe 9 21 false rfl rfl rfl rfl ?_;refine zX hX zaA rfl (by repeat'(first|exact trivial|assumption|(refine⟨?_,?_⟩)|(intro _)|exact zb rfl|exact zd _|(simp_all [allP];done))) ?_;refine zae rfl (fun hb=>?_) (fun _=>?_)
    ·have hb:false=true:=hb;cases hb
    apply zab;exact⟨⟨rfl,rfl,rfl,rfl,rfl,trivial⟩,⟨rfl,rfl,rfl,trivial⟩,rfl,rfl⟩
 have hm2:mkN (zdb k m1).2=mkN m∧0≤mkU (zdb k m1).2∧mkU (zdb k m1).2≤mkU m+2:=by
  unfold zdb;split
  ·exact⟨hn1,b1,by show mkU m1≤_;omega⟩
  ·split
   ·exact⟨hn1,by show 0≤mkU (zal m1 2).2;rw[zaW];omega,by show mkU (zal m1 2).2≤_;rw[zaW];omega⟩
   ·exact⟨hn1,b1,by show mkU m1≤_;omega⟩
 have hk8:k=8->(zdb k m1).1=(mkN m==0):=fun h=>by
  rw[h];show (mkN m1==0)=(mkN m==0);rw[hn1]
 unfold ziO at hR;generalize zdb k m1=q at *;obtain⟨b,m2⟩:=q;obtain⟨n2,u2,u3⟩:mkN m2=mkN m∧0≤mkU m2∧mkU m2≤mkU m+2:=hm2;have hk8:k=8->b=(mkN m==0):=hk8;have hR:R=if k=8∧mkN m2 > 0 then ((18,0,0,0,0,0,[],[110]++deI (zal m2 (mkN m2)).1,()),(zal m2 (mkN m2)).2) else zgH (lfK k b) (zek (lfK k b) m2 ids).1 (zek (lfK k b) m2 ids).2:=hR
 show AWP _ _ _ _ _ (sLf m2 ids k (lfK k b,0,0,0,0,0,[],[],())) _;have g1:mkU m2≤1000000:=by omega
 have g2:mkN m2≤1000000000:=by omega
 have hq:(bif (k==8) then decide (mkN m2 > 0) else false)=decide (k=8∧mkN m2 > 0):=by
  rw[zcS,zL,zf,decide_eq_true_iff,decide_eq_true_iff,beq_iff_eq]
 refine za (za ?_);refine zaa hX zaA rfl ?_ ?_
 ·repeat'(first|exact trivial|assumption|(refine⟨?_,?_⟩)|(intro _)|exact zb rfl|exact zd _|(simp_all [allP];done))
 refine zae rfl (fun hc=>?_) (fun hc=>?_)
 ·have hc:=of_decide_eq_true (hq.symm.trans hc);rw[if_pos hc]at hR;have hp2:=zaJ m2 (n:=mkN m2) (by omega);have g3:0 < mkN m2:=hc.2;have g4: -100000000000000000 < (zal m2 (mkN m2)).1:=by omega
  have g5:(zal m2 (mkN m2)).1 < 100000000000000000:=by omega
  have hl:(deI (zal m2 (mkN m2)).1).length≤18:=zdf (by omega) (by omega);have g6:1+(deI (zal m2 (mkN m2)).1).length≤maxLen:=by unfold maxLen;omega
  refine za (za ?_);refine zaa hX zaA rfl ?_ ?_
  ·trivial
  refine za (za ?_);refine zaa hX zaA rfl ?_ ?_
  ·repeat'(first|exact trivial|assumption|exact u2|exact g1|exact g3|exact g2|exact g4|exact g5|exact g6|(refine⟨?_,?_⟩)|(intro _)|exact zb rfl|exact zd _|(simp_all [allP];done))
  refine za (za ?_);refine zaa hX zaA rfl ?_ ?_
  ·trivial
  refine zm ⟨.inr rfl,?_,zat rfl trivial rfl rfl ?_⟩
  ·show some (OObj.box mkr (zal m2 (mkN m2)).2)=some (OObj.box mkr (zdm m ids).2);rw[<-hRR,hR]
  ·show (((18:Int),(0:Int),(0:Int),(0:Int),(0:Int),(0:Int),([]:List Int),[110]++deI (zal m2 (mkN m2)).1,()):Nd)=(zdm m ids).1;rw[<-hRR,hR]
 have hc:=of_decide_eq_false (hq.symm.trans hc);rw[if_neg hc]at hR;apply zab;have hk2:1≤lfK k b∧lfK k b≤7:=by
  unfold lfK;cases b with
  |true=>exact⟨by show (1:Int)≤1;omega,by show (1:Int)≤7;omega⟩
  |false=>
   show 1≤k∧k≤7;refine⟨hkr.1,?_⟩;by_cases h8:k=8
   ·have hz:=hk8 h8;have:mkN m≠0:=fun h=>by rw[h]at hz;cases hz
    exact absurd ⟨h8,by omega⟩ hc
   ·omega
 clear hk8 hq hc;generalize lfK k b=c at *;apply zaf;refine jf (σ':=sLf (zek c m2 ids).2 ids k (c,(zek c m2 ids).1,0,0,0,0,[],[],())) ?_ ?_
 ·have hq:(bif (!(c==1)) then (!(c==5)) else false)=decide (c≠1∧c≠5):=by
   rw[zcS,zL,zf,decide_eq_true_iff,zu,zu,beq_eq_false_iff_ne,beq_eq_false_iff_ne]
  refine za (za ?_);refine zaa hX zaA rfl ?_ ?_
  ·repeat'(first|exact trivial|assumption|(refine⟨?_,?_⟩)|(intro _)|exact zb rfl|exact zd _|(simp_all [allP];done))
  refine zae rfl (fun hc=>?_) (fun hc=>?_)
  ·have hc:=of_decide_eq_true (hq.symm.trans hc);have e:zek c m2 ids=zal m2 ids:=if_pos hc;have h6:ids≤1000000000:=by omega
   refine za (za ?_);refine zaa hX zaA rfl ?_ ?_
   ·repeat'(first|exact trivial|assumption|exact u2|exact g1|exact h4|exact h6|(refine⟨?_,?_⟩)|(intro _)|exact zb rfl|exact zd _|(simp_all [allP];done))
   rw[e];exact⟨⟨rfl,rfl,rfl,rfl,rfl,trivial⟩,⟨rfl,rfl,rfl,trivial⟩,rfl,rfl⟩
  ·have hc:=of_decide_eq_false (hq.symm.trans hc);have e:zek c m2 ids=(0,m2):=if_neg hc;apply zab;rw[e];exact⟨⟨rfl,rfl,rfl,rfl,rfl,trivial⟩,⟨rfl,rfl,rfl,trivial⟩,rfl,rfl⟩
 have hm3:0≤mkU (zek c m2 ids).2∧mkU (zek c m2 ids).2≤mkU m+3:=by
  unfold zek;split
  ·rw[zaW];omega
  ·exact⟨u2,by show mkU m2≤_;omega⟩
 generalize zek c m2 ids=q at *;obtain⟨(cy:Int),(m3:Mk)⟩:=q;obtain⟨w1,w2⟩:0≤mkU m3∧mkU m3≤mkU m+3:=hm3;have hR:R=zgH c cy m3:=hR;show AWP _ _ _ _ _ (sLf m3 ids k (c,cy,0,0,0,0,[],[],())) _;have w3:mkU m3≤1000000:=by omega
 have w4:mkU m3≤900000:=by omega
 refine za (za ?_);refine zaa hX zaA rfl ?_ ?_
 ·trivial
 refine jf (σ':=sLf R.2 ids k R.1) ?_ ?_
 ·apply zac;rcases (show c=1∨c=2∨c=3∨c=4∨c=5∨c=6∨c=7 by omega) with rfl|rfl|rfl|rfl|rfl|rfl|rfl
  ·skip
   refine za (za ?_);refine zaa hX zaA rfl ?_ ?_
   ·trivial
   refine zae rfl (fun _=>?_) (fun hb=>absurd (show ((1:Int)==1)=false from hb) (by decide));have hp:=zaJ m3 (n:=12) (by decide);have z1:inR .i64 (1+(zal m3 12).1):=zan (by omega) (by omega);have z2:0≤mkU (zal m3 12).2:=by rw[zaW];omega
   have z3:mkU (zal m3 12).2≤1000000:=by rw[zaW];omega
   refine za (za ?_);refine zaa hX zaA rfl ?_ ?_
   ·repeat'(first|exact trivial|assumption|exact w1|exact w3|exact z1|(refine⟨?_,?_⟩)|(intro _)|exact zb rfl|exact zd _|(simp_all [allP];done))
   refine za (za ?_);refine zaa hX zaA rfl ?_ ?_
   ·repeat'(first|exact trivial|assumption|exact z2|exact z3|(refine⟨?_,?_⟩)|(intro _)|exact zb rfl|exact zd _|(simp_all [allP];done))
   rw[hR];exact⟨⟨rfl,rfl,rfl,rfl,rfl,trivial⟩,⟨rfl,rfl,rfl,trivial⟩,rfl,rfl⟩
  ·have hp4:=zaJ m3 (n:=4) (by decide);refine za (za ?_);refine zaa hX zaA rfl ?_ ?_
   ·trivial
   refine zae rfl (fun hb=>absurd (show ((2:Int)==1)=true from hb) (by decide)) (fun _=>?_);refine za (za ?_);refine zaa hX zaA rfl ?_ ?_
   ·trivial
   refine zae rfl (fun _=>?_) (fun hb=>absurd (show ((2:Int)==2)=false from hb) (by decide));have z1:inR .i64 (1+(zal m3 4).1):=zan (by omega) (by omega);have z2:0≤mkU (zal m3 4).2:=by rw[zaW];omega
   have z3:mkU (zal m3 4).2≤1000000:=by rw[zaW];omega
   have z4:0 < 1+(zal m3 4).1:=by omega
   have z5:1+(zal m3 4).1≤1000000000:=by omega
   refine za (za ?_);refine zaa hX zaA rfl ?_ ?_
   ·repeat'(first|exact trivial|assumption|exact w1|exact w3|exact z1|(refine⟨?_,?_⟩)|(intro _)|exact zb rfl|exact zd _|(simp_all [allP];done))
   refine za (za ?_);refine zaa hX zaA rfl ?_ ?_
   ·repeat'(first|exact trivial|assumption|exact z2|exact z3|exact z4|exact z5|(refine⟨?_,?_⟩)|(intro _)|exact zb rfl|exact zd _|(simp_all [allP];done))
   rw[hR];exact⟨⟨rfl,rfl,rfl,rfl,rfl,trivial⟩,⟨rfl,rfl,rfl,trivial⟩,rfl,rfl⟩
  ·skip
   refine za (za ?_);refine zaa hX zaA rfl ?_ ?_
   ·trivial
   refine zae rfl (fun hb=>absurd (show ((3:Int)==1)=true from hb) (by decide)) (fun _=>?_);refine za (za ?_);refine zaa hX zaA rfl ?_ ?_
   ·trivial
   refine zae rfl (fun hb=>absurd (show ((3:Int)==2)=true from hb) (by decide)) (fun _=>?_);refine za (za ?_);refine zaa hX zaA rfl ?_ ?_
   ·trivial
   refine zae rfl (fun _=>?_) (fun hb=>absurd (show ((3:Int)==3)=false from hb) (by decide));refine za (za ?_);refine zaa hX zaA rfl ?_ ?_
   ·repeat'(first|exact trivial|assumption|exact w1|exact w4|(refine⟨?_,?_⟩)|(intro _)|exact zb rfl|exact zd _|(simp_all [allP];done))
   rw[hR];exact⟨⟨rfl,rfl,rfl,rfl,rfl,trivial⟩,⟨rfl,rfl,rfl,trivial⟩,rfl,rfl⟩
  ·skip
   refine za (za ?_);refine zaa hX zaA rfl ?_ ?_
   ·trivial
   refine zae rfl (fun hb=>absurd (show ((4:Int)==1)=true from hb) (by decide)) (fun _=>?_);refine za (za ?_);refine zaa hX zaA rfl ?_ ?_
   ·trivial
   refine zae rfl (fun hb=>absurd (show ((4:Int)==2)=true from hb) (by decide)) (fun _=>?_);refine za (za ?_);refine zaa hX zaA rfl ?_ ?_
   ·trivial
   refine zae rfl (fun hb=>absurd (show ((4:Int)==3)=true from hb) (by decide)) (fun _=>?_);refine za (za ?_);refine zaa hX zaA rfl ?_ ?_
   ·trivial
   refine zae rfl (fun _=>?_) (fun hb=>absurd (show ((4:Int)==4)=false from hb) (by decide));refine za (za ?_);refine zaa hX zaA rfl ?_ ?_
   ·repeat'(first|exact trivial|assumption|exact w1|exact w4|(refine⟨?_,?_⟩)|(intro _)|exact zb rfl|exact zd _|(simp_all [allP];done))
   rw[hR];exact⟨⟨rfl,rfl,rfl,rfl,rfl,trivial⟩,⟨rfl,rfl,rfl,trivial⟩,rfl,rfl⟩
  ·skip
   refine za (za ?_);refine zaa hX zaA rfl ?_ ?_
   ·trivial
   refine zae rfl (fun hb=>absurd (show ((5:Int)==1)=true from hb) (by decide)) (fun _=>?_);refine za (za ?_);refine zaa hX zaA rfl ?_ ?_
   ·trivial
   refine zae rfl (fun hb=>absurd (show ((5:Int)==2)=true from hb) (by decide)) (fun _=>?_);refine za (za ?_);refine zaa hX zaA rfl ?_ ?_
   ·trivial
   refine zae rfl (fun hb=>absurd (show ((5:Int)==3)=true from hb) (by decide)) (fun _=>?_);refine za (za ?_);refine zaa hX zaA rfl ?_ ?_
   ·trivial
   refine zae rfl (fun hb=>absurd (show ((5:Int)==4)=true from hb) (by decide)) (fun _=>?_);refine za (za ?_);refine zaa hX zaA rfl ?_ ?_
   ·trivial
   refine zae rfl (fun _=>?_) (fun hb=>absurd (show ((5:Int)==5)=false from hb) (by decide));refine za (za ?_);refine zaa hX zaA rfl ?_ ?_
   ·repeat'(first|exact trivial|assumption|exact w1|exact w4|(refine⟨?_,?_⟩)|(intro _)|exact zb rfl|exact zd _|(simp_all [allP];done))
   rw[hR];exact⟨⟨rfl,rfl,rfl,rfl,rfl,trivial⟩,⟨rfl,rfl,rfl,trivial⟩,rfl,rfl⟩
  ·skip
   refine za (za ?_);refine zaa hX zaA rfl ?_ ?_
   ·trivial
   refine zae rfl (fun hb=>absurd (show ((6:Int)==1)=true from hb) (by decide)) (fun _=>?_);refine za (za ?_);refine zaa hX zaA rfl ?_ ?_
   ·trivial
   refine zae rfl (fun hb=>absurd (show ((6:Int)==2)=true from hb) (by decide)) (fun _=>?_);refine za (za ?_);refine zaa hX zaA rfl ?_ ?_
   ·trivial
   refine zae rfl (fun hb=>absurd (show ((6:Int)==3)=true from hb) (by decide)) (fun _=>?_);refine za (za ?_);refine zaa hX zaA rfl ?_ ?_
   ·trivial
   refine zae rfl (fun hb=>absurd (show ((6:Int)==4)=true from hb) (by decide)) (fun _=>?_);refine za (za ?_);refine zaa hX zaA rfl ?_ ?_
   ·trivial
   refine zae rfl (fun hb=>absurd (show ((6:Int)==5)=true from hb) (by decide)) (fun _=>?_);refine za (za ?_);refine zaa hX zaA rfl ?_ ?_
   ·trivial
   refine zae rfl (fun _=>?_) (fun hb=>absurd (show ((6:Int)==6)=false from hb) (by decide));refine za (za ?_);refine zaa hX zaA rfl ?_ ?_
   ·repeat'(first|exact trivial|assumption|exact w1|exact w4|(refine⟨?_,?_⟩)|(intro _)|exact zb rfl|exact zd _|(simp_all [allP];done))
   rw[hR];exact⟨⟨rfl,rfl,rfl,rfl,rfl,trivial⟩,⟨rfl,rfl,rfl,trivial⟩,rfl,rfl⟩
  ·skip
   refine za (za ?_);refine zaa hX zaA rfl ?_ ?_
   ·trivial
   refine zae rfl (fun hb=>absurd (show ((7:Int)==1)=true from hb) (by decide)) (fun _=>?_);refine za (za ?_);refine zaa hX zaA rfl ?_ ?_
   ·trivial
   refine zae rfl (fun hb=>absurd (show ((7:Int)==2)=true from hb) (by decide)) (fun _=>?_);refine za (za ?_);refine zaa hX zaA rfl ?_ ?_
   ·trivial
   refine zae rfl (fun hb=>absurd (show ((7:Int)==3)=true from hb) (by decide)) (fun _=>?_);refine za (za ?_);refine zaa hX zaA rfl ?_ ?_
   ·trivial
   refine zae rfl (fun hb=>absurd (show ((7:Int)==4)=true from hb) (by decide)) (fun _=>?_);refine za (za ?_);refine zaa hX zaA rfl ?_ ?_
   ·trivial
   refine zae rfl (fun hb=>absurd (show ((7:Int)==5)=true from hb) (by decide)) (fun _=>?_);refine za (za ?_);refine zaa hX zaA rfl ?_ ?_
   ·trivial
   refine zae rfl (fun hb=>absurd (show ((7:Int)==6)=true from hb) (by decide)) (fun _=>?_);have hp:=zaJ m3 (n:=3) (by decide);have z1:inR .i64 (1+(zal m3 3).1):=zan (by omega) (by omega);have z2:0≤mkU (zal m3 3).2:=by rw[zaW];omega
   have z3:mkU (zal m3 3).2≤1000000:=by rw[zaW];omega
   refine za (za ?_);refine zaa hX zaA rfl ?_ ?_
   ·repeat'(first|exact trivial|assumption|exact w1|exact w3|exact z1|(refine⟨?_,?_⟩)|(intro _)|exact zb rfl|exact zd _|(simp_all [allP];done))
   have z4:0≤mkU (zal (zal m3 3).2 2).2:=by rw[zaW,zaW];omega
   have z5:mkU (zal (zal m3 3).2 2).2≤1000000:=by rw[zaW,zaW];omega
   have z6:0≤mkU (zal (zal (zal m3 3).2 2).2 7).2:=by rw[zaW,zaW,zaW];omega
   have z7:mkU (zal (zal (zal m3 3).2 2).2 7).2≤1000000:=by rw[zaW,zaW,zaW];omega
   have z8:inR .i64 (-(1+(zal m3 3).1)):=zan (by omega) (by omega);have hR:R=((7,cy,(zal (zal (zal (zal m3 3).2 2).2 7).2 2).1,0,(if (zal (zal m3 3).2 2).1=1 then -(1+(zal m3 3).1) else 1+(zal m3 3).1),(zal (zal (zal m3 3).2 2).2 7).1,[],[],()),(zal (zal (zal (zal m3 3).2 2).2 7).2 2).2):=hR;refine za (za ?_);refine zaa hX zaA rfl ?_ ?_
   ·repeat'(first|exact trivial|assumption|exact z2|exact z3|(refine⟨?_,?_⟩)|(intro _)|exact zb rfl|exact zd _|(simp_all [allP];done))
   refine zae rfl (fun hb=>?_) (fun hb=>?_)
   ·have hb:((zal (zal m3 3).2 2).1==1)=true:=hb;rw[if_pos (eq_of_beq hb)]at hR;refine za (za ?_);refine zaa hX zaA rfl ?_ ?_
    ·exact z8
    refine za (za ?_);refine zaa hX zaA rfl ?_ ?_
    ·repeat'(first|exact trivial|assumption|exact z4|exact z5|(refine⟨?_,?_⟩)|(intro _)|exact zb rfl|exact zd _|(simp_all [allP];done))
    refine za (za ?_);refine zaa hX zaA rfl ?_ ?_
    ·repeat'(first|exact trivial|assumption|exact z6|exact z7|(refine⟨?_,?_⟩)|(intro _)|exact zb rfl|exact zd _|(simp_all [allP];done))
    rw[hR];exact⟨⟨rfl,rfl,rfl,rfl,rfl,trivial⟩,⟨rfl,rfl,rfl,trivial⟩,rfl,rfl⟩
   ·have hb:((zal (zal m3 3).2 2).1==1)=false:=hb;rw[if_neg (by simpa using hb)]at hR;apply zab;refine za (za ?_);refine zaa hX zaA rfl ?_ ?_
    ·repeat'(first|exact trivial|assumption|exact z4|exact z5|(refine⟨?_,?_⟩)|(intro _)|exact zb rfl|exact zd _|(simp_all [allP];done))
    refine za (za ?_);refine zaa hX zaA rfl ?_ ?_
    ·repeat'(first|exact trivial|assumption|exact z6|exact z7|(refine⟨?_,?_⟩)|(intro _)|exact zb rfl|exact zd _|(simp_all [allP];done))
    rw[hR];exact⟨⟨rfl,rfl,rfl,rfl,rfl,trivial⟩,⟨rfl,rfl,rfl,trivial⟩,rfl,rfl⟩
 show AWP _ _ _ _ _ (sLf R.2 ids k R.1) _;refine za (za ?_);refine zaa hX zaA rfl ?_ ?_
 ·trivial
 refine zm ⟨.inr rfl,?_,zat rfl trivial rfl rfl ?_⟩
 ·show some (OObj.box mkr R.2)=some (OObj.box mkr (zdm m ids).2);rw[<-hRR]
 ·show R.1=(zdm m ids).1;rw[<-hRR]
def TrSh:Tr->Prop
 | .leaf n=>¬ (8≤ndK n∧ndK n≤17)∧(0≤ndL n∧ndL n≤1)∧ndR n=0
 | .un n a=>(11≤ndK n∧ndK n≤16)∧ndR n=0∧TrSh a
 | .bin n a b=>((8≤ndK n∧ndK n≤10)∨ndK n=17)∧TrSh a∧TrSh b
theorem zdP:∀ t:Tr,1≤t.size
 | .leaf _=>zj _
 | .un _ a=>by have:=zdP a;rw[vp];omega
 | .bin _ a b=>by have:=zdP a;rw[vp];omega
theorem zep {k:Int}:two k=true↔(8≤k∧k≤10)∨k=17:=by
 unfold two;rw[zV,zV,zV,beq_iff_eq,beq_iff_eq,beq_iff_eq,beq_iff_eq];omega
theorem zlv {n:Nd} {b:Int} (h:¬ (8≤ndK n∧ndK n≤17)):zcL b n=n:=by
 obtain⟨k,c,L,R,rest⟩:=n;have h:¬ (8≤k∧k≤17):=h;have h2:¬ two k=true:=by rw[zep];omega
 unfold zcL;rw[if_neg h,if_neg h2]
theorem zo8 {n:Nd} {b x:Int} (h:11≤ndK n∧ndK n≤16):zcL b (setL n x)=setL n (x+b):=by
 obtain⟨k,c,L,R,rest⟩:=n;have h:11≤k∧k≤16:=h;have h1:8≤k∧k≤17:=by omega
 have h2:¬ two k=true:=by rw[zep];omega
 show (k,c,(if 8≤k∧k≤17 then x+b else x),(if two k then R+b else R),rest)=(k,c,x+b,R,rest);rw[if_pos h1,if_neg h2]
theorem znD {n:Nd} {b x y:Int} (h:(8≤ndK n∧ndK n≤10)∨ndK n=17):zcL b (zcr n x y)=zcr n (x+b) (y+b):=by
 obtain⟨k,c,L,R,rest⟩:=n;have h:(8≤k∧k≤10)∨k=17:=h;have h1:8≤k∧k≤17:=by omega
 have h2:two k=true:=zep.2 h;show (k,c,(if 8≤k∧k≤17 then x+b else x),(if two k then y+b else y),rest)=(k,c,x+b,y+b,rest);rw[if_pos h1,if_pos h2]
theorem zeT:∀ (t:Tr) (i j:Nat),TrSh t->zeg (t.flat i) (j:Int)=t.flat (i+j)
 | .leaf n,i,j,h=>by
  rw[jM,jM];show [zcL _ n]=_;rw[zlv h.1]
 | .un n a,i,j,h=>by
  rw[jM,jM];unfold zeg;rw[xT];have:=zeT a i j h.2.2;unfold zeg at this;rw[this];show _++ [zcL _ _]=_;rw[zo8 h.1]
  congr 3
  have:=zdP a;omega
 | .bin n a b,i,j,h=>by
  rw[jM,jM];unfold zeg;rw[xT,xT];have ha:=zeT a i j h.2.1;have hb:=zeT b (i+a.size) j h.2.2;unfold zeg at ha hb;rw[ha,hb,show i+a.size+j=i+j+a.size by omega];show _++ [zcL _ _]=_;rw[znD h.1];have:=zdP a;have:=zdP b;rw[show ((i+a.size:Nat):Int) - 1+(j:Int)=((i+j+a.size:Nat):Int) - 1 by omega,show ((i+a.size+b.size:Nat):Int) - 1+(j:Int)=((i+j+a.size+b.size:Nat):Int) - 1 by omega]
theorem zkn (a:Tr) (n:Nd):zoY (a.flat 0) n=(Tr.un n a).flat 0:=by
 rw[jM];unfold zoY;rw[xg,Nat.zero_add]
theorem zk3 (a b:Tr) (n:Nd) (h:TrSh b):zqo (a.flat 0) (b.flat 0) n=(Tr.bin n a b).flat 0:=by
 rw[jM];unfold zqo;rw[xg,xg,zeT b 0 a.size h,Nat.zero_add]
 congr 3
theorem zhT:∀ (t:Tr) (i:Nat),TrSh t->∀ n∈t.flat i,(0≤ndL n∧ndL n≤i+t.size)∧(0≤ndR n∧ndR n≤i+t.size)
 | .leaf n,i,h,x,hx=>by
  obtain rfl:=zv.1 hx;obtain⟨_,⟨h1,h2⟩,h3⟩:=h;rw[vp];exact⟨⟨h1,by omega⟩,⟨by omega,by omega⟩⟩
 | .un n a,i,h,x,hx=>by
  rw[jM]at hx;rw[vp];have hs:=zdP a;rcases yQ.1 hx with hx|hx
  ·have:=zhT a i h.2.2 x hx;omega
  ·obtain rfl:=zv.1 hx;have hr:ndR n=0:=h.2.1;show (0≤((i+a.size:Nat):Int) - 1∧((i+a.size:Nat):Int) - 1≤_)∧(0≤ndR n∧ndR n≤_);omega
 | .bin n a b,i,h,x,hx=>by
  rw[jM]at hx;rw[vp];have hs:=zdP a;have ht:=zdP b;rcases yQ.1 hx with hx|hx
  ·rcases yQ.1 hx with hx|hx
   ·have:=zhT a i h.2.1 x hx;omega
   ·have:=zhT b (i+a.size) h.2.2 x hx;omega
  ·obtain rfl:=zv.1 hx;show (0≤((i+a.size:Nat):Int) - 1∧((i+a.size:Nat):Int) - 1≤_)∧(0≤((i+a.size+b.size:Nat):Int) - 1∧((i+a.size+b.size:Nat):Int) - 1≤_);omega
def zaI (m:Mk):Mk:=(mkD m,mkU m,mkN m,mkS m+1,())
def zgh (d:Nat) (p:Int×Mk):Bool:=decide (d=0)||decide (mkU p.2 > (((mkD p.2).length:Nat):Int))||decide (mkS p.2 > 30)||decide (10≤p.1)
def mOne (k ids:Int) (m:Mk):Nd×Mk:=
 if k=11 then ((k,0,0,0,(zal m 15).1 - 7,0,[],[],()),(zal m 15).2)
 else if k=12∨k=13 then ((k,0,0,0,(zal m 60).1,0,[],[],()),(zal m 60).2)
 else if k=14∨k=15 then ((k,0,0,0,0,0,(zaL m 0 60).1,[],()),(zaL m 0 60).2)
 else let p:=zal m ids;let q:=zal p.2 2;let r:=zaL q.2 (-3) 3;((k,p.1,0,0,0,q.1,r.1,[],()),r.2)
def mCnt (k:Int) (m:Mk):Int×Mk:=if k=17 then (1+(zal m 3).1,(zal m 3).2) else (0,m)
def mTr (ids:Int):Nat->Mk->Tr×Mk
 |0,m=>(.leaf (zdm (zal (zaI m) 14).2 ids).1,(zdm (zal (zaI m) 14).2 ids).2)
 |d+1,m=>
  let p:=zal (zaI m) 14
  if zgh (d+1) p=true then (.leaf (zdm p.2 ids).1,(zdm p.2 ids).2)
  else
   let a:=mTr ids d p.2
   if two (8+p.1)=true then
    let c:=mCnt (8+p.1) a.2
    let b:=mTr ids d c.2
    (.bin (8+p.1,0,0,0,c.1,0,[],[],()) a.1 b.1,b.2)
   else (.un (mOne (8+p.1) ids a.2).1 a.1,(mOne (8+p.1) ids a.2).2)
def MkLe (c:Nat) (m r:Mk):Prop:=mkN r=mkN m∧mkS r=mkS m∧mkD r=mkD m∧mkU m≤mkU r∧mkU r≤mkU m+(c:Int)
theorem MkLe.trans {a b:Nat} {m r s:Mk} (h1:MkLe a m r) (h2:MkLe b r s):MkLe (a+b) m s:=by
 obtain⟨x1,x2,x3,x4,x5⟩:=h1;obtain⟨y1,y2,y3,y4,y5⟩:=h2;exact⟨y1.trans x1,y2.trans x2,y3.trans x3,by omega,by omega⟩
theorem MkLe.mono {a b:Nat} {m r:Mk} (h:MkLe a m r) (hab:a≤b):MkLe b m r:=by
 obtain⟨x1,x2,x3,x4,x5⟩:=h;exact⟨x1,x2,x3,x4,by omega⟩
theorem MkLe.refl (m:Mk):MkLe 0 m m:=⟨rfl,rfl,rfl,xF _,by omega⟩
theorem zbp (m:Mk) (n:Int):MkLe 1 m (zal m n).2:=⟨rfl,rfl,rfl,by rw[zaW];omega,by rw[zaW];omega⟩
theorem zsp (lo hi:Int):∀ (k:Nat) (m:Mk) (v:Int) (acc:List Int),MkLe k m (mRis lo hi k m v acc).2
 |0,m,_,_=>MkLe.refl m
 |k+1,m,v,acc=>by
  rw[mRis];split
  ·exact ((zbp m 3).trans (zsp lo hi k _ _ _)).mono (by omega)
  ·exact (MkLe.refl m).mono (by omega)
theorem zdU (m:Mk) (lo hi:Int):MkLe 6 m (zaL m lo hi).2:=by
 have h:=zaJ m (n:=4) (by decide);have h3:=zsp lo hi (1+(zal m 4).1).toNat (zal (zal m 4).2 (hi - lo+1)).2 (lo+(zal (zal m 4).2 (hi - lo+1)).1) [];exact (((zbp m 4).trans (zbp _ _)).trans h3).mono (by omega)
theorem ztj (k c:Int) (m:Mk):MkLe 6 m (zgH k c m).2:=by
 unfold zgH;split
 ·exact ((zbp m 12).trans (zbp _ 20)).mono (by omega)
 split
 ·exact ((zbp m 4).trans (zbp _ (1+(zal m 4).1))).mono (by omega)
 split
 ·exact zdU _ _ _
 split
 ·exact zdU _ _ _
 split
 ·exact zdU _ _ _
 split
 ·exact zdU _ _ _
 ·exact ((((zbp m 3).trans (zbp _ 2)).trans (zbp _ 7)).trans (zbp _ 2)).mono (by omega)
theorem zsm (k:Int) (m:Mk):MkLe 1 m (zdb k m).2:=by
 unfold zdb;split
 ·exact (MkLe.refl m).mono (by omega)
 split
 ·exact zbp m 2
 ·exact (MkLe.refl m).mono (by omega)
theorem cyc_le (k:Int) (m:Mk) (ids:Int):MkLe 1 m (zek k m ids).2:=by
 unfold zek;split
 ·exact zbp m ids
 ·exact (MkLe.refl m).mono (by omega)
theorem zpy (m:Mk) (ids:Int):MkLe 9 m (zdm m ids).2:=by
 unfold zdm ziO;have h1:=(zbp m 8).trans (zsm (1+(zal m 8).1) (zal m 8).2);dsimp only;split
 ·exact (h1.trans (zbp _ (mkN (zdb (1+(zal m 8).1) (zal m 8).2).2))).mono (by omega)
 ·exact ((h1.trans (cyc_le _ _ _)).trans (ztj _ _ _)).mono (by omega)
theorem one_le (k ids:Int) (m:Mk):MkLe 8 m (mOne k ids m).2:=by
 unfold mOne;split
 ·exact (zbp m 15).mono (by omega)
 split
 ·exact (zbp m 60).mono (by omega)
 split
 ·exact (zdU m 0 60).mono (by omega)
 ·exact (((zbp m ids).trans (zbp _ 2)).trans (zdU _ _ _)).mono (by omega)
theorem zmU (k:Int) (m:Mk):MkLe 1 m (mCnt k m).2:=by
 unfold mCnt;split
 ·exact zbp m 3
 ·exact (MkLe.refl m).mono (by omega)
def MkGe (c e:Nat) (m r:Mk):Prop:=mkN r=mkN m∧mkD r=mkD m∧(mkS m≤mkS r∧mkS r≤mkS m+(e:Int))∧mkU m≤mkU r∧mkU r≤mkU m+(c:Int)
theorem MkGe.trans {a b e f:Nat} {m r s:Mk} (h1:MkGe a e m r) (h2:MkGe b f r s):MkGe (a+b) (e+f) m s:=by
 obtain⟨x1,x2,⟨x3,x6⟩,x4,x5⟩:=h1;obtain⟨y1,y2,⟨y3,y6⟩,y4,y5⟩:=h2;exact⟨y1.trans x1,y2.trans x2,⟨by omega,by omega⟩,by omega,by omega⟩
theorem MkLe.ge {a:Nat} {m r:Mk} (h:MkLe a m r):MkGe a 0 m r:=by
 obtain⟨x1,x2,x3,x4,x5⟩:=h;exact⟨x1,x3,⟨by omega,by omega⟩,x4,x5⟩
theorem MkGe.mono {a b e f:Nat} {m r:Mk} (h:MkGe a e m r) (hab:a≤b) (hef:e≤f):MkGe b f m r:=by
 obtain⟨x1,x2,⟨x3,x6⟩,x4,x5⟩:=h;exact⟨x1,x2,⟨by omega,by omega⟩,x4,by omega⟩
theorem zlH (m:Mk):MkGe 0 1 m (zaI m):=⟨rfl,rfl,⟨by show mkS m≤mkS m+1;omega,by show mkS m+1≤_;omega⟩,xF _,by show mkU m≤_;omega⟩
def mMax:Nat->Nat
 |0=>1
 |d+1=>2 * mMax d+1
theorem zkr (ids:Int):∀ (d:Nat) (m:Mk),MkGe (20 * mMax d) (mMax d) m (mTr ids d m).2
 |0,m=>(((zlH m).trans (zbp _ 14).ge).trans (zpy _ _).ge).mono (by decide) (by decide)
 |d+1,m=>by
  have h0:=(zlH m).trans (zbp (zaI m) 14).ge;have hM:mMax (d+1)=2 * mMax d+1:=rfl;rw[mTr];dsimp only;split
  ·exact (h0.trans (zpy _ _).ge).mono (by omega) (by omega)
  have ha:=zkr ids d (zal (zaI m) 14).2;split
  ·exact (((h0.trans ha).trans (zmU _ _).ge).trans (zkr ids d _)).mono (by omega) (by omega)
  ·exact ((h0.trans ha).trans (one_le _ _ _).ge).mono (by omega) (by omega)
theorem zfL (ids:Int):∀ (d:Nat) (m:Mk),(mTr ids d m).1.size≤mMax d
 |0,m=>zj _
 |d+1,m=>by
  have hM:mMax (d+1)=2 * mMax d+1:=rfl;rw[mTr];dsimp only;split
  ·rw[vp];omega
  have ha:=zfL ids d (zal (zaI m) 14).2;split
  ·rw[vp];have hb:=zfL ids d (mCnt (8+(zal (zaI m) 14).1) (mTr ids d (zal (zaI m) 14).2).2).2;omega
  ·rw[vp];omega
theorem zsv {k:Int} {m:Mk} (hn:0≤mkN m) (hk:1≤k∧k≤8) (hc:¬ (k=8∧mkN (zdb k m).2 > 0)):1≤lfK k (zdb k m).1∧lfK k (zdb k m).1≤7:=by
 unfold zdb at hc ⊢;by_cases h8:k=8
 ·rw[if_pos h8]at hc ⊢;have hz:mkN m=0:=by
   by_cases hz:mkN m=0
   ·exact hz
   ·exact absurd ⟨h8,by show mkN m > 0;omega⟩ hc
  rw[hz];show (1:Int)≤1∧(1:Int)≤7;omega
 ·rw[if_neg h8];have:∀ b:Bool,1≤lfK k b∧lfK k b≤7:=fun b=>by
   cases b with
   |true=>show (1:Int)≤1∧(1:Int)≤7;omega
   |false=>show 1≤k∧k≤7;omega
  exact this _
theorem zgx {n:Nd} (k L:Int) (h:ndK n=k) (hk:¬ (8≤k∧k≤17)) (hL:ndL n=L) (h0:0≤L∧L≤1) (hR:ndR n=0):TrSh (.leaf n):=⟨by rw[h];exact hk,by rw[hL];exact h0,hR⟩
theorem zth {k c:Int} {m:Mk} (hk:1≤k∧k≤7):TrSh (.leaf (zgH k c m).1):=by
 rcases (show k=1∨k=2∨k=3∨k=4∨k=5∨k=6∨k=7 by omega) with rfl|rfl|rfl|rfl|rfl|rfl|rfl
 ·exact zgx 1 0 rfl (by decide) rfl (by decide) rfl
 ·exact zgx 2 0 rfl (by decide) rfl (by decide) rfl
 ·exact zgx 3 0 rfl (by decide) rfl (by decide) rfl
 ·exact zgx 4 0 rfl (by decide) rfl (by decide) rfl
 ·exact zgx 5 0 rfl (by decide) rfl (by decide) rfl
 ·exact zgx 6 0 rfl (by decide) rfl (by decide) rfl
 ·have:=zaJ (zal (zal (zal m 3).2 2).2 7).2 (n:=2) (by decide);exact zgx 7 (zal (zal (zal (zal m 3).2 2).2 7).2 2).1 rfl (by decide) rfl (by omega) rfl
theorem zpw (m:Mk) (ids:Int) (hn:0≤mkN m):TrSh (.leaf (zdm m ids).1):=by
 have hk:=zaJ m (n:=8) (by decide);unfold zdm ziO;dsimp only;split
 ·exact zgx 18 0 rfl (by decide) rfl (by decide) rfl
 ·rename_i hc;exact zth (zsv (m:=(zal m 8).2) hn (by omega) hc)
theorem zst {k ids:Int} {m:Mk}:ndK (mOne k ids m).1=k∧ndL (mOne k ids m).1=0∧ndR (mOne k ids m).1=0:=by
 unfold mOne;split
 ·exact⟨rfl,rfl,rfl⟩
 split
 ·exact⟨rfl,rfl,rfl⟩
 split
 ·exact⟨rfl,rfl,rfl⟩
 ·exact⟨rfl,rfl,rfl⟩
theorem zmo (ids:Int):∀ (d:Nat) (m:Mk),0≤mkN m->TrSh (mTr ids d m).1
 |0,m,h=>zpw _ _ h
 |d+1,m,h=>by
  have hp:=zaJ (zaI m) (n:=14) (by decide);rw[mTr];dsimp only;split
  ·exact zpw _ _ h
  rename_i hst;have hs:(zal (zaI m) 14).1 < 10:=by
   have:¬ zgh (d+1) (zal (zaI m) 14)=true:=hst;unfold zgh at this;simp only[zV,decide_eq_true_iff,not_or]at this;omega
  have h0:0≤mkN (zal (zaI m) 14).2:=h;have ha:=zmo ids d (zal (zaI m) 14).2 h0;have hg:=(zkr ids d (zal (zaI m) 14).2).1;split
  ·rename_i ht;have hc:=(zmU (8+(zal (zaI m) 14).1) (mTr ids d (zal (zaI m) 14).2).2).1;exact⟨zep.1 ht,ha,zmo ids d _ (by rw[hc,hg];exact h0)⟩
  ·rename_i ht;obtain⟨e1,_,e3⟩:=zst (k:=8+(zal (zaI m) 14).1) (ids:=ids) (m:=(mTr ids d (zal (zaI m) 14).2).2);refine⟨?_,e3,ha⟩;rw[e1];rw[zep]at ht;omega
theorem zl7 {r:List Nd} (h3:zb8 r r.length=true):∀ (k i:Nat),i < k->i < r.length->TrSh (trF k r i)
 |0,_,h,_=>absurd h (yH _)
 |k+1,i,h,hr=>by
  obtain⟨hf,ho⟩:=zbD h3 hr;obtain⟨lo1,lo2⟩:=ze7 h3 i hr;obtain⟨⟨k1,k2⟩,_⟩:=zaF hf;unfold trF;split
  ·rename_i hk;refine⟨hk,rfl,?_⟩;have hl:=lo1 (by omega) (by omega);obtain⟨m,hm⟩:∃ m:Nat,ndL (zam r i)=(m:Int):=⟨(ndL (zam r i)).toNat,by omega⟩;rw[hm]at hl ⊢;exact zl7 h3 k m (by omega) (by omega)
  split
  ·rename_i hk0 hk;have hl:=lo1 (by omega) (by omega);have hr2:=lo2 (by omega) (by omega);obtain⟨m,hm⟩:∃ m:Nat,ndL (zam r i)=(m:Int):=⟨(ndL (zam r i)).toNat,by omega⟩;obtain⟨m2,hm2⟩:∃ m:Nat,ndR (zam r i)=(m:Int):=⟨(ndR (zam r i)).toNat,by omega⟩;refine⟨hk,?_,?_⟩
   ·rw[hm]at hl ⊢;exact zl7 h3 k m (by omega) (by omega)
   ·rw[hm2]at hr2 ⊢;exact zl7 h3 k m2 (by omega) (by omega)
  ·rename_i h1 h2;have hop:opsN (zam r i)=0:=by
    unfold opsN;rcases (show ndK (zam r i)=1∨ndK (zam r i)=2∨ndK (zam r i)=3∨ndK (zam r i)=4∨ndK (zam r i)=5∨ndK (zam r i)=6∨ndK (zam r i)=7∨ndK (zam r i)=18 by omega) with e|e|e|e|e|e|e|e<;>rw[e]<;>rfl
   unfold zdW at ho;rw[hop]at ho;have ho:(((ndL (zam r i)==0)||(ndK (zam r i)==7))&&(ndR (zam r i)==0))=true:=ho;obtain⟨oL,oR⟩:=(zf _ _).mp ho;refine⟨by omega,?_,eq_of_beq oR⟩;by_cases h7:ndK (zam r i)=7
   ·obtain⟨_,_,_,_,_,hL⟩:=fld7 hf h7;exact hL
   ·rw[beq_eq_false_iff_ne.2 h7,Bool.or_false]at oL;have:=eq_of_beq oL;omega
theorem op_R {r:List Nd} {i:Nat} (h3:zb8 r r.length=true) (hr:i < r.length) (hk:11≤ndK (zam r i)∧ndK (zam r i)≤16):ndR (zam r i)=0:=by
 obtain⟨_,ho⟩:=zbD h3 hr;have hop:opsN (zam r i)=1:=by
  unfold opsN;rcases (show ndK (zam r i)=11∨ndK (zam r i)=12∨ndK (zam r i)=13∨ndK (zam r i)=14∨ndK (zam r i)=15∨ndK (zam r i)=16 by omega) with e|e|e|e|e|e<;>rw[e]<;>rfl
 unfold zdW at ho;rw[hop]at ho;exact eq_of_beq ((zf _ _).mp ho).2
def zk1 (k:Nat):Ctr:={ args:=[.slice nd,i64],pre:=fun x=>[wfS x.1=true,0≤x.2.1,x.2.1.toNat < k,x.2.1.toNat < zh x.1,(trF k x.1 x.2.1).size≤64],res:=.slice nd,own:=none,out:=fun x=>(trF k x.1 x.2.1).flat 0 }
def kBe (k:Nat):Kn:={ gmK with C:=[(94,cTwo),(95,zuv),(97,zuo),(68,zk1 k)] }
theorem znU {k:Nat} (ih:ym Tryz.prog gmH 68 (zk1 k)):ym Tryz.prog gmH 68 (zk1 (k+1)):=by
 have hK:KnOk Tryz.prog gmH (kBe k):=zai.with (.cons zn4.lift <| .cons zqn.lift <| .cons zoX.lift <| .cons ih .nil);refine zao (K:=kBe k) hK Tryz.func68 rfl rfl Tryz.call68 rfl (zb rfl) (by intro h;cases h) ?_;rintro w0 X hX ⟨(r:List Nd),(i:Int),_⟩ hp;obtain⟨hw,h0,hk,hr,hT⟩:wfS r=true∧0≤i∧i.toNat < k+1∧i.toNat < r.length∧(trF (k+1) r i).size≤64:=hp;change AWP _ _ _ _ _ ⟨[(0,⟨.slice nd,r⟩),(1,⟨i64,i⟩)],[],0⟩ _;have z1:i < ((r.length:Nat):Int):=by omega
 refine za (za ?_);refine zaa hX hK rfl ?_ ?_
 ·trivial
 refine za (za ?_);refine zaa hX hK rfl ?_ ?_
 ·repeat'(first|exact trivial|assumption|exact h0|exact z1|exact hr|(refine⟨?_,?_⟩)|(intro _)|exact zb rfl|exact zd _|(simp_all [allP];done))
 obtain⟨R,hR⟩:∃ R,R=trF (k+1) r i:=⟨_,rfl⟩;have hR2:=hR;unfold trF at hR2;rw[<-hR]at hT;refine zaq (σ':=⟨[(0,⟨.slice nd,r⟩),(5,⟨.optr nd,⟨0,nd,.here⟩⟩)],[(0,some (.box nd (zam r i)))],1⟩) ⟨⟨rfl,rfl,trivial⟩,⟨rfl,trivial⟩,rfl,rfl⟩ ?_;obtain⟨j,hj⟩:∃ j:Nat,i=(j:Int):=⟨i.toNat,by omega⟩;have hjr:j < r.length:=by omega
 have hjk:j < k+1:=by omega
 have h3:=(zbX hw).2.1;obtain⟨lo1,lo2⟩:=ze7 h3 j hjr;have hoR:=op_R h3 hjr;have hshp:=fun m (h1:m < k) (h2:m < r.length)=>zl7 h3 k m h1 h2;rw[<-hj]at lo1 lo2 hoR;generalize zam r i=n at *;have hq:(bif decide (ndK n < 8) then true else decide (ndK n > 17))=decide (¬ (8≤ndK n∧ndK n≤17)):=by
  rw[b_or,zL,zV,decide_eq_true_iff,decide_eq_true_iff,decide_eq_true_iff];omega
 refine za (za ?_);refine zaa hX hK rfl ?_ ?_
 ·repeat'(first|exact trivial|assumption|(refine⟨?_,?_⟩)|(intro _)|exact zb rfl|exact zd _|(simp_all [allP];done))
 refine zae rfl (fun hc=>?_) (fun hc=>?_)
 ·have hc:=of_decide_eq_true (hq.symm.trans hc);rw[if_neg (by omega),if_neg (by omega)]at hR2;refine za (za ?_);refine zaa hX hK rfl ?_ ?_
  ·trivial
  refine qB hX 4 ?_;refine zm ⟨.inr rfl,zat rfl trivial rfl rfl ?_⟩;show [n]=(trF (k+1) r i).flat 0;rw[<-hR,hR2];rfl
 have hc:=of_decide_eq_false (hq.symm.trans hc);have hc:8≤ndK n∧ndK n≤17:=Decidable.of_not_not hc;have hl:=lo1 hc.1 hc.2;obtain⟨m,hm⟩:∃ m:Nat,ndL n=(m:Int):=⟨(ndL n).toNat,by omega⟩;have sh1:=hshp m (by omega) (by omega);have y1:0≤ndL n:=hl.1;have y2:(ndL n).toNat < k:=by omega
 have y3:(ndL n).toNat < r.length:=by omega
 have la:=xg (trF k r (ndL n)) 0;have sa:=zdP (trF k r (ndL n));apply zab;refine za (za ?_);refine zaa hX hK rfl ?_ ?_
 ·trivial
 refine zae rfl (fun ht=>?_) (fun ht=>?_)
 ·have ht:two (ndK n)=true:=ht;have htt:=zep.1 ht;rw[if_neg (by omega),if_pos htt]at hR2;have hr2:=lo2 hc.1 (by omega);obtain⟨m2,hm2⟩:∃ m:Nat,ndR n=(m:Int):=⟨(ndR n).toNat,by omega⟩;have sh2:=hshp m2 (by omega) (by omega);rw[<-hm2]at sh2;have hs:=congrArg vp hR2;have hs:R.size=(trF k r (ndL n)).size+(trF k r (ndR n)).size+1:=hs;have y4:(trF k r (ndL n)).size≤64:=by omega
  have y5:0≤ndR n:=hr2.1;have y6:(ndR n).toNat < k:=by omega
  have y7:(ndR n).toNat < r.length:=by omega
  have y8:(trF k r (ndR n)).size≤64:=by omega
  have lb:=xg (trF k r (ndR n)) 0;have hb4:=zhT (trF k r (ndR n)) 0 sh2;have q1:1≤((trF k r (ndL n)).flat 0).length:=by omega
  have q2:((trF k r (ndL n)).flat 0).length≤100000:=by omega
  have q3:((trF k r (ndR n)).flat 0).length≤100000:=by omega
  have q4:∀ x∈(trF k r (ndR n)).flat 0,(-1000000≤ndL x∧ndL x≤1000000)∧(-1000000≤ndR x∧ndR x≤1000000):=by
   intro x hx;have:=hb4 x hx;omega
  (repeat(first|apply zaf|apply zab|apply zac|apply zad));refine qx dM hX hK 9 (by kernel_rfl) rfl rfl ?_ ?_ ?_
  ·repeat'(first|exact trivial|assumption|exact hw|exact y1|exact y2|exact y3|exact y4|exact y5|exact y6|exact y7|exact y8|(refine⟨?_,?_⟩)|(intro _)|exact zb rfl|exact zd _|(simp_all [allP];done))
  ·exact⟨q1,q2,q3,q4⟩
  refine zm ⟨.inr rfl,zat rfl trivial rfl rfl ?_⟩;show zqo ((trF k r (ndL n)).flat 0) ((trF k r (ndR n)).flat 0) n=(trF (k+1) r i).flat 0;rw[<-hR,hR2,zk3 _ _ _ sh2];rfl
 ·have ht:two (ndK n)=false:=ht;have htt:¬ two (ndK n)=true:=by rw[ht];decide
  rw[zep]at htt;have hk16:11≤ndK n∧ndK n≤16:=by omega
  rw[if_pos hk16]at hR2;have hs:=congrArg vp hR2;have hs:R.size=(trF k r (ndL n)).size+1:=hs;have y4:(trF k r (ndL n)).size≤64:=by omega
  have q2:((trF k r (ndL n)).flat 0).length≤1000000:=by omega
  apply zab;(repeat(first|apply zaf|apply zab|apply zac|apply zad));refine qx dM hX hK 5 (by kernel_rfl) rfl rfl ?_ ?_ ?_
  ·repeat'(first|exact trivial|assumption|exact hw|exact y1|exact y2|exact y3|exact y4|(refine⟨?_,?_⟩)|(intro _)|exact zb rfl|exact zd _|(simp_all [allP];done))
  ·exact q2
  refine zm ⟨.inr rfl,zat rfl trivial rfl rfl ?_⟩;show zoY ((trF k r (ndL n)).flat 0) n=(trF (k+1) r i).flat 0;rw[<-hR,hR2,zkn,jM,jM];have:∀ x,setL n x=setL (zcr n 0 0) x:=fun x=>by
   have h:=hoR hk16;obtain⟨kk,c,L,rr,rest⟩:=n;have h:rr=0:=h;rw[h];rfl
  rw[this]
theorem zm1:∀ k:Nat,ym Tryz.prog gmH 68 (zk1 k)
 |0=>by
  refine⟨Tryz.call68,fun w O xs vs _ _ hp=>?_⟩;obtain⟨(r:List Nd),(i:Int),_⟩:=xs;have h:i.toNat < 0:=hp.2.2.1;omega
 |k+1=>znU (zm1 k)
def zrb (r:List Nd):List Nd:=(zbo r).flat 0
def cPost:Ctr:={ args:=[.slice nd],pre:=fun x=>[wfS x.1=true],res:=.slice nd,own:=none,out:=fun x=>zrb x.1 }
def kPo:Kn:={ gmK with C:=[(68,zk1 1000)] }
theorem zpH:KnOk Tryz.prog gmH kPo:=zai.with (.cons (zm1 1000) .nil)
theorem ztn:ym Tryz.prog gmH 28 cPost:=by
 refine zao (K:=kPo) zpH Tryz.func28 rfl rfl Tryz.call28 rfl (by decide) (by intro h;cases h) ?_;rintro w0 X hX ⟨(r:List Nd),_⟩ hp;have hw:wfS r=true:=hp;change AWP _ _ _ _ _ ⟨[(0,⟨.slice nd,r⟩)],[],0⟩ _;obtain⟨⟨h1,h2⟩,h3,_⟩:=zbX hw;have e:((r.length:Int) - 1)=((r.length - 1:Nat):Int):=by omega
 have hT:trF 1000 r (((r.length:Nat):Int) - 1)=zbo r:=by
  unfold zbo;rw[e];exact zfy (ze7 h3) _ _ _ (by omega) (by omega) (by omega)
 have i1:inR .i64 (((r.length:Nat):Int) - 1):=zan (by omega) (by omega);have i2:0≤((r.length:Nat):Int) - 1:=by omega
 have i3:(((r.length:Nat):Int) - 1).toNat < 1000:=by omega
 have i4:(((r.length:Nat):Int) - 1).toNat < r.length:=by omega
 have i5:(trF 1000 r (((r.length:Nat):Int) - 1)).size≤64:=by rw[hT,zfx hw];exact h2
 refine za (za ?_);refine zaa hX zpH rfl ?_ ?_
 ·trivial
 refine za (za ?_);refine zaa hX zpH rfl ?_ ?_
 ·exact⟨i1,hw,i2,i3,i4,i5⟩
 refine zm ⟨.inr rfl,zat rfl trivial rfl rfl ?_⟩;show (trF 1000 r (((r.length:Nat):Int) - 1)).flat 0=zrb r;rw[hT];rfl
end
section
attribute [local go_sem] j0
set_option maxHeartbeats 1000000 in
theorem zij (s:ByteArray) (c:Int) (w:zk):
 Calls Tryz.prog 217 #[.string s,.int .u8 c] w fun e w'=>e= .returned (.int .i64 (xz s.data.toList c.toNat.toUInt8))∧w'=w:=by
 go_enter Tryz.func217,Tryz.ntmps217
 go_wp2
 rw[run_callFunc_extern Tryz.func244 (by kernel_rfl) (by kernel_rfl) (by kernel_rfl) (e:=ur) (by kernel_rfl),Lib.run_indexByteString];simp only[Result.andThen];rw[Oper.upon_value]
 go_wp2
 go_ret
 exact⟨rfl,rfl⟩
theorem ztL (l:List UInt8) (c:UInt8):(xz l c= -1∧∀ x∈l,x≠c)∨∃ n:Nat,xz l c=(n:Int)∧n < l.length∧(∀ x∈l.take n,x≠c)∧l.drop n=c::l.drop (n+1):=by
 induction l with
 |nil=>exact .inl ⟨rfl,by simp⟩
 |cons b l ih=>
  unfold xz;by_cases h:b=c
  ·refine .inr ⟨0,by rw[if_pos (by simp[h])];rfl,by simp,by simp,by simp[h]⟩
  ·rw[if_neg (by simp[h])];rcases ih with ⟨h1,h2⟩|⟨n,h1,h2,h3,h4⟩
   ·refine .inl ⟨by rw[h1];rfl,fun x hx=>?_⟩;rcases ya.1 hx with rfl|hx
    ·exact h
    ·exact h2 x hx
   ·refine .inr ⟨n+1,?_,by simp;omega,fun x hx=>?_,by simpa using h4⟩
    ·rw[h1,if_neg (by simp)];omega
    ·rw[List.take_succ_cons]at hx;rcases ya.1 hx with rfl|hx
     ·exact h
     ·exact h3 x hx
def segF:List UInt8->List UInt8->List (List UInt8)
 |c,[]=>[c]
 |c,x::r=>if x=10 then c::segF [] r else segF (c++ [x]) r
def segs (s:List UInt8):List (List UInt8):=segF [] s
set_option maxHeartbeats 1000000 in
theorem zll (s:ByteArray) (c:UInt8) (w:zk):
 Calls Tryz.prog 184 #[.string s,.string ⟨#[c]⟩] w fun e w'=>e= .returned (.int .i64 (xz s.data.toList c))∧w'=w:=by
 go_enter Tryz.func184,Tryz.ntmps184
 go_wp2_with (go_at_call 217;refine (zij s _ _).mono ?_;rintro e w' ⟨rfl,rfl⟩)
 ·rename_i hs
  go_ret
  rw[ByteArray.toList_eq]at hs;have hs:=eq_of_beq hs;refine⟨?_,rfl⟩;rw[<-hs];show u6 (.int .i64 0)=u6 (.int .i64 (xz [c] c));unfold xz;rw[if_pos (by simp)]
 ·go_ret
  exact⟨rfl,rfl⟩
set_option maxHeartbeats 1000000 in
theorem zi6 (s:ByteArray) (c:UInt8) (w:zk):
 Calls Tryz.prog 147 #[.string s,.string ⟨#[c]⟩] w fun e w'=>e= .returned (.int .i64 (xz s.data.toList c))∧w'=w:=by
 go_enter Tryz.func147,Tryz.ntmps147
 go_wp2_with (go_at_call 184;refine (zll s c _).mono ?_;rintro e w' ⟨rfl,rfl⟩)
 go_ret
 exact⟨rfl,rfl⟩
def itV (w:zk):zi:=.func (.func 145) #[] #[.pointer (some ⟨w.heap.size+1,0,none⟩),.pointer (some ⟨w.heap.size,0,none⟩),.pointer (some ⟨w.heap.size+1+1,0,none⟩)]
def itW (w:zk) (s p:ByteArray):zk:=((w.alloc (.cells #[.string s] 9)).alloc (.cells #[.string p] 9)).alloc (.cells #[.int .i64 0] 3)
set_option maxHeartbeats 1000000 in
theorem zig (s p:ByteArray) (w:zk):Calls Tryz.prog 85 #[.string s,.string p,.int .i64 0] w fun e w'=>e= .returned (itV w)∧w'=itW w s p:=by
 go_enter Tryz.func85,Tryz.ntmps85
 go_wp2
 go_ret
 refine⟨?_,rfl⟩;unfold itV;simp
set_option maxHeartbeats 1000000 in
theorem zi7 (s p:ByteArray) (w:zk):Calls Tryz.prog 50 #[.string s,.string p] w fun e w'=>e= .returned (itV w)∧w'=itW w s p:=by
 go_enter Tryz.func50,Tryz.ntmps50
 go_wp2_with (go_at_call 85;refine (zig s p _).mono ?_;rintro e w' ⟨rfl,rfl⟩)
 go_ret
 exact⟨rfl,rfl⟩
theorem zj8 (p:List UInt8) (hp:∀ x∈p,x≠10) (r:List UInt8):∀ (c:List UInt8),segF c (p++r)=segF (c++p) r:=by
 induction p with
 |nil=>intro c;rw[zO];rfl
 |cons x p ih=>
  intro c;rw[xH];show (if x=10 then _ else _)=_;rw[if_neg (hp x (List.mem_cons_self ..)),ih (fun y hy=>hp y (List.mem_cons_of_mem _ hy)),zs];rfl
theorem zoq {l:List UInt8} (h:∀ x∈l,x≠10):segs l=[l]:=by
 have:=zj8 l h [] [];rw[zO,yI]at this;exact this
theorem zop {l:List UInt8} {n:Nat} (h:∀ x∈l.take n,x≠10) (hd:l.drop n=10::l.drop (n+1)):segs l=l.take n::segs (l.drop (n+1)):=by
 have:=zj8 (l.take n) h (l.drop n) [];rw[List.take_append_drop,yI,hd]at this;exact this.trans (if_pos rfl)
theorem zuA (l:List UInt8) (n:Nat):(vM l.toArray).extract 0 n=⟨(l.take n).toArray⟩:=by
 apply wi;rw[vh];simp
theorem zuB (l:List UInt8) (n:Nat):(vM l.toArray).extract n l.length=⟨(l.drop n).toArray⟩:=by
 apply wi;rw[vh];simp;exact List.take_of_length_le (by rw[xd];exact zj _)
def itI (gs gp gv:Nat) (g:Nat):Prop:=g=gs∨g=gp∨g=gv
noncomputable def zsw (gs:Nat) (W:zk):Nat:=match W.cell? ⟨gs,0,none⟩ with |some (.string s)=>s.size|_=>0
set_option maxHeartbeats 2000000 in
theorem znc (l gs gp gv:Nat) (s:List UInt8) (J:Nat->zk->Prop) (Jr:zk->Prop) (W:zk) (hne:gs≠gp∧gs≠gv) (hlen:s.length≤2000000)
 (hs:W.heap[gs]? =some (.cells #[.string ⟨s.toArray⟩] 9 (0,0))) (hp:W.heap[gp]? =some (.cells #[.string ⟨#[10]⟩] 9 (0,0))) (hv:W.heap[gv]? =some (.cells #[.int .i64 0] 3 (0,0)))
 (hJ:∀ k A C,J k A->Kept (itI gs gp gv) A C->J k C)
 (hY:∀ k y W1,J k W1->(segs s)[k]? =some y->W.heap.size≤W1.heap.size->YieldAt yF 0 Tryz.prog l #[.string ⟨y.toArray⟩] W1 fun e W'=>(e= .returned (.bool true)∧J (k+1) W'∧SameOn (itI gs gp gv) W.heap.size W1 W')∨(e= .returned (.bool false)∧Jr W'))
 (h0:J 0 W):
 CallsIn yF 1 Tryz.prog 145 #[.func (.yield l) #[] #[],.pointer (some ⟨gp,0,none⟩),.pointer (some ⟨gs,0,none⟩),.pointer (some ⟨gv,0,none⟩)] W fun e W'=>(∃ v,e= .returned v)∧(J (segs s).length W'∨Jr W'):=by
 refine callsIn_of_wp Tryz.func145 rfl trivial ?_ rfl;have c1:=(zaY hp).1;have c2:=zaY hs;simp only[Tryz.ntmps145,List.size_toArray,zt,zW,Nat.reduceAdd,Nat.reduceSub,Array.replicate_succ,Array.replicate_zero,List.push_toArray,List.append_toArray,yI,xH]
 gi_wp2
 gi_loopw [7] (fun p wr=>∃ (pre:List (List UInt8)) (rest:List UInt8),segs s=pre++segs rest∧rest.length≤s.length∧wr.heap[gs]? =some (.cells #[.string ⟨rest.toArray⟩] 9 (0,0))∧wr.heap[gp]? =some (.cells #[.string ⟨#[10]⟩] 9 (0,0))∧wr.heap[gv]? =some (.cells #[.int .i64 0] 3 (0,0))∧J pre.length wr∧W.heap.size≤wr.heap.size)
  (fun p wr=>zsw gs wr)
 case atStart=>exact⟨[],s,rfl,zj _,hs,hp,hv,h0,zj _⟩
 case round=>
  obtain⟨pre,rest,hsg,hrl,hs',hp',hv',hj,hsz⟩:=hrel;have d1:=(zaY hp').1;have d2:=zaY hs';have d3:=(zaY hv').1
  gi_wp2
  refine⟨trivial,(callsIn_wide.2 (zi6 _ _ _)).mono ?_⟩;rintro e w' ⟨rfl,rfl⟩;have hix:xz (vM rest.toArray).data.toList 10=xz rest 10:=rfl;rw[hix];rcases ztL rest 10 with ⟨h1,h2⟩|⟨n,h1,h2,h3,h4⟩
  ·rw[h1];have hseg:=zoq h2;rw[hseg]at hsg;obtain⟨fn,tmps,assign,body,hy,hR⟩:=hY pre.length rest _ hj (by rw[hsg];simp) hsz
   gi_wp2
   refine hR.mono ?_;rintro e W3 (⟨rfl,hJ3,hk3⟩|⟨rfl,hp3⟩)
   ·gi_wp2
    go_end0
    refine⟨⟨_,rfl⟩,.inl ?_⟩;rw[hsg,zg];exact hJ3
   ·gi_wp2
    go_end0
    exact⟨⟨_,rfl⟩,.inr hp3⟩
  ·rw[h1];have hseg:=zop h3 h4;rw[hseg]at hsg;have hn0:¬ (n:Int) < 0:=by omega
   have hex:(vM rest.toArray).extract 0 n=⟨(rest.take n).toArray⟩:=zuA rest n;have hex2:(vM rest.toArray).extract (n+1) rest.length=⟨(rest.drop (n+1)).toArray⟩:=zuB rest (n+1);have hnl:n < rest.length:=h2;obtain⟨fn,tmps,assign,body,hy,hR⟩:=hY pre.length (rest.take n) _ hj (by rw[hsg];simp) hsz
   gi_wp2
   refine hR.mono ?_;rintro e W3 (⟨rfl,hJ3,hk3⟩|⟨rfl,hp3⟩)
   ·have e1:=(hk3.block gs (.inl rfl)).trans hs';have e2:=(hk3.block gp (.inr (.inl rfl))).trans hp';have e3:=(hk3.block gv (.inr (.inr rfl))).trans hv';have f1:=(zaY e2).1;have f2:=zaY e1
    gi_wp2
    have g1:=zfe (.string ⟨(rest.drop (n+1)).toArray⟩) e1;refine⟨⟨pre++ [rest.take n],rest.drop (n+1),by rw[hsg,zs];rfl,by rw[xd];omega,g1,(xG W3 ⟨gs,0,none⟩ _ gp fun e=>hne.1 e.symm).trans e2,(xG W3 ⟨gs,0,none⟩ _ gv fun e=>hne.2 e.symm).trans e3,?_,?_⟩,?_⟩
    ·rw[zg,yv];exact hJ _ _ _ hJ3 (zdK W3 gs _ (.inl rfl))
    ·exact zH hk3.size (zdK (R:=itI gs gp gv) W3 gs _ (.inl rfl)).size
    ·unfold zsw;rw[(zaY g1).1,d2.1];show (rest.drop (n+1)).toArray.size < rest.toArray.size;simp;omega
   ·gi_wp2
    exact⟨rfl,_,results_none rfl _ _ _,⟨_,rfl⟩,.inr hp3⟩
theorem zgR {P:Program} {f:zU} {Q:Exit->Act->zk->Prop} {a:Act} {w:zk} {g:zK} {ps:Array Tmp} {assign body:Code} {m:Nat}
 (h:∃ (l:Nat) (mark:List je) (w1:zk) (d:je) (w1':zk) (gf:zU) (args:Array zi) (w2:zk),
   (Instr.enterLoop f a.tmps ps assign body none).run P w= .ok (l,mark) w1∧(resolve a.eval (rangeCall g l) 0).run P w1= .ok d w1'∧(invoke d.target d.args).run P w1'= .ok (.enter gf args) w2∧
   CallsIn yF m P gf args w2 (fun e w3=>(∃ v,e= .returned v)∧∃ jump w4,(Instr.endLoop l).run P w3= .ok jump w4∧(match jump with
    |none=>Q .normal { a with defers:=mark++a.defers } w4
    |some c=>zf4 P f c Q { a with defers:=mark++a.defers } w4))):
 zf4 P f (.rangeFunc g ps assign body) Q a w:=by
 intro b k cs hb hro;obtain⟨l,mark,w1,d,w1',gf,args,w2,he,hres,hinv,_,hcall⟩:=h;rw[<-hro, <-hb]at he;have henter:=stepR_rangeFunc (P:=P) (b:=b) (a:=a) (k:=k) (cs:=cs) (w:=w) he hres hinv;obtain⟨e,w3,fr,⟨⟨v,rfl⟩,jump,w4,hend,hj⟩,hsteps,hfn,hleave⟩:=hcall (b.atR { a with defers:=mark++a.defers } (.inRangeFunc l::k)::cs) (room_wide _);have sback:StepsIn (Machine.fenced P yF) P (lone (b.atR a (.code (.rangeFunc g ps assign body)::k)) cs w) (lone (b.atR { a with defers:=mark++a.defers } ((jump.map Item.code).toList++k)) cs w4):=by
  refine .head (fenced_wide P _) henter (StepsIn.trans hsteps (.head (fenced_wide P _) ?_ (.one (fenced_wide P _) (stepR_endRangeFunc hend))));rw[<-finish_atR_inRangeFunc l v];exact step_leave_returned hleave
 cases jump with
 |none=>exact⟨.normal,_,w4,hj,sback⟩
 |some c=>
  obtain⟨e',a'',w5,hq,harr⟩:=hj b k cs hb hro;exact⟨e',a'',w5,hq,.of_steps sback harr⟩
def zsP (P:Program) (m:Nat) (gf:Nat) (lb:Array zi) (I:Nat->Prop) (ts:List (List UInt8)) (w:zk):Prop:=
 ∀ (l:Nat) (J:Nat->zk->Prop) (Jr:zk->Prop) (W:zk),yZ w.heap.size w W->(∀ k A C,J k A->Kept I A C->J k C)->
  (∀ k y W1,J k W1->ts[k]? =some y->W.heap.size≤W1.heap.size->YieldAt yF (m - 1) P l #[.string ⟨List.toArray y⟩] W1 fun e W'=>(e= .returned (.bool true)∧J (k+1) W'∧SameOn I W.heap.size W1 W')∨(e= .returned (.bool false)∧Jr W'))->
  J 0 W->
  CallsIn yF m P gf (#[.func (.yield l) #[] #[]]++lb) W fun e W'=>(∃ v,e= .returned v)∧(J ts.length W'∨Jr W')
theorem zib {P:Program} {f:zU} {m:Nat} {g:zK} {p:Tmp} {assign body:Code} {Q:Exit->Act->zk->Prop} {a:Act} {w:zk} {gf:Nat} {lb:Array zi} (hg:a.eval g= .func (.func gf) #[] lb) (eg:∀ args w,(callFunc gf args).run P w= .ok (.enter gf args) w)
 {I:Nat->Prop} {ts:List (List UInt8)} {w0:zk} (hseq:zsP P m gf lb I ts w0) (hb0:yZ w0.heap.size w0 w) (hI:∀ k,I k->k < w.heap.size)
 (J:Nat->zk->Prop) (Jr:zk->Prop) (N:Nat->List UInt8->Act->zk->Prop) (hJ:∀ k A C,J k A->Kept (fun g=>I g∨g=w.heap.size∨g=w.heap.size+1) A C->J k C) (hJr:∀ A C,Jr A->Kept (fun g=>I g∨g=w.heap.size∨g=w.heap.size+1) A C->Jr C)
 (hN:∀ k y a' A C,N k y a' A->Kept (fun g=>I g∨g=w.heap.size∨g=w.heap.size+1) A C->N k y a' C) (h0:∀ W1:zk,yZ w.heap.size w W1->W1.heap.size=w.heap.size+2->J 0 W1)
 (hassign:∀ (l k:Nat) (y:List UInt8) (W:zk),J k W->ts[k]? =some y->w.heap.size+2≤W.heap.size->assign.wpIn (yF.inRound l) (m - 1) P (fun e a' W'=>e= .normal∧N k y a' W'∧SameOn (fun g=>I g∨g=w.heap.size∨g=w.heap.size+1) (w.heap.size+2) W W') { tmps:=((#[p]:Array Tmp).zip #[(.string ⟨y.toArray⟩:zi)]).foldl (fun t (p,v)=>t.setIfInBounds p v) a.tmps,defers:=[] } W)
 (hbody:∀ (l k:Nat) (y:List UInt8) (W:zk) (a':Act),ts[k]? =some y->w.heap.size+2≤W.heap.size->N k y a' W->
   body.wpIn (yF.inRound l) (m - 1) P (fun e _ W3=>((e= .normal∧J (k+1) W3)∨(e= .ret∧Jr W3))∧SameOn (fun g=>I g∨g=w.heap.size∨g=w.heap.size+1) (w.heap.size+2) W W3) a' W)
 (hdone:∀ W:zk,J ts.length W->W.heap[w.heap.size]? =some (.deferred (some []))->Q .normal { a with defers:={ target:=.collected w.heap.size,args:=#[] }::a.defers } W)
 (hret:∀ (W:zk),Jr W->W.heap[w.heap.size]? =some (.deferred (some []))->Q .ret { a with defers:={ target:=.collected w.heap.size,args:=#[] }::a.defers } W):
 zf4 P f (.rangeFunc g #[p] assign body) Q a w:=by
 obtain⟨rec,hrec⟩:∃ rec:LoopState->Option Code->Loop,rec=fun st pe=>{ state:=st,pending:=pe,fn:=f,tmps:=a.tmps,params:=#[p],assign,body,defers:=w.heap.size }:=⟨_,rfl⟩;obtain⟨W1,hW1⟩:∃ W1,(w.alloc (.deferred (some []))).alloc (.loop (rec .ready none))=W1:=⟨_,rfl⟩;have hs1:W1.heap.size=w.heap.size+2:=by rw[<-hW1];simp
 have hL1:W1.heap[w.heap.size+1]? =some (.loop (rec .ready none)):=by
  rw[<-hW1];have:=xE (w.alloc (.deferred (some []))) (.loop (rec .ready none));rwa[World.size_alloc]at this
 have hK1:W1.heap[w.heap.size]? =some (.deferred (some [])):=by
  rw[<-hW1];exact (Below.heap_alloc _ _ _ (by simp)).trans (xE w _)
 have hb1':yZ w.heap.size w W1:=by rw[<-hW1];exact ((zR _ w).alloc (zj _) _).alloc (by simp) _
 have hJ1:J 0 W1:=h0 _ hb1' hs1;have hb1:yZ w0.heap.size w0 W1:=hb0.trans (hb1'.mono hb0.size);refine zgR (m:=m) ⟨w.heap.size+1,[{ target:=.collected w.heap.size,args:=#[] }],W1,{ target:=.fn (.func gf) lb,args:=#[.func (.yield (w.heap.size+1)) #[] #[]] },W1,gf,
  #[.func (.yield (w.heap.size+1)) #[] #[]]++lb,W1,?_,?_,?_,?_⟩
 ·rw[<-hW1,hrec];exact run_enterLoop_outer _ _ _ _ _
 ·simp only[resolve,hg];simp[go_sem]
 ·simp[invoke,go_sem,eg]
 refine (hseq (w.heap.size+1) (fun k W=>J k W∧W.heap[w.heap.size+1]? =some (.loop (rec .ready none))∧W.heap[w.heap.size]? =some (.deferred (some []))) (fun W=>Jr W∧W.heap[w.heap.size+1]? =some (.loop (rec .done (some .ret)))∧W.heap[w.heap.size]? =some (.deferred (some []))) W1 hb1 ?_ ?_ ⟨hJ1,hL1,hK1⟩).mono ?_
 ·intro k A C hs hb;have hl:=(zp.1 hs.2.1).1;have hd:=(zp.1 hs.2.2).1;exact⟨hJ k _ _ hs.1 (hb.mono fun g h=>.inl h),(hb.block _ hl fun h=>by have:=hI _ h;omega).trans hs.2.1,(hb.block _ hd fun h=>by have:=hI _ h;omega).trans hs.2.2⟩
 ·rintro k y W ⟨hj,hl,hk⟩ hy1 hsz;have hlt:w.heap.size+1 < W.heap.size:=(zp.1 hl).1;have hy:=run_yield (P:=P) (args:=#[.string ⟨y.toArray⟩]) hl (by rw[hrec];rfl);rw[hrec]at hy;refine⟨f,_,assign,body,hy,roundIn_of_wpIn trivial ?_⟩;refine yV (hassign _ k y W hj hy1 (by omega)) ?_;rintro e a2 W2 ⟨rfl,hn2,hk2⟩;have hl2:W2.heap[w.heap.size+1]? =some (.loop (rec .ready none)):=(hk2.block _ (.inr (.inr rfl))).trans hl;have hd2:W2.heap[w.heap.size]? =some (.deferred (some [])):=(hk2.block _ (.inr (.inl rfl))).trans hk;have hlt2:w.heap.size+1 < W2.heap.size:=(zp.1 hl2).1;refine⟨_,run_beginRound hl2 (by rw[hrec]),?_⟩;have hl3:(W2.putObj (w.heap.size+1) (.loop { rec .ready none with state:=.busy })).heap[w.heap.size+1]? =some (.loop { rec .ready none with state:=.busy }):=qy hlt2;have hd3:(W2.putObj (w.heap.size+1) (.loop { rec .ready none with state:=.busy })).heap[w.heap.size]? =some (.deferred (some [])):=(xp (by omega)).trans hd2;have hn3:N k y a2 (W2.putObj (w.heap.size+1) (.loop { rec .ready none with state:=.busy })):=hN k y a2 _ _ hn2 (zc1 _ (.inr (.inr rfl)));have hp3:=grownBy_putObj' W2 (w.heap.size+1) (.loop { rec .ready none with state:=.busy });refine yV (hbody _ k y _ a2 hy1 (zH (by omega) hp3.size) hn3) ?_;rintro e a3 W3 ⟨he,hk3⟩;have hl4:W3.heap[w.heap.size+1]? =some (.loop { rec .ready none with state:=.busy }):=(hk3.block _ (.inr (.inr rfl))).trans hl3;have hd4:W3.heap[w.heap.size]? =some (.deferred (some [])):=(hk3.block _ (.inr (.inl rfl))).trans hd3;rcases he with ⟨rfl,hj3⟩|⟨rfl,hr3⟩
  ·have hr:=run_endRound (P:=P) none hl4;refine⟨_,_,hr,.inl ⟨rfl,⟨hJ _ _ _ hj3 (zc1 _ (.inr (.inr rfl))),?_,(xp (by omega)).trans hd4⟩,?_⟩⟩
   ·rw[qy (zp.1 hl4).1,hrec];rfl
   ·refine⟨?_,?_,?_,?_,fun j hj=>?_⟩
    ·exact (grownBy_putObj' W3 _ _).os.trans (hk3.os.trans (hp3.os.trans hk2.os))
    ·exact (grownBy_putObj' W3 _ _).tape.trans (hk3.tape.trans (hp3.tape.trans hk2.tape))
    ·exact (grownBy_putObj' W3 _ _).output.trans (hk3.output.trans (hp3.output.trans hk2.output))
    ·exact zH (by rw[hs1];exact hk3.size) (grownBy_putObj' W3 _ _).size
    ·have hjl:=hI j hj;exact (xp (by omega)).trans ((hk3.block j (.inl hj)).trans ((xp (by omega)).trans (hk2.block j (.inl hj))))
  ·have hr:=run_endRound (P:=P) (some .ret) hl4;refine⟨_,_,hr,.inr ⟨rfl,hJr _ _ hr3 (zc1 _ (.inr (.inr rfl))),?_,(xp (by omega)).trans hd4⟩⟩;rw[qy (zp.1 hl4).1,hrec];rfl
 ·rintro e W2 ⟨hv,⟨hj,hl,hk⟩|⟨hj,hl,hk⟩⟩
  ·refine⟨hv,none,_,by have:=run_endLoop (P:=P) hl (by rw[hrec];simp);rw[hrec]at this;exact this,hdone _ (hJ _ _ _ hj (zc1 _ (.inr (.inr rfl)))) ((xp (by omega)).trans hk)⟩
  ·refine⟨hv,some .ret,_,by have:=run_endLoop (P:=P) hl (by rw[hrec];simp);rw[hrec]at this;exact this,?_⟩;exact zcB (m:=0) (wpIn_ret (hret _ (hJr _ _ hj (zc1 _ (.inr (.inr rfl)))) ((xp (by omega)).trans hk)))
theorem zlj (gs gp gv:Nat) (s:List UInt8) (w:zk) (hne:gs≠gp∧gs≠gv) (hlen:s.length≤2000000)
 (hs:w.heap[gs]? =some (.cells #[.string ⟨s.toArray⟩] 9 (0,0))) (hp:w.heap[gp]? =some (.cells #[.string ⟨#[10]⟩] 9 (0,0))) (hv:w.heap[gv]? =some (.cells #[.int .i64 0] 3 (0,0))):
 zsP Tryz.prog 1 145 #[.pointer (some ⟨gp,0,none⟩),.pointer (some ⟨gs,0,none⟩),.pointer (some ⟨gv,0,none⟩)] (itI gs gp gv) (segs s) w:=fun l J Jr W hW hJ hY h0=>
 znc l gs gp gv s J Jr W hne hlen ((hW.block _ (zp.1 hs).1).trans hs) ((hW.block _ (zp.1 hp).1).trans hp) ((hW.block _ (zp.1 hv).1).trans hv) hJ hY h0
end
noncomputable def zkC (s p:List UInt8):Bool:=decide (p.length≤s.length)&&eqb .str (s.take p.length) p
noncomputable def cPre:Ctr:={ args:=[.str,.str],pre:=fun x=>[zh x.1≤2000000,zh x.2.1≤2000000],res:=.bool,own:=none,out:=fun x=>zkC x.1 x.2.1 }
theorem znG:ym Tryz.prog gmH 86 cPre:=by
 refine zao (K:=gmK) zai Tryz.func86 rfl rfl Tryz.call86 rfl (by decide) (by intro h;cases h) ?_;rintro w0 X hX ⟨(s:List UInt8),(p:List UInt8),⟨⟩⟩ hp;obtain⟨hs,hpl⟩:s.length≤2000000∧p.length≤2000000:=hp;change AWP _ _ _ _ _ ⟨[(0,⟨.str,s⟩),(1,⟨.str,p⟩)],[],0⟩ _;refine za (za ?_);refine zaa hX zai rfl ?_ ?_
 ·trivial
 refine za (za ?_);refine zaa hX zai rfl ?_ ?_
 ·have hd:decide (((p.length:Nat):Int)≤((s.length:Nat):Int))=true->((p.length:Nat):Int)≤((s.length:Nat):Int):=of_decide_eq_true;exact⟨fun h=>h,fun h=>⟨h,h,zd _,hd h⟩,fun h=>⟨h,h⟩,fun h=>h⟩
 refine zm ⟨.inr rfl,zat rfl trivial rfl rfl ?_⟩;show (bif decide (((p.length:Nat):Int)≤((s.length:Nat):Int)) then eqb .str (List.take (((p.length:Nat):Int)).toNat s) p else false)=(decide (p.length≤s.length)&&eqb .str (s.take p.length) p);rw[zct,dNat,zB]
noncomputable def kPx:Kn:={ gmK with C:=[(86,cPre)] }
theorem zpG:KnOk Tryz.prog gmH kPx:=zai.with (.cons znG .nil)
theorem zpP:ym Tryz.prog gmH 51 cPre:=by
 refine zao (K:=kPx) zpG Tryz.func51 rfl rfl Tryz.call51 rfl (by decide) (by intro h;cases h) ?_;rintro w0 X hX ⟨(s:List UInt8),(p:List UInt8),⟨⟩⟩ hp;obtain⟨hs,hpl⟩:s.length≤2000000∧p.length≤2000000:=hp;change AWP _ _ _ _ _ ⟨[(0,⟨.str,s⟩),(1,⟨.str,p⟩)],[],0⟩ _;refine za (za ?_);refine zaa hX zpG rfl ?_ ?_
 ·trivial
 refine za (za ?_);refine zaa hX zpG rfl ?_ ?_
 ·exact⟨hs,hpl⟩
 exact zm ⟨.inr rfl,zat rfl trivial rfl rfl rfl⟩
abbrev De:=List UInt8×List Nd×Unit
abbrev zoF (j:Nat):OObj:=.hbox 29 [⟨.obuf de,j⟩]
abbrev tD:zq:=29
def libE (l:List UInt8) (fr:Int) (acc:List De):Owns:=[(0,some (.hbox tD [⟨.lit,.slice none 0 0⟩])),(1,some (.box i64 (0:Int))),(2,some (.box i64 (0:Int))),(3,some (zoF 6)),(4,some (.box i64 fr)),(5,some (.box .str l)),(6,some (.buf 37 de acc))]
def kLb:Kn:={ gmK with H:=[tD] }
theorem zpI:KnOk Tryz.prog gmH kLb:=⟨zgM,zgL,CsOk.nil,zhN,RsOk.nil⟩
def zgT (l:List UInt8) (k:Int):Except (Int×Int) De:=(gDef l (zbm l,0) k).map fun r=>(r.1,r.2.flat 0,())
theorem znM (l:List UInt8) (k:Int):zlI l (zbm l,0) [] k=toX id (zgT l k):=by
 unfold zlI zgT;cases gDef l (zbm l,0) k<;>rfl
def NLib (l:List UInt8) (fr:Int) (acc:List De) (r:Except (Int×Int) Unit) (σ:AS):Prop:=(∃ d,zgT l ((acc.length:Nat):Int)= .ok d∧r= .ok ()∧Fit σ ⟨[],libE l fr (acc++ [d]),7⟩)∨∃ er,zgT l ((acc.length:Nat):Int)= .error er∧r= .error er∧Fit σ ⟨[],libE l fr acc,7⟩
set_option maxHeartbeats 4000000 in
theorem zru {w1:zk} {X:Ownr} {l:List UInt8} {fr:Int} {acc:List De} (hl:l.length≤4000) (ha:acc.length≤1000000) (hX:X.Ok w1) (hG:X.G=gmH) (hK:X.K=6) (hρ:X.ρ=none) (hD:X.D=[]) (hinv:∀ ty,ginv w1 X.R ty):
 AWP Tryz.prog w1 X Tryz.f54.ntmps (Tryz.f54.body.getD .skip) ⟨[(0,⟨.hptr,((3:Nat),(0:Nat))⟩),(1,⟨.optr .str,⟨5,.str,.here⟩⟩)],libE l fr acc,7⟩ (fun e σ=>((e= .normal∨e= .ret)∧NLib l fr acc (.ok ()) σ)∨∃ er,e= .panic [{ v:=pvS er,recovered:=false }]∧NLib l fr acc (.error er) σ):=by
 obtain⟨G,O,K,fix,D,ρ,B⟩:=X;obtain rfl:G=gmH:=hG;obtain rfl:K=6:=hK;obtain rfl:ρ=none:=hρ;obtain rfl:D=[]:=hD;have hI:=fun ty=>zaM (ty:=ty) hX rfl (hinv ty) (ty':=ty);have hl1:l.length≤100000:=by omega
 have hcap:acc.length+1≤1000000000:=by omega
 have hg0:GOk l (zbm l,0):=by
  have:=zg6 (s:=l);unfold zil at this;rwa[zmb]at this
 have hok:pOk (l,zbm l,[],0,()):=⟨hg0,hl1⟩;have hfew:few (l,zbm l,[],0,()):=xF 0;have hx:=znM l ((acc.length:Nat):Int);unfold libE;refine jH dM 9 rfl (by kernel_rfl) ?_;cases hr:zgT l ((acc.length:Nat):Int) with
 |ok d=>
  rw[hr]at hx;have hx:zlI l (zbm l,0) [] ((acc.length:Nat):Int)= .ok d:=hx
  repeat'(first
   |exact jZ
   |refine jt ⟨_,rfl,?_⟩ ?_
   |refine xr hX zpI rfl trivial ?_
   |refine StepA.fresh hX zex rfl rfl rfl rfl rfl rfl (by exact trivial) (by exact hl1) (by exact⟨rfl,rfl⟩) rfl rfl ?_
   |refine xr hX zpI rfl hcap ?_
   |refine StepA.conv (kW 7 6 73 nd rfl rfl rfl) (StepA.giveO hX zfX rfl rfl rfl rfl rfl rfl rfl rfl rfl rfl rfl rfl (by exact trivial) (by exact⟨hok,hfew⟩) (by exact hI 139) rfl rfl (by exact hx) ?_)
   |(refine jN ?_;exact .inl ⟨.inl rfl,.inl ⟨d,hr,rfl,trivial,⟨rfl,rfl,rfl,rfl,rfl,rfl,rfl,trivial⟩,rfl,rfl⟩⟩))
 |error er=>
  rw[hr]at hx;have hx:zlI l (zbm l,0) [] ((acc.length:Nat):Int)= .error (pvS er):=hx
  repeat'(first
   |exact jZ
   |refine jt ⟨_,rfl,?_⟩ ?_
   |refine xr hX zpI rfl trivial ?_
   |refine StepA.fresh hX zex rfl rfl rfl rfl rfl rfl (by exact trivial) (by exact hl1) (by exact⟨rfl,rfl⟩) rfl rfl ?_
   |refine StepA.conv (kW 7 6 73 nd rfl rfl rfl) (StepA.giveE hX zfX rfl rfl rfl rfl rfl rfl rfl rfl rfl rfl rfl rfl (by exact trivial) (by exact⟨hok,hfew⟩) (by exact hI 139) rfl rfl (by exact hx) ?_)
   |exact .inr ⟨er,rfl,.inr ⟨er,hr,rfl,trivial,⟨rfl,rfl,rfl,rfl,rfl,rfl,rfl,trivial⟩,rfl,rfl⟩⟩)
def zkN:List De->List UInt8->List UInt8×Int
 | [],acc=>if 1048576 < acc.length then ([],2) else (acc,0)
 |d::r,acc=>
  if 32 < d.1.length then ([],2)
  else if zay d.1=0∨zay d.1 < d.1.length then ([],1)
  else if (fmtS d.2.1).2≠0 then ([],(fmtS d.2.1).2)
  else if 4000 < (d.1++ [32,61,32]++(fmtS d.2.1).1).length then ([],2)
  else zkN r (acc++(d.1++ [32,61,32]++(fmtS d.2.1).1++ [10]))
def zbs (l:List De):List UInt8×Int:=if 4096 < l.length then ([],2) else zkN l []
theorem zrN (r:List Nd):(fmtS r).1.length≤4000:=by
 unfold fmtS;split
 ·split
  ·exact zl _
  ·show (zbo r).text.length≤4000;omega
 ·exact zl _
section
variable {w0:zk} {X:Ownr} {n:Nat} {Q:Exit->AS->Prop} {ops:Array Oper} {F:Frame} {E:Owns} {nx:Nat}
theorem AL.newBd (hX:X.Ok w0) {o:Oper} {rest:List Oper} (ho:o.op= .alloc 105) (hgd:o.guard=none) {d:Nat} (hd:o.dst=some d) (hdn:zY d n=true)
 (h:AL Tryz.prog w0 X n ops rest ⟨(d,⟨.hptr,(nx,(0:Nat))⟩)::F,(nx,some (.hbox 105 [⟨.lit,.pointer none⟩,⟨.lit,.slice none 0 0⟩]))::E,nx+1⟩ Q):AL Tryz.prog w0 X n ops (o::rest) ⟨F,E,nx⟩ Q:=by
 refine AL.hand hgd (fun c e=>by rw[ho]at e;cases e) fun β a w hs=>?_;have hlt:d < n:=by simpa using hdn
 refine zbI (u:=.pointer (some ⟨w.heap.size,0,none⟩)) (w':=w.alloc (.cells #[.pointer none,.slice none 0 0] 105 (0,0))) ?_ ?_
 ·unfold execOp;simp[ho,Instr.alloc,Tryz.zeroValue105,newVar,newRow,Value.cells,go_sem]
 ·rw[hd];obtain⟨β',h1⟩:=hs.make hX ((zR _ w).alloc (zj _) (.cells #[.pointer none,.slice none 0 0] 105 (0,0))) (bv:=.pointer (some ⟨w.heap.size,0,none⟩)) (o:=.hbox 105 [⟨.lit,.pointer none⟩,⟨.lit,.slice none 0 0⟩])
   (fun O β' _=>⟨w.heap.size,[.pointer none,.slice none 0 0],rfl,zl _,xE w _,⟨.pointer none,[.slice none 0 0],rfl,rfl,rfl,⟨.slice none 0 0,[],rfl,rfl,rfl,rfl⟩⟩⟩) (fun g hg=>by cases hg;exact zj _) (v:=⟨.hptr,(nx,(0:Nat))⟩) (u:=.pointer (some ⟨w.heap.size,0,none⟩))
   (fun O β' hb=>⟨w.heap.size,by show zah (β' nx)=_;rw[show β' nx=_ from hb];rfl,rfl⟩) (zj _) hlt (fun vs e v hv=>by
     cases e;rcases ya.1 hv with rfl|hv
     ·exact zl _
     ·rw[zv.1 hv];exact zl _)
  exact⟨_,β',h1,h⟩
end
@[reducible] def cStr0:HCtr:=hBl .unit [105] [] .str (fun _ _=>[]) fun x _=>.ok (x.2.1,x)
theorem znI {R:Nat->Prop} {w w':zk} (h:yZ w.heap.size w w'):Kept R w w':=⟨h.os,h.tape,h.output,h.size,fun k hk _=>h.block k hk⟩
theorem znb:zf3 Tryz.prog gmH 62 cStr0 (fun x _=>.ok x.2.1):=by
 refine⟨Tryz.call62,zcG rfl,fun w O g cs ty x xs vs b hO hgb hg hx hbuf hrep hpre hinv hG=>?_⟩;by_cases h0:x.2.1=[]
 ·obtain⟨xb,(xl:List UInt8),⟨⟩⟩:=x;obtain rfl:xl=[]:=h0;have hvs:vs=[]:=hrep;subst hvs;obtain rfl:ty=105:=zv.1 hinv.2;rw[zpe]at hx;obtain⟨u,r,rfl,hu1,hu,hr⟩:=hx;obtain⟨v,r,rfl,hv1,hv,hr⟩:=hr;have hv:v=b:=hv;subst hv;have hr:r=[]:=hr;subst hr;obtain⟨cells,k1,k2,k3⟩:=hbuf;have k1:=zgc k1;subst k1;have fin:∀ {e:Ending} {w':zk},(e= .returned (.string ⟨#[]⟩)∧yZ w.heap.size w w')->Kept (fun h=>h=g∨zah v=some h) w w'∧LEnd cStr0 w w' O e (.ok ([]:List UInt8)):=fun {e w'} h=>⟨znI h.2,_,h.1,.inr fun β=>⟨rfl,zl _⟩⟩;rcases k2.2 with ⟨rfl,_⟩|⟨g',cap,cur,rfl,_,hg',hnc,hcm,hcs,htake⟩
  ·refine (Any.Builder_String_nil Tryz.lays169 Tryz.Builder_Extra_169 w.heap.size g u w hg).mono ?_;exact fun e w' h=>fin h
  ·by_cases hc0:cap=0
   ·subst hc0;refine (Any.Builder_String_noroom Tryz.lays169 Tryz.Builder_Extra_169 w.heap.size g g' u cur w (zj _) hg hg').mono ?_;exact fun e w' h=>fin h
   ·refine (Any.Builder_String_room Tryz.lays169 Tryz.Builder_Extra_169 w.heap.size g g' cap u w hc0 hg).mono ?_;exact fun e w' h=>fin h
 ·exact (zj3 .unit rfl [105]).2.2 w O g cs ty x xs vs b hO hgb hg hx hbuf hrep h0 hinv hG
def zDe:De:=([],[],())
def cFmtL:Ctr:={ args:=[.slice de],pre:=fun _=>[],res:=.tup .str (.tup i64 .unit),own:=none,out:=fun x=>((zbs x.1).1,(zbs x.1).2,()) }
def kFb:Kn:={ gmK with C:=[(65,zjI),(24,cFmt)] }
theorem za8:KnOk Tryz.prog gmH kFb:=zai.with (.cons zit.lift <| .cons zhS .nil)
def hFb:List (zU×HCtr):=[(66,cWSB),(61,znS .unit [105])]
theorem zsA:HsOk Tryz.prog gmH hFb:=.cons zm4 <| .cons ztI .nil
def bdE (b:Bool) (acc:List UInt8):Owns:=[(0,some (.hbox 105 [adV 0 b,⟨.obuf u8,(1:Nat)⟩])),(1,some (.buf 5 u8 acc))]
set_option maxHeartbeats 1000000 in
theorem zpU:ym Tryz.prog gmH 26 cFmtL:=by
 refine zao (K:=kFb) za8 Tryz.func26 rfl rfl Tryz.call26 rfl (by decide) (by intro h;cases h) ?_;rintro w0 X hX ⟨(l:List De),_⟩ hp;change AWP _ _ _ _ _ ⟨[(0,⟨.slice de,l⟩)],[],0⟩ _;refine j8 0 rfl fun hl=>?_;unfold maxLen at hl;have hI:∀ w R,(∀ g,R g->w0.heap.size≤g∨(qv gmH X).R g)->(qv gmH X).G w->bInv .unit [105] w R 105:=fun w R hR hw=>⟨zaM (ty:=105) hX rfl (ziS hX) (ty':=105) w R hR hw,zv.2 rfl⟩;refine za (za ?_);refine zaa hX za8 rfl ?_ ?_
 ·trivial
 refine za (za ?_);refine zaa hX za8 rfl ?_ ?_
 ·trivial
 refine zae rfl (fun hb=>?_) (fun hb=>?_)
 ·have hb:decide (((l.length:Nat):Int) > 4096)=true:=hb;have hb:=of_decide_eq_true hb;(repeat(first|apply zaf|apply zab|apply zaj|apply zad|apply zac|refine zaa hX za8 rfl trivial ?_|refine zaa hX za8 rfl id ?_|refine zaa hX za8 rfl ⟨id,id⟩ ?_));refine zm ⟨.inr rfl,zba (by decide) rfl rfl trivial ?_⟩;show (([]:List UInt8),(2:Int),())=((zbs l).1,(zbs l).2,());unfold zbs;rw[if_pos (by omega)]
 have hb:decide (((l.length:Nat):Int) > 4096)=false:=hb;have hb:=of_decide_eq_false hb;have hS:zbs l=zkN l []:=by unfold zbs;rw[if_neg (by omega)]
 apply zab;apply zaf;refine zak ?_;refine AL.newBd hX rfl rfl rfl rfl ?_;refine AL.nilLeaf 0 1 5 u8 rfl rfl rfl ?_;refine yf ?_;refine za (za ?_);refine zaa hX za8 rfl ?_ ?_
 ·trivial
 (repeat(first|apply zaf|apply zab|apply zac|apply zad));refine yw (ι:=Nat×List UInt8) (fun p=>⟨[(0,⟨.slice de,l⟩),(4,⟨.hptr,((0:Nat),(0:Nat))⟩),(14,⟨.slice de,l⟩),(15,⟨i64,((l.length:Nat):Int)⟩),(16,⟨i64,(p.1:Int)⟩)],bdE (decide (0 < p.1)) p.2,2⟩) (fun p=>p.1≤l.length∧zbs l=zkN (l.drop p.1) p.2∧p.2.length≤4001 * p.1) (fun p=>l.length - p.1) (0,[]) ⟨zl _,hS,zl _⟩ ⟨⟨rfl,rfl,rfl,rfl,rfl,trivial⟩,⟨rfl,rfl,trivial⟩,rfl,rfl⟩ ?_;rintro ⟨i,acc⟩ ⟨hi,hR,hal⟩;have hi:i≤l.length:=hi;have hR:zbs l=zkN (l.drop i) acc:=hR;have hal:acc.length≤4001 * i:=hal;unfold bdE;refine za (za ?_);refine zaa hX za8 rfl ?_ ?_
 ·trivial
 apply zaf;refine zae rfl (fun hb=>?_) (fun hb=>?_)
 ·have hb2:decide ((i:Int) < (l.length:Nat))=true:=hb;have hb2:=of_decide_eq_true hb2;have hlt:i < l.length:=by omega
  have z0:(0:Int)≤(i:Int):=by omega
  have hgd:l.getD (i:Int).toNat zDe=l[i]:=za4 hlt;rw[yS hlt,zkN, <-hgd]at hR;generalize hbq:decide (0 < i)=b;refine za (za ?_);refine zaa hX za8 rfl ?_ ?_
  ·exact⟨z0,hb2⟩
  generalize hD:l.getD (i:Int).toNat zDe=D at *;obtain⟨(nm:List UInt8),(rl:List Nd),⟨⟩⟩:=D;refine zaq (σ':=⟨[(0,⟨.slice de,l⟩),(4,⟨.hptr,((0:Nat),(0:Nat))⟩),(14,⟨.slice de,l⟩),(15,⟨i64,((l.length:Nat):Int)⟩),(16,⟨i64,(i:Int)⟩),(6,⟨.optr de,⟨2,de,.here⟩⟩)],(2,some (.box de (nm,rl,())))::bdE b acc,3⟩) ⟨⟨rfl,rfl,rfl,rfl,rfl,rfl,trivial⟩,⟨zf0 hD,rfl,rfl,trivial⟩,rfl,by cases b<;>rfl⟩ ?_;have hR:zbs l=if 32 < nm.length then ([],2) else if zay nm=0∨zay nm < nm.length then ([],1) else if (fmtS rl).2≠0 then ([],(fmtS rl).2) else if 4000 < (nm++ [32,61,32]++(fmtS rl).1).length then ([],2) else zkN (l.drop (i+1)) (acc++(nm++ [32,61,32]++(fmtS rl).1++ [10])):=hR
  unfold bdE;refine za (za ?_);refine zaa hX za8 rfl ?_ ?_
  ·trivial
  refine za (za ?_);refine zaa hX za8 rfl ?_ ?_
  ·trivial
  refine zae rfl (fun hc=>?_) (fun hc=>?_)
  ·have hc:decide (((nm.length:Nat):Int) > 32)=true:=hc;have hc:=of_decide_eq_true hc;(repeat(first|apply zaf|apply zab|apply zaj|apply zad|apply zac|refine zaa hX za8 rfl trivial ?_|refine zaa hX za8 rfl id ?_|refine zaa hX za8 rfl ⟨id,id⟩ ?_));refine zm ⟨.inr rfl,zba (by decide) rfl rfl trivial ?_⟩;show (([]:List UInt8),(2:Int),())=((zbs l).1,(zbs l).2,());rw[hR,if_pos (by omega)]
  have hc:decide (((nm.length:Nat):Int) > 32)=false:=hc;have hc:=of_decide_eq_false hc;refine za (za ?_);refine zaa hX za8 rfl ?_ ?_
  ·repeat'(first|exact trivial|assumption|(refine⟨?_,?_⟩)|(intro _)|exact zb rfl|exact zd _|(simp_all [allP];done))
  have hq:(bif ((zay nm:Nat):Int)==0 then true else decide (((zay nm:Nat):Int) < ((nm.length:Nat):Int)))=decide (zay nm=0∨zay nm < nm.length):=by
   rw[b_or,zL,zV,decide_eq_true_iff,decide_eq_true_iff,beq_iff_eq];omega
  refine zae rfl (fun hd=>?_) (fun hd=>?_)
  ·have hd:=hq.symm.trans hd;have hd:=of_decide_eq_true hd;(repeat(first|apply zaf|apply zab|apply zaj|apply zad|apply zac|refine zaa hX za8 rfl trivial ?_|refine zaa hX za8 rfl id ?_|refine zaa hX za8 rfl ⟨id,id⟩ ?_));refine zm ⟨.inr rfl,zba (by decide) rfl rfl trivial ?_⟩;show (([]:List UInt8),(1:Int),())=((zbs l).1,(zbs l).2,());rw[hR,if_neg (by omega),if_pos hd]
  have hd:=hq.symm.trans hd;have hd:=of_decide_eq_false hd;apply zab;refine za (za ?_);refine zaa hX za8 rfl ?_ ?_
  ·trivial
  refine zaq (σ':=⟨[(0,⟨.slice de,l⟩),(4,⟨.hptr,((0:Nat),(0:Nat))⟩),(14,⟨.slice de,l⟩),(15,⟨i64,((l.length:Nat):Int)⟩),(16,⟨i64,(i:Int)⟩),(6,⟨.optr de,⟨2,de,.here⟩⟩),(8,⟨.str,(fmtS rl).1⟩),(9,⟨i64,(fmtS rl).2⟩)],(2,some (.box de (nm,rl,())))::bdE b acc,3⟩) ⟨⟨rfl,rfl,rfl,rfl,rfl,rfl,rfl,rfl,trivial⟩,⟨rfl,rfl,rfl,trivial⟩,rfl,by cases b<;>rfl⟩ ?_;have hfl:=zrN rl;generalize (fmtS rl).1=T at *;generalize (fmtS rl).2=ec at *;unfold bdE;refine za (za ?_);refine zaa hX za8 rfl ?_ ?_
  ·trivial
  refine zae rfl (fun he=>?_) (fun he=>?_)
  ·have he:(ec != 0)=true:=he;have he:=bne_iff_ne.1 he;(repeat(first|apply zaf|apply zab|apply zaj|apply zad|apply zac|refine zaa hX za8 rfl trivial ?_|refine zaa hX za8 rfl id ?_|refine zaa hX za8 rfl ⟨id,id⟩ ?_));refine zm ⟨.inr rfl,zba (by decide) rfl rfl trivial ?_⟩;show (([]:List UInt8),ec,())=((zbs l).1,(zbs l).2,());rw[hR,if_neg (by omega),if_neg hd,if_pos he]
  have he:(ec != 0)=false:=he;have he:¬ ec≠0:=fun h=>by rw[bne_iff_ne.2 h]at he;cases he
  apply zab;have t1:nm.length+3≤maxLen:=by unfold maxLen;omega
  have t2:zh (nm++ [32,61,32]:List UInt8)+T.length≤maxLen:=by rw[zg];show nm.length+3+_≤_;unfold maxLen;omega
  have t3:(nm++ [32,61,32]++T:List UInt8).length=nm.length+3+T.length:=by rw[zg,zg];rfl
  refine za (za ?_);refine zaa hX za8 rfl ?_ ?_
  ·exact⟨t1,t2⟩
  refine zaq (σ':=⟨[(0,⟨.slice de,l⟩),(4,⟨.hptr,((0:Nat),(0:Nat))⟩),(14,⟨.slice de,l⟩),(15,⟨i64,((l.length:Nat):Int)⟩),(16,⟨i64,(i:Int)⟩),(10,⟨.str,nm++ [32,61,32]++T⟩)],bdE b acc,3⟩) ⟨⟨rfl,rfl,rfl,rfl,rfl,rfl,trivial⟩,⟨rfl,rfl,trivial⟩,rfl,by cases b<;>rfl⟩ ?_;generalize (nm++ [32,61,32]++T:List UInt8)=L at hR t3;unfold bdE;refine za (za ?_);refine zaa hX za8 rfl ?_ ?_
  ·trivial
  refine zae rfl (fun hf=>?_) (fun hf=>?_)
  ·have hf:decide (((L.length:Nat):Int) > 4000)=true:=hf;have hf:=of_decide_eq_true hf;(repeat(first|apply zaf|apply zab|apply zaj|apply zad|apply zac|refine zaa hX za8 rfl trivial ?_|refine zaa hX za8 rfl id ?_|refine zaa hX za8 rfl ⟨id,id⟩ ?_));refine zm ⟨.inr rfl,zba (by decide) rfl rfl trivial ?_⟩;show (([]:List UInt8),(2:Int),())=((zbs l).1,(zbs l).2,());rw[hR,if_neg (by omega),if_neg hd,if_neg he,if_pos (by omega)]
  have hf:decide (((L.length:Nat):Int) > 4000)=false:=hf;have hf:=of_decide_eq_false hf;rw[if_neg (by omega),if_neg hd,if_neg he,if_neg (by omega)]at hR;apply zab;have hl1:(L++ [10]:List UInt8).length=L.length+1:=by rw[zg];rfl
  have t4:L.length+1≤maxLen:=by unfold maxLen;omega
  have t5:acc.length+zh (L++ [10]:List UInt8)≤1000000000:=by omega
  cases b
  all_goals
   (repeat(first|apply zaf|apply zab|apply zac|apply zad));refine zak ?_;refine yq 2 hX za8 zsA rfl t4 rfl rfl t5 hI ?_;refine yf ?_;refine zaq (σ':=⟨[(0,⟨.slice de,l⟩),(4,⟨.hptr,((0:Nat),(0:Nat))⟩),(14,⟨.slice de,l⟩),(15,⟨i64,((l.length:Nat):Int)⟩),(16,⟨i64,(i:Int)⟩)],[(0,some (.hbox 105 [adV 0 true,⟨.obuf u8,(1:Nat)⟩])),(1,some (.buf 5 u8 (acc++(L++ [10]))))],3⟩) ⟨⟨rfl,rfl,rfl,rfl,rfl,trivial⟩,⟨rfl,rfl,trivial⟩,rfl,rfl⟩ ?_;refine za (za ?_);refine zaa hX za8 rfl ?_ ?_
   ·exact zaG (by omega)
   refine⟨(i+1,acc++(L++ [10])),⟨hlt,hR,?_⟩,by show l.length - (i+1) < l.length - i;omega,⟨rfl,rfl,rfl,rfl,zci _,trivial⟩,⟨?_,rfl,trivial⟩,rfl,?_⟩
   ·show zh (acc++(L++ [10]):List UInt8)≤4001 * (i+1);rw[zg];omega
   ·rw[show decide (0 < (i+1,acc++(L++ [10])).1)=true from decide_eq_true (Nat.succ_pos _)];rfl
   ·rw[show decide (0 < (i+1,acc++(L++ [10])).1)=true from decide_eq_true (Nat.succ_pos _)];rfl
 ·have hb2:decide ((i:Int) < (l.length:Nat))=false:=hb;have hb2:=of_decide_eq_false hb2;obtain rfl:i=l.length:=by omega
  rw[jQ,zkN]at hR;generalize decide (0 < l.length)=b;apply zad;refine zaq (σ':=⟨[(4,⟨.hptr,((0:Nat),(0:Nat))⟩)],bdE b acc,2⟩) ⟨⟨rfl,trivial⟩,⟨rfl,rfl,trivial⟩,rfl,by cases b<;>rfl⟩ ?_;unfold bdE;cases b
  all_goals
   (repeat(first|apply zaf|apply zab|apply zac|apply zad));refine zak ?_;refine yq 0 hX za8 zsA rfl trivial rfl rfl trivial hI ?_;refine zX hX za8 rfl trivial ?_;refine zae rfl (fun hc=>?_) (fun hc=>?_)
   ·have hc:decide (((acc.length:Nat):Int) > 1048576)=true:=hc;have hc:=of_decide_eq_true hc;(repeat(first|apply zaf|apply zab|apply zaj|apply zad|apply zac|refine zaa hX za8 rfl trivial ?_|refine zaa hX za8 rfl id ?_|refine zaa hX za8 rfl ⟨id,id⟩ ?_));refine zm ⟨.inr rfl,zba (by decide) rfl rfl trivial ?_⟩;show (([]:List UInt8),(2:Int),())=((zbs l).1,(zbs l).2,());rw[hR,if_pos (by omega)]
   ·have hc:decide (((acc.length:Nat):Int) > 1048576)=false:=hc;have hc:=of_decide_eq_false hc;apply zab;(repeat(first|apply zaf|apply zab|apply zac|apply zad));refine zak ?_;refine AL.give hX znb rfl rfl rfl rfl rfl rfl rfl rfl rfl rfl rfl rfl trivial trivial hI rfl rfl ?_;show AL _ _ _ _ _ _ _ _;refine zX hX za8 rfl trivial ?_;refine zm ⟨.inr rfl,zba (by decide) rfl rfl trivial ?_⟩;show (acc,(0:Int),())=((zbs l).1,(zbs l).2,());rw[hR,if_neg (by omega)]
noncomputable def eqN (a b:Nd):Bool:=eqb nd a b
theorem zlP {a b:Nd}:eqN a b=true↔a=b:=zbt
theorem zhX {a b:Nd}:eqN a b=false↔a≠b:=by rw[<-uN,zlP]
noncomputable def zsG:Ctr:={ args:=[nd,nd],pre:=fun _=>[],res:=.bool,own:=none,out:=fun x=>eqN x.1 x.2.1 }
theorem eqb_ne (x y:List UInt8):(!eqb .str x y)= !decide (x=y):=by rw[zds]
theorem zqV:ym Tryz.prog gmH 49 zsG:=by
 refine zao (K:=gmK) zai Tryz.func49 rfl rfl Tryz.call49 rfl (by decide) (by intro h;cases h) ?_;rintro w0 X hX ⟨(a:Nd),(b:Nd),_⟩ hp;change AWP _ _ _ _ _ ⟨[(0,⟨nd,a⟩),(1,⟨nd,b⟩)],[],0⟩ _;refine za (za ?_);refine zaa hX zai rfl ?_ ?_
 ·trivial
 refine za (za ?_);refine zaa hX zai rfl ?_ ?_
 ·repeat'(first|exact trivial|assumption|(refine⟨?_,?_⟩)|(intro _)|exact zb rfl|exact zd _|(simp_all [allP];done))
 obtain⟨a1,a2,a3,a4,a5,a6,(la:List Int),a8,⟨⟩⟩:=a;obtain⟨b1,b2,b3,b4,b5,b6,(lb:List Int),b8,⟨⟩⟩:=b;have ht:(bif (bif (bif (bif (bif (bif (bif a1 != b1 then true else a2 != b2) then true else a3 != b3) then true else a4 != b4) then true else a5 != b5) then true else a6 != b6) then true else !eqb .str a8 b8) then true else ((la.length:Nat):Int) != ((lb.length:Nat):Int))=true↔¬ (a1=b1∧a2=b2∧a3=b3∧a4=b4∧a5=b5∧a6=b6∧a8=b8∧la.length=lb.length):=by
  rw[eqb_ne];simp only[b_or,zV,bne_iff_ne,zu,decide_eq_false_iff_not];constructor
  ·rintro (((((((h|h)|h)|h)|h)|h)|h)|h) ⟨x1,x2,x3,x4,x5,x6,x7,x8⟩
   ·exact h x1
   ·exact h x2
   ·exact h x3
   ·exact h x4
   ·exact h x5
   ·exact h x6
   ·exact h x7
   ·exact h (by rw[x8])
  ·intro h;by_cases x1:a1=b1
   ·by_cases x2:a2=b2
    ·by_cases x3:a3=b3
     ·by_cases x4:a4=b4
      ·by_cases x5:a5=b5
       ·by_cases x6:a6=b6
        ·by_cases x7:a8=b8
         ·refine .inr fun e=>h ⟨x1,x2,x3,x4,x5,x6,x7,by omega⟩
         ·exact .inl (.inr x7)
        ·exact .inl (.inl (.inr x6))
       ·exact .inl (.inl (.inl (.inr x5)))
      ·exact .inl (.inl (.inl (.inl (.inr x4))))
     ·exact .inl (.inl (.inl (.inl (.inl (.inr x3)))))
    ·exact .inl (.inl (.inl (.inl (.inl (.inl (.inr x2))))))
   ·exact .inl (.inl (.inl (.inl (.inl (.inl (.inl x1))))))
 refine zae rfl (fun hb=>?_) (fun hb=>?_)
 ·have hb:=ht.1 hb;(repeat(first|apply zaf|apply zab|apply zaj|apply zad|apply zac|refine zaa hX zai rfl trivial ?_|refine zaa hX zai rfl id ?_|refine zaa hX zai rfl ⟨id,id⟩ ?_));refine zm ⟨.inr rfl,zat rfl trivial rfl rfl ?_⟩;refine (zhX.2 fun e=>hb ?_).symm;cases e;exact⟨rfl,rfl,rfl,rfl,rfl,rfl,rfl,rfl⟩
 ·have hb:¬ _:=fun h=>by rw[ht.2 h]at hb;cases hb
  obtain⟨rfl,rfl,rfl,rfl,rfl,rfl,rfl,hlen⟩:=Classical.not_not.1 hb;apply zab;refine za (za ?_);refine zaa hX zai rfl ?_ ?_
  ·trivial
  (repeat(first|apply zaf|apply zab|apply zac|apply zad));refine zaq (σ':=⟨[(2,⟨.optr nd,⟨0,nd,.here⟩⟩),(3,⟨.optr nd,⟨1,nd,.here⟩⟩),(5,⟨i64,(0:Int)⟩)],[(0,some (.box nd (a1,a2,a3,a4,a5,a6,la,a8,()))),(1,some (.box nd (a1,a2,a3,a4,a5,a6,lb,a8,())))],2⟩) ⟨⟨rfl,rfl,rfl,trivial⟩,⟨rfl,rfl,trivial⟩,rfl,rfl⟩ ?_;refine yw (ι:=Nat) (fun k=>⟨[(2,⟨.optr nd,⟨0,nd,.here⟩⟩),(3,⟨.optr nd,⟨1,nd,.here⟩⟩),(5,⟨i64,(k:Int)⟩)],[(0,some (.box nd (a1,a2,a3,a4,a5,a6,la,a8,()))),(1,some (.box nd (a1,a2,a3,a4,a5,a6,lb,a8,())))],2⟩) (fun k=>k≤la.length∧la.take k=lb.take k) (fun k=>la.length - k) 0 ⟨zl _,rfl⟩ ⟨⟨rfl,rfl,rfl,trivial⟩,⟨rfl,rfl,trivial⟩,rfl,rfl⟩ ?_;rintro k ⟨hk,he⟩;refine za (za ?_);refine zaa hX zai rfl ?_ ?_
  ·trivial
  refine j8 64 rfl fun hl=>?_;have hl:la.length≤maxLen:=hl;unfold maxLen at hl;refine zae rfl (fun hb=>?_) (fun hb=>?_)
  ·have hb:decide ((k:Int) < ((la.length:Nat):Int))=true:=hb;have hb:=of_decide_eq_true hb;have hlt:k < la.length:=by omega
   have hlt2:k < lb.length:=by omega
   have z0:(0:Int)≤(k:Int):=by omega
   have z1:(k:Int) < ((la.length:Nat):Int):=by omega
   have z2:(k:Int) < ((lb.length:Nat):Int):=by omega
   have g1:la.getD (k:Int).toNat (0:Int)=la[k]:=za4 hlt;have g2:lb.getD (k:Int).toNat (0:Int)=lb[k]:=za4 hlt2;(repeat(first|apply zaf|apply zab|apply zac|apply zad));refine qx dM hX zai 11 (by kernel_rfl) rfl rfl ?_ ?_ ?_
   ·repeat'(first|exact trivial|assumption|exact z0|exact z1|exact z2|(refine⟨?_,?_⟩)|(intro _)|exact zb rfl|exact zd _|(simp_all [allP];done))
   ·trivial
   refine zae rfl (fun hc=>?_) (fun hc=>?_)
   ·have hc:(la.getD (k:Int).toNat (0:Int) != lb.getD (k:Int).toNat (0:Int))=true:=hc;rw[g1,g2]at hc;have hc:=bne_iff_ne.1 hc;(repeat(first|apply zaf|apply zab|apply zaj|apply zad|apply zac|refine zaa hX zai rfl trivial ?_|refine zaa hX zai rfl id ?_|refine zaa hX zai rfl ⟨id,id⟩ ?_));refine zm ⟨.inr rfl,zat rfl trivial rfl rfl ?_⟩;refine (zhX.2 fun e=>hc ?_).symm;have e:la=lb:=congrArg ndI e;subst e;rfl
   ·have hc:(la.getD (k:Int).toNat (0:Int) != lb.getD (k:Int).toNat (0:Int))=false:=hc;rw[g1,g2]at hc;have hc:=bne_eq_false_iff_eq.1 hc;apply zab;refine za (za ?_);refine zaa hX zai rfl ?_ ?_
    ·exact zaG (by omega)
    refine⟨k+1,⟨hlt,?_⟩,by omega,⟨rfl,rfl,zci _,trivial⟩,⟨rfl,rfl,trivial⟩,rfl,rfl⟩;rw[zI hlt,zI hlt2,he,hc]
  ·have hb:decide ((k:Int) < ((la.length:Nat):Int))=false:=hb;have hb:=of_decide_eq_false hb;obtain rfl:k=la.length:=by omega
   (repeat(first|apply zaf|apply zab|apply zaj|apply zad|apply zac|refine zaa hX zai rfl trivial ?_|refine zaa hX zai rfl id ?_|refine zaa hX zai rfl ⟨id,id⟩ ?_));refine zm ⟨.inr rfl,zat rfl trivial rfl rfl ?_⟩;refine (zlP.2 ?_).symm;rw[xn,hlen,xn]at he;rw[he]
noncomputable def zlk (a b:List Nd):Bool:=eqb (.slice nd) a b
theorem zet {a b:List Nd}:zlk a b=true↔a=b:=zbt
theorem zhj {a b:List Nd}:zlk a b=false↔a≠b:=by rw[<-uN,zet]
noncomputable def zun:Ctr:={ args:=[.slice nd,.slice nd],pre:=fun _=>[],res:=.bool,own:=none,out:=fun x=>zlk x.1 x.2.1 }
noncomputable def kSame:Kn:={ gmK with C:=[(49,zsG)] }
theorem zbK:KnOk Tryz.prog gmH kSame:=zai.with (.cons zqV .nil)
theorem zoz:ym Tryz.prog gmH 18 zun:=by
 refine zao (K:=kSame) zbK Tryz.func18 rfl rfl Tryz.call18 rfl (by decide) (by intro h;cases h) ?_;rintro w0 X hX ⟨(la:List Nd),(lb:List Nd),_⟩ hp;change AWP _ _ _ _ _ ⟨[(0,⟨.slice nd,la⟩),(1,⟨.slice nd,lb⟩)],[],0⟩ _;refine j8 0 rfl fun hl=>?_;unfold maxLen at hl;refine za (za ?_);refine zaa hX zbK rfl ?_ ?_
 ·trivial
 refine za (za ?_);refine zaa hX zbK rfl ?_ ?_
 ·trivial
 refine zae rfl (fun hb=>?_) (fun hb=>?_)
 ·have hb:(((la.length:Nat):Int) != ((lb.length:Nat):Int))=true:=hb;have hb:=bne_iff_ne.1 hb;(repeat(first|apply zaf|apply zab|apply zaj|apply zad|apply zac|refine zaa hX zbK rfl trivial ?_|refine zaa hX zbK rfl id ?_|refine zaa hX zbK rfl ⟨id,id⟩ ?_));refine zm ⟨.inr rfl,zat rfl trivial rfl rfl ?_⟩;exact (zhj.2 fun e=>hb (by have e:la=lb:=e;rw[e])).symm
 have hb:(((la.length:Nat):Int) != ((lb.length:Nat):Int))=false:=hb;have hb:=bne_eq_false_iff_eq.1 hb;have hlen:la.length=lb.length:=by omega
 apply zab;refine za (za ?_);refine zaa hX zbK rfl ?_ ?_
 ·trivial
 (repeat(first|apply zaf|apply zab|apply zac|apply zad));refine yw (ι:=Nat) (fun k=>⟨[(0,⟨.slice nd,la⟩),(1,⟨.slice nd,lb⟩),(5,⟨i64,(k:Int)⟩)],[],0⟩) (fun k=>k≤la.length∧la.take k=lb.take k) (fun k=>la.length - k) 0 ⟨zl _,rfl⟩ ⟨⟨rfl,rfl,rfl,trivial⟩,trivial,rfl,rfl⟩ ?_;rintro k ⟨hk,he⟩;refine za (za ?_);refine zaa hX zbK rfl ?_ ?_
 ·trivial
 refine zae rfl (fun hb=>?_) (fun hb=>?_)
 ·have hb:decide ((k:Int) < ((la.length:Nat):Int))=true:=hb;have hb:=of_decide_eq_true hb;have hlt:k < la.length:=by omega
  have hlt2:k < lb.length:=by omega
  have z0:(0:Int)≤(k:Int):=by omega
  have z1:(k:Int) < ((la.length:Nat):Int):=by omega
  have z2:(k:Int) < ((lb.length:Nat):Int):=by omega
  have g1:la.getD (k:Int).toNat zNd=la[k]:=za4 hlt;have g2:lb.getD (k:Int).toNat zNd=lb[k]:=za4 hlt2;(repeat(first|apply zaf|apply zab|apply zac|apply zad));refine qx dM hX zbK 10 (by kernel_rfl) rfl rfl ?_ ?_ ?_
  ·repeat'(first|exact trivial|assumption|exact z0|exact z1|exact z2|(refine⟨?_,?_⟩)|(intro _)|exact zb rfl|exact zd _|(simp_all [allP];done))
  ·trivial
  refine zae rfl (fun hc=>?_) (fun hc=>?_)
  ·have hc:(!eqN (la.getD (k:Int).toNat zNd) (lb.getD (k:Int).toNat zNd))=true:=hc;rw[g1,g2,zu]at hc;have hc:=zhX.1 hc;(repeat(first|apply zaf|apply zab|apply zaj|apply zad|apply zac|refine zaa hX zbK rfl trivial ?_|refine zaa hX zbK rfl id ?_|refine zaa hX zbK rfl ⟨id,id⟩ ?_));refine zm ⟨.inr rfl,zat rfl trivial rfl rfl ?_⟩;refine (zhj.2 fun e=>hc ?_).symm;have e:la=lb:=e;subst e;rfl
  ·have hc:(!eqN (la.getD (k:Int).toNat zNd) (lb.getD (k:Int).toNat zNd))=false:=hc;rw[g1,g2,Bool.not_eq_false']at hc;have hc:=zlP.1 hc;apply zab;refine za (za ?_);refine zaa hX zbK rfl ?_ ?_
   ·exact zaG (by omega)
   refine⟨k+1,⟨hlt,?_⟩,by omega,⟨rfl,rfl,zci _,trivial⟩,trivial,rfl,rfl⟩;rw[zI hlt,zI hlt2,he,hc]
 ·have hb:decide ((k:Int) < ((la.length:Nat):Int))=false:=hb;have hb:=of_decide_eq_false hb;obtain rfl:k=la.length:=by omega
  (repeat(first|apply zaf|apply zab|apply zaj|apply zad|apply zac|refine zaa hX zbK rfl trivial ?_|refine zaa hX zbK rfl id ?_|refine zaa hX zbK rfl ⟨id,id⟩ ?_));refine zm ⟨.inr rfl,zat rfl trivial rfl rfl ?_⟩;refine (zet.2 ?_).symm;rw[xn,hlen,xn]at he;exact he
noncomputable def zhB (y:List UInt8):Bool:=(!zkC y [35])&&decide (zbL isWh y < y.length)
noncomputable def zie (y:List UInt8) (fr:Nat) (acc:List De):Except (Int×Int) (List De):=
 if zhB y=true then
  if 4000 < y.length then .error ((fr:Int),2)
  else match zgT y ((acc.length:Nat):Int) with
   | .ok d=>.ok (acc++ [d])
   | .error e=>if e.2=0 then .ok acc else .error ((fr:Int)+e.1,e.2)
 else .ok acc
noncomputable def libK:List (List UInt8)->Nat->List De->List De×Int×Int
 | [],_,acc=>(acc,0,0)
 |y::r,fr,acc=>match zie y fr acc with
  | .error e=>([],e.1,e.2)
  | .ok acc'=>libK r (fr+y.length+1) acc'
noncomputable def za6 (s:List UInt8):List De×Int×Int:=if 1048576 < s.length then ([],0,2) else libK (segs s) 0 []
def lPF:List (Nat×V):=[(2,⟨.hptr,((0:Nat),(0:Nat))⟩),(3,⟨.optr i64,⟨1,i64,.here⟩⟩),(4,⟨.optr i64,⟨2,i64,.here⟩⟩),(5,⟨.hptr,((3:Nat),(0:Nat))⟩),(6,⟨.optr i64,⟨4,i64,.here⟩⟩),(7,⟨.optr .str,⟨5,.str,.here⟩⟩)]
def lRE (at' e:Int):Owns:=[(0,some (.hbox tD [⟨.lit,.slice none 0 0⟩])),(1,some (.box i64 at')),(2,some (.box i64 e))]
def zlz (y:List UInt8) (fr:Nat) (e:Exit) (σ:AS):Except (Int×Int) (List De)->Prop
 | .ok acc'=>e= .normal∧Fit σ ⟨[],libE y ((fr+y.length+1:Nat):Int) acc',7⟩
 | .error er=>e= .ret∧Fit σ ⟨[],lRE er.1 er.2,7⟩
noncomputable def kLc:Kn:={ gmK with H:=[tD],C:=[(51,cPre),(52,zlV 53 isWh)] }
theorem zco:KnOk Tryz.prog gmH kLc:=⟨zgM,zgL,.cons zpP <| .cons zj5.lift .nil,zhN,RsOk.nil⟩
def zpW:Code->Option (Code×Code)
 | .rangeFunc _ _ a b=>some (a,b)
 | .seq x y=>match zpW x with
  |some r=>some r
  |none=>zpW y
 | .block _ c=>zpW c
 |_=>none
noncomputable def lBody:Code:=match zpW (Tryz.f19.body.getD .skip) with
 |some r=>r.2
 |none=>.skip
noncomputable def lAsgn:Code:=match zpW (Tryz.f19.body.getD .skip) with
 |some r=>r.1
 |none=>.skip
theorem zrt {w1:zk} {X:Ownr} {y:List UInt8} {fr:Nat} {acc:List De} (hy:y.length≤1100000) (hfr:fr≤1100000) (ha:acc.length≤1000000) (hX:X.Ok w1) (hG:X.G=gmH) (hK:X.K=5) (hinv:∀ ty,ginv w1 X.R ty) (her:∀ er,zgT y ((acc.length:Nat):Int)= .error er->0≤er.1∧er.1≤1100000):
 AWP Tryz.prog w1 X 47 lBody ⟨lPF,libE y (fr:Int) acc,7⟩ (fun e σ=>zlz y fr e σ (zie y fr acc)):=by
 obtain⟨G,O,K,fix,D,ρ,B⟩:=X;obtain rfl:G=gmH:=hG;obtain rfl:K=5:=hK;unfold lPF libE;apply zac;have hp1:y.length≤2000000∧([35]:List UInt8).length≤2000000:=⟨by omega,by decide⟩;apply zaf;refine xN (σ':=⟨[(2,⟨.hptr,((0:Nat),(0:Nat))⟩),(3,⟨.optr i64,⟨1,i64,.here⟩⟩),(4,⟨.optr i64,⟨2,i64,.here⟩⟩),(5,⟨.hptr,((3:Nat),(0:Nat))⟩),(6,⟨.optr i64,⟨4,i64,.here⟩⟩),(7,⟨.optr .str,⟨5,.str,.here⟩⟩),(25,⟨.bool,zhB y⟩)],libE y (fr:Int) acc,7⟩) ?_ ?_
 ·unfold libE;refine jH dM 10 rfl (by kernel_rfl) ?_;cases hq:zkC y [35] with
  |true=>
   have hl0:zhB y=false:=by unfold zhB;rw[hq];rfl
   have hb:(!zkC y [35])=false:=by rw[hq];rfl
   have hl2:(bif !zkC y [35] then false else false)=zhB y:=by rw[hl0,hb];rfl
   repeat'(first
    |exact jZ
    |refine jt ⟨_,rfl,?_⟩ ?_
    |refine xr hX zco rfl trivial ?_
    |refine xr hX zco rfl hp1 ?_
    |(refine StepA.guardF 3 19 true .bool false rfl rfl (zcv hb) rfl rfl rfl ?_)
    |refine xr hX zco rfl (by exact fun h=>hb.symm.trans h) ?_
    |(refine jN ?_;exact⟨⟨rfl,rfl,rfl,rfl,rfl,rfl,zcv hl2,trivial⟩,⟨rfl,rfl,rfl,rfl,rfl,rfl,rfl,trivial⟩,rfl,rfl⟩))
  |false=>
   have hb:(!zkC y [35])=true:=by rw[hq];rfl
   have hl1:(bif !zkC y [35] then decide (((zbL isWh y:Nat):Int) < ((y.length:Nat):Int)) else false)=zhB y:=by
    unfold zhB;rw[zct]
    congr 1
    exact decide_eq_decide.2 Int.ofNat_lt
   repeat'(first
    |exact jZ
    |refine jt ⟨_,rfl,?_⟩ ?_
    |refine StepA.guardT 3 19 true rfl rfl (zcv hb) rfl ?_
    |refine xr hX zco rfl trivial ?_
    |refine xr hX zco rfl hp1 ?_
    |refine xr hX zco rfl (by exact rfl) ?_
    |refine xr hX zco rfl (by exact fun h=>h) ?_
    |(refine jN ?_;exact⟨⟨rfl,rfl,rfl,rfl,rfl,rfl,zcv hl1,trivial⟩,⟨rfl,rfl,rfl,rfl,rfl,rfl,rfl,trivial⟩,rfl,rfl⟩))
 have hlen:((y.length:Nat):Int)≤1100000:=by omega
 have hfrl:((fr:Nat):Int)≤1100000:=by omega
 have q0:inR .i64 (((y.length:Nat):Int)+1):=zan (by omega) (by omega);have q1:inR .i64 ((fr:Int)+(((y.length:Nat):Int)+1)):=zan (by omega) (by omega);have hend:(fr:Int)+(((y.length:Nat):Int)+1)=((fr+y.length+1:Nat):Int):=by omega
 unfold libE;refine zae rfl (fun hb=>?_) (fun hb=>?_)
 ·have hb:zhB y=true:=hb;unfold zie;rw[if_pos hb];refine za (za ?_);refine zaa hX zco rfl ?_ ?_
  ·trivial
  refine zae rfl (fun hb=>?_) (fun hb=>?_)
  ·have hb:decide (((4000:Nat):Int) < ((y.length:Nat):Int))=true:=hb;have hb:=of_decide_eq_true hb;rw[if_pos (by omega)];refine xN (σ':=⟨[],lRE (fr:Int) 2,7⟩) ?_ ?_
   ·unfold lRE;refine jH dM 4 rfl (by kernel_rfl) ?_
    repeat'(first
     |exact jZ
     |refine jt ⟨_,rfl,?_⟩ ?_
     |refine xr hX zco rfl trivial ?_
     |(refine jN ?_;exact⟨trivial,⟨rfl,rfl,rfl,trivial⟩,rfl,rfl⟩))
   ·exact zm ⟨rfl,trivial,⟨rfl,rfl,rfl,trivial⟩,rfl,rfl⟩
  have hb:decide (((4000:Nat):Int) < ((y.length:Nat):Int))=false:=hb;have hb:=of_decide_eq_false hb;rw[if_neg (by omega)];apply zab;refine zaq (σ':=⟨lPF,libE y (fr:Int) acc,7⟩) ⟨⟨rfl,rfl,rfl,rfl,rfl,rfl,trivial⟩,⟨rfl,rfl,rfl,rfl,rfl,rfl,rfl,trivial⟩,rfl,rfl⟩ ?_;unfold lPF;(repeat(first|apply zaf|apply zab|apply zac|apply zad));refine zak ?_;refine AL.runClo hX 6 rfl rfl rfl rfl rfl rfl rfl rfl rfl rfl (by show 5≤6;omega) Tryz.func54 rfl rfl rfl rfl Tryz.call54 rfl rfl rfl (N:=NLib y (fr:Int) acc) (fun w2 X' h1 h2 h3 h4 h5 h6=>?_) (fun r σ hN=>?_)
  ·refine zru (by omega) ha h1 h2 h3 h4 h5 fun ty=>zaM (ty:=ty) hX rfl (hinv ty) _ _ h6 (by
    have:=h1.2.2 w2 (Kept.refl _ _);rwa[h2]at this)
  rcases hN with ⟨d,hd,rfl,hf⟩|⟨er,hd,rfl,hf⟩
  ·refine qN (σ':=⟨(32,⟨tupI,((0:Int),(0:Int),())⟩)::lPF,libE y (fr:Int) (acc++ [d]),7⟩) ⟨⟨rfl,rfl,rfl,rfl,rfl,rfl,rfl,trivial⟩,hf.e,rfl,rfl⟩ ?_;unfold lPF libE;refine zX hX zco rfl trivial ?_;refine za (za ?_);refine zaa hX zco rfl ?_ ?_
   ·trivial
   refine zae rfl (fun hb=>absurd (show false=true from hb) (by decide)) (fun _=>?_);apply zab;rw[hd];refine za (za ?_);refine zaa hX zco rfl ?_ ?_
   ·exact⟨q0,q1⟩
   exact⟨rfl,trivial,⟨rfl,rfl,rfl,rfl,zf0 hend,rfl,rfl,trivial⟩,rfl,rfl⟩
  ·refine qN (σ':=⟨(32,⟨tupI,(er.1,er.2,())⟩)::lPF,libE y (fr:Int) acc,7⟩) ⟨⟨rfl,rfl,rfl,rfl,rfl,rfl,rfl,trivial⟩,hf.e,rfl,rfl⟩ ?_;obtain⟨her0,her1⟩:=her er hd;have q2:inR .i64 ((fr:Int)+er.1):=zan (by omega) (by omega);unfold lPF libE;refine zX hX zco rfl trivial ?_;refine za (za ?_);refine zaa hX zco rfl ?_ ?_
   ·trivial
   rw[hd];refine zae rfl (fun hb=>?_) (fun hb=>?_)
   ·have hb:(er.2 != 0)=true:=hb;have hb:er.2≠0:=bne_iff_ne.1 hb;show AWP _ _ _ _ _ _ (zj1 _ _);refine xN (σ':=⟨[],lRE ((fr:Int)+er.1) er.2,7⟩) ?_ ?_
    ·unfold lRE;refine jH dM 7 rfl (by kernel_rfl) ?_
     repeat'(first
      |exact jZ
      |refine jt ⟨_,rfl,?_⟩ ?_
      |refine xr hX zco rfl trivial ?_
      |refine xr hX zco rfl q2 ?_
      |(refine jN ?_;exact⟨trivial,⟨rfl,rfl,rfl,trivial⟩,rfl,rfl⟩))
    ·refine zm ?_;show zlz y fr .ret _ (if er.2=0 then .ok acc else .error ((fr:Int)+er.1,er.2));rw[if_neg hb];exact⟨rfl,trivial,⟨rfl,rfl,rfl,trivial⟩,rfl,rfl⟩
   ·have hb:(er.2 != 0)=false:=hb;have hb:er.2=0:=by
     by_cases h:er.2=0
     ·exact h
     ·rw[bne_iff_ne.2 h]at hb;cases hb
    apply zab;refine za (za ?_);refine zaa hX zco rfl ?_ ?_
    ·exact⟨q0,q1⟩
    show zlz y fr .normal _ (if er.2=0 then .ok acc else .error ((fr:Int)+er.1,er.2));rw[if_pos hb];exact⟨rfl,trivial,⟨rfl,rfl,rfl,rfl,zf0 hend,rfl,rfl,trivial⟩,rfl,rfl⟩
 ·have hb:zhB y=false:=hb;unfold zie;rw[if_neg (by rw[hb];decide)];apply zab;refine za (za ?_);refine zaa hX zco rfl ?_ ?_
  ·exact⟨q0,q1⟩
  exact⟨rfl,trivial,⟨rfl,rfl,rfl,rfl,zf0 hend,rfl,rfl,trivial⟩,rfl,rfl⟩
section
attribute [local go_sem] j0
def zic:List (List UInt8)->Nat
 | []=>0
 |g::r=>g.length+1+zic r
theorem zf7:∀ (s c:List UInt8),zic (segF c s)=c.length+s.length+1
 | [],c=>by unfold segF zic zic;simp
 |x::r,c=>by
  unfold segF;split
  ·rw[zic,zf7 r []];simp;omega
  ·rw[zf7 r];simp;omega
theorem znd (s:List UInt8):zic (segs s)=s.length+1:=by rw[segs,zf7];simp
theorem zov (y:List UInt8):GOk y (zbm y,0):=by
 have:=zg6 (s:=y);unfold zil at this;rwa[zmb]at this
theorem zmt {y:List UInt8} {k:Int} {er:Int×Int} (h:zgT y k= .error er):0≤er.1∧er.1≤((y.length:Nat):Int):=by
 have hg:=zov y;have he:Er y (gDef y (zbm y,0) k):=zaB (zcg hg) fun u hu=>zaB (zcg hg) fun _ _=>by
  have hc:=zbS hu;rw[beq_iff_eq]at hc;have k1:=zcD hg (by show Tok.cls (zbm y,(0:Int)).1≠0;rw[hc];decide);exact zaB (zeH k1.1) fun a ha=>zaB (zuc (zby k1.1 ha).1) fun _ _=>zdp
 unfold zgT at h;cases hd:gDef y (zbm y,0) k with
 |ok r=>rw[hd]at h;cases h
 |error e=>
  rw[hd]at h;cases h;exact he _ hd
theorem zpl {y:List UInt8} {k:Nat} {d:De} (h:zgT y (k:Int)= .ok d):k < 4096:=by
 unfold zgT at h;cases hd:gDef y (zbm y,0) (k:Int) with
 |error e=>rw[hd]at h;cases h
 |ok r=>
  obtain⟨u,_,h2⟩:=zar hd;obtain⟨u2,h3,_⟩:=zar h2;have h3:=zbS h3;rw[zf,decide_eq_true_iff,decide_eq_true_iff]at h3;omega
theorem zod {y:List UInt8} {fr:Nat} {acc acc':List De} (ha:acc.length≤4096) (h:zie y fr acc= .ok acc'):acc'.length≤4096:=by
 unfold zie at h;split at h
 ·split at h
  ·cases h
  ·split at h
   ·rename_i d hd;cases h;have:=zpl hd;rw[zg,yv];omega
   ·split at h
    ·cases h;exact ha
    ·cases h
 ·cases h;exact ha
abbrev XL (O:Nat->Prop) (fix:Nat->Nat) (D:List je) (ρ:Option Nat):Ownr:={ G:=gmH,X:=O,K:=5,fix:=fix,D:=D,ρ:=ρ }
def sLE (fr:Nat) (acc:List De):Owns:=[(0,some (.hbox tD [⟨.lit,.slice none 0 0⟩])),(1,some (.box i64 (0:Int))),(2,some (.box i64 (0:Int))),(3,some (zoF 5)),(4,some (.box i64 (fr:Int))),(5,some (.buf 37 de acc))]
def lPF0:List (Nat×V):=[(2,⟨.hptr,((0:Nat),(0:Nat))⟩),(3,⟨.optr i64,⟨1,i64,.here⟩⟩),(4,⟨.optr i64,⟨2,i64,.here⟩⟩),(5,⟨.hptr,((3:Nat),(0:Nat))⟩),(6,⟨.optr i64,⟨4,i64,.here⟩⟩)]
def lRn:List (Nat×Nat):=[(0,0),(1,1),(2,2),(3,3),(4,4),(6,5),(5,6)]
theorem zpz {B:zk} {O:Nat->Prop} {fix:Nat->Nat} {D:List je} {ρ:Option Nat} (hX:(XL O fix D ρ).Ok B) (y:List UInt8) (fr:Nat) (acc:List De):
 AWP Tryz.prog B (XL O fix D ρ) 47 lAsgn ⟨(15,⟨.str,y⟩)::lPF0,sLE fr acc,6⟩ (fun e σ=>e= .normal∧Fit σ ⟨(2,⟨.hptr,((0:Nat),(0:Nat))⟩)::(3,⟨.optr i64,⟨1,i64,.here⟩⟩)::(4,⟨.optr i64,⟨2,i64,.here⟩⟩)::(5,⟨.hptr,((3:Nat),(0:Nat))⟩)::(6,⟨.optr i64,⟨4,i64,.here⟩⟩):: [(7,⟨.optr .str,⟨6,.str,.here⟩⟩)],(6,some (.box .str y))::sLE fr acc,7⟩):=by
 unfold lPF0 sLE;refine za (za ?_);refine zaa hX zco rfl ?_ ?_
 ·trivial
 exact⟨rfl,⟨rfl,rfl,rfl,rfl,rfl,rfl,trivial⟩,⟨rfl,rfl,rfl,rfl,rfl,rfl,rfl,trivial⟩,rfl,rfl⟩
noncomputable def lTail:Code:=match Tryz.f19.body.getD .skip with
 | .seq _ (.seq _ (.seq _ (.seq _ (.seq _ t))))=>t
 |c=>c
def sLT (acc:List De):AS:=⟨[(2,⟨.hptr,((0:Nat),(0:Nat))⟩),(3,⟨.optr i64,⟨1,i64,.here⟩⟩),(4,⟨.optr i64,⟨2,i64,.here⟩⟩)],[(0,some (.hbox tD [⟨.slice de,acc⟩])),(1,some (.box i64 (0:Int))),(2,some (.box i64 (0:Int)))],6⟩
theorem zpg {B:zk} {O:Nat->Prop} {fix:Nat->Nat} {D:List je} (hX:(XL O fix D none).Ok B) (fr:Nat) (acc:List De):
 AWP Tryz.prog B (XL O fix D none) 47 lTail ⟨lPF0,sLE fr acc,6⟩ (fun e σ=>e= .ret∧Fit σ (sLT acc)):=by
 unfold lPF0 sLE sLT;refine AWP.frzL hX 3 0 ?_;(repeat(first|apply zaf|apply zab|apply zaj|apply zad|apply zac|refine zaa hX zco rfl trivial ?_|refine zaa hX zco rfl id ?_|refine zaa hX zco rfl ⟨id,id⟩ ?_));exact zm ⟨rfl,⟨rfl,rfl,rfl,trivial⟩,⟨rfl,rfl,rfl,trivial⟩,rfl,rfl⟩
section
variable {B W:zk} {X:Ownr} {n:Nat} {σ:AS} {β:Nat->zi} {a:Act}
theorem zmZ (h:Sim B X n σ β a W) {i:Nat} (hi:i < X.K) {t:Ty} {x:t.T} (hE:Owns.get σ.E i=some (.box t x)):∃ cs ty,W.heap[X.fix i]? =some (.cells (List.toArray cs) ty (0,0))∧RepC W (OSet X σ.E β) t x cs:=by
 obtain⟨g,cs,ty,q1,_,q2,q3⟩:=h.own i _ hE;have q4:=(h.fix.2 i hi).1;rw[q1]at q4;have q4:g=X.fix i:=by simpa [zah] using q4
 subst q4;exact⟨cs,ty,q2,q3⟩
theorem zpO (h:Sim B X n σ β a W) {i:Nat} (hi:i < X.K) {v:V} {ty:zq} (hE:Owns.get σ.E i=some (.hbox ty [v])):∃ u,W.heap[X.fix i]? =some (.cells #[u] ty (0,0))∧u.oneCell'=true∧RepV W (OSet X σ.E β) β v.t v.x u:=by
 obtain⟨g,cs,q1,_,q2,u,r,rfl,q5,q6,q7⟩:=h.own i _ hE;have q7:r=[]:=q7;subst q7;have q4:=(h.fix.2 i hi).1;rw[q1]at q4;have q4:g=X.fix i:=by simpa [zah] using q4
 subst q4;exact⟨u,q2,q5,q6⟩
theorem zne {B A C:zk} {X X':Ownr} {n n':Nat} {σ σ':AS} {β β':Nat->zi} {a a':Act} {I:Nat->Prop} (h:Sim B X n σ β a A) (h':Sim B X' n' σ' β' a' C) (hR:∀ g,X'.R g->X.R g) (hX:X.Ok B) (hI:∀ g,I g->X g):SameOn I B.heap.size A C:=
 ⟨h'.bel.os.trans h.bel.os.symm,h'.bel.tape.trans h.bel.tape.symm,h'.bel.output.trans h.bel.output.symm,h'.bel.size,fun k hk=>
   have hx:=hX.1 k (hI k hk)
   (h'.bel.block k hx.1 fun hr=>hx.2 (hR k hr)).trans (h.bel.block k hx.1 hx.2).symm⟩
end
def zpC (a:Act) (x:zi):Act:={ tmps:=((#[15]:Array Tmp).zip #[x]).foldl (fun t (p,v)=>t.setIfInBounds p v) a.tmps,defers:=[] }
theorem zdZ {a:Act} {x:zi} (hsz:a.tmps.size=47) (s:Nat):(zpC a x).tmps.getD s undef=if 15=s then x else a.tmps.getD s undef:=by
 have:(zpC a x).tmps=a.tmps.setIfInBounds 15 x:=by simp[zpC]
 rw[this];by_cases h:15=s
 ·subst h;rw[if_pos rfl];simp[zQ,xS,hsz]
 ·rw[if_neg h];simp[zQ,xS,h]
def nA:Act:={ tmps:=#[],defers:=[] }
section
variable {w w5:zk} {O:Nat->Prop} {N:Nat} {s:List UInt8} {t0 t1 t2 t3 t4:zq} {a5:Act}
def lI (N D:Nat) (g:Nat):Prop:=itI (N+5) (N+6) (N+7) g∨g=D∨g=D+1
def lO (O:Nat->Prop) (N D:Nat) (g:Nat):Prop:=O g∨lI N D g
def lFix (N:Nat) (i:Nat):Nat:=N+i
def lBB (w5:zk) (N:Nat) (B:zk):Prop:=B.heap.size=w5.heap.size+2∧Kept (lI N w5.heap.size) w5 B
theorem lR {N:Nat} {O':Nat->Prop} {D:List je} {ρ:Option Nat} {g:Nat} (h:(XL O' (lFix N) D ρ).R g):N≤g∧g≤N+4:=by
 rcases h with ⟨i,hi,rfl⟩|h
 ·have hi:i < 5:=hi;show N≤N+i∧N+i≤N+4;omega
 ·exact False.elim h
theorem zpB (hN:N=w.heap.size) (hs5:w5.heap.size=N+8) (hb5:yZ w.heap.size w w5) {B:zk} (h:lBB w5 N B):yZ w.heap.size w B:=
 ⟨h.2.os.trans hb5.os,h.2.tape.trans hb5.tape,h.2.output.trans hb5.output,zH hb5.size h.2.size,fun k hk=>(h.2.block k (zM hk hb5.size) (by unfold lI itI;omega)).trans (hb5.block k hk)⟩
theorem zlF (hN:N=w.heap.size) (hs5:w5.heap.size=N+8) (hb5:yZ w.heap.size w w5) {B W:zk} (h:lBB w5 N B) {O':Nat->Prop} {D:List je} {ρ:Option Nat} (hk:Kept (XL O' (lFix N) D ρ).R B W):yZ w.heap.size w W:=
 have hb:=zpB hN hs5 hb5 h
 ⟨hk.os.trans hb.os,hk.tape.trans hb.tape,hk.output.trans hb.output,zH hb.size hk.size,fun k hkl=>(hk.block k (zM hkl hb.size) fun hr=>by have:=(lR hr).1;omega).trans (hb.block k hkl)⟩
theorem lX_ok (hN:N=w.heap.size) (hO:∀ g,O g->g < w.heap.size) (hG:gmH w) (hs5:w5.heap.size=N+8) (hb5:yZ w.heap.size w w5) {B:zk} (h:lBB w5 N B) (D:List je) (ρ:Option Nat):(XL (lO O N w5.heap.size) (lFix N) D ρ).Ok B:=by
 have hs:=h.1;refine⟨fun g hg=>?_,fun g hg=>?_,fun w' hk=>zhN _ _ hG (zlF hN hs5 hb5 h hk)⟩
 ·have hg:O g∨(g=N+5∨g=N+6∨g=N+7)∨g=w5.heap.size∨g=w5.heap.size+1:=hg;refine⟨?_,fun hr=>?_⟩
  ·rcases hg with h1|h1
   ·have:=hO g h1;omega
   ·omega
  ·have:=lR hr;rcases hg with h1|h1
   ·have:=hO g h1;omega
   ·omega
 ·have:=lR hg;omega
theorem lX_inv (hN:N=w.heap.size) (hG:gmH w) {O':Nat->Prop} {D:List je} {ρ:Option Nat} {B:zk} (ty:zq):ginv B (XL O' (lFix N) D ρ).R ty:=by
 have hl:=zmD hG;exact⟨fun h=>by have:=lR h;omega,fun h=>by have:=lR h;omega⟩
def lJ (w5:zk) (O:Nat->Prop) (N:Nat) (s:List UInt8) (k:Nat) (W:zk):Prop:=∃ (B:zk) (β:Nat->zi) (acc:List De) (fr:Nat),lBB w5 N B∧Sim B (XL (lO O N w5.heap.size) (lFix N) [] none) 0 ⟨[],sLE fr acc,6⟩ β nA W∧acc.length≤4096∧k≤(segs s).length∧fr+zic ((segs s).drop k)≤s.length+1∧libK ((segs s).drop k) fr acc=za6 s
def lN (w5:zk) (O:Nat->Prop) (N:Nat) (s:List UInt8) (k:Nat) (y:List UInt8) (a':Act) (W:zk):Prop:=∃ (B:zk) (β:Nat->zi) (acc:List De) (fr:Nat),lBB w5 N B∧Sim B (XL (lO O N w5.heap.size) (lFix N) [] none) 47 ⟨lPF,libE y (fr:Int) acc,7⟩ β a' W∧acc.length≤4096∧k≤(segs s).length∧fr+zic ((segs s).drop k)≤s.length+1∧libK ((segs s).drop k) fr acc=za6 s
def lJr (w5:zk) (O:Nat->Prop) (N:Nat) (s:List UInt8) (W:zk):Prop:=∃ (er:Int×Int) (B:zk) (β:Nat->zi),za6 s=([],er.1,er.2)∧lBB w5 N B∧Sim B (XL (lO O N w5.heap.size) (lFix N) [] none) 0 ⟨[],lRE er.1 er.2,7⟩ β nA W
theorem zpm {tmps:Array zi} {g2 g3 g4:Nat} {W:zk} {u:zi} {x y:Int} {t2 t3 t4:zq} (hu:u.oneCell'=true) (h2:tmps.getD 2 undef= .pointer (some ⟨g2,0,none⟩)) (h3:tmps.getD 3 undef= .pointer (some ⟨g3,0,none⟩)) (h4:tmps.getD 4 undef= .pointer (some ⟨g4,0,none⟩))
 (c2:W.heap[g2]? =some (.cells #[u] t2 (0,0))) (c3:W.heap[g3]? =some (.cells #[.int .i64 x] t3 (0,0))) (c4:W.heap[g4]? =some (.cells #[.int .i64 y] t4 (0,0))):
 (results Tryz.f19 tmps).run Tryz.prog W= .ok (.tuple #[u,.int .i64 x,.int .i64 y]) W:=by
 have d2:=(zaY c2).1;have d3:=(zaY c3).1;have d4:=(zaY c4).1;rw[zQ]at h2 h3 h4;simp[results,Tryz.f19,go_sem,h2,h3,h4,d2,d3,d4]
abbrev zsZ:Ty:=.tup (.slice de) (.tup i64 (.tup i64 .unit))
theorem zoM {w:zk} {O:Nat->Prop} {acc:List De} {x y:Int} {u:zi} (hu:RepD w O (.slice de) acc u):zdH w O 0 none zsZ (acc,x,y,()) (.tuple #[u,.int .i64 x,.int .i64 y]):=fun β=>
 ⟨[_,_,_],rfl,_,_,rfl,hu,_,_,rfl,rfl,_,_,rfl,rfl,rfl⟩
def ldco (D:Nat):je:={ target:=.collected D,args:=#[] }
def znX (w:zk) (O:Nat->Prop) (r:List De×Int×Int) (e:Ending) (w':zk):Prop:=∃ v,e= .returned v∧yZ w.heap.size w w'∧zdH w' O w.heap.size none zsZ (r.1,r.2.1,r.2.2,()) v
theorem lfin {W:zk} {O':Nat->Prop} {tmps:Array zi} {D:Nat} {u:zi} {x y:Int} {acc:List De} (hN:N=w.heap.size) (hO:∀ g,O g->O' g) (hD:O' D) (hlt:N+2 < D) (hbel:yZ w.heap.size w W) (hd:W.heap[D]? =some (.deferred (some []))) (hu:u.oneCell'=true) (h2:tmps.getD 2 undef= .pointer (some ⟨N,0,none⟩)) (h3:tmps.getD 3 undef= .pointer (some ⟨N+1,0,none⟩)) (h4:tmps.getD 4 undef= .pointer (some ⟨N+2,0,none⟩))
 (c2:W.heap[N]? =some (.cells #[u] t2 (0,0))) (c3:W.heap[N+1]? =some (.cells #[.int .i64 x] t3 (0,0))) (c4:W.heap[N+2]? =some (.cells #[.int .i64 y] t4 (0,0))) (hr:RepD W O' (.slice de) acc u):
 LeavesInM yF 1 Tryz.prog Tryz.f19 tmps (znX w O (acc,x,y)) [ldco D] .returning W:=by
 refine⟨(by intro h;cases h),.inl ⟨D,_,rfl,run_takeDeferred hd,?_⟩⟩;have hk:Kept (fun g=>g=D) W (W.putObj D (.deferred none)):=zc1 _ rfl;have hlD:=(zp.1 hd).1;have hl:∀ g (o:Obj),W.heap[g]? =some o->g≠D->(W.putObj D (.deferred none)).heap[g]? =some o:=fun g o hg hne=>(hk.block g (zp.1 hg).1 hne).trans hg;refine⟨_,zpm hu h2 h3 h4 (hl _ _ c2 (by omega)) (hl _ _ c3 (by omega)) (hl _ _ c4 (by omega)),_,rfl,?_,?_⟩
 ·refine⟨hk.os.trans hbel.os,hk.tape.trans hbel.tape,hk.output.trans hbel.output,zH hbel.size hk.size,fun k hkl=>?_⟩;have h1:k < W.heap.size:=zM hkl hbel.size;exact (hk.block k h1 (by omega)).trans (hbel.block k hkl)
 ·exact zoM (RepD.keep ⟨hk.size,fun g hg hn=>hk.block g hg fun e=>hn (e▸hD),fun g _ hg=>hO g hg⟩ hr)
end
end
section
attribute [local go_sem] j0
section
variable {w w5:zk} {O:Nat->Prop} {N:Nat} {s:List UInt8} {t0 t1 t2 t3 t4:zq} {a5:Act}
theorem zjb {B W:zk} {O':Nat->Prop} {D:List je} {ρ:Option Nat} {n:Nat} {σ:AS} {β:Nat->zi} {a:Act} (h:Sim B (XL O' (lFix N) D ρ) n σ β a W) {E:Owns} {m:Nat} (hf:Fit σ ⟨[],E,m⟩) (hm:5≤m):Sim B (XL O' (lFix N) [] none) 0 ⟨[],E,m⟩ β nA W:=
 (h.fit hf hm).act (X':=XL O' (lFix N) [] none) (a':=nA) rfl rfl rfl rfl rfl (F:=[]) zga rfl
theorem zpo {y:List UInt8} {r:List (List UInt8)} {fr:Nat} {acc:List De}:libK (y::r) fr acc=match zie y fr acc with
 | .error e=>([],e.1,e.2)
 | .ok acc'=>libK r (fr+y.length+1) acc':=rfl
set_option maxHeartbeats 1000000 in
theorem zpn (hN:N=w.heap.size) (hO:∀ g,O g->g < w.heap.size) (hG:gmH w) (hlen:s.length≤1048576) (hs5:w5.heap.size=N+8) (hb5:yZ w.heap.size w w5)
 (b0:w5.heap[N]? =some (.cells #[.slice none 0 0] tD (0,0))) (b1:w5.heap[N+1]? =some (.cells #[.int .i64 0] t1 (0,0))) (b2:w5.heap[N+2]? =some (.cells #[.int .i64 0] t2 (0,0))) (b3:w5.heap[N+3]? =some (.cells #[.slice none 0 0] tD (0,0))) (b4:w5.heap[N+4]? =some (.cells #[.int .i64 0] t4 (0,0)))
 (i0:w5.heap[N+5]? =some (.cells #[.string ⟨s.toArray⟩] 9 (0,0))) (i1:w5.heap[N+6]? =some (.cells #[.string ⟨#[10]⟩] 9 (0,0))) (i2:w5.heap[N+7]? =some (.cells #[.int .i64 0] 3 (0,0)))
 (hsz:a5.tmps.size=47) (e2:a5.tmps.getD 2 undef= .pointer (some ⟨N,0,none⟩)) (e3:a5.tmps.getD 3 undef= .pointer (some ⟨N+1,0,none⟩)) (e4:a5.tmps.getD 4 undef= .pointer (some ⟨N+2,0,none⟩)) (e5:a5.tmps.getD 5 undef= .pointer (some ⟨N+3,0,none⟩)) (e6:a5.tmps.getD 6 undef= .pointer (some ⟨N+4,0,none⟩))
 (e14:a5.eval (.tmp 14)= .func (.func 145) #[] #[.pointer (some ⟨N+6,0,none⟩),.pointer (some ⟨N+5,0,none⟩),.pointer (some ⟨N+7,0,none⟩)]) (hdf:a5.defers=[]):
 zf4 Tryz.prog 19 (.rangeFunc (.tmp 14) #[15] lAsgn lBody) (fun e a w'=>(e= .normal∨e= .ret)∧Exit.then (zf4 Tryz.prog 19 lTail (bodyPostM yF 1 Tryz.prog Tryz.f19 (znX w O (za6 s)))) (bodyPostM yF 1 Tryz.prog Tryz.f19 (znX w O (za6 s))) e a w') a5 w5:=by
 have hP:za6 s=libK (segs s) 0 []:=if_neg (by omega);have hXok:∀ B D ρ,lBB w5 N B->(XL (lO O N w5.heap.size) (lFix N) D ρ).Ok B:=fun B D ρ h=>lX_ok hN hO hG hs5 hb5 h D ρ;have hsame:∀ {B A C:zk} {ρ ρ':Option Nat} {D D':List je} {n n':Nat} {σ σ':AS} {β β':Nat->zi} {a a':Act},lBB w5 N B->Sim B (XL (lO O N w5.heap.size) (lFix N) D ρ) n σ β a A->Sim B (XL (lO O N w5.heap.size) (lFix N) D' ρ') n' σ' β' a' C->SameOn (lI N w5.heap.size) (w5.heap.size+2) A C:=fun hBB h h'=>by
  have:=zne h h' (fun g hr=>hr) (hXok _ _ _ hBB) (I:=lI N w5.heap.size) (fun g hg=>.inr hg);rwa[hBB.1]at this
 refine zib (m:=1) e14 Tryz.call145 (zlj (N+5) (N+6) (N+7) s w5 (by omega) (by omega) i0 i1 i2) (zR _ _) ?_ (lJ w5 O N s) (lJr w5 O N s) (lN w5 O N s) ?_ ?_ ?_ ?_ ?_ ?_ ?_ ?_
 ·intro k hk;have hk:k=N+5∨k=N+6∨k=N+7:=hk;omega
 ·rintro k A C ⟨B,β,acc,fr,hBB,hS,h1,h2,h3,h4⟩ hk;obtain⟨B',hs',hk',hS'⟩:=hS.outside (hXok _ _ _ hBB) (I:=lI N w5.heap.size) (fun g hg=>.inr hg) hk;exact⟨B',β,acc,fr,⟨hs'.trans hBB.1,hBB.2.trans hk'⟩,hS',h1,h2,h3,h4⟩
 ·rintro A C ⟨er,B,β,hpe,hBB,hS⟩ hk;obtain⟨B',hs',hk',hS'⟩:=hS.outside (hXok _ _ _ hBB) (I:=lI N w5.heap.size) (fun g hg=>.inr hg) hk;exact⟨er,B',β,hpe,⟨hs'.trans hBB.1,hBB.2.trans hk'⟩,hS'⟩
 ·rintro k y a' A C ⟨B,β,acc,fr,hBB,hS,h1,h2,h3,h4⟩ hk;obtain⟨B',hs',hk',hS'⟩:=hS.outside (hXok _ _ _ hBB) (I:=lI N w5.heap.size) (fun g hg=>.inr hg) hk;exact⟨B',β,acc,fr,⟨hs'.trans hBB.1,hBB.2.trans hk'⟩,hS',h1,h2,h3,h4⟩
 ·intro W1 hb hs1;have hBB:lBB w5 N W1:=⟨hs1,⟨hb.os,hb.tape,hb.output,hb.size,fun k hk _=>hb.block k hk⟩⟩;have hl:∀ g (o:Obj),w5.heap[g]? =some o->W1.heap[g]? =some o:=fun g o hg=>(hb.block g (zp.1 hg).1).trans hg
  let β:Nat->zi:=fun i=>.pointer (some ⟨lFix N i,0,none⟩)
  have hS0:Sim W1 (XL (lO O N w5.heap.size) (lFix N) [] none) 0 ⟨[],[(0,some (.hbox tD [⟨.lit,.slice none 0 0⟩])),(1,some (.box i64 (0:Int))),(2,some (.box i64 (0:Int))),(3,some (.hbox tD [⟨.lit,.slice none 0 0⟩])),(4,some (.box i64 (0:Int)))],5⟩ β nA W1:=by
   refine Sim.boxes (X:=XL (lO O N w5.heap.size) (lFix N) [] none) rfl rfl (fun i _=>rfl) ?_ ?_ zga rfl
   ·intro i j hi hj hij;have hij:N+i=N+j:=hij;omega
   ·intro i o h;rw[zag]at h;split at h
    ·rename_i hi;subst hi;cases h;exact⟨by show 0 < 5;omega,rfl,⟨N,[_],rfl,zl _,hl _ _ b0,_,[],rfl,rfl,rfl,rfl⟩,fun vs e v hv=>by cases e;rw[zv]at hv;subst hv;exact zl _⟩
    rw[zag]at h;split at h
    ·rename_i _ hi;subst hi;cases h;exact⟨by show 1 < 5;omega,rfl,⟨N+1,[_],_,rfl,zl _,hl _ _ b1,rfl⟩,fun vs e=>by cases e⟩
    rw[zag]at h;split at h
    ·rename_i _ _ hi;subst hi;cases h;exact⟨by show 2 < 5;omega,rfl,⟨N+2,[_],_,rfl,zl _,hl _ _ b2,rfl⟩,fun vs e=>by cases e⟩
    rw[zag]at h;split at h
    ·rename_i _ _ _ hi;subst hi;cases h;exact⟨by show 3 < 5;omega,rfl,⟨N+3,[_],rfl,zl _,hl _ _ b3,_,[],rfl,rfl,rfl,rfl⟩,fun vs e v hv=>by cases e;rw[zv]at hv;subst hv;exact zl _⟩
    rw[zag]at h;split at h
    ·rename_i _ _ _ _ hi;subst hi;cases h;exact⟨by show 4 < 5;omega,rfl,⟨N+4,[_],_,rfl,zl _,hl _ _ b4,rfl⟩,fun vs e=>by cases e⟩
    ·cases h
  obtain⟨β',hS1⟩:=kW 3 0 37 de rfl rfl rfl _ _ _ hS0;refine⟨W1,β',[],0,hBB,zjb hS1 ⟨trivial,⟨rfl,rfl,rfl,rfl,rfl,rfl,trivial⟩,rfl,rfl⟩ (by omega),by simp,zl _,?_,hP.symm⟩;rw[List.drop_zero,znd];omega
 ·rintro l k y W ⟨B,β,acc,fr,hBB,hS,h1,h2,h3,h4⟩ hy hsz2;obtain⟨hkl,hyk⟩:=zE.1 hy;have hd:(segs s).drop k=y::(segs s).drop (k+1):=by rw[<-hyk];exact yS hkl
  have h3':=h3;rw[hd,zic]at h3';have hb:=fun k (hk:k < 5)=>(hS.fix.2 k hk).1;have hsim:=hS.act (X':=XL (lO O N w5.heap.size) (lFix N) [] (some l)) (m:=47) (a':=zpC a5 (.string ⟨y.toArray⟩)) rfl rfl rfl (by simp[zpC,hsz]) rfl (F:=(15,⟨.str,y⟩)::lPF0) (zbJ (by rw[zdZ hsz];exact⟨rfl,by show y.length≤maxLen;unfold maxLen;omega⟩) (zbJ ⟨_,hb 0 (by omega),by rw[zdZ hsz];exact e2⟩ (zbJ ⟨_,hb 1 (by omega),by rw[zdZ hsz];exact e3⟩ (zbJ ⟨_,hb 2 (by omega),by rw[zdZ hsz];exact e4⟩ (zbJ ⟨_,hb 3 (by omega),by rw[zdZ hsz];exact e5⟩ (zbJ ⟨_,hb 4 (by omega),by rw[zdZ hsz];exact e6⟩ zga)))))) rfl;refine yV (zpz (hXok B [] (some l) hBB) y fr acc β _ W hsim) ?_;rintro e a' W' ⟨σ',β',h',rfl,hf⟩;have hso:=hsame hBB hS h';have h6:=h'.fit hf (by show 5≤7;omega);have h7:=h6.renameK (L:=lRn) (m:=7) rfl rfl (by show 5≤7;omega) rfl rfl;refine⟨rfl,⟨B,_,acc,fr,hBB,(h7.fit (σ':=⟨lPF,libE y (fr:Int) acc,7⟩) ⟨⟨rfl,rfl,rfl,rfl,rfl,rfl,trivial⟩,⟨rfl,rfl,rfl,rfl,rfl,rfl,rfl,trivial⟩,rfl,rfl⟩ (by show 5≤7;omega)).act (X':=XL (lO O N w5.heap.size) (lFix N) [] none) rfl rfl rfl h7.sz h7.df (fun sl=>(h7.fit (σ':=⟨lPF,libE y (fr:Int) acc,7⟩) ⟨⟨rfl,rfl,rfl,rfl,rfl,rfl,trivial⟩,⟨rfl,rfl,rfl,rfl,rfl,rfl,rfl,trivial⟩,rfl,rfl⟩ (by show 5≤7;omega)).fr sl) rfl,h1,h2,h3,h4⟩,hso⟩
 ·rintro l k y W a' hy hsz2 ⟨B,β,acc,fr,hBB,hS,h1,h2,h3,h4⟩;obtain⟨hkl,hyk⟩:=zE.1 hy;have hd:(segs s).drop k=y::(segs s).drop (k+1):=by rw[<-hyk];exact yS hkl
  rw[hd,zic]at h3;rw[hd,zpo]at h4;have hsim:=hS.act (X':=XL (lO O N w5.heap.size) (lFix N) [] (some l)) rfl rfl rfl hS.sz hS.df hS.fr rfl;refine yV (zrt (by omega) (by omega) (by omega) (hXok B [] (some l) hBB) rfl rfl (fun ty=>lX_inv hN hG ty) (fun er he=>⟨(zmt he).1,by have:=(zmt he).2;omega⟩) β _ W hsim) ?_;rintro e a3 W' ⟨σ',β',h',hR⟩;have hso:=hsame hBB hS h';refine⟨?_,hso⟩;cases hst:zie y fr acc with
  |error er=>
   rw[hst]at hR h4;obtain⟨rfl,hf⟩:=hR;exact .inr ⟨rfl,er,B,β',h4.symm,hBB,zjb h' hf (by omega)⟩
  |ok acc'=>
   rw[hst]at hR h4;obtain⟨rfl,hf⟩:=hR;have h6:=(h'.fit hf (by show 5≤7;omega)).fit (σ':=⟨[],[(0,some (.hbox tD [⟨.lit,.slice none 0 0⟩])),(1,some (.box i64 (0:Int))),(2,some (.box i64 (0:Int))),(3,some (zoF 6)),(4,some (.box i64 ((fr+y.length+1:Nat):Int))),(6,some (.buf 37 de acc'))],7⟩) ⟨trivial,⟨rfl,rfl,rfl,rfl,rfl,rfl,trivial⟩,rfl,rfl⟩ (by show 5≤7;omega);have h7:=h6.renameK (L:=lRn) (m:=6) rfl rfl (by show 5≤6;omega) rfl rfl;exact .inl ⟨rfl,B,_,acc',fr+y.length+1,hBB,zjb h7 ⟨trivial,⟨rfl,rfl,rfl,rfl,rfl,rfl,trivial⟩,rfl,rfl⟩ (by omega),zod h1 hst,hkl,by omega,h4⟩
 ·rintro W ⟨B,β,acc,fr,hBB,hS,h1,h2,h3,h4⟩ hdef;refine⟨.inl rfl,?_⟩;rw[jQ]at h4;have h4:(acc,(0:Int),(0:Int))=za6 s:=h4;have hb:=fun k (hk:k < 5)=>(hS.fix.2 k hk).1;have hsim:=hS.act (X':=XL (lO O N w5.heap.size) (lFix N) [ldco w5.heap.size] none) (m:=47) (a':={ a5 with defers:={ target:=.collected w5.heap.size,args:=#[] }::a5.defers }) rfl rfl rfl hsz (by rw[hdf];rfl) (F:=lPF0) (zbJ ⟨_,hb 0 (by omega),e2⟩ (zbJ ⟨_,hb 1 (by omega),e3⟩ (zbJ ⟨_,hb 2 (by omega),e4⟩ (zbJ ⟨_,hb 3 (by omega),e5⟩ (zbJ ⟨_,hb 4 (by omega),e6⟩ zga))))) rfl;refine zcB (m:=0) (yV (zpg (hXok _ _ _ hBB) fr acc β _ W hsim) ?_);rintro e a' W' ⟨σ',β',h',rfl,hf⟩;have h6:=h'.fit hf (by show 5≤6;omega);have hso:=hsame hBB hS h6;obtain⟨u,q0,q1,hu⟩:=zpO h6 (i:=0) (by show 0 < 5;omega) rfl;obtain⟨c1,y1,q2,q3⟩:=zmZ h6 (i:=1) (by show 1 < 5;omega) rfl;obtain⟨c2,y2,q4,q5⟩:=zmZ h6 (i:=2) (by show 2 < 5;omega) rfl;have q3:c1=[.int .i64 0]:=q3;have q5:c2=[.int .i64 0]:=q5;subst q3;subst q5;have hb6:=fun k (hk:k < 5)=>(h6.fix.2 k hk).1;have k2:a'.tmps.getD 2 undef= .pointer (some ⟨N,0,none⟩):=by
   obtain⟨g,r1,r2⟩:∃ g,zah (β' 0)=some g∧a'.tmps.getD 2 undef= .pointer (some ⟨g,0,none⟩):=h6.fr 2;rw[hb6 0 (by omega)]at r1;cases r1;exact r2
  have k3:a'.tmps.getD 3 undef= .pointer (some ⟨N+1,0,none⟩):=by
   obtain⟨g,r1,r2⟩:∃ g,zah (β' 1)=some g∧a'.tmps.getD 3 undef= .pointer (some ⟨g,0,none⟩):=h6.fr 3;rw[hb6 1 (by omega)]at r1;cases r1;exact r2
  have k4:a'.tmps.getD 4 undef= .pointer (some ⟨N+2,0,none⟩):=by
   obtain⟨g,r1,r2⟩:∃ g,zah (β' 2)=some g∧a'.tmps.getD 4 undef= .pointer (some ⟨g,0,none⟩):=h6.fr 4;rw[hb6 2 (by omega)]at r1;cases r1;exact r2
  show LeavesInM yF 1 Tryz.prog Tryz.f19 a'.tmps (znX w O (za6 s)) a'.defers .returning W';rw[h6.df, <-h4];exact lfin hN (O':=OSet (XL (lO O N w5.heap.size) (lFix N) [ldco w5.heap.size] none) (sLT acc).E β') (fun g hg=>.inl (.inl hg)) (.inl (.inr (.inr (.inl rfl)))) (by omega) (zlF hN hs5 hb5 hBB h6.bel) ((hso.block _ (.inr (.inl rfl))).trans hdef) q1 k2 k3 k4 q0 q2 q4 hu
 ·rintro W ⟨er,B,β,hpe,hBB,hS⟩ hdef;refine⟨.inr rfl,?_⟩;obtain⟨u,q0,q1,hu⟩:=zpO hS (i:=0) (by show 0 < 5;omega) rfl;have hu:u= .slice none 0 0:=hu;subst hu;obtain⟨c1,y1,q2,q3⟩:=zmZ hS (i:=1) (by show 1 < 5;omega) rfl;obtain⟨c2,y2,q4,q5⟩:=zmZ hS (i:=2) (by show 2 < 5;omega) rfl;have q3:c1=[.int .i64 er.1]:=q3;have q5:c2=[.int .i64 er.2]:=q5;subst q3;subst q5;show LeavesInM yF 1 Tryz.prog Tryz.f19 a5.tmps (znX w O (za6 s)) (ldco w5.heap.size::a5.defers) .returning W;rw[hdf,hpe];exact lfin (acc:=[]) hN (O':=OSet (XL (lO O N w5.heap.size) (lFix N) [] none) (lRE er.1 er.2) β) (fun g hg=>.inl (.inl hg)) (.inl (.inr (.inr (.inl rfl)))) (by omega) (zlF hN hs5 hb5 hBB hS.bel) hdef q1 e2 e3 e4 q0 q2 q4 ⟨_,rfl,.inl ⟨rfl,none,0,rfl,zl _⟩⟩
end
end
end Go.Proofs.YtpeaigpfddalcaaGreatDoor
