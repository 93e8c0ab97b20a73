/-
  Texts of this claim, joined: what the statement's proof uses.
-/
import Derived.Test.YtpeaigpfddalcaaGreatDoorWD
namespace Go.Proofs.YtpeaigpfddalcaaGreatDoor
open Go Go.RowKit
set_option linter.unusedSimpArgs false
set_option linter.unusedVariables false
set_option maxRecDepth 100000
set_option maxRecDepth 10000
set_option maxRecDepth 100000
set_option maxRecDepth 10000
set_option maxRecDepth 100000
set_option maxHeartbeats 1000000 in
theorem zrE:CtrOk Tryz.prog gmG 105 zsd:=by
 refine zan (K:=kCv2) zbU Tryz.func105 rfl rfl Tryz.call105 rfl (by decide) (by intro h;cases h) ?_;rintro w0 X hX ⟨(c:Cal),_⟩ hp;obtain⟨(ep:Int),(ms:List Int),(lp:Int),(rs:List Lr),⟨⟩⟩:=c;obtain⟨⟨e0,e1⟩,⟨n0,n1⟩,⟨l0,l1⟩,r0,lr,hm,hper⟩:zgO (ep,ms,lp,rs,()):=hp;have e0:0≤ep:=e0;have e1:ep≤1048576:=e1;have n0:1≤ms.length:=n0;have n1:ms.length≤16:=n1;have l0: -1≤lp:=l0;have l1:lp < (ms.length:Int):=l1;have r0:rs.length≤16:=r0;have lr:lp= -1->rs=[]:=lr;have hm:∀ m∈ms,1≤m∧m≤40:=hm;have hper:(perS 1 rs).2=true:=hper;change AWP _ _ _ _ _ ⟨[(0,⟨cal,(ep,ms,lp,rs,())⟩)],[],0⟩ _;(repeat(first|apply zae|apply zac|apply zab|apply zad));refine zaa hX zbU rfl ?_ ?_
 ·trivial
 (repeat(first|apply zae|apply zac|apply zab|apply zad));refine zaa hX zbU rfl ?_ ?_
 ·repeat'(first|exact trivial|assumption|(refine⟨?_,?_⟩)|(intro _)|exact Nat.le_of_ble_eq_true rfl|exact Int.natCast_nonneg _|(simp_all [allP];done))
 have t1:(bif (bif (bif (bif decide (ep < 0) then true else decide (ep > 1048576)) then true else decide (((ms.length:Nat):Int) < 1)) then true else decide (((ms.length:Nat):Int) > 16)) then true else decide (((rs.length:Nat):Int) > 16))=false:=
  ze1 (ze1 (ze1 (ze1 (decide_eq_false (by omega)) (decide_eq_false (by omega))) (decide_eq_false (by omega))) (decide_eq_false (by omega))) (decide_eq_false (by omega))
 refine zaf rfl (fun hc=>?_) (fun _=>?_)
 ·have hc:=t1.symm.trans hc;cases hc
 apply zac;(repeat(first|apply zae|apply zac|apply zab|apply zad));refine zaa hX zbU rfl ?_ ?_
 ·repeat'(first|exact trivial|assumption|(refine⟨?_,?_⟩)|(intro _)|exact Nat.le_of_ble_eq_true rfl|exact Int.natCast_nonneg _|(simp_all [allP];done))
 have t2:(bif (bif decide (lp < -1) then true else decide (lp≥((ms.length:Nat):Int))) then true else (bif (lp== -1) then decide (((rs.length:Nat):Int) > 0) else false))=false:=by
  refine ze1 (ze1 (decide_eq_false (by omega)) (decide_eq_false (by omega))) ?_;by_cases h:lp= -1
  ·rw[lr h];cases (lp== -1)<;>rfl
  ·rw[beq_eq_false_iff_ne.2 h];rfl
 refine zaf rfl (fun hc=>?_) (fun _=>?_)
 ·have hc:=t2.symm.trans hc;cases hc
 apply zac;(repeat(first|apply zae|apply zac|apply zab|apply zad));refine zaa hX zbU rfl ?_ ?_
 ·trivial
 (repeat(first|apply zae|apply zac|apply zab|apply zad));refine AWP.loop (ι:=Nat) (fun i=>⟨[(1,⟨.optr cal,⟨0,cal,.here⟩⟩),(3,⟨i64,(i:Int)⟩)],[(0,some (.box cal (ep,ms,lp,rs,())))],1⟩) (fun i=>i≤ms.length) (fun i=>ms.length - i) 0 (Nat.zero_le _) ⟨⟨rfl,rfl,trivial⟩,⟨rfl,trivial⟩,rfl,rfl⟩ ?_
 ·intro i hi;(repeat(first|apply zae|apply zac|apply zab|apply zad));refine zaa hX zbU rfl ?_ ?_
  ·trivial
  refine zaf rfl (fun hb=>?_) (fun hb=>?_)
  ·have hb:decide ((i:Int) < ((ms.length:Nat):Int))=true:=hb;have hb:=of_decide_eq_true hb;have z0:(0:Int)≤(i:Int):=by omega
   have z2:((i:Int)).toNat < ms.length:=by omega
   (repeat(first|apply zae|apply zac|apply zab|apply zad));refine zaa hX zbU rfl ?_ ?_
   ·repeat'(first|exact trivial|assumption|exact z0|exact hb|exact z2|(refine⟨?_,?_⟩)|(intro _)|exact Nat.le_of_ble_eq_true rfl|exact Int.natCast_nonneg _|(simp_all [allP];done))
   have hget:ms.getD ((i:Int)).toNat 0∈ms:=by
    rw[List.getD_eq_getElem?_getD,List.getElem?_eq_getElem z2];exact List.getElem_mem _
   have hmm:=hm _ hget;have t3:(bif decide (ms.getD ((i:Int)).toNat 0 < 1) then true else decide (ms.getD ((i:Int)).toNat 0 > 40))=false:=ze1 (decide_eq_false (by omega)) (decide_eq_false (by omega));refine zaf rfl (fun hc=>?_) (fun _=>?_)
   ·have hc:=t3.symm.trans hc;cases hc
   apply zac;(repeat(first|apply zae|apply zac|apply zab|apply zad));refine zaa hX zbU rfl ?_ ?_
   ·exact zaF (by omega)
   exact⟨i+1,by omega,by omega,⟨rfl,zcg _,trivial⟩,⟨rfl,trivial⟩,rfl,rfl⟩
  ·apply zad;(repeat(first|apply zae|apply zac|apply zab|apply zad));refine zaa hX zbU rfl ?_ ?_
   ·trivial
   (repeat(first|apply zae|apply zac|apply zab|apply zad));refine zaa hX zbU rfl ?_ ?_
   ·trivial
   (repeat(first|apply zae|apply zac|apply zab|apply zad));refine AWP.loop (ι:=Nat×Nat) (fun p=>⟨[(1,⟨.optr cal,⟨0,cal,.here⟩⟩),(4,⟨i64,(p.2:Int)⟩),(5,⟨i64,(p.1:Int)⟩)],[(0,some (.box cal (ep,ms,lp,rs,())))],1⟩) (fun p=>p.1≤rs.length∧(1≤p.2∧p.2≤400)∧(perS p.2 (rs.drop p.1)).2=true) (fun p=>rs.length - p.1) (0,1) ⟨Nat.zero_le _,⟨by decide,by decide⟩,hper⟩ ⟨⟨rfl,rfl,rfl,trivial⟩,⟨rfl,trivial⟩,rfl,rfl⟩ ?_;rintro ⟨k,y⟩ ⟨hk,⟨hy1,hy2⟩,hr⟩;have hk:k≤rs.length:=hk;have hy1:1≤y:=hy1;have hy2:y≤400:=hy2;have hr:(perS y (rs.drop k)).2=true:=hr;change AWP _ _ _ _ _ ⟨[(1,⟨.optr cal,⟨0,cal,.here⟩⟩),(4,⟨i64,(y:Int)⟩),(5,⟨i64,(k:Int)⟩)],[(0,some (.box cal (ep,ms,lp,rs,())))],1⟩ _;(repeat(first|apply zae|apply zac|apply zab|apply zad));refine zaa hX zbU rfl ?_ ?_
   ·trivial
   refine zaf rfl (fun hb=>?_) (fun hb=>?_)
   ·have hb:decide ((k:Int) < ((rs.length:Nat):Int))=true:=hb;have hb:=of_decide_eq_true hb;have hlt:k < rs.length:=by omega
    have z0:(0:Int)≤(k:Int):=by omega
    have z2:((k:Int)).toNat < rs.length:=by omega
    have hdr:rs.drop k=rs[k]::rs.drop (k+1):=List.drop_eq_getElem_cons hlt;have hget:rs.getD ((k:Int)).toNat zLr=rs[k]:=by rw[Int.toNat_natCast,List.getD_eq_getElem?_getD,List.getElem?_eq_getElem hlt];rfl
    rw[hdr]at hr;generalize hn:rs.drop (k+1)=tl at *;generalize rs[k]=q at *;unfold perS at hr;have hbad:zlf q=false:=by
     cases h:zlf q with
     |false=>rfl
     |true=>rw[if_pos h]at hr;cases hr
    rw[hbad,if_neg (by decide)]at hr;have hlcm:¬ 400 < Nat.lcm y q.1.toNat:=fun h=>by rw[if_pos h]at hr;cases hr
    rw[if_neg hlcm]at hr;unfold zlf at hbad;simp only[Bool.or_eq_false_iff,decide_eq_false_iff_not]at hbad;obtain⟨⟨⟨b1,b2⟩,b3⟩,b4⟩:=hbad;(repeat(first|apply zae|apply zac|apply zab|apply zad));refine zaa hX zbU rfl ?_ ?_
    ·repeat'(first|exact trivial|assumption|exact z0|exact hb|exact z2|(refine⟨?_,?_⟩)|(intro _)|exact Nat.le_of_ble_eq_true rfl|exact Int.natCast_nonneg _|(simp_all [allP];done))
    refine zaq (σ':=⟨[(1,⟨.optr cal,⟨0,cal,.here⟩⟩),(4,⟨i64,(y:Int)⟩),(5,⟨i64,(k:Int)⟩),(6,⟨.optr lru,⟨1,lru,.here⟩⟩)],[(0,some (.box cal (ep,ms,lp,rs,()))),(1,some (.box lru q))],2⟩) ⟨⟨rfl,rfl,rfl,rfl,trivial⟩,⟨rfl,by show some (OObj.box lru (rs.getD ((k:Int)).toNat zLr))=_;rw[hget],trivial⟩,rfl,rfl⟩ ?_;obtain⟨(m:Int),(ph:Int),(fl:Bool),⟨⟩⟩:=q;have b1:¬ m < 1:=b1;have b2:¬ m > 400:=b2;have b3:¬ ph < 0:=b3;have b4:¬ ph≥m:=b4;have hr:(perS (Nat.lcm y m.toNat) tl).2=true:=hr;have hlcm:¬ 400 < Nat.lcm y m.toNat:=hlcm;(repeat(first|apply zae|apply zac|apply zab|apply zad));refine zaa hX zbU rfl ?_ ?_
    ·repeat'(first|exact trivial|assumption|(refine⟨?_,?_⟩)|(intro _)|exact Nat.le_of_ble_eq_true rfl|exact Int.natCast_nonneg _|(simp_all [allP];done))
    have t4:(bif (bif (bif decide (m < 1) then true else decide (m > 400)) then true else decide (ph < 0)) then true else decide (ph≥m))=false:=ze1 (ze1 (ze1 (decide_eq_false b1) (decide_eq_false b2)) (decide_eq_false b3)) (decide_eq_false b4);refine zaf rfl (fun hc=>?_) (fun _=>?_)
    ·have hc:=t4.symm.trans hc;cases hc
    apply zac;have hg:0 < Nat.gcd y m.toNat:=Nat.gcd_pos_of_pos_left _ (by omega);have hq:((y:Int)).tdiv ((Nat.gcd ((y:Int)).toNat m.toNat:Nat):Int)=((y / Nat.gcd y m.toNat:Nat):Int):=by
     rw[Int.toNat_natCast];exact Int.ofNat_tdiv ..
    have hmul:((y / Nat.gcd y m.toNat:Nat):Int) * m=((Nat.lcm y m.toNat:Nat):Int):=by
     have:=zlm (x:=y) (y:=m.toNat) hy1;rw[Nat.gcd_comm]at this;rw[<-this,Int.natCast_mul,Int.toNat_of_nonneg (by omega:0≤m)]
    have hle:y / Nat.gcd y m.toNat≤y:=Nat.div_le_self ..;have c1:(0:Int)≤(y:Int):=by omega
    have c2:(y:Int)≤1000000:=by omega
    have c3:0≤m:=by omega
    have c4:m≤1000000:=by omega
    have c5:((Nat.gcd ((y:Int)).toNat m.toNat:Nat):Int)≠0:=by rw[Int.toNat_natCast];omega
    have c6:inR .i64 (((y:Int)).tdiv ((Nat.gcd ((y:Int)).toNat m.toNat:Nat):Int)):=by rw[hq];generalize y / Nat.gcd y m.toNat=z at hle;exact zar (by omega) (by omega)
    have c7:inR .i64 (((y:Int)).tdiv ((Nat.gcd ((y:Int)).toNat m.toNat:Nat):Int) * m):=by rw[hq,hmul];exact zar (by omega) (by omega)
    (repeat(first|apply zae|apply zac|apply zab|apply zad));refine AWP.draw dM hX zbU 9 (by kernel_rfl) rfl rfl ?_ ?_ ?_
    ·repeat'(first|exact trivial|assumption|exact c1|exact c2|exact c3|exact c4|exact c5|exact c6|exact c7|(refine⟨?_,?_⟩)|(intro _)|exact Nat.le_of_ble_eq_true rfl|exact Int.natCast_nonneg _|(simp_all [allP];done))
    ·trivial
    refine zaq (σ':=⟨[(1,⟨.optr cal,⟨0,cal,.here⟩⟩),(4,⟨i64,((Nat.lcm y m.toNat:Nat):Int)⟩),(5,⟨i64,(k:Int)⟩)],[(0,some (.box cal (ep,ms,lp,rs,())))],2⟩) ⟨⟨rfl,vI64 (by show ((y:Int)).tdiv ((Nat.gcd ((y:Int)).toNat m.toNat:Nat):Int) * m=_;rw[hq,hmul]),rfl,trivial⟩,⟨rfl,trivial⟩,rfl,rfl⟩ ?_;(repeat(first|apply zae|apply zac|apply zab|apply zad));refine zaa hX zbU rfl ?_ ?_
    ·trivial
    refine zaf rfl (fun hc=>?_) (fun _=>?_)
    ·have hc:decide (((Nat.lcm y m.toNat:Nat):Int) > 400)=true:=hc;have:=of_decide_eq_true hc;omega
    apply zac;(repeat(first|apply zae|apply zac|apply zab|apply zad));refine zaa hX zbU rfl ?_ ?_
    ·exact zaF (by omega)
    have hl1:1≤Nat.lcm y m.toNat:=Nat.lcm_pos (by omega) (by omega);exact⟨(k+1,Nat.lcm y m.toNat),⟨hlt,⟨hl1,by show Nat.lcm y m.toNat≤400;omega⟩,by show (perS (Nat.lcm y m.toNat) (rs.drop (k+1))).2=true;rw[hn];exact hr⟩,by show rs.length - (k+1) < rs.length - k;omega,⟨rfl,rfl,zcg _,trivial⟩,⟨rfl,trivial⟩,rfl,rfl⟩
   ·apply zad;(repeat(first|apply zae|apply zac|apply zak|apply zad|apply zab|refine zaa hX zbU rfl trivial ?_|refine zaa hX zbU rfl id ?_|refine zaa hX zbU rfl ⟨id,id⟩ ?_));exact AWP.ret ⟨.inr rfl,zat rfl trivial rfl rfl rfl⟩
def zpJ:Ctr:={ args:=[],pre:=fun _=>[],res:=ints,own:=none,out:=fun _=>znY }
theorem znZ:CtrOk Tryz.prog gmH 126 zpJ:=by
 refine zan (K:=gmK) zai Tryz.func126 rfl rfl Tryz.call126 rfl (by decide) (by intro h;cases h) ?_;rintro w0 X hX _ hp;change AWP _ _ _ _ _ ⟨[],[],0⟩ _;(repeat(first|apply zae|apply zac|apply zab|apply zad));refine zaa hX zai rfl ?_ ?_
 ·trivial
 (repeat(first|apply zae|apply zac|apply zab|apply zad));refine zaa hX zai rfl ?_ ?_
 ·trivial
 refine AWP.frz hX 0 ?_;refine AWP.ret ⟨.inr rfl,zat rfl trivial rfl rfl ?_⟩;rfl
def kKn2:Kn:={ gmK with C:=[(126,zpJ)],H:=[63] }
theorem zcm:KnOk Tryz.prog gmH kKn2:=⟨zgE,zgD,.cons znZ .nil,zhD,RsOk.nil⟩
theorem znn (x:Option Addr) (y z:Nat):Tryz.prog.built 63 [(0,.int .i64 227021),(1,.slice x y z),(2,.int .i64 11)]=some #[.int .i64 227021,.slice x y z,.int .i64 11,.slice none 0 0]:=by kernel_rfl
set_option maxHeartbeats 1000000 in
theorem zpa:CtrOk Tryz.prog gmH 75 ziG:=by
 refine zan (K:=kKn2) zcm Tryz.func75 rfl rfl Tryz.call75 rfl (by decide) (by intro h;cases h) ?_;rintro w0 X hX ⟨(k:Int),_⟩ hp;obtain⟨h0,h1⟩:0≤k∧k≤2:=by
  simp only[ziG,allP]at hp
  simpa using hp
 change AWP _ _ _ _ _ ⟨[(0,⟨i64,k⟩)],[],0⟩ _;(repeat(first|apply zae|apply zac|apply zab|apply zad));refine zaa hX zcm rfl ?_ ?_
 ·trivial
 (repeat(first|apply zae|apply zac|apply zab|apply zad));refine zaa hX zcm rfl ?_ ?_
 ·trivial
 apply zab;(repeat(first|apply zae|apply zac|apply zab|apply zad));refine zaa hX zcm rfl ?_ ?_
 ·trivial
 refine zaf rfl (fun hb=>?_) (fun hb=>?_)
 ·have hb:(k==0)=true:=hb;obtain rfl:=beq_iff_eq.1 hb;(repeat(first|apply zae|apply zac|apply zab|apply zad));refine zaa hX zcm rfl ?_ ?_
  ·trivial
  refine AWP.ret ⟨.inr rfl,za7 (by decide) rfl rfl trivial ?_⟩;rfl
 have hb:(k==0)=false:=hb;have hk0:k≠0:=fun e=>by rw[e]at hb;cases hb
 (repeat(first|apply zae|apply zac|apply zab|apply zad));refine zaa hX zcm rfl ?_ ?_
 ·trivial
 refine zaf rfl (fun hb=>?_) (fun hb=>?_)
 ·have hb:(k==1)=true:=hb;obtain rfl:=beq_iff_eq.1 hb;(repeat(first|apply zae|apply zac|apply zab|apply zad));refine zaa hX zcm rfl ?_ ?_
  ·trivial
  refine AWP.ret ⟨.inr rfl,za7 (by decide) rfl rfl trivial ?_⟩;rfl
 have hb:(k==1)=false:=hb;have hk1:k≠1:=fun e=>by rw[e]at hb;cases hb
 (repeat(first|apply zae|apply zac|apply zab|apply zad));refine zaa hX zcm rfl ?_ ?_
 ·trivial
 refine zaf rfl (fun hb=>?_) (fun hb=>?_)
 ·have hb:(k==2)=true:=hb;obtain rfl:=beq_iff_eq.1 hb;(repeat(first|apply zae|apply zac|apply zab|apply zad));refine zaj ?_;refine AL.take 1 hX zcm rfl trivial ?_;refine AL.hand rfl (by intro c e;cases e) fun β a w hs=>?_;have hu:a.tmps.getD 24 undef=β 1:=hs.fr 24;obtain⟨x,y,z,hxyz⟩:∃ x y z,β 1= .slice x y z:=by
   obtain⟨cs,_,hro,_⟩:=hs.own 1 _ rfl;rcases hro.2 with ⟨e,_⟩|⟨g,cap,cur,e,_⟩
   ·exact⟨_,_,_,e⟩
   ·exact⟨_,_,_,e⟩
  rw[hxyz]at hu;refine zkT (v:=⟨.hcons i64 (.hcons (.obuf i64) (.hcons i64 (.hcons .lit .unit))),((227021:Int),(1:Nat),(11:Int),Value.slice none 0 0,())⟩) rfl rfl (by decide) (N:=fun σ'=>AL _ w0 _ _ _ _ σ' _) ?_ hs (u:=.agg #[.int .i64 227021,.slice x y z,.int .i64 11,.slice none 0 0]) ?_ ?_
  rotate_left
  ·unfold execOp;refine zel ?_;rw[show (#[(0,Operand.const (Value.int .i64 227021)),(1,Operand.tmp 24),(2,Operand.const (Value.int .i64 11))]:Array (Nat×Operand)).map (fun p=>(p.1,a.eval p.2))= #[(0,Value.int .i64 227021),(1,Value.slice x y z),(2,Value.int .i64 11)] from by
    have e:a.eval (.tmp 24)= .slice x y z:=hu;simp[e];exact⟨rfl,rfl⟩]
   exact run_build w _ _ _ (znn x y z)
  ·refine⟨_,[.slice x y z,.int .i64 11,.slice none 0 0],rfl,rfl,(RepD.scalar (t:=.int .i64) rfl).2 rfl,?_⟩;refine⟨_,[.int .i64 11,.slice none 0 0],rfl,rfl,hxyz.symm,?_⟩;refine⟨_,[.slice none 0 0],rfl,rfl,(RepD.scalar (t:=.int .i64) rfl).2 rfl,?_⟩;refine⟨_,[],rfl,rfl,rfl,?_⟩;exact (RepD.agg rfl).2 ⟨[],rfl,rfl⟩
  refine AL.all hX zcm rfl trivial ?_;refine AWP.nilLeaf 2 3 129 lru rfl rfl rfl ?_;(repeat(first|apply zae|apply zac|apply zab|apply zad));refine zaa hX zcm rfl ?_ ?_
  ·trivial
  refine AWP.frz hX 5 ?_;(repeat(first|apply zae|apply zac|apply zab|apply zad));refine zaa hX zcm rfl ?_ ?_
  ·trivial
  (repeat(first|apply zae|apply zac|apply zab|apply zad));refine AWP.loop (ι:=Nat) (fun j=>⟨[(2,⟨.hptr,((0:Nat),(0:Nat))⟩),(4,⟨.hptr,((2:Nat),(0:Nat))⟩),(5,⟨ints,zc0⟩),(6,⟨i64,(j:Int)⟩)],[(0,some (.hbox 63 [⟨i64,(0:Int)⟩,⟨.lit,.slice none 0 0⟩,⟨i64,(0:Int)⟩,⟨.lit,.slice none 0 0⟩])),(1,some (.buf 3 i64 zgz)),(2,some (.hbox 63 [⟨i64,(227021:Int)⟩,⟨.obuf i64,(1:Nat)⟩,⟨i64,(11:Int)⟩,⟨.obuf lru,(3:Nat)⟩])),(3,some (.buf 129 lru ((zc0.take j).map fun x=>(30,x,true,()))))],4⟩) (fun j=>j≤11) (fun j=>11 - j) 0 (Nat.zero_le _) ⟨⟨rfl,rfl,rfl,rfl,trivial⟩,⟨rfl,rfl,rfl,rfl,trivial⟩,rfl,rfl⟩ ?_;intro j hj;(repeat(first|apply zae|apply zac|apply zab|apply zad));refine zaa hX zcm rfl ?_ ?_
  ·trivial
  refine zaf rfl (fun hb=>?_) (fun hb=>?_)
  ·have hb:decide ((j:Int) < ((zc0.length:Nat):Int))=true:=hb;have hb:=of_decide_eq_true hb;have hlt:j < zc0.length:=by omega
   have z0:(0:Int)≤(j:Int):=by omega
   have hl:((zc0.take j).map fun x=>((30,x,true,()):Lr)).length+1≤1000000000:=by rw[List.length_map,List.length_take];omega
   have z2:((j:Int)).toNat < zc0.length:=by omega
   (repeat(first|apply zae|apply zac|apply zab|apply zad));refine AWP.drawN dM hX zcm 8 (by kernel_rfl) rfl rfl ?_ ?_ ?_
   ·repeat'(first|exact trivial|assumption|exact z0|exact hb|(refine⟨?_,?_⟩)|(intro _)|exact Nat.le_of_ble_eq_true rfl|exact Int.natCast_nonneg _|(simp_all [allP];done))
   ·exact hl
   (repeat(first|apply zae|apply zac|apply zab|apply zad));refine zaa hX zcm rfl ?_ ?_
   ·exact zaF (by omega)
   have h11:zc0.length=11:=rfl;refine⟨j+1,by omega,by omega,⟨rfl,rfl,rfl,zcg _,trivial⟩,⟨rfl,rfl,rfl,bufL ?_,trivial⟩,rfl,rfl⟩;rw[List.take_succ_eq_append_getElem hlt,List.map_append];show _++ [((30:Int),zc0.getD (j:Int).toNat (0:Int),true,())]=_;rw[za0 hlt];rfl
  ·have hb:decide ((j:Int) < ((zc0.length:Nat):Int))=false:=hb;have hb:=of_decide_eq_false hb;have h11:zc0.length=11:=rfl;obtain rfl:j=11:=by omega
   apply zad;refine AWP.frzL hX 2 1 ?_;refine AWP.frzL hX 2 3 ?_;(repeat(first|apply zae|apply zac|apply zab|apply zad));refine zaa hX zcm rfl ?_ ?_
   ·trivial
   refine AWP.ret ⟨.inr rfl,za7 (by decide) rfl rfl trivial ?_⟩;rfl
 ·have hb:(k==2)=false:=hb;exact absurd (beq_iff_eq.2 (by omega:k=2)) (by rw[hb];decide)
theorem zjo:∀ k:Int,0≤k∧k≤2->zgO (zgA k):=fun k hk=>by
 rcases (show k=0∨k=1∨k=2 by omega) with rfl|rfl|rfl
 ·exact⟨by decide,by decide,by decide,by decide,fun h=>absurd h (by decide),by decide,by decide+kernel⟩
 ·exact⟨by decide,by decide,by decide,by decide,fun h=>absurd h (by decide),by decide,by decide+kernel⟩
 ·exact⟨by decide,by decide,by decide,by decide,fun h=>absurd h (by decide),by decide,by decide+kernel⟩
def zdP:List Cal:=[zgA 0,zgA 1,zgA 2]
def zpT:Ctr:={ args:=[],pre:=fun _=>[],res:=.slice cal,own:=none,out:=fun _=>zdP }
def kCl7:Kn:={ gmK with C:=[(75,ziG)] }
theorem zdx:KnOk Tryz.prog gmH kCl7:=zai.with (.cons zpa .nil)
theorem bufC2 {te:TypeId} {x y:List Cal} (h:x=y):some (OObj.buf te cal x)=some (OObj.buf te cal y):=by rw[h]
theorem zrC:CtrOk Tryz.prog gmH 35 zpT:=by
 refine zan (K:=kCl7) zdx Tryz.func35 rfl rfl Tryz.call35 rfl (by decide) (by intro h;cases h) ?_;rintro w0 X hX _ hp;change AWP _ _ _ _ _ ⟨[],[],0⟩ _;(repeat(first|apply zae|apply zac|apply zab|apply zad));refine zaa hX zdx rfl ?_ ?_
 ·trivial
 (repeat(first|apply zae|apply zac|apply zab|apply zad));refine zaa hX zdx rfl ?_ ?_
 ·trivial
 refine AWP.nilBuf hX 1 63 cal rfl rfl rfl ?_;(repeat(first|apply zae|apply zac|apply zab|apply zad));refine zaa hX zdx rfl ?_ ?_
 ·trivial
 (repeat(first|apply zae|apply zac|apply zab|apply zad));refine AWP.loop (ι:=Nat) (fun i=>⟨[(1,⟨.obuf cal,(0:Nat)⟩),(2,⟨i64,(i:Int)⟩)],[(0,some (.buf 63 cal (zdP.take i)))],1⟩) (fun i=>i≤3) (fun i=>3 - i) 0 (Nat.zero_le _) ⟨⟨rfl,rfl,trivial⟩,⟨rfl,trivial⟩,rfl,rfl⟩ ?_;intro i hi;(repeat(first|apply zae|apply zac|apply zab|apply zad));refine zaa hX zdx rfl ?_ ?_
 ·trivial
 refine zaf rfl (fun hb=>?_) (fun hb=>?_)
 ·have hb:decide ((i:Int) < 3)=true:=hb;have hb:=of_decide_eq_true hb;have z0:(0:Int)≤(i:Int):=by omega
  have z1:(i:Int)≤2:=by omega
  have hl:(zdP.take i).length+1≤1000000000:=by rw[List.length_take];omega
  (repeat(first|apply zae|apply zac|apply zab|apply zad));refine zaa hX zdx rfl ?_ ?_
  ·repeat'(first|exact trivial|assumption|exact z0|exact z1|(refine⟨?_,?_⟩)|(intro _)|exact Nat.le_of_ble_eq_true rfl|exact Int.natCast_nonneg _|(simp_all [allP];done))
  (repeat(first|apply zae|apply zac|apply zab|apply zad));refine zaa hX zdx rfl ?_ ?_
  ·exact hl
  (repeat(first|apply zae|apply zac|apply zab|apply zad));refine zaa hX zdx rfl ?_ ?_
  ·exact zaF (by omega)
  refine⟨i+1,by omega,by omega,⟨rfl,zcg _,trivial⟩,⟨bufC2 ?_,trivial⟩,rfl,rfl⟩;rcases (show i=0∨i=1∨i=2 by omega) with rfl|rfl|rfl<;>rfl
 ·have hb:decide ((i:Int) < 3)=false:=hb;have hb:=of_decide_eq_false hb;obtain rfl:i=3:=by omega
  apply zad;refine AWP.frz hX 1 ?_;(repeat(first|apply zae|apply zac|apply zak|apply zad|apply zab|refine zaa hX zdx rfl trivial ?_|refine zaa hX zdx rfl id ?_|refine zaa hX zdx rfl ⟨id,id⟩ ?_));refine AWP.ret ⟨.inr rfl,zat rfl trivial rfl rfl ?_⟩;rfl
def cVal6:Ctr:={ args:=[.slice nd,.slice cal],pre:=fun x=>[x.2.1=zdP],res:=i64,own:=none,out:=fun x=>zbh x.1 }
def k6v:Kn:={ gmK with C:=[(104,zsc),(105,zsd),(106,zgG)] }
theorem zbf:KnOk Tryz.prog gmH k6v:=zai.with (.cons zrh <| .cons zrE.lift <| .cons zlL .nil)
theorem ztW {r:List Nd} {i:Nat} (hi:i < r.length) (h:bigN (zam r i)=true):r.any bigN=true:=by
 rw[List.any_eq_true];refine⟨r[i],List.getElem_mem hi,?_⟩;rw[zeI,List.getD_eq_getElem?_getD,List.getElem?_eq_getElem hi]at h;exact h
set_option maxHeartbeats 1000000 in
theorem zsk:CtrOk Tryz.prog gmH 63 cVal6:=by
 refine zan (K:=k6v) zbf Tryz.func63 rfl rfl Tryz.call63 rfl (by decide) (by intro h;cases h) ?_;rintro w0 X hX ⟨(r:List Nd),(cs:List Cal),_⟩ hp;have hcs:cs=zdP:=hp;subst hcs;change AWP _ _ _ _ _ ⟨[(0,⟨.slice nd,r⟩),(1,⟨.slice cal,zdP⟩)],[],0⟩ _;refine AWP.len 0 rfl fun hl=>?_;unfold maxLen at hl;(repeat(first|apply zae|apply zac|apply zab|apply zad));refine zaa hX zbf rfl ?_ ?_
 ·trivial
 (repeat(first|apply zae|apply zac|apply zab|apply zad));refine zaa hX zbf rfl ?_ ?_
 ·trivial
 refine zaf rfl (fun hb=>?_) (fun hb=>?_)
 ·have hb:decide (((r.length:Nat):Int) > 64)=true:=hb;have hb:=of_decide_eq_true hb;(repeat(first|apply zae|apply zac|apply zak|apply zad|apply zab|refine zaa hX zbf rfl trivial ?_|refine zaa hX zbf rfl id ?_|refine zaa hX zbf rfl ⟨id,id⟩ ?_));refine AWP.ret ⟨.inr rfl,zat rfl trivial rfl rfl ?_⟩;show (2:Int)=zbh r;unfold zbh;rw[if_pos (.inl (by omega))]
 have hb:decide (((r.length:Nat):Int) > 64)=false:=hb;have hb:=of_decide_eq_false hb;have hl64:r.length≤64:=by omega
 apply zac;(repeat(first|apply zae|apply zac|apply zab|apply zad));refine zaa hX zbf rfl ?_ ?_
 ·trivial
 (repeat(first|apply zae|apply zac|apply zab|apply zad));refine AWP.loop (ι:=Nat) (fun i=>⟨[(0,⟨.slice nd,r⟩),(1,⟨.slice cal,zdP⟩),(5,⟨i64,(i:Int)⟩)],[],0⟩) (fun i=>i≤r.length∧∀ j,j < i->bigN (zam r j)=false) (fun i=>r.length - i) 0 ⟨Nat.zero_le _,fun j hj=>absurd hj (Nat.not_lt_zero _)⟩ ⟨⟨rfl,rfl,rfl,trivial⟩,trivial,rfl,rfl⟩ ?_;rintro i ⟨hi,hn⟩;(repeat(first|apply zae|apply zac|apply zab|apply zad));refine zaa hX zbf rfl ?_ ?_
 ·trivial
 refine zaf rfl (fun hb=>?_) (fun hb=>?_)
 ·have hb:decide ((i:Int) < (r.length:Nat))=true:=hb;have hb:=of_decide_eq_true hb;have hlt:i < r.length:=by omega
  have z0:(0:Int)≤(i:Int):=by omega
  have z2:((i:Int)).toNat < r.length:=by omega
  (repeat(first|apply zae|apply zac|apply zab|apply zad));refine zaa hX zbf rfl ?_ ?_
  ·repeat'(first|exact trivial|assumption|exact z0|exact hb|exact z2|(refine⟨?_,?_⟩)|(intro _)|exact Nat.le_of_ble_eq_true rfl|exact Int.natCast_nonneg _|(simp_all [allP];done))
  have hq:(bif decide ((((ndI (zam r i)).length:Nat):Int) > 64) then true else decide ((((ndS (zam r i)).length:Nat):Int) > 32))=bigN (zam r i):=by
   rw[b_or];unfold bigN
   congr 1<;>(rw[Bool.eq_iff_iff,decide_eq_true_iff,decide_eq_true_iff];first|(show _↔_;omega)|omega)
  refine zaf rfl (fun hc=>?_) (fun hc=>?_)
  ·have hc:=hq.symm.trans hc;(repeat(first|apply zae|apply zac|apply zak|apply zad|apply zab|refine zaa hX zbf rfl trivial ?_|refine zaa hX zbf rfl id ?_|refine zaa hX zbf rfl ⟨id,id⟩ ?_));refine AWP.ret ⟨.inr rfl,zat rfl trivial rfl rfl ?_⟩;show (2:Int)=zbh r;unfold zbh;rw[if_pos (.inr (ztW hlt hc))]
  ·have hc:=hq.symm.trans hc;apply zac;(repeat(first|apply zae|apply zac|apply zab|apply zad));refine zaa hX zbf rfl ?_ ?_
   ·exact zaF (by omega)
   exact⟨i+1,⟨hlt,fun j hj=>by
    by_cases e:j=i
    ·rw[e];exact hc
    ·exact hn j (by omega)⟩,by omega,⟨rfl,rfl,zcg _,trivial⟩,trivial,rfl,rfl⟩
 have hb:decide ((i:Int) < (r.length:Nat))=false:=hb;have hb:=of_decide_eq_false hb;obtain rfl:i=r.length:=by omega
 have hbig:r.any bigN=false:=by
  rw[List.any_eq_false];intro x hx;obtain⟨j,hj,rfl⟩:=List.mem_iff_getElem.1 hx;have:=hn j hj;rw[zeI,List.getD_eq_getElem?_getD,List.getElem?_eq_getElem hj]at this;rw[show r[j]=(some r[j]).getD zNd from rfl,this];decide
 have hV:zbh r=if wfS r=true then 0 else 1:=by
  unfold zbh;rw[if_neg (by rw[hbig];rintro (h|h)<;>first|omega|cases h)]
 clear hn hi;apply zad;(repeat(first|apply zae|apply zac|apply zab|apply zad));refine zaa hX zbf rfl ?_ ?_
 ·repeat'(first|exact trivial|assumption|exact hl64|(refine⟨?_,?_⟩)|(intro _)|exact Nat.le_of_ble_eq_true rfl|exact Int.natCast_nonneg _|(simp_all [allP];done))
 have hc3:(((zdP.length:Nat):Int))=3:=rfl;refine zaq (σ':=⟨[(0,⟨.slice nd,r⟩),(1,⟨.slice cal,zdP⟩),(6,⟨.bool,wfS r⟩)],[],0⟩) ⟨⟨rfl,rfl,zc6 (by show (bif wfS r then decide (((zdP.length:Nat):Int)≤3) else false)=wfS r;rw[hc3];cases wfS r<;>rfl),trivial⟩,trivial,rfl,rfl⟩ ?_;(repeat(first|apply zae|apply zac|apply zab|apply zad));refine zaa hX zbf rfl ?_ ?_
 ·trivial
 cases hw:wfS r with
 |false=>
  rw[hw]at hV;(repeat(first|apply zae|apply zac|apply zab|apply zad));refine AWP.loop (ι:=Unit) (fun _=>⟨[(0,⟨.slice nd,r⟩),(1,⟨.slice cal,zdP⟩),(6,⟨.bool,false⟩),(7,⟨i64,(0:Int)⟩)],[],0⟩) (fun _=>True) (fun _=>0) () trivial ⟨⟨rfl,rfl,rfl,rfl,trivial⟩,trivial,rfl,rfl⟩ ?_;intro _ _;(repeat(first|apply zae|apply zac|apply zab|apply zad));refine zaa hX zbf rfl ?_ ?_
  ·repeat'(first|exact trivial|assumption|(refine⟨?_,?_⟩)|(intro _)|exact Nat.le_of_ble_eq_true rfl|exact Int.natCast_nonneg _|(simp_all [allP];done))
  refine zaf rfl (fun hb=>?_) (fun _=>?_)
  ·have hb:(bif decide ((0:Int) < ((zdP.length:Nat):Int)) then false else false)=true:=hb;cases hb
  apply zad;(repeat(first|apply zae|apply zac|apply zab|apply zad));refine zaa hX zbf rfl ?_ ?_
  ·trivial
  (repeat(first|apply zae|apply zac|apply zab|apply zad));refine AWP.loop (ι:=Unit) (fun _=>⟨[(0,⟨.slice nd,r⟩),(1,⟨.slice cal,zdP⟩),(6,⟨.bool,false⟩),(8,⟨i64,(0:Int)⟩)],[],0⟩) (fun _=>True) (fun _=>0) () trivial ⟨⟨rfl,rfl,rfl,rfl,trivial⟩,trivial,rfl,rfl⟩ ?_;intro _ _;(repeat(first|apply zae|apply zac|apply zab|apply zad));refine zaa hX zbf rfl ?_ ?_
  ·repeat'(first|exact trivial|assumption|(refine⟨?_,?_⟩)|(intro _)|exact Nat.le_of_ble_eq_true rfl|exact Int.natCast_nonneg _|(simp_all [allP];done))
  refine zaf rfl (fun hb=>?_) (fun _=>?_)
  ·have hb:(bif decide ((0:Int) < ((r.length:Nat):Int)) then false else false)=true:=hb;generalize decide ((0:Int) < ((r.length:Nat):Int))=d at hb;cases d<;>cases hb
  apply zad;(repeat(first|apply zae|apply zac|apply zab|apply zad));refine zaa hX zbf rfl ?_ ?_
  ·trivial
  refine zaf rfl (fun _=>?_) (fun hb=>absurd (show true=false from hb) (by decide));(repeat(first|apply zae|apply zac|apply zak|apply zad|apply zab|refine zaa hX zbf rfl trivial ?_|refine zaa hX zbf rfl id ?_|refine zaa hX zbf rfl ⟨id,id⟩ ?_));refine AWP.ret ⟨.inr rfl,zat rfl trivial rfl rfl ?_⟩;show (1:Int)=zbh r;rw[hV];rfl
 |true=>
  rw[hw]at hV;have hnd:=zdt.1 (zb1 hw).2.1;(repeat(first|apply zae|apply zac|apply zab|apply zad));refine AWP.loop (ι:=Nat) (fun i=>⟨[(0,⟨.slice nd,r⟩),(1,⟨.slice cal,zdP⟩),(6,⟨.bool,true⟩),(7,⟨i64,(i:Int)⟩)],[],0⟩) (fun i=>i≤3) (fun i=>3 - i) 0 (Nat.zero_le _) ⟨⟨rfl,rfl,rfl,rfl,trivial⟩,trivial,rfl,rfl⟩ ?_;intro i hi;(repeat(first|apply zae|apply zac|apply zab|apply zad));refine zaa hX zbf rfl ?_ ?_
  ·repeat'(first|exact trivial|assumption|(refine⟨?_,?_⟩)|(intro _)|exact Nat.le_of_ble_eq_true rfl|exact Int.natCast_nonneg _|(simp_all [allP];done))
  refine zaf rfl (fun hb=>?_) (fun hb=>?_)
  ·have hb:(bif decide ((i:Int) < ((zdP.length:Nat):Int)) then true else false)=true:=hb;rw[hc3]at hb;have hb:(i:Int) < 3:=by
    by_cases h:(i:Int) < 3
    ·exact h
    ·rw[decide_eq_false h]at hb;cases hb
   have z0:(0:Int)≤(i:Int):=by omega
   have z1:(i:Int) < ((zdP.length:Nat):Int):=by rw[hc3];exact hb
   have hcl:zgO (zdP.getD ((i:Int)).toNat (zaA cal)):=by
    rcases (show i=0∨i=1∨i=2 by omega) with rfl|rfl|rfl
    ·exact zjo 0 (by decide)
    ·exact zjo 1 (by decide)
    ·exact zjo 2 (by decide)
   (repeat(first|apply zae|apply zac|apply zab|apply zad));refine zaa hX zbf rfl ?_ ?_
   ·exact⟨z0,z1,hcl⟩
   (repeat(first|apply zae|apply zac|apply zab|apply zad));refine zaa hX zbf rfl ?_ ?_
   ·exact zaF (by omega)
   exact⟨i+1,by omega,by omega,⟨rfl,rfl,rfl,zcg _,trivial⟩,trivial,rfl,rfl⟩
  apply zad;(repeat(first|apply zae|apply zac|apply zab|apply zad));refine zaa hX zbf rfl ?_ ?_
  ·trivial
  (repeat(first|apply zae|apply zac|apply zab|apply zad));refine AWP.loop (ι:=Nat) (fun i=>⟨[(0,⟨.slice nd,r⟩),(1,⟨.slice cal,zdP⟩),(6,⟨.bool,true⟩),(8,⟨i64,(i:Int)⟩)],[],0⟩) (fun i=>i≤r.length) (fun i=>r.length - i) 0 (Nat.zero_le _) ⟨⟨rfl,rfl,rfl,rfl,trivial⟩,trivial,rfl,rfl⟩ ?_;intro i hi;(repeat(first|apply zae|apply zac|apply zab|apply zad));refine zaa hX zbf rfl ?_ ?_
  ·repeat'(first|exact trivial|assumption|(refine⟨?_,?_⟩)|(intro _)|exact Nat.le_of_ble_eq_true rfl|exact Int.natCast_nonneg _|(simp_all [allP];done))
  refine zaf rfl (fun hb=>?_) (fun hb=>?_)
  ·have hb:(bif decide ((i:Int) < ((r.length:Nat):Int)) then true else false)=true:=hb;have hb:(i:Int) < ((r.length:Nat):Int):=by
    by_cases h:(i:Int) < ((r.length:Nat):Int)
    ·exact h
    ·rw[decide_eq_false h]at hb;cases hb
   have hlt:i < r.length:=by omega
   have z0:(0:Int)≤(i:Int):=by omega
   have z2:((i:Int)).toNat < r.length:=by omega
   obtain⟨hf,_⟩:=(Bool.and_eq_true _ _).mp (hnd i hlt);obtain⟨⟨k1,k2⟩,_,hcal,_⟩:=zaC hf;have k1:1≤(r.getD ((i:Int)).toNat (zaA nd)).1:=k1;have k2:(r.getD ((i:Int)).toNat (zaA nd)).1≤18:=k2;have hC:ndC (r.getD i zNd) < 3:=by
    unfold zdE at hcal;cases hu:(zbH (ndK (r.getD i zNd))).2.1 with
    |true=>
     rw[hu]at hcal;have:=(zaG.1 hcal).2;omega
    |false=>
     rw[hu]at hcal;have:=eq_of_beq (show (ndC (r.getD i zNd)==0)=true from hcal);omega
   have hC:decide ((r.getD ((i:Int)).toNat (zaA nd)).2.1 < ((zdP.length:Nat):Int))=true:=decide_eq_true (by rw[hc3];exact hC);(repeat(first|apply zae|apply zac|apply zab|apply zad));refine zaa hX zbf rfl ?_ ?_
   ·cases zgG.out ((r.getD ((i:Int)).toNat (zaA nd)).1,())
    all_goals
     (repeat'(first|exact trivial|assumption|exact z0|exact hb|exact z2|exact k1|exact k2|rfl|(intro h;exact absurd h Bool.false_ne_true)|(refine⟨?_,?_⟩)|(intro _)))
   (repeat(first|apply zae|apply zac|apply zab|apply zad));refine zaa hX zbf rfl ?_ ?_
   ·exact zaF (by omega)
   refine⟨i+1,hlt,by omega,⟨rfl,rfl,zc6 ?_,zcg _,trivial⟩,trivial,rfl,rfl⟩;show (bif !zgG.out ((r.getD ((i:Int)).toNat (zaA nd)).1,()) then true else decide ((r.getD ((i:Int)).toNat (zaA nd)).2.1 < ((zdP.length:Nat):Int)))=true;rw[hC];cases zgG.out ((r.getD ((i:Int)).toNat (zaA nd)).1,())<;>rfl
  ·apply zad;(repeat(first|apply zae|apply zac|apply zab|apply zad));refine zaa hX zbf rfl ?_ ?_
   ·trivial
   refine zaf rfl (fun hb=>absurd (show false=true from hb) (by decide)) (fun _=>?_);(repeat(first|apply zae|apply zac|apply zak|apply zad|apply zab|refine zaa hX zbf rfl trivial ?_|refine zaa hX zbf rfl id ?_|refine zaa hX zbf rfl ⟨id,id⟩ ?_));refine AWP.ret ⟨.inr rfl,zat rfl trivial rfl rfl ?_⟩;show (0:Int)=zbh r;rw[hV];rfl
theorem zo2:CtrOk Tryz.prog gmH 155 zmC:=by
 refine zan (K:=gmK) zai Tryz.func155 rfl rfl Tryz.call155 rfl (by decide) (by intro h;cases h) ?_;rintro w0 X hX ⟨(k:Int),_⟩ hp;change AWP _ _ _ _ _ ⟨[(0,⟨i64,k⟩)],[],0⟩ _;(repeat(first|apply zae|apply zac|apply zab|apply zad));refine zaa hX zai rfl ?_ ?_
 ·trivial
 (repeat(first|apply zae|apply zac|apply zab|apply zad));refine zaa hX zai rfl ?_ ?_
 ·trivial
 apply zab;(repeat(first|apply zae|apply zac|apply zab|apply zad));refine zaa hX zai rfl ?_ ?_
 ·trivial
 refine zaf rfl (fun h=>?_) (fun h=>?_)
 ·have h:k=9:=eq_of_beq h;(repeat(first|apply zae|apply zac|apply zak|apply zad|apply zab|refine zaa hX zai rfl trivial ?_|refine zaa hX zai rfl id ?_|refine zaa hX zai rfl ⟨id,id⟩ ?_));refine AWP.ret ⟨.inr rfl,zat rfl trivial rfl rfl ?_⟩;show (1:Int)=levS k;rw[h];rfl
 have h9:k≠9:=fun e=>by have h:(k==9)=false:=h;rw[e]at h;cases h
 (repeat(first|apply zae|apply zac|apply zab|apply zad));refine zaa hX zai rfl ?_ ?_
 ·trivial
 refine zaf rfl (fun h=>?_) (fun h=>?_)
 ·have h:k=10:=eq_of_beq h;(repeat(first|apply zae|apply zac|apply zak|apply zad|apply zab|refine zaa hX zai rfl trivial ?_|refine zaa hX zai rfl id ?_|refine zaa hX zai rfl ⟨id,id⟩ ?_));refine AWP.ret ⟨.inr rfl,zat rfl trivial rfl rfl ?_⟩;show (2:Int)=levS k;rw[h];rfl
 have h10:k≠10:=fun e=>by have h:(k==10)=false:=h;rw[e]at h;cases h
 (repeat(first|apply zae|apply zac|apply zab|apply zad));refine zaa hX zai rfl ?_ ?_
 ·trivial
 refine zaf rfl (fun h=>?_) (fun h=>?_)
 ·have h:k=8:=eq_of_beq h;(repeat(first|apply zae|apply zac|apply zak|apply zad|apply zab|refine zaa hX zai rfl trivial ?_|refine zaa hX zai rfl id ?_|refine zaa hX zai rfl ⟨id,id⟩ ?_));refine AWP.ret ⟨.inr rfl,zat rfl trivial rfl rfl ?_⟩;show (3:Int)=levS k;rw[h];rfl
 have h8:k≠8:=fun e=>by have h:(k==8)=false:=h;rw[e]at h;cases h
 have hq:(bif decide (k≥11) then decide (k≤17) else false)=decide (11≤k∧k≤17):=by
  rw[zdf,Bool.eq_iff_iff,Bool.and_eq_true,decide_eq_true_iff,decide_eq_true_iff,decide_eq_true_iff]
 apply zac;(repeat(first|apply zae|apply zac|apply zab|apply zad));refine zaa hX zai rfl ?_ ?_
 ·repeat'(first|exact trivial|assumption|(refine⟨?_,?_⟩)|(intro _)|exact Nat.le_of_ble_eq_true rfl|exact Int.natCast_nonneg _|(simp_all [allP];done))
 have hL:levS k=if 11≤k∧k≤17 then 4 else 5:=by
  unfold levS;rw[if_neg h9,if_neg h10,if_neg h8]
 refine zaf rfl (fun h=>?_) (fun h=>?_)
 ·have h:=of_decide_eq_true (hq.symm.trans h);(repeat(first|apply zae|apply zac|apply zak|apply zad|apply zab|refine zaa hX zai rfl trivial ?_|refine zaa hX zai rfl id ?_|refine zaa hX zai rfl ⟨id,id⟩ ?_));refine AWP.ret ⟨.inr rfl,zat rfl trivial rfl rfl ?_⟩;show (4:Int)=levS k;rw[hL,if_pos h]
 ·have h:=of_decide_eq_false (hq.symm.trans h);(repeat(first|apply zae|apply zac|apply zak|apply zad|apply zab|refine zaa hX zai rfl trivial ?_|refine zaa hX zai rfl id ?_|refine zaa hX zai rfl ⟨id,id⟩ ?_));refine AWP.ret ⟨.inr rfl,zat rfl trivial rfl rfl ?_⟩;show (5:Int)=levS k;rw[hL,if_neg h]
def scR (n:Int):List UInt8:=if n=1 then zd1 else zig
theorem zn6 (n:Int):zcr n=32::scR n:=by unfold zcr scR;split<;>rfl
theorem zob (n:Int):(scR n).length≤10:=by unfold scR;split<;>decide
def zpL:Ctr:={ args:=[i64],pre:=fun _=>[],res:=.str,own:=none,out:=fun x=>scR x.1 }
theorem zn8:CtrOk Tryz.prog gmH 109 zpL:=by
 refine zan (K:=gmK) zai Tryz.func109 rfl rfl Tryz.call109 rfl (by decide) (by intro h;cases h) ?_;rintro w0 X hX ⟨(k:Int),_⟩ hp;change AWP _ _ _ _ _ ⟨[(0,⟨i64,k⟩)],[],0⟩ _;(repeat(first|apply zae|apply zac|apply zab|apply zad));refine zaa hX zai rfl ?_ ?_
 ·trivial
 (repeat(first|apply zae|apply zac|apply zab|apply zad));refine zaa hX zai rfl ?_ ?_
 ·trivial
 refine zaf rfl (fun h=>?_) (fun h=>?_)
 ·have h:k=1:=eq_of_beq h;(repeat(first|apply zae|apply zac|apply zak|apply zad|apply zab|refine zaa hX zai rfl trivial ?_|refine zaa hX zai rfl id ?_|refine zaa hX zai rfl ⟨id,id⟩ ?_));refine AWP.ret ⟨.inr rfl,zat rfl trivial rfl rfl ?_⟩;show _=scR k;rw[h];rfl
 ·have h1:k≠1:=fun e=>by have h:(k==1)=false:=h;rw[e]at h;cases h
  (repeat(first|apply zae|apply zac|apply zak|apply zad|apply zab|refine zaa hX zai rfl trivial ?_|refine zaa hX zai rfl id ?_|refine zaa hX zai rfl ⟨id,id⟩ ?_));refine AWP.ret ⟨.inr rfl,zat rfl trivial rfl rfl ?_⟩;show _=scR k;unfold scR;rw[if_neg h1];rfl
def lstJ (l:List Int):List UInt8:=(litS 0 l).drop 1
def lstR (l:List Int):List UInt8:=if l=[] then [40,41] else lstJ l++ [41]
theorem zle {l:List Int} (h:l≠ []):zch l=32::lstR l:=by
 cases l with
 |nil=>exact absurd rfl h
 |cons x r=>
  unfold lstR zch;rw[if_neg (by simp)];rfl
theorem zl6 {l:List Int} (h:∀ n∈l,zbQ n):(lstJ l).length≤20 * l.length:=by
 have:=zeK l 0 h;unfold lstJ;rw[List.length_drop];omega
theorem zoS (l:List Int) (n:Int):(if l++ [n]=[] then [40] else lstJ (l++ [n]))=(if l=[] then [40] else lstJ l)++(if l=[] then [] else [32])++deI n:=by
 rw[if_neg (by simp)];cases l with
 |nil=>
  rw[if_pos rfl,if_pos rfl];show ((sepS 0++deI n++ []).drop 1:List UInt8)=[40]++ []++deI n;simp[sepS]
 |cons x r=>
  rw[if_neg (by simp),if_neg (by simp)];unfold lstJ;rw[zht];show (sepS 0++deI x++litS 1 r++(sepS (0+(r.length+1))++deI n)).drop 1=_;rw[show sepS (0+(r.length+1))=[32] from if_neg (by omega)];show _=(sepS 0++deI x++litS 1 r).drop 1++ [32]++deI n;simp[sepS]
theorem bufS {x y:List UInt8} (h:x=y):(⟨.str,x⟩:V)=⟨.str,y⟩:=by rw[h]
def zsb:Ctr:={ args:=[ints],pre:=fun x=>[List.length x.1≤1000,∀ n∈(x.1:List Int),zbQ n],res:=.str,own:=none,out:=fun x=>lstR x.1 }
def kLi7:Kn:={ gmK with C:=[(107,cDec)] }
theorem zdc:KnOk Tryz.prog gmH kLi7:=zai.with (.cons zr3.lift .nil)
theorem zqV:CtrOk Tryz.prog gmH 108 zsb:=by
 refine zan (K:=kLi7) zdc Tryz.func108 rfl rfl Tryz.call108 rfl (by decide) (by intro h;cases h) ?_;rintro w0 X hX ⟨(l:List Int),_⟩ hp;obtain⟨hl,hn⟩:l.length≤1000∧∀ n∈l,zbQ n:=hp;change AWP _ _ _ _ _ ⟨[(0,⟨ints,l⟩)],[],0⟩ _;(repeat(first|apply zae|apply zac|apply zab|apply zad));refine zaa hX zdc rfl ?_ ?_
 ·trivial
 (repeat(first|apply zae|apply zac|apply zab|apply zad));refine zaa hX zdc rfl ?_ ?_
 ·trivial
 (repeat(first|apply zae|apply zac|apply zab|apply zad));refine zaa hX zdc rfl ?_ ?_
 ·trivial
 (repeat(first|apply zae|apply zac|apply zab|apply zad));refine AWP.loop (ι:=Nat) (fun i=>⟨[(0,⟨ints,l⟩),(3,⟨.str,if l.take i=[] then [40] else lstJ (l.take i)⟩),(4,⟨i64,(i:Int)⟩)],[],0⟩) (fun i=>i≤l.length) (fun i=>l.length - i) 0 (Nat.zero_le _) ⟨⟨rfl,rfl,rfl,trivial⟩,trivial,rfl,rfl⟩ ?_;intro i hi;have hlen:(if l.take i=[] then [40] else lstJ (l.take i):List UInt8).length≤20001:=by
  split
  ·decide
  ·have:=zl6 (l:=l.take i) (fun n h=>hn n (List.mem_of_mem_take h));rw[List.length_take]at this;omega
 (repeat(first|apply zae|apply zac|apply zab|apply zad));refine zaa hX zdc rfl ?_ ?_
 ·trivial
 refine zaf rfl (fun hb=>?_) (fun hb=>?_)
 ·have hb:decide ((i:Int) < ((l.length:Nat):Int))=true:=hb;have hb:=of_decide_eq_true hb;have hlt:i < l.length:=by omega
  have hsn:=zoS (l.take i) l[i];rw[<-List.take_succ_eq_append_getElem hlt]at hsn;have ht0:l.take i=[]↔i=0:=by
   constructor
   ·intro e;have:=congrArg List.length e;rw[List.length_take,List.length_nil]at this;omega
   ·rintro rfl;rfl
  generalize (if l.take i=[] then [40] else lstJ (l.take i):List UInt8)=p at *;have z0:(0:Int)≤(i:Int):=by omega
  have z2:((i:Int)).toNat < l.length:=by omega
  have hget:l.getD ((i:Int)).toNat 0=l[i]:=by rw[Int.toNat_natCast,List.getD_eq_getElem?_getD,List.getElem?_eq_getElem hlt];rfl
  obtain⟨y0,y1⟩:=hn _ (List.getElem_mem hlt);have y0': -100000000000000000 < l.getD ((i:Int)).toNat 0:=by rw[hget];exact y0
  have y1':l.getD ((i:Int)).toNat 0 < 100000000000000000:=by rw[hget];exact y1
  have yl:(deI (l.getD ((i:Int)).toNat 0)).length≤18:=zdB y0' y1';have m1:p.length+1≤maxLen:=by unfold maxLen;omega
  have m2:p.length+(deI (l.getD ((i:Int)).toNat 0)).length≤maxLen:=by unfold maxLen;omega
  have m3:(p++ [32]:List UInt8).length+(deI (l.getD ((i:Int)).toNat 0)).length≤maxLen:=by rw[List.length_append];show p.length+1+_≤_;unfold maxLen;omega
  have e1:l.length - (i+1) < l.length - i:=by omega
  have fin:inR .i64 ((i:Int)+1):=zaF (by omega);(repeat(first|apply zae|apply zac|apply zab|apply zad));refine zaa hX zdc rfl ?_ ?_
  ·trivial
  refine zaf rfl (fun hc=>?_) (fun hc=>?_)
  ·have hc:decide ((i:Int) > 0)=true:=hc;have hc:=of_decide_eq_true hc;(repeat(first|apply zae|apply zac|apply zab|apply zad));refine zaa hX zdc rfl ?_ ?_
   ·exact m1
   (repeat(first|apply zae|apply zac|apply zab|apply zad));refine zaa hX zdc rfl ?_ ?_
   ·repeat'(first|exact trivial|assumption|exact z0|exact hb|exact z2|exact y0'|exact y1'|exact m3|(refine⟨?_,?_⟩)|(intro _)|exact Nat.le_of_ble_eq_true rfl|exact Int.natCast_nonneg _|(simp_all [allP];done))
   (repeat(first|apply zae|apply zac|apply zab|apply zad));refine zaa hX zdc rfl ?_ ?_
   ·exact fin
   refine⟨i+1,hlt,e1,⟨rfl,bufS ?_,zcg _,trivial⟩,trivial,rfl,rfl⟩;show p++ [32]++deI (l.getD ((i:Int)).toNat 0)=_;rw[hget,hsn,if_neg (by rw[ht0];omega)]
  ·have hc:decide ((i:Int) > 0)=false:=hc;have hc:=of_decide_eq_false hc;apply zac;(repeat(first|apply zae|apply zac|apply zab|apply zad));refine zaa hX zdc rfl ?_ ?_
   ·repeat'(first|exact trivial|assumption|exact z0|exact hb|exact z2|exact y0'|exact y1'|exact m2|(refine⟨?_,?_⟩)|(intro _)|exact Nat.le_of_ble_eq_true rfl|exact Int.natCast_nonneg _|(simp_all [allP];done))
   (repeat(first|apply zae|apply zac|apply zab|apply zad));refine zaa hX zdc rfl ?_ ?_
   ·exact fin
   refine⟨i+1,hlt,e1,⟨rfl,bufS ?_,zcg _,trivial⟩,trivial,rfl,rfl⟩;show p++deI (l.getD ((i:Int)).toNat 0)=_;rw[hget,hsn,if_pos (by rw[ht0];omega),List.append_nil]
 ·have hb:decide ((i:Int) < ((l.length:Nat):Int))=false:=hb;have hb:=of_decide_eq_false hb;obtain rfl:i=l.length:=by omega
  rw[List.take_length]at hlen ⊢;apply zad;have m1:(if l=[] then [40] else lstJ l:List UInt8).length+1≤maxLen:=by unfold maxLen;omega
  (repeat(first|apply zae|apply zac|apply zab|apply zad));refine zaa hX zdc rfl ?_ ?_
  ·exact m1
  refine AWP.ret ⟨.inr rfl,zat rfl trivial rfl rfl ?_⟩;show (if l=[] then [40] else lstJ l)++ [41]=lstR l;unfold lstR;split<;>rfl
theorem ze8 {a:Int} (ha:zbQ a):∀ x∈ [a],zbQ x:=fun x hx=>by rw[List.mem_singleton]at hx;subst hx;exact ha
theorem numL2 {a b:Int} (ha:zbQ a) (hb:zbQ b):∀ x∈ [a,b],zbQ x:=fun x hx=>by
 rcases List.mem_cons.1 hx with rfl|hx
 ·exact ha
 ·exact ze8 hb x hx
theorem zsO {a b c:Int} (ha:zbQ a) (hb:zbQ b) (hc:zbQ c):∀ x∈ [a,b,c],zbQ x:=fun x hx=>by
 rcases List.mem_cons.1 hx with rfl|hx
 ·exact ha
 ·exact numL2 hb hc x hx
def hLf:List (FuncId×HCtr):=[(100,cPut),(150,zmB)]
theorem zdW:HsOk Tryz.prog gmH hLf:=.cons zov <| .cons zl7 .nil
def kLf:Kn:={ gmK with C:=[(151,zpK)] }
theorem zaP:KnOk Tryz.prog gmH kLf:=zai.with (.cons zn7 .nil)
theorem zdS (n:Int):(zcr n).length≤10:=by
 unfold zcr;split
 ·decide
 ·decide
theorem cat3 (a b c:List UInt8):(a++b++c:List UInt8)=a++(b++c):=List.append_assoc a b c
@[reducible] def zpR:HCtr:=hW [nd] (fun x xs=>[List.length x.2.1+10000≤1000000000,zkO xs.1,1≤ndK xs.1,ndK xs.1≤7∨ndK xs.1=18]) fun x xs=>zcI xs.1
theorem zq3:zaB Tryz.prog gmH 103 zpR:=by
 refine zav (K:=_) zaP Tryz.func103 rfl rfl (zcD rfl) Tryz.call103 rfl (Nat.le_of_ble_eq_true rfl) (zdQ prT [107]) ?_;rintro w0 ⟨G,O,K,fix,D,ρ,B⟩ ty hX hG hK hρ hD hinv ⟨(b:Bool),(bf:List UInt8),(r:List Nd),⟨⟩⟩ ⟨(n:Nd),⟨⟩⟩ hp;obtain rfl:G=gmH:=hG;obtain rfl:K=1:=hK;obtain rfl:ρ=none:=hρ;obtain rfl:D=[]:=hD;have hI:=fun w R hR hw=>(⟨zaH (ty:=ty) hX rfl hinv.1 (ty':=ty) w R hR hw,hinv.2⟩:bInv prT [107] w R ty);obtain⟨hlen,⟨⟨hC,hN,hM⟩,hI',hil,hnl,hsc,-⟩,hk0,hkk⟩:bf.length+10000≤1000000000∧zkO n∧1≤ndK n∧(ndK n≤7∨ndK n=18):=hp;have hq0:bf.length+200+19 * 3≤1000000000:=by omega
 change AWP _ _ _ _ _ ⟨[(0,⟨.hptr,((0:Nat),(0:Nat))⟩),(1,⟨nd,n⟩)],wE ty b bf r,2⟩ (wQ _ zpR ty (.ok ((),(true,((bf++zcI n:List UInt8),(r,()))))));unfold zcI;(repeat(first|apply zae|apply zac|apply zab|apply zad));refine zaa hX zaP rfl ?_ ?_
 ·trivial
 (repeat(first|apply zae|apply zac|apply zab|apply zad));refine zaa hX zaP rfl ?_ ?_
 ·trivial
 apply zab;refine zaq (σ':=⟨[(0,⟨.hptr,((0:Nat),(0:Nat))⟩),(3,⟨.optr nd,⟨2,nd,.here⟩⟩),(5,⟨i64,ndK n⟩)],(2,some (.box nd n))::wE ty b bf r,3⟩) ⟨⟨rfl,rfl,rfl,trivial⟩,⟨rfl,rfl,rfl,trivial⟩,rfl,by cases b<;>rfl⟩ ?_;(repeat(first|apply zae|apply zac|apply zab|apply zad));refine zaa hX zaP rfl ?_ ?_
 ·trivial
 refine zaf rfl (fun hb=>?_) (fun hb=>?_)
 ·have hb:(ndK n==1)=true:=hb;have hk:=beq_iff_eq.1 hb;rw[if_pos hk];cases b
  all_goals
   (repeat(first|apply zae|apply zac|apply zab|apply zad));refine zaj ?_;refine AL.own 6 hX zaP zdW rfl trivial rfl rfl ⟨(by show List.length bf+List.length ziK+19 * 2≤1000000000;have:List.length ziK≤20:=(by decide);omega),(numL2 hN hM)⟩ hI ?_;exact AL.nil ⟨.inl rfl,⟨_,rfl,u8,1,_,rfl,rfl,rfl⟩,za7 (by decide) rfl rfl trivial rfl⟩
 have hb:(ndK n==1)=false:=hb;have hk1:ndK n≠1:=fun e=>by rw[beq_iff_eq.2 e]at hb;cases hb
 rw[if_neg hk1];(repeat(first|apply zae|apply zac|apply zab|apply zad));refine zaa hX zaP rfl ?_ ?_
 ·trivial
 refine zaf rfl (fun hb=>?_) (fun hb=>?_)
 ·have hb:(ndK n==2)=true:=hb;have hk:=beq_iff_eq.1 hb;rw[if_pos hk];cases b
  all_goals
   (repeat(first|apply zae|apply zac|apply zab|apply zad));refine zaj ?_;refine AL.own 8 hX zaP zdW rfl trivial rfl rfl ⟨(by show List.length bf+List.length zfi+19 * 3≤1000000000;have:List.length zfi≤20:=(by decide);omega),(zsO hC hN hM)⟩ hI ?_;exact AL.nil ⟨.inl rfl,⟨_,rfl,u8,1,_,rfl,rfl,rfl⟩,za7 (by decide) rfl rfl trivial rfl⟩
 have hb:(ndK n==2)=false:=hb;have hk2:ndK n≠2:=fun e=>by rw[beq_iff_eq.2 e]at hb;cases hb
 rw[if_neg hk2];(repeat(first|apply zae|apply zac|apply zab|apply zad));refine zaa hX zaP rfl ?_ ?_
 ·trivial
 refine zaf rfl (fun hb=>?_) (fun hb=>?_)
 ·have hb:(ndK n==3)=true:=hb;have hk:=beq_iff_eq.1 hb;rw[if_pos hk];refine AWP.via (σ':=⟨[(0,⟨.hptr,((0:Nat),(0:Nat))⟩),(3,⟨.optr nd,⟨2,nd,.here⟩⟩)],(2,some (.box nd n))::wE ty true ((bf++putS zcy [ndC n]:List UInt8)) r,3⟩) ?_ ?_
  ·cases b
   all_goals
    (repeat(first|apply zae|apply zac|apply zab|apply zad));refine zaj ?_;refine AL.own 4 hX zaP zdW rfl trivial rfl rfl ⟨(by show List.length bf+List.length zcy+19 * 1≤1000000000;have:List.length zcy≤20:=(by decide);omega),(ze8 hC)⟩ hI ?_;exact AL.nil ⟨⟨rfl,rfl,trivial⟩,⟨rfl,rfl,rfl,trivial⟩,rfl,rfl⟩
  have hl2:List.length (bf++putS zcy [ndC n]:List UInt8)+20 * List.length (ndI n)+1≤1000000000:=by
   have:=zbJ (ze8 hC);have hw:List.length zcy≤20:=by decide
   simp only[putS,List.length_append,List.length_cons,List.length_nil]at this ⊢;omega
  rw[show (bf++(putS zcy [ndC n]++zch (ndI n)):List UInt8)=bf++putS zcy [ndC n]++zch (ndI n) from (cat3 _ _ _).symm];(repeat(first|apply zae|apply zac|apply zab|apply zad));refine zaj ?_;refine AL.own 3 hX zaP zdW rfl trivial rfl rfl ⟨hl2,hI'⟩ hI ?_;exact AL.nil ⟨.inl rfl,⟨_,rfl,u8,1,_,rfl,rfl,rfl⟩,za7 (by decide) rfl rfl trivial rfl⟩
 have hb:(ndK n==3)=false:=hb;have hk3:ndK n≠3:=fun e=>by rw[beq_iff_eq.2 e]at hb;cases hb
 rw[if_neg hk3];(repeat(first|apply zae|apply zac|apply zab|apply zad));refine zaa hX zaP rfl ?_ ?_
 ·trivial
 refine zaf rfl (fun hb=>?_) (fun hb=>?_)
 ·have hb:(ndK n==4)=true:=hb;have hk:=beq_iff_eq.1 hb;rw[if_pos hk];refine AWP.via (σ':=⟨[(0,⟨.hptr,((0:Nat),(0:Nat))⟩),(3,⟨.optr nd,⟨2,nd,.here⟩⟩)],(2,some (.box nd n))::wE ty true ((bf++putS za3 [ndC n]:List UInt8)) r,3⟩) ?_ ?_
  ·cases b
   all_goals
    (repeat(first|apply zae|apply zac|apply zab|apply zad));refine zaj ?_;refine AL.own 4 hX zaP zdW rfl trivial rfl rfl ⟨(by show List.length bf+List.length za3+19 * 1≤1000000000;have:List.length za3≤20:=(by decide);omega),(ze8 hC)⟩ hI ?_;exact AL.nil ⟨⟨rfl,rfl,trivial⟩,⟨rfl,rfl,rfl,trivial⟩,rfl,rfl⟩
  have hl2:List.length (bf++putS za3 [ndC n]:List UInt8)+20 * List.length (ndI n)+1≤1000000000:=by
   have:=zbJ (ze8 hC);have hw:List.length za3≤20:=by decide
   simp only[putS,List.length_append,List.length_cons,List.length_nil]at this ⊢;omega
  rw[show (bf++(putS za3 [ndC n]++zch (ndI n)):List UInt8)=bf++putS za3 [ndC n]++zch (ndI n) from (cat3 _ _ _).symm];(repeat(first|apply zae|apply zac|apply zab|apply zad));refine zaj ?_;refine AL.own 3 hX zaP zdW rfl trivial rfl rfl ⟨hl2,hI'⟩ hI ?_;exact AL.nil ⟨.inl rfl,⟨_,rfl,u8,1,_,rfl,rfl,rfl⟩,za7 (by decide) rfl rfl trivial rfl⟩
 have hb:(ndK n==4)=false:=hb;have hk4:ndK n≠4:=fun e=>by rw[beq_iff_eq.2 e]at hb;cases hb
 rw[if_neg hk4];(repeat(first|apply zae|apply zac|apply zab|apply zad));refine zaa hX zaP rfl ?_ ?_
 ·trivial
 refine zaf rfl (fun hb=>?_) (fun hb=>?_)
 ·have hb:(ndK n==5)=true:=hb;have hk:=beq_iff_eq.1 hb;rw[if_pos hk];refine AWP.via (σ':=⟨[(0,⟨.hptr,((0:Nat),(0:Nat))⟩),(3,⟨.optr nd,⟨2,nd,.here⟩⟩)],(2,some (.box nd n))::wE ty true ((bf++putS zbl []:List UInt8)) r,3⟩) ?_ ?_
  ·cases b
   all_goals
    (repeat(first|apply zae|apply zac|apply zab|apply zad));refine zaj ?_;refine AL.own 1 hX zaP zdW rfl trivial rfl rfl ⟨(by show List.length bf+List.length zbl+19 * 0≤1000000000;have:List.length zbl≤20:=(by decide);omega),(fun x hx=>by cases hx)⟩ hI ?_;exact AL.nil ⟨⟨rfl,rfl,trivial⟩,⟨rfl,rfl,rfl,trivial⟩,rfl,rfl⟩
  have hl2:List.length (bf++putS zbl []:List UInt8)+20 * List.length (ndI n)+1≤1000000000:=by
   have:=zbJ (l:=[]) (fun x hx=>by cases hx);have hw:List.length zbl≤20:=by decide
   simp only[putS,List.length_append,List.length_cons,List.length_nil]at this ⊢;omega
  rw[show (bf++(putS zbl []++zch (ndI n)):List UInt8)=bf++putS zbl []++zch (ndI n) from (cat3 _ _ _).symm];(repeat(first|apply zae|apply zac|apply zab|apply zad));refine zaj ?_;refine AL.own 3 hX zaP zdW rfl trivial rfl rfl ⟨hl2,hI'⟩ hI ?_;exact AL.nil ⟨.inl rfl,⟨_,rfl,u8,1,_,rfl,rfl,rfl⟩,za7 (by decide) rfl rfl trivial rfl⟩
 have hb:(ndK n==5)=false:=hb;have hk5:ndK n≠5:=fun e=>by rw[beq_iff_eq.2 e]at hb;cases hb
 rw[if_neg hk5];(repeat(first|apply zae|apply zac|apply zab|apply zad));refine zaa hX zaP rfl ?_ ?_
 ·trivial
 refine zaf rfl (fun hb=>?_) (fun hb=>?_)
 ·have hb:(ndK n==6)=true:=hb;have hk:=beq_iff_eq.1 hb;rw[if_pos hk];refine AWP.via (σ':=⟨[(0,⟨.hptr,((0:Nat),(0:Nat))⟩),(3,⟨.optr nd,⟨2,nd,.here⟩⟩)],(2,some (.box nd n))::wE ty true ((bf++putS zdr [ndC n]:List UInt8)) r,3⟩) ?_ ?_
  ·cases b
   all_goals
    (repeat(first|apply zae|apply zac|apply zab|apply zad));refine zaj ?_;refine AL.own 4 hX zaP zdW rfl trivial rfl rfl ⟨(by show List.length bf+List.length zdr+19 * 1≤1000000000;have:List.length zdr≤20:=(by decide);omega),(ze8 hC)⟩ hI ?_;exact AL.nil ⟨⟨rfl,rfl,trivial⟩,⟨rfl,rfl,rfl,trivial⟩,rfl,rfl⟩
  have hl2:List.length (bf++putS zdr [ndC n]:List UInt8)+20 * List.length (ndI n)+1≤1000000000:=by
   have:=zbJ (ze8 hC);have hw:List.length zdr≤20:=by decide
   simp only[putS,List.length_append,List.length_cons,List.length_nil]at this ⊢;omega
  rw[show (bf++(putS zdr [ndC n]++zch (ndI n)):List UInt8)=bf++putS zdr [ndC n]++zch (ndI n) from (cat3 _ _ _).symm];(repeat(first|apply zae|apply zac|apply zab|apply zad));refine zaj ?_;refine AL.own 3 hX zaP zdW rfl trivial rfl rfl ⟨hl2,hI'⟩ hI ?_;exact AL.nil ⟨.inl rfl,⟨_,rfl,u8,1,_,rfl,rfl,rfl⟩,za7 (by decide) rfl rfl trivial rfl⟩
 have hb:(ndK n==6)=false:=hb;have hk6:ndK n≠6:=fun e=>by rw[beq_iff_eq.2 e]at hb;cases hb
 rw[if_neg hk6];(repeat(first|apply zae|apply zac|apply zab|apply zad));refine zaa hX zaP rfl ?_ ?_
 ·trivial
 refine zaf rfl (fun hb=>?_) (fun hb=>?_)
 ·have hb:(ndK n==7)=true:=hb;have hk:=beq_iff_eq.1 hb;rw[if_pos hk];obtain⟨hs0,hs1⟩:=hsc hk;refine AWP.via (σ':=⟨[(0,⟨.hptr,((0:Nat),(0:Nat))⟩),(3,⟨.optr nd,⟨2,nd,.here⟩⟩)],(2,some (.box nd n))::wE ty true ((bf++putS wNth [ndC n,ndN n,ndM n]:List UInt8)) r,3⟩) ?_ ?_
  ·cases b
   all_goals
    (repeat(first|apply zae|apply zac|apply zab|apply zad));refine zaj ?_;refine AL.own 8 hX zaP zdW rfl trivial rfl rfl ⟨(by show List.length bf+List.length wNth+19 * 3≤1000000000;have:List.length wNth≤20:=(by decide);omega),(zsO hC hN hM)⟩ hI ?_;exact AL.nil ⟨⟨rfl,rfl,trivial⟩,⟨rfl,rfl,rfl,trivial⟩,rfl,rfl⟩
  have hl2:List.length (bf++putS wNth [ndC n,ndN n,ndM n]:List UInt8)+List.length (zcr (ndL n))+19 * 0≤1000000000:=by
   have:=zbJ (zsO hC hN hM);have hw:List.length wNth≤20:=by decide
   have hs:=zdS (ndL n);simp only[putS,List.length_append,List.length_cons,List.length_nil]at this ⊢;omega
  rw[show (bf++(putS wNth [ndC n,ndN n,ndM n]++putS (zcr (ndL n)) []):List UInt8)=bf++putS wNth [ndC n,ndN n,ndM n]++putS (zcr (ndL n)) [] from (cat3 _ _ _).symm];(repeat(first|apply zae|apply zac|apply zab|apply zad));refine zaj ?_;refine AL.own 4 hX zaP zdW rfl ⟨hs0,hs1⟩ rfl rfl ⟨hl2,fun x hx=>by cases hx⟩ hI ?_;exact AL.nil ⟨.inl rfl,⟨_,rfl,u8,1,_,rfl,rfl,rfl⟩,za7 (by decide) rfl rfl trivial rfl⟩
 have hb:(ndK n==7)=false:=hb;have hk7:ndK n≠7:=fun e=>by rw[beq_iff_eq.2 e]at hb;cases hb
 rw[if_neg hk7];(repeat(first|apply zae|apply zac|apply zab|apply zad));refine zaa hX zaP rfl ?_ ?_
 ·trivial
 refine zaf rfl (fun hb=>?_) (fun hb=>?_)
 ·have hb:(ndK n==18)=true:=hb;have hk:=beq_iff_eq.1 hb;rw[if_pos hk];have hcat:1+List.length (ndS n)≤maxLen:=by unfold maxLen;omega
  have hl2:List.length bf+List.length (wAt++ndS n:List UInt8)+19 * 0≤1000000000:=by
   rw[List.length_append];show _+(1+_)+_≤_;omega
  cases b
  all_goals
   (repeat(first|apply zae|apply zac|apply zab|apply zad));refine zaj ?_;refine AL.own 4 hX zaP zdW rfl hcat rfl rfl ⟨hl2,fun x hx=>by cases hx⟩ hI ?_;exact AL.nil ⟨.inl rfl,⟨_,rfl,u8,1,_,rfl,rfl,rfl⟩,za7 (by decide) rfl rfl trivial rfl⟩
 have hb:(ndK n==18)=false:=hb;have hk18:ndK n≠18:=fun e=>by rw[beq_iff_eq.2 e]at hb;cases hb
 rw[if_neg hk18];exfalso;omega
def WfP (r:List Nd):Prop:=r.length≤1000∧∀ j:Nat,j < r.length->zkO (zam r j)∧(1≤ndK (zam r j)∧ndK (zam r j)≤18)∧(8≤ndK (zam r j)->ndK (zam r j)≤17->0≤ndL (zam r j)∧ndL (zam r j) < j)∧(8≤ndK (zam r j)->ndK (zam r j)≤10∨ndK (zam r j)=17->0≤ndR (zam r j)∧ndR (zam r j) < j)
@[reducible] def cOpd (k:Nat):HCtr:=hW [i64,i64] (fun x xs=>[WfP x.2.2.1,0≤xs.1,xs.1.toNat < k,xs.1.toNat < List.length x.2.2.1,List.length x.2.1+List.length (opdF k x.2.2.1 xs.1 xs.2.1)+10000≤1000000000]) fun x xs=>opdF k x.2.2.1 xs.1 xs.2.1
@[reducible] def zrF (k:Nat):HCtr:=hW [nd] (fun x xs=>[WfP x.2.2.1,zkO xs.1,11≤ndK xs.1,ndK xs.1≤17,ndK xs.1=17->0≤ndR xs.1∧(ndR xs.1).toNat < k∧(ndR xs.1).toNat < List.length x.2.2.1,List.length x.2.1+List.length (zcc (opdF k x.2.2.1 (ndR xs.1) 5) xs.1)+10000≤1000000000]) fun x xs=>zcc (opdF k x.2.2.1 (ndR xs.1) 5) xs.1
def hSf (k:Nat):List (FuncId×HCtr):=[(100,cPut),(150,zmB),(99,cOpd k)]
theorem cat4 (a b c d:List UInt8):(a++b++c++d:List UInt8)=a++(b++(c++d)):=by rw[List.append_assoc,List.append_assoc]
theorem zmP (k:Nat) (hO:zaB Tryz.prog gmH 99 (cOpd k)):zaB Tryz.prog gmH 102 (zrF k):=by
 have hsf:HsOk Tryz.prog gmH (hSf k):=.cons zov <| .cons zl7 <| .cons hO .nil;refine zav (K:=_) zaP Tryz.func102 rfl rfl (zcD rfl) Tryz.call102 rfl (Nat.le_of_ble_eq_true rfl) (zdQ prT [107]) ?_;rintro w0 ⟨G,O,K,fix,D,ρ,B⟩ ty hX hG hK hρ hD hinv ⟨(b:Bool),(bf:List UInt8),(r:List Nd),⟨⟩⟩ ⟨(n:Nd),⟨⟩⟩ hp;obtain rfl:G=gmH:=hG;obtain rfl:K=1:=hK;obtain rfl:ρ=none:=hρ;obtain rfl:D=[]:=hD;have hI:=fun w R hR hw=>(⟨zaH (ty:=ty) hX rfl hinv.1 (ty':=ty) w R hR hw,hinv.2⟩:bInv prT [107] w R ty);obtain⟨hwf,⟨⟨hC,hN,hM⟩,hI',hil,hnl,-,hsc⟩,hk0,hkk,hbh,hT⟩:WfP r∧zkO n∧11≤ndK n∧ndK n≤17∧(ndK n=17->0≤ndR n∧(ndR n).toNat < k∧(ndR n).toNat < r.length)∧bf.length+(zcc (opdF k r (ndR n) 5) n).length+10000≤1000000000:=hp;have hlen:bf.length+10000≤1000000000:=by omega
 change AWP _ _ _ _ _ ⟨[(0,⟨.hptr,((0:Nat),(0:Nat))⟩),(1,⟨nd,n⟩)],wE ty b bf r,2⟩ (wQ _ (zrF k) ty (.ok ((),(true,((bf++zcc (opdF k r (ndR n) 5) n:List UInt8),(r,()))))));unfold zcc at hT ⊢;(repeat(first|apply zae|apply zac|apply zab|apply zad));refine zaa hX zaP rfl ?_ ?_
 ·trivial
 (repeat(first|apply zae|apply zac|apply zab|apply zad));refine zaa hX zaP rfl ?_ ?_
 ·trivial
 apply zab;refine zaq (σ':=⟨[(0,⟨.hptr,((0:Nat),(0:Nat))⟩),(3,⟨.optr nd,⟨2,nd,.here⟩⟩),(5,⟨i64,ndK n⟩)],(2,some (.box nd n))::wE ty b bf r,3⟩) ⟨⟨rfl,rfl,rfl,trivial⟩,⟨rfl,rfl,rfl,trivial⟩,rfl,by cases b<;>rfl⟩ ?_;(repeat(first|apply zae|apply zac|apply zab|apply zad));refine zaa hX zaP rfl ?_ ?_
 ·trivial
 refine zaf rfl (fun hb=>?_) (fun hb=>?_)
 ·have hb:(ndK n==11)=true:=hb;have hk:=beq_iff_eq.1 hb;rw[if_pos hk];cases b
  all_goals
   (repeat(first|apply zae|apply zac|apply zab|apply zad));refine zaj ?_;refine AL.own 4 hX zaP hsf rfl trivial rfl rfl ⟨(by show List.length bf+List.length (spW zeU)+19 * 1≤1000000000;have:List.length (spW zeU)≤20:=(by decide);omega),(ze8 hN)⟩ hI ?_;exact AL.nil ⟨.inl rfl,⟨_,rfl,u8,1,_,rfl,rfl,rfl⟩,za7 (by decide) rfl rfl trivial rfl⟩
 have hb:(ndK n==11)=false:=hb;have hk11:ndK n≠11:=fun e=>by rw[beq_iff_eq.2 e]at hb;cases hb
 rw[if_neg hk11];(repeat(first|apply zae|apply zac|apply zab|apply zad));refine zaa hX zaP rfl ?_ ?_
 ·trivial
 refine zaf rfl (fun hb=>?_) (fun hb=>?_)
 ·have hb:(ndK n==12)=true:=hb;have hk:=beq_iff_eq.1 hb;rw[if_pos hk];cases b
  all_goals
   (repeat(first|apply zae|apply zac|apply zab|apply zad));refine zaj ?_;refine AL.own 4 hX zaP hsf rfl trivial rfl rfl ⟨(by show List.length bf+List.length (spW zhY)+19 * 1≤1000000000;have:List.length (spW zhY)≤20:=(by decide);omega),(ze8 hN)⟩ hI ?_;exact AL.nil ⟨.inl rfl,⟨_,rfl,u8,1,_,rfl,rfl,rfl⟩,za7 (by decide) rfl rfl trivial rfl⟩
 have hb:(ndK n==12)=false:=hb;have hk12:ndK n≠12:=fun e=>by rw[beq_iff_eq.2 e]at hb;cases hb
 rw[if_neg hk12];(repeat(first|apply zae|apply zac|apply zab|apply zad));refine zaa hX zaP rfl ?_ ?_
 ·trivial
 refine zaf rfl (fun hb=>?_) (fun hb=>?_)
 ·have hb:(ndK n==13)=true:=hb;have hk:=beq_iff_eq.1 hb;rw[if_pos hk];cases b
  all_goals
   (repeat(first|apply zae|apply zac|apply zab|apply zad));refine zaj ?_;refine AL.own 4 hX zaP hsf rfl trivial rfl rfl ⟨(by show List.length bf+List.length (spW zeT)+19 * 1≤1000000000;have:List.length (spW zeT)≤20:=(by decide);omega),(ze8 hN)⟩ hI ?_;exact AL.nil ⟨.inl rfl,⟨_,rfl,u8,1,_,rfl,rfl,rfl⟩,za7 (by decide) rfl rfl trivial rfl⟩
 have hb:(ndK n==13)=false:=hb;have hk13:ndK n≠13:=fun e=>by rw[beq_iff_eq.2 e]at hb;cases hb
 rw[if_neg hk13];(repeat(first|apply zae|apply zac|apply zab|apply zad));refine zaa hX zaP rfl ?_ ?_
 ·trivial
 refine zaf rfl (fun hb=>?_) (fun hb=>?_)
 ·have hb:(ndK n==14)=true:=hb;have hk:=beq_iff_eq.1 hb;rw[if_pos hk];refine AWP.via (σ':=⟨[(0,⟨.hptr,((0:Nat),(0:Nat))⟩),(3,⟨.optr nd,⟨2,nd,.here⟩⟩)],(2,some (.box nd n))::wE ty true ((bf++putS (spW ze2) []:List UInt8)) r,3⟩) ?_ ?_
  ·cases b
   all_goals
    (repeat(first|apply zae|apply zac|apply zab|apply zad));refine zaj ?_;refine AL.own 1 hX zaP hsf rfl trivial rfl rfl ⟨(by show List.length bf+List.length (spW ze2)+19 * 0≤1000000000;have:List.length (spW ze2)≤20:=(by decide);omega),(fun x hx=>by cases hx)⟩ hI ?_;exact AL.nil ⟨⟨rfl,rfl,trivial⟩,⟨rfl,rfl,rfl,trivial⟩,rfl,rfl⟩
  have hl2:List.length (bf++putS (spW ze2) []:List UInt8)+20 * List.length (ndI n)+1≤1000000000:=by
   have:=zbJ (l:=[]) (fun x hx=>by cases hx);have hw:List.length (spW ze2)≤20:=by decide
   simp only[putS,List.length_append,List.length_cons,List.length_nil]at this ⊢;omega
  rw[show (bf++(putS (spW ze2) []++zch (ndI n)):List UInt8)=bf++putS (spW ze2) []++zch (ndI n) from (cat3 _ _ _).symm];(repeat(first|apply zae|apply zac|apply zab|apply zad));refine zaj ?_;refine AL.own 3 hX zaP hsf rfl trivial rfl rfl ⟨hl2,hI'⟩ hI ?_;exact AL.nil ⟨.inl rfl,⟨_,rfl,u8,1,_,rfl,rfl,rfl⟩,za7 (by decide) rfl rfl trivial rfl⟩
 have hb:(ndK n==14)=false:=hb;have hk14:ndK n≠14:=fun e=>by rw[beq_iff_eq.2 e]at hb;cases hb
 rw[if_neg hk14];(repeat(first|apply zae|apply zac|apply zab|apply zad));refine zaa hX zaP rfl ?_ ?_
 ·trivial
 refine zaf rfl (fun hb=>?_) (fun hb=>?_)
 ·have hb:(ndK n==15)=true:=hb;have hk:=beq_iff_eq.1 hb;rw[if_pos hk];refine AWP.via (σ':=⟨[(0,⟨.hptr,((0:Nat),(0:Nat))⟩),(3,⟨.optr nd,⟨2,nd,.here⟩⟩)],(2,some (.box nd n))::wE ty true ((bf++putS (spW zcz) []:List UInt8)) r,3⟩) ?_ ?_
  ·cases b
   all_goals
    (repeat(first|apply zae|apply zac|apply zab|apply zad));refine zaj ?_;refine AL.own 1 hX zaP hsf rfl trivial rfl rfl ⟨(by show List.length bf+List.length (spW zcz)+19 * 0≤1000000000;have:List.length (spW zcz)≤20:=(by decide);omega),(fun x hx=>by cases hx)⟩ hI ?_;exact AL.nil ⟨⟨rfl,rfl,trivial⟩,⟨rfl,rfl,rfl,trivial⟩,rfl,rfl⟩
  have hl2:List.length (bf++putS (spW zcz) []:List UInt8)+20 * List.length (ndI n)+1≤1000000000:=by
   have:=zbJ (l:=[]) (fun x hx=>by cases hx);have hw:List.length (spW zcz)≤20:=by decide
   simp only[putS,List.length_append,List.length_cons,List.length_nil]at this ⊢;omega
  rw[show (bf++(putS (spW zcz) []++zch (ndI n)):List UInt8)=bf++putS (spW zcz) []++zch (ndI n) from (cat3 _ _ _).symm];(repeat(first|apply zae|apply zac|apply zab|apply zad));refine zaj ?_;refine AL.own 3 hX zaP hsf rfl trivial rfl rfl ⟨hl2,hI'⟩ hI ?_;exact AL.nil ⟨.inl rfl,⟨_,rfl,u8,1,_,rfl,rfl,rfl⟩,za7 (by decide) rfl rfl trivial rfl⟩
 have hb:(ndK n==15)=false:=hb;have hk15:ndK n≠15:=fun e=>by rw[beq_iff_eq.2 e]at hb;cases hb
 rw[if_neg hk15];(repeat(first|apply zae|apply zac|apply zab|apply zad));refine zaa hX zaP rfl ?_ ?_
 ·trivial
 refine zaf rfl (fun hb=>?_) (fun hb=>?_)
 ·have hb:(ndK n==16)=true:=hb;have hk:=beq_iff_eq.1 hb;rw[if_pos hk];obtain⟨hs0,hs1⟩:=hsc hk;refine AWP.via (σ':=⟨[(0,⟨.hptr,((0:Nat),(0:Nat))⟩),(3,⟨.optr nd,⟨2,nd,.here⟩⟩)],(2,some (.box nd n))::wE ty true ((bf++putS (spW wPos) [ndC n]:List UInt8)) r,3⟩) ?_ ?_
  ·cases b
   all_goals
    (repeat(first|apply zae|apply zac|apply zab|apply zad));refine zaj ?_;refine AL.own 4 hX zaP hsf rfl trivial rfl rfl ⟨(by show List.length bf+List.length (spW wPos)+19 * 1≤1000000000;have:List.length (spW wPos)≤20:=(by decide);omega),(ze8 hC)⟩ hI ?_;exact AL.nil ⟨⟨rfl,rfl,trivial⟩,⟨rfl,rfl,rfl,trivial⟩,rfl,rfl⟩
  have hl2:List.length (bf++putS (spW wPos) [ndC n]:List UInt8)+List.length (zcr (ndM n))+19 * 0≤1000000000:=by
   have:=zbJ (ze8 hC);have hw:List.length (spW wPos)≤20:=by decide
   have hs:=zdS (ndM n);simp only[putS,List.length_append,List.length_cons,List.length_nil]at this ⊢;omega
  refine AWP.via (σ':=⟨[(0,⟨.hptr,((0:Nat),(0:Nat))⟩),(3,⟨.optr nd,⟨2,nd,.here⟩⟩)],(2,some (.box nd n))::wE ty true ((bf++putS (spW wPos) [ndC n]++putS (zcr (ndM n)) []:List UInt8)) r,3⟩) ?_ ?_
  ·cases b
   all_goals
    (repeat(first|apply zae|apply zac|apply zab|apply zad));refine zaj ?_;refine AL.own 4 hX zaP hsf rfl ⟨hs0,hs1⟩ rfl rfl ⟨hl2,fun x hx=>by cases hx⟩ hI ?_;exact AL.nil ⟨⟨rfl,rfl,trivial⟩,⟨rfl,rfl,rfl,trivial⟩,rfl,rfl⟩
  have hl2b:List.length (bf++putS (spW wPos) [ndC n]++putS (zcr (ndM n)) []:List UInt8)+20 * List.length (ndI n)+1≤1000000000:=by
   have:=zbJ (ze8 hC);have hw:List.length (spW wPos)≤20:=by decide
   have hs:=zdS (ndM n);have h0:List.length (zcl [])=0:=rfl;simp only[putS,List.length_append,List.length_cons,List.length_nil]at this h0 ⊢;omega
  rw[show (bf++(putS (spW wPos) [ndC n]++(putS (zcr (ndM n)) []++zch (ndI n))):List UInt8)=bf++putS (spW wPos) [ndC n]++putS (zcr (ndM n)) []++zch (ndI n) from (cat4 _ _ _ _).symm];(repeat(first|apply zae|apply zac|apply zab|apply zad));refine zaj ?_;refine AL.own 3 hX zaP hsf rfl trivial rfl rfl ⟨hl2b,hI'⟩ hI ?_;exact AL.nil ⟨.inl rfl,⟨_,rfl,u8,1,_,rfl,rfl,rfl⟩,za7 (by decide) rfl rfl trivial rfl⟩
 have hb:(ndK n==16)=false:=hb;have hk16:ndK n≠16:=fun e=>by rw[beq_iff_eq.2 e]at hb;cases hb
 rw[if_neg hk16];(repeat(first|apply zae|apply zac|apply zab|apply zad));refine zaa hX zaP rfl ?_ ?_
 ·trivial
 refine zaf rfl (fun hb=>?_) (fun hb=>?_)
 ·have hb:(ndK n==17)=true:=hb;have hk:=beq_iff_eq.1 hb;rw[if_pos hk];refine AWP.via (σ':=⟨[(0,⟨.hptr,((0:Nat),(0:Nat))⟩),(3,⟨.optr nd,⟨2,nd,.here⟩⟩)],(2,some (.box nd n))::wE ty true ((bf++putS (spW zbT) [ndN n]:List UInt8)) r,3⟩) ?_ ?_
  ·cases b
   all_goals
    (repeat(first|apply zae|apply zac|apply zab|apply zad));refine zaj ?_;refine AL.own 4 hX zaP hsf rfl trivial rfl rfl ⟨(by show List.length bf+List.length (spW zbT)+19 * 1≤1000000000;have:List.length (spW zbT)≤20:=(by decide);omega),(ze8 hN)⟩ hI ?_;exact AL.nil ⟨⟨rfl,rfl,trivial⟩,⟨rfl,rfl,rfl,trivial⟩,rfl,rfl⟩
  obtain⟨hb0,hb1,hb2⟩:=hbh hk;have hl2:List.length (bf++putS (spW zbT) [ndN n]:List UInt8)+List.length (spW wOf++ [32]:List UInt8)+19 * 0≤1000000000:=by
   have:=zbJ (ze8 hN);have hw:List.length (spW zbT)≤20:=by decide
   have hw2:List.length (spW wOf++ [32]:List UInt8)≤20:=by decide
   rw[List.length_append];simp only[putS,List.length_append,List.length_cons,List.length_nil]at this hw2 ⊢;omega
  refine AWP.via (σ':=⟨[(0,⟨.hptr,((0:Nat),(0:Nat))⟩),(3,⟨.optr nd,⟨2,nd,.here⟩⟩)],(2,some (.box nd n))::wE ty true ((bf++putS (spW zbT) [ndN n]++putS (spW wOf++ [32]) []:List UInt8)) r,3⟩) ?_ ?_
  ·cases b
   all_goals
    (repeat(first|apply zae|apply zac|apply zab|apply zad));refine zaj ?_;refine AL.own 1 hX zaP hsf rfl trivial rfl rfl ⟨hl2,fun x hx=>by cases hx⟩ hI ?_;exact AL.nil ⟨⟨rfl,rfl,trivial⟩,⟨rfl,rfl,rfl,trivial⟩,rfl,rfl⟩
  have hl3:List.length (bf++putS (spW zbT) [ndN n]++putS (spW wOf++ [32]) []:List UInt8)+List.length (opdF k r (ndR n) 5)+10000≤1000000000:=by
   rw[if_neg hk11,if_neg hk12,if_neg hk13,if_neg hk14,if_neg hk15,if_neg hk16,if_pos hk]at hT;rw[List.length_append,List.length_append]at hT ⊢;omega
  rw[show (bf++(putS (spW zbT) [ndN n]++(putS (spW wOf++ [32]) []++opdF k r (ndR n) 5)):List UInt8)=bf++putS (spW zbT) [ndN n]++putS (spW wOf++ [32]) []++opdF k r (ndR n) 5 from (cat4 _ _ _ _).symm];(repeat(first|apply zae|apply zac|apply zab|apply zad));refine zaj ?_;refine AL.own 3 hX zaP hsf rfl trivial rfl rfl ⟨hwf,hb0,hb1,hb2,hl3⟩ hI ?_;exact AL.nil ⟨.inl rfl,⟨_,rfl,u8,1,_,rfl,rfl,rfl⟩,za7 (by decide) rfl rfl trivial rfl⟩
 have hb:(ndK n==17)=false:=hb;have hk17:ndK n≠17:=fun e=>by rw[beq_iff_eq.2 e]at hb;cases hb
 rw[if_neg hk17];exfalso;omega
@[reducible] def zkG (k:Nat):HCtr:=hW [i64] (fun x xs=>[WfP x.2.2.1,0≤xs.1,xs.1.toNat < k,xs.1.toNat < List.length x.2.2.1,List.length x.2.1+List.length (zaO k x.2.2.1 xs.1)+10000≤1000000000]) fun x xs=>zaO k x.2.2.1 xs.1
def kOd:Kn:={ gmK with C:=[(98,zmC),(101,cOps)] }
theorem zbY:KnOk Tryz.prog gmH kOd:=zai.with (.cons zq0 <| .cons zgx .nil)
def hOd (k:Nat):List (FuncId×HCtr):=[(66,cWSP),(60,zkG k)]
theorem znf (k:Nat) (hNd:zaB Tryz.prog gmH 60 (zkG k)):zaB Tryz.prog gmH 99 (cOpd k):=by
 have hod:HsOk Tryz.prog gmH (hOd k):=.cons zid <| .cons hNd .nil;refine zav (K:=_) zbY Tryz.func99 rfl rfl (zcD rfl) Tryz.call99 rfl (Nat.le_of_ble_eq_true rfl) (zdQ prT [107]) ?_;rintro w0 ⟨G,O,K,fix,D,ρ,B⟩ ty hX hG hK hρ hD hinv ⟨(b:Bool),(bf:List UInt8),(r:List Nd),⟨⟩⟩ ⟨(i:Int),(q:Int),⟨⟩⟩ hp;obtain rfl:G=gmH:=hG;obtain rfl:K=1:=hK;obtain rfl:ρ=none:=hρ;obtain rfl:D=[]:=hD;have hI:=fun w R hR hw=>(⟨zaH (ty:=ty) hX rfl hinv.1 (ty':=ty) w R hR hw,hinv.2⟩:bInv prT [107] w R ty);obtain⟨hwf,h0,hk,hr,hT⟩:WfP r∧0≤i∧i.toNat < k∧i.toNat < r.length∧bf.length+(opdF k r i q).length+10000≤1000000000:=hp;have hil:i < ((r.length:Nat):Int):=by omega
 change AWP _ _ _ _ _ ⟨[(0,⟨.hptr,((0:Nat),(0:Nat))⟩),(1,⟨i64,i⟩),(2,⟨i64,q⟩)],wE ty b bf r,2⟩ (wQ _ (cOpd k) ty (.ok ((),(true,((bf++opdF k r i q:List UInt8),(r,()))))));unfold opdF at hT ⊢;apply zae;refine AWP.via (σ':=⟨[(0,⟨.hptr,((0:Nat),(0:Nat))⟩),(1,⟨i64,i⟩),(16,⟨.bool,decide (levS (ndK (zam r i))≥q)⟩)],wE ty b bf r,2⟩) ?_ ?_
 ·cases b
  all_goals
   refine zaj ?_;refine AL.take 2 hX zbY rfl trivial ?_;refine AL.step (eqP1 _ _ rfl) hX zbY rfl trivial ?_;refine AL.all hX zbY rfl ⟨h0,hil⟩ ?_;exact⟨⟨rfl,rfl,rfl,trivial⟩,⟨rfl,rfl,trivial⟩,rfl,rfl⟩
 refine zaf rfl (fun hb=>?_) (fun hb=>?_)
 ·have hb:decide (levS (ndK (zam r i))≥q)=true:=hb;rw[hb]at hT ⊢;have hT:bf.length+(zaO k r i).length+10000≤1000000000:=hT;show AWP _ _ _ _ _ _ (zkW _ (wQ _ (cOpd k) ty (.ok ((),(true,((bf++zaO k r i:List UInt8),(r,())))))));cases b
  all_goals
   (repeat(first|apply zae|apply zac|apply zab|apply zad));refine zaj ?_;refine AL.own 2 hX zbY hod rfl trivial rfl rfl ⟨hwf,h0,hk,hr,hT⟩ hI ?_;refine AL.nil ?_;exact AWP.ret ⟨.inr rfl,⟨_,rfl,u8,1,_,rfl,rfl,rfl⟩,za7 (by decide) rfl rfl trivial rfl⟩
 ·have hb:decide (levS (ndK (zam r i))≥q)=false:=hb;rw[hb]at hT ⊢;have hT:bf.length+([40]++(zaO k r i++ [41]):List UInt8).length+10000≤1000000000:=hT;rw[List.length_append,List.length_append]at hT;have hT1:bf.length+List.length ([40]:List UInt8)≤1000000000:=by omega
  have hT2:List.length (bf++ [40]:List UInt8)+(zaO k r i).length+10000≤1000000000:=by rw[List.length_append];omega
  have hT3:List.length (bf++ [40]++zaO k r i:List UInt8)+List.length ([41]:List UInt8)≤1000000000:=by rw[List.length_append,List.length_append];omega
  apply zac;rw[show (bf++parS false (zaO k r i):List UInt8)=bf++ [40]++zaO k r i++ [41] from (cat4 _ _ _ _).symm];refine AWP.via (σ':=⟨[(0,⟨.hptr,((0:Nat),(0:Nat))⟩),(1,⟨i64,i⟩)],wE ty true ((bf++ [40]:List UInt8)) r,2⟩) ?_ ?_
  ·cases b
   all_goals
    refine zaj ?_;refine AL.take 2 hX zbY rfl trivial ?_;refine AL.step (eqP0 _ _ rfl) hX zbY rfl trivial ?_;refine AL.own 0 hX zbY hod rfl trivial rfl rfl hT1 hI ?_;exact AL.nil ⟨⟨rfl,rfl,trivial⟩,⟨rfl,rfl,trivial⟩,rfl,rfl⟩
  (repeat(first|apply zae|apply zac|apply zab|apply zad));refine zaj ?_;refine AL.own 2 hX zbY hod rfl trivial rfl rfl ⟨hwf,h0,hk,hr,hT2⟩ hI ?_;refine AL.nil ?_;refine zaq (σ':=⟨[(0,⟨.hptr,((0:Nat),(0:Nat))⟩)],wE ty true ((bf++ [40]++zaO k r i:List UInt8)) r,2⟩) ⟨⟨rfl,trivial⟩,⟨rfl,rfl,trivial⟩,rfl,rfl⟩ ?_;refine zaj ?_;refine AL.take 2 hX zbY rfl trivial ?_;refine AL.step (eqP0 _ _ rfl) hX zbY rfl trivial ?_;refine AL.own 0 hX zbY hod rfl trivial rfl rfl hT3 hI ?_;refine AL.nil ?_;exact⟨.inl rfl,⟨_,rfl,u8,1,_,rfl,rfl,rfl⟩,za7 (by decide) rfl rfl trivial rfl⟩
theorem zs0 {k:Int} (h:levS k < 4):(8≤k∧k≤10)∧1≤levS k:=by
 unfold levS at *;split at h
 ·rename_i e;subst e;decide
 ·split at h
  ·rename_i e;subst e;decide
  ·split at h
   ·rename_i e;subst e;decide
   ·split at h<;>omega
theorem levS_4 {k:Int} (h:levS k=4):11≤k∧k≤17:=by
 unfold levS at h;split at h
 ·omega
 ·split at h
  ·omega
  ·split at h
   ·omega
   ·split at h
    ·assumption
    ·omega
theorem levS_5 {k:Int} (h4:¬ levS k < 4) (h5:levS k≠4):¬ (8≤k∧k≤17):=by
 intro hk;unfold levS at *;split at h4
 ·omega
 ·split at h4
  ·omega
  ·split at h4
   ·omega
   ·split at h4
    ·rename_i a b c d;rw[if_neg a,if_neg b,if_neg c,if_pos d]at h5;exact h5 rfl
    ·omega
def hNo (k:Nat):List (FuncId×HCtr):=[(99,cOpd k),(100,cPut),(102,zrF k),(103,zpR)]
theorem zsQ (k:Nat) (hOp:zaB Tryz.prog gmH 99 (cOpd k)) (hSu:zaB Tryz.prog gmH 102 (zrF k)):zaB Tryz.prog gmH 60 (zkG (k+1)):=by
 have hno:HsOk Tryz.prog gmH (hNo k):=.cons hOp <| .cons zov <| .cons hSu <| .cons zq3 .nil;refine zav (K:=_) zbY Tryz.func60 rfl rfl (zcD rfl) Tryz.call60 rfl (Nat.le_of_ble_eq_true rfl) (zdQ prT [107]) ?_;rintro w0 ⟨G,O,K,fix,D,ρ,B⟩ ty hX hG hK hρ hD hinv ⟨(b:Bool),(bf:List UInt8),(r:List Nd),⟨⟩⟩ ⟨(i:Int),⟨⟩⟩ hp;obtain rfl:G=gmH:=hG;obtain rfl:K=1:=hK;obtain rfl:ρ=none:=hρ;obtain rfl:D=[]:=hD;have hI:=fun w R hR hw=>(⟨zaH (ty:=ty) hX rfl hinv.1 (ty':=ty) w R hR hw,hinv.2⟩:bInv prT [107] w R ty);obtain⟨hwf,h0,hk,hr,hT⟩:WfP r∧0≤i∧i.toNat < k+1∧i.toNat < r.length∧bf.length+(zaO (k+1) r i).length+10000≤1000000000:=hp;have hil:i < ((r.length:Nat):Int):=by omega
 obtain⟨hnum,⟨hk1,hk18⟩,hL,hR⟩:=hwf.2 i.toNat hr;have hi:((i.toNat:Nat):Int)=i:=Int.toNat_of_nonneg h0;rw[hi]at hnum hk1 hk18 hL hR;change AWP _ _ _ _ _ ⟨[(0,⟨.hptr,((0:Nat),(0:Nat))⟩),(1,⟨i64,i⟩)],wE ty b bf r,2⟩ (wQ _ (zkG (k+1)) ty (.ok ((),(true,((bf++zaO (k+1) r i:List UInt8),(r,()))))));unfold zaO at hT ⊢;generalize hn:zam r i=n at *;refine AWP.via (σ':=⟨[(0,⟨.hptr,((0:Nat),(0:Nat))⟩),(4,⟨.optr nd,⟨2,nd,.here⟩⟩)],(2,some (.box nd n))::wE ty b bf r,3⟩) ?_ ?_
 ·subst hn;cases b
  all_goals
   refine zaj ?_;refine AL.take 2 hX zbY rfl trivial ?_;refine AL.step (eqP1 _ _ rfl) hX zbY rfl trivial ?_;refine AL.all hX zbY rfl ⟨h0,hil⟩ ?_;exact⟨⟨rfl,rfl,trivial⟩,⟨rfl,rfl,rfl,trivial⟩,rfl,rfl⟩
 clear hn;refine AWP.via (σ':=⟨[(0,⟨.hptr,((0:Nat),(0:Nat))⟩),(4,⟨.optr nd,⟨2,nd,.here⟩⟩),(5,⟨i64,levS (ndK n)⟩)],(2,some (.box nd n))::wE ty b bf r,3⟩) ?_ ?_
 ·refine zaj ?_;refine AL.all hX zbY rfl trivial ?_;exact⟨⟨rfl,rfl,rfl,trivial⟩,⟨rfl,rfl,rfl,trivial⟩,rfl,by cases b<;>rfl⟩
 apply zab;(repeat(first|apply zae|apply zac|apply zab|apply zad));refine zaa hX zbY rfl ?_ ?_
 ·trivial
 refine zaf rfl (fun hb=>?_) (fun hb=>?_)
 ·have hb:decide (levS (ndK n) < 4)=true:=hb;have hb:=of_decide_eq_true hb;rw[if_pos hb]at hT ⊢;obtain⟨⟨hk8,hk10⟩,hl1⟩:=zs0 hb;obtain⟨hL0,hL1⟩:=hL hk8 (by omega);obtain⟨hR0,hR1⟩:=hR hk8 (.inl hk10);generalize levS (ndK n)=x at hb hT hl1;change bf.length+(opdF k r (ndL n) x++(putS ([32]++opWd x++ [32]) []++opdF k r (ndR n) (x+1))).length+10000≤1000000000 at hT;have hx3:x=1∨x=2∨x=3:=by omega
  have hw:List.length (opWd x)≤5:=by rcases hx3 with rfl|rfl|rfl<;>decide
  have hT0:=hT;rw[List.length_append,List.length_append]at hT;have hLk:(ndL n).toNat < k:=by omega
  have hLr:(ndL n).toNat < r.length:=by omega
  have hRk:(ndR n).toNat < k:=by omega
  have hRr:(ndR n).toNat < r.length:=by omega
  have hTA:bf.length+(opdF k r (ndL n) x).length+10000≤1000000000:=by omega
  have hM0:List.length (putS ([32]++opWd x++ [32]) [])=List.length ([32]++opWd x++ [32]:List UInt8):=by
   show List.length (([32]++opWd x++ [32])++ []:List UInt8)=_;rw[List.append_nil]
  have hM1:List.length ([32]++opWd x++ [32]:List UInt8)≤7:=by
   rw[List.length_append,List.length_append];show 1+_+1≤7;omega
  have hTM:List.length (bf++opdF k r (ndL n) x:List UInt8)+List.length ([32]++opWd x++ [32]:List UInt8)+19 * 0≤1000000000:=by rw[List.length_append];omega
  have hTC:List.length (bf++opdF k r (ndL n) x++putS ([32]++opWd x++ [32]) []:List UInt8)+(opdF k r (ndR n) (x+1)).length+10000≤1000000000:=by rw[List.length_append,List.length_append];omega
  have q0:inR .i64 (x - 1):=zar (by omega) (by omega);have q1:inR .i64 (x+1):=zar (by omega) (by omega);have q2:(0:Int)≤x - 1:=by omega
  have q3:x - 1 < ((opsL.length:Nat):Int):=by show x - 1 < ((3:Nat):Int);omega
  have q4:1+List.length (opWd x)≤maxLen:=by unfold maxLen;omega
  have q5:List.length ([32]++opWd x:List UInt8)+1≤maxLen:=by rw[List.length_append];show 1+_+1≤_;unfold maxLen;omega
  change AWP _ _ _ _ _ _ (zmF 0 (wQ _ (zkG (k+1)) ty (.ok ((),(true,((bf++(opdF k r (ndL n) x++(putS ([32]++opWd x++ [32]) []++opdF k r (ndR n) (x+1))):List UInt8),(r,())))))));rw[show (bf++(opdF k r (ndL n) x++(putS ([32]++opWd x++ [32]) []++opdF k r (ndR n) (x+1))):List UInt8)=bf++opdF k r (ndL n) x++putS ([32]++opWd x++ [32]) []++opdF k r (ndR n) (x+1) from (cat4 _ _ _ _).symm];refine AWP.via (σ':=⟨[(0,⟨.hptr,((0:Nat),(0:Nat))⟩),(4,⟨.optr nd,⟨2,nd,.here⟩⟩),(5,⟨i64,x⟩)],(2,some (.box nd n))::wE ty true ((bf++opdF k r (ndL n) x:List UInt8)) r,3⟩) ?_ ?_
  ·cases b
   all_goals
    refine zaj ?_;refine AL.own 4 hX zbY hno rfl trivial rfl rfl ⟨hwf,hL0,hLk,hLr,hTA⟩ hI ?_;exact AL.nil ⟨⟨rfl,rfl,rfl,trivial⟩,⟨rfl,rfl,rfl,trivial⟩,rfl,rfl⟩
  refine AWP.via (σ':=⟨[(0,⟨.hptr,((0:Nat),(0:Nat))⟩),(4,⟨.optr nd,⟨2,nd,.here⟩⟩),(5,⟨i64,x⟩)],(2,some (.box nd n))::wE ty true ((bf++opdF k r (ndL n) x++putS ([32]++opWd x++ [32]) []:List UInt8)) r,3⟩) ?_ ?_
  ·refine zaj ?_;refine AL.own 9 hX zbY hno rfl ⟨q0,q2,q3,q4,q5⟩ rfl rfl ⟨hTM,fun y hy=>by cases hy⟩ hI ?_;exact AL.nil ⟨⟨rfl,rfl,rfl,trivial⟩,⟨rfl,rfl,rfl,trivial⟩,rfl,rfl⟩
  refine zaj ?_;refine AL.own 5 hX zbY hno rfl q1 rfl rfl ⟨hwf,hR0,hRk,hRr,hTC⟩ hI ?_;exact AL.nil ⟨.inl rfl,⟨_,rfl,u8,1,_,rfl,rfl,rfl⟩,za7 (by decide) rfl rfl trivial rfl⟩
 ·have hb:decide (levS (ndK n) < 4)=false:=hb;have hb:=of_decide_eq_false hb;rw[if_neg hb]at hT ⊢;apply zae;(repeat(first|apply zae|apply zac|apply zab|apply zad));refine zaa hX zbY rfl ?_ ?_
  ·trivial
  refine zaf rfl (fun hc=>?_) (fun hc=>?_)
  ·have hc:(levS (ndK n)==4)=true:=hc;have hc:=beq_iff_eq.1 hc;rw[if_pos hc]at hT ⊢;obtain⟨hk11,hk17⟩:=levS_4 hc;obtain⟨hL0,hL1⟩:=hL (by omega) hk17;have hLk:(ndL n).toNat < k:=by omega
   have hLr:(ndL n).toNat < r.length:=by omega
   have hB:ndK n=17->0≤ndR n∧(ndR n).toNat < k∧(ndR n).toNat < r.length:=fun e=>by
    obtain⟨hR0,hR1⟩:=hR (by omega) (.inr e);exact⟨hR0,by omega,by omega⟩
   change bf.length+(opdF k r (ndL n) 4++zcc (opdF k r (ndR n) 5) n).length+10000≤1000000000 at hT;rw[List.length_append]at hT;have hTA:bf.length+(opdF k r (ndL n) 4).length+10000≤1000000000:=by omega
   have hTS:List.length (bf++opdF k r (ndL n) 4:List UInt8)+(zcc (opdF k r (ndR n) 5) n).length+10000≤1000000000:=by rw[List.length_append];omega
   change AWP _ _ _ _ _ _ (zmF 0 (wQ _ (zkG (k+1)) ty (.ok ((),(true,((bf++(opdF k r (ndL n) 4++zcc (opdF k r (ndR n) 5) n):List UInt8),(r,())))))));rw[show (bf++(opdF k r (ndL n) 4++zcc (opdF k r (ndR n) 5) n):List UInt8)=bf++opdF k r (ndL n) 4++zcc (opdF k r (ndR n) 5) n from (cat3 _ _ _).symm];refine AWP.via (σ':=⟨[(0,⟨.hptr,((0:Nat),(0:Nat))⟩),(4,⟨.optr nd,⟨2,nd,.here⟩⟩)],(2,some (.box nd n))::wE ty true ((bf++opdF k r (ndL n) 4:List UInt8)) r,3⟩) ?_ ?_
   ·cases b
    all_goals
     refine zaj ?_;refine AL.own 3 hX zbY hno rfl trivial rfl rfl ⟨hwf,hL0,hLk,hLr,hTA⟩ hI ?_;exact AL.nil ⟨⟨rfl,rfl,trivial⟩,⟨rfl,rfl,rfl,trivial⟩,rfl,rfl⟩
   refine zaj ?_;refine AL.own 2 hX zbY hno rfl trivial rfl rfl ⟨hwf,hnum,hk11,hk17,hB,hTS⟩ hI ?_;exact AL.nil ⟨.inl rfl,⟨_,rfl,u8,1,_,rfl,rfl,rfl⟩,za7 (by decide) rfl rfl trivial rfl⟩
  ·have hc:(levS (ndK n)==4)=false:=hc;have hc:levS (ndK n)≠4:=fun e=>by rw[beq_iff_eq.2 e]at hc;cases hc
   rw[if_neg hc]at hT ⊢;have h5:=levS_5 hb hc;have hkl:ndK n≤7∨ndK n=18:=by omega
   have hT:bf.length+(zcI n).length+10000≤1000000000:=hT;have hT1:bf.length+10000≤1000000000:=by omega
   cases b
   all_goals
    refine zaj ?_;refine AL.own 2 hX zbY hno rfl trivial rfl rfl ⟨hT1,hnum,hk1,hkl⟩ hI ?_;exact AL.nil ⟨.inl rfl,⟨_,rfl,u8,1,_,rfl,rfl,rfl⟩,za7 (by decide) rfl rfl trivial rfl⟩
theorem zrT:∀ k,zaB Tryz.prog gmH 60 (zkG k)∧zaB Tryz.prog gmH 99 (cOpd k)
 |0=>⟨zev (zcD rfl) Tryz.call60 fun x xs h=>absurd h.2.2.1 (Nat.not_lt_zero _),zev (zcD rfl) Tryz.call99 fun x xs h=>absurd h.2.2.1 (Nat.not_lt_zero _)⟩
 |k+1=>by
  obtain⟨h1,h2⟩:=zrT k;have h3:=zsQ k h2 (zmP k h2);exact⟨h3,znf (k+1) h3⟩
set_option maxRecDepth 10000
theorem zj5 {n:Nd} (h:zbq n=true):zkO n:=by
 obtain⟨⟨k1,k2⟩,hl,_⟩:=zaC h;have hs:=zmm h;have key:(zbQ (ndC n)∧zbQ (ndN n)∧zbQ (ndM n))∧(∀ x∈ndI n,zbQ x)∧(ndK n=7->0≤ndL n∧ndL n≤1)∧(ndK n=16->0≤ndM n∧ndM n≤1):=by
  rcases (show ndK n=1∨ndK n=2∨ndK n=3∨ndK n=4∨ndK n=5∨ndK n=6∨ndK n=7∨ndK n=8∨ndK n=9∨ndK n=10∨ndK n=11∨ndK n=12∨ndK n=13∨ndK n=14∨ndK n=15∨ndK n=16∨ndK n=17∨ndK n=18 by omega) with k|k|k|k|k|k|k|k|k|k|k|k|k|k|k|k|k|k
  ·obtain⟨e,b1,b2⟩:=fld1 h k;have eC:=congrArg ndC e;have eN:=congrArg ndN e;have eM:=congrArg ndM e;have eI:=congrArg ndI e;have eC:ndC n=0:=eC;have eN:ndN n=ndN n:=eN;have eM:ndM n=ndM n:=eM;have eI:ndI n=[]:=eI;refine⟨⟨⟨by omega,by omega⟩,⟨by omega,by omega⟩,⟨by omega,by omega⟩⟩,?_,fun e=>by omega,fun e=>by omega⟩;rw[eI];exact fun x hx=>by cases hx
  ·obtain⟨e,bc,b1,b2⟩:=fld2 h k;have eC:=congrArg ndC e;have eN:=congrArg ndN e;have eM:=congrArg ndM e;have eI:=congrArg ndI e;have eC:ndC n=ndC n:=eC;have eN:ndN n=ndN n:=eN;have eM:ndM n=ndM n:=eM;have eI:ndI n=[]:=eI;refine⟨⟨⟨by omega,by omega⟩,⟨by omega,by omega⟩,⟨by omega,by omega⟩⟩,?_,fun e=>by omega,fun e=>by omega⟩;rw[eI];exact fun x hx=>by cases hx
  ·obtain⟨e,bc,⟨l1,l2,l3⟩⟩:=fld3 h k;have eC:=congrArg ndC e;have eN:=congrArg ndN e;have eM:=congrArg ndM e;have eI:=congrArg ndI e;have eC:ndC n=ndC n:=eC;have eN:ndN n=0:=eN;have eM:ndM n=0:=eM;have eI:ndI n=ndI n:=eI;refine⟨⟨⟨by omega,by omega⟩,⟨by omega,by omega⟩,⟨by omega,by omega⟩⟩,?_,fun e=>by omega,fun e=>by omega⟩;exact fun x hx=>by have:=zcA (by decide) (by decide) l3 x hx;exact⟨by have:=this.1;omega,by have:=this.2;omega⟩
  ·obtain⟨e,bc,⟨l1,l2,l3⟩⟩:=fld4 h k;have eC:=congrArg ndC e;have eN:=congrArg ndN e;have eM:=congrArg ndM e;have eI:=congrArg ndI e;have eC:ndC n=ndC n:=eC;have eN:ndN n=0:=eN;have eM:ndM n=0:=eM;have eI:ndI n=ndI n:=eI;refine⟨⟨⟨by omega,by omega⟩,⟨by omega,by omega⟩,⟨by omega,by omega⟩⟩,?_,fun e=>by omega,fun e=>by omega⟩;exact fun x hx=>by have:=zcA (by decide) (by decide) l3 x hx;exact⟨by have:=this.1;omega,by have:=this.2;omega⟩
  ·obtain⟨e,⟨l1,l2,l3⟩⟩:=fld5 h k;have eC:=congrArg ndC e;have eN:=congrArg ndN e;have eM:=congrArg ndM e;have eI:=congrArg ndI e;have eC:ndC n=0:=eC;have eN:ndN n=0:=eN;have eM:ndM n=0:=eM;have eI:ndI n=ndI n:=eI;refine⟨⟨⟨by omega,by omega⟩,⟨by omega,by omega⟩,⟨by omega,by omega⟩⟩,?_,fun e=>by omega,fun e=>by omega⟩;exact fun x hx=>by have:=zcA (by decide) (by decide) l3 x hx;exact⟨by have:=this.1;omega,by have:=this.2;omega⟩
  ·obtain⟨e,bc,⟨l1,l2,l3⟩⟩:=fld6 h k;have eC:=congrArg ndC e;have eN:=congrArg ndN e;have eM:=congrArg ndM e;have eI:=congrArg ndI e;have eC:ndC n=ndC n:=eC;have eN:ndN n=0:=eN;have eM:ndM n=0:=eM;have eI:ndI n=ndI n:=eI;refine⟨⟨⟨by omega,by omega⟩,⟨by omega,by omega⟩,⟨by omega,by omega⟩⟩,?_,fun e=>by omega,fun e=>by omega⟩;exact fun x hx=>by have:=zcA (by decide) (by decide) l3 x hx;exact⟨by have:=this.1;omega,by have:=this.2;omega⟩
  ·obtain⟨e,bc,b1,bz,b2,b3⟩:=fld7 h k;have eC:=congrArg ndC e;have eN:=congrArg ndN e;have eM:=congrArg ndM e;have eI:=congrArg ndI e;have eC:ndC n=ndC n:=eC;have eN:ndN n=ndN n:=eN;have eM:ndM n=ndM n:=eM;have eI:ndI n=[]:=eI;refine⟨⟨⟨by omega,by omega⟩,⟨by omega,by omega⟩,⟨by omega,by omega⟩⟩,?_,fun e=>by omega,fun e=>by omega⟩;rw[eI];exact fun x hx=>by cases hx
  ·have e:=fld8 h k;have eC:=congrArg ndC e;have eN:=congrArg ndN e;have eM:=congrArg ndM e;have eI:=congrArg ndI e;have eC:ndC n=0:=eC;have eN:ndN n=0:=eN;have eM:ndM n=0:=eM;have eI:ndI n=[]:=eI;refine⟨⟨⟨by omega,by omega⟩,⟨by omega,by omega⟩,⟨by omega,by omega⟩⟩,?_,fun e=>by omega,fun e=>by omega⟩;rw[eI];exact fun x hx=>by cases hx
  ·have e:=fld9 h k;have eC:=congrArg ndC e;have eN:=congrArg ndN e;have eM:=congrArg ndM e;have eI:=congrArg ndI e;have eC:ndC n=0:=eC;have eN:ndN n=0:=eN;have eM:ndM n=0:=eM;have eI:ndI n=[]:=eI;refine⟨⟨⟨by omega,by omega⟩,⟨by omega,by omega⟩,⟨by omega,by omega⟩⟩,?_,fun e=>by omega,fun e=>by omega⟩;rw[eI];exact fun x hx=>by cases hx
  ·have e:=fld10 h k;have eC:=congrArg ndC e;have eN:=congrArg ndN e;have eM:=congrArg ndM e;have eI:=congrArg ndI e;have eC:ndC n=0:=eC;have eN:ndN n=0:=eN;have eM:ndM n=0:=eM;have eI:ndI n=[]:=eI;refine⟨⟨⟨by omega,by omega⟩,⟨by omega,by omega⟩,⟨by omega,by omega⟩⟩,?_,fun e=>by omega,fun e=>by omega⟩;rw[eI];exact fun x hx=>by cases hx
  ·obtain⟨e,b1⟩:=ztr h k;have eC:=congrArg ndC e;have eN:=congrArg ndN e;have eM:=congrArg ndM e;have eI:=congrArg ndI e;have eC:ndC n=0:=eC;have eN:ndN n=ndN n:=eN;have eM:ndM n=0:=eM;have eI:ndI n=[]:=eI;refine⟨⟨⟨by omega,by omega⟩,⟨by omega,by omega⟩,⟨by omega,by omega⟩⟩,?_,fun e=>by omega,fun e=>by omega⟩;rw[eI];exact fun x hx=>by cases hx
  ·obtain⟨e,b1⟩:=ztq h k;have eC:=congrArg ndC e;have eN:=congrArg ndN e;have eM:=congrArg ndM e;have eI:=congrArg ndI e;have eC:ndC n=0:=eC;have eN:ndN n=ndN n:=eN;have eM:ndM n=0:=eM;have eI:ndI n=[]:=eI;refine⟨⟨⟨by omega,by omega⟩,⟨by omega,by omega⟩,⟨by omega,by omega⟩⟩,?_,fun e=>by omega,fun e=>by omega⟩;rw[eI];exact fun x hx=>by cases hx
  ·obtain⟨e,b1⟩:=ztp h k;have eC:=congrArg ndC e;have eN:=congrArg ndN e;have eM:=congrArg ndM e;have eI:=congrArg ndI e;have eC:ndC n=0:=eC;have eN:ndN n=ndN n:=eN;have eM:ndM n=0:=eM;have eI:ndI n=[]:=eI;refine⟨⟨⟨by omega,by omega⟩,⟨by omega,by omega⟩,⟨by omega,by omega⟩⟩,?_,fun e=>by omega,fun e=>by omega⟩;rw[eI];exact fun x hx=>by cases hx
  ·obtain⟨e,⟨l1,l2,l3⟩⟩:=zrm h k;have eC:=congrArg ndC e;have eN:=congrArg ndN e;have eM:=congrArg ndM e;have eI:=congrArg ndI e;have eC:ndC n=0:=eC;have eN:ndN n=0:=eN;have eM:ndM n=0:=eM;have eI:ndI n=ndI n:=eI;refine⟨⟨⟨by omega,by omega⟩,⟨by omega,by omega⟩,⟨by omega,by omega⟩⟩,?_,fun e=>by omega,fun e=>by omega⟩;exact fun x hx=>by have:=zcA (by decide) (by decide) l3 x hx;exact⟨by have:=this.1;omega,by have:=this.2;omega⟩
  ·obtain⟨e,⟨l1,l2,l3⟩⟩:=zrl h k;have eC:=congrArg ndC e;have eN:=congrArg ndN e;have eM:=congrArg ndM e;have eI:=congrArg ndI e;have eC:ndC n=0:=eC;have eN:ndN n=0:=eN;have eM:ndM n=0:=eM;have eI:ndI n=ndI n:=eI;refine⟨⟨⟨by omega,by omega⟩,⟨by omega,by omega⟩,⟨by omega,by omega⟩⟩,?_,fun e=>by omega,fun e=>by omega⟩;exact fun x hx=>by have:=zcA (by decide) (by decide) l3 x hx;exact⟨by have:=this.1;omega,by have:=this.2;omega⟩
  ·obtain⟨e,bc,⟨l1,l2,l3⟩,b1⟩:=zrk h k;have eC:=congrArg ndC e;have eN:=congrArg ndN e;have eM:=congrArg ndM e;have eI:=congrArg ndI e;have eC:ndC n=ndC n:=eC;have eN:ndN n=0:=eN;have eM:ndM n=ndM n:=eM;have eI:ndI n=ndI n:=eI;refine⟨⟨⟨by omega,by omega⟩,⟨by omega,by omega⟩,⟨by omega,by omega⟩⟩,?_,fun e=>by omega,fun e=>by omega⟩;exact fun x hx=>by have:=zcA (by decide) (by decide) l3 x hx;exact⟨by have:=this.1;omega,by have:=this.2;omega⟩
  ·obtain⟨e,b1⟩:=zto h k;have eC:=congrArg ndC e;have eN:=congrArg ndN e;have eM:=congrArg ndM e;have eI:=congrArg ndI e;have eC:ndC n=0:=eC;have eN:ndN n=ndN n:=eN;have eM:ndM n=0:=eM;have eI:ndI n=[]:=eI;refine⟨⟨⟨by omega,by omega⟩,⟨by omega,by omega⟩,⟨by omega,by omega⟩⟩,?_,fun e=>by omega,fun e=>by omega⟩;rw[eI];exact fun x hx=>by cases hx
  ·obtain⟨e,bn⟩:=ztn h k;have eC:=congrArg ndC e;have eN:=congrArg ndN e;have eM:=congrArg ndM e;have eI:=congrArg ndI e;have eC:ndC n=0:=eC;have eN:ndN n=0:=eN;have eM:ndM n=0:=eM;have eI:ndI n=[]:=eI;refine⟨⟨⟨by omega,by omega⟩,⟨by omega,by omega⟩,⟨by omega,by omega⟩⟩,?_,fun e=>by omega,fun e=>by omega⟩;rw[eI];exact fun x hx=>by cases hx
 exact⟨key.1,key.2.1,by omega,by omega,key.2.2⟩
theorem wfp_of {r:List Nd} (h:wfS r=true):WfP r:=by
 obtain⟨⟨h1,h2⟩,h3,h4⟩:=zb1 h;refine⟨by omega,fun j hj=>?_⟩;obtain⟨f1,f2⟩:=zbA h3 hj;obtain⟨l1,l2⟩:=zeY h3 j hj;exact⟨zj5 f1,(zaC f1).1,l1,l2⟩
theorem zfx (c:Bool) (t:List UInt8):(parS c t).length≤t.length+2:=by
 cases c with
 |true=>show t.length≤_;omega
 |false=>show ([40]++(t++ [41]):List UInt8).length≤_;simp
theorem zq2 {n:Nd} (h:zkO n):(zcI n).length≤2100:=by
 obtain⟨⟨hC,hN,hM⟩,hI,hl,hs,_⟩:=h;have l1:∀ w:List UInt8,w.length≤10->∀ l:List Int,l.length≤3->(∀ x∈l,zbQ x)->(putS w l).length≤67:=fun w hw l hl hx=>by
  have:=zbJ hx;unfold putS;rw[List.length_append];omega
 have l2:(zch (ndI n)).length≤2001:=by
  have:=zeK (ndI n) 0 hI;unfold zch;rw[List.length_append,List.length_singleton];omega
 have p0:∀ x∈([]:List Int),zbQ x:=fun x hx=>by cases hx
 have p1:∀ x∈ [ndC n],zbQ x:=fun x hx=>by rw[List.mem_singleton.1 hx];exact hC
 have p2:∀ x∈ [ndN n,ndM n],zbQ x:=fun x hx=>by
  rcases List.mem_cons.1 hx with rfl|hx
  ·exact hN
  ·rw[List.mem_singleton.1 hx];exact hM
 have p3:∀ x∈ [ndC n,ndN n,ndM n],zbQ x:=fun x hx=>by
  rcases List.mem_cons.1 hx with rfl|hx
  ·exact hC
  ·exact p2 x hx
 unfold zcI;split
 ·exact Nat.le_trans (l1 _ (by decide) _ (by simp) p2) (by decide)
 split
 ·exact Nat.le_trans (l1 _ (by decide) _ (by simp) p3) (by decide)
 split
 ·rw[List.length_append];have:=l1 zcy (by decide) _ (by simp) p1;omega
 split
 ·rw[List.length_append];have:=l1 za3 (by decide) _ (by simp) p1;omega
 split
 ·rw[List.length_append];have:=l1 zbl (by decide) _ (by simp) p0;omega
 split
 ·rw[List.length_append];have:=l1 zdr (by decide) _ (by simp) p1;omega
 split
 ·rw[List.length_append];have:=l1 wNth (by decide) _ (by simp) p3;have:=l1 (zcr (ndL n)) (zdS _) [] (by decide) p0;omega
 split
 ·show (64::ndS n++ []).length≤_;rw[List.append_nil,List.length_cons];omega
 ·exact Nat.zero_le _
theorem znQ {n:Nd} (b:List UInt8) (h:zkO n):(zcc b n).length≤2200+b.length:=by
 obtain⟨⟨hC,hN,hM⟩,hI,hl,hs,_⟩:=h;have l1:∀ w:List UInt8,w.length≤10->∀ l:List Int,l.length≤3->(∀ x∈l,zbQ x)->(putS w l).length≤67:=fun w hw l hl hx=>by
  have:=zbJ hx;unfold putS;rw[List.length_append];omega
 have l2:(zch (ndI n)).length≤2001:=by
  have:=zeK (ndI n) 0 hI;unfold zch;rw[List.length_append,List.length_singleton];omega
 have p0:∀ x∈([]:List Int),zbQ x:=fun x hx=>by cases hx
 have p1:∀ x∈ [ndC n],zbQ x:=fun x hx=>by rw[List.mem_singleton.1 hx];exact hC
 have p2:∀ x∈ [ndN n],zbQ x:=fun x hx=>by rw[List.mem_singleton.1 hx];exact hN
 unfold zcc;split
 ·have:=l1 (spW zeU) (by decide) _ (by simp) p2;omega
 split
 ·have:=l1 (spW zhY) (by decide) _ (by simp) p2;omega
 split
 ·have:=l1 (spW zeT) (by decide) _ (by simp) p2;omega
 split
 ·rw[List.length_append];have:=l1 (spW ze2) (by decide) _ (by simp) p0;omega
 split
 ·rw[List.length_append];have:=l1 (spW zcz) (by decide) _ (by simp) p0;omega
 split
 ·rw[List.length_append,List.length_append];have:=l1 (spW wPos) (by decide) _ (by simp) p1;have:=l1 (zcr (ndM n)) (zdS _) [] (by decide) p0;omega
 split
 ·rw[List.length_append,List.length_append];have:=l1 (spW zbT) (by decide) _ (by simp) p2;have:=l1 (spW wOf++ [32]) (by decide) [] (by decide) p0;omega
 ·exact Nat.zero_le _
theorem zfp:∀ t:Tr,TrOk t->t.text.length≤3000 * t.size
 | .leaf n,h=>by
  have:=zq2 (zj5 h.1);show (zcI n).length≤3000 * 1;omega
 | .un n a,h=>by
  have h1:=znQ [] (zj5 h.1);have h2:=zfp a h.2.2.2;have h3:=zfx (decide (a.lev≥4)) a.text;show (parS _ a.text++zcc [] n).length≤3000 * (a.size+1);rw[List.length_append];rw[List.length_nil]at h1;omega
 | .bin n a b,h=>by
  have h1:=zfp a h.2.2.2.1;have h2:=zfp b h.2.2.2.2;show _≤3000 * (a.size+b.size+1);rw[zlN];split
  ·have h3:=zfx (decide (a.lev≥4)) a.text;have h4:=zfx (decide (b.lev≥5)) b.text;have h5:=znQ (parS (decide (b.lev≥5)) b.text) (zj5 h.1);rw[List.length_append];omega
  ·have h3:=zfx (decide (a.lev≥levS (ndK n))) a.text;have h4:=zfx (decide (b.lev≥levS (ndK n)+1)) b.text;have h5:(putS ([32]++opWd (levS (ndK n))++ [32]) []).length≤20:=by
    have h6:=zlh (ndK n);show (([32]++opWd (levS (ndK n))++ [32])++ []:List UInt8).length≤20;rcases (show levS (ndK n)=1∨levS (ndK n)=2∨levS (ndK n)=3∨levS (ndK n)=4∨levS (ndK n)=5 by omega) with e|e|e|e|e<;>rw[e]<;>decide
   rw[List.length_append,List.length_append];omega
theorem zsv {t:Tr} (h:TrOk t) (hs:t.size≤64):t.text≠ []:=fun e=>by
 have h1:=zis h hs;rw[e]at h1;have h2:(match zc3 [] with | .ok _=>true| .error _=>false)=false:=by kernel_rfl
 rw[h1]at h2;cases h2
set_option maxRecDepth 100000
def zkD (k:Nat):Ctr:={ args:=[.slice nd,i64],pre:=fun x=>[wfS x.1=true,0≤x.2.1,x.2.1.toNat < k,x.2.1.toNat < List.length x.1,(zaO k x.1 x.2.1).length≤1000000],res:=.str,own:=none,out:=fun x=>zaO k x.1 x.2.1 }
def ztJ (k:Nat):Ctr:={ args:=[.slice nd,i64,i64],pre:=fun x=>[wfS x.1=true,0≤x.2.1,x.2.1.toNat < k,x.2.1.toNat < List.length x.1,(zaO k x.1 x.2.1).length≤1000000],res:=.str,own:=none,out:=fun x=>opdF k x.1 x.2.1 x.2.2.1 }
def kOp7 (k:Nat):Kn:={ gmK with C:=[(155,zmC),(64,zkD k)] }
theorem zsM {k:Nat} (ih:CtrOk Tryz.prog gmH 64 (zkD k)):CtrOk Tryz.prog gmH 110 (ztJ k):=by
 have hK:KnOk Tryz.prog gmH (kOp7 k):=zai.with (.cons zo2 <| .cons ih .nil);refine zan (K:=kOp7 k) hK Tryz.func110 rfl rfl Tryz.call110 rfl (Nat.le_of_ble_eq_true rfl) (by intro h;cases h) ?_;rintro w0 X hX ⟨(r:List Nd),(i:Int),(q:Int),_⟩ hp;obtain⟨hw,h0,hk,hr,hT⟩:wfS r=true∧0≤i∧i.toNat < k∧i.toNat < r.length∧(zaO k r i).length≤1000000:=hp;change AWP _ _ _ _ _ ⟨[(0,⟨.slice nd,r⟩),(1,⟨i64,i⟩),(2,⟨i64,q⟩)],[],0⟩ _;have z1:i < ((r.length:Nat):Int):=by omega
 (repeat(first|apply zae|apply zac|apply zab|apply zad));refine zaa hX hK rfl ?_ ?_
 ·trivial
 (repeat(first|apply zae|apply zac|apply zab|apply zad));refine zaa hX hK rfl ?_ ?_
 ·repeat'(first|exact trivial|assumption|exact h0|exact z1|exact hr|(refine⟨?_,?_⟩)|(intro _)|exact Nat.le_of_ble_eq_true rfl|exact Int.natCast_nonneg _|(simp_all [allP];done))
 refine zaf rfl (fun hc=>?_) (fun hc=>?_)
 ·have hc:decide (levS (ndK (zam r i)) < q)=true:=hc;have hc:=of_decide_eq_true hc;have m1:1+(zaO k r i).length≤maxLen:=by unfold maxLen;omega
  have m2:List.length ([40]++zaO k r i:List UInt8)+1≤maxLen:=by rw[List.length_append];show 1+_+1≤_;unfold maxLen;omega
  (repeat(first|apply zae|apply zac|apply zab|apply zad));refine zaa hX hK rfl ?_ ?_
  ·repeat'(first|exact trivial|assumption|exact hw|exact h0|exact hk|exact hr|exact hT|exact m1|exact m2|(refine⟨?_,?_⟩)|(intro _)|exact Nat.le_of_ble_eq_true rfl|exact Int.natCast_nonneg _|(simp_all [allP];done))
  refine AWP.ret ⟨.inr rfl,zat rfl trivial rfl rfl ?_⟩;show [40]++zaO k r i++ [41]=parS (decide (levS (ndK (zam r i))≥q)) (zaO k r i);rw[decide_eq_false (by omega)];exact List.append_assoc _ _ _
 ·have hc:decide (levS (ndK (zam r i)) < q)=false:=hc;have hc:=of_decide_eq_false hc;apply zac;(repeat(first|apply zae|apply zac|apply zab|apply zad));refine zaa hX hK rfl ?_ ?_
  ·repeat'(first|exact trivial|assumption|exact hw|exact h0|exact hk|exact hr|exact hT|(refine⟨?_,?_⟩)|(intro _)|exact Nat.le_of_ble_eq_true rfl|exact Int.natCast_nonneg _|(simp_all [allP];done))
  refine AWP.ret ⟨.inr rfl,zat rfl trivial rfl rfl ?_⟩;show zaO k r i=parS (decide (levS (ndK (zam r i))≥q)) (zaO k r i);rw[decide_eq_true (by omega)];rfl
theorem zni {k:Nat} {r:List Nd} {i:Int} (h:¬ (8≤ndK (zam r i)∧ndK (zam r i)≤17)):zaO (k+1) r i=zcI (zam r i):=by
 have hl:=zi7 h;unfold zaO;rw[hl,if_neg (by decide),if_neg (by decide)]
theorem zoH {k:Nat} {r:List Nd} {i:Int} (h:11≤ndK (zam r i)∧ndK (zam r i)≤17):zaO (k+1) r i=opdF k r (ndL (zam r i)) 4++zcc (opdF k r (ndR (zam r i)) 5) (zam r i):=by
 have hl:=zi6 h
 conv=>lhs;unfold zaO
 rw[hl,if_neg (by decide),if_pos rfl];rfl
theorem zoI {k:Nat} {r:List Nd} {i:Int} (h:8≤ndK (zam r i)∧ndK (zam r i)≤10):zaO (k+1) r i=opdF k r (ndL (zam r i)) (levS (ndK (zam r i)))++(putS ([32]++opWd (levS (ndK (zam r i)))++ [32]) []++opdF k r (ndR (zam r i)) (levS (ndK (zam r i))+1)):=by
 conv=>lhs;unfold zaO
 rw[if_pos (by rcases (show ndK (zam r i)=8∨ndK (zam r i)=9∨ndK (zam r i)=10 by omega) with e|e|e<;>rw[e]<;>decide)];rfl
theorem zgy (k:Nat) (r:List Nd) (i q:Int):(zaO k r i).length≤(opdF k r i q).length:=by
 unfold opdF parS;split
 ·exact Nat.le_refl _
 ·rw[List.length_append,List.length_append];omega
theorem zqT {l:List Int} (h:∀ n∈l,zbQ n):(lstR l).length≤20 * l.length+2:=by
 unfold lstR;split
 ·show 2≤_;omega
 ·have:=zl6 h;rw[List.length_append,List.length_singleton];omega
theorem fld_ne {n:Nd} (h:zbq n=true) (k:(3≤ndK n∧ndK n≤6)∨(14≤ndK n∧ndK n≤16)):ndI n≠ []:=by
 rcases (show ndK n=3∨ndK n=4∨ndK n=5∨ndK n=6∨ndK n=14∨ndK n=15∨ndK n=16 by omega) with e|e|e|e|e|e|e
 ·exact (fld3 h e).2.2.1
 ·exact (fld4 h e).2.2.1
 ·exact (fld5 h e).2.1
 ·exact (fld6 h e).2.2.1
 ·exact (zrm h e).2.1
 ·exact (zrl h e).2.1
 ·exact (zrk h e).2.2.1.1
def kTx7 (k:Nat):Kn:={ gmK with C:=[(107,cDec),(108,zsb),(109,zpL),(110,ztJ k)] }
theorem zmO {k:Nat} (ih:CtrOk Tryz.prog gmH 110 (ztJ k)):CtrOk Tryz.prog gmH 64 (zkD (k+1)):=by
 have hK:KnOk Tryz.prog gmH (kTx7 k):=zai.with (.cons zr3.lift <| .cons zqV <| .cons zn8 <| .cons ih .nil);refine zan (K:=kTx7 k) hK Tryz.func64 rfl rfl Tryz.call64 rfl (Nat.le_of_ble_eq_true rfl) (by intro h;cases h) ?_;rintro w0 X hX ⟨(r:List Nd),(i:Int),_⟩ hp;obtain⟨hw,h0,hk,hr,hT⟩:wfS r=true∧0≤i∧i.toNat < k+1∧i.toNat < r.length∧(zaO (k+1) r i).length≤1000000:=hp;change AWP _ _ _ _ _ ⟨[(0,⟨.slice nd,r⟩),(1,⟨i64,i⟩)],[],0⟩ _;have z1:i < ((r.length:Nat):Int):=by omega
 (repeat(first|apply zae|apply zac|apply zab|apply zad));refine zaa hX hK rfl ?_ ?_
 ·trivial
 (repeat(first|apply zae|apply zac|apply zab|apply zad));refine zaa hX hK rfl ?_ ?_
 ·repeat'(first|exact trivial|assumption|exact h0|exact z1|exact hr|(refine⟨?_,?_⟩)|(intro _)|exact Nat.le_of_ble_eq_true rfl|exact Int.natCast_nonneg _|(simp_all [allP];done))
 obtain⟨R,hR⟩:∃ R,R=zaO (k+1) r i:=⟨_,rfl⟩;obtain⟨zgM,hsuf,hbin⟩:=And.intro (@zni k r i) (And.intro (@zoH k r i) (@zoI k r i));rw[<-hR]at hT zgM hsuf hbin;refine zaq (σ':=⟨[(0,⟨.slice nd,r⟩),(5,⟨.optr nd,⟨0,nd,.here⟩⟩)],[(0,some (.box nd (zam r i)))],1⟩) ⟨⟨rfl,rfl,trivial⟩,⟨rfl,trivial⟩,rfl,rfl⟩ ?_;obtain⟨j,hj⟩:∃ j:Nat,i=(j:Int):=⟨i.toNat,by omega⟩;have hjr:j < r.length:=by omega
 have hjk:j < k+1:=by omega
 have h3:=(zb1 hw).2.1;obtain⟨hf,_⟩:=zbA h3 hjr;have hlow:=zeY h3 j hjr;rw[<-hj]at hf hlow;obtain⟨⟨⟨c1,c2⟩,⟨a1,a2⟩,⟨b1,b2⟩⟩,hI,hIl,hS,_⟩:=zj5 hf;obtain⟨⟨k1,k2⟩,_⟩:=zaC hf;generalize zam r i=n at *;have lC:=zdB c1 c2;have lN:=zdB a1 a2;have lM:=zdB b1 b2;have lS:=zob (ndL n);have lS2:=zob (ndM n);have lI:=zqT hI;have low1:=hlow.1;have low2:=hlow.2;have hne:=fld_ne hf;have hIl2:(ndI n).length≤1000:=by omega
 have m0:(deI (ndC n)).length+1≤maxLen:=by unfold maxLen;omega
 (repeat(first|apply zae|apply zac|apply zab|apply zad));refine zaa hX hK rfl ?_ ?_
 ·repeat'(first|exact trivial|assumption|exact c1|exact c2|exact m0|(refine⟨?_,?_⟩)|(intro _)|exact Nat.le_of_ble_eq_true rfl|exact Int.natCast_nonneg _|(simp_all [allP];done))
 (repeat(first|apply zae|apply zac|apply zab|apply zad));refine zaa hX hK rfl ?_ ?_
 ·trivial
 apply zab;(repeat(first|apply zae|apply zac|apply zab|apply zad));refine zaa hX hK rfl ?_ ?_
 ·trivial
 have hR0:R=zaO (k+1) r i:=hR;refine zaf rfl (fun e1=>?_) (fun e1=>?_)
 ·have e1:ndK n=1:=eq_of_beq e1;have q0:List.length (([100,97,121,115,32]:List UInt8))+List.length (deI (ndN n))≤maxLen:=by simp only[List.length_append,List.length_cons,List.length_nil];unfold maxLen;omega
  have q1:List.length (([100,97,121,115,32]:List UInt8)++deI (ndN n))+List.length (([32]:List UInt8))≤maxLen:=by simp only[List.length_append,List.length_cons,List.length_nil];unfold maxLen;omega
  have q2:List.length (([100,97,121,115,32]:List UInt8)++deI (ndN n)++([32]:List UInt8))+List.length (deI (ndM n))≤maxLen:=by simp only[List.length_append,List.length_cons,List.length_nil];unfold maxLen;omega
  (repeat(first|apply zae|apply zac|apply zab|apply zad));refine AWP.draw dM hX hK 9 (by kernel_rfl) rfl rfl ?_ ?_ ?_
  ·repeat'(first|exact trivial|assumption|exact q0|exact q1|exact q2|exact c1|exact c2|exact a1|exact a2|exact b1|exact b2|exact hIl|exact hI|exact hIl2|(refine⟨?_,?_⟩)|(intro _)|exact Nat.le_of_ble_eq_true rfl|exact Int.natCast_nonneg _|(simp_all [allP];done))
  ·repeat'(first|exact trivial|assumption|exact q0|exact q1|exact q2|exact c1|exact c2|exact a1|exact a2|exact b1|exact b2|exact hIl|exact hI|exact hIl2|(refine⟨?_,?_⟩)|(intro _)|exact Nat.le_of_ble_eq_true rfl|exact Int.natCast_nonneg _|(simp_all [allP];done))
  refine AWP.ret ⟨.inr rfl,zat rfl trivial rfl rfl ?_⟩;show ([100,97,121,115,32]:List UInt8)++deI (ndN n)++([32]:List UInt8)++deI (ndM n)=zaO (k+1) r i;rw[<-hR,zgM (by omega)];unfold zcI;rw[if_pos e1];simp[putS,zcl,ziK]
 have e1:ndK n≠1:=fun e=>by have h:(ndK n==1)=false:=e1;rw[e]at h;cases h
 (repeat(first|apply zae|apply zac|apply zab|apply zad));refine zaa hX hK rfl ?_ ?_
 ·trivial
 refine zaf rfl (fun e2=>?_) (fun e2=>?_)
 ·have e2:ndK n=2:=eq_of_beq e2;have q0:List.length (([121,101,97,114,115,32]:List UInt8))+List.length ((deI (ndC n)++ [32]))≤maxLen:=by simp only[List.length_append,List.length_cons,List.length_nil];unfold maxLen;omega
  have q1:List.length (([121,101,97,114,115,32]:List UInt8)++(deI (ndC n)++ [32]))+List.length (deI (ndN n))≤maxLen:=by simp only[List.length_append,List.length_cons,List.length_nil];unfold maxLen;omega
  have q2:List.length (([121,101,97,114,115,32]:List UInt8)++(deI (ndC n)++ [32])++deI (ndN n))+List.length (([32]:List UInt8))≤maxLen:=by simp only[List.length_append,List.length_cons,List.length_nil];unfold maxLen;omega
  have q3:List.length (([121,101,97,114,115,32]:List UInt8)++(deI (ndC n)++ [32])++deI (ndN n)++([32]:List UInt8))+List.length (deI (ndM n))≤maxLen:=by simp only[List.length_append,List.length_cons,List.length_nil];unfold maxLen;omega
  (repeat(first|apply zae|apply zac|apply zab|apply zad));refine AWP.draw dM hX hK 11 (by kernel_rfl) rfl rfl ?_ ?_ ?_
  ·repeat'(first|exact trivial|assumption|exact q0|exact q1|exact q2|exact q3|exact c1|exact c2|exact a1|exact a2|exact b1|exact b2|exact hIl|exact hI|exact hIl2|(refine⟨?_,?_⟩)|(intro _)|exact Nat.le_of_ble_eq_true rfl|exact Int.natCast_nonneg _|(simp_all [allP];done))
  ·repeat'(first|exact trivial|assumption|exact q0|exact q1|exact q2|exact q3|exact c1|exact c2|exact a1|exact a2|exact b1|exact b2|exact hIl|exact hI|exact hIl2|(refine⟨?_,?_⟩)|(intro _)|exact Nat.le_of_ble_eq_true rfl|exact Int.natCast_nonneg _|(simp_all [allP];done))
  refine AWP.ret ⟨.inr rfl,zat rfl trivial rfl rfl ?_⟩;show ([121,101,97,114,115,32]:List UInt8)++(deI (ndC n)++ [32])++deI (ndN n)++([32]:List UInt8)++deI (ndM n)=zaO (k+1) r i;rw[<-hR,zgM (by omega)];unfold zcI;rw[if_neg (by omega),if_pos e2];simp[putS,zcl,zfi]
 have e2:ndK n≠2:=fun e=>by have h:(ndK n==2)=false:=e2;rw[e]at h;cases h
 (repeat(first|apply zae|apply zac|apply zab|apply zad));refine zaa hX hK rfl ?_ ?_
 ·trivial
 refine zaf rfl (fun e3=>?_) (fun e3=>?_)
 ·have e3:ndK n=3:=eq_of_beq e3;have q0:List.length (([109,111,110,116,104,115,32]:List UInt8))+List.length ((deI (ndC n)++ [32]))≤maxLen:=by simp only[List.length_append,List.length_cons,List.length_nil];unfold maxLen;omega
  have q1:List.length (([109,111,110,116,104,115,32]:List UInt8)++(deI (ndC n)++ [32]))+List.length (lstR (ndI n))≤maxLen:=by simp only[List.length_append,List.length_cons,List.length_nil];unfold maxLen;omega
  (repeat(first|apply zae|apply zac|apply zab|apply zad));refine zaa hX hK rfl ?_ ?_
  ·repeat'(first|exact trivial|assumption|exact q0|exact q1|exact c1|exact c2|exact a1|exact a2|exact b1|exact b2|exact hIl|exact hI|exact hIl2|(refine⟨?_,?_⟩)|(intro _)|exact Nat.le_of_ble_eq_true rfl|exact Int.natCast_nonneg _|(simp_all [allP];done))
  refine AWP.ret ⟨.inr rfl,zat rfl trivial rfl rfl ?_⟩;show ([109,111,110,116,104,115,32]:List UInt8)++(deI (ndC n)++ [32])++lstR (ndI n)=zaO (k+1) r i;rw[<-hR,zgM (by omega)];unfold zcI;rw[if_neg (by omega),if_neg (by omega),if_pos e3];rw[zle (hne (by omega))];simp[putS,zcl,zcy]
 have e3:ndK n≠3:=fun e=>by have h:(ndK n==3)=false:=e3;rw[e]at h;cases h
 (repeat(first|apply zae|apply zac|apply zab|apply zad));refine zaa hX hK rfl ?_ ?_
 ·trivial
 refine zaf rfl (fun e4=>?_) (fun e4=>?_)
 ·have e4:ndK n=4:=eq_of_beq e4;have q0:List.length (([109,111,110,116,104,100,97,121,115,32]:List UInt8))+List.length ((deI (ndC n)++ [32]))≤maxLen:=by simp only[List.length_append,List.length_cons,List.length_nil];unfold maxLen;omega
  have q1:List.length (([109,111,110,116,104,100,97,121,115,32]:List UInt8)++(deI (ndC n)++ [32]))+List.length (lstR (ndI n))≤maxLen:=by simp only[List.length_append,List.length_cons,List.length_nil];unfold maxLen;omega
  (repeat(first|apply zae|apply zac|apply zab|apply zad));refine zaa hX hK rfl ?_ ?_
  ·repeat'(first|exact trivial|assumption|exact q0|exact q1|exact c1|exact c2|exact a1|exact a2|exact b1|exact b2|exact hIl|exact hI|exact hIl2|(refine⟨?_,?_⟩)|(intro _)|exact Nat.le_of_ble_eq_true rfl|exact Int.natCast_nonneg _|(simp_all [allP];done))
  refine AWP.ret ⟨.inr rfl,zat rfl trivial rfl rfl ?_⟩;show ([109,111,110,116,104,100,97,121,115,32]:List UInt8)++(deI (ndC n)++ [32])++lstR (ndI n)=zaO (k+1) r i;rw[<-hR,zgM (by omega)];unfold zcI;rw[if_neg (by omega),if_neg (by omega),if_neg (by omega),if_pos e4];rw[zle (hne (by omega))];simp[putS,zcl,za3]
 have e4:ndK n≠4:=fun e=>by have h:(ndK n==4)=false:=e4;rw[e]at h;cases h
 (repeat(first|apply zae|apply zac|apply zab|apply zad));refine zaa hX hK rfl ?_ ?_
 ·trivial
 refine zaf rfl (fun e5=>?_) (fun e5=>?_)
 ·have e5:ndK n=5:=eq_of_beq e5;have q0:List.length (([119,101,101,107,100,97,121,115,32]:List UInt8))+List.length (lstR (ndI n))≤maxLen:=by simp only[List.length_append,List.length_cons,List.length_nil];unfold maxLen;omega
  (repeat(first|apply zae|apply zac|apply zab|apply zad));refine zaa hX hK rfl ?_ ?_
  ·repeat'(first|exact trivial|assumption|exact q0|exact c1|exact c2|exact a1|exact a2|exact b1|exact b2|exact hIl|exact hI|exact hIl2|(refine⟨?_,?_⟩)|(intro _)|exact Nat.le_of_ble_eq_true rfl|exact Int.natCast_nonneg _|(simp_all [allP];done))
  refine AWP.ret ⟨.inr rfl,zat rfl trivial rfl rfl ?_⟩;show ([119,101,101,107,100,97,121,115,32]:List UInt8)++lstR (ndI n)=zaO (k+1) r i;rw[<-hR,zgM (by omega)];unfold zcI;rw[if_neg (by omega),if_neg (by omega),if_neg (by omega),if_neg (by omega),if_pos e5];rw[zle (hne (by omega))];simp[putS,zcl,zbl]
 have e5:ndK n≠5:=fun e=>by have h:(ndK n==5)=false:=e5;rw[e]at h;cases h
 (repeat(first|apply zae|apply zac|apply zab|apply zad));refine zaa hX hK rfl ?_ ?_
 ·trivial
 refine zaf rfl (fun e6=>?_) (fun e6=>?_)
 ·have e6:ndK n=6:=eq_of_beq e6;have q0:List.length (([119,101,101,107,115,32]:List UInt8))+List.length ((deI (ndC n)++ [32]))≤maxLen:=by simp only[List.length_append,List.length_cons,List.length_nil];unfold maxLen;omega
  have q1:List.length (([119,101,101,107,115,32]:List UInt8)++(deI (ndC n)++ [32]))+List.length (lstR (ndI n))≤maxLen:=by simp only[List.length_append,List.length_cons,List.length_nil];unfold maxLen;omega
  (repeat(first|apply zae|apply zac|apply zab|apply zad));refine zaa hX hK rfl ?_ ?_
  ·repeat'(first|exact trivial|assumption|exact q0|exact q1|exact c1|exact c2|exact a1|exact a2|exact b1|exact b2|exact hIl|exact hI|exact hIl2|(refine⟨?_,?_⟩)|(intro _)|exact Nat.le_of_ble_eq_true rfl|exact Int.natCast_nonneg _|(simp_all [allP];done))
  refine AWP.ret ⟨.inr rfl,zat rfl trivial rfl rfl ?_⟩;show ([119,101,101,107,115,32]:List UInt8)++(deI (ndC n)++ [32])++lstR (ndI n)=zaO (k+1) r i;rw[<-hR,zgM (by omega)];unfold zcI;rw[if_neg (by omega),if_neg (by omega),if_neg (by omega),if_neg (by omega),if_neg (by omega),if_pos e6];rw[zle (hne (by omega))];simp[putS,zcl,zdr]
 have e6:ndK n≠6:=fun e=>by have h:(ndK n==6)=false:=e6;rw[e]at h;cases h
 (repeat(first|apply zae|apply zac|apply zab|apply zad));refine zaa hX hK rfl ?_ ?_
 ·trivial
 refine zaf rfl (fun e7=>?_) (fun e7=>?_)
 ·have e7:ndK n=7:=eq_of_beq e7;have q0:List.length (([110,116,104,32]:List UInt8))+List.length ((deI (ndC n)++ [32]))≤maxLen:=by simp only[List.length_append,List.length_cons,List.length_nil];unfold maxLen;omega
  have q1:List.length (([110,116,104,32]:List UInt8)++(deI (ndC n)++ [32]))+List.length (deI (ndN n))≤maxLen:=by simp only[List.length_append,List.length_cons,List.length_nil];unfold maxLen;omega
  have q2:List.length (([110,116,104,32]:List UInt8)++(deI (ndC n)++ [32])++deI (ndN n))+List.length (([32]:List UInt8))≤maxLen:=by simp only[List.length_append,List.length_cons,List.length_nil];unfold maxLen;omega
  have q3:List.length (([110,116,104,32]:List UInt8)++(deI (ndC n)++ [32])++deI (ndN n)++([32]:List UInt8))+List.length (deI (ndM n))≤maxLen:=by simp only[List.length_append,List.length_cons,List.length_nil];unfold maxLen;omega
  have q4:List.length (([110,116,104,32]:List UInt8)++(deI (ndC n)++ [32])++deI (ndN n)++([32]:List UInt8)++deI (ndM n))+List.length (([32]:List UInt8))≤maxLen:=by simp only[List.length_append,List.length_cons,List.length_nil];unfold maxLen;omega
  have q5:List.length (([110,116,104,32]:List UInt8)++(deI (ndC n)++ [32])++deI (ndN n)++([32]:List UInt8)++deI (ndM n)++([32]:List UInt8))+List.length (scR (ndL n))≤maxLen:=by simp only[List.length_append,List.length_cons,List.length_nil];unfold maxLen;omega
  (repeat(first|apply zae|apply zac|apply zab|apply zad));refine AWP.draw dM hX hK 16 (by kernel_rfl) rfl rfl ?_ ?_ ?_
  ·repeat'(first|exact trivial|assumption|exact q0|exact q1|exact q2|exact q3|exact q4|exact q5|exact c1|exact c2|exact a1|exact a2|exact b1|exact b2|exact hIl|exact hI|exact hIl2|(refine⟨?_,?_⟩)|(intro _)|exact Nat.le_of_ble_eq_true rfl|exact Int.natCast_nonneg _|(simp_all [allP];done))
  ·repeat'(first|exact trivial|assumption|exact q0|exact q1|exact q2|exact q3|exact q4|exact q5|exact c1|exact c2|exact a1|exact a2|exact b1|exact b2|exact hIl|exact hI|exact hIl2|(refine⟨?_,?_⟩)|(intro _)|exact Nat.le_of_ble_eq_true rfl|exact Int.natCast_nonneg _|(simp_all [allP];done))
  refine AWP.ret ⟨.inr rfl,zat rfl trivial rfl rfl ?_⟩;show ([110,116,104,32]:List UInt8)++(deI (ndC n)++ [32])++deI (ndN n)++([32]:List UInt8)++deI (ndM n)++([32]:List UInt8)++scR (ndL n)=zaO (k+1) r i;rw[<-hR,zgM (by omega)];unfold zcI;rw[if_neg (by omega),if_neg (by omega),if_neg (by omega),if_neg (by omega),if_neg (by omega),if_neg (by omega),if_pos e7];rw[zn6];simp[putS,zcl,wNth]
 have e7:ndK n≠7:=fun e=>by have h:(ndK n==7)=false:=e7;rw[e]at h;cases h
 (repeat(first|apply zae|apply zac|apply zab|apply zad));refine zaa hX hK rfl ?_ ?_
 ·trivial
 refine zaf rfl (fun e18=>?_) (fun e18=>?_)
 ·have e18:ndK n=18:=eq_of_beq e18;have q0:List.length ([64]:List UInt8)+List.length (ndS n)≤maxLen:=by simp only[List.length_append,List.length_cons,List.length_nil];unfold maxLen;omega
  (repeat(first|apply zae|apply zac|apply zab|apply zad));refine zaa hX hK rfl ?_ ?_
  ·repeat'(first|exact trivial|assumption|exact q0|(refine⟨?_,?_⟩)|(intro _)|exact Nat.le_of_ble_eq_true rfl|exact Int.natCast_nonneg _|(simp_all [allP];done))
  refine AWP.ret ⟨.inr rfl,zat rfl trivial rfl rfl ?_⟩;show [64]++ndS n=zaO (k+1) r i;rw[<-hR,zgM (by omega)];unfold zcI;rw[if_neg (by omega),if_neg (by omega),if_neg (by omega),if_neg (by omega),if_neg (by omega),if_neg (by omega),if_neg (by omega),if_pos e18];simp[putS,zcl,wAt]
 have e18:ndK n≠18:=fun e=>by have h:(ndK n==18)=false:=e18;rw[e]at h;cases h
 (repeat(first|apply zae|apply zac|apply zab|apply zad));refine zaa hX hK rfl ?_ ?_
 ·trivial
 refine zaf rfl (fun e9=>?_) (fun e9=>?_)
 ·have e9:ndK n=9:=eq_of_beq e9;have hb:=hbin (by omega);have hl:=low1 (by omega) (by omega);have hr2:=low2 (by omega) (by omega);rw[e9]at hb;have hb:R=opdF k r (ndL n) 1++(([32,111,114,32]:List UInt8)++ []++opdF k r (ndR n) 2):=hb;have hlen:=congrArg List.length hb;rw[List.length_append,List.length_append,List.append_nil]at hlen;have g1:=zgy k r (ndL n) 1;have g2:=zgy k r (ndR n) 2;have y1:0≤ndL n:=hl.1;have y2:(ndL n).toNat < k:=by omega
  have y3:(ndL n).toNat < r.length:=by omega
  have y4:(zaO k r (ndL n)).length≤1000000:=by omega
  have y5:0≤ndR n:=hr2.1;have y6:(ndR n).toNat < k:=by omega
  have y7:(ndR n).toNat < r.length:=by omega
  have y8:(zaO k r (ndR n)).length≤1000000:=by omega
  have q0:List.length (opdF k r (ndL n) 1)+List.length ([32,111,114,32]:List UInt8)≤maxLen:=by unfold maxLen;omega
  have q1:List.length (opdF k r (ndL n) 1++([32,111,114,32]:List UInt8))+List.length (opdF k r (ndR n) 2)≤maxLen:=by rw[List.length_append];unfold maxLen;omega
  (repeat(first|apply zae|apply zac|apply zab|apply zad));refine AWP.draw dM hX hK 9 (by kernel_rfl) rfl rfl ?_ ?_ ?_
  ·repeat'(first|exact trivial|assumption|exact q0|exact q1|exact hw|exact y1|exact y2|exact y3|exact y4|exact y5|exact y6|exact y7|exact y8|(refine⟨?_,?_⟩)|(intro _)|exact Nat.le_of_ble_eq_true rfl|exact Int.natCast_nonneg _|(simp_all [allP];done))
  ·repeat'(first|exact trivial|assumption|exact q0|exact q1|exact hw|exact y1|exact y2|exact y3|exact y4|exact y5|exact y6|exact y7|exact y8|(refine⟨?_,?_⟩)|(intro _)|exact Nat.le_of_ble_eq_true rfl|exact Int.natCast_nonneg _|(simp_all [allP];done))
  refine AWP.ret ⟨.inr rfl,zat rfl trivial rfl rfl ?_⟩;show opdF k r (ndL n) 1++([32,111,114,32]:List UInt8)++opdF k r (ndR n) 2=zaO (k+1) r i;rw[<-hR,hb,List.append_nil,List.append_assoc]
 have e9:ndK n≠9:=fun e=>by have h:(ndK n==9)=false:=e9;rw[e]at h;cases h
 (repeat(first|apply zae|apply zac|apply zab|apply zad));refine zaa hX hK rfl ?_ ?_
 ·trivial
 refine zaf rfl (fun e10=>?_) (fun e10=>?_)
 ·have e10:ndK n=10:=eq_of_beq e10;have hb:=hbin (by omega);have hl:=low1 (by omega) (by omega);have hr2:=low2 (by omega) (by omega);rw[e10]at hb;have hb:R=opdF k r (ndL n) 2++(([32,109,105,110,117,115,32]:List UInt8)++ []++opdF k r (ndR n) 3):=hb;have hlen:=congrArg List.length hb;rw[List.length_append,List.length_append,List.append_nil]at hlen;have g1:=zgy k r (ndL n) 2;have g2:=zgy k r (ndR n) 3;have y1:0≤ndL n:=hl.1;have y2:(ndL n).toNat < k:=by omega
  have y3:(ndL n).toNat < r.length:=by omega
  have y4:(zaO k r (ndL n)).length≤1000000:=by omega
  have y5:0≤ndR n:=hr2.1;have y6:(ndR n).toNat < k:=by omega
  have y7:(ndR n).toNat < r.length:=by omega
  have y8:(zaO k r (ndR n)).length≤1000000:=by omega
  have q0:List.length (opdF k r (ndL n) 2)+List.length ([32,109,105,110,117,115,32]:List UInt8)≤maxLen:=by unfold maxLen;omega
  have q1:List.length (opdF k r (ndL n) 2++([32,109,105,110,117,115,32]:List UInt8))+List.length (opdF k r (ndR n) 3)≤maxLen:=by rw[List.length_append];unfold maxLen;omega
  (repeat(first|apply zae|apply zac|apply zab|apply zad));refine AWP.draw dM hX hK 9 (by kernel_rfl) rfl rfl ?_ ?_ ?_
  ·repeat'(first|exact trivial|assumption|exact q0|exact q1|exact hw|exact y1|exact y2|exact y3|exact y4|exact y5|exact y6|exact y7|exact y8|(refine⟨?_,?_⟩)|(intro _)|exact Nat.le_of_ble_eq_true rfl|exact Int.natCast_nonneg _|(simp_all [allP];done))
  ·repeat'(first|exact trivial|assumption|exact q0|exact q1|exact hw|exact y1|exact y2|exact y3|exact y4|exact y5|exact y6|exact y7|exact y8|(refine⟨?_,?_⟩)|(intro _)|exact Nat.le_of_ble_eq_true rfl|exact Int.natCast_nonneg _|(simp_all [allP];done))
  refine AWP.ret ⟨.inr rfl,zat rfl trivial rfl rfl ?_⟩;show opdF k r (ndL n) 2++([32,109,105,110,117,115,32]:List UInt8)++opdF k r (ndR n) 3=zaO (k+1) r i;rw[<-hR,hb,List.append_nil,List.append_assoc]
 have e10:ndK n≠10:=fun e=>by have h:(ndK n==10)=false:=e10;rw[e]at h;cases h
 (repeat(first|apply zae|apply zac|apply zab|apply zad));refine zaa hX hK rfl ?_ ?_
 ·trivial
 refine zaf rfl (fun e8=>?_) (fun e8=>?_)
 ·have e8:ndK n=8:=eq_of_beq e8;have hb:=hbin (by omega);have hl:=low1 (by omega) (by omega);have hr2:=low2 (by omega) (by omega);rw[e8]at hb;have hb:R=opdF k r (ndL n) 3++(([32,97,110,100,32]:List UInt8)++ []++opdF k r (ndR n) 4):=hb;have hlen:=congrArg List.length hb;rw[List.length_append,List.length_append,List.append_nil]at hlen;have g1:=zgy k r (ndL n) 3;have g2:=zgy k r (ndR n) 4;have y1:0≤ndL n:=hl.1;have y2:(ndL n).toNat < k:=by omega
  have y3:(ndL n).toNat < r.length:=by omega
  have y4:(zaO k r (ndL n)).length≤1000000:=by omega
  have y5:0≤ndR n:=hr2.1;have y6:(ndR n).toNat < k:=by omega
  have y7:(ndR n).toNat < r.length:=by omega
  have y8:(zaO k r (ndR n)).length≤1000000:=by omega
  have q0:List.length (opdF k r (ndL n) 3)+List.length ([32,97,110,100,32]:List UInt8)≤maxLen:=by unfold maxLen;omega
  have q1:List.length (opdF k r (ndL n) 3++([32,97,110,100,32]:List UInt8))+List.length (opdF k r (ndR n) 4)≤maxLen:=by rw[List.length_append];unfold maxLen;omega
  (repeat(first|apply zae|apply zac|apply zab|apply zad));refine AWP.draw dM hX hK 9 (by kernel_rfl) rfl rfl ?_ ?_ ?_
  ·repeat'(first|exact trivial|assumption|exact q0|exact q1|exact hw|exact y1|exact y2|exact y3|exact y4|exact y5|exact y6|exact y7|exact y8|(refine⟨?_,?_⟩)|(intro _)|exact Nat.le_of_ble_eq_true rfl|exact Int.natCast_nonneg _|(simp_all [allP];done))
  ·repeat'(first|exact trivial|assumption|exact q0|exact q1|exact hw|exact y1|exact y2|exact y3|exact y4|exact y5|exact y6|exact y7|exact y8|(refine⟨?_,?_⟩)|(intro _)|exact Nat.le_of_ble_eq_true rfl|exact Int.natCast_nonneg _|(simp_all [allP];done))
  refine AWP.ret ⟨.inr rfl,zat rfl trivial rfl rfl ?_⟩;show opdF k r (ndL n) 3++([32,97,110,100,32]:List UInt8)++opdF k r (ndR n) 4=zaO (k+1) r i;rw[<-hR,hb,List.append_nil,List.append_assoc]
 have e8:ndK n≠8:=fun e=>by have h:(ndK n==8)=false:=e8;rw[e]at h;cases h
 apply zac;have hs:=hsuf (by omega);have hl:=low1 (by omega) (by omega);have hlen:=congrArg List.length hs;rw[List.length_append]at hlen;have g1:=zgy k r (ndL n) 4;have y1:0≤ndL n:=hl.1;have y2:(ndL n).toNat < k:=by omega
 have y3:(ndL n).toNat < r.length:=by omega
 have y4:(zaO k r (ndL n)).length≤1000000:=by omega
 (repeat(first|apply zae|apply zac|apply zab|apply zad));refine zaa hX hK rfl ?_ ?_
 ·repeat'(first|exact trivial|assumption|exact hw|exact y1|exact y2|exact y3|exact y4|(refine⟨?_,?_⟩)|(intro _)|exact Nat.le_of_ble_eq_true rfl|exact Int.natCast_nonneg _|(simp_all [allP];done))
 have hO:(opdF k r (ndL n) 4).length≤1000000:=by omega
 refine zaq (σ':=⟨[(0,⟨.slice nd,r⟩),(5,⟨.optr nd,⟨0,nd,.here⟩⟩),(6,⟨.str,deI (ndC n)++ [32]⟩),(7,⟨.str,opdF k r (ndL n) 4⟩)],[(0,some (.box nd n))],1⟩) ⟨⟨rfl,rfl,rfl,rfl,trivial⟩,⟨rfl,trivial⟩,rfl,rfl⟩ ?_;generalize opdF k r (ndL n) 4=O at *;(repeat(first|apply zae|apply zac|apply zab|apply zad));refine zaa hX hK rfl ?_ ?_
 ·trivial
 apply zab;(repeat(first|apply zae|apply zac|apply zab|apply zad));refine zaa hX hK rfl ?_ ?_
 ·trivial
 refine zaf rfl (fun e11=>?_) (fun e11=>?_)
 ·have e11:ndK n=11:=eq_of_beq e11;have q0:List.length (O)+List.length (([32,115,104,105,102,116,32]:List UInt8))≤maxLen:=by simp only[List.length_append,List.length_cons,List.length_nil];unfold maxLen;omega
  have q1:List.length (O++([32,115,104,105,102,116,32]:List UInt8))+List.length (deI (ndN n))≤maxLen:=by simp only[List.length_append,List.length_cons,List.length_nil];unfold maxLen;omega
  (repeat(first|apply zae|apply zac|apply zab|apply zad));refine zaa hX hK rfl ?_ ?_
  ·repeat'(first|exact trivial|assumption|exact q0|exact q1|exact c1|exact c2|exact a1|exact a2|exact b1|exact b2|exact hIl|exact hI|exact hIl2|(refine⟨?_,?_⟩)|(intro _)|exact Nat.le_of_ble_eq_true rfl|exact Int.natCast_nonneg _|(simp_all [allP];done))
  refine AWP.ret ⟨.inr rfl,zat rfl trivial rfl rfl ?_⟩;show O++([32,115,104,105,102,116,32]:List UInt8)++deI (ndN n)=zaO (k+1) r i;rw[<-hR,hs];unfold zcc;rw[if_pos e11];simp[putS,zcl,spW,zeU]
 have e11:ndK n≠11:=fun e=>by have h:(ndK n==11)=false:=e11;rw[e]at h;cases h
 (repeat(first|apply zae|apply zac|apply zab|apply zad));refine zaa hX hK rfl ?_ ?_
 ·trivial
 refine zaf rfl (fun e12=>?_) (fun e12=>?_)
 ·have e12:ndK n=12:=eq_of_beq e12;have q0:List.length (O)+List.length (([32,102,114,111,109,32]:List UInt8))≤maxLen:=by simp only[List.length_append,List.length_cons,List.length_nil];unfold maxLen;omega
  have q1:List.length (O++([32,102,114,111,109,32]:List UInt8))+List.length (deI (ndN n))≤maxLen:=by simp only[List.length_append,List.length_cons,List.length_nil];unfold maxLen;omega
  (repeat(first|apply zae|apply zac|apply zab|apply zad));refine zaa hX hK rfl ?_ ?_
  ·repeat'(first|exact trivial|assumption|exact q0|exact q1|exact c1|exact c2|exact a1|exact a2|exact b1|exact b2|exact hIl|exact hI|exact hIl2|(refine⟨?_,?_⟩)|(intro _)|exact Nat.le_of_ble_eq_true rfl|exact Int.natCast_nonneg _|(simp_all [allP];done))
  refine AWP.ret ⟨.inr rfl,zat rfl trivial rfl rfl ?_⟩;show O++([32,102,114,111,109,32]:List UInt8)++deI (ndN n)=zaO (k+1) r i;rw[<-hR,hs];unfold zcc;rw[if_neg (by omega),if_pos e12];simp[putS,zcl,spW,zhY]
 have e12:ndK n≠12:=fun e=>by have h:(ndK n==12)=false:=e12;rw[e]at h;cases h
 (repeat(first|apply zae|apply zac|apply zab|apply zad));refine zaa hX hK rfl ?_ ?_
 ·trivial
 refine zaf rfl (fun e13=>?_) (fun e13=>?_)
 ·have e13:ndK n=13:=eq_of_beq e13;have q0:List.length (O)+List.length (([32,117,110,116,105,108,32]:List UInt8))≤maxLen:=by simp only[List.length_append,List.length_cons,List.length_nil];unfold maxLen;omega
  have q1:List.length (O++([32,117,110,116,105,108,32]:List UInt8))+List.length (deI (ndN n))≤maxLen:=by simp only[List.length_append,List.length_cons,List.length_nil];unfold maxLen;omega
  (repeat(first|apply zae|apply zac|apply zab|apply zad));refine zaa hX hK rfl ?_ ?_
  ·repeat'(first|exact trivial|assumption|exact q0|exact q1|exact c1|exact c2|exact a1|exact a2|exact b1|exact b2|exact hIl|exact hI|exact hIl2|(refine⟨?_,?_⟩)|(intro _)|exact Nat.le_of_ble_eq_true rfl|exact Int.natCast_nonneg _|(simp_all [allP];done))
  refine AWP.ret ⟨.inr rfl,zat rfl trivial rfl rfl ?_⟩;show O++([32,117,110,116,105,108,32]:List UInt8)++deI (ndN n)=zaO (k+1) r i;rw[<-hR,hs];unfold zcc;rw[if_neg (by omega),if_neg (by omega),if_pos e13];simp[putS,zcl,spW,zeT]
 have e13:ndK n≠13:=fun e=>by have h:(ndK n==13)=false:=e13;rw[e]at h;cases h
 (repeat(first|apply zae|apply zac|apply zab|apply zad));refine zaa hX hK rfl ?_ ?_
 ·trivial
 refine zaf rfl (fun e14=>?_) (fun e14=>?_)
 ·have e14:ndK n=14:=eq_of_beq e14;have q0:List.length (O)+List.length (([32,97,108,115,111,32]:List UInt8))≤maxLen:=by simp only[List.length_append,List.length_cons,List.length_nil];unfold maxLen;omega
  have q1:List.length (O++([32,97,108,115,111,32]:List UInt8))+List.length (lstR (ndI n))≤maxLen:=by simp only[List.length_append,List.length_cons,List.length_nil];unfold maxLen;omega
  (repeat(first|apply zae|apply zac|apply zab|apply zad));refine zaa hX hK rfl ?_ ?_
  ·repeat'(first|exact trivial|assumption|exact q0|exact q1|exact c1|exact c2|exact a1|exact a2|exact b1|exact b2|exact hIl|exact hI|exact hIl2|(refine⟨?_,?_⟩)|(intro _)|exact Nat.le_of_ble_eq_true rfl|exact Int.natCast_nonneg _|(simp_all [allP];done))
  refine AWP.ret ⟨.inr rfl,zat rfl trivial rfl rfl ?_⟩;show O++([32,97,108,115,111,32]:List UInt8)++lstR (ndI n)=zaO (k+1) r i;rw[<-hR,hs];unfold zcc;rw[if_neg (by omega),if_neg (by omega),if_neg (by omega),if_pos e14];rw[zle (hne (by omega))];simp[putS,zcl,spW,ze2]
 have e14:ndK n≠14:=fun e=>by have h:(ndK n==14)=false:=e14;rw[e]at h;cases h
 (repeat(first|apply zae|apply zac|apply zab|apply zad));refine zaa hX hK rfl ?_ ?_
 ·trivial
 refine zaf rfl (fun e15=>?_) (fun e15=>?_)
 ·have e15:ndK n=15:=eq_of_beq e15;have q0:List.length (O)+List.length (([32,101,120,99,101,112,116,32]:List UInt8))≤maxLen:=by simp only[List.length_append,List.length_cons,List.length_nil];unfold maxLen;omega
  have q1:List.length (O++([32,101,120,99,101,112,116,32]:List UInt8))+List.length (lstR (ndI n))≤maxLen:=by simp only[List.length_append,List.length_cons,List.length_nil];unfold maxLen;omega
  (repeat(first|apply zae|apply zac|apply zab|apply zad));refine zaa hX hK rfl ?_ ?_
  ·repeat'(first|exact trivial|assumption|exact q0|exact q1|exact c1|exact c2|exact a1|exact a2|exact b1|exact b2|exact hIl|exact hI|exact hIl2|(refine⟨?_,?_⟩)|(intro _)|exact Nat.le_of_ble_eq_true rfl|exact Int.natCast_nonneg _|(simp_all [allP];done))
  refine AWP.ret ⟨.inr rfl,zat rfl trivial rfl rfl ?_⟩;show O++([32,101,120,99,101,112,116,32]:List UInt8)++lstR (ndI n)=zaO (k+1) r i;rw[<-hR,hs];unfold zcc;rw[if_neg (by omega),if_neg (by omega),if_neg (by omega),if_neg (by omega),if_pos e15];rw[zle (hne (by omega))];simp[putS,zcl,spW,zcz]
 have e15:ndK n≠15:=fun e=>by have h:(ndK n==15)=false:=e15;rw[e]at h;cases h
 (repeat(first|apply zae|apply zac|apply zab|apply zad));refine zaa hX hK rfl ?_ ?_
 ·trivial
 refine zaf rfl (fun e16=>?_) (fun e16=>?_)
 ·have e16:ndK n=16:=eq_of_beq e16;have q0:List.length (O)+List.length (([32,112,111,115,32]:List UInt8))≤maxLen:=by simp only[List.length_append,List.length_cons,List.length_nil];unfold maxLen;omega
  have q1:List.length (O++([32,112,111,115,32]:List UInt8))+List.length ((deI (ndC n)++ [32]))≤maxLen:=by simp only[List.length_append,List.length_cons,List.length_nil];unfold maxLen;omega
  have q2:List.length (O++([32,112,111,115,32]:List UInt8)++(deI (ndC n)++ [32]))+List.length (scR (ndM n))≤maxLen:=by simp only[List.length_append,List.length_cons,List.length_nil];unfold maxLen;omega
  have q3:List.length (O++([32,112,111,115,32]:List UInt8)++(deI (ndC n)++ [32])++scR (ndM n))+List.length (([32]:List UInt8))≤maxLen:=by simp only[List.length_append,List.length_cons,List.length_nil];unfold maxLen;omega
  have q4:List.length (O++([32,112,111,115,32]:List UInt8)++(deI (ndC n)++ [32])++scR (ndM n)++([32]:List UInt8))+List.length (lstR (ndI n))≤maxLen:=by simp only[List.length_append,List.length_cons,List.length_nil];unfold maxLen;omega
  (repeat(first|apply zae|apply zac|apply zab|apply zad));refine AWP.draw dM hX hK 13 (by kernel_rfl) rfl rfl ?_ ?_ ?_
  ·repeat'(first|exact trivial|assumption|exact q0|exact q1|exact q2|exact q3|exact q4|exact c1|exact c2|exact a1|exact a2|exact b1|exact b2|exact hIl|exact hI|exact hIl2|(refine⟨?_,?_⟩)|(intro _)|exact Nat.le_of_ble_eq_true rfl|exact Int.natCast_nonneg _|(simp_all [allP];done))
  ·repeat'(first|exact trivial|assumption|exact q0|exact q1|exact q2|exact q3|exact q4|exact c1|exact c2|exact a1|exact a2|exact b1|exact b2|exact hIl|exact hI|exact hIl2|(refine⟨?_,?_⟩)|(intro _)|exact Nat.le_of_ble_eq_true rfl|exact Int.natCast_nonneg _|(simp_all [allP];done))
  refine AWP.ret ⟨.inr rfl,zat rfl trivial rfl rfl ?_⟩;show O++([32,112,111,115,32]:List UInt8)++(deI (ndC n)++ [32])++scR (ndM n)++([32]:List UInt8)++lstR (ndI n)=zaO (k+1) r i;rw[<-hR,hs];unfold zcc;rw[if_neg (by omega),if_neg (by omega),if_neg (by omega),if_neg (by omega),if_neg (by omega),if_pos e16];rw[zle (hne (by omega))];rw[zn6];simp[putS,zcl,spW,wPos]
 have e16:ndK n≠16:=fun e=>by have h:(ndK n==16)=false:=e16;rw[e]at h;cases h
 apply zac;have e17:ndK n=17:=by omega
 have hr2:=low2 (by omega) (by omega);have hs:R=O++(putS (spW zbT) [ndN n]++(putS (spW wOf++ [32]) []++opdF k r (ndR n) 5)):=by
  rw[hs];unfold zcc;rw[if_neg (by omega),if_neg (by omega),if_neg (by omega),if_neg (by omega),if_neg (by omega),if_neg (by omega),if_pos e17]
 have hlen:=congrArg List.length hs;rw[List.length_append,List.length_append,List.length_append]at hlen;have g2:=zgy k r (ndR n) 5;have y5:0≤ndR n:=hr2.1;have y6:(ndR n).toNat < k:=by omega
 have y7:(ndR n).toNat < r.length:=by omega
 have y8:(zaO k r (ndR n)).length≤1000000:=by omega
 have hP:(opdF k r (ndR n) 5).length≤1000000:=by omega
 have q0:List.length (O)+List.length (([32,98,101,104,105,110,100,32]:List UInt8))≤maxLen:=by simp only[List.length_append,List.length_cons,List.length_nil];unfold maxLen;omega
 have q1:List.length (O++([32,98,101,104,105,110,100,32]:List UInt8))+List.length (deI (ndN n))≤maxLen:=by simp only[List.length_append,List.length_cons,List.length_nil];unfold maxLen;omega
 have q2:List.length (O++([32,98,101,104,105,110,100,32]:List UInt8)++deI (ndN n))+List.length (([32,111,102,32]:List UInt8))≤maxLen:=by simp only[List.length_append,List.length_cons,List.length_nil];unfold maxLen;omega
 have q3:List.length (O++([32,98,101,104,105,110,100,32]:List UInt8)++deI (ndN n)++([32,111,102,32]:List UInt8))+List.length (opdF k r (ndR n) 5)≤maxLen:=by simp only[List.length_append,List.length_cons,List.length_nil];unfold maxLen;omega
 (repeat(first|apply zae|apply zac|apply zab|apply zad));refine AWP.draw dM hX hK 12 (by kernel_rfl) rfl rfl ?_ ?_ ?_
 ·repeat'(first|exact trivial|assumption|exact q0|exact q1|exact q2|exact q3|exact a1|exact a2|exact hw|exact y5|exact y6|exact y7|exact y8|(refine⟨?_,?_⟩)|(intro _)|exact Nat.le_of_ble_eq_true rfl|exact Int.natCast_nonneg _|(simp_all [allP];done))
 ·repeat'(first|exact trivial|assumption|exact q0|exact q1|exact q2|exact q3|exact a1|exact a2|exact hw|exact y5|exact y6|exact y7|exact y8|(refine⟨?_,?_⟩)|(intro _)|exact Nat.le_of_ble_eq_true rfl|exact Int.natCast_nonneg _|(simp_all [allP];done))
 refine AWP.ret ⟨.inr rfl,zat rfl trivial rfl rfl ?_⟩;show O++([32,98,101,104,105,110,100,32]:List UInt8)++deI (ndN n)++([32,111,102,32]:List UInt8)++opdF k r (ndR n) 5=zaO (k+1) r i;rw[<-hR,hs];simp[putS,zcl,spW,zbT,wOf]
theorem zlO:∀ k:Nat,CtrOk Tryz.prog gmH 64 (zkD k)
 |0=>by
  refine⟨Tryz.call64,fun w O xs vs _ _ hp=>?_⟩;obtain⟨(r:List Nd),(i:Int),_⟩:=xs;have h:i.toNat < 0:=hp.2.2.1;omega
 |k+1=>zmO (zsM (zlO k))
theorem zqG (A:Option Addr) (n c:Nat):Tryz.prog.built 107 [(1,.slice A n c)]=some #[.pointer none,.slice none 0 0,.slice A n c]:=by kernel_rfl
abbrev prV:Ty:=.hcons .lit (.hcons .lit (.hcons (.slice nd) .unit))
def prX (r:List Nd):prV.T:=(.pointer none,(.slice none 0 0,(r,())))
section
variable {w0:World} {X:Ownr} {n:Nat} {Q:Exit->AS->Prop} {ops:Array Oper} {F:Frame} {E:Owns} {nx:Nat}
theorem AL.bldPr {o:Oper} {rest:List Oper} {x:Operand} (ho:o.op= .build 107 #[(1,x)]) (hgd:o.guard=none) {d:Nat} (hd:o.dst=some d) (hdn:Nat.blt d n=true) {r:List Nd} (hx:evO F x=⟨.slice nd,r⟩)
 (h:AL Tryz.prog w0 X n ops rest ⟨(d,⟨prV,prX r⟩)::F,E,nx⟩ Q):AL Tryz.prog w0 X n ops (o::rest) ⟨F,E,nx⟩ Q:=by
 refine AL.hand hgd (fun c e=>by rw[ho]at e;cases e) fun β a w hs=>?_;have hsx:=hs.ops x;rw[show evO (AS.mk F E nx).F x=_ from hx]at hsx;have hsx':=hsx;obtain⟨v,e,hS⟩:=hsx;obtain⟨A,m,c,hv⟩:∃ A m c,a.eval x= .slice A m c:=by
  rw[List.singleton_inj.1 e];rcases hS with ⟨_,A,c,rfl,_⟩|⟨g,off,c,vs,rfl,_⟩
  ·exact⟨_,_,_,rfl⟩
  ·exact⟨_,_,_,rfl⟩
 rw[hv]at hsx';refine zkT hd hdn (v:=⟨prV,prX r⟩) (Nat.zero_le _) (N:=fun σ'=>AL Tryz.prog w0 X n ops rest σ' Q) h hs (u:=.agg #[.pointer none,.slice none 0 0,.slice A m c]) ?_ ?_
 ·unfold execOp;simp only[ho];refine zel ?_;rw[show (#[(1,x)]:Array (Nat×Operand)).map (fun p=>(p.1,a.eval p.2))= #[(1,Value.slice A m c)] from by simp[hv]];exact run_build w _ _ _ (zqG A m c)
 ·exact⟨_,[_,_],rfl,rfl,rfl,_,[_],rfl,rfl,rfl,_,[],rfl,rfl,hsx',[],rfl,rfl⟩
theorem AL.box3 (hX:X.Ok w0) {o:Oper} {rest:List Oper} {t:TypeId} {x:Operand} (ho:o.op= .box t x) (hgd:o.guard=none) {d:Nat} (hd:o.dst=some d) (hdn:Nat.blt d n=true) {A:Ty} {q1 q2:Value} {p:A.T} (hx:evO F x=⟨.hcons .lit (.hcons .lit (.hcons A .unit)),(q1,(q2,(p,())))⟩)
 (hA:A.plainL=true) (hbA:(⟨A,p⟩:V).bound=0) (h:AL Tryz.prog w0 X n ops rest ⟨(d,⟨.hptr,(nx,(0:Nat))⟩)::F,(nx,some (.hbox t [⟨.lit,q1⟩,⟨.lit,q2⟩,⟨A,p⟩]))::E,nx+1⟩ Q):AL Tryz.prog w0 X n ops (o::rest) ⟨F,E,nx⟩ Q:=by
 refine AL.hand hgd (fun c e=>by rw[ho]at e;cases e) fun β a w hs=>?_;have hlt:d < n:=by simpa using hdn
 have h1:=hs.ops x;rw[show evO (AS.mk F E nx).F x=_ from hx]at h1;obtain⟨c1,s1,e1,hc1,r1,h2⟩:=h1;obtain⟨c2,s2,e2,hc2,r2,h3⟩:=h2;obtain⟨c3,s3,e3,hc3,r3,h4⟩:=h3;obtain⟨cs,e4,h4⟩:∃ cs:List Value,(Value.agg s3.toArray)= .agg cs.toArray∧RepC w (OSet X E β) .unit () cs:=(RepD.agg rfl).1 h4;have h4:cs=[]:=h4;subst h4;have e4:s3=[]:=by
  have:=Value.agg.inj e4
  simpa using congrArg Array.toList this
 subst e4;have e3:s2=[c3]:=by
  have:=Value.agg.inj e3
  simpa using congrArg Array.toList this
 subst e3;have e2:s1=[c2,c3]:=by
  have:=Value.agg.inj e2
  simpa using congrArg Array.toList this
 subst e2;refine zbE (u:=.pointer (some ⟨w.heap.size,0,none⟩)) (w':=w.alloc (.cells #[c1,c2,c3] t (0,0))) ?_ ?_
 ·unfold execOp;simp only[ho];refine zel ?_;rw[e1];simp[Instr.box,newVar,newRow,Value.cells,go_sem]
 ·rw[hd];have hk:Below w.heap.size w (w.alloc (.cells #[c1,c2,c3] t (0,0))):=(Below.refl _ w).alloc (Nat.le_refl _) (.cells #[c1,c2,c3] t (0,0));obtain⟨β',h4⟩:=hs.make hX hk (bv:=.pointer (some ⟨w.heap.size,0,none⟩)) (o:=.hbox t [⟨.lit,q1⟩,⟨.lit,q2⟩,⟨A,p⟩])
   (fun O β' hO=>by
     have hkk:Keeps w (w.alloc (.cells #[c1,c2,c3] t (0,0))) (OSet X E β) O:=.of_below hk fun g hg hg'=>by
      rcases hO g hg' with h5|h5
      ·exact h5
      ·simp[zah]at h5;omega
     exact⟨w.heap.size,[c1,c2,c3],rfl,Nat.zero_le _,World.alloc_heap_new w _,⟨c1,[c2,c3],rfl,hc1,r1,⟨c2,[c3],rfl,hc2,r2,⟨c3,[],rfl,hc3,RepV.plainL hkk hA r3,rfl⟩⟩⟩⟩) (fun g hg=>by cases hg;exact Nat.le_refl _) (v:=⟨.hptr,(nx,(0:Nat))⟩) (u:=.pointer (some ⟨w.heap.size,0,none⟩))
   (fun O β' hb=>⟨w.heap.size,by show zah (β' nx)=_;rw[show β' nx=_ from hb];rfl,rfl⟩) (Nat.le_refl _) hlt (fun vs e v hv=>by
     cases e;rcases List.mem_cons.1 hv with rfl|hv
     ·exact Nat.zero_le _
     ·rcases List.mem_cons.1 hv with rfl|hv
      ·exact Nat.zero_le _
      ·rw[List.mem_singleton.1 hv,hbA];exact Nat.zero_le _)
  exact⟨_,β',h4,h⟩
end
theorem ziB {w0:World} {O:Nat->Prop} (hX:(Ownr.plain gmH O).Ok w0) {ty:TypeId}:ginv w0 (Ownr.plain gmH O).R ty:=⟨Ownr.plain_noR _ _ _,Ownr.plain_noR _ _ _⟩
theorem know3 (k:Int) (h:0≤k∧k≤2):zgO (zgA k):=by
 have key:∀ k:Fin 3,zgO (zgA ((k.val:Nat):Int)):=by
  intro k;unfold zgO;revert k;decide+kernel
 have:=key ⟨k.toNat,by omega⟩;rwa[show (((⟨k.toNat,by omega⟩:Fin 3).val:Nat):Int)=k by show ((k.toNat:Nat):Int)=k;omega]at this
def zrB (k:Nat):List Cal:=(List.range 3).map fun j=>if j < k then zgA ((j:Nat):Int) else zCal
theorem bufC {te:TypeId} {x y:List Cal} (h:x=y):some (OObj.buf te cal x)=some (OObj.buf te cal y):=by rw[h]
theorem ztF:∀ c∈zrB 3,zgO c:=fun c hc=>by
 obtain⟨j,hj,rfl⟩:=List.mem_map.1 hc;have hj:=List.mem_range.1 hj;rw[if_pos hj];exact know3 _ ⟨by omega,by omega⟩
def cFmt:Ctr:={ args:=[.slice nd],pre:=fun _=>[],res:=.tup .str (.tup i64 .unit),own:=none,out:=fun x=>((fmtS x.1).1,(fmtS x.1).2,()) }
def kFm:Kn:={ gmK with C:=[(59,ziG),(34,ztH)] }
theorem zbR:KnOk Tryz.prog gmH kFm:=zai.with (.cons zq5 <| .cons zsj .nil)
def hFm:List (FuncId×HCtr):=[(60,zkG 65),(61,znA prT [107])]
theorem zrZ:HsOk Tryz.prog gmH hFm:=.cons (zrT 65).1 <| .cons zs1 .nil
set_option maxHeartbeats 1000000 in
theorem zhH:CtrOk Tryz.prog gmH 24 cFmt:=by
 refine zan (K:=kFm) zbR Tryz.func24 rfl rfl Tryz.call24 rfl (by decide) (by intro h;cases h) ?_;rintro w0 X hX ⟨(r:List Nd),_⟩ hp;change AWP _ _ _ _ _ ⟨[(0,⟨.slice nd,r⟩)],[],0⟩ _;refine AWP.len 0 rfl fun hl=>?_;unfold maxLen at hl;have hI:∀ w R,(∀ g,R g->w0.heap.size≤g∨(Ownr.plain gmH X).R g)->(Ownr.plain gmH X).G w->bInv prT [107] w R 107:=fun w R hR hw=>⟨zaH (ty:=107) hX rfl (ziB hX) (ty':=107) w R hR hw,List.mem_singleton.2 rfl⟩;(repeat(first|apply zae|apply zac|apply zab|apply zad));refine zaa hX zbR rfl ?_ ?_
 ·trivial
 (repeat(first|apply zae|apply zac|apply zab|apply zad));refine zaa hX zbR rfl ?_ ?_
 ·exact⟨by decide,by decide,(by decide:(3:Int)≤1000000000)⟩
 (repeat(first|apply zae|apply zac|apply zab|apply zad));refine zaa hX zbR rfl ?_ ?_
 ·trivial
 (repeat(first|apply zae|apply zac|apply zab|apply zad));refine AWP.loop (ι:=Nat) (fun k=>⟨[(0,⟨.slice nd,r⟩),(4,⟨.obuf cal,(0:Nat)⟩),(10,⟨i64,(3:Int)⟩),(11,⟨i64,(k:Int)⟩)],[(0,some (.buf 63 cal (zrB k)))],1⟩) (fun k=>k≤3) (fun k=>3 - k) 0 (Nat.zero_le _) ⟨⟨rfl,rfl,rfl,rfl,trivial⟩,⟨rfl,trivial⟩,rfl,rfl⟩ ?_;intro k hk;(repeat(first|apply zae|apply zac|apply zab|apply zad));refine zaa hX zbR rfl ?_ ?_
 ·trivial
 apply zae;refine zaf rfl (fun hb=>?_) (fun hb=>?_)
 ·have hb:decide ((k:Int) < 3)=true:=hb;have hb:=of_decide_eq_true hb;have z0:(0:Int)≤(k:Int):=by omega
  have z1:(k:Int)≤2:=by omega
  have z2:(k:Int) < (((zrB k).length:Nat):Int):=by show (k:Int) < ((3:Nat):Int);omega
  have z3:((k:Int)).toNat < (zrB k).length:=by show _ < 3;omega
  (repeat(first|apply zae|apply zac|apply zab|apply zad));refine zaa hX zbR rfl ?_ ?_
  ·trivial
  (repeat(first|apply zae|apply zac|apply zab|apply zad));refine zaa hX zbR rfl ?_ ?_
  ·repeat'(first|exact trivial|exact z0|exact z1|exact z2|exact z3|(refine⟨?_,?_⟩))
  (repeat(first|apply zae|apply zac|apply zab|apply zad));refine zaa hX zbR rfl ?_ ?_
  ·exact zaF (by omega)
  refine⟨k+1,by omega,by omega,⟨rfl,rfl,rfl,zcg _,trivial⟩,⟨bufC ?_,trivial⟩,rfl,rfl⟩;rcases (show k=0∨k=1∨k=2 by omega) with rfl|rfl|rfl<;>rfl
 have hb:decide ((k:Int) < 3)=false:=hb;have hb:=of_decide_eq_false hb;obtain rfl:k=3:=by omega
 apply zad;refine AWP.frz hX 4 ?_;(repeat(first|apply zae|apply zac|apply zab|apply zad));refine zaa hX zbR rfl ?_ ?_
 ·exact⟨rfl,ztF⟩
 (repeat(first|apply zae|apply zac|apply zab|apply zad));refine zaa hX zbR rfl ?_ ?_
 ·trivial
 refine zaf rfl (fun hb=>?_) (fun hb=>?_)
 ·have hb:(zbh r != 0)=true:=hb;have hb:=bne_iff_ne.1 hb;(repeat(first|apply zae|apply zac|apply zak|apply zad|apply zab|refine zaa hX zbR rfl trivial ?_|refine zaa hX zbR rfl id ?_|refine zaa hX zbR rfl ⟨id,id⟩ ?_));refine AWP.ret ⟨.inr rfl,za7 (by decide) rfl rfl trivial ?_⟩;show (([]:List UInt8),zbh r,())=((fmtS r).1,(fmtS r).2,());unfold fmtS;rw[if_neg hb]
 have hb:(zbh r != 0)=false:=hb;have hv:zbh r=0:=by
  have:=bne_eq_false_iff_eq.1 hb;exact this
 have hwf:=zg7 hv;have hok:=znO hwf;have hsz:=zha hwf;have htx:=znN hwf;have htl:=zfp _ hok;obtain⟨⟨w1,w2⟩,_⟩:=zb1 hwf;have hne:=zsv hok (by omega);apply zac;refine zaq (σ':=⟨[(0,⟨.slice nd,r⟩)],[],1⟩) ⟨⟨rfl,trivial⟩,trivial,rfl,rfl⟩ ?_;apply zae;refine zaj ?_;refine AL.take 1 hX zbR rfl trivial ?_;refine AL.bldPr rfl rfl rfl rfl rfl ?_;refine AL.box3 hX rfl rfl rfl rfl rfl rfl rfl ?_;refine AL.nilLeaf 1 1 5 u8 rfl rfl rfl ?_;refine AL.all hX zbR rfl trivial ?_;have p0:(0:Int)≤((r.length:Nat):Int) - 1:=by omega
 have p1:(((r.length:Nat):Int) - 1).toNat < 65:=by omega
 have p2:(((r.length:Nat):Int) - 1).toNat < r.length:=by omega
 have hnf:zaO 65 r (((r.length:Nat):Int) - 1)=(zbW r).text:=by
  rw[<-htx];have hlow:=zeY (zb1 hwf).2.1;rw[show (((r.length:Nat):Int) - 1)=((r.length - 1:Nat):Int) by omega,zfA hlow _ _ (by omega) (by omega),zfA hlow _ _ (by omega) (by omega),zfo hlow 65 (r.length+1) _ (by omega) (by omega) (by omega)]
 have p3:List.length ([]:List UInt8)+List.length (zaO 65 r (((r.length:Nat):Int) - 1))+10000≤1000000000:=by
  rw[hnf,List.length_nil];omega
 have p4:inR .i64 (((r.length:Nat):Int) - 1):=zar (by omega) (by omega);refine zaq (σ':=⟨[(0,⟨.slice nd,r⟩),(7,⟨.hptr,((1:Nat),(0:Nat))⟩)],[(1,some (.hbox 107 [adV 1 false,⟨.obuf u8,(2:Nat)⟩,⟨.slice nd,r⟩])),(2,some (.buf 5 u8 []))],3⟩) ⟨⟨rfl,rfl,trivial⟩,⟨rfl,rfl,trivial⟩,rfl,rfl⟩ ?_;refine AWP.via (σ':=⟨[(7,⟨.hptr,((1:Nat),(0:Nat))⟩)],[(1,some (.hbox 107 [adV 1 true,⟨.obuf u8,(2:Nat)⟩,⟨.slice nd,r⟩])),(2,some (.buf 5 u8 (zbW r).text))],3⟩) ?_ ?_
 ·refine zaj ?_;refine AL.own 4 hX zbR zrZ rfl p4 rfl rfl ⟨wfp_of hwf,p0,p1,p2,p3⟩ hI ?_;refine AL.nil ?_;exact⟨⟨rfl,trivial⟩,⟨rfl,(by show some (OObj.buf _ u8 ([]++zaO 65 r _))=_;rw[List.nil_append,hnf]),trivial⟩,rfl,rfl⟩
 have hf:fmtS r=if 4000 < (zbW r).text.length then ([],2) else ((zbW r).text,0):=by unfold fmtS;rw[if_pos hv]
 generalize (zbW r).text=T at hf hne;(repeat(first|apply zae|apply zac|apply zab|apply zad));refine zaj ?_;refine AL.take 2 hX zbR rfl trivial ?_;refine AL.step (eqP0 _ _ rfl) hX zbR rfl trivial ?_;refine AL.own 0 hX zbR zrZ rfl trivial rfl rfl trivial hI ?_;refine AL.all hX zbR rfl trivial ?_;refine zaq (σ':=⟨[(7,⟨.hptr,((1:Nat),(0:Nat))⟩),(41,⟨.bool,decide (((T.length:Nat):Int) > 4000)⟩)],[(1,some (.hbox 107 [adV 1 true,⟨.obuf u8,(2:Nat)⟩,⟨.slice nd,r⟩])),(2,some (.buf 5 u8 T))],3⟩) ⟨⟨rfl,rfl,trivial⟩,⟨rfl,rfl,trivial⟩,rfl,rfl⟩ ?_;refine zaf rfl (fun hb=>?_) (fun hb=>?_)
 ·have hb:=of_decide_eq_true hb;(repeat(first|apply zae|apply zac|apply zak|apply zad|apply zab|refine zaa hX zbR rfl trivial ?_|refine zaa hX zbR rfl id ?_|refine zaa hX zbR rfl ⟨id,id⟩ ?_));refine AWP.ret ⟨.inr rfl,za7 (by decide) rfl rfl trivial ?_⟩;show (([]:List UInt8),(2:Int),())=((fmtS r).1,(fmtS r).2,());rw[hf,if_pos (by omega)]
 ·have hb:=of_decide_eq_false hb;apply zac;(repeat(first|apply zae|apply zac|apply zab|apply zad));refine zaj ?_;refine AL.take 2 hX zbR rfl trivial ?_;refine AL.step (eqP0 _ _ rfl) hX zbR rfl trivial ?_;refine AL.give hX (zjK prT rfl [107]) rfl rfl rfl rfl rfl rfl rfl rfl rfl rfl rfl rfl trivial hne hI rfl rfl ?_;show AL _ _ _ _ _ _ _ _;refine AL.all hX zbR rfl trivial ?_;refine AWP.ret ⟨.inr rfl,za7 (by decide) rfl rfl trivial ?_⟩;show (T,(0:Int),())=((fmtS r).1,(fmtS r).2,());rw[hf,if_neg (by omega)]
def kFm7:Kn:={ gmK with C:=[(35,zpT),(63,cVal6),(64,zkD 1000)] }
theorem zcC:KnOk Tryz.prog gmH kFm7:=zai.with (.cons zrC <| .cons zsk <| .cons (zlO 1000) .nil)
theorem znj {r:List Nd} (h:wfS r=true):zaO 1000 r ((r.length:Int) - 1)=(zbW r).text:=by
 obtain⟨⟨h1,h2⟩,h3,h4⟩:=zb1 h;have e:((r.length:Int) - 1)=((r.length - 1:Nat):Int):=by omega
 unfold zbW;rw[e,zfo (zeY h3) (r.length+1) 1000 (r.length - 1) (by omega) (by omega) (by omega)];exact zfA (zeY h3) _ _ (by omega) (by omega)
theorem ztm:CtrOk Tryz.prog gmH 25 cFmt:=by
 refine zan (K:=kFm7) zcC Tryz.func25 rfl rfl Tryz.call25 rfl (by decide) (by intro h;cases h) ?_;rintro w0 X hX ⟨(r:List Nd),_⟩ hp;change AWP _ _ _ _ _ ⟨[(0,⟨.slice nd,r⟩)],[],0⟩ _;refine AWP.len 0 rfl fun hl=>?_;unfold maxLen at hl;(repeat(first|apply zae|apply zac|apply zab|apply zad));refine zaa hX zcC rfl ?_ ?_
 ·trivial
 have hcc:zpT.out ()=zdP:=rfl;(repeat(first|apply zae|apply zac|apply zab|apply zad));refine zaa hX zcC rfl ?_ ?_
 ·exact hcc
 refine zaq (σ':=⟨[(0,⟨.slice nd,r⟩),(4,⟨i64,zbh r⟩)],[],0⟩) ⟨⟨rfl,rfl,trivial⟩,trivial,rfl,rfl⟩ ?_;(repeat(first|apply zae|apply zac|apply zab|apply zad));refine zaa hX zcC rfl ?_ ?_
 ·trivial
 refine zaf rfl (fun hc=>?_) (fun hc=>?_)
 ·have hc:(zbh r != 0)=true:=hc;have hc:zbh r≠0:=by simpa using hc
  (repeat(first|apply zae|apply zac|apply zak|apply zad|apply zab|refine zaa hX zcC rfl trivial ?_|refine zaa hX zcC rfl id ?_|refine zaa hX zcC rfl ⟨id,id⟩ ?_));refine AWP.ret ⟨.inr rfl,za7 (by decide) rfl rfl trivial ?_⟩;show (([]:List UInt8),zbh r,())=((fmtS r).1,(fmtS r).2,());unfold fmtS;rw[if_neg hc]
 have hc:(zbh r != 0)=false:=hc;have hc:zbh r=0:=by simpa using hc
 have hw:=zg7 hc;obtain⟨⟨h1,h2⟩,_⟩:=zb1 hw;have hT:=znj hw;have htl:=zfp _ (znO hw);rw[zha hw]at htl;apply zac;have i1:inR .i64 (((r.length:Nat):Int) - 1):=zar (by omega) (by omega);have i2:0≤((r.length:Nat):Int) - 1:=by omega
 have i3:(((r.length:Nat):Int) - 1).toNat < 1000:=by omega
 have i4:(((r.length:Nat):Int) - 1).toNat < r.length:=by omega
 have i5:(zaO 1000 r (((r.length:Nat):Int) - 1)).length≤1000000:=by rw[hT];omega
 (repeat(first|apply zae|apply zac|apply zab|apply zad));refine zaa hX zcC rfl ?_ ?_
 ·exact⟨i1,hw,i2,i3,i4,i5⟩
 refine zaq (σ':=⟨[(5,⟨.str,(zbW r).text⟩)],[],0⟩) ⟨⟨bufS hT,trivial⟩,trivial,rfl,rfl⟩ ?_;(repeat(first|apply zae|apply zac|apply zab|apply zad));refine zaa hX zcC rfl ?_ ?_
 ·trivial
 refine zaf rfl (fun hd=>?_) (fun hd=>?_)
 ·have hd:decide ((((zbW r).text.length:Nat):Int) > 4000)=true:=hd;have hd:=of_decide_eq_true hd;(repeat(first|apply zae|apply zac|apply zak|apply zad|apply zab|refine zaa hX zcC rfl trivial ?_|refine zaa hX zcC rfl id ?_|refine zaa hX zcC rfl ⟨id,id⟩ ?_));refine AWP.ret ⟨.inr rfl,za7 (by decide) rfl rfl trivial ?_⟩;show (([]:List UInt8),(2:Int),())=((fmtS r).1,(fmtS r).2,());unfold fmtS;rw[if_pos hc,if_pos (by omega)]
 ·have hd:decide ((((zbW r).text.length:Nat):Int) > 4000)=false:=hd;have hd:=of_decide_eq_false hd;(repeat(first|apply zae|apply zac|apply zak|apply zad|apply zab|refine zaa hX zcC rfl trivial ?_|refine zaa hX zcC rfl id ?_|refine zaa hX zcC rfl ⟨id,id⟩ ?_));refine AWP.ret ⟨.inr rfl,za7 (by decide) rfl rfl trivial ?_⟩;show ((zbW r).text,(0:Int),())=((fmtS r).1,(fmtS r).2,());unfold fmtS;rw[if_pos hc,if_neg (by omega)]
def TrSh:Tr->Prop
 | .leaf n=>¬ (8≤ndK n∧ndK n≤17)∧(0≤ndL n∧ndL n≤1)∧ndR n=0
 | .un n a=>(11≤ndK n∧ndK n≤16)∧ndR n=0∧TrSh a
 | .bin n a b=>((8≤ndK n∧ndK n≤10)∨ndK n=17)∧TrSh a∧TrSh b
theorem zd3:∀ t:Tr,1≤t.size
 | .leaf _=>Nat.le_refl _
 | .un _ a=>by have:=zd3 a;rw[Tr.size];omega
 | .bin _ a b=>by have:=zd3 a;rw[Tr.size];omega
theorem zjH {k:Int}:two k=true↔(8≤k∧k≤10)∨k=17:=by
 unfold two;rw[Bool.or_eq_true,Bool.or_eq_true,Bool.or_eq_true,beq_iff_eq,beq_iff_eq,beq_iff_eq,beq_iff_eq];omega
theorem zlc {n:Nd} {b:Int} (h:¬ (8≤ndK n∧ndK n≤17)):zcH b n=n:=by
 obtain⟨k,c,L,R,rest⟩:=n;have h:¬ (8≤k∧k≤17):=h;have h2:¬ two k=true:=by rw[zjH];omega
 unfold zcH;rw[if_neg h,if_neg h2]
theorem zoM {n:Nd} {b x:Int} (h:11≤ndK n∧ndK n≤16):zcH b (setL n x)=setL n (x+b):=by
 obtain⟨k,c,L,R,rest⟩:=n;have h:11≤k∧k≤16:=h;have h1:8≤k∧k≤17:=by omega
 have h2:¬ two k=true:=by rw[zjH];omega
 show (k,c,(if 8≤k∧k≤17 then x+b else x),(if two k then R+b else R),rest)=(k,c,x+b,R,rest);rw[if_pos h1,if_neg h2]
theorem znm {n:Nd} {b x y:Int} (h:(8≤ndK n∧ndK n≤10)∨ndK n=17):zcH b (zck n x y)=zck n (x+b) (y+b):=by
 obtain⟨k,c,L,R,rest⟩:=n;have h:(8≤k∧k≤10)∨k=17:=h;have h1:8≤k∧k≤17:=by omega
 have h2:two k=true:=zjH.2 h;show (k,c,(if 8≤k∧k≤17 then x+b else x),(if two k then y+b else y),rest)=(k,c,x+b,y+b,rest);rw[if_pos h1,if_pos h2]
theorem zeJ:∀ (t:Tr) (i j:Nat),TrSh t->zeh (t.flat i) (j:Int)=t.flat (i+j)
 | .leaf n,i,j,h=>by
  rw[Tr.flat,Tr.flat];show [zcH _ n]=_;rw[zlc h.1]
 | .un n a,i,j,h=>by
  rw[Tr.flat,Tr.flat];unfold zeh;rw[List.map_append];have:=zeJ a i j h.2.2;unfold zeh at this;rw[this];show _++ [zcH _ _]=_;rw[zoM h.1]
  congr 3
  have:=zd3 a;omega
 | .bin n a b,i,j,h=>by
  rw[Tr.flat,Tr.flat];unfold zeh;rw[List.map_append,List.map_append];have ha:=zeJ a i j h.2.1;have hb:=zeJ b (i+a.size) j h.2.2;unfold zeh at ha hb;rw[ha,hb,show i+a.size+j=i+j+a.size by omega];show _++ [zcH _ _]=_;rw[znm h.1];have:=zd3 a;have:=zd3 b;rw[show ((i+a.size:Nat):Int) - 1+(j:Int)=((i+j+a.size:Nat):Int) - 1 by omega,show ((i+a.size+b.size:Nat):Int) - 1+(j:Int)=((i+j+a.size+b.size:Nat):Int) - 1 by omega]
theorem zoD (a:Tr) (n:Nd):zqJ (a.flat 0) n=(Tr.un n a).flat 0:=by
 rw[Tr.flat];unfold zqJ;rw[Tr.len_flat,Nat.zero_add]
theorem zpV (a b:Tr) (n:Nd) (h:TrSh b):zrJ (a.flat 0) (b.flat 0) n=(Tr.bin n a b).flat 0:=by
 rw[Tr.flat];unfold zrJ;rw[Tr.len_flat,Tr.len_flat,zeJ b 0 a.size h,Nat.zero_add]
 congr 3
theorem zjj:∀ (t:Tr) (i:Nat),TrSh t->∀ n∈t.flat i,(0≤ndL n∧ndL n≤i+t.size)∧(0≤ndR n∧ndR n≤i+t.size)
 | .leaf n,i,h,x,hx=>by
  obtain rfl:=List.mem_singleton.1 hx;obtain⟨_,⟨h1,h2⟩,h3⟩:=h;rw[Tr.size];exact⟨⟨h1,by omega⟩,⟨by omega,by omega⟩⟩
 | .un n a,i,h,x,hx=>by
  rw[Tr.flat]at hx;rw[Tr.size];have hs:=zd3 a;rcases List.mem_append.1 hx with hx|hx
  ·have:=zjj a i h.2.2 x hx;omega
  ·obtain rfl:=List.mem_singleton.1 hx;have hr:ndR n=0:=h.2.1;show (0≤((i+a.size:Nat):Int) - 1∧((i+a.size:Nat):Int) - 1≤_)∧(0≤ndR n∧ndR n≤_);omega
 | .bin n a b,i,h,x,hx=>by
  rw[Tr.flat]at hx;rw[Tr.size];have hs:=zd3 a;have ht:=zd3 b;rcases List.mem_append.1 hx with hx|hx
  ·rcases List.mem_append.1 hx with hx|hx
   ·have:=zjj a i h.2.1 x hx;omega
   ·have:=zjj b (i+a.size) h.2.2 x hx;omega
  ·obtain rfl:=List.mem_singleton.1 hx;show (0≤((i+a.size:Nat):Int) - 1∧((i+a.size:Nat):Int) - 1≤_)∧(0≤((i+a.size+b.size:Nat):Int) - 1∧((i+a.size+b.size:Nat):Int) - 1≤_);omega
theorem zlM {r:List Nd} (h3:zb0 r r.length=true):∀ (k i:Nat),i < k->i < r.length->TrSh (trF k r i)
 |0,_,h,_=>absurd h (Nat.not_lt_zero _)
 |k+1,i,h,hr=>by
  obtain⟨hf,ho⟩:=zbA h3 hr;obtain⟨lo1,lo2⟩:=zeY h3 i hr;obtain⟨⟨k1,k2⟩,_⟩:=zaC hf;unfold trF;split
  ·rename_i hk;refine⟨hk,rfl,?_⟩;have hl:=lo1 (by omega) (by omega);obtain⟨m,hm⟩:∃ m:Nat,ndL (zam r i)=(m:Int):=⟨(ndL (zam r i)).toNat,by omega⟩;rw[hm]at hl ⊢;exact zlM h3 k m (by omega) (by omega)
  split
  ·rename_i hk0 hk;have hl:=lo1 (by omega) (by omega);have hr2:=lo2 (by omega) (by omega);obtain⟨m,hm⟩:∃ m:Nat,ndL (zam r i)=(m:Int):=⟨(ndL (zam r i)).toNat,by omega⟩;obtain⟨m2,hm2⟩:∃ m:Nat,ndR (zam r i)=(m:Int):=⟨(ndR (zam r i)).toNat,by omega⟩;refine⟨hk,?_,?_⟩
   ·rw[hm]at hl ⊢;exact zlM h3 k m (by omega) (by omega)
   ·rw[hm2]at hr2 ⊢;exact zlM h3 k m2 (by omega) (by omega)
  ·rename_i h1 h2;have hop:opsN (zam r i)=0:=by
    unfold opsN;rcases (show ndK (zam r i)=1∨ndK (zam r i)=2∨ndK (zam r i)=3∨ndK (zam r i)=4∨ndK (zam r i)=5∨ndK (zam r i)=6∨ndK (zam r i)=7∨ndK (zam r i)=18 by omega) with e|e|e|e|e|e|e|e<;>rw[e]<;>rfl
   unfold zdU at ho;rw[hop]at ho;have ho:(((ndL (zam r i)==0)||(ndK (zam r i)==7))&&(ndR (zam r i)==0))=true:=ho;obtain⟨oL,oR⟩:=(Bool.and_eq_true _ _).mp ho;refine⟨by omega,?_,eq_of_beq oR⟩;by_cases h7:ndK (zam r i)=7
   ·obtain⟨_,_,_,_,_,hL⟩:=fld7 hf h7;exact hL
   ·rw[beq_eq_false_iff_ne.2 h7,Bool.or_false]at oL;have:=eq_of_beq oL;omega
theorem op_R {r:List Nd} {i:Nat} (h3:zb0 r r.length=true) (hr:i < r.length) (hk:11≤ndK (zam r i)∧ndK (zam r i)≤16):ndR (zam r i)=0:=by
 obtain⟨_,ho⟩:=zbA h3 hr;have hop:opsN (zam r i)=1:=by
  unfold opsN;rcases (show ndK (zam r i)=11∨ndK (zam r i)=12∨ndK (zam r i)=13∨ndK (zam r i)=14∨ndK (zam r i)=15∨ndK (zam r i)=16 by omega) with e|e|e|e|e|e<;>rw[e]<;>rfl
 unfold zdU at ho;rw[hop]at ho;exact eq_of_beq ((Bool.and_eq_true _ _).mp ho).2
def zkI (k:Nat):Ctr:={ args:=[.slice nd,i64],pre:=fun x=>[wfS x.1=true,0≤x.2.1,x.2.1.toNat < k,x.2.1.toNat < List.length x.1,(trF k x.1 x.2.1).size≤64],res:=.slice nd,own:=none,out:=fun x=>(trF k x.1 x.2.1).flat 0 }
def kBe (k:Nat):Kn:={ gmK with C:=[(94,cTwo),(95,cBoth),(97,cOver),(68,zkI k)] }
theorem znB {k:Nat} (ih:CtrOk Tryz.prog gmH 68 (zkI k)):CtrOk Tryz.prog gmH 68 (zkI (k+1)):=by
 have hK:KnOk Tryz.prog gmH (kBe k):=zai.with (.cons zrP.lift <| .cons ztP.lift <| .cons zsK.lift <| .cons ih .nil);refine zan (K:=kBe k) hK Tryz.func68 rfl rfl Tryz.call68 rfl (Nat.le_of_ble_eq_true rfl) (by intro h;cases h) ?_;rintro w0 X hX ⟨(r:List Nd),(i:Int),_⟩ hp;obtain⟨hw,h0,hk,hr,hT⟩:wfS r=true∧0≤i∧i.toNat < k+1∧i.toNat < r.length∧(trF (k+1) r i).size≤64:=hp;change AWP _ _ _ _ _ ⟨[(0,⟨.slice nd,r⟩),(1,⟨i64,i⟩)],[],0⟩ _;have z1:i < ((r.length:Nat):Int):=by omega
 (repeat(first|apply zae|apply zac|apply zab|apply zad));refine zaa hX hK rfl ?_ ?_
 ·trivial
 (repeat(first|apply zae|apply zac|apply zab|apply zad));refine zaa hX hK rfl ?_ ?_
 ·repeat'(first|exact trivial|assumption|exact h0|exact z1|exact hr|(refine⟨?_,?_⟩)|(intro _)|exact Nat.le_of_ble_eq_true rfl|exact Int.natCast_nonneg _|(simp_all [allP];done))
 obtain⟨R,hR⟩:∃ R,R=trF (k+1) r i:=⟨_,rfl⟩;have hR2:=hR;unfold trF at hR2;rw[<-hR]at hT;refine zaq (σ':=⟨[(0,⟨.slice nd,r⟩),(5,⟨.optr nd,⟨0,nd,.here⟩⟩)],[(0,some (.box nd (zam r i)))],1⟩) ⟨⟨rfl,rfl,trivial⟩,⟨rfl,trivial⟩,rfl,rfl⟩ ?_;obtain⟨j,hj⟩:∃ j:Nat,i=(j:Int):=⟨i.toNat,by omega⟩;have hjr:j < r.length:=by omega
 have hjk:j < k+1:=by omega
 have h3:=(zb1 hw).2.1;obtain⟨lo1,lo2⟩:=zeY h3 j hjr;have hoR:=op_R h3 hjr;have hshp:=fun m (h1:m < k) (h2:m < r.length)=>zlM h3 k m h1 h2;rw[<-hj]at lo1 lo2 hoR;generalize zam r i=n at *;have hq:(bif decide (ndK n < 8) then true else decide (ndK n > 17))=decide (¬ (8≤ndK n∧ndK n≤17)):=by
  rw[b_or,Bool.eq_iff_iff,Bool.or_eq_true,decide_eq_true_iff,decide_eq_true_iff,decide_eq_true_iff];omega
 (repeat(first|apply zae|apply zac|apply zab|apply zad));refine zaa hX hK rfl ?_ ?_
 ·repeat'(first|exact trivial|assumption|(refine⟨?_,?_⟩)|(intro _)|exact Nat.le_of_ble_eq_true rfl|exact Int.natCast_nonneg _|(simp_all [allP];done))
 refine zaf rfl (fun hc=>?_) (fun hc=>?_)
 ·have hc:=of_decide_eq_true (hq.symm.trans hc);rw[if_neg (by omega),if_neg (by omega)]at hR2;(repeat(first|apply zae|apply zac|apply zab|apply zad));refine zaa hX hK rfl ?_ ?_
  ·trivial
  refine AWP.frz hX 4 ?_;refine AWP.ret ⟨.inr rfl,zat rfl trivial rfl rfl ?_⟩;show [n]=(trF (k+1) r i).flat 0;rw[<-hR,hR2];rfl
 have hc:=of_decide_eq_false (hq.symm.trans hc);have hc:8≤ndK n∧ndK n≤17:=Decidable.of_not_not hc;have hl:=lo1 hc.1 hc.2;obtain⟨m,hm⟩:∃ m:Nat,ndL n=(m:Int):=⟨(ndL n).toNat,by omega⟩;have sh1:=hshp m (by omega) (by omega);have y1:0≤ndL n:=hl.1;have y2:(ndL n).toNat < k:=by omega
 have y3:(ndL n).toNat < r.length:=by omega
 have la:=Tr.len_flat (trF k r (ndL n)) 0;have sa:=zd3 (trF k r (ndL n));apply zac;(repeat(first|apply zae|apply zac|apply zab|apply zad));refine zaa hX hK rfl ?_ ?_
 ·trivial
 refine zaf rfl (fun ht=>?_) (fun ht=>?_)
 ·have ht:two (ndK n)=true:=ht;have htt:=zjH.1 ht;rw[if_neg (by omega),if_pos htt]at hR2;have hr2:=lo2 hc.1 (by omega);obtain⟨m2,hm2⟩:∃ m:Nat,ndR n=(m:Int):=⟨(ndR n).toNat,by omega⟩;have sh2:=hshp m2 (by omega) (by omega);rw[<-hm2]at sh2;have hs:=congrArg Tr.size hR2;have hs:R.size=(trF k r (ndL n)).size+(trF k r (ndR n)).size+1:=hs;have y4:(trF k r (ndL n)).size≤64:=by omega
  have y5:0≤ndR n:=hr2.1;have y6:(ndR n).toNat < k:=by omega
  have y7:(ndR n).toNat < r.length:=by omega
  have y8:(trF k r (ndR n)).size≤64:=by omega
  have lb:=Tr.len_flat (trF k r (ndR n)) 0;have hb4:=zjj (trF k r (ndR n)) 0 sh2;have q1:1≤((trF k r (ndL n)).flat 0).length:=by omega
  have q2:((trF k r (ndL n)).flat 0).length≤100000:=by omega
  have q3:((trF k r (ndR n)).flat 0).length≤100000:=by omega
  have q4:∀ x∈(trF k r (ndR n)).flat 0,(-1000000≤ndL x∧ndL x≤1000000)∧(-1000000≤ndR x∧ndR x≤1000000):=by
   intro x hx;have:=hb4 x hx;omega
  (repeat(first|apply zae|apply zac|apply zab|apply zad));refine AWP.draw dM hX hK 9 (by kernel_rfl) rfl rfl ?_ ?_ ?_
  ·repeat'(first|exact trivial|assumption|exact hw|exact y1|exact y2|exact y3|exact y4|exact y5|exact y6|exact y7|exact y8|(refine⟨?_,?_⟩)|(intro _)|exact Nat.le_of_ble_eq_true rfl|exact Int.natCast_nonneg _|(simp_all [allP];done))
  ·exact⟨q1,q2,q3,q4⟩
  refine AWP.ret ⟨.inr rfl,zat rfl trivial rfl rfl ?_⟩;show zrJ ((trF k r (ndL n)).flat 0) ((trF k r (ndR n)).flat 0) n=(trF (k+1) r i).flat 0;rw[<-hR,hR2,zpV _ _ _ sh2];rfl
 ·have ht:two (ndK n)=false:=ht;have htt:¬ two (ndK n)=true:=by rw[ht];decide
  rw[zjH]at htt;have hk16:11≤ndK n∧ndK n≤16:=by omega
  rw[if_pos hk16]at hR2;have hs:=congrArg Tr.size hR2;have hs:R.size=(trF k r (ndL n)).size+1:=hs;have y4:(trF k r (ndL n)).size≤64:=by omega
  have q2:((trF k r (ndL n)).flat 0).length≤1000000:=by omega
  apply zac;(repeat(first|apply zae|apply zac|apply zab|apply zad));refine AWP.draw dM hX hK 5 (by kernel_rfl) rfl rfl ?_ ?_ ?_
  ·repeat'(first|exact trivial|assumption|exact hw|exact y1|exact y2|exact y3|exact y4|(refine⟨?_,?_⟩)|(intro _)|exact Nat.le_of_ble_eq_true rfl|exact Int.natCast_nonneg _|(simp_all [allP];done))
  ·exact q2
  refine AWP.ret ⟨.inr rfl,zat rfl trivial rfl rfl ?_⟩;show zqJ ((trF k r (ndL n)).flat 0) n=(trF (k+1) r i).flat 0;rw[<-hR,hR2,zoD,Tr.flat,Tr.flat];have:∀ x,setL n x=setL (zck n 0 0) x:=fun x=>by
   have h:=hoR hk16;obtain⟨kk,c,L,rr,rest⟩:=n;have h:rr=0:=h;rw[h];rfl
  rw[this]
theorem zmG:∀ k:Nat,CtrOk Tryz.prog gmH 68 (zkI k)
 |0=>by
  refine⟨Tryz.call68,fun w O xs vs _ _ hp=>?_⟩;obtain⟨(r:List Nd),(i:Int),_⟩:=xs;have h:i.toNat < 0:=hp.2.2.1;omega
 |k+1=>znB (zmG k)
def zoz (r:List Nd):List Nd:=(zbW r).flat 0
def cPost:Ctr:={ args:=[.slice nd],pre:=fun x=>[wfS x.1=true],res:=.slice nd,own:=none,out:=fun x=>zoz x.1 }
def kPo:Kn:={ gmK with C:=[(68,zkI 1000)] }
theorem zpe:KnOk Tryz.prog gmH kPo:=zai.with (.cons (zmG 1000) .nil)
theorem zsJ:CtrOk Tryz.prog gmH 28 cPost:=by
 refine zan (K:=kPo) zpe Tryz.func28 rfl rfl Tryz.call28 rfl (by decide) (by intro h;cases h) ?_;rintro w0 X hX ⟨(r:List Nd),_⟩ hp;have hw:wfS r=true:=hp;change AWP _ _ _ _ _ ⟨[(0,⟨.slice nd,r⟩)],[],0⟩ _;obtain⟨⟨h1,h2⟩,h3,_⟩:=zb1 hw;have e:((r.length:Int) - 1)=((r.length - 1:Nat):Int):=by omega
 have hT:trF 1000 r (((r.length:Nat):Int) - 1)=zbW r:=by
  unfold zbW;rw[e];exact zfo (zeY h3) _ _ _ (by omega) (by omega) (by omega)
 have i1:inR .i64 (((r.length:Nat):Int) - 1):=zar (by omega) (by omega);have i2:0≤((r.length:Nat):Int) - 1:=by omega
 have i3:(((r.length:Nat):Int) - 1).toNat < 1000:=by omega
 have i4:(((r.length:Nat):Int) - 1).toNat < r.length:=by omega
 have i5:(trF 1000 r (((r.length:Nat):Int) - 1)).size≤64:=by rw[hT,zha hw];exact h2
 (repeat(first|apply zae|apply zac|apply zab|apply zad));refine zaa hX zpe rfl ?_ ?_
 ·trivial
 (repeat(first|apply zae|apply zac|apply zab|apply zad));refine zaa hX zpe rfl ?_ ?_
 ·exact⟨i1,hw,i2,i3,i4,i5⟩
 refine AWP.ret ⟨.inr rfl,zat rfl trivial rfl rfl ?_⟩;show (trF 1000 r (((r.length:Nat):Int) - 1)).flat 0=zoz r;rw[hT];rfl
end Go.Proofs.YtpeaigpfddalcaaGreatDoor
namespace Go.Proofs.YtpeaigpfddalcaaGreatDoor
open Go Go.RowKit
set_option linter.unusedSimpArgs false
set_option linter.unusedVariables false
attribute [local go_sem] Oper.semAt_some
set_option maxRecDepth 100000
set_option maxHeartbeats 1000000 in
theorem zh6 (s:ByteArray) (c:Int) (w:World):
 Calls Tryz.prog 217 #[.string s,.int .u8 c] w fun e w'=>e= .returned (.int .i64 (Lib.indexByte s.data.toList c.toNat.toUInt8))∧w'=w:=by
 go_enter Tryz.func217,Tryz.ntmps217
 go_wp2
 rw[run_callFunc_extern Tryz.func244 (by kernel_rfl) (by kernel_rfl) (by kernel_rfl) (e:=Extern.BytealgIndexByte.indexByte) (by kernel_rfl),Lib.run_indexByteString];simp only[Result.andThen];rw[Oper.upon_value]
 go_wp2
 go_ret
 exact⟨rfl,rfl⟩
theorem zs5 (l:List UInt8) (c:UInt8):(Lib.indexByte l c= -1∧∀ x∈l,x≠c)∨∃ n:Nat,Lib.indexByte l c=(n:Int)∧n < l.length∧(∀ x∈l.take n,x≠c)∧l.drop n=c::l.drop (n+1):=by
 induction l with
 |nil=>exact .inl ⟨rfl,by simp⟩
 |cons b l ih=>
  unfold Lib.indexByte;by_cases h:b=c
  ·refine .inr ⟨0,by rw[if_pos (by simp[h])];rfl,by simp,by simp,by simp[h]⟩
  ·rw[if_neg (by simp[h])];rcases ih with ⟨h1,h2⟩|⟨n,h1,h2,h3,h4⟩
   ·refine .inl ⟨by rw[h1];rfl,fun x hx=>?_⟩;rcases List.mem_cons.1 hx with rfl|hx
    ·exact h
    ·exact h2 x hx
   ·refine .inr ⟨n+1,?_,by simp;omega,fun x hx=>?_,by simpa using h4⟩
    ·rw[h1,if_neg (by simp)];omega
    ·rw[List.take_succ_cons]at hx;rcases List.mem_cons.1 hx with rfl|hx
     ·exact h
     ·exact h3 x hx
def segF:List UInt8->List UInt8->List (List UInt8)
 |c,[]=>[c]
 |c,x::r=>if x=10 then c::segF [] r else segF (c++ [x]) r
def segs (s:List UInt8):List (List UInt8):=segF [] s
set_option maxHeartbeats 1000000 in
theorem zk3 (s:ByteArray) (c:UInt8) (w:World):
 Calls Tryz.prog 184 #[.string s,.string ⟨#[c]⟩] w fun e w'=>e= .returned (.int .i64 (Lib.indexByte s.data.toList c))∧w'=w:=by
 go_enter Tryz.func184,Tryz.ntmps184
 go_wp2_with (go_at_call 217;refine (zh6 s _ _).mono ?_;rintro e w' ⟨rfl,rfl⟩)
 ·rename_i hs
  go_ret
  rw[ByteArray.toList_eq]at hs;have hs:=eq_of_beq hs;refine⟨?_,rfl⟩;rw[<-hs];show Ending.returned (.int .i64 0)=Ending.returned (.int .i64 (Lib.indexByte [c] c));unfold Lib.indexByte;rw[if_pos (by simp)]
 ·go_ret
  exact⟨rfl,rfl⟩
set_option maxHeartbeats 1000000 in
theorem ziO (s:ByteArray) (c:UInt8) (w:World):
 Calls Tryz.prog 147 #[.string s,.string ⟨#[c]⟩] w fun e w'=>e= .returned (.int .i64 (Lib.indexByte s.data.toList c))∧w'=w:=by
 go_enter Tryz.func147,Tryz.ntmps147
 go_wp2_with (go_at_call 184;refine (zk3 s c _).mono ?_;rintro e w' ⟨rfl,rfl⟩)
 go_ret
 exact⟨rfl,rfl⟩
def itV (w:World):Value:=.func (.func 145) #[] #[.pointer (some ⟨w.heap.size+1,0,none⟩),.pointer (some ⟨w.heap.size,0,none⟩),.pointer (some ⟨w.heap.size+1+1,0,none⟩)]
def itW (w:World) (s p:ByteArray):World:=((w.alloc (.cells #[.string s] 9)).alloc (.cells #[.string p] 9)).alloc (.cells #[.int .i64 0] 3)
set_option maxHeartbeats 1000000 in
theorem zh3 (s p:ByteArray) (w:World):Calls Tryz.prog 85 #[.string s,.string p,.int .i64 0] w fun e w'=>e= .returned (itV w)∧w'=itW w s p:=by
 go_enter Tryz.func85,Tryz.ntmps85
 go_wp2
 go_ret
 refine⟨?_,rfl⟩;unfold itV;simp
set_option maxHeartbeats 1000000 in
theorem ziP (s p:ByteArray) (w:World):Calls Tryz.prog 50 #[.string s,.string p] w fun e w'=>e= .returned (itV w)∧w'=itW w s p:=by
 go_enter Tryz.func50,Tryz.ntmps50
 go_wp2_with (go_at_call 85;refine (zh3 s p _).mono ?_;rintro e w' ⟨rfl,rfl⟩)
 go_ret
 exact⟨rfl,rfl⟩
theorem zjP (p:List UInt8) (hp:∀ x∈p,x≠10) (r:List UInt8):∀ (c:List UInt8),segF c (p++r)=segF (c++p) r:=by
 induction p with
 |nil=>intro c;rw[List.append_nil];rfl
 |cons x p ih=>
  intro c;rw[List.cons_append];show (if x=10 then _ else _)=_;rw[if_neg (hp x (List.mem_cons_self ..)),ih (fun y hy=>hp y (List.mem_cons_of_mem _ hy)),List.append_assoc];rfl
theorem zn5 {l:List UInt8} (h:∀ x∈l,x≠10):segs l=[l]:=by
 have:=zjP l h [] [];rw[List.append_nil,List.nil_append]at this;exact this
theorem zn4 {l:List UInt8} {n:Nat} (h:∀ x∈l.take n,x≠10) (hd:l.drop n=10::l.drop (n+1)):segs l=l.take n::segs (l.drop (n+1)):=by
 have:=zjP (l.take n) h (l.drop n) [];rw[List.take_append_drop,List.nil_append,hd]at this;exact this.trans (if_pos rfl)
theorem ztS (l:List UInt8) (n:Nat):(ByteArray.mk l.toArray).extract 0 n=⟨(l.take n).toArray⟩:=by
 apply ByteArray.ext;rw[ByteArray.data_extract];simp
theorem ztT (l:List UInt8) (n:Nat):(ByteArray.mk l.toArray).extract n l.length=⟨(l.drop n).toArray⟩:=by
 apply ByteArray.ext;rw[ByteArray.data_extract];simp;exact List.take_of_length_le (by rw[List.length_drop];exact Nat.le_refl _)
def itI (gs gp gv:Nat) (g:Nat):Prop:=g=gs∨g=gp∨g=gv
noncomputable def zrW (gs:Nat) (W:World):Nat:=match W.cell? ⟨gs,0,none⟩ with |some (.string s)=>s.size|_=>0
set_option maxHeartbeats 2000000 in
theorem zmR (l gs gp gv:Nat) (s:List UInt8) (J:Nat->World->Prop) (Jr:World->Prop) (W:World) (hne:gs≠gp∧gs≠gv) (hlen:s.length≤2000000)
 (hs:W.heap[gs]? =some (.cells #[.string ⟨s.toArray⟩] 9 (0,0))) (hp:W.heap[gp]? =some (.cells #[.string ⟨#[10]⟩] 9 (0,0))) (hv:W.heap[gv]? =some (.cells #[.int .i64 0] 3 (0,0)))
 (hJ:∀ k A C,J k A->Kept (itI gs gp gv) A C->J k C)
 (hY:∀ k y W1,J k W1->(segs s)[k]? =some y->W.heap.size≤W1.heap.size->YieldAt Fence.wide 0 Tryz.prog l #[.string ⟨y.toArray⟩] W1 fun e W'=>(e= .returned (.bool true)∧J (k+1) W'∧SameOn (itI gs gp gv) W.heap.size W1 W')∨(e= .returned (.bool false)∧Jr W'))
 (h0:J 0 W):
 CallsIn Fence.wide 1 Tryz.prog 145 #[.func (.yield l) #[] #[],.pointer (some ⟨gp,0,none⟩),.pointer (some ⟨gs,0,none⟩),.pointer (some ⟨gv,0,none⟩)] W fun e W'=>(∃ v,e= .returned v)∧(J (segs s).length W'∨Jr W'):=by
 refine callsIn_of_wp Tryz.func145 rfl trivial ?_ rfl;have c1:=(zaV hp).1;have c2:=zaV hs;simp only[Tryz.ntmps145,List.size_toArray,List.length_cons,List.length_nil,Nat.reduceAdd,Nat.reduceSub,Array.replicate_succ,Array.replicate_zero,List.push_toArray,List.append_toArray,List.nil_append,List.cons_append]
 gi_wp2
 gi_loopw [7] (fun p wr=>∃ (pre:List (List UInt8)) (rest:List UInt8),segs s=pre++segs rest∧rest.length≤s.length∧wr.heap[gs]? =some (.cells #[.string ⟨rest.toArray⟩] 9 (0,0))∧wr.heap[gp]? =some (.cells #[.string ⟨#[10]⟩] 9 (0,0))∧wr.heap[gv]? =some (.cells #[.int .i64 0] 3 (0,0))∧J pre.length wr∧W.heap.size≤wr.heap.size)
  (fun p wr=>zrW gs wr)
 case atStart=>exact⟨[],s,rfl,Nat.le_refl _,hs,hp,hv,h0,Nat.le_refl _⟩
 case round=>
  obtain⟨pre,rest,hsg,hrl,hs',hp',hv',hj,hsz⟩:=hrel;have d1:=(zaV hp').1;have d2:=zaV hs';have d3:=(zaV hv').1
  gi_wp2
  refine⟨trivial,(callsIn_wide.2 (ziO _ _ _)).mono ?_⟩;rintro e w' ⟨rfl,rfl⟩;have hix:Lib.indexByte (ByteArray.mk rest.toArray).data.toList 10=Lib.indexByte rest 10:=rfl;rw[hix];rcases zs5 rest 10 with ⟨h1,h2⟩|⟨n,h1,h2,h3,h4⟩
  ·rw[h1];have hseg:=zn5 h2;rw[hseg]at hsg;obtain⟨fn,tmps,assign,body,hy,hR⟩:=hY pre.length rest _ hj (by rw[hsg];simp) hsz
   gi_wp2
   refine hR.mono ?_;rintro e W3 (⟨rfl,hJ3,hk3⟩|⟨rfl,hp3⟩)
   ·gi_wp2
    go_end0
    refine⟨⟨_,rfl⟩,.inl ?_⟩;rw[hsg,List.length_append];exact hJ3
   ·gi_wp2
    go_end0
    exact⟨⟨_,rfl⟩,.inr hp3⟩
  ·rw[h1];have hseg:=zn4 h3 h4;rw[hseg]at hsg;have hn0:¬ (n:Int) < 0:=by omega
   have hex:(ByteArray.mk rest.toArray).extract 0 n=⟨(rest.take n).toArray⟩:=ztS rest n;have hex2:(ByteArray.mk rest.toArray).extract (n+1) rest.length=⟨(rest.drop (n+1)).toArray⟩:=ztT rest (n+1);have hnl:n < rest.length:=h2;obtain⟨fn,tmps,assign,body,hy,hR⟩:=hY pre.length (rest.take n) _ hj (by rw[hsg];simp) hsz
   gi_wp2
   refine hR.mono ?_;rintro e W3 (⟨rfl,hJ3,hk3⟩|⟨rfl,hp3⟩)
   ·have e1:=(hk3.block gs (.inl rfl)).trans hs';have e2:=(hk3.block gp (.inr (.inl rfl))).trans hp';have e3:=(hk3.block gv (.inr (.inr rfl))).trans hv';have f1:=(zaV e2).1;have f2:=zaV e1
    gi_wp2
    have g1:=ze4 (.string ⟨(rest.drop (n+1)).toArray⟩) e1;refine⟨⟨pre++ [rest.take n],rest.drop (n+1),by rw[hsg,List.append_assoc];rfl,by rw[List.length_drop];omega,g1,(Below.heap_setCell W3 ⟨gs,0,none⟩ _ gp fun e=>hne.1 e.symm).trans e2,(Below.heap_setCell W3 ⟨gs,0,none⟩ _ gv fun e=>hne.2 e.symm).trans e3,?_,?_⟩,?_⟩
    ·rw[List.length_append,List.length_singleton];exact hJ _ _ _ hJ3 (zdJ W3 gs _ (.inl rfl))
    ·exact Nat.le_trans hk3.size (zdJ (R:=itI gs gp gv) W3 gs _ (.inl rfl)).size
    ·unfold zrW;rw[(zaV g1).1,d2.1];show (rest.drop (n+1)).toArray.size < rest.toArray.size;simp;omega
   ·gi_wp2
    exact⟨rfl,_,results_none rfl _ _ _,⟨_,rfl⟩,.inr hp3⟩
theorem zgI {P:Program} {f:FuncId} {Q:Exit->Act->World->Prop} {a:Act} {w:World} {g:Operand} {ps:Array Tmp} {assign body:Code} {m:Nat}
 (h:∃ (l:Nat) (mark:List Deferred) (w1:World) (d:Deferred) (w1':World) (gf:FuncId) (args:Array Value) (w2:World),
   (Instr.enterLoop f a.tmps ps assign body none).run P w= .ok (l,mark) w1∧(resolve a.eval (rangeCall g l) 0).run P w1= .ok d w1'∧(invoke d.target d.args).run P w1'= .ok (.enter gf args) w2∧
   CallsIn Fence.wide m P gf args w2 (fun e w3=>(∃ v,e= .returned v)∧∃ jump w4,(Instr.endLoop l).run P w3= .ok jump w4∧(match jump with
    |none=>Q .normal { a with defers:=mark++a.defers } w4
    |some c=>zfY P f c Q { a with defers:=mark++a.defers } w4))):
 zfY P f (.rangeFunc g ps assign body) Q a w:=by
 intro b k cs hb hro;obtain⟨l,mark,w1,d,w1',gf,args,w2,he,hres,hinv,_,hcall⟩:=h;rw[<-hro, <-hb]at he;have henter:=stepR_rangeFunc (P:=P) (b:=b) (a:=a) (k:=k) (cs:=cs) (w:=w) he hres hinv;obtain⟨e,w3,fr,⟨⟨v,rfl⟩,jump,w4,hend,hj⟩,hsteps,hfn,hleave⟩:=hcall (b.atR { a with defers:=mark++a.defers } (.inRangeFunc l::k)::cs) (room_wide _);have sback:StepsIn (Machine.fenced P Fence.wide) P (lone (b.atR a (.code (.rangeFunc g ps assign body)::k)) cs w) (lone (b.atR { a with defers:=mark++a.defers } ((jump.map Item.code).toList++k)) cs w4):=by
  refine .head (fenced_wide P _) henter (StepsIn.trans hsteps (.head (fenced_wide P _) ?_ (.one (fenced_wide P _) (stepR_endRangeFunc hend))));rw[<-finish_atR_inRangeFunc l v];exact step_leave_returned hleave
 cases jump with
 |none=>exact⟨.normal,_,w4,hj,sback⟩
 |some c=>
  obtain⟨e',a'',w5,hq,harr⟩:=hj b k cs hb hro;exact⟨e',a'',w5,hq,.of_steps sback harr⟩
def zsf (P:Program) (m:Nat) (gf:Nat) (lb:Array Value) (I:Nat->Prop) (ts:List (List UInt8)) (w:World):Prop:=
 ∀ (l:Nat) (J:Nat->World->Prop) (Jr:World->Prop) (W:World),Below w.heap.size w W->(∀ k A C,J k A->Kept I A C->J k C)->
  (∀ k y W1,J k W1->ts[k]? =some y->W.heap.size≤W1.heap.size->YieldAt Fence.wide (m - 1) P l #[.string ⟨List.toArray y⟩] W1 fun e W'=>(e= .returned (.bool true)∧J (k+1) W'∧SameOn I W.heap.size W1 W')∨(e= .returned (.bool false)∧Jr W'))->
  J 0 W->
  CallsIn Fence.wide m P gf (#[.func (.yield l) #[] #[]]++lb) W fun e W'=>(∃ v,e= .returned v)∧(J ts.length W'∨Jr W')
theorem zhX {P:Program} {f:FuncId} {m:Nat} {g:Operand} {p:Tmp} {assign body:Code} {Q:Exit->Act->World->Prop} {a:Act} {w:World} {gf:Nat} {lb:Array Value} (hg:a.eval g= .func (.func gf) #[] lb) (eg:∀ args w,(callFunc gf args).run P w= .ok (.enter gf args) w)
 {I:Nat->Prop} {ts:List (List UInt8)} {w0:World} (hseq:zsf P m gf lb I ts w0) (hb0:Below w0.heap.size w0 w) (hI:∀ k,I k->k < w.heap.size)
 (J:Nat->World->Prop) (Jr:World->Prop) (N:Nat->List UInt8->Act->World->Prop) (hJ:∀ k A C,J k A->Kept (fun g=>I g∨g=w.heap.size∨g=w.heap.size+1) A C->J k C) (hJr:∀ A C,Jr A->Kept (fun g=>I g∨g=w.heap.size∨g=w.heap.size+1) A C->Jr C)
 (hN:∀ k y a' A C,N k y a' A->Kept (fun g=>I g∨g=w.heap.size∨g=w.heap.size+1) A C->N k y a' C) (h0:∀ W1:World,Below w.heap.size w W1->W1.heap.size=w.heap.size+2->J 0 W1)
 (hassign:∀ (l k:Nat) (y:List UInt8) (W:World),J k W->ts[k]? =some y->w.heap.size+2≤W.heap.size->assign.wpIn (Fence.wide.inRound l) (m - 1) P (fun e a' W'=>e= .normal∧N k y a' W'∧SameOn (fun g=>I g∨g=w.heap.size∨g=w.heap.size+1) (w.heap.size+2) W W') { tmps:=((#[p]:Array Tmp).zip #[(.string ⟨y.toArray⟩:Value)]).foldl (fun t (p,v)=>t.setIfInBounds p v) a.tmps,defers:=[] } W)
 (hbody:∀ (l k:Nat) (y:List UInt8) (W:World) (a':Act),ts[k]? =some y->w.heap.size+2≤W.heap.size->N k y a' W->
   body.wpIn (Fence.wide.inRound l) (m - 1) P (fun e _ W3=>((e= .normal∧J (k+1) W3)∨(e= .ret∧Jr W3))∧SameOn (fun g=>I g∨g=w.heap.size∨g=w.heap.size+1) (w.heap.size+2) W W3) a' W)
 (hdone:∀ W:World,J ts.length W->W.heap[w.heap.size]? =some (.deferred (some []))->Q .normal { a with defers:={ target:=.collected w.heap.size,args:=#[] }::a.defers } W)
 (hret:∀ (W:World),Jr W->W.heap[w.heap.size]? =some (.deferred (some []))->Q .ret { a with defers:={ target:=.collected w.heap.size,args:=#[] }::a.defers } W):
 zfY P f (.rangeFunc g #[p] assign body) Q a w:=by
 obtain⟨rec,hrec⟩:∃ rec:LoopState->Option Code->Loop,rec=fun st pe=>{ state:=st,pending:=pe,fn:=f,tmps:=a.tmps,params:=#[p],assign,body,defers:=w.heap.size }:=⟨_,rfl⟩;obtain⟨W1,hW1⟩:∃ W1,(w.alloc (.deferred (some []))).alloc (.loop (rec .ready none))=W1:=⟨_,rfl⟩;have hs1:W1.heap.size=w.heap.size+2:=by rw[<-hW1];simp
 have hL1:W1.heap[w.heap.size+1]? =some (.loop (rec .ready none)):=by
  rw[<-hW1];have:=World.alloc_heap_new (w.alloc (.deferred (some []))) (.loop (rec .ready none));rwa[World.size_alloc]at this
 have hK1:W1.heap[w.heap.size]? =some (.deferred (some [])):=by
  rw[<-hW1];exact (Below.heap_alloc _ _ _ (by simp)).trans (World.alloc_heap_new w _)
 have hb1':Below w.heap.size w W1:=by rw[<-hW1];exact ((Below.refl _ w).alloc (Nat.le_refl _) _).alloc (by simp) _
 have hJ1:J 0 W1:=h0 _ hb1' hs1;have hb1:Below w0.heap.size w0 W1:=hb0.trans (hb1'.mono hb0.size);refine zgI (m:=m) ⟨w.heap.size+1,[{ target:=.collected w.heap.size,args:=#[] }],W1,{ target:=.fn (.func gf) lb,args:=#[.func (.yield (w.heap.size+1)) #[] #[]] },W1,gf,
  #[.func (.yield (w.heap.size+1)) #[] #[]]++lb,W1,?_,?_,?_,?_⟩
 ·rw[<-hW1,hrec];exact run_enterLoop_outer _ _ _ _ _
 ·simp only[resolve,hg];simp[go_sem]
 ·simp[invoke,go_sem,eg]
 refine (hseq (w.heap.size+1) (fun k W=>J k W∧W.heap[w.heap.size+1]? =some (.loop (rec .ready none))∧W.heap[w.heap.size]? =some (.deferred (some []))) (fun W=>Jr W∧W.heap[w.heap.size+1]? =some (.loop (rec .done (some .ret)))∧W.heap[w.heap.size]? =some (.deferred (some []))) W1 hb1 ?_ ?_ ⟨hJ1,hL1,hK1⟩).mono ?_
 ·intro k A C hs hb;have hl:=(Array.getElem?_eq_some_iff.1 hs.2.1).1;have hd:=(Array.getElem?_eq_some_iff.1 hs.2.2).1;exact⟨hJ k _ _ hs.1 (hb.mono fun g h=>.inl h),(hb.block _ hl fun h=>by have:=hI _ h;omega).trans hs.2.1,(hb.block _ hd fun h=>by have:=hI _ h;omega).trans hs.2.2⟩
 ·rintro k y W ⟨hj,hl,hk⟩ hy1 hsz;have hlt:w.heap.size+1 < W.heap.size:=(Array.getElem?_eq_some_iff.1 hl).1;have hy:=run_yield (P:=P) (args:=#[.string ⟨y.toArray⟩]) hl (by rw[hrec];rfl);rw[hrec]at hy;refine⟨f,_,assign,body,hy,roundIn_of_wpIn trivial ?_⟩;refine Go.wpIn_mono (hassign _ k y W hj hy1 (by omega)) ?_;rintro e a2 W2 ⟨rfl,hn2,hk2⟩;have hl2:W2.heap[w.heap.size+1]? =some (.loop (rec .ready none)):=(hk2.block _ (.inr (.inr rfl))).trans hl;have hd2:W2.heap[w.heap.size]? =some (.deferred (some [])):=(hk2.block _ (.inr (.inl rfl))).trans hk;have hlt2:w.heap.size+1 < W2.heap.size:=(Array.getElem?_eq_some_iff.1 hl2).1;refine⟨_,run_beginRound hl2 (by rw[hrec]),?_⟩;have hl3:(W2.putObj (w.heap.size+1) (.loop { rec .ready none with state:=.busy })).heap[w.heap.size+1]? =some (.loop { rec .ready none with state:=.busy }):=World.putObj_heap_same hlt2;have hd3:(W2.putObj (w.heap.size+1) (.loop { rec .ready none with state:=.busy })).heap[w.heap.size]? =some (.deferred (some [])):=(World.putObj_heap_other (by omega)).trans hd2;have hn3:N k y a2 (W2.putObj (w.heap.size+1) (.loop { rec .ready none with state:=.busy })):=hN k y a2 _ _ hn2 (zcW _ (.inr (.inr rfl)));have hp3:=grownBy_putObj' W2 (w.heap.size+1) (.loop { rec .ready none with state:=.busy });refine Go.wpIn_mono (hbody _ k y _ a2 hy1 (Nat.le_trans (by omega) hp3.size) hn3) ?_;rintro e a3 W3 ⟨he,hk3⟩;have hl4:W3.heap[w.heap.size+1]? =some (.loop { rec .ready none with state:=.busy }):=(hk3.block _ (.inr (.inr rfl))).trans hl3;have hd4:W3.heap[w.heap.size]? =some (.deferred (some [])):=(hk3.block _ (.inr (.inl rfl))).trans hd3;rcases he with ⟨rfl,hj3⟩|⟨rfl,hr3⟩
  ·have hr:=run_endRound (P:=P) none hl4;refine⟨_,_,hr,.inl ⟨rfl,⟨hJ _ _ _ hj3 (zcW _ (.inr (.inr rfl))),?_,(World.putObj_heap_other (by omega)).trans hd4⟩,?_⟩⟩
   ·rw[World.putObj_heap_same (Array.getElem?_eq_some_iff.1 hl4).1,hrec];rfl
   ·refine⟨?_,?_,?_,?_,fun j hj=>?_⟩
    ·exact (grownBy_putObj' W3 _ _).os.trans (hk3.os.trans (hp3.os.trans hk2.os))
    ·exact (grownBy_putObj' W3 _ _).tape.trans (hk3.tape.trans (hp3.tape.trans hk2.tape))
    ·exact (grownBy_putObj' W3 _ _).output.trans (hk3.output.trans (hp3.output.trans hk2.output))
    ·exact Nat.le_trans (by rw[hs1];exact hk3.size) (grownBy_putObj' W3 _ _).size
    ·have hjl:=hI j hj;exact (World.putObj_heap_other (by omega)).trans ((hk3.block j (.inl hj)).trans ((World.putObj_heap_other (by omega)).trans (hk2.block j (.inl hj))))
  ·have hr:=run_endRound (P:=P) (some .ret) hl4;refine⟨_,_,hr,.inr ⟨rfl,hJr _ _ hr3 (zcW _ (.inr (.inr rfl))),?_,(World.putObj_heap_other (by omega)).trans hd4⟩⟩;rw[World.putObj_heap_same (Array.getElem?_eq_some_iff.1 hl4).1,hrec];rfl
 ·rintro e W2 ⟨hv,⟨hj,hl,hk⟩|⟨hj,hl,hk⟩⟩
  ·refine⟨hv,none,_,by have:=run_endLoop (P:=P) hl (by rw[hrec];simp);rw[hrec]at this;exact this,hdone _ (hJ _ _ _ hj (zcW _ (.inr (.inr rfl)))) ((World.putObj_heap_other (by omega)).trans hk)⟩
  ·refine⟨hv,some .ret,_,by have:=run_endLoop (P:=P) hl (by rw[hrec];simp);rw[hrec]at this;exact this,?_⟩;exact zcv (m:=0) (wpIn_ret (hret _ (hJr _ _ hj (zcW _ (.inr (.inr rfl)))) ((World.putObj_heap_other (by omega)).trans hk)))
theorem zk0 (gs gp gv:Nat) (s:List UInt8) (w:World) (hne:gs≠gp∧gs≠gv) (hlen:s.length≤2000000)
 (hs:w.heap[gs]? =some (.cells #[.string ⟨s.toArray⟩] 9 (0,0))) (hp:w.heap[gp]? =some (.cells #[.string ⟨#[10]⟩] 9 (0,0))) (hv:w.heap[gv]? =some (.cells #[.int .i64 0] 3 (0,0))):
 zsf Tryz.prog 1 145 #[.pointer (some ⟨gp,0,none⟩),.pointer (some ⟨gs,0,none⟩),.pointer (some ⟨gv,0,none⟩)] (itI gs gp gv) (segs s) w:=fun l J Jr W hW hJ hY h0=>
 zmR l gs gp gv s J Jr W hne hlen ((hW.block _ (Array.getElem?_eq_some_iff.1 hs).1).trans hs) ((hW.block _ (Array.getElem?_eq_some_iff.1 hp).1).trans hp) ((hW.block _ (Array.getElem?_eq_some_iff.1 hv).1).trans hv) hJ hY h0
end Go.Proofs.YtpeaigpfddalcaaGreatDoor
namespace Go.Proofs.YtpeaigpfddalcaaGreatDoor
open Go Go.RowKit
set_option linter.unusedSimpArgs false
set_option linter.unusedVariables false
set_option maxRecDepth 100000
noncomputable def zkj (s p:List UInt8):Bool:=decide (p.length≤s.length)&&eqb .str (s.take p.length) p
noncomputable def cPre:Ctr:={ args:=[.str,.str],pre:=fun x=>[List.length x.1≤2000000,List.length x.2.1≤2000000],res:=.bool,own:=none,out:=fun x=>zkj x.1 x.2.1 }
theorem znp:CtrOk Tryz.prog gmH 86 cPre:=by
 refine zan (K:=gmK) zai Tryz.func86 rfl rfl Tryz.call86 rfl (by decide) (by intro h;cases h) ?_;rintro w0 X hX ⟨(s:List UInt8),(p:List UInt8),⟨⟩⟩ hp;obtain⟨hs,hpl⟩:s.length≤2000000∧p.length≤2000000:=hp;change AWP _ _ _ _ _ ⟨[(0,⟨.str,s⟩),(1,⟨.str,p⟩)],[],0⟩ _;(repeat(first|apply zae|apply zac|apply zab|apply zad));refine zaa hX zai rfl ?_ ?_
 ·trivial
 (repeat(first|apply zae|apply zac|apply zab|apply zad));refine zaa hX zai rfl ?_ ?_
 ·have hd:decide (((p.length:Nat):Int)≤((s.length:Nat):Int))=true->((p.length:Nat):Int)≤((s.length:Nat):Int):=of_decide_eq_true;exact⟨fun h=>h,fun h=>⟨h,h,Int.natCast_nonneg _,hd h⟩,fun h=>⟨h,h⟩,fun h=>h⟩
 refine AWP.ret ⟨.inr rfl,zat rfl trivial rfl rfl ?_⟩;show (bif decide (((p.length:Nat):Int)≤((s.length:Nat):Int)) then eqb .str (List.take (((p.length:Nat):Int)).toNat s) p else false)=(decide (p.length≤s.length)&&eqb .str (s.take p.length) p);rw[zcn,dNat,Int.toNat_natCast]
noncomputable def kPx:Kn:={ gmK with C:=[(86,cPre)] }
theorem zpd:KnOk Tryz.prog gmH kPx:=zai.with (.cons znp .nil)
theorem zpl:CtrOk Tryz.prog gmH 51 cPre:=by
 refine zan (K:=kPx) zpd Tryz.func51 rfl rfl Tryz.call51 rfl (by decide) (by intro h;cases h) ?_;rintro w0 X hX ⟨(s:List UInt8),(p:List UInt8),⟨⟩⟩ hp;obtain⟨hs,hpl⟩:s.length≤2000000∧p.length≤2000000:=hp;change AWP _ _ _ _ _ ⟨[(0,⟨.str,s⟩),(1,⟨.str,p⟩)],[],0⟩ _;(repeat(first|apply zae|apply zac|apply zab|apply zad));refine zaa hX zpd rfl ?_ ?_
 ·trivial
 (repeat(first|apply zae|apply zac|apply zab|apply zad));refine zaa hX zpd rfl ?_ ?_
 ·exact⟨hs,hpl⟩
 exact AWP.ret ⟨.inr rfl,zat rfl trivial rfl rfl rfl⟩
abbrev De:=List UInt8×List Nd×Unit
abbrev zoj (j:Nat):OObj:=.hbox 29 [⟨.obuf de,j⟩]
abbrev tD:TypeId:=29
def libE (l:List UInt8) (fr:Int) (acc:List De):Owns:=[(0,some (.hbox tD [⟨.lit,.slice none 0 0⟩])),(1,some (.box i64 (0:Int))),(2,some (.box i64 (0:Int))),(3,some (zoj 6)),(4,some (.box i64 fr)),(5,some (.box .str l)),(6,some (.buf 37 de acc))]
def kLb:Kn:={ gmK with H:=[tD] }
theorem zpf:KnOk Tryz.prog gmH kLb:=⟨zgE,zgD,CsOk.nil,zhD,RsOk.nil⟩
def zgK (l:List UInt8) (k:Int):Except (Int×Int) De:=(gDef l (zbd l,0) k).map fun r=>(r.1,r.2.flat 0,())
theorem znu (l:List UInt8) (k:Int):zlp l (zbd l,0) [] k=toX id (zgK l k):=by
 unfold zlp zgK;cases gDef l (zbd l,0) k<;>rfl
def NLib (l:List UInt8) (fr:Int) (acc:List De) (r:Except (Int×Int) Unit) (σ:AS):Prop:=(∃ d,zgK l ((acc.length:Nat):Int)= .ok d∧r= .ok ()∧Fit σ ⟨[],libE l fr (acc++ [d]),7⟩)∨∃ er,zgK l ((acc.length:Nat):Int)= .error er∧r= .error er∧Fit σ ⟨[],libE l fr acc,7⟩
set_option maxHeartbeats 4000000 in
theorem zqX {w1:World} {X:Ownr} {l:List UInt8} {fr:Int} {acc:List De} (hl:l.length≤4000) (ha:acc.length≤1000000) (hX:X.Ok w1) (hG:X.G=gmH) (hK:X.K=6) (hρ:X.ρ=none) (hD:X.D=[]) (hinv:∀ ty,ginv w1 X.R ty):
 AWP Tryz.prog w1 X Tryz.f54.ntmps (Tryz.f54.body.getD .skip) ⟨[(0,⟨.hptr,((3:Nat),(0:Nat))⟩),(1,⟨.optr .str,⟨5,.str,.here⟩⟩)],libE l fr acc,7⟩ (fun e σ=>((e= .normal∨e= .ret)∧NLib l fr acc (.ok ()) σ)∨∃ er,e= .panic [{ v:=pvS er,recovered:=false }]∧NLib l fr acc (.error er) σ):=by
 obtain⟨G,O,K,fix,D,ρ,B⟩:=X;obtain rfl:G=gmH:=hG;obtain rfl:K=6:=hK;obtain rfl:ρ=none:=hρ;obtain rfl:D=[]:=hD;have hI:=fun ty=>zaH (ty:=ty) hX rfl (hinv ty) (ty':=ty);have hl1:l.length≤100000:=by omega
 have hcap:acc.length+1≤1000000000:=by omega
 have hg0:GOk l (zbd l,0):=by
  have:=zec (s:=l);unfold zgN at this;rwa[zlS]at this
 have hok:pOk (l,zbd l,[],0,()):=⟨hg0,hl1⟩;have hfew:few (l,zbd l,[],0,()):=Int.le_refl 0;have hx:=znu l ((acc.length:Nat):Int);unfold libE;refine AWP.ordersA dM 9 rfl (by kernel_rfl) ?_;cases hr:zgK l ((acc.length:Nat):Int) with
 |ok d=>
  rw[hr]at hx;have hx:zlp l (zbd l,0) [] ((acc.length:Nat):Int)= .ok d:=hx
  repeat'(first
   |exact AllN.nil
   |refine AllN.cons ⟨_,rfl,?_⟩ ?_
   |refine StepA.eval hX zpf rfl trivial ?_
   |refine StepA.fresh hX zet rfl rfl rfl rfl rfl rfl (by exact trivial) (by exact hl1) (by exact⟨rfl,rfl⟩) rfl rfl ?_
   |refine StepA.eval hX zpf rfl hcap ?_
   |refine StepA.conv (Sim.nilLeaf 7 6 73 nd rfl rfl rfl) (StepA.giveO hX zfP rfl rfl rfl rfl rfl rfl rfl rfl rfl rfl rfl rfl (by exact trivial) (by exact⟨hok,hfew⟩) (by exact hI 139) rfl rfl (by exact hx) ?_)
   |(refine OrdA.last ?_;exact .inl ⟨.inl rfl,.inl ⟨d,hr,rfl,trivial,⟨rfl,rfl,rfl,rfl,rfl,rfl,rfl,trivial⟩,rfl,rfl⟩⟩))
 |error er=>
  rw[hr]at hx;have hx:zlp l (zbd l,0) [] ((acc.length:Nat):Int)= .error (pvS er):=hx
  repeat'(first
   |exact AllN.nil
   |refine AllN.cons ⟨_,rfl,?_⟩ ?_
   |refine StepA.eval hX zpf rfl trivial ?_
   |refine StepA.fresh hX zet rfl rfl rfl rfl rfl rfl (by exact trivial) (by exact hl1) (by exact⟨rfl,rfl⟩) rfl rfl ?_
   |refine StepA.conv (Sim.nilLeaf 7 6 73 nd rfl rfl rfl) (StepA.giveE hX zfP rfl rfl rfl rfl rfl rfl rfl rfl rfl rfl rfl rfl (by exact trivial) (by exact⟨hok,hfew⟩) (by exact hI 139) rfl rfl (by exact hx) ?_)
   |exact .inr ⟨er,rfl,.inr ⟨er,hr,rfl,trivial,⟨rfl,rfl,rfl,rfl,rfl,rfl,rfl,trivial⟩,rfl,rfl⟩⟩)
def zkt:List De->List UInt8->List UInt8×Int
 | [],acc=>if 1048576 < acc.length then ([],2) else (acc,0)
 |d::r,acc=>
  if 32 < d.1.length then ([],2)
  else if zax d.1=0∨zax d.1 < d.1.length then ([],1)
  else if (fmtS d.2.1).2≠0 then ([],(fmtS d.2.1).2)
  else if 4000 < (d.1++ [32,61,32]++(fmtS d.2.1).1).length then ([],2)
  else zkt r (acc++(d.1++ [32,61,32]++(fmtS d.2.1).1++ [10]))
def zbp (l:List De):List UInt8×Int:=if 4096 < l.length then ([],2) else zkt l []
theorem zrj (r:List Nd):(fmtS r).1.length≤4000:=by
 unfold fmtS;split
 ·split
  ·exact Nat.zero_le _
  ·show (zbW r).text.length≤4000;omega
 ·exact Nat.zero_le _
section
variable {w0:World} {X:Ownr} {n:Nat} {Q:Exit->AS->Prop} {ops:Array Oper} {F:Frame} {E:Owns} {nx:Nat}
theorem AL.newBd (hX:X.Ok w0) {o:Oper} {rest:List Oper} (ho:o.op= .alloc 105) (hgd:o.guard=none) {d:Nat} (hd:o.dst=some d) (hdn:Nat.blt d n=true)
 (h:AL Tryz.prog w0 X n ops rest ⟨(d,⟨.hptr,(nx,(0:Nat))⟩)::F,(nx,some (.hbox 105 [⟨.lit,.pointer none⟩,⟨.lit,.slice none 0 0⟩]))::E,nx+1⟩ Q):AL Tryz.prog w0 X n ops (o::rest) ⟨F,E,nx⟩ Q:=by
 refine AL.hand hgd (fun c e=>by rw[ho]at e;cases e) fun β a w hs=>?_;have hlt:d < n:=by simpa using hdn
 refine zbE (u:=.pointer (some ⟨w.heap.size,0,none⟩)) (w':=w.alloc (.cells #[.pointer none,.slice none 0 0] 105 (0,0))) ?_ ?_
 ·unfold execOp;simp[ho,Instr.alloc,Tryz.zeroValue105,newVar,newRow,Value.cells,go_sem]
 ·rw[hd];obtain⟨β',h1⟩:=hs.make hX ((Below.refl _ w).alloc (Nat.le_refl _) (.cells #[.pointer none,.slice none 0 0] 105 (0,0))) (bv:=.pointer (some ⟨w.heap.size,0,none⟩)) (o:=.hbox 105 [⟨.lit,.pointer none⟩,⟨.lit,.slice none 0 0⟩])
   (fun O β' _=>⟨w.heap.size,[.pointer none,.slice none 0 0],rfl,Nat.zero_le _,World.alloc_heap_new w _,⟨.pointer none,[.slice none 0 0],rfl,rfl,rfl,⟨.slice none 0 0,[],rfl,rfl,rfl,rfl⟩⟩⟩) (fun g hg=>by cases hg;exact Nat.le_refl _) (v:=⟨.hptr,(nx,(0:Nat))⟩) (u:=.pointer (some ⟨w.heap.size,0,none⟩))
   (fun O β' hb=>⟨w.heap.size,by show zah (β' nx)=_;rw[show β' nx=_ from hb];rfl,rfl⟩) (Nat.le_refl _) hlt (fun vs e v hv=>by
     cases e;rcases List.mem_cons.1 hv with rfl|hv
     ·exact Nat.zero_le _
     ·rw[List.mem_singleton.1 hv];exact Nat.zero_le _)
  exact⟨_,β',h1,h⟩
end
@[reducible] def cStr0:HCtr:=hBl .unit [105] [] .str (fun _ _=>[]) fun x _=>.ok (x.2.1,x)
theorem znq {R:Nat->Prop} {w w':World} (h:Below w.heap.size w w'):Kept R w w':=⟨h.os,h.tape,h.output,h.size,fun k hk _=>h.block k hk⟩
theorem zmQ:zfX Tryz.prog gmH 62 cStr0 (fun x _=>.ok x.2.1):=by
 refine⟨Tryz.call62,zcD rfl,fun w O g cs ty x xs vs b hO hgb hg hx hbuf hrep hpre hinv hG=>?_⟩;by_cases h0:x.2.1=[]
 ·obtain⟨xb,(xl:List UInt8),⟨⟩⟩:=x;obtain rfl:xl=[]:=h0;have hvs:vs=[]:=hrep;subst hvs;obtain rfl:ty=105:=List.mem_singleton.1 hinv.2;rw[zoO]at hx;obtain⟨u,r,rfl,hu1,hu,hr⟩:=hx;obtain⟨v,r,rfl,hv1,hv,hr⟩:=hr;have hv:v=b:=hv;subst hv;have hr:r=[]:=hr;subst hr;obtain⟨cells,k1,k2,k3⟩:=hbuf;have k1:=zf6 k1;subst k1;have fin:∀ {e:Ending} {w':World},(e= .returned (.string ⟨#[]⟩)∧Below w.heap.size w w')->Kept (fun h=>h=g∨zah v=some h) w w'∧LEnd cStr0 w w' O e (.ok ([]:List UInt8)):=fun {e w'} h=>⟨znq h.2,_,h.1,.inr fun β=>⟨rfl,Nat.zero_le _⟩⟩;rcases k2.2 with ⟨rfl,_⟩|⟨g',cap,cur,rfl,_,hg',hnc,hcm,hcs,htake⟩
  ·refine (Any.Builder_String_nil Tryz.lays169 Tryz.Builder_Extra_169 w.heap.size g u w hg).mono ?_;exact fun e w' h=>fin h
  ·by_cases hc0:cap=0
   ·subst hc0;refine (Any.Builder_String_noroom Tryz.lays169 Tryz.Builder_Extra_169 w.heap.size g g' u cur w (Nat.le_refl _) hg hg').mono ?_;exact fun e w' h=>fin h
   ·refine (Any.Builder_String_room Tryz.lays169 Tryz.Builder_Extra_169 w.heap.size g g' cap u w hc0 hg).mono ?_;exact fun e w' h=>fin h
 ·exact (zjK .unit rfl [105]).2.2 w O g cs ty x xs vs b hO hgb hg hx hbuf hrep h0 hinv hG
def zDe:De:=([],[],())
def cFmtL:Ctr:={ args:=[.slice de],pre:=fun _=>[],res:=.tup .str (.tup i64 .unit),own:=none,out:=fun x=>((zbp x.1).1,(zbp x.1).2,()) }
def kFb:Kn:={ gmK with C:=[(65,zjq),(24,cFmt)] }
theorem za5:KnOk Tryz.prog gmH kFb:=zai.with (.cons zie.lift <| .cons zhH .nil)
def hFb:List (FuncId×HCtr):=[(66,cWSB),(61,znA .unit [105])]
theorem zr0:HsOk Tryz.prog gmH hFb:=.cons zmJ <| .cons zs2 .nil
def bdE (b:Bool) (acc:List UInt8):Owns:=[(0,some (.hbox 105 [adV 0 b,⟨.obuf u8,(1:Nat)⟩])),(1,some (.buf 5 u8 acc))]
set_option maxHeartbeats 1000000 in
theorem zpq:CtrOk Tryz.prog gmH 26 cFmtL:=by
 refine zan (K:=kFb) za5 Tryz.func26 rfl rfl Tryz.call26 rfl (by decide) (by intro h;cases h) ?_;rintro w0 X hX ⟨(l:List De),_⟩ hp;change AWP _ _ _ _ _ ⟨[(0,⟨.slice de,l⟩)],[],0⟩ _;refine AWP.len 0 rfl fun hl=>?_;unfold maxLen at hl;have hI:∀ w R,(∀ g,R g->w0.heap.size≤g∨(Ownr.plain gmH X).R g)->(Ownr.plain gmH X).G w->bInv .unit [105] w R 105:=fun w R hR hw=>⟨zaH (ty:=105) hX rfl (ziB hX) (ty':=105) w R hR hw,List.mem_singleton.2 rfl⟩;(repeat(first|apply zae|apply zac|apply zab|apply zad));refine zaa hX za5 rfl ?_ ?_
 ·trivial
 (repeat(first|apply zae|apply zac|apply zab|apply zad));refine zaa hX za5 rfl ?_ ?_
 ·trivial
 refine zaf rfl (fun hb=>?_) (fun hb=>?_)
 ·have hb:decide (((l.length:Nat):Int) > 4096)=true:=hb;have hb:=of_decide_eq_true hb;(repeat(first|apply zae|apply zac|apply zak|apply zad|apply zab|refine zaa hX za5 rfl trivial ?_|refine zaa hX za5 rfl id ?_|refine zaa hX za5 rfl ⟨id,id⟩ ?_));refine AWP.ret ⟨.inr rfl,za7 (by decide) rfl rfl trivial ?_⟩;show (([]:List UInt8),(2:Int),())=((zbp l).1,(zbp l).2,());unfold zbp;rw[if_pos (by omega)]
 have hb:decide (((l.length:Nat):Int) > 4096)=false:=hb;have hb:=of_decide_eq_false hb;have hS:zbp l=zkt l []:=by unfold zbp;rw[if_neg (by omega)]
 apply zac;apply zae;refine zaj ?_;refine AL.newBd hX rfl rfl rfl rfl ?_;refine AL.nilLeaf 0 1 5 u8 rfl rfl rfl ?_;refine AL.nil ?_;(repeat(first|apply zae|apply zac|apply zab|apply zad));refine zaa hX za5 rfl ?_ ?_
 ·trivial
 (repeat(first|apply zae|apply zac|apply zab|apply zad));refine AWP.loop (ι:=Nat×List UInt8) (fun p=>⟨[(0,⟨.slice de,l⟩),(4,⟨.hptr,((0:Nat),(0:Nat))⟩),(14,⟨.slice de,l⟩),(15,⟨i64,((l.length:Nat):Int)⟩),(16,⟨i64,(p.1:Int)⟩)],bdE (decide (0 < p.1)) p.2,2⟩) (fun p=>p.1≤l.length∧zbp l=zkt (l.drop p.1) p.2∧p.2.length≤4001 * p.1) (fun p=>l.length - p.1) (0,[]) ⟨Nat.zero_le _,hS,Nat.zero_le _⟩ ⟨⟨rfl,rfl,rfl,rfl,rfl,trivial⟩,⟨rfl,rfl,trivial⟩,rfl,rfl⟩ ?_;rintro ⟨i,acc⟩ ⟨hi,hR,hal⟩;have hi:i≤l.length:=hi;have hR:zbp l=zkt (l.drop i) acc:=hR;have hal:acc.length≤4001 * i:=hal;unfold bdE;(repeat(first|apply zae|apply zac|apply zab|apply zad));refine zaa hX za5 rfl ?_ ?_
 ·trivial
 apply zae;refine zaf rfl (fun hb=>?_) (fun hb=>?_)
 ·have hb2:decide ((i:Int) < (l.length:Nat))=true:=hb;have hb2:=of_decide_eq_true hb2;have hlt:i < l.length:=by omega
  have z0:(0:Int)≤(i:Int):=by omega
  have hgd:l.getD (i:Int).toNat zDe=l[i]:=za0 hlt;rw[List.drop_eq_getElem_cons hlt,zkt, <-hgd]at hR;generalize hbq:decide (0 < i)=b;(repeat(first|apply zae|apply zac|apply zab|apply zad));refine zaa hX za5 rfl ?_ ?_
  ·exact⟨z0,hb2⟩
  generalize hD:l.getD (i:Int).toNat zDe=D at *;obtain⟨(nm:List UInt8),(rl:List Nd),⟨⟩⟩:=D;refine zaq (σ':=⟨[(0,⟨.slice de,l⟩),(4,⟨.hptr,((0:Nat),(0:Nat))⟩),(14,⟨.slice de,l⟩),(15,⟨i64,((l.length:Nat):Int)⟩),(16,⟨i64,(i:Int)⟩),(6,⟨.optr de,⟨2,de,.here⟩⟩)],(2,some (.box de (nm,rl,())))::bdE b acc,3⟩) ⟨⟨rfl,rfl,rfl,rfl,rfl,rfl,trivial⟩,⟨zfT hD,rfl,rfl,trivial⟩,rfl,by cases b<;>rfl⟩ ?_;have hR:zbp l=if 32 < nm.length then ([],2) else if zax nm=0∨zax nm < nm.length then ([],1) else if (fmtS rl).2≠0 then ([],(fmtS rl).2) else if 4000 < (nm++ [32,61,32]++(fmtS rl).1).length then ([],2) else zkt (l.drop (i+1)) (acc++(nm++ [32,61,32]++(fmtS rl).1++ [10])):=hR
  unfold bdE;(repeat(first|apply zae|apply zac|apply zab|apply zad));refine zaa hX za5 rfl ?_ ?_
  ·trivial
  (repeat(first|apply zae|apply zac|apply zab|apply zad));refine zaa hX za5 rfl ?_ ?_
  ·trivial
  refine zaf rfl (fun hc=>?_) (fun hc=>?_)
  ·have hc:decide (((nm.length:Nat):Int) > 32)=true:=hc;have hc:=of_decide_eq_true hc;(repeat(first|apply zae|apply zac|apply zak|apply zad|apply zab|refine zaa hX za5 rfl trivial ?_|refine zaa hX za5 rfl id ?_|refine zaa hX za5 rfl ⟨id,id⟩ ?_));refine AWP.ret ⟨.inr rfl,za7 (by decide) rfl rfl trivial ?_⟩;show (([]:List UInt8),(2:Int),())=((zbp l).1,(zbp l).2,());rw[hR,if_pos (by omega)]
  have hc:decide (((nm.length:Nat):Int) > 32)=false:=hc;have hc:=of_decide_eq_false hc;(repeat(first|apply zae|apply zac|apply zab|apply zad));refine zaa hX za5 rfl ?_ ?_
  ·repeat'(first|exact trivial|assumption|(refine⟨?_,?_⟩)|(intro _)|exact Nat.le_of_ble_eq_true rfl|exact Int.natCast_nonneg _|(simp_all [allP];done))
  have hq:(bif ((zax nm:Nat):Int)==0 then true else decide (((zax nm:Nat):Int) < ((nm.length:Nat):Int)))=decide (zax nm=0∨zax nm < nm.length):=by
   rw[b_or,Bool.eq_iff_iff,Bool.or_eq_true,decide_eq_true_iff,decide_eq_true_iff,beq_iff_eq];omega
  refine zaf rfl (fun hd=>?_) (fun hd=>?_)
  ·have hd:=hq.symm.trans hd;have hd:=of_decide_eq_true hd;(repeat(first|apply zae|apply zac|apply zak|apply zad|apply zab|refine zaa hX za5 rfl trivial ?_|refine zaa hX za5 rfl id ?_|refine zaa hX za5 rfl ⟨id,id⟩ ?_));refine AWP.ret ⟨.inr rfl,za7 (by decide) rfl rfl trivial ?_⟩;show (([]:List UInt8),(1:Int),())=((zbp l).1,(zbp l).2,());rw[hR,if_neg (by omega),if_pos hd]
  have hd:=hq.symm.trans hd;have hd:=of_decide_eq_false hd;apply zac;(repeat(first|apply zae|apply zac|apply zab|apply zad));refine zaa hX za5 rfl ?_ ?_
  ·trivial
  refine zaq (σ':=⟨[(0,⟨.slice de,l⟩),(4,⟨.hptr,((0:Nat),(0:Nat))⟩),(14,⟨.slice de,l⟩),(15,⟨i64,((l.length:Nat):Int)⟩),(16,⟨i64,(i:Int)⟩),(6,⟨.optr de,⟨2,de,.here⟩⟩),(8,⟨.str,(fmtS rl).1⟩),(9,⟨i64,(fmtS rl).2⟩)],(2,some (.box de (nm,rl,())))::bdE b acc,3⟩) ⟨⟨rfl,rfl,rfl,rfl,rfl,rfl,rfl,rfl,trivial⟩,⟨rfl,rfl,rfl,trivial⟩,rfl,by cases b<;>rfl⟩ ?_;have hfl:=zrj rl;generalize (fmtS rl).1=T at *;generalize (fmtS rl).2=ec at *;unfold bdE;(repeat(first|apply zae|apply zac|apply zab|apply zad));refine zaa hX za5 rfl ?_ ?_
  ·trivial
  refine zaf rfl (fun he=>?_) (fun he=>?_)
  ·have he:(ec != 0)=true:=he;have he:=bne_iff_ne.1 he;(repeat(first|apply zae|apply zac|apply zak|apply zad|apply zab|refine zaa hX za5 rfl trivial ?_|refine zaa hX za5 rfl id ?_|refine zaa hX za5 rfl ⟨id,id⟩ ?_));refine AWP.ret ⟨.inr rfl,za7 (by decide) rfl rfl trivial ?_⟩;show (([]:List UInt8),ec,())=((zbp l).1,(zbp l).2,());rw[hR,if_neg (by omega),if_neg hd,if_pos he]
  have he:(ec != 0)=false:=he;have he:¬ ec≠0:=fun h=>by rw[bne_iff_ne.2 h]at he;cases he
  apply zac;have t1:nm.length+3≤maxLen:=by unfold maxLen;omega
  have t2:List.length (nm++ [32,61,32]:List UInt8)+T.length≤maxLen:=by rw[List.length_append];show nm.length+3+_≤_;unfold maxLen;omega
  have t3:(nm++ [32,61,32]++T:List UInt8).length=nm.length+3+T.length:=by rw[List.length_append,List.length_append];rfl
  (repeat(first|apply zae|apply zac|apply zab|apply zad));refine zaa hX za5 rfl ?_ ?_
  ·exact⟨t1,t2⟩
  refine zaq (σ':=⟨[(0,⟨.slice de,l⟩),(4,⟨.hptr,((0:Nat),(0:Nat))⟩),(14,⟨.slice de,l⟩),(15,⟨i64,((l.length:Nat):Int)⟩),(16,⟨i64,(i:Int)⟩),(10,⟨.str,nm++ [32,61,32]++T⟩)],bdE b acc,3⟩) ⟨⟨rfl,rfl,rfl,rfl,rfl,rfl,trivial⟩,⟨rfl,rfl,trivial⟩,rfl,by cases b<;>rfl⟩ ?_;generalize (nm++ [32,61,32]++T:List UInt8)=L at hR t3;unfold bdE;(repeat(first|apply zae|apply zac|apply zab|apply zad));refine zaa hX za5 rfl ?_ ?_
  ·trivial
  refine zaf rfl (fun hf=>?_) (fun hf=>?_)
  ·have hf:decide (((L.length:Nat):Int) > 4000)=true:=hf;have hf:=of_decide_eq_true hf;(repeat(first|apply zae|apply zac|apply zak|apply zad|apply zab|refine zaa hX za5 rfl trivial ?_|refine zaa hX za5 rfl id ?_|refine zaa hX za5 rfl ⟨id,id⟩ ?_));refine AWP.ret ⟨.inr rfl,za7 (by decide) rfl rfl trivial ?_⟩;show (([]:List UInt8),(2:Int),())=((zbp l).1,(zbp l).2,());rw[hR,if_neg (by omega),if_neg hd,if_neg he,if_pos (by omega)]
  have hf:decide (((L.length:Nat):Int) > 4000)=false:=hf;have hf:=of_decide_eq_false hf;rw[if_neg (by omega),if_neg hd,if_neg he,if_neg (by omega)]at hR;apply zac;have hl1:(L++ [10]:List UInt8).length=L.length+1:=by rw[List.length_append];rfl
  have t4:L.length+1≤maxLen:=by unfold maxLen;omega
  have t5:acc.length+List.length (L++ [10]:List UInt8)≤1000000000:=by omega
  cases b
  all_goals
   (repeat(first|apply zae|apply zac|apply zab|apply zad));refine zaj ?_;refine AL.own 2 hX za5 zr0 rfl t4 rfl rfl t5 hI ?_;refine AL.nil ?_;refine zaq (σ':=⟨[(0,⟨.slice de,l⟩),(4,⟨.hptr,((0:Nat),(0:Nat))⟩),(14,⟨.slice de,l⟩),(15,⟨i64,((l.length:Nat):Int)⟩),(16,⟨i64,(i:Int)⟩)],[(0,some (.hbox 105 [adV 0 true,⟨.obuf u8,(1:Nat)⟩])),(1,some (.buf 5 u8 (acc++(L++ [10]))))],3⟩) ⟨⟨rfl,rfl,rfl,rfl,rfl,trivial⟩,⟨rfl,rfl,trivial⟩,rfl,rfl⟩ ?_;(repeat(first|apply zae|apply zac|apply zab|apply zad));refine zaa hX za5 rfl ?_ ?_
   ·exact zaF (by omega)
   refine⟨(i+1,acc++(L++ [10])),⟨hlt,hR,?_⟩,by show l.length - (i+1) < l.length - i;omega,⟨rfl,rfl,rfl,rfl,zcg _,trivial⟩,⟨?_,rfl,trivial⟩,rfl,?_⟩
   ·show List.length (acc++(L++ [10]):List UInt8)≤4001 * (i+1);rw[List.length_append];omega
   ·rw[show decide (0 < (i+1,acc++(L++ [10])).1)=true from decide_eq_true (Nat.succ_pos _)];rfl
   ·rw[show decide (0 < (i+1,acc++(L++ [10])).1)=true from decide_eq_true (Nat.succ_pos _)];rfl
 ·have hb2:decide ((i:Int) < (l.length:Nat))=false:=hb;have hb2:=of_decide_eq_false hb2;obtain rfl:i=l.length:=by omega
  rw[List.drop_length,zkt]at hR;generalize decide (0 < l.length)=b;apply zad;refine zaq (σ':=⟨[(4,⟨.hptr,((0:Nat),(0:Nat))⟩)],bdE b acc,2⟩) ⟨⟨rfl,trivial⟩,⟨rfl,rfl,trivial⟩,rfl,by cases b<;>rfl⟩ ?_;unfold bdE;cases b
  all_goals
   (repeat(first|apply zae|apply zac|apply zab|apply zad));refine zaj ?_;refine AL.own 0 hX za5 zr0 rfl trivial rfl rfl trivial hI ?_;refine AL.all hX za5 rfl trivial ?_;refine zaf rfl (fun hc=>?_) (fun hc=>?_)
   ·have hc:decide (((acc.length:Nat):Int) > 1048576)=true:=hc;have hc:=of_decide_eq_true hc;(repeat(first|apply zae|apply zac|apply zak|apply zad|apply zab|refine zaa hX za5 rfl trivial ?_|refine zaa hX za5 rfl id ?_|refine zaa hX za5 rfl ⟨id,id⟩ ?_));refine AWP.ret ⟨.inr rfl,za7 (by decide) rfl rfl trivial ?_⟩;show (([]:List UInt8),(2:Int),())=((zbp l).1,(zbp l).2,());rw[hR,if_pos (by omega)]
   ·have hc:decide (((acc.length:Nat):Int) > 1048576)=false:=hc;have hc:=of_decide_eq_false hc;apply zac;(repeat(first|apply zae|apply zac|apply zab|apply zad));refine zaj ?_;refine AL.give hX zmQ rfl rfl rfl rfl rfl rfl rfl rfl rfl rfl rfl rfl trivial trivial hI rfl rfl ?_;show AL _ _ _ _ _ _ _ _;refine AL.all hX za5 rfl trivial ?_;refine AWP.ret ⟨.inr rfl,za7 (by decide) rfl rfl trivial ?_⟩;show (acc,(0:Int),())=((zbp l).1,(zbp l).2,());rw[hR,if_neg (by omega)]
noncomputable def eqN (a b:Nd):Bool:=eqb nd a b
theorem zlw {a b:Nd}:eqN a b=true↔a=b:=zbv
theorem zhL {a b:Nd}:eqN a b=false↔a≠b:=by rw[<-Bool.not_eq_true,zlw]
noncomputable def zr7:Ctr:={ args:=[nd,nd],pre:=fun _=>[],res:=.bool,own:=none,out:=fun x=>eqN x.1 x.2.1 }
theorem eqb_ne (x y:List UInt8):(!eqb .str x y)= !decide (x=y):=by rw[zdp]
theorem zqs:CtrOk Tryz.prog gmH 49 zr7:=by
 refine zan (K:=gmK) zai Tryz.func49 rfl rfl Tryz.call49 rfl (by decide) (by intro h;cases h) ?_;rintro w0 X hX ⟨(a:Nd),(b:Nd),_⟩ hp;change AWP _ _ _ _ _ ⟨[(0,⟨nd,a⟩),(1,⟨nd,b⟩)],[],0⟩ _;(repeat(first|apply zae|apply zac|apply zab|apply zad));refine zaa hX zai rfl ?_ ?_
 ·trivial
 (repeat(first|apply zae|apply zac|apply zab|apply zad));refine zaa hX zai rfl ?_ ?_
 ·repeat'(first|exact trivial|assumption|(refine⟨?_,?_⟩)|(intro _)|exact Nat.le_of_ble_eq_true rfl|exact Int.natCast_nonneg _|(simp_all [allP];done))
 obtain⟨a1,a2,a3,a4,a5,a6,(la:List Int),a8,⟨⟩⟩:=a;obtain⟨b1,b2,b3,b4,b5,b6,(lb:List Int),b8,⟨⟩⟩:=b;have ht:(bif (bif (bif (bif (bif (bif (bif a1 != b1 then true else a2 != b2) then true else a3 != b3) then true else a4 != b4) then true else a5 != b5) then true else a6 != b6) then true else !eqb .str a8 b8) then true else ((la.length:Nat):Int) != ((lb.length:Nat):Int))=true↔¬ (a1=b1∧a2=b2∧a3=b3∧a4=b4∧a5=b5∧a6=b6∧a8=b8∧la.length=lb.length):=by
  rw[eqb_ne];simp only[b_or,Bool.or_eq_true,bne_iff_ne,Bool.not_eq_true',decide_eq_false_iff_not];constructor
  ·rintro (((((((h|h)|h)|h)|h)|h)|h)|h) ⟨x1,x2,x3,x4,x5,x6,x7,x8⟩
   ·exact h x1
   ·exact h x2
   ·exact h x3
   ·exact h x4
   ·exact h x5
   ·exact h x6
   ·exact h x7
   ·exact h (by rw[x8])
  ·intro h;by_cases x1:a1=b1
   ·by_cases x2:a2=b2
    ·by_cases x3:a3=b3
     ·by_cases x4:a4=b4
      ·by_cases x5:a5=b5
       ·by_cases x6:a6=b6
        ·by_cases x7:a8=b8
         ·refine .inr fun e=>h ⟨x1,x2,x3,x4,x5,x6,x7,by omega⟩
         ·exact .inl (.inr x7)
        ·exact .inl (.inl (.inr x6))
       ·exact .inl (.inl (.inl (.inr x5)))
      ·exact .inl (.inl (.inl (.inl (.inr x4))))
     ·exact .inl (.inl (.inl (.inl (.inl (.inr x3)))))
    ·exact .inl (.inl (.inl (.inl (.inl (.inl (.inr x2))))))
   ·exact .inl (.inl (.inl (.inl (.inl (.inl (.inl x1))))))
 refine zaf rfl (fun hb=>?_) (fun hb=>?_)
 ·have hb:=ht.1 hb;(repeat(first|apply zae|apply zac|apply zak|apply zad|apply zab|refine zaa hX zai rfl trivial ?_|refine zaa hX zai rfl id ?_|refine zaa hX zai rfl ⟨id,id⟩ ?_));refine AWP.ret ⟨.inr rfl,zat rfl trivial rfl rfl ?_⟩;refine (zhL.2 fun e=>hb ?_).symm;cases e;exact⟨rfl,rfl,rfl,rfl,rfl,rfl,rfl,rfl⟩
 ·have hb:¬ _:=fun h=>by rw[ht.2 h]at hb;cases hb
  obtain⟨rfl,rfl,rfl,rfl,rfl,rfl,rfl,hlen⟩:=Classical.not_not.1 hb;apply zac;(repeat(first|apply zae|apply zac|apply zab|apply zad));refine zaa hX zai rfl ?_ ?_
  ·trivial
  (repeat(first|apply zae|apply zac|apply zab|apply zad));refine zaq (σ':=⟨[(2,⟨.optr nd,⟨0,nd,.here⟩⟩),(3,⟨.optr nd,⟨1,nd,.here⟩⟩),(5,⟨i64,(0:Int)⟩)],[(0,some (.box nd (a1,a2,a3,a4,a5,a6,la,a8,()))),(1,some (.box nd (a1,a2,a3,a4,a5,a6,lb,a8,())))],2⟩) ⟨⟨rfl,rfl,rfl,trivial⟩,⟨rfl,rfl,trivial⟩,rfl,rfl⟩ ?_;refine AWP.loop (ι:=Nat) (fun k=>⟨[(2,⟨.optr nd,⟨0,nd,.here⟩⟩),(3,⟨.optr nd,⟨1,nd,.here⟩⟩),(5,⟨i64,(k:Int)⟩)],[(0,some (.box nd (a1,a2,a3,a4,a5,a6,la,a8,()))),(1,some (.box nd (a1,a2,a3,a4,a5,a6,lb,a8,())))],2⟩) (fun k=>k≤la.length∧la.take k=lb.take k) (fun k=>la.length - k) 0 ⟨Nat.zero_le _,rfl⟩ ⟨⟨rfl,rfl,rfl,trivial⟩,⟨rfl,rfl,trivial⟩,rfl,rfl⟩ ?_;rintro k ⟨hk,he⟩;(repeat(first|apply zae|apply zac|apply zab|apply zad));refine zaa hX zai rfl ?_ ?_
  ·trivial
  refine AWP.len 64 rfl fun hl=>?_;have hl:la.length≤maxLen:=hl;unfold maxLen at hl;refine zaf rfl (fun hb=>?_) (fun hb=>?_)
  ·have hb:decide ((k:Int) < ((la.length:Nat):Int))=true:=hb;have hb:=of_decide_eq_true hb;have hlt:k < la.length:=by omega
   have hlt2:k < lb.length:=by omega
   have z0:(0:Int)≤(k:Int):=by omega
   have z1:(k:Int) < ((la.length:Nat):Int):=by omega
   have z2:(k:Int) < ((lb.length:Nat):Int):=by omega
   have g1:la.getD (k:Int).toNat (0:Int)=la[k]:=za0 hlt;have g2:lb.getD (k:Int).toNat (0:Int)=lb[k]:=za0 hlt2;(repeat(first|apply zae|apply zac|apply zab|apply zad));refine AWP.draw dM hX zai 11 (by kernel_rfl) rfl rfl ?_ ?_ ?_
   ·repeat'(first|exact trivial|assumption|exact z0|exact z1|exact z2|(refine⟨?_,?_⟩)|(intro _)|exact Nat.le_of_ble_eq_true rfl|exact Int.natCast_nonneg _|(simp_all [allP];done))
   ·trivial
   refine zaf rfl (fun hc=>?_) (fun hc=>?_)
   ·have hc:(la.getD (k:Int).toNat (0:Int) != lb.getD (k:Int).toNat (0:Int))=true:=hc;rw[g1,g2]at hc;have hc:=bne_iff_ne.1 hc;(repeat(first|apply zae|apply zac|apply zak|apply zad|apply zab|refine zaa hX zai rfl trivial ?_|refine zaa hX zai rfl id ?_|refine zaa hX zai rfl ⟨id,id⟩ ?_));refine AWP.ret ⟨.inr rfl,zat rfl trivial rfl rfl ?_⟩;refine (zhL.2 fun e=>hc ?_).symm;have e:la=lb:=congrArg ndI e;subst e;rfl
   ·have hc:(la.getD (k:Int).toNat (0:Int) != lb.getD (k:Int).toNat (0:Int))=false:=hc;rw[g1,g2]at hc;have hc:=bne_eq_false_iff_eq.1 hc;apply zac;(repeat(first|apply zae|apply zac|apply zab|apply zad));refine zaa hX zai rfl ?_ ?_
    ·exact zaF (by omega)
    refine⟨k+1,⟨hlt,?_⟩,by omega,⟨rfl,rfl,zcg _,trivial⟩,⟨rfl,rfl,trivial⟩,rfl,rfl⟩;rw[List.take_succ_eq_append_getElem hlt,List.take_succ_eq_append_getElem hlt2,he,hc]
  ·have hb:decide ((k:Int) < ((la.length:Nat):Int))=false:=hb;have hb:=of_decide_eq_false hb;obtain rfl:k=la.length:=by omega
   (repeat(first|apply zae|apply zac|apply zak|apply zad|apply zab|refine zaa hX zai rfl trivial ?_|refine zaa hX zai rfl id ?_|refine zaa hX zai rfl ⟨id,id⟩ ?_));refine AWP.ret ⟨.inr rfl,zat rfl trivial rfl rfl ?_⟩;refine (zlw.2 ?_).symm;rw[List.take_length,hlen,List.take_length]at he;rw[he]
noncomputable def zk2 (a b:List Nd):Bool:=eqb (.slice nd) a b
theorem zft {a b:List Nd}:zk2 a b=true↔a=b:=zbv
theorem zhd {a b:List Nd}:zk2 a b=false↔a≠b:=by rw[<-Bool.not_eq_true,zft]
noncomputable def ztI:Ctr:={ args:=[.slice nd,.slice nd],pre:=fun _=>[],res:=.bool,own:=none,out:=fun x=>zk2 x.1 x.2.1 }
noncomputable def kSame:Kn:={ gmK with C:=[(49,zr7)] }
theorem zbG:KnOk Tryz.prog gmH kSame:=zai.with (.cons zqs .nil)
theorem zod:CtrOk Tryz.prog gmH 18 ztI:=by
 refine zan (K:=kSame) zbG Tryz.func18 rfl rfl Tryz.call18 rfl (by decide) (by intro h;cases h) ?_;rintro w0 X hX ⟨(la:List Nd),(lb:List Nd),_⟩ hp;change AWP _ _ _ _ _ ⟨[(0,⟨.slice nd,la⟩),(1,⟨.slice nd,lb⟩)],[],0⟩ _;refine AWP.len 0 rfl fun hl=>?_;unfold maxLen at hl;(repeat(first|apply zae|apply zac|apply zab|apply zad));refine zaa hX zbG rfl ?_ ?_
 ·trivial
 (repeat(first|apply zae|apply zac|apply zab|apply zad));refine zaa hX zbG rfl ?_ ?_
 ·trivial
 refine zaf rfl (fun hb=>?_) (fun hb=>?_)
 ·have hb:(((la.length:Nat):Int) != ((lb.length:Nat):Int))=true:=hb;have hb:=bne_iff_ne.1 hb;(repeat(first|apply zae|apply zac|apply zak|apply zad|apply zab|refine zaa hX zbG rfl trivial ?_|refine zaa hX zbG rfl id ?_|refine zaa hX zbG rfl ⟨id,id⟩ ?_));refine AWP.ret ⟨.inr rfl,zat rfl trivial rfl rfl ?_⟩;exact (zhd.2 fun e=>hb (by have e:la=lb:=e;rw[e])).symm
 have hb:(((la.length:Nat):Int) != ((lb.length:Nat):Int))=false:=hb;have hb:=bne_eq_false_iff_eq.1 hb;have hlen:la.length=lb.length:=by omega
 apply zac;(repeat(first|apply zae|apply zac|apply zab|apply zad));refine zaa hX zbG rfl ?_ ?_
 ·trivial
 (repeat(first|apply zae|apply zac|apply zab|apply zad));refine AWP.loop (ι:=Nat) (fun k=>⟨[(0,⟨.slice nd,la⟩),(1,⟨.slice nd,lb⟩),(5,⟨i64,(k:Int)⟩)],[],0⟩) (fun k=>k≤la.length∧la.take k=lb.take k) (fun k=>la.length - k) 0 ⟨Nat.zero_le _,rfl⟩ ⟨⟨rfl,rfl,rfl,trivial⟩,trivial,rfl,rfl⟩ ?_;rintro k ⟨hk,he⟩;(repeat(first|apply zae|apply zac|apply zab|apply zad));refine zaa hX zbG rfl ?_ ?_
 ·trivial
 refine zaf rfl (fun hb=>?_) (fun hb=>?_)
 ·have hb:decide ((k:Int) < ((la.length:Nat):Int))=true:=hb;have hb:=of_decide_eq_true hb;have hlt:k < la.length:=by omega
  have hlt2:k < lb.length:=by omega
  have z0:(0:Int)≤(k:Int):=by omega
  have z1:(k:Int) < ((la.length:Nat):Int):=by omega
  have z2:(k:Int) < ((lb.length:Nat):Int):=by omega
  have g1:la.getD (k:Int).toNat zNd=la[k]:=za0 hlt;have g2:lb.getD (k:Int).toNat zNd=lb[k]:=za0 hlt2;(repeat(first|apply zae|apply zac|apply zab|apply zad));refine AWP.draw dM hX zbG 10 (by kernel_rfl) rfl rfl ?_ ?_ ?_
  ·repeat'(first|exact trivial|assumption|exact z0|exact z1|exact z2|(refine⟨?_,?_⟩)|(intro _)|exact Nat.le_of_ble_eq_true rfl|exact Int.natCast_nonneg _|(simp_all [allP];done))
  ·trivial
  refine zaf rfl (fun hc=>?_) (fun hc=>?_)
  ·have hc:(!eqN (la.getD (k:Int).toNat zNd) (lb.getD (k:Int).toNat zNd))=true:=hc;rw[g1,g2,Bool.not_eq_true']at hc;have hc:=zhL.1 hc;(repeat(first|apply zae|apply zac|apply zak|apply zad|apply zab|refine zaa hX zbG rfl trivial ?_|refine zaa hX zbG rfl id ?_|refine zaa hX zbG rfl ⟨id,id⟩ ?_));refine AWP.ret ⟨.inr rfl,zat rfl trivial rfl rfl ?_⟩;refine (zhd.2 fun e=>hc ?_).symm;have e:la=lb:=e;subst e;rfl
  ·have hc:(!eqN (la.getD (k:Int).toNat zNd) (lb.getD (k:Int).toNat zNd))=false:=hc;rw[g1,g2,Bool.not_eq_false']at hc;have hc:=zlw.1 hc;apply zac;(repeat(first|apply zae|apply zac|apply zab|apply zad));refine zaa hX zbG rfl ?_ ?_
   ·exact zaF (by omega)
   refine⟨k+1,⟨hlt,?_⟩,by omega,⟨rfl,rfl,zcg _,trivial⟩,trivial,rfl,rfl⟩;rw[List.take_succ_eq_append_getElem hlt,List.take_succ_eq_append_getElem hlt2,he,hc]
 ·have hb:decide ((k:Int) < ((la.length:Nat):Int))=false:=hb;have hb:=of_decide_eq_false hb;obtain rfl:k=la.length:=by omega
  (repeat(first|apply zae|apply zac|apply zak|apply zad|apply zab|refine zaa hX zbG rfl trivial ?_|refine zaa hX zbG rfl id ?_|refine zaa hX zbG rfl ⟨id,id⟩ ?_));refine AWP.ret ⟨.inr rfl,zat rfl trivial rfl rfl ?_⟩;refine (zft.2 ?_).symm;rw[List.take_length,hlen,List.take_length]at he;exact he
noncomputable def zhs (y:List UInt8):Bool:=(!zkj y [35])&&decide (zbu isWh y < y.length)
noncomputable def zh1 (y:List UInt8) (fr:Nat) (acc:List De):Except (Int×Int) (List De):=
 if zhs y=true then
  if 4000 < y.length then .error ((fr:Int),2)
  else match zgK y ((acc.length:Nat):Int) with
   | .ok d=>.ok (acc++ [d])
   | .error e=>if e.2=0 then .ok acc else .error ((fr:Int)+e.1,e.2)
 else .ok acc
noncomputable def libK:List (List UInt8)->Nat->List De->List De×Int×Int
 | [],_,acc=>(acc,0,0)
 |y::r,fr,acc=>match zh1 y fr acc with
  | .error e=>([],e.1,e.2)
  | .ok acc'=>libK r (fr+y.length+1) acc'
noncomputable def za2 (s:List UInt8):List De×Int×Int:=if 1048576 < s.length then ([],0,2) else libK (segs s) 0 []
def lPF:List (Nat×V):=[(2,⟨.hptr,((0:Nat),(0:Nat))⟩),(3,⟨.optr i64,⟨1,i64,.here⟩⟩),(4,⟨.optr i64,⟨2,i64,.here⟩⟩),(5,⟨.hptr,((3:Nat),(0:Nat))⟩),(6,⟨.optr i64,⟨4,i64,.here⟩⟩),(7,⟨.optr .str,⟨5,.str,.here⟩⟩)]
def lRE (at' e:Int):Owns:=[(0,some (.hbox tD [⟨.lit,.slice none 0 0⟩])),(1,some (.box i64 at')),(2,some (.box i64 e))]
def zlg (y:List UInt8) (fr:Nat) (e:Exit) (σ:AS):Except (Int×Int) (List De)->Prop
 | .ok acc'=>e= .normal∧Fit σ ⟨[],libE y ((fr+y.length+1:Nat):Int) acc',7⟩
 | .error er=>e= .ret∧Fit σ ⟨[],lRE er.1 er.2,7⟩
noncomputable def kLc:Kn:={ gmK with H:=[tD],C:=[(51,cPre),(52,zlC 53 isWh)] }
theorem zcj:KnOk Tryz.prog gmH kLc:=⟨zgE,zgD,.cons zpl <| .cons zjM.lift .nil,zhD,RsOk.nil⟩
def zps:Code->Option (Code×Code)
 | .rangeFunc _ _ a b=>some (a,b)
 | .seq x y=>match zps x with
  |some r=>some r
  |none=>zps y
 | .block _ c=>zps c
 |_=>none
noncomputable def lBody:Code:=match zps (Tryz.f19.body.getD .skip) with
 |some r=>r.2
 |none=>.skip
noncomputable def lAsgn:Code:=match zps (Tryz.f19.body.getD .skip) with
 |some r=>r.1
 |none=>.skip
theorem zqW {w1:World} {X:Ownr} {y:List UInt8} {fr:Nat} {acc:List De} (hy:y.length≤1100000) (hfr:fr≤1100000) (ha:acc.length≤1000000) (hX:X.Ok w1) (hG:X.G=gmH) (hK:X.K=5) (hinv:∀ ty,ginv w1 X.R ty) (her:∀ er,zgK y ((acc.length:Nat):Int)= .error er->0≤er.1∧er.1≤1100000):
 AWP Tryz.prog w1 X 47 lBody ⟨lPF,libE y (fr:Int) acc,7⟩ (fun e σ=>zlg y fr e σ (zh1 y fr acc)):=by
 obtain⟨G,O,K,fix,D,ρ,B⟩:=X;obtain rfl:G=gmH:=hG;obtain rfl:K=5:=hK;unfold lPF libE;apply zab;have hp1:y.length≤2000000∧([35]:List UInt8).length≤2000000:=⟨by omega,by decide⟩;apply zae;refine AWP.via (σ':=⟨[(2,⟨.hptr,((0:Nat),(0:Nat))⟩),(3,⟨.optr i64,⟨1,i64,.here⟩⟩),(4,⟨.optr i64,⟨2,i64,.here⟩⟩),(5,⟨.hptr,((3:Nat),(0:Nat))⟩),(6,⟨.optr i64,⟨4,i64,.here⟩⟩),(7,⟨.optr .str,⟨5,.str,.here⟩⟩),(25,⟨.bool,zhs y⟩)],libE y (fr:Int) acc,7⟩) ?_ ?_
 ·unfold libE;refine AWP.ordersA dM 10 rfl (by kernel_rfl) ?_;cases hq:zkj y [35] with
  |true=>
   have hl0:zhs y=false:=by unfold zhs;rw[hq];rfl
   have hb:(!zkj y [35])=false:=by rw[hq];rfl
   have hl2:(bif !zkj y [35] then false else false)=zhs y:=by rw[hl0,hb];rfl
   repeat'(first
    |exact AllN.nil
    |refine AllN.cons ⟨_,rfl,?_⟩ ?_
    |refine StepA.eval hX zcj rfl trivial ?_
    |refine StepA.eval hX zcj rfl hp1 ?_
    |(refine StepA.guardF 3 19 true .bool false rfl rfl (zc6 hb) rfl rfl rfl ?_)
    |refine StepA.eval hX zcj rfl (by exact fun h=>hb.symm.trans h) ?_
    |(refine OrdA.last ?_;exact⟨⟨rfl,rfl,rfl,rfl,rfl,rfl,zc6 hl2,trivial⟩,⟨rfl,rfl,rfl,rfl,rfl,rfl,rfl,trivial⟩,rfl,rfl⟩))
  |false=>
   have hb:(!zkj y [35])=true:=by rw[hq];rfl
   have hl1:(bif !zkj y [35] then decide (((zbu isWh y:Nat):Int) < ((y.length:Nat):Int)) else false)=zhs y:=by
    unfold zhs;rw[zcn]
    congr 1
    exact decide_eq_decide.2 Int.ofNat_lt
   repeat'(first
    |exact AllN.nil
    |refine AllN.cons ⟨_,rfl,?_⟩ ?_
    |refine StepA.guardT 3 19 true rfl rfl (zc6 hb) rfl ?_
    |refine StepA.eval hX zcj rfl trivial ?_
    |refine StepA.eval hX zcj rfl hp1 ?_
    |refine StepA.eval hX zcj rfl (by exact rfl) ?_
    |refine StepA.eval hX zcj rfl (by exact fun h=>h) ?_
    |(refine OrdA.last ?_;exact⟨⟨rfl,rfl,rfl,rfl,rfl,rfl,zc6 hl1,trivial⟩,⟨rfl,rfl,rfl,rfl,rfl,rfl,rfl,trivial⟩,rfl,rfl⟩))
 have hlen:((y.length:Nat):Int)≤1100000:=by omega
 have hfrl:((fr:Nat):Int)≤1100000:=by omega
 have q0:inR .i64 (((y.length:Nat):Int)+1):=zar (by omega) (by omega);have q1:inR .i64 ((fr:Int)+(((y.length:Nat):Int)+1)):=zar (by omega) (by omega);have hend:(fr:Int)+(((y.length:Nat):Int)+1)=((fr+y.length+1:Nat):Int):=by omega
 unfold libE;refine zaf rfl (fun hb=>?_) (fun hb=>?_)
 ·have hb:zhs y=true:=hb;unfold zh1;rw[if_pos hb];(repeat(first|apply zae|apply zac|apply zab|apply zad));refine zaa hX zcj rfl ?_ ?_
  ·trivial
  refine zaf rfl (fun hb=>?_) (fun hb=>?_)
  ·have hb:decide (((4000:Nat):Int) < ((y.length:Nat):Int))=true:=hb;have hb:=of_decide_eq_true hb;rw[if_pos (by omega)];refine AWP.via (σ':=⟨[],lRE (fr:Int) 2,7⟩) ?_ ?_
   ·unfold lRE;refine AWP.ordersA dM 4 rfl (by kernel_rfl) ?_
    repeat'(first
     |exact AllN.nil
     |refine AllN.cons ⟨_,rfl,?_⟩ ?_
     |refine StepA.eval hX zcj rfl trivial ?_
     |(refine OrdA.last ?_;exact⟨trivial,⟨rfl,rfl,rfl,trivial⟩,rfl,rfl⟩))
   ·exact AWP.ret ⟨rfl,trivial,⟨rfl,rfl,rfl,trivial⟩,rfl,rfl⟩
  have hb:decide (((4000:Nat):Int) < ((y.length:Nat):Int))=false:=hb;have hb:=of_decide_eq_false hb;rw[if_neg (by omega)];apply zac;refine zaq (σ':=⟨lPF,libE y (fr:Int) acc,7⟩) ⟨⟨rfl,rfl,rfl,rfl,rfl,rfl,trivial⟩,⟨rfl,rfl,rfl,rfl,rfl,rfl,rfl,trivial⟩,rfl,rfl⟩ ?_;unfold lPF;(repeat(first|apply zae|apply zac|apply zab|apply zad));refine zaj ?_;refine AL.runClo hX 6 rfl rfl rfl rfl rfl rfl rfl rfl rfl rfl (by show 5≤6;omega) Tryz.func54 rfl rfl rfl rfl Tryz.call54 rfl rfl rfl (N:=NLib y (fr:Int) acc) (fun w2 X' h1 h2 h3 h4 h5 h6=>?_) (fun r σ hN=>?_)
  ·refine zqX (by omega) ha h1 h2 h3 h4 h5 fun ty=>zaH (ty:=ty) hX rfl (hinv ty) _ _ h6 (by
    have:=h1.2.2 w2 (Kept.refl _ _);rwa[h2]at this)
  rcases hN with ⟨d,hd,rfl,hf⟩|⟨er,hd,rfl,hf⟩
  ·refine AL.fit (σ':=⟨(32,⟨tupI,((0:Int),(0:Int),())⟩)::lPF,libE y (fr:Int) (acc++ [d]),7⟩) ⟨⟨rfl,rfl,rfl,rfl,rfl,rfl,rfl,trivial⟩,hf.e,rfl,rfl⟩ ?_;unfold lPF libE;refine AL.all hX zcj rfl trivial ?_;(repeat(first|apply zae|apply zac|apply zab|apply zad));refine zaa hX zcj rfl ?_ ?_
   ·trivial
   refine zaf rfl (fun hb=>absurd (show false=true from hb) (by decide)) (fun _=>?_);apply zac;rw[hd];(repeat(first|apply zae|apply zac|apply zab|apply zad));refine zaa hX zcj rfl ?_ ?_
   ·exact⟨q0,q1⟩
   exact⟨rfl,trivial,⟨rfl,rfl,rfl,rfl,zfT hend,rfl,rfl,trivial⟩,rfl,rfl⟩
  ·refine AL.fit (σ':=⟨(32,⟨tupI,(er.1,er.2,())⟩)::lPF,libE y (fr:Int) acc,7⟩) ⟨⟨rfl,rfl,rfl,rfl,rfl,rfl,rfl,trivial⟩,hf.e,rfl,rfl⟩ ?_;obtain⟨her0,her1⟩:=her er hd;have q2:inR .i64 ((fr:Int)+er.1):=zar (by omega) (by omega);unfold lPF libE;refine AL.all hX zcj rfl trivial ?_;(repeat(first|apply zae|apply zac|apply zab|apply zad));refine zaa hX zcj rfl ?_ ?_
   ·trivial
   rw[hd];refine zaf rfl (fun hb=>?_) (fun hb=>?_)
   ·have hb:(er.2 != 0)=true:=hb;have hb:er.2≠0:=bne_iff_ne.1 hb;show AWP _ _ _ _ _ _ (zkW _ _);refine AWP.via (σ':=⟨[],lRE ((fr:Int)+er.1) er.2,7⟩) ?_ ?_
    ·unfold lRE;refine AWP.ordersA dM 7 rfl (by kernel_rfl) ?_
     repeat'(first
      |exact AllN.nil
      |refine AllN.cons ⟨_,rfl,?_⟩ ?_
      |refine StepA.eval hX zcj rfl trivial ?_
      |refine StepA.eval hX zcj rfl q2 ?_
      |(refine OrdA.last ?_;exact⟨trivial,⟨rfl,rfl,rfl,trivial⟩,rfl,rfl⟩))
    ·refine AWP.ret ?_;show zlg y fr .ret _ (if er.2=0 then .ok acc else .error ((fr:Int)+er.1,er.2));rw[if_neg hb];exact⟨rfl,trivial,⟨rfl,rfl,rfl,trivial⟩,rfl,rfl⟩
   ·have hb:(er.2 != 0)=false:=hb;have hb:er.2=0:=by
     by_cases h:er.2=0
     ·exact h
     ·rw[bne_iff_ne.2 h]at hb;cases hb
    apply zac;(repeat(first|apply zae|apply zac|apply zab|apply zad));refine zaa hX zcj rfl ?_ ?_
    ·exact⟨q0,q1⟩
    show zlg y fr .normal _ (if er.2=0 then .ok acc else .error ((fr:Int)+er.1,er.2));rw[if_pos hb];exact⟨rfl,trivial,⟨rfl,rfl,rfl,rfl,zfT hend,rfl,rfl,trivial⟩,rfl,rfl⟩
 ·have hb:zhs y=false:=hb;unfold zh1;rw[if_neg (by rw[hb];decide)];apply zac;(repeat(first|apply zae|apply zac|apply zab|apply zad));refine zaa hX zcj rfl ?_ ?_
  ·exact⟨q0,q1⟩
  exact⟨rfl,trivial,⟨rfl,rfl,rfl,rfl,zfT hend,rfl,rfl,trivial⟩,rfl,rfl⟩
end Go.Proofs.YtpeaigpfddalcaaGreatDoor
namespace Go.Proofs.YtpeaigpfddalcaaGreatDoor
open Go Go.RowKit
set_option linter.unusedSimpArgs false
set_option linter.unusedVariables false
attribute [local go_sem] Oper.semAt_some
set_option maxRecDepth 100000
def zhZ:List (List UInt8)->Nat
 | []=>0
 |g::r=>g.length+1+zhZ r
theorem zf0:∀ (s c:List UInt8),zhZ (segF c s)=c.length+s.length+1
 | [],c=>by unfold segF zhZ zhZ;simp
 |x::r,c=>by
  unfold segF;split
  ·rw[zhZ,zf0 r []];simp;omega
  ·rw[zf0 r];simp;omega
theorem zmS (s:List UInt8):zhZ (segs s)=s.length+1:=by rw[segs,zf0];simp
theorem zoa (y:List UInt8):GOk y (zbd y,0):=by
 have:=zec (s:=y);unfold zgN at this;rwa[zlS]at this
theorem zl8 {y:List UInt8} {k:Int} {er:Int×Int} (h:zgK y k= .error er):0≤er.1∧er.1≤((y.length:Nat):Int):=by
 have hg:=zoa y;have he:Er y (gDef y (zbd y,0) k):=zaz (zcb hg) fun u hu=>zaz (zcb hg) fun _ _=>by
  have hc:=zaW hu;rw[beq_iff_eq]at hc;have k1:=zca hg (by show Tok.cls (zbd y,(0:Int)).1≠0;rw[hc];decide);exact zaz (zey k1.1) fun a ha=>zaz (zpA (zbk k1.1 ha).1) fun _ _=>zdn
 unfold zgK at h;cases hd:gDef y (zbd y,0) k with
 |ok r=>rw[hd]at h;cases h
 |error e=>
  rw[hd]at h;cases h;exact he _ hd
theorem zoV {y:List UInt8} {k:Nat} {d:De} (h:zgK y (k:Int)= .ok d):k < 4096:=by
 unfold zgK at h;cases hd:gDef y (zbd y,0) (k:Int) with
 |error e=>rw[hd]at h;cases h
 |ok r=>
  obtain⟨u,_,h2⟩:=zal hd;obtain⟨u2,h3,_⟩:=zal h2;have h3:=zaW h3;rw[Bool.and_eq_true,decide_eq_true_iff,decide_eq_true_iff]at h3;omega
theorem znT {y:List UInt8} {fr:Nat} {acc acc':List De} (ha:acc.length≤4096) (h:zh1 y fr acc= .ok acc'):acc'.length≤4096:=by
 unfold zh1 at h;split at h
 ·split at h
  ·cases h
  ·split at h
   ·rename_i d hd;cases h;have:=zoV hd;rw[List.length_append,List.length_singleton];omega
   ·split at h
    ·cases h;exact ha
    ·cases h
 ·cases h;exact ha
abbrev XL (O:Nat->Prop) (fix:Nat->Nat) (D:List Deferred) (ρ:Option Nat):Ownr:={ G:=gmH,X:=O,K:=5,fix:=fix,D:=D,ρ:=ρ }
def sLE (fr:Nat) (acc:List De):Owns:=[(0,some (.hbox tD [⟨.lit,.slice none 0 0⟩])),(1,some (.box i64 (0:Int))),(2,some (.box i64 (0:Int))),(3,some (zoj 5)),(4,some (.box i64 (fr:Int))),(5,some (.buf 37 de acc))]
def lPF0:List (Nat×V):=[(2,⟨.hptr,((0:Nat),(0:Nat))⟩),(3,⟨.optr i64,⟨1,i64,.here⟩⟩),(4,⟨.optr i64,⟨2,i64,.here⟩⟩),(5,⟨.hptr,((3:Nat),(0:Nat))⟩),(6,⟨.optr i64,⟨4,i64,.here⟩⟩)]
def lRn:List (Nat×Nat):=[(0,0),(1,1),(2,2),(3,3),(4,4),(6,5),(5,6)]
theorem zo6 {B:World} {O:Nat->Prop} {fix:Nat->Nat} {D:List Deferred} {ρ:Option Nat} (hX:(XL O fix D ρ).Ok B) (y:List UInt8) (fr:Nat) (acc:List De):
 AWP Tryz.prog B (XL O fix D ρ) 47 lAsgn ⟨(15,⟨.str,y⟩)::lPF0,sLE fr acc,6⟩ (fun e σ=>e= .normal∧Fit σ ⟨(2,⟨.hptr,((0:Nat),(0:Nat))⟩)::(3,⟨.optr i64,⟨1,i64,.here⟩⟩)::(4,⟨.optr i64,⟨2,i64,.here⟩⟩)::(5,⟨.hptr,((3:Nat),(0:Nat))⟩)::(6,⟨.optr i64,⟨4,i64,.here⟩⟩):: [(7,⟨.optr .str,⟨6,.str,.here⟩⟩)],(6,some (.box .str y))::sLE fr acc,7⟩):=by
 unfold lPF0 sLE;(repeat(first|apply zae|apply zac|apply zab|apply zad));refine zaa hX zcj rfl ?_ ?_
 ·trivial
 exact⟨rfl,⟨rfl,rfl,rfl,rfl,rfl,rfl,trivial⟩,⟨rfl,rfl,rfl,rfl,rfl,rfl,rfl,trivial⟩,rfl,rfl⟩
noncomputable def lTail:Code:=match Tryz.f19.body.getD .skip with
 | .seq _ (.seq _ (.seq _ (.seq _ (.seq _ t))))=>t
 |c=>c
def sLT (acc:List De):AS:=⟨[(2,⟨.hptr,((0:Nat),(0:Nat))⟩),(3,⟨.optr i64,⟨1,i64,.here⟩⟩),(4,⟨.optr i64,⟨2,i64,.here⟩⟩)],[(0,some (.hbox tD [⟨.slice de,acc⟩])),(1,some (.box i64 (0:Int))),(2,some (.box i64 (0:Int)))],6⟩
theorem zoQ {B:World} {O:Nat->Prop} {fix:Nat->Nat} {D:List Deferred} (hX:(XL O fix D none).Ok B) (fr:Nat) (acc:List De):
 AWP Tryz.prog B (XL O fix D none) 47 lTail ⟨lPF0,sLE fr acc,6⟩ (fun e σ=>e= .ret∧Fit σ (sLT acc)):=by
 unfold lPF0 sLE sLT;refine AWP.frzL hX 3 0 ?_;(repeat(first|apply zae|apply zac|apply zak|apply zad|apply zab|refine zaa hX zcj rfl trivial ?_|refine zaa hX zcj rfl id ?_|refine zaa hX zcj rfl ⟨id,id⟩ ?_));exact AWP.ret ⟨rfl,⟨rfl,rfl,rfl,trivial⟩,⟨rfl,rfl,rfl,trivial⟩,rfl,rfl⟩
section
variable {B W:World} {X:Ownr} {n:Nat} {σ:AS} {β:Nat->Value} {a:Act}
theorem zmD (h:Sim B X n σ β a W) {i:Nat} (hi:i < X.K) {t:Ty} {x:t.T} (hE:Owns.get σ.E i=some (.box t x)):∃ cs ty,W.heap[X.fix i]? =some (.cells (List.toArray cs) ty (0,0))∧RepC W (OSet X σ.E β) t x cs:=by
 obtain⟨g,cs,ty,q1,_,q2,q3⟩:=h.own i _ hE;have q4:=(h.fix.2 i hi).1;rw[q1]at q4;have q4:g=X.fix i:=by simpa [zah] using q4
 subst q4;exact⟨cs,ty,q2,q3⟩
theorem zpk (h:Sim B X n σ β a W) {i:Nat} (hi:i < X.K) {v:V} {ty:TypeId} (hE:Owns.get σ.E i=some (.hbox ty [v])):∃ u,W.heap[X.fix i]? =some (.cells #[u] ty (0,0))∧u.oneCell'=true∧RepV W (OSet X σ.E β) β v.t v.x u:=by
 obtain⟨g,cs,q1,_,q2,u,r,rfl,q5,q6,q7⟩:=h.own i _ hE;have q7:r=[]:=q7;subst q7;have q4:=(h.fix.2 i hi).1;rw[q1]at q4;have q4:g=X.fix i:=by simpa [zah] using q4
 subst q4;exact⟨u,q2,q5,q6⟩
theorem zmT {B A C:World} {X X':Ownr} {n n':Nat} {σ σ':AS} {β β':Nat->Value} {a a':Act} {I:Nat->Prop} (h:Sim B X n σ β a A) (h':Sim B X' n' σ' β' a' C) (hR:∀ g,X'.R g->X.R g) (hX:X.Ok B) (hI:∀ g,I g->X g):SameOn I B.heap.size A C:=
 ⟨h'.bel.os.trans h.bel.os.symm,h'.bel.tape.trans h.bel.tape.symm,h'.bel.output.trans h.bel.output.symm,h'.bel.size,fun k hk=>
   have hx:=hX.1 k (hI k hk)
   (h'.bel.block k hx.1 fun hr=>hx.2 (hR k hr)).trans (h.bel.block k hx.1 hx.2).symm⟩
end
def zo9 (a:Act) (x:Value):Act:={ tmps:=((#[15]:Array Tmp).zip #[x]).foldl (fun t (p,v)=>t.setIfInBounds p v) a.tmps,defers:=[] }
theorem zdV {a:Act} {x:Value} (hsz:a.tmps.size=47) (s:Nat):(zo9 a x).tmps.getD s undef=if 15=s then x else a.tmps.getD s undef:=by
 have:(zo9 a x).tmps=a.tmps.setIfInBounds 15 x:=by simp[zo9]
 rw[this];by_cases h:15=s
 ·subst h;rw[if_pos rfl];simp[Array.getD_eq_getD_getElem?,Array.getElem?_setIfInBounds,hsz]
 ·rw[if_neg h];simp[Array.getD_eq_getD_getElem?,Array.getElem?_setIfInBounds,h]
def nA:Act:={ tmps:=#[],defers:=[] }
section
variable {w w5:World} {O:Nat->Prop} {N:Nat} {s:List UInt8} {t0 t1 t2 t3 t4:TypeId} {a5:Act}
def lI (N D:Nat) (g:Nat):Prop:=itI (N+5) (N+6) (N+7) g∨g=D∨g=D+1
def lO (O:Nat->Prop) (N D:Nat) (g:Nat):Prop:=O g∨lI N D g
def lFix (N:Nat) (i:Nat):Nat:=N+i
def lBB (w5:World) (N:Nat) (B:World):Prop:=B.heap.size=w5.heap.size+2∧Kept (lI N w5.heap.size) w5 B
theorem lR {N:Nat} {O':Nat->Prop} {D:List Deferred} {ρ:Option Nat} {g:Nat} (h:(XL O' (lFix N) D ρ).R g):N≤g∧g≤N+4:=by
 rcases h with ⟨i,hi,rfl⟩|h
 ·have hi:i < 5:=hi;show N≤N+i∧N+i≤N+4;omega
 ·exact False.elim h
theorem zo8 (hN:N=w.heap.size) (hs5:w5.heap.size=N+8) (hb5:Below w.heap.size w w5) {B:World} (h:lBB w5 N B):Below w.heap.size w B:=
 ⟨h.2.os.trans hb5.os,h.2.tape.trans hb5.tape,h.2.output.trans hb5.output,Nat.le_trans hb5.size h.2.size,fun k hk=>(h.2.block k (Nat.lt_of_lt_of_le hk hb5.size) (by unfold lI itI;omega)).trans (hb5.block k hk)⟩
theorem zln (hN:N=w.heap.size) (hs5:w5.heap.size=N+8) (hb5:Below w.heap.size w w5) {B W:World} (h:lBB w5 N B) {O':Nat->Prop} {D:List Deferred} {ρ:Option Nat} (hk:Kept (XL O' (lFix N) D ρ).R B W):Below w.heap.size w W:=
 have hb:=zo8 hN hs5 hb5 h
 ⟨hk.os.trans hb.os,hk.tape.trans hb.tape,hk.output.trans hb.output,Nat.le_trans hb.size hk.size,fun k hkl=>(hk.block k (Nat.lt_of_lt_of_le hkl hb.size) fun hr=>by have:=(lR hr).1;omega).trans (hb.block k hkl)⟩
theorem lX_ok (hN:N=w.heap.size) (hO:∀ g,O g->g < w.heap.size) (hG:gmH w) (hs5:w5.heap.size=N+8) (hb5:Below w.heap.size w w5) {B:World} (h:lBB w5 N B) (D:List Deferred) (ρ:Option Nat):(XL (lO O N w5.heap.size) (lFix N) D ρ).Ok B:=by
 have hs:=h.1;refine⟨fun g hg=>?_,fun g hg=>?_,fun w' hk=>zhD _ _ hG (zln hN hs5 hb5 h hk)⟩
 ·have hg:O g∨(g=N+5∨g=N+6∨g=N+7)∨g=w5.heap.size∨g=w5.heap.size+1:=hg;refine⟨?_,fun hr=>?_⟩
  ·rcases hg with h1|h1
   ·have:=hO g h1;omega
   ·omega
  ·have:=lR hr;rcases hg with h1|h1
   ·have:=hO g h1;omega
   ·omega
 ·have:=lR hg;omega
theorem lX_inv (hN:N=w.heap.size) (hG:gmH w) {O':Nat->Prop} {D:List Deferred} {ρ:Option Nat} {B:World} (ty:TypeId):ginv B (XL O' (lFix N) D ρ).R ty:=by
 have hl:=zmf hG;exact⟨fun h=>by have:=lR h;omega,fun h=>by have:=lR h;omega⟩
def lJ (w5:World) (O:Nat->Prop) (N:Nat) (s:List UInt8) (k:Nat) (W:World):Prop:=∃ (B:World) (β:Nat->Value) (acc:List De) (fr:Nat),lBB w5 N B∧Sim B (XL (lO O N w5.heap.size) (lFix N) [] none) 0 ⟨[],sLE fr acc,6⟩ β nA W∧acc.length≤4096∧k≤(segs s).length∧fr+zhZ ((segs s).drop k)≤s.length+1∧libK ((segs s).drop k) fr acc=za2 s
def lN (w5:World) (O:Nat->Prop) (N:Nat) (s:List UInt8) (k:Nat) (y:List UInt8) (a':Act) (W:World):Prop:=∃ (B:World) (β:Nat->Value) (acc:List De) (fr:Nat),lBB w5 N B∧Sim B (XL (lO O N w5.heap.size) (lFix N) [] none) 47 ⟨lPF,libE y (fr:Int) acc,7⟩ β a' W∧acc.length≤4096∧k≤(segs s).length∧fr+zhZ ((segs s).drop k)≤s.length+1∧libK ((segs s).drop k) fr acc=za2 s
def lJr (w5:World) (O:Nat->Prop) (N:Nat) (s:List UInt8) (W:World):Prop:=∃ (er:Int×Int) (B:World) (β:Nat->Value),za2 s=([],er.1,er.2)∧lBB w5 N B∧Sim B (XL (lO O N w5.heap.size) (lFix N) [] none) 0 ⟨[],lRE er.1 er.2,7⟩ β nA W
theorem zoW {tmps:Array Value} {g2 g3 g4:Nat} {W:World} {u:Value} {x y:Int} {t2 t3 t4:TypeId} (hu:u.oneCell'=true) (h2:tmps.getD 2 undef= .pointer (some ⟨g2,0,none⟩)) (h3:tmps.getD 3 undef= .pointer (some ⟨g3,0,none⟩)) (h4:tmps.getD 4 undef= .pointer (some ⟨g4,0,none⟩))
 (c2:W.heap[g2]? =some (.cells #[u] t2 (0,0))) (c3:W.heap[g3]? =some (.cells #[.int .i64 x] t3 (0,0))) (c4:W.heap[g4]? =some (.cells #[.int .i64 y] t4 (0,0))):
 (results Tryz.f19 tmps).run Tryz.prog W= .ok (.tuple #[u,.int .i64 x,.int .i64 y]) W:=by
 have d2:=(zaV c2).1;have d3:=(zaV c3).1;have d4:=(zaV c4).1;rw[Array.getD_eq_getD_getElem?]at h2 h3 h4;simp[results,Tryz.f19,go_sem,h2,h3,h4,d2,d3,d4]
abbrev zso:Ty:=.tup (.slice de) (.tup i64 (.tup i64 .unit))
theorem zop {w:World} {O:Nat->Prop} {acc:List De} {x y:Int} {u:Value} (hu:RepD w O (.slice de) acc u):zdH w O 0 none zso (acc,x,y,()) (.tuple #[u,.int .i64 x,.int .i64 y]):=fun β=>
 ⟨[_,_,_],rfl,_,_,rfl,hu,_,_,rfl,rfl,_,_,rfl,rfl,rfl⟩
def ldco (D:Nat):Deferred:={ target:=.collected D,args:=#[] }
def znD (w:World) (O:Nat->Prop) (r:List De×Int×Int) (e:Ending) (w':World):Prop:=∃ v,e= .returned v∧Below w.heap.size w w'∧zdH w' O w.heap.size none zso (r.1,r.2.1,r.2.2,()) v
theorem lfin {W:World} {O':Nat->Prop} {tmps:Array Value} {D:Nat} {u:Value} {x y:Int} {acc:List De} (hN:N=w.heap.size) (hO:∀ g,O g->O' g) (hD:O' D) (hlt:N+2 < D) (hbel:Below w.heap.size w W) (hd:W.heap[D]? =some (.deferred (some []))) (hu:u.oneCell'=true) (h2:tmps.getD 2 undef= .pointer (some ⟨N,0,none⟩)) (h3:tmps.getD 3 undef= .pointer (some ⟨N+1,0,none⟩)) (h4:tmps.getD 4 undef= .pointer (some ⟨N+2,0,none⟩))
 (c2:W.heap[N]? =some (.cells #[u] t2 (0,0))) (c3:W.heap[N+1]? =some (.cells #[.int .i64 x] t3 (0,0))) (c4:W.heap[N+2]? =some (.cells #[.int .i64 y] t4 (0,0))) (hr:RepD W O' (.slice de) acc u):
 LeavesInM Fence.wide 1 Tryz.prog Tryz.f19 tmps (znD w O (acc,x,y)) [ldco D] .returning W:=by
 refine⟨(by intro h;cases h),.inl ⟨D,_,rfl,run_takeDeferred hd,?_⟩⟩;have hk:Kept (fun g=>g=D) W (W.putObj D (.deferred none)):=zcW _ rfl;have hlD:=(Array.getElem?_eq_some_iff.1 hd).1;have hl:∀ g (o:Obj),W.heap[g]? =some o->g≠D->(W.putObj D (.deferred none)).heap[g]? =some o:=fun g o hg hne=>(hk.block g (Array.getElem?_eq_some_iff.1 hg).1 hne).trans hg;refine⟨_,zoW hu h2 h3 h4 (hl _ _ c2 (by omega)) (hl _ _ c3 (by omega)) (hl _ _ c4 (by omega)),_,rfl,?_,?_⟩
 ·refine⟨hk.os.trans hbel.os,hk.tape.trans hbel.tape,hk.output.trans hbel.output,Nat.le_trans hbel.size hk.size,fun k hkl=>?_⟩;have h1:k < W.heap.size:=Nat.lt_of_lt_of_le hkl hbel.size;exact (hk.block k h1 (by omega)).trans (hbel.block k hkl)
 ·exact zop (RepD.keep ⟨hk.size,fun g hg hn=>hk.block g hg fun e=>hn (e▸hD),fun g _ hg=>hO g hg⟩ hr)
end
end Go.Proofs.YtpeaigpfddalcaaGreatDoor
namespace Go.Proofs.YtpeaigpfddalcaaGreatDoor
open Go Go.RowKit
set_option linter.unusedSimpArgs false
set_option linter.unusedVariables false
attribute [local go_sem] Oper.semAt_some
set_option maxRecDepth 100000
section
variable {w w5:World} {O:Nat->Prop} {N:Nat} {s:List UInt8} {t0 t1 t2 t3 t4:TypeId} {a5:Act}
theorem ziT {B W:World} {O':Nat->Prop} {D:List Deferred} {ρ:Option Nat} {n:Nat} {σ:AS} {β:Nat->Value} {a:Act} (h:Sim B (XL O' (lFix N) D ρ) n σ β a W) {E:Owns} {m:Nat} (hf:Fit σ ⟨[],E,m⟩) (hm:5≤m):Sim B (XL O' (lFix N) [] none) 0 ⟨[],E,m⟩ β nA W:=
 (h.fit hf hm).act (X':=XL O' (lFix N) [] none) (a':=nA) rfl rfl rfl rfl rfl (F:=[]) zf4 rfl
theorem zoY {y:List UInt8} {r:List (List UInt8)} {fr:Nat} {acc:List De}:libK (y::r) fr acc=match zh1 y fr acc with
 | .error e=>([],e.1,e.2)
 | .ok acc'=>libK r (fr+y.length+1) acc':=rfl
set_option maxHeartbeats 1000000 in
theorem zoX (hN:N=w.heap.size) (hO:∀ g,O g->g < w.heap.size) (hG:gmH w) (hlen:s.length≤1048576) (hs5:w5.heap.size=N+8) (hb5:Below w.heap.size w w5)
 (b0:w5.heap[N]? =some (.cells #[.slice none 0 0] tD (0,0))) (b1:w5.heap[N+1]? =some (.cells #[.int .i64 0] t1 (0,0))) (b2:w5.heap[N+2]? =some (.cells #[.int .i64 0] t2 (0,0))) (b3:w5.heap[N+3]? =some (.cells #[.slice none 0 0] tD (0,0))) (b4:w5.heap[N+4]? =some (.cells #[.int .i64 0] t4 (0,0)))
 (i0:w5.heap[N+5]? =some (.cells #[.string ⟨s.toArray⟩] 9 (0,0))) (i1:w5.heap[N+6]? =some (.cells #[.string ⟨#[10]⟩] 9 (0,0))) (i2:w5.heap[N+7]? =some (.cells #[.int .i64 0] 3 (0,0)))
 (hsz:a5.tmps.size=47) (e2:a5.tmps.getD 2 undef= .pointer (some ⟨N,0,none⟩)) (e3:a5.tmps.getD 3 undef= .pointer (some ⟨N+1,0,none⟩)) (e4:a5.tmps.getD 4 undef= .pointer (some ⟨N+2,0,none⟩)) (e5:a5.tmps.getD 5 undef= .pointer (some ⟨N+3,0,none⟩)) (e6:a5.tmps.getD 6 undef= .pointer (some ⟨N+4,0,none⟩))
 (e14:a5.eval (.tmp 14)= .func (.func 145) #[] #[.pointer (some ⟨N+6,0,none⟩),.pointer (some ⟨N+5,0,none⟩),.pointer (some ⟨N+7,0,none⟩)]) (hdf:a5.defers=[]):
 zfY Tryz.prog 19 (.rangeFunc (.tmp 14) #[15] lAsgn lBody) (fun e a w'=>(e= .normal∨e= .ret)∧Exit.then (zfY Tryz.prog 19 lTail (bodyPostM Fence.wide 1 Tryz.prog Tryz.f19 (znD w O (za2 s)))) (bodyPostM Fence.wide 1 Tryz.prog Tryz.f19 (znD w O (za2 s))) e a w') a5 w5:=by
 have hP:za2 s=libK (segs s) 0 []:=if_neg (by omega);have hXok:∀ B D ρ,lBB w5 N B->(XL (lO O N w5.heap.size) (lFix N) D ρ).Ok B:=fun B D ρ h=>lX_ok hN hO hG hs5 hb5 h D ρ;have hsame:∀ {B A C:World} {ρ ρ':Option Nat} {D D':List Deferred} {n n':Nat} {σ σ':AS} {β β':Nat->Value} {a a':Act},lBB w5 N B->Sim B (XL (lO O N w5.heap.size) (lFix N) D ρ) n σ β a A->Sim B (XL (lO O N w5.heap.size) (lFix N) D' ρ') n' σ' β' a' C->SameOn (lI N w5.heap.size) (w5.heap.size+2) A C:=fun hBB h h'=>by
  have:=zmT h h' (fun g hr=>hr) (hXok _ _ _ hBB) (I:=lI N w5.heap.size) (fun g hg=>.inr hg);rwa[hBB.1]at this
 refine zhX (m:=1) e14 Tryz.call145 (zk0 (N+5) (N+6) (N+7) s w5 (by omega) (by omega) i0 i1 i2) (Below.refl _ _) ?_ (lJ w5 O N s) (lJr w5 O N s) (lN w5 O N s) ?_ ?_ ?_ ?_ ?_ ?_ ?_ ?_
 ·intro k hk;have hk:k=N+5∨k=N+6∨k=N+7:=hk;omega
 ·rintro k A C ⟨B,β,acc,fr,hBB,hS,h1,h2,h3,h4⟩ hk;obtain⟨B',hs',hk',hS'⟩:=hS.outside (hXok _ _ _ hBB) (I:=lI N w5.heap.size) (fun g hg=>.inr hg) hk;exact⟨B',β,acc,fr,⟨hs'.trans hBB.1,hBB.2.trans hk'⟩,hS',h1,h2,h3,h4⟩
 ·rintro A C ⟨er,B,β,hpe,hBB,hS⟩ hk;obtain⟨B',hs',hk',hS'⟩:=hS.outside (hXok _ _ _ hBB) (I:=lI N w5.heap.size) (fun g hg=>.inr hg) hk;exact⟨er,B',β,hpe,⟨hs'.trans hBB.1,hBB.2.trans hk'⟩,hS'⟩
 ·rintro k y a' A C ⟨B,β,acc,fr,hBB,hS,h1,h2,h3,h4⟩ hk;obtain⟨B',hs',hk',hS'⟩:=hS.outside (hXok _ _ _ hBB) (I:=lI N w5.heap.size) (fun g hg=>.inr hg) hk;exact⟨B',β,acc,fr,⟨hs'.trans hBB.1,hBB.2.trans hk'⟩,hS',h1,h2,h3,h4⟩
 ·intro W1 hb hs1;have hBB:lBB w5 N W1:=⟨hs1,⟨hb.os,hb.tape,hb.output,hb.size,fun k hk _=>hb.block k hk⟩⟩;have hl:∀ g (o:Obj),w5.heap[g]? =some o->W1.heap[g]? =some o:=fun g o hg=>(hb.block g (Array.getElem?_eq_some_iff.1 hg).1).trans hg
  let β:Nat->Value:=fun i=>.pointer (some ⟨lFix N i,0,none⟩)
  have hS0:Sim W1 (XL (lO O N w5.heap.size) (lFix N) [] none) 0 ⟨[],[(0,some (.hbox tD [⟨.lit,.slice none 0 0⟩])),(1,some (.box i64 (0:Int))),(2,some (.box i64 (0:Int))),(3,some (.hbox tD [⟨.lit,.slice none 0 0⟩])),(4,some (.box i64 (0:Int)))],5⟩ β nA W1:=by
   refine Sim.boxes (X:=XL (lO O N w5.heap.size) (lFix N) [] none) rfl rfl (fun i _=>rfl) ?_ ?_ zf4 rfl
   ·intro i j hi hj hij;have hij:N+i=N+j:=hij;omega
   ·intro i o h;rw[zag]at h;split at h
    ·rename_i hi;subst hi;cases h;exact⟨by show 0 < 5;omega,rfl,⟨N,[_],rfl,Nat.zero_le _,hl _ _ b0,_,[],rfl,rfl,rfl,rfl⟩,fun vs e v hv=>by cases e;rw[List.mem_singleton]at hv;subst hv;exact Nat.zero_le _⟩
    rw[zag]at h;split at h
    ·rename_i _ hi;subst hi;cases h;exact⟨by show 1 < 5;omega,rfl,⟨N+1,[_],_,rfl,Nat.zero_le _,hl _ _ b1,rfl⟩,fun vs e=>by cases e⟩
    rw[zag]at h;split at h
    ·rename_i _ _ hi;subst hi;cases h;exact⟨by show 2 < 5;omega,rfl,⟨N+2,[_],_,rfl,Nat.zero_le _,hl _ _ b2,rfl⟩,fun vs e=>by cases e⟩
    rw[zag]at h;split at h
    ·rename_i _ _ _ hi;subst hi;cases h;exact⟨by show 3 < 5;omega,rfl,⟨N+3,[_],rfl,Nat.zero_le _,hl _ _ b3,_,[],rfl,rfl,rfl,rfl⟩,fun vs e v hv=>by cases e;rw[List.mem_singleton]at hv;subst hv;exact Nat.zero_le _⟩
    rw[zag]at h;split at h
    ·rename_i _ _ _ _ hi;subst hi;cases h;exact⟨by show 4 < 5;omega,rfl,⟨N+4,[_],_,rfl,Nat.zero_le _,hl _ _ b4,rfl⟩,fun vs e=>by cases e⟩
    ·cases h
  obtain⟨β',hS1⟩:=Sim.nilLeaf 3 0 37 de rfl rfl rfl _ _ _ hS0;refine⟨W1,β',[],0,hBB,ziT hS1 ⟨trivial,⟨rfl,rfl,rfl,rfl,rfl,rfl,trivial⟩,rfl,rfl⟩ (by omega),by simp,Nat.zero_le _,?_,hP.symm⟩;rw[List.drop_zero,zmS];omega
 ·rintro l k y W ⟨B,β,acc,fr,hBB,hS,h1,h2,h3,h4⟩ hy hsz2;obtain⟨hkl,hyk⟩:=List.getElem?_eq_some_iff.1 hy;have hd:(segs s).drop k=y::(segs s).drop (k+1):=by rw[<-hyk];exact List.drop_eq_getElem_cons hkl
  have h3':=h3;rw[hd,zhZ]at h3';have hb:=fun k (hk:k < 5)=>(hS.fix.2 k hk).1;have hsim:=hS.act (X':=XL (lO O N w5.heap.size) (lFix N) [] (some l)) (m:=47) (a':=zo9 a5 (.string ⟨y.toArray⟩)) rfl rfl rfl (by simp[zo9,hsz]) rfl (F:=(15,⟨.str,y⟩)::lPF0) (zbF (by rw[zdV hsz];exact⟨rfl,by show y.length≤maxLen;unfold maxLen;omega⟩) (zbF ⟨_,hb 0 (by omega),by rw[zdV hsz];exact e2⟩ (zbF ⟨_,hb 1 (by omega),by rw[zdV hsz];exact e3⟩ (zbF ⟨_,hb 2 (by omega),by rw[zdV hsz];exact e4⟩ (zbF ⟨_,hb 3 (by omega),by rw[zdV hsz];exact e5⟩ (zbF ⟨_,hb 4 (by omega),by rw[zdV hsz];exact e6⟩ zf4)))))) rfl;refine Go.wpIn_mono (zo6 (hXok B [] (some l) hBB) y fr acc β _ W hsim) ?_;rintro e a' W' ⟨σ',β',h',rfl,hf⟩;have hso:=hsame hBB hS h';have h6:=h'.fit hf (by show 5≤7;omega);have h7:=h6.renameK (L:=lRn) (m:=7) rfl rfl (by show 5≤7;omega) rfl rfl;refine⟨rfl,⟨B,_,acc,fr,hBB,(h7.fit (σ':=⟨lPF,libE y (fr:Int) acc,7⟩) ⟨⟨rfl,rfl,rfl,rfl,rfl,rfl,trivial⟩,⟨rfl,rfl,rfl,rfl,rfl,rfl,rfl,trivial⟩,rfl,rfl⟩ (by show 5≤7;omega)).act (X':=XL (lO O N w5.heap.size) (lFix N) [] none) rfl rfl rfl h7.sz h7.df (fun sl=>(h7.fit (σ':=⟨lPF,libE y (fr:Int) acc,7⟩) ⟨⟨rfl,rfl,rfl,rfl,rfl,rfl,trivial⟩,⟨rfl,rfl,rfl,rfl,rfl,rfl,rfl,trivial⟩,rfl,rfl⟩ (by show 5≤7;omega)).fr sl) rfl,h1,h2,h3,h4⟩,hso⟩
 ·rintro l k y W a' hy hsz2 ⟨B,β,acc,fr,hBB,hS,h1,h2,h3,h4⟩;obtain⟨hkl,hyk⟩:=List.getElem?_eq_some_iff.1 hy;have hd:(segs s).drop k=y::(segs s).drop (k+1):=by rw[<-hyk];exact List.drop_eq_getElem_cons hkl
  rw[hd,zhZ]at h3;rw[hd,zoY]at h4;have hsim:=hS.act (X':=XL (lO O N w5.heap.size) (lFix N) [] (some l)) rfl rfl rfl hS.sz hS.df hS.fr rfl;refine Go.wpIn_mono (zqW (by omega) (by omega) (by omega) (hXok B [] (some l) hBB) rfl rfl (fun ty=>lX_inv hN hG ty) (fun er he=>⟨(zl8 he).1,by have:=(zl8 he).2;omega⟩) β _ W hsim) ?_;rintro e a3 W' ⟨σ',β',h',hR⟩;have hso:=hsame hBB hS h';refine⟨?_,hso⟩;cases hst:zh1 y fr acc with
  |error er=>
   rw[hst]at hR h4;obtain⟨rfl,hf⟩:=hR;exact .inr ⟨rfl,er,B,β',h4.symm,hBB,ziT h' hf (by omega)⟩
  |ok acc'=>
   rw[hst]at hR h4;obtain⟨rfl,hf⟩:=hR;have h6:=(h'.fit hf (by show 5≤7;omega)).fit (σ':=⟨[],[(0,some (.hbox tD [⟨.lit,.slice none 0 0⟩])),(1,some (.box i64 (0:Int))),(2,some (.box i64 (0:Int))),(3,some (zoj 6)),(4,some (.box i64 ((fr+y.length+1:Nat):Int))),(6,some (.buf 37 de acc'))],7⟩) ⟨trivial,⟨rfl,rfl,rfl,rfl,rfl,rfl,trivial⟩,rfl,rfl⟩ (by show 5≤7;omega);have h7:=h6.renameK (L:=lRn) (m:=6) rfl rfl (by show 5≤6;omega) rfl rfl;exact .inl ⟨rfl,B,_,acc',fr+y.length+1,hBB,ziT h7 ⟨trivial,⟨rfl,rfl,rfl,rfl,rfl,rfl,trivial⟩,rfl,rfl⟩ (by omega),znT h1 hst,hkl,by omega,h4⟩
 ·rintro W ⟨B,β,acc,fr,hBB,hS,h1,h2,h3,h4⟩ hdef;refine⟨.inl rfl,?_⟩;rw[List.drop_length]at h4;have h4:(acc,(0:Int),(0:Int))=za2 s:=h4;have hb:=fun k (hk:k < 5)=>(hS.fix.2 k hk).1;have hsim:=hS.act (X':=XL (lO O N w5.heap.size) (lFix N) [ldco w5.heap.size] none) (m:=47) (a':={ a5 with defers:={ target:=.collected w5.heap.size,args:=#[] }::a5.defers }) rfl rfl rfl hsz (by rw[hdf];rfl) (F:=lPF0) (zbF ⟨_,hb 0 (by omega),e2⟩ (zbF ⟨_,hb 1 (by omega),e3⟩ (zbF ⟨_,hb 2 (by omega),e4⟩ (zbF ⟨_,hb 3 (by omega),e5⟩ (zbF ⟨_,hb 4 (by omega),e6⟩ zf4))))) rfl;refine zcv (m:=0) (Go.wpIn_mono (zoQ (hXok _ _ _ hBB) fr acc β _ W hsim) ?_);rintro e a' W' ⟨σ',β',h',rfl,hf⟩;have h6:=h'.fit hf (by show 5≤6;omega);have hso:=hsame hBB hS h6;obtain⟨u,q0,q1,hu⟩:=zpk h6 (i:=0) (by show 0 < 5;omega) rfl;obtain⟨c1,y1,q2,q3⟩:=zmD h6 (i:=1) (by show 1 < 5;omega) rfl;obtain⟨c2,y2,q4,q5⟩:=zmD h6 (i:=2) (by show 2 < 5;omega) rfl;have q3:c1=[.int .i64 0]:=q3;have q5:c2=[.int .i64 0]:=q5;subst q3;subst q5;have hb6:=fun k (hk:k < 5)=>(h6.fix.2 k hk).1;have k2:a'.tmps.getD 2 undef= .pointer (some ⟨N,0,none⟩):=by
   obtain⟨g,r1,r2⟩:∃ g,zah (β' 0)=some g∧a'.tmps.getD 2 undef= .pointer (some ⟨g,0,none⟩):=h6.fr 2;rw[hb6 0 (by omega)]at r1;cases r1;exact r2
  have k3:a'.tmps.getD 3 undef= .pointer (some ⟨N+1,0,none⟩):=by
   obtain⟨g,r1,r2⟩:∃ g,zah (β' 1)=some g∧a'.tmps.getD 3 undef= .pointer (some ⟨g,0,none⟩):=h6.fr 3;rw[hb6 1 (by omega)]at r1;cases r1;exact r2
  have k4:a'.tmps.getD 4 undef= .pointer (some ⟨N+2,0,none⟩):=by
   obtain⟨g,r1,r2⟩:∃ g,zah (β' 2)=some g∧a'.tmps.getD 4 undef= .pointer (some ⟨g,0,none⟩):=h6.fr 4;rw[hb6 2 (by omega)]at r1;cases r1;exact r2
  show LeavesInM Fence.wide 1 Tryz.prog Tryz.f19 a'.tmps (znD w O (za2 s)) a'.defers .returning W';rw[h6.df, <-h4];exact lfin hN (O':=OSet (XL (lO O N w5.heap.size) (lFix N) [ldco w5.heap.size] none) (sLT acc).E β') (fun g hg=>.inl (.inl hg)) (.inl (.inr (.inr (.inl rfl)))) (by omega) (zln hN hs5 hb5 hBB h6.bel) ((hso.block _ (.inr (.inl rfl))).trans hdef) q1 k2 k3 k4 q0 q2 q4 hu
 ·rintro W ⟨er,B,β,hpe,hBB,hS⟩ hdef;refine⟨.inr rfl,?_⟩;obtain⟨u,q0,q1,hu⟩:=zpk hS (i:=0) (by show 0 < 5;omega) rfl;have hu:u= .slice none 0 0:=hu;subst hu;obtain⟨c1,y1,q2,q3⟩:=zmD hS (i:=1) (by show 1 < 5;omega) rfl;obtain⟨c2,y2,q4,q5⟩:=zmD hS (i:=2) (by show 2 < 5;omega) rfl;have q3:c1=[.int .i64 er.1]:=q3;have q5:c2=[.int .i64 er.2]:=q5;subst q3;subst q5;show LeavesInM Fence.wide 1 Tryz.prog Tryz.f19 a5.tmps (znD w O (za2 s)) (ldco w5.heap.size::a5.defers) .returning W;rw[hdf,hpe];exact lfin (acc:=[]) hN (O':=OSet (XL (lO O N w5.heap.size) (lFix N) [] none) (lRE er.1 er.2) β) (fun g hg=>.inl (.inl hg)) (.inl (.inr (.inr (.inl rfl)))) (by omega) (zln hN hs5 hb5 hBB hS.bel) hdef q1 e2 e3 e4 q0 q2 q4 ⟨_,rfl,.inl ⟨rfl,none,0,rfl,Nat.zero_le _⟩⟩
end
end Go.Proofs.YtpeaigpfddalcaaGreatDoor
namespace Go.Proofs.YtpeaigpfddalcaaGreatDoor
open Go Go.RowKit
set_option linter.unusedSimpArgs false
set_option linter.unusedVariables false
attribute [local go_sem] Oper.semAt_some
set_option maxRecDepth 100000
theorem zjA {P:Program} {f:FuncId} {Q:Exit->Act->World->Prop} {a:Act} {w:World} {id:Nat} {c:Code} (h:zfY P f c (fun e a w=>(e= .normal∨e= .ret)∧Q e a w) a w):zfY P f (.block id c) Q a w:=by
 intro b k cs hb hro;have h0:(lone (b.atR a (.code (.block id c)::k)) cs w).fenced P Fence.wide:=fenced_wide P _;obtain⟨e,a1,w1,⟨he,hq⟩,harr⟩:=h b (.inBlock id::k) cs hb hro;rcases he with rfl|rfl
 ·exact⟨.normal,a1,w1,hq,.head h0 stepR_block (StepsIn.trans harr (.one (fenced_wide P _) stepR_inBlock))⟩
 ·exact⟨_,a1,w1,hq,.of_steps (.one h0 stepR_block) harr⟩
noncomputable def zpO:Ctr:={ args:=[.str],pre:=fun _=>[],res:=zso,own:=none,out:=fun x=>((za2 x.1).1,(za2 x.1).2.1,(za2 x.1).2.2,()) }
set_option maxHeartbeats 1000000 in
theorem zk8:CtrOk Tryz.prog gmH 19 zpO:=by
 refine⟨Tryz.call19,fun w O xs vs hO hr hp hG=>?_⟩;obtain⟨(s:List UInt8),_⟩:=xs;obtain⟨v1,r1,rfl,e1,rfl⟩:=hr;have e1: [v1]=[Value.string ⟨s.toArray⟩]∧s.length≤maxLen:=e1;obtain⟨e1,hmax⟩:=e1;cases e1;refine callsIn_wide.1 (zeZ (m:=1) Tryz.func19 rfl ?_);simp only[Tryz.ntmps19,List.size_toArray,List.length_cons,List.length_nil,Nat.reduceAdd,Nat.reduceSub,Array.replicate_succ,Array.replicate_zero,List.push_toArray,List.append_toArray,List.nil_append,List.cons_append];change zfY _ _ _ (bodyPostM Fence.wide 1 Tryz.prog Tryz.f19 (znD w O (za2 s))) _ _;generalize hQ:bodyPostM Fence.wide 1 Tryz.prog Tryz.f19 _=Q;refine zco (zcv (m:=1) ?_)
 gi_wp2
 refine zco (zcv (m:=1) ?_)
 gi_wp2
 ·rename_i hlong;have hP:za2 s=([],0,2):=if_pos (by omega);rw[<-hQ,hP];refine⟨_,zoW (g2:=w.heap.size) (g3:=w.heap.size+1) (g4:=w.heap.size+1+1) (u:=.slice none 0 0) (x:=0) (y:=2) (t2:=tD) (t3:=3) (t4:=25) rfl rfl rfl rfl ?_ ?_ ?_,_,rfl,((((Below.refl _ w).alloc (Nat.le_refl _) _).alloc (by simp) _).alloc (by simp;omega) _),zop (acc:=[]) ⟨_,rfl,.inl ⟨rfl,none,0,rfl,Nat.zero_le _⟩⟩⟩
  ·exact zaT _ (zaT _ (zbV _ rfl))
  ·exact zaT _ (zbV _ (by simp))
  ·exact zbV _ (by simp)
 rename_i hshort;have hlen:s.length≤1048576:=by omega
 refine zco (zcv (m:=1) ?_)
 gi_wp2
 refine zco (zcv (m:=1) ?_)
 gi_wp2
 refine zco (zco (zcv (m:=1) ?_))
 gi_wp2
 refine⟨trivial,(callsIn_wide.2 (ziP _ _ _)).mono ?_⟩;rintro e w' ⟨rfl,rfl⟩
 gi_wp2
 refine zjA ?_;obtain⟨w4,hw4⟩:∃ w4:World,w4=(((((w.alloc (.cells #[.slice none 0 0] tD)).alloc (.cells #[.int .i64 0] 3)).alloc (.cells #[.int .i64 0] 25)).alloc (.cells #[.slice none 0 0] tD)).alloc (.cells #[.int .i64 0] 3)):=⟨_,rfl⟩;rw[<-hw4, <-hQ];have hs4:w4.heap.size=w.heap.size+5:=by rw[hw4];simp
 have hb4:Below w.heap.size w w4:=by rw[hw4];exact ((((((Below.refl _ w).alloc (Nat.le_refl _) _).alloc (by simp) _).alloc (by simp;omega) _).alloc (by simp;omega) _).alloc (by simp;omega) _)
 have b0:w4.heap[w.heap.size]? =some (.cells #[.slice none 0 0] tD (0,0)):=by rw[hw4];exact zaT _ (zaT _ (zaT _ (zaT _ (zbV _ rfl))))
 have b1:w4.heap[w.heap.size+1]? =some (.cells #[.int .i64 0] 3 (0,0)):=by rw[hw4];exact zaT _ (zaT _ (zaT _ (zbV _ (by simp))))
 have b2:w4.heap[w.heap.size+2]? =some (.cells #[.int .i64 0] 25 (0,0)):=by rw[hw4];exact zaT _ (zaT _ (zbV _ (by simp)))
 have b3:w4.heap[w.heap.size+3]? =some (.cells #[.slice none 0 0] tD (0,0)):=by rw[hw4];exact zaT _ (zbV _ (by simp))
 have b4:w4.heap[w.heap.size+4]? =some (.cells #[.int .i64 0] 3 (0,0)):=by rw[hw4];exact zbV _ (by simp)
 have hb5:Below w.heap.size w (itW w4 ⟨s.toArray⟩ ⟨#[10]⟩):=hb4.trans ((((Below.refl _ w4).alloc (Nat.le_refl _) _).alloc (by simp) _).alloc (by simp;omega) _ |>.mono hb4.size);have i0:(itW w4 ⟨s.toArray⟩ ⟨#[10]⟩).heap[w.heap.size+5]? =some (.cells #[.string ⟨s.toArray⟩] 9 (0,0)):=zaT _ (zaT _ (zbV _ hs4));have i1:(itW w4 ⟨s.toArray⟩ ⟨#[10]⟩).heap[w.heap.size+6]? =some (.cells #[.string ⟨#[10]⟩] 9 (0,0)):=zaT _ (zbV _ (by simp[hs4]));have i2:(itW w4 ⟨s.toArray⟩ ⟨#[10]⟩).heap[w.heap.size+7]? =some (.cells #[.int .i64 0] 3 (0,0)):=zbV _ (by simp[hs4]);have hs5:(itW w4 ⟨s.toArray⟩ ⟨#[10]⟩).heap.size=w.heap.size+8:=by simp[itW,hs4]
 have hit:itV w4= .func (.func 145) #[] #[.pointer (some ⟨w.heap.size+6,0,none⟩),.pointer (some ⟨w.heap.size+5,0,none⟩),.pointer (some ⟨w.heap.size+7,0,none⟩)]:=by unfold itV;rw[hs4]
 have hl:∀ g (o:Obj),w4.heap[g]? =some o->(itW w4 ⟨s.toArray⟩ ⟨#[10]⟩).heap[g]? =some o:=fun g o hg=>zaT _ (zaT _ (zaT _ hg));exact zoX rfl hO hG hlen hs5 hb5 (hl _ _ b0) (hl _ _ b1) (hl _ _ b2) (hl _ _ b3) (hl _ _ b4) i0 i1 i2 rfl rfl rfl rfl rfl rfl hit rfl
end Go.Proofs.YtpeaigpfddalcaaGreatDoor
namespace Go.Proofs.YtpeaigpfddalcaaGreatDoor
open Go Go.RowKit
set_option linter.unusedSimpArgs false
set_option linter.unusedVariables false
set_option maxRecDepth 10000
section
variable {s:List UInt8}
def Scn (s:List UInt8) (st:GSt):Prop:=∃ o,st.1=zc7 s o
theorem zqo {o:Int} (h:Tok.cls (zc7 s o)=2):Tok.text (zc7 s o)≠ []∧(Tok.text (zc7 s o)).head?.all isLt=true∧(Tok.text (zc7 s o)).all isPt=true:=by
 have h1:Tok.text (zc7 s o)=Tok.text (zbd (s.drop o.toNat)):=rfl;have h2:Tok.cls (zc7 s o)=Tok.cls (zbd (s.drop o.toNat)):=rfl;rw[h2]at h;rw[h1];rw[zk1]at h ⊢;generalize ((zbu isWh (s.drop o.toNat):Nat):Int)=k at *;generalize (s.drop o.toNat).drop (zbu isWh (s.drop o.toNat))=u at *;unfold zep at h ⊢;cases u with
 |nil=>cases h
 |cons c r=>
  simp only[]at h ⊢;split at h
  ·cases h
  ·rename_i h0;split at h
   ·rename_i h1;rw[if_neg h0,if_pos h1];show r.take (zax r)≠ []∧(r.take (zax r)).head?.all isLt=true∧(r.take (zax r)).all isPt=true;obtain⟨_,hw⟩:=h1;cases r with
    |nil=>exact absurd hw (by decide)
    |cons d q=>
     have hd:isLt d=true:=by
      cases hd:isLt d with
      |true=>rfl
      |false=>
       have:zax (d::q)=0:=by show (if isLt d then zbu isPt (d::q) else 0)=0;rw[hd];rfl
       omega
     have hp:=(zqS d hd).1;have hwl:zax (d::q)=((d::q).takeWhile isPt).length:=by show (if isLt d then zbu isPt (d::q) else 0)=_;rw[if_pos hd];rfl
     have ht:(d::q).take (zax (d::q))=(d::q).takeWhile isPt:=by
      rw[hwl];exact (List.prefix_iff_eq_take.1 (List.takeWhile_prefix isPt)).symm
     rw[ht];refine⟨?_,?_,List.all_takeWhile⟩
     ·rw[List.takeWhile_cons,hp];simp
     ·rw[List.takeWhile_cons,hp];exact hd
   ·rename_i h1;split at h
    ·rename_i kk nn tt xx hn;have h:kk=2:=h;rcases (zj6 hn).1 with e|e<;>omega
    ·split at h<;>cases h
theorem zf1 {st st':GSt} {w:List UInt8} (he:zaS s st w= .ok st'):Scn s st':=by
 obtain⟨u,_,h2⟩:=zal he;cases h2;exact⟨_,rfl⟩
theorem zjR {st st':GSt} (he:zbN s st= .ok st'):Scn s st':=by
 obtain⟨u,_,h2⟩:=zal he;cases h2;exact⟨_,rfl⟩
theorem zdT {st st':GSt} {lo hi x:Int} (he:zaL s st lo hi= .ok (x,st')):Scn s st':=by
 obtain⟨_,_,he⟩:=zal he;obtain⟨_,_,he⟩:=zal he;cases he;exact⟨_,rfl⟩
theorem zjQ {st st':GSt} {x:Int} (he:zdy s st= .ok (x,st')):Scn s st'∧(x=0∨x=1):=by
 obtain⟨_,_,he⟩:=zal he;cases he;refine⟨⟨_,rfl⟩,?_⟩;split
 ·exact .inr rfl
 ·exact .inl rfl
theorem zlU {lo hi:Int} {z:Bool} {x:Int} (h1:lo≤x) (h2:x≤hi) (h3:z=true∨x≠0):∀ {l:List Int} {last:Int},Ris lo hi z last l->l.getLast?.getD last < x->Ris lo hi z last (l++ [x])
 | [],_,_,h=>⟨h,h1,h2,h3,trivial⟩
 |y::r,last,h,hx=>by
  obtain⟨a,b,c,d,e⟩:=h;refine⟨a,b,c,d,zlU h1 h2 h3 e ?_⟩;rw[List.getLast?_cons]at hx;exact hx
theorem ziC {lo hi:Int} {z:Bool}:∀ (k:Nat) {st st':GSt} {l l':List Int},GOk s st->zb9 s lo hi z k st l= .ok (l',st')->l.length≤64->Ris lo hi z (lo - 1) l->l'≠ []∧l'.length≤64∧Ris lo hi z (lo - 1) l'
 |0,_,_,_,_,_,he,_,_=>by cases he
 |k+1,st,st',l,l',h,he,hlen,hr=>by
  unfold zb9 at he;split at he
  ·rename_i hc;cases he;refine⟨fun e=>?_,hlen,hr⟩;rw[e]at hc;exact absurd hc (by simp)
  ·obtain⟨_,_,he⟩:=zal he;obtain⟨_,c2,he⟩:=zal he;obtain⟨_,c3,he⟩:=zal he;obtain⟨⟨x,st1⟩,h1,he⟩:=zal he;have c2:=of_decide_eq_true (zaW c2);have c3:=zaW c3;rw[Bool.and_eq_true,decide_eq_true_iff,Bool.or_eq_true,bne_iff_ne]at c3;have h2:=zao h h1;have hx:Tok.n st.1=x:=by
    obtain⟨_,_,he⟩:=zal h1;obtain⟨_,_,he⟩:=zal he;cases he;rfl
   rw[hx]at c3;exact ziC k h2.1.1 he (by rw[List.length_append,List.length_singleton];omega) (zlU h2.2.1 h2.2.2 c3.2 hr c3.1)
theorem zdz {st st':GSt} {lo hi:Int} {z:Bool} {l:List Int} (h:GOk s st) (he:zc4 s st lo hi z= .ok (l,st')):(l≠ []∧l.length≤64∧Ris lo hi z (lo - 1) l)∧Scn s st':=by
 unfold zc4 at he;obtain⟨st1,h1,he⟩:=zal he;obtain⟨⟨l1,st2⟩,h2,he⟩:=zal he;obtain⟨st3,h3,he⟩:=zal he;cases he;exact⟨ziC _ (zbk h h1).1 h2 (Nat.zero_le _) trivial,zf1 h3⟩
end
theorem zrS {lo hi:Int} {z:Bool}:∀ {l:List Int} {last:Int},Ris lo hi z last l->∀ i,i < l.length->(lo≤l.getD i 0∧l.getD i 0≤hi)∧(0 < i->l.getD (i - 1) 0 < l.getD i 0)∧(z=true∨l.getD i 0≠0)
 | [],_,_,i,hi=>absurd hi (Nat.not_lt_zero _)
 |x::r,last,h,i,hi=>by
  obtain⟨a,b,c,d,e⟩:=h;cases i with
  |zero=>exact⟨⟨b,c⟩,fun h=>absurd h (Nat.lt_irrefl _),d⟩
  |succ i=>
   obtain⟨h1,h2,h3⟩:=zrS e i (by rw[List.length_cons]at hi;omega);refine⟨h1,fun _=>?_,h3⟩;cases i with
   |zero=>
    cases r with
    |nil=>rw[List.length_cons,List.length_nil]at hi;omega
    |cons y r=>exact e.1
   |succ i=>exact h2 (by omega)
theorem zhr {l:List Int} {lo hi:Int} {z:Bool} (h0:¬ (lo=0∧hi=0)) (hz:z=decide (¬ lo < 0)) (hne:l≠ []) (h:Ris lo hi z (lo - 1) l):zaI l (lo,hi,())=true:=by
 have hz0:zgJ (lo,hi,())=false:=by
  rw[Bool.eq_false_iff];intro e;unfold zgJ at e;rw[Bool.and_eq_true,beq_iff_eq,beq_iff_eq]at e;exact h0 e
 unfold zaI;rw[hz0,cond_false,Bool.and_eq_true,decide_eq_true_iff,List.all_eq_true];refine⟨fun i hi=>?_,by have:=List.length_pos_iff.2 hne;omega⟩;obtain⟨⟨a,b⟩,c,d⟩:=zrS h i (List.mem_range.1 hi);rw[Bool.not_eq_true'];unfold zee;simp only[Bool.or_eq_false_iff,Bool.not_eq_false',zaG,Bool.and_eq_false_iff,decide_eq_false_iff_not,beq_eq_false_iff_ne];refine⟨⟨⟨a,b⟩,?_⟩,?_⟩
 ·by_cases e:0 < i
  ·exact .inr (by have:=c e;omega)
  ·exact .inl e
 ·rcases d with d|d
  ·rw[hz]at d;exact .inr (of_decide_eq_true d)
  ·exact .inl d
theorem and4 {a b c d:Bool} (ha:a=true) (hb:b=true) (hc:c=true) (hd:d=true):((true&&a)&&(b&&(true&&(c&&d))))=true:=by rw[ha,hb,hc,hd];rfl
theorem zcS {n lo hi:Int} (h:lo≤n∧n≤hi):inB n lo hi=true:=zaG.2 h
section
variable {s:List UInt8}
theorem zrf {st st':GSt} {n:Nd} (h:GOk s st):∀ (w:LeafW),zde s st w= .ok (n,st')->TrOk (.leaf n)∧Scn s st'
 | .days,he=>by
  obtain⟨⟨x,a⟩,h1,he⟩:=zal he;obtain⟨⟨y,b⟩,h2,he⟩:=zal he;cases he;have k1:=zao h h1;have k2:=zao k1.1.1 h2;refine⟨⟨?_,by show ¬ ((8:Int)≤1∧_);omega,rfl,fun _=>rfl⟩,zdT h2⟩;exact and4 (a:=true) (b:=true) (c:=true) rfl rfl rfl (show (bif inB x 1 1099511627776 then inB y 0 1099511627776 else false)=true by rw[zcS (hi:=1099511627776) k1.2,zcS (hi:=1099511627776) k2.2];rfl)
 | .years,he=>by
  obtain⟨⟨c,a⟩,h0,he⟩:=zal he;obtain⟨⟨x,b⟩,h1,he⟩:=zal he;obtain⟨⟨y,d⟩,h2,he⟩:=zal he;cases he;have k0:=zao h h0;have k1:=zao k0.1.1 h1;have k2:=zao k1.1.1 h2;refine⟨⟨?_,by show ¬ ((8:Int)≤2∧_);omega,rfl,fun _=>rfl⟩,zdT h2⟩;exact and4 (a:=true) (b:=inB c 0 2) (c:=true) rfl (zcS k0.2) rfl (show (bif inB x 1 400 then inB y 0 (x - 1) else false)=true by rw[zcS k1.2,zcS k2.2];rfl)
 | .months,he=>by
  obtain⟨⟨c,a⟩,h0,he⟩:=zal he;obtain⟨⟨l,b⟩,h1,he⟩:=zal he;cases he;have k0:=zao h h0;obtain⟨⟨a1,a2,a3⟩,sc⟩:=zdz k0.1.1 h1;refine⟨⟨?_,by show ¬ ((8:Int)≤3∧_);omega,rfl,fun _=>rfl⟩,sc⟩;exact and4 (a:=decide (l.length≤64)) (b:=inB c 0 2) (c:=zaI l (1,16,())) (d:=true) (decide_eq_true a2) (zcS k0.2) (zhr (by decide) (by decide) a1 a3) rfl
 | .monthdays,he=>by
  obtain⟨⟨c,a⟩,h0,he⟩:=zal he;obtain⟨⟨l,b⟩,h1,he⟩:=zal he;cases he;have k0:=zao h h0;obtain⟨⟨a1,a2,a3⟩,sc⟩:=zdz k0.1.1 h1;refine⟨⟨?_,by show ¬ ((8:Int)≤4∧_);omega,rfl,fun _=>rfl⟩,sc⟩;exact and4 (a:=decide (l.length≤64)) (b:=inB c 0 2) (c:=zaI l (-40,40,())) (d:=true) (decide_eq_true a2) (zcS k0.2) (zhr (by decide) (by decide) a1 a3) rfl
 | .weekdays,he=>by
  obtain⟨⟨l,b⟩,h1,he⟩:=zal he;cases he;obtain⟨⟨a1,a2,a3⟩,sc⟩:=zdz h h1;refine⟨⟨?_,by show ¬ ((8:Int)≤5∧_);omega,rfl,fun _=>rfl⟩,sc⟩;exact and4 (a:=decide (l.length≤64)) (b:=true) (c:=zaI l (0,6,())) (d:=true) (decide_eq_true a2) rfl (zhr (by decide) (by decide) a1 a3) rfl
 | .weeks,he=>by
  obtain⟨⟨c,a⟩,h0,he⟩:=zal he;obtain⟨⟨l,b⟩,h1,he⟩:=zal he;cases he;have k0:=zao h h0;obtain⟨⟨a1,a2,a3⟩,sc⟩:=zdz k0.1.1 h1;refine⟨⟨?_,by show ¬ ((8:Int)≤6∧_);omega,rfl,fun _=>rfl⟩,sc⟩;exact and4 (a:=decide (l.length≤64)) (b:=inB c 0 2) (c:=zaI l (1,54,())) (d:=true) (decide_eq_true a2) (zcS k0.2) (zhr (by decide) (by decide) a1 a3) rfl
 | .nth,he=>by
  obtain⟨⟨c,a⟩,h0,he⟩:=zal he;obtain⟨_,hz,he⟩:=zal he;obtain⟨⟨x,b⟩,h1,he⟩:=zal he;obtain⟨⟨y,d⟩,h2,he⟩:=zal he;obtain⟨⟨u,e⟩,h3,he⟩:=zal he;cases he;have k0:=zao h h0;have k1:=zao k0.1.1 h1;have k2:=zao k1.1.1 h2;obtain⟨sc,hu⟩:=zjQ h3;have hz:=zaW hz;obtain⟨_,c1,hm⟩:=zal h1;obtain⟨_,_,hm⟩:=zal hm;have hx:Tok.n a.1=x:=by cases hm;rfl
  have c1:=beq_iff_eq.1 (zaW c1);rw[c1,hx]at hz;have hx0:x≠0:=by simpa using hz
  refine⟨⟨?_,by show ¬ ((8:Int)≤7∧_);omega,rfl,fun e=>absurd rfl e⟩,sc⟩;refine and4 (a:=true) (b:=inB c 0 2) (c:=true) rfl (zcS k0.2) rfl (show (bif (bif (bif inB x (-60) 60 then !(x==0) else false) then inB y 0 6 else false) then inB u 0 1 else false)=true from ?_);rw[zcS k1.2,zcS k2.2,zcS (n:=u) (lo:=0) (hi:=1) (by omega),beq_eq_false_iff_ne.2 hx0];rfl
theorem zpp {st st':GSt} {n:Nd} (h:GOk s st):∀ (w:SufW),gSuf s st w= .ok (n,st')->(zbq n=true∧(ndL n=0∧ndR n=0)∧(match w with | .behind=>ndK n=17|_=>11≤ndK n∧ndK n≤16))∧Scn s st'
 | .shift,he=>by
  obtain⟨⟨x,a⟩,h1,he⟩:=zal he;cases he;have k1:=zao h h1;refine⟨⟨?_,⟨rfl,rfl⟩,by show (11:Int)≤11∧(11:Int)≤16;omega⟩,zdT h1⟩;exact and4 (a:=true) (b:=true) (c:=true) rfl rfl rfl (show (bif inB x (-1099511627776) 1099511627776 then true else false)=true by rw[zcS (lo:=-1099511627776) (hi:=1099511627776) k1.2];rfl)
 | .from_,he=>by
  obtain⟨⟨x,a⟩,h1,he⟩:=zal he;cases he;have k1:=zao h h1;refine⟨⟨?_,⟨rfl,rfl⟩,by show (11:Int)≤12∧(12:Int)≤16;omega⟩,zdT h1⟩;exact and4 (a:=true) (b:=true) (c:=true) rfl rfl rfl (show (bif inB x 0 1099511627776 then true else false)=true by rw[zcS (hi:=1099511627776) k1.2];rfl)
 | .until_,he=>by
  obtain⟨⟨x,a⟩,h1,he⟩:=zal he;cases he;have k1:=zao h h1;refine⟨⟨?_,⟨rfl,rfl⟩,by show (11:Int)≤13∧(13:Int)≤16;omega⟩,zdT h1⟩;exact and4 (a:=true) (b:=true) (c:=true) rfl rfl rfl (show (bif inB x 0 1099511627776 then true else false)=true by rw[zcS (hi:=1099511627776) k1.2];rfl)
 | .also,he=>by
  obtain⟨⟨l,b⟩,h1,he⟩:=zal he;cases he;obtain⟨⟨a1,a2,a3⟩,sc⟩:=zdz h h1;refine⟨⟨?_,⟨rfl,rfl⟩,by show (11:Int)≤14∧(14:Int)≤16;omega⟩,sc⟩;exact and4 (a:=decide (l.length≤64)) (b:=true) (c:=zaI l (0,1099511627776,())) (d:=true) (decide_eq_true a2) rfl (zhr (by decide) (by decide) a1 a3) rfl
 | .except_,he=>by
  obtain⟨⟨l,b⟩,h1,he⟩:=zal he;cases he;obtain⟨⟨a1,a2,a3⟩,sc⟩:=zdz h h1;refine⟨⟨?_,⟨rfl,rfl⟩,by show (11:Int)≤15∧(15:Int)≤16;omega⟩,sc⟩;exact and4 (a:=decide (l.length≤64)) (b:=true) (c:=zaI l (0,1099511627776,())) (d:=true) (decide_eq_true a2) rfl (zhr (by decide) (by decide) a1 a3) rfl
 | .pos,he=>by
  obtain⟨⟨c,a⟩,h0,he⟩:=zal he;obtain⟨⟨m,b⟩,h1,he⟩:=zal he;obtain⟨⟨l,d⟩,h2,he⟩:=zal he;cases he;have k0:=zao h h0;obtain⟨_,hm⟩:=zjQ h1;obtain⟨⟨a1,a2,a3⟩,sc⟩:=zdz (zdX k0.1.1 h1).1 h2;refine⟨⟨?_,⟨rfl,rfl⟩,by show (11:Int)≤16∧(16:Int)≤16;omega⟩,sc⟩;exact and4 (a:=decide (l.length≤64)) (b:=inB c 0 2) (c:=zaI l (-400,400,())) (d:=inB m 0 1) (decide_eq_true a2) (zcS k0.2) (zhr (by decide) (by decide) a1 a3) (zcS (by omega))
 | .behind,he=>by
  obtain⟨⟨x,a⟩,h1,he⟩:=zal he;obtain⟨b,h2,he⟩:=zal he;cases he;have k1:=zao h h1;refine⟨⟨?_,⟨rfl,rfl⟩,rfl⟩,zf1 h2⟩;exact and4 (a:=true) (b:=true) (c:=true) rfl rfl rfl (show (bif inB x 1 400 then true else false)=true by rw[zcS k1.2];rfl)
def mdOk:Md->Prop
 | .binL i t=>i≤2∧TrOk t
 | .chainL t=>TrOk t
 |_=>True
theorem opK_ok {i:Nat} (h:i≤2):zbq (opK i,zNd.2)=true∧(8≤opK i∧opK i≤10):=by
 rcases (show i=0∨i=1∨i=2 by omega) with rfl|rfl|rfl
 ·exact⟨by decide+kernel,by decide⟩
 ·exact⟨by decide+kernel,by decide⟩
 ·exact⟨by decide+kernel,by decide⟩
theorem zeg:∀ (k:Nat) (md:Md) (st st':GSt) (t:Tr),GOk s st->Scn s st->mdOk md->prs s k md st= .ok (t,st')->TrOk t∧Scn s st'
 |0,_,_,_,_,_,_,_,he=>by cases he
 |k+1,.bin i,st,st',t,h,hs,hm,he=>by
  unfold prs at he;rw[za4]at he;split at he
  ·exact zeg k .chain _ _ _ h hs (by exact trivial) he
  ·rename_i hi;obtain⟨⟨u,a⟩,h1,he⟩:=zal he;obtain⟨t1,s1⟩:=zeg k _ _ _ _ h hs (by exact trivial) h1;have k1:=zdO h (zbs k _ _ _ _ h h1);exact zeg k _ _ _ _ k1 s1 (by exact⟨by omega,t1⟩) he
 |k+1,.binL i t0,st,st',t,h,hs,hm,he=>by
  unfold prs at he;rw[za4]at he;split at he
  ·rename_i hi;obtain⟨a,h1,he⟩:=zal he;obtain⟨⟨u,b⟩,h2,he⟩:=zal he;have k1:=(zaQ h (zcO hi) h1).1;obtain⟨t1,s1⟩:=zeg k _ _ _ _ k1 (zjR h1) (by exact trivial) h2;have k2:=zdO k1 (zbs k _ _ _ _ k1 h2);obtain⟨f1,f2⟩:=opK_ok hm.1;exact zeg k _ _ _ _ k2 s1 (by exact⟨hm.1,f1,.inl f2,⟨rfl,rfl⟩,hm.2,t1⟩) he
  ·cases he;exact⟨hm.2,hs⟩
 |k+1,.chain,st,st',t,h,hs,hm,he=>by
  unfold prs at he;rw[za4]at he;obtain⟨⟨u,a⟩,h1,he⟩:=zal he;obtain⟨t1,s1⟩:=zeg k _ _ _ _ h hs (by exact trivial) h1;have k1:=zdO h (zbs k _ _ _ _ h h1);exact zeg k _ _ _ _ k1 s1 (by exact t1) he
 |k+1,.chainL t0,st,st',t,h,hs,hm,he=>by
  unfold prs at he;rw[za4]at he;split at he
  ·rename_i hc;split at he
   ·cases he;exact⟨hm,hs⟩
   ·obtain⟨a,h1,he⟩:=zal he;obtain⟨⟨n,b⟩,h2,he⟩:=zal he;obtain⟨⟨u,c⟩,h3,he⟩:=zal he;have k1:=(zaQ h (by rw[hc];decide) h1).1;have k2:=(zdd k1 _ h2).1;obtain⟨⟨f1,f2,f3⟩,s2⟩:=zpp k1 _ h2;obtain⟨t3,s3⟩:=zeg k _ _ _ _ k2 s2 (by exact trivial) h3;have k3:=zdO k2 (zbs k _ _ _ _ k2 h3);exact zeg k _ _ _ _ k3 s3 (by exact⟨f1,.inr f3,f2,hm,t3⟩) he
   ·rename_i w hb hw;obtain⟨a,h1,he⟩:=zal he;obtain⟨⟨n,b⟩,h2,he⟩:=zal he;have k1:=(zaQ h (by rw[hc];decide) h1).1;have k2:=(zdd k1 _ h2).1;obtain⟨⟨f1,f2,f3⟩,s2⟩:=zpp k1 _ h2;have f4:11≤ndK n∧ndK n≤16:=by
     cases w with
     |behind=>exact absurd rfl hb
     |shift=>exact f3
     |from_=>exact f3
     |until_=>exact f3
     |also=>exact f3
     |except_=>exact f3
     |pos=>exact f3
    exact zeg k _ _ _ _ k2 s2 (by exact⟨f1,f4,f2,hm⟩) he
  ·cases he;exact⟨hm,hs⟩
 |k+1,.prim,st,st',t,h,hs,hm,he=>by
  unfold prs at he;rw[za4]at he;split at he
  ·rename_i hi;obtain⟨⟨u,a⟩,h1,he⟩:=zal he;obtain⟨b,h2,he⟩:=zal he;cases he;have k0:=zca h (zcO hi);exact⟨(zeg k _ _ _ _ k0.1 ⟨_,rfl⟩ (by exact trivial) h1).1,zf1 h2⟩
  ·split at he
   ·rename_i hc;obtain⟨_,h0,he⟩:=zal he;obtain⟨a,h1,he⟩:=zal he;cases he;refine⟨⟨?_,by show ¬ ((8:Int)≤18∧(18:Int)≤17);omega,rfl,fun _=>rfl⟩,zjR h1⟩;have hl:=of_decide_eq_true (zaW h0);obtain⟨o,ho⟩:=hs;rw[ho]at hc hl ⊢;obtain⟨r1,r2,r3⟩:=zqo hc;generalize Tok.text (zc7 s o)=w at *;refine and4 (a:=true) (b:=true) (c:=zc9 w) (d:=true) rfl rfl ?_ rfl;unfold zc9;rw[decide_eq_true r1,decide_eq_true hl,r2,r3];rfl
   ·obtain⟨_,h0,he⟩:=zal he;have hc:=zaW h0;rw[beq_iff_eq]at hc;split at he
    ·cases he
    ·obtain⟨a,h1,he⟩:=zal he;obtain⟨⟨n,b⟩,h2,he⟩:=zal he;cases he;have k1:=(zaQ h (by rw[hc];decide) h1).1;exact zrf k1 _ h2
theorem zrd {st st':GSt} {t:Tr} (h:GOk s st) (hs:Scn s st) (he:zeb s st= .ok (t,st')):TrOk t∧st'.2=st.2+(t.size:Int)∧GOk s st':=by
 unfold zeb at he;obtain⟨⟨u,a⟩,h1,he⟩:=zal he;obtain⟨_,h2,he⟩:=zal he;cases he;exact⟨(zeg _ _ _ _ _ h hs (by exact trivial) h1).1,zhm h1,(zds h h1).1⟩
theorem zqH {t:Tr} (he:zc3 s= .ok t):TrOk t∧t.size≤64:=by
 unfold zc3 at he;cases hr:zeb s (zgN s) with
 |error e=>rw[hr]at he;cases he
 |ok p=>
  rw[hr]at he;cases he;obtain⟨h1,h2,h3⟩:=zrd (st':=p.2) (t:=p.1) zec ⟨_,rfl⟩ hr;refine⟨h1,?_⟩;have:=h3.2.2;have h2:p.2.2=0+(p.1.size:Int):=h2;show p.1.size≤64;omega
end
set_option maxRecDepth 100000
def tx_sA:List UInt8:=[100,97,121,115,32,55,32,51,32,111,114,32,40,64,102,114,101,101,32,115,104,105,102,116,32,45,49,41]
def tx_sB:List UInt8:=[35,32,104,111,108,105,100,97,121,115,10,102,114,101,101,32,61,32,119,101,101,107,100,97,121,115,32,40,53,32,54,41,10,10,111,114,32,61,32,64,102,114,101,101,32,115,104,105,102,116,32,49]
def tx_sC:List UInt8:=[102,114,101,101,32,119,101,101,107,100,97,121,115,32,40,53,41]
def zjG:List UInt8:=[100,97,121,115,32,55,32,51,32,111,114,32,64,102,114,101,101,32,115,104,105,102,116,32,45,49]
def zqe:List UInt8:=[102,114,101,101,32,61,32,119,101,101,107,100,97,121,115,32,40,53,32,54,41,10,111,114,32,61,32,64,102,114,101,101,32,115,104,105,102,116,32,49,10]
def zsu:List UInt8:=[100,97,121,115,32,48,32,51]
def zst:List UInt8:=[109,111,110,116,104,115,32,48,32,40,50,32,50,41]
def zss:List UInt8:=[100,97,121,115,32,48,55,32,51]
def zsr:List UInt8:=[119,101,101,107,100,97,121,115,32,40,41]
def zsq:List UInt8:=[100,97,121,115,32,55]
def zsp:List UInt8:=[]
def zfm:List UInt8:=[102,114,101,101]
def znK:List UInt8:=[111,114]
def sanR:List Nd:=[(1,0,0,0,7,3,[],[],()),(18,0,0,0,0,0,[],zfm,()),(11,0,1,0,-1,0,[],[],()),(9,0,0,2,0,0,[],[],())]
def sanL:List De:=[(zfm,[(5,0,0,0,0,0,[5,6],[],())],()),(znK,[(18,0,0,0,0,0,[],zfm,()),(11,0,0,0,1,0,[],[],())],())]
theorem sanA:zbi tx_sA=(sanR,0,0):=by kernel_rfl
theorem san1:zbi zsu=([],5,1):=by kernel_rfl
theorem san2:zbi zst=([],12,1):=by kernel_rfl
theorem san3:zbi zss=([],5,3):=by kernel_rfl
theorem san4:zbi zsr=([],10,3):=by kernel_rfl
theorem san5:zbi zsq=([],6,3):=by kernel_rfl
theorem san6:zbi zsp=([],0,3):=by kernel_rfl
theorem sanF:fmtS sanR=(zjG,0):=by kernel_rfl
theorem sanN:fmtS []=([],1):=by kernel_rfl
theorem sanG:zbp sanL=(zqe,0):=by kernel_rfl
def zsW (y:List UInt8):Bool:=(!decide (y.take 1=[35]))&&decide (zbu isWh y < y.length)
theorem zqU (y:List UInt8):zhs y=zsW y:=by
 unfold zhs zsW zkj;rw[zdp];have:(decide (List.length ([35]:List UInt8)≤y.length)&&decide (y.take (List.length ([35]:List UInt8))=[35]))=decide (y.take 1=[35]):=by
  cases y with
  |nil=>rfl
  |cons c q=>rw[decide_eq_true (by simp:List.length ([35]:List UInt8)≤(c::q).length),Bool.true_and];rfl
 rw[this]
def zqk (y:List UInt8) (fr:Nat) (acc:List De):Except (Int×Int) (List De):=
 if zsW y=true then
  if 4000 < y.length then .error ((fr:Int),2)
  else match zgK y ((acc.length:Nat):Int) with
   | .ok d=>.ok (acc++ [d])
   | .error e=>if e.2=0 then .ok acc else .error ((fr:Int)+e.1,e.2)
 else .ok acc
theorem zqj (y:List UInt8) (fr:Nat) (acc:List De):zh1 y fr acc=zqk y fr acc:=by
 unfold zh1 zqk;rw[zqU]
 all_goals rfl
def libC:List (List UInt8)->Nat->List De->List De×Int×Int
 | [],_,acc=>(acc,0,0)
 |y::r,fr,acc=>match zqk y fr acc with
  | .error e=>([],e.1,e.2)
  | .ok acc'=>libC r (fr+y.length+1) acc'
theorem zoZ:∀ (l:List (List UInt8)) (fr:Nat) (acc:List De),libK l fr acc=libC l fr acc
 | [],_,_=>rfl
 |y::r,fr,acc=>by
  unfold libK libC;rw[zqj];cases zqk y fr acc with
  |error e=>rfl
  |ok a=>exact zoZ r _ a
def zj3 (s:List UInt8):List De×Int×Int:=if 1048576 < s.length then ([],0,2) else libC (segs s) 0 []
theorem zgv (s:List UInt8):za2 s=zj3 s:=by
 unfold za2 zj3;rw[zoZ]
theorem sanB:za2 tx_sB=(sanL,0,0):=(zgv _).trans (by kernel_rfl)
theorem sanC:za2 tx_sC=([],5,3):=(zgv _).trans (by kernel_rfl)
def zcF (s:List UInt8) (at' e:Int):Bool:=(((((zbi s).1.length:Nat):Int)==0)&&((zbi s).2.1==at'))&&((zbi s).2.2==e)
def zr6:Ctr:={ args:=[.str,i64,i64],pre:=fun _=>[],res:=.bool,own:=none,out:=fun x=>zcF x.1 x.2.1 x.2.2.1 }
def kPa:Kn:={ gmK with C:=[(16,zmz)] }
theorem zl9:KnOk Tryz.prog gmH kPa:=zai.with (.cons zi1 .nil)
theorem zqd:CtrOk Tryz.prog gmH 42 zr6:=by
 refine zan (K:=kPa) zl9 Tryz.func42 rfl rfl Tryz.call42 rfl (by decide) (by intro h;cases h) ?_;rintro w0 X hX ⟨(s:List UInt8),(at':Int),(e:Int),_⟩ hp;change AWP _ _ _ _ _ ⟨[(0,⟨.str,s⟩),(1,⟨i64,at'⟩),(2,⟨i64,e⟩)],[],0⟩ _;(repeat(first|apply zae|apply zac|apply zab|apply zad));refine zaa hX zl9 rfl ?_ ?_
 ·trivial
 (repeat(first|apply zae|apply zac|apply zab|apply zad));refine zaa hX zl9 rfl ?_ ?_
 ·trivial
 (repeat(first|apply zae|apply zac|apply zab|apply zad));refine zaa hX zl9 rfl ?_ ?_
 ·repeat'(first|exact trivial|assumption|(refine⟨?_,?_⟩)|(intro _)|exact Nat.le_of_ble_eq_true rfl|exact Int.natCast_nonneg _|(simp_all [allP];done))
 refine AWP.ret ⟨.inr rfl,zat rfl trivial rfl rfl ?_⟩;show (bif (bif ((((zbi s).1.length:Nat):Int)==0) then (zbi s).2.1==at' else false) then (zbi s).2.2==e else false)=zcF s at' e;rw[zdf,zdf];rfl
def zpN:Ctr:={ args:=[],pre:=fun _=>[],res:=.bool,own:=none,out:=fun _=>true }
noncomputable def kSan:Kn:={ gmK with C:=[(16,zmz),(24,cFmt),(19,zpO),(26,cFmtL),(18,ztI),(42,zr6)] }
theorem zda:KnOk Tryz.prog gmH kSan:=zai.with (.cons zi1 <| .cons zhH <| .cons zk8 <| .cons zpq <| .cons zod <| .cons zqd .nil)
theorem vStr {x y:List UInt8} (h:x=y):(⟨.str,x⟩:V)=⟨.str,y⟩:=by rw[h]
theorem vRul {x y:List Nd} (h:x=y):(⟨.slice nd,x⟩:V)=⟨.slice nd,y⟩:=by rw[h]
theorem vDes {x y:List De} (h:x=y):(⟨.slice de,x⟩:V)=⟨.slice de,y⟩:=by rw[h]
set_option maxHeartbeats 2000000 in
theorem zoc:CtrOk Tryz.prog gmH 15 zpN:=by
 refine zan (K:=kSan) zda Tryz.func15 rfl rfl Tryz.call15 rfl (by decide) (by intro h;cases h) ?_;rintro w0 X hX _ hp;change AWP _ _ _ _ _ ⟨[],[],0⟩ _;(repeat(first|apply zae|apply zac|apply zab|apply zad));refine zaa hX zda rfl ?_ ?_
 ·trivial
 (repeat(first|apply zae|apply zac|apply zab|apply zad));refine zaa hX zda rfl ?_ ?_
 ·trivial
 refine zaq (σ':=⟨[(1,⟨.slice nd,sanR⟩),(3,⟨i64,(0:Int)⟩)],[],0⟩) ⟨⟨vRul (congrArg (fun x=>x.1) sanA),vI64 (congrArg (fun x=>x.2.2) sanA),trivial⟩,trivial,rfl,rfl⟩ ?_;(repeat(first|apply zae|apply zac|apply zab|apply zad));refine zaa hX zda rfl ?_ ?_
 ·trivial
 refine AWP.frz hX 4 ?_;refine zaq (σ':=⟨[(1,⟨.slice nd,sanR⟩),(3,⟨i64,(0:Int)⟩),(4,⟨.slice nd,sanR⟩)],[],1⟩) ⟨⟨rfl,rfl,rfl,trivial⟩,trivial,rfl,rfl⟩ ?_;(repeat(first|apply zae|apply zac|apply zab|apply zad));refine zaa hX zda rfl ?_ ?_
 ·trivial
 refine zaq (σ':=⟨[(1,⟨.slice nd,sanR⟩),(3,⟨i64,(0:Int)⟩),(4,⟨.slice nd,sanR⟩),(5,⟨.str,zjG⟩),(6,⟨i64,(0:Int)⟩)],[],1⟩) ⟨⟨rfl,rfl,rfl,vStr (congrArg (fun x=>x.1) sanF),vI64 (congrArg (fun x=>x.2) sanF),trivial⟩,trivial,rfl,rfl⟩ ?_;(repeat(first|apply zae|apply zac|apply zab|apply zad));refine zaa hX zda rfl ?_ ?_
 ·trivial
 refine zaq (σ':=⟨[(1,⟨.slice nd,sanR⟩),(3,⟨i64,(0:Int)⟩),(4,⟨.slice nd,sanR⟩),(5,⟨.str,zjG⟩),(6,⟨i64,(0:Int)⟩),(7,⟨.slice de,sanL⟩),(9,⟨i64,(0:Int)⟩)],[],1⟩) ⟨⟨rfl,rfl,rfl,rfl,rfl,vDes (congrArg (fun x=>x.1) sanB),vI64 (congrArg (fun x=>x.2.2) sanB),trivial⟩,trivial,rfl,rfl⟩ ?_;(repeat(first|apply zae|apply zac|apply zab|apply zad));refine zaa hX zda rfl ?_ ?_
 ·trivial
 refine zaq (σ':=⟨[(1,⟨.slice nd,sanR⟩),(3,⟨i64,(0:Int)⟩),(4,⟨.slice nd,sanR⟩),(5,⟨.str,zjG⟩),(6,⟨i64,(0:Int)⟩),(7,⟨.slice de,sanL⟩),(9,⟨i64,(0:Int)⟩),(11,⟨i64,(5:Int)⟩),(12,⟨i64,(3:Int)⟩)],[],1⟩) ⟨⟨rfl,rfl,rfl,rfl,rfl,rfl,rfl,vI64 (congrArg (fun x=>x.2.1) sanC),vI64 (congrArg (fun x=>x.2.2) sanC),trivial⟩,trivial,rfl,rfl⟩ ?_;(repeat(first|apply zae|apply zac|apply zab|apply zad));refine zaa hX zda rfl ?_ ?_
 ·trivial
 refine zaq (σ':=⟨[(1,⟨.slice nd,sanR⟩),(3,⟨i64,(0:Int)⟩),(4,⟨.slice nd,sanR⟩),(5,⟨.str,zjG⟩),(6,⟨i64,(0:Int)⟩),(7,⟨.slice de,sanL⟩),(9,⟨i64,(0:Int)⟩),(11,⟨i64,(5:Int)⟩),(12,⟨i64,(3:Int)⟩),(14,⟨i64,(1:Int)⟩)],[],1⟩) ⟨⟨rfl,rfl,rfl,rfl,rfl,rfl,rfl,rfl,rfl,vI64 (congrArg (fun x=>x.2) sanN),trivial⟩,trivial,rfl,rfl⟩ ?_;(repeat(first|apply zae|apply zac|apply zab|apply zad));refine zaa hX zda rfl ?_ ?_
 ·repeat'(first|exact trivial|assumption|(refine⟨?_,?_⟩)|(intro _)|exact Nat.le_of_ble_eq_true rfl|exact Int.natCast_nonneg _|(simp_all [allP];done))
 refine zaf rfl (fun hb=>?_) (fun _=>?_)
 ·have hb:false=true:=hb;cases hb
 apply zac;(repeat(first|apply zae|apply zac|apply zab|apply zad));refine zaa hX zda rfl ?_ ?_
 ·trivial
 refine zaq (σ':=⟨[(1,⟨.slice nd,sanR⟩),(4,⟨.slice nd,sanR⟩),(5,⟨.str,zjG⟩),(7,⟨.slice de,sanL⟩),(15,⟨.str,zqe⟩),(16,⟨i64,(0:Int)⟩)],[],1⟩) ⟨⟨rfl,rfl,rfl,rfl,vStr (congrArg (fun x=>x.1) sanG),vI64 (congrArg (fun x=>x.2) sanG),trivial⟩,trivial,rfl,rfl⟩ ?_;have hs:zk2 sanR sanR=true:=zft.2 rfl;have b0:(0:Int) < ((sanL.length:Nat):Int):=by decide
 have b1:(1:Int) < ((sanL.length:Nat):Int):=by decide
 (repeat(first|apply zae|apply zac|apply zab|apply zad));refine zaa hX zda rfl ?_ ?_
 ·repeat'(first|exact trivial|assumption|exact b0|exact b1|(refine⟨?_,?_⟩)|(intro _)|decide)
 refine zaq (σ':=⟨[(17,⟨.bool,true⟩)],[],1⟩) ⟨⟨zc6 ?_,trivial⟩,trivial,rfl,rfl⟩ ?_
 ·show (bif (bif (bif (bif (bif zk2 sanR sanR then eqb .str zjG zjG else false) then eqb .str zfm zfm else false) then eqb .str znK znK else false) then ((0:Int)==0) else false) then eqb .str zqe zqe else false)=true;rw[hs,zeO,zeO,zeO,zeO];rfl
 have w1:zcF zsu 5 1=true:=by unfold zcF;rw[san1];rfl
 have w2:zcF zst 12 1=true:=by unfold zcF;rw[san2];rfl
 have w3:zcF zss 5 3=true:=by unfold zcF;rw[san3];rfl
 have w4:zcF zsr 10 3=true:=by unfold zcF;rw[san4];rfl
 have w5:zcF zsq 6 3=true:=by unfold zcF;rw[san5];rfl
 have w6:zcF zsp 0 3=true:=by unfold zcF;rw[san6];rfl
 (repeat(first|apply zae|apply zac|apply zab|apply zad));refine zaa hX zda rfl ?_ ?_
 ·repeat'(first|exact trivial|assumption|(refine⟨?_,?_⟩)|(intro _))
 refine AWP.ret ⟨.inr rfl,zat rfl trivial rfl rfl ?_⟩;show (bif (bif (bif (bif (bif (bif true then zcF zsu 5 1 else false) then zcF zst 12 1 else false) then zcF zss 5 3 else false) then zcF zsr 10 3 else false) then zcF zsq 6 3 else false) then zcF zsp 0 3 else false)=true;rw[w1,w2,w3,w4,w5,w6];rfl
set_option maxRecDepth 10000
def Cd {α:Type} (m:Except (Int×Int) α):Prop:=∀ er,m= .error er->er.2≠0
theorem zaD {α β:Type} {m:Except (Int×Int) α} {f:α->Except (Int×Int) β} (h1:Cd m) (h2:∀ x,m= .ok x->Cd (f x)):Cd (m >>= f):=by
 intro er he;cases hm:m with
 |error e=>
  rw[hm]at he;have he:(.error e:Except (Int×Int) β)= .error er:=he;cases he;exact h1 _ hm
 |ok x=>
  rw[hm]at he;exact h2 x hm er he
theorem zdD {α:Type} {x:α}:Cd (.ok x:Except (Int×Int) α):=fun _ h=>by cases h
theorem zr5 {α:Type} {a e:Int} (h:e≠0):Cd (.error (a,e):Except (Int×Int) α):=fun er he=>by cases he;exact h
theorem zcx {st:GSt} {b:Bool} {e:Int} (h:e≠0):Cd (zaE st b e):=by
 unfold zaE;split
 ·exact zdD
 ·exact zr5 h
section
variable {s:List UInt8}
theorem zfQ {st:GSt} {w:List UInt8}:Cd (zaS s st w):=zaD (zcx (by decide)) fun _ _=>zdD
theorem zfR {st:GSt}:Cd (zbN s st):=zaD (zcx (by decide)) fun _ _=>zdD
theorem zbP {st:GSt} {lo hi:Int}:Cd (zaL s st lo hi):=zaD (zcx (by decide)) fun _ _=>zaD (zcx (by decide)) fun _ _=>zdD
theorem zmy {lo hi:Int} {z:Bool}:∀ (k:Nat) {st:GSt} {l:List Int},l.length≤64->65≤k+l.length->Cd (zb9 s lo hi z k st l)
 |0,_,_,h1,h2=>by omega
 |k+1,st,l,h1,h2=>by
  unfold zb9;split
  ·exact zdD
  ·refine zaD (zcx (by decide)) fun _ _=>zaD (zcx (by decide)) fun _ hc=>zaD (zcx (by decide)) fun _ _=>zaD zbP fun p hp=>?_;have hc:=of_decide_eq_true (zaW hc);exact zmy k (by rw[List.length_append,List.length_singleton];omega) (by rw[List.length_append,List.length_singleton];omega)
theorem zjn {st:GSt} {lo hi:Int} {z:Bool}:Cd (zc4 s st lo hi z):=
 zaD zfQ fun _ _=>zaD (zmy 66 (Nat.zero_le _) (by decide)) fun _ _=>zaD zfQ fun _ _=>zdD
theorem zmx {st:GSt}:Cd (zdy s st):=zaD (zcx (by decide)) fun _ _=>zdD
theorem ztD {st:GSt}:∀ w:LeafW,Cd (zde s st w)
 | .days=>zaD zbP fun _ _=>zaD zbP fun _ _=>zdD
 | .years=>zaD zbP fun _ _=>zaD zbP fun _ _=>zaD zbP fun _ _=>zdD
 | .months| .monthdays| .weeks=>zaD zbP fun _ _=>zaD zjn fun _ _=>zdD
 | .weekdays=>zaD zjn fun _ _=>zdD
 | .nth=>zaD zbP fun _ _=>zaD (zcx (by decide)) fun _ _=>zaD zbP fun _ _=>zaD zbP fun _ _=>zaD zmx fun _ _=>zdD
theorem zr4 {st:GSt}:∀ w:SufW,Cd (gSuf s st w)
 | .shift| .from_| .until_=>zaD zbP fun _ _=>zdD
 | .also| .except_=>zaD zjn fun _ _=>zdD
 | .pos=>zaD zbP fun _ _=>zaD zmx fun _ _=>zaD zjn fun _ _=>zdD
 | .behind=>zaD zbP fun _ _=>zaD zfQ fun _ _=>zdD
theorem zej:∀ (k:Nat) (md:Md) (st:GSt),GOk s st->meas s md st < k->Cd (prs s k md st)
 |0,_,_,_,hk=>by omega
 |k+1,.bin i,st,h,hk=>by
  unfold prs;rw[za4];split
  ·exact zej k _ _ h (by simp only[meas,mdF]at *;omega)
  ·refine zaD (zej k _ _ h (by simp only[meas,mdF]at *;omega)) fun p hp=>?_;have k1:Onw s st p.2:=zbs k (.bin (i+1)) _ _ _ h hp;have:=k1.rem h;exact zej k _ _ k1.1 (by simp only[meas,mdF]at *;omega)
 |k+1,.binL i t,st,h,hk=>by
  unfold prs;rw[za4];split
  ·rename_i hi;refine zaD zfR fun a ha=>?_;have k1:=zaQ h (zcO hi) ha;have e1:=k1.rem h;refine zaD (zej k _ _ k1.1 (by simp only[meas,mdF]at *;omega)) fun p hp=>?_;have k2:Onw s a p.2:=zbs k (.bin (i+1)) _ _ _ k1.1 hp;have e2:=k2.rem k1.1;exact zej k _ _ k2.1 (by simp only[meas,mdF]at *;omega)
  ·exact zdD
 |k+1,.chain,st,h,hk=>by
  unfold prs;rw[za4];refine zaD (zej k _ _ h (by simp only[meas,mdF]at *;omega)) fun p hp=>?_;have k1:Onw s st p.2:=zbs k .prim _ _ _ h hp;have:=k1.rem h;exact zej k _ _ k1.1 (by simp only[meas,mdF]at *;omega)
 |k+1,.chainL t,st,h,hk=>by
  unfold prs;rw[za4];split
  ·rename_i hc;split
   ·exact zdD
   ·refine zaD zfR fun a ha=>?_;have k1:=zaQ h (by rw[hc];decide) ha;have e1:=k1.rem h;refine zaD (zr4 _) fun p hp=>?_;have k2:=zdd k1.1 _ hp;have e2:=k2.rem k1.1;refine zaD (zej k _ _ k2.1 (by simp only[meas,mdF]at *;omega)) fun q hq=>?_;have k3:Onw s p.2 q.2:=zbs k .prim _ _ _ k2.1 hq;have e3:=k3.rem k2.1;exact zej k _ _ k3.1 (by simp only[meas,mdF]at *;omega)
   ·refine zaD zfR fun a ha=>?_;have k1:=zaQ h (by rw[hc];decide) ha;have e1:=k1.rem h;refine zaD (zr4 _) fun p hp=>?_;have k2:=zdd k1.1 _ hp;have e2:=k2.rem k1.1;exact zej k _ _ k2.1 (by simp only[meas,mdF]at *;omega)
  ·exact zdD
 |k+1,.prim,st,h,hk=>by
  unfold prs;rw[za4];split
  ·rename_i hi;have k0:=zca h (zcO hi);have e0:=k0.rem h;exact zaD (zej k _ _ k0.1 (by simp only[meas,mdF]at *;omega)) fun _ _=>zaD zfQ fun _ _=>zdD
  ·split
   ·exact zaD (zcx (by decide)) fun _ _=>zaD zfR fun _ _=>zdD
   ·refine zaD (zcx (by decide)) fun _ _=>?_;split
    ·exact zr5 (by decide)
    ·exact zaD zfR fun _ _=>zaD (ztD _) fun _ _=>zdD
theorem ztC {st:GSt} (h:GOk s st):Cd (zeb s st):=zaD (zej _ _ _ h (Nat.lt_succ_self _)) fun _ _=>zaD (zcx (by decide)) fun _ _=>zdD
theorem zm9 {er:Int×Int} (h:zc3 s= .error er):er.2≠0∧0≤er.1∧er.1≤((s.length:Nat):Int):=by
 unfold zc3 at h;cases hr:zeb s (zgN s) with
 |ok p=>rw[hr]at h;cases h
 |error e=>
  rw[hr]at h;cases h;exact⟨ztC zec _ hr,zpA zec _ hr⟩
end
set_option maxRecDepth 100000
theorem zoy {t:Tr} (h:TrOk t):zoz (t.flat 0)=t.flat 0:=by
 unfold zoz;rw[zjJ h]
theorem ziu {s:List UInt8} {t:Tr} (hs:s.length≤4000) (h:zc3 s= .ok t):zbi s=(t.flat 0,0,0):=by
 unfold zbi;rw[if_neg (by omega),h]
theorem zna (s:List UInt8):(∃ t,zc3 s= .ok t∧zbi s=(t.flat 0,0,0)∧TrOk t∧t.size≤64)∨∃ at' e,e≠0∧zbi s=([],at',e):=by
 by_cases hl:4000 < s.length
 ·exact .inr ⟨0,2,by decide,if_pos hl⟩
 cases hg:zc3 s with
 |ok t=>
  obtain⟨a,b⟩:=zqH hg;exact .inl ⟨t,rfl,ziu (by omega) hg,a,b⟩
 |error er=>
  obtain⟨c0,_⟩:=zm9 hg;refine .inr ⟨er.1,er.2,c0,?_⟩;unfold zbi;rw[if_neg hl,hg]
noncomputable def kLaC:Kn:={ gmK with C:=[(16,zmz),(24,cFmt),(15,zpN),(25,cFmt),(18,ztI),(28,cPost)] }
theorem zcB:KnOk Tryz.prog gmH kLaC:=zai.with (.cons zi1 <| .cons zhH <| .cons zoc <| .cons ztm <| .cons zod <| .cons zsJ .nil)
set_option maxHeartbeats 1000000 in
theorem law4_ok:CtrOk Tryz.prog gmH 6 (lawCtr [.str]):=by
 refine zan (K:=kLaC) zcB Tryz.func6 rfl rfl Tryz.call6 rfl (by decide) (by intro h;cases h) ?_;rintro w0 X hX ⟨(s:List UInt8),_⟩ hp;change AWP _ _ _ _ _ ⟨[(0,⟨.str,s⟩)],[],0⟩ _;(repeat(first|apply zae|apply zac|apply zab|apply zad));refine zaa hX zcB rfl ?_ ?_
 ·trivial
 (repeat(first|apply zae|apply zac|apply zab|apply zad));refine zaa hX zcB rfl ?_ ?_
 ·trivial
 (repeat(first|apply zae|apply zac|apply zab|apply zad));refine zaa hX zcB rfl ?_ ?_
 ·trivial
 rcases zna s with ⟨t,hg,hP,htr,hsz⟩|⟨at',e,he,hP⟩
 ·refine zaq (σ':=⟨[(3,⟨.bool,true⟩),(4,⟨.slice nd,t.flat 0⟩),(6,⟨i64,(0:Int)⟩)],[],0⟩) ⟨⟨rfl,vRul (congrArg (fun x=>x.1) hP),vI64 (congrArg (fun x=>x.2.2) hP),trivial⟩,trivial,rfl,rfl⟩ ?_;have hwf:=znG htr hsz;have hfm:=zri htr hsz;have hpo:=zoy htr;(repeat(first|apply zae|apply zac|apply zab|apply zad));refine zaa hX zcB rfl ?_ ?_
  ·trivial
  refine zaf rfl (fun hb=>absurd (show ((0:Int) != 0)=true from hb) (by decide)) (fun _=>?_);apply zac;(repeat(first|apply zae|apply zac|apply zab|apply zad));refine zaa hX zcB rfl ?_ ?_
  ·trivial
  by_cases hlen:4000 < t.text.length
  ·rw[if_pos hlen]at hfm;refine zaq (σ':=⟨[(3,⟨.bool,true⟩),(4,⟨.slice nd,t.flat 0⟩),(7,⟨.str,[]⟩),(8,⟨i64,(2:Int)⟩)],[],0⟩) ⟨⟨rfl,rfl,vStr (congrArg (fun x=>x.1) hfm),vI64 (congrArg (fun x=>x.2) hfm),trivial⟩,trivial,rfl,rfl⟩ ?_;(repeat(first|apply zae|apply zac|apply zab|apply zad));refine zaa hX zcB rfl ?_ ?_
   ·trivial
   refine zaf rfl (fun _=>?_) (fun hb=>absurd (show ((2:Int) != 0)=false from hb) (by decide));(repeat(first|apply zae|apply zac|apply zab|apply zad));refine zaa hX zcB rfl ?_ ?_
   ·repeat'(first|exact trivial|assumption|(refine⟨?_,?_⟩)|(intro _)|exact Nat.le_of_ble_eq_true rfl|exact Int.natCast_nonneg _|(simp_all [allP];done))
   refine AWP.ret ⟨.inr rfl,zat rfl trivial rfl rfl ?_⟩;rfl
  ·rw[if_neg hlen]at hfm;have hpt:=ziu (by omega) (zis htr hsz);refine zaq (σ':=⟨[(3,⟨.bool,true⟩),(4,⟨.slice nd,t.flat 0⟩),(7,⟨.str,t.text⟩),(8,⟨i64,(0:Int)⟩)],[],0⟩) ⟨⟨rfl,rfl,vStr (congrArg (fun x=>x.1) hfm),vI64 (congrArg (fun x=>x.2) hfm),trivial⟩,trivial,rfl,rfl⟩ ?_;(repeat(first|apply zae|apply zac|apply zab|apply zad));refine zaa hX zcB rfl ?_ ?_
   ·trivial
   refine zaf rfl (fun hb=>absurd (show ((0:Int) != 0)=true from hb) (by decide)) (fun _=>?_);apply zac;(repeat(first|apply zae|apply zac|apply zab|apply zad));refine zaa hX zcB rfl ?_ ?_
   ·trivial
   refine zaq (σ':=⟨[(3,⟨.bool,true⟩),(4,⟨.slice nd,t.flat 0⟩),(7,⟨.str,t.text⟩),(9,⟨.slice nd,t.flat 0⟩),(11,⟨i64,(0:Int)⟩)],[],0⟩) ⟨⟨rfl,rfl,rfl,vRul (congrArg (fun x=>x.1) hpt),vI64 (congrArg (fun x=>x.2.2) hpt),trivial⟩,trivial,rfl,rfl⟩ ?_;(repeat(first|apply zae|apply zac|apply zab|apply zad));refine zaa hX zcB rfl ?_ ?_
   ·trivial
   (repeat(first|apply zae|apply zac|apply zab|apply zad));refine zaa hX zcB rfl ?_ ?_
   ·trivial
   refine zaq (σ':=⟨[(3,⟨.bool,true⟩),(4,⟨.slice nd,t.flat 0⟩),(7,⟨.str,t.text⟩),(9,⟨.slice nd,t.flat 0⟩),(11,⟨i64,(0:Int)⟩),(12,⟨.str,t.text⟩),(13,⟨i64,(0:Int)⟩),(14,⟨.str,t.text⟩),(15,⟨i64,(0:Int)⟩)],[],0⟩) ⟨⟨rfl,rfl,rfl,rfl,rfl,vStr (congrArg (fun x=>x.1) hfm),vI64 (congrArg (fun x=>x.2) hfm),vStr (congrArg (fun x=>x.1) hfm),vI64 (congrArg (fun x=>x.2) hfm),trivial⟩,trivial,rfl,rfl⟩ ?_;(repeat(first|apply zae|apply zac|apply zab|apply zad));refine zaa hX zcB rfl ?_ ?_
   ·repeat'(first|exact trivial|assumption|exact hwf|(refine⟨?_,?_⟩)|(intro _)|exact Nat.le_of_ble_eq_true rfl|exact Int.natCast_nonneg _|(simp_all [allP];done))
   refine AWP.ret ⟨.inr rfl,zat rfl trivial rfl rfl ?_⟩;show (bif (bif (bif (bif (bif (bif ((0:Int)==0) then ((0:Int)==0) else false) then ((0:Int)==0) else false) then eqb .str t.text t.text else false) then zk2 (t.flat 0) (t.flat 0) else false) then zk2 (zoz (t.flat 0)) (t.flat 0) else false) then true else false)=true;rw[hpo,zft.2 rfl,zbv.2 rfl];rfl
 ·refine zaq (σ':=⟨[(3,⟨.bool,true⟩),(4,⟨.slice nd,[]⟩),(6,⟨i64,e⟩)],[],0⟩) ⟨⟨rfl,vRul (congrArg (fun x=>x.1) hP),vI64 (congrArg (fun x=>x.2.2) hP),trivial⟩,trivial,rfl,rfl⟩ ?_;(repeat(first|apply zae|apply zac|apply zab|apply zad));refine zaa hX zcB rfl ?_ ?_
  ·trivial
  refine zaf rfl (fun _=>?_) (fun hb=>?_)
  ·(repeat(first|apply zae|apply zac|apply zab|apply zad));refine zaa hX zcB rfl ?_ ?_
   ·repeat'(first|exact trivial|assumption|(refine⟨?_,?_⟩)|(intro _)|exact Nat.le_of_ble_eq_true rfl|exact Int.natCast_nonneg _|(simp_all [allP];done))
   refine AWP.ret ⟨.inr rfl,zat rfl trivial rfl rfl ?_⟩;rfl
  ·have hb:(e != 0)=false:=hb;rw[bne_iff_ne.2 he]at hb;cases hb
end Go.Proofs.YtpeaigpfddalcaaGreatDoor
