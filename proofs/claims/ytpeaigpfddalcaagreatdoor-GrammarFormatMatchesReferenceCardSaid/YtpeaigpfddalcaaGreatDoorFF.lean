/-
  Texts of this claim, joined: what the statement's proof uses.
-/
import Derived.Test.YtpeaigpfddalcaaGreatDoorFE
set_option linter.unusedSimpArgs false
set_option linter.unusedVariables false
set_option maxRecDepth 100000
open Bool renaming eq_iff_iff -> zL,not_eq_false' -> xe,not_eq_true' -> zr,true_and -> xr
open Go.Proofs.YtpeaigpfddalcaaGreatDoor.AWP renaming go -> za,loop -> yi,ret -> zl
open Int renaming natCast_nonneg -> zd,toNat_natCast -> zz
open List renaming all_eq_true -> zM,getD_eq_getElem?_getD -> zx,getElem?_eq_getElem -> zA,length_append -> zh,length_cons -> zs,mem_take_iff_getElem -> qb,takeWhile_cons -> qt,take_of_length_le -> xG
open Nat renaming le_of_ble_eq_true -> zb,zero_le -> zn
open Go Go.RowKit
namespace Go.Proofs.YtpeaigpfddalcaaGreatDoor
section
set_option maxRecDepth 10000
set_option maxRecDepth 10000
def zgy (D:Nat):RCtr:={ self:=mkr,args:=[i64,i64],inv:=fun _ _=>True,pre:=fun m xs=>[0≤xs.1,xs.1 < (D:Int),mMax xs.1.toNat≤10000,0≤mkU m∧mkU m+20 * ((mMax xs.1.toNat:Nat):Int)≤500000,0≤mkN m∧mkN m≤1000000,0≤mkS m∧mkS m+((mMax xs.1.toNat:Nat):Int)≤500000,0 < xs.2.1∧xs.2.1≤1000000],res:=.slice nd,out:=fun m xs=>(mTr xs.2.1 xs.1.toNat m).1.flat 0,post:=fun m xs=>(mTr xs.2.1 xs.1.toNat m).2 }
theorem zoL:∀ d:Nat,d≤mMax d
 |0=>zn _
 |d+1=>by have:=zoL d;show d+1≤2 * mMax d+1;omega
theorem zqZ {ids:Int} {d:Nat} {m:Mk} (h:zhi d (zat (zaU m) 14)=true):mTr ids d m=(.leaf (zdF (zat (zaU m) 14).2 ids).1,(zdF (zat (zaU m) 14).2 ids).2):=by
 cases d with
 |zero=>rfl
 |succ d=>rw[mTr];exact if_pos h
theorem mTr_go {ids:Int} {d:Nat} {m:Mk} (h:¬ zhi (d+1) (zat (zaU m) 14)=true):mTr ids (d+1) m=if two (8+(zat (zaU m) 14).1)=true then
  (.bin (8+(zat (zaU m) 14).1,0,0,0,(mCnt (8+(zat (zaU m) 14).1) (mTr ids d (zat (zaU m) 14).2).2).1,0,[],[],()) (mTr ids d (zat (zaU m) 14).2).1 (mTr ids d (mCnt (8+(zat (zaU m) 14).1) (mTr ids d (zat (zaU m) 14).2).2).2).1,(mTr ids d (mCnt (8+(zat (zaU m) 14).1) (mTr ids d (zat (zaU m) 14).2).2).2).2)
  else (.un (mOne (8+(zat (zaU m) 14).1) ids (mTr ids d (zat (zaU m) 14).2).2).1 (mTr ids d (zat (zaU m) 14).2).1,(mOne (8+(zat (zaU m) 14).1) ids (mTr ids d (zat (zaU m) 14).2).2).2):=by
 rw[mTr];exact if_neg h
def kRu (D:Nat):Kn:={ gmK with C:=[(94,cTwo),(97,cOver),(95,cBoth)],R:=[(92,zrL),(96,zly),(93,zsd),(58,zgy D)] }
theorem kRu_ok {D:Nat} (ih:ze0 Tryz.prog gmG 58 (zgy D)):KnOk Tryz.prog gmG (kRu D):=
 { zaC.with (.cons zrR (.cons zsN (.cons ztT .nil))) with r:=.cons zkX (fun _ _=>trivial) (.cons zjN (fun _ _=>trivial) (.cons zqV (fun _ _=>trivial) (.cons ih (fun _ _=>trivial) .nil))) }
theorem ztS {x y:Mk} (h:x=y):some (OObj.box mkr x)=some (OObj.box mkr y):=by rw[h]
abbrev sRu (m:Mk) (d:Nat) (ids k:Int) (n:Nd) (a:List Nd):AS:=⟨[(0,⟨.optr mkr,⟨0,mkr,.here⟩⟩),(1,⟨i64,(d:Int)⟩),(2,⟨i64,ids⟩),(8,⟨.optr nd,⟨1,nd,.here⟩⟩),(9,⟨.slice nd,a⟩)],[(0,some (.box mkr m)),(1,some (.box nd n))],2⟩
theorem zoi (D:Nat) (ih:ze0 Tryz.prog gmG 58 (zgy D)):ze0 Tryz.prog gmG 58 (zgy (D+1)):=by
 have hK:=kRu_ok ih;refine zd1 (K:=kRu D) hK Tryz.func58 rfl rfl Tryz.call58 rfl (zb rfl) (fun w w' g hg h hk=>trivial) ?_;rintro w0 O g hX hinv (m:Mk) ⟨(d:Int),(ids:Int),_⟩ hp;obtain⟨d,rfl⟩:∃ e:Nat,d=(e:Int):=⟨d.toNat,by have:0≤d:=hp.1;omega⟩;obtain⟨h0,hD,hM,⟨h1,h2⟩,⟨h3,h4⟩,⟨h5,h6⟩,h7,h8⟩:0≤(d:Int)∧(d:Int) < ((D+1:Nat):Int)∧mMax d≤10000∧(0≤mkU m∧mkU m+20 * ((mMax d:Nat):Int)≤500000)∧(0≤mkN m∧mkN m≤1000000)∧(0≤mkS m∧mkS m+((mMax d:Nat):Int)≤500000)∧0 < ids∧ids≤1000000:=hp;have hout:(zgy (D+1)).out m ((d:Int),ids,())=(mTr ids d m).1.flat 0:=rfl;have hpost:(zgy (D+1)).post m ((d:Int),ids,())=(mTr ids d m).2:=rfl;change AWP _ _ _ _ _ ⟨[(0,⟨.optr mkr,⟨0,mkr,.here⟩⟩),(1,⟨i64,(d:Int)⟩),(2,⟨i64,ids⟩)],[(0,some (.box mkr m))],1⟩ _;obtain⟨R,hRR⟩:∃ R,R=mTr ids d m:=⟨_,rfl⟩;have i1:inR .i64 (mkS m+1):=zam (by omega) (by omega);refine za (za ?_);refine zaa hX hK rfl ?_ ?_
 ·trivial
 refine za (za ?_);refine zaa hX hK rfl ?_ ?_
 ·exact i1
 have g1:0≤mkU (zaU m):=h1;have g2:mkU (zaU m)≤1000000:=by show mkU m≤_;omega
 refine zap (σ':=⟨[(0,⟨.optr mkr,⟨0,mkr,.here⟩⟩),(1,⟨i64,(d:Int)⟩),(2,⟨i64,ids⟩)],[(0,some (.box mkr (zaU m)))],1⟩) ⟨⟨rfl,rfl,rfl,trivial⟩,⟨rfl,trivial⟩,rfl,rfl⟩ ?_;have hge:=(zli m).trans (zbn (zaU m) 14).ge;have hk:=zbV (zaU m) (n:=14) (by decide);refine za (za ?_);refine zaa hX hK rfl ?_ ?_
 ·repeat'(first|exact trivial|assumption|exact g1|exact g2|(refine⟨?_,?_⟩)|(intro _)|exact zb rfl|exact zd _|(simp_all [allP];done))
 have hstop:=@zqZ ids d m;rw[<-hRR]at hstop;have hgo:=@mTr_go ids (d - 1) m;obtain⟨p,hP⟩:∃ p,p=zat (zaU m) 14:=⟨_,rfl⟩;rw[<-hP]at hstop hgo hge hk;refine zap (σ':=⟨[(0,⟨.optr mkr,⟨0,mkr,.here⟩⟩),(1,⟨i64,(d:Int)⟩),(2,⟨i64,ids⟩),(7,⟨i64,p.1⟩)],[(0,some (.box mkr p.2))],1⟩) ⟨⟨rfl,rfl,rfl,by rw[hP];rfl,trivial⟩,⟨ztS (by rw[hP];rfl),trivial⟩,rfl,rfl⟩ ?_;clear hP;obtain⟨(k:Int),(m1:Mk)⟩:=p;have hk:0≤k∧k < 14:=hk;obtain⟨e1,e2,⟨e3,e4⟩,e5,e6⟩:MkGe (0+1) (1+0) m m1:=hge;have hM1:1≤mMax d:=by cases d with
  |zero=>exact Nat.le_refl _
  |succ d=>show 1≤2 * mMax d+1;omega
 have hstop:zhi d (k,m1)=true->R=(.leaf (zdF m1 ids).1,(zdF m1 ids).2):=hstop;have hq:(bif (bif (bif decide ((d:Int)≤0) then true else decide (mkU m1 > (((mkD m1).length:Nat):Int))) then true else decide (mkS m1 > 30)) then true else decide (k≥10))=zhi d (k,m1):=by
  rw[b_or,b_or,b_or];unfold zhi;have:decide ((d:Int)≤0)=decide (d=0):=decide_eq_decide.2 (by omega);rw[this]
 change AWP _ _ _ _ _ ⟨[(0,⟨.optr mkr,⟨0,mkr,.here⟩⟩),(1,⟨i64,(d:Int)⟩),(2,⟨i64,ids⟩),(7,⟨i64,k⟩)],[(0,some (.box mkr m1))],1⟩ _;(repeat(first|apply zaf|apply zab|apply zac|apply zad));refine AWP.draw dM hX hK 24 (by kernel_rfl) rfl rfl ?_ ?_ ?_
 ·repeat'(first|exact trivial|assumption|(refine⟨?_,?_⟩)|(intro _)|exact zb rfl|exact zd _|(simp_all [allP];done))
 ·repeat'(first|exact trivial|assumption|(refine⟨?_,?_⟩)|(intro _)|exact zb rfl|exact zd _|(simp_all [allP];done))
 refine zae rfl (fun hc=>?_) (fun hc=>?_)
 ·have hc:=hq.symm.trans hc;have hR:=hstop hc;have j1:0≤mkU m1:=by omega
  have j2:mkU m1≤800000:=by omega
  have j3:0≤mkN m1:=by omega
  have j4:mkN m1≤1000000:=by omega
  refine za (za ?_);refine zaa hX hK rfl ?_ ?_
  ·repeat'(first|exact trivial|assumption|exact j1|exact j2|exact j3|exact j4|exact h7|exact h8|(refine⟨?_,?_⟩)|(intro _)|exact zb rfl|exact zd _|(simp_all [allP];done))
  refine AWP.frz hX 6 ?_;refine zl ⟨.inr rfl,?_,zas rfl trivial rfl rfl ?_⟩
  ·show some (OObj.box mkr (zdF m1 ids).2)=some (OObj.box mkr (mTr ids d m).2);rw[<-hRR,hR]
  ·show [(zdF m1 ids).1]=(mTr ids d m).1.flat 0;rw[<-hRR,hR];rfl
 have hc:=hq.symm.trans hc;have hd0:d≠0:=fun h=>by
  have:zhi d (k,m1)=true:=by unfold zhi;rw[decide_eq_true h];rfl
  rw[this]at hc;cases hc
 obtain⟨d,rfl⟩:∃ e,d=e+1:=⟨d - 1,by omega⟩;have hk10:k < 10:=by
  unfold zhi at hc;simp only[Bool.or_eq_false_iff,decide_eq_false_iff_not]at hc;have:=hc.2;omega
 have hR:=hgo (by rw[show d+1 - 1+1=d+1 by omega,hc];decide);rw[show d+1 - 1=d by omega, <-hRR]at hR;clear hgo hstop hq hc;have hR:R=if two (8+k)=true then (.bin (8+k,0,0,0,(mCnt (8+k) (mTr ids d m1).2).1,0,[],[],()) (mTr ids d m1).1 (mTr ids d (mCnt (8+k) (mTr ids d m1).2).2).1,(mTr ids d (mCnt (8+k) (mTr ids d m1).2).2).2)
  else (.un (mOne (8+k) ids (mTr ids d m1).2).1 (mTr ids d m1).1,(mOne (8+k) ids (mTr ids d m1).2).2):=hR
 have hMM:mMax (d+1)=2 * mMax d+1:=rfl;have n1:0≤((d+1:Nat):Int) - 1:=by omega
 have n2:((d+1:Nat):Int) - 1 < (D:Int):=by omega
 have n3:(((d+1:Nat):Int) - 1).toNat=d:=by omega
 have n4:mMax (((d+1:Nat):Int) - 1).toNat≤10000:=by rw[n3];omega
 have n5:0≤mkU m1∧mkU m1+20 * ((mMax (((d+1:Nat):Int) - 1).toNat:Nat):Int)≤500000:=by rw[n3];omega
 have n6:0≤mkN m1∧mkN m1≤1000000:=by omega
 have n7:0≤mkS m1∧mkS m1+((mMax (((d+1:Nat):Int) - 1).toNat:Nat):Int)≤500000:=by rw[n3];omega
 have n8:0 < ids∧ids≤1000000:=⟨h7,h8⟩;have n9:inR .i64 (((d+1:Nat):Int) - 1):=zam (by omega) (by have:=zoL d;omega);have n10:inR .i64 (8+k):=zam (by omega) (by omega);refine za (za ?_);refine zaa hX hK rfl ?_ ?_
 ·exact n10
 refine za (za ?_);refine zaa hX hK rfl ?_ ?_
 ·exact⟨n9,n1,n2,n4,n5,n6,n7,n8⟩
 refine zap (σ':=sRu (mTr ids d m1).2 (d+1) ids (8+k) (8+k,0,0,0,0,0,[],[],()) ((mTr ids d m1).1.flat 0)) ⟨⟨rfl,rfl,rfl,rfl,by show (⟨.slice nd,(mTr ids (((d+1:Nat):Int) - 1).toNat m1).1.flat 0⟩:V)=_;rw[n3],trivial⟩,⟨ztS (by show (mTr ids (((d+1:Nat):Int) - 1).toNat m1).2=_;rw[n3]),rfl,trivial⟩,rfl,rfl⟩ ?_;have sh:=zlY ids d m1 n6.1;have sz:=zgN ids d m1;have ge:=zlZ ids d m1;generalize mTr ids d m1=A at *;obtain⟨(a:Tr),(m2:Mk)⟩:=A;have sh:TrSh a:=sh;have sz:a.size≤mMax d:=sz;obtain⟨f1,f2,⟨f3,f4⟩,f5,f6⟩:MkGe (20 * mMax d) (mMax d) m1 m2:=ge;have sa:=zdZ a;have la:=Tr.len_flat a 0;have hR:R=if two (8+k)=true then (.bin (8+k,0,0,0,(mCnt (8+k) m2).1,0,[],[],()) a (mTr ids d (mCnt (8+k) m2).2).1,(mTr ids d (mCnt (8+k) m2).2).2)
  else (.un (mOne (8+k) ids m2).1 a,(mOne (8+k) ids m2).2):=hR
 show AWP _ _ _ _ _ (sRu m2 (d+1) ids (8+k) (8+k,0,0,0,0,0,[],[],()) (a.flat 0)) _;generalize hkk:8+k=c at *;have hc1:8≤c∧c≤17:=by omega
 have w1:0≤mkU m2:=by omega
 have w2:mkU m2≤1000000:=by omega
 have w3:mkU m2≤900000:=by omega
 refine za (za ?_);refine zaa hX hK rfl ?_ ?_
 ·trivial
 refine zae rfl (fun hc=>?_) (fun hc=>?_)
 ·have hc:two c=true:=hc;rw[if_pos hc]at hR;apply zaf;refine AWP.viaQ (σ':=sRu (mCnt c m2).2 (d+1) ids c (c,0,0,0,(mCnt c m2).1,0,[],[],()) (a.flat 0)) ?_ ?_
  ·refine za (za ?_);refine zaa hX hK rfl ?_ ?_
   ·trivial
   refine zae rfl (fun hb=>?_) (fun hb=>?_)
   ·have hb:(c==17)=true:=hb;have e:mCnt c m2=(1+(zat m2 3).1,(zat m2 3).2):=if_pos (eq_of_beq hb);have hp:=zbV m2 (n:=3) (by decide);have z1:inR .i64 (1+(zat m2 3).1):=zam (by omega) (by omega);rw[e];refine za (za ?_);refine zaa hX hK rfl ?_ ?_
    ·repeat'(first|exact trivial|assumption|exact w1|exact w2|exact z1|(refine⟨?_,?_⟩)|(intro _)|exact zb rfl|exact zd _|(simp_all [allP];done))
    exact⟨⟨rfl,rfl,rfl,rfl,rfl,trivial⟩,⟨rfl,rfl,trivial⟩,rfl,rfl⟩
   ·have hb:(c==17)=false:=hb;have e:mCnt c m2=(0,m2):=if_neg (by simpa using hb);rw[e];apply zab;exact⟨⟨rfl,rfl,rfl,rfl,rfl,trivial⟩,⟨rfl,rfl,trivial⟩,rfl,rfl⟩
  obtain⟨x1,x2,x3,x4,x5⟩:MkLe 1 m2 (mCnt c m2).2:=zpG c m2;generalize mCnt c m2=q at *;obtain⟨(cn:Int),(m3:Mk)⟩:=q;have x1:mkN m3=mkN m2:=x1;have x2:mkS m3=mkS m2:=x2;have x4:mkU m2≤mkU m3:=x4;have x5:mkU m3≤mkU m2+((1:Nat):Int):=x5;have hR:R=(.bin (c,0,0,0,cn,0,[],[],()) a (mTr ids d m3).1,(mTr ids d m3).2):=hR;have v5:0≤mkU m3∧mkU m3+20 * ((mMax (((d+1:Nat):Int) - 1).toNat:Nat):Int)≤500000:=by rw[n3];omega
  have v6:0≤mkN m3∧mkN m3≤1000000:=by omega
  have v7:0≤mkS m3∧mkS m3+((mMax (((d+1:Nat):Int) - 1).toNat:Nat):Int)≤500000:=by rw[n3];omega
  refine za (za ?_);refine zaa hX hK rfl ?_ ?_
  ·exact⟨n9,n1,n2,n4,v5,v6,v7,n8⟩
  have sb:=zlY ids d m3 v6.1;have sz2:=zgN ids d m3;have lb:=Tr.len_flat (mTr ids d m3).1 0;have hb4:=zje (mTr ids d m3).1 0 sb;have q1:1≤(a.flat 0).length:=by omega
  have q2:(a.flat 0).length≤100000:=by omega
  have q3:((mTr ids (((d+1:Nat):Int) - 1).toNat m3).1.flat 0).length≤100000:=by rw[n3];omega
  have q4:∀ n∈(mTr ids (((d+1:Nat):Int) - 1).toNat m3).1.flat 0,(-1000000≤ndL n∧ndL n≤1000000)∧(-1000000≤ndR n∧ndR n≤1000000):=by
   rw[n3];intro n hn;have:=hb4 n hn;omega
  refine za (za ?_);refine zaa hX hK rfl ?_ ?_
  ·exact⟨q1,q2,q3,q4⟩
  refine zl ⟨.inr rfl,?_,zas rfl trivial rfl rfl ?_⟩
  ·show some (OObj.box mkr (mTr ids (((d+1:Nat):Int) - 1).toNat m3).2)=some (OObj.box mkr (mTr ids (d+1) m).2);rw[<-hRR,hR,n3]
  ·show zrO (a.flat 0) ((mTr ids (((d+1:Nat):Int) - 1).toNat m3).1.flat 0) (c,0,0,0,cn,0,[],[],())=(mTr ids (d+1) m).1.flat 0;rw[<-hRR,hR,n3,zpX a (mTr ids d m3).1 _ sb]
 ·have hc:two c=false:=hc;rw[hc,if_neg (by decide)]at hR;have hn2:¬ two c=true:=by rw[hc];decide
  rw[zie]at hn2;apply zab;refine za (za ?_);refine zaa hX hK rfl ?_ ?_
  ·trivial
  refine AWP.viaQ (σ':=sRu (mOne c ids m2).2 (d+1) ids c (mOne c ids m2).1 (a.flat 0)) ?_ ?_
  ·apply zac;clear hR hkk n10;rcases (show c=11∨c=12∨c=13∨c=14∨c=15∨c=16 by omega) with rfl|rfl|rfl|rfl|rfl|rfl
   ·skip
    refine za (za ?_);refine zaa hX hK rfl ?_ ?_
    ·trivial
    refine zae rfl (fun _=>?_) (fun hb=>absurd (show ((11:Int)==11)=false from hb) (by decide));have hp:=zbV m2 (n:=15) (by decide);have z1:inR .i64 ((zat m2 15).1 - 7):=zam (by omega) (by omega);refine za (za ?_);refine zaa hX hK rfl ?_ ?_
    ·repeat'(first|exact trivial|assumption|exact w1|exact w2|exact z1|(refine⟨?_,?_⟩)|(intro _)|exact zb rfl|exact zd _|(simp_all [allP];done))
    exact⟨⟨rfl,rfl,rfl,rfl,rfl,trivial⟩,⟨rfl,rfl,trivial⟩,rfl,rfl⟩
   ·skip
    refine za (za ?_);refine zaa hX hK rfl ?_ ?_
    ·trivial
    refine zae rfl (fun hb=>absurd (show ((12:Int)==11)=true from hb) (by decide)) (fun _=>?_);refine za (za ?_);refine zaa hX hK rfl ?_ ?_
    ·trivial
    refine zae rfl (fun _=>?_) (fun hb=>absurd (show ((12:Int)==12)=false from hb) (by decide));apply zab;refine zae rfl (fun _=>?_) (fun hb=>absurd (show ((12:Int)==12)=false from hb) (by decide));refine za (za ?_);refine zaa hX hK rfl ?_ ?_
    ·repeat'(first|exact trivial|assumption|exact w1|exact w2|(refine⟨?_,?_⟩)|(intro _)|exact zb rfl|exact zd _|(simp_all [allP];done))
    exact⟨⟨rfl,rfl,rfl,rfl,rfl,trivial⟩,⟨rfl,rfl,trivial⟩,rfl,rfl⟩
   ·skip
    refine za (za ?_);refine zaa hX hK rfl ?_ ?_
    ·trivial
    refine zae rfl (fun hb=>absurd (show ((13:Int)==11)=true from hb) (by decide)) (fun _=>?_);refine za (za ?_);refine zaa hX hK rfl ?_ ?_
    ·trivial
    refine zae rfl (fun hb=>absurd (show ((13:Int)==12)=true from hb) (by decide)) (fun _=>?_);refine za (za ?_);refine zaa hX hK rfl ?_ ?_
    ·trivial
    refine zae rfl (fun _=>?_) (fun hb=>absurd (show ((13:Int)==13)=false from hb) (by decide));refine za (za ?_);refine zaa hX hK rfl ?_ ?_
    ·repeat'(first|exact trivial|assumption|exact w1|exact w2|(refine⟨?_,?_⟩)|(intro _)|exact zb rfl|exact zd _|(simp_all [allP];done))
    exact⟨⟨rfl,rfl,rfl,rfl,rfl,trivial⟩,⟨rfl,rfl,trivial⟩,rfl,rfl⟩
   ·skip
    refine za (za ?_);refine zaa hX hK rfl ?_ ?_
    ·trivial
    refine zae rfl (fun hb=>absurd (show ((14:Int)==11)=true from hb) (by decide)) (fun _=>?_);refine za (za ?_);refine zaa hX hK rfl ?_ ?_
    ·trivial
    refine zae rfl (fun hb=>absurd (show ((14:Int)==12)=true from hb) (by decide)) (fun _=>?_);refine za (za ?_);refine zaa hX hK rfl ?_ ?_
    ·trivial
    refine zae rfl (fun hb=>absurd (show ((14:Int)==13)=true from hb) (by decide)) (fun _=>?_);refine za (za ?_);refine zaa hX hK rfl ?_ ?_
    ·trivial
    refine zae rfl (fun _=>?_) (fun hb=>absurd (show ((14:Int)==14)=false from hb) (by decide));apply zab;refine zae rfl (fun _=>?_) (fun hb=>absurd (show ((14:Int)==14)=false from hb) (by decide));refine za (za ?_);refine zaa hX hK rfl ?_ ?_
    ·repeat'(first|exact trivial|assumption|exact w1|exact w3|(refine⟨?_,?_⟩)|(intro _)|exact zb rfl|exact zd _|(simp_all [allP];done))
    exact⟨⟨rfl,rfl,rfl,rfl,rfl,trivial⟩,⟨rfl,rfl,trivial⟩,rfl,rfl⟩
   ·skip
    refine za (za ?_);refine zaa hX hK rfl ?_ ?_
    ·trivial
    refine zae rfl (fun hb=>absurd (show ((15:Int)==11)=true from hb) (by decide)) (fun _=>?_);refine za (za ?_);refine zaa hX hK rfl ?_ ?_
    ·trivial
    refine zae rfl (fun hb=>absurd (show ((15:Int)==12)=true from hb) (by decide)) (fun _=>?_);refine za (za ?_);refine zaa hX hK rfl ?_ ?_
    ·trivial
    refine zae rfl (fun hb=>absurd (show ((15:Int)==13)=true from hb) (by decide)) (fun _=>?_);refine za (za ?_);refine zaa hX hK rfl ?_ ?_
    ·trivial
    refine zae rfl (fun hb=>absurd (show ((15:Int)==14)=true from hb) (by decide)) (fun _=>?_);refine za (za ?_);refine zaa hX hK rfl ?_ ?_
    ·trivial
    refine zae rfl (fun _=>?_) (fun hb=>absurd (show ((15:Int)==15)=false from hb) (by decide));refine za (za ?_);refine zaa hX hK rfl ?_ ?_
    ·repeat'(first|exact trivial|assumption|exact w1|exact w3|(refine⟨?_,?_⟩)|(intro _)|exact zb rfl|exact zd _|(simp_all [allP];done))
    exact⟨⟨rfl,rfl,rfl,rfl,rfl,trivial⟩,⟨rfl,rfl,trivial⟩,rfl,rfl⟩
   ·skip
    refine za (za ?_);refine zaa hX hK rfl ?_ ?_
    ·trivial
    refine zae rfl (fun hb=>absurd (show ((16:Int)==11)=true from hb) (by decide)) (fun _=>?_);refine za (za ?_);refine zaa hX hK rfl ?_ ?_
    ·trivial
    refine zae rfl (fun hb=>absurd (show ((16:Int)==12)=true from hb) (by decide)) (fun _=>?_);refine za (za ?_);refine zaa hX hK rfl ?_ ?_
    ·trivial
    refine zae rfl (fun hb=>absurd (show ((16:Int)==13)=true from hb) (by decide)) (fun _=>?_);refine za (za ?_);refine zaa hX hK rfl ?_ ?_
    ·trivial
    refine zae rfl (fun hb=>absurd (show ((16:Int)==14)=true from hb) (by decide)) (fun _=>?_);refine za (za ?_);refine zaa hX hK rfl ?_ ?_
    ·trivial
    refine zae rfl (fun hb=>absurd (show ((16:Int)==15)=true from hb) (by decide)) (fun _=>?_);have z2:0≤mkU (zat m2 ids).2:=by rw[zaW];omega
    have z3:mkU (zat m2 ids).2≤1000000:=by rw[zaW];omega
    have z4:0≤mkU (zat (zat m2 ids).2 2).2:=by rw[zaW,zaW];omega
    have z5:mkU (zat (zat m2 ids).2 2).2≤900000:=by rw[zaW,zaW];omega
    have z6:ids≤1000000000:=by omega
    refine za (za ?_);refine zaa hX hK rfl ?_ ?_
    ·repeat'(first|exact trivial|assumption|exact w1|exact w2|exact h7|exact z6|(refine⟨?_,?_⟩)|(intro _)|exact zb rfl|exact zd _|(simp_all [allP];done))
    refine za (za ?_);refine zaa hX hK rfl ?_ ?_
    ·repeat'(first|exact trivial|assumption|exact z2|exact z3|(refine⟨?_,?_⟩)|(intro _)|exact zb rfl|exact zd _|(simp_all [allP];done))
    refine za (za ?_);refine zaa hX hK rfl ?_ ?_
    ·repeat'(first|exact trivial|assumption|exact z4|exact z5|(refine⟨?_,?_⟩)|(intro _)|exact zb rfl|exact zd _|(simp_all [allP];done))
    exact⟨⟨rfl,rfl,rfl,rfl,rfl,trivial⟩,⟨rfl,rfl,trivial⟩,rfl,rfl⟩
  show AWP _ _ _ _ _ (sRu (mOne c ids m2).2 (d+1) ids c (mOne c ids m2).1 (a.flat 0)) _;have q2:(a.flat 0).length≤1000000:=by omega
  refine za (za ?_);refine zaa hX hK rfl ?_ ?_
  ·exact q2
  refine zl ⟨.inr rfl,?_,zas rfl trivial rfl rfl ?_⟩
  ·show some (OObj.box mkr (mOne c ids m2).2)=some (OObj.box mkr (mTr ids (d+1) m).2);rw[<-hRR,hR]
  ·show zqL (a.flat 0) (mOne c ids m2).1=(mTr ids (d+1) m).1.flat 0;rw[<-hRR,hR,zoz]
theorem zqT (D:Nat):ze0 Tryz.prog gmG 58 (zgy D):=by
 induction D with
 |zero=>
  refine⟨Tryz.call58,fun w O g cs ty x xs vs _ _ _ _ hp=>?_⟩;obtain⟨(d:Int),(ids:Int),_⟩:=xs;have h1:0≤d:=hp.1;have h2:d < ((0:Nat):Int):=hp.2.1;omega
 |succ D ih=>exact zoi D ih
set_option maxRecDepth 10000
def znf (d:Nat) (k:Nat) (l:List Int) (n:Int):Tr:=(mTr 3 d (l.take k,0,n,0,())).1
def ztM (d k:Nat):Ctr:={ args:=[ints,i64],pre:=fun x=>[0≤x.2.1,x.2.1≤1000000],res:=.slice nd,own:=none,out:=fun x=>(znf d k x.1 x.2.1).flat 0 }
def kMa:Kn:={ gmK with R:=[(58,zgy 10)] }
theorem zl8:KnOk Tryz.prog gmG kMa:=zaC.withR (.cons (zqT 10) (fun _ _=>trivial) .nil)
theorem zqY:CtrOk Tryz.prog gmG 23 (ztM 4 80):=by
 refine zal (K:=kMa) zl8 Tryz.func23 rfl rfl Tryz.call23 rfl (by decide) (by intro h;cases h) ?_;rintro w0 X hX ⟨(l:List Int),(n:Int),_⟩ hp;obtain⟨h0,h1⟩:0≤n∧n≤1000000:=hp;change AWP _ _ _ _ _ ⟨[(0,⟨ints,l⟩),(1,⟨i64,n⟩)],[],0⟩ _;refine za (za ?_);refine zaa hX zl8 rfl ?_ ?_
 ·trivial
 have e:(min ((l.length:Nat):Int) 80).toNat=min l.length 80:=by omega
 have y1:0≤min ((l.length:Nat):Int) 80:=by omega
 have y2:min ((l.length:Nat):Int) 80≤((l.length:Nat):Int):=by omega
 have ht:l.take (min ((l.length:Nat):Int) 80).toNat=l.take 80:=by
  rw[e];by_cases h:l.length≤80
  ·rw[Nat.min_eq_left h,xG (Nat.le_refl _),xG h]
  ·rw[Nat.min_eq_right (by omega)]
 refine za (za ?_);refine zaa hX zl8 rfl ?_ ?_
 ·exact⟨y1,y2⟩
 refine zap (σ':=⟨[(5,⟨.optr mkr,⟨0,mkr,.here⟩⟩)],[(0,some (.box mkr (l.take 80,0,n,0,())))],1⟩) ⟨⟨rfl,trivial⟩,⟨ztS (by show (l.take (min ((l.length:Nat):Int) 80).toNat,(0:Int),n,(0:Int),())=_;rw[ht]),trivial⟩,rfl,rfl⟩ ?_;have q1:(0:Int)≤4:=by decide
 have q2:(4:Int) < ((10:Nat):Int):=by decide
 have q3:mMax (4:Int).toNat≤10000:=by decide
 have q4:(0:Int)≤0∧(0:Int)+20 * ((mMax (4:Int).toNat:Nat):Int)≤500000:=by decide
 have q5:(0:Int)≤0∧(0:Int)+((mMax (4:Int).toNat:Nat):Int)≤500000:=by decide
 have q6:(0:Int) < 3∧(3:Int)≤1000000:=by decide
 refine za (za ?_);refine zaa hX zl8 rfl ?_ ?_
 ·exact⟨q1,q2,q3,q4,⟨h0,h1⟩,q5,q6⟩
 refine zl ⟨.inr rfl,zas rfl trivial rfl rfl ?_⟩;rfl
theorem zsX:CtrOk Tryz.prog gmH 23 (ztM 4 80):=zqY.lift
def znv (n:Nd):Bool:=decide (100 < (ndI n).length)||decide (100 < (ndS n).length)
def smS (r:List Nd):Bool:=!(r.take 101).any znv&&decide (r.length≤100)
def zr6:Ctr:={ args:=[.slice nd],pre:=fun _=>[],res:=.bool,own:=none,out:=fun x=>smS x.1 }
theorem znW:CtrOk Tryz.prog gmH 22 zr6:=by
 refine zal (K:=gmK) zaj Tryz.func22 rfl rfl Tryz.call22 rfl (by decide) (by intro h;cases h) ?_;rintro w0 X hX ⟨(r:List Nd),_⟩ hp;change AWP _ _ _ _ _ ⟨[(0,⟨.slice nd,r⟩)],[],0⟩ _;refine AWP.len 0 rfl fun hl=>?_;unfold maxLen at hl;refine za (za ?_);refine zaa hX zaj rfl ?_ ?_
 ·trivial
 refine za (za ?_);refine zaa hX zaj rfl ?_ ?_
 ·trivial
 (repeat(first|apply zaf|apply zab|apply zac|apply zad));refine yi (ι:=Nat) (fun i=>⟨[(0,⟨.slice nd,r⟩),(3,⟨i64,(i:Int)⟩)],[],0⟩) (fun i=>(i≤r.length∧i≤101)∧∀ j,j < i->znv (zao r j)=false) (fun i=>101 - i) 0 ⟨⟨zn _,zn _⟩,fun j hj=>absurd hj (Nat.not_lt_zero _)⟩ ⟨⟨rfl,rfl,trivial⟩,trivial,rfl,rfl⟩ ?_;rintro i ⟨⟨hi,hi2⟩,hn⟩;have hq0:(bif decide ((i:Int) < ((r.length:Nat):Int)) then decide ((i:Int) < 101) else false)=decide (i < r.length∧i < 101):=by
  rw[zcS,zL,Bool.and_eq_true,decide_eq_true_iff,decide_eq_true_iff,decide_eq_true_iff];omega
 refine za (za ?_);refine zaa hX zaj rfl ?_ ?_
 ·repeat'(first|exact trivial|assumption|(refine⟨?_,?_⟩)|(intro _)|exact zb rfl|exact zd _|(simp_all [allP];done))
 refine zae rfl (fun hb=>?_) (fun hb=>?_)
 ·obtain⟨hlt,h101⟩:=of_decide_eq_true (hq0.symm.trans hb);have z0:(0:Int)≤(i:Int):=by omega
  have z1:(i:Int) < ((r.length:Nat):Int):=by omega
  have z2:((i:Int)).toNat < r.length:=by omega
  refine za (za ?_);refine zaa hX zaj rfl ?_ ?_
  ·repeat'(first|exact trivial|assumption|exact z0|exact z1|exact z2|(refine⟨?_,?_⟩)|(intro _)|exact zb rfl|exact zd _|(simp_all [allP];done))
  have hq:(bif decide ((((ndI (zao r i)).length:Nat):Int) > 100) then true else decide ((((ndS (zao r i)).length:Nat):Int) > 100))=znv (zao r i):=by
   rw[b_or];unfold znv
   congr 1<;>(rw[zL,decide_eq_true_iff,decide_eq_true_iff];omega)
  refine zae rfl (fun hc=>?_) (fun hc=>?_)
  ·have hc:=hq.symm.trans hc;(repeat(first|apply zaf|apply zab|apply zai|apply zad|apply zac|refine zaa hX zaj rfl trivial ?_|refine zaa hX zaj rfl id ?_|refine zaa hX zaj rfl ⟨id,id⟩ ?_));refine zl ⟨.inr rfl,zas rfl trivial rfl rfl ?_⟩;show false=smS r;unfold smS;have:(r.take 101).any znv=true:=by
    rw[List.any_eq_true];refine⟨r[i],qb.2 ⟨i,by omega,rfl⟩,?_⟩;rw[zdN,zx,zA hlt]at hc;exact hc
   rw[this];rfl
  ·have hc:=hq.symm.trans hc;apply zab;refine za (za ?_);refine zaa hX zaj rfl ?_ ?_
   ·exact zaF (by omega)
   exact⟨i+1,⟨⟨hlt,h101⟩,fun j hj=>by
    by_cases e:j=i
    ·rw[e];exact hc
    ·exact hn j (by omega)⟩,by omega,⟨rfl,zbY _,trivial⟩,trivial,rfl,rfl⟩
 ·have hb:=of_decide_eq_false (hq0.symm.trans hb);have hany:(r.take 101).any znv=false:=by
   rw[List.any_eq_false];intro x hx;obtain⟨j,hj,rfl⟩:=qb.1 hx;have hjr:j < r.length:=by omega
   have:=hn j (by omega);rw[zdN,zx,zA hjr]at this;rw[show r[j]=(some r[j]).getD zNd from rfl,this];decide
  apply zad;refine za (za ?_);refine zaa hX zaj rfl ?_ ?_
  ·trivial
  refine zl ⟨.inr rfl,zas rfl trivial rfl rfl ?_⟩;show decide (((r.length:Nat):Int)≤100)=smS r;unfold smS;rw[hany];show _=(true&&_);rw[xr,zL,decide_eq_true_iff,decide_eq_true_iff];omega
def zhJ (p:UInt8->Bool):Ctr:={ args:=[u8],pre:=fun _=>[],res:=.bool,own:=none,out:=fun x=>p x.1 }
theorem ziy:CtrOk Tryz.prog gmG 115 (zhJ isLt):=by
 refine zal (K:=gmK) zaC Tryz.func115 rfl rfl Tryz.call115 rfl (by decide) (by intro h;cases h) ?_;rintro w0 X hX ⟨(c:UInt8),_⟩ hp;change AWP _ _ _ _ _ ⟨[(0,⟨u8,c⟩)],[],0⟩ _;refine za (za ?_);refine zaa hX zaC rfl ?_ ?_
 ·trivial
 refine za (za ?_);refine zaa hX zaC rfl ?_ ?_
 ·repeat'(first|exact trivial|assumption|(refine⟨?_,?_⟩)|(intro _)|exact zb rfl|exact zd _|(simp_all [allP];done))
 refine zl ⟨.inr rfl,zas rfl trivial rfl rfl ?_⟩;show (bif (bif decide ((((97:UInt8).toNat:Nat):Int)≤((c.toNat:Nat):Int)) then decide (((c.toNat:Nat):Int)≤(((122:UInt8).toNat:Nat):Int)) else false) then true else (bif decide ((((65:UInt8).toNat:Nat):Int)≤((c.toNat:Nat):Int)) then decide (((c.toNat:Nat):Int)≤(((90:UInt8).toNat:Nat):Int)) else false))=isLt c;simp only[zb3,zez,u8le];exact zl2 c
theorem zpD:CtrOk Tryz.prog gmG 139 (zhJ isDg):=by
 refine zal (K:=gmK) zaC Tryz.func139 rfl rfl Tryz.call139 rfl (by decide) (by intro h;cases h) ?_;rintro w0 X hX ⟨(c:UInt8),_⟩ hp;change AWP _ _ _ _ _ ⟨[(0,⟨u8,c⟩)],[],0⟩ _;refine za (za ?_);refine zaa hX zaC rfl ?_ ?_
 ·trivial
 refine za (za ?_);refine zaa hX zaC rfl ?_ ?_
 ·repeat'(first|exact trivial|assumption|(refine⟨?_,?_⟩)|(intro _)|exact zb rfl|exact zd _|(simp_all [allP];done))
 refine zl ⟨.inr rfl,zas rfl trivial rfl rfl ?_⟩;show (bif decide ((((48:UInt8).toNat:Nat):Int)≤((c.toNat:Nat):Int)) then decide (((c.toNat:Nat):Int)≤(((57:UInt8).toNat:Nat):Int)) else false)=isDg c;simp only[zb3,u8le];rfl
def kPa7:Kn:={ gmK with C:=[(115,zhJ isLt),(139,zhJ isDg)] }
theorem zlh:KnOk Tryz.prog gmG kPa7:=zaC.with (.cons ziy <| .cons zpD .nil)
theorem zqJ:CtrOk Tryz.prog gmG 116 (zhJ isPt):=by
 refine zal (K:=kPa7) zlh Tryz.func116 rfl rfl Tryz.call116 rfl (by decide) (by intro h;cases h) ?_;rintro w0 X hX ⟨(c:UInt8),_⟩ hp;change AWP _ _ _ _ _ ⟨[(0,⟨u8,c⟩)],[],0⟩ _;refine za (za ?_);refine zaa hX zlh rfl ?_ ?_
 ·trivial
 refine za (za ?_);refine zaa hX zlh rfl ?_ ?_
 ·repeat'(first|exact trivial|assumption|(refine⟨?_,?_⟩)|(intro _)|exact zb rfl|exact zd _|(simp_all [allP];done))
 refine zl ⟨.inr rfl,zas rfl trivial rfl rfl ?_⟩;show (bif (bif isLt c then true else isDg c) then true else (((c.toNat:Nat):Int)==(((45:UInt8).toNat:Nat):Int)))=isPt c;simp only[zez,u8eq];rfl
def nmR (s:List UInt8):Bool:=decide (s≠ [])&&(s.head?.all isLt&&s.all isPt)
theorem zfn {p:UInt8->Bool}:∀ (s:List UInt8),(s.takeWhile p).length < s.length↔s.all p=false
 | []=>by simp
 |c::r=>by
  rw[qt,List.all_cons];cases hp:p c with
  |true=>
   rw[if_pos rfl,zs,zs,xr, <-zfn r];omega
  |false=>
   rw[if_neg (by decide)];simp
theorem zoG (s:List UInt8):(zax s=0∨zax s < s.length)↔nmR s=false:=by
 cases s with
 |nil=>exact⟨fun _=>rfl,fun _=>.inl rfl⟩
 |cons c r=>
  have hW:zax (c::r)=if isLt c=true then zbi isPt (c::r) else 0:=rfl
  have hM:nmR (c::r)=(isLt c&&(c::r).all isPt):=rfl;rw[hW,hM];cases hc:isLt c with
  |false=>
   have e:(if false=true then zbi isPt (c::r) else 0)=0:=rfl;rw[e];exact⟨fun _=>rfl,fun _=>.inl rfl⟩
  |true=>
   have e:(if true=true then zbi isPt (c::r) else 0)=zbi isPt (c::r):=rfl;rw[e,xr, <-zfn];have hpt:=(zq0 c hc).1;have h1:zbi isPt (c::r)=zbi isPt r+1:=by
    unfold zbi;rw[qt,hpt,if_pos rfl,zs]
   have h2:zbi isPt (c::r)=((c::r).takeWhile isPt).length:=rfl;omega
def zsa:Ctr:={ args:=[.str],pre:=fun _=>[],res:=.bool,own:=none,out:=fun x=>nmR x.1 }
def kNm7:Kn:={ gmK with C:=[(115,zhJ isLt),(116,zhJ isPt)] }
theorem zbN:KnOk Tryz.prog gmH kNm7:=zaj.with (.cons ziy.lift <| .cons zqJ.lift .nil)
theorem zqR:CtrOk Tryz.prog gmH 67 zsa:=by
 refine zal (K:=kNm7) zbN Tryz.func67 rfl rfl Tryz.call67 rfl (by decide) (by intro h;cases h) ?_;rintro w0 X hX ⟨(s:List UInt8),_⟩ hp;change AWP _ _ _ _ _ ⟨[(0,⟨.str,s⟩)],[],0⟩ _;refine AWP.slen 0 rfl fun hl=>?_;unfold maxLen at hl;refine za (za ?_);refine zaa hX zbN rfl ?_ ?_
 ·trivial
 cases s with
 |nil=>
  refine za (za ?_);refine zaa hX zbN rfl ?_ ?_
  ·repeat'(first|exact trivial|(intro h;exact absurd (show false=true from h) Bool.false_ne_true)|(refine⟨?_,?_⟩))
  refine zae rfl (fun _=>?_) (fun hb=>absurd (show true=false from hb) (by decide));(repeat(first|apply zaf|apply zab|apply zai|apply zad|apply zac|refine zaa hX zbN rfl trivial ?_|refine zaa hX zbN rfl id ?_|refine zaa hX zbN rfl ⟨id,id⟩ ?_));exact zl ⟨.inr rfl,zas rfl trivial rfl rfl rfl⟩
 |cons c r=>
  have hne:((((c::r:List UInt8)).length:Int)==0)=false:=by rw[zs];exact beq_eq_false_iff_ne.2 (by omega)
  have z0:(0:Int)≤0:=Int.le_refl _;have z1:(0:Int) < ((((c::r:List UInt8)).length:Nat):Int):=by rw[zs];omega
  have z2:((0:Int)).toNat < ((c::r:List UInt8)).length:=by rw[zs];exact Nat.succ_pos _
  refine za (za ?_);refine zaa hX zbN rfl ?_ ?_
  ·repeat'(first|exact trivial|assumption|exact z0|exact z1|exact z2|(refine⟨?_,?_⟩)|(intro _)|exact zb rfl|exact zd _|(simp_all [allP];done))
  have hq:(bif ((((c::r:List UInt8)).length:Int)==0) then true else !isLt c)= !isLt c:=by rw[hne];rfl
  have hN:nmR (c::r)=(isLt c&&(c::r).all isPt):=rfl;refine zae rfl (fun hb=>?_) (fun hb=>?_)
  ·have hb:=hq.symm.trans hb;rw[zr]at hb;(repeat(first|apply zaf|apply zab|apply zai|apply zad|apply zac|refine zaa hX zbN rfl trivial ?_|refine zaa hX zbN rfl id ?_|refine zaa hX zbN rfl ⟨id,id⟩ ?_));refine zl ⟨.inr rfl,zas rfl trivial rfl rfl ?_⟩;show false=nmR (c::r);rw[hN,hb];rfl
  have hb:=hq.symm.trans hb;have hb:isLt c=true:=by simpa using hb
  rw[hb,xr]at hN;clear hq hne z1 z2;generalize c::r=s at *;apply zab;refine za (za ?_);refine zaa hX zbN rfl ?_ ?_
  ·trivial
  (repeat(first|apply zaf|apply zab|apply zac|apply zad));refine yi (ι:=Nat) (fun i=>⟨[(0,⟨.str,s⟩),(3,⟨i64,(i:Int)⟩)],[],0⟩) (fun i=>i≤s.length∧∀ j (hj:j < s.length),j < i->isPt s[j]=true) (fun i=>s.length - i) 0 ⟨zn _,fun j hj h=>absurd h (Nat.not_lt_zero _)⟩ ⟨⟨rfl,rfl,trivial⟩,trivial,rfl,rfl⟩ ?_;rintro i ⟨hi,hn⟩;refine za (za ?_);refine zaa hX zbN rfl ?_ ?_
  ·trivial
  refine zae rfl (fun hb=>?_) (fun hb=>?_)
  ·have hb:decide ((i:Int) < ((s.length:Nat):Int))=true:=hb;have hb:=of_decide_eq_true hb;have hlt:i < s.length:=by omega
   have y0:(0:Int)≤(i:Int):=by omega
   have y2:((i:Int)).toNat < s.length:=by omega
   have hget:s.getD ((i:Int)).toNat 0=s[i]:=by rw[zz,zx,zA hlt];rfl
   refine za (za ?_);refine zaa hX zbN rfl ?_ ?_
   ·repeat'(first|exact trivial|assumption|exact y0|exact hb|exact y2|(refine⟨?_,?_⟩)|(intro _)|exact zb rfl|exact zd _|(simp_all [allP];done))
   refine zae rfl (fun hc=>?_) (fun hc=>?_)
   ·have hc:(!isPt (s.getD ((i:Int)).toNat 0))=true:=hc;rw[hget,zr]at hc;(repeat(first|apply zaf|apply zab|apply zai|apply zad|apply zac|refine zaa hX zbN rfl trivial ?_|refine zaa hX zbN rfl id ?_|refine zaa hX zbN rfl ⟨id,id⟩ ?_));refine zl ⟨.inr rfl,zas rfl trivial rfl rfl ?_⟩;show false=nmR s;rw[hN];refine (Bool.eq_false_iff.2 fun ha=>?_).symm;rw[zM.1 ha _ (List.getElem_mem hlt)]at hc;cases hc
   ·have hc:(!isPt (s.getD ((i:Int)).toNat 0))=false:=hc;rw[hget,xe]at hc;apply zab;refine za (za ?_);refine zaa hX zbN rfl ?_ ?_
    ·exact zaF (by omega)
    exact⟨i+1,⟨hlt,fun j hj hji=>by
     by_cases e:j=i
     ·subst e;exact hc
     ·exact hn j hj (by omega)⟩,by omega,⟨rfl,zbY _,trivial⟩,trivial,rfl,rfl⟩
  ·have hb:decide ((i:Int) < ((s.length:Nat):Int))=false:=hb;have hb:=of_decide_eq_false hb;obtain rfl:i=s.length:=by omega
   apply zad;(repeat(first|apply zaf|apply zab|apply zai|apply zad|apply zac|refine zaa hX zbN rfl trivial ?_|refine zaa hX zbN rfl id ?_|refine zaa hX zbN rfl ⟨id,id⟩ ?_));refine zl ⟨.inr rfl,zas rfl trivial rfl rfl ?_⟩;show true=nmR s;rw[hN];refine (zM.2 fun x hx=>?_).symm;obtain⟨j,hj,rfl⟩:=List.mem_iff_getElem.1 hx;exact hn j hj hj
def kFl7:Kn:={ gmK with C:=[(67,zsa),(25,cFmt)] }
theorem zaP:KnOk Tryz.prog gmH kFl7:=zaj.with (.cons zqR <| .cons zpq .nil)
abbrev sFl (l:List De) (i:Nat) (acc:List UInt8):AS:=⟨[(0,⟨.slice de,l⟩),(4,⟨.obuf u8,(0:Nat)⟩),(5,⟨i64,(i:Int)⟩)],[(0,some (.buf 5 u8 acc))],1⟩
set_option maxHeartbeats 1000000 in
theorem znp:CtrOk Tryz.prog gmH 27 zpU:=by
 refine zal (K:=kFl7) zaP Tryz.func27 rfl rfl Tryz.call27 rfl (by decide) (by intro h;cases h) ?_;rintro w0 X hX ⟨(l:List De),_⟩ hp;change AWP _ _ _ _ _ ⟨[(0,⟨.slice de,l⟩)],[],0⟩ _;refine AWP.len 0 rfl fun hl=>?_;unfold maxLen at hl;refine za (za ?_);refine zaa hX zaP rfl ?_ ?_
 ·trivial
 refine za (za ?_);refine zaa hX zaP rfl ?_ ?_
 ·trivial
 refine zae rfl (fun hb=>?_) (fun hb=>?_)
 ·have hb:decide (((l.length:Nat):Int) > 4096)=true:=hb;have hb:=of_decide_eq_true hb;(repeat(first|apply zaf|apply zab|apply zai|apply zad|apply zac|refine zaa hX zaP rfl trivial ?_|refine zaa hX zaP rfl id ?_|refine zaa hX zaP rfl ⟨id,id⟩ ?_));refine zl ⟨.inr rfl,za1 (by decide) rfl rfl trivial ?_⟩;show (([]:List UInt8),(2:Int),())=((zaG l).1,(zaG l).2,());unfold zaG;rw[if_pos (by omega)]
 have hb:decide (((l.length:Nat):Int) > 4096)=false:=hb;have hb:=of_decide_eq_false hb;have hS:zaG l=zfc l []:=by unfold zaG;rw[if_neg (by omega)]
 apply zab;refine za (za ?_);refine zaa hX zaP rfl ?_ ?_
 ·trivial
 refine AWP.nilBuf hX 4 5 u8 rfl rfl rfl ?_;refine za (za ?_);refine zaa hX zaP rfl ?_ ?_
 ·trivial
 (repeat(first|apply zaf|apply zab|apply zac|apply zad));refine yi (ι:=Nat×List UInt8) (fun p=>sFl l p.1 p.2) (fun p=>p.1≤l.length∧zaG l=zfc (l.drop p.1) p.2∧p.2.length≤4001 * p.1) (fun p=>l.length - p.1) (0,[]) ⟨zn _,hS,zn _⟩ ⟨⟨rfl,rfl,rfl,trivial⟩,⟨rfl,trivial⟩,rfl,rfl⟩ ?_;rintro ⟨i,acc⟩ ⟨hi,hR,hal⟩;have hi:i≤l.length:=hi;have hR:zaG l=zfc (l.drop i) acc:=hR;have hal:acc.length≤4001 * i:=hal;show AWP _ _ _ _ _ (sFl l i acc) _;refine za (za ?_);refine zaa hX zaP rfl ?_ ?_
 ·trivial
 refine zae rfl (fun hb=>?_) (fun hb=>?_)
 ·have hb:decide ((i:Int) < ((l.length:Nat):Int))=true:=hb;have hb:=of_decide_eq_true hb;have hlt:i < l.length:=by omega
  have z0:(0:Int)≤(i:Int):=by omega
  have z2:((i:Int)).toNat < l.length:=by omega
  have hdr:l.drop i=l[i]::l.drop (i+1):=List.drop_eq_getElem_cons hlt;have hget:l.getD ((i:Int)).toNat (zaA de)=l[i]:=by rw[zz,zx,zA hlt];rfl
  rw[hdr,zfc]at hR;generalize hd:l[i]=d at *;obtain⟨(nm:List UInt8),(rl:List Nd),⟨⟩⟩:=d;have hR:zaG l=(if 32 < nm.length then ([],2) else if zax nm=0∨zax nm < nm.length then ([],1) else if (fmtS rl).2≠0 then ([],(fmtS rl).2) else if 4000 < (nm++ [32,61,32]++(fmtS rl).1).length then ([],2) else zfc (l.drop (i+1)) (acc++(nm++ [32,61,32]++(fmtS rl).1++ [10]))):=hR;have g1:(l.getD ((i:Int)).toNat (zaA de)).1=nm:=by rw[hget]
  have g2:(l.getD ((i:Int)).toNat (zaA de)).2.1=rl:=by rw[hget]
  refine za (za ?_);refine zaa hX zaP rfl ?_ ?_
  ·repeat'(first|exact trivial|assumption|exact z0|exact hb|exact z2|(refine⟨?_,?_⟩)|(intro _)|exact zb rfl|exact zd _|(simp_all [allP];done))
  refine zae rfl (fun hc=>?_) (fun hc=>?_)
  ·have hc:decide ((((l.getD ((i:Int)).toNat (zaA de)).1.length:Nat):Int) > 32)=true:=hc;rw[g1]at hc;have hc:=of_decide_eq_true hc;rw[if_pos (by omega)]at hR;(repeat(first|apply zaf|apply zab|apply zai|apply zad|apply zac|refine zaa hX zaP rfl trivial ?_|refine zaa hX zaP rfl id ?_|refine zaa hX zaP rfl ⟨id,id⟩ ?_));refine zl ⟨.inr rfl,za1 (by decide) rfl rfl trivial ?_⟩;show (([]:List UInt8),(2:Int),())=((zaG l).1,(zaG l).2,());rw[hR]
  have hc:decide ((((l.getD ((i:Int)).toNat (zaA de)).1.length:Nat):Int) > 32)=false:=hc;rw[g1]at hc;have hc:=of_decide_eq_false hc;rw[if_neg (by omega)]at hR;apply zab;refine za (za ?_);refine zaa hX zaP rfl ?_ ?_
  ·repeat'(first|exact trivial|assumption|exact z0|exact hb|exact z2|(refine⟨?_,?_⟩)|(intro _)|exact zb rfl|exact zd _|(simp_all [allP];done))
  refine zae rfl (fun hn=>?_) (fun hn=>?_)
  ·have hn:(!nmR (l.getD ((i:Int)).toNat (zaA de)).1)=true:=hn;rw[g1,zr]at hn;rw[if_pos ((zoG nm).2 hn)]at hR;(repeat(first|apply zaf|apply zab|apply zai|apply zad|apply zac|refine zaa hX zaP rfl trivial ?_|refine zaa hX zaP rfl id ?_|refine zaa hX zaP rfl ⟨id,id⟩ ?_));refine zl ⟨.inr rfl,za1 (by decide) rfl rfl trivial ?_⟩;show (([]:List UInt8),(1:Int),())=((zaG l).1,(zaG l).2,());rw[hR]
  have hn:(!nmR (l.getD ((i:Int)).toNat (zaA de)).1)=false:=hn;rw[g1,xe]at hn;rw[if_neg (fun h=>by rw[(zoG nm).1 h]at hn;cases hn)]at hR;apply zab;refine za (za ?_);refine zaa hX zaP rfl ?_ ?_
  ·repeat'(first|exact trivial|assumption|exact z0|exact hb|exact z2|(refine⟨?_,?_⟩)|(intro _)|exact zb rfl|exact zd _|(simp_all [allP];done))
  have hfl:=zml rl;refine zap (σ':=⟨(6,⟨.str,(fmtS rl).1⟩)::(7,⟨i64,(fmtS rl).2⟩)::(sFl l i acc).F,(sFl l i acc).E,1⟩) ⟨⟨by show (⟨.str,(fmtS (l.getD ((i:Int)).toNat (zaA de)).2.1).1⟩:V)=_;rw[g2],by show (⟨i64,(fmtS (l.getD ((i:Int)).toNat (zaA de)).2.1).2⟩:V)=_;rw[g2],rfl,rfl,rfl,trivial⟩,⟨rfl,trivial⟩,rfl,rfl⟩ ?_;generalize fmtS rl=F at *;obtain⟨(tx:List UInt8),(cd:Int)⟩:=F;have hfl:tx.length≤4000:=hfl;have hR:zaG l=(if cd≠0 then ([],cd) else if 4000 < (nm++ [32,61,32]++tx).length then ([],2) else zfc (l.drop (i+1)) (acc++(nm++ [32,61,32]++tx++ [10]))):=hR;refine za (za ?_);refine zaa hX zaP rfl ?_ ?_
  ·trivial
  refine zae rfl (fun he=>?_) (fun he=>?_)
  ·have he:(cd != 0)=true:=he;rw[if_pos (by simpa using he)]at hR;(repeat(first|apply zaf|apply zab|apply zai|apply zad|apply zac|refine zaa hX zaP rfl trivial ?_|refine zaa hX zaP rfl id ?_|refine zaa hX zaP rfl ⟨id,id⟩ ?_));refine zl ⟨.inr rfl,za1 (by decide) rfl rfl trivial ?_⟩;show (([]:List UInt8),cd,())=((zaG l).1,(zaG l).2,());rw[hR]
  have he:(cd != 0)=false:=he;rw[if_neg (by simpa using he)]at hR;apply zab;have k1:(l.getD ((i:Int)).toNat (zaA de)).1.length+3≤maxLen:=by rw[g1];unfold maxLen;omega
  have k2:List.length ((l.getD ((i:Int)).toNat (zaA de)).1++ [32,61,32])+tx.length≤maxLen:=by rw[g1,zh];show nm.length+3+_≤_;unfold maxLen;omega
  refine za (za ?_);refine zaa hX zaP rfl ?_ ?_
  ·repeat'(first|exact trivial|assumption|exact z0|exact hb|exact z2|exact k1|exact k2|(refine⟨?_,?_⟩)|(intro _)|exact zb rfl|exact zd _|(simp_all [allP];done))
  refine zap (σ':=⟨(8,⟨.str,nm++ [32,61,32]++tx⟩)::(sFl l i acc).F,(sFl l i acc).E,1⟩) ⟨⟨by show (⟨.str,(l.getD ((i:Int)).toNat (zaA de)).1++ [32,61,32]++tx⟩:V)=_;rw[g1],rfl,rfl,rfl,trivial⟩,⟨rfl,trivial⟩,rfl,rfl⟩ ?_;generalize nm++ [32,61,32]++tx=ln at *;refine za (za ?_);refine zaa hX zaP rfl ?_ ?_
  ·trivial
  refine zae rfl (fun hg=>?_) (fun hg=>?_)
  ·have hg:decide (((ln.length:Nat):Int) > 4000)=true:=hg;have hg:=of_decide_eq_true hg;rw[if_pos (by omega)]at hR;(repeat(first|apply zaf|apply zab|apply zai|apply zad|apply zac|refine zaa hX zaP rfl trivial ?_|refine zaa hX zaP rfl id ?_|refine zaa hX zaP rfl ⟨id,id⟩ ?_));refine zl ⟨.inr rfl,za1 (by decide) rfl rfl trivial ?_⟩;show (([]:List UInt8),(2:Int),())=((zaG l).1,(zaG l).2,());rw[hR]
  have hg:decide (((ln.length:Nat):Int) > 4000)=false:=hg;have hg:=of_decide_eq_false hg;rw[if_neg (by omega)]at hR;apply zab;have k3:acc.length+ln.length≤1000000000:=by omega
  have k4:List.length (acc++ln)+1≤1000000000:=by rw[zh];omega
  (repeat(first|apply zaf|apply zab|apply zac|apply zad));refine zak ?_;refine AL.take 2 hX zaP rfl trivial ?_;refine AL.appStr Tryz.underlying103 Tryz.underlying9 znF znD znE zkM rfl rfl rfl rfl rfl rfl rfl k3 ?_;refine AL.all hX zaP rfl trivial ?_;refine za (za ?_);refine zaa hX zaP rfl ?_ ?_
  ·exact k4
  refine za (za ?_);refine zaa hX zaP rfl ?_ ?_
  ·exact zaF (by omega)
  refine⟨(i+1,acc++(ln++ [10])),⟨hlt,hR,by show (acc++(ln++ [10])).length≤4001 * (i+1);rw[zh,zh,List.length_singleton];omega⟩,by show l.length - (i+1) < l.length - i;omega,⟨rfl,rfl,zbY _,trivial⟩,⟨by show some (OObj.buf 5 u8 (acc++ln++ [10]))=_;rw[List.append_assoc],trivial⟩,rfl,rfl⟩
 ·have hb:decide ((i:Int) < ((l.length:Nat):Int))=false:=hb;have hb:=of_decide_eq_false hb;obtain rfl:i=l.length:=by omega
  rw[List.drop_length,zfc]at hR;apply zad;refine AWP.frz hX 4 ?_;refine za (za ?_);refine zaa hX zaP rfl ?_ ?_
  ·trivial
  refine zae rfl (fun hg=>?_) (fun hg=>?_)
  ·have hg:decide (((acc.length:Nat):Int) > 1048576)=true:=hg;have hg:=of_decide_eq_true hg;rw[if_pos (by omega)]at hR;(repeat(first|apply zaf|apply zab|apply zai|apply zad|apply zac|refine zaa hX zaP rfl trivial ?_|refine zaa hX zaP rfl id ?_|refine zaa hX zaP rfl ⟨id,id⟩ ?_));refine zl ⟨.inr rfl,za1 (by decide) rfl rfl trivial ?_⟩;show (([]:List UInt8),(2:Int),())=((zaG l).1,(zaG l).2,());rw[hR]
  ·have hg:decide (((acc.length:Nat):Int) > 1048576)=false:=hg;have hg:=of_decide_eq_false hg;rw[if_neg (by omega)]at hR;apply zab;have hml:acc.length≤maxLen:=by unfold maxLen;omega
   refine za (za ?_);refine zaa hX zaP rfl ?_ ?_
   ·repeat'(first|exact trivial|assumption|exact hml|(refine⟨?_,?_⟩)|(intro _)|exact zb rfl|exact zd _|(simp_all [allP];done))
   refine zl ⟨.inr rfl,za1 (by decide) rfl rfl trivial ?_⟩;show (acc,(0:Int),())=((zaG l).1,(zaG l).2,());rw[hR]
noncomputable def kLaF:Kn:={ gmK with C:=[(24,cFmt),(15,zpN),(25,cFmt),(23,ztM 4 80),(22,zr6),(26,zpU),(27,zpU)] }
theorem zbt:KnOk Tryz.prog gmH kLaF:=zaj.with (.cons zhA <| .cons zoa <| .cons zpq <| .cons zsX <| .cons znW <| .cons zkn <| .cons znp .nil)
set_option maxHeartbeats 1000000 in
theorem law2_ok:CtrOk Tryz.prog gmH 4 (lawCtr [.slice nd,.slice de,ints]):=by
 refine zal (K:=kLaF) zbt Tryz.func4 rfl rfl Tryz.call4 rfl (by decide) (by intro h;cases h) ?_;rintro w0 X hX ⟨(r:List Nd),(l:List De),(dr:List Int),_⟩ hp;change AWP _ _ _ _ _ ⟨[(0,⟨.slice nd,r⟩),(1,⟨.slice de,l⟩),(2,⟨ints,dr⟩)],[],0⟩ _;have m0:(0:Int)≤3:=by decide
 have m1:(3:Int)≤1000000:=by decide
 refine AWP.len 1 rfl fun hl=>?_;unfold maxLen at hl;refine za (za ?_);refine zaa hX zbt rfl ?_ ?_
 ·trivial
 refine za (za ?_);refine zaa hX zbt rfl ?_ ?_
 ·trivial
 refine za (za ?_);refine zaa hX zbt rfl ?_ ?_
 ·repeat'(first|exact trivial|assumption|(refine⟨?_,?_⟩)|(intro _)|exact zb rfl|exact zd _|(simp_all [allP];done))
 refine zae rfl (fun _=>?_) (fun _=>?_)
 ·(repeat(first|apply zaf|apply zab|apply zai|apply zad|apply zac|refine zaa hX zbt rfl trivial ?_|refine zaa hX zbt rfl id ?_|refine zaa hX zbt rfl ⟨id,id⟩ ?_));exact zl ⟨.inr rfl,zas rfl trivial rfl rfl rfl⟩
 apply zab;refine za (za ?_);refine zaa hX zbt rfl ?_ ?_
 ·trivial
 refine zap (σ':=⟨[(0,⟨.slice nd,r⟩),(1,⟨.slice de,l⟩),(2,⟨ints,dr⟩),(7,⟨.bool,true⟩),(8,⟨i64,(0:Int)⟩)],[],0⟩) ⟨⟨rfl,rfl,rfl,rfl,rfl,trivial⟩,trivial,rfl,rfl⟩ ?_;(repeat(first|apply zaf|apply zab|apply zac|apply zad));refine yi (ι:=Nat) (fun i=>⟨[(0,⟨.slice nd,r⟩),(1,⟨.slice de,l⟩),(2,⟨ints,dr⟩),(7,⟨.bool,true⟩),(8,⟨i64,(i:Int)⟩)],[],0⟩) (fun i=>i≤l.length) (fun i=>l.length - i) 0 (zn _) ⟨⟨rfl,rfl,rfl,rfl,rfl,trivial⟩,trivial,rfl,rfl⟩ ?_;intro i hi;refine za (za ?_);refine zaa hX zbt rfl ?_ ?_
 ·trivial
 refine zae rfl (fun hb=>?_) (fun hb=>?_)
 ·have hb:decide ((i:Int) < ((l.length:Nat):Int))=true:=hb;have hb:=of_decide_eq_true hb;have hlt:i < l.length:=by omega
  have z0:(0:Int)≤(i:Int):=by omega
  have z2:((i:Int)).toNat < l.length:=by omega
  refine za (za ?_);refine zaa hX zbt rfl ?_ ?_
  ·repeat'(first|exact trivial|assumption|exact z0|exact hb|exact z2|(refine⟨?_,?_⟩)|(intro _)|exact zb rfl|exact zd _|(simp_all [allP];done))
  refine zae rfl (fun _=>?_) (fun _=>?_)
  ·(repeat(first|apply zaf|apply zab|apply zai|apply zad|apply zac|refine zaa hX zbt rfl trivial ?_|refine zaa hX zbt rfl id ?_|refine zaa hX zbt rfl ⟨id,id⟩ ?_));exact zl ⟨.inr rfl,zas rfl trivial rfl rfl rfl⟩
  apply zab;refine za (za ?_);refine zaa hX zbt rfl ?_ ?_
  ·exact zaF (by omega)
  exact⟨i+1,hlt,by omega,⟨rfl,rfl,rfl,rfl,zbY _,trivial⟩,trivial,rfl,rfl⟩
 apply zad;refine za (za ?_);refine zaa hX zbt rfl ?_ ?_
 ·repeat'(first|exact trivial|assumption|exact m0|exact m1|(refine⟨?_,?_⟩)|(intro _)|exact zb rfl|exact zd _|(simp_all [allP];done))
 refine za (za ?_);refine zaa hX zbt rfl ?_ ?_
 ·trivial
 refine za (za ?_);refine zaa hX zbt rfl ?_ ?_
 ·trivial
 refine za (za ?_);refine zaa hX zbt rfl ?_ ?_
 ·trivial
 refine za (za ?_);refine zaa hX zbt rfl ?_ ?_
 ·trivial
 refine za (za ?_);refine zaa hX zbt rfl ?_ ?_
 ·trivial
 refine za (za ?_);refine zaa hX zbt rfl ?_ ?_
 ·trivial
 refine zap (σ':=⟨[(7,⟨.bool,true⟩),(10,⟨.str,(fmtS r).1⟩),(11,⟨i64,(fmtS r).2⟩),(12,⟨.str,(fmtS r).1⟩),(13,⟨i64,(fmtS r).2⟩),(14,⟨.str,(fmtS ((znf 4 80 dr 3).flat 0)).1⟩),(15,⟨i64,(fmtS ((znf 4 80 dr 3).flat 0)).2⟩),(16,⟨.str,(fmtS ((znf 4 80 dr 3).flat 0)).1⟩),(17,⟨i64,(fmtS ((znf 4 80 dr 3).flat 0)).2⟩),(18,⟨.str,(zaG l).1⟩),(19,⟨i64,(zaG l).2⟩),(20,⟨.str,(zaG l).1⟩),(21,⟨i64,(zaG l).2⟩)],[],0⟩) ⟨⟨rfl,rfl,rfl,rfl,rfl,rfl,rfl,rfl,rfl,rfl,rfl,rfl,rfl,trivial⟩,trivial,rfl,rfl⟩ ?_;generalize fmtS r=a;generalize fmtS ((znf 4 80 dr 3).flat 0)=b;generalize zaG l=c;refine za (za ?_);refine zaa hX zbt rfl ?_ ?_
 ·repeat'(first|exact trivial|assumption|(refine⟨?_,?_⟩)|(intro _)|exact zb rfl|exact zd _|(simp_all [allP];done))
 refine zl ⟨.inr rfl,zas rfl trivial rfl rfl ?_⟩;show (bif (bif (bif (bif (bif (bif eqb .str a.1 a.1 then (a.2==a.2) else false) then eqb .str b.1 b.1 else false) then (b.2==b.2) else false) then eqb .str c.1 c.1 else false) then (c.2==c.2) else false) then true else false)=true;rw[zbj.2 rfl,zbj.2 rfl,zbj.2 rfl];simp
end
end Go.Proofs.YtpeaigpfddalcaaGreatDoor
