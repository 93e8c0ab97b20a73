/-
  Texts of this claim, joined: what the statement's proof uses.
-/
import Derived.Test.YtdjjmoenpjlfeaaGreatDoorKE
set_option linter.unusedSimpArgs false
set_option linter.unusedVariables false
set_option maxRecDepth 100000
open And renaming intro -> vI
open BitVec renaming ofInt -> zV,toNat_ushiftRight -> jB
open Bool renaming and_eq_true -> zh,or_eq_false_iff -> jM
open Go.Proofs.Tryz renaming call18 -> fP,func18 -> fO,prog -> zf
open Go.Proofs.YtdjjmoenpjlfeaaGreatDoor renaming CtrOk -> yQ,RCtrOk -> vC
open Go.Proofs.YtdjjmoenpjlfeaaGreatDoor.AWP renaming loop -> yK,ret -> zC
open Go.Proofs.YtdjjmoenpjlfeaaGreatDoor.AllI renaming s -> zZ
open Go.Proofs.YtdjjmoenpjlfeaaGreatDoor.Frame renaming get -> zr
open Go.Proofs.YtdjjmoenpjlfeaaGreatDoor.RepD renaming scalar -> xE
open Go.Proofs.YtdjjmoenpjlfeaaGreatDoor.RepH renaming append -> qB
open Go.Proofs.YtdjjmoenpjlfeaaGreatDoor.StepA renaming eval -> yD,guardT -> qT
open Go.Proofs.YtdjjmoenpjlfeaaGreatDoor.StepK renaming eval -> yI,step -> yW
open Go.Proofs.YtdjjmoenpjlfeaaGreatDoor.StepP renaming eval -> js,store -> fQ
open Go.Proofs.YtdjjmoenpjlfeaaGreatDoor.StepX renaming eval -> fY
open Go.Proofs.YtdjjmoenpjlfeaaGreatDoor.Tr renaming flat -> kc,len_flat -> jY
open Int renaming le_refl -> qs,tmod -> fA,tmod_eq_emod_of_nonneg -> uj,toNat_natCast -> zS
open List renaming all_eq_true -> yH,append_assoc -> zB,append_nil -> yE,drop -> vV,drop_drop -> jq,drop_left' -> gm,eq_nil_of_length_eq_zero -> xC,flatten -> xP,flatten_append -> qb,getD_eq_getElem?_getD -> zH,getElem?_eq_getElem -> zR,getElem_mem -> qc,head_eq_of_cons_eq -> jN,length -> zp,length_append -> zl,length_cons -> yT,length_drop -> yY,length_replicate -> qf,length_set -> qP,length_singleton -> qy,length_take -> zP,mem_append -> yJ,mem_cons -> zE,mem_of_mem_take -> kb,mem_range -> qr,mem_singleton -> zQ,not_mem_nil -> zU,replicate -> zg,take -> jK,take_add -> kR,take_append_drop -> qx,take_append_of_le_length -> vv,take_left -> qQ,take_length -> yX,take_of_length_le -> qS,take_succ_eq_append_getElem -> zN
open Nat renaming le_of_ble_eq_true -> zb,le_refl -> zu,le_trans -> zL,lt_or_ge -> um,not_lt_zero -> yS,shiftRight_eq_div_pow -> jb,zero_le -> zk
open Prod renaming fst -> kM,snd -> vB
open True renaming intro -> kf
open UInt8 renaming ofNat -> zM,toNat_ofNat' -> jd
open Go Go.RowKit
namespace Go.Proofs.YtdjjmoenpjlfeaaGreatDoor
section
set_option maxRecDepth 10000
abbrev sRu(m:Mk)(d:Nat)(ids k:Int)(n:Nd)(a:List Nd):AS:=⟨[(0,⟨.optr mkr,⟨0,mkr,.here⟩⟩),(1,⟨i64,(d:Int)⟩),(2,⟨i64,ids⟩),(8,⟨.optr nd,⟨1,nd,.here⟩⟩),(9,⟨.slice nd,a⟩)],[(0,some (.box mkr m)),(1,some (.box nd n))],2⟩
set_option maxHeartbeats 8000000 in
theorem znF(D:Nat)(ih:vC zf gmG 75 (zgf D)):vC zf gmG 75 (zgf (D+1)):=by
 have hK:=zuK ih;refine zaW (K:=kRu D) hK Tryz.func75 rfl rfl Tryz.call75 rfl (zb rfl) (λw w' g hg h hk=>trivial) ?_;rintro w0 O g hX xb (m:Mk) ⟨(d:Int),(ids:Int),_⟩ hp;obtain⟨d,rfl⟩:∃e:Nat,d=(e:Int):=⟨d.toNat,by have:0<=d:=hp.1;omega⟩;obtain⟨h0,hD,hM,⟨h1,h2⟩,⟨h3,h4⟩,⟨h5,h6⟩,h7,h8⟩:0<=(d:Int)/\(d:Int)<((D+1:Nat):Int)/\mMax d<=10000/\(0<=mkU m/\mkU m+20*((mMax d:Nat):Int)<=500000)/\(0<=mkN m/\mkN m<=1000000)/\(0<=mkS m/\mkS m+((mMax d:Nat):Int)<=500000)/\0<ids/\ids<=1000000:=hp;have xa:(zgf (D+1)).out m ((d:Int),ids,())=(mTr ids d m).1.flat 0:=rfl;have x9:(zgf (D+1)).post m ((d:Int),ids,())=(mTr ids d m).2:=rfl;change AWP _ _ _ _ _ ⟨[(0,⟨.optr mkr,⟨0,mkr,.here⟩⟩),(1,⟨i64,(d:Int)⟩),(2,⟨i64,ids⟩)],[(0,some (.box mkr m))],1⟩ _;obtain⟨R,x6⟩:∃R,R=mTr ids d m:=⟨_,rfl⟩;have i1:inR .i64 (mkS m+1):=zah o_ o_
 iterate 2 (refine zaa (zaa (zab hK ?_)))
 have g1:0<=mkU (zaG m):=h1;have g2:mkU (zaG m)<=1000000:=by show mkU m<=_;omega
 refine zak (Y':=⟨[(0,⟨.optr mkr,⟨0,mkr,.here⟩⟩),(1,⟨i64,(d:Int)⟩),(2,⟨i64,ids⟩)],[(0,some (.box mkr (zaG m)))],1⟩) ⟨⟨rfl,rfl,rfl,t_⟩,⟨rfl,t_⟩,rfl,rfl⟩ ?_;have x8:=(zkX m).trans (zbj (zaG m) 14).ge;have hk:=zao (zaG m) (n:=14) d_;refine zaa (zaa (zab hK ?_));have x0:=@zqp ids d m;rw[<-x6]at x0;have x7:=@zuB ids (d-1) m;obtain⟨p,hP⟩:∃p,p=zad (zaG m) 14:=⟨_,rfl⟩;rw[<-hP]at x0 x7 x8 hk;refine zak (Y':=⟨[(0,⟨.optr mkr,⟨0,mkr,.here⟩⟩),(1,⟨i64,(d:Int)⟩),(2,⟨i64,ids⟩),(7,⟨i64,p.1⟩)],[(0,some (.box mkr p.2))],1⟩) ⟨⟨rfl,rfl,rfl,by rw[hP];rfl,t_⟩,⟨zct (by rw[hP];rfl),t_⟩,rfl,rfl⟩ ?_;clear hP;obtain⟨(k:Int),(m1:Mk)⟩:=p;have hk:0<=k/\k<14:=hk;obtain⟨e1,e2,⟨e3,e4⟩,e5,e6⟩:MkGe (0+1) (1+0) m m1:=x8;have xi:1<=mMax d:=by cases d with
  |zero=>exact zu _
  |succ d=>show 1<=2*mMax d+1;omega
 have x0:zfI d (k,m1)=true->R=(.leaf (zcJ m1 ids).1,(zcJ m1 ids).2):=x0;have hq:(bif (bif (bif decide ((d:Int)<=0) then true else decide (mkU m1>(((mkD m1).length:Nat):Int))) then true else decide (mkS m1>30)) then true else decide (k>=10))=zfI d (k,m1):=by
  rw[b_or,b_or,b_or];unfold zfI;have:decide ((d:Int)<=0)=decide (d=0):=decide_eq_decide.2 o_;rw[this]
 change AWP _ _ _ _ _ ⟨[(0,⟨.optr mkr,⟨0,mkr,.here⟩⟩),(1,⟨i64,(d:Int)⟩),(2,⟨i64,ids⟩),(7,⟨i64,k⟩)],[(0,some (.box mkr m1))],1⟩ _;refine zaa (zaa (zcE 24 dM hK rfl ?_));refine zae rfl (λhc=>?_) (λhc=>?_)
 .have hc:=hq.symm.trans hc;have hR:=x0 hc;refine zaa (zaa (zab hK ?_));refine AWP.frz hX 6 ?_;refine zC ⟨.inr rfl,?_,D1 ?_⟩
  .show some (OObj.box mkr (zcJ m1 ids).2)=some (OObj.box mkr (mTr ids d m).2);rw[<-x6,hR]
  .show [(zcJ m1 ids).1]=(mTr ids d m).1.flat 0;rw[<-x6,hR];rfl
 have hc:=hq.symm.trans hc;have xj:d≠0:=λh=>by
  have:zfI d (k,m1)=true:=by unfold zfI;rw[decide_eq_true h];rfl
  rw[this]at hc;cases hc
 obtain⟨d,rfl⟩:∃e,d=e+1:=⟨d-1,by omega⟩;have xf:k<10:=by
  unfold zfI at hc;simp only[jM,decide_eq_false_iff_not]at hc;have:=hc.2;omega
 have hR:=x7 (by rw[show d+1-1+1=d+1 by omega,hc];decide);rw[show d+1-1=d by omega, <-x6]at hR;clear x7 x0 hq hc;have hR:R=if two (8+k)=true then(.bin (8+k,0,0,0,(mCnt (8+k) (mTr ids d m1).2).1,0,[],[],()) (mTr ids d m1).1 (mTr ids d (mCnt (8+k) (mTr ids d m1).2).2).1,(mTr ids d (mCnt (8+k) (mTr ids d m1).2).2).2)
  else(.un (mOne (8+k) ids (mTr ids d m1).2).1 (mTr ids d m1).1,(mOne (8+k) ids (mTr ids d m1).2).2):=hR
 have xm:mMax (d+1)=2*mMax d+1:=rfl;have n2:((d+1:Nat):Int)-1<(D:Int):=o_;have n3:(((d+1:Nat):Int)-1).toNat=d:=o_;have n4:mMax (((d+1:Nat):Int)-1).toNat<=10000:=by rw[n3];omega
 have n5:0<=mkU m1/\mkU m1+20*((mMax (((d+1:Nat):Int)-1).toNat:Nat):Int)<=500000:=by rw[n3];omega
 have n6:0<=mkN m1/\mkN m1<=1000000:=o_;have n7:0<=mkS m1/\mkS m1+((mMax (((d+1:Nat):Int)-1).toNat:Nat):Int)<=500000:=by rw[n3];omega
 have n8:0<ids/\ids<=1000000:=⟨h7,h8⟩;have n9:inR .i64 (((d+1:Nat):Int)-1):=zah o_ (by have:=zok d;omega);have xe:inR .i64 (8+k):=zah o_ o_
 iterate 2 (refine zaa (zaa (zab hK ?_)))
 refine zak (Y':=sRu (mTr ids d m1).2 (d+1) ids (8+k) (8+k,0,0,0,0,0,[],[],()) ((mTr ids d m1).1.flat 0)) ⟨⟨rfl,rfl,rfl,rfl,by show(⟨.slice nd,(mTr ids (((d+1:Nat):Int)-1).toNat m1).1.flat 0⟩:V)=_;rw[n3],t_⟩,⟨zct (by show(mTr ids (((d+1:Nat):Int)-1).toNat m1).2=_;rw[n3]),rfl,t_⟩,rfl,rfl⟩ ?_;have sh:=zjG ids d m1 n6.1;have sz:=zfe ids d m1;have ge:=zgT ids d m1;generalize mTr ids d m1=A at *;obtain⟨(a:Tr),(m2:Mk)⟩:=A;have sh:TrSh a:=sh;have sz:a.size<=mMax d:=sz;obtain⟨f1,f2,⟨f3,f4⟩,f5,f6⟩:MkGe (20*mMax d) (mMax d) m1 m2:=ge;have sa:=zdD a;have la:=jY a 0;have hR:R=if two (8+k)=true then(.bin (8+k,0,0,0,(mCnt (8+k) m2).1,0,[],[],()) a (mTr ids d (mCnt (8+k) m2).2).1,(mTr ids d (mCnt (8+k) m2).2).2)
  else(.un (mOne (8+k) ids m2).1 a,(mOne (8+k) ids m2).2):=hR
 show AWP _ _ _ _ _ (sRu m2 (d+1) ids (8+k) (8+k,0,0,0,0,0,[],[],()) (a.flat 0)) _;generalize xc:8+k=c at *;have xh:8<=c/\c<=17:=o_;have w1:0<=mkU m2:=o_;have w2:mkU m2<=1000000:=o_;have w3:mkU m2<=900000:=o_;refine zaa (zaa (zab hK ?_));refine zae rfl (λhc=>?_) (λhc=>?_)
 .have hc:two c=true:=hc;rw[if_pos hc]at hR;apply zap;refine za1 (Y':=sRu (mCnt c m2).2 (d+1) ids c (c,0,0,0,(mCnt c m2).1,0,[],[],()) (a.flat 0)) ?_ ?_
  .refine zaa (zaa (zab hK ?_));refine zae rfl (λhb=>?_) (λhb=>?_)
   .have hb:(c==17)=true:=hb;have e:mCnt c m2=(1+(zad m2 3).1,(zad m2 3).2):=if_pos (eq_of_beq hb);have hp:=zao m2 (n:=3) d_;have z1:inR .i64 (1+(zad m2 3).1):=zah o_ o_;rw[e];refine zaa (zaa (zab hK ?_));exact⟨⟨rfl,rfl,rfl,rfl,rfl,t_⟩,⟨rfl,rfl,t_⟩,rfl,rfl⟩
   .have hb:(c==17)=false:=hb;have e:mCnt c m2=(0,m2):=if_neg (by simpa using hb);rw[e];apply zaf;exact⟨⟨rfl,rfl,rfl,rfl,rfl,t_⟩,⟨rfl,rfl,t_⟩,rfl,rfl⟩
  obtain⟨x1,x2,x3,x4,x5⟩:MkLe 1 m2 (mCnt c m2).2:=zmt c m2;generalize mCnt c m2=q at *;obtain⟨(cn:Int),(m3:Mk)⟩:=q;have x1:mkN m3=mkN m2:=x1;have x2:mkS m3=mkS m2:=x2;have x4:mkU m2<=mkU m3:=x4;have x5:mkU m3<=mkU m2+((1:Nat):Int):=x5;have hR:R=(.bin (c,0,0,0,cn,0,[],[],()) a (mTr ids d m3).1,(mTr ids d m3).2):=hR;have v5:0<=mkU m3/\mkU m3+20*((mMax (((d+1:Nat):Int)-1).toNat:Nat):Int)<=500000:=by rw[n3];omega
  have v6:0<=mkN m3/\mkN m3<=1000000:=o_;have v7:0<=mkS m3/\mkS m3+((mMax (((d+1:Nat):Int)-1).toNat:Nat):Int)<=500000:=by rw[n3];omega
  refine zaa (zaa (zab hK ?_));have sb:=zjG ids d m3 v6.1;have xk:=zfe ids d m3;have lb:=jY (mTr ids d m3).1 0;have xg:=zhb (mTr ids d m3).1 0 sb;have q1:1<=(a.flat 0).length:=o_;have q2:(a.flat 0).length<=100000:=o_;have q3:((mTr ids (((d+1:Nat):Int)-1).toNat m3).1.flat 0).length<=100000:=by rw[n3];omega
  have q4:∀n∈(mTr ids (((d+1:Nat):Int)-1).toNat m3).1.flat 0,(-1000000<=ndL n/\ndL n<=1000000)/\(-1000000<=ndR n/\ndR n<=1000000):=by
   rw[n3];intro n hn;have:=xg n hn;omega
  refine zaa (zaa (zab hK ?_));refine zC ⟨.inr rfl,?_,D1 ?_⟩
  .show some (OObj.box mkr (mTr ids (((d+1:Nat):Int)-1).toNat m3).2)=some (OObj.box mkr (mTr ids (d+1) m).2);rw[<-x6,hR,n3]
  .show zqZ (a.flat 0) ((mTr ids (((d+1:Nat):Int)-1).toNat m3).1.flat 0) (c,0,0,0,cn,0,[],[],())=(mTr ids (d+1) m).1.flat 0;rw[<-x6,hR,n3,zpm a (mTr ids d m3).1 _ sb]
 .have hc:two c=false:=hc;rw[hc,if_neg d_]at hR;have xd:¬two c=true:=by rw[hc];decide
  rw[zeV]at xd;apply zaf;refine zaa (zaa (zab hK ?_));refine za1 (Y':=sRu (mOne c ids m2).2 (d+1) ids c (mOne c ids m2).1 (a.flat 0)) ?_ ?_
  .apply zaq;clear hR xc xe;rcases (show c=11\/c=12\/c=13\/c=14\/c=15\/c=16 by omega) with rfl|rfl|rfl|rfl|rfl|rfl
   .
    refine zaa (zaa (zab hK ?_));refine zbu rfl ?_;have hp:=zao m2 (n:=15) d_;have z1:inR .i64 ((zad m2 15).1-7):=zah o_ o_;refine zaa (zaa (zab hK ?_));exact⟨⟨rfl,rfl,rfl,rfl,rfl,t_⟩,⟨rfl,rfl,t_⟩,rfl,rfl⟩
   .
    refine zaa (zaa (zab hK ?_));refine zaL rfl ?_;refine zaa (zaa (zab hK ?_));refine zbu rfl ?_;apply zaf;refine zbu rfl ?_;refine zaa (zaa (zab hK ?_));exact⟨⟨rfl,rfl,rfl,rfl,rfl,t_⟩,⟨rfl,rfl,t_⟩,rfl,rfl⟩
   .
    iterate 2 (refine zaa (zaa (zab hK ?_));refine zaL rfl ?_)
    refine zaa (zaa (zab hK ?_));refine zbu rfl ?_;refine zaa (zaa (zab hK ?_));exact⟨⟨rfl,rfl,rfl,rfl,rfl,t_⟩,⟨rfl,rfl,t_⟩,rfl,rfl⟩
   .
    iterate 3 (refine zaa (zaa (zab hK ?_));refine zaL rfl ?_)
    refine zaa (zaa (zab hK ?_));refine zbu rfl ?_;apply zaf;refine zbu rfl ?_;refine zaa (zaa (zab hK ?_));exact⟨⟨rfl,rfl,rfl,rfl,rfl,t_⟩,⟨rfl,rfl,t_⟩,rfl,rfl⟩
   .
    iterate 4 (refine zaa (zaa (zab hK ?_));refine zaL rfl ?_)
    refine zaa (zaa (zab hK ?_));refine zbu rfl ?_;refine zaa (zaa (zab hK ?_));exact⟨⟨rfl,rfl,rfl,rfl,rfl,t_⟩,⟨rfl,rfl,t_⟩,rfl,rfl⟩
   .
    iterate 5 (refine zaa (zaa (zab hK ?_));refine zaL rfl ?_)
    have z2:0<=mkU (zad m2 ids).2:=by rw[zaC];omega
    have z3:mkU (zad m2 ids).2<=1000000:=by rw[zaC];omega
    have z4:0<=mkU (zad (zad m2 ids).2 2).2:=by rw[zaC,zaC];omega
    have z5:mkU (zad (zad m2 ids).2 2).2<=900000:=by rw[zaC,zaC];omega
    have z6:ids<=1000000000:=o_
    iterate 3 (refine zaa (zaa (zab hK ?_)))
    exact⟨⟨rfl,rfl,rfl,rfl,rfl,t_⟩,⟨rfl,rfl,t_⟩,rfl,rfl⟩
  show AWP _ _ _ _ _ (sRu (mOne c ids m2).2 (d+1) ids c (mOne c ids m2).1 (a.flat 0)) _;have q2:(a.flat 0).length<=1000000:=o_;refine zaa (zaa (zab hK ?_));refine zC ⟨.inr rfl,?_,D1 ?_⟩
  .show some (OObj.box mkr (mOne c ids m2).2)=some (OObj.box mkr (mTr ids (d+1) m).2);rw[<-x6,hR]
  .show zp6 (a.flat 0) (mOne c ids m2).1=(mTr ids (d+1) m).1.flat 0;rw[<-x6,hR,znZ]
theorem zqe(D:Nat):vC zf gmG 75 (zgf D):=by
 induction D with
 |zero=>
  refine⟨Tryz.call75,λw O g cs ty x xs vs _ _ _ _ hp=>?_⟩;obtain⟨(d:Int),(ids:Int),_⟩:=xs;have h1:0<=d:=hp.1;have h2:d<((0:Nat):Int):=hp.2.1;omega
 |succ D ih=>exact znF D ih
def zonL:List (List UInt8):=[[122],[69,97,114,116,104,47,78,111,114,116,104],[117,116,99,45,50],[120,32,121]]
def mSt(m:Mk)(d:Int):Nat->Mk×Int×List mv.T
 |0=>(m,d,[])
 |i+1=>((zad (zbx (mSt m d i).1 (mSt m d i).2.1).2 9).2,(mSt m d i).2.1+1+(zad (zbx (mSt m d i).1 (mSt m d i).2.1).2 9).1,(mSt m d i).2.2++[(zbx (mSt m d i).1 (mSt m d i).2.1).1])
def mk1(m:Mk):Mk:=(mTr 3 2 m).2
def mk2(m:Mk):Int×Mk:=zad (mk1 m) 1440
def mk3(m:Mk):Int×Mk:=zad (mk2 m).2 200
def mk4(m:Mk):Int×Mk:=zad (mk3 m).2 4
def mk5(m:Mk):Int×Mk:=zad (mk4 m).2 3
def mk6(m:Mk):Int×Mk:=zad (mk5 m).2 3
def mk7(m:Mk):Int×Mk:=zad (mk6 m).2 20
def mk8(m:Mk):Int×Mk:=zad (mk7 m).2 3
def mSer(m:Mk):se.T×Mk:=(((mTr 3 2 m).1.flat 0,(mk2 m).1,1+(mk3 m).1,zonL.getD (mk4 m).1.toNat [],(mk5 m).1,(mk6 m).1,(mSt (mk8 m).2 (mk7 m).1 (mk8 m).1.toNat).2.2,()),(mSt (mk8 m).2 (mk7 m).1 (mk8 m).1.toNat).1)
def cMSe:RCtr:={ self:=mkr,args:=[],inv:=λ_ _=>True,pre:=λm xs=>[0<=mkU m/\mkU m<=50000,0<=mkN m/\mkN m<=1000000,0<=mkS m/\mkS m<=50000],res:=se,out:=λm xs=>(mSer m).1,post:=λm xs=>(mSer m).2 }
def kMSe:Kn:={ gmK with R:=[(16,ziY),(75,zgf 3),(54,cMMv)],H:=[35] }
theorem zby:KnOk zf gmG kMSe:=⟨zfi,zjW,CsOk.nil,λ_ _ _ _=>trivial,.cons zd9 (λ_ _=>trivial) (.cons (zqe 3) (λ_ _=>trivial) (.cons zgS (λ_ _=>trivial) .nil))⟩
theorem znv(x:Option Addr)(y z:Nat):zf.built 35 [(0,.slice x y z)]=some #[.slice x y z,.int .i64 0,.int .i64 0,.string ⟨#[]⟩,.int .i64 0,.int .i64 0,.slice none 0 0]:=by kernel_rfl
abbrev svL(r:V)(mi le:Int)(z:List UInt8)(ga fo:Int)(mo:V):List V:=[r,⟨i64,mi⟩,⟨i64,le⟩,⟨.str,z⟩,⟨i64,ga⟩,⟨i64,fo⟩,mo]
abbrev nilS:V:=⟨.lit,.slice none 0 0⟩
def MkU(k:Int)(m m':Mk):Prop:=mkD m'=mkD m/\mkN m'=mkN m/\mkS m'=mkS m/\mkU m<=mkU m'/\mkU m'<=mkU m+k
theorem MkU.pick(m:Mk)(n:Int):MkU 1 m (zad m n).2:=⟨rfl,rfl,rfl,by rw[zaC];omega,by rw[zaC];omega⟩
theorem MkU.trans{a b:Int}{m m' x0:Mk}(h:MkU a m m')(h':MkU b m' x0):MkU (a+b) m x0:=⟨h'.1.trans h.1,h'.2.1.trans h.2.1,h'.2.2.1.trans h.2.2.1,Int.le_trans h.2.2.2.1 h'.2.2.2.1,by have:=h.2.2.2.2;have:=h'.2.2.2.2;omega⟩
theorem MkU.le{a b:Int}{m m':Mk}(h:MkU a m m')(x0:a<=b):MkU b m m':=⟨h.1,h.2.1,h.2.2.1,h.2.2.2.1,by have:=h.2.2.2.2;omega⟩
theorem MkU.refl(m:Mk):MkU 0 m m:=⟨rfl,rfl,rfl,qs _,by omega⟩
theorem ziH(m:Mk)(d:Int):MkU 4 m (zbx m d).2:=by
 unfold zbx;split
 .exact(MkU.pick m 3).le d_
 .exact(((MkU.pick _ 3).trans (MkU.pick _ 60)).trans (MkU.pick _ 1440)).trans (MkU.pick _ 300)
theorem zsP(m:Mk)(d:Int):∀i:Nat,MkU (5*(i:Int)) m (mSt m d i).1
 |0=>MkU.refl m
 |i+1=>(((zsP m d i).trans (ziH _ _)).trans (MkU.pick _ 9)).le o_
theorem zsQ(m:Mk)(d:Int):∀i:Nat,d+(i:Int)<=(mSt m d i).2.1/\(mSt m d i).2.1<=d+9*(i:Int)
 |0=>⟨by show d+((0:Nat):Int)<=d;omega,by show d<=d+9*((0:Nat):Int);omega⟩
 |i+1=>by
  have h:=zsQ m d i;have h1:=zao (zbx (mSt m d i).1 (mSt m d i).2.1).2 (n:=9) d_;show d+((i+1:Nat):Int)<=(mSt m d i).2.1+1+(zad (zbx (mSt m d i).1 (mSt m d i).2.1).2 9).1/\(mSt m d i).2.1+1+(zad (zbx (mSt m d i).1 (mSt m d i).2.1).2 9).1<=d+9*((i+1:Nat):Int);omega
theorem zkH(m:Mk)(d:Int):∀i,(mSt m d i).2.2.length=i
 |0=>rfl
 |i+1=>by
  show((mSt m d i).2.2++[_]).length=i+1;rw[zl,zkH m d i];rfl
theorem hbTo{t:TypeId}{x y:List V}(h:x=y):some (OObj.hbox t x)=some (OObj.hbox t y):=by rw[h]
set_option maxHeartbeats 4000000 in
theorem ziF:vC zf gmG 55 cMSe:=by
 refine zaW (K:=kMSe) zby Tryz.func55 rfl rfl Tryz.call55 rfl d_ (λw w' g hg h hk=>trivial) ?_;rintro w0 O g hX hinv (m:Mk) ⟨⟩ ⟨⟨h1,h2⟩,⟨h3,h4⟩,h5,h6⟩;have h1:0<=mkU m:=h1;have h2:mkU m<=50000:=h2;have h3:0<=mkN m:=h3;have h4:mkN m<=1000000:=h4;have h5:0<=mkS m:=h5;have h6:mkS m<=50000:=h6;change AWP _ _ _ _ _ ⟨[(0,⟨.optr mkr,⟨0,mkr,.here⟩⟩)],[(0,some (.box mkr m))],1⟩ _;refine zaa (zaa (zab zar ?_));refine zaa (zaa (zaj ?_));have hM:((mMax 2:Nat):Int)=7:=rfl;have a2:(0:Int)<=2:=d_;have a3:(2:Int)<((3:Nat):Int):=d_;have a4:mMax (2:Int).toNat<=10000:=d_;have a5:0<=mkU m/\mkU m+20*((mMax (2:Int).toNat:Nat):Int)<=500000:=⟨h1,by show mkU m+20*((mMax 2:Nat):Int)<=500000;omega⟩;have a7:0<=mkS m/\mkS m+((mMax (2:Int).toNat:Nat):Int)<=500000:=⟨h5,by show mkS m+((mMax 2:Nat):Int)<=500000;omega⟩;have a8:(0:Int)<3/\(3:Int)<=1000000:=d_;refine AL.take 2 hX zby rfl (by exact⟨a2,a3,a4,a5,⟨h3,h4⟩,a7,a8⟩) ?_;obtain⟨ru,hru⟩:∃x,x=(mTr 3 2 m).1.flat 0:=⟨_,rfl⟩;obtain⟨m1,hm1⟩:∃x,x=(mTr 3 2 m).2:=⟨_,rfl⟩;have ge:=zgT 3 2 m;rw[<-hm1]at ge;obtain⟨f1,f2,⟨f3,f4⟩,f5,f6⟩:MkGe (20*mMax 2) (mMax 2) m m1:=ge;have hM2:mMax 2=7:=rfl;rw[hM2]at f4 f6;refine AL.fit (Y':=⟨[(9,⟨.slice nd,ru⟩),(0,⟨.optr mkr,⟨0,mkr,.here⟩⟩),(2,⟨.optr se,⟨1,se,.here⟩⟩)],[(0,some (.box mkr m1)),(1,some (.box se zSe))],2⟩) ⟨⟨congrArg (λz=>(⟨.slice nd,z⟩:V)) hru.symm,rfl,rfl,t_⟩,⟨zct hm1.symm,rfl,t_⟩,rfl,rfl⟩ ?_;refine AL.hand rfl (by intro c e;cases e) λU a w hs=>?_;have h9:RepD w _ (.slice nd) ru (a.eval (.tmp 9)):=hs.ops (.tmp 9);obtain⟨x,y,z,e9⟩:∃x y z,a.eval (.tmp 9)=.slice x y z:=by
  obtain⟨u,hu,h|h⟩:=(xE (t:=.slice nd) rfl).1 h9
  .obtain⟨_,A,c,e,_⟩:=h;exact⟨_,_,_,(jN hu).trans e⟩
  .obtain⟨g,o,c,vs,e,_⟩:=h;exact⟨_,_,_,(jN hu).trans e⟩
 rw[e9]at h9;refine zbX (v:=⟨.hcons (.slice nd) (.hcons i64 (.hcons i64 (.hcons .str (.hcons i64 (.hcons i64 (.hcons .lit .unit)))))),(ru,((0:Int),((0:Int),(([]:List UInt8),((0:Int),((0:Int),(Value.slice none 0 0,())))))))⟩) rfl rfl (by exact zk _) (N:=λY'=>AL _ w0 _ _ _ _ Y' _) ?_ hs (u:=.agg #[.slice x y z,.int .i64 0,.int .i64 0,.string ⟨#[]⟩,.int .i64 0,.int .i64 0,.slice none 0 0]) ?_ ?_
 rotate_left
 .unfold execOp;refine za7 ?_;rw[show(#[(0,Operand.tmp 9)]:Array (Nat×Operand)).map (λp=>(p.1,a.eval p.2))= #[(0,Value.slice x y z)] from by
   simp[e9]]
  exact run_build w _ _ _ (znv x y z)
 .refine⟨_,[.int .i64 0,.int .i64 0,.string ⟨#[]⟩,.int .i64 0,.int .i64 0,.slice none 0 0],rfl,rfl,h9,?_⟩;refine⟨_,[.int .i64 0,.string ⟨#[]⟩,.int .i64 0,.int .i64 0,.slice none 0 0],rfl,rfl,(xE (t:=.int .i64) rfl).2 rfl,?_⟩;refine⟨_,[.string ⟨#[]⟩,.int .i64 0,.int .i64 0,.slice none 0 0],rfl,rfl,(xE (t:=.int .i64) rfl).2 rfl,?_⟩;refine⟨_,[.int .i64 0,.int .i64 0,.slice none 0 0],rfl,rfl,(xE (t:=.str) rfl).2 ⟨rfl,zk _⟩,?_⟩;refine⟨_,[.int .i64 0,.slice none 0 0],rfl,rfl,(xE (t:=.int .i64) rfl).2 rfl,?_⟩;refine⟨_,[.slice none 0 0],rfl,rfl,(xE (t:=.int .i64) rfl).2 rfl,?_⟩;exact⟨_,[],rfl,rfl,rfl,(RepD.agg rfl).2 ⟨[],rfl,rfl⟩⟩
 clear h9 e9 hs;refine zau zby ?_;have u1:0<=mkU m1:=o_;have u2:mkU m1<=100000:=o_;refine zak (Y':=⟨[(0,⟨.optr mkr,⟨0,mkr,.here⟩⟩),(2,⟨.optr se,⟨1,se,.here⟩⟩),(3,⟨.hptr,((2:Nat),(0:Nat))⟩)],[(0,some (.box mkr m1)),(1,some (.box se zSe)),(2,some (.hbox 35 (svL ⟨.slice nd,ru⟩ 0 0 [] 0 0 nilS)))],3⟩) ⟨⟨rfl,rfl,rfl,t_⟩,⟨rfl,rfl,rfl,t_⟩,rfl,rfl⟩ ?_;obtain⟨⟨q2,nq2⟩,hq2⟩:∃p:Int×Mk,p=zad m1 1440:=⟨_,rfl⟩;have lq2:0<=q2/\q2<1440:=by have:=zao m1 (n:=1440) d_;rw[<-hq2]at this;exact this
 have vq2:mkU nq2=mkU m1+1:=by have:=zaC m1 1440;rw[<-hq2]at this;exact this
 have aq2:0<=mkU m1/\mkU m1<=1000000/\0<(1440:Int)/\(1440:Int)<=1000000000:=⟨by omega,by omega,by decide,by decide⟩;refine zaa (zaa (zab zby ?_ (hp:=by exact⟨aq2.1,aq2.2.1,aq2.2.2.1,aq2.2.2.2⟩)));refine zak (Y':=⟨[(0,⟨.optr mkr,⟨0,mkr,.here⟩⟩),(2,⟨.optr se,⟨1,se,.here⟩⟩),(3,⟨.hptr,((2:Nat),(0:Nat))⟩)],[(0,some (.box mkr nq2)),(1,some (.box se zSe)),(2,some (.hbox 35 (svL ⟨.slice nd,ru⟩ q2 0 [] 0 0 nilS)))],3⟩) ⟨⟨rfl,rfl,rfl,t_⟩,⟨zct (congrArg vB hq2.symm),rfl,hbTo (congrArg (λz=>svL ⟨.slice nd,ru⟩ z 0 [] 0 0 nilS) (congrArg kM hq2.symm)),t_⟩,rfl,rfl⟩ ?_;obtain⟨⟨q3,nq3⟩,hq3⟩:∃p:Int×Mk,p=zad nq2 200:=⟨_,rfl⟩;have lq3:0<=q3/\q3<200:=by have:=zao nq2 (n:=200) d_;rw[<-hq3]at this;exact this
 have vq3:mkU nq3=mkU nq2+1:=by have:=zaC nq2 200;rw[<-hq3]at this;exact this
 have aq3:0<=mkU nq2/\mkU nq2<=1000000/\0<(200:Int)/\(200:Int)<=1000000000:=⟨by omega,by omega,by decide,by decide⟩;have zq3:inR .i64 (1+(zad nq2 200).1):=by rw[<-hq3];exact zah (by show _<=1+q3;omega) (by show 1+q3<=_;omega)
 refine zaa (zaa (zab zby ?_ (hp:=by exact⟨aq3.1,aq3.2.1,aq3.2.2.1,aq3.2.2.2,zq3⟩)));refine zak (Y':=⟨[(0,⟨.optr mkr,⟨0,mkr,.here⟩⟩),(2,⟨.optr se,⟨1,se,.here⟩⟩),(3,⟨.hptr,((2:Nat),(0:Nat))⟩)],[(0,some (.box mkr nq3)),(1,some (.box se zSe)),(2,some (.hbox 35 (svL ⟨.slice nd,ru⟩ q2 (1+q3) [] 0 0 nilS)))],3⟩) ⟨⟨rfl,rfl,rfl,t_⟩,⟨zct (congrArg vB hq3.symm),rfl,hbTo (congrArg (λz=>svL ⟨.slice nd,ru⟩ q2 (1+z) [] 0 0 nilS) (congrArg kM hq3.symm)),t_⟩,rfl,rfl⟩ ?_;refine zaa (zaa (zab zby ?_));obtain⟨⟨q4,nq4⟩,hq4⟩:∃p:Int×Mk,p=zad nq3 4:=⟨_,rfl⟩;have lq4:0<=q4/\q4<4:=by have:=zao nq3 (n:=4) d_;rw[<-hq4]at this;exact this
 have vq4:mkU nq4=mkU nq3+1:=by have:=zaC nq3 4;rw[<-hq4]at this;exact this
 have aq4:0<=mkU nq3/\mkU nq3<=1000000/\0<(4:Int)/\(4:Int)<=1000000000:=⟨by omega,by omega,by decide,by decide⟩;refine zak (Y':=⟨[(0,⟨.optr mkr,⟨0,mkr,.here⟩⟩),(2,⟨.optr se,⟨1,se,.here⟩⟩),(3,⟨.hptr,((2:Nat),(0:Nat))⟩),(4,⟨.obuf .str,(3:Nat)⟩)],(3,some (.buf 9 .str zonL)):: [(0,some (.box mkr nq3)),(1,some (.box se zSe)),(2,some (.hbox 35 (svL ⟨.slice nd,ru⟩ q2 (1+q3) [] 0 0 nilS)))],4⟩) ⟨⟨rfl,rfl,rfl,rfl,t_⟩,⟨rfl,rfl,rfl,rfl,t_⟩,rfl,rfl⟩ ?_;have zq4:0<=(zad nq3 4).1/\(zad nq3 4).1<((zonL.length:Nat):Int)/\(zad nq3 4).1.toNat<zonL.length:=by rw[<-hq4];exact⟨lq4.1,lq4.2,by show q4.toNat<4;omega⟩
 refine zaa (zaa (zab zby ?_ (hp:=by exact⟨aq4.1,aq4.2.1,aq4.2.2.1,aq4.2.2.2,zq4.1,zq4.2.1,zq4.2.2⟩)));refine zak (Y':=⟨[(0,⟨.optr mkr,⟨0,mkr,.here⟩⟩),(2,⟨.optr se,⟨1,se,.here⟩⟩),(3,⟨.hptr,((2:Nat),(0:Nat))⟩)],[(0,some (.box mkr nq4)),(1,some (.box se zSe)),(2,some (.hbox 35 (svL ⟨.slice nd,ru⟩ q2 (1+q3) (zonL.getD q4.toNat []) 0 0 nilS)))],3⟩) ⟨⟨rfl,rfl,rfl,t_⟩,⟨zct (congrArg vB hq4.symm),rfl,hbTo (congrArg (λ(z:Int)=>svL ⟨.slice nd,ru⟩ q2 (1+q3) (zonL.getD z.toNat []) 0 0 nilS) (congrArg kM hq4.symm)),t_⟩,rfl,rfl⟩ ?_;obtain⟨zo,hzo⟩:∃x,x=zonL.getD q4.toNat []:=⟨_,rfl⟩;rw[<-hzo];obtain⟨⟨q5,nq5⟩,hq5⟩:∃p:Int×Mk,p=zad nq4 3:=⟨_,rfl⟩;have lq5:0<=q5/\q5<3:=by have:=zao nq4 (n:=3) d_;rw[<-hq5]at this;exact this
 have vq5:mkU nq5=mkU nq4+1:=by have:=zaC nq4 3;rw[<-hq5]at this;exact this
 have aq5:0<=mkU nq4/\mkU nq4<=1000000/\0<(3:Int)/\(3:Int)<=1000000000:=⟨by omega,by omega,by decide,by decide⟩;refine zaa (zaa (zab zby ?_ (hp:=by exact⟨aq5.1,aq5.2.1,aq5.2.2.1,aq5.2.2.2⟩)));refine zak (Y':=⟨[(0,⟨.optr mkr,⟨0,mkr,.here⟩⟩),(2,⟨.optr se,⟨1,se,.here⟩⟩),(3,⟨.hptr,((2:Nat),(0:Nat))⟩)],[(0,some (.box mkr nq5)),(1,some (.box se zSe)),(2,some (.hbox 35 (svL ⟨.slice nd,ru⟩ q2 (1+q3) zo q5 0 nilS)))],3⟩) ⟨⟨rfl,rfl,rfl,t_⟩,⟨zct (congrArg vB hq5.symm),rfl,hbTo (congrArg (λz=>svL ⟨.slice nd,ru⟩ q2 (1+q3) zo z 0 nilS) (congrArg kM hq5.symm)),t_⟩,rfl,rfl⟩ ?_;obtain⟨⟨q6,nq6⟩,hq6⟩:∃p:Int×Mk,p=zad nq5 3:=⟨_,rfl⟩;have lq6:0<=q6/\q6<3:=by have:=zao nq5 (n:=3) d_;rw[<-hq6]at this;exact this
 have vq6:mkU nq6=mkU nq5+1:=by have:=zaC nq5 3;rw[<-hq6]at this;exact this
 have aq6:0<=mkU nq5/\mkU nq5<=1000000/\0<(3:Int)/\(3:Int)<=1000000000:=⟨by omega,by omega,by decide,by decide⟩;refine zaa (zaa (zab zby ?_ (hp:=by exact⟨aq6.1,aq6.2.1,aq6.2.2.1,aq6.2.2.2⟩)));refine zak (Y':=⟨[(0,⟨.optr mkr,⟨0,mkr,.here⟩⟩),(2,⟨.optr se,⟨1,se,.here⟩⟩),(3,⟨.hptr,((2:Nat),(0:Nat))⟩)],[(0,some (.box mkr nq6)),(1,some (.box se zSe)),(2,some (.hbox 35 (svL ⟨.slice nd,ru⟩ q2 (1+q3) zo q5 q6 nilS)))],3⟩) ⟨⟨rfl,rfl,rfl,t_⟩,⟨zct (congrArg vB hq6.symm),rfl,hbTo (congrArg (λz=>svL ⟨.slice nd,ru⟩ q2 (1+q3) zo q5 z nilS) (congrArg kM hq6.symm)),t_⟩,rfl,rfl⟩ ?_;obtain⟨⟨q7,nq7⟩,hq7⟩:∃p:Int×Mk,p=zad nq6 20:=⟨_,rfl⟩;have lq7:0<=q7/\q7<20:=by have:=zao nq6 (n:=20) d_;rw[<-hq7]at this;exact this
 have vq7:mkU nq7=mkU nq6+1:=by have:=zaC nq6 20;rw[<-hq7]at this;exact this
 have aq7:0<=mkU nq6/\mkU nq6<=1000000/\0<(20:Int)/\(20:Int)<=1000000000:=⟨by omega,by omega,by decide,by decide⟩;refine zaa (zaa (zab zby ?_ (hp:=by exact⟨aq7.1,aq7.2.1,aq7.2.2.1,aq7.2.2.2⟩)));refine zak (Y':=⟨[(0,⟨.optr mkr,⟨0,mkr,.here⟩⟩),(2,⟨.optr se,⟨1,se,.here⟩⟩),(3,⟨.hptr,((2:Nat),(0:Nat))⟩),(5,⟨i64,q7⟩)],[(0,some (.box mkr nq7)),(1,some (.box se zSe)),(2,some (.hbox 35 (svL ⟨.slice nd,ru⟩ q2 (1+q3) zo q5 q6 nilS)))],3⟩) ⟨⟨rfl,rfl,rfl,vI64 (congrArg kM hq7.symm),t_⟩,⟨zct (congrArg vB hq7.symm),rfl,rfl,t_⟩,rfl,rfl⟩ ?_;obtain⟨⟨q8,nq8⟩,hq8⟩:∃p:Int×Mk,p=zad nq7 3:=⟨_,rfl⟩;have lq8:0<=q8/\q8<3:=by have:=zao nq7 (n:=3) d_;rw[<-hq8]at this;exact this
 have vq8:mkU nq8=mkU nq7+1:=by have:=zaC nq7 3;rw[<-hq8]at this;exact this
 have aq8:0<=mkU nq7/\mkU nq7<=1000000/\0<(3:Int)/\(3:Int)<=1000000000:=⟨by omega,by omega,by decide,by decide⟩;refine zaa (zaa (zab zby ?_ (hp:=by exact⟨aq8.1,aq8.2.1,aq8.2.2.1,aq8.2.2.2⟩)));refine zak (Y':=⟨[(0,⟨.optr mkr,⟨0,mkr,.here⟩⟩),(2,⟨.optr se,⟨1,se,.here⟩⟩),(3,⟨.hptr,((2:Nat),(0:Nat))⟩),(5,⟨i64,q7⟩),(6,⟨i64,q8⟩)],[(0,some (.box mkr nq8)),(1,some (.box se zSe)),(2,some (.hbox 35 (svL ⟨.slice nd,ru⟩ q2 (1+q3) zo q5 q6 nilS)))],3⟩) ⟨⟨rfl,rfl,rfl,rfl,vI64 (congrArg kM hq8.symm),t_⟩,⟨zct (congrArg vB hq8.symm),rfl,rfl,t_⟩,rfl,rfl⟩ ?_;have hout:mSer m=((ru,q2,1+q3,zo,q5,q6,(mSt nq8 q7 q8.toNat).2.2,()),(mSt nq8 q7 q8.toNat).1):=by
  unfold mSer mk8 mk7 mk6 mk5 mk4 mk3 mk2 mk1;rw[<-hm1, <-hru, <-hq2, <-hq3, <-hq4, <-hzo, <-hq5, <-hq6, <-hq7, <-hq8]
 refine za9 2 6 30 mv rfl rfl rfl ?_;refine zaa (zaa (zab zby ?_));refine zaa ?_;refine yK (ι:=Nat) (λk=>⟨[(0,⟨.optr mkr,⟨0,mkr,.here⟩⟩),(2,⟨.optr se,⟨1,se,.here⟩⟩),(3,⟨.hptr,((2:Nat),(0:Nat))⟩),(5,⟨i64,(mSt nq8 q7 k).2.1⟩),(6,⟨i64,q8⟩),(7,⟨i64,(k:Int)⟩)],[(0,some (.box mkr (mSt nq8 q7 k).1)),(1,some (.box se zSe)),(2,some (.hbox 35 (svL ⟨.slice nd,ru⟩ q2 (1+q3) zo q5 q6 ⟨.obuf mv,(3:Nat)⟩))),(3,some (.buf 30 mv (mSt nq8 q7 k).2.2))],4⟩) (λk=>(k:Int)<=q8) (λk=>3-k) 0 (by show((0:Nat):Int)<=q8;omega) ⟨⟨rfl,rfl,rfl,rfl,rfl,rfl,t_⟩,⟨rfl,rfl,rfl,rfl,t_⟩,rfl,rfl⟩ ?_;intro k hk;refine zaa (zaa (zab zby ?_));refine zaa ?_;refine zaN rfl (λhb=>?_) (λhb=>?_)
 .have hb:(k:Int)<q8:=hb;have g1:=zsP nq8 q7 k;have g2:=zsQ nq8 q7 k;have g3:=zkH nq8 q7 k;have hs1:mSt nq8 q7 (k+1)=((zad (zbx (mSt nq8 q7 k).1 (mSt nq8 q7 k).2.1).2 9).2,(mSt nq8 q7 k).2.1+1+(zad (zbx (mSt nq8 q7 k).1 (mSt nq8 q7 k).2.1).2 9).1,(mSt nq8 q7 k).2.2++[(zbx (mSt nq8 q7 k).1 (mSt nq8 q7 k).2.1).1]):=rfl;generalize mSt nq8 q7 k=s at *;obtain⟨(n:Mk),(d:Int),(mo:List mv.T)⟩:=s;obtain⟨_,_,_,c1,c2⟩:MkU (5*(k:Int)) nq8 n:=g1;have g2:q7+(k:Int)<=d/\d<=q7+9*(k:Int):=g2;have g3:mo.length=k:=g3;obtain⟨⟨x,n2⟩,hx⟩:∃p,p=zbx n d:=⟨_,rfl⟩;have e1:(zbx n d).1=x:=(congrArg kM hx).symm;have e2:(zbx n d).2=n2:=(congrArg vB hx).symm;have hs1:mSt nq8 q7 (k+1)=((zad (zbx n d).2 9).2,d+1+(zad (zbx n d).2 9).1,mo++[(zbx n d).1]):=hs1;rw[e1,e2]at hs1;obtain⟨_,_,_,c3,c4⟩:MkU 4 n n2:=by rw[<-e2];exact ziH n d
  have pc:0<=mkU n/\mkU n<=100000:=⟨by omega,by omega⟩;have p3:mo.length+1<=1000000000:=o_;have c5:0<=mkU n2/\mkU n2<=1000000/\0<(9:Int)/\(9:Int)<=1000000000:=⟨by omega,by omega,by decide,by decide⟩;have c6:=zao n2 (n:=9) d_;have q:inR .i64 ((k:Int)+1):=zah o_ o_;have z1:inR .i64 (d+1):=zah o_ o_;have z2:inR .i64 (d+1+(zad n2 9).1):=zah o_ o_;apply zaf;refine zaa ?_;refine zco (Y':=⟨[(0,⟨.optr mkr,⟨0,mkr,.here⟩⟩),(2,⟨.optr se,⟨1,se,.here⟩⟩),(3,⟨.hptr,((2:Nat),(0:Nat))⟩),(5,⟨i64,d⟩),(6,⟨i64,q8⟩),(7,⟨i64,(k:Int)⟩)],[(0,some (.box mkr n2)),(1,some (.box se zSe)),(2,some (.hbox 35 (svL ⟨.slice nd,ru⟩ q2 (1+q3) zo q5 q6 ⟨.obuf mv,(3:Nat)⟩))),(3,some (.buf 30 mv (mo++[x])))],4⟩) dM 9 rfl (by kernel_rfl) ?_ ?_
  .repeat'(first|exact AllN.nil|refine AllN.cons ⟨_,rfl,?_⟩ ?_|refine yD hX zby rfl t_ ?_|refine yD hX zby rfl (by exact pc) ?_|refine yD hX zby rfl p3 ?_|(refine OrdA.last ?_;exact⟨rfl,⟨rfl,rfl,rfl,rfl,rfl,rfl,t_⟩,⟨zct e2,rfl,rfl,congrArg (λz=>some (OObj.buf 30 mv (mo++[z]))) e1,t_⟩,rfl,rfl⟩))
  refine zaa (zab zby ?_ (hp:=by exact⟨z1,c5.1,c5.2.1,c5.2.2.1,c5.2.2.2,z2⟩));refine zaa (zab zby ?_ (hp:=by exact q));refine⟨k+1,by show((k+1:Nat):Int)<=q8;omega,by omega,?_⟩;rw[hs1];exact⟨⟨rfl,rfl,rfl,rfl,rfl,rfl,t_⟩,⟨rfl,rfl,rfl,rfl,t_⟩,rfl,rfl⟩
 obtain rfl:k=q8.toNat:=o_;apply zan;refine AWP.frzL hX 2 6 ?_;refine zaa (zaa (zab zby ?_));refine zak (Y':=⟨[(2,⟨.optr se,⟨1,se,.here⟩⟩)],[(0,some (.box mkr (mSer m).2)),(1,some (.box se (mSer m).1))],2⟩) ⟨⟨rfl,t_⟩,⟨zct (by rw[hout]),congrArg (λz=>some (OObj.box se z)) (by rw[hout]),t_⟩,rfl,rfl⟩ ?_;exact zC ⟨.inr rfl,rfl,D1 rfl⟩
def sMov(l:ltN.T)(x:mv.T):ltN.T:=(l.1,l.2.1,l.2.2.1,l.2.2.2.1,l.2.2.2.2.1,l.2.2.2.2.2.1,l.2.2.2.2.2.2.1,l.2.2.2.2.2.2.2.1,l.2.2.2.2.2.2.2.2.1,l.2.2.2.2.2.2.2.2.2.1,l.2.2.2.2.2.2.2.2.2.2.1,l.2.2.2.2.2.2.2.2.2.2.2.1,x,l.2.2.2.2.2.2.2.2.2.2.2.2.2.1,l.2.2.2.2.2.2.2.2.2.2.2.2.2.2.1,l.2.2.2.2.2.2.2.2.2.2.2.2.2.2.2.1,l.2.2.2.2.2.2.2.2.2.2.2.2.2.2.2.2.1,l.2.2.2.2.2.2.2.2.2.2.2.2.2.2.2.2.2.1,l.2.2.2.2.2.2.2.2.2.2.2.2.2.2.2.2.2.2.1,l.2.2.2.2.2.2.2.2.2.2.2.2.2.2.2.2.2.2.2.1,())
def sSer(l:ltN.T)(x:se.T):ltN.T:=(l.1,l.2.1,l.2.2.1,l.2.2.2.1,l.2.2.2.2.1,l.2.2.2.2.2.1,l.2.2.2.2.2.2.1,l.2.2.2.2.2.2.2.1,l.2.2.2.2.2.2.2.2.1,l.2.2.2.2.2.2.2.2.2.1,l.2.2.2.2.2.2.2.2.2.2.1,l.2.2.2.2.2.2.2.2.2.2.2.1,l.2.2.2.2.2.2.2.2.2.2.2.2.1,x,l.2.2.2.2.2.2.2.2.2.2.2.2.2.2.1,l.2.2.2.2.2.2.2.2.2.2.2.2.2.2.2.1,l.2.2.2.2.2.2.2.2.2.2.2.2.2.2.2.2.1,l.2.2.2.2.2.2.2.2.2.2.2.2.2.2.2.2.2.1,l.2.2.2.2.2.2.2.2.2.2.2.2.2.2.2.2.2.2.1,l.2.2.2.2.2.2.2.2.2.2.2.2.2.2.2.2.2.2.2.1,())
def sWin(l:ltN.T)(x:sp.T):ltN.T:=(l.1,l.2.1,l.2.2.1,l.2.2.2.1,l.2.2.2.2.1,l.2.2.2.2.2.1,l.2.2.2.2.2.2.1,l.2.2.2.2.2.2.2.1,l.2.2.2.2.2.2.2.2.1,l.2.2.2.2.2.2.2.2.2.1,l.2.2.2.2.2.2.2.2.2.2.1,l.2.2.2.2.2.2.2.2.2.2.2.1,l.2.2.2.2.2.2.2.2.2.2.2.2.1,l.2.2.2.2.2.2.2.2.2.2.2.2.2.1,l.2.2.2.2.2.2.2.2.2.2.2.2.2.2.1,l.2.2.2.2.2.2.2.2.2.2.2.2.2.2.2.1,l.2.2.2.2.2.2.2.2.2.2.2.2.2.2.2.2.1,x,l.2.2.2.2.2.2.2.2.2.2.2.2.2.2.2.2.2.2.1,l.2.2.2.2.2.2.2.2.2.2.2.2.2.2.2.2.2.2.2.1,())
def mLo(l:ltN.T)(f:Int):Int:=(bndR l.1 f).1
def mHi(l:ltN.T)(f:Int):Int:=min ((bndR l.1 f).2-(bndR l.1 f).1+1) 40
def zaZ(m:Mk)(l:ltN.T)(f:Int):ltN.T×Mk:=
 if numR f=true then(zd5 l f (mLo l f+(zad m (mHi l f)).1),(zad m (mHi l f)).2)
 else if f=9 then
  (if l.1=4 then(sMov l (zbx (zad m 40).2 (zad m 40).1).1,(zbx (zad m 40).2 (zad m 40).1).2)
   else if l.2.2.2.2.2.2.2.2.2.2.1=1 then(sMov l (zbx m l.2.2.2.2.2.2.2.2.2.2.2.1).1,(zbx m l.2.2.2.2.2.2.2.2.2.2.2.1).2) else(l,m))
 else if f=10 then
  (if l.1=6/\l.2.2.2.2.2.2.2.2.2.2.1=1 then(l,m) else(sSer l (mSer m).1,(mSer m).2))
 else(sWin l ((zad m 5000).1-1000,(zad m 5000).1-1000+(zad (zad m 5000).2 5000).1,()),(zad (zad m 5000).2 5000).2)
def cMdN:RCtr:={ self:=mkr,args:=[ltN,i64],inv:=λ_ _=>True,pre:=λm xs=>[0<=mkU m/\mkU m<=50000,0<=mkN m/\mkN m<=1000000,0<=mkS m/\mkS m<=50000,1<=xs.1.1/\xs.1.1<=18,0<=xs.2.1/\xs.2.1<=14],res:=ltN,out:=λm xs=>(zaZ m xs.1 xs.2.1).1,post:=λm xs=>(zaZ m xs.1 xs.2.1).2 }
def kMdN:Kn:={ kN with C:=[(51,ztu),(52,cBnd),(53,zva)],R:=[(16,ziY),(54,cMMv),(55,cMSe)] }
theorem zaA:KnOk zf gmG kMdN:=⟨zmr,zdu,.cons zh1 (.cons zpl (.cons zjo .nil)),λ_ _ _ _=>trivial,.cons zd9 (λ_ _=>trivial) (.cons zgS (λ_ _=>trivial) (.cons ziF (λ_ _=>trivial) .nil))⟩
def bOk(b:Int×Int):Prop:=0<=b.1/\b.1<=b.2/\b.2<=2251799813685248
theorem bOk.ite{c:Prop}[Decidable c]{a b:Int×Int}(ha:bOk a)(hb:bOk b):bOk (if c then a else b):=by split<;>assumption
theorem zlh(k f:Int):bOk (bndR k f):=by
 unfold bndR
 repeat'(first|refine bOk.ite ?_ ?_|(unfold bOk;decide))
theorem boxN{x y:ltN.T}(h:x=y):some (OObj.box ltN x)=some (OObj.box ltN y):=by rw[h]
abbrev sMd(m:Mk)(l l':ltN.T)(f:Int)(F:Frame):AS:=⟨(0,⟨.optr mkr,⟨0,mkr,.here⟩⟩)::(2,⟨i64,f⟩)::(4,⟨.optr ltN,⟨1,ltN,.here⟩⟩)::(6,⟨.optr ltN,⟨2,ltN,.here⟩⟩)::F,[(0,some (.box mkr m)),(1,some (.box ltN l)),(2,some (.box ltN l'))],3⟩
set_option maxHeartbeats 8000000 in
theorem zqm:vC zf gmG 18 cMdN:=by
 refine zaW (K:=kMdN) zaA fO rfl rfl fP rfl d_ (λw w' g hg h hk=>trivial) ?_;rintro w0 O g hX xa (m:Mk) ⟨(l:ltN.T),(f:Int),⟨⟩⟩ ⟨⟨h1,h2⟩,⟨h3,h4⟩,⟨h5,h6⟩,⟨h7,h8⟩,h9,x5⟩;have h1:0<=mkU m:=h1;have x5:f<=14:=x5;have x7:cMdN.out m (l,f,())=(zaZ m l f).1:=rfl;have x4:cMdN.post m (l,f,())=(zaZ m l f).2:=rfl;change AWP _ _ _ _ _ ⟨[(0,⟨.optr mkr,⟨0,mkr,.here⟩⟩),(1,⟨ltN,l⟩),(2,⟨i64,f⟩)],[(0,some (.box mkr m))],1⟩ _;refine zaa (zaa (zab zaA ?_));obtain⟨z,hz⟩:∃z,z=zaD ltN:=⟨_,rfl⟩;refine zak (Y':=sMd m l z f []) ⟨⟨rfl,rfl,rfl,rfl,t_⟩,⟨rfl,rfl,boxN hz.symm,t_⟩,rfl,rfl⟩ ?_;refine zaa (zaa (zab zaA ?_));refine zae rfl (λhb=>?_) (λhb=>?_)
 .have hb:numR f=true:=hb;have e:zaZ m l f=(zd5 l f (mLo l f+(zad m (mHi l f)).1),(zad m (mHi l f)).2):=if_pos hb;have hn:zaM f.toNat:=by
   unfold numR at hb;unfold zaM;by_cases h:f<=8
   .omega
   .rw[decide_eq_false h]at hb;by_cases g1:f=11
    .omega
    by_cases g2:f=12
    .omega
    by_cases g3:f=13
    .omega
    .rw[beq_false_of_ne g1,beq_false_of_ne g2,beq_false_of_ne g3]at hb;cases hb
  obtain⟨b1,b2,b3⟩:=zlh l.1 f;refine zaa (zaa (zab zaA ?_ (hp:=by exact⟨h7,h8,hn,h9⟩)));have e1:mLo l f=(bndR l.1 f).1:=rfl;have hH:mHi l f=min ((bndR l.1 f).2-(bndR l.1 f).1+1) 40:=rfl;have c0:=zao m (n:=mHi l f) o_;obtain⟨lo,x0⟩:∃x,x=(bndR l.1 f).1:=⟨_,rfl⟩;obtain⟨hi,x1⟩:∃x,x=(bndR l.1 f).2:=⟨_,rfl⟩;obtain⟨H,xb⟩:∃x,x=mHi l f:=⟨_,rfl⟩;rw[<-x0, <-x1]at b2;rw[<-x0]at b1 e1;rw[<-x1]at b3;rw[<-xb]at c0 hH e;rw[<-x0, <-x1]at hH;have x8:min (hi-lo+1) 40=H:=hH.symm;obtain⟨⟨p,m2⟩,hp⟩:∃x,x=zad m H:=⟨_,rfl⟩;rw[<-hp,e1]at e;rw[<-hp]at c0;refine zak (Y':=sMd m l z f [(7,⟨i64,lo⟩),(8,⟨i64,hi⟩)]) ⟨⟨rfl,rfl,rfl,rfl,vI64 x0.symm,vI64 x1.symm,t_⟩,⟨rfl,rfl,rfl,t_⟩,rfl,rfl⟩ ?_;have d1:inR .i64 (hi-lo):=zah o_ o_;have d2:inR .i64 (hi-lo+1):=zah o_ o_;have d3:inR .i64 (lo+p):=zah o_ o_;have d4:0<=mkU m/\mkU m<=1000000/\0<H/\H<=1000000000:=⟨by omega,by omega,by omega,by omega⟩;have e2:(zad m H).1=p:=(congrArg kM hp).symm;have e3:(zad m H).2=m2:=(congrArg vB hp).symm;refine zaa ?_;refine zi8 11 9 [(0,some (.box mkr m2)),(1,some (.box ltN l)),(2,some (.box ltN z))] (sMd m l z f [(7,⟨i64,lo⟩),(8,⟨i64,hi⟩)]).F [(0,23,⟨ltN,l⟩),(1,24,⟨i64,f⟩),(2,25,⟨i64,lo⟩),(3,26,⟨.optr mkr,⟨0,mkr,.here⟩⟩),(4,27,⟨i64,hi⟩),(5,28,⟨i64,lo⟩),(6,29,⟨i64,hi-lo⟩),(7,30,⟨i64,hi-lo+1⟩),(8,31,⟨i64,H⟩),(9,32,⟨i64,p⟩),(10,33,⟨i64,lo+p⟩)] dM hX 13 rfl rfl (by kernel_rfl) (by kernel_rfl) rfl ⟨rfl,rfl,rfl,rfl,rfl,rfl,t_⟩ ?_ rfl ⟨rfl,rfl,rfl,t_⟩ rfl rfl rfl ?_
  .refine(zZ (zZ (zZ (zZ (zZ (zZ (zZ (zZ (zZ (zZ (zZ kf ?_) ?_) ?_) ?_) ?_) ?_) ?_) ?_) ?_) ?_) ?_)
   .exact js hX zaA d_ k_ k_
   .exact js hX zaA d_ k_ k_
   .exact js hX zaA d_ k_ k_
   .exact js hX zaA d_ k_ k_
   .exact js hX zaA d_ k_ k_
   .exact js hX zaA d_ k_ k_
   .exact js hX zaA d_ ⟨_,rfl,λF=>⟨_,rfl,d1,rfl,λ_=>rfl,rfl⟩⟩ ⟨_,rfl,λF=>⟨_,rfl,d1,rfl,λ_=>rfl,rfl⟩⟩
   .exact js hX zaA d_ ⟨_,rfl,λF=>⟨_,rfl,d2,rfl,λ_=>rfl,rfl⟩⟩ ⟨_,rfl,λF=>⟨_,rfl,d2,rfl,λ_=>rfl,rfl⟩⟩
   .rw[<-x8];exact js hX zaA d_ k_ k_
   .rw[<-e2, <-e3];exact fQ (fY hX zaA ⟨_,rfl,λF=>⟨_,rfl,(by exact d4),rfl,λj=>(match j with |0=>rfl|1=>rfl|2=>rfl|_+3=>rfl),rfl⟩⟩)
   .exact js hX zaA d_ ⟨_,rfl,λF=>⟨_,rfl,d3,rfl,λ_=>rfl,rfl⟩⟩ ⟨_,rfl,λF=>⟨_,rfl,d3,rfl,λ_=>rfl,rfl⟩⟩
  refine yD hX zaA rfl (by exact⟨hn,h9⟩) ?_;refine yD hX zaA rfl t_ ?_;refine QC.of ?_;refine zak (Y':=sMd m2 l (zd5 l f (lo+p)) f []) ⟨⟨rfl,rfl,rfl,rfl,t_⟩,⟨rfl,rfl,rfl,t_⟩,rfl,rfl⟩ ?_;refine zC ⟨.inr rfl,?_,D1 ?_⟩
  .show some (OObj.box mkr m2)=some (OObj.box mkr (zaZ m l f).2);rw[e]
  .show _=(zaZ m l f).1;rw[e]
 .have hb:numR f=false:=hb;have hf:f=9\/f=10\/f=14:=by
   unfold numR at hb;by_cases h:f<=8
   .rw[decide_eq_true h]at hb;cases hb
   .by_cases g1:f=11
    .rw[g1]at hb;cases hb
    by_cases g2:f=12
    .rw[g2]at hb;cases hb
    by_cases g3:f=13
    .rw[g3]at hb;cases hb
    omega
  have hE:zaZ m l f=_:=if_neg (by rw[hb];decide);apply zaf;refine zaa (zaa (zab zaA ?_));rcases hf with rfl|rfl|rfl
  .rw[if_pos rfl]at hE;refine zaa (zaa (zab zaA ?_));refine zbu rfl ?_
   iterate 2 (refine zaa (zaa (zab zaA ?_)))
   refine zae rfl (λhk=>?_) (λhk=>?_)
   .have hk:(l.1==4)=true:=hk;have x2:l.1=4:=eq_of_beq hk;rw[if_pos x2]at hE;obtain⟨⟨p,m2⟩,hp⟩:∃x,x=zad m 40:=⟨_,rfl⟩;have d4:0<=mkU m/\mkU m<=1000000/\0<(40:Int)/\(40:Int)<=1000000000:=⟨by omega,by omega,by decide,by decide⟩;have d5:=zaC m 40;rw[<-hp]at hE d5;have d5:mkU m2=mkU m+1:=d5;refine zaa (zaa (zab zaA ?_ (hp:=by exact d4)));refine zak (Y':=sMd m2 l z 9 [(9,⟨i64,p⟩)]) ⟨⟨rfl,rfl,rfl,rfl,vI64 (congrArg kM hp.symm),t_⟩,⟨zct (congrArg vB hp.symm),rfl,rfl,t_⟩,rfl,rfl⟩ ?_;refine zaa (zaa (zab zaA ?_ (hp:=by repeat'(first|exact λh=>h|exact λh=>⟨h,h⟩|exact λh=>⟨h,h,h⟩|refine vI ?_ ?_))));refine zae rfl (λhc=>?_) (λhc=>absurd (hc.symm.trans (show(bif (l.1==4) then true else _)=true from by rw[hk];rfl)) d_);have d6:0<=mkU m2/\mkU m2<=100000:=o_;refine zaa (zaa (zab zaA ?_ (hp:=by exact d6)));refine zaa (zaa (zab zaA ?_));refine zak (Y':=⟨[(6,⟨.optr ltN,⟨2,ltN,.here⟩⟩)],[(0,some (.box mkr (zaZ m l 9).2)),(2,some (.box ltN (zaZ m l 9).1))],3⟩) ⟨⟨rfl,t_⟩,⟨zct (by rw[hE]<;>rfl),boxN (by rw[hE]<;>rfl),t_⟩,rfl,rfl⟩ ?_;exact zC ⟨.inr rfl,rfl,D1 rfl⟩
   .
    have x2:¬l.1=4:=by simpa using hk
    rw[if_neg x2]at hE;apply zaf;refine zaa (zaa (zab zaA ?_ (hp:=by repeat'(first|exact λh=>h|exact λh=>⟨h,h⟩|exact λh=>⟨h,h,h⟩|refine vI ?_ ?_))));refine zae rfl (λhc=>?_) (λhc=>?_)
    .
     rw[hk]at hc;rw[if_pos (eq_of_beq hc)]at hE;have d6:0<=mkU m/\mkU m<=100000:=o_;refine zaa (zaa (zab zaA ?_ (hp:=by exact d6)));refine zaa (zaa (zab zaA ?_));refine zak (Y':=⟨[(6,⟨.optr ltN,⟨2,ltN,.here⟩⟩)],[(0,some (.box mkr (zaZ m l 9).2)),(2,some (.box ltN (zaZ m l 9).1))],3⟩) ⟨⟨rfl,t_⟩,⟨zct (by rw[hE]<;>rfl),boxN (by rw[hE]<;>rfl),t_⟩,rfl,rfl⟩ ?_;exact zC ⟨.inr rfl,rfl,D1 rfl⟩
    .
     rw[hk]at hc;rw[if_neg (by simpa using hc)]at hE;apply zaf;refine zaa (zaa (zab zaA ?_));refine zak (Y':=⟨[(6,⟨.optr ltN,⟨2,ltN,.here⟩⟩)],[(0,some (.box mkr (zaZ m l 9).2)),(2,some (.box ltN (zaZ m l 9).1))],3⟩) ⟨⟨rfl,t_⟩,⟨zct (by rw[hE]<;>rfl),boxN (by rw[hE]<;>rfl),t_⟩,rfl,rfl⟩ ?_;exact zC ⟨.inr rfl,rfl,D1 rfl⟩
  .rw[if_neg d_,if_pos rfl]at hE;refine zaa (zaa (zab zaA ?_));refine zaL rfl ?_;refine zaa (zaa (zab zaA ?_));refine zbu rfl ?_;refine zaa (zaa (zab zaA ?_ (hp:=by repeat'(first|exact λh=>h|exact λh=>⟨h,h⟩|exact λh=>⟨h,h,h⟩|refine vI ?_ ?_))));refine zae rfl (λhc=>?_) (λhc=>?_)
   .
    have hn:¬(l.1=6/\l.2.2.2.2.2.2.2.2.2.2.1=1):=λ⟨a,b⟩=>by rw[a,b]at hc;exact absurd hc d_
    rw[if_neg hn]at hE;refine zaa (zaa (zab zaA ?_ (hp:=by exact⟨⟨h1,h2⟩,⟨h3,h4⟩,h5,h6⟩)));refine zaa (zaa (zab zaA ?_));refine zak (Y':=⟨[(6,⟨.optr ltN,⟨2,ltN,.here⟩⟩)],[(0,some (.box mkr (zaZ m l 10).2)),(2,some (.box ltN (zaZ m l 10).1))],3⟩) ⟨⟨rfl,t_⟩,⟨zct (by rw[hE]<;>rfl),boxN (by rw[hE]<;>rfl),t_⟩,rfl,rfl⟩ ?_;exact zC ⟨.inr rfl,rfl,D1 rfl⟩
   .have hc:(bif (!(l.1==6)) then true else(!(l.2.2.2.2.2.2.2.2.2.2.1==1)))=false:=hc;have hn:l.1=6/\l.2.2.2.2.2.2.2.2.2.2.1=1:=by
     cases h1:(l.1==6)<;>rw[h1]at hc
     .cases hc
     .refine⟨eq_of_beq h1,?_⟩;cases h2:(l.2.2.2.2.2.2.2.2.2.2.1==1)<;>rw[h2]at hc
      .cases hc
      .exact eq_of_beq h2
    rw[if_pos hn]at hE;apply zaf;refine zaa (zaa (zab zaA ?_));refine zak (Y':=⟨[(6,⟨.optr ltN,⟨2,ltN,.here⟩⟩)],[(0,some (.box mkr (zaZ m l 10).2)),(2,some (.box ltN (zaZ m l 10).1))],3⟩) ⟨⟨rfl,t_⟩,⟨zct (by rw[hE]<;>rfl),boxN (by rw[hE]<;>rfl),t_⟩,rfl,rfl⟩ ?_;exact zC ⟨.inr rfl,rfl,D1 rfl⟩
  .rw[if_neg d_,if_neg d_]at hE
   iterate 2 (refine zaa (zaa (zab zaA ?_));refine zaL rfl ?_)
   refine zaa (zaa (zab zaA ?_));refine zbu rfl ?_;obtain⟨⟨p,m2⟩,hp⟩:∃x,x=zad m 5000:=⟨_,rfl⟩;have d4:0<=mkU m/\mkU m<=1000000/\0<(5000:Int)/\(5000:Int)<=1000000000:=⟨by omega,by omega,by decide,by decide⟩;have d5:=zaC m 5000;have d6:=zao m (n:=5000) d_;have d7:inR .i64 ((zad m 5000).1-1000):=zah o_ o_;rw[<-hp]at hE d5 d6;have d5:mkU m2=mkU m+1:=d5;have d6:0<=p/\p<5000:=d6;refine zaa (zaa (zab zaA ?_ (hp:=by exact⟨d4.1,d4.2.1,d4.2.2.1,d4.2.2.2,d7⟩)));obtain⟨⟨q,m3⟩,hq⟩:∃x,x=zad m2 5000:=⟨_,rfl⟩;have hE:zaZ m l 14=(sWin l (p-1000,(p-1000+(zad m2 5000).1,())),(zad m2 5000).2):=hE;have c4:0<=mkU m2/\mkU m2<=1000000/\0<(5000:Int)/\(5000:Int)<=1000000000:=⟨by omega,by omega,by decide,by decide⟩;have c6:=zao m2 (n:=5000) d_;rw[<-hq]at hE c6;have c7:inR .i64 (p-1000+q):=zah o_ o_;have e2:(zad m2 5000).1=q:=(congrArg kM hq).symm;have e3:(zad m2 5000).2=m3:=(congrArg vB hq).symm;obtain⟨l1,x3⟩:∃x,x=sWin l (p-1000,l.2.2.2.2.2.2.2.2.2.2.2.2.2.2.2.2.2.1.2.1,()):=⟨_,rfl⟩;have x9:sWin l (p-1000,p-1000+q,())=sWin l1 (p-1000,p-1000+q,()):=by rw[x3];rfl
   have x6:l1.2.2.2.2.2.2.2.2.2.2.2.2.2.2.2.2.2.1.1=p-1000:=by rw[x3];rfl
   refine zak (Y':=sMd m2 l1 z 14 []) ⟨⟨rfl,rfl,rfl,rfl,t_⟩,⟨zct (congrArg vB hp.symm),boxN (x3.trans (congrArg (λ(x:Int×Mk)=>sWin l (x.1-1000,l.2.2.2.2.2.2.2.2.2.2.2.2.2.2.2.2.2.1.2.1,())) hp)).symm,rfl,t_⟩,rfl,rfl⟩ ?_;refine zaa ?_;refine zi8 5 4 [(0,some (.box mkr m3)),(1,some (.box ltN l1)),(2,some (.box ltN z))] (sMd m2 l1 z 14 []).F [(0,77,⟨.optr sp,⟨1,ltN,.fst (.snd (.snd (.snd (.snd (.snd (.snd (.snd (.snd (.snd (.snd (.snd (.snd (.snd (.snd (.snd (.snd (.snd (.here))))))))))))))))))⟩⟩),(1,78,⟨.optr i64,⟨1,ltN,.fst (.fst (.snd (.snd (.snd (.snd (.snd (.snd (.snd (.snd (.snd (.snd (.snd (.snd (.snd (.snd (.snd (.snd (.snd (.here)))))))))))))))))))⟩⟩),(2,79,⟨i64,p-1000⟩),(3,80,⟨.optr mkr,⟨0,mkr,.here⟩⟩),(4,81,⟨i64,q⟩)] dM hX 9 rfl rfl (by kernel_rfl) (by kernel_rfl) rfl ⟨rfl,rfl,rfl,rfl,t_⟩ ?_ rfl ⟨rfl,rfl,rfl,t_⟩ rfl rfl rfl ?_
   .refine(zZ (zZ (zZ (zZ (zZ kf ?_) ?_) ?_) ?_) ?_)
    .exact js hX zaA d_ k_ k_
    .exact js hX zaA d_ k_ k_
    .rw[<-x6];exact js hX zaA d_ k_ k_
    .exact js hX zaA d_ k_ k_
    .rw[<-e2, <-e3];exact fQ (fY hX zaA ⟨_,rfl,λF=>⟨_,rfl,(by exact c4),rfl,λj=>(match j with |0=>rfl|1=>rfl|2=>rfl|_+3=>rfl),rfl⟩⟩)
   refine yD hX zaA rfl (by exact c7) ?_
   iterate 3 (refine yD hX zaA rfl t_ ?_)
   refine QC.of ?_;refine zak (Y':=sMd m3 (sWin l1 (p-1000,p-1000+q,())) z 14 []) ⟨⟨rfl,rfl,rfl,rfl,t_⟩,⟨rfl,boxN (by rw[<-x6];rfl),rfl,t_⟩,rfl,rfl⟩ ?_;rw[x9]at hE;refine zaa (zaa (zab zaA ?_));refine zak (Y':=⟨[(6,⟨.optr ltN,⟨2,ltN,.here⟩⟩)],[(0,some (.box mkr (zaZ m l 14).2)),(2,some (.box ltN (zaZ m l 14).1))],3⟩) ⟨⟨rfl,t_⟩,⟨zct (by rw[hE]<;>rfl),boxN (by rw[hE]<;>rfl),t_⟩,rfl,rfl⟩ ?_;exact zC ⟨.inr rfl,rfl,D1 rfl⟩
theorem zgX{w:World}{O:Nat->Prop}{U:Nat->Value}:∀{y:List UInt8}{cs:List Value},RepL (RepC w O u8) y cs->RepH w O U (y.map λu=>(⟨u8,u⟩:V)) cs
 | [],cs,h=>h
 |u::y,cs,⟨c1,c2,h1,h2,h3⟩=>by
  subst h1 h2;exact⟨_,c2,rfl,rfl,rfl,zgX h3⟩
set_option maxHeartbeats 2000000 in
theorem zky{w:World}{O:Nat->Prop}{U:Nat->Value}{x0:Int}{x1:Int}{x2:Int}{x3:Int}{x4:Int}{x5:Int}{x6:Int}{x7:Int}{x8:Int}{x9:Int}{xj:Int}{xk:Int}{xb:mv.T}{xa:se.T}{xg:Int}{xe:Int}{xh:Int}{xd:sp.T}{xl:List UInt8}{cs:List Value}(h:RepC w O ltN (x0,x1,x2,x3,x4,x5,x6,x7,x8,x9,xj,xk,xb,xa,xg,xe,xh,xd,(),xl,()) cs):RepH w O U (lvA x0 x1 x2 x3 x4 x5 x6 x7 x8 x9 xj xk xb.1 xb.2.1 xb.2.2.1 xb.2.2.2.1 xb.2.2.2.2.1 xa.1 xa.2.1 xa.2.2.1 xa.2.2.2.1 xa.2.2.2.2.1 xa.2.2.2.2.2.1 xa.2.2.2.2.2.2.1 xg xe xh xd.1 xd.2.1 [] xl) cs:=by
 obtain⟨a0,r0,e0,h0,⟨a1,r1,e1,h1,⟨a2,r2,e2,h2,⟨a3,r3,e3,h3,⟨a4,r4,e4,h4,⟨a5,r5,e5,h5,⟨a6,r6,e6,h6,⟨a7,r7,e7,h7,⟨a8,r8,e8,h8,⟨a9,r9,e9,h9,⟨xp,yl,y1,xr,⟨xw,yo,yd,y0,⟨xs,yk,y2,y3,⟨y8,ym,ye,xy,⟨y9,yp,y6,yf,⟨y7,yn,yc,yb,⟨xz,yi,xt,xv,⟨y4,yj,xn,y5,⟨xx,yg,ya,xu,⟨yh,xq,xo,xm,xf⟩⟩⟩⟩⟩⟩⟩⟩⟩⟩⟩⟩⟩⟩⟩⟩⟩⟩⟩⟩:=h;have xf:xq=[]:=xf;have xi:RepH w O U [⟨.lit,.slice none 0 0⟩] xx:=⟨_,[],xu,rfl,rfl,rfl⟩;have xc:=zgX (U:=U) xm.2;rw[zqN xm.1]at xc;subst xf;subst xo ya xn xt yc y6 ye y2 yd y1 e9 e8 e7 e6 e5 e4 e3 e2 e1 e0;exact qB (zaz i64 x0 a0 rfl rfl h0) (qB (zaz i64 x1 a1 rfl rfl h1) (qB (zaz i64 x2 a2 rfl rfl h2) (qB (zaz i64 x3 a3 rfl rfl h3) (qB (zaz i64 x4 a4 rfl rfl h4) (qB (zaz i64 x5 a5 rfl rfl h5) (qB (zaz i64 x6 a6 rfl rfl h6) (qB (zaz i64 x7 a7 rfl rfl h7) (qB (zaz i64 x8 a8 rfl rfl h8) (qB (zaz i64 x9 a9 rfl rfl h9) (qB (zaz i64 xj xp rfl rfl xr) (qB (zaz i64 xk xw rfl rfl y0) (qB (zaz mv xb xs rfl rfl y3) (qB (zaz se xa y8 rfl rfl xy) (qB (zaz i64 xg y9 rfl rfl yf) (qB (zaz i64 xe y7 rfl rfl yb) (qB (zaz i64 xh xz rfl rfl xv) (qB (zaz sp xd y4 rfl rfl y5) (qB (vs:=[⟨.lit,.slice none 0 0⟩]) xi (qB xc (show RepH w O U [] [] from rfl))))))))))))))))))))
theorem ztT{P:Program}{w0:World}{X:Ownr}{n:Nat}{F:List (Nat×V)}{E:Owns}{nx:Nat}{Q:Exit->AS->Prop}{ops:Array Oper}(hX:X.Ok w0){o:Oper}{x0:List Oper}{t:TypeId}{x:Operand}(ho:o.op=.box t x)(x6:o.guard=none){d:Nat}(hd:o.dst=some d)(x4:Nat.blt d n=true){Z:Ty}{y:Z.T}(hx:evO F x=⟨Z,y⟩)(x5:Z.data=true)(x3:Z.isAgg=true)(vs:List V)(hb:vs.all (λv=>Nat.beq v.bound 0)=true)
  (x1:∀w O U cs,RepC w O Z y cs->RepH w O U vs cs) (h:AL P w0 X n ops x0 ⟨(d,⟨.hptr,(nx,(0:Nat))⟩)::F,(nx,some (.hbox t vs))::E,nx+1⟩ Q):AL P w0 X n ops (o::x0) ⟨F,E,nx⟩ Q:=by
 refine AL.hand x6 (λc e=>by rw[ho]at e;cases e) λU a w hs=>?_;have x7:d<n:=by simpa using x4
 have h1:=hs.ops x;rw[show evO (AS.mk F E nx).F x=_ from hx]at h1;have h1:RepD w (OSet X E U) Z y (a.eval x):=(za5 x5).1 h1;obtain⟨cs,e1,h1⟩:=(RepD.agg x3).1 h1;refine zba (u:=.pointer (some ⟨w.heap.size,0,none⟩)) (w':=w.alloc (.cells cs.toArray t (0,0))) ?_ ?_
 .unfold execOp;simp only[ho];refine za7 ?_;rw[e1];simp[Instr.box,newVar,newRow,Value.cells,go_sem]
 .rw[hd];have hk:Below w.heap.size w (w.alloc (.cells cs.toArray t (0,0))):=(Below.refl _ w).alloc (zu _) (.cells cs.toArray t (0,0));obtain⟨U',h4⟩:=hs.make hX hk (bv:=.pointer (some ⟨w.heap.size,0,none⟩)) (o:=.hbox t vs)
   (λO U' hO=>by
     have x2:Keeps w (w.alloc (.cells cs.toArray t (0,0))) (OSet X E U) O:=.of_below hk λg hg x8=>by
      rcases hO g x8 with h5|h5
      .exact h5
      .simp[zai]at h5;omega
     exact⟨w.heap.size,cs,rfl,zk _,World.alloc_heap_new w _,x1 _ _ _ _ (RepC.keep x2 _ _ _ h1)⟩) (λg hg=>by cases hg;exact zu _) (v:=⟨.hptr,(nx,(0:Nat))⟩) (u:=.pointer (some ⟨w.heap.size,0,none⟩))
   (λO U' hb=>⟨w.heap.size,by show zai (U' nx)=_;rw[show U' nx=_ from hb];rfl,rfl⟩) (zu _) x7 (λus e v hv=>by
     cases e;rw[Nat.eq_of_beq_eq_true (yH.1 hb v hv)];exact zk _)
  exact⟨_,U',h4,h⟩
def addC(l:ltN.T)(c:List Int):lt.T:=(l.1,l.2.1,l.2.2.1,l.2.2.2.1,l.2.2.2.2.1,l.2.2.2.2.2.1,l.2.2.2.2.2.2.1,l.2.2.2.2.2.2.2.1,l.2.2.2.2.2.2.2.2.1,l.2.2.2.2.2.2.2.2.2.1,l.2.2.2.2.2.2.2.2.2.2.1,l.2.2.2.2.2.2.2.2.2.2.2.1,l.2.2.2.2.2.2.2.2.2.2.2.2.1,l.2.2.2.2.2.2.2.2.2.2.2.2.2.1,l.2.2.2.2.2.2.2.2.2.2.2.2.2.2.1,l.2.2.2.2.2.2.2.2.2.2.2.2.2.2.2.1,l.2.2.2.2.2.2.2.2.2.2.2.2.2.2.2.2.1,l.2.2.2.2.2.2.2.2.2.2.2.2.2.2.2.2.2.1,c,l.2.2.2.2.2.2.2.2.2.2.2.2.2.2.2.2.2.2.2.1,())
def cSt(m:Mk)(n:Int):Nat->Mk×Int×List Int
 |0=>(m,n,[])
 |i+1=>((zad (cSt m n i).1 2).2,(cSt m n i).2.1+1+(zad (cSt m n i).1 2).1,(cSt m n i).2.2++[(cSt m n i).2.1])
def cK(m:Mk):Int×Mk:=zad (zad m 4).2 5
def mCel(m:Mk):List Int×Mk:=((cSt (cK m).2 (zad m 4).1 (1+(cK m).1).toNat).2.2,(cSt (cK m).2 (zad m 4).1 (1+(cK m).1).toNat).1)
theorem zts(m:Mk)(n:Int):∀i:Nat,MkU (i:Int) m (cSt m n i).1
 |0=>MkU.refl m
 |i+1=>((zts m n i).trans (MkU.pick _ 2)).le o_
theorem zqX(m:Mk)(n:Int):∀i:Nat,n+(i:Int)<=(cSt m n i).2.1/\(cSt m n i).2.1<=n+2*(i:Int)
 |0=>⟨by show n+((0:Nat):Int)<=n;omega,by show n<=n+2*((0:Nat):Int);omega⟩
 |i+1=>by
  have h:=zqX m n i;have h1:=zao (cSt m n i).1 (n:=2) d_;show n+((i+1:Nat):Int)<=(cSt m n i).2.1+1+(zad (cSt m n i).1 2).1/\(cSt m n i).2.1+1+(zad (cSt m n i).1 2).1<=n+2*((i+1:Nat):Int);omega
theorem zle(m:Mk)(n:Int):∀i:Nat,(cSt m n i).2.2.length=i
 |0=>rfl
 |i+1=>by
  show((cSt m n i).2.2++[_]).length=i+1;rw[zl,zle m n i];rfl
def cMdC:RCtr:={ self:=mkr,args:=[ltN,i64],inv:=λ_ _=>True,pre:=λm xs=>[0<=mkU m/\mkU m<=50000,xs.2.1=15,zp xs.1.2.2.2.2.2.2.2.2.2.2.2.2.2.2.2.2.2.2.2.1=32],res:=lt,out:=λm xs=>addC xs.1 (mCel m).1,post:=λm xs=>(mCel m).2 }
def kMdC:Kn:={ gmK with C:=[(51,ztu)],R:=[(16,ziY)] }
theorem zbk:KnOk zf gmG kMdC:=⟨zd2,zdu,.cons zh1 .nil,λ_ _ _ _=>trivial,.cons zd9 (λ_ _=>trivial) .nil⟩
set_option maxHeartbeats 8000000 in
theorem zqo:vC zf gmG 18 cMdC:=by
 refine zaW (K:=kMdC) zbk fO rfl rfl fP rfl d_ (λw w' g hg h hk=>trivial) ?_;rintro w0 O g hX hinv (m:Mk) ⟨⟨(x0:Int),(x1:Int),(x2:Int),(x3:Int),(x4:Int),(x5:Int),(x6:Int),(x7:Int),(x8:Int),(x9:Int),(x10:Int),(x11:Int),(x12:mv.T),(x13:se.T),(x14:Int),(x15:Int),(x16:Int),(x17:sp.T),⟨⟩,(x19:List UInt8),⟨⟩⟩,(f:Int),⟨⟩⟩ ⟨⟨h1,h2⟩,h3,hdl⟩;have h1:0<=mkU m:=h1;obtain rfl:=h3;change AWP _ _ _ _ _ ⟨[(0,⟨.optr mkr,⟨0,mkr,.here⟩⟩),(1,⟨ltN,(x0,x1,x2,x3,x4,x5,x6,x7,x8,x9,x10,x11,x12,x13,x14,x15,x16,x17,(),x19,())⟩),(2,⟨i64,(15:Int)⟩)],[(0,some (.box mkr m))],1⟩ _;refine zaa (zaa (zaj ?_));refine ztT hX rfl rfl rfl rfl rfl rfl rfl (lvA x0 x1 x2 x3 x4 x5 x6 x7 x8 x9 x10 x11 x12.1 x12.2.1 x12.2.2.1 x12.2.2.2.1 x12.2.2.2.2.1 x13.1 x13.2.1 x13.2.2.1 x13.2.2.2.1 x13.2.2.2.2.1 x13.2.2.2.2.2.1 x13.2.2.2.2.2.2.1 x14 x15 x16 x17.1 x17.2.1 [] x19) rfl (λw O U cs h=>zky h) ?_;refine zau zbk ?_;obtain⟨z,hz⟩:∃z,z=zaD lt:=⟨_,rfl⟩;refine zak (Y':=⟨[(0,⟨.optr mkr,⟨0,mkr,.here⟩⟩),(2,⟨i64,(15:Int)⟩),(4,⟨.hptr,((1:Nat),(0:Nat))⟩),(6,⟨.optr lt,⟨2,lt,.here⟩⟩)],[(0,some (.box mkr m)),(1,some (.hbox 42 (lvA x0 x1 x2 x3 x4 x5 x6 x7 x8 x9 x10 x11 x12.1 x12.2.1 x12.2.2.1 x12.2.2.2.1 x12.2.2.2.2.1 x13.1 x13.2.1 x13.2.2.1 x13.2.2.2.1 x13.2.2.2.2.1 x13.2.2.2.2.2.1 x13.2.2.2.2.2.2.1 x14 x15 x16 x17.1 x17.2.1 [] x19))),(2,some (.box lt z))],3⟩) ⟨⟨rfl,rfl,rfl,rfl,t_⟩,⟨rfl,rfl,congrArg (λx=>some (OObj.box lt x)) hz.symm,t_⟩,rfl,rfl⟩ ?_;refine zaa (zaa (zab zbk ?_));refine zaL rfl ?_;apply zaf
 iterate 2 (refine zaa (zaa (zab zbk ?_)))
 iterate 3 (refine zaL rfl ?_;refine zaa (zaa (zab zbk ?_)))
 refine zbu rfl ?_;obtain⟨⟨n0,m2⟩,hp⟩:∃x,x=zad m 4:=⟨_,rfl⟩;have d4:0<=mkU m/\mkU m<=1000000/\0<(4:Int)/\(4:Int)<=1000000000:=⟨by omega,by omega,by decide,by decide⟩;have d5:=zaC m 4;have d6:=zao m (n:=4) d_;rw[<-hp]at d5 d6;have d5:mkU m2=mkU m+1:=d5;have d6:0<=n0/\n0<4:=d6;refine zaa (zaa (zab zbk ?_ (hp:=by exact d4)));refine zak (Y':=⟨[(0,⟨.optr mkr,⟨0,mkr,.here⟩⟩),(2,⟨i64,(15:Int)⟩),(4,⟨.hptr,((1:Nat),(0:Nat))⟩),(6,⟨.optr lt,⟨2,lt,.here⟩⟩),(10,⟨i64,n0⟩)],[(0,some (.box mkr m2)),(1,some (.hbox 42 (lvA x0 x1 x2 x3 x4 x5 x6 x7 x8 x9 x10 x11 x12.1 x12.2.1 x12.2.2.1 x12.2.2.2.1 x12.2.2.2.2.1 x13.1 x13.2.1 x13.2.2.1 x13.2.2.2.1 x13.2.2.2.2.1 x13.2.2.2.2.2.1 x13.2.2.2.2.2.2.1 x14 x15 x16 x17.1 x17.2.1 [] x19))),(2,some (.box lt z))],3⟩) ⟨⟨rfl,rfl,rfl,rfl,vI64 (congrArg kM hp.symm),t_⟩,⟨zct (congrArg vB hp.symm),rfl,rfl,t_⟩,rfl,rfl⟩ ?_;obtain⟨⟨q,m3⟩,hq⟩:∃x,x=zad m2 5:=⟨_,rfl⟩;have c4:0<=mkU m2/\mkU m2<=1000000/\0<(5:Int)/\(5:Int)<=1000000000:=⟨by omega,by omega,by decide,by decide⟩;have c5:=zaC m2 5;have c6:=zao m2 (n:=5) d_;have c7:inR .i64 (1+(zad m2 5).1):=zah o_ o_;rw[<-hq]at c5 c6;have c5:mkU m3=mkU m2+1:=c5;have c6:0<=q/\q<5:=c6;refine zaa (zaa (zab zbk ?_ (hp:=by exact⟨c4.1,c4.2.1,c4.2.2.1,c4.2.2.2,c7⟩)));obtain⟨k1,hk1⟩:∃x,x=1+q:=⟨_,rfl⟩;refine zak (Y':=⟨[(0,⟨.optr mkr,⟨0,mkr,.here⟩⟩),(2,⟨i64,(15:Int)⟩),(4,⟨.hptr,((1:Nat),(0:Nat))⟩),(6,⟨.optr lt,⟨2,lt,.here⟩⟩),(10,⟨i64,n0⟩),(11,⟨i64,k1⟩)],[(0,some (.box mkr m3)),(1,some (.hbox 42 (lvA x0 x1 x2 x3 x4 x5 x6 x7 x8 x9 x10 x11 x12.1 x12.2.1 x12.2.2.1 x12.2.2.2.1 x12.2.2.2.2.1 x13.1 x13.2.1 x13.2.2.1 x13.2.2.2.1 x13.2.2.2.2.1 x13.2.2.2.2.2.1 x13.2.2.2.2.2.2.1 x14 x15 x16 x17.1 x17.2.1 [] x19))),(2,some (.box lt z))],3⟩) ⟨⟨rfl,rfl,rfl,rfl,rfl,vI64 ((congrArg (λ(x:Int×Mk)=>1+x.1) hq.symm).trans hk1.symm),t_⟩,⟨zct (congrArg vB hq.symm),rfl,rfl,t_⟩,rfl,rfl⟩ ?_;have hout:mCel m=((cSt m3 n0 k1.toNat).2.2,(cSt m3 n0 k1.toNat).1):=by
  unfold mCel cK;rw[<-hp, <-hq,hk1]
 refine za9 1 29 3 i64 rfl rfl rfl ?_;refine zaa (zaa (zab zbk ?_));refine zaa ?_;refine yK (ι:=Nat) (λk=>⟨[(0,⟨.optr mkr,⟨0,mkr,.here⟩⟩),(2,⟨i64,(15:Int)⟩),(4,⟨.hptr,((1:Nat),(0:Nat))⟩),(6,⟨.optr lt,⟨2,lt,.here⟩⟩),(10,⟨i64,(cSt m3 n0 k).2.1⟩),(11,⟨i64,k1⟩),(12,⟨i64,(k:Int)⟩)],[(0,some (.box mkr (cSt m3 n0 k).1)),(1,some (.hbox 42 (lvO 3 x0 x1 x2 x3 x4 x5 x6 x7 x8 x9 x10 x11 x12.1 x12.2.1 x12.2.2.1 x12.2.2.2.1 x12.2.2.2.2.1 x13.1 x13.2.1 x13.2.2.1 x13.2.2.2.1 x13.2.2.2.2.1 x13.2.2.2.2.2.1 x13.2.2.2.2.2.2.1 x14 x15 x16 x17.1 x17.2.1 [] x19))),(2,some (.box lt z)),(3,some (.buf 3 i64 (cSt m3 n0 k).2.2))],4⟩) (λk=>(k:Int)<=k1) (λk=>5-k) 0 (by show((0:Nat):Int)<=k1;omega) ⟨⟨rfl,rfl,rfl,rfl,rfl,rfl,rfl,t_⟩,⟨rfl,rfl,rfl,rfl,t_⟩,rfl,rfl⟩ ?_;intro k hk;refine zaa (zaa (zab zbk ?_));refine zaa ?_;refine zaN rfl (λhb=>?_) (λhb=>?_)
 .
  have g1:=zts m3 n0 k;have g2:=zqX m3 n0 k;have g3:=zle m3 n0 k;have hs1:cSt m3 n0 (k+1)=((zad (cSt m3 n0 k).1 2).2,(cSt m3 n0 k).2.1+1+(zad (cSt m3 n0 k).1 2).1,(cSt m3 n0 k).2.2++[(cSt m3 n0 k).2.1]):=rfl;generalize cSt m3 n0 k=s at *;obtain⟨(n:Mk),(d:Int),(mo:List Int)⟩:=s;obtain⟨_,_,_,e1,e2⟩:MkU (k:Int) m3 n:=g1;have g2:n0+(k:Int)<=d/\d<=n0+2*(k:Int):=g2;have g3:mo.length=k:=g3;have hs1:cSt m3 n0 (k+1)=((zad n 2).2,d+1+(zad n 2).1,mo++[d]):=hs1;have p3:mo.length+1<=1000000000:=o_;have p4:0<=mkU n/\mkU n<=1000000/\0<(2:Int)/\(2:Int)<=1000000000:=⟨by omega,by omega,by decide,by decide⟩;have p6:=zao n (n:=2) d_;have q1:inR .i64 ((k:Int)+1):=zah o_ o_;have z1:inR .i64 (d+1):=zah o_ o_;have z2:inR .i64 (d+1+(zad n 2).1):=zah o_ o_;apply zaf;refine zaa (zaa (zab zbk ?_ (hp:=by exact p3)));refine zaa (zab zbk ?_ (hp:=by exact⟨z1,p4.1,p4.2.1,p4.2.2.1,p4.2.2.2,z2⟩));refine zaa (zab zbk ?_ (hp:=by exact q1));refine⟨k+1,by show((k+1:Nat):Int)<=k1;omega,by omega,?_⟩;rw[hs1];exact⟨⟨rfl,rfl,rfl,rfl,rfl,rfl,rfl,t_⟩,⟨rfl,rfl,rfl,rfl,t_⟩,rfl,rfl⟩
 obtain rfl:k=k1.toNat:=o_;apply zan;obtain⟨c,hc⟩:∃x,x=(cSt m3 n0 k1.toNat).2.2:=⟨_,rfl⟩;obtain⟨m4,hm4⟩:∃x,x=(cSt m3 n0 k1.toNat).1:=⟨_,rfl⟩;rw[<-hc, <-hm4]at hout ⊢;refine AWP.frzL hX 1 29 ?_;refine zaa (zaa (zaj ?_));refine zhq (zd2.is (t:=42) rfl) rfl rfl rfl rfl rfl x0 x1 x2 x3 x4 x5 x6 x7 x8 x9 x10 x11 x12 x13 x14 x15 x16 x17 c x19 hdl rfl ?_;refine zau zbk ?_;refine zak (Y':=⟨[(6,⟨.optr lt,⟨2,lt,.here⟩⟩)],[(0,some (.box mkr (mCel m).2)),(2,some (.box lt (x0,x1,x2,x3,x4,x5,x6,x7,x8,x9,x10,x11,x12,x13,x14,x15,x16,x17,(mCel m).1,x19,())))],3⟩) ⟨⟨rfl,t_⟩,⟨zct (by rw[hout]),congrArg (λx=>some (OObj.box lt x)) (by rw[hout]),t_⟩,rfl,rfl⟩ ?_;exact zC ⟨.inr rfl,rfl,D1 rfl⟩
def addD(l:lt.T)(d:List UInt8):lt.T:=(l.1,l.2.1,l.2.2.1,l.2.2.2.1,l.2.2.2.2.1,l.2.2.2.2.2.1,l.2.2.2.2.2.2.1,l.2.2.2.2.2.2.2.1,l.2.2.2.2.2.2.2.2.1,l.2.2.2.2.2.2.2.2.2.1,l.2.2.2.2.2.2.2.2.2.2.1,l.2.2.2.2.2.2.2.2.2.2.2.1,l.2.2.2.2.2.2.2.2.2.2.2.2.1,l.2.2.2.2.2.2.2.2.2.2.2.2.2.1,l.2.2.2.2.2.2.2.2.2.2.2.2.2.2.1,l.2.2.2.2.2.2.2.2.2.2.2.2.2.2.2.1,l.2.2.2.2.2.2.2.2.2.2.2.2.2.2.2.2.1,l.2.2.2.2.2.2.2.2.2.2.2.2.2.2.2.2.2.1,l.2.2.2.2.2.2.2.2.2.2.2.2.2.2.2.2.2.2.1,d,())
def zol(p:Int):UInt8:=zM (p%256).toNat
def dSt(m:Mk):Nat->Mk×List UInt8
 |0=>(m,[])
 |i+1=>((zad (dSt m i).1 256).2,(dSt m i).2++[zol (zad (dSt m i).1 256).1])
theorem zu0(m:Mk):∀i:Nat,MkU (i:Int) m (dSt m i).1
 |0=>MkU.refl m
 |i+1=>((zu0 m i).trans (MkU.pick _ 256)).le o_
def dSet(d:List UInt8):List UInt8->Nat->List UInt8
 | [],_=>d
 |x::xs,k=>dSet (d.set (8*k) x) xs (k+1)
theorem zms(x:UInt8):∀(xs:List UInt8)(d:List UInt8)(k:Nat),dSet d (xs++[x]) k=(dSet d xs k).set (8*(k+xs.length)) x
 | [],d,k=>rfl
 |y::xs,d,k=>by
  show dSet (d.set (8*k) y) (xs++[x]) (k+1)=_;rw[zms x xs];show _=(dSet (d.set (8*k) y) xs (k+1)).set (8*(k+(xs.length+1))) x;rw[show k+1+xs.length=k+(xs.length+1) by omega]
theorem ziV:∀(xs:List UInt8)(d:List UInt8)(k:Nat),(dSet d xs k).length=d.length
 | [],d,k=>rfl
 |y::xs,d,k=>by
  show(dSet (d.set (8*k) y) xs (k+1)).length=_;rw[ziV xs,qP]
theorem zo0(m:Mk):∀i:Nat,(dSt m i).2.length=i
 |0=>rfl
 |i+1=>by
  show((dSt m i).2++[_]).length=i+1;rw[zl,zo0 m i];rfl
def mRef(m:Mk)(l:lt.T):lt.T×Mk:=(addD l (dSet (l.2.2.2.2.2.2.2.2.2.2.2.2.2.2.2.2.2.2.2.1) (dSt m 4).2 0),(dSt m 4).1)
def cMdD:RCtr:={ self:=mkr,args:=[lt,i64],inv:=λ_ _=>True,pre:=λm xs=>[0<=mkU m/\mkU m<=50000,xs.2.1=16,zp xs.1.2.2.2.2.2.2.2.2.2.2.2.2.2.2.2.2.2.2.2.1=32],res:=lt,out:=λm xs=>(mRef m xs.1).1,post:=λm xs=>(mRef m xs.1).2 }
theorem boxL{x y:lt.T}(h:x=y):some (OObj.box lt x)=some (OObj.box lt y):=by rw[h]
set_option maxHeartbeats 8000000 in
theorem zqn:vC zf gmG 18 cMdD:=by
 refine zaW (K:=kMdC) zbk fO rfl rfl fP rfl d_ (λw w' g hg h hk=>trivial) ?_;rintro w0 O g hX x4 (m:Mk) ⟨(l:lt.T),(f:Int),⟨⟩⟩ ⟨⟨h1,h2⟩,h3,x1⟩;have h1:0<=mkU m:=h1;have h2:mkU m<=50000:=h2;obtain rfl:f=16:=h3;have x1:(l.2.2.2.2.2.2.2.2.2.2.2.2.2.2.2.2.2.2.2.1).length=32:=x1;change AWP _ _ _ _ _ ⟨[(0,⟨.optr mkr,⟨0,mkr,.here⟩⟩),(1,⟨lt,l⟩),(2,⟨i64,(16:Int)⟩)],[(0,some (.box mkr m))],1⟩ _;obtain⟨z,hz⟩:∃z,z=zaD lt:=⟨_,rfl⟩;refine zaa (zaa (zab zbk ?_));refine zak (Y':=⟨[(0,⟨.optr mkr,⟨0,mkr,.here⟩⟩),(2,⟨i64,(16:Int)⟩),(4,⟨.optr lt,⟨1,lt,.here⟩⟩),(6,⟨.optr lt,⟨2,lt,.here⟩⟩)],[(0,some (.box mkr m)),(1,some (.box lt l)),(2,some (.box lt z))],3⟩) ⟨⟨rfl,rfl,rfl,rfl,t_⟩,⟨rfl,rfl,boxL hz.symm,t_⟩,rfl,rfl⟩ ?_;refine zaa (zaa (zab zbk ?_));refine zaL rfl ?_;apply zaf
 iterate 2 (refine zaa (zaa (zab zbk ?_)))
 iterate 4 (refine zae rfl (λh=>absurd (show false=true from h) d_) (λ_=>?_);refine zaa (zaa (zab zbk ?_)))
 refine zbu rfl ?_;refine zaa (zaa (zab zbk ?_));refine zaa ?_;refine yK (ι:=Nat) (λk=>⟨[(0,⟨.optr mkr,⟨0,mkr,.here⟩⟩),(2,⟨i64,(16:Int)⟩),(4,⟨.optr lt,⟨1,lt,.here⟩⟩),(6,⟨.optr lt,⟨2,lt,.here⟩⟩),(13,⟨i64,(k:Int)⟩)],[(0,some (.box mkr (dSt m k).1)),(1,some (.box lt (addD l (dSet (l.2.2.2.2.2.2.2.2.2.2.2.2.2.2.2.2.2.2.2.1) (dSt m k).2 0)))),(2,some (.box lt z))],3⟩) (λk=>k<=4) (λk=>4-k) 0 (zk _) ⟨⟨rfl,rfl,rfl,rfl,rfl,t_⟩,⟨rfl,rfl,rfl,t_⟩,rfl,rfl⟩ ?_;intro k hk;refine zaa (zaa (zab zbk ?_));refine zaa ?_;refine zaN rfl (λhb=>?_) (λhb=>?_)
 .have hb:(k:Int)<4:=hb;have g1:=zu0 m k;have g3:=zo0 m k;have x0:dSt m (k+1)=((zad (dSt m k).1 256).2,(dSt m k).2++[zol (zad (dSt m k).1 256).1]):=rfl;generalize dSt m k=s at *;obtain⟨(n:Mk),(xs:List UInt8)⟩:=s;obtain⟨_,_,_,e1,e2⟩:MkU (k:Int) m n:=g1;have g3:xs.length=k:=g3;have x0:dSt m (k+1)=((zad n 256).2,xs++[zol (zad n 256).1]):=x0;have p4:0<=mkU n/\mkU n<=1000000/\0<(256:Int)/\(256:Int)<=1000000000:=⟨by omega,by omega,by decide,by decide⟩;have q1:inR .i64 ((k:Int)+1):=zah o_ o_;have q2:inR .i64 (8*(k:Int)):=zah o_ o_;have x2:=ziV xs (l.2.2.2.2.2.2.2.2.2.2.2.2.2.2.2.2.2.2.2.1) 0;have x3:=zms (zol (zad n 256).1) xs (l.2.2.2.2.2.2.2.2.2.2.2.2.2.2.2.2.2.2.2.1) 0;generalize dSet (l.2.2.2.2.2.2.2.2.2.2.2.2.2.2.2.2.2.2.2.1) xs 0=d at *;apply zaf;have q3:(0:Int)<=8*(k:Int)/\8*(k:Int)<32:=o_;refine zaa (zaa (zab zbk ?_ (hp:=by exact⟨q2,p4.1,p4.2.1,p4.2.2.1,p4.2.2.2,q3.1,q3.2,(by show(8*(k:Int)).toNat<32;omega)⟩)));refine zak (Y':=⟨[(0,⟨.optr mkr,⟨0,mkr,.here⟩⟩),(2,⟨i64,(16:Int)⟩),(4,⟨.optr lt,⟨1,lt,.here⟩⟩),(6,⟨.optr lt,⟨2,lt,.here⟩⟩),(13,⟨i64,(k:Int)⟩)],[(0,some (.box mkr (zad n 256).2)),(1,some (.box lt (addD l (d.set (8*(k:Int)).toNat (zol (zad n 256).1))))),(2,some (.box lt z))],3⟩) ⟨⟨rfl,rfl,rfl,rfl,rfl,t_⟩,⟨rfl,rfl,rfl,t_⟩,rfl,rfl⟩ ?_;refine zaa (zab zbk ?_ (hp:=by exact q1));refine⟨k+1,by omega,by omega,?_⟩;rw[x0];refine⟨⟨rfl,rfl,rfl,rfl,rfl,t_⟩,⟨rfl,boxL (congrArg (addD l) ?_),rfl,t_⟩,rfl,rfl⟩;rw[x3,g3,show(8*(k:Int)).toNat=8*(0+k) by omega]
 have hb:¬((k:Int)<4):=hb;obtain rfl:k=4:=o_;apply zan;refine zaa (zaa (zab zbk ?_));refine zak (Y':=⟨[(6,⟨.optr lt,⟨2,lt,.here⟩⟩)],[(0,some (.box mkr (mRef m l).2)),(2,some (.box lt (mRef m l).1))],3⟩) ⟨⟨rfl,t_⟩,⟨rfl,rfl,t_⟩,rfl,rfl⟩ ?_;exact zC ⟨.inr rfl,rfl,D1 rfl⟩
set_option maxRecDepth 10000
section
variable {s:List UInt8}
theorem zlI{lo hi:Int}{z:Bool}{x:Int}(h1:lo<=x)(h2:x<=hi)(h3:z=true\/x≠0):∀{l:List Int}{last:Int},Ris lo hi z last l->l.getLast?.getD last<x->Ris lo hi z last (l++[x])
 | [],_,_,h=>⟨h,h1,h2,h3,t_⟩
 |y::r,last,h,hx=>by
  obtain⟨a,b,c,d,e⟩:=h;refine⟨a,b,c,d,zlI h1 h2 h3 e ?_⟩;rw[List.getLast?_cons]at hx;exact hx
end
theorem zrt{lo hi:Int}{z:Bool}:∀{l:List Int}{last:Int},Ris lo hi z last l->∀i,i<l.length->(lo<=l.getD i 0/\l.getD i 0<=hi)/\(0<i->l.getD (i-1) 0<l.getD i 0)/\(z=true\/l.getD i 0≠0)
 | [],_,_,i,hi=>absurd hi (yS _)
 |x::r,last,h,i,hi=>by
  obtain⟨a,b,c,d,e⟩:=h;cases i with
  |zero=>exact⟨⟨b,c⟩,λh=>absurd h (Nat.lt_irrefl _),d⟩
  |succ i=>
   obtain⟨h1,h2,h3⟩:=zrt e i (by rw[yT]at hi;omega);refine⟨h1,λ_=>?_,h3⟩;cases i with
   |zero=>
    cases r with
    |nil=>rw[yT,List.length_nil]at hi;omega
    |cons y r=>exact e.1
   |succ i=>exact h2 o_
theorem zgW{l:List Int}{lo hi:Int}{z:Bool}(h0:¬(lo=0/\hi=0))(hz:z=decide (¬lo<0))(x0:l≠ [])(h:Ris lo hi z (lo-1) l):zbT l (lo,hi,())=true:=by
 have x1:ziJ (lo,hi,())=false:=by
  rw[Bool.eq_false_iff];intro e;unfold ziJ at e;rw[zh,beq_iff_eq,beq_iff_eq]at e;exact h0 e
 unfold zbT;rw[x1,cond_false,zh,decide_eq_true_iff,yH];refine⟨λi hi=>?_,by have:=List.length_pos_iff.2 x0;omega⟩;obtain⟨⟨a,b⟩,c,d⟩:=zrt h i (qr.1 hi);rw[Bool.not_eq_true'];unfold zi4;simp only[jM,Bool.not_eq_false',zb2,Bool.and_eq_false_iff,decide_eq_false_iff_not,beq_eq_false_iff_ne];refine⟨⟨⟨a,b⟩,?_⟩,?_⟩
 .by_cases e:0<i
  .exact .inr (by have:=c e;omega)
  .exact .inl e
 .rcases d with d|d
  .rw[hz]at d;exact .inr (of_decide_eq_true d)
  .exact .inl d
theorem and4{a b c d:Bool}(ha:a=true)(hb:b=true)(hc:c=true)(hd:d=true):((true&&a)&&(b&&(true&&(c&&d))))=true:=by rw[ha,hb,hc,hd];rfl
theorem zcg{n lo hi:Int}(h:lo<=n/\n<=hi):inB n lo hi=true:=zb2.2 h
set_option maxRecDepth 10000
theorem zc4{lo hi x1 x0:Int}{z:Bool}(h1:x1<=lo)(h2:hi<=x0):∀{l:List Int}{a b:Int},b<=a->Ris lo hi z a l->Ris x1 x0 z b l
 | [],_,_,_,_=>trivial
 |x::r,a,b,hab,h=>by
  obtain⟨p,q,s,t,u⟩:=h;exact⟨by omega,by omega,by omega,t,zc4 h1 h2 (qs _) u⟩
theorem ziG{lo hi:Int}{z:Bool}(hz:z=true\/¬0<=lo):∀(k:Nat)(m:Mk)(v:Int)(acc:List Int),Ris lo hi z (lo-1) acc->acc.getLast?.getD (lo-1)<v->lo<=v->Ris lo hi z (lo-1) (mRis lo hi k m v acc).1/\(mRis lo hi k m v acc).1.length<=acc.length+k
 |0,m,v,acc,h,_,_=>⟨h,zu _⟩
 |k+1,m,v,acc,h,hl,hv=>by
  have hp:=zao m (n:=3) d_;rw[mRis];split
  .rename_i x0;split
   .rename_i hc;have h2:=zlI (z:=z) hv x0 (by
     rcases hz with hz|hz
     .exact .inl hz
     .exact .inr (hc.resolve_right hz)) h hl
    obtain⟨a,b⟩:=ziG hz k (zad m 3).2 (v+1+(zad m 3).1) (acc++[v]) h2 (by rw[List.getLast?_append];show v<_;omega) o_;refine⟨a,?_⟩;rw[zl,qy]at b;omega
   .obtain⟨a,b⟩:=ziG hz k (zad m 3).2 (v+1+(zad m 3).1) acc h o_ o_;exact⟨a,by omega⟩
  .exact⟨h,by show acc.length<=_;omega⟩
theorem zci(m:Mk){lo hi:Int}{z:Bool}(hz:z=true\/¬0<=lo)(x1:z=true\/hi≠0)(hl:lo<=hi):(zaF m lo hi).1≠ []/\(zaF m lo hi).1.length<=4/\Ris lo hi z (lo-1) (zaF m lo hi).1:=by
 have hp:=zao m (n:=4) d_;have hq:=zao (zad m 4).2 (n:=hi-lo+1) o_;obtain⟨a,b⟩:=ziG hz (hi:=hi) (1+(zad m 4).1).toNat (zad (zad m 4).2 (hi-lo+1)).2 (lo+(zad (zad m 4).2 (hi-lo+1)).1) [] trivial (by show lo-1<_;omega) o_;unfold zaF orHi;dsimp only;split
 .exact⟨by simp,by simp,⟨by omega,hl,qs _,x1,t_⟩⟩
 .rename_i x0;refine⟨λe=>x0 (by rw[e];rfl),?_,a⟩;rw[List.length_nil]at b;omega
def zjE(x:Int):Prop:=-1000<x/\x<1000
def NdSm(n:Nd):Prop:=(zjE (ndC n)/\zjE (ndN n)/\zjE (ndM n))/\(∀x∈ndI n,zjE x)/\(ndI n).length<=5/\(ndS n).length<=20
def TrSm:Tr->Prop
 |.leaf n=>NdSm n
 |.un n a=>NdSm n/\TrSm a
 |.bin n a b=>NdSm n/\TrSm a/\TrSm b
theorem sm0:zjE 0:=⟨by decide,by decide⟩
theorem zf7{lo hi:Int}{z:Bool}(h1: -1000<lo)(h2:hi<1000):∀{l:List Int}{a:Int},Ris lo hi z a l->∀x∈l,zjE x
 | [],_,_,x,hx=>by cases hx
 |y::r,_,h,x,hx=>by
  obtain⟨_,a,b,_,h⟩:=h;rcases zE.1 hx with rfl|hx
  .exact⟨by omega,by omega⟩
  .exact zf7 h1 h2 h x hx
theorem nosm:∀x∈([]:List Int),zjE x:=λx hx=>by cases hx
theorem zsA{k c:Int}{m:Mk}(hk:1<=k/\k<=7)(hc:0<=c/\c<=2)(x1:k=1\/k=5->c=0):TrOk (.leaf (zga k c m).1)/\NdSm (zga k c m).1:=by
 have sc:zjE c:=⟨by omega,by omega⟩;have x0:(([]:List UInt8)).length<=20:=zk _;rcases (show k=1\/k=2\/k=3\/k=4\/k=5\/k=6\/k=7 by omega) with rfl|rfl|rfl|rfl|rfl|rfl|rfl
 .have h1:=zao m (n:=12) d_;have h2:=zao (zad m 12).2 (n:=20) d_;obtain rfl:c=0:=x1 (.inl rfl);show TrOk (.leaf (1,0,0,0,1+(zad m 12).1,(zad (zad m 12).2 20).1,[],[],()))/\NdSm (1,0,0,0,1+(zad m 12).1,(zad (zad m 12).2 20).1,[],[],());generalize hx:1+(zad m 12).1=x at *;generalize (zad (zad m 12).2 20).1=y at *;refine⟨⟨?_,by show ¬((8:Int)<=1/\_);omega,rfl,λ_=>rfl⟩,⟨⟨sm0,⟨by show -1000<x;omega,by show x<1000;omega⟩,⟨by show -1000<y;omega,by show y<1000;omega⟩⟩,nosm,zk _,x0⟩⟩;exact and4 (a:=true) (b:=true) (c:=true) rfl rfl rfl (show(bif inB x 1 1099511627776 then inB y 0 1099511627776 else false)=true by rw[zcg (hi:=1099511627776) o_,zcg (hi:=1099511627776) o_];rfl)
 .have h1:=zao m (n:=4) d_;have h2:=zao (zad m 4).2 (n:=1+(zad m 4).1) o_;show TrOk (.leaf (2,c,0,0,1+(zad m 4).1,(zad (zad m 4).2 (1+(zad m 4).1)).1,[],[],()))/\NdSm (2,c,0,0,1+(zad m 4).1,(zad (zad m 4).2 (1+(zad m 4).1)).1,[],[],());generalize hx:1+(zad m 4).1=x at *;generalize (zad (zad m 4).2 x).1=y at *;refine⟨⟨?_,by show ¬((8:Int)<=2/\_);omega,rfl,λ_=>rfl⟩,⟨⟨sc,⟨by show -1000<x;omega,by show x<1000;omega⟩,⟨by show -1000<y;omega,by show y<1000;omega⟩⟩,nosm,zk _,x0⟩⟩;exact and4 (a:=true) (b:=inB c 0 2) (c:=true) rfl (zcg hc) rfl (show(bif inB x 1 400 then inB y 0 (x-1) else false)=true by rw[zcg o_,zcg o_];rfl)
 .obtain⟨a1,a2,a3⟩:=zci m (lo:=1) (hi:=4) (z:=true) d_ d_ d_;show TrOk (.leaf (3,c,0,0,0,0,(zaF m 1 4).1,[],()))/\NdSm (3,c,0,0,0,0,(zaF m 1 4).1,[],());generalize (zaF m 1 4).1=l at *;refine⟨⟨?_,by show ¬((8:Int)<=3/\_);omega,rfl,λ_=>rfl⟩,⟨⟨sc,sm0,sm0⟩,zf7 d_ d_ a3,zL a2 d_,x0⟩⟩;exact and4 (a:=decide (l.length<=64)) (b:=inB c 0 2) (c:=zbT l (1,16,())) (d:=true) (decide_eq_true o_) (zcg hc) (zgW d_ d_ a1 (zc4 d_ d_ d_ a3)) rfl
 .obtain⟨a1,a2,a3⟩:=zci m (lo:=(-4)) (hi:=7) (z:=false) d_ d_ d_;show TrOk (.leaf (4,c,0,0,0,0,(zaF m (-4) 7).1,[],()))/\NdSm (4,c,0,0,0,0,(zaF m (-4) 7).1,[],());generalize (zaF m (-4) 7).1=l at *;refine⟨⟨?_,by show ¬((8:Int)<=4/\_);omega,rfl,λ_=>rfl⟩,⟨⟨sc,sm0,sm0⟩,zf7 d_ d_ a3,zL a2 d_,x0⟩⟩;exact and4 (a:=decide (l.length<=64)) (b:=inB c 0 2) (c:=zbT l (-40,40,())) (d:=true) (decide_eq_true o_) (zcg hc) (zgW d_ d_ a1 (zc4 d_ d_ d_ a3)) rfl
 .obtain rfl:c=0:=x1 (.inr rfl);obtain⟨a1,a2,a3⟩:=zci m (lo:=0) (hi:=6) (z:=true) d_ d_ d_;show TrOk (.leaf (5,0,0,0,0,0,(zaF m 0 6).1,[],()))/\NdSm (5,0,0,0,0,0,(zaF m 0 6).1,[],());generalize (zaF m 0 6).1=l at *;refine⟨⟨?_,by show ¬((8:Int)<=5/\_);omega,rfl,λ_=>rfl⟩,⟨⟨sc,sm0,sm0⟩,zf7 d_ d_ a3,zL a2 d_,x0⟩⟩;exact and4 (a:=decide (l.length<=64)) (b:=true) (c:=zbT l (0,6,())) (d:=true) (decide_eq_true o_) rfl (zgW d_ d_ a1 (zc4 d_ d_ d_ a3)) rfl
 .obtain⟨a1,a2,a3⟩:=zci m (lo:=1) (hi:=4) (z:=true) d_ d_ d_;show TrOk (.leaf (6,c,0,0,0,0,(zaF m 1 4).1,[],()))/\NdSm (6,c,0,0,0,0,(zaF m 1 4).1,[],());generalize (zaF m 1 4).1=l at *;refine⟨⟨?_,by show ¬((8:Int)<=6/\_);omega,rfl,λ_=>rfl⟩,⟨⟨sc,sm0,sm0⟩,zf7 d_ d_ a3,zL a2 d_,x0⟩⟩;exact and4 (a:=decide (l.length<=64)) (b:=inB c 0 2) (c:=zbT l (1,54,())) (d:=true) (decide_eq_true o_) (zcg hc) (zgW d_ d_ a1 (zc4 d_ d_ d_ a3)) rfl
 .have h1:=zao m (n:=3) d_;have h2:=zao (zad (zad m 3).2 2).2 (n:=7) d_;have h3:=zao (zad (zad (zad m 3).2 2).2 7).2 (n:=2) d_;show TrOk (.leaf (7,c,(zad (zad (zad (zad m 3).2 2).2 7).2 2).1,0,(if(zad (zad m 3).2 2).1=1 then -(1+(zad m 3).1) else 1+(zad m 3).1),(zad (zad (zad m 3).2 2).2 7).1,[],[],()))/\NdSm (7,c,(zad (zad (zad (zad m 3).2 2).2 7).2 2).1,0,(if(zad (zad m 3).2 2).1=1 then -(1+(zad m 3).1) else 1+(zad m 3).1),(zad (zad (zad m 3).2 2).2 7).1,[],[],());have hx:∀b:Int,-3<=(if b=1 then -(1+(zad m 3).1) else 1+(zad m 3).1)/\(if b=1 then -(1+(zad m 3).1) else 1+(zad m 3).1)<=3/\(if b=1 then -(1+(zad m 3).1) else 1+(zad m 3).1)≠0:=λb=>by split<;>omega
  have hx:=hx (zad (zad m 3).2 2).1;generalize (if(zad (zad m 3).2 2).1=1 then -(1+(zad m 3).1) else 1+(zad m 3).1)=x at *;generalize (zad (zad (zad m 3).2 2).2 7).1=y at *;generalize (zad (zad (zad (zad m 3).2 2).2 7).2 2).1=u at *;refine⟨⟨?_,by show ¬((8:Int)<=7/\_);omega,rfl,λe=>absurd rfl e⟩,⟨⟨sc,⟨by show -1000<x;omega,by show x<1000;omega⟩,⟨by show -1000<y;omega,by show y<1000;omega⟩⟩,nosm,zk _,x0⟩⟩;refine and4 (a:=true) (b:=inB c 0 2) (c:=true) rfl (zcg hc) rfl (show(bif (bif (bif inB x (-60) 60 then !(x==0) else false) then inB y 0 6 else false) then inB u 0 1 else false)=true from ?_);rw[zcg (n:=x) o_,zcg (n:=y) o_,zcg (n:=u) (lo:=0) (hi:=1) o_,beq_eq_false_iff_ne.2 hx.2.2];rfl
theorem zqO{x:Int}(h0:0<=x)(h1:x<1000000):(deI x).length<=6:=by
 unfold deI Lib.itoa;rw[if_neg o_];have e:(10:Nat)^(5+1)=1000000:=d_;exact ziU 5 x.toNat (by rw[e];omega)
theorem zvK{x:Int}(h0:0<=x)(h1:x<1000000):zfH ([110]++deI x)=true/\([110]++deI x).length<=20:=by
 have hl:=zqO h0 h1;have hd:∀c∈deI x,isPt c=true:=λc hc=>by
  have e:deI x=Lib.decDigits x.toNat:=by unfold deI Lib.itoa;rw[if_neg o_]
  rw[e]at hc;unfold isPt;rw[(zoZ x.toNat).1 c hc,Bool.or_true,Bool.true_or]
 refine⟨?_,by rw[zl,qy];omega⟩;unfold zfH;rw[zh,zh,zh,decide_eq_true_iff,decide_eq_true_iff];refine⟨⟨by simp,by rw[zl,qy];omega⟩,rfl,?_⟩;rw[yH];intro c hc;rcases yJ.1 hc with hc|hc
 .rw[zQ.1 hc];decide
 .exact hd c hc
theorem zrI{k:Int}{m:Mk}:(0<=(zd0 k m 3).1/\(zd0 k m 3).1<=2)/\(k=1\/k=5->(zd0 k m 3).1=0):=by
 unfold zd0;split
 .rename_i h;have:=zao m (n:=3) d_;exact⟨by omega,λe=>by omega⟩
 .exact⟨by show(0:Int)<=0/\(0:Int)<=2;omega,λ_=>rfl⟩
theorem zou(m:Mk)(hn:0<=mkN m)(x0:mkN m<=1000000):TrOk (.leaf (zcJ m 3).1)/\NdSm (zcJ m 3).1:=by
 have hk:=zao m (n:=8) d_;unfold zcJ zh4;dsimp only;split
 .rename_i hc;have h1:mkN (zcy (1+(zad m 8).1) (zad m 8).2).2=mkN m:=(zrn _ _).1;have h2:=zao (zcy (1+(zad m 8).1) (zad m 8).2).2 (n:=mkN (zcy (1+(zad m 8).1) (zad m 8).2).2) hc.2;generalize (zad (zcy (1+(zad m 8).1) (zad m 8).2).2 (mkN (zcy (1+(zad m 8).1) (zad m 8).2).2)).1=x at *;obtain⟨a,b⟩:=zvK (x:=x) h2.1 o_;refine⟨⟨?_,by show ¬((8:Int)<=18/\(18:Int)<=17);omega,rfl,λ_=>rfl⟩,⟨⟨sm0,sm0,sm0⟩,nosm,zk _,b⟩⟩;have:((true&&true)&&(true&&(zfH ([110]++deI x)&&(true&&true))))=true:=by rw[a];rfl
  exact this
 .rename_i hc;exact zsA (zrD (m:=(zad m 8).2) hn o_ hc) zrI.1 zrI.2
theorem zut{k:Int}{m:Mk}(hk:11<=k/\k<=16):zcl (mOne k 3 m).1=true/\NdSm (mOne k 3 m).1:=by
 have x0:(([]:List UInt8)).length<=20:=zk _;rcases (show k=11\/k=12\/k=13\/k=14\/k=15\/k=16 by omega) with rfl|rfl|rfl|rfl|rfl|rfl
 .have h1:=zao m (n:=15) d_;show zcl (11,0,0,0,(zad m 15).1-7,0,[],[],())=true/\NdSm (11,0,0,0,(zad m 15).1-7,0,[],[],());generalize hx:(zad m 15).1-7=x at *;refine⟨?_,⟨⟨sm0,⟨by show -1000<x;omega,by show x<1000;omega⟩,sm0⟩,nosm,zk _,x0⟩⟩;exact and4 (a:=true) (b:=true) (c:=true) rfl rfl rfl (show(bif inB x (-1099511627776) 1099511627776 then true else false)=true by rw[zcg (lo:=-1099511627776) (hi:=1099511627776) o_];rfl)
 .have h1:=zao m (n:=60) d_;show zcl (12,0,0,0,(zad m 60).1,0,[],[],())=true/\NdSm (12,0,0,0,(zad m 60).1,0,[],[],());generalize (zad m 60).1=x at *;refine⟨?_,⟨⟨sm0,⟨by show -1000<x;omega,by show x<1000;omega⟩,sm0⟩,nosm,zk _,x0⟩⟩;exact and4 (a:=true) (b:=true) (c:=true) rfl rfl rfl (show(bif inB x 0 1099511627776 then true else false)=true by rw[zcg (hi:=1099511627776) o_];rfl)
 .have h1:=zao m (n:=60) d_;show zcl (13,0,0,0,(zad m 60).1,0,[],[],())=true/\NdSm (13,0,0,0,(zad m 60).1,0,[],[],());generalize (zad m 60).1=x at *;refine⟨?_,⟨⟨sm0,⟨by show -1000<x;omega,by show x<1000;omega⟩,sm0⟩,nosm,zk _,x0⟩⟩;exact and4 (a:=true) (b:=true) (c:=true) rfl rfl rfl (show(bif inB x 0 1099511627776 then true else false)=true by rw[zcg (hi:=1099511627776) o_];rfl)
 .obtain⟨a1,a2,a3⟩:=zci m (lo:=0) (hi:=60) (z:=true) d_ d_ d_;show zcl (14,0,0,0,0,0,(zaF m 0 60).1,[],())=true/\NdSm (14,0,0,0,0,0,(zaF m 0 60).1,[],());generalize (zaF m 0 60).1=l at *;refine⟨?_,⟨⟨sm0,sm0,sm0⟩,zf7 d_ d_ a3,zL a2 d_,x0⟩⟩;exact and4 (a:=decide (l.length<=64)) (b:=true) (c:=zbT l (0,1099511627776,())) (d:=true) (decide_eq_true o_) rfl (zgW d_ d_ a1 (zc4 d_ d_ d_ a3)) rfl
 .obtain⟨a1,a2,a3⟩:=zci m (lo:=0) (hi:=60) (z:=true) d_ d_ d_;show zcl (15,0,0,0,0,0,(zaF m 0 60).1,[],())=true/\NdSm (15,0,0,0,0,0,(zaF m 0 60).1,[],());generalize (zaF m 0 60).1=l at *;refine⟨?_,⟨⟨sm0,sm0,sm0⟩,zf7 d_ d_ a3,zL a2 d_,x0⟩⟩;exact and4 (a:=decide (l.length<=64)) (b:=true) (c:=zbT l (0,1099511627776,())) (d:=true) (decide_eq_true o_) rfl (zgW d_ d_ a1 (zc4 d_ d_ d_ a3)) rfl
 .have h1:=zao m (n:=3) d_;have h2:=zao (zad m 3).2 (n:=2) d_;obtain⟨a1,a2,a3⟩:=zci (zad (zad m 3).2 2).2 (lo:=-3) (hi:=3) (z:=false) d_ d_ d_;show zcl (16,(zad m 3).1,0,0,0,(zad (zad m 3).2 2).1,(zaF (zad (zad m 3).2 2).2 (-3) 3).1,[],())=true/\NdSm (16,(zad m 3).1,0,0,0,(zad (zad m 3).2 2).1,(zaF (zad (zad m 3).2 2).2 (-3) 3).1,[],());generalize (zaF (zad (zad m 3).2 2).2 (-3) 3).1=l at *;generalize (zad (zad m 3).2 2).1=u at *;generalize (zad m 3).1=c at *;refine⟨?_,⟨⟨⟨by show -1000<c;omega,by show c<1000;omega⟩,sm0,⟨by show -1000<u;omega,by show u<1000;omega⟩⟩,zf7 d_ d_ a3,zL a2 d_,x0⟩⟩;exact and4 (a:=decide (l.length<=64)) (b:=inB c 0 2) (c:=zbT l (-400,400,())) (d:=inB u 0 1) (decide_eq_true o_) (zcg o_) (zgW d_ d_ a1 (zc4 d_ d_ d_ a3)) (zcg o_)
theorem zvw{k c:Int}(hk:(8<=k/\k<=10)/\c=0\/k=17/\1<=c/\c<=3):zcl (k,0,0,0,c,0,[],[],())=true/\NdSm (k,0,0,0,c,0,[],[],()):=by
 have x0:(([]:List UInt8)).length<=20:=zk _;refine⟨?_,⟨⟨sm0,⟨by show -1000<c;omega,by show c<1000;omega⟩,sm0⟩,nosm,zk _,x0⟩⟩;rcases hk with ⟨⟨h1,h2⟩,rfl⟩|⟨rfl,h⟩
 .rcases (show k=8\/k=9\/k=10 by omega) with rfl|rfl|rfl
  .decide+kernel
  .decide+kernel
  .decide+kernel
 .exact and4 (a:=true) (b:=true) (c:=true) rfl rfl rfl (show(bif inB c 1 400 then true else false)=true by rw[zcg o_];rfl)
theorem zu3{k:Int}{m:Mk}(h:two k=true):(8<=k/\k<=10)/\(mCnt k m).1=0\/k=17/\1<=(mCnt k m).1/\(mCnt k m).1<=3:=by
 rw[zeV]at h;unfold mCnt;split
 .rename_i e;have:=zao m (n:=3) d_;exact .inr ⟨e,by omega⟩
 .exact .inl ⟨by omega,rfl⟩
theorem zoj:∀(d:Nat)(m:Mk),0<=mkN m->mkN m<=1000000->TrOk (mTr 3 d m).1/\TrSm (mTr 3 d m).1
 |0,m,h,h2=>zou _ h h2
 |d+1,m,h,h2=>by
  have hp:=zao (zaG m) (n:=14) d_;rw[mTr];dsimp only;split
  .exact zou _ h h2
  rename_i x0;have hs:(zad (zaG m) 14).1<10:=by
   have:¬zfI (d+1) (zad (zaG m) 14)=true:=x0;unfold zfI at this;simp only[Bool.or_eq_true,decide_eq_true_iff,not_or]at this;omega
  have h0:=h;have h3:=h2;obtain⟨ha,sa⟩:=zoj d (zad (zaG m) 14).2 h0 h3;have hg:=(zgT 3 d (zad (zaG m) 14).2).1;split
  .rename_i ht;have hc:=(zmt (8+(zad (zaG m) 14).1) (mTr 3 d (zad (zaG m) 14).2).2).1;obtain⟨hb,sb⟩:=zoj d (mCnt (8+(zad (zaG m) 14).1) (mTr 3 d (zad (zaG m) 14).2).2).2 (by rw[hc,hg];exact h0) (by rw[hc,hg];exact h3);obtain⟨f,g⟩:=zvw (zu3 (m:=(mTr 3 d (zad (zaG m) 14).2).2) ht);exact⟨⟨f,zeV.1 ht,⟨rfl,rfl⟩,ha,hb⟩,g,sa,sb⟩
  .rename_i ht;rw[zeV]at ht;obtain⟨e1,e2,e3⟩:=zrB (k:=8+(zad (zaG m) 14).1) (ids:=3) (m:=(mTr 3 d (zad (zaG m) 14).2).2);obtain⟨f,g⟩:=zut (k:=8+(zad (zaG m) 14).1) (m:=(mTr 3 d (zad (zaG m) 14).2).2) o_;exact⟨⟨f,by rw[e1];omega,⟨e2,e3⟩,ha⟩,g,sa⟩
section
variable {P:Program}{w0:World}{X:Ownr}{n:Nat}{Y:AS}{U:Nat->Value}{a:Act}{w:World}{Q:Exit->AS->Prop}{ops:Array Oper}
theorem Sim.recast(h:Sim w0 X n Y U a w){i s:Nat}{Z x0:Ty}{x:Z.T}{y:x0.T}(hi:Owns.get Y.E i=some (.box Z x))(hs:zr Y.F s=⟨.optr Z,⟨i,Z,.here⟩⟩)(hr:∀w O cs,RepC w O Z x cs->RepC w O x0 y cs):
  Sim w0 X n ⟨(s,⟨.optr x0,⟨i,x0,.here⟩⟩)::Y.F,(i,some (.box x0 y))::Y.E,Y.nx⟩ U a w:=by
 have h1:=h.write (w':=w) (o':=.box x0 y) hi ⟨rfl,rfl,rfl,zu _,λ_ _ _=>rfl⟩ (λ_=>by
  obtain⟨g,cs,ty,h1,h2,h3,h4⟩:=h.own i _ hi;exact⟨g,cs,ty,h1,h2,h3,hr _ _ _ h4⟩) rfl
 refine { h1 with fr:=λk=>?_,hb:=λk=>?_ }
 .
  rw[zal];by_cases e:s=k
  .rw[if_pos e];subst e;have:=h1.fr s;rw[show zr (AS.mk Y.F ((i,some (.box x0 y))::Y.E) Y.nx).F s=_ from hs]at this;exact this
  .rw[if_neg e];exact h1.fr k
 .
  rw[zal];by_cases e:s=k
  .rw[if_pos e];exact h.lt i _ hi
  .rw[if_neg e];exact h1.hb k
theorem AL.recast(i s:Nat){Z x0:Ty}{x:Z.T}{y:x0.T}{l:List Oper}(hi:Owns.get Y.E i=some (.box Z x))(hs:zr Y.F s=⟨.optr Z,⟨i,Z,.here⟩⟩)(hr:∀w O cs,RepC w O Z x cs->RepC w O x0 y cs)
 (h:AL P w0 X n ops l ⟨(s,⟨.optr x0,⟨i,x0,.here⟩⟩)::Y.F,(i,some (.box x0 y))::Y.E,Y.nx⟩ Q):AL P w0 X n ops l Y Q:=λU a w x1=>h U a w (x1.recast hi hs hr)
theorem AWP.recast(i s:Nat){Z x0:Ty}{x:Z.T}{y:x0.T}{c:Code}(hi:Owns.get Y.E i=some (.box Z x))(hs:zr Y.F s=⟨.optr Z,⟨i,Z,.here⟩⟩)(hr:∀w O cs,RepC w O Z x cs->RepC w O x0 y cs)
 (h:AWP P w0 X n c ⟨(s,⟨.optr x0,⟨i,x0,.here⟩⟩)::Y.F,(i,some (.box x0 y))::Y.E,Y.nx⟩ Q):AWP P w0 X n c Y Q:=λU a w x1=>h U a w (x1.recast hi hs hr)
end
theorem znM{l:ltN.T}{w:World}{O:Nat->Prop}{cs:List Value}(h:RepC w O ltN l cs):RepC w O lt (addC l []) cs:=by
 obtain⟨a0,r0,e0,h0,⟨a1,r1,e1,h1,⟨a2,r2,e2,h2,⟨a3,r3,e3,h3,⟨a4,r4,e4,h4,⟨a5,r5,e5,h5,⟨a6,r6,e6,h6,⟨a7,r7,e7,h7,⟨a8,r8,e8,h8,⟨a9,r9,e9,h9,⟨xm,xf,xc,xv,⟨x4,xg,xu,y3,⟨xj,xk,xy,xw,⟨xh,y2,xr,xq,⟨x3,xa,xt,y4,⟨x0,x9,x6,y1,⟨x1,x2,xp,x5,⟨xl,xx,xn,x8,⟨xo,xd,x7,xe,⟨y0,xb,xi,xz,xs⟩⟩⟩⟩⟩⟩⟩⟩⟩⟩⟩⟩⟩⟩⟩⟩⟩⟩⟩⟩:=h;exact⟨a0,r0,e0,h0,⟨a1,r1,e1,h1,⟨a2,r2,e2,h2,⟨a3,r3,e3,h3,⟨a4,r4,e4,h4,⟨a5,r5,e5,h5,⟨a6,r6,e6,h6,⟨a7,r7,e7,h7,⟨a8,r8,e8,h8,⟨a9,r9,e9,h9,⟨xm,xf,xc,xv,⟨x4,xg,xu,y3,⟨xj,xk,xy,xw,⟨xh,y2,xr,xq,⟨x3,xa,xt,y4,⟨x0,x9,x6,y1,⟨x1,x2,xp,x5,⟨xl,xx,xn,x8,⟨xo,xd,x7,⟨_,xe,.inl ⟨rfl,none,0,rfl,zk _⟩⟩,⟨y0,xb,xi,xz,xs⟩⟩⟩⟩⟩⟩⟩⟩⟩⟩⟩⟩⟩⟩⟩⟩⟩⟩⟩⟩
def MkQ(k:Int)(m m':Mk):Prop:=mkN m'=mkN m/\mkU m<=mkU m'/\mkU m'<=mkU m+200*k/\mkS m<=mkS m'/\mkS m'<=mkS m+10*k
theorem MkQ.refl(m:Mk):MkQ 0 m m:=⟨rfl,qs _,by omega,qs _,by omega⟩
theorem MkQ.trans{a b:Int}{m m' x0:Mk}(h:MkQ a m m')(h':MkQ b m' x0):MkQ (a+b) m x0:=by
 obtain⟨h1,h2,h3,h4,h5⟩:=h;obtain⟨k1,k2,k3,k4,k5⟩:=h';exact⟨k1.trans h1,by omega,by omega,by omega,by omega⟩
theorem MkQ.le{a b:Int}{m m':Mk}(h:MkQ a m m')(x0:a<=b):MkQ b m m':=by
 obtain⟨h1,h2,h3,h4,h5⟩:=h;exact⟨h1,by omega,by omega,by omega,by omega⟩
theorem MkU.q{a:Int}{m m':Mk}(h:MkU a m m')(ha:a<=200):MkQ 1 m m':=by
 obtain⟨h1,h2,h3,h4,h5⟩:=h;exact⟨h2,by omega,by omega,by omega,by omega⟩
theorem zuC(m:Mk):MkQ 1 m (mSer m).2:=by
 have ge:MkGe (20*mMax 2) (mMax 2) m (mk1 m):=zgT 3 2 m;obtain⟨f1,f2,⟨f3,f4⟩,f5,f6⟩:=ge;have x0:mMax 2=7:=rfl;rw[x0]at f4 f6;have h7:=(((((((MkU.pick (mk1 m) 1440).trans (MkU.pick (mk2 m).2 200)).trans (MkU.pick (mk3 m).2 4)).trans (MkU.pick (mk4 m).2 3)).trans (MkU.pick (mk5 m).2 3)).trans (MkU.pick (mk6 m).2 20)).trans (MkU.pick (mk7 m).2 3)).trans (zsP (mk8 m).2 (mk7 m).1 (mk8 m).1.toNat);have h8:=zao (mk7 m).2 (n:=3) d_;have h8:0<=(mk8 m).1/\(mk8 m).1<3:=h8;obtain⟨g1,g2,g3,g4,g5⟩:=h7;have e:(mSer m).2=(mSt (mk8 m).2 (mk7 m).1 (mk8 m).1.toNat).1:=rfl;rw[e];exact⟨g2.trans f1,by omega,by omega,by omega,by omega⟩
theorem zlZ(m:Mk)(l:ltN.T)(f:Int):MkQ 1 m (zaZ m l f).2:=by
 unfold zaZ;split
 .exact(MkU.pick m (mHi l f)).q d_
 split
 .split
  .exact((MkU.pick m 40).trans (ziH _ _)).q d_
  split
  .exact(ziH _ _).q d_
  .exact(MkQ.refl m).le d_
 split
 .split
  .exact(MkQ.refl m).le d_
  .exact zuC m
 .exact((MkU.pick m 5000).trans (MkU.pick _ 5000)).q d_
theorem zuF(m:Mk):MkQ 1 m (mCel m).2:=by
 have h:=zao (zad m 4).2 (n:=5) d_;have h:0<=(cK m).1/\(cK m).1<5:=h;exact(((MkU.pick m 4).trans (MkU.pick (zad m 4).2 5)).trans (zts (cK m).2 (zad m 4).1 (1+(cK m).1).toNat)).q o_
theorem zpW(l:ltN.T)(f v:Int):(zd5 l f v).1=l.1/\(zd5 l f v).2.2.2.2.2.2.2.2.2.2.2.2.2.2.2.2.2.2.2.1=l.2.2.2.2.2.2.2.2.2.2.2.2.2.2.2.2.2.2.2.1:=by
 unfold zd5;split<;>exact⟨rfl,rfl⟩
theorem zjH(m:Mk)(l:ltN.T)(f:Int):(zaZ m l f).1.1=l.1/\(zaZ m l f).1.2.2.2.2.2.2.2.2.2.2.2.2.2.2.2.2.2.2.2.1=l.2.2.2.2.2.2.2.2.2.2.2.2.2.2.2.2.2.2.2.1:=by
 unfold zaZ;split
 .exact zpW _ _ _
 split
 .split
  .exact⟨rfl,rfl⟩
  split<;>exact⟨rfl,rfl⟩
 split
 .split<;>exact⟨rfl,rfl⟩
 .exact⟨rfl,rfl⟩
def skF(k:Int)(x0:Bool)(f:Int):Bool:=bif !(zhu k f) then true else bif x0 then(bif (bif (bif (bif f==4 then true else f==5) then true else f==6) then true else f==12) then true else f==10) else false
def mAt(x0:Bool)(l:ltN.T)(m:Mk):Nat->ltN.T×Mk
 |0=>(l,m)
 |f+1=>if skF (mAt x0 l m f).1.1 x0 (f:Int)=true then mAt x0 l m f else zaZ (mAt x0 l m f).2 (mAt x0 l m f).1 (f:Int)
theorem zqq(x0:Bool)(l:ltN.T)(m:Mk):∀f:Nat,MkQ (f:Int) m (mAt x0 l m f).2/\(mAt x0 l m f).1.1=l.1/\(mAt x0 l m f).1.2.2.2.2.2.2.2.2.2.2.2.2.2.2.2.2.2.2.2.1=l.2.2.2.2.2.2.2.2.2.2.2.2.2.2.2.2.2.2.2.1
 |0=>⟨MkQ.refl m,rfl,rfl⟩
 |f+1=>by
  obtain⟨h1,h2,h3⟩:=zqq x0 l m f;rw[mAt];split
  .exact⟨h1.le o_,h2,h3⟩
  .have h4:=zjH (mAt x0 l m f).2 (mAt x0 l m f).1 (f:Int);exact⟨(h1.trans (zlZ _ _ _)).le o_,h4.1.trans h2,h4.2.trans h3⟩
def sDay(l:lt.T)(x:Int):lt.T:=(l.1,l.2.1,l.2.2.1,l.2.2.2.1,l.2.2.2.2.1,l.2.2.2.2.2.1,l.2.2.2.2.2.2.1,l.2.2.2.2.2.2.2.1,l.2.2.2.2.2.2.2.2.1,l.2.2.2.2.2.2.2.2.2.1,l.2.2.2.2.2.2.2.2.2.2.1,x,l.2.2.2.2.2.2.2.2.2.2.2.2.1,l.2.2.2.2.2.2.2.2.2.2.2.2.2.1,l.2.2.2.2.2.2.2.2.2.2.2.2.2.2.1,l.2.2.2.2.2.2.2.2.2.2.2.2.2.2.2.1,l.2.2.2.2.2.2.2.2.2.2.2.2.2.2.2.2.1,l.2.2.2.2.2.2.2.2.2.2.2.2.2.2.2.2.2.1,l.2.2.2.2.2.2.2.2.2.2.2.2.2.2.2.2.2.2.1,l.2.2.2.2.2.2.2.2.2.2.2.2.2.2.2.2.2.2.2.1,())
def sOth(l:lt.T)(x:Int):lt.T:=(l.1,l.2.1,l.2.2.1,l.2.2.2.1,l.2.2.2.2.1,l.2.2.2.2.2.1,l.2.2.2.2.2.2.1,l.2.2.2.2.2.2.2.1,x,l.2.2.2.2.2.2.2.2.2.1,l.2.2.2.2.2.2.2.2.2.2.1,l.2.2.2.2.2.2.2.2.2.2.2.1,l.2.2.2.2.2.2.2.2.2.2.2.2.1,l.2.2.2.2.2.2.2.2.2.2.2.2.2.1,l.2.2.2.2.2.2.2.2.2.2.2.2.2.2.1,l.2.2.2.2.2.2.2.2.2.2.2.2.2.2.2.1,l.2.2.2.2.2.2.2.2.2.2.2.2.2.2.2.2.1,l.2.2.2.2.2.2.2.2.2.2.2.2.2.2.2.2.2.1,l.2.2.2.2.2.2.2.2.2.2.2.2.2.2.2.2.2.2.1,l.2.2.2.2.2.2.2.2.2.2.2.2.2.2.2.2.2.2.2.1,())
def m0(ns:List Int):Mk:=(ns.take 60,0,2,0,())
def m1k(ns:List Int):Int×Mk:=zad (m0 ns) 18
def m2k(ns:List Int):Int×Mk:=zad (m1k ns).2 16
def m3k(ns:List Int):Int×Mk:=zad (m2k ns).2 15
def m4k(ns:List Int):Bool×Mk:=if 1+(m1k ns).1=8 then((zad (m3k ns).2 3).1==0,(zad (m3k ns).2 3).2) else(false,(m3k ns).2)
def l0k(k a b:Int):ltN.T:=(k,a,b,0,0,0,0,0,0,0,0,0,zMv',zSe,0,0,0,(0,0,()),(),zg 32 0,())
def mL0(ns:List Int):ltN.T:=l0k (1+(m1k ns).1) (m2k ns).1 (((m2k ns).1+1+(m3k ns).1).tmod 16)
def mL15(ns:List Int):ltN.T×Mk:=mAt (m4k ns).1 (mL0 ns) (m4k ns).2 15
def mL16(ns:List Int):lt.T×Mk:=if skF (mL15 ns).1.1 (m4k ns).1 15=true then(addC (mL15 ns).1 [],(mL15 ns).2) else(addC (mL15 ns).1 (mCel (mL15 ns).2).1,(mCel (mL15 ns).2).2)
def mL17(ns:List Int):lt.T×Mk:=if skF (mL16 ns).1.1 (m4k ns).1 16=true then mL16 ns else mRef (mL16 ns).2 (mL16 ns).1
def fixD(l:lt.T):lt.T:=if l.1=6/\l.2.2.2.2.2.2.2.2.2.2.1=3 then sDay l 0 else l
def fixO(l:lt.T):lt.T:=if l.1=5/\l.2.2.2.2.2.2.2.2.1=l.2.2.2.2.2.2.2.1 then sOth l (l.2.2.2.2.2.2.2.2.1+1) else l
def zkG(ns:List Int):lt.T:=fixO (fixD (mL17 ns).1)
abbrev sMa(z:lt.T)(m:Mk)(l:ltN.T)(F:Frame):AS:=⟨(2,⟨.optr lt,⟨0,lt,.here⟩⟩)::(3,⟨.optr mkr,⟨1,mkr,.here⟩⟩)::(4,⟨.optr ltN,⟨2,ltN,.here⟩⟩)::F,[(0,some (.box lt z)),(1,some (.box mkr m)),(2,some (.box ltN l))],3⟩
abbrev sMb(z:lt.T)(m:Mk)(l:lt.T)(F:Frame):AS:=⟨(2,⟨.optr lt,⟨0,lt,.here⟩⟩)::(3,⟨.optr mkr,⟨1,mkr,.here⟩⟩)::(4,⟨.optr lt,⟨2,lt,.here⟩⟩)::F,[(0,some (.box lt z)),(1,some (.box mkr m)),(2,some (.box lt l))],3⟩
def stM(z:lt.T)(ns:List Int)(ba:Bool)(l0:ltN.T)(m4:Mk)(f:Nat):AS:=if f<=15 then sMa z (mAt ba l0 m4 f).2 (mAt ba l0 m4 f).1 [(5,⟨.bool,ba⟩),(6,⟨i64,(f:Int)⟩)] else if f=16 then sMb z (mL16 ns).2 (mL16 ns).1 [(5,⟨.bool,ba⟩),(6,⟨i64,(f:Int)⟩)] else sMb z (mL17 ns).2 (mL17 ns).1 [(5,⟨.bool,ba⟩),(6,⟨i64,(f:Int)⟩)]
theorem zuE{ns:List Int}{k:Int}(h1:(mL15 ns).1.1=k)(h2:((mL15 ns).1.2.2.2.2.2.2.2.2.2.2.2.2.2.2.2.2.2.2.2.1).length=32)(h3:0<=mkU (mL15 ns).2/\mkU (mL15 ns).2<=40000):(mL16 ns).1.1=k/\((mL16 ns).1.2.2.2.2.2.2.2.2.2.2.2.2.2.2.2.2.2.2.2.1).length=32/\(0<=mkU (mL16 ns).2/\mkU (mL16 ns).2<=50000):=by
 unfold mL16;generalize mL15 ns=s at *;obtain⟨l,m⟩:=s;obtain⟨w1,w2,w3,w4,w5⟩:=zuF m;have h3:0<=mkU m/\mkU m<=40000:=h3;split
 .exact⟨h1,h2,h3.1,by show mkU m<=50000;omega⟩
 .exact⟨h1,h2,by show 0<=mkU (mCel m).2;omega,by show mkU (mCel m).2<=50000;omega⟩
theorem zuD{ns:List Int}{k:Int}(h1:(mL16 ns).1.1=k):(mL17 ns).1.1=k:=by
 unfold mL17;generalize mL16 ns=s at *;split
 .exact h1
 .exact h1
theorem zdy{n lo hi:Int}(h:lo<=n/\n<=hi):wthn n lo hi=true:=by unfold wthn;rw[decide_eq_true h.1,decide_eq_true h.2];rfl
theorem zlF:∀(t:Tr)(b:Nat),TrSm t->∀m∈t.flat b,NdSm m
 |.leaf n,b,h,m,hm=>by
  rw[kc,zQ]at hm;subst hm;exact h
 |.un n a,b,h,m,hm=>by
  rw[kc]at hm;rcases yJ.1 hm with hm|hm
  .exact zlF a b h.2 m hm
  .rw[zQ]at hm;subst hm;exact h.1
 |.bin n a c,b,h,m,hm=>by
  rw[kc]at hm;rcases yJ.1 hm with hm|hm
  .rcases yJ.1 hm with hm|hm
   .exact zlF a b h.2.1 m hm
   .exact zlF c _ h.2.2 m hm
  .rw[zQ]at hm;subst hm;exact h.1
theorem zmb:∀(t:Tr)(b:Nat),TrOk t->∀m∈t.flat b,1<=ndK m/\ndK m<=18
 |.leaf n,b,h,m,hm=>by
  rw[kc,zQ]at hm;subst hm;exact(zcc h.1).1
 |.un n a,b,h,m,hm=>by
  rw[kc]at hm;rcases yJ.1 hm with hm|hm
  .exact zmb a b h.2.2.2 m hm
  .rw[zQ]at hm;subst hm;exact(zcc h.1).1
 |.bin n a c,b,h,m,hm=>by
  rw[kc]at hm;rcases yJ.1 hm with hm|hm
  .rcases yJ.1 hm with hm|hm
   .exact zmb a b h.2.2.2.1 m hm
   .exact zmb c _ h.2.2.2.2 m hm
  .rw[zQ]at hm;subst hm;exact(zcc h.1).1
theorem zux{n:nd.T}(h1:1<=ndK n/\ndK n<=18)(h2:NdSm n)(h3:0<=ndL n/\ndL n<=100)(h4:0<=ndR n/\ndR n<=100):ndG n:=by
 obtain⟨⟨⟨c1,c2⟩,⟨c3,c4⟩,c5,c6⟩,h6,h7,h8⟩:=h2;obtain⟨(k:Int),(c:Int),(l:Int),(r:Int),(nn:Int),(mm:Int),(li:List Int),(s:List UInt8),⟨⟩⟩:=n;have h1:1<=k/\k<=18:=h1;have c1: -1000<c:=c1;have c2:c<1000:=c2;have c3: -1000<nn:=c3;have c4:nn<1000:=c4;have c5: -1000<mm:=c5;have c6:mm<1000:=c6;have h3:0<=l/\l<=100:=h3;have h4:0<=r/\r<=100:=h4;have h7:li.length<=5:=h7;have h8:s.length<=20:=h8;refine⟨λx hx=>?_,λx hx=>?_,by show li.length<=_;omega,by show s.length<=_;omega⟩
 .have hx:x∈ [k,c,l,r,nn,mm]:=hx;simp only[zE,zU,or_false]at hx;rcases hx with rfl|rfl|rfl|rfl|rfl|rfl<;>exact zah o_ o_
 .obtain⟨h1,h2⟩:=h6 x hx;exact zah o_ o_
theorem ziI(m:Mk)(d:Int)(hd:0<=d/\d<=1099511627776):mvOK (zbx m d).1=true/\(zbx m d).1.1=d/\mvG (zbx m d).1:=by
 have p1:=zao (zad m 3).2 (n:=60) d_;have p2:=zao (zad (zad m 3).2 60).2 (n:=1440) d_;have p3:=zao (zad (zad (zad m 3).2 60).2 1440).2 (n:=300) d_;unfold zbx;generalize (zad (zad m 3).2 60).1=x1 at *;generalize (zad (zad (zad m 3).2 60).2 1440).1=x2 at *;generalize (zad (zad (zad (zad m 3).2 60).2 1440).2 300).1=x3 at *;have z:inR .i64 0:=zah d_ d_;split
 .refine⟨?_,rfl,zah (by show _<=d;omega) (by show d<=_;omega),z,z,z⟩;unfold mvOK;rw[zdy hd];exact zdR _
 .refine⟨?_,rfl,zah (by show _<=d;omega) (by show d<=_;omega),zah (by show _<=x1;omega) (by show x1<=_;omega),zah (by show _<=x2;omega) (by show x2<=_;omega),zah (by show _<=1+x3;omega) (by show 1+x3<=_;omega)⟩;unfold mvOK;rw[zdy hd,zdy (n:=x1) o_,zdy (n:=x2) o_,zdy (n:=1+x3) o_];rfl
theorem zoN{α:Type}{l:List α}{z:α}{i:Nat}(h:i<l.length):l.getD i z∈l:=by
 rw[zH,zR h];exact qc h
theorem zrC(m:Mk)(d:Int)(hd:0<=d/\d<=1000):∀i:Nat,i<=10->(∀x∈(mSt m d i).2.2,mvOK x=true/\mvG x/\x.1<(mSt m d i).2.1)/\∀j,j+1<(mSt m d i).2.2.length->((mSt m d i).2.2.getD j zMv').1<((mSt m d i).2.2.getD (j+1) zMv').1
 |0,_=>⟨λx hx=>(by cases hx),λj hj=>absurd hj (yS _)⟩
 |i+1,hi=>by
  obtain⟨h1,h2⟩:=zrC m d hd i o_;have h3:=zsQ m d i;have h4:=zao (zbx (mSt m d i).1 (mSt m d i).2.1).2 (n:=9) d_;have h5:=ziI (mSt m d i).1 (mSt m d i).2.1 o_;have e:mSt m d (i+1)=((zad (zbx (mSt m d i).1 (mSt m d i).2.1).2 9).2,(mSt m d i).2.1+1+(zad (zbx (mSt m d i).1 (mSt m d i).2.1).2 9).1,(mSt m d i).2.2++[(zbx (mSt m d i).1 (mSt m d i).2.1).1]):=rfl;rw[e];generalize mSt m d i=s at *;generalize (zad (zbx s.1 s.2.1).2 9).1=q at *;generalize (zbx s.1 s.2.1).1=y at *;obtain⟨n,(t:Int),(l:List mv.T)⟩:=s;have h1:∀x∈l,mvOK x=true/\mvG x/\x.1<t:=h1;have h2:∀j,j+1<l.length->(l.getD j zMv').1<(l.getD (j+1) zMv').1:=h2;obtain⟨a1,a2,a3⟩:=h5;have a2:y.1=t:=a2;refine⟨λx hx=>?_,λj hj=>?_⟩
  .have hx:x∈l++[y]:=hx;show mvOK x=true/\mvG x/\x.1<t+1+q;rcases yJ.1 hx with hx|hx
   .obtain⟨b1,b2,b3⟩:=h1 x hx;exact⟨b1,b2,Int.lt_of_lt_of_le b3 o_⟩
   .rw[zQ]at hx;subst hx;have a4:t<t+1+q:=by have h4:0<=q:=h4.1;omega
    exact⟨a1,a3,by rw[a2];exact a4⟩
  .have hj:j+1<(l++[y]).length:=hj;rw[zl]at hj;have hj:j+1<l.length+1:=hj;show((l++[y]).getD j zMv').1<((l++[y]).getD (j+1) zMv').1;rw[zck o_];by_cases e:j+1<l.length
   .rw[zck e];exact h2 j e
   .have:j+1=l.length+0:=o_;rw[this,zb5];show(l.getD j zMv').1<y.1;rw[a2];exact(h1 _ (zoN o_)).2.2
theorem zgU(m:Mk)(h1:0<=mkN m)(h2:mkN m<=1000000):sndG (mSer m).1/\zdi (mSer m).1.1=0/\seR (mSer m).1/\zdc (mSer m).1=false/\zp (mSer m).1.1<=100/\zp (mSer m).1.2.2.2.2.2.2.1<=100/\zp (mSer m).1.2.2.2.1<=100:=by
 obtain⟨t1,t2⟩:=zoj 2 m h1 h2;have t3:=zfe 3 2 m;have t4:=zjG 3 2 m h1;have c2:0<=(mk2 m).1/\(mk2 m).1<1440:=zao _ d_;have c3:0<=(mk3 m).1/\(mk3 m).1<200:=zao _ d_;have c4:0<=(mk4 m).1/\(mk4 m).1<4:=zao _ d_;have c5:0<=(mk5 m).1/\(mk5 m).1<3:=zao _ d_;have c6:0<=(mk6 m).1/\(mk6 m).1<3:=zao _ d_;have c7:0<=(mk7 m).1/\(mk7 m).1<20:=zao _ d_;have c8:0<=(mk8 m).1/\(mk8 m).1<3:=zao _ d_;have e:(mSer m).1=((mTr 3 2 m).1.flat 0,(mk2 m).1,1+(mk3 m).1,zonL.getD (mk4 m).1.toNat [],(mk5 m).1,(mk6 m).1,(mSt (mk8 m).2 (mk7 m).1 (mk8 m).1.toNat).2.2,()):=rfl;rw[e];obtain⟨m1,m2⟩:=zrC (mk8 m).2 (mk7 m).1 o_ (mk8 m).1.toNat o_;have m3:=zkH (mk8 m).2 (mk7 m).1 (mk8 m).1.toNat;generalize (mSt (mk8 m).2 (mk7 m).1 (mk8 m).1.toNat).2.2=mo at *;generalize (mSt (mk8 m).2 (mk7 m).1 (mk8 m).1.toNat).2.1=dd at *;have hz:1<=(zonL.getD (mk4 m).1.toNat []).length/\(zonL.getD (mk4 m).1.toNat []).length<=32:=by
  have h:(mk4 m).1.toNat<=3:=o_;generalize (mk4 m).1.toNat=i at h;rcases (show i=0\/i=1\/i=2\/i=3 by omega) with rfl|rfl|rfl|rfl<;>decide
 generalize zonL.getD (mk4 m).1.toNat []=zo at *;clear e;generalize (mk2 m).1=x2 at *;generalize (mk3 m).1=x3 at *;generalize (mk5 m).1=x5 at *;generalize (mk6 m).1=x6 at *;generalize (mk8 m).1=x8 at *;generalize (mTr 3 2 m).1=t at *;have x1:mMax 2=7:=rfl;have hw:=zr4 t1 o_;have hl:=jY t 0;have x0:=zhb t 0 t4;refine⟨⟨hw,zdy (by show 0<=x2/\x2<=1439;omega),zdy (by show 1<=1+x3/\1+x3<=10080;omega),hz,zdy (by show 0<=x5/\x5<=2;omega),zdy (by show 0<=x6/\x6<=2;omega),by show mo.length<=64;omega,λx hx=>(m1 x hx).1,m2⟩,zkn hw,⟨λn hn=>?_,λx hx=>(m1 x hx).2.1⟩,?_,by show(t.flat 0).length<=100;omega,by show mo.length<=100;omega,by show zo.length<=100;omega⟩
 .have h5:=x0 n hn;exact zux (zmb t 0 t1 n hn) (zlF t 0 t2 n hn) o_ o_
 .unfold zdc;show(bif (bif (bif (bif decide (((((t.flat 0).length:Nat):Int)+((mo.length:Nat):Int))+((zo.length:Nat):Int)=0) then _ else false) then _ else false) then _ else false) then _ else false)=false;rw[decide_eq_false o_];rfl
abbrev lA(l:ltN.T):lt.T:=addC l []
theorem zlT{f:Nat}:numR (f:Int)=true↔zaM f:=by
 unfold numR zaM;constructor
 .intro h;by_cases h8:(f:Int)<=8
  .omega
  rw[decide_eq_false h8]at h;by_cases g1:(f:Int)=11
  .omega
  by_cases g2:(f:Int)=12
  .omega
  by_cases g3:(f:Int)=13
  .omega
  rw[beq_false_of_ne g1,beq_false_of_ne g2,beq_false_of_ne g3]at h;cases h
 .intro h;rcases h with rfl|rfl|rfl|rfl|rfl|rfl|rfl|rfl|rfl|rfl|rfl|rfl<;>rfl
theorem zpX{l:ltN.T}{v:Int}{f k:Nat}(hf:zaM f)(hk:zaM k):nAt (lA (zd5 l (f:Int) v)) k=if k=f then v else nAt (lA l) k:=by
 rcases hf with rfl|rfl|rfl|rfl|rfl|rfl|rfl|rfl|rfl|rfl|rfl|rfl<;>rcases hk with rfl|rfl|rfl|rfl|rfl|rfl|rfl|rfl|rfl|rfl|rfl|rfl<;>simp only[zd5,lA,addC,nAt,zS]<;>rfl
theorem zmH(l:ltN.T)(f v:Int):(zd5 l f v).2.1=l.2.1/\(zd5 l f v).2.2.1=l.2.2.1/\ltM (lA (zd5 l f v))=ltM (lA l)/\ltS (lA (zd5 l f v))=ltS (lA l)/\ltW (lA (zd5 l f v))=ltW (lA l):=by
 simp only[lA,addC,ltM,ltS,ltW];unfold zd5;split<;>exact⟨rfl,rfl,rfl,rfl,rfl⟩
theorem zsx(l:ltN.T)(x:mv.T){k:Nat}(hk:zaM k):nAt (lA (sMov l x)) k=nAt (lA l) k:=by
 rcases hk with rfl|rfl|rfl|rfl|rfl|rfl|rfl|rfl|rfl|rfl|rfl|rfl<;>simp only[lA,addC,sMov,nAt]
theorem zsv(l:ltN.T)(x:se.T){k:Nat}(hk:zaM k):nAt (lA (sSer l x)) k=nAt (lA l) k:=by
 rcases hk with rfl|rfl|rfl|rfl|rfl|rfl|rfl|rfl|rfl|rfl|rfl|rfl<;>simp only[lA,addC,sSer,nAt]
theorem zst(l:ltN.T)(x:sp.T){k:Nat}(hk:zaM k):nAt (lA (sWin l x)) k=nAt (lA l) k:=by
 rcases hk with rfl|rfl|rfl|rfl|rfl|rfl|rfl|rfl|rfl|rfl|rfl|rfl<;>simp only[lA,addC,sWin,nAt]
theorem znD(l:ltN.T)(x:mv.T):(sMov l x).2.1=l.2.1/\(sMov l x).2.2.1=l.2.2.1/\ltM (lA (sMov l x))=x/\ltS (lA (sMov l x))=ltS (lA l)/\ltW (lA (sMov l x))=ltW (lA l):=by
 simp only[lA,addC,ltM,ltS,ltW,sMov,and_self]
theorem znA(l:ltN.T)(x:se.T):(sSer l x).2.1=l.2.1/\(sSer l x).2.2.1=l.2.2.1/\ltM (lA (sSer l x))=ltM (lA l)/\ltS (lA (sSer l x))=x/\ltW (lA (sSer l x))=ltW (lA l):=by
 simp only[lA,addC,ltM,ltS,ltW,sSer,and_self]
theorem znz(l:ltN.T)(x:sp.T):(sWin l x).2.1=l.2.1/\(sWin l x).2.2.1=l.2.2.1/\ltM (lA (sWin l x))=ltM (lA l)/\ltS (lA (sWin l x))=ltS (lA l)/\ltW (lA (sWin l x))=x:=by
 simp only[lA,addC,ltM,ltS,ltW,sWin,and_self]
theorem nAt7(l:ltN.T):nAt (lA l) 7=l.2.2.2.2.2.2.2.2.2.2.1:=by simp only[lA,addC,nAt]
theorem nAt8(l:ltN.T):nAt (lA l) 8=l.2.2.2.2.2.2.2.2.2.2.2.1:=by simp only[lA,addC,nAt]
structure MInv(kk:Int)(ba:Bool)(a b:Int)(f:Nat)(l:ltN.T)(m:Mk):Prop where
 kd:l.1=kk
 fr:l.2.1=a
 to:l.2.2.1=b
 dg:ltD (lA l)=zg 32 0
 n:mkN m=2
 num:∀k,zaM k->k<f->skF kk ba (k:Int)=false->(bndR kk (k:Int)).1<=nAt (lA l) k/\nAt (lA l) k<=(bndR kk (k:Int)).2/\nAt (lA l) k<=(bndR kk (k:Int)).1+39
 zer:∀k,zaM k->(f<=k\/skF kk ba (k:Int)=true)->nAt (lA l) k=0
 mvz:(f<=9\/skF kk ba 9=true\/(kk≠4/\nAt (lA l) 7≠1))->ltM (lA l)=zMv'
 mv4:9<f->skF kk ba 9=false->(kk=4\/nAt (lA l) 7=1)->mvOK (ltM (lA l))=true/\mvG (ltM (lA l))/\(kk≠4->(ltM (lA l)).1=nAt (lA l) 8)
 sez:(f<=10\/skF kk ba 10=true\/(kk=6/\nAt (lA l) 7=1))->ltS (lA l)=zSe
 sem:10<f->skF kk ba 10=false->¬(kk=6/\nAt (lA l) 7=1)->∃m',0<=mkN m'/\mkN m'<=1000000/\ltS (lA l)=(mSer m').1
 wiz:(f<=14\/skF kk ba 14=true)->ltW (lA l)=(0,0,())
 wim:14<f->skF kk ba 14=false-> -1000<=(ltW (lA l)).1/\(ltW (lA l)).1<=(ltW (lA l)).2.1/\(ltW (lA l)).2.1<=10000
theorem ltOf{k n:Nat}(hk:zaM k)(hn:¬zaM n)(h:k<n+1):k<n:=by
 rcases um k n with h1|h1
 .exact h1
 .have:k=n:=o_;subst this;exact absurd hk hn
theorem i7:zaM 7:=by unfold zaM;decide
theorem i8:zaM 8:=by unfold zaM;decide
theorem zuZ{kk a b:Int}{ba:Bool}{l:ltN.T}{m:Mk}{f:Nat}(h:MInv kk ba a b f l m):0<=nAt (lA l) 8/\nAt (lA l) 8<=1099511627776:=by
 by_cases h1:f<=8\/skF kk ba ((8:Nat):Int)=true
 .rw[h.zer 8 i8 h1];decide
 .have h2:8<f:=o_;have h3:skF kk ba ((8:Nat):Int)=false:=by simpa using λe=>h1 (.inr e)
  have h4:=h.num 8 i8 h2 h3;rw[show bndR kk ((8:Nat):Int)=(0,1099511627776) from rfl]at h4;exact⟨h4.1,h4.2.1⟩
theorem MInv.skip{kk a b:Int}{ba:Bool}{l:ltN.T}{m:Mk}{f:Nat}(h:MInv kk ba a b f l m)(hs:skF kk ba (f:Int)=true):MInv kk ba a b (f+1) l m:=
 { h with
  num:=λk hk x0 hf=>by
   by_cases e:k=f
   .subst e;rw[hs]at hf;cases hf
   .exact h.num k hk o_ hf
  zer:=λk hk h1=>h.zer k hk (h1.imp (λh=>by omega) id)
  mvz:=λh1=>h.mvz (h1.imp (λh=>by omega) id)
  mv4:=λh1 h2=>by
   by_cases e:f=9
   .subst e;exact absurd (h2.symm.trans hs) d_
   .exact h.mv4 o_ h2
  sez:=λh1=>h.sez (h1.imp (λh=>by omega) id)
  sem:=λh1 h2=>by
   by_cases e:f=10
   .subst e;exact absurd (h2.symm.trans hs) d_
   .exact h.sem o_ h2
  wiz:=λh1=>h.wiz (h1.imp (λh=>by omega) id)
  wim:=λh1 h2=>by
   by_cases e:f=14
   .subst e;exact absurd (h2.symm.trans hs) d_
   .exact h.wim o_ h2 }
theorem MInv.step{kk a b:Int}{ba:Bool}{l:ltN.T}{m:Mk}{f:Nat}(h:MInv kk ba a b f l m)(hf:f<15)(hs:skF kk ba (f:Int)=false):MInv kk ba a b (f+1) (zaZ m l (f:Int)).1 (zaZ m l (f:Int)).2:=by
 have hkd:=zjH m l (f:Int);have hkd1:(zaZ m l (f:Int)).1.1=kk:=hkd.1.trans h.kd;have hdg:=hkd.2.trans h.dg;have hn:=(zlZ m l (f:Int)).1.trans h.n;by_cases hnum:zaM f
 .have hR:=zlT.2 hnum;have e:zaZ m l (f:Int)=(zd5 l (f:Int) (mLo l (f:Int)+(zad m (mHi l (f:Int))).1),(zad m (mHi l (f:Int))).2):=if_pos hR;rw[e]at hkd1 hdg hn ⊢;obtain⟨b1,b2,b3⟩:=zlh l.1 (f:Int);have hH:mHi l (f:Int)=min ((bndR l.1 (f:Int)).2-(bndR l.1 (f:Int)).1+1) 40:=rfl;have hL:mLo l (f:Int)=(bndR l.1 (f:Int)).1:=rfl;have hp:=zao m (n:=mHi l (f:Int)) o_;rw[hH]at hp;have hk1:=h.kd;rw[hk1]at b1 b2 b3 hp;rw[hL,hH,hk1];obtain⟨v,hv⟩:∃v,v=(bndR kk (f:Int)).1+(zad m (min ((bndR kk (f:Int)).2-(bndR kk (f:Int)).1+1) 40)).1:=⟨_,rfl⟩;have hv1:(bndR kk (f:Int)).1<=v/\v<=(bndR kk (f:Int)).2/\v<=(bndR kk (f:Int)).1+39:=o_;rw[hL,hH,hk1, <-hv]at hkd1 hdg;rw[<-hv];obtain⟨r1,r2,r3,r4,r5⟩:=zmH l (f:Int) v;rw[hH,hk1]at hn;have hat:=λk(hk:zaM k)=>zpX (l:=l) (v:=v) hnum hk;generalize zd5 l (f:Int) v=l2 at *;refine⟨hkd1,r1.trans h.fr,r2.trans h.to,hdg,hn,λk hk hlt hf'=>?_,λk hk h1=>?_,λh1=>?_,λh1 h2 h3=>?_,λh1=>?_,λh1 h2 h3=>?_,λh1=>?_,λh1 h2=>?_⟩
  .show _<=nAt (lA l2) k/\nAt (lA l2) k<=_/\nAt (lA l2) k<=_;rw[hat k hk];by_cases e:k=f
   .subst e;rw[if_pos rfl];exact hv1
   .rw[if_neg e];exact h.num k hk o_ hf'
  .
   rw[hat k hk];by_cases e:k=f
   .subst e;rcases h1 with h1|h1
    .omega
    .rw[hs]at h1;cases h1
   .rw[if_neg e];exact h.zer k hk (h1.imp (λh=>by omega) id)
  .
   rw[r3];refine h.mvz ?_;rcases h1 with h1|h1|⟨h1,h2⟩
   .exact .inl o_
   .exact .inr (.inl h1)
   .by_cases e:f<=9
    .exact .inl e
    .refine .inr (.inr ⟨h1,λh3=>h2 ?_⟩);show nAt (lA l2) 7=1;rw[hat 7 i7,if_neg o_];exact h3
  .have e9:9<f:=by
    rcases um 9 f with h|h
    .exact h
    .have:f=9:=o_;subst this;exact absurd hnum (by unfold zaM;decide)
   have h7:nAt (lA l2) 7=nAt (lA l) 7:=by rw[hat 7 i7,if_neg o_]
   have h8:nAt (lA l2) 8=nAt (lA l) 8:=by rw[hat 8 i8,if_neg o_]
   have:=h.mv4 e9 h2 (h3.imp id λh=>h7.symm.trans h);show mvOK (ltM (lA l2))=true/\mvG (ltM (lA l2))/\(kk≠4->(ltM (lA l2)).1=nAt (lA l2) 8);rw[r3,h8];exact this
  .show ltS (lA l2)=zSe;rw[r4];refine h.sez ?_;rcases h1 with h1|h1|⟨h1,h2⟩
   .exact .inl o_
   .exact .inr (.inl h1)
   .by_cases e:f<=10
    .exact .inl e
    .refine .inr (.inr ⟨h1,?_⟩);have:nAt (lA l2) 7=1:=h2;rw[hat 7 i7,if_neg o_]at this;exact this
  .have e9:10<f:=by
    rcases um 10 f with h|h
    .exact h
    .have:f=10:=o_;subst this;exact absurd hnum (by unfold zaM;decide)
   have h7:nAt (lA l2) 7=nAt (lA l) 7:=by rw[hat 7 i7,if_neg o_]
   obtain⟨m',g1,g2,g3⟩:=h.sem e9 h2 (λh=>h3 ⟨h.1,h7.trans h.2⟩);exact⟨m',g1,g2,r4.trans g3⟩
  .show ltW (lA l2)=_;rw[r5];exact h.wiz (h1.imp (λh=>by omega) id)
  .have e9:14<f:=by
    rcases um 14 f with h|h
    .exact h
    .have:f=14:=o_;subst this;exact absurd hnum (by unfold zaM;decide)
   omega
 have hR:numR (f:Int)=false:=by
  cases e:numR (f:Int)
  .rfl
  .exact absurd (zlT.1 e) hnum
 have e:zaZ m l (f:Int)=_:=if_neg (by rw[hR];decide);have hf3:f=9\/f=10\/f=14:=by unfold zaM at hnum;omega
 have hd8:=zuZ h;have hmN:0<=mkN m/\mkN m<=1000000:=by rw[h.n];decide
 have n9:¬zaM 9:=by unfold zaM;decide
 rcases hf3 with rfl|rfl|rfl
 .have e:zaZ m l ((9:Nat):Int)=_:=e.trans (if_pos rfl);rw[<-nAt7, <-nAt8,h.kd]at e;have key:∀x m',mvOK x=true/\mvG x/\(kk≠4->x.1=nAt (lA l) 8)->(kk=4\/nAt (lA l) 7=1)->zaZ m l ((9:Nat):Int)=(sMov l x,m')->MInv kk ba a b (9+1) (zaZ m l ((9:Nat):Int)).1 (zaZ m l ((9:Nat):Int)).2:=λx m' hx hq e=>by
   rw[e]at hkd1 hdg hn ⊢;obtain⟨r1,r2,r3,r4,r5⟩:=znD l x;have hat:=λk(hk:zaM k)=>zsx l x hk;generalize sMov l x=l2 at *;refine⟨hkd1,r1.trans h.fr,r2.trans h.to,hdg,hn,λk hk hlt hf'=>?_,λk hk h1=>?_,λh1=>?_,λh1 h2 h3=>?_,λh1=>?_,λh1=>by omega,λh1=>?_,λh1=>by omega⟩
   .show _<=nAt (lA l2) k/\nAt (lA l2) k<=_/\nAt (lA l2) k<=_;rw[hat k hk];exact h.num k hk (ltOf hk n9 hlt) hf'
   .show nAt (lA l2) k=0;rw[hat k hk];exact h.zer k hk (h1.imp (λh=>by omega) id)
   .exfalso;rcases h1 with h1|h1|⟨h1,h2⟩
    .omega
    .exact absurd (h1.symm.trans hs) d_
    .rcases hq with hq|hq
     .exact h1 hq
     .exact h2 ((hat 7 i7).trans hq)
   .show mvOK (ltM (lA l2))=true/\mvG (ltM (lA l2))/\(kk≠4->(ltM (lA l2)).1=nAt (lA l2) 8);rw[r3,hat 8 i8];exact hx
   .show ltS (lA l2)=zSe;rw[r4];exact h.sez (.inl o_)
   .show ltW (lA l2)=_;rw[r5];exact h.wiz (.inl o_)
  by_cases h4:kk=4
  .rw[if_pos h4]at e;have p:=zao m (n:=40) d_;have q:=ziI (zad m 40).2 (zad m 40).1 o_;exact key _ _ ⟨q.1,q.2.2,λh=>absurd h4 h⟩ (.inl h4) e
  .rw[if_neg h4]at e;by_cases h7:nAt (lA l) 7=1
   .rw[if_pos h7]at e;have q:=ziI m (nAt (lA l) 8) hd8;exact key _ _ ⟨q.1,q.2.2,λ_=>q.2.1⟩ (.inr h7) e
   .rw[if_neg h7]at e;rw[e];exact { h with
     num:=λk hk hlt hf=>h.num k hk (ltOf hk n9 hlt) hf
     zer:=λk hk h1=>h.zer k hk (h1.imp (λh=>by omega) id)
     mvz:=λh1=>h.mvz (.inl o_)
     mv4:=λh1 h2 h3=>absurd h3 (λh=>h.elim h4 h7)
     sez:=λh1=>h.sez (.inl o_)
     sem:=λh1=>by omega
     wiz:=λh1=>h.wiz (.inl o_)
     wim:=λh1=>by omega }
 .have n10:¬zaM 10:=by unfold zaM;decide
  have e:zaZ m l ((10:Nat):Int)=_:=e.trans ((if_neg d_).trans (if_pos rfl));rw[<-nAt7,h.kd]at e;by_cases h4:kk=6/\nAt (lA l) 7=1
  .rw[if_pos h4]at e;rw[e];exact { h with
    num:=λk hk hlt hf=>h.num k hk (ltOf hk n10 hlt) hf
    zer:=λk hk h1=>h.zer k hk (h1.imp (λh=>by omega) id)
    mvz:=λh1=>h.mvz (h1.imp (λh=>by omega) id)
    mv4:=λh1=>h.mv4 o_
    sez:=λh1=>h.sez (.inl o_)
    sem:=λh1 h2 h3=>absurd h4 h3
    wiz:=λh1=>h.wiz (.inl o_)
    wim:=λh1=>by omega }
  .rw[if_neg h4]at e;rw[e]at hkd1 hdg hn ⊢;obtain⟨r1,r2,r3,r4,r5⟩:=znA l (mSer m).1;have hat:=λk(hk:zaM k)=>zsv l (mSer m).1 hk;generalize sSer l (mSer m).1=l2 at *;refine⟨hkd1,r1.trans h.fr,r2.trans h.to,hdg,hn,λk hk hlt hf'=>?_,λk hk h1=>?_,λh1=>?_,λh1 h2 h3=>?_,λh1=>?_,λh1 h2 h3=>⟨m,hmN.1,hmN.2,r4⟩,λh1=>?_,λh1=>by omega⟩
   .
    rw[hat k hk];exact h.num k hk (ltOf hk n10 hlt) hf'
   .
    rw[hat k hk];exact h.zer k hk (h1.imp (λh=>by omega) id)
   .
    rw[r3];refine h.mvz ?_;rcases h1 with h1|h1|⟨h1,h2⟩
    .exact .inl o_
    .exact .inr (.inl h1)
    .exact .inr (.inr ⟨h1,λh=>h2 ((hat 7 i7).trans h)⟩)
   .
    rw[r3,hat 8 i8];exact h.mv4 o_ h2 (h3.imp id λh=>(hat 7 i7).symm.trans h)
   .exfalso;rcases h1 with h1|h1|h1
    .omega
    .exact absurd (h1.symm.trans hs) d_
    .exact h4 ⟨h1.1,(hat 7 i7).symm.trans h1.2⟩
   .
    rw[r5];exact h.wiz (.inl o_)
 .have n14:¬zaM 14:=by unfold zaM;decide
  have e:=e.trans ((if_neg d_).trans (if_neg d_));have p:=zao m (n:=5000) d_;have q:=zao (zad m 5000).2 (n:=5000) d_;generalize (zad (zad m 5000).2 5000).1=z1 at *;generalize (zad (zad m 5000).2 5000).2=z2 at *;generalize (zad m 5000).1=z0 at *;rw[e]at hkd1 hdg hn ⊢;obtain⟨r1,r2,r3,r4,r5⟩:=znz l (z0-1000,z0-1000+z1,());have hat:=λk(hk:zaM k)=>zst l (z0-1000,z0-1000+z1,()) hk;generalize sWin l (z0-1000,z0-1000+z1,())=l2 at *;refine⟨hkd1,r1.trans h.fr,r2.trans h.to,hdg,hn,λk hk hlt hf'=>?_,λk hk h1=>?_,λh1=>?_,λh1 h2 h3=>?_,λh1=>?_,λh1 h2 h3=>?_,λh1=>?_,λh1 h2=>?_⟩
  .
   rw[hat k hk];exact h.num k hk (ltOf hk n14 hlt) hf'
  .
   rw[hat k hk];exact h.zer k hk (h1.imp (λh=>by omega) id)
  .
   rw[r3];refine h.mvz ?_;rcases h1 with h1|h1|⟨h1,h2⟩
   .exact .inl o_
   .exact .inr (.inl h1)
   .exact .inr (.inr ⟨h1,λh=>h2 ((hat 7 i7).trans h)⟩)
  .
   rw[r3,hat 8 i8];exact h.mv4 o_ h2 (h3.imp id λh=>(hat 7 i7).symm.trans h)
  .
   rw[r4];exact h.sez (h1.imp (λh=>by omega) (Or.imp id λh=>⟨h.1,(hat 7 i7).symm.trans h.2⟩))
  .obtain⟨m',g1,g2,g3⟩:=h.sem o_ h2 (λh=>h3 ⟨h.1,(hat 7 i7).trans h.2⟩);exact⟨m',g1,g2,r4.trans g3⟩
  .exfalso;rcases h1 with h1|h1
   .omega
   .exact absurd (h1.symm.trans hs) d_
  .
   rw[r5];show -1000<=z0-1000/\z0-1000<=z0-1000+z1/\z0-1000+z1<=10000;omega
def zrb(c:List Int):Prop:=c≠ []/\c.length<=5/\(∀x∈c,0<=x/\x<=15)/\∀i,i+1<c.length->c.getD i 0<c.getD (i+1) 0
theorem zrL(m:Mk)(n:Int)(hn:0<=n):∀i:Nat,(∀x∈(cSt m n i).2.2,0<=x/\x<(cSt m n i).2.1)/\∀j,j+1<(cSt m n i).2.2.length->(cSt m n i).2.2.getD j 0<(cSt m n i).2.2.getD (j+1) 0
 |0=>⟨λx hx=>(by cases hx),λj hj=>absurd hj (yS _)⟩
 |i+1=>by
  obtain⟨h1,h2⟩:=zrL m n hn i;have h3:=zqX m n i;have h4:=zao (cSt m n i).1 (n:=2) d_;have e:cSt m n (i+1)=((zad (cSt m n i).1 2).2,(cSt m n i).2.1+1+(zad (cSt m n i).1 2).1,(cSt m n i).2.2++[(cSt m n i).2.1]):=rfl;rw[e];generalize cSt m n i=s at *;generalize (zad s.1 2).1=q at *;obtain⟨m2,(t:Int),(l:List Int)⟩:=s;have h1:∀x∈l,0<=x/\x<t:=h1;have h2:∀j,j+1<l.length->l.getD j 0<l.getD (j+1) 0:=h2;have h3:n+(i:Int)<=t/\t<=n+2*(i:Int):=h3;refine⟨λx hx=>?_,λj hj=>?_⟩
  .have hx:x∈l++[t]:=hx;show 0<=x/\x<t+1+q;rcases yJ.1 hx with hx|hx
   .have:=h1 x hx;omega
   .rw[zQ]at hx;omega
  .have hj:j+1<(l++[t]).length:=hj;rw[zl]at hj;have hj:j+1<l.length+1:=hj;show(l++[t]).getD j 0<(l++[t]).getD (j+1) 0;rw[zck o_];by_cases e:j+1<l.length
   .rw[zck e];exact h2 j e
   .have:j+1=l.length+0:=o_;rw[this,zb5];show l.getD j 0<t;exact(h1 _ (zoN o_)).2
theorem zsS(m:Mk):zrb (mCel m).1:=by
 have h1:=zao m (n:=4) d_;have h2:=zao (zad m 4).2 (n:=5) d_;have h2:0<=(cK m).1/\(cK m).1<5:=h2;obtain⟨h3,h4⟩:=zrL (cK m).2 (zad m 4).1 h1.1 (1+(cK m).1).toNat;have h5:=zle (cK m).2 (zad m 4).1 (1+(cK m).1).toNat;have h6:=zqX (cK m).2 (zad m 4).1 (1+(cK m).1).toNat;have e:(mCel m).1=(cSt (cK m).2 (zad m 4).1 (1+(cK m).1).toNat).2.2:=rfl;rw[e];generalize cSt (cK m).2 (zad m 4).1 (1+(cK m).1).toNat=s at *;refine⟨λh=>?_,by omega,λx hx=>?_,h4⟩
 .rw[h]at h5;have h5:0=_:=h5;omega
 .have:=h3 x hx;omega
structure LInv(kk:Int)(ba:Bool)(a b:Int)(l:lt.T):Prop where
 kd:l.1=kk
 fr:l.2.1=a
 to:l.2.2.1=b
 num:∀k,zaM k->skF kk ba (k:Int)=false->(bndR kk (k:Int)).1<=nAt l k/\nAt l k<=(bndR kk (k:Int)).2/\nAt l k<=(bndR kk (k:Int)).1+39
 zer:∀k,zaM k->skF kk ba (k:Int)=true->nAt l k=0
 mvz:(skF kk ba 9=true\/(kk≠4/\nAt l 7≠1))->ltM l=zMv'
 mv4:skF kk ba 9=false->(kk=4\/nAt l 7=1)->mvOK (ltM l)=true/\mvG (ltM l)/\(kk≠4->(ltM l).1=nAt l 8)
 sez:(skF kk ba 10=true\/(kk=6/\nAt l 7=1))->ltS l=zSe
 sem:skF kk ba 10=false->¬(kk=6/\nAt l 7=1)->∃m',0<=mkN m'/\mkN m'<=1000000/\ltS l=(mSer m').1
 wiz:skF kk ba 14=true->ltW l=(0,0,())
 wim:skF kk ba 14=false-> -1000<=(ltW l).1/\(ltW l).1<=(ltW l).2.1/\(ltW l).2.1<=10000
 cez:skF kk ba 15=true->ltC l=[]
 cem:skF kk ba 15=false->zrb (ltC l)
 dgl:zp (ltD l)=32
 dgz:skF kk ba 16=true->ltD l=zg 32 0
theorem zpw(l:ltN.T)(c:List Int):(addC l c).1=l.1/\(addC l c).2.1=l.2.1/\(addC l c).2.2.1=l.2.2.1/\ltM (addC l c)=ltM (lA l)/\ltS (addC l c)=ltS (lA l)/\ltW (addC l c)=ltW (lA l)/\ltC (addC l c)=c/\ltD (addC l c)=ltD (lA l):=by
 simp only[lA,addC,ltM,ltS,ltW,ltC,ltD,and_self]
theorem ztK(l:ltN.T)(c:List Int){k:Nat}(hk:zaM k):nAt (addC l c) k=nAt (lA l) k:=by
 rcases hk with rfl|rfl|rfl|rfl|rfl|rfl|rfl|rfl|rfl|rfl|rfl|rfl<;>simp only[lA,addC,nAt]
theorem zpv(l:lt.T)(d:List UInt8):(addD l d).1=l.1/\(addD l d).2.1=l.2.1/\(addD l d).2.2.1=l.2.2.1/\ltM (addD l d)=ltM l/\ltS (addD l d)=ltS l/\ltW (addD l d)=ltW l/\ltC (addD l d)=ltC l/\ltD (addD l d)=d:=by
 simp only[addD,ltM,ltS,ltW,ltC,ltD,and_self]
theorem zpu(l:lt.T):l=addD l (ltD l):=by
 obtain⟨x0,x1,x2,x3,x4,x5,x6,x7,x8,x9,xa,xi,xh,xe,xb,xj,xc,xf,xg,xd,⟨⟩⟩:=l;simp only[addD,ltD]
theorem ztJ(l:lt.T)(d:List UInt8){k:Nat}(hk:zaM k):nAt (addD l d) k=nAt l k:=by
 rcases hk with rfl|rfl|rfl|rfl|rfl|rfl|rfl|rfl|rfl|rfl|rfl|rfl<;>simp only[addD,nAt]
theorem zom{kk a b:Int}{ba:Bool}{l:ltN.T}{m:Mk}(h:MInv kk ba a b 0 l m):∀f:Nat,f<=15->MInv kk ba a b f (mAt ba l m f).1 (mAt ba l m f).2
 |0,_=>h
 |f+1,hf=>by
  have ih:=zom h f o_;rw[mAt];rw[ih.kd];cases hs:skF kk ba (f:Int)
  .rw[if_neg d_];exact ih.step o_ hs
  .rw[if_pos rfl];exact ih.skip hs
theorem zuI(k a b:Int){i:Nat}(hi:zaM i):nAt (lA (l0k k a b)) i=0:=by
 rcases hi with rfl|rfl|rfl|rfl|rfl|rfl|rfl|rfl|rfl|rfl|rfl|rfl<;>simp only[lA,addC,l0k,nAt]
theorem zsX(k a b:Int)(ba:Bool){m:Mk}(hm:mkN m=2):MInv k ba a b 0 (l0k k a b) m where
 kd:=rfl
 fr:=rfl
 to:=rfl
 dg:=by simp only[lA,addC,l0k,ltD]
 n:=hm
 num:=λk _ h=>absurd h (yS _)
 zer:=λi hi _=>zuI k a b hi
 mvz:=λ_=>by simp only[lA,addC,l0k,ltM]
 mv4:=λh=>absurd h (yS _)
 sez:=λ_=>by simp only[lA,addC,l0k,ltS]
 sem:=λh=>absurd h (yS _)
 wiz:=λ_=>by simp only[lA,addC,l0k,ltW]
 wim:=λh=>absurd h (yS _)
theorem zl0(ns:List Int):∃kk ba a q,(1<=kk/\kk<=18)/\(0<=a/\a<16)/\(0<=q/\q<15)/\(ba=true->kk=8)/\LInv kk ba a ((a+1+q).tmod 16) (mL17 ns).1:=by
 have p1:0<=(m1k ns).1/\(m1k ns).1<18:=zao _ d_;have p2:0<=(m2k ns).1/\(m2k ns).1<16:=zao _ d_;have p3:0<=(m3k ns).1/\(m3k ns).1<15:=zao _ d_;have hb:(m4k ns).1=true->1+(m1k ns).1=8:=by
  unfold m4k;split
  .exact λ_=>by assumption
  .exact λh=>by cases h
 have hn:mkN (m4k ns).2=2:=by
  have h0:mkN (m0 ns)=2:=rfl;have h3:mkN (m3k ns).2=mkN (m0 ns):=(((MkU.pick (m0 ns) 18).trans (MkU.pick (m1k ns).2 16)).trans (MkU.pick (m2k ns).2 15)).2.1;unfold m4k;split
  .exact((MkU.pick (m3k ns).2 3).2.1).trans (h3.trans h0)
  .exact h3.trans h0
 refine⟨1+(m1k ns).1,(m4k ns).1,(m2k ns).1,(m3k ns).1,by omega,p2,p3,hb,?_⟩;have hi:=zom (zsX (1+(m1k ns).1) (m2k ns).1 (((m2k ns).1+1+(m3k ns).1).tmod 16) (m4k ns).1 hn) 15 (zu _);have x6:mL15 ns=mAt (m4k ns).1 (l0k (1+(m1k ns).1) (m2k ns).1 (((m2k ns).1+1+(m3k ns).1).tmod 16)) (m4k ns).2 15:=rfl;rw[<-x6]at hi;generalize ((m2k ns).1+1+(m3k ns).1).tmod 16=b at *;generalize 1+(m1k ns).1=kk at *;generalize (m2k ns).1=a at *;have x2:mL16 ns=if skF (mL15 ns).1.1 (m4k ns).1 15=true then(addC (mL15 ns).1 [],(mL15 ns).2) else(addC (mL15 ns).1 (mCel (mL15 ns).2).1,(mCel (mL15 ns).2).2):=by unfold mL16;rfl
 have x1:mL17 ns=if skF (mL16 ns).1.1 (m4k ns).1 16=true then mL16 ns else mRef (mL16 ns).2 (mL16 ns).1:=by unfold mL17;rfl
 generalize (m4k ns).1=ba at *;generalize mL17 ns=s17 at *;generalize mL16 ns=s16 at *;generalize mL15 ns=s15 at *;obtain⟨l,m⟩:=s15;obtain⟨l6,m6⟩:=s16;obtain⟨l7,m7⟩:=s17;have x3:=hi.kd;rw[x3]at x2;have h6:∃c,l6=addC l c/\(skF kk ba 15=true->c=[])/\(skF kk ba 15=false->zrb c):=by
  cases hs:skF kk ba 15
  .rw[hs,if_neg d_]at x2;cases x2;exact⟨_,rfl,(by intro h;cases h),λ_=>zsS m⟩
  .rw[hs,if_pos rfl]at x2;cases x2;exact⟨_,rfl,λ_=>rfl,by intro h;cases h⟩
 obtain⟨c,e6,c1,c2⟩:=h6;obtain⟨a1,a2,a3,a4,a5,a6,a7,a8⟩:=zpw l c;have x0:=λk(hk:zaM k)=>ztK l c hk;rw[<-e6]at a1 a2 a3 a4 a5 a6 a7 a8;rw[<-e6]at x0;rw[a1,x3]at x1;have x4:=a8.trans hi.dg;have h7:∃d,l7=addD l6 d/\d.length=32/\(skF kk ba 16=true->d=zg 32 0):=by
  cases hs:skF kk ba 16
  .rw[hs,if_neg d_]at x1;have e8:mRef m6 l6=(addD l6 (dSet (ltD l6) (dSt m6 4).2 0),(dSt m6 4).1):=rfl;rw[e8,x4]at x1;cases x1;exact⟨_,rfl,by rw[ziV,qf],by intro h;cases h⟩
  .rw[hs,if_pos rfl]at x1;cases x1;exact⟨ltD l6,zpu l6,by rw[x4,qf],λ_=>x4⟩
 obtain⟨d,e7,d1,d2⟩:=h7;obtain⟨b1,b2,b3,b4,b5,b6,b7,b8⟩:=zpv l6 d;have x5:=λk(hk:zaM k)=>ztJ l6 d hk;rw[<-e7]at b1 b2 b3 b4 b5 b6 b7 b8 x5;have x0:∀k,zaM k->nAt l7 k=nAt (lA l) k:=λk hk=>(x5 k hk).trans (x0 k hk);have h7:=x0 7 i7;have h8:=x0 8 i8;exact {
  kd:=b1.trans (a1.trans x3)
  fr:=b2.trans (a2.trans hi.fr)
  to:=b3.trans (a3.trans hi.to)
  num:=λk hk hs=>by
   rw[x0 k hk];exact hi.num k hk (by unfold zaM at hk;omega) hs
  zer:=λk hk hs=>(x0 k hk).trans (hi.zer k hk (.inr hs))
  mvz:=λh=>(b4.trans a4).trans (hi.mvz (.inr (h.imp id λh=>⟨h.1,λe=>h.2 (h7.trans e)⟩)))
  mv4:=λh1 h2=>by
   have:=hi.mv4 d_ h1 (h2.imp id λe=>h7.symm.trans e);rw[h8,b4.trans a4];exact this
  sez:=λh=>(b5.trans a5).trans (hi.sez (.inr (h.imp id λh=>⟨h.1,h7.symm.trans h.2⟩)))
  sem:=λh1 h2=>by
   obtain⟨m',g1,g2,g3⟩:=hi.sem d_ h1 (λh=>h2 ⟨h.1,h7.trans h.2⟩);exact⟨m',g1,g2,(b5.trans a5).trans g3⟩
  wiz:=λh=>(b6.trans a6).trans (hi.wiz (.inr h))
  wim:=λh=>by
   rw[b6.trans a6];exact hi.wim d_ h
  cez:=λh=>(b7.trans a7).trans (c1 h)
  cem:=λh=>by
   rw[b7.trans a7];exact c2 h
  dgl:=by rw[b8];exact d1
  dgz:=λh=>b8.trans (d2 h) }
theorem zup(ns:List Int):0<=(mL17 ns).1.2.2.2.2.2.2.2.2.1/\(mL17 ns).1.2.2.2.2.2.2.2.2.1<=1000:=by
 obtain⟨kk,ba,a,q,_,_,_,_,h⟩:=zl0 ns;have e:nAt (mL17 ns).1 5=(mL17 ns).1.2.2.2.2.2.2.2.2.1:=rfl;have i5:zaM 5:=by unfold zaM;decide
 have x0:0<=nAt (mL17 ns).1 5/\nAt (mL17 ns).1 5<=1000:=by
  cases hs:skF kk ba ((5:Nat):Int)
  .have h1:=h.num 5 i5 hs;have h2:(bndR kk ((5:Nat):Int)).1=0:=by unfold bndR;by_cases e:kk=8<;>simp[e]
   omega
  .have h1:=h.zer 5 i5 hs;rw[h1];decide
 exact x0
def tabB:Bool:=(List.range 19).all λi=>(List.range 17).all λk=>(zhu (i:Int) (k:Int)==za3 (i:Int) (k:Int))&&((!(zhu (i:Int) (k:Int))||k==9||k==10||k==14||k==15||k==16)||((bndR (i:Int) (k:Int)).1==limF (i:Int) (k:Int) 0&&(bndR (i:Int) (k:Int)).2==limF (i:Int) (k:Int) 1))
theorem zsm:tabB=true:=by kernel_rfl
theorem zlD{kk:Int}(h:1<=kk/\kk<=18){k:Nat}(hk:k<17):zhu kk (k:Int)=za3 kk (k:Int)/\(zaM k->zhu kk (k:Int)=true->(bndR kk (k:Int)).1=limF kk (k:Int) 0/\(bndR kk (k:Int)).2=limF kk (k:Int) 1):=by
 have h1:=yH.1 (yH.1 zsm kk.toNat (qr.2 o_)) k (qr.2 hk);rw[show((kk.toNat:Nat):Int)=kk by omega,zh]at h1;refine⟨eq_of_beq h1.1,λhn hu=>?_⟩;have h2:=h1.2;rw[hu]at h2;unfold zaM at hn;have e1:(k==9)=false:=beq_false_of_ne o_;have e2:(k==10)=false:=beq_false_of_ne o_;have e3:(k==14)=false:=beq_false_of_ne o_;have e4:(k==15)=false:=beq_false_of_ne o_;have e5:(k==16)=false:=beq_false_of_ne o_;rw[e1,e2,e3,e4,e5]at h2;have h2:((bndR kk (k:Int)).1==limF kk (k:Int) 0&&(bndR kk (k:Int)).2==limF kk (k:Int) 1)=true:=h2;rw[zh]at h2;exact⟨eq_of_beq h2.1,eq_of_beq h2.2⟩
theorem znE(l:lt.T)(x:Int):(sDay l x).1=l.1/\(sDay l x).2.1=l.2.1/\(sDay l x).2.2.1=l.2.2.1/\ltM (sDay l x)=ltM l/\ltS (sDay l x)=ltS l/\ltW (sDay l x)=ltW l/\ltC (sDay l x)=ltC l/\ltD (sDay l x)=ltD l:=by
 simp only[sDay,ltM,ltS,ltW,ltC,ltD,and_self]
theorem zsy(l:lt.T)(x:Int){k:Nat}(hk:zaM k):nAt (sDay l x) k=if k=8 then x else nAt l k:=by
 rcases hk with rfl|rfl|rfl|rfl|rfl|rfl|rfl|rfl|rfl|rfl|rfl|rfl<;>simp only[sDay,nAt]<;>rfl
theorem znB(l:lt.T)(x:Int):(sOth l x).1=l.1/\(sOth l x).2.1=l.2.1/\(sOth l x).2.2.1=l.2.2.1/\ltM (sOth l x)=ltM l/\ltS (sOth l x)=ltS l/\ltW (sOth l x)=ltW l/\ltC (sOth l x)=ltC l/\ltD (sOth l x)=ltD l:=by
 simp only[sOth,ltM,ltS,ltW,ltC,ltD,and_self]
theorem zsw(l:lt.T)(x:Int){k:Nat}(hk:zaM k):nAt (sOth l x) k=if k=5 then x else nAt l k:=by
 rcases hk with rfl|rfl|rfl|rfl|rfl|rfl|rfl|rfl|rfl|rfl|rfl|rfl<;>simp only[sOth,nAt]<;>rfl
structure FInv(kk:Int)(ba:Bool)(a b:Int)(l:lt.T):Prop where
 kd:l.1=kk
 fr:l.2.1=a
 to:l.2.2.1=b
 num:∀k,zaM k->skF kk ba (k:Int)=false->(bndR kk (k:Int)).1<=nAt l k/\nAt l k<=(bndR kk (k:Int)).2
 zer:∀k,zaM k->skF kk ba (k:Int)=true->nAt l k=0
 ne5:kk=5->nAt l 5≠nAt l 4
 dy3:kk=6->nAt l 7=3->nAt l 8=0
 mvz:(skF kk ba 9=true\/(kk≠4/\nAt l 7≠1))->ltM l=zMv'
 mv4:skF kk ba 9=false->(kk=4\/nAt l 7=1)->mvOK (ltM l)=true/\mvG (ltM l)/\(kk=6->(ltM l).1=nAt l 8)
 sez:(skF kk ba 10=true\/(kk=6/\nAt l 7=1))->ltS l=zSe
 sem:skF kk ba 10=false->¬(kk=6/\nAt l 7=1)->∃m',0<=mkN m'/\mkN m'<=1000000/\ltS l=(mSer m').1
 wiz:skF kk ba 14=true->ltW l=(0,0,())
 wim:skF kk ba 14=false-> -1000<=(ltW l).1/\(ltW l).1<=(ltW l).2.1/\(ltW l).2.1<=10000
 cez:skF kk ba 15=true->ltC l=[]
 cem:skF kk ba 15=false->zrb (ltC l)
 dgl:zp (ltD l)=32
 dgz:skF kk ba 16=true->ltD l=zg 32 0
theorem i4:zaM 4:=by unfold zaM;decide
theorem i5:zaM 5:=by unfold zaM;decide
theorem zte{kk a b:Int}{ba:Bool}{l:lt.T}(hb:ba=true->kk=8)(h:LInv kk ba a b l):FInv kk ba a b (fixO (fixD l)):=by
 have e7:nAt l 7=l.2.2.2.2.2.2.2.2.2.2.1:=rfl;have e5:nAt l 5=l.2.2.2.2.2.2.2.2.1:=rfl;have e4:nAt l 4=l.2.2.2.2.2.2.2.1:=rfl;by_cases h6:kk=6/\nAt l 7=3
 .have eD:fixD l=sDay l 0:=if_pos (by rw[h.kd, <-e7];exact h6);obtain⟨r0,r1,r2,r3,r4,r5,r6,r7⟩:=znE l 0;have x0:=λk(hk:zaM k)=>zsy l 0 hk;have eO:fixO (sDay l 0)=sDay l 0:=if_neg λh5=>by
   rw[r0,h.kd]at h5;have h5:kk=5:=h5.1;omega
  rw[eD,eO];generalize sDay l 0=l2 at *;have g7:nAt l2 7=nAt l 7:=x0 7 i7;have g8:nAt l2 8=0:=x0 8 i8;have x4:ba=false:=by
   cases hh:ba
   .rfl
   .have:=hb hh;omega
  exact {
   kd:=r0.trans h.kd
   fr:=r1.trans h.fr
   to:=r2.trans h.to
   num:=λk hk hs=>by
    rw[x0 k hk];by_cases e:k=8
    .subst e;rw[if_pos rfl,show bndR kk ((8:Nat):Int)=(0,1099511627776) from rfl];decide
    .rw[if_neg e];have:=h.num k hk hs;exact⟨this.1,this.2.1⟩
   zer:=λk hk hs=>by
    rw[x0 k hk];by_cases e:k=8
    .rw[if_pos e]
    .rw[if_neg e];exact h.zer k hk hs
   ne5:=λh5=>by omega
   dy3:=λ_ _=>g8
   mvz:=λ_=>r3.trans (h.mvz (.inr ⟨by omega,by rw[h6.2];decide⟩))
   mv4:=λ_ h2=>by
    rcases h2 with h2|h2
    .omega
    .have:nAt l 7=1:=g7.symm.trans h2;omega
   sez:=λh1=>r4.trans (h.sez (h1.imp id λh=>⟨h.1,g7.symm.trans h.2⟩))
   sem:=λh1 h2=>by
    obtain⟨m',x1,x2,x3⟩:=h.sem h1 (λh=>h2 ⟨h.1,g7.trans h.2⟩);exact⟨m',x1,x2,r4.trans x3⟩
   wiz:=λh1=>r5.trans (h.wiz h1)
   wim:=λh1=>by
    rw[r5];exact h.wim h1
   cez:=λh1=>r6.trans (h.cez h1)
   cem:=λh1=>by
    rw[r6];exact h.cem h1
   dgl:=by rw[r7];exact h.dgl
   dgz:=λh1=>r7.trans (h.dgz h1) }
 have eD:fixD l=l:=if_neg (by rw[h.kd, <-e7];exact h6);rw[eD];by_cases h5:kk=5/\nAt l 5=nAt l 4
 .have eO:fixO l=sOth l (l.2.2.2.2.2.2.2.2.1+1):=if_pos (by rw[h.kd, <-e5, <-e4];exact h5);rw[eO, <-e5];obtain⟨r0,r1,r2,r3,r4,r5,r6,r7⟩:=znB l (nAt l 5+1);have x0:=λk(hk:zaM k)=>zsw l (nAt l 5+1) hk;generalize sOth l (nAt l 5+1)=l2 at *;have g7:=x0 7 i7;have g8:=x0 8 i8;have g5:nAt l2 5=nAt l 5+1:=x0 5 i5;have g4:nAt l2 4=nAt l 4:=x0 4 i4;have x4:ba=false:=by
   cases hh:ba
   .rfl
   .have:=hb hh;omega
  have s5:skF kk ba ((5:Nat):Int)=false:=by rw[x4,h5.1];decide
  exact {
   kd:=r0.trans h.kd
   fr:=r1.trans h.fr
   to:=r2.trans h.to
   num:=λk hk hs=>by
    show _<=nAt l2 k/\nAt l2 k<=_;have hx:=h.num k hk hs;rw[x0 k hk];by_cases e:k=5
    .subst e;rw[if_pos rfl];rw[h5.1,show bndR 5 ((5:Nat):Int)=(0,511) from rfl]at hx ⊢;have hx:0<=nAt l 5/\nAt l 5<=511/\nAt l 5<=0+39:=hx;show 0<=nAt l 5+1/\nAt l 5+1<=511;omega
    .rw[if_neg e];exact⟨hx.1,hx.2.1⟩
   zer:=λk hk hs=>by
    show nAt l2 k=0;rw[x0 k hk];by_cases e:k=5
    .subst e;rw[s5]at hs;cases hs
    .rw[if_neg e];exact h.zer k hk hs
   ne5:=λ_=>by
    rw[g5,g4,h5.2];omega
   dy3:=λh1=>by omega
   mvz:=λh1=>r3.trans (h.mvz (h1.imp id λh=>⟨h.1,λe=>h.2 (g7.trans e)⟩))
   mv4:=λh1 h2=>by
    have:=h.mv4 h1 (h2.imp id λe=>g7.symm.trans e);rw[r3];exact⟨this.1,this.2.1,λe=>by omega⟩
   sez:=λh1=>r4.trans (h.sez (h1.imp id λh=>⟨h.1,g7.symm.trans h.2⟩))
   sem:=λh1 h2=>by
    obtain⟨m',x1,x2,x3⟩:=h.sem h1 (λh=>h2 ⟨h.1,g7.trans h.2⟩);exact⟨m',x1,x2,r4.trans x3⟩
   wiz:=λh1=>r5.trans (h.wiz h1)
   wim:=λh1=>by
    rw[r5];exact h.wim h1
   cez:=λh1=>r6.trans (h.cez h1)
   cem:=λh1=>by
    rw[r6];exact h.cem h1
   dgl:=by rw[r7];exact h.dgl
   dgz:=λh1=>r7.trans (h.dgz h1) }
 have eO:fixO l=l:=if_neg (by rw[h.kd, <-e5, <-e4];exact h5);rw[eO];exact {
  kd:=h.kd
  fr:=h.fr
  to:=h.to
  num:=λk hk hs=>⟨(h.num k hk hs).1,(h.num k hk hs).2.1⟩
  zer:=h.zer
  ne5:=λe1 e2=>h5 ⟨e1,e2⟩
  dy3:=λe1 e2=>absurd ⟨e1,e2⟩ h6
  mvz:=h.mvz
  mv4:=λh1 h2=>⟨(h.mv4 h1 h2).1,(h.mv4 h1 h2).2.1,λe=>(h.mv4 h1 h2).2.2 o_⟩
  sez:=h.sez
  sem:=h.sem
  wiz:=h.wiz
  wim:=h.wim
  cez:=h.cez
  cem:=h.cem
  dgl:=h.dgl
  dgz:=h.dgz }
theorem zgP:zdc zSe=true:=d_
theorem zjj{kk:Int}(hk:1<=kk/\kk<=18)(ba:Bool){f:Nat}(hf:f<17)(h:za3 kk (f:Int)=false):skF kk ba (f:Int)=true:=by
 unfold skF;rw[(zlD hk hf).1,h];rfl
theorem used{kk:Int}{f:Int}{ba:Bool}(h:skF kk ba f=false):zhu kk f=true:=by
 unfold skF at h;cases hu:zhu kk f
 .rw[hu]at h;cases h
 .rfl
theorem zuv{kk a b:Int}{ba:Bool}{l:lt.T}(hk:1<=kk/\kk<=18)(hb:ba=true->kk=8)(h:FInv kk ba a b l){k:Nat}(hn:zaM k):offF l k=skF kk ba (k:Int):=by
 have x4:=h.kd;have x0:zhF l=ba:=by
  unfold zhF;rw[x4];by_cases e8:kk=8
  .subst e8;cases ba
   .have hs:skF 8 false 10=false:=d_;obtain⟨m',x1,x2,x3⟩:=h.sem hs (λh=>by have:=h.1;omega);rw[x3];exact(zgU m' x1 x2).2.2.2.1
   .have hs:skF 8 true 10=true:=d_;rw[h.sez (.inl hs)];exact zgP
  .have x5:ba=false:=by
    cases hh:ba
    .rfl
    .exact absurd (hb hh) e8
   rw[beq_false_of_ne e8,x5];rfl
 unfold offF ztA skF;rw[x0,x4,(zlD hk (by unfold zaM at hn;omega)).1];have x6:((k:Int)==10)=false:=beq_false_of_ne (by unfold zaM at hn;omega);rw[x6];cases za3 kk (k:Int)
 .rfl
 .
  cases ba
  .rfl
  .rcases hn with rfl|rfl|rfl|rfl|rfl|rfl|rfl|rfl|rfl|rfl|rfl|rfl<;>rfl
theorem zsq{kk a b:Int}{ba:Bool}{l:lt.T}(h:FInv kk ba a b l):zp (ltS l).1<=100/\zp (ltS l).2.2.2.2.2.2.1<=100/\zp (ltS l).2.2.2.1<=100:=by
 by_cases hq:skF kk ba 10=true\/(kk=6/\nAt l 7=1)
 .rw[h.sez hq];exact⟨zk _,zk _,zk _⟩
 .obtain⟨m',x1,x2,x3⟩:=h.sem (by simpa using λe=>hq (.inl e)) (λe=>hq (.inr e));rw[x3];obtain⟨_,_,_,_,y1,y2,y3⟩:=zgU m' x1 x2;exact⟨y1,y2,y3⟩
theorem ztb{kk a q:Int}{ba:Bool}{l:lt.T}(hk:1<=kk/\kk<=18)(ha:0<=a/\a<16)(hq:0<=q/\q<15)(hb:ba=true->kk=8)(h:FInv kk ba a ((a+1+q).tmod 16) l):zdr l/\ltR l:=by
 have x0:l.1=kk:=h.kd;have xa:0<=(a+1+q).tmod 16/\(a+1+q).tmod 16<16/\(a+1+q).tmod 16≠a:=by
  rw[uj o_];omega
 have xf:=zsq h;have xb:serS l:=⟨by omega,by omega,by omega⟩;have x9:kk≠8->ba=false:=λxe=>by
  cases hh:ba
  .rfl
  .exact absurd (hb hh) xe
 have x7:celG kk (ltC l):=by
  cases hs:skF kk ba 15
  .obtain⟨c1,c2,c3,c4⟩:=h.cem hs;exact⟨by omega,λx hx=>by have:=c3 x hx;omega,λ_=>⟨λx hx=>by have:=c3 x hx;omega,c4⟩,λ_=>c1⟩
  .rw[h.cez hs];refine⟨zk _,(λx hx=>(by cases hx)),λ_=>⟨(λx hx=>(by cases hx)),λi hi=>absurd hi (yS _)⟩,λe=>?_⟩;rw[x9 o_,e]at hs;exact absurd hs d_
 have xc:(ltC l).length<=65536/\∀x∈ltC l,0<=x/\x<=255:=by
  cases hs:skF kk ba 15
  .obtain⟨c1,c2,c3,c4⟩:=h.cem hs;exact⟨by omega,λx hx=>by have:=c3 x hx;omega⟩
  .rw[h.cez hs];exact⟨zk _,(λx hx=>(by cases hx))⟩
 have x4: -1000<=(ltW l).1/\(ltW l).1<=(ltW l).2.1/\(ltW l).2.1<=10000:=by
  cases hs:skF kk ba 14
  .exact h.wim hs
  .rw[h.wiz hs];decide
 have x8:∀x y:Int,-1000<=x/\x<=y/\y<=10000->(-2251799813685248<=x/\x<=y/\y<=2251799813685248)/\inR .i64 x/\inR .i64 y:=λx y h=>⟨by omega,zah o_ o_,zah o_ o_⟩;have x6:∀k,zaM k->(offF l k=true->nAt l k=0)/\(offF l k=false->limF l.1 (k:Int) 0<=nAt l k/\nAt l k<=limF l.1 (k:Int) 1):=λk hn=>by
  rw[zuv hk hb h hn,x0];refine⟨h.zer k hn,λhs=>?_⟩;have ht:=(zlD hk (k:=k) (by unfold zaM at hn;omega)).2 hn (used hs);rw[<-ht.1, <-ht.2];exact h.num k hn hs
 have x5:zdr l:=by
  refine⟨⟨by rw[x0];exact hk,?_,?_,?_⟩,⟨by rw[x0];exact hk,xb,x6,λe=>h.ne5 (by rw[<-x0];exact e)⟩,⟨by rw[x0];exact hk,xb,λf hf hu=>?_,λe=>?_,λe=>?_,(x8 _ _ x4).1,by rw[x0];exact x7⟩,xc.1,λhc=>?_,h.dgl⟩
  .rw[h.fr];unfold srvN;rw[decide_eq_true ha.1,decide_eq_true ha.2];rfl
  .rw[h.to];unfold srvN;rw[decide_eq_true xa.1,decide_eq_true xa.2.1];rfl
  .rw[h.fr,h.to];exact λe=>xa.2.2 e.symm
  .rw[x0]at hu;rcases hf with rfl|rfl|rfl|rfl|rfl
   .have hs:=zjj hk ba d_ hu;exact zbt.2 (h.mvz (.inl hs))
   .have hs:=zjj hk ba d_ hu;show zdc (ltS l)=true;rw[h.sez (.inl hs)];exact zgP
   .have hs:=zjj hk ba d_ hu;exact zbt.2 (h.wiz hs)
   .have hs:=zjj hk ba d_ hu;show(((zp (ltC l):Nat):Int)==0)=true;rw[h.cez hs];rfl
   .have hs:=zjj hk ba d_ hu;exact zbt.2 (h.dgz hs)
  .have e4:kk=4:=by rw[<-x0];exact e
   have hs:skF kk ba 9=false:=by rw[x9 o_,e4];decide
   exact(h.mv4 hs (.inl e4)).1
  .have e6:kk=6:=by rw[<-x0];exact e
   have hs:skF kk ba 9=false:=by rw[x9 o_,e6];decide
   refine⟨xb,λh1=>⟨(h.mv4 hs (.inr h1)).1,(h.mv4 hs (.inr h1)).2.2 e6,?_⟩,λh3=>⟨zbt.2 (h.mvz (.inr ⟨by omega,by rw[h3];decide⟩)),h.dy3 e6 h3⟩,λh1 h3=>zbt.2 (h.mvz (.inr ⟨by omega,h1⟩))⟩;rw[h.sez (.inr ⟨e6,h1⟩)];exact zgP
  .obtain⟨u1,u2⟩:=hc;rw[x0]at u1 u2;have xd:skF kk ba 10=false/\¬(kk=6/\nAt l 7=1):=by
    refine⟨?_,λh6=>u2 ⟨?_,.inr h6.2⟩⟩
    .cases hs:skF kk ba 10
     .rfl
     .refine absurd ⟨?_,.inl ?_⟩ u2
      .rw[h.sez (.inl hs)];exact zgP
      .cases hh:ba
       .exfalso;rw[hh]at hs;unfold skF at hs;have hu:zhu kk ((10:Nat):Int)=za3 kk ((10:Nat):Int):=(zlD hk d_).1;have hu:zhu kk 10=true:=hu.trans u1;rw[hu]at hs;cases hs
       .exact hb hh
    .rw[h.sez (.inr h6)];exact zgP
   obtain⟨m',x1,x2,x3⟩:=h.sem xd.1 xd.2;rw[x3];exact⟨(zgU m' x1 x2).1,(zgU m' x1 x2).2.1⟩
 refine⟨x5,?_,λk=>?_,?_,?_,(x8 _ _ x4).2.1,(x8 _ _ x4).2.2,xc.2⟩
 .intro x hx;have hx:x∈ [l.1,l.2.1,l.2.2.1]:=hx;rw[x0,h.fr,h.to]at hx;simp only[zE,zU,or_false]at hx;rcases hx with rfl|rfl|rfl<;>omega
 .by_cases hn:zaM k
  .cases hs:skF kk ba (k:Int)
   .have h1:=h.num k hn hs;have h2:=zlh kk (k:Int);obtain⟨h3,h4,h5⟩:=h2;exact zah o_ o_
   .rw[h.zer k hn hs];exact zah d_ d_
  .have:nAt l k=0:=by
    unfold zaM at hn;unfold nAt;split<;>first|rfl|(exfalso;omega)
   rw[this];exact zah d_ d_
 .have z:inR .i64 0:=zah d_ d_;by_cases hm:skF kk ba 9=true\/(kk≠4/\nAt l 7≠1)
  .rw[h.mvz hm];exact⟨z,z,z,z⟩
  .have h1:skF kk ba 9=false:=by simpa using λe=>hm (.inl e)
   have h2:kk=4\/nAt l 7=1:=by
    by_cases e:kk=4
    .exact .inl e
    .by_cases e2:nAt l 7=1
     .exact .inr e2
     .exact absurd (.inr ⟨e,e2⟩) hm
   exact(h.mv4 h1 h2).2.1
 .by_cases hm:skF kk ba 10=true\/(kk=6/\nAt l 7=1)
  .rw[h.sez hm];exact⟨(λx hx=>(by cases hx)),(λx hx=>(by cases hx))⟩
  .obtain⟨m',x1,x2,x3⟩:=h.sem (by simpa using λe=>hm (.inl e)) (λe=>hm (.inr e));rw[x3];exact(zgU m' x1 x2).2.2.1
theorem zgR(ns:List Int):zdr (zkG ns)/\ltR (zkG ns):=by
 obtain⟨kk,ba,a,q,hk,ha,hq,hb,h⟩:=zl0 ns;have e:zkG ns=fixO (fixD (mL17 ns).1):=by unfold zkG;rfl
 rw[e];exact ztb hk ha hq hb (zte hb h)
theorem zql(ns:List Int):clnL (zkG ns):=zu4 (zgR ns).1
def zpb(g:List Int->lt.T):Ctr:={ args:=[ints],pre:=λ_=>[],res:=lt,own:=none,out:=λx=>g x.1 }
def zwa:Ctr:=zpb zkG
def kMdA:Kn:={ kN with C:=[(17,cUse)],R:=[(16,ziY),(18,cMdN)] }
theorem zbe:KnOk zf gmG kMdA:=⟨zmr,zdu,.cons zlA .nil,λ_ _ _ _=>trivial,.cons zd9 (λ_ _=>trivial) (.cons zqm (λ_ _=>trivial) .nil)⟩
def kMdB:Kn:={ kN with R:=[(18,cMdC)] }
theorem zs0:KnOk zf gmG kMdB:=⟨zmr,zdu,.nil,λ_ _ _ _=>trivial,.cons zqo (λ_ _=>trivial) .nil⟩
def kMdE:Kn:={ gmK with C:=[(17,cUse)],R:=[(18,cMdD)] }
theorem zca:KnOk zf gmG kMdE:=⟨zd2,zdu,.cons zlA .nil,λ_ _ _ _=>trivial,.cons zqn (λ_ _=>trivial) .nil⟩
set_option maxHeartbeats 8000000 in
theorem zoi(g:List Int->lt.T)(hg:∀ns,g ns=fixO (fixD (mL17 ns).1)):yQ zf gmG 5 (zpb g):=by
 refine zcm (K:=gmK) zar Tryz.func5 rfl rfl Tryz.call5 rfl (zb rfl) (by intro h;cases h) ?_;rintro w0 X hX ⟨(ns:List Int),⟨⟩⟩ hp;change AWP _ _ _ _ _ ⟨[(0,⟨ints,ns⟩)],[],0⟩ _;refine AWP.len 0 rfl λhlm=>?_;unfold maxLen at hlm;obtain⟨z,hz⟩:∃z,z=zaD lt:=⟨_,rfl⟩;refine zaa (zaa (zab zar ?_));have hm60:min (((ns.length:Nat):Int)) 60<=((ns.length:Nat):Int):=o_;have hm0:0<=min (((ns.length:Nat):Int)) 60:=o_;refine zaa (zaa (zab zbe ?_ (hp:=by exact⟨hm0,hm60⟩)));have htk:jK (min (((ns.length:Nat):Int)) 60).toNat ns=ns.take 60:=by
  by_cases h:ns.length<=60
  .rw[show(min (((ns.length:Nat):Int)) 60).toNat=ns.length by omega,yX,qS h]
  .rw[show(min (((ns.length:Nat):Int)) 60).toNat=60 by omega]
 refine zak (Y':=⟨[(2,⟨.optr lt,⟨0,lt,.here⟩⟩),(3,⟨.optr mkr,⟨1,mkr,.here⟩⟩)],[(0,some (.box lt z)),(1,some (.box mkr (m0 ns)))],2⟩) ⟨⟨rfl,rfl,t_⟩,⟨boxL hz.symm,zct (by rw[htk];rfl),t_⟩,rfl,rfl⟩ ?_;obtain⟨m,hm⟩:∃x,x=m0 ns:=⟨_,rfl⟩;have u0:mkU m=0:=by rw[hm];rfl
 have n0:mkN m=2:=by rw[hm];rfl
 have s0:mkS m=0:=by rw[hm];rfl
 rw[<-hm];obtain⟨⟨q1,m1⟩,h1⟩:∃x,x=zad m 18:=⟨_,rfl⟩;have u1:MkU 1 m m1:=by have:=MkU.pick m 18;rw[<-h1]at this;exact this
 have c1:0<=q1/\q1<18:=by have:=zao m (n:=18) d_;rw[<-h1]at this;exact this
 have i1:inR .i64 (1+(zad m 18).1):=by rw[<-h1];exact zah (by show _<=1+q1;omega) (by show 1+q1<=_;omega)
 have d1:0<=mkU m/\mkU m<=1000000/\0<(18:Int)/\(18:Int)<=1000000000:=⟨by omega,by omega,by decide,by decide⟩;have e1:m1k ns=(q1,m1):=by unfold m1k;rw[<-hm, <-h1]
 obtain⟨k,hk⟩:∃x,x=1+q1:=⟨_,rfl⟩;refine zaa (zaa (zab zbe ?_ (hp:=by exact⟨d1.1,d1.2.1,d1.2.2.1,d1.2.2.2,i1⟩)));refine zak (Y':=sMa z m1 (l0k k 0 0) []) ⟨⟨rfl,rfl,rfl,t_⟩,⟨rfl,zct (congrArg vB h1.symm),boxN (by rw[hk];exact congrArg (λ(x:Int×Mk)=>l0k (1+x.1) 0 0) h1.symm),t_⟩,rfl,rfl⟩ ?_;obtain⟨⟨a,m2⟩,h2⟩:∃x,x=zad m1 16:=⟨_,rfl⟩;have u2:MkU 1 m1 m2:=by have:=MkU.pick m1 16;rw[<-h2]at this;exact this
 have c2:0<=a/\a<16:=by have:=zao m1 (n:=16) d_;rw[<-h2]at this;exact this
 obtain⟨_,n1,s1,v1,w1⟩:=u1;obtain⟨_,n2,s2,v2,w2⟩:=u2;have d2:0<=mkU m1/\mkU m1<=1000000/\0<(16:Int)/\(16:Int)<=1000000000:=⟨by omega,by omega,by decide,by decide⟩;have e2:m2k ns=(a,m2):=by unfold m2k;rw[e1, <-h2]
 refine zaa (zaa (zab zbe ?_ (hp:=by exact d2)));refine zak (Y':=sMa z m2 (l0k k a 0) []) ⟨⟨rfl,rfl,rfl,t_⟩,⟨rfl,zct (congrArg vB h2.symm),boxN (congrArg (λ(x:Int×Mk)=>l0k k x.1 0) h2.symm),t_⟩,rfl,rfl⟩ ?_;obtain⟨⟨q,m3⟩,h3⟩:∃x,x=zad m2 15:=⟨_,rfl⟩;have u3:MkU 1 m2 m3:=by have:=MkU.pick m2 15;rw[<-h3]at this;exact this
 have c3:0<=q/\q<15:=by have:=zao m2 (n:=15) d_;rw[<-h3]at this;exact this
 obtain⟨_,n3,s3,v3,w3⟩:=u3;have d3:0<=mkU m2/\mkU m2<=1000000/\0<(15:Int)/\(15:Int)<=1000000000:=⟨by omega,by omega,by decide,by decide⟩;have e3:m3k ns=(q,m3):=by unfold m3k;rw[e2, <-h3]
 have f3:(zad m2 15).1=q:=(congrArg kM h3).symm;have g3:(zad m2 15).2=m3:=(congrArg vB h3).symm;have i3:inR .i64 (a+1):=zah o_ o_;have i4:inR .i64 (a+1+q):=zah o_ o_;refine zaa ?_;refine zi8 5 4 [(0,some (.box lt z)),(1,some (.box mkr m3)),(2,some (.box ltN (l0k k a 0)))] (sMa z m2 (l0k k a 0) []).F [(0,21,⟨.optr i64,⟨2,ltN,.fst (.snd .here)⟩⟩),(1,22,⟨i64,a⟩),(2,23,⟨i64,a+1⟩),(3,24,⟨.optr mkr,⟨1,mkr,.here⟩⟩),(4,25,⟨i64,q⟩)] dM hX 9 rfl rfl (by kernel_rfl) (by kernel_rfl) rfl ⟨rfl,rfl,rfl,t_⟩ ?_ rfl ⟨rfl,rfl,rfl,t_⟩ rfl rfl rfl ?_
 .refine(zZ (zZ (zZ (zZ (zZ kf ?_) ?_) ?_) ?_) ?_)
  .exact js hX zbe d_ k_ k_
  .exact js hX zbe d_ k_ k_
  .exact js hX zbe d_ ⟨_,rfl,λF=>⟨_,rfl,i3,rfl,λ_=>rfl,rfl⟩⟩ ⟨_,rfl,λF=>⟨_,rfl,i3,rfl,λ_=>rfl,rfl⟩⟩
  .exact js hX zbe d_ k_ k_
  .rw[<-f3, <-g3];exact fQ (fY hX zbe ⟨_,rfl,λF=>⟨_,rfl,(by exact d3),rfl,λj=>(match j with |0=>rfl|1=>rfl|2=>rfl|_+3=>rfl),rfl⟩⟩)
 refine yD hX zbe rfl (by exact i4) ?_;refine yD hX zbe rfl (by show(16:Int)≠0;decide) ?_
 iterate 2 (refine yD hX zbe rfl t_ ?_)
 refine QC.of ?_;obtain⟨b,hb⟩:∃x,x=(a+1+q).tmod 16:=⟨_,rfl⟩;refine zak (Y':=sMa z m3 (l0k k a b) []) ⟨⟨rfl,rfl,rfl,t_⟩,⟨rfl,rfl,boxN (by rw[hb];rfl),t_⟩,rfl,rfl⟩ ?_;have d4:0<=mkU m3/\mkU m3<=1000000/\0<(3:Int)/\(3:Int)<=1000000000:=⟨by omega,by omega,by decide,by decide⟩;have u4:=MkU.pick m3 3;obtain⟨⟨ba,m4⟩,h4⟩:∃x,x=m4k ns:=⟨_,rfl⟩;have e4:=h4;unfold m4k at e4;rw[e1,e3]at e4;have e4:(ba,m4)=if k=8 then((zad m3 3).1==0,(zad m3 3).2) else(false,m3):=by rw[hk];exact e4
 have hU:mkU m3<=mkU m4/\mkU m4<=mkU m3+1/\mkN m4=mkN m3/\mkS m4=mkS m3:=by
  obtain⟨_,x1,x2,x3,x4⟩:=u4;split at e4
  .cases e4;exact⟨x3,x4,x1,x2⟩
  .cases e4;exact⟨qs _,by omega,rfl,rfl⟩
 apply zap;refine za1 (Y':=sMa z m4 (l0k k a b) [(5,⟨.bool,ba⟩)]) ?_ ?_
 .refine zaj ?_;refine zat 4 zbe ?_;by_cases h8:k=8
  .rw[if_pos h8]at e4;cases e4;refine AL.fit (Y':=sMa z m3 (l0k k a b) [(32,⟨.bool,true⟩)]) ⟨⟨rfl,rfl,rfl,zcp (by rw[h8];rfl),t_⟩,⟨rfl,rfl,rfl,t_⟩,rfl,rfl⟩ ?_;refine AL.guardT 3 32 true rfl rfl rfl rfl ?_;refine zat 1 zbe ?_;refine AL.guardT 3 32 true rfl rfl rfl rfl ?_;refine AL.take 1 hX zbe rfl (by exact d4) ?_;refine AL.guardT 3 32 true rfl rfl rfl rfl ?_;refine zat 1 zbe ?_;refine zau zbe ?_;exact⟨⟨rfl,rfl,rfl,rfl,t_⟩,⟨rfl,rfl,rfl,t_⟩,rfl,rfl⟩
  .rw[if_neg h8]at e4;cases e4;refine AL.fit (Y':=sMa z m3 (l0k k a b) [(32,⟨.bool,false⟩)]) ⟨⟨rfl,rfl,rfl,zcp (beq_false_of_ne h8),t_⟩,⟨rfl,rfl,rfl,t_⟩,rfl,rfl⟩ ?_
   iterate 3 (refine AL.guardF 3 32 true .bool false rfl rfl rfl rfl rfl rfl ?_)
   refine zau zbe ?_;exact⟨⟨rfl,rfl,rfl,rfl,t_⟩,⟨rfl,rfl,rfl,t_⟩,rfl,rfl⟩
 obtain⟨l0,hl0⟩:∃x,x=l0k k a b:=⟨_,rfl⟩;have hL0:mL0 ns=l0:=by
  unfold mL0;rw[e1,e2,e3,hl0,hk,hb]
 have hk1:l0.1=k:=by rw[hl0];rfl
 have hd0:(l0.2.2.2.2.2.2.2.2.2.2.2.2.2.2.2.2.2.2.2.1).length=32:=by rw[hl0];rfl
 rw[<-hl0];have hst15:mL15 ns=mAt ba l0 m4 15:=by unfold mL15;rw[hL0, <-h4]
 refine zaa (zaa (zab zbe ?_));refine zaa ?_;refine yK (ι:=Nat) (stM z ns ba l0 m4) (λf=>f<=17) (λf=>17-f) 0 (zk _) ⟨⟨rfl,rfl,rfl,rfl,rfl,t_⟩,⟨rfl,rfl,rfl,t_⟩,rfl,rfl⟩ ?_;intro f hf;by_cases hf15:f<=14
 .have es:stM z ns ba l0 m4 f=sMa z (mAt ba l0 m4 f).2 (mAt ba l0 m4 f).1 [(5,⟨.bool,ba⟩),(6,⟨i64,(f:Int)⟩)]:=if_pos o_;have es1:stM z ns ba l0 m4 (f+1)=sMa z (mAt ba l0 m4 (f+1)).2 (mAt ba l0 m4 (f+1)).1 [(5,⟨.bool,ba⟩),(6,⟨i64,((f+1:Nat):Int)⟩)]:=if_pos o_;rw[es];have hq:=zqq ba l0 m4 f;have hn:mAt ba l0 m4 (f+1)=if skF (mAt ba l0 m4 f).1.1 ba (f:Int)=true then mAt ba l0 m4 f else zaZ (mAt ba l0 m4 f).2 (mAt ba l0 m4 f).1 (f:Int):=rfl
  generalize mAt ba l0 m4 f=s at *;obtain⟨(l:ltN.T),(m5:Mk)⟩:=s;obtain⟨⟨y1,y2,y3,y4,y5⟩,y6,y7⟩:=hq;have y6:l.1=k:=y6.trans hk1;have hn:mAt ba l0 m4 (f+1)=if skF l.1 ba (f:Int)=true then(l,m5) else zaZ m5 l (f:Int):=hn
  have p0:1<=k/\k<=18:=o_;have p1:1<=l.1/\l.1<=18:=by rw[y6];exact p0
  have p2:(0<=mkU m5/\mkU m5<=50000)/\(0<=mkN m5/\mkN m5<=1000000)/\(0<=mkS m5/\mkS m5<=50000)/\(1<=l.1/\l.1<=18)/\0<=(f:Int)/\(f:Int)<=14:=by
   have y1:mkN m5=mkN m4:=y1;have y2:mkU m4<=mkU m5:=y2;have y3:mkU m5<=mkU m4+200*(f:Int):=y3;have y4:mkS m4<=mkS m5:=y4;have y5:mkS m5<=mkS m4+10*(f:Int):=y5;exact⟨⟨by omega,by omega⟩,⟨by omega,by omega⟩,⟨by omega,by omega⟩,p1,by omega,by omega⟩
  have q1:inR .i64 ((f:Int)+1):=zah o_ o_;show AWP _ _ _ _ _ (sMa z m5 l [(5,⟨.bool,ba⟩),(6,⟨i64,(f:Int)⟩)]) _;refine zaa (zaa (zab zbe ?_));refine zaa ?_;refine zae rfl (λhc=>?_) (λhc=>?_)
  .apply zaf;refine zaa (zaa (zab zbe ?_ (hp:=by
    clear es es1 hn h4 hst15 hd0;generalize cUse.out (l.1,(f:Int),())=u;cases u<;>cases ba
    all_goals repeat'(first|exact p1.1|exact p1.2|exact t_|exact rfl|(intro h;cases h;done)|exact λh=>h|refine vI ?_ ?_|refine λh=>?_))))
   refine zak (Y':=sMa z m5 l [(5,⟨.bool,ba⟩),(6,⟨i64,(f:Int)⟩),(68,⟨.bool,skF l.1 ba (f:Int)⟩)]) ⟨⟨rfl,rfl,rfl,rfl,rfl,zcp ?_,t_⟩,⟨rfl,rfl,rfl,t_⟩,rfl,rfl⟩ ?_
   .clear es es1 hn h4 hst15 hd0;unfold skF;show _=bif !(cUse.out (l.1,(f:Int),())) then true else _
    generalize cUse.out (l.1,(f:Int),())=u;cases u<;>cases ba
    all_goals first|rfl|trace_state
   refine zae rfl (λhk=>?_) (λhk=>?_)
   .have hk:skF l.1 ba (f:Int)=true:=hk;rw[if_pos hk]at hn;apply zan;refine zaa (zab zbe ?_ (hp:=by exact q1));refine⟨f+1,by omega,by omega,?_⟩;rw[es1,hn];exact⟨⟨rfl,rfl,rfl,rfl,rfl,t_⟩,⟨rfl,rfl,rfl,t_⟩,rfl,rfl⟩
   .have hk:skF l.1 ba (f:Int)=false:=hk;rw[if_neg (by rw[hk];decide)]at hn;apply zaf;refine zaa (zaa (zab zbe ?_ (hp:=by exact p2)));refine zaa (zab zbe ?_ (hp:=by exact q1));refine⟨f+1,by omega,by omega,?_⟩;rw[es1,hn];exact⟨⟨rfl,rfl,rfl,rfl,rfl,t_⟩,⟨rfl,rfl,rfl,t_⟩,rfl,rfl⟩
  .have hc:decide ((f:Int)<17)=false:=hc;have hc:=of_decide_eq_false hc;omega
 by_cases hf15:f=15
 .subst hf15;have es:stM z ns ba l0 m4 15=sMa z (mL15 ns).2 (mL15 ns).1 [(5,⟨.bool,ba⟩),(6,⟨i64,(15:Int)⟩)]:=by
   rw[hst15];exact if_pos o_
  have es1:stM z ns ba l0 m4 (15+1)=sMb z (mL16 ns).2 (mL16 ns).1 [(5,⟨.bool,ba⟩),(6,⟨i64,(16:Int)⟩)]:=(if_neg o_).trans (if_pos rfl);rw[es];have hq:=zqq ba l0 m4 15;rw[<-hst15]at hq;have hn:mL16 ns=if skF (mL15 ns).1.1 ba 15=true then(addC (mL15 ns).1 [],(mL15 ns).2) else(addC (mL15 ns).1 (mCel (mL15 ns).2).1,(mCel (mL15 ns).2).2):=by unfold mL16;rw[<-h4]
  generalize mL15 ns=s at *;obtain⟨(l:ltN.T),(m5:Mk)⟩:=s;obtain⟨⟨y1,y2,y3,y4,y5⟩,y6,y7⟩:=hq;have y6:l.1=k:=y6.trans hk1;have y7:(l.2.2.2.2.2.2.2.2.2.2.2.2.2.2.2.2.2.2.2.1).length=32:=by
   have:l.2.2.2.2.2.2.2.2.2.2.2.2.2.2.2.2.2.2.2.1=l0.2.2.2.2.2.2.2.2.2.2.2.2.2.2.2.2.2.2.2.1:=y7;rw[this];exact hd0
  have hn:mL16 ns=if skF l.1 ba 15=true then(addC l [],m5) else(addC l (mCel m5).1,(mCel m5).2):=hn
  have p0:1<=k/\k<=18:=o_;have p1:1<=l.1/\l.1<=18:=by rw[y6];exact p0
  have p2:(0<=mkU m5/\mkU m5<=50000):=by
   have y2:mkU m4<=mkU m5:=y2;have y3:mkU m5<=mkU m4+200*((15:Nat):Int):=y3;exact⟨by omega,by omega⟩
  have q1:inR .i64 ((15:Int)+1):=zah d_ d_;show AWP _ _ _ _ _ (sMa z m5 l [(5,⟨.bool,ba⟩),(6,⟨i64,(15:Int)⟩)]) _;refine zaa (zaa (zab zbe ?_));refine zaa ?_;refine zae rfl (λhc=>?_) (λhc=>absurd (show decide ((15:Int)<17)=false from hc) d_);apply zaf;refine zaa (zaa (zab zbe ?_ (hp:=by
   clear es es1 hn h4 hst15 hd0;generalize cUse.out (l.1,(15:Int),())=u;cases u<;>cases ba
   all_goals repeat'(first|exact p1.1|exact p1.2|exact t_|exact rfl|(intro h;cases h;done)|exact λh=>h|refine vI ?_ ?_|refine λh=>?_))))
  refine zak (Y':=sMa z m5 l [(5,⟨.bool,ba⟩),(6,⟨i64,(15:Int)⟩),(68,⟨.bool,skF l.1 ba 15⟩)]) ⟨⟨rfl,rfl,rfl,rfl,rfl,zcp ?_,t_⟩,⟨rfl,rfl,rfl,t_⟩,rfl,rfl⟩ ?_
  .clear es es1 hn h4 hst15 hd0;unfold skF;show _=bif !(cUse.out (l.1,(15:Int),())) then true else _
   generalize cUse.out (l.1,(15:Int),())=u;cases u<;>cases ba<;>rfl
  refine zae rfl (λhk=>?_) (λhk=>?_)
  .have hk:skF l.1 ba 15=true:=hk;rw[if_pos hk]at hn;refine AWP.recast 2 4 (y:=addC l []) rfl rfl (λw O cs h=>znM h) ?_;apply zan;refine zaa (zab zca ?_ (hp:=by exact q1));refine⟨15+1,by omega,by omega,?_⟩;rw[es1,hn];exact⟨⟨rfl,rfl,rfl,rfl,rfl,t_⟩,⟨rfl,rfl,rfl,t_⟩,rfl,rfl⟩
  .have hk:skF l.1 ba 15=false:=hk;rw[if_neg (by rw[hk];decide)]at hn;apply zaf;refine zaa (zaa (zaj ?_));refine AL.take 4 hX zs0 rfl (by exact⟨p2,rfl,y7⟩) ?_;refine AL.recast 2 4 (y:=addC l []) rfl rfl (λw O cs h=>znM h) ?_;refine zau zca ?_;refine zaa (zab zca ?_ (hp:=by exact q1));refine⟨15+1,by omega,by omega,?_⟩;rw[es1,hn];exact⟨⟨rfl,rfl,rfl,rfl,rfl,t_⟩,⟨rfl,rfl,rfl,t_⟩,rfl,rfl⟩
 have hq16:(mL16 ns).1.1=k/\((mL16 ns).1.2.2.2.2.2.2.2.2.2.2.2.2.2.2.2.2.2.2.2.1).length=32/\(0<=mkU (mL16 ns).2/\mkU (mL16 ns).2<=50000):=by
  have h15:=zqq ba l0 m4 15;rw[<-hst15]at h15;obtain⟨⟨y1,y2,y3,y4,y5⟩,y6,y7⟩:=h15;have y8:((mL15 ns).1.2.2.2.2.2.2.2.2.2.2.2.2.2.2.2.2.2.2.2.1).length=32:=by rw[y7];exact hd0
  exact zuE (y6.trans hk1) y8 ⟨by omega,by omega⟩
 by_cases hf16:f=16
 .subst hf16;have es:stM z ns ba l0 m4 16=sMb z (mL16 ns).2 (mL16 ns).1 [(5,⟨.bool,ba⟩),(6,⟨i64,(16:Int)⟩)]:=(if_neg o_).trans (if_pos rfl);have es1:stM z ns ba l0 m4 (16+1)=sMb z (mL17 ns).2 (mL17 ns).1 [(5,⟨.bool,ba⟩),(6,⟨i64,(17:Int)⟩)]:=(if_neg o_).trans (if_neg o_);rw[es];have hn:mL17 ns=if skF (mL16 ns).1.1 ba 16=true then mL16 ns else mRef (mL16 ns).2 (mL16 ns).1:=by unfold mL17;rw[<-h4]
  generalize mL16 ns=s at *;obtain⟨(l:lt.T),(m5:Mk)⟩:=s;obtain⟨y6,y7,p2⟩:=hq16;have y6:l.1=k:=y6;have y7:(l.2.2.2.2.2.2.2.2.2.2.2.2.2.2.2.2.2.2.2.1).length=32:=y7;have p2:0<=mkU m5/\mkU m5<=50000:=p2;have hn:mL17 ns=if skF l.1 ba 16=true then(l,m5) else mRef m5 l:=hn
  have p0:1<=k/\k<=18:=o_;have p1:1<=l.1/\l.1<=18:=by rw[y6];exact p0
  have q1:inR .i64 ((16:Int)+1):=zah d_ d_;show AWP _ _ _ _ _ (sMb z m5 l [(5,⟨.bool,ba⟩),(6,⟨i64,(16:Int)⟩)]) _;refine zaa (zaa (zab zca ?_));refine zaa ?_;refine zae rfl (λhc=>?_) (λhc=>absurd (show decide ((16:Int)<17)=false from hc) d_);apply zaf;refine zaa (zaa (zab zca ?_ (hp:=by
   clear es es1 hn h4 hst15 hd0;generalize cUse.out (l.1,(16:Int),())=u;cases u<;>cases ba
   all_goals repeat'(first|exact p1.1|exact p1.2|exact t_|exact rfl|(intro h;cases h;done)|exact λh=>h|refine vI ?_ ?_|refine λh=>?_))))
  refine zak (Y':=sMb z m5 l [(5,⟨.bool,ba⟩),(6,⟨i64,(16:Int)⟩),(68,⟨.bool,skF l.1 ba 16⟩)]) ⟨⟨rfl,rfl,rfl,rfl,rfl,zcp ?_,t_⟩,⟨rfl,rfl,rfl,t_⟩,rfl,rfl⟩ ?_
  .clear es es1 hn h4 hst15 hd0;unfold skF;show _=bif !(cUse.out (l.1,(16:Int),())) then true else _
   generalize cUse.out (l.1,(16:Int),())=u;cases u<;>cases ba<;>rfl
  refine zae rfl (λhk=>?_) (λhk=>?_)
  .
   rw[if_pos hk]at hn;apply zan;refine zaa (zab zca ?_ (hp:=by exact q1));refine⟨16+1,by omega,by omega,?_⟩;rw[es1,hn];exact⟨⟨rfl,rfl,rfl,rfl,rfl,t_⟩,⟨rfl,rfl,rfl,t_⟩,rfl,rfl⟩
  .
   rw[if_neg (by rw[hk];decide)]at hn;apply zaf;refine zaa (zaa (zab zca ?_ (hp:=by exact⟨p2,rfl,y7⟩)));refine zaa (zab zca ?_ (hp:=by exact q1));refine⟨16+1,by omega,by omega,?_⟩;rw[es1,hn];exact⟨⟨rfl,rfl,rfl,rfl,rfl,t_⟩,⟨rfl,rfl,rfl,t_⟩,rfl,rfl⟩
 have hf17:f=17:=o_;subst hf17;have es:stM z ns ba l0 m4 17=sMb z (mL17 ns).2 (mL17 ns).1 [(5,⟨.bool,ba⟩),(6,⟨i64,(17:Int)⟩)]:=(if_neg o_).trans (if_neg o_);rw[es];have hmad:=hg ns;have hk17:=zuD hq16.1;have hoth:=zup ns;generalize mL17 ns=s at *;obtain⟨l,m5⟩:=s;refine zaa (zaa (zab zca ?_));refine zaa ?_;refine zae rfl (λhc=>absurd (show decide ((17:Int)<17)=true from hc) d_) (λhc=>?_);apply zan;refine zaa (zaa (zab zca ?_ (hp:=by repeat'(first|exact λh=>h|exact λh=>⟨h,h⟩|exact λh=>⟨h,h,h⟩|refine vI ?_ ?_))));refine za1 (Y':=sMb z m5 (fixD l) []) ?_ ?_
 .refine zae rfl (λhc=>?_) (λhc=>?_)
  .
   have h2:l.1=6/\l.2.2.2.2.2.2.2.2.2.2.1=3:=by
    cases x:(l.1==6)<;>rw[x]at hc
    .cases hc
    .exact⟨eq_of_beq x,eq_of_beq hc⟩
   have e:fixD l=sDay l 0:=if_pos h2;rw[e];refine zaa (zab zca ?_);exact⟨⟨rfl,rfl,rfl,t_⟩,⟨rfl,rfl,rfl,t_⟩,rfl,rfl⟩
  .
   have e:fixD l=l:=if_neg λ⟨a,b⟩=>by rw[a,b]at hc;cases hc
   rw[e];apply zaf;exact⟨⟨rfl,rfl,rfl,t_⟩,⟨rfl,rfl,rfl,t_⟩,rfl,rfl⟩
 have ho:0<=(fixD l).2.2.2.2.2.2.2.2.1/\(fixD l).2.2.2.2.2.2.2.2.1<=1000:=by unfold fixD;split<;>exact hoth
 generalize fixD l=l2 at *;have i9:∀o:Int,0<=o/\o<=1000->inR .i64 (o+1):=λo h=>zah o_ o_;have i8:=i9 _ ho;refine zaa (zaa (zab zca ?_ (hp:=by repeat'(first|exact λh=>h|exact λh=>⟨h,h⟩|exact λh=>⟨h,h,h⟩|refine vI ?_ ?_))));refine za1 (Y':=sMb z m5 (fixO l2) []) ?_ ?_
 .refine zae rfl (λhc=>?_) (λhc=>?_)
  .
   have h2:l2.1=5/\l2.2.2.2.2.2.2.2.2.1=l2.2.2.2.2.2.2.2.1:=by
    cases x:(l2.1==5)<;>rw[x]at hc
    .cases hc
    .exact⟨eq_of_beq x,eq_of_beq hc⟩
   have e:fixO l2=sOth l2 (l2.2.2.2.2.2.2.2.2.1+1):=if_pos h2;rw[e];refine zaa (zab zca ?_ (hp:=by exact i8));exact⟨⟨rfl,rfl,rfl,t_⟩,⟨rfl,rfl,rfl,t_⟩,rfl,rfl⟩
  .
   have e:fixO l2=l2:=if_neg λ⟨a,b⟩=>by
    rw[a,b]at hc;have hc:(l2.2.2.2.2.2.2.2.1==l2.2.2.2.2.2.2.2.1)=false:=hc;rw[beq_self_eq_true]at hc;cases hc
   rw[e];apply zaf;exact⟨⟨rfl,rfl,rfl,t_⟩,⟨rfl,rfl,rfl,t_⟩,rfl,rfl⟩
 have hL2:=hmad.symm;generalize fixO l2=L at *;refine zaa (zaa (zab zca ?_));exact zC ⟨.inr rfl,D1 (y:=L) hL2⟩
theorem zoh:yQ zf gmG 5 zwa:=zoi zkG λ_=>rfl
end
section
open Go
def le4(n:Nat):List UInt8:=[zM n,zM (n/256),zM (n/65536),zM (n/16777216)]
def zcv(b:List UInt8):Nat:=(b.getD 0 0).toNat+256*(b.getD 1 0).toNat+65536*(b.getD 2 0).toNat+16777216*(b.getD 3 0).toNat
def rcd(x:List UInt8):List UInt8:=le4 x.length++(sha x).take 8++x
def zaQ(b:List UInt8):Nat:=
 if b.length<12 then 0 else if b.length-12<zcv b then 0
 else if(b.drop 4).take 8=(sha ((b.drop 12).take (zcv b))).take 8 then 12+zcv b else 0
def zkA:Nat->List UInt8->List (List UInt8)×Nat
 |0,_=>([],0)
 |f+1,b=>if zaQ b=0 then([],0) else((b.drop 12).take (zaQ b-12)::(zkA f (b.drop (zaQ b))).1,zaQ b+(zkA f (b.drop (zaQ b))).2)
def recs(b:List UInt8):List (List UInt8)×Nat:=zkA b.length b
def cat(l:List (List UInt8)):List UInt8:=(l.map rcd).flatten
theorem zfK(n:Nat):(le4 n).length=4:=rfl
theorem zpU(b:List UInt8):zcv b<2^32:=by
 have h0:=(b.getD 0 0).toNat_lt;have h1:=(b.getD 1 0).toNat_lt;have h2:=(b.getD 2 0).toNat_lt;have h3:=(b.getD 3 0).toNat_lt;unfold zcv;omega
theorem zns(n:Nat)(t:List UInt8)(h:n<2^32):zcv (le4 n++t)=n:=by
 show(zM n).toNat+256*(zM (n/256)).toNat+65536*(zM (n/65536)).toNat+16777216*(zM (n/16777216)).toNat=n;simp only[jd];omega
theorem zoy{b:List UInt8}(h:4<=b.length):le4 (zcv b)=b.take 4:=by
 match b,h with
 |a::b::c::d::t,_=>
  show [zM (a.toNat+256*b.toNat+65536*c.toNat+16777216*d.toNat),zM ((a.toNat+256*b.toNat+65536*c.toNat+16777216*d.toNat)/256),
   zM ((a.toNat+256*b.toNat+65536*c.toNat+16777216*d.toNat)/65536),zM ((a.toNat+256*b.toNat+65536*c.toNat+16777216*d.toNat)/16777216)]=[a,b,c,d]
  have ha:=a.toNat_lt;have hb:=b.toNat_lt;have hc:=c.toNat_lt;have hd:=d.toNat_lt;have e:∀(n:Nat)(z:UInt8),n%256=z.toNat->zM n=z:=λn z h=>UInt8.toNat_inj.1 (by rw[jd];exact h);rw[e _ a o_,e _ b o_,e _ c o_,e _ d o_]
theorem zbK(x:List UInt8):(rcd x).length=12+x.length:=by
 simp only[rcd,zl,zfK,zP,zcN];omega
theorem zlN(x t:List UInt8)(h:x.length<2^32):zcv (rcd x++t)=x.length:=by
 unfold rcd;rw[zB,zB,zns _ _ h]
theorem zlO(x t:List UInt8):(rcd x++t).drop 12=x++t:=by
 have e:rcd x++t=(le4 x.length++(sha x).take 8)++(x++t):=by simp[rcd]
 rw[e,gm (by simp[zfK,zcN])]
theorem znT(x t:List UInt8):((rcd x++t).drop 4).take 8=(sha x).take 8:=by
 have e:rcd x++t=le4 x.length++((sha x).take 8++(x++t)):=by simp[rcd]
 rw[e,gm (zfK _),List.take_left' (by simp[zcN])]
theorem zoP(x t:List UInt8)(h:x.length<2^32):zaQ (rcd x++t)=12+x.length:=by
 have hl:(rcd x++t).length=12+x.length+t.length:=by rw[zl,zbK]
 unfold zaQ;rw[if_neg o_,zlN _ _ h,if_neg o_,if_pos];rw[znT,zlO,qQ]
theorem zh9{b:List UInt8}(h:zaQ b≠0):12<=zaQ b/\zaQ b<=b.length/\zaQ b=12+zcv b/\b.take (zaQ b)=rcd ((b.drop 12).take (zaQ b-12))/\((b.drop 12).take (zaQ b-12)).length=zaQ b-12:=by
 unfold zaQ at h ⊢;split at h
 .exact absurd rfl h
 .rename_i h1;split at h
  .exact absurd rfl h
  .rename_i h2;split at h
   .rename_i h3;rw[if_neg h1,if_neg h2,if_pos h3];have hl:((b.drop 12).take (zcv b)).length=zcv b:=by rw[zP,yY];omega
    refine⟨by omega,by omega,rfl,?_,?_⟩
    .rw[show 12+zcv b-12=zcv b by omega];unfold rcd;rw[hl, <-h3,zoy o_];rw[show 12+zcv b=4+(8+zcv b) by omega,kR,kR,jq,zB]
    .rw[show 12+zcv b-12=zcv b by omega];exact hl
   .exact absurd rfl h
theorem zd8:∀(f g:Nat)(b:List UInt8),b.length<=f->b.length<=g->zkA f b=zkA g b
 |0,0,_,_,_=>rfl
 |0,g+1,b,h,_=>by
  have:b=[]:=xC o_;subst this;rfl
 |f+1,0,b,_,h=>by
  have:b=[]:=xC o_;subst this;rfl
 |f+1,g+1,b,hf,hg=>by
  unfold zkA;by_cases h:zaQ b=0
  .rw[if_pos h,if_pos h]
  .have h1:=zh9 h;have hd:(b.drop (zaQ b)).length<=f/\(b.drop (zaQ b)).length<=g:=by rw[yY];omega
   rw[if_neg h,if_neg h,zd8 f g _ hd.1 hd.2]
theorem znQ(b:List UInt8):recs b=if zaQ b=0 then([],0) else((b.drop 12).take (zaQ b-12)::(recs (b.drop (zaQ b))).1,zaQ b+(recs (b.drop (zaQ b))).2):=by
 have e:recs b=zkA (b.length+1) b:=zd8 _ _ _ (zu _) (Nat.le_succ _);rw[e];show(if zaQ b=0 then([],0) else _)=_;by_cases h:zaQ b=0
 .rw[if_pos h,if_pos h]
 .rw[if_neg h,if_neg h];rw[zd8 b.length (b.drop (zaQ b)).length (b.drop (zaQ b)) (by rw[yY];omega) (zu _)];rfl
theorem ze7{b:List UInt8}(h:zaQ b=0):recs b=([],0):=by rw[znQ,if_pos h]
theorem zgK{b:List UInt8}(h:zaQ b≠0):recs b=((b.drop 12).take (zaQ b-12)::(recs (b.drop (zaQ b))).1,zaQ b+(recs (b.drop (zaQ b))).2):=by
 rw[znQ,if_neg h]
theorem zix:recs []=([],0):=ze7 rfl
def zmG(l:List (List UInt8)):Prop:=∀x∈l,x.length<2^32
theorem zez(x:List UInt8)(l:List (List UInt8)):cat (x::l)=rcd x++cat l:=rfl
theorem zfX(l m:List (List UInt8)):cat (l++m)=cat l++cat m:=by unfold cat;rw[List.map_append,qb]
theorem zto(x:List UInt8):cat [x]=rcd x:=by unfold cat;simp
theorem zlK(x t:List UInt8)(h:x.length<2^32):recs (rcd x++t)=(x::(recs t).1,(rcd x).length+(recs t).2):=by
 have e:=zoP x t h;have hd:(rcd x++t).drop (12+x.length)=t:=gm (zbK x);rw[zgK (by rw[e];omega),e,hd,zlO,zbK];rw[show 12+x.length-12=x.length by omega,qQ]
theorem zlM(l:List (List UInt8))(t:List UInt8)(h:zmG l):recs (cat l++t)=(l++(recs t).1,(cat l).length+(recs t).2):=by
 induction l with
 |nil=>simp[cat]
 |cons x l ih=>
  rw[zez,zB,zlK _ _ (h x (by simp)),ih λy hy=>h y (by simp[hy])];simp only[zl,List.cons_append]
  congr 1
  omega
theorem zmT(l:List (List UInt8))(h:zmG l):recs (cat l)=(l,(cat l).length):=by
 have:=zlM l [] h;rw[zix,yE,yE]at this;exact this
theorem zfF:∀(n:Nat)(b:List UInt8),b.length<=n->(recs b).2<=b.length/\b.take (recs b).2=cat (recs b).1/\zmG (recs b).1
 |0,b,hb=>by
  have:b=[]:=xC o_;subst this;rw[zix];exact⟨zu _,rfl,λx hx=>by cases hx⟩
 |n+1,b,hb=>by
  by_cases h:zaQ b=0
  .rw[ze7 h];exact⟨zk _,rfl,λx hx=>by cases hx⟩
  .obtain⟨h1,h2,h3,h4,h5⟩:=zh9 h;obtain⟨i1,i2,i3⟩:=zfF n (b.drop (zaQ b)) (by rw[yY];omega);rw[zgK h];refine⟨by rw[yY]at i1;simp only;omega,?_,?_⟩
   .simp only;rw[kR,i2,h4,zez]
   .intro x hx;rcases zE.1 hx with rfl|hx
    .have:=zpU b;omega
    .exact i3 x hx
theorem zkz(b:List UInt8):(recs b).2<=b.length:=(zfF _ b (zu _)).1
theorem znO(b:List UInt8):b.take (recs b).2=cat (recs b).1:=(zfF _ b (zu _)).2.1
theorem zlL(b:List UInt8):(cat (recs b).1).length=(recs b).2:=by
 rw[<-znO,zP];have:=zkz b;omega
theorem zkZ(x:List UInt8)(m:Nat)(hm:m<(rcd x).length)(h:x.length<2^32):zaQ ((rcd x).take m)=0:=by
 rw[zbK]at hm;have hl:((rcd x).take m).length=m:=by rw[zP,zbK];omega
 unfold zaQ;by_cases h1:m<12
 .rw[if_pos o_]
 .rw[if_neg o_,if_pos];have e:zcv ((rcd x).take m)=x.length:=by
   have e1:∀k,k<4->((rcd x).take m).getD k 0=(rcd x).getD k 0:=λk hk=>by
    rw[zH,zH,List.getElem?_take,if_pos o_]
   have e2:=zlN x [] h;rw[yE]at e2;unfold zcv at e2 ⊢;rw[e1 0 o_,e1 1 o_,e1 2 o_,e1 3 o_];exact e2
  rw[e,hl];omega
theorem znP(l:List (List UInt8))(h:zmG l)(m:Nat):(recs ((cat l).take m)).1 <+:l:=by
 induction l generalizing m with
 |nil=>rw[show(cat []).take m=[] from by simp[cat],zix];exact List.prefix_refl _
 |cons x l ih=>
  rw[zez];by_cases hm:m<(rcd x).length
  .rw[vv o_,ze7 (zkZ x m hm (h x (by simp)))];exact List.nil_prefix
  .rw[List.take_append,qS o_,zlK _ _ (h x (by simp))];exact List.cons_prefix_cons.2 ⟨rfl,ih (λy hy=>h y (by simp[hy])) _⟩
end
abbrev Lg:Type:=List UInt8×Int×Unit
abbrev JTr:Type:=Int×Int×UInt8×Unit
def zLog:Lg:=([],0,())
def zbi(l:Lg):Bool:=bif (bif decide ((0:Int)<=l.2.1) then decide (l.2.1<=(l.1.length:Nat)) else false) then decide ((l.1.length:Int)<=1048576) else false
theorem zcM{l:Lg}:zbi l=true↔(0<=l.2.1/\l.2.1<=(l.1.length:Nat))/\(l.1.length:Int)<=1048576:=by
 unfold zbi;cases h1:decide ((0:Int)<=l.2.1)<;>cases h2:decide (l.2.1<=(l.1.length:Nat))<;>cases h3:decide ((l.1.length:Int)<=1048576)<;>simp_all
def zcB(l:Lg)(b:List UInt8):Lg×Int×Unit:=
 if zbi l=true then(if(recs l.1).2<l.1.length then(zLog,10,()) else if 1048576<l.1.length+12+b.length then(zLog,2,()) else((l.1++rcd b,l.2.1,()),0,())) else(zLog,1,())
def zjl(l:Lg):Lg×Int×Unit:=if zbi l=true then((l.1,(l.1.length:Int),()),0,()) else(zLog,1,())
def zdF(l:Lg):List (List UInt8)×Int×Int×Unit:=if zbi l=true then((recs l.1).1,((recs l.1).2:Int),0,()) else([],0,1,())
def torn(r:List UInt8)(t:JTr):List UInt8:=
 if 0<=t.2.1/\t.2.1<((r.take t.1.toNat).length:Nat) then(r.take t.1.toNat).set t.2.1.toNat t.2.2.1 else r.take t.1.toNat
def zfs(l:Lg)(t:JTr):Lg×Int×Unit:=
 if zbi l=true/\0<=t.1 then((l.1.take l.2.1.toNat++torn (l.1.drop l.2.1.toNat) t,l.2.1,()),0,()) else(zLog,1,())
theorem jI64{x y:Int}(h:x=y):(⟨i64,x⟩:V)=⟨i64,y⟩:=by rw[h]
theorem vBs{x y:List UInt8}(h:x=y):(⟨bs,x⟩:V)=⟨bs,y⟩:=by rw[h]
def zrK:Ctr:={ args:=[jl],pre:=λ_=>[],res:=.bool,own:=none,out:=λx=>zbi x.1 }
theorem zoG:yQ zf dG 28 zrK:=by
 refine ctr2 zam Tryz.func28 Tryz.call28 ?_;rintro w0 X hX ⟨l,_⟩ hp
 iterate 2 (refine zaa (zaa (zab zam ?_)))
 refine zC ⟨.inr rfl,D1 ?_⟩;rfl
def cEq:Ctr:={ args:=[bs,bs],pre:=λ_=>[],res:=.bool,own:=none,out:=λx=>decide (x.1=x.2.1) }
theorem zqG:yQ zf dG 39 cEq:=by
 refine ctr2 zam Tryz.func39 Tryz.call39 ?_;rintro w0 X hX ⟨x,y,_⟩ hp;(repeat refine zaa (zaa (zab zam ?_)));refine zaa ?_;refine zC ⟨.inr rfl,D1 ?_⟩;exact zia
def zvj:Ctr:={ args:=[.slice bs],pre:=λx=>[(xP x.1).length<=100000000],res:=bs,own:=some 5,out:=λx=>xP x.1 }
def zrQ:Ctr:={ args:=[.slice bs],pre:=λx=>[(xP x.1).length<=100000000],res:=bs,own:=none,out:=λx=>xP x.1 }
theorem zfl(l:List (List UInt8))(k:Nat)(h:k<l.length):(l.take (k+1)).flatten=(l.take k).flatten++l.getD k []:=by
 rw[zN h,qb,zH,zR h];simp
theorem ziQ(l:List (List UInt8))(k:Nat):(l.take k).flatten.length<=l.flatten.length:=by
 have:l.flatten=(l.take k).flatten++(l.drop k).flatten:=by rw[<-qb,qx]
 rw[this,zl];omega
theorem zs2:yQ zf dG 30 zvj:=by
 refine ctr2 zam Tryz.func30 Tryz.call30 ?_;rintro w0 X hX ⟨(l:List (List UInt8)),_⟩ hp;change AWP _ _ _ _ _ ⟨[(0,⟨.slice bs,l⟩)],[],0⟩ _;have hp:l.flatten.length<=100000000:=hp;refine AWP.len 0 rfl λhl=>?_;unfold maxLen at hl;(repeat refine zaa (zaa (zab zam ?_)));refine zaa ?_;refine yK (ι:=Nat) (λk=>⟨[(0,⟨.slice bs,l⟩),(3,⟨i64,(((l.take k).flatten.length:Nat):Int)⟩),(9,⟨.slice bs,l⟩),(10,⟨i64,((l.length:Nat):Int)⟩),(11,⟨i64,(k:Int)⟩)],[],0⟩) (λk=>k<=l.length) (λk=>l.length-k) 0 o_ ⟨⟨rfl,rfl,rfl,rfl,rfl,t_⟩,t_,rfl,rfl⟩ ?_;intro k hk;refine zaa (zaa (zab zam ?_));apply zap;refine zaN rfl (λhb=>?_) (λhb=>?_)
 .have hb:(k:Int)<(l.length:Nat):=hb;have x1:k<l.length:=o_;have hf:=zfl l k x1;have x0:=ziQ l (k+1);rw[hf,zl]at x0;refine zaa (zaa (zab zam ?_));refine zak (Y':=⟨[(0,⟨.slice bs,l⟩),(3,⟨i64,(((l.take k).flatten.length:Nat):Int)⟩),(5,⟨bs,l.getD k []⟩),(9,⟨.slice bs,l⟩),(10,⟨i64,((l.length:Nat):Int)⟩),(11,⟨i64,(k:Int)⟩)],[],0⟩) ⟨⟨rfl,rfl,vBs (by rw[<-zS k];rfl),rfl,rfl,rfl,t_⟩,t_,rfl,rfl⟩ ?_;refine zaa (zaa ?_);refine zac hX zam rfl ?_ ?_
  .exact zah (by show _<=(((l.take k).flatten.length:Nat):Int)+((l.getD k []).length:Nat);omega) (by show(((l.take k).flatten.length:Nat):Int)+((l.getD k []).length:Nat)<=_;omega)
  refine zaa (zaa ?_);refine zac hX zam rfl ?_ ?_
  .exact zaP o_
  exact⟨k+1,by omega,by omega,⟨rfl,jI64 (by rw[hf,zl];show(((l.take k).flatten.length:Nat):Int)+((l.getD k []).length:Nat)=_;omega),rfl,rfl,zce _,t_⟩,t_,rfl,rfl⟩
 have hb:¬((k:Int)<(l.length:Nat)):=hb;have:k=l.length:=o_;subst this;rw[yX];refine zaa (zaa ?_);refine zac hX zam rfl ?_ ?_
 .exact⟨qs _,by show(0:Int)<=((l.flatten.length:Nat):Int);omega,by show((l.flatten.length:Nat):Int)<=1000000000;omega⟩
 (repeat refine zaa (zaa (zab zam ?_)));refine zaa ?_;refine yK (ι:=Nat) (λk=>⟨[(0,⟨.slice bs,l⟩),(6,⟨.obuf u8,(0:Nat)⟩),(22,⟨.slice bs,l⟩),(23,⟨i64,((l.length:Nat):Int)⟩),(24,⟨i64,(k:Int)⟩)],[(0,some (.buf 5 u8 (l.take k).flatten))],1⟩) (λk=>k<=l.length) (λk=>l.length-k) 0 o_ ⟨⟨rfl,rfl,rfl,rfl,rfl,t_⟩,⟨rfl,t_⟩,rfl,rfl⟩ ?_;intro k hk;refine zaa (zaa (zab zam ?_));apply zap;refine zaN rfl (λhb=>?_) (λhb=>?_)
 .have hb:(k:Int)<(l.length:Nat):=hb;have x1:k<l.length:=o_;have hf:=zfl l k x1;have x0:=ziQ l (k+1);rw[hf,zl]at x0;refine zaa (zaa (zab zam ?_));refine zak (Y':=⟨[(0,⟨.slice bs,l⟩),(6,⟨.obuf u8,(0:Nat)⟩),(8,⟨bs,l.getD k []⟩),(22,⟨.slice bs,l⟩),(23,⟨i64,((l.length:Nat):Int)⟩),(24,⟨i64,(k:Int)⟩)],[(0,some (.buf 5 u8 (l.take k).flatten))],1⟩) ⟨⟨rfl,rfl,vBs (by rw[<-zS k];rfl),rfl,rfl,rfl,t_⟩,⟨rfl,t_⟩,rfl,rfl⟩ ?_;refine zaa (zaa ?_);refine zac hX zam rfl ?_ ?_
  .show(l.take k).flatten.length+(l.getD k []).length<=1000000000;omega
  refine zaa (zaa ?_);refine zac hX zam rfl ?_ ?_
  .exact zaP o_
  exact⟨k+1,by omega,by omega,⟨rfl,rfl,rfl,rfl,zce _,t_⟩,⟨zbp hf.symm,t_⟩,rfl,rfl⟩
 .
  have:k=l.length:=o_;subst this;rw[yX];(repeat refine zaa (zaa (zab zam ?_)));refine zaa ?_;exact zC ⟨.inr rfl,zuX rfl rfl rfl⟩
theorem zqy:yQ zf dG 30 zrQ:=by
 refine ctr2 zam Tryz.func30 Tryz.call30 ?_;rintro w0 X hX ⟨(l:List (List UInt8)),_⟩ hp;change AWP _ _ _ _ _ ⟨[(0,⟨.slice bs,l⟩)],[],0⟩ _;have hp:l.flatten.length<=100000000:=hp;refine AWP.len 0 rfl λhl=>?_;unfold maxLen at hl;(repeat refine zaa (zaa (zab zam ?_)));refine zaa ?_;refine yK (ι:=Nat) (λk=>⟨[(0,⟨.slice bs,l⟩),(3,⟨i64,(((l.take k).flatten.length:Nat):Int)⟩),(9,⟨.slice bs,l⟩),(10,⟨i64,((l.length:Nat):Int)⟩),(11,⟨i64,(k:Int)⟩)],[],0⟩) (λk=>k<=l.length) (λk=>l.length-k) 0 o_ ⟨⟨rfl,rfl,rfl,rfl,rfl,t_⟩,t_,rfl,rfl⟩ ?_;intro k hk;refine zaa (zaa (zab zam ?_));apply zap;refine zaN rfl (λhb=>?_) (λhb=>?_)
 .have hb:(k:Int)<(l.length:Nat):=hb;have x1:k<l.length:=o_;have hf:=zfl l k x1;have x0:=ziQ l (k+1);rw[hf,zl]at x0;refine zaa (zaa (zab zam ?_));refine zak (Y':=⟨[(0,⟨.slice bs,l⟩),(3,⟨i64,(((l.take k).flatten.length:Nat):Int)⟩),(5,⟨bs,l.getD k []⟩),(9,⟨.slice bs,l⟩),(10,⟨i64,((l.length:Nat):Int)⟩),(11,⟨i64,(k:Int)⟩)],[],0⟩) ⟨⟨rfl,rfl,vBs (by rw[<-zS k];rfl),rfl,rfl,rfl,t_⟩,t_,rfl,rfl⟩ ?_;refine zaa (zaa ?_);refine zac hX zam rfl ?_ ?_
  .exact zah (by show _<=(((l.take k).flatten.length:Nat):Int)+((l.getD k []).length:Nat);omega) (by show(((l.take k).flatten.length:Nat):Int)+((l.getD k []).length:Nat)<=_;omega)
  refine zaa (zaa ?_);refine zac hX zam rfl ?_ ?_
  .exact zaP o_
  exact⟨k+1,by omega,by omega,⟨rfl,jI64 (by rw[hf,zl];show(((l.take k).flatten.length:Nat):Int)+((l.getD k []).length:Nat)=_;omega),rfl,rfl,zce _,t_⟩,t_,rfl,rfl⟩
 have hb:¬((k:Int)<(l.length:Nat)):=hb;have:k=l.length:=o_;subst this;rw[yX];refine zaa (zaa ?_);refine zac hX zam rfl ?_ ?_
 .exact⟨qs _,by show(0:Int)<=((l.flatten.length:Nat):Int);omega,by show((l.flatten.length:Nat):Int)<=1000000000;omega⟩
 (repeat refine zaa (zaa (zab zam ?_)));refine zaa ?_;refine yK (ι:=Nat) (λk=>⟨[(0,⟨.slice bs,l⟩),(6,⟨.obuf u8,(0:Nat)⟩),(22,⟨.slice bs,l⟩),(23,⟨i64,((l.length:Nat):Int)⟩),(24,⟨i64,(k:Int)⟩)],[(0,some (.buf 5 u8 (l.take k).flatten))],1⟩) (λk=>k<=l.length) (λk=>l.length-k) 0 o_ ⟨⟨rfl,rfl,rfl,rfl,rfl,t_⟩,⟨rfl,t_⟩,rfl,rfl⟩ ?_;intro k hk;refine zaa (zaa (zab zam ?_));apply zap;refine zaN rfl (λhb=>?_) (λhb=>?_)
 .have hb:(k:Int)<(l.length:Nat):=hb;have x1:k<l.length:=o_;have hf:=zfl l k x1;have x0:=ziQ l (k+1);rw[hf,zl]at x0;refine zaa (zaa (zab zam ?_));refine zak (Y':=⟨[(0,⟨.slice bs,l⟩),(6,⟨.obuf u8,(0:Nat)⟩),(8,⟨bs,l.getD k []⟩),(22,⟨.slice bs,l⟩),(23,⟨i64,((l.length:Nat):Int)⟩),(24,⟨i64,(k:Int)⟩)],[(0,some (.buf 5 u8 (l.take k).flatten))],1⟩) ⟨⟨rfl,rfl,vBs (by rw[<-zS k];rfl),rfl,rfl,rfl,t_⟩,⟨rfl,t_⟩,rfl,rfl⟩ ?_;refine zaa (zaa ?_);refine zac hX zam rfl ?_ ?_
  .show(l.take k).flatten.length+(l.getD k []).length<=1000000000;omega
  refine zaa (zaa ?_);refine zac hX zam rfl ?_ ?_
  .exact zaP o_
  exact⟨k+1,by omega,by omega,⟨rfl,rfl,rfl,rfl,zce _,t_⟩,⟨zbp hf.symm,t_⟩,rfl,rfl⟩
 .
  have:k=l.length:=o_;subst this;rw[yX];(repeat refine zaa (zaa (zab zam ?_)));refine zaa ?_;exact zC ⟨.inr rfl,D1 rfl⟩
def szr(b:List UInt8):Nat->Nat
 |0=>0
 |k+1=>szr b k*256+(b.getD (3-k) 0).toNat
theorem zua(b:List UInt8)(k:Nat):szr b k<256^k:=by
 induction k with
 |zero=>exact Nat.one_pos
 |succ k ih=>
  have:=(b.getD (3-k) 0).toNat_lt;show szr b k*256+(b.getD (3-k) 0).toNat<256^k*256;omega
theorem zpS(b:List UInt8):szr b 4=zcv b:=by
 show(((0*256+(b.getD 3 0).toNat)*256+(b.getD 2 0).toNat)*256+(b.getD 1 0).toNat)*256+(b.getD 0 0).toNat=_;unfold zcv;omega
def zu9:Ctr:={ args:=[bs],pre:=λx=>[4<=zp x.1],res:=i64,own:=none,out:=λx=>(zcv x.1:Int) }
theorem zso:yQ zf dG 63 zu9:=by
 refine ctr2 zam Tryz.func63 Tryz.call63 ?_;rintro w0 X hX ⟨(b:List UInt8),_⟩ hp;change AWP _ _ _ _ _ ⟨[(0,⟨bs,b⟩)],[],0⟩ _;have hp:4<=b.length:=hp;(repeat refine zaa (zaa (zab zam ?_)));refine zaa ?_;refine yK (ι:=Nat) (λk=>⟨[(0,⟨bs,b⟩),(3,⟨i64,((szr b k:Nat):Int)⟩),(4,⟨i64,3-(k:Int)⟩)],[],0⟩) (λk=>k<=4) (λk=>4-k) 0 o_ ⟨⟨rfl,rfl,jI64 (by show(3:Int)=3-((0:Nat):Int);omega),t_⟩,t_,rfl,rfl⟩ ?_;intro k hk;have hs:=zua b k;refine zaa (zaa (zab zam ?_));refine zaN rfl (λhb=>?_) (λhb=>?_)
 .have hb:(0:Int)<=3-(k:Int):=hb;have hk3:k<=3:=o_;have hpow:256^k<=256^3:=Nat.pow_le_pow_right o_ hk3;have hpow:256^k<=16777216:=hpow;have hg:=(b.getD (3-k) 0).toNat_lt;have hto:(3-(k:Int)).toNat=3-k:=o_;have e1:((szr b k:Nat):Int)*2^(8:Int).toNat=((szr b k*256:Nat):Int):=by
   show((szr b k:Nat):Int)*256=_;omega
  refine zaa (zaa ?_);refine zac hX zam rfl ?_ ?_
  .show allP [(0:Int)<=8,(8:Int)<=63,inR .i64 (((szr b k:Nat):Int)*2^(8:Int).toNat),0<=3-(k:Int),3-(k:Int)<((b.length:Nat):Int),0<=((szr b k:Nat):Int)*2^(8:Int).toNat,0<=(((b.getD (3-(k:Int)).toNat 0).toNat:Nat):Int),(((szr b k:Nat):Int)*2^(8:Int).toNat).toNat<2^63,(((b.getD (3-(k:Int)).toNat 0).toNat:Nat):Int).toNat<2^63];rw[e1,hto];exact⟨by omega,by omega,zah o_ o_,by omega,by omega,by omega,by omega,by omega,(by omega:(((b.getD (3-k) 0).toNat:Nat):Int).toNat<2^63)⟩
  refine zaa (zaa ?_);refine zac hX zam rfl ?_ ?_
  .exact zah (by show _<=3-(k:Int)-1;omega) (by show 3-(k:Int)-1<=_;omega)
  refine⟨k+1,by omega,by omega,⟨rfl,jI64 ?_,jI64 (by show 3-(k:Int)-1=3-((k+1:Nat):Int);omega),t_⟩,t_,rfl,rfl⟩;show(((((szr b k:Nat):Int)*2^(8:Int).toNat).toNat|||(((b.getD (3-(k:Int)).toNat 0).toNat:Nat):Int).toNat:Nat):Int)=((szr b k*256+(b.getD (3-k) 0).toNat:Nat):Int);rw[e1,hto,zS,zS]
  congr 1
  have:=Nat.shiftLeft_add_eq_or_of_lt (show(b.getD (3-k) 0).toNat<2^8 by omega) (szr b k);rw[Nat.shiftLeft_eq]at this;exact this.symm
 .have hb:¬((0:Int)<=3-(k:Int)):=hb;have:k=4:=o_;subst this;(repeat refine zaa (zaa (zab zam ?_)));refine zaa ?_;refine zC ⟨.inr rfl,D1 ?_⟩;show((szr b 4:Nat):Int)=((zcv b:Nat):Int);rw[zpS]
def zph:Ctr:={ args:=[bs],pre:=λx=>[zp x.1<=2000000],res:=bs,own:=none,out:=λx=>(sha x.1).take 8 }
def kP1:Kn:={ dK with C:=[(64,cSum)] }
theorem zoC:KnOk zf dG kP1:=zam.with (.cons zub .nil)
theorem zmu:yQ zf dG 31 zph:=by
 refine ctr2 zoC Tryz.func31 Tryz.call31 ?_;rintro w0 X hX ⟨b,_⟩ hp
 iterate 2 (refine zaa (zaa (zab zoC ?_)))
 refine AWP.frzB hX 3 ?_;refine zaa (zaa (zac hX zoC rfl ?_ ?_))
 .refine⟨by show(0:Int)<=8;omega,?_⟩;show(8:Int)<=((sha b).length:Nat);rw[zcN];decide
 exact zC ⟨.inr rfl,D1 rfl⟩
def kP2:Kn:={ dK with C:=[(63,zu9),(31,zph),(39,cEq)] }
theorem zcq:KnOk zf dG kP2:=zam.with (.cons zso<|.cons zmu<|.cons zqG .nil)
theorem zrJ(b:List UInt8)(a i j:Nat):(b.take (a+j)).drop (a+i)=((b.drop a).drop i).take (j-i):=by
 rw[List.drop_take,jq]
 congr 1
 omega
def zvd:Ctr:={ args:=[bs],pre:=λx=>[zp x.1<=1100000],res:=.tup (.slice bs) (.tup i64 .unit),own:=none,out:=λx=>((recs x.1).1,((recs x.1).2:Int),()) }
theorem zsF:yQ zf dG 29 zvd:=by
 refine zcm (K:=kP2) zcq Tryz.func29 rfl rfl Tryz.call29 rfl d_ (by intro h;cases h) ?_;rintro w0 X hX ⟨(b:List UInt8),_⟩ hp;change AWP _ _ _ _ _ ⟨[(0,⟨bs,b⟩)],[],0⟩ _;have hp:b.length<=1100000:=hp;apply zap;refine zac hX zcq rfl t_ ?_;refine AWP.scope ?_;(repeat(first|apply zap|apply zaf|apply zaH|apply zan|apply zaq|refine zac hX zcq rfl t_ ?_|refine zac hX zcq rfl id ?_|refine zac hX zcq rfl ⟨id,id⟩ ?_));refine zeB hX 4 25 bs rfl rfl rfl ?_;(repeat(first|apply zap|apply zaf|apply zaH|apply zan|apply zaq|refine zac hX zcq rfl t_ ?_|refine zac hX zcq rfl id ?_|refine zac hX zcq rfl ⟨id,id⟩ ?_));refine yK (ι:=Nat×List (List UInt8)) (λi=>⟨[(0,⟨bs,b⟩),(4,⟨.obuf bs,(0:Nat)⟩),(5,⟨i64,(i.1:Int)⟩)],[(0,some (.buf 25 bs i.2))],1⟩)
  (λi=>i.1<=b.length/\i.2.length<=i.1/\recs b=(i.2++(recs (b.drop i.1)).1,i.1+(recs (b.drop i.1)).2)) (λi=>b.length-i.1) (0,[]) ⟨zk _,zu _,by simp⟩ ⟨⟨rfl,rfl,rfl,t_⟩,⟨rfl,t_⟩,rfl,rfl⟩ ?_
 rintro ⟨at_,out⟩ ⟨x6,x5,x2⟩;simp only at x6 x5 x2;have x8:(b.drop at_).length=b.length-at_:=yY;have x1:zaQ (b.drop at_)=0->recs b=(out,at_):=λhz=>by rw[x2,ze7 hz,yE,Nat.add_zero]
 have d0:inR .i64 (((b.length:Nat):Int)-(at_:Int)):=zah o_ o_;refine zaa (zaa (zab zcq ?_));refine zaN rfl (λhb=>?_) (λhb=>?_)
 .have hb:((b.length:Nat):Int)-(at_:Int)>=12:=hb;have x7:12<=(b.drop at_).length:=o_;refine zaa (zaa ?_);refine zac hX zcq rfl ?_ ?_
  .refine⟨by omega,by show(at_:Int)<=((b.length:Nat):Int);omega,?_⟩;show 4<=(b.drop (at_:Int).toNat).length;rw[zS];omega
  obtain⟨n,hn⟩:∃n,zcv (b.drop at_)=n:=⟨_,rfl⟩;refine zak (Y':=⟨[(0,⟨bs,b⟩),(4,⟨.obuf bs,(0:Nat)⟩),(5,⟨i64,(at_:Int)⟩),(6,⟨i64,(n:Int)⟩)],[(0,some (.buf 25 bs out))],1⟩) ⟨⟨rfl,rfl,rfl,jI64 (by rw[<-hn];exact congrArg (λm:Nat=>(zcv (b.drop m):Int)) (zS at_)),t_⟩,⟨rfl,t_⟩,rfl,rfl⟩ ?_;have d1:inR .i64 ((at_:Int)+12):=zah o_ o_;have d2:inR .i64 (((b.length:Nat):Int)-((at_:Int)+12)):=zah o_ o_
  iterate 2 (refine zaa (zaa (zab zcq ?_)))
  refine zae rfl (λhb=>?_) (λhb=>?_)
  .have hb:decide ((n:Int)>((b.length:Nat):Int)-((at_:Int)+12))=true:=hb;have hb:=of_decide_eq_true hb;have hz:zaQ (b.drop at_)=0:=by
    unfold zaQ;rw[if_neg o_,hn,if_pos o_]
   refine zaa (zaa (zab zcq ?_));refine zC ⟨.inr rfl,D2 ?_⟩;show(out,(at_:Int),())=((recs b).1,((recs b).2:Int),());rw[x1 hz]
  have hb:decide ((n:Int)>((b.length:Nat):Int)-((at_:Int)+12))=false:=hb;have xa:=of_decide_eq_false hb;have d3:inR .i64 ((at_:Int)+4):=zah o_ o_;have d4:inR .i64 ((at_:Int)+12+(n:Int)):=zah o_ o_;have d5:=o_;have d6:=o_;have d7:=o_;have d8:(0:Int)<=(at_:Int)+12:=o_;have d9:(at_:Int)+12<=(at_:Int)+12+(n:Int):=o_;have x4:(at_:Int)+12+(n:Int)<=((b.length:Nat):Int):=o_;have c1:vV ((at_:Int)+4).toNat (jK ((at_:Int)+12).toNat b)=((b.drop at_).drop 4).take 8:=by
   rw[show((at_:Int)+4).toNat=at_+4 by omega,show((at_:Int)+12).toNat=at_+12 by omega];exact zrJ b at_ 4 12
  have c2:vV ((at_:Int)+12).toNat (jK ((at_:Int)+12+(n:Int)).toNat b)=((b.drop at_).drop 12).take n:=by
   rw[show((at_:Int)+12).toNat=at_+12 by omega,show((at_:Int)+12+(n:Int)).toNat=at_+(12+n) by omega,zrJ b at_ 12 (12+n)]
   congr 1
   omega
  have x9:(vV ((at_:Int)+12).toNat (jK ((at_:Int)+12+(n:Int)).toNat b)).length<=2000000:=by
   rw[c2,zP,yY];omega
  have x0:zaQ (b.drop at_)=if((b.drop at_).drop 4).take 8=(sha (((b.drop at_).drop 12).take n)).take 8 then 12+n else 0:=by
   unfold zaQ;rw[if_neg o_,hn,if_neg o_]
  refine zaa (zaa (zbF dM hX zcq 15 (by kernel_rfl) rfl rfl ?_ ?_ ?_))
  .exact z_
  .trivial
  refine zae rfl (λhb=>?_) (λhb=>?_)
  .have x3:(!decide (vV ((at_:Int)+4).toNat (jK ((at_:Int)+12).toNat b)=(sha (vV ((at_:Int)+12).toNat (jK ((at_:Int)+12+(n:Int)).toNat b))).take 8))=true:=hb;rw[c1,c2]at x3;have hz:zaQ (b.drop at_)=0:=by
    rw[x0,if_neg]
    simpa using x3
   refine zaa (zaa (zab zcq ?_));refine zC ⟨.inr rfl,D2 ?_⟩;show(out,(at_:Int),())=((recs b).1,((recs b).2:Int),());rw[x1 hz]
  have x3:(!decide (vV ((at_:Int)+4).toNat (jK ((at_:Int)+12).toNat b)=(sha (vV ((at_:Int)+12).toNat (jK ((at_:Int)+12+(n:Int)).toNat b))).take 8))=false:=hb;rw[c1,c2]at x3;have hz:zaQ (b.drop at_)=12+n:=by
   rw[x0,if_pos]
   simpa using x3
  have hs:recs (b.drop at_)=(((b.drop at_).drop 12).take n::(recs (b.drop (at_+(12+n)))).1,12+n+(recs (b.drop (at_+(12+n)))).2):=by
   have:=zgK (b:=b.drop at_) o_;rw[hz,show(b.drop at_).drop (12+n)=b.drop (at_+(12+n)) from jq ..,show 12+n-12=n by omega]at this;exact this
  rw[hs]at x2;clear x1 hs x0;refine zaa (zaa ?_);refine zac hX zcq rfl ?_ ?_
  .exact⟨d4,d8,d9,x4,by show out.length+1<=1000000000;omega⟩
  refine zaa (zaa (zab zcq ?_));refine⟨(at_+(12+n),out++[((b.drop at_).drop 12).take n]),⟨by show at_+(12+n)<=b.length;omega,by rw[zl,qy];show out.length+1<=at_+(12+n);omega,?_⟩,by show b.length-(at_+(12+n))<b.length-at_;omega,⟨rfl,rfl,jI64 (by show(at_:Int)+12+(n:Int)=((at_+(12+n):Nat):Int);omega),t_⟩,⟨zbp (by show out++[_]=out++[_];rw[c2]),t_⟩,rfl,rfl⟩;rw[x2];simp only[zB,List.singleton_append,Nat.add_assoc]
 .
  have hz:zaQ (b.drop at_)=0:=by
   unfold zaQ;rw[if_pos o_]
  refine zaa (zaa (zab zcq ?_));refine zC ⟨.inr rfl,D2 ?_⟩;show(out,(at_:Int),())=((recs b).1,((recs b).2:Int),());rw[x1 hz]
def zmw(m:Nat):Ctr:={ args:=[jl,bs],pre:=λx=>[zp x.1.1<=m,zp x.2.1<=m],res:=.tup jl (.tup i64 .unit),own:=none,out:=λx=>zcB x.1 x.2.1 }
def kJ:Kn:={ dK with C:=[(28,zrK),(29,zvd),(30,zrQ),(31,zph)] }
theorem zcb:KnOk zf dG kJ:=zam.with (.cons zoG<|.cons zsF<|.cons zqy<|.cons zmu .nil)
def kJo:Kn:={ dK with C:=[(30,zvj)] }
theorem zuN:KnOk zf dG kJo:=zam.with (.cons zs2 .nil)
def kCut:Kn:={ dK with cut:=true }
theorem zs1:KnOk zf dG kCut:=⟨zam.t,zam.u,zam.c,zam.st,zam.r⟩
theorem zqt(m:Nat)(h:m<2^32):([zM (zV 32 (m:Int)).toNat,zM (zV 32 (m:Int) >>> 8).toNat,zM (zV 32 (m:Int) >>> 16).toNat,zM (zV 32 (m:Int) >>> 24).toNat]:List UInt8)=le4 m:=by
 have e:(zV 32 (m:Int)).toNat=m:=by rw[BitVec.ofInt_natCast,BitVec.toNat_ofNat,Nat.mod_eq_of_lt h]
 rw[jB,jB,jB,e,jb,jb,jb];rfl
theorem zpr:yQ zf dG 7 (zmw 1100000):=by
 refine ctr2 zcb Tryz.func7 Tryz.call7 ?_;rintro w0 X hX ⟨(l:Lg),(b:List UInt8),_⟩ hp;obtain⟨p1,p2⟩:l.1.length<=1100000/\b.length<=1100000:=hp
 iterate 2 (refine zaa (zaa (zab zcb ?_)))
 refine zae rfl (λhb=>?_) (λhb=>?_)
 .have hb:(!zbi l)=true:=hb;have hv:¬zbi l=true:=by simpa using hb
  (repeat refine zaa (zaa (zab zcb ?_)));refine zaa ?_;refine zC ⟨.inr rfl,D2 ?_⟩;show(zLog,(1:Int),())=zcB l b;unfold zcB;rw[if_neg hv]
 have hb:(!zbi l)=false:=hb;have hv:zbi l=true:=by simpa using hb
 iterate 2 (refine zaa (zaa (zab zcb ?_)))
 refine zae rfl (λhb=>?_) (λhb=>?_)
 .have hb:decide (((recs l.1).2:Int)<(l.1.length:Nat))=true:=hb;have hb:=of_decide_eq_true hb;(repeat refine zaa (zaa (zab zcb ?_)));refine zaa ?_;refine zC ⟨.inr rfl,D2 ?_⟩;show(zLog,(10:Int),())=zcB l b;unfold zcB;rw[if_pos hv,if_pos o_]
 have hb:decide (((recs l.1).2:Int)<(l.1.length:Nat))=false:=hb;have x0:=of_decide_eq_false hb;refine zaa (zaa ?_);refine zac hX zcb rfl ?_ ?_
 .exact⟨zah (by show _<=((l.1.length:Nat):Int)+12;omega) (by show((l.1.length:Nat):Int)+12<=_;omega),zah (by show _<=((l.1.length:Nat):Int)+12+(b.length:Nat);omega) (by show((l.1.length:Nat):Int)+12+(b.length:Nat)<=_;omega)⟩
 refine zae rfl (λhb=>?_) (λhb=>?_)
 .have hb:decide (((l.1.length:Nat):Int)+12+(b.length:Nat)>1048576)=true:=hb;have hb:=of_decide_eq_true hb;(repeat refine zaa (zaa (zab zcb ?_)));refine zaa ?_;refine zC ⟨.inr rfl,D2 ?_⟩;show(zLog,(2:Int),())=zcB l b;unfold zcB;rw[if_pos hv,if_neg o_,if_pos o_]
 have hb:decide (((l.1.length:Nat):Int)+12+(b.length:Nat)>1048576)=false:=hb;have x1:=of_decide_eq_false hb;refine zaa (zaa (zab zcb ?_));have q1:b.length<=2000000:=o_;have hw:=zqt b.length o_;have hs:=zcN b;have e:xP [l.1,([zM (zV 32 (b.length:Int)).toNat,zM (zV 32 (b.length:Int) >>> 8).toNat,zM (zV 32 (b.length:Int) >>> 16).toNat,zM (zV 32 (b.length:Int) >>> 24).toNat]:List UInt8),(sha b).take 8,b]=l.1++rcd b:=by
  rw[hw];simp[rcd]
 have q2:(xP [l.1,([zM (zV 32 (b.length:Int)).toNat,zM (zV 32 (b.length:Int) >>> 8).toNat,zM (zV 32 (b.length:Int) >>> 16).toNat,zM (zV 32 (b.length:Int) >>> 24).toNat]:List UInt8),(sha b).take 8,b]).length<=100000000:=by
  rw[e,zl,zbK];omega
 refine zaa (zaa (zbF dM hX zcb 22 (by kernel_rfl) rfl rfl ?_ ?_ ?_))
 .exact z_
 .trivial
 refine zC ⟨.inr rfl,D2 ?_⟩;show((xP [l.1,([zM (zV 32 (b.length:Int)).toNat,zM (zV 32 (b.length:Int) >>> 8).toNat,zM (zV 32 (b.length:Int) >>> 16).toNat,zM (zV 32 (b.length:Int) >>> 24).toNat]:List UInt8),(sha b).take 8,b],l.2.1,()),(0:Int),())=zcB l b;rw[e];unfold zcB;rw[if_pos hv,if_neg o_,if_neg o_]
def zu8:Ctr:={ args:=[jl],pre:=λx=>[zp x.1.1<=1100000],res:=.tup jl (.tup i64 .unit),own:=none,out:=λx=>zjl x.1 }
theorem zsn:yQ zf dG 8 zu8:=by
 refine ctr2 zcb Tryz.func8 Tryz.call8 ?_;rintro w0 X hX ⟨(l:Lg),_⟩ hp;change AWP _ _ _ _ _ ⟨[(0,⟨jl,l⟩)],[],0⟩ _;have p1:l.1.length<=1100000:=hp
 iterate 2 (refine zaa (zaa (zab zcb ?_)))
 refine zae rfl (λhb=>?_) (λhb=>?_)
 .have hb:(!zbi l)=true:=hb;have hv:¬zbi l=true:=by simpa using hb
  (repeat refine zaa (zaa (zab zcb ?_)));refine zaa ?_;refine zC ⟨.inr rfl,D2 ?_⟩;show(zLog,(1:Int),())=zjl l;unfold zjl;rw[if_neg hv]
 have hb:(!zbi l)=false:=hb;have hv:zbi l=true:=by simpa using hb
 have e:xP [l.1]=l.1:=by simp
 have q1:(xP [l.1]).length<=100000000:=by rw[e];omega
 refine zaa (zaa (zbF dM hX zcb 8 (by kernel_rfl) rfl rfl ?_ ?_ ?_))
 .exact z_
 .trivial
 refine zC ⟨.inr rfl,D2 ?_⟩;show((xP [l.1],((l.1.length:Nat):Int),()),(0:Int),())=zjl l;rw[e];unfold zjl;rw[if_pos hv]
def zrS:Ctr:={ args:=[jl,jt],pre:=λx=>[zp x.1.1<=1100000],res:=.tup jl (.tup i64 .unit),own:=none,out:=λx=>zfs x.1 x.2.1 }
theorem zqQ:yQ zf dG 9 zrS:=by
 refine ctr2 zcb Tryz.func9 Tryz.call9 ?_;rintro w0 X hX ⟨(l:Lg),(t:JTr),_⟩ hp;change AWP _ _ _ _ _ ⟨[(0,⟨jl,l⟩),(1,⟨jt,t⟩)],[],0⟩ _;have p1:l.1.length<=1100000:=hp
 iterate 2 (refine zaa (zaa (zab zcb ?_)))
 refine zae rfl (λhb=>?_) (λhb=>?_)
 .have hb:(bif !zbi l then true else decide (t.1<0))=true:=hb;(repeat refine zaa (zaa (zab zcb ?_)));refine zaa ?_;refine zC ⟨.inr rfl,D2 ?_⟩;show(zLog,(1:Int),())=zfs l t;unfold zfs;rw[if_neg];rintro ⟨h1,h2⟩;rw[h1,decide_eq_false o_]at hb;cases hb
 have hb:(bif !zbi l then true else decide (t.1<0))=false:=hb;have hv:zbi l=true:=by
  cases h:zbi l with
  |true=>rfl
  |false=>rw[h]at hb;cases hb
 have hk:0<=t.1:=by
  rw[hv]at hb;have:decide (t.1<0)=false:=hb;have:=of_decide_eq_false this;omega
 obtain⟨⟨s1,s2⟩,s3⟩:=zcM.1 hv;have e3:xP [l.1.drop l.2.1.toNat]=l.1.drop l.2.1.toNat:=by simp
 refine zaa (zaa ?_);refine zac hX zuN rfl ?_ ?_
 .refine⟨s1,s2,?_⟩;show(xP [l.1.drop l.2.1.toNat]).length<=100000000;rw[e3,yY];omega
 refine zak (Y':=⟨[(2,⟨.optr jl,⟨0,jl,.here⟩⟩),(3,⟨.optr jt,⟨1,jt,.here⟩⟩),(4,⟨.optr jl,⟨2,jl,.here⟩⟩),(5,⟨i64,(0:Int)⟩),(6,⟨.obuf u8,(4:Nat)⟩)],[(0,some (.box jl l)),(1,some (.box jt t)),(2,some (.box jl zLog)),(4,some (.buf 5 u8 (l.1.drop l.2.1.toNat)))],5⟩) ⟨⟨rfl,rfl,rfl,rfl,rfl,t_⟩,⟨rfl,rfl,rfl,zbp e3,t_⟩,rfl,rfl⟩ ?_;obtain⟨r0,x1⟩:∃r0,l.1.drop l.2.1.toNat=r0:=⟨_,rfl⟩;have x6:r0.length<=l.1.length:=by rw[<-x1,yY];omega
 rw[x1];refine zaa (zaa ?_);refine zac hX zs1 rfl ?_ ?_
 .exact⟨by show(0:Int)<=min t.1 (r0.length:Nat);omega,by show min t.1 ((r0.length:Nat):Int)<=((r0.length:Nat):Int);omega⟩
 have x3:r0.take (min t.1 ((r0.length:Nat):Int)).toNat=r0.take t.1.toNat:=by
  rw[List.take_eq_take_iff];omega
 refine zak (Y':=⟨[(2,⟨.optr jl,⟨0,jl,.here⟩⟩),(3,⟨.optr jt,⟨1,jt,.here⟩⟩),(4,⟨.optr jl,⟨2,jl,.here⟩⟩),(5,⟨i64,(0:Int)⟩),(6,⟨.obuf u8,(4:Nat)⟩)],[(0,some (.box jl l)),(1,some (.box jt t)),(2,some (.box jl zLog)),(4,some (.buf 5 u8 (r0.take t.1.toNat)))],5⟩) ⟨⟨rfl,rfl,rfl,rfl,rfl,t_⟩,⟨rfl,rfl,rfl,zbp x3,t_⟩,rfl,rfl⟩ ?_;obtain⟨r1,x2⟩:∃r1,r0.take t.1.toNat=r1:=⟨_,rfl⟩;have x5:r1.length<=r0.length:=by rw[<-x2,zP];omega
 rw[x2];refine zaa (zaa (zab zam ?_));have x4:∀r:List UInt8,r.length=r1.length->torn (l.1.drop l.2.1.toNat) t=r->xP [l.1.take l.2.1.toNat,r]=l.1.take l.2.1.toNat++r/\(xP [l.1.take l.2.1.toNat,r]).length<=100000000:=λr h1 _=>by
  have e:xP [l.1.take l.2.1.toNat,r]=l.1.take l.2.1.toNat++r:=by simp
  refine⟨e,?_⟩;rw[e,zl,zP];omega
 refine zae rfl (λhb=>?_) (λhb=>?_)
 .have hb:(bif decide ((0:Int)<=t.2.1) then decide (t.2.1<(r1.length:Nat)) else false)=true:=hb;rw[zt7]at hb;obtain⟨b1,b2⟩:=hb;have b3:=o_;refine zaa (zaa (zab zam ?_));have x0:torn (l.1.drop l.2.1.toNat) t=r1.set t.2.1.toNat t.2.2.1:=by
   unfold torn;rw[x1,x2,if_pos ⟨b1,b2⟩]
  obtain⟨e9,q9⟩:=x4 (r1.set t.2.1.toNat t.2.2.1) (by rw[qP]) x0;generalize r1.set t.2.1.toNat t.2.2.1=r at *;refine AWP.frz hX 6 ?_;refine zaa (zaa (zbF dM hX zcb 11 (by kernel_rfl) rfl rfl ?_ ?_ ?_))
  .exact z_
  .trivial
  refine zC ⟨.inr rfl,D2 ?_⟩;show((xP [l.1.take l.2.1.toNat,r],l.2.1,()),(0:Int),())=zfs l t;rw[e9];unfold zfs;rw[if_pos ⟨hv,hk⟩,x0]
 .
  have hb:¬(0<=t.2.1/\t.2.1<((r1.length:Nat):Int)):=λh=>by rw[<-Bool.not_eq_true,zt7]at hb;exact hb h
  apply zaf;have x0:torn (l.1.drop l.2.1.toNat) t=r1:=by
   unfold torn;rw[x1,x2,if_neg hb]
  obtain⟨e9,q9⟩:=x4 r1 rfl x0;generalize r1=r at *;refine AWP.frz hX 6 ?_;refine zaa (zaa (zbF dM hX zcb 11 (by kernel_rfl) rfl rfl ?_ ?_ ?_))
  .exact z_
  .trivial
  refine zC ⟨.inr rfl,D2 ?_⟩;show((xP [l.1.take l.2.1.toNat,r],l.2.1,()),(0:Int),())=zfs l t;rw[e9];unfold zfs;rw[if_pos ⟨hv,hk⟩,x0]
def zmv:Ctr:={ args:=[jl],pre:=λx=>[zp x.1.1<=1100000],res:=.tup (.slice bs) (.tup i64 (.tup i64 .unit)),own:=none,out:=λx=>zdF x.1 }
theorem zmU(b:List UInt8):(recs b).1.length<=b.length:=by
 have h:=zlL b;have x0:=zkz b;have key:∀l:List (List UInt8),l.length<=(cat l).length:=by
  intro l
  induction l with
  |nil=>exact zu _
  |cons x l ih=>rw[zez,zl,zbK,yT];omega
 have:=key (recs b).1;omega
theorem vSs{x y:List (List UInt8)}(h:x=y):(⟨.slice bs,x⟩:V)=⟨.slice bs,y⟩:=by rw[h]
theorem zqi{l:List (List UInt8)}{x:List UInt8}(h:x∈l):x.length<=(cat l).length:=by
 induction l with
 |nil=>cases h
 |cons y l ih=>
  rw[zez,zl,zbK];rcases zE.1 h with rfl|h
  .omega
  .have:=ih h;omega
theorem zmV:yQ zf dG 10 zmv:=by
 refine ctr2 zcb Tryz.func10 Tryz.call10 ?_;rintro w0 X hX ⟨l,_⟩ hp;change AWP _ _ _ _ _ ⟨[(0,⟨jl,l⟩)],[],0⟩ _;have p1:l.1.length<=1100000:=hp;have x7:=zkz l.1;have x1:=zmU l.1;have x5:=zlL l.1
 iterate 2 (refine zaa (zaa (zab zcb ?_)))
 refine zae rfl (λhb=>?_) (λhb=>?_)
 .have hb:(!zbi l)=true:=hb;have hv:¬zbi l=true:=by simpa using hb
  (repeat refine zaa (zaa (zab zcb ?_)));refine zaa ?_;refine zC ⟨.inr rfl,D2 ?_⟩;show(([]:List (List UInt8)),(0:Int),(1:Int),())=zdF l;unfold zdF;rw[if_neg hv]
 have hb:(!zbi l)=false:=hb;have hv:zbi l=true:=by simpa using hb
 refine zaa (zaa (zab zcb ?_));obtain⟨fs,x0⟩:∃fs,(recs l.1).1=fs:=⟨_,rfl⟩;obtain⟨m,hm⟩:∃m,(recs l.1).2=m:=⟨_,rfl⟩;have x3:∀x∈fs,x.length<=1100000:=λx hx=>by
  have:=zqi hx;rw[x0]at x5;omega
 rw[x0]at x1;refine zak (Y':=⟨[(5,⟨.slice bs,fs⟩),(6,⟨i64,(m:Int)⟩)],[],1⟩) ⟨⟨vSs x0,jI64 (congrArg (λn:Nat=>(n:Int)) hm),t_⟩,t_,rfl,rfl⟩ ?_;refine zaa (zaa ?_);refine zac hX zcb rfl ?_ ?_
 .exact⟨by show(0:Int)<=(fs.length:Nat);omega,qs _,by show((fs.length:Nat):Int)<=1000000000;omega⟩
 (repeat refine zaa (zaa (zab zcb ?_)));refine zaa ?_;refine yK (ι:=Nat) (λk=>⟨[(6,⟨i64,(m:Int)⟩),(7,⟨.obuf bs,(1:Nat)⟩),(22,⟨.slice bs,fs⟩),(23,⟨i64,((fs.length:Nat):Int)⟩),(24,⟨i64,(k:Int)⟩)],[(1,some (.buf 25 bs (fs.take k++zg (fs.length-k) [])))],2⟩) (λk=>k<=fs.length) (λk=>fs.length-k) 0 o_ ⟨⟨rfl,rfl,rfl,rfl,rfl,t_⟩,⟨zbp (by simp[zaD]),t_⟩,rfl,rfl⟩ ?_;intro k hk;refine zaa (zaa (zab zcb ?_));apply zap;refine zaN rfl (λhb=>?_) (λhb=>?_)
 .
  have x2:k<fs.length:=o_;have hlen:(fs.take k++zg (fs.length-k) ([]:List UInt8)).length=fs.length:=by simp;omega
  refine zaa (zaa (zab zcb ?_));have x4:fs.getD k []∈fs:=by rw[zH,zR x2];exact qc _
  have x6:=x3 _ x4;obtain⟨y,hy⟩:∃y,fs.getD k []=y:=⟨_,rfl⟩;rw[hy]at x6;refine zak (Y':=⟨[(6,⟨i64,(m:Int)⟩),(7,⟨.obuf bs,(1:Nat)⟩),(8,⟨i64,(k:Int)⟩),(9,⟨bs,y⟩),(22,⟨.slice bs,fs⟩),(23,⟨i64,((fs.length:Nat):Int)⟩),(24,⟨i64,(k:Int)⟩)],[(1,some (.buf 25 bs (fs.take k++zg (fs.length-k) [])))],2⟩) ⟨⟨rfl,rfl,rfl,vBs (by rw[<-hy, <-zS k];rfl),rfl,rfl,rfl,t_⟩,⟨rfl,t_⟩,rfl,rfl⟩ ?_;change AWP _ _ _ _ (.seq (.region _ _ _) (.region _ _ _)) _ _;refine zlt hX zcb rfl rfl rfl ?_ rfl rfl rfl rfl rfl rfl rfl rfl rfl rfl rfl rfl rfl rfl rfl rfl rfl rfl rfl rfl rfl rfl rfl rfl rfl rfl rfl rfl rfl rfl d_ ?_ ?_ ?_ ?_ d_ d_ d_ d_ d_ d_ d_ d_ d_ d_ d_ d_ d_ ?_
  .exact⟨by show(0:Int)<=((y.length:Nat):Int);omega,qs _,by show((y.length:Nat):Int)<=1000000000;omega,by show(0:Int)<=(k:Int);omega,(by rw[hlen];omega:(k:Int)<(((fs.take k++zg (fs.length-k) ([]:List UInt8)).length:Nat):Int))⟩
  .omega
  .rfl
  .rw[hlen];omega
  .
   rw[qf,zS]
  .refine zaa (zaa (zac hX zcb rfl ?_ ?_))
   .exact zaP o_
   refine⟨k+1,by omega,by omega,⟨rfl,rfl,rfl,rfl,zce _,t_⟩,⟨zbp ?_,t_⟩,rfl,rfl⟩;show(fs.take k++zg (fs.length-k) ([]:List UInt8)).set (k:Int).toNat y=fs.take (k+1)++zg (fs.length-(k+1)) [];have ht:(fs.take k).length=k:=by rw[zP];omega
   rw[zS,List.set_append_right _ _ o_,ht,Nat.sub_self,show fs.length-k=(fs.length-(k+1))+1 by omega,List.replicate_succ,List.set_cons_zero,zN x2,zB];have:fs[k]=y:=by rw[<-hy,zH,zR x2];rfl
   rw[this];rfl
 .
  have:k=fs.length:=o_;subst this;rw[yX,Nat.sub_self,List.replicate_zero,yE];refine zaa (zaa (zab zcb ?_));refine zC ⟨.inr rfl,D2 ?_⟩;show(fs,(m:Int),(0:Int),())=zdF l;unfold zdF;rw[if_pos hv,x0,hm]
def fill(l:List (List UInt8))(s:Nat):Lg:=(cat l,(((cat (l.take s)).length:Nat):Int),())
theorem zlc(l:List (List UInt8))(s:Nat):(cat (l.take s)).length<=(cat l).length:=by
 have:cat l=cat (l.take s)++cat (l.drop s):=by rw[<-zfX,qx]
 rw[this,zl];omega
theorem zko(r:List UInt8)(t:JTr):(torn r t).length=min t.1.toNat r.length:=by
 unfold torn;split
 .rw[qP,zP]
 .rw[zP]
def crB(l:Lg)(t:JTr):List UInt8:=l.1.take l.2.1.toNat++torn (l.1.drop l.2.1.toNat) t
theorem zm7{l:Lg}{t:JTr}(hv:zbi l=true)(hk:0<=t.1):zfs l t=((crB l t,l.2.1,()),0,()):=by
 unfold zfs;rw[if_pos ⟨hv,hk⟩];rfl
theorem zib{l:Lg}(t:JTr)(hv:zbi l=true):(crB l t).length<=l.1.length/\l.2.1.toNat<=(crB l t).length:=by
 obtain⟨⟨h1,h2⟩,h3⟩:=zcM.1 hv;unfold crB;rw[zl,zko,zP,yY];omega
theorem zo1{l:Lg}(t:JTr)(hv:zbi l=true):zbi (crB l t,l.2.1,())=true:=by
 obtain⟨⟨h1,h2⟩,h3⟩:=zcM.1 hv;obtain⟨h4,h5⟩:=zib t hv;refine zcM.2 ⟨⟨h1,?_⟩,?_⟩
 .show l.2.1<=((crB l t).length:Nat);omega
 .show((crB l t).length:Int)<=1048576;omega
theorem zqR{l:Lg}(t:JTr)(hv:zbi l=true):(crB l t).take l.2.1.toNat=l.1.take l.2.1.toNat:=by
 obtain⟨⟨h1,h2⟩,h3⟩:=zcM.1 hv;unfold crB;rw[List.take_left' (by rw[zP];omega)]
theorem zo2{l:Lg}{t:JTr}(ht:t.2.1<0):crB l t=l.1.take (l.2.1.toNat+t.1.toNat):=by
 unfold crB torn;rw[if_neg o_,kR]
theorem zk7{l:Lg}{k:List (List UInt8)}(t:JTr)(hv:zbi l=true)(hk:zmG k)(hl:l.1.take l.2.1.toNat=cat k):k <+:(recs (crB l t)).1:=by
 have h1:=zqR t hv;rw[hl]at h1;have:=zlM k ((crB l t).drop l.2.1.toNat) hk;rw[<-h1,qx]at this;rw[this];exact List.prefix_append _ _
theorem zjy{l:Lg}(hv:zbi l=true):zdF l=((recs l.1).1,((recs l.1).2:Int),0,()):=by
 unfold zdF;rw[if_pos hv]
def Big(l:List (List UInt8)):Prop:=l.length<=6/\∀x∈l,x.length<=130000
theorem zhm{l:List (List UInt8)}(h:∀x∈l,x.length<=130000):(cat l).length<=130012*l.length:=by
 induction l with
 |nil=>exact zu _
 |cons x l ih=>
  have h1:=h x (by simp);have h2:=ih λy hy=>h y (by simp[hy]);rw[zez,zl,zbK,yT];omega
theorem zka{l:List (List UInt8)}(h:∀x∈l,x.length<=130000):zmG l:=λx hx=>by have:=h x hx;omega
theorem zhl{l:List (List UInt8)}(h:Big l)(s:Nat):zbi (fill l s)=true:=by
 have h1:=zhm h.2;have h2:=zlc l s;have h3:=h.1;refine zcM.2 ⟨⟨Int.natCast_nonneg _,?_⟩,?_⟩
 .show(((cat (l.take s)).length:Nat):Int)<=((cat l).length:Nat);omega
 .show(((cat l).length:Nat):Int)<=1048576;omega
theorem znd{l:List (List UInt8)}{x:List UInt8}{s:Nat}(h:Big (l++[x]))(hs:s<=l.length):zcB (fill l s) x=(fill (l++[x]) s,0,()):=by
 have h0:=h.1;rw[zl]at h0;have h0:l.length+1<=6:=h0;have h1:Big l:=⟨by omega,λy hy=>h.2 y (by simp[hy])⟩;have h2:=zhm h1.2;have h4:=h.2 x (by simp);have hr:=zmT l (zka h1.2);unfold zcB;rw[if_pos (zhl h1 s)];have e:(fill l s).1=cat l:=rfl;rw[e,hr,if_neg (by simp),if_neg o_];unfold fill;rw[zfX,zto,vv hs]
theorem zq5{l:List (List UInt8)}(h:Big l)(s:Nat):zjl (fill l s)=(fill l l.length,0,()):=by
 unfold zjl;rw[if_pos (zhl h s)];unfold fill;rw[yX]
theorem boxJ{x y:jl.T}(h:x=y):some (OObj.box jl x)=some (OObj.box jl y):=by rw[h]
noncomputable def kLw(g:List Int->lt.T):Kn:={ dK with C:=[(4,cSan),(5,zpb g),(6,cBy),(7,zmw 1100000),(8,zu8),(9,zrS),(10,zmv)] }
theorem zuL{g:List Int->lt.T}(hc:yQ zf gmG 5 (zpb g)):KnOk zf dG (kLw g):=zam.with (.cons zuf<|.cons hc.up<|.cons ziZ<|.cons zpr<|.cons zsn<|.cons zqQ<|.cons zmV .nil)
noncomputable def kRw(l:lt.T):Kn:={ dK with C:=[(11,zvc l),(12,cSm)] }
theorem zdW(l:lt.T):KnOk zf dG (kRw l):=zam.with (.cons (zsD l)<|.cons zny .nil)
abbrev lwF(ns:List (List Int))(sy:UInt8)(kp:(Ty.int .u16).T)(i:Int)(F:Frame):Frame:=(0,⟨.slice ints,ns⟩)::(1,⟨u8,sy⟩)::(2,⟨.int .u16,kp⟩)::(7,⟨.bool,true⟩)::(8,⟨.optr jl,⟨1,jl,.here⟩⟩)::(9,⟨.obuf lt,(0:Nat)⟩)::(10,⟨i64,i⟩)::F
abbrev lwE(ws:List lt.T)(lg:jl.T)(E:Owns):Owns:=(0,some (.buf 42 lt ws))::(1,some (.box jl lg))::E
set_option maxHeartbeats 8000000 in
theorem law_of{g:List Int->lt.T}(hc:yQ zf gmG 5 (zpb g))(hg:∀n,zdr (g n)/\ltR (g n)/\clnL (g n)):yQ zf dG 3 (lawCtr [.slice ints,u8,.int .u16]):=by
 have hK:=zuL hc;refine ctr2 zam Tryz.func3 Tryz.call3 ?_;rintro w0 X hX ⟨(ns:List (List Int)),(sy:UInt8),(kp:(Ty.int .u16).T),⟨⟩⟩ hp;change AWP _ _ _ _ _ ⟨[(0,⟨.slice ints,ns⟩),(1,⟨u8,sy⟩),(2,⟨.int .u16,kp⟩)],[],0⟩ _;refine AWP.len 0 rfl λy9=>?_;unfold maxLen at y9;obtain⟨ls,xn⟩:∃x,x=(ns.take 6).map g:=⟨_,rfl⟩;obtain⟨bl,xf⟩:∃x,x=ls.map zc9:=⟨_,rfl⟩;have yc:ls.length=min 6 ns.length:=by rw[xn,List.length_map,zP]
 have xj:bl.length=ls.length:=by rw[xf,List.length_map]
 have xi:∀x∈ls,zdr x/\ltR x/\clnL x:=λx hx=>by
  rw[xn]at hx;obtain⟨n,_,rfl⟩:=List.mem_map.1 hx;exact hg n
 have x1:Big bl:=⟨by omega,λx hx=>by
  rw[xf]at hx;obtain⟨l,hl,rfl⟩:=List.mem_map.1 hx;exact zf0 (xi l hl).1⟩
 obtain⟨m,hm⟩:∃m,m=sy.toNat%7:=⟨_,rfl⟩
 iterate 3 (refine zaa (zaa (zab hK ?_)))
 refine zak (Y':=⟨[(0,⟨.slice ints,ns⟩),(1,⟨u8,sy⟩),(2,⟨.int .u16,kp⟩),(7,⟨.bool,true⟩),(8,⟨.optr jl,⟨1,jl,.here⟩⟩),(9,⟨.obuf lt,(0:Nat)⟩)],lwE [] zLog [],2⟩) ⟨⟨rfl,rfl,rfl,rfl,rfl,rfl,t_⟩,⟨rfl,rfl,t_⟩,rfl,rfl⟩ ?_;refine zaa (zaa (zab hK ?_));refine zaa ?_;refine yK (ι:=Nat) (λi=>⟨lwF ns sy kp (i:Int) [],lwE (ls.take i) (fill (bl.take i) (min i m)) [],2⟩) (λi=>i<=ls.length) (λi=>ls.length-i) 0 (zk _) ⟨⟨rfl,rfl,rfl,rfl,rfl,rfl,rfl,t_⟩,⟨rfl,rfl,t_⟩,rfl,rfl⟩ ?_;intro i hi;refine zaa (zaa (zab hK ?_ (hp:=by repeat'(first|exact λh=>h|exact λh=>⟨h,h⟩|refine vI ?_ ?_))));refine zaa ?_;refine zae rfl (λhb=>?_) (λhb=>?_)
 .have hb:(bif decide ((i:Int)<((ns.length:Nat):Int)) then decide ((i:Int)<6) else false)=true:=hb;have xw:i<ls.length:=by
   cases h1:decide ((i:Int)<((ns.length:Nat):Int))<;>rw[h1]at hb
   .cases hb
   .have h1:=of_decide_eq_true h1;have h2:=of_decide_eq_true hb;omega
  have xz:i<ns.length:=o_;have n0:(0:Int)<=(i:Int):=o_;have n1:(i:Int)<((ns.length:Nat):Int):=o_;have y6:i<bl.length:=o_;obtain⟨l,hl⟩:∃l,l=ls[i]:=⟨_,rfl⟩;have xy:g (ns.getD (i:Int).toNat (zaD ints))=l:=by
   rw[hl,zS,zH,zR xz];subst xn;simp
  have x0:=xi l (by rw[hl];exact qc xw);obtain⟨B,hB⟩:∃B,B=zc9 l:=⟨_,rfl⟩;have y1:bl[i]=B:=by
   rw[hB,hl];subst xf;simp
  have yb:B.length<=130000:=by rw[hB];exact zf0 x0.1
  have xd:ls.take (i+1)=ls.take i++[l]:=by rw[hl];exact zN xw
  have xh:bl.take (i+1)=bl.take i++[B]:=by rw[<-y1];exact zN y6
  have x3:Big (bl.take (i+1)):=⟨by rw[zP];have:=x1.1;omega,λx hx=>x1.2 x (kb hx)⟩;have xc:(bl.take (i+1)).length=i+1:=by rw[zP];omega
  have xa:(bl.take i).length=i:=by rw[zP];omega
  have x7:zcB (fill (bl.take i) (min i m)) B=(fill (bl.take (i+1)) (min i m),0,()):=by
   rw[xh]at x3 ⊢;exact znd x3 o_
  have x5:zjl (fill (bl.take (i+1)) (min i m))=(fill (bl.take (i+1)) (i+1),0,()):=by
   have:=zq5 x3 (min i m);rw[xc]at this;exact this
  have y4:(cat (bl.take i)).length<=1100000:=by
   have:=zhm (l:=bl.take i) (λx hx=>x1.2 x (kb hx));rw[xa]at this;have:=x1.1;omega
  have y3:(cat (bl.take (i+1))).length<=1100000:=by
   have:=zhm x3.2;rw[xc]at this;have:=x1.1;omega
  have a1:zp (fill (bl.take i) (min i m)).1<=1100000:=y4;have a2:zp (fill (bl.take (i+1)) (min i m)).1<=1100000:=y3;have a3:(ls.take i).length+1<=1000000000:=by rw[zP];omega
  have q1:inR .i64 ((i:Int)+1):=zah o_ o_;obtain⟨xm,xk⟩:∃x,x=fill (bl.take i) (min i m):=⟨_,rfl⟩;obtain⟨xg,x4⟩:∃x,x=fill (bl.take (i+1)) (min i m):=⟨_,rfl⟩;obtain⟨ws,y2⟩:∃x,x=ls.take i:=⟨_,rfl⟩;rw[<-xk]at x7 a1 ⊢;rw[<-x4]at x7 x5 a2;rw[<-y2]at a3 xd ⊢;apply zaf;refine zaa (zaa (zab hK ?_ (hp:=by exact⟨n0,n1⟩)));refine zak (Y':=⟨lwF ns sy kp (i:Int) [(11,⟨.optr lt,⟨2,lt,.here⟩⟩)],lwE ws xm [(2,some (.box lt l))],3⟩) ⟨⟨rfl,rfl,rfl,rfl,rfl,rfl,rfl,rfl,t_⟩,⟨rfl,rfl,boxL xy,t_⟩,rfl,rfl⟩ ?_;refine zaa (zaa (zab hK ?_ (hp:=by exact x0.1)));refine zak (Y':=⟨lwF ns sy kp (i:Int) [(11,⟨.optr lt,⟨2,lt,.here⟩⟩),(12,⟨bs,B⟩),(13,⟨i64,(0:Int)⟩)],lwE ws xm [(2,some (.box lt l))],3⟩) ⟨⟨rfl,rfl,rfl,rfl,rfl,rfl,rfl,rfl,congrArg (λz=>(⟨bs,z⟩:V)) hB.symm,rfl,t_⟩,⟨rfl,rfl,rfl,t_⟩,rfl,rfl⟩ ?_;refine zaa (zaa (zab hK ?_));refine zaL rfl ?_;apply zaf;have a4:B.length<=1100000:=o_;refine zaa (zaa (zab hK ?_ (hp:=by exact⟨a1,a4⟩)));refine zak (Y':=⟨lwF ns sy kp (i:Int) [(11,⟨.optr lt,⟨2,lt,.here⟩⟩),(14,⟨.optr jl,⟨3,jl,.here⟩⟩),(15,⟨i64,(0:Int)⟩)],lwE ws xm [(2,some (.box lt l)),(3,some (.box jl xg))],4⟩) ⟨⟨rfl,rfl,rfl,rfl,rfl,rfl,rfl,rfl,rfl,vI64 (congrArg (λz=>z.2.1) x7),t_⟩,⟨rfl,rfl,rfl,boxJ (congrArg (λz=>z.1) x7),t_⟩,rfl,rfl⟩ ?_;refine zaa (zaa (zab hK ?_));refine zaL rfl ?_;apply zaf;refine zaa ?_;refine zco (Y':=⟨lwF ns sy kp (i:Int) [],lwE (ws++[l]) xg [],4⟩) dM 7 rfl (by kernel_rfl) ?_ ?_
  .repeat'(first|exact AllN.nil|refine AllN.cons ⟨_,rfl,?_⟩ ?_|refine yD hX hK rfl t_ ?_|refine yD hX hK rfl a3 ?_|(refine OrdA.last ?_;exact⟨rfl,⟨rfl,rfl,rfl,rfl,rfl,rfl,rfl,t_⟩,⟨rfl,rfl,t_⟩,rfl,rfl⟩))
  rw[<-xd];have h7:(7:Int)≠0:=d_;have x6:fA ((sy.toNat:Nat):Int) 7=(m:Int):=by rw[uj o_];omega
  obtain⟨xl,x8⟩:∃x,x=fill (bl.take (i+1)) (min (i+1) m):=⟨_,rfl⟩;refine zaa (zaa (zab hK ?_ (hp:=by exact h7)));refine zaN rfl (λhc=>?_) (λhc=>?_)
  .have hc:(i:Int)<fA ((sy.toNat:Nat):Int) 7:=hc;rw[x6]at hc;have e2:xl=fill (bl.take (i+1)) (i+1):=by rw[x8,show min (i+1) m=i+1 by omega]
   rw[<-e2]at x5;refine zaa (zaa (zab hK ?_ (hp:=by exact a2)));refine zak (Y':=⟨lwF ns sy kp (i:Int) [(15,⟨i64,(0:Int)⟩)],lwE (ls.take (i+1)) xl [],4⟩) ⟨⟨rfl,rfl,rfl,rfl,rfl,rfl,rfl,vI64 (congrArg (λz=>z.2.1) x5),t_⟩,⟨rfl,boxJ (congrArg (λz=>z.1) x5),t_⟩,rfl,rfl⟩ ?_;refine zaa (zaa (zab hK ?_));refine zaL rfl ?_;apply zaf;refine zaa (zab hK ?_ (hp:=by exact q1));refine⟨i+1,by omega,by omega,?_⟩;rw[<-x8];exact⟨⟨rfl,rfl,rfl,rfl,rfl,rfl,rfl,t_⟩,⟨rfl,rfl,t_⟩,rfl,rfl⟩
  .have hc:¬((i:Int)<fA ((sy.toNat:Nat):Int) 7):=hc;rw[x6]at hc;have e2:xg=xl:=by rw[x8,x4,show min (i+1) m=min i m by omega]
   rw[e2];apply zaf;refine zaa (zab hK ?_ (hp:=by exact q1));refine⟨i+1,by omega,by omega,?_⟩;rw[<-x8];exact⟨⟨rfl,rfl,rfl,rfl,rfl,rfl,rfl,t_⟩,⟨rfl,rfl,t_⟩,rfl,rfl⟩
 have hb:(bif decide ((i:Int)<((ns.length:Nat):Int)) then decide ((i:Int)<6) else false)=false:=hb;have y0:i=ls.length:=by
  cases h1:decide ((i:Int)<((ns.length:Nat):Int))<;>rw[h1]at hb
  .have h1:=of_decide_eq_false h1;omega
  .have h2:=of_decide_eq_false hb;omega
 subst y0;have t1:ls.take ls.length=ls:=yX;have t2:bl.take ls.length=bl:=by rw[<-xj,yX]
 rw[t1,t2];obtain⟨k,hk⟩:∃k,k=min ls.length m:=⟨_,rfl⟩;rw[<-hk];clear hb;apply zan;have y8:=zhm x1.2;have xv:(fill bl k).1.length<=1100000:=by show(cat bl).length<=1100000;have:=x1.1;omega
 have hv:=zhl x1 k;have xt:=zka x1.2;have xs:(fill bl k).2.1.toNat=(cat (bl.take k)).length:=zS _;have xr:(fill bl k).1.take (fill bl k).2.1.toNat=cat (bl.take k):=by
  rw[xs];show(cat bl).take _=_;have e:cat bl=cat (bl.take k)++cat (bl.drop k):=by rw[<-zfX,qx]
  rw[e,qQ]
 refine AWP.frz hX 9 ?_;obtain⟨kI,xq⟩:∃x:Int,x=((BitVec.toNat (w:=16) kp:Nat):Int):=⟨_,rfl⟩;have y5:0<=kI:=o_;obtain⟨lg,x4⟩:∃x,x=fill bl k:=⟨_,rfl⟩;rw[<-x4]at xv hv xs xr ⊢;refine zaa (zaa (zab hK ?_ (hp:=by exact xv)));have xe:=zm7 (t:=(kI,-1,0,())) hv y5;have xo:=zo2 (l:=lg) (t:=(kI,-1,0,())) (by show(-1:Int)<0;omega);obtain⟨e1,e2⟩:=zib (l:=lg) (kI,-1,0,()) hv;have xp:=zo1 (l:=lg) (kI,-1,0,()) hv;have xb:=zjy xp;have x9:=zk7 (l:=lg) (k:=bl.take k) (kI,-1,0,()) hv (λy hy=>xt y (kb hy)) xr;have x2:=znP bl xt (lg.2.1.toNat+kI.toNat);have xo:crB lg (kI,-1,0,())=(cat bl).take (lg.2.1.toNat+kI.toNat):=by rw[xo,x4];rfl
 rw[<-xo]at x2;obtain⟨C,hC⟩:∃C,C=crB lg (kI,-1,0,()):=⟨_,rfl⟩;obtain⟨y,hy⟩:∃y,y=lg.2.1:=⟨_,rfl⟩;rw[<-hC]at xe xb x9 x2 e1;rw[<-hy]at xe xb;have ya:zp C<=1100000:=o_;refine zak (Y':=⟨[(1,⟨u8,sy⟩),(7,⟨.bool,true⟩),(9,⟨.slice lt,ls⟩),(16,⟨.optr jl,⟨2,jl,.here⟩⟩),(17,⟨i64,(0:Int)⟩)],[(2,some (.box jl (C,y,())))],3⟩) ⟨⟨rfl,rfl,rfl,rfl,?_,t_⟩,⟨?_,t_⟩,rfl,rfl⟩ ?_
 .subst xq;exact vI64 (congrArg (λz=>z.2.1) xe)
 .subst xq;exact boxJ (congrArg (λz=>z.1) xe)
 refine zaa (zaa (zab hK ?_ (hp:=by exact ya)));obtain⟨R,hR⟩:∃R,R=(recs C).1:=⟨_,rfl⟩;rw[<-hR]at x9 x2 xb;refine zak (Y':=⟨[(1,⟨u8,sy⟩),(7,⟨.bool,true⟩),(9,⟨.slice lt,ls⟩),(17,⟨i64,(0:Int)⟩),(18,⟨.slice bs,R⟩),(20,⟨i64,(0:Int)⟩)],[],0⟩) ⟨⟨rfl,rfl,rfl,rfl,congrArg (λ(z:List (List UInt8)×Int×Int×Unit)=>(⟨.slice bs,z.1⟩:V)) xb,vI64 (congrArg (λz=>z.2.2.1) xb),t_⟩,t_,rfl,rfl⟩ ?_;have r1:=x9.length_le;have r2:=x2.length_le;rw[zP]at r1;have h7:(7:Int)≠0:=d_;have x6:fA ((sy.toNat:Nat):Int) 7=(m:Int):=by rw[uj o_];omega
 refine zaa (zaa (zab hK ?_ (hp:=by repeat'(first|exact t_|exact λh=>h|exact λh=>⟨h,h7⟩|exact λh=>⟨h,h⟩|exact λ_=>h7|refine vI ?_ ?_))));refine zae rfl (λhb=>?_) (λ_=>?_)
 .exfalso;have hb:(bif (bif (bif (!((0:Int)==0)) then true else(!((0:Int)==0))) then true else decide (((R.length:Nat):Int)>((ls.length:Nat):Int))) then true else decide (((R.length:Nat):Int)<min (fA ((sy.toNat:Nat):Int) 7) ((ls.length:Nat):Int)))=true:=hb;rw[x6,decide_eq_false o_,decide_eq_false o_]at hb;cases hb
 apply zaf;refine zaa (zaa (zab hK ?_));refine zaa ?_;refine yK (ι:=Nat) (λj=>⟨[(7,⟨.bool,true⟩),(9,⟨.slice lt,ls⟩),(18,⟨.slice bs,R⟩),(21,⟨i64,(j:Int)⟩)],[],0⟩) (λj=>j<=R.length) (λj=>R.length-j) 0 (zk _) ⟨⟨rfl,rfl,rfl,rfl,t_⟩,t_,rfl,rfl⟩ ?_;intro j hj;refine zaa (zaa (zab hK ?_));refine zaa ?_;refine zae rfl (λhb=>?_) (λhb=>?_)
 .
  have hb:=of_decide_eq_true hb;have xu:j<R.length:=o_;have xx:j<ls.length:=o_;have n0:(0:Int)<=(j:Int):=o_;have n1:(j:Int)<((ls.length:Nat):Int):=o_;have q1:inR .i64 ((j:Int)+1):=zah o_ o_;obtain⟨l,hl⟩:∃l,l=ls[j]:=⟨_,rfl⟩;have hD:l=ls.getD (j:Int).toNat (zaD lt):=by rw[za4 xx,hl]
  have x0:=xi l (by rw[hl];exact qc xx);have y7:R.getD (j:Int).toNat (zaD bs)=zc9 l:=by
   rw[za4 xu];have h1:R[j]=bl[j]'o_:=x2.getElem xu;rw[h1,hl];subst xf;simp
  apply zaf;refine zaa (zaa (zab (zdW l) ?_ (hp:=by exact⟨n0,hb,y7,x0.1,x0.2.1,x0.2.2⟩)));refine zak (Y':=⟨[(7,⟨.bool,true⟩),(9,⟨.slice lt,ls⟩),(18,⟨.slice bs,R⟩),(21,⟨i64,(j:Int)⟩),(22,⟨.optr lt,⟨0,lt,.here⟩⟩),(23,⟨i64,(0:Int)⟩)],[(0,some (.box lt l))],1⟩) ⟨⟨rfl,rfl,rfl,rfl,rfl,rfl,t_⟩,⟨rfl,t_⟩,rfl,rfl⟩ ?_;refine zaa ?_;refine zgt 8 [(7,⟨.bool,true⟩),(9,⟨.slice lt,ls⟩),(18,⟨.slice bs,R⟩),(21,⟨i64,(j:Int)⟩),(22,⟨.optr lt,⟨0,lt,.here⟩⟩),(23,⟨i64,(0:Int)⟩)] [(0,126,⟨i64,(0:Int)⟩),(1,127,⟨.bool,false⟩),(2,128,⟨.bool,false⟩),(3,129,⟨lt,l⟩),(4,130,⟨.slice lt,ls⟩),(5,131,⟨i64,(j:Int)⟩),(6,132,⟨.vptr lt,ls.getD (j:Int).toNat (zaD lt)⟩),(7,133,⟨lt,ls.getD (j:Int).toNat (zaD lt)⟩)] dM hX 11 rfl rfl (by kernel_rfl) (by kernel_rfl) rfl ⟨rfl,rfl,rfl,rfl,rfl,rfl,t_⟩ ?_ rfl ⟨rfl,t_⟩ rfl rfl ?_
  .refine(zZ (zZ (zZ (zZ (zZ (zZ (zZ (zZ kf ?_) ?_) ?_) ?_) ?_) ?_) ?_) ?_)
   .exact yI hX (zdW l) k_
   .exact yI hX (zdW l) k_
   .exact yI hX (zdW l) k_
   .exact yW _ rfl _ (λ_=>rfl) λF N hN=>qT 2 128 false rfl rfl rfl rfl (yD hX (zdW l) rfl t_ hN)
   .exact yW _ rfl _ (λ_=>rfl) λF N hN=>qT 2 128 false rfl rfl rfl rfl (yD hX (zdW l) rfl t_ hN)
   .exact yW _ rfl _ (λ_=>rfl) λF N hN=>qT 2 128 false rfl rfl rfl rfl (yD hX (zdW l) rfl t_ hN)
   .exact yW _ rfl _ (λ_=>rfl) λF N hN=>qT 2 128 false rfl rfl rfl rfl (yD hX (zdW l) rfl (by exact⟨n0,n1⟩) hN)
   .exact yW _ rfl _ (λ_=>rfl) λF N hN=>qT 2 128 false rfl rfl rfl rfl (yD hX (zdW l) rfl t_ hN)
  refine qT 2 128 false rfl rfl rfl rfl (yD hX (zdW l) rfl (by exact hD) ?_);refine qT 2 128 false rfl rfl rfl rfl (yD hX (zdW l) rfl t_ ?_);refine yD hX (zdW l) rfl t_ ?_;refine QC.of ?_;refine zaL rfl ?_;apply zaf;refine zaa (zab hK ?_ (hp:=by exact q1));exact⟨j+1,by omega,by omega,⟨rfl,rfl,rfl,rfl,t_⟩,t_,rfl,rfl⟩
 apply zan;refine zaa (zaa (zab hK ?_));exact zC ⟨.inr rfl,D1 rfl⟩
theorem law27_ok:yQ zf dG 3 (lawCtr [.slice ints,u8,.int .u16]):=
 law_of zoh λn=>⟨(zgR n).1,(zgR n).2,zql n⟩
end Go.Proofs.YtdjjmoenpjlfeaaGreatDoor
