/-
  Texts of this claim, joined: what the statement's proof uses.
-/
import Derived.Test.YthbecdbmifchiaaGreatDoorXE
set_option linter.unusedSimpArgs false
set_option linter.unusedVariables false
set_option maxRecDepth 100000
open Array renaming getD_eq_getD_getElem? -> zO,getElem?_eq_getElem -> qo,getElem?_eq_some_iff -> zl,getElem?_setIfInBounds -> xO
open Bool renaming and_eq_false_iff -> vw,and_eq_true -> zf,eq_iff_iff -> zY,not_eq_false' -> qM,not_eq_true' -> zL,or_eq_false_iff -> xY,or_eq_true -> yW
open Go renaming Deferred -> qS,TypeId -> zo,Value -> zd,World -> zh,wpIn_mono -> zT
open Go.Fence renaming wide -> yD
open Go.Oper renaming semAt_some -> kR
open Go.Proofs.Tryz renaming f13 -> kM,prog -> zb
open Go.Proofs.YthbecdbmifchiaaGreatDoor renaming CtrOk -> yT
open Go.Proofs.YthbecdbmifchiaaGreatDoor.AL renaming fit -> jp,guardF -> qE,guardT -> xE
open Go.Proofs.YthbecdbmifchiaaGreatDoor.AWP renaming frz -> vM,go -> za,loop -> xP,ret -> zp
open Go.Proofs.YthbecdbmifchiaaGreatDoor.AllI renaming s -> zA
open Go.Proofs.YthbecdbmifchiaaGreatDoor.AllN renaming cons -> vD,nil -> kg
open Go.Proofs.YthbecdbmifchiaaGreatDoor.OrdA renaming last -> ve
open Go.Proofs.YthbecdbmifchiaaGreatDoor.RL renaming step -> yY
open Go.Proofs.YthbecdbmifchiaaGreatDoor.RepD renaming scalar -> xJ
open Go.Proofs.YthbecdbmifchiaaGreatDoor.RepV renaming keep -> zZ
open Go.Proofs.YthbecdbmifchiaaGreatDoor.StepA renaming eval -> zX
open Go.Proofs.YthbecdbmifchiaaGreatDoor.StepK renaming eval -> zx
open Go.Proofs.YthbecdbmifchiaaGreatDoor.Tr renaming flat -> kP,len_flat -> qg,size -> wc
open Go.Region renaming wanted -> yF
open Go.RowKit renaming Below -> xG
open Go.RowKit.Below renaming refl -> zR
open Int renaming emod_lt_of_pos -> xS,emod_nonneg -> qq,le_refl -> yS,natCast_nonneg -> yM,reduceEq -> yV,toNat -> uH,toNat_natCast -> zH,toNat_of_nonneg -> qh
open List renaming all_eq_true -> yE,append_assoc -> zz,drop_eq_getElem_cons -> qf,getD_eq_getElem?_getD -> zu,getElem?_eq_getElem -> zI,getElem?_eq_some_iff -> yI,getElem_mem -> xN,length -> zi,length_append -> zg,length_cons -> zv,length_map -> jy,length_nil -> yC,length_singleton -> xI,length_take -> yU,map_append -> qY,mem_append -> zU,mem_cons -> zs,mem_cons_of_mem -> zE,mem_cons_self -> zC,mem_nil_iff -> qd,mem_of_getElem? -> xX,mem_singleton -> zt,not_mem_nil -> jd,take_length -> xR,take_of_length_le -> jc,take_succ_eq_append_getElem -> zS
open Nat renaming add_zero -> jW,le_of_ble_eq_true -> zq,le_refl -> zj,le_trans -> zJ,lt_of_lt_of_le -> zy,not_lt_zero -> yH,zero_add -> yL,zero_le -> zk
open UInt8 renaming ofNat -> yR
open Go Go.RowKit
namespace Go.Proofs.YthbecdbmifchiaaGreatDoor
set_option maxHeartbeats 8000000 in
theorem ztO:yT zb gmH 36 zv8:=by
 refine ctr2 zaj Tryz.func36 Tryz.call36 ?_;rintro w0 X hX ⟨a,b,_⟩ hp
 iterate 2 (refine za (za (zaa zaj ?_)))
 obtain⟨a1,a2,a3,a4,a5,a6,la,a8,⟨⟩⟩:=a;obtain⟨b1,b2,b3,b4,b5,b6,lb,b8,⟨⟩⟩:=b;have ht:(bif (bif (bif (bif (bif (bif (bif a1 != b1 then true else a2 != b2) then true else a3 != b3) then true else a4 != b4) then true else a5 != b5) then true else a6 != b6) then true else !eqb .str a8 b8) then true else((la.length:Nat):Int) != ((lb.length:Nat):Int))=true↔¬(a1=b1/\a2=b2/\a3=b3/\a4=b4/\a5=b5/\a6=b6/\a8=b8/\la.length=lb.length):=by
  rw[zzM];simp only[b_or,yW,bne_iff_ne,zL,decide_eq_false_iff_not];constructor
  .rintro (((((((h|h)|h)|h)|h)|h)|h)|h) ⟨x1,x2,x3,x4,x5,x6,x7,x8⟩
   .exact h x1
   .exact h x2
   .exact h x3
   .exact h x4
   .exact h x5
   .exact h x6
   .exact h x7
   .exact h (by rw[x8])
  .intro h;by_cases x1:a1=b1
   .by_cases x2:a2=b2
    .by_cases x3:a3=b3
     .by_cases x4:a4=b4
      .by_cases x5:a5=b5
       .by_cases x6:a6=b6
        .by_cases x7:a8=b8
         .refine .inr λe=>h ⟨x1,x2,x3,x4,x5,x6,x7,by omega⟩
         .exact .inl (.inr x7)
        .exact .inl (.inl (.inr x6))
       .exact .inl (.inl (.inl (.inr x5)))
      .exact .inl (.inl (.inl (.inl (.inr x4))))
     .exact .inl (.inl (.inl (.inl (.inl (.inr x3)))))
    .exact .inl (.inl (.inl (.inl (.inl (.inl (.inr x2))))))
   .exact .inl (.inl (.inl (.inl (.inl (.inl (.inl x1))))))
 refine zaf rfl (λhb=>?_) (λhb=>?_)
 .have hb:=ht.1 hb;(repeat refine za (za (zaa zaj ?_)));refine za ?_;refine zp ⟨.inr rfl,D1 ?_⟩;refine(ziX.2 λe=>hb ?_).symm;cases e;exact⟨rfl,rfl,rfl,rfl,rfl,rfl,rfl,rfl⟩
 .have hb:¬_:=λh=>by rw[ht.2 h]at hb;cases hb
  obtain⟨rfl,rfl,rfl,rfl,rfl,rfl,rfl,hlen⟩:=Classical.not_not.1 hb;apply zah;refine za (za (zaa zaj ?_));refine za (za ?_);refine xP (ι:=Nat) (λk=>⟨[(2,⟨.optr nd,⟨0,nd,.here⟩⟩),(3,⟨.optr nd,⟨1,nd,.here⟩⟩),(5,⟨i64,(k:Int)⟩)],[(0,some (.box nd (a1,a2,a3,a4,a5,a6,la,a8,()))),(1,some (.box nd (a1,a2,a3,a4,a5,a6,lb,a8,())))],2⟩) (λk=>k<=la.length/\la.take k=lb.take k) (λk=>la.length-k) 0 ⟨zk _,rfl⟩ ⟨⟨rfl,rfl,rfl,t_⟩,⟨rfl,rfl,t_⟩,rfl,rfl⟩ ?_;rintro k ⟨hk,he⟩;refine za (za (zaa zaj ?_));refine AWP.len 64 rfl λhl=>?_;have hl:la.length<=maxLen:=hl;unfold maxLen at hl;refine zaU rfl (λhb=>?_) (λhb=>?_)
  .have hb:(k:Int)<((la.length:Nat):Int):=hb;have x9:k<la.length:=o_;have x0:k<lb.length:=o_;have z0:(0:Int)<=(k:Int):=o_;have z1:(k:Int)<((la.length:Nat):Int):=o_;have z2:(k:Int)<((lb.length:Nat):Int):=o_;have g1:la.getD (k:Int).toNat (0:Int)=la[k]:=zaY x9;have g2:lb.getD (k:Int).toNat (0:Int)=lb[k]:=zaY x0;refine za (za (zdn 11 dM zaj rfl ?_));refine zaf rfl (λhc=>?_) (λhc=>?_)
   .have hc:(la.getD (k:Int).toNat (0:Int) != lb.getD (k:Int).toNat (0:Int))=true:=hc;rw[g1,g2]at hc;have hc:=bne_iff_ne.1 hc;(repeat refine za (za (zaa zaj ?_)));refine za ?_;refine zp ⟨.inr rfl,D1 ?_⟩;refine(ziX.2 λe=>hc ?_).symm;have e:la=lb:=congrArg ndI e;subst e;rfl
   .have hc:(la.getD (k:Int).toNat (0:Int) != lb.getD (k:Int).toNat (0:Int))=false:=hc;rw[g1,g2]at hc;have hc:=bne_eq_false_iff_eq.1 hc;apply zah;refine za (za (zac hX zaj rfl ?_ ?_))
    .exact zbb o_
    refine⟨k+1,⟨x9,?_⟩,by omega,⟨rfl,rfl,zdU _,t_⟩,⟨rfl,rfl,t_⟩,rfl,rfl⟩;rw[zS x9,zS x0,he,hc]
  .have hb:¬((k:Int)<((la.length:Nat):Int)):=hb;obtain rfl:k=la.length:=o_;(repeat refine za (za (zaa zaj ?_)));refine za ?_;refine zp ⟨.inr rfl,D1 ?_⟩;refine(znE.2 ?_).symm;rw[xR,hlen,xR]at he;rw[he]
noncomputable def zqX(a b:List Nd):Bool:=eqb (.slice nd) a b
theorem zij{a b:List Nd}:zqX a b=true↔a=b:=zbs
theorem zik{a b:List Nd}:zqX a b=false↔a≠b:=by rw[<-Bool.not_eq_true,zij]
noncomputable def zzT:Ctr:={ args:=[.slice nd,.slice nd],pre:=λ_=>[],res:=.bool,own:=none,out:=λx=>zqX x.1 x.2.1 }
noncomputable def zA0:Kn:={ gmK with C:=[(36,zv8)] }
theorem zdt:KnOk zb gmH zA0:=zaj.with (.cons ztO .nil)
set_option maxHeartbeats 8000000 in
theorem zwR:yT zb gmH 15 zzT:=by
 refine ctr2 zdt Tryz.func15 Tryz.call15 ?_;rintro w0 X hX ⟨(la:List Nd),(lb:List Nd),_⟩ hp;change AWP _ _ _ _ _ ⟨[(0,⟨.slice nd,la⟩),(1,⟨.slice nd,lb⟩)],[],0⟩ _;refine AWP.len 0 rfl λhl=>?_;unfold maxLen at hl
 iterate 2 (refine za (za (zaa zdt ?_)))
 refine zaf rfl (λhb=>?_) (λhb=>?_)
 .have hb:(((la.length:Nat):Int) != ((lb.length:Nat):Int))=true:=hb;have hb:=bne_iff_ne.1 hb;(repeat refine za (za (zaa zdt ?_)));refine za ?_;refine zp ⟨.inr rfl,D1 ?_⟩;exact(zik.2 λe=>hb (by have e:la=lb:=e;rw[e])).symm
 have hb:(((la.length:Nat):Int) != ((lb.length:Nat):Int))=false:=hb;have hb:=bne_eq_false_iff_eq.1 hb;have hlen:la.length=lb.length:=o_;apply zah;refine za (za (zaa zdt ?_));refine za (za ?_);refine xP (ι:=Nat) (λk=>⟨[(0,⟨.slice nd,la⟩),(1,⟨.slice nd,lb⟩),(5,⟨i64,(k:Int)⟩)],[],0⟩) (λk=>k<=la.length/\la.take k=lb.take k) (λk=>la.length-k) 0 ⟨zk _,rfl⟩ ⟨⟨rfl,rfl,rfl,t_⟩,t_,rfl,rfl⟩ ?_;rintro k ⟨hk,he⟩;refine za (za (zaa zdt ?_));refine zaU rfl (λhb=>?_) (λhb=>?_)
 .have hb:(k:Int)<((la.length:Nat):Int):=hb;have x1:k<la.length:=o_;have x0:k<lb.length:=o_;have z0:(0:Int)<=(k:Int):=o_;have z1:(k:Int)<((la.length:Nat):Int):=o_;have z2:(k:Int)<((lb.length:Nat):Int):=o_;have g1:la.getD (k:Int).toNat zNd=la[k]:=zaY x1;have g2:lb.getD (k:Int).toNat zNd=lb[k]:=zaY x0;refine za (za (zdn 10 dM zdt rfl ?_));refine zaf rfl (λhc=>?_) (λhc=>?_)
  .have hc:(!eqN (la.getD (k:Int).toNat zNd) (lb.getD (k:Int).toNat zNd))=true:=hc;rw[g1,g2,zL]at hc;have hc:=ziX.1 hc;(repeat refine za (za (zaa zdt ?_)));refine za ?_;refine zp ⟨.inr rfl,D1 ?_⟩;refine(zik.2 λe=>hc ?_).symm;have e:la=lb:=e;subst e;rfl
  .have hc:(!eqN (la.getD (k:Int).toNat zNd) (lb.getD (k:Int).toNat zNd))=false:=hc;rw[g1,g2,qM]at hc;have hc:=znE.1 hc;apply zah;refine za (za ?_);refine zac hX zdt rfl ?_ ?_
   .exact zbb o_
   refine⟨k+1,⟨x1,?_⟩,by omega,⟨rfl,rfl,zdU _,t_⟩,t_,rfl,rfl⟩;rw[zS x1,zS x0,he,hc]
 .have hb:¬((k:Int)<((la.length:Nat):Int)):=hb;obtain rfl:k=la.length:=o_;(repeat refine za (za (zaa zdt ?_)));refine za ?_;refine zp ⟨.inr rfl,D1 ?_⟩;refine(zij.2 ?_).symm;rw[xR,hlen,xR]at he;exact he
abbrev strs:Ty:=.slice .str
theorem zzL{a b:List UInt8}:eqb .str a b=(a==b):=by
 rw[zY,beq_iff_eq];exact zbs
def zz4:Ctr:={ args:=[strs,.str],pre:=λ_=>[],res:=i64,own:=none,out:=λx=>idx (λy=>x.2.1==y) x.1 }
theorem zxB:yT zb gmH 130 zz4:=by
 refine ctr2 zaj Tryz.func130 Tryz.call130 ?_;rintro w0 X hX ⟨(l:List (List UInt8)),(x:List UInt8),_⟩ hp;change AWP _ _ _ _ _ ⟨[(0,⟨strs,l⟩),(1,⟨.str,x⟩)],[],0⟩ _;refine AWP.len 0 rfl λhl=>?_;unfold maxLen at hl;(repeat refine za (za (zaa zaj ?_)));refine za ?_;refine xP (ι:=Nat) (λk=>⟨[(0,⟨strs,l⟩),(1,⟨.str,x⟩),(7,⟨i64,((l.length:Nat):Int)⟩),(8,⟨i64,(k:Int)⟩)],[],0⟩) (λk=>k<=l.length/\∀j(hj:j<l.length),j<k->(x==l[j])=false) (λk=>l.length-k) 0 ⟨by omega,by omega⟩ ⟨⟨rfl,rfl,rfl,rfl,t_⟩,t_,rfl,rfl⟩ ?_;rintro k ⟨hk,hn⟩;refine za (za (zaa zaj ?_));apply zaq;refine zaU rfl (λhb=>?_) (λhb=>?_)
 .have hb:(k:Int)<(l.length:Nat):=hb;have x0:k<l.length:=o_;have n0:(0:Int)<=(k:Int):=o_
  iterate 2 (refine za (za (zaa zaj ?_)))
  refine zaf rfl (λhb=>?_) (λhb=>?_)
  .have hc:eqb .str x (l.getD (k:Int).toNat [])=true:=hb;rw[zzL,zaY x0]at hc;(repeat refine za (za (zaa zaj ?_)));refine za ?_;refine zp ⟨.inr rfl,D1 ?_⟩;show(k:Int)=idx _ l;exact(zkZ x0 hc λj hj=>hn j _ hj).symm
  .have hc:eqb .str x (l.getD (k:Int).toNat [])=false:=hb;rw[zzL,zaY x0]at hc;refine za (za ?_);refine zac hX zaj rfl ?_ ?_
   .exact zbb o_
   exact⟨k+1,⟨by omega,λj hj x0=>by
    by_cases e:j=k
    .subst e;exact hc
    .exact hn j hj o_⟩,by omega,⟨rfl,rfl,rfl,zdU _,t_⟩,t_,rfl,rfl⟩
 .
  have:k=l.length:=o_;subst this;(repeat refine za (za (zaa zaj ?_)));refine za ?_;refine zp ⟨.inr rfl,D1 ?_⟩;exact(zk0 λj hj=>hn j hj hj).symm
def zz6:Ctr:={ args:=[strs,.str],pre:=λ_=>[],res:=.bool,own:=none,out:=λx=>List.contains x.1 x.2.1 }
def kIxS:Kn:={ gmK with C:=[(130,zz4)] }
theorem zsd:KnOk zb gmH kIxS:=zaj.with (.cons zxB .nil)
theorem zyy(l:List (List UInt8))(x:List UInt8):l.any (λy=>x==y)=l.contains x:=by
 rw[zY,List.any_eq_true,List.contains_iff_mem];constructor
 .rintro ⟨y,hy,e⟩;rw[beq_iff_eq.1 e];exact hy
 .exact λh=>⟨x,h,beq_iff_eq.2 rfl⟩
theorem zxF:yT zb gmH 115 zz6:=by
 refine ctr2 zsd Tryz.func115 Tryz.call115 ?_;rintro w0 X hX ⟨(l:List (List UInt8)),x,_⟩ hp;(repeat refine za (za (zaa zsd ?_)));refine za ?_;refine zp ⟨.inr rfl,D1 ?_⟩;show decide (idx (λy=>x==y) l>=0)=l.contains x;rw[znw,zyy]
def zwb:Ctr:={ args:=[.slice nd],pre:=λx=>[zi x.1<=100000],res:=strs,own:=none,out:=λx=>zdD x.1 }
def kNam:Kn:={ gmK with C:=[(115,zz6)] }
theorem zd8:KnOk zb gmH kNam:=zaj.with (.cons zxF .nil)
theorem zvg(out:List (List UInt8))(n:Nd):(addN out n).length<=out.length+1:=by
 unfold addN;split
 .rw[zg];exact zj _
 .omega
theorem zAk{te:zo}{x y:List (List UInt8)}(h:x=y):some (OObj.buf te .str x)=some (OObj.buf te .str y):=by rw[h]
theorem zuf:yT zb gmH 82 zwb:=by
 refine ctr2 zd8 Tryz.func82 Tryz.call82 ?_;rintro w0 X hX ⟨(r:List Nd),_⟩ hp;change AWP _ _ _ _ _ ⟨[(0,⟨.slice nd,r⟩)],[],0⟩ _;have hl:r.length<=100000:=hp
 iterate 2 (refine za (za (zaa zd8 ?_)))
 refine zhl hX 3 9 .str rfl rfl rfl ?_;refine za (za (zaa zd8 ?_));(repeat(first|apply zaq|apply zah|apply zay|apply zaw));refine xP (ι:=Nat) (λi=>⟨[(3,⟨.obuf .str,(0:Nat)⟩),(6,⟨.slice nd,r⟩),(7,⟨i64,((r.length:Nat):Int)⟩),(8,⟨i64,(i:Int)⟩)],[(0,some (.buf 9 .str (zdD (r.take i))))],1⟩) (λi=>i<=r.length/\(zdD (r.take i)).length<=i) (λi=>r.length-i) 0 ⟨zk _,zk _⟩ ⟨⟨rfl,rfl,rfl,rfl,t_⟩,⟨rfl,t_⟩,rfl,rfl⟩ ?_;rintro i ⟨hi,x3⟩;refine za (za (zaa zd8 ?_));apply zaq;refine zaU rfl (λhb=>?_) (λhb=>?_)
 .have hb:(i:Int)<(r.length:Nat):=hb;have x1:i<r.length:=o_;have n0:(0:Int)<=(i:Int):=o_;have x0:zdD (r.take (i+1))=addN (zdD (r.take i)) (r.getD ((i:Int)).toNat zNd):=by
   unfold zdD;rw[zS x1,List.foldl_append,zaY x1];rfl
  have x2:=zvg (zdD (r.take i)) (r.getD ((i:Int)).toNat zNd);refine za (za (zaa zd8 ?_));refine zak (Y':=⟨[(3,⟨.obuf .str,(0:Nat)⟩),(6,⟨.slice nd,r⟩),(7,⟨i64,((r.length:Nat):Int)⟩),(8,⟨i64,(i:Int)⟩),(5,⟨.optr nd,⟨1,nd,.here⟩⟩)],[(0,some (.buf 9 .str (zdD (r.take i)))),(1,some (.box nd (r.getD ((i:Int)).toNat zNd)))],2⟩) ⟨⟨rfl,rfl,rfl,rfl,rfl,t_⟩,⟨rfl,rfl,t_⟩,rfl,rfl⟩ ?_;generalize r.getD ((i:Int)).toNat zNd=m at *;generalize zdD (r.take i)=out at *;refine za (za (zaa zd8 ?_));have hq:(bif ndK m==18 then !out.contains (ndS m) else false)=((ndK m==18)&& !out.contains (ndS m)):=zcR _ _;have hlen:out.length+1<=1000000000:=o_;refine zaf rfl (λhc=>?_) (λhc=>?_)
  .have hc:=hq.symm.trans hc;refine za (za (zaa zd8 ?_));refine za (za ?_);refine zac hX zd8 rfl ?_ ?_
   .exact zbb o_
   refine⟨i+1,⟨x1,by rw[x0];omega⟩,by omega,⟨rfl,rfl,rfl,zdU _,t_⟩,⟨zAk ?_,t_⟩,rfl,rfl⟩;rw[x0];unfold addN;rw[if_pos hc];rfl
  .have hc:=hq.symm.trans hc;refine za (za ?_);refine zac hX zd8 rfl ?_ ?_
   .exact zbb o_
   refine⟨i+1,⟨x1,by rw[x0];omega⟩,by omega,⟨rfl,rfl,rfl,zdU _,t_⟩,⟨zAk ?_,t_⟩,rfl,rfl⟩;rw[x0];unfold addN;rw[if_neg (by rw[hc];decide)]
 .have hb:¬((i:Int)<(r.length:Nat)):=hb;obtain rfl:i=r.length:=o_;apply zaw;refine za (za (zaa zd8 ?_));refine vM hX 2 ?_;refine zp ⟨.inr rfl,D1 ?_⟩;show zdD (r.take r.length)=zdD r;rw[xR]
def zpS(rs:List Nd)(cs:List Cal)(d:Int):Prop:=zcG rs=0/\zdD rs=[]/\cs.length=3/\(∀c∈cs,zbv c)/\zjQ rs cs d
def zAc:Ctr:={ args:=[.slice nd,.slice cal,i64,i64],pre:=λx=>[zpS x.1 x.2.1 x.2.2.1,x.2.2.2.1=x.2.2.1+1],res:=i64,own:=none,out:=λ_=>0 }
def zA6:Kn:={ erK with C:=[(18,zu6),(82,zwb),(83,zv9)] }
theorem zfv:KnOk zb gmH zA6:=zfR.with (.cons zql (.cons zuf (.cons ztY .nil)))
theorem zyb:yT zb gmH 54 zAc:=by
 refine ctr2 zfv Tryz.func54 Tryz.call54 ?_;rintro w0 O hX ⟨(rs:List Nd),(cs:List Cal),(a:Int),(b:Int),_⟩ hp;obtain⟨⟨hv,x1,x2,x0,x3⟩,x8⟩:zpS rs cs a/\b=a+1:=hp;have h1:cs.length=3/\(∀c∈(cs:List Cal),zbv c):=⟨x2,x0⟩;obtain⟨⟨x7,x9⟩,⟨x4,x6⟩,x5⟩:=x3;have hlen:rs.length<=100000:=o_;have q1:inR .i64 (b-1):=zad o_ o_;change AWP _ _ _ _ _ ⟨[(0,⟨.slice nd,rs⟩),(1,⟨.slice cal,cs⟩),(2,⟨i64,a⟩),(3,⟨i64,b⟩)],[],0⟩ _;refine za (za (zaa zfv ?_));refine za (za ?_);refine zac hX zfv rfl ?_ ?_
 .show allP _;exact z_
 have e1:(zcG rs != 0)=false:=by rw[hv];rfl
 have e2:decide (a<0)=false:=decide_eq_false o_;have e3:decide (b<a)=false:=decide_eq_false o_;refine zaf rfl (λhb=>?_) (λhb=>?_)
 .have hb:(bif (bif (zcG rs != 0) then true else decide (a<0)) then true else decide (b<a))=true:=hb;rw[e1,e2,e3]at hb;cases hb
 refine za (za (zaa zfv ?_));refine zaf rfl (λhb=>?_) (λhb=>?_)
 .have hb:decide (((zdD rs).length:Int)>0)=true:=hb;rw[x1]at hb;cases hb
 refine za (za (zac hX zfv rfl ?_ ?_))
 .show allP _;exact z_
 refine zaf rfl (λhb=>?_) (λhb=>?_)
 .
  cases hbb:decide (b>a)<;>rw[hbb]at hb<;>cases hb
 apply zah;refine za (za (zaa zfv ?_));exact zp ⟨.inr rfl,D1 rfl⟩
def gd(h:Int->Bool)(x:Int):Bool:=bif decide (x<0) then false else h x
def hN(rs:List Nd)(cs:List Cal):Nat->Int->Int->Bool
 |0,_,_=>false
 |f+1,i,d=>zbU cs (gd (hN rs cs f (nL (rs.getD i.toNat (zav nd))))) (gd (hN rs cs f (nR (rs.getD i.toNat (zav nd))))) (rs.getD i.toNat (zav nd)) d
def hR(rs:List Nd)(cs:List Cal)(i d:Int):Bool:=hN rs cs (i.toNat+1) i d
def opsP(rs:List Nd):Prop:=∀i:Nat,i<rs.length->(oprN (rs.getD i (zav nd))>0->0<=nL (rs.getD i (zav nd))/\nL (rs.getD i (zav nd))<i)/\(oprN (rs.getD i (zav nd))>1->0<=nR (rs.getD i (zav nd))/\nR (rs.getD i (zav nd))<i)
theorem zf2{n:Nd}{k:Int}(h:n.1=k):oprN n=(zbK.getD k.toNat (zav shp)).1:=by unfold oprN;rw[h]
theorem zex{cs:List Cal}{n:Nd}{d:Int}{hL x0 hR hR':Int->Bool}(h1:oprN n>0->hL=x0)(h2:oprN n>1->hR=hR'):zbU cs hL hR n d=zbU cs x0 hR' n d:=by
 unfold zbU;by_cases k1:n.1=1
 .rw[if_pos k1,if_pos k1]
 rw[if_neg k1,if_neg k1];by_cases k2:n.1=2
 .rw[if_pos k2,if_pos k2]
 rw[if_neg k2,if_neg k2];by_cases k3:n.1=3
 .rw[if_pos k3,if_pos k3]
 rw[if_neg k3,if_neg k3];by_cases k4:n.1=4
 .rw[if_pos k4,if_pos k4]
 rw[if_neg k4,if_neg k4];by_cases k5:n.1=5
 .rw[if_pos k5,if_pos k5]
 rw[if_neg k5,if_neg k5];by_cases k6:n.1=6
 .rw[if_pos k6,if_pos k6]
 rw[if_neg k6,if_neg k6];by_cases k7:n.1=7
 .rw[if_pos k7,if_pos k7]
 rw[if_neg k7,if_neg k7];have two:∀k:Int,n.1=k->(zbK.getD k.toNat (zav shp)).1=2->hL=x0/\hR=hR':=λk hk he=>by
  have:=(zf2 hk).trans he;exact⟨h1 (by rw[this];decide),h2 (by rw[this];decide)⟩
 have one:∀k:Int,n.1=k->(zbK.getD k.toNat (zav shp)).1=1->hL=x0:=λk hk he=>by
  have:=(zf2 hk).trans he;exact h1 (by rw[this];decide)
 by_cases k8:n.1=8
 .obtain⟨e1,e2⟩:=two 8 k8 rfl;rw[e1,e2]
 by_cases k9:n.1=9
 .obtain⟨e1,e2⟩:=two 9 k9 rfl;rw[e1,e2]
 by_cases x7:n.1=10
 .obtain⟨e1,e2⟩:=two 10 x7 rfl;rw[e1,e2]
 by_cases x8:n.1=17
 .obtain⟨e1,e2⟩:=two 17 x8 rfl;rw[e1,e2]
 by_cases x2:n.1=11
 .rw[one 11 x2 rfl];simp only[x2,yV,if_true,if_false]
 by_cases x1:n.1=12
 .rw[one 12 x1 rfl];simp only[x1,yV,if_true,if_false]
 by_cases x6:n.1=13
 .rw[one 13 x6 rfl];simp only[x6,yV,if_true,if_false]
 by_cases x4:n.1=14
 .rw[one 14 x4 rfl];simp only[x4,yV,if_true,if_false]
 by_cases x5:n.1=15
 .rw[one 15 x5 rfl];simp only[x5,yV,if_true,if_false]
 by_cases x3:n.1=16
 .rw[one 16 x3 rfl];simp only[x3,yV,if_true,if_false]
 simp only[k8,k9,x7,x2,x1,x6,x4,x5,x3,x8,if_false]
theorem zgA{rs:List Nd}{cs:List Cal}(ho:opsP rs):∀(f g:Nat)(i:Nat),i<rs.length->i<f->i<g->hN rs cs f (i:Int)=hN rs cs g (i:Int)
 |0,_,i,_,h,_=>absurd h (yH _)
 |_,0,i,_,_,h=>absurd h (yH _)
 |f+1,g+1,i,hi,h1,h2=>by
  funext d
  rw[hN,hN,zH];obtain⟨hL,hR⟩:=ho i hi;refine zex (λh=>?_) (λh=>?_)
  .obtain⟨a,b⟩:=hL h;obtain⟨j,hj⟩:∃j:Nat,nL (rs.getD i (zav nd))=(j:Int):=⟨_,(qh a).symm⟩;rw[hj]at b ⊢;rw[zgA ho f g j o_ o_ o_]
  .obtain⟨a,b⟩:=hR h;obtain⟨j,hj⟩:∃j:Nat,nR (rs.getD i (zav nd))=(j:Int):=⟨_,(qh a).symm⟩;rw[hj]at b ⊢;rw[zgA ho f g j o_ o_ o_]
theorem zuF{rs:List Nd}{cs:List Cal}(ho:opsP rs){i d:Int}(h0:0<=i)(h1:i<rs.length):hR rs cs i d=zbU cs (gd (hR rs cs (nL (rs.getD i.toNat (zav nd))))) (gd (hR rs cs (nR (rs.getD i.toNat (zav nd))))) (rs.getD i.toNat (zav nd)) d:=by
 obtain⟨k,rfl⟩:∃k:Nat,i=(k:Int):=⟨_,(qh h0).symm⟩;have hk:k<rs.length:=o_;unfold hR;rw[hN,zH];obtain⟨hL,hR⟩:=ho k hk;refine zex (λh=>?_) (λh=>?_)
 .obtain⟨a,b⟩:=hL h;obtain⟨j,hj⟩:∃j:Nat,nL (rs.getD k (zav nd))=(j:Int):=⟨_,(qh a).symm⟩;rw[hj]at b ⊢
  funext x
  rw[zH,zgA ho k (j+1) j o_ o_ o_]
 .obtain⟨a,b⟩:=hR h;obtain⟨j,hj⟩:∃j:Nat,nR (rs.getD k (zav nd))=(j:Int):=⟨_,(qh a).symm⟩;rw[hj]at b ⊢
  funext x
  rw[zH,zgA ho k (j+1) j o_ o_ o_]
def farD(rs:List Nd)(i d:Int):Prop:=d<=1000+1000*((rs.length:Int)-i)
def evP(rs:List Nd)(cs:List Cal):Prop:=∀C:EvC,C.rs=rs->C.cs=cs->∀i d,0<=i->i<(rs.length:Int)->0<=d->farD rs i d->znp C (farD rs) i (rs.getD i.toNat (zav nd)) d
def zz7:Ctr:={ args:=[.slice nd,.slice cal,i64],pre:=λx=>[zpS x.1 x.2.1 x.2.2.1,opsP x.1,evP x.1 x.2.1],res:=.tup .bool (.tup i64 .unit),own:=none,out:=λx=>(gd (hR x.1 x.2.1 ((zi x.1:Nat)-1:Int)) x.2.2.1,0,()) }
def zA5:Kn:={ erK with C:=[(54,zAc)] }
theorem zkW:KnOk zb gmH zA5:=zfR.with (.cons zyb .nil)
theorem zyW{X:Ownr}{n:Nat}{F:Frame}{a:Act}{w0 w:zh}{U:Nat->zd}(x0:Kept X.R w0 w)(x2:a.tmps.size=n)(x1:a.defers=X.D)(hK:X.K=0)(hF:∀q∈F,RepV w (OSet X [] U) U q.2.t q.2.x (a.tmps.getD q.1 undef))(hb:bndB 0 F=true):Sim w0 X n ⟨F,[],0⟩ U a w:=by
 have h:=zvC (w:=w) (U:=U) x2 x1 hK hF hb;exact⟨h.sz,h.df,x0,h.fr,λi o h=>(by cases h),λi o g h=>(by cases h),λi j oi oj h=>(by cases h),λi o h=>(by cases h),h.fix,h.hb,λi o h=>(by cases h)⟩
theorem RL.call{P:Program}{ops:Array Oper}{R:Exit->Act->zh->Prop}{n:Nat}{T:zjD}{w:zh}{o:Oper}{rest:List Oper}{f:FuncId}{args:Array Operand}{ts:Array zo}(ho:o.op=.call ⟨.value (.func f),args,ts⟩)(x1:o.guard=none){d:Nat}(x0:o.dst=some d)(x2:Nat.blt d n=true)(x3:∀(ar:Array zd)(w:zh),(callFunc f ar).run P w=.ok (.enter f ar) w)
  {vs:List zd} (hvs:∀a,Knows n T a->args.toList.map a.eval=vs) (h:Calls P f vs.toArray w λe w'=>∃v,e=.returned v/\RL P ops R n rest ((d,v)::T) w'):RL P ops R n (o::rest) T w:=λa ha=>by
 refine wpListIn_plain x1 λK hK=>zbH (λc e=>by rw[ho]at e;cases e) (zen ho x3 ?_);rw[hvs a ha];refine h.mono λe w'⟨v,he,hr⟩=>⟨v,he,?_⟩;rw[x0];exact hK _ _ (hr _ (ha.put x2 v))
theorem zBe{x1 w:zh}{rV:zd}{rs:List Nd}{cs:List Cal}{be m:Nat}{er:zd}{xs:List zd}(x4:gmH x1)(x5:RepV x1 (λ_=>False) (λ_=>undef) (.slice nd) rs rV)(x2:cs≠ [])(x6:∀c∈cs,zbv c)(h:NewEv x1 rV cs be m er xs w)(H:Int->Int->Bool):∃bs cap,EvOk ⟨w,m,be,bs,cap,rV,rs,cs,H⟩:=by
 have x7:=zhE x4;rcases h.row.2 with ⟨_,e⟩|⟨bs,cap,cur,e,hb,hcur,_⟩
 .exact absurd (List.eq_nil_of_length_eq_zero e) x2
 refine⟨bs,cap,?_⟩;have x3:bs≠m:=λhh=>h.rm (by rw[e, <-hh];rfl);refine⟨λhh=>by have:m=3:=hh;have:=h.m0;omega,λhh=>by have:m=5:=hh;have:=h.m0;omega,h.m1,h.be1,h.bem,(zl.1 hcur).1,x3,λj u hj=>?_,?_,λi c hc=>?_,x6⟩
 .unfold World.cell?;have x0:=h.cel;rw[e]at x0;simp only[yL];rw[x0];have hj:([rV,Value.slice (some ⟨bs,0,none⟩) cs.length cap,Value.map (some m)]++zkT be)[j]? =some u:=hj
  simpa using hj
 .exact zZ ⟨h.bel.size,λg hg _=>h.bel.block g hg,λg hg ho=>by have:g=m:=ho;have:=h.m0;omega⟩ (.slice nd) _ _ x5
 .obtain⟨p,hp,hr⟩:=h.eras i c hc;refine⟨p,?_,zZ ⟨zj _,λ_ _ _=>rfl,λg _ ho=>.inr (.inl ho)⟩ _ _ _ hr⟩;have:=h.row.cells (g:=bs) (by rw[e];rfl) i p hp;rw[Addr.add_mid,yL]at this;exact this
theorem zwz{P:Program}{a:Act}{w:zh}{o:Oper}{x y:Operand}{t t2:zo}{i j:Int}(h:o.op=.binOp .sub t x y t2)(hx:a.eval x=.int .i64 i)(hy:a.eval y=.int .i64 j)(hr:inR .i64 (i-j)):(execOp a.eval o).run P w=.ok (.value (.int .i64 (i-j))) w:=by
 have h1:(Go.binOp .sub t (.int .i64 i) (.int .i64 j)).run P w=.ok (.int .i64 (i-j)) w:=by
  rw[zmG d_ d_];exact zja (vc:=[inR .i64 (i-j)]) rfl hr
 unfold execOp;simp only[h,hx,hy];exact zbz (zbC (by intro cs e;cases e) (by intro e;cases e) h1)
set_option maxHeartbeats 2000000 in
theorem zzC:yT zb gmH 23 zz7:=by
 refine ctr2 zkW Tryz.func23 Tryz.call23 ?_;rintro w0 O hX ⟨(rs:List Nd),(cs:List Cal),(d:Int),_⟩ hp;obtain⟨x2,x3,xf⟩:zpS rs cs d/\opsP rs/\evP rs cs:=hp;have x1:=x2;obtain⟨hv,xi,xa,x8,⟨xk,xm⟩,⟨xh,xn⟩,xj⟩:=x1;have x5:min d 4194305=d:=o_;have q1:inR .i64 (d+1):=zad o_ o_;change AWP _ _ _ _ _ ⟨[(0,⟨.slice nd,rs⟩),(1,⟨.slice cal,cs⟩),(2,⟨i64,d⟩)],[],0⟩ _
 iterate 2 (refine za (za (zaa zkW ?_)))
 refine zak (Y':=⟨[(0,⟨.slice nd,rs⟩),(1,⟨.slice cal,cs⟩),(2,⟨i64,d⟩),(8,⟨i64,d⟩)],[],0⟩) ⟨⟨rfl,rfl,rfl,vI64 x5,t_⟩,t_,rfl,rfl⟩ ?_
 iterate 2 (refine za (za (zaa zkW ?_)))
 refine zaf rfl (λhb=>by cases hb) (λhb=>?_);apply zah;refine zak (Y':=⟨[(0,⟨.slice nd,rs⟩),(1,⟨.slice cal,cs⟩),(2,⟨i64,d⟩)],[],0⟩) ⟨⟨rfl,rfl,rfl,t_⟩,t_,rfl,rfl⟩ ?_;intro U a w hs;obtain⟨u0,x7⟩:∃u,u=a.tmps.getD 0 undef:=⟨_,rfl⟩;obtain⟨u1,xb⟩:∃u,u=a.tmps.getD 1 undef:=⟨_,rfl⟩;have x6:RepV w (λ_=>False) (λ_=>undef) (.slice nd) rs u0:=x7▸zZ ⟨zj _,λ_ _ _=>rfl,λ_ _ h=>h.elim⟩ (.slice nd) _ _ (hs.fr 0);have xd:RepV w (λ_=>False) (λ_=>undef) (.slice cal) cs u1:=xb▸zZ ⟨zj _,λ_ _ _=>rfl,λ_ _ h=>h.elim⟩ (.slice cal) _ _ (hs.fr 1);have h2:=RepV.int (hs.fr 2);have x9:=hX.2.2 w hs.bel;obtain⟨A0,c0,x4⟩:∃A c,u0=.slice A rs.length c:=by
  rcases RepV.slice x6 with ⟨e,A,c,h,_⟩|⟨g,off,c,vs,h,_⟩
  .exact⟨A,c,by rw[h,e];rfl⟩
  .exact⟨_,_,h⟩
 let R:Exit->Act->zh->Prop:=λe a' w'=>e=.ret/\a'.tmps.size=29/\a'.defers=[]/\xG w.heap.size w w'/\a'.tmps.getD 6 undef=.bool (gd (hR rs cs ((rs.length:Int)-1)) d)/\a'.tmps.getD 7 undef=.int .i64 0
 refine zT ((?_:RC zb R 29 _ [(0,u0),(1,u1),(2,.int .i64 d)] w) a ⟨hs.sz,hs.df,zkq (λq hq=>?_)⟩) ?_
 .refine RC.seq (RC.region ?_);refine yY rfl (by intro c e;cases e) rfl rfl (u:=u0) (w':=w) (λa ha=>zbN rfl (ha.t 0 _ rfl)) ?_;refine yY rfl (by intro c e;cases e) rfl rfl (u:=u1) (w':=w) (λa ha=>zbN rfl (ha.t 1 _ rfl)) ?_;refine RL.call rfl rfl rfl rfl Tryz.call55 (vs:=[u0,u1]) (λa ha=>?_) ((zue x9 x6 xd x8 o_).mono λe w1⟨be,m,er,xs,he,hn⟩=>⟨_,he,?_⟩)
  .show [a.eval (.tmp 21),a.eval (.tmp 22)]=_;rw[show a.eval (.tmp 21)=u0 from ha.t 21 _ rfl,show a.eval (.tmp 22)=u1 from ha.t 22 _ rfl]
  refine yY rfl (by intro c e;cases e) rfl rfl (u:=u0) (w':=w1) (λa ha=>zbN rfl (ha.t 0 _ rfl)) ?_;refine yY rfl (by intro c e;cases e) rfl rfl (u:=.int .i64 (rs.length:Int)) (w':=w1) (λa ha=>zvP (x:=.tmp 24) rfl Tryz.underlying36 (show a.eval (.tmp 24)=_ from(ha.t 24 _ rfl).trans x4)) ?_;refine yY rfl (by intro c e;cases e) rfl rfl (u:=.int .i64 ((rs.length:Int)-1)) (w':=w1) (λa ha=>zwz (x:=.tmp 25) (y:=.const (.int .i64 1)) rfl (ha.t 25 _ rfl) rfl (zad o_ o_)) ?_;refine yY rfl (by intro c e;cases e) rfl rfl (u:=.int .i64 d) (w':=w1) (λa ha=>zbN rfl (ha.t 2 _ rfl)) ?_;obtain⟨bs,cap,hC⟩:=zBe x9 x6 (by intro e;rw[e]at xa;cases xa) x8 hn (hR rs cs)
  let C:EvC:=⟨w1,m,be,bs,cap,u0,rs,cs,hR rs cs⟩
  have xc:=zsn hC (D:=farD rs) (λi d h0 h1 h2=>zuF x3 h0 h1) (λi d h0 h1 h2 h3=>xf C rfl rfl i d h0 h1 h2 h3) rs.length;refine RL.call rfl rfl rfl rfl Tryz.call56 (vs:=[C.ev,.int .i64 ((rs.length:Int)-1),.int .i64 d]) (λa ha=>?_) ((xc.2 w1 (C.ev,(rs.length:Int)-1,d,()) [C.ev,.int .i64 ((rs.length:Int)-1),.int .i64 d] ?_ ?_ ⟨hn.gm,Kept.refl _ _⟩ ⟨#[],0,hn.map,λe he=>absurd he jd⟩).mono λe w2⟨he,hk,_⟩=>⟨_,he,?_⟩)
  .show [a.eval (.tmp 23),a.eval (.tmp 26),a.eval (.tmp 27)]=_;rw[show a.eval (.tmp 23)=C.ev from ha.t 23 _ rfl,show a.eval (.tmp 26)=_ from ha.t 26 _ rfl,show a.eval (.tmp 27)=_ from ha.t 27 _ rfl]
  .exact⟨_,_,rfl,rfl,_,_,rfl,(xJ (t:=i64) rfl).2 rfl,_,_,rfl,(xJ (t:=i64) rfl).2 rfl,rfl⟩
  .exact⟨rfl,⟨by show 0<=(rs.length:Int)-1;omega,by show(rs.length:Int)-1<(rs.length:Int);omega⟩,by show(rs.length:Int)-1<(rs.length:Int);omega,zad (by show _<=(rs.length:Int)-1;omega) (by show(rs.length:Int)-1<=_;omega),zad (by show _<=d;omega) (by show d<=_;omega),λ_=>by show d<=1000+1000*((rs.length:Int)-((rs.length:Int)-1));omega⟩
  refine yY rfl (by intro c e;cases e) rfl rfl (u:=.bool (gd (hR rs cs ((rs.length:Int)-1)) d)) (w':=w2) (λa ha=>zi9 rfl (ha.t 28 _ rfl)) ?_;refine yY rfl (by intro c e;cases e) rfl rfl (u:=.int .i64 0) (w':=w2) (λa ha=>zi9 rfl rfl) ?_;refine RL.nil λa ha=>?_;have x0:=hn.bel;exact wpIn_ret ⟨rfl,ha.sz,ha.df,⟨hk.os.trans x0.os,hk.tape.trans x0.tape,hk.output.trans x0.output,zJ x0.size hk.size,λg hg=>(hk.block g (zy hg x0.size) λe=>by have e:g=m:=e;have:=hn.m0;omega).trans (x0.block g hg)⟩,ha.t 6 _ rfl,ha.t 7 _ rfl⟩
 .simp only[zs,qd,or_false]at hq;rcases hq with rfl|rfl|rfl
  .exact x7.symm
  .exact xb.symm
  .exact h2
 .rintro e a' w' ⟨rfl,xe,xg,x0,h6,h7⟩;refine⟨⟨[(6,⟨.bool,gd (hR rs cs ((rs.length:Int)-1)) d⟩),(7,⟨i64,(0:Int)⟩)],[],0⟩,λ_=>undef,zyW (hs.bel.then x0) xe xg rfl (λq hq=>?_) rfl,.inr rfl,D2 rfl⟩;simp only[zs,qd,or_false]at hq;rcases hq with rfl|rfl
  .
   rw[h6];exact RepV.ofBool
  .refine(xJ (t:=i64) rfl).2 ?_;rw[h7];rfl
def dgS(n:Nat):List UInt8:=if n<10 then [yR (48+n)] else [yR (48+n/10),yR (48+n%10)]
def zAa:Ctr:={ args:=[i64],pre:=λx=>[0<=x.1,x.1<=99],res:=.str,own:=none,out:=λx=>dgS x.1.toNat }
theorem zsN:yT zb gmH 11 zAa:=by
 refine ctr2 zaj Tryz.func11 Tryz.call11 ?_;rintro w0 X hX ⟨(n:Int),_⟩ hp;obtain⟨h0,h1⟩:0<=n/\n<=99:=hp;obtain⟨k,rfl⟩:∃k:Nat,n=(k:Int):=⟨n.toNat,by omega⟩;have hk:=o_
 iterate 2 (refine za (za (zaa zaj ?_)))
 have q0:inR .i64 (48+(k:Int)):=zad o_ o_;refine zaU rfl (λhb=>?_) (λhb=>?_)
 .have hb:(k:Int)<10:=hb;refine za (za (zaa zaj ?_));refine zp ⟨.inr rfl,D1 ?_⟩;show [yR (uH ((48+(k:Int))%256))]=dgS k;unfold dgS;rw[if_pos o_,show uH ((48+(k:Int))%256)=48+k by omega]
 .have hb:¬((k:Int)<10):=hb;apply zah;have d1:(k:Int).tdiv 10=((k/10:Nat):Int):=rfl;have d2:(k:Int).tmod 10=((k%10:Nat):Int):=rfl;have q1:inR .i64 ((k:Int).tdiv 10):=by rw[d1];exact zad o_ o_
  have q2:inR .i64 (48+(k:Int).tdiv 10):=by rw[d1];exact zad o_ o_
  have q3:inR .i64 (48+(k:Int).tmod 10):=by rw[d2];exact zad o_ o_
  have q4:(10:Int)≠0:=d_;refine za (za (zaa zaj ?_));refine zp ⟨.inr rfl,D1 ?_⟩;show [yR (uH ((48+(k:Int).tdiv 10)%256)),yR (uH ((48+(k:Int).tmod 10)%256))]=dgS k;unfold dgS;rw[if_neg o_,d1,d2,show uH ((48+((k/10:Nat):Int))%256)=48+k/10 by omega,show uH ((48+((k%10:Nat):Int))%256)=48+k%10 by omega]
noncomputable def memP(s:List UInt8)(cs:List Cal)(d:Int):Prop:=(za9 s).2.2=0/\zpS (za9 s).1 cs d/\opsP (za9 s).1/\evP (za9 s).1 cs
noncomputable def memS(s:List UInt8)(cs:List Cal)(d:Int):Bool:=gd (hR (za9 s).1 cs (((za9 s).1.length:Nat)-1:Int)) d
noncomputable def cMem:Ctr:={ args:=[.str,.slice cal,i64],pre:=λx=>[memP x.1 x.2.1 x.2.2.1],res:=.tup .bool (.tup .bool .unit),own:=none,out:=λx=>(memS x.1 x.2.1 x.2.2.1,true,()) }
noncomputable def kMem:Kn:={ gmK with C:=[(12,zo5),(23,zz7)] }
theorem znt:KnOk zb gmH kMem:=zaj.with (.cons zkE<|.cons zzC .nil)
theorem zrB:yT zb gmH 10 cMem:=by
 refine ctr2 znt Tryz.func10 Tryz.call10 ?_;rintro w0 O hX ⟨s,cs,d,_⟩ hp;obtain⟨he,h1,h2,h3⟩:=hp
 iterate 3 (refine za (za (zaa znt ?_)))
 refine za (za (zac hX znt rfl ?_ ?_))
 .
  exact z_
 refine zp ⟨.inr rfl,D2 ?_⟩;show(memS s cs d,(bif ((za9 s).2.2==0) then((0:Int)==0) else false),())=(memS s cs d,true,());rw[he];rfl
def mdMo(c:Cal):List Int:=(c.2.1.take 4).map λx=>1+x%6
def zcZ(c:Cal):List Int:=if(mdMo c).length=0 then [5,3] else mdMo c
def mdLp(c:Cal):Int:=c.2.2.1%((zcZ c).length+1:Int)-1
def zeM:List Int:=[4,3,2,6,12,1]
def mdRu(r:Lr):Lr:=(zeM.getD (r.1%6).toNat 0,r.2.1%zeM.getD (r.1%6).toNat 0,r.2.2.1,())
def mdRs(c:Cal):List Lr:=if mdLp c>=0 then(c.2.2.2.1.take 4).map mdRu else []
def zrG(c:Cal):Cal:=(c.1%200,zcZ c,mdLp c,mdRs c,())
def zwd:Ctr:={ args:=[cal],pre:=λ_=>[],res:=cal,own:=none,out:=λx=>zrG x.1 }
def kMdC:Kn:={ gmK with C:=[(9,cMod)],H:=[25] }
theorem zaK:KnOk zb gmH kMdC:=⟨zeK,zdm,.cons zrA.lift .nil,zcb,RsOk.nil⟩
theorem zAR{c:Cal}{i:Nat}(h:i<(mdMo c).length):(mdMo c)[i]=1+c.2.1.getD i 0%6:=by
 have h1:i<c.2.1.length:=by
  unfold mdMo at h;rw[jy,yU]at h;omega
 simp[mdMo,zu,zI h1]
theorem zoW{k:Int}:1<=zeM.getD (k%6).toNat 0/\zeM.getD (k%6).toNat 0<=12:=by
 have h1:=qq k (b:=6) d_;have h2:=xS k (b:=6) d_;rcases (show k%6=0\/k%6=1\/k%6=2\/k%6=3\/k%6=4\/k%6=5 by omega) with h|h|h|h|h|h<;>rw[h]<;>decide
theorem zAG{c:Cal}{i:Nat}(h:i<(mdRs c).length):(mdRs c)[i]=mdRu (c.2.2.2.1.getD i (zav lru))/\i<c.2.2.2.1.length/\i<4/\mdLp c>=0:=by
 unfold mdRs at h;split at h
 .rename_i hl;rw[jy,yU]at h;have h1:i<c.2.2.2.1.length:=o_;refine⟨?_,h1,by omega,hl⟩;simp[mdRs,hl,zu,zI h1]
 .simp at h
theorem zvF(c:Cal):(mdRs c).length=if mdLp c>=0 then min 4 c.2.2.2.1.length else 0:=by
 unfold mdRs;split<;>simp
abbrev mcE(e:Int)(l:List Int)(r:List Lr):Owns:=[(1,some (.hbox 25 ((zbw cal).map evC))),(2,some (.hbox 25 [⟨i64,e⟩,⟨.obuf i64,(3:Nat)⟩,⟨i64,(0:Int)⟩,⟨.obuf lru,(4:Nat)⟩])),(3,some (.buf 3 i64 l)),(4,some (.buf 56 lru r))]
abbrev mcF(c:Cal):Frame:=[(1,⟨.vptr cal,c⟩),(2,⟨.hptr,((1:Nat),(0:Nat))⟩),(3,⟨.hptr,((2:Nat),(0:Nat))⟩)]
set_option maxHeartbeats 2000000 in
theorem zup:yT zb gmH 6 zwd:=by
 refine ctr2 zaK Tryz.func6 Tryz.call6 ?_;rintro w0 O hX ⟨(c:Cal),_⟩ hp;change AWP _ _ _ _ _ ⟨[(0,⟨cal,c⟩)],[],0⟩ _;have q0:(0:Int)<200/\(200:Int)<=1000000000:=d_;obtain⟨e,he⟩:∃e:Int,e=c.1%200:=⟨_,rfl⟩;refine za (za (zaa zaK ?_));refine AWP.frzB hX 1 ?_;refine za (za ?_);refine zae ?_;refine AL.take 3 hX zaK rfl q0 ?_;refine jp (Y':=⟨(11,⟨i64,e⟩):: [(1,⟨.vptr cal,c⟩),(2,⟨.hptr,((1:Nat),(0:Nat))⟩)],[(1,some (.hbox 25 ((zbw cal).map evC)))],2⟩) ⟨⟨vI64 he.symm,rfl,rfl,t_⟩,⟨rfl,t_⟩,rfl,rfl⟩ ?_;refine zfl rfl (by intro c e;cases e) rfl rfl (.agg #[.int .i64 e,.slice none 0 0,.int .i64 0,.slice none 0 0]) (λU a w hs=>by
  have x8:a.eval (.tmp 11)=.int .i64 e:=RepV.int (hs.ops (.tmp 11));unfold execOp;refine zbz ?_;rw[show(#[(0,Operand.tmp 11)]:Array (Nat×Operand)).map (λp=>(p.1,a.eval p.2))= #[(0,Value.int .i64 e)] from by simp[x8]];exact run_build w _ _ _ (by kernel_rfl)) ?_
 refine zaI zaK ?_;refine AWP.nilLeaf 2 1 3 i64 rfl rfl rfl ?_;refine AWP.nilLeaf 2 3 56 lru rfl rfl rfl ?_;refine za (za (zaa zaK ?_));refine za (za ?_);have xd:(mdMo c).length<=4:=by unfold mdMo;rw[jy,yU];omega
 refine xP (ι:=Nat) (λi=>⟨(4,⟨i64,(i:Int)⟩)::mcF c,mcE e ((mdMo c).take i) [],5⟩) (λi=>i<=(mdMo c).length) (λi=>(mdMo c).length-i) 0 (zk _) ⟨⟨rfl,rfl,rfl,rfl,t_⟩,⟨rfl,rfl,rfl,rfl,t_⟩,rfl,rfl⟩ ?_
 .intro i hi;have xc:(mdMo c).length=min 4 c.2.1.length:=by unfold mdMo;rw[jy,yU]
  refine za (za (zac hX zaK rfl ?_ ?_))
  .
   exact z_
  refine zaf rfl (λhb=>?_) (λhb=>?_)
  .
   have x3:i<(mdMo c).length:=by
    by_cases h1:(i:Int)<(c.2.1.length:Int)
    .rw[decide_eq_true h1,cond_true]at hb;have:=of_decide_eq_true hb;omega
    .rw[decide_eq_false h1]at hb;cases hb
   have xf:i<c.2.1.length:=o_;obtain⟨y,hy⟩:∃y:Int,y=c.2.1.getD (i:Int).toNat (zav i64):=⟨_,rfl⟩;have x0:(0:Int)<=(i:Int)/\(i:Int)<(c.2.1.length:Int):=⟨yM i,by omega⟩;have qm:(0:Int)<6/\(6:Int)<=1000000000:=d_;have q1:inR .i64 (1+c.2.1.getD (i:Int).toNat (zav i64)%6):=zad o_ o_;have x1:((mdMo c).take i).length+1<=1000000000:=by rw[yU];omega
   apply zah;refine za (za ?_)
   let yy:Int:=c.2.1.getD (i:Int).toNat (zav i64)
   let B:Frame:=(4,⟨i64,(i:Int)⟩)::mcF c
   let L:List (Nat×Nat×V):=[(0,24,⟨.hptr,((2:Nat),(1:Nat))⟩),(1,25,⟨.obuf i64,(3:Nat)⟩),(2,26,⟨.vptr ints,c.2.1⟩),(3,27,⟨ints,c.2.1⟩),(4,28,⟨i64,(i:Int)⟩),(5,29,⟨.vptr i64,yy⟩),(6,30,⟨i64,yy⟩),(7,31,⟨i64,yy%6⟩),(8,32,⟨i64,1+yy%6⟩),(9,33,⟨ints,[1+yy%6]⟩)]
   refine zak (Y':=⟨B,mcE e ((mdMo c).take i) [],5⟩) ⟨⟨rfl,rfl,rfl,rfl,t_⟩,⟨rfl,rfl,rfl,rfl,t_⟩,rfl,rfl⟩ ?_;refine zcs 10 B L dM hX 13 rfl rfl (by kernel_rfl) (by kernel_rfl) rfl ⟨rfl,rfl,rfl,rfl,t_⟩ ?_ rfl ⟨rfl,rfl,rfl,rfl,t_⟩ rfl rfl ?_
   .refine(zA (zA (zA (zA (zA (zA (zA (zA (zA (zA True.intro ?_) ?_) ?_) ?_) ?_) ?_) ?_) ?_) ?_) ?_)
    .exact zx hX zaK k_
    .exact zx hX zaK k_
    .exact zx hX zaK k_
    .exact zx hX zaK k_
    .exact zx hX zaK k_
    .exact zx hX zaK ⟨_,rfl,λF=>⟨_,rfl,x0,rfl,λ_=>rfl,rfl⟩⟩
    .exact zx hX zaK k_
    .exact zx hX zaK ⟨_,rfl,λF=>⟨_,rfl,qm,rfl,λ_=>rfl,rfl⟩⟩
    .exact zx hX zaK ⟨_,rfl,λF=>⟨_,rfl,q1,rfl,λ_=>rfl,rfl⟩⟩
    .refine StepK.step _ rfl ⟨ints,[1+yy%6]⟩ (λ_=>rfl) λF N h=>?_;exact StepA.pure hX zaK (r:=([],⟨ints,[1+yy%6]⟩)) rfl t_ rfl rfl rfl rfl h
   refine zX hX zaK rfl x1 ?_
   iterate 2 (refine zX hX zaK rfl t_ ?_)
   refine QC.of ?_;have q2:inR .i64 ((i:Int)+1):=zad o_ o_;refine za (za (zaa zaK ?_));refine⟨i+1,by show i+1<=_;omega,by show _-(i+1)<_-i;omega,⟨vI64 rfl,rfl,rfl,rfl,t_⟩,⟨rfl,rfl,zmF ?_,rfl,t_⟩,rfl,rfl⟩;rw[zS x3];rw[zAR x3];rfl
  .
   have x9:i=(mdMo c).length:=by
    by_cases h1:(i:Int)<(c.2.1.length:Int)
    .rw[decide_eq_true h1,cond_true]at hb;have:=of_decide_eq_false hb;omega
    .omega
   subst x9;rw[xR];apply zaw
   let Eb (q:Int):Owns:=[(1,some (.hbox 25 ((zbw cal).map evC))),(2,some (.hbox 25 [⟨i64,e⟩,⟨ints,zcZ c⟩,⟨i64,q⟩,⟨.obuf lru,(4:Nat)⟩])),(4,some (.buf 56 lru []))]
   apply zaq;refine zpd (Y':=⟨mcF c,Eb 0,6⟩) ?_ ?_
   .apply zaq;refine za (za (zaa zaK ?_));refine zaf rfl (λhb=>?_) (λhb=>?_)
    .
     have x2:(mdMo c).length=0:=by have:=beq_iff_eq.1 hb;omega
     refine za (za (zaa zaK ?_));intro U a w h;refine⟨U,(h.frzL hX 2 1).fit ⟨⟨rfl,rfl,rfl,t_⟩,⟨rfl,?_,rfl,t_⟩,rfl,rfl⟩ (zk _)⟩;rw[zcZ,if_pos x2];rfl
    .
     have x2:(mdMo c).length≠0:=λh0=>by rw[h0]at hb;cases hb
     apply zah;intro U a w h;refine⟨U,(h.frzL hX 2 1).fit ⟨⟨rfl,rfl,rfl,t_⟩,⟨rfl,?_,rfl,t_⟩,rfl,rfl⟩ (zk _)⟩;rw[zcZ,if_neg x2];rfl
   have xi:1<=(zcZ c).length/\(zcZ c).length<=4:=by
    unfold zcZ;split
    .exact⟨by decide,by decide⟩
    .omega
   have q3:inR .i64 (((zcZ c).length:Int)+1):=zad o_ o_;have q4:(0:Int)<((zcZ c).length:Int)+1/\((zcZ c).length:Int)+1<=1000000000:=o_;have q5:inR .i64 (mdLp c):=by
    have h1:=qq c.2.2.1 (b:=((zcZ c).length:Int)+1) o_;have h2:=xS c.2.2.1 (b:=((zcZ c).length:Int)+1) o_;exact zad (by show _<=c.2.2.1%(((zcZ c).length:Int)+1)-1;omega) (by show c.2.2.1%(((zcZ c).length:Int)+1)-1<=_;omega)
   refine za (za ?_);refine zac hX zaK rfl ?_ ?_
   .exact⟨q3,q4.1,q4.2,q5⟩
   refine za (za (zaa zaK ?_));refine vM hX 5 ?_;refine za (za (zaa zaK ?_))
   let Ec (j:Nat):Owns:=[(1,some (.hbox 25 ((zbw cal).map evC))),(2,some (.hbox 25 [⟨i64,e⟩,⟨ints,zcZ c⟩,⟨i64,mdLp c⟩,⟨.obuf lru,(4:Nat)⟩])),(4,some (.buf 56 lru ((mdRs c).take j)))]
   have x5:=zvF c;refine za (za ?_);refine xP (ι:=Nat) (λj=>⟨(6,⟨i64,(j:Int)⟩)::(5,⟨ints,zeM⟩)::mcF c,Ec j,8⟩) (λj=>j<=(mdRs c).length) (λj=>(mdRs c).length-j) 0 (zk _) ⟨⟨rfl,rfl,rfl,rfl,rfl,t_⟩,⟨rfl,rfl,rfl,t_⟩,rfl,rfl⟩ ?_;intro j hj;refine za (za (zac hX zaK rfl ?_ ?_))
   .
    exact z_
   refine zaf rfl (λhb=>?_) (λhb=>?_)
   .have hb:(bif (bif decide ((j:Int)<(c.2.2.2.1.length:Int)) then decide ((j:Int)<4) else false) then decide (mdLp c>=0) else false)=true:=hb;have x4:j<(mdRs c).length:=by
     by_cases h1:(j:Int)<(c.2.2.2.1.length:Int)
     .rw[decide_eq_true h1,cond_true]at hb;by_cases h2:(j:Int)<4
      .rw[decide_eq_true h2,cond_true]at hb;have h3:=of_decide_eq_true hb;rw[if_pos h3]at x5;omega
      .rw[decide_eq_false h2]at hb;cases hb
     .rw[decide_eq_false h1]at hb;cases hb
    obtain⟨x6,xh,xe,xk⟩:=zAG x4;obtain⟨r,hr⟩:∃r:Lr,r=c.2.2.2.1.getD (j:Int).toNat (zav lru):=⟨_,rfl⟩;have x0:(0:Int)<=(j:Int)/\(j:Int)<(c.2.2.2.1.length:Int):=⟨yM j,by omega⟩;apply zah;refine za (za ?_);refine zac hX zaK rfl x0 ?_;refine AWP.frzB hX 7 ?_;refine zak (Y':=⟨(7,⟨.vptr lru,r⟩)::(6,⟨i64,(j:Int)⟩)::(5,⟨ints,zeM⟩)::mcF c,Ec j,9⟩) ⟨⟨congrArg (λz=>(⟨.vptr lru,z⟩:V)) hr.symm,rfl,rfl,rfl,rfl,rfl,t_⟩,⟨rfl,rfl,rfl,t_⟩,rfl,rfl⟩ ?_;have xb:=qq r.1 (b:=6) d_;have x7:=xS r.1 (b:=6) d_;have xj:r.1%6<((zeM.length:Nat):Int):=x7;refine za (za (zaa zaK ?_));obtain⟨n,hn⟩:∃n:Int,n=zeM.getD (r.1%6).toNat 0:=⟨_,rfl⟩;have xg:1<=n/\n<=12:=hn▸zoW;have qn:(0:Int)<n/\n<=1000000000:=o_
    let B:Frame:=(8,⟨i64,n⟩)::(7,⟨.vptr lru,r⟩)::(6,⟨i64,(j:Int)⟩)::(5,⟨ints,zeM⟩)::mcF c
    let ru:Lr:=(n,r.2.1%n,r.2.2.1,())
    let L:List (Nat×Nat×V):=[(0,79,⟨.hptr,((2:Nat),(3:Nat))⟩),(1,80,⟨.obuf lru,(4:Nat)⟩),(2,81,⟨i64,n⟩),(3,82,⟨.vptr i64,r.2.1⟩),(4,83,⟨i64,r.2.1⟩),(5,84,⟨i64,n⟩),(6,85,⟨i64,r.2.1%n⟩),(7,86,⟨.vptr .bool,r.2.2.1⟩),(8,87,⟨.bool,r.2.2.1⟩),(9,88,⟨lru,ru⟩),(10,89,⟨.slice lru,[ru]⟩)]
    refine zak (Y':=⟨B,Ec j,9⟩) ⟨⟨vI64 hn.symm,rfl,rfl,rfl,rfl,rfl,rfl,t_⟩,⟨rfl,rfl,rfl,t_⟩,rfl,rfl⟩ ?_;have x1:((mdRs c).take j).length+1<=1000000000:=by rw[yU];omega
    refine za (za ?_);refine zcs 11 B L dM hX 14 rfl rfl (by kernel_rfl) (by kernel_rfl) rfl ⟨rfl,rfl,rfl,rfl,rfl,rfl,rfl,t_⟩ ?_ rfl ⟨rfl,rfl,rfl,t_⟩ rfl rfl ?_
    .refine(zA (zA (zA (zA (zA (zA (zA (zA (zA (zA (zA True.intro ?_) ?_) ?_) ?_) ?_) ?_) ?_) ?_) ?_) ?_) ?_)
     .exact zx hX zaK k_
     .exact zx hX zaK k_
     .exact zx hX zaK k_
     .exact zx hX zaK k_
     .exact zx hX zaK k_
     .exact zx hX zaK k_
     .exact zx hX zaK ⟨_,rfl,λF=>⟨_,rfl,qn,rfl,λ_=>rfl,rfl⟩⟩
     .exact zx hX zaK k_
     .exact zx hX zaK k_
     .exact zx hX zaK k_
     .refine StepK.step _ rfl ⟨.slice lru,[ru]⟩ (λ_=>rfl) λF N h=>?_;exact StepA.pure hX zaK (r:=([],⟨.slice lru,[ru]⟩)) rfl t_ rfl rfl rfl rfl h
    refine zX hX zaK rfl x1 ?_
    iterate 2 (refine zX hX zaK rfl t_ ?_)
    refine QC.of ?_;have q2:inR .i64 ((j:Int)+1):=zad o_ o_;refine za (za (zaa zaK ?_));refine⟨j+1,by show j+1<=_;omega,by show _-(j+1)<_-j;omega,⟨vI64 rfl,rfl,rfl,rfl,rfl,t_⟩,⟨rfl,rfl,bufL ?_,t_⟩,rfl,rfl⟩;rw[zS x4,x6]
    congr 2
    rw[show c.2.2.2.1.getD j (zav lru)=r by rw[hr,zH]];unfold mdRu;rw[<-hn]
   .
    have xa:j=(mdRs c).length:=by
     split at x5
     .rename_i h3;rw[decide_eq_true h3]at hb;by_cases h1:(j:Int)<(c.2.2.2.1.length:Int)
      .rw[decide_eq_true h1,cond_true]at hb;by_cases h2:(j:Int)<4
       .rw[decide_eq_true h2]at hb;cases hb
       .omega
      .omega
     .omega
    apply zaw;refine AWP.frzL hX 2 3 ?_;refine za (za (zaa zaK ?_));refine zp ⟨.inr rfl,D1 ?_⟩;rw[xa,xR,he];rfl
theorem zsE{k:Int}:(zeM.getD (k%6).toNat 0).toNat ∣ 12:=by
 have h1:=qq k (b:=6) d_;have h2:=xS k (b:=6) d_;rcases (show k%6=0\/k%6=1\/k%6=2\/k%6=3\/k%6=4\/k%6=5 by omega) with h|h|h|h|h|h<;>rw[h]<;>decide
theorem zwS(r:Lr):ziF (mdRu r)=false/\(mdRu r).1.toNat ∣ 12:=by
 have h1:=zoW (k:=r.1);have h2:=qq r.2.1 (b:=zeM.getD (r.1%6).toNat 0) o_;have h3:=xS r.2.1 (b:=zeM.getD (r.1%6).toNat 0) o_;refine⟨?_,zsE⟩;unfold ziF mdRu;simp only[xY,decide_eq_false_iff_not];omega
theorem zon:∀(l:List Lr)(y:Nat),y ∣ 12->(perS y (l.map mdRu)).2=true
 | [],y,_=>rfl
 |r::l,y,hy=>by
  obtain⟨h1,h2⟩:=zwS r;have h3:=Nat.lcm_dvd hy h2;have h4:=Nat.le_of_dvd d_ h3;rw[List.map_cons,perS,if_neg (by rw[h1];decide),if_neg o_];exact zon l _ h3
theorem zrF(c:Cal):zbv (zrG c):=by
 have x2:(mdMo c).length<=4:=by unfold mdMo;rw[jy,yU];omega
 have x0:1<=(zcZ c).length/\(zcZ c).length<=4:=by
  unfold zcZ;split
  .exact⟨by decide,by decide⟩
  .omega
 have h1:=qq c.1 (b:=200) d_;have h2:=xS c.1 (b:=200) d_;have h3:=qq c.2.2.1 (b:=((zcZ c).length:Int)+1) o_;have h4:=xS c.2.2.1 (b:=((zcZ c).length:Int)+1) o_;have x1:=zvF c;refine⟨⟨h1,by show c.1%200<=_;omega⟩,⟨x0.1,by show(zcZ c).length<=16;omega⟩,⟨by show -1<=c.2.2.1%(((zcZ c).length:Int)+1)-1;omega,by show c.2.2.1%(((zcZ c).length:Int)+1)-1<((zcZ c).length:Int);omega⟩,?_,λh=>?_,λm hm=>?_,?_⟩
 .show(mdRs c).length<=16;rw[x1];split<;>omega
 .show mdRs c=[];have h:mdLp c= -1:=h;unfold mdRs;rw[if_neg o_]
 .have hm:m∈zcZ c:=hm;unfold zcZ at hm;split at hm
  .simp only[zs,qd,or_false]at hm;omega
  .unfold mdMo at hm;obtain⟨x,_,rfl⟩:=List.mem_map.1 hm;have:=qq x (b:=6) d_;have:=xS x (b:=6) d_;omega
 .show(perS 1 (mdRs c)).2=true;unfold mdRs;split
  .exact zon _ 1 d_
  .rfl
noncomputable def ziG(y:List UInt8):Bool:=(!zmi y [35])&&decide (zbJ isWh y<y.length)
noncomputable def zjo(y:List UInt8)(fr:Nat)(acc:List De):Except (Int×Int) (List De):=
 if ziG y=true then
  if 4000<y.length then .error ((fr:Int),2)
  else match zhK y ((acc.length:Nat):Int) with
   |.ok d=>.ok (acc++[d])
   |.error e=>if e.2=0 then .ok acc else .error ((fr:Int)+e.1,e.2)
 else .ok acc
noncomputable def libK:List (List UInt8)->Nat->List De->List De×Int×Int
 | [],_,acc=>(acc,0,0)
 |y::r,fr,acc=>match zjo y fr acc with
  |.error e=>([],e.1,e.2)
  |.ok acc'=>libK r (fr+y.length+1) acc'
noncomputable def zbl(s:List UInt8):List De×Int×Int:=if 1048576<s.length then([],0,2) else libK (segs s) 0 []
def lPF:List (Nat×V):=[(2,⟨.hptr,((0:Nat),(0:Nat))⟩),(3,⟨.optr i64,⟨1,i64,.here⟩⟩),(4,⟨.optr i64,⟨2,i64,.here⟩⟩),(5,⟨.hptr,((3:Nat),(0:Nat))⟩),(6,⟨.optr i64,⟨4,i64,.here⟩⟩),(7,⟨.optr .str,⟨5,.str,.here⟩⟩)]
def lRE(at' e:Int):Owns:=[(0,some (.hbox tD [⟨.lit,.slice none 0 0⟩])),(1,some (.box i64 at')),(2,some (.box i64 e))]
def zng(y:List UInt8)(fr:Nat)(e:Exit)(Y:AS):Except (Int×Int) (List De)->Prop
 |.ok acc'=>e=.normal/\Fit Y ⟨[],libE y ((fr+y.length+1:Nat):Int) acc',7⟩
 |.error er=>e=.ret/\Fit Y ⟨[],lRE er.1 er.2,7⟩
noncomputable def kLc:Kn:={ gmK with H:=[tD],C:=[(29,cPre),(30,znO 31 isWh)] }
theorem zcD:KnOk zb gmH kLc:=⟨zeK,zdm,.cons zso<|.cons zlK.lift .nil,zcb,RsOk.nil⟩
def zsv:Code->Option (Code×Code)
 |.rangeFunc _ _ a b=>some (a,b)
 |.seq x y=>match zsv x with
  |some r=>some r
  |none=>zsv y
 |.block _ c=>zsv c
 |_=>none
noncomputable def zzu:Code:=match zsv (kM.body.getD .skip) with
 |some r=>r.2
 |none=>.skip
noncomputable def zzv:Code:=match zsv (kM.body.getD .skip) with
 |some r=>r.1
 |none=>.skip
theorem zus{w1:zh}{X:Ownr}{y:List UInt8}{fr:Nat}{acc:List De}(hy:y.length<=1100000)(xa:fr<=1100000)(ha:acc.length<=1000000)(hX:X.Ok w1)(hG:X.G=gmH)(hK:X.K=5)(x1:∀ty,ginv w1 X.R ty)(x4:∀er,zhK y ((acc.length:Nat):Int)=.error er->0<=er.1/\er.1<=1100000):
  AWP zb w1 X 47 zzu ⟨lPF,libE y (fr:Int) acc,7⟩ (λe Y=>zng y fr e Y (zjo y fr acc)):=by
 obtain⟨G,O,K,fix,D,ρ,B⟩:=X;obtain rfl:G=gmH:=hG;obtain rfl:K=5:=hK;unfold lPF libE;apply zay;have x2:y.length<=2000000/\([35]:List UInt8).length<=2000000:=⟨by omega,by decide⟩;apply zaq;refine za8 (Y':=⟨[(2,⟨.hptr,((0:Nat),(0:Nat))⟩),(3,⟨.optr i64,⟨1,i64,.here⟩⟩),(4,⟨.optr i64,⟨2,i64,.here⟩⟩),(5,⟨.hptr,((3:Nat),(0:Nat))⟩),(6,⟨.optr i64,⟨4,i64,.here⟩⟩),(7,⟨.optr .str,⟨5,.str,.here⟩⟩),(25,⟨.bool,ziG y⟩)],libE y (fr:Int) acc,7⟩) ?_ ?_
 .unfold libE;refine zbF dM 10 rfl (by kernel_rfl) ?_;cases hq:zmi y [35] with
  |true=>
   have x5:ziG y=false:=by unfold ziG;rw[hq];rfl
   have hb:(!zmi y [35])=false:=by rw[hq];rfl
   have x7:(bif !zmi y [35] then false else false)=ziG y:=by rw[x5,hb];rfl
   repeat'(first
    |exact kg
    |refine vD ⟨_,rfl,?_⟩ ?_
    |refine zX hX zcD rfl t_ ?_
    |refine zX hX zcD rfl x2 ?_
    |(refine StepA.guardF 3 19 true .bool false rfl rfl (zcH hb) rfl rfl rfl ?_)
    |refine zX hX zcD rfl (by exact λh=>hb.symm.trans h) ?_
    |(refine ve ?_;exact⟨⟨rfl,rfl,rfl,rfl,rfl,rfl,zcH x7,t_⟩,⟨rfl,rfl,rfl,rfl,rfl,rfl,rfl,t_⟩,rfl,rfl⟩))
  |false=>
   have hb:(!zmi y [35])=true:=by rw[hq];rfl
   have x6:(bif !zmi y [35] then decide (((zbJ isWh y:Nat):Int)<((y.length:Nat):Int)) else false)=ziG y:=by
    unfold ziG;rw[zcA]
    congr 1
    exact decide_eq_decide.2 Int.ofNat_lt
   repeat'(first
    |exact kg
    |refine vD ⟨_,rfl,?_⟩ ?_
    |refine StepA.guardT 3 19 true rfl rfl (zcH hb) rfl ?_
    |refine zX hX zcD rfl t_ ?_
    |refine zX hX zcD rfl x2 ?_
    |refine zX hX zcD rfl (by exact rfl) ?_
    |refine zX hX zcD rfl (by exact λh=>h) ?_
    |(refine ve ?_;exact⟨⟨rfl,rfl,rfl,rfl,rfl,rfl,zcH x6,t_⟩,⟨rfl,rfl,rfl,rfl,rfl,rfl,rfl,t_⟩,rfl,rfl⟩))
 have hlen:((y.length:Nat):Int)<=1100000:=o_;have x8:((fr:Nat):Int)<=1100000:=o_;have q0:inR .i64 (((y.length:Nat):Int)+1):=zad o_ o_;have q1:inR .i64 ((fr:Int)+(((y.length:Nat):Int)+1)):=zad o_ o_;have x0:(fr:Int)+(((y.length:Nat):Int)+1)=((fr+y.length+1:Nat):Int):=o_;unfold libE;refine zaf rfl (λhb=>?_) (λhb=>?_)
 .have hb:ziG y=true:=hb;unfold zjo;rw[if_pos hb];refine za (za (zaa zcD ?_));refine zaU rfl (λhb=>?_) (λhb=>?_)
  .have hb:((4000:Nat):Int)<((y.length:Nat):Int):=hb;rw[if_pos o_];refine za8 (Y':=⟨[],lRE (fr:Int) 2,7⟩) ?_ ?_
   .unfold lRE;refine zbF dM 4 rfl (by kernel_rfl) ?_
    repeat'(first
     |exact kg
     |refine vD ⟨_,rfl,?_⟩ ?_
     |refine zX hX zcD rfl t_ ?_
     |(refine ve ?_;exact⟨t_,⟨rfl,rfl,rfl,t_⟩,rfl,rfl⟩))
   .exact zp ⟨rfl,t_,⟨rfl,rfl,rfl,t_⟩,rfl,rfl⟩
  have hb:¬(((4000:Nat):Int)<((y.length:Nat):Int)):=hb;rw[if_neg o_];apply zah;refine zak (Y':=⟨lPF,libE y (fr:Int) acc,7⟩) ⟨⟨rfl,rfl,rfl,rfl,rfl,rfl,t_⟩,⟨rfl,rfl,rfl,rfl,rfl,rfl,rfl,t_⟩,rfl,rfl⟩ ?_;unfold lPF;refine za (za (zae ?_));refine zmO hX 6 rfl rfl rfl rfl rfl rfl rfl rfl rfl rfl (by show 5<=6;omega) Tryz.func32 rfl rfl rfl rfl Tryz.call32 rfl rfl rfl (N:=NLib y (fr:Int) acc) (λw2 X' h1 h2 h3 h4 h5 h6=>?_) (λr Y hN=>?_)
  .refine zut o_ ha h1 h2 h3 h4 h5 λty=>zaL (ty:=ty) hX rfl (x1 ty) _ _ h6 (by
    have:=h1.2.2 w2 (Kept.refl _ _);rwa[h2]at this)
  rcases hN with ⟨d,hd,rfl,hf⟩|⟨er,hd,rfl,hf⟩
  .refine jp (Y':=⟨(32,⟨tupI,((0:Int),(0:Int),())⟩)::lPF,libE y (fr:Int) (acc++[d]),7⟩) ⟨⟨rfl,rfl,rfl,rfl,rfl,rfl,rfl,t_⟩,hf.e,rfl,rfl⟩ ?_;unfold lPF libE;refine zaI zcD ?_;refine za (za (zaa zcD ?_));refine zdc rfl ?_;apply zah;rw[hd];refine za (za (zaa zcD ?_));exact⟨rfl,t_,⟨rfl,rfl,rfl,rfl,zgM x0,rfl,rfl,t_⟩,rfl,rfl⟩
  .refine jp (Y':=⟨(32,⟨tupI,(er.1,er.2,())⟩)::lPF,libE y (fr:Int) acc,7⟩) ⟨⟨rfl,rfl,rfl,rfl,rfl,rfl,rfl,t_⟩,hf.e,rfl,rfl⟩ ?_;obtain⟨x3,x9⟩:=x4 er hd;have q2:inR .i64 ((fr:Int)+er.1):=zad o_ o_;unfold lPF libE;refine zaI zcD ?_;refine za (za (zaa zcD ?_));rw[hd];refine zaf rfl (λhb=>?_) (λhb=>?_)
   .have hb:(er.2 != 0)=true:=hb;have hb:er.2≠0:=bne_iff_ne.1 hb;show AWP _ _ _ _ _ _ (zhI _ _);refine za8 (Y':=⟨[],lRE ((fr:Int)+er.1) er.2,7⟩) ?_ ?_
    .unfold lRE;refine zbF dM 7 rfl (by kernel_rfl) ?_
     repeat'(first
      |exact kg
      |refine vD ⟨_,rfl,?_⟩ ?_
      |refine zX hX zcD rfl t_ ?_
      |refine zX hX zcD rfl q2 ?_
      |(refine ve ?_;exact⟨t_,⟨rfl,rfl,rfl,t_⟩,rfl,rfl⟩))
    .refine zp ?_;show zng y fr .ret _ (if er.2=0 then .ok acc else .error ((fr:Int)+er.1,er.2));rw[if_neg hb];exact⟨rfl,t_,⟨rfl,rfl,rfl,t_⟩,rfl,rfl⟩
   .have hb:(er.2 != 0)=false:=hb;have hb:er.2=0:=by
     by_cases h:er.2=0
     .exact h
     .rw[bne_iff_ne.2 h]at hb;cases hb
    apply zah;refine za (za (zaa zcD ?_));show zng y fr .normal _ (if er.2=0 then .ok acc else .error ((fr:Int)+er.1,er.2));rw[if_pos hb];exact⟨rfl,t_,⟨rfl,rfl,rfl,rfl,zgM x0,rfl,rfl,t_⟩,rfl,rfl⟩
 .have hb:ziG y=false:=hb;unfold zjo;rw[if_neg (by rw[hb];decide)];apply zah;refine za (za (zaa zcD ?_));exact⟨rfl,t_,⟨rfl,rfl,rfl,rfl,zgM x0,rfl,rfl,t_⟩,rfl,rfl⟩
section
attribute [local go_sem] kR
def zjk:List (List UInt8)->Nat
 | []=>0
 |g::r=>g.length+1+zjk r
theorem zgU:∀(s c:List UInt8),zjk (segF c s)=c.length+s.length+1
 | [],c=>by unfold segF zjk zjk;simp
 |x::r,c=>by
  unfold segF;split
  .rw[zjk,zgU r []];simp;omega
  .rw[zgU r];simp;omega
theorem zpt(s:List UInt8):zjk (segs s)=s.length+1:=by rw[segs,zgU];simp
theorem zqU(y:List UInt8):GOk y (zbL y,0):=by
 have:=zhY (s:=y);unfold zjx at this;rwa[zod]at this
theorem zoD{y:List UInt8}{k:Int}{er:Int×Int}(h:zhK y k=.error er):0<=er.1/\er.1<=((y.length:Nat):Int):=by
 have hg:=zqU y;have he:Er y (gDef y (zbL y,0) k):=zaB (zb5 hg) λu hu=>zaB (zb5 hg) λ_ _=>by
  have hc:=zbP hu;rw[beq_iff_eq]at hc;have k1:=zcr hg (by show Tok.cls (zbL y,(0:Int)).1≠0;rw[hc];decide);exact zaB (zfg k1.1) λa ha=>zaB (zx4 (zby k1.1 ha).1) λ_ _=>zdw
 unfold zhK at h;cases hd:gDef y (zbL y,0) k with
 |ok r=>rw[hd]at h;cases h
 |error e=>
  rw[hd]at h;cases h;exact he _ hd
theorem zrQ{y:List UInt8}{k:Nat}{d:De}(h:zhK y (k:Int)=.ok d):k<4096:=by
 unfold zhK at h;cases hd:gDef y (zbL y,0) (k:Int) with
 |error e=>rw[hd]at h;cases h
 |ok r=>
  obtain⟨u,_,h2⟩:=zan hd;obtain⟨u2,h3,_⟩:=zan h2;have h3:=zbP h3;rw[zf,decide_eq_true_iff,decide_eq_true_iff]at h3;omega
theorem zqC{y:List UInt8}{fr:Nat}{acc x0:List De}(ha:acc.length<=4096)(h:zjo y fr acc=.ok x0):x0.length<=4096:=by
 unfold zjo at h;split at h
 .split at h
  .cases h
  .split at h
   .rename_i d hd;cases h;have:=zrQ hd;rw[zg,xI];omega
   .split at h
    .cases h;exact ha
    .cases h
 .cases h;exact ha
abbrev XL(O:Nat->Prop)(fix:Nat->Nat)(D:List qS)(ρ:Option Nat):Ownr:={ G:=gmH,X:=O,K:=5,fix:=fix,D:=D,ρ:=ρ }
def sLE(fr:Nat)(acc:List De):Owns:=[(0,some (.hbox tD [⟨.lit,.slice none 0 0⟩])),(1,some (.box i64 (0:Int))),(2,some (.box i64 (0:Int))),(3,some (zq3 5)),(4,some (.box i64 (fr:Int))),(5,some (.buf 53 de acc))]
def lPF0:List (Nat×V):=[(2,⟨.hptr,((0:Nat),(0:Nat))⟩),(3,⟨.optr i64,⟨1,i64,.here⟩⟩),(4,⟨.optr i64,⟨2,i64,.here⟩⟩),(5,⟨.hptr,((3:Nat),(0:Nat))⟩),(6,⟨.optr i64,⟨4,i64,.here⟩⟩)]
def lRn:List (Nat×Nat):=[(0,0),(1,1),(2,2),(3,3),(4,4),(6,5),(5,6)]
theorem zr4{B:zh}{O:Nat->Prop}{fix:Nat->Nat}{D:List qS}{ρ:Option Nat}(hX:(XL O fix D ρ).Ok B)(y:List UInt8)(fr:Nat)(acc:List De):
  AWP zb B (XL O fix D ρ) 47 zzv ⟨(15,⟨.str,y⟩)::lPF0,sLE fr acc,6⟩ (λe Y=>e=.normal/\Fit Y ⟨(2,⟨.hptr,((0:Nat),(0:Nat))⟩)::(3,⟨.optr i64,⟨1,i64,.here⟩⟩)::(4,⟨.optr i64,⟨2,i64,.here⟩⟩)::(5,⟨.hptr,((3:Nat),(0:Nat))⟩)::(6,⟨.optr i64,⟨4,i64,.here⟩⟩):: [(7,⟨.optr .str,⟨6,.str,.here⟩⟩)],(6,some (.box .str y))::sLE fr acc,7⟩):=by
 unfold lPF0 sLE;refine za (za (zaa zcD ?_));exact⟨rfl,⟨rfl,rfl,rfl,rfl,rfl,rfl,t_⟩,⟨rfl,rfl,rfl,rfl,rfl,rfl,rfl,t_⟩,rfl,rfl⟩
noncomputable def zzt:Code:=match kM.body.getD .skip with
 |.seq _ (.seq _ (.seq _ (.seq _ (.seq _ t))))=>t
 |c=>c
def sLT(acc:List De):AS:=⟨[(2,⟨.hptr,((0:Nat),(0:Nat))⟩),(3,⟨.optr i64,⟨1,i64,.here⟩⟩),(4,⟨.optr i64,⟨2,i64,.here⟩⟩)],[(0,some (.hbox tD [⟨.slice de,acc⟩])),(1,some (.box i64 (0:Int))),(2,some (.box i64 (0:Int)))],6⟩
theorem zrN{B:zh}{O:Nat->Prop}{fix:Nat->Nat}{D:List qS}(hX:(XL O fix D none).Ok B)(fr:Nat)(acc:List De):
  AWP zb B (XL O fix D none) 47 zzt ⟨lPF0,sLE fr acc,6⟩ (λe Y=>e=.ret/\Fit Y (sLT acc)):=by
 unfold lPF0 sLE sLT;refine AWP.frzL hX 3 0 ?_;(repeat refine za (za (zaa zcD ?_)));refine za ?_;exact zp ⟨rfl,⟨rfl,rfl,rfl,t_⟩,⟨rfl,rfl,rfl,t_⟩,rfl,rfl⟩
section
variable {B W:zh}{X:Ownr}{n:Nat}{Y:AS}{U:Nat->zd}{a:Act}
theorem zo9(h:Sim B X n Y U a W){i:Nat}(hi:i<X.K){t:Ty}{x:t.T}(hE:Owns.get Y.E i=some (.box t x)):∃cs ty,W.heap[X.fix i]? =some (.cells (List.toArray cs) ty (0,0))/\RepC W (OSet X Y.E U) t x cs:=by
 obtain⟨g,cs,ty,q1,_,q2,q3⟩:=h.own i _ hE;have q4:=(h.fix.2 i hi).1;rw[q1]at q4;have q4:g=X.fix i:=by simpa [zag] using q4
 subst q4;exact⟨cs,ty,q2,q3⟩
theorem zsm(h:Sim B X n Y U a W){i:Nat}(hi:i<X.K){v:V}{ty:zo}(hE:Owns.get Y.E i=some (.hbox ty [v])):∃u,W.heap[X.fix i]? =some (.cells #[u] ty (0,0))/\u.oneCell'=true/\RepV W (OSet X Y.E U) U v.t v.x u:=by
 obtain⟨g,cs,q1,_,q2,u,r,rfl,q5,q6,q7⟩:=h.own i _ hE;subst q7;have q4:=(h.fix.2 i hi).1;rw[q1]at q4;have q4:g=X.fix i:=by simpa [zag] using q4
 subst q4;exact⟨u,q2,q5,q6⟩
theorem zpu{B A C:zh}{X X':Ownr}{n n':Nat}{Y Y':AS}{U U':Nat->zd}{a a':Act}{I:Nat->Prop}(h:Sim B X n Y U a A)(h':Sim B X' n' Y' U' a' C)(hR:∀g,X'.R g->X.R g)(hX:X.Ok B)(hI:∀g,I g->X g):SameOn I B.heap.size A C:=
 ⟨h'.bel.os.trans h.bel.os.symm,h'.bel.tape.trans h.bel.tape.symm,h'.bel.output.trans h.bel.output.symm,h'.bel.size,λk hk=>
   have hx:=hX.1 k (hI k hk)
   (h'.bel.block k hx.1 λhr=>hx.2 (hR k hr)).trans (h.bel.block k hx.1 hx.2).symm⟩
end
def zr7(a:Act)(x:zd):Act:={ tmps:=((#[15]:Array Tmp).zip #[x]).foldl (λt(p,v)=>t.setIfInBounds p v) a.tmps,defers:=[] }
theorem zef{a:Act}{x:zd}(x0:a.tmps.size=47)(s:Nat):(zr7 a x).tmps.getD s undef=if 15=s then x else a.tmps.getD s undef:=by
 have:(zr7 a x).tmps=a.tmps.setIfInBounds 15 x:=by simp[zr7]
 rw[this];by_cases h:15=s
 .subst h;rw[if_pos rfl];simp[zO,xO,x0]
 .rw[if_neg h];simp[zO,xO,h]
def nA:Act:={ tmps:=#[],defers:=[] }
section
variable {w w5:zh}{O:Nat->Prop}{N:Nat}{s:List UInt8}{t0 t1 t2 t3 t4:zo}{a5:Act}
def lI(N D:Nat)(g:Nat):Prop:=itI (N+5) (N+6) (N+7) g\/g=D\/g=D+1
def lO(O:Nat->Prop)(N D:Nat)(g:Nat):Prop:=O g\/lI N D g
def lFix(N:Nat)(i:Nat):Nat:=N+i
def lBB(w5:zh)(N:Nat)(B:zh):Prop:=B.heap.size=w5.heap.size+2/\Kept (lI N w5.heap.size) w5 B
theorem lR{N:Nat}{O':Nat->Prop}{D:List qS}{ρ:Option Nat}{g:Nat}(h:(XL O' (lFix N) D ρ).R g):N<=g/\g<=N+4:=by
 rcases h with ⟨i,hi,rfl⟩|h
 .have hi:i<5:=hi;show N<=N+i/\N+i<=N+4;omega
 .exact False.elim h
theorem zr6(hN:N=w.heap.size)(x1:w5.heap.size=N+8)(x0:xG w.heap.size w w5){B:zh}(h:lBB w5 N B):xG w.heap.size w B:=
 ⟨h.2.os.trans x0.os,h.2.tape.trans x0.tape,h.2.output.trans x0.output,zJ x0.size h.2.size,λk hk=>(h.2.block k (zy hk x0.size) (by unfold lI itI;omega)).trans (x0.block k hk)⟩
theorem zno(hN:N=w.heap.size)(x1:w5.heap.size=N+8)(x2:xG w.heap.size w w5){B W:zh}(h:lBB w5 N B){O':Nat->Prop}{D:List qS}{ρ:Option Nat}(hk:Kept (XL O' (lFix N) D ρ).R B W):xG w.heap.size w W:=
 have hb:=zr6 hN x1 x2 h
 ⟨hk.os.trans hb.os,hk.tape.trans hb.tape,hk.output.trans hb.output,zJ hb.size hk.size,λk x0=>(hk.block k (zy x0 hb.size) λhr=>by have:=(lR hr).1;omega).trans (hb.block k x0)⟩
theorem zAU(hN:N=w.heap.size)(hO:∀g,O g->g<w.heap.size)(hG:gmH w)(x0:w5.heap.size=N+8)(x1:xG w.heap.size w w5){B:zh}(h:lBB w5 N B)(D:List qS)(ρ:Option Nat):(XL (lO O N w5.heap.size) (lFix N) D ρ).Ok B:=by
 have hs:=h.1;refine⟨λg hg=>?_,λg hg=>?_,λw' hk=>zcb _ _ hG (zno hN x0 x1 h hk)⟩
 .have hg:O g\/(g=N+5\/g=N+6\/g=N+7)\/g=w5.heap.size\/g=w5.heap.size+1:=hg;refine⟨?_,λhr=>?_⟩
  .rcases hg with h1|h1
   .have:=hO g h1;omega
   .omega
  .have:=lR hr;rcases hg with h1|h1
   .have:=hO g h1;omega
   .omega
 .have:=lR hg;omega
theorem zzs(hN:N=w.heap.size)(hG:gmH w){O':Nat->Prop}{D:List qS}{ρ:Option Nat}{B:zh}(ty:zo):ginv B (XL O' (lFix N) D ρ).R ty:=by
 have hl:=zhE hG;exact⟨λh=>by have:=lR h;omega,λh=>by have:=lR h;omega⟩
def lJ(w5:zh)(O:Nat->Prop)(N:Nat)(s:List UInt8)(k:Nat)(W:zh):Prop:=∃(B:zh)(U:Nat->zd)(acc:List De)(fr:Nat),lBB w5 N B/\Sim B (XL (lO O N w5.heap.size) (lFix N) [] none) 0 ⟨[],sLE fr acc,6⟩ U nA W/\acc.length<=4096/\k<=(segs s).length/\fr+zjk ((segs s).drop k)<=s.length+1/\libK ((segs s).drop k) fr acc=zbl s
def lN(w5:zh)(O:Nat->Prop)(N:Nat)(s:List UInt8)(k:Nat)(y:List UInt8)(a':Act)(W:zh):Prop:=∃(B:zh)(U:Nat->zd)(acc:List De)(fr:Nat),lBB w5 N B/\Sim B (XL (lO O N w5.heap.size) (lFix N) [] none) 47 ⟨lPF,libE y (fr:Int) acc,7⟩ U a' W/\acc.length<=4096/\k<=(segs s).length/\fr+zjk ((segs s).drop k)<=s.length+1/\libK ((segs s).drop k) fr acc=zbl s
def lJr(w5:zh)(O:Nat->Prop)(N:Nat)(s:List UInt8)(W:zh):Prop:=∃(er:Int×Int)(B:zh)(U:Nat->zd),zbl s=([],er.1,er.2)/\lBB w5 N B/\Sim B (XL (lO O N w5.heap.size) (lFix N) [] none) 0 ⟨[],lRE er.1 er.2,7⟩ U nA W
theorem zrR{tmps:Array zd}{g2 g3 g4:Nat}{W:zh}{u:zd}{x y:Int}{t2 t3 t4:zo}(hu:u.oneCell'=true)(h2:tmps.getD 2 undef=.pointer (some ⟨g2,0,none⟩))(h3:tmps.getD 3 undef=.pointer (some ⟨g3,0,none⟩))(h4:tmps.getD 4 undef=.pointer (some ⟨g4,0,none⟩))
  (c2:W.heap[g2]? =some (.cells #[u] t2 (0,0))) (c3:W.heap[g3]? =some (.cells #[.int .i64 x] t3 (0,0))) (c4:W.heap[g4]? =some (.cells #[.int .i64 y] t4 (0,0))):
  (results kM tmps).run zb W=.ok (.tuple #[u,.int .i64 x,.int .i64 y]) W:=by
 have d2:=(za1 c2).1;have d3:=(za1 c3).1;have d4:=(za1 c4).1;rw[zO]at h2 h3 h4;simp[results,kM,go_sem,h2,h3,h4,d2,d3,d4]
abbrev zwr:Ty:=.tup (.slice de) (.tup i64 (.tup i64 .unit))
theorem zra{w:zh}{O:Nat->Prop}{acc:List De}{x y:Int}{u:zd}(hu:RepD w O (.slice de) acc u):zdb w O 0 none zwr (acc,x,y,()) (.tuple #[u,.int .i64 x,.int .i64 y]):=λU=>
 ⟨[_,_,_],rfl,_,_,rfl,hu,_,_,rfl,rfl,_,_,rfl,rfl,rfl⟩
def ldco(D:Nat):qS:={ target:=.collected D,args:=#[] }
def zto(w:zh)(O:Nat->Prop)(r:List De×Int×Int)(e:Ending)(w':zh):Prop:=∃v,e=.returned v/\xG w.heap.size w w'/\zdb w' O w.heap.size none zwr (r.1,r.2.1,r.2.2,()) v
theorem lfin{W:zh}{O':Nat->Prop}{tmps:Array zd}{D:Nat}{u:zd}{x y:Int}{acc:List De}(hN:N=w.heap.size)(hO:∀g,O g->O' g)(hD:O' D)(hlt:N+2<D)(hbel:xG w.heap.size w W)(hd:W.heap[D]? =some (.deferred (some [])))(hu:u.oneCell'=true)(h2:tmps.getD 2 undef=.pointer (some ⟨N,0,none⟩))(h3:tmps.getD 3 undef=.pointer (some ⟨N+1,0,none⟩))(h4:tmps.getD 4 undef=.pointer (some ⟨N+2,0,none⟩))
  (c2:W.heap[N]? =some (.cells #[u] t2 (0,0))) (c3:W.heap[N+1]? =some (.cells #[.int .i64 x] t3 (0,0))) (c4:W.heap[N+2]? =some (.cells #[.int .i64 y] t4 (0,0))) (hr:RepD W O' (.slice de) acc u):
  LeavesInM yD 1 zb kM tmps (zto w O (acc,x,y)) [ldco D] .returning W:=by
 refine⟨(by intro h;cases h),.inl ⟨D,_,rfl,run_takeDeferred hd,?_⟩⟩;have hk:Kept (λg=>g=D) W (W.putObj D (.deferred none)):=zbq _ rfl;have hlD:=(zl.1 hd).1;have hl:∀g(o:Obj),W.heap[g]? =some o->g≠D->(W.putObj D (.deferred none)).heap[g]? =some o:=λg o hg hne=>(hk.block g (zl.1 hg).1 hne).trans hg;refine⟨_,zrR hu h2 h3 h4 (hl _ _ c2 o_) (hl _ _ c3 o_) (hl _ _ c4 o_),_,rfl,?_,?_⟩
 .refine⟨hk.os.trans hbel.os,hk.tape.trans hbel.tape,hk.output.trans hbel.output,zJ hbel.size hk.size,λk hkl=>?_⟩;have h1:=zy hkl hbel.size;exact(hk.block k h1 o_).trans (hbel.block k hkl)
 .exact zra (RepD.keep ⟨hk.size,λg hg hn=>hk.block g hg λe=>hn (e▸hD),λg _ hg=>hO g hg⟩ hr)
end
end
section
attribute [local go_sem] kR
section
variable {w w5:zh}{O:Nat->Prop}{N:Nat}{s:List UInt8}{t0 t1 t2 t3 t4:zo}{a5:Act}
theorem zko{B W:zh}{O':Nat->Prop}{D:List qS}{ρ:Option Nat}{n:Nat}{Y:AS}{U:Nat->zd}{a:Act}(h:Sim B (XL O' (lFix N) D ρ) n Y U a W){E:Owns}{m:Nat}(hf:Fit Y ⟨[],E,m⟩)(hm:5<=m):Sim B (XL O' (lFix N) [] none) 0 ⟨[],E,m⟩ U nA W:=
 (h.fit hf hm).act (X':=XL O' (lFix N) [] none) (a':=nA) rfl rfl rfl rfl rfl (F:=[]) zgX rfl
theorem zrT{y:List UInt8}{r:List (List UInt8)}{fr:Nat}{acc:List De}:libK (y::r) fr acc=match zjo y fr acc with
 |.error e=>([],e.1,e.2)
 |.ok acc'=>libK r (fr+y.length+1) acc':=rfl
set_option maxHeartbeats 1000000 in
theorem zrS(hN:N=w.heap.size)(hO:∀g,O g->g<w.heap.size)(hG:gmH w)(hlen:s.length<=1048576)(xc:w5.heap.size=N+8)(xd:xG w.heap.size w w5)
  (b0:w5.heap[N]? =some (.cells #[.slice none 0 0] tD (0,0))) (b1:w5.heap[N+1]? =some (.cells #[.int .i64 0] t1 (0,0))) (b2:w5.heap[N+2]? =some (.cells #[.int .i64 0] t2 (0,0))) (b3:w5.heap[N+3]? =some (.cells #[.slice none 0 0] tD (0,0))) (b4:w5.heap[N+4]? =some (.cells #[.int .i64 0] t4 (0,0)))
  (i0:w5.heap[N+5]? =some (.cells #[.string ⟨s.toArray⟩] 9 (0,0))) (i1:w5.heap[N+6]? =some (.cells #[.string ⟨#[10]⟩] 9 (0,0))) (i2:w5.heap[N+7]? =some (.cells #[.int .i64 0] 3 (0,0)))
  (x4:a5.tmps.size=47) (e2:a5.tmps.getD 2 undef=.pointer (some ⟨N,0,none⟩)) (e3:a5.tmps.getD 3 undef=.pointer (some ⟨N+1,0,none⟩)) (e4:a5.tmps.getD 4 undef=.pointer (some ⟨N+2,0,none⟩)) (e5:a5.tmps.getD 5 undef=.pointer (some ⟨N+3,0,none⟩)) (e6:a5.tmps.getD 6 undef=.pointer (some ⟨N+4,0,none⟩))
  (xn:a5.eval (.tmp 14)=.func (.func 108) #[] #[.pointer (some ⟨N+6,0,none⟩),.pointer (some ⟨N+5,0,none⟩),.pointer (some ⟨N+7,0,none⟩)]) (xi:a5.defers=[]):
  zgQ zb 13 (.rangeFunc (.tmp 14) #[15] zzv zzu) (λe a w'=>(e=.normal\/e=.ret)/\Exit.then (zgQ zb 13 zzt (bodyPostM yD 1 zb kM (zto w O (zbl s)))) (bodyPostM yD 1 zb kM (zto w O (zbl s))) e a w') a5 w5:=by
 have hP:zbl s=libK (segs s) 0 []:=if_neg o_;have x1:∀B D ρ,lBB w5 N B->(XL (lO O N w5.heap.size) (lFix N) D ρ).Ok B:=λB D ρ h=>zAU hN hO hG xc xd h D ρ;have x2:∀{B A C:zh}{ρ xj:Option Nat}{D D':List qS}{n n':Nat}{Y Y':AS}{U U':Nat->zd}{a a':Act},lBB w5 N B->Sim B (XL (lO O N w5.heap.size) (lFix N) D ρ) n Y U a A->Sim B (XL (lO O N w5.heap.size) (lFix N) D' xj) n' Y' U' a' C->SameOn (lI N w5.heap.size) (w5.heap.size+2) A C:=λx0 h h'=>by
  have:=zpu h h' (λg hr=>hr) (x1 _ _ _ x0) (I:=lI N w5.heap.size) (λg hg=>.inr hg);rwa[x0.1]at this
 refine zji (m:=1) xn Tryz.call108 (zm0 (N+5) (N+6) (N+7) s w5 o_ o_ i0 i1 i2) (zR _ _) ?_ (lJ w5 O N s) (lJr w5 O N s) (lN w5 O N s) ?_ ?_ ?_ ?_ ?_ ?_ ?_ ?_
 .intro k hk;have hk:k=N+5\/k=N+6\/k=N+7:=hk;omega
 .rintro k A C ⟨B,U,acc,fr,x0,hS,h1,h2,h3,h4⟩ hk;obtain⟨B',x7,x8,x6⟩:=hS.outside (x1 _ _ _ x0) (I:=lI N w5.heap.size) (λg hg=>.inr hg) hk;exact⟨B',U,acc,fr,⟨x7.trans x0.1,x0.2.trans x8⟩,x6,h1,h2,h3,h4⟩
 .rintro A C ⟨er,B,U,xb,x0,hS⟩ hk;obtain⟨B',x7,x8,x6⟩:=hS.outside (x1 _ _ _ x0) (I:=lI N w5.heap.size) (λg hg=>.inr hg) hk;exact⟨er,B',U,xb,⟨x7.trans x0.1,x0.2.trans x8⟩,x6⟩
 .rintro k y a' A C ⟨B,U,acc,fr,x0,hS,h1,h2,h3,h4⟩ hk;obtain⟨B',x7,x8,x6⟩:=hS.outside (x1 _ _ _ x0) (I:=lI N w5.heap.size) (λg hg=>.inr hg) hk;exact⟨B',U,acc,fr,⟨x7.trans x0.1,x0.2.trans x8⟩,x6,h1,h2,h3,h4⟩
 .intro W1 hb xo;have x0:lBB w5 N W1:=⟨xo,⟨hb.os,hb.tape,hb.output,hb.size,λk hk _=>hb.block k hk⟩⟩;have hl:∀g(o:Obj),w5.heap[g]? =some o->W1.heap[g]? =some o:=λg o hg=>(hb.block g (zl.1 hg).1).trans hg
  let U:Nat->zd:=λi=>.pointer (some ⟨lFix N i,0,none⟩)
  have xp:Sim W1 (XL (lO O N w5.heap.size) (lFix N) [] none) 0 ⟨[],[(0,some (.hbox tD [⟨.lit,.slice none 0 0⟩])),(1,some (.box i64 (0:Int))),(2,some (.box i64 (0:Int))),(3,some (.hbox tD [⟨.lit,.slice none 0 0⟩])),(4,some (.box i64 (0:Int)))],5⟩ U nA W1:=by
   refine Sim.boxes (X:=XL (lO O N w5.heap.size) (lFix N) [] none) rfl rfl (λi _=>rfl) ?_ ?_ zgX rfl
   .intro i j hi hj xh;have xh:N+i=N+j:=xh;omega
   .intro i o h;rw[zab]at h;split at h
    .rename_i hi;subst hi;cases h;exact⟨by show 0<5;omega,rfl,⟨N,[_],rfl,zk _,hl _ _ b0,_,[],rfl,rfl,rfl,rfl⟩,λvs e v hv=>by cases e;rw[zt]at hv;subst hv;exact zk _⟩
    rw[zab]at h;split at h
    .rename_i _ hi;subst hi;cases h;exact⟨by show 1<5;omega,rfl,⟨N+1,[_],_,rfl,zk _,hl _ _ b1,rfl⟩,λvs e=>by cases e⟩
    rw[zab]at h;split at h
    .rename_i _ _ hi;subst hi;cases h;exact⟨by show 2<5;omega,rfl,⟨N+2,[_],_,rfl,zk _,hl _ _ b2,rfl⟩,λvs e=>by cases e⟩
    rw[zab]at h;split at h
    .rename_i _ _ _ hi;subst hi;cases h;exact⟨by show 3<5;omega,rfl,⟨N+3,[_],rfl,zk _,hl _ _ b3,_,[],rfl,rfl,rfl,rfl⟩,λvs e v hv=>by cases e;rw[zt]at hv;subst hv;exact zk _⟩
    rw[zab]at h;split at h
    .rename_i _ _ _ _ hi;subst hi;cases h;exact⟨by show 4<5;omega,rfl,⟨N+4,[_],_,rfl,zk _,hl _ _ b4,rfl⟩,λvs e=>by cases e⟩
    .cases h
  obtain⟨U',xk⟩:=Sim.nilLeaf 3 0 53 de rfl rfl rfl _ _ _ xp;refine⟨W1,U',[],0,x0,zko xk ⟨t_,⟨rfl,rfl,rfl,rfl,rfl,rfl,t_⟩,rfl,rfl⟩ o_,by simp,zk _,?_,hP.symm⟩;rw[List.drop_zero,zpt];omega
 .rintro l k y W ⟨B,U,acc,fr,x0,hS,h1,h2,h3,h4⟩ hy xe;obtain⟨xa,xf⟩:=yI.1 hy;have hd:(segs s).drop k=y::(segs s).drop (k+1):=by rw[<-xf];exact qf xa
  have xm:=h3;rw[hd,zjk]at xm;have hb:=λk(hk:k<5)=>(hS.fix.2 k hk).1;have x3:=hS.act (X':=XL (lO O N w5.heap.size) (lFix N) [] (some l)) (m:=47) (a':=zr7 a5 (.string ⟨y.toArray⟩)) rfl rfl rfl (by simp[zr7,x4]) rfl (F:=(15,⟨.str,y⟩)::lPF0) (zbG (by rw[zef x4];exact⟨rfl,by show y.length<=maxLen;unfold maxLen;omega⟩) (zbG ⟨_,hb 0 o_,by rw[zef x4];exact e2⟩ (zbG ⟨_,hb 1 o_,by rw[zef x4];exact e3⟩ (zbG ⟨_,hb 2 o_,by rw[zef x4];exact e4⟩ (zbG ⟨_,hb 3 o_,by rw[zef x4];exact e5⟩ (zbG ⟨_,hb 4 o_,by rw[zef x4];exact e6⟩ zgX)))))) rfl;refine zT (zr4 (x1 B [] (some l) x0) y fr acc U _ W x3) ?_;rintro e a' W' ⟨Y',U',h',rfl,hf⟩;have x9:=x2 x0 hS h';have h6:=h'.fit hf (by show 5<=7;omega);have h7:=h6.renameK (L:=lRn) (m:=7) rfl rfl (by show 5<=7;omega) rfl rfl;refine⟨rfl,⟨B,_,acc,fr,x0,(h7.fit (Y':=⟨lPF,libE y (fr:Int) acc,7⟩) ⟨⟨rfl,rfl,rfl,rfl,rfl,rfl,t_⟩,⟨rfl,rfl,rfl,rfl,rfl,rfl,rfl,t_⟩,rfl,rfl⟩ (by show 5<=7;omega)).act (X':=XL (lO O N w5.heap.size) (lFix N) [] none) rfl rfl rfl h7.sz h7.df (λsl=>(h7.fit (Y':=⟨lPF,libE y (fr:Int) acc,7⟩) ⟨⟨rfl,rfl,rfl,rfl,rfl,rfl,t_⟩,⟨rfl,rfl,rfl,rfl,rfl,rfl,rfl,t_⟩,rfl,rfl⟩ (by show 5<=7;omega)).fr sl) rfl,h1,h2,h3,h4⟩,x9⟩
 .rintro l k y W a' hy xe ⟨B,U,acc,fr,x0,hS,h1,h2,h3,h4⟩;obtain⟨xa,xf⟩:=yI.1 hy;have hd:(segs s).drop k=y::(segs s).drop (k+1):=by rw[<-xf];exact qf xa
  rw[hd,zjk]at h3;rw[hd,zrT]at h4;have x3:=hS.act (X':=XL (lO O N w5.heap.size) (lFix N) [] (some l)) rfl rfl rfl hS.sz hS.df hS.fr rfl;refine zT (zus o_ o_ o_ (x1 B [] (some l) x0) rfl rfl (λty=>zzs hN hG ty) (λer he=>⟨(zoD he).1,by have:=(zoD he).2;omega⟩) U _ W x3) ?_;rintro e a3 W' ⟨Y',U',h',hR⟩;have x9:=x2 x0 hS h';refine⟨?_,x9⟩;cases hst:zjo y fr acc with
  |error er=>
   rw[hst]at hR h4;obtain⟨rfl,hf⟩:=hR;exact .inr ⟨rfl,er,B,U',h4.symm,x0,zko h' hf o_⟩
  |ok acc'=>
   rw[hst]at hR h4;obtain⟨rfl,hf⟩:=hR;have h6:=(h'.fit hf (by show 5<=7;omega)).fit (Y':=⟨[],[(0,some (.hbox tD [⟨.lit,.slice none 0 0⟩])),(1,some (.box i64 (0:Int))),(2,some (.box i64 (0:Int))),(3,some (zq3 6)),(4,some (.box i64 ((fr+y.length+1:Nat):Int))),(6,some (.buf 53 de acc'))],7⟩) ⟨t_,⟨rfl,rfl,rfl,rfl,rfl,rfl,t_⟩,rfl,rfl⟩ (by show 5<=7;omega);have h7:=h6.renameK (L:=lRn) (m:=6) rfl rfl (by show 5<=6;omega) rfl rfl;exact .inl ⟨rfl,B,_,acc',fr+y.length+1,x0,zko h7 ⟨t_,⟨rfl,rfl,rfl,rfl,rfl,rfl,t_⟩,rfl,rfl⟩ o_,zqC h1 hst,xa,by omega,h4⟩
 .rintro W ⟨B,U,acc,fr,x0,hS,h1,h2,h3,h4⟩ x5;refine⟨.inl rfl,?_⟩;rw[List.drop_length]at h4;have hb:=λk(hk:k<5)=>(hS.fix.2 k hk).1;have x3:=hS.act (X':=XL (lO O N w5.heap.size) (lFix N) [ldco w5.heap.size] none) (m:=47) (a':={ a5 with defers:={ target:=.collected w5.heap.size,args:=#[] }::a5.defers }) rfl rfl rfl x4 (by rw[xi];rfl) (F:=lPF0) (zbG ⟨_,hb 0 o_,e2⟩ (zbG ⟨_,hb 1 o_,e3⟩ (zbG ⟨_,hb 2 o_,e4⟩ (zbG ⟨_,hb 3 o_,e5⟩ (zbG ⟨_,hb 4 o_,e6⟩ zgX))))) rfl;refine zco (m:=0) (zT (zrN (x1 _ _ _ x0) fr acc U _ W x3) ?_);rintro e a' W' ⟨Y',U',h',rfl,hf⟩;have h6:=h'.fit hf (by show 5<=6;omega);have x9:=x2 x0 hS h6;obtain⟨u,q0,q1,hu⟩:=zsm h6 (i:=0) (by show 0<5;omega) rfl;obtain⟨c1,y1,q2,q3⟩:=zo9 h6 (i:=1) (by show 1<5;omega) rfl;obtain⟨c2,y2,q4,q5⟩:=zo9 h6 (i:=2) (by show 2<5;omega) rfl;subst q3;subst q5;have xg:=λk(hk:k<5)=>(h6.fix.2 k hk).1;have k2:a'.tmps.getD 2 undef=.pointer (some ⟨N,0,none⟩):=by
   obtain⟨g,r1,r2⟩:∃g,zag (U' 0)=some g/\a'.tmps.getD 2 undef=.pointer (some ⟨g,0,none⟩):=h6.fr 2;rw[xg 0 o_]at r1;cases r1;exact r2
  have k3:a'.tmps.getD 3 undef=.pointer (some ⟨N+1,0,none⟩):=by
   obtain⟨g,r1,r2⟩:∃g,zag (U' 1)=some g/\a'.tmps.getD 3 undef=.pointer (some ⟨g,0,none⟩):=h6.fr 3;rw[xg 1 o_]at r1;cases r1;exact r2
  have k4:a'.tmps.getD 4 undef=.pointer (some ⟨N+2,0,none⟩):=by
   obtain⟨g,r1,r2⟩:∃g,zag (U' 2)=some g/\a'.tmps.getD 4 undef=.pointer (some ⟨g,0,none⟩):=h6.fr 4;rw[xg 2 o_]at r1;cases r1;exact r2
  show LeavesInM yD 1 zb kM a'.tmps (zto w O (zbl s)) a'.defers .returning W';rw[h6.df, <-h4];exact lfin hN (O':=OSet (XL (lO O N w5.heap.size) (lFix N) [ldco w5.heap.size] none) (sLT acc).E U') (λg hg=>.inl (.inl hg)) (.inl (.inr (.inr (.inl rfl)))) o_ (zno hN xc xd x0 h6.bel) ((x9.block _ (.inr (.inl rfl))).trans x5) q1 k2 k3 k4 q0 q2 q4 hu
 .rintro W ⟨er,B,U,xb,x0,hS⟩ x5;refine⟨.inr rfl,?_⟩;obtain⟨u,q0,q1,hu⟩:=zsm hS (i:=0) (by show 0<5;omega) rfl;subst hu;obtain⟨c1,y1,q2,q3⟩:=zo9 hS (i:=1) (by show 1<5;omega) rfl;obtain⟨c2,y2,q4,q5⟩:=zo9 hS (i:=2) (by show 2<5;omega) rfl;subst q3;subst q5;rw[xi,xb];exact lfin (acc:=[]) hN (O':=OSet (XL (lO O N w5.heap.size) (lFix N) [] none) (lRE er.1 er.2) U) (λg hg=>.inl (.inl hg)) (.inl (.inr (.inr (.inl rfl)))) o_ (zno hN xc xd x0 hS.bel) x5 q1 e2 e3 e4 q0 q2 q4 ⟨_,rfl,.inl ⟨rfl,none,0,rfl,zk _⟩⟩
end
end
section
attribute [local go_sem] kR
theorem zlw{P:Program}{f:FuncId}{Q:Exit->Act->zh->Prop}{a:Act}{w:zh}{id:Nat}{c:Code}(h:zgQ P f c (λe a w=>(e=.normal\/e=.ret)/\Q e a w) a w):zgQ P f (.block id c) Q a w:=by
 intro b k cs hb x1;have h0:(lone (b.atR a (.code (.block id c)::k)) cs w).fenced P yD:=fenced_wide P _;obtain⟨e,a1,w1,⟨he,hq⟩,x0⟩:=h b (.inBlock id::k) cs hb x1;rcases he with rfl|rfl
 .exact⟨.normal,a1,w1,hq,.head h0 stepR_block (StepsIn.trans x0 (.one (fenced_wide P _) stepR_inBlock))⟩
 .exact⟨_,a1,w1,hq,.of_steps (.one h0 stepR_block) x0⟩
noncomputable def zsX:Ctr:={ args:=[.str],pre:=λ_=>[],res:=zwr,own:=none,out:=λx=>((zbl x.1).1,(zbl x.1).2.1,(zbl x.1).2.2,()) }
set_option maxHeartbeats 1000000 in
theorem zm8:yT zb gmH 13 zsX:=by
 refine⟨Tryz.call13,λw O xs vs hO hr hp hG=>?_⟩;obtain⟨(s:List UInt8),_⟩:=xs;obtain⟨v1,r1,rfl,e1,rfl⟩:=hr;have e1: [v1]=[Value.string ⟨s.toArray⟩]/\s.length<=maxLen:=e1;obtain⟨e1,x8⟩:=e1;cases e1;refine callsIn_wide.1 (zfS (m:=1) Tryz.func13 rfl ?_);simp only[Tryz.ntmps13,List.size_toArray,zv,yC,Nat.reduceAdd,Nat.reduceSub,Array.replicate_succ,Array.replicate_zero,List.push_toArray,List.append_toArray,List.nil_append,List.cons_append];change zgQ _ _ _ (bodyPostM yD 1 zb kM (zto w O (zbl s))) _ _;generalize hQ:bodyPostM yD 1 zb kM _=Q;refine zcj (zco (m:=1) ?_)
 gi_wp2
 refine zcj (zco (m:=1) ?_)
 gi_wp2
 .rename_i x3;have hP:zbl s=([],0,2):=if_pos o_;rw[<-hQ,hP];refine⟨_,zrR (g2:=w.heap.size) (g3:=w.heap.size+1) (g4:=w.heap.size+1+1) (u:=.slice none 0 0) (x:=0) (y:=2) (t2:=tD) (t3:=3) (t4:=32) rfl rfl rfl rfl ?_ ?_ ?_,_,rfl,((((zR _ w).alloc (zj _) _).alloc (by simp) _).alloc (by simp;omega) _),zra (acc:=[]) ⟨_,rfl,.inl ⟨rfl,none,0,rfl,zk _⟩⟩⟩
  .exact zaX _ (zaX _ (zbS _ rfl))
  .exact zaX _ (zbS _ (by simp))
  .exact zbS _ (by simp)
 rename_i x2;have hlen:s.length<=1048576:=o_;refine zcj (zco (m:=1) ?_)
 gi_wp2
 refine zcj (zco (m:=1) ?_)
 gi_wp2
 refine zcj (zcj (zco (m:=1) ?_))
 gi_wp2
 refine⟨t_,(callsIn_wide.2 (zkk _ _ _)).mono ?_⟩;rintro e w' ⟨rfl,rfl⟩
 gi_wp2
 refine zlw ?_;obtain⟨w4,x0⟩:∃w4:zh,w4=(((((w.alloc (.cells #[.slice none 0 0] tD)).alloc (.cells #[.int .i64 0] 3)).alloc (.cells #[.int .i64 0] 32)).alloc (.cells #[.slice none 0 0] tD)).alloc (.cells #[.int .i64 0] 3)):=⟨_,rfl⟩;rw[<-x0, <-hQ];have x1:w4.heap.size=w.heap.size+5:=by rw[x0];simp
 have x4:xG w.heap.size w w4:=by rw[x0];exact((((((zR _ w).alloc (zj _) _).alloc (by simp) _).alloc (by simp;omega) _).alloc (by simp;omega) _).alloc (by simp;omega) _)
 have b0:w4.heap[w.heap.size]? =some (.cells #[.slice none 0 0] tD (0,0)):=by rw[x0];exact zaX _ (zaX _ (zaX _ (zaX _ (zbS _ rfl))))
 have b1:w4.heap[w.heap.size+1]? =some (.cells #[.int .i64 0] 3 (0,0)):=by rw[x0];exact zaX _ (zaX _ (zaX _ (zbS _ (by simp))))
 have b2:w4.heap[w.heap.size+2]? =some (.cells #[.int .i64 0] 32 (0,0)):=by rw[x0];exact zaX _ (zaX _ (zbS _ (by simp)))
 have b3:w4.heap[w.heap.size+3]? =some (.cells #[.slice none 0 0] tD (0,0)):=by rw[x0];exact zaX _ (zbS _ (by simp))
 have b4:w4.heap[w.heap.size+4]? =some (.cells #[.int .i64 0] 3 (0,0)):=by rw[x0];exact zbS _ (by simp)
 have x6:xG w.heap.size w (itW w4 ⟨s.toArray⟩ ⟨#[10]⟩):=x4.trans ((((zR _ w4).alloc (zj _) _).alloc (by simp) _).alloc (by simp;omega) _ |>.mono x4.size);have i0:(itW w4 ⟨s.toArray⟩ ⟨#[10]⟩).heap[w.heap.size+5]? =some (.cells #[.string ⟨s.toArray⟩] 9 (0,0)):=zaX _ (zaX _ (zbS _ x1));have i1:(itW w4 ⟨s.toArray⟩ ⟨#[10]⟩).heap[w.heap.size+6]? =some (.cells #[.string ⟨#[10]⟩] 9 (0,0)):=zaX _ (zbS _ (by simp[x1]));have i2:(itW w4 ⟨s.toArray⟩ ⟨#[10]⟩).heap[w.heap.size+7]? =some (.cells #[.int .i64 0] 3 (0,0)):=zbS _ (by simp[x1]);have x5:(itW w4 ⟨s.toArray⟩ ⟨#[10]⟩).heap.size=w.heap.size+8:=by simp[itW,x1]
 have x7:itV w4=.func (.func 108) #[] #[.pointer (some ⟨w.heap.size+6,0,none⟩),.pointer (some ⟨w.heap.size+5,0,none⟩),.pointer (some ⟨w.heap.size+7,0,none⟩)]:=by unfold itV;rw[x1]
 have hl:∀g(o:Obj),w4.heap[g]? =some o->(itW w4 ⟨s.toArray⟩ ⟨#[10]⟩).heap[g]? =some o:=λg o hg=>zaX _ (zaX _ (zaX _ hg));exact zrS rfl hO hG hlen x5 x6 (hl _ _ b0) (hl _ _ b1) (hl _ _ b2) (hl _ _ b3) (hl _ _ b4) i0 i1 i2 rfl rfl rfl rfl rfl rfl x7 rfl
end
section
set_option maxRecDepth 10000
section
variable {s:List UInt8}
theorem zof{lo hi:Int}{z:Bool}{x:Int}(h1:lo<=x)(h2:x<=hi)(h3:z=true\/x≠0):∀{l:List Int}{last:Int},Ris lo hi z last l->l.getLast?.getD last<x->Ris lo hi z last (l++[x])
 | [],_,_,h=>⟨h,h1,h2,h3,t_⟩
 |y::r,last,h,hx=>by
  obtain⟨a,b,c,d,e⟩:=h;refine⟨a,b,c,d,zof h1 h2 h3 e ?_⟩;rw[List.getLast?_cons]at hx;exact hx
end
theorem zvH{lo hi:Int}{z:Bool}:∀{l:List Int}{last:Int},Ris lo hi z last l->∀i,i<l.length->(lo<=l.getD i 0/\l.getD i 0<=hi)/\(0<i->l.getD (i-1) 0<l.getD i 0)/\(z=true\/l.getD i 0≠0)
 | [],_,_,i,hi=>absurd hi (yH _)
 |x::r,last,h,i,hi=>by
  obtain⟨a,b,c,d,e⟩:=h;cases i with
  |zero=>exact⟨⟨b,c⟩,λh=>absurd h (Nat.lt_irrefl _),d⟩
  |succ i=>
   obtain⟨h1,h2,h3⟩:=zvH e i (by rw[zv]at hi;omega);refine⟨h1,λ_=>?_,h3⟩;cases i with
   |zero=>
    cases r with
    |nil=>rw[zv,yC]at hi;omega
    |cons y r=>exact e.1
   |succ i=>exact h2 o_
theorem ziE{l:List Int}{lo hi:Int}{z:Bool}(h0:¬(lo=0/\hi=0))(hz:z=decide (¬lo<0))(x0:l≠ [])(h:Ris lo hi z (lo-1) l):zaV l (lo,hi,())=true:=by
 have x1:zg5 (lo,hi,())=false:=by
  rw[Bool.eq_false_iff];intro e;unfold zg5 at e;rw[zf,beq_iff_eq,beq_iff_eq]at e;exact h0 e
 unfold zaV;rw[x1,cond_false,zf,decide_eq_true_iff,yE];refine⟨λi hi=>?_,by have:=List.length_pos_iff.2 x0;omega⟩;obtain⟨⟨a,b⟩,c,d⟩:=zvH h i (List.mem_range.1 hi);rw[zL];unfold zhN;simp only[xY,qM,zaF,vw,decide_eq_false_iff_not,beq_eq_false_iff_ne];refine⟨⟨⟨a,b⟩,?_⟩,?_⟩
 .by_cases e:0<i
  .exact .inr (by have:=c e;omega)
  .exact .inl e
 .rcases d with d|d
  .rw[hz]at d;exact .inr (of_decide_eq_true d)
  .exact .inl d
theorem and4{a b c d:Bool}(ha:a=true)(hb:b=true)(hc:c=true)(hd:d=true):((true&&a)&&(b&&(true&&(c&&d))))=true:=by rw[ha,hb,hc,hd];rfl
theorem zcT{n lo hi:Int}(h:lo<=n/\n<=hi):inB n lo hi=true:=zaF.2 h
def zAC:List UInt8:=[100,97,121,115,32,55,32,51,32,111,114,32,40,64,102,114,101,101,32,115,104,105,102,116,32,45,49,41]
def zAB:List UInt8:=[35,32,104,111,108,105,100,97,121,115,10,102,114,101,101,32,61,32,119,101,101,107,100,97,121,115,32,40,53,32,54,41,10,10,111,114,32,61,32,64,102,114,101,101,32,115,104,105,102,116,32,49]
def zAA:List UInt8:=[102,114,101,101,32,119,101,101,107,100,97,121,115,32,40,53,41]
def zlE:List UInt8:=[100,97,121,115,32,55,32,51,32,111,114,32,64,102,114,101,101,32,115,104,105,102,116,32,45,49]
def zty:List UInt8:=[102,114,101,101,32,61,32,119,101,101,107,100,97,121,115,32,40,53,32,54,41,10,111,114,32,61,32,64,102,114,101,101,32,115,104,105,102,116,32,49,10]
def zwx:List UInt8:=[100,97,121,115,32,48,32,51]
def zww:List UInt8:=[109,111,110,116,104,115,32,48,32,40,50,32,50,41]
def zwv:List UInt8:=[100,97,121,115,32,48,55,32,51]
def zwu:List UInt8:=[119,101,101,107,100,97,121,115,32,40,41]
def zwt:List UInt8:=[100,97,121,115,32,55]
def zws:List UInt8:=[]
def zgg:List UInt8:=[102,114,101,101]
def zqq:List UInt8:=[111,114]
def sanR:List Nd:=[(1,0,0,0,7,3,[],[],()),(18,0,0,0,0,0,[],zgg,()),(11,0,1,0,-1,0,[],[],()),(9,0,0,2,0,0,[],[],())]
def sanL:List De:=[(zgg,[(5,0,0,0,0,0,[5,6],[],())],()),(zqq,[(18,0,0,0,0,0,[],zgg,()),(11,0,0,0,1,0,[],[],())],())]
theorem sanA:za9 zAC=(sanR,0,0):=by kernel_rfl
theorem san1:za9 zwx=([],5,1):=by kernel_rfl
theorem san2:za9 zww=([],12,1):=by kernel_rfl
theorem san3:za9 zwv=([],5,3):=by kernel_rfl
theorem san4:za9 zwu=([],10,3):=by kernel_rfl
theorem san5:za9 zwt=([],6,3):=by kernel_rfl
theorem san6:za9 zws=([],0,3):=by kernel_rfl
theorem sanF:fmtS sanR=(zlE,0):=by kernel_rfl
theorem sanN:fmtS []=([],1):=by kernel_rfl
theorem sanG:zbr sanL=(zty,0):=by kernel_rfl
def zxk(y:List UInt8):Bool:=(!decide (y.take 1=[35]))&&decide (zbJ isWh y<y.length)
theorem zur(y:List UInt8):ziG y=zxk y:=by
 unfold ziG zxk zmi;rw[zek];have:(decide (zi ([35]:List UInt8)<=y.length)&&decide (y.take (zi ([35]:List UInt8))=[35]))=decide (y.take 1=[35]):=by
  cases y with
  |nil=>rfl
  |cons c q=>rw[decide_eq_true (by simp:zi ([35]:List UInt8)<=(c::q).length),Bool.true_and];rfl
 rw[this]
def ztG(y:List UInt8)(fr:Nat)(acc:List De):Except (Int×Int) (List De):=
 if zxk y=true then
  if 4000<y.length then .error ((fr:Int),2)
  else match zhK y ((acc.length:Nat):Int) with
   |.ok d=>.ok (acc++[d])
   |.error e=>if e.2=0 then .ok acc else .error ((fr:Int)+e.1,e.2)
 else .ok acc
theorem ztF(y:List UInt8)(fr:Nat)(acc:List De):zjo y fr acc=ztG y fr acc:=by
 unfold zjo ztG;rw[zur]
 all_goals rfl
def libC:List (List UInt8)->Nat->List De->List De×Int×Int
 | [],_,acc=>(acc,0,0)
 |y::r,fr,acc=>match ztG y fr acc with
  |.error e=>([],e.1,e.2)
  |.ok acc'=>libC r (fr+y.length+1) acc'
theorem zrU:∀(l:List (List UInt8))(fr:Nat)(acc:List De),libK l fr acc=libC l fr acc
 | [],_,_=>rfl
 |y::r,fr,acc=>by
  unfold libK libC;rw[ztF];cases ztG y fr acc with
  |error e=>rfl
  |ok a=>exact zrU r _ a
def zlZ(s:List UInt8):List De×Int×Int:=if 1048576<s.length then([],0,2) else libC (segs s) 0 []
theorem zhv(s:List UInt8):zbl s=zlZ s:=by
 unfold zbl zlZ;rw[zrU]
theorem sanB:zbl zAB=(sanL,0,0):=(zhv _).trans (by kernel_rfl)
theorem sanC:zbl zAA=([],5,3):=(zhv _).trans (by kernel_rfl)
def zcF(s:List UInt8)(at' e:Int):Bool:=(((((za9 s).1.length:Nat):Int)==0)&&((za9 s).2.1==at'))&&((za9 s).2.2==e)
def zv7:Ctr:={ args:=[.str,i64,i64],pre:=λ_=>[],res:=.bool,own:=none,out:=λx=>zcF x.1 x.2.1 x.2.2.1 }
def kPa:Kn:={ gmK with C:=[(12,zo5)] }
theorem zvS:KnOk zb gmH kPa:=zaj.with (.cons zkE .nil)
theorem ztv:yT zb gmH 16 zv7:=by
 refine ctr2 zvS Tryz.func16 Tryz.call16 ?_;rintro w0 X hX ⟨s,at',e,_⟩ hp
 iterate 3 (refine za (za (zaa zvS ?_)))
 refine zp ⟨.inr rfl,D1 ?_⟩;rw[zcR,zcR];rfl
def zsW:Ctr:={ args:=[],pre:=λ_=>[],res:=.bool,own:=none,out:=λ_=>true }
noncomputable def kSan:Kn:={ gmK with C:=[(12,zo5),(7,cFmt),(13,zsX),(14,zz8),(15,zzT),(16,zv7)] }
theorem zdH:KnOk zb gmH kSan:=zaj.with (.cons zkE<|.cons ziT<|.cons zm8<|.cons zst<|.cons zwR<|.cons ztv .nil)
theorem vStr{x y:List UInt8}(h:x=y):(⟨.str,x⟩:V)=⟨.str,y⟩:=by rw[h]
theorem vRul{x y:List Nd}(h:x=y):(⟨.slice nd,x⟩:V)=⟨.slice nd,y⟩:=by rw[h]
theorem vDes{x y:List De}(h:x=y):(⟨.slice de,x⟩:V)=⟨.slice de,y⟩:=by rw[h]
set_option maxHeartbeats 2000000 in
theorem zqW:yT zb gmH 5 zsW:=by
 refine ctr2 zdH Tryz.func5 Tryz.call5 ?_;rintro w0 X hX _ hp;change AWP _ _ _ _ _ ⟨[],[],0⟩ _
 iterate 2 (refine za (za (zaa zdH ?_)))
 refine zak (Y':=⟨[(1,⟨.slice nd,sanR⟩),(3,⟨i64,(0:Int)⟩)],[],0⟩) ⟨⟨vRul (congrArg (λx=>x.1) sanA),vI64 (congrArg (λx=>x.2.2) sanA),t_⟩,t_,rfl,rfl⟩ ?_;refine za (za (zaa zdH ?_));refine vM hX 4 ?_;refine zak (Y':=⟨[(1,⟨.slice nd,sanR⟩),(3,⟨i64,(0:Int)⟩),(4,⟨.slice nd,sanR⟩)],[],1⟩) ⟨⟨rfl,rfl,rfl,t_⟩,t_,rfl,rfl⟩ ?_;refine za (za (zaa zdH ?_));refine zak (Y':=⟨[(1,⟨.slice nd,sanR⟩),(3,⟨i64,(0:Int)⟩),(4,⟨.slice nd,sanR⟩),(5,⟨.str,zlE⟩),(6,⟨i64,(0:Int)⟩)],[],1⟩) ⟨⟨rfl,rfl,rfl,vStr (congrArg (λx=>x.1) sanF),vI64 (congrArg (λx=>x.2) sanF),t_⟩,t_,rfl,rfl⟩ ?_;refine za (za (zaa zdH ?_));refine zak (Y':=⟨[(1,⟨.slice nd,sanR⟩),(3,⟨i64,(0:Int)⟩),(4,⟨.slice nd,sanR⟩),(5,⟨.str,zlE⟩),(6,⟨i64,(0:Int)⟩),(7,⟨.slice de,sanL⟩),(9,⟨i64,(0:Int)⟩)],[],1⟩) ⟨⟨rfl,rfl,rfl,rfl,rfl,vDes (congrArg (λx=>x.1) sanB),vI64 (congrArg (λx=>x.2.2) sanB),t_⟩,t_,rfl,rfl⟩ ?_;refine za (za (zaa zdH ?_));refine zak (Y':=⟨[(1,⟨.slice nd,sanR⟩),(3,⟨i64,(0:Int)⟩),(4,⟨.slice nd,sanR⟩),(5,⟨.str,zlE⟩),(6,⟨i64,(0:Int)⟩),(7,⟨.slice de,sanL⟩),(9,⟨i64,(0:Int)⟩),(11,⟨i64,(5:Int)⟩),(12,⟨i64,(3:Int)⟩)],[],1⟩) ⟨⟨rfl,rfl,rfl,rfl,rfl,rfl,rfl,vI64 (congrArg (λx=>x.2.1) sanC),vI64 (congrArg (λx=>x.2.2) sanC),t_⟩,t_,rfl,rfl⟩ ?_;refine za (za (zaa zdH ?_));refine zak (Y':=⟨[(1,⟨.slice nd,sanR⟩),(3,⟨i64,(0:Int)⟩),(4,⟨.slice nd,sanR⟩),(5,⟨.str,zlE⟩),(6,⟨i64,(0:Int)⟩),(7,⟨.slice de,sanL⟩),(9,⟨i64,(0:Int)⟩),(11,⟨i64,(5:Int)⟩),(12,⟨i64,(3:Int)⟩),(14,⟨i64,(1:Int)⟩)],[],1⟩) ⟨⟨rfl,rfl,rfl,rfl,rfl,rfl,rfl,rfl,rfl,vI64 (congrArg (λx=>x.2) sanN),t_⟩,t_,rfl,rfl⟩ ?_;refine za (za (zaa zdH ?_));refine zaf rfl (λhb=>?_) (λ_=>?_)
 .have hb:false=true:=hb;cases hb
 apply zah;refine za (za (zaa zdH ?_));refine zak (Y':=⟨[(1,⟨.slice nd,sanR⟩),(4,⟨.slice nd,sanR⟩),(5,⟨.str,zlE⟩),(7,⟨.slice de,sanL⟩),(15,⟨.str,zty⟩),(16,⟨i64,(0:Int)⟩)],[],1⟩) ⟨⟨rfl,rfl,rfl,rfl,vStr (congrArg (λx=>x.1) sanG),vI64 (congrArg (λx=>x.2) sanG),t_⟩,t_,rfl,rfl⟩ ?_;have hs:zqX sanR sanR=true:=zij.2 rfl;refine za (za (zaa zdH ?_));refine zak (Y':=⟨[(17,⟨.bool,true⟩)],[],1⟩) ⟨⟨zcH ?_,t_⟩,t_,rfl,rfl⟩ ?_
 .show(bif (bif (bif (bif (bif zqX sanR sanR then eqb .str zlE zlE else false) then eqb .str zgg zgg else false) then eqb .str zqq zqq else false) then((0:Int)==0) else false) then eqb .str zty zty else false)=true;rw[hs,zfz,zfz,zfz,zfz];rfl
 have w1:zcF zwx 5 1=true:=by unfold zcF;rw[san1];rfl
 have w2:zcF zww 12 1=true:=by unfold zcF;rw[san2];rfl
 have w3:zcF zwv 5 3=true:=by unfold zcF;rw[san3];rfl
 have w4:zcF zwu 10 3=true:=by unfold zcF;rw[san4];rfl
 have w5:zcF zwt 6 3=true:=by unfold zcF;rw[san5];rfl
 have w6:zcF zws 0 3=true:=by unfold zcF;rw[san6];rfl
 refine za (za (zaa zdH ?_));refine zp ⟨.inr rfl,D1 ?_⟩;show(bif (bif (bif (bif (bif (bif true then zcF zwx 5 1 else false) then zcF zww 12 1 else false) then zcF zwv 5 3 else false) then zcF zwu 10 3 else false) then zcF zwt 6 3 else false) then zcF zws 0 3 else false)=true;rw[w1,w2,w3,w4,w5,w6];rfl
abbrev Mk:=List Int×Int×Int×Int×Unit
def mkD(m:Mk):List Int:=m.1
def mkU(m:Mk):Int:=m.2.1
def mkN(m:Mk):Int:=m.2.2.1
def mkS(m:Mk):Int:=m.2.2.2.1
def mkUp(m:Mk):Mk:=(mkD m,mkU m+1,mkN m,mkS m,())
def zai(m:Mk)(n:Int):Int×Mk:=(if mkU m+1>(((mkD m).length:Nat):Int) then 0 else(mkD m).getD (mkU m).toNat 0%n,mkUp m)
def zu8:RCtr:={ self:=mkr,args:=[i64],inv:=λ_ _=>True,pre:=λm xs=>[0<=mkU m,mkU m<=1000000,0<xs.1,xs.1<=1000000000],res:=i64,out:=λm xs=>(zai m xs.1).1,post:=λm xs=>(zai m xs.1).2 }
def kMd:Kn:={ gmK with C:=[(9,cMod)] }
theorem zmh:KnOk zb gmG kMd:=zaA.with (.cons zrA .nil)
set_option maxHeartbeats 8000000 in
theorem zm7:zfU zb gmG 48 zu8:=by
 refine zer (K:=kMd) zmh Tryz.func48 rfl rfl Tryz.call48 rfl d_ (λw w' g hg h hk=>trivial) ?_;rintro w0 O g hX x0 ⟨(d:List Int),(u:Int),(nm:Int),(sz:Int),_⟩ ⟨(n:Int),_⟩ hp;obtain⟨h0,h1,h2,h3⟩:0<=u/\u<=1000000/\0<n/\n<=1000000000:=hp;change AWP _ _ _ _ _ ⟨[(0,⟨.optr mkr,⟨0,mkr,.here⟩⟩),(1,⟨i64,n⟩)],[(0,some (.box mkr (d,u,nm,sz,())))],1⟩ _;have i1:inR .i64 (u+1):=zad o_ o_;have i2:inR .i64 (u+1-1):=zad o_ o_;have i3:(0:Int)<=u+1-1:=o_
 iterate 2 (refine za (za (zaa zmh ?_)))
 refine za (za (zdn 9 dM zmh rfl ?_));refine zaU rfl (λhb=>?_) (λhb=>?_)
 .have hb:u+1>((d.length:Nat):Int):=hb;refine za (za (zaa zmh ?_));refine zp ⟨.inr rfl,rfl,D1 ?_⟩;exact(if_pos (show mkU (d,u,nm,sz,())+1>(((mkD (d,u,nm,sz,())).length:Nat):Int) from hb)).symm
 .have hb:¬(u+1>((d.length:Nat):Int)):=hb;apply zah;have i4:u+1-1<((d.length:Nat):Int):=o_;have i5:(u+1-1).toNat<d.length:=o_;refine za (za (zdn 12 dM zmh rfl ?_));refine zp ⟨.inr rfl,rfl,D1 ?_⟩;show d.getD (u+1-1).toNat 0%n=_;refine Eq.trans ?_ (if_neg (show ¬mkU (d,u,nm,sz,())+1>(((mkD (d,u,nm,sz,())).length:Nat):Int) from hb)).symm;rw[show u+1-1=u by omega];rfl
theorem zaG(m:Mk){n:Int}(h:0<n):0<=(zai m n).1/\(zai m n).1<n:=by
 unfold zai;split
 .exact⟨yS _,h⟩
 .exact⟨qq _ o_,xS _ h⟩
theorem zaZ(m:Mk)(n:Int):mkU (zai m n).2=mkU m+1:=rfl
theorem zxh(m:Mk)(n:Int):mkN (zai m n).2=mkN m:=rfl
def mRis(lo hi:Int):Nat->Mk->Int->List Int->List Int×Mk
 |0,m,_,acc=>(acc,m)
 |k+1,m,v,acc=>if v<=hi then mRis lo hi k (zai m 3).2 (v+1+(zai m 3).1) (if v≠0\/0<=lo then acc++[v] else acc) else(acc,m)
def orHi(hi:Int)(p:List Int×Mk):List Int×Mk:=(if p.1.length=0 then [hi] else p.1,p.2)
def zaJ(m:Mk)(lo hi:Int):List Int×Mk:=
 let p:=zai m 4
 let q:=zai p.2 (hi-lo+1)
 orHi hi (mRis lo hi (1+p.1).toNat q.2 (lo+q.1) [])
def znP:RCtr:={ self:=mkr,args:=[i64,i64],inv:=λ_ _=>True,pre:=λm xs=>[0<=mkU m,mkU m<=900000,-1000<=xs.1,xs.1<=xs.2.1,xs.2.1<=1000],res:=ints,out:=λm xs=>(zaJ m xs.1 xs.2.1).1,post:=λm xs=>(zaJ m xs.1 xs.2.1).2 }
def kRi:Kn:={ gmK with R:=[(48,zu8)] }
theorem zeg:KnOk zb gmG kRi:=zaA.withR (.cons zm7 (λ_ _=>trivial) .nil)
theorem zlQ:zfU zb gmG 52 znP:=by
 refine zer (K:=kRi) zeg Tryz.func52 rfl rfl Tryz.call52 rfl d_ (λw w' g hg h hk=>trivial) ?_;rintro w0 O g hX xb ⟨(d:List Int),(u:Int),(nm:Int),(sz:Int),_⟩ ⟨(lo:Int),(hi:Int),_⟩ hp;obtain⟨h0,h1,h2,h3,h4⟩:0<=u/\u<=900000/\ -1000<=lo/\lo<=hi/\hi<=1000:=hp;obtain⟨m,hm⟩:∃m:Mk,m=(d,u,nm,sz,()):=⟨_,rfl⟩;rw[<-hm];have h0:0<=mkU m:=by rw[hm];exact h0
 have h1:mkU m<=900000:=by rw[hm];exact h1
 change AWP _ _ _ _ _ ⟨[(0,⟨.optr mkr,⟨0,mkr,.here⟩⟩),(1,⟨i64,lo⟩),(2,⟨i64,hi⟩)],[(0,some (.box mkr m))],1⟩ _;clear hm;have hc:=zaG m (n:=4) d_;have xc:=zaZ m 4;obtain⟨c,xa⟩:∃k:Nat,(zai m 4).1=(k:Int):=⟨(zai m 4).1.toNat,by omega⟩;have xg:mkU m<=1000000:=o_;have i1:inR .i64 (1+(zai m 4).1):=zad o_ o_
 iterate 2 (refine za (za (zaa zeg ?_)))
 have x4:1+(zai m 4).1=((c+1:Nat):Int):=o_;have e0:orHi hi (mRis lo hi (c+1) (zai (zai m 4).2 (hi-lo+1)).2 (lo+(zai (zai m 4).2 (hi-lo+1)).1) [])=zaJ m lo hi:=by
  unfold zaJ;simp only[x4,zH]
 have xe:=zaG (zai m 4).2 (n:=hi-lo+1) o_;have xd:=zaZ (zai m 4).2 (hi-lo+1);have j1:inR .i64 (hi-lo):=zad o_ o_;have j2:inR .i64 (hi-lo+1):=zad o_ o_;have j3:0<=mkU (zai m 4).2:=o_;have j4:mkU (zai m 4).2<=1000000:=o_;have j5:0<hi-lo+1:=o_;have j6:hi-lo+1<=1000000000:=o_;have j7:inR .i64 (lo+(zai (zai m 4).2 (hi-lo+1)).1):=zad o_ o_;refine za (za (zaa zeg ?_));have u2:mkU (zai (zai m 4).2 (hi-lo+1)).2=mkU m+2:=o_;have v2:lo<=lo+(zai (zai m 4).2 (hi-lo+1)).1/\lo+(zai (zai m 4).2 (hi-lo+1)).1<=hi:=o_;refine za (za (zaa zeg ?_));refine zhl hX 9 3 i64 rfl rfl rfl ?_;refine za (za (zaa zeg ?_));have xi:c+1<=4:=o_;refine zak (Y':=⟨[(0,⟨.optr mkr,⟨0,mkr,.here⟩⟩),(1,⟨i64,lo⟩),(2,⟨i64,hi⟩),(7,⟨i64,((c+1:Nat):Int)⟩),(8,⟨i64,lo+(zai (zai m 4).2 (hi-lo+1)).1⟩),(9,⟨.obuf i64,(1:Nat)⟩),(10,⟨i64,(0:Int)⟩)],[(0,some (.box mkr (zai (zai m 4).2 (hi-lo+1)).2)),(1,some (.buf 3 i64 []))],2⟩) ⟨⟨rfl,rfl,rfl,vI64 x4,rfl,rfl,rfl,t_⟩,⟨rfl,rfl,t_⟩,rfl,rfl⟩ ?_;obtain⟨R,x1⟩:∃R,R=zaJ m lo hi:=⟨_,rfl⟩;rw[<-x1]at e0;generalize (zai (zai m 4).2 (hi-lo+1)).2=m2 at *;generalize lo+(zai (zai m 4).2 (hi-lo+1)).1=v at *;clear hc xc xa xg i1 x4 xe xd j1 j2 j3 j4 j5 j6 j7;apply zay;refine xP (ι:=Nat×Mk×Int×List Int) (λx=>⟨[(0,⟨.optr mkr,⟨0,mkr,.here⟩⟩),(1,⟨i64,lo⟩),(2,⟨i64,hi⟩),(7,⟨i64,((c+1:Nat):Int)⟩),(8,⟨i64,x.2.2.1⟩),(9,⟨.obuf i64,(1:Nat)⟩),(10,⟨i64,(((c+1)-x.1:Nat):Int)⟩)],[(0,some (.box mkr x.2.1)),(1,some (.buf 3 i64 x.2.2.2))],2⟩) (λx=>orHi hi (mRis lo hi x.1 x.2.1 x.2.2.1 x.2.2.2)=R/\x.1<=c+1/\mkU x.2.1=mkU m+2+((c+1-x.1:Nat):Int)/\(lo<=x.2.2.1/\x.2.2.1<=hi+3)/\x.2.2.2.length<=4-x.1) (λx=>x.1) (c+1,m2,v,[]) ⟨e0,zj _,?_,⟨v2.1,?_⟩,zk _⟩ ⟨⟨rfl,rfl,rfl,rfl,rfl,rfl,vI64 ?_,t_⟩,⟨rfl,rfl,t_⟩,rfl,rfl⟩ ?_
 .show mkU m2=mkU m+2+((c+1-(c+1):Nat):Int);omega
 .show v<=hi+3;omega
 .show(0:Int)=((c+1-(c+1):Nat):Int);omega
 rintro ⟨k,mk,w,acc⟩ ⟨hR,hk,hu,⟨x7,x5⟩,x2⟩;have hR:orHi hi (mRis lo hi k mk w acc)=R:=hR;have hk:k<=c+1:=hk;have hu:mkU mk=mkU m+2+((c+1-k:Nat):Int):=hu;have x7:lo<=w:=x7;have x5:w<=hi+3:=x5;have x2:acc.length<=4-k:=x2;clear e0 u2 v2;change AWP _ _ _ _ _ ⟨[(0,⟨.optr mkr,⟨0,mkr,.here⟩⟩),(1,⟨i64,lo⟩),(2,⟨i64,hi⟩),(7,⟨i64,((c+1:Nat):Int)⟩),(8,⟨i64,w⟩),(9,⟨.obuf i64,(1:Nat)⟩),(10,⟨i64,(((c+1)-k:Nat):Int)⟩)],[(0,some (.box mkr mk)),(1,some (.buf 3 i64 acc))],2⟩ _;have hq:(bif decide ((((c+1)-k:Nat):Int)<((c+1:Nat):Int)) then decide (w<=hi) else false)=decide (0<k/\w<=hi):=by
  rw[zcR,zY,zf,decide_eq_true_iff,decide_eq_true_iff,decide_eq_true_iff];omega
 refine za (za (zaa zeg ?_));refine zaf rfl (λhb=>?_) (λhb=>?_)
 .have hb:=of_decide_eq_true (hq.symm.trans hb);obtain⟨xj,x9⟩:=hb;obtain⟨k,rfl⟩:∃j,k=j+1:=⟨k-1,by omega⟩;have x3:orHi hi (mRis lo hi k (zai mk 3).2 (w+1+(zai mk 3).1) (if w≠0\/0<=lo then acc++[w] else acc))=R:=by
   rw[<-hR]
   conv=>rhs;rw[mRis,if_pos x9]
  have xh:=zaG mk (n:=3) d_;have xk:=zaZ mk 3;have q2:mkU mk<=1000000:=o_;have q3:inR .i64 (w+1):=zad o_ o_;have q4:inR .i64 (w+1+(zai mk 3).1):=zad o_ o_;have q5:inR .i64 ((((c+1)-(k+1):Nat):Int)+1):=zad o_ o_;have q6:acc.length+1<=1000000000:=o_;have x0:((((c+1)-(k+1):Nat):Int)+1)=(((c+1)-k:Nat):Int):=o_;have x8:(bif (!(w==0)) then true else decide (lo>=0))=decide (w≠0\/0<=lo):=by
   rw[b_or,zY,yW,decide_eq_true_iff,decide_eq_true_iff,zL,beq_eq_false_iff_ne]
  refine za (za (zaa zeg ?_));refine zaf rfl (λhc=>?_) (λhc=>?_)
  .have hc:=of_decide_eq_true (x8.symm.trans hc);rw[if_pos hc]at x3
   iterate 3 (refine za (za (zaa zeg ?_)))
   refine⟨(k,(zai mk 3).2,w+1+(zai mk 3).1,acc++[w]),⟨x3,by show k<=c+1;omega,?_,⟨?_,?_⟩,?_⟩,by show k<k+1;omega,⟨rfl,rfl,rfl,rfl,rfl,rfl,vI64 x0,t_⟩,⟨rfl,rfl,t_⟩,rfl,rfl⟩
   .show mkU (zai mk 3).2=mkU m+2+((c+1-k:Nat):Int);omega
   .show lo<=w+1+(zai mk 3).1;omega
   .show w+1+(zai mk 3).1<=hi+3;omega
   .show(acc++[w]).length<=4-k;rw[zg,xI];omega
  .have hc:=of_decide_eq_false (x8.symm.trans hc);rw[if_neg hc]at x3;apply zah
   iterate 2 (refine za (za (zaa zeg ?_)))
   refine⟨(k,(zai mk 3).2,w+1+(zai mk 3).1,acc),⟨x3,by show k<=c+1;omega,?_,⟨?_,?_⟩,?_⟩,by show k<k+1;omega,⟨rfl,rfl,rfl,rfl,rfl,rfl,vI64 x0,t_⟩,⟨rfl,rfl,t_⟩,rfl,rfl⟩
   .show mkU (zai mk 3).2=mkU m+2+((c+1-k:Nat):Int);omega
   .show lo<=w+1+(zai mk 3).1;omega
   .show w+1+(zai mk 3).1<=hi+3;omega
   .show acc.length<=4-k;omega
 .have hb:=of_decide_eq_false (hq.symm.trans hb);have xf:(mRis lo hi k mk w acc)=(acc,mk):=by
   cases k with
   |zero=>rfl
   |succ k=>rw[mRis,if_neg o_]
  rw[xf]at hR;apply zaw;have x6:(((acc.length:Nat):Int)==0)=decide (acc.length=0):=by
   rw[zY,beq_iff_eq,decide_eq_true_iff];omega
  refine za (za (zaa zeg ?_));refine zaf rfl (λhc=>?_) (λhc=>?_)
  .have hc:=of_decide_eq_true (x6.symm.trans hc);refine za (za (zaa zeg ?_));refine vM hX 9 ?_;refine za (za (zaa zeg ?_));refine zp ⟨.inr rfl,?_,D1 ?_⟩
   .show some (OObj.box mkr mk)=some (OObj.box mkr (zaJ m lo hi).2);rw[<-x1, <-hR];rfl
   .show acc++[hi]=(zaJ m lo hi).1;rw[<-x1, <-hR];unfold orHi;rw[if_pos hc,List.length_eq_zero_iff.1 hc];rfl
  .have hc:=of_decide_eq_false (x6.symm.trans hc);apply zah;refine vM hX 9 ?_;refine za (za (zaa zeg ?_));refine zp ⟨.inr rfl,?_,D1 ?_⟩
   .show some (OObj.box mkr mk)=some (OObj.box mkr (zaJ m lo hi).2);rw[<-x1, <-hR];rfl
   .show acc=(zaJ m lo hi).1;rw[<-x1, <-hR];unfold orHi;rw[if_neg hc]
section
variable {P:Program}{w0:zh}{X:Ownr}{n:Nat}{Y:AS}{Q:Exit->AS->Prop}{ops:Array Oper}
theorem zmQ(j s:Nat)(b:Bool)(t:Ty)(y:t.T){z:Bool}{o:Oper}{rest:List Oper}(hg:o.guard=some (j,b))(hd:(ops[j]?).bind (·.dst)=some s)(hs:Frame.get Y.F s=⟨.cond .bool,(false,z)⟩)(x3:Nat.blt s n=true){d:Nat}(x1:o.dst=some d)(x4:Nat.blt d n=true)(h:AL P w0 X n ops rest ⟨(d,⟨.cond t,(false,y)⟩)::Y.F,Y.E,Y.nx⟩ Q)(hb:bnd t y=0:=by rfl):AL P w0 X n ops (o::rest) Y Q:=by
 intro U a w x0;have hv:a.tmps.getD s undef=undef:=by
  have h2:=x0.fr s;rw[hs]at h2;exact h2.2 rfl
 have x2:s<a.tmps.size:=by rw[x0.sz];simpa using x3
 have hy:yielded ops a.tmps j=none:=by
  unfold yielded;rw[hd];have:a.tmps[s]? =some undef:=by
   rw[zO,qo x2]at hv;rw[qo x2];exact congrArg some hv
  show(match (a.tmps[s]?) with
   |some (.bool b)=>some b
   |_=>none)=none
  rw[this];rfl
 have hw:¬yF o (yielded ops a.tmps)=true:=by simp[yF,hg,hy]
 show if yF o (yielded ops a.tmps)=true then _ else _
 rw[if_neg hw];refine⟨λf _=>zfn _ f,?_⟩;rw[x1];exact h _ _ _ (x0.put (zR _ _) (v:=⟨.cond t,(false,y)⟩) ⟨λh=>(by cases h),λ_=>rfl⟩ (by rw[show V.bound ⟨.cond t,(false,y)⟩=bnd t y from rfl,hb];exact zk _) (by simpa using x4))
end
def zc9(k:Int)(m:Mk):Bool×Mk:=if k=8 then(mkN m==0,m) else if k=6 then((zai m 2).1==0,(zai m 2).2) else(false,m)
def zeP(k:Int)(m:Mk)(ids:Int):Int×Mk:=if k≠1/\k≠5 then zai m ids else(0,m)
def zfP(k c:Int)(m:Mk):Nd×Mk:=
 if k=1 then let p:=zai m 12;let q:=zai p.2 20;((1,c,0,0,1+p.1,q.1,[],[],()),q.2)
 else if k=2 then let p:=zai m 4;let q:=zai p.2 (1+p.1);((2,c,0,0,1+p.1,q.1,[],[],()),q.2)
 else if k=3 then let p:=zaJ m 1 4;((3,c,0,0,0,0,p.1,[],()),p.2)
 else if k=4 then let p:=zaJ m (-4) 7;((4,c,0,0,0,0,p.1,[],()),p.2)
 else if k=5 then let p:=zaJ m 0 6;((5,c,0,0,0,0,p.1,[],()),p.2)
 else if k=6 then let p:=zaJ m 1 4;((6,c,0,0,0,0,p.1,[],()),p.2)
 else let p:=zai m 3;let q:=zai p.2 2;let r:=zai q.2 7;let s:=zai r.2 2;((k,c,s.1,0,(if q.1=1 then -(1+p.1) else 1+p.1),r.1,[],[],()),s.2)
def lfK(k:Int)(b:Bool):Int:=bif b then 1 else k
def ziC(k:Int)(m:Mk)(ids:Int):Nd×Mk:=
 let q:=zc9 k m
 if k=8/\mkN q.2>0 then let r:=zai q.2 (mkN q.2);((18,0,0,0,0,0,[],[110]++deI r.1,()),r.2)
 else zfP (lfK k q.1) (zeP (lfK k q.1) q.2 ids).1 (zeP (lfK k q.1) q.2 ids).2
def zc0(m:Mk)(ids:Int):Nd×Mk:=ziC (1+(zai m 8).1) (zai m 8).2 ids
def zwf:RCtr:={ self:=mkr,args:=[i64],inv:=λ_ _=>True,pre:=λm xs=>[0<=mkU m,mkU m<=800000,0<=mkN m,mkN m<=1000000,0<xs.1,xs.1<=1000000],res:=nd,out:=λm xs=>(zc0 m xs.1).1,post:=λm xs=>(zc0 m xs.1).2 }
def kMl:Kn:={ gmK with C:=[(80,cDec)],R:=[(48,zu8),(52,znP)] }
theorem zaS:KnOk zb gmG kMl:={ zaA.with (.cons zzN .nil) with r:=.cons zm7 (λ_ _=>trivial) (.cons zlQ (λ_ _=>trivial) .nil) }
abbrev sLf(m:Mk)(ids k:Int)(n:Nd):AS:=⟨[(0,⟨.optr mkr,⟨0,mkr,.here⟩⟩),(1,⟨i64,ids⟩),(4,⟨.optr nd,⟨1,nd,.here⟩⟩),(5,⟨i64,k⟩),(6,⟨.optr nd,⟨2,nd,.here⟩⟩)],[(0,some (.box mkr m)),(1,some (.box nd zNd)),(2,some (.box nd n))],3⟩
theorem zuk:zfU zb gmG 49 zwf:=by
 refine zer (K:=kMl) zaS Tryz.func49 rfl rfl Tryz.call49 rfl d_ (λw w' g hg h hk=>trivial) ?_;rintro w0 O g hX x5 (m:Mk) ⟨(ids:Int),_⟩ hp;obtain⟨h0,h1,h2,h3,h4,h5⟩:0<=mkU m/\mkU m<=800000/\0<=mkN m/\mkN m<=1000000/\0<ids/\ids<=1000000:=hp;change AWP _ _ _ _ _ ⟨[(0,⟨.optr mkr,⟨0,mkr,.here⟩⟩),(1,⟨i64,ids⟩)],[(0,some (.box mkr m))],1⟩ _;have a1:mkU m<=1000000:=o_;have hk:=zaG m (n:=8) d_;have xc:=zaZ m 8;have x1:=zxh m 8;have a2:inR .i64 (1+(zai m 8).1):=zad o_ o_
 iterate 3 (refine za (za (zaa zaS ?_)))
 obtain⟨R,x0⟩:∃R,R=zc0 m ids:=⟨_,rfl⟩;have hR:R=ziC (1+(zai m 8).1) (zai m 8).2 ids:=x0;refine zak (Y':=sLf (zai m 8).2 ids (1+(zai m 8).1) (1+(zai m 8).1,0,0,0,0,0,[],[],())) ⟨⟨rfl,rfl,rfl,rfl,rfl,t_⟩,⟨rfl,rfl,rfl,t_⟩,rfl,rfl⟩ ?_;generalize x6:1+(zai m 8).1=k at *;have x8:1<=k/\k<=8:=o_;generalize (zai m 8).2=m1 at *;have b1:0<=mkU m1:=o_;have b2:mkU m1<=1000000:=o_;clear hk x6 a1 a2;apply zaq;refine zbi (Y':=sLf (zc9 k m1).2 ids k (lfK k (zc9 k m1).1,0,0,0,0,0,[],[],())) ?_ ?_
 .apply zaq;refine zae ?_;refine za4 3 zaS ?_;by_cases h8:k=8
  .subst h8;have e:zc9 8 m1=(mkN m1==0,m1):=rfl;rw[e]
   iterate 4 (refine xE 2 14 true rfl rfl rfl rfl ?_;refine AL.take 1 hX zaS rfl t_ ?_)
   refine xE 2 14 true rfl rfl rfl rfl ?_;refine za4 3 zaS ?_;by_cases hN:(mkN m1==0)=true
   .rw[hN];refine qE 9 21 false i64 0 rfl rfl (zcH hN) rfl rfl rfl ?_
    iterate 2 (refine qE 9 21 false .bool false rfl rfl (zcH hN) rfl rfl rfl ?_)
    iterate 2 (refine zmQ 12 24 true i64 0 rfl rfl rfl rfl rfl rfl ?_)
    refine zmQ 12 24 true .bool false rfl rfl rfl rfl rfl rfl ?_;refine qE 9 21 false .bool false rfl rfl (zcH hN) rfl rfl rfl ?_;refine AL.all hX zaS rfl (λhc=>absurd (show(!(mkN m1==0))=true from hc) (by rw[hN];decide)) ?_;refine zaf rfl (λ_=>?_) (λhb=>?_)
    .refine za (za (zaa zaS ?_));exact⟨⟨rfl,rfl,rfl,rfl,rfl,t_⟩,⟨rfl,rfl,rfl,t_⟩,rfl,rfl⟩
    .have hb:(bif (mkN m1==0) then true else false)=false:=hb;rw[hN]at hb;cases hb
   .have hN:(mkN m1==0)=false:=by simpa using hN
    rw[hN];refine jp (Y':=⟨(21,⟨.bool,false⟩)::(sLf m1 ids 8 (8,0,0,0,0,0,[],[],())).F,(sLf m1 ids 8 (8,0,0,0,0,0,[],[],())).E,3⟩) ⟨⟨zcH hN,rfl,rfl,rfl,rfl,rfl,t_⟩,⟨rfl,rfl,rfl,t_⟩,rfl,rfl⟩ ?_
    iterate 3 (refine xE 9 21 false rfl rfl rfl rfl ?_;refine AL.take 1 hX zaS rfl t_ ?_)
    iterate 2 (refine qE 12 24 true i64 0 rfl rfl rfl rfl rfl rfl ?_)
    refine qE 12 24 true .bool false rfl rfl rfl rfl rfl rfl ?_;refine xE 9 21 false rfl rfl rfl rfl ?_;refine zaI zaS ?_;refine zaf rfl (λhb=>?_) (λ_=>?_)
    .have hb:false=true:=hb;cases hb
    apply zah;exact⟨⟨rfl,rfl,rfl,rfl,rfl,t_⟩,⟨rfl,rfl,rfl,t_⟩,rfl,rfl⟩
  .have x3:(k==8)=false:=beq_false_of_ne h8;refine jp (Y':=⟨(14,⟨.bool,false⟩)::(sLf m1 ids k (k,0,0,0,0,0,[],[],())).F,(sLf m1 ids k (k,0,0,0,0,0,[],[],())).E,3⟩) ⟨⟨zcH x3,rfl,rfl,rfl,rfl,rfl,t_⟩,⟨rfl,rfl,rfl,t_⟩,rfl,rfl⟩ ?_
   iterate 4 (refine qE 2 14 true i64 0 rfl rfl rfl rfl rfl rfl ?_)
   refine qE 2 14 true .bool false rfl rfl rfl rfl rfl rfl ?_;refine za4 2 zaS ?_;refine jp (Y':=⟨(21,⟨.bool,false⟩)::(sLf m1 ids k (k,0,0,0,0,0,[],[],())).F,(sLf m1 ids k (k,0,0,0,0,0,[],[],())).E,3⟩) ⟨⟨rfl,rfl,rfl,rfl,rfl,rfl,t_⟩,⟨rfl,rfl,rfl,t_⟩,rfl,rfl⟩ ?_
   iterate 3 (refine xE 9 21 false rfl rfl rfl rfl ?_;refine AL.take 1 hX zaS rfl t_ ?_)
   by_cases h6:k=6
   .subst h6;have e:zc9 6 m1=((zai m1 2).1==0,(zai m1 2).2):=rfl;rw[e];refine xE 12 24 true rfl rfl rfl rfl ?_;refine za4 1 zaS ?_;refine xE 12 24 true rfl rfl rfl rfl ?_;refine za4 1 zaS ?_;refine xE 12 24 true rfl rfl rfl rfl ?_;refine za4 1 zaS ?_;refine xE 9 21 false rfl rfl rfl rfl ?_;refine zaI zaS ?_;refine zaf rfl (λhb=>?_) (λhb=>?_)
    .have hb:((zai m1 2).1==0)=true:=hb;rw[hb];refine za (za (zaa zaS ?_));exact⟨⟨rfl,rfl,rfl,rfl,rfl,t_⟩,⟨rfl,rfl,rfl,t_⟩,rfl,rfl⟩
    .have hb:((zai m1 2).1==0)=false:=hb;rw[hb];apply zah;exact⟨⟨rfl,rfl,rfl,rfl,rfl,t_⟩,⟨rfl,rfl,rfl,t_⟩,rfl,rfl⟩
   .have x4:(k==6)=false:=beq_false_of_ne h6;have e:zc9 k m1=(false,m1):=by unfold zc9;rw[if_neg h8,if_neg h6]
    rw[e];refine jp (Y':=⟨(21,⟨.bool,false⟩)::(24,⟨.bool,false⟩)::(sLf m1 ids k (k,0,0,0,0,0,[],[],())).F,(sLf m1 ids k (k,0,0,0,0,0,[],[],())).E,3⟩) ⟨⟨rfl,zcH x4,rfl,rfl,rfl,rfl,rfl,t_⟩,⟨rfl,rfl,rfl,t_⟩,rfl,rfl⟩ ?_
    iterate 2 (refine qE 12 24 true i64 0 rfl rfl rfl rfl rfl rfl ?_)
    refine qE 12 24 true .bool false rfl rfl rfl rfl rfl rfl ?_;refine xE 9 21 false rfl rfl rfl rfl ?_;refine zaI zaS ?_;refine zaf rfl (λhb=>?_) (λ_=>?_)
    .have hb:false=true:=hb;cases hb
    apply zah;exact⟨⟨rfl,rfl,rfl,rfl,rfl,t_⟩,⟨rfl,rfl,rfl,t_⟩,rfl,rfl⟩
 have x7:mkN (zc9 k m1).2=mkN m/\0<=mkU (zc9 k m1).2/\mkU (zc9 k m1).2<=mkU m+2:=by
  unfold zc9;split
  .exact⟨x1,b1,by show mkU m1<=_;omega⟩
  .split
   .exact⟨x1,by show 0<=mkU (zai m1 2).2;rw[zaZ];omega,by show mkU (zai m1 2).2<=_;rw[zaZ];omega⟩
   .exact⟨x1,b1,by show mkU m1<=_;omega⟩
 have x2:k=8->(zc9 k m1).1=(mkN m==0):=λh=>by
  rw[h];show(mkN m1==0)=(mkN m==0);rw[x1]
 unfold ziC at hR;generalize zc9 k m1=q at *;obtain⟨b,m2⟩:=q;obtain⟨n2,u2,u3⟩:mkN m2=mkN m/\0<=mkU m2/\mkU m2<=mkU m+2:=x7;have x2:k=8->b=(mkN m==0):=x2;have hR:R=if k=8/\mkN m2>0 then((18,0,0,0,0,0,[],[110]++deI (zai m2 (mkN m2)).1,()),(zai m2 (mkN m2)).2) else zfP (lfK k b) (zeP (lfK k b) m2 ids).1 (zeP (lfK k b) m2 ids).2:=hR
 show AWP _ _ _ _ _ (sLf m2 ids k (lfK k b,0,0,0,0,0,[],[],())) _;have g2:mkN m2<=1000000000:=o_;have hq:(bif (k==8) then decide (mkN m2>0) else false)=decide (k=8/\mkN m2>0):=by
  rw[zcR,zY,zf,decide_eq_true_iff,decide_eq_true_iff,beq_iff_eq]
 refine za (za (zaa zaS ?_));refine zaf rfl (λhc=>?_) (λhc=>?_)
 .have hc:=of_decide_eq_true (hq.symm.trans hc);rw[if_pos hc]at hR;have xa:=zaG m2 (n:=mkN m2) o_;have g3:=hc.2;have g4: -100000000000000000<(zai m2 (mkN m2)).1:=o_;have g5:(zai m2 (mkN m2)).1<100000000000000000:=o_;have hl:(deI (zai m2 (mkN m2)).1).length<=18:=zfh o_ o_;have g6:1+(deI (zai m2 (mkN m2)).1).length<=maxLen:=by unfold maxLen;omega
  iterate 3 (refine za (za (zaa zaS ?_)))
  refine zp ⟨.inr rfl,?_,D1 ?_⟩
  .show some (OObj.box mkr (zai m2 (mkN m2)).2)=some (OObj.box mkr (zc0 m ids).2);rw[<-x0,hR]
  .show(((18:Int),(0:Int),(0:Int),(0:Int),(0:Int),(0:Int),([]:List Int),[110]++deI (zai m2 (mkN m2)).1,()):Nd)=(zc0 m ids).1;rw[<-x0,hR]
 have hc:=of_decide_eq_false (hq.symm.trans hc);rw[if_neg hc]at hR;apply zah;have xb:1<=lfK k b/\lfK k b<=7:=by
  unfold lfK;cases b with
  |true=>exact⟨by show(1:Int)<=1;omega,by show(1:Int)<=7;omega⟩
  |false=>
   show 1<=k/\k<=7;refine⟨x8.1,?_⟩;by_cases h8:k=8
   .have hz:=x2 h8;have:mkN m≠0:=λh=>by rw[h]at hz;cases hz
    exact absurd ⟨h8,by omega⟩ hc
   .omega
 generalize lfK k b=c at *;apply zaq;refine zbi (Y':=sLf (zeP c m2 ids).2 ids k (c,(zeP c m2 ids).1,0,0,0,0,[],[],())) ?_ ?_
 .have hq:(bif (!(c==1)) then(!(c==5)) else false)=decide (c≠1/\c≠5):=by
   rw[zcR,zY,zf,decide_eq_true_iff,zL,zL,beq_eq_false_iff_ne,beq_eq_false_iff_ne]
  refine za (za (zaa zaS ?_));refine zaf rfl (λhc=>?_) (λhc=>?_)
  .have hc:=of_decide_eq_true (hq.symm.trans hc);have e:zeP c m2 ids=zai m2 ids:=if_pos hc;have h6:ids<=1000000000:=o_;refine za (za (zaa zaS ?_));rw[e];exact⟨⟨rfl,rfl,rfl,rfl,rfl,t_⟩,⟨rfl,rfl,rfl,t_⟩,rfl,rfl⟩
  .have hc:=of_decide_eq_false (hq.symm.trans hc);have e:zeP c m2 ids=(0,m2):=if_neg hc;apply zah;rw[e];exact⟨⟨rfl,rfl,rfl,rfl,rfl,t_⟩,⟨rfl,rfl,rfl,t_⟩,rfl,rfl⟩
 have x9:0<=mkU (zeP c m2 ids).2/\mkU (zeP c m2 ids).2<=mkU m+3:=by
  unfold zeP;split
  .rw[zaZ];omega
  .exact⟨u2,by show mkU m2<=_;omega⟩
 generalize zeP c m2 ids=q at *;obtain⟨(cy:Int),(m3:Mk)⟩:=q;obtain⟨w1,w2⟩:0<=mkU m3/\mkU m3<=mkU m+3:=x9;have hR:R=zfP c cy m3:=hR;show AWP _ _ _ _ _ (sLf m3 ids k (c,cy,0,0,0,0,[],[],())) _;have w4:mkU m3<=900000:=o_;refine za (za (zaa zaS ?_));refine zbi (Y':=sLf R.2 ids k R.1) ?_ ?_
 .apply zay;rcases (show c=1\/c=2\/c=3\/c=4\/c=5\/c=6\/c=7 by omega) with rfl|rfl|rfl|rfl|rfl|rfl|rfl
  .
   refine za (za (zaa zaS ?_));refine zdo rfl ?_;have hp:=zaG m3 (n:=12) d_;have z1:inR .i64 (1+(zai m3 12).1):=zad o_ o_;have z2:0<=mkU (zai m3 12).2:=by rw[zaZ];omega
   have z3:mkU (zai m3 12).2<=1000000:=by rw[zaZ];omega
   iterate 2 (refine za (za (zaa zaS ?_)))
   rw[hR];exact⟨⟨rfl,rfl,rfl,rfl,rfl,t_⟩,⟨rfl,rfl,rfl,t_⟩,rfl,rfl⟩
  .have xd:=zaG m3 (n:=4) d_;refine za (za (zaa zaS ?_));refine zdc rfl ?_;refine za (za (zaa zaS ?_));refine zdo rfl ?_;have z1:inR .i64 (1+(zai m3 4).1):=zad o_ o_;have z2:0<=mkU (zai m3 4).2:=by rw[zaZ];omega
   have z3:mkU (zai m3 4).2<=1000000:=by rw[zaZ];omega
   have z4:0<1+(zai m3 4).1:=o_;have z5:1+(zai m3 4).1<=1000000000:=o_
   iterate 2 (refine za (za (zaa zaS ?_)))
   rw[hR];exact⟨⟨rfl,rfl,rfl,rfl,rfl,t_⟩,⟨rfl,rfl,rfl,t_⟩,rfl,rfl⟩
  .
   iterate 2 (refine za (za (zaa zaS ?_));refine zdc rfl ?_)
   refine za (za (zaa zaS ?_));refine zdo rfl ?_;refine za (za (zaa zaS ?_));rw[hR];exact⟨⟨rfl,rfl,rfl,rfl,rfl,t_⟩,⟨rfl,rfl,rfl,t_⟩,rfl,rfl⟩
  .
   iterate 3 (refine za (za (zaa zaS ?_));refine zdc rfl ?_)
   refine za (za (zaa zaS ?_));refine zdo rfl ?_;refine za (za (zaa zaS ?_));rw[hR];exact⟨⟨rfl,rfl,rfl,rfl,rfl,t_⟩,⟨rfl,rfl,rfl,t_⟩,rfl,rfl⟩
  .
   iterate 4 (refine za (za (zaa zaS ?_));refine zdc rfl ?_)
   refine za (za (zaa zaS ?_));refine zdo rfl ?_;refine za (za (zaa zaS ?_));rw[hR];exact⟨⟨rfl,rfl,rfl,rfl,rfl,t_⟩,⟨rfl,rfl,rfl,t_⟩,rfl,rfl⟩
  .
   iterate 5 (refine za (za (zaa zaS ?_));refine zdc rfl ?_)
   refine za (za (zaa zaS ?_));refine zdo rfl ?_;refine za (za (zaa zaS ?_));rw[hR];exact⟨⟨rfl,rfl,rfl,rfl,rfl,t_⟩,⟨rfl,rfl,rfl,t_⟩,rfl,rfl⟩
  .
   iterate 6 (refine za (za (zaa zaS ?_));refine zdc rfl ?_)
   have hp:=zaG m3 (n:=3) d_;have z1:inR .i64 (1+(zai m3 3).1):=zad o_ o_;have z2:0<=mkU (zai m3 3).2:=by rw[zaZ];omega
   have z3:mkU (zai m3 3).2<=1000000:=by rw[zaZ];omega
   refine za (za (zaa zaS ?_));have z4:0<=mkU (zai (zai m3 3).2 2).2:=by rw[zaZ,zaZ];omega
   have z5:mkU (zai (zai m3 3).2 2).2<=1000000:=by rw[zaZ,zaZ];omega
   have z6:0<=mkU (zai (zai (zai m3 3).2 2).2 7).2:=by rw[zaZ,zaZ,zaZ];omega
   have z7:mkU (zai (zai (zai m3 3).2 2).2 7).2<=1000000:=by rw[zaZ,zaZ,zaZ];omega
   have z8:inR .i64 (-(1+(zai m3 3).1)):=zad o_ o_;have hR:R=((7,cy,(zai (zai (zai (zai m3 3).2 2).2 7).2 2).1,0,(if(zai (zai m3 3).2 2).1=1 then -(1+(zai m3 3).1) else 1+(zai m3 3).1),(zai (zai (zai m3 3).2 2).2 7).1,[],[],()),(zai (zai (zai (zai m3 3).2 2).2 7).2 2).2):=hR;refine za (za (zaa zaS ?_));refine zaf rfl (λhb=>?_) (λhb=>?_)
   .have hb:((zai (zai m3 3).2 2).1==1)=true:=hb;rw[if_pos (eq_of_beq hb)]at hR
    iterate 3 (refine za (za (zaa zaS ?_)))
    rw[hR];exact⟨⟨rfl,rfl,rfl,rfl,rfl,t_⟩,⟨rfl,rfl,rfl,t_⟩,rfl,rfl⟩
   .have hb:((zai (zai m3 3).2 2).1==1)=false:=hb;rw[if_neg (by simpa using hb)]at hR;apply zah
    iterate 2 (refine za (za (zaa zaS ?_)))
    rw[hR];exact⟨⟨rfl,rfl,rfl,rfl,rfl,t_⟩,⟨rfl,rfl,rfl,t_⟩,rfl,rfl⟩
 refine za (za (zaa zaS ?_));refine zp ⟨.inr rfl,?_,D1 ?_⟩
 .show some (OObj.box mkr R.2)=some (OObj.box mkr (zc0 m ids).2);rw[<-x0]
 .show R.1=(zc0 m ids).1;rw[<-x0]
def TrSh:Tr->Prop
 |.leaf n=>¬(8<=ndK n/\ndK n<=17)/\(0<=ndL n/\ndL n<=1)/\ndR n=0
 |.un n a=>(11<=ndK n/\ndK n<=16)/\ndR n=0/\TrSh a
 |.bin n a b=>((8<=ndK n/\ndK n<=10)\/ndK n=17)/\TrSh a/\TrSh b
theorem zdd:∀t:Tr,1<=t.size
 |.leaf _=>zj _
 |.un _ a=>by have:=zdd a;rw[wc];omega
 |.bin _ a b=>by have:=zdd a;rw[wc];omega
theorem zgh{k:Int}:two k=true↔(8<=k/\k<=10)\/k=17:=by
 unfold two;rw[yW,yW,yW,beq_iff_eq,beq_iff_eq,beq_iff_eq,beq_iff_eq];omega
theorem znd{n:Nd}{b:Int}(h:¬(8<=ndK n/\ndK n<=17)):zcL b n=n:=by
 obtain⟨k,c,L,R,rest⟩:=n;have h:¬(8<=k/\k<=17):=h;have h2:¬two k=true:=by rw[zgh];omega
 unfold zcL;rw[if_neg h,if_neg h2]
theorem zry{n:Nd}{b x:Int}(h:11<=ndK n/\ndK n<=16):zcL b (setL n x)=setL n (x+b):=by
 obtain⟨k,c,L,R,rest⟩:=n;have h:11<=k/\k<=16:=h;have h1:8<=k/\k<=17:=o_;have h2:¬two k=true:=by rw[zgh];omega
 show(k,c,(if 8<=k/\k<=17 then x+b else x),(if two k then R+b else R),rest)=(k,c,x+b,R,rest);rw[if_pos h1,if_neg h2]
theorem zpT{n:Nd}{b x y:Int}(h:(8<=ndK n/\ndK n<=10)\/ndK n=17):zcL b (zbZ n x y)=zbZ n (x+b) (y+b):=by
 obtain⟨k,c,L,R,rest⟩:=n;have h:(8<=k/\k<=10)\/k=17:=h;have h1:8<=k/\k<=17:=o_;have h2:two k=true:=zgh.2 h;show(k,c,(if 8<=k/\k<=17 then x+b else x),(if two k then y+b else y),rest)=(k,c,x+b,y+b,rest);rw[if_pos h1,if_pos h2]
theorem zfu:∀(t:Tr)(i j:Nat),TrSh t->ze1 (t.flat i) (j:Int)=t.flat (i+j)
 |.leaf n,i,j,h=>by
  rw[kP,kP];show [zcL _ n]=_;rw[znd h.1]
 |.un n a,i,j,h=>by
  rw[kP,kP];unfold ze1;rw[qY];have:=zfu a i j h.2.2;unfold ze1 at this;rw[this];show _++[zcL _ _]=_;rw[zry h.1]
  congr 3
  have:=zdd a;omega
 |.bin n a b,i,j,h=>by
  rw[kP,kP];unfold ze1;rw[qY,qY];have ha:=zfu a i j h.2.1;have hb:=zfu b (i+a.size) j h.2.2;unfold ze1 at ha hb;rw[ha,hb,show i+a.size+j=i+j+a.size by omega];show _++[zcL _ _]=_;rw[zpT h.1];have:=zdd a;have:=zdd b;rw[show((i+a.size:Nat):Int)-1+(j:Int)=((i+j+a.size:Nat):Int)-1 by omega,show((i+a.size+b.size:Nat):Int)-1+(j:Int)=((i+j+a.size+b.size:Nat):Int)-1 by omega]
theorem zrp(a:Tr)(n:Nd):zt9 (a.flat 0) n=(Tr.un n a).flat 0:=by
 rw[kP];unfold zt9;rw[qg,yL]
theorem zs7(a b:Tr)(n:Nd)(h:TrSh b):zva (a.flat 0) (b.flat 0) n=(Tr.bin n a b).flat 0:=by
 rw[kP];unfold zva;rw[qg,qg,zfu b 0 a.size h,yL]
 congr 3
theorem zk6:∀(t:Tr)(i:Nat),TrSh t->∀n∈t.flat i,(0<=ndL n/\ndL n<=i+t.size)/\(0<=ndR n/\ndR n<=i+t.size)
 |.leaf n,i,h,x,hx=>by
  obtain rfl:=zt.1 hx;obtain⟨_,⟨h1,h2⟩,h3⟩:=h;rw[wc];exact⟨⟨h1,by omega⟩,⟨by omega,by omega⟩⟩
 |.un n a,i,h,x,hx=>by
  rw[kP]at hx;rw[wc];have hs:=zdd a;rcases zU.1 hx with hx|hx
  .have:=zk6 a i h.2.2 x hx;omega
  .obtain rfl:=zt.1 hx;have hr:=h.2.1;show(0<=((i+a.size:Nat):Int)-1/\((i+a.size:Nat):Int)-1<=_)/\(0<=ndR n/\ndR n<=_);omega
 |.bin n a b,i,h,x,hx=>by
  rw[kP]at hx;rw[wc];have hs:=zdd a;have ht:=zdd b;rcases zU.1 hx with hx|hx
  .rcases zU.1 hx with hx|hx
   .have:=zk6 a i h.2.1 x hx;omega
   .have:=zk6 b (i+a.size) h.2.2 x hx;omega
  .obtain rfl:=zt.1 hx;show(0<=((i+a.size:Nat):Int)-1/\((i+a.size:Nat):Int)-1<=_)/\(0<=((i+a.size+b.size:Nat):Int)-1/\((i+a.size+b.size:Nat):Int)-1<=_);omega
def zaE(m:Mk):Mk:=(mkD m,mkU m,mkN m,mkS m+1,())
def zg4(d:Nat)(p:Int×Mk):Bool:=decide (d=0)||decide (mkU p.2>(((mkD p.2).length:Nat):Int))||decide (mkS p.2>30)||decide (10<=p.1)
def mOne(k ids:Int)(m:Mk):Nd×Mk:=
 if k=11 then((k,0,0,0,(zai m 15).1-7,0,[],[],()),(zai m 15).2)
 else if k=12\/k=13 then((k,0,0,0,(zai m 60).1,0,[],[],()),(zai m 60).2)
 else if k=14\/k=15 then((k,0,0,0,0,0,(zaJ m 0 60).1,[],()),(zaJ m 0 60).2)
 else let p:=zai m ids;let q:=zai p.2 2;let r:=zaJ q.2 (-3) 3;((k,p.1,0,0,0,q.1,r.1,[],()),r.2)
def mCnt(k:Int)(m:Mk):Int×Mk:=if k=17 then(1+(zai m 3).1,(zai m 3).2) else(0,m)
def mTr(ids:Int):Nat->Mk->Tr×Mk
 |0,m=>(.leaf (zc0 (zai (zaE m) 14).2 ids).1,(zc0 (zai (zaE m) 14).2 ids).2)
 |d+1,m=>
  let p:=zai (zaE m) 14
  if zg4 (d+1) p=true then(.leaf (zc0 p.2 ids).1,(zc0 p.2 ids).2)
  else
   let a:=mTr ids d p.2
   if two (8+p.1)=true then
    let c:=mCnt (8+p.1) a.2
    let b:=mTr ids d c.2
    (.bin (8+p.1,0,0,0,c.1,0,[],[],()) a.1 b.1,b.2)
   else(.un (mOne (8+p.1) ids a.2).1 a.1,(mOne (8+p.1) ids a.2).2)
def MkLe(c:Nat)(m r:Mk):Prop:=mkN r=mkN m/\mkS r=mkS m/\mkD r=mkD m/\mkU m<=mkU r/\mkU r<=mkU m+(c:Int)
theorem MkLe.trans{a b:Nat}{m r s:Mk}(h1:MkLe a m r)(h2:MkLe b r s):MkLe (a+b) m s:=by
 obtain⟨x1,x2,x3,x4,x5⟩:=h1;obtain⟨y1,y2,y3,y4,y5⟩:=h2;exact⟨y1.trans x1,y2.trans x2,y3.trans x3,by omega,by omega⟩
theorem MkLe.mono{a b:Nat}{m r:Mk}(h:MkLe a m r)(x0:a<=b):MkLe b m r:=by
 obtain⟨x1,x2,x3,x4,x5⟩:=h;exact⟨x1,x2,x3,x4,by omega⟩
theorem MkLe.refl(m:Mk):MkLe 0 m m:=⟨rfl,rfl,rfl,yS _,by omega⟩
theorem zbp(m:Mk)(n:Int):MkLe 1 m (zai m n).2:=⟨rfl,rfl,rfl,by rw[zaZ];omega,by rw[zaZ];omega⟩
theorem zvG(lo hi:Int):∀(k:Nat)(m:Mk)(v:Int)(acc:List Int),MkLe k m (mRis lo hi k m v acc).2
 |0,m,_,_=>MkLe.refl m
 |k+1,m,v,acc=>by
  rw[mRis];split
  .exact((zbp m 3).trans (zvG lo hi k _ _ _)).mono o_
  .exact(MkLe.refl m).mono o_
theorem zec(m:Mk)(lo hi:Int):MkLe 6 m (zaJ m lo hi).2:=by
 have h:=zaG m (n:=4) d_;have h3:=zvG lo hi (1+(zai m 4).1).toNat (zai (zai m 4).2 (hi-lo+1)).2 (lo+(zai (zai m 4).2 (hi-lo+1)).1) [];exact(((zbp m 4).trans (zbp _ _)).trans h3).mono o_
theorem zwV(k c:Int)(m:Mk):MkLe 6 m (zfP k c m).2:=by
 unfold zfP;split
 .exact((zbp m 12).trans (zbp _ 20)).mono o_
 split
 .exact((zbp m 4).trans (zbp _ (1+(zai m 4).1))).mono o_
 split
 .exact zec _ _ _
 split
 .exact zec _ _ _
 split
 .exact zec _ _ _
 split
 .exact zec _ _ _
 .exact((((zbp m 3).trans (zbp _ 2)).trans (zbp _ 7)).trans (zbp _ 2)).mono o_
theorem zqw(k:Int)(m:Mk):MkLe 1 m (zc9 k m).2:=by
 unfold zc9;split
 .exact(MkLe.refl m).mono o_
 split
 .exact zbp m 2
 .exact(MkLe.refl m).mono o_
theorem zzP(k:Int)(m:Mk)(ids:Int):MkLe 1 m (zeP k m ids).2:=by
 unfold zeP;split
 .exact zbp m ids
 .exact(MkLe.refl m).mono o_
theorem zr1(m:Mk)(ids:Int):MkLe 9 m (zc0 m ids).2:=by
 unfold zc0 ziC;have h1:=(zbp m 8).trans (zqw (1+(zai m 8).1) (zai m 8).2);dsimp only;split
 .exact(h1.trans (zbp _ (mkN (zc9 (1+(zai m 8).1) (zai m 8).2).2))).mono o_
 .exact((h1.trans (zzP _ _ _)).trans (zwV _ _ _)).mono o_
theorem zzc(k ids:Int)(m:Mk):MkLe 8 m (mOne k ids m).2:=by
 unfold mOne;split
 .exact(zbp m 15).mono o_
 split
 .exact(zbp m 60).mono o_
 split
 .exact(zec m 0 60).mono o_
 .exact(((zbp m ids).trans (zbp _ 2)).trans (zec _ _ _)).mono o_
theorem zmy(k:Int)(m:Mk):MkLe 1 m (mCnt k m).2:=by
 unfold mCnt;split
 .exact zbp m 3
 .exact(MkLe.refl m).mono o_
def MkGe(c e:Nat)(m r:Mk):Prop:=mkN r=mkN m/\mkD r=mkD m/\(mkS m<=mkS r/\mkS r<=mkS m+(e:Int))/\mkU m<=mkU r/\mkU r<=mkU m+(c:Int)
theorem MkGe.trans{a b e f:Nat}{m r s:Mk}(h1:MkGe a e m r)(h2:MkGe b f r s):MkGe (a+b) (e+f) m s:=by
 obtain⟨x1,x2,⟨x3,x6⟩,x4,x5⟩:=h1;obtain⟨y1,y2,⟨y3,y6⟩,y4,y5⟩:=h2;exact⟨y1.trans x1,y2.trans x2,⟨by omega,by omega⟩,by omega,by omega⟩
theorem MkLe.ge{a:Nat}{m r:Mk}(h:MkLe a m r):MkGe a 0 m r:=by
 obtain⟨x1,x2,x3,x4,x5⟩:=h;exact⟨x1,x3,⟨by omega,by omega⟩,x4,x5⟩
theorem MkGe.mono{a b e f:Nat}{m r:Mk}(h:MkGe a e m r)(x7:a<=b)(x0:e<=f):MkGe b f m r:=by
 obtain⟨x1,x2,⟨x3,x6⟩,x4,x5⟩:=h;exact⟨x1,x2,⟨by omega,by omega⟩,x4,by omega⟩
theorem zny(m:Mk):MkGe 0 1 m (zaE m):=⟨rfl,rfl,⟨by show mkS m<=mkS m+1;omega,by show mkS m+1<=_;omega⟩,yS _,by show mkU m<=_;omega⟩
def mMax:Nat->Nat
 |0=>1
 |d+1=>2*mMax d+1
theorem zj1(ids:Int):∀(d:Nat)(m:Mk),MkGe (20*mMax d) (mMax d) m (mTr ids d m).2
 |0,m=>(((zny m).trans (zbp _ 14).ge).trans (zr1 _ _).ge).mono d_ d_
 |d+1,m=>by
  have h0:=(zny m).trans (zbp (zaE m) 14).ge;have hM:mMax (d+1)=2*mMax d+1:=rfl;rw[mTr];dsimp only;split
  .exact(h0.trans (zr1 _ _).ge).mono o_ o_
  have ha:=zj1 ids d (zai (zaE m) 14).2;split
  .exact(((h0.trans ha).trans (zmy _ _).ge).trans (zj1 ids d _)).mono o_ o_
  .exact((h0.trans ha).trans (zzc _ _ _).ge).mono o_ o_
theorem zgu(ids:Int):∀(d:Nat)(m:Mk),(mTr ids d m).1.size<=mMax d
 |0,m=>zj _
 |d+1,m=>by
  have hM:mMax (d+1)=2*mMax d+1:=rfl;rw[mTr];dsimp only;split
  .rw[wc];omega
  have ha:=zgu ids d (zai (zaE m) 14).2;split
  .rw[wc];have hb:=zgu ids d (mCnt (8+(zai (zaE m) 14).1) (mTr ids d (zai (zaE m) 14).2).2).2;omega
  .rw[wc];omega
theorem zvQ{k:Int}{m:Mk}(hn:0<=mkN m)(hk:1<=k/\k<=8)(hc:¬(k=8/\mkN (zc9 k m).2>0)):1<=lfK k (zc9 k m).1/\lfK k (zc9 k m).1<=7:=by
 unfold zc9 at hc ⊢;by_cases h8:k=8
 .rw[if_pos h8]at hc ⊢;have hz:mkN m=0:=by
   by_cases hz:mkN m=0
   .exact hz
   .exact absurd ⟨h8,by show mkN m>0;omega⟩ hc
  rw[hz];show(1:Int)<=1/\(1:Int)<=7;omega
 .rw[if_neg h8];have:∀b:Bool,1<=lfK k b/\lfK k b<=7:=λb=>by
   cases b with
   |true=>show(1:Int)<=1/\(1:Int)<=7;omega
   |false=>show 1<=k/\k<=7;omega
  exact this _
theorem zhp{n:Nd}(k L:Int)(h:ndK n=k)(hk:¬(8<=k/\k<=17))(hL:ndL n=L)(h0:0<=L/\L<=1)(hR:ndR n=0):TrSh (.leaf n):=⟨by rw[h];exact hk,by rw[hL];exact h0,hR⟩
theorem zwT{k c:Int}{m:Mk}(hk:1<=k/\k<=7):TrSh (.leaf (zfP k c m).1):=by
 rcases (show k=1\/k=2\/k=3\/k=4\/k=5\/k=6\/k=7 by omega) with rfl|rfl|rfl|rfl|rfl|rfl|rfl
 .exact zhp 1 0 rfl d_ rfl d_ rfl
 .exact zhp 2 0 rfl d_ rfl d_ rfl
 .exact zhp 3 0 rfl d_ rfl d_ rfl
 .exact zhp 4 0 rfl d_ rfl d_ rfl
 .exact zhp 5 0 rfl d_ rfl d_ rfl
 .exact zhp 6 0 rfl d_ rfl d_ rfl
 .have:=zaG (zai (zai (zai m 3).2 2).2 7).2 (n:=2) d_;exact zhp 7 (zai (zai (zai (zai m 3).2 2).2 7).2 2).1 rfl d_ rfl o_ rfl
theorem zrY(m:Mk)(ids:Int)(hn:0<=mkN m):TrSh (.leaf (zc0 m ids).1):=by
 have hk:=zaG m (n:=8) d_;unfold zc0 ziC;dsimp only;split
 .exact zhp 18 0 rfl d_ rfl d_ rfl
 .rename_i hc;exact zwT (zvQ (m:=(zai m 8).2) hn o_ hc)
theorem zvL{k ids:Int}{m:Mk}:ndK (mOne k ids m).1=k/\ndL (mOne k ids m).1=0/\ndR (mOne k ids m).1=0:=by
 unfold mOne;split
 .exact⟨rfl,rfl,rfl⟩
 split
 .exact⟨rfl,rfl,rfl⟩
 split
 .exact⟨rfl,rfl,rfl⟩
 .exact⟨rfl,rfl,rfl⟩
theorem zow(ids:Int):∀(d:Nat)(m:Mk),0<=mkN m->TrSh (mTr ids d m).1
 |0,m,h=>zrY _ _ h
 |d+1,m,h=>by
  have hp:=zaG (zaE m) (n:=14) d_;rw[mTr];dsimp only;split
  .exact zrY _ _ h
  rename_i x0;have hs:(zai (zaE m) 14).1<10:=by
   have:¬zg4 (d+1) (zai (zaE m) 14)=true:=x0;unfold zg4 at this;simp only[yW,decide_eq_true_iff,not_or]at this;omega
  have h0:=h;have ha:=zow ids d (zai (zaE m) 14).2 h0;have hg:=(zj1 ids d (zai (zaE m) 14).2).1;split
  .rename_i ht;have hc:=(zmy (8+(zai (zaE m) 14).1) (mTr ids d (zai (zaE m) 14).2).2).1;exact⟨zgh.1 ht,ha,zow ids d _ (by rw[hc,hg];exact h0)⟩
  .rename_i ht;obtain⟨e1,_,e3⟩:=zvL (k:=8+(zai (zaE m) 14).1) (ids:=ids) (m:=(mTr ids d (zai (zaE m) 14).2).2);refine⟨?_,e3,ha⟩;rw[e1];rw[zgh]at ht;omega
def zhG(D:Nat):RCtr:={ self:=mkr,args:=[i64,i64],inv:=λ_ _=>True,pre:=λm xs=>[0<=xs.1,xs.1<(D:Int),mMax xs.1.toNat<=10000,0<=mkU m/\mkU m+20*((mMax xs.1.toNat:Nat):Int)<=500000,0<=mkN m/\mkN m<=1000000,0<=mkS m/\mkS m+((mMax xs.1.toNat:Nat):Int)<=500000,0<xs.2.1/\xs.2.1<=1000000],res:=.slice nd,out:=λm xs=>(mTr xs.2.1 xs.1.toNat m).1.flat 0,post:=λm xs=>(mTr xs.2.1 xs.1.toNat m).2 }
theorem zrJ:∀d:Nat,d<=mMax d
 |0=>zk _
 |d+1=>by have:=zrJ d;show d+1<=2*mMax d+1;omega
theorem zuq{ids:Int}{d:Nat}{m:Mk}(h:zg4 d (zai (zaE m) 14)=true):mTr ids d m=(.leaf (zc0 (zai (zaE m) 14).2 ids).1,(zc0 (zai (zaE m) 14).2 ids).2):=by
 cases d with
 |zero=>rfl
 |succ d=>rw[mTr];exact if_pos h
theorem zzk{ids:Int}{d:Nat}{m:Mk}(h:¬zg4 (d+1) (zai (zaE m) 14)=true):mTr ids (d+1) m=if two (8+(zai (zaE m) 14).1)=true then
  (.bin (8+(zai (zaE m) 14).1,0,0,0,(mCnt (8+(zai (zaE m) 14).1) (mTr ids d (zai (zaE m) 14).2).2).1,0,[],[],()) (mTr ids d (zai (zaE m) 14).2).1 (mTr ids d (mCnt (8+(zai (zaE m) 14).1) (mTr ids d (zai (zaE m) 14).2).2).2).1,(mTr ids d (mCnt (8+(zai (zaE m) 14).1) (mTr ids d (zai (zaE m) 14).2).2).2).2)
  else(.un (mOne (8+(zai (zaE m) 14).1) ids (mTr ids d (zai (zaE m) 14).2).2).1 (mTr ids d (zai (zaE m) 14).2).1,(mOne (8+(zai (zaE m) 14).1) ids (mTr ids d (zai (zaE m) 14).2).2).2):=by
 rw[mTr];exact if_neg h
def kRu(D:Nat):Kn:={ gmK with C:=[(50,cTwo),(53,zzU),(51,zAf)],R:=[(48,zu8),(52,znP),(49,zwf),(22,zhG D)] }
theorem zzw{D:Nat}(ih:zfU zb gmG 22 (zhG D)):KnOk zb gmG (kRu D):=
 { zaA.with (.cons zvy (.cons zwZ (.cons zyq .nil))) with r:=.cons zm7 (λ_ _=>trivial) (.cons zlQ (λ_ _=>trivial) (.cons zuk (λ_ _=>trivial) (.cons ih (λ_ _=>trivial) .nil))) }
theorem zyp{x y:Mk}(h:x=y):some (OObj.box mkr x)=some (OObj.box mkr y):=by rw[h]
abbrev sRu(m:Mk)(d:Nat)(ids k:Int)(n:Nd)(a:List Nd):AS:=⟨[(0,⟨.optr mkr,⟨0,mkr,.here⟩⟩),(1,⟨i64,(d:Int)⟩),(2,⟨i64,ids⟩),(8,⟨.optr nd,⟨1,nd,.here⟩⟩),(9,⟨.slice nd,a⟩)],[(0,some (.box mkr m)),(1,some (.box nd n))],2⟩
set_option maxHeartbeats 8000000 in
theorem zq4(D:Nat)(ih:zfU zb gmG 22 (zhG D)):zfU zb gmG 22 (zhG (D+1)):=by
 have hK:=zzw ih;refine zer (K:=kRu D) hK Tryz.func22 rfl rfl Tryz.call22 rfl (zq rfl) (λw w' g hg h hk=>trivial) ?_;rintro w0 O g hX xb (m:Mk) ⟨(d:Int),(ids:Int),_⟩ hp;obtain⟨d,rfl⟩:∃e:Nat,d=(e:Int):=⟨d.toNat,by have:0<=d:=hp.1;omega⟩;obtain⟨h0,hD,hM,⟨h1,h2⟩,⟨h3,h4⟩,⟨h5,h6⟩,h7,h8⟩:0<=(d:Int)/\(d:Int)<((D+1:Nat):Int)/\mMax d<=10000/\(0<=mkU m/\mkU m+20*((mMax d:Nat):Int)<=500000)/\(0<=mkN m/\mkN m<=1000000)/\(0<=mkS m/\mkS m+((mMax d:Nat):Int)<=500000)/\0<ids/\ids<=1000000:=hp;have xa:(zhG (D+1)).out m ((d:Int),ids,())=(mTr ids d m).1.flat 0:=rfl;have x9:(zhG (D+1)).post m ((d:Int),ids,())=(mTr ids d m).2:=rfl;change AWP _ _ _ _ _ ⟨[(0,⟨.optr mkr,⟨0,mkr,.here⟩⟩),(1,⟨i64,(d:Int)⟩),(2,⟨i64,ids⟩)],[(0,some (.box mkr m))],1⟩ _;obtain⟨R,x6⟩:∃R,R=mTr ids d m:=⟨_,rfl⟩;have i1:inR .i64 (mkS m+1):=zad o_ o_
 iterate 2 (refine za (za (zaa hK ?_)))
 have g1:0<=mkU (zaE m):=h1;have g2:mkU (zaE m)<=1000000:=by show mkU m<=_;omega
 refine zak (Y':=⟨[(0,⟨.optr mkr,⟨0,mkr,.here⟩⟩),(1,⟨i64,(d:Int)⟩),(2,⟨i64,ids⟩)],[(0,some (.box mkr (zaE m)))],1⟩) ⟨⟨rfl,rfl,rfl,t_⟩,⟨rfl,t_⟩,rfl,rfl⟩ ?_;have x8:=(zny m).trans (zbp (zaE m) 14).ge;have hk:=zaG (zaE m) (n:=14) d_;refine za (za (zaa hK ?_));have x0:=@zuq ids d m;rw[<-x6]at x0;have x7:=@zzk ids (d-1) m;obtain⟨p,hP⟩:∃p,p=zai (zaE m) 14:=⟨_,rfl⟩;rw[<-hP]at x0 x7 x8 hk;refine zak (Y':=⟨[(0,⟨.optr mkr,⟨0,mkr,.here⟩⟩),(1,⟨i64,(d:Int)⟩),(2,⟨i64,ids⟩),(7,⟨i64,p.1⟩)],[(0,some (.box mkr p.2))],1⟩) ⟨⟨rfl,rfl,rfl,by rw[hP];rfl,t_⟩,⟨zyp (by rw[hP];rfl),t_⟩,rfl,rfl⟩ ?_;clear hP;obtain⟨(k:Int),(m1:Mk)⟩:=p;have hk:0<=k/\k<14:=hk;obtain⟨e1,e2,⟨e3,e4⟩,e5,e6⟩:MkGe (0+1) (1+0) m m1:=x8;have xi:1<=mMax d:=by cases d with
  |zero=>exact zj _
  |succ d=>show 1<=2*mMax d+1;omega
 have x0:zg4 d (k,m1)=true->R=(.leaf (zc0 m1 ids).1,(zc0 m1 ids).2):=x0;have hq:(bif (bif (bif decide ((d:Int)<=0) then true else decide (mkU m1>(((mkD m1).length:Nat):Int))) then true else decide (mkS m1>30)) then true else decide (k>=10))=zg4 d (k,m1):=by
  rw[b_or,b_or,b_or];unfold zg4;have:decide ((d:Int)<=0)=decide (d=0):=decide_eq_decide.2 o_;rw[this]
 change AWP _ _ _ _ _ ⟨[(0,⟨.optr mkr,⟨0,mkr,.here⟩⟩),(1,⟨i64,(d:Int)⟩),(2,⟨i64,ids⟩),(7,⟨i64,k⟩)],[(0,some (.box mkr m1))],1⟩ _;refine za (za (zdn 24 dM hK rfl ?_));refine zaf rfl (λhc=>?_) (λhc=>?_)
 .have hc:=hq.symm.trans hc;have hR:=x0 hc;refine za (za (zaa hK ?_));refine vM hX 6 ?_;refine zp ⟨.inr rfl,?_,D1 ?_⟩
  .show some (OObj.box mkr (zc0 m1 ids).2)=some (OObj.box mkr (mTr ids d m).2);rw[<-x6,hR]
  .show [(zc0 m1 ids).1]=(mTr ids d m).1.flat 0;rw[<-x6,hR];rfl
 have hc:=hq.symm.trans hc;have xj:d≠0:=λh=>by
  have:zg4 d (k,m1)=true:=by unfold zg4;rw[decide_eq_true h];rfl
  rw[this]at hc;cases hc
 obtain⟨d,rfl⟩:∃e,d=e+1:=⟨d-1,by omega⟩;have xf:k<10:=by
  unfold zg4 at hc;simp only[xY,decide_eq_false_iff_not]at hc;have:=hc.2;omega
 have hR:=x7 (by rw[show d+1-1+1=d+1 by omega,hc];decide);rw[show d+1-1=d by omega, <-x6]at hR;clear x7 x0 hq hc;have hR:R=if two (8+k)=true then(.bin (8+k,0,0,0,(mCnt (8+k) (mTr ids d m1).2).1,0,[],[],()) (mTr ids d m1).1 (mTr ids d (mCnt (8+k) (mTr ids d m1).2).2).1,(mTr ids d (mCnt (8+k) (mTr ids d m1).2).2).2)
  else(.un (mOne (8+k) ids (mTr ids d m1).2).1 (mTr ids d m1).1,(mOne (8+k) ids (mTr ids d m1).2).2):=hR
 have xm:mMax (d+1)=2*mMax d+1:=rfl;have n2:((d+1:Nat):Int)-1<(D:Int):=o_;have n3:(((d+1:Nat):Int)-1).toNat=d:=o_;have n4:mMax (((d+1:Nat):Int)-1).toNat<=10000:=by rw[n3];omega
 have n5:0<=mkU m1/\mkU m1+20*((mMax (((d+1:Nat):Int)-1).toNat:Nat):Int)<=500000:=by rw[n3];omega
 have n6:0<=mkN m1/\mkN m1<=1000000:=o_;have n7:0<=mkS m1/\mkS m1+((mMax (((d+1:Nat):Int)-1).toNat:Nat):Int)<=500000:=by rw[n3];omega
 have n8:0<ids/\ids<=1000000:=⟨h7,h8⟩;have n9:inR .i64 (((d+1:Nat):Int)-1):=zad o_ (by have:=zrJ d;omega);have xe:inR .i64 (8+k):=zad o_ o_
 iterate 2 (refine za (za (zaa hK ?_)))
 refine zak (Y':=sRu (mTr ids d m1).2 (d+1) ids (8+k) (8+k,0,0,0,0,0,[],[],()) ((mTr ids d m1).1.flat 0)) ⟨⟨rfl,rfl,rfl,rfl,by show(⟨.slice nd,(mTr ids (((d+1:Nat):Int)-1).toNat m1).1.flat 0⟩:V)=_;rw[n3],t_⟩,⟨zyp (by show(mTr ids (((d+1:Nat):Int)-1).toNat m1).2=_;rw[n3]),rfl,t_⟩,rfl,rfl⟩ ?_;have sh:=zow ids d m1 n6.1;have sz:=zgu ids d m1;have ge:=zj1 ids d m1;generalize mTr ids d m1=A at *;obtain⟨(a:Tr),(m2:Mk)⟩:=A;have sh:TrSh a:=sh;have sz:a.size<=mMax d:=sz;obtain⟨f1,f2,⟨f3,f4⟩,f5,f6⟩:MkGe (20*mMax d) (mMax d) m1 m2:=ge;have sa:=zdd a;have la:=qg a 0;have hR:R=if two (8+k)=true then(.bin (8+k,0,0,0,(mCnt (8+k) m2).1,0,[],[],()) a (mTr ids d (mCnt (8+k) m2).2).1,(mTr ids d (mCnt (8+k) m2).2).2)
  else(.un (mOne (8+k) ids m2).1 a,(mOne (8+k) ids m2).2):=hR
 show AWP _ _ _ _ _ (sRu m2 (d+1) ids (8+k) (8+k,0,0,0,0,0,[],[],()) (a.flat 0)) _;generalize xc:8+k=c at *;have xh:8<=c/\c<=17:=o_;have w1:0<=mkU m2:=o_;have w2:mkU m2<=1000000:=o_;have w3:mkU m2<=900000:=o_;refine za (za (zaa hK ?_));refine zaf rfl (λhc=>?_) (λhc=>?_)
 .have hc:two c=true:=hc;rw[if_pos hc]at hR;apply zaq;refine zbi (Y':=sRu (mCnt c m2).2 (d+1) ids c (c,0,0,0,(mCnt c m2).1,0,[],[],()) (a.flat 0)) ?_ ?_
  .refine za (za (zaa hK ?_));refine zaf rfl (λhb=>?_) (λhb=>?_)
   .have hb:(c==17)=true:=hb;have e:mCnt c m2=(1+(zai m2 3).1,(zai m2 3).2):=if_pos (eq_of_beq hb);have hp:=zaG m2 (n:=3) d_;have z1:inR .i64 (1+(zai m2 3).1):=zad o_ o_;rw[e];refine za (za (zaa hK ?_));exact⟨⟨rfl,rfl,rfl,rfl,rfl,t_⟩,⟨rfl,rfl,t_⟩,rfl,rfl⟩
   .have hb:(c==17)=false:=hb;have e:mCnt c m2=(0,m2):=if_neg (by simpa using hb);rw[e];apply zah;exact⟨⟨rfl,rfl,rfl,rfl,rfl,t_⟩,⟨rfl,rfl,t_⟩,rfl,rfl⟩
  obtain⟨x1,x2,x3,x4,x5⟩:MkLe 1 m2 (mCnt c m2).2:=zmy c m2;generalize mCnt c m2=q at *;obtain⟨(cn:Int),(m3:Mk)⟩:=q;have x1:mkN m3=mkN m2:=x1;have x2:mkS m3=mkS m2:=x2;have x4:mkU m2<=mkU m3:=x4;have x5:mkU m3<=mkU m2+((1:Nat):Int):=x5;have hR:R=(.bin (c,0,0,0,cn,0,[],[],()) a (mTr ids d m3).1,(mTr ids d m3).2):=hR;have v5:0<=mkU m3/\mkU m3+20*((mMax (((d+1:Nat):Int)-1).toNat:Nat):Int)<=500000:=by rw[n3];omega
  have v6:0<=mkN m3/\mkN m3<=1000000:=o_;have v7:0<=mkS m3/\mkS m3+((mMax (((d+1:Nat):Int)-1).toNat:Nat):Int)<=500000:=by rw[n3];omega
  refine za (za (zaa hK ?_));have sb:=zow ids d m3 v6.1;have xk:=zgu ids d m3;have lb:=qg (mTr ids d m3).1 0;have xg:=zk6 (mTr ids d m3).1 0 sb;have q1:1<=(a.flat 0).length:=o_;have q2:(a.flat 0).length<=100000:=o_;have q3:((mTr ids (((d+1:Nat):Int)-1).toNat m3).1.flat 0).length<=100000:=by rw[n3];omega
  have q4:∀n∈(mTr ids (((d+1:Nat):Int)-1).toNat m3).1.flat 0,(-1000000<=ndL n/\ndL n<=1000000)/\(-1000000<=ndR n/\ndR n<=1000000):=by
   rw[n3];intro n hn;have:=xg n hn;omega
  refine za (za (zaa hK ?_));refine zp ⟨.inr rfl,?_,D1 ?_⟩
  .show some (OObj.box mkr (mTr ids (((d+1:Nat):Int)-1).toNat m3).2)=some (OObj.box mkr (mTr ids (d+1) m).2);rw[<-x6,hR,n3]
  .show zva (a.flat 0) ((mTr ids (((d+1:Nat):Int)-1).toNat m3).1.flat 0) (c,0,0,0,cn,0,[],[],())=(mTr ids (d+1) m).1.flat 0;rw[<-x6,hR,n3,zs7 a (mTr ids d m3).1 _ sb]
 .have hc:two c=false:=hc;rw[hc,if_neg d_]at hR;have xd:¬two c=true:=by rw[hc];decide
  rw[zgh]at xd;apply zah;refine za (za (zaa hK ?_));refine zbi (Y':=sRu (mOne c ids m2).2 (d+1) ids c (mOne c ids m2).1 (a.flat 0)) ?_ ?_
  .apply zay;clear hR xc xe;rcases (show c=11\/c=12\/c=13\/c=14\/c=15\/c=16 by omega) with rfl|rfl|rfl|rfl|rfl|rfl
   .
    refine za (za (zaa hK ?_));refine zdo rfl ?_;have hp:=zaG m2 (n:=15) d_;have z1:inR .i64 ((zai m2 15).1-7):=zad o_ o_;refine za (za (zaa hK ?_));exact⟨⟨rfl,rfl,rfl,rfl,rfl,t_⟩,⟨rfl,rfl,t_⟩,rfl,rfl⟩
   .
    refine za (za (zaa hK ?_));refine zdc rfl ?_;refine za (za (zaa hK ?_));refine zdo rfl ?_;apply zah;refine zdo rfl ?_;refine za (za (zaa hK ?_));exact⟨⟨rfl,rfl,rfl,rfl,rfl,t_⟩,⟨rfl,rfl,t_⟩,rfl,rfl⟩
   .
    iterate 2 (refine za (za (zaa hK ?_));refine zdc rfl ?_)
    refine za (za (zaa hK ?_));refine zdo rfl ?_;refine za (za (zaa hK ?_));exact⟨⟨rfl,rfl,rfl,rfl,rfl,t_⟩,⟨rfl,rfl,t_⟩,rfl,rfl⟩
   .
    iterate 3 (refine za (za (zaa hK ?_));refine zdc rfl ?_)
    refine za (za (zaa hK ?_));refine zdo rfl ?_;apply zah;refine zdo rfl ?_;refine za (za (zaa hK ?_));exact⟨⟨rfl,rfl,rfl,rfl,rfl,t_⟩,⟨rfl,rfl,t_⟩,rfl,rfl⟩
   .
    iterate 4 (refine za (za (zaa hK ?_));refine zdc rfl ?_)
    refine za (za (zaa hK ?_));refine zdo rfl ?_;refine za (za (zaa hK ?_));exact⟨⟨rfl,rfl,rfl,rfl,rfl,t_⟩,⟨rfl,rfl,t_⟩,rfl,rfl⟩
   .
    iterate 5 (refine za (za (zaa hK ?_));refine zdc rfl ?_)
    have z2:0<=mkU (zai m2 ids).2:=by rw[zaZ];omega
    have z3:mkU (zai m2 ids).2<=1000000:=by rw[zaZ];omega
    have z4:0<=mkU (zai (zai m2 ids).2 2).2:=by rw[zaZ,zaZ];omega
    have z5:mkU (zai (zai m2 ids).2 2).2<=900000:=by rw[zaZ,zaZ];omega
    have z6:ids<=1000000000:=o_
    iterate 3 (refine za (za (zaa hK ?_)))
    exact⟨⟨rfl,rfl,rfl,rfl,rfl,t_⟩,⟨rfl,rfl,t_⟩,rfl,rfl⟩
  show AWP _ _ _ _ _ (sRu (mOne c ids m2).2 (d+1) ids c (mOne c ids m2).1 (a.flat 0)) _;have q2:(a.flat 0).length<=1000000:=o_;refine za (za (zaa hK ?_));refine zp ⟨.inr rfl,?_,D1 ?_⟩
  .show some (OObj.box mkr (mOne c ids m2).2)=some (OObj.box mkr (mTr ids (d+1) m).2);rw[<-x6,hR]
  .show zt9 (a.flat 0) (mOne c ids m2).1=(mTr ids (d+1) m).1.flat 0;rw[<-x6,hR,zrp]
theorem zuh(D:Nat):zfU zb gmG 22 (zhG D):=by
 induction D with
 |zero=>
  refine⟨Tryz.call22,λw O g cs ty x xs vs _ _ _ _ hp=>?_⟩;obtain⟨(d:Int),(ids:Int),_⟩:=xs;have h1:0<=d:=hp.1;have h2:d<((0:Nat):Int):=hp.2.1;omega
 |succ D ih=>exact zq4 D ih
set_option maxRecDepth 10000
theorem zdZ{lo hi x1 x0:Int}{z:Bool}(h1:x1<=lo)(h2:hi<=x0):∀{l:List Int}{a b:Int},b<=a->Ris lo hi z a l->Ris x1 x0 z b l
 | [],_,_,_,_=>trivial
 |x::r,a,b,hab,h=>by
  obtain⟨p,q,s,t,u⟩:=h;exact⟨by omega,by omega,by omega,t,zdZ h1 h2 (yS _) u⟩
theorem zkO{lo hi:Int}{z:Bool}(hz:z=true\/¬0<=lo):∀(k:Nat)(m:Mk)(v:Int)(acc:List Int),Ris lo hi z (lo-1) acc->acc.getLast?.getD (lo-1)<v->lo<=v->Ris lo hi z (lo-1) (mRis lo hi k m v acc).1/\(mRis lo hi k m v acc).1.length<=acc.length+k
 |0,m,v,acc,h,_,_=>⟨h,zj _⟩
 |k+1,m,v,acc,h,hl,hv=>by
  have hp:=zaG m (n:=3) d_;rw[mRis];split
  .rename_i x0;split
   .rename_i hc;have h2:=zof (z:=z) hv x0 (by
     rcases hz with hz|hz
     .exact .inl hz
     .exact .inr (hc.resolve_right hz)) h hl
    obtain⟨a,b⟩:=zkO hz k (zai m 3).2 (v+1+(zai m 3).1) (acc++[v]) h2 (by rw[List.getLast?_append];show v<_;omega) o_;refine⟨a,?_⟩;rw[zg,xI]at b;omega
   .obtain⟨a,b⟩:=zkO hz k (zai m 3).2 (v+1+(zai m 3).1) acc h o_ o_;exact⟨a,by omega⟩
  .exact⟨h,by show acc.length<=_;omega⟩
theorem zcX(m:Mk){lo hi:Int}{z:Bool}(hz:z=true\/¬0<=lo)(x1:z=true\/hi≠0)(hl:lo<=hi):(zaJ m lo hi).1≠ []/\(zaJ m lo hi).1.length<=4/\Ris lo hi z (lo-1) (zaJ m lo hi).1:=by
 have hp:=zaG m (n:=4) d_;have hq:=zaG (zai m 4).2 (n:=hi-lo+1) o_;obtain⟨a,b⟩:=zkO hz (hi:=hi) (1+(zai m 4).1).toNat (zai (zai m 4).2 (hi-lo+1)).2 (lo+(zai (zai m 4).2 (hi-lo+1)).1) [] trivial (by show lo-1<_;omega) o_;unfold zaJ orHi;dsimp only;split
 .exact⟨by simp,by simp,⟨by omega,hl,yS _,x1,t_⟩⟩
 .rename_i x0;refine⟨λe=>x0 (by rw[e];rfl),?_,a⟩;rw[yC]at b;omega
def zdW(x:Int):Prop:=-1000<x/\x<1000
def NdSm(n:Nd):Prop:=(zdW (ndC n)/\zdW (ndN n)/\zdW (ndM n))/\(∀x∈ndI n,zdW x)/\(ndI n).length<=5/\(ndS n).length<=20
theorem zvB{x:Int}(h:zdW x):(deI x).length<=4:=by
 unfold deI Lib.itoa;have e:(10:Nat)^(2+1)=1000:=d_;obtain⟨h0,h1⟩:=h;split
 .rw[zv];have:=zgK 2 x.natAbs (by rw[e];omega);omega
 .have:=zgK 2 x.toNat (by rw[e];omega);omega
theorem zjZ{l:List Int}(h:∀n∈l,zdW n):(zeu l).length<=5*l.length:=by
 induction l with
 |nil=>exact zj _
 |cons n l ih=>
  have h1:=zvB (h n (zC ..));have h2:=ih λm hm=>h m (zE _ hm);show((32::deI n)++zeu l).length<=_;rw[zg,zv,zv];omega
theorem ziH:∀(l:List Int)(i:Nat),(∀n∈l,zdW n)->(litS i l).length<=6*l.length
 | [],i,_=>zj _
 |n::l,i,h=>by
  have h1:=zvB (h n (zC ..));have h2:=ziH l (i+1) λm hm=>h m (zE _ hm);have h3:=zku i;show(sepS i++deI n++litS (i+1) l).length<=_;rw[zg,zg,zv];omega
theorem zp0{n:Nd}(h:NdSm n):(zd0 n).length<=90:=by
 obtain⟨⟨hC,hN,hM⟩,hI,hl,hs⟩:=h;have l1:∀w:List UInt8,w.length<=10->∀l:List Int,l.length<=3->(∀x∈l,zdW x)->(putS w l).length<=25:=λw hw l hl hx=>by
  have:=zjZ hx;unfold putS;rw[zg];omega
 have l2:(zb8 (ndI n)).length<=31:=by
  have:=ziH (ndI n) 0 hI;unfold zb8;rw[zg,xI];omega
 have p0:∀x∈([]:List Int),zdW x:=λx hx=>by cases hx
 have p1:∀x∈ [ndC n],zdW x:=λx hx=>by rw[zt.1 hx];exact hC
 have p2:∀x∈ [ndN n,ndM n],zdW x:=λx hx=>by
  rcases zs.1 hx with rfl|hx
  .exact hN
  .rw[zt.1 hx];exact hM
 have p3:∀x∈ [ndC n,ndN n,ndM n],zdW x:=λx hx=>by
  rcases zs.1 hx with rfl|hx
  .exact hC
  .exact p2 x hx
 unfold zd0;split
 .exact zJ (l1 _ d_ _ (by simp) p2) d_
 split
 .exact zJ (l1 _ d_ _ (by simp) p3) d_
 split
 .rw[zg];have:=l1 zct d_ _ (by simp) p1;omega
 split
 .rw[zg];have:=l1 zbe d_ _ (by simp) p1;omega
 split
 .rw[zg];have:=l1 zbo d_ _ (by simp) p0;omega
 split
 .rw[zg];have:=l1 zdA d_ _ (by simp) p1;omega
 split
 .rw[zg];have:=l1 wNth d_ _ (by simp) p3;have:=l1 (zcl (ndL n)) (zcW _) [] d_ p0;omega
 split
 .show(64::ndS n++[]).length<=_;rw[List.append_nil,zv];omega
 .exact zk _
theorem zlH{n:Nd}(b:List UInt8)(h:NdSm n):(zb6 b n).length<=90+b.length:=by
 obtain⟨⟨hC,hN,hM⟩,hI,hl,hs⟩:=h;have l1:∀w:List UInt8,w.length<=10->∀l:List Int,l.length<=3->(∀x∈l,zdW x)->(putS w l).length<=25:=λw hw l hl hx=>by
  have:=zjZ hx;unfold putS;rw[zg];omega
 have l2:(zb8 (ndI n)).length<=31:=by
  have:=ziH (ndI n) 0 hI;unfold zb8;rw[zg,xI];omega
 have p0:∀x∈([]:List Int),zdW x:=λx hx=>by cases hx
 have p1:∀x∈ [ndC n],zdW x:=λx hx=>by rw[zt.1 hx];exact hC
 have p2:∀x∈ [ndN n],zdW x:=λx hx=>by rw[zt.1 hx];exact hN
 unfold zb6;split
 .have:=l1 (spW zfK) d_ _ (by simp) p2;omega
 split
 .have:=l1 (spW zjj) d_ _ (by simp) p2;omega
 split
 .have:=l1 (spW zfJ) d_ _ (by simp) p2;omega
 split
 .rw[zg];have:=l1 (spW zfY) d_ _ (by simp) p0;omega
 split
 .rw[zg];have:=l1 (spW zcu) d_ _ (by simp) p0;omega
 split
 .rw[zg,zg];have:=l1 (spW wPos) d_ _ (by simp) p1;have:=l1 (zcl (ndM n)) (zcW _) [] d_ p0;omega
 split
 .rw[zg,zg];have:=l1 (spW zbY) d_ _ (by simp) p2;have:=l1 (spW wOf++[32]) d_ [] d_ p0;omega
 .exact zk _
def TrSm:Tr->Prop
 |.leaf n=>NdSm n
 |.un n a=>NdSm n/\TrSm a
 |.bin n a b=>NdSm n/\TrSm a/\TrSm b
theorem zfp:∀t:Tr,TrSm t->t.text.length<=100*t.size
 |.leaf n,h=>by
  have:=zp0 h;show(zd0 n).length<=100*1;omega
 |.un n a,h=>by
  have h1:=zlH [] h.1;have h2:=zfp a h.2;have h3:=zc4 (decide (a.lev>=4)) a.text;show(parS _ a.text++zb6 [] n).length<=100*(a.size+1);rw[zg];rw[yC]at h1;omega
 |.bin n a b,h=>by
  have h1:=zfp a h.2.1;have h2:=zfp b h.2.2;show _<=100*(a.size+b.size+1);rw[zkh];split
  .have h3:=zc4 (decide (a.lev>=4)) a.text;have h4:=zc4 (decide (b.lev>=5)) b.text;have h5:=zlH (parS (decide (b.lev>=5)) b.text) h.1;rw[zg];omega
  .have h3:=zc4 (decide (a.lev>=levS (ndK n))) a.text;have h4:=zc4 (decide (b.lev>=levS (ndK n)+1)) b.text;have h5:(putS ([32]++opWd (levS (ndK n))++[32]) []).length<=20:=by
    have h6:=zkQ (ndK n);show(([32]++opWd (levS (ndK n))++[32])++[]:List UInt8).length<=20;rcases (show levS (ndK n)=1\/levS (ndK n)=2\/levS (ndK n)=3\/levS (ndK n)=4\/levS (ndK n)=5 by omega) with e|e|e|e|e<;>rw[e]<;>decide
   rw[zg,zg];omega
theorem sm0:zdW 0:=⟨by decide,by decide⟩
theorem zhr{lo hi:Int}{z:Bool}(h1: -1000<lo)(h2:hi<1000):∀{l:List Int}{a:Int},Ris lo hi z a l->∀x∈l,zdW x
 | [],_,_,x,hx=>by cases hx
 |y::r,_,h,x,hx=>by
  obtain⟨_,a,b,_,h⟩:=h;rcases zs.1 hx with rfl|hx
  .exact⟨by omega,by omega⟩
  .exact zhr h1 h2 h x hx
theorem nosm:∀x∈([]:List Int),zdW x:=λx hx=>by cases hx
theorem zwU{k c:Int}{m:Mk}(hk:1<=k/\k<=7)(hc:0<=c/\c<=2)(x1:k=1\/k=5->c=0):TrOk (.leaf (zfP k c m).1)/\NdSm (zfP k c m).1:=by
 have sc:zdW c:=⟨by omega,by omega⟩;have x0:(([]:List UInt8)).length<=20:=zk _;rcases (show k=1\/k=2\/k=3\/k=4\/k=5\/k=6\/k=7 by omega) with rfl|rfl|rfl|rfl|rfl|rfl|rfl
 .have h1:=zaG m (n:=12) d_;have h2:=zaG (zai m 12).2 (n:=20) d_;obtain rfl:c=0:=x1 (.inl rfl);show TrOk (.leaf (1,0,0,0,1+(zai m 12).1,(zai (zai m 12).2 20).1,[],[],()))/\NdSm (1,0,0,0,1+(zai m 12).1,(zai (zai m 12).2 20).1,[],[],());generalize hx:1+(zai m 12).1=x at *;generalize (zai (zai m 12).2 20).1=y at *;refine⟨⟨?_,by show ¬((8:Int)<=1/\_);omega,rfl,λ_=>rfl⟩,⟨⟨sm0,⟨by show -1000<x;omega,by show x<1000;omega⟩,⟨by show -1000<y;omega,by show y<1000;omega⟩⟩,nosm,zk _,x0⟩⟩;exact and4 (a:=true) (b:=true) (c:=true) rfl rfl rfl (show(bif inB x 1 1099511627776 then inB y 0 1099511627776 else false)=true by rw[zcT (hi:=1099511627776) o_,zcT (hi:=1099511627776) o_];rfl)
 .have h1:=zaG m (n:=4) d_;have h2:=zaG (zai m 4).2 (n:=1+(zai m 4).1) o_;show TrOk (.leaf (2,c,0,0,1+(zai m 4).1,(zai (zai m 4).2 (1+(zai m 4).1)).1,[],[],()))/\NdSm (2,c,0,0,1+(zai m 4).1,(zai (zai m 4).2 (1+(zai m 4).1)).1,[],[],());generalize hx:1+(zai m 4).1=x at *;generalize (zai (zai m 4).2 x).1=y at *;refine⟨⟨?_,by show ¬((8:Int)<=2/\_);omega,rfl,λ_=>rfl⟩,⟨⟨sc,⟨by show -1000<x;omega,by show x<1000;omega⟩,⟨by show -1000<y;omega,by show y<1000;omega⟩⟩,nosm,zk _,x0⟩⟩;exact and4 (a:=true) (b:=inB c 0 2) (c:=true) rfl (zcT hc) rfl (show(bif inB x 1 400 then inB y 0 (x-1) else false)=true by rw[zcT o_,zcT o_];rfl)
 .obtain⟨a1,a2,a3⟩:=zcX m (lo:=1) (hi:=4) (z:=true) d_ d_ d_;show TrOk (.leaf (3,c,0,0,0,0,(zaJ m 1 4).1,[],()))/\NdSm (3,c,0,0,0,0,(zaJ m 1 4).1,[],());generalize (zaJ m 1 4).1=l at *;refine⟨⟨?_,by show ¬((8:Int)<=3/\_);omega,rfl,λ_=>rfl⟩,⟨⟨sc,sm0,sm0⟩,zhr d_ d_ a3,zJ a2 d_,x0⟩⟩;exact and4 (a:=decide (l.length<=64)) (b:=inB c 0 2) (c:=zaV l (1,16,())) (d:=true) (decide_eq_true o_) (zcT hc) (ziE d_ d_ a1 (zdZ d_ d_ d_ a3)) rfl
 .obtain⟨a1,a2,a3⟩:=zcX m (lo:=(-4)) (hi:=7) (z:=false) d_ d_ d_;show TrOk (.leaf (4,c,0,0,0,0,(zaJ m (-4) 7).1,[],()))/\NdSm (4,c,0,0,0,0,(zaJ m (-4) 7).1,[],());generalize (zaJ m (-4) 7).1=l at *;refine⟨⟨?_,by show ¬((8:Int)<=4/\_);omega,rfl,λ_=>rfl⟩,⟨⟨sc,sm0,sm0⟩,zhr d_ d_ a3,zJ a2 d_,x0⟩⟩;exact and4 (a:=decide (l.length<=64)) (b:=inB c 0 2) (c:=zaV l (-40,40,())) (d:=true) (decide_eq_true o_) (zcT hc) (ziE d_ d_ a1 (zdZ d_ d_ d_ a3)) rfl
 .obtain rfl:c=0:=x1 (.inr rfl);obtain⟨a1,a2,a3⟩:=zcX m (lo:=0) (hi:=6) (z:=true) d_ d_ d_;show TrOk (.leaf (5,0,0,0,0,0,(zaJ m 0 6).1,[],()))/\NdSm (5,0,0,0,0,0,(zaJ m 0 6).1,[],());generalize (zaJ m 0 6).1=l at *;refine⟨⟨?_,by show ¬((8:Int)<=5/\_);omega,rfl,λ_=>rfl⟩,⟨⟨sc,sm0,sm0⟩,zhr d_ d_ a3,zJ a2 d_,x0⟩⟩;exact and4 (a:=decide (l.length<=64)) (b:=true) (c:=zaV l (0,6,())) (d:=true) (decide_eq_true o_) rfl (ziE d_ d_ a1 (zdZ d_ d_ d_ a3)) rfl
 .obtain⟨a1,a2,a3⟩:=zcX m (lo:=1) (hi:=4) (z:=true) d_ d_ d_;show TrOk (.leaf (6,c,0,0,0,0,(zaJ m 1 4).1,[],()))/\NdSm (6,c,0,0,0,0,(zaJ m 1 4).1,[],());generalize (zaJ m 1 4).1=l at *;refine⟨⟨?_,by show ¬((8:Int)<=6/\_);omega,rfl,λ_=>rfl⟩,⟨⟨sc,sm0,sm0⟩,zhr d_ d_ a3,zJ a2 d_,x0⟩⟩;exact and4 (a:=decide (l.length<=64)) (b:=inB c 0 2) (c:=zaV l (1,54,())) (d:=true) (decide_eq_true o_) (zcT hc) (ziE d_ d_ a1 (zdZ d_ d_ d_ a3)) rfl
 .have h1:=zaG m (n:=3) d_;have h2:=zaG (zai (zai m 3).2 2).2 (n:=7) d_;have h3:=zaG (zai (zai (zai m 3).2 2).2 7).2 (n:=2) d_;show TrOk (.leaf (7,c,(zai (zai (zai (zai m 3).2 2).2 7).2 2).1,0,(if(zai (zai m 3).2 2).1=1 then -(1+(zai m 3).1) else 1+(zai m 3).1),(zai (zai (zai m 3).2 2).2 7).1,[],[],()))/\NdSm (7,c,(zai (zai (zai (zai m 3).2 2).2 7).2 2).1,0,(if(zai (zai m 3).2 2).1=1 then -(1+(zai m 3).1) else 1+(zai m 3).1),(zai (zai (zai m 3).2 2).2 7).1,[],[],());have hx:∀b:Int,-3<=(if b=1 then -(1+(zai m 3).1) else 1+(zai m 3).1)/\(if b=1 then -(1+(zai m 3).1) else 1+(zai m 3).1)<=3/\(if b=1 then -(1+(zai m 3).1) else 1+(zai m 3).1)≠0:=λb=>by split<;>omega
  have hx:=hx (zai (zai m 3).2 2).1;generalize (if(zai (zai m 3).2 2).1=1 then -(1+(zai m 3).1) else 1+(zai m 3).1)=x at *;generalize (zai (zai (zai m 3).2 2).2 7).1=y at *;generalize (zai (zai (zai (zai m 3).2 2).2 7).2 2).1=u at *;refine⟨⟨?_,by show ¬((8:Int)<=7/\_);omega,rfl,λe=>absurd rfl e⟩,⟨⟨sc,⟨by show -1000<x;omega,by show x<1000;omega⟩,⟨by show -1000<y;omega,by show y<1000;omega⟩⟩,nosm,zk _,x0⟩⟩;refine and4 (a:=true) (b:=inB c 0 2) (c:=true) rfl (zcT hc) rfl (show(bif (bif (bif inB x (-60) 60 then !(x==0) else false) then inB y 0 6 else false) then inB u 0 1 else false)=true from ?_);rw[zcT (n:=x) o_,zcT (n:=y) o_,zcT (n:=u) (lo:=0) (hi:=1) o_,beq_eq_false_iff_ne.2 hx.2.2];rfl
theorem zuU{x:Int}(h0:0<=x)(h1:x<1000000):(deI x).length<=6:=by
 unfold deI Lib.itoa;rw[if_neg o_];have e:(10:Nat)^(5+1)=1000000:=d_;exact zgK 5 x.toNat (by rw[e];omega)
theorem zAN{x:Int}(h0:0<=x)(h1:x<1000000):zfI ([110]++deI x)=true/\([110]++deI x).length<=20:=by
 have hl:=zuU h0 h1;have hd:∀c∈deI x,isPt c=true:=λc hc=>by
  have e:deI x=Lib.decDigits x.toNat:=by unfold deI Lib.itoa;rw[if_neg o_]
  rw[e]at hc;unfold isPt;rw[(zi0 x.toNat).1 c hc,Bool.or_true,Bool.true_or]
 refine⟨?_,by rw[zg,xI];omega⟩;unfold zfI;rw[zf,zf,zf,decide_eq_true_iff,decide_eq_true_iff];refine⟨⟨by simp,by rw[zg,xI];omega⟩,rfl,?_⟩;rw[yE];intro c hc;rcases zU.1 hc with hc|hc
 .rw[zt.1 hc];decide
 .exact hd c hc
theorem zv5{k:Int}{m:Mk}:(0<=(zeP k m 3).1/\(zeP k m 3).1<=2)/\(k=1\/k=5->(zeP k m 3).1=0):=by
 unfold zeP;split
 .rename_i h;have:=zaG m (n:=3) d_;exact⟨by omega,λe=>by omega⟩
 .exact⟨by show(0:Int)<=0/\(0:Int)<=2;omega,λ_=>rfl⟩
theorem znl(m:Mk)(hn:0<=mkN m)(x0:mkN m<=1000000):TrOk (.leaf (zc0 m 3).1)/\NdSm (zc0 m 3).1:=by
 have hk:=zaG m (n:=8) d_;unfold zc0 ziC;dsimp only;split
 .rename_i hc;have h1:mkN (zc9 (1+(zai m 8).1) (zai m 8).2).2=mkN m:=(zqw _ _).1;have h2:=zaG (zc9 (1+(zai m 8).1) (zai m 8).2).2 (n:=mkN (zc9 (1+(zai m 8).1) (zai m 8).2).2) hc.2;generalize (zai (zc9 (1+(zai m 8).1) (zai m 8).2).2 (mkN (zc9 (1+(zai m 8).1) (zai m 8).2).2)).1=x at *;obtain⟨a,b⟩:=zAN (x:=x) h2.1 o_;refine⟨⟨?_,by show ¬((8:Int)<=18/\(18:Int)<=17);omega,rfl,λ_=>rfl⟩,⟨⟨sm0,sm0,sm0⟩,nosm,zk _,b⟩⟩;have:((true&&true)&&(true&&(zfI ([110]++deI x)&&(true&&true))))=true:=by rw[a];rfl
  exact this
 .rename_i hc;exact zwU (zvQ (m:=(zai m 8).2) hn o_ hc) zv5.1 zv5.2
theorem zzb{k:Int}{m:Mk}(hk:11<=k/\k<=16):zaW (mOne k 3 m).1=true/\NdSm (mOne k 3 m).1:=by
 have x0:(([]:List UInt8)).length<=20:=zk _;rcases (show k=11\/k=12\/k=13\/k=14\/k=15\/k=16 by omega) with rfl|rfl|rfl|rfl|rfl|rfl
 .have h1:=zaG m (n:=15) d_;show zaW (11,0,0,0,(zai m 15).1-7,0,[],[],())=true/\NdSm (11,0,0,0,(zai m 15).1-7,0,[],[],());generalize hx:(zai m 15).1-7=x at *;refine⟨?_,⟨⟨sm0,⟨by show -1000<x;omega,by show x<1000;omega⟩,sm0⟩,nosm,zk _,x0⟩⟩;exact and4 (a:=true) (b:=true) (c:=true) rfl rfl rfl (show(bif inB x (-1099511627776) 1099511627776 then true else false)=true by rw[zcT (lo:=-1099511627776) (hi:=1099511627776) o_];rfl)
 .have h1:=zaG m (n:=60) d_;show zaW (12,0,0,0,(zai m 60).1,0,[],[],())=true/\NdSm (12,0,0,0,(zai m 60).1,0,[],[],());generalize (zai m 60).1=x at *;refine⟨?_,⟨⟨sm0,⟨by show -1000<x;omega,by show x<1000;omega⟩,sm0⟩,nosm,zk _,x0⟩⟩;exact and4 (a:=true) (b:=true) (c:=true) rfl rfl rfl (show(bif inB x 0 1099511627776 then true else false)=true by rw[zcT (hi:=1099511627776) o_];rfl)
 .have h1:=zaG m (n:=60) d_;show zaW (13,0,0,0,(zai m 60).1,0,[],[],())=true/\NdSm (13,0,0,0,(zai m 60).1,0,[],[],());generalize (zai m 60).1=x at *;refine⟨?_,⟨⟨sm0,⟨by show -1000<x;omega,by show x<1000;omega⟩,sm0⟩,nosm,zk _,x0⟩⟩;exact and4 (a:=true) (b:=true) (c:=true) rfl rfl rfl (show(bif inB x 0 1099511627776 then true else false)=true by rw[zcT (hi:=1099511627776) o_];rfl)
 .obtain⟨a1,a2,a3⟩:=zcX m (lo:=0) (hi:=60) (z:=true) d_ d_ d_;show zaW (14,0,0,0,0,0,(zaJ m 0 60).1,[],())=true/\NdSm (14,0,0,0,0,0,(zaJ m 0 60).1,[],());generalize (zaJ m 0 60).1=l at *;refine⟨?_,⟨⟨sm0,sm0,sm0⟩,zhr d_ d_ a3,zJ a2 d_,x0⟩⟩;exact and4 (a:=decide (l.length<=64)) (b:=true) (c:=zaV l (0,1099511627776,())) (d:=true) (decide_eq_true o_) rfl (ziE d_ d_ a1 (zdZ d_ d_ d_ a3)) rfl
 .obtain⟨a1,a2,a3⟩:=zcX m (lo:=0) (hi:=60) (z:=true) d_ d_ d_;show zaW (15,0,0,0,0,0,(zaJ m 0 60).1,[],())=true/\NdSm (15,0,0,0,0,0,(zaJ m 0 60).1,[],());generalize (zaJ m 0 60).1=l at *;refine⟨?_,⟨⟨sm0,sm0,sm0⟩,zhr d_ d_ a3,zJ a2 d_,x0⟩⟩;exact and4 (a:=decide (l.length<=64)) (b:=true) (c:=zaV l (0,1099511627776,())) (d:=true) (decide_eq_true o_) rfl (ziE d_ d_ a1 (zdZ d_ d_ d_ a3)) rfl
 .have h1:=zaG m (n:=3) d_;have h2:=zaG (zai m 3).2 (n:=2) d_;obtain⟨a1,a2,a3⟩:=zcX (zai (zai m 3).2 2).2 (lo:=-3) (hi:=3) (z:=false) d_ d_ d_;show zaW (16,(zai m 3).1,0,0,0,(zai (zai m 3).2 2).1,(zaJ (zai (zai m 3).2 2).2 (-3) 3).1,[],())=true/\NdSm (16,(zai m 3).1,0,0,0,(zai (zai m 3).2 2).1,(zaJ (zai (zai m 3).2 2).2 (-3) 3).1,[],());generalize (zaJ (zai (zai m 3).2 2).2 (-3) 3).1=l at *;generalize (zai (zai m 3).2 2).1=u at *;generalize (zai m 3).1=c at *;refine⟨?_,⟨⟨⟨by show -1000<c;omega,by show c<1000;omega⟩,sm0,⟨by show -1000<u;omega,by show u<1000;omega⟩⟩,zhr d_ d_ a3,zJ a2 d_,x0⟩⟩;exact and4 (a:=decide (l.length<=64)) (b:=inB c 0 2) (c:=zaV l (-400,400,())) (d:=inB u 0 1) (decide_eq_true o_) (zcT o_) (ziE d_ d_ a1 (zdZ d_ d_ d_ a3)) (zcT o_)
theorem zAo{k c:Int}(hk:(8<=k/\k<=10)/\c=0\/k=17/\1<=c/\c<=3):zaW (k,0,0,0,c,0,[],[],())=true/\NdSm (k,0,0,0,c,0,[],[],()):=by
 have x0:(([]:List UInt8)).length<=20:=zk _;refine⟨?_,⟨⟨sm0,⟨by show -1000<c;omega,by show c<1000;omega⟩,sm0⟩,nosm,zk _,x0⟩⟩;rcases hk with ⟨⟨h1,h2⟩,rfl⟩|⟨rfl,h⟩
 .rcases (show k=8\/k=9\/k=10 by omega) with rfl|rfl|rfl
  .decide+kernel
  .decide+kernel
  .decide+kernel
 .exact and4 (a:=true) (b:=true) (c:=true) rfl rfl rfl (show(bif inB c 1 400 then true else false)=true by rw[zcT o_];rfl)
theorem zzQ{k:Int}{m:Mk}(h:two k=true):(8<=k/\k<=10)/\(mCnt k m).1=0\/k=17/\1<=(mCnt k m).1/\(mCnt k m).1<=3:=by
 rw[zgh]at h;unfold mCnt;split
 .rename_i e;have:=zaG m (n:=3) d_;exact .inr ⟨e,by omega⟩
 .exact .inl ⟨by omega,rfl⟩
theorem zrH:∀(d:Nat)(m:Mk),0<=mkN m->mkN m<=1000000->TrOk (mTr 3 d m).1/\TrSm (mTr 3 d m).1
 |0,m,h,h2=>znl _ h h2
 |d+1,m,h,h2=>by
  have hp:=zaG (zaE m) (n:=14) d_;rw[mTr];dsimp only;split
  .exact znl _ h h2
  rename_i x0;have hs:(zai (zaE m) 14).1<10:=by
   have:¬zg4 (d+1) (zai (zaE m) 14)=true:=x0;unfold zg4 at this;simp only[yW,decide_eq_true_iff,not_or]at this;omega
  have h0:=h;have h3:=h2;obtain⟨ha,sa⟩:=zrH d (zai (zaE m) 14).2 h0 h3;have hg:=(zj1 3 d (zai (zaE m) 14).2).1;split
  .rename_i ht;have hc:=(zmy (8+(zai (zaE m) 14).1) (mTr 3 d (zai (zaE m) 14).2).2).1;obtain⟨hb,sb⟩:=zrH d (mCnt (8+(zai (zaE m) 14).1) (mTr 3 d (zai (zaE m) 14).2).2).2 (by rw[hc,hg];exact h0) (by rw[hc,hg];exact h3);obtain⟨f,g⟩:=zAo (zzQ (m:=(mTr 3 d (zai (zaE m) 14).2).2) ht);exact⟨⟨f,zgh.1 ht,⟨rfl,rfl⟩,ha,hb⟩,g,sa,sb⟩
  .rename_i ht;rw[zgh]at ht;obtain⟨e1,e2,e3⟩:=zvL (k:=8+(zai (zaE m) 14).1) (ids:=3) (m:=(mTr 3 d (zai (zaE m) 14).2).2);obtain⟨f,g⟩:=zzb (k:=8+(zai (zaE m) 14).1) (m:=(mTr 3 d (zai (zaE m) 14).2).2) o_;exact⟨⟨f,by rw[e1];omega,⟨e2,e3⟩,ha⟩,g,sa⟩
def zne(d:Nat)(k:Nat)(l:List Int)(n:Int):Tr:=(mTr 3 d (l.take k,0,n,0,())).1
theorem zrD{d k:Nat}{l:List Int}{n:Int}(h0:0<=n)(h1:n<=1000000):TrOk (zne d k l n)/\TrSm (zne d k l n):=zrH d _ h0 h1
theorem zrE(d k:Nat)(l:List Int)(n:Int):(zne d k l n).size<=mMax d:=zgu 3 d _
def zyf(d k:Nat):Ctr:={ args:=[ints,i64],pre:=λx=>[0<=x.2.1,x.2.1<=1000000],res:=.slice nd,own:=none,out:=λx=>(zne d k x.1 x.2.1).flat 0 }
def kMa:Kn:={ gmK with R:=[(22,zhG 10)] }
theorem zoI:KnOk zb gmG kMa:=zaA.withR (.cons (zuh 10) (λ_ _=>trivial) .nil)
theorem zqJ:yT zb gmG 8 (zyf 2 30):=by
 refine ctr2 zoI Tryz.func8 Tryz.call8 ?_;rintro w0 X hX ⟨(l:List Int),(n:Int),_⟩ hp;obtain⟨h0,h1⟩:0<=n/\n<=1000000:=hp;change AWP _ _ _ _ _ ⟨[(0,⟨ints,l⟩),(1,⟨i64,n⟩)],[],0⟩ _;refine za (za (zaa zoI ?_));have e:(min ((l.length:Nat):Int) 30).toNat=min l.length 30:=o_;have y1:0<=min ((l.length:Nat):Int) 30:=o_;have y2:min ((l.length:Nat):Int) 30<=((l.length:Nat):Int):=o_;have ht:l.take (min ((l.length:Nat):Int) 30).toNat=l.take 30:=by
  rw[e];by_cases h:l.length<=30
  .rw[Nat.min_eq_left h,jc (zj _),jc h]
  .rw[Nat.min_eq_right o_]
 refine za (za (zaa zoI ?_));refine zak (Y':=⟨[(5,⟨.optr mkr,⟨0,mkr,.here⟩⟩)],[(0,some (.box mkr (l.take 30,0,n,0,())))],1⟩) ⟨⟨rfl,t_⟩,⟨zyp (by show(l.take (min ((l.length:Nat):Int) 30).toNat,(0:Int),n,(0:Int),())=_;rw[ht]),t_⟩,rfl,rfl⟩ ?_;refine za (za (zaa zoI ?_));refine zp ⟨.inr rfl,D1 ?_⟩;rfl
theorem ztI:yT zb gmH 8 (zyf 2 30):=zqJ.lift
theorem catA{a b:List UInt8}{m n:Nat}(ha:a.length<=m)(hb:b.length<=n):(a++b).length<=m+n:=by rw[zg];omega
theorem cat2{a b:List UInt8}{m n:Nat}(ha:a.length<=m)(hb:b.length<=n)(h:Nat.ble (m+n) 1048576=true):a.length+b.length<=maxLen:=by have:=zq h;unfold maxLen;omega
abbrev wrd:Ty:=.pair (.arr 3 cal) (.pair ints (.pair ints .unit))
def wrT:Tbl:=(26,.arr 3 cal)::(28,wrd)::erT
theorem zvu:TOk zb wrT gmQ:=zid (by kernel_rfl) (by kernel_rfl)
def aT(l:List Int):Tr:=zne 2 30 l 0
theorem zjC(l:List Int):TrOk (aT l)/\(aT l).size<=7/\(aT l).text.length<=700:=by
 obtain⟨a,b⟩:=zrD (d:=2) (k:=30) (l:=l) (n:=0) (yS _) d_;have hs:=zrE 2 30 l 0;have:=zfp _ b;exact⟨a,hs,by show(zne 2 30 l 0).text.length<=700;have hs:(zne 2 30 l 0).size<=7:=hs;omega⟩
theorem zwj(l:List Int):fmtS ((aT l).flat 0)=((aT l).text,0):=by
 obtain⟨a,b,c⟩:=zjC l;rw[zuK a o_];exact if_neg o_
def zwo(x:List Cal):List Cal:=[zrG (x.getD 0 (zav cal)),zrG (x.getD 1 (zav cal)),zrG (x.getD 2 (zav cal))]
noncomputable def kLaK:Kn:={ gmK with T:=wrT,C:=[(5,zsW),(6,zwd),(8,zyf 2 30),(7,cFmt),(9,cMod),(11,zAa),(10,cMem)] }
theorem zca:KnOk zb gmH kLaK:=⟨zvu,zdm,.cons zqW<|.cons zup<|.cons ztI<|.cons ziT<|.cons zrA.lift<|.cons zsN<|.cons zrB .nil,zcb,RsOk.nil⟩
def tOr:List UInt8:=[41,32,111,114,32,40]
def tAnd:List UInt8:=[41,32,97,110,100,32,40]
def zqx:List UInt8:=[41,32,109,105,110,117,115,32,40]
def zn8:List UInt8:=[41,32,115,104,105,102,116,32]
def ztC:List UInt8:=[41,32,102,114,111,109,32]
def zn7:List UInt8:=[41,32,117,110,116,105,108,32]
def zou:Prop:=∀(l m:List Int)(cs:List Cal)(d n:Nat),cs.length=3->(∀c∈cs,zbv c)->d<100->n<30->
 (memP (aT l).text cs d/\memP ([40]++(aT l).text++tOr++(aT m).text++[41]) cs d/\memP ([40]++(aT l).text++tAnd++(aT m).text++[41]) cs d/\memP ([40]++(aT l).text++zqx++(aT m).text++[41]) cs d/\memP ([40]++(aT l).text++zn8++dgS n) cs ((d:Int)+n)/\memP ([40]++(aT l).text++ztC++dgS n) cs d/\memP ([40]++(aT l).text++zn7++dgS n) cs d)/\
 memS ([40]++(aT l).text++tOr++(aT m).text++[41]) cs d=(memS (aT l).text cs d||memS (aT m).text cs d)/\memS ([40]++(aT l).text++tAnd++(aT m).text++[41]) cs d=(memS (aT l).text cs d&&memS (aT m).text cs d)/\memS ([40]++(aT l).text++zqx++(aT m).text++[41]) cs d=(memS (aT l).text cs d&& !memS (aT m).text cs d)/\
 memS ([40]++(aT l).text++zn8++dgS n) cs ((d:Int)+n)=memS (aT l).text cs d/\memS ([40]++(aT l).text++ztC++dgS n) cs d=(memS (aT l).text cs d&&decide (n<=d))/\memS ([40]++(aT l).text++zn7++dgS n) cs d=(memS (aT l).text cs d&&decide (d<n))
set_option maxHeartbeats 4000000 in
theorem law11_of(x5:zou):yT zb gmH 3 (lawCtr [wrd,i64,i64]):=by
 refine ctr2 zca Tryz.func3 Tryz.call3 ?_;rintro w0 O hX ⟨⟨(cs:List Cal),(la:List Int),(lb:List Int),⟨⟩⟩,(at_:Int),(by_:Int),_⟩ hp;change AWP _ _ _ _ _ ⟨[(0,⟨wrd,(cs,la,lb,())⟩),(1,⟨i64,at_⟩),(2,⟨i64,by_⟩)],[],0⟩ _;refine za (za (zaa zca ?_));refine AWP.frzB hX 3 ?_;refine za (za (zaa zca ?_));refine za (za (zpg dM hX zca 14 (by kernel_rfl) rfl rfl ?_ ?_ ?_))
 .show allP _;exact z_
 .trivial
 have x2:∀c∈zwo cs,zbv c:=λc hc=>by
  simp only[zwo,zs,qd,or_false]at hc;rcases hc with rfl|rfl|rfl<;>exact zrF _
 obtain⟨CS,x3⟩:∃CS,CS=zwo cs:=⟨_,rfl⟩;have x7:CS.length=3:=by rw[x3];rfl
 rw[<-x3]at x2;refine zak (Y':=⟨[(1,⟨i64,at_⟩),(2,⟨i64,by_⟩),(3,⟨.vptr wrd,(cs,la,lb,())⟩),(7,⟨.bool,true⟩),(8,⟨.slice cal,CS⟩)],[],1⟩) ⟨⟨rfl,rfl,rfl,rfl,congrArg (λz=>(⟨.slice cal,z⟩:V)) x3.symm,t_⟩,t_,rfl,rfl⟩ ?_;have z0:(0:Int)<=0:=yS _;have z1:(0:Int)<=1000000:=d_;refine za (za ?_);refine zac hX zca rfl ?_ ?_
 .show allP _;exact z_
 obtain⟨A,hA⟩:∃A,A=(aT la).text:=⟨_,rfl⟩;have x0:A.length<=700:=by rw[hA];exact(zjC la).2.2
 have hf:=zwj la;rw[<-hA]at hf;refine zak (Y':=⟨[(1,⟨i64,at_⟩),(2,⟨i64,by_⟩),(3,⟨.vptr wrd,(cs,la,lb,())⟩),(7,⟨.bool,true⟩),(8,⟨.slice cal,CS⟩),(9,⟨.str,A⟩),(10,⟨i64,(0:Int)⟩)],[],1⟩) ⟨⟨rfl,rfl,rfl,rfl,rfl,?_,?_,t_⟩,t_,rfl,rfl⟩ ?_
 .show(⟨.str,(fmtS ((aT la).flat 0)).1⟩:V)=_;rw[hf]
 .show(⟨i64,(fmtS ((aT la).flat 0)).2⟩:V)=_;rw[hf]
 refine za (za ?_);refine zac hX zca rfl ?_ ?_
 .show allP _;exact z_
 obtain⟨B,hB⟩:∃B,B=(aT lb).text:=⟨_,rfl⟩;have hBl:B.length<=700:=by rw[hB];exact(zjC lb).2.2
 have hg:=zwj lb;rw[<-hB]at hg;refine zak (Y':=⟨[(1,⟨i64,at_⟩),(2,⟨i64,by_⟩),(7,⟨.bool,true⟩),(8,⟨.slice cal,CS⟩),(9,⟨.str,A⟩),(10,⟨i64,(0:Int)⟩),(11,⟨.str,B⟩),(12,⟨i64,(0:Int)⟩)],[],1⟩) ⟨⟨rfl,rfl,rfl,rfl,rfl,rfl,?_,?_,t_⟩,t_,rfl,rfl⟩ ?_
 .show(⟨.str,(fmtS ((aT lb).flat 0)).1⟩:V)=_;rw[hg]
 .show(⟨i64,(fmtS ((aT lb).flat 0)).2⟩:V)=_;rw[hg]
 have m0:(0:Int)<100:=d_;have m1:(100:Int)<=1000000000:=d_;have m2:(0:Int)<30:=d_;have m3:(30:Int)<=1000000000:=d_;refine za (za ?_);refine zac hX zca rfl ?_ ?_
 .show allP _;exact z_
 obtain⟨d,hd,x8⟩:∃d:Nat,at_%100=(d:Int)/\d<100:=⟨(at_%100).toNat,by omega,by omega⟩;obtain⟨n,hn,x6⟩:∃n:Nat,by_%30=(n:Int)/\n<30:=⟨(by_%30).toNat,by omega,by omega⟩
 let F:Frame:=[(7,⟨.bool,true⟩),(8,⟨.slice cal,CS⟩),(9,⟨.str,A⟩),(10,⟨i64,(0:Int)⟩),(11,⟨.str,B⟩),(12,⟨i64,(0:Int)⟩),(13,⟨i64,(d:Int)⟩),(14,⟨i64,(n:Int)⟩)]
 refine zak (Y':=⟨F,[],1⟩) ⟨⟨rfl,rfl,rfl,rfl,rfl,rfl,vI64 hd,vI64 hn,t_⟩,t_,rfl,rfl⟩ ?_;have xa:∀k,(dgS k).length<=2:=λk=>by unfold dgS;split<;>simp
 have n0:(0:Int)<=(n:Int):=o_;have n1:(n:Int)<=99:=o_;have n2:inR .i64 ((d:Int)+(n:Int)):=zad o_ o_;have b1:(dgS (n:Int).toNat).length<=2:=xa _;obtain⟨⟨p1,p2,p3,p4,p5,p6,p7⟩,e1,e2,e3,e4,e5,e6⟩:=x5 la lb CS d n x7 x2 x8 x6;have p8:=(x5 lb la CS d n x7 x2 x8 x6).1.1;rw[<-hA]at p1;rw[<-hB]at p8;rw[<-hA, <-hB]at p2 p3 p4 e1 e2 e3;rw[<-hA]at p5 p6 p7 e4 e5 e6;obtain⟨MA,x1⟩:∃M,M=memS A CS d:=⟨_,rfl⟩;obtain⟨MB,x4⟩:∃M,M=memS B CS d:=⟨_,rfl⟩;rw[<-x1, <-x4]at e1 e2 e3;rw[<-x1]at e4 e5 e6;have bv:∀{x y:Bool},x=y->(⟨.bool,x⟩:V)=⟨.bool,y⟩:=λh=>by rw[h]
 refine za (za (zaa zca ?_));refine zak (Y':=⟨(15,⟨.bool,MA⟩)::(16,⟨.bool,true⟩)::F,[],1⟩) ⟨⟨bv x1.symm,rfl,rfl,rfl,rfl,rfl,rfl,rfl,rfl,rfl,t_⟩,t_,rfl,rfl⟩ ?_;refine za (za (zaa zca ?_));refine zak (Y':=⟨(17,⟨.bool,MB⟩)::(18,⟨.bool,true⟩)::(15,⟨.bool,MA⟩)::(16,⟨.bool,true⟩)::F,[],1⟩) ⟨⟨bv x4.symm,rfl,rfl,rfl,rfl,rfl,rfl,rfl,rfl,rfl,rfl,rfl,t_⟩,t_,rfl,rfl⟩ ?_;refine za (za ?_);refine zac hX zca rfl ?_ ?_
 .show allP _;(repeat' first|exact t_|with_reducible assumption|exact p2|refine⟨?_,?_⟩|intro _|apply cat2|apply catA|exact x0|exact hBl|exact zj _|exact yM _|rfl|assumption)
 refine zak (Y':=⟨(19,⟨.bool,MA||MB⟩)::(20,⟨.bool,true⟩)::(17,⟨.bool,MB⟩)::(18,⟨.bool,true⟩)::(15,⟨.bool,MA⟩)::(16,⟨.bool,true⟩)::F,[],1⟩) ⟨⟨bv e1,rfl,rfl,rfl,rfl,rfl,rfl,rfl,rfl,rfl,rfl,rfl,rfl,rfl,t_⟩,t_,rfl,rfl⟩ ?_;refine za (za ?_);refine zac hX zca rfl ?_ ?_
 .show allP _;(repeat' first|exact t_|with_reducible assumption|exact p3|refine⟨?_,?_⟩|intro _|apply cat2|apply catA|exact x0|exact hBl|exact zj _|exact yM _|rfl|assumption)
 refine zak (Y':=⟨(21,⟨.bool,MA&&MB⟩)::(22,⟨.bool,true⟩)::(19,⟨.bool,MA||MB⟩)::(20,⟨.bool,true⟩)::(17,⟨.bool,MB⟩)::(18,⟨.bool,true⟩)::(15,⟨.bool,MA⟩)::(16,⟨.bool,true⟩)::F,[],1⟩) ⟨⟨bv e2,rfl,rfl,rfl,rfl,rfl,rfl,rfl,rfl,rfl,rfl,rfl,rfl,rfl,rfl,rfl,t_⟩,t_,rfl,rfl⟩ ?_;refine za (za ?_);refine zac hX zca rfl ?_ ?_
 .show allP _;(repeat' first|exact t_|with_reducible assumption|exact p4|refine⟨?_,?_⟩|intro _|apply cat2|apply catA|exact x0|exact hBl|exact zj _|exact yM _|rfl|assumption)
 refine zak (Y':=⟨(23,⟨.bool,MA&& !MB⟩)::(24,⟨.bool,true⟩)::(21,⟨.bool,MA&&MB⟩)::(22,⟨.bool,true⟩)::(19,⟨.bool,MA||MB⟩)::(20,⟨.bool,true⟩)::(17,⟨.bool,MB⟩)::(18,⟨.bool,true⟩)::(15,⟨.bool,MA⟩)::(16,⟨.bool,true⟩)::F,[],1⟩) ⟨⟨bv e3,rfl,rfl,rfl,rfl,rfl,rfl,rfl,rfl,rfl,rfl,rfl,rfl,rfl,rfl,rfl,rfl,rfl,t_⟩,t_,rfl,rfl⟩ ?_;refine za (za ?_);refine zac hX zca rfl ?_ ?_
 .show allP _;(repeat' first|exact t_|with_reducible assumption|exact p5|exact n0|exact n1|exact n2|refine⟨?_,?_⟩|intro _|apply cat2|apply catA|exact x0|exact b1|exact zj _|exact yM _|rfl|assumption)
 refine zak (Y':=⟨(25,⟨.bool,MA⟩)::(26,⟨.bool,true⟩)::(23,⟨.bool,MA&& !MB⟩)::(24,⟨.bool,true⟩)::(21,⟨.bool,MA&&MB⟩)::(22,⟨.bool,true⟩)::(19,⟨.bool,MA||MB⟩)::(20,⟨.bool,true⟩)::(17,⟨.bool,MB⟩)::(18,⟨.bool,true⟩)::(15,⟨.bool,MA⟩)::(16,⟨.bool,true⟩)::F,[],1⟩) ⟨⟨bv e4,rfl,rfl,rfl,rfl,rfl,rfl,rfl,rfl,rfl,rfl,rfl,rfl,rfl,rfl,rfl,rfl,rfl,rfl,rfl,t_⟩,t_,rfl,rfl⟩ ?_;refine za (za ?_);refine zac hX zca rfl ?_ ?_
 .show allP _;(repeat' first|exact t_|with_reducible assumption|exact p6|exact n0|exact n1|exact n2|refine⟨?_,?_⟩|intro _|apply cat2|apply catA|exact x0|exact b1|exact zj _|exact yM _|rfl|assumption)
 refine zak (Y':=⟨(27,⟨.bool,MA&&decide (n<=d)⟩)::(28,⟨.bool,true⟩)::(25,⟨.bool,MA⟩)::(26,⟨.bool,true⟩)::(23,⟨.bool,MA&& !MB⟩)::(24,⟨.bool,true⟩)::(21,⟨.bool,MA&&MB⟩)::(22,⟨.bool,true⟩)::(19,⟨.bool,MA||MB⟩)::(20,⟨.bool,true⟩)::(17,⟨.bool,MB⟩)::(18,⟨.bool,true⟩)::(15,⟨.bool,MA⟩)::(16,⟨.bool,true⟩)::F,[],1⟩) ⟨⟨bv e5,rfl,rfl,rfl,rfl,rfl,rfl,rfl,rfl,rfl,rfl,rfl,rfl,rfl,rfl,rfl,rfl,rfl,rfl,rfl,rfl,rfl,t_⟩,t_,rfl,rfl⟩ ?_;refine za (za ?_);refine zac hX zca rfl ?_ ?_
 .show allP _;(repeat' first|exact t_|with_reducible assumption|exact p7|exact n0|exact n1|exact n2|refine⟨?_,?_⟩|intro _|apply cat2|apply catA|exact x0|exact b1|exact zj _|exact yM _|rfl|assumption)
 refine zak (Y':=⟨(29,⟨.bool,MA&&decide (d<n)⟩)::(30,⟨.bool,true⟩)::(27,⟨.bool,MA&&decide (n<=d)⟩)::(28,⟨.bool,true⟩)::(25,⟨.bool,MA⟩)::(26,⟨.bool,true⟩)::(23,⟨.bool,MA&& !MB⟩)::(24,⟨.bool,true⟩)::(21,⟨.bool,MA&&MB⟩)::(22,⟨.bool,true⟩)::(19,⟨.bool,MA||MB⟩)::(20,⟨.bool,true⟩)::(17,⟨.bool,MB⟩)::(18,⟨.bool,true⟩)::(15,⟨.bool,MA⟩)::(16,⟨.bool,true⟩)::F,[],1⟩) ⟨⟨bv e6,rfl,rfl,rfl,rfl,rfl,rfl,rfl,rfl,rfl,rfl,rfl,rfl,rfl,rfl,rfl,rfl,rfl,rfl,rfl,rfl,rfl,rfl,rfl,t_⟩,t_,rfl,rfl⟩ ?_;have xb:decide ((d:Int)>=(n:Int))=decide (n<=d):=by rw[zY,decide_eq_true_iff,decide_eq_true_iff];omega
 have x9:decide ((d:Int)<(n:Int))=decide (d<n):=by rw[zY,decide_eq_true_iff,decide_eq_true_iff];omega
 clear e1 e2 e3 e4 e5 e6 x1 x4;refine za (za ?_);refine zac hX zca rfl ?_ ?_
 .show allP _;exact z_
 refine zaf rfl (λhb=>?_) (λhb=>?_)
 .exact absurd hb d_
 apply zah;refine zak (Y':=⟨[(7,⟨.bool,true⟩),(13,⟨i64,(d:Int)⟩),(14,⟨i64,(n:Int)⟩),(15,⟨.bool,MA⟩),(17,⟨.bool,MB⟩),(19,⟨.bool,MA||MB⟩),(21,⟨.bool,MA&&MB⟩),(23,⟨.bool,MA&& !MB⟩),(25,⟨.bool,MA⟩),(27,⟨.bool,MA&&decide (n<=d)⟩),(29,⟨.bool,MA&&decide (d<n)⟩)],[],1⟩) ⟨⟨rfl,rfl,rfl,rfl,rfl,rfl,rfl,rfl,rfl,rfl,rfl,t_⟩,t_,rfl,rfl⟩ ?_;cases MA<;>cases MB
 all_goals
  refine za (za ?_);refine zac hX zca rfl ?_ ?_
  .show allP _
   repeat'(first|exact t_|(refine⟨?_,?_⟩)|(intro _))
   all_goals (first|rfl|simp_all [allP])
  refine zp ⟨.inr rfl,D1 ?_⟩;show _=true;simp[zla,xb,x9]
def HT(cs:List Cal):Tr->Int->Bool
 |.leaf n=>gd (zbU cs (λ_=>false) (λ_=>false) n)
 |.un n a=>gd (zbU cs (HT cs a) (λ_=>false) n)
 |.bin n a b=>gd (zbU cs (HT cs a) (HT cs b) n)
theorem zmc{cs:List Cal}{hL hR:Int->Bool}{n:Nd}{l r:Int}{d:Int}(h:n.1≠7):zbU cs hL hR (zbZ n l r) d=zbU cs hL hR n d:=by
 obtain⟨k,cl,l0,r0,N,M,ls,nm,⟨⟩⟩:=n;unfold zbU;show(if k=1 then _ else if k=2 then _ else if k=3 then _ else if k=4 then _ else if k=5 then _ else if k=6 then _ else if k=7 then _ else _)=(if k=1 then _ else if k=2 then _ else if k=3 then _ else if k=4 then _ else if k=5 then _ else if k=6 then _ else if k=7 then _ else _);rw[if_neg h,if_neg h];rfl
theorem zp2{cs:List Cal}{hL hR:Int->Bool}{n:Nd}{l:Int}{d:Int}(h:n.1≠7):zbU cs hL hR (setL n l) d=zbU cs hL hR n d:=zmc (l:=l) (r:=n.2.2.2.1) h
def partAt(rs:List Nd)(b:Nat)(l:List Nd):Prop:=∀j,j<l.length->rs.getD (b+j) (zav nd)=l.getD j (zav nd)
theorem partAt.left{rs:List Nd}{b:Nat}{l m:List Nd}(h:partAt rs b (l++m)):partAt rs b l:=λj hj=>by
 rw[h j (by rw[zg];omega)];simp[zu,List.getElem?_append_left hj]
theorem partAt.right{rs:List Nd}{b:Nat}{l m:List Nd}(h:partAt rs b (l++m)):partAt rs (b+l.length) m:=λj hj=>by
 rw[Nat.add_assoc,h (l.length+j) (by rw[zg];omega)];simp[zu,List.getElem?_append_right]
theorem zua{n:Nd}(h:¬(8<=n.1/\n.1<=17))(h1:1<=n.1)(h2:n.1<=18):oprN n=0:=by
 rcases (show n.1=1\/n.1=2\/n.1=3\/n.1=4\/n.1=5\/n.1=6\/n.1=7\/n.1=18 by omega) with e|e|e|e|e|e|e|e<;>(rw[zf2 e];rfl)
theorem zy9{n:Nd}(h1:11<=n.1)(h2:n.1<=16):oprN n=1:=by
 rcases (show n.1=11\/n.1=12\/n.1=13\/n.1=14\/n.1=15\/n.1=16 by omega) with e|e|e|e|e|e<;>(rw[zf2 e];rfl)
theorem zk1{rs:List Nd}{cs:List Cal}(ho:opsP rs):∀(t:Tr)(b:Nat),TrOk t->b+t.size<=rs.length->partAt rs b (t.flat b)->gd (hR rs cs (((b+t.size:Nat):Int)-1))=HT cs t
 |.leaf n,b,hok,hb,hp=>by
  have hn:=hp 0 (by simp[kP]);simp only[jW]at hn;have hn:rs.getD b (zav nd)=n:=hn;obtain⟨hf,hk,_⟩:=hok;have x2:=(zaC hf).1;have e:((b+(Tr.leaf n).size:Nat):Int)-1=(b:Int):=by show((b+1:Nat):Int)-1=_;omega
  rw[e];have hb:b+1<=rs.length:=hb;have h0:=zua hk x2.1 x2.2;show gd _=gd _
  congr 1
  funext d
  rw[zuF ho (yM b) o_,zH,hn];exact zex (λh=>by rw[h0]at h;exact absurd h d_) (λh=>by rw[h0]at h;exact absurd h d_)
 |.un n a,b,hok,hb,hp=>by
  obtain⟨hf,hk,_,x0⟩:=hok;have ha:=zdd a;have hb:b+(a.size+1)<=rs.length:=hb;have hp:partAt rs b (a.flat b++[setL n ((b+a.size:Nat)-1)]):=hp;have ih:=zk1 (cs:=cs) ho a b x0 o_ hp.left;have hn:=hp.right 0 (by simp);rw[qg,jW]at hn;have hn:rs.getD (b+a.size) (zav nd)=setL n ((b+a.size:Nat)-1):=hn;have e:((b+(Tr.un n a).size:Nat):Int)-1=((b+a.size:Nat):Int):=by show((b+(a.size+1):Nat):Int)-1=_;omega
  rw[e];have h1:oprN (setL n ((b+a.size:Nat)-1))=1:=zy9 (n:=setL n ((b+a.size:Nat)-1)) hk.1 hk.2;show gd _=gd _
  congr 1
  funext d
  rw[zuF ho (yM _) o_,zH,hn];rw[show nL (setL n ((b+a.size:Nat)-1))=((b+a.size:Nat):Int)-1 from rfl,ih];rw[zex (hR':=λ_=>false) (λ_=>rfl) (λh=>by rw[h1]at h;exact absurd h d_)];exact zp2 (λh=>by have h:ndK n=7:=h;omega)
 |.bin n a c,b,hok,hb,hp=>by
  obtain⟨hf,hk,_,x0,x5⟩:=hok;have ha:=zdd a;have hc:=zdd c;have hb:b+(a.size+c.size+1)<=rs.length:=hb;have hp:partAt rs b (a.flat b++c.flat (b+a.size)++[zbZ n ((b+a.size:Nat)-1) ((b+a.size+c.size:Nat)-1)]):=hp;have x3:=zk1 (cs:=cs) ho a b x0 o_ hp.left.left;have x1:=hp.left.right;rw[qg]at x1;have x4:=zk1 (cs:=cs) ho c (b+a.size) x5 o_ x1;have hn:=hp.right 0 (by simp);rw[zg,qg,qg,jW, <-Nat.add_assoc]at hn;have hn:rs.getD (b+a.size+c.size) (zav nd)=zbZ n ((b+a.size:Nat)-1) ((b+a.size+c.size:Nat)-1):=hn;have e:((b+(Tr.bin n a c).size:Nat):Int)-1=((b+a.size+c.size:Nat):Int):=by show((b+(a.size+c.size+1):Nat):Int)-1=_;omega
  rw[e];show gd _=gd _
  congr 1
  funext d
  rw[zuF ho (yM _) o_,zH,hn];rw[show nL (zbZ n ((b+a.size:Nat)-1) ((b+a.size+c.size:Nat)-1))=((b+a.size:Nat):Int)-1 from rfl,show nR (zbZ n ((b+a.size:Nat)-1) ((b+a.size+c.size:Nat)-1))=((b+a.size+c.size:Nat):Int)-1 from rfl,x3,x4];exact zmc (λh=>by have h:ndK n=7:=h;omega)
theorem zih:∀(t:Tr)(b:Nat),TrSm t->∀m∈t.flat b,NdSm m
 |.leaf n,b,h,m,hm=>by rw[zt.1 hm];exact h
 |.un n a,b,h,m,hm=>by
  rcases zU.1 hm with hm|hm
  .exact zih a b h.2 m hm
  .rw[zt.1 hm];exact h.1
 |.bin n a c,b,h,m,hm=>by
  rcases zU.1 hm with hm|hm
  .rcases zU.1 hm with hm|hm
   .exact zih a b h.2.1 m hm
   .exact zih c (b+a.size) h.2.2 m hm
  .rw[zt.1 hm];exact h.1
theorem zee:∀(t:Tr)(b:Nat),TrOk t->t.refs=[]->∀m∈t.flat b,ndK m≠18
 |.leaf n,b,h,hr,m,hm=>by
  rw[zt.1 hm];intro e;simp[Tr.refs,e]at hr
 |.un n a,b,h,hr,m,hm=>by
  rcases zU.1 hm with hm|hm
  .exact zee a b h.2.2.2 hr m hm
  .rw[zt.1 hm];intro e;have e:ndK n=18:=e;have:=h.2.1;omega
 |.bin n a c,b,h,hr,m,hm=>by
  obtain⟨ha,hc⟩:=List.append_eq_nil_iff.1 hr;rcases zU.1 hm with hm|hm
  .rcases zU.1 hm with hm|hm
   .exact zee a b h.2.2.2.1 ha m hm
   .exact zee c (b+a.size) h.2.2.2.2 hc m hm
  .rw[zt.1 hm];intro e;have e:ndK n=18:=e;have:=h.2.1;omega
theorem zvK(n:Nd):oprN n=opsN n:=rfl
theorem zg2{r:List Nd}(h:wfS r=true){j:Nat}(hj:j<r.length):zaW (r.getD j (zav nd))=true/\zeX (r.getD j (zav nd)) (j:Int)=true:=by
 obtain⟨_,h3,_⟩:=zdq h;have:=zcc h3 hj;rwa[zg3]at this
theorem zoq{r:List Nd}(h:wfS r=true):opsP r:=λi hi=>by
 obtain⟨h1,h2⟩:=zg2 h hi;unfold zeX at h2;rw[zf]at h2;refine⟨λho=>?_,λho=>?_⟩
 .have:=h2.1;rw[zvK]at ho;rw[decide_eq_true ho,cond_true,zaF]at this;exact⟨this.1,by show ndL _<_;omega⟩
 .have:=h2.2;rw[zvK]at ho;rw[decide_eq_true ho,cond_true,zaF]at this;exact⟨this.1,by show ndR _<_;omega⟩
theorem zv6{n:Nd}{cs:List Cal}(h:zaW n=true)(hk:(zdV (ndK n)).2.1=true)(hc:cs.length=3):zhM cs n:=by
 have h1:=(zaC h).2.2.1;unfold zfi at h1;rw[hk,cond_true,zaF]at h1;have h1:0<=nCal n/\nCal n<=2:=h1;exact⟨h1.1,by omega⟩
theorem ztZ{t:Tr}{cs:List Cal}{d:Int}(ht:TrOk t)(hs:TrSm t)(hz:t.size<=64)(hr:t.refs=[])(x3:cs.length=3)(x1:∀c∈cs,zbv c)(hd:0<=d/\d<=1000):zjQ (t.flat 0) cs d:=by
 have hw:=zh9 ht hz;have hl:=qg t 0;have hp:=t.size_pos;refine⟨⟨by omega,by omega⟩,hd,λn hn=>?_⟩;have x4:=zih t 0 hs n hn;have x6:=zee t 0 ht hr n hn;obtain⟨j,hj,rfl⟩:=List.getElem_of_mem hn;obtain⟨h1,h2⟩:=zg2 hw hj;have e:(t.flat 0).getD j (zav nd)=(t.flat 0)[j]:=by rw[zu,zI hj];rfl
 obtain⟨o1,o2⟩:=zoq hw j hj;rw[e]at h1 h2 o1 o2;generalize (t.flat 0)[j]=n at *;have hk:=(zaC h1).1;refine⟨⟨by have:1<=n.1:=hk.1;omega,by have x5:n.1<=18:=hk.2;omega⟩,λ_=>?_,λx2=>?_,λho=>⟨(o1 ho).1,by have:=(o1 ho).2;omega⟩,λho=>⟨(o2 ho).1,by have:=(o2 ho).2;omega⟩⟩
 .have: -1000<nN n/\nN n<1000:=x4.1.2.1;omega
 .have x0:=zv6 h1 (by rw[show ndK n=16 from x2];rfl) x3;exact⟨x0,x1 _ (xX (zcP x0))⟩
theorem zw8{t:Tr}{cs:List Cal}{d:Int}(ht:TrOk t)(hs:TrSm t)(hz:t.size<=64)(hr:t.refs=[])(x1:cs.length=3)(x0:∀c∈cs,zbv c)(hd:0<=d/\d<=1000):zpS (t.flat 0) cs d:=by
 refine⟨zia (zh9 ht hz),?_,x1,x0,ztZ ht hs hz hr x1 x0 hd⟩;have hN:∀w,w ∉ zdD (t.flat 0):=λw hw=>by
  unfold zdD at hw;rw[zl2,zgo t 0 ht,hr]at hw;simp at hw
 exact List.eq_nil_iff_forall_not_mem.2 hN
theorem zzA{l:List Int}{b:Int×Int×Unit}(h:zaV l b=true)(hb:zg5 b=false):incL l:=by
 unfold zaV at h;rw[hb,cond_false,zf,yE]at h;have x0:∀i,i+1<l.length->l.getD i 0<l.getD (i+1) 0:=λi hi=>by
  have h1:=h.1 (i+1) (List.mem_range.2 hi);unfold zhN at h1;simp only[zL,xY,vw,decide_eq_false_iff_not,Nat.add_sub_cancel]at h1;have:=h1.1.2;omega
 intro a c x1
 induction c with
 |zero=>omega
 |succ c ih=>
  intro hc;by_cases e:a=c
  .rw[e];exact x0 c hc
  .have:=ih o_ o_;have:=x0 c hc;omega
theorem zna{n:Nd}(h:zcw n=true)(k:n.1=1):(1<=nN n/\nN n<=1099511627776)/\0<=nM n/\nM n<=1099511627776:=by
 unfold zcw at h;rw[k]at h;have h:(bif inB (nN n) 1 1099511627776 then inB (nM n) 0 1099511627776 else false)=true:=h;cases h1:inB (nN n) 1 1099511627776 with
 |false=>rw[h1]at h;cases h
 |true=>rw[h1,cond_true]at h;exact⟨zaF.1 h1,zaF.1 h⟩
theorem zw3{n:Nd}(h:zcw n=true)(k:n.1=2):1<=nN n/\nN n<=400:=by
 unfold zcw at h;rw[k]at h;have h:(bif inB (nN n) 1 400 then inB (nM n) 0 (nN n-1) else false)=true:=h;cases h1:inB (nN n) 1 400 with
 |false=>rw[h1]at h;cases h
 |true=>exact zaF.1 h1
theorem zub{n:Nd}(h:zcw n=true)(k:n.1=17):1<=nN n/\nN n<=400:=by
 unfold zcw at h;rw[k]at h;have h:(bif inB (nN n) 1 400 then nM n==0 else false)=true:=h;cases h1:inB (nN n) 1 400 with
 |false=>rw[h1]at h;cases h
 |true=>exact zaF.1 h1
theorem zBd{t:Tr}{cs:List Cal}(ht:TrOk t)(hs:TrSm t)(hz:t.size<=64)(hr:t.refs=[])(xh:cs.length=3)(xe:∀c∈cs,zbv c):evP (t.flat 0) cs:=by
 intro C xk xc i d xf xr xj x7;have hw:=zh9 ht hz;have hl:=qg t 0;obtain⟨j,rfl⟩:∃j:Nat,i=(j:Int):=⟨_,(qh xf).symm⟩;have hj:j<(t.flat 0).length:=o_;rw[zH];obtain⟨h1,h2⟩:=zg2 hw hj;obtain⟨o1,o2⟩:=zoq hw j hj;have e:(t.flat 0).getD j (zav nd)=(t.flat 0)[j]:=by rw[zu,zI hj];rfl
 have xa:=zih t 0 hs _ (xN hj);have x9:=zee t 0 ht hr _ (xN hj);rw[<-e]at xa x9;generalize (t.flat 0).getD j (zav nd)=n at *;obtain⟨x6,hlen,_,_,xd,x5⟩:=zaC h1;have x7:d<=1000+1000*(((t.flat 0).length:Int)-j):=x7;have x2:zi1 d:=⟨xj,by omega⟩;have hN: -1000<nN n/\nN n<1000:=xa.1.2.1;have x0:(zdV (ndK n)).2.1=true->zhM C.cs n:=λh=>by rw[xc];exact zv6 h1 h xh
 have x1:zg5 (zdV (ndK n)).2.2.1=false->znv (nLs n):=λh=>⟨zzA xd h,by show(ndI n).length<=_;omega⟩;have pre:∀x d',0<=x->x<(j:Int)-> -2000000<=d'->d'<=d+1000->HasPre C (farD (t.flat 0)) (j:Int) x d':=λx d' xi xm xo xn=>⟨⟨xi,xm⟩,by rw[xk];omega,zad o_ o_,zad o_ o_,λ_=>by show d'<=1000+1000*(((t.flat 0).length:Int)-x);omega⟩;have one:∀k:Int,n.1=k->1<=(zbK.getD k.toNat (zav shp)).1->∀d',-2000000<=d'->d'<=d+1000->HasPre C (farD (t.flat 0)) (j:Int) (nL n) d':=λk hk he d' ha hb=>by
  have h:=o1 (by rw[zf2 hk];omega);exact pre _ _ h.1 h.2 ha hb
 have x3:∀k:Int,n.1=k->(zbK.getD k.toNat (zav shp)).1=2->∀d',-2000000<=d'->d'<=d+1000->HasPre C (farD (t.flat 0)) (j:Int) (nL n) d'/\HasPre C (farD (t.flat 0)) (j:Int) (nR n) d':=λk hk he d' ha hb=>by
  have h:=o1 (by rw[zf2 hk,he];decide);have h':=o2 (by rw[zf2 hk,he];decide);exact⟨pre _ _ h.1 h.2 ha hb,pre _ _ h'.1 h'.2 ha hb⟩
 have two:∀k:Int,n.1=k->(zbK.getD k.toNat (zav shp)).1=2->HasPre C (farD (t.flat 0)) (j:Int) (nL n) d/\HasPre C (farD (t.flat 0)) (j:Int) (nR n) d:=λk hk he=>x3 k hk he d o_ o_;have x4:∀{n:Nd},zhM C.cs n->∀q:Nat,q<(scpN (zbh C.cs n) (zaQ (zbh C.cs n) d).1 (nM n)).toNat-> -2000000<=scpA (zaQ (zbh C.cs n) d).1 (nM n)+q/\scpA (zaQ (zbh C.cs n) d).1 (nM n)+q<=d+1000:=λ{n}xg q hq=>by
  have xb:zbv (zbh C.cs n):=xe _ (by rw[<-xc];exact xX (zcP xg));have b1:=zqQ (c:=zbh C.cs n) (d:=d) (k:=nM n) xb x2;have b2:=zjV (c:=zbh C.cs n) (d:=d) xb;have b3:=zkD (c:=zbh C.cs n) (d:=d);obtain⟨A,hA⟩:∃A,A=scpA (zaQ (zbh C.cs n) d).1 (nM n):=⟨_,rfl⟩;obtain⟨N,x8⟩:∃N,N=scpN (zbh C.cs n) (zaQ (zbh C.cs n) d).1 (nM n):=⟨_,rfl⟩;have xq:A<=d:=by
   rw[hA];unfold scpA;split<;>omega
  rw[<-hA, <-x8]at b1;rw[<-x8]at hq;rw[<-hA];omega
 have xu:n.1≠18:=x9;have xt:1<=n.1:=x6.1;have xp:n.1<=18:=x6.2;unfold znp;rcases (show n.1=1\/n.1=2\/n.1=3\/n.1=4\/n.1=5\/n.1=6\/n.1=7\/n.1=8\/n.1=9\/n.1=10\/n.1=11\/n.1=12\/n.1=13\/n.1=14\/n.1=15\/n.1=16\/n.1=17 by omega) with hk|hk|hk|hk|hk|hk|hk|hk|hk|hk|hk|hk|hk|hk|hk|hk|hk
 .exact .inl ⟨hk,⟨x2,by have:=zna x5 hk;omega,by have:=zna x5 hk;omega,by have:=zna x5 hk;omega⟩⟩
 .exact .inr (.inl ⟨hk,⟨x2,x0 (by rw[show ndK n=2 from hk];rfl),by have:=zw3 x5 hk;omega⟩⟩)
 .exact .inr (.inr (.inl ⟨hk,⟨x2,x0 (by rw[show ndK n=3 from hk];rfl),x1 (by rw[show ndK n=3 from hk];rfl)⟩⟩))
 .exact .inr (.inr (.inr (.inl ⟨hk,⟨x2,x0 (by rw[show ndK n=4 from hk];rfl),x1 (by rw[show ndK n=4 from hk];rfl)⟩⟩)))
 .exact .inr (.inr (.inr (.inr (.inl ⟨hk,⟨x2,x1 (by rw[show ndK n=5 from hk];rfl)⟩⟩))))
 .exact .inr (.inr (.inr (.inr (.inr (.inl ⟨hk,⟨x2,x0 (by rw[show ndK n=6 from hk];rfl),x1 (by rw[show ndK n=6 from hk];rfl)⟩⟩)))))
 .exact .inr (.inr (.inr (.inr (.inr (.inr (.inl ⟨hk,⟨x2,x0 (by rw[show ndK n=7 from hk];rfl),t_⟩⟩))))))
 .exact .inr (.inr (.inr (.inr (.inr (.inr (.inr (.inl ⟨hk,two 8 hk rfl⟩)))))))
 .exact .inr (.inr (.inr (.inr (.inr (.inr (.inr (.inr (.inl ⟨hk,two 9 hk rfl⟩))))))))
 .exact .inr (.inr (.inr (.inr (.inr (.inr (.inr (.inr (.inr (.inl ⟨hk,two 10 hk rfl⟩)))))))))
 .exact .inr (.inr (.inr (.inr (.inr (.inr (.inr (.inr (.inr (.inr (.inl ⟨hk,⟨one 11 hk d_ _ o_ o_,zad o_ o_⟩⟩))))))))))
 .exact .inr (.inr (.inr (.inr (.inr (.inr (.inr (.inr (.inr (.inr (.inr (.inl ⟨hk,⟨one 12 hk d_ d o_ o_,t_⟩⟩)))))))))))
 .exact .inr (.inr (.inr (.inr (.inr (.inr (.inr (.inr (.inr (.inr (.inr (.inr (.inl ⟨hk,⟨one 13 hk d_ d o_ o_,t_⟩⟩))))))))))))
 .exact .inr (.inr (.inr (.inr (.inr (.inr (.inr (.inr (.inr (.inr (.inr (.inr (.inr (.inl ⟨hk,⟨one 14 hk d_ d o_ o_,x1 (by rw[show ndK n=14 from hk];rfl)⟩⟩)))))))))))))
 .exact .inr (.inr (.inr (.inr (.inr (.inr (.inr (.inr (.inr (.inr (.inr (.inr (.inr (.inr (.inl ⟨hk,⟨one 15 hk d_ d o_ o_,x1 (by rw[show ndK n=15 from hk];rfl)⟩⟩))))))))))))))
 .exact .inr (.inr (.inr (.inr (.inr (.inr (.inr (.inr (.inr (.inr (.inr (.inr (.inr (.inr (.inr (.inl ⟨hk,⟨x2,x0 (by rw[show ndK n=16 from hk];rfl),x1 (by rw[show ndK n=16 from hk];rfl),one 16 hk d_ d o_ o_,λj hj=>one 16 hk d_ _ (by have:=x4 (n:=n) (x0 (by rw[show ndK n=16 from hk];rfl)) j hj;omega) (by have:=x4 (n:=n) (x0 (by rw[show ndK n=16 from hk];rfl)) j hj;omega)⟩⟩)))))))))))))))
 .exact .inr (.inr (.inr (.inr (.inr (.inr (.inr (.inr (.inr (.inr (.inr (.inr (.inr (.inr (.inr (.inr ⟨hk,⟨x2,by have:=zub x5 hk;omega,λa h0 h1=>⟨(x3 17 hk rfl a o_ o_).1,(x3 17 hk rfl a o_ o_).2⟩⟩⟩)))))))))))))))
def zjf(t:Tr):Prop:=TrOk t/\TrSm t/\t.size<=64/\t.refs=[]
theorem zhy{s:List UInt8}{t:Tr}{cs:List Cal}{d:Int}(hp:za9 s=(t.flat 0,0,0))(ht:zjf t)(x0:cs.length=3)(x1:∀c∈cs,zbv c)(hd:0<=d/\d<=1000):memP s cs d/\memS s cs d=HT cs t d:=by
 obtain⟨h1,h2,h3,h4⟩:=ht;have hw:=zh9 h1 h3;have hl:=qg t 0;unfold memP memS;rw[hp];refine⟨⟨rfl,zw8 h1 h2 h3 h4 x0 x1 hd,zoq hw,zBd h1 h2 h3 h4 x0 x1⟩,?_⟩;have h:=zk1 (cs:=cs) (zoq hw) t 0 h1 o_ (λj hj=>by rw[yL]);have e:(((t.flat 0).length:Nat):Int)-1=((0+t.size:Nat):Int)-1:=by rw[hl];omega
 show gd (hR (t.flat 0) cs ((((t.flat 0).length:Nat):Int)-1)) d=HT cs t d;rw[e,h]
theorem zBq{cs:List Cal}{n:Nd}{a b:Tr}{d:Int}(hd:0<=d)(h:n.1=9):HT cs (.bin n a b) d=(HT cs a d||HT cs b d):=by
 show gd _ d=_;unfold gd zbU;rw[decide_eq_false (by omega:¬d<0)];simp only[h,yV,if_true,if_false,cond_false];cases HT cs a d<;>rfl
theorem zAu{cs:List Cal}{n:Nd}{a b:Tr}{d:Int}(hd:0<=d)(h:n.1=8):HT cs (.bin n a b) d=(HT cs a d&&HT cs b d):=by
 show gd _ d=_;unfold gd zbU;rw[decide_eq_false (by omega:¬d<0)];simp only[h,yV,if_true,if_false,cond_false];cases HT cs a d<;>rfl
theorem zvk{cs:List Cal}{n:Nd}{a b:Tr}{d:Int}(hd:0<=d)(h:n.1=10):HT cs (.bin n a b) d=(HT cs a d&& !HT cs b d):=by
 show gd _ d=_;unfold gd zbU;rw[decide_eq_false (by omega:¬d<0)];simp only[h,yV,if_true,if_false,cond_false];cases HT cs a d<;>rfl
theorem zvj{cs:List Cal}{n:Nd}{a:Tr}{d:Int}(hd:0<=d)(h:n.1=11):HT cs (.un n a) d=HT cs a (d-nN n):=by
 show gd _ d=_;unfold gd zbU;rw[decide_eq_false (by omega:¬d<0)];simp only[h,yV,if_true,if_false,cond_false]
theorem zyF{cs:List Cal}{n:Nd}{a:Tr}{d:Int}(hd:0<=d)(h:n.1=12):HT cs (.un n a) d=(HT cs a d&&decide (nN n<=d)):=by
 show gd _ d=_;unfold gd zbU;rw[decide_eq_false (by omega:¬d<0)];simp only[h,yV,if_true,if_false,cond_false];by_cases e:nN n<=d
 .rw[decide_eq_true e];simp
 .rw[decide_eq_false e];simp
theorem zvi{cs:List Cal}{n:Nd}{a:Tr}{d:Int}(hd:0<=d)(h:n.1=13):HT cs (.un n a) d=(HT cs a d&&decide (d<nN n)):=by
 show gd _ d=_;unfold gd zbU;rw[decide_eq_false (by omega:¬d<0)];simp only[h,yV,if_true,if_false,cond_false];by_cases e:d>=nN n
 .rw[decide_eq_true e,decide_eq_false (by omega:¬d<nN n)];simp
 .rw[decide_eq_false e,decide_eq_true (by omega:d<nN n)];simp
theorem zy0(k c:Int)(m:Mk):ndS (zfP k c m).1=[]:=by
 unfold zfP
 repeat' split
 all_goals rfl
theorem zzp{m:Mk}(h:mkN m=0):ndS (zc0 m 3).1=[]:=by
 unfold zc0 ziC;dsimp only;split
 .rename_i hc;have h1:mkN (zc9 (1+(zai m 8).1) (zai m 8).2).2=mkN m:=(zqw _ _).1;have:=hc.2;omega
 .exact zy0 _ _ _
theorem zrZ{m:Mk}(h:mkN m=0):(Tr.leaf (zc0 m 3).1).refs=[]:=by
 have ht:=(znl m o_ o_).1;have hs:=zzp h;have hn:=(zaC ht.1).2.2.2.1;rw[Tr.refs];split
 .rename_i e;unfold zjs at hn;rw[e,hs]at hn;exact absurd hn d_
 .rfl
theorem zrI:∀(d:Nat)(m:Mk),mkN m=0->(mTr 3 d m).1.refs=[]
 |0,m,h=>zrZ h
 |d+1,m,h=>by
  rw[mTr];dsimp only;split
  .exact zrZ h
  have h0:=h;have ha:=zrI d (zai (zaE m) 14).2 h0;have hg:=(zj1 3 d (zai (zaE m) 14).2).1;split
  .have hc:=(zmy (8+(zai (zaE m) 14).1) (mTr 3 d (zai (zaE m) 14).2).2).1;have hb:=zrI d (mCnt (8+(zai (zaE m) 14).1) (mTr 3 d (zai (zaE m) 14).2).2).2 (by rw[hc,hg];exact h0);show _++_=[];rw[ha,hb];rfl
  .exact ha
theorem ztk(l:List Int):zjf (aT l):=by
 obtain⟨h1,h2,h3⟩:=zjC l;exact⟨h1,(zrD (d:=2) (k:=30) (l:=l) (n:=0) (yS _) d_).2,by omega,zrI 2 _ rfl⟩
theorem zpa(l:List Int):za9 (aT l).text=((aT l).flat 0,0,0):=by
 obtain⟨h1,h2,h3⟩:=zjC l;unfold za9;rw[if_neg o_,zjW h1 o_]
set_option maxRecDepth 10000
theorem ziu{a:Tr}(ha:TrOk a){i:Nat}(hi:i<=4):Qt i (parT false a.toks) a:=(Qt.par (zrc ha)).up hi (zj _)
theorem zy2{n:Nd}{a b:Tr}(h1:zaW n=true)(hk:8<=ndK n/\ndK n<=10)(x1:ndL n=0/\ndR n=0)(ha:TrOk a)(hb:TrOk b):Qt 0 (parT false a.toks++(tkW (opWd (levS (ndK n)))::parT false b.toks)) (.bin n a b):=by
 have x0:=zv1 h1 hk x1;rcases (show ndK n=8\/ndK n=9\/ndK n=10 by omega) with k|k|k<;>rw[k]at x0 ⊢
 .exact(zg0 (i:=2) d_ (ziu ha d_) (ziu hb d_) x0).up (zk _) d_
 .exact(zg0 (i:=0) d_ (ziu ha d_) (ziu hb d_) x0).up (zk _) d_
 .exact(zg0 (i:=1) d_ (ziu ha d_) (ziu hb d_) x0).up (zk _) d_
theorem zAH{n:Nd}{a:Tr}(h1:zaW n=true)(hk:11<=ndK n/\ndK n<=16)(x1:ndL n=0/\ndR n=0)(ha:TrOk a):Qt 0 (parT false a.toks++zjm [] n) (.un n a):=by
 refine Qt.up (j:=3) (λs st l hg hq hn hf=>?_) (zk _) d_;have hn:st.2+((a.size+1:Nat):Int)<=64:=hn;rw[zz]at hq;obtain⟨x2,e1,g1⟩:=ziu ha (i:=3) d_ s st _ hg hq o_ trivial;have n1:=g1.n;obtain⟨x0,e2,g2⟩:=q_un (a:=a) h1 hk x1 g1.ok g1.sq o_;exact⟨x0,Eq.trans e1 e2,g1.trans g2⟩
theorem zt7{n:Nd}{a:Tr}(h1:zaW n=true)(hk:11<=ndK n/\ndK n<=16)(x0:ndL n=0/\ndR n=0)(ha:TrOk a)(hz:a.size<=63):zeL (parS false a.text++zb6 [] n)=.ok (.un n a):=by
 obtain⟨x,y⟩:=znh (b:=[]) (B:=[]) h1 o_ (λe=>by omega);exact zre (zAH h1 hk x0 ha) (by show a.size+1<=64;omega) (zkP ((ze3 (c:=false) (zds a ha)).app x y) _ [] rfl)
theorem zrm{n:Nd}{a b:Tr}(h1:zaW n=true)(hk:8<=ndK n/\ndK n<=10)(x0:ndL n=0/\ndR n=0)(ha:TrOk a)(hb:TrOk b)(hz:a.size+b.size<=63):zeL (parS false a.text++(putS ([32]++opWd (levS (ndK n))++[32]) []++parS false b.text))=.ok (.bin n a b):=by
 have hl:levS (ndK n)=1\/levS (ndK n)=2\/levS (ndK n)=3:=by
  rcases (show ndK n=8\/ndK n=9\/ndK n=10 by omega) with k|k|k<;>rw[k]
  .exact .inr (.inr rfl)
  .exact .inl rfl
  .exact .inr (.inl rfl)
 have hB:=ze3 (c:=false) (zds b hb);have hw:Lex (putS ([32]++opWd (levS (ndK n))++[32]) []++parS false b.text) (tkW (opWd (levS (ndK n)))::parT false b.toks)/\Bd (putS ([32]++opWd (levS (ndK n))++[32]) []++parS false b.text):=by
  have e:putS ([32]++opWd (levS (ndK n))++[32]) []++parS false b.text=32::(opWd (levS (ndK n))++(32::parS false b.text)):=by
   show(([32]++opWd (levS (ndK n))++[32])++[])++_=_;simp
  rw[e];refine⟨?_,rfl⟩;rcases hl with hl|hl|hl<;>rw[hl]
  .exact(za6 (w:=wOr) d_ rfl d_ hB.sp rfl).sp
  .exact(za6 (w:=zlB) d_ rfl d_ hB.sp rfl).sp
  .exact(za6 (w:=wAnd) d_ rfl d_ hB.sp rfl).sp
 exact zre (zy2 h1 hk x0 ha hb) (by show a.size+b.size+1<=64;omega) (zkP ((ze3 (c:=false) (zds a ha)).app hw.1 hw.2) _ [] rfl)
def cutN(k n:Nat):Nd:=((k:Int),0,0,0,(n:Int),0,[],[],())
def binN(k:Nat):Nd:=((k:Int),0,0,0,0,0,[],[],())
theorem zrn(u:List UInt8):parS false u=[40]++u++[41]:=by
 simp[parS]
theorem ztx:∀n:Fin 30,(41:UInt8)::zb6 [] (cutN 11 n.val)=zn8++dgS n.val:=by decide+kernel
theorem zwy:∀n:Fin 30,(41:UInt8)::zb6 [] (cutN 12 n.val)=ztC++dgS n.val:=by decide+kernel
theorem ztw:∀n:Fin 30,(41:UInt8)::zb6 [] (cutN 13 n.val)=zn7++dgS n.val:=by decide+kernel
theorem zzG:∀n:Fin 30,zaW (cutN 11 n.val)=true/\zaW (cutN 12 n.val)=true/\zaW (cutN 13 n.val)=true:=by decide+kernel
theorem zzH:zaW (binN 8)=true/\zaW (binN 9)=true/\zaW (binN 10)=true:=by decide+kernel
theorem zAF{n:Nat}(h:n<100):zdW (n:Int):=⟨by omega,by omega⟩
theorem sm_z:zdW 0:=⟨by decide,by decide⟩
theorem zmV{n:Nd}{a:Tr}(h1:zaW n=true)(hk:11<=ndK n/\ndK n<=16)(x0:ndL n=0/\ndR n=0)(hs:NdSm n)(ha:zjf a)(hz:a.size<=63):zjf (.un n a):=
 ⟨⟨h1,hk,x0,ha.1⟩,⟨hs,ha.2.1⟩,by show a.size+1<=64;omega,ha.2.2.2⟩
theorem zlp{n:Nd}{a b:Tr}(h1:zaW n=true)(hk:8<=ndK n/\ndK n<=10)(x0:ndL n=0/\ndR n=0)(hs:NdSm n)(ha:zjf a)(hb:zjf b)(hz:a.size+b.size<=63):zjf (.bin n a b):=
 ⟨⟨h1,.inl hk,x0,ha.1,hb.1⟩,⟨hs,ha.2.1,hb.2.1⟩,by show a.size+b.size+1<=64;omega,by show _++_=[];rw[ha.2.2.2,hb.2.2.2];rfl⟩
theorem zwY{n:Nd}{l:List Int}{e:List UInt8}(h1:zaW n=true)(hk:11<=ndK n/\ndK n<=16)(x0:ndL n=0/\ndR n=0)(he:(41:UInt8)::zb6 [] n=e)(hl:e.length<=100):za9 ([40]++(aT l).text++e)=((Tr.un n (aT l)).flat 0,0,0):=by
 obtain⟨a1,a2,a3⟩:=zjC l;have ht: [40]++(aT l).text++e=parS false (aT l).text++zb6 [] n:=by rw[zrn, <-he];simp
 have hlen:([40]++(aT l).text++e).length<=4000:=by simp only[zg,zv,yC];omega
 unfold za9;rw[if_neg o_,ht,zt7 h1 hk x0 a1 o_]
theorem zro{n:Nd}{l m:List Int}{e:List UInt8}(h1:zaW n=true)(hk:8<=ndK n/\ndK n<=10)(x0:ndL n=0/\ndR n=0)(he:(41:UInt8)::(putS ([32]++opWd (levS (ndK n))++[32]) []++[40])=e)(hl:e.length<=100):za9 ([40]++(aT l).text++e++(aT m).text++[41])=((Tr.bin n (aT l) (aT m)).flat 0,0,0):=by
 obtain⟨a1,a2,a3⟩:=zjC l;obtain⟨b1,b2,b3⟩:=zjC m;have ht: [40]++(aT l).text++e++(aT m).text++[41]=parS false (aT l).text++(putS ([32]++opWd (levS (ndK n))++[32]) []++parS false (aT m).text):=by rw[zrn,zrn, <-he];simp
 have hlen:([40]++(aT l).text++e++(aT m).text++[41]).length<=4000:=by simp only[zg,zv,yC];omega
 unfold za9;rw[if_neg o_,ht,zrm h1 hk x0 a1 b1 o_]
theorem zsO(n:Nat):(dgS n).length<=2:=by unfold dgS;split<;>simp
theorem zsQ{k n:Nat}(h:n<30):NdSm (cutN k n):=⟨⟨sm_z,zAF o_,sm_z⟩,λx hx=>absurd hx jd,zk _,zk _⟩
theorem ztb(k:Nat):NdSm (binN k):=⟨⟨sm_z,sm_z,sm_z⟩,λx hx=>absurd hx jd,zk _,zk _⟩
theorem zAD:(41:UInt8)::(putS ([32]++opWd (levS (ndK (binN 9)))++[32]) []++[40])=tOr:=by decide+kernel
theorem zyQ:(41:UInt8)::(putS ([32]++opWd (levS (ndK (binN 8)))++[32]) []++[40])=tAnd:=by decide+kernel
theorem ztz:(41:UInt8)::(putS ([32]++opWd (levS (ndK (binN 10)))++[32]) []++[40])=zqx:=by decide+kernel
theorem zkN:zou:=by
 intro l m cs d n x2 x1 hd hn;have ha:=ztk l;have hb:=ztk m;have hz:=(zjC l).2.1;have hy:=(zjC m).2.1;have x0:(0:Int)<=(d:Int)/\(d:Int)<=1000:=o_;have x3:(0:Int)<=(d:Int)+(n:Int)/\(d:Int)+(n:Int)<=1000:=o_;obtain⟨x5,x4,f13⟩:=zzG ⟨n,hn⟩;obtain⟨f8,f9,x6⟩:=zzH;obtain⟨p0,m0⟩:=zhy (zpa l) ha x2 x1 x0;obtain⟨q0,n0⟩:=zhy (zpa m) hb x2 x1 x0;obtain⟨p1,m1⟩:=zhy (zro (l:=l) (m:=m) f9 ⟨by show(8:Int)<=9;decide,by show(9:Int)<=10;decide⟩ ⟨rfl,rfl⟩ zAD d_) (zlp f9 ⟨by show(8:Int)<=9;decide,by show(9:Int)<=10;decide⟩ ⟨rfl,rfl⟩ (ztb 9) ha hb o_) x2 x1 x0;obtain⟨p2,m2⟩:=zhy (zro (l:=l) (m:=m) f8 ⟨by show(8:Int)<=8;decide,by show(8:Int)<=10;decide⟩ ⟨rfl,rfl⟩ zyQ d_) (zlp f8 ⟨by show(8:Int)<=8;decide,by show(8:Int)<=10;decide⟩ ⟨rfl,rfl⟩ (ztb 8) ha hb o_) x2 x1 x0;obtain⟨p3,m3⟩:=zhy (zro (l:=l) (m:=m) x6 ⟨by show(8:Int)<=10;decide,by show(10:Int)<=10;decide⟩ ⟨rfl,rfl⟩ ztz d_) (zlp x6 ⟨by show(8:Int)<=10;decide,by show(10:Int)<=10;decide⟩ ⟨rfl,rfl⟩ (ztb 10) ha hb o_) x2 x1 x0;obtain⟨p4,m4⟩:=zhy (s:=[40]++(aT l).text++(zn8++dgS n)) (zwY (l:=l) x5 ⟨by show(11:Int)<=11;decide,by show(11:Int)<=16;decide⟩ ⟨rfl,rfl⟩ (ztx ⟨n,hn⟩) (by have:=zsO n;rw[zg];show 8+_<=100;omega)) (zmV x5 ⟨by show(11:Int)<=11;decide,by show(11:Int)<=16;decide⟩ ⟨rfl,rfl⟩ (zsQ hn) ha o_) x2 x1 x3;obtain⟨p5,m5⟩:=zhy (s:=[40]++(aT l).text++(ztC++dgS n)) (zwY (l:=l) x4 ⟨by show(11:Int)<=12;decide,by show(12:Int)<=16;decide⟩ ⟨rfl,rfl⟩ (zwy ⟨n,hn⟩) (by have:=zsO n;rw[zg];show 7+_<=100;omega)) (zmV x4 ⟨by show(11:Int)<=12;decide,by show(12:Int)<=16;decide⟩ ⟨rfl,rfl⟩ (zsQ hn) ha o_) x2 x1 x0;obtain⟨p6,m6⟩:=zhy (s:=[40]++(aT l).text++(zn7++dgS n)) (zwY (l:=l) f13 ⟨by show(11:Int)<=13;decide,by show(13:Int)<=16;decide⟩ ⟨rfl,rfl⟩ (ztw ⟨n,hn⟩) (by have:=zsO n;rw[zg];show 8+_<=100;omega)) (zmV f13 ⟨by show(11:Int)<=13;decide,by show(13:Int)<=16;decide⟩ ⟨rfl,rfl⟩ (zsQ hn) ha o_) x2 x1 x0;rw[<-zz]at p4 m4 p5 m5 p6 m6;refine⟨⟨p0,p1,p2,p3,p4,p5,p6⟩,?_,?_,?_,?_,?_,?_⟩
 .rw[m1,m0,n0,zBq x0.1 rfl]
 .rw[m2,m0,n0,zAu x0.1 rfl]
 .rw[m3,m0,n0,zvk x0.1 rfl]
 .rw[m4,m0,zvj x3.1 rfl];show HT cs (aT l) ((d:Int)+(n:Int)-(n:Int))=_;rw[Int.add_sub_cancel]
 .rw[m5,m0,zyF x0.1 rfl];show(_&&decide ((n:Int)<=(d:Int)))=_;rw[show decide ((n:Int)<=(d:Int))=decide (n<=d) by rw[zY,decide_eq_true_iff,decide_eq_true_iff];omega]
 .rw[m6,m0,zvi x0.1 rfl];show(_&&decide ((d:Int)<(n:Int)))=_;rw[show decide ((d:Int)<(n:Int))=decide (d<n) by rw[zY,decide_eq_true_iff,decide_eq_true_iff];omega]
theorem law11_ok:yT zb gmH 3 (lawCtr [wrd,i64,i64]):=law11_of zkN
end
end Go.Proofs.YthbecdbmifchiaaGreatDoor
