/-
  Texts of this claim, joined: what the statement's proof uses.
-/
import Derived.Test.YtdjjmoenpjlfeaaGreatDoorKC
set_option linter.unusedSimpArgs false
set_option linter.unusedVariables false
set_option maxRecDepth 100000
open Array renaming getD_eq_getD_getElem? -> yA,getElem?_eq_some_iff -> zv,getElem?_setIfInBounds -> qz,mem_of_getElem? -> uG,replicate -> zG
open BitVec renaming ofInt -> zV,ofNat -> zW,toInt_eq_toNat_cond -> vP,toNat_ofInt -> ky,toNat_ofNat -> xA
open Bool renaming and_eq_true -> zh
open Go renaming FuncId -> yR,Operand -> zK,Program -> zA,TypeId -> zy,Value -> zi,World -> zj,loadVar -> vh,wpIn_mono -> zT
open Go.Fence renaming wide -> yU
open Go.Instr renaming loadAt -> qL,sameNow -> uT,sureAddr -> qa
open Go.Next renaming value -> uN
open Go.Obj renaming cells -> jh
open Go.Operand renaming tmp -> qC
open Go.Proofs.Tryz renaming call91 -> gK,f127 -> fI,f85 -> wZ,f91 -> wB,func91 -> gL,prog -> zf,underlying205 -> yV,zeroValue83 -> fJ
open Go.Proofs.YtdjjmoenpjlfeaaGreatDoor renaming CtrOk -> yQ,RCtrOk -> vC
open Go.Proofs.YtdjjmoenpjlfeaaGreatDoor.AL renaming handV -> ku,nil -> qu,own -> ki,step -> xY
open Go.Proofs.YtdjjmoenpjlfeaaGreatDoor.AWP renaming frz -> vo,frzB -> xN,loop -> yK,ret -> zC
open Go.Proofs.YtdjjmoenpjlfeaaGreatDoor.AWPM renaming seq -> vQ
open Go.Proofs.YtdjjmoenpjlfeaaGreatDoor.Act renaming put_get -> qq,put_size -> jm
open Go.Proofs.YtdjjmoenpjlfeaaGreatDoor.AllI renaming s -> zZ
open Go.Proofs.YtdjjmoenpjlfeaaGreatDoor.AllN renaming cons -> kv,nil -> uf
open Go.Proofs.YtdjjmoenpjlfeaaGreatDoor.CsOk renaming cons -> fH,nil -> ue
open Go.Proofs.YtdjjmoenpjlfeaaGreatDoor.Frame renaming get -> zr
open Go.Proofs.YtdjjmoenpjlfeaaGreatDoor.Kept renaming refl -> jw
open Go.Proofs.YtdjjmoenpjlfeaaGreatDoor.OpEq renaming refl -> jc
open Go.Proofs.YtdjjmoenpjlfeaaGreatDoor.OrdA renaming last -> vY
open Go.Proofs.YtdjjmoenpjlfeaaGreatDoor.Ownr renaming plain -> qJ,plain_noR -> jW
open Go.Proofs.YtdjjmoenpjlfeaaGreatDoor.Owns renaming get -> zq
open Go.Proofs.YtdjjmoenpjlfeaaGreatDoor.RWP renaming seq -> gO
open Go.Proofs.YtdjjmoenpjlfeaaGreatDoor.RepV renaming ofInt -> qF
open Go.Proofs.YtdjjmoenpjlfeaaGreatDoor.StepA renaming eval -> yD
open Go.Proofs.YtdjjmoenpjlfeaaGreatDoor.StepK renaming eval -> yI
open Go.Proofs.YtdjjmoenpjlfeaaGreatDoor.Ty renaming size -> uk
open Go.Result renaming andThen_ok -> zD,ok -> gM
open Go.RowKit renaming Below -> xW
open Go.RowKit.Below renaming heap_setCell -> wC,refl -> zY
open Go.Sem renaming run_bind -> zJ,run_pure -> zI
open Go.Value renaming bool -> kh,cells -> jL,nilFunc -> vn,pointer -> zz,slice -> jZ
open Go.World renaming alloc_heap_new -> xK,cell? -> qd,cell?_of_block -> kY
open Int renaming le_refl -> qs,natCast_nonneg -> qh,not_lt -> kw,toNat_natCast -> zS
open List renaming append_assoc -> zB,append_nil -> yE,cons_append -> vH,drop_eq_getElem_cons -> xR,drop_eq_nil_of_le -> qp,drop_length -> uR,flatten -> xP,flatten_append -> qb,getD -> zx,getD_eq_getElem?_getD -> zH,getElem?_eq_getElem -> zR,getElem?_eq_some_iff -> xB,getElem?_map -> yB,getElem_mem -> qc,length -> zp,length_append -> zl,length_cons -> yT,length_drop -> yY,length_nil -> jX,length_replicate -> qf,length_take -> zP,map_append -> xX,map_cons -> qN,map_nil -> uq,map_toArray -> uo,mem_cons -> zE,nil_append -> qn,not_mem_nil -> zU,range -> xQ,replicate -> zg,take_append_drop -> qx,take_length -> yX,take_of_length_le -> qS,take_succ_eq_append_getElem -> zN,take_take -> qZ
open Nat renaming blt -> zO,eq_zero_or_pos -> wy,le_of_ble_eq_true -> zb,le_refl -> zu,le_trans -> zL,lt_of_lt_of_le -> zF,min_eq_right -> jI,mod_eq_of_lt -> qg,zero_le -> zk
open Ne renaming symm -> xI
open Option.some renaming inj -> yP
open UInt8 renaming ofNat -> zM,toNat_ofNat' -> jd
open Go Go.RowKit
namespace Go.Proofs.YtdjjmoenpjlfeaaGreatDoor
section
set_option maxRecDepth 10000
set_option maxRecDepth 10000
theorem zkg{P:zA}{w0:zj}{X:Ownr}{n:Nat}{Y:AS}{Q:Exit->AS->Prop}{ops:Array Oper}{Y1 Y2:AS}(hm:P.follows .mixedOrders=true){id:Nat}(f:Nat)(hf:ops.toList.length=f)(hb:zeQ ops=true)(ho:OrdA P w0 X n ops (λe s=>e=.normal/\(Fit s Y1\/Fit s Y2)) f [] Y)(h1:Q .normal Y1)(h2:Q .normal Y2)(hk1:X.K<=Y1.nx:=by exact zb rfl)(hk2:X.K<=Y2.nx:=by exact zb rfl)(hd:zaE ops.toList=true:=by rfl):AWP P w0 X n (.region id ops true) Y Q:=λU a w h=>
 zT (zeR hm f hf hb ho hd U a w h) λ_ _ _⟨_,U',hs,he,hf⟩=>hf.elim (λhf=>⟨Y1,U',hs.fit hf hk1,he▸h1⟩) (λhf=>⟨Y2,U',hs.fit hf hk2,he▸h2⟩)
theorem zvy(k:Int)(h1: -32<k)(h2:k<0):(zV 64 k&&& zW 64 31).toNat=(32+k).toNat:=by
 rw[BitVec.toNat_and,ky,xA];have e:(k%((2^64:Nat):Int)).toNat=(18446744073709551616+k).toNat:=by
  congr 1
  omega
 rw[e];have:∀n:Nat,n&&& (31%2^64)=n%32:=λn=>Nat.and_two_pow_sub_one_eq_mod n 5;rw[this];omega
def cRot:Ctr:={ args:=[u32,i64],pre:=λx=>[-32<x.2.1,x.2.1<0],res:=u32,own:=none,out:=λx=>rotr x.1 (-x.2.1).toNat }
theorem zrr:yQ zf dG 129 cRot:=by
 refine zcm (K:=dK) zam Tryz.func129 rfl rfl Tryz.call129 rfl (by decide) (by intro h;cases h) ?_;rintro w0 X hX ⟨(x:BitVec 32),(k:Int),_⟩ hp;change AWP _ _ _ _ _ ⟨[(0,⟨u32,x⟩),(1,⟨i64,k⟩)],[],0⟩ _;obtain⟨h1,h2⟩: -32<k/\k<0:=hp;(repeat(first|apply zap|apply zaf|apply zaH|apply zan|apply zaq|refine zac hX zam rfl trivial ?_|refine zac hX zam rfl id ?_|refine zac hX zam rfl ⟨id,id⟩ ?_));refine zaa (zaa ?_);refine zac hX zam rfl ?_ ?_
 .exact⟨qh _,qh _⟩
 refine zC ⟨.inr rfl,zm5 rfl trivial rfl rfl ?_⟩;have ha:=zvy k h1 h2;show(x <<< (zV 64 k&&& zW 64 31).toNat)|||(x >>> (zW 64 32-(zV 64 k&&& zW 64 31)).toNat)=rotr x (-k).toNat
 rw[BitVec.toNat_sub,ha];unfold rotr;rw[BitVec.or_comm]
 congr 2
 .rw[xA];omega
 .omega
theorem zt7{p q:Prop}[Decidable p][Decidable q]:(bif decide p then decide q else false)=true↔p/\q:=by
 by_cases hp:p<;>simp[hp]
def kA:Kn:={ dK with C:=[(129,cRot)] }
theorem zdq:KnOk zf dG kA:=zam.with (fH zrr ue)
theorem zku:yQ zf dG 128 zpe:=by
 refine zcm (K:=kA) zdq Tryz.func128 rfl rfl Tryz.call128 rfl (by decide) (by intro h;cases h) ?_;rintro w0 X hX ⟨(l:List UInt8),_⟩ hp;change AWP _ _ _ _ _ ⟨[(0,⟨bs,l⟩)],[],0⟩ _;have hp:l.length=64:=hp;(repeat(first|apply zap|apply zaf|apply zaH|apply zan|apply zaq|refine zac hX zdq rfl trivial ?_|refine zac hX zdq rfl id ?_|refine zac hX zdq rfl ⟨id,id⟩ ?_));refine yK (ι:=Nat) (λk=>⟨[(0,⟨bs,l⟩),(2,⟨.optr (.arr 64 u32),⟨0,.arr 64 u32,.here⟩⟩),(3,⟨.optr (.arr 64 u32),⟨1,.arr 64 u32,.here⟩⟩),(9,⟨i64,(k:Int)⟩)],[(0,some (.box (.arr 64 u32) (zg 64 (0:BitVec 32)))),(1,some (.box (.arr 64 u32) (zeG l k)))],2⟩) (λk=>k<=64) (λk=>64-k) 0 (by omega) ⟨⟨rfl,rfl,rfl,rfl,trivial⟩,⟨rfl,rfl,trivial⟩,rfl,rfl⟩ ?_;intro k hk;(repeat(first|apply zap|apply zaf|apply zaH|apply zan|apply zaq|refine zac hX zdq rfl trivial ?_|refine zac hX zdq rfl id ?_|refine zac hX zdq rfl ⟨id,id⟩ ?_));refine zae rfl (λhb=>?_) (λhb=>?_)
 .simp at hb;rename_i hb0;(repeat(first|apply zap|apply zaf|apply zaH|apply zan|apply zaq|refine zac hX zdq rfl trivial ?_|refine zac hX zdq rfl id ?_|refine zac hX zdq rfl ⟨id,id⟩ ?_));refine zae rfl (λhb=>?_) (λhb=>?_)
  .simp at hb;(repeat(first|apply zap|apply zaf|apply zaq|apply zan));refine zbF dM hX zdq 35 (by kernel_rfl) rfl rfl ?_ ?_ ?_
   . (simp only[allP,zc2];(and_intros<;>first|omega|(simp;done)|(simp;omega)))
   . (simp only[allP,zc2];(and_intros<;>first|omega|(simp;done)|(simp;omega)))
   refine zaa (zaa ?_);refine zac hX zdq rfl ?_ ?_
   .exact zaP (by omega)
   refine⟨k+1,by omega,by omega,⟨rfl,rfl,rfl,zce _,trivial⟩,⟨rfl,zeP ?_,trivial⟩,rfl,rfl⟩;rw[<-zhR _ _ (by omega)];show List.set (zeG l k) (Int.toNat k) _=_
   congr 1
   unfold ze1;rw[if_pos (by rw[zb4];omega),zb4];rfl
  .simp at hb;(repeat(first|apply zap|apply zaf|apply zaq|apply zan));refine zbF dM hX zdq 10 (by kernel_rfl) rfl rfl ?_ ?_ ?_
   . (simp only[allP,zc2];(and_intros<;>first|omega|(simp;done)|(simp;omega)))
   .trivial
   refine zaa (zaa ?_);refine zac hX zdq rfl ?_ ?_
   . (simp only[allP,zc2];(and_intros<;>first|omega|(simp;done)|(simp;omega)))
   refine zaa (zaa ?_);refine zac hX zdq rfl ?_ ?_
   . (simp only[allP,zc2];(and_intros<;>first|omega|(simp;done)|(simp;omega)))
   (repeat(first|apply zap|apply zaf|apply zaq|apply zan));refine zbF dM hX zdq 15 (by kernel_rfl) rfl rfl ?_ ?_ ?_
   . (simp only[allP,zc2];(and_intros<;>first|omega|(simp;done)|(simp;omega)))
   . (simp only[allP,zc2];(and_intros<;>first|omega|(simp;done)|(simp;omega)))
   refine zaa (zaa ?_);refine zac hX zdq rfl ?_ ?_
   .exact zaP (by omega)
   refine⟨k+1,by omega,by omega,⟨rfl,rfl,rfl,zce _,trivial⟩,⟨rfl,zeP ?_,trivial⟩,rfl,rfl⟩;rw[<-zhR _ _ (by omega)];show List.set (zeG l k) (Int.toNat k) _=_
   congr 1
   unfold ze1;rw[if_neg (by rw[zb4];omega),zb4];have e16:((k:Int)-16).toNat=k-16:=by omega
   have e15:((k:Int)-15).toNat=k-15:=by omega
   have e7:((k:Int)-7).toNat=k-7:=by omega
   have e2:((k:Int)-2).toNat=k-2:=by omega
   simp only[e16,e15,e7,e2,zep l k (k-16) (by omega),zep l k (k-15) (by omega),zep l k (k-7) (by omega),zep l k (k-2) (by omega)];rfl
 .simp at hb;have:k=64:=by omega
  subst this;(repeat(first|apply zap|apply zaf|apply zaH|apply zan|apply zaq|refine zac hX zdq rfl trivial ?_|refine zac hX zdq rfl id ?_|refine zac hX zdq rfl ⟨id,id⟩ ?_));refine zC ⟨.inr rfl,zm5 rfl trivial rfl rfl ?_⟩;show zeG l 64=zcQ l 64;simp[zeG]
def kB:Kn:={ dK with C:=[(128,zpe),(129,cRot)] }
theorem zcr:KnOk zf dG kB:=zam.with (fH zku (fH zrr ue))
def cAdd:RCtr:={ self:=arr8,args:=[bs],inv:=λ_ g=>g≠0,pre:=λ_ xs=>[zp xs.1=64],res:=.unit,out:=λ_ _=>(),post:=λs xs=>zbd (zft (stOf s) xs.1) }
set_option maxHeartbeats 8000000 in
theorem zrV:vC zf dG 112 cAdd:=by
 refine zaW (K:=kB) zcr Tryz.func112 rfl rfl Tryz.call112 rfl (by decide) (λw w' g hg h hk=>zfU (λe=>hg e.symm) h hk) ?_;rintro w0 O g hX hinv (s:List (BitVec 32)) ⟨(l:List UInt8),_⟩ hp;have hG:dG w0:=hX.2.2 w0 (jw _ _);change AWP _ _ _ _ _ ⟨[(0,⟨.optr arr8,⟨0,arr8,.here⟩⟩),(1,⟨bs,l⟩)],[(0,some (.box arr8 s))],1⟩ _;have hp:l.length=64:=hp;refine zrg 0 rfl λhs=>?_;have hsw:s=zbd (stOf s):=by
  match s,hs with
  | [_,_,_,_,_,_,_,_],_=>rfl
 obtain⟨hGl,cs,hG1,hG2⟩:=hG;refine zaa ?_;refine(λhq=>zkg (Y1:=⟨[(0,⟨.optr arr8,⟨0,arr8,.here⟩⟩),(4,⟨.optr zhG,⟨1,zhG,.here⟩⟩),(5,⟨.optr arr8,⟨2,arr8,.here⟩⟩)],[(0,some (.box arr8 s)),(1,some (.box zhG (zcQ l 64))),(2,some (.box arr8 s))],3⟩) (Y2:=⟨[(0,⟨.optr arr8,⟨0,arr8,.here⟩⟩),(4,⟨.optr zhG,⟨2,zhG,.here⟩⟩),(5,⟨.optr arr8,⟨1,arr8,.here⟩⟩)],[(0,some (.box arr8 s)),(2,some (.box zhG (zcQ l 64))),(1,some (.box arr8 s))],3⟩) dM 9 rfl (by kernel_rfl) ?ho hq (AWP.renameK [(0,0),(1,2),(2,1)] 3 hq rfl (zb rfl))) ?_
 case ho=>
  repeat'(first|exact uf|refine kv ⟨_,rfl,?_⟩ ?_|refine yD hX zcr rfl trivial ?_|refine yD hX zcr rfl (by exact hp) ?_|(refine vY ?_;first|exact⟨rfl,.inl ⟨⟨rfl,rfl,rfl,trivial⟩,⟨rfl,rfl,rfl,trivial⟩,rfl,rfl⟩⟩|exact⟨rfl,.inr ⟨⟨rfl,rfl,rfl,trivial⟩,⟨rfl,rfl,rfl,trivial⟩,rfl,rfl⟩⟩))
 (repeat(first|apply zap|apply zaf|apply zaq|apply zan));refine zpA hX zcr cs rfl rfl rfl rfl rfl rfl rfl hG1 hG2 hGl (λh=>h.elim (λ⟨_,_,e⟩=>hinv e) id) rfl trivial ?_;(repeat(first|apply zap|apply zaf|apply zaq|apply zan));refine yK (ι:=Nat) (λk=>⟨[(0,⟨.optr arr8,⟨0,arr8,.here⟩⟩),(4,⟨.optr zhG,⟨1,zhG,.here⟩⟩),(5,⟨.optr arr8,⟨2,arr8,.here⟩⟩),(16,⟨zhG,zf6⟩),(17,⟨i64,(k:Int)⟩)],
  [(0,some (.box arr8 s)),(1,some (.box zhG (zcQ l 64))),(2,some (.box arr8 (zbd (rounds (stOf s) (zcQ l 64) k))))],3⟩) (λk=>k<=64) (λk=>64-k) 0 (by omega) ⟨⟨rfl,rfl,rfl,rfl,rfl,trivial⟩,⟨rfl,rfl,zeP hsw,trivial⟩,rfl,rfl⟩ ?_
 intro k hk;(repeat(first|apply zap|apply zaf|apply zaH|apply zan|apply zaq|refine zac hX zcr rfl trivial ?_|refine zac hX zcr rfl id ?_|refine zac hX zcr rfl ⟨id,id⟩ ?_));refine zae rfl (λhb=>?_) (λhb=>?_)
 .simp at hb;have hnext:zbd (rounds (stOf s) (zcQ l 64) (k+1))=zbd (round (rounds (stOf s) (zcQ l 64) k) (zf6.getD k 0) ((zcQ l 64).getD k 0)):=rfl;generalize rounds (stOf s) (zcQ l 64) k=t at *;generalize zcQ l 64=ws at *;have hrk:zf6.length=64:=rfl;generalize zf6=rk at *;refine zaa (zaa ?_);refine zac hX zcr rfl ?_ ?_
  . (simp only[allP,zc2];(and_intros<;>first|omega|(simp;done)|(simp;omega)))
  (repeat(first|apply zap|apply zaf|apply zaq|apply zan));refine zbF dM hX zcr 34 (by kernel_rfl) rfl rfl ?_ ?_ ?_
  . (simp only[allP,zc2];(and_intros<;>first|omega|(simp;done)|(simp;omega)))
  .trivial
  (repeat(first|apply zap|apply zaf|apply zaq|apply zan));refine zbF dM hX zcr 30 (by kernel_rfl) rfl rfl ?_ ?_ ?_
  . (simp only[allP,zc2];(and_intros<;>first|omega|(simp;done)|(simp;omega)))
  .trivial
  refine zaa (zaa ?_);refine zac hX zcr rfl ?_ ?_
  . (simp only[allP,zc2];(and_intros<;>first|omega|(simp;done)|(simp;omega)))
  refine zaa (zaa ?_);refine zac hX zcr rfl ?_ ?_
  .exact zaP (by omega)
  refine⟨k+1,by omega,by omega,⟨rfl,rfl,rfl,rfl,zce _,trivial⟩,⟨rfl,rfl,zeP ?_,trivial⟩,rfl,rfl⟩;rw[hnext];obtain⟨a,b,c,d,e,f,g,h⟩:=t;simp only[round,znH,zrq];rfl
 .simp at hb;have:k=64:=by omega
  subst this;have hfin:zft (stOf s) l=ztI (stOf s) (rounds (stOf s) (zcQ l 64) 64):=rfl;generalize rounds (stOf s) (zcQ l 64) 64=t at *;generalize zcQ l 64=ws at *;(repeat(first|apply zap|apply zaf|apply zaH|apply zan|apply zaq|refine zac hX zcr rfl trivial ?_|refine zac hX zcr rfl id ?_|refine zac hX zcr rfl ⟨id,id⟩ ?_));refine yK (ι:=Nat) (λk=>⟨[(0,⟨.optr arr8,⟨0,arr8,.here⟩⟩),(5,⟨.optr arr8,⟨2,arr8,.here⟩⟩),(104,⟨i64,(k:Int)⟩)],
   [(0,some (.box arr8 (mixL (zbd t) s k))),(2,some (.box arr8 (zbd t)))],3⟩) (λk=>k<=8) (λk=>8-k) 0 (by omega) ⟨⟨rfl,rfl,rfl,trivial⟩,⟨zeP ?_,rfl,trivial⟩,rfl,rfl⟩ ?_
  .match s,hs with
   | [_,_,_,_,_,_,_,_],_=>rfl
  intro k hk;(repeat(first|apply zap|apply zaf|apply zaH|apply zan|apply zaq|refine zac hX zcr rfl trivial ?_|refine zac hX zcr rfl id ?_|refine zac hX zcr rfl ⟨id,id⟩ ?_));refine zae rfl (λhb=>?_) (λhb=>?_)
  .simp at hb;(repeat(first|apply zap|apply zaf|apply zaH|apply zan|apply zaq|refine zac hX zcr rfl trivial ?_|refine zac hX zcr rfl id ?_|refine zac hX zcr rfl ⟨id,id⟩ ?_));(repeat(first|apply zap|apply zaf|apply zaq|apply zan));refine zbF dM hX zcr 11 (by kernel_rfl) rfl rfl ?_ ?_ ?_
   . (simp only[allP,zc2];(and_intros<;>first|omega|(simp;done)|(simp;omega)))
   . (simp only[allP,zc2];(and_intros<;>first|omega|(simp;done)|(simp;omega)))
   refine zaa (zaa ?_);refine zac hX zcr rfl ?_ ?_
   .exact zaP (by omega)
   refine⟨k+1,by omega,by omega,⟨rfl,rfl,zce _,trivial⟩,⟨zeP ?_,rfl,trivial⟩,rfl,rfl⟩;exact zqh (zbd t) s k (by omega)
  .simp at hb;have:k=8:=by omega
   subst this;(repeat(first|apply zap|apply zaf|apply zaH|apply zan|apply zaq|refine zac hX zcr rfl trivial ?_|refine zac hX zcr rfl id ?_|refine zac hX zcr rfl ⟨id,id⟩ ?_));refine⟨.inl rfl,zeP ?_,by decide,rfl,[],rfl,trivial⟩;show mixL (zbd t) s 8=zbd (zft (stOf s) l);rw[hfin]
   match s,hs with
   | [a,b,c,d,e,f,g,h],_=>
    simp only[mixL,zbd,ztI,stOf,xQ,List.range.loop,List.map,zx];simp
def blk(m:List UInt8)(j:Nat):List UInt8:=(m.drop (64*j)).take 64
def zdw(m:List UInt8):List (List UInt8):=(xQ (m.length/64)).map (blk m)
theorem zlj(A:Option Addr)(n c:Nat)(w:zj):Calls zf 111 #[.slice A n c] w λe w'=>e=.returned (.func (.func 127) #[] #[.pointer (some ⟨w.heap.size,0,none⟩)])/\w'=w.alloc (.cells #[.slice A n c] 53):=by
 go_enter Tryz.func111,Tryz.ntmps111
 go_wp2
 go_ret
 exact⟨rfl,rfl⟩
theorem zbA:KnOk zf (λ_=>True) dK:=⟨zd2,zdu,ue,λ_ _ _ _=>trivial,RsOk.nil⟩
theorem zds(ps:List (List UInt8))(k:Nat)(h:k<ps.length):(ps.take (k+1)).flatten=(ps.take k).flatten++ps.getD k []:=by
 rw[zN h,qb];simp[zx,h]
theorem zg9(ps:List (List UInt8))(k:Nat):(ps.take k).flatten.length<=ps.flatten.length:=by
 rw[<-qx k ps,qb];simp
theorem zha(ps:List (List UInt8))(k:Nat)(h:k<ps.length):(ps.take k).flatten.length+(ps.getD k []).length<=ps.flatten.length:=by
 have:=zg9 ps (k+1);rw[zds _ _ h]at this
 simpa using this
abbrev yLit(l:Nat):V:=⟨.lit,.func (.yield l) #[] #[]⟩
def zrE:Code->Code
 |.seq _ y=>zrE y
 |c=>c
theorem zq2{p:List UInt8}{k:Nat}(hp:p.length%64=0)(hk:64*k<p.length):(zdw p)[k]? =some ((p.drop (64*k)).take 64):=by
 unfold zdw;rw[yB,List.getElem?_range (by omega)];rfl
theorem zj9(l:Nat)(J:Nat->zj->Prop)(W:zj)(p:List UInt8)(hp:p.length%64=0)(hp2:p.length<=2000200)
  (hJ:∀k A C,J k A->xW W.heap.size A C->J k C)
  (hY:∀k x y W1,J k W1->(zdw p)[k]? =some y->W.heap.size<=W1.heap.size->RepD W1 (λg=>g<W.heap.size) bs y x->YieldAt yU 0 zf l #[x] W1 λe W'=>e=.returned (.bool true)/\J (k+1) W'/\KeptFrom W.heap.size W1 W')
  {U:Nat->zi}{a:Act}{w1:zj} (h1:Sim w1 (qJ (λ_=>True) (λh=>h<W.heap.size)) 53 ⟨[(0,yLit l),(3,⟨bs,p⟩)],[],0⟩ U a w1) (hs1:W.heap.size<=w1.heap.size) (hj1:J 0 w1):
  (zrE (fI.body.getD .skip)).wpIn yU 0 zf (λe a w=>e=.normal/\a.defers=[]/\J (zdw p).length w) a w1:=by
 let X:=qJ (λ_=>True) (λh=>h<W.heap.size)
 have hX:∀w:zj,W.heap.size<=w.heap.size->X.Ok w:=λw hw=>⟨λg h=>⟨zF h hw,jW _ _ g⟩,λg h=>(jW _ _ g h).elim,λ_ _=>trivial⟩;have hXR:∀g,¬X.R g:=jW _ _;refine wpIn_block ?_;refine zdB (λk a w=>(∃U,Sim w X 53 ⟨[(0,yLit l),(3,⟨bs,p.drop (64*k)⟩)],[],0⟩ U a w)/\64*k<=p.length/\W.heap.size<=w.heap.size/\J k w) (λk=>p.length-64*k) 0 ⟨⟨U,h1⟩,by omega,hs1,hj1⟩ ?_;rintro k a w ⟨⟨U,h⟩,hk,hs,hj⟩;refine wpIn_seq (zT ((show AWP zf w X 53 _ _ (λe Y=>((e=.exit 6/\¬64*k<p.length)\/(e=.normal/\64*k<p.length))/\Sub Y.F [(0,yLit l),(3,⟨bs,p.drop (64*k)⟩)]/\Y.E=[]) from ?_) U a w h) ?_)
 .have hX:=hX w hs;(repeat(first|apply zap|apply zaf|apply zaH|apply zan|apply zaq|refine zac hX zbA rfl trivial ?_|refine zac hX zbA rfl id ?_|refine zac hX zbA rfl ⟨id,id⟩ ?_));refine zae rfl (λhb=>?_) (λhb=>?_)
  .have hb:decide (((p.drop (64*k)).length:Int)>0)=true:=hb;simp at hb;exact zaf ⟨.inr ⟨rfl,by omega⟩,⟨rfl,rfl,trivial⟩,rfl⟩
  .have hb:decide (((p.drop (64*k)).length:Int)>0)=false:=hb;simp at hb;exact zan ⟨.inl ⟨rfl,by omega⟩,⟨rfl,rfl,trivial⟩,rfl⟩
 rintro e a2 w2 ⟨Y2,U2,h2,he,hF,hE⟩;have hb2:xW w.heap.size w w2:=h2.bel.below hXR;have hj2:J k w2:=hJ k _ _ hj (hb2.mono hs);have hs2:W.heap.size<=w2.heap.size:=zL hs hb2.size;rcases he with ⟨rfl,hge⟩|⟨rfl,hlt⟩
 .have:k=p.length/64:=by omega
  simp only[Exit.then,Exit.inBlock,if_true];refine⟨trivial,h2.df,?_⟩;have hl:(zdw p).length=k:=by simp[zdw,this]
  rw[hl];exact hj2
 have h3:=h2.rebase hE rfl hF rfl;refine wpIn_seq ?_;refine zT (Q:=λe a w=>e=.normal/\(∃U,Sim w X 53 ⟨[(0,yLit l),(3,⟨bs,p.drop (64*k)⟩)],[],0⟩ U a w)/\W.heap.size<=w.heap.size/\J (k+1) w) ?_ ?_
 .refine wpIn_block ?_;refine wpIn_seq ?_;refine zT (Q:=λe a w=>e=.normal/\(∃U,Sim w X 53 ⟨[(52,⟨.bool,false⟩),(0,yLit l),(3,⟨bs,p.drop (64*k)⟩)],[],0⟩ U a w)/\W.heap.size<=w.heap.size/\J (k+1) w) ?_ ?_
  .refine wpIn_region_list ?_;rw[<-qx 3 (Array.toList _)];refine zbr _ _ (zaB (ρ:=none) zbw _ rfl (zdg (K:=dK) zbA (hX w2 hs2) _ h3 rfl ?_ λU4 a4 w4 h4=>⟨rfl,?_⟩))
   .refine⟨by omega,?_⟩;show(64:Int)<=((p.drop (64*k)).length:Int);simp;omega
   have hb4:xW w2.heap.size w2 w4:=h4.bel.below hXR;have hs4:W.heap.size<=w4.heap.size:=zL hs2 hb4.size;refine wpListIn_plain rfl λK hK=>?_;have hr:=h4.ops (.tmp 50);rw[show OSet X _ U4=_ from OSet.nil]at hr;have hy:=hY k _ ((p.drop (64*k)).take 64) w4 (hJ k _ _ hj2 (hb4.mono hs2)) (zq2 hp hlt) hs4 hr;rw[show(#[a4.eval (.tmp 50)]:Array zi)= #[qC 50].map a4.eval from by simp]at hy;refine zhI rfl (h4.ops (.tmp 48)) (YieldAt.any hy) ?_;rintro e w5 ⟨rfl,hj5,hk5⟩;refine⟨_,rfl,hK _ _ ?_⟩;have h5:=Sim.round (B:=W.heap.size) (F':=[(0,yLit l),(3,⟨bs,p.drop (64*k)⟩)]) h4 rfl (λg hg=>hg) rfl hk5 ⟨rfl,rfl,trivial⟩ rfl;have h6:=h5.put (zY _ _) (v:=⟨.bool,true⟩) (u:=.bool true) RepV.ofBool (zk _) (d:=51) (by omega);have hs5:W.heap.size<=w5.heap.size:=zL hs4 hk5.size;refine zaB (ρ:=none) zbw _ rfl (zdg (K:=dK) zbA (hX w5 hs5) _ h6 rfl trivial λU7 a7 w7 h7=>⟨rfl,?_⟩);have hb7:xW w5.heap.size w5 w7:=h7.bel.below hXR;exact⟨⟨U7,h7.rebase rfl rfl ⟨rfl,rfl,rfl,trivial⟩ rfl⟩,zL hs5 hb7.size,hJ _ _ _ hj5 (hb7.mono hs5)⟩
  .rintro e a8 w8 ⟨rfl,⟨U8,h8⟩,hs8,hj8⟩;refine zT ((show AWP zf w8 X 53 _ _ (λe Y=>e=.normal/\Sub Y.F [(0,yLit l),(3,⟨bs,p.drop (64*k)⟩)]/\Y.E=[]) from ?_) U8 a8 w8 h8) ?_
   .refine zae rfl (λhb=>by cases hb) (λ_=>zaf ⟨rfl,⟨rfl,rfl,trivial⟩,rfl⟩)
   .rintro e a9 w9 ⟨Y9,U9,h9,rfl,hF9,hE9⟩;have hb9:xW w8.heap.size w8 w9:=h9.bel.below hXR;exact⟨rfl,⟨U9,h9.rebase hE9 rfl hF9 rfl⟩,zL hs8 hb9.size,hJ _ _ _ hj8 (hb9.mono hs8)⟩
 .rintro e a8 w8 ⟨rfl,⟨U8,h8⟩,hs8,hj8⟩;refine zT ((show AWP zf w8 X 53 _ _ (λe Y=>e=.normal/\Sub Y.F [(0,yLit l),(3,⟨bs,p.drop (64*(k+1))⟩)]/\Y.E=[]) from ?_) U8 a8 w8 h8) ?_
  .have hX:=hX w8 hs8;refine zaa (zaa ?_);refine zac hX zbA rfl ?_ ?_
   .refine⟨by omega,?_⟩;show(64:Int)<=((p.drop (64*k)).length:Int);simp;omega
   refine⟨rfl,⟨rfl,V.congr ?_,trivial⟩,rfl⟩;show(p.drop (64*k)).drop 64=p.drop (64*(k+1));rw[List.drop_drop]
   congr 1
  .rintro e a9 w9 ⟨Y9,U9,h9,rfl,hF9,hE9⟩;have hb9:xW w8.heap.size w8 w9:=h9.bel.below hXR;exact⟨k+1,by omega,⟨U9,h9.rebase hE9 rfl hF9 rfl⟩,by omega,zL hs8 hb9.size,hJ _ _ _ hj8 (hb9.mono hs8)⟩
set_option maxHeartbeats 400000 in
theorem zlk(g:Nat)(parts:List (List UInt8))(v:zi)(w:zj)(m:Nat)(hg:w.heap[g]? =some (.cells #[v] 53 (0,0)))(hv:RepD w (λ_=>False) (.slice bs) parts v)(hlen:parts.flatten.length<=2000000):
  zrX zf m 127 #[.pointer (some ⟨g,0,none⟩)] bs (zdw (pad parts.flatten)) w:=by
 intro l J W hW hJ hY h0;refine callsIn_of_wp Tryz.func127 rfl trivial ?_ rfl;have hgl:g<w.heap.size:=(zv.1 hg).1;have hgW:W.heap[g]? =some (.cells #[v] 53 (0,0)):=(hW.block g hgl).trans hg;have hvW:RepD W (λ_=>False) (.slice bs) parts v:=hv.keep (.of_below hW λ_ _ h=>h)
 let X:=qJ (λ_=>True) (λ_=>False)
 have hX:X.Ok W:=⟨λg h=>False.elim h,λg h=>(jW _ _ g h).elim,λ_ _=>trivial⟩;have hsim:Sim W X 53 ⟨[(0,yLit l),(1,⟨.vptr (.slice bs),parts⟩)],[],0⟩ (λ_=>undef)
   { tmps:=(#[.func (.yield l) #[] #[]]++ #[.pointer (some ⟨g,0,none⟩)])++zG (fI.ntmps-(#[.func (.yield l) #[] #[]]++ #[.pointer (some ⟨g,0,none⟩)]:Array zi).size) undef,defers:=[] } W:=by
  refine Sim.fresh rfl (by simp[Tryz.ntmps127]) rfl (zcn (by rw[ziP (by simp)];rfl) (zcn ⟨g,0,[v],by rw[ziP (by simp)];rfl,zF hgl hW.size,λh=>h,(RepD.scalar rfl).1 hvW,?_⟩ ziv)) rfl;intro j u hu
  match j,hu with
  |0,hu=>
   cases hu;unfold qd;rw[hgW];rfl
  |j+1,hu=>simp at hu
 suffices h:RWP zf W X 53 (fI.body.getD .skip) ⟨[(0,yLit l),(1,⟨.vptr (.slice bs),parts⟩)],[],0⟩ (bodyPost zf fI λe W'=>(∃v,e=.returned v)/\J (zdw (pad parts.flatten)).length W') from
  (wpIn_wide (n:=m)).2 ((wpIn_wide (n:=0)).1 (h _ _ _ hsim))
 refine gO ?_;refine zaa (zaa ?_);refine zac hX zbA rfl ?_ ?_
 .trivial
 refine gO ?_;refine zeB hX 3 5 u8 rfl rfl rfl ?_;(repeat(first|apply zap|apply zaf|apply zaH|apply zan|apply zaq|refine zac hX zbA rfl trivial ?_|refine zac hX zbA rfl id ?_|refine zac hX zbA rfl ⟨id,id⟩ ?_));refine yK (ι:=Nat) (λk=>⟨[(0,yLit l),(3,⟨.obuf u8,(0:Nat)⟩),(8,⟨.slice bs,parts⟩),(9,⟨i64,(parts.length:Int)⟩),(10,⟨i64,(k:Int)⟩)],[(0,some (.buf 5 u8 (parts.take k).flatten))],1⟩) (λk=>k<=parts.length) (λk=>parts.length-k) 0 (by omega) ⟨⟨rfl,rfl,rfl,rfl,rfl,trivial⟩,⟨rfl,trivial⟩,rfl,rfl⟩ ?_;intro k hk;(repeat(first|apply zap|apply zaf|apply zaH|apply zan|apply zaq|refine zac hX zbA rfl trivial ?_|refine zac hX zbA rfl id ?_|refine zac hX zbA rfl ⟨id,id⟩ ?_));refine AWP.len 8 rfl λhml=>?_;unfold maxLen at hml;refine zae rfl (λhb=>?_) (λhb=>?_)
 .simp at hb;refine zaa (zaa ?_);refine zac hX zbA rfl ?_ ?_
  . (simp only[allP,zc2];(and_intros<;>first|omega|(simp;done)|(simp;omega)))
  refine zaa (zaa ?_);refine zac hX zbA rfl ?_ ?_
  .have:=zha parts k hb;show zp (parts.take k).flatten+zp (parts.getD (k:Int).toNat [])<=1000000000;simp only[zS];omega
  refine zaa (zaa ?_);refine zac hX zbA rfl ?_ ?_
  .exact zaP (by omega)
  refine⟨k+1,by omega,by omega,⟨rfl,rfl,rfl,rfl,zce _,trivial⟩,⟨zbp ?_,trivial⟩,rfl,rfl⟩;rw[zds _ _ hb];rfl
 simp at hb;have:k=parts.length:=by omega
 subst this;rw[yX];generalize parts.flatten=msg at *;(repeat(first|apply zap|apply zaf|apply zaH|apply zan|apply zaq|refine zac hX zbA rfl trivial ?_|refine zac hX zbA rfl id ?_|refine zac hX zbA rfl ⟨id,id⟩ ?_));refine gO ?_;refine zaa (zaa ?_);refine zac hX zbA rfl ?_ ?_
 .trivial
 refine gO ?_;refine zaa (zaa ?_);refine zac hX zbA rfl ?_ ?_
 .show zp msg+zp [(128:UInt8)]<=1000000000;simp;omega
 have hz:zbq msg.length<64:=by unfold zbq;omega
 refine gO ?_;(repeat(first|apply zap|apply zaf|apply zaH|apply zan|apply zaq|refine zac hX zbA rfl trivial ?_|refine zac hX zbA rfl id ?_|refine zac hX zbA rfl ⟨id,id⟩ ?_));refine yK (ι:=Nat) (λk=>⟨[(0,yLit l),(3,⟨.obuf u8,(0:Nat)⟩),(6,⟨.int .u64,zW 64 8*zV 64 (msg.length:Int)⟩)],[(0,some (.buf 5 u8 (msg++[0x80]++zg k 0)))],5⟩) (λk=>k<=zbq msg.length) (λk=>zbq msg.length-k) 0 (by omega) ⟨⟨rfl,rfl,rfl,trivial⟩,⟨zbp (by simp),trivial⟩,rfl,rfl⟩ ?_;intro k hk;refine zaa (zaa ?_);refine zac hX zbA rfl ?_ ?_
 . (simp only[allP,zc2];(and_intros<;>first|omega|(simp;done)|(simp;omega)))
 have hlen2:(msg++[0x80]++zg k 0).length=msg.length+1+k:=by simp;omega
 refine zae rfl (λhb=>?_) (λhb=>?_)
 .have hb:(((msg++[0x80]++zg k 0).length:Int).tmod 64 != 56)=true:=hb;rw[zro,hlen2]at hb;simp at hb;have hlt:k<zbq msg.length:=by
   rcases Nat.lt_or_ge k (zbq msg.length) with h|h
   .exact h
   .exfalso;apply hb;have:k=zbq msg.length:=by omega
    rw[this];unfold zbq;omega
  refine zaa (zaa ?_);refine zac hX zbA rfl ?_ ?_
  .show zp (msg++[0x80]++zg k 0)+zp [(0:UInt8)]<=1000000000;rw[hlen2];simp;omega
  refine⟨k+1,by omega,by omega,⟨rfl,rfl,rfl,trivial⟩,⟨zbp ?_,trivial⟩,rfl,rfl⟩;show msg++[0x80]++zg k 0++[0]=_;rw[List.replicate_succ',zB]
 have hb:(((msg++[0x80]++zg k 0).length:Int).tmod 64 != 56)=false:=hb;rw[zro,hlen2]at hb;simp at hb;have:k=zbq msg.length:=by unfold zbq at *;omega
 subst this;(repeat(first|apply zap|apply zaf|apply zaH|apply zan|apply zaq|refine zac hX zbA rfl trivial ?_|refine zac hX zbA rfl id ?_|refine zac hX zbA rfl ⟨id,id⟩ ?_));refine gO ?_;(repeat(first|apply zap|apply zaf|apply zaH|apply zan|apply zaq|refine zac hX zbA rfl trivial ?_|refine zac hX zbA rfl id ?_|refine zac hX zbA rfl ⟨id,id⟩ ?_));refine yK (ι:=Nat) (λj=>⟨[(0,yLit l),(3,⟨.obuf u8,(0:Nat)⟩),(6,⟨.int .u64,zW 64 8*zV 64 (msg.length:Int)⟩),(7,⟨i64,(8*(7-(j:Int)):Int)⟩)],[(0,some (.buf 5 u8 (msg++[0x80]++zg (zbq msg.length) 0++(be64 msg.length).take j)))],6⟩) (λj=>j<=8) (λj=>8-j) 0 (by omega) ⟨⟨rfl,rfl,rfl,rfl,trivial⟩,⟨zbp (by simp),trivial⟩,rfl,rfl⟩ ?_;intro j hj;refine zaa (zaa ?_);refine zac hX zbA rfl ?_ ?_
 .trivial
 refine zae rfl (λhb=>?_) (λhb=>?_)
 .simp at hb;refine zaa (zaa ?_);refine zac hX zbA rfl ?_ ?_
  .refine⟨by show 0<=8*(7-(j:Int));omega,?_⟩;show zp (msg++[0x80]++zg (zbq msg.length) 0++(be64 msg.length).take j)+zp [_]<=1000000000;simp;omega
  refine zaa (zaa ?_);refine zac hX zbA rfl ?_ ?_
  .exact zah (by show _<=8*(7-(j:Int))-8;omega) (by show 8*(7-(j:Int))-8<=_;omega)
  refine⟨j+1,by omega,by omega,⟨rfl,rfl,rfl,V.congr (show(8*(7-(j:Int))-8:Int)=8*(7-((j+1:Nat):Int)) by omega),trivial⟩,⟨zbp ?_,trivial⟩,rfl,rfl⟩;rw[zpp _ _ (by omega), <-zkr _ _ hlen (by omega), <-zB];rw[show(((7-j:Nat)):Int)=7-(j:Int) by omega];rfl
 simp at hb;have:j=8:=by omega
 subst this;(repeat(first|apply zap|apply zaf|apply zaH|apply zan|apply zaq|refine zac hX zbA rfl trivial ?_|refine zac hX zbA rfl id ?_|refine zac hX zbA rfl ⟨id,id⟩ ?_));intro U a w1 h1;have hXR:∀g,¬X.R g:=jW _ _;have hb1:xW W.heap.size W w1:=h1.bel.below hXR;have ho:=h1.own 0 _ rfl;have hn:=λg=>h1.new 0 _ g rfl;have h3:a.tmps.getD 3 undef=U 0:=h1.fr 3;have h0':a.tmps.getD 0 undef=.func (.yield l) #[] #[]:=h1.fr 0;have hpl:pad msg=msg++[0x80]++zg (zbq msg.length) 0++(be64 msg.length).take 8:=rfl;have hpl2:(pad msg).length<=2000200:=by simp[pad,be64,zbq];omega
 rw[<-hpl]at ho;have h2:Sim w1 (qJ (λ_=>True) (λh=>h<W.heap.size)) 53 ⟨[(0,yLit l),(3,⟨bs,pad msg⟩)],[],0⟩ U a w1:=by
  refine Sim.fresh rfl h1.sz h1.df (zcn h0' (zcn ?_ ziv)) rfl;rw[h3];refine zbG (OwnRep.view (O:=λ_=>True) (OwnRep.flat rfl ho) (λ_ _ _=>trivial) λg hg hlt=>?_);rcases hn g hg with h|h
  .have:g<W.heap.size:=hlt;omega
  .exact hXR g h
 refine zT (zj9 l J W (pad msg) (zhY msg) hpl2 hJ (λk x y W1 hj hy hs hr=>YieldAt.any (hY k x y W1 hj hy hs hr)) h2 hb1.size (hJ 0 _ _ h0 hb1)) ?_;rintro e a' w' ⟨rfl,hd,hj⟩;exact⟨hd,_,results_none rfl _ _ _,⟨_,rfl⟩,hj⟩
theorem zq1{p y:List UInt8}{k:Nat}(h:(zdw p)[k]? =some y):64*k<p.length/\y=(p.drop (64*k)).take 64/\(p.length%64=0->y.length=64):=by
 unfold zdw at h;rw[yB,Option.map_eq_some_iff]at h;obtain⟨j,hj,rfl⟩:=h;rw[xB]at hj;obtain⟨h1,h2⟩:=hj;simp at h1 h2;subst h2;refine⟨by omega,rfl,λh=>?_⟩;unfold blk;simp;omega
def znU(a:Act)(x:zi):Act:={ tmps:=((#[10]:Array Tmp).zip #[x]).foldl (λt(p,v)=>t.setIfInBounds p v) a.tmps,defers:=[] }
def rAct(a:Act)(x:zi):Act:=(znU a x).put (some 4) ((znU a x).eval (.tmp 10))
theorem zcO(a:Act)(x:zi):(znU a x).tmps=a.tmps.setIfInBounds 10 x:=by simp[znU]
def zvm:Ctr:={ args:=[.slice bs],pre:=λx=>[(xP x.1).length<=2000000],res:=dg,own:=none,out:=λx=>sha (xP x.1) }
def seqR:Code->Code
 |.seq _ y=>y
 |c=>c
theorem zoK(m:List UInt8)(t:St)(x0:sha m=zfq t){W:zj}{X:Ownr}(hX:X.Ok W)(hK:KnOk zf X.G dK)(x1:X.K=2):
  AWP zf W X 30 (seqR (seqR (seqR (wZ.body.getD .skip)))) ⟨[(2,⟨.optr dg,⟨0,dg,.here⟩⟩),(3,⟨.optr arr8,⟨1,arr8,.here⟩⟩)],[(0,some (.box dg (zg 32 (0:UInt8)))),(1,some (.box arr8 (zbd t)))],2⟩
   (λe Y=>(e=.normal\/e=.ret)/\Done dK.T wZ.results.toList Y none dg (sha m)):=by
 apply zap;refine zaa (zaa (zab hK ?_));(repeat refine zaa (zaa (zab hK ?_)));refine zaa ?_;refine yK (ι:=Nat) (λi=>⟨[(2,⟨.optr dg,⟨0,dg,.here⟩⟩),(3,⟨.optr arr8,⟨1,arr8,.here⟩⟩),(5,⟨.optr dg,⟨2,dg,.here⟩⟩),(13,⟨i64,(i:Int)⟩)],[(0,some (.box dg (zg 32 (0:UInt8)))),(1,some (.box arr8 (zbd t))),(2,some (.box dg (digL t i)))],3⟩) (λi=>i<=32) (λi=>32-i) 0 o_ ⟨⟨rfl,rfl,rfl,rfl,t_⟩,⟨rfl,rfl,zeP rfl,t_⟩,rfl,rfl⟩ ?_ (λ_=>by rw[x1];exact zb rfl);intro i hi;(repeat refine zaa (zaa (zab hK ?_)));refine zaa ?_;refine zae rfl (λhb=>?_) (λhb=>?_)
 .simp at hb;have e4:((i:Int)).tdiv 4=((i/4:Nat):Int):=rfl;have r4:((i:Int)).tmod 4=((i%4:Nat):Int):=rfl;(repeat(first|apply zap|apply zaf|apply zaH|apply zan|apply zaq|refine zac hX hK rfl t_ ?_|refine zac hX hK rfl id ?_|refine zac hX hK rfl ⟨id,id⟩ ?_));refine zaa (zaa ?_);refine zac hX hK rfl ?_ ?_
  .simp only[allP,zc2,e4,r4]
   and_intros<;>first|omega|(simp;done)|(simp;omega)
  refine zaa (zaa ?_);refine zac hX hK rfl ?_ ?_
  .exact zaP o_
  refine⟨i+1,by omega,by omega,⟨rfl,rfl,rfl,zce _,t_⟩,⟨rfl,rfl,zeP ?_,t_⟩,rfl,rfl⟩;rw[<-zqM t i o_];show List.set (digL t i) (i:Int).toNat (zM (BitVec.toNat ((zx (zbd t) (((i:Int)).tdiv 4).toNat 0) >>> (24-8*((i:Int)).tmod 4).toNat)))=_;rw[e4,r4];unfold zex lo8
  congr 4
  omega
 .simp at hb;have:i=32:=o_;subst this;(repeat refine zaa (zaa (zab hK ?_)));refine zaa ?_;refine zC ⟨.inr rfl,D1 ?_⟩;rw[x0];simp[digL,zfq]
set_option maxHeartbeats 400000 in
theorem zs8:yQ zf dG 85 zvm:=by
 refine⟨Tryz.call85,λw O xs vs hO hrep hp hG=>?_⟩;obtain⟨(parts:List (List UInt8)),_⟩:=xs;have hp:parts.flatten.length<=2000000:=hp;obtain⟨v,_,rfl,hv,rfl⟩:=hrep;have hv:RepD w O (.slice bs) parts v:=hv
 let X:=qJ dG O
 have hXR:∀g,¬X.R g:=jW _ _;have hX:X.Ok w:=⟨λg h=>⟨hO g h,hXR g⟩,λg h=>(hXR g h).elim,λw' hk=>zfr _ _ hG (hk.below hXR)⟩;refine(callsIn_wide (n:=0)).1 (callsIn_of_wp_marks Tryz.func85 rfl t_ ?_ rfl);have hsim:Sim w X 30 ⟨[(0,⟨.slice bs,parts⟩)],[],0⟩ (λ_=>undef) { tmps:=[v].toArray++zG (wZ.ntmps - [v].toArray.size) undef,defers:=[] } w:=by
  refine Sim.fresh rfl (by simp[Tryz.ntmps85]) rfl (zcn ?_ ziv) rfl;rw[ziP (by simp)];exact zbG hv
 suffices h:RWP zf w X 30 (wZ.body.getD .skip) ⟨[(0,⟨.slice bs,parts⟩)],[],0⟩ (bodyPostM yU 0 zf wZ λe w'=>∃v,e=.returned v/\xW w.heap.size w w'/\zcd w' O w.heap.size none dg (sha parts.flatten) v) from h _ _ _ hsim
 iterate 2 (refine gO ?_;refine zaa (zaa (zab zam ?_)))
 intro U a w1 h1
 replace h1:=h1.fit (Y':=⟨[(0,⟨.slice bs,parts⟩),(2,⟨.optr dg,⟨0,dg,.here⟩⟩),(3,⟨.optr arr8,⟨1,arr8,.here⟩⟩)],[(0,some (.box dg (zg 32 (0:UInt8)))),(1,some (.box arr8 (zbd st0)))],2⟩) ⟨⟨rfl,rfl,rfl,t_⟩,⟨rfl,rfl,t_⟩,rfl,rfl⟩ (zk _)
 refine wpIn_seq (wpIn_seq ?_);have hb1:xW w.heap.size w w1:=h1.bel.below hXR;obtain⟨g1,cs1,ty1,hβ1,_,hg1,hr1⟩:=h1.own 1 _ rfl;obtain⟨g0,cs0,ty0,hβ0,_,hg0,_⟩:=h1.own 0 _ rfl;have hn1:w.heap.size<=g1:=(h1.new 1 _ g1 rfl (by rw[hβ1];rfl)).resolve_right (hXR g1);have hn0:=(h1.new 0 _ g0 rfl (by rw[hβ0];rfl)).resolve_right (hXR g0);have hne:g0≠g1:=λe=>h1.inj 0 1 _ _ rfl rfl d_ g0 (by rw[hβ0];rfl) (by rw[hβ1,e];rfl);have hl1:=(zv.1 hg1).1;have hl0:g0<w1.heap.size:=(zv.1 hg0).1;have hs0:RepV w1 (OSet X _ U) U (.slice bs) parts (a.tmps.getD 0 undef):=h1.fr 0;obtain⟨A,c,hsl,_,_⟩:=(RepV.slice hs0).nlen;have h2:=h1.put (zY _ _) (v:=⟨.slice bs,parts⟩) (d:=8) hs0 (zk _) o_;refine zT (Q:=λe a' w'=>e=.normal/\a'=(a.put (some 8) (a.tmps.getD 0 undef)).put (some 9) (.func (.func 127) #[] #[.pointer (some ⟨w1.heap.size,0,none⟩)])/\w'=w1.alloc (.cells #[a.tmps.getD 0 undef] 53)) ?_ ?_
 .refine wpIn_region_list ?_;refine zdA (ρ:=none) (.inl rfl) rfl ?_;refine wpListIn_plain rfl λK hK=>za2 (ρ:=none) (λc e=>by cases e) (zel (f:=111) rfl Tryz.call111 ?_);have harg:(a.put (some 8) (a.tmps.getD 0 undef)).eval (.tmp 8)=a.tmps.getD 0 undef:=by
   show(a.put (some 8) (a.tmps.getD 0 undef)).tmps.getD 8 undef=_;rw[qq (by rw[h1.sz];omega),if_pos rfl]
  have hargs:((#[qC 8].toList.map (a.put (some 8) (a.tmps.getD 0 undef)).eval).toArray:Array zi)= #[.slice A parts.length c]:=by
   show #[(a.put (some 8) (a.tmps.getD 0 undef)).eval (.tmp 8)]=_;rw[harg,hsl]
  show Calls _ _ ((#[qC 8].toList.map (a.put (some 8) (a.tmps.getD 0 undef)).eval).toArray) _ _;rw[hargs];refine(zlj A parts.length c w1).mono ?_;rintro e w' ⟨rfl,rfl⟩;exact⟨_,rfl,hK _ _ ⟨rfl,rfl,by rw[hsl]⟩⟩
 rintro e a3 w3 ⟨rfl,ha3,hw3⟩;have hb3:xW w1.heap.size w1 w3:=by rw[hw3];exact za8 _ _
 have h3:=h2.put hb3 (v:=⟨.junk,()⟩) (u:=.func (.func 127) #[] #[.pointer (some ⟨w1.heap.size,0,none⟩)]) t_ (zk _) (d:=9) o_;rw[show a.put (some 8) (a.tmps.getD 0 undef)=a.put (some 8) (a.tmps.getD 0 undef) from rfl, <-ha3]at h3;have hgf:a3.tmps.getD 9 undef=.func (.func 127) #[] #[.pointer (some ⟨w1.heap.size,0,none⟩)]:=by
  rw[ha3,qq (by rw[jm,h1.sz];omega),if_pos rfl]
 have hg3:w3.heap[w1.heap.size]? =some (.cells #[a.tmps.getD 0 undef] 53 (0,0)):=by rw[hw3];exact xK _ _
 have hv3:RepD w3 (λ_=>False) (.slice bs) parts (a.tmps.getD 0 undef):=RepD.keep (w:=w1) (O:=OSet X _ U) (.of_below hb3 λg _ h=>h.elim) hs0;have hk3:w3.heap[g1]? =some (.cells cs1.toArray ty1 (0,0)):=(hb3.block g1 hl1).trans hg1;have hl13:g1<w3.heap.size:=zF hl1 hb3.size;have hG3:dG w3:=zfr _ _ hG (hb1.trans (hb3.mono hb1.size));refine wpIn_block ?_;obtain⟨p,hpd⟩:∃p,pad parts.flatten=p:=⟨_,rfl⟩;have hpm:p.length%64=0:=hpd▸zhY _;refine wpIn_wide.2 (zkk (n:=2) (w0:=w3) (t:=bs) (x3:=zdw p) hgf Tryz.call127 (hpd▸zlk w1.heap.size parts _ w3 _ hg3 hv3 hp) (zY _ _)
  (λk W=>∃cs ty,W.heap[g1]? =some (.cells (List.toArray cs) ty (0,0))/\RepC W (λ_=>True) arr8 (zbd (zcK p k)) cs/\Kept (λh=>h=g1) w3 W) ?_ ⟨cs1,ty1,hk3,zbB arr8 rfl _ _ hr1,jw _ _⟩
  (λx=>rAct a3 x) ?_ ?_ ?_)
 .rintro k A C ⟨cs,ty,hi1,hi2,hi3⟩ hb;exact⟨cs,ty,(hb.block g1 hl13).trans hi1,zbB arr8 rfl _ _ hi2,hb.os.trans hi3.os,hb.tape.trans hi3.tape,hb.output.trans hi3.output,zL hi3.size hb.size,λj hj hne=>(hb.block j hj).trans (hi3.block j hj hne)⟩
 .intro l x W K hK;refine wpIn_region_list ?_;exact zdA (ρ:=some l) (.inr rfl) rfl hK
 .rintro l k x y W ⟨cs,ty,hi1,hi2,hi3⟩ hy hsz hx;obtain⟨hk,hye,hyl⟩:=zq1 hy;refine wpIn_block ?_;refine zT (Q:=λe a' w'=>e=.normal/\KeptFrom w3.heap.size W w'/\∃cs ty,w'.heap[g1]? =some (.cells (List.toArray cs) ty (0,0))/\RepC w' (λ_=>True) arr8 (zbd (zcK p (k+1))) cs/\Kept (λh=>h=g1) w3 w') ?_ (λe a' w'⟨he,h⟩=>by subst he;exact⟨rfl,h⟩);refine wpIn_region_list ?_;refine zdA (ρ:=some l) (.inl rfl) rfl ?_;refine wpListIn_plain rfl λK hK=>za2 (ρ:=some l) (λc e=>by cases e) (zel (f:=112) rfl zrV.1 ?_);have hsz3:=h3.sz;have e3:a3.tmps.getD 3 undef=.pointer (some ⟨g1,0,none⟩):=by
   obtain⟨g,hq1,hq2⟩:RepV w3 _ U (.optr arr8) ⟨1,arr8,.here⟩ (a3.tmps.getD 3 undef):=h3.fr 3;rw[hβ1]at hq1;cases hq1;exact hq2
  generalize hact:(Act.put _ (some 11) _:Act)=act;have hargs:(#[qC 3,qC 11].toList.map act.eval).toArray=(zz (some ⟨g1,0,none⟩):: [x]).toArray:=by
   have q1:act.eval (.tmp 3)=.pointer (some ⟨g1,0,none⟩):=by
    rw[<-e3, <-hact];show Array.getD _ 3 undef=_;rw[qq (by rw[rAct,jm,zcO];simp[hsz3]),if_neg d_,rAct,qq (by rw[zcO];simp[hsz3]),if_neg d_,zcO];simp[yA,qz]
   have q2:act.eval (.tmp 11)=x:=by
    rw[<-hact];show Array.getD _ 11 undef=_;rw[qq (by rw[rAct,jm,zcO];simp[hsz3]),if_pos rfl];show(rAct a3 x).tmps.getD 4 undef=_;rw[rAct,qq (by rw[zcO];simp[hsz3]),if_pos rfl];show(znU a3 x).tmps.getD 10 undef=_;rw[zcO];simp[yA,qz,hsz3]
   show #[act.eval (.tmp 3),act.eval (.tmp 11)]=_;rw[q1,q2]
  have hcall:=zrV.2 W (λ_=>False) g1 cs ty (zbd (zcK p k)) (y,()) [x] (λh hh=>hh.elim) hi1 (zbB arr8 rfl _ _ hi2)
   ⟨x,[],rfl,hx.keep ⟨zu _,λ_ _ _=>rfl,λg _ hg=>(hg:False\/g=g1).elim (λh=>h.elim) λh=>(by omega:g<w3.heap.size+2)⟩,rfl⟩ (hyl hpm) (by have:=hG.1;show g1≠_;omega) (zfU (R:=λh=>h=g1) (by have:=hG.1;omega) hG3 hi3)
  rw[hargs];refine hcall.mono ?_;rintro e w' ⟨v',cs',ty',rfl,hk',hc',hr',_⟩;refine⟨_,rfl,hK _ _ ⟨rfl,⟨hk'.os,hk'.tape,hk'.output,hk'.size,λj hj hjl=>hk'.block j hjl o_⟩,cs',ty',hc',?_,?_⟩⟩
  .have:zbd (zft (stOf (zbd (zcK p k))) y)=zbd (zcK p (k+1)):=by rw[zmF,hye];rfl
   rw[<-this];exact zbB arr8 rfl _ _ hr'
  .exact⟨hk'.os.trans hi3.os,hk'.tape.trans hi3.tape,hk'.output.trans hi3.output,zL hi3.size hk'.size,λj hj hne=>(hk'.block j (zF hj hi3.size) hne).trans (hi3.block j hj hne)⟩
 .rintro W ⟨cs,ty,hi1,hi2,hi3⟩ hdef;have hn:(zdw p).length=p.length/64:=by simp[zdw]
  rw[hn]at hi2;have hfin:sha parts.flatten=zfq (zcK p (p.length/64)):=by rw[sha,hpd]
  generalize zcK p (p.length/64)=t at *;have h4:=h3.write (i:=1) (w':=W) (o':=.box arr8 (zbd t)) rfl ⟨hi3.os,hi3.tape,hi3.output,hi3.size,λj hj hne=>hi3.block j hj (λe=>hne (by rw[hβ1,e];rfl))⟩ (λ_=>⟨g1,cs,ty,hβ1,zk _,hi1,zbB arr8 rfl _ _ hi2⟩) rfl;have h5:=h4.anchor (λi=>if i=0 then g0 else g1) (λi hi=>by
   rcases (show i=0\/i=1 by have:i<2:=hi;omega) with rfl|rfl
   .exact⟨by rw[hβ0];rfl,λo ho=>by cases ho;rfl⟩
   .exact⟨by rw[hβ1];rfl,λo ho=>by cases ho;rfl⟩) [{ target:=.collected w3.heap.size,args:=#[] }]
  generalize hX5:({ X with K:=_,fix:=_,D:=_ }:Ownr)=X5 at h5;have hR5:∀g,X5.R g->g=g0\/g=g1:=by
   rintro g (⟨i,hi,hf⟩|hB)
   .rw[<-hX5]at hi hf;rcases (show i=0\/i=1 by have:i<2:=hi;omega) with rfl|rfl
    .exact .inl hf.symm
    .exact .inr hf.symm
   .rw[<-hX5]at hB;exact False.elim hB
  have hl3W:w3.heap.size<=W.heap.size:=hi3.size;have hl01:g0<W.heap.size/\g1<W.heap.size:=⟨by have:=hb3.size;omega,by omega⟩;have hGW:dG W:=zfU (R:=λh=>h=g1) (by have:=hG.1;omega) hG3 hi3;have hX5ok:X5.Ok W:=by
   refine⟨λg hg=>?_,λg hg=>?_,λw' hk=>?_⟩
   .have hg:O g:=by rw[<-hX5]at hg;exact hg
    have:=hO g hg;exact⟨by omega,λhr=>by rcases hR5 g hr with h|h<;>omega⟩
   .rcases hR5 g hg with h|h<;>omega
   .have:dG w':=zfU (R:=X5.R) (λhr=>by have:=hG.1;rcases hR5 _ hr with h|h<;>omega) hGW hk;rw[<-hX5];exact this
  have hK5:KnOk zf X5.G dK:=by rw[<-hX5];exact zam
  have hρ:X5.ρ=none:=by rw[<-hX5];rfl
  have hK2:X5.K=2:=by rw[<-hX5]
  have h5':=h5.fit (Y':=⟨[(2,⟨.optr dg,⟨0,dg,.here⟩⟩),(3,⟨.optr arr8,⟨1,arr8,.here⟩⟩)],[(0,some (.box dg (zg 32 (0:UInt8)))),(1,some (.box arr8 (zbd t)))],2⟩) ⟨⟨rfl,rfl,t_⟩,⟨rfl,rfl,t_⟩,rfl,rfl⟩ (by rw[hK2];exact zu _);show Code.wpIn (zcP none) 0 zf (seqR (seqR (seqR (wZ.body.getD .skip)))) _ _ W;rw[show a3.defers=[] from h3.df];have h6:=zoK parts.flatten t hfin hX5ok hK5 hK2 U _ W h5';rw[hρ]at h6;refine zT h6 ?_;rintro e a6 w6 ⟨Y6,U6,h6,he,hdone⟩;have hdef6:w6.heap[w3.heap.size]? =some (.deferred (some [])):=by
   have hlt:=(zv.1 hdef).1;rw[h6.bel.block _ hlt (λhr=>by have:=hb3.size;rcases hR5 _ hr with h|h<;>omega)];exact hdef
  have hbel:xW w.heap.size w (w6.putObj w3.heap.size (.deferred none)):=by
   have q1:=hb1.trans (hb3.mono hb1.size);have q2:xW w.heap.size w3 W:=⟨hi3.os,hi3.tape,hi3.output,hi3.size,λj hj=>hi3.block j (zF hj q1.size) o_⟩;have q3:xW w.heap.size W w6:=⟨h6.bel.os,h6.bel.tape,h6.bel.output,h6.bel.size,λj hj=>h6.bel.block j (by have:=q1.size;omega) λhr=>by rcases hR5 _ hr with h|h<;>omega⟩;exact((q1.trans q2).trans q3).trans (zcu hdef6 q1.size)
  have hfinal:LeavesInM yU 0 zf wZ a6.tmps (λe w'=>∃v,e=.returned v/\xW w.heap.size w w'/\zcd w' O w.heap.size none dg (sha parts.flatten) v) a6.defers .returning w6:=
   zkK hK5 hX5ok h6 (by rw[<-hX5]) hdef6 hdone (.inl rfl) λv hv=>⟨v,rfl,hbel,λU=>ze3 (t:=dg) rfl (hv.resolve_left (by intro h;cases h) U)⟩
  rcases he with rfl|rfl
  .exact hfinal
  .exact hfinal
def kH:Kn:={ dK with C:=[(85,zvm)] }
theorem zdO:KnOk zf dG kH:=zam.with (fH zs8 ue)
def cSum:Ctr:={ args:=[bs],pre:=λx=>[zp x.1<=2000000],res:=dg,own:=none,out:=λx=>sha x.1 }
theorem zub:yQ zf dG 64 cSum:=by
 refine ctr2 zdO Tryz.func64 Tryz.call64 ?_;rintro w0 X hX ⟨(l:List UInt8),_⟩ hp;change AWP _ _ _ _ _ ⟨[(0,⟨bs,l⟩)],[],0⟩ _;have hp:l.length<=2000000:=hp;(repeat(first|apply zap|apply zaf|apply zaH|apply zan|apply zaq|refine zac hX zdO rfl t_ ?_|refine zac hX zdO rfl id ?_|refine zac hX zdO rfl ⟨id,id⟩ ?_));refine zaa (zaa ?_);refine zac hX zdO rfl ?_ ?_
 .show zp (xP [l])<=2000000
  simpa using hp
 refine zC ⟨.inr rfl,D1 ?_⟩;show sha (xP [l])=sha l;simp
def mixX(l:List UInt8)(c:UInt8)(i:Nat):List UInt8:=(l.take i).map (· ^^^ c)++l.drop i
theorem zlV(l:List UInt8)(c:UInt8)(i:Nat)(h:i<l.length):(mixX l c i).set i ((mixX l c i).getD i 0 ^^^ c)=mixX l c (i+1):=by
 unfold mixX;have hl:((l.take i).map (· ^^^ c)).length=i:=by simp;omega
 have hg:(((l.take i).map (· ^^^ c))++l.drop i).getD i 0=l[i]:=by
  rw[zH,List.getElem?_append_right o_,hl];simp[h]
 rw[hg,List.set_append_right _ _ o_,hl,Nat.sub_self,xR h,List.set_cons_zero,zN h,xX];simp only[qN,uq,zB,vH,qn]
theorem zlX(x0:List UInt8)(c:UInt8)(h:x0.length=32):mixX (x0++zg 32 0) c 64=zb9 x0 c:=by
 unfold mixX zb9;rw[qS (by simp[h]),qp (by simp[h])];simp
theorem zlW(l:List UInt8)(c:UInt8)(i:Nat):(mixX l c i).length=l.length:=by
 unfold mixX;simp;omega
def zrP:Ctr:={ args:=[dg,bs],pre:=λx=>[zp x.2.1<=1000000],res:=dg,own:=none,out:=λx=>hmac x.1 x.2.1 }
theorem zqv:yQ zf dG 73 zrP:=by
 refine ctr2 zdO Tryz.func73 Tryz.call73 ?_;rintro w0 X hX ⟨(x2:List UInt8),(l:List UInt8),_⟩ hp;change AWP _ _ _ _ _ ⟨[(0,⟨dg,x2⟩),(1,⟨bs,l⟩)],[],0⟩ _;have hp:l.length<=1000000:=hp;refine zrh 0 rfl λx3=>?_;have x3:x2.length=32:=x3
 iterate 2 (refine zaa (zaa (zab zdO ?_)))
 refine xN hX 2 ?_;apply zap;refine zlu dM hX zdO rfl rfl rfl rfl rfl rfl rfl rfl rfl rfl rfl rfl rfl rfl rfl d_ d_ d_ d_ d_ d_ (by kernel_rfl) ?_;obtain⟨x0,x1⟩:∃x0,x2++zg 32 0=x0:=⟨_,rfl⟩;have x4:x0.length=64:=by rw[<-x1];simp[x3]
 (repeat refine zaa (zaa (zab zdO ?_)));refine zaa ?_;refine yK (ι:=Nat) (λi=>⟨[(1,⟨bs,l⟩),(4,⟨.optr dg,⟨1,dg,.here⟩⟩),(5,⟨.optr (.arr 64 u8),⟨2,.arr 64 u8,.here⟩⟩),(6,⟨.optr (.arr 64 u8),⟨3,.arr 64 u8,.here⟩⟩),(13,⟨i64,(i:Int)⟩)],[(1,some (.box dg (zg 32 (0:UInt8)))),(2,some (.box (.arr 64 u8) (mixX x0 0x36 i))),(3,some (.box (.arr 64 u8) (mixX x0 0x5c i)))],4⟩) (λi=>i<=64) (λi=>64-i) 0 o_ ⟨⟨rfl,rfl,rfl,rfl,rfl,t_⟩,⟨rfl,zeP x1,zeP x1,t_⟩,rfl,rfl⟩ ?_;intro i hi;(repeat refine zaa (zaa (zab zdO ?_)));refine zaa ?_;refine zae rfl (λhb=>?_) (λhb=>?_)
 .simp at hb;(repeat(first|apply zap|apply zaf|apply zaH|apply zan|apply zaq|refine zac hX zdO rfl t_ ?_|refine zac hX zdO rfl id ?_|refine zac hX zdO rfl ⟨id,id⟩ ?_));refine zaa (zaa ?_);refine zac hX zdO rfl ?_ ?_
  . (simp only[allP,zc2];(and_intros<;>first|omega|(simp;done)|(simp;omega)))
  refine zaa (zaa ?_);refine zac hX zdO rfl ?_ ?_
  . (simp only[allP,zc2];(and_intros<;>first|omega|(simp;done)|(simp;omega)))
  refine zaa (zaa ?_);refine zac hX zdO rfl ?_ ?_
  .exact zaP o_
  refine⟨i+1,by omega,by omega,⟨rfl,rfl,rfl,rfl,zce _,t_⟩,⟨rfl,zeP ?_,zeP ?_,t_⟩,rfl,rfl⟩
  .exact zlV x0 0x36 i o_
  .exact zlV x0 0x5c i o_
 .simp at hb;have:i=64:=o_;subst this;have e1:=zlX x2 0x36 x3;have e2:=zlX x2 0x5c x3;have e3:(zb9 x2 0x36).length=64:=by rw[<-e1,zlW];simp[x3]
  have e4:(zb9 x2 0x5c).length=64:=by rw[<-e2,zlW];simp[x3]
  rw[x1]at e1 e2;rw[e1,e2];(repeat refine zaa (zaa (zab zdO ?_)));refine zaa ?_;refine xN hX 5 ?_;refine zaa (zaa ?_);refine zac hX zdO rfl ?_ ?_
  .show zp (xP [zb9 x2 0x36,l])<=2000000;simp[e3];omega
  refine xN hX 6 ?_;refine xN hX 8 ?_;refine zaa (zaa (zbF dM hX zdO 4 (by kernel_rfl) rfl rfl ?_ ?_ ?_))
  .show zp (xP [zb9 x2 0x5c,sha (xP [zb9 x2 0x36,l])])<=2000000;simp[e4,zcN]
  .trivial
  refine zC ⟨.inr rfl,D1 ?_⟩;show sha (xP [zb9 x2 0x5c,sha (xP [zb9 x2 0x36,l])])=hmac x2 l;simp[hmac]
abbrev pw(g k:Nat):zi:=.pointer (some ⟨g,k,none⟩)
def nmV(g o:Nat):zi:=.agg #[pw g (o+3),pw g (o+4),pw g (o+5),pw g (o+6),pw g (o+7),pw g (o+8),pw g (o+9),pw g (o+10),pw g (o+11),.pointer none,.pointer none,pw g (o+24),pw g (o+25),pw g (o+26),.pointer none,.pointer none,.pointer none]
theorem zsC(tm:Array zi){b:Nat}{g off:Nat}{W:zj}(h:tm.getD 2 undef=.pointer (some ⟨b,0,none⟩))(x0:(vh 85 ⟨b,0,none⟩).run zf W=.ok (nmV g off) W):(results Tryz.f26 tm).run zf W=.ok (nmV g off) W:=by
 rw[zeq];have hm:(Tryz.f26.results.mapM (resM tm)).run zf W=.ok #[nmV g off] W:=by
  rw[Array.mapM_eq_mapM_toList];simp[resM,h,asAddr,x0]
 rw[zJ,hm];simp
set_option maxHeartbeats 4000000 in
theorem zf9(g off:Nat)(w:zj):
  Calls zf 26 #[.pointer (some ⟨g,off,none⟩)] w λe w'=>e=.returned (nmV g off)/\xW w.heap.size w w':=by
 go_enter Tryz.func26,Tryz.ntmps26
 go_wp2
 obtain⟨W1,x1⟩:∃W1,W1=w.alloc (.cells (zG 17 (.pointer none)) 85 (0,0)):=⟨_,rfl⟩;have x7:xW w.heap.size w W1:=by rw[x1];exact(zY _ w).alloc (zu _) _
 have x9:W1.heap[w.heap.size]? =some (.cells (zG 17 (.pointer none)) 85 (0,0)):=by rw[x1];exact xK _ _
 have xa:W1.heap.size=w.heap.size+1:=by rw[x1];simp
 change Code.wp _ _ _ _ (w.alloc (.cells (zG 17 (.pointer none)) 85 (0,0)));rw[<-x1];clear x1
 go_still_tail 37,(by kernel_rfl)
 change wpList _ _ _ _ _ W1.drew;have x2:xW w.heap.size w W1.drew:=x7.drew;have x3:W1.drew.heap[w.heap.size]? =some (.cells (zG 17 (.pointer none)) 85 (0,0)):=x9;generalize W1.drew=W2 at x2 x3;have x0:(Instr.storeAt 85 (.pointer (some ⟨w.heap.size,0,none⟩)) (nmV g off)).run zf W2=.ok () (W2.setRow w.heap.size (over (zg 17 (.pointer none)) 0 (nmV g off).cells.toList).toArray):=by
  have x0:=run_storeCells_at zf w.heap.size 0 85 (nmV g off).cells.toList 0 (zg 17 (.pointer none)).toArray W2 (by rw[x3];rfl) (by simp[nmV,jL]) (by simp[nmV,jL,Value.oneCell']);simp only[Nat.add_zero]at x0;unfold Instr.storeAt qa storeVar;have hz:(sizeOf 85).run zf W2=.ok 17 W2:=by simp[go_sem]
  simp only[zJ,zI,zD,hz];rw[if_neg (by simp[nmV,jL])];exact x0
 have x6:∀(ev:zK->zi)(o:Oper),o.op=.store 85 (.tmp 2) (.tmp 39)->ev (.tmp 2)=.pointer (some ⟨w.heap.size,0,none⟩)->ev (.tmp 39)=nmV g off->(execOp ev o).run zf W2=.ok .skip (W2.setRow w.heap.size (over (zg 17 (.pointer none)) 0 (nmV g off).cells.toList).toArray):=λev o ho h1 h2=>by
  unfold execOp;simp only[ho];rw[h1,h2];simp[x0]
 refine .inl ?_;unfold Oper.wp;rw[x6 _ _ rfl rfl rfl];have x4:xW w.heap.size w (W2.setRow w.heap.size (over (zg 17 (.pointer none)) 0 (nmV g off).cells.toList).toArray):=x2.grown (zbJ W2 w.heap.size _) x2.size (λk e=>by cases e;exact zu _);have x5:=setRow_heap W2 w.heap.size (zg 17 (.pointer none)).toArray (over (zg 17 (.pointer none)) 0 (nmV g off).cells.toList).toArray 85 (0,0) (by rw[x3];rfl);generalize W2.setRow w.heap.size (over (zg 17 (.pointer none)) 0 (nmV g off).cells.toList).toArray=W3 at x4 x5;have xb:(over (zg 17 (.pointer none)) 0 (nmV g off).cells.toList).toArray=(nmV g off).cells:=rfl;rename_i K hK;refine hK _ _ (wp_ret ?_);refine⟨rfl,nmV g off,?_,rfl,x4⟩;have x8:(vh 85 ⟨w.heap.size,0,none⟩).run zf W3=.ok (nmV g off) W3:=
  run_loadVar_row W3 w.heap.size 85 85 (nmV g off).cells (0,0) (.array 17 84) x5 (by kernel_rfl) rfl (by rw[show(nmV g off).cells.size=17 from rfl];kernel_rfl)
 exact zsC _ rfl x8
theorem zdY{w:zj}{O:Nat->Prop}:∀(n:Nat)(Z:Ty)(x:Z.T)(v:V)(cs:List zi),zge n Z x=some v->RepC w O Z x cs->RepC w O v.t v.x ((cs.drop (zaV n Z)).take v.t.size):=by
 intro n
 induction n with
 |zero=>
  intro Z x v cs h hr;cases Z with
  |pair a b=>
   cases h;obtain⟨c1,c2,rfl,h5,h6⟩:=hr;have:=RepC.len _ _ _ h5;simp[zaV, <-this,h5]
  |_=>cases h
 |succ n ih=>
  intro Z x v cs h hr;cases Z with
  |pair a b=>
   obtain⟨c1,c2,rfl,h5,h6⟩:=hr;have h7:=ih b x.2 v c2 h h6;have:=RepC.len _ _ _ h5;rw[show zaV (n+1) (.pair a b)=c1.length+zaV n b by simp[zaV,this],List.drop_length_add_append];exact h7
  |_=>cases h
abbrev pI:Ty:=.vptr i64
abbrev nvT:Ty:=.hcons pI (.hcons pI (.hcons pI (.hcons pI (.hcons pI (.hcons pI (.hcons pI (.hcons pI (.hcons pI (.hcons .lit (.hcons .lit (.hcons pI (.hcons pI (.hcons pI (.hcons .lit (.hcons .lit (.hcons .lit .unit))))))))))))))))
def nvX(l:lt.T):nvT.T:=(l.2.2.2.1,(l.2.2.2.2.1,(l.2.2.2.2.2.1,(l.2.2.2.2.2.2.1,(l.2.2.2.2.2.2.2.1,(l.2.2.2.2.2.2.2.2.1,(l.2.2.2.2.2.2.2.2.2.1,(l.2.2.2.2.2.2.2.2.2.2.1,(l.2.2.2.2.2.2.2.2.2.2.2.1,(zz none,(zz none,(l.2.2.2.2.2.2.2.2.2.2.2.2.2.2.1,(l.2.2.2.2.2.2.2.2.2.2.2.2.2.2.2.1,(l.2.2.2.2.2.2.2.2.2.2.2.2.2.2.2.2.1,(zz none,(zz none,(zz none,())))))))))))))))))
theorem zkD{w:zj}{O:Nat->Prop}{U:Nat->zi}{l:lt.T}{g off:Nat}{cs:List zi}(hl:g<w.heap.size)(hn:¬O g)(hr:RepC w O lt l cs)(hc:CellsAt w g off cs):RepV w O U nvT (nvX l) (nmV g off):=
 ⟨_,_,rfl,rfl,⟨g,off+3,(cs.drop 3).take 1,rfl,hl,hn,zdY 3 lt l ⟨i64,l.2.2.2.1⟩ cs rfl hr,(hc.drop 3).take 1⟩,⟨_,_,rfl,rfl,⟨g,off+4,(cs.drop 4).take 1,rfl,hl,hn,zdY 4 lt l ⟨i64,l.2.2.2.2.1⟩ cs rfl hr,(hc.drop 4).take 1⟩,⟨_,_,rfl,rfl,⟨g,off+5,(cs.drop 5).take 1,rfl,hl,hn,zdY 5 lt l ⟨i64,l.2.2.2.2.2.1⟩ cs rfl hr,(hc.drop 5).take 1⟩,⟨_,_,rfl,rfl,⟨g,off+6,(cs.drop 6).take 1,rfl,hl,hn,zdY 6 lt l ⟨i64,l.2.2.2.2.2.2.1⟩ cs rfl hr,(hc.drop 6).take 1⟩,⟨_,_,rfl,rfl,⟨g,off+7,(cs.drop 7).take 1,rfl,hl,hn,zdY 7 lt l ⟨i64,l.2.2.2.2.2.2.2.1⟩ cs rfl hr,(hc.drop 7).take 1⟩,⟨_,_,rfl,rfl,⟨g,off+8,(cs.drop 8).take 1,rfl,hl,hn,zdY 8 lt l ⟨i64,l.2.2.2.2.2.2.2.2.1⟩ cs rfl hr,(hc.drop 8).take 1⟩,⟨_,_,rfl,rfl,⟨g,off+9,(cs.drop 9).take 1,rfl,hl,hn,zdY 9 lt l ⟨i64,l.2.2.2.2.2.2.2.2.2.1⟩ cs rfl hr,(hc.drop 9).take 1⟩,⟨_,_,rfl,rfl,⟨g,off+10,(cs.drop 10).take 1,rfl,hl,hn,zdY 10 lt l ⟨i64,l.2.2.2.2.2.2.2.2.2.2.1⟩ cs rfl hr,(hc.drop 10).take 1⟩,⟨_,_,rfl,rfl,⟨g,off+11,(cs.drop 11).take 1,rfl,hl,hn,zdY 11 lt l ⟨i64,l.2.2.2.2.2.2.2.2.2.2.2.1⟩ cs rfl hr,(hc.drop 11).take 1⟩,⟨_,_,rfl,rfl,rfl,⟨_,_,rfl,rfl,rfl,⟨_,_,rfl,rfl,⟨g,off+24,(cs.drop 24).take 1,rfl,hl,hn,zdY 14 lt l ⟨i64,l.2.2.2.2.2.2.2.2.2.2.2.2.2.2.1⟩ cs rfl hr,(hc.drop 24).take 1⟩,⟨_,_,rfl,rfl,⟨g,off+25,(cs.drop 25).take 1,rfl,hl,hn,zdY 15 lt l ⟨i64,l.2.2.2.2.2.2.2.2.2.2.2.2.2.2.2.1⟩ cs rfl hr,(hc.drop 25).take 1⟩,⟨_,_,rfl,rfl,⟨g,off+26,(cs.drop 26).take 1,rfl,hl,hn,zdY 16 lt l ⟨i64,l.2.2.2.2.2.2.2.2.2.2.2.2.2.2.2.2.1⟩ cs rfl hr,(hc.drop 26).take 1⟩,⟨_,_,rfl,rfl,rfl,⟨_,_,rfl,rfl,rfl,⟨_,_,rfl,rfl,rfl,(RepD.agg (t:=.unit) rfl).2 ⟨[],rfl,rfl⟩⟩⟩⟩⟩⟩⟩⟩⟩⟩⟩⟩⟩⟩⟩⟩⟩⟩
theorem zaX:zrY zf 85 17:=by
 intro cs k c w ev o x i hl hk ho hx hi;have x3:=(xB.1 hk).1;unfold execOp;simp only[ho,hx,hi];have x1:(0:Int)<=(k:Int):=qh _;have hu:∀w,(Go.underlying 85).run zf w=.ok (.array 17 84) w:=run_underlying (by kernel_rfl);have ha:∀w,(Go.isAgg 84).run zf w=.ok false w:=λw=>by simp[go_sem]
 have hz:∀w,(sizeOf 84).run zf w=.ok 1 w:=λw=>by simp[go_sem]
 have x2:(0:Int)<=(k:Int)/\(k:Int)<((17:Nat):Int):=⟨x1,by omega⟩;have x0:(Instr.index 85 (.agg cs.toArray) (.int .i64 (k:Int))).run zf w=.ok c w:=by
  unfold Instr.index;simp only[zJ,asIntOf,zI,zD,hu];rw[if_pos x2];simp only[zJ,hz,zD,zS,Nat.mul_one];unfold Go.part;simp[ha,hk]
 exact za7 x0
theorem zgL:zra zf 84:=by
 intro w ev o x op t2 b x1 ho x0;constructor
 .intro hx;rcases x1 with ⟨rfl,rfl⟩|⟨rfl,rfl⟩<;>(unfold execOp;simp[ho,hx,x0,go_sem])
 .intro A hx;rcases x1 with ⟨rfl,rfl⟩|⟨rfl,rfl⟩<;>(unfold execOp;simp[ho,hx,x0,go_sem])
def ltS(l:lt.T):se.T:=l.2.2.2.2.2.2.2.2.2.2.2.2.2.1
def nAt(l:lt.T)(k:Nat):Int:=match k with
 |0=>l.2.2.2.1
 |1=>l.2.2.2.2.1
 |2=>l.2.2.2.2.2.1
 |3=>l.2.2.2.2.2.2.1
 |4=>l.2.2.2.2.2.2.2.1
 |5=>l.2.2.2.2.2.2.2.2.1
 |6=>l.2.2.2.2.2.2.2.2.2.1
 |7=>l.2.2.2.2.2.2.2.2.2.2.1
 |8=>l.2.2.2.2.2.2.2.2.2.2.2.1
 |11=>l.2.2.2.2.2.2.2.2.2.2.2.2.2.2.1
 |12=>l.2.2.2.2.2.2.2.2.2.2.2.2.2.2.2.1
 |13=>l.2.2.2.2.2.2.2.2.2.2.2.2.2.2.2.2.1
 |_=>0
def zaM(k:Nat):Prop:=k=0\/k=1\/k=2\/k=3\/k=4\/k=5\/k=6\/k=7\/k=8\/k=11\/k=12\/k=13
def zhF(l:lt.T):Bool:=bif l.1==8 then zdc (ltS l) else false
def ztA(l:lt.T)(k:Nat):Bool:=bif zhF l then decide (k=4\/k=5\/k=6\/k=12) else false
def offF(l:lt.T)(k:Nat):Bool:=bif !za3 l.1 (k:Int) then true else ztA l k
def serS(l:lt.T):Prop:=zp (ltS l).1<=1000000000/\zp (ltS l).2.2.2.2.2.2.1<=1000000000/\zp (ltS l).2.2.2.1<=1000000000
def numG(l:lt.T):Prop:=(1<=l.1/\l.1<=18)/\serS l/\(∀k,zaM k->(offF l k=true->nAt l k=0)/\(offF l k=false->limF l.1 (k:Int) 0<=nAt l k/\nAt l k<=limF l.1 (k:Int) 1))/\(l.1=5->nAt l 5≠nAt l 4)
def cVN:Ctr:={ args:=[lt],pre:=λx=>[numG x.1],res:=.bool,own:=none,out:=λ_=>true }
def kVN:Kn:={ dK with C:=[(59,cNoS),(76,cLm),(27,cUs)] }
theorem zaO:KnOk zf dG kVN:=zam.with (.cons zcS<|.cons zor<|.cons zgw .nil)
theorem zea{w0:zj}{X:Ownr}{n:Nat}{F:List (Nat×V)}{E:Owns}{nx:Nat}{l:lt.T}{s:Nat}(hs:zr F s=⟨.vptr lt,l⟩)(U:Nat->zi)(a:Act)(w:zj)(h:Sim w0 X n ⟨F,E,nx⟩ U a w):
  Calls zf 26 ((#[qC s]:Array zK).toList.map a.eval).toArray w λe w'=>∃u,e=.returned u/\xW w.heap.size w w'/\RepV w' (OSet X E U) U nvT (nvX l) u:=by
 have h1:=h.fr s;rw[show zr (AS.mk F E nx).F s=_ from hs]at h1;obtain⟨g,off,cs,e1,e2,e3,e4,e5⟩:=h1;have e1:a.eval (.tmp s)=.pointer (some ⟨g,off,none⟩):=e1;show Calls _ _ #[a.eval (.tmp s)] w _;rw[e1];refine(zf9 g off w).mono ?_;rintro e w' ⟨rfl,hb⟩;exact⟨_,rfl,hb,RepV.keep (.of_below hb λ_ _ h=>h) nvT _ _ (zkD e2 e3 e4 e5)⟩
set_option maxHeartbeats 4000000 in
theorem zgv:yQ zf dG 57 cVN:=by
 refine ctr2 zaO Tryz.func57 Tryz.call57 ?_;rintro w0 X hX ⟨l,⟨⟩⟩ hp;obtain⟨⟨x3,x4⟩,⟨s1,s2,s3⟩,hn,h5⟩:=hp;refine zaa (zaa (zab zaO ?_));refine xN hX 1 ?_;refine zaa (zaa (zab zaO ?_));refine zaa (zaa (zaj ?_));refine zjb rfl rfl Tryz.call26 rfl rfl (v:=⟨nvT,nvX l⟩) rfl (zea rfl) ?_;refine zau zaO ?_;refine zaa ?_;refine yK (ι:=Nat) (λk=>⟨[(1,⟨.vptr lt,l⟩),(3,⟨.bool,zhF l⟩),(17,⟨nvT,nvX l⟩),(18,⟨i64,(k:Int)⟩)],[],0⟩) (λk=>k<=17) (λk=>17-k) 0 o_ ⟨⟨rfl,rfl,rfl,rfl,t_⟩,t_,rfl,rfl⟩ ?_;intro k hk;refine zaa (zaa (zab zaO ?_));refine zaa ?_;refine zaN rfl (λhb=>?_) (λhb=>?_)
 .
  apply zaf;have x2:=hb;have q1:inR .i64 ((k:Int)+1):=zah o_ o_;apply zap;apply zaq;apply zap;by_cases x0:zaM k
  .refine za1 (Y':=⟨[(1,⟨.vptr lt,l⟩),(3,⟨.bool,zhF l⟩),(4,⟨i64,(k:Int)⟩),(5,⟨.vptr i64,nAt l k⟩),(17,⟨nvT,nvX l⟩),(18,⟨i64,(k:Int)⟩)],[],0⟩) ?_ ?_
   .rcases x0 with rfl|rfl|rfl|rfl|rfl|rfl|rfl|rfl|rfl|rfl|rfl|rfl
    .refine zaj ?_;refine zat 1 zaO ?_;refine zaJ zaX rfl rfl rfl rfl 0 rfl rfl rfl rfl rfl ?_;refine zau zaO ?_;exact⟨⟨rfl,rfl,rfl,rfl,rfl,rfl,t_⟩,t_,rfl,rfl⟩
    .refine zaj ?_;refine zat 1 zaO ?_;refine zaJ zaX rfl rfl rfl rfl 1 rfl rfl rfl rfl rfl ?_;refine zau zaO ?_;exact⟨⟨rfl,rfl,rfl,rfl,rfl,rfl,t_⟩,t_,rfl,rfl⟩
    .refine zaj ?_;refine zat 1 zaO ?_;refine zaJ zaX rfl rfl rfl rfl 2 rfl rfl rfl rfl rfl ?_;refine zau zaO ?_;exact⟨⟨rfl,rfl,rfl,rfl,rfl,rfl,t_⟩,t_,rfl,rfl⟩
    .refine zaj ?_;refine zat 1 zaO ?_;refine zaJ zaX rfl rfl rfl rfl 3 rfl rfl rfl rfl rfl ?_;refine zau zaO ?_;exact⟨⟨rfl,rfl,rfl,rfl,rfl,rfl,t_⟩,t_,rfl,rfl⟩
    .refine zaj ?_;refine zat 1 zaO ?_;refine zaJ zaX rfl rfl rfl rfl 4 rfl rfl rfl rfl rfl ?_;refine zau zaO ?_;exact⟨⟨rfl,rfl,rfl,rfl,rfl,rfl,t_⟩,t_,rfl,rfl⟩
    .refine zaj ?_;refine zat 1 zaO ?_;refine zaJ zaX rfl rfl rfl rfl 5 rfl rfl rfl rfl rfl ?_;refine zau zaO ?_;exact⟨⟨rfl,rfl,rfl,rfl,rfl,rfl,t_⟩,t_,rfl,rfl⟩
    .refine zaj ?_;refine zat 1 zaO ?_;refine zaJ zaX rfl rfl rfl rfl 6 rfl rfl rfl rfl rfl ?_;refine zau zaO ?_;exact⟨⟨rfl,rfl,rfl,rfl,rfl,rfl,t_⟩,t_,rfl,rfl⟩
    .refine zaj ?_;refine zat 1 zaO ?_;refine zaJ zaX rfl rfl rfl rfl 7 rfl rfl rfl rfl rfl ?_;refine zau zaO ?_;exact⟨⟨rfl,rfl,rfl,rfl,rfl,rfl,t_⟩,t_,rfl,rfl⟩
    .refine zaj ?_;refine zat 1 zaO ?_;refine zaJ zaX rfl rfl rfl rfl 8 rfl rfl rfl rfl rfl ?_;refine zau zaO ?_;exact⟨⟨rfl,rfl,rfl,rfl,rfl,rfl,t_⟩,t_,rfl,rfl⟩
    .refine zaj ?_;refine zat 1 zaO ?_;refine zaJ zaX rfl rfl rfl rfl 11 rfl rfl rfl rfl rfl ?_;refine zau zaO ?_;exact⟨⟨rfl,rfl,rfl,rfl,rfl,rfl,t_⟩,t_,rfl,rfl⟩
    .refine zaj ?_;refine zat 1 zaO ?_;refine zaJ zaX rfl rfl rfl rfl 12 rfl rfl rfl rfl rfl ?_;refine zau zaO ?_;exact⟨⟨rfl,rfl,rfl,rfl,rfl,rfl,t_⟩,t_,rfl,rfl⟩
    .refine zaj ?_;refine zat 1 zaO ?_;refine zaJ zaX rfl rfl rfl rfl 13 rfl rfl rfl rfl rfl ?_;refine zau zaO ?_;exact⟨⟨rfl,rfl,rfl,rfl,rfl,rfl,t_⟩,t_,rfl,rfl⟩
   obtain⟨n1,n2⟩:=hn k x0;generalize nAt l k=x at n1 n2;apply zap;apply zap;refine zaj ?_;refine zat 1 zaO ?_;refine zdS zgL (.inl ⟨rfl,rfl⟩) rfl rfl rfl rfl rfl rfl ?_;refine qu ?_;refine zaL rfl ?_;apply zaf
   iterate 3 (refine zaa (zaa (zab zaO ?_)))
   refine za1 (Y':=⟨[(1,⟨.vptr lt,l⟩),(3,⟨.bool,zhF l⟩),(5,⟨.vptr i64,x⟩),(6,⟨i64,limF l.1 (k:Int) 0⟩),(7,⟨i64,limF l.1 (k:Int) 1⟩),(17,⟨nvT,nvX l⟩),(18,⟨i64,(k:Int)⟩),(32,⟨.bool,offF l k⟩)],[],0⟩) ?_ ?_
   .refine zae rfl (λhb=>?_) (λhb=>?_)
    .have hb:(!za3 l.1 (k:Int))=true:=hb;apply zaf;exact⟨⟨rfl,rfl,rfl,rfl,rfl,rfl,rfl,zcp (by show(!za3 l.1 (k:Int))=offF l k;unfold offF;rw[hb];rfl),t_⟩,t_,rfl,rfl⟩
    .have hb:(!za3 l.1 (k:Int))=false:=hb;refine zab zaO ?_;refine⟨⟨rfl,rfl,rfl,rfl,rfl,rfl,rfl,zcp ?_,t_⟩,t_,rfl,rfl⟩;have hu:za3 l.1 (k:Int)=true:=by simpa using hb
     show(bif zhF l then(bif (bif (bif ((k:Int)==4) then true else((k:Int)==5)) then true else((k:Int)==6)) then true else((k:Int)==12)) else false)=offF l k;unfold offF ztA;rw[hu];cases zhF l with
     |false=>rfl
     |true=>rcases x0 with rfl|rfl|rfl|rfl|rfl|rfl|rfl|rfl|rfl|rfl|rfl|rfl<;>rfl
   refine AWP.mono (Q:=λe s=>e=.normal/\Fit s ⟨[(1,⟨.vptr lt,l⟩),(3,⟨.bool,zhF l⟩),(5,⟨.vptr i64,x⟩),(6,⟨i64,bif offF l k then 0 else limF l.1 (k:Int) 0⟩),(7,⟨i64,bif offF l k then 0 else limF l.1 (k:Int) 1⟩),(17,⟨nvT,nvX l⟩),(18,⟨i64,(k:Int)⟩)],[],0⟩) ?_ ?_
   .refine zae rfl (λhb=>?_) (λhb=>?_)
    .
     refine zab zaO ?_;exact⟨rfl,⟨rfl,rfl,rfl,vI64 (by rw[hb];rfl),vI64 (by rw[hb];rfl),rfl,rfl,t_⟩,t_,rfl,rfl⟩
    .have hb:offF l k=false:=hb;apply zaf;exact⟨rfl,⟨rfl,rfl,rfl,vI64 (by rw[hb];rfl),vI64 (by rw[hb];rfl),rfl,rfl,t_⟩,t_,rfl,rfl⟩
   rintro e s' ⟨rfl,hf⟩;refine zak hf ?_ (by exact zb rfl);have x1:(bif offF l k then 0 else limF l.1 (k:Int) 0)<=x/\x<=(bif offF l k then 0 else limF l.1 (k:Int) 1):=by
    cases ho:offF l k with
    |true=>rw[n1 ho];exact⟨qs _,qs _⟩
    |false=>exact n2 ho
   generalize (bif offF l k then 0 else limF l.1 (k:Int) 0)=lo at x1;generalize (bif offF l k then 0 else limF l.1 (k:Int) 1)=hi at x1;refine zaa (zaa (zab zaO ?_));refine zae rfl (λhb=>?_) (λ_=>?_)
   .exfalso;have hb:(bif decide (x<lo) then true else decide (x>hi))=true:=hb;rw[b_or,Bool.or_eq_true,decide_eq_true_iff,decide_eq_true_iff]at hb;omega
   apply zaf;refine zab zaO ?_;exact⟨k+1,by omega,by omega,⟨rfl,rfl,rfl,rfl,t_⟩,t_,rfl,rfl⟩
  .have hz:k=9\/k=10\/k=14\/k=15\/k=16:=by unfold zaM at x0;omega
   refine za1 (Y':=⟨[(1,⟨.vptr lt,l⟩),(3,⟨.bool,zhF l⟩),(4,⟨i64,(k:Int)⟩),(5,⟨.lit,zz none⟩),(17,⟨nvT,nvX l⟩),(18,⟨i64,(k:Int)⟩)],[],0⟩) ?_ ?_
   .rcases hz with rfl|rfl|rfl|rfl|rfl
    .refine zaj ?_;refine zat 1 zaO ?_;refine zaJ zaX rfl rfl rfl rfl 9 rfl rfl rfl rfl rfl ?_;refine zau zaO ?_;exact⟨⟨rfl,rfl,rfl,rfl,rfl,rfl,t_⟩,t_,rfl,rfl⟩
    .refine zaj ?_;refine zat 1 zaO ?_;refine zaJ zaX rfl rfl rfl rfl 10 rfl rfl rfl rfl rfl ?_;refine zau zaO ?_;exact⟨⟨rfl,rfl,rfl,rfl,rfl,rfl,t_⟩,t_,rfl,rfl⟩
    .refine zaj ?_;refine zat 1 zaO ?_;refine zaJ zaX rfl rfl rfl rfl 14 rfl rfl rfl rfl rfl ?_;refine zau zaO ?_;exact⟨⟨rfl,rfl,rfl,rfl,rfl,rfl,t_⟩,t_,rfl,rfl⟩
    .refine zaj ?_;refine zat 1 zaO ?_;refine zaJ zaX rfl rfl rfl rfl 15 rfl rfl rfl rfl rfl ?_;refine zau zaO ?_;exact⟨⟨rfl,rfl,rfl,rfl,rfl,rfl,t_⟩,t_,rfl,rfl⟩
    .refine zaj ?_;refine zat 1 zaO ?_;refine zaJ zaX rfl rfl rfl rfl 16 rfl rfl rfl rfl rfl ?_;refine zau zaO ?_;exact⟨⟨rfl,rfl,rfl,rfl,rfl,rfl,t_⟩,t_,rfl,rfl⟩
   apply zap;apply zap;refine zaj ?_;refine zat 1 zaO ?_;refine zdS zgL (.inl ⟨rfl,rfl⟩) rfl rfl rfl rfl rfl rfl ?_;refine qu ?_;refine zbu rfl ?_;apply zan;refine zab zaO ?_;exact⟨k+1,by omega,by omega,⟨rfl,rfl,rfl,rfl,t_⟩,t_,rfl,rfl⟩
 .
  refine zaa ?_;refine zaa (zaa (zab zaO ?_));refine zC ⟨.inr rfl,D1 ?_⟩;show(bif l.1 != 5 then true else nAt l 5 != nAt l 4)=true;by_cases e:l.1=5
  .rw[show(nAt l 5 != nAt l 4)=true from bne_iff_ne.2 (h5 e)];cases (l.1 != 5)<;>rfl
  .rw[show(l.1 != 5)=true from bne_iff_ne.2 e];rfl
def ltM(l:lt.T):mv.T:=l.2.2.2.2.2.2.2.2.2.2.2.2.1
def zMv:mv.T:=(0,false,0,0,0,())
def chgG(l:lt.T):Prop:=serS l/\(nAt l 7=1->mvOK (ltM l)=true/\(ltM l).1=nAt l 8/\zdc (ltS l)=true)/\(nAt l 7=3->eqb mv (ltM l) zMv=true/\nAt l 8=0)/\(nAt l 7≠1->nAt l 7≠3->eqb mv (ltM l) zMv=true)
noncomputable def cCh:Ctr:={ args:=[lt],pre:=λx=>[chgG x.1],res:=.bool,own:=none,out:=λ_=>true }
noncomputable def kCh:Kn:={ dK with C:=[(59,cNoS),(77,cMvG)] }
theorem zg5:KnOk zf dG kCh:=zam.with (.cons zcS<|.cons zf3 .nil)
theorem zht:yQ zf dG 78 cCh:=by
 refine ctr2 zg5 Tryz.func78 Tryz.call78 ?_;rintro w0 X hX ⟨l,⟨⟩⟩ hp;obtain⟨⟨s1,s2,s3⟩,h1,h3,h2⟩:=hp;refine zaa (zaa (zab zg5 ?_));refine xN hX 1 ?_
 iterate 2 (refine zaa (zaa (zab zg5 ?_)))
 refine zae rfl (λhb=>?_) (λhb=>?_)
 .have e:=eq_of_beq hb;obtain⟨m1,m2,m3⟩:=h1 e;refine zaa (zaa (zab zg5 ?_));refine zC ⟨.inr rfl,D1 ?_⟩;show(bif (bif true then((ltM l).1==nAt l 8) else false) then zdc (ltS l) else false)=true;rw[m2,m3,show(nAt l 8==nAt l 8)=true from beq_self_eq_true _];rfl
 have e1:nAt l 7≠1:=λe=>by
  have hb:(nAt l 7==1)=false:=hb;rw[e]at hb;cases hb
 refine zaa (zaa (zab zg5 ?_));refine zae rfl (λhb=>?_) (λhb=>?_)
 .have e:=eq_of_beq hb;obtain⟨m1,m2⟩:=h3 e;refine zaa (zaa (zab zg5 ?_));refine zC ⟨.inr rfl,D1 ?_⟩;show(bif eqb mv (ltM l) zMv then(nAt l 8==0) else false)=true;rw[m1,m2];rfl
 have e3:nAt l 7≠3:=λe=>by
  have hb:(nAt l 7==3)=false:=hb;rw[e]at hb;cases hb
 apply zaf;refine zaa (zaa (zab zg5 ?_));refine zC ⟨.inr rfl,D1 ?_⟩;exact h2 e1 e3
def ltW(l:lt.T):sp.T:=l.2.2.2.2.2.2.2.2.2.2.2.2.2.2.2.2.2.1
def ltD(l:lt.T):dg.T:=l.2.2.2.2.2.2.2.2.2.2.2.2.2.2.2.2.2.2.2.1
def zDg:dg.T:=zaD dg
noncomputable def zerB(l:lt.T):List Bool:=[false,false,false,false,false,false,false,false,false,eqb mv (ltM l) zMv,zdc (ltS l),false,false,false,eqb sp (ltW l) (0,0,()),(((zp (ltC l):Nat):Int)==0),eqb dg (ltD l) zDg]
def othG(l:lt.T):Prop:=(1<=l.1/\l.1<=18)/\serS l/\(∀f,f=9\/f=10\/f=14\/f=15\/f=16->za3 l.1 ((f:Nat):Int)=false->(zerB l).getD f false=true)/\(l.1=4->mvOK (ltM l)=true)/\(l.1=6->chgG l)/\(-2251799813685248<=(ltW l).1/\(ltW l).1<=(ltW l).2.1/\(ltW l).2.1<=2251799813685248)/\celG l.1 (ltC l)
noncomputable def cOt:Ctr:={ args:=[lt],pre:=λx=>[othG x.1],res:=.bool,own:=none,out:=λ_=>true }
noncomputable def kOt:Kn:={ dK with C:=[(77,cMvG),(78,cCh),(59,cNoS),(79,cVC),(27,cUs)] }
theorem zbU:KnOk zf dG kOt:=zam.with (.cons zf3<|.cons zht<|.cons zcS<|.cons zig<|.cons zgw .nil)
set_option maxHeartbeats 4000000 in
theorem zhs:yQ zf dG 58 cOt:=by
 refine ctr2 zbU Tryz.func58 Tryz.call58 ?_;rintro w0 X hX ⟨(l:lt.T),⟨⟩⟩ hp;obtain⟨⟨hk1,hk2⟩,⟨s1,s2,s3⟩,hz,h4,h6,⟨w1,w2,w3⟩,hc⟩:othG l:=hp;change AWP _ _ _ _ _ ⟨[(0,⟨lt,l⟩)],[],0⟩ _;refine zaa (zaa (zab zbU ?_));refine xN hX 1 ?_;refine zak (Y':=⟨[(1,⟨.vptr lt,l⟩)],[],0⟩) ⟨⟨rfl,trivial⟩,trivial,rfl,rfl⟩ ?_;refine zaa (zaa (zrd 21 20 (0,some (.box (.arr 17 .bool) (zaD (.arr 17 .bool)))) 1 [(1,⟨.vptr lt,l⟩)] [(0,7,⟨.vptr mv,ltM l⟩),(1,8,⟨mv,ltM l⟩),(2,9,⟨mv,zMv⟩),(3,10,⟨.bool,eqb mv (ltM l) zMv⟩),(4,11,⟨.vptr se,ltS l⟩),(5,12,⟨se,ltS l⟩),(6,13,⟨.bool,zdc (ltS l)⟩),(7,14,⟨.vptr sp,ltW l⟩),(8,15,⟨sp,ltW l⟩),(9,16,⟨sp,(0,0,())⟩),(10,17,⟨.bool,eqb sp (ltW l) (0,0,())⟩),(11,18,⟨.vptr ints,ltC l⟩),(12,19,⟨ints,ltC l⟩),(13,20,⟨i64,((zp (ltC l):Nat):Int)⟩),(14,21,⟨.bool,(((zp (ltC l):Nat):Int)==0)⟩),(15,22,⟨.vptr dg,ltD l⟩),(16,23,⟨dg,ltD l⟩),(17,24,⟨dg,zDg⟩),(18,25,⟨.bool,eqb dg (ltD l) zDg⟩),(19,26,⟨.arr 17 .bool,zerB l⟩),(20,3,⟨.optr (.arr 17 .bool),⟨0,.arr 17 .bool,.here⟩⟩)] dM hX 22 rfl rfl (by kernel_rfl) (by kernel_rfl) rfl ⟨rfl,trivial⟩ (zZ (zZ (zZ (zZ (zZ (zZ (zZ (zZ (zZ (zZ (zZ (zZ (zZ (zZ (zZ (zZ (zZ (zZ (zZ (zZ (zZ True.intro ?_) ?_) ?_) ?_) ?_) ?_) ?_) ?_) ?_) ?_) ?_) ?_) ?_) ?_) ?_) ?_) ?_) ?_) ?_) ?_) ?_) rfl ⟨rfl,trivial⟩ rfl rfl rfl ?_))
 iterate 6 exact λ_ _ _=>⟨λ_=>⟨λ_=>yI hX zbU k_,yI hX zbU k_⟩,λh=>absurd h (by decide)⟩
 .exact λ_ _ _=>⟨λ_=>⟨λ_=>yI hX zbU ⟨_,rfl,λF=>⟨_,rfl,⟨s1,s2,s3⟩,rfl,λ_=>rfl,rfl⟩⟩,yI hX zbU ⟨_,rfl,λF=>⟨_,rfl,⟨s1,s2,s3⟩,rfl,λ_=>rfl,rfl⟩⟩⟩,λh=>absurd h (by decide)⟩
 iterate 12 exact λ_ _ _=>⟨λ_=>⟨λ_=>yI hX zbU k_,yI hX zbU k_⟩,λh=>absurd h (by decide)⟩
 .exact λ_ _ _=>⟨λ_=>⟨λ_=>yI hX zbU ⟨_,rfl,λF=>⟨([],⟨_,_,_⟩),by kernel_rfl,trivial,rfl,λ_=>rfl,rfl⟩⟩,yI hX zbU ⟨_,rfl,λF=>⟨([],⟨_,_,_⟩),by kernel_rfl,trivial,rfl,λ_=>rfl,rfl⟩⟩⟩,λh=>absurd h (by decide)⟩
 .exact λ_ _ _=>⟨λh=>absurd rfl h,λ_=>StepN.eval hX zbU k_⟩
 refine yD hX zbU rfl trivial (QC.of ?_);refine zak (Y':=⟨[(1,⟨.vptr lt,l⟩),(3,⟨.optr (.arr 17 .bool),⟨0,.arr 17 .bool,.here⟩⟩)],[(0,some (.box (.arr 17 .bool) (zerB l)))],1⟩) ⟨⟨rfl,rfl,trivial⟩,⟨rfl,trivial⟩,rfl,rfl⟩ ?_;refine xN hX 3 ?_;refine zaa (zaa (zab zbU ?_));refine vo hX 27 ?_;apply zaq;refine yK (ι:=Nat) (λk=>⟨[(1,⟨.vptr lt,l⟩),(3,⟨.vptr (.arr 17 .bool),zerB l⟩),(27,⟨ints,[9,10,14,15,16]⟩),(28,⟨i64,((5:Nat):Int)⟩),(29,⟨i64,(k:Int)⟩)],[],0⟩) (λk=>k<=5) (λk=>5-k) 0 (zk _) ⟨⟨rfl,rfl,rfl,rfl,rfl,trivial⟩,trivial,rfl,rfl⟩ ?_;intro k hk;refine zaa (zaa (zab zbU ?_));refine zaa ?_;refine zae rfl (λhb=>?_) (λhb=>?_)
 .have hb:decide ((k:Int)<((5:Nat):Int))=true:=hb;have hb:=of_decide_eq_true hb;have q0:(k:Int)<5:=hb;have q1:inR .i64 ((k:Int)+1):=zah o_ o_;obtain⟨f,hf,hfl⟩:∃f:Nat,(f=9\/f=10\/f=14\/f=15\/f=16)/\([9,10,14,15,16]:List Int).getD (k:Int).toNat 0=(f:Int):=by
   have hks:k=0\/k=1\/k=2\/k=3\/k=4:=by omega
   rcases hks with rfl|rfl|rfl|rfl|rfl
   .exact⟨9,.inl rfl,rfl⟩
   .exact⟨10,.inr (.inl rfl),rfl⟩
   .exact⟨14,.inr (.inr (.inl rfl)),rfl⟩
   .exact⟨15,.inr (.inr (.inr (.inl rfl))),rfl⟩
   .exact⟨16,.inr (.inr (.inr (.inr rfl))),rfl⟩
  have hz:=hz f hf;have f0:(0:Int)<=(f:Int):=o_;have f1:(f:Int)<17:=o_;have f2:(f:Int).toNat<17:=o_;have kq:(k:Int).toNat<5:=o_;apply zaf;refine zaa (zaa (zab zbU ?_));refine zak (Y':=⟨[(1,⟨.vptr lt,l⟩),(3,⟨.vptr (.arr 17 .bool),zerB l⟩),(5,⟨i64,(f:Int)⟩),(27,⟨ints,[9,10,14,15,16]⟩),(28,⟨i64,((5:Nat):Int)⟩),(29,⟨i64,(k:Int)⟩)],[],0⟩) ⟨⟨rfl,rfl,vI64 hfl,rfl,rfl,rfl,trivial⟩,trivial,rfl,rfl⟩ ?_;refine zaa (zaa (zab zbU ?_));refine zae rfl (λhb=>?_) (λ_=>?_)
  .exfalso;have hb:(bif !za3 l.1 (f:Int) then !((zerB l).getD (f:Int).toNat false) else false)=true:=hb;cases hu:za3 l.1 (f:Int) with
   |true=>rw[hu]at hb;cases hb
   |false=>rw[hu,zS,hz hu]at hb;cases hb
  apply zaf;refine zab zbU ?_;exact⟨k+1,by omega,by omega,⟨rfl,rfl,rfl,rfl,rfl,trivial⟩,trivial,rfl,rfl⟩
 .apply zan;refine zaa (zaa (zab zbU ?_));refine zak (Y':=⟨[(1,⟨.vptr lt,l⟩),(6,⟨.optr sp,⟨0,sp,.here⟩⟩)],[(0,some (.box sp (ltW l)))],1⟩) ?_ ?_
  .exact⟨⟨rfl,rfl,trivial⟩,⟨rfl,trivial⟩,rfl,rfl⟩
  refine xN hX 6 ?_;have g4:(l.1==4)=true->mvOK (ltM l)=true:=λe=>h4 (eq_of_beq e);have g6:(l.1==6)=true->chgG l:=λe=>h6 (eq_of_beq e);refine zaa (zaa (zab zbU ?_ (hp:=by exact⟨λh=>h,λh=>⟨h,g4 h⟩,λh=>h,λh=>h⟩)));refine za1 (Y':=⟨[(1,⟨.vptr lt,l⟩),(6,⟨.vptr sp,ltW l⟩),(47,⟨.bool,false⟩)],[],0⟩) ?_ ?_
  .refine zae rfl (λhb=>?_) (λhb=>?_)
   .exfalso;have hb:(bif (l.1==4) then !true else false)=true:=hb;cases hh:(l.1==4) with
    |true=>rw[hh]at hb;cases hb
    |false=>rw[hh]at hb;cases hb
   .refine zab zbU ?_ (hp:=by exact⟨λh=>⟨h,g6 h⟩,λh=>h,λh=>h⟩);refine⟨⟨rfl,rfl,zcp ?_,trivial⟩,trivial,rfl,rfl⟩;show(bif (l.1==6) then !true else false)=false;cases (l.1==6)<;>rfl
  refine zae rfl (λhb=>absurd (show false=true from hb) (by decide)) (λ_=>?_);apply zaf;refine zaa (zaa (zab zbU ?_));refine zC ⟨.inr rfl,D1 ?_⟩;show(bif (bif (bif decide (-2251799813685248<=(ltW l).1) then decide ((ltW l).1<=(ltW l).2.1) else false) then decide ((ltW l).2.1<=2251799813685248) else false) then true else false)=true;rw[decide_eq_true w1,decide_eq_true w2,decide_eq_true w3];rfl
theorem eqF0(o:Oper)(x:zK)(h:o.op=.fieldAddr 81 x 0):OpEq zf o { o with op:=.fieldAddr 37 x 0 }:=by
 refine⟨rfl,rfl,rfl,λev w=>?_⟩;unfold execOp;simp only[h];cases ev x<;>simp[go_sem]
theorem eqF1(o:Oper)(x:zK)(h:o.op=.fieldAddr 81 x 1):OpEq zf o { o with op:=.fieldAddr 37 x 1 }:=by
 refine⟨rfl,rfl,rfl,λev w=>?_⟩;unfold execOp;simp only[h];cases ev x<;>simp[go_sem]
theorem eqLd(o:Oper)(x:zK)(h:o.op=.load 79 x):OpEq zf o { o with op:=.load 3 x }:=by
 refine⟨rfl,rfl,rfl,λev w=>?_⟩;unfold execOp;simp only[h];cases ev x<;>simp[go_sem]
abbrev wrT:Ty:=.pair (.vptr lt) (.pair bs .unit)
def leB:Int->Nat->List UInt8
 |_,0=>[]
 |n,k+1=>zM (n%256).toNat::leB (n/256) k
theorem za0:∀(k:Nat)(n:Int),(leB n k).length=k
 |0,_=>rfl
 |k+1,n=>by rw[leB,yT,za0]
def shR:Int->Nat->Int
 |n,0=>n
 |n,k+1=>shR n k/256
theorem zl9:∀(k:Nat)(n:Int),leB n (k+1)=leB n k++[zM (shR n k%256).toNat]:=by
 have hs:∀(k:Nat)(n:Int),shR (n/256) k=shR n (k+1):=by
  intro k
  induction k with
  |zero=>intro n;rfl
  |succ k ih=>intro n;show shR (n/256) k/256=shR n (k+1)/256;rw[ih]
 intro k
 induction k with
 |zero=>intro n;rfl
 |succ k ih=>
  intro n;show _::leB (n/256) (k+1)=(_::leB (n/256) k)++_;rw[ih,hs];rfl
def zu6:HCtr:={ self:=wrT,k:=1,te:=5,et:=u8,sl:=λx=>x.2.1,args:=[i64,i64],inv:=ginv,pre:=λx xs=>[0<=xs.2.1,xs.2.1<=8,zp x.2.1<=1000000],res:=.unit,out:=λx xs=>.ok ((),(x.1,(x.2.1:List UInt8)++leB xs.1 xs.2.1.toNat,())) }
set_option maxHeartbeats 1000000 in
theorem zr8:zcZ zf dG 20 zu6:=by
 refine zjS zam Tryz.func20 ⟨rfl,λ_=>rfl,λa h=>by cases h⟩ Tryz.call20 zeg ?_;rintro w0 O fix B ty hX _ ⟨(l:lt.T),(o:List UInt8),⟨⟩⟩ ⟨(n:Int),(z:Int),⟨⟩⟩ ⟨h0,h8,hl⟩;have h0:0<=z:=h0;have h8:z<=8:=h8;have hl:o.length<=1000000:=hl;change AWP _ _ _ _ _ ⟨[(0,⟨.hptr,((0:Nat),(0:Nat))⟩),(1,⟨i64,n⟩),(2,⟨i64,z⟩)],[(0,some (.hbox ty [⟨.vptr lt,l⟩,⟨.obuf u8,(1:Nat)⟩])),(1,some (.buf 5 u8 o))],2⟩ _;refine zaa (zaa (zab zam ?_));(repeat refine zaa (zaa (zab zam ?_)));refine zaa ?_;refine yK (ι:=Nat) (λk=>⟨[(0,⟨.hptr,((0:Nat),(0:Nat))⟩),(1,⟨i64,shR n k⟩),(6,⟨i64,z⟩),(7,⟨i64,(k:Int)⟩)],[(0,some (.hbox ty [⟨.vptr lt,l⟩,⟨.obuf u8,(1:Nat)⟩])),(1,some (.buf 5 u8 (o++leB n k)))],2⟩) (λk=>(k:Int)<=z) (λk=>z.toNat-k) 0 o_ ⟨⟨rfl,rfl,rfl,rfl,t_⟩,⟨rfl,zbp (yE o).symm,t_⟩,rfl,rfl⟩ ?_;intro k hk;refine zaa (zaa (zab zam ?_));apply zap;refine zaN rfl (λhb=>?_) (λhb=>?_)
 .have hb:(k:Int)<z:=hb;have hlen:(o++leB n k).length+1<=1000000000:=by rw[zl,za0];omega
  apply zaf;refine zaa ?_;refine zaj ?_;refine zat 3 zam ?_;refine xY (eqF1 _ _ rfl) hX zam rfl t_ ?_;refine AL.take 6 hX zam rfl hlen ?_;refine xY (eqF1 _ _ rfl) hX zam rfl t_ ?_;refine zau zam ?_;refine zaa (zaa (zab zam ?_));refine zaa (zaa ?_);refine zac hX zam rfl ?_ ?_
  .exact zaP o_
  refine⟨k+1,by omega,by omega,⟨rfl,rfl,rfl,zce _,t_⟩,⟨rfl,zbp ?_,t_⟩,rfl,rfl⟩;rw[zl9, <-zB];rfl
 .
  have x0:k=z.toNat:=o_;subst x0;(repeat refine zaa (zaa (zab zam ?_)));refine zaa ?_;exact⟨.inl rfl,⟨_,rfl,u8,1,_,rfl,rfl,rfl⟩,D2 rfl⟩
def hW:List (yR×HCtr):=[(20,zu6)]
theorem zfR:HsOk zf dG hW:=.cons zr8 .nil
theorem zeM{w0:zj}{X:Ownr}{ty:zy}(hX:X.Ok w0)(hG:X.G=dG)(hi:ginv w0 X.R ty){ty':zy}:∀w R,(∀g,R g->w0.heap.size<=g\/X.R g)->X.G w->ginv w R ty':=λw R hR _ h=>by
 have h0:dG w0:=by have:=hX.2.2 w0 (jw _ _);rwa[hG]at this
 rcases hR _ h with h1|h1
 .have:=h0.1;omega
 .exact hi h1
def winB(w:sp.T):List UInt8:=leB w.1 8++leB w.2.1 8
def zv5:HCtr:={ self:=wrT,k:=1,te:=5,et:=u8,sl:=λx=>x.2.1,args:=[],inv:=ginv,pre:=λx _=>[zp x.2.1<=900000],res:=.unit,out:=λx _=>.ok ((),(x.1,(x.2.1:List UInt8)++winB x.1.2.2.2.2.2.2.2.2.2.2.2.2.2.2.2.2.2.1,())) }
set_option maxHeartbeats 1000000 in
theorem zr5:zcZ zf dG 23 zv5:=by
 refine zjS zam Tryz.func23 ⟨rfl,λ_=>rfl,λa h=>by cases h⟩ Tryz.call23 zeg ?_;rintro w0 O fix B ty hX x0 ⟨(l:lt.T),(o:List UInt8),⟨⟩⟩ ⟨⟩ hl;have hI:=zeM (ty:=ty) (ty':=ty) hX rfl x0;have hl:o.length<=900000:=hl;change AWP _ _ _ _ _ ⟨[(0,⟨.hptr,((0:Nat),(0:Nat))⟩)],[(0,some (.hbox ty [⟨.vptr lt,l⟩,⟨.obuf u8,(1:Nat)⟩])),(1,some (.buf 5 u8 o))],2⟩ _;have c1:(0:Int)<=8:=d_;have c2:(8:Int)<=8:=d_;have c3:o.length<=1000000:=o_;have c4:(o++leB l.2.2.2.2.2.2.2.2.2.2.2.2.2.2.2.2.2.1.1 8).length<=1000000:=by rw[zl,za0];omega
 refine zaa ?_;refine zaj ?_;refine zat 3 zam ?_;refine xY (eqF0 _ _ rfl) hX zam rfl t_ ?_;refine xY (eqLd _ _ rfl) hX zam rfl t_ ?_;refine ki 4 hX zam zfR rfl t_ rfl rfl ⟨c1,c2,c3⟩ hI ?_;refine qu ?_;refine zaa ?_;refine zaj ?_;refine zat 3 zam ?_;refine xY (eqF0 _ _ rfl) hX zam rfl t_ ?_;refine xY (eqLd _ _ rfl) hX zam rfl t_ ?_;refine ki 4 hX zam zfR rfl t_ rfl rfl ⟨c1,c2,c4⟩ hI ?_;refine qu ?_;refine⟨.inl rfl,⟨_,rfl,u8,1,(o++leB l.2.2.2.2.2.2.2.2.2.2.2.2.2.2.2.2.2.1.1 8)++leB l.2.2.2.2.2.2.2.2.2.2.2.2.2.2.2.2.2.1.2.1 8,rfl,rfl,?_⟩,D2 rfl⟩;show some (((l,(o++leB l.2.2.2.2.2.2.2.2.2.2.2.2.2.2.2.2.2.1.1 8)++leB l.2.2.2.2.2.2.2.2.2.2.2.2.2.2.2.2.2.1.2.1 8,()):wrT.T),([]:List V))=some ((l,o++winB l.2.2.2.2.2.2.2.2.2.2.2.2.2.2.2.2.2.1,()),[]);rw[winB,zB]
def celB(v:List Int):List UInt8:=leB ((v.length:Nat):Int) 4++(v.map λx=>leB x 1).flatten
theorem zgo(v:List Int):((v.map λx=>leB x 1).flatten).length=v.length:=by
 induction v with
 |nil=>rfl
 |cons x v ih=>rw[qN,List.flatten_cons,zl,za0,ih,yT];omega
def zv9:HCtr:={ self:=wrT,k:=1,te:=5,et:=u8,sl:=λx=>x.2.1,args:=[],inv:=ginv,pre:=λx _=>[zp (ltC x.1)<=65536,zp x.2.1<=900000],res:=.unit,out:=λx _=>.ok ((),(x.1,(x.2.1:List UInt8)++celB x.1.2.2.2.2.2.2.2.2.2.2.2.2.2.2.2.2.2.2.1,())) }
set_option maxHeartbeats 1000000 in
theorem zsa:zcZ zf dG 24 zv9:=by
 refine zjS zam Tryz.func24 ⟨rfl,λ_=>rfl,λa h=>by cases h⟩ Tryz.call24 zeg ?_;rintro w0 O fix B ty hX x0 ⟨(l:lt.T),(o:List UInt8),⟨⟩⟩ ⟨⟩ ⟨hv,hl⟩;have hI:=zeM (ty:=ty) (ty':=ty) hX rfl x0;have hl:o.length<=900000:=hl;have hv:l.2.2.2.2.2.2.2.2.2.2.2.2.2.2.2.2.2.2.1.length<=65536:=hv;change AWP _ _ _ _ _ ⟨[(0,⟨.hptr,((0:Nat),(0:Nat))⟩)],[(0,some (.hbox ty [⟨.vptr lt,l⟩,⟨.obuf u8,(1:Nat)⟩])),(1,some (.buf 5 u8 o))],2⟩ _;have c1:(0:Int)<=4:=d_;have c2:(4:Int)<=8:=d_;have c3:o.length<=1000000:=o_;have c5:(0:Int)<=1:=d_;have c6:(1:Int)<=8:=d_;refine zaa ?_;refine zaj ?_;refine zat 3 zam ?_;refine xY (eqF0 _ _ rfl) hX zam rfl t_ ?_;refine xY (eqLd _ _ rfl) hX zam rfl t_ ?_;refine ki 4 hX zam zfR rfl t_ rfl rfl ⟨c1,c2,c3⟩ hI ?_;refine qu ?_;refine zak (Y':=⟨[(0,⟨.hptr,((0:Nat),(0:Nat))⟩)],[(0,some (.hbox ty [⟨.vptr lt,l⟩,⟨.obuf u8,(1:Nat)⟩])),(1,some (.buf 5 u8 (o++leB ((l.2.2.2.2.2.2.2.2.2.2.2.2.2.2.2.2.2.2.1.length:Nat):Int) 4)))],2⟩) ⟨⟨rfl,t_⟩,⟨rfl,rfl,t_⟩,rfl,rfl⟩ ?_;refine zaa ?_;refine zaj ?_;refine zat 2 zam ?_;refine xY (eqF0 _ _ rfl) hX zam rfl t_ ?_;refine xY (eqLd _ _ rfl) hX zam rfl t_ ?_;refine zau zam ?_;generalize hC:l.2.2.2.2.2.2.2.2.2.2.2.2.2.2.2.2.2.2.1=v at hv;have hC:(l.2.2.2.2.2.2.2.2.2.2.2.2.2.2.2.2.2.2.1:List Int)=v:=hC;refine zak (Y':=⟨[(0,⟨.hptr,((0:Nat),(0:Nat))⟩),(20,⟨ints,v⟩),(21,⟨i64,((v.length:Nat):Int)⟩),(22,⟨i64,(0:Int)⟩)],[(0,some (.hbox ty [⟨.vptr lt,l⟩,⟨.obuf u8,(1:Nat)⟩])),(1,some (.buf 5 u8 (o++leB ((v.length:Nat):Int) 4)))],2⟩) ⟨⟨rfl,rfl,rfl,rfl,t_⟩,⟨rfl,rfl,t_⟩,rfl,rfl⟩ ?_;refine zaa ?_;refine yK (ι:=Nat) (λk=>⟨[(0,⟨.hptr,((0:Nat),(0:Nat))⟩),(20,⟨ints,v⟩),(21,⟨i64,((v.length:Nat):Int)⟩),(22,⟨i64,(k:Int)⟩)],[(0,some (.hbox ty [⟨.vptr lt,l⟩,⟨.obuf u8,(1:Nat)⟩])),(1,some (.buf 5 u8 (o++leB ((v.length:Nat):Int) 4++((v.take k).map λx=>leB x 1).flatten)))],2⟩) (λk=>k<=v.length) (λk=>v.length-k) 0 o_ ⟨⟨rfl,rfl,rfl,rfl,t_⟩,⟨rfl,zbp (yE _).symm,t_⟩,rfl,rfl⟩ ?_;intro k hk;refine zaa (zaa (zab zam ?_));apply zap;refine zaN rfl (λhb=>?_) (λhb=>?_)
 .have hb:(k:Int)<(v.length:Nat):=hb;have x1:k<v.length:=o_;have n0:(0:Int)<=(k:Int):=o_;have eg:v.getD (k:Int).toNat 0=v[k]:=za4 x1;have c7:(o++leB ((v.length:Nat):Int) 4++((v.take k).map λx=>leB x 1).flatten).length<=1000000:=by
   rw[zl,zl,za0,zgo,zP];omega
  refine zaa (zaa (zab zam ?_));refine zaj ?_;refine ki 2 hX zam zfR rfl t_ rfl rfl ⟨c5,c6,c7⟩ hI ?_;refine qu ?_;refine zaa (zaa ?_);refine zac hX zam rfl ?_ ?_
  .exact zaP o_
  refine⟨k+1,by omega,by omega,⟨rfl,rfl,rfl,zce _,t_⟩,⟨rfl,zbp ?_,t_⟩,rfl,rfl⟩;rw[zN x1,xX,qb, <-eg, <-zB];simp;rfl
 .have hb:¬((k:Int)<(v.length:Nat)):=hb;have x2:k=v.length:=o_;subst x2;rw[yX];(repeat refine zaa (zaa (zab zam ?_)));refine zaa ?_;refine⟨.inl rfl,⟨_,rfl,u8,1,_,rfl,rfl,?_⟩,D2 rfl⟩;show some (((l,o++leB ((v.length:Nat):Int) 4++(v.map λx=>leB x 1).flatten,()):wrT.T),([]:List V))=some ((l,o++celB l.2.2.2.2.2.2.2.2.2.2.2.2.2.2.2.2.2.2.1,()),[]);rw[show(l.2.2.2.2.2.2.2.2.2.2.2.2.2.2.2.2.2.2.1:List Int)=v from hC,celB,zB]
def zv7:HCtr:={ self:=wrT,k:=1,te:=5,et:=u8,sl:=λx=>x.2.1,args:=[],inv:=ginv,pre:=λx _=>[zp x.1.2.2.2.2.2.2.2.2.2.2.2.2.2.2.2.2.2.2.2.1<=1000,zp x.2.1<=900000],res:=.unit,out:=λx _=>.ok ((),(x.1,(x.2.1:List UInt8)++x.1.2.2.2.2.2.2.2.2.2.2.2.2.2.2.2.2.2.2.2.1,())) }
set_option maxHeartbeats 1000000 in
theorem zr7:zcZ zf dG 25 zv7:=by
 refine zjS zam Tryz.func25 ⟨rfl,λ_=>rfl,λa h=>by cases h⟩ Tryz.call25 zeg ?_;rintro w0 O fix B ty hX hinv ⟨(l:lt.T),(o:List UInt8),⟨⟩⟩ ⟨⟩ ⟨hd,hl⟩;have hI:=zeM (ty:=ty) (ty':=ty) hX rfl hinv;have hl:o.length<=900000:=hl;change AWP _ _ _ _ _ ⟨[(0,⟨.hptr,((0:Nat),(0:Nat))⟩)],[(0,some (.hbox ty [⟨.vptr lt,l⟩,⟨.obuf u8,(1:Nat)⟩])),(1,some (.buf 5 u8 o))],2⟩ _;refine zpB (d:=2) (src:=.tmp 0) rfl (.cons (.of_eq (jc _) rfl (by intro h;cases h) (by intro t h;cases h;intro h;cases h) (.inr (by intro ev ev' h;simp[execOp,resolve,h])))<|.cons (.of_eq (jc _) rfl (by intro h;cases h) (by intro t h;cases h;intro h;cases h) (.inr (by intro ev ev' h;simp[execOp,resolve,h])))<|.cons (.of_eq (eqF1 _ _ rfl) rfl (by intro h;cases h) (by intro t h;cases h;intro h;cases h) (.inr (by intro ev ev' h;simp[execOp,resolve,h])))<|.cons (.of_eq (jc _) rfl (by intro h;cases h) (by intro t h;cases h;intro h;cases h) (.inr (by intro ev ev' h;simp[execOp,resolve,h])))<|.cons (.of_eq (jc _) rfl (by intro h;cases h) (by intro t h;cases h;intro h;cases h) (.inr (by intro ev ev' h;simp[execOp,resolve,h])))<|.cons (.of_eq (jc _) rfl (by intro h;cases h) (by intro t h;cases h;intro h;cases h) (.inr (by intro ev ev' h;simp[execOp,resolve,h])))<|.cons (.of_eq (eqF0 _ _ rfl) rfl (by intro h;cases h) (by intro t h;cases h;intro h;cases h) (.inr (by intro ev ev' h;simp[execOp,resolve,h])))<|.cons (.of_eq (eqLd _ _ rfl) rfl (by intro h;cases h) (by intro t h;cases h;intro h;cases h) (.inr (by intro ev ev' h;simp[execOp,resolve,h])))<|.cons (.of_eq (jc _) rfl (by intro h;cases h) (by intro t h;cases h;intro h;cases h) (.inr (by intro ev ev' h;simp[execOp,resolve,h])))<|.cons (.of_eq (jc _) rfl (by intro h;cases h) (by intro t h;cases h;intro h;cases h) (.inr (by intro ev ev' h;simp[execOp,resolve,h])))<|.cons (.of_eq (jc _) rfl (by intro h;cases h) (by intro t h;cases h;intro h;cases h) (.inr (by intro ev ev' h;simp[execOp,resolve,h])))<|.cons (.edge 0 rfl (by intro h;cases h) (by intro t h;cases h;intro h;cases h) (.inr (by intro ev ev' h;simp[execOp,resolve,h])))<|.cons (.of_eq (jc _) rfl (by intro h;cases h) (by intro t h;cases h;intro h;cases h) (.inl ⟨_,uG (i:=0) rfl,by decide,rfl⟩))<|.cons (.of_eq (eqF1 _ _ rfl) rfl (by intro h;cases h) (by intro t h;cases h;intro h;cases h) (.inr (by intro ev ev' h;simp[execOp,resolve,h])))<|.cons (.of_eq (jc _) rfl (by intro h;cases h) (by intro t h;cases h;intro h;cases h) (.inr (by intro ev ev' h;simp[execOp,resolve,h])))<|.nil) rfl rfl rfl rfl (by intro h;cases h) dM hX zam 12 (by kernel_rfl) rfl rfl ?_ ?_ ?_
 .trivial
 .show o.length+zp l.2.2.2.2.2.2.2.2.2.2.2.2.2.2.2.2.2.2.2.1<=1000000000;have hd:zp l.2.2.2.2.2.2.2.2.2.2.2.2.2.2.2.2.2.2.2.1<=1000:=hd;omega
 refine⟨.inl rfl,⟨_,rfl,u8,1,_,rfl,rfl,?_⟩,D2 rfl⟩;rfl
def drI(b:Bool):Int:=bif b then 1 else 0
def movB(m:mv.T):List UInt8:=leB m.1 8++(leB (drI m.2.1) 1++(leB m.2.2.1 8++(leB m.2.2.2.1 8++leB m.2.2.2.2.1 8)))
def zv8:HCtr:={ self:=wrT,k:=1,te:=5,et:=u8,sl:=λx=>x.2.1,args:=[],inv:=ginv,pre:=λx _=>[zp x.2.1<=900000],res:=.unit,out:=λx _=>.ok ((),(x.1,(x.2.1:List UInt8)++movB (ltM x.1),())) }
set_option maxHeartbeats 1000000 in
theorem zr9:zcZ zf dG 21 zv8:=by
 refine zjS zam Tryz.func21 ⟨rfl,λ_=>rfl,λa h=>by cases h⟩ Tryz.call21 zeg ?_;rintro w0 O fix B ty hX x0 ⟨(l:lt.T),(o:List UInt8),⟨⟩⟩ ⟨⟩ hl;have hI:=zeM (ty:=ty) (ty':=ty) hX rfl x0;have hl:o.length<=900000:=hl;change AWP _ _ _ _ _ ⟨[(0,⟨.hptr,((0:Nat),(0:Nat))⟩)],[(0,some (.hbox ty [⟨.vptr lt,l⟩,⟨.obuf u8,(1:Nat)⟩])),(1,some (.buf 5 u8 o))],2⟩ _;have c1:(0:Int)<=8:=d_;have c2:(8:Int)<=8:=d_;have d1:(0:Int)<=1:=d_;have d2:(1:Int)<=8:=d_;refine zaa (zaa (zaj ?_));refine zat 2 zam ?_;refine xY (eqF0 _ _ rfl) hX zam rfl t_ ?_;refine xY (eqLd _ _ rfl) hX zam rfl t_ ?_;refine zau zam ?_;refine zak (Y':=⟨[(0,⟨.hptr,((0:Nat),(0:Nat))⟩),(2,⟨.optr mv,⟨2,mv,.here⟩⟩)],[(0,some (.hbox ty [⟨.vptr lt,l⟩,⟨.obuf u8,(1:Nat)⟩])),(1,some (.buf 5 u8 o)),(2,some (.box mv (ltM l)))],3⟩) ⟨⟨rfl,rfl,t_⟩,⟨rfl,rfl,rfl,t_⟩,rfl,rfl⟩ ?_;refine xN hX 2 ?_;obtain⟨m,hm⟩:∃m,m=ltM l:=⟨_,rfl⟩;rw[<-hm];refine zaa (zaa (zab zam ?_));apply zap;refine za1 (Y':=⟨[(0,⟨.hptr,((0:Nat),(0:Nat))⟩),(2,⟨.vptr mv,m⟩),(3,⟨i64,drI m.2.1⟩)],[(0,some (.hbox ty [⟨.vptr lt,l⟩,⟨.obuf u8,(1:Nat)⟩])),(1,some (.buf 5 u8 o))],3⟩) ?_ ?_
 .refine zaa (zaa (zab zam ?_));refine zae rfl (λhb=>?_) (λhb=>?_)
  .have hb:m.2.1=true:=hb;refine zab zam ?_;exact⟨⟨rfl,rfl,vI64 (by rw[hb];rfl),t_⟩,⟨rfl,rfl,t_⟩,rfl,rfl⟩
  .have hb:m.2.1=false:=hb;apply zaf;exact⟨⟨rfl,rfl,vI64 (by rw[hb];rfl),t_⟩,⟨rfl,rfl,t_⟩,rfl,rfl⟩
 have e0:zp (o:List UInt8)<=1000000:=o_;apply zap;refine zaj ?_;refine zat 3 zam ?_;refine ki 0 hX zam zfR rfl t_ rfl rfl ⟨c1,c2,e0⟩ hI ?_;refine qu ?_;refine zak (Y':=⟨[(0,⟨.hptr,((0:Nat),(0:Nat))⟩),(2,⟨.vptr mv,m⟩),(3,⟨i64,drI m.2.1⟩)],[(0,some (.hbox ty [⟨.vptr lt,l⟩,⟨.obuf u8,(1:Nat)⟩])),(1,some (.buf 5 u8 (o++leB m.1 8)))],3⟩) ⟨⟨rfl,rfl,rfl,t_⟩,⟨rfl,rfl,t_⟩,rfl,rfl⟩ ?_;have e1:zp ((o++leB m.1 8):List UInt8)<=1000000:=by simp only[zl,za0];omega
 apply zap;refine zaj ?_;refine zat 2 zam ?_;refine ki 0 hX zam zfR rfl t_ rfl rfl ⟨d1,d2,e1⟩ hI ?_;refine qu ?_;refine zak (Y':=⟨[(0,⟨.hptr,((0:Nat),(0:Nat))⟩),(2,⟨.vptr mv,m⟩),(3,⟨i64,drI m.2.1⟩)],[(0,some (.hbox ty [⟨.vptr lt,l⟩,⟨.obuf u8,(1:Nat)⟩])),(1,some (.buf 5 u8 ((o++leB m.1 8)++leB (drI m.2.1) 1)))],3⟩) ⟨⟨rfl,rfl,rfl,t_⟩,⟨rfl,rfl,t_⟩,rfl,rfl⟩ ?_;have e2:zp (((o++leB m.1 8)++leB (drI m.2.1) 1):List UInt8)<=1000000:=by simp only[zl,za0];omega
 apply zap;refine zaj ?_;refine zat 3 zam ?_;refine ki 0 hX zam zfR rfl t_ rfl rfl ⟨c1,c2,e2⟩ hI ?_;refine qu ?_;refine zak (Y':=⟨[(0,⟨.hptr,((0:Nat),(0:Nat))⟩),(2,⟨.vptr mv,m⟩),(3,⟨i64,drI m.2.1⟩)],[(0,some (.hbox ty [⟨.vptr lt,l⟩,⟨.obuf u8,(1:Nat)⟩])),(1,some (.buf 5 u8 (((o++leB m.1 8)++leB (drI m.2.1) 1)++leB m.2.2.1 8)))],3⟩) ⟨⟨rfl,rfl,rfl,t_⟩,⟨rfl,rfl,t_⟩,rfl,rfl⟩ ?_;have e3:zp ((((o++leB m.1 8)++leB (drI m.2.1) 1)++leB m.2.2.1 8):List UInt8)<=1000000:=by simp only[zl,za0];omega
 apply zap;refine zaj ?_;refine zat 3 zam ?_;refine ki 0 hX zam zfR rfl t_ rfl rfl ⟨c1,c2,e3⟩ hI ?_;refine qu ?_;refine zak (Y':=⟨[(0,⟨.hptr,((0:Nat),(0:Nat))⟩),(2,⟨.vptr mv,m⟩),(3,⟨i64,drI m.2.1⟩)],[(0,some (.hbox ty [⟨.vptr lt,l⟩,⟨.obuf u8,(1:Nat)⟩])),(1,some (.buf 5 u8 ((((o++leB m.1 8)++leB (drI m.2.1) 1)++leB m.2.2.1 8)++leB m.2.2.2.1 8)))],3⟩) ⟨⟨rfl,rfl,rfl,t_⟩,⟨rfl,rfl,t_⟩,rfl,rfl⟩ ?_;have e4:zp (((((o++leB m.1 8)++leB (drI m.2.1) 1)++leB m.2.2.1 8)++leB m.2.2.2.1 8):List UInt8)<=1000000:=by simp only[zl,za0];omega
 refine zaj ?_;refine zat 3 zam ?_;refine ki 0 hX zam zfR rfl t_ rfl rfl ⟨c1,c2,e4⟩ hI ?_;refine qu ?_;refine⟨.inl rfl,⟨_,rfl,u8,1,((((o++leB m.1 8)++leB (drI m.2.1) 1)++leB m.2.2.1 8)++leB m.2.2.2.1 8)++leB m.2.2.2.2.1 8,rfl,rfl,?_⟩,D2 rfl⟩;show some (((l,((((o++leB m.1 8)++leB (drI m.2.1) 1)++leB m.2.2.1 8)++leB m.2.2.2.1 8)++leB m.2.2.2.2.1 8,()):wrT.T),([]:List V))=some ((l,o++movB (ltM l),()),[]);rw[<-hm,movB,zB,zB,zB,zB]
def zhD:List Cal:=[zma 0,zma 1,zma 2]
def zvp:Ctr:={ args:=[],pre:=λ_=>[],res:=.slice cal,own:=none,out:=λ_=>zhD }
def zvQ:Kn:={ dK with C:=[(82,zpd)] }
theorem zdP:KnOk zf dG zvQ:=zam.with (.cons zqu .nil)
def zo8(k:Nat):List Cal:=(zhD.take k)++zg (3-k) zCal
theorem zj7:yQ zf dG 61 zvp:=by
 refine ctr2 zdP Tryz.func61 Tryz.call61 ?_;rintro w0 X hX ⟨⟩ _
 iterate 3 (refine zaa (zaa (zab zdP ?_)))
 refine zaa ?_;refine yK (ι:=Nat) (λk=>⟨[(1,⟨.obuf cal,(0:Nat)⟩),(5,⟨i64,(3:Int)⟩),(6,⟨i64,(k:Int)⟩)],[(0,some (.buf 154 cal (zo8 k)))],1⟩) (λk=>k<=3) (λk=>3-k) 0 (zk _) ⟨⟨rfl,rfl,rfl,t_⟩,⟨rfl,t_⟩,rfl,rfl⟩ ?_;intro k hk;refine zaa (zaa (zab zdP ?_));refine zaa ?_;refine zaN rfl (λhb=>?_) (λhb=>?_)
 .
  apply zaf;have q0:=o_;have q2:(k:Int)<=2:=o_;have q1:inR .i64 ((k:Int)+1):=zah o_ o_;refine zaa (zaa (zab zdP ?_));have ql:(k:Int)<((zp (zo8 k):Nat):Int):=by
   have x0:k=0\/k=1\/k=2:=o_;rcases x0 with rfl|rfl|rfl<;>decide
  have x2:(k:Int).toNat<zp (zo8 k):=o_;refine zaa (zaa (zab zdP ?_));refine zaa (zab zdP ?_);refine⟨k+1,by omega,by omega,⟨rfl,rfl,rfl,t_⟩,⟨?_,t_⟩,rfl,rfl⟩;have x0:k=0\/k=1\/k=2:=o_;rcases x0 with rfl|rfl|rfl<;>rfl
 .
  have x1:k=3:=o_;subst x1;apply zan;refine zaa (zaa (zab zdP ?_));refine vo hX 0 ?_;exact zC ⟨.inr rfl,D1 rfl⟩
theorem zrA{r:List Nd}(h:wfS r=true)(hl:0<r.length):opsK (ndK r[0])=0:=by
 obtain⟨_,_,h3⟩:=zkm h;obtain⟨_,_,_,h4,_⟩:=h3 0 hl;have h5:opsK (ndK r[0])=0\/1<=opsK (ndK r[0]):=by
  unfold opsK;split
  .exact .inr d_
  .split
   .exact .inr d_
   .exact .inl rfl
 rcases h5 with h5|h5
 .exact h5
 .obtain⟨h6,h7⟩:=h4 h5;omega
theorem ztd:OneTy zf 215 .nilFunc:=⟨λw=>by simp[go_sem],λw=>by simp[go_sem],λw ev o h=>by
 unfold execOp;simp only[h];refine za7 ?_;simp[go_sem],rfl⟩
theorem zlY:OneTy zf 216 (.map none):=⟨λw=>by simp[go_sem],λw=>by simp[go_sem],λw ev o h=>by
 unfold execOp;simp only[h];refine za7 ?_;simp[go_sem],rfl⟩
theorem ztf{k:Nat}(hk:0<k):zjZ (.int .i64) (.int .i64 (k:Int)) [(.int .i64 0,.bool true)]=some none:=by
 have:uT (.int .i64) (.int .i64 (k:Int)) (.int .i64 0)=some false:=by
  simp[uT];omega
 show(match uT (.int .i64) (.int .i64 (k:Int)) (.int .i64 0) with |some true=>_|some false=>_|none=>_)=_;rw[this];rfl
def zve:Ctr:={ args:=[.slice nd,i64],pre:=λx=>[wfS x.1=true,x.2.1=0],res:=.tup (.slice nd) (.tup i64 .unit),own:=none,out:=λx=>((x.1:List Nd).take 1,(0:Int),()) }
def zsY:Kn:={ dK with C:=[(105,cWf),(107,zfZ)] }
theorem zeu:KnOk zf dG zsY:=zam.with (.cons ztV<|.cons zhP.lift .nil)
def mE0:List (zi×zi):=[(.int .i64 0,.bool true)]
theorem zpN{w1:zj}{X:Ownr}(hX:X.Ok w1)(hG:X.G=dG)(hK:X.K=4){r:List Nd}(hw:wfS r=true){ft fm:zy}{u:zi}{m:Nat}:
  AWP zf w1 X 34 (Tryz.f125.body.get rfl) ⟨[(0,⟨i64,(0:Int)⟩),(1,⟨.hptr,((3:Nat),(0:Nat))⟩),(2,⟨.optr (.slice nd),⟨0,.slice nd,.here⟩⟩),(3,⟨.hptr,((1:Nat),(0:Nat))⟩)],
   [(0,some (.box (.slice nd) r)),(1,some (.hbox ft [⟨.lit,u⟩])),(2,some (.mp m (λx=>x=[]))),(3,some (.hbox fm [⟨.lit,.map (some m)⟩]))],5⟩
   (λe Y=>(e=.normal\/e=.ret)/\(λv E nx=>v=⟨.junk,()⟩/\E=[(0,some (.box (.slice nd) r)),(1,some (.hbox ft [⟨.lit,u⟩])),(2,some (.mp m (λx=>x=mE0))),(3,some (.hbox fm [⟨.lit,.map (some m)⟩]))]/\nx=5) (rvOf Tryz.f125.results.toList Y) Y.E Y.nx):=by
 have x0:KnOk zf X.G zsY:=by rw[hG];exact zeu
 obtain⟨r1,r2,r3⟩:=zkm hw;have hl:0<r.length:=o_;obtain⟨n1,n2,n3,n4,n5⟩:=r3 0 hl;have ho:=zrA hw hl;change AWP _ _ _ _ _ _ _;refine zaa (zaa (zaj ?_));refine AL.getO zlY rfl rfl rfl rfl rfl rfl ?_;refine zat 1 x0 ?_;refine zpH (es:=[]) (j:=2) (r:=m) (kd:=.int .i64) (kt:=3) (et:=4) (by kernel_rfl) (by kernel_rfl) rfl rfl rfl rfl rfl rfl (ziM rfl) (λ_=>rfl) rfl ?_;refine qu ?_;refine zak (Y':=⟨[(0,⟨i64,(0:Int)⟩),(1,⟨.hptr,((3:Nat),(0:Nat))⟩),(2,⟨.optr (.slice nd),⟨0,.slice nd,.here⟩⟩),(3,⟨.hptr,((1:Nat),(0:Nat))⟩)],
  [(0,some (.box (.slice nd) r)),(1,some (.hbox ft [⟨.lit,u⟩])),(2,some (.mp m (λx=>x=mE0))),(3,some (.hbox fm [⟨.lit,.map (some m)⟩]))],5⟩) ⟨⟨rfl,rfl,rfl,rfl,t_⟩,⟨rfl,rfl,rfl,rfl,t_⟩,rfl,rfl⟩ ?_ (by rw[hK];exact zb rfl)
 have q0:(0:Int)<=0:=qs _;have q1:(0:Int)<((r.length:Nat):Int):=o_;have q3:=hl;have eg:r.getD (0:Int).toNat (zaD nd)=r[0]:=za4 (k:=0) hl;have q4:0<=(r.getD (0:Int).toNat (zaD nd)).1:=by rw[eg];show 0<=ndK r[0];omega
 have q5:(r.getD (0:Int).toNat (zaD nd)).1<((19:Nat):Int):=by rw[eg];show ndK r[0]<_;omega
 apply zap;refine zaa (zaa (zbF dM hX x0 8 (by kernel_rfl) rfl rfl ?_ ?_ ?_))
 .exact z_
 .trivial
 refine zak (Y':=⟨[(0,⟨i64,(0:Int)⟩),(1,⟨.hptr,((3:Nat),(0:Nat))⟩),(2,⟨.optr (.slice nd),⟨0,.slice nd,.here⟩⟩),(3,⟨.hptr,((1:Nat),(0:Nat))⟩),(5,⟨i64,(0:Int)⟩)],
  [(0,some (.box (.slice nd) r)),(1,some (.hbox ft [⟨.lit,u⟩])),(2,some (.mp m (λx=>x=mE0))),(3,some (.hbox fm [⟨.lit,.map (some m)⟩]))],5⟩) ⟨⟨rfl,rfl,rfl,rfl,vI64 ?_,t_⟩,⟨rfl,rfl,rfl,rfl,t_⟩,rfl,rfl⟩ ?_ (by rw[hK];exact zb rfl)
 .show(zx zbY (zx r (0:Int).toNat (zaD nd)).1.toNat (zaD shp)).1=0;rw[eg,show(r[0]).1=ndK r[0] from rfl,zks n2 n3,ho]
 iterate 2 (refine zaa (zaa (zab x0 ?_));refine zaL rfl ?_;apply zaf)
 exact⟨.inl rfl,rfl,rfl,rfl⟩
set_option maxHeartbeats 1000000 in
theorem zsG:yQ zf dG 108 zve:=by
 refine ctr2 zeu Tryz.func108 Tryz.call108 ?_;rintro w0 O hX ⟨(r:List Nd),(i:Int),⟨⟩⟩ ⟨hw,h0⟩;have hw:wfS r=true:=hw;have h0:i=0:=h0;subst h0;obtain⟨r1,r2,r3⟩:=zkm (r:=r) hw;have r2:r.length<=64:=r2;have hl:0<r.length:=o_;obtain⟨n1,n2,n3,n4,n5⟩:=r3 0 hl;have ho:opsK (ndK r[0])=0:=zrA (r:=r) hw hl;change AWP _ _ _ _ _ ⟨[(0,⟨.slice nd,r⟩),(1,⟨i64,(0:Int)⟩)],[],0⟩ _
 iterate 2 (refine zaa (zaa (zab zeu ?_)))
 refine zaa (zaa ?_);refine zae rfl (λhb=>?_) (λ_=>?_)
 .have hb:(!wfS r)=true:=hb;rw[hw]at hb;cases hb
 refine zaa (zaa (zab zeu ?_));refine zae rfl (λhb=>?_) (λ_=>?_)
 .have hb:decide ((0:Int)>=((r.length:Nat):Int))=true:=hb;have:=of_decide_eq_true hb;omega
 refine zaa ?_;have c1:(0:Int)<=((r.length:Nat):Int):=o_;have c2:((r.length:Nat):Int)<=1000000000:=o_
 iterate 2 (refine zaa (zaa (zab zeu ?_)))
 refine zak (Y':=⟨[(1,⟨i64,(0:Int)⟩),(2,⟨.optr (.slice nd),⟨0,.slice nd,.here⟩⟩),(6,⟨.obuf i64,(1:Nat)⟩),(7,⟨.lit,.slice none 0 0⟩)],
  [(0,some (.box (.slice nd) r)),(1,some (.buf 3 i64 (zg r.length 0)))],2⟩) ⟨⟨rfl,rfl,rfl,rfl,t_⟩,⟨rfl,rfl,t_⟩,rfl,rfl⟩ ?_
 refine zaa (zaa (zaj ?_));refine zpD ztd hX rfl rfl rfl rfl ?_;refine qu ?_;refine zaa (zaa (zaj ?_));refine zpE hX rfl rfl rfl rfl λm=>?_;refine zpD zlY hX rfl rfl rfl rfl ?_;refine AL.setO zlY rfl rfl rfl rfl rfl rfl rfl rfl ?_;refine qu ?_;refine AWP.rename rfl [(0,0),(1,4),(2,1),(3,2),(4,3)] 5 ?_;refine zak (Y':=⟨[(1,⟨i64,(0:Int)⟩),(2,⟨.optr (.slice nd),⟨0,.slice nd,.here⟩⟩),(6,⟨.obuf i64,(4:Nat)⟩),(7,⟨.lit,.slice none 0 0⟩),(8,⟨.hptr,((1:Nat),(0:Nat))⟩),(9,⟨.hptr,((3:Nat),(0:Nat))⟩)],
  [(0,some (.box (.slice nd) r)),(1,some (.hbox 215 [⟨.lit,.nilFunc⟩])),(2,some (.mp m (λx=>x=[]))),(3,some (.hbox 216 [⟨.lit,.map (some m)⟩])),(4,some (.buf 3 i64 (zg r.length 0)))],5⟩) ⟨⟨rfl,rfl,rfl,rfl,rfl,rfl,t_⟩,⟨rfl,rfl,rfl,rfl,rfl,t_⟩,rfl,rfl⟩ ?_
 refine zfB 4 hX rfl rfl rfl λw1 X' x1 hG hK x5 hD _ _ _ _=>?_;have x0:KnOk zf X'.G zsY:=by rw[hG];exact zeu
 obtain⟨G',O',K',fix,D',x3,B'⟩:=X';obtain rfl:G'=dG:=hG;obtain rfl:K'=4:=hK;refine zaa (zaa (zaj ?_));refine zpG (rc:=[]) (cp:=[3,0,1]) rfl rfl rfl rfl rfl rfl rfl ?_;refine AL.setO ztd rfl rfl rfl rfl rfl rfl rfl rfl ?_;refine qu ?_;obtain⟨u,hu⟩:∃u,u=Value.func (.func 125) (fixP ⟨dG,O',4,fix,D',x3,B'⟩ []) (fixP ⟨dG,O',4,fix,D',x3,B'⟩ [3,0,1]):=⟨_,rfl⟩;refine zak (Y':=⟨[(1,⟨i64,(0:Int)⟩),(2,⟨.optr (.slice nd),⟨0,.slice nd,.here⟩⟩),(6,⟨.obuf i64,(4:Nat)⟩),(7,⟨.lit,.slice none 0 0⟩),(8,⟨.hptr,((1:Nat),(0:Nat))⟩),(9,⟨.hptr,((3:Nat),(0:Nat))⟩)],
  [(0,some (.box (.slice nd) r)),(1,some (.hbox 215 [⟨.lit,u⟩])),(2,some (.mp m (λx=>x=[]))),(3,some (.hbox 216 [⟨.lit,.map (some m)⟩])),(4,some (.buf 3 i64 (zg r.length 0)))],5⟩) ⟨⟨rfl,rfl,rfl,rfl,rfl,rfl,t_⟩,⟨rfl,by rw[hu];rfl,rfl,rfl,rfl,t_⟩,rfl,rfl⟩ ?_
 refine zaa (zaa (zaj ?_));refine AL.getO ztd rfl rfl rfl rfl rfl rfl ?_;refine zat 1 x0 ?_;refine AL.subV 4 x1 rfl rfl Tryz.call125 rfl rfl (rc:=[]) (cp:=[3,0,1]) (congrArg (λu=>(⟨.lit,u⟩:V)) hu) rfl [] [⟨.hptr,((3:Nat),(0:Nat))⟩,⟨.optr (.slice nd),⟨0,.slice nd,.here⟩⟩,⟨.hptr,((1:Nat),(0:Nat))⟩] rfl rfl rfl
  (N:=λv E nx=>v=⟨.junk,()⟩/\E=[(0,some (.box (.slice nd) r)),(1,some (.hbox 215 [⟨.lit,u⟩])),(2,some (.mp m (λx=>x=mE0))),(3,some (.hbox 216 [⟨.lit,.map (some m)⟩]))]/\nx=5)
  (E1:=[(0,some (.box (.slice nd) r)),(1,some (.hbox 215 [⟨.lit,u⟩])),(2,some (.mp m (λx=>x=[]))),(3,some (.hbox 216 [⟨.lit,.map (some m)⟩]))])
  (hw:=λw2 X2 h1 h2 h3 h4 h5 _ _ _=>zbP Tryz.func125 rfl rfl (.inl rfl) h5 h4<|zpN (r:=r) (u:=u) (ft:=215) (fm:=216) (m:=m) h1 h2 h3 hw) (λv E nx h=>?_) (λv E nx h=>?_)
 .obtain⟨rfl,rfl,rfl⟩:=h;rfl
 obtain⟨rfl,rfl,rfl⟩:=h;refine qu ?_;refine zak (Y':=⟨[(7,⟨.lit,.slice none 0 0⟩),(2,⟨.optr (.slice nd),⟨0,.slice nd,.here⟩⟩),(6,⟨.obuf i64,(4:Nat)⟩),(9,⟨.hptr,((3:Nat),(0:Nat))⟩)],[(0,some (.box (.slice nd) r)),(3,some (.hbox 216 [⟨.lit,.map (some m)⟩])),(2,some (.mp m (λx=>x=mE0))),(4,some (.buf 3 i64 (zg r.length 0)))],5⟩) ⟨⟨rfl,rfl,rfl,rfl,t_⟩,⟨rfl,rfl,rfl,rfl,t_⟩,rfl,rfl⟩ ?_;refine zeB x1 7 104 nd rfl rfl rfl ?_;refine zaa (zaa (zab x0 ?_));refine zaa ?_;refine yK (ι:=Nat) (λk=>⟨[(7,⟨.obuf nd,(5:Nat)⟩),(2,⟨.optr (.slice nd),⟨0,.slice nd,.here⟩⟩),(6,⟨.obuf i64,(4:Nat)⟩),(9,⟨.hptr,((3:Nat),(0:Nat))⟩),(33,⟨.slice nd,r⟩),(34,⟨i64,((r.length:Nat):Int)⟩),(35,⟨i64,(k:Int)⟩)],[(0,some (.box (.slice nd) r)),(3,some (.hbox 216 [⟨.lit,.map (some m)⟩])),(2,some (.mp m (λx=>x=mE0))),(4,some (.buf 3 i64 (zg r.length 0))),(5,some (.buf 104 nd ((r.take 1).take k)))],6⟩) (λk=>k<=r.length) (λk=>r.length-k) 0 (zk _) ⟨⟨rfl,rfl,rfl,rfl,rfl,rfl,rfl,t_⟩,⟨rfl,rfl,rfl,rfl,rfl,t_⟩,rfl,rfl⟩ ?_;intro k hk;refine zaa (zaa (zab x0 ?_));refine zaa ?_;refine zaN rfl (λhb=>?_) (λhb=>?_)
 .have hb:(k:Int)<((r.length:Nat):Int):=hb;have x4:k<r.length:=o_;have z0:(0:Int)<=(k:Int):=o_;have zt:(k:Int).toNat<r.length:=o_;have eg:r.getD (k:Int).toNat (zaD nd)=r[k]:=za4 x4;have q1:inR .i64 ((k:Int)+1):=zah o_ o_;apply zaf;refine zaa (zaa (zab x0 ?_));refine zaa (zaj ?_);refine AL.getO zlY rfl rfl rfl rfl rfl rfl ?_;refine zat 1 x0 ?_;rcases wy k with rfl|hk0
  .refine zki (es:=mE0) (j:=2) (r:=m) (kd:=.int .i64) (kt:=3) (et:=4) (by kernel_rfl) (by kernel_rfl) rfl rfl rfl rfl rfl rfl rfl (ziM rfl) (z:=.bool false) (λw=>by simp[go_sem]) (x:=some (.bool true)) rfl ⟨.bool,true⟩ (λ_ _ _=>rfl) rfl ?_;refine qu ?_;refine zbu rfl ?_;refine zak (Y':=⟨[(7,⟨.obuf nd,(5:Nat)⟩),(10,⟨i64,(0:Int)⟩),(11,⟨.optr nd,⟨6,nd,.here⟩⟩),(2,⟨.optr (.slice nd),⟨0,.slice nd,.here⟩⟩),(6,⟨.obuf i64,(4:Nat)⟩),(9,⟨.hptr,((3:Nat),(0:Nat))⟩),(33,⟨.slice nd,r⟩),(34,⟨i64,((r.length:Nat):Int)⟩),(35,⟨i64,(0:Int)⟩)],[(0,some (.box (.slice nd) r)),(3,some (.hbox 216 [⟨.lit,.map (some m)⟩])),(2,some (.mp m (λx=>x=mE0))),(4,some (.buf 3 i64 (zg r.length 0))),(5,some (.buf 104 nd [])),(6,some (.box nd r[0]))],7⟩) ⟨⟨rfl,rfl,rfl,rfl,rfl,rfl,rfl,rfl,rfl,t_⟩,⟨rfl,rfl,rfl,rfl,rfl,zaT eg,t_⟩,rfl,rfl⟩ ?_;have p1:(1:Int)<=opsK (ndK r[0])->0<=ndL r[0]/\ndL r[0]<(((zg r.length (0:Int)).length:Nat):Int):=λh=>by rw[ho]at h;omega
   have p2:opsK (ndK r[0])=2->0<=ndR r[0]/\ndR r[0]<(((zg r.length (0:Int)).length:Nat):Int):=λh=>by rw[ho]at h;omega
   refine zaa (zaa (zaj ?_));refine zat 3 x0 ?_;refine AL.turn x1 ztH.lift (a0:=.tmp 43) (zas:=[.tmp 44]) (az:=.tmp 45) rfl rfl rfl rfl rfl rfl rfl rfl d_ rfl rfl t_ ⟨zk _,n1,n2,n3,p1,p2⟩ rfl rfl ?_;refine zau x0 ?_;have x2: []++[putN r[0] (zg r.length 0)]=r.take 1:=by
    unfold putN;rw[show r[0].1=ndK r[0] from rfl,ho,if_neg d_,if_neg d_,zN hl];rfl
   refine zak (Y':=⟨[(7,⟨.obuf nd,(5:Nat)⟩),(10,⟨i64,(0:Int)⟩),(2,⟨.optr (.slice nd),⟨0,.slice nd,.here⟩⟩),(6,⟨.obuf i64,(4:Nat)⟩),(9,⟨.hptr,((3:Nat),(0:Nat))⟩),(33,⟨.slice nd,r⟩),(34,⟨i64,((r.length:Nat):Int)⟩),(35,⟨i64,(0:Int)⟩)],[(0,some (.box (.slice nd) r)),(3,some (.hbox 216 [⟨.lit,.map (some m)⟩])),(2,some (.mp m (λx=>x=mE0))),(4,some (.buf 3 i64 (zg r.length 0))),(5,some (.buf 104 nd (r.take 1)))],7⟩) ⟨⟨rfl,rfl,rfl,rfl,rfl,rfl,rfl,rfl,t_⟩,⟨rfl,rfl,rfl,rfl,by rw[<-x2];rfl,t_⟩,rfl,rfl⟩ ?_;have t1:(r.take 1).length=1:=by rw[zP];omega
   have u1:inR .i64 ((((r.take 1).length:Nat):Int)-1):=zah o_ o_;have u2:(0:Int)<(((zg r.length (0:Int)).length:Nat):Int):=by rw[qf];omega
   have u3:(0:Int).toNat<(zg r.length (0:Int)).length:=by rw[qf];omega
   have u4:(0:Int)<=0:=qs _;refine zaa (zaa (zab x0 ?_));refine zaa (zab x0 ?_);refine⟨1,by omega,by omega,⟨rfl,rfl,rfl,rfl,rfl,rfl,rfl,t_⟩,⟨rfl,rfl,rfl,?_,by rw[qZ];rfl,t_⟩,rfl,rfl⟩;have e0:(zg r.length (0:Int)).set 0 ((((r.take 1).length:Nat):Int)-1)=zg r.length 0:=by
    rw[t1];apply List.ext_getElem
    .simp
    .intro i h1 h2;simp[List.getElem_set]
   exact congrArg (λl=>some (OObj.buf 3 i64 l)) e0
  .refine zki (es:=mE0) (j:=2) (r:=m) (kd:=.int .i64) (kt:=3) (et:=4) (by kernel_rfl) (by kernel_rfl) rfl rfl rfl rfl rfl rfl rfl (ziM rfl) (z:=.bool false) (λw=>by simp[go_sem]) (x:=none) (ztf hk0) ⟨.bool,false⟩ (λ_ _ _=>rfl) rfl ?_;refine qu ?_;refine zaL rfl ?_;apply zaf;refine zaa (zab x0 ?_);refine⟨k+1,by omega,by omega,⟨rfl,rfl,rfl,rfl,rfl,rfl,rfl,t_⟩,⟨rfl,rfl,rfl,rfl,?_,t_⟩,rfl,rfl⟩;have e0:(r.take 1).take (k+1)=(r.take 1).take k:=by rw[qZ,qZ,jI o_,jI o_]
   exact congrArg (λl=>some (OObj.buf 104 nd l)) e0.symm
 .
  obtain rfl:k=r.length:=o_;apply zan;have e0:(r.take 1).take r.length=r.take 1:=by rw[qZ,jI o_]
  rw[e0];refine zaa (zaa (zab x0 ?_));refine vo x1 4 ?_;exact zC ⟨.inr rfl,D2 rfl⟩
def zMv':mv.T:=(0,false,0,0,0,())
def movG(ms:List mv.T):Prop:=ms.length<=64/\(∀m∈ms,mvOK m=true)/\∀i,i+1<ms.length->(ms.getD i zMv').1<(ms.getD (i+1) zMv').1
def sndG(s:se.T):Prop:=wfS s.1=true/\wthn s.2.1 0 1439=true/\wthn s.2.2.1 1 10080=true/\(1<=zp s.2.2.2.1/\zp s.2.2.2.1<=32)/\wthn s.2.2.2.2.1 0 2=true/\wthn s.2.2.2.2.2.1 0 2=true/\movG s.2.2.2.2.2.2.1
noncomputable def cSnd:Ctr:={ args:=[se],pre:=λx=>[sndG x.1],res:=.bool,own:=none,out:=λ_=>true }
noncomputable def kSnd:Kn:={ dK with C:=[(108,zve),(109,cIn),(110,cMv)] }
theorem zcz:KnOk zf dG kSnd:=zam.with (.cons zsG<|.cons zhO<|.cons zof .nil)
set_option maxHeartbeats 1000000 in
theorem zlE:yQ zf dG 81 cSnd:=by
 refine ctr2 zcz Tryz.func81 Tryz.call81 ?_;rintro w0 X hX ⟨⟨(ru:List nd.T),(mi:Int),(le:Int),(zo:List UInt8),(ga:Int),(fo:Int),(mo:List mv.T),⟨⟩⟩,⟨⟩⟩ hp;obtain⟨h1,h2,h3,⟨h4,x1⟩,h5,h6,h7,h8,h9⟩:=hp;have h4:1<=zo.length:=h4;have x1:zo.length<=32:=x1;have h5:wthn ga 0 2=true:=h5;have h6:wthn fo 0 2=true:=h6;have h7:mo.length<=64:=h7;have h8:∀m∈mo,mvOK m=true:=h8;have h9:∀i,i+1<mo.length->(mo.getD i zMv').1<(mo.getD (i+1) zMv').1:=h9;change AWP _ _ _ _ _ ⟨[(0,⟨se,(ru,mi,le,zo,ga,fo,mo,())⟩)],[],0⟩ _;refine zaa (zaa (zab zcz ?_));refine xN hX 1 ?_;have p0:(0:Int)=0:=rfl
 iterate 2 (refine zaa (zaa (zab zcz ?_)))
 refine zaL rfl ?_;apply zaf;refine zaa (zaa (zab zcz ?_));have hz:wthn ((zo.length:Nat):Int) 1 32=true:=by
  unfold wthn;rw[decide_eq_true o_,decide_eq_true o_];rfl
 refine zae rfl (λhb=>?_) (λ_=>?_)
 .exfalso;have hb:(bif (bif (bif (bif (bif (!wthn mi 0 1439) then true else !wthn le 1 10080) then true else !wthn ga 0 2) then true else !wthn fo 0 2) then true else !wthn ((zo.length:Nat):Int) 1 32) then true else decide (((mo.length:Nat):Int)>64))=true:=hb;rw[h2,h3,h5,h6,hz,show decide (((mo.length:Nat):Int)>64)=false from decide_eq_false o_]at hb;cases hb
 apply zaf;refine zaa (zaa (zab zcz ?_));refine zak (Y':=⟨[(1,⟨.vptr se,(ru,mi,le,zo,ga,fo,mo,())⟩),(51,⟨.slice mv,mo⟩),(52,⟨i64,((mo.length:Nat):Int)⟩),(53,⟨i64,(0:Int)⟩)],[],0⟩) ⟨⟨rfl,rfl,rfl,rfl,t_⟩,t_,rfl,rfl⟩ ?_;refine zaa ?_;refine yK (ι:=Nat) (λk=>⟨[(1,⟨.vptr se,(ru,mi,le,zo,ga,fo,mo,())⟩),(51,⟨.slice mv,mo⟩),(52,⟨i64,((mo.length:Nat):Int)⟩),(53,⟨i64,(k:Int)⟩)],[],0⟩) (λk=>k<=mo.length) (λk=>mo.length-k) 0 (zk _) ⟨⟨rfl,rfl,rfl,rfl,t_⟩,t_,rfl,rfl⟩ ?_;intro k hk;refine zaa (zaa (zab zcz ?_));refine zaa ?_;refine zae rfl (λhb=>?_) (λhb=>?_)
 .have hb:decide ((k:Int)<((mo.length:Nat):Int))=true:=hb;have hb:=of_decide_eq_true hb;have x0:k<mo.length:=o_;have z0:(0:Int)<=(k:Int):=o_;have zt:(k:Int).toNat<mo.length:=o_;have eg:mo.getD (k:Int).toNat (zaD mv)=mo[k]:=za4 x0;have hm:=h8 _ (qc x0);have hs:0<k->(mo.getD (k-1) zMv').1<mo[k].1:=λh0=>by
   have:=h9 (k-1) o_;rwa[show k-1+1=k by omega,zH (i:=k),zR x0]at this
  have q1:inR .i64 ((k:Int)+1):=zah o_ o_;have q2:inR .i64 ((k:Int)-1):=zah o_ o_;apply zaf;refine zaa (zaa (zab zcz ?_));refine zak (Y':=⟨[(1,⟨.vptr se,(ru,mi,le,zo,ga,fo,mo,())⟩),(5,⟨i64,(k:Int)⟩),(6,⟨.optr mv,⟨0,mv,.here⟩⟩),(51,⟨.slice mv,mo⟩),(52,⟨i64,((mo.length:Nat):Int)⟩),(53,⟨i64,(k:Int)⟩)],[(0,some (.box mv mo[k]))],1⟩) ⟨⟨rfl,rfl,rfl,rfl,rfl,rfl,t_⟩,⟨zaT eg,t_⟩,rfl,rfl⟩ ?_;generalize mo[k]=m at hm hs;refine xN hX 6 ?_;rcases wy k with rfl|h0
  .apply zap;refine zaa (zaa (zcE 19 dM zcz rfl ?_));refine zae rfl (λhb=>?_) (λ_=>?_)
   .exfalso;have hb:(bif !mvOK m then true else(bif decide (((0:Nat):Int)>0) then _ else false))=true:=hb;rw[hm,show decide (((0:Nat):Int)>0)=false from by decide]at hb;cases hb
   apply zaf;refine zaa (zab zcz ?_);exact⟨1,by omega,by omega,⟨rfl,rfl,rfl,rfl,t_⟩,t_,rfl,rfl⟩
  .have qi:(0:Int)<=(k:Int)-1:=o_;have qj:(k:Int)-1<((mo.length:Nat):Int):=o_;have qt:((k:Int)-1).toNat<mo.length:=o_;apply zap;refine zaa (zaa (zcE 19 dM zcz rfl ?_));refine zae rfl (λhb=>?_) (λ_=>?_)
   .exfalso;have hb:(bif !mvOK m then true else(bif decide ((k:Int)>0) then decide (m.1<=(mo.getD ((k:Int)-1).toNat (zaD mv)).1) else false))=true:=hb;have hs:=hs h0;rw[hm,show decide ((k:Int)>0)=true from decide_eq_true o_,show((k:Int)-1).toNat=k-1 by omega,show decide (m.1<=(mo.getD (k-1) (zaD mv)).1)=false from decide_eq_false (Int.not_le.2 hs)]at hb;cases hb
   apply zaf;refine zaa (zab zcz ?_);exact⟨k+1,by omega,by omega,⟨rfl,rfl,rfl,rfl,t_⟩,t_,rfl,rfl⟩
 .
  apply zan;refine zaa (zaa (zab zcz ?_));exact zC ⟨.inr rfl,D1 rfl⟩
theorem zqW:∀c∈zhD,zpa c:=λc hc=>by
 simp only[zhD,zE,zU,or_false]at hc;rcases hc with rfl|rfl|rfl<;>(refine⟨by decide,by decide,by decide,by decide,by decide,by decide,by decide⟩)
noncomputable def cSeV:Ctr:={ args:=[se,.slice cal],pre:=λx=>[sndG x.1,zdi x.1.1=0,x.2.1=zhD],res:=i64,own:=none,out:=λ_=>(0:Int) }
noncomputable def kSeV:Kn:={ dK with C:=[(80,ztr),(81,cSnd)] }
theorem zfL:KnOk zf dG kSeV:=zam.with (.cons zsd<|.cons zlE .nil)
theorem zmI:yQ zf dG 60 cSeV:=by
 refine ctr2 zfL Tryz.func60 Tryz.call60 ?_;rintro w0 X hX ⟨(s:se.T),(cs:List Cal),⟨⟩⟩ hp;obtain⟨hs,hv,hc⟩:sndG s/\zdi s.1=0/\cs=zhD:=hp;subst hc;have x2:=hs;obtain⟨h1,h2,h3,⟨h4,x3⟩,h5,h6,h7,h8,h9⟩:=hs;have x0:zp zhD=3:=rfl;have x1:=zqW;change AWP _ _ _ _ _ ⟨[(0,⟨se,s⟩),(1,⟨.slice cal,zhD⟩)],[],0⟩ _;refine zaa (zaa (zab zfL ?_));refine xN hX 2 ?_;refine zaa (zaa (zab zfL ?_ (hp:=by exact⟨x0,x1⟩)));refine zak (Y':=⟨[(2,⟨.vptr se,s⟩),(5,⟨i64,(0:Int)⟩)],[],0⟩) ⟨⟨rfl,vI64 hv,t_⟩,t_,rfl,rfl⟩ ?_;refine zaa (zaa (zab zfL ?_));refine zae rfl (λhb=>?_) (λ_=>?_)
 .exfalso;have hb:(bif (bif false then true else decide (((zp s.2.2.2.1:Nat):Int)>32)) then true else decide (((zp s.2.2.2.2.2.2.1:Nat):Int)>64))=true:=hb;rw[show decide (((zp s.2.2.2.1:Nat):Int)>32)=false from decide_eq_false o_,show decide (((zp s.2.2.2.2.2.2.1:Nat):Int)>64)=false from decide_eq_false o_]at hb;cases hb
 refine zaa (zaa (zab zfL ?_));refine zaL rfl ?_;apply zaf;refine zaa (zaa (zab zfL ?_));exact zC ⟨.inr rfl,D1 rfl⟩
def srvN(n:Int):Bool:=bif decide (0<=n) then decide (n<16) else false
def cSrv:Ctr:={ args:=[i64],pre:=λ_=>[],res:=.bool,own:=none,out:=λx=>srvN x.1 }
theorem zuc:yQ zf dG 56 cSrv:=by
 refine ctr2 zam Tryz.func56 Tryz.call56 ?_;rintro w0 X hX ⟨n,⟨⟩⟩ _
 repeat refine zaa (zaa (zab zam ?_))
 exact zC ⟨.inr rfl,D1 rfl⟩
def serC(l:lt.T):Prop:=za3 l.1 10=true/\¬(zdc (ltS l)=true/\(l.1=8\/nAt l 7=1))
def zdr(l:lt.T):Prop:=((1<=l.1/\l.1<=18)/\srvN l.2.1=true/\srvN l.2.2.1=true/\l.2.1≠l.2.2.1)/\numG l/\othG l/\(ltC l).length<=65536/\(serC l->sndG (ltS l)/\zdi (ltS l).1=0)/\(ltD l).length=32
noncomputable def cVal:Ctr:={ args:=[lt],pre:=λx=>[zdr x.1],res:=i64,own:=none,out:=λ_=>(0:Int) }
noncomputable def kVal:Kn:={ dK with C:=[(56,cSrv),(57,cVN),(58,cOt),(27,cUs),(59,cNoS),(61,zvp),(60,cSeV)] }
theorem zbZ:KnOk zf dG kVal:=zam.with (.cons zuc<|.cons zgv<|.cons zhs<|.cons zgw<|.cons zcS<|.cons zj7<|.cons zmI .nil)
set_option maxHeartbeats 2000000 in
theorem zpO:yQ zf dG 19 cVal:=by
 refine ctr2 zbZ Tryz.func19 Tryz.call19 ?_;rintro w0 X hX ⟨(l:lt.T),⟨⟩⟩ hp;have hg:zdr l:=hp;obtain⟨⟨⟨x1,x0⟩,hf,ht,x2⟩,hN,hO,hC,hS,_⟩:=hg;obtain⟨s1,s2,s3⟩:=hN.2.1;have x3:=hN;have x4:=hO;change AWP _ _ _ _ _ ⟨[(0,⟨lt,l⟩)],[],0⟩ _;refine zaa (zaa (zab zbZ ?_));refine xN hX 1 ?_;refine zaa (zaa (zab zbZ ?_));have e1:(bif decide (l.1<1) then true else decide (l.1>18))=false:=by
  rw[show decide (l.1<1)=false from decide_eq_false (kw.2 x1),show decide (l.1>18)=false from decide_eq_false (kw.2 x0)];rfl
 have e2:(bif (bif decide (l.1<1) then true else decide (l.1>18)) then true else !srvN l.2.1)=false:=by rw[e1,hf];rfl
 refine zaa (zaa (zaj ?_));refine zat 9 zbZ ?_
 iterate 5 (refine AL.guardT 8 13 false rfl rfl (zcp e1) rfl ?_;refine zat 1 zbZ ?_)
 refine zat 2 zbZ ?_
 iterate 5 (refine AL.guardT 15 20 false rfl rfl (zcp e2) rfl ?_;refine zat 1 zbZ ?_)
 refine zau zbZ ?_;refine zae rfl (λhb=>?_) (λ_=>?_)
 .exfalso;have hb:(bif (bif (bif (bif decide (l.1<1) then true else decide (l.1>18)) then true else !srvN l.2.1) then true else !srvN l.2.2.1) then true else(l.2.1==l.2.2.1))=true:=hb;rw[hf,ht,show decide (l.1<1)=false from decide_eq_false (kw.2 x1),show decide (l.1>18)=false from decide_eq_false (kw.2 x0),show(l.2.1==l.2.2.1)=false from beq_eq_false_iff_ne.2 x2]at hb;cases hb
 refine zaa (zaa (zab zbZ ?_));refine zaL rfl ?_;refine zaa (zaa (zab zbZ ?_));refine zae rfl (λhb=>?_) (λ_=>?_)
 .exfalso;have hb:decide (((zp (ltC l):Nat):Int)>65536)=true:=hb;have:=of_decide_eq_true hb;omega
 refine zaa (zaa (zab zbZ ?_));cases hu:za3 l.1 10 with
 |false=>
  refine zae rfl (λ_=>?_) (λhb=>?_)
  .apply zaf;refine zae rfl (λ_=>?_) (λhb=>?_)
   .refine zaa (zaa (zab zbZ ?_));exact zC ⟨.inr rfl,D1 rfl⟩
   .have hb:(!za3 l.1 10)=false:=hb;rw[hu]at hb;cases hb
  .have hb:(!za3 l.1 10)=false:=hb;rw[hu]at hb;cases hb
 |true=>
  refine zae rfl (λhb=>?_) (λ_=>?_)
  .have hb:(!za3 l.1 10)=true:=hb;rw[hu]at hb;cases hb
  refine zaa (zab zbZ ?_);refine zae rfl (λ_=>?_) (λhb=>?_)
  .refine zaa (zaa (zab zbZ ?_));exact zC ⟨.inr rfl,D1 rfl⟩
  have hb:(bif zdc (ltS l) then(bif (l.1==8) then true else(nAt l 7==1)) else false)=false:=hb;have hc:serC l:=⟨hu,λ⟨h1,h2⟩=>by
   rw[h1,cond_true]at hb;rcases h2 with h2|h2
   .rw[h2]at hb;cases hb
   .rw[h2]at hb;cases h8:(l.1==8) with
    |true=>rw[h8]at hb;cases hb
    |false=>rw[h8]at hb;cases hb⟩
  obtain⟨c1,c2⟩:=hS hc;have c3:zhD=zhD:=rfl;apply zaf;apply zap;refine zaa (zaa (zcE 3 dM zbZ rfl ?_));exact zC ⟨.inr rfl,D1 rfl⟩
def zbO(l:List Int):List UInt8:=(l.map λn=>leB n 8).flatten
theorem zbC(l:List Int):(zbO l).length=8*l.length:=by
 induction l with
 |nil=>rfl
 |cons x l ih=>
  show(leB x 8++zbO l).length=_;rw[zl,za0,ih,yT];omega
theorem zmY(x:Int)(l:List Int):zbO (x::l)=leB x 8++zbO l:=rfl
theorem zn4(l m:List Int):zbO (l++m)=zbO l++zbO m:=by unfold zbO;rw[xX,qb]
def u64B(n:Int)(k:Int):UInt8:=zM (BitVec.toNat (zV 64 n >>> k.toNat))
theorem zsi(n:Int):∀k:Nat,k<8->u64B n (8*(k:Int))=zM (shR n k%256).toNat:=by
 have x0:∀(a b:Nat),a%256=b%256->zM a=zM b:=λa b h=>by
  apply UInt8.toNat_inj.1;rw[jd,jd];exact h
 intro k hk;unfold u64B;apply x0;rw[BitVec.toNat_ushiftRight,ky,Nat.shiftRight_eq_div_pow];rcases (show k=0\/k=1\/k=2\/k=3\/k=4\/k=5\/k=6\/k=7 by omega) with rfl|rfl|rfl|rfl|rfl|rfl|rfl|rfl<;>simp only[shR,show((2^64:Nat):Int)=18446744073709551616 from rfl]
 .rw[show(2:Nat)^(8*((0:Nat):Int)).toNat=1 from rfl];omega
 .rw[show(2:Nat)^(8*((1:Nat):Int)).toNat=256 from rfl];omega
 .rw[show(2:Nat)^(8*((2:Nat):Int)).toNat=65536 from rfl];omega
 .rw[show(2:Nat)^(8*((3:Nat):Int)).toNat=16777216 from rfl];omega
 .rw[show(2:Nat)^(8*((4:Nat):Int)).toNat=4294967296 from rfl];omega
 .rw[show(2:Nat)^(8*((5:Nat):Int)).toNat=1099511627776 from rfl];omega
 .rw[show(2:Nat)^(8*((6:Nat):Int)).toNat=281474976710656 from rfl];omega
 .rw[show(2:Nat)^(8*((7:Nat):Int)).toNat=72057594037927936 from rfl];omega
def ztt:HCtr:={ self:=srd,k:=0,te:=5,et:=u8,sl:=λx=>x.1,args:=[ints],inv:=ginv,pre:=λx xs=>[zp x.1+8*zp xs.1<=1000000],res:=.unit,out:=λx xs=>.ok ((),((x.1:List UInt8)++zbO xs.1,())) }
set_option maxHeartbeats 2000000 in
theorem znC:zcZ zf dG 83 ztt:=by
 refine zjS zam Tryz.func83 ⟨rfl,λ_=>rfl,λa h=>by cases h⟩ Tryz.call83 zeg ?_;rintro w0 O fix B ty hX hinv ⟨o,⟨⟩⟩ ⟨l,⟨⟩⟩ hl;have hl:o.length+8*l.length<=1000000:=hl;change AWP _ _ _ _ _ ⟨[(0,⟨.hptr,((0:Nat),(0:Nat))⟩),(1,⟨ints,l⟩)],[(0,some (.hbox ty [⟨.obuf u8,(1:Nat)⟩])),(1,some (.buf 5 u8 o))],2⟩ _;refine zaa (zaa (zab zam ?_));refine zaa ?_;refine yK (ι:=Nat) (λj=>⟨[(0,⟨.hptr,((0:Nat),(0:Nat))⟩),(7,⟨ints,l⟩),(8,⟨i64,((l.length:Nat):Int)⟩),(9,⟨i64,(j:Int)⟩)],[(0,some (.hbox ty [⟨.obuf u8,(1:Nat)⟩])),(1,some (.buf 5 u8 (o++zbO (l.take j))))],2⟩) (λj=>j<=l.length) (λj=>l.length-j) 0 (zk _) ⟨⟨rfl,rfl,rfl,rfl,t_⟩,⟨rfl,zbp (yE _).symm,t_⟩,rfl,rfl⟩ ?_;intro j hj;refine zaa (zaa (zab zam ?_));refine zaa ?_;refine zaN rfl (λhb=>?_) (λhb=>?_)
 .have hb:(j:Int)<((l.length:Nat):Int):=hb;have hlt:j<l.length:=o_;have z0:(0:Int)<=(j:Int):=o_;have zt:(j:Int).toNat<l.length:=o_;have eg:l.getD (j:Int).toNat (zaD i64)=l[j]:=za4 hlt;have q1:inR .i64 ((j:Int)+1):=zah o_ o_;apply zaf
  iterate 2 (refine zaa (zaa (zab zam ?_)))
  obtain⟨b,hb0⟩:∃b,b=o++zbO (l.take j):=⟨_,rfl⟩;have hbl:b.length+8<=1000000:=by
   rw[hb0,zl,zbC,zP];omega
  have hnext:b++leB l[j] 8=o++zbO (l.take (j+1)):=by
   rw[hb0,zN hlt,zn4,zB];show _=o++(zbO (l.take j)++(leB l[j] 8++[]));rw[yE]
  rw[<-hb0];refine zak (Y':=⟨[(0,⟨.hptr,((0:Nat),(0:Nat))⟩),(5,⟨i64,l[j]⟩),(6,⟨i64,(0:Int)⟩),(7,⟨ints,l⟩),(8,⟨i64,((l.length:Nat):Int)⟩),(9,⟨i64,(j:Int)⟩)],[(0,some (.hbox ty [⟨.obuf u8,(1:Nat)⟩])),(1,some (.buf 5 u8 b))],2⟩) ⟨⟨rfl,vI64 eg,rfl,rfl,rfl,rfl,t_⟩,⟨rfl,rfl,t_⟩,rfl,rfl⟩ ?_;generalize l[j]=n at hnext;refine zaa (zaa ?_);refine yK (ι:=Nat) (λk=>⟨[(0,⟨.hptr,((0:Nat),(0:Nat))⟩),(5,⟨i64,n⟩),(6,⟨i64,8*(k:Int)⟩),(7,⟨ints,l⟩),(8,⟨i64,((l.length:Nat):Int)⟩),(9,⟨i64,(j:Int)⟩)],[(0,some (.hbox ty [⟨.obuf u8,(1:Nat)⟩])),(1,some (.buf 5 u8 (b++leB n k)))],2⟩) (λk=>k<=8) (λk=>8-k) 0 (zk _) ⟨⟨rfl,rfl,rfl,rfl,rfl,rfl,t_⟩,⟨rfl,zbp (yE _).symm,t_⟩,rfl,rfl⟩ ?_;intro k hk;refine zaa (zaa (zab zam ?_));refine zaa ?_;refine zaN rfl (λhb=>?_) (λhb=>?_)
  .
   have hk8:k<8:=o_;have c0:(0:Int)<=8*(k:Int):=o_;have c1:inR .i64 (8*(k:Int)+8):=zah o_ o_;obtain⟨v,hv⟩:∃v,v=b++leB n k:=⟨_,rfl⟩;have hvl:v.length+1<=1000000000:=by rw[hv,zl,za0];omega
   rw[<-hv];apply zaf;refine zaa ?_;refine zre (Y':=⟨[(0,⟨.hptr,((0:Nat),(0:Nat))⟩),(5,⟨i64,n⟩),(6,⟨i64,8*(k:Int)⟩),(7,⟨ints,l⟩),(8,⟨i64,((l.length:Nat):Int)⟩),(9,⟨i64,(j:Int)⟩)],[(0,some (.hbox ty [⟨.obuf u8,(1:Nat)⟩])),(1,some (.buf 5 u8 (v++[u64B n (8*(k:Int))])))],2⟩) (d:=17) (src:=.tmp 0) rfl (.cons (.of_eq (jc _) rfl (by intro h;cases h) (by intro t h;cases h;intro h;cases h) (.inr (by intro ev ev' h;simp[execOp,resolve,h])))<|.cons (.of_eq (jc _) rfl (by intro h;cases h) (by intro t h;cases h;intro h;cases h) (.inr (by intro ev ev' h;simp[execOp,resolve,h])))<|.cons (.of_eq (jc _) rfl (by intro h;cases h) (by intro t h;cases h;intro h;cases h) (.inr (by intro ev ev' h;simp[execOp,resolve,h])))<|.cons (.of_eq (jc _) rfl (by intro h;cases h) (by intro t h;cases h;intro h;cases h) (.inr (by intro ev ev' h;simp[execOp,resolve,h])))<|.cons (.of_eq (jc _) rfl (by intro h;cases h) (by intro t h;cases h;intro h;cases h) (.inr (by intro ev ev' h;simp[execOp,resolve,h])))<|.cons (.of_eq (jc _) rfl (by intro h;cases h) (by intro t h;cases h;intro h;cases h) (.inr (by intro ev ev' h;simp[execOp,resolve,h])))<|.cons (.of_eq (jc _) rfl (by intro h;cases h) (by intro t h;cases h;intro h;cases h) (.inr (by intro ev ev' h;simp[execOp,resolve,h])))<|.cons (.of_eq (jc _) rfl (by intro h;cases h) (by intro t h;cases h;intro h;cases h) (.inr (by intro ev ev' h;simp[execOp,resolve,h])))<|.cons (.of_eq (jc _) rfl (by intro h;cases h) (by intro t h;cases h;intro h;cases h) (.inr (by intro ev ev' h;simp[execOp,resolve,h])))<|.cons (.of_eq (jc _) rfl (by intro h;cases h) (by intro t h;cases h;intro h;cases h) (.inr (by intro ev ev' h;simp[execOp,resolve,h])))<|.cons (.edge 0 rfl (by intro h;cases h) (by intro t h;cases h;intro h;cases h) (.inr (by intro ev ev' h;simp[execOp,resolve,h])))<|.cons (.of_eq (jc _) rfl (by intro h;cases h) (by intro t h;cases h;intro h;cases h) (.inl ⟨_,uG (i:=0) rfl,by decide,rfl⟩))<|.cons (.of_eq (jc _) rfl (by intro h;cases h) (by intro t h;cases h;intro h;cases h) (.inr (by intro ev ev' h;simp[execOp,resolve,h])))<|.cons (.of_eq (jc _) rfl (by intro h;cases h) (by intro t h;cases h;intro h;cases h) (.inr (by intro ev ev' h;simp[execOp,resolve,h])))<|.nil) rfl rfl rfl rfl (by intro h;cases h) 11 10 (2,some (.buf 5 u8 [u64B n (8*(k:Int))])) 3
    [(0,⟨.hptr,((0:Nat),(0:Nat))⟩),(5,⟨i64,n⟩),(6,⟨i64,8*(k:Int)⟩),(7,⟨ints,l⟩),(8,⟨i64,((l.length:Nat):Int)⟩),(9,⟨i64,(j:Int)⟩)]
    [(0,17,⟨.hptr,((0:Nat),(0:Nat))⟩),(1,18,⟨.hptr,((0:Nat),(0:Nat))⟩),(2,19,⟨.hptr,((0:Nat),(0:Nat))⟩),(3,20,⟨.hptr,((0:Nat),(0:Nat))⟩),(4,21,⟨.obuf u8,(1:Nat)⟩),(5,22,⟨i64,n⟩),(6,23,⟨.int .u64,zV 64 n⟩),(7,24,⟨i64,8*(k:Int)⟩),(8,25,⟨.int .u64,zV 64 n >>> (8*(k:Int)).toNat⟩),(9,26,⟨u8,u64B n (8*(k:Int))⟩),(10,27,⟨.obuf u8,(2:Nat)⟩)]
    dM hX 15 rfl rfl (by kernel_rfl) (by kernel_rfl) rfl ⟨rfl,rfl,rfl,rfl,rfl,rfl,t_⟩ (zZ (zZ (zZ (zZ (zZ (zZ (zZ (zZ (zZ (zZ (zZ True.intro ?_) ?_) ?_) ?_) ?_) ?_) ?_) ?_) ?_) ?_) ?_) rfl ⟨rfl,rfl,rfl,t_⟩ rfl rfl rfl ?_ ?_
   .exact λ_ _ _=>⟨λ_=>⟨λ_=>yI hX zam k_,yI hX zam k_⟩,λh=>absurd h d_⟩
   .exact λ_ _ _=>⟨λ_=>⟨λ_=>yI hX zam k_,yI hX zam k_⟩,λh=>absurd h d_⟩
   .exact λ_ _ _=>⟨λ_=>⟨λ_=>yI hX zam k_,yI hX zam k_⟩,λh=>absurd h d_⟩
   .exact λ_ _ _=>⟨λ_=>⟨λ_=>yI hX zam k_,yI hX zam k_⟩,λh=>absurd h d_⟩
   .exact λ_ _ _=>⟨λ_=>⟨λ_=>yI hX zam k_,yI hX zam k_⟩,λh=>absurd h d_⟩
   .exact λ_ _ _=>⟨λ_=>⟨λ_=>yI hX zam k_,yI hX zam k_⟩,λh=>absurd h d_⟩
   .exact λ_ _ _=>⟨λ_=>⟨λ_=>yI hX zam k_,yI hX zam k_⟩,λh=>absurd h d_⟩
   .exact λ_ _ _=>⟨λ_=>⟨λ_=>yI hX zam k_,yI hX zam k_⟩,λh=>absurd h d_⟩
   .exact λ_ _ _=>⟨λ_=>⟨λ_=>yI hX zam ⟨_,rfl,λF=>⟨_,rfl,c0,rfl,λ_=>rfl,rfl⟩⟩,yI hX zam ⟨_,rfl,λF=>⟨_,rfl,c0,rfl,λ_=>rfl,rfl⟩⟩⟩,λh=>absurd h d_⟩
   .exact λ_ _ _=>⟨λ_=>⟨λ_=>yI hX zam k_,yI hX zam k_⟩,λh=>absurd h d_⟩
   .exact λ_ _ _=>⟨λh=>absurd rfl h,λ_=>StepN.eval hX zam k_⟩
   .refine yD hX zam rfl hvl ?_
    iterate 3 (refine yD hX zam rfl t_ ?_)
    exact QC.of ⟨rfl,⟨rfl,rfl,rfl,rfl,rfl,rfl,t_⟩,⟨rfl,rfl,t_⟩,rfl,rfl⟩
   refine zaa (zaa (zab zam ?_));refine⟨k+1,by omega,by omega,⟨rfl,rfl,vI64 o_,rfl,rfl,rfl,t_⟩,⟨rfl,zbp ?_,t_⟩,rfl,rfl⟩;rw[zl9,hv, <-zsi n k hk8,zB]
  .
   obtain rfl:k=8:=o_;apply zan;refine zaa (zab zam ?_);refine⟨j+1,by omega,by omega,⟨rfl,rfl,rfl,rfl,t_⟩,⟨rfl,zbp hnext,t_⟩,rfl,rfl⟩
 .
  obtain rfl:j=l.length:=o_;rw[yX];apply zan;exact⟨.inl rfl,⟨_,rfl,u8,1,_,rfl,rfl,rfl⟩,D2 rfl⟩
noncomputable def u8i:TypeInfo:=(zf.info? 5).get (by kernel_rfl)
theorem zt5:zf.info? 5=some u8i:=(Option.some_get _).symm
theorem zt3:u8i.zero=some (.int .u8 0):=by kernel_rfl
theorem zt4:u8i.size=1:=by kernel_rfl
theorem zsh:u8i.bytes=1:=by kernel_rfl
def zvb:HCtr:={ self:=srd,k:=0,te:=5,et:=u8,sl:=λx=>x.1,args:=[.str],inv:=ginv,pre:=λx xs=>[zp x.1+zp xs.1<=900000],res:=.unit,out:=λx xs=>.ok ((),((x.1:List UInt8)++(leB ((zp xs.1:Nat):Int) 8++xs.1),())) }
def hS:List (yR×HCtr):=[(83,ztt),(84,zvb)]
def hS1:List (yR×HCtr):=[(83,ztt)]
theorem zuQ:HsOk zf dG hS1:=.cons znC .nil
set_option maxHeartbeats 1000000 in
theorem zsu:zcZ zf dG 84 zvb:=by
 refine zjS zam Tryz.func84 ⟨rfl,λ_=>rfl,λa h=>by cases h⟩ Tryz.call84 zeg ?_;rintro w0 O fix B ty hX x0 ⟨(o:List UInt8),⟨⟩⟩ ⟨(l:List UInt8),⟨⟩⟩ hl;have hI:=zeM (ty:=ty) (ty':=ty) hX rfl x0;have hl:o.length+l.length<=900000:=hl;have h1:o.length+8 * [((l.length:Nat):Int)].length<=1000000:=by show o.length+8*1<=1000000;omega
 change AWP _ _ _ _ _ ⟨[(0,⟨.hptr,((0:Nat),(0:Nat))⟩),(1,⟨.str,l⟩)],[(0,some (.hbox ty [⟨.obuf u8,(1:Nat)⟩])),(1,some (.buf 5 u8 o))],2⟩ _;refine zaa (zaa (zaj ?_));refine ki 4 hX zam zuQ rfl t_ rfl rfl h1 hI ?_;refine qu ?_;have e1:zbO [((l.length:Nat):Int)]=leB ((l.length:Nat):Int) 8:=yE _;have h2:(o++leB ((l.length:Nat):Int) 8).length+l.length<=1000000000:=by rw[zl,za0];omega
 refine zak (Y':=⟨[(0,⟨.hptr,((0:Nat),(0:Nat))⟩),(1,⟨.str,l⟩)],[(0,some (.hbox ty [⟨.obuf u8,(1:Nat)⟩])),(1,some (.buf 5 u8 (o++leB ((l.length:Nat):Int) 8)))],2⟩) ⟨⟨rfl,rfl,t_⟩,⟨rfl,zbp (by rw[<-e1];rfl),t_⟩,rfl,rfl⟩ ?_;refine zaa (zaa (zaj ?_));refine zat 6 zam ?_;refine zpI Tryz.underlying25 Tryz.underlying9 zt5 zt3 zt4 zsh rfl rfl rfl rfl rfl rfl rfl h2 ?_;refine zau zam ?_;refine⟨.inl rfl,⟨_,rfl,u8,1,_,rfl,rfl,?_⟩,D2 rfl⟩;show some ((((o++leB ((l.length:Nat):Int) 8)++l,()):srd.T),([]:List V))=some ((o++(leB ((l.length:Nat):Int) 8++l),()),[]);rw[zB]
def txtB(l:List UInt8):List UInt8:=leB ((l.length:Nat):Int) 8++l
def ndB(n:nd.T):List UInt8:=zbO [n.1,n.2.1,n.2.2.1,n.2.2.2.1,n.2.2.2.2.1,n.2.2.2.2.2.1,((zp n.2.2.2.2.2.2.1:Nat):Int)]++(zbO n.2.2.2.2.2.2.1++txtB n.2.2.2.2.2.2.2.1)
def zhg(b:Bool):Int:=bif b then 1 else 0
def mvB(m:mv.T):List UInt8:=zbO [m.1,zhg m.2.1,m.2.2.1,m.2.2.2.1,m.2.2.2.2.1]
def ndsB(l:List nd.T):List UInt8:=(l.map ndB).flatten
def mvsB(l:List mv.T):List UInt8:=(l.map mvB).flatten
def serB(s:se.T):List UInt8:=zbO [((zp s.1:Nat):Int)]++(ndsB s.1++(zbO [s.2.1,s.2.2.1]++(txtB s.2.2.2.1++(zbO [s.2.2.2.2.1,s.2.2.2.2.2.1,((zp s.2.2.2.2.2.2.1:Nat):Int)]++mvsB s.2.2.2.2.2.2.1))))
theorem zij(l:List UInt8):(txtB l).length=8+l.length:=by unfold txtB;rw[zl,za0]
theorem zsN(m:mv.T):(mvB m).length=40:=zbC _
theorem ziE(l:List mv.T):(mvsB l).length=40*l.length:=by
 induction l with
 |nil=>rfl
 |cons m l ih=>
  show(mvB m++mvsB l).length=_;rw[zl,zsN,ih,yT];omega
theorem zoa(n:nd.T):(ndB n).length=64+8*zp n.2.2.2.2.2.2.1+zp n.2.2.2.2.2.2.2.1:=by
 unfold ndB;rw[zl,zl,zbC,zbC,zij];show 8*7+_=_;omega
theorem zif{r:List nd.T}(h:wfS r=true):r.length<=64/\∀n∈r,zp n.2.2.2.2.2.2.1<=64/\zp n.2.2.2.2.2.2.2.1<=32:=by
 unfold wfS at h;rw[zh,zh,zh,decide_eq_true_iff,decide_eq_true_iff]at h;obtain⟨⟨⟨h1,h2⟩,h3⟩,_⟩:=h;refine⟨h2,λn hn=>?_⟩;obtain⟨i,hi,rfl⟩:=List.getElem_of_mem hn;have hn:=zcj.1 h3 i hi;rw[zH,zR hi]at hn;have hn:zbR r[i] (i:Int)=true:=hn;unfold zbR zcl at hn;rw[zh,zh,zh,zh,decide_eq_true_iff]at hn;obtain⟨⟨⟨_,f2⟩,_,f4⟩,_⟩:=hn;refine⟨f2,?_⟩;have f4:=(zh _ _▸f4:_/\_).1;unfold zhy at f4;show(ndS r[i]).length<=32;cases hk:(ndK r[i]==18) with
 |true=>
  rw[hk,cond_true]at f4;unfold zfH at f4;rw[zh,zh,decide_eq_true_iff,decide_eq_true_iff]at f4;exact f4.1.2
 |false=>
  rw[hk,cond_false,decide_eq_true_iff]at f4;rw[f4];exact zk _
theorem ziD{l:List nd.T}(h:∀n∈l,zp n.2.2.2.2.2.2.1<=64/\zp n.2.2.2.2.2.2.2.1<=32):(ndsB l).length<=700*l.length:=by
 induction l with
 |nil=>exact zu _
 |cons n l ih=>
  have h1:=h n (by simp);have h2:=ih λm hm=>h m (by simp[hm]);show(ndB n++ndsB l).length<=_;rw[zl,zoa,yT];omega
theorem zqb(l m:List nd.T):ndsB (l++m)=ndsB l++ndsB m:=by unfold ndsB;rw[xX,qb]
theorem zqd(l m:List mv.T):mvsB (l++m)=mvsB l++mvsB m:=by unfold mvsB;rw[xX,qb]
theorem ze0{s:se.T}(h:sndG s):(serB s).length<=60000:=by
 obtain⟨h1,_,_,⟨_,h4⟩,_,_,h7,_,_⟩:=h;obtain⟨r1,r2⟩:=zif h1;have:=ziD r2;unfold serB;simp only[zl,zbC,zij,ziE,yT,jX];omega
noncomputable def cSeB:Ctr:={ args:=[se],pre:=λx=>[sndG x.1],res:=.tup bs (.tup i64 .unit),own:=none,out:=λx=>(serB x.1,(0:Int),()) }
noncomputable def kSeB:Kn:={ dK with C:=[(81,cSnd)],H:=[159] }
theorem zbh:KnOk zf dG kSeB:=⟨zd2,zdu,.cons zlE .nil,zfr,RsOk.nil⟩
theorem zjV:HsOk zf dG hS:=.cons znC<|.cons zsu .nil
theorem zoM{w0:zj}{O:Nat->Prop}(hX:(qJ dG O).Ok w0){x0:zy}:∀w R,(∀g,R g->w0.heap.size<=g\/(qJ dG O).R g)->(qJ dG O).G w->ginv w R x0:=zeM (ty:=x0) hX rfl (jW _ _ _)
set_option maxHeartbeats 4000000 in
theorem zhQ:yQ zf dG 62 cSeB:=by
 refine ctr2 zbh Tryz.func62 Tryz.call62 ?_;rintro w0 O hX ⟨(s:se.T),⟨⟩⟩ hp;have hs:sndG s:=hp;have x9:=hs;obtain⟨h1,_,_,⟨_,h4⟩,_,_,h7,_,_⟩:=hs;obtain⟨r1,r2⟩:=zif h1;have xc:=ze0 x9;have hI:∀w R,(∀g,R g->w0.heap.size<=g\/(qJ dG O).R g)->(qJ dG O).G w->ginv w R 159:=zoM hX;change AWP _ _ _ _ _ ⟨[(0,⟨se,s⟩)],[],0⟩ _;refine zaa (zaa (zab zbh ?_));refine xN hX 1 ?_;refine zaa (zaa (zab zbh ?_));refine zaL rfl ?_;apply zaf;refine zaa (zaa (zaj ?_));refine zat 1 zbh ?_;refine ztS hX rfl rfl rfl rfl (cs:=[.slice none 0 0]) rfl rfl ?_;refine zau zbh ?_;refine za9 1 0 5 u8 rfl rfl rfl ?_;refine zak (Y':=⟨[(1,⟨.vptr se,s⟩),(4,⟨.hptr,((1:Nat),(0:Nat))⟩)],[(1,some (.hbox 159 [⟨.obuf u8,(2:Nat)⟩])),(2,some (.buf 5 u8 ([])))],3⟩) ⟨⟨rfl,rfl,t_⟩,⟨rfl,rfl,t_⟩,rfl,rfl⟩ ?_;obtain⟨R,hR⟩:∃R,R=s.1:=⟨_,rfl⟩;obtain⟨M,hM⟩:∃M,M=s.2.2.2.2.2.2.1:=⟨_,rfl⟩;have r1:R.length<=64:=by rw[hR];exact r1
 have r2:∀n∈R,zp n.2.2.2.2.2.2.1<=64/\zp n.2.2.2.2.2.2.2.1<=32:=by rw[hR];exact r2
 have m1:M.length<=64:=by rw[hM];exact h7
 refine zaa (zaa (zaj ?_));refine ki 5 hX zbh zjV rfl t_ rfl rfl (by show [].length+8*1<=1000000;decide) hI ?_;refine qu ?_;obtain⟨a1,x6⟩:∃a1,a1=zbO [((R.length:Nat):Int)]:=⟨_,rfl⟩;have l1:a1.length=8:=by rw[x6,zbC];rfl
 refine zak (Y':=⟨[(1,⟨.vptr se,s⟩),(4,⟨.hptr,((1:Nat),(0:Nat))⟩)],[(1,some (.hbox 159 [⟨.obuf u8,(2:Nat)⟩])),(2,some (.buf 5 u8 (a1)))],3⟩) ⟨⟨rfl,rfl,t_⟩,⟨rfl,zbp (by rw[x6,hR];rfl),t_⟩,rfl,rfl⟩ ?_;refine zaa (zaa (zab zbh ?_));refine zak (Y':=⟨[(1,⟨.vptr se,s⟩),(4,⟨.hptr,((1:Nat),(0:Nat))⟩),(22,⟨.slice nd,R⟩),(23,⟨i64,((R.length:Nat):Int)⟩),(24,⟨i64,(0:Int)⟩)],[(1,some (.hbox 159 [⟨.obuf u8,(2:Nat)⟩])),(2,some (.buf 5 u8 (a1)))],3⟩) ⟨⟨rfl,rfl,by rw[hR];rfl,by rw[hR];rfl,rfl,t_⟩,⟨rfl,rfl,t_⟩,rfl,rfl⟩ ?_;refine zaa ?_;refine yK (ι:=Nat) (λk=>⟨[(1,⟨.vptr se,s⟩),(4,⟨.hptr,((1:Nat),(0:Nat))⟩),(22,⟨.slice nd,R⟩),(23,⟨i64,((R.length:Nat):Int)⟩),(24,⟨i64,(k:Int)⟩)],[(1,some (.hbox 159 [⟨.obuf u8,(2:Nat)⟩])),(2,some (.buf 5 u8 (a1++ndsB (R.take k))))],3⟩) (λk=>k<=R.length) (λk=>R.length-k) 0 (zk _) ⟨⟨rfl,rfl,rfl,rfl,rfl,t_⟩,⟨rfl,zbp (yE _).symm,t_⟩,rfl,rfl⟩ ?_;intro k hk;refine zaa (zaa (zab zbh ?_));refine zaa ?_;refine zaN rfl (λhb=>?_) (λhb=>?_)
 .have hb:(k:Int)<((R.length:Nat):Int):=hb;have x4:k<R.length:=o_;have z0:(0:Int)<=(k:Int):=o_;have zt:(k:Int).toNat<R.length:=o_;have eg:R.getD (k:Int).toNat (zaD nd)=R[k]:=za4 x4;have q1:inR .i64 ((k:Int)+1):=zah o_ o_;obtain⟨b,x1⟩:∃b,b=a1++ndsB (R.take k):=⟨_,rfl⟩;have x8:b.length<=50000:=by
   have:=ziD (l:=R.take k) λn hn=>r2 n (List.mem_of_mem_take hn);rw[zP]at this;rw[x1,zl];omega
  have x0:b++ndB R[k]=a1++ndsB (R.take (k+1)):=by
   rw[x1,zN x4,zqb,zB];show _=a1++(ndsB (R.take k)++(ndB R[k]++[]));rw[yE]
  have hn:=r2 _ (qc x4);rw[<-x1];apply zaf;refine zaa (zaa (zab zbh ?_));refine zak (Y':=⟨[(1,⟨.vptr se,s⟩),(4,⟨.hptr,((1:Nat),(0:Nat))⟩),(6,⟨.optr nd,⟨3,nd,.here⟩⟩),(22,⟨.slice nd,R⟩),(23,⟨i64,((R.length:Nat):Int)⟩),(24,⟨i64,(k:Int)⟩)],[(1,some (.hbox 159 [⟨.obuf u8,(2:Nat)⟩])),(2,some (.buf 5 u8 (b))),(3,some (.box nd R[k]))],4⟩) ⟨⟨rfl,rfl,rfl,rfl,rfl,rfl,t_⟩,⟨rfl,rfl,zaT eg,t_⟩,rfl,rfl⟩ ?_;generalize R[k]=n at x0 hn;obtain⟨(nk:Int),(nc:Int),(nl:Int),(nr:Int),(nn:Int),(nm:Int),(li:List Int),(na:List UInt8),⟨⟩⟩:=n;have xd:li.length<=64:=hn.1;have xf:na.length<=32:=hn.2;refine xN hX 6 ?_;refine zaa (zaa (zaj ?_));refine ki 17 hX zbh zjV rfl t_ rfl rfl (by show b.length+8*7<=1000000;omega) hI ?_;refine qu ?_;obtain⟨b1,x2⟩:∃b1,b1=b++zbO [nk,nc,nl,nr,nn,nm,((li.length:Nat):Int)]:=⟨_,rfl⟩;have xa:b1.length=b.length+56:=by rw[x2,zl,zbC];rfl
  refine zak (Y':=⟨[(1,⟨.vptr se,s⟩),(4,⟨.hptr,((1:Nat),(0:Nat))⟩),(6,⟨.vptr nd,(nk,nc,nl,nr,nn,nm,li,na,())⟩),(22,⟨.slice nd,R⟩),(23,⟨i64,((R.length:Nat):Int)⟩),(24,⟨i64,(k:Int)⟩)],[(1,some (.hbox 159 [⟨.obuf u8,(2:Nat)⟩])),(2,some (.buf 5 u8 (b1)))],3⟩) ⟨⟨rfl,rfl,rfl,rfl,rfl,rfl,t_⟩,⟨rfl,zbp x2.symm,t_⟩,rfl,rfl⟩ ?_;refine zaa (zaa (zaj ?_));refine ki 3 hX zbh zjV rfl t_ rfl rfl (by show b1.length+8*li.length<=1000000;omega) hI ?_;refine qu ?_;obtain⟨b2,x3⟩:∃b2,b2=b1++zbO li:=⟨_,rfl⟩;have xb:b2.length=b1.length+8*li.length:=by rw[x3,zl,zbC]
  refine zak (Y':=⟨[(1,⟨.vptr se,s⟩),(4,⟨.hptr,((1:Nat),(0:Nat))⟩),(6,⟨.vptr nd,(nk,nc,nl,nr,nn,nm,li,na,())⟩),(22,⟨.slice nd,R⟩),(23,⟨i64,((R.length:Nat):Int)⟩),(24,⟨i64,(k:Int)⟩)],[(1,some (.hbox 159 [⟨.obuf u8,(2:Nat)⟩])),(2,some (.buf 5 u8 (b2)))],3⟩) ⟨⟨rfl,rfl,rfl,rfl,rfl,rfl,t_⟩,⟨rfl,zbp x3.symm,t_⟩,rfl,rfl⟩ ?_;refine zaa (zaj ?_);refine ki 3 hX zbh zjV rfl t_ rfl rfl (by show b2.length+na.length<=900000;omega) hI ?_;refine qu ?_;refine zaa (zab zbh ?_);refine⟨k+1,by omega,by omega,⟨rfl,rfl,rfl,rfl,rfl,t_⟩,⟨rfl,zbp ?_,t_⟩,rfl,rfl⟩;rw[<-x0];show b2++txtB na=b++(zbO _++(zbO li++txtB na));rw[x3,x2,zB,zB]
 .have hb:¬((k:Int)<((R.length:Nat):Int)):=hb;obtain rfl:k=R.length:=o_;apply zan;rw[yX];obtain⟨b,x1⟩:∃b,b=a1++ndsB R:=⟨_,rfl⟩;have x8:b.length<=50000:=by
   have:=ziD (l:=R) r2;rw[x1,zl];omega
  rw[<-x1];refine zaa (zaa (zaj ?_));refine ki 6 hX zbh zjV rfl t_ rfl rfl (by show b.length+8*2<=1000000;omega) hI ?_;refine qu ?_;obtain⟨b1,x2⟩:∃b1,b1=b++zbO [s.2.1,s.2.2.1]:=⟨_,rfl⟩;have xa:b1.length=b.length+16:=by rw[x2,zl,zbC];rfl
  refine zak (Y':=⟨[(1,⟨.vptr se,s⟩),(4,⟨.hptr,((1:Nat),(0:Nat))⟩)],[(1,some (.hbox 159 [⟨.obuf u8,(2:Nat)⟩])),(2,some (.buf 5 u8 (b1)))],3⟩) ⟨⟨rfl,rfl,t_⟩,⟨rfl,zbp x2.symm,t_⟩,rfl,rfl⟩ ?_;refine zaa (zaa (zaj ?_));refine ki 3 hX zbh zjV rfl t_ rfl rfl (by show b1.length+zp s.2.2.2.1<=900000;omega) hI ?_;refine qu ?_;obtain⟨b2,x3⟩:∃b2,b2=b1++txtB s.2.2.2.1:=⟨_,rfl⟩;have xb:b2.length=b1.length+(8+zp s.2.2.2.1):=by rw[x3,zl,zij]
  refine zak (Y':=⟨[(1,⟨.vptr se,s⟩),(4,⟨.hptr,((1:Nat),(0:Nat))⟩)],[(1,some (.hbox 159 [⟨.obuf u8,(2:Nat)⟩])),(2,some (.buf 5 u8 (b2)))],3⟩) ⟨⟨rfl,rfl,t_⟩,⟨rfl,zbp x3.symm,t_⟩,rfl,rfl⟩ ?_;refine zaa (zaa (zaj ?_));refine ki 9 hX zbh zjV rfl t_ rfl rfl (by show b2.length+8*3<=1000000;omega) hI ?_;refine qu ?_;obtain⟨b3,x7⟩:∃b3,b3=b2++zbO [s.2.2.2.2.1,s.2.2.2.2.2.1,((M.length:Nat):Int)]:=⟨_,rfl⟩;have xg:b3.length=b2.length+24:=by rw[x7,zl,zbC];rfl
  refine zak (Y':=⟨[(1,⟨.vptr se,s⟩),(4,⟨.hptr,((1:Nat),(0:Nat))⟩)],[(1,some (.hbox 159 [⟨.obuf u8,(2:Nat)⟩])),(2,some (.buf 5 u8 (b3)))],3⟩) ⟨⟨rfl,rfl,t_⟩,⟨rfl,zbp (by rw[x7,hM];rfl),t_⟩,rfl,rfl⟩ ?_;refine zaa (zaa (zab zbh ?_));refine zak (Y':=⟨[(1,⟨.vptr se,s⟩),(4,⟨.hptr,((1:Nat),(0:Nat))⟩),(77,⟨.slice mv,M⟩),(78,⟨i64,((M.length:Nat):Int)⟩),(79,⟨i64,(0:Int)⟩)],[(1,some (.hbox 159 [⟨.obuf u8,(2:Nat)⟩])),(2,some (.buf 5 u8 (b3)))],3⟩) ⟨⟨rfl,rfl,by rw[hM];rfl,by rw[hM];rfl,rfl,t_⟩,⟨rfl,rfl,t_⟩,rfl,rfl⟩ ?_;refine zaa ?_;refine yK (ι:=Nat) (λk=>⟨[(1,⟨.vptr se,s⟩),(4,⟨.hptr,((1:Nat),(0:Nat))⟩),(77,⟨.slice mv,M⟩),(78,⟨i64,((M.length:Nat):Int)⟩),(79,⟨i64,(k:Int)⟩)],[(1,some (.hbox 159 [⟨.obuf u8,(2:Nat)⟩])),(2,some (.buf 5 u8 (b3++mvsB (M.take k))))],3⟩) (λk=>k<=M.length) (λk=>M.length-k) 0 (zk _) ⟨⟨rfl,rfl,rfl,rfl,rfl,t_⟩,⟨rfl,zbp (yE _).symm,t_⟩,rfl,rfl⟩ ?_;intro k hk;refine zaa (zaa (zab zbh ?_));refine zaa ?_;refine zaN rfl (λhb=>?_) (λhb=>?_)
  .have hb:(k:Int)<((M.length:Nat):Int):=hb;have x4:k<M.length:=o_;have z0:(0:Int)<=(k:Int):=o_;have zt:(k:Int).toNat<M.length:=o_;have eg:M.getD (k:Int).toNat (zaD mv)=M[k]:=za4 x4;have q1:inR .i64 ((k:Int)+1):=zah o_ o_;obtain⟨c,x5⟩:∃c,c=b3++mvsB (M.take k):=⟨_,rfl⟩;have xe:c.length<=60000:=by
    rw[x5,zl,ziE,zP];omega
   have x0:c++mvB M[k]=b3++mvsB (M.take (k+1)):=by
    rw[x5,zN x4,zqd,zB];show _=b3++(mvsB (M.take k)++(mvB M[k]++[]));rw[yE]
   rw[<-x5];apply zaf;refine zaa (zaa (zab zbh ?_));refine zak (Y':=⟨[(1,⟨.vptr se,s⟩),(4,⟨.hptr,((1:Nat),(0:Nat))⟩),(8,⟨.optr mv,⟨3,mv,.here⟩⟩),(77,⟨.slice mv,M⟩),(78,⟨i64,((M.length:Nat):Int)⟩),(79,⟨i64,(k:Int)⟩)],[(1,some (.hbox 159 [⟨.obuf u8,(2:Nat)⟩])),(2,some (.buf 5 u8 c)),(3,some (.box mv M[k]))],4⟩) ⟨⟨rfl,rfl,rfl,rfl,rfl,rfl,t_⟩,⟨rfl,rfl,zaT eg,t_⟩,rfl,rfl⟩ ?_;generalize M[k]=m at x0;obtain⟨(md:Int),(mb:Bool),(mt:Int),(mm:Int),(ml:Int),⟨⟩⟩:=m;refine xN hX 8 ?_
   iterate 2 (refine zaa (zaa (zab zbh ?_)))
   refine za1 (Y':=⟨[(1,⟨.vptr se,s⟩),(4,⟨.hptr,((1:Nat),(0:Nat))⟩),(8,⟨.vptr mv,(md,mb,mt,mm,ml,())⟩),(9,⟨i64,zhg mb⟩),(77,⟨.slice mv,M⟩),(78,⟨i64,((M.length:Nat):Int)⟩),(79,⟨i64,(k:Int)⟩)],[(1,some (.hbox 159 [⟨.obuf u8,(2:Nat)⟩])),(2,some (.buf 5 u8 (c)))],3⟩) ?_ ?_
   .refine zae rfl (λhb=>?_) (λhb=>?_)
    .have hb:mb=true:=hb;subst hb;refine zab zbh ?_;exact⟨⟨rfl,rfl,rfl,rfl,rfl,rfl,rfl,t_⟩,⟨rfl,rfl,t_⟩,rfl,rfl⟩
    .have hb:mb=false:=hb;subst hb;apply zaf;exact⟨⟨rfl,rfl,rfl,rfl,rfl,rfl,rfl,t_⟩,⟨rfl,rfl,t_⟩,rfl,rfl⟩
   refine zaa (zaj ?_);refine ki 11 hX zbh zjV rfl t_ rfl rfl (by show c.length+8*5<=1000000;omega) hI ?_;refine qu ?_;refine zaa (zab zbh ?_);refine⟨k+1,by omega,by omega,⟨rfl,rfl,rfl,rfl,rfl,t_⟩,⟨rfl,zbp ?_,t_⟩,rfl,rfl⟩;rw[<-x0];rfl
  .have hb:¬((k:Int)<((M.length:Nat):Int)):=hb;obtain rfl:k=M.length:=o_;apply zan;rw[yX];refine zaa (zaa (zab zbh ?_));refine vo hX 2 ?_;refine zC ⟨.inr rfl,D2 ?_⟩;show((b3++mvsB M,(0:Int),()):(Ty.tup bs (.tup i64 .unit)).T)=(serB s,(0:Int),());have:b3++mvsB M=serB s:=by
    unfold serB;rw[<-hR, <-hM,x7,x3,x2,x1,x6];simp only[zB]
   rw[this]
def serF(s:se.T):List UInt8:=bif zdc s then leB 0 4 else leB ((zp (serB s):Nat):Int) 4++serB s
def serW(l:lt.T):Prop:=serS l/\(zdc (ltS l)=false->sndG (ltS l))
def zv6:HCtr:={ self:=wrT,k:=1,te:=5,et:=u8,sl:=λx=>x.2.1,args:=[],inv:=ginv,pre:=λx _=>[serW x.1,zp x.2.1<=900000],res:=.unit,out:=λx _=>.ok ((),(x.1,(x.2.1:List UInt8)++serF (ltS x.1),())) }
noncomputable def kWS:Kn:={ dK with C:=[(59,cNoS),(62,cSeB)] }
theorem zbM:KnOk zf dG kWS:=zam.with (.cons zcS<|.cons zhQ .nil)
set_option maxHeartbeats 1000000 in
theorem zr6:zcZ zf dG 22 zv6:=by
 refine zjS zbM Tryz.func22 ⟨rfl,λ_=>rfl,λa h=>by cases h⟩ Tryz.call22 zeg ?_;rintro w0 O fix B ty hX x0 ⟨(l:lt.T),(o:List UInt8),⟨⟩⟩ ⟨⟩ ⟨hw,hl⟩;have hI:=zeM (ty:=ty) (ty':=ty) hX rfl x0;have hw:serW l:=hw;have hl:o.length<=900000:=hl;obtain⟨⟨s1,s2,s3⟩,hs⟩:=hw;change AWP _ _ _ _ _ ⟨[(0,⟨.hptr,((0:Nat),(0:Nat))⟩)],[(0,some (.hbox ty [⟨.vptr lt,l⟩,⟨.obuf u8,(1:Nat)⟩])),(1,some (.buf 5 u8 o))],2⟩ _;have c1:(0:Int)<=4:=d_;have c2:(4:Int)<=8:=d_;have c3:o.length<=1000000:=o_;refine zaa (zaa (zab zbM ?_));refine zaa (zaa (zaj ?_));refine zat 2 zbM ?_;refine xY (eqF0 _ _ rfl) hX zbM rfl t_ ?_;refine xY (eqLd _ _ rfl) hX zbM rfl t_ ?_;refine zau zbM ?_;refine zrf 2 u8 rfl ?_;refine zak (Y':=⟨[(0,⟨.hptr,((0:Nat),(0:Nat))⟩),(2,⟨bs,[]⟩),(11,⟨.bool,!zdc (ltS l)⟩)],[(0,some (.hbox ty [⟨.vptr lt,l⟩,⟨.obuf u8,(1:Nat)⟩])),(1,some (.buf 5 u8 o))],2⟩) ⟨⟨rfl,rfl,rfl,t_⟩,⟨rfl,rfl,t_⟩,rfl,rfl⟩ ?_;cases hn:zdc (ltS l) with
 |true=>
  refine zae rfl (λhb=>?_) (λ_=>?_)
  .cases hb
  apply zaf;refine zaa (zaa (zaj ?_));refine ki 3 hX zbM zfR rfl t_ rfl rfl ⟨c1,c2,c3⟩ hI ?_;refine qu ?_;have c4:(o++leB 0 4).length+0<=1000000000:=by rw[zl,za0];omega
  refine zak (Y':=⟨[(0,⟨.hptr,((0:Nat),(0:Nat))⟩),(2,⟨bs,[]⟩)],[(0,some (.hbox ty [⟨.vptr lt,l⟩,⟨.obuf u8,(1:Nat)⟩])),(1,some (.buf 5 u8 (o++leB 0 4)))],2⟩) ⟨⟨rfl,rfl,t_⟩,⟨rfl,rfl,t_⟩,rfl,rfl⟩ ?_;refine zaa (zaj ?_);refine zat 3 zbM ?_;refine xY (eqF1 _ _ rfl) hX zbM rfl t_ ?_;refine zat 4 zbM ?_ (hp:=by exact c4);refine xY (eqF1 _ _ rfl) hX zbM rfl t_ ?_;refine zau zbM ?_;refine⟨.inl rfl,⟨_,rfl,u8,1,_,rfl,rfl,?_⟩,D2 rfl⟩;show some (((l,(o++leB 0 4)++[],()):wrT.T),([]:List V))=some ((l,o++serF (ltS l),()),[]);rw[serF,hn,yE];rfl
 |false=>
  have hg:=hs hn;have x3:=ze0 hg;refine zae rfl (λ_=>?_) (λhb=>?_)
  rotate_left
  .cases hb
  refine zaa (zaj ?_);refine zat 2 zbM ?_;refine xY (eqF0 _ _ rfl) hX zbM rfl t_ ?_;refine xY (eqLd _ _ rfl) hX zbM rfl t_ ?_;refine zau zbM ?_;refine zak (Y':=⟨[(0,⟨.hptr,((0:Nat),(0:Nat))⟩),(2,⟨bs,serB (ltS l)⟩)],[(0,some (.hbox ty [⟨.vptr lt,l⟩,⟨.obuf u8,(1:Nat)⟩])),(1,some (.buf 5 u8 o))],2⟩) ⟨⟨rfl,rfl,t_⟩,⟨rfl,rfl,t_⟩,rfl,rfl⟩ ?_;obtain⟨b,x1⟩:∃b,b=serB (ltS l):=⟨_,rfl⟩;rw[<-x1];rw[<-x1]at x3;refine zaa (zaa (zaj ?_));refine ki 3 hX zbM zfR rfl t_ rfl rfl ⟨c1,c2,c3⟩ hI ?_;refine qu ?_;obtain⟨n4,x2⟩:∃n4,n4=leB ((b.length:Nat):Int) 4:=⟨_,rfl⟩;have c4:(o++n4).length+b.length<=1000000000:=by rw[zl,x2,za0];omega
  refine zak (Y':=⟨[(0,⟨.hptr,((0:Nat),(0:Nat))⟩),(2,⟨bs,b⟩)],[(0,some (.hbox ty [⟨.vptr lt,l⟩,⟨.obuf u8,(1:Nat)⟩])),(1,some (.buf 5 u8 (o++n4)))],2⟩) ⟨⟨rfl,rfl,t_⟩,⟨rfl,zbp (by rw[x2];rfl),t_⟩,rfl,rfl⟩ ?_;refine zaa (zaj ?_);refine zat 3 zbM ?_;refine xY (eqF1 _ _ rfl) hX zbM rfl t_ ?_;refine zat 4 zbM ?_ (hp:=by exact c4);refine xY (eqF1 _ _ rfl) hX zbM rfl t_ ?_;refine zau zbM ?_;refine⟨.inl rfl,⟨_,rfl,u8,1,_,rfl,rfl,?_⟩,D2 rfl⟩;show some (((l,(o++n4)++b,()):wrT.T),([]:List V))=some ((l,o++serF (ltS l),()),[]);rw[serF,hn,cond_false, <-x1,x2,zB]
theorem ztW(w:zj)(ev:zK->zi)(o:Oper)(ho:o.op=.build 81 #[(0,.tmp 1)]){A:Addr}(h1:ev (.tmp 1)=.pointer (some A)):(execOp ev o).run zf w=.ok (.value (.agg [.pointer (some A),.slice none 0 0].toArray)) w:=by
 unfold execOp;simp only[ho];refine za7 ?_;simp[Instr.build,Tryz.zeroValue81,h1,go_sem]
theorem zfk:FnArr zf 83 17:=by
 refine⟨λw=>by simp[go_sem],λw ev o ho=>?_,λw ev o p i g k hk ho hp hi=>?_⟩
 .unfold execOp;simp[ho,Instr.alloc,fJ,newVar,newRow,go_sem]
 .unfold execOp;simp only[ho,hp,hi];refine za7 ?_;simp[asIntOf,hk,go_sem];intro h;exact absurd h o_
theorem fnV:FnTy zf 1:=by
 refine⟨λw=>by simp[go_sem],λw=>by simp[go_sem],λw ev o ho=>?_⟩;unfold execOp;simp[ho,Instr.alloc,Tryz.zeroValue1,newVar,newRow,go_sem]
def mV(f:yR)(g:Nat):zi:=.func (.func f) #[.pointer (some ⟨g,0,none⟩)] #[]
def fnA(a b c d e:yR)(g:Nat):List zi:=[.nilFunc,.nilFunc,.nilFunc,.nilFunc,.nilFunc,.nilFunc,.nilFunc,.nilFunc,.nilFunc,mV a g,mV b g,.nilFunc,.nilFunc,.nilFunc,mV c g,mV d g,mV e g]
theorem zoO{a b c d e:yR}{g:Nat}:∀u∈fnA a b c d e g,u.oneCell'=true:=by
 intro u hu;simp only[fnA,zE,zU,or_false]at hu;rcases hu with rfl|rfl|rfl|rfl|rfl|rfl|rfl|rfl|rfl|rfl|rfl|rfl|rfl|rfl|rfl|rfl|rfl<;>rfl
theorem zrW(w:zj)(ev:zK->zi)(o:Oper){r s t u v:Nat}(ho:o.op=.build 83 #[(9,.tmp r),(10,.tmp s),(14,.tmp t),(15,.tmp u),(16,.tmp v)]){a b c d e:yR}{g:Nat}(h1:ev (.tmp r)=mV a g)(h2:ev (.tmp s)=mV b g)(h3:ev (.tmp t)=mV c g)
  (h4:ev (.tmp u)=mV d g) (h5:ev (.tmp v)=mV e g):(execOp ev o).run zf w=.ok (.value (.agg (fnA a b c d e g).toArray)) w:=by
 unfold execOp;simp only[ho];refine za7 ?_;simp[Instr.build,fJ,h1,h2,h3,h4,h5,mV,fnA,go_sem]
def hd3(l:lt.T):List Int:=[l.1,l.2.1,l.2.2.1]
def fldB(l:lt.T):Nat->List UInt8
 |9=>movB (ltM l)
 |10=>serF (ltS l)
 |14=>winB (ltW l)
 |15=>celB (ltC l)
 |16=>ltD l
 |f=>leB (nAt l f) 8
def zdI(l:lt.T)(f:Nat):List UInt8:=bif za3 l.1 ((f:Nat):Int) then fldB l f else []
def outL(l:lt.T)(k:Nat):List UInt8:=((hd3 l).map λx=>leB x 1).flatten++((xQ k).map (zdI l)).flatten
theorem zrx(l:lt.T):outL l 0=((hd3 l).map λx=>leB x 1).flatten:=yE _
theorem zjD(l:lt.T)(k:Nat):outL l (k+1)=outL l k++zdI l k:=by
 unfold outL;rw[List.range_succ,xX,qb,zB];simp
def zc9(l:lt.T):List UInt8:=outL l 17
theorem zg8{l:lt.T}(h:zdr l)(hu:za3 l.1 10=true):serW l:=⟨h.2.1.2.1,λhn=>(h.2.2.2.2.1 ⟨hu,λhc=>by rw[hn]at hc;cases hc.1⟩).1⟩
theorem zpY{l:lt.T}(h:serW l):(serF (ltS l)).length<=60004:=by
 unfold serF;cases hn:zdc (ltS l) with
 |true=>rw[cond_true,za0];omega
 |false=>
  have:=ze0 (h.2 hn);rw[cond_false,zl,za0];omega
theorem znY{l:lt.T}(h:zdr l)(f:Nat):(zdI l f).length<=if f=10 then 60004 else if f=15 then 65540 else 40:=by
 unfold zdI;cases hu:za3 l.1 ((f:Nat):Int) with
 |false=>exact zk _
 |true=>
  rw[cond_true];unfold fldB;split
  .show(movB _).length<=40;unfold movB;simp only[zl,za0];omega
  .exact zpY (zg8 h hu)
  .show(winB _).length<=40;unfold winB;simp only[zl,za0];omega
  .show(celB _).length<=65540;have:=h.2.2.2.1;unfold celB;rw[zl,za0,zgo];omega
  .show(ltD l).length<=40;rw[h.2.2.2.2.2];omega
  .rename_i h1 h2 h3 h4 h5;rw[za0,if_neg (by intro e;exact h2 e),if_neg (by intro e;exact h4 e)];omega
theorem ziz{l:lt.T}(h:zdr l):∀k,(outL l k).length<=3+40*k+(if 10<k then 60004 else 0)+(if 15<k then 65540 else 0)
 |0=>by rw[zrx,zgo];exact zu 3
 |k+1=>by
  have h1:=ziz h k;have h2:=znY h k;rw[zjD,zl];by_cases e1:k=10
  .subst e1;rw[if_pos rfl]at h2;rw[if_neg o_,if_neg o_]at h1;rw[if_pos o_,if_neg o_];omega
  .by_cases e2:k=15
   .subst e2;rw[if_neg o_,if_pos rfl]at h2;rw[if_pos o_,if_neg o_]at h1;rw[if_pos o_,if_pos o_];omega
   .rw[if_neg e1,if_neg e2]at h2;have e3:(10<k+1)↔10<k:=o_;have e4:(15<k+1)↔15<k:=o_;simp only[e3,e4];omega
theorem zp7{l:lt.T}(h:zdr l){k:Nat}(hk:k<=17):(outL l k).length<=900000:=by
 have:=ziz h k;split at this<;>split at this<;>omega
theorem zf0{l:lt.T}(h:zdr l):(zc9 l).length<=130000:=by
 have:=ziz h 17;rw[if_pos o_,if_pos o_]at this;exact zL this o_
noncomputable def cBy:Ctr:={ args:=[lt],pre:=λx=>[zdr x.1],res:=.tup bs (.tup i64 .unit),own:=none,out:=λx=>(zc9 x.1,(0:Int),()) }
noncomputable def kBy:Kn:={ dK with C:=[(19,cVal),(27,cUs)] }
theorem zay:KnOk zf dG kBy:=zam.with (.cons zpO<|.cons zgw .nil)
theorem zqD{w0 w1:zj}{O:Nat->Prop}(hX:(qJ dG O).Ok w0){X':Ownr}(hb:∀g,X'.R g->w0.heap.size<=g\/(qJ dG O).R g)(hs:w0.heap.size<=w1.heap.size){x0:zy}{G':zj->Prop}:∀w R,(∀g,R g->w1.heap.size<=g\/X'.R g)->G' w->ginv w R x0:=λw R hR _ h=>by
 have h0:=hX.2.2 w0 (jw _ _);have h1:=h0.1;rcases hR _ h with h2|h2
 .omega
 .rcases hb _ h2 with h3|h3
  .omega
  .exact jW _ _ _ h3
set_option maxHeartbeats 8000000 in
theorem ziZ:yQ zf dG 6 cBy:=by
 refine ctr2 zay Tryz.func6 Tryz.call6 ?_;rintro w0 O hX0 ⟨(l:lt.T),⟨⟩⟩ hp;have hg:=hp;obtain⟨hk1,hk2⟩:=hg.1.1;have hI0:∀w R,(∀g,R g->w0.heap.size<=g\/(qJ dG O).R g)->(qJ dG O).G w->ginv w R 81:=zoM hX0;refine zaa (zaa (zab zay ?_));refine xN hX0 1 ?_
 iterate 2 (refine zaa (zaa (zab zay ?_)))
 refine zaL rfl ?_;apply zaf;refine zaa (zaa (zaj ?_));refine AL.hand rfl (by intro c e;cases e) λU a w hs=>?_;obtain⟨g1,off1,cs1,p1,p2⟩:=hs.ops (.tmp 1);refine zbX rfl rfl (v:=⟨.hcons (.vptr lt) (.hcons .lit .unit),(l,(jZ none 0 0,()))⟩) (zk _) (N:=λY'=>AL _ _ _ _ _ _ Y' _) ?_ hs (ztW w a.eval _ rfl p1) ⟨_,_,rfl,rfl,⟨g1,off1,cs1,rfl,p2⟩,⟨_,_,rfl,rfl,rfl,(RepD.agg (t:=.unit) rfl).2 ⟨[],rfl,rfl⟩⟩⟩;refine ztU hX0 rfl rfl rfl rfl rfl rfl rfl ?_;refine zau zay ?_;refine za9 1 1 5 u8 rfl rfl rfl ?_;refine zaa (zaa (zab zay ?_));refine AWP.rename rfl [(1,0),(2,1),(3,2)] 103 ?_;refine zaa ?_;refine yK (ι:=Nat) (λk=>⟨[(1,⟨.vptr lt,l⟩),(5,⟨.hptr,((0:Nat),(0:Nat))⟩),(24,⟨.obuf i64,(2:Nat)⟩),(25,⟨i64,(3:Int)⟩),(26,⟨i64,(k:Int)⟩)],[(0,some (.hbox 81 [⟨.vptr lt,l⟩,⟨.obuf u8,(1:Nat)⟩])),(1,some (.buf 5 u8 ((((hd3 l).take k).map λx=>leB x 1).flatten))),(2,some (.buf 3 i64 (hd3 l)))],3⟩) (λk=>k<=3) (λk=>3-k) 0 (zk _) ⟨⟨rfl,rfl,rfl,rfl,rfl,t_⟩,⟨rfl,rfl,rfl,t_⟩,rfl,rfl⟩ ?_;intro k hk;refine zaa (zaa (zab zay ?_));refine zaa ?_;refine zaN rfl (λhb=>?_) (λhb=>?_)
 .have hb:(k:Int)<3:=hb;have hlt:k<(hd3 l).length:=by show k<3;omega
  have n0:(0:Int)<=(k:Int):=o_;have n1:(k:Int)<(((hd3 l).length:Nat):Int):=by exact_mod_cast hlt
  have n2:(k:Int).toNat<(hd3 l).length:=by rw[zS];exact hlt
  have eg:(hd3 l).getD (k:Int).toNat 0=(hd3 l)[k]:=za4 hlt;have c5:(0:Int)<=1:=d_;have c6:(1:Int)<=8:=d_;have c7:((((hd3 l).take k).map λx=>leB x 1).flatten).length<=1000000:=by
   rw[zgo,zP];omega
  have q1:inR .i64 ((k:Int)+1):=zah o_ o_;apply zaf;refine zaa (zaa (zab zay ?_ (hp:=by exact⟨n0,n1,n2⟩)));refine zaa (zaj ?_);refine ki 2 hX0 zay zfR rfl t_ rfl rfl ⟨c5,c6,c7⟩ hI0 ?_;refine qu ?_;refine zaa (zab zay ?_);refine⟨k+1,by omega,by omega,⟨rfl,rfl,rfl,rfl,rfl,t_⟩,⟨rfl,zbp ?_,rfl,t_⟩,rfl,rfl⟩;rw[zN hlt,xX,qb, <-eg];simp;rfl
 .
  have hkl:k=3:=o_;subst hkl;apply zan;rw[show(hd3 l).take 3=hd3 l from rfl];refine zfB 1 hX0 rfl rfl rfl λw1 X' hX hG hK hρ hD _ hback hsz _=>?_;obtain⟨G',O',K',fix,D',ρ',B'⟩:=X';obtain rfl:=hG;obtain rfl:=hK;have hI:∀w R,(∀g,R g->w1.heap.size<=g\/(⟨dG,O',1,fix,D',ρ',B'⟩:Ownr).R g)->dG w->ginv w R 81:=zqD hX0 hback hsz;refine zaa (zaa (zaj ?_))
  iterate 5 (refine zat 1 zay ?_;refine ztR rfl rfl rfl rfl rfl rfl ?_)
  refine zdT rfl (by intro c e;cases e) rfl rfl (.agg (fnA 21 22 23 24 25 (fix 0)).toArray) (λU a w hs=>zrW w a.eval _ rfl (zaR hs rfl) (zaR hs rfl) (zaR hs rfl) (zaR hs rfl) (zaR hs rfl)) ?_;refine zpF zfk hX rfl rfl rfl rfl ?_;refine zpC zfk rfl rfl rfl rfl rfl (by rw[show ∀u:List zi,(lits u).length=u.length from λu=>List.length_map ..];rfl) (us:=fnA 21 22 23 24 25 (fix 0)) rfl zoO rfl ?_;refine qu ?_;refine zaa (zaa (zaj ?_));refine zjb rfl rfl Tryz.call26 rfl rfl (v:=⟨nvT,nvX l⟩) rfl (zea rfl) ?_;refine zau zay ?_;refine zaa ?_;refine yK (ι:=Nat) (λk=>⟨[(1,⟨.vptr lt,l⟩),(5,⟨.hptr,((0:Nat),(0:Nat))⟩),(8,⟨.hptr,((3:Nat),(0:Nat))⟩),(45,⟨nvT,nvX l⟩),(46,⟨i64,(k:Int)⟩)],[(0,some (.hbox 81 [⟨.vptr lt,l⟩,⟨.obuf u8,(1:Nat)⟩])),(1,some (.buf 5 u8 (outL l k))),(3,some (.hbox 83 (lits (fnA 21 22 23 24 25 (fix 0)))))],4⟩) (λk=>k<=17) (λk=>17-k) 0 (zk _) ⟨⟨rfl,rfl,rfl,rfl,rfl,t_⟩,⟨rfl,zbp (zrx _).symm,rfl,t_⟩,rfl,rfl⟩ ?_;intro k hk;refine zaa (zaa (zab zay ?_));refine zaa ?_;refine zaN rfl (λhb=>?_) (λhb=>?_)
  .
   have h17:=hb;have f0:=o_;have q1:inR .i64 ((k:Int)+1):=zah o_ o_;have hlen:(outL l k).length<=900000:=zp7 hg o_;have hsucc:=zjD l k;unfold zdI at hsucc;apply zaf;refine zaa ?_;by_cases hnum:zaM k
   .refine za1 (Y':=⟨[(1,⟨.vptr lt,l⟩),(5,⟨.hptr,((0:Nat),(0:Nat))⟩),(8,⟨.hptr,((3:Nat),(0:Nat))⟩),(9,⟨i64,(k:Int)⟩),(10,⟨.vptr i64,nAt l k⟩),(45,⟨nvT,nvX l⟩),(46,⟨i64,(k:Int)⟩)],[(0,some (.hbox 81 [⟨.vptr lt,l⟩,⟨.obuf u8,(1:Nat)⟩])),(1,some (.buf 5 u8 (outL l k))),(3,some (.hbox 83 (lits (fnA 21 22 23 24 25 (fix 0)))))],4⟩) ?_ ?_
    .rcases hnum with rfl|rfl|rfl|rfl|rfl|rfl|rfl|rfl|rfl|rfl|rfl|rfl
     .refine zaj ?_;refine zat 1 zay ?_;refine zaJ zaX rfl rfl rfl rfl 0 rfl rfl rfl rfl rfl ?_;refine zau zay ?_;exact⟨⟨rfl,rfl,rfl,rfl,rfl,rfl,rfl,t_⟩,⟨rfl,rfl,rfl,t_⟩,rfl,rfl⟩
     .refine zaj ?_;refine zat 1 zay ?_;refine zaJ zaX rfl rfl rfl rfl 1 rfl rfl rfl rfl rfl ?_;refine zau zay ?_;exact⟨⟨rfl,rfl,rfl,rfl,rfl,rfl,rfl,t_⟩,⟨rfl,rfl,rfl,t_⟩,rfl,rfl⟩
     .refine zaj ?_;refine zat 1 zay ?_;refine zaJ zaX rfl rfl rfl rfl 2 rfl rfl rfl rfl rfl ?_;refine zau zay ?_;exact⟨⟨rfl,rfl,rfl,rfl,rfl,rfl,rfl,t_⟩,⟨rfl,rfl,rfl,t_⟩,rfl,rfl⟩
     .refine zaj ?_;refine zat 1 zay ?_;refine zaJ zaX rfl rfl rfl rfl 3 rfl rfl rfl rfl rfl ?_;refine zau zay ?_;exact⟨⟨rfl,rfl,rfl,rfl,rfl,rfl,rfl,t_⟩,⟨rfl,rfl,rfl,t_⟩,rfl,rfl⟩
     .refine zaj ?_;refine zat 1 zay ?_;refine zaJ zaX rfl rfl rfl rfl 4 rfl rfl rfl rfl rfl ?_;refine zau zay ?_;exact⟨⟨rfl,rfl,rfl,rfl,rfl,rfl,rfl,t_⟩,⟨rfl,rfl,rfl,t_⟩,rfl,rfl⟩
     .refine zaj ?_;refine zat 1 zay ?_;refine zaJ zaX rfl rfl rfl rfl 5 rfl rfl rfl rfl rfl ?_;refine zau zay ?_;exact⟨⟨rfl,rfl,rfl,rfl,rfl,rfl,rfl,t_⟩,⟨rfl,rfl,rfl,t_⟩,rfl,rfl⟩
     .refine zaj ?_;refine zat 1 zay ?_;refine zaJ zaX rfl rfl rfl rfl 6 rfl rfl rfl rfl rfl ?_;refine zau zay ?_;exact⟨⟨rfl,rfl,rfl,rfl,rfl,rfl,rfl,t_⟩,⟨rfl,rfl,rfl,t_⟩,rfl,rfl⟩
     .refine zaj ?_;refine zat 1 zay ?_;refine zaJ zaX rfl rfl rfl rfl 7 rfl rfl rfl rfl rfl ?_;refine zau zay ?_;exact⟨⟨rfl,rfl,rfl,rfl,rfl,rfl,rfl,t_⟩,⟨rfl,rfl,rfl,t_⟩,rfl,rfl⟩
     .refine zaj ?_;refine zat 1 zay ?_;refine zaJ zaX rfl rfl rfl rfl 8 rfl rfl rfl rfl rfl ?_;refine zau zay ?_;exact⟨⟨rfl,rfl,rfl,rfl,rfl,rfl,rfl,t_⟩,⟨rfl,rfl,rfl,t_⟩,rfl,rfl⟩
     .refine zaj ?_;refine zat 1 zay ?_;refine zaJ zaX rfl rfl rfl rfl 11 rfl rfl rfl rfl rfl ?_;refine zau zay ?_;exact⟨⟨rfl,rfl,rfl,rfl,rfl,rfl,rfl,t_⟩,⟨rfl,rfl,rfl,t_⟩,rfl,rfl⟩
     .refine zaj ?_;refine zat 1 zay ?_;refine zaJ zaX rfl rfl rfl rfl 12 rfl rfl rfl rfl rfl ?_;refine zau zay ?_;exact⟨⟨rfl,rfl,rfl,rfl,rfl,rfl,rfl,t_⟩,⟨rfl,rfl,rfl,t_⟩,rfl,rfl⟩
     .refine zaj ?_;refine zat 1 zay ?_;refine zaJ zaX rfl rfl rfl rfl 13 rfl rfl rfl rfl rfl ?_;refine zau zay ?_;exact⟨⟨rfl,rfl,rfl,rfl,rfl,rfl,rfl,t_⟩,⟨rfl,rfl,rfl,t_⟩,rfl,rfl⟩
    have hfld:fldB l k=leB (nAt l k) 8:=by rcases hnum with rfl|rfl|rfl|rfl|rfl|rfl|rfl|rfl|rfl|rfl|rfl|rfl<;>rfl
    rw[hfld]at hsucc;generalize nAt l k=x at hsucc;cases hu:za3 l.1 ((k:Nat):Int) with
    |false=>
     rw[hu,cond_false,yE]at hsucc;refine zaa (zaa (zab zay ?_));refine zae rfl (λ_=>?_) (λhb=>?_)
     .refine zaa ?_;refine zaa (zab zay ?_);exact⟨k+1,by omega,by omega,⟨rfl,rfl,rfl,rfl,rfl,t_⟩,⟨rfl,zbp hsucc.symm,rfl,t_⟩,rfl,rfl⟩
     .have hb:(!za3 l.1 (k:Int))=false:=hb;rw[hu]at hb;cases hb
    |true=>
     rw[hu,cond_true]at hsucc;refine zaa (zaa (zab zay ?_));refine zae rfl (λhb=>?_) (λ_=>?_)
     .have hb:(!za3 l.1 (k:Int))=true:=hb;rw[hu]at hb;cases hb
     refine zaa (zaa (zaj ?_));refine zat 1 zay ?_;refine zdS zgL (.inr ⟨rfl,rfl⟩) rfl rfl rfl rfl rfl rfl ?_;refine zau zay ?_;refine zbu rfl ?_;have w0:(0:Int)<=8:=d_;have w8:(8:Int)<=8:=d_;have w9:(outL l k).length<=1000000:=o_;refine zaa (zaj ?_);refine ki 4 hX zay zfR rfl t_ rfl rfl ⟨w0,w8,w9⟩ hI ?_;refine qu ?_;refine zaa (zab zay ?_);exact⟨k+1,by omega,by omega,⟨rfl,rfl,rfl,rfl,rfl,t_⟩,⟨rfl,zbp hsucc.symm,rfl,t_⟩,rfl,rfl⟩
   .have hz:k=9\/k=10\/k=14\/k=15\/k=16:=by unfold zaM at hnum;omega
    refine za1 (Y':=⟨[(1,⟨.vptr lt,l⟩),(5,⟨.hptr,((0:Nat),(0:Nat))⟩),(8,⟨.hptr,((3:Nat),(0:Nat))⟩),(9,⟨i64,(k:Int)⟩),(10,⟨.lit,zz none⟩),(45,⟨nvT,nvX l⟩),(46,⟨i64,(k:Int)⟩)],[(0,some (.hbox 81 [⟨.vptr lt,l⟩,⟨.obuf u8,(1:Nat)⟩])),(1,some (.buf 5 u8 (outL l k))),(3,some (.hbox 83 (lits (fnA 21 22 23 24 25 (fix 0)))))],4⟩) ?_ ?_
    .rcases hz with rfl|rfl|rfl|rfl|rfl
     .refine zaj ?_;refine zat 1 zay ?_;refine zaJ zaX rfl rfl rfl rfl 9 rfl rfl rfl rfl rfl ?_;refine zau zay ?_;exact⟨⟨rfl,rfl,rfl,rfl,rfl,rfl,rfl,t_⟩,⟨rfl,rfl,rfl,t_⟩,rfl,rfl⟩
     .refine zaj ?_;refine zat 1 zay ?_;refine zaJ zaX rfl rfl rfl rfl 10 rfl rfl rfl rfl rfl ?_;refine zau zay ?_;exact⟨⟨rfl,rfl,rfl,rfl,rfl,rfl,rfl,t_⟩,⟨rfl,rfl,rfl,t_⟩,rfl,rfl⟩
     .refine zaj ?_;refine zat 1 zay ?_;refine zaJ zaX rfl rfl rfl rfl 14 rfl rfl rfl rfl rfl ?_;refine zau zay ?_;exact⟨⟨rfl,rfl,rfl,rfl,rfl,rfl,rfl,t_⟩,⟨rfl,rfl,rfl,t_⟩,rfl,rfl⟩
     .refine zaj ?_;refine zat 1 zay ?_;refine zaJ zaX rfl rfl rfl rfl 15 rfl rfl rfl rfl rfl ?_;refine zau zay ?_;exact⟨⟨rfl,rfl,rfl,rfl,rfl,rfl,rfl,t_⟩,⟨rfl,rfl,rfl,t_⟩,rfl,rfl⟩
     .refine zaj ?_;refine zat 1 zay ?_;refine zaJ zaX rfl rfl rfl rfl 16 rfl rfl rfl rfl rfl ?_;refine zau zay ?_;exact⟨⟨rfl,rfl,rfl,rfl,rfl,rfl,rfl,t_⟩,⟨rfl,rfl,rfl,t_⟩,rfl,rfl⟩
    cases hu:za3 l.1 ((k:Nat):Int) with
    |false=>
     rw[hu,cond_false,yE]at hsucc;refine zaa (zaa (zab zay ?_));refine zae rfl (λ_=>?_) (λhb=>?_)
     .refine zaa ?_;refine zaa (zab zay ?_);exact⟨k+1,by omega,by omega,⟨rfl,rfl,rfl,rfl,rfl,t_⟩,⟨rfl,zbp hsucc.symm,rfl,t_⟩,rfl,rfl⟩
     .have hb:(!za3 l.1 (k:Int))=false:=hb;rw[hu]at hb;cases hb
    |true=>
     rw[hu,cond_true]at hsucc;refine zaa (zaa (zab zay ?_));refine zae rfl (λhb=>?_) (λ_=>?_)
     .have hb:(!za3 l.1 (k:Int))=true:=hb;rw[hu]at hb;cases hb
     refine zaa (zaa (zaj ?_));refine zat 1 zay ?_;refine zdS zgL (.inr ⟨rfl,rfl⟩) rfl rfl rfl rfl rfl rfl ?_;refine zau zay ?_;refine zaL rfl ?_;refine zaa (zaj ?_);refine zat 1 zay ?_;rcases hz with rfl|rfl|rfl|rfl|rfl
     .refine zdh zfk fnV rfl rfl rfl rfl rfl rfl rfl rfl rfl rfl rfl 9 d_ rfl rfl rfl ?_;refine zc0 hX rfl zr9 rfl rfl rfl (.tmp 5) rfl rfl rfl rfl rfl rfl rfl rfl t_ hlen hI (λ_=>rfl) ?_;refine qu ?_;refine zaa (zab zay ?_);exact⟨10,by omega,by omega,⟨rfl,rfl,rfl,rfl,rfl,t_⟩,⟨rfl,zbp hsucc.symm,rfl,t_⟩,rfl,rfl⟩
     .refine zdh zfk fnV rfl rfl rfl rfl rfl rfl rfl rfl rfl rfl rfl 10 d_ rfl rfl rfl ?_;refine zc0 hX rfl zr6 rfl rfl rfl (.tmp 5) rfl rfl rfl rfl rfl rfl rfl rfl t_ ⟨zg8 hg hu,hlen⟩ hI (λ_=>rfl) ?_;refine qu ?_;refine zaa (zab zay ?_);exact⟨11,by omega,by omega,⟨rfl,rfl,rfl,rfl,rfl,t_⟩,⟨rfl,zbp hsucc.symm,rfl,t_⟩,rfl,rfl⟩
     .refine zdh zfk fnV rfl rfl rfl rfl rfl rfl rfl rfl rfl rfl rfl 14 d_ rfl rfl rfl ?_;refine zc0 hX rfl zr5 rfl rfl rfl (.tmp 5) rfl rfl rfl rfl rfl rfl rfl rfl t_ hlen hI (λ_=>rfl) ?_;refine qu ?_;refine zaa (zab zay ?_);exact⟨15,by omega,by omega,⟨rfl,rfl,rfl,rfl,rfl,t_⟩,⟨rfl,zbp hsucc.symm,rfl,t_⟩,rfl,rfl⟩
     .refine zdh zfk fnV rfl rfl rfl rfl rfl rfl rfl rfl rfl rfl rfl 15 d_ rfl rfl rfl ?_;refine zc0 hX rfl zsa rfl rfl rfl (.tmp 5) rfl rfl rfl rfl rfl rfl rfl rfl t_ ⟨hg.2.2.2.1,hlen⟩ hI (λ_=>rfl) ?_;refine qu ?_;refine zaa (zab zay ?_);exact⟨16,by omega,by omega,⟨rfl,rfl,rfl,rfl,rfl,t_⟩,⟨rfl,zbp hsucc.symm,rfl,t_⟩,rfl,rfl⟩
     .refine zdh zfk fnV rfl rfl rfl rfl rfl rfl rfl rfl rfl rfl rfl 16 d_ rfl rfl rfl ?_;refine zc0 hX rfl zr7 rfl rfl rfl (.tmp 5) rfl rfl rfl rfl rfl rfl rfl rfl t_ ⟨by show(ltD l).length<=1000;rw[hg.2.2.2.2.2];omega,hlen⟩ hI (λ_=>rfl) ?_;refine qu ?_;refine zaa (zab zay ?_);exact⟨17,by omega,by omega,⟨rfl,rfl,rfl,rfl,rfl,t_⟩,⟨rfl,zbp hsucc.symm,rfl,t_⟩,rfl,rfl⟩
  .
   have hkl:k=17:=o_;subst hkl;apply zan;refine zaa (zaa (zaj ?_));refine zat 2 zay ?_;refine xY (eqF1 _ _ rfl) hX zay rfl t_ ?_;refine zau zay ?_;refine vo hX 2 ?_;exact zC ⟨.inr rfl,D2 rfl⟩
theorem zl3{P:zA}{Z:Ty}{t:zy}(h:Lay P Z (.inl t))(hd:Z.isAgg=false){w:zj}{g o:Nat}{v:zi}(hc:w.cell? ⟨g,o,none⟩=some v):(qL t (.pointer (some ⟨g,o,none⟩))).run P w=.ok v w:=by
 simp only[qL,qa,zJ,zI,zD];unfold vh;simp only[zJ,h.isAgg,zD];simp[hd,load,Sem.run,hc]
def znb(xs:List u8.T)(k:Nat):List V:=[⟨i64,((xs.length:Int)-1-k)⟩,⟨u8,xs.getD (xs.length-1-k) (zaD u8)⟩]
theorem zfv(xs:List u8.T):Iter zf 86 (.tup (.vptr (.slice u8)) .unit) (xs,()) xs.length (znb xs):=by
 rintro W0 us O' ⟨u,r,rfl,⟨g,o,cs,rfl,hg,hO,⟨v,rfl,hs⟩,hc⟩,rfl⟩;have hst:Lay zf (.slice u8) (.inl 25):=zfi.is (t:=25) rfl;have het:Lay zf u8 (.inl 5):=zfi.is (t:=5) rfl;have hlen:xs.length<=maxLen:=by
  rcases hs with ⟨rfl,_⟩|⟨_,_,_,_,_,_,h1,h2,_⟩
  .exact zk _
  .exact zL h1 h2
 have hlen:xs.length<=9223372036854775807:=hlen;refine⟨λq=>q<W0.heap.size/\¬O' q,λq h=>h,zlG (G:=gmG) (n:=19) (λq h=>h.1) Tryz.func86 rfl rfl rfl (zb rfl) ?_⟩;intro l J B hB hJ hY;have hGt:∀w,gmG w:=λ_=>trivial;obtain⟨C,hCd⟩:∃C:Nat->Prop,C=λq=>q<W0.heap.size/\¬O' q:=⟨_,rfl⟩;rw[<-hCd]at hY ⊢;have hCl:∀q,C q->q<W0.heap.size:=λq h=>by rw[hCd]at h;exact h.1
 have hCi:∀q,q<W0.heap.size->¬O' q->C q:=λq h1 h2=>by rw[hCd];exact⟨h1,h2⟩
 have zs7:∀(W:zj),(∀q,C q->W.heap[q]? =W0.heap[q]?)->(qL 25 (.pointer (some ⟨g,o,none⟩))).run zf W=.ok v W:=λW hw=>
  zl3 hst rfl ((kY (hw g (hCi g hg hO))).trans (hc 0 v rfl))
 have hp1:∀{U:Nat->zi}{a:Act}{w w1:zj}{F:Frame}{E:Owns}{nx:Nat},zr F 1=⟨.lit,.pointer (some ⟨g,o,none⟩)⟩->Sim w1 (Ownr.it gmG) 19 ⟨F,E,nx⟩ U a w->a.eval (.tmp 1)=.pointer (some ⟨g,o,none⟩):=λe h=>by
  have h1:=h.ops (.tmp 1);rw[show evO (AS.mk _ _ _).F (.tmp 1)=_ from e]at h1;exact h1
 let F (z:Int):List (Nat×V):=[(0,⟨.lit,.func (.yield l) #[] #[]⟩),(1,⟨.lit,.pointer (some ⟨g,o,none⟩)⟩),(3,⟨i64,z⟩)]
 refine IWP.seq ?_;refine IWP.mono (IWP.of (Q:=λe F' κ=>e=.normal/\F'=F ((xs.length:Int)-1)/\κ=some 0) hB hCl hGt hJ (λW hX hWB hw=>?_)) ?_
 .refine zaj ?_;refine ku rfl (by intro c e;cases e) rfl rfl ⟨.slice u8,xs⟩ rfl (λU a w hsim=>?_) ?_
  .obtain⟨hz,hw2⟩:=zkT hB hCl hWB hw hsim;refine⟨v,?_,(RepD.scalar rfl).2 ?_⟩
   .show(do pure (.value (<-qL _ (a.eval (.tmp 1)))):Sem Next).run _ _=_;rw[hp1 rfl hsim];exact za7 (zs7 w hw2)
   .refine RepC.keep (O:=O') ⟨hz,λq hq hn=>hw2 q (hCi q hq hn),λq _ h=>?_⟩ (.slice u8) xs [v] ⟨v,rfl,hs⟩;rw[OSet.nil]at h;exact h.elim
  refine AL.all hX zar rfl ?_ ?_
  .exact zah o_ o_
  exact⟨rfl,F ((xs.length:Int)-1),⟨rfl,rfl,rfl,t_⟩,rfl,rfl,rfl,rfl⟩
 rintro e F' κ ⟨rfl,rfl,rfl⟩;refine IWP.block ?_;refine IWP.loop (ι:=Nat) (λk=>F ((xs.length:Int)-1-k)) some (λk=>k<=xs.length) (λk=>xs.length-k) 0 (zk _) ⟨rfl,rfl,vI64 o_,t_⟩ rfl (λk=>rfl) (λk hk=>?_);have hz0:inR .i64 ((xs.length:Int)-1-k-1):=zah o_ o_;refine IWP.seq (IWP.mono (IWP.of (Q:=λe F' κ=>(e=.exit 0/\xs.length<=k/\κ=some k)\/(e=.normal/\k<xs.length/\F'=F ((xs.length:Int)-1-k)/\κ=some k)) hB hCl hGt hJ (λW hX hWB hw=>?_)) ?_)
 .refine zaa (zaa (zab zar ?_));refine zae rfl (λhb=>zaf ⟨rfl,F ((xs.length:Int)-1-k),⟨rfl,rfl,rfl,t_⟩,rfl,.inr ⟨rfl,?_,rfl,rfl⟩⟩) (λhb=>zan ⟨rfl,F ((xs.length:Int)-1-k),⟨rfl,rfl,rfl,t_⟩,rfl,.inl ⟨rfl,?_,rfl⟩⟩)
  .have hb:decide ((xs.length:Int)-1-k>=0)=true:=hb;have hb:=of_decide_eq_true hb;omega
  .have hb:decide ((xs.length:Int)-1-k>=0)=false:=hb;have hb:=of_decide_eq_false hb;omega
 rintro e F' κ (⟨rfl,hk2,rfl⟩|⟨rfl,hk2,rfl,rfl⟩)
 .exact⟨.inl rfl,.inl (by rw[show k=xs.length by omega])⟩
 obtain⟨g2,off,c,vs,rfl,_,_,_,hg2,hO2,hvs,hcs⟩:=hs.resolve_left (by rintro ⟨rfl,_⟩;cases hk2);obtain⟨i,hi⟩:∃i,i=xs.length-1-k:=⟨_,rfl⟩;have hil:i<xs.length:=o_;have hz:(xs.length:Int)-1-k=(i:Int):=o_;obtain⟨ck,hck⟩:∃ck,ck=(vs.drop (i*uk u8)).take (uk u8):=⟨_,rfl⟩;have hrk:RepC W0 O' u8 xs[i] ck:=hck▸hvs.nth (λx c h=>RepC.len _ _ _ h) (zR hil);have hck1:ck=[.int .u8 (encI .u8 xs[i])]:=hrk;have hcc:CellsAt W0 g2 (off+i*uk u8) ck:=hck▸(hcs.drop _).take _;have hT:zr0 W0 C (znb xs k) #[.int .i64 (i:Int),.int .u8 (encI .u8 xs[i])]:=by
  refine⟨[.int .i64 (i:Int),.int .u8 (encI .u8 xs[i])],rfl,rfl,λw' O'' U' h1 h2=>⟨rfl,λj v hv=>?_⟩⟩
  match j,hv with
  |0,hv=>
   have hv:(⟨i64,((xs.length:Int)-1-k)⟩:V)=v:=yP hv;subst hv;exact⟨_,rfl,by rw[hz];exact qF (k:=.i64)⟩
  |1,hv=>
   have hv:(⟨u8,xs.getD (xs.length-1-k) (zaD u8)⟩:V)=v:=yP hv;subst hv;refine⟨_,rfl,?_⟩;have e:xs.getD (xs.length-1-k) (zaD u8)=xs[i]:=by
    rw[<-hi,zH,zR hil];rfl
   rw[e];exact qF (k:=.u8)
 rw[hz]at hz0 ⊢
 let F1:List (Nat×V):=(16,⟨.lit,.int .u8 (encI .u8 xs[i])⟩)::(12,⟨i64,(i:Int)⟩)::(11,⟨.lit,.func (.yield l) #[] #[]⟩)::F (i:Int)
 refine IWP.seq (IWP.block (IWP.seq (IWP.list ?_)));refine IL.of 6 F1 hB hCl hGt hJ rfl (λW hX hWB hw=>?_) ?_
 .refine zat 2 zar ?_;refine zdT rfl (by intro c e;cases e) rfl rfl (.slice (some ⟨g2,off,none⟩) xs.length c) (λU a w hsim=>?_) ?_
  .show(do pure (.value (<-qL _ (a.eval (.tmp 1)))):Sem Next).run _ _=_;rw[hp1 rfl hsim];exact za7 (zs7 w (zkT hB hCl hWB hw hsim).2)
  refine zat 1 zar ?_;refine zdT rfl (by intro c e;cases e) rfl rfl (.pointer (some ⟨g2,off+i*uk u8,none⟩)) (λU a w hsim=>?_) ?_
  .obtain⟨te,hu,_,hte⟩:=hst;have e1:a.eval (.tmp 13)=.slice (some ⟨g2,off,none⟩) xs.length c:=hsim.ops (.tmp 13);have e2:a.eval (.tmp 14)=.int .i64 (i:Int):=RepV.int (hsim.ops (.tmp 14));show(do pure (.value (<-Instr.indexAt _ (a.eval (.tmp 13)) (a.eval (.tmp 14)))):Sem Next).run _ _=_;rw[e1,e2];refine za7 ?_;rw[zbL hu hte.sizeOf (qh i) o_,Addr.add_mid];rfl
  refine zdT rfl (by intro c e;cases e) rfl rfl (.int .u8 (encI .u8 xs[i])) (λU a w hsim=>?_) ?_
  .have e1:a.eval (.tmp 15)=.pointer (some ⟨g2,off+i*uk u8,none⟩):=hsim.ops (.tmp 15);show(do pure (.value (<-qL _ (a.eval (.tmp 15)))):Sem Next).run _ _=_;rw[e1];exact za7 (zl3 het rfl ((kY ((zkT hB hCl hWB hw hsim).2 g2 (hCi g2 hg2 hO2))).trans (hcc 0 _ (by rw[hck1];rfl))))
  exact qu ⟨rfl,rfl,⟨rfl,rfl,rfl,rfl,rfl,rfl,t_⟩⟩
 refine IL.yield (y:=#[.int .i64 (i:Int),.int .u8 (encI .u8 xs[i])]) rfl rfl rfl rfl rfl (λU a w hsim=>?_) (λw hj hw=>?_) ⟨t_,rfl,t_,t_,t_,rfl,t_⟩ rfl
 .have e1:a.eval (.tmp 12)=.int .i64 (i:Int):=RepV.int (hsim.ops (.tmp 12));have e2:a.eval (.tmp 16)=.int .u8 (encI .u8 xs[i]):=hsim.ops (.tmp 16);simp[e1,e2]
 refine YieldAt.mono (hY k _ w hj hk2 hT hw) ?_;rintro e W' ⟨b,rfl,hj',hsm⟩;refine⟨b,_,rfl,hj',hsm,?_⟩;refine IL.of 1 ((18,⟨.bool,!b⟩)::F (i:Int)) hB hCl hGt hJ rfl (λW hX hWB hw=>AL.all hX zar rfl t_ ⟨rfl,rfl,⟨rfl,rfl,rfl,rfl,t_⟩⟩) ?_;refine IL.nil ?_;refine IWP.mono (IWP.of (Q:=λe F' κ=>(e=.ret/\b=false/\κ=none)\/(e=.normal/\b=true/\F'=F (i:Int)/\κ=some (k+1))) hB hCl hGt hJ (λW hX hWB hw=>?_)) ?_
 .refine zae rfl (λhb=>zC ⟨rfl,F (i:Int),⟨rfl,rfl,rfl,t_⟩,rfl,.inl ⟨rfl,?_,?_⟩⟩) (λhb=>zaf ⟨rfl,F (i:Int),⟨rfl,rfl,rfl,t_⟩,rfl,.inr ⟨rfl,?_,rfl,?_⟩⟩)
  all_goals (have hb:(!b)=_:=hb;cases b<;>first|rfl|(cases hb))
 rintro e F' κ (⟨rfl,rfl,rfl⟩|⟨rfl,rfl,rfl,rfl⟩)
 .exact⟨.inr rfl,.inr rfl⟩
 refine IWP.of hB hCl hGt hJ (λW hX hWB hw=>?_);refine zaa (zaa (zab zar ?_));exact⟨rfl,F ((i:Int)-1),⟨rfl,rfl,rfl,t_⟩,rfl,k+1,hk2,by show xs.length-(k+1)<xs.length-k;omega,⟨rfl,rfl,vI64 o_,t_⟩,rfl⟩
abbrev zhh:Ty:=.tup (.vptr bs) .unit
def ztw:Ctr:={ args:=[bs],pre:=λ_=>[],res:=.clo 86 zhh,own:=none,out:=λx=>(x.1,()) }
def leD:List UInt8->Nat
 | []=>0
 |b::r=>b.toNat+256*leD r
def sI(v:Nat):Int:=(zW 64 v).toInt
def rdN(l:List UInt8):Int:=sI (leD l)
theorem zox:∀l:List UInt8,leD l<256^l.length
 | []=>Nat.one_pos
 |b::r=>by
  have h1:=zox r;have h2:=UInt8.toNat_lt b;show b.toNat+256*leD r<256^(r.length+1);rw[Nat.pow_succ];omega
theorem zkN:∀(k:Nat)(n:Int),((leD (leB n k):Nat):Int)=n%256^k
 |0,n=>by show(0:Int)=n%1;omega
 |k+1,n=>by
  have h1:=zkN k (n/256);show(((zM (n%256).toNat).toNat+256*leD (leB (n/256) k):Nat):Int)=_;have h2:(zM (n%256).toNat).toNat=(n%256).toNat:=by
   rw[jd];omega
  rw[h2,Int.natCast_add,Int.natCast_mul,h1];have h3:(256:Int)^(k+1)=256*256^k:=by rw[Int.pow_succ,Int.mul_comm]
  rw[h3];have hp:(0:Int)<256^k:=Int.pow_pos d_;have h4:n%(256*256^k)=n%256+256*((n/256)%256^k):=by
   have e:n/256/256^k=n/(256*256^k):=by
    rw[Int.ediv_ediv,if_neg (λh=>absurd h.1 d_),Int.sub_zero]
   rw[Int.emod_def n (256*256^k),Int.emod_def (n/256),Int.mul_assoc 256, <-e];generalize (256:Int)^k*(n/256/256^k)=m;omega
  rw[h4];omega
theorem znR{n:Int}(h:inR .i64 n):rdN (leB n 8)=n:=by
 have h1:=zkN 8 n;have h2: -9223372036854775808<=n/\n<=9223372036854775807:=h;unfold rdN sI;rw[vP,xA];have h3:(256:Int)^8=18446744073709551616:=rfl;rw[h3]at h1;have h4:(2:Nat)^64=18446744073709551616:=rfl;rw[h4];split<;>omega
theorem zug{v b:Nat}(hv:v<2^56)(hb:b<256):(zW 64 v <<< 8|||zW 64 b)=zW 64 (b+256*v):=by
 apply BitVec.eq_of_toNat_eq;rw[BitVec.toNat_or,BitVec.toNat_shiftLeft,xA,xA,xA];have e1:v%2^64=v:=qg (zF hv d_);have e2:b%2^64=b:=qg (zF hb d_);have e3:v <<< 8<2^64:=by rw[Nat.shiftLeft_eq];omega
 rw[e1,e2,qg e3, <-Nat.shiftLeft_add_eq_or_of_lt o_,Nat.shiftLeft_eq];rw[qg o_];omega
theorem zl8{l:List UInt8}{i:Nat}(h:i<l.length):leD (l.drop i)=(l[i]).toNat+256*leD (l.drop (i+1)):=by
 rw[xR h];rfl
theorem zpj:yQ zf gmG 67 ztw:=by
 refine ctr2 zar Tryz.func67 Tryz.call67 ?_;rintro w0 X hX ⟨l,⟨⟩⟩ _;refine zaa (zaa (zab zar ?_));refine xN hX 1 ?_;refine zaa (zaa (zab zar ?_));exact zC ⟨.inr rfl,D1 rfl⟩
def cRBy:RCtr:={ self:=srd,args:=[i64],inv:=λ_ _=>True,pre:=λx xs=>[0<=xs.1,xs.1<=((zp x.1:Nat):Int)],res:=bs,out:=λx xs=>(x.1:List UInt8).take xs.1.toNat,post:=λx xs=>((x.1:List UInt8).drop xs.1.toNat,()) }
theorem zrw:vC zf gmG 114 cRBy:=by
 refine zaW (K:=gmK) zar Tryz.func114 rfl rfl Tryz.call114 rfl d_ (λw w' g hg h hk=>trivial) ?_;rintro w0 O g hX x0 ⟨(b:List UInt8),⟨⟩⟩ ⟨(n:Int),⟨⟩⟩ ⟨h0,h1⟩;have h0:0<=n:=h0;have h1:n<=((b.length:Nat):Int):=h1;change AWP _ _ _ _ _ ⟨[(0,⟨.optr srd,⟨0,srd,.here⟩⟩),(1,⟨i64,n⟩)],[(0,some (.box srd (b,())))],1⟩ _
 iterate 2 (refine zaa (zaa (zab zar ?_)))
 refine zae rfl (λhb=>?_) (λ_=>?_)
 .exfalso;have hb:(bif decide (n<0) then true else decide (n>((b.length:Nat):Int)))=true:=hb;rw[decide_eq_false o_,decide_eq_false o_]at hb;cases hb
 apply zaf;have z2:((b.length:Nat):Int)<=((b.length:Nat):Int):=qs _
 iterate 3 (refine zaa (zaa (zab zar ?_)))
 refine zC ⟨.inr rfl,?_,D1 ?_⟩
 .rfl
 .rfl
def cRNu:RCtr:={ self:=srd,args:=[],inv:=λ_ _=>True,pre:=λx _=>[8<=zp x.1],res:=i64,out:=λx _=>rdN ((x.1:List UInt8).take 8),post:=λx _=>((x.1:List UInt8).drop 8,()) }
def kRNu:Kn:={ gmK with C:=[(67,ztw)],R:=[(114,cRBy)] }
theorem zfN:KnOk zf gmG kRNu:=(zar.with (.cons zpj .nil)).withR (.cons zrw (λ_ _=>trivial) .nil)
abbrev u64:Ty:=.int .u64
theorem zlv(n:Int):IntKind.i64.wrap n=if 9223372036854775808<=n%18446744073709551616 then n%18446744073709551616-18446744073709551616 else n%18446744073709551616:=by simp[IntKind.wrap,IntKind.bits,IntKind.signed]
theorem znm(x:BitVec 64):x.toInt=IntKind.i64.wrap ((x.toNat:Nat):Int):=by
 rw[vP,zlv];have h1:=x.isLt;have h4:(2:Nat)^64=18446744073709551616:=rfl;rw[h4]at *;have h5:((x.toNat:Nat):Int)%18446744073709551616=((x.toNat:Nat):Int):=Int.emod_eq_of_lt o_ o_;rw[h5];split<;>split<;>omega
theorem cvUI{P:zA}{s d:zy}(hs:P.underlying s=some (.int .u64))(hd:P.underlying d=some (.int .i64))(x:BitVec 64)(w:zj):(Go.convert s d (.int .u64 (encI .u64 x))).run P w=.ok (.int .i64 x.toInt) w:=by
 unfold Go.convert;simp only[zJ,run_underlying hs,run_underlying hd,zD,Conv.intToInt,zI]
 congr 2
 exact(znm x).symm
def nrT:List (Nat×V):=[(0,⟨.optr srd,⟨0,srd,.here⟩⟩),(3,⟨.optr u64,⟨1,u64,.here⟩⟩)]
set_option maxHeartbeats 1000000 in
theorem zlP:vC zf gmG 113 cRNu:=by
 refine znS Tryz.func113 rfl rfl (.inr ⟨_,rfl⟩) Tryz.call113 rfl d_ rfl (λw w' g hg h hk=>trivial) ?_;rintro w0 O g hX hinv ⟨(b:List UInt8),⟨⟩⟩ ⟨⟩ hp;have h8:8<=b.length:=hp;change AWPM _ _ _ _ _ ⟨[(0,⟨.optr srd,⟨0,srd,.here⟩⟩)],[(0,some (.box srd (b,())))],1⟩ _;have c0:(0:Int)<=8:=d_;have c1:(8:Int)<=((b.length:Nat):Int):=o_
 iterate 2 (refine vQ (AWPM.of hX λW1 ds1 Bf1 hX1=>?_);refine zab zfN ?_)
 refine vQ (vQ (AWPM.of hX λW1 ds1 Bf1 hX1=>?_));refine zab zfN ?_;obtain⟨xs,hxs⟩:∃xs,xs=b.take 8:=⟨_,rfl⟩;have hxl:xs.length=8:=by rw[hxs,zP];omega
 show AWPM _ _ _ _ _ ⟨(8,⟨.clo _ zhh,(b.take 8,())⟩)::_,_,_⟩ _;rw[<-hxs]
 let E (v:Nat):Owns:=[(0,some (.box srd (b.drop 8,()))),(1,some (.box u64 (zW 64 v)))]
 have hlt:∀k,k<8->leD (xs.drop (8-k))<2^56:=λk hk=>by
  have h1:=zox (xs.drop (8-k));have h2:(xs.drop (8-k)).length<=7:=by rw[yY];omega
  exact zF h1 (zL (Nat.pow_le_pow_right d_ h2) d_)
 have hup:∀k,k<8->leD (xs.drop (8-(k+1)))=(xs.getD (xs.length-1-k) 0).toNat+256*leD (xs.drop (8-k)):=λk hk=>by
  rw[zl8 (show 8-(k+1)<xs.length by omega),zH,zR (show xs.length-1-k<xs.length by omega)];have e1:xs.length-1-k=8-(k+1):=o_;simp only[e1,Option.getD_some];rw[show 8-(k+1)+1=8-k by omega]
 refine AWPM.block ?_;refine AWPM.rangeM hX rfl Tryz.call86 [9,10] rfl rfl rfl 8 (znb xs) (λ_=>rfl) (by have:=zfv xs;rw[hxl]at this;exact this) 2 (λi hi=>?_) nrT ⟨rfl,rfl,t_⟩ rfl (λk=>E (leD (xs.drop (8-k)))) 2 (zu _) (by show 1<=2;decide) ⟨⟨rfl,rfl,t_⟩,⟨rfl,?_,t_⟩,rfl,rfl⟩ (λk=>rfl)
  (λ_=>True) (λ_=>False) trivial
  (λk=>⟨(5,⟨u8,xs.getD (xs.length-1-k) 0⟩)::nrT,E (leD (xs.drop (8-k))),2⟩) (λk=>zb rfl) (λk=>[]) (λW O' Bf fix l hX2 _ k hk hA=>?_) (λW O' Bf fix l hX2 _ k hk hA=>?_) (λhA=>?_) (λk hk hA hR=>hR.elim)
 .match i,hi with
  |0,_=>exact⟨_,rfl,rfl⟩
  |1,_=>exact⟨_,rfl,rfl⟩
 .show some (OObj.box u64 _)=some (OObj.box u64 (zW 64 (leD (xs.drop (8-0)))));rw[show xs.drop (8-0)=[] from qp o_];rfl
 .refine zab zfN ?_;exact⟨rfl,⟨rfl,rfl,rfl,t_⟩,⟨rfl,rfl,t_⟩,rfl,rfl⟩
 .apply zaq;refine zab zfN ?_;refine .inl ⟨rfl,t_,⟨t_,⟨rfl,?_,t_⟩,rfl,rfl⟩⟩;refine congrArg (λx=>some (OObj.box u64 x)) ?_;show zW 64 (leD (xs.drop (8-k))) <<< 8|||zW 64 (xs.getD (xs.length-1-k) 0).toNat=zW 64 (leD (xs.drop (8-(k+1))))
  rw[hup k hk,zug (hlt k hk) (UInt8.toNat_lt _)]
 .refine vQ (AWPM.of hX λW1 ds1 Bf1 hX1=>?_);refine zaj ?_;refine zat 1 zfN ?_;refine ku rfl (by intro c e;cases e) rfl rfl ⟨i64,(zW 64 (leD (xs.drop (8-8)))).toInt⟩ rfl (λU a w hs=>?_) ?_
  .have h1:=RepV.int (k:=.u64) (hs.ops (.tmp 16));refine⟨_,?_,qF (k:=.i64)⟩;show(do pure (.value (<-Go.convert _ _ (a.eval (.tmp 16)))):Sem Next).run _ _=_;rw[h1];exact za7 (cvUI (by kernel_rfl) (by kernel_rfl) _ w)
  refine zau zfN ?_;refine AWPM.of hX λW1 ds1 Bf1 hX1=>?_;refine zC ⟨.inr rfl,rfl,?_⟩;rw[show 8-8=0 from rfl,List.drop_zero,hxs];rfl
def ptrC(fix:Nat->Nat)(x0:List (Nat×Nat)):List zi:=x0.map λp=>zz (some ⟨fix p.1,p.2,none⟩)
def PG(G:zj->Prop)(fix:Nat->Nat)(gs:Nat)(te:zy)(x0:List (Nat×Nat))(w:zj):Prop:=G w/\w.heap[gs]? =some (.cells (ptrC fix x0).toArray te (0,0))
theorem PG.congr{G:zj->Prop}{fix x0:Nat->Nat}{gs:Nat}{te:zy}{x1:List (Nat×Nat)}(h:∀p∈x1,x0 p.1=fix p.1):PG G fix gs te x1=PG G x0 gs te x1:=by
 have:ptrC fix x1=ptrC x0 x1:=by
  unfold ptrC;exact List.map_congr_left λp hp=>by rw[h p hp]
 unfold PG;rw[this]
theorem KnOk.pg{P:zA}{G:zj->Prop}{K:Kn}(hK:KnOk P G K)(fix:Nat->Nat)(gs:Nat)(te:zy)(x0:List (Nat×Nat)):KnOk P (PG G fix gs te x0) K:=
 ⟨hK.t,hK.u,λf c h=>⟨(hK.c f c h).1,λw O xs vs hO hr hp hG=>(hK.c f c h).2 w O xs vs hO hr hp hG.1⟩,λw w' h hb=>⟨hK.st w w' h.1 hb,(hb.block gs (zv.1 h.2).1).trans h.2⟩,λf c h=>⟨⟨(hK.r f c h).1.1,λw O g cs ty x xs vs hO hg hx hr hp hi hG=>(hK.r f c h).1.2 w O g cs ty x xs vs hO hg hx hr hp hi hG.1⟩,(hK.r f c h).2⟩⟩
section
variable {P:zA}{w0:zj}{X:Ownr}{n:Nat}{F:List (Nat×V)}{E:Owns}{nx:Nat}{Q:Exit->AS->Prop}{ops:Array Oper}
theorem zi9(hX:X.Ok w0){o:Oper}{x3:List Oper}(xh:o.guard=none)(xk:∀c,o.op≠ .defer c){d:Nat}(hd:o.dst=some d)(xj:zO d n=true)(m:Nat)(te:zy)(x4:List (Nat×Nat))
  (x7:∀U a w,Sim w0 X n ⟨F,E,nx⟩ U a w->(execOp a.eval o).run P w=.ok (.value (.slice (some ⟨w.heap.size,0,none⟩) m m)) (w.alloc (.cells (ptrC X.fix x4).toArray te (0,0))))
  (h:∀(gs:Nat)(w1:zj)(X1:Ownr),X1.Ok w1->X1.G=PG X.G X.fix gs te x4->X1.K=X.K->X1.fix=X.fix->X1.ρ=X.ρ->X1.D=X.D->AL P w1 X1 n ops x3 ⟨(d,⟨.lit,.slice (some ⟨gs,0,none⟩) m m⟩)::F,E,nx⟩ Q):AL P w0 X n ops (o::x3) ⟨F,E,nx⟩ Q:=by
 intro U a w hs;have xg:d<n:=by simpa using xj
 refine wpListIn_plain xh λK hK=>za2 xk (zba (x7 U a w hs) (hK _ _ ?_));rw[hd];obtain⟨w2,x8⟩:∃w2,w2=w.alloc (.cells (ptrC X.fix x4).toArray te (0,0)):=⟨_,rfl⟩;have hb:xW w.heap.size w w2:=by rw[x8];exact(zY _ w).alloc (zu _) _
 have xd:w2.heap[w.heap.size]? =some (.cells (ptrC X.fix x4).toArray te (0,0)):=by rw[x8];exact xK w _
 rw[<-x8];have x0:Sim w0 X n ⟨(d,⟨.lit,.slice (some ⟨w.heap.size,0,none⟩) m m⟩)::F,E,nx⟩ U (a.put (some d) (.slice (some ⟨w.heap.size,0,none⟩) m m)) w2:=hs.put hb (v:=⟨.lit,.slice (some ⟨w.heap.size,0,none⟩) m m⟩) rfl (zk _) xg;have x6:∀g,ownB E U g->(w0.heap.size<=g\/X.R g)/\g<w.heap.size:=λg⟨i,o,h1,h2⟩=>⟨hs.new i o g h1 h2,((hs.own i o h1).block_lt h2).2⟩;have xl:=hs.bel.size;have xe:=hb.size;have xi:=(zv.1 xd).1
 let Y0:Ownr:={ X with G:=PG X.G X.fix w.heap.size te x4,B:=ownB E U }
 have x5:∀g,Y0.R g->(w0.heap.size<=g\/X.R g)/\g<w.heap.size:=λg hg=>by
  rcases hg with ⟨i,hi,hg⟩|hg
  .have h1:=hX.2.1 g (.inl ⟨i,hi,hg⟩);exact⟨.inr (.inl ⟨i,hi,hg⟩),by omega⟩
  .exact x6 g hg
 have x1:∀w',Kept Y0.R w2 w'->Kept X.R w0 w':=λw' hk=>⟨hk.os.trans x0.bel.os,hk.tape.trans x0.bel.tape,hk.output.trans x0.bel.output,zL x0.bel.size hk.size,λg xc hn=>by
  have xf:=zF xc x0.bel.size;rw[hk.block g xf λhy=>by
   rcases (x5 g hy).1 with h1|h1
   .omega
   .exact hn h1]
  exact x0.bel.block g xc hn⟩
 have x9:Y0.Ok w2:=by
  refine⟨λg hg=>⟨zF (hX.1 g hg).1 x0.bel.size,λhy=>?_⟩,λg hg=>zF (x5 g hg).2 xe,λw' hk=>⟨hX.2.2 w' (x1 w' hk),(hk.block _ xi λhy=>?_).trans xd⟩⟩
  .rcases (x5 g hy).1 with h1|h1
   .have:=(hX.1 g hg).1;omega
   .exact(hX.1 g hg).2 h1
  .have:=(x5 _ hy).2;omega
 have xa:Sim w2 Y0 n ⟨(d,⟨.lit,.slice (some ⟨w.heap.size,0,none⟩) m m⟩)::F,E,nx⟩ U (a.put (some d) (.slice (some ⟨w.heap.size,0,none⟩) m m)) w2:=
  ⟨x0.sz,x0.df,jw _ _,x0.fr,x0.own,λi o g h1 h2=>.inr (.inr ⟨i,o,h1,h2⟩),x0.inj,x0.lt,x0.fix,x0.hb,x0.hE⟩
 have x2:∀(Y':AS)(U':Nat->zi)(a':Act)(w':zj),Sim w2 Y0 n Y' U' a' w'->Sim w0 X n Y' U' a' w':=λY' U' a' w' h1=>⟨h1.sz,h1.df,x1 w' h1.bel,h1.fr,h1.own,λi o g h3 h4=>by
  rcases h1.new i o g h3 h4 with h5|h5
  .exact .inl (zL x0.bel.size h5)
  .exact(x5 g h5).1,h1.inj,h1.lt,h1.fix,h1.hb,h1.hE⟩
 have xb:=zcG (P:=P) (ops:=ops) (R0:=λe a' w'=>e≠ .outgrown/\∃Y' U',Sim w2 Y0 n Y' U' a' w'/\Q e Y') (R:=λe a' w'=>e≠ .outgrown/\∃Y' U',Sim w0 X n Y' U' a' w'/\Q e Y') [] (λ_ _ h=>h.1 rfl) (λa' w'⟨_,Y',U',h1,h2⟩=>⟨(λh=>by cases h),Y',U',x2 _ _ _ _ h1,h2⟩) (λe a' w' _⟨h0,Y',U',h1,h2⟩=>⟨h0,Y',U',x2 _ _ _ _ h1,h2⟩) x3 (h w.heap.size w2 Y0 x9 rfl rfl rfl rfl rfl U _ w2 xa);rw[yE]at xb;exact xb
theorem zbz{G:zj->Prop}{gs:Nat}{te:zy}{x2:List (Nat×Nat)}(hG:X.G=PG G X.fix gs te x2)(hX:X.Ok w0){st pt:zy}(hu:P.underlying st=some (.slice pt))(hz:∀w,(Go.sizeOf pt).run P w=.ok 1 w)(x7:∀w,(Go.isAgg pt).run P w=.ok false w){o1 o2:Oper}{x0:List Oper}{x i:zK}{d1 d2:Nat}
  (x4:o1.op=.indexAddr st x i) (xc:o1.guard=none) (x6:o1.dst=some d1) (x5:zO d1 n=true) (x3:o2.op=.load pt (.tmp d1)) (xb:o2.guard=none) (x9:o2.dst=some d2) (xa:zO d2 n=true) {m:Nat} (hx:evO F x=⟨.lit,.slice (some ⟨gs,0,none⟩) m m⟩) (j:Nat) (hi:evO F i=⟨.int .i64,((j:Nat):Int)⟩) (hj:j<m) {p:Nat×Nat} (hp:x2[j]? =some p) (x8:p.1<X.K) (xf:X.K<=nx)
  (h:∀v,AL P w0 X n ops x0 ⟨(d2,⟨.hptr,p⟩)::(d1,v)::F,E,nx⟩ Q):AL P w0 X n ops (o1::o2::x0) ⟨F,E,nx⟩ Q:=by
 have xe:(ptrC X.fix x2)[j]? =some (.pointer (some ⟨X.fix p.1,p.2,none⟩)):=by unfold ptrC;rw[yB,hp];rfl
 refine zdT xc (λc e=>by rw[x4]at e;cases e) x6 x5 (.pointer (some ⟨gs,j,none⟩)) (λU a w hs=>?_) ?_
 .have e1:=zaR hs hx;have e2:a.eval i=.int .i64 (j:Int):=ziM (Y:=⟨F,E,nx⟩) hi U a w hs;unfold execOp;simp only[x4];rw[e1,e2];refine za7 ?_;have:=zbL (P:=P) (w:=w) (A:=⟨gs,0,none⟩) (c:=m) (k:=.i64) hu (hz w) (n:=m) (i:=(j:Int)) (qh j) o_;rw[this];simp[Addr.add];intro h;exact h.symm
 refine AL.hand xb (λc e=>by rw[x3]at e;cases e) λU a w hs=>?_;have xd:PG G X.fix gs te x2 w:=by rw[<-hG];exact hX.2.2 w hs.bel
 have e1:a.eval (.tmp d1)=.pointer (some ⟨gs,j,none⟩):=zaR (F:=(d1,⟨.lit,.pointer (some ⟨gs,j,none⟩)⟩)::F) hs (by show zr _ d1=_;rw[zal,if_pos rfl]);have x1:w.cell? ⟨gs,j,none⟩=some (.pointer (some ⟨X.fix p.1,p.2,none⟩)):=by
  unfold qd;rw[xd.2]
  simpa using xe
 refine zbX x9 xa (v:=⟨.hptr,p⟩) (show p.1+1<=nx by omega) (N:=λY'=>AL P w0 X n ops x0 Y' Q) (h _) hs (u:=.pointer (some ⟨X.fix p.1,p.2,none⟩)) ?_ ⟨X.fix p.1,(hs.fix.2 p.1 x8).1,rfl⟩;unfold execOp;simp only[x3];rw[e1];refine za7 ?_;simp only[qL,qa,zJ,zI,zD];unfold vh;simp only[zJ,x7,zD];simp[load,Sem.run,x1]
end
theorem zvF(x:Int)(r:List UInt8):(leB x 8++r).take 8=leB x 8:=by rw[List.take_append_of_le_length (by rw[za0];omega),qS (by rw[za0];omega)]
theorem zdf(x:Int)(r:List UInt8):(leB x 8++r).drop 8=r:=by
 have:=za0 8 x;rw[List.drop_append_of_le_length o_,qp o_];rfl
theorem rd1{x:Int}(h:inR .i64 x)(r:List UInt8):rdN ((leB x 8++r).take 8)=x:=by rw[zvF,znR h]
theorem len8(x:Int)(r:List UInt8):8<=(leB x 8++r).length:=by rw[zl,za0];omega
def cRCo:RCtr:={ self:=srd,args:=[],inv:=λ_ _=>True,pre:=λx _=>[8<=zp x.1,0<=rdN ((x.1:List UInt8).take 8),rdN ((x.1:List UInt8).take 8)<=((zp x.1:Nat):Int)-8],res:=i64,out:=λx _=>rdN ((x.1:List UInt8).take 8),post:=λx _=>((x.1:List UInt8).drop 8,()) }
def kRCo:Kn:={ gmK with R:=[(113,cRNu),(114,cRBy)] }
theorem zeL:KnOk zf gmG kRCo:=zar.withR (.cons zlP (λ_ _=>trivial)<|.cons zrw (λ_ _=>trivial) .nil)
theorem zrv:vC zf gmG 89 cRCo:=by
 refine zaW (K:=kRCo) zeL Tryz.func89 rfl rfl Tryz.call89 rfl d_ (λw w' g hg h hk=>trivial) ?_;rintro w0 O g hX hinv ⟨b,⟨⟩⟩ ⟨⟩ ⟨h8,h0,h1⟩;change AWP _ _ _ _ _ ⟨[(0,⟨.optr srd,⟨0,srd,.here⟩⟩)],[(0,some (.box srd (b,())))],1⟩ _
 iterate 2 (refine zaa (zaa (zab zeL ?_)))
 obtain⟨v,hv⟩:∃v,v=rdN (b.take 8):=⟨_,rfl⟩;have h0:0<=v:=by rw[hv];exact h0
 have h1:v<=((b.length:Nat):Int)-8:=by rw[hv];exact h1
 refine zak (Y':=⟨[(0,⟨.optr srd,⟨0,srd,.here⟩⟩),(3,⟨i64,v⟩)],[(0,some (.box srd (b.drop 8,())))],1⟩) ⟨⟨rfl,vI64 hv.symm,t_⟩,⟨rfl,t_⟩,rfl,rfl⟩ ?_;refine zaa (zaa (zab zeL ?_));refine zae rfl (λhb=>?_) (λ_=>?_)
 .exfalso;have hb:(bif decide (v<0) then true else decide (v>(((b.drop 8).length:Nat):Int)))=true:=hb;rw[yY,decide_eq_false o_,decide_eq_false o_]at hb;cases hb
 apply zaf;refine zaa (zaa (zab zeL ?_));refine zC ⟨.inr rfl,rfl,D1 hv⟩
def cRTx:RCtr:={ self:=srd,args:=[],inv:=λ_ _=>True,pre:=λx _=>[8<=zp x.1,0<=rdN ((x.1:List UInt8).take 8),rdN ((x.1:List UInt8).take 8)<=((zp ((x.1:List UInt8).drop 8):Nat):Int)],res:=.str,out:=λx _=>((x.1:List UInt8).drop 8).take (rdN ((x.1:List UInt8).take 8)).toNat,post:=λx _=>(((x.1:List UInt8).drop 8).drop (rdN ((x.1:List UInt8).take 8)).toNat,()) }
theorem zru:vC zf gmG 92 cRTx:=by
 refine zaW (K:=kRCo) zeL Tryz.func92 rfl rfl Tryz.call92 rfl d_ (λw w' g hg h hk=>trivial) ?_;rintro w0 O g hX hinv ⟨b,⟨⟩⟩ ⟨⟩ ⟨h8,h0,h1⟩;refine zaa (zaa (zab zeL ?_));refine zaa (zaa (zab zeL ?_ (hp:=by exact⟨h8,h0,h1⟩)));exact zC ⟨.inr rfl,rfl,D1 rfl⟩
noncomputable def piI:TypeInfo:=(zf.info? 84).getD default
theorem zun:zf.info? 84=some piI:=by kernel_rfl
theorem zp5:piI.zero=some (.pointer none):=by kernel_rfl
theorem ziy:piI.size=1:=by kernel_rfl
theorem zgl(w:zj)(m:Nat)(hm:0<m)(x0:m<=100)(ps:Array (Nat×zi))(cs:List zi)(h:Instr.fill (λi=>some (i*1,1)) (zG m (zz none)) ps.toList=some cs.toArray):(Instr.buildSlice 205 m ps).run zf w=.ok (.slice (some ⟨w.heap.size,0,none⟩) m m) (w.alloc (.cells cs.toArray 84 (0,0))):=by
 refine run_buildSlice w _ _ m _ cs.toArray piI (.pointer none) yV zun zp5 (by rw[ziy];omega) (by rw[ziy];omega) ?_;rw[ziy];have e:(Array.range (m*1)).map (λx=>(zz none).cells[x%(zz none).cells.size]!)=zG m (.pointer none):=by
  apply Array.ext
  .simp
  .intro i h1 h2;simp[jL,Nat.mod_one]
 rw[e];exact h
theorem zcD{w0:zj}{X:Ownr}{n:Nat}{F:Frame}{E:Owns}{nx:Nat}{U:Nat->zi}{a:Act}{w:zj}(hs:Sim w0 X n ⟨F,E,nx⟩ U a w){x:zK}{i k:Nat}(hx:evO F x=⟨.hptr,(i,k)⟩)(hi:i<X.K):a.eval x=.pointer (some ⟨X.fix i,k,none⟩):=by
 have h1:=hs.ops x;rw[show evO (AS.mk F E nx).F x=_ from hx]at h1;obtain⟨g,h2,h3⟩:=h1;rw[(hs.fix.2 i hi).1]at h2;cases h2;exact h3
theorem zl6(w:zj)(ev:zK->zi)(o:Oper){x:zK}{t e:zy}(hu:zf.underlying t=some (.slice e))(ho:o.op=.call ⟨.builtin .len,#[x],#[t]⟩){A:Option Addr}{m c:Nat}(hx:ev x=.slice A m c):(execOp ev o).run zf w=.ok (.value (.int .i64 (m:Int))) w:=by
 unfold execOp;simp[ho,hx,go_sem];simp[Builtin.len_,Result.andThen,run_underlying hu,goInt]
theorem ptSz(w:zj):(Go.sizeOf 84).run zf w=.ok 1 w:=by kernel_rfl
theorem ptAg(w:zj):(Go.isAgg 84).run zf w=.ok false w:=by kernel_rfl
def kFi':Kn:={ gmK with R:=[(113,cRNu)] }
theorem zoE:KnOk zf gmG kFi':=zar.withR (.cons zlP (λ_ _=>trivial) .nil)
def pk{α:Type}(z:α):List α->Nat->α
 | [],_=>z
 |x::_,0=>x
 |_::r,k+1=>pk z r k
def ndV(a b c d e f:Int)(j:Nat):List V:=pk [] [[⟨i64,(0:Int)⟩,⟨i64,(0:Int)⟩,⟨i64,(0:Int)⟩,⟨i64,(0:Int)⟩,⟨i64,(0:Int)⟩,⟨i64,(0:Int)⟩,⟨.lit,.slice none 0 0⟩,⟨.str,[]⟩],[⟨i64,a⟩,⟨i64,(0:Int)⟩,⟨i64,(0:Int)⟩,⟨i64,(0:Int)⟩,⟨i64,(0:Int)⟩,⟨i64,(0:Int)⟩,⟨.lit,.slice none 0 0⟩,⟨.str,[]⟩],[⟨i64,a⟩,⟨i64,b⟩,⟨i64,(0:Int)⟩,⟨i64,(0:Int)⟩,⟨i64,(0:Int)⟩,⟨i64,(0:Int)⟩,⟨.lit,.slice none 0 0⟩,⟨.str,[]⟩],[⟨i64,a⟩,⟨i64,b⟩,⟨i64,c⟩,⟨i64,(0:Int)⟩,⟨i64,(0:Int)⟩,⟨i64,(0:Int)⟩,⟨.lit,.slice none 0 0⟩,⟨.str,[]⟩],[⟨i64,a⟩,⟨i64,b⟩,⟨i64,c⟩,⟨i64,d⟩,⟨i64,(0:Int)⟩,⟨i64,(0:Int)⟩,⟨.lit,.slice none 0 0⟩,⟨.str,[]⟩],[⟨i64,a⟩,⟨i64,b⟩,⟨i64,c⟩,⟨i64,d⟩,⟨i64,e⟩,⟨i64,(0:Int)⟩,⟨.lit,.slice none 0 0⟩,⟨.str,[]⟩],[⟨i64,a⟩,⟨i64,b⟩,⟨i64,c⟩,⟨i64,d⟩,⟨i64,e⟩,⟨i64,f⟩,⟨.lit,.slice none 0 0⟩,⟨.str,[]⟩]] j
def ndZ:List V:=[⟨i64,(0:Int)⟩,⟨i64,(0:Int)⟩,⟨i64,(0:Int)⟩,⟨i64,(0:Int)⟩,⟨i64,(0:Int)⟩,⟨i64,(0:Int)⟩,⟨.lit,.slice none 0 0⟩,⟨.str,[]⟩]
def nd0:nd.T:=(0,0,0,0,0,0,[],[],())
def ndE(a b c d e f:Int)(x0:List (List UInt8))(j:Nat):Owns:=[(0,some (.box srd (pk [] x0 j,()))),(1,some (.box nd nd0)),(2,some (.hbox 104 (ndV a b c d e f j)))]
set_option maxHeartbeats 2000000 in
theorem zvZ{w1:zj}{X:Ownr}(hX:X.Ok w1){gs:Nat}(hG:X.G=PG gmG X.fix gs 84 [(2,0),(2,1),(2,2),(2,3),(2,4),(2,5)])(hK:X.K=3)(a b c d e f:Int)(r0 r1 r2 r3 r4 r5 r6:List UInt8)(ha:∀x∈ [a,b,c,d,e,f],inR .i64 x)
  (h0:r0=leB a 8++r1) (h1:r1=leB b 8++r2) (h2:r2=leB c 8++r3) (h3:r3=leB d 8++r4) (h4:r4=leB e 8++r5) (h5:r5=leB f 8++r6):
  AWP zf w1 X 17 (wB.body.get rfl) ⟨[(0,⟨.optr srd,⟨0,srd,.here⟩⟩),(1,⟨.lit,.slice (some ⟨gs,0,none⟩) 6 6⟩)],ndE a b c d e f [r0,r1,r2,r3,r4,r5,r6] 0,3⟩
   (λe' Y=>(e'=.normal\/e'=.ret)/\(λv E nx=>v=⟨.junk,()⟩/\E=ndE a b c d e f [r0,r1,r2,r3,r4,r5,r6] 6/\nx=3) (rvOf wB.results.toList Y) Y.E Y.nx):=by
 have hkn:KnOk zf X.G kFi':=by rw[hG];exact zoE.pg _ _ _ _
 have ha0:=ha a (by simp);have ha1:inR .i64 b:=ha b (by simp);have ha2:inR .i64 c:=ha c (by simp);have ha3:inR .i64 d:=ha d (by simp);have ha4:inR .i64 e:=ha e (by simp);have ha5:inR .i64 f:=ha f (by simp);change AWP _ _ _ _ _ _ _;refine zaa (zaa (zaj ?_));refine zat 1 hkn ?_;refine ku rfl (by intro c e;cases e) rfl rfl ⟨i64,(6:Int)⟩ rfl (λU a w hs=>⟨_,zl6 w a.eval _ yV rfl (zaR hs rfl),qF (k:=.i64)⟩) ?_;refine zau hkn ?_;refine zaa ?_;refine yK (ι:=Nat) (λj=>⟨[(0,⟨.optr srd,⟨0,srd,.here⟩⟩),(6,⟨.lit,.slice (some ⟨gs,0,none⟩) 6 6⟩),(7,⟨i64,(6:Int)⟩),(8,⟨i64,((j:Nat):Int)⟩)],ndE a b c d e f [r0,r1,r2,r3,r4,r5,r6] j,3⟩) (λj=>j<=6) (λj=>6-j) 0 (zk _) ⟨⟨rfl,rfl,rfl,rfl,t_⟩,⟨rfl,rfl,rfl,t_⟩,rfl,rfl⟩ ?_ (by intro i;rw[hK];exact zb rfl);intro j hj;have q1:inR .i64 (((j:Nat):Int)+1):=zah o_ o_;refine zaa (zaa (zab hkn ?_));refine zaa ?_;refine zaN rfl (λhb=>?_) (λhb=>?_)
 .have hb:(j:Int)<6:=hb;have h6:j=0\/j=1\/j=2\/j=3\/j=4\/j=5:=o_;apply zaf;rcases h6 with rfl|rfl|rfl|rfl|rfl|rfl
  .have e0:8<=r0.length:=by rw[h0];exact len8 _ _
   have e1:rdN (r0.take 8)=a:=by rw[h0,rd1 ha0]
   have e2:r0.drop 8=r1:=by rw[h0,zdf]
   refine zaa (zaa (zaj ?_));refine zbz hG hX yV ptSz ptAg rfl rfl rfl rfl rfl rfl rfl rfl rfl 0 rfl d_ rfl (by rw[hK];decide) (by rw[hK];exact zb rfl) λv=>?_;refine zau hkn ?_;refine zaa (zab hkn ?_ (hp:=by exact e0));refine zaa (zab hkn ?_);refine⟨1,by omega,by omega,⟨rfl,rfl,rfl,rfl,t_⟩,⟨zaT (congrArg (λz=>(z,())) e2),rfl,?_,t_⟩,rfl,rfl⟩;exact congrArg (λz=>some (OObj.hbox 104 [⟨i64,z⟩,⟨i64,(0:Int)⟩,⟨i64,(0:Int)⟩,⟨i64,(0:Int)⟩,⟨i64,(0:Int)⟩,⟨i64,(0:Int)⟩,⟨.lit,.slice none 0 0⟩,⟨.str,[]⟩])) e1
  .have e0:8<=r1.length:=by rw[h1];exact len8 _ _
   have e1:rdN (r1.take 8)=b:=by rw[h1,rd1 ha1]
   have e2:r1.drop 8=r2:=by rw[h1,zdf]
   refine zaa (zaa (zaj ?_));refine zbz hG hX yV ptSz ptAg rfl rfl rfl rfl rfl rfl rfl rfl rfl 1 rfl d_ rfl (by rw[hK];decide) (by rw[hK];exact zb rfl) λv=>?_;refine zau hkn ?_;refine zaa (zab hkn ?_ (hp:=by exact e0));refine zaa (zab hkn ?_);refine⟨2,by omega,by omega,⟨rfl,rfl,rfl,rfl,t_⟩,⟨zaT (congrArg (λz=>(z,())) e2),rfl,?_,t_⟩,rfl,rfl⟩;exact congrArg (λz=>some (OObj.hbox 104 [⟨i64,a⟩,⟨i64,z⟩,⟨i64,(0:Int)⟩,⟨i64,(0:Int)⟩,⟨i64,(0:Int)⟩,⟨i64,(0:Int)⟩,⟨.lit,.slice none 0 0⟩,⟨.str,[]⟩])) e1
  .have e0:8<=r2.length:=by rw[h2];exact len8 _ _
   have e1:rdN (r2.take 8)=c:=by rw[h2,rd1 ha2]
   have e2:r2.drop 8=r3:=by rw[h2,zdf]
   refine zaa (zaa (zaj ?_));refine zbz hG hX yV ptSz ptAg rfl rfl rfl rfl rfl rfl rfl rfl rfl 2 rfl d_ rfl (by rw[hK];decide) (by rw[hK];exact zb rfl) λv=>?_;refine zau hkn ?_;refine zaa (zab hkn ?_ (hp:=by exact e0));refine zaa (zab hkn ?_);refine⟨3,by omega,by omega,⟨rfl,rfl,rfl,rfl,t_⟩,⟨zaT (congrArg (λz=>(z,())) e2),rfl,?_,t_⟩,rfl,rfl⟩;exact congrArg (λz=>some (OObj.hbox 104 [⟨i64,a⟩,⟨i64,b⟩,⟨i64,z⟩,⟨i64,(0:Int)⟩,⟨i64,(0:Int)⟩,⟨i64,(0:Int)⟩,⟨.lit,.slice none 0 0⟩,⟨.str,[]⟩])) e1
  .have e0:8<=r3.length:=by rw[h3];exact len8 _ _
   have e1:rdN (r3.take 8)=d:=by rw[h3,rd1 ha3]
   have e2:r3.drop 8=r4:=by rw[h3,zdf]
   refine zaa (zaa (zaj ?_));refine zbz hG hX yV ptSz ptAg rfl rfl rfl rfl rfl rfl rfl rfl rfl 3 rfl d_ rfl (by rw[hK];decide) (by rw[hK];exact zb rfl) λv=>?_;refine zau hkn ?_;refine zaa (zab hkn ?_ (hp:=by exact e0));refine zaa (zab hkn ?_);refine⟨4,by omega,by omega,⟨rfl,rfl,rfl,rfl,t_⟩,⟨zaT (congrArg (λz=>(z,())) e2),rfl,?_,t_⟩,rfl,rfl⟩;exact congrArg (λz=>some (OObj.hbox 104 [⟨i64,a⟩,⟨i64,b⟩,⟨i64,c⟩,⟨i64,z⟩,⟨i64,(0:Int)⟩,⟨i64,(0:Int)⟩,⟨.lit,.slice none 0 0⟩,⟨.str,[]⟩])) e1
  .have e0:8<=r4.length:=by rw[h4];exact len8 _ _
   have e1:rdN (r4.take 8)=e:=by rw[h4,rd1 ha4]
   have e2:r4.drop 8=r5:=by rw[h4,zdf]
   refine zaa (zaa (zaj ?_));refine zbz hG hX yV ptSz ptAg rfl rfl rfl rfl rfl rfl rfl rfl rfl 4 rfl d_ rfl (by rw[hK];decide) (by rw[hK];exact zb rfl) λv=>?_;refine zau hkn ?_;refine zaa (zab hkn ?_ (hp:=by exact e0));refine zaa (zab hkn ?_);refine⟨5,by omega,by omega,⟨rfl,rfl,rfl,rfl,t_⟩,⟨zaT (congrArg (λz=>(z,())) e2),rfl,?_,t_⟩,rfl,rfl⟩;exact congrArg (λz=>some (OObj.hbox 104 [⟨i64,a⟩,⟨i64,b⟩,⟨i64,c⟩,⟨i64,d⟩,⟨i64,z⟩,⟨i64,(0:Int)⟩,⟨.lit,.slice none 0 0⟩,⟨.str,[]⟩])) e1
  .have e0:8<=r5.length:=by rw[h5];exact len8 _ _
   have e1:rdN (r5.take 8)=f:=by rw[h5,rd1 ha5]
   have e2:r5.drop 8=r6:=by rw[h5,zdf]
   refine zaa (zaa (zaj ?_));refine zbz hG hX yV ptSz ptAg rfl rfl rfl rfl rfl rfl rfl rfl rfl 5 rfl d_ rfl (by rw[hK];decide) (by rw[hK];exact zb rfl) λv=>?_;refine zau hkn ?_;refine zaa (zab hkn ?_ (hp:=by exact e0));refine zaa (zab hkn ?_);refine⟨6,by omega,by omega,⟨rfl,rfl,rfl,rfl,t_⟩,⟨zaT (congrArg (λz=>(z,())) e2),rfl,?_,t_⟩,rfl,rfl⟩;exact congrArg (λz=>some (OObj.hbox 104 [⟨i64,a⟩,⟨i64,b⟩,⟨i64,c⟩,⟨i64,d⟩,⟨i64,e⟩,⟨i64,z⟩,⟨.lit,.slice none 0 0⟩,⟨.str,[]⟩])) e1
 .
  obtain rfl:j=6:=o_;apply zan;exact⟨.inl rfl,rfl,rfl,rfl⟩
def ndG(n:nd.T):Prop:=(∀x∈ [n.1,n.2.1,n.2.2.1,n.2.2.2.1,n.2.2.2.2.1,n.2.2.2.2.2.1],inR .i64 x)/\(∀x∈(n.2.2.2.2.2.2.1:List Int),inR .i64 x)/\zp n.2.2.2.2.2.2.1<=100000/\zp n.2.2.2.2.2.2.2.1<=100000
def cRNd(n:nd.T)(x0:List UInt8):RCtr:={ self:=srd,args:=[],inv:=λ_ _=>True,pre:=λx _=>[x.1=ndB n++x0,ndG n],res:=nd,out:=λ_ _=>n,post:=λ_ _=>(x0,()) }
def kRNd:Kn:={ gmK with H:=[104],R:=[(89,cRCo),(113,cRNu),(92,cRTx)] }
theorem zcV:KnOk zf gmG kRNd:=⟨zfi,zjW,ue,λ_ _ _ _=>trivial,.cons zrv (λ_ _=>trivial)<|.cons zlP (λ_ _=>trivial)<|.cons zru (λ_ _=>trivial) .nil⟩
def ndC8(a b c d e f:Int)(v:V)(s:List UInt8):List V:=[⟨i64,a⟩,⟨i64,b⟩,⟨i64,c⟩,⟨i64,d⟩,⟨i64,e⟩,⟨i64,f⟩,v,⟨.str,s⟩]
set_option maxHeartbeats 4000000 in
theorem zuh(n:nd.T)(rest:List UInt8):vC zf gmG 90 (cRNd n rest):=by
 refine zaW (K:=kRNd) zcV Tryz.func90 rfl rfl Tryz.call90 rfl (zb rfl) (λw w' g hg h hk=>trivial) ?_;rintro w0 O g hX0 hinv ⟨(x0:List UInt8),⟨⟩⟩ ⟨⟩ ⟨hx,hn⟩;obtain⟨(a:Int),(b:Int),(c:Int),(d:Int),(e:Int),(f:Int),(li:List Int),(na:List UInt8),⟨⟩⟩:=n;obtain⟨hi,hli,hl,hna⟩:=hn;have hi:∀x∈ [a,b,c,d,e,f],inR .i64 x:=hi;have hli:∀x∈li,inR .i64 x:=hli;have hl:li.length<=100000:=hl;have hna:na.length<=100000:=hna;have hx:x0=ndB (a,b,c,d,e,f,li,na,())++rest:=hx;obtain⟨q2,hq2⟩:∃q2,q2=na++rest:=⟨_,rfl⟩;obtain⟨q1,hq1⟩:∃q1,q1=leB ((na.length:Nat):Int) 8++q2:=⟨_,rfl⟩;obtain⟨q0,hq0⟩:∃q0,q0=zbO li++q1:=⟨_,rfl⟩;obtain⟨r6,h6⟩:∃r6,r6=leB ((li.length:Nat):Int) 8++q0:=⟨_,rfl⟩;obtain⟨r5,h5⟩:∃r5,r5=leB f 8++r6:=⟨_,rfl⟩;obtain⟨r4,h4⟩:∃r4,r4=leB e 8++r5:=⟨_,rfl⟩;obtain⟨r3,h3⟩:∃r3,r3=leB d 8++r4:=⟨_,rfl⟩;obtain⟨r2,h2⟩:∃r2,r2=leB c 8++r3:=⟨_,rfl⟩;obtain⟨r1,h1⟩:∃r1,r1=leB b 8++r2:=⟨_,rfl⟩;have h0:x0=leB a 8++r1:=by
  rw[hx,h1,h2,h3,h4,h5,h6,hq0,hq1,hq2];unfold ndB txtB;show((leB a 8++(leB b 8++(leB c 8++(leB d 8++(leB e 8++(leB f 8++(leB _ 8++[])))))))++(zbO li++(leB _ 8++na)))++rest=_;simp only[zB,yE,qn]
 clear hx;have hq0l:8*li.length<=q0.length:=by rw[hq0,zl,zbC];omega
 change AWP _ _ _ _ _ ⟨[(0,⟨.optr srd,⟨0,srd,.here⟩⟩)],[(0,some (.box srd (x0,())))],1⟩ _;have hX:=hX0;refine zaa (zaa (zab zar ?_));refine zaa (zaa (zab zcV ?_));refine zak (Y':=⟨[(0,⟨.optr srd,⟨0,srd,.here⟩⟩),(2,⟨.optr nd,⟨1,nd,.here⟩⟩),(3,⟨.hptr,((2:Nat),(0:Nat))⟩)],[(0,some (.box srd (x0,()))),(1,some (.box nd nd0)),(2,some (.hbox 104 ndZ))],3⟩) ⟨⟨rfl,rfl,rfl,t_⟩,⟨rfl,rfl,rfl,t_⟩,rfl,rfl⟩ ?_;refine zfB 3 hX0 rfl rfl rfl λw1 X' hX' hG hK hρ hD _ _ _ hfix=>?_;obtain⟨G',O',K',fix,D',ρ',B'⟩:=X';obtain rfl:G'=gmG:=hG;obtain rfl:K'=3:=hK;clear hX;have hX:=hX';refine zaa (zaa (zaj ?_));refine zat 7 zcV ?_;refine zi9 hX rfl (by intro c e;cases e) rfl rfl 6 84 [(2,0),(2,1),(2,2),(2,3),(2,4),(2,5)] (λU a w hs=>?_) (λgs w2 X2 hX2 hG2 hK2 hf2 hρ2 hD2=>?_)
 .unfold execOp;refine za7 ?_;rw[show(#[(0,qC 5),(1,qC 6),(2,qC 7),(3,qC 8),(4,qC 9),(5,qC 10)]:Array (Nat×zK)).map (λp=>(p.1,a.eval p.2))= #[(0,zz (some ⟨fix 2,0,none⟩)),(1,zz (some ⟨fix 2,1,none⟩)),(2,zz (some ⟨fix 2,2,none⟩)),(3,zz (some ⟨fix 2,3,none⟩)),(4,zz (some ⟨fix 2,4,none⟩)),(5,zz (some ⟨fix 2,5,none⟩))] from by
   simp only[uo,qN,uq];rw[zcD hs (x:=.tmp 5) rfl (by show 2<3;decide),zcD hs (x:=.tmp 6) rfl (by show 2<3;decide),zcD hs (x:=.tmp 7) rfl (by show 2<3;decide),zcD hs (x:=.tmp 8) rfl (by show 2<3;decide),zcD hs (x:=.tmp 9) rfl (by show 2<3;decide),zcD hs (x:=.tmp 10) rfl (by show 2<3;decide)];rfl]
  exact zgl w 6 d_ d_ _ _ rfl
 obtain⟨G2,O2,K2,fix2,D2,ρ2,B2⟩:=X2;obtain rfl:K2=3:=hK2;obtain rfl:fix2=fix:=hf2;refine AL.subF 3 hX2 rfl rfl gK rfl rfl rfl (N:=λv E nx=>v=⟨.junk,()⟩/\E=ndE a b c d e f [x0,r1,r2,r3,r4,r5,r6] 6/\nx=3) (E1:=ndE a b c d e f [x0,r1,r2,r3,r4,r5,r6] 0)
  (hw:=λw3 X3 g1 g2 g3 g4 g5 _ g7 _=>zbP gL rfl rfl (.inl rfl) g5 g4<|zvZ (gs:=gs) g1 ?_ g3 a b c d e f x0 r1 r2 r3 r4 r5 r6 hi h0 h1 h2 h3 h4 h5) (λv E nx h=>?_) (λv E nx h=>?_)
 .rw[g2,hG2];refine PG.congr λp hp=>g7 p.1 ?_;simp only[zE,zU,or_false]at hp;show p.1<3;rcases hp with rfl|rfl|rfl|rfl|rfl|rfl<;>decide
 .obtain⟨rfl,rfl,rfl⟩:=h;rfl
 obtain⟨rfl,rfl,rfl⟩:=h;refine qu ?_;clear hX2 hG2;have k0:8<=r6.length:=by rw[h6];exact len8 _ _
 have k1:rdN (r6.take 8)=((li.length:Nat):Int):=by rw[h6,rd1 (zah o_ o_)]
 have k2:r6.drop 8=q0:=by rw[h6,zdf]
 have k3:0<=rdN (r6.take 8):=by rw[k1];omega
 have k4:rdN (r6.take 8)<=((r6.length:Nat):Int)-8:=by
  have:=congrArg zp k2;rw[yY]at this;rw[k1];omega
 refine zak (Y':=⟨[(0,⟨.optr srd,⟨0,srd,.here⟩⟩),(2,⟨.optr nd,⟨1,nd,.here⟩⟩),(3,⟨.hptr,((2:Nat),(0:Nat))⟩)],[(0,some (.box srd (r6,()))),(1,some (.box nd nd0)),(2,some (.hbox 104 (ndC8 a b c d e f ⟨.lit,.slice none 0 0⟩ [])))],3⟩) ⟨⟨rfl,rfl,rfl,t_⟩,⟨rfl,rfl,rfl,t_⟩,rfl,rfl⟩ ?_;refine za9 2 6 3 i64 rfl rfl rfl ?_;refine zaa (zaa (zab zcV ?_ (hp:=by exact⟨k0,k3,k4⟩)));refine zaa ?_;refine yK (ι:=Nat) (λk=>⟨[(0,⟨.optr srd,⟨0,srd,.here⟩⟩),(2,⟨.optr nd,⟨1,nd,.here⟩⟩),(3,⟨.hptr,((2:Nat),(0:Nat))⟩),(14,⟨i64,((li.length:Nat):Int)⟩),(15,⟨i64,(k:Int)⟩)],[(0,some (.box srd (zbO (li.drop k)++q1,()))),(1,some (.box nd nd0)),(2,some (.hbox 104 (ndC8 a b c d e f ⟨.obuf i64,(3:Nat)⟩ []))),(3,some (.buf 3 i64 (li.take k)))],4⟩) (λk=>k<=li.length) (λk=>li.length-k) 0 (zk _) ⟨⟨rfl,rfl,rfl,vI64 k1,rfl,t_⟩,⟨zaT (congrArg (λz=>(z,())) (k2.trans hq0)),rfl,rfl,rfl,t_⟩,rfl,rfl⟩ ?_;intro k hk;refine zaa (zaa (zab zcV ?_));refine zaa ?_;refine zaN rfl (λhb=>?_) (λhb=>?_)
 .have hb:(k:Int)<((li.length:Nat):Int):=hb;have hlt:k<li.length:=o_;have q:inR .i64 ((k:Int)+1):=zah o_ o_;obtain⟨y,hy⟩:∃y,y=zbO (li.drop (k+1))++q1:=⟨_,rfl⟩;obtain⟨x,hx⟩:∃x,x=zbO (li.drop k)++q1:=⟨_,rfl⟩;have hxy:x=leB li[k] 8++y:=by rw[hx,hy,xR hlt,zmY,zB]
  have p0:8<=x.length:=by rw[hxy];exact len8 _ _
  have p1:rdN (x.take 8)=li[k]:=by rw[hxy,rd1 (hli _ (qc hlt))]
  have p2:x.drop 8=y:=by rw[hxy,zdf]
  have p3:(li.take k).length+1<=1000000000:=by rw[zP];omega
  rw[<-hx];apply zaf;refine zaa ?_;refine zco (Y':=⟨[(0,⟨.optr srd,⟨0,srd,.here⟩⟩),(2,⟨.optr nd,⟨1,nd,.here⟩⟩),(3,⟨.hptr,((2:Nat),(0:Nat))⟩),(14,⟨i64,((li.length:Nat):Int)⟩),(15,⟨i64,(k:Int)⟩)],[(0,some (.box srd (x.drop 8,()))),(1,some (.box nd nd0)),(2,some (.hbox 104 (ndC8 a b c d e f ⟨.obuf i64,(3:Nat)⟩ []))),(3,some (.buf 3 i64 (li.take k++[rdN (x.take 8)])))],4⟩) dM 8 rfl (by kernel_rfl) ?_ ?_
  .repeat'(first|exact uf|refine kv ⟨_,rfl,?_⟩ ?_|refine yD hX zcV rfl t_ ?_|refine yD hX zcV rfl p0 ?_|refine yD hX zcV rfl p3 ?_|(refine vY ?_;exact⟨rfl,⟨rfl,rfl,rfl,rfl,rfl,t_⟩,⟨rfl,rfl,rfl,rfl,t_⟩,rfl,rfl⟩))
  rw[p1,p2,hy, <-zN hlt];refine zaa (zab zcV ?_);exact⟨k+1,by omega,by omega,⟨rfl,rfl,rfl,rfl,rfl,t_⟩,⟨rfl,rfl,rfl,rfl,t_⟩,rfl,rfl⟩
 .have hb:¬((k:Int)<((li.length:Nat):Int)):=hb;obtain rfl:k=li.length:=o_;apply zan;have e1:zbO (li.drop li.length)++q1=q1:=by rw[uR];rfl
  rw[e1,yX];have p0:8<=q1.length:=by rw[hq1];exact len8 _ _
  have p1:rdN (q1.take 8)=((na.length:Nat):Int):=by rw[hq1,rd1 (zah o_ o_)]
  have p2:q1.drop 8=q2:=by rw[hq1,zdf]
  have p3:0<=rdN (q1.take 8):=by rw[p1];omega
  have p4:rdN (q1.take 8)<=(((q1.drop 8).length:Nat):Int):=by rw[p1,p2,hq2,zl];omega
  have p5:(q1.drop 8).take (rdN (q1.take 8)).toNat=na:=by rw[p1,p2,hq2,zS,List.take_left]
  have p6:(q1.drop 8).drop (rdN (q1.take 8)).toNat=rest:=by rw[p1,p2,hq2,zS,List.drop_left]
  refine zaa (zaa (zab zcV ?_ (hp:=by exact⟨p0,p3,p4⟩)));refine AWP.frzL hX 2 6 ?_;refine zak (Y':=⟨[(2,⟨.optr nd,⟨1,nd,.here⟩⟩),(3,⟨.hptr,((2:Nat),(0:Nat))⟩)],[(0,some (.box srd (rest,()))),(1,some (.box nd nd0)),(2,some (.hbox 104 (ndC8 a b c d e f ⟨ints,li⟩ na)))],3⟩) ⟨⟨rfl,rfl,t_⟩,⟨zaT (congrArg (λz=>(z,())) p6),rfl,congrArg (λz=>some (OObj.hbox 104 (ndC8 a b c d e f ⟨ints,li⟩ z))) p5,t_⟩,rfl,rfl⟩ ?_;refine zaa (zaa (zab zcV ?_));exact zC ⟨.inr rfl,rfl,D1 rfl⟩
def mvE(a b c d e:Int)(x0:List (List UInt8))(j:Nat):Owns:=[(0,some (.box srd (pk [] x0 j,()))),(1,some (.box mv zMv')),(2,some (.hbox 30 (pk [] [[⟨i64,(0:Int)⟩,⟨.bool,false⟩,⟨i64,(0:Int)⟩,⟨i64,(0:Int)⟩,⟨i64,(0:Int)⟩],[⟨i64,a⟩,⟨.bool,false⟩,⟨i64,(0:Int)⟩,⟨i64,(0:Int)⟩,⟨i64,(0:Int)⟩],[⟨i64,a⟩,⟨.bool,false⟩,⟨i64,(0:Int)⟩,⟨i64,(0:Int)⟩,⟨i64,(0:Int)⟩],[⟨i64,a⟩,⟨.bool,false⟩,⟨i64,c⟩,⟨i64,(0:Int)⟩,⟨i64,(0:Int)⟩],[⟨i64,a⟩,⟨.bool,false⟩,⟨i64,c⟩,⟨i64,d⟩,⟨i64,(0:Int)⟩],[⟨i64,a⟩,⟨.bool,false⟩,⟨i64,c⟩,⟨i64,d⟩,⟨i64,e⟩]] j))),(3,some (.hbox 3 (pk [] [[⟨i64,(0:Int)⟩],[⟨i64,(0:Int)⟩],[⟨i64,b⟩],[⟨i64,b⟩],[⟨i64,b⟩],[⟨i64,b⟩]] j)))]
set_option maxHeartbeats 2000000 in
theorem zv0{w1:zj}{X:Ownr}(hX:X.Ok w1){gs:Nat}(hG:X.G=PG gmG X.fix gs 84 [(2,0),(3,0),(2,2),(2,3),(2,4)])(hK:X.K=4)(a b c d e:Int)(r0 r1 r2 r3 r4 r5:List UInt8)(ha:∀x∈ [a,b,c,d,e],inR .i64 x)
  (h0:r0=leB a 8++r1) (h1:r1=leB b 8++r2) (h2:r2=leB c 8++r3) (h3:r3=leB d 8++r4) (h4:r4=leB e 8++r5):
  AWP zf w1 X 17 (wB.body.get rfl) ⟨[(0,⟨.optr srd,⟨0,srd,.here⟩⟩),(1,⟨.lit,.slice (some ⟨gs,0,none⟩) 5 5⟩)],mvE a b c d e [r0,r1,r2,r3,r4,r5] 0,4⟩
   (λe' Y=>(e'=.normal\/e'=.ret)/\(λv E nx=>v=⟨.junk,()⟩/\E=mvE a b c d e [r0,r1,r2,r3,r4,r5] 5/\nx=4) (rvOf wB.results.toList Y) Y.E Y.nx):=by
 have x0:KnOk zf X.G kFi':=by rw[hG];exact zoE.pg _ _ _ _
 have x3:=ha a (by simp);have x1:inR .i64 b:=ha b (by simp);have x4:inR .i64 c:=ha c (by simp);have x5:inR .i64 d:=ha d (by simp);have x2:inR .i64 e:=ha e (by simp);change AWP _ _ _ _ _ _ _;refine zaa (zaa (zaj ?_));refine zat 1 x0 ?_;refine ku rfl (by intro c e;cases e) rfl rfl ⟨i64,(5:Int)⟩ rfl (λU a w hs=>⟨_,zl6 w a.eval _ yV rfl (zaR hs rfl),qF (k:=.i64)⟩) ?_;refine zau x0 ?_;refine zaa ?_;refine yK (ι:=Nat) (λj=>⟨[(0,⟨.optr srd,⟨0,srd,.here⟩⟩),(6,⟨.lit,.slice (some ⟨gs,0,none⟩) 5 5⟩),(7,⟨i64,(5:Int)⟩),(8,⟨i64,((j:Nat):Int)⟩)],mvE a b c d e [r0,r1,r2,r3,r4,r5] j,4⟩) (λj=>j<=5) (λj=>5-j) 0 (zk _) ⟨⟨rfl,rfl,rfl,rfl,t_⟩,⟨rfl,rfl,rfl,rfl,t_⟩,rfl,rfl⟩ ?_ (by intro i;rw[hK];exact zb rfl);intro j hj;have q1:inR .i64 (((j:Nat):Int)+1):=zah o_ o_;refine zaa (zaa (zab x0 ?_));refine zaa ?_;refine zaN rfl (λhb=>?_) (λhb=>?_)
 .have hb:(j:Int)<5:=hb;have h6:j=0\/j=1\/j=2\/j=3\/j=4:=o_;apply zaf;rcases h6 with rfl|rfl|rfl|rfl|rfl
  .have e0:8<=r0.length:=by rw[h0];exact len8 _ _
   have e1:rdN (r0.take 8)=a:=by rw[h0,rd1 x3]
   have e2:r0.drop 8=r1:=by rw[h0,zdf]
   refine zaa (zaa (zaj ?_));refine zbz hG hX yV ptSz ptAg rfl rfl rfl rfl rfl rfl rfl rfl rfl 0 rfl d_ rfl (by rw[hK];decide) (by rw[hK];exact zb rfl) λv=>?_;refine zau x0 ?_;refine zaa (zab x0 ?_ (hp:=by exact e0));refine zaa (zab x0 ?_);refine⟨1,by omega,by omega,⟨rfl,rfl,rfl,rfl,t_⟩,⟨zaT (congrArg (λz=>(z,())) e2),rfl,?_,rfl,t_⟩,rfl,rfl⟩;exact congrArg (λz=>some (OObj.hbox 30 [⟨i64,z⟩,⟨.bool,false⟩,⟨i64,(0:Int)⟩,⟨i64,(0:Int)⟩,⟨i64,(0:Int)⟩])) e1
  .have e0:8<=r1.length:=by rw[h1];exact len8 _ _
   have e1:rdN (r1.take 8)=b:=by rw[h1,rd1 x1]
   have e2:r1.drop 8=r2:=by rw[h1,zdf]
   refine zaa (zaa (zaj ?_));refine zbz hG hX yV ptSz ptAg rfl rfl rfl rfl rfl rfl rfl rfl rfl 1 rfl d_ rfl (by rw[hK];decide) (by rw[hK];exact zb rfl) λv=>?_;refine zau x0 ?_;refine zaa (zab x0 ?_ (hp:=by exact e0));refine zaa (zab x0 ?_);refine⟨2,by omega,by omega,⟨rfl,rfl,rfl,rfl,t_⟩,⟨zaT (congrArg (λz=>(z,())) e2),rfl,rfl,?_,t_⟩,rfl,rfl⟩;exact congrArg (λz=>some (OObj.hbox 3 [⟨i64,z⟩])) e1
  .have e0:8<=r2.length:=by rw[h2];exact len8 _ _
   have e1:rdN (r2.take 8)=c:=by rw[h2,rd1 x4]
   have e2:r2.drop 8=r3:=by rw[h2,zdf]
   refine zaa (zaa (zaj ?_));refine zbz hG hX yV ptSz ptAg rfl rfl rfl rfl rfl rfl rfl rfl rfl 2 rfl d_ rfl (by rw[hK];decide) (by rw[hK];exact zb rfl) λv=>?_;refine zau x0 ?_;refine zaa (zab x0 ?_ (hp:=by exact e0));refine zaa (zab x0 ?_);refine⟨3,by omega,by omega,⟨rfl,rfl,rfl,rfl,t_⟩,⟨zaT (congrArg (λz=>(z,())) e2),rfl,?_,rfl,t_⟩,rfl,rfl⟩;exact congrArg (λz=>some (OObj.hbox 30 [⟨i64,a⟩,⟨.bool,false⟩,⟨i64,z⟩,⟨i64,(0:Int)⟩,⟨i64,(0:Int)⟩])) e1
  .have e0:8<=r3.length:=by rw[h3];exact len8 _ _
   have e1:rdN (r3.take 8)=d:=by rw[h3,rd1 x5]
   have e2:r3.drop 8=r4:=by rw[h3,zdf]
   refine zaa (zaa (zaj ?_));refine zbz hG hX yV ptSz ptAg rfl rfl rfl rfl rfl rfl rfl rfl rfl 3 rfl d_ rfl (by rw[hK];decide) (by rw[hK];exact zb rfl) λv=>?_;refine zau x0 ?_;refine zaa (zab x0 ?_ (hp:=by exact e0));refine zaa (zab x0 ?_);refine⟨4,by omega,by omega,⟨rfl,rfl,rfl,rfl,t_⟩,⟨zaT (congrArg (λz=>(z,())) e2),rfl,?_,rfl,t_⟩,rfl,rfl⟩;exact congrArg (λz=>some (OObj.hbox 30 [⟨i64,a⟩,⟨.bool,false⟩,⟨i64,c⟩,⟨i64,z⟩,⟨i64,(0:Int)⟩])) e1
  .have e0:8<=r4.length:=by rw[h4];exact len8 _ _
   have e1:rdN (r4.take 8)=e:=by rw[h4,rd1 x2]
   have e2:r4.drop 8=r5:=by rw[h4,zdf]
   refine zaa (zaa (zaj ?_));refine zbz hG hX yV ptSz ptAg rfl rfl rfl rfl rfl rfl rfl rfl rfl 4 rfl d_ rfl (by rw[hK];decide) (by rw[hK];exact zb rfl) λv=>?_;refine zau x0 ?_;refine zaa (zab x0 ?_ (hp:=by exact e0));refine zaa (zab x0 ?_);refine⟨5,by omega,by omega,⟨rfl,rfl,rfl,rfl,t_⟩,⟨zaT (congrArg (λz=>(z,())) e2),rfl,?_,rfl,t_⟩,rfl,rfl⟩;exact congrArg (λz=>some (OObj.hbox 30 [⟨i64,a⟩,⟨.bool,false⟩,⟨i64,c⟩,⟨i64,d⟩,⟨i64,z⟩])) e1
 .
  obtain rfl:j=5:=o_;apply zan;exact⟨.inl rfl,rfl,rfl,rfl⟩
def mvG(m:mv.T):Prop:=inR .i64 m.1/\inR .i64 m.2.2.1/\inR .i64 m.2.2.2.1/\inR .i64 m.2.2.2.2.1
def cRMv(m:mv.T)(x0:List UInt8):RCtr:={ self:=srd,args:=[],inv:=λ_ _=>True,pre:=λx _=>[x.1=mvB m++x0,mvG m],res:=mv,out:=λ_ _=>m,post:=λ_ _=>(x0,()) }
def kRMv:Kn:={ gmK with H:=[30,3] }
theorem zg3:KnOk zf gmG kRMv:=⟨zfi,zjW,ue,λ_ _ _ _=>trivial,.nil⟩
set_option maxHeartbeats 4000000 in
theorem zui(m:mv.T)(rest:List UInt8):vC zf gmG 93 (cRMv m rest):=by
 refine zaW (K:=kRMv) zg3 Tryz.func93 rfl rfl Tryz.call93 rfl (zb rfl) (λw w' g hg h hk=>trivial) ?_;rintro w0 O g hX0 hinv ⟨(x0:List UInt8),⟨⟩⟩ ⟨⟩ ⟨hx,hn⟩;obtain⟨(a:Int),(dr:Bool),(c:Int),(d:Int),(e:Int),⟨⟩⟩:=m;obtain⟨n1,n2,n3,n4⟩:=hn;have n1:inR .i64 a:=n1;have n2:inR .i64 c:=n2;have n3:inR .i64 d:=n3;have n4:inR .i64 e:=n4;have n5:inR .i64 (zhg dr):=by cases dr<;>exact zah d_ d_
 have hi:∀x∈ [a,zhg dr,c,d,e],inR .i64 x:=by
  intro x hx;simp only[zE,zU,or_false]at hx;rcases hx with rfl|rfl|rfl|rfl|rfl<;>assumption
 have hx:x0=mvB (a,dr,c,d,e,())++rest:=hx;obtain⟨r4,h4⟩:∃r4,r4=leB e 8++rest:=⟨_,rfl⟩;obtain⟨r3,h3⟩:∃r3,r3=leB d 8++r4:=⟨_,rfl⟩;obtain⟨r2,h2⟩:∃r2,r2=leB c 8++r3:=⟨_,rfl⟩;obtain⟨r1,h1⟩:∃r1,r1=leB (zhg dr) 8++r2:=⟨_,rfl⟩;have h0:x0=leB a 8++r1:=by
  rw[hx,h1,h2,h3,h4];show(leB a 8++(leB (zhg dr) 8++(leB c 8++(leB d 8++(leB e 8++[])))))++rest=_;simp only[zB,yE,qn]
 have hdn:((zhg dr) != 0)=dr:=by cases dr<;>rfl
 have hX:=hX0;refine zaa (zaa (zab zar ?_))
 iterate 2 (refine zaa (zaa (zab zg3 ?_)))
 refine zak (Y':=⟨[(0,⟨.optr srd,⟨0,srd,.here⟩⟩),(2,⟨.optr mv,⟨1,mv,.here⟩⟩),(3,⟨.hptr,((2:Nat),(0:Nat))⟩),(4,⟨.hptr,((3:Nat),(0:Nat))⟩)],mvE a (zhg dr) c d e [x0,r1,r2,r3,r4,rest] 0,4⟩) ⟨⟨rfl,rfl,rfl,rfl,t_⟩,⟨rfl,rfl,rfl,rfl,t_⟩,rfl,rfl⟩ ?_;refine zfB 4 hX0 rfl rfl rfl λw1 X' hX' hG hK hρ hD _ _ _ hfix=>?_;obtain⟨G',O',K',fix,D',ρ',B'⟩:=X';obtain rfl:G'=gmG:=hG;obtain rfl:K'=4:=hK;clear hX;have hX:=hX';refine zaa (zaa (zaj ?_));refine zat 5 zg3 ?_;refine zi9 hX rfl (by intro c e;cases e) rfl rfl 5 84 [(2,0),(3,0),(2,2),(2,3),(2,4)] (λU a w hs=>?_) (λgs w2 X2 hX2 hG2 hK2 hf2 hρ2 hD2=>?_)
 .unfold execOp;refine za7 ?_;rw[show(#[(0,qC 6),(1,qC 4),(2,qC 7),(3,qC 8),(4,qC 9)]:Array (Nat×zK)).map (λp=>(p.1,a.eval p.2))= #[(0,zz (some ⟨fix 2,0,none⟩)),(1,zz (some ⟨fix 3,0,none⟩)),(2,zz (some ⟨fix 2,2,none⟩)),(3,zz (some ⟨fix 2,3,none⟩)),(4,zz (some ⟨fix 2,4,none⟩))] from by
   simp only[uo,qN,uq];rw[zcD hs (x:=.tmp 6) rfl (by show 2<4;decide),zcD hs (x:=.tmp 4) rfl (by show 3<4;decide),zcD hs (x:=.tmp 7) rfl (by show 2<4;decide),zcD hs (x:=.tmp 8) rfl (by show 2<4;decide),zcD hs (x:=.tmp 9) rfl (by show 2<4;decide)];rfl]
  exact zgl w 5 d_ d_ _ _ rfl
 obtain⟨G2,O2,K2,fix2,D2,ρ2,B2⟩:=X2;obtain rfl:K2=4:=hK2;obtain rfl:fix2=fix:=hf2;refine AL.subF 4 hX2 rfl rfl gK rfl rfl rfl (N:=λv E nx=>v=⟨.junk,()⟩/\E=mvE a (zhg dr) c d e [x0,r1,r2,r3,r4,rest] 5/\nx=4) (E1:=mvE a (zhg dr) c d e [x0,r1,r2,r3,r4,rest] 0)
  (hw:=λw3 X3 g1 g2 g3 g4 g5 _ g7 _=>zbP gL rfl rfl (.inl rfl) g5 g4<|zv0 (gs:=gs) g1 ?_ g3 a (zhg dr) c d e x0 r1 r2 r3 r4 rest hi h0 h1 h2 h3 h4) (λv E nx h=>?_) (λv E nx h=>?_)
 .rw[g2,hG2];refine PG.congr λp hp=>g7 p.1 ?_;simp only[zE,zU,or_false]at hp;show p.1<4;rcases hp with rfl|rfl|rfl|rfl|rfl<;>decide
 .obtain⟨rfl,rfl,rfl⟩:=h;rfl
 obtain⟨rfl,rfl,rfl⟩:=h;refine qu ?_;refine zaa (zaa (zab zg3 ?_));refine zak (Y':=⟨[(0,⟨.optr srd,⟨0,srd,.here⟩⟩),(2,⟨.optr mv,⟨1,mv,.here⟩⟩),(3,⟨.hptr,((2:Nat),(0:Nat))⟩)],[(0,some (.box srd (rest,()))),(1,some (.box mv zMv')),(2,some (.hbox 30 [⟨i64,a⟩,⟨.bool,dr⟩,⟨i64,c⟩,⟨i64,d⟩,⟨i64,e⟩]))],4⟩) ⟨⟨rfl,rfl,rfl,t_⟩,⟨rfl,rfl,congrArg (λz=>some (OObj.hbox 30 [⟨i64,a⟩,⟨.bool,z⟩,⟨i64,c⟩,⟨i64,d⟩,⟨i64,e⟩])) hdn,t_⟩,rfl,rfl⟩ ?_;refine zaa (zaa (zab zg3 ?_));exact zC ⟨.inr rfl,rfl,D1 rfl⟩
def Idle(P:zA)(f1:yR):Prop:=∀u v:zi,(∀w,(callFunc f1 #[u,v]).run P w=.ok (.enter f1 #[u,v]) w)/\∀w,CallsDIn yU 0 P f1 #[u,v] .returning w λe u' w'=>(∃v,e=.returned v)/\u'=.returning/\xW w.heap.size w w'
abbrev Ownr.dfr(G:zj->Prop)(O:Nat->Prop)(D:List Deferred):Ownr:={ qJ G O with D:=D }
section
variable {P:zA}{K:Kn}{n:Nat}
theorem zj4{G:zj->Prop}(hK:KnOk P G K){f:yR}{fn:Func}{r0 x7:Code}{id:Nat}{o1 o2:Oper}{f1:yR}{x0 x1:zK}{d1:Nat}{x2:Ctr}(hf:P.funcs[f]? =some fn)(hb:fn.body=some (.seq r0 (.seq (.region id #[o1,o2] false) x7)))(hn:fn.ntmps=n)
  (xb:o1.op=.makeFunc (.func f1) #[] #[x0,x1]) (xg:o1.guard=none) (xm:o1.dst=some d1) (xf:zO d1 n=true) (xk:o2.op=.defer ⟨.value (.tmp d1),#[],#[]⟩) (xt:o2.guard=none) (xr:o2.dst=none)
  (xj:∀(zas:Array zi)(w:zj),(callFunc f zas).run P w=.ok (.enter f zas) w) (hd:zbf x2.args=true) (hlen:x2.args.length<=n) (xq:x2.res=.unit->False) (x4:Idle P f1) (Y1:Args x2.args->AS)
  (h0:∀(w0:zj)(O:Nat->Prop),(qJ G O).Ok w0->∀xs:Args x2.args,allP (x2.pre xs)->AWP P w0 (qJ G O) n r0 (zhz x2.args xs) (λe Y=>e=.normal/\Fit Y (Y1 xs)))
  (h:∀(w0:zj)(O:Nat->Prop)(D:List Deferred),(Ownr.dfr G O D).Ok w0->∀xs:Args x2.args,allP (x2.pre xs)->AWP P w0 (Ownr.dfr G O D) n x7 ⟨(d1,⟨.junk,()⟩)::(Y1 xs).F,(Y1 xs).E,(Y1 xs).nx⟩ (λe Y=>(e=.normal\/e=.ret)/\Done K.T fn.results.toList Y x2.own x2.res (x2.out xs))):yQ P G f x2:=by
 refine⟨xj,λw O xs vs hO x8 hp hG=>(callsIn_wide (n:=0)).1 (callsIn_of_wp_marks hf hb trivial ?_ rfl)⟩;have xl:=zc5 _ _ _ x8;have x5:d1<n:=by simpa using xf
 let X:Ownr:=qJ G O
 have x6:∀g,¬X.R g:=jW _ _;have hX:X.Ok w:=⟨λg hg=>⟨hO g hg,x6 g⟩,λg hg=>(x6 g hg).elim,λw' hk=>hK.st w w' hG (hk.below x6)⟩;have x9:Sim w X n (zhz x2.args xs) (λ_=>undef) { tmps:=vs.toArray++zG (fn.ntmps-vs.toArray.size) undef,defers:=[] } w:=by
  have hE:OSet X (zhz x2.args xs).E (λ_=>undef)=O:=by
   funext g
   apply propext;constructor
   .rintro (h|⟨i,o,h,_⟩)
    .exact h
    .cases h
   .exact λh=>.inl h
  refine⟨by simp[hn,xl];omega,rfl,jw _ _,λs=>?_,λi o h=>(by cases h),λi o g h=>(by cases h),λi j oi oj h=>(by cases h),λi o h=>(by cases h),⟨zk _,λi h=>(by cases h)⟩,λs=>?_,λi o h=>(by cases h)⟩
  .rw[hE];have:=zcs (U:=λ_=>undef) x2.args xs vs [] (zg (fn.ntmps-vs.length) undef) hd x8 s;simp only[qn,jX]at this;have e:(vs.toArray++zG (fn.ntmps-vs.toArray.size) undef)=(vs++zg (fn.ntmps-vs.length) undef).toArray:=by simp
   show RepV w O _ _ _ ((vs.toArray++zG (fn.ntmps-vs.toArray.size) undef).getD s undef);rw[e];exact this
  .show(zr (zb1 x2.args xs 0) s).bound<=0;rw[zbI _ _ _ _ hd];exact zu _
 refine wpIn_seq (zT (h0 w O hX xs hp _ _ _ x9) ?_);rintro e a1 w1 ⟨Y',xd,k1,rfl,k2⟩;have k1:=k1.fit k2 (zk _);have xh:=k1.sz;show Code.wpIn _ _ _ _ _ _ _;refine wpIn_seq (wpIn_region_list (wpListIn_plain xg λN1 xp=>za2 (ρ:=none) (λc e=>by rw[xb]at e;cases e) ?_));have xe:(execOp a1.eval o1).run P w1=.ok (.value (.func (.func f1) #[] #[a1.eval x0,a1.eval x1])) w1:=by
  unfold execOp;simp only[xb];refine za7 ?_;simp[Instr.makeFunc]
 refine zba xe (xp _ _ (wpListIn_plain xt λN2 xi=>?_));rw[xm];have k3:=k1.put (zY _ _) (d:=d1) (v:=⟨.junk,()⟩) (u:=.func (.func f1) #[] #[a1.eval x0,a1.eval x1]) t_ (zk _) x5;have xu:(a1.put (some d1) (.func (.func f1) #[] #[a1.eval x0,a1.eval x1])).eval (.tmp d1)=.func (.func f1) #[] #[a1.eval x0,a1.eval x1]:=by
  show(a1.put (some d1) _).tmps.getD d1 undef=_;rw[qq (by rw[xh];exact x5),if_pos rfl]
 generalize a1.put (some d1) (.func (.func f1) #[] #[a1.eval x0,a1.eval x1])=a2 at *;generalize a1.eval x0=u at *;generalize a1.eval x1=v at *;refine⟨λf _=>trivial,?_⟩;have xo:(o2.semAt yU.round a2.eval).run P w1=.ok (.defer { target:=.fn (.func f1) #[u,v],args:=#[] }) w1:=by
  show(execOp a2.eval o2).run P w1=_;unfold execOp;have xa:a2.tmps[d1]?.getD undef=.func (.func f1) #[] #[u,v]:=by rw[<-yA];exact xu
  simp[xk,resolve,xa,Deferred.ofValue,go_sem]
 rw[xo,Oper.uponIn_defer,xr];refine xi _ _ ?_
 let d:Deferred:={ target:=.fn (.func f1) #[u,v],args:=#[] }
 have xc:(Ownr.dfr G O [d]).Ok w:=hX;have xv:Sim w (Ownr.dfr G O [d]) n ⟨(d1,⟨.junk,()⟩)::(Y1 xs).F,(Y1 xs).E,(Y1 xs).nx⟩ xd ({ a2 with defers:=d::a2.defers }.put none undef) w1:=
  ⟨k3.sz,(by show d::a2.defers=[d];rw[k3.df];rfl),k3.bel,k3.fr,k3.own,k3.new,k3.inj,k3.lt,k3.fix,k3.hb,k3.hE⟩
 refine zT (h w O [d] xc xs hp _ _ _ xv) ?_;rintro e a' w' ⟨Y',U',k4,k5,k6⟩;have x3:LeavesInM yU 0 P fn a'.tmps (λe w'=>∃v,e=.returned v/\xW w.heap.size w w'/\zcd w' O w.heap.size x2.own x2.res (x2.out xs) v) a'.defers .returning w':=by
  rw[k4.df];refine⟨by simp,.inr ⟨λh=>(by cases h),_,_,f1,#[u,v],rfl,?_,λ_ _=>trivial,?_⟩⟩
  .have:=(x4 u v).1 w';show(invoke (.fn (.func f1) #[u,v]) #[]).run P w'=_;simp[invoke,go_sem,this]
  refine((x4 u v).2 w').mono ?_;rintro e u' w3 ⟨⟨v',rfl⟩,rfl,xn⟩;have k8:=k4.grow xn;have k7:Seen w (Ownr.dfr G O [d]) Y' U' a' w3:=k8.seen;obtain⟨r,q1,q2⟩:=zfp (X:=Ownr.dfr G O [d]) hK xc k7 k6 (.inr x6);exact⟨r,q1,r,rfl,k8.bel.below x6,q2.resolve_left xq⟩
 rcases k5 with rfl|rfl
 .exact x3
 .exact x3
end
end
section
attribute [local go_sem] Oper.semAt_some
def cEqB:Ctr:={ args:=[bs,bs],pre:=λx=>[x.1=x.2.1],res:=.bool,own:=none,out:=λ_=>true }
set_option maxHeartbeats 8000000 in
theorem zvD:yQ zf gmG 94 cEqB:=by
 refine ctr2 zar Tryz.func94 Tryz.call94 ?_;rintro w0 X hX ⟨(l:List UInt8),(m:List UInt8),_⟩ hp;obtain rfl:l=m:=hp;change AWP _ _ _ _ _ ⟨[(0,⟨bs,l⟩),(1,⟨bs,l⟩)],[],0⟩ _;refine AWP.len 0 rfl λhl=>?_;unfold maxLen at hl
 iterate 2 (refine zaa (zaa (zab zar ?_)))
 refine zae rfl (λhb=>?_) (λ_=>?_)
 .have hb:(((l.length:Nat):Int) != ((l.length:Nat):Int))=true:=hb;simp at hb
 apply zaf;refine zaa (zaa (zab zar ?_));refine zaa ?_;refine yK (ι:=Nat) (λk=>⟨[(0,⟨bs,l⟩),(1,⟨bs,l⟩),(12,⟨i64,((l.length:Nat):Int)⟩),(13,⟨i64,(k:Int)⟩)],[],0⟩) (λk=>k<=l.length) (λk=>l.length-k) 0 (zk _) ⟨⟨rfl,rfl,rfl,rfl,t_⟩,t_,rfl,rfl⟩ ?_;intro k hk;refine zaa (zaa (zab zar ?_));refine zaa ?_;refine zae rfl (λhb=>?_) (λhb=>?_)
 .have hb:decide ((k:Int)<(l.length:Nat))=true:=hb;have hb:=of_decide_eq_true hb;have q1:inR .i64 ((k:Int)+1):=zah o_ o_;refine zaa (zaa (zab zar ?_));refine zaa ?_;refine zaa (zaa (zcE 8 dM zar rfl ?_));refine zae rfl (λhc=>?_) (λ_=>?_)
  .exfalso;have hc:((((l.getD (k:Int).toNat 0).toNat:Nat):Int) != (((l.getD (k:Int).toNat 0).toNat:Nat):Int))=true:=hc;simp at hc
  .refine zaa ?_;refine zaa (zab zar ?_);exact⟨k+1,by omega,by omega,⟨rfl,rfl,rfl,rfl,t_⟩,t_,rfl,rfl⟩
 .apply zan;refine zaa (zaa (zab zar ?_));exact zC ⟨.inr rfl,D1 rfl⟩
def cEqI:Ctr:={ args:=[ints,ints],pre:=λx=>[x.1=x.2.1],res:=.bool,own:=none,out:=λ_=>true }
set_option maxHeartbeats 8000000 in
theorem zvC:yQ zf gmG 40 cEqI:=by
 refine ctr2 zar Tryz.func40 Tryz.call40 ?_;rintro w0 X hX ⟨(l:List Int),(m:List Int),_⟩ hp;obtain rfl:l=m:=hp;change AWP _ _ _ _ _ ⟨[(0,⟨ints,l⟩),(1,⟨ints,l⟩)],[],0⟩ _;refine AWP.len 0 rfl λhl=>?_;unfold maxLen at hl
 iterate 2 (refine zaa (zaa (zab zar ?_)))
 refine zae rfl (λhb=>?_) (λ_=>?_)
 .have hb:(((l.length:Nat):Int) != ((l.length:Nat):Int))=true:=hb;simp at hb
 apply zaf;refine zaa (zaa (zab zar ?_));refine zaa ?_;refine yK (ι:=Nat) (λk=>⟨[(0,⟨ints,l⟩),(1,⟨ints,l⟩),(12,⟨i64,((l.length:Nat):Int)⟩),(13,⟨i64,(k:Int)⟩)],[],0⟩) (λk=>k<=l.length) (λk=>l.length-k) 0 (zk _) ⟨⟨rfl,rfl,rfl,rfl,t_⟩,t_,rfl,rfl⟩ ?_;intro k hk;refine zaa (zaa (zab zar ?_));refine zaa ?_;refine zae rfl (λhb=>?_) (λhb=>?_)
 .have hb:decide ((k:Int)<(l.length:Nat))=true:=hb;have hb:=of_decide_eq_true hb;have q1:inR .i64 ((k:Int)+1):=zah o_ o_;refine zaa (zaa (zab zar ?_));refine zaa ?_;refine zaa (zaa (zcE 8 dM zar rfl ?_));refine zae rfl (λhc=>?_) (λ_=>?_)
  .exfalso;have hc:(l.getD (k:Int).toNat 0 != l.getD (k:Int).toNat 0)=true:=hc;simp at hc
  .refine zaa ?_;refine zaa (zab zar ?_);exact⟨k+1,by omega,by omega,⟨rfl,rfl,rfl,rfl,t_⟩,t_,rfl,rfl⟩
 .apply zan;refine zaa (zaa (zab zar ?_));exact zC ⟨.inr rfl,D1 rfl⟩
def cClB:Ctr:={ args:=[bs],pre:=λx=>[zp x.1<=1000000],res:=bs,own:=none,out:=λx=>x.1 }
theorem zu5:yQ zf gmG 88 cClB:=by
 refine ctr2 zar Tryz.func88 Tryz.call88 ?_;rintro w0 X hX ⟨l,_⟩ hp;have hp:l.length<=1000000:=hp;have x0:0+l.length<=1000000000:=o_;change AWP _ _ _ _ _ ⟨[(0,⟨bs,l⟩)],[],0⟩ _;(repeat refine zaa (zaa (zab zar ?_)));refine zaa ?_;refine zkh (e:=5) hX zar [_] _ rfl rfl rfl rfl rfl (by kernel_rfl) rfl t_ rfl (λb hb=>?_);refine zae rfl (λh=>?_) (λh=>?_)
 .have h:b=true:=h;obtain rfl:=hb h;(repeat refine zaa (zaa (zab zar ?_)));refine zaa ?_;exact zC ⟨.inr rfl,D1 rfl⟩
 .refine zaa (zaa (zab zar ?_ (hp:=by exact x0)));refine vo hX 2 ?_;exact zC ⟨.inr rfl,D1 rfl⟩
set_option maxHeartbeats 2000000 in
theorem zmW:Idle zf 87:=λu v=>⟨λw=>Tryz.call87 _ w,λw=>by
 refine callsDIn_of_wpSIn Tryz.func87 rfl t_ λx0 cs hu=>?_;apply wpSIn_seq;apply wpSIn_region;simp[wpOpsSIn,go_sem,recoverD,hu,Tryz.ntmps87,Exit.thenS];apply wpSIn_seq;apply wpSIn_region;simp[wpOpsSIn,go_sem,Exit.thenS];refine wpSIn_cond (t:=false) (by simp[Act.eval]) ?_;simp only[Bool.false_eq_true,if_false];refine wpSIn_of_wpIn rfl (wpIn_skip ?_);cases x0
 simp_all [bodyPostS,results,Tryz.f87]
 exact zY _ _⟩
end
theorem RCtrOk.up{P:zA}{G:zj->Prop}{f:yR}{c:RCtr}(h:vC P gmG f c):vC P G f c:=⟨h.1,λw O g cs ty x xs vs hO hg hx hr hp hi _=>h.2 w O g cs ty x xs vs hO hg hx hr hp hi trivial⟩
theorem CtrOk.up{P:zA}{G:zj->Prop}{f:yR}{c:Ctr}(h:yQ P gmG f c):yQ P G f c:=⟨h.1,λw O xs vs hO hr hp _=>h.2 w O xs vs hO hr hp trivial⟩
theorem zoD:KnOk zf dG kFi':=zam.withR (.cons zlP.up (λ_ _=>trivial) .nil)
def sE1(ru:List nd.T)(a b:Int)(x0:List (List UInt8))(j:Nat):Owns:=[(0,some (.hbox 35 (pk [] [[⟨.slice nd,ru⟩,⟨i64,(0:Int)⟩,⟨i64,(0:Int)⟩,⟨.str,[]⟩,⟨i64,(0:Int)⟩,⟨i64,(0:Int)⟩,⟨.lit,.slice none 0 0⟩],[⟨.slice nd,ru⟩,⟨i64,a⟩,⟨i64,(0:Int)⟩,⟨.str,[]⟩,⟨i64,(0:Int)⟩,⟨i64,(0:Int)⟩,⟨.lit,.slice none 0 0⟩],[⟨.slice nd,ru⟩,⟨i64,a⟩,⟨i64,b⟩,⟨.str,[]⟩,⟨i64,(0:Int)⟩,⟨i64,(0:Int)⟩,⟨.lit,.slice none 0 0⟩]] j))),(1,some (.box i64 (0:Int))),(2,some (.box srd (pk [] x0 j,())))]
set_option maxHeartbeats 2000000 in
theorem zuU(ru:List nd.T){w1:zj}{X:Ownr}(hX:X.Ok w1){gs:Nat}(hG:X.G=PG dG X.fix gs 84 [(0,1),(0,2)])(hK:X.K=3)(a b:Int)(r0 r1 r2:List UInt8)(ha:∀x∈ [a,b],inR .i64 x)
  (h0:r0=leB a 8++r1) (h1:r1=leB b 8++r2):
  AWP zf w1 X 17 (wB.body.get rfl) ⟨[(0,⟨.optr srd,⟨2,srd,.here⟩⟩),(1,⟨.lit,.slice (some ⟨gs,0,none⟩) 2 2⟩)],sE1 ru a b [r0,r1,r2] 0,3⟩
   (λe' Y=>(e'=.normal\/e'=.ret)/\(λv E nx=>v=⟨.junk,()⟩/\E=sE1 ru a b [r0,r1,r2] 2/\nx=3) (rvOf wB.results.toList Y) Y.E Y.nx):=by
 have x0:KnOk zf X.G kFi':=by rw[hG];exact zoD.pg _ _ _ _
 have x2:=ha a (by simp);have x1:inR .i64 b:=ha b (by simp);change AWP _ _ _ _ _ _ _;refine zaa (zaa (zaj ?_));refine zat 1 x0 ?_;refine ku rfl (by intro c e;cases e) rfl rfl ⟨i64,(2:Int)⟩ rfl (λU a w hs=>⟨_,zl6 w a.eval _ yV rfl (zaR hs rfl),qF (k:=.i64)⟩) ?_;refine zau x0 ?_;refine zaa ?_;refine yK (ι:=Nat) (λj=>⟨[(0,⟨.optr srd,⟨2,srd,.here⟩⟩),(6,⟨.lit,.slice (some ⟨gs,0,none⟩) 2 2⟩),(7,⟨i64,(2:Int)⟩),(8,⟨i64,((j:Nat):Int)⟩)],sE1 ru a b [r0,r1,r2] j,3⟩) (λj=>j<=2) (λj=>2-j) 0 (zk _) ⟨⟨rfl,rfl,rfl,rfl,t_⟩,⟨rfl,rfl,rfl,t_⟩,rfl,rfl⟩ ?_ (by intro i;rw[hK];exact zb rfl);intro j hj;have q1:inR .i64 (((j:Nat):Int)+1):=zah o_ o_;refine zaa (zaa (zab x0 ?_));refine zaa ?_;refine zaN rfl (λhb=>?_) (λhb=>?_)
 .have hb:(j:Int)<2:=hb;have h6:j=0\/j=1:=o_;apply zaf;rcases h6 with rfl|rfl
  .have e0:8<=r0.length:=by rw[h0];exact len8 _ _
   have e1:rdN (r0.take 8)=a:=by rw[h0,rd1 x2]
   have e2:r0.drop 8=r1:=by rw[h0,zdf]
   refine zaa (zaa (zaj ?_));refine zbz hG hX yV ptSz ptAg rfl rfl rfl rfl rfl rfl rfl rfl rfl 0 rfl d_ rfl (by rw[hK];decide) (by rw[hK];exact zb rfl) λv=>?_;refine zau x0 ?_;refine zaa (zab x0 ?_ (hp:=by exact e0));refine zaa (zab x0 ?_);refine⟨1,by omega,by omega,⟨rfl,rfl,rfl,rfl,t_⟩,⟨?_,rfl,zaT (congrArg (λz=>(z,())) e2),t_⟩,rfl,rfl⟩;exact congrArg (λz=>some (OObj.hbox 35 [⟨.slice nd,ru⟩,⟨i64,z⟩,⟨i64,(0:Int)⟩,⟨.str,[]⟩,⟨i64,(0:Int)⟩,⟨i64,(0:Int)⟩,⟨.lit,.slice none 0 0⟩])) e1
  .have e0:8<=r1.length:=by rw[h1];exact len8 _ _
   have e1:rdN (r1.take 8)=b:=by rw[h1,rd1 x1]
   have e2:r1.drop 8=r2:=by rw[h1,zdf]
   refine zaa (zaa (zaj ?_));refine zbz hG hX yV ptSz ptAg rfl rfl rfl rfl rfl rfl rfl rfl rfl 1 rfl d_ rfl (by rw[hK];decide) (by rw[hK];exact zb rfl) λv=>?_;refine zau x0 ?_;refine zaa (zab x0 ?_ (hp:=by exact e0));refine zaa (zab x0 ?_);refine⟨2,by omega,by omega,⟨rfl,rfl,rfl,rfl,t_⟩,⟨?_,rfl,zaT (congrArg (λz=>(z,())) e2),t_⟩,rfl,rfl⟩;exact congrArg (λz=>some (OObj.hbox 35 [⟨.slice nd,ru⟩,⟨i64,a⟩,⟨i64,z⟩,⟨.str,[]⟩,⟨i64,(0:Int)⟩,⟨i64,(0:Int)⟩,⟨.lit,.slice none 0 0⟩])) e1
 .
  obtain rfl:j=2:=o_;apply zan;exact⟨.inl rfl,rfl,rfl,rfl⟩
def sE2(ru:List nd.T)(mi le:Int)(zo:List UInt8)(a b:Int)(x0:List (List UInt8))(j:Nat):Owns:=[(0,some (.hbox 35 (pk [] [[⟨.slice nd,ru⟩,⟨i64,mi⟩,⟨i64,le⟩,⟨.str,zo⟩,⟨i64,(0:Int)⟩,⟨i64,(0:Int)⟩,⟨.lit,.slice none 0 0⟩],[⟨.slice nd,ru⟩,⟨i64,mi⟩,⟨i64,le⟩,⟨.str,zo⟩,⟨i64,a⟩,⟨i64,(0:Int)⟩,⟨.lit,.slice none 0 0⟩],[⟨.slice nd,ru⟩,⟨i64,mi⟩,⟨i64,le⟩,⟨.str,zo⟩,⟨i64,a⟩,⟨i64,b⟩,⟨.lit,.slice none 0 0⟩]] j))),(1,some (.box i64 (0:Int))),(2,some (.box srd (pk [] x0 j,())))]
set_option maxHeartbeats 2000000 in
theorem zuT(ru:List nd.T)(mi le:Int)(zo:List UInt8){w1:zj}{X:Ownr}(hX:X.Ok w1){gs:Nat}(hG:X.G=PG dG X.fix gs 84 [(0,4),(0,5)])(hK:X.K=3)(a b:Int)(r0 r1 r2:List UInt8)(ha:∀x∈ [a,b],inR .i64 x)
  (h0:r0=leB a 8++r1) (h1:r1=leB b 8++r2):
  AWP zf w1 X 17 (wB.body.get rfl) ⟨[(0,⟨.optr srd,⟨2,srd,.here⟩⟩),(1,⟨.lit,.slice (some ⟨gs,0,none⟩) 2 2⟩)],sE2 ru mi le zo a b [r0,r1,r2] 0,3⟩
   (λe' Y=>(e'=.normal\/e'=.ret)/\(λv E nx=>v=⟨.junk,()⟩/\E=sE2 ru mi le zo a b [r0,r1,r2] 2/\nx=3) (rvOf wB.results.toList Y) Y.E Y.nx):=by
 have x0:KnOk zf X.G kFi':=by rw[hG];exact zoD.pg _ _ _ _
 have x2:=ha a (by simp);have x1:inR .i64 b:=ha b (by simp);change AWP _ _ _ _ _ _ _;refine zaa (zaa (zaj ?_));refine zat 1 x0 ?_;refine ku rfl (by intro c e;cases e) rfl rfl ⟨i64,(2:Int)⟩ rfl (λU a w hs=>⟨_,zl6 w a.eval _ yV rfl (zaR hs rfl),qF (k:=.i64)⟩) ?_;refine zau x0 ?_;refine zaa ?_;refine yK (ι:=Nat) (λj=>⟨[(0,⟨.optr srd,⟨2,srd,.here⟩⟩),(6,⟨.lit,.slice (some ⟨gs,0,none⟩) 2 2⟩),(7,⟨i64,(2:Int)⟩),(8,⟨i64,((j:Nat):Int)⟩)],sE2 ru mi le zo a b [r0,r1,r2] j,3⟩) (λj=>j<=2) (λj=>2-j) 0 (zk _) ⟨⟨rfl,rfl,rfl,rfl,t_⟩,⟨rfl,rfl,rfl,t_⟩,rfl,rfl⟩ ?_ (by intro i;rw[hK];exact zb rfl);intro j hj;have q1:inR .i64 (((j:Nat):Int)+1):=zah o_ o_;refine zaa (zaa (zab x0 ?_));refine zaa ?_;refine zaN rfl (λhb=>?_) (λhb=>?_)
 .have hb:(j:Int)<2:=hb;have h6:j=0\/j=1:=o_;apply zaf;rcases h6 with rfl|rfl
  .have e0:8<=r0.length:=by rw[h0];exact len8 _ _
   have e1:rdN (r0.take 8)=a:=by rw[h0,rd1 x2]
   have e2:r0.drop 8=r1:=by rw[h0,zdf]
   refine zaa (zaa (zaj ?_));refine zbz hG hX yV ptSz ptAg rfl rfl rfl rfl rfl rfl rfl rfl rfl 0 rfl d_ rfl (by rw[hK];decide) (by rw[hK];exact zb rfl) λv=>?_;refine zau x0 ?_;refine zaa (zab x0 ?_ (hp:=by exact e0));refine zaa (zab x0 ?_);refine⟨1,by omega,by omega,⟨rfl,rfl,rfl,rfl,t_⟩,⟨?_,rfl,zaT (congrArg (λz=>(z,())) e2),t_⟩,rfl,rfl⟩;exact congrArg (λz=>some (OObj.hbox 35 [⟨.slice nd,ru⟩,⟨i64,mi⟩,⟨i64,le⟩,⟨.str,zo⟩,⟨i64,z⟩,⟨i64,(0:Int)⟩,⟨.lit,.slice none 0 0⟩])) e1
  .have e0:8<=r1.length:=by rw[h1];exact len8 _ _
   have e1:rdN (r1.take 8)=b:=by rw[h1,rd1 x1]
   have e2:r1.drop 8=r2:=by rw[h1,zdf]
   refine zaa (zaa (zaj ?_));refine zbz hG hX yV ptSz ptAg rfl rfl rfl rfl rfl rfl rfl rfl rfl 1 rfl d_ rfl (by rw[hK];decide) (by rw[hK];exact zb rfl) λv=>?_;refine zau x0 ?_;refine zaa (zab x0 ?_ (hp:=by exact e0));refine zaa (zab x0 ?_);refine⟨2,by omega,by omega,⟨rfl,rfl,rfl,rfl,t_⟩,⟨?_,rfl,zaT (congrArg (λz=>(z,())) e2),t_⟩,rfl,rfl⟩;exact congrArg (λz=>some (OObj.hbox 35 [⟨.slice nd,ru⟩,⟨i64,mi⟩,⟨i64,le⟩,⟨.str,zo⟩,⟨i64,a⟩,⟨i64,z⟩,⟨.lit,.slice none 0 0⟩])) e1
 .
  obtain rfl:j=2:=o_;apply zan;exact⟨.inl rfl,rfl,rfl,rfl⟩
def seR(s:se.T):Prop:=(∀n∈(s.1:List nd.T),ndG n)/\∀m∈(s.2.2.2.2.2.2.1:List mv.T),mvG m
noncomputable def cSeR(s:se.T):Ctr:={ args:=[bs],pre:=λx=>[x.1=serB s,sndG s,seR s],res:=.tup se (.tup i64 .unit),own:=none,out:=λ_=>(s,(0:Int),()) }
noncomputable def kRd0:Kn:={ dK with H:=[35],C:=[(88,cClB),(62,cSeB),(94,cEqB)],R:=[(89,cRCo),(92,cRTx)] }
theorem zb0:KnOk zf dG kRd0:=⟨zd2,zdu,.cons zu5.up<|.cons zhQ<|.cons zvD.up .nil,zfr,.cons zrv.up (λ_ _=>trivial)<|.cons zru.up (λ_ _=>trivial) .nil⟩
noncomputable def kRdN(n:nd.T)(x0:List UInt8):Kn:={ dK with H:=[35],R:=[(90,cRNd n x0)] }
theorem zkQ(n:nd.T)(x0:List UInt8):KnOk zf dG (kRdN n x0):=⟨zd2,zdu,.nil,zfr,.cons (zuh n x0).up (λ_ _=>trivial) .nil⟩
noncomputable def kRdM(m:mv.T)(x0:List UInt8):Kn:={ dK with H:=[35],R:=[(93,cRMv m x0)] }
theorem zkR(m:mv.T)(x0:List UInt8):KnOk zf dG (kRdM m x0):=⟨zd2,zdu,.nil,zfr,.cons (zui m x0).up (λ_ _=>trivial) .nil⟩
theorem zn9:∀l:List nd.T,l.length<=(ndsB l).length
 | []=>zu _
 |n::l=>by
  have:=zn9 l;show l.length+1<=(ndB n++ndsB l).length;rw[zl,zoa];omega
theorem zgk{n lo hi:Int}:wthn n lo hi=true↔lo<=n/\n<=hi:=by
 unfold wthn;by_cases h:lo<=n
 .rw[decide_eq_true h,cond_true,decide_eq_true_iff];exact⟨λh2=>⟨h,h2⟩,λh2=>h2.2⟩
 .rw[decide_eq_false h,cond_false];exact⟨λh=>(by cases h),λh2=>absurd h2.1 h⟩
def rdS(ru:V)(mi le:Int)(zo:List UInt8)(ga fo:Int)(mo:V):List V:=[ru,⟨i64,mi⟩,⟨i64,le⟩,⟨.str,zo⟩,⟨i64,ga⟩,⟨i64,fo⟩,mo]
theorem zsr(ru:List nd.T)(mi le:Int)(zo:List UInt8)(ga fo:Int)(mo:List mv.T):serB (ru,mi,le,zo,ga,fo,mo,())=leB ((ru.length:Nat):Int) 8++(ndsB ru++(leB mi 8++(leB le 8++(leB ((zo.length:Nat):Int) 8++(zo++(leB ga 8++(leB fo 8++(leB ((mo.length:Nat):Int) 8++mvsB mo)))))))):=by
 show(leB _ 8++[])++(ndsB ru++((leB mi 8++(leB le 8++[]))++((leB _ 8++zo)++((leB ga 8++(leB fo 8++(leB _ 8++[])))++mvsB mo))))=_;simp only[zB,yE,qn]
set_option maxHeartbeats 8000000 in
theorem znx(s:se.T):yQ zf dG 68 (cSeR s):=by
 refine zj4 zb0 Tryz.func68 rfl rfl rfl rfl rfl rfl rfl rfl rfl Tryz.call68 rfl (zb rfl) (by intro h;cases h) zmW (λx=>⟨[(0,⟨bs,x.1⟩),(2,⟨.hptr,((0:Nat),(0:Nat))⟩),(3,⟨.optr i64,⟨1,i64,.here⟩⟩)],[(0,some (.hbox 35 (rdS ⟨.lit,.slice none 0 0⟩ 0 0 [] 0 0 ⟨.lit,.slice none 0 0⟩))),(1,some (.box i64 (0:Int)))],2⟩) ?_ ?_
 .rintro w0 O hX ⟨(x:List UInt8),⟨⟩⟩ hp;change AWP _ _ _ _ _ ⟨[(0,⟨bs,x⟩)],[],0⟩ _;refine zab zb0 ?_;exact⟨rfl,⟨rfl,rfl,rfl,t_⟩,⟨rfl,rfl,t_⟩,rfl,rfl⟩
 rintro w0 O D hX0 ⟨(x0:List UInt8),⟨⟩⟩ ⟨hx,hs,hr⟩;have hsl:=ze0 hs;have hx':=hx;obtain⟨(ru:List nd.T),(mi:Int),(le:Int),(zo:List UInt8),(ga:Int),(fo:Int),(mo:List mv.T),⟨⟩⟩:=s;obtain⟨h1,h2,h3,⟨h4,h4'⟩,h5,h6,h7,_,_⟩:=id hs;obtain⟨hru,hmo⟩:=hr;have hru:∀n∈ru,ndG n:=hru;have hmo:∀m∈mo,mvG m:=hmo;have h7:mo.length<=64:=h7;have hr64:ru.length<=64:=(zif h1).1;have hz32:zo.length<=32:=h4';have w2:0<=mi/\mi<=1439:=zgk.1 h2;have w3:1<=le/\le<=10080:=zgk.1 h3;have w5:0<=ga/\ga<=2:=zgk.1 h5;have w6:0<=fo/\fo<=2:=zgk.1 h6;have i2:inR .i64 mi:=zah o_ o_;have i3:inR .i64 le:=zah o_ o_;have i5:inR .i64 ga:=zah o_ o_;have i6:inR .i64 fo:=zah o_ o_;have hx0:x0=serB (ru,mi,le,zo,ga,fo,mo,()):=hx;have hsl:(serB (ru,mi,le,zo,ga,fo,mo,())).length<=60000:=hsl;have hxl:x0.length<=1000000:=by rw[hx0];omega
 obtain⟨m0,hm0⟩:∃m0,m0=mvsB mo:=⟨_,rfl⟩;obtain⟨y5,g5⟩:∃y,y=leB ((mo.length:Nat):Int) 8++m0:=⟨_,rfl⟩;obtain⟨y4,g4⟩:∃y,y=leB fo 8++y5:=⟨_,rfl⟩;obtain⟨y3,g3⟩:∃y,y=leB ga 8++y4:=⟨_,rfl⟩;obtain⟨z2,gz⟩:∃y,y=zo++y3:=⟨_,rfl⟩;obtain⟨y2,g2⟩:∃y,y=leB ((zo.length:Nat):Int) 8++z2:=⟨_,rfl⟩;obtain⟨y1,g1⟩:∃y,y=leB le 8++y2:=⟨_,rfl⟩;obtain⟨y0,g0⟩:∃y,y=leB mi 8++y1:=⟨_,rfl⟩;obtain⟨d0,hd0⟩:∃y,y=ndsB ru++y0:=⟨_,rfl⟩;have h0:x0=leB ((ru.length:Nat):Int) 8++d0:=by rw[hx0,zsr,hd0,g0,g1,g2,gz,g3,g4,g5,hm0]
 have hd0l:ru.length<=d0.length:=by rw[hd0,zl];have:=zn9 ru;omega
 have hm0l:mo.length<=m0.length:=by rw[hm0,ziE];omega
 clear hx;change AWP _ _ _ _ _ ⟨[(7,⟨.junk,()⟩),(0,⟨bs,x0⟩),(2,⟨.hptr,((0:Nat),(0:Nat))⟩),(3,⟨.optr i64,⟨1,i64,.here⟩⟩)],[(0,some (.hbox 35 (rdS ⟨.lit,.slice none 0 0⟩ 0 0 [] 0 0 ⟨.lit,.slice none 0 0⟩))),(1,some (.box i64 (0:Int)))],2⟩ _;have hX:=hX0;refine zaa (zaa (zab zb0 ?_ (hp:=by exact hxl)));refine zak (Y':=⟨[(0,⟨bs,x0⟩),(2,⟨.hptr,((0:Nat),(0:Nat))⟩),(3,⟨.optr i64,⟨1,i64,.here⟩⟩),(4,⟨.optr srd,⟨2,srd,.here⟩⟩)],[(0,some (.hbox 35 (rdS ⟨.lit,.slice none 0 0⟩ 0 0 [] 0 0 ⟨.lit,.slice none 0 0⟩))),(1,some (.box i64 (0:Int))),(2,some (.box srd (x0,())))],3⟩) ⟨⟨rfl,rfl,rfl,rfl,t_⟩,⟨rfl,rfl,rfl,t_⟩,rfl,rfl⟩ ?_;have k0:8<=x0.length:=by rw[h0];exact len8 _ _
 have k1:rdN (x0.take 8)=((ru.length:Nat):Int):=by rw[h0,rd1 (zah o_ o_)]
 have k2:x0.drop 8=d0:=by rw[h0,zdf]
 have k3:0<=rdN (x0.take 8):=by rw[k1];omega
 have k4:rdN (x0.take 8)<=((x0.length:Nat):Int)-8:=by
  have:=congrArg zp k2;rw[yY]at this;rw[k1];omega
 refine za9 0 0 104 nd rfl rfl rfl ?_;refine zaa (zaa (zab zb0 ?_ (hp:=by exact⟨k0,k3,k4⟩)));refine zaa ?_;refine yK (ι:=Nat) (λk=>⟨[(0,⟨bs,x0⟩),(2,⟨.hptr,((0:Nat),(0:Nat))⟩),(3,⟨.optr i64,⟨1,i64,.here⟩⟩),(4,⟨.optr srd,⟨2,srd,.here⟩⟩),(13,⟨i64,((ru.length:Nat):Int)⟩),(14,⟨i64,(k:Int)⟩)],[(0,some (.hbox 35 (rdS ⟨.obuf nd,(3:Nat)⟩ 0 0 [] 0 0 ⟨.lit,.slice none 0 0⟩))),(1,some (.box i64 (0:Int))),(2,some (.box srd (ndsB (ru.drop k)++y0,()))),(3,some (.buf 104 nd (ru.take k)))],4⟩) (λk=>k<=ru.length) (λk=>ru.length-k) 0 (zk _) ⟨⟨rfl,rfl,rfl,rfl,vI64 k1,rfl,t_⟩,⟨rfl,rfl,zaT (congrArg (λz=>(z,())) (k2.trans hd0)),rfl,t_⟩,rfl,rfl⟩ ?_;intro k hk;refine zaa (zaa (zab zb0 ?_));refine zaa ?_;refine zaN rfl (λhb=>?_) (λhb=>?_)
 .have hb:(k:Int)<((ru.length:Nat):Int):=hb;have hlt:k<ru.length:=o_;have q:inR .i64 ((k:Int)+1):=zah o_ o_;obtain⟨y,hy⟩:∃y,y=ndsB (ru.drop (k+1))++y0:=⟨_,rfl⟩;obtain⟨x,hx⟩:∃x,x=ndsB (ru.drop k)++y0:=⟨_,rfl⟩;have hxy:x=ndB ru[k]++y:=by
   rw[hx,hy,xR hlt];show(ndB ru[k]++ndsB _)++y0=_;rw[zB]
  have hn:ndG ru[k]:=hru _ (qc hlt);have pc:x=ndB ru[k]++y/\ndG ru[k]:=⟨hxy,hn⟩;have p3:(ru.take k).length+1<=1000000000:=by rw[zP];omega
  rw[<-hx];apply zaf;refine zaa ?_;refine zco (Y':=⟨[(0,⟨bs,x0⟩),(2,⟨.hptr,((0:Nat),(0:Nat))⟩),(3,⟨.optr i64,⟨1,i64,.here⟩⟩),(4,⟨.optr srd,⟨2,srd,.here⟩⟩),(13,⟨i64,((ru.length:Nat):Int)⟩),(14,⟨i64,(k:Int)⟩)],[(0,some (.hbox 35 (rdS ⟨.obuf nd,(3:Nat)⟩ 0 0 [] 0 0 ⟨.lit,.slice none 0 0⟩))),(1,some (.box i64 (0:Int))),(2,some (.box srd (y,()))),(3,some (.buf 104 nd (ru.take k++[ru[k]])))],4⟩) dM 8 rfl (by kernel_rfl) ?_ ?_
  .repeat'(first|exact uf|refine kv ⟨_,rfl,?_⟩ ?_|refine yD hX (zkQ ru[k] y) rfl t_ ?_|refine yD hX (zkQ ru[k] y) rfl (by exact pc) ?_|refine yD hX (zkQ ru[k] y) rfl p3 ?_|(refine vY ?_;exact⟨rfl,⟨rfl,rfl,rfl,rfl,rfl,rfl,t_⟩,⟨rfl,rfl,rfl,rfl,t_⟩,rfl,rfl⟩))
  rw[hy, <-zN hlt];refine zaa (zab zb0 ?_);exact⟨k+1,by omega,by omega,⟨rfl,rfl,rfl,rfl,rfl,rfl,t_⟩,⟨rfl,rfl,rfl,rfl,t_⟩,rfl,rfl⟩
 have hb:¬((k:Int)<((ru.length:Nat):Int)):=hb;obtain rfl:k=ru.length:=o_;apply zan;have e1:ndsB (ru.drop ru.length)++y0=y0:=by rw[uR];rfl
 rw[e1,yX];refine AWP.frzL hX 0 0 ?_;refine zak (Y':=⟨[(0,⟨bs,x0⟩),(2,⟨.hptr,((0:Nat),(0:Nat))⟩),(3,⟨.optr i64,⟨1,i64,.here⟩⟩),(4,⟨.optr srd,⟨2,srd,.here⟩⟩)],sE1 ru mi le [y0,y1,y2] 0,3⟩) ⟨⟨rfl,rfl,rfl,rfl,t_⟩,⟨rfl,rfl,rfl,t_⟩,rfl,rfl⟩ ?_;have j12:∀x∈ [mi,le],inR .i64 x:=by
  intro x hx;simp only[zE,zU,or_false]at hx;rcases hx with rfl|rfl<;>assumption
 have j34:∀x∈ [ga,fo],inR .i64 x:=by
  intro x hx;simp only[zE,zU,or_false]at hx;rcases hx with rfl|rfl<;>assumption
 refine zfB 3 hX0 rfl rfl rfl λw1 X' hX' hG hK hρ hD _ _ _ hfix=>?_;obtain⟨G',O',K',fix,D',ρ',B'⟩:=X';obtain rfl:G'=dG:=hG;obtain rfl:K'=3:=hK;clear hX;have hX:=hX';refine zaa (zaa (zaj ?_));refine zat 3 (zb0) ?_;refine zi9 hX rfl (by intro c e;cases e) rfl rfl 2 84 [(0,1),(0,2)] (λU a w hs=>?_) (λgs w2 X2 hX2 hG2 hK2 hf2 hρ2 hD2=>?_)
 .unfold execOp;refine za7 ?_;rw[show(#[(0,qC 25),(1,qC 26)]:Array (Nat×zK)).map (λp=>(p.1,a.eval p.2))= #[(0,zz (some ⟨fix 0,1,none⟩)),(1,zz (some ⟨fix 0,2,none⟩))] from by
   simp only[uo,qN,uq];rw[zcD hs (x:=.tmp 25) rfl (by show 0<3;decide),zcD hs (x:=.tmp 26) rfl (by show 0<3;decide)];rfl]
  exact zgl w 2 d_ d_ _ _ rfl
 obtain⟨G2,O2,K2,fix2,Dz,ρ2,B2⟩:=X2;obtain rfl:K2=3:=hK2;obtain rfl:fix=fix2:=hf2.symm;refine AL.subF 3 hX2 rfl rfl gK rfl rfl rfl (N:=λv E nx=>v=⟨.junk,()⟩/\E=sE1 ru mi le [y0,y1,y2] 2/\nx=3) (E1:=sE1 ru mi le [y0,y1,y2] 0)
  (hw:=λw3 X3 c1 c2 c3 c4 c5 _ c7 _=>zbP gL rfl rfl (.inl rfl) c5 c4<|zuU (gs:=gs) ru c1 ?_ c3 mi le y0 y1 y2 j12 g0 g1) (λv E nx h=>?_) (λv E nx h=>?_)
 .rw[c2,hG2];refine PG.congr λp hp=>c7 p.1 ?_;simp only[zE,zU,or_false]at hp;show p.1<3;rcases hp with rfl|rfl<;>decide
 .obtain⟨rfl,rfl,rfl⟩:=h;rfl
 obtain⟨rfl,rfl,rfl⟩:=h;refine qu ?_;clear hX2 hG2;have a0:8<=y2.length:=by rw[g2];exact len8 _ _
 have a1:rdN (y2.take 8)=((zo.length:Nat):Int):=by rw[g2,rd1 (zah o_ o_)]
 have a2:y2.drop 8=z2:=by rw[g2,zdf]
 have a3:0<=rdN (y2.take 8):=by rw[a1];omega
 have a4:rdN (y2.take 8)<=(((y2.drop 8).length:Nat):Int):=by rw[a1,a2,gz,zl];omega
 have a5:(y2.drop 8).take (rdN (y2.take 8)).toNat=zo:=by rw[a1,a2,gz,zS,List.take_left]
 have a6:(y2.drop 8).drop (rdN (y2.take 8)).toNat=y3:=by rw[a1,a2,gz,zS,List.drop_left]
 refine zak (Y':=⟨[(0,⟨bs,x0⟩),(2,⟨.hptr,((0:Nat),(0:Nat))⟩),(3,⟨.optr i64,⟨1,i64,.here⟩⟩),(4,⟨.optr srd,⟨2,srd,.here⟩⟩)],[(0,some (.hbox 35 (rdS ⟨.slice nd,ru⟩ mi le [] 0 0 ⟨.lit,.slice none 0 0⟩))),(1,some (.box i64 (0:Int))),(2,some (.box srd (y2,())))],3⟩) ⟨⟨rfl,rfl,rfl,rfl,t_⟩,⟨rfl,rfl,rfl,t_⟩,rfl,rfl⟩ ?_;refine zaa (zaa (zab zb0 ?_ (hp:=by exact⟨a0,a3,a4⟩)));refine zak (Y':=⟨[(0,⟨bs,x0⟩),(2,⟨.hptr,((0:Nat),(0:Nat))⟩),(3,⟨.optr i64,⟨1,i64,.here⟩⟩),(4,⟨.optr srd,⟨2,srd,.here⟩⟩)],sE2 ru mi le zo ga fo [y3,y4,y5] 0,3⟩) ⟨⟨rfl,rfl,rfl,rfl,t_⟩,⟨congrArg (λz=>some (OObj.hbox 35 (rdS ⟨.slice nd,ru⟩ mi le z 0 0 ⟨.lit,.slice none 0 0⟩))) a5,rfl,zaT (congrArg (λz=>(z,())) a6),t_⟩,rfl,rfl⟩ ?_;refine zaa (zaa (zaj ?_));refine zat 3 (zb0) ?_;refine zi9 hX rfl (by intro c e;cases e) rfl rfl 2 84 [(0,4),(0,5)] (λU a w hs=>?_) (λgs w2 X2 hX2 hG2 hK2 hf2 hρ2 hD2=>?_)
 .unfold execOp;refine za7 ?_;rw[show(#[(0,qC 33),(1,qC 34)]:Array (Nat×zK)).map (λp=>(p.1,a.eval p.2))= #[(0,zz (some ⟨fix 0,4,none⟩)),(1,zz (some ⟨fix 0,5,none⟩))] from by
   simp only[uo,qN,uq];rw[zcD hs (x:=.tmp 33) rfl (by show 0<3;decide),zcD hs (x:=.tmp 34) rfl (by show 0<3;decide)];rfl]
  exact zgl w 2 d_ d_ _ _ rfl
 obtain⟨G2,O2,K2,fix2,Dz,ρ2,B2⟩:=X2;obtain rfl:K2=3:=hK2;obtain rfl:fix=fix2:=hf2.symm;refine AL.subF 3 hX2 rfl rfl gK rfl rfl rfl (N:=λv E nx=>v=⟨.junk,()⟩/\E=sE2 ru mi le zo ga fo [y3,y4,y5] 2/\nx=3) (E1:=sE2 ru mi le zo ga fo [y3,y4,y5] 0)
  (hw:=λw3 X3 c1 c2 c3 c4 c5 _ c7 _=>zbP gL rfl rfl (.inl rfl) c5 c4<|zuT (gs:=gs) ru mi le zo c1 ?_ c3 ga fo y3 y4 y5 j34 g3 g4) (λv E nx h=>?_) (λv E nx h=>?_)
 .rw[c2,hG2];refine PG.congr λp hp=>c7 p.1 ?_;simp only[zE,zU,or_false]at hp;show p.1<3;rcases hp with rfl|rfl<;>decide
 .obtain⟨rfl,rfl,rfl⟩:=h;rfl
 obtain⟨rfl,rfl,rfl⟩:=h;refine qu ?_;clear hX2 hG2;have b0:8<=y5.length:=by rw[g5];exact len8 _ _
 have b1:rdN (y5.take 8)=((mo.length:Nat):Int):=by rw[g5,rd1 (zah o_ o_)]
 have b2:y5.drop 8=m0:=by rw[g5,zdf]
 have b3:0<=rdN (y5.take 8):=by rw[b1];omega
 have b4:rdN (y5.take 8)<=((y5.length:Nat):Int)-8:=by
  have:=congrArg zp b2;rw[yY]at this;rw[b1];omega
 refine zak (Y':=⟨[(0,⟨bs,x0⟩),(2,⟨.hptr,((0:Nat),(0:Nat))⟩),(3,⟨.optr i64,⟨1,i64,.here⟩⟩),(4,⟨.optr srd,⟨2,srd,.here⟩⟩)],[(0,some (.hbox 35 (rdS ⟨.slice nd,ru⟩ mi le zo ga fo ⟨.lit,.slice none 0 0⟩))),(1,some (.box i64 (0:Int))),(2,some (.box srd (y5,())))],3⟩) ⟨⟨rfl,rfl,rfl,rfl,t_⟩,⟨rfl,rfl,rfl,t_⟩,rfl,rfl⟩ ?_;refine za9 0 6 30 mv rfl rfl rfl ?_;refine zaa (zaa (zab zb0 ?_ (hp:=by exact⟨b0,b3,b4⟩)));refine zaa ?_;refine yK (ι:=Nat) (λk=>⟨[(0,⟨bs,x0⟩),(2,⟨.hptr,((0:Nat),(0:Nat))⟩),(3,⟨.optr i64,⟨1,i64,.here⟩⟩),(4,⟨.optr srd,⟨2,srd,.here⟩⟩),(38,⟨i64,((mo.length:Nat):Int)⟩),(39,⟨i64,(k:Int)⟩)],[(0,some (.hbox 35 (rdS ⟨.slice nd,ru⟩ mi le zo ga fo ⟨.obuf mv,(3:Nat)⟩))),(1,some (.box i64 (0:Int))),(2,some (.box srd (mvsB (mo.drop k),()))),(3,some (.buf 30 mv (mo.take k)))],4⟩) (λk=>k<=mo.length) (λk=>mo.length-k) 0 (zk _) ⟨⟨rfl,rfl,rfl,rfl,vI64 b1,rfl,t_⟩,⟨rfl,rfl,zaT (congrArg (λz=>(z,())) (b2.trans hm0)),rfl,t_⟩,rfl,rfl⟩ ?_;intro k hk;refine zaa (zaa (zab zb0 ?_));refine zaa ?_;refine zaN rfl (λhb=>?_) (λhb=>?_)
 .have hb:(k:Int)<((mo.length:Nat):Int):=hb;have hlt:k<mo.length:=o_;have q:inR .i64 ((k:Int)+1):=zah o_ o_;obtain⟨y,hy⟩:∃y,y=mvsB (mo.drop (k+1)):=⟨_,rfl⟩;obtain⟨x,hx⟩:∃x,x=mvsB (mo.drop k):=⟨_,rfl⟩;have hxy:x=mvB mo[k]++y:=by
   rw[hx,hy,xR hlt];rfl
  have hn:mvG mo[k]:=hmo _ (qc hlt);have pc:x=mvB mo[k]++y/\mvG mo[k]:=⟨hxy,hn⟩;have p3:(mo.take k).length+1<=1000000000:=by rw[zP];omega
  rw[<-hx];apply zaf;refine zaa ?_;refine zco (Y':=⟨[(0,⟨bs,x0⟩),(2,⟨.hptr,((0:Nat),(0:Nat))⟩),(3,⟨.optr i64,⟨1,i64,.here⟩⟩),(4,⟨.optr srd,⟨2,srd,.here⟩⟩),(38,⟨i64,((mo.length:Nat):Int)⟩),(39,⟨i64,(k:Int)⟩)],[(0,some (.hbox 35 (rdS ⟨.slice nd,ru⟩ mi le zo ga fo ⟨.obuf mv,(3:Nat)⟩))),(1,some (.box i64 (0:Int))),(2,some (.box srd (y,()))),(3,some (.buf 30 mv (mo.take k++[mo[k]])))],4⟩) dM 8 rfl (by kernel_rfl) ?_ ?_
  .repeat'(first|exact uf|refine kv ⟨_,rfl,?_⟩ ?_|refine yD hX (zkR mo[k] y) rfl t_ ?_|refine yD hX (zkR mo[k] y) rfl (by exact pc) ?_|refine yD hX (zkR mo[k] y) rfl p3 ?_|(refine vY ?_;exact⟨rfl,⟨rfl,rfl,rfl,rfl,rfl,rfl,t_⟩,⟨rfl,rfl,rfl,rfl,t_⟩,rfl,rfl⟩))
  rw[hy, <-zN hlt];refine zaa (zab zb0 ?_);exact⟨k+1,by omega,by omega,⟨rfl,rfl,rfl,rfl,rfl,rfl,t_⟩,⟨rfl,rfl,rfl,rfl,t_⟩,rfl,rfl⟩
 have hb:¬((k:Int)<((mo.length:Nat):Int)):=hb;obtain rfl:k=mo.length:=o_;apply zan;rw[yX];refine AWP.frzL hX 0 6 ?_;refine zaa (zaa (zab zb0 ?_ (hp:=by exact hs)));refine zak (Y':=⟨[(0,⟨bs,x0⟩),(2,⟨.hptr,((0:Nat),(0:Nat))⟩),(3,⟨.optr i64,⟨1,i64,.here⟩⟩),(5,⟨bs,x0⟩),(6,⟨i64,(0:Int)⟩)],[(0,some (.hbox 35 (rdS ⟨.slice nd,ru⟩ mi le zo ga fo ⟨.slice mv,mo⟩))),(1,some (.box i64 (0:Int)))],3⟩) ⟨⟨rfl,rfl,rfl,congrArg (λz=>(⟨bs,z⟩:V)) hx0.symm,rfl,t_⟩,⟨rfl,rfl,t_⟩,rfl,rfl⟩ ?_;refine zaa (zaa (zab zb0 ?_ (hp:=by exact⟨λ_=>by first|exact⟨rfl,rfl⟩|exact⟨rfl,rfl,rfl⟩|exact⟨rfl,rfl,rfl,rfl⟩,λh=>h,λh=>h⟩)));refine zae rfl (λhb=>?_) (λ_=>?_)
 .cases (show false=true from hb)
 apply zaf;refine zaa (zaa (zab zb0 ?_));exact zC ⟨.inr rfl,D2 rfl⟩
section
variable {P:zA}{K:Kn}{w0:zj}{X:Ownr}{n:Nat}{Y:AS}{Q:Exit->AS->Prop}{ops:Array Oper}
theorem Sim.pinW(k:Nat){U:Nat->zi}{a:Act}{w:zj}(hs:Sim w0 X n Y U a w)(hX:X.Ok w0)(x6:Nat.ble X.K k=true)(hb:zcX Y.E k=true)(x4:Nat.ble k Y.nx=true){c:Code}(h:∀(X':Ownr),X'.Ok w->X'.G=X.G->X'.K=k->X'.ρ=X.ρ->X'.D=X.D->(∀g,X'.R g->w0.heap.size<=g\/X.R g)->(∀i,i<k->zai (U i)=some (X'.fix i))->Sim w X' n Y U a w->AWP P w X' n c Y Q):c.wpIn (zcP X.ρ) 0 P (λe a' w'=>∃Y' U',Sim w0 X n Y' U' a' w'/\Q e Y') a w:=by
 have x6:=zb x6;have x4:=zb x4
 let Y0:Ownr:={ X with K:=k,fix:=zhc U,B:=λg=>∃i o,zq Y.E i=some o/\zai (U i)=some g }
 have x3:∀i,i<k->∃o,zq Y.E i=some o/\o.isBuf=false/\zai (U i)=some (zhc U i):=λi hi=>zhj (F:=Y.F) (E:=Y.E) (nx:=Y.nx) hs hb hi;have x8:∀g,Y0.R g->∃i o,zq Y.E i=some o/\zai (U i)=some g:=λg hg=>by
  rcases hg with ⟨i,hi,hg⟩|hg
  .
   have hg:zhc U i=g:=hg;obtain⟨o,ho,_,hf⟩:=x3 i hi;exact⟨i,o,ho,by rw[hf,hg]⟩
  .exact hg
 have x0:∀g,Y0.R g->w0.heap.size<=g\/X.R g:=λg hg=>by
  obtain⟨i,o,h1,h2⟩:=x8 g hg;exact hs.new i o g h1 h2
 have x1:∀w',Kept Y0.R w w'->Kept X.R w0 w':=λw' hk=>⟨hk.os.trans hs.bel.os,hk.tape.trans hs.bel.tape,hk.output.trans hs.bel.output,zL hs.bel.size hk.size,λg x9 hn=>by
  have xc:=zF x9 hs.bel.size;rw[hk.block g xc λhy=>by
   rcases x0 g hy with h1|h1
   .omega
   .exact hn h1]
  exact hs.bel.block g x9 hn⟩
 have x7:Y0.Ok w:=by
  refine⟨λg hg=>⟨zF (hX.1 g hg).1 hs.bel.size,λhy=>?_⟩,λg hg=>?_,λw' hk=>hX.2.2 w' (x1 w' hk)⟩
  .have h1:=hX.1 g hg;rcases x0 g hy with h2|h2
   .omega
   .exact h1.2 h2
  .obtain⟨i,o,h1,h2⟩:=x8 g hg;exact((hs.own i o h1).block_lt h2).2
 have x2:Sim w Y0 n Y U a w:=⟨hs.sz,hs.df,jw _ _,hs.fr,hs.own,λi o g h1 h2=>.inr (.inr ⟨i,o,h1,h2⟩),hs.inj,hs.lt,⟨x4,λi x5=>by
  obtain⟨o,ho,xd,hf⟩:=x3 i x5;exact⟨hf,λo' xa=>by rw[ho]at xa;cases xa;exact xd⟩⟩,hs.hb,hs.hE⟩
 have xb:∀i,i<X.K->Y0.fix i=X.fix i:=λi hi=>by
  obtain⟨o,ho,_,hf⟩:=x3 i o_;have h2:=(hs.fix.2 i hi).1;rw[hf]at h2;exact yP h2
 refine zT (h Y0 x7 rfl rfl rfl rfl x0 (λi hi=>by obtain⟨o,_,_,hf⟩:=x3 i hi;exact hf) x2 U a w x2) λe a' w'⟨Y',U',h1,h2⟩=>⟨Y',U',?_,h2⟩;exact⟨h1.sz,h1.df,x1 w' h1.bel,h1.fr,h1.own,λi o g h3 h4=>by
  rcases h1.new i o g h3 h4 with h5|h5
  .exact .inl (zL hs.bel.size h5)
  .exact x0 g h5,h1.inj,h1.lt,⟨zL x6 h1.fix.1,λi x5=>by
   have h3:=h1.fix.2 i (by show i<k;omega);exact⟨h3.1.trans (by rw[xb i x5]),h3.2⟩⟩,h1.hb,h1.hE⟩
end
def pB(g:Nat):zi:=.pointer (some ⟨g,0,none⟩)
theorem OObj.under.up{o:OObj}{k k':Nat}(h:o.under k)(hk:k<=k'):o.under k':=λvs e v hv=>zL (h vs e v hv) hk
section
variable {P:zA}{w0 w W:zj}{X:Ownr}{n:Nat}{F F':Frame}{E:Owns}{nx:Nat}{U:Nat->zi}{a a':Act}
theorem Sim.add3(h:Sim w0 X n ⟨F,E,nx⟩ U a w)(hK:X.K=0)(hb:xW w.heap.size w W){g2 g3 g4:Nat}(d2:w.heap.size<=g2)(d3:w.heap.size<=g3)(d4:w.heap.size<=g4)(xh:g2≠g3)(xi:g2≠g4)(xg:g3≠g4){o2 o3 o4:OObj}(x8:okE (λi=>zO i nx) (λi=>zO i nx) E=true)
  (hr:∀O U',(∀i,i<nx->U' i=U i)->Keeps w W (OSet X E U) O->OwnRep W O U' 0 (pB g2) o2/\OwnRep W O U' 0 (pB g3) o3/\OwnRep W O U' 0 (pB g4) o4\/¬(U' nx=pB g2/\U' (nx+1)=pB g3/\U' (nx+2)=pB g4)) (hu:o2.under (nx+3)/\o3.under (nx+3)/\o4.under (nx+3))
  (xc:a'.tmps.size=n) (x9:a'.defers=X.D) (hf:∀O U',(∀i,i<nx->U' i=U i)->U' nx=pB g2->U' (nx+1)=pB g3->U' (nx+2)=pB g4->Keeps w W (OSet X E U) O->∀s,RepV W O U' (zr F' s).t (zr F' s).x (a'.tmps.getD s undef)) (xf:bndB (nx+3) F'=true):
  ∃U',(U' nx=pB g2/\U' (nx+1)=pB g3/\U' (nx+2)=pB g4)/\Sim w0 X n ⟨F',(nx,some o2)::(nx+1,some o3)::(nx+2,some o4)::E,nx+3⟩ U' a' W:=by
 obtain⟨U',x2⟩:∃U':Nat->zi,U'=λi=>if i=nx then pB g2 else if i=nx+1 then pB g3 else if i=nx+2 then pB g4 else U i:=⟨_,rfl⟩
 have b0:∀i,i<nx->U' i=U i:=λi hi=>by rw[x2];show(if i=nx then _ else _)=_;rw[if_neg o_,if_neg o_,if_neg o_]
 have b2:U' nx=pB g2:=by rw[x2];show(if nx=nx then _ else _)=_;rw[if_pos rfl]
 have b3:U' (nx+1)=pB g3:=by rw[x2];show(if nx+1=nx then _ else _)=_;rw[if_neg o_,if_pos rfl]
 have b4:U' (nx+2)=pB g4:=by rw[x2];show(if nx+2=nx then _ else _)=_;rw[if_neg o_,if_neg o_,if_pos rfl]
 clear x2
 let E':Owns:=(nx,some o2)::(nx+1,some o3)::(nx+2,some o4)::E
 have x3:∀i o,zq E' i=some o->(i=nx/\o=o2)\/(i=nx+1/\o=o3)\/(i=nx+2/\o=o4)\/(i<nx/\zq E i=some o):=λi o hg=>by
  have hg:zq ((nx,some o2)::(nx+1,some o3)::(nx+2,some o4)::E) i=some o:=hg;rw[zag]at hg;split at hg
  .rename_i e;cases hg;exact .inl ⟨e.symm,rfl⟩
  rw[zag]at hg;split at hg
  .rename_i e;cases hg;exact .inr (.inl ⟨e.symm,rfl⟩)
  rw[zag]at hg;split at hg
  .rename_i e;cases hg;exact .inr (.inr (.inl ⟨e.symm,rfl⟩))
  exact .inr (.inr (.inr ⟨h.lt i o hg,hg⟩))
 have x7:∀i,i<nx->zq E' i=zq E i:=λi hi=>by
  show zq ((nx,some o2)::(nx+1,some o3)::(nx+2,some o4)::E) i=_;rw[zag,if_neg o_,zag,if_neg o_,zag,if_neg o_]
 have x4:∀i o g,zq E' i=some o->zai (U' i)=some g->(i=nx/\g=g2)\/(i=nx+1/\g=g3)\/(i=nx+2/\g=g4)\/(i<nx/\zq E i=some o/\zai (U i)=some g/\g<w.heap.size):=λi o g hg x0=>by
  rcases x3 i o hg with ⟨rfl,rfl⟩|⟨rfl,rfl⟩|⟨rfl,rfl⟩|⟨hi,hgo⟩
  .rw[b2]at x0;cases x0;exact .inl ⟨rfl,rfl⟩
  .rw[b3]at x0;cases x0;exact .inr (.inl ⟨rfl,rfl⟩)
  .rw[b4]at x0;cases x0;exact .inr (.inr (.inl ⟨rfl,rfl⟩))
  .rw[b0 i hi]at x0;exact .inr (.inr (.inr ⟨hi,hgo,x0,((h.own i o hgo).block_lt x0).2⟩))
 have x1:Keeps w W (OSet X E U) (OSet X E' U'):=.of_below hb λg hg x6=>by
  rcases x6 with x6|⟨i,o,h1,h2⟩
  .exact .inl x6
  .rcases x4 i o g h1 h2 with ⟨_,rfl⟩|⟨_,rfl⟩|⟨_,rfl⟩|⟨_,h3,h4,_⟩
   .omega
   .omega
   .omega
   .exact .inr ⟨i,o,h3,h4⟩
 have x5:=(hr _ U' b0 x1).resolve_right λhn=>hn ⟨b2,b3,b4⟩;have xa:=h.bel.size;refine⟨U',⟨b2,b3,b4⟩,xc,x9,h.bel.then hb,hf _ U' b0 b2 b3 b4 x1,λi o hg=>?_,λi o g hg x0=>?_,λi j oi oj hi hj xb g xe xd=>?_,λi o hg=>?_,⟨by rw[hK];exact zk _,λi hi=>by rw[hK]at hi;exact absurd hi (Nat.not_lt_zero _)⟩,λs=>zda xf s,λi o hg=>?_⟩
 .rcases x3 i o hg with ⟨rfl,rfl⟩|⟨rfl,rfl⟩|⟨rfl,rfl⟩|⟨hi,hgo⟩
  .rw[b2];exact x5.1
  .rw[b3];exact x5.2.1
  .rw[b4];exact x5.2.2
  .rw[b0 i hi];have h1:=(h.own i o hgo).keep x1 λg hg=>hb.block g ((h.own i o hgo).block_lt hg).2;exact OwnRep.convO (p:=λi=>zO i nx) (q:=λi=>zO i nx) (λj hj=>by rw[b0 j (by simpa using hj)]) (λj hj=>b0 j (by simpa using hj)) (zgO x8 hgo) h1
 .rcases x4 i o g hg x0 with ⟨_,rfl⟩|⟨_,rfl⟩|⟨_,rfl⟩|⟨_,h3,h4,_⟩
  .exact .inl o_
  .exact .inl o_
  .exact .inl o_
  .exact h.new i o g h3 h4
 .have h1:=x4 i oi g hi xe;have h2:=x4 j oj g hj xd;rcases h1 with ⟨e1,f1⟩|⟨e1,f1⟩|⟨e1,f1⟩|⟨e1,f1,f2,f3⟩<;>rcases h2 with ⟨e2,k1⟩|⟨e2,k1⟩|⟨e2,k1⟩|⟨e2,k1,k2,k3⟩<;>first|omega|exact h.inj i j oi oj f1 k1 xb g f2 k2
 .rcases x3 i o hg with ⟨hi,_⟩|⟨hi,_⟩|⟨hi,_⟩|⟨hi,_⟩<;>(show i<nx+3;omega)
 .rcases x3 i o hg with ⟨_,rfl⟩|⟨_,rfl⟩|⟨_,rfl⟩|⟨hi,hgo⟩
  .exact hu.1
  .exact hu.2.1
  .exact hu.2.2
  .exact(h.hE i o hgo).up (by show nx<=nx+3;omega)
end
section
attribute [local go_sem] Oper.semAt_some
def clT(f:yR)(g4 g2:Nat):zi:=.func (.func f) #[] #[pB g4,pB g2]
theorem zjq{P:zA}{w:zj}{a:Addr}{m:Mode}(f:Fn)(x y:Array zi):(store a (.func f x y) m).run P w=stored P w a (.func f x y) m:=run_store P w a _ m rfl
attribute [local go_sem] zjq
theorem mkFw(fn:Fn)(first cap:Array zi)(w:zj):(Instr.makeFunc fn first cap).run zf w=.ok (.func fn first cap) w:=rfl
theorem zpt{w:zj}(o:Obj){k:Nat}{x:Obj}(h:w.heap[k]? =some x):(w.alloc o).heap[k]? =some x:=((za8 w o).block _ (zv.1 h).1).trans h
theorem ztG{w:zj}(o:Obj){k:Nat}(h:w.heap.size=k):(w.alloc o).heap[k]? =some o:=by subst h;exact xK _ _
set_option maxHeartbeats 2000000 in
theorem zm0(w:zj)(A:Addr)(oa:Option Addr)(sl sc:Nat):Calls zf 32 #[.pointer (some A),.slice oa sl sc] w λe w'=>e=.returned (.tuple #[pB (w.heap.size+1),clT 66 (w.heap.size+2) w.heap.size])/\xW w.heap.size w w'/\w'.heap.size=w.heap.size+3/\w'.heap[w.heap.size]? =some (.cells #[.slice oa sl sc] 25 (0,0))/\w'.heap[w.heap.size+1]? =some (.cells #[.pointer (some A),clT 65 (w.heap.size+2) w.heap.size,.bool false] 132 (0,0))/\w'.heap[w.heap.size+2]? =some (.cells #[pB (w.heap.size+1)] 96 (0,0)):=by
 refine callsIn_wide.1 (zhE (m:=1) Tryz.func32 rfl ?_);simp only[Tryz.ntmps32,List.size_toArray,yT,jX,Nat.reduceAdd,Nat.reduceSub,Array.replicate_succ,Array.replicate_zero,List.push_toArray,List.append_toArray,qn,vH];generalize hQ:bodyPostM yU 1 zf Tryz.f32 _=Q;refine zeS (zeT (m:=1) ?_)
 gi_wp2
 refine zeS (zeT (m:=1) ?_)
 gi_wp2
 have x3:=mkFw;have x1:(((w.alloc (jh #[jZ oa sl sc] 25)).alloc (jh #[zz (some A),vn,kh false] 132)).alloc (jh #[zz (some { block:=w.heap.size+1,off:=0 })] 96)).heap.size=w.heap.size+3:=by simp
 have x0:xW w.heap.size w (((w.alloc (jh #[jZ oa sl sc] 25)).alloc (jh #[zz (some A),vn,kh false] 132)).alloc (jh #[zz (some { block:=w.heap.size+1,off:=0 })] 96)):=(((zY _ w).alloc (zu _) _).alloc (by simp) _).alloc (by simp;omega) _;have c2:(((w.alloc (jh #[jZ oa sl sc] 25)).alloc (jh #[zz (some A),vn,kh false] 132)).alloc (jh #[zz (some { block:=w.heap.size+1,off:=0 })] 96)).heap[w.heap.size]? =some (.cells #[jZ oa sl sc] 25 (0,0)):=zpt _ (zpt _ (ztG _ rfl));have c3:(((w.alloc (jh #[jZ oa sl sc] 25)).alloc (jh #[zz (some A),vn,kh false] 132)).alloc (jh #[zz (some { block:=w.heap.size+1,off:=0 })] 96)).heap[w.heap.size+1]? =some (.cells #[zz (some A),vn,kh false] 132 (0,0)):=zpt _ (ztG _ (by simp));have c4:(((w.alloc (jh #[jZ oa sl sc] 25)).alloc (jh #[zz (some A),vn,kh false] 132)).alloc (jh #[zz (some { block:=w.heap.size+1,off:=0 })] 96)).heap[w.heap.size+1+1]? =some (.cells #[zz (some ⟨w.heap.size+1,0,none⟩)] 96 (0,0)):=ztG _ (by simp);generalize (((w.alloc (jh #[jZ oa sl sc] 25)).alloc (jh #[zz (some A),vn,kh false] 132)).alloc (jh #[zz (some { block:=w.heap.size+1,off:=0 })] 96))=W at *;have d4:W.cell? ⟨w.heap.size+1+1,0,none⟩=some (.pointer (some ⟨w.heap.size+1,0,none⟩)):=by simp[qd,c4]
 have d3:W.cell? ⟨w.heap.size+1,1,none⟩=some .nilFunc/\W.frozen? ⟨w.heap.size+1,1,none⟩=false:=by simp[qd,World.frozen?,c3]
 refine zeS (zeT (m:=1) ?_)
 gi_wp2
 have n2:(W.setCell ⟨w.heap.size+1,1,none⟩ (clT 65 (w.heap.size+1+1) w.heap.size)).heap[w.heap.size]? =some (.cells #[jZ oa sl sc] 25 (0,0)):=(wC W ⟨w.heap.size+1,1,none⟩ _ w.heap.size (by show w.heap.size≠w.heap.size+1;omega)).trans c2;have n4:(W.setCell ⟨w.heap.size+1,1,none⟩ (clT 65 (w.heap.size+1+1) w.heap.size)).heap[w.heap.size+1+1]? =some (.cells #[zz (some ⟨w.heap.size+1,0,none⟩)] 96 (0,0)):=(wC W ⟨w.heap.size+1,1,none⟩ _ (w.heap.size+1+1) (by show w.heap.size+1+1≠w.heap.size+1;omega)).trans c4;have n3:(W.setCell ⟨w.heap.size+1,1,none⟩ (clT 65 (w.heap.size+1+1) w.heap.size)).heap[w.heap.size+1]? =some (.cells #[zz (some A),clT 65 (w.heap.size+1+1) w.heap.size,kh false] 132 (0,0)):=by
  obtain⟨x2,hk⟩:=zv.1 c3;show(W.heap.modify (w.heap.size+1) _)[w.heap.size+1]? =_;rw[Array.getElem?_eq_getElem (by rw[Array.size_modify];exact x2),Array.getElem_modify_self,hk];rfl
 have nb:xW w.heap.size w (W.setCell ⟨w.heap.size+1,1,none⟩ (clT 65 (w.heap.size+1+1) w.heap.size)):=⟨x0.os,x0.tape,x0.output,by simpa [World.setCell] using x0.size,λk hk=>(wC W ⟨w.heap.size+1,1,none⟩ _ k (by show k≠w.heap.size+1;omega)).trans (x0.block k hk)⟩;have ns:(W.setCell ⟨w.heap.size+1,1,none⟩ (clT 65 (w.heap.size+1+1) w.heap.size)).heap.size=w.heap.size+3:=by simpa [World.setCell] using x1
 unfold clT pB at n2 n3 n4 nb ns;generalize x4:W.setCell _ _=W' at *;have d5:W'.cell? ⟨w.heap.size+1+1,0,none⟩=some (.pointer (some ⟨w.heap.size+1,0,none⟩)):=by simp[qd,n4]
 refine zeS (zeT (m:=1) ?_)
 gi_wp2
 refine zeT (m:=1) (wpIn_ret ?_);rw[<-hQ];refine⟨.tuple #[pB (w.heap.size+1),clT 66 (w.heap.size+2) w.heap.size],?_,rfl,nb,ns,n2,n3,n4⟩;simp[results,Tryz.f32,go_sem,pB,clT]
end
def zc1(fx:Nat->Nat):zi:=clT 65 (fx 4) (fx 2)
def zqL(fx:Nat->Nat):zi:=clT 66 (fx 4) (fx 2)
def ltZ:lt.T:=zaD lt
def rdO(fx:Nat->Nat)(b:List UInt8):Owns:=[(2,some (.box bs b)),(3,some (.hbox 132 [⟨.hptr,((1:Nat),(0:Nat))⟩,⟨.lit,zc1 fx⟩,⟨.bool,false⟩])),(4,some (.hbox 96 [⟨.hptr,((3:Nat),(0:Nat))⟩]))]
theorem zkB{w0 w:zj}{X:Ownr}{n:Nat}{Y:AS}{U:Nat->zi}{a:Act}(h:Sim w0 X n Y U a w){x:zK}{i k:Nat}(hx:evO Y.F x=⟨.hptr,(i,k)⟩):∃g,zai (U i)=some g/\a.eval x=.pointer (some ⟨g,k,none⟩):=by
 have h1:=h.ops x;rw[show evO Y.F x=_ from hx]at h1;exact h1
theorem zud{w0 w:zj}{X:Ownr}{n:Nat}{Y:AS}{U:Nat->zi}{a:Act}(h:Sim w0 X n Y U a w){x:zK}{b:List UInt8}(hx:evO Y.F x=⟨bs,b⟩):∃oa sl sc,a.eval x=.slice oa sl sc/\RepC w (OSet X Y.E U) bs b [.slice oa sl sc]:=by
 have h1:=h.ops x;rw[show evO Y.F x=_ from hx]at h1;obtain⟨v,e,h2⟩:=h1;have e:a.eval x=v:=by simpa using e
 subst e;rcases h2 with ⟨e,A,c,e2,hc⟩|⟨g,off,c,vs,e2,h3⟩
 .exact⟨A,0,c,e2,⟨_,rfl,.inl ⟨e,A,c,rfl,hc⟩⟩⟩
 .exact⟨_,_,c,e2,⟨_,rfl,.inr ⟨g,off,c,vs,rfl,h3⟩⟩⟩
theorem zuk{a:Act}{d s n:Nat}{v:zi}(hz:a.tmps.size=n)(hd:d<n)(h:d≠s):(a.put (some d) v).tmps.getD s undef=a.tmps.getD s undef:=by rw[qq (by rw[hz];exact hd),if_neg h]
theorem zul{a:Act}{d n:Nat}{v:zi}(hz:a.tmps.size=n)(hd:d<n):(a.put (some d) v).tmps.getD d undef=v:=by rw[qq (by rw[hz];exact hd),if_pos rfl]
theorem zuj{a:Act}{d n:Nat}{v:zi}(hz:a.tmps.size=n):(a.put (some d) v).tmps.size=n:=by rw[jm];exact hz
section
variable {w0:zj}{X:Ownr}{Q:Exit->AS->Prop}{ops:Array Oper}
set_option maxHeartbeats 1000000 in
theorem zn8(hX:X.Ok w0)(hK:X.K=0)(xz:X.ρ=none){id:Nat}{c:Code}{b:List UInt8}{E:Owns}{o1 o2 o3 o4 o5 o6 o7:Oper}{ts:Array zy}(xa:ops.toList=[o1,o2,o3,o4,o5,o6,o7])
  (h1:o1.op=.move (.tmp 0)) (h2:o2.op=.call ⟨.value (.func 32),#[.tmp 4,.tmp 13],ts⟩) (h3:o3.op=.move (.tmp 14)) (h4:o4.op=.extract (.tmp 12) 0) (h5:o5.op=.extract (.tmp 12) 1) (h6:o6.op=.assign (.tmp 15)) (h7:o7.op=.assign (.tmp 16))
  (e1:o1.dst=some 13) (e2:o2.dst=some 14) (e3:o3.dst=some 12) (e4:o4.dst=some 15) (e5:o5.dst=some 16) (e6:o6.dst=some 5) (e7:o7.dst=some 6)
  (g1:o1.guard=none) (g2:o2.guard=none) (g3:o3.guard=none) (g4:o4.guard=none) (g5:o5.guard=none) (g6:o6.guard=none) (g7:o7.guard=none)
  (xk:okE (λi=>zO i 2) (λi=>zO i 2) E=true) (xe:zcX E 2=true)
  (h:∀(w1:zj)(X1:Ownr),X1.Ok w1->X1.G=X.G->X1.K=5->X1.ρ=X.ρ->X1.D=X.D->AWP zf w1 X1 79 c ⟨[(0,⟨bs,b⟩),(2,⟨.optr lt,⟨0,lt,.here⟩⟩),(4,⟨.hptr,((1:Nat),(0:Nat))⟩),(5,⟨.hptr,((3:Nat),(0:Nat))⟩),(6,⟨.lit,zqL X1.fix⟩)],rdO X1.fix b++E,5⟩ Q):
  AWP zf w0 X 79 (.seq (.region id ops false) c) ⟨[(0,⟨bs,b⟩),(2,⟨.optr lt,⟨0,lt,.here⟩⟩),(4,⟨.hptr,((1:Nat),(0:Nat))⟩)],E,2⟩ Q:=by
 intro U a w hs;have z0:=hs.sz;obtain⟨oa,sl,sc,v0,r0⟩:=zud hs (x:=.tmp 0) (b:=b) rfl;obtain⟨gA,bA,v4⟩:=zkB hs (x:=.tmp 4) rfl;refine wpIn_seq (wpIn_region_list ?_);rw[xa];have sz:∀{x y:Act}{d:Nat}{v:zi},x.put (some d) v=y->x.tmps.size=79->y.tmps.size=79:=λe hz=>by rw[<-e];exact zuj hz
 have ne:∀{x y:Act}{d:Nat}{v:zi},x.put (some d) v=y->x.tmps.size=79->d<79->∀s,d≠s->y.tmps.getD s undef=x.tmps.getD s undef:=λe hz hd s hs=>by rw[<-e];exact zuk hz hd hs
 have eq:∀{x y:Act}{d:Nat}{v:zi},x.put (some d) v=y->x.tmps.size=79->d<79->y.tmps.getD d undef=v:=λe hz hd=>by rw[<-e];exact zul hz hd
 have x1:∀{x y:Act}{d:Nat}{v:zi},x.put (some d) v=y->y.defers=x.defers:=λe=>by rw[<-e,Act.put_defers]
 refine wpListIn_plain g1 λN1 xy=>za2 (λc e=>by rw[h1]at e;cases e) (zba (u:=.slice oa sl sc) (w':=w) ?_ (xy _ _ ?_))
 .unfold execOp;simp only[h1];exact congrArg (λz=>gM (uN z) w) v0
 rw[e1];generalize x7:a.put (some 13) (.slice oa sl sc)=a1;have z1:=sz x7 z0;refine wpListIn_plain g2 λN2 xt=>za2 (λc e=>by rw[h2]at e;cases e) (zel h2 Tryz.call32 ?_);have i4:a1.eval (.tmp 4)=.pointer (some ⟨gA,0,none⟩):=(ne x7 z0 d_ 4 d_).trans v4;have xi:a1.eval (.tmp 13)=.slice oa sl sc:=eq x7 z0 d_;show Calls _ _ #[a1.eval (.tmp 4),a1.eval (.tmp 13)] w _;rw[i4,xi];refine(zm0 w ⟨gA,0,none⟩ oa sl sc).mono ?_;rintro e w5 ⟨rfl,nb,ns,n2,n3,n4⟩;refine⟨_,rfl,xt _ _ ?_⟩;rw[e2];obtain⟨cl,xg⟩:∃cl,cl=clT 66 (w.heap.size+2) w.heap.size:=⟨_,rfl⟩;rw[<-xg];obtain⟨pp,xf⟩:∃pp,pp=pB (w.heap.size+1):=⟨_,rfl⟩;rw[<-xf];generalize x8:a1.put (some 14) (Value.tuple #[pp,cl])=a2;have z2:=sz x8 z1;refine wpListIn_plain g3 λN3 xw=>za2 (λc e=>by rw[h3]at e;cases e) (zba (u:=.tuple #[pp,cl]) (w':=w5) ?_ (xw _ _ ?_))
 .unfold execOp;simp only[h3];exact congrArg (λz=>gM (uN z) w5) (eq x8 z1 d_)
 rw[e3];generalize x9:a2.put (some 12) (Value.tuple #[pp,cl])=a3;have z3:=sz x9 z2;have xh:a3.eval (.tmp 12)=.tuple #[pp,cl]:=eq x9 z2 d_;refine wpListIn_plain g4 λN4 xj=>za2 (λc e=>by rw[h4]at e;cases e) (zba (u:=pp) (w':=w5) ?_ (xj _ _ ?_))
 .unfold execOp;simp only[h4];refine za7 ?_;rw[xh];rfl
 rw[e4];generalize x3:a3.put (some 15) pp=a4;have z4:=sz x3 z3;have xb:a4.eval (.tmp 12)=.tuple #[pp,cl]:=(ne x3 z3 d_ 12 d_).trans xh;refine wpListIn_plain g5 λN5 xu=>za2 (λc e=>by rw[h5]at e;cases e) (zba (u:=cl) (w':=w5) ?_ (xu _ _ ?_))
 .unfold execOp;simp only[h5];refine za7 ?_;rw[xb];rfl
 rw[e5];generalize x6:a4.put (some 16) cl=a5;have z5:=sz x6 z4;have xq:=(ne x6 z4 d_ 15 d_).trans (eq x3 z3 d_);refine wpListIn_plain g6 λN6 xo=>za2 (λc e=>by rw[h6]at e;cases e) (zba (u:=pp) (w':=w5) ?_ (xo _ _ ?_))
 .unfold execOp;simp only[h6];exact congrArg (λz=>gM (uN z) w5) xq
 rw[e6];generalize x5:a5.put (some 5) pp=a6;have z6:=sz x5 z5;have xv:=(ne x5 z5 d_ 16 d_).trans (eq x6 z4 d_);refine wpListIn_plain g7 λN7 xp=>za2 (λc e=>by rw[h7]at e;cases e) (zba (u:=cl) (w':=w5) ?_ (xp _ _ ?_))
 .unfold execOp;simp only[h7];exact congrArg (λz=>gM (uN z) w5) xv
 rw[e7];generalize x4:a6.put (some 6) cl=a7;have z7:=sz x4 z6;have k6:=eq x4 z6 d_;have xd:=(ne x4 z6 d_ 5 d_).trans (eq x5 z5 d_);have x2:∀s,s≠13->s≠14->s≠12->s≠15->s≠16->s≠5->s≠6->a7.tmps.getD s undef=a.tmps.getD s undef:=λs c1 c2 c3 c4 c5 c6 c7=>
  (ne x4 z6 d_ s (xI c7)).trans ((ne x5 z5 d_ s (xI c6)).trans ((ne x6 z4 d_ s (xI c5)).trans ((ne x3 z3 d_ s (xI c4)).trans ((ne x9 z2 d_ s (xI c3)).trans ((ne x8 z1 d_ s (xI c2)).trans (ne x7 z0 d_ s (xI c1)))))))
 have xn:=((x1 x4).trans ((x1 x5).trans ((x1 x6).trans ((x1 x3).trans ((x1 x9).trans ((x1 x8).trans (x1 x7))))))).trans hs.df;rw[xg]at k6;rw[xf]at xd;have hq:∀s:Nat,(λi=>zO i 2) s=true->s<2:=λs hs=>by simpa using hs
 have xc:∀(O:Nat->Prop)(U':Nat->zi),(∀i,i<2->U' i=U i)->Keeps w w5 (OSet X E U) O->∀s v,zr ([(0,⟨bs,b⟩),(2,⟨.optr lt,⟨0,lt,.here⟩⟩),(4,⟨.hptr,((1:Nat),(0:Nat))⟩)]:List (Nat×V)) s=v->okV (λi=>zO i 2) (λi=>zO i 2) v=true->RepV w5 O U' v.t v.x (a.tmps.getD s undef):=λO U' x0 hk s v hv xm=>by
  have h1:=hs.fr s;rw[show zr (AS.mk _ E 2).F s=v from hv]at h1;exact RepV.conv (p:=λi=>zO i 2) (q:=λi=>zO i 2) (λj hj=>by rw[x0 j (hq j hj)]) (λj hj=>x0 j (hq j hj)) _ _ _ xm (RepV.keep hk _ _ _ h1)
 refine Exists.elim (Sim.add3 (F':=[(0,⟨bs,b⟩),(2,⟨.optr lt,⟨0,lt,.here⟩⟩),(4,⟨.hptr,((1:Nat),(0:Nat))⟩),(5,⟨.hptr,((3:Nat),(0:Nat))⟩),(6,⟨.lit,clT 66 (w.heap.size+2) w.heap.size⟩)]) (a':=a7) (g2:=w.heap.size) (g3:=w.heap.size+1) (g4:=w.heap.size+2) (o2:=.box bs b) (o3:=.hbox 132 [⟨.hptr,((1:Nat),(0:Nat))⟩,⟨.lit,clT 65 (w.heap.size+2) w.heap.size⟩,⟨.bool,false⟩]) (o4:=.hbox 96 [⟨.hptr,((3:Nat),(0:Nat))⟩])
  hs hK nb (zu _) o_ o_ o_ o_ o_ xk (λO U' x0 hk=>?_) ⟨λvs e=>(by cases e),λvs e v hv=>?_,λvs e v hv=>?_⟩ z7 xn (λO U' x0 xe xr y0 hk=>?_) rfl) λU' xl=>?_
 .by_cases hc:U' 2=pB w.heap.size/\U' (2+1)=pB (w.heap.size+1)/\U' (2+2)=pB (w.heap.size+2)
  .refine .inl ⟨⟨_,_,_,rfl,zk _,n2,RepC.keep hk _ _ _ r0⟩,⟨_,_,rfl,zk _,n3,_,_,rfl,rfl,⟨gA,?_,rfl⟩,_,_,rfl,rfl,rfl,_,_,rfl,rfl,rfl,rfl⟩,⟨_,_,rfl,zk _,n4,_,_,rfl,rfl,⟨w.heap.size+1,?_,rfl⟩,rfl⟩⟩
   .rw[x0 1 d_];exact bA
   .
    rw[hc.2.1];rfl
  .exact .inr hc
 .cases e;simp only[zE,zU,or_false]at hv;rcases hv with rfl|rfl|rfl
  .show 1+1<=2+3;decide
  .exact zk _
  .exact zk _
 .cases e;simp only[zE,zU,or_false]at hv;subst hv;decide
 .refine zcn ?_ (zcn ?_ (zcn ?_ (zcn ?_ (zcn ?_ ziv))))
  .rw[x2 0 d_ d_ d_ d_ d_ d_ d_];exact xc O U' x0 hk 0 _ rfl rfl
  .rw[x2 2 d_ d_ d_ d_ d_ d_ d_];exact xc O U' x0 hk 2 _ rfl rfl
  .rw[x2 4 d_ d_ d_ d_ d_ d_ d_];exact xc O U' x0 hk 4 _ rfl rfl
  .rw[xd];refine⟨w.heap.size+1,?_,rfl⟩;rw[xr];rfl
  .rw[k6];rfl
 obtain⟨⟨b2,b3,b4⟩,xs⟩:=xl;have xx:=xe;refine Sim.pinW 5 xs hX (by rw[hK];rfl) xx rfl λX' c1 c2 c3 c4 c5 c6 c7 c8=>?_;have f2:X'.fix 2=w.heap.size:=by have:=c7 2 d_;rw[b2]at this;exact(yP this).symm
 have f4:X'.fix 4=w.heap.size+2:=by have:=c7 4 d_;rw[show U' 4=_ from b4]at this;exact(yP this).symm
 have h9:=h w5 X' c1 c2 c3 c4 c5;unfold zqL rdO zc1 at h9;rw[f2,f4]at h9;exact h9
end
theorem zeE(o:Oper)(x:zK)(h:o.op=.load 96 x):OpEq zf o { o with op:=.load 3 x }:=by
 refine⟨rfl,rfl,rfl,λev w=>?_⟩;unfold execOp;simp only[h];cases ev x<;>simp[go_sem]
theorem zhe(o:Oper)(x:zK)(h:o.op=.load 130 x):OpEq zf o { o with op:=.load 3 x }:=by
 refine⟨rfl,rfl,rfl,λev w=>?_⟩;unfold execOp;simp only[h];cases ev x<;>simp[go_sem]
theorem eqR0(o:Oper)(x:zK)(h:o.op=.fieldAddr 132 x 0):OpEq zf o { o with op:=.fieldAddr 30 x 0 }:=by
 refine⟨rfl,rfl,rfl,λev w=>?_⟩;unfold execOp;simp only[h];cases ev x<;>simp[go_sem]
theorem eqR1(o:Oper)(x:zK)(h:o.op=.fieldAddr 132 x 1):OpEq zf o { o with op:=.fieldAddr 30 x 1 }:=by
 refine⟨rfl,rfl,rfl,λev w=>?_⟩;unfold execOp;simp only[h];cases ev x<;>simp[go_sem]
theorem eqR2(o:Oper)(x:zK)(h:o.op=.fieldAddr 132 x 2):OpEq zf o { o with op:=.fieldAddr 30 x 2 }:=by
 refine⟨rfl,rfl,rfl,λev w=>?_⟩;unfold execOp;simp only[h];cases ev x<;>simp[go_sem]
end Go.Proofs.YtdjjmoenpjlfeaaGreatDoor
