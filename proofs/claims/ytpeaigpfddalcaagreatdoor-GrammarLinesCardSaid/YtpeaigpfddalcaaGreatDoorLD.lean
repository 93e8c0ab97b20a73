/-
  Texts of this claim, joined: what the statement's proof uses.
-/
import Derived.Test.YtpeaigpfddalcaaGreatDoorLC
set_option linter.unusedSimpArgs false
set_option linter.unusedVariables false
set_option maxRecDepth 100000
open Array renaming toList -> vC
open BitVec renaming ofInt -> yI,ofNat -> yb
open Bool renaming and_eq_false_iff -> jq,and_eq_true -> zd,and_false -> qc,eq_false_iff -> qi,eq_iff_iff -> yu,false_and -> vU,false_ne_true -> yN,false_or -> xv,not_eq_false' -> xg,not_eq_true' -> zw,or_eq_false_iff -> xN,or_eq_true -> zZ,or_false -> xY,or_true -> xZ,true_or -> qq
open Go renaming FuncId -> zP,Operand -> zG,TypeId -> zp,Value -> zh,World -> zj
open Go.Ending renaming returned -> u6
open Go.Extern.BytealgIndexByte renaming indexByte -> uo
open Go.Lib renaming decDigits -> yq,indexByte -> xi
open Go.Operand renaming const -> wi
open Go.Proofs.YtpeaigpfddalcaaGreatDoor renaming CtrOk -> yM
open Go.Proofs.YtpeaigpfddalcaaGreatDoor.AL renaming all -> zV,nil -> yf,own -> ym,step -> jH,take -> yh
open Go.Proofs.YtpeaigpfddalcaaGreatDoor.AWP renaming frz -> qW,go -> za,len -> vp,loop -> yU,ret -> zq,via -> xD
open Go.Proofs.YtpeaigpfddalcaaGreatDoor.OpEq renaming refl -> xz
open Go.Proofs.YtpeaigpfddalcaaGreatDoor.Ownr renaming plain -> ql
open Go.Proofs.YtpeaigpfddalcaaGreatDoor.StepA renaming eval -> xe
open Go.Proofs.YtpeaigpfddalcaaGreatDoor.Tok renaming cls -> zK,text -> zL
open Go.Proofs.YtpeaigpfddalcaaGreatDoor.Tr renaming len_flat -> xo
open Go.Utf8 renaming decode -> kU
open Go.Value renaming int -> yF
open Go.Value.agg renaming inj -> km
open Int renaming le_refl -> xC,natCast_nonneg -> zi,toNat_natCast -> zH,toNat_of_nonneg -> qm,zero_add -> uB
open List renaming all_eq_true -> zT,any_eq_false -> uD,any_eq_true -> uN,append_assoc -> zs,append_nil -> zI,cons_append -> xw,drop_left -> qx,drop_length -> jI,findIdx_getElem -> kT,foldl_append -> js,getD_eq_getElem?_getD -> zQ,getElem?_append_right -> qB,getElem?_eq_getElem -> yd,getElem?_set -> uC,getElem_mem -> xW,length -> zg,length_append -> zf,length_cons -> zt,length_nil -> zY,length_pos_iff -> qn,length_replicate -> xF,length_singleton -> yp,length_take -> yT,mem_append -> yz,mem_cons -> zX,mem_cons_of_mem -> yg,mem_cons_self -> zR,mem_of_mem_take -> qS,mem_range -> yH,mem_singleton -> zu,nil_append -> yB,range -> yV,replicate -> zr,replicate_append_replicate -> qV,takeWhile_append_of_pos -> jg,takeWhile_cons -> jN,take_left -> xS,take_length -> yS,take_succ_cons -> vz,take_succ_eq_append_getElem -> zF
open Nat renaming add_sub_cancel -> vT,gcd -> xT,gcd_pos_of_pos_right -> kq,lcm -> jd,le_of_ble_eq_true -> zb,le_refl -> zk,le_trans -> zE,mul_div_cancel_left -> kB,not_lt_zero -> xr,zero_add -> yr,zero_le -> zm
open Option.some renaming inj -> ya
open UInt8 renaming le_iff_toNat_le -> yY,ofNat -> zS,ofNat_toNat -> kf
open Go Go.RowKit
namespace Go.Proofs.YtpeaigpfddalcaaGreatDoor
section
theorem zqY:yM Tryz.prog gmH 98 zsa:=by
 refine zar (K:=kBi) zbj Tryz.func98 rfl rfl Tryz.call98 rfl (by decide) (by intro h;cases h) ?_;rintro w0 X hX ⟨(kd:Int),⟨⟩⟩ hp;change AWP _ _ _ _ _ ⟨[(0,⟨i64,kd⟩)],[],0⟩ _;refine za (za ?_);refine zaa hX zbj rfl ?_ ?_
 ·trivial
 refine za (za ?_);refine zaa hX zbj rfl ?_ ?_
 ·trivial
 apply zac;refine yU (ι:=Nat) (fun i=>⟨[(0,⟨i64,kd⟩),(5,⟨.slice gop,opsL⟩),(6,⟨i64,(3:Int)⟩),(7,⟨i64,(i:Int)⟩)],[],0⟩) (fun i=>i≤3∧∀ j < i,opKd j≠kd) (fun i=>3 - i) 0 ⟨by omega,fun j h=>by omega⟩ ⟨⟨rfl,rfl,rfl,rfl,trivial⟩,trivial,rfl,rfl⟩ ?_;rintro i ⟨hi,hall⟩;refine za (za ?_);refine zaa hX zbj rfl ?_ ?_
 ·trivial
 apply zae;refine zaf rfl (fun hb=>?_) (fun hb=>?_)
 ·have hb:decide ((i:Int) < (3:Int))=true:=hb;have hb:=of_decide_eq_true hb;have hi3:i < 3:=by omega
  have n0:(0:Int)≤(i:Int):=by omega
  have n1:(i:Int) < ((opsL.length:Nat):Int):=by show (i:Int) < ((3:Nat):Int);omega
  apply zab;apply zae;apply zac;refine za (za ?_);refine zaa hX zbj rfl ?_ ?_
  ·exact⟨n0,n1⟩
  refine za (za ?_);refine zaa hX zbj rfl ?_ ?_
  ·trivial
  refine zaf rfl (fun hk=>?_) (fun hk=>?_)
  ·have hk:((opsL.getD ((i:Int)).toNat ([],0,())).2.1==kd)=true:=hk;have hk:=beq_iff_eq.1 hk;rw[zH]at hk;have q0:inR .i64 ((i:Int)+1):=zan (by omega) (by omega);refine za (za ?_);refine zaa hX zbj rfl ?_ ?_
   ·exact q0
   refine zq ⟨.inr rfl,zax rfl trivial rfl rfl ?_⟩;show (i:Int)+1=levS kd;rcases (show i=0∨i=1∨i=2 by omega) with rfl|rfl|rfl
   ·subst hk;rfl
   ·subst hk;rfl
   ·subst hk;rfl
  ·have hk:((opsL.getD ((i:Int)).toNat ([],0,())).2.1==kd)=false:=hk;have hk:(opsL.getD i ([],0,())).2.1≠kd:=fun e=>by
    rw[zH]at hk;rw[beq_iff_eq.2 e]at hk;cases hk
   apply zab;have q0:inR .i64 ((i:Int)+1):=zan (by omega) (by omega);refine za (za ?_);refine zaa hX zbj rfl ?_ ?_
   ·exact q0
   refine⟨i+1,⟨by omega,fun j hj=>?_⟩,by omega,⟨rfl,rfl,rfl,vI64 (by omega),trivial⟩,trivial,rfl,rfl⟩;by_cases e:j=i
   ·subst e;exact hk
   ·exact hall j (by omega)
 ·have hb:decide ((i:Int) < (3:Int))=false:=hb;have hb:=of_decide_eq_false hb;have h9:kd≠9:=fun e=>hall 0 (by omega) e.symm;have h10:kd≠10:=fun e=>hall 1 (by omega) e.symm;have h8:kd≠8:=fun e=>hall 2 (by omega) e.symm;apply zad;refine za (za ?_);refine zaa hX zbj rfl ?_ ?_
  ·repeat'(first|exact trivial|assumption|(refine⟨?_,?_⟩)|(intro _)|exact zb rfl|exact zi _|(simp_all [allP];done))
  refine zaf rfl (fun hb=>?_) (fun hb=>?_)
  ·have hb:(bif decide ((11:Int)≤kd) then decide (kd≤17) else false)=true:=hb;rw[zco,zd,decide_eq_true_iff,decide_eq_true_iff]at hb;(repeat(first|apply zae|apply zab|apply zal|apply zad|apply zac|refine zaa hX zbj rfl trivial ?_|refine zaa hX zbj rfl id ?_|refine zaa hX zbj rfl ⟨id,id⟩ ?_));refine zq ⟨.inr rfl,zax rfl trivial rfl rfl ?_⟩;show (4:Int)=levS kd;unfold levS;rw[if_neg h9,if_neg h10,if_neg h8,if_pos hb]
  ·have hb:(bif decide ((11:Int)≤kd) then decide (kd≤17) else false)=false:=hb;have hb:¬ (11≤kd∧kd≤17):=fun h=>by
    rw[zco,decide_eq_true h.1,decide_eq_true h.2]at hb;cases hb
   apply zab;(repeat(first|apply zae|apply zab|apply zal|apply zad|apply zac|refine zaa hX zbj rfl trivial ?_|refine zaa hX zbj rfl id ?_|refine zaa hX zbj rfl ⟨id,id⟩ ?_));refine zq ⟨.inr rfl,zax rfl trivial rfl rfl ?_⟩;show (5:Int)=levS kd;unfold levS;rw[if_neg h9,if_neg h10,if_neg h8,if_neg hb]
def zb2 (n:Int):List UInt8:=if n=1 then 32::zd5 else 32::zjJ
def zpK:Ctr:={ args:=[i64],pre:=fun x=>[0≤x.1,x.1≤1],res:=.str,own:=none,out:=fun x=>zb2 x.1 }
theorem zn8:yM Tryz.prog gmH 151 zpK:=by
 refine zar (K:=gmK) zak Tryz.func151 rfl rfl Tryz.call151 rfl (by decide) (by intro h;cases h) ?_;rintro w0 X hX ⟨(n:Int),⟨⟩⟩ hp;obtain⟨h0,h1⟩:0≤n∧n≤1:=hp;change AWP _ _ _ _ _ ⟨[(0,⟨i64,n⟩)],[],0⟩ _;have hlt:n < ((2:Nat):Int):=by omega
 have hlt2:n.toNat < 2:=by omega
 refine za (za ?_);refine zaa hX zak rfl ?_ ?_
 ·trivial
 refine za (za ?_);refine zaa hX zak rfl ?_ ?_
 ·exact⟨h0,hlt,hlt2⟩
 refine zq ⟨.inr rfl,zax rfl trivial rfl rfl ?_⟩;rcases (show n=0∨n=1 by omega) with rfl|rfl
 ·rfl
 ·rfl
theorem eqP0 (o:Oper) (x:zG) (h:o.op= .fieldAddr 107 x 0):OpEq Tryz.prog o { o with op:=.fieldAddr 133 x 0 }:=by
 refine⟨rfl,rfl,rfl,fun ev w=>?_⟩;unfold execOp;simp only[h];cases ev x<;>simp[go_sem]
theorem eqP1 (o:Oper) (x:zG) (h:o.op= .fieldAddr 107 x 1):OpEq Tryz.prog o { o with op:=.fieldAddr 73 x 2 }:=by
 refine⟨rfl,rfl,rfl,fun ev w=>?_⟩;unfold execOp;simp only[h];cases ev x<;>simp[go_sem]
@[reducible] def hW (args:List Ty) (pre:(bTy prT).T->Args args->List Prop) (out:(bTy prT).T->Args args->List UInt8):HCtr:=hBl prT [107] args .unit pre fun x xs=>.ok ((),(true,((x.2.1++out x xs:List UInt8),x.2.2)))
@[reducible] def wE (ty:zp) (b:Bool) (bf:List UInt8) (r:List Nd):Owns:=[(0,some (.hbox ty [adV 0 b,⟨.obuf u8,(1:Nat)⟩,⟨.slice nd,r⟩])),(1,some (.buf 5 u8 bf))]
def wQ (rs:List ResultVar) (c:HCtr) (ty:zp) (r:Except zh (c.res.T×c.self.T)) (e:Exit) (σ:AS):Prop:=zp4 gmT rs c ty e σ r
def zdz (l:List Int):List UInt8:=(l.map fun n=>32::deI n).flatten
def putS (s:List UInt8) (l:List Int):List UInt8:=s++zdz l
theorem zni (l:List Int) (n:Int):zdz (l++ [n])=zdz l++32::deI n:=by
 unfold zdz;rw[List.map_append,List.flatten_append];simp
theorem zbE {l:List Int} (h:∀ n∈l,zb1 n):(zdz l).length≤19 * l.length:=by
 induction l with
 |nil=>exact zk _
 |cons n l ih=>
  have h1:=zet (h n (zR ..)).1 (h n (zR ..)).2;have h2:=ih fun m hm=>h m (yg _ hm);show ((32::deI n)++zdz l).length≤_;rw[zf,zt,zt];omega
def kPt:Kn:={ gmK with C:=[(149,cItoa)] }
theorem zcd:KnOk Tryz.prog gmH kPt:=zak.with (.cons zs8 .nil)
def hPt:List (zP×HCtr):=[(66,cWSP)]
theorem zmn:HsOk Tryz.prog gmH hPt:=.cons zid .nil
@[reducible] def cPut:HCtr:=hW [.str,ints] (fun x xs=>[zg x.2.1+zg xs.1+19 * zg xs.2.1≤1000000000,∀ n∈xs.2.1,zb1 n]) fun x xs=>putS xs.1 xs.2.1
theorem bufU {te:zp} {x y:List UInt8} (h:x=y):some (OObj.buf te u8 x)=some (OObj.buf te u8 y):=by rw[h]
theorem zox:zaC Tryz.prog gmH 100 cPut:=by
 refine zau (K:=_) zcd Tryz.func100 rfl rfl (zcm rfl) Tryz.call100 rfl (zb rfl) (zdC prT [107]) ?_;rintro w0 ⟨G,O,K,fix,D,ρ,B⟩ ty hX hG hK hρ hD hinv ⟨(b:Bool),(bf:List UInt8),(r:List Nd),⟨⟩⟩ ⟨(s:List UInt8),(l:List Int),⟨⟩⟩ hp;obtain rfl:G=gmH:=hG;obtain rfl:K=1:=hK;obtain rfl:ρ=none:=hρ;obtain rfl:D=[]:=hD;have hI:=fun w R hR hw=>(⟨zaJ (ty:=ty) hX rfl hinv.1 (ty':=ty) w R hR hw,hinv.2⟩:bInv prT [107] w R ty);obtain⟨hlen,hnum⟩:bf.length+s.length+19 * l.length≤1000000000∧∀ n∈l,zb1 n:=hp;change AWP _ _ _ _ _ ⟨[(0,⟨.hptr,((0:Nat),(0:Nat))⟩),(1,⟨.str,s⟩),(2,⟨.slice i64,l⟩)],wE ty b bf r,2⟩ (wQ _ cPut ty (.ok ((),(true,((bf++(s++zdz l):List UInt8),(r,()))))));have hl0:bf.length+s.length≤1000000000:=by omega
 refine xD (σ':=⟨[(0,⟨.hptr,((0:Nat),(0:Nat))⟩),(2,⟨.slice i64,l⟩)],wE ty true ((bf++s:List UInt8)) r,2⟩) ?_ ?_
 ·cases b
  all_goals
   refine zai ?_;refine yh 2 hX zcd rfl trivial ?_;refine jH (eqP0 _ _ rfl) hX zcd rfl trivial ?_;refine ym 1 hX zcd zmn rfl trivial rfl rfl hl0 hI ?_;exact yf ⟨⟨rfl,rfl,trivial⟩,⟨rfl,rfl,trivial⟩,rfl,rfl⟩
 refine za (za ?_);refine zaa hX zcd rfl ?_ ?_
 ·trivial
 apply zac;refine yU (ι:=Nat) (fun i=>⟨[(0,⟨.hptr,((0:Nat),(0:Nat))⟩),(13,⟨.slice i64,l⟩),(14,⟨i64,((l.length:Nat):Int)⟩),(15,⟨i64,(i:Int)⟩)],wE ty true ((bf++s++zdz (l.take i):List UInt8)) r,2⟩) (fun i=>i≤l.length) (fun i=>l.length - i) 0 (zm _) ⟨⟨rfl,rfl,rfl,rfl,trivial⟩,⟨rfl,bufU (by show bf++s=bf++s++ [];rw[zI]),trivial⟩,rfl,rfl⟩ ?_;intro i hi;refine za (za ?_);refine zaa hX zcd rfl ?_ ?_
 ·trivial
 apply zae;refine zaf rfl (fun hb=>?_) (fun hb=>?_)
 ·have hb:decide ((i:Int) < ((l.length:Nat):Int))=true:=hb;have hb:=of_decide_eq_true hb;have hil:i < l.length:=by omega
  have n0:(0:Int)≤(i:Int):=by omega
  have hat:l.getD ((i:Int)).toNat 0=l[i]:=za1 hil;have hn:zb1 (l.getD ((i:Int)).toNat 0):=by rw[hat];exact hnum _ (xW hil)
  have hd:=zet hn.1 hn.2;have ht:zg (l.take i)≤i:=by rw[yT];omega
  have hnt:=zbE (l:=l.take i) fun n hm=>hnum n (qS hm);have hbl:zg (bf++s++zdz (l.take i):List UInt8)+zg (32::deI (l.getD ((i:Int)).toNat 0):List UInt8)≤1000000000:=by
   rw[zf,zf,zt];omega
  have hcat:1+zg (deI (l.getD ((i:Int)).toNat 0))≤maxLen:=by unfold maxLen;omega
  apply zab;apply zae;apply zac;refine za (za ?_);refine zaa hX zcd rfl ?_ ?_
  ·exact⟨n0,hb⟩
  refine AWP.mono (Q:=fun e sg=>e= .normal∧Fit sg ⟨[(0,⟨.hptr,((0:Nat),(0:Nat))⟩),(13,⟨.slice i64,l⟩),(14,⟨i64,((l.length:Nat):Int)⟩),(15,⟨i64,(i:Int)⟩)],wE ty true ((bf++s++zdz (l.take i)++(32::deI (l.getD ((i:Int)).toNat 0)):List UInt8)) r,2⟩) ?_ ?_
  ·refine AWP.ordersA dM 7 rfl (by kernel_rfl) ?_
   repeat'(first
    |exact AllN.nil
    |refine AllN.cons ⟨_,rfl,?_⟩ ?_
    |refine xe hX zcd rfl trivial ?_
    |refine xe hX zcd rfl (by exact hn) ?_
    |refine xe hX zcd rfl (by exact hcat) ?_
    |refine StepA.step (eqP0 _ _ rfl) hX zcd rfl trivial ?_
    |refine StepA.own hX zmn rfl (by exact hbl) hI ?_
    |(refine OrdA.last ?_;exact⟨rfl,⟨rfl,rfl,rfl,rfl,trivial⟩,⟨rfl,rfl,trivial⟩,rfl,rfl⟩))
  ·rintro e s' ⟨rfl,hf⟩;have q0:inR .i64 ((i:Int)+1):=zan (by omega) (by omega);refine zaq hf ?_ (by exact zb rfl);refine za (za ?_);refine zaa hX zcd rfl ?_ ?_
   ·exact q0
   refine⟨i+1,hil,by omega,⟨rfl,rfl,rfl,vI64 (by omega),trivial⟩,⟨rfl,bufU ?_,trivial⟩,rfl,rfl⟩;rw[hat,zF hil,zni, <-zs]
 ·have hb:decide ((i:Int) < ((l.length:Nat):Int))=false:=hb;have hb:=of_decide_eq_false hb;obtain rfl:i=l.length:=by omega
  rw[show (bf++(s++zdz l):List UInt8)=bf++s++zdz (l.take l.length) from by rw[yS,zs]];apply zad;exact⟨.inl rfl,⟨_,rfl,u8,1,_,rfl,rfl,rfl⟩,zbk (by decide) rfl rfl trivial rfl⟩
section
variable {P:Program} {K:Kn} {w0:zj} {X:Ownr} {n:Nat} {σ:AS} {Q:Exit->AS->Prop} {ops:Array Oper}
theorem AWP.drawT {l':List Oper} (heq':OpsI P ops.toList l') (hm:P.follows .mixedOrders=true) (hX:X.Ok w0) (hK:KnOk P X.G K) {id:Nat} (m:Nat) (hB:zkw l'.toArray m=true) {r1:List Prop×AS} (h1:zic K n l'.toArray (l'.take m) σ=some r1) (hp1:allP r1.1) {o:Oper} (ho:l'.drop m=[o]) (hgd:o.guard=none)
  (hstep:∀ β a w,Sim w0 X n r1.2 β a w->o.wp P a w (fun a' w'=>∃ σ' β',Sim w0 X n σ' β' a' w'∧Q .normal σ') (fun e a' w'=>e≠ .outgrown∧∃ σ' β',Sim w0 X n σ' β' a' w'∧Q e σ')) (hd:zbn ops.toList=true:=by rfl):AWP P w0 X n (.region id ops true) σ Q:=fun β a w h=>by
 have heq:OpsEq P ops.toList l'.toArray.toList:=heq'.eq;have hnl:¬ LetsOut (fun e a' w'=>e≠ .outgrown∧∃ σ' β',Sim w0 X n σ' β' a' w'∧Q e σ'):=fun⟨_,_,h,_⟩=>h rfl;exact Go.wpIn_mono (wpIn_region_any hm (zbr (R:=fun e a' w'=>e≠ .outgrown∧∃ σ' β',Sim w0 X n σ' β' a' w'∧Q e σ') hnl hd _ (by
  rw[(zi7 heq).1];exact zmP heq hnl _ (zkI hK hX h hB h1 hp1 fun a' w' hs=>by
   rw[show (l'.toArray.toList).drop m=[o] from ho];refine wpList_plain hgd fun K' hK'=>Oper.wp_mono (fun a2 w2 ⟨σ',β',h3,h4⟩=>hK' a2 w2 ⟨(fun h=>by cases h),σ',β',h3,h4⟩) (hstep β a' w' hs))))) fun e a w h=>h.2
theorem AWP.drawOwn {C:List (zP×HCtr)} {l':List Oper} (heq':OpsI P ops.toList l') (hm:P.follows .mixedOrders=true) (hX:X.Ok w0) (hK:KnOk P X.G K) (hC:HsOk P X.G C) {id:Nat} (m:Nat) (hB:zkw l'.toArray m=true) {r1:List Prop×AS} (h1:zic K n l'.toArray (l'.take m) σ=some r1) (hp1:allP r1.1) {o:Oper} (ho:l'.drop m=[o]) (hgd:o.guard=none)
  {s:HSite} (hsite:znv C n o r1.2=some s) (hq:allP s.q) (hinv:∀ w R,(∀ g,R g->w0.heap.size≤g∨X.R g)->X.G w->s.c.inv w R s.ty) (h:zlN (fun y x'=>Q .normal (s.next y x')) (fun pv=>Q (.panic [{ v:=pv,recovered:=false }]) s.lost) (s.c.out s.x s.xs)) (hd:zbn ops.toList=true:=by rfl):AWP P w0 X n (.region id ops true) σ Q:=
 AWP.drawT heq' hm hX hK m hB h1 hp1 ho hgd (fun β a w hsim=>zjj (N:=fun σ'=>Q .normal σ') hX hC hsite hq hinv h β a w hsim) hd
end
def sepS (i:Nat):List UInt8:=if i=0 then [32,40] else [32]
def litS:Nat->List Int->List UInt8
 |_,[]=>[]
 |i,n::r=>sepS i++deI n++litS (i+1) r
def zbT (l:List Int):List UInt8:=litS 0 l++ [41]
theorem zkl (n:Int):∀ (l:List Int) (i:Nat),litS i (l++ [n])=litS i l++(sepS (i+l.length)++deI n)
 | [],i=>by
  show sepS i++deI n++ []=[]++(sepS (i+0)++deI n);rw[zI];rfl
 |m::l,i=>by
  show sepS i++deI m++litS (i+1) (l++ [n])=sepS i++deI m++litS (i+1) l++_;rw[zkl n l (i+1),zs (sepS i++deI m),zt,show i+1+l.length=i+(l.length+1) by omega]
theorem ziY (i:Nat):(sepS i).length≤2:=by
 unfold sepS;split
 ·exact zk _
 ·exact Nat.le_succ _
theorem zfA:∀ (l:List Int) (i:Nat),(∀ n∈l,zb1 n)->(litS i l).length≤20 * l.length
 | [],i,_=>zk _
 |n::l,i,h=>by
  have h1:=zet (h n (zR ..)).1 (h n (zR ..)).2;have h2:=zfA l (i+1) fun m hm=>h m (yg _ hm);have h3:=ziY i;show (sepS i++deI n++litS (i+1) l).length≤_;rw[zf,zf,zt];omega
@[reducible] def zmJ:HCtr:=hW [ints] (fun x xs=>[zg x.2.1+20 * zg xs.1+1≤1000000000,∀ n∈xs.1,zb1 n]) fun x xs=>zbT xs.1
theorem zmb:zaC Tryz.prog gmH 150 zmJ:=by
 refine zau (K:=_) zcd Tryz.func150 rfl rfl (zcm rfl) Tryz.call150 rfl (zb rfl) (zdC prT [107]) ?_;rintro w0 ⟨G,O,K,fix,D,ρ,B⟩ ty hX hG hK hρ hD hinv ⟨(b:Bool),(bf:List UInt8),(r:List Nd),⟨⟩⟩ ⟨(l:List Int),⟨⟩⟩ hp;obtain rfl:G=gmH:=hG;obtain rfl:K=1:=hK;obtain rfl:ρ=none:=hρ;obtain rfl:D=[]:=hD;have hI:=fun w R hR hw=>(⟨zaJ (ty:=ty) hX rfl hinv.1 (ty':=ty) w R hR hw,hinv.2⟩:bInv prT [107] w R ty);obtain⟨hlen,hnum⟩:bf.length+20 * l.length+1≤1000000000∧∀ n∈l,zb1 n:=hp;change AWP _ _ _ _ _ ⟨[(0,⟨.hptr,((0:Nat),(0:Nat))⟩),(1,⟨.slice i64,l⟩)],wE ty b bf r,2⟩ (wQ _ zmJ ty (.ok ((),(true,((bf++zbT l:List UInt8),(r,()))))));refine za (za ?_);refine zaa hX zcd rfl ?_ ?_
 ·trivial
 apply zac;refine yU (ι:=Nat) (fun i=>⟨[(0,⟨.hptr,((0:Nat),(0:Nat))⟩),(6,⟨.slice i64,l⟩),(7,⟨i64,((l.length:Nat):Int)⟩),(8,⟨i64,(i:Int)⟩)],wE ty (b||decide (0 < i)) ((bf++litS 0 (l.take i):List UInt8)) r,2⟩) (fun i=>i≤l.length) (fun i=>l.length - i) 0 (zm _) ⟨⟨rfl,rfl,rfl,rfl,trivial⟩,⟨by cases b<;>rfl,bufU (by show bf=bf++ [];rw[zI]),trivial⟩,rfl,by cases b<;>rfl⟩ ?_;intro i hi;obtain⟨b',hb'⟩:∃ b',b'=(b||decide (0 < i)):=⟨_,rfl⟩;rw[<-hb'];refine za (za ?_);refine zaa hX zcd rfl ?_ ?_
 ·trivial
 apply zae;refine zaf rfl (fun hb=>?_) (fun hb=>?_)
 ·have hb:decide ((i:Int) < ((l.length:Nat):Int))=true:=hb;have hb:=of_decide_eq_true hb;have hil:i < l.length:=by omega
  have n0:(0:Int)≤(i:Int):=by omega
  have hat:l.getD ((i:Int)).toNat 0=l[i]:=za1 hil;have hn:zb1 (l.getD ((i:Int)).toNat 0):=by rw[hat];exact hnum _ (xW hil)
  have hd:=zet hn.1 hn.2;have ht:zg (l.take i)=i:=by rw[yT];omega
  have hnt:=zfA (l.take i) 0 fun n hm=>hnum n (qS hm);have hs:=ziY i;have hbl:zg (bf++litS 0 (l.take i):List UInt8)+zg (sepS i++deI (l.getD ((i:Int)).toNat 0):List UInt8)≤1000000000:=by
   rw[zf,zf];omega
  apply zab;apply zae;apply zac;refine za (za ?_);refine zaa hX zcd rfl ?_ ?_
  ·exact⟨n0,hb⟩
  refine AWP.mono (Q:=fun e sg=>e= .normal∧Fit sg ⟨[(0,⟨.hptr,((0:Nat),(0:Nat))⟩),(6,⟨.slice i64,l⟩),(7,⟨i64,((l.length:Nat):Int)⟩),(8,⟨i64,(i:Int)⟩)],wE ty true ((bf++litS 0 (l.take i)++(sepS i++deI (l.getD ((i:Int)).toNat 0)):List UInt8)) r,2⟩) ?_ ?_
  ·have hsep:([[32,40],[32]]:List (List UInt8)).getD (min (i:Int) 1).toNat []=sepS i:=by
    cases i with
    |zero=>rfl
    |succ k=>
     rw[show min (((k+1:Nat)):Int) 1=1 by omega];rfl
   have m0:(0:Int)≤min (i:Int) 1:=by omega
   have m1:min (i:Int) 1 < ((2:Nat):Int):=by omega
   have m2:(min (i:Int) 1).toNat < 2:=by omega
   have hcat:zg (([[32,40],[32]]:List (List UInt8)).getD (min (i:Int) 1).toNat [])+zg (deI (l.getD ((i:Int)).toNat 0))≤maxLen:=by rw[hsep];unfold maxLen;omega
   have hbl2:zg (bf++litS 0 (l.take i):List UInt8)+zg (([[32,40],[32]]:List (List UInt8)).getD (min (i:Int) 1).toNat []++deI (l.getD ((i:Int)).toNat 0):List UInt8)≤1000000000:=by rw[hsep];exact hbl
   rw[<-hsep];cases b'
   all_goals
    refine AWP.drawOwn (.cons (xz _) <| .cons (xz _) <| .cons (eqP0 _ _ rfl) <| .cons (xz _) <| .cons (xz _) <| .cons (xz _) <| .cons (xz _) <| .cons (xz _) <| .cons (xz _) <| .cons (xz _) <| .cons (xz _) <| .cons (xz _) .nil) dM hX zcd zmn 11 (by kernel_rfl) rfl ?_ rfl rfl rfl ?_ hI ?_
    ·exact⟨m0,m1,hn,hcat⟩
    ·exact hbl2
    ·exact⟨rfl,⟨rfl,rfl,rfl,rfl,trivial⟩,⟨rfl,rfl,trivial⟩,rfl,rfl⟩
  ·rintro e s' ⟨rfl,hf⟩;have q0:inR .i64 ((i:Int)+1):=zan (by omega) (by omega);have ht1:(b||decide (0 < i+1))=true:=by simp
   refine zaq hf ?_ (by exact zb rfl);refine za (za ?_);refine zaa hX zcd rfl ?_ ?_
   ·exact q0
   refine⟨i+1,hil,by omega,?_⟩;rw[ht1];refine⟨⟨rfl,rfl,rfl,vI64 (by omega),trivial⟩,⟨rfl,bufU ?_,trivial⟩,rfl,rfl⟩;rw[hat,zF hil,zkl,ht,yr,zs]
 ·have hb:decide ((i:Int) < ((l.length:Nat):Int))=false:=hb;have hb:=of_decide_eq_false hb;obtain rfl:i=l.length:=by omega
  have hnt:=zfA (l.take l.length) 0 fun n hm=>hnum n (qS hm);have hlt:=yS (l:=l);rw[hlt]at hnt;have hbl:zg (bf++litS 0 (l.take l.length):List UInt8)+zg ([41]:List UInt8)≤1000000000:=by
   rw[hlt,zf];show bf.length+_+1≤_;omega
  rw[show (bf++zbT l:List UInt8)=bf++litS 0 (l.take l.length)++ [41] from by rw[hlt,zs];rfl];apply zad;cases b'
  all_goals
   show AWP _ _ _ _ _ _ _;refine zai ?_;refine yh 2 hX zcd rfl trivial ?_;refine jH (eqP0 _ _ rfl) hX zcd rfl trivial ?_;refine ym 0 hX zcd zmn rfl trivial rfl rfl hbl hI ?_;refine yf ?_;exact⟨.inl rfl,⟨_,rfl,u8,1,_,rfl,rfl,rfl⟩,zbk (by decide) rfl rfl trivial rfl⟩
def wAt:List UInt8:=[64]
def spW (w:List UInt8):List UInt8:=32::w
def ndK (n:Nd):Int:=n.1
def ndC (n:Nd):Int:=n.2.1
def ndL (n:Nd):Int:=n.2.2.1
def ndR (n:Nd):Int:=n.2.2.2.1
def ndN (n:Nd):Int:=n.2.2.2.2.1
def ndM (n:Nd):Int:=n.2.2.2.2.2.1
def ndI (n:Nd):List Int:=n.2.2.2.2.2.2.1
def ndS (n:Nd):List UInt8:=n.2.2.2.2.2.2.2.1
def zc6 (n:Nd):List UInt8:=
 if ndK n=1 then putS zjK [ndN n,ndM n]
 else if ndK n=2 then putS zgl [ndC n,ndN n,ndM n]
 else if ndK n=3 then putS zcj [ndC n]++zbT (ndI n)
 else if ndK n=4 then putS za5 [ndC n]++zbT (ndI n)
 else if ndK n=5 then putS zbl []++zbT (ndI n)
 else if ndK n=6 then putS zdf [ndC n]++zbT (ndI n)
 else if ndK n=7 then putS wNth [ndC n,ndN n,ndM n]++putS (zb2 (ndL n)) []
 else if ndK n=18 then putS (wAt++ndS n) []
 else []
def zca (b:List UInt8) (n:Nd):List UInt8:=
 if ndK n=11 then putS (spW zeQ) [ndN n]
 else if ndK n=12 then putS (spW zhW) [ndN n]
 else if ndK n=13 then putS (spW zeP) [ndN n]
 else if ndK n=14 then putS (spW zeZ) []++zbT (ndI n)
 else if ndK n=15 then putS (spW zck) []++zbT (ndI n)
 else if ndK n=16 then putS (spW wPos) [ndC n]++(putS (zb2 (ndM n)) []++zbT (ndI n))
 else if ndK n=17 then putS (spW zbS) [ndN n]++(putS (spW wOf++ [32]) []++b)
 else []
def opWd (x:Int):List UInt8:=(opsL.getD (x - 1).toNat ([],0,())).1
def zav (r:List Nd) (i:Int):Nd:=r.getD i.toNat zNd
def parS (c:Bool) (t:List UInt8):List UInt8:=if c then t else [40]++(t++ [41])
def zcX:Nat->List Nd->Int->List UInt8
 |0,_,_=>[]
 |k+1,r,i=>
  if levS (ndK (zav r i)) < 4 then
   parS (decide (levS (ndK (zav r (ndL (zav r i))))≥levS (ndK (zav r i)))) (zcX k r (ndL (zav r i)))++(putS ([32]++opWd (levS (ndK (zav r i)))++ [32]) []++parS (decide (levS (ndK (zav r (ndR (zav r i))))≥levS (ndK (zav r i))+1)) (zcX k r (ndR (zav r i))))
  else if levS (ndK (zav r i))=4 then
   parS (decide (levS (ndK (zav r (ndL (zav r i))))≥4)) (zcX k r (ndL (zav r i)))++zca (parS (decide (levS (ndK (zav r (ndR (zav r i))))≥5)) (zcX k r (ndR (zav r i)))) (zav r i)
  else zc6 (zav r i)
def opdF (k:Nat) (r:List Nd) (i req:Int):List UInt8:=parS (decide (levS (ndK (zav r i))≥req)) (zcX k r i)
def zkU (n:Nd):Prop:=(zb1 (ndC n)∧zb1 (ndN n)∧zb1 (ndM n))∧(∀ x∈ndI n,zb1 x)∧(ndI n).length≤100∧(ndS n).length≤100∧(ndK n=7->0≤ndL n∧ndL n≤1)∧(ndK n=16->0≤ndM n∧ndM n≤1)
def idx {α:Type} (f:α->Bool) (l:List α):Int:=if l.findIdx f < l.length then (l.findIdx f:Int) else -1
theorem zml {α:Type} {f:α->Bool} {l:List α} (h:∀ k (hk:k < l.length),f l[k]=false):idx f l= -1:=by
 unfold idx;rw[if_neg];intro hl;have:=kT (w:=hl);rw[h _ hl]at this;cases this
theorem zmk {α:Type} {f:α->Bool} {l:List α} {k:Nat} (hk:k < l.length) (h:f l[k]=true) (hb:∀ j (hj:j < k),f (l[j]'(Nat.lt_trans hj hk))=false):idx f l=(k:Int):=by
 have:l.findIdx f=k:=by
  rw[List.findIdx_eq hk];exact⟨h,fun j hj=>hb j hj⟩
 unfold idx;rw[this,if_pos hk]
theorem zpn {α:Type} (f:α->Bool) (l:List α):decide (idx f l≥0)=l.any f:=by
 rw[yu,decide_eq_true_iff,uN];unfold idx;constructor
 ·intro h;split at h
  ·rename_i hl;exact⟨l[l.findIdx f],xW hl,kT (w:=hl)⟩
  ·omega
 ·rintro ⟨x,hx,hf⟩;rw[if_pos (List.findIdx_lt_length_of_exists ⟨x,hx,hf⟩)];omega
def inB (n lo hi:Int):Bool:=decide (lo≤n)&&decide (n≤hi)
def zbo:Ctr:={ args:=[i64,i64,i64],pre:=fun _=>[],res:=.bool,own:=none,out:=fun x=>inB x.1 x.2.1 x.2.2.1 }
theorem zjG:yM Tryz.prog gmH 119 zbo:=by
 refine zar (K:=gmK) zak Tryz.func119 rfl rfl Tryz.call119 rfl (by decide) (by intro h;cases h) ?_;rintro w0 X hX ⟨(n:Int),(lo:Int),(hi:Int),_⟩ hp;change AWP _ _ _ _ _ ⟨[(0,⟨i64,n⟩),(1,⟨i64,lo⟩),(2,⟨i64,hi⟩)],[],0⟩ _;refine za (za ?_);refine zaa hX zak rfl ?_ ?_
 ·trivial
 refine za (za ?_);refine zaa hX zak rfl ?_ ?_
 ·repeat'(first|exact trivial|assumption|(refine⟨?_,?_⟩)|(intro _))
 refine zq ⟨.inr rfl,zax rfl trivial rfl rfl ?_⟩;show (bif decide (lo≤n) then decide (n≤hi) else false)=inB n lo hi;unfold inB;cases decide (lo≤n)<;>rfl
def not1 (n:Int):Bool:=!(n==1)
def cNot1:Ctr:={ args:=[i64],pre:=fun _=>[],res:=.bool,own:=none,out:=fun x=>not1 x.1 }
theorem zsO:yM Tryz.prog gmH 124 cNot1:=by
 refine zar (K:=gmK) zak Tryz.func124 rfl rfl Tryz.call124 rfl (by decide) (by intro h;cases h) ?_;rintro w0 X hX ⟨(n:Int),_⟩ hp;change AWP _ _ _ _ _ ⟨[(0,⟨i64,n⟩)],[],0⟩ _;(repeat(first|apply zae|apply zab|apply zal|apply zad|apply zac|refine zaa hX zak rfl trivial ?_|refine zaa hX zak rfl id ?_|refine zaa hX zak rfl ⟨id,id⟩ ?_));refine zq ⟨.inr rfl,zax rfl trivial rfl rfl ?_⟩;rfl
def bigN (n:Nd):Bool:=decide (((n.2.2.2.2.2.2.1.length:Nat):Int) > 64)||decide (((n.2.2.2.2.2.2.2.1.length:Nat):Int) > 32)
def cBigN:Ctr:={ args:=[nd],pre:=fun _=>[],res:=.bool,own:=none,out:=fun x=>bigN x.1 }
theorem ztV:yM Tryz.prog gmH 70 cBigN:=by
 refine zar (K:=gmK) zak Tryz.func70 rfl rfl Tryz.call70 rfl (by decide) (by intro h;cases h) ?_;rintro w0 X hX ⟨(n:Nd),_⟩ hp;change AWP _ _ _ _ _ ⟨[(0,⟨nd,n⟩)],[],0⟩ _;refine za (za ?_);refine zaa hX zak rfl ?_ ?_
 ·trivial
 refine za (za ?_);refine zaa hX zak rfl ?_ ?_
 ·repeat'(first|exact trivial|assumption|(refine⟨?_,?_⟩)|(intro _))
 refine zq ⟨.inr rfl,zax rfl trivial rfl rfl ?_⟩;show (bif decide (((n.2.2.2.2.2.2.1.length:Nat):Int) > 64) then true else decide (((n.2.2.2.2.2.2.2.1.length:Nat):Int) > 32))=bigN n;unfold bigN;cases decide (((n.2.2.2.2.2.2.1.length:Nat):Int) > 64)<;>rfl
def litN:zh:=.func (.func 70) #[] #[]
def litU:zh:=.func (.func 124) #[] #[]
def cIdxR:Ctr:={ args:=[.slice nd,.lit],pre:=fun x=>[x.2.1=litN],res:=i64,own:=none,out:=fun x=>idx bigN x.1 }
def kIdxR:Kn:={ gmK with C:=[(70,cBigN)] }
theorem zbY:KnOk Tryz.prog gmH kIdxR:=zak.with (.cons ztV .nil)
theorem ztd:yM Tryz.prog gmH 118 cIdxR:=by
 refine zar (K:=kIdxR) zbY Tryz.func118 rfl rfl Tryz.call118 rfl (by decide) (by intro h;cases h) ?_;rintro w0 X hX ⟨(l:List Nd),(f:zh),_⟩ hp;obtain rfl:f=litN:=hp;change AWP _ _ _ _ _ ⟨[(0,⟨.slice nd,l⟩),(1,⟨.lit,litN⟩)],[],0⟩ _;refine vp 0 rfl fun hl=>?_;unfold maxLen at hl;(repeat(first|apply zae|apply zab|apply zal|apply zad|apply zac|refine zaa hX zbY rfl trivial ?_|refine zaa hX zbY rfl id ?_|refine zaa hX zbY rfl ⟨id,id⟩ ?_));refine yU (ι:=Nat) (fun k=>⟨[(0,⟨.slice nd,l⟩),(1,⟨.lit,litN⟩),(7,⟨i64,((l.length:Nat):Int)⟩),(8,⟨i64,(k:Int)⟩)],[],0⟩) (fun k=>k≤l.length∧∀ j (hj:j < l.length),j < k->bigN l[j]=false) (fun k=>l.length - k) 0 ⟨by omega,by omega⟩ ⟨⟨rfl,rfl,rfl,rfl,trivial⟩,trivial,rfl,rfl⟩ ?_;rintro k ⟨hk,hn⟩;refine za (za ?_);refine zaa hX zbY rfl ?_ ?_
 ·trivial
 apply zae;refine zaf rfl (fun hb=>?_) (fun hb=>?_)
 ·have hb:decide ((k:Int) < (l.length:Nat))=true:=hb;have hb:=of_decide_eq_true hb;have hlt:k < l.length:=by omega
  have n0:(0:Int)≤(k:Int):=by omega
  refine za (za ?_);refine zaa hX zbY rfl ?_ ?_
  ·trivial
  refine za (za ?_);refine zaa hX zbY rfl ?_ ?_
  ·exact⟨n0,hb⟩
  refine zaf rfl (fun hb=>?_) (fun hb=>?_)
  ·have hc:bigN (l.getD (k:Int).toNat zNd)=true:=hb;rw[za1 hlt]at hc;(repeat(first|apply zae|apply zab|apply zal|apply zad|apply zac|refine zaa hX zbY rfl trivial ?_|refine zaa hX zbY rfl id ?_|refine zaa hX zbY rfl ⟨id,id⟩ ?_));refine zq ⟨.inr rfl,zax rfl trivial rfl rfl ?_⟩;show (k:Int)=idx _ l;exact (zmk hlt hc fun j hj=>hn j _ hj).symm
  ·have hc:bigN (l.getD (k:Int).toNat zNd)=false:=hb;rw[za1 hlt]at hc;refine za (za ?_);refine zaa hX zbY rfl ?_ ?_
   ·exact zaU (by omega)
   exact⟨k+1,⟨by omega,fun j hj hlt=>by
    by_cases e:j=k
    ·subst e;exact hc
    ·exact hn j hj (by omega)⟩,by omega,⟨rfl,rfl,rfl,zdy _,trivial⟩,trivial,rfl,rfl⟩
 ·have hb:decide ((k:Int) < (l.length:Nat))=false:=hb;have hb:=of_decide_eq_false hb;have:k=l.length:=by omega
  subst this;(repeat(first|apply zae|apply zab|apply zal|apply zad|apply zac|refine zaa hX zbY rfl trivial ?_|refine zaa hX zbY rfl id ?_|refine zaa hX zbY rfl ⟨id,id⟩ ?_));refine zq ⟨.inr rfl,zax rfl trivial rfl rfl ?_⟩;show (-1:Int)=idx _ l;exact (zml fun j hj=>hn j hj hj).symm
def cAnyR:Ctr:={ args:=[.slice nd,.lit],pre:=fun x=>[x.2.1=litN],res:=.bool,own:=none,out:=fun x=>List.any x.1 bigN }
def kAnyR:Kn:={ gmK with C:=[(118,cIdxR)] }
theorem zfE:KnOk Tryz.prog gmH kAnyR:=zak.with (.cons ztd .nil)
theorem zt1:yM Tryz.prog gmH 71 cAnyR:=by
 refine zar (K:=kAnyR) zfE Tryz.func71 rfl rfl Tryz.call71 rfl (by decide) (by intro h;cases h) ?_;rintro w0 X hX ⟨(l:List Nd),(f:zh),_⟩ hp;obtain rfl:f=litN:=hp;change AWP _ _ _ _ _ ⟨[(0,⟨.slice nd,l⟩),(1,⟨.lit,litN⟩)],[],0⟩ _;(repeat(first|apply zae|apply zab|apply zal|apply zad|apply zac|refine zaa hX zfE rfl trivial ?_|refine zaa hX zfE rfl id ?_|refine zaa hX zfE rfl ⟨id,id⟩ ?_));refine za (za ?_);refine zaa hX zfE rfl ?_ ?_
 ·exact rfl
 refine zq ⟨.inr rfl,zax rfl trivial rfl rfl ?_⟩;exact zpn _ l
def cIdxU:Ctr:={ args:=[.slice i64,.lit],pre:=fun x=>[x.2.1=litU],res:=i64,own:=none,out:=fun x=>idx not1 x.1 }
def kIdxU:Kn:={ gmK with C:=[(124,cNot1)] }
theorem zbX:KnOk Tryz.prog gmH kIdxU:=zak.with (.cons zsO .nil)
theorem ztc:yM Tryz.prog gmH 157 cIdxU:=by
 refine zar (K:=kIdxU) zbX Tryz.func157 rfl rfl Tryz.call157 rfl (by decide) (by intro h;cases h) ?_;rintro w0 X hX ⟨(l:List Int),(f:zh),_⟩ hp;obtain rfl:f=litU:=hp;change AWP _ _ _ _ _ ⟨[(0,⟨.slice i64,l⟩),(1,⟨.lit,litU⟩)],[],0⟩ _;refine vp 0 rfl fun hl=>?_;unfold maxLen at hl;(repeat(first|apply zae|apply zab|apply zal|apply zad|apply zac|refine zaa hX zbX rfl trivial ?_|refine zaa hX zbX rfl id ?_|refine zaa hX zbX rfl ⟨id,id⟩ ?_));refine yU (ι:=Nat) (fun k=>⟨[(0,⟨.slice i64,l⟩),(1,⟨.lit,litU⟩),(7,⟨i64,((l.length:Nat):Int)⟩),(8,⟨i64,(k:Int)⟩)],[],0⟩) (fun k=>k≤l.length∧∀ j (hj:j < l.length),j < k->not1 l[j]=false) (fun k=>l.length - k) 0 ⟨by omega,by omega⟩ ⟨⟨rfl,rfl,rfl,rfl,trivial⟩,trivial,rfl,rfl⟩ ?_;rintro k ⟨hk,hn⟩;refine za (za ?_);refine zaa hX zbX rfl ?_ ?_
 ·trivial
 apply zae;refine zaf rfl (fun hb=>?_) (fun hb=>?_)
 ·have hb:decide ((k:Int) < (l.length:Nat))=true:=hb;have hb:=of_decide_eq_true hb;have hlt:k < l.length:=by omega
  have n0:(0:Int)≤(k:Int):=by omega
  refine za (za ?_);refine zaa hX zbX rfl ?_ ?_
  ·trivial
  refine za (za ?_);refine zaa hX zbX rfl ?_ ?_
  ·exact⟨n0,hb⟩
  refine zaf rfl (fun hb=>?_) (fun hb=>?_)
  ·have hc:not1 (l.getD (k:Int).toNat (0:Int))=true:=hb;rw[za1 hlt]at hc;(repeat(first|apply zae|apply zab|apply zal|apply zad|apply zac|refine zaa hX zbX rfl trivial ?_|refine zaa hX zbX rfl id ?_|refine zaa hX zbX rfl ⟨id,id⟩ ?_));refine zq ⟨.inr rfl,zax rfl trivial rfl rfl ?_⟩;show (k:Int)=idx _ l;exact (zmk hlt hc fun j hj=>hn j _ hj).symm
  ·have hc:not1 (l.getD (k:Int).toNat (0:Int))=false:=hb;rw[za1 hlt]at hc;refine za (za ?_);refine zaa hX zbX rfl ?_ ?_
   ·exact zaU (by omega)
   exact⟨k+1,⟨by omega,fun j hj hlt=>by
    by_cases e:j=k
    ·subst e;exact hc
    ·exact hn j hj (by omega)⟩,by omega,⟨rfl,rfl,rfl,zdy _,trivial⟩,trivial,rfl,rfl⟩
 ·have hb:decide ((k:Int) < (l.length:Nat))=false:=hb;have hb:=of_decide_eq_false hb;have:k=l.length:=by omega
  subst this;(repeat(first|apply zae|apply zab|apply zal|apply zad|apply zac|refine zaa hX zbX rfl trivial ?_|refine zaa hX zbX rfl id ?_|refine zaa hX zbX rfl ⟨id,id⟩ ?_));refine zq ⟨.inr rfl,zax rfl trivial rfl rfl ?_⟩;show (-1:Int)=idx _ l;exact (zml fun j hj=>hn j hj hj).symm
def cAnyU:Ctr:={ args:=[.slice i64,.lit],pre:=fun x=>[x.2.1=litU],res:=.bool,own:=none,out:=fun x=>List.any x.1 not1 }
def kAnyU:Kn:={ gmK with C:=[(157,cIdxU)] }
theorem zfD:KnOk Tryz.prog gmH kAnyU:=zak.with (.cons ztc .nil)
theorem zt0:yM Tryz.prog gmH 123 cAnyU:=by
 refine zar (K:=kAnyU) zfD Tryz.func123 rfl rfl Tryz.call123 rfl (by decide) (by intro h;cases h) ?_;rintro w0 X hX ⟨(l:List Int),(f:zh),_⟩ hp;obtain rfl:f=litU:=hp;change AWP _ _ _ _ _ ⟨[(0,⟨.slice i64,l⟩),(1,⟨.lit,litU⟩)],[],0⟩ _;(repeat(first|apply zae|apply zab|apply zal|apply zad|apply zac|refine zaa hX zfD rfl trivial ?_|refine zaa hX zfD rfl id ?_|refine zaa hX zfD rfl ⟨id,id⟩ ?_));refine za (za ?_);refine zaa hX zfD rfl ?_ ?_
 ·exact rfl
 refine zq ⟨.inr rfl,zax rfl trivial rfl rfl ?_⟩;exact zpn _ l
def zhj (b:Int×Int×Unit):Bool:=b.1==0&&b.2.1==0
def zhQ (l:List Int) (b:Int×Int×Unit) (i:Nat):Bool:=!inB (l.getD i 0) b.1 b.2.1||(decide (0 < i)&&decide (l.getD i 0≤l.getD (i - 1) 0))||(l.getD i 0==0&&decide (b.1 < 0))
def zaV (l:List Int) (b:Int×Int×Unit):Bool:=bif zhj b then ((l.length:Nat):Int)==0 else (yV l.length).all (fun i=>!zhQ l b i)&&decide (((l.length:Nat):Int) > 0)
theorem zl8 (b:Int×Int×Unit):eqb lims b (0,0,())=zhj b:=by
 obtain⟨x,y,⟨⟩⟩:=b;unfold zhj;rw[yu,zbe,zd,beq_iff_eq,beq_iff_eq];exact⟨fun h=>⟨congrArg (fun z=>z.1) h,congrArg (fun z=>z.2.1) h⟩,fun⟨h1,h2⟩=>by
  have h1:x=0:=h1;have h2:y=0:=h2;rw[h1,h2]⟩
def zpO:Ctr:={ args:=[ints,lims],pre:=fun _=>[],res:=.bool,own:=none,out:=fun x=>zaV x.1 x.2.1 }
def kVl:Kn:={ gmK with C:=[(119,zbo)] }
theorem za3:KnOk Tryz.prog gmH kVl:=zak.with (.cons zjG .nil)
theorem zoV:yM Tryz.prog gmH 121 zpO:=by
 refine zar (K:=kVl) za3 Tryz.func121 rfl rfl Tryz.call121 rfl (by decide) (by intro h;cases h) ?_;rintro w0 X hX ⟨(l:List Int),(b:Int×Int×Unit),_⟩ hp;change AWP _ _ _ _ _ ⟨[(0,⟨ints,l⟩),(1,⟨lims,b⟩)],[],0⟩ _;refine vp 0 rfl fun hl=>?_;unfold maxLen at hl;apply zae;refine za (za ?_);refine zaa hX za3 rfl ?_ ?_
 ·trivial
 refine za (za ?_);refine zaa hX za3 rfl ?_ ?_
 ·trivial
 refine zaf rfl (fun hb=>?_) (fun hb=>?_)
 ·have hb:zhj b=true:=by rw[<-zl8];exact hb
  (repeat(first|apply zae|apply zab|apply zal|apply zad|apply zac|refine zaa hX za3 rfl trivial ?_|refine zaa hX za3 rfl id ?_|refine zaa hX za3 rfl ⟨id,id⟩ ?_));refine zq ⟨.inr rfl,zax rfl trivial rfl rfl ?_⟩;show _=zaV l b;unfold zaV;rw[hb];rfl
 have hb:zhj b=false:=by rw[<-zl8];exact hb
 (repeat(first|apply zae|apply zab|apply zal|apply zad|apply zac|refine zaa hX za3 rfl trivial ?_|refine zaa hX za3 rfl id ?_|refine zaa hX za3 rfl ⟨id,id⟩ ?_));refine yU (ι:=Nat) (fun k=>⟨[(0,⟨ints,l⟩),(3,⟨.optr lims,⟨0,lims,.here⟩⟩),(13,⟨ints,l⟩),(14,⟨i64,((l.length:Nat):Int)⟩),(15,⟨i64,(k:Int)⟩)],[(0,some (.box lims b))],1⟩) (fun k=>k≤l.length∧∀ j,j < k->zhQ l b j=false) (fun k=>l.length - k) 0 ⟨by omega,by omega⟩ ⟨⟨rfl,rfl,rfl,rfl,rfl,trivial⟩,⟨rfl,trivial⟩,rfl,rfl⟩ ?_;rintro k ⟨hk,hn⟩;refine za (za ?_);refine zaa hX za3 rfl ?_ ?_
 ·trivial
 apply zae;refine zaf rfl (fun hb=>?_) (fun hb=>?_)
 ·have hb:decide ((k:Int) < (l.length:Nat))=true:=hb;have hb:=of_decide_eq_true hb;have hlt:k < l.length:=by omega
  have n0:(0:Int)≤(k:Int):=by omega
  refine za (za ?_);refine zaa hX za3 rfl ?_ ?_
  ·exact⟨n0,hb⟩
  refine za (za ?_);refine zaa hX za3 rfl ?_ ?_
  ·have i1:inR .i64 ((k:Int) - 1):=zan (by omega) (by omega);have i2:(k:Int) - 1 < (l.length:Nat):=by omega
   have i3:decide ((k:Int) > 0)=true->0≤(k:Int) - 1:=fun h=>by have:=of_decide_eq_true h;omega
   cases zbo.out (l.getD ((k:Int)).toNat (za9 i64),b.fst,b.snd.fst,())<;>cases hD:decide ((k:Int) > 0)<;>cases (l.getD ((k:Int)).toNat (za9 i64)==0)<;>cases decide (l.getD ((k:Int)).toNat (za9 i64)≤l.getD ((k:Int) - 1).toNat (za9 i64))
   all_goals
    repeat'(first|exact trivial|assumption|exact i3 hD|rfl|(intro h;exact absurd h yN)|(refine⟨?_,?_⟩)|(intro _))
  have hq:decide ((k:Int) > 0)=decide (0 < k):=by rw[yu,decide_eq_true_iff,decide_eq_true_iff];omega
  have hq':((k:Int) - 1).toNat=k - 1:=by omega
  refine zaf rfl (fun hb=>?_) (fun hb=>?_)
  ·have hc:zhQ l b k=true:=by
    rw[<-hb];unfold zhQ;rw[<-hq, <-hq'];show (!zbo.out (l.getD ((k:Int)).toNat (za9 i64),b.fst,b.snd.fst,())||(decide ((k:Int) > 0)&&decide (l.getD ((k:Int)).toNat (za9 i64)≤l.getD ((k:Int) - 1).toNat (za9 i64)))||((l.getD ((k:Int)).toNat (za9 i64)==0)&&decide (b.1 < 0)))=_;cases zbo.out (l.getD ((k:Int)).toNat (za9 i64),b.fst,b.snd.fst,())<;>cases hD:decide ((k:Int) > 0)<;>cases (l.getD ((k:Int)).toNat (za9 i64)==0)<;>cases decide (l.getD ((k:Int)).toNat (za9 i64)≤l.getD ((k:Int) - 1).toNat (za9 i64))<;>cases decide (b.1 < 0)<;>rfl
   (repeat(first|apply zae|apply zab|apply zal|apply zad|apply zac|refine zaa hX za3 rfl trivial ?_|refine zaa hX za3 rfl id ?_|refine zaa hX za3 rfl ⟨id,id⟩ ?_));refine zq ⟨.inr rfl,zax rfl trivial rfl rfl ?_⟩;show false=zaV l b;unfold zaV;rw[‹zhj b=false›,show (yV l.length).all (fun i=>!zhQ l b i)=false from ?_]
   ·rfl
   ·rw[qi];intro ha;have:=zT.1 ha k (yH.2 hlt);rw[hc]at this;cases this
  ·have hc:zhQ l b k=false:=by
    rw[<-hb];unfold zhQ;rw[<-hq, <-hq'];show (!zbo.out (l.getD ((k:Int)).toNat (za9 i64),b.fst,b.snd.fst,())||(decide ((k:Int) > 0)&&decide (l.getD ((k:Int)).toNat (za9 i64)≤l.getD ((k:Int) - 1).toNat (za9 i64)))||((l.getD ((k:Int)).toNat (za9 i64)==0)&&decide (b.1 < 0)))=_;cases zbo.out (l.getD ((k:Int)).toNat (za9 i64),b.fst,b.snd.fst,())<;>cases hD:decide ((k:Int) > 0)<;>cases (l.getD ((k:Int)).toNat (za9 i64)==0)<;>cases decide (l.getD ((k:Int)).toNat (za9 i64)≤l.getD ((k:Int) - 1).toNat (za9 i64))<;>cases decide (b.1 < 0)<;>rfl
   refine za (za ?_);refine zaa hX za3 rfl ?_ ?_
   ·exact zaU (by omega)
   exact⟨k+1,⟨by omega,fun j hj=>by
    by_cases e:j=k
    ·subst e;exact hc
    ·exact hn j (by omega)⟩,by omega,⟨rfl,rfl,rfl,rfl,zdy _,trivial⟩,⟨rfl,trivial⟩,rfl,rfl⟩
 ·have hb:decide ((k:Int) < (l.length:Nat))=false:=hb;have hb:=of_decide_eq_false hb;have:k=l.length:=by omega
  subst this;(repeat(first|apply zae|apply zab|apply zal|apply zad|apply zac|refine zaa hX za3 rfl trivial ?_|refine zaa hX za3 rfl id ?_|refine zaa hX za3 rfl ⟨id,id⟩ ?_));refine zq ⟨.inr rfl,zax rfl trivial rfl rfl ?_⟩;show _=zaV l b;unfold zaV;rw[‹zhj b=false›,show (yV l.length).all (fun i=>!zhQ l b i)=true from zT.2 fun i hi=>by rw[hn i (yH.1 hi)];rfl];rfl
def zcV (n:Nd):Bool:=
 bif n.1==1 then bif inB n.2.2.2.2.1 1 1099511627776 then inB n.2.2.2.2.2.1 0 1099511627776 else false
 else bif n.1==2 then bif inB n.2.2.2.2.1 1 400 then inB n.2.2.2.2.2.1 0 (n.2.2.2.2.1 - 1) else false
 else bif n.1==7 then bif (bif (bif inB n.2.2.2.2.1 (-60) 60 then !(n.2.2.2.2.1==0) else false) then inB n.2.2.2.2.2.1 0 6 else false) then inB n.2.2.1 0 1 else false
 else bif n.1==11 then bif inB n.2.2.2.2.1 (-1099511627776) 1099511627776 then n.2.2.2.2.2.1==0 else false
 else bif (n.1==12)||(n.1==13) then bif inB n.2.2.2.2.1 0 1099511627776 then n.2.2.2.2.2.1==0 else false
 else bif n.1==16 then bif n.2.2.2.2.1==0 then inB n.2.2.2.2.2.1 0 1 else false
 else bif n.1==17 then bif inB n.2.2.2.2.1 1 400 then n.2.2.2.2.2.1==0 else false
 else bif n.2.2.2.2.1==0 then n.2.2.2.2.2.1==0 else false
def cNumb:Ctr:={ args:=[nd],pre:=fun _=>[],res:=.bool,own:=none,out:=fun x=>zcV x.1 }
theorem zsM:yM Tryz.prog gmH 122 cNumb:=by
 refine zar (K:=kVl) za3 Tryz.func122 rfl rfl Tryz.call122 rfl (by decide) (by intro h;cases h) ?_;rintro w0 X hX ⟨(n:Nd),_⟩ hp;change AWP _ _ _ _ _ ⟨[(0,⟨nd,n⟩)],[],0⟩ _;apply zae;refine za (za ?_);refine zaa hX za3 rfl ?_ ?_
 ·trivial
 refine za (za ?_);refine zaa hX za3 rfl ?_ ?_
 ·trivial
 refine za (za ?_);refine zaa hX za3 rfl ?_ ?_
 ·trivial
 refine zaf rfl (fun h1=>?_) (fun h1=>?_)
 ·have h1:(n.1==1)=true:=h1;refine za (za ?_);refine zaa hX za3 rfl ?_ ?_
  ·have i0:zbo.out (n.2.2.2.2.1,(1:Int),(400:Int),())=true->inR .i64 (n.2.2.2.2.1 - 1):=fun h=>by
    have h:inB n.2.2.2.2.1 1 400=true:=h;unfold inB at h;rw[zd,decide_eq_true_iff,decide_eq_true_iff]at h;exact zan (by omega) (by omega)
   cases hA:zbo.out (n.2.2.2.2.1,(1:Int),(1099511627776:Int),())
   all_goals
    repeat'(first|exact trivial|assumption|rfl|exact i0 rfl|exact i0 hA|(intro h;exact absurd h yN)|(refine⟨?_,?_⟩)|(intro _))
  refine zq ⟨.inr rfl,zax rfl trivial rfl rfl ?_⟩;show _=zcV n;simp only[zcV,h1,cond_true,cond_false,xZ,qq,xY,xv]
  all_goals (first|rfl|(simp;done))
 have h1:(n.1==1)=false:=h1;refine za (za ?_);refine zaa hX za3 rfl ?_ ?_
 ·trivial
 refine zaf rfl (fun h2=>?_) (fun h2=>?_)
 ·have h2:(n.1==2)=true:=h2;refine za (za ?_);refine zaa hX za3 rfl ?_ ?_
  ·have i0:zbo.out (n.2.2.2.2.1,(1:Int),(400:Int),())=true->inR .i64 (n.2.2.2.2.1 - 1):=fun h=>by
    have h:inB n.2.2.2.2.1 1 400=true:=h;unfold inB at h;rw[zd,decide_eq_true_iff,decide_eq_true_iff]at h;exact zan (by omega) (by omega)
   cases hA:zbo.out (n.2.2.2.2.1,(1:Int),(400:Int),())
   all_goals
    repeat'(first|exact trivial|assumption|rfl|exact i0 rfl|exact i0 hA|(intro h;exact absurd h yN)|(refine⟨?_,?_⟩)|(intro _))
  refine zq ⟨.inr rfl,zax rfl trivial rfl rfl ?_⟩;show _=zcV n;simp only[zcV,h1,h2,cond_true,cond_false,xZ,qq,xY,xv]
  all_goals (first|rfl|(simp;done))
 have h2:(n.1==2)=false:=h2;refine za (za ?_);refine zaa hX za3 rfl ?_ ?_
 ·trivial
 refine zaf rfl (fun h7=>?_) (fun h7=>?_)
 ·have h7:(n.1==7)=true:=h7;refine za (za ?_);refine zaa hX za3 rfl ?_ ?_
  ·have i0:zbo.out (n.2.2.2.2.1,(1:Int),(400:Int),())=true->inR .i64 (n.2.2.2.2.1 - 1):=fun h=>by
    have h:inB n.2.2.2.2.1 1 400=true:=h;unfold inB at h;rw[zd,decide_eq_true_iff,decide_eq_true_iff]at h;exact zan (by omega) (by omega)
   cases hA:zbo.out (n.2.2.2.2.1,(-60:Int),(60:Int),())<;>cases (n.2.2.2.2.1==0)<;>cases zbo.out (n.2.2.2.2.2.1,(0:Int),(6:Int),())
   all_goals
    repeat'(first|exact trivial|assumption|rfl|exact i0 rfl|exact i0 hA|(intro h;exact absurd h yN)|(refine⟨?_,?_⟩)|(intro _))
  refine zq ⟨.inr rfl,zax rfl trivial rfl rfl ?_⟩;show _=zcV n;simp only[zcV,h1,h2,h7,cond_true,cond_false,xZ,qq,xY,xv]
  all_goals (first|rfl|(simp;done))
 have h7:(n.1==7)=false:=h7;refine za (za ?_);refine zaa hX za3 rfl ?_ ?_
 ·trivial
 refine zaf rfl (fun h11=>?_) (fun h11=>?_)
 ·have h11:(n.1==11)=true:=h11;refine za (za ?_);refine zaa hX za3 rfl ?_ ?_
  ·have i0:zbo.out (n.2.2.2.2.1,(1:Int),(400:Int),())=true->inR .i64 (n.2.2.2.2.1 - 1):=fun h=>by
    have h:inB n.2.2.2.2.1 1 400=true:=h;unfold inB at h;rw[zd,decide_eq_true_iff,decide_eq_true_iff]at h;exact zan (by omega) (by omega)
   cases hA:zbo.out (n.2.2.2.2.1,(-1099511627776:Int),(1099511627776:Int),())
   all_goals
    repeat'(first|exact trivial|assumption|rfl|exact i0 rfl|exact i0 hA|(intro h;exact absurd h yN)|(refine⟨?_,?_⟩)|(intro _))
  refine zq ⟨.inr rfl,zax rfl trivial rfl rfl ?_⟩;show _=zcV n;simp only[zcV,h1,h2,h7,h11,cond_true,cond_false,xZ,qq,xY,xv]
  all_goals (first|rfl|(simp;done))
 have h11:(n.1==11)=false:=h11;refine za (za ?_);refine zaa hX za3 rfl ?_ ?_
 ·trivial
 refine AWP.viaQ (σ':=⟨[(1,⟨.optr nd,⟨0,nd,.here⟩⟩),(4,⟨i64,n.1⟩),(58,⟨.bool,(n.1==12)||(n.1==13)⟩)],[(0,some (.box nd n))],1⟩) ?_ ?_
 ·refine zaf rfl (fun h=>?_) (fun h=>?_)
  ·have h:(n.1==12)=true:=h;apply zab;rw[h];exact⟨⟨rfl,rfl,rfl,trivial⟩,⟨rfl,trivial⟩,rfl,rfl⟩
  ·have h:(n.1==12)=false:=h;refine za (za ?_);refine zaa hX za3 rfl ?_ ?_
   ·trivial
   rw[h];exact⟨⟨rfl,rfl,rfl,trivial⟩,⟨rfl,trivial⟩,rfl,rfl⟩
 refine zaf rfl (fun h12=>?_) (fun h12=>?_)
 ·have h12:((n.1==12)||(n.1==13))=true:=h12;refine za (za ?_);refine zaa hX za3 rfl ?_ ?_
  ·have i0:zbo.out (n.2.2.2.2.1,(1:Int),(400:Int),())=true->inR .i64 (n.2.2.2.2.1 - 1):=fun h=>by
    have h:inB n.2.2.2.2.1 1 400=true:=h;unfold inB at h;rw[zd,decide_eq_true_iff,decide_eq_true_iff]at h;exact zan (by omega) (by omega)
   cases hA:zbo.out (n.2.2.2.2.1,(0:Int),(1099511627776:Int),())
   all_goals
    repeat'(first|exact trivial|assumption|rfl|exact i0 rfl|exact i0 hA|(intro h;exact absurd h yN)|(refine⟨?_,?_⟩)|(intro _))
  refine zq ⟨.inr rfl,zax rfl trivial rfl rfl ?_⟩;show _=zcV n;simp only[zcV,h1,h2,h7,h11,h12,cond_true,cond_false,xZ,qq,xY,xv]
  all_goals (first|rfl|(simp;done))
 have h12:((n.1==12)||(n.1==13))=false:=h12;refine za (za ?_);refine zaa hX za3 rfl ?_ ?_
 ·trivial
 refine zaf rfl (fun h16=>?_) (fun h16=>?_)
 ·have h16:(n.1==16)=true:=h16;refine za (za ?_);refine zaa hX za3 rfl ?_ ?_
  ·have i0:zbo.out (n.2.2.2.2.1,(1:Int),(400:Int),())=true->inR .i64 (n.2.2.2.2.1 - 1):=fun h=>by
    have h:inB n.2.2.2.2.1 1 400=true:=h;unfold inB at h;rw[zd,decide_eq_true_iff,decide_eq_true_iff]at h;exact zan (by omega) (by omega)
   cases hA:(n.2.2.2.2.1==0)
   all_goals
    repeat'(first|exact trivial|assumption|rfl|exact i0 rfl|exact i0 hA|(intro h;exact absurd h yN)|(refine⟨?_,?_⟩)|(intro _))
  refine zq ⟨.inr rfl,zax rfl trivial rfl rfl ?_⟩;show _=zcV n;simp only[zcV,h1,h2,h7,h11,h12,h16,cond_true,cond_false,xZ,qq,xY,xv]
  all_goals (first|rfl|(simp;done))
 have h16:(n.1==16)=false:=h16;refine za (za ?_);refine zaa hX za3 rfl ?_ ?_
 ·trivial
 refine zaf rfl (fun h17=>?_) (fun h17=>?_)
 ·have h17:(n.1==17)=true:=h17;refine za (za ?_);refine zaa hX za3 rfl ?_ ?_
  ·have i0:zbo.out (n.2.2.2.2.1,(1:Int),(400:Int),())=true->inR .i64 (n.2.2.2.2.1 - 1):=fun h=>by
    have h:inB n.2.2.2.2.1 1 400=true:=h;unfold inB at h;rw[zd,decide_eq_true_iff,decide_eq_true_iff]at h;exact zan (by omega) (by omega)
   cases hA:zbo.out (n.2.2.2.2.1,(1:Int),(400:Int),())
   all_goals
    repeat'(first|exact trivial|assumption|rfl|exact i0 rfl|exact i0 hA|(intro h;exact absurd h yN)|(refine⟨?_,?_⟩)|(intro _))
  refine zq ⟨.inr rfl,zax rfl trivial rfl rfl ?_⟩;show _=zcV n;simp only[zcV,h1,h2,h7,h11,h12,h16,h17,cond_true,cond_false,xZ,qq,xY,xv]
  all_goals (first|rfl|(simp;done))
 have h17:(n.1==17)=false:=h17;apply zab;refine za (za ?_);refine zaa hX za3 rfl ?_ ?_
 ·have i0:zbo.out (n.2.2.2.2.1,(1:Int),(400:Int),())=true->inR .i64 (n.2.2.2.2.1 - 1):=fun h=>by
   have h:inB n.2.2.2.2.1 1 400=true:=h;unfold inB at h;rw[zd,decide_eq_true_iff,decide_eq_true_iff]at h;exact zan (by omega) (by omega)
  cases hA:(n.2.2.2.2.1==0)
  all_goals
   repeat'(first|exact trivial|assumption|rfl|exact i0 rfl|exact i0 hA|(intro h;exact absurd h yN)|(refine⟨?_,?_⟩)|(intro _))
 refine zq ⟨.inr rfl,zax rfl trivial rfl rfl ?_⟩;show _=zcV n;simp only[zcV,h1,h2,h7,h11,h12,h16,h17,cond_true,cond_false,xZ,qq,xY,xv]
 all_goals (first|rfl|(simp;done))
abbrev Shp:=Int×Bool×(Int×Int×Unit)×Unit
def zcG:List Shp:=[(0,false,(0,0,()),()),(0,false,(0,0,()),()),(0,true,(0,0,()),()),(0,true,(1,16,()),()),(0,true,(-40,40,()),()),(0,false,(0,6,()),()),(0,true,(1,54,()),()),(0,true,(0,0,()),()),(2,false,(0,0,()),()),(2,false,(0,0,()),()),(2,false,(0,0,()),()),(1,false,(0,0,()),()),(1,false,(0,0,()),()),(1,false,(0,0,()),()),(1,false,(0,1099511627776,()),()),(1,false,(0,1099511627776,()),()),(1,true,(-400,400,()),()),(2,false,(0,0,()),()),(0,false,(0,0,()),())]
def zlF:Ctr:={ args:=[],pre:=fun _=>[],res:=.arr 19 shp,own:=none,out:=fun _=>zcG }
set_option maxHeartbeats 400000 in
theorem zjV:yM Tryz.prog gmH 74 zlF:=by
 refine zar (K:=gmK) zak Tryz.func74 rfl rfl Tryz.call74 rfl (by decide) (by intro h;cases h) ?_;rintro w0 X hX _ hp;change AWP _ _ _ _ _ ⟨[],[],0⟩ _;apply zae;refine za (za ?_);refine zaa hX zak rfl ?_ ?_
 ·trivial
 refine za (za ?_);refine zaa hX zak rfl ?_ ?_
 ·trivial
 refine zaq (σ':=⟨[(0,⟨.optr (.arr 19 shp),⟨0,.arr 19 shp,.here⟩⟩)],[(0,some (.box (.arr 19 shp) zcG))],1⟩) ⟨⟨by kernel_rfl,trivial⟩,⟨by kernel_rfl,trivial⟩,rfl,rfl⟩ ?_;exact zq ⟨.inr rfl,zax rfl trivial rfl rfl rfl⟩
set_option maxRecDepth 10000
abbrev Tk:=Int×List UInt8×Int
def tkOf (t:TokT):Tk:=(zK t,zL t,Tok.n t)
def Toks (s:List UInt8):Int->List Tk->Prop
 |o,[]=>zK (zd6 s o)=0
 |o,a::l=>zK (zd6 s o)≠0∧tkOf (zd6 s o)=a∧Toks s (Tok.at (zd6 s o)+Tok.size (zd6 s o)) l
def Sq (s:List UInt8) (t:TokT):List Tk->Prop
 | []=>zK t=0
 |a::l=>zK t≠0∧tkOf t=a∧Toks s (Tok.at t+Tok.size t) l
def tkIs (w:List UInt8):List Tk->Bool
 | []=>false
 |a::_=>((a.1==1)||(a.1==4))&&decide (a.2.1=w)
theorem okb {ε α β:Type} {e:Except ε α} {x:α} (h:e= .ok x) (f:α->Except ε β):(e >>= f)=f x:=by
 subst h;rfl
section
variable {s:List UInt8}
theorem ziR {o:Int} {l:List Tk} (h:Toks s o l):Sq s (zd6 s o) l:=by
 cases l with
 |nil=>exact h
 |cons a l=>exact h
theorem zhZ {st:GSt} {l:List Tk} (h:Sq s st.1 l) (w:List UInt8):gIs st w=tkIs w l:=by
 cases l with
 |nil=>
  have h:zK st.1=0:=h;unfold gIs tkIs;rw[h];rfl
 |cons a l=>
  obtain⟨_,h2,_⟩:=h;unfold gIs tkIs;rw[<-h2];rfl
structure Got (s:List UInt8) (st:GSt) (k:Int) (l:List Tk) (st':GSt):Prop where
 ok:GOk s st'
 sq:Sq s st'.1 l
 n:st'.2=st.2+k
theorem Got.trans {a b c:GSt} {j k:Int} {l l':List Tk} (h:Got s a j l b) (h':Got s b k l' c):Got s a (j+k) l' c:=⟨h'.ok,h'.sq,by rw[h'.n,h.n];omega⟩
theorem Got.trans0 {a b c:GSt} {j:Int} {l l':List Tk} (h:Got s a j l b) (h':Got s b 0 l' c):Got s a j l' c:=⟨h'.ok,h'.sq,by rw[h'.n,h.n];omega⟩
theorem zow {st:GSt} {a:Tk} {l:List Tk} (hg:GOk s st) (h:Sq s st.1 (a::l)):Got s st 0 l (gAdv s st):=
 ⟨(zci hg h.1).1,ziR h.2.2,by show st.2=st.2+0;omega⟩
theorem zft {st:GSt} {a:Tk} {l:List Tk} {w:List UInt8} (hg:GOk s st) (h:Sq s st.1 (a::l)) (hw:tkIs w (a::l)=true):za0 s st w= .ok (gAdv s st)∧Got s st 0 l (gAdv s st):=by
 refine⟨?_,zow hg h⟩;unfold za0 zaD;rw[zhZ h,hw];rfl
theorem zi4 {st:GSt} {a:Tk} {l:List Tk} (hg:GOk s st) (h:Sq s st.1 (a::l)) (hn:st.2 < 64):zbR s st= .ok (gAdv s (st.1,st.2+1))∧Got s st 1 l (gAdv s (st.1,st.2+1)):=by
 refine⟨?_,?_,?_,rfl⟩
 ·unfold zbR zaD;rw[decide_eq_true hn];rfl
 ·exact (zci (st:=(st.1,st.2+1)) ⟨hg.1,by have:=hg.2;constructor<;>simp only[]<;>omega⟩ h.1).1
 ·exact ziR h.2.2
def tkW (w:List UInt8):Tk:=(1,w,0)
def tkR (w:List UInt8):Tk:=(2,w,0)
def tkN (n:Int):Tk:=(3,deI n,n)
def tkS (c:UInt8):Tk:=(4,[c],0)
theorem zbu {st:GSt} {x lo hi:Int} {l:List Tk} (hg:GOk s st) (h:Sq s st.1 (tkN x::l)) (h1:lo≤x) (h2:x≤hi):zaO s st lo hi= .ok (x,gAdv s st)∧Got s st 0 l (gAdv s st):=by
 refine⟨?_,zow hg h⟩;obtain⟨_,e,_⟩:=h;have e1:zK st.1=3:=congrArg (fun a=>a.1) e;have e2:Tok.n st.1=x:=congrArg (fun a=>a.2.2) e;unfold zaO zaD;rw[e1,e2,decide_eq_true h1,decide_eq_true h2];rfl
def Ris (lo hi:Int) (z:Bool):Int->List Int->Prop
 |_,[]=>True
 |last,x::r=>last < x∧lo≤x∧x≤hi∧(z=true∨x≠0)∧Ris lo hi z x r
theorem zov {lo hi:Int} {z:Bool} {l:List Tk}:∀ (xs:List Int) (k:Nat) (acc:List Int) (st:GSt),xs.length < k->(acc=[]->xs≠ [])->acc.length+xs.length≤64->Ris lo hi z (acc.getLast?.getD (lo - 1)) xs->GOk s st->Sq s st.1 (xs.map tkN++tkS 41::l)->
  ∃ st',zcs s lo hi z k st acc= .ok (acc++xs,st')∧Got s st 0 (tkS 41::l) st'
 |_,0,_,_,hk,_,_,_,_,_=>by omega
 | [],k+1,acc,st,_,hne,_,_,hg,h=>by
  refine⟨st,?_,hg,h,by omega⟩;have hacc:acc≠ []:=fun e=>hne e rfl;have hc:gIs st zc3=true:=by rw[zhZ h];rfl
  unfold zcs;rw[hc,zI,if_pos (by cases acc with |nil=>exact absurd rfl hacc|cons _ _=>rfl)]
 |x::r,k+1,acc,st,hk,hne,hlen,hr,hg,h=>by
  obtain⟨r1,r2,r3,r4,r5⟩:=hr;simp only[zt]at hk hlen;have h:Sq s st.1 (tkN x::(r.map tkN++tkS 41::l)):=h;obtain⟨hn,hgot⟩:=zbu hg h r2 r3;obtain⟨_,e,_⟩:=id h;have e1:zK st.1=3:=congrArg (fun a=>a.1) e;have e2:Tok.n st.1=x:=congrArg (fun a=>a.2.2) e;have hc:gIs st zc3=false:=by rw[zhZ h];rfl
  have hl:(acc++ [x]).getLast?.getD (lo - 1)=x:=by rw[List.getLast?_append];rfl
  obtain⟨st',h1,h2⟩:=zov r k (acc++ [x]) (gAdv s st) (by omega) (fun e=>by simp at e) (by rw[zf,yp];omega) (by rw[hl];exact r5) hgot.ok hgot.sq;refine⟨st',?_,hgot.trans0 h2⟩;rw[zs]at h1;unfold zcs;rw[hc,qc,if_neg yN];have c1:zaD st (zK st.1==3) 3= .ok ():=by rw[e1];rfl
  have c2:zaD st (decide (acc.length < 64)) 2= .ok ():=by rw[decide_eq_true (by omega)];rfl
  have c3:zaD st (decide (Tok.n st.1 > acc.getLast?.getD (lo - 1))&&(z||(Tok.n st.1 != 0))) 1= .ok ():=by
   rw[e2,decide_eq_true r1];have:(z||(x != 0))=true:=by
    rcases r4 with rfl|r4
    ·rfl
    ·rw[zZ];exact .inr (bne_iff_ne.2 r4)
   rw[this];rfl
  refine (okb c1 _).trans ((okb c2 _).trans ((okb c3 _).trans ((okb hn _).trans ?_)));exact h1
def zc5 (l:List Int):List Tk:=tkS 40::(l.map tkN++ [tkS 41])
theorem zhc {lo hi:Int} {z:Bool} {xs:List Int} {l:List Tk} {st:GSt} (hne:xs≠ []) (hlen:xs.length≤64) (hr:Ris lo hi z (lo - 1) xs) (hg:GOk s st) (h:Sq s st.1 (zc5 xs++l)):
  ∃ st',zdk s st lo hi z= .ok (xs,st')∧Got s st 0 l st':=by
 have h:Sq s st.1 (tkS 40::(xs.map tkN++ [tkS 41]++l)):=h;obtain⟨e1,g1⟩:=zft (w:=zfg) hg h rfl;obtain⟨s2,e2,g2⟩:=zov (lo:=lo) (hi:=hi) (z:=z) (l:=l) xs 66 [] (gAdv s st) (by omega) (fun _=>hne) (by simpa using hlen) hr g1.ok (by have:=g1.sq;rwa[zs]at this);obtain⟨e3,g3⟩:=zft (w:=zc3) g2.ok g2.sq rfl;refine⟨gAdv s s2,?_,(g1.trans0 g2).trans0 g3⟩;unfold zdk;exact (okb e1 _).trans ((okb e2 _).trans ((okb e3 _).trans rfl))
def zed (n:Int):Tk:=tkW (if n=1 then zd5 else zjJ)
theorem zot {st:GSt} {x:Int} {l:List Tk} (hx:x=0∨x=1) (hg:GOk s st) (h:Sq s st.1 (zed x::l)):zdK s st= .ok (x,gAdv s st)∧Got s st 0 l (gAdv s st):=by
 refine⟨?_,zow hg h⟩;have i1:=zhZ h zjJ;have i2:=zhZ h zd5;obtain⟨_,e,_⟩:=h;have e1:zL st.1=(zed x).2.1:=congrArg (fun a=>a.2.1) e;unfold zdK zaD;rw[i1,i2,e1];rcases hx with rfl|rfl<;>rfl
end
def zkn (n:Nd):List Tk:=
 if ndK n=1 then [tkW zjK,tkN (ndN n),tkN (ndM n)]
 else if ndK n=2 then [tkW zgl,tkN (ndC n),tkN (ndN n),tkN (ndM n)]
 else if ndK n=3 then tkW zcj::tkN (ndC n)::zc5 (ndI n)
 else if ndK n=4 then tkW za5::tkN (ndC n)::zc5 (ndI n)
 else if ndK n=5 then tkW zbl::zc5 (ndI n)
 else if ndK n=6 then tkW zdf::tkN (ndC n)::zc5 (ndI n)
 else if ndK n=7 then [tkW wNth,tkN (ndC n),tkN (ndN n),tkN (ndM n),zed (ndL n)]
 else if ndK n=18 then [tkR (ndS n)]
 else []
def ziP (b:List Tk) (n:Nd):List Tk:=
 if ndK n=11 then [tkW zeQ,tkN (ndN n)]
 else if ndK n=12 then [tkW zhW,tkN (ndN n)]
 else if ndK n=13 then [tkW zeP,tkN (ndN n)]
 else if ndK n=14 then tkW zeZ::zc5 (ndI n)
 else if ndK n=15 then tkW zck::zc5 (ndI n)
 else if ndK n=16 then tkW wPos::tkN (ndC n)::zed (ndM n)::zc5 (ndI n)
 else if ndK n=17 then tkW zbS::tkN (ndN n)::tkW wOf::b
 else []
def Tr.root:Tr->Nd
 | .leaf n=>n
 | .un n _=>n
 | .bin n _ _=>n
def Tr.lev (t:Tr):Int:=levS (ndK t.root)
def parT (c:Bool) (l:List Tk):List Tk:=if c then l else tkS 40::(l++ [tkS 41])
def Tr.toks:Tr->List Tk
 | .leaf n=>zkn n
 | .un n a=>parT (decide (a.lev≥4)) a.toks++ziP [] n
 | .bin n a b=>if ndK n=17 then parT (decide (a.lev≥4)) a.toks++ziP (parT (decide (b.lev≥5)) b.toks) n
  else parT (decide (a.lev≥levS (ndK n))) a.toks++(tkW (opWd (levS (ndK n)))::parT (decide (b.lev≥levS (ndK n)+1)) b.toks)
def zdD (k:Int):Shp:=zcG.getD k.toNat (0,false,(0,0,()),())
def zeW (n:Nd):Bool:=bif (zdD (ndK n)).2.1 then inB (ndC n) 0 2 else ndC n==0
def zcv (w:List UInt8):Bool:=decide (w≠ [])&&decide (w.length≤32)&&(w.head?.all isLt&&w.all isPt)
def zh3 (n:Nd):Bool:=bif ndK n==18 then zcv (ndS n) else decide (ndS n=[])
def zba (n:Nd):Bool:=inB (ndK n) 1 18&&decide ((ndI n).length≤64)&&(zeW n&&(zh3 n&&(zaV (ndI n) (zdD (ndK n)).2.2.1&&zcV n)))
def TrOk:Tr->Prop
 | .leaf n=>zba n=true∧¬ (8≤ndK n∧ndK n≤17)∧ndR n=0∧(ndK n≠7->ndL n=0)
 | .un n a=>zba n=true∧(11≤ndK n∧ndK n≤16)∧(ndL n=0∧ndR n=0)∧TrOk a
 | .bin n a b=>zba n=true∧((8≤ndK n∧ndK n≤10)∨ndK n=17)∧(ndL n=0∧ndR n=0)∧TrOk a∧TrOk b
theorem zaM {n lo hi:Int}:inB n lo hi=true↔lo≤n∧n≤hi:=by
 unfold inB;rw[zd,decide_eq_true_iff,decide_eq_true_iff]
theorem zaG {n:Nd} (h:zba n=true):(1≤ndK n∧ndK n≤18)∧(ndI n).length≤64∧zeW n=true∧zh3 n=true∧zaV (ndI n) (zdD (ndK n)).2.2.1=true∧zcV n=true:=by
 unfold zba at h;simp only[zd,zaM,decide_eq_true_iff]at h;exact⟨h.1.1,h.1.2,h.2.1,h.2.2.1,h.2.2.2.1,h.2.2.2.2⟩
theorem ris_of {l:List Int} {lo hi:Int} (h:∀ i,i < l.length->zhQ l (lo,hi,()) i=false):Ris lo hi (decide (¬ lo < 0)) (lo - 1) l:=by
 have key:∀ (r p:List Int) (last:Int),l=p++r->(p≠ []->last=l.getD (p.length - 1) 0)->(p=[]->last=lo - 1)->Ris lo hi (decide (¬ lo < 0)) last r:=by
  intro r
  induction r with
  |nil=>intro p last _ _ _;trivial
  |cons x r ih=>
   intro p last hl hp hp0;have hlen:p.length < l.length:=by rw[hl,zf,zt];omega
   have hx:l.getD p.length 0=x:=by
    rw[hl,zQ,qB (zk _),Nat.sub_self];rfl
   have hb:=h p.length hlen;unfold zhQ at hb;rw[hx]at hb;simp only[xN,xg,zaM,jq,decide_eq_false_iff_not,beq_eq_false_iff_ne]at hb;obtain⟨⟨⟨b1,b2⟩,b3⟩,b4⟩:=hb;refine⟨?_,b1,b2,?_,ih (p++ [x]) x (by rw[hl];simp) (fun _=>?_) (fun e=>by simp at e)⟩
   ·cases p with
    |nil=>rw[hp0 rfl];omega
    |cons y p=>
     rw[hp (by simp)];rcases b3 with b3|b3
     ·exact absurd (by simp:0 < (y::p).length) b3
     ·omega
   ·rcases b4 with b4|b4
    ·exact .inr b4
    ·exact .inl (decide_eq_true b4)
   ·rw[show (p++ [x]).length - 1=p.length by simp,hx]
 exact key l [] (lo - 1) rfl (fun h=>absurd rfl h) fun _=>rfl
theorem ze9 {l:List Int} {lo hi:Int} (h0:¬ (lo=0∧hi=0)) (h:zaV l (lo,hi,())=true):l≠ []∧Ris lo hi (decide (¬ lo < 0)) (lo - 1) l:=by
 have hz:zhj (lo,hi,())=false:=by
  rw[qi];intro e;unfold zhj at e;rw[zd,beq_iff_eq,beq_iff_eq]at e;exact h0 e
 unfold zaV at h;rw[hz,cond_false,zd,decide_eq_true_iff,zT]at h;refine⟨fun e=>by rw[e]at h;exact absurd h.2 (by decide),ris_of fun i hi=>?_⟩;have:=h.1 i (yH.2 hi);rwa[zw]at this
theorem zdh {l:List Int} (h:zaV l (0,0,())=true):l=[]:=by
 have h:(((l.length:Nat):Int)==0)=true:=h;have:=beq_iff_eq.1 h;exact List.eq_nil_of_length_eq_zero (by omega)
theorem fld1 {n:Nd} (h:zba n=true) (k:ndK n=1):n=(1,0,ndL n,ndR n,ndN n,ndM n,[],[],())∧(1≤ndN n∧ndN n≤1099511627776)∧(0≤ndM n∧ndM n≤1099511627776):=by
 obtain⟨_,hlen,hc,hm,hl,hn⟩:=zaG h;obtain⟨k',c,L,R,N,M,I,S,⟨⟩⟩:=n;obtain rfl:k'=1:=k;have hc2:(c==0)=true:=hc;obtain rfl:=beq_iff_eq.1 hc2;have hm2:decide (S=[])=true:=hm;obtain rfl:=of_decide_eq_true hm2;obtain rfl:=zdh (show zaV I (0,0,())=true from hl);have hn2:(bif inB N 1 1099511627776 then inB M 0 1099511627776 else false)=true:=hn;simp only[zc2,zd,zaM,beq_iff_eq,zw,beq_eq_false_iff_ne]at hn2;exact⟨rfl,hn2.1,hn2.2⟩
theorem fld2 {n:Nd} (h:zba n=true) (k:ndK n=2):n=(2,ndC n,ndL n,ndR n,ndN n,ndM n,[],[],())∧(0≤ndC n∧ndC n≤2)∧(1≤ndN n∧ndN n≤400)∧(0≤ndM n∧ndM n≤ndN n - 1):=by
 obtain⟨_,hlen,hc,hm,hl,hn⟩:=zaG h;obtain⟨k',c,L,R,N,M,I,S,⟨⟩⟩:=n;obtain rfl:k'=2:=k;have hc2:inB c 0 2=true:=hc;rw[zaM]at hc2;have hm2:decide (S=[])=true:=hm;obtain rfl:=of_decide_eq_true hm2;obtain rfl:=zdh (show zaV I (0,0,())=true from hl);have hn2:(bif inB N 1 400 then inB M 0 (N - 1) else false)=true:=hn;simp only[zc2,zd,zaM,beq_iff_eq,zw,beq_eq_false_iff_ne]at hn2;exact⟨rfl,hc2,hn2.1,hn2.2⟩
theorem fld3 {n:Nd} (h:zba n=true) (k:ndK n=3):n=(3,ndC n,ndL n,ndR n,0,0,ndI n,[],())∧(0≤ndC n∧ndC n≤2)∧(ndI n≠ []∧(ndI n).length≤64∧Ris (1) 16 true (0) (ndI n)):=by
 obtain⟨_,hlen,hc,hm,hl,hn⟩:=zaG h;obtain⟨k',c,L,R,N,M,I,S,⟨⟩⟩:=n;obtain rfl:k'=3:=k;have hc2:inB c 0 2=true:=hc;rw[zaM]at hc2;have hm2:decide (S=[])=true:=hm;obtain rfl:=of_decide_eq_true hm2;have hl2:=ze9 (by decide) (show zaV I (1,16,())=true from hl);have hn2:(bif N==0 then M==0 else false)=true:=hn;simp only[zc2,zd,zaM,beq_iff_eq,zw,beq_eq_false_iff_ne]at hn2;obtain⟨rfl,rfl⟩:=hn2;exact⟨rfl,hc2,⟨hl2.1,hlen,hl2.2⟩⟩
theorem fld4 {n:Nd} (h:zba n=true) (k:ndK n=4):n=(4,ndC n,ndL n,ndR n,0,0,ndI n,[],())∧(0≤ndC n∧ndC n≤2)∧(ndI n≠ []∧(ndI n).length≤64∧Ris (-40) 40 false (-41) (ndI n)):=by
 obtain⟨_,hlen,hc,hm,hl,hn⟩:=zaG h;obtain⟨k',c,L,R,N,M,I,S,⟨⟩⟩:=n;obtain rfl:k'=4:=k;have hc2:inB c 0 2=true:=hc;rw[zaM]at hc2;have hm2:decide (S=[])=true:=hm;obtain rfl:=of_decide_eq_true hm2;have hl2:=ze9 (by decide) (show zaV I (-40,40,())=true from hl);have hn2:(bif N==0 then M==0 else false)=true:=hn;simp only[zc2,zd,zaM,beq_iff_eq,zw,beq_eq_false_iff_ne]at hn2;obtain⟨rfl,rfl⟩:=hn2;exact⟨rfl,hc2,⟨hl2.1,hlen,hl2.2⟩⟩
theorem fld5 {n:Nd} (h:zba n=true) (k:ndK n=5):n=(5,0,ndL n,ndR n,0,0,ndI n,[],())∧(ndI n≠ []∧(ndI n).length≤64∧Ris (0) 6 true (-1) (ndI n)):=by
 obtain⟨_,hlen,hc,hm,hl,hn⟩:=zaG h;obtain⟨k',c,L,R,N,M,I,S,⟨⟩⟩:=n;obtain rfl:k'=5:=k;have hc2:(c==0)=true:=hc;obtain rfl:=beq_iff_eq.1 hc2;have hm2:decide (S=[])=true:=hm;obtain rfl:=of_decide_eq_true hm2;have hl2:=ze9 (by decide) (show zaV I (0,6,())=true from hl);have hn2:(bif N==0 then M==0 else false)=true:=hn;simp only[zc2,zd,zaM,beq_iff_eq,zw,beq_eq_false_iff_ne]at hn2;obtain⟨rfl,rfl⟩:=hn2;exact⟨rfl,⟨hl2.1,hlen,hl2.2⟩⟩
theorem fld6 {n:Nd} (h:zba n=true) (k:ndK n=6):n=(6,ndC n,ndL n,ndR n,0,0,ndI n,[],())∧(0≤ndC n∧ndC n≤2)∧(ndI n≠ []∧(ndI n).length≤64∧Ris (1) 54 true (0) (ndI n)):=by
 obtain⟨_,hlen,hc,hm,hl,hn⟩:=zaG h;obtain⟨k',c,L,R,N,M,I,S,⟨⟩⟩:=n;obtain rfl:k'=6:=k;have hc2:inB c 0 2=true:=hc;rw[zaM]at hc2;have hm2:decide (S=[])=true:=hm;obtain rfl:=of_decide_eq_true hm2;have hl2:=ze9 (by decide) (show zaV I (1,54,())=true from hl);have hn2:(bif N==0 then M==0 else false)=true:=hn;simp only[zc2,zd,zaM,beq_iff_eq,zw,beq_eq_false_iff_ne]at hn2;obtain⟨rfl,rfl⟩:=hn2;exact⟨rfl,hc2,⟨hl2.1,hlen,hl2.2⟩⟩
theorem fld7 {n:Nd} (h:zba n=true) (k:ndK n=7):n=(7,ndC n,ndL n,ndR n,ndN n,ndM n,[],[],())∧(0≤ndC n∧ndC n≤2)∧(-60≤ndN n∧ndN n≤60)∧ndN n≠0∧(0≤ndM n∧ndM n≤6)∧(0≤ndL n∧ndL n≤1):=by
 obtain⟨_,hlen,hc,hm,hl,hn⟩:=zaG h;obtain⟨k',c,L,R,N,M,I,S,⟨⟩⟩:=n;obtain rfl:k'=7:=k;have hc2:inB c 0 2=true:=hc;rw[zaM]at hc2;have hm2:decide (S=[])=true:=hm;obtain rfl:=of_decide_eq_true hm2;obtain rfl:=zdh (show zaV I (0,0,())=true from hl);have hn2:(bif (bif (bif inB N (-60) 60 then !(N==0) else false) then inB M 0 6 else false) then inB L 0 1 else false)=true:=hn;simp only[zc2,zd,zaM,beq_iff_eq,zw,beq_eq_false_iff_ne]at hn2;exact⟨rfl,hc2,hn2.1.1.1,hn2.1.1.2,hn2.1.2,hn2.2⟩
theorem fld8 {n:Nd} (h:zba n=true) (k:ndK n=8):n=(8,0,ndL n,ndR n,0,0,[],[],()):=by
 obtain⟨_,hlen,hc,hm,hl,hn⟩:=zaG h;obtain⟨k',c,L,R,N,M,I,S,⟨⟩⟩:=n;obtain rfl:k'=8:=k;have hc2:(c==0)=true:=hc;obtain rfl:=beq_iff_eq.1 hc2;have hm2:decide (S=[])=true:=hm;obtain rfl:=of_decide_eq_true hm2;obtain rfl:=zdh (show zaV I (0,0,())=true from hl);have hn2:(bif N==0 then M==0 else false)=true:=hn;simp only[zc2,zd,zaM,beq_iff_eq,zw,beq_eq_false_iff_ne]at hn2;obtain⟨rfl,rfl⟩:=hn2;exact rfl
theorem fld9 {n:Nd} (h:zba n=true) (k:ndK n=9):n=(9,0,ndL n,ndR n,0,0,[],[],()):=by
 obtain⟨_,hlen,hc,hm,hl,hn⟩:=zaG h;obtain⟨k',c,L,R,N,M,I,S,⟨⟩⟩:=n;obtain rfl:k'=9:=k;have hc2:(c==0)=true:=hc;obtain rfl:=beq_iff_eq.1 hc2;have hm2:decide (S=[])=true:=hm;obtain rfl:=of_decide_eq_true hm2;obtain rfl:=zdh (show zaV I (0,0,())=true from hl);have hn2:(bif N==0 then M==0 else false)=true:=hn;simp only[zc2,zd,zaM,beq_iff_eq,zw,beq_eq_false_iff_ne]at hn2;obtain⟨rfl,rfl⟩:=hn2;exact rfl
theorem fld10 {n:Nd} (h:zba n=true) (k:ndK n=10):n=(10,0,ndL n,ndR n,0,0,[],[],()):=by
 obtain⟨_,hlen,hc,hm,hl,hn⟩:=zaG h;obtain⟨k',c,L,R,N,M,I,S,⟨⟩⟩:=n;obtain rfl:k'=10:=k;have hc2:(c==0)=true:=hc;obtain rfl:=beq_iff_eq.1 hc2;have hm2:decide (S=[])=true:=hm;obtain rfl:=of_decide_eq_true hm2;obtain rfl:=zdh (show zaV I (0,0,())=true from hl);have hn2:(bif N==0 then M==0 else false)=true:=hn;simp only[zc2,zd,zaM,beq_iff_eq,zw,beq_eq_false_iff_ne]at hn2;obtain⟨rfl,rfl⟩:=hn2;exact rfl
theorem ztu {n:Nd} (h:zba n=true) (k:ndK n=11):n=(11,0,ndL n,ndR n,ndN n,0,[],[],())∧(-1099511627776≤ndN n∧ndN n≤1099511627776):=by
 obtain⟨_,hlen,hc,hm,hl,hn⟩:=zaG h;obtain⟨k',c,L,R,N,M,I,S,⟨⟩⟩:=n;obtain rfl:k'=11:=k;have hc2:(c==0)=true:=hc;obtain rfl:=beq_iff_eq.1 hc2;have hm2:decide (S=[])=true:=hm;obtain rfl:=of_decide_eq_true hm2;obtain rfl:=zdh (show zaV I (0,0,())=true from hl);have hn2:(bif inB N (-1099511627776) 1099511627776 then M==0 else false)=true:=hn;simp only[zc2,zd,zaM,beq_iff_eq,zw,beq_eq_false_iff_ne]at hn2;obtain rfl:=hn2.2;exact⟨rfl,hn2.1⟩
theorem ztt {n:Nd} (h:zba n=true) (k:ndK n=12):n=(12,0,ndL n,ndR n,ndN n,0,[],[],())∧(0≤ndN n∧ndN n≤1099511627776):=by
 obtain⟨_,hlen,hc,hm,hl,hn⟩:=zaG h;obtain⟨k',c,L,R,N,M,I,S,⟨⟩⟩:=n;obtain rfl:k'=12:=k;have hc2:(c==0)=true:=hc;obtain rfl:=beq_iff_eq.1 hc2;have hm2:decide (S=[])=true:=hm;obtain rfl:=of_decide_eq_true hm2;obtain rfl:=zdh (show zaV I (0,0,())=true from hl);have hn2:(bif inB N 0 1099511627776 then M==0 else false)=true:=hn;simp only[zc2,zd,zaM,beq_iff_eq,zw,beq_eq_false_iff_ne]at hn2;obtain rfl:=hn2.2;exact⟨rfl,hn2.1⟩
theorem zts {n:Nd} (h:zba n=true) (k:ndK n=13):n=(13,0,ndL n,ndR n,ndN n,0,[],[],())∧(0≤ndN n∧ndN n≤1099511627776):=by
 obtain⟨_,hlen,hc,hm,hl,hn⟩:=zaG h;obtain⟨k',c,L,R,N,M,I,S,⟨⟩⟩:=n;obtain rfl:k'=13:=k;have hc2:(c==0)=true:=hc;obtain rfl:=beq_iff_eq.1 hc2;have hm2:decide (S=[])=true:=hm;obtain rfl:=of_decide_eq_true hm2;obtain rfl:=zdh (show zaV I (0,0,())=true from hl);have hn2:(bif inB N 0 1099511627776 then M==0 else false)=true:=hn;simp only[zc2,zd,zaM,beq_iff_eq,zw,beq_eq_false_iff_ne]at hn2;obtain rfl:=hn2.2;exact⟨rfl,hn2.1⟩
theorem ztr {n:Nd} (h:zba n=true) (k:ndK n=14):n=(14,0,ndL n,ndR n,0,0,ndI n,[],())∧(ndI n≠ []∧(ndI n).length≤64∧Ris (0) 1099511627776 true (-1) (ndI n)):=by
 obtain⟨_,hlen,hc,hm,hl,hn⟩:=zaG h;obtain⟨k',c,L,R,N,M,I,S,⟨⟩⟩:=n;obtain rfl:k'=14:=k;have hc2:(c==0)=true:=hc;obtain rfl:=beq_iff_eq.1 hc2;have hm2:decide (S=[])=true:=hm;obtain rfl:=of_decide_eq_true hm2;have hl2:=ze9 (by decide) (show zaV I (0,1099511627776,())=true from hl);have hn2:(bif N==0 then M==0 else false)=true:=hn;simp only[zc2,zd,zaM,beq_iff_eq,zw,beq_eq_false_iff_ne]at hn2;obtain⟨rfl,rfl⟩:=hn2;exact⟨rfl,⟨hl2.1,hlen,hl2.2⟩⟩
theorem ztq {n:Nd} (h:zba n=true) (k:ndK n=15):n=(15,0,ndL n,ndR n,0,0,ndI n,[],())∧(ndI n≠ []∧(ndI n).length≤64∧Ris (0) 1099511627776 true (-1) (ndI n)):=by
 obtain⟨_,hlen,hc,hm,hl,hn⟩:=zaG h;obtain⟨k',c,L,R,N,M,I,S,⟨⟩⟩:=n;obtain rfl:k'=15:=k;have hc2:(c==0)=true:=hc;obtain rfl:=beq_iff_eq.1 hc2;have hm2:decide (S=[])=true:=hm;obtain rfl:=of_decide_eq_true hm2;have hl2:=ze9 (by decide) (show zaV I (0,1099511627776,())=true from hl);have hn2:(bif N==0 then M==0 else false)=true:=hn;simp only[zc2,zd,zaM,beq_iff_eq,zw,beq_eq_false_iff_ne]at hn2;obtain⟨rfl,rfl⟩:=hn2;exact⟨rfl,⟨hl2.1,hlen,hl2.2⟩⟩
theorem ztp {n:Nd} (h:zba n=true) (k:ndK n=16):n=(16,ndC n,ndL n,ndR n,0,ndM n,ndI n,[],())∧(0≤ndC n∧ndC n≤2)∧(ndI n≠ []∧(ndI n).length≤64∧Ris (-400) 400 false (-401) (ndI n))∧(0≤ndM n∧ndM n≤1):=by
 obtain⟨_,hlen,hc,hm,hl,hn⟩:=zaG h;obtain⟨k',c,L,R,N,M,I,S,⟨⟩⟩:=n;obtain rfl:k'=16:=k;have hc2:inB c 0 2=true:=hc;rw[zaM]at hc2;have hm2:decide (S=[])=true:=hm;obtain rfl:=of_decide_eq_true hm2;have hl2:=ze9 (by decide) (show zaV I (-400,400,())=true from hl);have hn2:(bif N==0 then inB M 0 1 else false)=true:=hn;simp only[zc2,zd,zaM,beq_iff_eq,zw,beq_eq_false_iff_ne]at hn2;obtain rfl:=hn2.1;exact⟨rfl,hc2,⟨hl2.1,hlen,hl2.2⟩,hn2.2⟩
theorem zto {n:Nd} (h:zba n=true) (k:ndK n=17):n=(17,0,ndL n,ndR n,ndN n,0,[],[],())∧(1≤ndN n∧ndN n≤400):=by
 obtain⟨_,hlen,hc,hm,hl,hn⟩:=zaG h;obtain⟨k',c,L,R,N,M,I,S,⟨⟩⟩:=n;obtain rfl:k'=17:=k;have hc2:(c==0)=true:=hc;obtain rfl:=beq_iff_eq.1 hc2;have hm2:decide (S=[])=true:=hm;obtain rfl:=of_decide_eq_true hm2;obtain rfl:=zdh (show zaV I (0,0,())=true from hl);have hn2:(bif inB N 1 400 then M==0 else false)=true:=hn;simp only[zc2,zd,zaM,beq_iff_eq,zw,beq_eq_false_iff_ne]at hn2;obtain rfl:=hn2.2;exact⟨rfl,hn2.1⟩
theorem ztn {n:Nd} (h:zba n=true) (k:ndK n=18):n=(18,0,ndL n,ndR n,0,0,[],ndS n,())∧zcv (ndS n)=true:=by
 obtain⟨_,hlen,hc,hm,hl,hn⟩:=zaG h;obtain⟨k',c,L,R,N,M,I,S,⟨⟩⟩:=n;obtain rfl:k'=18:=k;have hc2:(c==0)=true:=hc;obtain rfl:=beq_iff_eq.1 hc2;have hm2:zcv S=true:=hm;obtain rfl:=zdh (show zaV I (0,0,())=true from hl);have hn2:(bif N==0 then M==0 else false)=true:=hn;simp only[zc2,zd,zaM,beq_iff_eq,zw,beq_eq_false_iff_ne]at hn2;obtain⟨rfl,rfl⟩:=hn2;exact⟨rfl,hm2⟩
def resQ (s:List UInt8):Nat->GSt->GE (Tr×GSt)
 |0,st=>prsT s (.bin 0) st
 |1,st=>prsT s (.bin 1) st
 |2,st=>prsT s (.bin 2) st
 |3,st=>prsT s .chain st
 |_,st=>prsT s .prim st
def contQ (s:List UInt8):Nat->Tr->GSt->GE (Tr×GSt)
 |0,t,st=>prsT s (.binL 0 t) st
 |1,t,st=>prsT s (.binL 1 t) st
 |2,t,st=>prsT s (.binL 2 t) st
 |3,t,st=>prsT s (.chainL t) st
 |_,t,st=>.ok (t,st)
def zqH:List Tk->Prop
 | []=>True
 |a::_=>a.1=1->sufW a.2.1=none
def ztm:Nat->List Tk->Prop
 |0,l=>tkIs zlP l=false∧tkIs wAnd l=false∧zqH l
 |1,l=>tkIs wAnd l=false∧zqH l
 |2,l=>zqH l
 |_,_=>True
def Qt (i:Nat) (T:List Tk) (t:Tr):Prop:=∀ (s:List UInt8) (st:GSt) (l:List Tk),GOk s st->Sq s st.1 (T++l)->st.2+(t.size:Int)≤64->ztm i l->∃ st',resQ s i st=contQ s i t st'∧Got s st t.size l st'
section
variable {s:List UInt8}
theorem zou {st:GSt} {l:List Tk} {t:Tr} (hg:GOk s st) (h:Sq s st.1 l) (hf:zqH l):prsT s (.chainL t) st= .ok (t,st):=by
 cases l with
 |nil=>
  have h:zK st.1=0:=h;exact zeh hg (by rw[h];decide)
 |cons a l=>
  have hf:a.1=1->sufW a.2.1=none:=hf;obtain⟨_,e,_⟩:=h;have e1:zK st.1=a.1:=congrArg (fun a=>a.1) e;have e2:zL st.1=a.2.1:=congrArg (fun a=>a.2.1) e;by_cases hc:a.1=1
  ·exact zgr hg (by rw[e1,hc]) (by rw[e2];exact hf hc)
  ·exact zeh hg (by rw[e1];exact hc)
theorem zhb {i:Nat} {st:GSt} {l:List Tk} {t:Tr} (hg:GOk s st) (h:Sq s st.1 l) (hf:tkIs (opW i) l=false):prsT s (.binL i t) st= .ok (t,st):=zir hg (by rw[zhZ h];exact hf)
theorem Qt.chain {T:List Tk} {t:Tr} (h:Qt 4 T t):Qt 3 T t:=fun s st l hg hq hn hf=>by
 obtain⟨st',e,g⟩:=h s st l hg hq hn trivial;have e:prsT s .prim st= .ok (t,st'):=e;exact⟨st',by show prsT s .chain st=prsT s (.chainL t) st';rw[zio hg];exact okb e _,g⟩
theorem Qt.up3 {T:List Tk} {t:Tr} (h:Qt 3 T t):Qt 2 T t:=fun s st l hg hq hn hf=>by
 obtain⟨st',e,g⟩:=h s st l hg hq hn trivial;have e:prsT s .chain st=prsT s (.chainL t) st':=e;rw[zou g.ok g.sq hf]at e;refine⟨st',?_,g⟩;show prsT s (.bin 2) st=prsT s (.binL 2 t) st';rw[zgI hg (by decide),zhd hg (by decide)];exact okb e _
theorem Qt.up2 {T:List Tk} {t:Tr} (h:Qt 2 T t):Qt 1 T t:=fun s st l hg hq hn hf=>by
 obtain⟨st',e,g⟩:=h s st l hg hq hn hf.2;have e:prsT s (.bin 2) st=prsT s (.binL 2 t) st':=e;rw[zhb (i:=2) g.ok g.sq hf.1]at e;refine⟨st',?_,g⟩;show prsT s (.bin 1) st=prsT s (.binL 1 t) st';rw[zgI hg (by decide)];exact okb e _
theorem Qt.up1 {T:List Tk} {t:Tr} (h:Qt 1 T t):Qt 0 T t:=fun s st l hg hq hn hf=>by
 obtain⟨st',e,g⟩:=h s st l hg hq hn hf.2;have e:prsT s (.bin 1) st=prsT s (.binL 1 t) st':=e;rw[zhb (i:=1) g.ok g.sq hf.1]at e;refine⟨st',?_,g⟩;show prsT s (.bin 0) st=prsT s (.binL 0 t) st';rw[zgI hg (by decide)];exact okb e _
theorem Qt.up {T:List Tk} {t:Tr}:∀ {j i:Nat},Qt j T t->i≤j->j≤4->Qt i T t:=by
 intro j i h hij hj;have h4:j=4->∀ i,i≤4->Qt i T t:=by
  rintro rfl i hi;rcases (show i=0∨i=1∨i=2∨i=3∨i=4 by omega) with rfl|rfl|rfl|rfl|rfl
  ·exact h.chain.up3.up2.up1
  ·exact h.chain.up3.up2
  ·exact h.chain.up3
  ·exact h.chain
  ·exact h
 rcases (show j=0∨j=1∨j=2∨j=3∨j=4 by omega) with rfl|rfl|rfl|rfl|rfl
 ·obtain rfl:i=0:=by omega
  exact h
 ·rcases (show i=0∨i=1 by omega) with rfl|rfl
  ·exact h.up1
  ·exact h
 ·rcases (show i=0∨i=1∨i=2 by omega) with rfl|rfl|rfl
  ·exact h.up2.up1
  ·exact h.up2
  ·exact h
 ·rcases (show i=0∨i=1∨i=2∨i=3 by omega) with rfl|rfl|rfl|rfl
  ·exact h.up3.up2.up1
  ·exact h.up3.up2
  ·exact h.up3
  ·exact h
 ·exact h4 rfl i hij
theorem Qt.par {T:List Tk} {t:Tr} (h:Qt 0 T t):Qt 4 (tkS 40::(T++ [tkS 41])) t:=fun s st l hg hq hn hf=>by
 have hq:Sq s st.1 (tkS 40::(T++ [tkS 41]++l)):=hq;have i1:gIs st zfg=true:=by rw[zhZ hq];rfl
 have g1:=zow hg hq;have q1:=g1.sq;rw[zs]at q1;obtain⟨st',e,g2⟩:=h s (gAdv s st) (tkS 41::l) g1.ok q1 hn ⟨rfl,rfl,fun e=>by cases e⟩;have e:prsT s (.bin 0) (gAdv s st)=prsT s (.binL 0 t) st':=e;rw[zhb g2.ok g2.sq rfl]at e;obtain⟨e3,g3⟩:=zft (w:=zc3) g2.ok g2.sq rfl;refine⟨gAdv s st',?_,?_⟩
 ·show prsT s .prim st= .ok (t,gAdv s st');rw[zcy hg,zbq,if_pos i1];exact (okb e _).trans ((okb e3 _).trans rfl)
 ·have:=(g1.trans g2).trans0 g3;rwa[uB]at this
theorem zha {st:GSt} {w:List UInt8} {lw:LeafW} {T l:List Tk} {n:Nd} (hw:zgD w=some lw) (hw1:w≠zfg) (hg:GOk s st) (h:Sq s st.1 (tkW w::(T++l))) (hn:st.2+1≤64)
  (hl:∀ st1,GOk s st1->Sq s st1.1 (T++l)->∃ st2,zdl s st1 lw= .ok (n,st2)∧Got s st1 0 l st2):∃ st',prsT s .prim st= .ok (.leaf n,st')∧Got s st 1 l st':=by
 have i1:gIs st zfg=false:=by
  rw[zhZ h];show (true&&decide (w=zfg))=false;rw[decide_eq_false hw1];rfl
 obtain⟨e0,g0⟩:=zi4 hg h (by omega);obtain⟨_,e,_⟩:=id h;have e1:zK st.1=1:=congrArg (fun a=>a.1) e;have e2:zL st.1=w:=congrArg (fun a=>a.2.1) e;obtain⟨st2,e3,g3⟩:=hl _ g0.ok g0.sq;refine⟨st2,?_,g0.trans0 g3⟩;rw[zcy hg,zbq,if_neg (by rw[i1];exact yN),if_neg (by rw[e1];decide)];have c0:zaD st (zK st.1==1) 3= .ok ():=by rw[e1];rfl
 refine (okb c0 _).trans ?_;rw[e2,hw];exact (okb e0 _).trans ((okb e3 _).trans rfl)
theorem q_ref {st:GSt} {w:List UInt8} {l:List Tk} (hw:w.length≤32) (hg:GOk s st) (h:Sq s st.1 (tkR w::l)) (hn:st.2+1≤64):∃ st',prsT s .prim st= .ok (.leaf (18,0,0,0,0,0,[],w,()),st')∧Got s st 1 l st':=by
 have i1:gIs st zfg=false:=by rw[zhZ h];rfl
 obtain⟨e0,g0⟩:=zi4 hg h (by omega);obtain⟨_,e,_⟩:=id h;have e1:zK st.1=2:=congrArg (fun a=>a.1) e;have e2:zL st.1=w:=congrArg (fun a=>a.2.1) e;refine⟨_,?_,g0⟩;rw[zcy hg,zbq,if_neg (by rw[i1];exact yN),if_pos e1];have c0:zaD st (decide ((zL st.1).length≤32)) 2= .ok ():=by rw[e2,decide_eq_true hw];rfl
 refine (okb c0 _).trans ((okb e0 _).trans ?_);rw[e2];rfl
theorem setN {n:Nd} {k c L R N M:Int} {I:List Int} {S:List UInt8} (e:n=(k,c,ndL n,ndR n,N,M,I,S,())) (hL:ndL n=L) (hR:ndR n=R):n=(k,c,L,R,N,M,I,S,()):=by rw[<-hL, <-hR];exact e
theorem zsJ {n:Nd} (h:TrOk (.leaf n)):Qt 4 (zkn n) (.leaf n):=fun s st l hg hq hn hf=>by
 obtain⟨h1,h2,hR,hL⟩:=h;have hn:st.2+1≤64:=hn;obtain⟨⟨k1,k2⟩,_⟩:=zaG h1;show ∃ st',prsT s .prim st= .ok (.leaf n,st')∧Got s st 1 l st';unfold zkn at hq;rcases (show ndK n=1∨ndK n=2∨ndK n=3∨ndK n=4∨ndK n=5∨ndK n=6∨ndK n=7∨ndK n=18 by omega) with k|k|k|k|k|k|k|k<;>rw[k]at hq hL
 ·obtain⟨e,b1,b2⟩:=fld1 h1 k;have e:=setN e (hL (by decide)) hR;refine zha (w:=zjK) (lw:=.days) (T:=[tkN (ndN n),tkN (ndM n)]) rfl (by decide) hg hq hn fun st1 g1 q1=>?_;obtain⟨a1,c1⟩:=zbu (lo:=1) (hi:=zdr) g1 q1 b1.1 b1.2;obtain⟨a2,c2⟩:=zbu (lo:=0) (hi:=zdr) c1.ok c1.sq b2.1 b2.2;refine⟨_,(okb a1 _).trans ((okb a2 _).trans ?_),c1.trans0 c2⟩
  conv=>rhs;rw[e]
  rfl
 ·obtain⟨e,b0,b1,b2⟩:=fld2 h1 k;have e:=setN e (hL (by decide)) hR;refine zha (w:=zgl) (lw:=.years) (T:=[tkN (ndC n),tkN (ndN n),tkN (ndM n)]) rfl (by decide) hg hq hn fun st1 g1 q1=>?_;obtain⟨a0,c0⟩:=zbu (lo:=0) (hi:=2) g1 q1 b0.1 b0.2;obtain⟨a1,c1⟩:=zbu (lo:=1) (hi:=400) c0.ok c0.sq b1.1 b1.2;obtain⟨a2,c2⟩:=zbu (lo:=0) (hi:=ndN n - 1) c1.ok c1.sq b2.1 b2.2;refine⟨_,(okb a0 _).trans ((okb a1 _).trans ((okb a2 _).trans ?_)),(c0.trans0 c1).trans0 c2⟩
  conv=>rhs;rw[e]
  rfl
 ·obtain⟨e,b0,b1,b2,b3⟩:=fld3 h1 k;have e:=setN e (hL (by decide)) hR;refine zha (w:=zcj) (lw:=.months) (T:=tkN (ndC n)::zc5 (ndI n)) rfl (by decide) hg hq hn fun st1 g1 q1=>?_;obtain⟨a0,c0⟩:=zbu (lo:=0) (hi:=2) g1 q1 b0.1 b0.2;obtain⟨st2,a1,c1⟩:=zhc b1 b2 b3 c0.ok c0.sq;refine⟨_,(okb a0 _).trans ((okb a1 _).trans ?_),c0.trans0 c1⟩
  conv=>rhs;rw[e]
  rfl
 ·obtain⟨e,b0,b1,b2,b3⟩:=fld4 h1 k;have e:=setN e (hL (by decide)) hR;refine zha (w:=za5) (lw:=.monthdays) (T:=tkN (ndC n)::zc5 (ndI n)) rfl (by decide) hg hq hn fun st1 g1 q1=>?_;obtain⟨a0,c0⟩:=zbu (lo:=0) (hi:=2) g1 q1 b0.1 b0.2;obtain⟨st2,a1,c1⟩:=zhc b1 b2 b3 c0.ok c0.sq;refine⟨_,(okb a0 _).trans ((okb a1 _).trans ?_),c0.trans0 c1⟩
  conv=>rhs;rw[e]
  rfl
 ·obtain⟨e,b1,b2,b3⟩:=fld5 h1 k;have e:=setN e (hL (by decide)) hR;refine zha (w:=zbl) (lw:=.weekdays) (T:=zc5 (ndI n)) rfl (by decide) hg hq hn fun st1 g1 q1=>?_;obtain⟨st2,a1,c1⟩:=zhc b1 b2 b3 g1 q1;refine⟨_,(okb a1 _).trans ?_,c1⟩
  conv=>rhs;rw[e]
  rfl
 ·obtain⟨e,b0,b1,b2,b3⟩:=fld6 h1 k;have e:=setN e (hL (by decide)) hR;refine zha (w:=zdf) (lw:=.weeks) (T:=tkN (ndC n)::zc5 (ndI n)) rfl (by decide) hg hq hn fun st1 g1 q1=>?_;obtain⟨a0,c0⟩:=zbu (lo:=0) (hi:=2) g1 q1 b0.1 b0.2;obtain⟨st2,a1,c1⟩:=zhc b1 b2 b3 c0.ok c0.sq;refine⟨_,(okb a0 _).trans ((okb a1 _).trans ?_),c0.trans0 c1⟩
  conv=>rhs;rw[e]
  rfl
 ·obtain⟨e,b0,b1,bz,b2,b3⟩:=fld7 h1 k;have e:=setN e rfl hR;refine zha (w:=wNth) (lw:=.nth) (T:=[tkN (ndC n),tkN (ndN n),tkN (ndM n),zed (ndL n)]) rfl (by decide) hg hq hn fun st1 g1 q1=>?_;obtain⟨a0,c0⟩:=zbu (lo:=0) (hi:=2) g1 q1 b0.1 b0.2;obtain⟨a1,c1⟩:=zbu (lo:=-60) (hi:=60) c0.ok c0.sq b1.1 b1.2;obtain⟨a2,c2⟩:=zbu (lo:=0) (hi:=6) c1.ok c1.sq b2.1 b2.2;obtain⟨a3,c3⟩:=zot (x:=ndL n) (by omega) c2.ok c2.sq;have cz:zaD (gAdv s st1) ((zK (gAdv s st1).1 != 3)||(Tok.n (gAdv s st1).1 != 0)) 1= .ok ():=by
   have hq:=c0.sq;obtain⟨_,e,_⟩:=hq;have e2:Tok.n (gAdv s st1).1=ndN n:=congrArg (fun a=>a.2.2) e;rw[e2,bne_iff_ne.2 bz,xZ];rfl
  refine⟨_,(okb a0 _).trans ((okb cz _).trans ((okb a1 _).trans ((okb a2 _).trans ((okb a3 _).trans ?_)))),((c0.trans0 c1).trans0 c2).trans0 c3⟩
  conv=>rhs;rw[e]
  rfl
 ·obtain⟨e,b0⟩:=ztn h1 k;have e:=setN e (hL (by decide)) hR;have hl:(ndS n).length≤32:=by
   unfold zcv at b0;simp only[zd,decide_eq_true_iff]at b0;exact b0.1.2
  obtain⟨st',e1,g1⟩:=q_ref hl hg hq hn;refine⟨st',e1.trans ?_,g1⟩
  conv=>rhs;rw[e]
theorem zk8 {st:GSt} {w:List UInt8} {sw:SufW} {T l:List Tk} {t t':Tr} {k:Int} (hw:sufW w=some sw) (hg:GOk s st) (h:Sq s st.1 (tkW w::(T++l))) (hn:st.2+1≤64)
  (hl:∀ st1,GOk s st1->st1.2=st.2+1->Sq s st1.1 (T++l)->∃ st2,sufT (s:=s) t st1 sw= .ok (t',st2)∧Got s st1 k l st2):∃ st',prsT s (.chainL t) st=prsT s (.chainL t') st'∧Got s st (1+k) l st':=by
 obtain⟨e0,g0⟩:=zi4 hg h (by omega);obtain⟨_,e,_⟩:=id h;have e1:zK st.1=1:=congrArg (fun a=>a.1) e;have e2:zL st.1=w:=congrArg (fun a=>a.2.1) e;obtain⟨st2,e3,g3⟩:=hl _ g0.ok rfl g0.sq;refine⟨st2,?_,g0.trans g3⟩;rw[zgs hg e1 (by rw[e2];exact hw)];exact (okb e0 _).trans ((okb e3 _).trans rfl)
theorem q_un {n:Nd} {a:Tr} {st:GSt} {l:List Tk} (h1:zba n=true) (hk:11≤ndK n∧ndK n≤16) (hLR:ndL n=0∧ndR n=0) (hg:GOk s st) (hq:Sq s st.1 (ziP [] n++l)) (hn:st.2+1≤64):
  ∃ st',prsT s (.chainL a) st=prsT s (.chainL (.un n a)) st'∧Got s st 1 l st':=by
 unfold ziP at hq;rcases (show ndK n=11∨ndK n=12∨ndK n=13∨ndK n=14∨ndK n=15∨ndK n=16 by omega) with k|k|k|k|k|k<;>rw[k]at hq
 ·obtain⟨e,b1⟩:=ztu h1 k;have e:=setN e hLR.1 hLR.2;refine zk8 (k:=0) (w:=zeQ) (sw:=.shift) (T:=[tkN (ndN n)]) rfl hg hq hn fun st1 g1 _ q1=>?_;obtain⟨a1,c1⟩:=zbu (lo:=-zdr) (hi:=zdr) g1 q1 b1.1 b1.2;have hs:gSuf s st1 .shift= .ok ((11,0,0,0,ndN n,0,[],[],()),gAdv s st1):=(okb a1 _).trans rfl;refine⟨_,(okb hs _).trans ?_,c1⟩
  conv=>rhs;rw[e]
 ·obtain⟨e,b1⟩:=ztt h1 k;have e:=setN e hLR.1 hLR.2;refine zk8 (k:=0) (w:=zhW) (sw:=.from_) (T:=[tkN (ndN n)]) rfl hg hq hn fun st1 g1 _ q1=>?_;obtain⟨a1,c1⟩:=zbu (lo:=0) (hi:=zdr) g1 q1 b1.1 b1.2;have hs:gSuf s st1 .from_= .ok ((12,0,0,0,ndN n,0,[],[],()),gAdv s st1):=(okb a1 _).trans rfl;refine⟨_,(okb hs _).trans ?_,c1⟩
  conv=>rhs;rw[e]
 ·obtain⟨e,b1⟩:=zts h1 k;have e:=setN e hLR.1 hLR.2;refine zk8 (k:=0) (w:=zeP) (sw:=.until_) (T:=[tkN (ndN n)]) rfl hg hq hn fun st1 g1 _ q1=>?_;obtain⟨a1,c1⟩:=zbu (lo:=0) (hi:=zdr) g1 q1 b1.1 b1.2;have hs:gSuf s st1 .until_= .ok ((13,0,0,0,ndN n,0,[],[],()),gAdv s st1):=(okb a1 _).trans rfl;refine⟨_,(okb hs _).trans ?_,c1⟩
  conv=>rhs;rw[e]
 ·obtain⟨e,b1,b2,b3⟩:=ztr h1 k;have e:=setN e hLR.1 hLR.2;refine zk8 (k:=0) (w:=zeZ) (sw:=.also) (T:=zc5 (ndI n)) rfl hg hq hn fun st1 g1 _ q1=>?_;obtain⟨st2,a1,c1⟩:=zhc b1 b2 b3 g1 q1;have hs:gSuf s st1 .also= .ok ((14,0,0,0,0,0,ndI n,[],()),st2):=(okb a1 _).trans rfl;refine⟨_,(okb hs _).trans ?_,c1⟩
  conv=>rhs;rw[e]
 ·obtain⟨e,b1,b2,b3⟩:=ztq h1 k;have e:=setN e hLR.1 hLR.2;refine zk8 (k:=0) (w:=zck) (sw:=.except_) (T:=zc5 (ndI n)) rfl hg hq hn fun st1 g1 _ q1=>?_;obtain⟨st2,a1,c1⟩:=zhc b1 b2 b3 g1 q1;have hs:gSuf s st1 .except_= .ok ((15,0,0,0,0,0,ndI n,[],()),st2):=(okb a1 _).trans rfl;refine⟨_,(okb hs _).trans ?_,c1⟩
  conv=>rhs;rw[e]
 ·obtain⟨e,b0,⟨b1,b2,b3⟩,b4⟩:=ztp h1 k;have e:=setN e hLR.1 hLR.2;refine zk8 (k:=0) (w:=wPos) (sw:=.pos) (T:=tkN (ndC n)::zed (ndM n)::zc5 (ndI n)) rfl hg hq hn fun st1 g1 _ q1=>?_;obtain⟨a0,c0⟩:=zbu (lo:=0) (hi:=2) g1 q1 b0.1 b0.2;obtain⟨a2,c2⟩:=zot (x:=ndM n) (by omega) c0.ok c0.sq;obtain⟨st2,a1,c1⟩:=zhc b1 b2 b3 c2.ok c2.sq;have hs:gSuf s st1 .pos= .ok ((16,ndC n,0,0,0,ndM n,ndI n,[],()),st2):=(okb a0 _).trans ((okb a2 _).trans ((okb a1 _).trans rfl));refine⟨_,(okb hs _).trans ?_,(c0.trans0 c2).trans0 c1⟩
  conv=>rhs;rw[e]
theorem zqA {n:Nd} {a b:Tr} {B:List Tk} {st:GSt} {l:List Tk} (h1:zba n=true) (hk:ndK n=17) (hLR:ndL n=0∧ndR n=0) (hB:Qt 4 B b) (hg:GOk s st) (hq:Sq s st.1 (ziP B n++l)) (hn:st.2+1+(b.size:Int)≤64):
  ∃ st',prsT s (.chainL a) st=prsT s (.chainL (.bin n a b)) st'∧Got s st (1+b.size) l st':=by
 unfold ziP at hq;rw[hk]at hq;obtain⟨e,b1⟩:=zto h1 hk;have e:=setN e hLR.1 hLR.2;refine zk8 (k:=b.size) (w:=zbS) (sw:=.behind) (T:=tkN (ndN n)::tkW wOf::B) rfl hg hq (by omega) fun st1 g1 hn1 q1=>?_;obtain⟨a1,c1⟩:=zbu (lo:=1) (hi:=400) g1 q1 b1.1 b1.2;obtain⟨a2,c2⟩:=zft (w:=wOf) c1.ok c1.sq rfl;obtain⟨st',a3,c3⟩:=hB s _ l c2.ok c2.sq (by rw[c2.n,c1.n];omega) trivial;have a3:prsT s .prim (gAdv s (gAdv s st1))= .ok (b,st'):=a3;refine⟨st',?_,?_⟩
 ·have hs:gSuf s st1 .behind= .ok ((17,0,0,0,ndN n,0,[],[],()),gAdv s (gAdv s st1)):=(okb a1 _).trans ((okb a2 _).trans rfl);refine (okb hs _).trans ((okb a3 _).trans ?_)
  conv=>rhs;rw[e]
 ·have:=(c1.trans c2).trans c3;rwa[uB,uB]at this
def levI (t:Tr):Nat:=(t.lev - 1).toNat
theorem zjb (k:Int):1≤levS k∧levS k≤5:=by
 unfold levS
 repeat' split
 all_goals omega
theorem zme {k:Int} (h:¬ (8≤k∧k≤17)):levS k=5:=by
 unfold levS;rw[if_neg (by omega),if_neg (by omega),if_neg (by omega),if_neg (by omega)]
theorem zlj {k:Int} (h:11≤k∧k≤17):levS k=4:=by
 unfold levS;rw[if_neg (by omega),if_neg (by omega),if_neg (by omega),if_pos h]
theorem zi3 {a:Tr} (h:Qt (levI a) a.toks a) {r:Int} {i:Nat} (hr:r=(i:Int)+1) (hi:i≤4):Qt i (parT (decide (a.lev≥r)) a.toks) a:=by
 obtain⟨l1,l5⟩:=zjb (ndK a.root);have hl:levI a≤4:=by unfold levI Tr.lev;omega
 by_cases hc:a.lev≥r
 ·rw[decide_eq_true hc];refine h.up ?_ hl;unfold levI Tr.lev at *;omega
 ·rw[decide_eq_false hc];exact (Qt.par (h.up (zm _) hl)).up hi (zk _)
theorem zk9 {i:Nat} {n:Nd} {a b:Tr} {A B:List Tk} (hi:i≤2) (hA:Qt i A a) (hB:Qt (i+1) B b) (hn0:n=(opK i,zNd.2)):Qt i (A++(tkW (opW i)::B)) (.bin n a b):=fun s st l hg hq hn hf=>by
 have hn:st.2+((a.size+b.size+1:Nat):Int)≤64:=hn;rw[zs]at hq;have hfa:ztm i (tkW (opW i)::B++l):=by
  rcases (show i=0∨i=1∨i=2 by omega) with rfl|rfl|rfl
  ·exact⟨rfl,rfl,fun _=>rfl⟩
  ·exact⟨rfl,fun _=>rfl⟩
  ·exact fun _=>rfl
 obtain⟨st1,e1,g1⟩:=hA s st _ hg hq (by omega) hfa;have q1:Sq s st1.1 (tkW (opW i)::(B++l)):=g1.sq;have n1:=g1.n;have hop:gIs st1 (opW i)=true:=by
  rw[zhZ q1];show (true&&decide (opW i=opW i))=true;rw[decide_eq_true rfl];rfl
 obtain⟨e2,g2⟩:=zi4 g1.ok q1 (by omega);have n2:=g2.n;have hfb:ztm (i+1) l:=by
  rcases (show i=0∨i=1∨i=2 by omega) with rfl|rfl|rfl
  ·exact hf.2
  ·exact hf.2
  ·trivial
 obtain⟨st3,e3,g3⟩:=hB s _ l g2.ok g2.sq (by rw[n2,n1];omega) hfb;have e4:prsT s (.bin (i+1)) (gAdv s (st1.1,st1.2+1))= .ok (b,st3):=by
  rcases (show i=0∨i=1∨i=2 by omega) with rfl|rfl|rfl
  ·have e3:prsT s (.bin 1) _=prsT s (.binL 1 b) st3:=e3;rw[zhb (i:=1) g3.ok g3.sq hf.1]at e3;exact e3
  ·have e3:prsT s (.bin 2) _=prsT s (.binL 2 b) st3:=e3;rw[zhb (i:=2) g3.ok g3.sq hf.1]at e3;exact e3
  ·have e3:prsT s .chain _=prsT s (.chainL b) st3:=e3;rw[zou g3.ok g3.sq hf]at e3;rw[zhd g2.ok (by decide)];exact e3
 have e5:prsT s (.binL i a) st1=prsT s (.binL i (.bin n a b)) st3:=by
  rw[ziq g1.ok hop,hn0];exact (okb e2 _).trans ((okb e4 _).trans rfl)
 refine⟨st3,?_,?_⟩
 ·rw[e1];rcases (show i=0∨i=1∨i=2 by omega) with rfl|rfl|rfl
  ·exact e5
  ·exact e5
  ·exact e5
 ·have:=(g1.trans g2).trans g3;rwa[show (a.size:Int)+1+(b.size:Int)=((Tr.bin n a b).size:Int) by show _=((a.size+b.size+1:Nat):Int);omega]at this
theorem fld_op {n:Nd} (h:zba n=true) (hk:8≤ndK n∧ndK n≤10) (hLR:ndL n=0∧ndR n=0):n=(ndK n,zNd.2):=by
 rcases (show ndK n=8∨ndK n=9∨ndK n=10 by omega) with k|k|k
 ·rw[k];exact setN (fld8 h k) hLR.1 hLR.2
 ·rw[k];exact setN (fld9 h k) hLR.1 hLR.2
 ·rw[k];exact setN (fld10 h k) hLR.1 hLR.2
theorem zeS:∀ t:Tr,TrOk t->Qt (levI t) t.toks t
 | .leaf n,h=>by
  have:levI (.leaf n)=4:=by
   show (levS (ndK n) - 1).toNat=4;rw[zme h.2.1];rfl
  rw[this];exact zsJ h
 | .un n a,h=>by
  obtain⟨h1,hk,hLR,ha⟩:=h;have:levI (.un n a)=3:=by
   show (levS (ndK n) - 1).toNat=3;rw[zlj (by omega)];rfl
  rw[this];intro s st l hg hq hn hf;have hn:st.2+((a.size+1:Nat):Int)≤64:=hn;have hq:Sq s st.1 (parT (decide (a.lev≥4)) a.toks++ziP [] n++l):=hq;rw[zs]at hq;obtain⟨st1,e1,g1⟩:=zi3 (zeS a ha) (i:=3) rfl (by decide) s st _ hg hq (by omega) trivial;have n1:=g1.n;obtain⟨st2,e2,g2⟩:=q_un (a:=a) h1 hk hLR g1.ok g1.sq (by omega);exact⟨st2,Eq.trans e1 e2,g1.trans g2⟩
 | .bin n a b,h=>by
  obtain⟨h1,hk,hLR,ha,hb⟩:=h;by_cases h17:ndK n=17
  ·have:levI (.bin n a b)=3:=by
    show (levS (ndK n) - 1).toNat=3;rw[zlj (by omega)];rfl
   rw[this];intro s st l hg hq hn hf;have hn:st.2+((a.size+b.size+1:Nat):Int)≤64:=hn;unfold Tr.toks at hq;rw[if_pos h17,zs]at hq;obtain⟨st1,e1,g1⟩:=zi3 (zeS a ha) (i:=3) rfl (by decide) s st _ hg hq (by omega) trivial;have n1:=g1.n;obtain⟨st2,e2,g2⟩:=zqA (a:=a) h1 h17 hLR (zi3 (zeS b hb) (r:=5) (i:=4) rfl (by decide)) g1.ok g1.sq (by omega);have:=g1.trans g2;rw[show (a.size:Int)+(1+(b.size:Int))=((Tr.bin n a b).size:Int) by show _=((a.size+b.size+1:Nat):Int);omega]at this;exact⟨st2,Eq.trans e1 e2,this⟩
  ·have hk:8≤ndK n∧ndK n≤10:=by omega
   have hn0:=fld_op h1 hk hLR;unfold Tr.toks;rw[if_neg h17];have hl:levI (.bin n a b)=(levS (ndK n) - 1).toNat:=rfl;rw[hl];rcases (show ndK n=8∨ndK n=9∨ndK n=10 by omega) with k|k|k<;>rw[k]at hn0 ⊢
   ·exact zk9 (i:=2) (by decide) (zi3 (zeS a ha) rfl (by decide)) (zi3 (zeS b hb) (r:=4) rfl (by decide)) hn0
   ·exact zk9 (i:=0) (by decide) (zi3 (zeS a ha) rfl (by decide)) (zi3 (zeS b hb) (r:=2) rfl (by decide)) hn0
   ·exact zk9 (i:=1) (by decide) (zi3 (zeS a ha) rfl (by decide)) (zi3 (zeS b hb) (r:=3) rfl (by decide)) hn0
theorem q_rule {T:List Tk} {t:Tr} (hT:Qt 0 T t) (hs:t.size≤64) (h:Toks s 0 T):zeU s= .ok t:=by
 have hg:GOk s (zh6 s):=zgO;obtain⟨st',e,g⟩:=hT s (zh6 s) [] hg (by rw[zI];exact ziR h) (by show (0:Int)+_≤64;omega) ⟨rfl,rfl,trivial⟩;have e:prsT s (.bin 0) (zh6 s)=prsT s (.binL 0 t) st':=e;rw[zhb g.ok g.sq rfl]at e;have hc:zK st'.1=0:=g.sq;have hr:zeO s (zh6 s)= .ok (t,st'):=by
  unfold zeO;refine (okb e _).trans ?_;have c0:zaD st' (zK st'.1==0) 3= .ok ():=by rw[hc];rfl
  exact (okb c0 _).trans rfl
 unfold zeU;rw[hr];rfl
end
def Bd:List UInt8->Prop
 | []=>True
 |c::_=>isPt c=false
theorem Bd.app {r v:List UInt8} (h:Bd r) (hv:Bd v):Bd (r++v):=by
 cases r with
 |nil=>exact hv
 |cons c r=>exact h
def zeM (k:Int) (u:List UInt8):TokT:=
 match u with
 | []=>(0,k,0,[],0,())
 |c::r=>
  if 0 < zay (c::r) then (1,k,(zay (c::r):Nat),(c::r).take (zay (c::r)),0,())
  else if c=64∧0 < zay r then (2,k,(zay r:Nat)+1,r.take (zay r),0,())
  else match zcR (c::r) with
   |some (q,n,t,x)=>(q,k,(n:Nat),t,x,())
   |none=>if c=40∨c=41∨c=61 then (4,k,1,[c],0,()) else (5,k,1,[c],0,())
theorem zoa (s:List UInt8):zaR s=zeM ((zbB isWh s:Nat):Int) (s.drop (zbB isWh s)):=rfl
theorem zqm (k:Int) (u:List UInt8):zeM k u=((zeM 0 u).1,k,(zeM 0 u).2.2):=by
 cases u with
 |nil=>rfl
 |cons c r=>
  unfold zeM;simp only[];split
  ·rfl
  ·split
   ·rfl
   ·split
    ·rfl
    ·split<;>rfl
theorem ziT {p:UInt8->Bool} {w u:List UInt8} (h:∀ c∈w,p c=true):zbB p (w++u)=w.length+zbB p u:=by
 unfold zbB;rw[jg h,zf]
theorem znZ {p:UInt8->Bool} {c:UInt8} {u:List UInt8} (h:p c=false):zbB p (c::u)=0:=by
 unfold zbB;rw[jN,h];rfl
theorem zsz {u:List UInt8} (h:Bd u):zbB isPt u=0:=by
 cases u with
 |nil=>rfl
 |cons c r=>exact znZ h
structure Sp (a:Tk) (w:List UInt8):Prop where
 ne:w≠ []
 nw:∀ c∈w,isWh c=false
 cls:a.1≠0
 sc:∀ r,(a.1=4∨Bd r)->zeM 0 (w++r)=(a.1,0,((w.length:Nat):Int),a.2.1,a.2.2,())
inductive Lex:List UInt8->List Tk->Prop
 |nil {ws:List UInt8} (h:∀ c∈ws,isWh c=true):Lex ws []
 |tok {ws w r:List UInt8} {a:Tk} {l:List Tk} (h:∀ c∈ws,isWh c=true) (hw:Sp a w) (hb:a.1=4∨Bd r) (hr:Lex r l):Lex (ws++(w++r)) (a::l)
theorem Lex.ws {ws u:List UInt8} {l:List Tk} (h:∀ c∈ws,isWh c=true) (hu:Lex u l):Lex (ws++u) l:=by
 cases hu with
 |nil h2=>exact .nil fun c hc=>(yz.1 hc).elim (h c) (h2 c)
 |tok h2 hw hb hr=>
  rw[<-zs];exact .tok (fun c hc=>(yz.1 hc).elim (h c) (h2 c)) hw hb hr
theorem Lex.sp {u:List UInt8} {l:List Tk} (hu:Lex u l):Lex (32::u) l:=Lex.ws (ws:=[32]) (fun c hc=>by rw[zu.1 hc];rfl) hu
theorem Lex.app {u:List UInt8} {l:List Tk} (hu:Lex u l) {v:List UInt8} {m:List Tk} (hv:Lex v m) (hb:Bd v):Lex (u++v) (l++m):=by
 induction hu with
 |nil h=>exact hv.ws h
 |tok h hw hb' _ ih=>
  rw[zs,zs];refine .tok h hw ?_ ih;rcases hb' with h4|hb'
  ·exact .inl h4
  ·exact .inr (hb'.app hb)
theorem Sp.lex {a:Tk} {w:List UInt8} (h:Sp a w):Lex w [a]:=by
 have:=Lex.tok (ws:=[]) (r:=[]) (l:=[]) (fun c hc=>by cases hc) h (.inr trivial) (.nil fun c hc=>by cases hc);rwa[yB,zI]at this
theorem Sp.lexR {a:Tk} {w:List UInt8} (h:Sp a w) {r:List UInt8} {l:List Tk} (hb:a.1=4∨Bd r) (hr:Lex r l):Lex (w++r) (a::l):=by
 have:=Lex.tok (ws:=[]) (fun c hc=>by cases hc) h hb hr;rwa[yB]at this
theorem zmd {u:List UInt8} {l:List Tk} (h:Lex u l):∀ (s p:List UInt8),s=p++u->Toks s ((p.length:Nat):Int) l:=by
 induction h with
 | @nil ws h=>
  intro s p hs;show zK (zd6 s _)=0;unfold zd6;rw[hs,zH,qx,zoa];have e:zbB isWh ws=ws.length:=by
   have:=ziT (u:=[]) h;rw[zI]at this;rw[this];rfl
  rw[e,jI];rfl
 | @tok ws w r a l h hw hb hr ih=>
  intro s p hs;have hd:s.drop p.length=ws++(w++r):=by rw[hs,qx]
  have e:zbB isWh (ws++(w++r))=ws.length:=by
   rw[ziT h];cases w with
   |nil=>exact absurd rfl hw.ne
   |cons c q=>
    rw[xw,znZ (hw.nw c (zR ..))];rfl
  have hsc:zd6 s ((p.length:Nat):Int)=(a.1,((ws.length:Nat):Int)+((p.length:Nat):Int),((w.length:Nat):Int),a.2.1,a.2.2,()):=by
   unfold zd6;rw[zH,hd,zoa,e,qx,zqm,hw.sc r hb];rfl
  refine⟨?_,?_,?_⟩
  ·rw[hsc];exact hw.cls
  ·rw[hsc];rfl
  ·rw[hsc];have:=ih s (p++ws++w) (by rw[hs];simp);rw[zf,zf]at this;show Toks s (((ws.length:Nat):Int)+((p.length:Nat):Int)+((w.length:Nat):Int)) l;rwa[show ((ws.length:Nat):Int)+((p.length:Nat):Int)+((w.length:Nat):Int)=((p.length+ws.length+w.length:Nat):Int) by omega]
theorem zjt {p:UInt8->Bool} (h:∀ n:Fin 256,p (zS n.val)=true) (c:UInt8):p c=true:=by
 have:=h ⟨c.toNat,c.toNat_lt⟩;rwa[kf]at this
theorem zqS (c:UInt8) (h:isLt c=true):isPt c=true∧isWh c=false∧isDg c=false∧c≠64∧c≠45:=by
 have:=zjt (p:=fun c=>!isLt c||(isPt c&& !isWh c&& !isDg c&&(c != 64)&&(c != 45))) (by decide+kernel) c;rw[h]at this;simp only[Bool.not_true,xv,zd,zw,bne_iff_ne]at this;exact⟨this.1.1.1.1,this.1.1.1.2,this.1.1.2,this.1.2,this.2⟩
theorem pt_wh (c:UInt8) (h:isPt c=true):isWh c=false:=by
 have:=zjt (p:=fun c=>!isPt c|| !isWh c) (by decide+kernel) c;rw[h]at this
 simpa using this
theorem zgQ (c:UInt8) (h:isDg c=true):isPt c=true∧isLt c=false∧isWh c=false∧c≠64∧c≠45∧c≠40∧c≠41∧c≠61:=by
 have:=zjt (p:=fun c=>!isDg c||(isPt c&& !isLt c&& !isWh c&&(c != 64)&&(c != 45)&&(c != 40)&&(c != 41)&&(c != 61))) (by decide+kernel) c;rw[h]at this;simp only[Bool.not_true,xv,zd,zw,bne_iff_ne]at this;exact⟨this.1.1.1.1.1.1.1,this.1.1.1.1.1.1.2,this.1.1.1.1.1.2,this.1.1.1.1.2,this.1.1.1.2,this.1.1.2,this.1.2,this.2⟩
theorem zd9 {w r:List UInt8} (hne:w≠ []) (h1:w.head?.all isLt=true) (h2:∀ c∈w,isPt c=true) (hb:Bd r):zay (w++r)=w.length:=by
 cases w with
 |nil=>exact absurd rfl hne
 |cons c q=>
  have hc:isLt c=true:=h1;show (if isLt c then zbB isPt (c::q++r) else 0)=_;rw[if_pos hc,ziT h2,zsz hb];rfl
theorem zsA {w:List UInt8} (hne:w≠ []) (h1:w.head?.all isLt=true) (h2:∀ c∈w,isPt c=true):Sp (tkW w) w:=by
 refine⟨hne,fun c hc=>pt_wh c (h2 c hc),by show (1:Int)≠0;decide,fun r hb=>?_⟩;have hb:Bd r:=hb.resolve_left (by show (1:Int)≠4;decide);have hl:=zd9 hne h1 h2 hb;have hp:0 < w.length:=qn.2 hne;cases w with
 |nil=>exact absurd rfl hne
 |cons c q=>
  show zeM 0 (c::(q++r))=_;unfold zeM;have hl:zay (c::(q++r))=(c::q).length:=hl;simp only[];rw[hl,if_pos hp];show (1,0,_,(c::q++r).take (c::q).length,0,())=_;rw[xS];rfl
theorem sp_ref {w:List UInt8} (h:zcv w=true):Sp (tkR w) (64::w):=by
 unfold zcv at h;simp only[zd,decide_eq_true_iff,zT]at h;obtain⟨⟨hne,_⟩,h1,h2⟩:=h;refine⟨by simp,fun c hc=>?_,by show (2:Int)≠0;decide,fun r hb=>?_⟩
 ·rcases zX.1 hc with rfl|hc
  ·rfl
  ·exact pt_wh c (h2 c hc)
 have hb:Bd r:=hb.resolve_left (by show (2:Int)≠4;decide);have hl:=zd9 hne h1 h2 hb;have hp:0 < w.length:=qn.2 hne;show zeM 0 (64::(w++r))=_;unfold zeM;have h64:zay (64::(w++r))=0:=rfl;simp only[];rw[h64,if_neg (by decide),hl,if_pos ⟨trivial,hp⟩,xS];show (2,0,((w.length:Nat):Int)+1,w,0,())=(2,0,(((64::w).length:Nat):Int),w,0,());rw[zt];rfl
theorem zjT {c:UInt8} (hc:c=40∨c=41∨c=61):Sp (tkS c) [c]:=by
 have hn:∀ r,zcR (c::r)=none:=fun r=>by
  unfold zcR;have:(zaN (c::r)).length=0:=by
   unfold zaN zaQ;rcases hc with rfl|rfl|rfl<;>rfl
  rw[if_pos this]
 refine⟨by simp,fun d hd=>?_,by show (4:Int)≠0;decide,fun r _=>?_⟩
 ·rw[zu.1 hd];rcases hc with rfl|rfl|rfl<;>rfl
 show zeM 0 (c::r)=_;unfold zeM;have h0:zay (c::r)=0:=by rcases hc with rfl|rfl|rfl<;>rfl
 have h64:c≠64:=by rcases hc with rfl|rfl|rfl<;>decide
 simp only[];rw[h0,if_neg (by decide),if_neg (fun h=>h64 h.1),hn,if_pos hc];rfl
theorem zoE (l:List UInt8) (c:UInt8):numv (l++ [c])=10 * numv l+(c.toNat - 48):=by unfold numv;rw[js];rfl
theorem zmC {d:Nat} (h:d < 10):isDg (zS (48+d))=true∧(zS (48+d)).toNat=48+d:=by
 have e:(zS (48+d)).toNat=48+d:=by rw[UInt8.toNat_ofNat'];exact Nat.mod_eq_of_lt (by omega)
 refine⟨?_,e⟩;unfold isDg;rw[zd,decide_eq_true_iff,decide_eq_true_iff,yY,yY,e];exact⟨by show 48≤_;omega,by show _≤57;omega⟩
theorem zes (u:Nat):(∀ c∈yq u,isDg c=true)∧numv (yq u)=u∧(1≤u->(yq u).head? ≠some 48)∧yq u≠ []:=by
 induction u using Nat.strongRecOn with
 |_ u ih=>
  rw[yq];by_cases hu:u < 10
  ·rw[dif_pos hu];obtain⟨h1,h2⟩:=zmC hu;refine⟨fun c hc=>by rw[zu.1 hc];exact h1,?_,fun h0 e=>?_,by simp⟩
   ·show 10 * 0+((zS (48+u)).toNat - 48)=u;rw[h2];omega
   ·have e:some (zS (48+u))=some 48:=e;have:=congrArg UInt8.toNat (ya e);rw[h2]at this;have:48+u=48:=this;omega
  ·rw[dif_neg hu];obtain⟨i1,i2,i3,i4⟩:=ih (u / 10) (by omega);obtain⟨h1,h2⟩:=zmC (d:=u % 10) (by omega);refine⟨fun c hc=>?_,?_,fun _ e=>?_,by simp⟩
   ·rcases yz.1 hc with hc|hc
    ·exact i1 c hc
    ·rw[zu.1 hc];exact h1
   ·rw[zoE,i2,h2];omega
   ·refine i3 (by omega) ?_;cases hd:yq (u / 10) with
    |nil=>exact absurd hd i4
    |cons c q=>rw[hd]at e;exact e
theorem znY {w r:List UInt8} (h:∀ c∈w,isDg c=true) (hb:Bd r):(w++r).takeWhile isDg=w:=by
 rw[jg h];have:r.takeWhile isDg=[]:=by
  cases r with
  |nil=>rfl
  |cons c q=>
   have hb:isPt c=false:=hb;rw[jN];have:isDg c=false:=by
    cases hd:isDg c with
    |false=>rfl
    |true=>rw[(zgQ c hd).1]at hb;cases hb
   rw[this];rfl
 rw[this,zI]
def ze6 (n:Int):Prop:=-1125899906842624 < n∧n < 1125899906842624
theorem zn2 {n:Int} (h:ze6 n):Sp (tkN n) (deI n):=by
 obtain⟨h1,h2⟩:=h;unfold deI Lib.itoa;by_cases hn:n < 0
 ·obtain⟨d1,d2,d3,d4⟩:=zes n.natAbs;have d3:=d3 (by omega);generalize hD:yq n.natAbs=D at *;have hde:deI n=45::D:=by unfold deI Lib.itoa;rw[if_pos hn,hD]
  rw[if_pos hn];refine⟨by simp,fun c hc=>?_,by show (3:Int)≠0;decide,fun r hb=>?_⟩
  ·rcases zX.1 hc with rfl|hc
   ·rfl
   ·exact (zgQ c (d1 c hc)).2.2.1
  have hb:Bd r:=hb.resolve_left (by show (3:Int)≠4;decide);have hlen:0 < D.length:=qn.2 d4;have hs:zaQ (45::(D++r))=1:=rfl;have hg:zaN (45::(D++r))=D:=by
   unfold zaN;rw[hs];exact znY d1 hb
  have hv:valN (45::(D++r))=n:=by
   unfold valN;rw[hs,if_pos rfl,hg,d2,Nat.min_eq_left (by unfold zda;omega)];omega
  show zeM 0 (45::(D++r))=_;unfold zeM;simp only[];rw[show zay (45::(D++r))=0 from rfl,if_neg (by decide),if_neg (fun h=>absurd h.1 (by decide))];have hnt:zcR (45::(D++r))=some (3,1+D.length,(45::(D++r)).take (1+D.length),n):=by
   unfold zcR;rw[hg,hs,hv,if_neg (by omega),if_neg (fun h=>d3 h.1)]
  rw[hnt];have ht:(45::(D++r)).take (1+D.length)=45::D:=by
   rw[Nat.add_comm,vz,xS]
  show (3,0,((1+D.length:Nat):Int),(45::(D++r)).take (1+D.length),n,())=(3,0,(((45::D).length:Nat):Int),deI n,n,());rw[ht,hde,zt,Nat.add_comm]
 ·obtain⟨d1,d2,d3,d4⟩:=zes n.toNat;have hz:n.toNat=0->yq n.toNat=[48]:=fun e=>by rw[e,yq];rfl
  generalize hD:yq n.toNat=D at *;have hde:deI n=D:=by unfold deI Lib.itoa;rw[if_neg hn,hD]
  rw[if_neg hn];refine⟨d4,fun c hc=>(zgQ c (d1 c hc)).2.2.1,by show (3:Int)≠0;decide,fun r hb=>?_⟩;have hb:Bd r:=hb.resolve_left (by show (3:Int)≠4;decide);have hlen:0 < D.length:=qn.2 d4;cases D with
  |nil=>exact absurd rfl d4
  |cons c q=>
   have hdg:=d1 c (zR ..);obtain⟨_,f1,_,f2,f3,_⟩:=zgQ c hdg;have hs:zaQ (c::(q++r))=0:=by
    unfold zaQ;exact if_neg (fun e=>f3 (ya e))
   have hg:zaN (c::(q++r))=c::q:=by
    unfold zaN;rw[hs];exact znY (w:=c::q) d1 hb
   have hv:valN (c::(q++r))=n:=by
    unfold valN;rw[hs,if_neg (by decide),hg,d2,Nat.min_eq_left (by unfold zda;omega)];omega
   show zeM 0 (c::(q++r))=_;unfold zeM;simp only[];rw[show zay (c::(q++r))=0 by show (if isLt c then zbB isPt (c::(q++r)) else 0)=0;rw[f1];rfl,if_neg (by decide),if_neg (fun h=>f2 h.1)];have hnt:zcR (c::(q++r))=some (3,0+(c::q).length,(c::(q++r)).take (0+(c::q).length),n):=by
    unfold zcR;rw[hg,hs,hv,if_neg (by omega),if_neg];rintro ⟨e1,e2⟩;by_cases h0:n.toNat=0
    ·have e3:q=[]:=by have:=hz h0;exact (List.cons.inj this).2
     rw[e3]at e2;have e2:1 < 0+1:=e2;omega
    ·exact d3 (by omega) e1
   rw[hnt];have ht:(c::(q++r)).take (0+(c::q).length)=c::q:=by
    rw[yr];exact xS (l₁:=c::q)
   show (3,0,((0+(c::q).length:Nat):Int),(c::(q++r)).take (0+(c::q).length),n,())=(3,0,(((c::q).length:Nat):Int),deI n,n,());rw[ht,hde,yr]
theorem zch:∀ l:List Int,(∀ x∈l,ze6 x)->Lex (zdz l) (l.map tkN)∧Bd (zdz l)
 | [],_=>⟨.nil (fun c hc=>(by cases hc)),trivial⟩
 |x::r,h=>by
  obtain⟨h1,h2⟩:=zch r fun y hy=>h y (yg _ hy);refine⟨?_,rfl⟩;show Lex (32::deI x++zdz r) (tkN x::r.map tkN);exact ((zn2 (h x (zR ..))).lexR (.inr h2) h1).sp
theorem zo3:∀ (l:List Int) (i:Nat),(∀ x∈l,ze6 x)->Lex (litS (i+1) l++ [41]) (l.map tkN++ [tkS 41])∧Bd (litS (i+1) l++ [41])
 | [],_,_=>⟨(zjT (.inr (.inl rfl))).lex,rfl⟩
 |x::r,i,h=>by
  obtain⟨h1,h2⟩:=zo3 r (i+1) fun y hy=>h y (yg _ hy);have e:litS (i+1) (x::r)++ [41]=32::(deI x++(litS (i+1+1) r++ [41])):=by
   show (sepS (i+1)++deI x++litS (i+1+1) r)++ [41]=_;simp[sepS]
  rw[e];exact⟨((zn2 (h x (zR ..))).lexR (.inr h2) h1).sp,rfl⟩
theorem zdY {l:List Int} (hne:l≠ []) (h:∀ x∈l,ze6 x):Lex (zbT l) (zc5 l)∧Bd (zbT l):=by
 cases l with
 |nil=>exact absurd rfl hne
 |cons x r=>
  obtain⟨h1,h2⟩:=zo3 r 0 fun y hy=>h y (yg _ hy);have e:zbT (x::r)=32::([40]++(deI x++(litS (0+1) r++ [41]))):=by
   show (sepS 0++deI x++litS (0+1) r)++ [41]=_;simp[sepS]
  rw[e];exact⟨((zjT (.inl rfl)).lexR (.inl rfl) ((zn2 (h x (zR ..))).lexR (.inr h2) h1)).sp,rfl⟩
theorem za8 {w:List UInt8} (hne:w≠ []) (h1:w.head?.all isLt=true) (h2:w.all isPt=true) {r:List UInt8} {l:List Tk} (hr:Lex r l) (hb:Bd r):Lex (w++r) (tkW w::l):=
 (zsA hne h1 (zT.1 h2)).lexR (.inr hb) hr
theorem zkm (n:Int) {r:List UInt8} {l:List Tk} (hr:Lex r l) (hb:Bd r):Lex (zb2 n++r) (zed n::l)∧Bd (zb2 n++r):=by
 unfold zb2 zed;split
 ·exact⟨(za8 (by decide) rfl (by decide) hr hb).sp,rfl⟩
 ·exact⟨(za8 (by decide) rfl (by decide) hr hb).sp,rfl⟩
theorem zs1:Lex [] []:=.nil fun c hc=>by cases hc
theorem zhn {c:Bool} {u:List UInt8} {l:List Tk} (h:Lex u l):Lex (parS c u) (parT c l):=by
 cases c with
 |true=>exact h
 |false=>exact (zjT (.inl rfl)).lexR (.inl rfl) (h.app (zjT (.inr (.inl rfl))).lex rfl)
def Tr.text:Tr->List UInt8
 | .leaf n=>zc6 n
 | .un n a=>parS (decide (a.lev≥4)) a.text++zca [] n
 | .bin n a b=>if ndK n=17 then parS (decide (a.lev≥4)) a.text++zca (parS (decide (b.lev≥5)) b.text) n
  else parS (decide (a.lev≥levS (ndK n))) a.text++(putS ([32]++opWd (levS (ndK n))++ [32]) []++parS (decide (b.lev≥levS (ndK n)+1)) b.text)
theorem zcl {lo hi:Int} {z:Bool} (h1: -1125899906842624 < lo) (h2:hi < 1125899906842624):∀ {l:List Int} {last:Int},Ris lo hi z last l->∀ x∈l,ze6 x
 | [],_,_,x,hx=>by cases hx
 |y::r,_,h,x,hx=>by
  obtain⟨_,a,b,_,h⟩:=h;rcases zX.1 hx with rfl|hx
  ·exact⟨by omega,by omega⟩
  ·exact zcl h1 h2 h x hx
theorem num1 {a:Int} (h:ze6 a):∀ x∈ [a],ze6 x:=fun x hx=>by rw[zu.1 hx];exact h
theorem num2 {a b:Int} (h:ze6 a) (h':ze6 b):∀ x∈ [a,b],ze6 x:=fun x hx=>by
 rcases zX.1 hx with rfl|hx
 ·exact h
 ·exact num1 h' x hx
theorem num3 {a b c:Int} (h:ze6 a) (h':ze6 b) (h'':ze6 c):∀ x∈ [a,b,c],ze6 x:=fun x hx=>by
 rcases zX.1 hx with rfl|hx
 ·exact h
 ·exact num2 h' h'' x hx
theorem nt {a lo hi:Int} (h:lo≤a∧a≤hi) (h1: -1125899906842624 < lo:=by decide) (h2:hi < 1125899906842624:=by decide):ze6 a:=⟨by omega,by omega⟩
theorem zqX {n:Nd} (h1:zba n=true) (h2:¬ (8≤ndK n∧ndK n≤17)):Lex (zc6 n) (zkn n):=by
 obtain⟨⟨k1,k2⟩,_⟩:=zaG h1;unfold zc6 zkn;rcases (show ndK n=1∨ndK n=2∨ndK n=3∨ndK n=4∨ndK n=5∨ndK n=6∨ndK n=7∨ndK n=18 by omega) with k|k|k|k|k|k|k|k<;>rw[k]
 ·obtain⟨e,b1,b2⟩:=fld1 h1 k;obtain⟨x,y⟩:=zch [ndN n,ndM n] (num2 (nt b1) (nt b2));exact za8 (w:=zjK) (by decide) rfl (by decide) x y
 ·obtain⟨e,b0,b1,b2⟩:=fld2 h1 k;obtain⟨x,y⟩:=zch [ndC n,ndN n,ndM n] (num3 (nt b0) (nt b1) ⟨by omega,by omega⟩);exact za8 (w:=zgl) (by decide) rfl (by decide) x y
 ·obtain⟨e,b0,b1,b2,b3⟩:=fld3 h1 k;obtain⟨x,y⟩:=zch [ndC n] (num1 (nt b0));obtain⟨x2,y2⟩:=zdY b1 (zcl (by decide) (by decide) b3);have:=za8 (w:=zcj) (by decide) rfl (by decide) (x.app x2 y2) (y.app y2);rwa[<-zs]at this
 ·obtain⟨e,b0,b1,b2,b3⟩:=fld4 h1 k;obtain⟨x,y⟩:=zch [ndC n] (num1 (nt b0));obtain⟨x2,y2⟩:=zdY b1 (zcl (by decide) (by decide) b3);have:=za8 (w:=za5) (by decide) rfl (by decide) (x.app x2 y2) (y.app y2);rwa[<-zs]at this
 ·obtain⟨e,b1,b2,b3⟩:=fld5 h1 k;obtain⟨x2,y2⟩:=zdY b1 (zcl (by decide) (by decide) b3);exact za8 (w:=zbl) (by decide) rfl (by decide) x2 y2
 ·obtain⟨e,b0,b1,b2,b3⟩:=fld6 h1 k;obtain⟨x,y⟩:=zch [ndC n] (num1 (nt b0));obtain⟨x2,y2⟩:=zdY b1 (zcl (by decide) (by decide) b3);have:=za8 (w:=zdf) (by decide) rfl (by decide) (x.app x2 y2) (y.app y2);rwa[<-zs]at this
 ·obtain⟨e,b0,b1,bz,b2,b3⟩:=fld7 h1 k;obtain⟨x,y⟩:=zch [ndC n,ndN n,ndM n] (num3 (nt b0) (nt b1) (nt b2));obtain⟨x2,y2⟩:=zkm (ndL n) zs1 trivial;have:=za8 (w:=wNth) (by decide) rfl (by decide) (x.app x2 y2) (y.app y2);rw[<-zs]at this;exact this
 ·obtain⟨e,b0⟩:=ztn h1 k;show Lex ((64::ndS n)++ []) [tkR (ndS n)];rw[zI];exact (sp_ref b0).lex
theorem zo2 {n:Nd} {b:List UInt8} {B:List Tk} (h1:zba n=true) (h2:11≤ndK n∧ndK n≤17) (hB:ndK n=17->Lex b B):Lex (zca b n) (ziP B n)∧Bd (zca b n):=by
 unfold zca ziP;rcases (show ndK n=11∨ndK n=12∨ndK n=13∨ndK n=14∨ndK n=15∨ndK n=16∨ndK n=17 by omega) with k|k|k|k|k|k|k<;>rw[k]
 ·obtain⟨e,b1⟩:=ztu h1 k;obtain⟨x,y⟩:=zch [ndN n] (num1 (nt b1));exact⟨(za8 (w:=zeQ) (by decide) rfl (by decide) x y).sp,rfl⟩
 ·obtain⟨e,b1⟩:=ztt h1 k;obtain⟨x,y⟩:=zch [ndN n] (num1 (nt b1));exact⟨(za8 (w:=zhW) (by decide) rfl (by decide) x y).sp,rfl⟩
 ·obtain⟨e,b1⟩:=zts h1 k;obtain⟨x,y⟩:=zch [ndN n] (num1 (nt b1));exact⟨(za8 (w:=zeP) (by decide) rfl (by decide) x y).sp,rfl⟩
 ·obtain⟨e,b1,b2,b3⟩:=ztr h1 k;obtain⟨x2,y2⟩:=zdY b1 (zcl (by decide) (by decide) b3);exact⟨(za8 (w:=zeZ) (by decide) rfl (by decide) x2 y2).sp,rfl⟩
 ·obtain⟨e,b1,b2,b3⟩:=ztq h1 k;obtain⟨x2,y2⟩:=zdY b1 (zcl (by decide) (by decide) b3);exact⟨(za8 (w:=zck) (by decide) rfl (by decide) x2 y2).sp,rfl⟩
 ·obtain⟨e,b0,⟨b1,b2,b3⟩,b4⟩:=ztp h1 k;obtain⟨x,y⟩:=zch [ndC n] (num1 (nt b0));obtain⟨x2,y2⟩:=zdY b1 (zcl (by decide) (by decide) b3);obtain⟨x3,y3⟩:=zkm (ndM n) x2 y2;refine⟨?_,rfl⟩;show Lex ((32::wPos)++zdz [ndC n]++((zb2 (ndM n)++ [])++zbT (ndI n))) _;rw[zI,zs];exact (za8 (w:=wPos) (by decide) rfl (by decide) (x.app x3 y3) (y.app y3)).sp
 ·obtain⟨e,b1⟩:=zto h1 k;obtain⟨x,y⟩:=zch [ndN n] (num1 (nt b1));refine⟨?_,rfl⟩;show Lex ((32::zbS)++zdz [ndN n]++(((32::wOf)++ [32]++ [])++b)) _;rw[zI,zs,zs];have x3:Lex (32::(wOf++([32]++b))) (tkW wOf::B):=(za8 (w:=wOf) (by decide) rfl (by decide) (hB k).sp rfl).sp;exact (za8 (w:=zbS) (by decide) rfl (by decide) (x.app x3 rfl) (y.app rfl)).sp
theorem zdX:∀ t:Tr,TrOk t->Lex t.text t.toks
 | .leaf n,h=>zqX h.1 h.2.1
 | .un n a,h=>by
  obtain⟨h1,hk,_,ha⟩:=h;obtain⟨x,y⟩:=zo2 (b:=[]) (B:=[]) h1 (by omega) (fun e=>by omega);exact (zhn (zdX a ha)).app x y
 | .bin n a b,h=>by
  obtain⟨h1,hk,_,ha,hb⟩:=h;unfold Tr.text Tr.toks;split
  ·rename_i h17;obtain⟨x,y⟩:=zo2 (n:=n) h1 (by omega) (fun _=>zhn (c:=decide (b.lev≥5)) (zdX b hb));exact (zhn (zdX a ha)).app x y
  ·rename_i h17;have hl:levS (ndK n)=1∨levS (ndK n)=2∨levS (ndK n)=3:=by
    rcases (show ndK n=8∨ndK n=9∨ndK n=10 by omega) with k|k|k<;>rw[k]
    ·exact .inr (.inr rfl)
    ·exact .inl rfl
    ·exact .inr (.inl rfl)
   have hB:=zhn (c:=decide (b.lev≥levS (ndK n)+1)) (zdX b hb);generalize parS (decide (b.lev≥levS (ndK n)+1)) b.text=v at hB ⊢;generalize parT (decide (b.lev≥levS (ndK n)+1)) b.toks=m at hB ⊢;have hw:Lex (putS ([32]++opWd (levS (ndK n))++ [32]) []++v) (tkW (opWd (levS (ndK n)))::m)∧Bd (putS ([32]++opWd (levS (ndK n))++ [32]) []++v):=by
    have e:putS ([32]++opWd (levS (ndK n))++ [32]) []++v=32::(opWd (levS (ndK n))++(32::v)):=by
     show (([32]++opWd (levS (ndK n))++ [32])++ [])++v=_;simp
    rw[e];refine⟨?_,rfl⟩;rcases hl with hl|hl|hl<;>rw[hl]
    ·exact (za8 (w:=wOr) (by decide) rfl (by decide) hB.sp rfl).sp
    ·exact (za8 (w:=zlP) (by decide) rfl (by decide) hB.sp rfl).sp
    ·exact (za8 (w:=wAnd) (by decide) rfl (by decide) hB.sp rfl).sp
   exact (zhn (zdX a ha)).app hw.1 hw.2
theorem zos {t:Tr} (h:TrOk t):Qt 0 t.toks t:=(zeS t h).up (zm _) (by have:=zjb (ndK t.root);unfold levI Tr.lev;omega)
theorem znc {t:Tr} (h:TrOk t) (hs:t.size≤64):zeU t.text= .ok t:=q_rule (zos h) hs (zmd (zdX t h) _ [] rfl)
def opsN (n:Nd):Int:=(zdD (ndK n)).1
def ze5 (n:Nd) (i:Int):Bool:=
 (bif decide (0 < opsN n) then inB (ndL n) 0 (i - 1) else (ndL n==0)||(ndK n==7))&&(bif decide (1 < opsN n) then inB (ndR n) 0 (i - 1) else ndR n==0)
def bump (u:List Int) (j:Int):List Int:=u.set j.toNat (u.getD j.toNat 0+1)
def zbA (u:List Int) (n:Nd):List Int:=
 bif decide (1 < opsN n) then bump (bump u (ndL n)) (ndR n) else bif decide (0 < opsN n) then bump u (ndL n) else u
def zb5 (r:List Nd) (k:Nat):List Int:=(r.take k).foldl zbA (zr r.length 0)
def zcS (n:Nd) (i:Int):Bool:=zba n&&ze5 n i
def zcW (r:List Nd):Nat->Bool
 |0=>true
 |k+1=>zcW r k&&zcS (r.getD k zNd) (k:Int)
def wfS (r:List Nd):Bool:=decide (1≤r.length)&&decide (r.length≤64)&&zcW r r.length&& !((zb5 r r.length).take (r.length - 1)).any not1
def zcP (r:List Nd):Int:=if 64 < r.length∨r.any bigN=true then 2 else if wfS r=true then 0 else 1
theorem zdW {r:List Nd}:∀ {k:Nat},zcW r k=true↔∀ j,j < k->zcS (r.getD j zNd) (j:Int)=true
 |0=>⟨fun _ j h=>by omega,fun _=>rfl⟩
 |k+1=>by
  unfold zcW;rw[zd,zdW (k:=k)];constructor
  ·rintro ⟨h1,h2⟩ j hj;by_cases e:j=k
   ·rw[e];exact h2
   ·exact h1 j (by omega)
  ·exact fun h=>⟨fun j hj=>h j (by omega),h k (by omega)⟩
theorem ziw (r:List Nd) (j:Nat):zav r (j:Int)=r.getD j zNd:=rfl
theorem zl2 {n:Nd} (h:11≤ndK n∧ndK n≤16):opsN n=1:=by
 unfold opsN;rcases (show ndK n=11∨ndK n=12∨ndK n=13∨ndK n=14∨ndK n=15∨ndK n=16 by omega) with k|k|k|k|k|k<;>rw[k]<;>rfl
theorem zi8 {n:Nd} (h:(8≤ndK n∧ndK n≤10)∨ndK n=17):opsN n=2:=by
 unfold opsN;rcases (show ndK n=8∨ndK n=9∨ndK n=10∨ndK n=17 by omega) with k|k|k|k<;>rw[k]<;>rfl
theorem zgL {n:Nd} (h1:1≤ndK n∧ndK n≤18) (h:¬ (8≤ndK n∧ndK n≤17)):opsN n=0:=by
 unfold opsN;rcases (show ndK n=1∨ndK n=2∨ndK n=3∨ndK n=4∨ndK n=5∨ndK n=6∨ndK n=7∨ndK n=18 by omega) with k|k|k|k|k|k|k|k<;>rw[k]<;>rfl
theorem zoD {n:Nd} {i:Int} (h:11≤ndK n∧ndK n≤16):ze5 n i=true↔(0≤ndL n∧ndL n≤i - 1)∧ndR n=0:=by
 unfold ze5;rw[zl2 h,decide_eq_true (by decide),decide_eq_false (by decide),cond_true,cond_false,zd,zaM,beq_iff_eq]
theorem zi9 {n:Nd} {i:Int} (h:(8≤ndK n∧ndK n≤10)∨ndK n=17):ze5 n i=true↔(0≤ndL n∧ndL n≤i - 1)∧(0≤ndR n∧ndR n≤i - 1):=by
 unfold ze5;rw[zi8 h,decide_eq_true (by decide),decide_eq_true (by decide),cond_true,cond_true,zd,zaM,zaM]
theorem zl3 {n:Nd} {i:Int} (h1:1≤ndK n∧ndK n≤18) (h:¬ (8≤ndK n∧ndK n≤17)):ze5 n i=true↔(ndL n=0∨ndK n=7)∧ndR n=0:=by
 unfold ze5;rw[zgL h1 h,decide_eq_false (by decide),decide_eq_false (by decide),cond_false,cond_false,zd,zZ,beq_iff_eq,beq_iff_eq,beq_iff_eq]
theorem zrS (n:Nd):n=(ndK n,ndC n,ndL n,ndR n,ndN n,ndM n,ndI n,ndS n,()):=rfl
theorem zgP {n:Nd} (h:8≤ndK n∧ndK n≤17) (l r:Int):zba (zcc n l r)=zba n:=by
 have h7:zcV (zcc n l r)=zcV n:=by
  unfold zcV;have hk:(zcc n l r).1=n.1:=rfl;have h7:(n.1==7)=false:=beq_eq_false_iff_ne.2 fun e=>by have:ndK n=7:=e;omega
  rw[hk,h7];rfl
 unfold zba;rw[h7];rfl
def trF:Nat->List Nd->Int->Tr
 |0,r,i=>.leaf (zav r i)
 |k+1,r,i=>
  if 11≤ndK (zav r i)∧ndK (zav r i)≤16 then .un (zcc (zav r i) 0 0) (trF k r (ndL (zav r i)))
  else if (8≤ndK (zav r i)∧ndK (zav r i)≤10)∨ndK (zav r i)=17 then .bin (zcc (zav r i) 0 0) (trF k r (ndL (zav r i))) (trF k r (ndR (zav r i)))
  else .leaf (zav r i)
theorem zk1:∀ (k:Nat) (r:List Nd) (i:Int),(trF k r i).lev=levS (ndK (zav r i))
 |0,_,_=>rfl
 |k+1,r,i=>by
  unfold trF;split
  ·rfl
  ·split<;>rfl
def Low (r:List Nd):Prop:=∀ j:Nat,j < r.length->(8≤ndK (zav r j)->ndK (zav r j)≤17->0≤ndL (zav r j)∧ndL (zav r j) < j)∧(8≤ndK (zav r j)->ndK (zav r j)≤10∨ndK (zav r j)=17->0≤ndR (zav r j)∧ndR (zav r j) < j)
theorem zqg {n:Nd} (b:List UInt8) (h:11≤ndK n∧ndK n≤16):zca b n=zca [] (zcc n 0 0):=by
 unfold zca;have hk:ndK (zcc n 0 0)=ndK n:=rfl;rw[hk];rcases (show ndK n=11∨ndK n=12∨ndK n=13∨ndK n=14∨ndK n=15∨ndK n=16 by omega) with k|k|k|k|k|k<;>rw[k]<;>rfl
theorem ziO (n:Nd) (a b:Tr):(Tr.bin n a b).text=if ndK n=17 then parS (decide (a.lev≥4)) a.text++zca (parS (decide (b.lev≥5)) b.text) n
 else parS (decide (a.lev≥levS (ndK n))) a.text++(putS ([32]++opWd (levS (ndK n))++ [32]) []++parS (decide (b.lev≥levS (ndK n)+1)) b.text):=rfl
theorem zgM {r:List Nd} (hl:Low r):∀ (k:Nat) (i:Nat),i < k->i < r.length->zcX k r i=(trF k r i).text
 |0,_,h,_=>by omega
 |k+1,i,hk,hr=>by
  obtain⟨hL,hR⟩:=hl i hr;unfold zcX trF;generalize hn:zav r (i:Int)=n at *;have key:∀ j:Int,0≤j->j < (i:Int)->zcX k r j=(trF k r j).text:=fun j h0 h1=>by
   obtain⟨m,rfl⟩:∃ m:Nat,j=(m:Int):=⟨j.toNat,by omega⟩;exact zgM hl k m (by omega) (by omega)
  by_cases h11:11≤ndK n∧ndK n≤16
  ·rw[if_pos h11,zlj (by omega),if_neg (by decide),if_pos rfl];obtain⟨a,b⟩:=hL (by omega) (by omega);show _=parS (decide ((trF k r (ndL n)).lev≥4)) (trF k r (ndL n)).text++zca [] (zcc n 0 0);rw[zk1,key _ a b,zqg _ h11]
  ·rw[if_neg h11];by_cases h8:(8≤ndK n∧ndK n≤10)∨ndK n=17
   ·rw[if_pos h8];obtain⟨a,b⟩:=hL (by omega) (by omega);obtain⟨c,d⟩:=hR (by omega) (by omega);rw[key _ a b,key _ c d];have hk:ndK (zcc n 0 0)=ndK n:=rfl;rw[ziO,hk,zk1,zk1];by_cases h17:ndK n=17
    ·rw[if_pos h17,h17,if_neg (by decide),if_pos (by decide)];have:∀ b,zca b n=zca b (zcc n 0 0):=fun b=>by
      unfold zca;rw[hk,h17];rfl
     rw[this]
    ·have hlt:levS (ndK n) < 4:=by rcases (show ndK n=8∨ndK n=9∨ndK n=10 by omega) with k|k|k<;>rw[k]<;>decide
     rw[if_neg h17,if_pos hlt]
   ·rw[if_neg h8];rw[zme (by omega),if_neg (by decide),if_neg (by decide)];rfl
theorem zct {r:List Nd} (h:zcW r r.length=true) {j:Nat} (hj:j < r.length):zba (zav r j)=true∧ze5 (zav r j) (j:Int)=true:=by
 have:=zdW.1 h j hj;unfold zcS at this;rw[zd]at this;exact this
theorem zma {r:List Nd} (h:zcW r r.length=true):Low r:=fun j hj=>by
 obtain⟨_,h2⟩:=zct h hj;constructor
 ·intro a b;by_cases hu:11≤ndK (zav r j)∧ndK (zav r j)≤16
  ·have:=((zoD hu).1 h2).1;omega
  ·have:=((zi9 (by omega)).1 h2).1;omega
 ·intro a b;have:=((zi9 (by omega)).1 h2).2;omega
theorem znO {r:List Nd} (h:zcW r r.length=true):∀ (k i:Nat),i < k->i < r.length->TrOk (trF k r i)
 |0,_,hk,_=>by omega
 |k+1,i,hk,hr=>by
  obtain⟨h1,h2⟩:=zct h hr;obtain⟨⟨k1,k2⟩,_⟩:=zaG h1;have key:∀ j:Int,0≤j->j≤(i:Int) - 1->TrOk (trF k r j):=fun j h0 h1=>by
   obtain⟨m,rfl⟩:∃ m:Nat,j=(m:Int):=⟨j.toNat,by omega⟩;exact znO h k m (by omega) (by omega)
  unfold trF;generalize zav r (i:Int)=n at *;by_cases h11:11≤ndK n∧ndK n≤16
  ·rw[if_pos h11];obtain⟨⟨a,b⟩,_⟩:=(zoD h11).1 h2;exact⟨by rw[zgP (by omega)];exact h1,h11,⟨rfl,rfl⟩,key _ a b⟩
  ·rw[if_neg h11];by_cases h8:(8≤ndK n∧ndK n≤10)∨ndK n=17
   ·rw[if_pos h8];obtain⟨⟨a,b⟩,⟨c,d⟩⟩:=(zi9 h8).1 h2;exact⟨by rw[zgP (by omega)];exact h1,h8,⟨rfl,rfl⟩,key _ a b,key _ c d⟩
   ·rw[if_neg h8];have hlf:¬ (8≤ndK n∧ndK n≤17):=by omega
    obtain⟨a,b⟩:=(zl3 ⟨k1,k2⟩ hlf).1 h2;exact⟨h1,hlf,b,fun e=>a.resolve_right e⟩
theorem zd1 (u:List Int) (j:Int):(bump u j).length=u.length:=List.length_set ..
theorem zmQ (u:List Int) (n:Nd):(zbA u n).length=u.length:=by
 unfold zbA;cases decide (1 < opsN n)<;>cases decide (0 < opsN n)<;>simp[zd1]
theorem zcL {u:List Int} {j:Int} {k:Nat} (hj:j.toNat < u.length):(bump u j).getD k 0=if k=j.toNat then u.getD k 0+1 else u.getD k 0:=by
 unfold bump;rw[zQ,uC];by_cases e:k=j.toNat
 ·subst e;rw[if_pos rfl,if_pos rfl,if_pos hj];rfl
 ·rw[if_neg fun h=>e h.symm,if_neg e,zQ]
theorem zcQ (r:List Nd) (k:Nat):(zb5 r k).length=r.length:=by
 unfold zb5;have:∀ (l:List Nd) (u:List Int),(l.foldl zbA u).length=u.length:=by
  intro l
  induction l with
  |nil=>intro u;rfl
  |cons n l ih=>intro u;rw[List.foldl_cons,ih,zmQ]
 rw[this,xF]
theorem zcF {r:List Nd} {k:Nat} (hk:k < r.length):zb5 r (k+1)=zbA (zb5 r k) (zav r k):=by
 unfold zb5;rw[zF hk,js];show zbA _ r[k]=zbA _ (r.getD k zNd);rw[zQ,yd hk];rfl
theorem zk0 (r:List Nd) (j:Nat):(zb5 r 0).getD j 0=0:=by
 unfold zb5;rw[List.take_zero,List.foldl_nil,zQ,List.getElem?_replicate];split<;>rfl
theorem zfi {n:Nd} {u:List Int} (h:(8≤ndK n->ndK n≤17->0≤ndL n∧ndL n < u.length)∧(8≤ndK n->ndK n≤10∨ndK n=17->0≤ndR n∧ndR n < u.length)) (hk:1≤ndK n∧ndK n≤18) (k:Nat):
  (zbA u n).getD k 0=u.getD k 0+(if 8≤ndK n∧ndK n≤17∧k=(ndL n).toNat then 1 else 0)+(if ((8≤ndK n∧ndK n≤10)∨ndK n=17)∧k=(ndR n).toNat then 1 else 0):=by
 obtain⟨hL,hR⟩:=h;unfold zbA;by_cases h11:11≤ndK n∧ndK n≤16
 ·obtain⟨a,b⟩:=hL (by omega) (by omega);rw[zl2 h11,decide_eq_false (by decide),decide_eq_true (by decide),cond_false,cond_true,zcL (by omega)];rw[if_neg (c:=((8≤ndK n∧ndK n≤10)∨ndK n=17)∧k=(ndR n).toNat) (by omega)];by_cases e:k=(ndL n).toNat
  ·rw[if_pos e,if_pos ⟨by omega,by omega,e⟩];omega
  ·rw[if_neg e,if_neg fun h=>e h.2.2];omega
 ·by_cases h8:(8≤ndK n∧ndK n≤10)∨ndK n=17
  ·obtain⟨a,b⟩:=hL (by omega) (by omega);obtain⟨c,d⟩:=hR (by omega) (by omega);rw[zi8 h8,decide_eq_true (by decide),cond_true,zcL (by rw[zd1];omega),zcL (by omega)];by_cases e:k=(ndL n).toNat
   ·rw[if_pos e,if_pos (c:=8≤ndK n∧ndK n≤17∧k=(ndL n).toNat) ⟨by omega,by omega,e⟩];by_cases e2:k=(ndR n).toNat
    ·rw[if_pos e2,if_pos ⟨h8,e2⟩]
    ·rw[if_neg e2,if_neg fun h=>e2 h.2];omega
   ·rw[if_neg e,if_neg (c:=8≤ndK n∧ndK n≤17∧k=(ndL n).toNat) fun h=>e h.2.2];by_cases e2:k=(ndR n).toNat
    ·rw[if_pos e2,if_pos ⟨h8,e2⟩];omega
    ·rw[if_neg e2,if_neg fun h=>e2 h.2];omega
  ·rw[zgL hk (by omega),decide_eq_false (by decide),decide_eq_false (by decide),cond_false,cond_false,if_neg (by omega),if_neg (by omega)];omega
def pot (u:List Int) (f:Nat->Nat):Nat->Nat
 |0=>0
 |m+1=>pot u f m+(if u.getD m 0=0 then f m else 0)
theorem zgJ {u:List Int} {f:Nat->Nat} {j:Int} (hj:j.toNat < u.length) (h0:u.getD j.toNat 0=0):∀ {m:Nat},(j.toNat < m->pot (bump u j) f m+f j.toNat=pot u f m)∧(m≤j.toNat->pot (bump u j) f m=pot u f m)
 |0=>⟨fun h=>by omega,fun _=>rfl⟩
 |m+1=>by
  obtain⟨i1,i2⟩:=zgJ (f:=f) hj h0 (m:=m);constructor
  ·intro h;unfold pot;rw[zcL hj];by_cases e:m=j.toNat
   ·rw[i2 (by omega),if_pos e,e,h0,if_neg (by decide),if_pos rfl];omega
   ·rw[if_neg e, <-i1 (by omega)];omega
  ·intro h;unfold pot;rw[i2 (by omega),zcL hj,if_neg (c:=m=j.toNat) (by omega)]
theorem zez {r:List Nd} (hl:Low r) (hk:∀ j:Nat,j < r.length->1≤ndK (zav r j)∧ndK (zav r j)≤18):∀ m,m≤r.length->∀ j,m≤j->(zb5 r m).getD j 0=0
 |0,_,j,_=>zk0 r j
 |m+1,hm,j,hj=>by
  obtain⟨a,b⟩:=hl m (by omega);rw[zcF (by omega),zfi (by rw[zcQ];exact⟨fun x y=>by have:=a x y;omega,fun x y=>by have:=b x y;omega⟩) (hk m (by omega)),zez hl hk m (by omega) j (by omega),if_neg,if_neg]
  ·omega
  ·rintro ⟨x,y⟩;have:=b (by omega) (by omega);omega
  ·rintro ⟨x,y,z⟩;have:=a x y;omega
theorem zgW {r:List Nd} (hl:Low r) (hk:∀ j:Nat,j < r.length->1≤ndK (zav r j)∧ndK (zav r j)≤18) (j:Nat):∀ d m,m+d≤r.length->(zb5 r m).getD j 0≤(zb5 r (m+d)).getD j 0
 |0,m,_=>xC _
 |d+1,m,h=>by
  have:=zgW hl hk j d m (by omega);obtain⟨a,b⟩:=hl (m+d) (by omega);rw[<-Nat.add_assoc,zcF (by omega),zfi (by rw[zcQ];exact⟨fun x y=>by have:=a x y;omega,fun x y=>by have:=b x y;omega⟩) (hk (m+d) (by omega))];have p1:(0:Int)≤if 8≤ndK (zav r (m+d:Nat))∧ndK (zav r (m+d:Nat))≤17∧j=(ndL (zav r (m+d:Nat))).toNat then 1 else 0:=by split<;>decide
  have p2:(0:Int)≤if ((8≤ndK (zav r (m+d:Nat))∧ndK (zav r (m+d:Nat))≤10)∨ndK (zav r (m+d:Nat))=17)∧j=(ndR (zav r (m+d:Nat))).toNat then 1 else 0:=by split<;>decide
  omega
theorem ziM {r:List Nd} (hl:Low r):∀ (k k' i:Nat),i < k->i < k'->i < r.length->trF k r i=trF k' r i
 |0,_,_,h,_,_=>by omega
 |_+1,0,_,_,h,_=>by omega
 |k+1,k'+1,i,h,h',hr=>by
  obtain⟨hL,hR⟩:=hl i hr;have key:∀ j:Int,0≤j->j < (i:Int)->trF k r j=trF k' r j:=fun j h0 h1=>by
   obtain⟨m,rfl⟩:∃ m:Nat,j=(m:Int):=⟨j.toNat,by omega⟩;exact ziM hl k k' m (by omega) (by omega) (by omega)
  unfold trF;split
  ·rename_i hu;obtain⟨a,b⟩:=hL (by omega) (by omega);rw[key _ a b]
  ·split
   ·rename_i hb;obtain⟨a,b⟩:=hL (by omega) (by omega);obtain⟨c,d⟩:=hR (by omega) (by omega);rw[key _ a b,key _ c d]
   ·rfl
theorem zl0 {r:List Nd} (hl:Low r) (hk:∀ j:Nat,j < r.length->1≤ndK (zav r j)∧ndK (zav r j)≤18) (h1:∀ j,(zb5 r r.length).getD j 0≤1):∀ m,m≤r.length->pot (zb5 r m) (fun j=>(trF (r.length+1) r j).size) m=m
 |0,_=>rfl
 |m+1,hm=>by
  have ih:=zl0 hl hk h1 m (by omega);obtain⟨hL,hR⟩:=hl m (by omega);have hkm:=hk m (by omega);have hb:∀ j,(zb5 r (m+1)).getD j 0≤1:=fun j=>by
   have:=zgW hl hk j (r.length - (m+1)) (m+1) (by omega);rw[show m+1+(r.length - (m+1))=r.length by omega]at this;have:=h1 j;omega
  have hab:=zez hl hk m (by omega);have hlen:=zcQ r m;have hpos:∀ j,0≤(zb5 r m).getD j 0:=fun j=>by
   have:=zgW hl hk j m 0 (by omega);rw[zk0,yr]at this;exact this
  have hm0:(zb5 r (m+1)).getD m 0=0:=by
   have h:=hab m (zk _);rw[zcF (by omega),zfi (by rw[zcQ];exact⟨fun x y=>by have:=hL x y;omega,fun x y=>by have:=hR x y;omega⟩) hkm,h,if_neg,if_neg]
   ·rfl
   ·rintro ⟨x,y⟩;have:=hR (by omega) (by omega);omega
   ·rintro ⟨x,y,z⟩;have:=hL x y;omega
  have key:∀ j:Int,0≤j->j < (m:Int)->(trF r.length r j).size=(trF (r.length+1) r (j.toNat:Nat)).size:=fun j h0 h1=>by
   obtain⟨q,rfl⟩:∃ q:Nat,j=(q:Int):=⟨j.toNat,by omega⟩;rw[zH,ziM hl r.length (r.length+1) q (by omega) (by omega) (by omega)]
  have hf:∀ n,zav r (m:Int)=n->(trF (r.length+1) r (m:Int)).size=(if 8≤ndK n∧ndK n≤17 then (trF (r.length+1) r ((ndL n).toNat:Nat)).size else 0)+(if (8≤ndK n∧ndK n≤10)∨ndK n=17 then (trF (r.length+1) r ((ndR n).toNat:Nat)).size else 0)+1:=by
   rintro n rfl
   conv=>lhs;unfold trF
   split
   ·rename_i hu;obtain⟨a,b⟩:=hL (by omega) (by omega);rw[if_pos (by omega),if_neg (by omega)];show (trF r.length r _).size+1=_;rw[key _ a b]
   ·split
    ·rename_i hu;obtain⟨a,b⟩:=hL (by omega) (by omega);obtain⟨c,d⟩:=hR (by omega) (by omega);rw[if_pos (by omega)];show (trF r.length r _).size+(trF r.length r _).size+1=_;rw[key _ a b,key _ c d]
    ·rw[if_neg (by omega)];rfl
  have hf:=hf _ rfl;unfold pot;rw[hm0,if_pos rfl];have hu:=zcF (r:=r) (k:=m) (by omega);rw[hu]at hb ⊢;generalize hn:zav r (m:Int)=n at *;rw[hf];unfold zbA at hb ⊢;by_cases h11:11≤ndK n∧ndK n≤16
  ·obtain⟨a,b⟩:=hL (by omega) (by omega);rw[zl2 h11,decide_eq_false (by decide),decide_eq_true (by decide),cond_false,cond_true]at hb ⊢;rw[if_pos (by omega),if_neg (by omega)];have h0:=hb (ndL n).toNat;rw[zcL (by omega),if_pos rfl]at h0;have:=hpos (ndL n).toNat;have:=(zgJ (f:=fun j=>(trF (r.length+1) r j).size) (u:=zb5 r m) (j:=ndL n) (by omega) (by omega) (m:=m)).1 (by omega);omega
  ·by_cases h8:(8≤ndK n∧ndK n≤10)∨ndK n=17
   ·obtain⟨a,b⟩:=hL (by omega) (by omega);obtain⟨c,d⟩:=hR (by omega) (by omega);rw[zi8 h8,decide_eq_true (by decide),cond_true]at hb ⊢;rw[if_pos (by omega),if_pos h8];have hne:(ndL n).toNat≠(ndR n).toNat:=fun e=>by
     have h0:=hb (ndR n).toNat;rw[zcL (by rw[zd1];omega),if_pos rfl,zcL (by omega),if_pos e.symm]at h0;have:=hpos (ndR n).toNat;omega
    have h0:=hb (ndL n).toNat;rw[zcL (by rw[zd1];omega),if_neg hne,zcL (by omega),if_pos rfl]at h0;have h2:=hb (ndR n).toNat;rw[zcL (by rw[zd1];omega),if_pos rfl,zcL (by omega),if_neg (fun e=>hne e.symm)]at h2;have p1:=hpos (ndL n).toNat;have p2:=hpos (ndR n).toNat;have e1:=(zgJ (f:=fun j=>(trF (r.length+1) r j).size) (u:=zb5 r m) (j:=ndL n) (by omega) (by omega) (m:=m)).1 (by omega);have e2:=(zgJ (f:=fun j=>(trF (r.length+1) r j).size) (u:=bump (zb5 r m) (ndL n)) (j:=ndR n) (by rw[zd1];omega) (by rw[zcL (by omega),if_neg (fun e=>hne e.symm)];omega) (m:=m)).1 (by omega);omega
   ·rw[zgL hkm (by omega),decide_eq_false (by decide),decide_eq_false (by decide),cond_false,cond_false,if_neg (by omega),if_neg (by omega),ih]
theorem zds {r:List Nd} (h:wfS r=true):(1≤r.length∧r.length≤64)∧zcW r r.length=true∧∀ j,j < r.length - 1->(zb5 r r.length).getD j 0=1:=by
 unfold wfS at h;simp only[zd,decide_eq_true_iff,zw,uD]at h;obtain⟨⟨h1,h2⟩,h3⟩:=h;refine⟨h1,h2,fun j hj=>?_⟩;have hl:=zcQ r r.length;have hj2:j < (zb5 r r.length).length:=by omega
 have:=h3 ((zb5 r r.length)[j]) (List.mem_take_iff_getElem.2 ⟨j,by omega,rfl⟩);rw[zQ,yd hj2];unfold not1 at this
 simpa using this
def zc4 (r:List Nd):Tr:=trF (r.length+1) r ((r.length:Int) - 1)
theorem znR {r:List Nd} (h:wfS r=true):(zc4 r).size=r.length:=by
 obtain⟨⟨h1,h2⟩,h3,h4⟩:=zds h;have hl:=zma h3;have hk:∀ j:Nat,j < r.length->1≤ndK (zav r j)∧ndK (zav r j)≤18:=fun j hj=>(zaG (zct h3 hj).1).1;have hlast:(zb5 r r.length).getD (r.length - 1) 0=0:=by
  obtain⟨m,hm⟩:∃ m,r.length=m+1:=⟨r.length - 1,by omega⟩;obtain⟨a,b⟩:=hl m (by omega);rw[hm,vT,zcF (by omega),zfi (by rw[zcQ];exact⟨fun x y=>by have:=a x y;omega,fun x y=>by have:=b x y;omega⟩) (hk m (by omega)),zez hl hk m (by omega) m (zk _),if_neg,if_neg]
  ·rfl
  ·rintro ⟨x,y⟩;have:=b (by omega) (by omega);omega
  ·rintro ⟨x,y,z⟩;have:=a x y;omega
 have hle:∀ j,(zb5 r r.length).getD j 0≤1:=fun j=>by
  by_cases e:j < r.length - 1
  ·rw[h4 j e];exact xC _
  ·by_cases e2:j=r.length - 1
   ·rw[e2,hlast];decide
   ·rw[zez hl hk r.length (zk _) j (by omega)];decide
 have:=zl0 hl hk hle r.length (zk _);obtain⟨m,hm⟩:∃ m,r.length=m+1:=⟨r.length - 1,by omega⟩;have hp:∀ q,q≤m->pot (zb5 r r.length) (fun j=>(trF (r.length+1) r j).size) q=0:=by
  intro q
  induction q with
  |zero=>intro _;rfl
  |succ q ih=>intro hq;unfold pot;rw[ih (by omega),h4 q (by omega),if_neg (by decide)]
 rw[hm]at this hlast;unfold pot at this;rw[<-hm]at this hlast;rw[hp m (zk _)]at this;have hm2:r.length - 1=m:=by omega
 rw[hm2]at hlast;rw[hlast,if_pos rfl]at this;unfold zc4;rw[show ((r.length:Int) - 1)=((m:Nat):Int) by omega];omega
theorem zst {r:List Nd} (h:wfS r=true):TrOk (zc4 r):=by
 obtain⟨⟨h1,h2⟩,h3,h4⟩:=zds h;unfold zc4;rw[show ((r.length:Int) - 1)=((r.length - 1:Nat):Int) by omega];exact znO h3 _ _ (by omega) (by omega)
theorem znQ {r:List Nd} (h:wfS r=true):zcX (r.length+1) r ((r.length:Int) - 1)=(zc4 r).text:=by
 obtain⟨⟨h1,h2⟩,h3,h4⟩:=zds h;unfold zc4;rw[show ((r.length:Int) - 1)=((r.length - 1:Nat):Int) by omega];exact zgM (zma h3) _ _ (by omega) (by omega)
def fmtS (r:List Nd):List UInt8×Int:=if zcP r=0 then (if 4000 < (zc4 r).text.length then ([],2) else ((zc4 r).text,0)) else ([],zcP r)
theorem zdd {α:Type} {l m:List α} {z:α} {j:Nat} (h:j < l.length):(l++m).getD j z=l.getD j z:=by
 rw[zQ,zQ,List.getElem?_append_left h]
theorem zb6 {α:Type} {l m:List α} {z:α} {j:Nat}:(l++m).getD (l.length+j) z=m.getD j z:=by
 rw[zQ,zQ,qB (Nat.le_add_right ..),Nat.add_sub_cancel_left]
theorem zsC {n:Nd} (h:ndL n=0∧ndR n=0) (x:Int):zcc (setL n x) 0 0=n:=by
 show (ndK n,ndC n,(0:Int),(0:Int),ndN n,ndM n,ndI n,ndS n,())=n
 conv=>rhs;rw[zrS n,h.1,h.2]
theorem zqk {n:Nd} (h:ndL n=0∧ndR n=0) (x y:Int):zcc (zcc n x y) 0 0=n:=by
 show (ndK n,ndC n,(0:Int),(0:Int),ndN n,ndM n,ndI n,ndS n,())=n
 conv=>rhs;rw[zrS n,h.1,h.2]
theorem zgG:∀ (t:Tr) (b:Nat) (r:List Nd) (k:Nat),TrOk t->(∀ j,j < t.size->r.getD (b+j) zNd=(t.flat b).getD j zNd)->b+t.size≤k->trF k r ((b+t.size:Nat) - 1:Int)=t
 | .leaf n,b,r,k,h,hr,hk=>by
  obtain⟨h1,h2,hR,hL⟩:=h;have hn:zav r ((b+1:Nat) - 1:Int)=n:=by
   rw[show (((b+1:Nat):Int) - 1)=((b+0:Nat):Int) by omega];exact hr 0 (Nat.zero_lt_one)
  show trF k r ((b+1:Nat) - 1:Int)=_;cases k with
  |zero=>
   have hk:b+1≤0:=hk;omega
  |succ k=>
   unfold trF;rw[hn,if_neg (by omega),if_neg (by omega)]
 | .un n a,b,r,k,h,hr,hk=>by
  obtain⟨h1,h2,hLR,ha⟩:=h;have hp:=a.size_pos;have hfl:=xo a b;have hk:b+(a.size+1)≤k:=hk;have hr:∀ j,j < a.size+1->r.getD (b+j) zNd=(a.flat b++ [setL n ((b+a.size:Nat) - 1)]).getD j zNd:=hr;have hn:zav r ((b+(a.size+1):Nat) - 1:Int)=setL n ((b+a.size:Nat) - 1):=by
   rw[show (((b+(a.size+1):Nat):Int) - 1)=((b+a.size:Nat):Int) by omega];have e:=hr a.size (by omega);rw[show a.size=(a.flat b).length+0 by omega,zb6]at e;rw[hfl]at e;exact e
  show trF k r ((b+(a.size+1):Nat) - 1:Int)=_;cases k with
  |zero=>omega
  |succ k=>
   unfold trF;rw[hn];have hK:ndK (setL n ((b+a.size:Nat) - 1))=ndK n:=rfl;have hL:ndL (setL n ((b+a.size:Nat) - 1))=((b+a.size:Nat):Int) - 1:=rfl;rw[hK,hL,if_pos h2,zsC hLR,zgG a b r k ha (fun j hj=>by rw[hr j (by omega),zdd (by omega)]) (by omega)]
 | .bin n a c,b,r,k,h,hr,hk=>by
  obtain⟨h1,h2,hLR,ha,hc⟩:=h;have hp:=a.size_pos;have hpc:=c.size_pos;have hfl:=xo a b;have hfc:=xo c (b+a.size);have hk:b+(a.size+c.size+1)≤k:=hk;have hr:∀ j,j < a.size+c.size+1->r.getD (b+j) zNd=(a.flat b++c.flat (b+a.size)++ [zcc n ((b+a.size:Nat) - 1) ((b+a.size+c.size:Nat) - 1)]).getD j zNd:=hr;have hn:zav r ((b+(a.size+c.size+1):Nat) - 1:Int)=zcc n ((b+a.size:Nat) - 1) ((b+a.size+c.size:Nat) - 1):=by
   rw[show (((b+(a.size+c.size+1):Nat):Int) - 1)=((b+(a.size+c.size):Nat):Int) by omega];have e:=hr (a.size+c.size) (by omega);rw[show a.size+c.size=(a.flat b++c.flat (b+a.size)).length+0 by rw[zf];omega,zb6]at e;rw[zf,hfl,hfc]at e;exact e
  show trF k r ((b+(a.size+c.size+1):Nat) - 1:Int)=_;cases k with
  |zero=>omega
  |succ k=>
   unfold trF;rw[hn];have hK:ndK (zcc n ((b+a.size:Nat) - 1) ((b+a.size+c.size:Nat) - 1))=ndK n:=rfl;have hL:ndL (zcc n ((b+a.size:Nat) - 1) ((b+a.size+c.size:Nat) - 1))=((b+a.size:Nat):Int) - 1:=rfl;have hR:ndR (zcc n ((b+a.size:Nat) - 1) ((b+a.size+c.size:Nat) - 1))=((b+a.size+c.size:Nat):Int) - 1:=rfl;rw[hK,hL,hR,if_neg (by omega),if_pos h2,zqk hLR,zgG a b r k ha (fun j hj=>by rw[hr j (by omega),zs,zdd (by omega)]) (by omega),
    zgG c (b+a.size) r k hc (fun j hj=>by rw[Nat.add_assoc,hr (a.size+j) (by omega),zs, <-hfl,zb6,hfl,zdd (by omega)]) (by omega)]
theorem zrx (x y:List Int):bump (x++(0::y)) ((x.length:Nat):Int)=x++(1::y):=by
 unfold bump;rw[zH];have:(x++(0::y)).getD x.length 0=0:=by
  have:=zb6 (l:=x) (m:=0::y) (z:=(0:Int)) (j:=0);rw[Nat.add_zero]at this;rw[this];rfl
 rw[this,List.set_append_right _ _ (zk _),Nat.sub_self];rfl
theorem zhM {x y z w:List Int} {i:Int} (hz:z=x++(0::y)) (hi:i=((x.length:Nat):Int)) (hw:w=x++(1::y)):bump z i=w:=by rw[hz,hi,hw,zrx]
theorem zi1 (n:Nat) (x:Int) (q:List Int):zr n x++(x::q)=zr (n+1) x++q:=by
 rw[List.replicate_succ',zs];rfl
theorem zi2 {n:Nat} (h:1≤n) (q:List Int):zr (n - 1) (1:Int)++(1::q)=zr n 1++q:=by
 rw[zi1,show n - 1+1=n by omega]
theorem zfh:∀ (t:Tr) (b:Nat) (p q:List Int),TrOk t->p.length=b->(t.flat b).foldl zbA (p++(zr t.size 0++q))=p++(zr (t.size - 1) 1++(0::q))
 | .leaf n,b,p,q,h,hp=>by
  obtain⟨h1,h2,hR,hL⟩:=h;obtain⟨hk,_⟩:=zaG h1;show zbA _ n=_;unfold zbA;rw[zgL hk h2];rfl
 | .un n a,b,p,q,h,hp=>by
  obtain⟨h1,h2,hLR,ha⟩:=h;have hs:=a.size_pos;show (a.flat b++ [_]).foldl zbA (p++(zr (a.size+1) 0++q))=p++(zr (a.size+1 - 1) 1++(0::q));rw[js, <-zi1,zfh a b p (0::q) ha hp];show zbA _ (setL n ((b+a.size:Nat) - 1))=_;unfold zbA;have ho:opsN (setL n ((b+a.size:Nat) - 1))=1:=zl2 (n:=setL n ((b+a.size:Nat) - 1)) h2;rw[ho,decide_eq_false (by decide),decide_eq_true (by decide),cond_false,cond_true];refine zhM (x:=p++zr (a.size - 1) 1) (y:=0::q) (by rw[zs]) ?_ ?_
  ·rw[zf,xF,hp];show ((b+a.size:Nat):Int) - 1=_;omega
  ·rw[zs,zi2 hs,vT]
 | .bin n a c,b,p,q,h,hp=>by
  obtain⟨h1,h2,hLR,ha,hc⟩:=h;have hs:=a.size_pos;have hs2:=c.size_pos;show (a.flat b++c.flat (b+a.size)++ [_]).foldl zbA (p++(zr (a.size+c.size+1) 0++q))=p++(zr (a.size+c.size+1 - 1) 1++(0::q));have e1:p++(zr (a.size+c.size+1) (0:Int)++q)=p++(zr a.size 0++(zr c.size 0++(0::q))):=by
   rw[<-zi1, <-qV,zs]
  rw[js,js,e1,zfh a b p _ ha hp];have e2:p++(zr (a.size - 1) (1:Int)++(0::(zr c.size 0++(0::q))))=(p++(zr (a.size - 1) 1++ [0]))++(zr c.size 0++(0::q)):=by simp
  rw[e2,zfh c (b+a.size) _ _ hc (by rw[zf,zf,xF,hp,yp];omega)];show zbA _ (zcc n ((b+a.size:Nat) - 1) ((b+a.size+c.size:Nat) - 1))=_;unfold zbA;have ho:opsN (zcc n ((b+a.size:Nat) - 1) ((b+a.size+c.size:Nat) - 1))=2:=zi8 (n:=zcc n ((b+a.size:Nat) - 1) ((b+a.size+c.size:Nat) - 1)) h2;rw[ho,decide_eq_true (by decide),cond_true];have eL:bump ((p++(zr (a.size - 1) 1++ [0]))++(zr (c.size - 1) 1++(0::(0::q)))) (ndL (zcc n ((b+a.size:Nat) - 1) ((b+a.size+c.size:Nat) - 1)))=p++zr (a.size - 1) 1++(1::(zr (c.size - 1) 1++(0::0::q))):=by
   refine zhM (x:=p++zr (a.size - 1) 1) (y:=zr (c.size - 1) 1++(0::0::q)) (by simp) ?_ rfl;rw[zf,xF,hp];show ((b+a.size:Nat):Int) - 1=_;omega
  rw[eL];refine zhM (x:=p++zr (a.size - 1) 1++(1::zr (c.size - 1) 1)) (y:=0::q) (by simp) ?_ ?_
  ·rw[zf,zf,zt,xF,xF,hp];show ((b+a.size+c.size:Nat):Int) - 1=_;omega
  ·rw[vT,zs,zs,xw,zi2 hs,zi2 hs2, <-zs (zr a.size 1),qV]
theorem zeE:∀ (t:Tr) (b:Nat),TrOk t->∀ j,j < t.size->zcS ((t.flat b).getD j zNd) ((b+j:Nat):Int)=true
 | .leaf n,b,h,j,hj=>by
  obtain⟨h1,h2,hR,hL⟩:=h;have hj:j < 1:=hj;obtain rfl:j=0:=by omega
  obtain⟨hk,_⟩:=zaG h1;show zcS n _=true;unfold zcS;rw[h1,(zl3 hk h2).2 ⟨by by_cases e:ndK n=7;exact .inr e;exact .inl (hL e),hR⟩];rfl
 | .un n a,b,h,j,hj=>by
  obtain⟨h1,h2,hLR,ha⟩:=h;have hs:=a.size_pos;have hfl:=xo a b;have hj:j < a.size+1:=hj;show zcS ((a.flat b++ [setL n ((b+a.size:Nat) - 1)]).getD j zNd) _=true;by_cases e:j < a.size
  ·rw[zdd (by omega)];exact zeE a b ha j e
  ·obtain rfl:j=(a.flat b).length+0:=by omega
   rw[zb6];show zcS (setL n ((b+a.size:Nat) - 1)) _=true;have e1:zba (setL n ((b+a.size:Nat) - 1))=true:=by
    have:=zgP (n:=n) (by omega) ((b+a.size:Nat) - 1) (ndR n);rw[h1]at this;exact this
   unfold zcS;rw[e1,(zoD (n:=setL n ((b+a.size:Nat) - 1)) h2).2 ⟨⟨by show (0:Int)≤((b+a.size:Nat):Int) - 1;omega,by show ((b+a.size:Nat):Int) - 1≤_;omega⟩,hLR.2⟩];rfl
 | .bin n a c,b,h,j,hj=>by
  obtain⟨h1,h2,hLR,ha,hc⟩:=h;have hs:=a.size_pos;have hs2:=c.size_pos;have hfl:=xo a b;have hfc:=xo c (b+a.size);have hj:j < a.size+c.size+1:=hj;show zcS ((a.flat b++c.flat (b+a.size)++ [zcc n ((b+a.size:Nat) - 1) ((b+a.size+c.size:Nat) - 1)]).getD j zNd) _=true;by_cases e:j < a.size
  ·rw[zs,zdd (by omega)];exact zeE a b ha j e
  ·by_cases e2:j < a.size+c.size
   ·obtain⟨i,rfl⟩:∃ i,j=(a.flat b).length+i:=⟨j - a.size,by omega⟩;rw[zs,zb6,zdd (by omega)];have:=zeE c (b+a.size) hc i (by omega);rwa[show b+((a.flat b).length+i)=b+a.size+i by omega]
   ·obtain rfl:j=(a.flat b++c.flat (b+a.size)).length+0:=by rw[zf];omega
    rw[zb6];show zcS (zcc n ((b+a.size:Nat) - 1) ((b+a.size+c.size:Nat) - 1)) _=true;have hlen:(a.flat b++c.flat (b+a.size)).length=a.size+c.size:=by rw[zf];omega
    have e1:=zgP (n:=n) (by omega) ((b+a.size:Nat) - 1) ((b+a.size+c.size:Nat) - 1);rw[h1]at e1;unfold zcS;rw[e1,(zi9 (n:=zcc n ((b+a.size:Nat) - 1) ((b+a.size+c.size:Nat) - 1)) h2).2 ⟨⟨by show (0:Int)≤((b+a.size:Nat):Int) - 1;omega,by show ((b+a.size:Nat):Int) - 1≤_;omega⟩,⟨by show (0:Int)≤((b+a.size+c.size:Nat):Int) - 1;omega,by show ((b+a.size+c.size:Nat):Int) - 1≤_;omega⟩⟩];rfl
theorem zmw {n:Nd} (h:zba n=true):(ndS n).length≤32:=by
 obtain⟨_,_,_,h,_⟩:=zaG h;unfold zh3 at h;cases hk:(ndK n==18) with
 |true=>
  rw[hk]at h;have h:zcv (ndS n)=true:=h;unfold zcv at h;simp only[zd,decide_eq_true_iff]at h;exact h.1.2
 |false=>
  rw[hk]at h;have h:=of_decide_eq_true h;rw[h];decide
theorem zkZ {r:List Nd} (h:wfS r=true):zcP r=0:=by
 obtain⟨⟨h1,h2⟩,h3,_⟩:=zds h;unfold zcP;rw[if_neg,if_pos h];rintro (h4|h4)
 ·omega
 ·obtain⟨x,hx,hb⟩:=uN.1 h4;obtain⟨j,hj,rfl⟩:=List.getElem_of_mem hx;have hf:=(zct h3 hj).1;rw[ziw,zQ,yd hj]at hf;have hf:zba r[j]=true:=hf;have h5:=(zaG hf).2.1;have h6:=zmw hf;unfold bigN at hb;rw[zZ,decide_eq_true_iff,decide_eq_true_iff]at hb;unfold ndI at h5;unfold ndS at h6;omega
theorem zkY {r:List Nd} (h:zcP r=0):wfS r=true:=by
 unfold zcP at h;split at h
 ·cases h
 ·split at h
  ·assumption
  ·cases h
theorem zsh {t:Tr} (h:TrOk t) (hs:t.size≤64):wfS (t.flat 0)=true:=by
 have hl:=xo t 0;have hp:=t.size_pos;unfold wfS;have hu:zb5 (t.flat 0) (t.flat 0).length=zr (t.size - 1) 1++ [0]:=by
  unfold zb5;rw[yS,hl];have:=zfh t 0 [] [] h rfl;rw[yB,yB,zI]at this;exact this
 rw[hu,hl,decide_eq_true hp,decide_eq_true hs,zdW.2 (fun j hj=>by have:=zeE t 0 h j hj;rwa[yr]at this)];have:(zr (t.size - 1) (1:Int)++ [0]).take (t.size - 1)=zr (t.size - 1) 1:=by
  have:=xS (l₁:=zr (t.size - 1) (1:Int)) (l₂:=[0]);rwa[xF]at this
 rw[this];have:(zr (t.size - 1) (1:Int)).any not1=false:=by
  rw[uD];intro x hx;rw[List.eq_of_mem_replicate hx];decide
 rw[this];rfl
theorem znS {t:Tr} (h:TrOk t):zc4 (t.flat 0)=t:=by
 unfold zc4;have hl:=xo t 0;have:=zgG t 0 (t.flat 0) ((t.flat 0).length+1) h (fun j _=>by rw[yr]) (by omega);rw[yr]at this;rw[hl]at this ⊢;exact this
theorem zmv {t:Tr} (h:TrOk t) (hs:t.size≤64):fmtS (t.flat 0)=if 4000 < t.text.length then ([],2) else (t.text,0):=by
 unfold fmtS;rw[if_pos (zkZ (zsh h hs)),znS h]
theorem ze7 {a:Int} (ha:zb1 a):∀ x∈ [a],zb1 x:=fun x hx=>by rw[zu]at hx;subst hx;exact ha
theorem numL2 {a b:Int} (ha:zb1 a) (hb:zb1 b):∀ x∈ [a,b],zb1 x:=fun x hx=>by
 rcases zX.1 hx with rfl|hx
 ·exact ha
 ·exact ze7 hb x hx
theorem zsN {a b c:Int} (ha:zb1 a) (hb:zb1 b) (hc:zb1 c):∀ x∈ [a,b,c],zb1 x:=fun x hx=>by
 rcases zX.1 hx with rfl|hx
 ·exact ha
 ·exact numL2 hb hc x hx
def hLf:List (zP×HCtr):=[(100,cPut),(150,zmJ)]
theorem zdJ:HsOk Tryz.prog gmH hLf:=.cons zox <| .cons zmb .nil
def kLf:Kn:={ gmK with C:=[(151,zpK)] }
theorem zaP:KnOk Tryz.prog gmH kLf:=zak.with (.cons zn8 .nil)
theorem zcH (n:Int):(zb2 n).length≤10:=by
 unfold zb2;split
 ·decide
 ·decide
theorem cat3 (a b c:List UInt8):(a++b++c:List UInt8)=a++(b++c):=zs a b c
@[reducible] def zpQ:HCtr:=hW [nd] (fun x xs=>[zg x.2.1+10000≤1000000000,zkU xs.1,1≤ndK xs.1,ndK xs.1≤7∨ndK xs.1=18]) fun x xs=>zc6 xs.1
theorem zq1:zaC Tryz.prog gmH 103 zpQ:=by
 refine zau (K:=_) zaP Tryz.func103 rfl rfl (zcm rfl) Tryz.call103 rfl (zb rfl) (zdC prT [107]) ?_;rintro w0 ⟨G,O,K,fix,D,ρ,B⟩ ty hX hG hK hρ hD hinv ⟨(b:Bool),(bf:List UInt8),(r:List Nd),⟨⟩⟩ ⟨(n:Nd),⟨⟩⟩ hp;obtain rfl:G=gmH:=hG;obtain rfl:K=1:=hK;obtain rfl:ρ=none:=hρ;obtain rfl:D=[]:=hD;have hI:=fun w R hR hw=>(⟨zaJ (ty:=ty) hX rfl hinv.1 (ty':=ty) w R hR hw,hinv.2⟩:bInv prT [107] w R ty);obtain⟨hlen,⟨⟨hC,hN,hM⟩,hI',hil,hnl,hsc,-⟩,hk0,hkk⟩:bf.length+10000≤1000000000∧zkU n∧1≤ndK n∧(ndK n≤7∨ndK n=18):=hp;have hq0:bf.length+200+19 * 3≤1000000000:=by omega
 change AWP _ _ _ _ _ ⟨[(0,⟨.hptr,((0:Nat),(0:Nat))⟩),(1,⟨nd,n⟩)],wE ty b bf r,2⟩ (wQ _ zpQ ty (.ok ((),(true,((bf++zc6 n:List UInt8),(r,()))))));unfold zc6;refine za (za ?_);refine zaa hX zaP rfl ?_ ?_
 ·trivial
 refine za (za ?_);refine zaa hX zaP rfl ?_ ?_
 ·trivial
 apply zac;refine zaq (σ':=⟨[(0,⟨.hptr,((0:Nat),(0:Nat))⟩),(3,⟨.optr nd,⟨2,nd,.here⟩⟩),(5,⟨i64,ndK n⟩)],(2,some (.box nd n))::wE ty b bf r,3⟩) ⟨⟨rfl,rfl,rfl,trivial⟩,⟨rfl,rfl,rfl,trivial⟩,rfl,by cases b<;>rfl⟩ ?_;refine za (za ?_);refine zaa hX zaP rfl ?_ ?_
 ·trivial
 refine zaf rfl (fun hb=>?_) (fun hb=>?_)
 ·have hb:(ndK n==1)=true:=hb;have hk:=beq_iff_eq.1 hb;rw[if_pos hk];cases b
  all_goals
   (repeat(first|apply zae|apply zab|apply zac|apply zad));refine zai ?_;refine ym 6 hX zaP zdJ rfl trivial rfl rfl ⟨(by show zg bf+zg zjK+19 * 2≤1000000000;have:zg zjK≤20:=(by decide);omega),(numL2 hN hM)⟩ hI ?_;exact yf ⟨.inl rfl,⟨_,rfl,u8,1,_,rfl,rfl,rfl⟩,zbk (by decide) rfl rfl trivial rfl⟩
 have hb:(ndK n==1)=false:=hb;have hk1:ndK n≠1:=fun e=>by rw[beq_iff_eq.2 e]at hb;cases hb
 rw[if_neg hk1];refine za (za ?_);refine zaa hX zaP rfl ?_ ?_
 ·trivial
 refine zaf rfl (fun hb=>?_) (fun hb=>?_)
 ·have hb:(ndK n==2)=true:=hb;have hk:=beq_iff_eq.1 hb;rw[if_pos hk];cases b
  all_goals
   (repeat(first|apply zae|apply zab|apply zac|apply zad));refine zai ?_;refine ym 8 hX zaP zdJ rfl trivial rfl rfl ⟨(by show zg bf+zg zgl+19 * 3≤1000000000;have:zg zgl≤20:=(by decide);omega),(zsN hC hN hM)⟩ hI ?_;exact yf ⟨.inl rfl,⟨_,rfl,u8,1,_,rfl,rfl,rfl⟩,zbk (by decide) rfl rfl trivial rfl⟩
 have hb:(ndK n==2)=false:=hb;have hk2:ndK n≠2:=fun e=>by rw[beq_iff_eq.2 e]at hb;cases hb
 rw[if_neg hk2];refine za (za ?_);refine zaa hX zaP rfl ?_ ?_
 ·trivial
 refine zaf rfl (fun hb=>?_) (fun hb=>?_)
 ·have hb:(ndK n==3)=true:=hb;have hk:=beq_iff_eq.1 hb;rw[if_pos hk];refine xD (σ':=⟨[(0,⟨.hptr,((0:Nat),(0:Nat))⟩),(3,⟨.optr nd,⟨2,nd,.here⟩⟩)],(2,some (.box nd n))::wE ty true ((bf++putS zcj [ndC n]:List UInt8)) r,3⟩) ?_ ?_
  ·cases b
   all_goals
    (repeat(first|apply zae|apply zab|apply zac|apply zad));refine zai ?_;refine ym 4 hX zaP zdJ rfl trivial rfl rfl ⟨(by show zg bf+zg zcj+19 * 1≤1000000000;have:zg zcj≤20:=(by decide);omega),(ze7 hC)⟩ hI ?_;exact yf ⟨⟨rfl,rfl,trivial⟩,⟨rfl,rfl,rfl,trivial⟩,rfl,rfl⟩
  have hl2:zg (bf++putS zcj [ndC n]:List UInt8)+20 * zg (ndI n)+1≤1000000000:=by
   have:=zbE (ze7 hC);have hw:zg zcj≤20:=by decide
   simp only[putS,zf,zt,zY]at this ⊢;omega
  rw[show (bf++(putS zcj [ndC n]++zbT (ndI n)):List UInt8)=bf++putS zcj [ndC n]++zbT (ndI n) from (cat3 _ _ _).symm];(repeat(first|apply zae|apply zab|apply zac|apply zad));refine zai ?_;refine ym 3 hX zaP zdJ rfl trivial rfl rfl ⟨hl2,hI'⟩ hI ?_;exact yf ⟨.inl rfl,⟨_,rfl,u8,1,_,rfl,rfl,rfl⟩,zbk (by decide) rfl rfl trivial rfl⟩
 have hb:(ndK n==3)=false:=hb;have hk3:ndK n≠3:=fun e=>by rw[beq_iff_eq.2 e]at hb;cases hb
 rw[if_neg hk3];refine za (za ?_);refine zaa hX zaP rfl ?_ ?_
 ·trivial
 refine zaf rfl (fun hb=>?_) (fun hb=>?_)
 ·have hb:(ndK n==4)=true:=hb;have hk:=beq_iff_eq.1 hb;rw[if_pos hk];refine xD (σ':=⟨[(0,⟨.hptr,((0:Nat),(0:Nat))⟩),(3,⟨.optr nd,⟨2,nd,.here⟩⟩)],(2,some (.box nd n))::wE ty true ((bf++putS za5 [ndC n]:List UInt8)) r,3⟩) ?_ ?_
  ·cases b
   all_goals
    (repeat(first|apply zae|apply zab|apply zac|apply zad));refine zai ?_;refine ym 4 hX zaP zdJ rfl trivial rfl rfl ⟨(by show zg bf+zg za5+19 * 1≤1000000000;have:zg za5≤20:=(by decide);omega),(ze7 hC)⟩ hI ?_;exact yf ⟨⟨rfl,rfl,trivial⟩,⟨rfl,rfl,rfl,trivial⟩,rfl,rfl⟩
  have hl2:zg (bf++putS za5 [ndC n]:List UInt8)+20 * zg (ndI n)+1≤1000000000:=by
   have:=zbE (ze7 hC);have hw:zg za5≤20:=by decide
   simp only[putS,zf,zt,zY]at this ⊢;omega
  rw[show (bf++(putS za5 [ndC n]++zbT (ndI n)):List UInt8)=bf++putS za5 [ndC n]++zbT (ndI n) from (cat3 _ _ _).symm];(repeat(first|apply zae|apply zab|apply zac|apply zad));refine zai ?_;refine ym 3 hX zaP zdJ rfl trivial rfl rfl ⟨hl2,hI'⟩ hI ?_;exact yf ⟨.inl rfl,⟨_,rfl,u8,1,_,rfl,rfl,rfl⟩,zbk (by decide) rfl rfl trivial rfl⟩
 have hb:(ndK n==4)=false:=hb;have hk4:ndK n≠4:=fun e=>by rw[beq_iff_eq.2 e]at hb;cases hb
 rw[if_neg hk4];refine za (za ?_);refine zaa hX zaP rfl ?_ ?_
 ·trivial
 refine zaf rfl (fun hb=>?_) (fun hb=>?_)
 ·have hb:(ndK n==5)=true:=hb;have hk:=beq_iff_eq.1 hb;rw[if_pos hk];refine xD (σ':=⟨[(0,⟨.hptr,((0:Nat),(0:Nat))⟩),(3,⟨.optr nd,⟨2,nd,.here⟩⟩)],(2,some (.box nd n))::wE ty true ((bf++putS zbl []:List UInt8)) r,3⟩) ?_ ?_
  ·cases b
   all_goals
    (repeat(first|apply zae|apply zab|apply zac|apply zad));refine zai ?_;refine ym 1 hX zaP zdJ rfl trivial rfl rfl ⟨(by show zg bf+zg zbl+19 * 0≤1000000000;have:zg zbl≤20:=(by decide);omega),(fun x hx=>by cases hx)⟩ hI ?_;exact yf ⟨⟨rfl,rfl,trivial⟩,⟨rfl,rfl,rfl,trivial⟩,rfl,rfl⟩
  have hl2:zg (bf++putS zbl []:List UInt8)+20 * zg (ndI n)+1≤1000000000:=by
   have:=zbE (l:=[]) (fun x hx=>by cases hx);have hw:zg zbl≤20:=by decide
   simp only[putS,zf,zt,zY]at this ⊢;omega
  rw[show (bf++(putS zbl []++zbT (ndI n)):List UInt8)=bf++putS zbl []++zbT (ndI n) from (cat3 _ _ _).symm];(repeat(first|apply zae|apply zab|apply zac|apply zad));refine zai ?_;refine ym 3 hX zaP zdJ rfl trivial rfl rfl ⟨hl2,hI'⟩ hI ?_;exact yf ⟨.inl rfl,⟨_,rfl,u8,1,_,rfl,rfl,rfl⟩,zbk (by decide) rfl rfl trivial rfl⟩
 have hb:(ndK n==5)=false:=hb;have hk5:ndK n≠5:=fun e=>by rw[beq_iff_eq.2 e]at hb;cases hb
 rw[if_neg hk5];refine za (za ?_);refine zaa hX zaP rfl ?_ ?_
 ·trivial
 refine zaf rfl (fun hb=>?_) (fun hb=>?_)
 ·have hb:(ndK n==6)=true:=hb;have hk:=beq_iff_eq.1 hb;rw[if_pos hk];refine xD (σ':=⟨[(0,⟨.hptr,((0:Nat),(0:Nat))⟩),(3,⟨.optr nd,⟨2,nd,.here⟩⟩)],(2,some (.box nd n))::wE ty true ((bf++putS zdf [ndC n]:List UInt8)) r,3⟩) ?_ ?_
  ·cases b
   all_goals
    (repeat(first|apply zae|apply zab|apply zac|apply zad));refine zai ?_;refine ym 4 hX zaP zdJ rfl trivial rfl rfl ⟨(by show zg bf+zg zdf+19 * 1≤1000000000;have:zg zdf≤20:=(by decide);omega),(ze7 hC)⟩ hI ?_;exact yf ⟨⟨rfl,rfl,trivial⟩,⟨rfl,rfl,rfl,trivial⟩,rfl,rfl⟩
  have hl2:zg (bf++putS zdf [ndC n]:List UInt8)+20 * zg (ndI n)+1≤1000000000:=by
   have:=zbE (ze7 hC);have hw:zg zdf≤20:=by decide
   simp only[putS,zf,zt,zY]at this ⊢;omega
  rw[show (bf++(putS zdf [ndC n]++zbT (ndI n)):List UInt8)=bf++putS zdf [ndC n]++zbT (ndI n) from (cat3 _ _ _).symm];(repeat(first|apply zae|apply zab|apply zac|apply zad));refine zai ?_;refine ym 3 hX zaP zdJ rfl trivial rfl rfl ⟨hl2,hI'⟩ hI ?_;exact yf ⟨.inl rfl,⟨_,rfl,u8,1,_,rfl,rfl,rfl⟩,zbk (by decide) rfl rfl trivial rfl⟩
 have hb:(ndK n==6)=false:=hb;have hk6:ndK n≠6:=fun e=>by rw[beq_iff_eq.2 e]at hb;cases hb
 rw[if_neg hk6];refine za (za ?_);refine zaa hX zaP rfl ?_ ?_
 ·trivial
 refine zaf rfl (fun hb=>?_) (fun hb=>?_)
 ·have hb:(ndK n==7)=true:=hb;have hk:=beq_iff_eq.1 hb;rw[if_pos hk];obtain⟨hs0,hs1⟩:=hsc hk;refine xD (σ':=⟨[(0,⟨.hptr,((0:Nat),(0:Nat))⟩),(3,⟨.optr nd,⟨2,nd,.here⟩⟩)],(2,some (.box nd n))::wE ty true ((bf++putS wNth [ndC n,ndN n,ndM n]:List UInt8)) r,3⟩) ?_ ?_
  ·cases b
   all_goals
    (repeat(first|apply zae|apply zab|apply zac|apply zad));refine zai ?_;refine ym 8 hX zaP zdJ rfl trivial rfl rfl ⟨(by show zg bf+zg wNth+19 * 3≤1000000000;have:zg wNth≤20:=(by decide);omega),(zsN hC hN hM)⟩ hI ?_;exact yf ⟨⟨rfl,rfl,trivial⟩,⟨rfl,rfl,rfl,trivial⟩,rfl,rfl⟩
  have hl2:zg (bf++putS wNth [ndC n,ndN n,ndM n]:List UInt8)+zg (zb2 (ndL n))+19 * 0≤1000000000:=by
   have:=zbE (zsN hC hN hM);have hw:zg wNth≤20:=by decide
   have hs:=zcH (ndL n);simp only[putS,zf,zt,zY]at this ⊢;omega
  rw[show (bf++(putS wNth [ndC n,ndN n,ndM n]++putS (zb2 (ndL n)) []):List UInt8)=bf++putS wNth [ndC n,ndN n,ndM n]++putS (zb2 (ndL n)) [] from (cat3 _ _ _).symm];(repeat(first|apply zae|apply zab|apply zac|apply zad));refine zai ?_;refine ym 4 hX zaP zdJ rfl ⟨hs0,hs1⟩ rfl rfl ⟨hl2,fun x hx=>by cases hx⟩ hI ?_;exact yf ⟨.inl rfl,⟨_,rfl,u8,1,_,rfl,rfl,rfl⟩,zbk (by decide) rfl rfl trivial rfl⟩
 have hb:(ndK n==7)=false:=hb;have hk7:ndK n≠7:=fun e=>by rw[beq_iff_eq.2 e]at hb;cases hb
 rw[if_neg hk7];refine za (za ?_);refine zaa hX zaP rfl ?_ ?_
 ·trivial
 refine zaf rfl (fun hb=>?_) (fun hb=>?_)
 ·have hb:(ndK n==18)=true:=hb;have hk:=beq_iff_eq.1 hb;rw[if_pos hk];have hcat:1+zg (ndS n)≤maxLen:=by unfold maxLen;omega
  have hl2:zg bf+zg (wAt++ndS n:List UInt8)+19 * 0≤1000000000:=by
   rw[zf];show _+(1+_)+_≤_;omega
  cases b
  all_goals
   (repeat(first|apply zae|apply zab|apply zac|apply zad));refine zai ?_;refine ym 4 hX zaP zdJ rfl hcat rfl rfl ⟨hl2,fun x hx=>by cases hx⟩ hI ?_;exact yf ⟨.inl rfl,⟨_,rfl,u8,1,_,rfl,rfl,rfl⟩,zbk (by decide) rfl rfl trivial rfl⟩
 have hb:(ndK n==18)=false:=hb;have hk18:ndK n≠18:=fun e=>by rw[beq_iff_eq.2 e]at hb;cases hb
 rw[if_neg hk18];exfalso;omega
def WfP (r:List Nd):Prop:=r.length≤1000∧∀ j:Nat,j < r.length->zkU (zav r j)∧(1≤ndK (zav r j)∧ndK (zav r j)≤18)∧(8≤ndK (zav r j)->ndK (zav r j)≤17->0≤ndL (zav r j)∧ndL (zav r j) < j)∧(8≤ndK (zav r j)->ndK (zav r j)≤10∨ndK (zav r j)=17->0≤ndR (zav r j)∧ndR (zav r j) < j)
@[reducible] def cOpd (k:Nat):HCtr:=hW [i64,i64] (fun x xs=>[WfP x.2.2.1,0≤xs.1,xs.1.toNat < k,xs.1.toNat < zg x.2.2.1,zg x.2.1+zg (opdF k x.2.2.1 xs.1 xs.2.1)+10000≤1000000000]) fun x xs=>opdF k x.2.2.1 xs.1 xs.2.1
@[reducible] def zrv (k:Nat):HCtr:=hW [nd] (fun x xs=>[WfP x.2.2.1,zkU xs.1,11≤ndK xs.1,ndK xs.1≤17,ndK xs.1=17->0≤ndR xs.1∧(ndR xs.1).toNat < k∧(ndR xs.1).toNat < zg x.2.2.1,zg x.2.1+zg (zca (opdF k x.2.2.1 (ndR xs.1) 5) xs.1)+10000≤1000000000]) fun x xs=>zca (opdF k x.2.2.1 (ndR xs.1) 5) xs.1
def hSf (k:Nat):List (zP×HCtr):=[(100,cPut),(150,zmJ),(99,cOpd k)]
theorem cat4 (a b c d:List UInt8):(a++b++c++d:List UInt8)=a++(b++(c++d)):=by rw[zs,zs]
theorem zmT (k:Nat) (hO:zaC Tryz.prog gmH 99 (cOpd k)):zaC Tryz.prog gmH 102 (zrv k):=by
 have hsf:HsOk Tryz.prog gmH (hSf k):=.cons zox <| .cons zmb <| .cons hO .nil;refine zau (K:=_) zaP Tryz.func102 rfl rfl (zcm rfl) Tryz.call102 rfl (zb rfl) (zdC prT [107]) ?_;rintro w0 ⟨G,O,K,fix,D,ρ,B⟩ ty hX hG hK hρ hD hinv ⟨(b:Bool),(bf:List UInt8),(r:List Nd),⟨⟩⟩ ⟨(n:Nd),⟨⟩⟩ hp;obtain rfl:G=gmH:=hG;obtain rfl:K=1:=hK;obtain rfl:ρ=none:=hρ;obtain rfl:D=[]:=hD;have hI:=fun w R hR hw=>(⟨zaJ (ty:=ty) hX rfl hinv.1 (ty':=ty) w R hR hw,hinv.2⟩:bInv prT [107] w R ty);obtain⟨hwf,⟨⟨hC,hN,hM⟩,hI',hil,hnl,-,hsc⟩,hk0,hkk,hbh,hT⟩:WfP r∧zkU n∧11≤ndK n∧ndK n≤17∧(ndK n=17->0≤ndR n∧(ndR n).toNat < k∧(ndR n).toNat < r.length)∧bf.length+(zca (opdF k r (ndR n) 5) n).length+10000≤1000000000:=hp;have hlen:bf.length+10000≤1000000000:=by omega
 change AWP _ _ _ _ _ ⟨[(0,⟨.hptr,((0:Nat),(0:Nat))⟩),(1,⟨nd,n⟩)],wE ty b bf r,2⟩ (wQ _ (zrv k) ty (.ok ((),(true,((bf++zca (opdF k r (ndR n) 5) n:List UInt8),(r,()))))));unfold zca at hT ⊢;refine za (za ?_);refine zaa hX zaP rfl ?_ ?_
 ·trivial
 refine za (za ?_);refine zaa hX zaP rfl ?_ ?_
 ·trivial
 apply zac;refine zaq (σ':=⟨[(0,⟨.hptr,((0:Nat),(0:Nat))⟩),(3,⟨.optr nd,⟨2,nd,.here⟩⟩),(5,⟨i64,ndK n⟩)],(2,some (.box nd n))::wE ty b bf r,3⟩) ⟨⟨rfl,rfl,rfl,trivial⟩,⟨rfl,rfl,rfl,trivial⟩,rfl,by cases b<;>rfl⟩ ?_;refine za (za ?_);refine zaa hX zaP rfl ?_ ?_
 ·trivial
 refine zaf rfl (fun hb=>?_) (fun hb=>?_)
 ·have hb:(ndK n==11)=true:=hb;have hk:=beq_iff_eq.1 hb;rw[if_pos hk];cases b
  all_goals
   (repeat(first|apply zae|apply zab|apply zac|apply zad));refine zai ?_;refine ym 4 hX zaP hsf rfl trivial rfl rfl ⟨(by show zg bf+zg (spW zeQ)+19 * 1≤1000000000;have:zg (spW zeQ)≤20:=(by decide);omega),(ze7 hN)⟩ hI ?_;exact yf ⟨.inl rfl,⟨_,rfl,u8,1,_,rfl,rfl,rfl⟩,zbk (by decide) rfl rfl trivial rfl⟩
 have hb:(ndK n==11)=false:=hb;have hk11:ndK n≠11:=fun e=>by rw[beq_iff_eq.2 e]at hb;cases hb
 rw[if_neg hk11];refine za (za ?_);refine zaa hX zaP rfl ?_ ?_
 ·trivial
 refine zaf rfl (fun hb=>?_) (fun hb=>?_)
 ·have hb:(ndK n==12)=true:=hb;have hk:=beq_iff_eq.1 hb;rw[if_pos hk];cases b
  all_goals
   (repeat(first|apply zae|apply zab|apply zac|apply zad));refine zai ?_;refine ym 4 hX zaP hsf rfl trivial rfl rfl ⟨(by show zg bf+zg (spW zhW)+19 * 1≤1000000000;have:zg (spW zhW)≤20:=(by decide);omega),(ze7 hN)⟩ hI ?_;exact yf ⟨.inl rfl,⟨_,rfl,u8,1,_,rfl,rfl,rfl⟩,zbk (by decide) rfl rfl trivial rfl⟩
 have hb:(ndK n==12)=false:=hb;have hk12:ndK n≠12:=fun e=>by rw[beq_iff_eq.2 e]at hb;cases hb
 rw[if_neg hk12];refine za (za ?_);refine zaa hX zaP rfl ?_ ?_
 ·trivial
 refine zaf rfl (fun hb=>?_) (fun hb=>?_)
 ·have hb:(ndK n==13)=true:=hb;have hk:=beq_iff_eq.1 hb;rw[if_pos hk];cases b
  all_goals
   (repeat(first|apply zae|apply zab|apply zac|apply zad));refine zai ?_;refine ym 4 hX zaP hsf rfl trivial rfl rfl ⟨(by show zg bf+zg (spW zeP)+19 * 1≤1000000000;have:zg (spW zeP)≤20:=(by decide);omega),(ze7 hN)⟩ hI ?_;exact yf ⟨.inl rfl,⟨_,rfl,u8,1,_,rfl,rfl,rfl⟩,zbk (by decide) rfl rfl trivial rfl⟩
 have hb:(ndK n==13)=false:=hb;have hk13:ndK n≠13:=fun e=>by rw[beq_iff_eq.2 e]at hb;cases hb
 rw[if_neg hk13];refine za (za ?_);refine zaa hX zaP rfl ?_ ?_
 ·trivial
 refine zaf rfl (fun hb=>?_) (fun hb=>?_)
 ·have hb:(ndK n==14)=true:=hb;have hk:=beq_iff_eq.1 hb;rw[if_pos hk];refine xD (σ':=⟨[(0,⟨.hptr,((0:Nat),(0:Nat))⟩),(3,⟨.optr nd,⟨2,nd,.here⟩⟩)],(2,some (.box nd n))::wE ty true ((bf++putS (spW zeZ) []:List UInt8)) r,3⟩) ?_ ?_
  ·cases b
   all_goals
    (repeat(first|apply zae|apply zab|apply zac|apply zad));refine zai ?_;refine ym 1 hX zaP hsf rfl trivial rfl rfl ⟨(by show zg bf+zg (spW zeZ)+19 * 0≤1000000000;have:zg (spW zeZ)≤20:=(by decide);omega),(fun x hx=>by cases hx)⟩ hI ?_;exact yf ⟨⟨rfl,rfl,trivial⟩,⟨rfl,rfl,rfl,trivial⟩,rfl,rfl⟩
  have hl2:zg (bf++putS (spW zeZ) []:List UInt8)+20 * zg (ndI n)+1≤1000000000:=by
   have:=zbE (l:=[]) (fun x hx=>by cases hx);have hw:zg (spW zeZ)≤20:=by decide
   simp only[putS,zf,zt,zY]at this ⊢;omega
  rw[show (bf++(putS (spW zeZ) []++zbT (ndI n)):List UInt8)=bf++putS (spW zeZ) []++zbT (ndI n) from (cat3 _ _ _).symm];(repeat(first|apply zae|apply zab|apply zac|apply zad));refine zai ?_;refine ym 3 hX zaP hsf rfl trivial rfl rfl ⟨hl2,hI'⟩ hI ?_;exact yf ⟨.inl rfl,⟨_,rfl,u8,1,_,rfl,rfl,rfl⟩,zbk (by decide) rfl rfl trivial rfl⟩
 have hb:(ndK n==14)=false:=hb;have hk14:ndK n≠14:=fun e=>by rw[beq_iff_eq.2 e]at hb;cases hb
 rw[if_neg hk14];refine za (za ?_);refine zaa hX zaP rfl ?_ ?_
 ·trivial
 refine zaf rfl (fun hb=>?_) (fun hb=>?_)
 ·have hb:(ndK n==15)=true:=hb;have hk:=beq_iff_eq.1 hb;rw[if_pos hk];refine xD (σ':=⟨[(0,⟨.hptr,((0:Nat),(0:Nat))⟩),(3,⟨.optr nd,⟨2,nd,.here⟩⟩)],(2,some (.box nd n))::wE ty true ((bf++putS (spW zck) []:List UInt8)) r,3⟩) ?_ ?_
  ·cases b
   all_goals
    (repeat(first|apply zae|apply zab|apply zac|apply zad));refine zai ?_;refine ym 1 hX zaP hsf rfl trivial rfl rfl ⟨(by show zg bf+zg (spW zck)+19 * 0≤1000000000;have:zg (spW zck)≤20:=(by decide);omega),(fun x hx=>by cases hx)⟩ hI ?_;exact yf ⟨⟨rfl,rfl,trivial⟩,⟨rfl,rfl,rfl,trivial⟩,rfl,rfl⟩
  have hl2:zg (bf++putS (spW zck) []:List UInt8)+20 * zg (ndI n)+1≤1000000000:=by
   have:=zbE (l:=[]) (fun x hx=>by cases hx);have hw:zg (spW zck)≤20:=by decide
   simp only[putS,zf,zt,zY]at this ⊢;omega
  rw[show (bf++(putS (spW zck) []++zbT (ndI n)):List UInt8)=bf++putS (spW zck) []++zbT (ndI n) from (cat3 _ _ _).symm];(repeat(first|apply zae|apply zab|apply zac|apply zad));refine zai ?_;refine ym 3 hX zaP hsf rfl trivial rfl rfl ⟨hl2,hI'⟩ hI ?_;exact yf ⟨.inl rfl,⟨_,rfl,u8,1,_,rfl,rfl,rfl⟩,zbk (by decide) rfl rfl trivial rfl⟩
 have hb:(ndK n==15)=false:=hb;have hk15:ndK n≠15:=fun e=>by rw[beq_iff_eq.2 e]at hb;cases hb
 rw[if_neg hk15];refine za (za ?_);refine zaa hX zaP rfl ?_ ?_
 ·trivial
 refine zaf rfl (fun hb=>?_) (fun hb=>?_)
 ·have hb:(ndK n==16)=true:=hb;have hk:=beq_iff_eq.1 hb;rw[if_pos hk];obtain⟨hs0,hs1⟩:=hsc hk;refine xD (σ':=⟨[(0,⟨.hptr,((0:Nat),(0:Nat))⟩),(3,⟨.optr nd,⟨2,nd,.here⟩⟩)],(2,some (.box nd n))::wE ty true ((bf++putS (spW wPos) [ndC n]:List UInt8)) r,3⟩) ?_ ?_
  ·cases b
   all_goals
    (repeat(first|apply zae|apply zab|apply zac|apply zad));refine zai ?_;refine ym 4 hX zaP hsf rfl trivial rfl rfl ⟨(by show zg bf+zg (spW wPos)+19 * 1≤1000000000;have:zg (spW wPos)≤20:=(by decide);omega),(ze7 hC)⟩ hI ?_;exact yf ⟨⟨rfl,rfl,trivial⟩,⟨rfl,rfl,rfl,trivial⟩,rfl,rfl⟩
  have hl2:zg (bf++putS (spW wPos) [ndC n]:List UInt8)+zg (zb2 (ndM n))+19 * 0≤1000000000:=by
   have:=zbE (ze7 hC);have hw:zg (spW wPos)≤20:=by decide
   have hs:=zcH (ndM n);simp only[putS,zf,zt,zY]at this ⊢;omega
  refine xD (σ':=⟨[(0,⟨.hptr,((0:Nat),(0:Nat))⟩),(3,⟨.optr nd,⟨2,nd,.here⟩⟩)],(2,some (.box nd n))::wE ty true ((bf++putS (spW wPos) [ndC n]++putS (zb2 (ndM n)) []:List UInt8)) r,3⟩) ?_ ?_
  ·cases b
   all_goals
    (repeat(first|apply zae|apply zab|apply zac|apply zad));refine zai ?_;refine ym 4 hX zaP hsf rfl ⟨hs0,hs1⟩ rfl rfl ⟨hl2,fun x hx=>by cases hx⟩ hI ?_;exact yf ⟨⟨rfl,rfl,trivial⟩,⟨rfl,rfl,rfl,trivial⟩,rfl,rfl⟩
  have hl2b:zg (bf++putS (spW wPos) [ndC n]++putS (zb2 (ndM n)) []:List UInt8)+20 * zg (ndI n)+1≤1000000000:=by
   have:=zbE (ze7 hC);have hw:zg (spW wPos)≤20:=by decide
   have hs:=zcH (ndM n);have h0:zg (zdz [])=0:=rfl;simp only[putS,zf,zt,zY]at this h0 ⊢;omega
  rw[show (bf++(putS (spW wPos) [ndC n]++(putS (zb2 (ndM n)) []++zbT (ndI n))):List UInt8)=bf++putS (spW wPos) [ndC n]++putS (zb2 (ndM n)) []++zbT (ndI n) from (cat4 _ _ _ _).symm];(repeat(first|apply zae|apply zab|apply zac|apply zad));refine zai ?_;refine ym 3 hX zaP hsf rfl trivial rfl rfl ⟨hl2b,hI'⟩ hI ?_;exact yf ⟨.inl rfl,⟨_,rfl,u8,1,_,rfl,rfl,rfl⟩,zbk (by decide) rfl rfl trivial rfl⟩
 have hb:(ndK n==16)=false:=hb;have hk16:ndK n≠16:=fun e=>by rw[beq_iff_eq.2 e]at hb;cases hb
 rw[if_neg hk16];refine za (za ?_);refine zaa hX zaP rfl ?_ ?_
 ·trivial
 refine zaf rfl (fun hb=>?_) (fun hb=>?_)
 ·have hb:(ndK n==17)=true:=hb;have hk:=beq_iff_eq.1 hb;rw[if_pos hk];refine xD (σ':=⟨[(0,⟨.hptr,((0:Nat),(0:Nat))⟩),(3,⟨.optr nd,⟨2,nd,.here⟩⟩)],(2,some (.box nd n))::wE ty true ((bf++putS (spW zbS) [ndN n]:List UInt8)) r,3⟩) ?_ ?_
  ·cases b
   all_goals
    (repeat(first|apply zae|apply zab|apply zac|apply zad));refine zai ?_;refine ym 4 hX zaP hsf rfl trivial rfl rfl ⟨(by show zg bf+zg (spW zbS)+19 * 1≤1000000000;have:zg (spW zbS)≤20:=(by decide);omega),(ze7 hN)⟩ hI ?_;exact yf ⟨⟨rfl,rfl,trivial⟩,⟨rfl,rfl,rfl,trivial⟩,rfl,rfl⟩
  obtain⟨hb0,hb1,hb2⟩:=hbh hk;have hl2:zg (bf++putS (spW zbS) [ndN n]:List UInt8)+zg (spW wOf++ [32]:List UInt8)+19 * 0≤1000000000:=by
   have:=zbE (ze7 hN);have hw:zg (spW zbS)≤20:=by decide
   have hw2:zg (spW wOf++ [32]:List UInt8)≤20:=by decide
   rw[zf];simp only[putS,zf,zt,zY]at this hw2 ⊢;omega
  refine xD (σ':=⟨[(0,⟨.hptr,((0:Nat),(0:Nat))⟩),(3,⟨.optr nd,⟨2,nd,.here⟩⟩)],(2,some (.box nd n))::wE ty true ((bf++putS (spW zbS) [ndN n]++putS (spW wOf++ [32]) []:List UInt8)) r,3⟩) ?_ ?_
  ·cases b
   all_goals
    (repeat(first|apply zae|apply zab|apply zac|apply zad));refine zai ?_;refine ym 1 hX zaP hsf rfl trivial rfl rfl ⟨hl2,fun x hx=>by cases hx⟩ hI ?_;exact yf ⟨⟨rfl,rfl,trivial⟩,⟨rfl,rfl,rfl,trivial⟩,rfl,rfl⟩
  have hl3:zg (bf++putS (spW zbS) [ndN n]++putS (spW wOf++ [32]) []:List UInt8)+zg (opdF k r (ndR n) 5)+10000≤1000000000:=by
   rw[if_neg hk11,if_neg hk12,if_neg hk13,if_neg hk14,if_neg hk15,if_neg hk16,if_pos hk]at hT;rw[zf,zf]at hT ⊢;omega
  rw[show (bf++(putS (spW zbS) [ndN n]++(putS (spW wOf++ [32]) []++opdF k r (ndR n) 5)):List UInt8)=bf++putS (spW zbS) [ndN n]++putS (spW wOf++ [32]) []++opdF k r (ndR n) 5 from (cat4 _ _ _ _).symm];(repeat(first|apply zae|apply zab|apply zac|apply zad));refine zai ?_;refine ym 3 hX zaP hsf rfl trivial rfl rfl ⟨hwf,hb0,hb1,hb2,hl3⟩ hI ?_;exact yf ⟨.inl rfl,⟨_,rfl,u8,1,_,rfl,rfl,rfl⟩,zbk (by decide) rfl rfl trivial rfl⟩
 have hb:(ndK n==17)=false:=hb;have hk17:ndK n≠17:=fun e=>by rw[beq_iff_eq.2 e]at hb;cases hb
 rw[if_neg hk17];exfalso;omega
@[reducible] def zkO (k:Nat):HCtr:=hW [i64] (fun x xs=>[WfP x.2.2.1,0≤xs.1,xs.1.toNat < k,xs.1.toNat < zg x.2.2.1,zg x.2.1+zg (zcX k x.2.2.1 xs.1)+10000≤1000000000]) fun x xs=>zcX k x.2.2.1 xs.1
def kOd:Kn:={ gmK with C:=[(98,zsa),(101,cOps)] }
theorem zbP:KnOk Tryz.prog gmH kOd:=zak.with (.cons zqY <| .cons zgv .nil)
def hOd (k:Nat):List (zP×HCtr):=[(66,cWSP),(60,zkO k)]
theorem znh (k:Nat) (hNd:zaC Tryz.prog gmH 60 (zkO k)):zaC Tryz.prog gmH 99 (cOpd k):=by
 have hod:HsOk Tryz.prog gmH (hOd k):=.cons zid <| .cons hNd .nil;refine zau (K:=_) zbP Tryz.func99 rfl rfl (zcm rfl) Tryz.call99 rfl (zb rfl) (zdC prT [107]) ?_;rintro w0 ⟨G,O,K,fix,D,ρ,B⟩ ty hX hG hK hρ hD hinv ⟨(b:Bool),(bf:List UInt8),(r:List Nd),⟨⟩⟩ ⟨(i:Int),(q:Int),⟨⟩⟩ hp;obtain rfl:G=gmH:=hG;obtain rfl:K=1:=hK;obtain rfl:ρ=none:=hρ;obtain rfl:D=[]:=hD;have hI:=fun w R hR hw=>(⟨zaJ (ty:=ty) hX rfl hinv.1 (ty':=ty) w R hR hw,hinv.2⟩:bInv prT [107] w R ty);obtain⟨hwf,h0,hk,hr,hT⟩:WfP r∧0≤i∧i.toNat < k∧i.toNat < r.length∧bf.length+(opdF k r i q).length+10000≤1000000000:=hp;have hil:i < ((r.length:Nat):Int):=by omega
 change AWP _ _ _ _ _ ⟨[(0,⟨.hptr,((0:Nat),(0:Nat))⟩),(1,⟨i64,i⟩),(2,⟨i64,q⟩)],wE ty b bf r,2⟩ (wQ _ (cOpd k) ty (.ok ((),(true,((bf++opdF k r i q:List UInt8),(r,()))))));unfold opdF at hT ⊢;apply zae;refine xD (σ':=⟨[(0,⟨.hptr,((0:Nat),(0:Nat))⟩),(1,⟨i64,i⟩),(16,⟨.bool,decide (levS (ndK (zav r i))≥q)⟩)],wE ty b bf r,2⟩) ?_ ?_
 ·cases b
  all_goals
   refine zai ?_;refine yh 2 hX zbP rfl trivial ?_;refine jH (eqP1 _ _ rfl) hX zbP rfl trivial ?_;refine zV hX zbP rfl ⟨h0,hil⟩ ?_;exact⟨⟨rfl,rfl,rfl,trivial⟩,⟨rfl,rfl,trivial⟩,rfl,rfl⟩
 refine zaf rfl (fun hb=>?_) (fun hb=>?_)
 ·have hb:decide (levS (ndK (zav r i))≥q)=true:=hb;rw[hb]at hT ⊢;have hT:bf.length+(zcX k r i).length+10000≤1000000000:=hT;show AWP _ _ _ _ _ _ (zjO _ (wQ _ (cOpd k) ty (.ok ((),(true,((bf++zcX k r i:List UInt8),(r,())))))));cases b
  all_goals
   (repeat(first|apply zae|apply zab|apply zac|apply zad));refine zai ?_;refine ym 2 hX zbP hod rfl trivial rfl rfl ⟨hwf,h0,hk,hr,hT⟩ hI ?_;refine yf ?_;exact zq ⟨.inr rfl,⟨_,rfl,u8,1,_,rfl,rfl,rfl⟩,zbk (by decide) rfl rfl trivial rfl⟩
 ·have hb:decide (levS (ndK (zav r i))≥q)=false:=hb;rw[hb]at hT ⊢;have hT:bf.length+([40]++(zcX k r i++ [41]):List UInt8).length+10000≤1000000000:=hT;rw[zf,zf]at hT;have hT1:bf.length+zg ([40]:List UInt8)≤1000000000:=by omega
  have hT2:zg (bf++ [40]:List UInt8)+(zcX k r i).length+10000≤1000000000:=by rw[zf];omega
  have hT3:zg (bf++ [40]++zcX k r i:List UInt8)+zg ([41]:List UInt8)≤1000000000:=by rw[zf,zf];omega
  apply zab;rw[show (bf++parS false (zcX k r i):List UInt8)=bf++ [40]++zcX k r i++ [41] from (cat4 _ _ _ _).symm];refine xD (σ':=⟨[(0,⟨.hptr,((0:Nat),(0:Nat))⟩),(1,⟨i64,i⟩)],wE ty true ((bf++ [40]:List UInt8)) r,2⟩) ?_ ?_
  ·cases b
   all_goals
    refine zai ?_;refine yh 2 hX zbP rfl trivial ?_;refine jH (eqP0 _ _ rfl) hX zbP rfl trivial ?_;refine ym 0 hX zbP hod rfl trivial rfl rfl hT1 hI ?_;exact yf ⟨⟨rfl,rfl,trivial⟩,⟨rfl,rfl,trivial⟩,rfl,rfl⟩
  (repeat(first|apply zae|apply zab|apply zac|apply zad));refine zai ?_;refine ym 2 hX zbP hod rfl trivial rfl rfl ⟨hwf,h0,hk,hr,hT2⟩ hI ?_;refine yf ?_;refine zaq (σ':=⟨[(0,⟨.hptr,((0:Nat),(0:Nat))⟩)],wE ty true ((bf++ [40]++zcX k r i:List UInt8)) r,2⟩) ⟨⟨rfl,trivial⟩,⟨rfl,rfl,trivial⟩,rfl,rfl⟩ ?_;refine zai ?_;refine yh 2 hX zbP rfl trivial ?_;refine jH (eqP0 _ _ rfl) hX zbP rfl trivial ?_;refine ym 0 hX zbP hod rfl trivial rfl rfl hT3 hI ?_;refine yf ?_;exact⟨.inl rfl,⟨_,rfl,u8,1,_,rfl,rfl,rfl⟩,zbk (by decide) rfl rfl trivial rfl⟩
theorem zs2 {k:Int} (h:levS k < 4):(8≤k∧k≤10)∧1≤levS k:=by
 unfold levS at *;split at h
 ·rename_i e;subst e;decide
 ·split at h
  ·rename_i e;subst e;decide
  ·split at h
   ·rename_i e;subst e;decide
   ·split at h<;>omega
theorem levS_4 {k:Int} (h:levS k=4):11≤k∧k≤17:=by
 unfold levS at h;split at h
 ·omega
 ·split at h
  ·omega
  ·split at h
   ·omega
   ·split at h
    ·assumption
    ·omega
theorem levS_5 {k:Int} (h4:¬ levS k < 4) (h5:levS k≠4):¬ (8≤k∧k≤17):=by
 intro hk;unfold levS at *;split at h4
 ·omega
 ·split at h4
  ·omega
  ·split at h4
   ·omega
   ·split at h4
    ·rename_i a b c d;rw[if_neg a,if_neg b,if_neg c,if_pos d]at h5;exact h5 rfl
    ·omega
def hNo (k:Nat):List (zP×HCtr):=[(99,cOpd k),(100,cPut),(102,zrv k),(103,zpQ)]
theorem zsP (k:Nat) (hOp:zaC Tryz.prog gmH 99 (cOpd k)) (hSu:zaC Tryz.prog gmH 102 (zrv k)):zaC Tryz.prog gmH 60 (zkO (k+1)):=by
 have hno:HsOk Tryz.prog gmH (hNo k):=.cons hOp <| .cons zox <| .cons hSu <| .cons zq1 .nil;refine zau (K:=_) zbP Tryz.func60 rfl rfl (zcm rfl) Tryz.call60 rfl (zb rfl) (zdC prT [107]) ?_;rintro w0 ⟨G,O,K,fix,D,ρ,B⟩ ty hX hG hK hρ hD hinv ⟨(b:Bool),(bf:List UInt8),(r:List Nd),⟨⟩⟩ ⟨(i:Int),⟨⟩⟩ hp;obtain rfl:G=gmH:=hG;obtain rfl:K=1:=hK;obtain rfl:ρ=none:=hρ;obtain rfl:D=[]:=hD;have hI:=fun w R hR hw=>(⟨zaJ (ty:=ty) hX rfl hinv.1 (ty':=ty) w R hR hw,hinv.2⟩:bInv prT [107] w R ty);obtain⟨hwf,h0,hk,hr,hT⟩:WfP r∧0≤i∧i.toNat < k+1∧i.toNat < r.length∧bf.length+(zcX (k+1) r i).length+10000≤1000000000:=hp;have hil:i < ((r.length:Nat):Int):=by omega
 obtain⟨hnum,⟨hk1,hk18⟩,hL,hR⟩:=hwf.2 i.toNat hr;have hi:((i.toNat:Nat):Int)=i:=qm h0;rw[hi]at hnum hk1 hk18 hL hR;change AWP _ _ _ _ _ ⟨[(0,⟨.hptr,((0:Nat),(0:Nat))⟩),(1,⟨i64,i⟩)],wE ty b bf r,2⟩ (wQ _ (zkO (k+1)) ty (.ok ((),(true,((bf++zcX (k+1) r i:List UInt8),(r,()))))));unfold zcX at hT ⊢;generalize hn:zav r i=n at *;refine xD (σ':=⟨[(0,⟨.hptr,((0:Nat),(0:Nat))⟩),(4,⟨.optr nd,⟨2,nd,.here⟩⟩)],(2,some (.box nd n))::wE ty b bf r,3⟩) ?_ ?_
 ·subst hn;cases b
  all_goals
   refine zai ?_;refine yh 2 hX zbP rfl trivial ?_;refine jH (eqP1 _ _ rfl) hX zbP rfl trivial ?_;refine zV hX zbP rfl ⟨h0,hil⟩ ?_;exact⟨⟨rfl,rfl,trivial⟩,⟨rfl,rfl,rfl,trivial⟩,rfl,rfl⟩
 clear hn;refine xD (σ':=⟨[(0,⟨.hptr,((0:Nat),(0:Nat))⟩),(4,⟨.optr nd,⟨2,nd,.here⟩⟩),(5,⟨i64,levS (ndK n)⟩)],(2,some (.box nd n))::wE ty b bf r,3⟩) ?_ ?_
 ·refine zai ?_;refine zV hX zbP rfl trivial ?_;exact⟨⟨rfl,rfl,rfl,trivial⟩,⟨rfl,rfl,rfl,trivial⟩,rfl,by cases b<;>rfl⟩
 apply zac;refine za (za ?_);refine zaa hX zbP rfl ?_ ?_
 ·trivial
 refine zaf rfl (fun hb=>?_) (fun hb=>?_)
 ·have hb:decide (levS (ndK n) < 4)=true:=hb;have hb:=of_decide_eq_true hb;rw[if_pos hb]at hT ⊢;obtain⟨⟨hk8,hk10⟩,hl1⟩:=zs2 hb;obtain⟨hL0,hL1⟩:=hL hk8 (by omega);obtain⟨hR0,hR1⟩:=hR hk8 (.inl hk10);generalize levS (ndK n)=x at hb hT hl1;change bf.length+(opdF k r (ndL n) x++(putS ([32]++opWd x++ [32]) []++opdF k r (ndR n) (x+1))).length+10000≤1000000000 at hT;have hx3:x=1∨x=2∨x=3:=by omega
  have hw:zg (opWd x)≤5:=by rcases hx3 with rfl|rfl|rfl<;>decide
  have hT0:=hT;rw[zf,zf]at hT;have hLk:(ndL n).toNat < k:=by omega
  have hLr:(ndL n).toNat < r.length:=by omega
  have hRk:(ndR n).toNat < k:=by omega
  have hRr:(ndR n).toNat < r.length:=by omega
  have hTA:bf.length+(opdF k r (ndL n) x).length+10000≤1000000000:=by omega
  have hM0:zg (putS ([32]++opWd x++ [32]) [])=zg ([32]++opWd x++ [32]:List UInt8):=by
   show zg (([32]++opWd x++ [32])++ []:List UInt8)=_;rw[zI]
  have hM1:zg ([32]++opWd x++ [32]:List UInt8)≤7:=by
   rw[zf,zf];show 1+_+1≤7;omega
  have hTM:zg (bf++opdF k r (ndL n) x:List UInt8)+zg ([32]++opWd x++ [32]:List UInt8)+19 * 0≤1000000000:=by rw[zf];omega
  have hTC:zg (bf++opdF k r (ndL n) x++putS ([32]++opWd x++ [32]) []:List UInt8)+(opdF k r (ndR n) (x+1)).length+10000≤1000000000:=by rw[zf,zf];omega
  have q0:inR .i64 (x - 1):=zan (by omega) (by omega);have q1:inR .i64 (x+1):=zan (by omega) (by omega);have q2:(0:Int)≤x - 1:=by omega
  have q3:x - 1 < ((opsL.length:Nat):Int):=by show x - 1 < ((3:Nat):Int);omega
  have q4:1+zg (opWd x)≤maxLen:=by unfold maxLen;omega
  have q5:zg ([32]++opWd x:List UInt8)+1≤maxLen:=by rw[zf];show 1+_+1≤_;unfold maxLen;omega
  change AWP _ _ _ _ _ _ (zkR 0 (wQ _ (zkO (k+1)) ty (.ok ((),(true,((bf++(opdF k r (ndL n) x++(putS ([32]++opWd x++ [32]) []++opdF k r (ndR n) (x+1))):List UInt8),(r,())))))));rw[show (bf++(opdF k r (ndL n) x++(putS ([32]++opWd x++ [32]) []++opdF k r (ndR n) (x+1))):List UInt8)=bf++opdF k r (ndL n) x++putS ([32]++opWd x++ [32]) []++opdF k r (ndR n) (x+1) from (cat4 _ _ _ _).symm];refine xD (σ':=⟨[(0,⟨.hptr,((0:Nat),(0:Nat))⟩),(4,⟨.optr nd,⟨2,nd,.here⟩⟩),(5,⟨i64,x⟩)],(2,some (.box nd n))::wE ty true ((bf++opdF k r (ndL n) x:List UInt8)) r,3⟩) ?_ ?_
  ·cases b
   all_goals
    refine zai ?_;refine ym 4 hX zbP hno rfl trivial rfl rfl ⟨hwf,hL0,hLk,hLr,hTA⟩ hI ?_;exact yf ⟨⟨rfl,rfl,rfl,trivial⟩,⟨rfl,rfl,rfl,trivial⟩,rfl,rfl⟩
  refine xD (σ':=⟨[(0,⟨.hptr,((0:Nat),(0:Nat))⟩),(4,⟨.optr nd,⟨2,nd,.here⟩⟩),(5,⟨i64,x⟩)],(2,some (.box nd n))::wE ty true ((bf++opdF k r (ndL n) x++putS ([32]++opWd x++ [32]) []:List UInt8)) r,3⟩) ?_ ?_
  ·refine zai ?_;refine ym 9 hX zbP hno rfl ⟨q0,q2,q3,q4,q5⟩ rfl rfl ⟨hTM,fun y hy=>by cases hy⟩ hI ?_;exact yf ⟨⟨rfl,rfl,rfl,trivial⟩,⟨rfl,rfl,rfl,trivial⟩,rfl,rfl⟩
  refine zai ?_;refine ym 5 hX zbP hno rfl q1 rfl rfl ⟨hwf,hR0,hRk,hRr,hTC⟩ hI ?_;exact yf ⟨.inl rfl,⟨_,rfl,u8,1,_,rfl,rfl,rfl⟩,zbk (by decide) rfl rfl trivial rfl⟩
 ·have hb:decide (levS (ndK n) < 4)=false:=hb;have hb:=of_decide_eq_false hb;rw[if_neg hb]at hT ⊢;apply zae;refine za (za ?_);refine zaa hX zbP rfl ?_ ?_
  ·trivial
  refine zaf rfl (fun hc=>?_) (fun hc=>?_)
  ·have hc:(levS (ndK n)==4)=true:=hc;have hc:=beq_iff_eq.1 hc;rw[if_pos hc]at hT ⊢;obtain⟨hk11,hk17⟩:=levS_4 hc;obtain⟨hL0,hL1⟩:=hL (by omega) hk17;have hLk:(ndL n).toNat < k:=by omega
   have hLr:(ndL n).toNat < r.length:=by omega
   have hB:ndK n=17->0≤ndR n∧(ndR n).toNat < k∧(ndR n).toNat < r.length:=fun e=>by
    obtain⟨hR0,hR1⟩:=hR (by omega) (.inr e);exact⟨hR0,by omega,by omega⟩
   change bf.length+(opdF k r (ndL n) 4++zca (opdF k r (ndR n) 5) n).length+10000≤1000000000 at hT;rw[zf]at hT;have hTA:bf.length+(opdF k r (ndL n) 4).length+10000≤1000000000:=by omega
   have hTS:zg (bf++opdF k r (ndL n) 4:List UInt8)+(zca (opdF k r (ndR n) 5) n).length+10000≤1000000000:=by rw[zf];omega
   change AWP _ _ _ _ _ _ (zkR 0 (wQ _ (zkO (k+1)) ty (.ok ((),(true,((bf++(opdF k r (ndL n) 4++zca (opdF k r (ndR n) 5) n):List UInt8),(r,())))))));rw[show (bf++(opdF k r (ndL n) 4++zca (opdF k r (ndR n) 5) n):List UInt8)=bf++opdF k r (ndL n) 4++zca (opdF k r (ndR n) 5) n from (cat3 _ _ _).symm];refine xD (σ':=⟨[(0,⟨.hptr,((0:Nat),(0:Nat))⟩),(4,⟨.optr nd,⟨2,nd,.here⟩⟩)],(2,some (.box nd n))::wE ty true ((bf++opdF k r (ndL n) 4:List UInt8)) r,3⟩) ?_ ?_
   ·cases b
    all_goals
     refine zai ?_;refine ym 3 hX zbP hno rfl trivial rfl rfl ⟨hwf,hL0,hLk,hLr,hTA⟩ hI ?_;exact yf ⟨⟨rfl,rfl,trivial⟩,⟨rfl,rfl,rfl,trivial⟩,rfl,rfl⟩
   refine zai ?_;refine ym 2 hX zbP hno rfl trivial rfl rfl ⟨hwf,hnum,hk11,hk17,hB,hTS⟩ hI ?_;exact yf ⟨.inl rfl,⟨_,rfl,u8,1,_,rfl,rfl,rfl⟩,zbk (by decide) rfl rfl trivial rfl⟩
  ·have hc:(levS (ndK n)==4)=false:=hc;have hc:levS (ndK n)≠4:=fun e=>by rw[beq_iff_eq.2 e]at hc;cases hc
   rw[if_neg hc]at hT ⊢;have h5:=levS_5 hb hc;have hkl:ndK n≤7∨ndK n=18:=by omega
   have hT:bf.length+(zc6 n).length+10000≤1000000000:=hT;have hT1:bf.length+10000≤1000000000:=by omega
   cases b
   all_goals
    refine zai ?_;refine ym 2 hX zbP hno rfl trivial rfl rfl ⟨hT1,hnum,hk1,hkl⟩ hI ?_;exact yf ⟨.inl rfl,⟨_,rfl,u8,1,_,rfl,rfl,rfl⟩,zbk (by decide) rfl rfl trivial rfl⟩
theorem zrL:∀ k,zaC Tryz.prog gmH 60 (zkO k)∧zaC Tryz.prog gmH 99 (cOpd k)
 |0=>⟨zem (zcm rfl) Tryz.call60 fun x xs h=>absurd h.2.2.1 (xr _),zem (zcm rfl) Tryz.call99 fun x xs h=>absurd h.2.2.1 (xr _)⟩
 |k+1=>by
  obtain⟨h1,h2⟩:=zrL k;have h3:=zsP k h2 (zmT k h2);exact⟨h3,znh (k+1) h3⟩
set_option maxRecDepth 10000
theorem zl4 {n:Nd} (h:zba n=true):zkU n:=by
 obtain⟨⟨k1,k2⟩,hl,_⟩:=zaG h;have hs:=zmw h;have key:(zb1 (ndC n)∧zb1 (ndN n)∧zb1 (ndM n))∧(∀ x∈ndI n,zb1 x)∧(ndK n=7->0≤ndL n∧ndL n≤1)∧(ndK n=16->0≤ndM n∧ndM n≤1):=by
  rcases (show ndK n=1∨ndK n=2∨ndK n=3∨ndK n=4∨ndK n=5∨ndK n=6∨ndK n=7∨ndK n=8∨ndK n=9∨ndK n=10∨ndK n=11∨ndK n=12∨ndK n=13∨ndK n=14∨ndK n=15∨ndK n=16∨ndK n=17∨ndK n=18 by omega) with k|k|k|k|k|k|k|k|k|k|k|k|k|k|k|k|k|k
  ·obtain⟨e,b1,b2⟩:=fld1 h k;have eC:=congrArg ndC e;have eN:=congrArg ndN e;have eM:=congrArg ndM e;have eI:=congrArg ndI e;have eC:ndC n=0:=eC;have eN:ndN n=ndN n:=eN;have eM:ndM n=ndM n:=eM;have eI:ndI n=[]:=eI;refine⟨⟨⟨by omega,by omega⟩,⟨by omega,by omega⟩,⟨by omega,by omega⟩⟩,?_,fun e=>by omega,fun e=>by omega⟩;rw[eI];exact fun x hx=>by cases hx
  ·obtain⟨e,bc,b1,b2⟩:=fld2 h k;have eC:=congrArg ndC e;have eN:=congrArg ndN e;have eM:=congrArg ndM e;have eI:=congrArg ndI e;have eC:ndC n=ndC n:=eC;have eN:ndN n=ndN n:=eN;have eM:ndM n=ndM n:=eM;have eI:ndI n=[]:=eI;refine⟨⟨⟨by omega,by omega⟩,⟨by omega,by omega⟩,⟨by omega,by omega⟩⟩,?_,fun e=>by omega,fun e=>by omega⟩;rw[eI];exact fun x hx=>by cases hx
  ·obtain⟨e,bc,⟨l1,l2,l3⟩⟩:=fld3 h k;have eC:=congrArg ndC e;have eN:=congrArg ndN e;have eM:=congrArg ndM e;have eI:=congrArg ndI e;have eC:ndC n=ndC n:=eC;have eN:ndN n=0:=eN;have eM:ndM n=0:=eM;have eI:ndI n=ndI n:=eI;refine⟨⟨⟨by omega,by omega⟩,⟨by omega,by omega⟩,⟨by omega,by omega⟩⟩,?_,fun e=>by omega,fun e=>by omega⟩;exact fun x hx=>by have:=zcl (by decide) (by decide) l3 x hx;exact⟨by have:=this.1;omega,by have:=this.2;omega⟩
  ·obtain⟨e,bc,⟨l1,l2,l3⟩⟩:=fld4 h k;have eC:=congrArg ndC e;have eN:=congrArg ndN e;have eM:=congrArg ndM e;have eI:=congrArg ndI e;have eC:ndC n=ndC n:=eC;have eN:ndN n=0:=eN;have eM:ndM n=0:=eM;have eI:ndI n=ndI n:=eI;refine⟨⟨⟨by omega,by omega⟩,⟨by omega,by omega⟩,⟨by omega,by omega⟩⟩,?_,fun e=>by omega,fun e=>by omega⟩;exact fun x hx=>by have:=zcl (by decide) (by decide) l3 x hx;exact⟨by have:=this.1;omega,by have:=this.2;omega⟩
  ·obtain⟨e,⟨l1,l2,l3⟩⟩:=fld5 h k;have eC:=congrArg ndC e;have eN:=congrArg ndN e;have eM:=congrArg ndM e;have eI:=congrArg ndI e;have eC:ndC n=0:=eC;have eN:ndN n=0:=eN;have eM:ndM n=0:=eM;have eI:ndI n=ndI n:=eI;refine⟨⟨⟨by omega,by omega⟩,⟨by omega,by omega⟩,⟨by omega,by omega⟩⟩,?_,fun e=>by omega,fun e=>by omega⟩;exact fun x hx=>by have:=zcl (by decide) (by decide) l3 x hx;exact⟨by have:=this.1;omega,by have:=this.2;omega⟩
  ·obtain⟨e,bc,⟨l1,l2,l3⟩⟩:=fld6 h k;have eC:=congrArg ndC e;have eN:=congrArg ndN e;have eM:=congrArg ndM e;have eI:=congrArg ndI e;have eC:ndC n=ndC n:=eC;have eN:ndN n=0:=eN;have eM:ndM n=0:=eM;have eI:ndI n=ndI n:=eI;refine⟨⟨⟨by omega,by omega⟩,⟨by omega,by omega⟩,⟨by omega,by omega⟩⟩,?_,fun e=>by omega,fun e=>by omega⟩;exact fun x hx=>by have:=zcl (by decide) (by decide) l3 x hx;exact⟨by have:=this.1;omega,by have:=this.2;omega⟩
  ·obtain⟨e,bc,b1,bz,b2,b3⟩:=fld7 h k;have eC:=congrArg ndC e;have eN:=congrArg ndN e;have eM:=congrArg ndM e;have eI:=congrArg ndI e;have eC:ndC n=ndC n:=eC;have eN:ndN n=ndN n:=eN;have eM:ndM n=ndM n:=eM;have eI:ndI n=[]:=eI;refine⟨⟨⟨by omega,by omega⟩,⟨by omega,by omega⟩,⟨by omega,by omega⟩⟩,?_,fun e=>by omega,fun e=>by omega⟩;rw[eI];exact fun x hx=>by cases hx
  ·have e:=fld8 h k;have eC:=congrArg ndC e;have eN:=congrArg ndN e;have eM:=congrArg ndM e;have eI:=congrArg ndI e;have eC:ndC n=0:=eC;have eN:ndN n=0:=eN;have eM:ndM n=0:=eM;have eI:ndI n=[]:=eI;refine⟨⟨⟨by omega,by omega⟩,⟨by omega,by omega⟩,⟨by omega,by omega⟩⟩,?_,fun e=>by omega,fun e=>by omega⟩;rw[eI];exact fun x hx=>by cases hx
  ·have e:=fld9 h k;have eC:=congrArg ndC e;have eN:=congrArg ndN e;have eM:=congrArg ndM e;have eI:=congrArg ndI e;have eC:ndC n=0:=eC;have eN:ndN n=0:=eN;have eM:ndM n=0:=eM;have eI:ndI n=[]:=eI;refine⟨⟨⟨by omega,by omega⟩,⟨by omega,by omega⟩,⟨by omega,by omega⟩⟩,?_,fun e=>by omega,fun e=>by omega⟩;rw[eI];exact fun x hx=>by cases hx
  ·have e:=fld10 h k;have eC:=congrArg ndC e;have eN:=congrArg ndN e;have eM:=congrArg ndM e;have eI:=congrArg ndI e;have eC:ndC n=0:=eC;have eN:ndN n=0:=eN;have eM:ndM n=0:=eM;have eI:ndI n=[]:=eI;refine⟨⟨⟨by omega,by omega⟩,⟨by omega,by omega⟩,⟨by omega,by omega⟩⟩,?_,fun e=>by omega,fun e=>by omega⟩;rw[eI];exact fun x hx=>by cases hx
  ·obtain⟨e,b1⟩:=ztu h k;have eC:=congrArg ndC e;have eN:=congrArg ndN e;have eM:=congrArg ndM e;have eI:=congrArg ndI e;have eC:ndC n=0:=eC;have eN:ndN n=ndN n:=eN;have eM:ndM n=0:=eM;have eI:ndI n=[]:=eI;refine⟨⟨⟨by omega,by omega⟩,⟨by omega,by omega⟩,⟨by omega,by omega⟩⟩,?_,fun e=>by omega,fun e=>by omega⟩;rw[eI];exact fun x hx=>by cases hx
  ·obtain⟨e,b1⟩:=ztt h k;have eC:=congrArg ndC e;have eN:=congrArg ndN e;have eM:=congrArg ndM e;have eI:=congrArg ndI e;have eC:ndC n=0:=eC;have eN:ndN n=ndN n:=eN;have eM:ndM n=0:=eM;have eI:ndI n=[]:=eI;refine⟨⟨⟨by omega,by omega⟩,⟨by omega,by omega⟩,⟨by omega,by omega⟩⟩,?_,fun e=>by omega,fun e=>by omega⟩;rw[eI];exact fun x hx=>by cases hx
  ·obtain⟨e,b1⟩:=zts h k;have eC:=congrArg ndC e;have eN:=congrArg ndN e;have eM:=congrArg ndM e;have eI:=congrArg ndI e;have eC:ndC n=0:=eC;have eN:ndN n=ndN n:=eN;have eM:ndM n=0:=eM;have eI:ndI n=[]:=eI;refine⟨⟨⟨by omega,by omega⟩,⟨by omega,by omega⟩,⟨by omega,by omega⟩⟩,?_,fun e=>by omega,fun e=>by omega⟩;rw[eI];exact fun x hx=>by cases hx
  ·obtain⟨e,⟨l1,l2,l3⟩⟩:=ztr h k;have eC:=congrArg ndC e;have eN:=congrArg ndN e;have eM:=congrArg ndM e;have eI:=congrArg ndI e;have eC:ndC n=0:=eC;have eN:ndN n=0:=eN;have eM:ndM n=0:=eM;have eI:ndI n=ndI n:=eI;refine⟨⟨⟨by omega,by omega⟩,⟨by omega,by omega⟩,⟨by omega,by omega⟩⟩,?_,fun e=>by omega,fun e=>by omega⟩;exact fun x hx=>by have:=zcl (by decide) (by decide) l3 x hx;exact⟨by have:=this.1;omega,by have:=this.2;omega⟩
  ·obtain⟨e,⟨l1,l2,l3⟩⟩:=ztq h k;have eC:=congrArg ndC e;have eN:=congrArg ndN e;have eM:=congrArg ndM e;have eI:=congrArg ndI e;have eC:ndC n=0:=eC;have eN:ndN n=0:=eN;have eM:ndM n=0:=eM;have eI:ndI n=ndI n:=eI;refine⟨⟨⟨by omega,by omega⟩,⟨by omega,by omega⟩,⟨by omega,by omega⟩⟩,?_,fun e=>by omega,fun e=>by omega⟩;exact fun x hx=>by have:=zcl (by decide) (by decide) l3 x hx;exact⟨by have:=this.1;omega,by have:=this.2;omega⟩
  ·obtain⟨e,bc,⟨l1,l2,l3⟩,b1⟩:=ztp h k;have eC:=congrArg ndC e;have eN:=congrArg ndN e;have eM:=congrArg ndM e;have eI:=congrArg ndI e;have eC:ndC n=ndC n:=eC;have eN:ndN n=0:=eN;have eM:ndM n=ndM n:=eM;have eI:ndI n=ndI n:=eI;refine⟨⟨⟨by omega,by omega⟩,⟨by omega,by omega⟩,⟨by omega,by omega⟩⟩,?_,fun e=>by omega,fun e=>by omega⟩;exact fun x hx=>by have:=zcl (by decide) (by decide) l3 x hx;exact⟨by have:=this.1;omega,by have:=this.2;omega⟩
  ·obtain⟨e,b1⟩:=zto h k;have eC:=congrArg ndC e;have eN:=congrArg ndN e;have eM:=congrArg ndM e;have eI:=congrArg ndI e;have eC:ndC n=0:=eC;have eN:ndN n=ndN n:=eN;have eM:ndM n=0:=eM;have eI:ndI n=[]:=eI;refine⟨⟨⟨by omega,by omega⟩,⟨by omega,by omega⟩,⟨by omega,by omega⟩⟩,?_,fun e=>by omega,fun e=>by omega⟩;rw[eI];exact fun x hx=>by cases hx
  ·obtain⟨e,bn⟩:=ztn h k;have eC:=congrArg ndC e;have eN:=congrArg ndN e;have eM:=congrArg ndM e;have eI:=congrArg ndI e;have eC:ndC n=0:=eC;have eN:ndN n=0:=eN;have eM:ndM n=0:=eM;have eI:ndI n=[]:=eI;refine⟨⟨⟨by omega,by omega⟩,⟨by omega,by omega⟩,⟨by omega,by omega⟩⟩,?_,fun e=>by omega,fun e=>by omega⟩;rw[eI];exact fun x hx=>by cases hx
 exact⟨key.1,key.2.1,by omega,by omega,key.2.2⟩
theorem wfp_of {r:List Nd} (h:wfS r=true):WfP r:=by
 obtain⟨⟨h1,h2⟩,h3,h4⟩:=zds h;refine⟨by omega,fun j hj=>?_⟩;obtain⟨f1,f2⟩:=zct h3 hj;obtain⟨l1,l2⟩:=zma h3 j hj;exact⟨zl4 f1,(zaG f1).1,l1,l2⟩
theorem zcO (c:Bool) (t:List UInt8):(parS c t).length≤t.length+2:=by
 cases c with
 |true=>show t.length≤_;omega
 |false=>show ([40]++(t++ [41]):List UInt8).length≤_;simp
theorem zq0 {n:Nd} (h:zkU n):(zc6 n).length≤2100:=by
 obtain⟨⟨hC,hN,hM⟩,hI,hl,hs,_⟩:=h;have l1:∀ w:List UInt8,w.length≤10->∀ l:List Int,l.length≤3->(∀ x∈l,zb1 x)->(putS w l).length≤67:=fun w hw l hl hx=>by
  have:=zbE hx;unfold putS;rw[zf];omega
 have l2:(zbT (ndI n)).length≤2001:=by
  have:=zfA (ndI n) 0 hI;unfold zbT;rw[zf,yp];omega
 have p0:∀ x∈([]:List Int),zb1 x:=fun x hx=>by cases hx
 have p1:∀ x∈ [ndC n],zb1 x:=fun x hx=>by rw[zu.1 hx];exact hC
 have p2:∀ x∈ [ndN n,ndM n],zb1 x:=fun x hx=>by
  rcases zX.1 hx with rfl|hx
  ·exact hN
  ·rw[zu.1 hx];exact hM
 have p3:∀ x∈ [ndC n,ndN n,ndM n],zb1 x:=fun x hx=>by
  rcases zX.1 hx with rfl|hx
  ·exact hC
  ·exact p2 x hx
 unfold zc6;split
 ·exact zE (l1 _ (by decide) _ (by simp) p2) (by decide)
 split
 ·exact zE (l1 _ (by decide) _ (by simp) p3) (by decide)
 split
 ·rw[zf];have:=l1 zcj (by decide) _ (by simp) p1;omega
 split
 ·rw[zf];have:=l1 za5 (by decide) _ (by simp) p1;omega
 split
 ·rw[zf];have:=l1 zbl (by decide) _ (by simp) p0;omega
 split
 ·rw[zf];have:=l1 zdf (by decide) _ (by simp) p1;omega
 split
 ·rw[zf];have:=l1 wNth (by decide) _ (by simp) p3;have:=l1 (zb2 (ndL n)) (zcH _) [] (by decide) p0;omega
 split
 ·show (64::ndS n++ []).length≤_;rw[zI,zt];omega
 ·exact zm _
theorem znU {n:Nd} (b:List UInt8) (h:zkU n):(zca b n).length≤2200+b.length:=by
 obtain⟨⟨hC,hN,hM⟩,hI,hl,hs,_⟩:=h;have l1:∀ w:List UInt8,w.length≤10->∀ l:List Int,l.length≤3->(∀ x∈l,zb1 x)->(putS w l).length≤67:=fun w hw l hl hx=>by
  have:=zbE hx;unfold putS;rw[zf];omega
 have l2:(zbT (ndI n)).length≤2001:=by
  have:=zfA (ndI n) 0 hI;unfold zbT;rw[zf,yp];omega
 have p0:∀ x∈([]:List Int),zb1 x:=fun x hx=>by cases hx
 have p1:∀ x∈ [ndC n],zb1 x:=fun x hx=>by rw[zu.1 hx];exact hC
 have p2:∀ x∈ [ndN n],zb1 x:=fun x hx=>by rw[zu.1 hx];exact hN
 unfold zca;split
 ·have:=l1 (spW zeQ) (by decide) _ (by simp) p2;omega
 split
 ·have:=l1 (spW zhW) (by decide) _ (by simp) p2;omega
 split
 ·have:=l1 (spW zeP) (by decide) _ (by simp) p2;omega
 split
 ·rw[zf];have:=l1 (spW zeZ) (by decide) _ (by simp) p0;omega
 split
 ·rw[zf];have:=l1 (spW zck) (by decide) _ (by simp) p0;omega
 split
 ·rw[zf,zf];have:=l1 (spW wPos) (by decide) _ (by simp) p1;have:=l1 (zb2 (ndM n)) (zcH _) [] (by decide) p0;omega
 split
 ·rw[zf,zf];have:=l1 (spW zbS) (by decide) _ (by simp) p2;have:=l1 (spW wOf++ [32]) (by decide) [] (by decide) p0;omega
 ·exact zm _
theorem zgH:∀ t:Tr,TrOk t->t.text.length≤3000 * t.size
 | .leaf n,h=>by
  have:=zq0 (zl4 h.1);show (zc6 n).length≤3000 * 1;omega
 | .un n a,h=>by
  have h1:=znU [] (zl4 h.1);have h2:=zgH a h.2.2.2;have h3:=zcO (decide (a.lev≥4)) a.text;show (parS _ a.text++zca [] n).length≤3000 * (a.size+1);rw[zf];rw[zY]at h1;omega
 | .bin n a b,h=>by
  have h1:=zgH a h.2.2.2.1;have h2:=zgH b h.2.2.2.2;show _≤3000 * (a.size+b.size+1);rw[ziO];split
  ·have h3:=zcO (decide (a.lev≥4)) a.text;have h4:=zcO (decide (b.lev≥5)) b.text;have h5:=znU (parS (decide (b.lev≥5)) b.text) (zl4 h.1);rw[zf];omega
  ·have h3:=zcO (decide (a.lev≥levS (ndK n))) a.text;have h4:=zcO (decide (b.lev≥levS (ndK n)+1)) b.text;have h5:(putS ([32]++opWd (levS (ndK n))++ [32]) []).length≤20:=by
    have h6:=zjb (ndK n);show (([32]++opWd (levS (ndK n))++ [32])++ []:List UInt8).length≤20;rcases (show levS (ndK n)=1∨levS (ndK n)=2∨levS (ndK n)=3∨levS (ndK n)=4∨levS (ndK n)=5 by omega) with e|e|e|e|e<;>rw[e]<;>decide
   rw[zf,zf];omega
theorem zsu {t:Tr} (h:TrOk t) (hs:t.size≤64):t.text≠ []:=fun e=>by
 have h1:=znc h hs;rw[e]at h1;have h2:(match zeU [] with | .ok _=>true| .error _=>false)=false:=by kernel_rfl
 rw[h1]at h2;cases h2
def guT:Tbl:=(236,.int .u64)::gmT
theorem guT_ok:TOk Tryz.prog guT gmQ:=zrF (by kernel_rfl) (by kernel_rfl)
def guK:Kn:={ T:=guT,Q:=gmQ,U:=gmU,C:=[] }
theorem zkz:KnOk Tryz.prog gmH guK:=⟨guT_ok,zhw,CsOk.nil,ziE,RsOk.nil⟩
def cMag:Ctr:={ args:=[i64],pre:=fun x=>[0≤x.1],res:=.int .u64,own:=none,out:=fun x=>yI 64 x.1 }
theorem mag_ok:yM Tryz.prog gmH 223 cMag:=by
 refine zar (K:=guK) zkz Tryz.func223 rfl rfl Tryz.call223 rfl (by decide) (by intro h;cases h) ?_;rintro w0 X hX ⟨(n:Int),_⟩ hp;have hn:0≤n:=hp;change AWP _ _ _ _ _ ⟨[(0,⟨i64,n⟩)],[],0⟩ _;refine za (za ?_);refine zaa hX zkz rfl ?_ ?_
 ·trivial
 refine za (za ?_);refine zaa hX zkz rfl ?_ ?_
 ·trivial
 refine zaf rfl (fun hb=>?_) (fun hb=>?_)
 ·have hb:decide (n < 0)=true:=hb;have hb:=of_decide_eq_true hb;omega
 apply zab;refine za (za ?_);refine zaa hX zkz rfl ?_ ?_
 ·trivial
 refine zq ⟨.inr rfl,zax rfl trivial rfl rfl ?_⟩;rfl
theorem bvI {a:Int} (h:0≤a):(⟨.int .u64,yI 64 a⟩:V)=⟨.int .u64,yb 64 a.toNat⟩:=by
 have:yI 64 a=yb 64 a.toNat:=by
  conv=>lhs;rw[<-qm h]
  exact BitVec.ofInt_natCast ..
 rw[this]
theorem bvN {y:Nat} (h:y≤1000000000000000):(yb 64 y).toNat=y:=by
 rw[BitVec.toNat_ofNat];exact Nat.mod_eq_of_lt (by omega)
theorem bvR {x y:Nat} (hx:x≤1000000000000000) (hy:y≤1000000000000000):(⟨.int .u64,yb 64 x % yb 64 y⟩:V)=⟨.int .u64,yb 64 (x % y)⟩:=by
 have hm:x % y≤x:=Nat.mod_le ..;have:yb 64 x % yb 64 y=yb 64 (x % y):=BitVec.eq_of_toNat_eq (by rw[BitVec.toNat_umod,bvN hx,bvN hy,bvN (by omega)]);rw[this]
def cGcd:Ctr:={ args:=[i64,i64],pre:=fun x=>[1≤x.1,x.1≤1000000000000000,1≤x.2.1,x.2.1≤1000000000000000],res:=i64,own:=none,out:=fun x=>((xT x.2.1.toNat x.1.toNat:Nat):Int) }
def kGcd:Kn:={ guK with C:=[(223,cMag)] }
theorem zek:KnOk Tryz.prog gmH kGcd:=zkz.with (.cons mag_ok .nil)
theorem gcd_ok:yM Tryz.prog gmH 190 cGcd:=by
 refine zar (K:=kGcd) zek Tryz.func190 rfl rfl Tryz.call190 rfl (by decide) (by intro h;cases h) ?_;rintro w0 X hX ⟨(a:Int),(b:Int),_⟩ hp;obtain⟨ha,ha',hb,hb'⟩:1≤a∧a≤1000000000000000∧1≤b∧b≤1000000000000000:=by
  simp only[cGcd,allP]at hp
  simpa using hp
 change AWP _ _ _ _ _ ⟨[(0,⟨i64,a⟩),(1,⟨i64,b⟩)],[],0⟩ _;apply zae;refine za (za ?_);refine zaa hX zek rfl ?_ ?_
 ·trivial
 refine za (za ?_);refine zaa hX zek rfl ?_ ?_
 ·have h1:0≤a:=by omega
  have h2:0≤b:=by omega
  repeat'(first|exact trivial|exact h1|exact h2|(refine⟨?_,?_⟩)|(intro _))
 (repeat(first|apply zae|apply zab|apply zac|apply zad));refine yU (ι:=Nat×Nat) (fun p=>⟨[(0,⟨i64,a⟩),(1,⟨i64,b⟩),(5,⟨.int .u64,yb 64 p.1⟩),(6,⟨.int .u64,yb 64 p.2⟩)],[],0⟩) (fun p=>p.1≤1000000000000000∧p.2≤1000000000000000∧xT p.2 p.1=xT b.toNat a.toNat) (fun p=>p.2) (a.toNat,b.toNat) ⟨by omega,by omega,rfl⟩ ⟨⟨rfl,rfl,bvI (by omega),bvI (by omega),trivial⟩,trivial,rfl,rfl⟩ ?_;rintro ⟨x,y⟩ ⟨hx,hy,hg⟩;have hx:x≤1000000000000000:=hx;have hy:y≤1000000000000000:=hy;have hg:xT y x=xT b.toNat a.toNat:=hg;refine za (za ?_);refine zaa hX zek rfl ?_ ?_
 ·trivial
 refine zaf rfl (fun hb=>?_) (fun hb=>?_)
 ·have hc:((((yb 64 y).toNat:Nat):Int) != 0)=true:=hb;have hy1:y≠0:=fun e=>by subst e;exact absurd hc (by decide)
  have hy0:yb 64 y≠0:=fun e=>hy1 (by have:=congrArg BitVec.toNat e;rw[bvN hy]at this;exact this);(repeat(first|apply zae|apply zab|apply zac|apply zad));refine AWP.ordF (σ':=⟨[(0,⟨i64,a⟩),(1,⟨i64,b⟩),(5,⟨.int .u64,yb 64 y⟩),(6,⟨.int .u64,yb 64 (x % y)⟩)],[],0⟩) dM 6 rfl (by kernel_rfl) ?_ ?_
  ·repeat'(first|exact AllN.nil|refine AllN.cons ⟨_,rfl,?_⟩ ?_|refine xe hX zek rfl trivial ?_|refine xe hX zek rfl (by repeat'(first|exact trivial|exact hy0|(refine⟨?_,?_⟩)|(intro _))) ?_|(refine OrdA.last ?_;exact⟨rfl,⟨rfl,rfl,rfl,bvR hx hy,trivial⟩,trivial,rfl,rfl⟩))
  exact⟨(y,x % y),⟨hy,zE (Nat.mod_le ..) hx,by rw[<-Nat.gcd_rec];exact hg⟩,Nat.mod_lt _ (by omega),⟨rfl,rfl,rfl,rfl,trivial⟩,trivial,rfl,rfl⟩
 ·have hc:((((yb 64 y).toNat:Nat):Int) != 0)=false:=hb;rw[bvN hy]at hc;have hy0:y=0:=by
   have:=bne_eq_false_iff_eq.1 hc;omega
  subst hy0;rw[Nat.gcd_zero_left]at hg;apply zad;refine za (za ?_);refine zaa hX zek rfl ?_ ?_
  ·trivial
  refine zaf rfl (fun hd=>?_) (fun hd=>?_)
  ·have hd:decide ((((yb 64 x).toNat:Nat):Int) > 9223372036854775807)=true:=hd;rw[bvN hx]at hd;have:=of_decide_eq_true hd;omega
  apply zab;refine za (za ?_);refine zaa hX zek rfl ?_ ?_
  ·show inR .i64 (((yb 64 x).toNat:Nat):Int);rw[bvN hx];exact zan (by omega) (by omega)
  refine zq ⟨.inr rfl,zax rfl trivial rfl rfl ?_⟩;show (((yb 64 x).toNat:Nat):Int)=((xT b.toNat a.toNat:Nat):Int);rw[bvN hx,hg]
theorem zpa {x y:Nat} (hx:1≤x):x / xT y x * y=jd x y:=by
 have hg:xT y x ∣ x:=Nat.gcd_dvd_right y x;have hp:0 < xT y x:=kq _ (by omega);obtain⟨k,hk⟩:=hg;unfold jd;rw[Nat.gcd_comm x y];generalize xT y x=g at *;subst hk;rw[kB _ hp,Nat.mul_assoc,kB _ hp]
def cLcm:Ctr:={ args:=[i64,i64],pre:=fun x=>[1≤x.1,x.1≤1000,1≤x.2.1,x.2.1≤1000],res:=.tup i64 (.tup i64 .unit),own:=none,out:=fun x=>(((jd x.1.toNat x.2.1.toNat:Nat):Int),(0:Int),()) }
def kLcm:Kn:={ gmK with C:=[(190,cGcd)] }
theorem zf8:KnOk Tryz.prog gmH kLcm:=zak.with (.cons gcd_ok .nil)
theorem lcm_ok:yM Tryz.prog gmH 158 cLcm:=by
 refine zar (K:=kLcm) zf8 Tryz.func158 rfl rfl Tryz.call158 rfl (by decide) (by intro h;cases h) ?_;rintro w0 X hX ⟨(a:Int),(b:Int),_⟩ hp;obtain⟨ha,ha',hb,hb'⟩:1≤a∧a≤1000∧1≤b∧b≤1000:=by
  simp only[cLcm,allP]at hp
  simpa using hp
 change AWP _ _ _ _ _ ⟨[(0,⟨i64,a⟩),(1,⟨i64,b⟩)],[],0⟩ _;refine za (za ?_);refine zaa hX zf8 rfl ?_ ?_
 ·trivial
 refine za (za ?_);refine zaa hX zf8 rfl ?_ ?_
 ·exact⟨id,id⟩
 have t1:(bif decide (a < 1) then true else decide (b < 1))=false:=by
  rw[decide_eq_false (by omega),decide_eq_false (by omega)];rfl
 refine zaf rfl (fun hc=>?_) (fun _=>?_)
 ·have hc:(bif decide (a < 1) then true else decide (b < 1))=true:=hc;rw[t1]at hc;cases hc
 apply zab;have hg:0 < xT b.toNat a.toNat:=kq _ (by omega);have hq:a.tdiv ((xT b.toNat a.toNat:Nat):Int)=((a.toNat / xT b.toNat a.toNat:Nat):Int):=by
  conv=>lhs;rw[<-qm (by omega:0≤a)]
  exact Int.ofNat_tdiv ..
 have hqle:a.toNat / xT b.toNat a.toNat≤a.toNat:=Nat.div_le_self ..;have hq1000:a.toNat / xT b.toNat a.toNat≤1000:=by omega
 have q1:((xT b.toNat a.toNat:Nat):Int)≠0:=by omega
 have q2:inR .i64 (a.tdiv ((xT b.toNat a.toNat:Nat):Int)):=by rw[hq];generalize a.toNat / xT b.toNat a.toNat=z at hq1000;exact zan (by omega) (by omega)
 have big1:a≤1000000000000000:=by omega
 have big2:b≤1000000000000000:=by omega
 refine za (za ?_);refine zaa hX zf8 rfl ?_ ?_
 ·exact⟨ha,big1,hb,big2,q1,q2⟩
 refine zaq (σ':=⟨[(0,⟨i64,a⟩),(1,⟨i64,b⟩),(6,⟨i64,((a.toNat / xT b.toNat a.toNat:Nat):Int)⟩)],[],0⟩) ⟨⟨rfl,rfl,vI64 hq,trivial⟩,trivial,rfl,rfl⟩ ?_;have hd:(1099511627776:Int).tdiv b=((1099511627776 / b.toNat:Nat):Int):=by
  conv=>lhs;rw[<-qm (by omega:0≤b)]
  exact Int.ofNat_tdiv ..
 have hd1:1099511627776 / 1000≤1099511627776 / b.toNat:=Nat.div_le_div_left (by omega) (by omega);have hd2:1099511627776 / b.toNat≤1099511627776:=Nat.div_le_self ..;have q3:b≠0:=by omega
 have q4:inR .i64 ((1099511627776:Int).tdiv b):=by rw[hd];exact zan (by omega) (by omega)
 refine za (za ?_);refine zaa hX zf8 rfl ?_ ?_
 ·exact⟨q3,q4⟩
 refine zaf rfl (fun hc=>?_) (fun _=>?_)
 ·have hc:decide (((a.toNat / xT b.toNat a.toNat:Nat):Int) > (1099511627776:Int).tdiv b)=true:=hc;have hc:=of_decide_eq_true hc;rw[hd]at hc;omega
 apply zab;have hm:((a.toNat / xT b.toNat a.toNat:Nat):Int) * b=((jd a.toNat b.toNat:Nat):Int):=by
  rw[<-zpa (x:=a.toNat) (y:=b.toNat) (by omega),Int.natCast_mul,qm (by omega:0≤b)]
 have hml:jd a.toNat b.toNat≤1000000:=by
  rw[<-zpa (x:=a.toNat) (y:=b.toNat) (by omega)];exact Nat.mul_le_mul (by omega:_≤1000) (by omega:b.toNat≤1000)
 have q5:inR .i64 (((a.toNat / xT b.toNat a.toNat:Nat):Int) * b):=by rw[hm];exact zan (by omega) (by omega)
 refine za (za ?_);refine zaa hX zf8 rfl ?_ ?_
 ·exact q5
 refine zq ⟨.inr rfl,zbk (by decide) rfl rfl trivial ?_⟩;show (((a.toNat / xT b.toNat a.toNat:Nat):Int) * b,(0:Int),())=(((jd a.toNat b.toNat:Nat):Int),(0:Int),());rw[hm]
abbrev Lr:=Int×Int×Bool×Unit
def zqT (r:Lr):Bool:=decide (r.1 < 1)||decide (r.1 > 400)||decide (r.2.1 < 0)||decide (r.2.1≥r.1)
def perS (y:Nat):List Lr->Int×Bool
 | []=>((y:Int),true)
 |r::l=>if zqT r=true then (0,false) else if 400 < jd y r.1.toNat then (0,false) else perS (jd y r.1.toNat) l
def cPer:Ctr:={ args:=[.slice lru],pre:=fun _=>[],res:=.tup i64 (.tup .bool .unit),own:=none,out:=fun x=>((perS 1 x.1).1,(perS 1 x.1).2,()) }
def kPer:Kn:={ gmK with C:=[(158,cLcm)] }
theorem zbF:KnOk Tryz.prog gmH kPer:=zak.with (.cons lcm_ok .nil)
def zLr:Lr:=(0,0,false,())
theorem zoB:yM Tryz.prog gmH 125 cPer:=by
 refine zar (K:=kPer) zbF Tryz.func125 rfl rfl Tryz.call125 rfl (by decide) (by intro h;cases h) ?_;rintro w0 X hX ⟨(l:List Lr),_⟩ hp;change AWP _ _ _ _ _ ⟨[(0,⟨.slice lru,l⟩)],[],0⟩ _;refine vp 0 rfl fun hl=>?_;unfold maxLen at hl;refine za (za ?_);refine zaa hX zbF rfl ?_ ?_
 ·trivial
 refine za (za ?_);refine zaa hX zbF rfl ?_ ?_
 ·trivial
 refine za (za ?_);refine zaa hX zbF rfl ?_ ?_
 ·trivial
 (repeat(first|apply zae|apply zab|apply zac|apply zad));refine yU (ι:=Nat×Nat) (fun p=>⟨[(0,⟨.slice lru,l⟩),(4,⟨i64,(p.2:Int)⟩),(9,⟨.slice lru,l⟩),(10,⟨i64,((l.length:Nat):Int)⟩),(11,⟨i64,(p.1:Int)⟩)],[],0⟩) (fun p=>p.1≤l.length∧(1≤p.2∧p.2≤400)∧perS 1 l=perS p.2 (l.drop p.1)) (fun p=>l.length - p.1) (0,1) ⟨zm _,⟨by decide,by decide⟩,rfl⟩ ⟨⟨rfl,rfl,rfl,rfl,rfl,trivial⟩,trivial,rfl,rfl⟩ ?_;rintro ⟨k,y⟩ ⟨hk,hy,hr⟩;have hk:k≤l.length:=hk;have hy:1≤y∧y≤400:=hy;have hr:perS 1 l=perS y (l.drop k):=hr;refine za (za ?_);refine zaa hX zbF rfl ?_ ?_
 ·trivial
 apply zae;refine zaf rfl (fun hb=>?_) (fun hb=>?_)
 ·have hb:decide ((k:Int) < (l.length:Nat))=true:=hb;have hb:=of_decide_eq_true hb;have hlt:k < l.length:=by omega
  have n0:(0:Int)≤(k:Int):=by omega
  have hgd:l.getD (k:Int).toNat zLr=l[k]:=za1 hlt;rw[List.drop_eq_getElem_cons hlt,perS, <-hgd]at hr;refine za (za ?_);refine zaa hX zbF rfl ?_ ?_
  ·exact⟨n0,hb⟩
  generalize hG:l.getD (k:Int).toNat zLr=G at hr;obtain⟨(ev:Int),(rs:Int),(ye:Bool),⟨⟩⟩:=G;refine zaq (σ':=⟨[(0,⟨.slice lru,l⟩),(4,⟨i64,(y:Int)⟩),(9,⟨.slice lru,l⟩),(10,⟨i64,((l.length:Nat):Int)⟩),(11,⟨i64,(k:Int)⟩),(6,⟨.optr lru,⟨0,lru,.here⟩⟩)],[(0,some (.box lru (ev,rs,ye,())))],1⟩) ⟨⟨rfl,rfl,rfl,rfl,rfl,rfl,trivial⟩,⟨zfP hG,trivial⟩,rfl,rfl⟩ ?_;refine za (za ?_);refine zaa hX zbF rfl ?_ ?_
  ·repeat'(first|exact trivial|assumption|(refine⟨?_,?_⟩)|(intro _)|exact zb rfl|exact zi _|(simp_all [allP];done))
  have hbe:zqT (ev,rs,ye,())=(bif (bif (bif decide (ev < 1) then true else decide (ev > 400)) then true else decide (rs < 0)) then true else decide (rs≥ev)):=by
   unfold zqT;rw[b_or,b_or,b_or]
  refine zaf rfl (fun hc=>?_) (fun hc=>?_)
  ·have hc:=hbe.trans hc;(repeat(first|apply zae|apply zab|apply zal|apply zad|apply zac|refine zaa hX zbF rfl trivial ?_|refine zaa hX zbF rfl id ?_|refine zaa hX zbF rfl ⟨id,id⟩ ?_));refine zq ⟨.inr rfl,zbk (by decide) rfl rfl trivial ?_⟩;show ((0:Int),false,())=((perS 1 l).1,(perS 1 l).2,());rw[hr,if_pos hc]
  have hc:=hbe.trans hc;have hn:=hc;unfold zqT at hn;simp only[xN,decide_eq_false_iff_not]at hn;obtain⟨⟨⟨n1,n2⟩,n3⟩,n4⟩:=hn;have n1:¬ ev < 1:=n1;have n2:¬ ev > 400:=n2;apply zab;have l1:(1:Int)≤(y:Int):=by omega
  have l2:(y:Int)≤1000:=by omega
  have l3:1≤ev:=by omega
  have l4:ev≤1000:=by omega
  refine za (za ?_);refine zaa hX zbF rfl ?_ ?_
  ·exact⟨l1,l2,l3,l4⟩
  refine zaq (σ':=⟨[(0,⟨.slice lru,l⟩),(4,⟨i64,(y:Int)⟩),(9,⟨.slice lru,l⟩),(10,⟨i64,((l.length:Nat):Int)⟩),(11,⟨i64,(k:Int)⟩),(7,⟨i64,((jd y ev.toNat:Nat):Int)⟩),(8,⟨i64,0⟩)],[],1⟩) ⟨⟨rfl,rfl,rfl,rfl,rfl,rfl,rfl,trivial⟩,trivial,rfl,rfl⟩ ?_;refine za (za ?_);refine zaa hX zbF rfl ?_ ?_
  ·repeat'(first|exact trivial|assumption|(refine⟨?_,?_⟩)|(intro _)|exact zb rfl|exact zi _|(simp_all [allP];done))
  refine zaf rfl (fun hd=>?_) (fun hd=>?_)
  ·have hd:decide (((jd y ev.toNat:Nat):Int) > 400)=true:=hd;have hd:=of_decide_eq_true hd;(repeat(first|apply zae|apply zab|apply zal|apply zad|apply zac|refine zaa hX zbF rfl trivial ?_|refine zaa hX zbF rfl id ?_|refine zaa hX zbF rfl ⟨id,id⟩ ?_));refine zq ⟨.inr rfl,zbk (by decide) rfl rfl trivial ?_⟩;show ((0:Int),false,())=((perS 1 l).1,(perS 1 l).2,());rw[hr,if_neg (by rw[hc];decide),if_pos (by show 400 < jd y ev.toNat;omega)]
  ·have hd:decide (((jd y ev.toNat:Nat):Int) > 400)=false:=hd;have hd:=of_decide_eq_false hd;have hlp:0 < jd y ev.toNat:=Nat.lcm_pos (by omega) (by omega);apply zab;refine za (za ?_);refine zaa hX zbF rfl ?_ ?_
   ·trivial
   refine za (za ?_);refine zaa hX zbF rfl ?_ ?_
   ·exact zaU (by omega)
   refine⟨(k+1,jd y ev.toNat),⟨hlt,⟨hlp,by show jd y ev.toNat≤400;omega⟩,?_⟩,by show l.length - (k+1) < l.length - k;omega,⟨rfl,rfl,rfl,rfl,zdy _,trivial⟩,trivial,rfl,rfl⟩;rw[hr,if_neg (by rw[hc];decide),if_neg (by show ¬ 400 < jd y ev.toNat;omega)]
 ·have hb:decide ((k:Int) < (l.length:Nat))=false:=hb;have hb:=of_decide_eq_false hb;have:k=l.length:=by omega
  subst this;rw[jI,perS]at hr;(repeat(first|apply zae|apply zab|apply zal|apply zad|apply zac|refine zaa hX zbF rfl trivial ?_|refine zaa hX zbF rfl id ?_|refine zaa hX zbF rfl ⟨id,id⟩ ?_));refine zq ⟨.inr rfl,zbk (by decide) rfl rfl trivial ?_⟩;show ((y:Int),true,())=((perS 1 l).1,(perS 1 l).2,());rw[hr]
theorem zlh (c:UInt8):isLt c=((decide (97≤(c.toNat:Int))&&decide ((c.toNat:Int)≤122))||(decide (65≤(c.toNat:Int))&&decide ((c.toNat:Int)≤90))):=by
 have h:∀ n:Fin 256,(isLt (zS n.val)==((decide (97≤((zS n.val).toNat:Int))&&decide (((zS n.val).toNat:Int)≤122))||(decide (65≤((zS n.val).toNat:Int))&&decide (((zS n.val).toNat:Int)≤90))))=true:=by decide+kernel
 have:=h ⟨c.toNat,c.toNat_lt⟩;rw[kf]at this;exact beq_iff_eq.1 this
theorem znI (s:ByteArray) (pos:Nat) (h:pos < s.size):1≤(kU s pos).2:=by
 by_cases ha:(s[pos]'h).toNat < 128
 ·rw[decode_ascii s pos h ha];exact zk _
 ·exact (decode_high s pos h (by omega)).2
def LtR (c:Int):Prop:=(97≤c∧c≤122)∨(65≤c∧c≤90)
def DgR (c:Int):Prop:=(48≤c∧c≤57)∨c=45
theorem zoK {l:List UInt8} {pos c wd:Nat} (hp:pos < l.length) (hdec:(l[pos].toNat < 128∧(c,wd)=(l[pos].toNat,1))∨(128≤l[pos].toNat∧128≤c)) (hhd:0 < pos->l.head?.all isLt=true) (hall:(l.take pos).all isPt=true)
  (h:LtR c∨(pos≠0∧DgR c)):wd=1∧l.head?.all isLt=true∧(l.take (pos+1)).all isPt=true:=by
 unfold LtR DgR at h;rcases hdec with ⟨h1,e⟩|⟨h1,e⟩
 ·have e1:c=l[pos].toNat:=congrArg (fun x=>x.1) e;have e2:wd=1:=congrArg (fun x=>x.2) e;have hpt:isPt l[pos]=true:=by
   unfold isPt;rw[zlh];rcases h with h|⟨_,h|h⟩
   ·have:((decide (97≤(l[pos].toNat:Int))&&decide ((l[pos].toNat:Int)≤122))||(decide (65≤(l[pos].toNat:Int))&&decide ((l[pos].toNat:Int)≤90)))=true:=by
     simp only[zZ,zd,decide_eq_true_iff];omega
    rw[this];rfl
   ·have:isDg l[pos]=true:=by
     unfold isDg;rw[zd,decide_eq_true_iff,decide_eq_true_iff,yY,yY];exact⟨by show 48≤_;omega,by show _≤57;omega⟩
    rw[this,xZ];rfl
   ·have:l[pos]=45:=UInt8.toNat_inj.1 (by show _=45;omega);rw[this];rfl
  refine⟨e2,?_,?_⟩
  ·by_cases h0:pos=0
   ·subst h0;have hl:isLt l[0]=true:=by
     rw[zlh];simp only[zZ,zd,decide_eq_true_iff];omega
    cases l with
    |nil=>rfl
    |cons a q=>exact hl
   ·exact hhd (by omega)
  ·rw[zF hp,List.all_append,hall,List.all_cons,hpt];rfl
 ·omega
theorem zqI {l:List UInt8} {pos c wd:Nat} (hp:pos < l.length) (hdec:(l[pos].toNat < 128∧(c,wd)=(l[pos].toNat,1))∨(128≤l[pos].toNat∧128≤c)) (h:¬ (LtR c∨(pos≠0∧DgR c))):zcv l=false:=by
 unfold LtR DgR at h;have hlt:isLt l[pos]=false:=by
  rw[zlh];simp only[xN,jq,decide_eq_false_iff_not];rcases hdec with ⟨h1,e⟩|⟨h1,e⟩
  ·have e1:c=l[pos].toNat:=congrArg (fun x=>x.1) e;omega
  ·omega
 unfold zcv;by_cases h0:pos=0
 ·subst h0;cases l with
  |nil=>exact absurd hp (xr _)
  |cons a q=>
   have hlt:isLt a=false:=hlt;show (_&&_&&(isLt a&&_))=false;rw[hlt,vU,qc]
 ·have hpt:isPt l[pos]=false:=by
   unfold isPt;have hd:isDg l[pos]=false:=by
    unfold isDg;rw[jq,decide_eq_false_iff_not,decide_eq_false_iff_not,yY,yY];show ¬ 48≤_∨¬ _≤57;rcases hdec with ⟨h1,e⟩|⟨h1,e⟩
    ·have e1:c=l[pos].toNat:=congrArg (fun x=>x.1) e;omega
    ·omega
   have h45:(l[pos]==45)=false:=by
    rw[beq_eq_false_iff_ne];intro e2;have e3:l[pos].toNat=45:=by rw[e2];rfl
    rcases hdec with ⟨h1,e⟩|⟨h1,e⟩
    ·have e1:c=l[pos].toNat:=congrArg (fun x=>x.1) e;omega
    ·omega
   rw[hlt,hd,h45];rfl
  have:l.all isPt=false:=by
   rw[List.all_eq_false];exact⟨l[pos],xW hp,by rw[hpt];decide⟩
  rw[this,qc,qc]
set_option maxHeartbeats 2000000 in
theorem zld (l:List UInt8) (w:zj):Calls Tryz.prog 120 #[.string ⟨l.toArray⟩] w fun e w'=>e= .returned (.bool (zcv l))∧∃ pos,w'=w.iter ⟨l.toArray⟩ pos:=by
 go_enter Tryz.func120,Tryz.ntmps120
 go_wp2
 go_loopw [] (fun w'=>∃ (pos:Nat),w'=w.iter ⟨l.toArray⟩ pos∧pos≤l.length∧(0 < pos->l.head?.all isLt=true)∧(l.take pos).all isPt=true) (fun w'=>l.length - w'.iterPos w.heap.size)
 case atStart=>exact⟨0,rfl,zm _,fun h=>absurd h (by decide),rfl⟩
 case round=>
  obtain⟨pos,rfl,hpos,hhd,hall⟩:=hrel;have hsz:(⟨l.toArray⟩:ByteArray).size=l.length:=by simp[ByteArray.size]
  by_cases hp:pos < (⟨l.toArray⟩:ByteArray).size
  ·have hnx:∀ ty,(Instr.next (.pointer (some ⟨w.heap.size,0,none⟩)) true ty).run Tryz.prog (w.iter ⟨l.toArray⟩ pos)=_:=fun ty=>run_next_any w _ pos ty hp;have hwd:=znI _ pos hp;have hlo:l[pos]'(by omega)=(⟨l.toArray⟩:ByteArray)[pos]'hp:=rfl;have hdec:((l[pos]'(by omega)).toNat < 128∧kU ⟨l.toArray⟩ pos=((l[pos]'(by omega)).toNat,1))∨(128≤(l[pos]'(by omega)).toNat∧128≤(kU ⟨l.toArray⟩ pos).1):=by
    by_cases ha:(l[pos]'(by omega)).toNat < 128
    ·exact .inl ⟨ha,decode_ascii _ pos hp ha⟩
    ·exact .inr ⟨by omega,(decode_high _ pos hp (by rw[<-hlo];omega)).1⟩
   generalize kU ⟨l.toArray⟩ pos=dc at hnx hwd hdec;obtain⟨c,wd⟩:=dc;simp only[]at hnx hwd hdec;generalize hci:((c:Nat):Int)=ci at hnx;have hlen:pos < l.length:=by omega
   have hgood:=zoK hlen hdec hhd hall;have hbad:=zqI hlen hdec;rw[hci]at hgood hbad;by_cases hcase:LtR ci∨(pos≠0∧DgR ci)
   ·obtain⟨e1,e2,e3⟩:=hgood hcase;clear hgood hbad hdec hlo;unfold LtR DgR at hcase
    go_wp2
    all_goals (first
     |(exfalso
       clear hnx;simp only[zw,xg,decide_eq_false_iff_not,decide_eq_true_eq,beq_iff_eq,beq_eq_false_iff_ne]at *;omega)
     |(go_roundw
       case rel=>exact⟨pos+1,by simp[*],by omega,fun _=>e2,e3⟩
       case measure=>(simp[*];omega)))
   ·have hnf:=hbad hcase;clear hgood hbad hdec hlo;unfold LtR DgR at hcase
    go_wp2
    all_goals (first
     |(exfalso
       clear hnx;simp only[zw,xg,decide_eq_false_iff_not,decide_eq_true_eq,beq_iff_eq,beq_eq_false_iff_ne]at *;omega)
     |(go_ret
       refine⟨?_,_,rfl⟩
       first|rfl|(rw[hnf];rfl)|(simp[*];done)))
  ·have hnx:∀ ty,(Instr.next (.pointer (some ⟨w.heap.size,0,none⟩)) true ty).run Tryz.prog (w.iter ⟨l.toArray⟩ pos)=_:=fun ty=>run_next_end w _ pos ty hp;have hend:zcv l=(decide (l≠ [])&&decide (l.length≤32)):=by
    have hpl:pos=l.length:=by omega
    subst hpl;rw[yS]at hall;have hh:l.head?.all isLt=true:=by
     cases l with
     |nil=>rfl
     |cons a q=>exact hhd (Nat.zero_lt_succ _)
    unfold zcv;rw[hh,hall];simp
   go_wp2
   all_goals (
    rename_i hne
    go_ret
    refine⟨?_,pos,by simp[hne]⟩;rw[hend]
    first
    |(simp[hne];done)
    |(cases l with
      |nil=>exact absurd rfl hne
      |cons a q=>(simp;try omega)))
def cName:Ctr:={ args:=[.str],pre:=fun _=>[],res:=.bool,own:=none,out:=fun x=>zcv x.1 }
theorem zoL:yM Tryz.prog gmH 120 cName:=by
 refine⟨Tryz.call120,fun w O xs vs hO hr hp hG=>?_⟩;obtain⟨(l:List UInt8),_⟩:=xs;obtain⟨v1,r1,rfl,e1,rfl⟩:=hr;have e1: [v1]=[Value.string ⟨l.toArray⟩]∧l.length≤maxLen:=e1;obtain⟨e1,_⟩:=e1;cases e1;refine (zld l w).mono ?_;rintro e w' ⟨rfl,pos,rfl⟩;exact⟨_,rfl,za2 w _,fun β=>rfl⟩
theorem zju {u:List Int} {B:Int} (h:∀ k:Nat,0≤u.getD k 0∧u.getD k 0≤B) (j:Int):∀ k:Nat,0≤(bump u j).getD k 0∧(bump u j).getD k 0≤B+1:=fun k=>by
 unfold bump;rw[zQ,uC];have h1:=h k;have h2:=h j.toNat;rw[zQ]at h1;split
 ·split
  ·show 0≤u.getD j.toNat 0+1∧u.getD j.toNat 0+1≤B+1;omega
  ·show (0:Int)≤0∧(0:Int)≤B+1;omega
 ·omega
theorem znK {u:List Int} {n:Nd} {B:Int} (h:∀ k:Nat,0≤u.getD k 0∧u.getD k 0≤B) (k:Nat):0≤(zbA u n).getD k 0∧(zbA u n).getD k 0≤B+2:=by
 unfold zbA;cases decide (1 < opsN n) with
 |true=>
  have:=zju (zju h (ndL n)) (ndR n) k;rw[cond_true];omega
 |false=>
  cases decide (0 < opsN n) with
  |true=>
   have:=zju h (ndL n) k;rw[cond_false,cond_true];omega
  |false=>
   have:=h k;rw[cond_false,cond_false];omega
theorem zlR (r:List Nd):∀ (i:Nat),i≤r.length->∀ k:Nat,0≤(zb5 r i).getD k 0∧(zb5 r i).getD k 0≤2 * (i:Int)
 |0,_,k=>by rw[zk0];omega
 |i+1,hi,k=>by
  rw[zcF (by omega)];have:=znK (n:=zav r i) (zlR r i (by omega)) k;omega
def zcD (u:List Int) (n:Nd):Nat->List Int
 |0=>u
 |1=>if 0 < opsN n then bump u (ndL n) else u
 |_=>zbA u n
def opdJ (n:Nd) (i:Int):Nat->Bool
 |0=>true
 |1=>(bif decide (0 < opsN n) then inB (ndL n) 0 (i - 1) else (ndL n==0)||(ndK n==7))
 |_=>ze5 n i
theorem znL {u:List Int} {n:Nd} {B:Int} (h:∀ k:Nat,0≤u.getD k 0∧u.getD k 0≤B) (k:Nat):0≤(zcD u n 1).getD k 0∧(zcD u n 1).getD k 0≤B+1:=by
 show 0≤(if 0 < opsN n then bump u (ndL n) else u).getD k 0∧(if 0 < opsN n then bump u (ndL n) else u).getD k 0≤B+1;by_cases e:0 < opsN n
 ·rw[if_pos e];exact zju h _ k
 ·rw[if_neg e];have:=h k;omega
theorem zmR (u:List Int) (n:Nd):(zcD u n 1).length=u.length:=by
 show (if 0 < opsN n then bump u (ndL n) else u).length=u.length;by_cases e:0 < opsN n
 ·rw[if_pos e];exact zd1 _ _
 ·rw[if_neg e]
def cWf:Ctr:={ args:=[.slice nd],pre:=fun _=>[],res:=.bool,own:=none,out:=fun x=>wfS x.1 }
def kWf:Kn:={ gmK with C:=[(119,zbo),(74,zlF),(120,cName),(121,zpO),(122,cNumb),(123,cAnyU)] }
theorem zaL:KnOk Tryz.prog gmH kWf:=zak.with (.cons zjG <| .cons zjV <| .cons zoL <| .cons zoV <| .cons zsM <| .cons zt0 .nil)
theorem zlO {r:List Nd} {i:Nat} (hi:i < r.length) (h:zcS (zav r i) (i:Int)=false):wfS r=false:=by
 have:zcW r r.length=false:=by
  rw[qi];intro e;have:=zdW.1 e i hi;rw[<-ziw,h]at this;cases this
 unfold wfS;rw[this,qc,vU]
theorem zjI {r:List Nd} {i:Nat} (hi:i < r.length) (h:zba (zav r i)=false):wfS r=false:=zlO hi (by unfold zcS;rw[h];rfl)
theorem zjH {r:List Nd} {i:Nat} (hi:i < r.length) (h:ze5 (zav r i) (i:Int)=false):wfS r=false:=zlO hi (by unfold zcS;rw[h,qc])
theorem zsB {k:Int} (h:1≤k∧k≤18):(zdD k).1=0∨(zdD k).1=1∨(zdD k).1=2:=by
 rcases (show k=1∨k=2∨k=3∨k=4∨k=5∨k=6∨k=7∨k=8∨k=9∨k=10∨k=11∨k=12∨k=13∨k=14∨k=15∨k=16∨k=17∨k=18 by omega) with rfl|rfl|rfl|rfl|rfl|rfl|rfl|rfl|rfl|rfl|rfl|rfl|rfl|rfl|rfl|rfl|rfl|rfl<;>decide
theorem zlQ {u:List Int} {n:Nd} (h:opsN n=0∨opsN n=1∨opsN n=2):(if 1 < opsN n then bump (zcD u n 1) (ndR n) else zcD u n 1)=zcD u n 2:=by
 show _=zbA u n;unfold zbA zcD;rcases h with h|h|h<;>rw[h]<;>rfl
theorem bufI {te:zp} {x y:List Int} (h:x=y):some (OObj.buf te i64 x)=some (OObj.buf te i64 y):=by rw[h]
set_option maxHeartbeats 1000000 in
theorem wf_ok:yM Tryz.prog gmH 72 cWf:=by
 refine zar (K:=kWf) zaL Tryz.func72 rfl rfl Tryz.call72 rfl (by decide) (by intro h;cases h) ?_;rintro w0 X hX ⟨(r:List Nd),_⟩ hp;change AWP _ _ _ _ _ ⟨[(0,⟨.slice nd,r⟩)],[],0⟩ _;refine vp 0 rfl fun hl=>?_;unfold maxLen at hl;refine za (za ?_);refine zaa hX zaL rfl ?_ ?_
 ·trivial
 refine za (za ?_);refine zaa hX zaL rfl ?_ ?_
 ·repeat'(first|exact trivial|assumption|(refine⟨?_,?_⟩)|(intro _)|exact zb rfl|exact zi _|(simp_all [allP];done))
 refine zaf rfl (fun hb=>?_) (fun hb=>?_)
 ·have hb:(bif decide (((r.length:Nat):Int) < 1) then true else decide (((r.length:Nat):Int) > 64))=true:=hb;rw[b_or,zZ,decide_eq_true_iff,decide_eq_true_iff]at hb;(repeat(first|apply zae|apply zab|apply zal|apply zad|apply zac|refine zaa hX zaL rfl trivial ?_|refine zaa hX zaL rfl id ?_|refine zaa hX zaL rfl ⟨id,id⟩ ?_));refine zq ⟨.inr rfl,zax rfl trivial rfl rfl ?_⟩;show false=wfS r;unfold wfS;rcases hb with hb|hb
  ·rw[decide_eq_false (by omega:¬ 1≤r.length)];rfl
  ·rw[decide_eq_false (by omega:¬ r.length≤64),qc,vU,vU]
 have hb:(bif decide (((r.length:Nat):Int) < 1) then true else decide (((r.length:Nat):Int) > 64))=false:=hb;rw[b_or,xN,decide_eq_false_iff_not,decide_eq_false_iff_not]at hb;obtain⟨hb1,hb2⟩:=hb;apply zab;refine za (za ?_);refine zaa hX zaL rfl ?_ ?_
 ·trivial
 have m0:(0:Int)≤((r.length:Nat):Int):=by omega
 have m1:((r.length:Nat):Int)≤1000000000:=by omega
 refine za (za ?_);refine zaa hX zaL rfl ?_ ?_
 ·exact⟨m0,xC _,m1⟩
 refine za (za ?_);refine zaa hX zaL rfl ?_ ?_
 ·trivial
 (repeat(first|apply zae|apply zab|apply zac|apply zad));refine yU (ι:=Nat) (fun i=>⟨[(0,⟨.slice nd,r⟩),(3,⟨.optr (.arr 19 shp),⟨0,.arr 19 shp,.here⟩⟩),(4,⟨.obuf i64,(1:Nat)⟩),(24,⟨.slice nd,r⟩),(25,⟨i64,((r.length:Nat):Int)⟩),(26,⟨i64,(i:Int)⟩)],[(0,some (.box (.arr 19 shp) zcG)),(1,some (.buf 3 i64 (zb5 r i)))],2⟩) (fun i=>i≤r.length∧zcW r i=true) (fun i=>r.length - i) 0 ⟨zm _,rfl⟩ ⟨⟨rfl,rfl,rfl,rfl,rfl,rfl,trivial⟩,⟨rfl,bufI (by show zr (((r.length:Nat):Int)).toNat (0:Int)=_;rw[zH];rfl),trivial⟩,rfl,rfl⟩ ?_;rintro i ⟨hi,hn⟩;refine za (za ?_);refine zaa hX zaL rfl ?_ ?_
 ·trivial
 apply zae;refine zaf rfl (fun hb=>?_) (fun hb=>?_)
 ·have hb:decide ((i:Int) < (r.length:Nat))=true:=hb;have hb:=of_decide_eq_true hb;have hlt:i < r.length:=by omega
  have n0:(0:Int)≤(i:Int):=by omega
  have hbd:=zlR r i hi;have hul:=zcQ r i;have hus:=zcF hlt;have hno:zcW r (i+1)=(zcW r i&&zcS (zav r i) (i:Int)):=rfl;have hff:=zjI hlt;have hfo:=zjH hlt;rw[hn,Bool.true_and]at hno;refine za (za ?_);refine zaa hX zaL rfl ?_ ?_
  ·exact⟨n0,hb⟩
  refine zaq (σ':=⟨[(0,⟨.slice nd,r⟩),(3,⟨.optr (.arr 19 shp),⟨0,.arr 19 shp,.here⟩⟩),(4,⟨.obuf i64,(1:Nat)⟩),(24,⟨.slice nd,r⟩),(25,⟨i64,((r.length:Nat):Int)⟩),(26,⟨i64,(i:Int)⟩),(5,⟨i64,(i:Int)⟩),(6,⟨.optr nd,⟨2,nd,.here⟩⟩)],[(0,some (.box (.arr 19 shp) zcG)),(1,some (.buf 3 i64 (zb5 r i))),(2,some (.box nd (zav r i)))],3⟩) ⟨⟨rfl,rfl,rfl,rfl,rfl,rfl,rfl,rfl,trivial⟩,⟨rfl,rfl,rfl,trivial⟩,rfl,rfl⟩ ?_;generalize hnd:zav r i=n at *;generalize zb5 r i=u at *;refine za (za ?_);refine zaa hX zaL rfl ?_ ?_
  ·repeat'(first|exact trivial|assumption|(refine⟨?_,?_⟩)|(intro _)|exact zb rfl|exact zi _|(simp_all [allP];done))
  have hk18:(bif !inB (ndK n) 1 18 then true else decide (((ndI n).length:Int) > 64))= !(inB (ndK n) 1 18&&decide ((ndI n).length≤64)):=by
   have:decide (((ndI n).length:Int) > 64)= !decide ((ndI n).length≤64):=by
    rw[<-decide_not,decide_eq_decide];omega
   rw[this];cases inB (ndK n) 1 18<;>cases decide ((ndI n).length≤64)<;>rfl
  refine zaf rfl (fun hc=>?_) (fun hc=>?_)
  ·have hc:=hk18.symm.trans hc;rw[zw]at hc;(repeat(first|apply zae|apply zab|apply zal|apply zad|apply zac|refine zaa hX zaL rfl trivial ?_|refine zaa hX zaL rfl id ?_|refine zaa hX zaL rfl ⟨id,id⟩ ?_));refine zq ⟨.inr rfl,zax rfl trivial rfl rfl ?_⟩;show false=wfS r;rw[hff (by unfold zba;rw[hc];rfl)]
  have hc:=hk18.symm.trans hc;rw[xg,zd,zaM,decide_eq_true_iff]at hc;obtain⟨⟨k1,k2⟩,hl64⟩:=hc;apply zab;have t0:(0:Int)≤ndK n:=by omega
  have t1:ndK n < ((19:Nat):Int):=by omega
  have t2:(ndK n).toNat < 19:=by omega
  refine za (za ?_);refine zaa hX zaL rfl ?_ ?_
  ·exact⟨t0,t1,t2⟩
  refine zaq (σ':=⟨[(0,⟨.slice nd,r⟩),(3,⟨.optr (.arr 19 shp),⟨0,.arr 19 shp,.here⟩⟩),(4,⟨.obuf i64,(1:Nat)⟩),(24,⟨.slice nd,r⟩),(25,⟨i64,((r.length:Nat):Int)⟩),(26,⟨i64,(i:Int)⟩),(5,⟨i64,(i:Int)⟩),(6,⟨.optr nd,⟨2,nd,.here⟩⟩),(7,⟨.optr shp,⟨3,shp,.here⟩⟩)],[(0,some (.box (.arr 19 shp) zcG)),(1,some (.buf 3 i64 (u))),(2,some (.box nd n)),(3,some (.box shp (zdD (ndK n))))],4⟩) ⟨⟨rfl,rfl,rfl,rfl,rfl,rfl,rfl,rfl,rfl,trivial⟩,⟨rfl,rfl,rfl,rfl,trivial⟩,rfl,rfl⟩ ?_;have hops:=zsB ⟨k1,k2⟩;refine za (za ?_);refine zaa hX zaL rfl ?_ ?_
  ·trivial
  (repeat(first|apply zae|apply zab|apply zac|apply zad));refine qW hX 49 ?_;refine yU (ι:=Nat) (fun j=>⟨[(0,⟨.slice nd,r⟩),(3,⟨.optr (.arr 19 shp),⟨0,.arr 19 shp,.here⟩⟩),(4,⟨.obuf i64,(1:Nat)⟩),(24,⟨.slice nd,r⟩),(25,⟨i64,((r.length:Nat):Int)⟩),(26,⟨i64,(i:Int)⟩),(5,⟨i64,(i:Int)⟩),(6,⟨.optr nd,⟨2,nd,.here⟩⟩),(7,⟨.optr shp,⟨3,shp,.here⟩⟩),(49,⟨.slice i64,[ndL n,ndR n]⟩),(50,⟨i64,(2:Int)⟩),(51,⟨i64,(j:Int)⟩)],[(0,some (.box (.arr 19 shp) zcG)),(1,some (.buf 3 i64 (zcD u n j))),(2,some (.box nd n)),(3,some (.box shp (zdD (ndK n))))],4⟩) (fun j=>j≤2∧opdJ n i j=true) (fun j=>2 - j) 0 ⟨by decide,rfl⟩ ⟨⟨rfl,rfl,rfl,rfl,rfl,rfl,rfl,rfl,rfl,rfl,rfl,rfl,trivial⟩,⟨rfl,rfl,rfl,rfl,trivial⟩,rfl,rfl⟩ ?_
  ·rintro j ⟨hj,hjo⟩;refine za (za ?_);refine zaa hX zaL rfl ?_ ?_
   ·trivial
   apply zae;refine zaf rfl (fun hb=>?_) (fun hb=>?_)
   ·have hb:decide ((j:Int) < 2)=true:=hb;have hb:=of_decide_eq_true hb;rcases (show j=0∨j=1 by omega) with rfl|rfl
    ·have u0:(0:Int)≤((0:Nat):Int):=by omega
     have u1:((0:Nat):Int) < (([ndL n,ndR n].length:Nat):Int):=by show ((0:Nat):Int) < ((2:Nat):Int);omega
     refine za (za ?_);refine zaa hX zaL rfl ?_ ?_
     ·exact⟨u0,u1⟩
     apply zac;refine za (za ?_);refine zaa hX zaL rfl ?_ ?_
     ·trivial
     refine zaf rfl (fun hd=>?_) (fun hd=>?_)
     ·have hd:decide (((0:Nat):Int) < opsN n)=true:=hd;have hd:=of_decide_eq_true hd;have i1:inR .i64 ((i:Int) - 1):=zan (by omega) (by omega);refine za (za ?_);refine zaa hX zaL rfl ?_ ?_
      ·exact i1
      refine zaf rfl (fun he=>?_) (fun he=>?_)
      ·have he:(!inB (ndL n) 0 ((i:Int) - 1))=true:=he;rw[zw]at he;(repeat(first|apply zae|apply zab|apply zal|apply zad|apply zac|refine zaa hX zaL rfl trivial ?_|refine zaa hX zaL rfl id ?_|refine zaa hX zaL rfl ⟨id,id⟩ ?_));refine zq ⟨.inr rfl,zax rfl trivial rfl rfl ?_⟩;show false=wfS r;rw[hfo (by unfold ze5;rw[decide_eq_true (show 0 < opsN n from hd),cond_true,he];rfl)]
      have he:(!inB (ndL n) 0 ((i:Int) - 1))=false:=he;rw[xg,zaM]at he;obtain⟨p0,p1⟩:=he;have hbj:∀ k:Nat,0≤(zcD u n 0).getD k 0∧(zcD u n 0).getD k 0≤200:=fun k=>by
       have:=hbd k;show 0≤u.getD k 0∧u.getD k 0≤200;omega
      have hlj:(zcD u n 0).length=r.length:=by exact hul
      have hb3:=hbj (ndL n).toNat;have p2:ndL n < (((zcD u n 0).length:Nat):Int):=by rw[hlj];omega
      have p4:(ndL n).toNat < (zcD u n 0).length:=by rw[hlj];omega
      have p3:inR .i64 ((zcD u n 0).getD (ndL n).toNat 0+1):=zan (by omega) (by omega);apply zab;refine za (za ?_);refine zaa hX zaL rfl ?_ ?_
      ·repeat'(first|exact trivial|exact p0|exact p2|exact p3|exact p4|(refine⟨?_,?_⟩))
      refine za (za ?_);refine zaa hX zaL rfl ?_ ?_
      ·exact zaU (by omega)
      refine⟨1,⟨by omega,?_⟩,by decide,⟨rfl,rfl,rfl,rfl,rfl,rfl,rfl,rfl,rfl,rfl,rfl,rfl,trivial⟩,⟨rfl,bufI ?_,rfl,rfl,trivial⟩,rfl,rfl⟩
      ·show (bif decide (0 < opsN n) then inB (ndL n) 0 ((i:Int) - 1) else _)=true;rw[decide_eq_true (show 0 < opsN n from hd),cond_true,zaM];exact⟨p0,p1⟩
      ·show bump (zcD u n 0) (ndL n)=zcD u n 1;show _=if 0 < opsN n then bump u (ndL n) else u
       rw[if_pos (show 0 < opsN n from hd)];rfl
     ·have hd:decide (((0:Nat):Int) < opsN n)=false:=hd;have hd:=of_decide_eq_false hd;refine za (za ?_);refine zaa hX zaL rfl ?_ ?_
      ·repeat'(first|exact trivial|assumption|(refine⟨?_,?_⟩)|(intro _)|exact zb rfl|exact zi _|(simp_all [allP];done))
      refine zaf rfl (fun he=>?_) (fun he=>?_)
      ·have he:(bif (ndL n != 0) then !(bif (((0:Nat):Int)==0) then (ndK n==7) else false) else false)=true:=he;(repeat(first|apply zae|apply zab|apply zal|apply zad|apply zac|refine zaa hX zaL rfl trivial ?_|refine zaa hX zaL rfl id ?_|refine zaa hX zaL rfl ⟨id,id⟩ ?_));refine zq ⟨.inr rfl,zax rfl trivial rfl rfl ?_⟩;show false=wfS r;refine (hfo ?_).symm;unfold ze5;rw[decide_eq_false (show ¬ 0 < opsN n from hd),cond_false];revert he;unfold bne;cases (ndL n==0)<;>cases (ndK n==7)<;>intro he<;>first|rfl|cases he
      have he:(bif (ndL n != 0) then !(bif (((0:Nat):Int)==0) then (ndK n==7) else false) else false)=false:=he;apply zab;refine za (za ?_);refine zaa hX zaL rfl ?_ ?_
      ·exact zaU (by omega)
      refine⟨1,⟨by omega,?_⟩,by decide,⟨rfl,rfl,rfl,rfl,rfl,rfl,rfl,rfl,rfl,rfl,rfl,rfl,trivial⟩,⟨rfl,bufI ?_,rfl,rfl,trivial⟩,rfl,rfl⟩
      ·show (bif decide (0 < opsN n) then _ else (ndL n==0)||(ndK n==7))=true;rw[decide_eq_false (show ¬ 0 < opsN n from hd),cond_false];revert he;unfold bne;cases (ndL n==0)<;>cases (ndK n==7)<;>intro he<;>first|rfl|cases he
      ·show zcD u n 0=zcD u n 1;show u=if 0 < opsN n then bump u (ndL n) else u
       rw[if_neg (show ¬ 0 < opsN n from hd)]
    ·have u0:(0:Int)≤((1:Nat):Int):=by omega
     have u1:((1:Nat):Int) < (([ndL n,ndR n].length:Nat):Int):=by show ((1:Nat):Int) < ((2:Nat):Int);omega
     refine za (za ?_);refine zaa hX zaL rfl ?_ ?_
     ·exact⟨u0,u1⟩
     apply zac;refine za (za ?_);refine zaa hX zaL rfl ?_ ?_
     ·trivial
     refine zaf rfl (fun hd=>?_) (fun hd=>?_)
     ·have hd:decide (((1:Nat):Int) < opsN n)=true:=hd;have hd:=of_decide_eq_true hd;have i1:inR .i64 ((i:Int) - 1):=zan (by omega) (by omega);refine za (za ?_);refine zaa hX zaL rfl ?_ ?_
      ·exact i1
      refine zaf rfl (fun he=>?_) (fun he=>?_)
      ·have he:(!inB (ndR n) 0 ((i:Int) - 1))=true:=he;rw[zw]at he;(repeat(first|apply zae|apply zab|apply zal|apply zad|apply zac|refine zaa hX zaL rfl trivial ?_|refine zaa hX zaL rfl id ?_|refine zaa hX zaL rfl ⟨id,id⟩ ?_));refine zq ⟨.inr rfl,zax rfl trivial rfl rfl ?_⟩;show false=wfS r;rw[hfo (by unfold ze5;rw[decide_eq_true (show 1 < opsN n from hd),cond_true,he];rw[qc])]
      have he:(!inB (ndR n) 0 ((i:Int) - 1))=false:=he;rw[xg,zaM]at he;obtain⟨p0,p1⟩:=he;have hbj:∀ k:Nat,0≤(zcD u n 1).getD k 0∧(zcD u n 1).getD k 0≤200:=fun k=>by
       have:=znL (n:=n) hbd k;omega
      have hlj:(zcD u n 1).length=r.length:=by rw[<-hul];exact zmR u n
      have hb3:=hbj (ndR n).toNat;have p2:ndR n < (((zcD u n 1).length:Nat):Int):=by rw[hlj];omega
      have p4:(ndR n).toNat < (zcD u n 1).length:=by rw[hlj];omega
      have p3:inR .i64 ((zcD u n 1).getD (ndR n).toNat 0+1):=zan (by omega) (by omega);apply zab;refine za (za ?_);refine zaa hX zaL rfl ?_ ?_
      ·repeat'(first|exact trivial|exact p0|exact p2|exact p3|exact p4|(refine⟨?_,?_⟩))
      refine za (za ?_);refine zaa hX zaL rfl ?_ ?_
      ·exact zaU (by omega)
      refine⟨2,⟨by omega,?_⟩,by decide,⟨rfl,rfl,rfl,rfl,rfl,rfl,rfl,rfl,rfl,rfl,rfl,rfl,trivial⟩,⟨rfl,bufI ?_,rfl,rfl,trivial⟩,rfl,rfl⟩
      ·show (_&&(bif decide (1 < opsN n) then inB (ndR n) 0 ((i:Int) - 1) else _))=true;rw[decide_eq_true (show 1 < opsN n from hd),cond_true,zaM.2 ⟨p0,p1⟩,Bool.and_true];exact hjo
      ·show bump (zcD u n 1) (ndR n)=zcD u n 2;rw[<-zlQ hops,if_pos (show 1 < opsN n from hd)]
     ·have hd:decide (((1:Nat):Int) < opsN n)=false:=hd;have hd:=of_decide_eq_false hd;refine za (za ?_);refine zaa hX zaL rfl ?_ ?_
      ·repeat'(first|exact trivial|assumption|(refine⟨?_,?_⟩)|(intro _)|exact zb rfl|exact zi _|(simp_all [allP];done))
      refine zaf rfl (fun he=>?_) (fun he=>?_)
      ·have he:(bif (ndR n != 0) then !(bif (((1:Nat):Int)==0) then (ndK n==7) else false) else false)=true:=he;(repeat(first|apply zae|apply zab|apply zal|apply zad|apply zac|refine zaa hX zaL rfl trivial ?_|refine zaa hX zaL rfl id ?_|refine zaa hX zaL rfl ⟨id,id⟩ ?_));refine zq ⟨.inr rfl,zax rfl trivial rfl rfl ?_⟩;show false=wfS r;refine (hfo ?_).symm;unfold ze5;rw[decide_eq_false (show ¬ 1 < opsN n from hd),cond_false];revert he;unfold bne;cases (ndR n==0)<;>intro he<;>first|(rw[qc])|cases he
      have he:(bif (ndR n != 0) then !(bif (((1:Nat):Int)==0) then (ndK n==7) else false) else false)=false:=he;apply zab;refine za (za ?_);refine zaa hX zaL rfl ?_ ?_
      ·exact zaU (by omega)
      refine⟨2,⟨by omega,?_⟩,by decide,⟨rfl,rfl,rfl,rfl,rfl,rfl,rfl,rfl,rfl,rfl,rfl,rfl,trivial⟩,⟨rfl,bufI ?_,rfl,rfl,trivial⟩,rfl,rfl⟩
      ·show (_&&(bif decide (1 < opsN n) then _ else ndR n==0))=true;rw[decide_eq_false (show ¬ 1 < opsN n from hd),cond_false];have h2:(ndR n==0)=true:=by revert he;unfold bne;cases (ndR n==0)<;>intro he<;>first|rfl|cases he
       rw[h2,Bool.and_true];exact hjo
      ·show zcD u n 1=zcD u n 2;rw[<-zlQ hops,if_neg (show ¬ 1 < opsN n from hd)]
   ·have hb:decide ((j:Int) < 2)=false:=hb;have hb:=of_decide_eq_false hb;obtain rfl:j=2:=by omega
    have hopd:ze5 n (i:Int)=true:=hjo;apply zad;refine zaq (σ':=⟨[(0,⟨.slice nd,r⟩),(3,⟨.optr (.arr 19 shp),⟨0,.arr 19 shp,.here⟩⟩),(4,⟨.obuf i64,(1:Nat)⟩),(24,⟨.slice nd,r⟩),(25,⟨i64,((r.length:Nat):Int)⟩),(26,⟨i64,(i:Int)⟩),(5,⟨i64,(i:Int)⟩),(6,⟨.optr nd,⟨2,nd,.here⟩⟩),(7,⟨.optr shp,⟨3,shp,.here⟩⟩)],[(0,some (.box (.arr 19 shp) zcG)),(1,some (.buf 3 i64 (zbA u n))),(2,some (.box nd n)),(3,some (.box shp (zdD (ndK n))))],4⟩) ⟨⟨rfl,rfl,rfl,rfl,rfl,rfl,rfl,rfl,rfl,trivial⟩,⟨rfl,rfl,rfl,rfl,trivial⟩,rfl,rfl⟩ ?_;clear hbd hul;have hub:u.length=u.length:=rfl;generalize zbA u n=u' at hus;(repeat(first|apply zae|apply zab|apply zac|apply zad));refine AWP.ordF (σ':=⟨[(0,⟨.slice nd,r⟩),(3,⟨.optr (.arr 19 shp),⟨0,.arr 19 shp,.here⟩⟩),(4,⟨.obuf i64,(1:Nat)⟩),(24,⟨.slice nd,r⟩),(25,⟨i64,((r.length:Nat):Int)⟩),(26,⟨i64,(i:Int)⟩),(5,⟨i64,(i:Int)⟩),(6,⟨.optr nd,⟨2,nd,.here⟩⟩),(7,⟨.optr shp,⟨3,shp,.here⟩⟩),(10,⟨.bool,ndC n==0⟩),(11,⟨.bool,decide (ndS n=[])⟩)],[(0,some (.box (.arr 19 shp) zcG)),(1,some (.buf 3 i64 (u'))),(2,some (.box nd n)),(3,some (.box shp (zdD (ndK n))))],4⟩) dM 8 rfl (by kernel_rfl) ?_ ?_
    ·repeat'(first|exact AllN.nil|refine AllN.cons ⟨_,rfl,?_⟩ ?_|refine xe hX zaL rfl trivial ?_|(refine OrdA.last ?_;exact⟨rfl,⟨rfl,rfl,rfl,rfl,rfl,rfl,rfl,rfl,rfl,rfl,zcu zdM,trivial⟩,⟨rfl,rfl,rfl,rfl,trivial⟩,rfl,rfl⟩))
    refine za (za ?_);refine zaa hX zaL rfl ?_ ?_
    ·trivial
    refine AWP.viaQ (σ':=⟨[(0,⟨.slice nd,r⟩),(3,⟨.optr (.arr 19 shp),⟨0,.arr 19 shp,.here⟩⟩),(4,⟨.obuf i64,(1:Nat)⟩),(24,⟨.slice nd,r⟩),(25,⟨i64,((r.length:Nat):Int)⟩),(26,⟨i64,(i:Int)⟩),(5,⟨i64,(i:Int)⟩),(6,⟨.optr nd,⟨2,nd,.here⟩⟩),(7,⟨.optr shp,⟨3,shp,.here⟩⟩),(10,⟨.bool,zeW n⟩),(11,⟨.bool,decide (ndS n=[])⟩)],[(0,some (.box (.arr 19 shp) zcG)),(1,some (.buf 3 i64 (u'))),(2,some (.box nd n)),(3,some (.box shp (zdD (ndK n))))],4⟩) ?_ ?_
    ·refine zaf rfl (fun hd=>?_) (fun hd=>?_)
     ·have hd:(zdD (ndK n)).2.1=true:=hd;refine za (za ?_);refine zaa hX zaL rfl ?_ ?_
      ·trivial
      refine⟨⟨rfl,rfl,rfl,rfl,rfl,rfl,rfl,rfl,rfl,zcu ?_,rfl,trivial⟩,⟨rfl,rfl,rfl,rfl,trivial⟩,rfl,rfl⟩;unfold zeW;rw[hd];rfl
     ·have hd:(zdD (ndK n)).2.1=false:=hd;apply zab;refine⟨⟨rfl,rfl,rfl,rfl,rfl,rfl,rfl,rfl,rfl,zcu ?_,rfl,trivial⟩,⟨rfl,rfl,rfl,rfl,trivial⟩,rfl,rfl⟩;unfold zeW;rw[hd];rfl
    refine za (za ?_);refine zaa hX zaL rfl ?_ ?_
    ·trivial
    refine AWP.viaQ (σ':=⟨[(0,⟨.slice nd,r⟩),(3,⟨.optr (.arr 19 shp),⟨0,.arr 19 shp,.here⟩⟩),(4,⟨.obuf i64,(1:Nat)⟩),(24,⟨.slice nd,r⟩),(25,⟨i64,((r.length:Nat):Int)⟩),(26,⟨i64,(i:Int)⟩),(5,⟨i64,(i:Int)⟩),(6,⟨.optr nd,⟨2,nd,.here⟩⟩),(7,⟨.optr shp,⟨3,shp,.here⟩⟩),(10,⟨.bool,zeW n⟩),(11,⟨.bool,zh3 n⟩)],[(0,some (.box (.arr 19 shp) zcG)),(1,some (.buf 3 i64 (u'))),(2,some (.box nd n)),(3,some (.box shp (zdD (ndK n))))],4⟩) ?_ ?_
    ·refine zaf rfl (fun hd=>?_) (fun hd=>?_)
     ·have hd:(ndK n==18)=true:=hd;refine za (za ?_);refine zaa hX zaL rfl ?_ ?_
      ·trivial
      refine⟨⟨rfl,rfl,rfl,rfl,rfl,rfl,rfl,rfl,rfl,rfl,zcu ?_,trivial⟩,⟨rfl,rfl,rfl,rfl,trivial⟩,rfl,rfl⟩;unfold zh3;rw[hd];rfl
     ·have hd:(ndK n==18)=false:=hd;apply zab;refine⟨⟨rfl,rfl,rfl,rfl,rfl,rfl,rfl,rfl,rfl,rfl,zcu ?_,trivial⟩,⟨rfl,rfl,rfl,rfl,trivial⟩,rfl,rfl⟩;unfold zh3;rw[hd];rfl
    have hfd:zba n=(zeW n&&(zh3 n&&(zaV (ndI n) (zdD (ndK n)).2.2.1&&zcV n))):=by
     unfold zba;rw[zaM.2 ⟨k1,k2⟩,decide_eq_true hl64];rfl
    refine za (za ?_);refine zaa hX zaL rfl ?_ ?_
    ·repeat'(first|exact trivial|assumption|(refine⟨?_,?_⟩)|(intro _)|exact zb rfl|exact zi _|(simp_all [allP];done))
    have ht:(bif (bif (bif !zeW n then true else !zh3 n) then true else !zaV (ndI n) (zdD (ndK n)).2.2.1) then true else !zcV n)= !zba n:=by
     rw[hfd];cases zeW n<;>cases zh3 n<;>cases zaV (ndI n) (zdD (ndK n)).2.2.1<;>cases zcV n<;>rfl
    refine zaf rfl (fun hd=>?_) (fun hd=>?_)
    ·have hd:=ht.symm.trans hd;rw[zw]at hd;(repeat(first|apply zae|apply zab|apply zal|apply zad|apply zac|refine zaa hX zaL rfl trivial ?_|refine zaa hX zaL rfl id ?_|refine zaa hX zaL rfl ⟨id,id⟩ ?_));refine zq ⟨.inr rfl,zax rfl trivial rfl rfl ?_⟩;show false=wfS r;rw[hff hd]
    ·have hd:=ht.symm.trans hd;rw[xg]at hd;apply zab;refine za (za ?_);refine zaa hX zaL rfl ?_ ?_
     ·exact zaU (by omega)
     refine⟨i+1,⟨hlt,?_⟩,by omega,⟨rfl,rfl,rfl,rfl,rfl,zdy _,trivial⟩,⟨rfl,bufI hus.symm,trivial⟩,rfl,rfl⟩;rw[hno];unfold zcS;rw[hd,hopd];rfl
 ·have hb:decide ((i:Int) < (r.length:Nat))=false:=hb;have hb:=of_decide_eq_false hb;obtain rfl:i=r.length:=by omega
  have hul:=zcQ r r.length;apply zad;refine qW hX 4 ?_;have i1:inR .i64 (((r.length:Nat):Int) - 1):=zan (by omega) (by omega);have i2:(0:Int)≤((r.length:Nat):Int) - 1:=by omega
  have i3:((r.length:Nat):Int) - 1≤(((zb5 r r.length).length:Nat):Int):=by omega
  refine za (za ?_);refine zaa hX zaL rfl ?_ ?_
  ·first|exact⟨i1,i2,i3,rfl⟩|(repeat'(first|exact trivial|exact i1|exact i2|exact i3|rfl|(refine⟨?_,?_⟩)))
  refine zq ⟨.inr rfl,zax rfl trivial rfl rfl ?_⟩;show (!((zb5 r r.length).take (((r.length:Nat):Int) - 1).toNat).any not1)=wfS r;unfold wfS;rw[decide_eq_true (by omega),decide_eq_true (by omega),hn,show (((r.length:Nat):Int) - 1).toNat=r.length - 1 by omega];rfl
abbrev Cal:=Int×List Int×Int×List Lr×Unit
def zkL (c:Cal):Prop:=(0≤c.1∧c.1≤1048576)∧(1≤c.2.1.length∧c.2.1.length≤16)∧(-1≤c.2.2.1∧c.2.2.1 < (c.2.1.length:Int))∧c.2.2.2.1.length≤16∧(c.2.2.1= -1->c.2.2.2.1=[])∧(∀ m∈c.2.1,1≤m∧m≤40)∧(perS 1 c.2.2.2.1).2=true
def cCalV:Ctr:={ args:=[cal],pre:=fun x=>[zkL x.1],res:=.bool,own:=none,out:=fun _=>true }
def kCv:Kn:={ gmK with C:=[(125,cPer)] }
theorem zdi:KnOk Tryz.prog gmH kCv:=zak.with (.cons zoB .nil)
theorem zqd {a b:Bool} (ha:a=false) (hb:b=false):(bif a then true else b)=false:=by rw[ha,hb];rfl
theorem ztI:yM Tryz.prog gmH 73 cCalV:=by
 refine zar (K:=kCv) zdi Tryz.func73 rfl rfl Tryz.call73 rfl (by decide) (by intro h;cases h) ?_;rintro w0 X hX ⟨(c:Cal),_⟩ hp;obtain⟨(ep:Int),(ms:List Int),(lp:Int),(rs:List Lr),⟨⟩⟩:=c;obtain⟨⟨e0,e1⟩,⟨n0,n1⟩,⟨l0,l1⟩,r0,lr,hm,hper⟩:zkL (ep,ms,lp,rs,()):=hp;have e0:0≤ep:=e0;have e1:ep≤1048576:=e1;have n0:1≤ms.length:=n0;have n1:ms.length≤16:=n1;have l0: -1≤lp:=l0;have l1:lp < (ms.length:Int):=l1;have r0:rs.length≤16:=r0;have lr:lp= -1->rs=[]:=lr;have hm:∀ m∈ms,1≤m∧m≤40:=hm;have hper:(perS 1 rs).2=true:=hper;change AWP _ _ _ _ _ ⟨[(0,⟨cal,(ep,ms,lp,rs,())⟩)],[],0⟩ _;refine za (za ?_);refine zaa hX zdi rfl ?_ ?_
 ·trivial
 refine za (za ?_);refine zaa hX zdi rfl ?_ ?_
 ·trivial
 refine zaq (σ':=⟨[(1,⟨.optr cal,⟨0,cal,.here⟩⟩),(3,⟨i64,((ms.length:Nat):Int)⟩)],[(0,some (.box cal (ep,ms,lp,rs,())))],1⟩) ⟨⟨rfl,rfl,trivial⟩,⟨rfl,trivial⟩,rfl,rfl⟩ ?_;refine za (za ?_);refine zaa hX zdi rfl ?_ ?_
 ·repeat'(first|exact trivial|assumption|(refine⟨?_,?_⟩)|(intro _)|exact zb rfl|exact zi _|(simp_all [allP];done))
 refine zaf rfl (fun hc=>?_) (fun _=>?_)
 ·have hc:(bif decide (ep < 0) then true else decide (ep > 1048576))=true:=hc;rw[zqd (decide_eq_false (by omega)) (decide_eq_false (by omega))]at hc;cases hc
 refine za (za ?_);refine zaa hX zdi rfl ?_ ?_
 ·repeat'(first|exact trivial|assumption|(refine⟨?_,?_⟩)|(intro _)|exact zb rfl|exact zi _|(simp_all [allP];done))
 refine zaf rfl (fun hc=>?_) (fun _=>?_)
 ·have hc:(bif decide (((ms.length:Nat):Int) < 1) then true else decide (((ms.length:Nat):Int) > 16))=true:=hc;rw[zqd (decide_eq_false (by omega)) (decide_eq_false (by omega))]at hc;cases hc
 refine za (za ?_);refine zaa hX zdi rfl ?_ ?_
 ·repeat'(first|exact trivial|assumption|(refine⟨?_,?_⟩)|(intro _)|exact zb rfl|exact zi _|(simp_all [allP];done))
 refine zaf rfl (fun hc=>?_) (fun _=>?_)
 ·have hc:(bif decide (lp < -1) then true else decide (lp≥((ms.length:Nat):Int)))=true:=hc;rw[zqd (decide_eq_false (by omega)) (decide_eq_false (by omega))]at hc;cases hc
 refine za (za ?_);refine zaa hX zdi rfl ?_ ?_
 ·repeat'(first|exact trivial|assumption|(refine⟨?_,?_⟩)|(intro _)|exact zb rfl|exact zi _|(simp_all [allP];done))
 refine zaf rfl (fun hc=>?_) (fun _=>?_)
 ·have hc:decide (((rs.length:Nat):Int) > 16)=true:=hc;have:=of_decide_eq_true hc;omega
 refine za (za ?_);refine zaa hX zdi rfl ?_ ?_
 ·repeat'(first|exact trivial|assumption|(refine⟨?_,?_⟩)|(intro _)|exact zb rfl|exact zi _|(simp_all [allP];done))
 refine zaf rfl (fun hc=>?_) (fun _=>?_)
 ·have hc:(bif (lp== -1) then decide (((rs.length:Nat):Int) > 0) else false)=true:=hc;cases hq:(lp== -1) with
  |false=>rw[hq]at hc;cases hc
  |true=>
   rw[hq]at hc;have:=of_decide_eq_true hc;rw[lr (beq_iff_eq.1 hq)]at this;exact absurd this (by decide)
 apply zab;refine zaq (σ':=⟨[(1,⟨.optr cal,⟨0,cal,.here⟩⟩)],[(0,some (.box cal (ep,ms,lp,rs,())))],1⟩) ⟨⟨rfl,trivial⟩,⟨rfl,trivial⟩,rfl,rfl⟩ ?_;refine za (za ?_);refine zaa hX zdi rfl ?_ ?_
 ·trivial
 (repeat(first|apply zae|apply zab|apply zac|apply zad));refine yU (ι:=Nat) (fun k=>⟨[(1,⟨.optr cal,⟨0,cal,.here⟩⟩),(50,⟨ints,ms⟩),(51,⟨i64,((ms.length:Nat):Int)⟩),(52,⟨i64,(k:Int)⟩)],[(0,some (.box cal (ep,ms,lp,rs,())))],1⟩) (fun k=>k≤ms.length) (fun k=>ms.length - k) 0 (zm _) ⟨⟨rfl,rfl,rfl,rfl,trivial⟩,⟨rfl,trivial⟩,rfl,rfl⟩ ?_;intro k hk;refine za (za ?_);refine zaa hX zdi rfl ?_ ?_
 ·trivial
 apply zae;refine zaf rfl (fun hb=>?_) (fun hb=>?_)
 ·have hb:decide ((k:Int) < (ms.length:Nat))=true:=hb;have hb:=of_decide_eq_true hb;have hlt:k < ms.length:=by omega
  have z0:(0:Int)≤(k:Int):=by omega
  have hgd:ms.getD (k:Int).toNat (0:Int)=ms[k]:=za1 hlt;obtain⟨g0,g1⟩:=hm ms[k] (xW hlt);rw[<-hgd]at g0 g1;refine za (za ?_);refine zaa hX zdi rfl ?_ ?_
  ·exact⟨z0,hb⟩
  refine za (za ?_);refine zaa hX zdi rfl ?_ ?_
  ·repeat'(first|exact trivial|assumption|(refine⟨?_,?_⟩)|(intro _)|exact zb rfl|exact zi _|(simp_all [allP];done))
  refine zaf rfl (fun hc=>?_) (fun _=>?_)
  ·have hc:(bif decide (ms.getD (k:Int).toNat (0:Int) < 1) then true else decide (ms.getD (k:Int).toNat (0:Int) > 40))=true:=hc;rw[zqd (decide_eq_false (by omega)) (decide_eq_false (by omega))]at hc;cases hc
  apply zab;refine za (za ?_);refine zaa hX zdi rfl ?_ ?_
  ·exact zaU (by omega)
  exact⟨k+1,hlt,by omega,⟨rfl,rfl,rfl,zdy _,trivial⟩,⟨rfl,trivial⟩,rfl,rfl⟩
 ·apply zad;refine za (za ?_);refine zaa hX zdi rfl ?_ ?_
  ·trivial
  refine za (za ?_);refine zaa hX zdi rfl ?_ ?_
  ·trivial
  refine zq ⟨.inr rfl,zax rfl trivial rfl rfl ?_⟩;exact hper
def ztJ:Ctr:={ args:=[.slice nd,.slice cal],pre:=fun x=>[zg x.2.1=3,∀ c∈(x.2.1:List Cal),zkL c],res:=i64,own:=none,out:=fun x=>zcP x.1 }
def zCal:Cal:=(0,[],0,[],())
def kVr:Kn:={ gmK with C:=[(71,cAnyR),(72,cWf),(73,cCalV),(74,zlF)] }
theorem zbO:KnOk Tryz.prog gmH kVr:=zak.with (.cons zt1 <| .cons wf_ok <| .cons ztI <| .cons zjV .nil)
set_option maxHeartbeats 1000000 in
theorem zsi:yM Tryz.prog gmH 34 ztJ:=by
 refine zar (K:=kVr) zbO Tryz.func34 rfl rfl Tryz.call34 rfl (by decide) (by intro h;cases h) ?_;rintro w0 X hX ⟨(r:List Nd),(cs:List Cal),_⟩ hp;obtain⟨hc3,hcs⟩:cs.length=3∧∀ c∈cs,zkL c:=by
  simp only[ztJ,allP]at hp
  simpa using hp
 change AWP _ _ _ _ _ ⟨[(0,⟨.slice nd,r⟩),(1,⟨.slice cal,cs⟩)],[],0⟩ _;refine za (za ?_);refine zaa hX zbO rfl ?_ ?_
 ·trivial
 refine za (za ?_);refine zaa hX zbO rfl ?_ ?_
 ·trivial
 refine za (za ?_);refine zaa hX zbO rfl ?_ ?_
 ·repeat'(first|exact trivial|assumption|exact rfl|(refine⟨?_,?_⟩)|(intro _)|exact zb rfl|exact zi _|(simp_all [allP];done))
 have hbig:(bif decide (((r.length:Nat):Int) > 64) then true else r.any bigN)=decide (64 < r.length∨r.any bigN=true):=by
  rw[b_or,yu,zZ,decide_eq_true_iff,decide_eq_true_iff];constructor
  ·rintro (h|h)
   ·exact .inl (by omega)
   ·exact .inr h
  ·rintro (h|h)
   ·exact .inl (by omega)
   ·exact .inr h
 refine zaf rfl (fun hb=>?_) (fun hb=>?_)
 ·have hb:=hbig.symm.trans hb;have hb:=of_decide_eq_true hb;(repeat(first|apply zae|apply zab|apply zal|apply zad|apply zac|refine zaa hX zbO rfl trivial ?_|refine zaa hX zbO rfl id ?_|refine zaa hX zbO rfl ⟨id,id⟩ ?_));refine zq ⟨.inr rfl,zax rfl trivial rfl rfl ?_⟩;show (2:Int)=zcP r;unfold zcP;rw[if_pos hb]
 have hb:=hbig.symm.trans hb;have hnb:=of_decide_eq_false hb;apply zab;refine za (za ?_);refine zaa hX zbO rfl ?_ ?_
 ·repeat'(first|exact trivial|assumption|(refine⟨?_,?_⟩)|(intro _)|exact zb rfl|exact zi _|(simp_all [allP];done))
 have hwt:(bif !wfS r then true else decide (((cs.length:Nat):Int) > 3))= !wfS r:=by
  rw[hc3];cases wfS r<;>rfl
 refine zaf rfl (fun hb=>?_) (fun hb=>?_)
 ·have hb:=hwt.symm.trans hb;rw[zw]at hb;(repeat(first|apply zae|apply zab|apply zal|apply zad|apply zac|refine zaa hX zbO rfl trivial ?_|refine zaa hX zbO rfl id ?_|refine zaa hX zbO rfl ⟨id,id⟩ ?_));refine zq ⟨.inr rfl,zax rfl trivial rfl rfl ?_⟩;show (1:Int)=zcP r;unfold zcP;rw[if_neg hnb,if_neg (by rw[hb];decide)]
 have hb:=hwt.symm.trans hb;rw[xg]at hb;have hv:zcP r=0:=by unfold zcP;rw[if_neg hnb,if_pos hb]
 obtain⟨⟨w1,w2⟩,w3,_⟩:=zds hb;apply zab;refine za (za ?_);refine zaa hX zbO rfl ?_ ?_
 ·trivial
 (repeat(first|apply zae|apply zab|apply zac|apply zad));refine zaq (σ':=⟨[(0,⟨.slice nd,r⟩),(1,⟨.slice cal,cs⟩),(27,⟨.slice cal,cs⟩),(28,⟨i64,((cs.length:Nat):Int)⟩),(29,⟨i64,(0:Int)⟩)],[],0⟩) ⟨⟨rfl,rfl,rfl,rfl,rfl,trivial⟩,trivial,rfl,rfl⟩ ?_;refine yU (ι:=Nat) (fun k=>⟨[(0,⟨.slice nd,r⟩),(1,⟨.slice cal,cs⟩),(27,⟨.slice cal,cs⟩),(28,⟨i64,((cs.length:Nat):Int)⟩),(29,⟨i64,(k:Int)⟩)],[],0⟩) (fun k=>k≤cs.length) (fun k=>cs.length - k) 0 (zm _) ⟨⟨rfl,rfl,rfl,rfl,rfl,trivial⟩,trivial,rfl,rfl⟩ ?_;intro k hk;refine za (za ?_);refine zaa hX zbO rfl ?_ ?_
 ·trivial
 apply zae;refine zaf rfl (fun hb=>?_) (fun hb=>?_)
 ·have hb:decide ((k:Int) < (cs.length:Nat))=true:=hb;have hb:=of_decide_eq_true hb;have hlt:k < cs.length:=by omega
  have z0:(0:Int)≤(k:Int):=by omega
  have hgd:cs.getD (k:Int).toNat zCal=cs[k]:=za1 hlt;have hok:=hcs cs[k] (xW hlt);rw[<-hgd]at hok;refine za (za ?_);refine zaa hX zbO rfl ?_ ?_
  ·exact⟨z0,hb⟩
  refine za (za ?_);refine zaa hX zbO rfl ?_ ?_
  ·exact hok
  refine zaf rfl (fun hc=>?_) (fun _=>?_)
  ·have hc:(!true)=true:=hc;cases hc
  apply zab;refine za (za ?_);refine zaa hX zbO rfl ?_ ?_
  ·exact zaU (by omega)
  exact⟨k+1,hlt,by omega,⟨rfl,rfl,rfl,rfl,zdy _,trivial⟩,trivial,rfl,rfl⟩
 ·apply zad;refine za (za ?_);refine zaa hX zbO rfl ?_ ?_
  ·trivial
  refine za (za ?_);refine zaa hX zbO rfl ?_ ?_
  ·trivial
  (repeat(first|apply zae|apply zab|apply zac|apply zad));refine yU (ι:=Nat) (fun i=>⟨[(0,⟨.slice nd,r⟩),(1,⟨.slice cal,cs⟩),(8,⟨.optr (.arr 19 shp),⟨0,.arr 19 shp,.here⟩⟩),(38,⟨.slice nd,r⟩),(39,⟨i64,((r.length:Nat):Int)⟩),(40,⟨i64,(i:Int)⟩)],[(0,some (.box (.arr 19 shp) zcG))],1⟩) (fun i=>i≤r.length) (fun i=>r.length - i) 0 (zm _) ⟨⟨rfl,rfl,rfl,rfl,rfl,rfl,trivial⟩,⟨rfl,trivial⟩,rfl,rfl⟩ ?_;intro i hi;refine za (za ?_);refine zaa hX zbO rfl ?_ ?_
  ·trivial
  apply zae;refine zaf rfl (fun hb=>?_) (fun hb=>?_)
  ·have hb:decide ((i:Int) < (r.length:Nat))=true:=hb;have hb:=of_decide_eq_true hb;have hlt:i < r.length:=by omega
   have z0:(0:Int)≤(i:Int):=by omega
   have hf:=(zct w3 hlt).1;obtain⟨⟨k1,k2⟩,_,hcal,_⟩:=zaG hf;refine za (za ?_);refine zaa hX zbO rfl ?_ ?_
   ·exact⟨z0,hb⟩
   refine zaq (σ':=⟨[(0,⟨.slice nd,r⟩),(1,⟨.slice cal,cs⟩),(8,⟨.optr (.arr 19 shp),⟨0,.arr 19 shp,.here⟩⟩),(38,⟨.slice nd,r⟩),(39,⟨i64,((r.length:Nat):Int)⟩),(40,⟨i64,(i:Int)⟩),(10,⟨.optr nd,⟨1,nd,.here⟩⟩)],[(0,some (.box (.arr 19 shp) zcG)),(1,some (.box nd (zav r i)))],2⟩) ⟨⟨rfl,rfl,rfl,rfl,rfl,rfl,rfl,trivial⟩,⟨rfl,rfl,trivial⟩,rfl,rfl⟩ ?_;generalize zav r i=n at *;have t0:(0:Int)≤ndK n:=by omega
   have t1:ndK n < ((19:Nat):Int):=by omega
   have t2:(ndK n).toNat < 19:=by omega
   refine za (za ?_);refine zaa hX zbO rfl ?_ ?_
   ·repeat'(first|exact trivial|assumption|exact t0|exact t1|exact t2|(refine⟨?_,?_⟩)|(intro _)|exact zb rfl|exact zi _|(simp_all [allP];done))
   refine zaf rfl (fun hc=>?_) (fun _=>?_)
   ·have hc:(bif (zdD (ndK n)).2.1 then decide (ndC n≥((cs.length:Nat):Int)) else false)=true:=hc;exfalso;unfold zeW at hcal;cases hq:(zdD (ndK n)).2.1 with
    |false=>rw[hq]at hc;cases hc
    |true=>
     rw[hq,cond_true]at hc hcal;have h1:=of_decide_eq_true hc;have h2:=zaM.1 hcal;omega
   apply zab;refine za (za ?_);refine zaa hX zbO rfl ?_ ?_
   ·exact zaU (by omega)
   exact⟨i+1,hlt,by omega,⟨rfl,rfl,rfl,rfl,rfl,zdy _,trivial⟩,⟨rfl,trivial⟩,rfl,rfl⟩
  ·(repeat(first|apply zae|apply zab|apply zal|apply zad|apply zac|refine zaa hX zbO rfl trivial ?_|refine zaa hX zbO rfl id ?_|refine zaa hX zbO rfl ⟨id,id⟩ ?_));refine zq ⟨.inr rfl,zax rfl trivial rfl rfl ?_⟩;exact hv.symm
def zrH:List Int:=[31,28,31,30,31,30,31,31,30,31,30,31]
def zhk:List Int:=[30,29,30,29,30,29,30,29,30,29,30,29]
def zg5:List Int:=[2,5,7,10,13,16,18,21,24,26,29]
def zmg (k:Int):Cal:=
 if k=0 then (7,zrH,1,[(4,0,true,()),(100,0,false,()),(400,0,true,())],())
 else if k=1 then (5,zrH,1,[(4,0,true,())],())
 else (227021,zhk,11,zg5.map fun x=>(30,x,true,()),())
def zpR:Ctr:={ args:=[i64],pre:=fun x=>[0≤x.1,x.1≤2],res:=.tup cal (.tup i64 .unit),own:=none,out:=fun x=>(zmg x.1,(0:Int),()) }
def kKw:Kn:={ gmK with H:=[63] }
theorem zb4:KnOk Tryz.prog gmH kKw:=⟨zhx,zhw,CsOk.nil,ziE,RsOk.nil⟩
def lunVal:zh:=.agg #[.int .i64 227021,.slice none 0 0,.int .i64 11,.slice none 0 0]
theorem zoS:Tryz.prog.built 63 [(0,.int .i64 227021),(2,.int .i64 11)]=some #[.int .i64 227021,.slice none 0 0,.int .i64 11,.slice none 0 0]:=by kernel_rfl
theorem bufL {te:zp} {x y:List Lr} (h:x=y):some (OObj.buf te lru x)=some (OObj.buf te lru y):=by rw[h]
set_option maxHeartbeats 1000000 in
theorem zq3:yM Tryz.prog gmH 59 zpR:=by
 refine zar (K:=kKw) zb4 Tryz.func59 rfl rfl Tryz.call59 rfl (by decide) (by intro h;cases h) ?_;rintro w0 X hX ⟨(k:Int),_⟩ hp;obtain⟨h0,h1⟩:0≤k∧k≤2:=by
  simp only[zpR,allP]at hp
  simpa using hp
 change AWP _ _ _ _ _ ⟨[(0,⟨i64,k⟩)],[],0⟩ _;refine za (za ?_);refine zaa hX zb4 rfl ?_ ?_
 ·trivial
 refine za (za ?_);refine zaa hX zb4 rfl ?_ ?_
 ·trivial
 refine qW hX 4 ?_;refine za (za ?_);refine zaa hX zb4 rfl ?_ ?_
 ·trivial
 refine za (za ?_);refine zaa hX zb4 rfl ?_ ?_
 ·trivial
 refine za (za ?_);refine zaa hX zb4 rfl ?_ ?_
 ·trivial
 refine zaf rfl (fun hb=>?_) (fun hb=>?_)
 ·have hb:(k==0)=true:=hb;obtain rfl:=beq_iff_eq.1 hb;refine za (za ?_);refine zaa hX zb4 rfl ?_ ?_
  ·trivial
  refine qW hX 6 ?_;refine za (za ?_);refine zaa hX zb4 rfl ?_ ?_
  ·trivial
  refine zq ⟨.inr rfl,zbk (by decide) rfl rfl trivial ?_⟩;rfl
 have hb:(k==0)=false:=hb;have hk0:k≠0:=fun e=>by rw[e]at hb;cases hb
 refine za (za ?_);refine zaa hX zb4 rfl ?_ ?_
 ·trivial
 refine zaf rfl (fun hb=>?_) (fun hb=>?_)
 ·have hb:(k==1)=true:=hb;obtain rfl:=beq_iff_eq.1 hb;refine za (za ?_);refine zaa hX zb4 rfl ?_ ?_
  ·trivial
  refine zq ⟨.inr rfl,zbk (by decide) rfl rfl trivial ?_⟩;rfl
 have hb:(k==1)=false:=hb;have hk1:k≠1:=fun e=>by rw[e]at hb;cases hb
 refine za (za ?_);refine zaa hX zb4 rfl ?_ ?_
 ·trivial
 refine zaf rfl (fun hb=>?_) (fun hb=>?_)
 ·have hb:(k==2)=true:=hb;obtain rfl:=beq_iff_eq.1 hb;(repeat(first|apply zae|apply zab|apply zac|apply zad));refine zai ?_;refine AL.litv rfl (by intro c e;cases e) rfl rfl lunVal (fun β a w hs=>by
   unfold execOp;refine zee ?_;rw[show (#[(0,wi (yF .i64 227021)),(2,wi (yF .i64 11))]:Array (Nat×zG)).map (fun p=>(p.1,a.eval p.2))= #[(0,yF .i64 227021),(2,yF .i64 11)] from by simp;exact⟨rfl,rfl⟩];exact run_build w _ _ _ zoS) ?_
  refine zV hX zb4 rfl trivial ?_;refine AWP.nilLeaf 3 1 3 i64 rfl rfl rfl ?_;refine AWP.nilLeaf 3 3 129 lru rfl rfl rfl ?_;refine za (za ?_);refine zaa hX zb4 rfl ?_ ?_
  ·trivial
  (repeat(first|apply zae|apply zab|apply zac|apply zad));refine yU (ι:=Nat) (fun i=>⟨[(2,⟨.hptr,((0:Nat),(0:Nat))⟩),(7,⟨.hptr,((3:Nat),(0:Nat))⟩),(32,⟨i64,(i:Int)⟩)],[(0,some (.hbox 63 [⟨i64,(0:Int)⟩,⟨.lit,.slice none 0 0⟩,⟨i64,(0:Int)⟩,⟨.lit,.slice none 0 0⟩])),(3,some (.hbox 63 [⟨i64,(227021:Int)⟩,⟨.obuf i64,(4:Nat)⟩,⟨i64,(11:Int)⟩,⟨.obuf lru,(5:Nat)⟩])),(4,some (.buf 3 i64 (zhk.take i))),(5,some (.buf 129 lru []))],6⟩) (fun i=>i≤12) (fun i=>12 - i) 0 (zm _) ⟨⟨rfl,rfl,rfl,trivial⟩,⟨rfl,rfl,rfl,rfl,trivial⟩,rfl,rfl⟩ ?_
  ·intro i hi;refine za (za ?_);refine zaa hX zb4 rfl ?_ ?_
   ·trivial
   apply zae;refine zaf rfl (fun hb=>?_) (fun hb=>?_)
   ·have hb:decide ((i:Int) < 12)=true:=hb;have hb:=of_decide_eq_true hb;obtain⟨hv,hv2,hv3⟩:(inR .i64 ((30:Int) - (i:Int).tmod 2))∧zhk.take i++ [(30:Int) - (i:Int).tmod 2]=zhk.take (i+1)∧(zhk.take i).length≤12:=by
     rcases (show i=0∨i=1∨i=2∨i=3∨i=4∨i=5∨i=6∨i=7∨i=8∨i=9∨i=10∨i=11 by omega) with rfl|rfl|rfl|rfl|rfl|rfl|rfl|rfl|rfl|rfl|rfl|rfl<;>exact⟨zan (by decide) (by decide),by decide,by decide⟩
    have q0:(2:Int)≠0:=by decide
    have q1:(zhk.take i).length+1≤1000000000:=by omega
    refine za (za ?_);refine zaa hX zb4 rfl ?_ ?_
    ·trivial
    refine za (za ?_);refine zaa hX zb4 rfl ?_ ?_
    ·exact⟨q0,hv,q1⟩
    refine za (za ?_);refine zaa hX zb4 rfl ?_ ?_
    ·exact zaU (by omega)
    exact⟨i+1,by omega,by omega,⟨rfl,rfl,zdy _,trivial⟩,⟨rfl,rfl,bufI hv2,rfl,trivial⟩,rfl,rfl⟩
   ·have hb:decide ((i:Int) < 12)=false:=hb;have hb:=of_decide_eq_false hb;obtain rfl:i=12:=by omega
    apply zad;refine za (za ?_);refine zaa hX zb4 rfl ?_ ?_
    ·trivial
    refine qW hX 44 ?_;(repeat(first|apply zae|apply zab|apply zac|apply zad));refine yU (ι:=Nat) (fun j=>⟨[(2,⟨.hptr,((0:Nat),(0:Nat))⟩),(7,⟨.hptr,((3:Nat),(0:Nat))⟩),(44,⟨ints,zg5⟩),(45,⟨i64,(11:Int)⟩),(46,⟨i64,(j:Int)⟩)],[(0,some (.hbox 63 [⟨i64,(0:Int)⟩,⟨.lit,.slice none 0 0⟩,⟨i64,(0:Int)⟩,⟨.lit,.slice none 0 0⟩])),(3,some (.hbox 63 [⟨i64,(227021:Int)⟩,⟨.obuf i64,(4:Nat)⟩,⟨i64,(11:Int)⟩,⟨.obuf lru,(5:Nat)⟩])),(4,some (.buf 3 i64 zhk)),(5,some (.buf 129 lru ((zg5.take j).map fun x=>(30,x,true,()))))],6⟩) (fun j=>j≤11) (fun j=>11 - j) 0 (zm _) ⟨⟨rfl,rfl,rfl,rfl,rfl,trivial⟩,⟨rfl,rfl,rfl,rfl,trivial⟩,rfl,rfl⟩ ?_;intro j hj;refine za (za ?_);refine zaa hX zb4 rfl ?_ ?_
    ·trivial
    apply zae;refine zaf rfl (fun hb=>?_) (fun hb=>?_)
    ·have hb:decide ((j:Int) < 11)=true:=hb;have hb:=of_decide_eq_true hb;have hlt:j < zg5.length:=by show j < 11;omega
     have z0:(0:Int)≤(j:Int):=by omega
     have z1:(j:Int) < ((zg5.length:Nat):Int):=by omega
     have hl:((zg5.take j).map fun x=>((30,x,true,()):Lr)).length+1≤1000000000:=by rw[List.length_map,yT];omega
     refine za (za ?_);refine zaa hX zb4 rfl ?_ ?_
     ·exact⟨z0,z1⟩
     refine za (za ?_);refine zaa hX zb4 rfl ?_ ?_
     ·exact hl
     refine za (za ?_);refine zaa hX zb4 rfl ?_ ?_
     ·exact zaU (by omega)
     refine⟨j+1,by omega,by omega,⟨rfl,rfl,rfl,rfl,zdy _,trivial⟩,⟨rfl,rfl,rfl,bufL ?_,trivial⟩,rfl,rfl⟩;rw[zF hlt,List.map_append];show _++ [((30:Int),zg5.getD (j:Int).toNat (0:Int),true,())]=_;rw[za1 hlt];rfl
    ·have hb:decide ((j:Int) < 11)=false:=hb;have hb:=of_decide_eq_false hb;obtain rfl:j=11:=by omega
     apply zad;refine AWP.frzL hX 3 1 ?_;refine AWP.frzL hX 3 3 ?_;refine za (za ?_);refine zaa hX zb4 rfl ?_ ?_
     ·trivial
     refine zq ⟨.inr rfl,zbk (by decide) rfl rfl trivial ?_⟩;rfl
 ·have hb:(k==2)=false:=hb;exact absurd (beq_iff_eq.2 (by omega:k=2)) (by rw[hb];decide)
theorem zqE (A:Option Addr) (n c:Nat):Tryz.prog.built 107 [(1,.slice A n c)]=some #[.pointer none,.slice none 0 0,.slice A n c]:=by kernel_rfl
abbrev prV:Ty:=.hcons .lit (.hcons .lit (.hcons (.slice nd) .unit))
def prX (r:List Nd):prV.T:=(.pointer none,(.slice none 0 0,(r,())))
section
variable {w0:zj} {X:Ownr} {n:Nat} {Q:Exit->AS->Prop} {ops:Array Oper} {F:Frame} {E:Owns} {nx:Nat}
theorem AL.bldPr {o:Oper} {rest:List Oper} {x:zG} (ho:o.op= .build 107 #[(1,x)]) (hgd:o.guard=none) {d:Nat} (hd:o.dst=some d) (hdn:Nat.blt d n=true) {r:List Nd} (hx:evO F x=⟨.slice nd,r⟩)
  (h:AL Tryz.prog w0 X n ops rest ⟨(d,⟨prV,prX r⟩)::F,E,nx⟩ Q):AL Tryz.prog w0 X n ops (o::rest) ⟨F,E,nx⟩ Q:=by
 refine AL.hand hgd (fun c e=>by rw[ho]at e;cases e) fun β a w hs=>?_;have hsx:=hs.ops x;rw[show evO (AS.mk F E nx).F x=_ from hx]at hsx;have hsx':=hsx;obtain⟨v,e,hS⟩:=hsx;obtain⟨A,m,c,hv⟩:∃ A m c,a.eval x= .slice A m c:=by
  rw[List.singleton_inj.1 e];rcases hS with ⟨_,A,c,rfl,_⟩|⟨g,off,c,vs,rfl,_⟩
  ·exact⟨_,_,_,rfl⟩
  ·exact⟨_,_,_,rfl⟩
 rw[hv]at hsx';refine znJ hd hdn (v:=⟨prV,prX r⟩) (zm _) (N:=fun σ'=>AL Tryz.prog w0 X n ops rest σ' Q) h hs (u:=.agg #[.pointer none,.slice none 0 0,.slice A m c]) ?_ ?_
 ·unfold execOp;simp only[ho];refine zee ?_;rw[show (#[(1,x)]:Array (Nat×zG)).map (fun p=>(p.1,a.eval p.2))= #[(1,Value.slice A m c)] from by simp[hv]];exact run_build w _ _ _ (zqE A m c)
 ·exact⟨_,[_,_],rfl,rfl,rfl,_,[_],rfl,rfl,rfl,_,[],rfl,rfl,hsx',[],rfl,rfl⟩
theorem AL.box3 (hX:X.Ok w0) {o:Oper} {rest:List Oper} {t:zp} {x:zG} (ho:o.op= .box t x) (hgd:o.guard=none) {d:Nat} (hd:o.dst=some d) (hdn:Nat.blt d n=true) {A:Ty} {q1 q2:zh} {p:A.T} (hx:evO F x=⟨.hcons .lit (.hcons .lit (.hcons A .unit)),(q1,(q2,(p,())))⟩)
  (hA:A.plainL=true) (hbA:(⟨A,p⟩:V).bound=0) (h:AL Tryz.prog w0 X n ops rest ⟨(d,⟨.hptr,(nx,(0:Nat))⟩)::F,(nx,some (.hbox t [⟨.lit,q1⟩,⟨.lit,q2⟩,⟨A,p⟩]))::E,nx+1⟩ Q):AL Tryz.prog w0 X n ops (o::rest) ⟨F,E,nx⟩ Q:=by
 refine AL.hand hgd (fun c e=>by rw[ho]at e;cases e) fun β a w hs=>?_;have hlt:d < n:=by simpa using hdn
 have h1:=hs.ops x;rw[show evO (AS.mk F E nx).F x=_ from hx]at h1;obtain⟨c1,s1,e1,hc1,r1,h2⟩:=h1;obtain⟨c2,s2,e2,hc2,r2,h3⟩:=h2;obtain⟨c3,s3,e3,hc3,r3,h4⟩:=h3;obtain⟨cs,e4,h4⟩:∃ cs:List zh,(Value.agg s3.toArray)= .agg cs.toArray∧RepC w (OSet X E β) .unit () cs:=(RepD.agg rfl).1 h4;have h4:cs=[]:=h4;subst h4;have e4:s3=[]:=by
  have:=km e4
  simpa using congrArg vC this
 subst e4;have e3:s2=[c3]:=by
  have:=km e3
  simpa using congrArg vC this
 subst e3;have e2:s1=[c2,c3]:=by
  have:=km e2
  simpa using congrArg vC this
 subst e2;refine zbx (u:=.pointer (some ⟨w.heap.size,0,none⟩)) (w':=w.alloc (.cells #[c1,c2,c3] t (0,0))) ?_ ?_
 ·unfold execOp;simp only[ho];refine zee ?_;rw[e1];simp[Instr.box,newVar,newRow,Value.cells,go_sem]
 ·rw[hd];have hk:Below w.heap.size w (w.alloc (.cells #[c1,c2,c3] t (0,0))):=(Below.refl _ w).alloc (zk _) (.cells #[c1,c2,c3] t (0,0));obtain⟨β',h4⟩:=hs.make hX hk (bv:=.pointer (some ⟨w.heap.size,0,none⟩)) (o:=.hbox t [⟨.lit,q1⟩,⟨.lit,q2⟩,⟨A,p⟩])
   (fun O β' hO=>by
     have hkk:Keeps w (w.alloc (.cells #[c1,c2,c3] t (0,0))) (OSet X E β) O:=.of_below hk fun g hg hg'=>by
      rcases hO g hg' with h5|h5
      ·exact h5
      ·simp[zah]at h5;omega
     exact⟨w.heap.size,[c1,c2,c3],rfl,zm _,World.alloc_heap_new w _,⟨c1,[c2,c3],rfl,hc1,r1,⟨c2,[c3],rfl,hc2,r2,⟨c3,[],rfl,hc3,RepV.plainL hkk hA r3,rfl⟩⟩⟩⟩) (fun g hg=>by cases hg;exact zk _) (v:=⟨.hptr,(nx,(0:Nat))⟩) (u:=.pointer (some ⟨w.heap.size,0,none⟩))
   (fun O β' hb=>⟨w.heap.size,by show zah (β' nx)=_;rw[show β' nx=_ from hb];rfl,rfl⟩) (zk _) hlt (fun vs e v hv=>by
     cases e;rcases zX.1 hv with rfl|hv
     ·exact zm _
     ·rcases zX.1 hv with rfl|hv
      ·exact zm _
      ·rw[zu.1 hv,hbA];exact zm _)
  exact⟨_,β',h4,h⟩
end
theorem ziF {w0:zj} {O:Nat->Prop} (hX:(ql gmH O).Ok w0) {ty:zp}:ginv w0 (ql gmH O).R ty:=⟨Ownr.plain_noR _ _ _,Ownr.plain_noR _ _ _⟩
theorem know3 (k:Int) (h:0≤k∧k≤2):zkL (zmg k):=by
 have key:∀ k:Fin 3,zkL (zmg ((k.val:Nat):Int)):=by
  intro k;unfold zkL;revert k;decide+kernel
 have:=key ⟨k.toNat,by omega⟩;rwa[show (((⟨k.toNat,by omega⟩:Fin 3).val:Nat):Int)=k by show ((k.toNat:Nat):Int)=k;omega]at this
def zrt (k:Nat):List Cal:=(yV 3).map fun j=>if j < k then zmg ((j:Nat):Int) else zCal
theorem bufC {te:zp} {x y:List Cal} (h:x=y):some (OObj.buf te cal x)=some (OObj.buf te cal y):=by rw[h]
theorem ztH:∀ c∈zrt 3,zkL c:=fun c hc=>by
 obtain⟨j,hj,rfl⟩:=List.mem_map.1 hc;have hj:=yH.1 hj;rw[if_pos hj];exact know3 _ ⟨by omega,by omega⟩
def cFmt:Ctr:={ args:=[.slice nd],pre:=fun _=>[],res:=.tup .str (.tup i64 .unit),own:=none,out:=fun x=>((fmtS x.1).1,(fmtS x.1).2,()) }
def kFm:Kn:={ gmK with C:=[(59,zpR),(34,ztJ)] }
theorem zbK:KnOk Tryz.prog gmH kFm:=zak.with (.cons zq3 <| .cons zsi .nil)
def hFm:List (zP×HCtr):=[(60,zkO 65),(61,znC prT [107])]
theorem zrZ:HsOk Tryz.prog gmH hFm:=.cons (zrL 65).1 <| .cons zs3 .nil
set_option maxHeartbeats 1000000 in
theorem zhC:yM Tryz.prog gmH 24 cFmt:=by
 refine zar (K:=kFm) zbK Tryz.func24 rfl rfl Tryz.call24 rfl (by decide) (by intro h;cases h) ?_;rintro w0 X hX ⟨(r:List Nd),_⟩ hp;change AWP _ _ _ _ _ ⟨[(0,⟨.slice nd,r⟩)],[],0⟩ _;refine vp 0 rfl fun hl=>?_;unfold maxLen at hl;have hI:∀ w R,(∀ g,R g->w0.heap.size≤g∨(ql gmH X).R g)->(ql gmH X).G w->bInv prT [107] w R 107:=fun w R hR hw=>⟨zaJ (ty:=107) hX rfl (ziF hX) (ty':=107) w R hR hw,zu.2 rfl⟩;refine za (za ?_);refine zaa hX zbK rfl ?_ ?_
 ·trivial
 refine za (za ?_);refine zaa hX zbK rfl ?_ ?_
 ·exact⟨by decide,by decide,(by decide:(3:Int)≤1000000000)⟩
 refine za (za ?_);refine zaa hX zbK rfl ?_ ?_
 ·trivial
 (repeat(first|apply zae|apply zab|apply zac|apply zad));refine yU (ι:=Nat) (fun k=>⟨[(0,⟨.slice nd,r⟩),(4,⟨.obuf cal,(0:Nat)⟩),(10,⟨i64,(3:Int)⟩),(11,⟨i64,(k:Int)⟩)],[(0,some (.buf 63 cal (zrt k)))],1⟩) (fun k=>k≤3) (fun k=>3 - k) 0 (zm _) ⟨⟨rfl,rfl,rfl,rfl,trivial⟩,⟨rfl,trivial⟩,rfl,rfl⟩ ?_;intro k hk;refine za (za ?_);refine zaa hX zbK rfl ?_ ?_
 ·trivial
 apply zae;refine zaf rfl (fun hb=>?_) (fun hb=>?_)
 ·have hb:decide ((k:Int) < 3)=true:=hb;have hb:=of_decide_eq_true hb;have z0:(0:Int)≤(k:Int):=by omega
  have z1:(k:Int)≤2:=by omega
  have z2:(k:Int) < (((zrt k).length:Nat):Int):=by show (k:Int) < ((3:Nat):Int);omega
  have z3:((k:Int)).toNat < (zrt k).length:=by show _ < 3;omega
  refine za (za ?_);refine zaa hX zbK rfl ?_ ?_
  ·trivial
  refine za (za ?_);refine zaa hX zbK rfl ?_ ?_
  ·repeat'(first|exact trivial|exact z0|exact z1|exact z2|exact z3|(refine⟨?_,?_⟩))
  refine za (za ?_);refine zaa hX zbK rfl ?_ ?_
  ·exact zaU (by omega)
  refine⟨k+1,by omega,by omega,⟨rfl,rfl,rfl,zdy _,trivial⟩,⟨bufC ?_,trivial⟩,rfl,rfl⟩;rcases (show k=0∨k=1∨k=2 by omega) with rfl|rfl|rfl<;>rfl
 have hb:decide ((k:Int) < 3)=false:=hb;have hb:=of_decide_eq_false hb;obtain rfl:k=3:=by omega
 apply zad;refine qW hX 4 ?_;refine za (za ?_);refine zaa hX zbK rfl ?_ ?_
 ·exact⟨rfl,ztH⟩
 refine za (za ?_);refine zaa hX zbK rfl ?_ ?_
 ·trivial
 refine zaf rfl (fun hb=>?_) (fun hb=>?_)
 ·have hb:(zcP r != 0)=true:=hb;have hb:=bne_iff_ne.1 hb;(repeat(first|apply zae|apply zab|apply zal|apply zad|apply zac|refine zaa hX zbK rfl trivial ?_|refine zaa hX zbK rfl id ?_|refine zaa hX zbK rfl ⟨id,id⟩ ?_));refine zq ⟨.inr rfl,zbk (by decide) rfl rfl trivial ?_⟩;show (([]:List UInt8),zcP r,())=((fmtS r).1,(fmtS r).2,());unfold fmtS;rw[if_neg hb]
 have hb:(zcP r != 0)=false:=hb;have hv:zcP r=0:=by
  have:=bne_eq_false_iff_eq.1 hb;exact this
 have hwf:=zkY hv;have hok:=zst hwf;have hsz:=znR hwf;have htx:=znQ hwf;have htl:=zgH _ hok;obtain⟨⟨w1,w2⟩,_⟩:=zds hwf;have hne:=zsu hok (by omega);apply zab;refine zaq (σ':=⟨[(0,⟨.slice nd,r⟩)],[],1⟩) ⟨⟨rfl,trivial⟩,trivial,rfl,rfl⟩ ?_;apply zae;refine zai ?_;refine yh 1 hX zbK rfl trivial ?_;refine AL.bldPr rfl rfl rfl rfl rfl ?_;refine AL.box3 hX rfl rfl rfl rfl rfl rfl rfl ?_;refine AL.nilLeaf 1 1 5 u8 rfl rfl rfl ?_;refine zV hX zbK rfl trivial ?_;have p0:(0:Int)≤((r.length:Nat):Int) - 1:=by omega
 have p1:(((r.length:Nat):Int) - 1).toNat < 65:=by omega
 have p2:(((r.length:Nat):Int) - 1).toNat < r.length:=by omega
 have hnf:zcX 65 r (((r.length:Nat):Int) - 1)=(zc4 r).text:=by
  rw[<-htx];have hlow:=zma (zds hwf).2.1;rw[show (((r.length:Nat):Int) - 1)=((r.length - 1:Nat):Int) by omega,zgM hlow _ _ (by omega) (by omega),zgM hlow _ _ (by omega) (by omega),ziM hlow 65 (r.length+1) _ (by omega) (by omega) (by omega)]
 have p3:zg ([]:List UInt8)+zg (zcX 65 r (((r.length:Nat):Int) - 1))+10000≤1000000000:=by
  rw[hnf,zY];omega
 have p4:inR .i64 (((r.length:Nat):Int) - 1):=zan (by omega) (by omega);refine zaq (σ':=⟨[(0,⟨.slice nd,r⟩),(7,⟨.hptr,((1:Nat),(0:Nat))⟩)],[(1,some (.hbox 107 [adV 1 false,⟨.obuf u8,(2:Nat)⟩,⟨.slice nd,r⟩])),(2,some (.buf 5 u8 []))],3⟩) ⟨⟨rfl,rfl,trivial⟩,⟨rfl,rfl,trivial⟩,rfl,rfl⟩ ?_;refine xD (σ':=⟨[(7,⟨.hptr,((1:Nat),(0:Nat))⟩)],[(1,some (.hbox 107 [adV 1 true,⟨.obuf u8,(2:Nat)⟩,⟨.slice nd,r⟩])),(2,some (.buf 5 u8 (zc4 r).text))],3⟩) ?_ ?_
 ·refine zai ?_;refine ym 4 hX zbK zrZ rfl p4 rfl rfl ⟨wfp_of hwf,p0,p1,p2,p3⟩ hI ?_;refine yf ?_;exact⟨⟨rfl,trivial⟩,⟨rfl,(by show some (OObj.buf _ u8 ([]++zcX 65 r _))=_;rw[yB,hnf]),trivial⟩,rfl,rfl⟩
 have hf:fmtS r=if 4000 < (zc4 r).text.length then ([],2) else ((zc4 r).text,0):=by unfold fmtS;rw[if_pos hv]
 generalize (zc4 r).text=T at hf hne;(repeat(first|apply zae|apply zab|apply zac|apply zad));refine zai ?_;refine yh 2 hX zbK rfl trivial ?_;refine jH (eqP0 _ _ rfl) hX zbK rfl trivial ?_;refine ym 0 hX zbK zrZ rfl trivial rfl rfl trivial hI ?_;refine zV hX zbK rfl trivial ?_;refine zaq (σ':=⟨[(7,⟨.hptr,((1:Nat),(0:Nat))⟩),(41,⟨.bool,decide (((T.length:Nat):Int) > 4000)⟩)],[(1,some (.hbox 107 [adV 1 true,⟨.obuf u8,(2:Nat)⟩,⟨.slice nd,r⟩])),(2,some (.buf 5 u8 T))],3⟩) ⟨⟨rfl,rfl,trivial⟩,⟨rfl,rfl,trivial⟩,rfl,rfl⟩ ?_;refine zaf rfl (fun hb=>?_) (fun hb=>?_)
 ·have hb:=of_decide_eq_true hb;(repeat(first|apply zae|apply zab|apply zal|apply zad|apply zac|refine zaa hX zbK rfl trivial ?_|refine zaa hX zbK rfl id ?_|refine zaa hX zbK rfl ⟨id,id⟩ ?_));refine zq ⟨.inr rfl,zbk (by decide) rfl rfl trivial ?_⟩;show (([]:List UInt8),(2:Int),())=((fmtS r).1,(fmtS r).2,());rw[hf,if_pos (by omega)]
 ·have hb:=of_decide_eq_false hb;apply zab;(repeat(first|apply zae|apply zab|apply zac|apply zad));refine zai ?_;refine yh 2 hX zbK rfl trivial ?_;refine jH (eqP0 _ _ rfl) hX zbK rfl trivial ?_;refine AL.give hX (zjQ prT rfl [107]) rfl rfl rfl rfl rfl rfl rfl rfl rfl rfl rfl rfl trivial hne hI rfl rfl ?_;show AL _ _ _ _ _ _ _ _;refine zV hX zbK rfl trivial ?_;refine zq ⟨.inr rfl,zbk (by decide) rfl rfl trivial ?_⟩;show (T,(0:Int),())=((fmtS r).1,(fmtS r).2,());rw[hf,if_neg (by omega)]
end
section
attribute [local go_sem] Oper.semAt_some
set_option maxHeartbeats 1000000 in
theorem zh4 (s:ByteArray) (c:Int) (w:zj):
  Calls Tryz.prog 217 #[.string s,.int .u8 c] w fun e w'=>e= .returned (.int .i64 (xi s.data.toList c.toNat.toUInt8))∧w'=w:=by
 go_enter Tryz.func217,Tryz.ntmps217
 go_wp2
 rw[run_callFunc_extern Tryz.func244 (by kernel_rfl) (by kernel_rfl) (by kernel_rfl) (e:=uo) (by kernel_rfl),Lib.run_indexByteString];simp only[Result.andThen];rw[Oper.upon_value]
 go_wp2
 go_ret
 exact⟨rfl,rfl⟩
theorem zs7 (l:List UInt8) (c:UInt8):(xi l c= -1∧∀ x∈l,x≠c)∨∃ n:Nat,xi l c=(n:Int)∧n < l.length∧(∀ x∈l.take n,x≠c)∧l.drop n=c::l.drop (n+1):=by
 induction l with
 |nil=>exact .inl ⟨rfl,by simp⟩
 |cons b l ih=>
  unfold xi;by_cases h:b=c
  ·refine .inr ⟨0,by rw[if_pos (by simp[h])];rfl,by simp,by simp,by simp[h]⟩
  ·rw[if_neg (by simp[h])];rcases ih with ⟨h1,h2⟩|⟨n,h1,h2,h3,h4⟩
   ·refine .inl ⟨by rw[h1];rfl,fun x hx=>?_⟩;rcases zX.1 hx with rfl|hx
    ·exact h
    ·exact h2 x hx
   ·refine .inr ⟨n+1,?_,by simp;omega,fun x hx=>?_,by simpa using h4⟩
    ·rw[h1,if_neg (by simp)];omega
    ·rw[vz]at hx;rcases zX.1 hx with rfl|hx
     ·exact h
     ·exact h3 x hx
def segF:List UInt8->List UInt8->List (List UInt8)
 |c,[]=>[c]
 |c,x::r=>if x=10 then c::segF [] r else segF (c++ [x]) r
def segs (s:List UInt8):List (List UInt8):=segF [] s
set_option maxHeartbeats 1000000 in
theorem zk5 (s:ByteArray) (c:UInt8) (w:zj):
  Calls Tryz.prog 184 #[.string s,.string ⟨#[c]⟩] w fun e w'=>e= .returned (.int .i64 (xi s.data.toList c))∧w'=w:=by
 go_enter Tryz.func184,Tryz.ntmps184
 go_wp2_with (go_at_call 217;refine (zh4 s _ _).mono ?_;rintro e w' ⟨rfl,rfl⟩)
 ·rename_i hs
  go_ret
  rw[ByteArray.toList_eq]at hs;have hs:=eq_of_beq hs;refine⟨?_,rfl⟩;rw[<-hs];show u6 (.int .i64 0)=u6 (.int .i64 (xi [c] c));unfold xi;rw[if_pos (by simp)]
 ·go_ret
  exact⟨rfl,rfl⟩
set_option maxHeartbeats 1000000 in
theorem ziQ (s:ByteArray) (c:UInt8) (w:zj):
  Calls Tryz.prog 147 #[.string s,.string ⟨#[c]⟩] w fun e w'=>e= .returned (.int .i64 (xi s.data.toList c))∧w'=w:=by
 go_enter Tryz.func147,Tryz.ntmps147
 go_wp2_with (go_at_call 184;refine (zk5 s c _).mono ?_;rintro e w' ⟨rfl,rfl⟩)
 go_ret
 exact⟨rfl,rfl⟩
def itV (w:zj):zh:=.func (.func 145) #[] #[.pointer (some ⟨w.heap.size+1,0,none⟩),.pointer (some ⟨w.heap.size,0,none⟩),.pointer (some ⟨w.heap.size+1+1,0,none⟩)]
def itW (w:zj) (s p:ByteArray):zj:=((w.alloc (.cells #[.string s] 9)).alloc (.cells #[.string p] 9)).alloc (.cells #[.int .i64 0] 3)
set_option maxHeartbeats 1000000 in
theorem zh0 (s p:ByteArray) (w:zj):Calls Tryz.prog 85 #[.string s,.string p,.int .i64 0] w fun e w'=>e= .returned (itV w)∧w'=itW w s p:=by
 go_enter Tryz.func85,Tryz.ntmps85
 go_wp2
 go_ret
 refine⟨?_,rfl⟩;unfold itV;simp
set_option maxHeartbeats 1000000 in
theorem ziS (s p:ByteArray) (w:zj):Calls Tryz.prog 50 #[.string s,.string p] w fun e w'=>e= .returned (itV w)∧w'=itW w s p:=by
 go_enter Tryz.func50,Tryz.ntmps50
 go_wp2_with (go_at_call 85;refine (zh0 s p _).mono ?_;rintro e w' ⟨rfl,rfl⟩)
 go_ret
 exact⟨rfl,rfl⟩
end
end Go.Proofs.YtpeaigpfddalcaaGreatDoor
