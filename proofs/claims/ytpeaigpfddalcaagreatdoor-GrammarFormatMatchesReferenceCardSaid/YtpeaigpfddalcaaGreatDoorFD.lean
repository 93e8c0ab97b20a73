/-
  Texts of this claim, joined: what the statement's proof uses.
-/
import Derived.Test.YtpeaigpfddalcaaGreatDoorFC
set_option linter.unusedSimpArgs false
set_option linter.unusedVariables false
set_option maxRecDepth 100000
open BitVec renaming ofInt -> yP,ofNat -> yb
open Bool renaming and_eq_false_iff -> qM,and_eq_true -> zf,and_false -> xv,and_true -> ud,eq_false_iff -> qa,eq_iff_iff -> zL,false_and -> jg,false_ne_true -> zF,false_or -> yE,not_eq_false' -> xe,not_eq_true' -> zr,or_eq_false_iff -> xD,or_eq_true -> zY,or_eq_true_iff -> vC,or_false -> yM,or_true -> yJ,true_and -> xr,true_or -> xd
open Go.Lib renaming decDigits -> yy,itoa -> kD
open Go.Operand renaming const -> ku
open Go.Proofs.YtpeaigpfddalcaaGreatDoor renaming CtrOk -> yk
open Go.Proofs.YtpeaigpfddalcaaGreatDoor.AWP renaming frz -> qx,go -> za,len -> ju,loop -> yi,ret -> zl,viaQ -> je
open Go.Proofs.YtpeaigpfddalcaaGreatDoor.OpEq renaming refl -> xI
open Go.Proofs.YtpeaigpfddalcaaGreatDoor.StepA renaming eval -> xp
open Go.Proofs.YtpeaigpfddalcaaGreatDoor.Tok renaming cls -> zQ,text -> zR
open Go.Utf8 renaming decode -> kY
open Go.Value renaming int -> yB
open Int renaming add_mul_emod_self_left -> vX,emod_eq_of_lt -> qU,le_refl -> xL,natCast_nonneg -> zd,ofNat_tdiv -> vW,tmod_lt_of_pos -> ut,toNat_natCast -> zz,toNat_of_nonneg -> xz,zero_add -> uF
open List renaming all_eq_true -> zM,any_eq_false -> vf,any_eq_true -> vp,append_assoc -> zu,append_nil -> zS,drop_eq_getElem_cons -> yG,drop_left -> qE,drop_length -> jf,findIdx_getElem -> kX,foldl_append -> uG,getD_eq_getElem?_getD -> zx,getElem?_append_right -> qI,getElem?_eq_getElem -> zA,getElem?_set -> uH,getElem_mem -> yZ,length -> zg,length_append -> zh,length_cons -> zs,length_map -> jV,length_pos_iff -> jc,length_take -> yC,map_append -> xQ,mem_append -> yT,mem_cons -> yg,mem_cons_of_mem -> xc,mem_cons_self -> yw,mem_of_mem_take -> ql,mem_range -> ym,mem_singleton -> zy,mem_take_iff_getElem -> qb,nil_append -> yV,range -> yK,replicate -> zJ,set_append_right -> vj,takeWhile_append_of_pos -> jp,takeWhile_cons -> qt,take_left -> qi,take_length -> xx,take_succ_eq_append_getElem -> zH
open Nat renaming gcd -> yS,gcd_comm -> kM,gcd_pos_of_pos_right -> ks,lcm -> xR,le_of_ble_eq_true -> zb,le_refl -> zk,mod_eq_of_lt -> xV,mod_lt -> uj,mul_div_cancel_left -> kE,not_lt_zero -> yN,zero_add -> yF,zero_le -> zn
open Option.some renaming inj -> zZ
open UInt8 renaming le_iff_toNat_le -> xh,ofNat -> yf,ofNat_toNat -> kh
open Go Go.RowKit
namespace Go.Proofs.YtpeaigpfddalcaaGreatDoor
section
theorem zm8 (l:List Int) (n:Int):zcg (l++ [n])=zcg l++32::deI n:=by
 unfold zcg;rw[xQ,List.flatten_append];simp
theorem zbK {l:List Int} (h:∀ n∈l,zbR n):(zcg l).length≤19 * l.length:=by
 induction l with
 |nil=>exact zk _
 |cons n l ih=>
  have h1:=zc9 (h n (yw ..)).1 (h n (yw ..)).2;have h2:=ih fun m hm=>h m (xc _ hm);show ((32::deI n)++zcg l).length≤_;rw[zh,zs,zs];omega
def kPt:Kn:={ gmK with C:=[(149,cItoa)] }
theorem zcs:KnOk Tryz.prog gmH kPt:=zaj.with (.cons ztb .nil)
def hPt:List (FuncId×HCtr):=[(66,cWSP)]
theorem zmd:HsOk Tryz.prog gmH hPt:=.cons zh9 .nil
@[reducible] def cPut:HCtr:=hW [.str,ints] (fun x xs=>[zg x.2.1+zg xs.1+19 * zg xs.2.1≤1000000000,∀ n∈xs.2.1,zbR n]) fun x xs=>putS xs.1 xs.2.1
theorem bufU {te:TypeId} {x y:List UInt8} (h:x=y):some (OObj.buf te u8 x)=some (OObj.buf te u8 y):=by rw[h]
theorem zou:zaE Tryz.prog gmH 100 cPut:=by
 refine zaw (K:=_) zcs Tryz.func100 rfl rfl (zcC rfl) Tryz.call100 rfl (zb rfl) (zdJ prT [107]) ?_;rintro w0 ⟨G,O,K,fix,D,ρ,B⟩ ty hX hG hK hρ hD hinv ⟨(b:Bool),(bf:List UInt8),(r:List Nd),⟨⟩⟩ ⟨(s:List UInt8),(l:List Int),⟨⟩⟩ hp;obtain rfl:G=gmH:=hG;obtain rfl:K=1:=hK;obtain rfl:ρ=none:=hρ;obtain rfl:D=[]:=hD;have hI:=fun w R hR hw=>(⟨zaJ (ty:=ty) hX rfl hinv.1 (ty':=ty) w R hR hw,hinv.2⟩:bInv prT [107] w R ty);obtain⟨hlen,hnum⟩:bf.length+s.length+19 * l.length≤1000000000∧∀ n∈l,zbR n:=hp;change AWP _ _ _ _ _ ⟨[(0,⟨.hptr,((0:Nat),(0:Nat))⟩),(1,⟨.str,s⟩),(2,⟨.slice i64,l⟩)],wE ty b bf r,2⟩ (wQ _ cPut ty (.ok ((),(true,((bf++(s++zcg l):List UInt8),(r,()))))));have hl0:bf.length+s.length≤1000000000:=by omega
 refine AWP.via (σ':=⟨[(0,⟨.hptr,((0:Nat),(0:Nat))⟩),(2,⟨.slice i64,l⟩)],wE ty true ((bf++s:List UInt8)) r,2⟩) ?_ ?_
 ·cases b
  all_goals
   refine zak ?_;refine AL.take 2 hX zcs rfl trivial ?_;refine AL.step (eqP0 _ _ rfl) hX zcs rfl trivial ?_;refine AL.own 1 hX zcs zmd rfl trivial rfl rfl hl0 hI ?_;exact AL.nil ⟨⟨rfl,rfl,trivial⟩,⟨rfl,rfl,trivial⟩,rfl,rfl⟩
 refine za (za ?_);refine zaa hX zcs rfl ?_ ?_
 ·trivial
 apply zac;refine yi (ι:=Nat) (fun i=>⟨[(0,⟨.hptr,((0:Nat),(0:Nat))⟩),(13,⟨.slice i64,l⟩),(14,⟨i64,((l.length:Nat):Int)⟩),(15,⟨i64,(i:Int)⟩)],wE ty true ((bf++s++zcg (l.take i):List UInt8)) r,2⟩) (fun i=>i≤l.length) (fun i=>l.length - i) 0 (zn _) ⟨⟨rfl,rfl,rfl,rfl,trivial⟩,⟨rfl,bufU (by show bf++s=bf++s++ [];rw[zS]),trivial⟩,rfl,rfl⟩ ?_;intro i hi;refine za (za ?_);refine zaa hX zcs rfl ?_ ?_
 ·trivial
 apply zaf;refine zae rfl (fun hb=>?_) (fun hb=>?_)
 ·have hb:decide ((i:Int) < ((l.length:Nat):Int))=true:=hb;have hb:=of_decide_eq_true hb;have hil:i < l.length:=by omega
  have n0:(0:Int)≤(i:Int):=by omega
  have hat:l.getD ((i:Int)).toNat 0=l[i]:=za4 hil;have hn:zbR (l.getD ((i:Int)).toNat 0):=by rw[hat];exact hnum _ (yZ hil)
  have hd:=zc9 hn.1 hn.2;have ht:zg (l.take i)≤i:=by rw[yC];omega
  have hnt:=zbK (l:=l.take i) fun n hm=>hnum n (ql hm);have hbl:zg (bf++s++zcg (l.take i):List UInt8)+zg (32::deI (l.getD ((i:Int)).toNat 0):List UInt8)≤1000000000:=by
   rw[zh,zh,zs];omega
  have hcat:1+zg (deI (l.getD ((i:Int)).toNat 0))≤maxLen:=by unfold maxLen;omega
  apply zab;apply zaf;apply zac;refine za (za ?_);refine zaa hX zcs rfl ?_ ?_
  ·exact⟨n0,hb⟩
  refine AWP.mono (Q:=fun e sg=>e= .normal∧Fit sg ⟨[(0,⟨.hptr,((0:Nat),(0:Nat))⟩),(13,⟨.slice i64,l⟩),(14,⟨i64,((l.length:Nat):Int)⟩),(15,⟨i64,(i:Int)⟩)],wE ty true ((bf++s++zcg (l.take i)++(32::deI (l.getD ((i:Int)).toNat 0)):List UInt8)) r,2⟩) ?_ ?_
  ·refine AWP.ordersA dM 7 rfl (by kernel_rfl) ?_
   repeat'(first
    |exact AllN.nil
    |refine AllN.cons ⟨_,rfl,?_⟩ ?_
    |refine xp hX zcs rfl trivial ?_
    |refine xp hX zcs rfl (by exact hn) ?_
    |refine xp hX zcs rfl (by exact hcat) ?_
    |refine StepA.step (eqP0 _ _ rfl) hX zcs rfl trivial ?_
    |refine StepA.own hX zmd rfl (by exact hbl) hI ?_
    |(refine OrdA.last ?_;exact⟨rfl,⟨rfl,rfl,rfl,rfl,trivial⟩,⟨rfl,rfl,trivial⟩,rfl,rfl⟩))
  ·rintro e s' ⟨rfl,hf⟩;have q0:inR .i64 ((i:Int)+1):=zam (by omega) (by omega);refine zap hf ?_ (by exact zb rfl);refine za (za ?_);refine zaa hX zcs rfl ?_ ?_
   ·exact q0
   refine⟨i+1,hil,by omega,⟨rfl,rfl,rfl,vI64 (by omega),trivial⟩,⟨rfl,bufU ?_,trivial⟩,rfl,rfl⟩;rw[hat,zH hil,zm8, <-zu]
 ·have hb:decide ((i:Int) < ((l.length:Nat):Int))=false:=hb;have hb:=of_decide_eq_false hb;obtain rfl:i=l.length:=by omega
  rw[show (bf++(s++zcg l):List UInt8)=bf++s++zcg (l.take l.length) from by rw[xx,zu]];apply zad;exact⟨.inl rfl,⟨_,rfl,u8,1,_,rfl,rfl,rfl⟩,za1 (by decide) rfl rfl trivial rfl⟩
section
variable {P:Program} {K:Kn} {w0:World} {X:Ownr} {n:Nat} {σ:AS} {Q:Exit->AS->Prop} {ops:Array Oper}
theorem AWP.drawT {l':List Oper} (heq':OpsI P ops.toList l') (hm:P.follows .mixedOrders=true) (hX:X.Ok w0) (hK:KnOk P X.G K) {id:Nat} (m:Nat) (hB:zkh l'.toArray m=true) {r1:List Prop×AS} (h1:zh8 K n l'.toArray (l'.take m) σ=some r1) (hp1:allP r1.1) {o:Oper} (ho:l'.drop m=[o]) (hgd:o.guard=none)
  (hstep:∀ β a w,Sim w0 X n r1.2 β a w->o.wp P a w (fun a' w'=>∃ σ' β',Sim w0 X n σ' β' a' w'∧Q .normal σ') (fun e a' w'=>e≠ .outgrown∧∃ σ' β',Sim w0 X n σ' β' a' w'∧Q e σ')) (hd:zbo ops.toList=true:=by rfl):AWP P w0 X n (.region id ops true) σ Q:=fun β a w h=>by
 have heq:OpsEq P ops.toList l'.toArray.toList:=heq'.eq;have hnl:¬ LetsOut (fun e a' w'=>e≠ .outgrown∧∃ σ' β',Sim w0 X n σ' β' a' w'∧Q e σ'):=fun⟨_,_,h,_⟩=>h rfl;exact Go.wpIn_mono (wpIn_region_any hm (zbu (R:=fun e a' w'=>e≠ .outgrown∧∃ σ' β',Sim w0 X n σ' β' a' w'∧Q e σ') hnl hd _ (by
  rw[(zi2 heq).1];exact zmF heq hnl _ (zkt hK hX h hB h1 hp1 fun a' w' hs=>by
   rw[show (l'.toArray.toList).drop m=[o] from ho];refine wpList_plain hgd fun K' hK'=>Oper.wp_mono (fun a2 w2 ⟨σ',β',h3,h4⟩=>hK' a2 w2 ⟨(fun h=>by cases h),σ',β',h3,h4⟩) (hstep β a' w' hs))))) fun e a w h=>h.2
theorem AWP.drawOwn {C:List (FuncId×HCtr)} {l':List Oper} (heq':OpsI P ops.toList l') (hm:P.follows .mixedOrders=true) (hX:X.Ok w0) (hK:KnOk P X.G K) (hC:HsOk P X.G C) {id:Nat} (m:Nat) (hB:zkh l'.toArray m=true) {r1:List Prop×AS} (h1:zh8 K n l'.toArray (l'.take m) σ=some r1) (hp1:allP r1.1) {o:Oper} (ho:l'.drop m=[o]) (hgd:o.guard=none)
  {s:HSite} (hsite:znm C n o r1.2=some s) (hq:allP s.q) (hinv:∀ w R,(∀ g,R g->w0.heap.size≤g∨X.R g)->X.G w->s.c.inv w R s.ty) (h:zlE (fun y x'=>Q .normal (s.next y x')) (fun pv=>Q (.panic [{ v:=pv,recovered:=false }]) s.lost) (s.c.out s.x s.xs)) (hd:zbo ops.toList=true:=by rfl):AWP P w0 X n (.region id ops true) σ Q:=
 AWP.drawT heq' hm hX hK m hB h1 hp1 ho hgd (fun β a w hsim=>zjb (N:=fun σ'=>Q .normal σ') hX hC hsite hq hinv h β a w hsim) hd
end
def sepS (i:Nat):List UInt8:=if i=0 then [32,40] else [32]
def litS:Nat->List Int->List UInt8
 |_,[]=>[]
 |i,n::r=>sepS i++deI n++litS (i+1) r
def zch (l:List Int):List UInt8:=litS 0 l++ [41]
theorem zhl (n:Int):∀ (l:List Int) (i:Nat),litS i (l++ [n])=litS i l++(sepS (i+l.length)++deI n)
 | [],i=>by
  show sepS i++deI n++ []=[]++(sepS (i+0)++deI n);rw[zS];rfl
 |m::l,i=>by
  show sepS i++deI m++litS (i+1) (l++ [n])=sepS i++deI m++litS (i+1) l++_;rw[zhl n l (i+1),zu (sepS i++deI m),zs,show i+1+l.length=i+(l.length+1) by omega]
theorem zlL (i:Nat):(sepS i).length≤2:=by
 unfold sepS;split
 ·exact zk _
 ·exact Nat.le_succ _
theorem zeI:∀ (l:List Int) (i:Nat),(∀ n∈l,zbR n)->(litS i l).length≤20 * l.length
 | [],i,_=>zk _
 |n::l,i,h=>by
  have h1:=zc9 (h n (yw ..)).1 (h n (yw ..)).2;have h2:=zeI l (i+1) fun m hm=>h m (xc _ hm);have h3:=zlL i;show (sepS i++deI n++litS (i+1) l).length≤_;rw[zh,zh,zs];omega
@[reducible] def zmy:HCtr:=hW [ints] (fun x xs=>[zg x.2.1+20 * zg xs.1+1≤1000000000,∀ n∈xs.1,zbR n]) fun x xs=>zch xs.1
theorem zl4:zaE Tryz.prog gmH 150 zmy:=by
 refine zaw (K:=_) zcs Tryz.func150 rfl rfl (zcC rfl) Tryz.call150 rfl (zb rfl) (zdJ prT [107]) ?_;rintro w0 ⟨G,O,K,fix,D,ρ,B⟩ ty hX hG hK hρ hD hinv ⟨(b:Bool),(bf:List UInt8),(r:List Nd),⟨⟩⟩ ⟨(l:List Int),⟨⟩⟩ hp;obtain rfl:G=gmH:=hG;obtain rfl:K=1:=hK;obtain rfl:ρ=none:=hρ;obtain rfl:D=[]:=hD;have hI:=fun w R hR hw=>(⟨zaJ (ty:=ty) hX rfl hinv.1 (ty':=ty) w R hR hw,hinv.2⟩:bInv prT [107] w R ty);obtain⟨hlen,hnum⟩:bf.length+20 * l.length+1≤1000000000∧∀ n∈l,zbR n:=hp;change AWP _ _ _ _ _ ⟨[(0,⟨.hptr,((0:Nat),(0:Nat))⟩),(1,⟨.slice i64,l⟩)],wE ty b bf r,2⟩ (wQ _ zmy ty (.ok ((),(true,((bf++zch l:List UInt8),(r,()))))));refine za (za ?_);refine zaa hX zcs rfl ?_ ?_
 ·trivial
 apply zac;refine yi (ι:=Nat) (fun i=>⟨[(0,⟨.hptr,((0:Nat),(0:Nat))⟩),(6,⟨.slice i64,l⟩),(7,⟨i64,((l.length:Nat):Int)⟩),(8,⟨i64,(i:Int)⟩)],wE ty (b||decide (0 < i)) ((bf++litS 0 (l.take i):List UInt8)) r,2⟩) (fun i=>i≤l.length) (fun i=>l.length - i) 0 (zn _) ⟨⟨rfl,rfl,rfl,rfl,trivial⟩,⟨by cases b<;>rfl,bufU (by show bf=bf++ [];rw[zS]),trivial⟩,rfl,by cases b<;>rfl⟩ ?_;intro i hi;obtain⟨b',hb'⟩:∃ b',b'=(b||decide (0 < i)):=⟨_,rfl⟩;rw[<-hb'];refine za (za ?_);refine zaa hX zcs rfl ?_ ?_
 ·trivial
 apply zaf;refine zae rfl (fun hb=>?_) (fun hb=>?_)
 ·have hb:decide ((i:Int) < ((l.length:Nat):Int))=true:=hb;have hb:=of_decide_eq_true hb;have hil:i < l.length:=by omega
  have n0:(0:Int)≤(i:Int):=by omega
  have hat:l.getD ((i:Int)).toNat 0=l[i]:=za4 hil;have hn:zbR (l.getD ((i:Int)).toNat 0):=by rw[hat];exact hnum _ (yZ hil)
  have hd:=zc9 hn.1 hn.2;have ht:zg (l.take i)=i:=by rw[yC];omega
  have hnt:=zeI (l.take i) 0 fun n hm=>hnum n (ql hm);have hs:=zlL i;have hbl:zg (bf++litS 0 (l.take i):List UInt8)+zg (sepS i++deI (l.getD ((i:Int)).toNat 0):List UInt8)≤1000000000:=by
   rw[zh,zh];omega
  apply zab;apply zaf;apply zac;refine za (za ?_);refine zaa hX zcs rfl ?_ ?_
  ·exact⟨n0,hb⟩
  refine AWP.mono (Q:=fun e sg=>e= .normal∧Fit sg ⟨[(0,⟨.hptr,((0:Nat),(0:Nat))⟩),(6,⟨.slice i64,l⟩),(7,⟨i64,((l.length:Nat):Int)⟩),(8,⟨i64,(i:Int)⟩)],wE ty true ((bf++litS 0 (l.take i)++(sepS i++deI (l.getD ((i:Int)).toNat 0)):List UInt8)) r,2⟩) ?_ ?_
  ·have hsep:([[32,40],[32]]:List (List UInt8)).getD (min (i:Int) 1).toNat []=sepS i:=by
    cases i with
    |zero=>rfl
    |succ k=>
     rw[show min (((k+1:Nat)):Int) 1=1 by omega];rfl
   have m0:(0:Int)≤min (i:Int) 1:=by omega
   have m1:min (i:Int) 1 < ((2:Nat):Int):=by omega
   have m2:(min (i:Int) 1).toNat < 2:=by omega
   have hcat:zg (([[32,40],[32]]:List (List UInt8)).getD (min (i:Int) 1).toNat [])+zg (deI (l.getD ((i:Int)).toNat 0))≤maxLen:=by rw[hsep];unfold maxLen;omega
   have hbl2:zg (bf++litS 0 (l.take i):List UInt8)+zg (([[32,40],[32]]:List (List UInt8)).getD (min (i:Int) 1).toNat []++deI (l.getD ((i:Int)).toNat 0):List UInt8)≤1000000000:=by rw[hsep];exact hbl
   rw[<-hsep];cases b'
   all_goals
    refine AWP.drawOwn (.cons (xI _) <| .cons (xI _) <| .cons (eqP0 _ _ rfl) <| .cons (xI _) <| .cons (xI _) <| .cons (xI _) <| .cons (xI _) <| .cons (xI _) <| .cons (xI _) <| .cons (xI _) <| .cons (xI _) <| .cons (xI _) .nil) dM hX zcs zmd 11 (by kernel_rfl) rfl ?_ rfl rfl rfl ?_ hI ?_
    ·exact⟨m0,m1,hn,hcat⟩
    ·exact hbl2
    ·exact⟨rfl,⟨rfl,rfl,rfl,rfl,trivial⟩,⟨rfl,rfl,trivial⟩,rfl,rfl⟩
  ·rintro e s' ⟨rfl,hf⟩;have q0:inR .i64 ((i:Int)+1):=zam (by omega) (by omega);have ht1:(b||decide (0 < i+1))=true:=by simp
   refine zap hf ?_ (by exact zb rfl);refine za (za ?_);refine zaa hX zcs rfl ?_ ?_
   ·exact q0
   refine⟨i+1,hil,by omega,?_⟩;rw[ht1];refine⟨⟨rfl,rfl,rfl,vI64 (by omega),trivial⟩,⟨rfl,bufU ?_,trivial⟩,rfl,rfl⟩;rw[hat,zH hil,zhl,ht,yF,zu]
 ·have hb:decide ((i:Int) < ((l.length:Nat):Int))=false:=hb;have hb:=of_decide_eq_false hb;obtain rfl:i=l.length:=by omega
  have hnt:=zeI (l.take l.length) 0 fun n hm=>hnum n (ql hm);have hlt:=xx (l:=l);rw[hlt]at hnt;have hbl:zg (bf++litS 0 (l.take l.length):List UInt8)+zg ([41]:List UInt8)≤1000000000:=by
   rw[hlt,zh];show bf.length+_+1≤_;omega
  rw[show (bf++zch l:List UInt8)=bf++litS 0 (l.take l.length)++ [41] from by rw[hlt,zu];rfl];apply zad;cases b'
  all_goals
   show AWP _ _ _ _ _ _ _;refine zak ?_;refine AL.take 2 hX zcs rfl trivial ?_;refine AL.step (eqP0 _ _ rfl) hX zcs rfl trivial ?_;refine AL.own 0 hX zcs zmd rfl trivial rfl rfl hbl hI ?_;refine AL.nil ?_;exact⟨.inl rfl,⟨_,rfl,u8,1,_,rfl,rfl,rfl⟩,za1 (by decide) rfl rfl trivial rfl⟩
def wAt:List UInt8:=[64]
def spW (w:List UInt8):List UInt8:=32::w
def ndK (n:Nd):Int:=n.1
def ndC (n:Nd):Int:=n.2.1
def ndL (n:Nd):Int:=n.2.2.1
def ndR (n:Nd):Int:=n.2.2.2.1
def ndN (n:Nd):Int:=n.2.2.2.2.1
def ndM (n:Nd):Int:=n.2.2.2.2.2.1
def ndI (n:Nd):List Int:=n.2.2.2.2.2.2.1
def ndS (n:Nd):List UInt8:=n.2.2.2.2.2.2.2.1
def zcJ (n:Nd):List UInt8:=
 if ndK n=1 then putS ziK [ndN n,ndM n]
 else if ndK n=2 then putS zfg [ndC n,ndN n,ndM n]
 else if ndK n=3 then putS zcy [ndC n]++zch (ndI n)
 else if ndK n=4 then putS za7 [ndC n]++zch (ndI n)
 else if ndK n=5 then putS zbm []++zch (ndI n)
 else if ndK n=6 then putS zdk [ndC n]++zch (ndI n)
 else if ndK n=7 then putS wNth [ndC n,ndN n,ndM n]++putS (zcr (ndL n)) []
 else if ndK n=18 then putS (wAt++ndS n) []
 else []
def zcc (b:List UInt8) (n:Nd):List UInt8:=
 if ndK n=11 then putS (spW zeS) [ndN n]
 else if ndK n=12 then putS (spW zhS) [ndN n]
 else if ndK n=13 then putS (spW zeR) [ndN n]
 else if ndK n=14 then putS (spW ze1) []++zch (ndI n)
 else if ndK n=15 then putS (spW zcz) []++zch (ndI n)
 else if ndK n=16 then putS (spW wPos) [ndC n]++(putS (zcr (ndM n)) []++zch (ndI n))
 else if ndK n=17 then putS (spW zbG) [ndN n]++(putS (spW wOf++ [32]) []++b)
 else []
def opWd (x:Int):List UInt8:=(opsL.getD (x - 1).toNat ([],0,())).1
def zao (r:List Nd) (i:Int):Nd:=r.getD i.toNat zNd
def parS (c:Bool) (t:List UInt8):List UInt8:=if c then t else [40]++(t++ [41])
def zaT:Nat->List Nd->Int->List UInt8
 |0,_,_=>[]
 |k+1,r,i=>
  if levS (ndK (zao r i)) < 4 then
   parS (decide (levS (ndK (zao r (ndL (zao r i))))≥levS (ndK (zao r i)))) (zaT k r (ndL (zao r i)))++(putS ([32]++opWd (levS (ndK (zao r i)))++ [32]) []++parS (decide (levS (ndK (zao r (ndR (zao r i))))≥levS (ndK (zao r i))+1)) (zaT k r (ndR (zao r i))))
  else if levS (ndK (zao r i))=4 then
   parS (decide (levS (ndK (zao r (ndL (zao r i))))≥4)) (zaT k r (ndL (zao r i)))++zcc (parS (decide (levS (ndK (zao r (ndR (zao r i))))≥5)) (zaT k r (ndR (zao r i)))) (zao r i)
  else zcJ (zao r i)
def opdF (k:Nat) (r:List Nd) (i req:Int):List UInt8:=parS (decide (levS (ndK (zao r i))≥req)) (zaT k r i)
def zkG (n:Nd):Prop:=(zbR (ndC n)∧zbR (ndN n)∧zbR (ndM n))∧(∀ x∈ndI n,zbR x)∧(ndI n).length≤100∧(ndS n).length≤100∧(ndK n=7->0≤ndL n∧ndL n≤1)∧(ndK n=16->0≤ndM n∧ndM n≤1)
def idx {α:Type} (f:α->Bool) (l:List α):Int:=if l.findIdx f < l.length then (l.findIdx f:Int) else -1
theorem zmb {α:Type} {f:α->Bool} {l:List α} (h:∀ k (hk:k < l.length),f l[k]=false):idx f l= -1:=by
 unfold idx;rw[if_neg];intro hl;have:=kX (w:=hl);rw[h _ hl]at this;cases this
theorem zma {α:Type} {f:α->Bool} {l:List α} {k:Nat} (hk:k < l.length) (h:f l[k]=true) (hb:∀ j (hj:j < k),f (l[j]'(Nat.lt_trans hj hk))=false):idx f l=(k:Int):=by
 have:l.findIdx f=k:=by
  rw[List.findIdx_eq hk];exact⟨h,fun j hj=>hb j hj⟩
 unfold idx;rw[this,if_pos hk]
theorem zpj {α:Type} (f:α->Bool) (l:List α):decide (idx f l≥0)=l.any f:=by
 rw[zL,decide_eq_true_iff,vp];unfold idx;constructor
 ·intro h;split at h
  ·rename_i hl;exact⟨l[l.findIdx f],yZ hl,kX (w:=hl)⟩
  ·omega
 ·rintro ⟨x,hx,hf⟩;rw[if_pos (List.findIdx_lt_length_of_exists ⟨x,hx,hf⟩)];omega
def inB (n lo hi:Int):Bool:=decide (lo≤n)&&decide (n≤hi)
def zbp:Ctr:={ args:=[i64,i64,i64],pre:=fun _=>[],res:=.bool,own:=none,out:=fun x=>inB x.1 x.2.1 x.2.2.1 }
theorem zjw:yk Tryz.prog gmH 119 zbp:=by
 refine zal (K:=gmK) zaj Tryz.func119 rfl rfl Tryz.call119 rfl (by decide) (by intro h;cases h) ?_;rintro w0 X hX ⟨(n:Int),(lo:Int),(hi:Int),_⟩ hp;change AWP _ _ _ _ _ ⟨[(0,⟨i64,n⟩),(1,⟨i64,lo⟩),(2,⟨i64,hi⟩)],[],0⟩ _;refine za (za ?_);refine zaa hX zaj rfl ?_ ?_
 ·trivial
 refine za (za ?_);refine zaa hX zaj rfl ?_ ?_
 ·repeat'(first|exact trivial|assumption|(refine⟨?_,?_⟩)|(intro _))
 refine zl ⟨.inr rfl,zas rfl trivial rfl rfl ?_⟩;show (bif decide (lo≤n) then decide (n≤hi) else false)=inB n lo hi;unfold inB;cases decide (lo≤n)<;>rfl
def not1 (n:Int):Bool:=!(n==1)
def cNot1:Ctr:={ args:=[i64],pre:=fun _=>[],res:=.bool,own:=none,out:=fun x=>not1 x.1 }
theorem zsS:yk Tryz.prog gmH 124 cNot1:=by
 refine zal (K:=gmK) zaj Tryz.func124 rfl rfl Tryz.call124 rfl (by decide) (by intro h;cases h) ?_;rintro w0 X hX ⟨(n:Int),_⟩ hp;change AWP _ _ _ _ _ ⟨[(0,⟨i64,n⟩)],[],0⟩ _;(repeat(first|apply zaf|apply zab|apply zai|apply zad|apply zac|refine zaa hX zaj rfl trivial ?_|refine zaa hX zaj rfl id ?_|refine zaa hX zaj rfl ⟨id,id⟩ ?_));refine zl ⟨.inr rfl,zas rfl trivial rfl rfl ?_⟩;rfl
def bigN (n:Nd):Bool:=decide (((n.2.2.2.2.2.2.1.length:Nat):Int) > 64)||decide (((n.2.2.2.2.2.2.2.1.length:Nat):Int) > 32)
def cBigN:Ctr:={ args:=[nd],pre:=fun _=>[],res:=.bool,own:=none,out:=fun x=>bigN x.1 }
theorem ztV:yk Tryz.prog gmH 70 cBigN:=by
 refine zal (K:=gmK) zaj Tryz.func70 rfl rfl Tryz.call70 rfl (by decide) (by intro h;cases h) ?_;rintro w0 X hX ⟨(n:Nd),_⟩ hp;change AWP _ _ _ _ _ ⟨[(0,⟨nd,n⟩)],[],0⟩ _;refine za (za ?_);refine zaa hX zaj rfl ?_ ?_
 ·trivial
 refine za (za ?_);refine zaa hX zaj rfl ?_ ?_
 ·repeat'(first|exact trivial|assumption|(refine⟨?_,?_⟩)|(intro _))
 refine zl ⟨.inr rfl,zas rfl trivial rfl rfl ?_⟩;show (bif decide (((n.2.2.2.2.2.2.1.length:Nat):Int) > 64) then true else decide (((n.2.2.2.2.2.2.2.1.length:Nat):Int) > 32))=bigN n;unfold bigN;cases decide (((n.2.2.2.2.2.2.1.length:Nat):Int) > 64)<;>rfl
def litN:Value:=.func (.func 70) #[] #[]
def litU:Value:=.func (.func 124) #[] #[]
def cIdxR:Ctr:={ args:=[.slice nd,.lit],pre:=fun x=>[x.2.1=litN],res:=i64,own:=none,out:=fun x=>idx bigN x.1 }
def kIdxR:Kn:={ gmK with C:=[(70,cBigN)] }
theorem zb8:KnOk Tryz.prog gmH kIdxR:=zaj.with (.cons ztV .nil)
theorem ztg:yk Tryz.prog gmH 118 cIdxR:=by
 refine zal (K:=kIdxR) zb8 Tryz.func118 rfl rfl Tryz.call118 rfl (by decide) (by intro h;cases h) ?_;rintro w0 X hX ⟨(l:List Nd),(f:Value),_⟩ hp;obtain rfl:f=litN:=hp;change AWP _ _ _ _ _ ⟨[(0,⟨.slice nd,l⟩),(1,⟨.lit,litN⟩)],[],0⟩ _;refine ju 0 rfl fun hl=>?_;unfold maxLen at hl;(repeat(first|apply zaf|apply zab|apply zai|apply zad|apply zac|refine zaa hX zb8 rfl trivial ?_|refine zaa hX zb8 rfl id ?_|refine zaa hX zb8 rfl ⟨id,id⟩ ?_));refine yi (ι:=Nat) (fun k=>⟨[(0,⟨.slice nd,l⟩),(1,⟨.lit,litN⟩),(7,⟨i64,((l.length:Nat):Int)⟩),(8,⟨i64,(k:Int)⟩)],[],0⟩) (fun k=>k≤l.length∧∀ j (hj:j < l.length),j < k->bigN l[j]=false) (fun k=>l.length - k) 0 ⟨by omega,by omega⟩ ⟨⟨rfl,rfl,rfl,rfl,trivial⟩,trivial,rfl,rfl⟩ ?_;rintro k ⟨hk,hn⟩;refine za (za ?_);refine zaa hX zb8 rfl ?_ ?_
 ·trivial
 apply zaf;refine zae rfl (fun hb=>?_) (fun hb=>?_)
 ·have hb:decide ((k:Int) < (l.length:Nat))=true:=hb;have hb:=of_decide_eq_true hb;have hlt:k < l.length:=by omega
  have n0:(0:Int)≤(k:Int):=by omega
  refine za (za ?_);refine zaa hX zb8 rfl ?_ ?_
  ·trivial
  refine za (za ?_);refine zaa hX zb8 rfl ?_ ?_
  ·exact⟨n0,hb⟩
  refine zae rfl (fun hb=>?_) (fun hb=>?_)
  ·have hc:bigN (l.getD (k:Int).toNat zNd)=true:=hb;rw[za4 hlt]at hc;(repeat(first|apply zaf|apply zab|apply zai|apply zad|apply zac|refine zaa hX zb8 rfl trivial ?_|refine zaa hX zb8 rfl id ?_|refine zaa hX zb8 rfl ⟨id,id⟩ ?_));refine zl ⟨.inr rfl,zas rfl trivial rfl rfl ?_⟩;show (k:Int)=idx _ l;exact (zma hlt hc fun j hj=>hn j _ hj).symm
  ·have hc:bigN (l.getD (k:Int).toNat zNd)=false:=hb;rw[za4 hlt]at hc;refine za (za ?_);refine zaa hX zb8 rfl ?_ ?_
   ·exact zaF (by omega)
   exact⟨k+1,⟨by omega,fun j hj hlt=>by
    by_cases e:j=k
    ·subst e;exact hc
    ·exact hn j hj (by omega)⟩,by omega,⟨rfl,rfl,rfl,zbY _,trivial⟩,trivial,rfl,rfl⟩
 ·have hb:decide ((k:Int) < (l.length:Nat))=false:=hb;have hb:=of_decide_eq_false hb;have:k=l.length:=by omega
  subst this;(repeat(first|apply zaf|apply zab|apply zai|apply zad|apply zac|refine zaa hX zb8 rfl trivial ?_|refine zaa hX zb8 rfl id ?_|refine zaa hX zb8 rfl ⟨id,id⟩ ?_));refine zl ⟨.inr rfl,zas rfl trivial rfl rfl ?_⟩;show (-1:Int)=idx _ l;exact (zmb fun j hj=>hn j hj hj).symm
def cAnyR:Ctr:={ args:=[.slice nd,.lit],pre:=fun x=>[x.2.1=litN],res:=.bool,own:=none,out:=fun x=>List.any x.1 bigN }
def kAnyR:Kn:={ gmK with C:=[(118,cIdxR)] }
theorem zfD:KnOk Tryz.prog gmH kAnyR:=zaj.with (.cons ztg .nil)
theorem zt2:yk Tryz.prog gmH 71 cAnyR:=by
 refine zal (K:=kAnyR) zfD Tryz.func71 rfl rfl Tryz.call71 rfl (by decide) (by intro h;cases h) ?_;rintro w0 X hX ⟨(l:List Nd),(f:Value),_⟩ hp;obtain rfl:f=litN:=hp;change AWP _ _ _ _ _ ⟨[(0,⟨.slice nd,l⟩),(1,⟨.lit,litN⟩)],[],0⟩ _;(repeat(first|apply zaf|apply zab|apply zai|apply zad|apply zac|refine zaa hX zfD rfl trivial ?_|refine zaa hX zfD rfl id ?_|refine zaa hX zfD rfl ⟨id,id⟩ ?_));refine za (za ?_);refine zaa hX zfD rfl ?_ ?_
 ·exact rfl
 refine zl ⟨.inr rfl,zas rfl trivial rfl rfl ?_⟩;exact zpj _ l
def cIdxU:Ctr:={ args:=[.slice i64,.lit],pre:=fun x=>[x.2.1=litU],res:=i64,own:=none,out:=fun x=>idx not1 x.1 }
def kIdxU:Kn:={ gmK with C:=[(124,cNot1)] }
theorem zb7:KnOk Tryz.prog gmH kIdxU:=zaj.with (.cons zsS .nil)
theorem ztf:yk Tryz.prog gmH 157 cIdxU:=by
 refine zal (K:=kIdxU) zb7 Tryz.func157 rfl rfl Tryz.call157 rfl (by decide) (by intro h;cases h) ?_;rintro w0 X hX ⟨(l:List Int),(f:Value),_⟩ hp;obtain rfl:f=litU:=hp;change AWP _ _ _ _ _ ⟨[(0,⟨.slice i64,l⟩),(1,⟨.lit,litU⟩)],[],0⟩ _;refine ju 0 rfl fun hl=>?_;unfold maxLen at hl;(repeat(first|apply zaf|apply zab|apply zai|apply zad|apply zac|refine zaa hX zb7 rfl trivial ?_|refine zaa hX zb7 rfl id ?_|refine zaa hX zb7 rfl ⟨id,id⟩ ?_));refine yi (ι:=Nat) (fun k=>⟨[(0,⟨.slice i64,l⟩),(1,⟨.lit,litU⟩),(7,⟨i64,((l.length:Nat):Int)⟩),(8,⟨i64,(k:Int)⟩)],[],0⟩) (fun k=>k≤l.length∧∀ j (hj:j < l.length),j < k->not1 l[j]=false) (fun k=>l.length - k) 0 ⟨by omega,by omega⟩ ⟨⟨rfl,rfl,rfl,rfl,trivial⟩,trivial,rfl,rfl⟩ ?_;rintro k ⟨hk,hn⟩;refine za (za ?_);refine zaa hX zb7 rfl ?_ ?_
 ·trivial
 apply zaf;refine zae rfl (fun hb=>?_) (fun hb=>?_)
 ·have hb:decide ((k:Int) < (l.length:Nat))=true:=hb;have hb:=of_decide_eq_true hb;have hlt:k < l.length:=by omega
  have n0:(0:Int)≤(k:Int):=by omega
  refine za (za ?_);refine zaa hX zb7 rfl ?_ ?_
  ·trivial
  refine za (za ?_);refine zaa hX zb7 rfl ?_ ?_
  ·exact⟨n0,hb⟩
  refine zae rfl (fun hb=>?_) (fun hb=>?_)
  ·have hc:not1 (l.getD (k:Int).toNat (0:Int))=true:=hb;rw[za4 hlt]at hc;(repeat(first|apply zaf|apply zab|apply zai|apply zad|apply zac|refine zaa hX zb7 rfl trivial ?_|refine zaa hX zb7 rfl id ?_|refine zaa hX zb7 rfl ⟨id,id⟩ ?_));refine zl ⟨.inr rfl,zas rfl trivial rfl rfl ?_⟩;show (k:Int)=idx _ l;exact (zma hlt hc fun j hj=>hn j _ hj).symm
  ·have hc:not1 (l.getD (k:Int).toNat (0:Int))=false:=hb;rw[za4 hlt]at hc;refine za (za ?_);refine zaa hX zb7 rfl ?_ ?_
   ·exact zaF (by omega)
   exact⟨k+1,⟨by omega,fun j hj hlt=>by
    by_cases e:j=k
    ·subst e;exact hc
    ·exact hn j hj (by omega)⟩,by omega,⟨rfl,rfl,rfl,zbY _,trivial⟩,trivial,rfl,rfl⟩
 ·have hb:decide ((k:Int) < (l.length:Nat))=false:=hb;have hb:=of_decide_eq_false hb;have:k=l.length:=by omega
  subst this;(repeat(first|apply zaf|apply zab|apply zai|apply zad|apply zac|refine zaa hX zb7 rfl trivial ?_|refine zaa hX zb7 rfl id ?_|refine zaa hX zb7 rfl ⟨id,id⟩ ?_));refine zl ⟨.inr rfl,zas rfl trivial rfl rfl ?_⟩;show (-1:Int)=idx _ l;exact (zmb fun j hj=>hn j hj hj).symm
def cAnyU:Ctr:={ args:=[.slice i64,.lit],pre:=fun x=>[x.2.1=litU],res:=.bool,own:=none,out:=fun x=>List.any x.1 not1 }
def kAnyU:Kn:={ gmK with C:=[(157,cIdxU)] }
theorem zfC:KnOk Tryz.prog gmH kAnyU:=zaj.with (.cons ztf .nil)
theorem zt1:yk Tryz.prog gmH 123 cAnyU:=by
 refine zal (K:=kAnyU) zfC Tryz.func123 rfl rfl Tryz.call123 rfl (by decide) (by intro h;cases h) ?_;rintro w0 X hX ⟨(l:List Int),(f:Value),_⟩ hp;obtain rfl:f=litU:=hp;change AWP _ _ _ _ _ ⟨[(0,⟨.slice i64,l⟩),(1,⟨.lit,litU⟩)],[],0⟩ _;(repeat(first|apply zaf|apply zab|apply zai|apply zad|apply zac|refine zaa hX zfC rfl trivial ?_|refine zaa hX zfC rfl id ?_|refine zaa hX zfC rfl ⟨id,id⟩ ?_));refine za (za ?_);refine zaa hX zfC rfl ?_ ?_
 ·exact rfl
 refine zl ⟨.inr rfl,zas rfl trivial rfl rfl ?_⟩;exact zpj _ l
def zh0 (b:Int×Int×Unit):Bool:=b.1==0&&b.2.1==0
def zee (l:List Int) (b:Int×Int×Unit) (i:Nat):Bool:=!inB (l.getD i 0) b.1 b.2.1||(decide (0 < i)&&decide (l.getD i 0≤l.getD (i - 1) 0))||(l.getD i 0==0&&decide (b.1 < 0))
def zaQ (l:List Int) (b:Int×Int×Unit):Bool:=bif zh0 b then ((l.length:Nat):Int)==0 else (yK l.length).all (fun i=>!zee l b i)&&decide (((l.length:Nat):Int) > 0)
theorem zl0 (b:Int×Int×Unit):eqb lims b (0,0,())=zh0 b:=by
 obtain⟨x,y,⟨⟩⟩:=b;unfold zh0;rw[zL,zbj,zf,beq_iff_eq,beq_iff_eq];exact⟨fun h=>⟨congrArg (fun z=>z.1) h,congrArg (fun z=>z.2.1) h⟩,fun⟨h1,h2⟩=>by
  have h1:x=0:=h1;have h2:y=0:=h2;rw[h1,h2]⟩
def zpQ:Ctr:={ args:=[ints,lims],pre:=fun _=>[],res:=.bool,own:=none,out:=fun x=>zaQ x.1 x.2.1 }
def kVl:Kn:={ gmK with C:=[(119,zbp)] }
theorem za3:KnOk Tryz.prog gmH kVl:=zaj.with (.cons zjw .nil)
theorem zoS:yk Tryz.prog gmH 121 zpQ:=by
 refine zal (K:=kVl) za3 Tryz.func121 rfl rfl Tryz.call121 rfl (by decide) (by intro h;cases h) ?_;rintro w0 X hX ⟨(l:List Int),(b:Int×Int×Unit),_⟩ hp;change AWP _ _ _ _ _ ⟨[(0,⟨ints,l⟩),(1,⟨lims,b⟩)],[],0⟩ _;refine ju 0 rfl fun hl=>?_;unfold maxLen at hl;apply zaf;refine za (za ?_);refine zaa hX za3 rfl ?_ ?_
 ·trivial
 refine za (za ?_);refine zaa hX za3 rfl ?_ ?_
 ·trivial
 refine zae rfl (fun hb=>?_) (fun hb=>?_)
 ·have hb:zh0 b=true:=by rw[<-zl0];exact hb
  (repeat(first|apply zaf|apply zab|apply zai|apply zad|apply zac|refine zaa hX za3 rfl trivial ?_|refine zaa hX za3 rfl id ?_|refine zaa hX za3 rfl ⟨id,id⟩ ?_));refine zl ⟨.inr rfl,zas rfl trivial rfl rfl ?_⟩;show _=zaQ l b;unfold zaQ;rw[hb];rfl
 have hb:zh0 b=false:=by rw[<-zl0];exact hb
 (repeat(first|apply zaf|apply zab|apply zai|apply zad|apply zac|refine zaa hX za3 rfl trivial ?_|refine zaa hX za3 rfl id ?_|refine zaa hX za3 rfl ⟨id,id⟩ ?_));refine yi (ι:=Nat) (fun k=>⟨[(0,⟨ints,l⟩),(3,⟨.optr lims,⟨0,lims,.here⟩⟩),(13,⟨ints,l⟩),(14,⟨i64,((l.length:Nat):Int)⟩),(15,⟨i64,(k:Int)⟩)],[(0,some (.box lims b))],1⟩) (fun k=>k≤l.length∧∀ j,j < k->zee l b j=false) (fun k=>l.length - k) 0 ⟨by omega,by omega⟩ ⟨⟨rfl,rfl,rfl,rfl,rfl,trivial⟩,⟨rfl,trivial⟩,rfl,rfl⟩ ?_;rintro k ⟨hk,hn⟩;refine za (za ?_);refine zaa hX za3 rfl ?_ ?_
 ·trivial
 apply zaf;refine zae rfl (fun hb=>?_) (fun hb=>?_)
 ·have hb:decide ((k:Int) < (l.length:Nat))=true:=hb;have hb:=of_decide_eq_true hb;have hlt:k < l.length:=by omega
  have n0:(0:Int)≤(k:Int):=by omega
  refine za (za ?_);refine zaa hX za3 rfl ?_ ?_
  ·exact⟨n0,hb⟩
  refine za (za ?_);refine zaa hX za3 rfl ?_ ?_
  ·have i1:inR .i64 ((k:Int) - 1):=zam (by omega) (by omega);have i2:(k:Int) - 1 < (l.length:Nat):=by omega
   have i3:decide ((k:Int) > 0)=true->0≤(k:Int) - 1:=fun h=>by have:=of_decide_eq_true h;omega
   cases zbp.out (l.getD ((k:Int)).toNat (zaA i64),b.fst,b.snd.fst,())<;>cases hD:decide ((k:Int) > 0)<;>cases (l.getD ((k:Int)).toNat (zaA i64)==0)<;>cases decide (l.getD ((k:Int)).toNat (zaA i64)≤l.getD ((k:Int) - 1).toNat (zaA i64))
   all_goals
    repeat'(first|exact trivial|assumption|exact i3 hD|rfl|(intro h;exact absurd h zF)|(refine⟨?_,?_⟩)|(intro _))
  have hq:decide ((k:Int) > 0)=decide (0 < k):=by rw[zL,decide_eq_true_iff,decide_eq_true_iff];omega
  have hq':((k:Int) - 1).toNat=k - 1:=by omega
  refine zae rfl (fun hb=>?_) (fun hb=>?_)
  ·have hc:zee l b k=true:=by
    rw[<-hb];unfold zee;rw[<-hq, <-hq'];show (!zbp.out (l.getD ((k:Int)).toNat (zaA i64),b.fst,b.snd.fst,())||(decide ((k:Int) > 0)&&decide (l.getD ((k:Int)).toNat (zaA i64)≤l.getD ((k:Int) - 1).toNat (zaA i64)))||((l.getD ((k:Int)).toNat (zaA i64)==0)&&decide (b.1 < 0)))=_;cases zbp.out (l.getD ((k:Int)).toNat (zaA i64),b.fst,b.snd.fst,())<;>cases hD:decide ((k:Int) > 0)<;>cases (l.getD ((k:Int)).toNat (zaA i64)==0)<;>cases decide (l.getD ((k:Int)).toNat (zaA i64)≤l.getD ((k:Int) - 1).toNat (zaA i64))<;>cases decide (b.1 < 0)<;>rfl
   (repeat(first|apply zaf|apply zab|apply zai|apply zad|apply zac|refine zaa hX za3 rfl trivial ?_|refine zaa hX za3 rfl id ?_|refine zaa hX za3 rfl ⟨id,id⟩ ?_));refine zl ⟨.inr rfl,zas rfl trivial rfl rfl ?_⟩;show false=zaQ l b;unfold zaQ;rw[‹zh0 b=false›,show (yK l.length).all (fun i=>!zee l b i)=false from ?_]
   ·rfl
   ·rw[qa];intro ha;have:=zM.1 ha k (ym.2 hlt);rw[hc]at this;cases this
  ·have hc:zee l b k=false:=by
    rw[<-hb];unfold zee;rw[<-hq, <-hq'];show (!zbp.out (l.getD ((k:Int)).toNat (zaA i64),b.fst,b.snd.fst,())||(decide ((k:Int) > 0)&&decide (l.getD ((k:Int)).toNat (zaA i64)≤l.getD ((k:Int) - 1).toNat (zaA i64)))||((l.getD ((k:Int)).toNat (zaA i64)==0)&&decide (b.1 < 0)))=_;cases zbp.out (l.getD ((k:Int)).toNat (zaA i64),b.fst,b.snd.fst,())<;>cases hD:decide ((k:Int) > 0)<;>cases (l.getD ((k:Int)).toNat (zaA i64)==0)<;>cases decide (l.getD ((k:Int)).toNat (zaA i64)≤l.getD ((k:Int) - 1).toNat (zaA i64))<;>cases decide (b.1 < 0)<;>rfl
   refine za (za ?_);refine zaa hX za3 rfl ?_ ?_
   ·exact zaF (by omega)
   exact⟨k+1,⟨by omega,fun j hj=>by
    by_cases e:j=k
    ·subst e;exact hc
    ·exact hn j (by omega)⟩,by omega,⟨rfl,rfl,rfl,rfl,zbY _,trivial⟩,⟨rfl,trivial⟩,rfl,rfl⟩
 ·have hb:decide ((k:Int) < (l.length:Nat))=false:=hb;have hb:=of_decide_eq_false hb;have:k=l.length:=by omega
  subst this;(repeat(first|apply zaf|apply zab|apply zai|apply zad|apply zac|refine zaa hX za3 rfl trivial ?_|refine zaa hX za3 rfl id ?_|refine zaa hX za3 rfl ⟨id,id⟩ ?_));refine zl ⟨.inr rfl,zas rfl trivial rfl rfl ?_⟩;show _=zaQ l b;unfold zaQ;rw[‹zh0 b=false›,show (yK l.length).all (fun i=>!zee l b i)=true from zM.2 fun i hi=>by rw[hn i (ym.1 hi)];rfl];rfl
def zbz (n:Nd):Bool:=
 bif n.1==1 then bif inB n.2.2.2.2.1 1 1099511627776 then inB n.2.2.2.2.2.1 0 1099511627776 else false
 else bif n.1==2 then bif inB n.2.2.2.2.1 1 400 then inB n.2.2.2.2.2.1 0 (n.2.2.2.2.1 - 1) else false
 else bif n.1==7 then bif (bif (bif inB n.2.2.2.2.1 (-60) 60 then !(n.2.2.2.2.1==0) else false) then inB n.2.2.2.2.2.1 0 6 else false) then inB n.2.2.1 0 1 else false
 else bif n.1==11 then bif inB n.2.2.2.2.1 (-1099511627776) 1099511627776 then n.2.2.2.2.2.1==0 else false
 else bif (n.1==12)||(n.1==13) then bif inB n.2.2.2.2.1 0 1099511627776 then n.2.2.2.2.2.1==0 else false
 else bif n.1==16 then bif n.2.2.2.2.1==0 then inB n.2.2.2.2.2.1 0 1 else false
 else bif n.1==17 then bif inB n.2.2.2.2.1 1 400 then n.2.2.2.2.2.1==0 else false
 else bif n.2.2.2.2.1==0 then n.2.2.2.2.2.1==0 else false
def zrM:Ctr:={ args:=[nd],pre:=fun _=>[],res:=.bool,own:=none,out:=fun x=>zbz x.1 }
theorem zsQ:yk Tryz.prog gmH 122 zrM:=by
 refine zal (K:=kVl) za3 Tryz.func122 rfl rfl Tryz.call122 rfl (by decide) (by intro h;cases h) ?_;rintro w0 X hX ⟨(n:Nd),_⟩ hp;change AWP _ _ _ _ _ ⟨[(0,⟨nd,n⟩)],[],0⟩ _;apply zaf;refine za (za ?_);refine zaa hX za3 rfl ?_ ?_
 ·trivial
 refine za (za ?_);refine zaa hX za3 rfl ?_ ?_
 ·trivial
 refine za (za ?_);refine zaa hX za3 rfl ?_ ?_
 ·trivial
 refine zae rfl (fun h1=>?_) (fun h1=>?_)
 ·have h1:(n.1==1)=true:=h1;refine za (za ?_);refine zaa hX za3 rfl ?_ ?_
  ·have i0:zbp.out (n.2.2.2.2.1,(1:Int),(400:Int),())=true->inR .i64 (n.2.2.2.2.1 - 1):=fun h=>by
    have h:inB n.2.2.2.2.1 1 400=true:=h;unfold inB at h;rw[zf,decide_eq_true_iff,decide_eq_true_iff]at h;exact zam (by omega) (by omega)
   cases hA:zbp.out (n.2.2.2.2.1,(1:Int),(1099511627776:Int),())
   all_goals
    repeat'(first|exact trivial|assumption|rfl|exact i0 rfl|exact i0 hA|(intro h;exact absurd h zF)|(refine⟨?_,?_⟩)|(intro _))
  refine zl ⟨.inr rfl,zas rfl trivial rfl rfl ?_⟩;show _=zbz n;simp only[zbz,h1,cond_true,cond_false,yJ,xd,yM,yE]
  all_goals (first|rfl|(simp;done))
 have h1:(n.1==1)=false:=h1;refine za (za ?_);refine zaa hX za3 rfl ?_ ?_
 ·trivial
 refine zae rfl (fun h2=>?_) (fun h2=>?_)
 ·have h2:(n.1==2)=true:=h2;refine za (za ?_);refine zaa hX za3 rfl ?_ ?_
  ·have i0:zbp.out (n.2.2.2.2.1,(1:Int),(400:Int),())=true->inR .i64 (n.2.2.2.2.1 - 1):=fun h=>by
    have h:inB n.2.2.2.2.1 1 400=true:=h;unfold inB at h;rw[zf,decide_eq_true_iff,decide_eq_true_iff]at h;exact zam (by omega) (by omega)
   cases hA:zbp.out (n.2.2.2.2.1,(1:Int),(400:Int),())
   all_goals
    repeat'(first|exact trivial|assumption|rfl|exact i0 rfl|exact i0 hA|(intro h;exact absurd h zF)|(refine⟨?_,?_⟩)|(intro _))
  refine zl ⟨.inr rfl,zas rfl trivial rfl rfl ?_⟩;show _=zbz n;simp only[zbz,h1,h2,cond_true,cond_false,yJ,xd,yM,yE]
  all_goals (first|rfl|(simp;done))
 have h2:(n.1==2)=false:=h2;refine za (za ?_);refine zaa hX za3 rfl ?_ ?_
 ·trivial
 refine zae rfl (fun h7=>?_) (fun h7=>?_)
 ·have h7:(n.1==7)=true:=h7;refine za (za ?_);refine zaa hX za3 rfl ?_ ?_
  ·have i0:zbp.out (n.2.2.2.2.1,(1:Int),(400:Int),())=true->inR .i64 (n.2.2.2.2.1 - 1):=fun h=>by
    have h:inB n.2.2.2.2.1 1 400=true:=h;unfold inB at h;rw[zf,decide_eq_true_iff,decide_eq_true_iff]at h;exact zam (by omega) (by omega)
   cases hA:zbp.out (n.2.2.2.2.1,(-60:Int),(60:Int),())<;>cases (n.2.2.2.2.1==0)<;>cases zbp.out (n.2.2.2.2.2.1,(0:Int),(6:Int),())
   all_goals
    repeat'(first|exact trivial|assumption|rfl|exact i0 rfl|exact i0 hA|(intro h;exact absurd h zF)|(refine⟨?_,?_⟩)|(intro _))
  refine zl ⟨.inr rfl,zas rfl trivial rfl rfl ?_⟩;show _=zbz n;simp only[zbz,h1,h2,h7,cond_true,cond_false,yJ,xd,yM,yE]
  all_goals (first|rfl|(simp;done))
 have h7:(n.1==7)=false:=h7;refine za (za ?_);refine zaa hX za3 rfl ?_ ?_
 ·trivial
 refine zae rfl (fun h11=>?_) (fun h11=>?_)
 ·have h11:(n.1==11)=true:=h11;refine za (za ?_);refine zaa hX za3 rfl ?_ ?_
  ·have i0:zbp.out (n.2.2.2.2.1,(1:Int),(400:Int),())=true->inR .i64 (n.2.2.2.2.1 - 1):=fun h=>by
    have h:inB n.2.2.2.2.1 1 400=true:=h;unfold inB at h;rw[zf,decide_eq_true_iff,decide_eq_true_iff]at h;exact zam (by omega) (by omega)
   cases hA:zbp.out (n.2.2.2.2.1,(-1099511627776:Int),(1099511627776:Int),())
   all_goals
    repeat'(first|exact trivial|assumption|rfl|exact i0 rfl|exact i0 hA|(intro h;exact absurd h zF)|(refine⟨?_,?_⟩)|(intro _))
  refine zl ⟨.inr rfl,zas rfl trivial rfl rfl ?_⟩;show _=zbz n;simp only[zbz,h1,h2,h7,h11,cond_true,cond_false,yJ,xd,yM,yE]
  all_goals (first|rfl|(simp;done))
 have h11:(n.1==11)=false:=h11;refine za (za ?_);refine zaa hX za3 rfl ?_ ?_
 ·trivial
 refine je (σ':=⟨[(1,⟨.optr nd,⟨0,nd,.here⟩⟩),(4,⟨i64,n.1⟩),(58,⟨.bool,(n.1==12)||(n.1==13)⟩)],[(0,some (.box nd n))],1⟩) ?_ ?_
 ·refine zae rfl (fun h=>?_) (fun h=>?_)
  ·have h:(n.1==12)=true:=h;apply zab;rw[h];exact⟨⟨rfl,rfl,rfl,trivial⟩,⟨rfl,trivial⟩,rfl,rfl⟩
  ·have h:(n.1==12)=false:=h;refine za (za ?_);refine zaa hX za3 rfl ?_ ?_
   ·trivial
   rw[h];exact⟨⟨rfl,rfl,rfl,trivial⟩,⟨rfl,trivial⟩,rfl,rfl⟩
 refine zae rfl (fun h12=>?_) (fun h12=>?_)
 ·have h12:((n.1==12)||(n.1==13))=true:=h12;refine za (za ?_);refine zaa hX za3 rfl ?_ ?_
  ·have i0:zbp.out (n.2.2.2.2.1,(1:Int),(400:Int),())=true->inR .i64 (n.2.2.2.2.1 - 1):=fun h=>by
    have h:inB n.2.2.2.2.1 1 400=true:=h;unfold inB at h;rw[zf,decide_eq_true_iff,decide_eq_true_iff]at h;exact zam (by omega) (by omega)
   cases hA:zbp.out (n.2.2.2.2.1,(0:Int),(1099511627776:Int),())
   all_goals
    repeat'(first|exact trivial|assumption|rfl|exact i0 rfl|exact i0 hA|(intro h;exact absurd h zF)|(refine⟨?_,?_⟩)|(intro _))
  refine zl ⟨.inr rfl,zas rfl trivial rfl rfl ?_⟩;show _=zbz n;simp only[zbz,h1,h2,h7,h11,h12,cond_true,cond_false,yJ,xd,yM,yE]
  all_goals (first|rfl|(simp;done))
 have h12:((n.1==12)||(n.1==13))=false:=h12;refine za (za ?_);refine zaa hX za3 rfl ?_ ?_
 ·trivial
 refine zae rfl (fun h16=>?_) (fun h16=>?_)
 ·have h16:(n.1==16)=true:=h16;refine za (za ?_);refine zaa hX za3 rfl ?_ ?_
  ·have i0:zbp.out (n.2.2.2.2.1,(1:Int),(400:Int),())=true->inR .i64 (n.2.2.2.2.1 - 1):=fun h=>by
    have h:inB n.2.2.2.2.1 1 400=true:=h;unfold inB at h;rw[zf,decide_eq_true_iff,decide_eq_true_iff]at h;exact zam (by omega) (by omega)
   cases hA:(n.2.2.2.2.1==0)
   all_goals
    repeat'(first|exact trivial|assumption|rfl|exact i0 rfl|exact i0 hA|(intro h;exact absurd h zF)|(refine⟨?_,?_⟩)|(intro _))
  refine zl ⟨.inr rfl,zas rfl trivial rfl rfl ?_⟩;show _=zbz n;simp only[zbz,h1,h2,h7,h11,h12,h16,cond_true,cond_false,yJ,xd,yM,yE]
  all_goals (first|rfl|(simp;done))
 have h16:(n.1==16)=false:=h16;refine za (za ?_);refine zaa hX za3 rfl ?_ ?_
 ·trivial
 refine zae rfl (fun h17=>?_) (fun h17=>?_)
 ·have h17:(n.1==17)=true:=h17;refine za (za ?_);refine zaa hX za3 rfl ?_ ?_
  ·have i0:zbp.out (n.2.2.2.2.1,(1:Int),(400:Int),())=true->inR .i64 (n.2.2.2.2.1 - 1):=fun h=>by
    have h:inB n.2.2.2.2.1 1 400=true:=h;unfold inB at h;rw[zf,decide_eq_true_iff,decide_eq_true_iff]at h;exact zam (by omega) (by omega)
   cases hA:zbp.out (n.2.2.2.2.1,(1:Int),(400:Int),())
   all_goals
    repeat'(first|exact trivial|assumption|rfl|exact i0 rfl|exact i0 hA|(intro h;exact absurd h zF)|(refine⟨?_,?_⟩)|(intro _))
  refine zl ⟨.inr rfl,zas rfl trivial rfl rfl ?_⟩;show _=zbz n;simp only[zbz,h1,h2,h7,h11,h12,h16,h17,cond_true,cond_false,yJ,xd,yM,yE]
  all_goals (first|rfl|(simp;done))
 have h17:(n.1==17)=false:=h17;apply zab;refine za (za ?_);refine zaa hX za3 rfl ?_ ?_
 ·have i0:zbp.out (n.2.2.2.2.1,(1:Int),(400:Int),())=true->inR .i64 (n.2.2.2.2.1 - 1):=fun h=>by
   have h:inB n.2.2.2.2.1 1 400=true:=h;unfold inB at h;rw[zf,decide_eq_true_iff,decide_eq_true_iff]at h;exact zam (by omega) (by omega)
  cases hA:(n.2.2.2.2.1==0)
  all_goals
   repeat'(first|exact trivial|assumption|rfl|exact i0 rfl|exact i0 hA|(intro h;exact absurd h zF)|(refine⟨?_,?_⟩)|(intro _))
 refine zl ⟨.inr rfl,zas rfl trivial rfl rfl ?_⟩;show _=zbz n;simp only[zbz,h1,h2,h7,h11,h12,h16,h17,cond_true,cond_false,yJ,xd,yM,yE]
 all_goals (first|rfl|(simp;done))
section
variable {s:List UInt8}
def Er {α:Type} (s:List UInt8) (m:Except (Int×Int) α):Prop:=∀ er,m= .error er->0≤er.1∧er.1≤((s.length:Nat):Int)
theorem zaD {α β:Type} {m:Except (Int×Int) α} {f:α->Except (Int×Int) β} (h1:Er s m) (h2:∀ x,m= .ok x->Er s (f x)):Er s (m >>= f):=by
 intro er he;cases hm:m with
 |error e=>
  rw[hm]at he;have he:(.error e:Except (Int×Int) β)= .error er:=he;cases he;exact h1 _ hm
 |ok x=>
  rw[hm]at he;exact h2 x hm er he
theorem zdh {α:Type} {x:α}:Er s (.ok x:Except (Int×Int) α):=fun _ h=>by cases h
theorem zrv {α:Type} {st:GSt} {e:Int} (h:GOk s st):Er s (.error (Tok.at st.1,e):Except (Int×Int) α):=fun er he=>by
 cases he;obtain⟨⟨⟨a1,a2,a3⟩,_⟩,_⟩:=h;exact⟨a1,by show Tok.at st.1≤_;omega⟩
theorem zcb {st:GSt} {b:Bool} {e:Int} (h:GOk s st):Er s (zaH st b e):=by
 unfold zaH;split
 ·exact zdh
 ·exact zrv h
theorem zew {st:GSt} {w:List UInt8} (h:GOk s st):Er s (za0 s st w):=zaD (zcb h) fun _ _=>zdh
theorem zfK {st:GSt} (h:GOk s st):Er s (zb2 s st):=zaD (zcb h) fun _ _=>zdh
theorem zbQ {st:GSt} {lo hi:Int} (h:GOk s st):Er s (zaO s st lo hi):=zaD (zcb h) fun _ _=>zaD (zcb h) fun _ _=>zdh
theorem zmo {lo hi:Int} {z:Bool}:∀ (k:Nat) {st:GSt} {l:List Int},GOk s st->Er s (zcK s lo hi z k st l)
 |0,_,_,h=>zrv h
 |k+1,st,l,h=>by
  unfold zcK;split
  ·exact zdh
  ·exact zaD (zcb h) fun _ _=>zaD (zcb h) fun _ _=>zaD (zcb h) fun _ _=>zaD (zbQ h) fun p hp=>zmo k (zav h hp).1.1
theorem zjg {st:GSt} {lo hi:Int} {z:Bool} (h:GOk s st):Er s (zdr s st lo hi z):=
 zaD (zew h) fun a ha=>zaD (zmo _ (zbv h ha).1) fun p hp=>zaD (zew (by
  rcases zhy _ (zbv h ha).1 hp with e|k
  ·rw[e];exact (zbv h ha).1
  ·exact k.1)) fun _ _=>zdh
theorem zmn {st:GSt} (h:GOk s st):Er s (zdS s st):=zaD (zcb h) fun _ _=>zdh
theorem ztB {st:GSt} (h:GOk s st):∀ w:LeafW,Er s (zds s st w)
 | .days=>zaD (zbQ h) fun p hp=>zaD (zbQ (zav h hp).1.1) fun _ _=>zdh
 | .years=>zaD (zbQ h) fun p hp=>zaD (zbQ (zav h hp).1.1) fun q hq=>zaD (zbQ (zav (zav h hp).1.1 hq).1.1) fun _ _=>zdh
 | .months| .monthdays| .weeks=>zaD (zbQ h) fun p hp=>zaD (zjg (zav h hp).1.1) fun _ _=>zdh
 | .weekdays=>zaD (zjg h) fun _ _=>zdh
 | .nth=>zaD (zbQ h) fun p hp=>zaD (zcb (zav h hp).1.1) fun _ _=>zaD (zbQ (zav h hp).1.1) fun q hq=>zaD (zbQ (zav (zav h hp).1.1 hq).1.1) fun r hr=>zaD (zmn (zav (zav (zav h hp).1.1 hq).1.1 hr).1.1) fun _ _=>zdh
theorem zr3 {st:GSt} (h:GOk s st):∀ w:SufW,Er s (gSuf s st w)
 | .shift| .from_| .until_=>zaD (zbQ h) fun _ _=>zdh
 | .also| .except_=>zaD (zjg h) fun _ _=>zdh
 | .pos=>zaD (zbQ h) fun p hp=>zaD (zmn (zav h hp).1.1) fun q hq=>zaD (zjg (zet (zav h hp).1.1 hq).1) fun _ _=>zdh
 | .behind=>zaD (zbQ h) fun p hp=>zaD (zew (zav h hp).1.1) fun _ _=>zdh
theorem zf9 {md:Md} {st st':GSt} (h:GOk s st) (k:Cons s st st' md):GOk s st':=by
 cases md with
 |bin i=>exact k.1
 |chain=>exact k.1
 |prim=>exact k.1
 |binL i t=>
  rcases k with rfl|k
  ·exact h
  ·exact k.1
 |chainL t=>
  rcases k with rfl|k
  ·exact h
  ·exact k.1
theorem zd9:∀ (k:Nat) (md:Md) (st:GSt),GOk s st->Er s (prs s k md st)
 |0,_,_,h=>zrv h
 |k+1,.bin i,st,h=>by
  unfold prs;rw[zbs];split
  ·exact zd9 k _ _ h
  ·exact zaD (zd9 k _ _ h) fun p hp=>zd9 k _ _ (zf9 h (zc0 k _ _ _ _ h hp))
 |k+1,.binL i t,st,h=>by
  unfold prs;rw[zbs];split
  ·rename_i hi;refine zaD (zfK h) fun a ha=>?_;have k1:=zbh h (zdH hi) ha;exact zaD (zd9 k _ _ k1.1) fun p hp=>zd9 k _ _ (zf9 k1.1 (zc0 k _ _ _ _ k1.1 hp))
  ·exact zdh
 |k+1,.chain,st,h=>by
  unfold prs;rw[zbs];exact zaD (zd9 k _ _ h) fun p hp=>zd9 k _ _ (zf9 h (zc0 k _ _ _ _ h hp))
 |k+1,.chainL t,st,h=>by
  unfold prs;rw[zbs];split
  ·rename_i hc;split
   ·exact zdh
   ·refine zaD (zfK h) fun a ha=>?_;have k1:=zbh h (by rw[hc];decide) ha;refine zaD (zr3 k1.1 _) fun p hp=>?_;have k2:=zes k1.1 _ hp;exact zaD (zd9 k _ _ k2.1) fun q hq=>zd9 k _ _ (zf9 k2.1 (zc0 k _ _ _ _ k2.1 hq))
   ·refine zaD (zfK h) fun a ha=>?_;have k1:=zbh h (by rw[hc];decide) ha;refine zaD (zr3 k1.1 _) fun p hp=>?_;have k2:=zes k1.1 _ hp;exact zd9 k _ _ k2.1
  ·exact zdh
 |k+1,.prim,st,h=>by
  unfold prs;rw[zbs];split
  ·rename_i hi;have k0:=zcx h (zdH hi);exact zaD (zd9 k _ _ k0.1) fun p hp=>zaD (zew (zf9 k0.1 (zc0 k _ _ _ _ k0.1 hp))) fun _ _=>zdh
  ·split
   ·exact zaD (zcb h) fun _ _=>zaD (zfK h) fun _ _=>zdh
   ·refine zaD (zcb h) fun u hu=>?_;have hc:=zbP hu;rw[beq_iff_eq]at hc;split
    ·exact zrv h
    ·refine zaD (zfK h) fun a ha=>?_;have k1:=zbh h (by rw[hc];decide) ha;exact zaD (ztB k1.1 _) fun _ _=>zdh
theorem ztA {st:GSt} (h:GOk s st):Er s (zfG s st):=
 zaD (zd9 _ _ _ h) fun p hp=>zaD (zcb (zf9 h (zc0 _ _ _ _ _ h hp))) fun _ _=>zdh
end
abbrev Shp:=Int×Bool×(Int×Int×Unit)×Unit
def zcW:List Shp:=[(0,false,(0,0,()),()),(0,false,(0,0,()),()),(0,true,(0,0,()),()),(0,true,(1,16,()),()),(0,true,(-40,40,()),()),(0,false,(0,6,()),()),(0,true,(1,54,()),()),(0,true,(0,0,()),()),(2,false,(0,0,()),()),(2,false,(0,0,()),()),(2,false,(0,0,()),()),(1,false,(0,0,()),()),(1,false,(0,0,()),()),(1,false,(0,0,()),()),(1,false,(0,1099511627776,()),()),(1,false,(0,1099511627776,()),()),(1,true,(-400,400,()),()),(2,false,(0,0,()),()),(0,false,(0,0,()),())]
def zlx:Ctr:={ args:=[],pre:=fun _=>[],res:=.arr 19 shp,own:=none,out:=fun _=>zcW }
set_option maxHeartbeats 400000 in
theorem zjI:yk Tryz.prog gmH 74 zlx:=by
 refine zal (K:=gmK) zaj Tryz.func74 rfl rfl Tryz.call74 rfl (by decide) (by intro h;cases h) ?_;rintro w0 X hX _ hp;change AWP _ _ _ _ _ ⟨[],[],0⟩ _;apply zaf;refine za (za ?_);refine zaa hX zaj rfl ?_ ?_
 ·trivial
 refine za (za ?_);refine zaa hX zaj rfl ?_ ?_
 ·trivial
 refine zap (σ':=⟨[(0,⟨.optr (.arr 19 shp),⟨0,.arr 19 shp,.here⟩⟩)],[(0,some (.box (.arr 19 shp) zcW))],1⟩) ⟨⟨by kernel_rfl,trivial⟩,⟨by kernel_rfl,trivial⟩,rfl,rfl⟩ ?_;exact zl ⟨.inr rfl,zas rfl trivial rfl rfl rfl⟩
set_option maxRecDepth 10000
abbrev Tk:=Int×List UInt8×Int
def tkOf (t:TokT):Tk:=(zQ t,zR t,Tok.n t)
def Toks (s:List UInt8):Int->List Tk->Prop
 |o,[]=>zQ (zej s o)=0
 |o,a::l=>zQ (zej s o)≠0∧tkOf (zej s o)=a∧Toks s (Tok.at (zej s o)+Tok.size (zej s o)) l
def Sq (s:List UInt8) (t:TokT):List Tk->Prop
 | []=>zQ t=0
 |a::l=>zQ t≠0∧tkOf t=a∧Toks s (Tok.at t+Tok.size t) l
def tkIs (w:List UInt8):List Tk->Bool
 | []=>false
 |a::_=>((a.1==1)||(a.1==4))&&decide (a.2.1=w)
theorem okb {ε α β:Type} {e:Except ε α} {x:α} (h:e= .ok x) (f:α->Except ε β):(e >>= f)=f x:=by
 subst h;rfl
section
variable {s:List UInt8}
theorem zkQ {o:Int} {l:List Tk} (h:Toks s o l):Sq s (zej s o) l:=by
 cases l with
 |nil=>exact h
 |cons a l=>exact h
theorem zhW {st:GSt} {l:List Tk} (h:Sq s st.1 l) (w:List UInt8):gIs st w=tkIs w l:=by
 cases l with
 |nil=>
  have h:zQ st.1=0:=h;unfold gIs tkIs;rw[h];rfl
 |cons a l=>
  obtain⟨_,h2,_⟩:=h;unfold gIs tkIs;rw[<-h2];rfl
structure Got (s:List UInt8) (st:GSt) (k:Int) (l:List Tk) (st':GSt):Prop where
 ok:GOk s st'
 sq:Sq s st'.1 l
 n:st'.2=st.2+k
theorem Got.trans {a b c:GSt} {j k:Int} {l l':List Tk} (h:Got s a j l b) (h':Got s b k l' c):Got s a (j+k) l' c:=⟨h'.ok,h'.sq,by rw[h'.n,h.n];omega⟩
theorem Got.trans0 {a b c:GSt} {j:Int} {l l':List Tk} (h:Got s a j l b) (h':Got s b 0 l' c):Got s a j l' c:=⟨h'.ok,h'.sq,by rw[h'.n,h.n];omega⟩
theorem zqE {st:GSt} {a:Tk} {l:List Tk} (hg:GOk s st) (h:Sq s st.1 (a::l)):Got s st 0 l (gAdv s st):=
 ⟨(zcx hg h.1).1,zkQ h.2.2,by show st.2=st.2+0;omega⟩
theorem zgI {st:GSt} {a:Tk} {l:List Tk} {w:List UInt8} (hg:GOk s st) (h:Sq s st.1 (a::l)) (hw:tkIs w (a::l)=true):za0 s st w= .ok (gAdv s st)∧Got s st 0 l (gAdv s st):=by
 refine⟨?_,zqE hg h⟩;unfold za0 zaH;rw[zhW h,hw];rfl
theorem ziY {st:GSt} {a:Tk} {l:List Tk} (hg:GOk s st) (h:Sq s st.1 (a::l)) (hn:st.2 < 64):zb2 s st= .ok (gAdv s (st.1,st.2+1))∧Got s st 1 l (gAdv s (st.1,st.2+1)):=by
 refine⟨?_,?_,?_,rfl⟩
 ·unfold zb2 zaH;rw[decide_eq_true hn];rfl
 ·exact (zcx (st:=(st.1,st.2+1)) ⟨hg.1,by have:=hg.2;constructor<;>simp only[]<;>omega⟩ h.1).1
 ·exact zkQ h.2.2
def tkW (w:List UInt8):Tk:=(1,w,0)
def tkR (w:List UInt8):Tk:=(2,w,0)
def tkN (n:Int):Tk:=(3,deI n,n)
def tkS (c:UInt8):Tk:=(4,[c],0)
theorem zbx {st:GSt} {x lo hi:Int} {l:List Tk} (hg:GOk s st) (h:Sq s st.1 (tkN x::l)) (h1:lo≤x) (h2:x≤hi):zaO s st lo hi= .ok (x,gAdv s st)∧Got s st 0 l (gAdv s st):=by
 refine⟨?_,zqE hg h⟩;obtain⟨_,e,_⟩:=h;have e1:zQ st.1=3:=congrArg (fun a=>a.1) e;have e2:Tok.n st.1=x:=congrArg (fun a=>a.2.2) e;unfold zaO zaH;rw[e1,e2,decide_eq_true h1,decide_eq_true h2];rfl
def Ris (lo hi:Int) (z:Bool):Int->List Int->Prop
 |_,[]=>True
 |last,x::r=>last < x∧lo≤x∧x≤hi∧(z=true∨x≠0)∧Ris lo hi z x r
theorem zot {lo hi:Int} {z:Bool} {l:List Tk}:∀ (xs:List Int) (k:Nat) (acc:List Int) (st:GSt),xs.length < k->(acc=[]->xs≠ [])->acc.length+xs.length≤64->Ris lo hi z (acc.getLast?.getD (lo - 1)) xs->GOk s st->Sq s st.1 (xs.map tkN++tkS 41::l)->
  ∃ st',zcK s lo hi z k st acc= .ok (acc++xs,st')∧Got s st 0 (tkS 41::l) st'
 |_,0,_,_,hk,_,_,_,_,_=>by omega
 | [],k+1,acc,st,_,hne,_,_,hg,h=>by
  refine⟨st,?_,hg,h,by omega⟩;have hacc:acc≠ []:=fun e=>hne e rfl;have hc:gIs st zdb=true:=by rw[zhW h];rfl
  unfold zcK;rw[hc,zS,if_pos (by cases acc with |nil=>exact absurd rfl hacc|cons _ _=>rfl)]
 |x::r,k+1,acc,st,hk,hne,hlen,hr,hg,h=>by
  obtain⟨r1,r2,r3,r4,r5⟩:=hr;simp only[zs]at hk hlen;have h:Sq s st.1 (tkN x::(r.map tkN++tkS 41::l)):=h;obtain⟨hn,hgot⟩:=zbx hg h r2 r3;obtain⟨_,e,_⟩:=id h;have e1:zQ st.1=3:=congrArg (fun a=>a.1) e;have e2:Tok.n st.1=x:=congrArg (fun a=>a.2.2) e;have hc:gIs st zdb=false:=by rw[zhW h];rfl
  have hl:(acc++ [x]).getLast?.getD (lo - 1)=x:=by rw[List.getLast?_append];rfl
  obtain⟨st',h1,h2⟩:=zot r k (acc++ [x]) (gAdv s st) (by omega) (fun e=>by simp at e) (by rw[zh,List.length_singleton];omega) (by rw[hl];exact r5) hgot.ok hgot.sq;refine⟨st',?_,hgot.trans0 h2⟩;rw[zu]at h1;unfold zcK;rw[hc,xv,if_neg zF];have c1:zaH st (zQ st.1==3) 3= .ok ():=by rw[e1];rfl
  have c2:zaH st (decide (acc.length < 64)) 2= .ok ():=by rw[decide_eq_true (by omega)];rfl
  have c3:zaH st (decide (Tok.n st.1 > acc.getLast?.getD (lo - 1))&&(z||(Tok.n st.1 != 0))) 1= .ok ():=by
   rw[e2,decide_eq_true r1];have:(z||(x != 0))=true:=by
    rcases r4 with rfl|r4
    ·rfl
    ·rw[zY];exact .inr (bne_iff_ne.2 r4)
   rw[this];rfl
  refine (okb c1 _).trans ((okb c2 _).trans ((okb c3 _).trans ((okb hn _).trans ?_)));exact h1
def zdc (l:List Int):List Tk:=tkS 40::(l.map tkN++ [tkS 41])
theorem zhc {lo hi:Int} {z:Bool} {xs:List Int} {l:List Tk} {st:GSt} (hne:xs≠ []) (hlen:xs.length≤64) (hr:Ris lo hi z (lo - 1) xs) (hg:GOk s st) (h:Sq s st.1 (zdc xs++l)):
  ∃ st',zdr s st lo hi z= .ok (xs,st')∧Got s st 0 l st':=by
 have h:Sq s st.1 (tkS 40::(xs.map tkN++ [tkS 41]++l)):=h;obtain⟨e1,g1⟩:=zgI (w:=zfh) hg h rfl;obtain⟨s2,e2,g2⟩:=zot (lo:=lo) (hi:=hi) (z:=z) (l:=l) xs 66 [] (gAdv s st) (by omega) (fun _=>hne) (by simpa using hlen) hr g1.ok (by have:=g1.sq;rwa[zu]at this);obtain⟨e3,g3⟩:=zgI (w:=zdb) g2.ok g2.sq rfl;refine⟨gAdv s s2,?_,(g1.trans0 g2).trans0 g3⟩;unfold zdr;exact (okb e1 _).trans ((okb e2 _).trans ((okb e3 _).trans rfl))
def zei (n:Int):Tk:=tkW (if n=1 then zdX else zic)
theorem zor {st:GSt} {x:Int} {l:List Tk} (hx:x=0∨x=1) (hg:GOk s st) (h:Sq s st.1 (zei x::l)):zdS s st= .ok (x,gAdv s st)∧Got s st 0 l (gAdv s st):=by
 refine⟨?_,zqE hg h⟩;have i1:=zhW h zic;have i2:=zhW h zdX;obtain⟨_,e,_⟩:=h;have e1:zR st.1=(zei x).2.1:=congrArg (fun a=>a.2.1) e;unfold zdS zaH;rw[i1,i2,e1];rcases hx with rfl|rfl<;>rfl
end
def zj6 (n:Nd):List Tk:=
 if ndK n=1 then [tkW ziK,tkN (ndN n),tkN (ndM n)]
 else if ndK n=2 then [tkW zfg,tkN (ndC n),tkN (ndN n),tkN (ndM n)]
 else if ndK n=3 then tkW zcy::tkN (ndC n)::zdc (ndI n)
 else if ndK n=4 then tkW za7::tkN (ndC n)::zdc (ndI n)
 else if ndK n=5 then tkW zbm::zdc (ndI n)
 else if ndK n=6 then tkW zdk::tkN (ndC n)::zdc (ndI n)
 else if ndK n=7 then [tkW wNth,tkN (ndC n),tkN (ndN n),tkN (ndM n),zei (ndL n)]
 else if ndK n=18 then [tkR (ndS n)]
 else []
def ziN (b:List Tk) (n:Nd):List Tk:=
 if ndK n=11 then [tkW zeS,tkN (ndN n)]
 else if ndK n=12 then [tkW zhS,tkN (ndN n)]
 else if ndK n=13 then [tkW zeR,tkN (ndN n)]
 else if ndK n=14 then tkW ze1::zdc (ndI n)
 else if ndK n=15 then tkW zcz::zdc (ndI n)
 else if ndK n=16 then tkW wPos::tkN (ndC n)::zei (ndM n)::zdc (ndI n)
 else if ndK n=17 then tkW zbG::tkN (ndN n)::tkW wOf::b
 else []
def Tr.root:Tr->Nd
 | .leaf n=>n
 | .un n _=>n
 | .bin n _ _=>n
def Tr.lev (t:Tr):Int:=levS (ndK t.root)
def parT (c:Bool) (l:List Tk):List Tk:=if c then l else tkS 40::(l++ [tkS 41])
def Tr.toks:Tr->List Tk
 | .leaf n=>zj6 n
 | .un n a=>parT (decide (a.lev≥4)) a.toks++ziN [] n
 | .bin n a b=>if ndK n=17 then parT (decide (a.lev≥4)) a.toks++ziN (parT (decide (b.lev≥5)) b.toks) n
  else parT (decide (a.lev≥levS (ndK n))) a.toks++(tkW (opWd (levS (ndK n)))::parT (decide (b.lev≥levS (ndK n)+1)) b.toks)
def zbH (k:Int):Shp:=zcW.getD k.toNat (0,false,(0,0,()),())
def zdv (n:Nd):Bool:=bif (zbH (ndK n)).2.1 then inB (ndC n) 0 2 else ndC n==0
def zdm (w:List UInt8):Bool:=decide (w≠ [])&&decide (w.length≤32)&&(w.head?.all isLt&&w.all isPt)
def zf3 (n:Nd):Bool:=bif ndK n==18 then zdm (ndS n) else decide (ndS n=[])
def zbA (n:Nd):Bool:=inB (ndK n) 1 18&&decide ((ndI n).length≤64)&&(zdv n&&(zf3 n&&(zaQ (ndI n) (zbH (ndK n)).2.2.1&&zbz n)))
def TrOk:Tr->Prop
 | .leaf n=>zbA n=true∧¬ (8≤ndK n∧ndK n≤17)∧ndR n=0∧(ndK n≠7->ndL n=0)
 | .un n a=>zbA n=true∧(11≤ndK n∧ndK n≤16)∧(ndL n=0∧ndR n=0)∧TrOk a
 | .bin n a b=>zbA n=true∧((8≤ndK n∧ndK n≤10)∨ndK n=17)∧(ndL n=0∧ndR n=0)∧TrOk a∧TrOk b
theorem zaM {n lo hi:Int}:inB n lo hi=true↔lo≤n∧n≤hi:=by
 unfold inB;rw[zf,decide_eq_true_iff,decide_eq_true_iff]
theorem zaI {n:Nd} (h:zbA n=true):(1≤ndK n∧ndK n≤18)∧(ndI n).length≤64∧zdv n=true∧zf3 n=true∧zaQ (ndI n) (zbH (ndK n)).2.2.1=true∧zbz n=true:=by
 unfold zbA at h;simp only[zf,zaM,decide_eq_true_iff]at h;exact⟨h.1.1,h.1.2,h.2.1,h.2.2.1,h.2.2.2.1,h.2.2.2.2⟩
theorem ris_of {l:List Int} {lo hi:Int} (h:∀ i,i < l.length->zee l (lo,hi,()) i=false):Ris lo hi (decide (¬ lo < 0)) (lo - 1) l:=by
 have key:∀ (r p:List Int) (last:Int),l=p++r->(p≠ []->last=l.getD (p.length - 1) 0)->(p=[]->last=lo - 1)->Ris lo hi (decide (¬ lo < 0)) last r:=by
  intro r
  induction r with
  |nil=>intro p last _ _ _;trivial
  |cons x r ih=>
   intro p last hl hp hp0;have hlen:p.length < l.length:=by rw[hl,zh,zs];omega
   have hx:l.getD p.length 0=x:=by
    rw[hl,zx,qI (zk _),Nat.sub_self];rfl
   have hb:=h p.length hlen;unfold zee at hb;rw[hx]at hb;simp only[xD,xe,zaM,qM,decide_eq_false_iff_not,beq_eq_false_iff_ne]at hb;obtain⟨⟨⟨b1,b2⟩,b3⟩,b4⟩:=hb;refine⟨?_,b1,b2,?_,ih (p++ [x]) x (by rw[hl];simp) (fun _=>?_) (fun e=>by simp at e)⟩
   ·cases p with
    |nil=>rw[hp0 rfl];omega
    |cons y p=>
     rw[hp (by simp)];rcases b3 with b3|b3
     ·exact absurd (by simp:0 < (y::p).length) b3
     ·omega
   ·rcases b4 with b4|b4
    ·exact .inr b4
    ·exact .inl (decide_eq_true b4)
   ·rw[show (p++ [x]).length - 1=p.length by simp,hx]
 exact key l [] (lo - 1) rfl (fun h=>absurd rfl h) fun _=>rfl
theorem ze8 {l:List Int} {lo hi:Int} (h0:¬ (lo=0∧hi=0)) (h:zaQ l (lo,hi,())=true):l≠ []∧Ris lo hi (decide (¬ lo < 0)) (lo - 1) l:=by
 have hz:zh0 (lo,hi,())=false:=by
  rw[qa];intro e;unfold zh0 at e;rw[zf,beq_iff_eq,beq_iff_eq]at e;exact h0 e
 unfold zaQ at h;rw[hz,cond_false,zf,decide_eq_true_iff,zM]at h;refine⟨fun e=>by rw[e]at h;exact absurd h.2 (by decide),ris_of fun i hi=>?_⟩;have:=h.1 i (ym.2 hi);rwa[zr]at this
theorem zdn {l:List Int} (h:zaQ l (0,0,())=true):l=[]:=by
 have h:(((l.length:Nat):Int)==0)=true:=h;have:=beq_iff_eq.1 h;exact List.eq_nil_of_length_eq_zero (by omega)
theorem fld1 {n:Nd} (h:zbA n=true) (k:ndK n=1):n=(1,0,ndL n,ndR n,ndN n,ndM n,[],[],())∧(1≤ndN n∧ndN n≤1099511627776)∧(0≤ndM n∧ndM n≤1099511627776):=by
 obtain⟨_,hlen,hc,hm,hl,hn⟩:=zaI h;obtain⟨k',c,L,R,N,M,I,S,⟨⟩⟩:=n;obtain rfl:k'=1:=k;have hc2:(c==0)=true:=hc;obtain rfl:=beq_iff_eq.1 hc2;have hm2:decide (S=[])=true:=hm;obtain rfl:=of_decide_eq_true hm2;obtain rfl:=zdn (show zaQ I (0,0,())=true from hl);have hn2:(bif inB N 1 1099511627776 then inB M 0 1099511627776 else false)=true:=hn;simp only[zcS,zf,zaM,beq_iff_eq,zr,beq_eq_false_iff_ne]at hn2;exact⟨rfl,hn2.1,hn2.2⟩
theorem fld2 {n:Nd} (h:zbA n=true) (k:ndK n=2):n=(2,ndC n,ndL n,ndR n,ndN n,ndM n,[],[],())∧(0≤ndC n∧ndC n≤2)∧(1≤ndN n∧ndN n≤400)∧(0≤ndM n∧ndM n≤ndN n - 1):=by
 obtain⟨_,hlen,hc,hm,hl,hn⟩:=zaI h;obtain⟨k',c,L,R,N,M,I,S,⟨⟩⟩:=n;obtain rfl:k'=2:=k;have hc2:inB c 0 2=true:=hc;rw[zaM]at hc2;have hm2:decide (S=[])=true:=hm;obtain rfl:=of_decide_eq_true hm2;obtain rfl:=zdn (show zaQ I (0,0,())=true from hl);have hn2:(bif inB N 1 400 then inB M 0 (N - 1) else false)=true:=hn;simp only[zcS,zf,zaM,beq_iff_eq,zr,beq_eq_false_iff_ne]at hn2;exact⟨rfl,hc2,hn2.1,hn2.2⟩
theorem fld3 {n:Nd} (h:zbA n=true) (k:ndK n=3):n=(3,ndC n,ndL n,ndR n,0,0,ndI n,[],())∧(0≤ndC n∧ndC n≤2)∧(ndI n≠ []∧(ndI n).length≤64∧Ris (1) 16 true (0) (ndI n)):=by
 obtain⟨_,hlen,hc,hm,hl,hn⟩:=zaI h;obtain⟨k',c,L,R,N,M,I,S,⟨⟩⟩:=n;obtain rfl:k'=3:=k;have hc2:inB c 0 2=true:=hc;rw[zaM]at hc2;have hm2:decide (S=[])=true:=hm;obtain rfl:=of_decide_eq_true hm2;have hl2:=ze8 (by decide) (show zaQ I (1,16,())=true from hl);have hn2:(bif N==0 then M==0 else false)=true:=hn;simp only[zcS,zf,zaM,beq_iff_eq,zr,beq_eq_false_iff_ne]at hn2;obtain⟨rfl,rfl⟩:=hn2;exact⟨rfl,hc2,⟨hl2.1,hlen,hl2.2⟩⟩
theorem fld4 {n:Nd} (h:zbA n=true) (k:ndK n=4):n=(4,ndC n,ndL n,ndR n,0,0,ndI n,[],())∧(0≤ndC n∧ndC n≤2)∧(ndI n≠ []∧(ndI n).length≤64∧Ris (-40) 40 false (-41) (ndI n)):=by
 obtain⟨_,hlen,hc,hm,hl,hn⟩:=zaI h;obtain⟨k',c,L,R,N,M,I,S,⟨⟩⟩:=n;obtain rfl:k'=4:=k;have hc2:inB c 0 2=true:=hc;rw[zaM]at hc2;have hm2:decide (S=[])=true:=hm;obtain rfl:=of_decide_eq_true hm2;have hl2:=ze8 (by decide) (show zaQ I (-40,40,())=true from hl);have hn2:(bif N==0 then M==0 else false)=true:=hn;simp only[zcS,zf,zaM,beq_iff_eq,zr,beq_eq_false_iff_ne]at hn2;obtain⟨rfl,rfl⟩:=hn2;exact⟨rfl,hc2,⟨hl2.1,hlen,hl2.2⟩⟩
theorem fld5 {n:Nd} (h:zbA n=true) (k:ndK n=5):n=(5,0,ndL n,ndR n,0,0,ndI n,[],())∧(ndI n≠ []∧(ndI n).length≤64∧Ris (0) 6 true (-1) (ndI n)):=by
 obtain⟨_,hlen,hc,hm,hl,hn⟩:=zaI h;obtain⟨k',c,L,R,N,M,I,S,⟨⟩⟩:=n;obtain rfl:k'=5:=k;have hc2:(c==0)=true:=hc;obtain rfl:=beq_iff_eq.1 hc2;have hm2:decide (S=[])=true:=hm;obtain rfl:=of_decide_eq_true hm2;have hl2:=ze8 (by decide) (show zaQ I (0,6,())=true from hl);have hn2:(bif N==0 then M==0 else false)=true:=hn;simp only[zcS,zf,zaM,beq_iff_eq,zr,beq_eq_false_iff_ne]at hn2;obtain⟨rfl,rfl⟩:=hn2;exact⟨rfl,⟨hl2.1,hlen,hl2.2⟩⟩
theorem fld6 {n:Nd} (h:zbA n=true) (k:ndK n=6):n=(6,ndC n,ndL n,ndR n,0,0,ndI n,[],())∧(0≤ndC n∧ndC n≤2)∧(ndI n≠ []∧(ndI n).length≤64∧Ris (1) 54 true (0) (ndI n)):=by
 obtain⟨_,hlen,hc,hm,hl,hn⟩:=zaI h;obtain⟨k',c,L,R,N,M,I,S,⟨⟩⟩:=n;obtain rfl:k'=6:=k;have hc2:inB c 0 2=true:=hc;rw[zaM]at hc2;have hm2:decide (S=[])=true:=hm;obtain rfl:=of_decide_eq_true hm2;have hl2:=ze8 (by decide) (show zaQ I (1,54,())=true from hl);have hn2:(bif N==0 then M==0 else false)=true:=hn;simp only[zcS,zf,zaM,beq_iff_eq,zr,beq_eq_false_iff_ne]at hn2;obtain⟨rfl,rfl⟩:=hn2;exact⟨rfl,hc2,⟨hl2.1,hlen,hl2.2⟩⟩
theorem fld7 {n:Nd} (h:zbA n=true) (k:ndK n=7):n=(7,ndC n,ndL n,ndR n,ndN n,ndM n,[],[],())∧(0≤ndC n∧ndC n≤2)∧(-60≤ndN n∧ndN n≤60)∧ndN n≠0∧(0≤ndM n∧ndM n≤6)∧(0≤ndL n∧ndL n≤1):=by
 obtain⟨_,hlen,hc,hm,hl,hn⟩:=zaI h;obtain⟨k',c,L,R,N,M,I,S,⟨⟩⟩:=n;obtain rfl:k'=7:=k;have hc2:inB c 0 2=true:=hc;rw[zaM]at hc2;have hm2:decide (S=[])=true:=hm;obtain rfl:=of_decide_eq_true hm2;obtain rfl:=zdn (show zaQ I (0,0,())=true from hl);have hn2:(bif (bif (bif inB N (-60) 60 then !(N==0) else false) then inB M 0 6 else false) then inB L 0 1 else false)=true:=hn;simp only[zcS,zf,zaM,beq_iff_eq,zr,beq_eq_false_iff_ne]at hn2;exact⟨rfl,hc2,hn2.1.1.1,hn2.1.1.2,hn2.1.2,hn2.2⟩
theorem fld8 {n:Nd} (h:zbA n=true) (k:ndK n=8):n=(8,0,ndL n,ndR n,0,0,[],[],()):=by
 obtain⟨_,hlen,hc,hm,hl,hn⟩:=zaI h;obtain⟨k',c,L,R,N,M,I,S,⟨⟩⟩:=n;obtain rfl:k'=8:=k;have hc2:(c==0)=true:=hc;obtain rfl:=beq_iff_eq.1 hc2;have hm2:decide (S=[])=true:=hm;obtain rfl:=of_decide_eq_true hm2;obtain rfl:=zdn (show zaQ I (0,0,())=true from hl);have hn2:(bif N==0 then M==0 else false)=true:=hn;simp only[zcS,zf,zaM,beq_iff_eq,zr,beq_eq_false_iff_ne]at hn2;obtain⟨rfl,rfl⟩:=hn2;exact rfl
theorem fld9 {n:Nd} (h:zbA n=true) (k:ndK n=9):n=(9,0,ndL n,ndR n,0,0,[],[],()):=by
 obtain⟨_,hlen,hc,hm,hl,hn⟩:=zaI h;obtain⟨k',c,L,R,N,M,I,S,⟨⟩⟩:=n;obtain rfl:k'=9:=k;have hc2:(c==0)=true:=hc;obtain rfl:=beq_iff_eq.1 hc2;have hm2:decide (S=[])=true:=hm;obtain rfl:=of_decide_eq_true hm2;obtain rfl:=zdn (show zaQ I (0,0,())=true from hl);have hn2:(bif N==0 then M==0 else false)=true:=hn;simp only[zcS,zf,zaM,beq_iff_eq,zr,beq_eq_false_iff_ne]at hn2;obtain⟨rfl,rfl⟩:=hn2;exact rfl
theorem fld10 {n:Nd} (h:zbA n=true) (k:ndK n=10):n=(10,0,ndL n,ndR n,0,0,[],[],()):=by
 obtain⟨_,hlen,hc,hm,hl,hn⟩:=zaI h;obtain⟨k',c,L,R,N,M,I,S,⟨⟩⟩:=n;obtain rfl:k'=10:=k;have hc2:(c==0)=true:=hc;obtain rfl:=beq_iff_eq.1 hc2;have hm2:decide (S=[])=true:=hm;obtain rfl:=of_decide_eq_true hm2;obtain rfl:=zdn (show zaQ I (0,0,())=true from hl);have hn2:(bif N==0 then M==0 else false)=true:=hn;simp only[zcS,zf,zaM,beq_iff_eq,zr,beq_eq_false_iff_ne]at hn2;obtain⟨rfl,rfl⟩:=hn2;exact rfl
theorem ztv {n:Nd} (h:zbA n=true) (k:ndK n=11):n=(11,0,ndL n,ndR n,ndN n,0,[],[],())∧(-1099511627776≤ndN n∧ndN n≤1099511627776):=by
 obtain⟨_,hlen,hc,hm,hl,hn⟩:=zaI h;obtain⟨k',c,L,R,N,M,I,S,⟨⟩⟩:=n;obtain rfl:k'=11:=k;have hc2:(c==0)=true:=hc;obtain rfl:=beq_iff_eq.1 hc2;have hm2:decide (S=[])=true:=hm;obtain rfl:=of_decide_eq_true hm2;obtain rfl:=zdn (show zaQ I (0,0,())=true from hl);have hn2:(bif inB N (-1099511627776) 1099511627776 then M==0 else false)=true:=hn;simp only[zcS,zf,zaM,beq_iff_eq,zr,beq_eq_false_iff_ne]at hn2;obtain rfl:=hn2.2;exact⟨rfl,hn2.1⟩
theorem ztu {n:Nd} (h:zbA n=true) (k:ndK n=12):n=(12,0,ndL n,ndR n,ndN n,0,[],[],())∧(0≤ndN n∧ndN n≤1099511627776):=by
 obtain⟨_,hlen,hc,hm,hl,hn⟩:=zaI h;obtain⟨k',c,L,R,N,M,I,S,⟨⟩⟩:=n;obtain rfl:k'=12:=k;have hc2:(c==0)=true:=hc;obtain rfl:=beq_iff_eq.1 hc2;have hm2:decide (S=[])=true:=hm;obtain rfl:=of_decide_eq_true hm2;obtain rfl:=zdn (show zaQ I (0,0,())=true from hl);have hn2:(bif inB N 0 1099511627776 then M==0 else false)=true:=hn;simp only[zcS,zf,zaM,beq_iff_eq,zr,beq_eq_false_iff_ne]at hn2;obtain rfl:=hn2.2;exact⟨rfl,hn2.1⟩
theorem ztt {n:Nd} (h:zbA n=true) (k:ndK n=13):n=(13,0,ndL n,ndR n,ndN n,0,[],[],())∧(0≤ndN n∧ndN n≤1099511627776):=by
 obtain⟨_,hlen,hc,hm,hl,hn⟩:=zaI h;obtain⟨k',c,L,R,N,M,I,S,⟨⟩⟩:=n;obtain rfl:k'=13:=k;have hc2:(c==0)=true:=hc;obtain rfl:=beq_iff_eq.1 hc2;have hm2:decide (S=[])=true:=hm;obtain rfl:=of_decide_eq_true hm2;obtain rfl:=zdn (show zaQ I (0,0,())=true from hl);have hn2:(bif inB N 0 1099511627776 then M==0 else false)=true:=hn;simp only[zcS,zf,zaM,beq_iff_eq,zr,beq_eq_false_iff_ne]at hn2;obtain rfl:=hn2.2;exact⟨rfl,hn2.1⟩
theorem zrr {n:Nd} (h:zbA n=true) (k:ndK n=14):n=(14,0,ndL n,ndR n,0,0,ndI n,[],())∧(ndI n≠ []∧(ndI n).length≤64∧Ris (0) 1099511627776 true (-1) (ndI n)):=by
 obtain⟨_,hlen,hc,hm,hl,hn⟩:=zaI h;obtain⟨k',c,L,R,N,M,I,S,⟨⟩⟩:=n;obtain rfl:k'=14:=k;have hc2:(c==0)=true:=hc;obtain rfl:=beq_iff_eq.1 hc2;have hm2:decide (S=[])=true:=hm;obtain rfl:=of_decide_eq_true hm2;have hl2:=ze8 (by decide) (show zaQ I (0,1099511627776,())=true from hl);have hn2:(bif N==0 then M==0 else false)=true:=hn;simp only[zcS,zf,zaM,beq_iff_eq,zr,beq_eq_false_iff_ne]at hn2;obtain⟨rfl,rfl⟩:=hn2;exact⟨rfl,⟨hl2.1,hlen,hl2.2⟩⟩
theorem zrq {n:Nd} (h:zbA n=true) (k:ndK n=15):n=(15,0,ndL n,ndR n,0,0,ndI n,[],())∧(ndI n≠ []∧(ndI n).length≤64∧Ris (0) 1099511627776 true (-1) (ndI n)):=by
 obtain⟨_,hlen,hc,hm,hl,hn⟩:=zaI h;obtain⟨k',c,L,R,N,M,I,S,⟨⟩⟩:=n;obtain rfl:k'=15:=k;have hc2:(c==0)=true:=hc;obtain rfl:=beq_iff_eq.1 hc2;have hm2:decide (S=[])=true:=hm;obtain rfl:=of_decide_eq_true hm2;have hl2:=ze8 (by decide) (show zaQ I (0,1099511627776,())=true from hl);have hn2:(bif N==0 then M==0 else false)=true:=hn;simp only[zcS,zf,zaM,beq_iff_eq,zr,beq_eq_false_iff_ne]at hn2;obtain⟨rfl,rfl⟩:=hn2;exact⟨rfl,⟨hl2.1,hlen,hl2.2⟩⟩
theorem zrp {n:Nd} (h:zbA n=true) (k:ndK n=16):n=(16,ndC n,ndL n,ndR n,0,ndM n,ndI n,[],())∧(0≤ndC n∧ndC n≤2)∧(ndI n≠ []∧(ndI n).length≤64∧Ris (-400) 400 false (-401) (ndI n))∧(0≤ndM n∧ndM n≤1):=by
 obtain⟨_,hlen,hc,hm,hl,hn⟩:=zaI h;obtain⟨k',c,L,R,N,M,I,S,⟨⟩⟩:=n;obtain rfl:k'=16:=k;have hc2:inB c 0 2=true:=hc;rw[zaM]at hc2;have hm2:decide (S=[])=true:=hm;obtain rfl:=of_decide_eq_true hm2;have hl2:=ze8 (by decide) (show zaQ I (-400,400,())=true from hl);have hn2:(bif N==0 then inB M 0 1 else false)=true:=hn;simp only[zcS,zf,zaM,beq_iff_eq,zr,beq_eq_false_iff_ne]at hn2;obtain rfl:=hn2.1;exact⟨rfl,hc2,⟨hl2.1,hlen,hl2.2⟩,hn2.2⟩
theorem zts {n:Nd} (h:zbA n=true) (k:ndK n=17):n=(17,0,ndL n,ndR n,ndN n,0,[],[],())∧(1≤ndN n∧ndN n≤400):=by
 obtain⟨_,hlen,hc,hm,hl,hn⟩:=zaI h;obtain⟨k',c,L,R,N,M,I,S,⟨⟩⟩:=n;obtain rfl:k'=17:=k;have hc2:(c==0)=true:=hc;obtain rfl:=beq_iff_eq.1 hc2;have hm2:decide (S=[])=true:=hm;obtain rfl:=of_decide_eq_true hm2;obtain rfl:=zdn (show zaQ I (0,0,())=true from hl);have hn2:(bif inB N 1 400 then M==0 else false)=true:=hn;simp only[zcS,zf,zaM,beq_iff_eq,zr,beq_eq_false_iff_ne]at hn2;obtain rfl:=hn2.2;exact⟨rfl,hn2.1⟩
theorem ztr {n:Nd} (h:zbA n=true) (k:ndK n=18):n=(18,0,ndL n,ndR n,0,0,[],ndS n,())∧zdm (ndS n)=true:=by
 obtain⟨_,hlen,hc,hm,hl,hn⟩:=zaI h;obtain⟨k',c,L,R,N,M,I,S,⟨⟩⟩:=n;obtain rfl:k'=18:=k;have hc2:(c==0)=true:=hc;obtain rfl:=beq_iff_eq.1 hc2;have hm2:zdm S=true:=hm;obtain rfl:=zdn (show zaQ I (0,0,())=true from hl);have hn2:(bif N==0 then M==0 else false)=true:=hn;simp only[zcS,zf,zaM,beq_iff_eq,zr,beq_eq_false_iff_ne]at hn2;obtain⟨rfl,rfl⟩:=hn2;exact⟨rfl,hm2⟩
def resQ (s:List UInt8):Nat->GSt->GE (Tr×GSt)
 |0,st=>prsT s (.bin 0) st
 |1,st=>prsT s (.bin 1) st
 |2,st=>prsT s (.bin 2) st
 |3,st=>prsT s .chain st
 |_,st=>prsT s .prim st
def contQ (s:List UInt8):Nat->Tr->GSt->GE (Tr×GSt)
 |0,t,st=>prsT s (.binL 0 t) st
 |1,t,st=>prsT s (.binL 1 t) st
 |2,t,st=>prsT s (.binL 2 t) st
 |3,t,st=>prsT s (.chainL t) st
 |_,t,st=>.ok (t,st)
def zqP:List Tk->Prop
 | []=>True
 |a::_=>a.1=1->sufW a.2.1=none
def ztq:Nat->List Tk->Prop
 |0,l=>tkIs zlF l=false∧tkIs wAnd l=false∧zqP l
 |1,l=>tkIs wAnd l=false∧zqP l
 |2,l=>zqP l
 |_,_=>True
def Qt (i:Nat) (T:List Tk) (t:Tr):Prop:=∀ (s:List UInt8) (st:GSt) (l:List Tk),GOk s st->Sq s st.1 (T++l)->st.2+(t.size:Int)≤64->ztq i l->∃ st',resQ s i st=contQ s i t st'∧Got s st t.size l st'
section
variable {s:List UInt8}
theorem zos {st:GSt} {l:List Tk} {t:Tr} (hg:GOk s st) (h:Sq s st.1 l) (hf:zqP l):prsT s (.chainL t) st= .ok (t,st):=by
 cases l with
 |nil=>
  have h:zQ st.1=0:=h;exact zem hg (by rw[h];decide)
 |cons a l=>
  have hf:a.1=1->sufW a.2.1=none:=hf;obtain⟨_,e,_⟩:=h;have e1:zQ st.1=a.1:=congrArg (fun a=>a.1) e;have e2:zR st.1=a.2.1:=congrArg (fun a=>a.2.1) e;by_cases hc:a.1=1
  ·exact zgl hg (by rw[e1,hc]) (by rw[e2];exact hf hc)
  ·exact zem hg (by rw[e1];exact hc)
theorem zil {i:Nat} {st:GSt} {l:List Tk} {t:Tr} (hg:GOk s st) (h:Sq s st.1 l) (hf:tkIs (opW i) l=false):prsT s (.binL i t) st= .ok (t,st):=zio hg (by rw[zhW h];exact hf)
theorem Qt.chain {T:List Tk} {t:Tr} (h:Qt 4 T t):Qt 3 T t:=fun s st l hg hq hn hf=>by
 obtain⟨st',e,g⟩:=h s st l hg hq hn trivial;have e:prsT s .prim st= .ok (t,st'):=e;exact⟨st',by show prsT s .chain st=prsT s (.chainL t) st';rw[zim hg];exact okb e _,g⟩
theorem Qt.up3 {T:List Tk} {t:Tr} (h:Qt 3 T t):Qt 2 T t:=fun s st l hg hq hn hf=>by
 obtain⟨st',e,g⟩:=h s st l hg hq hn trivial;have e:prsT s .chain st=prsT s (.chainL t) st':=e;rw[zos g.ok g.sq hf]at e;refine⟨st',?_,g⟩;show prsT s (.bin 2) st=prsT s (.binL 2 t) st';rw[zgJ hg (by decide),zhd hg (by decide)];exact okb e _
theorem Qt.up2 {T:List Tk} {t:Tr} (h:Qt 2 T t):Qt 1 T t:=fun s st l hg hq hn hf=>by
 obtain⟨st',e,g⟩:=h s st l hg hq hn hf.2;have e:prsT s (.bin 2) st=prsT s (.binL 2 t) st':=e;rw[zil (i:=2) g.ok g.sq hf.1]at e;refine⟨st',?_,g⟩;show prsT s (.bin 1) st=prsT s (.binL 1 t) st';rw[zgJ hg (by decide)];exact okb e _
theorem Qt.up1 {T:List Tk} {t:Tr} (h:Qt 1 T t):Qt 0 T t:=fun s st l hg hq hn hf=>by
 obtain⟨st',e,g⟩:=h s st l hg hq hn hf.2;have e:prsT s (.bin 1) st=prsT s (.binL 1 t) st':=e;rw[zil (i:=1) g.ok g.sq hf.1]at e;refine⟨st',?_,g⟩;show prsT s (.bin 0) st=prsT s (.binL 0 t) st';rw[zgJ hg (by decide)];exact okb e _
theorem Qt.up {T:List Tk} {t:Tr}:∀ {j i:Nat},Qt j T t->i≤j->j≤4->Qt i T t:=by
 intro j i h hij hj;have h4:j=4->∀ i,i≤4->Qt i T t:=by
  rintro rfl i hi;rcases (show i=0∨i=1∨i=2∨i=3∨i=4 by omega) with rfl|rfl|rfl|rfl|rfl
  ·exact h.chain.up3.up2.up1
  ·exact h.chain.up3.up2
  ·exact h.chain.up3
  ·exact h.chain
  ·exact h
 rcases (show j=0∨j=1∨j=2∨j=3∨j=4 by omega) with rfl|rfl|rfl|rfl|rfl
 ·obtain rfl:i=0:=by omega
  exact h
 ·rcases (show i=0∨i=1 by omega) with rfl|rfl
  ·exact h.up1
  ·exact h
 ·rcases (show i=0∨i=1∨i=2 by omega) with rfl|rfl|rfl
  ·exact h.up2.up1
  ·exact h.up2
  ·exact h
 ·rcases (show i=0∨i=1∨i=2∨i=3 by omega) with rfl|rfl|rfl|rfl
  ·exact h.up3.up2.up1
  ·exact h.up3.up2
  ·exact h.up3
  ·exact h
 ·exact h4 rfl i hij
theorem Qt.par {T:List Tk} {t:Tr} (h:Qt 0 T t):Qt 4 (tkS 40::(T++ [tkS 41])) t:=fun s st l hg hq hn hf=>by
 have hq:Sq s st.1 (tkS 40::(T++ [tkS 41]++l)):=hq;have i1:gIs st zfh=true:=by rw[zhW hq];rfl
 have g1:=zqE hg hq;have q1:=g1.sq;rw[zu]at q1;obtain⟨st',e,g2⟩:=h s (gAdv s st) (tkS 41::l) g1.ok q1 hn ⟨rfl,rfl,fun e=>by cases e⟩;have e:prsT s (.bin 0) (gAdv s st)=prsT s (.binL 0 t) st':=e;rw[zil g2.ok g2.sq rfl]at e;obtain⟨e3,g3⟩:=zgI (w:=zdb) g2.ok g2.sq rfl;refine⟨gAdv s st',?_,?_⟩
 ·show prsT s .prim st= .ok (t,gAdv s st');rw[zcP hg,zbs,if_pos i1];exact (okb e _).trans ((okb e3 _).trans rfl)
 ·have:=(g1.trans g2).trans0 g3;rwa[uF]at this
theorem zhb {st:GSt} {w:List UInt8} {lw:LeafW} {T l:List Tk} {n:Nd} (hw:zgC w=some lw) (hw1:w≠zfh) (hg:GOk s st) (h:Sq s st.1 (tkW w::(T++l))) (hn:st.2+1≤64)
  (hl:∀ st1,GOk s st1->Sq s st1.1 (T++l)->∃ st2,zds s st1 lw= .ok (n,st2)∧Got s st1 0 l st2):∃ st',prsT s .prim st= .ok (.leaf n,st')∧Got s st 1 l st':=by
 have i1:gIs st zfh=false:=by
  rw[zhW h];show (true&&decide (w=zfh))=false;rw[decide_eq_false hw1];rfl
 obtain⟨e0,g0⟩:=ziY hg h (by omega);obtain⟨_,e,_⟩:=id h;have e1:zQ st.1=1:=congrArg (fun a=>a.1) e;have e2:zR st.1=w:=congrArg (fun a=>a.2.1) e;obtain⟨st2,e3,g3⟩:=hl _ g0.ok g0.sq;refine⟨st2,?_,g0.trans0 g3⟩;rw[zcP hg,zbs,if_neg (by rw[i1];exact zF),if_neg (by rw[e1];decide)];have c0:zaH st (zQ st.1==1) 3= .ok ():=by rw[e1];rfl
 refine (okb c0 _).trans ?_;rw[e2,hw];exact (okb e0 _).trans ((okb e3 _).trans rfl)
theorem q_ref {st:GSt} {w:List UInt8} {l:List Tk} (hw:w.length≤32) (hg:GOk s st) (h:Sq s st.1 (tkR w::l)) (hn:st.2+1≤64):∃ st',prsT s .prim st= .ok (.leaf (18,0,0,0,0,0,[],w,()),st')∧Got s st 1 l st':=by
 have i1:gIs st zfh=false:=by rw[zhW h];rfl
 obtain⟨e0,g0⟩:=ziY hg h (by omega);obtain⟨_,e,_⟩:=id h;have e1:zQ st.1=2:=congrArg (fun a=>a.1) e;have e2:zR st.1=w:=congrArg (fun a=>a.2.1) e;refine⟨_,?_,g0⟩;rw[zcP hg,zbs,if_neg (by rw[i1];exact zF),if_pos e1];have c0:zaH st (decide ((zR st.1).length≤32)) 2= .ok ():=by rw[e2,decide_eq_true hw];rfl
 refine (okb c0 _).trans ((okb e0 _).trans ?_);rw[e2];rfl
theorem setN {n:Nd} {k c L R N M:Int} {I:List Int} {S:List UInt8} (e:n=(k,c,ndL n,ndR n,N,M,I,S,())) (hL:ndL n=L) (hR:ndR n=R):n=(k,c,L,R,N,M,I,S,()):=by rw[<-hL, <-hR];exact e
theorem zsM {n:Nd} (h:TrOk (.leaf n)):Qt 4 (zj6 n) (.leaf n):=fun s st l hg hq hn hf=>by
 obtain⟨h1,h2,hR,hL⟩:=h;have hn:st.2+1≤64:=hn;obtain⟨⟨k1,k2⟩,_⟩:=zaI h1;show ∃ st',prsT s .prim st= .ok (.leaf n,st')∧Got s st 1 l st';unfold zj6 at hq;rcases (show ndK n=1∨ndK n=2∨ndK n=3∨ndK n=4∨ndK n=5∨ndK n=6∨ndK n=7∨ndK n=18 by omega) with k|k|k|k|k|k|k|k<;>rw[k]at hq hL
 ·obtain⟨e,b1,b2⟩:=fld1 h1 k;have e:=setN e (hL (by decide)) hR;refine zhb (w:=ziK) (lw:=.days) (T:=[tkN (ndN n),tkN (ndM n)]) rfl (by decide) hg hq hn fun st1 g1 q1=>?_;obtain⟨a1,c1⟩:=zbx (lo:=1) (hi:=zdz) g1 q1 b1.1 b1.2;obtain⟨a2,c2⟩:=zbx (lo:=0) (hi:=zdz) c1.ok c1.sq b2.1 b2.2;refine⟨_,(okb a1 _).trans ((okb a2 _).trans ?_),c1.trans0 c2⟩
  conv=>rhs;rw[e]
  rfl
 ·obtain⟨e,b0,b1,b2⟩:=fld2 h1 k;have e:=setN e (hL (by decide)) hR;refine zhb (w:=zfg) (lw:=.years) (T:=[tkN (ndC n),tkN (ndN n),tkN (ndM n)]) rfl (by decide) hg hq hn fun st1 g1 q1=>?_;obtain⟨a0,c0⟩:=zbx (lo:=0) (hi:=2) g1 q1 b0.1 b0.2;obtain⟨a1,c1⟩:=zbx (lo:=1) (hi:=400) c0.ok c0.sq b1.1 b1.2;obtain⟨a2,c2⟩:=zbx (lo:=0) (hi:=ndN n - 1) c1.ok c1.sq b2.1 b2.2;refine⟨_,(okb a0 _).trans ((okb a1 _).trans ((okb a2 _).trans ?_)),(c0.trans0 c1).trans0 c2⟩
  conv=>rhs;rw[e]
  rfl
 ·obtain⟨e,b0,b1,b2,b3⟩:=fld3 h1 k;have e:=setN e (hL (by decide)) hR;refine zhb (w:=zcy) (lw:=.months) (T:=tkN (ndC n)::zdc (ndI n)) rfl (by decide) hg hq hn fun st1 g1 q1=>?_;obtain⟨a0,c0⟩:=zbx (lo:=0) (hi:=2) g1 q1 b0.1 b0.2;obtain⟨st2,a1,c1⟩:=zhc b1 b2 b3 c0.ok c0.sq;refine⟨_,(okb a0 _).trans ((okb a1 _).trans ?_),c0.trans0 c1⟩
  conv=>rhs;rw[e]
  rfl
 ·obtain⟨e,b0,b1,b2,b3⟩:=fld4 h1 k;have e:=setN e (hL (by decide)) hR;refine zhb (w:=za7) (lw:=.monthdays) (T:=tkN (ndC n)::zdc (ndI n)) rfl (by decide) hg hq hn fun st1 g1 q1=>?_;obtain⟨a0,c0⟩:=zbx (lo:=0) (hi:=2) g1 q1 b0.1 b0.2;obtain⟨st2,a1,c1⟩:=zhc b1 b2 b3 c0.ok c0.sq;refine⟨_,(okb a0 _).trans ((okb a1 _).trans ?_),c0.trans0 c1⟩
  conv=>rhs;rw[e]
  rfl
 ·obtain⟨e,b1,b2,b3⟩:=fld5 h1 k;have e:=setN e (hL (by decide)) hR;refine zhb (w:=zbm) (lw:=.weekdays) (T:=zdc (ndI n)) rfl (by decide) hg hq hn fun st1 g1 q1=>?_;obtain⟨st2,a1,c1⟩:=zhc b1 b2 b3 g1 q1;refine⟨_,(okb a1 _).trans ?_,c1⟩
  conv=>rhs;rw[e]
  rfl
 ·obtain⟨e,b0,b1,b2,b3⟩:=fld6 h1 k;have e:=setN e (hL (by decide)) hR;refine zhb (w:=zdk) (lw:=.weeks) (T:=tkN (ndC n)::zdc (ndI n)) rfl (by decide) hg hq hn fun st1 g1 q1=>?_;obtain⟨a0,c0⟩:=zbx (lo:=0) (hi:=2) g1 q1 b0.1 b0.2;obtain⟨st2,a1,c1⟩:=zhc b1 b2 b3 c0.ok c0.sq;refine⟨_,(okb a0 _).trans ((okb a1 _).trans ?_),c0.trans0 c1⟩
  conv=>rhs;rw[e]
  rfl
 ·obtain⟨e,b0,b1,bz,b2,b3⟩:=fld7 h1 k;have e:=setN e rfl hR;refine zhb (w:=wNth) (lw:=.nth) (T:=[tkN (ndC n),tkN (ndN n),tkN (ndM n),zei (ndL n)]) rfl (by decide) hg hq hn fun st1 g1 q1=>?_;obtain⟨a0,c0⟩:=zbx (lo:=0) (hi:=2) g1 q1 b0.1 b0.2;obtain⟨a1,c1⟩:=zbx (lo:=-60) (hi:=60) c0.ok c0.sq b1.1 b1.2;obtain⟨a2,c2⟩:=zbx (lo:=0) (hi:=6) c1.ok c1.sq b2.1 b2.2;obtain⟨a3,c3⟩:=zor (x:=ndL n) (by omega) c2.ok c2.sq;have cz:zaH (gAdv s st1) ((zQ (gAdv s st1).1 != 3)||(Tok.n (gAdv s st1).1 != 0)) 1= .ok ():=by
   have hq:=c0.sq;obtain⟨_,e,_⟩:=hq;have e2:Tok.n (gAdv s st1).1=ndN n:=congrArg (fun a=>a.2.2) e;rw[e2,bne_iff_ne.2 bz,yJ];rfl
  refine⟨_,(okb a0 _).trans ((okb cz _).trans ((okb a1 _).trans ((okb a2 _).trans ((okb a3 _).trans ?_)))),((c0.trans0 c1).trans0 c2).trans0 c3⟩
  conv=>rhs;rw[e]
  rfl
 ·obtain⟨e,b0⟩:=ztr h1 k;have e:=setN e (hL (by decide)) hR;have hl:(ndS n).length≤32:=by
   unfold zdm at b0;simp only[zf,decide_eq_true_iff]at b0;exact b0.1.2
  obtain⟨st',e1,g1⟩:=q_ref hl hg hq hn;refine⟨st',e1.trans ?_,g1⟩
  conv=>rhs;rw[e]
theorem zkV {st:GSt} {w:List UInt8} {sw:SufW} {T l:List Tk} {t t':Tr} {k:Int} (hw:sufW w=some sw) (hg:GOk s st) (h:Sq s st.1 (tkW w::(T++l))) (hn:st.2+1≤64)
  (hl:∀ st1,GOk s st1->st1.2=st.2+1->Sq s st1.1 (T++l)->∃ st2,sufT (s:=s) t st1 sw= .ok (t',st2)∧Got s st1 k l st2):∃ st',prsT s (.chainL t) st=prsT s (.chainL t') st'∧Got s st (1+k) l st':=by
 obtain⟨e0,g0⟩:=ziY hg h (by omega);obtain⟨_,e,_⟩:=id h;have e1:zQ st.1=1:=congrArg (fun a=>a.1) e;have e2:zR st.1=w:=congrArg (fun a=>a.2.1) e;obtain⟨st2,e3,g3⟩:=hl _ g0.ok rfl g0.sq;refine⟨st2,?_,g0.trans g3⟩;rw[zgm hg e1 (by rw[e2];exact hw)];exact (okb e0 _).trans ((okb e3 _).trans rfl)
theorem q_un {n:Nd} {a:Tr} {st:GSt} {l:List Tk} (h1:zbA n=true) (hk:11≤ndK n∧ndK n≤16) (hLR:ndL n=0∧ndR n=0) (hg:GOk s st) (hq:Sq s st.1 (ziN [] n++l)) (hn:st.2+1≤64):
  ∃ st',prsT s (.chainL a) st=prsT s (.chainL (.un n a)) st'∧Got s st 1 l st':=by
 unfold ziN at hq;rcases (show ndK n=11∨ndK n=12∨ndK n=13∨ndK n=14∨ndK n=15∨ndK n=16 by omega) with k|k|k|k|k|k<;>rw[k]at hq
 ·obtain⟨e,b1⟩:=ztv h1 k;have e:=setN e hLR.1 hLR.2;refine zkV (k:=0) (w:=zeS) (sw:=.shift) (T:=[tkN (ndN n)]) rfl hg hq hn fun st1 g1 _ q1=>?_;obtain⟨a1,c1⟩:=zbx (lo:=-zdz) (hi:=zdz) g1 q1 b1.1 b1.2;have hs:gSuf s st1 .shift= .ok ((11,0,0,0,ndN n,0,[],[],()),gAdv s st1):=(okb a1 _).trans rfl;refine⟨_,(okb hs _).trans ?_,c1⟩
  conv=>rhs;rw[e]
 ·obtain⟨e,b1⟩:=ztu h1 k;have e:=setN e hLR.1 hLR.2;refine zkV (k:=0) (w:=zhS) (sw:=.from_) (T:=[tkN (ndN n)]) rfl hg hq hn fun st1 g1 _ q1=>?_;obtain⟨a1,c1⟩:=zbx (lo:=0) (hi:=zdz) g1 q1 b1.1 b1.2;have hs:gSuf s st1 .from_= .ok ((12,0,0,0,ndN n,0,[],[],()),gAdv s st1):=(okb a1 _).trans rfl;refine⟨_,(okb hs _).trans ?_,c1⟩
  conv=>rhs;rw[e]
 ·obtain⟨e,b1⟩:=ztt h1 k;have e:=setN e hLR.1 hLR.2;refine zkV (k:=0) (w:=zeR) (sw:=.until_) (T:=[tkN (ndN n)]) rfl hg hq hn fun st1 g1 _ q1=>?_;obtain⟨a1,c1⟩:=zbx (lo:=0) (hi:=zdz) g1 q1 b1.1 b1.2;have hs:gSuf s st1 .until_= .ok ((13,0,0,0,ndN n,0,[],[],()),gAdv s st1):=(okb a1 _).trans rfl;refine⟨_,(okb hs _).trans ?_,c1⟩
  conv=>rhs;rw[e]
 ·obtain⟨e,b1,b2,b3⟩:=zrr h1 k;have e:=setN e hLR.1 hLR.2;refine zkV (k:=0) (w:=ze1) (sw:=.also) (T:=zdc (ndI n)) rfl hg hq hn fun st1 g1 _ q1=>?_;obtain⟨st2,a1,c1⟩:=zhc b1 b2 b3 g1 q1;have hs:gSuf s st1 .also= .ok ((14,0,0,0,0,0,ndI n,[],()),st2):=(okb a1 _).trans rfl;refine⟨_,(okb hs _).trans ?_,c1⟩
  conv=>rhs;rw[e]
 ·obtain⟨e,b1,b2,b3⟩:=zrq h1 k;have e:=setN e hLR.1 hLR.2;refine zkV (k:=0) (w:=zcz) (sw:=.except_) (T:=zdc (ndI n)) rfl hg hq hn fun st1 g1 _ q1=>?_;obtain⟨st2,a1,c1⟩:=zhc b1 b2 b3 g1 q1;have hs:gSuf s st1 .except_= .ok ((15,0,0,0,0,0,ndI n,[],()),st2):=(okb a1 _).trans rfl;refine⟨_,(okb hs _).trans ?_,c1⟩
  conv=>rhs;rw[e]
 ·obtain⟨e,b0,⟨b1,b2,b3⟩,b4⟩:=zrp h1 k;have e:=setN e hLR.1 hLR.2;refine zkV (k:=0) (w:=wPos) (sw:=.pos) (T:=tkN (ndC n)::zei (ndM n)::zdc (ndI n)) rfl hg hq hn fun st1 g1 _ q1=>?_;obtain⟨a0,c0⟩:=zbx (lo:=0) (hi:=2) g1 q1 b0.1 b0.2;obtain⟨a2,c2⟩:=zor (x:=ndM n) (by omega) c0.ok c0.sq;obtain⟨st2,a1,c1⟩:=zhc b1 b2 b3 c2.ok c2.sq;have hs:gSuf s st1 .pos= .ok ((16,ndC n,0,0,0,ndM n,ndI n,[],()),st2):=(okb a0 _).trans ((okb a2 _).trans ((okb a1 _).trans rfl));refine⟨_,(okb hs _).trans ?_,(c0.trans0 c2).trans0 c1⟩
  conv=>rhs;rw[e]
theorem zqD {n:Nd} {a b:Tr} {B:List Tk} {st:GSt} {l:List Tk} (h1:zbA n=true) (hk:ndK n=17) (hLR:ndL n=0∧ndR n=0) (hB:Qt 4 B b) (hg:GOk s st) (hq:Sq s st.1 (ziN B n++l)) (hn:st.2+1+(b.size:Int)≤64):
  ∃ st',prsT s (.chainL a) st=prsT s (.chainL (.bin n a b)) st'∧Got s st (1+b.size) l st':=by
 unfold ziN at hq;rw[hk]at hq;obtain⟨e,b1⟩:=zts h1 hk;have e:=setN e hLR.1 hLR.2;refine zkV (k:=b.size) (w:=zbG) (sw:=.behind) (T:=tkN (ndN n)::tkW wOf::B) rfl hg hq (by omega) fun st1 g1 hn1 q1=>?_;obtain⟨a1,c1⟩:=zbx (lo:=1) (hi:=400) g1 q1 b1.1 b1.2;obtain⟨a2,c2⟩:=zgI (w:=wOf) c1.ok c1.sq rfl;obtain⟨st',a3,c3⟩:=hB s _ l c2.ok c2.sq (by rw[c2.n,c1.n];omega) trivial;have a3:prsT s .prim (gAdv s (gAdv s st1))= .ok (b,st'):=a3;refine⟨st',?_,?_⟩
 ·have hs:gSuf s st1 .behind= .ok ((17,0,0,0,ndN n,0,[],[],()),gAdv s (gAdv s st1)):=(okb a1 _).trans ((okb a2 _).trans rfl);refine (okb hs _).trans ((okb a3 _).trans ?_)
  conv=>rhs;rw[e]
 ·have:=(c1.trans c2).trans c3;rwa[uF,uF]at this
def levI (t:Tr):Nat:=(t.lev - 1).toNat
theorem zk9 (k:Int):1≤levS k∧levS k≤5:=by
 unfold levS
 repeat' split
 all_goals omega
theorem zi4 {k:Int} (h:¬ (8≤k∧k≤17)):levS k=5:=by
 unfold levS;rw[if_neg (by omega),if_neg (by omega),if_neg (by omega),if_neg (by omega)]
theorem zi3 {k:Int} (h:11≤k∧k≤17):levS k=4:=by
 unfold levS;rw[if_neg (by omega),if_neg (by omega),if_neg (by omega),if_pos h]
theorem ziX {a:Tr} (h:Qt (levI a) a.toks a) {r:Int} {i:Nat} (hr:r=(i:Int)+1) (hi:i≤4):Qt i (parT (decide (a.lev≥r)) a.toks) a:=by
 obtain⟨l1,l5⟩:=zk9 (ndK a.root);have hl:levI a≤4:=by unfold levI Tr.lev;omega
 by_cases hc:a.lev≥r
 ·rw[decide_eq_true hc];refine h.up ?_ hl;unfold levI Tr.lev at *;omega
 ·rw[decide_eq_false hc];exact (Qt.par (h.up (zn _) hl)).up hi (zk _)
theorem zkW {i:Nat} {n:Nd} {a b:Tr} {A B:List Tk} (hi:i≤2) (hA:Qt i A a) (hB:Qt (i+1) B b) (hn0:n=(opK i,zNd.2)):Qt i (A++(tkW (opW i)::B)) (.bin n a b):=fun s st l hg hq hn hf=>by
 have hn:st.2+((a.size+b.size+1:Nat):Int)≤64:=hn;rw[zu]at hq;have hfa:ztq i (tkW (opW i)::B++l):=by
  rcases (show i=0∨i=1∨i=2 by omega) with rfl|rfl|rfl
  ·exact⟨rfl,rfl,fun _=>rfl⟩
  ·exact⟨rfl,fun _=>rfl⟩
  ·exact fun _=>rfl
 obtain⟨st1,e1,g1⟩:=hA s st _ hg hq (by omega) hfa;have q1:Sq s st1.1 (tkW (opW i)::(B++l)):=g1.sq;have n1:=g1.n;have hop:gIs st1 (opW i)=true:=by
  rw[zhW q1];show (true&&decide (opW i=opW i))=true;rw[decide_eq_true rfl];rfl
 obtain⟨e2,g2⟩:=ziY g1.ok q1 (by omega);have n2:=g2.n;have hfb:ztq (i+1) l:=by
  rcases (show i=0∨i=1∨i=2 by omega) with rfl|rfl|rfl
  ·exact hf.2
  ·exact hf.2
  ·trivial
 obtain⟨st3,e3,g3⟩:=hB s _ l g2.ok g2.sq (by rw[n2,n1];omega) hfb;have e4:prsT s (.bin (i+1)) (gAdv s (st1.1,st1.2+1))= .ok (b,st3):=by
  rcases (show i=0∨i=1∨i=2 by omega) with rfl|rfl|rfl
  ·have e3:prsT s (.bin 1) _=prsT s (.binL 1 b) st3:=e3;rw[zil (i:=1) g3.ok g3.sq hf.1]at e3;exact e3
  ·have e3:prsT s (.bin 2) _=prsT s (.binL 2 b) st3:=e3;rw[zil (i:=2) g3.ok g3.sq hf.1]at e3;exact e3
  ·have e3:prsT s .chain _=prsT s (.chainL b) st3:=e3;rw[zos g3.ok g3.sq hf]at e3;rw[zhd g2.ok (by decide)];exact e3
 have e5:prsT s (.binL i a) st1=prsT s (.binL i (.bin n a b)) st3:=by
  rw[zin g1.ok hop,hn0];exact (okb e2 _).trans ((okb e4 _).trans rfl)
 refine⟨st3,?_,?_⟩
 ·rw[e1];rcases (show i=0∨i=1∨i=2 by omega) with rfl|rfl|rfl
  ·exact e5
  ·exact e5
  ·exact e5
 ·have:=(g1.trans g2).trans g3;rwa[show (a.size:Int)+1+(b.size:Int)=((Tr.bin n a b).size:Int) by show _=((a.size+b.size+1:Nat):Int);omega]at this
theorem fld_op {n:Nd} (h:zbA n=true) (hk:8≤ndK n∧ndK n≤10) (hLR:ndL n=0∧ndR n=0):n=(ndK n,zNd.2):=by
 rcases (show ndK n=8∨ndK n=9∨ndK n=10 by omega) with k|k|k
 ·rw[k];exact setN (fld8 h k) hLR.1 hLR.2
 ·rw[k];exact setN (fld9 h k) hLR.1 hLR.2
 ·rw[k];exact setN (fld10 h k) hLR.1 hLR.2
theorem zeU:∀ t:Tr,TrOk t->Qt (levI t) t.toks t
 | .leaf n,h=>by
  have:levI (.leaf n)=4:=by
   show (levS (ndK n) - 1).toNat=4;rw[zi4 h.2.1];rfl
  rw[this];exact zsM h
 | .un n a,h=>by
  obtain⟨h1,hk,hLR,ha⟩:=h;have:levI (.un n a)=3:=by
   show (levS (ndK n) - 1).toNat=3;rw[zi3 (by omega)];rfl
  rw[this];intro s st l hg hq hn hf;have hn:st.2+((a.size+1:Nat):Int)≤64:=hn;have hq:Sq s st.1 (parT (decide (a.lev≥4)) a.toks++ziN [] n++l):=hq;rw[zu]at hq;obtain⟨st1,e1,g1⟩:=ziX (zeU a ha) (i:=3) rfl (by decide) s st _ hg hq (by omega) trivial;have n1:=g1.n;obtain⟨st2,e2,g2⟩:=q_un (a:=a) h1 hk hLR g1.ok g1.sq (by omega);exact⟨st2,Eq.trans e1 e2,g1.trans g2⟩
 | .bin n a b,h=>by
  obtain⟨h1,hk,hLR,ha,hb⟩:=h;by_cases h17:ndK n=17
  ·have:levI (.bin n a b)=3:=by
    show (levS (ndK n) - 1).toNat=3;rw[zi3 (by omega)];rfl
   rw[this];intro s st l hg hq hn hf;have hn:st.2+((a.size+b.size+1:Nat):Int)≤64:=hn;unfold Tr.toks at hq;rw[if_pos h17,zu]at hq;obtain⟨st1,e1,g1⟩:=ziX (zeU a ha) (i:=3) rfl (by decide) s st _ hg hq (by omega) trivial;have n1:=g1.n;obtain⟨st2,e2,g2⟩:=zqD (a:=a) h1 h17 hLR (ziX (zeU b hb) (r:=5) (i:=4) rfl (by decide)) g1.ok g1.sq (by omega);have:=g1.trans g2;rw[show (a.size:Int)+(1+(b.size:Int))=((Tr.bin n a b).size:Int) by show _=((a.size+b.size+1:Nat):Int);omega]at this;exact⟨st2,Eq.trans e1 e2,this⟩
  ·have hk:8≤ndK n∧ndK n≤10:=by omega
   have hn0:=fld_op h1 hk hLR;unfold Tr.toks;rw[if_neg h17];have hl:levI (.bin n a b)=(levS (ndK n) - 1).toNat:=rfl;rw[hl];rcases (show ndK n=8∨ndK n=9∨ndK n=10 by omega) with k|k|k<;>rw[k]at hn0 ⊢
   ·exact zkW (i:=2) (by decide) (ziX (zeU a ha) rfl (by decide)) (ziX (zeU b hb) (r:=4) rfl (by decide)) hn0
   ·exact zkW (i:=0) (by decide) (ziX (zeU a ha) rfl (by decide)) (ziX (zeU b hb) (r:=2) rfl (by decide)) hn0
   ·exact zkW (i:=1) (by decide) (ziX (zeU a ha) rfl (by decide)) (ziX (zeU b hb) (r:=3) rfl (by decide)) hn0
theorem q_rule {T:List Tk} {t:Tr} (hT:Qt 0 T t) (hs:t.size≤64) (h:Toks s 0 T):zeW s= .ok t:=by
 have hg:GOk s (zh3 s):=zgO;obtain⟨st',e,g⟩:=hT s (zh3 s) [] hg (by rw[zS];exact zkQ h) (by show (0:Int)+_≤64;omega) ⟨rfl,rfl,trivial⟩;have e:prsT s (.bin 0) (zh3 s)=prsT s (.binL 0 t) st':=e;rw[zil g.ok g.sq rfl]at e;have hc:zQ st'.1=0:=g.sq;have hr:zfG s (zh3 s)= .ok (t,st'):=by
  unfold zfG;refine (okb e _).trans ?_;have c0:zaH st' (zQ st'.1==0) 3= .ok ():=by rw[hc];rfl
  exact (okb c0 _).trans rfl
 unfold zeW;rw[hr];rfl
end
def Bd:List UInt8->Prop
 | []=>True
 |c::_=>isPt c=false
theorem Bd.app {r v:List UInt8} (h:Bd r) (hv:Bd v):Bd (r++v):=by
 cases r with
 |nil=>exact hv
 |cons c r=>exact h
def zeQ (k:Int) (u:List UInt8):TokT:=
 match u with
 | []=>(0,k,0,[],0,())
 |c::r=>
  if 0 < zax (c::r) then (1,k,(zax (c::r):Nat),(c::r).take (zax (c::r)),0,())
  else if c=64∧0 < zax r then (2,k,(zax r:Nat)+1,r.take (zax r),0,())
  else match zc3 (c::r) with
   |some (q,n,t,x)=>(q,k,(n:Nat),t,x,())
   |none=>if c=40∨c=41∨c=61 then (4,k,1,[c],0,()) else (5,k,1,[c],0,())
theorem zn8 (s:List UInt8):zbl s=zeQ ((zbi isWh s:Nat):Int) (s.drop (zbi isWh s)):=rfl
theorem zqq (k:Int) (u:List UInt8):zeQ k u=((zeQ 0 u).1,k,(zeQ 0 u).2.2):=by
 cases u with
 |nil=>rfl
 |cons c r=>
  unfold zeQ;simp only[];split
  ·rfl
  ·split
   ·rfl
   ·split
    ·rfl
    ·split<;>rfl
theorem ziQ {p:UInt8->Bool} {w u:List UInt8} (h:∀ c∈w,p c=true):zbi p (w++u)=w.length+zbi p u:=by
 unfold zbi;rw[jp h,zh]
theorem zrT {p:UInt8->Bool} {c:UInt8} {u:List UInt8} (h:p c=false):zbi p (c::u)=0:=by
 unfold zbi;rw[qt,h];rfl
theorem zsC {u:List UInt8} (h:Bd u):zbi isPt u=0:=by
 cases u with
 |nil=>rfl
 |cons c r=>exact zrT h
structure Sp (a:Tk) (w:List UInt8):Prop where
 ne:w≠ []
 nw:∀ c∈w,isWh c=false
 cls:a.1≠0
 sc:∀ r,(a.1=4∨Bd r)->zeQ 0 (w++r)=(a.1,0,((w.length:Nat):Int),a.2.1,a.2.2,())
inductive Lex:List UInt8->List Tk->Prop
 |nil {ws:List UInt8} (h:∀ c∈ws,isWh c=true):Lex ws []
 |tok {ws w r:List UInt8} {a:Tk} {l:List Tk} (h:∀ c∈ws,isWh c=true) (hw:Sp a w) (hb:a.1=4∨Bd r) (hr:Lex r l):Lex (ws++(w++r)) (a::l)
theorem Lex.ws {ws u:List UInt8} {l:List Tk} (h:∀ c∈ws,isWh c=true) (hu:Lex u l):Lex (ws++u) l:=by
 cases hu with
 |nil h2=>exact .nil fun c hc=>(yT.1 hc).elim (h c) (h2 c)
 |tok h2 hw hb hr=>
  rw[<-zu];exact .tok (fun c hc=>(yT.1 hc).elim (h c) (h2 c)) hw hb hr
theorem Lex.sp {u:List UInt8} {l:List Tk} (hu:Lex u l):Lex (32::u) l:=Lex.ws (ws:=[32]) (fun c hc=>by rw[zy.1 hc];rfl) hu
theorem Lex.app {u:List UInt8} {l:List Tk} (hu:Lex u l) {v:List UInt8} {m:List Tk} (hv:Lex v m) (hb:Bd v):Lex (u++v) (l++m):=by
 induction hu with
 |nil h=>exact hv.ws h
 |tok h hw hb' _ ih=>
  rw[zu,zu];refine .tok h hw ?_ ih;rcases hb' with h4|hb'
  ·exact .inl h4
  ·exact .inr (hb'.app hb)
theorem Sp.lex {a:Tk} {w:List UInt8} (h:Sp a w):Lex w [a]:=by
 have:=Lex.tok (ws:=[]) (r:=[]) (l:=[]) (fun c hc=>by cases hc) h (.inr trivial) (.nil fun c hc=>by cases hc);rwa[yV,zS]at this
theorem Sp.lexR {a:Tk} {w:List UInt8} (h:Sp a w) {r:List UInt8} {l:List Tk} (hb:a.1=4∨Bd r) (hr:Lex r l):Lex (w++r) (a::l):=by
 have:=Lex.tok (ws:=[]) (fun c hc=>by cases hc) h hb hr;rwa[yV]at this
theorem zq6 {u:List UInt8} {l:List Tk} (h:Lex u l):∀ (s p:List UInt8),s=p++u->Toks s ((p.length:Nat):Int) l:=by
 induction h with
 | @nil ws h=>
  intro s p hs;show zQ (zej s _)=0;unfold zej;rw[hs,zz,qE,zn8];have e:zbi isWh ws=ws.length:=by
   have:=ziQ (u:=[]) h;rw[zS]at this;rw[this];rfl
  rw[e,jf];rfl
 | @tok ws w r a l h hw hb hr ih=>
  intro s p hs;have hd:s.drop p.length=ws++(w++r):=by rw[hs,qE]
  have e:zbi isWh (ws++(w++r))=ws.length:=by
   rw[ziQ h];cases w with
   |nil=>exact absurd rfl hw.ne
   |cons c q=>
    rw[List.cons_append,zrT (hw.nw c (yw ..))];rfl
  have hsc:zej s ((p.length:Nat):Int)=(a.1,((ws.length:Nat):Int)+((p.length:Nat):Int),((w.length:Nat):Int),a.2.1,a.2.2,()):=by
   unfold zej;rw[zz,hd,zn8,e,qE,zqq,hw.sc r hb];rfl
  refine⟨?_,?_,?_⟩
  ·rw[hsc];exact hw.cls
  ·rw[hsc];rfl
  ·rw[hsc];have:=ih s (p++ws++w) (by rw[hs];simp);rw[zh,zh]at this;show Toks s (((ws.length:Nat):Int)+((p.length:Nat):Int)+((w.length:Nat):Int)) l;rwa[show ((ws.length:Nat):Int)+((p.length:Nat):Int)+((w.length:Nat):Int)=((p.length+ws.length+w.length:Nat):Int) by omega]
theorem zgS {p:UInt8->Bool} (h:∀ n:Fin 256,p (yf n.val)=true) (c:UInt8):p c=true:=by
 have:=h ⟨c.toNat,c.toNat_lt⟩;rwa[kh]at this
theorem zq0 (c:UInt8) (h:isLt c=true):isPt c=true∧isWh c=false∧isDg c=false∧c≠64∧c≠45:=by
 have:=zgS (p:=fun c=>!isLt c||(isPt c&& !isWh c&& !isDg c&&(c != 64)&&(c != 45))) (by decide+kernel) c;rw[h]at this;simp only[Bool.not_true,yE,zf,zr,bne_iff_ne]at this;exact⟨this.1.1.1.1,this.1.1.1.2,this.1.1.2,this.1.2,this.2⟩
theorem pt_wh (c:UInt8) (h:isPt c=true):isWh c=false:=by
 have:=zgS (p:=fun c=>!isPt c|| !isWh c) (by decide+kernel) c;rw[h]at this
 simpa using this
theorem zgP (c:UInt8) (h:isDg c=true):isPt c=true∧isLt c=false∧isWh c=false∧c≠64∧c≠45∧c≠40∧c≠41∧c≠61:=by
 have:=zgS (p:=fun c=>!isDg c||(isPt c&& !isLt c&& !isWh c&&(c != 64)&&(c != 45)&&(c != 40)&&(c != 41)&&(c != 61))) (by decide+kernel) c;rw[h]at this;simp only[Bool.not_true,yE,zf,zr,bne_iff_ne]at this;exact⟨this.1.1.1.1.1.1.1,this.1.1.1.1.1.1.2,this.1.1.1.1.1.2,this.1.1.1.1.2,this.1.1.1.2,this.1.1.2,this.1.2,this.2⟩
theorem zgg {w r:List UInt8} (hne:w≠ []) (h1:w.head?.all isLt=true) (h2:∀ c∈w,isPt c=true) (hb:Bd r):zax (w++r)=w.length:=by
 cases w with
 |nil=>exact absurd rfl hne
 |cons c q=>
  have hc:isLt c=true:=h1;show (if isLt c then zbi isPt (c::q++r) else 0)=_;rw[if_pos hc,ziQ h2,zsC hb];rfl
theorem zsD {w:List UInt8} (hne:w≠ []) (h1:w.head?.all isLt=true) (h2:∀ c∈w,isPt c=true):Sp (tkW w) w:=by
 refine⟨hne,fun c hc=>pt_wh c (h2 c hc),by show (1:Int)≠0;decide,fun r hb=>?_⟩;have hb:Bd r:=hb.resolve_left (by show (1:Int)≠4;decide);have hl:=zgg hne h1 h2 hb;have hp:0 < w.length:=jc.2 hne;cases w with
 |nil=>exact absurd rfl hne
 |cons c q=>
  show zeQ 0 (c::(q++r))=_;unfold zeQ;have hl:zax (c::(q++r))=(c::q).length:=hl;simp only[];rw[hl,if_pos hp];show (1,0,_,(c::q++r).take (c::q).length,0,())=_;rw[qi];rfl
theorem sp_ref {w:List UInt8} (h:zdm w=true):Sp (tkR w) (64::w):=by
 unfold zdm at h;simp only[zf,decide_eq_true_iff,zM]at h;obtain⟨⟨hne,_⟩,h1,h2⟩:=h;refine⟨by simp,fun c hc=>?_,by show (2:Int)≠0;decide,fun r hb=>?_⟩
 ·rcases yg.1 hc with rfl|hc
  ·rfl
  ·exact pt_wh c (h2 c hc)
 have hb:Bd r:=hb.resolve_left (by show (2:Int)≠4;decide);have hl:=zgg hne h1 h2 hb;have hp:0 < w.length:=jc.2 hne;show zeQ 0 (64::(w++r))=_;unfold zeQ;have h64:zax (64::(w++r))=0:=rfl;simp only[];rw[h64,if_neg (by decide),hl,if_pos ⟨trivial,hp⟩,qi];show (2,0,((w.length:Nat):Int)+1,w,0,())=(2,0,(((64::w).length:Nat):Int),w,0,());rw[zs];rfl
theorem zlK {c:UInt8} (hc:c=40∨c=41∨c=61):Sp (tkS c) [c]:=by
 have hn:∀ r,zc3 (c::r)=none:=fun r=>by
  unfold zc3;have:(zaN (c::r)).length=0:=by
   unfold zaN zaS;rcases hc with rfl|rfl|rfl<;>rfl
  rw[if_pos this]
 refine⟨by simp,fun d hd=>?_,by show (4:Int)≠0;decide,fun r _=>?_⟩
 ·rw[zy.1 hd];rcases hc with rfl|rfl|rfl<;>rfl
 show zeQ 0 (c::r)=_;unfold zeQ;have h0:zax (c::r)=0:=by rcases hc with rfl|rfl|rfl<;>rfl
 have h64:c≠64:=by rcases hc with rfl|rfl|rfl<;>decide
 simp only[];rw[h0,if_neg (by decide),if_neg (fun h=>h64 h.1),hn,if_pos hc];rfl
theorem zoB (l:List UInt8) (c:UInt8):numv (l++ [c])=10 * numv l+(c.toNat - 48):=by unfold numv;rw[uG];rfl
theorem zmr {d:Nat} (h:d < 10):isDg (yf (48+d))=true∧(yf (48+d)).toNat=48+d:=by
 have e:(yf (48+d)).toNat=48+d:=by rw[UInt8.toNat_ofNat'];exact xV (by omega)
 refine⟨?_,e⟩;unfold isDg;rw[zf,decide_eq_true_iff,decide_eq_true_iff,xh,xh,e];exact⟨by show 48≤_;omega,by show _≤57;omega⟩
theorem zku (u:Nat):(∀ c∈yy u,isDg c=true)∧numv (yy u)=u∧(1≤u->(yy u).head? ≠some 48)∧yy u≠ []:=by
 induction u using Nat.strongRecOn with
 |_ u ih=>
  rw[yy];by_cases hu:u < 10
  ·rw[dif_pos hu];obtain⟨h1,h2⟩:=zmr hu;refine⟨fun c hc=>by rw[zy.1 hc];exact h1,?_,fun h0 e=>?_,by simp⟩
   ·show 10 * 0+((yf (48+u)).toNat - 48)=u;rw[h2];omega
   ·have e:some (yf (48+u))=some 48:=e;have:=congrArg UInt8.toNat (zZ e);rw[h2]at this;have:48+u=48:=this;omega
  ·rw[dif_neg hu];obtain⟨i1,i2,i3,i4⟩:=ih (u / 10) (by omega);obtain⟨h1,h2⟩:=zmr (d:=u % 10) (by omega);refine⟨fun c hc=>?_,?_,fun _ e=>?_,by simp⟩
   ·rcases yT.1 hc with hc|hc
    ·exact i1 c hc
    ·rw[zy.1 hc];exact h1
   ·rw[zoB,i2,h2];omega
   ·refine i3 (by omega) ?_;cases hd:yy (u / 10) with
    |nil=>exact absurd hd i4
    |cons c q=>rw[hd]at e;exact e
theorem znQ {w r:List UInt8} (h:∀ c∈w,isDg c=true) (hb:Bd r):(w++r).takeWhile isDg=w:=by
 rw[jp h];have:r.takeWhile isDg=[]:=by
  cases r with
  |nil=>rfl
  |cons c q=>
   have hb:isPt c=false:=hb;rw[qt];have:isDg c=false:=by
    cases hd:isDg c with
    |false=>rfl
    |true=>rw[(zgP c hd).1]at hb;cases hb
   rw[this];rfl
 rw[this,zS]
def ze6 (n:Int):Prop:=-1125899906842624 < n∧n < 1125899906842624
theorem znT {n:Int} (h:ze6 n):Sp (tkN n) (deI n):=by
 obtain⟨h1,h2⟩:=h;unfold deI kD;by_cases hn:n < 0
 ·obtain⟨d1,d2,d3,d4⟩:=zku n.natAbs;have d3:=d3 (by omega);generalize hD:yy n.natAbs=D at *;have hde:deI n=45::D:=by unfold deI kD;rw[if_pos hn,hD]
  rw[if_pos hn];refine⟨by simp,fun c hc=>?_,by show (3:Int)≠0;decide,fun r hb=>?_⟩
  ·rcases yg.1 hc with rfl|hc
   ·rfl
   ·exact (zgP c (d1 c hc)).2.2.1
  have hb:Bd r:=hb.resolve_left (by show (3:Int)≠4;decide);have hlen:0 < D.length:=jc.2 d4;have hs:zaS (45::(D++r))=1:=rfl;have hg:zaN (45::(D++r))=D:=by
   unfold zaN;rw[hs];exact znQ d1 hb
  have hv:valN (45::(D++r))=n:=by
   unfold valN;rw[hs,if_pos rfl,hg,d2,Nat.min_eq_left (by unfold zdf;omega)];omega
  show zeQ 0 (45::(D++r))=_;unfold zeQ;simp only[];rw[show zax (45::(D++r))=0 from rfl,if_neg (by decide),if_neg (fun h=>absurd h.1 (by decide))];have hnt:zc3 (45::(D++r))=some (3,1+D.length,(45::(D++r)).take (1+D.length),n):=by
   unfold zc3;rw[hg,hs,hv,if_neg (by omega),if_neg (fun h=>d3 h.1)]
  rw[hnt];have ht:(45::(D++r)).take (1+D.length)=45::D:=by
   rw[Nat.add_comm,List.take_succ_cons,qi]
  show (3,0,((1+D.length:Nat):Int),(45::(D++r)).take (1+D.length),n,())=(3,0,(((45::D).length:Nat):Int),deI n,n,());rw[ht,hde,zs,Nat.add_comm]
 ·obtain⟨d1,d2,d3,d4⟩:=zku n.toNat;have hz:n.toNat=0->yy n.toNat=[48]:=fun e=>by rw[e,yy];rfl
  generalize hD:yy n.toNat=D at *;have hde:deI n=D:=by unfold deI kD;rw[if_neg hn,hD]
  rw[if_neg hn];refine⟨d4,fun c hc=>(zgP c (d1 c hc)).2.2.1,by show (3:Int)≠0;decide,fun r hb=>?_⟩;have hb:Bd r:=hb.resolve_left (by show (3:Int)≠4;decide);have hlen:0 < D.length:=jc.2 d4;cases D with
  |nil=>exact absurd rfl d4
  |cons c q=>
   have hdg:=d1 c (yw ..);obtain⟨_,f1,_,f2,f3,_⟩:=zgP c hdg;have hs:zaS (c::(q++r))=0:=by
    unfold zaS;exact if_neg (fun e=>f3 (zZ e))
   have hg:zaN (c::(q++r))=c::q:=by
    unfold zaN;rw[hs];exact znQ (w:=c::q) d1 hb
   have hv:valN (c::(q++r))=n:=by
    unfold valN;rw[hs,if_neg (by decide),hg,d2,Nat.min_eq_left (by unfold zdf;omega)];omega
   show zeQ 0 (c::(q++r))=_;unfold zeQ;simp only[];rw[show zax (c::(q++r))=0 by show (if isLt c then zbi isPt (c::(q++r)) else 0)=0;rw[f1];rfl,if_neg (by decide),if_neg (fun h=>f2 h.1)];have hnt:zc3 (c::(q++r))=some (3,0+(c::q).length,(c::(q++r)).take (0+(c::q).length),n):=by
    unfold zc3;rw[hg,hs,hv,if_neg (by omega),if_neg];rintro ⟨e1,e2⟩;by_cases h0:n.toNat=0
    ·have e3:q=[]:=by have:=hz h0;exact (List.cons.inj this).2
     rw[e3]at e2;have e2:1 < 0+1:=e2;omega
    ·exact d3 (by omega) e1
   rw[hnt];have ht:(c::(q++r)).take (0+(c::q).length)=c::q:=by
    rw[yF];exact qi (l₁:=c::q)
   show (3,0,((0+(c::q).length:Nat):Int),(c::(q++r)).take (0+(c::q).length),n,())=(3,0,(((c::q).length:Nat):Int),deI n,n,());rw[ht,hde,yF]
theorem zcw:∀ l:List Int,(∀ x∈l,ze6 x)->Lex (zcg l) (l.map tkN)∧Bd (zcg l)
 | [],_=>⟨.nil (fun c hc=>(by cases hc)),trivial⟩
 |x::r,h=>by
  obtain⟨h1,h2⟩:=zcw r fun y hy=>h y (xc _ hy);refine⟨?_,rfl⟩;show Lex (32::deI x++zcg r) (tkN x::r.map tkN);exact ((znT (h x (yw ..))).lexR (.inr h2) h1).sp
theorem zoZ:∀ (l:List Int) (i:Nat),(∀ x∈l,ze6 x)->Lex (litS (i+1) l++ [41]) (l.map tkN++ [tkS 41])∧Bd (litS (i+1) l++ [41])
 | [],_,_=>⟨(zlK (.inr (.inl rfl))).lex,rfl⟩
 |x::r,i,h=>by
  obtain⟨h1,h2⟩:=zoZ r (i+1) fun y hy=>h y (xc _ hy);have e:litS (i+1) (x::r)++ [41]=32::(deI x++(litS (i+1+1) r++ [41])):=by
   show (sepS (i+1)++deI x++litS (i+1+1) r)++ [41]=_;simp[sepS]
  rw[e];exact⟨((znT (h x (yw ..))).lexR (.inr h2) h1).sp,rfl⟩
theorem zd5 {l:List Int} (hne:l≠ []) (h:∀ x∈l,ze6 x):Lex (zch l) (zdc l)∧Bd (zch l):=by
 cases l with
 |nil=>exact absurd rfl hne
 |cons x r=>
  obtain⟨h1,h2⟩:=zoZ r 0 fun y hy=>h y (xc _ hy);have e:zch (x::r)=32::([40]++(deI x++(litS (0+1) r++ [41]))):=by
   show (sepS 0++deI x++litS (0+1) r)++ [41]=_;simp[sepS]
  rw[e];exact⟨((zlK (.inl rfl)).lexR (.inl rfl) ((znT (h x (yw ..))).lexR (.inr h2) h1)).sp,rfl⟩
theorem zbb {w:List UInt8} (hne:w≠ []) (h1:w.head?.all isLt=true) (h2:w.all isPt=true) {r:List UInt8} {l:List Tk} (hr:Lex r l) (hb:Bd r):Lex (w++r) (tkW w::l):=
 (zsD hne h1 (zM.1 h2)).lexR (.inr hb) hr
theorem zj5 (n:Int) {r:List UInt8} {l:List Tk} (hr:Lex r l) (hb:Bd r):Lex (zcr n++r) (zei n::l)∧Bd (zcr n++r):=by
 unfold zcr zei;split
 ·exact⟨(zbb (by decide) rfl (by decide) hr hb).sp,rfl⟩
 ·exact⟨(zbb (by decide) rfl (by decide) hr hb).sp,rfl⟩
theorem zs4:Lex [] []:=.nil fun c hc=>by cases hc
theorem zhm {c:Bool} {u:List UInt8} {l:List Tk} (h:Lex u l):Lex (parS c u) (parT c l):=by
 cases c with
 |true=>exact h
 |false=>exact (zlK (.inl rfl)).lexR (.inl rfl) (h.app (zlK (.inr (.inl rfl))).lex rfl)
def Tr.text:Tr->List UInt8
 | .leaf n=>zcJ n
 | .un n a=>parS (decide (a.lev≥4)) a.text++zcc [] n
 | .bin n a b=>if ndK n=17 then parS (decide (a.lev≥4)) a.text++zcc (parS (decide (b.lev≥5)) b.text) n
  else parS (decide (a.lev≥levS (ndK n))) a.text++(putS ([32]++opWd (levS (ndK n))++ [32]) []++parS (decide (b.lev≥levS (ndK n)+1)) b.text)
theorem zcA {lo hi:Int} {z:Bool} (h1: -1125899906842624 < lo) (h2:hi < 1125899906842624):∀ {l:List Int} {last:Int},Ris lo hi z last l->∀ x∈l,ze6 x
 | [],_,_,x,hx=>by cases hx
 |y::r,_,h,x,hx=>by
  obtain⟨_,a,b,_,h⟩:=h;rcases yg.1 hx with rfl|hx
  ·exact⟨by omega,by omega⟩
  ·exact zcA h1 h2 h x hx
theorem num1 {a:Int} (h:ze6 a):∀ x∈ [a],ze6 x:=fun x hx=>by rw[zy.1 hx];exact h
theorem num2 {a b:Int} (h:ze6 a) (h':ze6 b):∀ x∈ [a,b],ze6 x:=fun x hx=>by
 rcases yg.1 hx with rfl|hx
 ·exact h
 ·exact num1 h' x hx
theorem num3 {a b c:Int} (h:ze6 a) (h':ze6 b) (h'':ze6 c):∀ x∈ [a,b,c],ze6 x:=fun x hx=>by
 rcases yg.1 hx with rfl|hx
 ·exact h
 ·exact num2 h' h'' x hx
theorem nt {a lo hi:Int} (h:lo≤a∧a≤hi) (h1: -1125899906842624 < lo:=by decide) (h2:hi < 1125899906842624:=by decide):ze6 a:=⟨by omega,by omega⟩
theorem zq7 {n:Nd} (h1:zbA n=true) (h2:¬ (8≤ndK n∧ndK n≤17)):Lex (zcJ n) (zj6 n):=by
 obtain⟨⟨k1,k2⟩,_⟩:=zaI h1;unfold zcJ zj6;rcases (show ndK n=1∨ndK n=2∨ndK n=3∨ndK n=4∨ndK n=5∨ndK n=6∨ndK n=7∨ndK n=18 by omega) with k|k|k|k|k|k|k|k<;>rw[k]
 ·obtain⟨e,b1,b2⟩:=fld1 h1 k;obtain⟨x,y⟩:=zcw [ndN n,ndM n] (num2 (nt b1) (nt b2));exact zbb (w:=ziK) (by decide) rfl (by decide) x y
 ·obtain⟨e,b0,b1,b2⟩:=fld2 h1 k;obtain⟨x,y⟩:=zcw [ndC n,ndN n,ndM n] (num3 (nt b0) (nt b1) ⟨by omega,by omega⟩);exact zbb (w:=zfg) (by decide) rfl (by decide) x y
 ·obtain⟨e,b0,b1,b2,b3⟩:=fld3 h1 k;obtain⟨x,y⟩:=zcw [ndC n] (num1 (nt b0));obtain⟨x2,y2⟩:=zd5 b1 (zcA (by decide) (by decide) b3);have:=zbb (w:=zcy) (by decide) rfl (by decide) (x.app x2 y2) (y.app y2);rwa[<-zu]at this
 ·obtain⟨e,b0,b1,b2,b3⟩:=fld4 h1 k;obtain⟨x,y⟩:=zcw [ndC n] (num1 (nt b0));obtain⟨x2,y2⟩:=zd5 b1 (zcA (by decide) (by decide) b3);have:=zbb (w:=za7) (by decide) rfl (by decide) (x.app x2 y2) (y.app y2);rwa[<-zu]at this
 ·obtain⟨e,b1,b2,b3⟩:=fld5 h1 k;obtain⟨x2,y2⟩:=zd5 b1 (zcA (by decide) (by decide) b3);exact zbb (w:=zbm) (by decide) rfl (by decide) x2 y2
 ·obtain⟨e,b0,b1,b2,b3⟩:=fld6 h1 k;obtain⟨x,y⟩:=zcw [ndC n] (num1 (nt b0));obtain⟨x2,y2⟩:=zd5 b1 (zcA (by decide) (by decide) b3);have:=zbb (w:=zdk) (by decide) rfl (by decide) (x.app x2 y2) (y.app y2);rwa[<-zu]at this
 ·obtain⟨e,b0,b1,bz,b2,b3⟩:=fld7 h1 k;obtain⟨x,y⟩:=zcw [ndC n,ndN n,ndM n] (num3 (nt b0) (nt b1) (nt b2));obtain⟨x2,y2⟩:=zj5 (ndL n) zs4 trivial;have:=zbb (w:=wNth) (by decide) rfl (by decide) (x.app x2 y2) (y.app y2);rw[<-zu]at this;exact this
 ·obtain⟨e,b0⟩:=ztr h1 k;show Lex ((64::ndS n)++ []) [tkR (ndS n)];rw[zS];exact (sp_ref b0).lex
theorem zoY {n:Nd} {b:List UInt8} {B:List Tk} (h1:zbA n=true) (h2:11≤ndK n∧ndK n≤17) (hB:ndK n=17->Lex b B):Lex (zcc b n) (ziN B n)∧Bd (zcc b n):=by
 unfold zcc ziN;rcases (show ndK n=11∨ndK n=12∨ndK n=13∨ndK n=14∨ndK n=15∨ndK n=16∨ndK n=17 by omega) with k|k|k|k|k|k|k<;>rw[k]
 ·obtain⟨e,b1⟩:=ztv h1 k;obtain⟨x,y⟩:=zcw [ndN n] (num1 (nt b1));exact⟨(zbb (w:=zeS) (by decide) rfl (by decide) x y).sp,rfl⟩
 ·obtain⟨e,b1⟩:=ztu h1 k;obtain⟨x,y⟩:=zcw [ndN n] (num1 (nt b1));exact⟨(zbb (w:=zhS) (by decide) rfl (by decide) x y).sp,rfl⟩
 ·obtain⟨e,b1⟩:=ztt h1 k;obtain⟨x,y⟩:=zcw [ndN n] (num1 (nt b1));exact⟨(zbb (w:=zeR) (by decide) rfl (by decide) x y).sp,rfl⟩
 ·obtain⟨e,b1,b2,b3⟩:=zrr h1 k;obtain⟨x2,y2⟩:=zd5 b1 (zcA (by decide) (by decide) b3);exact⟨(zbb (w:=ze1) (by decide) rfl (by decide) x2 y2).sp,rfl⟩
 ·obtain⟨e,b1,b2,b3⟩:=zrq h1 k;obtain⟨x2,y2⟩:=zd5 b1 (zcA (by decide) (by decide) b3);exact⟨(zbb (w:=zcz) (by decide) rfl (by decide) x2 y2).sp,rfl⟩
 ·obtain⟨e,b0,⟨b1,b2,b3⟩,b4⟩:=zrp h1 k;obtain⟨x,y⟩:=zcw [ndC n] (num1 (nt b0));obtain⟨x2,y2⟩:=zd5 b1 (zcA (by decide) (by decide) b3);obtain⟨x3,y3⟩:=zj5 (ndM n) x2 y2;refine⟨?_,rfl⟩;show Lex ((32::wPos)++zcg [ndC n]++((zcr (ndM n)++ [])++zch (ndI n))) _;rw[zS,zu];exact (zbb (w:=wPos) (by decide) rfl (by decide) (x.app x3 y3) (y.app y3)).sp
 ·obtain⟨e,b1⟩:=zts h1 k;obtain⟨x,y⟩:=zcw [ndN n] (num1 (nt b1));refine⟨?_,rfl⟩;show Lex ((32::zbG)++zcg [ndN n]++(((32::wOf)++ [32]++ [])++b)) _;rw[zS,zu,zu];have x3:Lex (32::(wOf++([32]++b))) (tkW wOf::B):=(zbb (w:=wOf) (by decide) rfl (by decide) (hB k).sp rfl).sp;exact (zbb (w:=zbG) (by decide) rfl (by decide) (x.app x3 rfl) (y.app rfl)).sp
theorem zeJ:∀ t:Tr,TrOk t->Lex t.text t.toks
 | .leaf n,h=>zq7 h.1 h.2.1
 | .un n a,h=>by
  obtain⟨h1,hk,_,ha⟩:=h;obtain⟨x,y⟩:=zoY (b:=[]) (B:=[]) h1 (by omega) (fun e=>by omega);exact (zhm (zeJ a ha)).app x y
 | .bin n a b,h=>by
  obtain⟨h1,hk,_,ha,hb⟩:=h;unfold Tr.text Tr.toks;split
  ·rename_i h17;obtain⟨x,y⟩:=zoY (n:=n) h1 (by omega) (fun _=>zhm (c:=decide (b.lev≥5)) (zeJ b hb));exact (zhm (zeJ a ha)).app x y
  ·rename_i h17;have hl:levS (ndK n)=1∨levS (ndK n)=2∨levS (ndK n)=3:=by
    rcases (show ndK n=8∨ndK n=9∨ndK n=10 by omega) with k|k|k<;>rw[k]
    ·exact .inr (.inr rfl)
    ·exact .inl rfl
    ·exact .inr (.inl rfl)
   have hB:=zhm (c:=decide (b.lev≥levS (ndK n)+1)) (zeJ b hb);generalize parS (decide (b.lev≥levS (ndK n)+1)) b.text=v at hB ⊢;generalize parT (decide (b.lev≥levS (ndK n)+1)) b.toks=m at hB ⊢;have hw:Lex (putS ([32]++opWd (levS (ndK n))++ [32]) []++v) (tkW (opWd (levS (ndK n)))::m)∧Bd (putS ([32]++opWd (levS (ndK n))++ [32]) []++v):=by
    have e:putS ([32]++opWd (levS (ndK n))++ [32]) []++v=32::(opWd (levS (ndK n))++(32::v)):=by
     show (([32]++opWd (levS (ndK n))++ [32])++ [])++v=_;simp
    rw[e];refine⟨?_,rfl⟩;rcases hl with hl|hl|hl<;>rw[hl]
    ·exact (zbb (w:=wOr) (by decide) rfl (by decide) hB.sp rfl).sp
    ·exact (zbb (w:=zlF) (by decide) rfl (by decide) hB.sp rfl).sp
    ·exact (zbb (w:=wAnd) (by decide) rfl (by decide) hB.sp rfl).sp
   exact (zhm (zeJ a ha)).app hw.1 hw.2
theorem zsL {t:Tr} (h:TrOk t):Qt 0 t.toks t:=(zeU t h).up (zn _) (by have:=zk9 (ndK t.root);unfold levI Tr.lev;omega)
theorem zm3 {t:Tr} (h:TrOk t) (hs:t.size≤64):zeW t.text= .ok t:=q_rule (zsL h) hs (zq6 (zeJ t h) _ [] rfl)
def opsN (n:Nd):Int:=(zbH (ndK n)).1
def zec (n:Nd) (i:Int):Bool:=
 (bif decide (0 < opsN n) then inB (ndL n) 0 (i - 1) else (ndL n==0)||(ndK n==7))&&(bif decide (1 < opsN n) then inB (ndR n) 0 (i - 1) else ndR n==0)
def bump (u:List Int) (j:Int):List Int:=u.set j.toNat (u.getD j.toNat 0+1)
def zci (u:List Int) (n:Nd):List Int:=
 bif decide (1 < opsN n) then bump (bump u (ndL n)) (ndR n) else bif decide (0 < opsN n) then bump u (ndL n) else u
def zba (r:List Nd) (k:Nat):List Int:=(r.take k).foldl zci (zJ r.length 0)
def zcj (n:Nd) (i:Int):Bool:=zbA n&&zec n i
def zcl (r:List Nd):Nat->Bool
 |0=>true
 |k+1=>zcl r k&&zcj (r.getD k zNd) (k:Int)
def wfS (r:List Nd):Bool:=decide (1≤r.length)&&decide (r.length≤64)&&zcl r r.length&& !((zba r r.length).take (r.length - 1)).any not1
def zbr (r:List Nd):Int:=if 64 < r.length∨r.any bigN=true then 2 else if wfS r=true then 0 else 1
theorem zd3 {r:List Nd}:∀ {k:Nat},zcl r k=true↔∀ j,j < k->zcj (r.getD j zNd) (j:Int)=true
 |0=>⟨fun _ j h=>by omega,fun _=>rfl⟩
 |k+1=>by
  unfold zcl;rw[zf,zd3 (k:=k)];constructor
  ·rintro ⟨h1,h2⟩ j hj;by_cases e:j=k
   ·rw[e];exact h2
   ·exact h1 j (by omega)
  ·exact fun h=>⟨fun j hj=>h j (by omega),h k (by omega)⟩
theorem zdN (r:List Nd) (j:Nat):zao r (j:Int)=r.getD j zNd:=rfl
theorem zoA {n:Nd} (h:11≤ndK n∧ndK n≤16):opsN n=1:=by
 unfold opsN;rcases (show ndK n=11∨ndK n=12∨ndK n=13∨ndK n=14∨ndK n=15∨ndK n=16 by omega) with k|k|k|k|k|k<;>rw[k]<;>rfl
theorem zk0 {n:Nd} (h:(8≤ndK n∧ndK n≤10)∨ndK n=17):opsN n=2:=by
 unfold opsN;rcases (show ndK n=8∨ndK n=9∨ndK n=10∨ndK n=17 by omega) with k|k|k|k<;>rw[k]<;>rfl
theorem zi1 {n:Nd} (h1:1≤ndK n∧ndK n≤18) (h:¬ (8≤ndK n∧ndK n≤17)):opsN n=0:=by
 unfold opsN;rcases (show ndK n=1∨ndK n=2∨ndK n=3∨ndK n=4∨ndK n=5∨ndK n=6∨ndK n=7∨ndK n=18 by omega) with k|k|k|k|k|k|k|k<;>rw[k]<;>rfl
theorem zrX {n:Nd} {i:Int} (h:11≤ndK n∧ndK n≤16):zec n i=true↔(0≤ndL n∧ndL n≤i - 1)∧ndR n=0:=by
 unfold zec;rw[zoA h,decide_eq_true (by decide),decide_eq_false (by decide),cond_true,cond_false,zf,zaM,beq_iff_eq]
theorem zk1 {n:Nd} {i:Int} (h:(8≤ndK n∧ndK n≤10)∨ndK n=17):zec n i=true↔(0≤ndL n∧ndL n≤i - 1)∧(0≤ndR n∧ndR n≤i - 1):=by
 unfold zec;rw[zk0 h,decide_eq_true (by decide),decide_eq_true (by decide),cond_true,cond_true,zf,zaM,zaM]
theorem zqM {n:Nd} {i:Int} (h1:1≤ndK n∧ndK n≤18) (h:¬ (8≤ndK n∧ndK n≤17)):zec n i=true↔(ndL n=0∨ndK n=7)∧ndR n=0:=by
 unfold zec;rw[zi1 h1 h,decide_eq_false (by decide),decide_eq_false (by decide),cond_false,cond_false,zf,zY,beq_iff_eq,beq_iff_eq,beq_iff_eq]
theorem zmm {n:Nd} (h:8≤ndK n∧ndK n≤17) (l r:Int):zbA (zeh n l r)=zbA n:=by
 have h7:zbz (zeh n l r)=zbz n:=by
  unfold zbz;have hk:(zeh n l r).1=n.1:=rfl;have h7:(n.1==7)=false:=beq_eq_false_iff_ne.2 fun e=>by have:ndK n=7:=e;omega
  rw[hk,h7];rfl
 unfold zbA;rw[h7];rfl
def trF:Nat->List Nd->Int->Tr
 |0,r,i=>.leaf (zao r i)
 |k+1,r,i=>
  if 11≤ndK (zao r i)∧ndK (zao r i)≤16 then .un (zeh (zao r i) 0 0) (trF k r (ndL (zao r i)))
  else if (8≤ndK (zao r i)∧ndK (zao r i)≤10)∨ndK (zao r i)=17 then .bin (zeh (zao r i) 0 0) (trF k r (ndL (zao r i))) (trF k r (ndR (zao r i)))
  else .leaf (zao r i)
theorem zkN:∀ (k:Nat) (r:List Nd) (i:Int),(trF k r i).lev=levS (ndK (zao r i))
 |0,_,_=>rfl
 |k+1,r,i=>by
  unfold trF;split
  ·rfl
  ·split<;>rfl
def Low (r:List Nd):Prop:=∀ j:Nat,j < r.length->(8≤ndK (zao r j)->ndK (zao r j)≤17->0≤ndL (zao r j)∧ndL (zao r j) < j)∧(8≤ndK (zao r j)->ndK (zao r j)≤10∨ndK (zao r j)=17->0≤ndR (zao r j)∧ndR (zao r j) < j)
theorem zql {n:Nd} (b:List UInt8) (h:11≤ndK n∧ndK n≤16):zcc b n=zcc [] (zeh n 0 0):=by
 unfold zcc;have hk:ndK (zeh n 0 0)=ndK n:=rfl;rw[hk];rcases (show ndK n=11∨ndK n=12∨ndK n=13∨ndK n=14∨ndK n=15∨ndK n=16 by omega) with k|k|k|k|k|k<;>rw[k]<;>rfl
theorem zlI (n:Nd) (a b:Tr):(Tr.bin n a b).text=if ndK n=17 then parS (decide (a.lev≥4)) a.text++zcc (parS (decide (b.lev≥5)) b.text) n
 else parS (decide (a.lev≥levS (ndK n))) a.text++(putS ([32]++opWd (levS (ndK n))++ [32]) []++parS (decide (b.lev≥levS (ndK n)+1)) b.text):=rfl
theorem zfy {r:List Nd} (hl:Low r):∀ (k:Nat) (i:Nat),i < k->i < r.length->zaT k r i=(trF k r i).text
 |0,_,h,_=>by omega
 |k+1,i,hk,hr=>by
  obtain⟨hL,hR⟩:=hl i hr;unfold zaT trF;generalize hn:zao r (i:Int)=n at *;have key:∀ j:Int,0≤j->j < (i:Int)->zaT k r j=(trF k r j).text:=fun j h0 h1=>by
   obtain⟨m,rfl⟩:∃ m:Nat,j=(m:Int):=⟨j.toNat,by omega⟩;exact zfy hl k m (by omega) (by omega)
  by_cases h11:11≤ndK n∧ndK n≤16
  ·rw[if_pos h11,zi3 (by omega),if_neg (by decide),if_pos rfl];obtain⟨a,b⟩:=hL (by omega) (by omega);show _=parS (decide ((trF k r (ndL n)).lev≥4)) (trF k r (ndL n)).text++zcc [] (zeh n 0 0);rw[zkN,key _ a b,zql _ h11]
  ·rw[if_neg h11];by_cases h8:(8≤ndK n∧ndK n≤10)∨ndK n=17
   ·rw[if_pos h8];obtain⟨a,b⟩:=hL (by omega) (by omega);obtain⟨c,d⟩:=hR (by omega) (by omega);rw[key _ a b,key _ c d];have hk:ndK (zeh n 0 0)=ndK n:=rfl;rw[zlI,hk,zkN,zkN];by_cases h17:ndK n=17
    ·rw[if_pos h17,h17,if_neg (by decide),if_pos (by decide)];have:∀ b,zcc b n=zcc b (zeh n 0 0):=fun b=>by
      unfold zcc;rw[hk,h17];rfl
     rw[this]
    ·have hlt:levS (ndK n) < 4:=by rcases (show ndK n=8∨ndK n=9∨ndK n=10 by omega) with k|k|k<;>rw[k]<;>decide
     rw[if_neg h17,if_pos hlt]
   ·rw[if_neg h8];rw[zi4 (by omega),if_neg (by decide),if_neg (by decide)];rfl
theorem zcL {r:List Nd} (h:zcl r r.length=true) {j:Nat} (hj:j < r.length):zbA (zao r j)=true∧zec (zao r j) (j:Int)=true:=by
 have:=zd3.1 h j hj;unfold zcj at this;rw[zf]at this;exact this
theorem zhj {r:List Nd} (h:zcl r r.length=true):Low r:=fun j hj=>by
 obtain⟨_,h2⟩:=zcL h hj;constructor
 ·intro a b;by_cases hu:11≤ndK (zao r j)∧ndK (zao r j)≤16
  ·have:=((zrX hu).1 h2).1;omega
  ·have:=((zk1 (by omega)).1 h2).1;omega
 ·intro a b;have:=((zk1 (by omega)).1 h2).2;omega
theorem znH {r:List Nd} (h:zcl r r.length=true):∀ (k i:Nat),i < k->i < r.length->TrOk (trF k r i)
 |0,_,hk,_=>by omega
 |k+1,i,hk,hr=>by
  obtain⟨h1,h2⟩:=zcL h hr;obtain⟨⟨k1,k2⟩,_⟩:=zaI h1;have key:∀ j:Int,0≤j->j≤(i:Int) - 1->TrOk (trF k r j):=fun j h0 h1=>by
   obtain⟨m,rfl⟩:∃ m:Nat,j=(m:Int):=⟨j.toNat,by omega⟩;exact znH h k m (by omega) (by omega)
  unfold trF;generalize zao r (i:Int)=n at *;by_cases h11:11≤ndK n∧ndK n≤16
  ·rw[if_pos h11];obtain⟨⟨a,b⟩,_⟩:=(zrX h11).1 h2;exact⟨by rw[zmm (by omega)];exact h1,h11,⟨rfl,rfl⟩,key _ a b⟩
  ·rw[if_neg h11];by_cases h8:(8≤ndK n∧ndK n≤10)∨ndK n=17
   ·rw[if_pos h8];obtain⟨⟨a,b⟩,⟨c,d⟩⟩:=(zk1 h8).1 h2;exact⟨by rw[zmm (by omega)];exact h1,h8,⟨rfl,rfl⟩,key _ a b,key _ c d⟩
   ·rw[if_neg h8];have hlf:¬ (8≤ndK n∧ndK n≤17):=by omega
    obtain⟨a,b⟩:=(zqM ⟨k1,k2⟩ hlf).1 h2;exact⟨h1,hlf,b,fun e=>a.resolve_right e⟩
theorem zdE (u:List Int) (j:Int):(bump u j).length=u.length:=List.length_set ..
theorem zmG (u:List Int) (n:Nd):(zci u n).length=u.length:=by
 unfold zci;cases decide (1 < opsN n)<;>cases decide (0 < opsN n)<;>simp[zdE]
theorem zcZ {u:List Int} {j:Int} {k:Nat} (hj:j.toNat < u.length):(bump u j).getD k 0=if k=j.toNat then u.getD k 0+1 else u.getD k 0:=by
 unfold bump;rw[zx,uH];by_cases e:k=j.toNat
 ·subst e;rw[if_pos rfl,if_pos rfl,if_pos hj];rfl
 ·rw[if_neg fun h=>e h.symm,if_neg e,zx]
theorem zcp (r:List Nd) (k:Nat):(zba r k).length=r.length:=by
 unfold zba;have:∀ (l:List Nd) (u:List Int),(l.foldl zci u).length=u.length:=by
  intro l
  induction l with
  |nil=>intro u;rfl
  |cons n l ih=>intro u;rw[List.foldl_cons,ih,zmG]
 rw[this,List.length_replicate]
theorem zcG {r:List Nd} {k:Nat} (hk:k < r.length):zba r (k+1)=zci (zba r k) (zao r k):=by
 unfold zba;rw[zH hk,uG];show zci _ r[k]=zci _ (r.getD k zNd);rw[zx,zA hk];rfl
theorem zkL (r:List Nd) (j:Nat):(zba r 0).getD j 0=0:=by
 unfold zba;rw[List.take_zero,List.foldl_nil,zx,List.getElem?_replicate];split<;>rfl
theorem zfi {n:Nd} {u:List Int} (h:(8≤ndK n->ndK n≤17->0≤ndL n∧ndL n < u.length)∧(8≤ndK n->ndK n≤10∨ndK n=17->0≤ndR n∧ndR n < u.length)) (hk:1≤ndK n∧ndK n≤18) (k:Nat):
  (zci u n).getD k 0=u.getD k 0+(if 8≤ndK n∧ndK n≤17∧k=(ndL n).toNat then 1 else 0)+(if ((8≤ndK n∧ndK n≤10)∨ndK n=17)∧k=(ndR n).toNat then 1 else 0):=by
 obtain⟨hL,hR⟩:=h;unfold zci;by_cases h11:11≤ndK n∧ndK n≤16
 ·obtain⟨a,b⟩:=hL (by omega) (by omega);rw[zoA h11,decide_eq_false (by decide),decide_eq_true (by decide),cond_false,cond_true,zcZ (by omega)];rw[if_neg (c:=((8≤ndK n∧ndK n≤10)∨ndK n=17)∧k=(ndR n).toNat) (by omega)];by_cases e:k=(ndL n).toNat
  ·rw[if_pos e,if_pos ⟨by omega,by omega,e⟩];omega
  ·rw[if_neg e,if_neg fun h=>e h.2.2];omega
 ·by_cases h8:(8≤ndK n∧ndK n≤10)∨ndK n=17
  ·obtain⟨a,b⟩:=hL (by omega) (by omega);obtain⟨c,d⟩:=hR (by omega) (by omega);rw[zk0 h8,decide_eq_true (by decide),cond_true,zcZ (by rw[zdE];omega),zcZ (by omega)];by_cases e:k=(ndL n).toNat
   ·rw[if_pos e,if_pos (c:=8≤ndK n∧ndK n≤17∧k=(ndL n).toNat) ⟨by omega,by omega,e⟩];by_cases e2:k=(ndR n).toNat
    ·rw[if_pos e2,if_pos ⟨h8,e2⟩]
    ·rw[if_neg e2,if_neg fun h=>e2 h.2];omega
   ·rw[if_neg e,if_neg (c:=8≤ndK n∧ndK n≤17∧k=(ndL n).toNat) fun h=>e h.2.2];by_cases e2:k=(ndR n).toNat
    ·rw[if_pos e2,if_pos ⟨h8,e2⟩];omega
    ·rw[if_neg e2,if_neg fun h=>e2 h.2];omega
  ·rw[zi1 hk (by omega),decide_eq_false (by decide),decide_eq_false (by decide),cond_false,cond_false,if_neg (by omega),if_neg (by omega)];omega
def pot (u:List Int) (f:Nat->Nat):Nat->Nat
 |0=>0
 |m+1=>pot u f m+(if u.getD m 0=0 then f m else 0)
theorem zgK {u:List Int} {f:Nat->Nat} {j:Int} (hj:j.toNat < u.length) (h0:u.getD j.toNat 0=0):∀ {m:Nat},(j.toNat < m->pot (bump u j) f m+f j.toNat=pot u f m)∧(m≤j.toNat->pot (bump u j) f m=pot u f m)
 |0=>⟨fun h=>by omega,fun _=>rfl⟩
 |m+1=>by
  obtain⟨i1,i2⟩:=zgK (f:=f) hj h0 (m:=m);constructor
  ·intro h;unfold pot;rw[zcZ hj];by_cases e:m=j.toNat
   ·rw[i2 (by omega),if_pos e,e,h0,if_neg (by decide),if_pos rfl];omega
   ·rw[if_neg e, <-i1 (by omega)];omega
  ·intro h;unfold pot;rw[i2 (by omega),zcZ hj,if_neg (c:=m=j.toNat) (by omega)]
theorem zeD {r:List Nd} (hl:Low r) (hk:∀ j:Nat,j < r.length->1≤ndK (zao r j)∧ndK (zao r j)≤18):∀ m,m≤r.length->∀ j,m≤j->(zba r m).getD j 0=0
 |0,_,j,_=>zkL r j
 |m+1,hm,j,hj=>by
  obtain⟨a,b⟩:=hl m (by omega);rw[zcG (by omega),zfi (by rw[zcp];exact⟨fun x y=>by have:=a x y;omega,fun x y=>by have:=b x y;omega⟩) (hk m (by omega)),zeD hl hk m (by omega) j (by omega),if_neg,if_neg]
  ·omega
  ·rintro ⟨x,y⟩;have:=b (by omega) (by omega);omega
  ·rintro ⟨x,y,z⟩;have:=a x y;omega
theorem zgX {r:List Nd} (hl:Low r) (hk:∀ j:Nat,j < r.length->1≤ndK (zao r j)∧ndK (zao r j)≤18) (j:Nat):∀ d m,m+d≤r.length->(zba r m).getD j 0≤(zba r (m+d)).getD j 0
 |0,m,_=>xL _
 |d+1,m,h=>by
  have:=zgX hl hk j d m (by omega);obtain⟨a,b⟩:=hl (m+d) (by omega);rw[<-Nat.add_assoc,zcG (by omega),zfi (by rw[zcp];exact⟨fun x y=>by have:=a x y;omega,fun x y=>by have:=b x y;omega⟩) (hk (m+d) (by omega))];have p1:(0:Int)≤if 8≤ndK (zao r (m+d:Nat))∧ndK (zao r (m+d:Nat))≤17∧j=(ndL (zao r (m+d:Nat))).toNat then 1 else 0:=by split<;>decide
  have p2:(0:Int)≤if ((8≤ndK (zao r (m+d:Nat))∧ndK (zao r (m+d:Nat))≤10)∨ndK (zao r (m+d:Nat))=17)∧j=(ndR (zao r (m+d:Nat))).toNat then 1 else 0:=by split<;>decide
  omega
theorem zgH {r:List Nd} (hl:Low r):∀ (k k' i:Nat),i < k->i < k'->i < r.length->trF k r i=trF k' r i
 |0,_,_,h,_,_=>by omega
 |_+1,0,_,_,h,_=>by omega
 |k+1,k'+1,i,h,h',hr=>by
  obtain⟨hL,hR⟩:=hl i hr;have key:∀ j:Int,0≤j->j < (i:Int)->trF k r j=trF k' r j:=fun j h0 h1=>by
   obtain⟨m,rfl⟩:∃ m:Nat,j=(m:Int):=⟨j.toNat,by omega⟩;exact zgH hl k k' m (by omega) (by omega) (by omega)
  unfold trF;split
  ·rename_i hu;obtain⟨a,b⟩:=hL (by omega) (by omega);rw[key _ a b]
  ·split
   ·rename_i hb;obtain⟨a,b⟩:=hL (by omega) (by omega);obtain⟨c,d⟩:=hR (by omega) (by omega);rw[key _ a b,key _ c d]
   ·rfl
theorem zlT {r:List Nd} (hl:Low r) (hk:∀ j:Nat,j < r.length->1≤ndK (zao r j)∧ndK (zao r j)≤18) (h1:∀ j,(zba r r.length).getD j 0≤1):∀ m,m≤r.length->pot (zba r m) (fun j=>(trF (r.length+1) r j).size) m=m
 |0,_=>rfl
 |m+1,hm=>by
  have ih:=zlT hl hk h1 m (by omega);obtain⟨hL,hR⟩:=hl m (by omega);have hkm:=hk m (by omega);have hb:∀ j,(zba r (m+1)).getD j 0≤1:=fun j=>by
   have:=zgX hl hk j (r.length - (m+1)) (m+1) (by omega);rw[show m+1+(r.length - (m+1))=r.length by omega]at this;have:=h1 j;omega
  have hab:=zeD hl hk m (by omega);have hlen:=zcp r m;have hpos:∀ j,0≤(zba r m).getD j 0:=fun j=>by
   have:=zgX hl hk j m 0 (by omega);rw[zkL,yF]at this;exact this
  have hm0:(zba r (m+1)).getD m 0=0:=by
   have h:=hab m (zk _);rw[zcG (by omega),zfi (by rw[zcp];exact⟨fun x y=>by have:=hL x y;omega,fun x y=>by have:=hR x y;omega⟩) hkm,h,if_neg,if_neg]
   ·rfl
   ·rintro ⟨x,y⟩;have:=hR (by omega) (by omega);omega
   ·rintro ⟨x,y,z⟩;have:=hL x y;omega
  have key:∀ j:Int,0≤j->j < (m:Int)->(trF r.length r j).size=(trF (r.length+1) r (j.toNat:Nat)).size:=fun j h0 h1=>by
   obtain⟨q,rfl⟩:∃ q:Nat,j=(q:Int):=⟨j.toNat,by omega⟩;rw[zz,zgH hl r.length (r.length+1) q (by omega) (by omega) (by omega)]
  have hf:∀ n,zao r (m:Int)=n->(trF (r.length+1) r (m:Int)).size=(if 8≤ndK n∧ndK n≤17 then (trF (r.length+1) r ((ndL n).toNat:Nat)).size else 0)+(if (8≤ndK n∧ndK n≤10)∨ndK n=17 then (trF (r.length+1) r ((ndR n).toNat:Nat)).size else 0)+1:=by
   rintro n rfl
   conv=>lhs;unfold trF
   split
   ·rename_i hu;obtain⟨a,b⟩:=hL (by omega) (by omega);rw[if_pos (by omega),if_neg (by omega)];show (trF r.length r _).size+1=_;rw[key _ a b]
   ·split
    ·rename_i hu;obtain⟨a,b⟩:=hL (by omega) (by omega);obtain⟨c,d⟩:=hR (by omega) (by omega);rw[if_pos (by omega)];show (trF r.length r _).size+(trF r.length r _).size+1=_;rw[key _ a b,key _ c d]
    ·rw[if_neg (by omega)];rfl
  have hf:=hf _ rfl;unfold pot;rw[hm0,if_pos rfl];have hu:=zcG (r:=r) (k:=m) (by omega);rw[hu]at hb ⊢;generalize hn:zao r (m:Int)=n at *;rw[hf];unfold zci at hb ⊢;by_cases h11:11≤ndK n∧ndK n≤16
  ·obtain⟨a,b⟩:=hL (by omega) (by omega);rw[zoA h11,decide_eq_false (by decide),decide_eq_true (by decide),cond_false,cond_true]at hb ⊢;rw[if_pos (by omega),if_neg (by omega)];have h0:=hb (ndL n).toNat;rw[zcZ (by omega),if_pos rfl]at h0;have:=hpos (ndL n).toNat;have:=(zgK (f:=fun j=>(trF (r.length+1) r j).size) (u:=zba r m) (j:=ndL n) (by omega) (by omega) (m:=m)).1 (by omega);omega
  ·by_cases h8:(8≤ndK n∧ndK n≤10)∨ndK n=17
   ·obtain⟨a,b⟩:=hL (by omega) (by omega);obtain⟨c,d⟩:=hR (by omega) (by omega);rw[zk0 h8,decide_eq_true (by decide),cond_true]at hb ⊢;rw[if_pos (by omega),if_pos h8];have hne:(ndL n).toNat≠(ndR n).toNat:=fun e=>by
     have h0:=hb (ndR n).toNat;rw[zcZ (by rw[zdE];omega),if_pos rfl,zcZ (by omega),if_pos e.symm]at h0;have:=hpos (ndR n).toNat;omega
    have h0:=hb (ndL n).toNat;rw[zcZ (by rw[zdE];omega),if_neg hne,zcZ (by omega),if_pos rfl]at h0;have h2:=hb (ndR n).toNat;rw[zcZ (by rw[zdE];omega),if_pos rfl,zcZ (by omega),if_neg (fun e=>hne e.symm)]at h2;have p1:=hpos (ndL n).toNat;have p2:=hpos (ndR n).toNat;have e1:=(zgK (f:=fun j=>(trF (r.length+1) r j).size) (u:=zba r m) (j:=ndL n) (by omega) (by omega) (m:=m)).1 (by omega);have e2:=(zgK (f:=fun j=>(trF (r.length+1) r j).size) (u:=bump (zba r m) (ndL n)) (j:=ndR n) (by rw[zdE];omega) (by rw[zcZ (by omega),if_neg (fun e=>hne e.symm)];omega) (m:=m)).1 (by omega);omega
   ·rw[zi1 hkm (by omega),decide_eq_false (by decide),decide_eq_false (by decide),cond_false,cond_false,if_neg (by omega),if_neg (by omega),ih]
theorem zcN {r:List Nd} (h:wfS r=true):(1≤r.length∧r.length≤64)∧zcl r r.length=true∧∀ j,j < r.length - 1->(zba r r.length).getD j 0=1:=by
 unfold wfS at h;simp only[zf,decide_eq_true_iff,zr,vf]at h;obtain⟨⟨h1,h2⟩,h3⟩:=h;refine⟨h1,h2,fun j hj=>?_⟩;have hl:=zcp r r.length;have hj2:j < (zba r r.length).length:=by omega
 have:=h3 ((zba r r.length)[j]) (qb.2 ⟨j,by omega,rfl⟩);rw[zx,zA hj2];unfold not1 at this
 simpa using this
def zcH (r:List Nd):Tr:=trF (r.length+1) r ((r.length:Int) - 1)
theorem zjC {r:List Nd} (h:wfS r=true):(zcH r).size=r.length:=by
 obtain⟨⟨h1,h2⟩,h3,h4⟩:=zcN h;have hl:=zhj h3;have hk:∀ j:Nat,j < r.length->1≤ndK (zao r j)∧ndK (zao r j)≤18:=fun j hj=>(zaI (zcL h3 hj).1).1;have hlast:(zba r r.length).getD (r.length - 1) 0=0:=by
  obtain⟨m,hm⟩:∃ m,r.length=m+1:=⟨r.length - 1,by omega⟩;obtain⟨a,b⟩:=hl m (by omega);rw[hm,Nat.add_sub_cancel,zcG (by omega),zfi (by rw[zcp];exact⟨fun x y=>by have:=a x y;omega,fun x y=>by have:=b x y;omega⟩) (hk m (by omega)),zeD hl hk m (by omega) m (zk _),if_neg,if_neg]
  ·rfl
  ·rintro ⟨x,y⟩;have:=b (by omega) (by omega);omega
  ·rintro ⟨x,y,z⟩;have:=a x y;omega
 have hle:∀ j,(zba r r.length).getD j 0≤1:=fun j=>by
  by_cases e:j < r.length - 1
  ·rw[h4 j e];exact xL _
  ·by_cases e2:j=r.length - 1
   ·rw[e2,hlast];decide
   ·rw[zeD hl hk r.length (zk _) j (by omega)];decide
 have:=zlT hl hk hle r.length (zk _);obtain⟨m,hm⟩:∃ m,r.length=m+1:=⟨r.length - 1,by omega⟩;have hp:∀ q,q≤m->pot (zba r r.length) (fun j=>(trF (r.length+1) r j).size) q=0:=by
  intro q
  induction q with
  |zero=>intro _;rfl
  |succ q ih=>intro hq;unfold pot;rw[ih (by omega),h4 q (by omega),if_neg (by decide)]
 rw[hm]at this hlast;unfold pot at this;rw[<-hm]at this hlast;rw[hp m (zk _)]at this;have hm2:r.length - 1=m:=by omega
 rw[hm2]at hlast;rw[hlast,if_pos rfl]at this;unfold zcH;rw[show ((r.length:Int) - 1)=((m:Nat):Int) by omega];omega
theorem znK {r:List Nd} (h:wfS r=true):TrOk (zcH r):=by
 obtain⟨⟨h1,h2⟩,h3,h4⟩:=zcN h;unfold zcH;rw[show ((r.length:Int) - 1)=((r.length - 1:Nat):Int) by omega];exact znH h3 _ _ (by omega) (by omega)
theorem znJ {r:List Nd} (h:wfS r=true):zaT (r.length+1) r ((r.length:Int) - 1)=(zcH r).text:=by
 obtain⟨⟨h1,h2⟩,h3,h4⟩:=zcN h;unfold zcH;rw[show ((r.length:Int) - 1)=((r.length - 1:Nat):Int) by omega];exact zfy (zhj h3) _ _ (by omega) (by omega)
def fmtS (r:List Nd):List UInt8×Int:=if zbr r=0 then (if 4000 < (zcH r).text.length then ([],2) else ((zcH r).text,0)) else ([],zbr r)
def zbB:Ctr:={ args:=[i64,i64,i64],pre:=fun _=>[],res:=.bool,own:=none,out:=fun x=>inB x.1 x.2.1 x.2.2.1 }
theorem zke:yk Tryz.prog gmH 186 zbB:=by
 refine zal (K:=gmK) zaj Tryz.func186 rfl rfl Tryz.call186 rfl (by decide) (by intro h;cases h) ?_;rintro w0 X hX ⟨(a:Int),(lo:Int),(hi:Int),_⟩ hp;change AWP _ _ _ _ _ ⟨[(0,⟨i64,a⟩),(1,⟨i64,lo⟩),(2,⟨i64,hi⟩)],[],0⟩ _;refine za (za ?_);refine zaa hX zaj rfl ?_ ?_
 ·trivial
 refine za (za ?_);refine zaa hX zaj rfl ?_ ?_
 ·repeat'(first|exact trivial|assumption|(refine⟨?_,?_⟩)|(intro _)|exact zb rfl|exact zd _|(simp_all [allP];done))
 refine zl ⟨.inr rfl,zas rfl trivial rfl rfl ?_⟩;show (bif decide (lo≤a) then decide (a≤hi) else false)=inB a lo hi;rw[zcS];rfl
def k6a:Kn:={ gmK with C:=[(186,zbB)] }
theorem zcR:KnOk Tryz.prog gmH k6a:=zaj.with (.cons zke .nil)
theorem zqN:yk Tryz.prog gmH 189 zrM:=by
 refine zal (K:=k6a) zcR Tryz.func189 rfl rfl Tryz.call189 rfl (by decide) (by intro h;cases h) ?_;rintro w0 X hX ⟨(n:Nd),_⟩ hp;change AWP _ _ _ _ _ ⟨[(0,⟨nd,n⟩)],[],0⟩ _;apply zaf;refine za (za ?_);refine zaa hX zcR rfl ?_ ?_
 ·trivial
 refine za (za ?_);refine zaa hX zcR rfl ?_ ?_
 ·trivial
 refine za (za ?_);refine zaa hX zcR rfl ?_ ?_
 ·trivial
 refine zae rfl (fun h1=>?_) (fun h1=>?_)
 ·have h1:(n.1==1)=true:=h1;refine za (za ?_);refine zaa hX zcR rfl ?_ ?_
  ·have i0:zbB.out (n.2.2.2.2.1,(1:Int),(400:Int),())=true->inR .i64 (n.2.2.2.2.1 - 1):=fun h=>by
    have h:inB n.2.2.2.2.1 1 400=true:=h;unfold inB at h;rw[zf,decide_eq_true_iff,decide_eq_true_iff]at h;exact zam (by omega) (by omega)
   cases hA:zbB.out (n.2.2.2.2.1,(1:Int),(1099511627776:Int),())
   all_goals
    repeat'(first|exact trivial|assumption|rfl|exact i0 rfl|exact i0 hA|(intro h;exact absurd h zF)|(refine⟨?_,?_⟩)|(intro _))
  refine zl ⟨.inr rfl,zas rfl trivial rfl rfl ?_⟩;show _=zbz n;simp only[zbz,h1,cond_true,cond_false,yJ,xd,yM,yE]
  all_goals (first|rfl|(simp;done))
 have h1:(n.1==1)=false:=h1;refine za (za ?_);refine zaa hX zcR rfl ?_ ?_
 ·trivial
 refine zae rfl (fun h2=>?_) (fun h2=>?_)
 ·have h2:(n.1==2)=true:=h2;refine za (za ?_);refine zaa hX zcR rfl ?_ ?_
  ·have i0:zbB.out (n.2.2.2.2.1,(1:Int),(400:Int),())=true->inR .i64 (n.2.2.2.2.1 - 1):=fun h=>by
    have h:inB n.2.2.2.2.1 1 400=true:=h;unfold inB at h;rw[zf,decide_eq_true_iff,decide_eq_true_iff]at h;exact zam (by omega) (by omega)
   cases hA:zbB.out (n.2.2.2.2.1,(1:Int),(400:Int),())
   all_goals
    repeat'(first|exact trivial|assumption|rfl|exact i0 rfl|exact i0 hA|(intro h;exact absurd h zF)|(refine⟨?_,?_⟩)|(intro _))
  refine zl ⟨.inr rfl,zas rfl trivial rfl rfl ?_⟩;show _=zbz n;simp only[zbz,h1,h2,cond_true,cond_false,yJ,xd,yM,yE]
  all_goals (first|rfl|(simp;done))
 have h2:(n.1==2)=false:=h2;refine za (za ?_);refine zaa hX zcR rfl ?_ ?_
 ·trivial
 refine zae rfl (fun h7=>?_) (fun h7=>?_)
 ·have h7:(n.1==7)=true:=h7;refine za (za ?_);refine zaa hX zcR rfl ?_ ?_
  ·have i0:zbB.out (n.2.2.2.2.1,(1:Int),(400:Int),())=true->inR .i64 (n.2.2.2.2.1 - 1):=fun h=>by
    have h:inB n.2.2.2.2.1 1 400=true:=h;unfold inB at h;rw[zf,decide_eq_true_iff,decide_eq_true_iff]at h;exact zam (by omega) (by omega)
   cases hA:zbB.out (n.2.2.2.2.1,(-60:Int),(60:Int),())<;>cases (n.2.2.2.2.1==0)<;>cases zbB.out (n.2.2.2.2.2.1,(0:Int),(6:Int),())
   all_goals
    repeat'(first|exact trivial|assumption|rfl|exact i0 rfl|exact i0 hA|(intro h;exact absurd h zF)|(refine⟨?_,?_⟩)|(intro _))
  refine zl ⟨.inr rfl,zas rfl trivial rfl rfl ?_⟩;show _=zbz n;simp only[zbz,h1,h2,h7,cond_true,cond_false,yJ,xd,yM,yE]
  all_goals (first|rfl|(simp;done))
 have h7:(n.1==7)=false:=h7;refine za (za ?_);refine zaa hX zcR rfl ?_ ?_
 ·trivial
 refine zae rfl (fun h11=>?_) (fun h11=>?_)
 ·have h11:(n.1==11)=true:=h11;refine za (za ?_);refine zaa hX zcR rfl ?_ ?_
  ·have i0:zbB.out (n.2.2.2.2.1,(1:Int),(400:Int),())=true->inR .i64 (n.2.2.2.2.1 - 1):=fun h=>by
    have h:inB n.2.2.2.2.1 1 400=true:=h;unfold inB at h;rw[zf,decide_eq_true_iff,decide_eq_true_iff]at h;exact zam (by omega) (by omega)
   cases hA:zbB.out (n.2.2.2.2.1,(-1099511627776:Int),(1099511627776:Int),())
   all_goals
    repeat'(first|exact trivial|assumption|rfl|exact i0 rfl|exact i0 hA|(intro h;exact absurd h zF)|(refine⟨?_,?_⟩)|(intro _))
  refine zl ⟨.inr rfl,zas rfl trivial rfl rfl ?_⟩;show _=zbz n;simp only[zbz,h1,h2,h7,h11,cond_true,cond_false,yJ,xd,yM,yE]
  all_goals (first|rfl|(simp;done))
 have h11:(n.1==11)=false:=h11;refine za (za ?_);refine zaa hX zcR rfl ?_ ?_
 ·trivial
 refine je (σ':=⟨[(1,⟨.optr nd,⟨0,nd,.here⟩⟩),(4,⟨i64,n.1⟩),(58,⟨.bool,(n.1==12)||(n.1==13)⟩)],[(0,some (.box nd n))],1⟩) ?_ ?_
 ·refine zae rfl (fun h=>?_) (fun h=>?_)
  ·have h:(n.1==12)=true:=h;apply zab;rw[h];exact⟨⟨rfl,rfl,rfl,trivial⟩,⟨rfl,trivial⟩,rfl,rfl⟩
  ·have h:(n.1==12)=false:=h;refine za (za ?_);refine zaa hX zcR rfl ?_ ?_
   ·trivial
   rw[h];exact⟨⟨rfl,rfl,rfl,trivial⟩,⟨rfl,trivial⟩,rfl,rfl⟩
 refine zae rfl (fun h12=>?_) (fun h12=>?_)
 ·have h12:((n.1==12)||(n.1==13))=true:=h12;refine za (za ?_);refine zaa hX zcR rfl ?_ ?_
  ·have i0:zbB.out (n.2.2.2.2.1,(1:Int),(400:Int),())=true->inR .i64 (n.2.2.2.2.1 - 1):=fun h=>by
    have h:inB n.2.2.2.2.1 1 400=true:=h;unfold inB at h;rw[zf,decide_eq_true_iff,decide_eq_true_iff]at h;exact zam (by omega) (by omega)
   cases hA:zbB.out (n.2.2.2.2.1,(0:Int),(1099511627776:Int),())
   all_goals
    repeat'(first|exact trivial|assumption|rfl|exact i0 rfl|exact i0 hA|(intro h;exact absurd h zF)|(refine⟨?_,?_⟩)|(intro _))
  refine zl ⟨.inr rfl,zas rfl trivial rfl rfl ?_⟩;show _=zbz n;simp only[zbz,h1,h2,h7,h11,h12,cond_true,cond_false,yJ,xd,yM,yE]
  all_goals (first|rfl|(simp;done))
 have h12:((n.1==12)||(n.1==13))=false:=h12;refine za (za ?_);refine zaa hX zcR rfl ?_ ?_
 ·trivial
 refine zae rfl (fun h16=>?_) (fun h16=>?_)
 ·have h16:(n.1==16)=true:=h16;refine za (za ?_);refine zaa hX zcR rfl ?_ ?_
  ·have i0:zbB.out (n.2.2.2.2.1,(1:Int),(400:Int),())=true->inR .i64 (n.2.2.2.2.1 - 1):=fun h=>by
    have h:inB n.2.2.2.2.1 1 400=true:=h;unfold inB at h;rw[zf,decide_eq_true_iff,decide_eq_true_iff]at h;exact zam (by omega) (by omega)
   cases hA:(n.2.2.2.2.1==0)
   all_goals
    repeat'(first|exact trivial|assumption|rfl|exact i0 rfl|exact i0 hA|(intro h;exact absurd h zF)|(refine⟨?_,?_⟩)|(intro _))
  refine zl ⟨.inr rfl,zas rfl trivial rfl rfl ?_⟩;show _=zbz n;simp only[zbz,h1,h2,h7,h11,h12,h16,cond_true,cond_false,yJ,xd,yM,yE]
  all_goals (first|rfl|(simp;done))
 have h16:(n.1==16)=false:=h16;refine za (za ?_);refine zaa hX zcR rfl ?_ ?_
 ·trivial
 refine zae rfl (fun h17=>?_) (fun h17=>?_)
 ·have h17:(n.1==17)=true:=h17;refine za (za ?_);refine zaa hX zcR rfl ?_ ?_
  ·have i0:zbB.out (n.2.2.2.2.1,(1:Int),(400:Int),())=true->inR .i64 (n.2.2.2.2.1 - 1):=fun h=>by
    have h:inB n.2.2.2.2.1 1 400=true:=h;unfold inB at h;rw[zf,decide_eq_true_iff,decide_eq_true_iff]at h;exact zam (by omega) (by omega)
   cases hA:zbB.out (n.2.2.2.2.1,(1:Int),(400:Int),())
   all_goals
    repeat'(first|exact trivial|assumption|rfl|exact i0 rfl|exact i0 hA|(intro h;exact absurd h zF)|(refine⟨?_,?_⟩)|(intro _))
  refine zl ⟨.inr rfl,zas rfl trivial rfl rfl ?_⟩;show _=zbz n;simp only[zbz,h1,h2,h7,h11,h12,h16,h17,cond_true,cond_false,yJ,xd,yM,yE]
  all_goals (first|rfl|(simp;done))
 have h17:(n.1==17)=false:=h17;apply zab;refine za (za ?_);refine zaa hX zcR rfl ?_ ?_
 ·have i0:zbB.out (n.2.2.2.2.1,(1:Int),(400:Int),())=true->inR .i64 (n.2.2.2.2.1 - 1):=fun h=>by
   have h:inB n.2.2.2.2.1 1 400=true:=h;unfold inB at h;rw[zf,decide_eq_true_iff,decide_eq_true_iff]at h;exact zam (by omega) (by omega)
  cases hA:(n.2.2.2.2.1==0)
  all_goals
   repeat'(first|exact trivial|assumption|rfl|exact i0 rfl|exact i0 hA|(intro h;exact absurd h zF)|(refine⟨?_,?_⟩)|(intro _))
 refine zl ⟨.inr rfl,zas rfl trivial rfl rfl ?_⟩;show _=zbz n;simp only[zbz,h1,h2,h7,h11,h12,h16,h17,cond_true,cond_false,yJ,xd,yM,yE]
 all_goals (first|rfl|(simp;done))
def risS (l:List Int) (b:Int×Int×Unit):Bool:=(yK l.length).all (fun i=>!zee l b i)&&decide (((l.length:Nat):Int) > 0)
def cRis6:Ctr:={ args:=[ints,i64,i64,.bool],pre:=fun x=>[x.2.2.2.1= !decide (x.2.1 < 0)],res:=.bool,own:=none,out:=fun x=>risS x.1 (x.2.1,x.2.2.1,()) }
theorem zsH:yk Tryz.prog gmH 222 cRis6:=by
 refine zal (K:=gmK) zaj Tryz.func222 rfl rfl Tryz.call222 rfl (by decide) (by intro h;cases h) ?_;rintro w0 X hX ⟨(l:List Int),(lo:Int),(hi:Int),(z:Bool),_⟩ hp;have hz:z= !decide (lo < 0):=hp;change AWP _ _ _ _ _ ⟨[(0,⟨ints,l⟩),(1,⟨i64,lo⟩),(2,⟨i64,hi⟩),(3,⟨.bool,z⟩)],[],0⟩ _;refine ju 0 rfl fun hl=>?_;unfold maxLen at hl;refine za (za ?_);refine zaa hX zaj rfl ?_ ?_
 ·trivial
 refine za (za ?_);refine zaa hX zaj rfl ?_ ?_
 ·trivial
 apply zac;refine yi (ι:=Nat) (fun k=>⟨[(0,⟨ints,l⟩),(1,⟨i64,lo⟩),(2,⟨i64,hi⟩),(3,⟨.bool,z⟩),(9,⟨i64,(k:Int)⟩)],[],0⟩) (fun k=>k≤l.length∧∀ j,j < k->zee l (lo,hi,()) j=false) (fun k=>l.length - k) 0 ⟨by omega,by omega⟩ ⟨⟨rfl,rfl,rfl,rfl,rfl,trivial⟩,trivial,rfl,rfl⟩ ?_;rintro k ⟨hk,hn⟩;refine za (za ?_);refine zaa hX zaj rfl ?_ ?_
 ·trivial
 refine zae rfl (fun hb=>?_) (fun hb=>?_)
 ·have hb:decide ((k:Int) < (l.length:Nat))=true:=hb;have hb:=of_decide_eq_true hb;have hlt:k < l.length:=by omega
  have n0:(0:Int)≤(k:Int):=by omega
  have n1:((k:Int)).toNat < l.length:=by omega
  have i1:inR .i64 ((k:Int) - 1):=zam (by omega) (by omega);have i2:(k:Int) - 1 < (l.length:Nat):=by omega
  have i4:((k:Int) - 1).toNat < l.length:=by omega
  have i3:decide ((k:Int) > 0)=true->0≤(k:Int) - 1:=fun h=>by have:=of_decide_eq_true h;omega
  (repeat(first|apply zaf|apply zab|apply zac|apply zad));refine AWP.draw dM hX zaj 40 (by kernel_rfl) rfl rfl ?_ ?_ ?_
  ·cases decide ((l.getD ((k:Int)).toNat (zaA i64)) < lo)<;>cases decide ((l.getD ((k:Int)).toNat (zaA i64)) > hi)<;>cases hD:decide ((k:Int) > 0)<;>cases ((l.getD ((k:Int)).toNat (zaA i64))==0)<;>cases decide ((l.getD ((k:Int)).toNat (zaA i64))≤(l.getD ((k:Int) - 1).toNat (zaA i64)))
   all_goals
    repeat'(first|exact trivial|assumption|exact i3 hD|rfl|(intro h;exact absurd h zF)|(refine⟨?_,?_⟩)|(intro _))
  ·cases decide ((l.getD ((k:Int)).toNat (zaA i64)) < lo)<;>cases decide ((l.getD ((k:Int)).toNat (zaA i64)) > hi)<;>cases hD:decide ((k:Int) > 0)<;>cases ((l.getD ((k:Int)).toNat (zaA i64))==0)<;>cases decide ((l.getD ((k:Int)).toNat (zaA i64))≤(l.getD ((k:Int) - 1).toNat (zaA i64)))
   all_goals
    repeat'(first|exact trivial|assumption|exact i3 hD|rfl|(intro h;exact absurd h zF)|(refine⟨?_,?_⟩)|(intro _))
  have hq:decide ((k:Int) > 0)=decide (0 < k):=by rw[zL,decide_eq_true_iff,decide_eq_true_iff];omega
  have hq':((k:Int) - 1).toNat=k - 1:=by omega
  have hbad:(!(decide (lo≤(l.getD ((k:Int)).toNat (zaA i64)))&&decide ((l.getD ((k:Int)).toNat (zaA i64))≤hi))||(decide ((k:Int) > 0)&&decide ((l.getD ((k:Int)).toNat (zaA i64))≤(l.getD ((k:Int) - 1).toNat (zaA i64))))||(((l.getD ((k:Int)).toNat (zaA i64))==0)&&decide (lo < 0)))=zee l (lo,hi,()) k:=by
   unfold zee;rw[<-hq, <-hq'];rfl
  have d1:decide (lo≤(l.getD ((k:Int)).toNat (zaA i64)))= !decide ((l.getD ((k:Int)).toNat (zaA i64)) < lo):=by
   rw[zL,decide_eq_true_iff,zr,decide_eq_false_iff_not];omega
  have d2:decide ((l.getD ((k:Int)).toNat (zaA i64))≤hi)= !decide ((l.getD ((k:Int)).toNat (zaA i64)) > hi):=by
   rw[zL,decide_eq_true_iff,zr,decide_eq_false_iff_not];omega
  rw[d1,d2]at hbad;refine zae rfl (fun hb=>?_) (fun hb=>?_)
  ·have hc:zee l (lo,hi,()) k=true:=by
    rw[<-hb, <-hbad,hz];clear hb hbad;cases decide ((l.getD ((k:Int)).toNat (zaA i64)) < lo)<;>cases decide ((l.getD ((k:Int)).toNat (zaA i64)) > hi)<;>cases hD:decide ((k:Int) > 0)<;>cases ((l.getD ((k:Int)).toNat (zaA i64))==0)<;>cases decide ((l.getD ((k:Int)).toNat (zaA i64))≤(l.getD ((k:Int) - 1).toNat (zaA i64)))<;>cases decide (lo < 0)<;>rfl
   (repeat(first|apply zaf|apply zab|apply zai|apply zad|apply zac|refine zaa hX zaj rfl trivial ?_|refine zaa hX zaj rfl id ?_|refine zaa hX zaj rfl ⟨id,id⟩ ?_));refine zl ⟨.inr rfl,zas rfl trivial rfl rfl ?_⟩;show false=risS l (lo,hi,());unfold risS;rw[show (yK l.length).all (fun i=>!zee l (lo,hi,()) i)=false from ?_]
   ·rfl
   ·rw[qa];intro ha;have:=zM.1 ha k (ym.2 hlt);rw[hc]at this;cases this
  ·have hc:zee l (lo,hi,()) k=false:=by
    rw[<-hb, <-hbad,hz];clear hb hbad;cases decide ((l.getD ((k:Int)).toNat (zaA i64)) < lo)<;>cases decide ((l.getD ((k:Int)).toNat (zaA i64)) > hi)<;>cases hD:decide ((k:Int) > 0)<;>cases ((l.getD ((k:Int)).toNat (zaA i64))==0)<;>cases decide ((l.getD ((k:Int)).toNat (zaA i64))≤(l.getD ((k:Int) - 1).toNat (zaA i64)))<;>cases decide (lo < 0)<;>rfl
   apply zab;refine za (za ?_);refine zaa hX zaj rfl ?_ ?_
   ·exact zaF (by omega)
   exact⟨k+1,⟨by omega,fun j hj=>by
    by_cases e:j=k
    ·subst e;exact hc
    ·exact hn j (by omega)⟩,by omega,⟨rfl,rfl,rfl,rfl,zbY _,trivial⟩,trivial,rfl,rfl⟩
 ·have hb:decide ((k:Int) < (l.length:Nat))=false:=hb;have hb:=of_decide_eq_false hb;have:k=l.length:=by omega
  subst this;apply zad;(repeat(first|apply zaf|apply zab|apply zai|apply zad|apply zac|refine zaa hX zaj rfl trivial ?_|refine zaa hX zaj rfl id ?_|refine zaa hX zaj rfl ⟨id,id⟩ ?_));refine zl ⟨.inr rfl,zas rfl trivial rfl rfl ?_⟩;show decide (((l.length:Nat):Int) > 0)=risS l (lo,hi,());unfold risS;rw[show (yK l.length).all (fun i=>!zee l (lo,hi,()) i)=true from ?_]
  ·rfl
  ·rw[zM];intro i hi;rw[hn i (ym.1 hi)];rfl
theorem zd4 {l:List Int} {b:Int×Int×Unit} (h:zh0 b=false):zaQ l b=risS l b:=by
 unfold zaQ risS;rw[h];rfl
def zrN:Ctr:={ args:=[nd],pre:=fun x=>[1≤ndK x.1,ndK x.1≤18],res:=.bool,own:=none,out:=fun x=>zaQ (ndI x.1) (zbH (ndK x.1)).2.2.1 }
def k6b:Kn:={ gmK with C:=[(222,cRis6)] }
theorem zcV:KnOk Tryz.prog gmH k6b:=zaj.with (.cons zsH .nil)
theorem zsZ:yk Tryz.prog gmH 188 zrN:=by
 refine zal (K:=k6b) zcV Tryz.func188 rfl rfl Tryz.call188 rfl (by decide) (by intro h;cases h) ?_;rintro w0 X hX ⟨(n:Nd),_⟩ hp;obtain⟨q1,q2⟩:1≤ndK n∧ndK n≤18:=hp;change AWP _ _ _ _ _ ⟨[(0,⟨nd,n⟩)],[],0⟩ _;obtain⟨R,hR⟩:∃ R,R=zaQ (ndI n) (zbH (ndK n)).2.2.1:=⟨_,rfl⟩;refine za (za ?_);refine zaa hX zcV rfl ?_ ?_
 ·trivial
 refine za (za ?_);refine zaa hX zcV rfl ?_ ?_
 ·trivial
 apply zac;refine za (za ?_);refine zaa hX zcV rfl ?_ ?_
 ·trivial
 refine zae rfl (fun h3=>?_) (fun h3=>?_)
 ·have h3:ndK n=3:=eq_of_beq h3;have hz:true= !decide ((1:Int) < 0):=by decide
  refine za (za ?_);refine zaa hX zcV rfl ?_ ?_
  ·exact hz
  refine zl ⟨.inr rfl,zas rfl trivial rfl rfl ?_⟩;show risS (ndI n) (1,16,())=zaQ (ndI n) (zbH (ndK n)).2.2.1;rw[show ndK n=3 from h3];exact (zd4 (by decide)).symm
 have h3:ndK n≠3:=fun e=>by have:(ndK n==3)=false:=h3;rw[e]at this;cases this
 refine za (za ?_);refine zaa hX zcV rfl ?_ ?_
 ·trivial
 refine zae rfl (fun h4=>?_) (fun h4=>?_)
 ·have h4:ndK n=4:=eq_of_beq h4;have hz:false= !decide ((-40:Int) < 0):=by decide
  refine za (za ?_);refine zaa hX zcV rfl ?_ ?_
  ·exact hz
  refine zl ⟨.inr rfl,zas rfl trivial rfl rfl ?_⟩;show risS (ndI n) (-40,40,())=zaQ (ndI n) (zbH (ndK n)).2.2.1;rw[show ndK n=4 from h4];exact (zd4 (by decide)).symm
 have h4:ndK n≠4:=fun e=>by have:(ndK n==4)=false:=h4;rw[e]at this;cases this
 refine za (za ?_);refine zaa hX zcV rfl ?_ ?_
 ·trivial
 refine zae rfl (fun h5=>?_) (fun h5=>?_)
 ·have h5:ndK n=5:=eq_of_beq h5;have hz:true= !decide ((0:Int) < 0):=by decide
  refine za (za ?_);refine zaa hX zcV rfl ?_ ?_
  ·exact hz
  refine zl ⟨.inr rfl,zas rfl trivial rfl rfl ?_⟩;show risS (ndI n) (0,6,())=zaQ (ndI n) (zbH (ndK n)).2.2.1;rw[show ndK n=5 from h5];exact (zd4 (by decide)).symm
 have h5:ndK n≠5:=fun e=>by have:(ndK n==5)=false:=h5;rw[e]at this;cases this
 refine za (za ?_);refine zaa hX zcV rfl ?_ ?_
 ·trivial
 refine zae rfl (fun h6=>?_) (fun h6=>?_)
 ·have h6:ndK n=6:=eq_of_beq h6;have hz:true= !decide ((1:Int) < 0):=by decide
  refine za (za ?_);refine zaa hX zcV rfl ?_ ?_
  ·exact hz
  refine zl ⟨.inr rfl,zas rfl trivial rfl rfl ?_⟩;show risS (ndI n) (1,54,())=zaQ (ndI n) (zbH (ndK n)).2.2.1;rw[show ndK n=6 from h6];exact (zd4 (by decide)).symm
 have h6:ndK n≠6:=fun e=>by have:(ndK n==6)=false:=h6;rw[e]at this;cases this
 refine za (za ?_);refine zaa hX zcV rfl ?_ ?_
 ·trivial
 refine zae rfl (fun h14=>?_) (fun h14=>?_)
 ·have h14:ndK n=14:=eq_of_beq h14;apply zab;refine zae rfl (fun _=>?_) (fun hx=>?_)
  ·skip
   have hz:true= !decide ((0:Int) < 0):=by decide
   refine za (za ?_);refine zaa hX zcV rfl ?_ ?_
   ·exact hz
   refine zl ⟨.inr rfl,zas rfl trivial rfl rfl ?_⟩;show risS (ndI n) (0,1099511627776,())=zaQ (ndI n) (zbH (ndK n)).2.2.1;rw[show ndK n=14 from h14];exact (zd4 (by decide)).symm
  ·have hx:(ndK n==14)=false:=hx;rw[h14]at hx;cases hx
 have h14:ndK n≠14:=fun e=>by have:(ndK n==14)=false:=h14;rw[e]at this;cases this
 refine za (za ?_);refine zaa hX zcV rfl ?_ ?_
 ·trivial
 refine zae rfl (fun h15=>?_) (fun h15=>?_)
 ·have h15:ndK n=15:=eq_of_beq h15;have hz:true= !decide ((0:Int) < 0):=by decide
  refine za (za ?_);refine zaa hX zcV rfl ?_ ?_
  ·exact hz
  refine zl ⟨.inr rfl,zas rfl trivial rfl rfl ?_⟩;show risS (ndI n) (0,1099511627776,())=zaQ (ndI n) (zbH (ndK n)).2.2.1;rw[show ndK n=15 from h15];exact (zd4 (by decide)).symm
 have h15:ndK n≠15:=fun e=>by have:(ndK n==15)=false:=h15;rw[e]at this;cases this
 refine za (za ?_);refine zaa hX zcV rfl ?_ ?_
 ·trivial
 refine zae rfl (fun h16=>?_) (fun h16=>?_)
 ·have h16:ndK n=16:=eq_of_beq h16;have hz:false= !decide ((-400:Int) < 0):=by decide
  refine za (za ?_);refine zaa hX zcV rfl ?_ ?_
  ·exact hz
  refine zl ⟨.inr rfl,zas rfl trivial rfl rfl ?_⟩;show risS (ndI n) (-400,400,())=zaQ (ndI n) (zbH (ndK n)).2.2.1;rw[show ndK n=16 from h16];exact (zd4 (by decide)).symm
 have h16:ndK n≠16:=fun e=>by have:(ndK n==16)=false:=h16;rw[e]at this;cases this
 apply zab;refine za (za ?_);refine zaa hX zcV rfl ?_ ?_
 ·trivial
 refine zl ⟨.inr rfl,zas rfl trivial rfl rfl ?_⟩;show ((((ndI n).length:Nat):Int)==0)=zaQ (ndI n) (zbH (ndK n)).2.2.1;rcases (show ndK n=1∨ndK n=2∨ndK n=7∨ndK n=8∨ndK n=9∨ndK n=10∨ndK n=11∨ndK n=12∨ndK n=13∨ndK n=17∨ndK n=18 by omega) with e|e|e|e|e|e|e|e|e|e|e<;>rw[e]<;>rfl
def lt6 (c:UInt8):Bool:=(decide (97≤c)&&decide (c≤122))||(decide (65≤c)&&decide (c≤90))
theorem zl2 (c:UInt8):lt6 c=isLt c:=by
 have:=zgS (p:=fun c=>lt6 c==isLt c) (by decide+kernel) c;exact eq_of_beq this
def wdAt (w:List UInt8) (j:Nat):Bool:=lt6 (w.getD j 0)||((isDg (w.getD j 0)||(w.getD j 0==45))&&decide (0 < j))
theorem zoH {w:List UInt8}:zdm w=(((yK w.length).all fun j=>wdAt w j)&&(decide (1≤w.length)&&decide (w.length≤32))):=by
 rw[zL];unfold zdm;rw[zf,zf,zf,zf,zf,decide_eq_true_iff,decide_eq_true_iff,decide_eq_true_iff,zM,zM];have hget:∀ j (hj:j < w.length),w.getD j 0=w[j]:=fun j hj=>by rw[zx,zA hj];rfl
 constructor
 ·rintro ⟨⟨hne,hl⟩,hh,ha⟩;refine⟨fun j hj=>?_,?_,hl⟩
  ·have hj:=ym.1 hj;unfold wdAt;rw[hget j hj,zl2];have h1:=ha w[j] (yZ hj);unfold isPt at h1;rcases (vC.1 h1) with h2|h2
   ·rcases (vC.1 h2) with h3|h3
    ·rw[h3];rfl
    ·by_cases h0:0 < j
     ·rw[h3,decide_eq_true h0,xd,xr,yJ]
     ·obtain rfl:j=0:=by omega
      cases w with
      |nil=>exact absurd hj (yN _)
      |cons c r=>have hh:isLt c=true:=hh;show (isLt c||_)=true;rw[hh];rfl
   ·by_cases h0:0 < j
    ·rw[h2,decide_eq_true h0,yJ,xr,yJ]
    ·obtain rfl:j=0:=by omega
     cases w with
     |nil=>exact absurd hj (yN _)
     |cons c r=>have hh:isLt c=true:=hh;show (isLt c||_)=true;rw[hh];rfl
  ·cases w with
   |nil=>exact absurd rfl hne
   |cons c r=>rw[zs];omega
 ·rintro ⟨ha,h1,hl⟩;refine⟨⟨fun e=>by rw[e]at h1;exact absurd h1 (by decide),hl⟩,?_,fun c hc=>?_⟩
  ·cases w with
   |nil=>rfl
   |cons c r=>
    have:=ha 0 (ym.2 (by rw[zs];omega));unfold wdAt at this;rw[decide_eq_false (by omega:¬ 0 < 0),xv,yM,zl2]at this;exact this
  ·obtain⟨j,hj,rfl⟩:=List.mem_iff_getElem.1 hc;have:=ha j (ym.2 hj);unfold wdAt at this;rw[hget j hj,zl2]at this;unfold isPt;rcases (vC.1 this) with h2|h2
   ·rw[h2];rfl
   ·rw[zf]at h2;rw[Bool.or_assoc,h2.1,yJ]
def zpI:Ctr:={ args:=[.str],pre:=fun _=>[],res:=.bool,own:=none,out:=fun x=>zdm x.1 }
theorem zqe:yk Tryz.prog gmH 187 zpI:=by
 refine zal (K:=gmK) zaj Tryz.func187 rfl rfl Tryz.call187 rfl (by decide) (by intro h;cases h) ?_;rintro w0 X hX ⟨(w:List UInt8),_⟩ hp;change AWP _ _ _ _ _ ⟨[(0,⟨.str,w⟩)],[],0⟩ _;refine AWP.slen 0 rfl fun hl=>?_;unfold maxLen at hl;refine za (za ?_);refine zaa hX zaj rfl ?_ ?_
 ·trivial
 refine za (za ?_);refine zaa hX zaj rfl ?_ ?_
 ·trivial
 apply zac;refine yi (ι:=Nat) (fun k=>⟨[(0,⟨.str,w⟩),(3,⟨i64,(k:Int)⟩)],[],0⟩) (fun k=>k≤w.length∧∀ j,j < k->wdAt w j=true) (fun k=>w.length - k) 0 ⟨by omega,by omega⟩ ⟨⟨rfl,rfl,trivial⟩,trivial,rfl,rfl⟩ ?_;rintro k ⟨hk,hn⟩;refine za (za ?_);refine zaa hX zaj rfl ?_ ?_
 ·trivial
 refine zae rfl (fun hb=>?_) (fun hb=>?_)
 ·have hb:decide ((k:Int) < (w.length:Nat))=true:=hb;have hb:=of_decide_eq_true hb;have hlt:k < w.length:=by omega
  have n0:(0:Int)≤(k:Int):=by omega
  have n1:((k:Int)).toNat < w.length:=by omega
  have n2:(k:Int) < ((w.length:Nat):Int):=hb;refine za (za ?_);refine zaa hX zaj rfl ?_ ?_
  ·repeat'(first|exact trivial|assumption|exact n0|exact n1|exact n2|(refine⟨?_,?_⟩)|(intro _)|exact zb rfl|exact zd _|(simp_all [allP];done))
  refine za (za ?_);refine zaa hX zaj rfl ?_ ?_
  ·repeat'(first|exact trivial|assumption|exact n0|exact n1|exact n2|(refine⟨?_,?_⟩)|(intro _)|exact zb rfl|exact zd _|(simp_all [allP];done))
  refine za (za ?_);refine zaa hX zaj rfl ?_ ?_
  ·repeat'(first|exact trivial|assumption|(refine⟨?_,?_⟩)|(intro _)|exact zb rfl|exact zd _|(simp_all [allP];done))
  have hq:(bif (!bif (bif decide ((((97:UInt8).toNat:Nat):Int)≤((((w.getD ((k:Int)).toNat 0):UInt8).toNat:Nat):Int)) then decide (((((w.getD ((k:Int)).toNat 0):UInt8).toNat:Nat):Int)≤(((122:UInt8).toNat:Nat):Int)) else false) then true else (bif decide ((((65:UInt8).toNat:Nat):Int)≤((((w.getD ((k:Int)).toNat 0):UInt8).toNat:Nat):Int)) then decide (((((w.getD ((k:Int)).toNat 0):UInt8).toNat:Nat):Int)≤(((90:UInt8).toNat:Nat):Int)) else false)) then (bif (!bif (bif decide ((((48:UInt8).toNat:Nat):Int)≤((((w.getD ((k:Int)).toNat 0):UInt8).toNat:Nat):Int)) then decide (((((w.getD ((k:Int)).toNat 0):UInt8).toNat:Nat):Int)≤(((57:UInt8).toNat:Nat):Int)) else false) then true else (((((w.getD ((k:Int)).toNat 0):UInt8).toNat:Nat):Int)==(((45:UInt8).toNat:Nat):Int))) then true else ((k:Int)==0)) else false)= !wdAt w k:=by
   simp only[zb3,zez,u8le,u8eq];rw[zz];unfold wdAt lt6 isDg;have e:((k:Int)==0)= !decide (0 < k):=by
    rw[zL,beq_iff_eq,zr,decide_eq_false_iff_not];omega
   rw[e];generalize w.getD k 0=c;cases decide (97≤c)&&decide (c≤122)||decide (65≤c)&&decide (c≤90)<;>cases decide (48≤c)&&decide (c≤57)||c==45<;>cases decide (0 < k)<;>rfl
  refine zae rfl (fun hc=>?_) (fun hc=>?_)
  ·have hc:=hq.symm.trans hc;have hc:wdAt w k=false:=by simpa using hc
   (repeat(first|apply zaf|apply zab|apply zai|apply zad|apply zac|refine zaa hX zaj rfl trivial ?_|refine zaa hX zaj rfl id ?_|refine zaa hX zaj rfl ⟨id,id⟩ ?_));refine zl ⟨.inr rfl,zas rfl trivial rfl rfl ?_⟩;show false=zdm w;rw[zoH,show (yK w.length).all (fun j=>wdAt w j)=false from ?_]
   ·rfl
   ·rw[qa];intro ha;have:=zM.1 ha k (ym.2 hlt);rw[hc]at this;cases this
  ·have hc:=hq.symm.trans hc;have hc:wdAt w k=true:=by simpa using hc
   apply zab;refine za (za ?_);refine zaa hX zaj rfl ?_ ?_
   ·exact zaF (by omega)
   exact⟨k+1,⟨by omega,fun j hj=>by
    by_cases e:j=k
    ·subst e;exact hc
    ·exact hn j (by omega)⟩,by omega,⟨rfl,zbY _,trivial⟩,trivial,rfl,rfl⟩
 ·have hb:decide ((k:Int) < (w.length:Nat))=false:=hb;have hb:=of_decide_eq_false hb;have:k=w.length:=by omega
  subst this;apply zad;refine za (za ?_);refine zaa hX zaj rfl ?_ ?_
  ·repeat'(first|exact trivial|assumption|(refine⟨?_,?_⟩)|(intro _)|exact zb rfl|exact zd _|(simp_all [allP];done))
  refine zl ⟨.inr rfl,zas rfl trivial rfl rfl ?_⟩;show (bif decide (((w.length:Nat):Int)≥1) then decide (((w.length:Nat):Int)≤32) else false)=zdm w;rw[zoH,show (yK w.length).all (fun j=>wdAt w j)=true from ?_]
  ·rw[zcS,xr]
   congr 1
   ·rw[zL,decide_eq_true_iff,decide_eq_true_iff];omega
   ·rw[zL,decide_eq_true_iff,decide_eq_true_iff];omega
  ·rw[zM];intro i hi;exact hn i (ym.1 hi)
def zpT (f:Int->Int):Ctr:={ args:=[i64],pre:=fun x=>[1≤x.1,x.1≤18],res:=i64,own:=none,out:=fun x=>f x.1 }
theorem zlV:yk Tryz.prog gmH 153 (zpT fun k=>(zbH k).1):=by
 refine zal (K:=gmK) zaj Tryz.func153 rfl rfl Tryz.call153 rfl (by decide) (by intro h;cases h) ?_;rintro w0 X hX ⟨(k:Int),_⟩ hp;obtain⟨q1,q2⟩:1≤k∧k≤18:=hp;change AWP _ _ _ _ _ ⟨[(0,⟨i64,k⟩)],[],0⟩ _;rcases (show k=1∨k=2∨k=3∨k=4∨k=5∨k=6∨k=7∨k=8∨k=9∨k=10∨k=11∨k=12∨k=13∨k=14∨k=15∨k=16∨k=17∨k=18 by omega) with rfl|rfl|rfl|rfl|rfl|rfl|rfl|rfl|rfl|rfl|rfl|rfl|rfl|rfl|rfl|rfl|rfl|rfl
 all_goals
  (repeat(first|apply zaf|apply zab|apply zac|apply zad|refine zaa hX zaj rfl trivial ?_|refine zae rfl (fun _=>?_) (fun hb=>absurd (show true=false from hb) (by decide))|refine zae rfl (fun hb=>absurd (show false=true from hb) (by decide)) (fun _=>?_)));exact zl ⟨.inr rfl,zas rfl trivial rfl rfl rfl⟩
def zgx:Ctr:={ args:=[i64],pre:=fun x=>[1≤x.1,x.1≤18],res:=.bool,own:=none,out:=fun x=>(zbH x.1).2.1 }
theorem zlH:yk Tryz.prog gmH 106 zgx:=by
 refine zal (K:=gmK) zaj Tryz.func106 rfl rfl Tryz.call106 rfl (by decide) (by intro h;cases h) ?_;rintro w0 X hX ⟨(k:Int),_⟩ hp;obtain⟨q1,q2⟩:1≤k∧k≤18:=hp;change AWP _ _ _ _ _ ⟨[(0,⟨i64,k⟩)],[],0⟩ _;rcases (show k=1∨k=2∨k=3∨k=4∨k=5∨k=6∨k=7∨k=8∨k=9∨k=10∨k=11∨k=12∨k=13∨k=14∨k=15∨k=16∨k=17∨k=18 by omega) with rfl|rfl|rfl|rfl|rfl|rfl|rfl|rfl|rfl|rfl|rfl|rfl|rfl|rfl|rfl|rfl|rfl|rfl
 all_goals
  (repeat(first|apply zaf|apply zab|apply zac|apply zad|refine zaa hX zaj rfl trivial ?_|refine zae rfl (fun _=>?_) (fun hb=>absurd (show true=false from hb) (by decide))|refine zae rfl (fun hb=>absurd (show false=true from hb) (by decide)) (fun _=>?_)));exact zl ⟨.inr rfl,zas rfl trivial rfl rfl rfl⟩
def zr9:Ctr:={ args:=[nd,i64],pre:=fun x=>[0≤x.2.1,x.2.1≤1000000],res:=.bool,own:=none,out:=fun x=>zcj x.1 x.2.1 }
def k6n:Kn:={ gmK with C:=[(186,zbB),(153,zpT fun k=>(zbH k).1),(106,zgx),(187,zpI),(188,zrN),(189,zrM)] }
theorem zb9:KnOk Tryz.prog gmH k6n:=zaj.with (.cons zke <| .cons zlV <| .cons zlH <| .cons zqe <| .cons zsZ <| .cons zqN .nil)
theorem ops_in {n:Nd} (h:1≤ndK n∧ndK n≤18):opsN n=0∨opsN n=1∨opsN n=2:=by
 unfold opsN;rcases (show ndK n=1∨ndK n=2∨ndK n=3∨ndK n=4∨ndK n=5∨ndK n=6∨ndK n=7∨ndK n=8∨ndK n=9∨ndK n=10∨ndK n=11∨ndK n=12∨ndK n=13∨ndK n=14∨ndK n=15∨ndK n=16∨ndK n=17∨ndK n=18 by omega) with e|e|e|e|e|e|e|e|e|e|e|e|e|e|e|e|e|e<;>rw[e]<;>decide
theorem str_ne (x:List UInt8):(!eqb .str x [])= !decide (x=[]):=by rw[zdi]
theorem zqO:yk Tryz.prog gmH 152 zr9:=by
 refine zal (K:=k6n) zb9 Tryz.func152 rfl rfl Tryz.call152 rfl (by decide) (by intro h;cases h) ?_;rintro w0 X hX ⟨(n:Nd),(i:Int),_⟩ hp;obtain⟨q1,q2⟩:0≤i∧i≤1000000:=hp;change AWP _ _ _ _ _ ⟨[(0,⟨nd,n⟩),(1,⟨i64,i⟩)],[],0⟩ _;obtain⟨k,hk⟩:∃ k,k=ndK n:=⟨_,rfl⟩;refine za (za ?_);refine zaa hX zb9 rfl ?_ ?_
 ·trivial
 have e1:(bif (bif decide (ndK n < 1) then true else decide (ndK n > 18)) then true else decide ((((ndI n).length:Nat):Int) > 64))= !(inB (ndK n) 1 18&&decide ((ndI n).length≤64)):=by
  unfold inB;rw[b_or,b_or,zL,zY,zY,decide_eq_true_iff,decide_eq_true_iff,decide_eq_true_iff,zr,qM,qM,decide_eq_false_iff_not,decide_eq_false_iff_not,decide_eq_false_iff_not];omega
 refine za (za ?_);refine zaa hX zb9 rfl ?_ ?_
 ·repeat'(first|exact trivial|assumption|(refine⟨?_,?_⟩)|(intro _)|exact zb rfl|exact zd _|(simp_all [allP];done))
 refine zae rfl (fun hb=>?_) (fun hb=>?_)
 ·have hb:=e1.symm.trans hb;(repeat(first|apply zaf|apply zab|apply zai|apply zad|apply zac|refine zaa hX zb9 rfl trivial ?_|refine zaa hX zb9 rfl id ?_|refine zaa hX zb9 rfl ⟨id,id⟩ ?_));refine zl ⟨.inr rfl,zas rfl trivial rfl rfl ?_⟩;show false=zcj n i;unfold zcj zbA;rw[zr]at hb;rw[hb];rfl
 have hb:=e1.symm.trans hb;have hb:(inB (ndK n) 1 18&&decide ((ndI n).length≤64))=true:=by simpa using hb
 obtain⟨k1,k2⟩:=zaM.1 ((zf _ _).mp hb).1;have hN:zcj n i=((zdv n&&(zf3 n&&(zaQ (ndI n) (zbH (ndK n)).2.2.1&&zbz n)))&&zec n i):=by
  unfold zcj zbA;rw[hb,xr]
 have hops:=ops_in ⟨k1,k2⟩;apply zab;refine za (za ?_);refine zaa hX zb9 rfl ?_ ?_
 ·exact⟨k1,k2⟩
 have i1:inR .i64 (i - 1):=zam (by omega) (by omega);have e2:(bif (bif decide (opsN n≥1) then !inB (ndL n) 0 (i - 1) else false) then true else (bif (bif (opsN n==0) then (!(ndK n==7)) else false) then (!(ndL n==0)) else false))= !(bif decide (0 < opsN n) then inB (ndL n) 0 (i - 1) else (ndL n==0)||(ndK n==7)):=by
  rcases hops with e|e|e<;>rw[e]
  ·show (bif (bif true then (!(ndK n==7)) else false) then (!(ndL n==0)) else false)= !((ndL n==0)||(ndK n==7));cases ndK n==7<;>cases ndL n==0<;>rfl
  ·show (bif !inB (ndL n) 0 (i - 1) then true else false)= !inB (ndL n) 0 (i - 1);cases inB (ndL n) 0 (i - 1)<;>rfl
  ·show (bif !inB (ndL n) 0 (i - 1) then true else false)= !inB (ndL n) 0 (i - 1);cases inB (ndL n) 0 (i - 1)<;>rfl
 refine zap (σ':=⟨[(1,⟨i64,i⟩),(2,⟨.optr nd,⟨0,nd,.here⟩⟩),(5,⟨i64,opsN n⟩)],[(0,some (.box nd n))],1⟩) ⟨⟨rfl,rfl,rfl,trivial⟩,⟨rfl,trivial⟩,rfl,rfl⟩ ?_;have hopd:zec n i=((bif decide (0 < opsN n) then inB (ndL n) 0 (i - 1) else (ndL n==0)||(ndK n==7))&&(bif decide (1 < opsN n) then inB (ndR n) 0 (i - 1) else ndR n==0)):=rfl;have e3:(bif (bif (opsN n==2) then !inB (ndR n) 0 (i - 1) else false) then true else (bif decide (opsN n < 2) then (!(ndR n==0)) else false))= !(bif decide (1 < opsN n) then inB (ndR n) 0 (i - 1) else ndR n==0):=by
  rcases hops with e|e|e<;>rw[e]
  ·show (bif true then (!(ndR n==0)) else false)= !(ndR n==0);cases ndR n==0<;>rfl
  ·show (bif true then (!(ndR n==0)) else false)= !(ndR n==0);cases ndR n==0<;>rfl
  ·show (bif !inB (ndR n) 0 (i - 1) then true else (bif false then _ else false))= !inB (ndR n) 0 (i - 1);cases inB (ndR n) 0 (i - 1)<;>rfl
 generalize opsN n=o at *;refine za (za ?_);refine zaa hX zb9 rfl ?_ ?_
 ·cases decide (o≥1)<;>cases (o==0)<;>cases (n.1 != 7)<;>cases zbB.out (n.2.2.1,(0:Int),i - 1,())
  all_goals
   (repeat'(first|exact trivial|assumption|rfl|exact i1|(intro h;exact absurd h zF)|(refine⟨?_,?_⟩)|(intro _)))
 refine zae rfl (fun hb=>?_) (fun hb=>?_)
 ·have hb:=e2.symm.trans hb;(repeat(first|apply zaf|apply zab|apply zai|apply zad|apply zac|refine zaa hX zb9 rfl trivial ?_|refine zaa hX zb9 rfl id ?_|refine zaa hX zb9 rfl ⟨id,id⟩ ?_));refine zl ⟨.inr rfl,zas rfl trivial rfl rfl ?_⟩;show false=zcj n i;rw[zr]at hb;rw[hN,hopd,hb,jg,xv]
 have hb:=e2.symm.trans hb;have h2:(bif decide (0 < o) then inB (ndL n) 0 (i - 1) else (ndL n==0)||(ndK n==7))=true:=by simpa using hb
 clear hb e2;apply zab;refine za (za ?_);refine zaa hX zb9 rfl ?_ ?_
 ·cases (o==2)<;>cases decide (o < 2)<;>cases zbB.out (n.2.2.2.1,(0:Int),i - 1,())
  all_goals
   (repeat'(first|exact trivial|assumption|rfl|exact i1|(intro h;exact absurd h zF)|(refine⟨?_,?_⟩)|(intro _)))
 refine zae rfl (fun hb=>?_) (fun hb=>?_)
 ·have hb:=e3.symm.trans hb;(repeat(first|apply zaf|apply zab|apply zai|apply zad|apply zac|refine zaa hX zb9 rfl trivial ?_|refine zaa hX zb9 rfl id ?_|refine zaa hX zb9 rfl ⟨id,id⟩ ?_));refine zl ⟨.inr rfl,zas rfl trivial rfl rfl ?_⟩;show false=zcj n i;rw[zr]at hb;rw[hN,hopd,hb,xv,xv]
 have hb:=e3.symm.trans hb;have h3:(bif decide (1 < o) then inB (ndR n) 0 (i - 1) else ndR n==0)=true:=by simpa using hb
 clear hb e3;rw[hopd,h2,h3,xr,ud]at hN;apply zab;have e4:(bif (bif (zbH (ndK n)).2.1 then !inB (ndC n) 0 2 else false) then true else (bif !(zbH (ndK n)).2.1 then (!(ndC n==0)) else false))= !zdv n:=by
  unfold zdv;cases (zbH (ndK n)).2.1
  ·show (bif true then (!(ndC n==0)) else false)= !(ndC n==0);cases ndC n==0<;>rfl
  ·show (bif !inB (ndC n) 0 2 then true else (bif false then _ else false))= !inB (ndC n) 0 2;cases inB (ndC n) 0 2<;>rfl
 refine zap (σ':=⟨[(1,⟨i64,i⟩),(2,⟨.optr nd,⟨0,nd,.here⟩⟩)],[(0,some (.box nd n))],1⟩) ⟨⟨rfl,rfl,trivial⟩,⟨rfl,trivial⟩,rfl,rfl⟩ ?_;refine za (za ?_);refine zaa hX zb9 rfl ?_ ?_
 ·have y1:1≤n.1:=k1;have y2:n.1≤18:=k2;have z1:allP (zgx.pre (n.1,())):=⟨k1,k2⟩;cases zgx.out (n.1,())<;>cases zbB.out (n.2.1,(0:Int),(2:Int),())
  all_goals
   (repeat'(first|exact trivial|assumption|rfl|exact z1|exact y1|exact y2|(intro h;exact absurd h zF)|(refine⟨?_,?_⟩)|(intro _)))
 refine zae rfl (fun hb=>?_) (fun hb=>?_)
 ·have hb:=e4.symm.trans hb;(repeat(first|apply zaf|apply zab|apply zai|apply zad|apply zac|refine zaa hX zb9 rfl trivial ?_|refine zaa hX zb9 rfl id ?_|refine zaa hX zb9 rfl ⟨id,id⟩ ?_));refine zl ⟨.inr rfl,zas rfl trivial rfl rfl ?_⟩;show false=zcj n i;rw[zr]at hb;rw[hN,hb,jg]
 have hb:=e4.symm.trans hb;have h4:zdv n=true:=by simpa using hb
 rw[h4,xr]at hN;clear hb e4;apply zab;have e5:(bif (bif (ndK n==18) then !zdm (ndS n) else false) then true else (bif (!(ndK n==18)) then !eqb .str (ndS n) [] else false))= !zf3 n:=by
  unfold zf3;rw[str_ne];cases ndK n==18
  ·show (bif true then !decide (ndS n=[]) else false)= !decide (ndS n=[]);cases decide (ndS n=[])<;>rfl
  ·show (bif !zdm (ndS n) then true else (bif false then _ else false))= !zdm (ndS n);cases zdm (ndS n)<;>rfl
 refine zap (σ':=⟨[(1,⟨i64,i⟩),(2,⟨.optr nd,⟨0,nd,.here⟩⟩)],[(0,some (.box nd n))],1⟩) ⟨⟨rfl,rfl,trivial⟩,⟨rfl,trivial⟩,rfl,rfl⟩ ?_;refine za (za ?_);refine zaa hX zb9 rfl ?_ ?_
 ·cases (n.1==18)<;>cases zpI.out (n.2.2.2.2.2.2.2.1,())<;>cases (n.1 != 18)
  all_goals
   (repeat'(first|exact trivial|assumption|rfl|(intro h;exact absurd h zF)|(refine⟨?_,?_⟩)|(intro _)))
 refine zae rfl (fun hb=>?_) (fun hb=>?_)
 ·have hb:=e5.symm.trans hb;(repeat(first|apply zaf|apply zab|apply zai|apply zad|apply zac|refine zaa hX zb9 rfl trivial ?_|refine zaa hX zb9 rfl id ?_|refine zaa hX zb9 rfl ⟨id,id⟩ ?_));refine zl ⟨.inr rfl,zas rfl trivial rfl rfl ?_⟩;show false=zcj n i;rw[zr]at hb;rw[hN,hb,jg]
 have hb:=e5.symm.trans hb;have h5:zf3 n=true:=by simpa using hb
 rw[h5,xr]at hN;clear hb e5;apply zab;refine zap (σ':=⟨[(2,⟨.optr nd,⟨0,nd,.here⟩⟩)],[(0,some (.box nd n))],1⟩) ⟨⟨rfl,trivial⟩,⟨rfl,trivial⟩,rfl,rfl⟩ ?_;refine za (za ?_);refine zaa hX zb9 rfl ?_ ?_
 ·have z1:allP (zrN.pre (n,())):=⟨k1,k2⟩;cases zrN.out (n,())
  all_goals
   (repeat'(first|exact trivial|assumption|rfl|exact k1|exact k2|exact z1|(intro h;exact absurd h zF)|(refine⟨?_,?_⟩)|(intro _)))
 refine zl ⟨.inr rfl,zas rfl trivial rfl rfl ?_⟩;show (bif zaQ (ndI n) (zbH (ndK n)).2.2.1 then zbz n else false)=zcj n i;rw[hN,zcS]
def guT:Tbl:=(236,.int .u64)::gmT
theorem guT_ok:TOk Tryz.prog guT gmQ:=zrS (by kernel_rfl) (by kernel_rfl)
def guK:Kn:={ T:=guT,Q:=gmQ,U:=gmU,C:=[] }
theorem zkk:KnOk Tryz.prog gmH guK:=⟨guT_ok,zgu,CsOk.nil,zhv,RsOk.nil⟩
def cMag:Ctr:={ args:=[i64],pre:=fun x=>[0≤x.1],res:=.int .u64,own:=none,out:=fun x=>yP 64 x.1 }
theorem mag_ok:yk Tryz.prog gmH 223 cMag:=by
 refine zal (K:=guK) zkk Tryz.func223 rfl rfl Tryz.call223 rfl (by decide) (by intro h;cases h) ?_;rintro w0 X hX ⟨(n:Int),_⟩ hp;have hn:0≤n:=hp;change AWP _ _ _ _ _ ⟨[(0,⟨i64,n⟩)],[],0⟩ _;refine za (za ?_);refine zaa hX zkk rfl ?_ ?_
 ·trivial
 refine za (za ?_);refine zaa hX zkk rfl ?_ ?_
 ·trivial
 refine zae rfl (fun hb=>?_) (fun hb=>?_)
 ·have hb:decide (n < 0)=true:=hb;have hb:=of_decide_eq_true hb;omega
 apply zab;refine za (za ?_);refine zaa hX zkk rfl ?_ ?_
 ·trivial
 refine zl ⟨.inr rfl,zas rfl trivial rfl rfl ?_⟩;rfl
theorem bvI {a:Int} (h:0≤a):(⟨.int .u64,yP 64 a⟩:V)=⟨.int .u64,yb 64 a.toNat⟩:=by
 have:yP 64 a=yb 64 a.toNat:=by
  conv=>lhs;rw[<-xz h]
  exact BitVec.ofInt_natCast ..
 rw[this]
theorem bvN {y:Nat} (h:y≤1000000000000000):(yb 64 y).toNat=y:=by
 rw[BitVec.toNat_ofNat];exact xV (by omega)
theorem bvR {x y:Nat} (hx:x≤1000000000000000) (hy:y≤1000000000000000):(⟨.int .u64,yb 64 x % yb 64 y⟩:V)=⟨.int .u64,yb 64 (x % y)⟩:=by
 have hm:x % y≤x:=Nat.mod_le ..;have:yb 64 x % yb 64 y=yb 64 (x % y):=BitVec.eq_of_toNat_eq (by rw[BitVec.toNat_umod,bvN hx,bvN hy,bvN (by omega)]);rw[this]
def cGcd:Ctr:={ args:=[i64,i64],pre:=fun x=>[1≤x.1,x.1≤1000000000000000,1≤x.2.1,x.2.1≤1000000000000000],res:=i64,own:=none,out:=fun x=>((yS x.2.1.toNat x.1.toNat:Nat):Int) }
def kGcd:Kn:={ guK with C:=[(223,cMag)] }
theorem zep:KnOk Tryz.prog gmH kGcd:=zkk.with (.cons mag_ok .nil)
theorem gcd_ok:yk Tryz.prog gmH 190 cGcd:=by
 refine zal (K:=kGcd) zep Tryz.func190 rfl rfl Tryz.call190 rfl (by decide) (by intro h;cases h) ?_;rintro w0 X hX ⟨(a:Int),(b:Int),_⟩ hp;obtain⟨ha,ha',hb,hb'⟩:1≤a∧a≤1000000000000000∧1≤b∧b≤1000000000000000:=by
  simp only[cGcd,allP]at hp
  simpa using hp
 change AWP _ _ _ _ _ ⟨[(0,⟨i64,a⟩),(1,⟨i64,b⟩)],[],0⟩ _;apply zaf;refine za (za ?_);refine zaa hX zep rfl ?_ ?_
 ·trivial
 refine za (za ?_);refine zaa hX zep rfl ?_ ?_
 ·have h1:0≤a:=by omega
  have h2:0≤b:=by omega
  repeat'(first|exact trivial|exact h1|exact h2|(refine⟨?_,?_⟩)|(intro _))
 (repeat(first|apply zaf|apply zab|apply zac|apply zad));refine yi (ι:=Nat×Nat) (fun p=>⟨[(0,⟨i64,a⟩),(1,⟨i64,b⟩),(5,⟨.int .u64,yb 64 p.1⟩),(6,⟨.int .u64,yb 64 p.2⟩)],[],0⟩) (fun p=>p.1≤1000000000000000∧p.2≤1000000000000000∧yS p.2 p.1=yS b.toNat a.toNat) (fun p=>p.2) (a.toNat,b.toNat) ⟨by omega,by omega,rfl⟩ ⟨⟨rfl,rfl,bvI (by omega),bvI (by omega),trivial⟩,trivial,rfl,rfl⟩ ?_;rintro ⟨x,y⟩ ⟨hx,hy,hg⟩;have hx:x≤1000000000000000:=hx;have hy:y≤1000000000000000:=hy;have hg:yS y x=yS b.toNat a.toNat:=hg;refine za (za ?_);refine zaa hX zep rfl ?_ ?_
 ·trivial
 refine zae rfl (fun hb=>?_) (fun hb=>?_)
 ·have hc:((((yb 64 y).toNat:Nat):Int) != 0)=true:=hb;have hy1:y≠0:=fun e=>by subst e;exact absurd hc (by decide)
  have hy0:yb 64 y≠0:=fun e=>hy1 (by have:=congrArg BitVec.toNat e;rw[bvN hy]at this;exact this);(repeat(first|apply zaf|apply zab|apply zac|apply zad));refine AWP.ordF (σ':=⟨[(0,⟨i64,a⟩),(1,⟨i64,b⟩),(5,⟨.int .u64,yb 64 y⟩),(6,⟨.int .u64,yb 64 (x % y)⟩)],[],0⟩) dM 6 rfl (by kernel_rfl) ?_ ?_
  ·repeat'(first|exact AllN.nil|refine AllN.cons ⟨_,rfl,?_⟩ ?_|refine xp hX zep rfl trivial ?_|refine xp hX zep rfl (by repeat'(first|exact trivial|exact hy0|(refine⟨?_,?_⟩)|(intro _))) ?_|(refine OrdA.last ?_;exact⟨rfl,⟨rfl,rfl,rfl,bvR hx hy,trivial⟩,trivial,rfl,rfl⟩))
  exact⟨(y,x % y),⟨hy,Nat.le_trans (Nat.mod_le ..) hx,by rw[<-Nat.gcd_rec];exact hg⟩,uj _ (by omega),⟨rfl,rfl,rfl,rfl,trivial⟩,trivial,rfl,rfl⟩
 ·have hc:((((yb 64 y).toNat:Nat):Int) != 0)=false:=hb;rw[bvN hy]at hc;have hy0:y=0:=by
   have:=bne_eq_false_iff_eq.1 hc;omega
  subst hy0;rw[Nat.gcd_zero_left]at hg;apply zad;refine za (za ?_);refine zaa hX zep rfl ?_ ?_
  ·trivial
  refine zae rfl (fun hd=>?_) (fun hd=>?_)
  ·have hd:decide ((((yb 64 x).toNat:Nat):Int) > 9223372036854775807)=true:=hd;rw[bvN hx]at hd;have:=of_decide_eq_true hd;omega
  apply zab;refine za (za ?_);refine zaa hX zep rfl ?_ ?_
  ·show inR .i64 (((yb 64 x).toNat:Nat):Int);rw[bvN hx];exact zam (by omega) (by omega)
  refine zl ⟨.inr rfl,zas rfl trivial rfl rfl ?_⟩;show (((yb 64 x).toNat:Nat):Int)=((yS b.toNat a.toNat:Nat):Int);rw[bvN hx,hg]
theorem zle {x y:Nat} (hx:1≤x):x / yS y x * y=xR x y:=by
 have hg:yS y x ∣ x:=Nat.gcd_dvd_right y x;have hp:0 < yS y x:=ks _ (by omega);obtain⟨k,hk⟩:=hg;unfold xR;rw[kM x y];generalize yS y x=g at *;subst hk;rw[kE _ hp,Nat.mul_assoc,kE _ hp]
def cLcm:Ctr:={ args:=[i64,i64],pre:=fun x=>[1≤x.1,x.1≤1000,1≤x.2.1,x.2.1≤1000],res:=.tup i64 (.tup i64 .unit),own:=none,out:=fun x=>(((xR x.1.toNat x.2.1.toNat:Nat):Int),(0:Int),()) }
def kLcm:Kn:={ gmK with C:=[(190,cGcd)] }
theorem zf4:KnOk Tryz.prog gmH kLcm:=zaj.with (.cons gcd_ok .nil)
theorem lcm_ok:yk Tryz.prog gmH 158 cLcm:=by
 refine zal (K:=kLcm) zf4 Tryz.func158 rfl rfl Tryz.call158 rfl (by decide) (by intro h;cases h) ?_;rintro w0 X hX ⟨(a:Int),(b:Int),_⟩ hp;obtain⟨ha,ha',hb,hb'⟩:1≤a∧a≤1000∧1≤b∧b≤1000:=by
  simp only[cLcm,allP]at hp
  simpa using hp
 change AWP _ _ _ _ _ ⟨[(0,⟨i64,a⟩),(1,⟨i64,b⟩)],[],0⟩ _;refine za (za ?_);refine zaa hX zf4 rfl ?_ ?_
 ·trivial
 refine za (za ?_);refine zaa hX zf4 rfl ?_ ?_
 ·exact⟨id,id⟩
 have t1:(bif decide (a < 1) then true else decide (b < 1))=false:=by
  rw[decide_eq_false (by omega),decide_eq_false (by omega)];rfl
 refine zae rfl (fun hc=>?_) (fun _=>?_)
 ·have hc:(bif decide (a < 1) then true else decide (b < 1))=true:=hc;rw[t1]at hc;cases hc
 apply zab;have hg:0 < yS b.toNat a.toNat:=ks _ (by omega);have hq:a.tdiv ((yS b.toNat a.toNat:Nat):Int)=((a.toNat / yS b.toNat a.toNat:Nat):Int):=by
  conv=>lhs;rw[<-xz (by omega:0≤a)]
  exact vW ..
 have hqle:a.toNat / yS b.toNat a.toNat≤a.toNat:=Nat.div_le_self ..;have hq1000:a.toNat / yS b.toNat a.toNat≤1000:=by omega
 have q1:((yS b.toNat a.toNat:Nat):Int)≠0:=by omega
 have q2:inR .i64 (a.tdiv ((yS b.toNat a.toNat:Nat):Int)):=by rw[hq];generalize a.toNat / yS b.toNat a.toNat=z at hq1000;exact zam (by omega) (by omega)
 have big1:a≤1000000000000000:=by omega
 have big2:b≤1000000000000000:=by omega
 refine za (za ?_);refine zaa hX zf4 rfl ?_ ?_
 ·exact⟨ha,big1,hb,big2,q1,q2⟩
 refine zap (σ':=⟨[(0,⟨i64,a⟩),(1,⟨i64,b⟩),(6,⟨i64,((a.toNat / yS b.toNat a.toNat:Nat):Int)⟩)],[],0⟩) ⟨⟨rfl,rfl,vI64 hq,trivial⟩,trivial,rfl,rfl⟩ ?_;have hd:(1099511627776:Int).tdiv b=((1099511627776 / b.toNat:Nat):Int):=by
  conv=>lhs;rw[<-xz (by omega:0≤b)]
  exact vW ..
 have hd1:1099511627776 / 1000≤1099511627776 / b.toNat:=Nat.div_le_div_left (by omega) (by omega);have hd2:1099511627776 / b.toNat≤1099511627776:=Nat.div_le_self ..;have q3:b≠0:=by omega
 have q4:inR .i64 ((1099511627776:Int).tdiv b):=by rw[hd];exact zam (by omega) (by omega)
 refine za (za ?_);refine zaa hX zf4 rfl ?_ ?_
 ·exact⟨q3,q4⟩
 refine zae rfl (fun hc=>?_) (fun _=>?_)
 ·have hc:decide (((a.toNat / yS b.toNat a.toNat:Nat):Int) > (1099511627776:Int).tdiv b)=true:=hc;have hc:=of_decide_eq_true hc;rw[hd]at hc;omega
 apply zab;have hm:((a.toNat / yS b.toNat a.toNat:Nat):Int) * b=((xR a.toNat b.toNat:Nat):Int):=by
  rw[<-zle (x:=a.toNat) (y:=b.toNat) (by omega),Int.natCast_mul,xz (by omega:0≤b)]
 have hml:xR a.toNat b.toNat≤1000000:=by
  rw[<-zle (x:=a.toNat) (y:=b.toNat) (by omega)];exact Nat.mul_le_mul (by omega:_≤1000) (by omega:b.toNat≤1000)
 have q5:inR .i64 (((a.toNat / yS b.toNat a.toNat:Nat):Int) * b):=by rw[hm];exact zam (by omega) (by omega)
 refine za (za ?_);refine zaa hX zf4 rfl ?_ ?_
 ·exact q5
 refine zl ⟨.inr rfl,za1 (by decide) rfl rfl trivial ?_⟩;show (((a.toNat / yS b.toNat a.toNat:Nat):Int) * b,(0:Int),())=(((xR a.toNat b.toNat:Nat):Int),(0:Int),());rw[hm]
abbrev Lr:=Int×Int×Bool×Unit
def zk7 (r:Lr):Bool:=decide (r.1 < 1)||decide (r.1 > 400)||decide (r.2.1 < 0)||decide (r.2.1≥r.1)
def perS (y:Nat):List Lr->Int×Bool
 | []=>((y:Int),true)
 |r::l=>if zk7 r=true then (0,false) else if 400 < xR y r.1.toNat then (0,false) else perS (xR y r.1.toNat) l
def cPer:Ctr:={ args:=[.slice lru],pre:=fun _=>[],res:=.tup i64 (.tup .bool .unit),own:=none,out:=fun x=>((perS 1 x.1).1,(perS 1 x.1).2,()) }
def kPer:Kn:={ gmK with C:=[(158,cLcm)] }
theorem zbL:KnOk Tryz.prog gmH kPer:=zaj.with (.cons lcm_ok .nil)
def zLr:Lr:=(0,0,false,())
theorem zoy:yk Tryz.prog gmH 125 cPer:=by
 refine zal (K:=kPer) zbL Tryz.func125 rfl rfl Tryz.call125 rfl (by decide) (by intro h;cases h) ?_;rintro w0 X hX ⟨(l:List Lr),_⟩ hp;change AWP _ _ _ _ _ ⟨[(0,⟨.slice lru,l⟩)],[],0⟩ _;refine ju 0 rfl fun hl=>?_;unfold maxLen at hl;refine za (za ?_);refine zaa hX zbL rfl ?_ ?_
 ·trivial
 refine za (za ?_);refine zaa hX zbL rfl ?_ ?_
 ·trivial
 refine za (za ?_);refine zaa hX zbL rfl ?_ ?_
 ·trivial
 (repeat(first|apply zaf|apply zab|apply zac|apply zad));refine yi (ι:=Nat×Nat) (fun p=>⟨[(0,⟨.slice lru,l⟩),(4,⟨i64,(p.2:Int)⟩),(9,⟨.slice lru,l⟩),(10,⟨i64,((l.length:Nat):Int)⟩),(11,⟨i64,(p.1:Int)⟩)],[],0⟩) (fun p=>p.1≤l.length∧(1≤p.2∧p.2≤400)∧perS 1 l=perS p.2 (l.drop p.1)) (fun p=>l.length - p.1) (0,1) ⟨zn _,⟨by decide,by decide⟩,rfl⟩ ⟨⟨rfl,rfl,rfl,rfl,rfl,trivial⟩,trivial,rfl,rfl⟩ ?_;rintro ⟨k,y⟩ ⟨hk,hy,hr⟩;have hk:k≤l.length:=hk;have hy:1≤y∧y≤400:=hy;have hr:perS 1 l=perS y (l.drop k):=hr;refine za (za ?_);refine zaa hX zbL rfl ?_ ?_
 ·trivial
 apply zaf;refine zae rfl (fun hb=>?_) (fun hb=>?_)
 ·have hb:decide ((k:Int) < (l.length:Nat))=true:=hb;have hb:=of_decide_eq_true hb;have hlt:k < l.length:=by omega
  have n0:(0:Int)≤(k:Int):=by omega
  have hgd:l.getD (k:Int).toNat zLr=l[k]:=za4 hlt;rw[yG hlt,perS, <-hgd]at hr;refine za (za ?_);refine zaa hX zbL rfl ?_ ?_
  ·exact⟨n0,hb⟩
  generalize hG:l.getD (k:Int).toNat zLr=G at hr;obtain⟨(ev:Int),(rs:Int),(ye:Bool),⟨⟩⟩:=G;refine zap (σ':=⟨[(0,⟨.slice lru,l⟩),(4,⟨i64,(y:Int)⟩),(9,⟨.slice lru,l⟩),(10,⟨i64,((l.length:Nat):Int)⟩),(11,⟨i64,(k:Int)⟩),(6,⟨.optr lru,⟨0,lru,.here⟩⟩)],[(0,some (.box lru (ev,rs,ye,())))],1⟩) ⟨⟨rfl,rfl,rfl,rfl,rfl,rfl,trivial⟩,⟨zfO hG,trivial⟩,rfl,rfl⟩ ?_;refine za (za ?_);refine zaa hX zbL rfl ?_ ?_
  ·repeat'(first|exact trivial|assumption|(refine⟨?_,?_⟩)|(intro _)|exact zb rfl|exact zd _|(simp_all [allP];done))
  have hbe:zk7 (ev,rs,ye,())=(bif (bif (bif decide (ev < 1) then true else decide (ev > 400)) then true else decide (rs < 0)) then true else decide (rs≥ev)):=by
   unfold zk7;rw[b_or,b_or,b_or]
  refine zae rfl (fun hc=>?_) (fun hc=>?_)
  ·have hc:=hbe.trans hc;(repeat(first|apply zaf|apply zab|apply zai|apply zad|apply zac|refine zaa hX zbL rfl trivial ?_|refine zaa hX zbL rfl id ?_|refine zaa hX zbL rfl ⟨id,id⟩ ?_));refine zl ⟨.inr rfl,za1 (by decide) rfl rfl trivial ?_⟩;show ((0:Int),false,())=((perS 1 l).1,(perS 1 l).2,());rw[hr,if_pos hc]
  have hc:=hbe.trans hc;have hn:=hc;unfold zk7 at hn;simp only[xD,decide_eq_false_iff_not]at hn;obtain⟨⟨⟨n1,n2⟩,n3⟩,n4⟩:=hn;have n1:¬ ev < 1:=n1;have n2:¬ ev > 400:=n2;apply zab;have l1:(1:Int)≤(y:Int):=by omega
  have l2:(y:Int)≤1000:=by omega
  have l3:1≤ev:=by omega
  have l4:ev≤1000:=by omega
  refine za (za ?_);refine zaa hX zbL rfl ?_ ?_
  ·exact⟨l1,l2,l3,l4⟩
  refine zap (σ':=⟨[(0,⟨.slice lru,l⟩),(4,⟨i64,(y:Int)⟩),(9,⟨.slice lru,l⟩),(10,⟨i64,((l.length:Nat):Int)⟩),(11,⟨i64,(k:Int)⟩),(7,⟨i64,((xR y ev.toNat:Nat):Int)⟩),(8,⟨i64,0⟩)],[],1⟩) ⟨⟨rfl,rfl,rfl,rfl,rfl,rfl,rfl,trivial⟩,trivial,rfl,rfl⟩ ?_;refine za (za ?_);refine zaa hX zbL rfl ?_ ?_
  ·repeat'(first|exact trivial|assumption|(refine⟨?_,?_⟩)|(intro _)|exact zb rfl|exact zd _|(simp_all [allP];done))
  refine zae rfl (fun hd=>?_) (fun hd=>?_)
  ·have hd:decide (((xR y ev.toNat:Nat):Int) > 400)=true:=hd;have hd:=of_decide_eq_true hd;(repeat(first|apply zaf|apply zab|apply zai|apply zad|apply zac|refine zaa hX zbL rfl trivial ?_|refine zaa hX zbL rfl id ?_|refine zaa hX zbL rfl ⟨id,id⟩ ?_));refine zl ⟨.inr rfl,za1 (by decide) rfl rfl trivial ?_⟩;show ((0:Int),false,())=((perS 1 l).1,(perS 1 l).2,());rw[hr,if_neg (by rw[hc];decide),if_pos (by show 400 < xR y ev.toNat;omega)]
  ·have hd:decide (((xR y ev.toNat:Nat):Int) > 400)=false:=hd;have hd:=of_decide_eq_false hd;have hlp:0 < xR y ev.toNat:=Nat.lcm_pos (by omega) (by omega);apply zab;refine za (za ?_);refine zaa hX zbL rfl ?_ ?_
   ·trivial
   refine za (za ?_);refine zaa hX zbL rfl ?_ ?_
   ·exact zaF (by omega)
   refine⟨(k+1,xR y ev.toNat),⟨hlt,⟨hlp,by show xR y ev.toNat≤400;omega⟩,?_⟩,by show l.length - (k+1) < l.length - k;omega,⟨rfl,rfl,rfl,rfl,zbY _,trivial⟩,trivial,rfl,rfl⟩;rw[hr,if_neg (by rw[hc];decide),if_neg (by show ¬ 400 < xR y ev.toNat;omega)]
 ·have hb:decide ((k:Int) < (l.length:Nat))=false:=hb;have hb:=of_decide_eq_false hb;have:k=l.length:=by omega
  subst this;rw[jf,perS]at hr;(repeat(first|apply zaf|apply zab|apply zai|apply zad|apply zac|refine zaa hX zbL rfl trivial ?_|refine zaa hX zbL rfl id ?_|refine zaa hX zbL rfl ⟨id,id⟩ ?_));refine zl ⟨.inr rfl,za1 (by decide) rfl rfl trivial ?_⟩;show ((y:Int),true,())=((perS 1 l).1,(perS 1 l).2,());rw[hr]
theorem zk5 (c:UInt8):isLt c=((decide (97≤(c.toNat:Int))&&decide ((c.toNat:Int)≤122))||(decide (65≤(c.toNat:Int))&&decide ((c.toNat:Int)≤90))):=by
 have h:∀ n:Fin 256,(isLt (yf n.val)==((decide (97≤((yf n.val).toNat:Int))&&decide (((yf n.val).toNat:Int)≤122))||(decide (65≤((yf n.val).toNat:Int))&&decide (((yf n.val).toNat:Int)≤90))))=true:=by decide+kernel
 have:=h ⟨c.toNat,c.toNat_lt⟩;rw[kh]at this;exact beq_iff_eq.1 this
theorem znA (s:ByteArray) (pos:Nat) (h:pos < s.size):1≤(kY s pos).2:=by
 by_cases ha:(s[pos]'h).toNat < 128
 ·rw[decode_ascii s pos h ha];exact zk _
 ·exact (decode_high s pos h (by omega)).2
def LtR (c:Int):Prop:=(97≤c∧c≤122)∨(65≤c∧c≤90)
def DgR (c:Int):Prop:=(48≤c∧c≤57)∨c=45
theorem zoI {l:List UInt8} {pos c wd:Nat} (hp:pos < l.length) (hdec:(l[pos].toNat < 128∧(c,wd)=(l[pos].toNat,1))∨(128≤l[pos].toNat∧128≤c)) (hhd:0 < pos->l.head?.all isLt=true) (hall:(l.take pos).all isPt=true)
  (h:LtR c∨(pos≠0∧DgR c)):wd=1∧l.head?.all isLt=true∧(l.take (pos+1)).all isPt=true:=by
 unfold LtR DgR at h;rcases hdec with ⟨h1,e⟩|⟨h1,e⟩
 ·have e1:c=l[pos].toNat:=congrArg (fun x=>x.1) e;have e2:wd=1:=congrArg (fun x=>x.2) e;have hpt:isPt l[pos]=true:=by
   unfold isPt;rw[zk5];rcases h with h|⟨_,h|h⟩
   ·have:((decide (97≤(l[pos].toNat:Int))&&decide ((l[pos].toNat:Int)≤122))||(decide (65≤(l[pos].toNat:Int))&&decide ((l[pos].toNat:Int)≤90)))=true:=by
     simp only[zY,zf,decide_eq_true_iff];omega
    rw[this];rfl
   ·have:isDg l[pos]=true:=by
     unfold isDg;rw[zf,decide_eq_true_iff,decide_eq_true_iff,xh,xh];exact⟨by show 48≤_;omega,by show _≤57;omega⟩
    rw[this,yJ];rfl
   ·have:l[pos]=45:=UInt8.toNat_inj.1 (by show _=45;omega);rw[this];rfl
  refine⟨e2,?_,?_⟩
  ·by_cases h0:pos=0
   ·subst h0;have hl:isLt l[0]=true:=by
     rw[zk5];simp only[zY,zf,decide_eq_true_iff];omega
    cases l with
    |nil=>rfl
    |cons a q=>exact hl
   ·exact hhd (by omega)
  ·rw[zH hp,List.all_append,hall,List.all_cons,hpt];rfl
 ·omega
theorem zqQ {l:List UInt8} {pos c wd:Nat} (hp:pos < l.length) (hdec:(l[pos].toNat < 128∧(c,wd)=(l[pos].toNat,1))∨(128≤l[pos].toNat∧128≤c)) (h:¬ (LtR c∨(pos≠0∧DgR c))):zdm l=false:=by
 unfold LtR DgR at h;have hlt:isLt l[pos]=false:=by
  rw[zk5];simp only[xD,qM,decide_eq_false_iff_not];rcases hdec with ⟨h1,e⟩|⟨h1,e⟩
  ·have e1:c=l[pos].toNat:=congrArg (fun x=>x.1) e;omega
  ·omega
 unfold zdm;by_cases h0:pos=0
 ·subst h0;cases l with
  |nil=>exact absurd hp (yN _)
  |cons a q=>
   have hlt:isLt a=false:=hlt;show (_&&_&&(isLt a&&_))=false;rw[hlt,jg,xv]
 ·have hpt:isPt l[pos]=false:=by
   unfold isPt;have hd:isDg l[pos]=false:=by
    unfold isDg;rw[qM,decide_eq_false_iff_not,decide_eq_false_iff_not,xh,xh];show ¬ 48≤_∨¬ _≤57;rcases hdec with ⟨h1,e⟩|⟨h1,e⟩
    ·have e1:c=l[pos].toNat:=congrArg (fun x=>x.1) e;omega
    ·omega
   have h45:(l[pos]==45)=false:=by
    rw[beq_eq_false_iff_ne];intro e2;have e3:l[pos].toNat=45:=by rw[e2];rfl
    rcases hdec with ⟨h1,e⟩|⟨h1,e⟩
    ·have e1:c=l[pos].toNat:=congrArg (fun x=>x.1) e;omega
    ·omega
   rw[hlt,hd,h45];rfl
  have:l.all isPt=false:=by
   rw[List.all_eq_false];exact⟨l[pos],yZ hp,by rw[hpt];decide⟩
  rw[this,xv,xv]
set_option maxHeartbeats 2000000 in
theorem zk2 (l:List UInt8) (w:World):Calls Tryz.prog 120 #[.string ⟨l.toArray⟩] w fun e w'=>e= .returned (.bool (zdm l))∧∃ pos,w'=w.iter ⟨l.toArray⟩ pos:=by
 go_enter Tryz.func120,Tryz.ntmps120
 go_wp2
 go_loopw [] (fun w'=>∃ (pos:Nat),w'=w.iter ⟨l.toArray⟩ pos∧pos≤l.length∧(0 < pos->l.head?.all isLt=true)∧(l.take pos).all isPt=true) (fun w'=>l.length - w'.iterPos w.heap.size)
 case atStart=>exact⟨0,rfl,zn _,fun h=>absurd h (by decide),rfl⟩
 case round=>
  obtain⟨pos,rfl,hpos,hhd,hall⟩:=hrel;have hsz:(⟨l.toArray⟩:ByteArray).size=l.length:=by simp[ByteArray.size]
  by_cases hp:pos < (⟨l.toArray⟩:ByteArray).size
  ·have hnx:∀ ty,(Instr.next (.pointer (some ⟨w.heap.size,0,none⟩)) true ty).run Tryz.prog (w.iter ⟨l.toArray⟩ pos)=_:=fun ty=>run_next_any w _ pos ty hp;have hwd:=znA _ pos hp;have hlo:l[pos]'(by omega)=(⟨l.toArray⟩:ByteArray)[pos]'hp:=rfl;have hdec:((l[pos]'(by omega)).toNat < 128∧kY ⟨l.toArray⟩ pos=((l[pos]'(by omega)).toNat,1))∨(128≤(l[pos]'(by omega)).toNat∧128≤(kY ⟨l.toArray⟩ pos).1):=by
    by_cases ha:(l[pos]'(by omega)).toNat < 128
    ·exact .inl ⟨ha,decode_ascii _ pos hp ha⟩
    ·exact .inr ⟨by omega,(decode_high _ pos hp (by rw[<-hlo];omega)).1⟩
   generalize kY ⟨l.toArray⟩ pos=dc at hnx hwd hdec;obtain⟨c,wd⟩:=dc;simp only[]at hnx hwd hdec;generalize hci:((c:Nat):Int)=ci at hnx;have hlen:pos < l.length:=by omega
   have hgood:=zoI hlen hdec hhd hall;have hbad:=zqQ hlen hdec;rw[hci]at hgood hbad;by_cases hcase:LtR ci∨(pos≠0∧DgR ci)
   ·obtain⟨e1,e2,e3⟩:=hgood hcase;clear hgood hbad hdec hlo;unfold LtR DgR at hcase
    go_wp2
    all_goals (first
     |(exfalso
       clear hnx;simp only[zr,xe,decide_eq_false_iff_not,decide_eq_true_eq,beq_iff_eq,beq_eq_false_iff_ne]at *;omega)
     |(go_roundw
       case rel=>exact⟨pos+1,by simp[*],by omega,fun _=>e2,e3⟩
       case measure=>(simp[*];omega)))
   ·have hnf:=hbad hcase;clear hgood hbad hdec hlo;unfold LtR DgR at hcase
    go_wp2
    all_goals (first
     |(exfalso
       clear hnx;simp only[zr,xe,decide_eq_false_iff_not,decide_eq_true_eq,beq_iff_eq,beq_eq_false_iff_ne]at *;omega)
     |(go_ret
       refine⟨?_,_,rfl⟩
       first|rfl|(rw[hnf];rfl)|(simp[*];done)))
  ·have hnx:∀ ty,(Instr.next (.pointer (some ⟨w.heap.size,0,none⟩)) true ty).run Tryz.prog (w.iter ⟨l.toArray⟩ pos)=_:=fun ty=>run_next_end w _ pos ty hp;have hend:zdm l=(decide (l≠ [])&&decide (l.length≤32)):=by
    have hpl:pos=l.length:=by omega
    subst hpl;rw[xx]at hall;have hh:l.head?.all isLt=true:=by
     cases l with
     |nil=>rfl
     |cons a q=>exact hhd (Nat.zero_lt_succ _)
    unfold zdm;rw[hh,hall];simp
   go_wp2
   all_goals (
    rename_i hne
    go_ret
    refine⟨?_,pos,by simp[hne]⟩;rw[hend]
    first
    |(simp[hne];done)
    |(cases l with
      |nil=>exact absurd rfl hne
      |cons a q=>(simp;try omega)))
def cName:Ctr:={ args:=[.str],pre:=fun _=>[],res:=.bool,own:=none,out:=fun x=>zdm x.1 }
theorem zoJ:yk Tryz.prog gmH 120 cName:=by
 refine⟨Tryz.call120,fun w O xs vs hO hr hp hG=>?_⟩;obtain⟨(l:List UInt8),_⟩:=xs;obtain⟨v1,r1,rfl,e1,rfl⟩:=hr;have e1: [v1]=[Value.string ⟨l.toArray⟩]∧l.length≤maxLen:=e1;obtain⟨e1,_⟩:=e1;cases e1;refine (zk2 l w).mono ?_;rintro e w' ⟨rfl,pos,rfl⟩;exact⟨_,rfl,za2 w _,fun β=>rfl⟩
theorem zhK {u:List Int} {B:Int} (h:∀ k:Nat,0≤u.getD k 0∧u.getD k 0≤B) (j:Int):∀ k:Nat,0≤(bump u j).getD k 0∧(bump u j).getD k 0≤B+1:=fun k=>by
 unfold bump;rw[zx,uH];have h1:=h k;have h2:=h j.toNat;rw[zx]at h1;split
 ·split
  ·show 0≤u.getD j.toNat 0+1∧u.getD j.toNat 0+1≤B+1;omega
  ·show (0:Int)≤0∧(0:Int)≤B+1;omega
 ·omega
theorem znB {u:List Int} {n:Nd} {B:Int} (h:∀ k:Nat,0≤u.getD k 0∧u.getD k 0≤B) (k:Nat):0≤(zci u n).getD k 0∧(zci u n).getD k 0≤B+2:=by
 unfold zci;cases decide (1 < opsN n) with
 |true=>
  have:=zhK (zhK h (ndL n)) (ndR n) k;rw[cond_true];omega
 |false=>
  cases decide (0 < opsN n) with
  |true=>
   have:=zhK h (ndL n) k;rw[cond_false,cond_true];omega
  |false=>
   have:=h k;rw[cond_false,cond_false];omega
theorem ziL (r:List Nd):∀ (i:Nat),i≤r.length->∀ k:Nat,0≤(zba r i).getD k 0∧(zba r i).getD k 0≤2 * (i:Int)
 |0,_,k=>by rw[zkL];omega
 |i+1,hi,k=>by
  rw[zcG (by omega)];have:=znB (n:=zao r i) (ziL r i (by omega)) k;omega
def zcU (u:List Int) (n:Nd):Nat->List Int
 |0=>u
 |1=>if 0 < opsN n then bump u (ndL n) else u
 |_=>zci u n
def opdJ (n:Nd) (i:Int):Nat->Bool
 |0=>true
 |1=>(bif decide (0 < opsN n) then inB (ndL n) 0 (i - 1) else (ndL n==0)||(ndK n==7))
 |_=>zec n i
theorem znC {u:List Int} {n:Nd} {B:Int} (h:∀ k:Nat,0≤u.getD k 0∧u.getD k 0≤B) (k:Nat):0≤(zcU u n 1).getD k 0∧(zcU u n 1).getD k 0≤B+1:=by
 show 0≤(if 0 < opsN n then bump u (ndL n) else u).getD k 0∧(if 0 < opsN n then bump u (ndL n) else u).getD k 0≤B+1;by_cases e:0 < opsN n
 ·rw[if_pos e];exact zhK h _ k
 ·rw[if_neg e];have:=h k;omega
theorem zmH (u:List Int) (n:Nd):(zcU u n 1).length=u.length:=by
 show (if 0 < opsN n then bump u (ndL n) else u).length=u.length;by_cases e:0 < opsN n
 ·rw[if_pos e];exact zdE _ _
 ·rw[if_neg e]
def cWf:Ctr:={ args:=[.slice nd],pre:=fun _=>[],res:=.bool,own:=none,out:=fun x=>wfS x.1 }
def kWf:Kn:={ gmK with C:=[(119,zbp),(74,zlx),(120,cName),(121,zpQ),(122,zrM),(123,cAnyU)] }
theorem zaL:KnOk Tryz.prog gmH kWf:=zaj.with (.cons zjw <| .cons zjI <| .cons zoJ <| .cons zoS <| .cons zsQ <| .cons zt1 .nil)
theorem ziJ {r:List Nd} {i:Nat} (hi:i < r.length) (h:zcj (zao r i) (i:Int)=false):wfS r=false:=by
 have:zcl r r.length=false:=by
  rw[qa];intro e;have:=zd3.1 e i hi;rw[<-zdN,h]at this;cases this
 unfold wfS;rw[this,xv,jg]
theorem zjy {r:List Nd} {i:Nat} (hi:i < r.length) (h:zbA (zao r i)=false):wfS r=false:=ziJ hi (by unfold zcj;rw[h];rfl)
theorem zjx {r:List Nd} {i:Nat} (hi:i < r.length) (h:zec (zao r i) (i:Int)=false):wfS r=false:=ziJ hi (by unfold zcj;rw[h,xv])
theorem znY {k:Int} (h:1≤k∧k≤18):(zbH k).1=0∨(zbH k).1=1∨(zbH k).1=2:=by
 rcases (show k=1∨k=2∨k=3∨k=4∨k=5∨k=6∨k=7∨k=8∨k=9∨k=10∨k=11∨k=12∨k=13∨k=14∨k=15∨k=16∨k=17∨k=18 by omega) with rfl|rfl|rfl|rfl|rfl|rfl|rfl|rfl|rfl|rfl|rfl|rfl|rfl|rfl|rfl|rfl|rfl|rfl<;>decide
theorem zlG {u:List Int} {n:Nd} (h:opsN n=0∨opsN n=1∨opsN n=2):(if 1 < opsN n then bump (zcU u n 1) (ndR n) else zcU u n 1)=zcU u n 2:=by
 show _=zci u n;unfold zci zcU;rcases h with h|h|h<;>rw[h]<;>rfl
theorem bufI {te:TypeId} {x y:List Int} (h:x=y):some (OObj.buf te i64 x)=some (OObj.buf te i64 y):=by rw[h]
set_option maxHeartbeats 1000000 in
theorem wf_ok:yk Tryz.prog gmH 72 cWf:=by
 refine zal (K:=kWf) zaL Tryz.func72 rfl rfl Tryz.call72 rfl (by decide) (by intro h;cases h) ?_;rintro w0 X hX ⟨(r:List Nd),_⟩ hp;change AWP _ _ _ _ _ ⟨[(0,⟨.slice nd,r⟩)],[],0⟩ _;refine ju 0 rfl fun hl=>?_;unfold maxLen at hl;refine za (za ?_);refine zaa hX zaL rfl ?_ ?_
 ·trivial
 refine za (za ?_);refine zaa hX zaL rfl ?_ ?_
 ·repeat'(first|exact trivial|assumption|(refine⟨?_,?_⟩)|(intro _)|exact zb rfl|exact zd _|(simp_all [allP];done))
 refine zae rfl (fun hb=>?_) (fun hb=>?_)
 ·have hb:(bif decide (((r.length:Nat):Int) < 1) then true else decide (((r.length:Nat):Int) > 64))=true:=hb;rw[b_or,zY,decide_eq_true_iff,decide_eq_true_iff]at hb;(repeat(first|apply zaf|apply zab|apply zai|apply zad|apply zac|refine zaa hX zaL rfl trivial ?_|refine zaa hX zaL rfl id ?_|refine zaa hX zaL rfl ⟨id,id⟩ ?_));refine zl ⟨.inr rfl,zas rfl trivial rfl rfl ?_⟩;show false=wfS r;unfold wfS;rcases hb with hb|hb
  ·rw[decide_eq_false (by omega:¬ 1≤r.length)];rfl
  ·rw[decide_eq_false (by omega:¬ r.length≤64),xv,jg,jg]
 have hb:(bif decide (((r.length:Nat):Int) < 1) then true else decide (((r.length:Nat):Int) > 64))=false:=hb;rw[b_or,xD,decide_eq_false_iff_not,decide_eq_false_iff_not]at hb;obtain⟨hb1,hb2⟩:=hb;apply zab;refine za (za ?_);refine zaa hX zaL rfl ?_ ?_
 ·trivial
 have m0:(0:Int)≤((r.length:Nat):Int):=by omega
 have m1:((r.length:Nat):Int)≤1000000000:=by omega
 refine za (za ?_);refine zaa hX zaL rfl ?_ ?_
 ·exact⟨m0,xL _,m1⟩
 refine za (za ?_);refine zaa hX zaL rfl ?_ ?_
 ·trivial
 (repeat(first|apply zaf|apply zab|apply zac|apply zad));refine yi (ι:=Nat) (fun i=>⟨[(0,⟨.slice nd,r⟩),(3,⟨.optr (.arr 19 shp),⟨0,.arr 19 shp,.here⟩⟩),(4,⟨.obuf i64,(1:Nat)⟩),(24,⟨.slice nd,r⟩),(25,⟨i64,((r.length:Nat):Int)⟩),(26,⟨i64,(i:Int)⟩)],[(0,some (.box (.arr 19 shp) zcW)),(1,some (.buf 3 i64 (zba r i)))],2⟩) (fun i=>i≤r.length∧zcl r i=true) (fun i=>r.length - i) 0 ⟨zn _,rfl⟩ ⟨⟨rfl,rfl,rfl,rfl,rfl,rfl,trivial⟩,⟨rfl,bufI (by show zJ (((r.length:Nat):Int)).toNat (0:Int)=_;rw[zz];rfl),trivial⟩,rfl,rfl⟩ ?_;rintro i ⟨hi,hn⟩;refine za (za ?_);refine zaa hX zaL rfl ?_ ?_
 ·trivial
 apply zaf;refine zae rfl (fun hb=>?_) (fun hb=>?_)
 ·have hb:decide ((i:Int) < (r.length:Nat))=true:=hb;have hb:=of_decide_eq_true hb;have hlt:i < r.length:=by omega
  have n0:(0:Int)≤(i:Int):=by omega
  have hbd:=ziL r i hi;have hul:=zcp r i;have hus:=zcG hlt;have hno:zcl r (i+1)=(zcl r i&&zcj (zao r i) (i:Int)):=rfl;have hff:=zjy hlt;have hfo:=zjx hlt;rw[hn,xr]at hno;refine za (za ?_);refine zaa hX zaL rfl ?_ ?_
  ·exact⟨n0,hb⟩
  refine zap (σ':=⟨[(0,⟨.slice nd,r⟩),(3,⟨.optr (.arr 19 shp),⟨0,.arr 19 shp,.here⟩⟩),(4,⟨.obuf i64,(1:Nat)⟩),(24,⟨.slice nd,r⟩),(25,⟨i64,((r.length:Nat):Int)⟩),(26,⟨i64,(i:Int)⟩),(5,⟨i64,(i:Int)⟩),(6,⟨.optr nd,⟨2,nd,.here⟩⟩)],[(0,some (.box (.arr 19 shp) zcW)),(1,some (.buf 3 i64 (zba r i))),(2,some (.box nd (zao r i)))],3⟩) ⟨⟨rfl,rfl,rfl,rfl,rfl,rfl,rfl,rfl,trivial⟩,⟨rfl,rfl,rfl,trivial⟩,rfl,rfl⟩ ?_;generalize hnd:zao r i=n at *;generalize zba r i=u at *;refine za (za ?_);refine zaa hX zaL rfl ?_ ?_
  ·repeat'(first|exact trivial|assumption|(refine⟨?_,?_⟩)|(intro _)|exact zb rfl|exact zd _|(simp_all [allP];done))
  have hk18:(bif !inB (ndK n) 1 18 then true else decide (((ndI n).length:Int) > 64))= !(inB (ndK n) 1 18&&decide ((ndI n).length≤64)):=by
   have:decide (((ndI n).length:Int) > 64)= !decide ((ndI n).length≤64):=by
    rw[<-decide_not,decide_eq_decide];omega
   rw[this];cases inB (ndK n) 1 18<;>cases decide ((ndI n).length≤64)<;>rfl
  refine zae rfl (fun hc=>?_) (fun hc=>?_)
  ·have hc:=hk18.symm.trans hc;rw[zr]at hc;(repeat(first|apply zaf|apply zab|apply zai|apply zad|apply zac|refine zaa hX zaL rfl trivial ?_|refine zaa hX zaL rfl id ?_|refine zaa hX zaL rfl ⟨id,id⟩ ?_));refine zl ⟨.inr rfl,zas rfl trivial rfl rfl ?_⟩;show false=wfS r;rw[hff (by unfold zbA;rw[hc];rfl)]
  have hc:=hk18.symm.trans hc;rw[xe,zf,zaM,decide_eq_true_iff]at hc;obtain⟨⟨k1,k2⟩,hl64⟩:=hc;apply zab;have t0:(0:Int)≤ndK n:=by omega
  have t1:ndK n < ((19:Nat):Int):=by omega
  have t2:(ndK n).toNat < 19:=by omega
  refine za (za ?_);refine zaa hX zaL rfl ?_ ?_
  ·exact⟨t0,t1,t2⟩
  refine zap (σ':=⟨[(0,⟨.slice nd,r⟩),(3,⟨.optr (.arr 19 shp),⟨0,.arr 19 shp,.here⟩⟩),(4,⟨.obuf i64,(1:Nat)⟩),(24,⟨.slice nd,r⟩),(25,⟨i64,((r.length:Nat):Int)⟩),(26,⟨i64,(i:Int)⟩),(5,⟨i64,(i:Int)⟩),(6,⟨.optr nd,⟨2,nd,.here⟩⟩),(7,⟨.optr shp,⟨3,shp,.here⟩⟩)],[(0,some (.box (.arr 19 shp) zcW)),(1,some (.buf 3 i64 (u))),(2,some (.box nd n)),(3,some (.box shp (zbH (ndK n))))],4⟩) ⟨⟨rfl,rfl,rfl,rfl,rfl,rfl,rfl,rfl,rfl,trivial⟩,⟨rfl,rfl,rfl,rfl,trivial⟩,rfl,rfl⟩ ?_;have hops:=znY ⟨k1,k2⟩;refine za (za ?_);refine zaa hX zaL rfl ?_ ?_
  ·trivial
  (repeat(first|apply zaf|apply zab|apply zac|apply zad));refine qx hX 49 ?_;refine yi (ι:=Nat) (fun j=>⟨[(0,⟨.slice nd,r⟩),(3,⟨.optr (.arr 19 shp),⟨0,.arr 19 shp,.here⟩⟩),(4,⟨.obuf i64,(1:Nat)⟩),(24,⟨.slice nd,r⟩),(25,⟨i64,((r.length:Nat):Int)⟩),(26,⟨i64,(i:Int)⟩),(5,⟨i64,(i:Int)⟩),(6,⟨.optr nd,⟨2,nd,.here⟩⟩),(7,⟨.optr shp,⟨3,shp,.here⟩⟩),(49,⟨.slice i64,[ndL n,ndR n]⟩),(50,⟨i64,(2:Int)⟩),(51,⟨i64,(j:Int)⟩)],[(0,some (.box (.arr 19 shp) zcW)),(1,some (.buf 3 i64 (zcU u n j))),(2,some (.box nd n)),(3,some (.box shp (zbH (ndK n))))],4⟩) (fun j=>j≤2∧opdJ n i j=true) (fun j=>2 - j) 0 ⟨by decide,rfl⟩ ⟨⟨rfl,rfl,rfl,rfl,rfl,rfl,rfl,rfl,rfl,rfl,rfl,rfl,trivial⟩,⟨rfl,rfl,rfl,rfl,trivial⟩,rfl,rfl⟩ ?_
  ·rintro j ⟨hj,hjo⟩;refine za (za ?_);refine zaa hX zaL rfl ?_ ?_
   ·trivial
   apply zaf;refine zae rfl (fun hb=>?_) (fun hb=>?_)
   ·have hb:decide ((j:Int) < 2)=true:=hb;have hb:=of_decide_eq_true hb;rcases (show j=0∨j=1 by omega) with rfl|rfl
    ·have u0:(0:Int)≤((0:Nat):Int):=by omega
     have u1:((0:Nat):Int) < (([ndL n,ndR n].length:Nat):Int):=by show ((0:Nat):Int) < ((2:Nat):Int);omega
     refine za (za ?_);refine zaa hX zaL rfl ?_ ?_
     ·exact⟨u0,u1⟩
     apply zac;refine za (za ?_);refine zaa hX zaL rfl ?_ ?_
     ·trivial
     refine zae rfl (fun hd=>?_) (fun hd=>?_)
     ·have hd:decide (((0:Nat):Int) < opsN n)=true:=hd;have hd:=of_decide_eq_true hd;have i1:inR .i64 ((i:Int) - 1):=zam (by omega) (by omega);refine za (za ?_);refine zaa hX zaL rfl ?_ ?_
      ·exact i1
      refine zae rfl (fun he=>?_) (fun he=>?_)
      ·have he:(!inB (ndL n) 0 ((i:Int) - 1))=true:=he;rw[zr]at he;(repeat(first|apply zaf|apply zab|apply zai|apply zad|apply zac|refine zaa hX zaL rfl trivial ?_|refine zaa hX zaL rfl id ?_|refine zaa hX zaL rfl ⟨id,id⟩ ?_));refine zl ⟨.inr rfl,zas rfl trivial rfl rfl ?_⟩;show false=wfS r;rw[hfo (by unfold zec;rw[decide_eq_true (show 0 < opsN n from hd),cond_true,he];rfl)]
      have he:(!inB (ndL n) 0 ((i:Int) - 1))=false:=he;rw[xe,zaM]at he;obtain⟨p0,p1⟩:=he;have hbj:∀ k:Nat,0≤(zcU u n 0).getD k 0∧(zcU u n 0).getD k 0≤200:=fun k=>by
       have:=hbd k;show 0≤u.getD k 0∧u.getD k 0≤200;omega
      have hlj:(zcU u n 0).length=r.length:=by exact hul
      have hb3:=hbj (ndL n).toNat;have p2:ndL n < (((zcU u n 0).length:Nat):Int):=by rw[hlj];omega
      have p4:(ndL n).toNat < (zcU u n 0).length:=by rw[hlj];omega
      have p3:inR .i64 ((zcU u n 0).getD (ndL n).toNat 0+1):=zam (by omega) (by omega);apply zab;refine za (za ?_);refine zaa hX zaL rfl ?_ ?_
      ·repeat'(first|exact trivial|exact p0|exact p2|exact p3|exact p4|(refine⟨?_,?_⟩))
      refine za (za ?_);refine zaa hX zaL rfl ?_ ?_
      ·exact zaF (by omega)
      refine⟨1,⟨by omega,?_⟩,by decide,⟨rfl,rfl,rfl,rfl,rfl,rfl,rfl,rfl,rfl,rfl,rfl,rfl,trivial⟩,⟨rfl,bufI ?_,rfl,rfl,trivial⟩,rfl,rfl⟩
      ·show (bif decide (0 < opsN n) then inB (ndL n) 0 ((i:Int) - 1) else _)=true;rw[decide_eq_true (show 0 < opsN n from hd),cond_true,zaM];exact⟨p0,p1⟩
      ·show bump (zcU u n 0) (ndL n)=zcU u n 1;show _=if 0 < opsN n then bump u (ndL n) else u
       rw[if_pos (show 0 < opsN n from hd)];rfl
     ·have hd:decide (((0:Nat):Int) < opsN n)=false:=hd;have hd:=of_decide_eq_false hd;refine za (za ?_);refine zaa hX zaL rfl ?_ ?_
      ·repeat'(first|exact trivial|assumption|(refine⟨?_,?_⟩)|(intro _)|exact zb rfl|exact zd _|(simp_all [allP];done))
      refine zae rfl (fun he=>?_) (fun he=>?_)
      ·have he:(bif (ndL n != 0) then !(bif (((0:Nat):Int)==0) then (ndK n==7) else false) else false)=true:=he;(repeat(first|apply zaf|apply zab|apply zai|apply zad|apply zac|refine zaa hX zaL rfl trivial ?_|refine zaa hX zaL rfl id ?_|refine zaa hX zaL rfl ⟨id,id⟩ ?_));refine zl ⟨.inr rfl,zas rfl trivial rfl rfl ?_⟩;show false=wfS r;refine (hfo ?_).symm;unfold zec;rw[decide_eq_false (show ¬ 0 < opsN n from hd),cond_false];revert he;unfold bne;cases (ndL n==0)<;>cases (ndK n==7)<;>intro he<;>first|rfl|cases he
      have he:(bif (ndL n != 0) then !(bif (((0:Nat):Int)==0) then (ndK n==7) else false) else false)=false:=he;apply zab;refine za (za ?_);refine zaa hX zaL rfl ?_ ?_
      ·exact zaF (by omega)
      refine⟨1,⟨by omega,?_⟩,by decide,⟨rfl,rfl,rfl,rfl,rfl,rfl,rfl,rfl,rfl,rfl,rfl,rfl,trivial⟩,⟨rfl,bufI ?_,rfl,rfl,trivial⟩,rfl,rfl⟩
      ·show (bif decide (0 < opsN n) then _ else (ndL n==0)||(ndK n==7))=true;rw[decide_eq_false (show ¬ 0 < opsN n from hd),cond_false];revert he;unfold bne;cases (ndL n==0)<;>cases (ndK n==7)<;>intro he<;>first|rfl|cases he
      ·show zcU u n 0=zcU u n 1;show u=if 0 < opsN n then bump u (ndL n) else u
       rw[if_neg (show ¬ 0 < opsN n from hd)]
    ·have u0:(0:Int)≤((1:Nat):Int):=by omega
     have u1:((1:Nat):Int) < (([ndL n,ndR n].length:Nat):Int):=by show ((1:Nat):Int) < ((2:Nat):Int);omega
     refine za (za ?_);refine zaa hX zaL rfl ?_ ?_
     ·exact⟨u0,u1⟩
     apply zac;refine za (za ?_);refine zaa hX zaL rfl ?_ ?_
     ·trivial
     refine zae rfl (fun hd=>?_) (fun hd=>?_)
     ·have hd:decide (((1:Nat):Int) < opsN n)=true:=hd;have hd:=of_decide_eq_true hd;have i1:inR .i64 ((i:Int) - 1):=zam (by omega) (by omega);refine za (za ?_);refine zaa hX zaL rfl ?_ ?_
      ·exact i1
      refine zae rfl (fun he=>?_) (fun he=>?_)
      ·have he:(!inB (ndR n) 0 ((i:Int) - 1))=true:=he;rw[zr]at he;(repeat(first|apply zaf|apply zab|apply zai|apply zad|apply zac|refine zaa hX zaL rfl trivial ?_|refine zaa hX zaL rfl id ?_|refine zaa hX zaL rfl ⟨id,id⟩ ?_));refine zl ⟨.inr rfl,zas rfl trivial rfl rfl ?_⟩;show false=wfS r;rw[hfo (by unfold zec;rw[decide_eq_true (show 1 < opsN n from hd),cond_true,he];rw[xv])]
      have he:(!inB (ndR n) 0 ((i:Int) - 1))=false:=he;rw[xe,zaM]at he;obtain⟨p0,p1⟩:=he;have hbj:∀ k:Nat,0≤(zcU u n 1).getD k 0∧(zcU u n 1).getD k 0≤200:=fun k=>by
       have:=znC (n:=n) hbd k;omega
      have hlj:(zcU u n 1).length=r.length:=by rw[<-hul];exact zmH u n
      have hb3:=hbj (ndR n).toNat;have p2:ndR n < (((zcU u n 1).length:Nat):Int):=by rw[hlj];omega
      have p4:(ndR n).toNat < (zcU u n 1).length:=by rw[hlj];omega
      have p3:inR .i64 ((zcU u n 1).getD (ndR n).toNat 0+1):=zam (by omega) (by omega);apply zab;refine za (za ?_);refine zaa hX zaL rfl ?_ ?_
      ·repeat'(first|exact trivial|exact p0|exact p2|exact p3|exact p4|(refine⟨?_,?_⟩))
      refine za (za ?_);refine zaa hX zaL rfl ?_ ?_
      ·exact zaF (by omega)
      refine⟨2,⟨by omega,?_⟩,by decide,⟨rfl,rfl,rfl,rfl,rfl,rfl,rfl,rfl,rfl,rfl,rfl,rfl,trivial⟩,⟨rfl,bufI ?_,rfl,rfl,trivial⟩,rfl,rfl⟩
      ·show (_&&(bif decide (1 < opsN n) then inB (ndR n) 0 ((i:Int) - 1) else _))=true;rw[decide_eq_true (show 1 < opsN n from hd),cond_true,zaM.2 ⟨p0,p1⟩,ud];exact hjo
      ·show bump (zcU u n 1) (ndR n)=zcU u n 2;rw[<-zlG hops,if_pos (show 1 < opsN n from hd)]
     ·have hd:decide (((1:Nat):Int) < opsN n)=false:=hd;have hd:=of_decide_eq_false hd;refine za (za ?_);refine zaa hX zaL rfl ?_ ?_
      ·repeat'(first|exact trivial|assumption|(refine⟨?_,?_⟩)|(intro _)|exact zb rfl|exact zd _|(simp_all [allP];done))
      refine zae rfl (fun he=>?_) (fun he=>?_)
      ·have he:(bif (ndR n != 0) then !(bif (((1:Nat):Int)==0) then (ndK n==7) else false) else false)=true:=he;(repeat(first|apply zaf|apply zab|apply zai|apply zad|apply zac|refine zaa hX zaL rfl trivial ?_|refine zaa hX zaL rfl id ?_|refine zaa hX zaL rfl ⟨id,id⟩ ?_));refine zl ⟨.inr rfl,zas rfl trivial rfl rfl ?_⟩;show false=wfS r;refine (hfo ?_).symm;unfold zec;rw[decide_eq_false (show ¬ 1 < opsN n from hd),cond_false];revert he;unfold bne;cases (ndR n==0)<;>intro he<;>first|(rw[xv])|cases he
      have he:(bif (ndR n != 0) then !(bif (((1:Nat):Int)==0) then (ndK n==7) else false) else false)=false:=he;apply zab;refine za (za ?_);refine zaa hX zaL rfl ?_ ?_
      ·exact zaF (by omega)
      refine⟨2,⟨by omega,?_⟩,by decide,⟨rfl,rfl,rfl,rfl,rfl,rfl,rfl,rfl,rfl,rfl,rfl,rfl,trivial⟩,⟨rfl,bufI ?_,rfl,rfl,trivial⟩,rfl,rfl⟩
      ·show (_&&(bif decide (1 < opsN n) then _ else ndR n==0))=true;rw[decide_eq_false (show ¬ 1 < opsN n from hd),cond_false];have h2:(ndR n==0)=true:=by revert he;unfold bne;cases (ndR n==0)<;>intro he<;>first|rfl|cases he
       rw[h2,ud];exact hjo
      ·show zcU u n 1=zcU u n 2;rw[<-zlG hops,if_neg (show ¬ 1 < opsN n from hd)]
   ·have hb:decide ((j:Int) < 2)=false:=hb;have hb:=of_decide_eq_false hb;obtain rfl:j=2:=by omega
    have hopd:zec n (i:Int)=true:=hjo;apply zad;refine zap (σ':=⟨[(0,⟨.slice nd,r⟩),(3,⟨.optr (.arr 19 shp),⟨0,.arr 19 shp,.here⟩⟩),(4,⟨.obuf i64,(1:Nat)⟩),(24,⟨.slice nd,r⟩),(25,⟨i64,((r.length:Nat):Int)⟩),(26,⟨i64,(i:Int)⟩),(5,⟨i64,(i:Int)⟩),(6,⟨.optr nd,⟨2,nd,.here⟩⟩),(7,⟨.optr shp,⟨3,shp,.here⟩⟩)],[(0,some (.box (.arr 19 shp) zcW)),(1,some (.buf 3 i64 (zci u n))),(2,some (.box nd n)),(3,some (.box shp (zbH (ndK n))))],4⟩) ⟨⟨rfl,rfl,rfl,rfl,rfl,rfl,rfl,rfl,rfl,trivial⟩,⟨rfl,rfl,rfl,rfl,trivial⟩,rfl,rfl⟩ ?_;clear hbd hul;have hub:u.length=u.length:=rfl;generalize zci u n=u' at hus;(repeat(first|apply zaf|apply zab|apply zac|apply zad));refine AWP.ordF (σ':=⟨[(0,⟨.slice nd,r⟩),(3,⟨.optr (.arr 19 shp),⟨0,.arr 19 shp,.here⟩⟩),(4,⟨.obuf i64,(1:Nat)⟩),(24,⟨.slice nd,r⟩),(25,⟨i64,((r.length:Nat):Int)⟩),(26,⟨i64,(i:Int)⟩),(5,⟨i64,(i:Int)⟩),(6,⟨.optr nd,⟨2,nd,.here⟩⟩),(7,⟨.optr shp,⟨3,shp,.here⟩⟩),(10,⟨.bool,ndC n==0⟩),(11,⟨.bool,decide (ndS n=[])⟩)],[(0,some (.box (.arr 19 shp) zcW)),(1,some (.buf 3 i64 (u'))),(2,some (.box nd n)),(3,some (.box shp (zbH (ndK n))))],4⟩) dM 8 rfl (by kernel_rfl) ?_ ?_
    ·repeat'(first|exact AllN.nil|refine AllN.cons ⟨_,rfl,?_⟩ ?_|refine xp hX zaL rfl trivial ?_|(refine OrdA.last ?_;exact⟨rfl,⟨rfl,rfl,rfl,rfl,rfl,rfl,rfl,rfl,rfl,rfl,zco zdi,trivial⟩,⟨rfl,rfl,rfl,rfl,trivial⟩,rfl,rfl⟩))
    refine za (za ?_);refine zaa hX zaL rfl ?_ ?_
    ·trivial
    refine je (σ':=⟨[(0,⟨.slice nd,r⟩),(3,⟨.optr (.arr 19 shp),⟨0,.arr 19 shp,.here⟩⟩),(4,⟨.obuf i64,(1:Nat)⟩),(24,⟨.slice nd,r⟩),(25,⟨i64,((r.length:Nat):Int)⟩),(26,⟨i64,(i:Int)⟩),(5,⟨i64,(i:Int)⟩),(6,⟨.optr nd,⟨2,nd,.here⟩⟩),(7,⟨.optr shp,⟨3,shp,.here⟩⟩),(10,⟨.bool,zdv n⟩),(11,⟨.bool,decide (ndS n=[])⟩)],[(0,some (.box (.arr 19 shp) zcW)),(1,some (.buf 3 i64 (u'))),(2,some (.box nd n)),(3,some (.box shp (zbH (ndK n))))],4⟩) ?_ ?_
    ·refine zae rfl (fun hd=>?_) (fun hd=>?_)
     ·have hd:(zbH (ndK n)).2.1=true:=hd;refine za (za ?_);refine zaa hX zaL rfl ?_ ?_
      ·trivial
      refine⟨⟨rfl,rfl,rfl,rfl,rfl,rfl,rfl,rfl,rfl,zco ?_,rfl,trivial⟩,⟨rfl,rfl,rfl,rfl,trivial⟩,rfl,rfl⟩;unfold zdv;rw[hd];rfl
     ·have hd:(zbH (ndK n)).2.1=false:=hd;apply zab;refine⟨⟨rfl,rfl,rfl,rfl,rfl,rfl,rfl,rfl,rfl,zco ?_,rfl,trivial⟩,⟨rfl,rfl,rfl,rfl,trivial⟩,rfl,rfl⟩;unfold zdv;rw[hd];rfl
    refine za (za ?_);refine zaa hX zaL rfl ?_ ?_
    ·trivial
    refine je (σ':=⟨[(0,⟨.slice nd,r⟩),(3,⟨.optr (.arr 19 shp),⟨0,.arr 19 shp,.here⟩⟩),(4,⟨.obuf i64,(1:Nat)⟩),(24,⟨.slice nd,r⟩),(25,⟨i64,((r.length:Nat):Int)⟩),(26,⟨i64,(i:Int)⟩),(5,⟨i64,(i:Int)⟩),(6,⟨.optr nd,⟨2,nd,.here⟩⟩),(7,⟨.optr shp,⟨3,shp,.here⟩⟩),(10,⟨.bool,zdv n⟩),(11,⟨.bool,zf3 n⟩)],[(0,some (.box (.arr 19 shp) zcW)),(1,some (.buf 3 i64 (u'))),(2,some (.box nd n)),(3,some (.box shp (zbH (ndK n))))],4⟩) ?_ ?_
    ·refine zae rfl (fun hd=>?_) (fun hd=>?_)
     ·have hd:(ndK n==18)=true:=hd;refine za (za ?_);refine zaa hX zaL rfl ?_ ?_
      ·trivial
      refine⟨⟨rfl,rfl,rfl,rfl,rfl,rfl,rfl,rfl,rfl,rfl,zco ?_,trivial⟩,⟨rfl,rfl,rfl,rfl,trivial⟩,rfl,rfl⟩;unfold zf3;rw[hd];rfl
     ·have hd:(ndK n==18)=false:=hd;apply zab;refine⟨⟨rfl,rfl,rfl,rfl,rfl,rfl,rfl,rfl,rfl,rfl,zco ?_,trivial⟩,⟨rfl,rfl,rfl,rfl,trivial⟩,rfl,rfl⟩;unfold zf3;rw[hd];rfl
    have hfd:zbA n=(zdv n&&(zf3 n&&(zaQ (ndI n) (zbH (ndK n)).2.2.1&&zbz n))):=by
     unfold zbA;rw[zaM.2 ⟨k1,k2⟩,decide_eq_true hl64];rfl
    refine za (za ?_);refine zaa hX zaL rfl ?_ ?_
    ·repeat'(first|exact trivial|assumption|(refine⟨?_,?_⟩)|(intro _)|exact zb rfl|exact zd _|(simp_all [allP];done))
    have ht:(bif (bif (bif !zdv n then true else !zf3 n) then true else !zaQ (ndI n) (zbH (ndK n)).2.2.1) then true else !zbz n)= !zbA n:=by
     rw[hfd];cases zdv n<;>cases zf3 n<;>cases zaQ (ndI n) (zbH (ndK n)).2.2.1<;>cases zbz n<;>rfl
    refine zae rfl (fun hd=>?_) (fun hd=>?_)
    ·have hd:=ht.symm.trans hd;rw[zr]at hd;(repeat(first|apply zaf|apply zab|apply zai|apply zad|apply zac|refine zaa hX zaL rfl trivial ?_|refine zaa hX zaL rfl id ?_|refine zaa hX zaL rfl ⟨id,id⟩ ?_));refine zl ⟨.inr rfl,zas rfl trivial rfl rfl ?_⟩;show false=wfS r;rw[hff hd]
    ·have hd:=ht.symm.trans hd;rw[xe]at hd;apply zab;refine za (za ?_);refine zaa hX zaL rfl ?_ ?_
     ·exact zaF (by omega)
     refine⟨i+1,⟨hlt,?_⟩,by omega,⟨rfl,rfl,rfl,rfl,rfl,zbY _,trivial⟩,⟨rfl,bufI hus.symm,trivial⟩,rfl,rfl⟩;rw[hno];unfold zcj;rw[hd,hopd];rfl
 ·have hb:decide ((i:Int) < (r.length:Nat))=false:=hb;have hb:=of_decide_eq_false hb;obtain rfl:i=r.length:=by omega
  have hul:=zcp r r.length;apply zad;refine qx hX 4 ?_;have i1:inR .i64 (((r.length:Nat):Int) - 1):=zam (by omega) (by omega);have i2:(0:Int)≤((r.length:Nat):Int) - 1:=by omega
  have i3:((r.length:Nat):Int) - 1≤(((zba r r.length).length:Nat):Int):=by omega
  refine za (za ?_);refine zaa hX zaL rfl ?_ ?_
  ·first|exact⟨i1,i2,i3,rfl⟩|(repeat'(first|exact trivial|exact i1|exact i2|exact i3|rfl|(refine⟨?_,?_⟩)))
  refine zl ⟨.inr rfl,zas rfl trivial rfl rfl ?_⟩;show (!((zba r r.length).take (((r.length:Nat):Int) - 1).toNat).any not1)=wfS r;unfold wfS;rw[decide_eq_true (by omega),decide_eq_true (by omega),hn,show (((r.length:Nat):Int) - 1).toNat=r.length - 1 by omega];rfl
def zse:Ctr:={ args:=[.slice nd],pre:=fun x=>[zg x.1≤64],res:=.bool,own:=none,out:=fun x=>wfS x.1 }
def k6f:Kn:={ gmK with C:=[(152,zr9),(153,zpT fun k=>(zbH k).1)] }
theorem zbc:KnOk Tryz.prog gmH k6f:=zaj.with (.cons zqO <| .cons zlV .nil)
set_option maxHeartbeats 1000000 in
theorem zrn:yk Tryz.prog gmH 104 zse:=by
 refine zal (K:=k6f) zbc Tryz.func104 rfl rfl Tryz.call104 rfl (by decide) (by intro h;cases h) ?_;rintro w0 X hX ⟨(r:List Nd),_⟩ hp;have hl:r.length≤64:=hp;change AWP _ _ _ _ _ ⟨[(0,⟨.slice nd,r⟩)],[],0⟩ _;refine za (za ?_);refine zaa hX zbc rfl ?_ ?_
 ·trivial
 refine za (za ?_);refine zaa hX zbc rfl ?_ ?_
 ·repeat'(first|exact trivial|assumption|(refine⟨?_,?_⟩)|(intro _)|exact zb rfl|exact zd _|(simp_all [allP];done))
 refine zae rfl (fun hb=>?_) (fun hb=>?_)
 ·have hb:(bif decide (((r.length:Nat):Int) < 1) then true else decide (((r.length:Nat):Int) > 64))=true:=hb;rw[b_or,zY,decide_eq_true_iff,decide_eq_true_iff]at hb;(repeat(first|apply zaf|apply zab|apply zai|apply zad|apply zac|refine zaa hX zbc rfl trivial ?_|refine zaa hX zbc rfl id ?_|refine zaa hX zbc rfl ⟨id,id⟩ ?_));refine zl ⟨.inr rfl,zas rfl trivial rfl rfl ?_⟩;show false=wfS r;unfold wfS;rw[decide_eq_false (by omega:¬ 1≤r.length)];rfl
 have hb:(bif decide (((r.length:Nat):Int) < 1) then true else decide (((r.length:Nat):Int) > 64))=false:=hb;rw[b_or,xD,decide_eq_false_iff_not,decide_eq_false_iff_not]at hb;obtain⟨hb1,hb2⟩:=hb;apply zab;have m0:(0:Int)≤((r.length:Nat):Int):=by omega
 have m1:((r.length:Nat):Int)≤1000000000:=by omega
 refine za (za ?_);refine zaa hX zbc rfl ?_ ?_
 ·exact⟨m0,xL _,m1⟩
 refine za (za ?_);refine zaa hX zbc rfl ?_ ?_
 ·trivial
 apply zac;refine yi (ι:=Nat) (fun i=>⟨[(0,⟨.slice nd,r⟩),(3,⟨.obuf i64,(0:Nat)⟩),(4,⟨i64,(i:Int)⟩)],[(0,some (.buf 3 i64 (zba r i)))],1⟩) (fun i=>i≤r.length∧zcl r i=true) (fun i=>r.length - i) 0 ⟨zn _,rfl⟩ ⟨⟨rfl,rfl,rfl,trivial⟩,⟨bufI ?_,trivial⟩,rfl,rfl⟩ ?_
 ·show zJ (((r.length:Nat):Int)).toNat 0=zJ r.length 0;rw[zz]
 rintro i ⟨hi,hn⟩;refine za (za ?_);refine zaa hX zbc rfl ?_ ?_
 ·trivial
 refine zae rfl (fun hb=>?_) (fun hb=>?_)
 ·have hb:decide ((i:Int) < (r.length:Nat))=true:=hb;have hb:=of_decide_eq_true hb;have hlt:i < r.length:=by omega
  have n0:(0:Int)≤(i:Int):=by omega
  have n2:((i:Int)).toNat < r.length:=by omega
  have n3:(i:Int)≤1000000:=by omega
  have hbd:=ziL r i hi;have hul:=zcp r i;have hus:=zcG hlt;have hno:zcl r (i+1)=(zcl r i&&zcj (zao r i) (i:Int)):=rfl;have hff:=ziJ hlt;rw[hn,xr]at hno;refine za (za ?_);refine zaa hX zbc rfl ?_ ?_
  ·repeat'(first|exact trivial|assumption|exact n0|exact hb|exact n2|exact n3|(refine⟨?_,?_⟩)|(intro _)|exact zb rfl|exact zd _|(simp_all [allP];done))
  refine zae rfl (fun hc=>?_) (fun hc=>?_)
  ·have hc:(!zcj (zao r i) (i:Int))=true:=hc;(repeat(first|apply zaf|apply zab|apply zai|apply zad|apply zac|refine zaa hX zbc rfl trivial ?_|refine zaa hX zbc rfl id ?_|refine zaa hX zbc rfl ⟨id,id⟩ ?_));refine zl ⟨.inr rfl,zas rfl trivial rfl rfl ?_⟩;show false=wfS r;rw[hff (by simpa using hc)]
  have hc:(!zcj (zao r i) (i:Int))=false:=hc;have hc:zcj (zao r i) (i:Int)=true:=by simpa using hc
  rw[hc]at hno;obtain⟨hf,ho⟩:=(zf _ _).mp hc;obtain⟨⟨k1,k2⟩,_⟩:=zaI hf;apply zab;have k1':1≤(r.getD ((i:Int)).toNat (zaA nd)).1:=k1;have k2':(r.getD ((i:Int)).toNat (zaA nd)).1≤18:=k2;refine za (za ?_);refine zaa hX zbc rfl ?_ ?_
  ·repeat'(first|exact trivial|assumption|exact n0|exact hb|exact n2|exact k1'|exact k2'|(refine⟨?_,?_⟩)|(intro _)|exact zb rfl|exact zd _|(simp_all [allP];done))
  have hops:=znY ⟨k1,k2⟩;have hop:opsN (zao r i)=(zbH (ndK (zao r i))).1:=rfl;rw[<-hop]at hops;have hup:zba r (i+1)=zci (zba r i) (zao r i):=hus;refine zap (σ':=⟨[(0,⟨.slice nd,r⟩),(3,⟨.obuf i64,(0:Nat)⟩),(4,⟨i64,(i:Int)⟩),(5,⟨i64,opsN (zao r i)⟩)],[(0,some (.buf 3 i64 (zba r i)))],1⟩) ⟨⟨rfl,rfl,rfl,rfl,trivial⟩,⟨rfl,trivial⟩,rfl,rfl⟩ ?_;have fin:inR .i64 ((i:Int)+1):=zaF (by omega);have fin2:zcl r (i+1)=true:=hno;unfold zec at ho;rcases hops with e|e|e
  ·rw[e];refine za (za ?_);refine zaa hX zbc rfl ?_ ?_
   ·trivial
   refine zae rfl (fun hx=>absurd (show decide ((0:Int)≥1)=true from hx) (by decide)) (fun _=>?_);apply zab;refine za (za ?_);refine zaa hX zbc rfl ?_ ?_
   ·trivial
   refine zae rfl (fun hx=>absurd (show ((0:Int)==2)=true from hx) (by decide)) (fun _=>?_);apply zab;refine za (za ?_);refine zaa hX zbc rfl ?_ ?_
   ·exact fin
   refine⟨i+1,⟨hlt,fin2⟩,by omega,⟨rfl,rfl,zbY _,trivial⟩,⟨bufI ?_,trivial⟩,rfl,rfl⟩;rw[hup];unfold zci;rw[e];rfl
  ·rw[e]at ho ⊢;obtain⟨p1,p2⟩:=zaM.1 ((zf _ _).mp ho).1;have hb3:=hbd (ndL (zao r i)).toNat;have z1:0≤(r.getD ((i:Int)).toNat (zaA nd)).2.2.1:=p1;have z2:(r.getD ((i:Int)).toNat (zaA nd)).2.2.1 < (((zba r i).length:Nat):Int):=by rw[hul];show ndL (zao r i) < _;omega
   have z3:((r.getD ((i:Int)).toNat (zaA nd)).2.2.1).toNat < (zba r i).length:=by rw[hul];show (ndL (zao r i)).toNat < _;omega
   have z4:inR .i64 ((zba r i).getD ((r.getD ((i:Int)).toNat (zaA nd)).2.2.1).toNat 0+1):=by show inR .i64 ((zba r i).getD (ndL (zao r i)).toNat 0+1);exact zam (by omega) (by omega)
   refine za (za ?_);refine zaa hX zbc rfl ?_ ?_
   ·trivial
   refine zae rfl (fun _=>?_) (fun hx=>absurd (show decide ((1:Int)≥1)=false from hx) (by decide));refine za (za ?_);refine zaa hX zbc rfl ?_ ?_
   ·repeat'(first|exact trivial|assumption|exact n0|exact hb|exact n2|exact z1|exact z2|exact z3|exact z4|(refine⟨?_,?_⟩)|(intro _)|exact zb rfl|exact zd _|(simp_all [allP];done))
   refine za (za ?_);refine zaa hX zbc rfl ?_ ?_
   ·trivial
   refine zae rfl (fun hx=>absurd (show ((1:Int)==2)=true from hx) (by decide)) (fun _=>?_);apply zab;refine za (za ?_);refine zaa hX zbc rfl ?_ ?_
   ·exact fin
   refine⟨i+1,⟨hlt,fin2⟩,by omega,⟨rfl,rfl,zbY _,trivial⟩,⟨bufI ?_,trivial⟩,rfl,rfl⟩;rw[hup];unfold zci;rw[e];rfl
  ·rw[e]at ho ⊢;obtain⟨p1,p2⟩:=zaM.1 ((zf _ _).mp ho).1;obtain⟨p3,p4⟩:=zaM.1 ((zf _ _).mp ho).2;have hb3:=hbd (ndL (zao r i)).toNat;have z1:0≤(r.getD ((i:Int)).toNat (zaA nd)).2.2.1:=p1;have z2:(r.getD ((i:Int)).toNat (zaA nd)).2.2.1 < (((zba r i).length:Nat):Int):=by rw[hul];show ndL (zao r i) < _;omega
   have z3:((r.getD ((i:Int)).toNat (zaA nd)).2.2.1).toNat < (zba r i).length:=by rw[hul];show (ndL (zao r i)).toNat < _;omega
   have z4:inR .i64 ((zba r i).getD ((r.getD ((i:Int)).toNat (zaA nd)).2.2.1).toNat 0+1):=by show inR .i64 ((zba r i).getD (ndL (zao r i)).toNat 0+1);exact zam (by omega) (by omega)
   refine za (za ?_);refine zaa hX zbc rfl ?_ ?_
   ·trivial
   refine zae rfl (fun _=>?_) (fun hx=>absurd (show decide ((2:Int)≥1)=false from hx) (by decide));refine za (za ?_);refine zaa hX zbc rfl ?_ ?_
   ·repeat'(first|exact trivial|assumption|exact n0|exact hb|exact n2|exact z1|exact z2|exact z3|exact z4|(refine⟨?_,?_⟩)|(intro _)|exact zb rfl|exact zd _|(simp_all [allP];done))
   refine za (za ?_);refine zaa hX zbc rfl ?_ ?_
   ·trivial
   refine zae rfl (fun _=>?_) (fun hx=>absurd (show ((2:Int)==2)=false from hx) (by decide));have hb5:=zhK hbd (ndL (zao r i)) (ndR (zao r i)).toNat;have hbl:=zdE (zba r i) (ndL (zao r i));refine zap (σ':=⟨[(0,⟨.slice nd,r⟩),(3,⟨.obuf i64,(0:Nat)⟩),(4,⟨i64,(i:Int)⟩)],[(0,some (.buf 3 i64 (bump (zba r i) (ndL (zao r i)))))],1⟩) ⟨⟨rfl,rfl,rfl,trivial⟩,⟨rfl,trivial⟩,rfl,rfl⟩ ?_;rw[hul]at hbl;have y1:0≤(r.getD ((i:Int)).toNat (zaA nd)).2.2.2.1:=p3;have y2:(r.getD ((i:Int)).toNat (zaA nd)).2.2.2.1 < (((bump (zba r i) (ndL (zao r i))).length:Nat):Int):=by rw[hbl];show ndR (zao r i) < _;omega
   have y3:((r.getD ((i:Int)).toNat (zaA nd)).2.2.2.1).toNat < (bump (zba r i) (ndL (zao r i))).length:=by rw[hbl];show (ndR (zao r i)).toNat < _;omega
   have y4:inR .i64 ((bump (zba r i) (ndL (zao r i))).getD ((r.getD ((i:Int)).toNat (zaA nd)).2.2.2.1).toNat 0+1):=by show inR .i64 ((bump (zba r i) (ndL (zao r i))).getD (ndR (zao r i)).toNat 0+1);exact zam (by omega) (by omega)
   refine za (za ?_);refine zaa hX zbc rfl ?_ ?_
   ·repeat'(first|exact trivial|assumption|exact n0|exact hb|exact n2|exact y1|exact y2|exact y3|exact y4|(refine⟨?_,?_⟩)|(intro _)|exact zb rfl|exact zd _|(simp_all [allP];done))
   refine za (za ?_);refine zaa hX zbc rfl ?_ ?_
   ·exact fin
   refine⟨i+1,⟨hlt,fin2⟩,by omega,⟨rfl,rfl,zbY _,trivial⟩,⟨bufI ?_,trivial⟩,rfl,rfl⟩;rw[hup];unfold zci;rw[e];rfl
 ·have hb:decide ((i:Int) < (r.length:Nat))=false:=hb;have hb:=of_decide_eq_false hb;obtain rfl:i=r.length:=by omega
  have hul:=zcp r r.length;have hW:wfS r= !((zba r r.length).take (r.length - 1)).any not1:=by
   unfold wfS;rw[decide_eq_true (show 1≤r.length by omega),decide_eq_true hl,hn];rfl
  apply zad;refine za (za ?_);refine zaa hX zbc rfl ?_ ?_
  ·trivial
  apply zac;generalize zba r r.length=u at *;refine yi (ι:=Nat) (fun i=>⟨[(0,⟨.slice nd,r⟩),(3,⟨.obuf i64,(0:Nat)⟩),(6,⟨i64,(i:Int)⟩)],[(0,some (.buf 3 i64 u))],1⟩) (fun i=>i≤r.length - 1∧∀ j,j < i->not1 (u.getD j 0)=false) (fun i=>r.length - i) 0 ⟨zn _,fun j hj=>absurd hj (yN _)⟩ ⟨⟨rfl,rfl,rfl,trivial⟩,⟨rfl,trivial⟩,rfl,rfl⟩ ?_;rintro i ⟨hi,hn⟩;have fin:inR .i64 ((i:Int)+1):=zaF (by omega);refine za (za ?_);refine zaa hX zbc rfl ?_ ?_
  ·exact fin
  refine zae rfl (fun hb=>?_) (fun hb=>?_)
  ·have hb:decide ((i:Int)+1 < ((r.length:Nat):Int))=true:=hb;have hb:=of_decide_eq_true hb;have n0:(0:Int)≤(i:Int):=by omega
   have n1:(i:Int) < ((u.length:Nat):Int):=by rw[hul];omega
   have n2:((i:Int)).toNat < u.length:=by rw[hul];omega
   refine za (za ?_);refine zaa hX zbc rfl ?_ ?_
   ·repeat'(first|exact trivial|assumption|exact n0|exact n1|exact n2|(refine⟨?_,?_⟩)|(intro _)|exact zb rfl|exact zd _|(simp_all [allP];done))
   have hq:(!(u.getD ((i:Int)).toNat 0==1))=not1 (u.getD i 0):=by rw[zz];rfl
   refine zae rfl (fun hc=>?_) (fun hc=>?_)
   ·have hc:=hq.symm.trans hc;(repeat(first|apply zaf|apply zab|apply zai|apply zad|apply zac|refine zaa hX zbc rfl trivial ?_|refine zaa hX zbc rfl id ?_|refine zaa hX zbc rfl ⟨id,id⟩ ?_));refine zl ⟨.inr rfl,zas rfl trivial rfl rfl ?_⟩;show false=wfS r;rw[hW];have:(u.take (r.length - 1)).any not1=true:=by
     rw[vp];refine⟨u.getD i 0,?_,hc⟩;rw[zx,zA (by omega)];exact qb.2 ⟨i,by omega,rfl⟩
    rw[this];rfl
   ·have hc:=hq.symm.trans hc;apply zab;refine za (za ?_);refine zaa hX zbc rfl ?_ ?_
    ·exact fin
    exact⟨i+1,⟨by omega,fun j hj=>by
     by_cases e:j=i
     ·rw[e];exact hc
     ·exact hn j (by omega)⟩,by omega,⟨rfl,rfl,zbY _,trivial⟩,⟨rfl,trivial⟩,rfl,rfl⟩
  ·have hb:decide ((i:Int)+1 < ((r.length:Nat):Int))=false:=hb;have hb:=of_decide_eq_false hb;apply zad;refine za (za ?_);refine zaa hX zbc rfl ?_ ?_
   ·trivial
   refine zl ⟨.inr rfl,zas rfl trivial rfl rfl ?_⟩;show true=wfS r;rw[hW];have:(u.take (r.length - 1)).any not1=false:=by
    rw[vf];intro x hx;obtain⟨j,hj,rfl⟩:=qb.1 hx;have:=hn j (by omega);rw[zx,zA (by omega)]at this;rw[show u[j]=(some u[j]).getD 0 from rfl,this];decide
   rw[this];rfl
abbrev Cal:=Int×List Int×Int×List Lr×Unit
def zgE (c:Cal):Prop:=(0≤c.1∧c.1≤1048576)∧(1≤c.2.1.length∧c.2.1.length≤16)∧(-1≤c.2.2.1∧c.2.2.1 < (c.2.1.length:Int))∧c.2.2.2.1.length≤16∧(c.2.2.1= -1->c.2.2.2.1=[])∧(∀ m∈c.2.1,1≤m∧m≤40)∧(perS 1 c.2.2.2.1).2=true
def cCalV:Ctr:={ args:=[cal],pre:=fun x=>[zgE x.1],res:=.bool,own:=none,out:=fun _=>true }
def kCv:Kn:={ gmK with C:=[(125,cPer)] }
theorem zdo:KnOk Tryz.prog gmH kCv:=zaj.with (.cons zoy .nil)
theorem zqi {a b:Bool} (ha:a=false) (hb:b=false):(bif a then true else b)=false:=by rw[ha,hb];rfl
theorem ztJ:yk Tryz.prog gmH 73 cCalV:=by
 refine zal (K:=kCv) zdo Tryz.func73 rfl rfl Tryz.call73 rfl (by decide) (by intro h;cases h) ?_;rintro w0 X hX ⟨(c:Cal),_⟩ hp;obtain⟨(ep:Int),(ms:List Int),(lp:Int),(rs:List Lr),⟨⟩⟩:=c;obtain⟨⟨e0,e1⟩,⟨n0,n1⟩,⟨l0,l1⟩,r0,lr,hm,hper⟩:zgE (ep,ms,lp,rs,()):=hp;have e0:0≤ep:=e0;have e1:ep≤1048576:=e1;have n0:1≤ms.length:=n0;have n1:ms.length≤16:=n1;have l0: -1≤lp:=l0;have l1:lp < (ms.length:Int):=l1;have r0:rs.length≤16:=r0;have lr:lp= -1->rs=[]:=lr;have hm:∀ m∈ms,1≤m∧m≤40:=hm;have hper:(perS 1 rs).2=true:=hper;change AWP _ _ _ _ _ ⟨[(0,⟨cal,(ep,ms,lp,rs,())⟩)],[],0⟩ _;refine za (za ?_);refine zaa hX zdo rfl ?_ ?_
 ·trivial
 refine za (za ?_);refine zaa hX zdo rfl ?_ ?_
 ·trivial
 refine zap (σ':=⟨[(1,⟨.optr cal,⟨0,cal,.here⟩⟩),(3,⟨i64,((ms.length:Nat):Int)⟩)],[(0,some (.box cal (ep,ms,lp,rs,())))],1⟩) ⟨⟨rfl,rfl,trivial⟩,⟨rfl,trivial⟩,rfl,rfl⟩ ?_;refine za (za ?_);refine zaa hX zdo rfl ?_ ?_
 ·repeat'(first|exact trivial|assumption|(refine⟨?_,?_⟩)|(intro _)|exact zb rfl|exact zd _|(simp_all [allP];done))
 refine zae rfl (fun hc=>?_) (fun _=>?_)
 ·have hc:(bif decide (ep < 0) then true else decide (ep > 1048576))=true:=hc;rw[zqi (decide_eq_false (by omega)) (decide_eq_false (by omega))]at hc;cases hc
 refine za (za ?_);refine zaa hX zdo rfl ?_ ?_
 ·repeat'(first|exact trivial|assumption|(refine⟨?_,?_⟩)|(intro _)|exact zb rfl|exact zd _|(simp_all [allP];done))
 refine zae rfl (fun hc=>?_) (fun _=>?_)
 ·have hc:(bif decide (((ms.length:Nat):Int) < 1) then true else decide (((ms.length:Nat):Int) > 16))=true:=hc;rw[zqi (decide_eq_false (by omega)) (decide_eq_false (by omega))]at hc;cases hc
 refine za (za ?_);refine zaa hX zdo rfl ?_ ?_
 ·repeat'(first|exact trivial|assumption|(refine⟨?_,?_⟩)|(intro _)|exact zb rfl|exact zd _|(simp_all [allP];done))
 refine zae rfl (fun hc=>?_) (fun _=>?_)
 ·have hc:(bif decide (lp < -1) then true else decide (lp≥((ms.length:Nat):Int)))=true:=hc;rw[zqi (decide_eq_false (by omega)) (decide_eq_false (by omega))]at hc;cases hc
 refine za (za ?_);refine zaa hX zdo rfl ?_ ?_
 ·repeat'(first|exact trivial|assumption|(refine⟨?_,?_⟩)|(intro _)|exact zb rfl|exact zd _|(simp_all [allP];done))
 refine zae rfl (fun hc=>?_) (fun _=>?_)
 ·have hc:decide (((rs.length:Nat):Int) > 16)=true:=hc;have:=of_decide_eq_true hc;omega
 refine za (za ?_);refine zaa hX zdo rfl ?_ ?_
 ·repeat'(first|exact trivial|assumption|(refine⟨?_,?_⟩)|(intro _)|exact zb rfl|exact zd _|(simp_all [allP];done))
 refine zae rfl (fun hc=>?_) (fun _=>?_)
 ·have hc:(bif (lp== -1) then decide (((rs.length:Nat):Int) > 0) else false)=true:=hc;cases hq:(lp== -1) with
  |false=>rw[hq]at hc;cases hc
  |true=>
   rw[hq]at hc;have:=of_decide_eq_true hc;rw[lr (beq_iff_eq.1 hq)]at this;exact absurd this (by decide)
 apply zab;refine zap (σ':=⟨[(1,⟨.optr cal,⟨0,cal,.here⟩⟩)],[(0,some (.box cal (ep,ms,lp,rs,())))],1⟩) ⟨⟨rfl,trivial⟩,⟨rfl,trivial⟩,rfl,rfl⟩ ?_;refine za (za ?_);refine zaa hX zdo rfl ?_ ?_
 ·trivial
 (repeat(first|apply zaf|apply zab|apply zac|apply zad));refine yi (ι:=Nat) (fun k=>⟨[(1,⟨.optr cal,⟨0,cal,.here⟩⟩),(50,⟨ints,ms⟩),(51,⟨i64,((ms.length:Nat):Int)⟩),(52,⟨i64,(k:Int)⟩)],[(0,some (.box cal (ep,ms,lp,rs,())))],1⟩) (fun k=>k≤ms.length) (fun k=>ms.length - k) 0 (zn _) ⟨⟨rfl,rfl,rfl,rfl,trivial⟩,⟨rfl,trivial⟩,rfl,rfl⟩ ?_;intro k hk;refine za (za ?_);refine zaa hX zdo rfl ?_ ?_
 ·trivial
 apply zaf;refine zae rfl (fun hb=>?_) (fun hb=>?_)
 ·have hb:decide ((k:Int) < (ms.length:Nat))=true:=hb;have hb:=of_decide_eq_true hb;have hlt:k < ms.length:=by omega
  have z0:(0:Int)≤(k:Int):=by omega
  have hgd:ms.getD (k:Int).toNat (0:Int)=ms[k]:=za4 hlt;obtain⟨g0,g1⟩:=hm ms[k] (yZ hlt);rw[<-hgd]at g0 g1;refine za (za ?_);refine zaa hX zdo rfl ?_ ?_
  ·exact⟨z0,hb⟩
  refine za (za ?_);refine zaa hX zdo rfl ?_ ?_
  ·repeat'(first|exact trivial|assumption|(refine⟨?_,?_⟩)|(intro _)|exact zb rfl|exact zd _|(simp_all [allP];done))
  refine zae rfl (fun hc=>?_) (fun _=>?_)
  ·have hc:(bif decide (ms.getD (k:Int).toNat (0:Int) < 1) then true else decide (ms.getD (k:Int).toNat (0:Int) > 40))=true:=hc;rw[zqi (decide_eq_false (by omega)) (decide_eq_false (by omega))]at hc;cases hc
  apply zab;refine za (za ?_);refine zaa hX zdo rfl ?_ ?_
  ·exact zaF (by omega)
  exact⟨k+1,hlt,by omega,⟨rfl,rfl,rfl,zbY _,trivial⟩,⟨rfl,trivial⟩,rfl,rfl⟩
 ·apply zad;refine za (za ?_);refine zaa hX zdo rfl ?_ ?_
  ·trivial
  refine za (za ?_);refine zaa hX zdo rfl ?_ ?_
  ·trivial
  refine zl ⟨.inr rfl,zas rfl trivial rfl rfl ?_⟩;exact hper
def ztK:Ctr:={ args:=[.slice nd,.slice cal],pre:=fun x=>[zg x.2.1=3,∀ c∈(x.2.1:List Cal),zgE c],res:=i64,own:=none,out:=fun x=>zbr x.1 }
def zCal:Cal:=(0,[],0,[],())
def kVr:Kn:={ gmK with C:=[(71,cAnyR),(72,cWf),(73,cCalV),(74,zlx)] }
theorem zbZ:KnOk Tryz.prog gmH kVr:=zaj.with (.cons zt2 <| .cons wf_ok <| .cons ztJ <| .cons zjI .nil)
set_option maxHeartbeats 1000000 in
theorem zsl:yk Tryz.prog gmH 34 ztK:=by
 refine zal (K:=kVr) zbZ Tryz.func34 rfl rfl Tryz.call34 rfl (by decide) (by intro h;cases h) ?_;rintro w0 X hX ⟨(r:List Nd),(cs:List Cal),_⟩ hp;obtain⟨hc3,hcs⟩:cs.length=3∧∀ c∈cs,zgE c:=by
  simp only[ztK,allP]at hp
  simpa using hp
 change AWP _ _ _ _ _ ⟨[(0,⟨.slice nd,r⟩),(1,⟨.slice cal,cs⟩)],[],0⟩ _;refine za (za ?_);refine zaa hX zbZ rfl ?_ ?_
 ·trivial
 refine za (za ?_);refine zaa hX zbZ rfl ?_ ?_
 ·trivial
 refine za (za ?_);refine zaa hX zbZ rfl ?_ ?_
 ·repeat'(first|exact trivial|assumption|exact rfl|(refine⟨?_,?_⟩)|(intro _)|exact zb rfl|exact zd _|(simp_all [allP];done))
 have hbig:(bif decide (((r.length:Nat):Int) > 64) then true else r.any bigN)=decide (64 < r.length∨r.any bigN=true):=by
  rw[b_or,zL,zY,decide_eq_true_iff,decide_eq_true_iff];constructor
  ·rintro (h|h)
   ·exact .inl (by omega)
   ·exact .inr h
  ·rintro (h|h)
   ·exact .inl (by omega)
   ·exact .inr h
 refine zae rfl (fun hb=>?_) (fun hb=>?_)
 ·have hb:=hbig.symm.trans hb;have hb:=of_decide_eq_true hb;(repeat(first|apply zaf|apply zab|apply zai|apply zad|apply zac|refine zaa hX zbZ rfl trivial ?_|refine zaa hX zbZ rfl id ?_|refine zaa hX zbZ rfl ⟨id,id⟩ ?_));refine zl ⟨.inr rfl,zas rfl trivial rfl rfl ?_⟩;show (2:Int)=zbr r;unfold zbr;rw[if_pos hb]
 have hb:=hbig.symm.trans hb;have hnb:=of_decide_eq_false hb;apply zab;refine za (za ?_);refine zaa hX zbZ rfl ?_ ?_
 ·repeat'(first|exact trivial|assumption|(refine⟨?_,?_⟩)|(intro _)|exact zb rfl|exact zd _|(simp_all [allP];done))
 have hwt:(bif !wfS r then true else decide (((cs.length:Nat):Int) > 3))= !wfS r:=by
  rw[hc3];cases wfS r<;>rfl
 refine zae rfl (fun hb=>?_) (fun hb=>?_)
 ·have hb:=hwt.symm.trans hb;rw[zr]at hb;(repeat(first|apply zaf|apply zab|apply zai|apply zad|apply zac|refine zaa hX zbZ rfl trivial ?_|refine zaa hX zbZ rfl id ?_|refine zaa hX zbZ rfl ⟨id,id⟩ ?_));refine zl ⟨.inr rfl,zas rfl trivial rfl rfl ?_⟩;show (1:Int)=zbr r;unfold zbr;rw[if_neg hnb,if_neg (by rw[hb];decide)]
 have hb:=hwt.symm.trans hb;rw[xe]at hb;have hv:zbr r=0:=by unfold zbr;rw[if_neg hnb,if_pos hb]
 obtain⟨⟨w1,w2⟩,w3,_⟩:=zcN hb;apply zab;refine za (za ?_);refine zaa hX zbZ rfl ?_ ?_
 ·trivial
 (repeat(first|apply zaf|apply zab|apply zac|apply zad));refine zap (σ':=⟨[(0,⟨.slice nd,r⟩),(1,⟨.slice cal,cs⟩),(27,⟨.slice cal,cs⟩),(28,⟨i64,((cs.length:Nat):Int)⟩),(29,⟨i64,(0:Int)⟩)],[],0⟩) ⟨⟨rfl,rfl,rfl,rfl,rfl,trivial⟩,trivial,rfl,rfl⟩ ?_;refine yi (ι:=Nat) (fun k=>⟨[(0,⟨.slice nd,r⟩),(1,⟨.slice cal,cs⟩),(27,⟨.slice cal,cs⟩),(28,⟨i64,((cs.length:Nat):Int)⟩),(29,⟨i64,(k:Int)⟩)],[],0⟩) (fun k=>k≤cs.length) (fun k=>cs.length - k) 0 (zn _) ⟨⟨rfl,rfl,rfl,rfl,rfl,trivial⟩,trivial,rfl,rfl⟩ ?_;intro k hk;refine za (za ?_);refine zaa hX zbZ rfl ?_ ?_
 ·trivial
 apply zaf;refine zae rfl (fun hb=>?_) (fun hb=>?_)
 ·have hb:decide ((k:Int) < (cs.length:Nat))=true:=hb;have hb:=of_decide_eq_true hb;have hlt:k < cs.length:=by omega
  have z0:(0:Int)≤(k:Int):=by omega
  have hgd:cs.getD (k:Int).toNat zCal=cs[k]:=za4 hlt;have hok:=hcs cs[k] (yZ hlt);rw[<-hgd]at hok;refine za (za ?_);refine zaa hX zbZ rfl ?_ ?_
  ·exact⟨z0,hb⟩
  refine za (za ?_);refine zaa hX zbZ rfl ?_ ?_
  ·exact hok
  refine zae rfl (fun hc=>?_) (fun _=>?_)
  ·have hc:(!true)=true:=hc;cases hc
  apply zab;refine za (za ?_);refine zaa hX zbZ rfl ?_ ?_
  ·exact zaF (by omega)
  exact⟨k+1,hlt,by omega,⟨rfl,rfl,rfl,rfl,zbY _,trivial⟩,trivial,rfl,rfl⟩
 ·apply zad;refine za (za ?_);refine zaa hX zbZ rfl ?_ ?_
  ·trivial
  refine za (za ?_);refine zaa hX zbZ rfl ?_ ?_
  ·trivial
  (repeat(first|apply zaf|apply zab|apply zac|apply zad));refine yi (ι:=Nat) (fun i=>⟨[(0,⟨.slice nd,r⟩),(1,⟨.slice cal,cs⟩),(8,⟨.optr (.arr 19 shp),⟨0,.arr 19 shp,.here⟩⟩),(38,⟨.slice nd,r⟩),(39,⟨i64,((r.length:Nat):Int)⟩),(40,⟨i64,(i:Int)⟩)],[(0,some (.box (.arr 19 shp) zcW))],1⟩) (fun i=>i≤r.length) (fun i=>r.length - i) 0 (zn _) ⟨⟨rfl,rfl,rfl,rfl,rfl,rfl,trivial⟩,⟨rfl,trivial⟩,rfl,rfl⟩ ?_;intro i hi;refine za (za ?_);refine zaa hX zbZ rfl ?_ ?_
  ·trivial
  apply zaf;refine zae rfl (fun hb=>?_) (fun hb=>?_)
  ·have hb:decide ((i:Int) < (r.length:Nat))=true:=hb;have hb:=of_decide_eq_true hb;have hlt:i < r.length:=by omega
   have z0:(0:Int)≤(i:Int):=by omega
   have hf:=(zcL w3 hlt).1;obtain⟨⟨k1,k2⟩,_,hcal,_⟩:=zaI hf;refine za (za ?_);refine zaa hX zbZ rfl ?_ ?_
   ·exact⟨z0,hb⟩
   refine zap (σ':=⟨[(0,⟨.slice nd,r⟩),(1,⟨.slice cal,cs⟩),(8,⟨.optr (.arr 19 shp),⟨0,.arr 19 shp,.here⟩⟩),(38,⟨.slice nd,r⟩),(39,⟨i64,((r.length:Nat):Int)⟩),(40,⟨i64,(i:Int)⟩),(10,⟨.optr nd,⟨1,nd,.here⟩⟩)],[(0,some (.box (.arr 19 shp) zcW)),(1,some (.box nd (zao r i)))],2⟩) ⟨⟨rfl,rfl,rfl,rfl,rfl,rfl,rfl,trivial⟩,⟨rfl,rfl,trivial⟩,rfl,rfl⟩ ?_;generalize zao r i=n at *;have t0:(0:Int)≤ndK n:=by omega
   have t1:ndK n < ((19:Nat):Int):=by omega
   have t2:(ndK n).toNat < 19:=by omega
   refine za (za ?_);refine zaa hX zbZ rfl ?_ ?_
   ·repeat'(first|exact trivial|assumption|exact t0|exact t1|exact t2|(refine⟨?_,?_⟩)|(intro _)|exact zb rfl|exact zd _|(simp_all [allP];done))
   refine zae rfl (fun hc=>?_) (fun _=>?_)
   ·have hc:(bif (zbH (ndK n)).2.1 then decide (ndC n≥((cs.length:Nat):Int)) else false)=true:=hc;exfalso;unfold zdv at hcal;cases hq:(zbH (ndK n)).2.1 with
    |false=>rw[hq]at hc;cases hc
    |true=>
     rw[hq,cond_true]at hc hcal;have h1:=of_decide_eq_true hc;have h2:=zaM.1 hcal;omega
   apply zab;refine za (za ?_);refine zaa hX zbZ rfl ?_ ?_
   ·exact zaF (by omega)
   exact⟨i+1,hlt,by omega,⟨rfl,rfl,rfl,rfl,rfl,zbY _,trivial⟩,⟨rfl,trivial⟩,rfl,rfl⟩
  ·(repeat(first|apply zaf|apply zab|apply zai|apply zad|apply zac|refine zaa hX zbZ rfl trivial ?_|refine zaa hX zbZ rfl id ?_|refine zaa hX zbZ rfl ⟨id,id⟩ ?_));refine zl ⟨.inr rfl,zas rfl trivial rfl rfl ?_⟩;exact hv.symm
def znU:List Int:=[31,28,31,30,31,30,31,31,30,31,30,31]
def zgq:List Int:=[30,29,30,29,30,29,30,29,30,29,30,29]
def zc2:List Int:=[2,5,7,10,13,16,18,21,24,26,29]
def zgr (k:Int):Cal:=
 if k=0 then (7,znU,1,[(4,0,true,()),(100,0,false,()),(400,0,true,())],())
 else if k=1 then (5,znU,1,[(4,0,true,())],())
 else (227021,zgq,11,zc2.map fun x=>(30,x,true,()),())
def ziF:Ctr:={ args:=[i64],pre:=fun x=>[0≤x.1,x.1≤2],res:=.tup cal (.tup i64 .unit),own:=none,out:=fun x=>(zgr x.1,(0:Int),()) }
def kKw:Kn:={ gmK with H:=[63] }
theorem zcf:KnOk Tryz.prog gmH kKw:=⟨zgv,zgu,CsOk.nil,zhv,RsOk.nil⟩
def lunVal:Value:=.agg #[.int .i64 227021,.slice none 0 0,.int .i64 11,.slice none 0 0]
theorem zoO:Tryz.prog.built 63 [(0,.int .i64 227021),(2,.int .i64 11)]=some #[.int .i64 227021,.slice none 0 0,.int .i64 11,.slice none 0 0]:=by kernel_rfl
theorem bufL {te:TypeId} {x y:List Lr} (h:x=y):some (OObj.buf te lru x)=some (OObj.buf te lru y):=by rw[h]
set_option maxHeartbeats 1000000 in
theorem zrd:yk Tryz.prog gmH 59 ziF:=by
 refine zal (K:=kKw) zcf Tryz.func59 rfl rfl Tryz.call59 rfl (by decide) (by intro h;cases h) ?_;rintro w0 X hX ⟨(k:Int),_⟩ hp;obtain⟨h0,h1⟩:0≤k∧k≤2:=by
  simp only[ziF,allP]at hp
  simpa using hp
 change AWP _ _ _ _ _ ⟨[(0,⟨i64,k⟩)],[],0⟩ _;refine za (za ?_);refine zaa hX zcf rfl ?_ ?_
 ·trivial
 refine za (za ?_);refine zaa hX zcf rfl ?_ ?_
 ·trivial
 refine qx hX 4 ?_;refine za (za ?_);refine zaa hX zcf rfl ?_ ?_
 ·trivial
 refine za (za ?_);refine zaa hX zcf rfl ?_ ?_
 ·trivial
 refine za (za ?_);refine zaa hX zcf rfl ?_ ?_
 ·trivial
 refine zae rfl (fun hb=>?_) (fun hb=>?_)
 ·have hb:(k==0)=true:=hb;obtain rfl:=beq_iff_eq.1 hb;refine za (za ?_);refine zaa hX zcf rfl ?_ ?_
  ·trivial
  refine qx hX 6 ?_;refine za (za ?_);refine zaa hX zcf rfl ?_ ?_
  ·trivial
  refine zl ⟨.inr rfl,za1 (by decide) rfl rfl trivial ?_⟩;rfl
 have hb:(k==0)=false:=hb;have hk0:k≠0:=fun e=>by rw[e]at hb;cases hb
 refine za (za ?_);refine zaa hX zcf rfl ?_ ?_
 ·trivial
 refine zae rfl (fun hb=>?_) (fun hb=>?_)
 ·have hb:(k==1)=true:=hb;obtain rfl:=beq_iff_eq.1 hb;refine za (za ?_);refine zaa hX zcf rfl ?_ ?_
  ·trivial
  refine zl ⟨.inr rfl,za1 (by decide) rfl rfl trivial ?_⟩;rfl
 have hb:(k==1)=false:=hb;have hk1:k≠1:=fun e=>by rw[e]at hb;cases hb
 refine za (za ?_);refine zaa hX zcf rfl ?_ ?_
 ·trivial
 refine zae rfl (fun hb=>?_) (fun hb=>?_)
 ·have hb:(k==2)=true:=hb;obtain rfl:=beq_iff_eq.1 hb;(repeat(first|apply zaf|apply zab|apply zac|apply zad));refine zak ?_;refine AL.litv rfl (by intro c e;cases e) rfl rfl lunVal (fun β a w hs=>by
   unfold execOp;refine zeb ?_;rw[show (#[(0,ku (yB .i64 227021)),(2,ku (yB .i64 11))]:Array (Nat×Operand)).map (fun p=>(p.1,a.eval p.2))= #[(0,yB .i64 227021),(2,yB .i64 11)] from by simp;exact⟨rfl,rfl⟩];exact run_build w _ _ _ zoO) ?_
  refine AL.all hX zcf rfl trivial ?_;refine AWP.nilLeaf 3 1 3 i64 rfl rfl rfl ?_;refine AWP.nilLeaf 3 3 129 lru rfl rfl rfl ?_;refine za (za ?_);refine zaa hX zcf rfl ?_ ?_
  ·trivial
  (repeat(first|apply zaf|apply zab|apply zac|apply zad));refine yi (ι:=Nat) (fun i=>⟨[(2,⟨.hptr,((0:Nat),(0:Nat))⟩),(7,⟨.hptr,((3:Nat),(0:Nat))⟩),(32,⟨i64,(i:Int)⟩)],[(0,some (.hbox 63 [⟨i64,(0:Int)⟩,⟨.lit,.slice none 0 0⟩,⟨i64,(0:Int)⟩,⟨.lit,.slice none 0 0⟩])),(3,some (.hbox 63 [⟨i64,(227021:Int)⟩,⟨.obuf i64,(4:Nat)⟩,⟨i64,(11:Int)⟩,⟨.obuf lru,(5:Nat)⟩])),(4,some (.buf 3 i64 (zgq.take i))),(5,some (.buf 129 lru []))],6⟩) (fun i=>i≤12) (fun i=>12 - i) 0 (zn _) ⟨⟨rfl,rfl,rfl,trivial⟩,⟨rfl,rfl,rfl,rfl,trivial⟩,rfl,rfl⟩ ?_
  ·intro i hi;refine za (za ?_);refine zaa hX zcf rfl ?_ ?_
   ·trivial
   apply zaf;refine zae rfl (fun hb=>?_) (fun hb=>?_)
   ·have hb:decide ((i:Int) < 12)=true:=hb;have hb:=of_decide_eq_true hb;obtain⟨hv,hv2,hv3⟩:(inR .i64 ((30:Int) - (i:Int).tmod 2))∧zgq.take i++ [(30:Int) - (i:Int).tmod 2]=zgq.take (i+1)∧(zgq.take i).length≤12:=by
     rcases (show i=0∨i=1∨i=2∨i=3∨i=4∨i=5∨i=6∨i=7∨i=8∨i=9∨i=10∨i=11 by omega) with rfl|rfl|rfl|rfl|rfl|rfl|rfl|rfl|rfl|rfl|rfl|rfl<;>exact⟨zam (by decide) (by decide),by decide,by decide⟩
    have q0:(2:Int)≠0:=by decide
    have q1:(zgq.take i).length+1≤1000000000:=by omega
    refine za (za ?_);refine zaa hX zcf rfl ?_ ?_
    ·trivial
    refine za (za ?_);refine zaa hX zcf rfl ?_ ?_
    ·exact⟨q0,hv,q1⟩
    refine za (za ?_);refine zaa hX zcf rfl ?_ ?_
    ·exact zaF (by omega)
    exact⟨i+1,by omega,by omega,⟨rfl,rfl,zbY _,trivial⟩,⟨rfl,rfl,bufI hv2,rfl,trivial⟩,rfl,rfl⟩
   ·have hb:decide ((i:Int) < 12)=false:=hb;have hb:=of_decide_eq_false hb;obtain rfl:i=12:=by omega
    apply zad;refine za (za ?_);refine zaa hX zcf rfl ?_ ?_
    ·trivial
    refine qx hX 44 ?_;(repeat(first|apply zaf|apply zab|apply zac|apply zad));refine yi (ι:=Nat) (fun j=>⟨[(2,⟨.hptr,((0:Nat),(0:Nat))⟩),(7,⟨.hptr,((3:Nat),(0:Nat))⟩),(44,⟨ints,zc2⟩),(45,⟨i64,(11:Int)⟩),(46,⟨i64,(j:Int)⟩)],[(0,some (.hbox 63 [⟨i64,(0:Int)⟩,⟨.lit,.slice none 0 0⟩,⟨i64,(0:Int)⟩,⟨.lit,.slice none 0 0⟩])),(3,some (.hbox 63 [⟨i64,(227021:Int)⟩,⟨.obuf i64,(4:Nat)⟩,⟨i64,(11:Int)⟩,⟨.obuf lru,(5:Nat)⟩])),(4,some (.buf 3 i64 zgq)),(5,some (.buf 129 lru ((zc2.take j).map fun x=>(30,x,true,()))))],6⟩) (fun j=>j≤11) (fun j=>11 - j) 0 (zn _) ⟨⟨rfl,rfl,rfl,rfl,rfl,trivial⟩,⟨rfl,rfl,rfl,rfl,trivial⟩,rfl,rfl⟩ ?_;intro j hj;refine za (za ?_);refine zaa hX zcf rfl ?_ ?_
    ·trivial
    apply zaf;refine zae rfl (fun hb=>?_) (fun hb=>?_)
    ·have hb:decide ((j:Int) < 11)=true:=hb;have hb:=of_decide_eq_true hb;have hlt:j < zc2.length:=by show j < 11;omega
     have z0:(0:Int)≤(j:Int):=by omega
     have z1:(j:Int) < ((zc2.length:Nat):Int):=by omega
     have hl:((zc2.take j).map fun x=>((30,x,true,()):Lr)).length+1≤1000000000:=by rw[jV,yC];omega
     refine za (za ?_);refine zaa hX zcf rfl ?_ ?_
     ·exact⟨z0,z1⟩
     refine za (za ?_);refine zaa hX zcf rfl ?_ ?_
     ·exact hl
     refine za (za ?_);refine zaa hX zcf rfl ?_ ?_
     ·exact zaF (by omega)
     refine⟨j+1,by omega,by omega,⟨rfl,rfl,rfl,rfl,zbY _,trivial⟩,⟨rfl,rfl,rfl,bufL ?_,trivial⟩,rfl,rfl⟩;rw[zH hlt,xQ];show _++ [((30:Int),zc2.getD (j:Int).toNat (0:Int),true,())]=_;rw[za4 hlt];rfl
    ·have hb:decide ((j:Int) < 11)=false:=hb;have hb:=of_decide_eq_false hb;obtain rfl:j=11:=by omega
     apply zad;refine AWP.frzL hX 3 1 ?_;refine AWP.frzL hX 3 3 ?_;refine za (za ?_);refine zaa hX zcf rfl ?_ ?_
     ·trivial
     refine zl ⟨.inr rfl,za1 (by decide) rfl rfl trivial ?_⟩;rfl
 ·have hb:(k==2)=false:=hb;exact absurd (beq_iff_eq.2 (by omega:k=2)) (by rw[hb];decide)
def two (k:Int):Bool:=(k==8)||(k==9)||(k==10)||(k==17)
def zcI (by_:Int) (n:Nd):Nd:=(n.1,n.2.1,(if 8≤n.1∧n.1≤17 then n.2.2.1+by_ else n.2.2.1),(if two n.1 then n.2.2.2.1+by_ else n.2.2.2.1),n.2.2.2.2)
def zd8 (r:List Nd) (by_:Int):List Nd:=r.map (zcI by_)
def zqL (r:List Nd) (n:Nd):List Nd:=r++ [setL n ((r.length:Nat) - 1)]
def zrO (r s:List Nd) (n:Nd):List Nd:=r++zd8 s (r.length:Nat)++ [zeh n ((r.length:Nat) - 1) ((r.length:Nat)+(s.length:Nat) - 1)]
set_option maxRecDepth 10000
theorem ziB {α:Type} {l m:List α} {z:α} {j:Nat}:(l++m).getD (l.length+j) z=m.getD j z:=by
 rw[zx,zx,qI (Nat.le_add_right ..),Nat.add_sub_cancel_left]
theorem zro {n:Nd} (h:zbA n=true):(ndS n).length≤32:=by
 obtain⟨_,_,_,h,_⟩:=zaI h;unfold zf3 at h;cases hk:(ndK n==18) with
 |true=>
  rw[hk]at h;have h:zdm (ndS n)=true:=h;unfold zdm at h;simp only[zf,decide_eq_true_iff]at h;exact h.1.2
 |false=>
  rw[hk]at h;have h:=of_decide_eq_true h;rw[h];decide
theorem zgW {r:List Nd} (h:zbr r=0):wfS r=true:=by
 unfold zbr at h;split at h
 ·cases h
 ·split at h
  ·assumption
  ·cases h
def cMod:Ctr:={ args:=[i64,i64],pre:=fun x=>[0 < x.2.1,x.2.1≤1000000000],res:=i64,own:=none,out:=fun x=>x.1 % x.2.1 }
theorem mod_ok:yk Tryz.prog gmG 40 cMod:=by
 refine zal (K:=gmK) zaC Tryz.func40 rfl rfl Tryz.call40 rfl (by decide) (by intro h;cases h) ?_;rintro w0 X hX ⟨(a:Int),(b:Int),_⟩ hp;obtain⟨h0,h1⟩:0 < b∧b≤1000000000:=by
  simp only[cMod,allP]at hp
  simpa using hp
 change AWP _ _ _ _ _ ⟨[(0,⟨i64,a⟩),(1,⟨i64,b⟩)],[],0⟩ _;have hn:b≠0:=by omega
 refine za (za ?_);refine zaa hX zaC rfl ?_ ?_
 ·trivial
 refine za (za ?_);refine zaa hX zaC rfl ?_ ?_
 ·exact hn
 refine za (za ?_);refine zaa hX zaC rfl ?_ ?_
 ·trivial
 have hlt:=ut a h0;have hgt: -b < a.tmod b:=by
  have h2:=Int.natAbs_tmod a b;have h3:a.natAbs % b.natAbs < b.natAbs:=uj _ (by omega);omega
 have hem:a % b=if a.tmod b < 0 then a.tmod b+b else a.tmod b:=by
  have e1:=Int.emod_nonneg a hn;have e2:=Int.emod_lt_of_pos a h0;have e3:a=b * a.tdiv b+a.tmod b:=(Int.mul_tdiv_add_tmod a b).symm;split
  ·rename_i hneg;have:a=(a.tmod b+b)+b * (a.tdiv b - 1):=by rw[Int.mul_sub];omega
   conv=>lhs;rw[this]
   rw[vX];exact qU (by omega) (by omega)
  ·conv=>lhs;rw[e3]
   rw[Int.add_comm,vX];exact qU (by omega) (by omega)
 refine zae rfl (fun hb=>?_) (fun hb=>?_)
 ·have hb:decide (a.tmod b < 0)=true:=hb;have hb:=of_decide_eq_true hb;have q0:inR .i64 (a.tmod b+b):=zam (by omega) (by omega);refine za (za ?_);refine zaa hX zaC rfl ?_ ?_
  ·exact q0
  (repeat(first|apply zaf|apply zab|apply zai|apply zad|apply zac|refine zaa hX zaC rfl trivial ?_|refine zaa hX zaC rfl id ?_|refine zaa hX zaC rfl ⟨id,id⟩ ?_));refine zl ⟨.inr rfl,zas rfl trivial rfl rfl ?_⟩;show a.tmod b+b=a % b;rw[hem,if_pos hb]
 ·have hb:decide (a.tmod b < 0)=false:=hb;have hb:=of_decide_eq_false hb;apply zab;(repeat(first|apply zaf|apply zab|apply zai|apply zad|apply zac|refine zaa hX zaC rfl trivial ?_|refine zaa hX zaC rfl id ?_|refine zaa hX zaC rfl ⟨id,id⟩ ?_));refine zl ⟨.inr rfl,zas rfl trivial rfl rfl ?_⟩;show a.tmod b=a % b;rw[hem,if_neg hb]
def cTwo:Ctr:={ args:=[i64],pre:=fun _=>[],res:=.bool,own:=none,out:=fun x=>two x.1 }
theorem zrR:yk Tryz.prog gmG 94 cTwo:=by
 refine zal (K:=gmK) zaC Tryz.func94 rfl rfl Tryz.call94 rfl (by decide) (by intro h;cases h) ?_;rintro w0 X hX ⟨(k:Int),_⟩ hp;change AWP _ _ _ _ _ ⟨[(0,⟨i64,k⟩)],[],0⟩ _;refine za (za ?_);refine zaa hX zaC rfl ?_ ?_
 ·trivial
 refine za (za ?_);refine zaa hX zaC rfl ?_ ?_
 ·repeat'(first|exact trivial|assumption|(refine⟨?_,?_⟩)|(intro _)|exact zb rfl|exact zd _|(simp_all [allP];done))
 refine zl ⟨.inr rfl,zas rfl trivial rfl rfl ?_⟩;show (bif (bif (bif (k==8) then true else (k==9)) then true else (k==10)) then true else (k==17))=two k;rw[b_or,b_or,b_or];rfl
theorem zmt {n:Nat} (h:10≤n):yy n=yy (n / 10)++ [yf (48+n % 10)]:=by
 conv=>lhs;rw[yy]
 rw[dif_neg (by omega)]
theorem zmu {n:Nat} (h:n < 10):yy n=[yf (48+n)]:=by rw[yy,dif_pos h]
theorem zr4 (n:Nat):yf ((48+((n:Int)).tmod 10) % 256).toNat=yf (48+n % 10):=by
 have:((n:Int)).tmod 10=((n % 10:Nat):Int):=rfl;rw[this]
 congr 1
 omega
theorem vS {x y:List UInt8} (h:x=y):(⟨.str,x⟩:V)=⟨.str,y⟩:=by rw[h]
def ztP:Ctr:={ args:=[i64],pre:=fun x=>[0≤x.1,x.1 < 100000000000000000],res:=.str,own:=none,out:=fun x=>deI x.1 }
theorem zlr:yk Tryz.prog gmG 107 ztP:=by
 refine zal (K:=gmK) zaC Tryz.func107 rfl rfl Tryz.call107 rfl (by decide) (by intro h;cases h) ?_;rintro w0 X hX ⟨(n:Int),_⟩ hp;obtain⟨h0,h1⟩:0≤n∧n < 100000000000000000:=by
  simp only[ztP,allP]at hp
  simpa using hp
 change AWP _ _ _ _ _ ⟨[(0,⟨i64,n⟩)],[],0⟩ _;refine za (za ?_);refine zaa hX zaC rfl ?_ ?_
 ·trivial
 refine za (za ?_);refine zaa hX zaC rfl ?_ ?_
 ·trivial
 refine zae rfl (fun hb=>?_) (fun _=>?_)
 ·have hb:decide (n < 0)=true:=hb;have:=of_decide_eq_true hb;omega
 apply zab;have ten:(10:Int)≠0:=by decide
 have tm:∀ x:Int,0≤x->0≤x.tmod 10∧x.tmod 10 < 10:=fun x hx=>⟨Int.tmod_nonneg _ hx,ut _ (by decide)⟩;have hm:=tm n h0;have i1:inR .i64 (48+n.tmod 10):=zam (by omega) (by omega);refine za (za ?_);refine zaa hX zaC rfl ?_ ?_
 ·exact⟨ten,i1⟩
 have td:∀ x:Nat,((x:Int)).tdiv 10=((x / 10:Nat):Int):=fun x=>(vW ..);obtain⟨N,rfl⟩:∃ N:Nat,n=(N:Int):=⟨n.toNat,by omega⟩;have hlen:(deI (N:Int)).length≤18:=zc9 (by omega) h1;have hde:deI (N:Int)=yy N:=by
  unfold deI kD;rw[if_neg (by omega),zz]
 have i2:inR .i64 (((N:Int)).tdiv 10):=by rw[td];exact zam (by omega) (by omega)
 refine za (za ?_);refine zaa hX zaC rfl ?_ ?_
 ·exact⟨ten,i2⟩
 (repeat(first|apply zaf|apply zab|apply zac|apply zad));refine yi (ι:=Nat×List UInt8) (fun p=>⟨[(0,⟨i64,(p.1:Int)⟩),(3,⟨.str,p.2⟩)],[],1⟩) (fun p=>p.1≤N / 10∧deI (N:Int)=if p.1=0 then p.2 else yy p.1++p.2) (fun p=>p.1) (N / 10,[yf (48+N % 10)]) ⟨zk _,?_⟩ ⟨⟨vI64 (td N),vS ?_,trivial⟩,trivial,rfl,rfl⟩ ?_
 ·rw[hde];show _=if N / 10=0 then [yf (48+N % 10)] else yy (N / 10)++ [yf (48+N % 10)]
  by_cases h10:N < 10
  ·rw[if_pos (by omega),zmu h10,xV h10]
  ·rw[if_neg (by omega),zmt (by omega)]
 ·show [yf ((48+((N:Int)).tmod 10) % 256).toNat]=_;rw[zr4]
 rintro ⟨m,s⟩ ⟨hm10,hd⟩;have hm10:m≤N / 10:=hm10;have hd:deI (N:Int)=if m=0 then s else yy m++s:=hd
 refine za (za ?_);refine zaa hX zaC rfl ?_ ?_
 ·trivial
 refine zae rfl (fun hb=>?_) (fun hb=>?_)
 ·have hb:decide ((m:Int) > 0)=true:=hb;have hb:=of_decide_eq_true hb;rw[if_neg (by omega)]at hd;have hsl:s.length≤18:=by rw[hd,zh]at hlen;omega
  have hmm:=tm (m:Int) (by omega);have j1:inR .i64 (48+((m:Int)).tmod 10):=zam (by omega) (by omega);have j2:1+s.length≤maxLen:=by unfold maxLen;omega
  have j3:inR .i64 (((m:Int)).tdiv 10):=by rw[td];exact zam (by omega) (by omega)
  refine za (za ?_);refine zaa hX zaC rfl ?_ ?_
  ·exact⟨ten,j1,j2⟩
  refine za (za ?_);refine zaa hX zaC rfl ?_ ?_
  ·exact⟨ten,j3⟩
  refine⟨(m / 10,[yf (48+m % 10)]++s),⟨by show m / 10≤N / 10;omega,?_⟩,by show m / 10 < m;omega,⟨vI64 (td m),vS ?_,trivial⟩,trivial,rfl,rfl⟩
  ·rw[hd];show _=if m / 10=0 then [yf (48+m % 10)]++s else yy (m / 10)++([yf (48+m % 10)]++s)
   by_cases h10:m < 10
   ·rw[if_pos (by omega),zmu h10,xV h10]
   ·rw[if_neg (by omega),zmt (by omega),zu]
  ·show [yf ((48+((m:Int)).tmod 10) % 256).toNat]++s=_;rw[zr4]
 ·have hb:decide ((m:Int) > 0)=false:=hb;have hb:=of_decide_eq_false hb;rw[if_pos (by omega)]at hd;(repeat(first|apply zaf|apply zab|apply zai|apply zad|apply zac|refine zaa hX zaC rfl trivial ?_|refine zaa hX zaC rfl id ?_|refine zaa hX zaC rfl ⟨id,id⟩ ?_));refine zl ⟨.inr rfl,zas rfl trivial rfl rfl ?_⟩;exact hd.symm
def cDec:Ctr:={ args:=[i64],pre:=fun x=>[zbR x.1],res:=.str,own:=none,out:=fun x=>deI x.1 }
def kDec:Kn:={ gmK with C:=[(107,ztP)] }
theorem zi7:KnOk Tryz.prog gmG kDec:=zaC.with (.cons zlr .nil)
theorem zpE:yk Tryz.prog gmG 107 cDec:=by
 refine⟨zlr.1,fun w O xs vs hO hr hp hG=>?_⟩;obtain⟨(n:Int),_⟩:=xs;obtain⟨h0,h1⟩: -100000000000000000 < n∧n < 100000000000000000:=hp;by_cases hn:0≤n
 ·exact zlr.2 w O _ vs hO hr ⟨hn,h1⟩ hG
 ·have key:yk Tryz.prog gmG 107 { cDec with pre:=fun x=>[-100000000000000000 < x.1,x.1 < 0] }:=by
   refine zal (K:=kDec) zi7 Tryz.func107 rfl rfl Tryz.call107 rfl (by decide) (by intro h;cases h) ?_;rintro w0 X hX ⟨(n:Int),_⟩ hp;obtain⟨h0,h1⟩: -100000000000000000 < n∧n < 0:=hp;change AWP _ _ _ _ _ ⟨[(0,⟨i64,n⟩)],[],0⟩ _;refine za (za ?_);refine zaa hX zi7 rfl ?_ ?_
   ·trivial
   refine za (za ?_);refine zaa hX zi7 rfl ?_ ?_
   ·trivial
   refine zae rfl (fun _=>?_) (fun hb=>?_)
   ·have i1:inR .i64 (-n):=zam (by omega) (by omega);have i2:0≤ -n:=by omega
    have i3: -n < 100000000000000000:=by omega
    have hl:(deI (-n)).length≤18:=zc9 (by omega) (by omega);have i4:1+(deI (-n)).length≤maxLen:=by unfold maxLen;omega
    refine za (za ?_);refine zaa hX zi7 rfl ?_ ?_
    ·exact⟨i1,i2,i3,i4⟩
    refine zl ⟨.inr rfl,zas rfl trivial rfl rfl ?_⟩;show [45]++deI (-n)=deI n;unfold deI kD;rw[if_neg (by omega),if_pos (by omega),show n.natAbs=(-n).toNat by omega];rfl
   ·have hb:decide (n < 0)=false:=hb;have:=of_decide_eq_false hb;omega
  have hneg:n < 0:=by omega
  exact key.2 w O _ vs hO hr ⟨h0,hneg⟩ hG
theorem bufN {te:TypeId} {x y:List Nd} (h:x=y):some (OObj.buf te nd x)=some (OObj.buf te nd y):=by rw[h]
def cOver:Ctr:={ args:=[.slice nd,nd],pre:=fun x=>[zg x.1≤1000000],res:=.slice nd,own:=none,out:=fun x=>zqL x.1 x.2.1 }
theorem zsN:yk Tryz.prog gmG 97 cOver:=by
 refine zal (K:=gmK) zaC Tryz.func97 rfl rfl Tryz.call97 rfl (by decide) (by intro h;cases h) ?_;rintro w0 X hX ⟨(r:List Nd),(n:Nd),_⟩ hp;have hl:r.length≤1000000:=hp;change AWP _ _ _ _ _ ⟨[(0,⟨.slice nd,r⟩),(1,⟨nd,n⟩)],[],0⟩ _;have i1:inR .i64 (((r.length:Nat):Int) - 1):=zam (by omega) (by omega);have i2:0+r.length≤1000000000:=by omega
 have i3:zg ([]++r)+1≤1000000000:=by rw[yV];omega
 refine za (za ?_);refine zaa hX zaC rfl ?_ ?_
 ·trivial
 refine za (za ?_);refine zaa hX zaC rfl ?_ ?_
 ·exact i1
 refine za (za ?_);refine zaa hX zaC rfl ?_ ?_
 ·exact i2
 refine za (za ?_);refine zaa hX zaC rfl ?_ ?_
 ·exact i3
 refine qx hX 4 ?_;refine zl ⟨.inr rfl,zas rfl trivial rfl rfl ?_⟩;rfl
def zsb:Ctr:={ args:=[.slice nd,i64],pre:=fun x=>[zg x.1≤1000000,0≤x.2.1,x.2.1≤1000000,∀ n∈(x.1:List Nd),(-1000000≤ndL n∧ndL n≤1000000)∧(-1000000≤ndR n∧ndR n≤1000000)],res:=.slice nd,own:=none,out:=fun x=>zd8 x.1 x.2.1 }
def kMvd:Kn:={ gmK with C:=[(94,cTwo)] }
theorem zc7:KnOk Tryz.prog gmG kMvd:=zaC.with (.cons zrR .nil)
theorem zqU:yk Tryz.prog gmG 148 zsb:=by
 refine zal (K:=kMvd) zc7 Tryz.func148 rfl rfl Tryz.call148 rfl (by decide) (by intro h;cases h) ?_;rintro w0 X hX ⟨(r:List Nd),(b:Int),_⟩ hp;obtain⟨hl,b0,b1,hn⟩:r.length≤1000000∧0≤b∧b≤1000000∧∀ n∈r,(-1000000≤ndL n∧ndL n≤1000000)∧(-1000000≤ndR n∧ndR n≤1000000):=hp;change AWP _ _ _ _ _ ⟨[(0,⟨.slice nd,r⟩),(1,⟨i64,b⟩)],[],0⟩ _;have i2:0+r.length≤1000000000:=by omega
 refine za (za ?_);refine zaa hX zc7 rfl ?_ ?_
 ·trivial
 refine za (za ?_);refine zaa hX zc7 rfl ?_ ?_
 ·exact i2
 refine za (za ?_);refine zaa hX zc7 rfl ?_ ?_
 ·trivial
 (repeat(first|apply zaf|apply zab|apply zac|apply zad));refine yi (ι:=Nat) (fun i=>⟨[(1,⟨i64,b⟩),(5,⟨.obuf nd,(0:Nat)⟩),(6,⟨i64,(i:Int)⟩)],[(0,some (.buf 73 nd ((r.take i).map (zcI b)++r.drop i)))],1⟩) (fun i=>i≤r.length) (fun i=>r.length - i) 0 (zn _) ⟨⟨rfl,rfl,rfl,trivial⟩,⟨bufN ?_,trivial⟩,rfl,rfl⟩ ?_
 ·rfl
 intro i hi;have hlen:((r.take i).map (zcI b)++r.drop i).length=r.length:=by rw[zh,jV,yC,List.length_drop];omega
 refine za (za ?_);refine zaa hX zc7 rfl ?_ ?_
 ·trivial
 refine zae rfl (fun hb=>?_) (fun hb=>?_)
 ·have hb:decide ((i:Int) < ((((r.take i).map (zcI b)++r.drop i).length:Nat):Int))=true:=hb;have hb:=of_decide_eq_true hb;rw[hlen]at hb;have hlt:i < r.length:=by omega
  have z0:(0:Int)≤(i:Int):=by omega
  have hdr:r.drop i=r[i]::r.drop (i+1):=yG hlt;have hpl:((r.take i).map (zcI b)).length=i:=by rw[jV,yC];omega
  obtain⟨⟨q1,q2⟩,⟨q3,q4⟩⟩:=hn r[i] (yZ hlt);rw[hdr]at hlen ⊢;have htk:(r.take (i+1)).map (zcI b)=(r.take i).map (zcI b)++ [zcI b r[i]]:=by rw[zH hlt,xQ];rfl
  generalize (r.take i).map (zcI b)=p at *;generalize hdq:r.drop (i+1)=q at *;generalize r[i]=n at *;have z1:(i:Int) < (((p++n::q).length:Nat):Int):=by rw[hlen];omega
  have z2:((i:Int)).toNat < (p++n::q).length:=by rw[hlen];omega
  have hget:(p++n::q).getD ((i:Int)).toNat zNd=n:=by
   have:=ziB (l:=p) (m:=n::q) (z:=zNd) (j:=0);rw[zz,show i=p.length+0 by omega,this];rfl
  have hset:∀ x,(p++n::q).set ((i:Int)).toNat x=p++x::q:=fun x=>by
   rw[zz,vj _ _ (by omega),show i - p.length=0 by omega];rfl
  have i3:inR .i64 (ndL n+b):=zam (by omega) (by omega);have i4:inR .i64 (ndR n+b):=zam (by omega) (by omega);have i3':inR .i64 (ndL ((p++n::q).getD ((i:Int)).toNat zNd)+b):=by rw[hget];exact i3
  refine za (za ?_);refine zaa hX zc7 rfl ?_ ?_
  ·repeat'(first|exact trivial|assumption|exact z0|exact z1|exact z2|(refine⟨?_,?_⟩)|(intro _)|exact zb rfl|exact zd _|(simp_all [allP];done))
  refine je (σ':=⟨[(1,⟨i64,b⟩),(5,⟨.obuf nd,(0:Nat)⟩),(6,⟨i64,(i:Int)⟩)],[(0,some (.buf 73 nd (p++(if 8≤ndK n∧ndK n≤17 then setL n (ndL n+b) else n)::q)))],1⟩) ?_ ?_
  ·have hq:(bif decide (ndK ((p++n::q).getD ((i:Int)).toNat zNd)≥8) then decide (ndK ((p++n::q).getD ((i:Int)).toNat zNd)≤17) else false)=decide (8≤ndK n∧ndK n≤17):=by
    rw[hget,zcS,zL,zf,decide_eq_true_iff,decide_eq_true_iff,decide_eq_true_iff]
   refine zae rfl (fun hc=>?_) (fun hc=>?_)
   ·have hc:=of_decide_eq_true (hq.symm.trans hc);refine za (za ?_);refine zaa hX zc7 rfl ?_ ?_
    ·repeat'(first|exact trivial|assumption|exact z0|exact z1|exact z2|exact i3'|(refine⟨?_,?_⟩)|(intro _)|exact zb rfl|exact zd _|(simp_all [allP];done))
    refine⟨⟨rfl,rfl,rfl,trivial⟩,⟨bufN ?_,trivial⟩,rfl,rfl⟩;refine (hset _).trans ?_;rw[if_pos hc];show p++(setL ((p++n::q).getD ((i:Int)).toNat zNd) (ndL ((p++n::q).getD ((i:Int)).toNat zNd)+b))::q=_;rw[hget]
   ·have hc:=of_decide_eq_false (hq.symm.trans hc);apply zab;rw[if_neg hc];exact⟨⟨rfl,rfl,rfl,trivial⟩,⟨rfl,trivial⟩,rfl,rfl⟩
  generalize hn1:(if 8≤ndK n∧ndK n≤17 then setL n (ndL n+b) else n)=n1;have hK:ndK n1=ndK n:=by rw[<-hn1];split<;>rfl
  have hR:ndR n1=ndR n:=by rw[<-hn1];split<;>rfl
  have hlen1:(p++n1::q).length=r.length:=by rw[<-hlen];simp
  have y1:(i:Int) < (((p++n1::q).length:Nat):Int):=by rw[hlen1];omega
  have y2:((i:Int)).toNat < (p++n1::q).length:=by rw[hlen1];omega
  have hget1:(p++n1::q).getD ((i:Int)).toNat zNd=n1:=by
   have:=ziB (l:=p) (m:=n1::q) (z:=zNd) (j:=0);rw[zz,show i=p.length+0 by omega,this];rfl
  have hset1:∀ x,(p++n1::q).set ((i:Int)).toNat x=p++x::q:=fun x=>by
   rw[zz,vj _ _ (by omega),show i - p.length=0 by omega];rfl
  have i4':inR .i64 (ndR ((p++n1::q).getD ((i:Int)).toNat zNd)+b):=by rw[hget1,hR];exact i4
  refine za (za ?_);refine zaa hX zc7 rfl ?_ ?_
  ·repeat'(first|exact trivial|assumption|exact z0|exact y1|exact y2|(refine⟨?_,?_⟩)|(intro _)|exact zb rfl|exact zd _|(simp_all [allP];done))
  have hmv:zcI b n=if two (ndK n)=true then zeh n1 (ndL n1) (ndR n1+b) else n1:=by
   rw[<-hn1];unfold zcI;obtain⟨k,c,L,R,rest⟩:=n;by_cases h8:8≤k∧k≤17
   ·rw[if_pos h8,if_pos (c:=8≤ndK (k,c,L,R,rest)∧ndK (k,c,L,R,rest)≤17) h8];cases ht:two k with
    |true=>rw[if_pos (c:=two (ndK (k,c,L,R,rest))=true) ht];rfl
    |false=>rw[if_neg (c:=two (ndK (k,c,L,R,rest))=true) (by show ¬ two k=true;rw[ht];decide)];rfl
   ·rw[if_neg h8,if_neg (c:=8≤ndK (k,c,L,R,rest)∧ndK (k,c,L,R,rest)≤17) h8];cases ht:two k with
    |true=>rw[if_pos (c:=two (ndK (k,c,L,R,rest))=true) ht];rfl
    |false=>rw[if_neg (c:=two (ndK (k,c,L,R,rest))=true) (by show ¬ two k=true;rw[ht];decide)];rfl
  have hq:two (ndK ((p++n1::q).getD ((i:Int)).toNat zNd))=two (ndK n):=by rw[hget1,hK]
  refine zae rfl (fun hc=>?_) (fun hc=>?_)
  ·have hc:=hq.symm.trans hc;refine za (za ?_);refine zaa hX zc7 rfl ?_ ?_
   ·repeat'(first|exact trivial|assumption|exact z0|exact y1|exact y2|exact i4'|(refine⟨?_,?_⟩)|(intro _)|exact zb rfl|exact zd _|(simp_all [allP];done))
   refine za (za ?_);refine zaa hX zc7 rfl ?_ ?_
   ·exact zaF (by omega)
   refine⟨i+1,hlt,by omega,⟨rfl,rfl,zbY _,trivial⟩,⟨bufN ?_,trivial⟩,rfl,rfl⟩;refine (hset1 _).trans ?_;rw[htk,hmv,if_pos hc,zu,hdq];show p++(zeh ((p++n1::q).getD ((i:Int)).toNat zNd) (ndL ((p++n1::q).getD ((i:Int)).toNat zNd)) (ndR ((p++n1::q).getD ((i:Int)).toNat zNd)+b))::q=_;rw[hget1];rfl
  ·have hc:=hq.symm.trans hc;apply zab;refine za (za ?_);refine zaa hX zc7 rfl ?_ ?_
   ·exact zaF (by omega)
   refine⟨i+1,hlt,by omega,⟨rfl,rfl,zbY _,trivial⟩,⟨bufN ?_,trivial⟩,rfl,rfl⟩;rw[htk,hmv,if_neg (by rw[hc];decide),zu,hdq];rfl
 ·have hb:decide ((i:Int) < ((((r.take i).map (zcI b)++r.drop i).length:Nat):Int))=false:=hb;have hb:=of_decide_eq_false hb;rw[hlen]at hb;obtain rfl:i=r.length:=by omega
  apply zad;refine qx hX 5 ?_;refine za (za ?_);refine zaa hX zc7 rfl ?_ ?_
  ·trivial
  refine zl ⟨.inr rfl,zas rfl trivial rfl rfl ?_⟩;show (r.take r.length).map (zcI b)++r.drop r.length=zd8 r b;rw[xx,jf,zS];rfl
def cBoth:Ctr:={ args:=[.slice nd,.slice nd,nd],pre:=fun x=>[1≤zg x.1,zg x.1≤100000,zg x.2.1≤100000,∀ n∈(x.2.1:List Nd),(-1000000≤ndL n∧ndL n≤1000000)∧(-1000000≤ndR n∧ndR n≤1000000)],res:=.slice nd,own:=none,out:=fun x=>zrO x.1 x.2.1 x.2.2.1 }
def kBth:Kn:={ gmK with C:=[(148,zsb)] }
theorem zfa:KnOk Tryz.prog gmG kBth:=zaC.with (.cons zqU .nil)
theorem ztT:yk Tryz.prog gmG 95 cBoth:=by
 refine zal (K:=kBth) zfa Tryz.func95 rfl rfl Tryz.call95 rfl (by decide) (by intro h;cases h) ?_;rintro w0 X hX ⟨(a:List Nd),(c:List Nd),(n:Nd),_⟩ hp;obtain⟨h1,hl,hl2,hn⟩:1≤a.length∧a.length≤100000∧c.length≤100000∧∀ n∈c,(-1000000≤ndL n∧ndL n≤1000000)∧(-1000000≤ndR n∧ndR n≤1000000):=hp;change AWP _ _ _ _ _ ⟨[(0,⟨.slice nd,a⟩),(1,⟨.slice nd,c⟩),(2,⟨nd,n⟩)],[],0⟩ _;have i1:inR .i64 (((a.length:Nat):Int) - 1):=zam (by omega) (by omega);have i2:inR .i64 (((a.length:Nat):Int)+((c.length:Nat):Int)):=zam (by omega) (by omega);have i3:inR .i64 (((a.length:Nat):Int)+((c.length:Nat):Int) - 1):=zam (by omega) (by omega);have i4:0+a.length≤1000000000:=by omega
 have i5:c.length≤1000000:=by omega
 have i6:(0:Int)≤((a.length:Nat):Int):=by omega
 have i7:((a.length:Nat):Int)≤1000000:=by omega
 have hml:(zd8 c ((a.length:Nat):Int)).length=c.length:=by unfold zd8;rw[jV]
 have i8:zg ([]++a)+(zd8 c ((a.length:Nat):Int)).length≤1000000000:=by rw[yV];omega
 have i9:zg ([]++a++zd8 c ((a.length:Nat):Int))+1≤1000000000:=by rw[yV,zh];omega
 refine za (za ?_);refine zaa hX zfa rfl ?_ ?_
 ·trivial
 refine za (za ?_);refine zaa hX zfa rfl ?_ ?_
 ·exact i1
 refine za (za ?_);refine zaa hX zfa rfl ?_ ?_
 ·exact⟨i2,i3⟩
 refine za (za ?_);refine zaa hX zfa rfl ?_ ?_
 ·exact i4
 refine za (za ?_);refine zaa hX zfa rfl ?_ ?_
 ·exact⟨i5,i6,i7,hn,i8⟩
 refine za (za ?_);refine zaa hX zfa rfl ?_ ?_
 ·exact i9
 refine qx hX 6 ?_;refine zl ⟨.inr rfl,zas rfl trivial rfl rfl ?_⟩;rfl
def cGcd2:Ctr:={ args:=[i64,i64],pre:=fun x=>[0≤x.1,x.1≤1000000,0≤x.2.1,x.2.1≤1000000],res:=i64,own:=none,out:=fun x=>((yS x.1.toNat x.2.1.toNat:Nat):Int) }
theorem ztm:yk Tryz.prog gmG 154 cGcd2:=by
 refine zal (K:=gmK) zaC Tryz.func154 rfl rfl Tryz.call154 rfl (by decide) (by intro h;cases h) ?_;rintro w0 X hX ⟨(a:Int),(b:Int),_⟩ hp;obtain⟨ha,ha',hb,hb'⟩:0≤a∧a≤1000000∧0≤b∧b≤1000000:=hp;change AWP _ _ _ _ _ ⟨[(0,⟨i64,a⟩),(1,⟨i64,b⟩)],[],0⟩ _;refine za (za ?_);refine zaa hX zaC rfl ?_ ?_
 ·trivial
 (repeat(first|apply zaf|apply zab|apply zac|apply zad));refine yi (ι:=Nat×Nat) (fun p=>⟨[(0,⟨i64,(p.1:Int)⟩),(1,⟨i64,(p.2:Int)⟩)],[],0⟩) (fun p=>yS p.1 p.2=yS a.toNat b.toNat) (fun p=>p.2) (a.toNat,b.toNat) rfl ⟨⟨vI64 (xz ha).symm,vI64 (xz hb).symm,trivial⟩,trivial,rfl,rfl⟩ ?_;rintro ⟨x,y⟩ hg;have hg:yS x y=yS a.toNat b.toNat:=hg;refine za (za ?_);refine zaa hX zaC rfl ?_ ?_
 ·trivial
 refine zae rfl (fun hc=>?_) (fun hc=>?_)
 ·have hc:((y:Int) != 0)=true:=hc;have hy:(y:Int)≠0:=by simpa using hc
  refine za (za ?_);refine zaa hX zaC rfl ?_ ?_
  ·exact hy
  refine za (za ?_);refine zaa hX zaC rfl ?_ ?_
  ·trivial
  refine za (za ?_);refine zaa hX zaC rfl ?_ ?_
  ·trivial
  have hy0:0 < y:=by omega
  refine⟨(y,x % y),?_,uj _ hy0,⟨rfl,vI64 rfl,trivial⟩,trivial,rfl,rfl⟩;show yS y (x % y)=_;rw[<-hg,kM y, <-Nat.gcd_rec,kM]
 ·have hc:((y:Int) != 0)=false:=hc;have hy:y=0:=by
   have:(y:Int)=0:=by simpa using hc
   omega
  apply zad;(repeat(first|apply zaf|apply zab|apply zai|apply zad|apply zac|refine zaa hX zaC rfl trivial ?_|refine zaa hX zaC rfl id ?_|refine zaa hX zaC rfl ⟨id,id⟩ ?_));refine zl ⟨.inr rfl,zas rfl trivial rfl rfl ?_⟩;show (x:Int)=((yS a.toNat b.toNat:Nat):Int);rw[<-hg,hy,Nat.gcd_zero_right]
theorem zeZ {a b:Bool} (ha:a=false) (hb:b=false):(bif a then true else b)=false:=by rw[ha,hb];rfl
def zsf:Ctr:={ args:=[cal],pre:=fun x=>[zgE x.1],res:=.bool,own:=none,out:=fun _=>true }
def kCv2:Kn:={ gmK with C:=[(154,cGcd2)] }
theorem zbW:KnOk Tryz.prog gmG kCv2:=zaC.with (.cons ztm .nil)
end
end Go.Proofs.YtpeaigpfddalcaaGreatDoor
