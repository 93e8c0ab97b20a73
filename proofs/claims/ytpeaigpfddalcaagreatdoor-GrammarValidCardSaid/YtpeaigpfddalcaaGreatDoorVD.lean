/-
  Texts of this claim, joined: what the statement's proof uses.
-/
import Derived.Test.YtpeaigpfddalcaaGreatDoorVC
set_option linter.unusedSimpArgs false
set_option linter.unusedVariables false
set_option maxRecDepth 100000
open Array renaming toList -> vh
open BitVec renaming ofInt -> yC,ofNat -> zY
open Bool renaming and_eq_false_iff -> ji,and_eq_true -> zb,and_false -> xP,eq_false_iff -> qf,eq_iff_iff -> yz,false_and -> vD,false_ne_true -> yG,false_or -> xr,not_eq_false' -> y8,not_eq_true' -> zy,or_eq_false_iff -> x9,or_eq_true -> ya,or_false -> xW,or_true -> xX,true_or -> qO
open Go.Lib renaming decDigits -> xu
open Go.Operand renaming const -> vY
open Go.Proofs.YtpeaigpfddalcaaGreatDoor renaming CtrOk -> yM
open Go.Proofs.YtpeaigpfddalcaaGreatDoor.AL renaming nil -> z6,own -> yc,step -> jy,take -> yA
open Go.Proofs.YtpeaigpfddalcaaGreatDoor.AWP renaming frz -> jw,go -> za,len -> jU,loop -> yB,ret -> zq,via -> xz
open Go.Proofs.YtpeaigpfddalcaaGreatDoor.OpEq renaming refl -> xA
open Go.Proofs.YtpeaigpfddalcaaGreatDoor.StepA renaming eval -> yZ
open Go.Proofs.YtpeaigpfddalcaaGreatDoor.Tok renaming cls -> zB,n -> xO,size -> xB,text -> zE
open Go.Proofs.YtpeaigpfddalcaaGreatDoor.Tr renaming len_flat -> js
open Go.Utf8 renaming decode -> kD
open Go.Value renaming int -> yl
open Go.Value.agg renaming inj -> vV
open Int renaming le_refl -> qN,natCast_nonneg -> zu,toNat_natCast -> zL,toNat_of_nonneg -> qh,zero_add -> k6
open List renaming all_eq_true -> zV,any_eq_false -> vR,any_eq_true -> jz,append_assoc -> zr,append_nil -> zJ,cons_append -> y9,drop_drop -> xj,drop_left -> xh,drop_length -> j2,filterMap_append -> jX,filterMap_cons -> vf,findIdx_getElem -> kB,foldl_append -> qP,getD_eq_getElem?_getD -> zM,getElem?_append_left -> y6,getElem?_append_right -> xn,getElem?_drop -> ja,getElem?_eq_getElem -> zR,getElem?_set -> k7,getElem_mem -> xv,length -> zd,length_append -> zh,length_cons -> zs,length_nil -> z7,length_pos_iff -> ql,length_replicate -> xF,length_singleton -> yH,length_take -> ym,mem_append -> yp,mem_cons -> zX,mem_cons_of_mem -> yO,mem_cons_self -> z8,mem_of_getElem? -> yE,mem_of_mem_take -> qM,mem_range -> yk,mem_singleton -> zv,nil_append -> yN,range -> yP,replicate -> zp,replicate_append_replicate -> qR,takeWhile_append_of_pos -> je,takeWhile_cons -> xQ,take_append_drop -> yy,take_eq_nil_iff -> kC,take_left -> xi,take_length -> xc,take_succ_eq_append_getElem -> zH
open Nat renaming add_sub_cancel -> vC,gcd -> xR,gcd_pos_of_pos_right -> vX,lcm -> jc,le_of_ble_eq_true -> zf,le_refl -> zk,le_trans -> zQ,min_eq_left -> yh,mul_div_cancel_left -> kf,not_lt_zero -> xp,zero_add -> yu,zero_le -> zl
open Option.some renaming inj -> zN
open UInt8 renaming le_iff_toNat_le -> yS,ofNat -> yI,ofNat_toNat -> vO
open Go Go.RowKit
namespace Go.Proofs.YtpeaigpfddalcaaGreatDoor
section
theorem zn2:zaA Tryz.prog gmH 100 cPut:=by
 refine zat (K:=_) zb7 Tryz.func100 rfl rfl (zce rfl) Tryz.call100 rfl (zf rfl) (zdt prT [107]) ?_;rintro w0 ⟨G,O,K,fix,D,ρ,B⟩ ty hX hG hK hρ hD hinv ⟨(b:Bool),(bf:List UInt8),(r:List Nd),⟨⟩⟩ ⟨(s:List UInt8),(l:List Int),⟨⟩⟩ hp;obtain rfl:G=gmH:=hG;obtain rfl:K=1:=hK;obtain rfl:ρ=none:=hρ;obtain rfl:D=[]:=hD;have hI:=fun w R hR hw=>(⟨zaE (ty:=ty) hX rfl hinv.1 (ty':=ty) w R hR hw,hinv.2⟩:bInv prT [107] w R ty);obtain⟨hlen,hnum⟩:bf.length+s.length+19 * l.length≤1000000000∧∀ n∈l,zbY n:=hp;change AWP _ _ _ _ _ ⟨[(0,⟨.hptr,((0:Nat),(0:Nat))⟩),(1,⟨.str,s⟩),(2,⟨.slice i64,l⟩)],wE ty b bf r,2⟩ (wQ _ cPut ty (.ok ((),(true,((bf++(s++zdY l):List UInt8),(r,()))))));have hl0:bf.length+s.length≤1000000000:=by omega
 refine xz (σ':=⟨[(0,⟨.hptr,((0:Nat),(0:Nat))⟩),(2,⟨.slice i64,l⟩)],wE ty true ((bf++s:List UInt8)) r,2⟩) ?_ ?_
 ·cases b
  all_goals
   refine zaj ?_;refine yA 2 hX zb7 rfl trivial ?_;refine jy (eqP0 _ _ rfl) hX zb7 rfl trivial ?_;refine yc 1 hX zb7 zlR rfl trivial rfl rfl hl0 hI ?_;exact z6 ⟨⟨rfl,rfl,trivial⟩,⟨rfl,rfl,trivial⟩,rfl,rfl⟩
 refine za (za ?_);refine zaa hX zb7 rfl ?_ ?_
 ·trivial
 apply zab;refine yB (ι:=Nat) (fun i=>⟨[(0,⟨.hptr,((0:Nat),(0:Nat))⟩),(13,⟨.slice i64,l⟩),(14,⟨i64,((l.length:Nat):Int)⟩),(15,⟨i64,(i:Int)⟩)],wE ty true ((bf++s++zdY (l.take i):List UInt8)) r,2⟩) (fun i=>i≤l.length) (fun i=>l.length - i) 0 (zl _) ⟨⟨rfl,rfl,rfl,rfl,trivial⟩,⟨rfl,bufU (by show bf++s=bf++s++ [];rw[zJ]),trivial⟩,rfl,rfl⟩ ?_;intro i hi;refine za (za ?_);refine zaa hX zb7 rfl ?_ ?_
 ·trivial
 apply zae;refine zai rfl (fun hb=>?_) (fun hb=>?_)
 ·have hb:decide ((i:Int) < ((l.length:Nat):Int))=true:=hb;have hb:=of_decide_eq_true hb;have hil:i < l.length:=by omega
  have n0:(0:Int)≤(i:Int):=by omega
  have hat:l.getD ((i:Int)).toNat 0=l[i]:=zaM hil;have hn:zbY (l.getD ((i:Int)).toNat 0):=by rw[hat];exact hnum _ (xv hil)
  have hd:=zhk hn.1 hn.2;have ht:zd (l.take i)≤i:=by rw[ym];omega
  have hnt:=zbz (l:=l.take i) fun n hm=>hnum n (qM hm);have hbl:zd (bf++s++zdY (l.take i):List UInt8)+zd (32::deI (l.getD ((i:Int)).toNat 0):List UInt8)≤1000000000:=by
   rw[zh,zh,zs];omega
  have hcat:1+zd (deI (l.getD ((i:Int)).toNat 0))≤maxLen:=by unfold maxLen;omega
  apply zac;apply zae;apply zab;refine za (za ?_);refine zaa hX zb7 rfl ?_ ?_
  ·exact⟨n0,hb⟩
  refine AWP.mono (Q:=fun e sg=>e= .normal∧Fit sg ⟨[(0,⟨.hptr,((0:Nat),(0:Nat))⟩),(13,⟨.slice i64,l⟩),(14,⟨i64,((l.length:Nat):Int)⟩),(15,⟨i64,(i:Int)⟩)],wE ty true ((bf++s++zdY (l.take i)++(32::deI (l.getD ((i:Int)).toNat 0)):List UInt8)) r,2⟩) ?_ ?_
  ·refine AWP.ordersA dM 7 rfl (by kernel_rfl) ?_
   repeat'(first
    |exact AllN.nil
    |refine AllN.cons ⟨_,rfl,?_⟩ ?_
    |refine yZ hX zb7 rfl trivial ?_
    |refine yZ hX zb7 rfl (by exact hn) ?_
    |refine yZ hX zb7 rfl (by exact hcat) ?_
    |refine StepA.step (eqP0 _ _ rfl) hX zb7 rfl trivial ?_
    |refine StepA.own hX zlR rfl (by exact hbl) hI ?_
    |(refine OrdA.last ?_;exact⟨rfl,⟨rfl,rfl,rfl,rfl,trivial⟩,⟨rfl,rfl,trivial⟩,rfl,rfl⟩))
  ·rintro e s' ⟨rfl,hf⟩;have q0:inR .i64 ((i:Int)+1):=zav (by omega) (by omega);refine zap hf ?_ (by exact zf rfl);refine za (za ?_);refine zaa hX zb7 rfl ?_ ?_
   ·exact q0
   refine⟨i+1,hil,by omega,⟨rfl,rfl,rfl,vI64 (by omega),trivial⟩,⟨rfl,bufU ?_,trivial⟩,rfl,rfl⟩;rw[hat,zH hil,zmQ, <-zr]
 ·have hb:decide ((i:Int) < ((l.length:Nat):Int))=false:=hb;have hb:=of_decide_eq_false hb;obtain rfl:i=l.length:=by omega
  rw[show (bf++(s++zdY l):List UInt8)=bf++s++zdY (l.take l.length) from by rw[xc,zr]];apply zad;exact⟨.inl rfl,⟨_,rfl,u8,1,_,rfl,rfl,rfl⟩,zba (by decide) rfl rfl trivial rfl⟩
section
variable {P:Program} {K:Kn} {w0:World} {X:Ownr} {n:Nat} {σ:AS} {Q:Exit->AS->Prop} {ops:Array Oper}
theorem AWP.drawT {l':List Oper} (heq':OpsI P ops.toList l') (hm:P.follows .mixedOrders=true) (hX:X.Ok w0) (hK:KnOk P X.G K) {id:Nat} (m:Nat) (hB:zj0 l'.toArray m=true) {r1:List Prop×AS} (h1:zhL K n l'.toArray (l'.take m) σ=some r1) (hp1:allP r1.1) {o:Oper} (ho:l'.drop m=[o]) (hgd:o.guard=none)
  (hstep:∀ β a w,Sim w0 X n r1.2 β a w->o.wp P a w (fun a' w'=>∃ σ' β',Sim w0 X n σ' β' a' w'∧Q .normal σ') (fun e a' w'=>e≠ .outgrown∧∃ σ' β',Sim w0 X n σ' β' a' w'∧Q e σ')) (hd:zbg ops.toList=true:=by rfl):AWP P w0 X n (.region id ops true) σ Q:=fun β a w h=>by
 have heq:OpsEq P ops.toList l'.toArray.toList:=heq'.eq;have hnl:¬ LetsOut (fun e a' w'=>e≠ .outgrown∧∃ σ' β',Sim w0 X n σ' β' a' w'∧Q e σ'):=fun⟨_,_,h,_⟩=>h rfl;exact Go.wpIn_mono (wpIn_region_any hm (zbm (R:=fun e a' w'=>e≠ .outgrown∧∃ σ' β',Sim w0 X n σ' β' a' w'∧Q e σ') hnl hd _ (by
  rw[(ziB heq).1];exact zmk heq hnl _ (zke hK hX h hB h1 hp1 fun a' w' hs=>by
   rw[show (l'.toArray.toList).drop m=[o] from ho];refine wpList_plain hgd fun K' hK'=>Oper.wp_mono (fun a2 w2 ⟨σ',β',h3,h4⟩=>hK' a2 w2 ⟨(fun h=>by cases h),σ',β',h3,h4⟩) (hstep β a' w' hs))))) fun e a w h=>h.2
theorem AWP.drawOwn {C:List (FuncId×HCtr)} {l':List Oper} (heq':OpsI P ops.toList l') (hm:P.follows .mixedOrders=true) (hX:X.Ok w0) (hK:KnOk P X.G K) (hC:HsOk P X.G C) {id:Nat} (m:Nat) (hB:zj0 l'.toArray m=true) {r1:List Prop×AS} (h1:zhL K n l'.toArray (l'.take m) σ=some r1) (hp1:allP r1.1) {o:Oper} (ho:l'.drop m=[o]) (hgd:o.guard=none)
  {s:HSite} (hsite:zm0 C n o r1.2=some s) (hq:allP s.q) (hinv:∀ w R,(∀ g,R g->w0.heap.size≤g∨X.R g)->X.G w->s.c.inv w R s.ty) (h:zlj (fun y x'=>Q .normal (s.next y x')) (fun pv=>Q (.panic [{ v:=pv,recovered:=false }]) s.lost) (s.c.out s.x s.xs)) (hd:zbg ops.toList=true:=by rfl):AWP P w0 X n (.region id ops true) σ Q:=
 AWP.drawT heq' hm hX hK m hB h1 hp1 ho hgd (fun β a w hsim=>ziO (N:=fun σ'=>Q .normal σ') hX hC hsite hq hinv h β a w hsim) hd
end
def sepS (i:Nat):List UInt8:=if i=0 then [32,40] else [32]
def litS:Nat->List Int->List UInt8
 |_,[]=>[]
 |i,n::r=>sepS i++deI n++litS (i+1) r
def zb6 (l:List Int):List UInt8:=litS 0 l++ [41]
theorem zjO (n:Int):∀ (l:List Int) (i:Nat),litS i (l++ [n])=litS i l++(sepS (i+l.length)++deI n)
 | [],i=>by
  show sepS i++deI n++ []=[]++(sepS (i+0)++deI n);rw[zJ];rfl
 |m::l,i=>by
  show sepS i++deI m++litS (i+1) (l++ [n])=sepS i++deI m++litS (i+1) l++_;rw[zjO n l (i+1),zr (sepS i++deI m),zs,show i+1+l.length=i+(l.length+1) by omega]
theorem zlr (i:Nat):(sepS i).length≤2:=by
 unfold sepS;split
 ·exact zk _
 ·exact Nat.le_succ _
theorem zfb:∀ (l:List Int) (i:Nat),(∀ n∈l,zbY n)->(litS i l).length≤20 * l.length
 | [],i,_=>zk _
 |n::l,i,h=>by
  have h1:=zhk (h n (z8 ..)).1 (h n (z8 ..)).2;have h2:=zfb l (i+1) fun m hm=>h m (yO _ hm);have h3:=zlr i;show (sepS i++deI n++litS (i+1) l).length≤_;rw[zh,zh,zs];omega
@[reducible] def zme:HCtr:=hW [ints] (fun x xs=>[zd x.2.1+20 * zd xs.1+1≤1000000000,∀ n∈xs.1,zbY n]) fun x xs=>zb6 xs.1
theorem zlK:zaA Tryz.prog gmH 150 zme:=by
 refine zat (K:=_) zb7 Tryz.func150 rfl rfl (zce rfl) Tryz.call150 rfl (zf rfl) (zdt prT [107]) ?_;rintro w0 ⟨G,O,K,fix,D,ρ,B⟩ ty hX hG hK hρ hD hinv ⟨(b:Bool),(bf:List UInt8),(r:List Nd),⟨⟩⟩ ⟨(l:List Int),⟨⟩⟩ hp;obtain rfl:G=gmH:=hG;obtain rfl:K=1:=hK;obtain rfl:ρ=none:=hρ;obtain rfl:D=[]:=hD;have hI:=fun w R hR hw=>(⟨zaE (ty:=ty) hX rfl hinv.1 (ty':=ty) w R hR hw,hinv.2⟩:bInv prT [107] w R ty);obtain⟨hlen,hnum⟩:bf.length+20 * l.length+1≤1000000000∧∀ n∈l,zbY n:=hp;change AWP _ _ _ _ _ ⟨[(0,⟨.hptr,((0:Nat),(0:Nat))⟩),(1,⟨.slice i64,l⟩)],wE ty b bf r,2⟩ (wQ _ zme ty (.ok ((),(true,((bf++zb6 l:List UInt8),(r,()))))));refine za (za ?_);refine zaa hX zb7 rfl ?_ ?_
 ·trivial
 apply zab;refine yB (ι:=Nat) (fun i=>⟨[(0,⟨.hptr,((0:Nat),(0:Nat))⟩),(6,⟨.slice i64,l⟩),(7,⟨i64,((l.length:Nat):Int)⟩),(8,⟨i64,(i:Int)⟩)],wE ty (b||decide (0 < i)) ((bf++litS 0 (l.take i):List UInt8)) r,2⟩) (fun i=>i≤l.length) (fun i=>l.length - i) 0 (zl _) ⟨⟨rfl,rfl,rfl,rfl,trivial⟩,⟨by cases b<;>rfl,bufU (by show bf=bf++ [];rw[zJ]),trivial⟩,rfl,by cases b<;>rfl⟩ ?_;intro i hi;obtain⟨b',hb'⟩:∃ b',b'=(b||decide (0 < i)):=⟨_,rfl⟩;rw[<-hb'];refine za (za ?_);refine zaa hX zb7 rfl ?_ ?_
 ·trivial
 apply zae;refine zai rfl (fun hb=>?_) (fun hb=>?_)
 ·have hb:decide ((i:Int) < ((l.length:Nat):Int))=true:=hb;have hb:=of_decide_eq_true hb;have hil:i < l.length:=by omega
  have n0:(0:Int)≤(i:Int):=by omega
  have hat:l.getD ((i:Int)).toNat 0=l[i]:=zaM hil;have hn:zbY (l.getD ((i:Int)).toNat 0):=by rw[hat];exact hnum _ (xv hil)
  have hd:=zhk hn.1 hn.2;have ht:zd (l.take i)=i:=by rw[ym];omega
  have hnt:=zfb (l.take i) 0 fun n hm=>hnum n (qM hm);have hs:=zlr i;have hbl:zd (bf++litS 0 (l.take i):List UInt8)+zd (sepS i++deI (l.getD ((i:Int)).toNat 0):List UInt8)≤1000000000:=by
   rw[zh,zh];omega
  apply zac;apply zae;apply zab;refine za (za ?_);refine zaa hX zb7 rfl ?_ ?_
  ·exact⟨n0,hb⟩
  refine AWP.mono (Q:=fun e sg=>e= .normal∧Fit sg ⟨[(0,⟨.hptr,((0:Nat),(0:Nat))⟩),(6,⟨.slice i64,l⟩),(7,⟨i64,((l.length:Nat):Int)⟩),(8,⟨i64,(i:Int)⟩)],wE ty true ((bf++litS 0 (l.take i)++(sepS i++deI (l.getD ((i:Int)).toNat 0)):List UInt8)) r,2⟩) ?_ ?_
  ·have hsep:([[32,40],[32]]:List (List UInt8)).getD (min (i:Int) 1).toNat []=sepS i:=by
    cases i with
    |zero=>rfl
    |succ k=>
     rw[show min (((k+1:Nat)):Int) 1=1 by omega];rfl
   have m0:(0:Int)≤min (i:Int) 1:=by omega
   have m1:min (i:Int) 1 < ((2:Nat):Int):=by omega
   have m2:(min (i:Int) 1).toNat < 2:=by omega
   have hcat:zd (([[32,40],[32]]:List (List UInt8)).getD (min (i:Int) 1).toNat [])+zd (deI (l.getD ((i:Int)).toNat 0))≤maxLen:=by rw[hsep];unfold maxLen;omega
   have hbl2:zd (bf++litS 0 (l.take i):List UInt8)+zd (([[32,40],[32]]:List (List UInt8)).getD (min (i:Int) 1).toNat []++deI (l.getD ((i:Int)).toNat 0):List UInt8)≤1000000000:=by rw[hsep];exact hbl
   rw[<-hsep];cases b'
   all_goals
    refine AWP.drawOwn (.cons (xA _) <| .cons (xA _) <| .cons (eqP0 _ _ rfl) <| .cons (xA _) <| .cons (xA _) <| .cons (xA _) <| .cons (xA _) <| .cons (xA _) <| .cons (xA _) <| .cons (xA _) <| .cons (xA _) <| .cons (xA _) .nil) dM hX zb7 zlR 11 (by kernel_rfl) rfl ?_ rfl rfl rfl ?_ hI ?_
    ·exact⟨m0,m1,hn,hcat⟩
    ·exact hbl2
    ·exact⟨rfl,⟨rfl,rfl,rfl,rfl,trivial⟩,⟨rfl,rfl,trivial⟩,rfl,rfl⟩
  ·rintro e s' ⟨rfl,hf⟩;have q0:inR .i64 ((i:Int)+1):=zav (by omega) (by omega);have ht1:(b||decide (0 < i+1))=true:=by simp
   refine zap hf ?_ (by exact zf rfl);refine za (za ?_);refine zaa hX zb7 rfl ?_ ?_
   ·exact q0
   refine⟨i+1,hil,by omega,?_⟩;rw[ht1];refine⟨⟨rfl,rfl,rfl,vI64 (by omega),trivial⟩,⟨rfl,bufU ?_,trivial⟩,rfl,rfl⟩;rw[hat,zH hil,zjO,ht,yu,zr]
 ·have hb:decide ((i:Int) < ((l.length:Nat):Int))=false:=hb;have hb:=of_decide_eq_false hb;obtain rfl:i=l.length:=by omega
  have hnt:=zfb (l.take l.length) 0 fun n hm=>hnum n (qM hm);have hlt:=xc (l:=l);rw[hlt]at hnt;have hbl:zd (bf++litS 0 (l.take l.length):List UInt8)+zd ([41]:List UInt8)≤1000000000:=by
   rw[hlt,zh];show bf.length+_+1≤_;omega
  rw[show (bf++zb6 l:List UInt8)=bf++litS 0 (l.take l.length)++ [41] from by rw[hlt,zr];rfl];apply zad;cases b'
  all_goals
   show AWP _ _ _ _ _ _ _;refine zaj ?_;refine yA 2 hX zb7 rfl trivial ?_;refine jy (eqP0 _ _ rfl) hX zb7 rfl trivial ?_;refine yc 0 hX zb7 zlR rfl trivial rfl rfl hbl hI ?_;refine z6 ?_;exact⟨.inl rfl,⟨_,rfl,u8,1,_,rfl,rfl,rfl⟩,zba (by decide) rfl rfl trivial rfl⟩
def wAt:List UInt8:=[64]
def spW (w:List UInt8):List UInt8:=32::w
def ndK (n:Nd):Int:=n.1
def ndC (n:Nd):Int:=n.2.1
def ndL (n:Nd):Int:=n.2.2.1
def ndR (n:Nd):Int:=n.2.2.2.1
def ndN (n:Nd):Int:=n.2.2.2.2.1
def ndM (n:Nd):Int:=n.2.2.2.2.2.1
def ndI (n:Nd):List Int:=n.2.2.2.2.2.2.1
def ndS (n:Nd):List UInt8:=n.2.2.2.2.2.2.2.1
def zd9 (n:Nd):List UInt8:=
 if ndK n=1 then putS zjg [ndN n,ndM n]
 else if ndK n=2 then putS zfY [ndC n,ndN n,ndM n]
 else if ndK n=3 then putS zcm [ndC n]++zb6 (ndI n)
 else if ndK n=4 then putS za6 [ndC n]++zb6 (ndI n)
 else if ndK n=5 then putS zbo []++zb6 (ndI n)
 else if ndK n=6 then putS zdm [ndC n]++zb6 (ndI n)
 else if ndK n=7 then putS wNth [ndC n,ndN n,ndM n]++putS (zcp (ndL n)) []
 else if ndK n=18 then putS (wAt++ndS n) []
 else []
def zcB (b:List UInt8) (n:Nd):List UInt8:=
 if ndK n=11 then putS (spW zeR) [ndN n]
 else if ndK n=12 then putS (spW zii) [ndN n]
 else if ndK n=13 then putS (spW zeQ) [ndN n]
 else if ndK n=14 then putS (spW zeT) []++zb6 (ndI n)
 else if ndK n=15 then putS (spW zcn) []++zb6 (ndI n)
 else if ndK n=16 then putS (spW wPos) [ndC n]++(putS (zcp (ndM n)) []++zb6 (ndI n))
 else if ndK n=17 then putS (spW zbX) [ndN n]++(putS (spW wOf++ [32]) []++b)
 else []
def opWd (x:Int):List UInt8:=(opsL.getD (x - 1).toNat ([],0,())).1
def zau (r:List Nd) (i:Int):Nd:=r.getD i.toNat zNd
def parS (c:Bool) (t:List UInt8):List UInt8:=if c then t else [40]++(t++ [41])
def zcR:Nat->List Nd->Int->List UInt8
 |0,_,_=>[]
 |k+1,r,i=>
  if levS (ndK (zau r i)) < 4 then
   parS (decide (levS (ndK (zau r (ndL (zau r i))))≥levS (ndK (zau r i)))) (zcR k r (ndL (zau r i)))++(putS ([32]++opWd (levS (ndK (zau r i)))++ [32]) []++parS (decide (levS (ndK (zau r (ndR (zau r i))))≥levS (ndK (zau r i))+1)) (zcR k r (ndR (zau r i))))
  else if levS (ndK (zau r i))=4 then
   parS (decide (levS (ndK (zau r (ndL (zau r i))))≥4)) (zcR k r (ndL (zau r i)))++zcB (parS (decide (levS (ndK (zau r (ndR (zau r i))))≥5)) (zcR k r (ndR (zau r i)))) (zau r i)
  else zd9 (zau r i)
def opdF (k:Nat) (r:List Nd) (i req:Int):List UInt8:=parS (decide (levS (ndK (zau r i))≥req)) (zcR k r i)
def zkr (n:Nd):Prop:=(zbY (ndC n)∧zbY (ndN n)∧zbY (ndM n))∧(∀ x∈ndI n,zbY x)∧(ndI n).length≤100∧(ndS n).length≤100∧(ndK n=7->0≤ndL n∧ndL n≤1)∧(ndK n=16->0≤ndM n∧ndM n≤1)
def idx {α:Type} (f:α->Bool) (l:List α):Int:=if l.findIdx f < l.length then (l.findIdx f:Int) else -1
theorem ziN {α:Type} {f:α->Bool} {l:List α} (h:∀ k (hk:k < l.length),f l[k]=false):idx f l= -1:=by
 unfold idx;rw[if_neg];intro hl;have:=kB (w:=hl);rw[h _ hl]at this;cases this
theorem ziM {α:Type} {f:α->Bool} {l:List α} {k:Nat} (hk:k < l.length) (h:f l[k]=true) (hb:∀ j (hj:j < k),f (l[j]'(Nat.lt_trans hj hk))=false):idx f l=(k:Int):=by
 have:l.findIdx f=k:=by
  rw[List.findIdx_eq hk];exact⟨h,fun j hj=>hb j hj⟩
 unfold idx;rw[this,if_pos hk]
theorem zkY {α:Type} (f:α->Bool) (l:List α):decide (idx f l≥0)=l.any f:=by
 rw[yz,decide_eq_true_iff,jz];unfold idx;constructor
 ·intro h;split at h
  ·rename_i hl;exact⟨l[l.findIdx f],xv hl,kB (w:=hl)⟩
  ·omega
 ·rintro ⟨x,hx,hf⟩;rw[if_pos (List.findIdx_lt_length_of_exists ⟨x,hx,hf⟩)];omega
def inB (n lo hi:Int):Bool:=decide (lo≤n)&&decide (n≤hi)
def zbi:Ctr:={ args:=[i64,i64,i64],pre:=fun _=>[],res:=.bool,own:=none,out:=fun x=>inB x.1 x.2.1 x.2.2.1 }
theorem zjc:yM Tryz.prog gmH 119 zbi:=by
 refine zar (K:=gmK) zak Tryz.func119 rfl rfl Tryz.call119 rfl (by decide) (by intro h;cases h) ?_;rintro w0 X hX ⟨(n:Int),(lo:Int),(hi:Int),_⟩ hp;change AWP _ _ _ _ _ ⟨[(0,⟨i64,n⟩),(1,⟨i64,lo⟩),(2,⟨i64,hi⟩)],[],0⟩ _;refine za (za ?_);refine zaa hX zak rfl ?_ ?_
 ·trivial
 refine za (za ?_);refine zaa hX zak rfl ?_ ?_
 ·repeat'(first|exact trivial|assumption|(refine⟨?_,?_⟩)|(intro _))
 refine zq ⟨.inr rfl,zay rfl trivial rfl rfl ?_⟩;show (bif decide (lo≤n) then decide (n≤hi) else false)=inB n lo hi;unfold inB;cases decide (lo≤n)<;>rfl
def not1 (n:Int):Bool:=!(n==1)
def cNot1:Ctr:={ args:=[i64],pre:=fun _=>[],res:=.bool,own:=none,out:=fun x=>not1 x.1 }
theorem zrT:yM Tryz.prog gmH 124 cNot1:=by
 refine zar (K:=gmK) zak Tryz.func124 rfl rfl Tryz.call124 rfl (by decide) (by intro h;cases h) ?_;rintro w0 X hX ⟨(n:Int),_⟩ hp;change AWP _ _ _ _ _ ⟨[(0,⟨i64,n⟩)],[],0⟩ _;(repeat(first|apply zae|apply zac|apply zal|apply zad|apply zab|refine zaa hX zak rfl trivial ?_|refine zaa hX zak rfl id ?_|refine zaa hX zak rfl ⟨id,id⟩ ?_));refine zq ⟨.inr rfl,zay rfl trivial rfl rfl ?_⟩;rfl
def bigN (n:Nd):Bool:=decide (((n.2.2.2.2.2.2.1.length:Nat):Int) > 64)||decide (((n.2.2.2.2.2.2.2.1.length:Nat):Int) > 32)
def cBigN:Ctr:={ args:=[nd],pre:=fun _=>[],res:=.bool,own:=none,out:=fun x=>bigN x.1 }
theorem zsW:yM Tryz.prog gmH 70 cBigN:=by
 refine zar (K:=gmK) zak Tryz.func70 rfl rfl Tryz.call70 rfl (by decide) (by intro h;cases h) ?_;rintro w0 X hX ⟨(n:Nd),_⟩ hp;change AWP _ _ _ _ _ ⟨[(0,⟨nd,n⟩)],[],0⟩ _;refine za (za ?_);refine zaa hX zak rfl ?_ ?_
 ·trivial
 refine za (za ?_);refine zaa hX zak rfl ?_ ?_
 ·repeat'(first|exact trivial|assumption|(refine⟨?_,?_⟩)|(intro _))
 refine zq ⟨.inr rfl,zay rfl trivial rfl rfl ?_⟩;show (bif decide (((n.2.2.2.2.2.2.1.length:Nat):Int) > 64) then true else decide (((n.2.2.2.2.2.2.2.1.length:Nat):Int) > 32))=bigN n;unfold bigN;cases decide (((n.2.2.2.2.2.2.1.length:Nat):Int) > 64)<;>rfl
def litN:Value:=.func (.func 70) #[] #[]
def litU:Value:=.func (.func 124) #[] #[]
def cIdxR:Ctr:={ args:=[.slice nd,.lit],pre:=fun x=>[x.2.1=litN],res:=i64,own:=none,out:=fun x=>idx bigN x.1 }
def kIdxR:Kn:={ gmK with C:=[(70,cBigN)] }
theorem zbT:KnOk Tryz.prog gmH kIdxR:=zak.with (.cons zsW .nil)
theorem zsg:yM Tryz.prog gmH 118 cIdxR:=by
 refine zar (K:=kIdxR) zbT Tryz.func118 rfl rfl Tryz.call118 rfl (by decide) (by intro h;cases h) ?_;rintro w0 X hX ⟨(l:List Nd),(f:Value),_⟩ hp;obtain rfl:f=litN:=hp;change AWP _ _ _ _ _ ⟨[(0,⟨.slice nd,l⟩),(1,⟨.lit,litN⟩)],[],0⟩ _;refine jU 0 rfl fun hl=>?_;unfold maxLen at hl;(repeat(first|apply zae|apply zac|apply zal|apply zad|apply zab|refine zaa hX zbT rfl trivial ?_|refine zaa hX zbT rfl id ?_|refine zaa hX zbT rfl ⟨id,id⟩ ?_));refine yB (ι:=Nat) (fun k=>⟨[(0,⟨.slice nd,l⟩),(1,⟨.lit,litN⟩),(7,⟨i64,((l.length:Nat):Int)⟩),(8,⟨i64,(k:Int)⟩)],[],0⟩) (fun k=>k≤l.length∧∀ j (hj:j < l.length),j < k->bigN l[j]=false) (fun k=>l.length - k) 0 ⟨by omega,by omega⟩ ⟨⟨rfl,rfl,rfl,rfl,trivial⟩,trivial,rfl,rfl⟩ ?_;rintro k ⟨hk,hn⟩;refine za (za ?_);refine zaa hX zbT rfl ?_ ?_
 ·trivial
 apply zae;refine zai rfl (fun hb=>?_) (fun hb=>?_)
 ·have hb:decide ((k:Int) < (l.length:Nat))=true:=hb;have hb:=of_decide_eq_true hb;have hlt:k < l.length:=by omega
  have n0:(0:Int)≤(k:Int):=by omega
  refine za (za ?_);refine zaa hX zbT rfl ?_ ?_
  ·trivial
  refine za (za ?_);refine zaa hX zbT rfl ?_ ?_
  ·exact⟨n0,hb⟩
  refine zai rfl (fun hb=>?_) (fun hb=>?_)
  ·have hc:bigN (l.getD (k:Int).toNat zNd)=true:=hb;rw[zaM hlt]at hc;(repeat(first|apply zae|apply zac|apply zal|apply zad|apply zab|refine zaa hX zbT rfl trivial ?_|refine zaa hX zbT rfl id ?_|refine zaa hX zbT rfl ⟨id,id⟩ ?_));refine zq ⟨.inr rfl,zay rfl trivial rfl rfl ?_⟩;show (k:Int)=idx _ l;exact (ziM hlt hc fun j hj=>hn j _ hj).symm
  ·have hc:bigN (l.getD (k:Int).toNat zNd)=false:=hb;rw[zaM hlt]at hc;refine za (za ?_);refine zaa hX zbT rfl ?_ ?_
   ·exact zaH (by omega)
   exact⟨k+1,⟨by omega,fun j hj hlt=>by
    by_cases e:j=k
    ·subst e;exact hc
    ·exact hn j hj (by omega)⟩,by omega,⟨rfl,rfl,rfl,zcz _,trivial⟩,trivial,rfl,rfl⟩
 ·have hb:decide ((k:Int) < (l.length:Nat))=false:=hb;have hb:=of_decide_eq_false hb;have:k=l.length:=by omega
  subst this;(repeat(first|apply zae|apply zac|apply zal|apply zad|apply zab|refine zaa hX zbT rfl trivial ?_|refine zaa hX zbT rfl id ?_|refine zaa hX zbT rfl ⟨id,id⟩ ?_));refine zq ⟨.inr rfl,zay rfl trivial rfl rfl ?_⟩;show (-1:Int)=idx _ l;exact (ziN fun j hj=>hn j hj hj).symm
def cAnyR:Ctr:={ args:=[.slice nd,.lit],pre:=fun x=>[x.2.1=litN],res:=.bool,own:=none,out:=fun x=>List.any x.1 bigN }
def kAnyR:Kn:={ gmK with C:=[(118,cIdxR)] }
theorem zff:KnOk Tryz.prog gmH kAnyR:=zak.with (.cons zsg .nil)
theorem zs3:yM Tryz.prog gmH 71 cAnyR:=by
 refine zar (K:=kAnyR) zff Tryz.func71 rfl rfl Tryz.call71 rfl (by decide) (by intro h;cases h) ?_;rintro w0 X hX ⟨(l:List Nd),(f:Value),_⟩ hp;obtain rfl:f=litN:=hp;change AWP _ _ _ _ _ ⟨[(0,⟨.slice nd,l⟩),(1,⟨.lit,litN⟩)],[],0⟩ _;(repeat(first|apply zae|apply zac|apply zal|apply zad|apply zab|refine zaa hX zff rfl trivial ?_|refine zaa hX zff rfl id ?_|refine zaa hX zff rfl ⟨id,id⟩ ?_));refine za (za ?_);refine zaa hX zff rfl ?_ ?_
 ·exact rfl
 refine zq ⟨.inr rfl,zay rfl trivial rfl rfl ?_⟩;exact zkY _ l
def cIdxU:Ctr:={ args:=[.slice i64,.lit],pre:=fun x=>[x.2.1=litU],res:=i64,own:=none,out:=fun x=>idx not1 x.1 }
def kIdxU:Kn:={ gmK with C:=[(124,cNot1)] }
theorem zbS:KnOk Tryz.prog gmH kIdxU:=zak.with (.cons zrT .nil)
theorem zse:yM Tryz.prog gmH 157 cIdxU:=by
 refine zar (K:=kIdxU) zbS Tryz.func157 rfl rfl Tryz.call157 rfl (by decide) (by intro h;cases h) ?_;rintro w0 X hX ⟨(l:List Int),(f:Value),_⟩ hp;obtain rfl:f=litU:=hp;change AWP _ _ _ _ _ ⟨[(0,⟨.slice i64,l⟩),(1,⟨.lit,litU⟩)],[],0⟩ _;refine jU 0 rfl fun hl=>?_;unfold maxLen at hl;(repeat(first|apply zae|apply zac|apply zal|apply zad|apply zab|refine zaa hX zbS rfl trivial ?_|refine zaa hX zbS rfl id ?_|refine zaa hX zbS rfl ⟨id,id⟩ ?_));refine yB (ι:=Nat) (fun k=>⟨[(0,⟨.slice i64,l⟩),(1,⟨.lit,litU⟩),(7,⟨i64,((l.length:Nat):Int)⟩),(8,⟨i64,(k:Int)⟩)],[],0⟩) (fun k=>k≤l.length∧∀ j (hj:j < l.length),j < k->not1 l[j]=false) (fun k=>l.length - k) 0 ⟨by omega,by omega⟩ ⟨⟨rfl,rfl,rfl,rfl,trivial⟩,trivial,rfl,rfl⟩ ?_;rintro k ⟨hk,hn⟩;refine za (za ?_);refine zaa hX zbS rfl ?_ ?_
 ·trivial
 apply zae;refine zai rfl (fun hb=>?_) (fun hb=>?_)
 ·have hb:decide ((k:Int) < (l.length:Nat))=true:=hb;have hb:=of_decide_eq_true hb;have hlt:k < l.length:=by omega
  have n0:(0:Int)≤(k:Int):=by omega
  refine za (za ?_);refine zaa hX zbS rfl ?_ ?_
  ·trivial
  refine za (za ?_);refine zaa hX zbS rfl ?_ ?_
  ·exact⟨n0,hb⟩
  refine zai rfl (fun hb=>?_) (fun hb=>?_)
  ·have hc:not1 (l.getD (k:Int).toNat (0:Int))=true:=hb;rw[zaM hlt]at hc;(repeat(first|apply zae|apply zac|apply zal|apply zad|apply zab|refine zaa hX zbS rfl trivial ?_|refine zaa hX zbS rfl id ?_|refine zaa hX zbS rfl ⟨id,id⟩ ?_));refine zq ⟨.inr rfl,zay rfl trivial rfl rfl ?_⟩;show (k:Int)=idx _ l;exact (ziM hlt hc fun j hj=>hn j _ hj).symm
  ·have hc:not1 (l.getD (k:Int).toNat (0:Int))=false:=hb;rw[zaM hlt]at hc;refine za (za ?_);refine zaa hX zbS rfl ?_ ?_
   ·exact zaH (by omega)
   exact⟨k+1,⟨by omega,fun j hj hlt=>by
    by_cases e:j=k
    ·subst e;exact hc
    ·exact hn j hj (by omega)⟩,by omega,⟨rfl,rfl,rfl,zcz _,trivial⟩,trivial,rfl,rfl⟩
 ·have hb:decide ((k:Int) < (l.length:Nat))=false:=hb;have hb:=of_decide_eq_false hb;have:k=l.length:=by omega
  subst this;(repeat(first|apply zae|apply zac|apply zal|apply zad|apply zab|refine zaa hX zbS rfl trivial ?_|refine zaa hX zbS rfl id ?_|refine zaa hX zbS rfl ⟨id,id⟩ ?_));refine zq ⟨.inr rfl,zay rfl trivial rfl rfl ?_⟩;show (-1:Int)=idx _ l;exact (ziN fun j hj=>hn j hj hj).symm
def cAnyU:Ctr:={ args:=[.slice i64,.lit],pre:=fun x=>[x.2.1=litU],res:=.bool,own:=none,out:=fun x=>List.any x.1 not1 }
def kAnyU:Kn:={ gmK with C:=[(157,cIdxU)] }
theorem zfe:KnOk Tryz.prog gmH kAnyU:=zak.with (.cons zse .nil)
theorem zs2:yM Tryz.prog gmH 123 cAnyU:=by
 refine zar (K:=kAnyU) zfe Tryz.func123 rfl rfl Tryz.call123 rfl (by decide) (by intro h;cases h) ?_;rintro w0 X hX ⟨(l:List Int),(f:Value),_⟩ hp;obtain rfl:f=litU:=hp;change AWP _ _ _ _ _ ⟨[(0,⟨.slice i64,l⟩),(1,⟨.lit,litU⟩)],[],0⟩ _;(repeat(first|apply zae|apply zac|apply zal|apply zad|apply zab|refine zaa hX zfe rfl trivial ?_|refine zaa hX zfe rfl id ?_|refine zaa hX zfe rfl ⟨id,id⟩ ?_));refine za (za ?_);refine zaa hX zfe rfl ?_ ?_
 ·exact rfl
 refine zq ⟨.inr rfl,zay rfl trivial rfl rfl ?_⟩;exact zkY _ l
def zgY (b:Int×Int×Unit):Bool:=b.1==0&&b.2.1==0
def zhr (l:List Int) (b:Int×Int×Unit) (i:Nat):Bool:=!inB (l.getD i 0) b.1 b.2.1||(decide (0 < i)&&decide (l.getD i 0≤l.getD (i - 1) 0))||(l.getD i 0==0&&decide (b.1 < 0))
def zaS (l:List Int) (b:Int×Int×Unit):Bool:=bif zgY b then ((l.length:Nat):Int)==0 else (yP l.length).all (fun i=>!zhr l b i)&&decide (((l.length:Nat):Int) > 0)
theorem zlG (b:Int×Int×Unit):eqb lims b (0,0,())=zgY b:=by
 obtain⟨x,y,⟨⟩⟩:=b;unfold zgY;rw[yz,zbl,zb,beq_iff_eq,beq_iff_eq];exact⟨fun h=>⟨congrArg (fun z=>z.1) h,congrArg (fun z=>z.2.1) h⟩,fun⟨h1,h2⟩=>by
  have h1:x=0:=h1;have h2:y=0:=h2;rw[h1,h2]⟩
def zo8:Ctr:={ args:=[ints,lims],pre:=fun _=>[],res:=.bool,own:=none,out:=fun x=>zaS x.1 x.2.1 }
def kVl:Kn:={ gmK with C:=[(119,zbi)] }
theorem zaZ:KnOk Tryz.prog gmH kVl:=zak.with (.cons zjc .nil)
theorem zoi:yM Tryz.prog gmH 121 zo8:=by
 refine zar (K:=kVl) zaZ Tryz.func121 rfl rfl Tryz.call121 rfl (by decide) (by intro h;cases h) ?_;rintro w0 X hX ⟨(l:List Int),(b:Int×Int×Unit),_⟩ hp;change AWP _ _ _ _ _ ⟨[(0,⟨ints,l⟩),(1,⟨lims,b⟩)],[],0⟩ _;refine jU 0 rfl fun hl=>?_;unfold maxLen at hl;apply zae;refine za (za ?_);refine zaa hX zaZ rfl ?_ ?_
 ·trivial
 refine za (za ?_);refine zaa hX zaZ rfl ?_ ?_
 ·trivial
 refine zai rfl (fun hb=>?_) (fun hb=>?_)
 ·have hb:zgY b=true:=by rw[<-zlG];exact hb
  (repeat(first|apply zae|apply zac|apply zal|apply zad|apply zab|refine zaa hX zaZ rfl trivial ?_|refine zaa hX zaZ rfl id ?_|refine zaa hX zaZ rfl ⟨id,id⟩ ?_));refine zq ⟨.inr rfl,zay rfl trivial rfl rfl ?_⟩;show _=zaS l b;unfold zaS;rw[hb];rfl
 have hb:zgY b=false:=by rw[<-zlG];exact hb
 (repeat(first|apply zae|apply zac|apply zal|apply zad|apply zab|refine zaa hX zaZ rfl trivial ?_|refine zaa hX zaZ rfl id ?_|refine zaa hX zaZ rfl ⟨id,id⟩ ?_));refine yB (ι:=Nat) (fun k=>⟨[(0,⟨ints,l⟩),(3,⟨.optr lims,⟨0,lims,.here⟩⟩),(13,⟨ints,l⟩),(14,⟨i64,((l.length:Nat):Int)⟩),(15,⟨i64,(k:Int)⟩)],[(0,some (.box lims b))],1⟩) (fun k=>k≤l.length∧∀ j,j < k->zhr l b j=false) (fun k=>l.length - k) 0 ⟨by omega,by omega⟩ ⟨⟨rfl,rfl,rfl,rfl,rfl,trivial⟩,⟨rfl,trivial⟩,rfl,rfl⟩ ?_;rintro k ⟨hk,hn⟩;refine za (za ?_);refine zaa hX zaZ rfl ?_ ?_
 ·trivial
 apply zae;refine zai rfl (fun hb=>?_) (fun hb=>?_)
 ·have hb:decide ((k:Int) < (l.length:Nat))=true:=hb;have hb:=of_decide_eq_true hb;have hlt:k < l.length:=by omega
  have n0:(0:Int)≤(k:Int):=by omega
  refine za (za ?_);refine zaa hX zaZ rfl ?_ ?_
  ·exact⟨n0,hb⟩
  refine za (za ?_);refine zaa hX zaZ rfl ?_ ?_
  ·have i1:inR .i64 ((k:Int) - 1):=zav (by omega) (by omega);have i2:(k:Int) - 1 < (l.length:Nat):=by omega
   have i3:decide ((k:Int) > 0)=true->0≤(k:Int) - 1:=fun h=>by have:=of_decide_eq_true h;omega
   cases zbi.out (l.getD ((k:Int)).toNat (za5 i64),b.fst,b.snd.fst,())<;>cases hD:decide ((k:Int) > 0)<;>cases (l.getD ((k:Int)).toNat (za5 i64)==0)<;>cases decide (l.getD ((k:Int)).toNat (za5 i64)≤l.getD ((k:Int) - 1).toNat (za5 i64))
   all_goals
    repeat'(first|exact trivial|assumption|exact i3 hD|rfl|(intro h;exact absurd h yG)|(refine⟨?_,?_⟩)|(intro _))
  have hq:decide ((k:Int) > 0)=decide (0 < k):=by rw[yz,decide_eq_true_iff,decide_eq_true_iff];omega
  have hq':((k:Int) - 1).toNat=k - 1:=by omega
  refine zai rfl (fun hb=>?_) (fun hb=>?_)
  ·have hc:zhr l b k=true:=by
    rw[<-hb];unfold zhr;rw[<-hq, <-hq'];show (!zbi.out (l.getD ((k:Int)).toNat (za5 i64),b.fst,b.snd.fst,())||(decide ((k:Int) > 0)&&decide (l.getD ((k:Int)).toNat (za5 i64)≤l.getD ((k:Int) - 1).toNat (za5 i64)))||((l.getD ((k:Int)).toNat (za5 i64)==0)&&decide (b.1 < 0)))=_;cases zbi.out (l.getD ((k:Int)).toNat (za5 i64),b.fst,b.snd.fst,())<;>cases hD:decide ((k:Int) > 0)<;>cases (l.getD ((k:Int)).toNat (za5 i64)==0)<;>cases decide (l.getD ((k:Int)).toNat (za5 i64)≤l.getD ((k:Int) - 1).toNat (za5 i64))<;>cases decide (b.1 < 0)<;>rfl
   (repeat(first|apply zae|apply zac|apply zal|apply zad|apply zab|refine zaa hX zaZ rfl trivial ?_|refine zaa hX zaZ rfl id ?_|refine zaa hX zaZ rfl ⟨id,id⟩ ?_));refine zq ⟨.inr rfl,zay rfl trivial rfl rfl ?_⟩;show false=zaS l b;unfold zaS;rw[‹zgY b=false›,show (yP l.length).all (fun i=>!zhr l b i)=false from ?_]
   ·rfl
   ·rw[qf];intro ha;have:=zV.1 ha k (yk.2 hlt);rw[hc]at this;cases this
  ·have hc:zhr l b k=false:=by
    rw[<-hb];unfold zhr;rw[<-hq, <-hq'];show (!zbi.out (l.getD ((k:Int)).toNat (za5 i64),b.fst,b.snd.fst,())||(decide ((k:Int) > 0)&&decide (l.getD ((k:Int)).toNat (za5 i64)≤l.getD ((k:Int) - 1).toNat (za5 i64)))||((l.getD ((k:Int)).toNat (za5 i64)==0)&&decide (b.1 < 0)))=_;cases zbi.out (l.getD ((k:Int)).toNat (za5 i64),b.fst,b.snd.fst,())<;>cases hD:decide ((k:Int) > 0)<;>cases (l.getD ((k:Int)).toNat (za5 i64)==0)<;>cases decide (l.getD ((k:Int)).toNat (za5 i64)≤l.getD ((k:Int) - 1).toNat (za5 i64))<;>cases decide (b.1 < 0)<;>rfl
   refine za (za ?_);refine zaa hX zaZ rfl ?_ ?_
   ·exact zaH (by omega)
   exact⟨k+1,⟨by omega,fun j hj=>by
    by_cases e:j=k
    ·subst e;exact hc
    ·exact hn j (by omega)⟩,by omega,⟨rfl,rfl,rfl,rfl,zcz _,trivial⟩,⟨rfl,trivial⟩,rfl,rfl⟩
 ·have hb:decide ((k:Int) < (l.length:Nat))=false:=hb;have hb:=of_decide_eq_false hb;have:k=l.length:=by omega
  subst this;(repeat(first|apply zae|apply zac|apply zal|apply zad|apply zab|refine zaa hX zaZ rfl trivial ?_|refine zaa hX zaZ rfl id ?_|refine zaa hX zaZ rfl ⟨id,id⟩ ?_));refine zq ⟨.inr rfl,zay rfl trivial rfl rfl ?_⟩;show _=zaS l b;unfold zaS;rw[‹zgY b=false›,show (yP l.length).all (fun i=>!zhr l b i)=true from zV.2 fun i hi=>by rw[hn i (yk.1 hi)];rfl];rfl
def zcP (n:Nd):Bool:=
 bif n.1==1 then bif inB n.2.2.2.2.1 1 1099511627776 then inB n.2.2.2.2.2.1 0 1099511627776 else false
 else bif n.1==2 then bif inB n.2.2.2.2.1 1 400 then inB n.2.2.2.2.2.1 0 (n.2.2.2.2.1 - 1) else false
 else bif n.1==7 then bif (bif (bif inB n.2.2.2.2.1 (-60) 60 then !(n.2.2.2.2.1==0) else false) then inB n.2.2.2.2.2.1 0 6 else false) then inB n.2.2.1 0 1 else false
 else bif n.1==11 then bif inB n.2.2.2.2.1 (-1099511627776) 1099511627776 then n.2.2.2.2.2.1==0 else false
 else bif (n.1==12)||(n.1==13) then bif inB n.2.2.2.2.1 0 1099511627776 then n.2.2.2.2.2.1==0 else false
 else bif n.1==16 then bif n.2.2.2.2.1==0 then inB n.2.2.2.2.2.1 0 1 else false
 else bif n.1==17 then bif inB n.2.2.2.2.1 1 400 then n.2.2.2.2.2.1==0 else false
 else bif n.2.2.2.2.1==0 then n.2.2.2.2.2.1==0 else false
def cNumb:Ctr:={ args:=[nd],pre:=fun _=>[],res:=.bool,own:=none,out:=fun x=>zcP x.1 }
theorem zrR:yM Tryz.prog gmH 122 cNumb:=by
 refine zar (K:=kVl) zaZ Tryz.func122 rfl rfl Tryz.call122 rfl (by decide) (by intro h;cases h) ?_;rintro w0 X hX ⟨(n:Nd),_⟩ hp;change AWP _ _ _ _ _ ⟨[(0,⟨nd,n⟩)],[],0⟩ _;apply zae;refine za (za ?_);refine zaa hX zaZ rfl ?_ ?_
 ·trivial
 refine za (za ?_);refine zaa hX zaZ rfl ?_ ?_
 ·trivial
 refine za (za ?_);refine zaa hX zaZ rfl ?_ ?_
 ·trivial
 refine zai rfl (fun h1=>?_) (fun h1=>?_)
 ·have h1:(n.1==1)=true:=h1;refine za (za ?_);refine zaa hX zaZ rfl ?_ ?_
  ·have i0:zbi.out (n.2.2.2.2.1,(1:Int),(400:Int),())=true->inR .i64 (n.2.2.2.2.1 - 1):=fun h=>by
    have h:inB n.2.2.2.2.1 1 400=true:=h;unfold inB at h;rw[zb,decide_eq_true_iff,decide_eq_true_iff]at h;exact zav (by omega) (by omega)
   cases hA:zbi.out (n.2.2.2.2.1,(1:Int),(1099511627776:Int),())
   all_goals
    repeat'(first|exact trivial|assumption|rfl|exact i0 rfl|exact i0 hA|(intro h;exact absurd h yG)|(refine⟨?_,?_⟩)|(intro _))
  refine zq ⟨.inr rfl,zay rfl trivial rfl rfl ?_⟩;show _=zcP n;simp only[zcP,h1,cond_true,cond_false,xX,qO,xW,xr]
  all_goals (first|rfl|(simp;done))
 have h1:(n.1==1)=false:=h1;refine za (za ?_);refine zaa hX zaZ rfl ?_ ?_
 ·trivial
 refine zai rfl (fun h2=>?_) (fun h2=>?_)
 ·have h2:(n.1==2)=true:=h2;refine za (za ?_);refine zaa hX zaZ rfl ?_ ?_
  ·have i0:zbi.out (n.2.2.2.2.1,(1:Int),(400:Int),())=true->inR .i64 (n.2.2.2.2.1 - 1):=fun h=>by
    have h:inB n.2.2.2.2.1 1 400=true:=h;unfold inB at h;rw[zb,decide_eq_true_iff,decide_eq_true_iff]at h;exact zav (by omega) (by omega)
   cases hA:zbi.out (n.2.2.2.2.1,(1:Int),(400:Int),())
   all_goals
    repeat'(first|exact trivial|assumption|rfl|exact i0 rfl|exact i0 hA|(intro h;exact absurd h yG)|(refine⟨?_,?_⟩)|(intro _))
  refine zq ⟨.inr rfl,zay rfl trivial rfl rfl ?_⟩;show _=zcP n;simp only[zcP,h1,h2,cond_true,cond_false,xX,qO,xW,xr]
  all_goals (first|rfl|(simp;done))
 have h2:(n.1==2)=false:=h2;refine za (za ?_);refine zaa hX zaZ rfl ?_ ?_
 ·trivial
 refine zai rfl (fun h7=>?_) (fun h7=>?_)
 ·have h7:(n.1==7)=true:=h7;refine za (za ?_);refine zaa hX zaZ rfl ?_ ?_
  ·have i0:zbi.out (n.2.2.2.2.1,(1:Int),(400:Int),())=true->inR .i64 (n.2.2.2.2.1 - 1):=fun h=>by
    have h:inB n.2.2.2.2.1 1 400=true:=h;unfold inB at h;rw[zb,decide_eq_true_iff,decide_eq_true_iff]at h;exact zav (by omega) (by omega)
   cases hA:zbi.out (n.2.2.2.2.1,(-60:Int),(60:Int),())<;>cases (n.2.2.2.2.1==0)<;>cases zbi.out (n.2.2.2.2.2.1,(0:Int),(6:Int),())
   all_goals
    repeat'(first|exact trivial|assumption|rfl|exact i0 rfl|exact i0 hA|(intro h;exact absurd h yG)|(refine⟨?_,?_⟩)|(intro _))
  refine zq ⟨.inr rfl,zay rfl trivial rfl rfl ?_⟩;show _=zcP n;simp only[zcP,h1,h2,h7,cond_true,cond_false,xX,qO,xW,xr]
  all_goals (first|rfl|(simp;done))
 have h7:(n.1==7)=false:=h7;refine za (za ?_);refine zaa hX zaZ rfl ?_ ?_
 ·trivial
 refine zai rfl (fun h11=>?_) (fun h11=>?_)
 ·have h11:(n.1==11)=true:=h11;refine za (za ?_);refine zaa hX zaZ rfl ?_ ?_
  ·have i0:zbi.out (n.2.2.2.2.1,(1:Int),(400:Int),())=true->inR .i64 (n.2.2.2.2.1 - 1):=fun h=>by
    have h:inB n.2.2.2.2.1 1 400=true:=h;unfold inB at h;rw[zb,decide_eq_true_iff,decide_eq_true_iff]at h;exact zav (by omega) (by omega)
   cases hA:zbi.out (n.2.2.2.2.1,(-1099511627776:Int),(1099511627776:Int),())
   all_goals
    repeat'(first|exact trivial|assumption|rfl|exact i0 rfl|exact i0 hA|(intro h;exact absurd h yG)|(refine⟨?_,?_⟩)|(intro _))
  refine zq ⟨.inr rfl,zay rfl trivial rfl rfl ?_⟩;show _=zcP n;simp only[zcP,h1,h2,h7,h11,cond_true,cond_false,xX,qO,xW,xr]
  all_goals (first|rfl|(simp;done))
 have h11:(n.1==11)=false:=h11;refine za (za ?_);refine zaa hX zaZ rfl ?_ ?_
 ·trivial
 refine AWP.viaQ (σ':=⟨[(1,⟨.optr nd,⟨0,nd,.here⟩⟩),(4,⟨i64,n.1⟩),(58,⟨.bool,(n.1==12)||(n.1==13)⟩)],[(0,some (.box nd n))],1⟩) ?_ ?_
 ·refine zai rfl (fun h=>?_) (fun h=>?_)
  ·have h:(n.1==12)=true:=h;apply zac;rw[h];exact⟨⟨rfl,rfl,rfl,trivial⟩,⟨rfl,trivial⟩,rfl,rfl⟩
  ·have h:(n.1==12)=false:=h;refine za (za ?_);refine zaa hX zaZ rfl ?_ ?_
   ·trivial
   rw[h];exact⟨⟨rfl,rfl,rfl,trivial⟩,⟨rfl,trivial⟩,rfl,rfl⟩
 refine zai rfl (fun h12=>?_) (fun h12=>?_)
 ·have h12:((n.1==12)||(n.1==13))=true:=h12;refine za (za ?_);refine zaa hX zaZ rfl ?_ ?_
  ·have i0:zbi.out (n.2.2.2.2.1,(1:Int),(400:Int),())=true->inR .i64 (n.2.2.2.2.1 - 1):=fun h=>by
    have h:inB n.2.2.2.2.1 1 400=true:=h;unfold inB at h;rw[zb,decide_eq_true_iff,decide_eq_true_iff]at h;exact zav (by omega) (by omega)
   cases hA:zbi.out (n.2.2.2.2.1,(0:Int),(1099511627776:Int),())
   all_goals
    repeat'(first|exact trivial|assumption|rfl|exact i0 rfl|exact i0 hA|(intro h;exact absurd h yG)|(refine⟨?_,?_⟩)|(intro _))
  refine zq ⟨.inr rfl,zay rfl trivial rfl rfl ?_⟩;show _=zcP n;simp only[zcP,h1,h2,h7,h11,h12,cond_true,cond_false,xX,qO,xW,xr]
  all_goals (first|rfl|(simp;done))
 have h12:((n.1==12)||(n.1==13))=false:=h12;refine za (za ?_);refine zaa hX zaZ rfl ?_ ?_
 ·trivial
 refine zai rfl (fun h16=>?_) (fun h16=>?_)
 ·have h16:(n.1==16)=true:=h16;refine za (za ?_);refine zaa hX zaZ rfl ?_ ?_
  ·have i0:zbi.out (n.2.2.2.2.1,(1:Int),(400:Int),())=true->inR .i64 (n.2.2.2.2.1 - 1):=fun h=>by
    have h:inB n.2.2.2.2.1 1 400=true:=h;unfold inB at h;rw[zb,decide_eq_true_iff,decide_eq_true_iff]at h;exact zav (by omega) (by omega)
   cases hA:(n.2.2.2.2.1==0)
   all_goals
    repeat'(first|exact trivial|assumption|rfl|exact i0 rfl|exact i0 hA|(intro h;exact absurd h yG)|(refine⟨?_,?_⟩)|(intro _))
  refine zq ⟨.inr rfl,zay rfl trivial rfl rfl ?_⟩;show _=zcP n;simp only[zcP,h1,h2,h7,h11,h12,h16,cond_true,cond_false,xX,qO,xW,xr]
  all_goals (first|rfl|(simp;done))
 have h16:(n.1==16)=false:=h16;refine za (za ?_);refine zaa hX zaZ rfl ?_ ?_
 ·trivial
 refine zai rfl (fun h17=>?_) (fun h17=>?_)
 ·have h17:(n.1==17)=true:=h17;refine za (za ?_);refine zaa hX zaZ rfl ?_ ?_
  ·have i0:zbi.out (n.2.2.2.2.1,(1:Int),(400:Int),())=true->inR .i64 (n.2.2.2.2.1 - 1):=fun h=>by
    have h:inB n.2.2.2.2.1 1 400=true:=h;unfold inB at h;rw[zb,decide_eq_true_iff,decide_eq_true_iff]at h;exact zav (by omega) (by omega)
   cases hA:zbi.out (n.2.2.2.2.1,(1:Int),(400:Int),())
   all_goals
    repeat'(first|exact trivial|assumption|rfl|exact i0 rfl|exact i0 hA|(intro h;exact absurd h yG)|(refine⟨?_,?_⟩)|(intro _))
  refine zq ⟨.inr rfl,zay rfl trivial rfl rfl ?_⟩;show _=zcP n;simp only[zcP,h1,h2,h7,h11,h12,h16,h17,cond_true,cond_false,xX,qO,xW,xr]
  all_goals (first|rfl|(simp;done))
 have h17:(n.1==17)=false:=h17;apply zac;refine za (za ?_);refine zaa hX zaZ rfl ?_ ?_
 ·have i0:zbi.out (n.2.2.2.2.1,(1:Int),(400:Int),())=true->inR .i64 (n.2.2.2.2.1 - 1):=fun h=>by
   have h:inB n.2.2.2.2.1 1 400=true:=h;unfold inB at h;rw[zb,decide_eq_true_iff,decide_eq_true_iff]at h;exact zav (by omega) (by omega)
  cases hA:(n.2.2.2.2.1==0)
  all_goals
   repeat'(first|exact trivial|assumption|rfl|exact i0 rfl|exact i0 hA|(intro h;exact absurd h yG)|(refine⟨?_,?_⟩)|(intro _))
 refine zq ⟨.inr rfl,zay rfl trivial rfl rfl ?_⟩;show _=zcP n;simp only[zcP,h1,h2,h7,h11,h12,h16,h17,cond_true,cond_false,xX,qO,xW,xr]
 all_goals (first|rfl|(simp;done))
abbrev Shp:=Int×Bool×(Int×Int×Unit)×Unit
def zcC:List Shp:=[(0,false,(0,0,()),()),(0,false,(0,0,()),()),(0,true,(0,0,()),()),(0,true,(1,16,()),()),(0,true,(-40,40,()),()),(0,false,(0,6,()),()),(0,true,(1,54,()),()),(0,true,(0,0,()),()),(2,false,(0,0,()),()),(2,false,(0,0,()),()),(2,false,(0,0,()),()),(1,false,(0,0,()),()),(1,false,(0,0,()),()),(1,false,(0,0,()),()),(1,false,(0,1099511627776,()),()),(1,false,(0,1099511627776,()),()),(1,true,(-400,400,()),()),(2,false,(0,0,()),()),(0,false,(0,0,()),())]
def zld:Ctr:={ args:=[],pre:=fun _=>[],res:=.arr 19 shp,own:=none,out:=fun _=>zcC }
set_option maxHeartbeats 400000 in
theorem zjq:yM Tryz.prog gmH 74 zld:=by
 refine zar (K:=gmK) zak Tryz.func74 rfl rfl Tryz.call74 rfl (by decide) (by intro h;cases h) ?_;rintro w0 X hX _ hp;change AWP _ _ _ _ _ ⟨[],[],0⟩ _;apply zae;refine za (za ?_);refine zaa hX zak rfl ?_ ?_
 ·trivial
 refine za (za ?_);refine zaa hX zak rfl ?_ ?_
 ·trivial
 refine zap (σ':=⟨[(0,⟨.optr (.arr 19 shp),⟨0,.arr 19 shp,.here⟩⟩)],[(0,some (.box (.arr 19 shp) zcC))],1⟩) ⟨⟨by kernel_rfl,trivial⟩,⟨by kernel_rfl,trivial⟩,rfl,rfl⟩ ?_;exact zq ⟨.inr rfl,zay rfl trivial rfl rfl rfl⟩
set_option maxRecDepth 10000
abbrev Tk:=Int×List UInt8×Int
def tkOf (t:TokT):Tk:=(zB t,zE t,xO t)
def Toks (s:List UInt8):Int->List Tk->Prop
 |o,[]=>zB (zbJ s o)=0
 |o,a::l=>zB (zbJ s o)≠0∧tkOf (zbJ s o)=a∧Toks s (Tok.at (zbJ s o)+xB (zbJ s o)) l
def Sq (s:List UInt8) (t:TokT):List Tk->Prop
 | []=>zB t=0
 |a::l=>zB t≠0∧tkOf t=a∧Toks s (Tok.at t+xB t) l
def tkIs (w:List UInt8):List Tk->Bool
 | []=>false
 |a::_=>((a.1==1)||(a.1==4))&&decide (a.2.1=w)
theorem okb {ε α β:Type} {e:Except ε α} {x:α} (h:e= .ok x) (f:α->Except ε β):(e >>= f)=f x:=by
 subst h;rfl
section
variable {s:List UInt8}
theorem zkC {o:Int} {l:List Tk} (h:Toks s o l):Sq s (zbJ s o) l:=by
 cases l with
 |nil=>exact h
 |cons a l=>exact h
theorem zhA {st:GSt} {l:List Tk} (h:Sq s st.1 l) (w:List UInt8):gIs st w=tkIs w l:=by
 cases l with
 |nil=>
  have h:zB st.1=0:=h;unfold gIs tkIs;rw[h];rfl
 |cons a l=>
  obtain⟨_,h2,_⟩:=h;unfold gIs tkIs;rw[<-h2];rfl
structure Got (s:List UInt8) (st:GSt) (k:Int) (l:List Tk) (st':GSt):Prop where
 ok:GOk s st'
 sq:Sq s st'.1 l
 n:st'.2=st.2+k
theorem Got.trans {a b c:GSt} {j k:Int} {l l':List Tk} (h:Got s a j l b) (h':Got s b k l' c):Got s a (j+k) l' c:=⟨h'.ok,h'.sq,by rw[h'.n,h.n];omega⟩
theorem Got.trans0 {a b c:GSt} {j:Int} {l l':List Tk} (h:Got s a j l b) (h':Got s b 0 l' c):Got s a j l' c:=⟨h'.ok,h'.sq,by rw[h'.n,h.n];omega⟩
theorem zpT {st:GSt} {a:Tk} {l:List Tk} (hg:GOk s st) (h:Sq s st.1 (a::l)):Got s st 0 l (gAdv s st):=
 ⟨(zbV hg h.1).1,zkC h.2.2,by show st.2=st.2+0;omega⟩
theorem zgm {st:GSt} {a:Tk} {l:List Tk} {w:List UInt8} (hg:GOk s st) (h:Sq s st.1 (a::l)) (hw:tkIs w (a::l)=true):zaQ s st w= .ok (gAdv s st)∧Got s st 0 l (gAdv s st):=by
 refine⟨?_,zpT hg h⟩;unfold zaQ zaC;rw[zhA h,hw];rfl
theorem ziy {st:GSt} {a:Tk} {l:List Tk} (hg:GOk s st) (h:Sq s st.1 (a::l)) (hn:st.2 < 64):zbu s st= .ok (gAdv s (st.1,st.2+1))∧Got s st 1 l (gAdv s (st.1,st.2+1)):=by
 refine⟨?_,?_,?_,rfl⟩
 ·unfold zbu zaC;rw[decide_eq_true hn];rfl
 ·exact (zbV (st:=(st.1,st.2+1)) ⟨hg.1,by have:=hg.2;constructor<;>simp only[]<;>omega⟩ h.1).1
 ·exact zkC h.2.2
def tkW (w:List UInt8):Tk:=(1,w,0)
def tkR (w:List UInt8):Tk:=(2,w,0)
def tkN (n:Int):Tk:=(3,deI n,n)
def tkS (c:UInt8):Tk:=(4,[c],0)
theorem zbp {st:GSt} {x lo hi:Int} {l:List Tk} (hg:GOk s st) (h:Sq s st.1 (tkN x::l)) (h1:lo≤x) (h2:x≤hi):zaI s st lo hi= .ok (x,gAdv s st)∧Got s st 0 l (gAdv s st):=by
 refine⟨?_,zpT hg h⟩;obtain⟨_,e,_⟩:=h;have e1:zB st.1=3:=congrArg (fun a=>a.1) e;have e2:xO st.1=x:=congrArg (fun a=>a.2.2) e;unfold zaI zaC;rw[e1,e2,decide_eq_true h1,decide_eq_true h2];rfl
def Ris (lo hi:Int) (z:Bool):Int->List Int->Prop
 |_,[]=>True
 |last,x::r=>last < x∧lo≤x∧x≤hi∧(z=true∨x≠0)∧Ris lo hi z x r
theorem zn1 {lo hi:Int} {z:Bool} {l:List Tk}:∀ (xs:List Int) (k:Nat) (acc:List Int) (st:GSt),xs.length < k->(acc=[]->xs≠ [])->acc.length+xs.length≤64->Ris lo hi z (acc.getLast?.getD (lo - 1)) xs->GOk s st->Sq s st.1 (xs.map tkN++tkS 41::l)->
  ∃ st',zbI s lo hi z k st acc= .ok (acc++xs,st')∧Got s st 0 (tkS 41::l) st'
 |_,0,_,_,hk,_,_,_,_,_=>by omega
 | [],k+1,acc,st,_,hne,_,_,hg,h=>by
  refine⟨st,?_,hg,h,by omega⟩;have hacc:acc≠ []:=fun e=>hne e rfl;have hc:gIs st zcV=true:=by rw[zhA h];rfl
  unfold zbI;rw[hc,zJ,if_pos (by cases acc with |nil=>exact absurd rfl hacc|cons _ _=>rfl)]
 |x::r,k+1,acc,st,hk,hne,hlen,hr,hg,h=>by
  obtain⟨r1,r2,r3,r4,r5⟩:=hr;simp only[zs]at hk hlen;have h:Sq s st.1 (tkN x::(r.map tkN++tkS 41::l)):=h;obtain⟨hn,hgot⟩:=zbp hg h r2 r3;obtain⟨_,e,_⟩:=id h;have e1:zB st.1=3:=congrArg (fun a=>a.1) e;have e2:xO st.1=x:=congrArg (fun a=>a.2.2) e;have hc:gIs st zcV=false:=by rw[zhA h];rfl
  have hl:(acc++ [x]).getLast?.getD (lo - 1)=x:=by rw[List.getLast?_append];rfl
  obtain⟨st',h1,h2⟩:=zn1 r k (acc++ [x]) (gAdv s st) (by omega) (fun e=>by simp at e) (by rw[zh,yH];omega) (by rw[hl];exact r5) hgot.ok hgot.sq;refine⟨st',?_,hgot.trans0 h2⟩;rw[zr]at h1;unfold zbI;rw[hc,xP,if_neg yG];have c1:zaC st (zB st.1==3) 3= .ok ():=by rw[e1];rfl
  have c2:zaC st (decide (acc.length < 64)) 2= .ok ():=by rw[decide_eq_true (by omega)];rfl
  have c3:zaC st (decide (xO st.1 > acc.getLast?.getD (lo - 1))&&(z||(xO st.1 != 0))) 1= .ok ():=by
   rw[e2,decide_eq_true r1];have:(z||(x != 0))=true:=by
    rcases r4 with rfl|r4
    ·rfl
    ·rw[ya];exact .inr (bne_iff_ne.2 r4)
   rw[this];rfl
  refine (okb c1 _).trans ((okb c2 _).trans ((okb c3 _).trans ((okb hn _).trans ?_)));exact h1
def zcW (l:List Int):List Tk:=tkS 40::(l.map tkN++ [tkS 41])
theorem zgR {lo hi:Int} {z:Bool} {xs:List Int} {l:List Tk} {st:GSt} (hne:xs≠ []) (hlen:xs.length≤64) (hr:Ris lo hi z (lo - 1) xs) (hg:GOk s st) (h:Sq s st.1 (zcW xs++l)):
  ∃ st',zcG s st lo hi z= .ok (xs,st')∧Got s st 0 l st':=by
 have h:Sq s st.1 (tkS 40::(xs.map tkN++ [tkS 41]++l)):=h;obtain⟨e1,g1⟩:=zgm (w:=zeS) hg h rfl;obtain⟨s2,e2,g2⟩:=zn1 (lo:=lo) (hi:=hi) (z:=z) (l:=l) xs 66 [] (gAdv s st) (by omega) (fun _=>hne) (by simpa using hlen) hr g1.ok (by have:=g1.sq;rwa[zr]at this);obtain⟨e3,g3⟩:=zgm (w:=zcV) g2.ok g2.sq rfl;refine⟨gAdv s s2,?_,(g1.trans0 g2).trans0 g3⟩;unfold zcG;exact (okb e1 _).trans ((okb e2 _).trans ((okb e3 _).trans rfl))
def zd3 (n:Int):Tk:=tkW (if n=1 then zdW else zjf)
theorem znZ {st:GSt} {x:Int} {l:List Tk} (hx:x=0∨x=1) (hg:GOk s st) (h:Sq s st.1 (zd3 x::l)):zcY s st= .ok (x,gAdv s st)∧Got s st 0 l (gAdv s st):=by
 refine⟨?_,zpT hg h⟩;have i1:=zhA h zjf;have i2:=zhA h zdW;obtain⟨_,e,_⟩:=h;have e1:zE st.1=(zd3 x).2.1:=congrArg (fun a=>a.2.1) e;unfold zcY zaC;rw[i1,i2,e1];rcases hx with rfl|rfl<;>rfl
end
def zjQ (n:Nd):List Tk:=
 if ndK n=1 then [tkW zjg,tkN (ndN n),tkN (ndM n)]
 else if ndK n=2 then [tkW zfY,tkN (ndC n),tkN (ndN n),tkN (ndM n)]
 else if ndK n=3 then tkW zcm::tkN (ndC n)::zcW (ndI n)
 else if ndK n=4 then tkW za6::tkN (ndC n)::zcW (ndI n)
 else if ndK n=5 then tkW zbo::zcW (ndI n)
 else if ndK n=6 then tkW zdm::tkN (ndC n)::zcW (ndI n)
 else if ndK n=7 then [tkW wNth,tkN (ndC n),tkN (ndN n),tkN (ndM n),zd3 (ndL n)]
 else if ndK n=18 then [tkR (ndS n)]
 else []
def zil (b:List Tk) (n:Nd):List Tk:=
 if ndK n=11 then [tkW zeR,tkN (ndN n)]
 else if ndK n=12 then [tkW zii,tkN (ndN n)]
 else if ndK n=13 then [tkW zeQ,tkN (ndN n)]
 else if ndK n=14 then tkW zeT::zcW (ndI n)
 else if ndK n=15 then tkW zcn::zcW (ndI n)
 else if ndK n=16 then tkW wPos::tkN (ndC n)::zd3 (ndM n)::zcW (ndI n)
 else if ndK n=17 then tkW zbX::tkN (ndN n)::tkW wOf::b
 else []
def Tr.root:Tr->Nd
 | .leaf n=>n
 | .un n _=>n
 | .bin n _ _=>n
def Tr.lev (t:Tr):Int:=levS (ndK t.root)
def parT (c:Bool) (l:List Tk):List Tk:=if c then l else tkS 40::(l++ [tkS 41])
def Tr.toks:Tr->List Tk
 | .leaf n=>zjQ n
 | .un n a=>parT (decide (a.lev≥4)) a.toks++zil [] n
 | .bin n a b=>if ndK n=17 then parT (decide (a.lev≥4)) a.toks++zil (parT (decide (b.lev≥5)) b.toks) n
  else parT (decide (a.lev≥levS (ndK n))) a.toks++(tkW (opWd (levS (ndK n)))::parT (decide (b.lev≥levS (ndK n)+1)) b.toks)
def zdu (k:Int):Shp:=zcC.getD k.toNat (0,false,(0,0,()),())
def zeA (n:Nd):Bool:=bif (zdu (ndK n)).2.1 then inB (ndC n) 0 2 else ndC n==0
def zev (w:List UInt8):Bool:=decide (w≠ [])&&decide (w.length≤32)&&(w.head?.all isLt&&w.all isPt)
def ziF (n:Nd):Bool:=bif ndK n==18 then zev (ndS n) else decide (ndS n=[])
def zbr (n:Nd):Bool:=inB (ndK n) 1 18&&decide ((ndI n).length≤64)&&(zeA n&&(ziF n&&(zaS (ndI n) (zdu (ndK n)).2.2.1&&zcP n)))
def TrOk:Tr->Prop
 | .leaf n=>zbr n=true∧¬ (8≤ndK n∧ndK n≤17)∧ndR n=0∧(ndK n≠7->ndL n=0)
 | .un n a=>zbr n=true∧(11≤ndK n∧ndK n≤16)∧(ndL n=0∧ndR n=0)∧TrOk a
 | .bin n a b=>zbr n=true∧((8≤ndK n∧ndK n≤10)∨ndK n=17)∧(ndL n=0∧ndR n=0)∧TrOk a∧TrOk b
theorem zaJ {n lo hi:Int}:inB n lo hi=true↔lo≤n∧n≤hi:=by
 unfold inB;rw[zb,decide_eq_true_iff,decide_eq_true_iff]
theorem zaD {n:Nd} (h:zbr n=true):(1≤ndK n∧ndK n≤18)∧(ndI n).length≤64∧zeA n=true∧ziF n=true∧zaS (ndI n) (zdu (ndK n)).2.2.1=true∧zcP n=true:=by
 unfold zbr at h;simp only[zb,zaJ,decide_eq_true_iff]at h;exact⟨h.1.1,h.1.2,h.2.1,h.2.2.1,h.2.2.2.1,h.2.2.2.2⟩
theorem ris_of {l:List Int} {lo hi:Int} (h:∀ i,i < l.length->zhr l (lo,hi,()) i=false):Ris lo hi (decide (¬ lo < 0)) (lo - 1) l:=by
 have key:∀ (r p:List Int) (last:Int),l=p++r->(p≠ []->last=l.getD (p.length - 1) 0)->(p=[]->last=lo - 1)->Ris lo hi (decide (¬ lo < 0)) last r:=by
  intro r
  induction r with
  |nil=>intro p last _ _ _;trivial
  |cons x r ih=>
   intro p last hl hp hp0;have hlen:p.length < l.length:=by rw[hl,zh,zs];omega
   have hx:l.getD p.length 0=x:=by
    rw[hl,zM,xn (zk _),Nat.sub_self];rfl
   have hb:=h p.length hlen;unfold zhr at hb;rw[hx]at hb;simp only[x9,y8,zaJ,ji,decide_eq_false_iff_not,beq_eq_false_iff_ne]at hb;obtain⟨⟨⟨b1,b2⟩,b3⟩,b4⟩:=hb;refine⟨?_,b1,b2,?_,ih (p++ [x]) x (by rw[hl];simp) (fun _=>?_) (fun e=>by simp at e)⟩
   ·cases p with
    |nil=>rw[hp0 rfl];omega
    |cons y p=>
     rw[hp (by simp)];rcases b3 with b3|b3
     ·exact absurd (by simp:0 < (y::p).length) b3
     ·omega
   ·rcases b4 with b4|b4
    ·exact .inr b4
    ·exact .inl (decide_eq_true b4)
   ·rw[show (p++ [x]).length - 1=p.length by simp,hx]
 exact key l [] (lo - 1) rfl (fun h=>absurd rfl h) fun _=>rfl
theorem zeJ {l:List Int} {lo hi:Int} (h0:¬ (lo=0∧hi=0)) (h:zaS l (lo,hi,())=true):l≠ []∧Ris lo hi (decide (¬ lo < 0)) (lo - 1) l:=by
 have hz:zgY (lo,hi,())=false:=by
  rw[qf];intro e;unfold zgY at e;rw[zb,beq_iff_eq,beq_iff_eq]at e;exact h0 e
 unfold zaS at h;rw[hz,cond_false,zb,decide_eq_true_iff,zV]at h;refine⟨fun e=>by rw[e]at h;exact absurd h.2 (by decide),ris_of fun i hi=>?_⟩;have:=h.1 i (yk.2 hi);rwa[zy]at this
theorem zc8 {l:List Int} (h:zaS l (0,0,())=true):l=[]:=by
 have h:(((l.length:Nat):Int)==0)=true:=h;have:=beq_iff_eq.1 h;exact List.eq_nil_of_length_eq_zero (by omega)
theorem fld1 {n:Nd} (h:zbr n=true) (k:ndK n=1):n=(1,0,ndL n,ndR n,ndN n,ndM n,[],[],())∧(1≤ndN n∧ndN n≤1099511627776)∧(0≤ndM n∧ndM n≤1099511627776):=by
 obtain⟨_,hlen,hc,hm,hl,hn⟩:=zaD h;obtain⟨k',c,L,R,N,M,I,S,⟨⟩⟩:=n;obtain rfl:k'=1:=k;have hc2:(c==0)=true:=hc;obtain rfl:=beq_iff_eq.1 hc2;have hm2:decide (S=[])=true:=hm;obtain rfl:=of_decide_eq_true hm2;obtain rfl:=zc8 (show zaS I (0,0,())=true from hl);have hn2:(bif inB N 1 1099511627776 then inB M 0 1099511627776 else false)=true:=hn;simp only[zdk,zb,zaJ,beq_iff_eq,zy,beq_eq_false_iff_ne]at hn2;exact⟨rfl,hn2.1,hn2.2⟩
theorem fld2 {n:Nd} (h:zbr n=true) (k:ndK n=2):n=(2,ndC n,ndL n,ndR n,ndN n,ndM n,[],[],())∧(0≤ndC n∧ndC n≤2)∧(1≤ndN n∧ndN n≤400)∧(0≤ndM n∧ndM n≤ndN n - 1):=by
 obtain⟨_,hlen,hc,hm,hl,hn⟩:=zaD h;obtain⟨k',c,L,R,N,M,I,S,⟨⟩⟩:=n;obtain rfl:k'=2:=k;have hc2:inB c 0 2=true:=hc;rw[zaJ]at hc2;have hm2:decide (S=[])=true:=hm;obtain rfl:=of_decide_eq_true hm2;obtain rfl:=zc8 (show zaS I (0,0,())=true from hl);have hn2:(bif inB N 1 400 then inB M 0 (N - 1) else false)=true:=hn;simp only[zdk,zb,zaJ,beq_iff_eq,zy,beq_eq_false_iff_ne]at hn2;exact⟨rfl,hc2,hn2.1,hn2.2⟩
theorem fld3 {n:Nd} (h:zbr n=true) (k:ndK n=3):n=(3,ndC n,ndL n,ndR n,0,0,ndI n,[],())∧(0≤ndC n∧ndC n≤2)∧(ndI n≠ []∧(ndI n).length≤64∧Ris (1) 16 true (0) (ndI n)):=by
 obtain⟨_,hlen,hc,hm,hl,hn⟩:=zaD h;obtain⟨k',c,L,R,N,M,I,S,⟨⟩⟩:=n;obtain rfl:k'=3:=k;have hc2:inB c 0 2=true:=hc;rw[zaJ]at hc2;have hm2:decide (S=[])=true:=hm;obtain rfl:=of_decide_eq_true hm2;have hl2:=zeJ (by decide) (show zaS I (1,16,())=true from hl);have hn2:(bif N==0 then M==0 else false)=true:=hn;simp only[zdk,zb,zaJ,beq_iff_eq,zy,beq_eq_false_iff_ne]at hn2;obtain⟨rfl,rfl⟩:=hn2;exact⟨rfl,hc2,⟨hl2.1,hlen,hl2.2⟩⟩
theorem fld4 {n:Nd} (h:zbr n=true) (k:ndK n=4):n=(4,ndC n,ndL n,ndR n,0,0,ndI n,[],())∧(0≤ndC n∧ndC n≤2)∧(ndI n≠ []∧(ndI n).length≤64∧Ris (-40) 40 false (-41) (ndI n)):=by
 obtain⟨_,hlen,hc,hm,hl,hn⟩:=zaD h;obtain⟨k',c,L,R,N,M,I,S,⟨⟩⟩:=n;obtain rfl:k'=4:=k;have hc2:inB c 0 2=true:=hc;rw[zaJ]at hc2;have hm2:decide (S=[])=true:=hm;obtain rfl:=of_decide_eq_true hm2;have hl2:=zeJ (by decide) (show zaS I (-40,40,())=true from hl);have hn2:(bif N==0 then M==0 else false)=true:=hn;simp only[zdk,zb,zaJ,beq_iff_eq,zy,beq_eq_false_iff_ne]at hn2;obtain⟨rfl,rfl⟩:=hn2;exact⟨rfl,hc2,⟨hl2.1,hlen,hl2.2⟩⟩
theorem fld5 {n:Nd} (h:zbr n=true) (k:ndK n=5):n=(5,0,ndL n,ndR n,0,0,ndI n,[],())∧(ndI n≠ []∧(ndI n).length≤64∧Ris (0) 6 true (-1) (ndI n)):=by
 obtain⟨_,hlen,hc,hm,hl,hn⟩:=zaD h;obtain⟨k',c,L,R,N,M,I,S,⟨⟩⟩:=n;obtain rfl:k'=5:=k;have hc2:(c==0)=true:=hc;obtain rfl:=beq_iff_eq.1 hc2;have hm2:decide (S=[])=true:=hm;obtain rfl:=of_decide_eq_true hm2;have hl2:=zeJ (by decide) (show zaS I (0,6,())=true from hl);have hn2:(bif N==0 then M==0 else false)=true:=hn;simp only[zdk,zb,zaJ,beq_iff_eq,zy,beq_eq_false_iff_ne]at hn2;obtain⟨rfl,rfl⟩:=hn2;exact⟨rfl,⟨hl2.1,hlen,hl2.2⟩⟩
theorem fld6 {n:Nd} (h:zbr n=true) (k:ndK n=6):n=(6,ndC n,ndL n,ndR n,0,0,ndI n,[],())∧(0≤ndC n∧ndC n≤2)∧(ndI n≠ []∧(ndI n).length≤64∧Ris (1) 54 true (0) (ndI n)):=by
 obtain⟨_,hlen,hc,hm,hl,hn⟩:=zaD h;obtain⟨k',c,L,R,N,M,I,S,⟨⟩⟩:=n;obtain rfl:k'=6:=k;have hc2:inB c 0 2=true:=hc;rw[zaJ]at hc2;have hm2:decide (S=[])=true:=hm;obtain rfl:=of_decide_eq_true hm2;have hl2:=zeJ (by decide) (show zaS I (1,54,())=true from hl);have hn2:(bif N==0 then M==0 else false)=true:=hn;simp only[zdk,zb,zaJ,beq_iff_eq,zy,beq_eq_false_iff_ne]at hn2;obtain⟨rfl,rfl⟩:=hn2;exact⟨rfl,hc2,⟨hl2.1,hlen,hl2.2⟩⟩
theorem fld7 {n:Nd} (h:zbr n=true) (k:ndK n=7):n=(7,ndC n,ndL n,ndR n,ndN n,ndM n,[],[],())∧(0≤ndC n∧ndC n≤2)∧(-60≤ndN n∧ndN n≤60)∧ndN n≠0∧(0≤ndM n∧ndM n≤6)∧(0≤ndL n∧ndL n≤1):=by
 obtain⟨_,hlen,hc,hm,hl,hn⟩:=zaD h;obtain⟨k',c,L,R,N,M,I,S,⟨⟩⟩:=n;obtain rfl:k'=7:=k;have hc2:inB c 0 2=true:=hc;rw[zaJ]at hc2;have hm2:decide (S=[])=true:=hm;obtain rfl:=of_decide_eq_true hm2;obtain rfl:=zc8 (show zaS I (0,0,())=true from hl);have hn2:(bif (bif (bif inB N (-60) 60 then !(N==0) else false) then inB M 0 6 else false) then inB L 0 1 else false)=true:=hn;simp only[zdk,zb,zaJ,beq_iff_eq,zy,beq_eq_false_iff_ne]at hn2;exact⟨rfl,hc2,hn2.1.1.1,hn2.1.1.2,hn2.1.2,hn2.2⟩
theorem fld8 {n:Nd} (h:zbr n=true) (k:ndK n=8):n=(8,0,ndL n,ndR n,0,0,[],[],()):=by
 obtain⟨_,hlen,hc,hm,hl,hn⟩:=zaD h;obtain⟨k',c,L,R,N,M,I,S,⟨⟩⟩:=n;obtain rfl:k'=8:=k;have hc2:(c==0)=true:=hc;obtain rfl:=beq_iff_eq.1 hc2;have hm2:decide (S=[])=true:=hm;obtain rfl:=of_decide_eq_true hm2;obtain rfl:=zc8 (show zaS I (0,0,())=true from hl);have hn2:(bif N==0 then M==0 else false)=true:=hn;simp only[zdk,zb,zaJ,beq_iff_eq,zy,beq_eq_false_iff_ne]at hn2;obtain⟨rfl,rfl⟩:=hn2;exact rfl
theorem fld9 {n:Nd} (h:zbr n=true) (k:ndK n=9):n=(9,0,ndL n,ndR n,0,0,[],[],()):=by
 obtain⟨_,hlen,hc,hm,hl,hn⟩:=zaD h;obtain⟨k',c,L,R,N,M,I,S,⟨⟩⟩:=n;obtain rfl:k'=9:=k;have hc2:(c==0)=true:=hc;obtain rfl:=beq_iff_eq.1 hc2;have hm2:decide (S=[])=true:=hm;obtain rfl:=of_decide_eq_true hm2;obtain rfl:=zc8 (show zaS I (0,0,())=true from hl);have hn2:(bif N==0 then M==0 else false)=true:=hn;simp only[zdk,zb,zaJ,beq_iff_eq,zy,beq_eq_false_iff_ne]at hn2;obtain⟨rfl,rfl⟩:=hn2;exact rfl
theorem fld10 {n:Nd} (h:zbr n=true) (k:ndK n=10):n=(10,0,ndL n,ndR n,0,0,[],[],()):=by
 obtain⟨_,hlen,hc,hm,hl,hn⟩:=zaD h;obtain⟨k',c,L,R,N,M,I,S,⟨⟩⟩:=n;obtain rfl:k'=10:=k;have hc2:(c==0)=true:=hc;obtain rfl:=beq_iff_eq.1 hc2;have hm2:decide (S=[])=true:=hm;obtain rfl:=of_decide_eq_true hm2;obtain rfl:=zc8 (show zaS I (0,0,())=true from hl);have hn2:(bif N==0 then M==0 else false)=true:=hn;simp only[zdk,zb,zaJ,beq_iff_eq,zy,beq_eq_false_iff_ne]at hn2;obtain⟨rfl,rfl⟩:=hn2;exact rfl
theorem zsy {n:Nd} (h:zbr n=true) (k:ndK n=11):n=(11,0,ndL n,ndR n,ndN n,0,[],[],())∧(-1099511627776≤ndN n∧ndN n≤1099511627776):=by
 obtain⟨_,hlen,hc,hm,hl,hn⟩:=zaD h;obtain⟨k',c,L,R,N,M,I,S,⟨⟩⟩:=n;obtain rfl:k'=11:=k;have hc2:(c==0)=true:=hc;obtain rfl:=beq_iff_eq.1 hc2;have hm2:decide (S=[])=true:=hm;obtain rfl:=of_decide_eq_true hm2;obtain rfl:=zc8 (show zaS I (0,0,())=true from hl);have hn2:(bif inB N (-1099511627776) 1099511627776 then M==0 else false)=true:=hn;simp only[zdk,zb,zaJ,beq_iff_eq,zy,beq_eq_false_iff_ne]at hn2;obtain rfl:=hn2.2;exact⟨rfl,hn2.1⟩
theorem zsx {n:Nd} (h:zbr n=true) (k:ndK n=12):n=(12,0,ndL n,ndR n,ndN n,0,[],[],())∧(0≤ndN n∧ndN n≤1099511627776):=by
 obtain⟨_,hlen,hc,hm,hl,hn⟩:=zaD h;obtain⟨k',c,L,R,N,M,I,S,⟨⟩⟩:=n;obtain rfl:k'=12:=k;have hc2:(c==0)=true:=hc;obtain rfl:=beq_iff_eq.1 hc2;have hm2:decide (S=[])=true:=hm;obtain rfl:=of_decide_eq_true hm2;obtain rfl:=zc8 (show zaS I (0,0,())=true from hl);have hn2:(bif inB N 0 1099511627776 then M==0 else false)=true:=hn;simp only[zdk,zb,zaJ,beq_iff_eq,zy,beq_eq_false_iff_ne]at hn2;obtain rfl:=hn2.2;exact⟨rfl,hn2.1⟩
theorem zsw {n:Nd} (h:zbr n=true) (k:ndK n=13):n=(13,0,ndL n,ndR n,ndN n,0,[],[],())∧(0≤ndN n∧ndN n≤1099511627776):=by
 obtain⟨_,hlen,hc,hm,hl,hn⟩:=zaD h;obtain⟨k',c,L,R,N,M,I,S,⟨⟩⟩:=n;obtain rfl:k'=13:=k;have hc2:(c==0)=true:=hc;obtain rfl:=beq_iff_eq.1 hc2;have hm2:decide (S=[])=true:=hm;obtain rfl:=of_decide_eq_true hm2;obtain rfl:=zc8 (show zaS I (0,0,())=true from hl);have hn2:(bif inB N 0 1099511627776 then M==0 else false)=true:=hn;simp only[zdk,zb,zaJ,beq_iff_eq,zy,beq_eq_false_iff_ne]at hn2;obtain rfl:=hn2.2;exact⟨rfl,hn2.1⟩
theorem zsv {n:Nd} (h:zbr n=true) (k:ndK n=14):n=(14,0,ndL n,ndR n,0,0,ndI n,[],())∧(ndI n≠ []∧(ndI n).length≤64∧Ris (0) 1099511627776 true (-1) (ndI n)):=by
 obtain⟨_,hlen,hc,hm,hl,hn⟩:=zaD h;obtain⟨k',c,L,R,N,M,I,S,⟨⟩⟩:=n;obtain rfl:k'=14:=k;have hc2:(c==0)=true:=hc;obtain rfl:=beq_iff_eq.1 hc2;have hm2:decide (S=[])=true:=hm;obtain rfl:=of_decide_eq_true hm2;have hl2:=zeJ (by decide) (show zaS I (0,1099511627776,())=true from hl);have hn2:(bif N==0 then M==0 else false)=true:=hn;simp only[zdk,zb,zaJ,beq_iff_eq,zy,beq_eq_false_iff_ne]at hn2;obtain⟨rfl,rfl⟩:=hn2;exact⟨rfl,⟨hl2.1,hlen,hl2.2⟩⟩
theorem zsu {n:Nd} (h:zbr n=true) (k:ndK n=15):n=(15,0,ndL n,ndR n,0,0,ndI n,[],())∧(ndI n≠ []∧(ndI n).length≤64∧Ris (0) 1099511627776 true (-1) (ndI n)):=by
 obtain⟨_,hlen,hc,hm,hl,hn⟩:=zaD h;obtain⟨k',c,L,R,N,M,I,S,⟨⟩⟩:=n;obtain rfl:k'=15:=k;have hc2:(c==0)=true:=hc;obtain rfl:=beq_iff_eq.1 hc2;have hm2:decide (S=[])=true:=hm;obtain rfl:=of_decide_eq_true hm2;have hl2:=zeJ (by decide) (show zaS I (0,1099511627776,())=true from hl);have hn2:(bif N==0 then M==0 else false)=true:=hn;simp only[zdk,zb,zaJ,beq_iff_eq,zy,beq_eq_false_iff_ne]at hn2;obtain⟨rfl,rfl⟩:=hn2;exact⟨rfl,⟨hl2.1,hlen,hl2.2⟩⟩
theorem zst {n:Nd} (h:zbr n=true) (k:ndK n=16):n=(16,ndC n,ndL n,ndR n,0,ndM n,ndI n,[],())∧(0≤ndC n∧ndC n≤2)∧(ndI n≠ []∧(ndI n).length≤64∧Ris (-400) 400 false (-401) (ndI n))∧(0≤ndM n∧ndM n≤1):=by
 obtain⟨_,hlen,hc,hm,hl,hn⟩:=zaD h;obtain⟨k',c,L,R,N,M,I,S,⟨⟩⟩:=n;obtain rfl:k'=16:=k;have hc2:inB c 0 2=true:=hc;rw[zaJ]at hc2;have hm2:decide (S=[])=true:=hm;obtain rfl:=of_decide_eq_true hm2;have hl2:=zeJ (by decide) (show zaS I (-400,400,())=true from hl);have hn2:(bif N==0 then inB M 0 1 else false)=true:=hn;simp only[zdk,zb,zaJ,beq_iff_eq,zy,beq_eq_false_iff_ne]at hn2;obtain rfl:=hn2.1;exact⟨rfl,hc2,⟨hl2.1,hlen,hl2.2⟩,hn2.2⟩
theorem zss {n:Nd} (h:zbr n=true) (k:ndK n=17):n=(17,0,ndL n,ndR n,ndN n,0,[],[],())∧(1≤ndN n∧ndN n≤400):=by
 obtain⟨_,hlen,hc,hm,hl,hn⟩:=zaD h;obtain⟨k',c,L,R,N,M,I,S,⟨⟩⟩:=n;obtain rfl:k'=17:=k;have hc2:(c==0)=true:=hc;obtain rfl:=beq_iff_eq.1 hc2;have hm2:decide (S=[])=true:=hm;obtain rfl:=of_decide_eq_true hm2;obtain rfl:=zc8 (show zaS I (0,0,())=true from hl);have hn2:(bif inB N 1 400 then M==0 else false)=true:=hn;simp only[zdk,zb,zaJ,beq_iff_eq,zy,beq_eq_false_iff_ne]at hn2;obtain rfl:=hn2.2;exact⟨rfl,hn2.1⟩
theorem zsr {n:Nd} (h:zbr n=true) (k:ndK n=18):n=(18,0,ndL n,ndR n,0,0,[],ndS n,())∧zev (ndS n)=true:=by
 obtain⟨_,hlen,hc,hm,hl,hn⟩:=zaD h;obtain⟨k',c,L,R,N,M,I,S,⟨⟩⟩:=n;obtain rfl:k'=18:=k;have hc2:(c==0)=true:=hc;obtain rfl:=beq_iff_eq.1 hc2;have hm2:zev S=true:=hm;obtain rfl:=zc8 (show zaS I (0,0,())=true from hl);have hn2:(bif N==0 then M==0 else false)=true:=hn;simp only[zdk,zb,zaJ,beq_iff_eq,zy,beq_eq_false_iff_ne]at hn2;obtain⟨rfl,rfl⟩:=hn2;exact⟨rfl,hm2⟩
def resQ (s:List UInt8):Nat->GSt->GE (Tr×GSt)
 |0,st=>prsT s (.bin 0) st
 |1,st=>prsT s (.bin 1) st
 |2,st=>prsT s (.bin 2) st
 |3,st=>prsT s .chain st
 |_,st=>prsT s .prim st
def contQ (s:List UInt8):Nat->Tr->GSt->GE (Tr×GSt)
 |0,t,st=>prsT s (.binL 0 t) st
 |1,t,st=>prsT s (.binL 1 t) st
 |2,t,st=>prsT s (.binL 2 t) st
 |3,t,st=>prsT s (.chainL t) st
 |_,t,st=>.ok (t,st)
def zp3:List Tk->Prop
 | []=>True
 |a::_=>a.1=1->sufW a.2.1=none
def zsq:Nat->List Tk->Prop
 |0,l=>tkIs zlm l=false∧tkIs wAnd l=false∧zp3 l
 |1,l=>tkIs wAnd l=false∧zp3 l
 |2,l=>zp3 l
 |_,_=>True
def Qt (i:Nat) (T:List Tk) (t:Tr):Prop:=∀ (s:List UInt8) (st:GSt) (l:List Tk),GOk s st->Sq s st.1 (T++l)->st.2+(t.size:Int)≤64->zsq i l->∃ st',resQ s i st=contQ s i t st'∧Got s st t.size l st'
section
variable {s:List UInt8}
theorem zn0 {st:GSt} {l:List Tk} {t:Tr} (hg:GOk s st) (h:Sq s st.1 l) (hf:zp3 l):prsT s (.chainL t) st= .ok (t,st):=by
 cases l with
 |nil=>
  have h:zB st.1=0:=h;exact zd6 hg (by rw[h];decide)
 |cons a l=>
  have hf:a.1=1->sufW a.2.1=none:=hf;obtain⟨_,e,_⟩:=h;have e1:zB st.1=a.1:=congrArg (fun a=>a.1) e;have e2:zE st.1=a.2.1:=congrArg (fun a=>a.2.1) e;by_cases hc:a.1=1
  ·exact zf1 hg (by rw[e1,hc]) (by rw[e2];exact hf hc)
  ·exact zd6 hg (by rw[e1];exact hc)
theorem zhW {i:Nat} {st:GSt} {l:List Tk} {t:Tr} (hg:GOk s st) (h:Sq s st.1 l) (hf:tkIs (opW i) l=false):prsT s (.binL i t) st= .ok (t,st):=zhZ hg (by rw[zhA h];exact hf)
theorem Qt.chain {T:List Tk} {t:Tr} (h:Qt 4 T t):Qt 3 T t:=fun s st l hg hq hn hf=>by
 obtain⟨st',e,g⟩:=h s st l hg hq hn trivial;have e:prsT s .prim st= .ok (t,st'):=e;exact⟨st',by show prsT s .chain st=prsT s (.chainL t) st';rw[zhX hg];exact okb e _,g⟩
theorem Qt.up3 {T:List Tk} {t:Tr} (h:Qt 3 T t):Qt 2 T t:=fun s st l hg hq hn hf=>by
 obtain⟨st',e,g⟩:=h s st l hg hq hn trivial;have e:prsT s .chain st=prsT s (.chainL t) st':=e;rw[zn0 g.ok g.sq hf]at e;refine⟨st',?_,g⟩;show prsT s (.bin 2) st=prsT s (.binL 2 t) st';rw[zgn hg (by decide),zgT hg (by decide)];exact okb e _
theorem Qt.up2 {T:List Tk} {t:Tr} (h:Qt 2 T t):Qt 1 T t:=fun s st l hg hq hn hf=>by
 obtain⟨st',e,g⟩:=h s st l hg hq hn hf.2;have e:prsT s (.bin 2) st=prsT s (.binL 2 t) st':=e;rw[zhW (i:=2) g.ok g.sq hf.1]at e;refine⟨st',?_,g⟩;show prsT s (.bin 1) st=prsT s (.binL 1 t) st';rw[zgn hg (by decide)];exact okb e _
theorem Qt.up1 {T:List Tk} {t:Tr} (h:Qt 1 T t):Qt 0 T t:=fun s st l hg hq hn hf=>by
 obtain⟨st',e,g⟩:=h s st l hg hq hn hf.2;have e:prsT s (.bin 1) st=prsT s (.binL 1 t) st':=e;rw[zhW (i:=1) g.ok g.sq hf.1]at e;refine⟨st',?_,g⟩;show prsT s (.bin 0) st=prsT s (.binL 0 t) st';rw[zgn hg (by decide)];exact okb e _
theorem Qt.up {T:List Tk} {t:Tr}:∀ {j i:Nat},Qt j T t->i≤j->j≤4->Qt i T t:=by
 intro j i h hij hj;have h4:j=4->∀ i,i≤4->Qt i T t:=by
  rintro rfl i hi;rcases (show i=0∨i=1∨i=2∨i=3∨i=4 by omega) with rfl|rfl|rfl|rfl|rfl
  ·exact h.chain.up3.up2.up1
  ·exact h.chain.up3.up2
  ·exact h.chain.up3
  ·exact h.chain
  ·exact h
 rcases (show j=0∨j=1∨j=2∨j=3∨j=4 by omega) with rfl|rfl|rfl|rfl|rfl
 ·obtain rfl:i=0:=by omega
  exact h
 ·rcases (show i=0∨i=1 by omega) with rfl|rfl
  ·exact h.up1
  ·exact h
 ·rcases (show i=0∨i=1∨i=2 by omega) with rfl|rfl|rfl
  ·exact h.up2.up1
  ·exact h.up2
  ·exact h
 ·rcases (show i=0∨i=1∨i=2∨i=3 by omega) with rfl|rfl|rfl|rfl
  ·exact h.up3.up2.up1
  ·exact h.up3.up2
  ·exact h.up3
  ·exact h
 ·exact h4 rfl i hij
theorem Qt.par {T:List Tk} {t:Tr} (h:Qt 0 T t):Qt 4 (tkS 40::(T++ [tkS 41])) t:=fun s st l hg hq hn hf=>by
 have hq:Sq s st.1 (tkS 40::(T++ [tkS 41]++l)):=hq;have i1:gIs st zeS=true:=by rw[zhA hq];rfl
 have g1:=zpT hg hq;have q1:=g1.sq;rw[zr]at q1;obtain⟨st',e,g2⟩:=h s (gAdv s st) (tkS 41::l) g1.ok q1 hn ⟨rfl,rfl,fun e=>by cases e⟩;have e:prsT s (.bin 0) (gAdv s st)=prsT s (.binL 0 t) st':=e;rw[zhW g2.ok g2.sq rfl]at e;obtain⟨e3,g3⟩:=zgm (w:=zcV) g2.ok g2.sq rfl;refine⟨gAdv s st',?_,?_⟩
 ·show prsT s .prim st= .ok (t,gAdv s st');rw[zcr hg,zaW,if_pos i1];exact (okb e _).trans ((okb e3 _).trans rfl)
 ·have:=(g1.trans g2).trans0 g3;rwa[k6]at this
theorem zgQ {st:GSt} {w:List UInt8} {lw:LeafW} {T l:List Tk} {n:Nd} (hw:zgg w=some lw) (hw1:w≠zeS) (hg:GOk s st) (h:Sq s st.1 (tkW w::(T++l))) (hn:st.2+1≤64)
  (hl:∀ st1,GOk s st1->Sq s st1.1 (T++l)->∃ st2,zcN s st1 lw= .ok (n,st2)∧Got s st1 0 l st2):∃ st',prsT s .prim st= .ok (.leaf n,st')∧Got s st 1 l st':=by
 have i1:gIs st zeS=false:=by
  rw[zhA h];show (true&&decide (w=zeS))=false;rw[decide_eq_false hw1];rfl
 obtain⟨e0,g0⟩:=ziy hg h (by omega);obtain⟨_,e,_⟩:=id h;have e1:zB st.1=1:=congrArg (fun a=>a.1) e;have e2:zE st.1=w:=congrArg (fun a=>a.2.1) e;obtain⟨st2,e3,g3⟩:=hl _ g0.ok g0.sq;refine⟨st2,?_,g0.trans0 g3⟩;rw[zcr hg,zaW,if_neg (by rw[i1];exact yG),if_neg (by rw[e1];decide)];have c0:zaC st (zB st.1==1) 3= .ok ():=by rw[e1];rfl
 refine (okb c0 _).trans ?_;rw[e2,hw];exact (okb e0 _).trans ((okb e3 _).trans rfl)
theorem q_ref {st:GSt} {w:List UInt8} {l:List Tk} (hw:w.length≤32) (hg:GOk s st) (h:Sq s st.1 (tkR w::l)) (hn:st.2+1≤64):∃ st',prsT s .prim st= .ok (.leaf (18,0,0,0,0,0,[],w,()),st')∧Got s st 1 l st':=by
 have i1:gIs st zeS=false:=by rw[zhA h];rfl
 obtain⟨e0,g0⟩:=ziy hg h (by omega);obtain⟨_,e,_⟩:=id h;have e1:zB st.1=2:=congrArg (fun a=>a.1) e;have e2:zE st.1=w:=congrArg (fun a=>a.2.1) e;refine⟨_,?_,g0⟩;rw[zcr hg,zaW,if_neg (by rw[i1];exact yG),if_pos e1];have c0:zaC st (decide ((zE st.1).length≤32)) 2= .ok ():=by rw[e2,decide_eq_true hw];rfl
 refine (okb c0 _).trans ((okb e0 _).trans ?_);rw[e2];rfl
theorem setN {n:Nd} {k c L R N M:Int} {I:List Int} {S:List UInt8} (e:n=(k,c,ndL n,ndR n,N,M,I,S,())) (hL:ndL n=L) (hR:ndR n=R):n=(k,c,L,R,N,M,I,S,()):=by rw[<-hL, <-hR];exact e
theorem zrP {n:Nd} (h:TrOk (.leaf n)):Qt 4 (zjQ n) (.leaf n):=fun s st l hg hq hn hf=>by
 obtain⟨h1,h2,hR,hL⟩:=h;have hn:st.2+1≤64:=hn;obtain⟨⟨k1,k2⟩,_⟩:=zaD h1;show ∃ st',prsT s .prim st= .ok (.leaf n,st')∧Got s st 1 l st';unfold zjQ at hq;rcases (show ndK n=1∨ndK n=2∨ndK n=3∨ndK n=4∨ndK n=5∨ndK n=6∨ndK n=7∨ndK n=18 by omega) with k|k|k|k|k|k|k|k<;>rw[k]at hq hL
 ·obtain⟨e,b1,b2⟩:=fld1 h1 k;have e:=setN e (hL (by decide)) hR;refine zgQ (w:=zjg) (lw:=.days) (T:=[tkN (ndN n),tkN (ndM n)]) rfl (by decide) hg hq hn fun st1 g1 q1=>?_;obtain⟨a1,c1⟩:=zbp (lo:=1) (hi:=zdj) g1 q1 b1.1 b1.2;obtain⟨a2,c2⟩:=zbp (lo:=0) (hi:=zdj) c1.ok c1.sq b2.1 b2.2;refine⟨_,(okb a1 _).trans ((okb a2 _).trans ?_),c1.trans0 c2⟩
  conv=>rhs;rw[e]
  rfl
 ·obtain⟨e,b0,b1,b2⟩:=fld2 h1 k;have e:=setN e (hL (by decide)) hR;refine zgQ (w:=zfY) (lw:=.years) (T:=[tkN (ndC n),tkN (ndN n),tkN (ndM n)]) rfl (by decide) hg hq hn fun st1 g1 q1=>?_;obtain⟨a0,c0⟩:=zbp (lo:=0) (hi:=2) g1 q1 b0.1 b0.2;obtain⟨a1,c1⟩:=zbp (lo:=1) (hi:=400) c0.ok c0.sq b1.1 b1.2;obtain⟨a2,c2⟩:=zbp (lo:=0) (hi:=ndN n - 1) c1.ok c1.sq b2.1 b2.2;refine⟨_,(okb a0 _).trans ((okb a1 _).trans ((okb a2 _).trans ?_)),(c0.trans0 c1).trans0 c2⟩
  conv=>rhs;rw[e]
  rfl
 ·obtain⟨e,b0,b1,b2,b3⟩:=fld3 h1 k;have e:=setN e (hL (by decide)) hR;refine zgQ (w:=zcm) (lw:=.months) (T:=tkN (ndC n)::zcW (ndI n)) rfl (by decide) hg hq hn fun st1 g1 q1=>?_;obtain⟨a0,c0⟩:=zbp (lo:=0) (hi:=2) g1 q1 b0.1 b0.2;obtain⟨st2,a1,c1⟩:=zgR b1 b2 b3 c0.ok c0.sq;refine⟨_,(okb a0 _).trans ((okb a1 _).trans ?_),c0.trans0 c1⟩
  conv=>rhs;rw[e]
  rfl
 ·obtain⟨e,b0,b1,b2,b3⟩:=fld4 h1 k;have e:=setN e (hL (by decide)) hR;refine zgQ (w:=za6) (lw:=.monthdays) (T:=tkN (ndC n)::zcW (ndI n)) rfl (by decide) hg hq hn fun st1 g1 q1=>?_;obtain⟨a0,c0⟩:=zbp (lo:=0) (hi:=2) g1 q1 b0.1 b0.2;obtain⟨st2,a1,c1⟩:=zgR b1 b2 b3 c0.ok c0.sq;refine⟨_,(okb a0 _).trans ((okb a1 _).trans ?_),c0.trans0 c1⟩
  conv=>rhs;rw[e]
  rfl
 ·obtain⟨e,b1,b2,b3⟩:=fld5 h1 k;have e:=setN e (hL (by decide)) hR;refine zgQ (w:=zbo) (lw:=.weekdays) (T:=zcW (ndI n)) rfl (by decide) hg hq hn fun st1 g1 q1=>?_;obtain⟨st2,a1,c1⟩:=zgR b1 b2 b3 g1 q1;refine⟨_,(okb a1 _).trans ?_,c1⟩
  conv=>rhs;rw[e]
  rfl
 ·obtain⟨e,b0,b1,b2,b3⟩:=fld6 h1 k;have e:=setN e (hL (by decide)) hR;refine zgQ (w:=zdm) (lw:=.weeks) (T:=tkN (ndC n)::zcW (ndI n)) rfl (by decide) hg hq hn fun st1 g1 q1=>?_;obtain⟨a0,c0⟩:=zbp (lo:=0) (hi:=2) g1 q1 b0.1 b0.2;obtain⟨st2,a1,c1⟩:=zgR b1 b2 b3 c0.ok c0.sq;refine⟨_,(okb a0 _).trans ((okb a1 _).trans ?_),c0.trans0 c1⟩
  conv=>rhs;rw[e]
  rfl
 ·obtain⟨e,b0,b1,bz,b2,b3⟩:=fld7 h1 k;have e:=setN e rfl hR;refine zgQ (w:=wNth) (lw:=.nth) (T:=[tkN (ndC n),tkN (ndN n),tkN (ndM n),zd3 (ndL n)]) rfl (by decide) hg hq hn fun st1 g1 q1=>?_;obtain⟨a0,c0⟩:=zbp (lo:=0) (hi:=2) g1 q1 b0.1 b0.2;obtain⟨a1,c1⟩:=zbp (lo:=-60) (hi:=60) c0.ok c0.sq b1.1 b1.2;obtain⟨a2,c2⟩:=zbp (lo:=0) (hi:=6) c1.ok c1.sq b2.1 b2.2;obtain⟨a3,c3⟩:=znZ (x:=ndL n) (by omega) c2.ok c2.sq;have cz:zaC (gAdv s st1) ((zB (gAdv s st1).1 != 3)||(xO (gAdv s st1).1 != 0)) 1= .ok ():=by
   have hq:=c0.sq;obtain⟨_,e,_⟩:=hq;have e2:xO (gAdv s st1).1=ndN n:=congrArg (fun a=>a.2.2) e;rw[e2,bne_iff_ne.2 bz,xX];rfl
  refine⟨_,(okb a0 _).trans ((okb cz _).trans ((okb a1 _).trans ((okb a2 _).trans ((okb a3 _).trans ?_)))),((c0.trans0 c1).trans0 c2).trans0 c3⟩
  conv=>rhs;rw[e]
  rfl
 ·obtain⟨e,b0⟩:=zsr h1 k;have e:=setN e (hL (by decide)) hR;have hl:(ndS n).length≤32:=by
   unfold zev at b0;simp only[zb,decide_eq_true_iff]at b0;exact b0.1.2
  obtain⟨st',e1,g1⟩:=q_ref hl hg hq hn;refine⟨st',e1.trans ?_,g1⟩
  conv=>rhs;rw[e]
theorem zkI {st:GSt} {w:List UInt8} {sw:SufW} {T l:List Tk} {t t':Tr} {k:Int} (hw:sufW w=some sw) (hg:GOk s st) (h:Sq s st.1 (tkW w::(T++l))) (hn:st.2+1≤64)
  (hl:∀ st1,GOk s st1->st1.2=st.2+1->Sq s st1.1 (T++l)->∃ st2,sufT (s:=s) t st1 sw= .ok (t',st2)∧Got s st1 k l st2):∃ st',prsT s (.chainL t) st=prsT s (.chainL t') st'∧Got s st (1+k) l st':=by
 obtain⟨e0,g0⟩:=ziy hg h (by omega);obtain⟨_,e,_⟩:=id h;have e1:zB st.1=1:=congrArg (fun a=>a.1) e;have e2:zE st.1=w:=congrArg (fun a=>a.2.1) e;obtain⟨st2,e3,g3⟩:=hl _ g0.ok rfl g0.sq;refine⟨st2,?_,g0.trans g3⟩;rw[zf2 hg e1 (by rw[e2];exact hw)];exact (okb e0 _).trans ((okb e3 _).trans rfl)
theorem q_un {n:Nd} {a:Tr} {st:GSt} {l:List Tk} (h1:zbr n=true) (hk:11≤ndK n∧ndK n≤16) (hLR:ndL n=0∧ndR n=0) (hg:GOk s st) (hq:Sq s st.1 (zil [] n++l)) (hn:st.2+1≤64):
  ∃ st',prsT s (.chainL a) st=prsT s (.chainL (.un n a)) st'∧Got s st 1 l st':=by
 unfold zil at hq;rcases (show ndK n=11∨ndK n=12∨ndK n=13∨ndK n=14∨ndK n=15∨ndK n=16 by omega) with k|k|k|k|k|k<;>rw[k]at hq
 ·obtain⟨e,b1⟩:=zsy h1 k;have e:=setN e hLR.1 hLR.2;refine zkI (k:=0) (w:=zeR) (sw:=.shift) (T:=[tkN (ndN n)]) rfl hg hq hn fun st1 g1 _ q1=>?_;obtain⟨a1,c1⟩:=zbp (lo:=-zdj) (hi:=zdj) g1 q1 b1.1 b1.2;have hs:gSuf s st1 .shift= .ok ((11,0,0,0,ndN n,0,[],[],()),gAdv s st1):=(okb a1 _).trans rfl;refine⟨_,(okb hs _).trans ?_,c1⟩
  conv=>rhs;rw[e]
 ·obtain⟨e,b1⟩:=zsx h1 k;have e:=setN e hLR.1 hLR.2;refine zkI (k:=0) (w:=zii) (sw:=.from_) (T:=[tkN (ndN n)]) rfl hg hq hn fun st1 g1 _ q1=>?_;obtain⟨a1,c1⟩:=zbp (lo:=0) (hi:=zdj) g1 q1 b1.1 b1.2;have hs:gSuf s st1 .from_= .ok ((12,0,0,0,ndN n,0,[],[],()),gAdv s st1):=(okb a1 _).trans rfl;refine⟨_,(okb hs _).trans ?_,c1⟩
  conv=>rhs;rw[e]
 ·obtain⟨e,b1⟩:=zsw h1 k;have e:=setN e hLR.1 hLR.2;refine zkI (k:=0) (w:=zeQ) (sw:=.until_) (T:=[tkN (ndN n)]) rfl hg hq hn fun st1 g1 _ q1=>?_;obtain⟨a1,c1⟩:=zbp (lo:=0) (hi:=zdj) g1 q1 b1.1 b1.2;have hs:gSuf s st1 .until_= .ok ((13,0,0,0,ndN n,0,[],[],()),gAdv s st1):=(okb a1 _).trans rfl;refine⟨_,(okb hs _).trans ?_,c1⟩
  conv=>rhs;rw[e]
 ·obtain⟨e,b1,b2,b3⟩:=zsv h1 k;have e:=setN e hLR.1 hLR.2;refine zkI (k:=0) (w:=zeT) (sw:=.also) (T:=zcW (ndI n)) rfl hg hq hn fun st1 g1 _ q1=>?_;obtain⟨st2,a1,c1⟩:=zgR b1 b2 b3 g1 q1;have hs:gSuf s st1 .also= .ok ((14,0,0,0,0,0,ndI n,[],()),st2):=(okb a1 _).trans rfl;refine⟨_,(okb hs _).trans ?_,c1⟩
  conv=>rhs;rw[e]
 ·obtain⟨e,b1,b2,b3⟩:=zsu h1 k;have e:=setN e hLR.1 hLR.2;refine zkI (k:=0) (w:=zcn) (sw:=.except_) (T:=zcW (ndI n)) rfl hg hq hn fun st1 g1 _ q1=>?_;obtain⟨st2,a1,c1⟩:=zgR b1 b2 b3 g1 q1;have hs:gSuf s st1 .except_= .ok ((15,0,0,0,0,0,ndI n,[],()),st2):=(okb a1 _).trans rfl;refine⟨_,(okb hs _).trans ?_,c1⟩
  conv=>rhs;rw[e]
 ·obtain⟨e,b0,⟨b1,b2,b3⟩,b4⟩:=zst h1 k;have e:=setN e hLR.1 hLR.2;refine zkI (k:=0) (w:=wPos) (sw:=.pos) (T:=tkN (ndC n)::zd3 (ndM n)::zcW (ndI n)) rfl hg hq hn fun st1 g1 _ q1=>?_;obtain⟨a0,c0⟩:=zbp (lo:=0) (hi:=2) g1 q1 b0.1 b0.2;obtain⟨a2,c2⟩:=znZ (x:=ndM n) (by omega) c0.ok c0.sq;obtain⟨st2,a1,c1⟩:=zgR b1 b2 b3 c2.ok c2.sq;have hs:gSuf s st1 .pos= .ok ((16,ndC n,0,0,0,ndM n,ndI n,[],()),st2):=(okb a0 _).trans ((okb a2 _).trans ((okb a1 _).trans rfl));refine⟨_,(okb hs _).trans ?_,(c0.trans0 c2).trans0 c1⟩
  conv=>rhs;rw[e]
theorem zpS {n:Nd} {a b:Tr} {B:List Tk} {st:GSt} {l:List Tk} (h1:zbr n=true) (hk:ndK n=17) (hLR:ndL n=0∧ndR n=0) (hB:Qt 4 B b) (hg:GOk s st) (hq:Sq s st.1 (zil B n++l)) (hn:st.2+1+(b.size:Int)≤64):
  ∃ st',prsT s (.chainL a) st=prsT s (.chainL (.bin n a b)) st'∧Got s st (1+b.size) l st':=by
 unfold zil at hq;rw[hk]at hq;obtain⟨e,b1⟩:=zss h1 hk;have e:=setN e hLR.1 hLR.2;refine zkI (k:=b.size) (w:=zbX) (sw:=.behind) (T:=tkN (ndN n)::tkW wOf::B) rfl hg hq (by omega) fun st1 g1 hn1 q1=>?_;obtain⟨a1,c1⟩:=zbp (lo:=1) (hi:=400) g1 q1 b1.1 b1.2;obtain⟨a2,c2⟩:=zgm (w:=wOf) c1.ok c1.sq rfl;obtain⟨st',a3,c3⟩:=hB s _ l c2.ok c2.sq (by rw[c2.n,c1.n];omega) trivial;have a3:prsT s .prim (gAdv s (gAdv s st1))= .ok (b,st'):=a3;refine⟨st',?_,?_⟩
 ·have hs:gSuf s st1 .behind= .ok ((17,0,0,0,ndN n,0,[],[],()),gAdv s (gAdv s st1)):=(okb a1 _).trans ((okb a2 _).trans rfl);refine (okb hs _).trans ((okb a3 _).trans ?_)
  conv=>rhs;rw[e]
 ·have:=(c1.trans c2).trans c3;rwa[k6,k6]at this
def levI (t:Tr):Nat:=(t.lev - 1).toNat
theorem zkR (k:Int):1≤levS k∧levS k≤5:=by
 unfold levS
 repeat' split
 all_goals omega
theorem zlM {k:Int} (h:¬ (8≤k∧k≤17)):levS k=5:=by
 unfold levS;rw[if_neg (by omega),if_neg (by omega),if_neg (by omega),if_neg (by omega)]
theorem zkQ {k:Int} (h:11≤k∧k≤17):levS k=4:=by
 unfold levS;rw[if_neg (by omega),if_neg (by omega),if_neg (by omega),if_pos h]
theorem zix {a:Tr} (h:Qt (levI a) a.toks a) {r:Int} {i:Nat} (hr:r=(i:Int)+1) (hi:i≤4):Qt i (parT (decide (a.lev≥r)) a.toks) a:=by
 obtain⟨l1,l5⟩:=zkR (ndK a.root);have hl:levI a≤4:=by unfold levI Tr.lev;omega
 by_cases hc:a.lev≥r
 ·rw[decide_eq_true hc];refine h.up ?_ hl;unfold levI Tr.lev at *;omega
 ·rw[decide_eq_false hc];exact (Qt.par (h.up (zl _) hl)).up hi (zk _)
theorem zkJ {i:Nat} {n:Nd} {a b:Tr} {A B:List Tk} (hi:i≤2) (hA:Qt i A a) (hB:Qt (i+1) B b) (hn0:n=(opK i,zNd.2)):Qt i (A++(tkW (opW i)::B)) (.bin n a b):=fun s st l hg hq hn hf=>by
 have hn:st.2+((a.size+b.size+1:Nat):Int)≤64:=hn;rw[zr]at hq;have hfa:zsq i (tkW (opW i)::B++l):=by
  rcases (show i=0∨i=1∨i=2 by omega) with rfl|rfl|rfl
  ·exact⟨rfl,rfl,fun _=>rfl⟩
  ·exact⟨rfl,fun _=>rfl⟩
  ·exact fun _=>rfl
 obtain⟨st1,e1,g1⟩:=hA s st _ hg hq (by omega) hfa;have q1:Sq s st1.1 (tkW (opW i)::(B++l)):=g1.sq;have n1:=g1.n;have hop:gIs st1 (opW i)=true:=by
  rw[zhA q1];show (true&&decide (opW i=opW i))=true;rw[decide_eq_true rfl];rfl
 obtain⟨e2,g2⟩:=ziy g1.ok q1 (by omega);have n2:=g2.n;have hfb:zsq (i+1) l:=by
  rcases (show i=0∨i=1∨i=2 by omega) with rfl|rfl|rfl
  ·exact hf.2
  ·exact hf.2
  ·trivial
 obtain⟨st3,e3,g3⟩:=hB s _ l g2.ok g2.sq (by rw[n2,n1];omega) hfb;have e4:prsT s (.bin (i+1)) (gAdv s (st1.1,st1.2+1))= .ok (b,st3):=by
  rcases (show i=0∨i=1∨i=2 by omega) with rfl|rfl|rfl
  ·have e3:prsT s (.bin 1) _=prsT s (.binL 1 b) st3:=e3;rw[zhW (i:=1) g3.ok g3.sq hf.1]at e3;exact e3
  ·have e3:prsT s (.bin 2) _=prsT s (.binL 2 b) st3:=e3;rw[zhW (i:=2) g3.ok g3.sq hf.1]at e3;exact e3
  ·have e3:prsT s .chain _=prsT s (.chainL b) st3:=e3;rw[zn0 g3.ok g3.sq hf]at e3;rw[zgT g2.ok (by decide)];exact e3
 have e5:prsT s (.binL i a) st1=prsT s (.binL i (.bin n a b)) st3:=by
  rw[zhY g1.ok hop,hn0];exact (okb e2 _).trans ((okb e4 _).trans rfl)
 refine⟨st3,?_,?_⟩
 ·rw[e1];rcases (show i=0∨i=1∨i=2 by omega) with rfl|rfl|rfl
  ·exact e5
  ·exact e5
  ·exact e5
 ·have:=(g1.trans g2).trans g3;rwa[show (a.size:Int)+1+(b.size:Int)=((Tr.bin n a b).size:Int) by show _=((a.size+b.size+1:Nat):Int);omega]at this
theorem fld_op {n:Nd} (h:zbr n=true) (hk:8≤ndK n∧ndK n≤10) (hLR:ndL n=0∧ndR n=0):n=(ndK n,zNd.2):=by
 rcases (show ndK n=8∨ndK n=9∨ndK n=10 by omega) with k|k|k
 ·rw[k];exact setN (fld8 h k) hLR.1 hLR.2
 ·rw[k];exact setN (fld9 h k) hLR.1 hLR.2
 ·rw[k];exact setN (fld10 h k) hLR.1 hLR.2
theorem zex:∀ t:Tr,TrOk t->Qt (levI t) t.toks t
 | .leaf n,h=>by
  have:levI (.leaf n)=4:=by
   show (levS (ndK n) - 1).toNat=4;rw[zlM h.2.1];rfl
  rw[this];exact zrP h
 | .un n a,h=>by
  obtain⟨h1,hk,hLR,ha⟩:=h;have:levI (.un n a)=3:=by
   show (levS (ndK n) - 1).toNat=3;rw[zkQ (by omega)];rfl
  rw[this];intro s st l hg hq hn hf;have hn:st.2+((a.size+1:Nat):Int)≤64:=hn;have hq:Sq s st.1 (parT (decide (a.lev≥4)) a.toks++zil [] n++l):=hq;rw[zr]at hq;obtain⟨st1,e1,g1⟩:=zix (zex a ha) (i:=3) rfl (by decide) s st _ hg hq (by omega) trivial;have n1:=g1.n;obtain⟨st2,e2,g2⟩:=q_un (a:=a) h1 hk hLR g1.ok g1.sq (by omega);exact⟨st2,Eq.trans e1 e2,g1.trans g2⟩
 | .bin n a b,h=>by
  obtain⟨h1,hk,hLR,ha,hb⟩:=h;by_cases h17:ndK n=17
  ·have:levI (.bin n a b)=3:=by
    show (levS (ndK n) - 1).toNat=3;rw[zkQ (by omega)];rfl
   rw[this];intro s st l hg hq hn hf;have hn:st.2+((a.size+b.size+1:Nat):Int)≤64:=hn;unfold Tr.toks at hq;rw[if_pos h17,zr]at hq;obtain⟨st1,e1,g1⟩:=zix (zex a ha) (i:=3) rfl (by decide) s st _ hg hq (by omega) trivial;have n1:=g1.n;obtain⟨st2,e2,g2⟩:=zpS (a:=a) h1 h17 hLR (zix (zex b hb) (r:=5) (i:=4) rfl (by decide)) g1.ok g1.sq (by omega);have:=g1.trans g2;rw[show (a.size:Int)+(1+(b.size:Int))=((Tr.bin n a b).size:Int) by show _=((a.size+b.size+1:Nat):Int);omega]at this;exact⟨st2,Eq.trans e1 e2,this⟩
  ·have hk:8≤ndK n∧ndK n≤10:=by omega
   have hn0:=fld_op h1 hk hLR;unfold Tr.toks;rw[if_neg h17];have hl:levI (.bin n a b)=(levS (ndK n) - 1).toNat:=rfl;rw[hl];rcases (show ndK n=8∨ndK n=9∨ndK n=10 by omega) with k|k|k<;>rw[k]at hn0 ⊢
   ·exact zkJ (i:=2) (by decide) (zix (zex a ha) rfl (by decide)) (zix (zex b hb) (r:=4) rfl (by decide)) hn0
   ·exact zkJ (i:=0) (by decide) (zix (zex a ha) rfl (by decide)) (zix (zex b hb) (r:=2) rfl (by decide)) hn0
   ·exact zkJ (i:=1) (by decide) (zix (zex a ha) rfl (by decide)) (zix (zex b hb) (r:=3) rfl (by decide)) hn0
theorem q_rule {T:List Tk} {t:Tr} (hT:Qt 0 T t) (hs:t.size≤64) (h:Toks s 0 T):zcj s= .ok t:=by
 have hg:GOk s (zfN s):=zdP;obtain⟨st',e,g⟩:=hT s (zfN s) [] hg (by rw[zJ];exact zkC h) (by show (0:Int)+_≤64;omega) ⟨rfl,rfl,trivial⟩;have e:prsT s (.bin 0) (zfN s)=prsT s (.binL 0 t) st':=e;rw[zhW g.ok g.sq rfl]at e;have hc:zB st'.1=0:=g.sq;have hr:zdB s (zfN s)= .ok (t,st'):=by
  unfold zdB;refine (okb e _).trans ?_;have c0:zaC st' (zB st'.1==0) 3= .ok ():=by rw[hc];rfl
  exact (okb c0 _).trans rfl
 unfold zcj;rw[hr];rfl
end
def Bd:List UInt8->Prop
 | []=>True
 |c::_=>isPt c=false
theorem Bd.app {r v:List UInt8} (h:Bd r) (hv:Bd v):Bd (r++v):=by
 cases r with
 |nil=>exact hv
 |cons c r=>exact h
def zcD (k:Int) (u:List UInt8):TokT:=
 match u with
 | []=>(0,k,0,[],0,())
 |c::r=>
  if 0 < zas (c::r) then (1,k,(zas (c::r):Nat),(c::r).take (zas (c::r)),0,())
  else if c=64∧0 < zas r then (2,k,(zas r:Nat)+1,r.take (zas r),0,())
  else match zct (c::r) with
   |some (q,n,t,x)=>(q,k,(n:Nat),t,x,())
   |none=>if c=40∨c=41∨c=61 then (4,k,1,[c],0,()) else (5,k,1,[c],0,())
theorem zgF (s:List UInt8):za1 s=zcD ((zaV isWh s:Nat):Int) (s.drop (zaV isWh s)):=rfl
theorem zlt (k:Int) (u:List UInt8):zcD k u=((zcD 0 u).1,k,(zcD 0 u).2.2):=by
 cases u with
 |nil=>rfl
 |cons c r=>
  unfold zcD;simp only[];split
  ·rfl
  ·split
   ·rfl
   ·split
    ·rfl
    ·split<;>rfl
theorem zio {p:UInt8->Bool} {w u:List UInt8} (h:∀ c∈w,p c=true):zaV p (w++u)=w.length+zaV p u:=by
 unfold zaV;rw[je h,zh]
theorem znv {p:UInt8->Bool} {c:UInt8} {u:List UInt8} (h:p c=false):zaV p (c::u)=0:=by
 unfold zaV;rw[xQ,h];rfl
theorem zrH {u:List UInt8} (h:Bd u):zaV isPt u=0:=by
 cases u with
 |nil=>rfl
 |cons c r=>exact znv h
structure Sp (a:Tk) (w:List UInt8):Prop where
 ne:w≠ []
 nw:∀ c∈w,isWh c=false
 cls:a.1≠0
 sc:∀ r,(a.1=4∨Bd r)->zcD 0 (w++r)=(a.1,0,((w.length:Nat):Int),a.2.1,a.2.2,())
inductive Lex:List UInt8->List Tk->Prop
 |nil {ws:List UInt8} (h:∀ c∈ws,isWh c=true):Lex ws []
 |tok {ws w r:List UInt8} {a:Tk} {l:List Tk} (h:∀ c∈ws,isWh c=true) (hw:Sp a w) (hb:a.1=4∨Bd r) (hr:Lex r l):Lex (ws++(w++r)) (a::l)
theorem Lex.ws {ws u:List UInt8} {l:List Tk} (h:∀ c∈ws,isWh c=true) (hu:Lex u l):Lex (ws++u) l:=by
 cases hu with
 |nil h2=>exact .nil fun c hc=>(yp.1 hc).elim (h c) (h2 c)
 |tok h2 hw hb hr=>
  rw[<-zr];exact .tok (fun c hc=>(yp.1 hc).elim (h c) (h2 c)) hw hb hr
theorem Lex.sp {u:List UInt8} {l:List Tk} (hu:Lex u l):Lex (32::u) l:=Lex.ws (ws:=[32]) (fun c hc=>by rw[zv.1 hc];rfl) hu
theorem Lex.app {u:List UInt8} {l:List Tk} (hu:Lex u l) {v:List UInt8} {m:List Tk} (hv:Lex v m) (hb:Bd v):Lex (u++v) (l++m):=by
 induction hu with
 |nil h=>exact hv.ws h
 |tok h hw hb' _ ih=>
  rw[zr,zr];refine .tok h hw ?_ ih;rcases hb' with h4|hb'
  ·exact .inl h4
  ·exact .inr (hb'.app hb)
theorem Sp.lex {a:Tk} {w:List UInt8} (h:Sp a w):Lex w [a]:=by
 have:=Lex.tok (ws:=[]) (r:=[]) (l:=[]) (fun c hc=>by cases hc) h (.inr trivial) (.nil fun c hc=>by cases hc);rwa[yN,zJ]at this
theorem Sp.lexR {a:Tk} {w:List UInt8} (h:Sp a w) {r:List UInt8} {l:List Tk} (hb:a.1=4∨Bd r) (hr:Lex r l):Lex (w++r) (a::l):=by
 have:=Lex.tok (ws:=[]) (fun c hc=>by cases hc) h hb hr;rwa[yN]at this
theorem zqd {u:List UInt8} {l:List Tk} (h:Lex u l):∀ (s p:List UInt8),s=p++u->Toks s ((p.length:Nat):Int) l:=by
 induction h with
 | @nil ws h=>
  intro s p hs;show zB (zbJ s _)=0;unfold zbJ;rw[hs,zL,xh,zgF];have e:zaV isWh ws=ws.length:=by
   have:=zio (u:=[]) h;rw[zJ]at this;rw[this];rfl
  rw[e,j2];rfl
 | @tok ws w r a l h hw hb hr ih=>
  intro s p hs;have hd:s.drop p.length=ws++(w++r):=by rw[hs,xh]
  have e:zaV isWh (ws++(w++r))=ws.length:=by
   rw[zio h];cases w with
   |nil=>exact absurd rfl hw.ne
   |cons c q=>
    rw[y9,znv (hw.nw c (z8 ..))];rfl
  have hsc:zbJ s ((p.length:Nat):Int)=(a.1,((ws.length:Nat):Int)+((p.length:Nat):Int),((w.length:Nat):Int),a.2.1,a.2.2,()):=by
   unfold zbJ;rw[zL,hd,zgF,e,xh,zlt,hw.sc r hb];rfl
  refine⟨?_,?_,?_⟩
  ·rw[hsc];exact hw.cls
  ·rw[hsc];rfl
  ·rw[hsc];have:=ih s (p++ws++w) (by rw[hs];simp);rw[zh,zh]at this;show Toks s (((ws.length:Nat):Int)+((p.length:Nat):Int)+((w.length:Nat):Int)) l;rwa[show ((ws.length:Nat):Int)+((p.length:Nat):Int)+((w.length:Nat):Int)=((p.length+ws.length+w.length:Nat):Int) by omega]
theorem zi0 {p:UInt8->Bool} (h:∀ n:Fin 256,p (yI n.val)=true) (c:UInt8):p c=true:=by
 have:=h ⟨c.toNat,c.toNat_lt⟩;rwa[vO]at this
theorem zlI (c:UInt8) (h:isLt c=true):isPt c=true∧isWh c=false∧isDg c=false∧c≠64∧c≠45:=by
 have:=zi0 (p:=fun c=>!isLt c||(isPt c&& !isWh c&& !isDg c&&(c != 64)&&(c != 45))) (by decide+kernel) c;rw[h]at this;simp only[Bool.not_true,xr,zb,zy,bne_iff_ne]at this;exact⟨this.1.1.1.1,this.1.1.1.2,this.1.1.2,this.1.2,this.2⟩
theorem pt_wh (c:UInt8) (h:isPt c=true):isWh c=false:=by
 have:=zi0 (p:=fun c=>!isPt c|| !isWh c) (by decide+kernel) c;rw[h]at this
 simpa using this
theorem zgu (c:UInt8) (h:isDg c=true):isPt c=true∧isLt c=false∧isWh c=false∧c≠64∧c≠45∧c≠40∧c≠41∧c≠61:=by
 have:=zi0 (p:=fun c=>!isDg c||(isPt c&& !isLt c&& !isWh c&&(c != 64)&&(c != 45)&&(c != 40)&&(c != 41)&&(c != 61))) (by decide+kernel) c;rw[h]at this;simp only[Bool.not_true,xr,zb,zy,bne_iff_ne]at this;exact⟨this.1.1.1.1.1.1.1,this.1.1.1.1.1.1.2,this.1.1.1.1.1.2,this.1.1.1.1.2,this.1.1.1.2,this.1.1.2,this.1.2,this.2⟩
theorem zfW {w r:List UInt8} (hne:w≠ []) (h1:w.head?.all isLt=true) (h2:∀ c∈w,isPt c=true) (hb:Bd r):zas (w++r)=w.length:=by
 cases w with
 |nil=>exact absurd rfl hne
 |cons c q=>
  have hc:isLt c=true:=h1;show (if isLt c then zaV isPt (c::q++r) else 0)=_;rw[if_pos hc,zio h2,zrH hb];rfl
theorem zrI {w:List UInt8} (hne:w≠ []) (h1:w.head?.all isLt=true) (h2:∀ c∈w,isPt c=true):Sp (tkW w) w:=by
 refine⟨hne,fun c hc=>pt_wh c (h2 c hc),by show (1:Int)≠0;decide,fun r hb=>?_⟩;have hb:Bd r:=hb.resolve_left (by show (1:Int)≠4;decide);have hl:=zfW hne h1 h2 hb;have hp:0 < w.length:=ql.2 hne;cases w with
 |nil=>exact absurd rfl hne
 |cons c q=>
  show zcD 0 (c::(q++r))=_;unfold zcD;have hl:zas (c::(q++r))=(c::q).length:=hl;simp only[];rw[hl,if_pos hp];show (1,0,_,(c::q++r).take (c::q).length,0,())=_;rw[xi];rfl
theorem sp_ref {w:List UInt8} (h:zev w=true):Sp (tkR w) (64::w):=by
 unfold zev at h;simp only[zb,decide_eq_true_iff,zV]at h;obtain⟨⟨hne,_⟩,h1,h2⟩:=h;refine⟨by simp,fun c hc=>?_,by show (2:Int)≠0;decide,fun r hb=>?_⟩
 ·rcases zX.1 hc with rfl|hc
  ·rfl
  ·exact pt_wh c (h2 c hc)
 have hb:Bd r:=hb.resolve_left (by show (2:Int)≠4;decide);have hl:=zfW hne h1 h2 hb;have hp:0 < w.length:=ql.2 hne;show zcD 0 (64::(w++r))=_;unfold zcD;have h64:zas (64::(w++r))=0:=rfl;simp only[];rw[h64,if_neg (by decide),hl,if_pos ⟨trivial,hp⟩,xi];show (2,0,((w.length:Nat):Int)+1,w,0,())=(2,0,(((64::w).length:Nat):Int),w,0,());rw[zs];rfl
theorem zlq {c:UInt8} (hc:c=40∨c=41∨c=61):Sp (tkS c) [c]:=by
 have hn:∀ r,zct (c::r)=none:=fun r=>by
  unfold zct;have:(zaL (c::r)).length=0:=by
   unfold zaL zaN;rcases hc with rfl|rfl|rfl<;>rfl
  rw[if_pos this]
 refine⟨by simp,fun d hd=>?_,by show (4:Int)≠0;decide,fun r _=>?_⟩
 ·rw[zv.1 hd];rcases hc with rfl|rfl|rfl<;>rfl
 show zcD 0 (c::r)=_;unfold zcD;have h0:zas (c::r)=0:=by rcases hc with rfl|rfl|rfl<;>rfl
 have h64:c≠64:=by rcases hc with rfl|rfl|rfl<;>decide
 simp only[];rw[h0,if_neg (by decide),if_neg (fun h=>h64 h.1),hn,if_pos hc];rfl
theorem zn9 (l:List UInt8) (c:UInt8):numv (l++ [c])=10 * numv l+(c.toNat - 48):=by unfold numv;rw[qP];rfl
theorem zl4 {d:Nat} (h:d < 10):isDg (yI (48+d))=true∧(yI (48+d)).toNat=48+d:=by
 have e:(yI (48+d)).toNat=48+d:=by rw[UInt8.toNat_ofNat'];exact Nat.mod_eq_of_lt (by omega)
 refine⟨?_,e⟩;unfold isDg;rw[zb,decide_eq_true_iff,decide_eq_true_iff,yS,yS,e];exact⟨by show 48≤_;omega,by show _≤57;omega⟩
theorem zkg (u:Nat):(∀ c∈xu u,isDg c=true)∧numv (xu u)=u∧(1≤u->(xu u).head? ≠some 48)∧xu u≠ []:=by
 induction u using Nat.strongRecOn with
 |_ u ih=>
  rw[xu];by_cases hu:u < 10
  ·rw[dif_pos hu];obtain⟨h1,h2⟩:=zl4 hu;refine⟨fun c hc=>by rw[zv.1 hc];exact h1,?_,fun h0 e=>?_,by simp⟩
   ·show 10 * 0+((yI (48+u)).toNat - 48)=u;rw[h2];omega
   ·have e:some (yI (48+u))=some 48:=e;have:=congrArg UInt8.toNat (zN e);rw[h2]at this;have:48+u=48:=this;omega
  ·rw[dif_neg hu];obtain⟨i1,i2,i3,i4⟩:=ih (u / 10) (by omega);obtain⟨h1,h2⟩:=zl4 (d:=u % 10) (by omega);refine⟨fun c hc=>?_,?_,fun _ e=>?_,by simp⟩
   ·rcases yp.1 hc with hc|hc
    ·exact i1 c hc
    ·rw[zv.1 hc];exact h1
   ·rw[zn9,i2,h2];omega
   ·refine i3 (by omega) ?_;cases hd:xu (u / 10) with
    |nil=>exact absurd hd i4
    |cons c q=>rw[hd]at e;exact e
theorem znu {w r:List UInt8} (h:∀ c∈w,isDg c=true) (hb:Bd r):(w++r).takeWhile isDg=w:=by
 rw[je h];have:r.takeWhile isDg=[]:=by
  cases r with
  |nil=>rfl
  |cons c q=>
   have hb:isPt c=false:=hb;rw[xQ];have:isDg c=false:=by
    cases hd:isDg c with
    |false=>rfl
    |true=>rw[(zgu c hd).1]at hb;cases hb
   rw[this];rfl
 rw[this,zJ]
def zeH (n:Int):Prop:=-1125899906842624 < n∧n < 1125899906842624
theorem zny {n:Int} (h:zeH n):Sp (tkN n) (deI n):=by
 obtain⟨h1,h2⟩:=h;unfold deI Lib.itoa;by_cases hn:n < 0
 ·obtain⟨d1,d2,d3,d4⟩:=zkg n.natAbs;have d3:=d3 (by omega);generalize hD:xu n.natAbs=D at *;have hde:deI n=45::D:=by unfold deI Lib.itoa;rw[if_pos hn,hD]
  rw[if_pos hn];refine⟨by simp,fun c hc=>?_,by show (3:Int)≠0;decide,fun r hb=>?_⟩
  ·rcases zX.1 hc with rfl|hc
   ·rfl
   ·exact (zgu c (d1 c hc)).2.2.1
  have hb:Bd r:=hb.resolve_left (by show (3:Int)≠4;decide);have hlen:0 < D.length:=ql.2 d4;have hs:zaN (45::(D++r))=1:=rfl;have hg:zaL (45::(D++r))=D:=by
   unfold zaL;rw[hs];exact znu d1 hb
  have hv:valN (45::(D++r))=n:=by
   unfold valN;rw[hs,if_pos rfl,hg,d2,yh (by unfold zc0;omega)];omega
  show zcD 0 (45::(D++r))=_;unfold zcD;simp only[];rw[show zas (45::(D++r))=0 from rfl,if_neg (by decide),if_neg (fun h=>absurd h.1 (by decide))];have hnt:zct (45::(D++r))=some (3,1+D.length,(45::(D++r)).take (1+D.length),n):=by
   unfold zct;rw[hg,hs,hv,if_neg (by omega),if_neg (fun h=>d3 h.1)]
  rw[hnt];have ht:(45::(D++r)).take (1+D.length)=45::D:=by
   rw[Nat.add_comm,List.take_succ_cons,xi]
  show (3,0,((1+D.length:Nat):Int),(45::(D++r)).take (1+D.length),n,())=(3,0,(((45::D).length:Nat):Int),deI n,n,());rw[ht,hde,zs,Nat.add_comm]
 ·obtain⟨d1,d2,d3,d4⟩:=zkg n.toNat;have hz:n.toNat=0->xu n.toNat=[48]:=fun e=>by rw[e,xu];rfl
  generalize hD:xu n.toNat=D at *;have hde:deI n=D:=by unfold deI Lib.itoa;rw[if_neg hn,hD]
  rw[if_neg hn];refine⟨d4,fun c hc=>(zgu c (d1 c hc)).2.2.1,by show (3:Int)≠0;decide,fun r hb=>?_⟩;have hb:Bd r:=hb.resolve_left (by show (3:Int)≠4;decide);have hlen:0 < D.length:=ql.2 d4;cases D with
  |nil=>exact absurd rfl d4
  |cons c q=>
   have hdg:=d1 c (z8 ..);obtain⟨_,f1,_,f2,f3,_⟩:=zgu c hdg;have hs:zaN (c::(q++r))=0:=by
    unfold zaN;exact if_neg (fun e=>f3 (zN e))
   have hg:zaL (c::(q++r))=c::q:=by
    unfold zaL;rw[hs];exact znu (w:=c::q) d1 hb
   have hv:valN (c::(q++r))=n:=by
    unfold valN;rw[hs,if_neg (by decide),hg,d2,yh (by unfold zc0;omega)];omega
   show zcD 0 (c::(q++r))=_;unfold zcD;simp only[];rw[show zas (c::(q++r))=0 by show (if isLt c then zaV isPt (c::(q++r)) else 0)=0;rw[f1];rfl,if_neg (by decide),if_neg (fun h=>f2 h.1)];have hnt:zct (c::(q++r))=some (3,0+(c::q).length,(c::(q++r)).take (0+(c::q).length),n):=by
    unfold zct;rw[hg,hs,hv,if_neg (by omega),if_neg];rintro ⟨e1,e2⟩;by_cases h0:n.toNat=0
    ·have e3:q=[]:=by have:=hz h0;exact (List.cons.inj this).2
     rw[e3]at e2;have e2:1 < 0+1:=e2;omega
    ·exact d3 (by omega) e1
   rw[hnt];have ht:(c::(q++r)).take (0+(c::q).length)=c::q:=by
    rw[yu];exact xi (l₁:=c::q)
   show (3,0,((0+(c::q).length:Nat):Int),(c::(q++r)).take (0+(c::q).length),n,())=(3,0,(((c::q).length:Nat):Int),deI n,n,());rw[ht,hde,yu]
theorem zcb:∀ l:List Int,(∀ x∈l,zeH x)->Lex (zdY l) (l.map tkN)∧Bd (zdY l)
 | [],_=>⟨.nil (fun c hc=>(by cases hc)),trivial⟩
 |x::r,h=>by
  obtain⟨h1,h2⟩:=zcb r fun y hy=>h y (yO _ hy);refine⟨?_,rfl⟩;show Lex (32::deI x++zdY r) (tkN x::r.map tkN);exact ((zny (h x (z8 ..))).lexR (.inr h2) h1).sp
theorem zop:∀ (l:List Int) (i:Nat),(∀ x∈l,zeH x)->Lex (litS (i+1) l++ [41]) (l.map tkN++ [tkS 41])∧Bd (litS (i+1) l++ [41])
 | [],_,_=>⟨(zlq (.inr (.inl rfl))).lex,rfl⟩
 |x::r,i,h=>by
  obtain⟨h1,h2⟩:=zop r (i+1) fun y hy=>h y (yO _ hy);have e:litS (i+1) (x::r)++ [41]=32::(deI x++(litS (i+1+1) r++ [41])):=by
   show (sepS (i+1)++deI x++litS (i+1+1) r)++ [41]=_;simp[sepS]
  rw[e];exact⟨((zny (h x (z8 ..))).lexR (.inr h2) h1).sp,rfl⟩
theorem zdM {l:List Int} (hne:l≠ []) (h:∀ x∈l,zeH x):Lex (zb6 l) (zcW l)∧Bd (zb6 l):=by
 cases l with
 |nil=>exact absurd rfl hne
 |cons x r=>
  obtain⟨h1,h2⟩:=zop r 0 fun y hy=>h y (yO _ hy);have e:zb6 (x::r)=32::([40]++(deI x++(litS (0+1) r++ [41]))):=by
   show (sepS 0++deI x++litS (0+1) r)++ [41]=_;simp[sepS]
  rw[e];exact⟨((zlq (.inl rfl)).lexR (.inl rfl) ((zny (h x (z8 ..))).lexR (.inr h2) h1)).sp,rfl⟩
theorem za7 {w:List UInt8} (hne:w≠ []) (h1:w.head?.all isLt=true) (h2:w.all isPt=true) {r:List UInt8} {l:List Tk} (hr:Lex r l) (hb:Bd r):Lex (w++r) (tkW w::l):=
 (zrI hne h1 (zV.1 h2)).lexR (.inr hb) hr
theorem zjP (n:Int) {r:List UInt8} {l:List Tk} (hr:Lex r l) (hb:Bd r):Lex (zcp n++r) (zd3 n::l)∧Bd (zcp n++r):=by
 unfold zcp zd3;split
 ·exact⟨(za7 (by decide) rfl (by decide) hr hb).sp,rfl⟩
 ·exact⟨(za7 (by decide) rfl (by decide) hr hb).sp,rfl⟩
theorem zr3:Lex [] []:=.nil fun c hc=>by cases hc
theorem zg1 {c:Bool} {u:List UInt8} {l:List Tk} (h:Lex u l):Lex (parS c u) (parT c l):=by
 cases c with
 |true=>exact h
 |false=>exact (zlq (.inl rfl)).lexR (.inl rfl) (h.app (zlq (.inr (.inl rfl))).lex rfl)
def Tr.text:Tr->List UInt8
 | .leaf n=>zd9 n
 | .un n a=>parS (decide (a.lev≥4)) a.text++zcB [] n
 | .bin n a b=>if ndK n=17 then parS (decide (a.lev≥4)) a.text++zcB (parS (decide (b.lev≥5)) b.text) n
  else parS (decide (a.lev≥levS (ndK n))) a.text++(putS ([32]++opWd (levS (ndK n))++ [32]) []++parS (decide (b.lev≥levS (ndK n)+1)) b.text)
theorem zcd {lo hi:Int} {z:Bool} (h1: -1125899906842624 < lo) (h2:hi < 1125899906842624):∀ {l:List Int} {last:Int},Ris lo hi z last l->∀ x∈l,zeH x
 | [],_,_,x,hx=>by cases hx
 |y::r,_,h,x,hx=>by
  obtain⟨_,a,b,_,h⟩:=h;rcases zX.1 hx with rfl|hx
  ·exact⟨by omega,by omega⟩
  ·exact zcd h1 h2 h x hx
theorem num1 {a:Int} (h:zeH a):∀ x∈ [a],zeH x:=fun x hx=>by rw[zv.1 hx];exact h
theorem num2 {a b:Int} (h:zeH a) (h':zeH b):∀ x∈ [a,b],zeH x:=fun x hx=>by
 rcases zX.1 hx with rfl|hx
 ·exact h
 ·exact num1 h' x hx
theorem num3 {a b c:Int} (h:zeH a) (h':zeH b) (h'':zeH c):∀ x∈ [a,b,c],zeH x:=fun x hx=>by
 rcases zX.1 hx with rfl|hx
 ·exact h
 ·exact num2 h' h'' x hx
theorem nt {a lo hi:Int} (h:lo≤a∧a≤hi) (h1: -1125899906842624 < lo:=by decide) (h2:hi < 1125899906842624:=by decide):zeH a:=⟨by omega,by omega⟩
theorem zqe {n:Nd} (h1:zbr n=true) (h2:¬ (8≤ndK n∧ndK n≤17)):Lex (zd9 n) (zjQ n):=by
 obtain⟨⟨k1,k2⟩,_⟩:=zaD h1;unfold zd9 zjQ;rcases (show ndK n=1∨ndK n=2∨ndK n=3∨ndK n=4∨ndK n=5∨ndK n=6∨ndK n=7∨ndK n=18 by omega) with k|k|k|k|k|k|k|k<;>rw[k]
 ·obtain⟨e,b1,b2⟩:=fld1 h1 k;obtain⟨x,y⟩:=zcb [ndN n,ndM n] (num2 (nt b1) (nt b2));exact za7 (w:=zjg) (by decide) rfl (by decide) x y
 ·obtain⟨e,b0,b1,b2⟩:=fld2 h1 k;obtain⟨x,y⟩:=zcb [ndC n,ndN n,ndM n] (num3 (nt b0) (nt b1) ⟨by omega,by omega⟩);exact za7 (w:=zfY) (by decide) rfl (by decide) x y
 ·obtain⟨e,b0,b1,b2,b3⟩:=fld3 h1 k;obtain⟨x,y⟩:=zcb [ndC n] (num1 (nt b0));obtain⟨x2,y2⟩:=zdM b1 (zcd (by decide) (by decide) b3);have:=za7 (w:=zcm) (by decide) rfl (by decide) (x.app x2 y2) (y.app y2);rwa[<-zr]at this
 ·obtain⟨e,b0,b1,b2,b3⟩:=fld4 h1 k;obtain⟨x,y⟩:=zcb [ndC n] (num1 (nt b0));obtain⟨x2,y2⟩:=zdM b1 (zcd (by decide) (by decide) b3);have:=za7 (w:=za6) (by decide) rfl (by decide) (x.app x2 y2) (y.app y2);rwa[<-zr]at this
 ·obtain⟨e,b1,b2,b3⟩:=fld5 h1 k;obtain⟨x2,y2⟩:=zdM b1 (zcd (by decide) (by decide) b3);exact za7 (w:=zbo) (by decide) rfl (by decide) x2 y2
 ·obtain⟨e,b0,b1,b2,b3⟩:=fld6 h1 k;obtain⟨x,y⟩:=zcb [ndC n] (num1 (nt b0));obtain⟨x2,y2⟩:=zdM b1 (zcd (by decide) (by decide) b3);have:=za7 (w:=zdm) (by decide) rfl (by decide) (x.app x2 y2) (y.app y2);rwa[<-zr]at this
 ·obtain⟨e,b0,b1,bz,b2,b3⟩:=fld7 h1 k;obtain⟨x,y⟩:=zcb [ndC n,ndN n,ndM n] (num3 (nt b0) (nt b1) (nt b2));obtain⟨x2,y2⟩:=zjP (ndL n) zr3 trivial;have:=za7 (w:=wNth) (by decide) rfl (by decide) (x.app x2 y2) (y.app y2);rw[<-zr]at this;exact this
 ·obtain⟨e,b0⟩:=zsr h1 k;show Lex ((64::ndS n)++ []) [tkR (ndS n)];rw[zJ];exact (sp_ref b0).lex
theorem zoo {n:Nd} {b:List UInt8} {B:List Tk} (h1:zbr n=true) (h2:11≤ndK n∧ndK n≤17) (hB:ndK n=17->Lex b B):Lex (zcB b n) (zil B n)∧Bd (zcB b n):=by
 unfold zcB zil;rcases (show ndK n=11∨ndK n=12∨ndK n=13∨ndK n=14∨ndK n=15∨ndK n=16∨ndK n=17 by omega) with k|k|k|k|k|k|k<;>rw[k]
 ·obtain⟨e,b1⟩:=zsy h1 k;obtain⟨x,y⟩:=zcb [ndN n] (num1 (nt b1));exact⟨(za7 (w:=zeR) (by decide) rfl (by decide) x y).sp,rfl⟩
 ·obtain⟨e,b1⟩:=zsx h1 k;obtain⟨x,y⟩:=zcb [ndN n] (num1 (nt b1));exact⟨(za7 (w:=zii) (by decide) rfl (by decide) x y).sp,rfl⟩
 ·obtain⟨e,b1⟩:=zsw h1 k;obtain⟨x,y⟩:=zcb [ndN n] (num1 (nt b1));exact⟨(za7 (w:=zeQ) (by decide) rfl (by decide) x y).sp,rfl⟩
 ·obtain⟨e,b1,b2,b3⟩:=zsv h1 k;obtain⟨x2,y2⟩:=zdM b1 (zcd (by decide) (by decide) b3);exact⟨(za7 (w:=zeT) (by decide) rfl (by decide) x2 y2).sp,rfl⟩
 ·obtain⟨e,b1,b2,b3⟩:=zsu h1 k;obtain⟨x2,y2⟩:=zdM b1 (zcd (by decide) (by decide) b3);exact⟨(za7 (w:=zcn) (by decide) rfl (by decide) x2 y2).sp,rfl⟩
 ·obtain⟨e,b0,⟨b1,b2,b3⟩,b4⟩:=zst h1 k;obtain⟨x,y⟩:=zcb [ndC n] (num1 (nt b0));obtain⟨x2,y2⟩:=zdM b1 (zcd (by decide) (by decide) b3);obtain⟨x3,y3⟩:=zjP (ndM n) x2 y2;refine⟨?_,rfl⟩;show Lex ((32::wPos)++zdY [ndC n]++((zcp (ndM n)++ [])++zb6 (ndI n))) _;rw[zJ,zr];exact (za7 (w:=wPos) (by decide) rfl (by decide) (x.app x3 y3) (y.app y3)).sp
 ·obtain⟨e,b1⟩:=zss h1 k;obtain⟨x,y⟩:=zcb [ndN n] (num1 (nt b1));refine⟨?_,rfl⟩;show Lex ((32::zbX)++zdY [ndN n]++(((32::wOf)++ [32]++ [])++b)) _;rw[zJ,zr,zr];have x3:Lex (32::(wOf++([32]++b))) (tkW wOf::B):=(za7 (w:=wOf) (by decide) rfl (by decide) (hB k).sp rfl).sp;exact (za7 (w:=zbX) (by decide) rfl (by decide) (x.app x3 rfl) (y.app rfl)).sp
theorem zen:∀ t:Tr,TrOk t->Lex t.text t.toks
 | .leaf n,h=>zqe h.1 h.2.1
 | .un n a,h=>by
  obtain⟨h1,hk,_,ha⟩:=h;obtain⟨x,y⟩:=zoo (b:=[]) (B:=[]) h1 (by omega) (fun e=>by omega);exact (zg1 (zen a ha)).app x y
 | .bin n a b,h=>by
  obtain⟨h1,hk,_,ha,hb⟩:=h;unfold Tr.text Tr.toks;split
  ·rename_i h17;obtain⟨x,y⟩:=zoo (n:=n) h1 (by omega) (fun _=>zg1 (c:=decide (b.lev≥5)) (zen b hb));exact (zg1 (zen a ha)).app x y
  ·rename_i h17;have hl:levS (ndK n)=1∨levS (ndK n)=2∨levS (ndK n)=3:=by
    rcases (show ndK n=8∨ndK n=9∨ndK n=10 by omega) with k|k|k<;>rw[k]
    ·exact .inr (.inr rfl)
    ·exact .inl rfl
    ·exact .inr (.inl rfl)
   have hB:=zg1 (c:=decide (b.lev≥levS (ndK n)+1)) (zen b hb);generalize parS (decide (b.lev≥levS (ndK n)+1)) b.text=v at hB ⊢;generalize parT (decide (b.lev≥levS (ndK n)+1)) b.toks=m at hB ⊢;have hw:Lex (putS ([32]++opWd (levS (ndK n))++ [32]) []++v) (tkW (opWd (levS (ndK n)))::m)∧Bd (putS ([32]++opWd (levS (ndK n))++ [32]) []++v):=by
    have e:putS ([32]++opWd (levS (ndK n))++ [32]) []++v=32::(opWd (levS (ndK n))++(32::v)):=by
     show (([32]++opWd (levS (ndK n))++ [32])++ [])++v=_;simp
    rw[e];refine⟨?_,rfl⟩;rcases hl with hl|hl|hl<;>rw[hl]
    ·exact (za7 (w:=wOr) (by decide) rfl (by decide) hB.sp rfl).sp
    ·exact (za7 (w:=zlm) (by decide) rfl (by decide) hB.sp rfl).sp
    ·exact (za7 (w:=wAnd) (by decide) rfl (by decide) hB.sp rfl).sp
   exact (zg1 (zen a ha)).app hw.1 hw.2
theorem zrO {t:Tr} (h:TrOk t):Qt 0 t.toks t:=(zex t h).up (zl _) (by have:=zkR (ndK t.root);unfold levI Tr.lev;omega)
theorem zmH {t:Tr} (h:TrOk t) (hs:t.size≤64):zcj t.text= .ok t:=q_rule (zrO h) hs (zqd (zen t h) _ [] rfl)
section
variable {s:List UInt8}
def Okt (t:TokT):Prop:=zB t=1∨zB t=2∨zB t=3∨(zB t=4∧zE t≠ [61])
def refT (t:TokT):List (List UInt8):=if zB t=2 then [zE t] else []
inductive Cv (s:List UInt8):TokT->List (List UInt8)->TokT->Prop
 |nil (t:TokT):Cv s t [] t
 |tok {t e:TokT} {l:List (List UInt8)} (h:Okt t) (hr:Cv s (zbJ s (Tok.at t+xB t)) l e):Cv s t (refT t++l) e
theorem Cv.trans {a b c:TokT} {l m:List (List UInt8)} (h:Cv s a l b) (h':Cv s b m c):Cv s a (l++m) c:=by
 induction h with
 |nil=>exact h'
 |tok h _ ih=>rw[zr];exact .tok h (ih h')
theorem Cv.one {t:TokT} (h:Okt t) (h2:zB t≠2):Cv s t [] (zbJ s (Tok.at t+xB t)):=by
 have:=Cv.tok (s:=s) h (.nil _);unfold refT at this;rwa[if_neg h2]at this
def Cv0 (s:List UInt8) (a b:GSt):Prop:=Cv s a.1 [] b.1
theorem Cv0.then {a b c:GSt} (h:Cv0 s a b) (h':Cv0 s b c):Cv0 s a c:=Cv.trans h h'
theorem zjH {st:GSt} {w:List UInt8} (h:gIs st w=true) (hw:w≠ [61]):Okt st.1∧zB st.1≠2:=by
 unfold gIs at h;rw[zb,ya,beq_iff_eq,beq_iff_eq,decide_eq_true_iff]at h;obtain⟨h1|h4,ht⟩:=h
 ·exact⟨.inl h1,by omega⟩
 ·exact⟨.inr (.inr (.inr ⟨h4,fun e=>hw (ht.symm.trans e)⟩)),by omega⟩
theorem zfp {st st':GSt} {w:List UInt8} (hw:w≠ [61]) (he:zaQ s st w= .ok st'):Cv0 s st st':=by
 obtain⟨u,h1,h2⟩:=zag he;cases h2;obtain⟨a,b⟩:=zjH (zaK h1) hw;exact Cv.one a b
theorem zgv {st st':GSt} (h:Okt st.1) (h2:zB st.1≠2) (he:zbu s st= .ok st'):Cv0 s st st':=by
 obtain⟨u,_,h3⟩:=zag he;cases h3;exact Cv.one h h2
theorem zbE {st st':GSt} {lo hi x:Int} (he:zaI s st lo hi= .ok (x,st')):Cv0 s st st':=by
 obtain⟨_,h1,he⟩:=zag he;obtain⟨_,_,he⟩:=zag he;cases he;have h3:zB st.1=3:=eq_of_beq (zaK h1);exact Cv.one (.inr (.inr (.inl h3))) (by omega)
theorem zl9 {lo hi:Int} {z:Bool}:∀ (k:Nat) {st st':GSt} {l l':List Int},zbI s lo hi z k st l= .ok (l',st')->Cv0 s st st'
 |0,_,_,_,_,he=>by cases he
 |k+1,st,st',l,l',he=>by
  unfold zbI at he;split at he
  ·cases he;exact .nil _
  ·obtain⟨_,_,he⟩:=zag he;obtain⟨_,_,he⟩:=zag he;obtain⟨_,_,he⟩:=zag he;obtain⟨⟨x,st1⟩,h1,he⟩:=zag he;exact (zbE h1).then (zl9 k he)
theorem ziU {st st':GSt} {lo hi:Int} {z:Bool} {l:List Int} (he:zcG s st lo hi z= .ok (l,st')):Cv0 s st st':=by
 obtain⟨st1,h1,he⟩:=zag he;obtain⟨⟨l1,st2⟩,h2,he⟩:=zag he;obtain⟨st3,h3,he⟩:=zag he;cases he;exact ((zfp (by decide) h1).then (zl9 _ h2)).then (zfp (by decide) h3)
theorem zl8 {st st':GSt} {x:Int} (he:zcY s st= .ok (x,st')):Cv0 s st st':=by
 obtain⟨_,h1,he⟩:=zag he;cases he;have h1:=zaK h1;rw[ya]at h1;rcases h1 with h1|h1
 ·obtain⟨a,b⟩:=zjH h1 (by decide);exact Cv.one a b
 ·obtain⟨a,b⟩:=zjH h1 (by decide);exact Cv.one a b
theorem k18 {k:Int} {r:Int×Int×Int×Int×Int×List Int×List UInt8×Unit} (h:k≠18):ndK (k,r)≠18:=h
theorem zsJ {st st':GSt} {n:Nd}:∀ (w:LeafW),zcN s st w= .ok (n,st')->Cv0 s st st'∧ndK n≠18
 | .days,he=>by
  obtain⟨⟨x,a⟩,h1,he⟩:=zag he;obtain⟨⟨y,b⟩,h2,he⟩:=zag he;cases he;exact⟨(zbE h1).then (zbE h2),k18 (by decide)⟩
 | .years,he=>by
  obtain⟨⟨x,a⟩,h1,he⟩:=zag he;obtain⟨⟨y,b⟩,h2,he⟩:=zag he;obtain⟨⟨z,c⟩,h3,he⟩:=zag he;cases he;exact⟨((zbE h1).then (zbE h2)).then (zbE h3),k18 (by decide)⟩
 | .months,he| .monthdays,he| .weeks,he=>by
  obtain⟨⟨x,a⟩,h1,he⟩:=zag he;obtain⟨⟨y,b⟩,h2,he⟩:=zag he;cases he;exact⟨(zbE h1).then (ziU h2),k18 (by decide)⟩
 | .weekdays,he=>by
  obtain⟨⟨y,b⟩,h2,he⟩:=zag he;cases he;exact⟨ziU h2,k18 (by decide)⟩
 | .nth,he=>by
  obtain⟨⟨x,a⟩,h1,he⟩:=zag he;obtain⟨_,_,he⟩:=zag he;obtain⟨⟨y,b⟩,h2,he⟩:=zag he;obtain⟨⟨z,c⟩,h3,he⟩:=zag he;obtain⟨⟨u,d⟩,h4,he⟩:=zag he;cases he;exact⟨(((zbE h1).then (zbE h2)).then (zbE h3)).then (zl8 h4),k18 (by decide)⟩
theorem zra {st st':GSt} {n:Nd}:∀ (w:SufW),gSuf s st w= .ok (n,st')->Cv0 s st st'
 | .shift,he| .from_,he| .until_,he=>by
  obtain⟨⟨x,a⟩,h1,he⟩:=zag he;cases he;exact zbE h1
 | .also,he| .except_,he=>by
  obtain⟨⟨x,a⟩,h1,he⟩:=zag he;cases he;exact ziU h1
 | .pos,he=>by
  obtain⟨⟨x,a⟩,h1,he⟩:=zag he;obtain⟨⟨y,b⟩,h2,he⟩:=zag he;obtain⟨⟨z,c⟩,h3,he⟩:=zag he;cases he;exact ((zbE h1).then (zl8 h2)).then (ziU h3)
 | .behind,he=>by
  obtain⟨⟨x,a⟩,h1,he⟩:=zag he;obtain⟨b,h2,he⟩:=zag he;cases he;exact (zbE h1).then (zfp (by decide) h2)
def Tr.refs:Tr->List (List UInt8)
 | .leaf n=>if ndK n=18 then [ndS n] else []
 | .un _ a=>a.refs
 | .bin _ a b=>a.refs++b.refs
def CvOk (s:List UInt8) (st:GSt) (t:Tr) (st':GSt):Md->Prop
 | .binL _ t0=>∃ l,t.refs=t0.refs++l∧Cv s st.1 l st'.1
 | .chainL t0=>∃ l,t.refs=t0.refs++l∧Cv s st.1 l st'.1
 |_=>Cv s st.1 t.refs st'.1
theorem zp1 {r:Md->GSt->GE (Tr×GSt)} (hr:∀ md st t st',r md st= .ok (t,st')->CvOk s st t st' md):∀ md st t st',zaW s r md st= .ok (t,st')->CvOk s st t st' md
 | .bin i,st,t,st',he=>by
  rw[zaW]at he;split at he
  ·exact hr .chain _ _ _ he
  ·obtain⟨⟨u,a⟩,h1,he⟩:=zag he;have k1:Cv s st.1 u.refs a.1:=hr _ _ _ _ h1;obtain⟨l,e,k2⟩:=hr _ _ _ _ he;show Cv s st.1 t.refs st'.1;rw[e];exact k1.trans k2
 | .binL i t0,st,t,st',he=>by
  rw[zaW]at he;split at he
  ·rename_i hi;obtain⟨a,h1,he⟩:=zag he;obtain⟨⟨u,b⟩,h2,he⟩:=zag he;obtain⟨o1,o2⟩:=zjH hi (by unfold opW;split<;>decide);have k2:Cv s a.1 u.refs b.1:=hr _ _ _ _ h2;obtain⟨l,e,k3⟩:=hr _ _ _ _ he;have e:t.refs=(t0.refs++u.refs)++l:=e;exact⟨[]++(u.refs++l),by rw[e,zr];rfl,(zgv o1 o2 h1).trans (k2.trans k3)⟩
  ·cases he;exact⟨[],(zJ _).symm,.nil _⟩
 | .chain,st,t,st',he=>by
  rw[zaW]at he;obtain⟨⟨u,a⟩,h1,he⟩:=zag he;have k1:Cv s st.1 u.refs a.1:=hr _ _ _ _ h1;obtain⟨l,e,k2⟩:=hr _ _ _ _ he;show Cv s st.1 t.refs st'.1;rw[e];exact k1.trans k2
 | .chainL t0,st,t,st',he=>by
  rw[zaW]at he;split at he
  ·rename_i hc;split at he
   ·cases he;exact⟨[],(zJ _).symm,.nil _⟩
   ·obtain⟨a,h1,he⟩:=zag he;obtain⟨⟨n,b⟩,h2,he⟩:=zag he;obtain⟨⟨u,c⟩,h3,he⟩:=zag he;have k3:Cv s b.1 u.refs c.1:=hr _ _ _ _ h3;obtain⟨l,e,k4⟩:=hr _ _ _ _ he;have e:t.refs=(t0.refs++u.refs)++l:=e;exact⟨[]++([]++(u.refs++l)),by rw[e,zr];rfl,(zgv (.inl hc) (by omega) h1).trans ((zra _ h2).trans (k3.trans k4))⟩
   ·obtain⟨a,h1,he⟩:=zag he;obtain⟨⟨n,b⟩,h2,he⟩:=zag he;obtain⟨l,e,k4⟩:=hr _ _ _ _ he;exact⟨[]++([]++l),e,(zgv (.inl hc) (by omega) h1).trans ((zra _ h2).trans k4)⟩
  ·cases he;exact⟨[],(zJ _).symm,.nil _⟩
 | .prim,st,t,st',he=>by
  show Cv s st.1 t.refs st'.1;rw[zaW]at he;split at he
  ·rename_i ho;obtain⟨⟨u,a⟩,h1,he⟩:=zag he;obtain⟨b,h2,he⟩:=zag he;cases he;obtain⟨o1,o2⟩:=zjH ho (by decide);have k1:Cv s (gAdv s st).1 t.refs a.1:=hr _ _ _ _ h1;have:=(Cv.one (s:=s) o1 o2).trans (k1.trans (zfp (by decide) h2));rwa[zJ]at this
  ·split at he
   ·rename_i hc;obtain⟨_,_,he⟩:=zag he;obtain⟨a,h1,he⟩:=zag he;cases he;obtain⟨u,_,h3⟩:=zag h1;cases h3;have:=Cv.tok (s:=s) (t:=st.1) (.inr (.inl hc)) (.nil _);unfold refT at this;rw[if_pos hc]at this;exact this
   ·obtain⟨_,h0,he⟩:=zag he;have h0:zB st.1=1:=eq_of_beq (zaK h0);split at he
    ·cases he
    ·obtain⟨a,h1,he⟩:=zag he;obtain⟨⟨n,b⟩,h2,he⟩:=zag he;cases he;obtain⟨k1,k2⟩:=zsJ _ h2;show Cv s st.1 (if ndK n=18 then [ndS n] else []) _;rw[if_neg k2];exact (zgv (.inl h0) (by omega) h1).trans k1
theorem zq3:∀ (k:Nat) md st t st',prs s k md st= .ok (t,st')->CvOk s st t st' md
 |0,_,_,_,_,he=>by cases he
 |k+1,md,st,t,st',he=>zp1 (zq3 k) md st t st' he
theorem zpZ {t:Tr} (h:zcj s= .ok t):∃ e,Cv s (zbJ s 0) t.refs e∧zB e=0:=by
 unfold zcj at h;cases hr:zdB s (zfN s) with
 |error e=>rw[hr]at h;cases h
 |ok p=>
  rw[hr]at h;cases h;obtain⟨⟨u,a⟩,h1,he⟩:=zag hr;obtain⟨_,h2,he⟩:=zag he;cases he;exact⟨_,zq3 _ _ _ _ _ h1,eq_of_beq (zaK h2)⟩
end
theorem zpg:∀ l:List UInt8,Bd (l.drop (zaV isPt l))
 | []=>trivial
 |c::r=>by
  cases h:isPt c with
  |true=>
   have e:zaV isPt (c::r)=zaV isPt r+1:=by unfold zaV;rw[xQ,h];rfl
   rw[e];exact zpg r
  |false=>rw[znv h];exact h
theorem zd1 (p:UInt8->Bool) (l:List UInt8):∀ c∈l.take (zaV p l),p c=true:=by
 have:l.take (zaV p l)=l.takeWhile p:=(List.prefix_iff_eq_take.1 (List.takeWhile_prefix p)).symm;rw[this];exact zV.1 List.all_takeWhile
theorem zlk {l:List UInt8} (h:0 < zas l):∃ c r,l=c::r∧isLt c=true∧zas l=zaV isPt l:=by
 cases l with
 |nil=>exact absurd h (by decide)
 |cons c r=>
  cases hc:isLt c with
  |true=>exact⟨c,r,rfl,hc,if_pos hc⟩
  |false=>
   have:zas (c::r)=0:=if_neg (by rw[hc];decide);omega
def Stp:List UInt8->Prop
 | []=>True
 |c::_=>c=32∨c=41∨c=40∨c=9∨c=10∨c=13∨c=64
def numB (c:UInt8):Bool:=isDg c||(c==45)
theorem zp2 {l:List UInt8} {k:Int} {n:Nat} {t:List UInt8} {x:Int} (h:zct l=some (k,n,t,x)):∀ c∈l.take n,numB c=true:=by
 have key:∀ c∈l.take (zaN l+(zaL l).length),numB c=true:=by
  intro c hc;rw[List.take_add]at hc;rcases yp.1 hc with hc|hc
  ·unfold zaN at hc;split at hc
   ·rename_i hh;cases l with
    |nil=>cases hh
    |cons d r=>
     have:c=d:=zv.1 hc;have e:d=45:=zN hh;rw[this,e];rfl
   ·cases hc
  ·have:=zd1 isDg (l.drop (zaN l)) c hc;unfold numB;rw[this];rfl
 unfold zct at h;split at h
 ·cases h
 ·split at h<;>(cases h;exact key)
structure TokB (t:TokT) (o:Nat) (u:List UInt8) (ws w r:List UInt8):Prop where
 eq:u=ws++(w++r)
 wh:∀ c∈ws,isWh c=true
 at':Tok.at t=((o+ws.length:Nat):Int)
 sz:xB t=((w.length:Nat):Int)
 ne:w≠ []
 hd:∀ c∈w.head?,isPt c=true∨c=64∨c=40∨c=41
 rf:zB t=2->w=64::zE t∧(∀ c∈zE t,isPt c=true)∧Bd r
 no:zB t≠2->∀ c∈w,c≠64
theorem zkE {v:List UInt8} {k:Int} (h:Okt (zcD k v)):∃ w r,v=w++r∧xB (zcD k v)=((w.length:Nat):Int)∧w≠ []∧(∀ c∈w.head?,isPt c=true∨c=64∨c=40∨c=41)∧
  (zB (zcD k v)=2->w=64::zE (zcD k v)∧(∀ c∈zE (zcD k v),isPt c=true)∧Bd r)∧(zB (zcD k v)≠2->∀ c∈w,c≠64):=by
 have pt64:∀ c:UInt8,isPt c=true->c≠64:=fun c hc e=>by rw[e]at hc;exact absurd hc (by decide)
 unfold zcD at h ⊢;cases v with
 |nil=>rcases h with h|h|h|⟨h,_⟩<;>cases h
 |cons c q=>
  simp only[]at h ⊢;split
  ·rename_i h1;obtain⟨_,_,e,hc,hw⟩:=zlk h1;cases e;have hle:=zc3 (c::q);refine⟨(c::q).take (zas (c::q)),(c::q).drop (zas (c::q)),(yy _ _).symm,?_,?_,?_,fun e=>absurd (show (1:Int)=2 from e) (by decide),fun _ x hx=>?_⟩
   ·rw[ym,yh hle];rfl
   ·intro e;rw[kC]at e;rcases e with e|e;omega;cases e
   ·intro x hx;rw[List.head?_take,if_neg (by omega)]at hx;obtain rfl:c=x:=zN hx;exact .inl (zlI c hc).1
   ·rw[hw]at hx;exact pt64 x (zd1 isPt _ x hx)
  ·rename_i h1;rw[if_neg h1]at h;split
   ·rename_i h2;obtain⟨rfl,h2⟩:=h2;obtain⟨_,_,e,hc,hw⟩:=zlk h2;have hle:=zc3 q;refine⟨64::q.take (zas q),q.drop (zas q),by rw[y9,yy],?_,by simp,?_,fun _=>⟨rfl,?_,?_⟩,fun e=>absurd rfl e⟩
    ·show ((zas q:Nat):Int)+1=_;rw[zs,ym,yh hle];omega
    ·intro x hx;obtain rfl:64=x:=zN hx;exact .inr (.inl rfl)
    ·intro x hx;have hx:x∈q.take (zas q):=hx;rw[hw]at hx;exact zd1 isPt _ x hx
    ·rw[hw];exact zpg q
   ·rename_i h2;rw[if_neg h2]at h;split
    ·rename_i kk nn tt xx hn;rw[hn]at h;have hn1:=ze9 hn;have hb:=zp2 hn;have h45:∀ x:UInt8,numB x=true->isPt x=true:=fun x hx=>by
      unfold numB at hx;unfold isPt;rw[Bool.or_assoc,hx,xX]
     have k2:kk≠2:=by rcases hn1.1 with e|e<;>omega
     refine⟨(c::q).take nn,(c::q).drop nn,(yy _ _).symm,?_,?_,?_,fun e=>absurd (show kk=2 from e) k2,fun _ x hx=>pt64 x (h45 x (hb x hx))⟩
     ·rw[ym,yh hn1.2.2.1];rfl
     ·intro e;rw[kC]at e;rcases e with e|e;omega;cases e
     ·intro x hx;refine .inl (h45 x (hb x ?_));exact List.mem_of_mem_head? hx
    ·rename_i hn;rw[hn]at h;simp only[]at h;split
     ·rename_i h3;rw[if_pos h3]at h;have h4: [c]≠ [61]:=by
       rcases h with h|h|h|⟨_,h⟩
       ·cases h
       ·cases h
       ·cases h
       ·exact h
      refine⟨[c],q,rfl,rfl,by simp,fun x hx=>?_,fun e=>absurd (show (4:Int)=2 from e) (by decide),fun _ x hx=>?_⟩
      ·obtain rfl:c=x:=zN hx;rcases h3 with e|e|e
       ·exact .inr (.inr (.inl e))
       ·exact .inr (.inr (.inr e))
       ·exact absurd (by rw[e]) h4
      ·rw[zv.1 hx];rcases h3 with e|e|e<;>rw[e]<;>decide
     ·rename_i h3;rw[if_neg h3]at h;rcases h with h|h|h|⟨h,_⟩<;>cases h
theorem zjk {s:List UInt8} {o:Nat} (h:Okt (zbJ s ((o:Nat):Int))):∃ ws w r,TokB (zbJ s ((o:Nat):Int)) o (s.drop o) ws w r:=by
 have e:zbJ s ((o:Nat):Int)=(zB (za1 (s.drop o)),Tok.at (za1 (s.drop o))+(o:Int),xB (za1 (s.drop o)),zE (za1 (s.drop o)),xO (za1 (s.drop o)),()):=rfl;generalize s.drop o=u at e ⊢;rw[zgF]at e;have hk:zaV isWh u≤u.length:=zgk _ _;have h':Okt (zcD ((zaV isWh u:Nat):Int) (u.drop (zaV isWh u))):=by rw[e]at h;exact h
 obtain⟨w,r,e1,e2,e3,e4,e5,e6⟩:=zkE h';refine⟨u.take (zaV isWh u),w,r,?_,zd1 isWh u,?_,?_,e3,e4,?_,?_⟩
 ·rw[<-e1,yy]
 ·rw[e,ym,yh hk];show Tok.at (zcD _ _)+(o:Int)=_;rw[zlt];show ((zaV isWh u:Nat):Int)+(o:Int)=_;omega
 ·rw[e];exact e2
 ·rw[e];exact e5
 ·rw[e];exact e6
theorem zkd {s:List UInt8} {o:Nat} (h:zB (zbJ s ((o:Nat):Int))=0):∀ c∈s.drop o,isWh c=true:=by
 have h:zB (za1 (s.drop o))=0:=h;generalize s.drop o=u at h ⊢;rw[zgF]at h;have hz:u.drop (zaV isWh u)=[]:=by
  cases hd:u.drop (zaV isWh u) with
  |nil=>rfl
  |cons c q=>
   exfalso;rw[hd]at h;unfold zcD at h;simp only[]at h;split at h
   ·cases h
   ·split at h
    ·cases h
    ·split at h
     ·rename_i hn;have h:_=(0:Int):=h;rcases (ze9 hn).1 with e|e<;>rw[e]at h<;>cases h
     ·split at h<;>cases h
 have:u=u.take (zaV isWh u):=by
  have:=(yy (zaV isWh u) u).symm;rwa[hz,zJ]at this
 rw[this];exact zd1 isWh u
theorem wh_stp:∀ {u:List UInt8},(∀ c∈u,isWh c=true)->Stp u
 | [],_=>trivial
 |c::_,h=>by
  have:=h c (z8 ..);simp only[isWh,ya,beq_iff_eq]at this;show c=32∨c=41∨c=40∨c=9∨c=10∨c=13∨c=64;rcases this with ((e|e)|e)|e<;>simp[e]
theorem zrA {t:TokT} {o:Nat} {u ws w r:List UInt8} (h:TokB t o u ws w r) (hb:Bd u):Stp u:=by
 rw[h.eq]at hb ⊢;cases ws with
 |cons c q=>
  have:=h.wh c (z8 ..);simp only[isWh,ya,beq_iff_eq]at this;show c=32∨c=41∨c=40∨c=9∨c=10∨c=13∨c=64;rcases this with ((e|e)|e)|e<;>simp[e]
 |nil=>
  cases hw:w with
  |nil=>exact absurd hw h.ne
  |cons c q=>
   rw[hw]at hb;have hb:isPt c=false:=hb;have:=h.hd c (by rw[hw];rfl);rw[hb]at this;show c=32∨c=41∨c=40∨c=9∨c=10∨c=13∨c=64;rcases this with e|e|e|e
   ·cases e
   ·exact .inr (.inr (.inr (.inr (.inr (.inr e)))))
   ·exact .inr (.inr (.inl e))
   ·exact .inr (.inl e)
theorem zsI {s:List UInt8} {o:Nat} {l:List (List UInt8)} {e:TokT} (h:Cv s (zbJ s ((o:Nat):Int)) l e) (he:zB e=0) (hb:Bd (s.drop o)):Stp (s.drop o):=by
 generalize ht:zbJ s ((o:Nat):Int)=t at h;cases h with
 |nil=>exact wh_stp (zkd (by rw[ht];exact he))
 |tok hk _=>
  rw[<-ht]at hk;obtain⟨ws,w,r,hB⟩:=zjk hk;exact zrA hB hb
theorem zsH {s:List UInt8} {t e:TokT} {l:List (List UInt8)} (h:Cv s t l e) (he:zB e=0):∀ o:Nat,t=zbJ s ((o:Nat):Int)->
  (∀ i,o≤i->s[i]? =some 64->∃ w∈l,∃ r,s.drop (i+1)=w++r∧(∀ c∈w,isPt c=true)∧Stp r)∧∀ w∈l,∃ p q,s=p++(64::w)++q:=by
 induction h with
 |nil t=>
  intro o ht;refine⟨fun i hi h64=>?_,fun w hw=>by cases hw⟩;exfalso;rw[ht]at he;have hm:(64:UInt8)∈s.drop o:=by
   refine yE (i:=i - o) ?_;rw[ja,show o+(i - o)=i by omega];exact h64
  exact absurd (zkd he 64 hm) (by decide)
 | @tok t e l hk hr ih=>
  intro o ht;subst ht;obtain⟨ws,w,r,hB⟩:=zjk hk;have hoff:Tok.at (zbJ s ((o:Nat):Int))+xB (zbJ s ((o:Nat):Int))=((o+ws.length+w.length:Nat):Int):=by rw[hB.at',hB.sz];omega
  rw[hoff]at hr ih;obtain⟨ih1,ih2⟩:=ih he (o+ws.length+w.length) rfl;have hdr:s.drop (o+ws.length+w.length)=r:=by
   rw[<-xj, <-xj,hB.eq,xh,xh]
  have hget:∀ i,o≤i->s[i]? =(ws++(w++r))[i - o]? :=fun i hi=>by
   rw[<-hB.eq,ja,show o+(i - o)=i by omega]
  refine⟨fun i hi h64=>?_,fun x hx=>?_⟩
  ·by_cases h1:o+ws.length+w.length≤i
   ·obtain⟨x,hx,y⟩:=ih1 i h1 h64;exact⟨x,yp.2 (.inr hx),y⟩
   ·rw[hget i hi]at h64;by_cases h2:i - o < ws.length
    ·rw[y6 h2]at h64;exact absurd (hB.wh 64 (yE h64)) (by decide)
    ·rw[xn (by omega),y6 (by omega)]at h64;by_cases h3:zB (zbJ s ((o:Nat):Int))=2
     ·obtain⟨e1,e2,e3⟩:=hB.rf h3;cases hj:i - o - ws.length with
      |succ j=>
       rw[hj,e1,List.getElem?_cons_succ]at h64;exact absurd (e2 64 (yE h64)) (by decide)
      |zero=>
       refine⟨zE (zbJ s ((o:Nat):Int)),yp.2 (.inl (by unfold refT;rw[if_pos h3];exact zv.2 rfl)),r,?_,e2,?_⟩
       ·rw[show i+1=o+ws.length+1 by omega, <-xj, <-xj,hB.eq,xh,e1];rfl
       ·have:=zsI hr he (by rw[hdr];exact e3);rwa[hdr]at this
     ·exact absurd rfl (hB.no h3 64 (yE h64))
  ·rcases yp.1 hx with hx|hx
   ·unfold refT at hx;split at hx
    ·rename_i h3;obtain⟨e1,_⟩:=hB.rf h3;rw[zv.1 hx];refine⟨s.take o++ws,r,?_⟩;rw[<-e1]
     conv=>lhs;rw[<-yy o s,hB.eq]
     simp
    ·cases hx
   ·exact ih2 x hx
theorem zmI {s:List UInt8} {t:Tr} (h:zcj s= .ok t):
  (∀ i,s[i]? =some 64->∃ w∈t.refs,∃ r,s.drop (i+1)=w++r∧(∀ c∈w,isPt c=true)∧Stp r)∧∀ w∈t.refs,∃ p q,s=p++(64::w)++q:=by
 obtain⟨e,h1,h2⟩:=zpZ h;obtain⟨a,b⟩:=zsH h1 h2 0 rfl;exact⟨fun i=>a i (zl _),b⟩
def nmOf (n:Nd):Option (List UInt8):=if ndK n=18 then some (ndS n) else none
theorem ziE {n:Nd} (h:ndK n≠18): [n].filterMap nmOf=[]:=by
 have:nmOf n=none:=if_neg h;rw[vf,this];rfl
theorem ze4:∀ (t:Tr) (b:Nat),TrOk t->(t.flat b).filterMap nmOf=t.refs
 | .leaf n,b,_=>by
  show [n].filterMap nmOf=if ndK n=18 then [ndS n] else []
  split
  ·rename_i h;have:nmOf n=some (ndS n):=if_pos h;rw[vf,this];rfl
  ·rename_i h;exact ziE h
 | .un n a,b,h=>by
  obtain⟨_,hk,_,ha⟩:=h;show (a.flat b++ [_]).filterMap nmOf=a.refs;rw[jX,ze4 a b ha,ziE (by show ndK n≠18;omega),zJ]
 | .bin n a c,b,h=>by
  obtain⟨_,hk,_,ha,hc⟩:=h;show (a.flat b++c.flat (b+a.size)++ [_]).filterMap nmOf=a.refs++c.refs;rw[jX,jX,ze4 a b ha,ze4 c _ hc,ziE (by show ndK n≠18;omega),zJ]
def addN (out:List (List UInt8)) (n:Nd):List (List UInt8):=if (ndK n==18)&& !out.contains (ndS n) then out++ [ndS n] else out
def zc7 (r:List Nd):List (List UInt8):=r.foldl addN []
theorem zqU {w:List UInt8} {out:List (List UInt8)} {n:Nd}:w∈addN out n↔w∈out∨some w=nmOf n:=by
 unfold addN nmOf;by_cases hk:ndK n=18
 ·rw[if_pos hk,hk];by_cases hc:out.contains (ndS n)=true
  ·rw[hc,if_neg (by decide)];constructor
   ·exact .inl
   ·rintro (h|h)
    ·exact h
    ·cases h;exact List.contains_iff_mem.1 hc
  ·have hc:out.contains (ndS n)=false:=by simpa using hc
   rw[hc,if_pos (by decide),yp,zv];constructor
   ·rintro (h|h)
    ·exact .inl h
    ·exact .inr (by rw[h])
   ·rintro (h|h)
    ·exact .inl h
    ·exact .inr (zN h)
 ·have:(ndK n==18)=false:=by simpa using hk
  rw[if_neg hk,this,if_neg (by simp)];simp
theorem zjJ (w:List UInt8):∀ (r:List Nd) (out:List (List UInt8)),w∈r.foldl addN out↔w∈out∨w∈r.filterMap nmOf
 | [],out=>by simp
 |n::r,out=>by
  rw[List.foldl_cons,zjJ w r,zqU,vf];cases h:nmOf n with
  |none=>simp
  |some x=>
   simp only[zX,Option.some.injEq];constructor
   ·rintro ((h|h)|h)
    ·exact .inl h
    ·exact .inr (.inl h)
    ·exact .inr (.inr h)
   ·rintro (h|h|h)
    ·exact .inl (.inl h)
    ·exact .inl (.inr h)
    ·exact .inr h
def opsN (n:Nd):Int:=(zdu (ndK n)).1
def zeG (n:Nd) (i:Int):Bool:=
 (bif decide (0 < opsN n) then inB (ndL n) 0 (i - 1) else (ndL n==0)||(ndK n==7))&&(bif decide (1 < opsN n) then inB (ndR n) 0 (i - 1) else ndR n==0)
def bump (u:List Int) (j:Int):List Int:=u.set j.toNat (u.getD j.toNat 0+1)
def zbx (u:List Int) (n:Nd):List Int:=
 bif decide (1 < opsN n) then bump (bump u (ndL n)) (ndR n) else bif decide (0 < opsN n) then bump u (ndL n) else u
def zb1 (r:List Nd) (k:Nat):List Int:=(r.take k).foldl zbx (zp r.length 0)
def zcL (n:Nd) (i:Int):Bool:=zbr n&&zeG n i
def zcQ (r:List Nd):Nat->Bool
 |0=>true
 |k+1=>zcQ r k&&zcL (r.getD k zNd) (k:Int)
def wfS (r:List Nd):Bool:=decide (1≤r.length)&&decide (r.length≤64)&&zcQ r r.length&& !((zb1 r r.length).take (r.length - 1)).any not1
def zco (r:List Nd):Int:=if 64 < r.length∨r.any bigN=true then 2 else if wfS r=true then 0 else 1
theorem zdL {r:List Nd}:∀ {k:Nat},zcQ r k=true↔∀ j,j < k->zcL (r.getD j zNd) (j:Int)=true
 |0=>⟨fun _ j h=>by omega,fun _=>rfl⟩
 |k+1=>by
  unfold zcQ;rw[zb,zdL (k:=k)];constructor
  ·rintro ⟨h1,h2⟩ j hj;by_cases e:j=k
   ·rw[e];exact h2
   ·exact h1 j (by omega)
  ·exact fun h=>⟨fun j hj=>h j (by omega),h k (by omega)⟩
theorem zh3 (r:List Nd) (j:Nat):zau r (j:Int)=r.getD j zNd:=rfl
theorem zlC {n:Nd} (h:11≤ndK n∧ndK n≤16):opsN n=1:=by
 unfold opsN;rcases (show ndK n=11∨ndK n=12∨ndK n=13∨ndK n=14∨ndK n=15∨ndK n=16 by omega) with k|k|k|k|k|k<;>rw[k]<;>rfl
theorem ziC {n:Nd} (h:(8≤ndK n∧ndK n≤10)∨ndK n=17):opsN n=2:=by
 unfold opsN;rcases (show ndK n=8∨ndK n=9∨ndK n=10∨ndK n=17 by omega) with k|k|k|k<;>rw[k]<;>rfl
theorem zgq {n:Nd} (h1:1≤ndK n∧ndK n≤18) (h:¬ (8≤ndK n∧ndK n≤17)):opsN n=0:=by
 unfold opsN;rcases (show ndK n=1∨ndK n=2∨ndK n=3∨ndK n=4∨ndK n=5∨ndK n=6∨ndK n=7∨ndK n=18 by omega) with k|k|k|k|k|k|k|k<;>rw[k]<;>rfl
theorem zn7 {n:Nd} {i:Int} (h:11≤ndK n∧ndK n≤16):zeG n i=true↔(0≤ndL n∧ndL n≤i - 1)∧ndR n=0:=by
 unfold zeG;rw[zlC h,decide_eq_true (by decide),decide_eq_false (by decide),cond_true,cond_false,zb,zaJ,beq_iff_eq]
theorem ziD {n:Nd} {i:Int} (h:(8≤ndK n∧ndK n≤10)∨ndK n=17):zeG n i=true↔(0≤ndL n∧ndL n≤i - 1)∧(0≤ndR n∧ndR n≤i - 1):=by
 unfold zeG;rw[ziC h,decide_eq_true (by decide),decide_eq_true (by decide),cond_true,cond_true,zb,zaJ,zaJ]
theorem zlD {n:Nd} {i:Int} (h1:1≤ndK n∧ndK n≤18) (h:¬ (8≤ndK n∧ndK n≤17)):zeG n i=true↔(ndL n=0∨ndK n=7)∧ndR n=0:=by
 unfold zeG;rw[zgq h1 h,decide_eq_false (by decide),decide_eq_false (by decide),cond_false,cond_false,zb,ya,beq_iff_eq,beq_iff_eq,beq_iff_eq]
theorem zgt {n:Nd} (h:8≤ndK n∧ndK n≤17) (l r:Int):zbr (zdI n l r)=zbr n:=by
 have h7:zcP (zdI n l r)=zcP n:=by
  unfold zcP;have hk:(zdI n l r).1=n.1:=rfl;have h7:(n.1==7)=false:=beq_eq_false_iff_ne.2 fun e=>by have:ndK n=7:=e;omega
  rw[hk,h7];rfl
 unfold zbr;rw[h7];rfl
def trF:Nat->List Nd->Int->Tr
 |0,r,i=>.leaf (zau r i)
 |k+1,r,i=>
  if 11≤ndK (zau r i)∧ndK (zau r i)≤16 then .un (zdI (zau r i) 0 0) (trF k r (ndL (zau r i)))
  else if (8≤ndK (zau r i)∧ndK (zau r i)≤10)∨ndK (zau r i)=17 then .bin (zdI (zau r i) 0 0) (trF k r (ndL (zau r i))) (trF k r (ndR (zau r i)))
  else .leaf (zau r i)
theorem zkz:∀ (k:Nat) (r:List Nd) (i:Int),(trF k r i).lev=levS (ndK (zau r i))
 |0,_,_=>rfl
 |k+1,r,i=>by
  unfold trF;split
  ·rfl
  ·split<;>rfl
def Low (r:List Nd):Prop:=∀ j:Nat,j < r.length->(8≤ndK (zau r j)->ndK (zau r j)≤17->0≤ndL (zau r j)∧ndL (zau r j) < j)∧(8≤ndK (zau r j)->ndK (zau r j)≤10∨ndK (zau r j)=17->0≤ndR (zau r j)∧ndR (zau r j) < j)
theorem zpA {n:Nd} (b:List UInt8) (h:11≤ndK n∧ndK n≤16):zcB b n=zcB [] (zdI n 0 0):=by
 unfold zcB;have hk:ndK (zdI n 0 0)=ndK n:=rfl;rw[hk];rcases (show ndK n=11∨ndK n=12∨ndK n=13∨ndK n=14∨ndK n=15∨ndK n=16 by omega) with k|k|k|k|k|k<;>rw[k]<;>rfl
theorem zlp (n:Nd) (a b:Tr):(Tr.bin n a b).text=if ndK n=17 then parS (decide (a.lev≥4)) a.text++zcB (parS (decide (b.lev≥5)) b.text) n
 else parS (decide (a.lev≥levS (ndK n))) a.text++(putS ([32]++opWd (levS (ndK n))++ [32]) []++parS (decide (b.lev≥levS (ndK n)+1)) b.text):=rfl
theorem zgr {r:List Nd} (hl:Low r):∀ (k:Nat) (i:Nat),i < k->i < r.length->zcR k r i=(trF k r i).text
 |0,_,h,_=>by omega
 |k+1,i,hk,hr=>by
  obtain⟨hL,hR⟩:=hl i hr;unfold zcR trF;generalize hn:zau r (i:Int)=n at *;have key:∀ j:Int,0≤j->j < (i:Int)->zcR k r j=(trF k r j).text:=fun j h0 h1=>by
   obtain⟨m,rfl⟩:∃ m:Nat,j=(m:Int):=⟨j.toNat,by omega⟩;exact zgr hl k m (by omega) (by omega)
  by_cases h11:11≤ndK n∧ndK n≤16
  ·rw[if_pos h11,zkQ (by omega),if_neg (by decide),if_pos rfl];obtain⟨a,b⟩:=hL (by omega) (by omega);show _=parS (decide ((trF k r (ndL n)).lev≥4)) (trF k r (ndL n)).text++zcB [] (zdI n 0 0);rw[zkz,key _ a b,zpA _ h11]
  ·rw[if_neg h11];by_cases h8:(8≤ndK n∧ndK n≤10)∨ndK n=17
   ·rw[if_pos h8];obtain⟨a,b⟩:=hL (by omega) (by omega);obtain⟨c,d⟩:=hR (by omega) (by omega);rw[key _ a b,key _ c d];have hk:ndK (zdI n 0 0)=ndK n:=rfl;rw[zlp,hk,zkz,zkz];by_cases h17:ndK n=17
    ·rw[if_pos h17,h17,if_neg (by decide),if_pos (by decide)];have:∀ b,zcB b n=zcB b (zdI n 0 0):=fun b=>by
      unfold zcB;rw[hk,h17];rfl
     rw[this]
    ·have hlt:levS (ndK n) < 4:=by rcases (show ndK n=8∨ndK n=9∨ndK n=10 by omega) with k|k|k<;>rw[k]<;>decide
     rw[if_neg h17,if_pos hlt]
   ·rw[if_neg h8];rw[zlM (by omega),if_neg (by decide),if_neg (by decide)];rfl
theorem zck {r:List Nd} (h:zcQ r r.length=true) {j:Nat} (hj:j < r.length):zbr (zau r j)=true∧zeG (zau r j) (j:Int)=true:=by
 have:=zdL.1 h j hj;unfold zcL at this;rw[zb]at this;exact this
theorem zlJ {r:List Nd} (h:zcQ r r.length=true):Low r:=fun j hj=>by
 obtain⟨_,h2⟩:=zck h hj;constructor
 ·intro a b;by_cases hu:11≤ndK (zau r j)∧ndK (zau r j)≤16
  ·have:=((zn7 hu).1 h2).1;omega
  ·have:=((ziD (by omega)).1 h2).1;omega
 ·intro a b;have:=((ziD (by omega)).1 h2).2;omega
theorem znl {r:List Nd} (h:zcQ r r.length=true):∀ (k i:Nat),i < k->i < r.length->TrOk (trF k r i)
 |0,_,hk,_=>by omega
 |k+1,i,hk,hr=>by
  obtain⟨h1,h2⟩:=zck h hr;obtain⟨⟨k1,k2⟩,_⟩:=zaD h1;have key:∀ j:Int,0≤j->j≤(i:Int) - 1->TrOk (trF k r j):=fun j h0 h1=>by
   obtain⟨m,rfl⟩:∃ m:Nat,j=(m:Int):=⟨j.toNat,by omega⟩;exact znl h k m (by omega) (by omega)
  unfold trF;generalize zau r (i:Int)=n at *;by_cases h11:11≤ndK n∧ndK n≤16
  ·rw[if_pos h11];obtain⟨⟨a,b⟩,_⟩:=(zn7 h11).1 h2;exact⟨by rw[zgt (by omega)];exact h1,h11,⟨rfl,rfl⟩,key _ a b⟩
  ·rw[if_neg h11];by_cases h8:(8≤ndK n∧ndK n≤10)∨ndK n=17
   ·rw[if_pos h8];obtain⟨⟨a,b⟩,⟨c,d⟩⟩:=(ziD h8).1 h2;exact⟨by rw[zgt (by omega)];exact h1,h8,⟨rfl,rfl⟩,key _ a b,key _ c d⟩
   ·rw[if_neg h8];have hlf:¬ (8≤ndK n∧ndK n≤17):=by omega
    obtain⟨a,b⟩:=(zlD ⟨k1,k2⟩ hlf).1 h2;exact⟨h1,hlf,b,fun e=>a.resolve_right e⟩
theorem zdR (u:List Int) (j:Int):(bump u j).length=u.length:=List.length_set ..
theorem zml (u:List Int) (n:Nd):(zbx u n).length=u.length:=by
 unfold zbx;cases decide (1 < opsN n)<;>cases decide (0 < opsN n)<;>simp[zdR]
theorem zcH {u:List Int} {j:Int} {k:Nat} (hj:j.toNat < u.length):(bump u j).getD k 0=if k=j.toNat then u.getD k 0+1 else u.getD k 0:=by
 unfold bump;rw[zM,k7];by_cases e:k=j.toNat
 ·subst e;rw[if_pos rfl,if_pos rfl,if_pos hj];rfl
 ·rw[if_neg fun h=>e h.symm,if_neg e,zM]
theorem zcJ (r:List Nd) (k:Nat):(zb1 r k).length=r.length:=by
 unfold zb1;have:∀ (l:List Nd) (u:List Int),(l.foldl zbx u).length=u.length:=by
  intro l
  induction l with
  |nil=>intro u;rfl
  |cons n l ih=>intro u;rw[List.foldl_cons,ih,zml]
 rw[this,xF]
theorem zcA {r:List Nd} {k:Nat} (hk:k < r.length):zb1 r (k+1)=zbx (zb1 r k) (zau r k):=by
 unfold zb1;rw[zH hk,qP];show zbx _ r[k]=zbx _ (r.getD k zNd);rw[zM,zR hk];rfl
theorem zky (r:List Nd) (j:Nat):(zb1 r 0).getD j 0=0:=by
 unfold zb1;rw[List.take_zero,List.foldl_nil,zM,List.getElem?_replicate];split<;>rfl
theorem zeV {n:Nd} {u:List Int} (h:(8≤ndK n->ndK n≤17->0≤ndL n∧ndL n < u.length)∧(8≤ndK n->ndK n≤10∨ndK n=17->0≤ndR n∧ndR n < u.length)) (hk:1≤ndK n∧ndK n≤18) (k:Nat):
  (zbx u n).getD k 0=u.getD k 0+(if 8≤ndK n∧ndK n≤17∧k=(ndL n).toNat then 1 else 0)+(if ((8≤ndK n∧ndK n≤10)∨ndK n=17)∧k=(ndR n).toNat then 1 else 0):=by
 obtain⟨hL,hR⟩:=h;unfold zbx;by_cases h11:11≤ndK n∧ndK n≤16
 ·obtain⟨a,b⟩:=hL (by omega) (by omega);rw[zlC h11,decide_eq_false (by decide),decide_eq_true (by decide),cond_false,cond_true,zcH (by omega)];rw[if_neg (c:=((8≤ndK n∧ndK n≤10)∨ndK n=17)∧k=(ndR n).toNat) (by omega)];by_cases e:k=(ndL n).toNat
  ·rw[if_pos e,if_pos ⟨by omega,by omega,e⟩];omega
  ·rw[if_neg e,if_neg fun h=>e h.2.2];omega
 ·by_cases h8:(8≤ndK n∧ndK n≤10)∨ndK n=17
  ·obtain⟨a,b⟩:=hL (by omega) (by omega);obtain⟨c,d⟩:=hR (by omega) (by omega);rw[ziC h8,decide_eq_true (by decide),cond_true,zcH (by rw[zdR];omega),zcH (by omega)];by_cases e:k=(ndL n).toNat
   ·rw[if_pos e,if_pos (c:=8≤ndK n∧ndK n≤17∧k=(ndL n).toNat) ⟨by omega,by omega,e⟩];by_cases e2:k=(ndR n).toNat
    ·rw[if_pos e2,if_pos ⟨h8,e2⟩]
    ·rw[if_neg e2,if_neg fun h=>e2 h.2];omega
   ·rw[if_neg e,if_neg (c:=8≤ndK n∧ndK n≤17∧k=(ndL n).toNat) fun h=>e h.2.2];by_cases e2:k=(ndR n).toNat
    ·rw[if_pos e2,if_pos ⟨h8,e2⟩];omega
    ·rw[if_neg e2,if_neg fun h=>e2 h.2];omega
  ·rw[zgq hk (by omega),decide_eq_false (by decide),decide_eq_false (by decide),cond_false,cond_false,if_neg (by omega),if_neg (by omega)];omega
def pot (u:List Int) (f:Nat->Nat):Nat->Nat
 |0=>0
 |m+1=>pot u f m+(if u.getD m 0=0 then f m else 0)
theorem zgo {u:List Int} {f:Nat->Nat} {j:Int} (hj:j.toNat < u.length) (h0:u.getD j.toNat 0=0):∀ {m:Nat},(j.toNat < m->pot (bump u j) f m+f j.toNat=pot u f m)∧(m≤j.toNat->pot (bump u j) f m=pot u f m)
 |0=>⟨fun h=>by omega,fun _=>rfl⟩
 |m+1=>by
  obtain⟨i1,i2⟩:=zgo (f:=f) hj h0 (m:=m);constructor
  ·intro h;unfold pot;rw[zcH hj];by_cases e:m=j.toNat
   ·rw[i2 (by omega),if_pos e,e,h0,if_neg (by decide),if_pos rfl];omega
   ·rw[if_neg e, <-i1 (by omega)];omega
  ·intro h;unfold pot;rw[i2 (by omega),zcH hj,if_neg (c:=m=j.toNat) (by omega)]
theorem zei {r:List Nd} (hl:Low r) (hk:∀ j:Nat,j < r.length->1≤ndK (zau r j)∧ndK (zau r j)≤18):∀ m,m≤r.length->∀ j,m≤j->(zb1 r m).getD j 0=0
 |0,_,j,_=>zky r j
 |m+1,hm,j,hj=>by
  obtain⟨a,b⟩:=hl m (by omega);rw[zcA (by omega),zeV (by rw[zcJ];exact⟨fun x y=>by have:=a x y;omega,fun x y=>by have:=b x y;omega⟩) (hk m (by omega)),zei hl hk m (by omega) j (by omega),if_neg,if_neg]
  ·omega
  ·rintro ⟨x,y⟩;have:=b (by omega) (by omega);omega
  ·rintro ⟨x,y,z⟩;have:=a x y;omega
theorem zgB {r:List Nd} (hl:Low r) (hk:∀ j:Nat,j < r.length->1≤ndK (zau r j)∧ndK (zau r j)≤18) (j:Nat):∀ d m,m+d≤r.length->(zb1 r m).getD j 0≤(zb1 r (m+d)).getD j 0
 |0,m,_=>qN _
 |d+1,m,h=>by
  have:=zgB hl hk j d m (by omega);obtain⟨a,b⟩:=hl (m+d) (by omega);rw[<-Nat.add_assoc,zcA (by omega),zeV (by rw[zcJ];exact⟨fun x y=>by have:=a x y;omega,fun x y=>by have:=b x y;omega⟩) (hk (m+d) (by omega))];have p1:(0:Int)≤if 8≤ndK (zau r (m+d:Nat))∧ndK (zau r (m+d:Nat))≤17∧j=(ndL (zau r (m+d:Nat))).toNat then 1 else 0:=by split<;>decide
  have p2:(0:Int)≤if ((8≤ndK (zau r (m+d:Nat))∧ndK (zau r (m+d:Nat))≤10)∨ndK (zau r (m+d:Nat))=17)∧j=(ndR (zau r (m+d:Nat))).toNat then 1 else 0:=by split<;>decide
  omega
theorem zij {r:List Nd} (hl:Low r):∀ (k k' i:Nat),i < k->i < k'->i < r.length->trF k r i=trF k' r i
 |0,_,_,h,_,_=>by omega
 |_+1,0,_,_,h,_=>by omega
 |k+1,k'+1,i,h,h',hr=>by
  obtain⟨hL,hR⟩:=hl i hr;have key:∀ j:Int,0≤j->j < (i:Int)->trF k r j=trF k' r j:=fun j h0 h1=>by
   obtain⟨m,rfl⟩:∃ m:Nat,j=(m:Int):=⟨j.toNat,by omega⟩;exact zij hl k k' m (by omega) (by omega) (by omega)
  unfold trF;split
  ·rename_i hu;obtain⟨a,b⟩:=hL (by omega) (by omega);rw[key _ a b]
  ·split
   ·rename_i hb;obtain⟨a,b⟩:=hL (by omega) (by omega);obtain⟨c,d⟩:=hR (by omega) (by omega);rw[key _ a b,key _ c d]
   ·rfl
theorem zlB {r:List Nd} (hl:Low r) (hk:∀ j:Nat,j < r.length->1≤ndK (zau r j)∧ndK (zau r j)≤18) (h1:∀ j,(zb1 r r.length).getD j 0≤1):∀ m,m≤r.length->pot (zb1 r m) (fun j=>(trF (r.length+1) r j).size) m=m
 |0,_=>rfl
 |m+1,hm=>by
  have ih:=zlB hl hk h1 m (by omega);obtain⟨hL,hR⟩:=hl m (by omega);have hkm:=hk m (by omega);have hb:∀ j,(zb1 r (m+1)).getD j 0≤1:=fun j=>by
   have:=zgB hl hk j (r.length - (m+1)) (m+1) (by omega);rw[show m+1+(r.length - (m+1))=r.length by omega]at this;have:=h1 j;omega
  have hab:=zei hl hk m (by omega);have hlen:=zcJ r m;have hpos:∀ j,0≤(zb1 r m).getD j 0:=fun j=>by
   have:=zgB hl hk j m 0 (by omega);rw[zky,yu]at this;exact this
  have hm0:(zb1 r (m+1)).getD m 0=0:=by
   have h:=hab m (zk _);rw[zcA (by omega),zeV (by rw[zcJ];exact⟨fun x y=>by have:=hL x y;omega,fun x y=>by have:=hR x y;omega⟩) hkm,h,if_neg,if_neg]
   ·rfl
   ·rintro ⟨x,y⟩;have:=hR (by omega) (by omega);omega
   ·rintro ⟨x,y,z⟩;have:=hL x y;omega
  have key:∀ j:Int,0≤j->j < (m:Int)->(trF r.length r j).size=(trF (r.length+1) r (j.toNat:Nat)).size:=fun j h0 h1=>by
   obtain⟨q,rfl⟩:∃ q:Nat,j=(q:Int):=⟨j.toNat,by omega⟩;rw[zL,zij hl r.length (r.length+1) q (by omega) (by omega) (by omega)]
  have hf:∀ n,zau r (m:Int)=n->(trF (r.length+1) r (m:Int)).size=(if 8≤ndK n∧ndK n≤17 then (trF (r.length+1) r ((ndL n).toNat:Nat)).size else 0)+(if (8≤ndK n∧ndK n≤10)∨ndK n=17 then (trF (r.length+1) r ((ndR n).toNat:Nat)).size else 0)+1:=by
   rintro n rfl
   conv=>lhs;unfold trF
   split
   ·rename_i hu;obtain⟨a,b⟩:=hL (by omega) (by omega);rw[if_pos (by omega),if_neg (by omega)];show (trF r.length r _).size+1=_;rw[key _ a b]
   ·split
    ·rename_i hu;obtain⟨a,b⟩:=hL (by omega) (by omega);obtain⟨c,d⟩:=hR (by omega) (by omega);rw[if_pos (by omega)];show (trF r.length r _).size+(trF r.length r _).size+1=_;rw[key _ a b,key _ c d]
    ·rw[if_neg (by omega)];rfl
  have hf:=hf _ rfl;unfold pot;rw[hm0,if_pos rfl];have hu:=zcA (r:=r) (k:=m) (by omega);rw[hu]at hb ⊢;generalize hn:zau r (m:Int)=n at *;rw[hf];unfold zbx at hb ⊢;by_cases h11:11≤ndK n∧ndK n≤16
  ·obtain⟨a,b⟩:=hL (by omega) (by omega);rw[zlC h11,decide_eq_false (by decide),decide_eq_true (by decide),cond_false,cond_true]at hb ⊢;rw[if_pos (by omega),if_neg (by omega)];have h0:=hb (ndL n).toNat;rw[zcH (by omega),if_pos rfl]at h0;have:=hpos (ndL n).toNat;have:=(zgo (f:=fun j=>(trF (r.length+1) r j).size) (u:=zb1 r m) (j:=ndL n) (by omega) (by omega) (m:=m)).1 (by omega);omega
  ·by_cases h8:(8≤ndK n∧ndK n≤10)∨ndK n=17
   ·obtain⟨a,b⟩:=hL (by omega) (by omega);obtain⟨c,d⟩:=hR (by omega) (by omega);rw[ziC h8,decide_eq_true (by decide),cond_true]at hb ⊢;rw[if_pos (by omega),if_pos h8];have hne:(ndL n).toNat≠(ndR n).toNat:=fun e=>by
     have h0:=hb (ndR n).toNat;rw[zcH (by rw[zdR];omega),if_pos rfl,zcH (by omega),if_pos e.symm]at h0;have:=hpos (ndR n).toNat;omega
    have h0:=hb (ndL n).toNat;rw[zcH (by rw[zdR];omega),if_neg hne,zcH (by omega),if_pos rfl]at h0;have h2:=hb (ndR n).toNat;rw[zcH (by rw[zdR];omega),if_pos rfl,zcH (by omega),if_neg (fun e=>hne e.symm)]at h2;have p1:=hpos (ndL n).toNat;have p2:=hpos (ndR n).toNat;have e1:=(zgo (f:=fun j=>(trF (r.length+1) r j).size) (u:=zb1 r m) (j:=ndL n) (by omega) (by omega) (m:=m)).1 (by omega);have e2:=(zgo (f:=fun j=>(trF (r.length+1) r j).size) (u:=bump (zb1 r m) (ndL n)) (j:=ndR n) (by rw[zdR];omega) (by rw[zcH (by omega),if_neg (fun e=>hne e.symm)];omega) (m:=m)).1 (by omega);omega
   ·rw[zgq hkm (by omega),decide_eq_false (by decide),decide_eq_false (by decide),cond_false,cond_false,if_neg (by omega),if_neg (by omega),ih]
theorem zdl {r:List Nd} (h:wfS r=true):(1≤r.length∧r.length≤64)∧zcQ r r.length=true∧∀ j,j < r.length - 1->(zb1 r r.length).getD j 0=1:=by
 unfold wfS at h;simp only[zb,decide_eq_true_iff,zy,vR]at h;obtain⟨⟨h1,h2⟩,h3⟩:=h;refine⟨h1,h2,fun j hj=>?_⟩;have hl:=zcJ r r.length;have hj2:j < (zb1 r r.length).length:=by omega
 have:=h3 ((zb1 r r.length)[j]) (List.mem_take_iff_getElem.2 ⟨j,by omega,rfl⟩);rw[zM,zR hj2];unfold not1 at this
 simpa using this
def zdn (r:List Nd):Tr:=trF (r.length+1) r ((r.length:Int) - 1)
theorem zno {r:List Nd} (h:wfS r=true):(zdn r).size=r.length:=by
 obtain⟨⟨h1,h2⟩,h3,h4⟩:=zdl h;have hl:=zlJ h3;have hk:∀ j:Nat,j < r.length->1≤ndK (zau r j)∧ndK (zau r j)≤18:=fun j hj=>(zaD (zck h3 hj).1).1;have hlast:(zb1 r r.length).getD (r.length - 1) 0=0:=by
  obtain⟨m,hm⟩:∃ m,r.length=m+1:=⟨r.length - 1,by omega⟩;obtain⟨a,b⟩:=hl m (by omega);rw[hm,vC,zcA (by omega),zeV (by rw[zcJ];exact⟨fun x y=>by have:=a x y;omega,fun x y=>by have:=b x y;omega⟩) (hk m (by omega)),zei hl hk m (by omega) m (zk _),if_neg,if_neg]
  ·rfl
  ·rintro ⟨x,y⟩;have:=b (by omega) (by omega);omega
  ·rintro ⟨x,y,z⟩;have:=a x y;omega
 have hle:∀ j,(zb1 r r.length).getD j 0≤1:=fun j=>by
  by_cases e:j < r.length - 1
  ·rw[h4 j e];exact qN _
  ·by_cases e2:j=r.length - 1
   ·rw[e2,hlast];decide
   ·rw[zei hl hk r.length (zk _) j (by omega)];decide
 have:=zlB hl hk hle r.length (zk _);obtain⟨m,hm⟩:∃ m,r.length=m+1:=⟨r.length - 1,by omega⟩;have hp:∀ q,q≤m->pot (zb1 r r.length) (fun j=>(trF (r.length+1) r j).size) q=0:=by
  intro q
  induction q with
  |zero=>intro _;rfl
  |succ q ih=>intro hq;unfold pot;rw[ih (by omega),h4 q (by omega),if_neg (by decide)]
 rw[hm]at this hlast;unfold pot at this;rw[<-hm]at this hlast;rw[hp m (zk _)]at this;have hm2:r.length - 1=m:=by omega
 rw[hm2]at hlast;rw[hlast,if_pos rfl]at this;unfold zdn;rw[show ((r.length:Int) - 1)=((m:Nat):Int) by omega];omega
theorem zrz {r:List Nd} (h:wfS r=true):TrOk (zdn r):=by
 obtain⟨⟨h1,h2⟩,h3,h4⟩:=zdl h;unfold zdn;rw[show ((r.length:Int) - 1)=((r.length - 1:Nat):Int) by omega];exact znl h3 _ _ (by omega) (by omega)
theorem znn {r:List Nd} (h:wfS r=true):zcR (r.length+1) r ((r.length:Int) - 1)=(zdn r).text:=by
 obtain⟨⟨h1,h2⟩,h3,h4⟩:=zdl h;unfold zdn;rw[show ((r.length:Int) - 1)=((r.length - 1:Nat):Int) by omega];exact zgr (zlJ h3) _ _ (by omega) (by omega)
def fmtS (r:List Nd):List UInt8×Int:=if zco r=0 then (if 4000 < (zdn r).text.length then ([],2) else ((zdn r).text,0)) else ([],zco r)
theorem zfM {α:Type} {l m:List α} {z:α} {j:Nat} (h:j < l.length):(l++m).getD j z=l.getD j z:=by
 rw[zM,zM,y6 h]
theorem zep {α:Type} {l m:List α} {z:α} {j:Nat}:(l++m).getD (l.length+j) z=m.getD j z:=by
 rw[zM,zM,xn (Nat.le_add_right ..),Nat.add_sub_cancel_left]
theorem zqR (x y:List Int):bump (x++(0::y)) ((x.length:Nat):Int)=x++(1::y):=by
 unfold bump;rw[zL];have:(x++(0::y)).getD x.length 0=0:=by
  have:=zep (l:=x) (m:=0::y) (z:=(0:Int)) (j:=0);rw[Nat.add_zero]at this;rw[this];rfl
 rw[this,List.set_append_right _ _ (zk _),Nat.sub_self];rfl
theorem zhn {x y z w:List Int} {i:Int} (hz:z=x++(0::y)) (hi:i=((x.length:Nat):Int)) (hw:w=x++(1::y)):bump z i=w:=by rw[hz,hi,hw,zqR]
theorem ziv (n:Nat) (x:Int) (q:List Int):zp n x++(x::q)=zp (n+1) x++q:=by
 rw[List.replicate_succ',zr];rfl
theorem ziw {n:Nat} (h:1≤n) (q:List Int):zp (n - 1) (1:Int)++(1::q)=zp n 1++q:=by
 rw[ziv,show n - 1+1=n by omega]
theorem zeU:∀ (t:Tr) (b:Nat) (p q:List Int),TrOk t->p.length=b->(t.flat b).foldl zbx (p++(zp t.size 0++q))=p++(zp (t.size - 1) 1++(0::q))
 | .leaf n,b,p,q,h,hp=>by
  obtain⟨h1,h2,hR,hL⟩:=h;obtain⟨hk,_⟩:=zaD h1;show zbx _ n=_;unfold zbx;rw[zgq hk h2];rfl
 | .un n a,b,p,q,h,hp=>by
  obtain⟨h1,h2,hLR,ha⟩:=h;have hs:=a.size_pos;show (a.flat b++ [_]).foldl zbx (p++(zp (a.size+1) 0++q))=p++(zp (a.size+1 - 1) 1++(0::q));rw[qP, <-ziv,zeU a b p (0::q) ha hp];show zbx _ (setL n ((b+a.size:Nat) - 1))=_;unfold zbx;have ho:opsN (setL n ((b+a.size:Nat) - 1))=1:=zlC (n:=setL n ((b+a.size:Nat) - 1)) h2;rw[ho,decide_eq_false (by decide),decide_eq_true (by decide),cond_false,cond_true];refine zhn (x:=p++zp (a.size - 1) 1) (y:=0::q) (by rw[zr]) ?_ ?_
  ·rw[zh,xF,hp];show ((b+a.size:Nat):Int) - 1=_;omega
  ·rw[zr,ziw hs,vC]
 | .bin n a c,b,p,q,h,hp=>by
  obtain⟨h1,h2,hLR,ha,hc⟩:=h;have hs:=a.size_pos;have hs2:=c.size_pos;show (a.flat b++c.flat (b+a.size)++ [_]).foldl zbx (p++(zp (a.size+c.size+1) 0++q))=p++(zp (a.size+c.size+1 - 1) 1++(0::q));have e1:p++(zp (a.size+c.size+1) (0:Int)++q)=p++(zp a.size 0++(zp c.size 0++(0::q))):=by
   rw[<-ziv, <-qR,zr]
  rw[qP,qP,e1,zeU a b p _ ha hp];have e2:p++(zp (a.size - 1) (1:Int)++(0::(zp c.size 0++(0::q))))=(p++(zp (a.size - 1) 1++ [0]))++(zp c.size 0++(0::q)):=by simp
  rw[e2,zeU c (b+a.size) _ _ hc (by rw[zh,zh,xF,hp,yH];omega)];show zbx _ (zdI n ((b+a.size:Nat) - 1) ((b+a.size+c.size:Nat) - 1))=_;unfold zbx;have ho:opsN (zdI n ((b+a.size:Nat) - 1) ((b+a.size+c.size:Nat) - 1))=2:=ziC (n:=zdI n ((b+a.size:Nat) - 1) ((b+a.size+c.size:Nat) - 1)) h2;rw[ho,decide_eq_true (by decide),cond_true];have eL:bump ((p++(zp (a.size - 1) 1++ [0]))++(zp (c.size - 1) 1++(0::(0::q)))) (ndL (zdI n ((b+a.size:Nat) - 1) ((b+a.size+c.size:Nat) - 1)))=p++zp (a.size - 1) 1++(1::(zp (c.size - 1) 1++(0::0::q))):=by
   refine zhn (x:=p++zp (a.size - 1) 1) (y:=zp (c.size - 1) 1++(0::0::q)) (by simp) ?_ rfl;rw[zh,xF,hp];show ((b+a.size:Nat):Int) - 1=_;omega
  rw[eL];refine zhn (x:=p++zp (a.size - 1) 1++(1::zp (c.size - 1) 1)) (y:=0::q) (by simp) ?_ ?_
  ·rw[zh,zh,zs,xF,xF,hp];show ((b+a.size+c.size:Nat):Int) - 1=_;omega
  ·rw[vC,zr,zr,y9,ziw hs,ziw hs2, <-zr (zp a.size 1),qR]
theorem zem:∀ (t:Tr) (b:Nat),TrOk t->∀ j,j < t.size->zcL ((t.flat b).getD j zNd) ((b+j:Nat):Int)=true
 | .leaf n,b,h,j,hj=>by
  obtain⟨h1,h2,hR,hL⟩:=h;have hj:j < 1:=hj;obtain rfl:j=0:=by omega
  obtain⟨hk,_⟩:=zaD h1;show zcL n _=true;unfold zcL;rw[h1,(zlD hk h2).2 ⟨by by_cases e:ndK n=7;exact .inr e;exact .inl (hL e),hR⟩];rfl
 | .un n a,b,h,j,hj=>by
  obtain⟨h1,h2,hLR,ha⟩:=h;have hs:=a.size_pos;have hfl:=js a b;have hj:j < a.size+1:=hj;show zcL ((a.flat b++ [setL n ((b+a.size:Nat) - 1)]).getD j zNd) _=true;by_cases e:j < a.size
  ·rw[zfM (by omega)];exact zem a b ha j e
  ·obtain rfl:j=(a.flat b).length+0:=by omega
   rw[zep];show zcL (setL n ((b+a.size:Nat) - 1)) _=true;have e1:zbr (setL n ((b+a.size:Nat) - 1))=true:=by
    have:=zgt (n:=n) (by omega) ((b+a.size:Nat) - 1) (ndR n);rw[h1]at this;exact this
   unfold zcL;rw[e1,(zn7 (n:=setL n ((b+a.size:Nat) - 1)) h2).2 ⟨⟨by show (0:Int)≤((b+a.size:Nat):Int) - 1;omega,by show ((b+a.size:Nat):Int) - 1≤_;omega⟩,hLR.2⟩];rfl
 | .bin n a c,b,h,j,hj=>by
  obtain⟨h1,h2,hLR,ha,hc⟩:=h;have hs:=a.size_pos;have hs2:=c.size_pos;have hfl:=js a b;have hfc:=js c (b+a.size);have hj:j < a.size+c.size+1:=hj;show zcL ((a.flat b++c.flat (b+a.size)++ [zdI n ((b+a.size:Nat) - 1) ((b+a.size+c.size:Nat) - 1)]).getD j zNd) _=true;by_cases e:j < a.size
  ·rw[zr,zfM (by omega)];exact zem a b ha j e
  ·by_cases e2:j < a.size+c.size
   ·obtain⟨i,rfl⟩:∃ i,j=(a.flat b).length+i:=⟨j - a.size,by omega⟩;rw[zr,zep,zfM (by omega)];have:=zem c (b+a.size) hc i (by omega);rwa[show b+((a.flat b).length+i)=b+a.size+i by omega]
   ·obtain rfl:j=(a.flat b++c.flat (b+a.size)).length+0:=by rw[zh];omega
    rw[zep];show zcL (zdI n ((b+a.size:Nat) - 1) ((b+a.size+c.size:Nat) - 1)) _=true;have hlen:(a.flat b++c.flat (b+a.size)).length=a.size+c.size:=by rw[zh];omega
    have e1:=zgt (n:=n) (by omega) ((b+a.size:Nat) - 1) ((b+a.size+c.size:Nat) - 1);rw[h1]at e1;unfold zcL;rw[e1,(ziD (n:=zdI n ((b+a.size:Nat) - 1) ((b+a.size+c.size:Nat) - 1)) h2).2 ⟨⟨by show (0:Int)≤((b+a.size:Nat):Int) - 1;omega,by show ((b+a.size:Nat):Int) - 1≤_;omega⟩,⟨by show (0:Int)≤((b+a.size+c.size:Nat):Int) - 1;omega,by show ((b+a.size+c.size:Nat):Int) - 1≤_;omega⟩⟩];rfl
theorem zlZ {n:Nd} (h:zbr n=true):(ndS n).length≤32:=by
 obtain⟨_,_,_,h,_⟩:=zaD h;unfold ziF at h;cases hk:(ndK n==18) with
 |true=>
  rw[hk]at h;have h:zev (ndS n)=true:=h;unfold zev at h;simp only[zb,decide_eq_true_iff]at h;exact h.1.2
 |false=>
  rw[hk]at h;have h:=of_decide_eq_true h;rw[h];decide
theorem zkw {r:List Nd} (h:wfS r=true):zco r=0:=by
 obtain⟨⟨h1,h2⟩,h3,_⟩:=zdl h;unfold zco;rw[if_neg,if_pos h];rintro (h4|h4)
 ·omega
 ·obtain⟨x,hx,hb⟩:=jz.1 h4;obtain⟨j,hj,rfl⟩:=List.getElem_of_mem hx;have hf:=(zck h3 hj).1;rw[zh3,zM,zR hj]at hf;have hf:zbr r[j]=true:=hf;have h5:=(zaD hf).2.1;have h6:=zlZ hf;unfold bigN at hb;rw[ya,decide_eq_true_iff,decide_eq_true_iff]at hb;unfold ndI at h5;unfold ndS at h6;omega
theorem zkv {r:List Nd} (h:zco r=0):wfS r=true:=by
 unfold zco at h;split at h
 ·cases h
 ·split at h
  ·assumption
  ·cases h
theorem zro {t:Tr} (h:TrOk t) (hs:t.size≤64):wfS (t.flat 0)=true:=by
 have hl:=js t 0;have hp:=t.size_pos;unfold wfS;have hu:zb1 (t.flat 0) (t.flat 0).length=zp (t.size - 1) 1++ [0]:=by
  unfold zb1;rw[xc,hl];have:=zeU t 0 [] [] h rfl;rw[yN,yN,zJ]at this;exact this
 rw[hu,hl,decide_eq_true hp,decide_eq_true hs,zdL.2 (fun j hj=>by have:=zem t 0 h j hj;rwa[yu]at this)];have:(zp (t.size - 1) (1:Int)++ [0]).take (t.size - 1)=zp (t.size - 1) 1:=by
  have:=xi (l₁:=zp (t.size - 1) (1:Int)) (l₂:=[0]);rwa[xF]at this
 rw[this];have:(zp (t.size - 1) (1:Int)).any not1=false:=by
  rw[vR];intro x hx;rw[List.eq_of_mem_replicate hx];decide
 rw[this];rfl
theorem zeI {a:Int} (ha:zbY a):∀ x∈ [a],zbY x:=fun x hx=>by rw[zv]at hx;subst hx;exact ha
theorem numL2 {a b:Int} (ha:zbY a) (hb:zbY b):∀ x∈ [a,b],zbY x:=fun x hx=>by
 rcases zX.1 hx with rfl|hx
 ·exact ha
 ·exact zeI hb x hx
theorem zrS {a b c:Int} (ha:zbY a) (hb:zbY b) (hc:zbY c):∀ x∈ [a,b,c],zbY x:=fun x hx=>by
 rcases zX.1 hx with rfl|hx
 ·exact ha
 ·exact numL2 hb hc x hx
def hLf:List (FuncId×HCtr):=[(100,cPut),(150,zme)]
theorem zdz:HsOk Tryz.prog gmH hLf:=.cons zn2 <| .cons zlK .nil
def kLf:Kn:={ gmK with C:=[(151,zo4)] }
theorem zaO:KnOk Tryz.prog gmH kLf:=zak.with (.cons znG .nil)
theorem zdv (n:Int):(zcp n).length≤10:=by
 unfold zcp;split
 ·decide
 ·decide
theorem cat3 (a b c:List UInt8):(a++b++c:List UInt8)=a++(b++c):=zr a b c
@[reducible] def zpa:HCtr:=hW [nd] (fun x xs=>[zd x.2.1+10000≤1000000000,zkr xs.1,1≤ndK xs.1,ndK xs.1≤7∨ndK xs.1=18]) fun x xs=>zd9 xs.1
theorem zqi:zaA Tryz.prog gmH 103 zpa:=by
 refine zat (K:=_) zaO Tryz.func103 rfl rfl (zce rfl) Tryz.call103 rfl (zf rfl) (zdt prT [107]) ?_;rintro w0 ⟨G,O,K,fix,D,ρ,B⟩ ty hX hG hK hρ hD hinv ⟨(b:Bool),(bf:List UInt8),(r:List Nd),⟨⟩⟩ ⟨(n:Nd),⟨⟩⟩ hp;obtain rfl:G=gmH:=hG;obtain rfl:K=1:=hK;obtain rfl:ρ=none:=hρ;obtain rfl:D=[]:=hD;have hI:=fun w R hR hw=>(⟨zaE (ty:=ty) hX rfl hinv.1 (ty':=ty) w R hR hw,hinv.2⟩:bInv prT [107] w R ty);obtain⟨hlen,⟨⟨hC,hN,hM⟩,hI',hil,hnl,hsc,-⟩,hk0,hkk⟩:bf.length+10000≤1000000000∧zkr n∧1≤ndK n∧(ndK n≤7∨ndK n=18):=hp;have hq0:bf.length+200+19 * 3≤1000000000:=by omega
 change AWP _ _ _ _ _ ⟨[(0,⟨.hptr,((0:Nat),(0:Nat))⟩),(1,⟨nd,n⟩)],wE ty b bf r,2⟩ (wQ _ zpa ty (.ok ((),(true,((bf++zd9 n:List UInt8),(r,()))))));unfold zd9;refine za (za ?_);refine zaa hX zaO rfl ?_ ?_
 ·trivial
 refine za (za ?_);refine zaa hX zaO rfl ?_ ?_
 ·trivial
 apply zab;refine zap (σ':=⟨[(0,⟨.hptr,((0:Nat),(0:Nat))⟩),(3,⟨.optr nd,⟨2,nd,.here⟩⟩),(5,⟨i64,ndK n⟩)],(2,some (.box nd n))::wE ty b bf r,3⟩) ⟨⟨rfl,rfl,rfl,trivial⟩,⟨rfl,rfl,rfl,trivial⟩,rfl,by cases b<;>rfl⟩ ?_;refine za (za ?_);refine zaa hX zaO rfl ?_ ?_
 ·trivial
 refine zai rfl (fun hb=>?_) (fun hb=>?_)
 ·have hb:(ndK n==1)=true:=hb;have hk:=beq_iff_eq.1 hb;rw[if_pos hk];cases b
  all_goals
   (repeat(first|apply zae|apply zac|apply zab|apply zad));refine zaj ?_;refine yc 6 hX zaO zdz rfl trivial rfl rfl ⟨(by show zd bf+zd zjg+19 * 2≤1000000000;have:zd zjg≤20:=(by decide);omega),(numL2 hN hM)⟩ hI ?_;exact z6 ⟨.inl rfl,⟨_,rfl,u8,1,_,rfl,rfl,rfl⟩,zba (by decide) rfl rfl trivial rfl⟩
 have hb:(ndK n==1)=false:=hb;have hk1:ndK n≠1:=fun e=>by rw[beq_iff_eq.2 e]at hb;cases hb
 rw[if_neg hk1];refine za (za ?_);refine zaa hX zaO rfl ?_ ?_
 ·trivial
 refine zai rfl (fun hb=>?_) (fun hb=>?_)
 ·have hb:(ndK n==2)=true:=hb;have hk:=beq_iff_eq.1 hb;rw[if_pos hk];cases b
  all_goals
   (repeat(first|apply zae|apply zac|apply zab|apply zad));refine zaj ?_;refine yc 8 hX zaO zdz rfl trivial rfl rfl ⟨(by show zd bf+zd zfY+19 * 3≤1000000000;have:zd zfY≤20:=(by decide);omega),(zrS hC hN hM)⟩ hI ?_;exact z6 ⟨.inl rfl,⟨_,rfl,u8,1,_,rfl,rfl,rfl⟩,zba (by decide) rfl rfl trivial rfl⟩
 have hb:(ndK n==2)=false:=hb;have hk2:ndK n≠2:=fun e=>by rw[beq_iff_eq.2 e]at hb;cases hb
 rw[if_neg hk2];refine za (za ?_);refine zaa hX zaO rfl ?_ ?_
 ·trivial
 refine zai rfl (fun hb=>?_) (fun hb=>?_)
 ·have hb:(ndK n==3)=true:=hb;have hk:=beq_iff_eq.1 hb;rw[if_pos hk];refine xz (σ':=⟨[(0,⟨.hptr,((0:Nat),(0:Nat))⟩),(3,⟨.optr nd,⟨2,nd,.here⟩⟩)],(2,some (.box nd n))::wE ty true ((bf++putS zcm [ndC n]:List UInt8)) r,3⟩) ?_ ?_
  ·cases b
   all_goals
    (repeat(first|apply zae|apply zac|apply zab|apply zad));refine zaj ?_;refine yc 4 hX zaO zdz rfl trivial rfl rfl ⟨(by show zd bf+zd zcm+19 * 1≤1000000000;have:zd zcm≤20:=(by decide);omega),(zeI hC)⟩ hI ?_;exact z6 ⟨⟨rfl,rfl,trivial⟩,⟨rfl,rfl,rfl,trivial⟩,rfl,rfl⟩
  have hl2:zd (bf++putS zcm [ndC n]:List UInt8)+20 * zd (ndI n)+1≤1000000000:=by
   have:=zbz (zeI hC);have hw:zd zcm≤20:=by decide
   simp only[putS,zh,zs,z7]at this ⊢;omega
  rw[show (bf++(putS zcm [ndC n]++zb6 (ndI n)):List UInt8)=bf++putS zcm [ndC n]++zb6 (ndI n) from (cat3 _ _ _).symm];(repeat(first|apply zae|apply zac|apply zab|apply zad));refine zaj ?_;refine yc 3 hX zaO zdz rfl trivial rfl rfl ⟨hl2,hI'⟩ hI ?_;exact z6 ⟨.inl rfl,⟨_,rfl,u8,1,_,rfl,rfl,rfl⟩,zba (by decide) rfl rfl trivial rfl⟩
 have hb:(ndK n==3)=false:=hb;have hk3:ndK n≠3:=fun e=>by rw[beq_iff_eq.2 e]at hb;cases hb
 rw[if_neg hk3];refine za (za ?_);refine zaa hX zaO rfl ?_ ?_
 ·trivial
 refine zai rfl (fun hb=>?_) (fun hb=>?_)
 ·have hb:(ndK n==4)=true:=hb;have hk:=beq_iff_eq.1 hb;rw[if_pos hk];refine xz (σ':=⟨[(0,⟨.hptr,((0:Nat),(0:Nat))⟩),(3,⟨.optr nd,⟨2,nd,.here⟩⟩)],(2,some (.box nd n))::wE ty true ((bf++putS za6 [ndC n]:List UInt8)) r,3⟩) ?_ ?_
  ·cases b
   all_goals
    (repeat(first|apply zae|apply zac|apply zab|apply zad));refine zaj ?_;refine yc 4 hX zaO zdz rfl trivial rfl rfl ⟨(by show zd bf+zd za6+19 * 1≤1000000000;have:zd za6≤20:=(by decide);omega),(zeI hC)⟩ hI ?_;exact z6 ⟨⟨rfl,rfl,trivial⟩,⟨rfl,rfl,rfl,trivial⟩,rfl,rfl⟩
  have hl2:zd (bf++putS za6 [ndC n]:List UInt8)+20 * zd (ndI n)+1≤1000000000:=by
   have:=zbz (zeI hC);have hw:zd za6≤20:=by decide
   simp only[putS,zh,zs,z7]at this ⊢;omega
  rw[show (bf++(putS za6 [ndC n]++zb6 (ndI n)):List UInt8)=bf++putS za6 [ndC n]++zb6 (ndI n) from (cat3 _ _ _).symm];(repeat(first|apply zae|apply zac|apply zab|apply zad));refine zaj ?_;refine yc 3 hX zaO zdz rfl trivial rfl rfl ⟨hl2,hI'⟩ hI ?_;exact z6 ⟨.inl rfl,⟨_,rfl,u8,1,_,rfl,rfl,rfl⟩,zba (by decide) rfl rfl trivial rfl⟩
 have hb:(ndK n==4)=false:=hb;have hk4:ndK n≠4:=fun e=>by rw[beq_iff_eq.2 e]at hb;cases hb
 rw[if_neg hk4];refine za (za ?_);refine zaa hX zaO rfl ?_ ?_
 ·trivial
 refine zai rfl (fun hb=>?_) (fun hb=>?_)
 ·have hb:(ndK n==5)=true:=hb;have hk:=beq_iff_eq.1 hb;rw[if_pos hk];refine xz (σ':=⟨[(0,⟨.hptr,((0:Nat),(0:Nat))⟩),(3,⟨.optr nd,⟨2,nd,.here⟩⟩)],(2,some (.box nd n))::wE ty true ((bf++putS zbo []:List UInt8)) r,3⟩) ?_ ?_
  ·cases b
   all_goals
    (repeat(first|apply zae|apply zac|apply zab|apply zad));refine zaj ?_;refine yc 1 hX zaO zdz rfl trivial rfl rfl ⟨(by show zd bf+zd zbo+19 * 0≤1000000000;have:zd zbo≤20:=(by decide);omega),(fun x hx=>by cases hx)⟩ hI ?_;exact z6 ⟨⟨rfl,rfl,trivial⟩,⟨rfl,rfl,rfl,trivial⟩,rfl,rfl⟩
  have hl2:zd (bf++putS zbo []:List UInt8)+20 * zd (ndI n)+1≤1000000000:=by
   have:=zbz (l:=[]) (fun x hx=>by cases hx);have hw:zd zbo≤20:=by decide
   simp only[putS,zh,zs,z7]at this ⊢;omega
  rw[show (bf++(putS zbo []++zb6 (ndI n)):List UInt8)=bf++putS zbo []++zb6 (ndI n) from (cat3 _ _ _).symm];(repeat(first|apply zae|apply zac|apply zab|apply zad));refine zaj ?_;refine yc 3 hX zaO zdz rfl trivial rfl rfl ⟨hl2,hI'⟩ hI ?_;exact z6 ⟨.inl rfl,⟨_,rfl,u8,1,_,rfl,rfl,rfl⟩,zba (by decide) rfl rfl trivial rfl⟩
 have hb:(ndK n==5)=false:=hb;have hk5:ndK n≠5:=fun e=>by rw[beq_iff_eq.2 e]at hb;cases hb
 rw[if_neg hk5];refine za (za ?_);refine zaa hX zaO rfl ?_ ?_
 ·trivial
 refine zai rfl (fun hb=>?_) (fun hb=>?_)
 ·have hb:(ndK n==6)=true:=hb;have hk:=beq_iff_eq.1 hb;rw[if_pos hk];refine xz (σ':=⟨[(0,⟨.hptr,((0:Nat),(0:Nat))⟩),(3,⟨.optr nd,⟨2,nd,.here⟩⟩)],(2,some (.box nd n))::wE ty true ((bf++putS zdm [ndC n]:List UInt8)) r,3⟩) ?_ ?_
  ·cases b
   all_goals
    (repeat(first|apply zae|apply zac|apply zab|apply zad));refine zaj ?_;refine yc 4 hX zaO zdz rfl trivial rfl rfl ⟨(by show zd bf+zd zdm+19 * 1≤1000000000;have:zd zdm≤20:=(by decide);omega),(zeI hC)⟩ hI ?_;exact z6 ⟨⟨rfl,rfl,trivial⟩,⟨rfl,rfl,rfl,trivial⟩,rfl,rfl⟩
  have hl2:zd (bf++putS zdm [ndC n]:List UInt8)+20 * zd (ndI n)+1≤1000000000:=by
   have:=zbz (zeI hC);have hw:zd zdm≤20:=by decide
   simp only[putS,zh,zs,z7]at this ⊢;omega
  rw[show (bf++(putS zdm [ndC n]++zb6 (ndI n)):List UInt8)=bf++putS zdm [ndC n]++zb6 (ndI n) from (cat3 _ _ _).symm];(repeat(first|apply zae|apply zac|apply zab|apply zad));refine zaj ?_;refine yc 3 hX zaO zdz rfl trivial rfl rfl ⟨hl2,hI'⟩ hI ?_;exact z6 ⟨.inl rfl,⟨_,rfl,u8,1,_,rfl,rfl,rfl⟩,zba (by decide) rfl rfl trivial rfl⟩
 have hb:(ndK n==6)=false:=hb;have hk6:ndK n≠6:=fun e=>by rw[beq_iff_eq.2 e]at hb;cases hb
 rw[if_neg hk6];refine za (za ?_);refine zaa hX zaO rfl ?_ ?_
 ·trivial
 refine zai rfl (fun hb=>?_) (fun hb=>?_)
 ·have hb:(ndK n==7)=true:=hb;have hk:=beq_iff_eq.1 hb;rw[if_pos hk];obtain⟨hs0,hs1⟩:=hsc hk;refine xz (σ':=⟨[(0,⟨.hptr,((0:Nat),(0:Nat))⟩),(3,⟨.optr nd,⟨2,nd,.here⟩⟩)],(2,some (.box nd n))::wE ty true ((bf++putS wNth [ndC n,ndN n,ndM n]:List UInt8)) r,3⟩) ?_ ?_
  ·cases b
   all_goals
    (repeat(first|apply zae|apply zac|apply zab|apply zad));refine zaj ?_;refine yc 8 hX zaO zdz rfl trivial rfl rfl ⟨(by show zd bf+zd wNth+19 * 3≤1000000000;have:zd wNth≤20:=(by decide);omega),(zrS hC hN hM)⟩ hI ?_;exact z6 ⟨⟨rfl,rfl,trivial⟩,⟨rfl,rfl,rfl,trivial⟩,rfl,rfl⟩
  have hl2:zd (bf++putS wNth [ndC n,ndN n,ndM n]:List UInt8)+zd (zcp (ndL n))+19 * 0≤1000000000:=by
   have:=zbz (zrS hC hN hM);have hw:zd wNth≤20:=by decide
   have hs:=zdv (ndL n);simp only[putS,zh,zs,z7]at this ⊢;omega
  rw[show (bf++(putS wNth [ndC n,ndN n,ndM n]++putS (zcp (ndL n)) []):List UInt8)=bf++putS wNth [ndC n,ndN n,ndM n]++putS (zcp (ndL n)) [] from (cat3 _ _ _).symm];(repeat(first|apply zae|apply zac|apply zab|apply zad));refine zaj ?_;refine yc 4 hX zaO zdz rfl ⟨hs0,hs1⟩ rfl rfl ⟨hl2,fun x hx=>by cases hx⟩ hI ?_;exact z6 ⟨.inl rfl,⟨_,rfl,u8,1,_,rfl,rfl,rfl⟩,zba (by decide) rfl rfl trivial rfl⟩
 have hb:(ndK n==7)=false:=hb;have hk7:ndK n≠7:=fun e=>by rw[beq_iff_eq.2 e]at hb;cases hb
 rw[if_neg hk7];refine za (za ?_);refine zaa hX zaO rfl ?_ ?_
 ·trivial
 refine zai rfl (fun hb=>?_) (fun hb=>?_)
 ·have hb:(ndK n==18)=true:=hb;have hk:=beq_iff_eq.1 hb;rw[if_pos hk];have hcat:1+zd (ndS n)≤maxLen:=by unfold maxLen;omega
  have hl2:zd bf+zd (wAt++ndS n:List UInt8)+19 * 0≤1000000000:=by
   rw[zh];show _+(1+_)+_≤_;omega
  cases b
  all_goals
   (repeat(first|apply zae|apply zac|apply zab|apply zad));refine zaj ?_;refine yc 4 hX zaO zdz rfl hcat rfl rfl ⟨hl2,fun x hx=>by cases hx⟩ hI ?_;exact z6 ⟨.inl rfl,⟨_,rfl,u8,1,_,rfl,rfl,rfl⟩,zba (by decide) rfl rfl trivial rfl⟩
 have hb:(ndK n==18)=false:=hb;have hk18:ndK n≠18:=fun e=>by rw[beq_iff_eq.2 e]at hb;cases hb
 rw[if_neg hk18];exfalso;omega
def WfP (r:List Nd):Prop:=r.length≤1000∧∀ j:Nat,j < r.length->zkr (zau r j)∧(1≤ndK (zau r j)∧ndK (zau r j)≤18)∧(8≤ndK (zau r j)->ndK (zau r j)≤17->0≤ndL (zau r j)∧ndL (zau r j) < j)∧(8≤ndK (zau r j)->ndK (zau r j)≤10∨ndK (zau r j)=17->0≤ndR (zau r j)∧ndR (zau r j) < j)
@[reducible] def cOpd (k:Nat):HCtr:=hW [i64,i64] (fun x xs=>[WfP x.2.2.1,0≤xs.1,xs.1.toNat < k,xs.1.toNat < zd x.2.2.1,zd x.2.1+zd (opdF k x.2.2.1 xs.1 xs.2.1)+10000≤1000000000]) fun x xs=>opdF k x.2.2.1 xs.1 xs.2.1
@[reducible] def zqP (k:Nat):HCtr:=hW [nd] (fun x xs=>[WfP x.2.2.1,zkr xs.1,11≤ndK xs.1,ndK xs.1≤17,ndK xs.1=17->0≤ndR xs.1∧(ndR xs.1).toNat < k∧(ndR xs.1).toNat < zd x.2.2.1,zd x.2.1+zd (zcB (opdF k x.2.2.1 (ndR xs.1) 5) xs.1)+10000≤1000000000]) fun x xs=>zcB (opdF k x.2.2.1 (ndR xs.1) 5) xs.1
def hSf (k:Nat):List (FuncId×HCtr):=[(100,cPut),(150,zme),(99,cOpd k)]
theorem cat4 (a b c d:List UInt8):(a++b++c++d:List UInt8)=a++(b++(c++d)):=by rw[zr,zr]
theorem zmo (k:Nat) (hO:zaA Tryz.prog gmH 99 (cOpd k)):zaA Tryz.prog gmH 102 (zqP k):=by
 have hsf:HsOk Tryz.prog gmH (hSf k):=.cons zn2 <| .cons zlK <| .cons hO .nil;refine zat (K:=_) zaO Tryz.func102 rfl rfl (zce rfl) Tryz.call102 rfl (zf rfl) (zdt prT [107]) ?_;rintro w0 ⟨G,O,K,fix,D,ρ,B⟩ ty hX hG hK hρ hD hinv ⟨(b:Bool),(bf:List UInt8),(r:List Nd),⟨⟩⟩ ⟨(n:Nd),⟨⟩⟩ hp;obtain rfl:G=gmH:=hG;obtain rfl:K=1:=hK;obtain rfl:ρ=none:=hρ;obtain rfl:D=[]:=hD;have hI:=fun w R hR hw=>(⟨zaE (ty:=ty) hX rfl hinv.1 (ty':=ty) w R hR hw,hinv.2⟩:bInv prT [107] w R ty);obtain⟨hwf,⟨⟨hC,hN,hM⟩,hI',hil,hnl,-,hsc⟩,hk0,hkk,hbh,hT⟩:WfP r∧zkr n∧11≤ndK n∧ndK n≤17∧(ndK n=17->0≤ndR n∧(ndR n).toNat < k∧(ndR n).toNat < r.length)∧bf.length+(zcB (opdF k r (ndR n) 5) n).length+10000≤1000000000:=hp;have hlen:bf.length+10000≤1000000000:=by omega
 change AWP _ _ _ _ _ ⟨[(0,⟨.hptr,((0:Nat),(0:Nat))⟩),(1,⟨nd,n⟩)],wE ty b bf r,2⟩ (wQ _ (zqP k) ty (.ok ((),(true,((bf++zcB (opdF k r (ndR n) 5) n:List UInt8),(r,()))))));unfold zcB at hT ⊢;refine za (za ?_);refine zaa hX zaO rfl ?_ ?_
 ·trivial
 refine za (za ?_);refine zaa hX zaO rfl ?_ ?_
 ·trivial
 apply zab;refine zap (σ':=⟨[(0,⟨.hptr,((0:Nat),(0:Nat))⟩),(3,⟨.optr nd,⟨2,nd,.here⟩⟩),(5,⟨i64,ndK n⟩)],(2,some (.box nd n))::wE ty b bf r,3⟩) ⟨⟨rfl,rfl,rfl,trivial⟩,⟨rfl,rfl,rfl,trivial⟩,rfl,by cases b<;>rfl⟩ ?_;refine za (za ?_);refine zaa hX zaO rfl ?_ ?_
 ·trivial
 refine zai rfl (fun hb=>?_) (fun hb=>?_)
 ·have hb:(ndK n==11)=true:=hb;have hk:=beq_iff_eq.1 hb;rw[if_pos hk];cases b
  all_goals
   (repeat(first|apply zae|apply zac|apply zab|apply zad));refine zaj ?_;refine yc 4 hX zaO hsf rfl trivial rfl rfl ⟨(by show zd bf+zd (spW zeR)+19 * 1≤1000000000;have:zd (spW zeR)≤20:=(by decide);omega),(zeI hN)⟩ hI ?_;exact z6 ⟨.inl rfl,⟨_,rfl,u8,1,_,rfl,rfl,rfl⟩,zba (by decide) rfl rfl trivial rfl⟩
 have hb:(ndK n==11)=false:=hb;have hk11:ndK n≠11:=fun e=>by rw[beq_iff_eq.2 e]at hb;cases hb
 rw[if_neg hk11];refine za (za ?_);refine zaa hX zaO rfl ?_ ?_
 ·trivial
 refine zai rfl (fun hb=>?_) (fun hb=>?_)
 ·have hb:(ndK n==12)=true:=hb;have hk:=beq_iff_eq.1 hb;rw[if_pos hk];cases b
  all_goals
   (repeat(first|apply zae|apply zac|apply zab|apply zad));refine zaj ?_;refine yc 4 hX zaO hsf rfl trivial rfl rfl ⟨(by show zd bf+zd (spW zii)+19 * 1≤1000000000;have:zd (spW zii)≤20:=(by decide);omega),(zeI hN)⟩ hI ?_;exact z6 ⟨.inl rfl,⟨_,rfl,u8,1,_,rfl,rfl,rfl⟩,zba (by decide) rfl rfl trivial rfl⟩
 have hb:(ndK n==12)=false:=hb;have hk12:ndK n≠12:=fun e=>by rw[beq_iff_eq.2 e]at hb;cases hb
 rw[if_neg hk12];refine za (za ?_);refine zaa hX zaO rfl ?_ ?_
 ·trivial
 refine zai rfl (fun hb=>?_) (fun hb=>?_)
 ·have hb:(ndK n==13)=true:=hb;have hk:=beq_iff_eq.1 hb;rw[if_pos hk];cases b
  all_goals
   (repeat(first|apply zae|apply zac|apply zab|apply zad));refine zaj ?_;refine yc 4 hX zaO hsf rfl trivial rfl rfl ⟨(by show zd bf+zd (spW zeQ)+19 * 1≤1000000000;have:zd (spW zeQ)≤20:=(by decide);omega),(zeI hN)⟩ hI ?_;exact z6 ⟨.inl rfl,⟨_,rfl,u8,1,_,rfl,rfl,rfl⟩,zba (by decide) rfl rfl trivial rfl⟩
 have hb:(ndK n==13)=false:=hb;have hk13:ndK n≠13:=fun e=>by rw[beq_iff_eq.2 e]at hb;cases hb
 rw[if_neg hk13];refine za (za ?_);refine zaa hX zaO rfl ?_ ?_
 ·trivial
 refine zai rfl (fun hb=>?_) (fun hb=>?_)
 ·have hb:(ndK n==14)=true:=hb;have hk:=beq_iff_eq.1 hb;rw[if_pos hk];refine xz (σ':=⟨[(0,⟨.hptr,((0:Nat),(0:Nat))⟩),(3,⟨.optr nd,⟨2,nd,.here⟩⟩)],(2,some (.box nd n))::wE ty true ((bf++putS (spW zeT) []:List UInt8)) r,3⟩) ?_ ?_
  ·cases b
   all_goals
    (repeat(first|apply zae|apply zac|apply zab|apply zad));refine zaj ?_;refine yc 1 hX zaO hsf rfl trivial rfl rfl ⟨(by show zd bf+zd (spW zeT)+19 * 0≤1000000000;have:zd (spW zeT)≤20:=(by decide);omega),(fun x hx=>by cases hx)⟩ hI ?_;exact z6 ⟨⟨rfl,rfl,trivial⟩,⟨rfl,rfl,rfl,trivial⟩,rfl,rfl⟩
  have hl2:zd (bf++putS (spW zeT) []:List UInt8)+20 * zd (ndI n)+1≤1000000000:=by
   have:=zbz (l:=[]) (fun x hx=>by cases hx);have hw:zd (spW zeT)≤20:=by decide
   simp only[putS,zh,zs,z7]at this ⊢;omega
  rw[show (bf++(putS (spW zeT) []++zb6 (ndI n)):List UInt8)=bf++putS (spW zeT) []++zb6 (ndI n) from (cat3 _ _ _).symm];(repeat(first|apply zae|apply zac|apply zab|apply zad));refine zaj ?_;refine yc 3 hX zaO hsf rfl trivial rfl rfl ⟨hl2,hI'⟩ hI ?_;exact z6 ⟨.inl rfl,⟨_,rfl,u8,1,_,rfl,rfl,rfl⟩,zba (by decide) rfl rfl trivial rfl⟩
 have hb:(ndK n==14)=false:=hb;have hk14:ndK n≠14:=fun e=>by rw[beq_iff_eq.2 e]at hb;cases hb
 rw[if_neg hk14];refine za (za ?_);refine zaa hX zaO rfl ?_ ?_
 ·trivial
 refine zai rfl (fun hb=>?_) (fun hb=>?_)
 ·have hb:(ndK n==15)=true:=hb;have hk:=beq_iff_eq.1 hb;rw[if_pos hk];refine xz (σ':=⟨[(0,⟨.hptr,((0:Nat),(0:Nat))⟩),(3,⟨.optr nd,⟨2,nd,.here⟩⟩)],(2,some (.box nd n))::wE ty true ((bf++putS (spW zcn) []:List UInt8)) r,3⟩) ?_ ?_
  ·cases b
   all_goals
    (repeat(first|apply zae|apply zac|apply zab|apply zad));refine zaj ?_;refine yc 1 hX zaO hsf rfl trivial rfl rfl ⟨(by show zd bf+zd (spW zcn)+19 * 0≤1000000000;have:zd (spW zcn)≤20:=(by decide);omega),(fun x hx=>by cases hx)⟩ hI ?_;exact z6 ⟨⟨rfl,rfl,trivial⟩,⟨rfl,rfl,rfl,trivial⟩,rfl,rfl⟩
  have hl2:zd (bf++putS (spW zcn) []:List UInt8)+20 * zd (ndI n)+1≤1000000000:=by
   have:=zbz (l:=[]) (fun x hx=>by cases hx);have hw:zd (spW zcn)≤20:=by decide
   simp only[putS,zh,zs,z7]at this ⊢;omega
  rw[show (bf++(putS (spW zcn) []++zb6 (ndI n)):List UInt8)=bf++putS (spW zcn) []++zb6 (ndI n) from (cat3 _ _ _).symm];(repeat(first|apply zae|apply zac|apply zab|apply zad));refine zaj ?_;refine yc 3 hX zaO hsf rfl trivial rfl rfl ⟨hl2,hI'⟩ hI ?_;exact z6 ⟨.inl rfl,⟨_,rfl,u8,1,_,rfl,rfl,rfl⟩,zba (by decide) rfl rfl trivial rfl⟩
 have hb:(ndK n==15)=false:=hb;have hk15:ndK n≠15:=fun e=>by rw[beq_iff_eq.2 e]at hb;cases hb
 rw[if_neg hk15];refine za (za ?_);refine zaa hX zaO rfl ?_ ?_
 ·trivial
 refine zai rfl (fun hb=>?_) (fun hb=>?_)
 ·have hb:(ndK n==16)=true:=hb;have hk:=beq_iff_eq.1 hb;rw[if_pos hk];obtain⟨hs0,hs1⟩:=hsc hk;refine xz (σ':=⟨[(0,⟨.hptr,((0:Nat),(0:Nat))⟩),(3,⟨.optr nd,⟨2,nd,.here⟩⟩)],(2,some (.box nd n))::wE ty true ((bf++putS (spW wPos) [ndC n]:List UInt8)) r,3⟩) ?_ ?_
  ·cases b
   all_goals
    (repeat(first|apply zae|apply zac|apply zab|apply zad));refine zaj ?_;refine yc 4 hX zaO hsf rfl trivial rfl rfl ⟨(by show zd bf+zd (spW wPos)+19 * 1≤1000000000;have:zd (spW wPos)≤20:=(by decide);omega),(zeI hC)⟩ hI ?_;exact z6 ⟨⟨rfl,rfl,trivial⟩,⟨rfl,rfl,rfl,trivial⟩,rfl,rfl⟩
  have hl2:zd (bf++putS (spW wPos) [ndC n]:List UInt8)+zd (zcp (ndM n))+19 * 0≤1000000000:=by
   have:=zbz (zeI hC);have hw:zd (spW wPos)≤20:=by decide
   have hs:=zdv (ndM n);simp only[putS,zh,zs,z7]at this ⊢;omega
  refine xz (σ':=⟨[(0,⟨.hptr,((0:Nat),(0:Nat))⟩),(3,⟨.optr nd,⟨2,nd,.here⟩⟩)],(2,some (.box nd n))::wE ty true ((bf++putS (spW wPos) [ndC n]++putS (zcp (ndM n)) []:List UInt8)) r,3⟩) ?_ ?_
  ·cases b
   all_goals
    (repeat(first|apply zae|apply zac|apply zab|apply zad));refine zaj ?_;refine yc 4 hX zaO hsf rfl ⟨hs0,hs1⟩ rfl rfl ⟨hl2,fun x hx=>by cases hx⟩ hI ?_;exact z6 ⟨⟨rfl,rfl,trivial⟩,⟨rfl,rfl,rfl,trivial⟩,rfl,rfl⟩
  have hl2b:zd (bf++putS (spW wPos) [ndC n]++putS (zcp (ndM n)) []:List UInt8)+20 * zd (ndI n)+1≤1000000000:=by
   have:=zbz (zeI hC);have hw:zd (spW wPos)≤20:=by decide
   have hs:=zdv (ndM n);have h0:zd (zdY [])=0:=rfl;simp only[putS,zh,zs,z7]at this h0 ⊢;omega
  rw[show (bf++(putS (spW wPos) [ndC n]++(putS (zcp (ndM n)) []++zb6 (ndI n))):List UInt8)=bf++putS (spW wPos) [ndC n]++putS (zcp (ndM n)) []++zb6 (ndI n) from (cat4 _ _ _ _).symm];(repeat(first|apply zae|apply zac|apply zab|apply zad));refine zaj ?_;refine yc 3 hX zaO hsf rfl trivial rfl rfl ⟨hl2b,hI'⟩ hI ?_;exact z6 ⟨.inl rfl,⟨_,rfl,u8,1,_,rfl,rfl,rfl⟩,zba (by decide) rfl rfl trivial rfl⟩
 have hb:(ndK n==16)=false:=hb;have hk16:ndK n≠16:=fun e=>by rw[beq_iff_eq.2 e]at hb;cases hb
 rw[if_neg hk16];refine za (za ?_);refine zaa hX zaO rfl ?_ ?_
 ·trivial
 refine zai rfl (fun hb=>?_) (fun hb=>?_)
 ·have hb:(ndK n==17)=true:=hb;have hk:=beq_iff_eq.1 hb;rw[if_pos hk];refine xz (σ':=⟨[(0,⟨.hptr,((0:Nat),(0:Nat))⟩),(3,⟨.optr nd,⟨2,nd,.here⟩⟩)],(2,some (.box nd n))::wE ty true ((bf++putS (spW zbX) [ndN n]:List UInt8)) r,3⟩) ?_ ?_
  ·cases b
   all_goals
    (repeat(first|apply zae|apply zac|apply zab|apply zad));refine zaj ?_;refine yc 4 hX zaO hsf rfl trivial rfl rfl ⟨(by show zd bf+zd (spW zbX)+19 * 1≤1000000000;have:zd (spW zbX)≤20:=(by decide);omega),(zeI hN)⟩ hI ?_;exact z6 ⟨⟨rfl,rfl,trivial⟩,⟨rfl,rfl,rfl,trivial⟩,rfl,rfl⟩
  obtain⟨hb0,hb1,hb2⟩:=hbh hk;have hl2:zd (bf++putS (spW zbX) [ndN n]:List UInt8)+zd (spW wOf++ [32]:List UInt8)+19 * 0≤1000000000:=by
   have:=zbz (zeI hN);have hw:zd (spW zbX)≤20:=by decide
   have hw2:zd (spW wOf++ [32]:List UInt8)≤20:=by decide
   rw[zh];simp only[putS,zh,zs,z7]at this hw2 ⊢;omega
  refine xz (σ':=⟨[(0,⟨.hptr,((0:Nat),(0:Nat))⟩),(3,⟨.optr nd,⟨2,nd,.here⟩⟩)],(2,some (.box nd n))::wE ty true ((bf++putS (spW zbX) [ndN n]++putS (spW wOf++ [32]) []:List UInt8)) r,3⟩) ?_ ?_
  ·cases b
   all_goals
    (repeat(first|apply zae|apply zac|apply zab|apply zad));refine zaj ?_;refine yc 1 hX zaO hsf rfl trivial rfl rfl ⟨hl2,fun x hx=>by cases hx⟩ hI ?_;exact z6 ⟨⟨rfl,rfl,trivial⟩,⟨rfl,rfl,rfl,trivial⟩,rfl,rfl⟩
  have hl3:zd (bf++putS (spW zbX) [ndN n]++putS (spW wOf++ [32]) []:List UInt8)+zd (opdF k r (ndR n) 5)+10000≤1000000000:=by
   rw[if_neg hk11,if_neg hk12,if_neg hk13,if_neg hk14,if_neg hk15,if_neg hk16,if_pos hk]at hT;rw[zh,zh]at hT ⊢;omega
  rw[show (bf++(putS (spW zbX) [ndN n]++(putS (spW wOf++ [32]) []++opdF k r (ndR n) 5)):List UInt8)=bf++putS (spW zbX) [ndN n]++putS (spW wOf++ [32]) []++opdF k r (ndR n) 5 from (cat4 _ _ _ _).symm];(repeat(first|apply zae|apply zac|apply zab|apply zad));refine zaj ?_;refine yc 3 hX zaO hsf rfl trivial rfl rfl ⟨hwf,hb0,hb1,hb2,hl3⟩ hI ?_;exact z6 ⟨.inl rfl,⟨_,rfl,u8,1,_,rfl,rfl,rfl⟩,zba (by decide) rfl rfl trivial rfl⟩
 have hb:(ndK n==17)=false:=hb;have hk17:ndK n≠17:=fun e=>by rw[beq_iff_eq.2 e]at hb;cases hb
 rw[if_neg hk17];exfalso;omega
@[reducible] def zkl (k:Nat):HCtr:=hW [i64] (fun x xs=>[WfP x.2.2.1,0≤xs.1,xs.1.toNat < k,xs.1.toNat < zd x.2.2.1,zd x.2.1+zd (zcR k x.2.2.1 xs.1)+10000≤1000000000]) fun x xs=>zcR k x.2.2.1 xs.1
def kOd:Kn:={ gmK with C:=[(98,zrh),(101,cOps)] }
theorem zbN:KnOk Tryz.prog gmH kOd:=zak.with (.cons zqf <| .cons zf5 .nil)
def hOd (k:Nat):List (FuncId×HCtr):=[(66,cWSP),(60,zkl k)]
theorem zmP (k:Nat) (hNd:zaA Tryz.prog gmH 60 (zkl k)):zaA Tryz.prog gmH 99 (cOpd k):=by
 have hod:HsOk Tryz.prog gmH (hOd k):=.cons zhM <| .cons hNd .nil;refine zat (K:=_) zbN Tryz.func99 rfl rfl (zce rfl) Tryz.call99 rfl (zf rfl) (zdt prT [107]) ?_;rintro w0 ⟨G,O,K,fix,D,ρ,B⟩ ty hX hG hK hρ hD hinv ⟨(b:Bool),(bf:List UInt8),(r:List Nd),⟨⟩⟩ ⟨(i:Int),(q:Int),⟨⟩⟩ hp;obtain rfl:G=gmH:=hG;obtain rfl:K=1:=hK;obtain rfl:ρ=none:=hρ;obtain rfl:D=[]:=hD;have hI:=fun w R hR hw=>(⟨zaE (ty:=ty) hX rfl hinv.1 (ty':=ty) w R hR hw,hinv.2⟩:bInv prT [107] w R ty);obtain⟨hwf,h0,hk,hr,hT⟩:WfP r∧0≤i∧i.toNat < k∧i.toNat < r.length∧bf.length+(opdF k r i q).length+10000≤1000000000:=hp;have hil:i < ((r.length:Nat):Int):=by omega
 change AWP _ _ _ _ _ ⟨[(0,⟨.hptr,((0:Nat),(0:Nat))⟩),(1,⟨i64,i⟩),(2,⟨i64,q⟩)],wE ty b bf r,2⟩ (wQ _ (cOpd k) ty (.ok ((),(true,((bf++opdF k r i q:List UInt8),(r,()))))));unfold opdF at hT ⊢;apply zae;refine xz (σ':=⟨[(0,⟨.hptr,((0:Nat),(0:Nat))⟩),(1,⟨i64,i⟩),(16,⟨.bool,decide (levS (ndK (zau r i))≥q)⟩)],wE ty b bf r,2⟩) ?_ ?_
 ·cases b
  all_goals
   refine zaj ?_;refine yA 2 hX zbN rfl trivial ?_;refine jy (eqP1 _ _ rfl) hX zbN rfl trivial ?_;refine AL.all hX zbN rfl ⟨h0,hil⟩ ?_;exact⟨⟨rfl,rfl,rfl,trivial⟩,⟨rfl,rfl,trivial⟩,rfl,rfl⟩
 refine zai rfl (fun hb=>?_) (fun hb=>?_)
 ·have hb:decide (levS (ndK (zau r i))≥q)=true:=hb;rw[hb]at hT ⊢;have hT:bf.length+(zcR k r i).length+10000≤1000000000:=hT;show AWP _ _ _ _ _ _ (zjl _ (wQ _ (cOpd k) ty (.ok ((),(true,((bf++zcR k r i:List UInt8),(r,())))))));cases b
  all_goals
   (repeat(first|apply zae|apply zac|apply zab|apply zad));refine zaj ?_;refine yc 2 hX zbN hod rfl trivial rfl rfl ⟨hwf,h0,hk,hr,hT⟩ hI ?_;refine z6 ?_;exact zq ⟨.inr rfl,⟨_,rfl,u8,1,_,rfl,rfl,rfl⟩,zba (by decide) rfl rfl trivial rfl⟩
 ·have hb:decide (levS (ndK (zau r i))≥q)=false:=hb;rw[hb]at hT ⊢;have hT:bf.length+([40]++(zcR k r i++ [41]):List UInt8).length+10000≤1000000000:=hT;rw[zh,zh]at hT;have hT1:bf.length+zd ([40]:List UInt8)≤1000000000:=by omega
  have hT2:zd (bf++ [40]:List UInt8)+(zcR k r i).length+10000≤1000000000:=by rw[zh];omega
  have hT3:zd (bf++ [40]++zcR k r i:List UInt8)+zd ([41]:List UInt8)≤1000000000:=by rw[zh,zh];omega
  apply zac;rw[show (bf++parS false (zcR k r i):List UInt8)=bf++ [40]++zcR k r i++ [41] from (cat4 _ _ _ _).symm];refine xz (σ':=⟨[(0,⟨.hptr,((0:Nat),(0:Nat))⟩),(1,⟨i64,i⟩)],wE ty true ((bf++ [40]:List UInt8)) r,2⟩) ?_ ?_
  ·cases b
   all_goals
    refine zaj ?_;refine yA 2 hX zbN rfl trivial ?_;refine jy (eqP0 _ _ rfl) hX zbN rfl trivial ?_;refine yc 0 hX zbN hod rfl trivial rfl rfl hT1 hI ?_;exact z6 ⟨⟨rfl,rfl,trivial⟩,⟨rfl,rfl,trivial⟩,rfl,rfl⟩
  (repeat(first|apply zae|apply zac|apply zab|apply zad));refine zaj ?_;refine yc 2 hX zbN hod rfl trivial rfl rfl ⟨hwf,h0,hk,hr,hT2⟩ hI ?_;refine z6 ?_;refine zap (σ':=⟨[(0,⟨.hptr,((0:Nat),(0:Nat))⟩)],wE ty true ((bf++ [40]++zcR k r i:List UInt8)) r,2⟩) ⟨⟨rfl,trivial⟩,⟨rfl,rfl,trivial⟩,rfl,rfl⟩ ?_;refine zaj ?_;refine yA 2 hX zbN rfl trivial ?_;refine jy (eqP0 _ _ rfl) hX zbN rfl trivial ?_;refine yc 0 hX zbN hod rfl trivial rfl rfl hT3 hI ?_;refine z6 ?_;exact⟨.inl rfl,⟨_,rfl,u8,1,_,rfl,rfl,rfl⟩,zba (by decide) rfl rfl trivial rfl⟩
theorem zr4 {k:Int} (h:levS k < 4):(8≤k∧k≤10)∧1≤levS k:=by
 unfold levS at *;split at h
 ·rename_i e;subst e;decide
 ·split at h
  ·rename_i e;subst e;decide
  ·split at h
   ·rename_i e;subst e;decide
   ·split at h<;>omega
theorem levS_4 {k:Int} (h:levS k=4):11≤k∧k≤17:=by
 unfold levS at h;split at h
 ·omega
 ·split at h
  ·omega
  ·split at h
   ·omega
   ·split at h
    ·assumption
    ·omega
theorem levS_5 {k:Int} (h4:¬ levS k < 4) (h5:levS k≠4):¬ (8≤k∧k≤17):=by
 intro hk;unfold levS at *;split at h4
 ·omega
 ·split at h4
  ·omega
  ·split at h4
   ·omega
   ·split at h4
    ·rename_i a b c d;rw[if_neg a,if_neg b,if_neg c,if_pos d]at h5;exact h5 rfl
    ·omega
def hNo (k:Nat):List (FuncId×HCtr):=[(99,cOpd k),(100,cPut),(102,zqP k),(103,zpa)]
theorem zrU (k:Nat) (hOp:zaA Tryz.prog gmH 99 (cOpd k)) (hSu:zaA Tryz.prog gmH 102 (zqP k)):zaA Tryz.prog gmH 60 (zkl (k+1)):=by
 have hno:HsOk Tryz.prog gmH (hNo k):=.cons hOp <| .cons zn2 <| .cons hSu <| .cons zqi .nil;refine zat (K:=_) zbN Tryz.func60 rfl rfl (zce rfl) Tryz.call60 rfl (zf rfl) (zdt prT [107]) ?_;rintro w0 ⟨G,O,K,fix,D,ρ,B⟩ ty hX hG hK hρ hD hinv ⟨(b:Bool),(bf:List UInt8),(r:List Nd),⟨⟩⟩ ⟨(i:Int),⟨⟩⟩ hp;obtain rfl:G=gmH:=hG;obtain rfl:K=1:=hK;obtain rfl:ρ=none:=hρ;obtain rfl:D=[]:=hD;have hI:=fun w R hR hw=>(⟨zaE (ty:=ty) hX rfl hinv.1 (ty':=ty) w R hR hw,hinv.2⟩:bInv prT [107] w R ty);obtain⟨hwf,h0,hk,hr,hT⟩:WfP r∧0≤i∧i.toNat < k+1∧i.toNat < r.length∧bf.length+(zcR (k+1) r i).length+10000≤1000000000:=hp;have hil:i < ((r.length:Nat):Int):=by omega
 obtain⟨hnum,⟨hk1,hk18⟩,hL,hR⟩:=hwf.2 i.toNat hr;have hi:((i.toNat:Nat):Int)=i:=qh h0;rw[hi]at hnum hk1 hk18 hL hR;change AWP _ _ _ _ _ ⟨[(0,⟨.hptr,((0:Nat),(0:Nat))⟩),(1,⟨i64,i⟩)],wE ty b bf r,2⟩ (wQ _ (zkl (k+1)) ty (.ok ((),(true,((bf++zcR (k+1) r i:List UInt8),(r,()))))));unfold zcR at hT ⊢;generalize hn:zau r i=n at *;refine xz (σ':=⟨[(0,⟨.hptr,((0:Nat),(0:Nat))⟩),(4,⟨.optr nd,⟨2,nd,.here⟩⟩)],(2,some (.box nd n))::wE ty b bf r,3⟩) ?_ ?_
 ·subst hn;cases b
  all_goals
   refine zaj ?_;refine yA 2 hX zbN rfl trivial ?_;refine jy (eqP1 _ _ rfl) hX zbN rfl trivial ?_;refine AL.all hX zbN rfl ⟨h0,hil⟩ ?_;exact⟨⟨rfl,rfl,trivial⟩,⟨rfl,rfl,rfl,trivial⟩,rfl,rfl⟩
 clear hn;refine xz (σ':=⟨[(0,⟨.hptr,((0:Nat),(0:Nat))⟩),(4,⟨.optr nd,⟨2,nd,.here⟩⟩),(5,⟨i64,levS (ndK n)⟩)],(2,some (.box nd n))::wE ty b bf r,3⟩) ?_ ?_
 ·refine zaj ?_;refine AL.all hX zbN rfl trivial ?_;exact⟨⟨rfl,rfl,rfl,trivial⟩,⟨rfl,rfl,rfl,trivial⟩,rfl,by cases b<;>rfl⟩
 apply zab;refine za (za ?_);refine zaa hX zbN rfl ?_ ?_
 ·trivial
 refine zai rfl (fun hb=>?_) (fun hb=>?_)
 ·have hb:decide (levS (ndK n) < 4)=true:=hb;have hb:=of_decide_eq_true hb;rw[if_pos hb]at hT ⊢;obtain⟨⟨hk8,hk10⟩,hl1⟩:=zr4 hb;obtain⟨hL0,hL1⟩:=hL hk8 (by omega);obtain⟨hR0,hR1⟩:=hR hk8 (.inl hk10);generalize levS (ndK n)=x at hb hT hl1;change bf.length+(opdF k r (ndL n) x++(putS ([32]++opWd x++ [32]) []++opdF k r (ndR n) (x+1))).length+10000≤1000000000 at hT;have hx3:x=1∨x=2∨x=3:=by omega
  have hw:zd (opWd x)≤5:=by rcases hx3 with rfl|rfl|rfl<;>decide
  have hT0:=hT;rw[zh,zh]at hT;have hLk:(ndL n).toNat < k:=by omega
  have hLr:(ndL n).toNat < r.length:=by omega
  have hRk:(ndR n).toNat < k:=by omega
  have hRr:(ndR n).toNat < r.length:=by omega
  have hTA:bf.length+(opdF k r (ndL n) x).length+10000≤1000000000:=by omega
  have hM0:zd (putS ([32]++opWd x++ [32]) [])=zd ([32]++opWd x++ [32]:List UInt8):=by
   show zd (([32]++opWd x++ [32])++ []:List UInt8)=_;rw[zJ]
  have hM1:zd ([32]++opWd x++ [32]:List UInt8)≤7:=by
   rw[zh,zh];show 1+_+1≤7;omega
  have hTM:zd (bf++opdF k r (ndL n) x:List UInt8)+zd ([32]++opWd x++ [32]:List UInt8)+19 * 0≤1000000000:=by rw[zh];omega
  have hTC:zd (bf++opdF k r (ndL n) x++putS ([32]++opWd x++ [32]) []:List UInt8)+(opdF k r (ndR n) (x+1)).length+10000≤1000000000:=by rw[zh,zh];omega
  have q0:inR .i64 (x - 1):=zav (by omega) (by omega);have q1:inR .i64 (x+1):=zav (by omega) (by omega);have q2:(0:Int)≤x - 1:=by omega
  have q3:x - 1 < ((opsL.length:Nat):Int):=by show x - 1 < ((3:Nat):Int);omega
  have q4:1+zd (opWd x)≤maxLen:=by unfold maxLen;omega
  have q5:zd ([32]++opWd x:List UInt8)+1≤maxLen:=by rw[zh];show 1+_+1≤_;unfold maxLen;omega
  change AWP _ _ _ _ _ _ (zko 0 (wQ _ (zkl (k+1)) ty (.ok ((),(true,((bf++(opdF k r (ndL n) x++(putS ([32]++opWd x++ [32]) []++opdF k r (ndR n) (x+1))):List UInt8),(r,())))))));rw[show (bf++(opdF k r (ndL n) x++(putS ([32]++opWd x++ [32]) []++opdF k r (ndR n) (x+1))):List UInt8)=bf++opdF k r (ndL n) x++putS ([32]++opWd x++ [32]) []++opdF k r (ndR n) (x+1) from (cat4 _ _ _ _).symm];refine xz (σ':=⟨[(0,⟨.hptr,((0:Nat),(0:Nat))⟩),(4,⟨.optr nd,⟨2,nd,.here⟩⟩),(5,⟨i64,x⟩)],(2,some (.box nd n))::wE ty true ((bf++opdF k r (ndL n) x:List UInt8)) r,3⟩) ?_ ?_
  ·cases b
   all_goals
    refine zaj ?_;refine yc 4 hX zbN hno rfl trivial rfl rfl ⟨hwf,hL0,hLk,hLr,hTA⟩ hI ?_;exact z6 ⟨⟨rfl,rfl,rfl,trivial⟩,⟨rfl,rfl,rfl,trivial⟩,rfl,rfl⟩
  refine xz (σ':=⟨[(0,⟨.hptr,((0:Nat),(0:Nat))⟩),(4,⟨.optr nd,⟨2,nd,.here⟩⟩),(5,⟨i64,x⟩)],(2,some (.box nd n))::wE ty true ((bf++opdF k r (ndL n) x++putS ([32]++opWd x++ [32]) []:List UInt8)) r,3⟩) ?_ ?_
  ·refine zaj ?_;refine yc 9 hX zbN hno rfl ⟨q0,q2,q3,q4,q5⟩ rfl rfl ⟨hTM,fun y hy=>by cases hy⟩ hI ?_;exact z6 ⟨⟨rfl,rfl,rfl,trivial⟩,⟨rfl,rfl,rfl,trivial⟩,rfl,rfl⟩
  refine zaj ?_;refine yc 5 hX zbN hno rfl q1 rfl rfl ⟨hwf,hR0,hRk,hRr,hTC⟩ hI ?_;exact z6 ⟨.inl rfl,⟨_,rfl,u8,1,_,rfl,rfl,rfl⟩,zba (by decide) rfl rfl trivial rfl⟩
 ·have hb:decide (levS (ndK n) < 4)=false:=hb;have hb:=of_decide_eq_false hb;rw[if_neg hb]at hT ⊢;apply zae;refine za (za ?_);refine zaa hX zbN rfl ?_ ?_
  ·trivial
  refine zai rfl (fun hc=>?_) (fun hc=>?_)
  ·have hc:(levS (ndK n)==4)=true:=hc;have hc:=beq_iff_eq.1 hc;rw[if_pos hc]at hT ⊢;obtain⟨hk11,hk17⟩:=levS_4 hc;obtain⟨hL0,hL1⟩:=hL (by omega) hk17;have hLk:(ndL n).toNat < k:=by omega
   have hLr:(ndL n).toNat < r.length:=by omega
   have hB:ndK n=17->0≤ndR n∧(ndR n).toNat < k∧(ndR n).toNat < r.length:=fun e=>by
    obtain⟨hR0,hR1⟩:=hR (by omega) (.inr e);exact⟨hR0,by omega,by omega⟩
   change bf.length+(opdF k r (ndL n) 4++zcB (opdF k r (ndR n) 5) n).length+10000≤1000000000 at hT;rw[zh]at hT;have hTA:bf.length+(opdF k r (ndL n) 4).length+10000≤1000000000:=by omega
   have hTS:zd (bf++opdF k r (ndL n) 4:List UInt8)+(zcB (opdF k r (ndR n) 5) n).length+10000≤1000000000:=by rw[zh];omega
   change AWP _ _ _ _ _ _ (zko 0 (wQ _ (zkl (k+1)) ty (.ok ((),(true,((bf++(opdF k r (ndL n) 4++zcB (opdF k r (ndR n) 5) n):List UInt8),(r,())))))));rw[show (bf++(opdF k r (ndL n) 4++zcB (opdF k r (ndR n) 5) n):List UInt8)=bf++opdF k r (ndL n) 4++zcB (opdF k r (ndR n) 5) n from (cat3 _ _ _).symm];refine xz (σ':=⟨[(0,⟨.hptr,((0:Nat),(0:Nat))⟩),(4,⟨.optr nd,⟨2,nd,.here⟩⟩)],(2,some (.box nd n))::wE ty true ((bf++opdF k r (ndL n) 4:List UInt8)) r,3⟩) ?_ ?_
   ·cases b
    all_goals
     refine zaj ?_;refine yc 3 hX zbN hno rfl trivial rfl rfl ⟨hwf,hL0,hLk,hLr,hTA⟩ hI ?_;exact z6 ⟨⟨rfl,rfl,trivial⟩,⟨rfl,rfl,rfl,trivial⟩,rfl,rfl⟩
   refine zaj ?_;refine yc 2 hX zbN hno rfl trivial rfl rfl ⟨hwf,hnum,hk11,hk17,hB,hTS⟩ hI ?_;exact z6 ⟨.inl rfl,⟨_,rfl,u8,1,_,rfl,rfl,rfl⟩,zba (by decide) rfl rfl trivial rfl⟩
  ·have hc:(levS (ndK n)==4)=false:=hc;have hc:levS (ndK n)≠4:=fun e=>by rw[beq_iff_eq.2 e]at hc;cases hc
   rw[if_neg hc]at hT ⊢;have h5:=levS_5 hb hc;have hkl:ndK n≤7∨ndK n=18:=by omega
   have hT:bf.length+(zd9 n).length+10000≤1000000000:=hT;have hT1:bf.length+10000≤1000000000:=by omega
   cases b
   all_goals
    refine zaj ?_;refine yc 2 hX zbN hno rfl trivial rfl rfl ⟨hT1,hnum,hk1,hkl⟩ hI ?_;exact z6 ⟨.inl rfl,⟨_,rfl,u8,1,_,rfl,rfl,rfl⟩,zba (by decide) rfl rfl trivial rfl⟩
theorem zq1:∀ k,zaA Tryz.prog gmH 60 (zkl k)∧zaA Tryz.prog gmH 99 (cOpd k)
 |0=>⟨zeb (zce rfl) Tryz.call60 fun x xs h=>absurd h.2.2.1 (xp _),zeb (zce rfl) Tryz.call99 fun x xs h=>absurd h.2.2.1 (xp _)⟩
 |k+1=>by
  obtain⟨h1,h2⟩:=zq1 k;have h3:=zrU k h2 (zmo k h2);exact⟨h3,zmP (k+1) h3⟩
set_option maxRecDepth 10000
theorem zlE {n:Nd} (h:zbr n=true):zkr n:=by
 obtain⟨⟨k1,k2⟩,hl,_⟩:=zaD h;have hs:=zlZ h;have key:(zbY (ndC n)∧zbY (ndN n)∧zbY (ndM n))∧(∀ x∈ndI n,zbY x)∧(ndK n=7->0≤ndL n∧ndL n≤1)∧(ndK n=16->0≤ndM n∧ndM n≤1):=by
  rcases (show ndK n=1∨ndK n=2∨ndK n=3∨ndK n=4∨ndK n=5∨ndK n=6∨ndK n=7∨ndK n=8∨ndK n=9∨ndK n=10∨ndK n=11∨ndK n=12∨ndK n=13∨ndK n=14∨ndK n=15∨ndK n=16∨ndK n=17∨ndK n=18 by omega) with k|k|k|k|k|k|k|k|k|k|k|k|k|k|k|k|k|k
  ·obtain⟨e,b1,b2⟩:=fld1 h k;have eC:=congrArg ndC e;have eN:=congrArg ndN e;have eM:=congrArg ndM e;have eI:=congrArg ndI e;have eC:ndC n=0:=eC;have eN:ndN n=ndN n:=eN;have eM:ndM n=ndM n:=eM;have eI:ndI n=[]:=eI;refine⟨⟨⟨by omega,by omega⟩,⟨by omega,by omega⟩,⟨by omega,by omega⟩⟩,?_,fun e=>by omega,fun e=>by omega⟩;rw[eI];exact fun x hx=>by cases hx
  ·obtain⟨e,bc,b1,b2⟩:=fld2 h k;have eC:=congrArg ndC e;have eN:=congrArg ndN e;have eM:=congrArg ndM e;have eI:=congrArg ndI e;have eC:ndC n=ndC n:=eC;have eN:ndN n=ndN n:=eN;have eM:ndM n=ndM n:=eM;have eI:ndI n=[]:=eI;refine⟨⟨⟨by omega,by omega⟩,⟨by omega,by omega⟩,⟨by omega,by omega⟩⟩,?_,fun e=>by omega,fun e=>by omega⟩;rw[eI];exact fun x hx=>by cases hx
  ·obtain⟨e,bc,⟨l1,l2,l3⟩⟩:=fld3 h k;have eC:=congrArg ndC e;have eN:=congrArg ndN e;have eM:=congrArg ndM e;have eI:=congrArg ndI e;have eC:ndC n=ndC n:=eC;have eN:ndN n=0:=eN;have eM:ndM n=0:=eM;have eI:ndI n=ndI n:=eI;refine⟨⟨⟨by omega,by omega⟩,⟨by omega,by omega⟩,⟨by omega,by omega⟩⟩,?_,fun e=>by omega,fun e=>by omega⟩;exact fun x hx=>by have:=zcd (by decide) (by decide) l3 x hx;exact⟨by have:=this.1;omega,by have:=this.2;omega⟩
  ·obtain⟨e,bc,⟨l1,l2,l3⟩⟩:=fld4 h k;have eC:=congrArg ndC e;have eN:=congrArg ndN e;have eM:=congrArg ndM e;have eI:=congrArg ndI e;have eC:ndC n=ndC n:=eC;have eN:ndN n=0:=eN;have eM:ndM n=0:=eM;have eI:ndI n=ndI n:=eI;refine⟨⟨⟨by omega,by omega⟩,⟨by omega,by omega⟩,⟨by omega,by omega⟩⟩,?_,fun e=>by omega,fun e=>by omega⟩;exact fun x hx=>by have:=zcd (by decide) (by decide) l3 x hx;exact⟨by have:=this.1;omega,by have:=this.2;omega⟩
  ·obtain⟨e,⟨l1,l2,l3⟩⟩:=fld5 h k;have eC:=congrArg ndC e;have eN:=congrArg ndN e;have eM:=congrArg ndM e;have eI:=congrArg ndI e;have eC:ndC n=0:=eC;have eN:ndN n=0:=eN;have eM:ndM n=0:=eM;have eI:ndI n=ndI n:=eI;refine⟨⟨⟨by omega,by omega⟩,⟨by omega,by omega⟩,⟨by omega,by omega⟩⟩,?_,fun e=>by omega,fun e=>by omega⟩;exact fun x hx=>by have:=zcd (by decide) (by decide) l3 x hx;exact⟨by have:=this.1;omega,by have:=this.2;omega⟩
  ·obtain⟨e,bc,⟨l1,l2,l3⟩⟩:=fld6 h k;have eC:=congrArg ndC e;have eN:=congrArg ndN e;have eM:=congrArg ndM e;have eI:=congrArg ndI e;have eC:ndC n=ndC n:=eC;have eN:ndN n=0:=eN;have eM:ndM n=0:=eM;have eI:ndI n=ndI n:=eI;refine⟨⟨⟨by omega,by omega⟩,⟨by omega,by omega⟩,⟨by omega,by omega⟩⟩,?_,fun e=>by omega,fun e=>by omega⟩;exact fun x hx=>by have:=zcd (by decide) (by decide) l3 x hx;exact⟨by have:=this.1;omega,by have:=this.2;omega⟩
  ·obtain⟨e,bc,b1,bz,b2,b3⟩:=fld7 h k;have eC:=congrArg ndC e;have eN:=congrArg ndN e;have eM:=congrArg ndM e;have eI:=congrArg ndI e;have eC:ndC n=ndC n:=eC;have eN:ndN n=ndN n:=eN;have eM:ndM n=ndM n:=eM;have eI:ndI n=[]:=eI;refine⟨⟨⟨by omega,by omega⟩,⟨by omega,by omega⟩,⟨by omega,by omega⟩⟩,?_,fun e=>by omega,fun e=>by omega⟩;rw[eI];exact fun x hx=>by cases hx
  ·have e:=fld8 h k;have eC:=congrArg ndC e;have eN:=congrArg ndN e;have eM:=congrArg ndM e;have eI:=congrArg ndI e;have eC:ndC n=0:=eC;have eN:ndN n=0:=eN;have eM:ndM n=0:=eM;have eI:ndI n=[]:=eI;refine⟨⟨⟨by omega,by omega⟩,⟨by omega,by omega⟩,⟨by omega,by omega⟩⟩,?_,fun e=>by omega,fun e=>by omega⟩;rw[eI];exact fun x hx=>by cases hx
  ·have e:=fld9 h k;have eC:=congrArg ndC e;have eN:=congrArg ndN e;have eM:=congrArg ndM e;have eI:=congrArg ndI e;have eC:ndC n=0:=eC;have eN:ndN n=0:=eN;have eM:ndM n=0:=eM;have eI:ndI n=[]:=eI;refine⟨⟨⟨by omega,by omega⟩,⟨by omega,by omega⟩,⟨by omega,by omega⟩⟩,?_,fun e=>by omega,fun e=>by omega⟩;rw[eI];exact fun x hx=>by cases hx
  ·have e:=fld10 h k;have eC:=congrArg ndC e;have eN:=congrArg ndN e;have eM:=congrArg ndM e;have eI:=congrArg ndI e;have eC:ndC n=0:=eC;have eN:ndN n=0:=eN;have eM:ndM n=0:=eM;have eI:ndI n=[]:=eI;refine⟨⟨⟨by omega,by omega⟩,⟨by omega,by omega⟩,⟨by omega,by omega⟩⟩,?_,fun e=>by omega,fun e=>by omega⟩;rw[eI];exact fun x hx=>by cases hx
  ·obtain⟨e,b1⟩:=zsy h k;have eC:=congrArg ndC e;have eN:=congrArg ndN e;have eM:=congrArg ndM e;have eI:=congrArg ndI e;have eC:ndC n=0:=eC;have eN:ndN n=ndN n:=eN;have eM:ndM n=0:=eM;have eI:ndI n=[]:=eI;refine⟨⟨⟨by omega,by omega⟩,⟨by omega,by omega⟩,⟨by omega,by omega⟩⟩,?_,fun e=>by omega,fun e=>by omega⟩;rw[eI];exact fun x hx=>by cases hx
  ·obtain⟨e,b1⟩:=zsx h k;have eC:=congrArg ndC e;have eN:=congrArg ndN e;have eM:=congrArg ndM e;have eI:=congrArg ndI e;have eC:ndC n=0:=eC;have eN:ndN n=ndN n:=eN;have eM:ndM n=0:=eM;have eI:ndI n=[]:=eI;refine⟨⟨⟨by omega,by omega⟩,⟨by omega,by omega⟩,⟨by omega,by omega⟩⟩,?_,fun e=>by omega,fun e=>by omega⟩;rw[eI];exact fun x hx=>by cases hx
  ·obtain⟨e,b1⟩:=zsw h k;have eC:=congrArg ndC e;have eN:=congrArg ndN e;have eM:=congrArg ndM e;have eI:=congrArg ndI e;have eC:ndC n=0:=eC;have eN:ndN n=ndN n:=eN;have eM:ndM n=0:=eM;have eI:ndI n=[]:=eI;refine⟨⟨⟨by omega,by omega⟩,⟨by omega,by omega⟩,⟨by omega,by omega⟩⟩,?_,fun e=>by omega,fun e=>by omega⟩;rw[eI];exact fun x hx=>by cases hx
  ·obtain⟨e,⟨l1,l2,l3⟩⟩:=zsv h k;have eC:=congrArg ndC e;have eN:=congrArg ndN e;have eM:=congrArg ndM e;have eI:=congrArg ndI e;have eC:ndC n=0:=eC;have eN:ndN n=0:=eN;have eM:ndM n=0:=eM;have eI:ndI n=ndI n:=eI;refine⟨⟨⟨by omega,by omega⟩,⟨by omega,by omega⟩,⟨by omega,by omega⟩⟩,?_,fun e=>by omega,fun e=>by omega⟩;exact fun x hx=>by have:=zcd (by decide) (by decide) l3 x hx;exact⟨by have:=this.1;omega,by have:=this.2;omega⟩
  ·obtain⟨e,⟨l1,l2,l3⟩⟩:=zsu h k;have eC:=congrArg ndC e;have eN:=congrArg ndN e;have eM:=congrArg ndM e;have eI:=congrArg ndI e;have eC:ndC n=0:=eC;have eN:ndN n=0:=eN;have eM:ndM n=0:=eM;have eI:ndI n=ndI n:=eI;refine⟨⟨⟨by omega,by omega⟩,⟨by omega,by omega⟩,⟨by omega,by omega⟩⟩,?_,fun e=>by omega,fun e=>by omega⟩;exact fun x hx=>by have:=zcd (by decide) (by decide) l3 x hx;exact⟨by have:=this.1;omega,by have:=this.2;omega⟩
  ·obtain⟨e,bc,⟨l1,l2,l3⟩,b1⟩:=zst h k;have eC:=congrArg ndC e;have eN:=congrArg ndN e;have eM:=congrArg ndM e;have eI:=congrArg ndI e;have eC:ndC n=ndC n:=eC;have eN:ndN n=0:=eN;have eM:ndM n=ndM n:=eM;have eI:ndI n=ndI n:=eI;refine⟨⟨⟨by omega,by omega⟩,⟨by omega,by omega⟩,⟨by omega,by omega⟩⟩,?_,fun e=>by omega,fun e=>by omega⟩;exact fun x hx=>by have:=zcd (by decide) (by decide) l3 x hx;exact⟨by have:=this.1;omega,by have:=this.2;omega⟩
  ·obtain⟨e,b1⟩:=zss h k;have eC:=congrArg ndC e;have eN:=congrArg ndN e;have eM:=congrArg ndM e;have eI:=congrArg ndI e;have eC:ndC n=0:=eC;have eN:ndN n=ndN n:=eN;have eM:ndM n=0:=eM;have eI:ndI n=[]:=eI;refine⟨⟨⟨by omega,by omega⟩,⟨by omega,by omega⟩,⟨by omega,by omega⟩⟩,?_,fun e=>by omega,fun e=>by omega⟩;rw[eI];exact fun x hx=>by cases hx
  ·obtain⟨e,bn⟩:=zsr h k;have eC:=congrArg ndC e;have eN:=congrArg ndN e;have eM:=congrArg ndM e;have eI:=congrArg ndI e;have eC:ndC n=0:=eC;have eN:ndN n=0:=eN;have eM:ndM n=0:=eM;have eI:ndI n=[]:=eI;refine⟨⟨⟨by omega,by omega⟩,⟨by omega,by omega⟩,⟨by omega,by omega⟩⟩,?_,fun e=>by omega,fun e=>by omega⟩;rw[eI];exact fun x hx=>by cases hx
 exact⟨key.1,key.2.1,by omega,by omega,key.2.2⟩
theorem wfp_of {r:List Nd} (h:wfS r=true):WfP r:=by
 obtain⟨⟨h1,h2⟩,h3,h4⟩:=zdl h;refine⟨by omega,fun j hj=>?_⟩;obtain⟨f1,f2⟩:=zck h3 hj;obtain⟨l1,l2⟩:=zlJ h3 j hj;exact⟨zlE f1,(zaD f1).1,l1,l2⟩
theorem ze6 (c:Bool) (t:List UInt8):(parS c t).length≤t.length+2:=by
 cases c with
 |true=>show t.length≤_;omega
 |false=>show ([40]++(t++ [41]):List UInt8).length≤_;simp
theorem zqh {n:Nd} (h:zkr n):(zd9 n).length≤2100:=by
 obtain⟨⟨hC,hN,hM⟩,hI,hl,hs,_⟩:=h;have l1:∀ w:List UInt8,w.length≤10->∀ l:List Int,l.length≤3->(∀ x∈l,zbY x)->(putS w l).length≤67:=fun w hw l hl hx=>by
  have:=zbz hx;unfold putS;rw[zh];omega
 have l2:(zb6 (ndI n)).length≤2001:=by
  have:=zfb (ndI n) 0 hI;unfold zb6;rw[zh,yH];omega
 have p0:∀ x∈([]:List Int),zbY x:=fun x hx=>by cases hx
 have p1:∀ x∈ [ndC n],zbY x:=fun x hx=>by rw[zv.1 hx];exact hC
 have p2:∀ x∈ [ndN n,ndM n],zbY x:=fun x hx=>by
  rcases zX.1 hx with rfl|hx
  ·exact hN
  ·rw[zv.1 hx];exact hM
 have p3:∀ x∈ [ndC n,ndN n,ndM n],zbY x:=fun x hx=>by
  rcases zX.1 hx with rfl|hx
  ·exact hC
  ·exact p2 x hx
 unfold zd9;split
 ·exact zQ (l1 _ (by decide) _ (by simp) p2) (by decide)
 split
 ·exact zQ (l1 _ (by decide) _ (by simp) p3) (by decide)
 split
 ·rw[zh];have:=l1 zcm (by decide) _ (by simp) p1;omega
 split
 ·rw[zh];have:=l1 za6 (by decide) _ (by simp) p1;omega
 split
 ·rw[zh];have:=l1 zbo (by decide) _ (by simp) p0;omega
 split
 ·rw[zh];have:=l1 zdm (by decide) _ (by simp) p1;omega
 split
 ·rw[zh];have:=l1 wNth (by decide) _ (by simp) p3;have:=l1 (zcp (ndL n)) (zdv _) [] (by decide) p0;omega
 split
 ·show (64::ndS n++ []).length≤_;rw[zJ,zs];omega
 ·exact zl _
theorem znq {n:Nd} (b:List UInt8) (h:zkr n):(zcB b n).length≤2200+b.length:=by
 obtain⟨⟨hC,hN,hM⟩,hI,hl,hs,_⟩:=h;have l1:∀ w:List UInt8,w.length≤10->∀ l:List Int,l.length≤3->(∀ x∈l,zbY x)->(putS w l).length≤67:=fun w hw l hl hx=>by
  have:=zbz hx;unfold putS;rw[zh];omega
 have l2:(zb6 (ndI n)).length≤2001:=by
  have:=zfb (ndI n) 0 hI;unfold zb6;rw[zh,yH];omega
 have p0:∀ x∈([]:List Int),zbY x:=fun x hx=>by cases hx
 have p1:∀ x∈ [ndC n],zbY x:=fun x hx=>by rw[zv.1 hx];exact hC
 have p2:∀ x∈ [ndN n],zbY x:=fun x hx=>by rw[zv.1 hx];exact hN
 unfold zcB;split
 ·have:=l1 (spW zeR) (by decide) _ (by simp) p2;omega
 split
 ·have:=l1 (spW zii) (by decide) _ (by simp) p2;omega
 split
 ·have:=l1 (spW zeQ) (by decide) _ (by simp) p2;omega
 split
 ·rw[zh];have:=l1 (spW zeT) (by decide) _ (by simp) p0;omega
 split
 ·rw[zh];have:=l1 (spW zcn) (by decide) _ (by simp) p0;omega
 split
 ·rw[zh,zh];have:=l1 (spW wPos) (by decide) _ (by simp) p1;have:=l1 (zcp (ndM n)) (zdv _) [] (by decide) p0;omega
 split
 ·rw[zh,zh];have:=l1 (spW zbX) (by decide) _ (by simp) p2;have:=l1 (spW wOf++ [32]) (by decide) [] (by decide) p0;omega
 ·exact zl _
theorem zgj:∀ t:Tr,TrOk t->t.text.length≤3000 * t.size
 | .leaf n,h=>by
  have:=zqh (zlE h.1);show (zd9 n).length≤3000 * 1;omega
 | .un n a,h=>by
  have h1:=znq [] (zlE h.1);have h2:=zgj a h.2.2.2;have h3:=ze6 (decide (a.lev≥4)) a.text;show (parS _ a.text++zcB [] n).length≤3000 * (a.size+1);rw[zh];rw[z7]at h1;omega
 | .bin n a b,h=>by
  have h1:=zgj a h.2.2.2.1;have h2:=zgj b h.2.2.2.2;show _≤3000 * (a.size+b.size+1);rw[zlp];split
  ·have h3:=ze6 (decide (a.lev≥4)) a.text;have h4:=ze6 (decide (b.lev≥5)) b.text;have h5:=znq (parS (decide (b.lev≥5)) b.text) (zlE h.1);rw[zh];omega
  ·have h3:=ze6 (decide (a.lev≥levS (ndK n))) a.text;have h4:=ze6 (decide (b.lev≥levS (ndK n)+1)) b.text;have h5:(putS ([32]++opWd (levS (ndK n))++ [32]) []).length≤20:=by
    have h6:=zkR (ndK n);show (([32]++opWd (levS (ndK n))++ [32])++ []:List UInt8).length≤20;rcases (show levS (ndK n)=1∨levS (ndK n)=2∨levS (ndK n)=3∨levS (ndK n)=4∨levS (ndK n)=5 by omega) with e|e|e|e|e<;>rw[e]<;>decide
   rw[zh,zh];omega
theorem zrB {t:Tr} (h:TrOk t) (hs:t.size≤64):t.text≠ []:=fun e=>by
 have h1:=zmH h hs;rw[e]at h1;have h2:(match zcj [] with | .ok _=>true| .error _=>false)=false:=by kernel_rfl
 rw[h1]at h2;cases h2
def guT:Tbl:=(236,.int .u64)::gmT
theorem guT_ok:TOk Tryz.prog guT gmQ:=zqZ (by kernel_rfl) (by kernel_rfl)
def guK:Kn:={ T:=guT,Q:=gmQ,U:=gmU,C:=[] }
theorem zj3:KnOk Tryz.prog gmH guK:=⟨guT_ok,zga,CsOk.nil,zha,RsOk.nil⟩
def cMag:Ctr:={ args:=[i64],pre:=fun x=>[0≤x.1],res:=.int .u64,own:=none,out:=fun x=>yC 64 x.1 }
theorem mag_ok:yM Tryz.prog gmH 223 cMag:=by
 refine zar (K:=guK) zj3 Tryz.func223 rfl rfl Tryz.call223 rfl (by decide) (by intro h;cases h) ?_;rintro w0 X hX ⟨(n:Int),_⟩ hp;have hn:0≤n:=hp;change AWP _ _ _ _ _ ⟨[(0,⟨i64,n⟩)],[],0⟩ _;refine za (za ?_);refine zaa hX zj3 rfl ?_ ?_
 ·trivial
 refine za (za ?_);refine zaa hX zj3 rfl ?_ ?_
 ·trivial
 refine zai rfl (fun hb=>?_) (fun hb=>?_)
 ·have hb:decide (n < 0)=true:=hb;have hb:=of_decide_eq_true hb;omega
 apply zac;refine za (za ?_);refine zaa hX zj3 rfl ?_ ?_
 ·trivial
 refine zq ⟨.inr rfl,zay rfl trivial rfl rfl ?_⟩;rfl
theorem bvI {a:Int} (h:0≤a):(⟨.int .u64,yC 64 a⟩:V)=⟨.int .u64,zY 64 a.toNat⟩:=by
 have:yC 64 a=zY 64 a.toNat:=by
  conv=>lhs;rw[<-qh h]
  exact BitVec.ofInt_natCast ..
 rw[this]
theorem bvN {y:Nat} (h:y≤1000000000000000):(zY 64 y).toNat=y:=by
 rw[BitVec.toNat_ofNat];exact Nat.mod_eq_of_lt (by omega)
theorem bvR {x y:Nat} (hx:x≤1000000000000000) (hy:y≤1000000000000000):(⟨.int .u64,zY 64 x % zY 64 y⟩:V)=⟨.int .u64,zY 64 (x % y)⟩:=by
 have hm:x % y≤x:=Nat.mod_le ..;have:zY 64 x % zY 64 y=zY 64 (x % y):=BitVec.eq_of_toNat_eq (by rw[BitVec.toNat_umod,bvN hx,bvN hy,bvN (by omega)]);rw[this]
def cGcd:Ctr:={ args:=[i64,i64],pre:=fun x=>[1≤x.1,x.1≤1000000000000000,1≤x.2.1,x.2.1≤1000000000000000],res:=i64,own:=none,out:=fun x=>((xR x.2.1.toNat x.1.toNat:Nat):Int) }
def kGcd:Kn:={ guK with C:=[(223,cMag)] }
theorem zea:KnOk Tryz.prog gmH kGcd:=zj3.with (.cons mag_ok .nil)
theorem gcd_ok:yM Tryz.prog gmH 190 cGcd:=by
 refine zar (K:=kGcd) zea Tryz.func190 rfl rfl Tryz.call190 rfl (by decide) (by intro h;cases h) ?_;rintro w0 X hX ⟨(a:Int),(b:Int),_⟩ hp;obtain⟨ha,ha',hb,hb'⟩:1≤a∧a≤1000000000000000∧1≤b∧b≤1000000000000000:=by
  simp only[cGcd,allP]at hp
  simpa using hp
 change AWP _ _ _ _ _ ⟨[(0,⟨i64,a⟩),(1,⟨i64,b⟩)],[],0⟩ _;apply zae;refine za (za ?_);refine zaa hX zea rfl ?_ ?_
 ·trivial
 refine za (za ?_);refine zaa hX zea rfl ?_ ?_
 ·have h1:0≤a:=by omega
  have h2:0≤b:=by omega
  repeat'(first|exact trivial|exact h1|exact h2|(refine⟨?_,?_⟩)|(intro _))
 (repeat(first|apply zae|apply zac|apply zab|apply zad));refine yB (ι:=Nat×Nat) (fun p=>⟨[(0,⟨i64,a⟩),(1,⟨i64,b⟩),(5,⟨.int .u64,zY 64 p.1⟩),(6,⟨.int .u64,zY 64 p.2⟩)],[],0⟩) (fun p=>p.1≤1000000000000000∧p.2≤1000000000000000∧xR p.2 p.1=xR b.toNat a.toNat) (fun p=>p.2) (a.toNat,b.toNat) ⟨by omega,by omega,rfl⟩ ⟨⟨rfl,rfl,bvI (by omega),bvI (by omega),trivial⟩,trivial,rfl,rfl⟩ ?_;rintro ⟨x,y⟩ ⟨hx,hy,hg⟩;have hx:x≤1000000000000000:=hx;have hy:y≤1000000000000000:=hy;have hg:xR y x=xR b.toNat a.toNat:=hg;refine za (za ?_);refine zaa hX zea rfl ?_ ?_
 ·trivial
 refine zai rfl (fun hb=>?_) (fun hb=>?_)
 ·have hc:((((zY 64 y).toNat:Nat):Int) != 0)=true:=hb;have hy1:y≠0:=fun e=>by subst e;exact absurd hc (by decide)
  have hy0:zY 64 y≠0:=fun e=>hy1 (by have:=congrArg BitVec.toNat e;rw[bvN hy]at this;exact this);(repeat(first|apply zae|apply zac|apply zab|apply zad));refine AWP.ordF (σ':=⟨[(0,⟨i64,a⟩),(1,⟨i64,b⟩),(5,⟨.int .u64,zY 64 y⟩),(6,⟨.int .u64,zY 64 (x % y)⟩)],[],0⟩) dM 6 rfl (by kernel_rfl) ?_ ?_
  ·repeat'(first|exact AllN.nil|refine AllN.cons ⟨_,rfl,?_⟩ ?_|refine yZ hX zea rfl trivial ?_|refine yZ hX zea rfl (by repeat'(first|exact trivial|exact hy0|(refine⟨?_,?_⟩)|(intro _))) ?_|(refine OrdA.last ?_;exact⟨rfl,⟨rfl,rfl,rfl,bvR hx hy,trivial⟩,trivial,rfl,rfl⟩))
  exact⟨(y,x % y),⟨hy,zQ (Nat.mod_le ..) hx,by rw[<-Nat.gcd_rec];exact hg⟩,Nat.mod_lt _ (by omega),⟨rfl,rfl,rfl,rfl,trivial⟩,trivial,rfl,rfl⟩
 ·have hc:((((zY 64 y).toNat:Nat):Int) != 0)=false:=hb;rw[bvN hy]at hc;have hy0:y=0:=by
   have:=bne_eq_false_iff_eq.1 hc;omega
  subst hy0;rw[Nat.gcd_zero_left]at hg;apply zad;refine za (za ?_);refine zaa hX zea rfl ?_ ?_
  ·trivial
  refine zai rfl (fun hd=>?_) (fun hd=>?_)
  ·have hd:decide ((((zY 64 x).toNat:Nat):Int) > 9223372036854775807)=true:=hd;rw[bvN hx]at hd;have:=of_decide_eq_true hd;omega
  apply zac;refine za (za ?_);refine zaa hX zea rfl ?_ ?_
  ·show inR .i64 (((zY 64 x).toNat:Nat):Int);rw[bvN hx];exact zav (by omega) (by omega)
  refine zq ⟨.inr rfl,zay rfl trivial rfl rfl ?_⟩;show (((zY 64 x).toNat:Nat):Int)=((xR b.toNat a.toNat:Nat):Int);rw[bvN hx,hg]
theorem zot {x y:Nat} (hx:1≤x):x / xR y x * y=jc x y:=by
 have hg:xR y x ∣ x:=Nat.gcd_dvd_right y x;have hp:0 < xR y x:=vX _ (by omega);obtain⟨k,hk⟩:=hg;unfold jc;rw[Nat.gcd_comm x y];generalize xR y x=g at *;subst hk;rw[kf _ hp,Nat.mul_assoc,kf _ hp]
def cLcm:Ctr:={ args:=[i64,i64],pre:=fun x=>[1≤x.1,x.1≤1000,1≤x.2.1,x.2.1≤1000],res:=.tup i64 (.tup i64 .unit),own:=none,out:=fun x=>(((jc x.1.toNat x.2.1.toNat:Nat):Int),(0:Int),()) }
def kLcm:Kn:={ gmK with C:=[(190,cGcd)] }
theorem zfJ:KnOk Tryz.prog gmH kLcm:=zak.with (.cons gcd_ok .nil)
theorem lcm_ok:yM Tryz.prog gmH 158 cLcm:=by
 refine zar (K:=kLcm) zfJ Tryz.func158 rfl rfl Tryz.call158 rfl (by decide) (by intro h;cases h) ?_;rintro w0 X hX ⟨(a:Int),(b:Int),_⟩ hp;obtain⟨ha,ha',hb,hb'⟩:1≤a∧a≤1000∧1≤b∧b≤1000:=by
  simp only[cLcm,allP]at hp
  simpa using hp
 change AWP _ _ _ _ _ ⟨[(0,⟨i64,a⟩),(1,⟨i64,b⟩)],[],0⟩ _;refine za (za ?_);refine zaa hX zfJ rfl ?_ ?_
 ·trivial
 refine za (za ?_);refine zaa hX zfJ rfl ?_ ?_
 ·exact⟨id,id⟩
 have t1:(bif decide (a < 1) then true else decide (b < 1))=false:=by
  rw[decide_eq_false (by omega),decide_eq_false (by omega)];rfl
 refine zai rfl (fun hc=>?_) (fun _=>?_)
 ·have hc:(bif decide (a < 1) then true else decide (b < 1))=true:=hc;rw[t1]at hc;cases hc
 apply zac;have hg:0 < xR b.toNat a.toNat:=vX _ (by omega);have hq:a.tdiv ((xR b.toNat a.toNat:Nat):Int)=((a.toNat / xR b.toNat a.toNat:Nat):Int):=by
  conv=>lhs;rw[<-qh (by omega:0≤a)]
  exact Int.ofNat_tdiv ..
 have hqle:a.toNat / xR b.toNat a.toNat≤a.toNat:=Nat.div_le_self ..;have hq1000:a.toNat / xR b.toNat a.toNat≤1000:=by omega
 have q1:((xR b.toNat a.toNat:Nat):Int)≠0:=by omega
 have q2:inR .i64 (a.tdiv ((xR b.toNat a.toNat:Nat):Int)):=by rw[hq];generalize a.toNat / xR b.toNat a.toNat=z at hq1000;exact zav (by omega) (by omega)
 have big1:a≤1000000000000000:=by omega
 have big2:b≤1000000000000000:=by omega
 refine za (za ?_);refine zaa hX zfJ rfl ?_ ?_
 ·exact⟨ha,big1,hb,big2,q1,q2⟩
 refine zap (σ':=⟨[(0,⟨i64,a⟩),(1,⟨i64,b⟩),(6,⟨i64,((a.toNat / xR b.toNat a.toNat:Nat):Int)⟩)],[],0⟩) ⟨⟨rfl,rfl,vI64 hq,trivial⟩,trivial,rfl,rfl⟩ ?_;have hd:(1099511627776:Int).tdiv b=((1099511627776 / b.toNat:Nat):Int):=by
  conv=>lhs;rw[<-qh (by omega:0≤b)]
  exact Int.ofNat_tdiv ..
 have hd1:1099511627776 / 1000≤1099511627776 / b.toNat:=Nat.div_le_div_left (by omega) (by omega);have hd2:1099511627776 / b.toNat≤1099511627776:=Nat.div_le_self ..;have q3:b≠0:=by omega
 have q4:inR .i64 ((1099511627776:Int).tdiv b):=by rw[hd];exact zav (by omega) (by omega)
 refine za (za ?_);refine zaa hX zfJ rfl ?_ ?_
 ·exact⟨q3,q4⟩
 refine zai rfl (fun hc=>?_) (fun _=>?_)
 ·have hc:decide (((a.toNat / xR b.toNat a.toNat:Nat):Int) > (1099511627776:Int).tdiv b)=true:=hc;have hc:=of_decide_eq_true hc;rw[hd]at hc;omega
 apply zac;have hm:((a.toNat / xR b.toNat a.toNat:Nat):Int) * b=((jc a.toNat b.toNat:Nat):Int):=by
  rw[<-zot (x:=a.toNat) (y:=b.toNat) (by omega),Int.natCast_mul,qh (by omega:0≤b)]
 have hml:jc a.toNat b.toNat≤1000000:=by
  rw[<-zot (x:=a.toNat) (y:=b.toNat) (by omega)];exact Nat.mul_le_mul (by omega:_≤1000) (by omega:b.toNat≤1000)
 have q5:inR .i64 (((a.toNat / xR b.toNat a.toNat:Nat):Int) * b):=by rw[hm];exact zav (by omega) (by omega)
 refine za (za ?_);refine zaa hX zfJ rfl ?_ ?_
 ·exact q5
 refine zq ⟨.inr rfl,zba (by decide) rfl rfl trivial ?_⟩;show (((a.toNat / xR b.toNat a.toNat:Nat):Int) * b,(0:Int),())=(((jc a.toNat b.toNat:Nat):Int),(0:Int),());rw[hm]
abbrev Lr:=Int×Int×Bool×Unit
def zp9 (r:Lr):Bool:=decide (r.1 < 1)||decide (r.1 > 400)||decide (r.2.1 < 0)||decide (r.2.1≥r.1)
def perS (y:Nat):List Lr->Int×Bool
 | []=>((y:Int),true)
 |r::l=>if zp9 r=true then (0,false) else if 400 < jc y r.1.toNat then (0,false) else perS (jc y r.1.toNat) l
def cPer:Ctr:={ args:=[.slice lru],pre:=fun _=>[],res:=.tup i64 (.tup .bool .unit),own:=none,out:=fun x=>((perS 1 x.1).1,(perS 1 x.1).2,()) }
def kPer:Kn:={ gmK with C:=[(158,cLcm)] }
theorem zbA:KnOk Tryz.prog gmH kPer:=zak.with (.cons lcm_ok .nil)
def zLr:Lr:=(0,0,false,())
theorem zn6:yM Tryz.prog gmH 125 cPer:=by
 refine zar (K:=kPer) zbA Tryz.func125 rfl rfl Tryz.call125 rfl (by decide) (by intro h;cases h) ?_;rintro w0 X hX ⟨(l:List Lr),_⟩ hp;change AWP _ _ _ _ _ ⟨[(0,⟨.slice lru,l⟩)],[],0⟩ _;refine jU 0 rfl fun hl=>?_;unfold maxLen at hl;refine za (za ?_);refine zaa hX zbA rfl ?_ ?_
 ·trivial
 refine za (za ?_);refine zaa hX zbA rfl ?_ ?_
 ·trivial
 refine za (za ?_);refine zaa hX zbA rfl ?_ ?_
 ·trivial
 (repeat(first|apply zae|apply zac|apply zab|apply zad));refine yB (ι:=Nat×Nat) (fun p=>⟨[(0,⟨.slice lru,l⟩),(4,⟨i64,(p.2:Int)⟩),(9,⟨.slice lru,l⟩),(10,⟨i64,((l.length:Nat):Int)⟩),(11,⟨i64,(p.1:Int)⟩)],[],0⟩) (fun p=>p.1≤l.length∧(1≤p.2∧p.2≤400)∧perS 1 l=perS p.2 (l.drop p.1)) (fun p=>l.length - p.1) (0,1) ⟨zl _,⟨by decide,by decide⟩,rfl⟩ ⟨⟨rfl,rfl,rfl,rfl,rfl,trivial⟩,trivial,rfl,rfl⟩ ?_;rintro ⟨k,y⟩ ⟨hk,hy,hr⟩;have hk:k≤l.length:=hk;have hy:1≤y∧y≤400:=hy;have hr:perS 1 l=perS y (l.drop k):=hr;refine za (za ?_);refine zaa hX zbA rfl ?_ ?_
 ·trivial
 apply zae;refine zai rfl (fun hb=>?_) (fun hb=>?_)
 ·have hb:decide ((k:Int) < (l.length:Nat))=true:=hb;have hb:=of_decide_eq_true hb;have hlt:k < l.length:=by omega
  have n0:(0:Int)≤(k:Int):=by omega
  have hgd:l.getD (k:Int).toNat zLr=l[k]:=zaM hlt;rw[List.drop_eq_getElem_cons hlt,perS, <-hgd]at hr;refine za (za ?_);refine zaa hX zbA rfl ?_ ?_
  ·exact⟨n0,hb⟩
  generalize hG:l.getD (k:Int).toNat zLr=G at hr;obtain⟨(ev:Int),(rs:Int),(ye:Bool),⟨⟩⟩:=G;refine zap (σ':=⟨[(0,⟨.slice lru,l⟩),(4,⟨i64,(y:Int)⟩),(9,⟨.slice lru,l⟩),(10,⟨i64,((l.length:Nat):Int)⟩),(11,⟨i64,(k:Int)⟩),(6,⟨.optr lru,⟨0,lru,.here⟩⟩)],[(0,some (.box lru (ev,rs,ye,())))],1⟩) ⟨⟨rfl,rfl,rfl,rfl,rfl,rfl,trivial⟩,⟨zft hG,trivial⟩,rfl,rfl⟩ ?_;refine za (za ?_);refine zaa hX zbA rfl ?_ ?_
  ·repeat'(first|exact trivial|assumption|(refine⟨?_,?_⟩)|(intro _)|exact zf rfl|exact zu _|(simp_all [allP];done))
  have hbe:zp9 (ev,rs,ye,())=(bif (bif (bif decide (ev < 1) then true else decide (ev > 400)) then true else decide (rs < 0)) then true else decide (rs≥ev)):=by
   unfold zp9;rw[b_or,b_or,b_or]
  refine zai rfl (fun hc=>?_) (fun hc=>?_)
  ·have hc:=hbe.trans hc;(repeat(first|apply zae|apply zac|apply zal|apply zad|apply zab|refine zaa hX zbA rfl trivial ?_|refine zaa hX zbA rfl id ?_|refine zaa hX zbA rfl ⟨id,id⟩ ?_));refine zq ⟨.inr rfl,zba (by decide) rfl rfl trivial ?_⟩;show ((0:Int),false,())=((perS 1 l).1,(perS 1 l).2,());rw[hr,if_pos hc]
  have hc:=hbe.trans hc;have hn:=hc;unfold zp9 at hn;simp only[x9,decide_eq_false_iff_not]at hn;obtain⟨⟨⟨n1,n2⟩,n3⟩,n4⟩:=hn;have n1:¬ ev < 1:=n1;have n2:¬ ev > 400:=n2;apply zac;have l1:(1:Int)≤(y:Int):=by omega
  have l2:(y:Int)≤1000:=by omega
  have l3:1≤ev:=by omega
  have l4:ev≤1000:=by omega
  refine za (za ?_);refine zaa hX zbA rfl ?_ ?_
  ·exact⟨l1,l2,l3,l4⟩
  refine zap (σ':=⟨[(0,⟨.slice lru,l⟩),(4,⟨i64,(y:Int)⟩),(9,⟨.slice lru,l⟩),(10,⟨i64,((l.length:Nat):Int)⟩),(11,⟨i64,(k:Int)⟩),(7,⟨i64,((jc y ev.toNat:Nat):Int)⟩),(8,⟨i64,0⟩)],[],1⟩) ⟨⟨rfl,rfl,rfl,rfl,rfl,rfl,rfl,trivial⟩,trivial,rfl,rfl⟩ ?_;refine za (za ?_);refine zaa hX zbA rfl ?_ ?_
  ·repeat'(first|exact trivial|assumption|(refine⟨?_,?_⟩)|(intro _)|exact zf rfl|exact zu _|(simp_all [allP];done))
  refine zai rfl (fun hd=>?_) (fun hd=>?_)
  ·have hd:decide (((jc y ev.toNat:Nat):Int) > 400)=true:=hd;have hd:=of_decide_eq_true hd;(repeat(first|apply zae|apply zac|apply zal|apply zad|apply zab|refine zaa hX zbA rfl trivial ?_|refine zaa hX zbA rfl id ?_|refine zaa hX zbA rfl ⟨id,id⟩ ?_));refine zq ⟨.inr rfl,zba (by decide) rfl rfl trivial ?_⟩;show ((0:Int),false,())=((perS 1 l).1,(perS 1 l).2,());rw[hr,if_neg (by rw[hc];decide),if_pos (by show 400 < jc y ev.toNat;omega)]
  ·have hd:decide (((jc y ev.toNat:Nat):Int) > 400)=false:=hd;have hd:=of_decide_eq_false hd;have hlp:0 < jc y ev.toNat:=Nat.lcm_pos (by omega) (by omega);apply zac;refine za (za ?_);refine zaa hX zbA rfl ?_ ?_
   ·trivial
   refine za (za ?_);refine zaa hX zbA rfl ?_ ?_
   ·exact zaH (by omega)
   refine⟨(k+1,jc y ev.toNat),⟨hlt,⟨hlp,by show jc y ev.toNat≤400;omega⟩,?_⟩,by show l.length - (k+1) < l.length - k;omega,⟨rfl,rfl,rfl,rfl,zcz _,trivial⟩,trivial,rfl,rfl⟩;rw[hr,if_neg (by rw[hc];decide),if_neg (by show ¬ 400 < jc y ev.toNat;omega)]
 ·have hb:decide ((k:Int) < (l.length:Nat))=false:=hb;have hb:=of_decide_eq_false hb;have:k=l.length:=by omega
  subst this;rw[j2,perS]at hr;(repeat(first|apply zae|apply zac|apply zal|apply zad|apply zab|refine zaa hX zbA rfl trivial ?_|refine zaa hX zbA rfl id ?_|refine zaa hX zbA rfl ⟨id,id⟩ ?_));refine zq ⟨.inr rfl,zba (by decide) rfl rfl trivial ?_⟩;show ((y:Int),true,())=((perS 1 l).1,(perS 1 l).2,());rw[hr]
theorem zkO (c:UInt8):isLt c=((decide (97≤(c.toNat:Int))&&decide ((c.toNat:Int)≤122))||(decide (65≤(c.toNat:Int))&&decide ((c.toNat:Int)≤90))):=by
 have h:∀ n:Fin 256,(isLt (yI n.val)==((decide (97≤((yI n.val).toNat:Int))&&decide (((yI n.val).toNat:Int)≤122))||(decide (65≤((yI n.val).toNat:Int))&&decide (((yI n.val).toNat:Int)≤90))))=true:=by decide+kernel
 have:=h ⟨c.toNat,c.toNat_lt⟩;rw[vO]at this;exact beq_iff_eq.1 this
theorem znf (s:ByteArray) (pos:Nat) (h:pos < s.size):1≤(kD s pos).2:=by
 by_cases ha:(s[pos]'h).toNat < 128
 ·rw[decode_ascii s pos h ha];exact zk _
 ·exact (decode_high s pos h (by omega)).2
def LtR (c:Int):Prop:=(97≤c∧c≤122)∨(65≤c∧c≤90)
def DgR (c:Int):Prop:=(48≤c∧c≤57)∨c=45
theorem zob {l:List UInt8} {pos c wd:Nat} (hp:pos < l.length) (hdec:(l[pos].toNat < 128∧(c,wd)=(l[pos].toNat,1))∨(128≤l[pos].toNat∧128≤c)) (hhd:0 < pos->l.head?.all isLt=true) (hall:(l.take pos).all isPt=true)
  (h:LtR c∨(pos≠0∧DgR c)):wd=1∧l.head?.all isLt=true∧(l.take (pos+1)).all isPt=true:=by
 unfold LtR DgR at h;rcases hdec with ⟨h1,e⟩|⟨h1,e⟩
 ·have e1:c=l[pos].toNat:=congrArg (fun x=>x.1) e;have e2:wd=1:=congrArg (fun x=>x.2) e;have hpt:isPt l[pos]=true:=by
   unfold isPt;rw[zkO];rcases h with h|⟨_,h|h⟩
   ·have:((decide (97≤(l[pos].toNat:Int))&&decide ((l[pos].toNat:Int)≤122))||(decide (65≤(l[pos].toNat:Int))&&decide ((l[pos].toNat:Int)≤90)))=true:=by
     simp only[ya,zb,decide_eq_true_iff];omega
    rw[this];rfl
   ·have:isDg l[pos]=true:=by
     unfold isDg;rw[zb,decide_eq_true_iff,decide_eq_true_iff,yS,yS];exact⟨by show 48≤_;omega,by show _≤57;omega⟩
    rw[this,xX];rfl
   ·have:l[pos]=45:=UInt8.toNat_inj.1 (by show _=45;omega);rw[this];rfl
  refine⟨e2,?_,?_⟩
  ·by_cases h0:pos=0
   ·subst h0;have hl:isLt l[0]=true:=by
     rw[zkO];simp only[ya,zb,decide_eq_true_iff];omega
    cases l with
    |nil=>rfl
    |cons a q=>exact hl
   ·exact hhd (by omega)
  ·rw[zH hp,List.all_append,hall,List.all_cons,hpt];rfl
 ·omega
theorem zp5 {l:List UInt8} {pos c wd:Nat} (hp:pos < l.length) (hdec:(l[pos].toNat < 128∧(c,wd)=(l[pos].toNat,1))∨(128≤l[pos].toNat∧128≤c)) (h:¬ (LtR c∨(pos≠0∧DgR c))):zev l=false:=by
 unfold LtR DgR at h;have hlt:isLt l[pos]=false:=by
  rw[zkO];simp only[x9,ji,decide_eq_false_iff_not];rcases hdec with ⟨h1,e⟩|⟨h1,e⟩
  ·have e1:c=l[pos].toNat:=congrArg (fun x=>x.1) e;omega
  ·omega
 unfold zev;by_cases h0:pos=0
 ·subst h0;cases l with
  |nil=>exact absurd hp (xp _)
  |cons a q=>
   have hlt:isLt a=false:=hlt;show (_&&_&&(isLt a&&_))=false;rw[hlt,vD,xP]
 ·have hpt:isPt l[pos]=false:=by
   unfold isPt;have hd:isDg l[pos]=false:=by
    unfold isDg;rw[ji,decide_eq_false_iff_not,decide_eq_false_iff_not,yS,yS];show ¬ 48≤_∨¬ _≤57;rcases hdec with ⟨h1,e⟩|⟨h1,e⟩
    ·have e1:c=l[pos].toNat:=congrArg (fun x=>x.1) e;omega
    ·omega
   have h45:(l[pos]==45)=false:=by
    rw[beq_eq_false_iff_ne];intro e2;have e3:l[pos].toNat=45:=by rw[e2];rfl
    rcases hdec with ⟨h1,e⟩|⟨h1,e⟩
    ·have e1:c=l[pos].toNat:=congrArg (fun x=>x.1) e;omega
    ·omega
   rw[hlt,hd,h45];rfl
  have:l.all isPt=false:=by
   rw[List.all_eq_false];exact⟨l[pos],xv hp,by rw[hpt];decide⟩
  rw[this,xP,xP]
set_option maxHeartbeats 2000000 in
theorem zkM (l:List UInt8) (w:World):Calls Tryz.prog 120 #[.string ⟨l.toArray⟩] w fun e w'=>e= .returned (.bool (zev l))∧∃ pos,w'=w.iter ⟨l.toArray⟩ pos:=by
 go_enter Tryz.func120,Tryz.ntmps120
 go_wp2
 go_loopw [] (fun w'=>∃ (pos:Nat),w'=w.iter ⟨l.toArray⟩ pos∧pos≤l.length∧(0 < pos->l.head?.all isLt=true)∧(l.take pos).all isPt=true) (fun w'=>l.length - w'.iterPos w.heap.size)
 case atStart=>exact⟨0,rfl,zl _,fun h=>absurd h (by decide),rfl⟩
 case round=>
  obtain⟨pos,rfl,hpos,hhd,hall⟩:=hrel;have hsz:(⟨l.toArray⟩:ByteArray).size=l.length:=by simp[ByteArray.size]
  by_cases hp:pos < (⟨l.toArray⟩:ByteArray).size
  ·have hnx:∀ ty,(Instr.next (.pointer (some ⟨w.heap.size,0,none⟩)) true ty).run Tryz.prog (w.iter ⟨l.toArray⟩ pos)=_:=fun ty=>run_next_any w _ pos ty hp;have hwd:=znf _ pos hp;have hlo:l[pos]'(by omega)=(⟨l.toArray⟩:ByteArray)[pos]'hp:=rfl;have hdec:((l[pos]'(by omega)).toNat < 128∧kD ⟨l.toArray⟩ pos=((l[pos]'(by omega)).toNat,1))∨(128≤(l[pos]'(by omega)).toNat∧128≤(kD ⟨l.toArray⟩ pos).1):=by
    by_cases ha:(l[pos]'(by omega)).toNat < 128
    ·exact .inl ⟨ha,decode_ascii _ pos hp ha⟩
    ·exact .inr ⟨by omega,(decode_high _ pos hp (by rw[<-hlo];omega)).1⟩
   generalize kD ⟨l.toArray⟩ pos=dc at hnx hwd hdec;obtain⟨c,wd⟩:=dc;simp only[]at hnx hwd hdec;generalize hci:((c:Nat):Int)=ci at hnx;have hlen:pos < l.length:=by omega
   have hgood:=zob hlen hdec hhd hall;have hbad:=zp5 hlen hdec;rw[hci]at hgood hbad;by_cases hcase:LtR ci∨(pos≠0∧DgR ci)
   ·obtain⟨e1,e2,e3⟩:=hgood hcase;clear hgood hbad hdec hlo;unfold LtR DgR at hcase
    go_wp2
    all_goals (first
     |(exfalso
       clear hnx;simp only[zy,y8,decide_eq_false_iff_not,decide_eq_true_eq,beq_iff_eq,beq_eq_false_iff_ne]at *;omega)
     |(go_roundw
       case rel=>exact⟨pos+1,by simp[*],by omega,fun _=>e2,e3⟩
       case measure=>(simp[*];omega)))
   ·have hnf:=hbad hcase;clear hgood hbad hdec hlo;unfold LtR DgR at hcase
    go_wp2
    all_goals (first
     |(exfalso
       clear hnx;simp only[zy,y8,decide_eq_false_iff_not,decide_eq_true_eq,beq_iff_eq,beq_eq_false_iff_ne]at *;omega)
     |(go_ret
       refine⟨?_,_,rfl⟩
       first|rfl|(rw[hnf];rfl)|(simp[*];done)))
  ·have hnx:∀ ty,(Instr.next (.pointer (some ⟨w.heap.size,0,none⟩)) true ty).run Tryz.prog (w.iter ⟨l.toArray⟩ pos)=_:=fun ty=>run_next_end w _ pos ty hp;have hend:zev l=(decide (l≠ [])&&decide (l.length≤32)):=by
    have hpl:pos=l.length:=by omega
    subst hpl;rw[xc]at hall;have hh:l.head?.all isLt=true:=by
     cases l with
     |nil=>rfl
     |cons a q=>exact hhd (Nat.zero_lt_succ _)
    unfold zev;rw[hh,hall];simp
   go_wp2
   all_goals (
    rename_i hne
    go_ret
    refine⟨?_,pos,by simp[hne]⟩;rw[hend]
    first
    |(simp[hne];done)
    |(cases l with
      |nil=>exact absurd rfl hne
      |cons a q=>(simp;try omega)))
def cName:Ctr:={ args:=[.str],pre:=fun _=>[],res:=.bool,own:=none,out:=fun x=>zev x.1 }
theorem zoc:yM Tryz.prog gmH 120 cName:=by
 refine⟨Tryz.call120,fun w O xs vs hO hr hp hG=>?_⟩;obtain⟨(l:List UInt8),_⟩:=xs;obtain⟨v1,r1,rfl,e1,rfl⟩:=hr;have e1: [v1]=[Value.string ⟨l.toArray⟩]∧l.length≤maxLen:=e1;obtain⟨e1,_⟩:=e1;cases e1;refine (zkM l w).mono ?_;rintro e w' ⟨rfl,pos,rfl⟩;exact⟨_,rfl,zaY w _,fun β=>rfl⟩
theorem zi1 {u:List Int} {B:Int} (h:∀ k:Nat,0≤u.getD k 0∧u.getD k 0≤B) (j:Int):∀ k:Nat,0≤(bump u j).getD k 0∧(bump u j).getD k 0≤B+1:=fun k=>by
 unfold bump;rw[zM,k7];have h1:=h k;have h2:=h j.toNat;rw[zM]at h1;split
 ·split
  ·show 0≤u.getD j.toNat 0+1∧u.getD j.toNat 0+1≤B+1;omega
  ·show (0:Int)≤0∧(0:Int)≤B+1;omega
 ·omega
theorem znh {u:List Int} {n:Nd} {B:Int} (h:∀ k:Nat,0≤u.getD k 0∧u.getD k 0≤B) (k:Nat):0≤(zbx u n).getD k 0∧(zbx u n).getD k 0≤B+2:=by
 unfold zbx;cases decide (1 < opsN n) with
 |true=>
  have:=zi1 (zi1 h (ndL n)) (ndR n) k;rw[cond_true];omega
 |false=>
  cases decide (0 < opsN n) with
  |true=>
   have:=zi1 h (ndL n) k;rw[cond_false,cond_true];omega
  |false=>
   have:=h k;rw[cond_false,cond_false];omega
theorem zlo (r:List Nd):∀ (i:Nat),i≤r.length->∀ k:Nat,0≤(zb1 r i).getD k 0∧(zb1 r i).getD k 0≤2 * (i:Int)
 |0,_,k=>by rw[zky];omega
 |i+1,hi,k=>by
  rw[zcA (by omega)];have:=znh (n:=zau r i) (zlo r i (by omega)) k;omega
def zcx (u:List Int) (n:Nd):Nat->List Int
 |0=>u
 |1=>if 0 < opsN n then bump u (ndL n) else u
 |_=>zbx u n
def opdJ (n:Nd) (i:Int):Nat->Bool
 |0=>true
 |1=>(bif decide (0 < opsN n) then inB (ndL n) 0 (i - 1) else (ndL n==0)||(ndK n==7))
 |_=>zeG n i
theorem zni {u:List Int} {n:Nd} {B:Int} (h:∀ k:Nat,0≤u.getD k 0∧u.getD k 0≤B) (k:Nat):0≤(zcx u n 1).getD k 0∧(zcx u n 1).getD k 0≤B+1:=by
 show 0≤(if 0 < opsN n then bump u (ndL n) else u).getD k 0∧(if 0 < opsN n then bump u (ndL n) else u).getD k 0≤B+1;by_cases e:0 < opsN n
 ·rw[if_pos e];exact zi1 h _ k
 ·rw[if_neg e];have:=h k;omega
theorem zmm (u:List Int) (n:Nd):(zcx u n 1).length=u.length:=by
 show (if 0 < opsN n then bump u (ndL n) else u).length=u.length;by_cases e:0 < opsN n
 ·rw[if_pos e];exact zdR _ _
 ·rw[if_neg e]
def cWf:Ctr:={ args:=[.slice nd],pre:=fun _=>[],res:=.bool,own:=none,out:=fun x=>wfS x.1 }
def kWf:Kn:={ gmK with C:=[(119,zbi),(74,zld),(120,cName),(121,zo8),(122,cNumb),(123,cAnyU)] }
theorem zaG:KnOk Tryz.prog gmH kWf:=zak.with (.cons zjc <| .cons zjq <| .cons zoc <| .cons zoi <| .cons zrR <| .cons zs2 .nil)
theorem zll {r:List Nd} {i:Nat} (hi:i < r.length) (h:zcL (zau r i) (i:Int)=false):wfS r=false:=by
 have:zcQ r r.length=false:=by
  rw[qf];intro e;have:=zdL.1 e i hi;rw[<-zh3,h]at this;cases this
 unfold wfS;rw[this,xP,vD]
theorem zje {r:List Nd} {i:Nat} (hi:i < r.length) (h:zbr (zau r i)=false):wfS r=false:=zll hi (by unfold zcL;rw[h];rfl)
theorem zjd {r:List Nd} {i:Nat} (hi:i < r.length) (h:zeG (zau r i) (i:Int)=false):wfS r=false:=zll hi (by unfold zcL;rw[h,xP])
theorem zrJ {k:Int} (h:1≤k∧k≤18):(zdu k).1=0∨(zdu k).1=1∨(zdu k).1=2:=by
 rcases (show k=1∨k=2∨k=3∨k=4∨k=5∨k=6∨k=7∨k=8∨k=9∨k=10∨k=11∨k=12∨k=13∨k=14∨k=15∨k=16∨k=17∨k=18 by omega) with rfl|rfl|rfl|rfl|rfl|rfl|rfl|rfl|rfl|rfl|rfl|rfl|rfl|rfl|rfl|rfl|rfl|rfl<;>decide
theorem zln {u:List Int} {n:Nd} (h:opsN n=0∨opsN n=1∨opsN n=2):(if 1 < opsN n then bump (zcx u n 1) (ndR n) else zcx u n 1)=zcx u n 2:=by
 show _=zbx u n;unfold zbx zcx;rcases h with h|h|h<;>rw[h]<;>rfl
theorem bufI {te:TypeId} {x y:List Int} (h:x=y):some (OObj.buf te i64 x)=some (OObj.buf te i64 y):=by rw[h]
set_option maxHeartbeats 1000000 in
theorem wf_ok:yM Tryz.prog gmH 72 cWf:=by
 refine zar (K:=kWf) zaG Tryz.func72 rfl rfl Tryz.call72 rfl (by decide) (by intro h;cases h) ?_;rintro w0 X hX ⟨(r:List Nd),_⟩ hp;change AWP _ _ _ _ _ ⟨[(0,⟨.slice nd,r⟩)],[],0⟩ _;refine jU 0 rfl fun hl=>?_;unfold maxLen at hl;refine za (za ?_);refine zaa hX zaG rfl ?_ ?_
 ·trivial
 refine za (za ?_);refine zaa hX zaG rfl ?_ ?_
 ·repeat'(first|exact trivial|assumption|(refine⟨?_,?_⟩)|(intro _)|exact zf rfl|exact zu _|(simp_all [allP];done))
 refine zai rfl (fun hb=>?_) (fun hb=>?_)
 ·have hb:(bif decide (((r.length:Nat):Int) < 1) then true else decide (((r.length:Nat):Int) > 64))=true:=hb;rw[b_or,ya,decide_eq_true_iff,decide_eq_true_iff]at hb;(repeat(first|apply zae|apply zac|apply zal|apply zad|apply zab|refine zaa hX zaG rfl trivial ?_|refine zaa hX zaG rfl id ?_|refine zaa hX zaG rfl ⟨id,id⟩ ?_));refine zq ⟨.inr rfl,zay rfl trivial rfl rfl ?_⟩;show false=wfS r;unfold wfS;rcases hb with hb|hb
  ·rw[decide_eq_false (by omega:¬ 1≤r.length)];rfl
  ·rw[decide_eq_false (by omega:¬ r.length≤64),xP,vD,vD]
 have hb:(bif decide (((r.length:Nat):Int) < 1) then true else decide (((r.length:Nat):Int) > 64))=false:=hb;rw[b_or,x9,decide_eq_false_iff_not,decide_eq_false_iff_not]at hb;obtain⟨hb1,hb2⟩:=hb;apply zac;refine za (za ?_);refine zaa hX zaG rfl ?_ ?_
 ·trivial
 have m0:(0:Int)≤((r.length:Nat):Int):=by omega
 have m1:((r.length:Nat):Int)≤1000000000:=by omega
 refine za (za ?_);refine zaa hX zaG rfl ?_ ?_
 ·exact⟨m0,qN _,m1⟩
 refine za (za ?_);refine zaa hX zaG rfl ?_ ?_
 ·trivial
 (repeat(first|apply zae|apply zac|apply zab|apply zad));refine yB (ι:=Nat) (fun i=>⟨[(0,⟨.slice nd,r⟩),(3,⟨.optr (.arr 19 shp),⟨0,.arr 19 shp,.here⟩⟩),(4,⟨.obuf i64,(1:Nat)⟩),(24,⟨.slice nd,r⟩),(25,⟨i64,((r.length:Nat):Int)⟩),(26,⟨i64,(i:Int)⟩)],[(0,some (.box (.arr 19 shp) zcC)),(1,some (.buf 3 i64 (zb1 r i)))],2⟩) (fun i=>i≤r.length∧zcQ r i=true) (fun i=>r.length - i) 0 ⟨zl _,rfl⟩ ⟨⟨rfl,rfl,rfl,rfl,rfl,rfl,trivial⟩,⟨rfl,bufI (by show zp (((r.length:Nat):Int)).toNat (0:Int)=_;rw[zL];rfl),trivial⟩,rfl,rfl⟩ ?_;rintro i ⟨hi,hn⟩;refine za (za ?_);refine zaa hX zaG rfl ?_ ?_
 ·trivial
 apply zae;refine zai rfl (fun hb=>?_) (fun hb=>?_)
 ·have hb:decide ((i:Int) < (r.length:Nat))=true:=hb;have hb:=of_decide_eq_true hb;have hlt:i < r.length:=by omega
  have n0:(0:Int)≤(i:Int):=by omega
  have hbd:=zlo r i hi;have hul:=zcJ r i;have hus:=zcA hlt;have hno:zcQ r (i+1)=(zcQ r i&&zcL (zau r i) (i:Int)):=rfl;have hff:=zje hlt;have hfo:=zjd hlt;rw[hn,Bool.true_and]at hno;refine za (za ?_);refine zaa hX zaG rfl ?_ ?_
  ·exact⟨n0,hb⟩
  refine zap (σ':=⟨[(0,⟨.slice nd,r⟩),(3,⟨.optr (.arr 19 shp),⟨0,.arr 19 shp,.here⟩⟩),(4,⟨.obuf i64,(1:Nat)⟩),(24,⟨.slice nd,r⟩),(25,⟨i64,((r.length:Nat):Int)⟩),(26,⟨i64,(i:Int)⟩),(5,⟨i64,(i:Int)⟩),(6,⟨.optr nd,⟨2,nd,.here⟩⟩)],[(0,some (.box (.arr 19 shp) zcC)),(1,some (.buf 3 i64 (zb1 r i))),(2,some (.box nd (zau r i)))],3⟩) ⟨⟨rfl,rfl,rfl,rfl,rfl,rfl,rfl,rfl,trivial⟩,⟨rfl,rfl,rfl,trivial⟩,rfl,rfl⟩ ?_;generalize hnd:zau r i=n at *;generalize zb1 r i=u at *;refine za (za ?_);refine zaa hX zaG rfl ?_ ?_
  ·repeat'(first|exact trivial|assumption|(refine⟨?_,?_⟩)|(intro _)|exact zf rfl|exact zu _|(simp_all [allP];done))
  have hk18:(bif !inB (ndK n) 1 18 then true else decide (((ndI n).length:Int) > 64))= !(inB (ndK n) 1 18&&decide ((ndI n).length≤64)):=by
   have:decide (((ndI n).length:Int) > 64)= !decide ((ndI n).length≤64):=by
    rw[<-decide_not,decide_eq_decide];omega
   rw[this];cases inB (ndK n) 1 18<;>cases decide ((ndI n).length≤64)<;>rfl
  refine zai rfl (fun hc=>?_) (fun hc=>?_)
  ·have hc:=hk18.symm.trans hc;rw[zy]at hc;(repeat(first|apply zae|apply zac|apply zal|apply zad|apply zab|refine zaa hX zaG rfl trivial ?_|refine zaa hX zaG rfl id ?_|refine zaa hX zaG rfl ⟨id,id⟩ ?_));refine zq ⟨.inr rfl,zay rfl trivial rfl rfl ?_⟩;show false=wfS r;rw[hff (by unfold zbr;rw[hc];rfl)]
  have hc:=hk18.symm.trans hc;rw[y8,zb,zaJ,decide_eq_true_iff]at hc;obtain⟨⟨k1,k2⟩,hl64⟩:=hc;apply zac;have t0:(0:Int)≤ndK n:=by omega
  have t1:ndK n < ((19:Nat):Int):=by omega
  have t2:(ndK n).toNat < 19:=by omega
  refine za (za ?_);refine zaa hX zaG rfl ?_ ?_
  ·exact⟨t0,t1,t2⟩
  refine zap (σ':=⟨[(0,⟨.slice nd,r⟩),(3,⟨.optr (.arr 19 shp),⟨0,.arr 19 shp,.here⟩⟩),(4,⟨.obuf i64,(1:Nat)⟩),(24,⟨.slice nd,r⟩),(25,⟨i64,((r.length:Nat):Int)⟩),(26,⟨i64,(i:Int)⟩),(5,⟨i64,(i:Int)⟩),(6,⟨.optr nd,⟨2,nd,.here⟩⟩),(7,⟨.optr shp,⟨3,shp,.here⟩⟩)],[(0,some (.box (.arr 19 shp) zcC)),(1,some (.buf 3 i64 (u))),(2,some (.box nd n)),(3,some (.box shp (zdu (ndK n))))],4⟩) ⟨⟨rfl,rfl,rfl,rfl,rfl,rfl,rfl,rfl,rfl,trivial⟩,⟨rfl,rfl,rfl,rfl,trivial⟩,rfl,rfl⟩ ?_;have hops:=zrJ ⟨k1,k2⟩;refine za (za ?_);refine zaa hX zaG rfl ?_ ?_
  ·trivial
  (repeat(first|apply zae|apply zac|apply zab|apply zad));refine jw hX 49 ?_;refine yB (ι:=Nat) (fun j=>⟨[(0,⟨.slice nd,r⟩),(3,⟨.optr (.arr 19 shp),⟨0,.arr 19 shp,.here⟩⟩),(4,⟨.obuf i64,(1:Nat)⟩),(24,⟨.slice nd,r⟩),(25,⟨i64,((r.length:Nat):Int)⟩),(26,⟨i64,(i:Int)⟩),(5,⟨i64,(i:Int)⟩),(6,⟨.optr nd,⟨2,nd,.here⟩⟩),(7,⟨.optr shp,⟨3,shp,.here⟩⟩),(49,⟨.slice i64,[ndL n,ndR n]⟩),(50,⟨i64,(2:Int)⟩),(51,⟨i64,(j:Int)⟩)],[(0,some (.box (.arr 19 shp) zcC)),(1,some (.buf 3 i64 (zcx u n j))),(2,some (.box nd n)),(3,some (.box shp (zdu (ndK n))))],4⟩) (fun j=>j≤2∧opdJ n i j=true) (fun j=>2 - j) 0 ⟨by decide,rfl⟩ ⟨⟨rfl,rfl,rfl,rfl,rfl,rfl,rfl,rfl,rfl,rfl,rfl,rfl,trivial⟩,⟨rfl,rfl,rfl,rfl,trivial⟩,rfl,rfl⟩ ?_
  ·rintro j ⟨hj,hjo⟩;refine za (za ?_);refine zaa hX zaG rfl ?_ ?_
   ·trivial
   apply zae;refine zai rfl (fun hb=>?_) (fun hb=>?_)
   ·have hb:decide ((j:Int) < 2)=true:=hb;have hb:=of_decide_eq_true hb;rcases (show j=0∨j=1 by omega) with rfl|rfl
    ·have u0:(0:Int)≤((0:Nat):Int):=by omega
     have u1:((0:Nat):Int) < (([ndL n,ndR n].length:Nat):Int):=by show ((0:Nat):Int) < ((2:Nat):Int);omega
     refine za (za ?_);refine zaa hX zaG rfl ?_ ?_
     ·exact⟨u0,u1⟩
     apply zab;refine za (za ?_);refine zaa hX zaG rfl ?_ ?_
     ·trivial
     refine zai rfl (fun hd=>?_) (fun hd=>?_)
     ·have hd:decide (((0:Nat):Int) < opsN n)=true:=hd;have hd:=of_decide_eq_true hd;have i1:inR .i64 ((i:Int) - 1):=zav (by omega) (by omega);refine za (za ?_);refine zaa hX zaG rfl ?_ ?_
      ·exact i1
      refine zai rfl (fun he=>?_) (fun he=>?_)
      ·have he:(!inB (ndL n) 0 ((i:Int) - 1))=true:=he;rw[zy]at he;(repeat(first|apply zae|apply zac|apply zal|apply zad|apply zab|refine zaa hX zaG rfl trivial ?_|refine zaa hX zaG rfl id ?_|refine zaa hX zaG rfl ⟨id,id⟩ ?_));refine zq ⟨.inr rfl,zay rfl trivial rfl rfl ?_⟩;show false=wfS r;rw[hfo (by unfold zeG;rw[decide_eq_true (show 0 < opsN n from hd),cond_true,he];rfl)]
      have he:(!inB (ndL n) 0 ((i:Int) - 1))=false:=he;rw[y8,zaJ]at he;obtain⟨p0,p1⟩:=he;have hbj:∀ k:Nat,0≤(zcx u n 0).getD k 0∧(zcx u n 0).getD k 0≤200:=fun k=>by
       have:=hbd k;show 0≤u.getD k 0∧u.getD k 0≤200;omega
      have hlj:(zcx u n 0).length=r.length:=by exact hul
      have hb3:=hbj (ndL n).toNat;have p2:ndL n < (((zcx u n 0).length:Nat):Int):=by rw[hlj];omega
      have p4:(ndL n).toNat < (zcx u n 0).length:=by rw[hlj];omega
      have p3:inR .i64 ((zcx u n 0).getD (ndL n).toNat 0+1):=zav (by omega) (by omega);apply zac;refine za (za ?_);refine zaa hX zaG rfl ?_ ?_
      ·repeat'(first|exact trivial|exact p0|exact p2|exact p3|exact p4|(refine⟨?_,?_⟩))
      refine za (za ?_);refine zaa hX zaG rfl ?_ ?_
      ·exact zaH (by omega)
      refine⟨1,⟨by omega,?_⟩,by decide,⟨rfl,rfl,rfl,rfl,rfl,rfl,rfl,rfl,rfl,rfl,rfl,rfl,trivial⟩,⟨rfl,bufI ?_,rfl,rfl,trivial⟩,rfl,rfl⟩
      ·show (bif decide (0 < opsN n) then inB (ndL n) 0 ((i:Int) - 1) else _)=true;rw[decide_eq_true (show 0 < opsN n from hd),cond_true,zaJ];exact⟨p0,p1⟩
      ·show bump (zcx u n 0) (ndL n)=zcx u n 1;show _=if 0 < opsN n then bump u (ndL n) else u
       rw[if_pos (show 0 < opsN n from hd)];rfl
     ·have hd:decide (((0:Nat):Int) < opsN n)=false:=hd;have hd:=of_decide_eq_false hd;refine za (za ?_);refine zaa hX zaG rfl ?_ ?_
      ·repeat'(first|exact trivial|assumption|(refine⟨?_,?_⟩)|(intro _)|exact zf rfl|exact zu _|(simp_all [allP];done))
      refine zai rfl (fun he=>?_) (fun he=>?_)
      ·have he:(bif (ndL n != 0) then !(bif (((0:Nat):Int)==0) then (ndK n==7) else false) else false)=true:=he;(repeat(first|apply zae|apply zac|apply zal|apply zad|apply zab|refine zaa hX zaG rfl trivial ?_|refine zaa hX zaG rfl id ?_|refine zaa hX zaG rfl ⟨id,id⟩ ?_));refine zq ⟨.inr rfl,zay rfl trivial rfl rfl ?_⟩;show false=wfS r;refine (hfo ?_).symm;unfold zeG;rw[decide_eq_false (show ¬ 0 < opsN n from hd),cond_false];revert he;unfold bne;cases (ndL n==0)<;>cases (ndK n==7)<;>intro he<;>first|rfl|cases he
      have he:(bif (ndL n != 0) then !(bif (((0:Nat):Int)==0) then (ndK n==7) else false) else false)=false:=he;apply zac;refine za (za ?_);refine zaa hX zaG rfl ?_ ?_
      ·exact zaH (by omega)
      refine⟨1,⟨by omega,?_⟩,by decide,⟨rfl,rfl,rfl,rfl,rfl,rfl,rfl,rfl,rfl,rfl,rfl,rfl,trivial⟩,⟨rfl,bufI ?_,rfl,rfl,trivial⟩,rfl,rfl⟩
      ·show (bif decide (0 < opsN n) then _ else (ndL n==0)||(ndK n==7))=true;rw[decide_eq_false (show ¬ 0 < opsN n from hd),cond_false];revert he;unfold bne;cases (ndL n==0)<;>cases (ndK n==7)<;>intro he<;>first|rfl|cases he
      ·show zcx u n 0=zcx u n 1;show u=if 0 < opsN n then bump u (ndL n) else u
       rw[if_neg (show ¬ 0 < opsN n from hd)]
    ·have u0:(0:Int)≤((1:Nat):Int):=by omega
     have u1:((1:Nat):Int) < (([ndL n,ndR n].length:Nat):Int):=by show ((1:Nat):Int) < ((2:Nat):Int);omega
     refine za (za ?_);refine zaa hX zaG rfl ?_ ?_
     ·exact⟨u0,u1⟩
     apply zab;refine za (za ?_);refine zaa hX zaG rfl ?_ ?_
     ·trivial
     refine zai rfl (fun hd=>?_) (fun hd=>?_)
     ·have hd:decide (((1:Nat):Int) < opsN n)=true:=hd;have hd:=of_decide_eq_true hd;have i1:inR .i64 ((i:Int) - 1):=zav (by omega) (by omega);refine za (za ?_);refine zaa hX zaG rfl ?_ ?_
      ·exact i1
      refine zai rfl (fun he=>?_) (fun he=>?_)
      ·have he:(!inB (ndR n) 0 ((i:Int) - 1))=true:=he;rw[zy]at he;(repeat(first|apply zae|apply zac|apply zal|apply zad|apply zab|refine zaa hX zaG rfl trivial ?_|refine zaa hX zaG rfl id ?_|refine zaa hX zaG rfl ⟨id,id⟩ ?_));refine zq ⟨.inr rfl,zay rfl trivial rfl rfl ?_⟩;show false=wfS r;rw[hfo (by unfold zeG;rw[decide_eq_true (show 1 < opsN n from hd),cond_true,he];rw[xP])]
      have he:(!inB (ndR n) 0 ((i:Int) - 1))=false:=he;rw[y8,zaJ]at he;obtain⟨p0,p1⟩:=he;have hbj:∀ k:Nat,0≤(zcx u n 1).getD k 0∧(zcx u n 1).getD k 0≤200:=fun k=>by
       have:=zni (n:=n) hbd k;omega
      have hlj:(zcx u n 1).length=r.length:=by rw[<-hul];exact zmm u n
      have hb3:=hbj (ndR n).toNat;have p2:ndR n < (((zcx u n 1).length:Nat):Int):=by rw[hlj];omega
      have p4:(ndR n).toNat < (zcx u n 1).length:=by rw[hlj];omega
      have p3:inR .i64 ((zcx u n 1).getD (ndR n).toNat 0+1):=zav (by omega) (by omega);apply zac;refine za (za ?_);refine zaa hX zaG rfl ?_ ?_
      ·repeat'(first|exact trivial|exact p0|exact p2|exact p3|exact p4|(refine⟨?_,?_⟩))
      refine za (za ?_);refine zaa hX zaG rfl ?_ ?_
      ·exact zaH (by omega)
      refine⟨2,⟨by omega,?_⟩,by decide,⟨rfl,rfl,rfl,rfl,rfl,rfl,rfl,rfl,rfl,rfl,rfl,rfl,trivial⟩,⟨rfl,bufI ?_,rfl,rfl,trivial⟩,rfl,rfl⟩
      ·show (_&&(bif decide (1 < opsN n) then inB (ndR n) 0 ((i:Int) - 1) else _))=true;rw[decide_eq_true (show 1 < opsN n from hd),cond_true,zaJ.2 ⟨p0,p1⟩,Bool.and_true];exact hjo
      ·show bump (zcx u n 1) (ndR n)=zcx u n 2;rw[<-zln hops,if_pos (show 1 < opsN n from hd)]
     ·have hd:decide (((1:Nat):Int) < opsN n)=false:=hd;have hd:=of_decide_eq_false hd;refine za (za ?_);refine zaa hX zaG rfl ?_ ?_
      ·repeat'(first|exact trivial|assumption|(refine⟨?_,?_⟩)|(intro _)|exact zf rfl|exact zu _|(simp_all [allP];done))
      refine zai rfl (fun he=>?_) (fun he=>?_)
      ·have he:(bif (ndR n != 0) then !(bif (((1:Nat):Int)==0) then (ndK n==7) else false) else false)=true:=he;(repeat(first|apply zae|apply zac|apply zal|apply zad|apply zab|refine zaa hX zaG rfl trivial ?_|refine zaa hX zaG rfl id ?_|refine zaa hX zaG rfl ⟨id,id⟩ ?_));refine zq ⟨.inr rfl,zay rfl trivial rfl rfl ?_⟩;show false=wfS r;refine (hfo ?_).symm;unfold zeG;rw[decide_eq_false (show ¬ 1 < opsN n from hd),cond_false];revert he;unfold bne;cases (ndR n==0)<;>intro he<;>first|(rw[xP])|cases he
      have he:(bif (ndR n != 0) then !(bif (((1:Nat):Int)==0) then (ndK n==7) else false) else false)=false:=he;apply zac;refine za (za ?_);refine zaa hX zaG rfl ?_ ?_
      ·exact zaH (by omega)
      refine⟨2,⟨by omega,?_⟩,by decide,⟨rfl,rfl,rfl,rfl,rfl,rfl,rfl,rfl,rfl,rfl,rfl,rfl,trivial⟩,⟨rfl,bufI ?_,rfl,rfl,trivial⟩,rfl,rfl⟩
      ·show (_&&(bif decide (1 < opsN n) then _ else ndR n==0))=true;rw[decide_eq_false (show ¬ 1 < opsN n from hd),cond_false];have h2:(ndR n==0)=true:=by revert he;unfold bne;cases (ndR n==0)<;>intro he<;>first|rfl|cases he
       rw[h2,Bool.and_true];exact hjo
      ·show zcx u n 1=zcx u n 2;rw[<-zln hops,if_neg (show ¬ 1 < opsN n from hd)]
   ·have hb:decide ((j:Int) < 2)=false:=hb;have hb:=of_decide_eq_false hb;obtain rfl:j=2:=by omega
    have hopd:zeG n (i:Int)=true:=hjo;apply zad;refine zap (σ':=⟨[(0,⟨.slice nd,r⟩),(3,⟨.optr (.arr 19 shp),⟨0,.arr 19 shp,.here⟩⟩),(4,⟨.obuf i64,(1:Nat)⟩),(24,⟨.slice nd,r⟩),(25,⟨i64,((r.length:Nat):Int)⟩),(26,⟨i64,(i:Int)⟩),(5,⟨i64,(i:Int)⟩),(6,⟨.optr nd,⟨2,nd,.here⟩⟩),(7,⟨.optr shp,⟨3,shp,.here⟩⟩)],[(0,some (.box (.arr 19 shp) zcC)),(1,some (.buf 3 i64 (zbx u n))),(2,some (.box nd n)),(3,some (.box shp (zdu (ndK n))))],4⟩) ⟨⟨rfl,rfl,rfl,rfl,rfl,rfl,rfl,rfl,rfl,trivial⟩,⟨rfl,rfl,rfl,rfl,trivial⟩,rfl,rfl⟩ ?_;clear hbd hul;have hub:u.length=u.length:=rfl;generalize zbx u n=u' at hus;(repeat(first|apply zae|apply zac|apply zab|apply zad));refine AWP.ordF (σ':=⟨[(0,⟨.slice nd,r⟩),(3,⟨.optr (.arr 19 shp),⟨0,.arr 19 shp,.here⟩⟩),(4,⟨.obuf i64,(1:Nat)⟩),(24,⟨.slice nd,r⟩),(25,⟨i64,((r.length:Nat):Int)⟩),(26,⟨i64,(i:Int)⟩),(5,⟨i64,(i:Int)⟩),(6,⟨.optr nd,⟨2,nd,.here⟩⟩),(7,⟨.optr shp,⟨3,shp,.here⟩⟩),(10,⟨.bool,ndC n==0⟩),(11,⟨.bool,decide (ndS n=[])⟩)],[(0,some (.box (.arr 19 shp) zcC)),(1,some (.buf 3 i64 (u'))),(2,some (.box nd n)),(3,some (.box shp (zdu (ndK n))))],4⟩) dM 8 rfl (by kernel_rfl) ?_ ?_
    ·repeat'(first|exact AllN.nil|refine AllN.cons ⟨_,rfl,?_⟩ ?_|refine yZ hX zaG rfl trivial ?_|(refine OrdA.last ?_;exact⟨rfl,⟨rfl,rfl,rfl,rfl,rfl,rfl,rfl,rfl,rfl,rfl,zcO zdD,trivial⟩,⟨rfl,rfl,rfl,rfl,trivial⟩,rfl,rfl⟩))
    refine za (za ?_);refine zaa hX zaG rfl ?_ ?_
    ·trivial
    refine AWP.viaQ (σ':=⟨[(0,⟨.slice nd,r⟩),(3,⟨.optr (.arr 19 shp),⟨0,.arr 19 shp,.here⟩⟩),(4,⟨.obuf i64,(1:Nat)⟩),(24,⟨.slice nd,r⟩),(25,⟨i64,((r.length:Nat):Int)⟩),(26,⟨i64,(i:Int)⟩),(5,⟨i64,(i:Int)⟩),(6,⟨.optr nd,⟨2,nd,.here⟩⟩),(7,⟨.optr shp,⟨3,shp,.here⟩⟩),(10,⟨.bool,zeA n⟩),(11,⟨.bool,decide (ndS n=[])⟩)],[(0,some (.box (.arr 19 shp) zcC)),(1,some (.buf 3 i64 (u'))),(2,some (.box nd n)),(3,some (.box shp (zdu (ndK n))))],4⟩) ?_ ?_
    ·refine zai rfl (fun hd=>?_) (fun hd=>?_)
     ·have hd:(zdu (ndK n)).2.1=true:=hd;refine za (za ?_);refine zaa hX zaG rfl ?_ ?_
      ·trivial
      refine⟨⟨rfl,rfl,rfl,rfl,rfl,rfl,rfl,rfl,rfl,zcO ?_,rfl,trivial⟩,⟨rfl,rfl,rfl,rfl,trivial⟩,rfl,rfl⟩;unfold zeA;rw[hd];rfl
     ·have hd:(zdu (ndK n)).2.1=false:=hd;apply zac;refine⟨⟨rfl,rfl,rfl,rfl,rfl,rfl,rfl,rfl,rfl,zcO ?_,rfl,trivial⟩,⟨rfl,rfl,rfl,rfl,trivial⟩,rfl,rfl⟩;unfold zeA;rw[hd];rfl
    refine za (za ?_);refine zaa hX zaG rfl ?_ ?_
    ·trivial
    refine AWP.viaQ (σ':=⟨[(0,⟨.slice nd,r⟩),(3,⟨.optr (.arr 19 shp),⟨0,.arr 19 shp,.here⟩⟩),(4,⟨.obuf i64,(1:Nat)⟩),(24,⟨.slice nd,r⟩),(25,⟨i64,((r.length:Nat):Int)⟩),(26,⟨i64,(i:Int)⟩),(5,⟨i64,(i:Int)⟩),(6,⟨.optr nd,⟨2,nd,.here⟩⟩),(7,⟨.optr shp,⟨3,shp,.here⟩⟩),(10,⟨.bool,zeA n⟩),(11,⟨.bool,ziF n⟩)],[(0,some (.box (.arr 19 shp) zcC)),(1,some (.buf 3 i64 (u'))),(2,some (.box nd n)),(3,some (.box shp (zdu (ndK n))))],4⟩) ?_ ?_
    ·refine zai rfl (fun hd=>?_) (fun hd=>?_)
     ·have hd:(ndK n==18)=true:=hd;refine za (za ?_);refine zaa hX zaG rfl ?_ ?_
      ·trivial
      refine⟨⟨rfl,rfl,rfl,rfl,rfl,rfl,rfl,rfl,rfl,rfl,zcO ?_,trivial⟩,⟨rfl,rfl,rfl,rfl,trivial⟩,rfl,rfl⟩;unfold ziF;rw[hd];rfl
     ·have hd:(ndK n==18)=false:=hd;apply zac;refine⟨⟨rfl,rfl,rfl,rfl,rfl,rfl,rfl,rfl,rfl,rfl,zcO ?_,trivial⟩,⟨rfl,rfl,rfl,rfl,trivial⟩,rfl,rfl⟩;unfold ziF;rw[hd];rfl
    have hfd:zbr n=(zeA n&&(ziF n&&(zaS (ndI n) (zdu (ndK n)).2.2.1&&zcP n))):=by
     unfold zbr;rw[zaJ.2 ⟨k1,k2⟩,decide_eq_true hl64];rfl
    refine za (za ?_);refine zaa hX zaG rfl ?_ ?_
    ·repeat'(first|exact trivial|assumption|(refine⟨?_,?_⟩)|(intro _)|exact zf rfl|exact zu _|(simp_all [allP];done))
    have ht:(bif (bif (bif !zeA n then true else !ziF n) then true else !zaS (ndI n) (zdu (ndK n)).2.2.1) then true else !zcP n)= !zbr n:=by
     rw[hfd];cases zeA n<;>cases ziF n<;>cases zaS (ndI n) (zdu (ndK n)).2.2.1<;>cases zcP n<;>rfl
    refine zai rfl (fun hd=>?_) (fun hd=>?_)
    ·have hd:=ht.symm.trans hd;rw[zy]at hd;(repeat(first|apply zae|apply zac|apply zal|apply zad|apply zab|refine zaa hX zaG rfl trivial ?_|refine zaa hX zaG rfl id ?_|refine zaa hX zaG rfl ⟨id,id⟩ ?_));refine zq ⟨.inr rfl,zay rfl trivial rfl rfl ?_⟩;show false=wfS r;rw[hff hd]
    ·have hd:=ht.symm.trans hd;rw[y8]at hd;apply zac;refine za (za ?_);refine zaa hX zaG rfl ?_ ?_
     ·exact zaH (by omega)
     refine⟨i+1,⟨hlt,?_⟩,by omega,⟨rfl,rfl,rfl,rfl,rfl,zcz _,trivial⟩,⟨rfl,bufI hus.symm,trivial⟩,rfl,rfl⟩;rw[hno];unfold zcL;rw[hd,hopd];rfl
 ·have hb:decide ((i:Int) < (r.length:Nat))=false:=hb;have hb:=of_decide_eq_false hb;obtain rfl:i=r.length:=by omega
  have hul:=zcJ r r.length;apply zad;refine jw hX 4 ?_;have i1:inR .i64 (((r.length:Nat):Int) - 1):=zav (by omega) (by omega);have i2:(0:Int)≤((r.length:Nat):Int) - 1:=by omega
  have i3:((r.length:Nat):Int) - 1≤(((zb1 r r.length).length:Nat):Int):=by omega
  refine za (za ?_);refine zaa hX zaG rfl ?_ ?_
  ·first|exact⟨i1,i2,i3,rfl⟩|(repeat'(first|exact trivial|exact i1|exact i2|exact i3|rfl|(refine⟨?_,?_⟩)))
  refine zq ⟨.inr rfl,zay rfl trivial rfl rfl ?_⟩;show (!((zb1 r r.length).take (((r.length:Nat):Int) - 1).toNat).any not1)=wfS r;unfold wfS;rw[decide_eq_true (by omega),decide_eq_true (by omega),hn,show (((r.length:Nat):Int) - 1).toNat=r.length - 1 by omega];rfl
abbrev Cal:=Int×List Int×Int×List Lr×Unit
def zhK (c:Cal):Prop:=(0≤c.1∧c.1≤1048576)∧(1≤c.2.1.length∧c.2.1.length≤16)∧(-1≤c.2.2.1∧c.2.2.1 < (c.2.1.length:Int))∧c.2.2.2.1.length≤16∧(c.2.2.1= -1->c.2.2.2.1=[])∧(∀ m∈c.2.1,1≤m∧m≤40)∧(perS 1 c.2.2.2.1).2=true
def cCalV:Ctr:={ args:=[cal],pre:=fun x=>[zhK x.1],res:=.bool,own:=none,out:=fun _=>true }
def kCv:Kn:={ gmK with C:=[(125,cPer)] }
theorem zda:KnOk Tryz.prog gmH kCv:=zak.with (.cons zn6 .nil)
theorem zpx {a b:Bool} (ha:a=false) (hb:b=false):(bif a then true else b)=false:=by rw[ha,hb];rfl
theorem zsQ:yM Tryz.prog gmH 73 cCalV:=by
 refine zar (K:=kCv) zda Tryz.func73 rfl rfl Tryz.call73 rfl (by decide) (by intro h;cases h) ?_;rintro w0 X hX ⟨(c:Cal),_⟩ hp;obtain⟨(ep:Int),(ms:List Int),(lp:Int),(rs:List Lr),⟨⟩⟩:=c;obtain⟨⟨e0,e1⟩,⟨n0,n1⟩,⟨l0,l1⟩,r0,lr,hm,hper⟩:zhK (ep,ms,lp,rs,()):=hp;have e0:0≤ep:=e0;have e1:ep≤1048576:=e1;have n0:1≤ms.length:=n0;have n1:ms.length≤16:=n1;have l0: -1≤lp:=l0;have l1:lp < (ms.length:Int):=l1;have r0:rs.length≤16:=r0;have lr:lp= -1->rs=[]:=lr;have hm:∀ m∈ms,1≤m∧m≤40:=hm;have hper:(perS 1 rs).2=true:=hper;change AWP _ _ _ _ _ ⟨[(0,⟨cal,(ep,ms,lp,rs,())⟩)],[],0⟩ _;refine za (za ?_);refine zaa hX zda rfl ?_ ?_
 ·trivial
 refine za (za ?_);refine zaa hX zda rfl ?_ ?_
 ·trivial
 refine zap (σ':=⟨[(1,⟨.optr cal,⟨0,cal,.here⟩⟩),(3,⟨i64,((ms.length:Nat):Int)⟩)],[(0,some (.box cal (ep,ms,lp,rs,())))],1⟩) ⟨⟨rfl,rfl,trivial⟩,⟨rfl,trivial⟩,rfl,rfl⟩ ?_;refine za (za ?_);refine zaa hX zda rfl ?_ ?_
 ·repeat'(first|exact trivial|assumption|(refine⟨?_,?_⟩)|(intro _)|exact zf rfl|exact zu _|(simp_all [allP];done))
 refine zai rfl (fun hc=>?_) (fun _=>?_)
 ·have hc:(bif decide (ep < 0) then true else decide (ep > 1048576))=true:=hc;rw[zpx (decide_eq_false (by omega)) (decide_eq_false (by omega))]at hc;cases hc
 refine za (za ?_);refine zaa hX zda rfl ?_ ?_
 ·repeat'(first|exact trivial|assumption|(refine⟨?_,?_⟩)|(intro _)|exact zf rfl|exact zu _|(simp_all [allP];done))
 refine zai rfl (fun hc=>?_) (fun _=>?_)
 ·have hc:(bif decide (((ms.length:Nat):Int) < 1) then true else decide (((ms.length:Nat):Int) > 16))=true:=hc;rw[zpx (decide_eq_false (by omega)) (decide_eq_false (by omega))]at hc;cases hc
 refine za (za ?_);refine zaa hX zda rfl ?_ ?_
 ·repeat'(first|exact trivial|assumption|(refine⟨?_,?_⟩)|(intro _)|exact zf rfl|exact zu _|(simp_all [allP];done))
 refine zai rfl (fun hc=>?_) (fun _=>?_)
 ·have hc:(bif decide (lp < -1) then true else decide (lp≥((ms.length:Nat):Int)))=true:=hc;rw[zpx (decide_eq_false (by omega)) (decide_eq_false (by omega))]at hc;cases hc
 refine za (za ?_);refine zaa hX zda rfl ?_ ?_
 ·repeat'(first|exact trivial|assumption|(refine⟨?_,?_⟩)|(intro _)|exact zf rfl|exact zu _|(simp_all [allP];done))
 refine zai rfl (fun hc=>?_) (fun _=>?_)
 ·have hc:decide (((rs.length:Nat):Int) > 16)=true:=hc;have:=of_decide_eq_true hc;omega
 refine za (za ?_);refine zaa hX zda rfl ?_ ?_
 ·repeat'(first|exact trivial|assumption|(refine⟨?_,?_⟩)|(intro _)|exact zf rfl|exact zu _|(simp_all [allP];done))
 refine zai rfl (fun hc=>?_) (fun _=>?_)
 ·have hc:(bif (lp== -1) then decide (((rs.length:Nat):Int) > 0) else false)=true:=hc;cases hq:(lp== -1) with
  |false=>rw[hq]at hc;cases hc
  |true=>
   rw[hq]at hc;have:=of_decide_eq_true hc;rw[lr (beq_iff_eq.1 hq)]at this;exact absurd this (by decide)
 apply zac;refine zap (σ':=⟨[(1,⟨.optr cal,⟨0,cal,.here⟩⟩)],[(0,some (.box cal (ep,ms,lp,rs,())))],1⟩) ⟨⟨rfl,trivial⟩,⟨rfl,trivial⟩,rfl,rfl⟩ ?_;refine za (za ?_);refine zaa hX zda rfl ?_ ?_
 ·trivial
 (repeat(first|apply zae|apply zac|apply zab|apply zad));refine yB (ι:=Nat) (fun k=>⟨[(1,⟨.optr cal,⟨0,cal,.here⟩⟩),(50,⟨ints,ms⟩),(51,⟨i64,((ms.length:Nat):Int)⟩),(52,⟨i64,(k:Int)⟩)],[(0,some (.box cal (ep,ms,lp,rs,())))],1⟩) (fun k=>k≤ms.length) (fun k=>ms.length - k) 0 (zl _) ⟨⟨rfl,rfl,rfl,rfl,trivial⟩,⟨rfl,trivial⟩,rfl,rfl⟩ ?_;intro k hk;refine za (za ?_);refine zaa hX zda rfl ?_ ?_
 ·trivial
 apply zae;refine zai rfl (fun hb=>?_) (fun hb=>?_)
 ·have hb:decide ((k:Int) < (ms.length:Nat))=true:=hb;have hb:=of_decide_eq_true hb;have hlt:k < ms.length:=by omega
  have z0:(0:Int)≤(k:Int):=by omega
  have hgd:ms.getD (k:Int).toNat (0:Int)=ms[k]:=zaM hlt;obtain⟨g0,g1⟩:=hm ms[k] (xv hlt);rw[<-hgd]at g0 g1;refine za (za ?_);refine zaa hX zda rfl ?_ ?_
  ·exact⟨z0,hb⟩
  refine za (za ?_);refine zaa hX zda rfl ?_ ?_
  ·repeat'(first|exact trivial|assumption|(refine⟨?_,?_⟩)|(intro _)|exact zf rfl|exact zu _|(simp_all [allP];done))
  refine zai rfl (fun hc=>?_) (fun _=>?_)
  ·have hc:(bif decide (ms.getD (k:Int).toNat (0:Int) < 1) then true else decide (ms.getD (k:Int).toNat (0:Int) > 40))=true:=hc;rw[zpx (decide_eq_false (by omega)) (decide_eq_false (by omega))]at hc;cases hc
  apply zac;refine za (za ?_);refine zaa hX zda rfl ?_ ?_
  ·exact zaH (by omega)
  exact⟨k+1,hlt,by omega,⟨rfl,rfl,rfl,zcz _,trivial⟩,⟨rfl,trivial⟩,rfl,rfl⟩
 ·apply zad;refine za (za ?_);refine zaa hX zda rfl ?_ ?_
  ·trivial
  refine za (za ?_);refine zaa hX zda rfl ?_ ?_
  ·trivial
  refine zq ⟨.inr rfl,zay rfl trivial rfl rfl ?_⟩;exact hper
def zqO:Ctr:={ args:=[.slice nd,.slice cal],pre:=fun x=>[zd x.2.1=3,∀ c∈(x.2.1:List Cal),zhK c],res:=i64,own:=none,out:=fun x=>zco x.1 }
def zCal:Cal:=(0,[],0,[],())
def kVr:Kn:={ gmK with C:=[(71,cAnyR),(72,cWf),(73,cCalV),(74,zld)] }
theorem zbM:KnOk Tryz.prog gmH kVr:=zak.with (.cons zs3 <| .cons wf_ok <| .cons zsQ <| .cons zjq .nil)
set_option maxHeartbeats 1000000 in
theorem zng:yM Tryz.prog gmH 34 zqO:=by
 refine zar (K:=kVr) zbM Tryz.func34 rfl rfl Tryz.call34 rfl (by decide) (by intro h;cases h) ?_;rintro w0 X hX ⟨(r:List Nd),(cs:List Cal),_⟩ hp;obtain⟨hc3,hcs⟩:cs.length=3∧∀ c∈cs,zhK c:=by
  simp only[zqO,allP]at hp
  simpa using hp
 change AWP _ _ _ _ _ ⟨[(0,⟨.slice nd,r⟩),(1,⟨.slice cal,cs⟩)],[],0⟩ _;refine za (za ?_);refine zaa hX zbM rfl ?_ ?_
 ·trivial
 refine za (za ?_);refine zaa hX zbM rfl ?_ ?_
 ·trivial
 refine za (za ?_);refine zaa hX zbM rfl ?_ ?_
 ·repeat'(first|exact trivial|assumption|exact rfl|(refine⟨?_,?_⟩)|(intro _)|exact zf rfl|exact zu _|(simp_all [allP];done))
 have hbig:(bif decide (((r.length:Nat):Int) > 64) then true else r.any bigN)=decide (64 < r.length∨r.any bigN=true):=by
  rw[b_or,yz,ya,decide_eq_true_iff,decide_eq_true_iff];constructor
  ·rintro (h|h)
   ·exact .inl (by omega)
   ·exact .inr h
  ·rintro (h|h)
   ·exact .inl (by omega)
   ·exact .inr h
 refine zai rfl (fun hb=>?_) (fun hb=>?_)
 ·have hb:=hbig.symm.trans hb;have hb:=of_decide_eq_true hb;(repeat(first|apply zae|apply zac|apply zal|apply zad|apply zab|refine zaa hX zbM rfl trivial ?_|refine zaa hX zbM rfl id ?_|refine zaa hX zbM rfl ⟨id,id⟩ ?_));refine zq ⟨.inr rfl,zay rfl trivial rfl rfl ?_⟩;show (2:Int)=zco r;unfold zco;rw[if_pos hb]
 have hb:=hbig.symm.trans hb;have hnb:=of_decide_eq_false hb;apply zac;refine za (za ?_);refine zaa hX zbM rfl ?_ ?_
 ·repeat'(first|exact trivial|assumption|(refine⟨?_,?_⟩)|(intro _)|exact zf rfl|exact zu _|(simp_all [allP];done))
 have hwt:(bif !wfS r then true else decide (((cs.length:Nat):Int) > 3))= !wfS r:=by
  rw[hc3];cases wfS r<;>rfl
 refine zai rfl (fun hb=>?_) (fun hb=>?_)
 ·have hb:=hwt.symm.trans hb;rw[zy]at hb;(repeat(first|apply zae|apply zac|apply zal|apply zad|apply zab|refine zaa hX zbM rfl trivial ?_|refine zaa hX zbM rfl id ?_|refine zaa hX zbM rfl ⟨id,id⟩ ?_));refine zq ⟨.inr rfl,zay rfl trivial rfl rfl ?_⟩;show (1:Int)=zco r;unfold zco;rw[if_neg hnb,if_neg (by rw[hb];decide)]
 have hb:=hwt.symm.trans hb;rw[y8]at hb;have hv:zco r=0:=by unfold zco;rw[if_neg hnb,if_pos hb]
 obtain⟨⟨w1,w2⟩,w3,_⟩:=zdl hb;apply zac;refine za (za ?_);refine zaa hX zbM rfl ?_ ?_
 ·trivial
 (repeat(first|apply zae|apply zac|apply zab|apply zad));refine zap (σ':=⟨[(0,⟨.slice nd,r⟩),(1,⟨.slice cal,cs⟩),(27,⟨.slice cal,cs⟩),(28,⟨i64,((cs.length:Nat):Int)⟩),(29,⟨i64,(0:Int)⟩)],[],0⟩) ⟨⟨rfl,rfl,rfl,rfl,rfl,trivial⟩,trivial,rfl,rfl⟩ ?_;refine yB (ι:=Nat) (fun k=>⟨[(0,⟨.slice nd,r⟩),(1,⟨.slice cal,cs⟩),(27,⟨.slice cal,cs⟩),(28,⟨i64,((cs.length:Nat):Int)⟩),(29,⟨i64,(k:Int)⟩)],[],0⟩) (fun k=>k≤cs.length) (fun k=>cs.length - k) 0 (zl _) ⟨⟨rfl,rfl,rfl,rfl,rfl,trivial⟩,trivial,rfl,rfl⟩ ?_;intro k hk;refine za (za ?_);refine zaa hX zbM rfl ?_ ?_
 ·trivial
 apply zae;refine zai rfl (fun hb=>?_) (fun hb=>?_)
 ·have hb:decide ((k:Int) < (cs.length:Nat))=true:=hb;have hb:=of_decide_eq_true hb;have hlt:k < cs.length:=by omega
  have z0:(0:Int)≤(k:Int):=by omega
  have hgd:cs.getD (k:Int).toNat zCal=cs[k]:=zaM hlt;have hok:=hcs cs[k] (xv hlt);rw[<-hgd]at hok;refine za (za ?_);refine zaa hX zbM rfl ?_ ?_
  ·exact⟨z0,hb⟩
  refine za (za ?_);refine zaa hX zbM rfl ?_ ?_
  ·exact hok
  refine zai rfl (fun hc=>?_) (fun _=>?_)
  ·have hc:(!true)=true:=hc;cases hc
  apply zac;refine za (za ?_);refine zaa hX zbM rfl ?_ ?_
  ·exact zaH (by omega)
  exact⟨k+1,hlt,by omega,⟨rfl,rfl,rfl,rfl,zcz _,trivial⟩,trivial,rfl,rfl⟩
 ·apply zad;refine za (za ?_);refine zaa hX zbM rfl ?_ ?_
  ·trivial
  refine za (za ?_);refine zaa hX zbM rfl ?_ ?_
  ·trivial
  (repeat(first|apply zae|apply zac|apply zab|apply zad));refine yB (ι:=Nat) (fun i=>⟨[(0,⟨.slice nd,r⟩),(1,⟨.slice cal,cs⟩),(8,⟨.optr (.arr 19 shp),⟨0,.arr 19 shp,.here⟩⟩),(38,⟨.slice nd,r⟩),(39,⟨i64,((r.length:Nat):Int)⟩),(40,⟨i64,(i:Int)⟩)],[(0,some (.box (.arr 19 shp) zcC))],1⟩) (fun i=>i≤r.length) (fun i=>r.length - i) 0 (zl _) ⟨⟨rfl,rfl,rfl,rfl,rfl,rfl,trivial⟩,⟨rfl,trivial⟩,rfl,rfl⟩ ?_;intro i hi;refine za (za ?_);refine zaa hX zbM rfl ?_ ?_
  ·trivial
  apply zae;refine zai rfl (fun hb=>?_) (fun hb=>?_)
  ·have hb:decide ((i:Int) < (r.length:Nat))=true:=hb;have hb:=of_decide_eq_true hb;have hlt:i < r.length:=by omega
   have z0:(0:Int)≤(i:Int):=by omega
   have hf:=(zck w3 hlt).1;obtain⟨⟨k1,k2⟩,_,hcal,_⟩:=zaD hf;refine za (za ?_);refine zaa hX zbM rfl ?_ ?_
   ·exact⟨z0,hb⟩
   refine zap (σ':=⟨[(0,⟨.slice nd,r⟩),(1,⟨.slice cal,cs⟩),(8,⟨.optr (.arr 19 shp),⟨0,.arr 19 shp,.here⟩⟩),(38,⟨.slice nd,r⟩),(39,⟨i64,((r.length:Nat):Int)⟩),(40,⟨i64,(i:Int)⟩),(10,⟨.optr nd,⟨1,nd,.here⟩⟩)],[(0,some (.box (.arr 19 shp) zcC)),(1,some (.box nd (zau r i)))],2⟩) ⟨⟨rfl,rfl,rfl,rfl,rfl,rfl,rfl,trivial⟩,⟨rfl,rfl,trivial⟩,rfl,rfl⟩ ?_;generalize zau r i=n at *;have t0:(0:Int)≤ndK n:=by omega
   have t1:ndK n < ((19:Nat):Int):=by omega
   have t2:(ndK n).toNat < 19:=by omega
   refine za (za ?_);refine zaa hX zbM rfl ?_ ?_
   ·repeat'(first|exact trivial|assumption|exact t0|exact t1|exact t2|(refine⟨?_,?_⟩)|(intro _)|exact zf rfl|exact zu _|(simp_all [allP];done))
   refine zai rfl (fun hc=>?_) (fun _=>?_)
   ·have hc:(bif (zdu (ndK n)).2.1 then decide (ndC n≥((cs.length:Nat):Int)) else false)=true:=hc;exfalso;unfold zeA at hcal;cases hq:(zdu (ndK n)).2.1 with
    |false=>rw[hq]at hc;cases hc
    |true=>
     rw[hq,cond_true]at hc hcal;have h1:=of_decide_eq_true hc;have h2:=zaJ.1 hcal;omega
   apply zac;refine za (za ?_);refine zaa hX zbM rfl ?_ ?_
   ·exact zaH (by omega)
   exact⟨i+1,hlt,by omega,⟨rfl,rfl,rfl,rfl,rfl,zcz _,trivial⟩,⟨rfl,trivial⟩,rfl,rfl⟩
  ·(repeat(first|apply zae|apply zac|apply zal|apply zad|apply zab|refine zaa hX zbM rfl trivial ?_|refine zaa hX zbM rfl id ?_|refine zaa hX zbM rfl ⟨id,id⟩ ?_));refine zq ⟨.inr rfl,zay rfl trivial rfl rfl ?_⟩;exact hv.symm
def znz:List Int:=[31,28,31,30,31,30,31,31,30,31,30,31]
def zf6:List Int:=[30,29,30,29,30,29,30,29,30,29,30,29]
def zcK:List Int:=[2,5,7,10,13,16,18,21,24,26,29]
def zf7 (k:Int):Cal:=
 if k=0 then (7,znz,1,[(4,0,true,()),(100,0,false,()),(400,0,true,())],())
 else if k=1 then (5,znz,1,[(4,0,true,())],())
 else (227021,zf6,11,zcK.map fun x=>(30,x,true,()),())
def zid:Ctr:={ args:=[i64],pre:=fun x=>[0≤x.1,x.1≤2],res:=.tup cal (.tup i64 .unit),own:=none,out:=fun x=>(zf7 x.1,(0:Int),()) }
def kKw:Kn:={ gmK with H:=[63] }
theorem zb0:KnOk Tryz.prog gmH kKw:=⟨zgb,zga,CsOk.nil,zha,RsOk.nil⟩
def lunVal:Value:=.agg #[.int .i64 227021,.slice none 0 0,.int .i64 11,.slice none 0 0]
theorem zof:Tryz.prog.built 63 [(0,.int .i64 227021),(2,.int .i64 11)]=some #[.int .i64 227021,.slice none 0 0,.int .i64 11,.slice none 0 0]:=by kernel_rfl
theorem bufL {te:TypeId} {x y:List Lr} (h:x=y):some (OObj.buf te lru x)=some (OObj.buf te lru y):=by rw[h]
set_option maxHeartbeats 1000000 in
theorem zqk:yM Tryz.prog gmH 59 zid:=by
 refine zar (K:=kKw) zb0 Tryz.func59 rfl rfl Tryz.call59 rfl (by decide) (by intro h;cases h) ?_;rintro w0 X hX ⟨(k:Int),_⟩ hp;obtain⟨h0,h1⟩:0≤k∧k≤2:=by
  simp only[zid,allP]at hp
  simpa using hp
 change AWP _ _ _ _ _ ⟨[(0,⟨i64,k⟩)],[],0⟩ _;refine za (za ?_);refine zaa hX zb0 rfl ?_ ?_
 ·trivial
 refine za (za ?_);refine zaa hX zb0 rfl ?_ ?_
 ·trivial
 refine jw hX 4 ?_;refine za (za ?_);refine zaa hX zb0 rfl ?_ ?_
 ·trivial
 refine za (za ?_);refine zaa hX zb0 rfl ?_ ?_
 ·trivial
 refine za (za ?_);refine zaa hX zb0 rfl ?_ ?_
 ·trivial
 refine zai rfl (fun hb=>?_) (fun hb=>?_)
 ·have hb:(k==0)=true:=hb;obtain rfl:=beq_iff_eq.1 hb;refine za (za ?_);refine zaa hX zb0 rfl ?_ ?_
  ·trivial
  refine jw hX 6 ?_;refine za (za ?_);refine zaa hX zb0 rfl ?_ ?_
  ·trivial
  refine zq ⟨.inr rfl,zba (by decide) rfl rfl trivial ?_⟩;rfl
 have hb:(k==0)=false:=hb;have hk0:k≠0:=fun e=>by rw[e]at hb;cases hb
 refine za (za ?_);refine zaa hX zb0 rfl ?_ ?_
 ·trivial
 refine zai rfl (fun hb=>?_) (fun hb=>?_)
 ·have hb:(k==1)=true:=hb;obtain rfl:=beq_iff_eq.1 hb;refine za (za ?_);refine zaa hX zb0 rfl ?_ ?_
  ·trivial
  refine zq ⟨.inr rfl,zba (by decide) rfl rfl trivial ?_⟩;rfl
 have hb:(k==1)=false:=hb;have hk1:k≠1:=fun e=>by rw[e]at hb;cases hb
 refine za (za ?_);refine zaa hX zb0 rfl ?_ ?_
 ·trivial
 refine zai rfl (fun hb=>?_) (fun hb=>?_)
 ·have hb:(k==2)=true:=hb;obtain rfl:=beq_iff_eq.1 hb;(repeat(first|apply zae|apply zac|apply zab|apply zad));refine zaj ?_;refine AL.litv rfl (by intro c e;cases e) rfl rfl lunVal (fun β a w hs=>by
   unfold execOp;refine zdX ?_;rw[show (#[(0,vY (yl .i64 227021)),(2,vY (yl .i64 11))]:Array (Nat×Operand)).map (fun p=>(p.1,a.eval p.2))= #[(0,yl .i64 227021),(2,yl .i64 11)] from by simp;exact⟨rfl,rfl⟩];exact run_build w _ _ _ zof) ?_
  refine AL.all hX zb0 rfl trivial ?_;refine AWP.nilLeaf 3 1 3 i64 rfl rfl rfl ?_;refine AWP.nilLeaf 3 3 129 lru rfl rfl rfl ?_;refine za (za ?_);refine zaa hX zb0 rfl ?_ ?_
  ·trivial
  (repeat(first|apply zae|apply zac|apply zab|apply zad));refine yB (ι:=Nat) (fun i=>⟨[(2,⟨.hptr,((0:Nat),(0:Nat))⟩),(7,⟨.hptr,((3:Nat),(0:Nat))⟩),(32,⟨i64,(i:Int)⟩)],[(0,some (.hbox 63 [⟨i64,(0:Int)⟩,⟨.lit,.slice none 0 0⟩,⟨i64,(0:Int)⟩,⟨.lit,.slice none 0 0⟩])),(3,some (.hbox 63 [⟨i64,(227021:Int)⟩,⟨.obuf i64,(4:Nat)⟩,⟨i64,(11:Int)⟩,⟨.obuf lru,(5:Nat)⟩])),(4,some (.buf 3 i64 (zf6.take i))),(5,some (.buf 129 lru []))],6⟩) (fun i=>i≤12) (fun i=>12 - i) 0 (zl _) ⟨⟨rfl,rfl,rfl,trivial⟩,⟨rfl,rfl,rfl,rfl,trivial⟩,rfl,rfl⟩ ?_
  ·intro i hi;refine za (za ?_);refine zaa hX zb0 rfl ?_ ?_
   ·trivial
   apply zae;refine zai rfl (fun hb=>?_) (fun hb=>?_)
   ·have hb:decide ((i:Int) < 12)=true:=hb;have hb:=of_decide_eq_true hb;obtain⟨hv,hv2,hv3⟩:(inR .i64 ((30:Int) - (i:Int).tmod 2))∧zf6.take i++ [(30:Int) - (i:Int).tmod 2]=zf6.take (i+1)∧(zf6.take i).length≤12:=by
     rcases (show i=0∨i=1∨i=2∨i=3∨i=4∨i=5∨i=6∨i=7∨i=8∨i=9∨i=10∨i=11 by omega) with rfl|rfl|rfl|rfl|rfl|rfl|rfl|rfl|rfl|rfl|rfl|rfl<;>exact⟨zav (by decide) (by decide),by decide,by decide⟩
    have q0:(2:Int)≠0:=by decide
    have q1:(zf6.take i).length+1≤1000000000:=by omega
    refine za (za ?_);refine zaa hX zb0 rfl ?_ ?_
    ·trivial
    refine za (za ?_);refine zaa hX zb0 rfl ?_ ?_
    ·exact⟨q0,hv,q1⟩
    refine za (za ?_);refine zaa hX zb0 rfl ?_ ?_
    ·exact zaH (by omega)
    exact⟨i+1,by omega,by omega,⟨rfl,rfl,zcz _,trivial⟩,⟨rfl,rfl,bufI hv2,rfl,trivial⟩,rfl,rfl⟩
   ·have hb:decide ((i:Int) < 12)=false:=hb;have hb:=of_decide_eq_false hb;obtain rfl:i=12:=by omega
    apply zad;refine za (za ?_);refine zaa hX zb0 rfl ?_ ?_
    ·trivial
    refine jw hX 44 ?_;(repeat(first|apply zae|apply zac|apply zab|apply zad));refine yB (ι:=Nat) (fun j=>⟨[(2,⟨.hptr,((0:Nat),(0:Nat))⟩),(7,⟨.hptr,((3:Nat),(0:Nat))⟩),(44,⟨ints,zcK⟩),(45,⟨i64,(11:Int)⟩),(46,⟨i64,(j:Int)⟩)],[(0,some (.hbox 63 [⟨i64,(0:Int)⟩,⟨.lit,.slice none 0 0⟩,⟨i64,(0:Int)⟩,⟨.lit,.slice none 0 0⟩])),(3,some (.hbox 63 [⟨i64,(227021:Int)⟩,⟨.obuf i64,(4:Nat)⟩,⟨i64,(11:Int)⟩,⟨.obuf lru,(5:Nat)⟩])),(4,some (.buf 3 i64 zf6)),(5,some (.buf 129 lru ((zcK.take j).map fun x=>(30,x,true,()))))],6⟩) (fun j=>j≤11) (fun j=>11 - j) 0 (zl _) ⟨⟨rfl,rfl,rfl,rfl,rfl,trivial⟩,⟨rfl,rfl,rfl,rfl,trivial⟩,rfl,rfl⟩ ?_;intro j hj;refine za (za ?_);refine zaa hX zb0 rfl ?_ ?_
    ·trivial
    apply zae;refine zai rfl (fun hb=>?_) (fun hb=>?_)
    ·have hb:decide ((j:Int) < 11)=true:=hb;have hb:=of_decide_eq_true hb;have hlt:j < zcK.length:=by show j < 11;omega
     have z0:(0:Int)≤(j:Int):=by omega
     have z1:(j:Int) < ((zcK.length:Nat):Int):=by omega
     have hl:((zcK.take j).map fun x=>((30,x,true,()):Lr)).length+1≤1000000000:=by rw[List.length_map,ym];omega
     refine za (za ?_);refine zaa hX zb0 rfl ?_ ?_
     ·exact⟨z0,z1⟩
     refine za (za ?_);refine zaa hX zb0 rfl ?_ ?_
     ·exact hl
     refine za (za ?_);refine zaa hX zb0 rfl ?_ ?_
     ·exact zaH (by omega)
     refine⟨j+1,by omega,by omega,⟨rfl,rfl,rfl,rfl,zcz _,trivial⟩,⟨rfl,rfl,rfl,bufL ?_,trivial⟩,rfl,rfl⟩;rw[zH hlt,List.map_append];show _++ [((30:Int),zcK.getD (j:Int).toNat (0:Int),true,())]=_;rw[zaM hlt];rfl
    ·have hb:decide ((j:Int) < 11)=false:=hb;have hb:=of_decide_eq_false hb;obtain rfl:j=11:=by omega
     apply zad;refine AWP.frzL hX 3 1 ?_;refine AWP.frzL hX 3 3 ?_;refine za (za ?_);refine zaa hX zb0 rfl ?_ ?_
     ·trivial
     refine zq ⟨.inr rfl,zba (by decide) rfl rfl trivial ?_⟩;rfl
 ·have hb:(k==2)=false:=hb;exact absurd (beq_iff_eq.2 (by omega:k=2)) (by rw[hb];decide)
theorem zpX (A:Option Addr) (n c:Nat):Tryz.prog.built 107 [(1,.slice A n c)]=some #[.pointer none,.slice none 0 0,.slice A n c]:=by kernel_rfl
abbrev prV:Ty:=.hcons .lit (.hcons .lit (.hcons (.slice nd) .unit))
def prX (r:List Nd):prV.T:=(.pointer none,(.slice none 0 0,(r,())))
section
variable {w0:World} {X:Ownr} {n:Nat} {Q:Exit->AS->Prop} {ops:Array Oper} {F:Frame} {E:Owns} {nx:Nat}
theorem AL.bldPr {o:Oper} {rest:List Oper} {x:Operand} (ho:o.op= .build 107 #[(1,x)]) (hgd:o.guard=none) {d:Nat} (hd:o.dst=some d) (hdn:Nat.blt d n=true) {r:List Nd} (hx:evO F x=⟨.slice nd,r⟩)
  (h:AL Tryz.prog w0 X n ops rest ⟨(d,⟨prV,prX r⟩)::F,E,nx⟩ Q):AL Tryz.prog w0 X n ops (o::rest) ⟨F,E,nx⟩ Q:=by
 refine AL.hand hgd (fun c e=>by rw[ho]at e;cases e) fun β a w hs=>?_;have hsx:=hs.ops x;rw[show evO (AS.mk F E nx).F x=_ from hx]at hsx;have hsx':=hsx;obtain⟨v,e,hS⟩:=hsx;obtain⟨A,m,c,hv⟩:∃ A m c,a.eval x= .slice A m c:=by
  rw[List.singleton_inj.1 e];rcases hS with ⟨_,A,c,rfl,_⟩|⟨g,off,c,vs,rfl,_⟩
  ·exact⟨_,_,_,rfl⟩
  ·exact⟨_,_,_,rfl⟩
 rw[hv]at hsx';refine zkx hd hdn (v:=⟨prV,prX r⟩) (zl _) (N:=fun σ'=>AL Tryz.prog w0 X n ops rest σ' Q) h hs (u:=.agg #[.pointer none,.slice none 0 0,.slice A m c]) ?_ ?_
 ·unfold execOp;simp only[ho];refine zdX ?_;rw[show (#[(1,x)]:Array (Nat×Operand)).map (fun p=>(p.1,a.eval p.2))= #[(1,Value.slice A m c)] from by simp[hv]];exact run_build w _ _ _ (zpX A m c)
 ·exact⟨_,[_,_],rfl,rfl,rfl,_,[_],rfl,rfl,rfl,_,[],rfl,rfl,hsx',[],rfl,rfl⟩
theorem AL.box3 (hX:X.Ok w0) {o:Oper} {rest:List Oper} {t:TypeId} {x:Operand} (ho:o.op= .box t x) (hgd:o.guard=none) {d:Nat} (hd:o.dst=some d) (hdn:Nat.blt d n=true) {A:Ty} {q1 q2:Value} {p:A.T} (hx:evO F x=⟨.hcons .lit (.hcons .lit (.hcons A .unit)),(q1,(q2,(p,())))⟩)
  (hA:A.plainL=true) (hbA:(⟨A,p⟩:V).bound=0) (h:AL Tryz.prog w0 X n ops rest ⟨(d,⟨.hptr,(nx,(0:Nat))⟩)::F,(nx,some (.hbox t [⟨.lit,q1⟩,⟨.lit,q2⟩,⟨A,p⟩]))::E,nx+1⟩ Q):AL Tryz.prog w0 X n ops (o::rest) ⟨F,E,nx⟩ Q:=by
 refine AL.hand hgd (fun c e=>by rw[ho]at e;cases e) fun β a w hs=>?_;have hlt:d < n:=by simpa using hdn
 have h1:=hs.ops x;rw[show evO (AS.mk F E nx).F x=_ from hx]at h1;obtain⟨c1,s1,e1,hc1,r1,h2⟩:=h1;obtain⟨c2,s2,e2,hc2,r2,h3⟩:=h2;obtain⟨c3,s3,e3,hc3,r3,h4⟩:=h3;obtain⟨cs,e4,h4⟩:∃ cs:List Value,(Value.agg s3.toArray)= .agg cs.toArray∧RepC w (OSet X E β) .unit () cs:=(RepD.agg rfl).1 h4;have h4:cs=[]:=h4;subst h4;have e4:s3=[]:=by
  have:=vV e4
  simpa using congrArg vh this
 subst e4;have e3:s2=[c3]:=by
  have:=vV e3
  simpa using congrArg vh this
 subst e3;have e2:s1=[c2,c3]:=by
  have:=vV e2
  simpa using congrArg vh this
 subst e2;refine zbt (u:=.pointer (some ⟨w.heap.size,0,none⟩)) (w':=w.alloc (.cells #[c1,c2,c3] t (0,0))) ?_ ?_
 ·unfold execOp;simp only[ho];refine zdX ?_;rw[e1];simp[Instr.box,newVar,newRow,Value.cells,go_sem]
 ·rw[hd];have hk:Below w.heap.size w (w.alloc (.cells #[c1,c2,c3] t (0,0))):=(Below.refl _ w).alloc (zk _) (.cells #[c1,c2,c3] t (0,0));obtain⟨β',h4⟩:=hs.make hX hk (bv:=.pointer (some ⟨w.heap.size,0,none⟩)) (o:=.hbox t [⟨.lit,q1⟩,⟨.lit,q2⟩,⟨A,p⟩])
   (fun O β' hO=>by
     have hkk:Keeps w (w.alloc (.cells #[c1,c2,c3] t (0,0))) (OSet X E β) O:=.of_below hk fun g hg hg'=>by
      rcases hO g hg' with h5|h5
      ·exact h5
      ·simp[zah]at h5;omega
     exact⟨w.heap.size,[c1,c2,c3],rfl,zl _,World.alloc_heap_new w _,⟨c1,[c2,c3],rfl,hc1,r1,⟨c2,[c3],rfl,hc2,r2,⟨c3,[],rfl,hc3,RepV.plainL hkk hA r3,rfl⟩⟩⟩⟩) (fun g hg=>by cases hg;exact zk _) (v:=⟨.hptr,(nx,(0:Nat))⟩) (u:=.pointer (some ⟨w.heap.size,0,none⟩))
   (fun O β' hb=>⟨w.heap.size,by show zah (β' nx)=_;rw[show β' nx=_ from hb];rfl,rfl⟩) (zk _) hlt (fun vs e v hv=>by
     cases e;rcases zX.1 hv with rfl|hv
     ·exact zl _
     ·rcases zX.1 hv with rfl|hv
      ·exact zl _
      ·rw[zv.1 hv,hbA];exact zl _)
  exact⟨_,β',h4,h⟩
end
end
end Go.Proofs.YtpeaigpfddalcaaGreatDoor
