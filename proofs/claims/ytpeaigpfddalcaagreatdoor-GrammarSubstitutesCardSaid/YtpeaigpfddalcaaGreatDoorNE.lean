/-
  Texts of this claim, joined: what the statement's proof uses.
-/
import Derived.Test.YtpeaigpfddalcaaGreatDoorND
set_option linter.unusedSimpArgs false
set_option linter.unusedVariables false
set_option maxRecDepth 100000
open Array renaming getD_eq_getD_getElem? -> zJ,getElem?_eq_getElem -> yj,getElem?_eq_some_iff -> zo,getElem?_setIfInBounds -> xN,replicate_succ -> vm,replicate_zero -> vp
open Bool renaming and_eq_true -> zf,and_false -> xk,eq_iff_iff -> yq,false_and -> xL,not_eq_false' -> xj,not_eq_true -> uF,not_eq_true' -> zB,or_eq_false_iff -> xu,or_eq_true -> yl,true_and -> jM
open ByteArray renaming data_extract -> jZ,ext -> uX,mk -> vF
open Go renaming Deferred -> jb,TypeId -> zn,Value -> zh,World -> zj,wpIn_mono -> yM
open Go.Ending renaming returned -> uQ
open Go.Extern.BytealgIndexByte renaming indexByte -> k7
open Go.Fence renaming wide -> yA
open Go.Lib renaming decDigits -> yo,indexByte -> xm,itoa -> jO
open Go.Oper renaming semAt_some -> jQ
open Go.Proofs.YtpeaigpfddalcaaGreatDoor renaming CtrOk -> yK
open Go.Proofs.YtpeaigpfddalcaaGreatDoor.AL renaming all -> zT,fit -> xn,guardF -> zS,guardT -> yv,take -> zN
open Go.Proofs.YtpeaigpfddalcaaGreatDoor.AWP renaming draw -> kL,frz -> qZ,go -> za,loop -> yR,ordersA -> jB,ret -> zr,via -> xz,viaQ -> qY
open Go.Proofs.YtpeaigpfddalcaaGreatDoor.AllN renaming cons -> jo,nil -> jN
open Go.Proofs.YtpeaigpfddalcaaGreatDoor.OrdA renaming last -> jG
open Go.Proofs.YtpeaigpfddalcaaGreatDoor.Ownr renaming plain -> qr
open Go.Proofs.YtpeaigpfddalcaaGreatDoor.Sim renaming nilLeaf -> kJ
open Go.Proofs.YtpeaigpfddalcaaGreatDoor.StepA renaming eval -> xg
open Go.Proofs.YtpeaigpfddalcaaGreatDoor.Tr renaming flat -> ve,len_flat -> yW,size -> vE,sub -> xB,textS -> xM
open Go.Region renaming wanted -> zI
open Go.RowKit renaming Below -> yV
open Go.RowKit.Below renaming heap_setCell -> xw,refl -> zV
open Go.StepsIn renaming trans -> kT
open Go.World renaming alloc_heap_new -> xv,putObj_heap_other -> xf,putObj_heap_same -> qx
open Int renaming add_mul_emod_self_left -> vO,emod_eq_of_lt -> qS,emod_lt_of_pos -> k6,le_refl -> xF,natCast_nonneg -> zi,tmod_lt_of_pos -> k5,toNat_natCast -> zD
open List renaming all_eq_true -> zZ,append_assoc -> zp,append_nil -> zL,append_toArray -> vz,cons_append -> qb,drop_eq_getElem_cons -> yr,drop_length -> jd,getD_eq_getElem?_getD -> zy,getElem?_eq_getElem -> zU,getElem?_eq_some_iff -> yI,getElem_mem -> xS,length -> zg,length_append -> zd,length_cons -> zt,length_drop -> yS,length_map -> vu,length_nil -> zX,length_singleton -> zF,length_take -> yB,map_append -> xO,mem_append -> yG,mem_cons -> yd,mem_cons_of_mem -> yy,mem_cons_self -> yf,mem_singleton -> zw,nil_append -> yH,push_toArray -> vY,set_append_right -> jp,size_toArray -> qV,take_append_drop -> x9,take_length -> xd,take_of_length_le -> xx,take_succ_eq_append_getElem -> zO
open Nat renaming le_of_ble_eq_true -> zb,le_refl -> zl,le_trans -> zH,lt_of_lt_of_le -> zK,zero_le -> zk
open UInt8 renaming ofNat -> yh
open Go Go.RowKit
namespace Go.Proofs.YtpeaigpfddalcaaGreatDoor
section
set_option maxRecDepth 10000
set_option maxRecDepth 10000
set_option maxRecDepth 10000
set_option maxRecDepth 10000
theorem ziC {w0:zj} {O:Nat->Prop} (hX:(qr gmH O).Ok w0) {ty:zn}:ginv w0 (qr gmH O).R ty:=⟨Ownr.plain_noR _ _ _,Ownr.plain_noR _ _ _⟩
theorem know3 (k:Int) (h:0≤k∧k≤2):zkE (zl7 k):=by
 have key:∀ k:Fin 3,zkE (zl7 ((k.val:Nat):Int)):=by
  intro k;unfold zkE;revert k;decide+kernel
 have:=key ⟨k.toNat,by omega⟩;rwa[show (((⟨k.toNat,by omega⟩:Fin 3).val:Nat):Int)=k by show ((k.toNat:Nat):Int)=k;omega]at this
def zru (k:Nat):List Cal:=(List.range 3).map fun j=>if j < k then zl7 ((j:Nat):Int) else zCal
theorem bufC {te:zn} {x y:List Cal} (h:x=y):some (OObj.buf te cal x)=some (OObj.buf te cal y):=by rw[h]
theorem ztO:∀ c∈zru 3,zkE c:=fun c hc=>by
 obtain⟨j,hj,rfl⟩:=List.mem_map.1 hc;have hj:=List.mem_range.1 hj;rw[if_pos hj];exact know3 _ ⟨by omega,by omega⟩
def cFmt:Ctr:={ args:=[.slice nd],pre:=fun _=>[],res:=.tup .str (.tup i64 .unit),own:=none,out:=fun x=>((fmtS x.1).1,(fmtS x.1).2,()) }
def kFm:Kn:={ gmK with C:=[(59,zpP),(34,ztQ)] }
theorem zbM:KnOk Tryz.prog gmH kFm:=zaj.with (.cons zq3 <| .cons zsl .nil)
def hFm:List (FuncId×HCtr):=[(60,zkH 65),(61,znt prT [107])]
theorem zr2:HsOk Tryz.prog gmH hFm:=.cons (zrP 65).1 <| .cons zs7 .nil
set_option maxHeartbeats 1000000 in
theorem zhD:yK Tryz.prog gmH 24 cFmt:=by
 refine zaq (K:=kFm) zbM Tryz.func24 rfl rfl Tryz.call24 rfl (by decide) (by intro h;cases h) ?_;rintro w0 X hX ⟨(r:List Nd),_⟩ hp;change AWP _ _ _ _ _ ⟨[(0,⟨.slice nd,r⟩)],[],0⟩ _;refine AWP.len 0 rfl fun hl=>?_;unfold maxLen at hl;have hI:∀ w R,(∀ g,R g->w0.heap.size≤g∨(qr gmH X).R g)->(qr gmH X).G w->bInv prT [107] w R 107:=fun w R hR hw=>⟨zaJ (ty:=107) hX rfl (ziC hX) (ty':=107) w R hR hw,zw.2 rfl⟩;refine za (za ?_);refine zaa hX zbM rfl ?_ ?_
 ·trivial
 refine za (za ?_);refine zaa hX zbM rfl ?_ ?_
 ·exact⟨by decide,by decide,(by decide:(3:Int)≤1000000000)⟩
 refine za (za ?_);refine zaa hX zbM rfl ?_ ?_
 ·trivial
 (repeat(first|apply zae|apply zab|apply zac|apply zad));refine yR (ι:=Nat) (fun k=>⟨[(0,⟨.slice nd,r⟩),(4,⟨.obuf cal,(0:Nat)⟩),(10,⟨i64,(3:Int)⟩),(11,⟨i64,(k:Int)⟩)],[(0,some (.buf 63 cal (zru k)))],1⟩) (fun k=>k≤3) (fun k=>3 - k) 0 (zk _) ⟨⟨rfl,rfl,rfl,rfl,trivial⟩,⟨rfl,trivial⟩,rfl,rfl⟩ ?_;intro k hk;refine za (za ?_);refine zaa hX zbM rfl ?_ ?_
 ·trivial
 apply zae;refine zaf rfl (fun hb=>?_) (fun hb=>?_)
 ·have hb:decide ((k:Int) < 3)=true:=hb;have hb:=of_decide_eq_true hb;have z0:(0:Int)≤(k:Int):=by omega
  have z1:(k:Int)≤2:=by omega
  have z2:(k:Int) < (((zru k).length:Nat):Int):=by show (k:Int) < ((3:Nat):Int);omega
  have z3:((k:Int)).toNat < (zru k).length:=by show _ < 3;omega
  refine za (za ?_);refine zaa hX zbM rfl ?_ ?_
  ·trivial
  refine za (za ?_);refine zaa hX zbM rfl ?_ ?_
  ·repeat'(first|exact trivial|exact z0|exact z1|exact z2|exact z3|(refine⟨?_,?_⟩))
  refine za (za ?_);refine zaa hX zbM rfl ?_ ?_
  ·exact za0 (by omega)
  refine⟨k+1,by omega,by omega,⟨rfl,rfl,rfl,zdT _,trivial⟩,⟨bufC ?_,trivial⟩,rfl,rfl⟩;rcases (show k=0∨k=1∨k=2 by omega) with rfl|rfl|rfl<;>rfl
 have hb:decide ((k:Int) < 3)=false:=hb;have hb:=of_decide_eq_false hb;obtain rfl:k=3:=by omega
 apply zad;refine qZ hX 4 ?_;refine za (za ?_);refine zaa hX zbM rfl ?_ ?_
 ·exact⟨rfl,ztO⟩
 refine za (za ?_);refine zaa hX zbM rfl ?_ ?_
 ·trivial
 refine zaf rfl (fun hb=>?_) (fun hb=>?_)
 ·have hb:(zcT r != 0)=true:=hb;have hb:=bne_iff_ne.1 hb;(repeat(first|apply zae|apply zab|apply zal|apply zad|apply zac|refine zaa hX zbM rfl trivial ?_|refine zaa hX zbM rfl id ?_|refine zaa hX zbM rfl ⟨id,id⟩ ?_));refine zr ⟨.inr rfl,zbd (by decide) rfl rfl trivial ?_⟩;show (([]:List UInt8),zcT r,())=((fmtS r).1,(fmtS r).2,());unfold fmtS;rw[if_neg hb]
 have hb:(zcT r != 0)=false:=hb;have hv:zcT r=0:=by
  have:=bne_eq_false_iff_eq.1 hb;exact this
 have hwf:=zkR hv;have hok:=zsx hwf;have hsz:=znJ hwf;have htx:=znI hwf;have htl:=zgD _ hok;obtain⟨⟨w1,w2⟩,_⟩:=zdw hwf;have hne:=zsy hok (by omega);apply zab;refine zap (σ':=⟨[(0,⟨.slice nd,r⟩)],[],1⟩) ⟨⟨rfl,trivial⟩,trivial,rfl,rfl⟩ ?_;apply zae;refine zai ?_;refine zN 1 hX zbM rfl trivial ?_;refine AL.bldPr rfl rfl rfl rfl rfl ?_;refine AL.box3 hX rfl rfl rfl rfl rfl rfl rfl ?_;refine AL.nilLeaf 1 1 5 u8 rfl rfl rfl ?_;refine zT hX zbM rfl trivial ?_;have p0:(0:Int)≤((r.length:Nat):Int) - 1:=by omega
 have p1:(((r.length:Nat):Int) - 1).toNat < 65:=by omega
 have p2:(((r.length:Nat):Int) - 1).toNat < r.length:=by omega
 have hnf:zc0 65 r (((r.length:Nat):Int) - 1)=(zc8 r).text:=by
  rw[<-htx];have hlow:=zl0 (zdw hwf).2.1;rw[show (((r.length:Nat):Int) - 1)=((r.length - 1:Nat):Int) by omega,zgM hlow _ _ (by omega) (by omega),zgM hlow _ _ (by omega) (by omega),ziK hlow 65 (r.length+1) _ (by omega) (by omega) (by omega)]
 have p3:zg ([]:List UInt8)+zg (zc0 65 r (((r.length:Nat):Int) - 1))+10000≤1000000000:=by
  rw[hnf,zX];omega
 have p4:inR .i64 (((r.length:Nat):Int) - 1):=zam (by omega) (by omega);refine zap (σ':=⟨[(0,⟨.slice nd,r⟩),(7,⟨.hptr,((1:Nat),(0:Nat))⟩)],[(1,some (.hbox 107 [adV 1 false,⟨.obuf u8,(2:Nat)⟩,⟨.slice nd,r⟩])),(2,some (.buf 5 u8 []))],3⟩) ⟨⟨rfl,rfl,trivial⟩,⟨rfl,rfl,trivial⟩,rfl,rfl⟩ ?_;refine xz (σ':=⟨[(7,⟨.hptr,((1:Nat),(0:Nat))⟩)],[(1,some (.hbox 107 [adV 1 true,⟨.obuf u8,(2:Nat)⟩,⟨.slice nd,r⟩])),(2,some (.buf 5 u8 (zc8 r).text))],3⟩) ?_ ?_
 ·refine zai ?_;refine AL.own 4 hX zbM zr2 rfl p4 rfl rfl ⟨wfp_of hwf,p0,p1,p2,p3⟩ hI ?_;refine AL.nil ?_;exact⟨⟨rfl,trivial⟩,⟨rfl,(by show some (OObj.buf _ u8 ([]++zc0 65 r _))=_;rw[yH,hnf]),trivial⟩,rfl,rfl⟩
 have hf:fmtS r=if 4000 < (zc8 r).text.length then ([],2) else ((zc8 r).text,0):=by unfold fmtS;rw[if_pos hv]
 generalize (zc8 r).text=T at hf hne;(repeat(first|apply zae|apply zab|apply zac|apply zad));refine zai ?_;refine zN 2 hX zbM rfl trivial ?_;refine AL.step (eqP0 _ _ rfl) hX zbM rfl trivial ?_;refine AL.own 0 hX zbM zr2 rfl trivial rfl rfl trivial hI ?_;refine zT hX zbM rfl trivial ?_;refine zap (σ':=⟨[(7,⟨.hptr,((1:Nat),(0:Nat))⟩),(41,⟨.bool,decide (((T.length:Nat):Int) > 4000)⟩)],[(1,some (.hbox 107 [adV 1 true,⟨.obuf u8,(2:Nat)⟩,⟨.slice nd,r⟩])),(2,some (.buf 5 u8 T))],3⟩) ⟨⟨rfl,rfl,trivial⟩,⟨rfl,rfl,trivial⟩,rfl,rfl⟩ ?_;refine zaf rfl (fun hb=>?_) (fun hb=>?_)
 ·have hb:=of_decide_eq_true hb;(repeat(first|apply zae|apply zab|apply zal|apply zad|apply zac|refine zaa hX zbM rfl trivial ?_|refine zaa hX zbM rfl id ?_|refine zaa hX zbM rfl ⟨id,id⟩ ?_));refine zr ⟨.inr rfl,zbd (by decide) rfl rfl trivial ?_⟩;show (([]:List UInt8),(2:Int),())=((fmtS r).1,(fmtS r).2,());rw[hf,if_pos (by omega)]
 ·have hb:=of_decide_eq_false hb;apply zab;(repeat(first|apply zae|apply zab|apply zac|apply zad));refine zai ?_;refine zN 2 hX zbM rfl trivial ?_;refine AL.step (eqP0 _ _ rfl) hX zbM rfl trivial ?_;refine AL.give hX (zjN prT rfl [107]) rfl rfl rfl rfl rfl rfl rfl rfl rfl rfl rfl rfl trivial hne hI rfl rfl ?_;show AL _ _ _ _ _ _ _ _;refine zT hX zbM rfl trivial ?_;refine zr ⟨.inr rfl,zbd (by decide) rfl rfl trivial ?_⟩;show (T,(0:Int),())=((fmtS r).1,(fmtS r).2,());rw[hf,if_neg (by omega)]
end
section
attribute [local go_sem] jQ
set_option maxHeartbeats 1000000 in
theorem zh4 (s:ByteArray) (c:Int) (w:zj):
  Calls Tryz.prog 217 #[.string s,.int .u8 c] w fun e w'=>e= .returned (.int .i64 (xm s.data.toList c.toNat.toUInt8))∧w'=w:=by
 go_enter Tryz.func217,Tryz.ntmps217
 go_wp2
 rw[run_callFunc_extern Tryz.func244 (by kernel_rfl) (by kernel_rfl) (by kernel_rfl) (e:=k7) (by kernel_rfl),Lib.run_indexByteString];simp only[Result.andThen];rw[Oper.upon_value]
 go_wp2
 go_ret
 exact⟨rfl,rfl⟩
theorem ztb (l:List UInt8) (c:UInt8):(xm l c= -1∧∀ x∈l,x≠c)∨∃ n:Nat,xm l c=(n:Int)∧n < l.length∧(∀ x∈l.take n,x≠c)∧l.drop n=c::l.drop (n+1):=by
 induction l with
 |nil=>exact .inl ⟨rfl,by simp⟩
 |cons b l ih=>
  unfold xm;by_cases h:b=c
  ·refine .inr ⟨0,by rw[if_pos (by simp[h])];rfl,by simp,by simp,by simp[h]⟩
  ·rw[if_neg (by simp[h])];rcases ih with ⟨h1,h2⟩|⟨n,h1,h2,h3,h4⟩
   ·refine .inl ⟨by rw[h1];rfl,fun x hx=>?_⟩;rcases yd.1 hx with rfl|hx
    ·exact h
    ·exact h2 x hx
   ·refine .inr ⟨n+1,?_,by simp;omega,fun x hx=>?_,by simpa using h4⟩
    ·rw[h1,if_neg (by simp)];omega
    ·rw[List.take_succ_cons]at hx;rcases yd.1 hx with rfl|hx
     ·exact h
     ·exact h3 x hx
def segF:List UInt8->List UInt8->List (List UInt8)
 |c,[]=>[c]
 |c,x::r=>if x=10 then c::segF [] r else segF (c++ [x]) r
def segs (s:List UInt8):List (List UInt8):=segF [] s
set_option maxHeartbeats 1000000 in
theorem zk1 (s:ByteArray) (c:UInt8) (w:zj):
  Calls Tryz.prog 184 #[.string s,.string ⟨#[c]⟩] w fun e w'=>e= .returned (.int .i64 (xm s.data.toList c))∧w'=w:=by
 go_enter Tryz.func184,Tryz.ntmps184
 go_wp2_with (go_at_call 217;refine (zh4 s _ _).mono ?_;rintro e w' ⟨rfl,rfl⟩)
 ·rename_i hs
  go_ret
  rw[ByteArray.toList_eq]at hs;have hs:=eq_of_beq hs;refine⟨?_,rfl⟩;rw[<-hs];show uQ (.int .i64 0)=uQ (.int .i64 (xm [c] c));unfold xm;rw[if_pos (by simp)]
 ·go_ret
  exact⟨rfl,rfl⟩
set_option maxHeartbeats 1000000 in
theorem ziN (s:ByteArray) (c:UInt8) (w:zj):
  Calls Tryz.prog 147 #[.string s,.string ⟨#[c]⟩] w fun e w'=>e= .returned (.int .i64 (xm s.data.toList c))∧w'=w:=by
 go_enter Tryz.func147,Tryz.ntmps147
 go_wp2_with (go_at_call 184;refine (zk1 s c _).mono ?_;rintro e w' ⟨rfl,rfl⟩)
 go_ret
 exact⟨rfl,rfl⟩
def itV (w:zj):zh:=.func (.func 145) #[] #[.pointer (some ⟨w.heap.size+1,0,none⟩),.pointer (some ⟨w.heap.size,0,none⟩),.pointer (some ⟨w.heap.size+1+1,0,none⟩)]
def itW (w:zj) (s p:ByteArray):zj:=((w.alloc (.cells #[.string s] 9)).alloc (.cells #[.string p] 9)).alloc (.cells #[.int .i64 0] 3)
set_option maxHeartbeats 1000000 in
theorem zhZ (s p:ByteArray) (w:zj):Calls Tryz.prog 85 #[.string s,.string p,.int .i64 0] w fun e w'=>e= .returned (itV w)∧w'=itW w s p:=by
 go_enter Tryz.func85,Tryz.ntmps85
 go_wp2
 go_ret
 refine⟨?_,rfl⟩;unfold itV;simp
set_option maxHeartbeats 1000000 in
theorem ziO (s p:ByteArray) (w:zj):Calls Tryz.prog 50 #[.string s,.string p] w fun e w'=>e= .returned (itV w)∧w'=itW w s p:=by
 go_enter Tryz.func50,Tryz.ntmps50
 go_wp2_with (go_at_call 85;refine (zhZ s p _).mono ?_;rintro e w' ⟨rfl,rfl⟩)
 go_ret
 exact⟨rfl,rfl⟩
theorem zjS (p:List UInt8) (hp:∀ x∈p,x≠10) (r:List UInt8):∀ (c:List UInt8),segF c (p++r)=segF (c++p) r:=by
 induction p with
 |nil=>intro c;rw[zL];rfl
 |cons x p ih=>
  intro c;rw[qb];show (if x=10 then _ else _)=_;rw[if_neg (hp x (yf ..)),ih (fun y hy=>hp y (yy _ hy)),zp];rfl
theorem zn2 {l:List UInt8} (h:∀ x∈l,x≠10):segs l=[l]:=by
 have:=zjS l h [] [];rw[zL,yH]at this;exact this
theorem zn1 {l:List UInt8} {n:Nat} (h:∀ x∈l.take n,x≠10) (hd:l.drop n=10::l.drop (n+1)):segs l=l.take n::segs (l.drop (n+1)):=by
 have:=zjS (l.take n) h (l.drop n) [];rw[x9,yH,hd]at this;exact this.trans (if_pos rfl)
theorem zt2 (l:List UInt8) (n:Nat):(vF l.toArray).extract 0 n=⟨(l.take n).toArray⟩:=by
 apply uX;rw[jZ];simp
theorem zt3 (l:List UInt8) (n:Nat):(vF l.toArray).extract n l.length=⟨(l.drop n).toArray⟩:=by
 apply uX;rw[jZ];simp;exact xx (by rw[yS];exact zl _)
def itI (gs gp gv:Nat) (g:Nat):Prop:=g=gs∨g=gp∨g=gv
noncomputable def zrY (gs:Nat) (W:zj):Nat:=match W.cell? ⟨gs,0,none⟩ with |some (.string s)=>s.size|_=>0
set_option maxHeartbeats 2000000 in
theorem zmN (l gs gp gv:Nat) (s:List UInt8) (J:Nat->zj->Prop) (Jr:zj->Prop) (W:zj) (hne:gs≠gp∧gs≠gv) (hlen:s.length≤2000000)
  (hs:W.heap[gs]? =some (.cells #[.string ⟨s.toArray⟩] 9 (0,0))) (hp:W.heap[gp]? =some (.cells #[.string ⟨#[10]⟩] 9 (0,0))) (hv:W.heap[gv]? =some (.cells #[.int .i64 0] 3 (0,0)))
  (hJ:∀ k A C,J k A->Kept (itI gs gp gv) A C->J k C)
  (hY:∀ k y W1,J k W1->(segs s)[k]? =some y->W.heap.size≤W1.heap.size->YieldAt yA 0 Tryz.prog l #[.string ⟨y.toArray⟩] W1 fun e W'=>(e= .returned (.bool true)∧J (k+1) W'∧SameOn (itI gs gp gv) W.heap.size W1 W')∨(e= .returned (.bool false)∧Jr W'))
  (h0:J 0 W):
  CallsIn yA 1 Tryz.prog 145 #[.func (.yield l) #[] #[],.pointer (some ⟨gp,0,none⟩),.pointer (some ⟨gs,0,none⟩),.pointer (some ⟨gv,0,none⟩)] W fun e W'=>(∃ v,e= .returned v)∧(J (segs s).length W'∨Jr W'):=by
 refine callsIn_of_wp Tryz.func145 rfl trivial ?_ rfl;have c1:=(zaV hp).1;have c2:=zaV hs;simp only[Tryz.ntmps145,qV,zt,zX,Nat.reduceAdd,Nat.reduceSub,vm,vp,vY,vz,yH,qb]
 gi_wp2
 gi_loopw [7] (fun p wr=>∃ (pre:List (List UInt8)) (rest:List UInt8),segs s=pre++segs rest∧rest.length≤s.length∧wr.heap[gs]? =some (.cells #[.string ⟨rest.toArray⟩] 9 (0,0))∧wr.heap[gp]? =some (.cells #[.string ⟨#[10]⟩] 9 (0,0))∧wr.heap[gv]? =some (.cells #[.int .i64 0] 3 (0,0))∧J pre.length wr∧W.heap.size≤wr.heap.size)
  (fun p wr=>zrY gs wr)
 case atStart=>exact⟨[],s,rfl,zl _,hs,hp,hv,h0,zl _⟩
 case round=>
  obtain⟨pre,rest,hsg,hrl,hs',hp',hv',hj,hsz⟩:=hrel;have d1:=(zaV hp').1;have d2:=zaV hs';have d3:=(zaV hv').1
  gi_wp2
  refine⟨trivial,(callsIn_wide.2 (ziN _ _ _)).mono ?_⟩;rintro e w' ⟨rfl,rfl⟩;have hix:xm (vF rest.toArray).data.toList 10=xm rest 10:=rfl;rw[hix];rcases ztb rest 10 with ⟨h1,h2⟩|⟨n,h1,h2,h3,h4⟩
  ·rw[h1];have hseg:=zn2 h2;rw[hseg]at hsg;obtain⟨fn,tmps,assign,body,hy,hR⟩:=hY pre.length rest _ hj (by rw[hsg];simp) hsz
   gi_wp2
   refine hR.mono ?_;rintro e W3 (⟨rfl,hJ3,hk3⟩|⟨rfl,hp3⟩)
   ·gi_wp2
    go_end0
    refine⟨⟨_,rfl⟩,.inl ?_⟩;rw[hsg,zd];exact hJ3
   ·gi_wp2
    go_end0
    exact⟨⟨_,rfl⟩,.inr hp3⟩
  ·rw[h1];have hseg:=zn1 h3 h4;rw[hseg]at hsg;have hn0:¬ (n:Int) < 0:=by omega
   have hex:(vF rest.toArray).extract 0 n=⟨(rest.take n).toArray⟩:=zt2 rest n;have hex2:(vF rest.toArray).extract (n+1) rest.length=⟨(rest.drop (n+1)).toArray⟩:=zt3 rest (n+1);have hnl:n < rest.length:=h2;obtain⟨fn,tmps,assign,body,hy,hR⟩:=hY pre.length (rest.take n) _ hj (by rw[hsg];simp) hsz
   gi_wp2
   refine hR.mono ?_;rintro e W3 (⟨rfl,hJ3,hk3⟩|⟨rfl,hp3⟩)
   ·have e1:=(hk3.block gs (.inl rfl)).trans hs';have e2:=(hk3.block gp (.inr (.inl rfl))).trans hp';have e3:=(hk3.block gv (.inr (.inr rfl))).trans hv';have f1:=(zaV e2).1;have f2:=zaV e1
    gi_wp2
    have g1:=zeY (.string ⟨(rest.drop (n+1)).toArray⟩) e1;refine⟨⟨pre++ [rest.take n],rest.drop (n+1),by rw[hsg,zp];rfl,by rw[yS];omega,g1,(xw W3 ⟨gs,0,none⟩ _ gp fun e=>hne.1 e.symm).trans e2,(xw W3 ⟨gs,0,none⟩ _ gv fun e=>hne.2 e.symm).trans e3,?_,?_⟩,?_⟩
    ·rw[zd,zF];exact hJ _ _ _ hJ3 (zdy W3 gs _ (.inl rfl))
    ·exact zH hk3.size (zdy (R:=itI gs gp gv) W3 gs _ (.inl rfl)).size
    ·unfold zrY;rw[(zaV g1).1,d2.1];show (rest.drop (n+1)).toArray.size < rest.toArray.size;simp;omega
   ·gi_wp2
    exact⟨rfl,_,results_none rfl _ _ _,⟨_,rfl⟩,.inr hp3⟩
theorem zgw {P:Program} {f:FuncId} {Q:Exit->Act->zj->Prop} {a:Act} {w:zj} {g:Operand} {ps:Array Tmp} {assign body:Code} {m:Nat}
  (h:∃ (l:Nat) (mark:List jb) (w1:zj) (d:jb) (w1':zj) (gf:FuncId) (args:Array zh) (w2:zj),
    (Instr.enterLoop f a.tmps ps assign body none).run P w= .ok (l,mark) w1∧(resolve a.eval (rangeCall g l) 0).run P w1= .ok d w1'∧(invoke d.target d.args).run P w1'= .ok (.enter gf args) w2∧
    CallsIn yA m P gf args w2 (fun e w3=>(∃ v,e= .returned v)∧∃ jump w4,(Instr.endLoop l).run P w3= .ok jump w4∧(match jump with
     |none=>Q .normal { a with defers:=mark++a.defers } w4
     |some c=>zfL P f c Q { a with defers:=mark++a.defers } w4))):
  zfL P f (.rangeFunc g ps assign body) Q a w:=by
 intro b k cs hb hro;obtain⟨l,mark,w1,d,w1',gf,args,w2,he,hres,hinv,_,hcall⟩:=h;rw[<-hro, <-hb]at he;have henter:=stepR_rangeFunc (P:=P) (b:=b) (a:=a) (k:=k) (cs:=cs) (w:=w) he hres hinv;obtain⟨e,w3,fr,⟨⟨v,rfl⟩,jump,w4,hend,hj⟩,hsteps,hfn,hleave⟩:=hcall (b.atR { a with defers:=mark++a.defers } (.inRangeFunc l::k)::cs) (room_wide _);have sback:StepsIn (Machine.fenced P yA) P (lone (b.atR a (.code (.rangeFunc g ps assign body)::k)) cs w) (lone (b.atR { a with defers:=mark++a.defers } ((jump.map Item.code).toList++k)) cs w4):=by
  refine .head (fenced_wide P _) henter (kT hsteps (.head (fenced_wide P _) ?_ (.one (fenced_wide P _) (stepR_endRangeFunc hend))));rw[<-finish_atR_inRangeFunc l v];exact step_leave_returned hleave
 cases jump with
 |none=>exact⟨.normal,_,w4,hj,sback⟩
 |some c=>
  obtain⟨e',a'',w5,hq,harr⟩:=hj b k cs hb hro;exact⟨e',a'',w5,hq,.of_steps sback harr⟩
def zsh (P:Program) (m:Nat) (gf:Nat) (lb:Array zh) (I:Nat->Prop) (ts:List (List UInt8)) (w:zj):Prop:=
 ∀ (l:Nat) (J:Nat->zj->Prop) (Jr:zj->Prop) (W:zj),yV w.heap.size w W->(∀ k A C,J k A->Kept I A C->J k C)->
  (∀ k y W1,J k W1->ts[k]? =some y->W.heap.size≤W1.heap.size->YieldAt yA (m - 1) P l #[.string ⟨List.toArray y⟩] W1 fun e W'=>(e= .returned (.bool true)∧J (k+1) W'∧SameOn I W.heap.size W1 W')∨(e= .returned (.bool false)∧Jr W'))->
  J 0 W->
  CallsIn yA m P gf (#[.func (.yield l) #[] #[]]++lb) W fun e W'=>(∃ v,e= .returned v)∧(J ts.length W'∨Jr W')
theorem zhT {P:Program} {f:FuncId} {m:Nat} {g:Operand} {p:Tmp} {assign body:Code} {Q:Exit->Act->zj->Prop} {a:Act} {w:zj} {gf:Nat} {lb:Array zh} (hg:a.eval g= .func (.func gf) #[] lb) (eg:∀ args w,(callFunc gf args).run P w= .ok (.enter gf args) w)
  {I:Nat->Prop} {ts:List (List UInt8)} {w0:zj} (hseq:zsh P m gf lb I ts w0) (hb0:yV w0.heap.size w0 w) (hI:∀ k,I k->k < w.heap.size)
  (J:Nat->zj->Prop) (Jr:zj->Prop) (N:Nat->List UInt8->Act->zj->Prop) (hJ:∀ k A C,J k A->Kept (fun g=>I g∨g=w.heap.size∨g=w.heap.size+1) A C->J k C) (hJr:∀ A C,Jr A->Kept (fun g=>I g∨g=w.heap.size∨g=w.heap.size+1) A C->Jr C)
  (hN:∀ k y a' A C,N k y a' A->Kept (fun g=>I g∨g=w.heap.size∨g=w.heap.size+1) A C->N k y a' C) (h0:∀ W1:zj,yV w.heap.size w W1->W1.heap.size=w.heap.size+2->J 0 W1)
  (hassign:∀ (l k:Nat) (y:List UInt8) (W:zj),J k W->ts[k]? =some y->w.heap.size+2≤W.heap.size->assign.wpIn (yA.inRound l) (m - 1) P (fun e a' W'=>e= .normal∧N k y a' W'∧SameOn (fun g=>I g∨g=w.heap.size∨g=w.heap.size+1) (w.heap.size+2) W W') { tmps:=((#[p]:Array Tmp).zip #[(.string ⟨y.toArray⟩:zh)]).foldl (fun t (p,v)=>t.setIfInBounds p v) a.tmps,defers:=[] } W)
  (hbody:∀ (l k:Nat) (y:List UInt8) (W:zj) (a':Act),ts[k]? =some y->w.heap.size+2≤W.heap.size->N k y a' W->
    body.wpIn (yA.inRound l) (m - 1) P (fun e _ W3=>((e= .normal∧J (k+1) W3)∨(e= .ret∧Jr W3))∧SameOn (fun g=>I g∨g=w.heap.size∨g=w.heap.size+1) (w.heap.size+2) W W3) a' W)
  (hdone:∀ W:zj,J ts.length W->W.heap[w.heap.size]? =some (.deferred (some []))->Q .normal { a with defers:={ target:=.collected w.heap.size,args:=#[] }::a.defers } W)
  (hret:∀ (W:zj),Jr W->W.heap[w.heap.size]? =some (.deferred (some []))->Q .ret { a with defers:={ target:=.collected w.heap.size,args:=#[] }::a.defers } W):
  zfL P f (.rangeFunc g #[p] assign body) Q a w:=by
 obtain⟨rec,hrec⟩:∃ rec:LoopState->Option Code->Loop,rec=fun st pe=>{ state:=st,pending:=pe,fn:=f,tmps:=a.tmps,params:=#[p],assign,body,defers:=w.heap.size }:=⟨_,rfl⟩;obtain⟨W1,hW1⟩:∃ W1,(w.alloc (.deferred (some []))).alloc (.loop (rec .ready none))=W1:=⟨_,rfl⟩;have hs1:W1.heap.size=w.heap.size+2:=by rw[<-hW1];simp
 have hL1:W1.heap[w.heap.size+1]? =some (.loop (rec .ready none)):=by
  rw[<-hW1];have:=xv (w.alloc (.deferred (some []))) (.loop (rec .ready none));rwa[World.size_alloc]at this
 have hK1:W1.heap[w.heap.size]? =some (.deferred (some [])):=by
  rw[<-hW1];exact (Below.heap_alloc _ _ _ (by simp)).trans (xv w _)
 have hb1':yV w.heap.size w W1:=by rw[<-hW1];exact ((zV _ w).alloc (zl _) _).alloc (by simp) _
 have hJ1:J 0 W1:=h0 _ hb1' hs1;have hb1:yV w0.heap.size w0 W1:=hb0.trans (hb1'.mono hb0.size);refine zgw (m:=m) ⟨w.heap.size+1,[{ target:=.collected w.heap.size,args:=#[] }],W1,{ target:=.fn (.func gf) lb,args:=#[.func (.yield (w.heap.size+1)) #[] #[]] },W1,gf,
  #[.func (.yield (w.heap.size+1)) #[] #[]]++lb,W1,?_,?_,?_,?_⟩
 ·rw[<-hW1,hrec];exact run_enterLoop_outer _ _ _ _ _
 ·simp only[resolve,hg];simp[go_sem]
 ·simp[invoke,go_sem,eg]
 refine (hseq (w.heap.size+1) (fun k W=>J k W∧W.heap[w.heap.size+1]? =some (.loop (rec .ready none))∧W.heap[w.heap.size]? =some (.deferred (some []))) (fun W=>Jr W∧W.heap[w.heap.size+1]? =some (.loop (rec .done (some .ret)))∧W.heap[w.heap.size]? =some (.deferred (some []))) W1 hb1 ?_ ?_ ⟨hJ1,hL1,hK1⟩).mono ?_
 ·intro k A C hs hb;have hl:=(zo.1 hs.2.1).1;have hd:=(zo.1 hs.2.2).1;exact⟨hJ k _ _ hs.1 (hb.mono fun g h=>.inl h),(hb.block _ hl fun h=>by have:=hI _ h;omega).trans hs.2.1,(hb.block _ hd fun h=>by have:=hI _ h;omega).trans hs.2.2⟩
 ·rintro k y W ⟨hj,hl,hk⟩ hy1 hsz;have hlt:w.heap.size+1 < W.heap.size:=(zo.1 hl).1;have hy:=run_yield (P:=P) (args:=#[.string ⟨y.toArray⟩]) hl (by rw[hrec];rfl);rw[hrec]at hy;refine⟨f,_,assign,body,hy,roundIn_of_wpIn trivial ?_⟩;refine yM (hassign _ k y W hj hy1 (by omega)) ?_;rintro e a2 W2 ⟨rfl,hn2,hk2⟩;have hl2:W2.heap[w.heap.size+1]? =some (.loop (rec .ready none)):=(hk2.block _ (.inr (.inr rfl))).trans hl;have hd2:W2.heap[w.heap.size]? =some (.deferred (some [])):=(hk2.block _ (.inr (.inl rfl))).trans hk;have hlt2:w.heap.size+1 < W2.heap.size:=(zo.1 hl2).1;refine⟨_,run_beginRound hl2 (by rw[hrec]),?_⟩;have hl3:(W2.putObj (w.heap.size+1) (.loop { rec .ready none with state:=.busy })).heap[w.heap.size+1]? =some (.loop { rec .ready none with state:=.busy }):=qx hlt2;have hd3:(W2.putObj (w.heap.size+1) (.loop { rec .ready none with state:=.busy })).heap[w.heap.size]? =some (.deferred (some [])):=(xf (by omega)).trans hd2;have hn3:N k y a2 (W2.putObj (w.heap.size+1) (.loop { rec .ready none with state:=.busy })):=hN k y a2 _ _ hn2 (zcN _ (.inr (.inr rfl)));have hp3:=grownBy_putObj' W2 (w.heap.size+1) (.loop { rec .ready none with state:=.busy });refine yM (hbody _ k y _ a2 hy1 (zH (by omega) hp3.size) hn3) ?_;rintro e a3 W3 ⟨he,hk3⟩;have hl4:W3.heap[w.heap.size+1]? =some (.loop { rec .ready none with state:=.busy }):=(hk3.block _ (.inr (.inr rfl))).trans hl3;have hd4:W3.heap[w.heap.size]? =some (.deferred (some [])):=(hk3.block _ (.inr (.inl rfl))).trans hd3;rcases he with ⟨rfl,hj3⟩|⟨rfl,hr3⟩
  ·have hr:=run_endRound (P:=P) none hl4;refine⟨_,_,hr,.inl ⟨rfl,⟨hJ _ _ _ hj3 (zcN _ (.inr (.inr rfl))),?_,(xf (by omega)).trans hd4⟩,?_⟩⟩
   ·rw[qx (zo.1 hl4).1,hrec];rfl
   ·refine⟨?_,?_,?_,?_,fun j hj=>?_⟩
    ·exact (grownBy_putObj' W3 _ _).os.trans (hk3.os.trans (hp3.os.trans hk2.os))
    ·exact (grownBy_putObj' W3 _ _).tape.trans (hk3.tape.trans (hp3.tape.trans hk2.tape))
    ·exact (grownBy_putObj' W3 _ _).output.trans (hk3.output.trans (hp3.output.trans hk2.output))
    ·exact zH (by rw[hs1];exact hk3.size) (grownBy_putObj' W3 _ _).size
    ·have hjl:=hI j hj;exact (xf (by omega)).trans ((hk3.block j (.inl hj)).trans ((xf (by omega)).trans (hk2.block j (.inl hj))))
  ·have hr:=run_endRound (P:=P) (some .ret) hl4;refine⟨_,_,hr,.inr ⟨rfl,hJr _ _ hr3 (zcN _ (.inr (.inr rfl))),?_,(xf (by omega)).trans hd4⟩⟩;rw[qx (zo.1 hl4).1,hrec];rfl
 ·rintro e W2 ⟨hv,⟨hj,hl,hk⟩|⟨hj,hl,hk⟩⟩
  ·refine⟨hv,none,_,by have:=run_endLoop (P:=P) hl (by rw[hrec];simp);rw[hrec]at this;exact this,hdone _ (hJ _ _ _ hj (zcN _ (.inr (.inr rfl)))) ((xf (by omega)).trans hk)⟩
  ·refine⟨hv,some .ret,_,by have:=run_endLoop (P:=P) hl (by rw[hrec];simp);rw[hrec]at this;exact this,?_⟩;exact zck (m:=0) (wpIn_ret (hret _ (hJr _ _ hj (zcN _ (.inr (.inr rfl)))) ((xf (by omega)).trans hk)))
theorem zk0 (gs gp gv:Nat) (s:List UInt8) (w:zj) (hne:gs≠gp∧gs≠gv) (hlen:s.length≤2000000)
  (hs:w.heap[gs]? =some (.cells #[.string ⟨s.toArray⟩] 9 (0,0))) (hp:w.heap[gp]? =some (.cells #[.string ⟨#[10]⟩] 9 (0,0))) (hv:w.heap[gv]? =some (.cells #[.int .i64 0] 3 (0,0))):
  zsh Tryz.prog 1 145 #[.pointer (some ⟨gp,0,none⟩),.pointer (some ⟨gs,0,none⟩),.pointer (some ⟨gv,0,none⟩)] (itI gs gp gv) (segs s) w:=fun l J Jr W hW hJ hY h0=>
 zmN l gs gp gv s J Jr W hne hlen ((hW.block _ (zo.1 hs).1).trans hs) ((hW.block _ (zo.1 hp).1).trans hp) ((hW.block _ (zo.1 hv).1).trans hv) hJ hY h0
end
section
noncomputable def zkk (s p:List UInt8):Bool:=decide (p.length≤s.length)&&eqb .str (s.take p.length) p
noncomputable def cPre:Ctr:={ args:=[.str,.str],pre:=fun x=>[zg x.1≤2000000,zg x.2.1≤2000000],res:=.bool,own:=none,out:=fun x=>zkk x.1 x.2.1 }
theorem znh:yK Tryz.prog gmH 86 cPre:=by
 refine zaq (K:=gmK) zaj Tryz.func86 rfl rfl Tryz.call86 rfl (by decide) (by intro h;cases h) ?_;rintro w0 X hX ⟨(s:List UInt8),(p:List UInt8),⟨⟩⟩ hp;obtain⟨hs,hpl⟩:s.length≤2000000∧p.length≤2000000:=hp;change AWP _ _ _ _ _ ⟨[(0,⟨.str,s⟩),(1,⟨.str,p⟩)],[],0⟩ _;refine za (za ?_);refine zaa hX zaj rfl ?_ ?_
 ·trivial
 refine za (za ?_);refine zaa hX zaj rfl ?_ ?_
 ·have hd:decide (((p.length:Nat):Int)≤((s.length:Nat):Int))=true->((p.length:Nat):Int)≤((s.length:Nat):Int):=of_decide_eq_true;exact⟨fun h=>h,fun h=>⟨h,h,zi _,hd h⟩,fun h=>⟨h,h⟩,fun h=>h⟩
 refine zr ⟨.inr rfl,zaw rfl trivial rfl rfl ?_⟩;show (bif decide (((p.length:Nat):Int)≤((s.length:Nat):Int)) then eqb .str (List.take (((p.length:Nat):Int)).toNat s) p else false)=(decide (p.length≤s.length)&&eqb .str (s.take p.length) p);rw[zcs,dNat,zD]
noncomputable def kPx:Kn:={ gmK with C:=[(86,cPre)] }
theorem zpd:KnOk Tryz.prog gmH kPx:=zaj.with (.cons znh .nil)
theorem zpl:yK Tryz.prog gmH 51 cPre:=by
 refine zaq (K:=kPx) zpd Tryz.func51 rfl rfl Tryz.call51 rfl (by decide) (by intro h;cases h) ?_;rintro w0 X hX ⟨(s:List UInt8),(p:List UInt8),⟨⟩⟩ hp;obtain⟨hs,hpl⟩:s.length≤2000000∧p.length≤2000000:=hp;change AWP _ _ _ _ _ ⟨[(0,⟨.str,s⟩),(1,⟨.str,p⟩)],[],0⟩ _;refine za (za ?_);refine zaa hX zpd rfl ?_ ?_
 ·trivial
 refine za (za ?_);refine zaa hX zpd rfl ?_ ?_
 ·exact⟨hs,hpl⟩
 exact zr ⟨.inr rfl,zaw rfl trivial rfl rfl rfl⟩
abbrev De:=List UInt8×List Nd×Unit
abbrev zof (j:Nat):OObj:=.hbox 29 [⟨.obuf de,j⟩]
abbrev tD:zn:=29
def libE (l:List UInt8) (fr:Int) (acc:List De):Owns:=[(0,some (.hbox tD [⟨.lit,.slice none 0 0⟩])),(1,some (.box i64 (0:Int))),(2,some (.box i64 (0:Int))),(3,some (zof 6)),(4,some (.box i64 fr)),(5,some (.box .str l)),(6,some (.buf 37 de acc))]
def kLb:Kn:={ gmK with H:=[tD] }
theorem zpe:KnOk Tryz.prog gmH kLb:=⟨zhz,zhy,CsOk.nil,ziB,RsOk.nil⟩
def zgy (l:List UInt8) (k:Int):Except (Int×Int) De:=(gDef l (zbi l,0) k).map fun r=>(r.1,r.2.flat 0,())
theorem znn (l:List UInt8) (k:Int):zlk l (zbi l,0) [] k=toX id (zgy l k):=by
 unfold zlk zgy;cases gDef l (zbi l,0) k<;>rfl
def NLib (l:List UInt8) (fr:Int) (acc:List De) (r:Except (Int×Int) Unit) (σ:AS):Prop:=(∃ d,zgy l ((acc.length:Nat):Int)= .ok d∧r= .ok ()∧Fit σ ⟨[],libE l fr (acc++ [d]),7⟩)∨∃ er,zgy l ((acc.length:Nat):Int)= .error er∧r= .error er∧Fit σ ⟨[],libE l fr acc,7⟩
set_option maxHeartbeats 4000000 in
theorem zqX {w1:zj} {X:Ownr} {l:List UInt8} {fr:Int} {acc:List De} (hl:l.length≤4000) (ha:acc.length≤1000000) (hX:X.Ok w1) (hG:X.G=gmH) (hK:X.K=6) (hρ:X.ρ=none) (hD:X.D=[]) (hinv:∀ ty,ginv w1 X.R ty):
  AWP Tryz.prog w1 X Tryz.f54.ntmps (Tryz.f54.body.getD .skip) ⟨[(0,⟨.hptr,((3:Nat),(0:Nat))⟩),(1,⟨.optr .str,⟨5,.str,.here⟩⟩)],libE l fr acc,7⟩ (fun e σ=>((e= .normal∨e= .ret)∧NLib l fr acc (.ok ()) σ)∨∃ er,e= .panic [{ v:=pvS er,recovered:=false }]∧NLib l fr acc (.error er) σ):=by
 obtain⟨G,O,K,fix,D,ρ,B⟩:=X;obtain rfl:G=gmH:=hG;obtain rfl:K=6:=hK;obtain rfl:ρ=none:=hρ;obtain rfl:D=[]:=hD;have hI:=fun ty=>zaJ (ty:=ty) hX rfl (hinv ty) (ty':=ty);have hl1:l.length≤100000:=by omega
 have hcap:acc.length+1≤1000000000:=by omega
 have hg0:GOk l (zbi l,0):=by
  have:=zgO (s:=l);unfold zh6 at this;rwa[zlJ]at this
 have hok:pOk (l,zbi l,[],0,()):=⟨hg0,hl1⟩;have hfew:few (l,zbi l,[],0,()):=xF 0;have hx:=znn l ((acc.length:Nat):Int);unfold libE;refine jB dM 9 rfl (by kernel_rfl) ?_;cases hr:zgy l ((acc.length:Nat):Int) with
 |ok d=>
  rw[hr]at hx;have hx:zlk l (zbi l,0) [] ((acc.length:Nat):Int)= .ok d:=hx
  repeat'(first
   |exact jN
   |refine jo ⟨_,rfl,?_⟩ ?_
   |refine xg hX zpe rfl trivial ?_
   |refine StepA.fresh hX zeh rfl rfl rfl rfl rfl rfl (by exact trivial) (by exact hl1) (by exact⟨rfl,rfl⟩) rfl rfl ?_
   |refine xg hX zpe rfl hcap ?_
   |refine StepA.conv (kJ 7 6 73 nd rfl rfl rfl) (StepA.giveO hX zfE rfl rfl rfl rfl rfl rfl rfl rfl rfl rfl rfl rfl (by exact trivial) (by exact⟨hok,hfew⟩) (by exact hI 139) rfl rfl (by exact hx) ?_)
   |(refine jG ?_;exact .inl ⟨.inl rfl,.inl ⟨d,hr,rfl,trivial,⟨rfl,rfl,rfl,rfl,rfl,rfl,rfl,trivial⟩,rfl,rfl⟩⟩))
 |error er=>
  rw[hr]at hx;have hx:zlk l (zbi l,0) [] ((acc.length:Nat):Int)= .error (pvS er):=hx
  repeat'(first
   |exact jN
   |refine jo ⟨_,rfl,?_⟩ ?_
   |refine xg hX zpe rfl trivial ?_
   |refine StepA.fresh hX zeh rfl rfl rfl rfl rfl rfl (by exact trivial) (by exact hl1) (by exact⟨rfl,rfl⟩) rfl rfl ?_
   |refine StepA.conv (kJ 7 6 73 nd rfl rfl rfl) (StepA.giveE hX zfE rfl rfl rfl rfl rfl rfl rfl rfl rfl rfl rfl rfl (by exact trivial) (by exact⟨hok,hfew⟩) (by exact hI 139) rfl rfl (by exact hx) ?_)
   |exact .inr ⟨er,rfl,.inr ⟨er,hr,rfl,trivial,⟨rfl,rfl,rfl,rfl,rfl,rfl,rfl,trivial⟩,rfl,rfl⟩⟩)
def zkw:List De->List UInt8->List UInt8×Int
 | [],acc=>if 1048576 < acc.length then ([],2) else (acc,0)
 |d::r,acc=>
  if 32 < d.1.length then ([],2)
  else if zay d.1=0∨zay d.1 < d.1.length then ([],1)
  else if (fmtS d.2.1).2≠0 then ([],(fmtS d.2.1).2)
  else if 4000 < (d.1++ [32,61,32]++(fmtS d.2.1).1).length then ([],2)
  else zkw r (acc++(d.1++ [32,61,32]++(fmtS d.2.1).1++ [10]))
def zbl (l:List De):List UInt8×Int:=if 4096 < l.length then ([],2) else zkw l []
theorem zre (r:List Nd):(fmtS r).1.length≤4000:=by
 unfold fmtS;split
 ·split
  ·exact zk _
  ·show (zc8 r).text.length≤4000;omega
 ·exact zk _
section
variable {w0:zj} {X:Ownr} {n:Nat} {Q:Exit->AS->Prop} {ops:Array Oper} {F:Frame} {E:Owns} {nx:Nat}
theorem AL.newBd (hX:X.Ok w0) {o:Oper} {rest:List Oper} (ho:o.op= .alloc 105) (hgd:o.guard=none) {d:Nat} (hd:o.dst=some d) (hdn:Nat.blt d n=true)
  (h:AL Tryz.prog w0 X n ops rest ⟨(d,⟨.hptr,(nx,(0:Nat))⟩)::F,(nx,some (.hbox 105 [⟨.lit,.pointer none⟩,⟨.lit,.slice none 0 0⟩]))::E,nx+1⟩ Q):AL Tryz.prog w0 X n ops (o::rest) ⟨F,E,nx⟩ Q:=by
 refine AL.hand hgd (fun c e=>by rw[ho]at e;cases e) fun β a w hs=>?_;have hlt:d < n:=by simpa using hdn
 refine zbz (u:=.pointer (some ⟨w.heap.size,0,none⟩)) (w':=w.alloc (.cells #[.pointer none,.slice none 0 0] 105 (0,0))) ?_ ?_
 ·unfold execOp;simp[ho,Instr.alloc,Tryz.zeroValue105,newVar,newRow,Value.cells,go_sem]
 ·rw[hd];obtain⟨β',h1⟩:=hs.make hX ((zV _ w).alloc (zl _) (.cells #[.pointer none,.slice none 0 0] 105 (0,0))) (bv:=.pointer (some ⟨w.heap.size,0,none⟩)) (o:=.hbox 105 [⟨.lit,.pointer none⟩,⟨.lit,.slice none 0 0⟩])
   (fun O β' _=>⟨w.heap.size,[.pointer none,.slice none 0 0],rfl,zk _,xv w _,⟨.pointer none,[.slice none 0 0],rfl,rfl,rfl,⟨.slice none 0 0,[],rfl,rfl,rfl,rfl⟩⟩⟩) (fun g hg=>by cases hg;exact zl _) (v:=⟨.hptr,(nx,(0:Nat))⟩) (u:=.pointer (some ⟨w.heap.size,0,none⟩))
   (fun O β' hb=>⟨w.heap.size,by show zag (β' nx)=_;rw[show β' nx=_ from hb];rfl,rfl⟩) (zl _) hlt (fun vs e v hv=>by
     cases e;rcases yd.1 hv with rfl|hv
     ·exact zk _
     ·rw[zw.1 hv];exact zk _)
  exact⟨_,β',h1,h⟩
end
@[reducible] def cStr0:HCtr:=hBl .unit [105] [] .str (fun _ _=>[]) fun x _=>.ok (x.2.1,x)
theorem znj {R:Nat->Prop} {w w':zj} (h:yV w.heap.size w w'):Kept R w w':=⟨h.os,h.tape,h.output,h.size,fun k hk _=>h.block k hk⟩
theorem zmM:zfK Tryz.prog gmH 62 cStr0 (fun x _=>.ok x.2.1):=by
 refine⟨Tryz.call62,zcq rfl,fun w O g cs ty x xs vs b hO hgb hg hx hbuf hrep hpre hinv hG=>?_⟩;by_cases h0:x.2.1=[]
 ·obtain⟨xb,(xl:List UInt8),⟨⟩⟩:=x;obtain rfl:xl=[]:=h0;have hvs:vs=[]:=hrep;subst hvs;obtain rfl:ty=105:=zw.1 hinv.2;rw[zoP]at hx;obtain⟨u,r,rfl,hu1,hu,hr⟩:=hx;obtain⟨v,r,rfl,hv1,hv,hr⟩:=hr;have hv:v=b:=hv;subst hv;have hr:r=[]:=hr;subst hr;obtain⟨cells,k1,k2,k3⟩:=hbuf;have k1:=zfU k1;subst k1;have fin:∀ {e:Ending} {w':zj},(e= .returned (.string ⟨#[]⟩)∧yV w.heap.size w w')->Kept (fun h=>h=g∨zag v=some h) w w'∧LEnd cStr0 w w' O e (.ok ([]:List UInt8)):=fun {e w'} h=>⟨znj h.2,_,h.1,.inr fun β=>⟨rfl,zk _⟩⟩;rcases k2.2 with ⟨rfl,_⟩|⟨g',cap,cur,rfl,_,hg',hnc,hcm,hcs,htake⟩
  ·refine (Any.Builder_String_nil Tryz.lays169 Tryz.Builder_Extra_169 w.heap.size g u w hg).mono ?_;exact fun e w' h=>fin h
  ·by_cases hc0:cap=0
   ·subst hc0;refine (Any.Builder_String_noroom Tryz.lays169 Tryz.Builder_Extra_169 w.heap.size g g' u cur w (zl _) hg hg').mono ?_;exact fun e w' h=>fin h
   ·refine (Any.Builder_String_room Tryz.lays169 Tryz.Builder_Extra_169 w.heap.size g g' cap u w hc0 hg).mono ?_;exact fun e w' h=>fin h
 ·exact (zjN .unit rfl [105]).2.2 w O g cs ty x xs vs b hO hgb hg hx hbuf hrep h0 hinv hG
def zDe:De:=([],[],())
def cFmtL:Ctr:={ args:=[.slice de],pre:=fun _=>[],res:=.tup .str (.tup i64 .unit),own:=none,out:=fun x=>((zbl x.1).1,(zbl x.1).2,()) }
def kFb:Kn:={ gmK with C:=[(65,zjp),(24,cFmt)] }
theorem za5:KnOk Tryz.prog gmH kFb:=zaj.with (.cons zie.lift <| .cons zhD .nil)
def hFb:List (FuncId×HCtr):=[(66,cWSB),(61,znt .unit [105])]
theorem zr3:HsOk Tryz.prog gmH hFb:=.cons zmG <| .cons zs8 .nil
def bdE (b:Bool) (acc:List UInt8):Owns:=[(0,some (.hbox 105 [adV 0 b,⟨.obuf u8,(1:Nat)⟩])),(1,some (.buf 5 u8 acc))]
set_option maxHeartbeats 1000000 in
theorem zpq:yK Tryz.prog gmH 26 cFmtL:=by
 refine zaq (K:=kFb) za5 Tryz.func26 rfl rfl Tryz.call26 rfl (by decide) (by intro h;cases h) ?_;rintro w0 X hX ⟨(l:List De),_⟩ hp;change AWP _ _ _ _ _ ⟨[(0,⟨.slice de,l⟩)],[],0⟩ _;refine AWP.len 0 rfl fun hl=>?_;unfold maxLen at hl;have hI:∀ w R,(∀ g,R g->w0.heap.size≤g∨(qr gmH X).R g)->(qr gmH X).G w->bInv .unit [105] w R 105:=fun w R hR hw=>⟨zaJ (ty:=105) hX rfl (ziC hX) (ty':=105) w R hR hw,zw.2 rfl⟩;refine za (za ?_);refine zaa hX za5 rfl ?_ ?_
 ·trivial
 refine za (za ?_);refine zaa hX za5 rfl ?_ ?_
 ·trivial
 refine zaf rfl (fun hb=>?_) (fun hb=>?_)
 ·have hb:decide (((l.length:Nat):Int) > 4096)=true:=hb;have hb:=of_decide_eq_true hb;(repeat(first|apply zae|apply zab|apply zal|apply zad|apply zac|refine zaa hX za5 rfl trivial ?_|refine zaa hX za5 rfl id ?_|refine zaa hX za5 rfl ⟨id,id⟩ ?_));refine zr ⟨.inr rfl,zbd (by decide) rfl rfl trivial ?_⟩;show (([]:List UInt8),(2:Int),())=((zbl l).1,(zbl l).2,());unfold zbl;rw[if_pos (by omega)]
 have hb:decide (((l.length:Nat):Int) > 4096)=false:=hb;have hb:=of_decide_eq_false hb;have hS:zbl l=zkw l []:=by unfold zbl;rw[if_neg (by omega)]
 apply zab;apply zae;refine zai ?_;refine AL.newBd hX rfl rfl rfl rfl ?_;refine AL.nilLeaf 0 1 5 u8 rfl rfl rfl ?_;refine AL.nil ?_;refine za (za ?_);refine zaa hX za5 rfl ?_ ?_
 ·trivial
 (repeat(first|apply zae|apply zab|apply zac|apply zad));refine yR (ι:=Nat×List UInt8) (fun p=>⟨[(0,⟨.slice de,l⟩),(4,⟨.hptr,((0:Nat),(0:Nat))⟩),(14,⟨.slice de,l⟩),(15,⟨i64,((l.length:Nat):Int)⟩),(16,⟨i64,(p.1:Int)⟩)],bdE (decide (0 < p.1)) p.2,2⟩) (fun p=>p.1≤l.length∧zbl l=zkw (l.drop p.1) p.2∧p.2.length≤4001 * p.1) (fun p=>l.length - p.1) (0,[]) ⟨zk _,hS,zk _⟩ ⟨⟨rfl,rfl,rfl,rfl,rfl,trivial⟩,⟨rfl,rfl,trivial⟩,rfl,rfl⟩ ?_;rintro ⟨i,acc⟩ ⟨hi,hR,hal⟩;have hi:i≤l.length:=hi;have hR:zbl l=zkw (l.drop i) acc:=hR;have hal:acc.length≤4001 * i:=hal;unfold bdE;refine za (za ?_);refine zaa hX za5 rfl ?_ ?_
 ·trivial
 apply zae;refine zaf rfl (fun hb=>?_) (fun hb=>?_)
 ·have hb2:decide ((i:Int) < (l.length:Nat))=true:=hb;have hb2:=of_decide_eq_true hb2;have hlt:i < l.length:=by omega
  have z0:(0:Int)≤(i:Int):=by omega
  have hgd:l.getD (i:Int).toNat zDe=l[i]:=za6 hlt;rw[yr hlt,zkw, <-hgd]at hR;generalize hbq:decide (0 < i)=b;refine za (za ?_);refine zaa hX za5 rfl ?_ ?_
  ·exact⟨z0,hb2⟩
  generalize hD:l.getD (i:Int).toNat zDe=D at *;obtain⟨(nm:List UInt8),(rl:List Nd),⟨⟩⟩:=D;refine zap (σ':=⟨[(0,⟨.slice de,l⟩),(4,⟨.hptr,((0:Nat),(0:Nat))⟩),(14,⟨.slice de,l⟩),(15,⟨i64,((l.length:Nat):Int)⟩),(16,⟨i64,(i:Int)⟩),(6,⟨.optr de,⟨2,de,.here⟩⟩)],(2,some (.box de (nm,rl,())))::bdE b acc,3⟩) ⟨⟨rfl,rfl,rfl,rfl,rfl,rfl,trivial⟩,⟨zfH hD,rfl,rfl,trivial⟩,rfl,by cases b<;>rfl⟩ ?_;have hR:zbl l=if 32 < nm.length then ([],2) else if zay nm=0∨zay nm < nm.length then ([],1) else if (fmtS rl).2≠0 then ([],(fmtS rl).2) else if 4000 < (nm++ [32,61,32]++(fmtS rl).1).length then ([],2) else zkw (l.drop (i+1)) (acc++(nm++ [32,61,32]++(fmtS rl).1++ [10])):=hR
  unfold bdE;refine za (za ?_);refine zaa hX za5 rfl ?_ ?_
  ·trivial
  refine za (za ?_);refine zaa hX za5 rfl ?_ ?_
  ·trivial
  refine zaf rfl (fun hc=>?_) (fun hc=>?_)
  ·have hc:decide (((nm.length:Nat):Int) > 32)=true:=hc;have hc:=of_decide_eq_true hc;(repeat(first|apply zae|apply zab|apply zal|apply zad|apply zac|refine zaa hX za5 rfl trivial ?_|refine zaa hX za5 rfl id ?_|refine zaa hX za5 rfl ⟨id,id⟩ ?_));refine zr ⟨.inr rfl,zbd (by decide) rfl rfl trivial ?_⟩;show (([]:List UInt8),(2:Int),())=((zbl l).1,(zbl l).2,());rw[hR,if_pos (by omega)]
  have hc:decide (((nm.length:Nat):Int) > 32)=false:=hc;have hc:=of_decide_eq_false hc;refine za (za ?_);refine zaa hX za5 rfl ?_ ?_
  ·repeat'(first|exact trivial|assumption|(refine⟨?_,?_⟩)|(intro _)|exact zb rfl|exact zi _|(simp_all [allP];done))
  have hq:(bif ((zay nm:Nat):Int)==0 then true else decide (((zay nm:Nat):Int) < ((nm.length:Nat):Int)))=decide (zay nm=0∨zay nm < nm.length):=by
   rw[b_or,yq,yl,decide_eq_true_iff,decide_eq_true_iff,beq_iff_eq];omega
  refine zaf rfl (fun hd=>?_) (fun hd=>?_)
  ·have hd:=hq.symm.trans hd;have hd:=of_decide_eq_true hd;(repeat(first|apply zae|apply zab|apply zal|apply zad|apply zac|refine zaa hX za5 rfl trivial ?_|refine zaa hX za5 rfl id ?_|refine zaa hX za5 rfl ⟨id,id⟩ ?_));refine zr ⟨.inr rfl,zbd (by decide) rfl rfl trivial ?_⟩;show (([]:List UInt8),(1:Int),())=((zbl l).1,(zbl l).2,());rw[hR,if_neg (by omega),if_pos hd]
  have hd:=hq.symm.trans hd;have hd:=of_decide_eq_false hd;apply zab;refine za (za ?_);refine zaa hX za5 rfl ?_ ?_
  ·trivial
  refine zap (σ':=⟨[(0,⟨.slice de,l⟩),(4,⟨.hptr,((0:Nat),(0:Nat))⟩),(14,⟨.slice de,l⟩),(15,⟨i64,((l.length:Nat):Int)⟩),(16,⟨i64,(i:Int)⟩),(6,⟨.optr de,⟨2,de,.here⟩⟩),(8,⟨.str,(fmtS rl).1⟩),(9,⟨i64,(fmtS rl).2⟩)],(2,some (.box de (nm,rl,())))::bdE b acc,3⟩) ⟨⟨rfl,rfl,rfl,rfl,rfl,rfl,rfl,rfl,trivial⟩,⟨rfl,rfl,rfl,trivial⟩,rfl,by cases b<;>rfl⟩ ?_;have hfl:=zre rl;generalize (fmtS rl).1=T at *;generalize (fmtS rl).2=ec at *;unfold bdE;refine za (za ?_);refine zaa hX za5 rfl ?_ ?_
  ·trivial
  refine zaf rfl (fun he=>?_) (fun he=>?_)
  ·have he:(ec != 0)=true:=he;have he:=bne_iff_ne.1 he;(repeat(first|apply zae|apply zab|apply zal|apply zad|apply zac|refine zaa hX za5 rfl trivial ?_|refine zaa hX za5 rfl id ?_|refine zaa hX za5 rfl ⟨id,id⟩ ?_));refine zr ⟨.inr rfl,zbd (by decide) rfl rfl trivial ?_⟩;show (([]:List UInt8),ec,())=((zbl l).1,(zbl l).2,());rw[hR,if_neg (by omega),if_neg hd,if_pos he]
  have he:(ec != 0)=false:=he;have he:¬ ec≠0:=fun h=>by rw[bne_iff_ne.2 h]at he;cases he
  apply zab;have t1:nm.length+3≤maxLen:=by unfold maxLen;omega
  have t2:zg (nm++ [32,61,32]:List UInt8)+T.length≤maxLen:=by rw[zd];show nm.length+3+_≤_;unfold maxLen;omega
  have t3:(nm++ [32,61,32]++T:List UInt8).length=nm.length+3+T.length:=by rw[zd,zd];rfl
  refine za (za ?_);refine zaa hX za5 rfl ?_ ?_
  ·exact⟨t1,t2⟩
  refine zap (σ':=⟨[(0,⟨.slice de,l⟩),(4,⟨.hptr,((0:Nat),(0:Nat))⟩),(14,⟨.slice de,l⟩),(15,⟨i64,((l.length:Nat):Int)⟩),(16,⟨i64,(i:Int)⟩),(10,⟨.str,nm++ [32,61,32]++T⟩)],bdE b acc,3⟩) ⟨⟨rfl,rfl,rfl,rfl,rfl,rfl,trivial⟩,⟨rfl,rfl,trivial⟩,rfl,by cases b<;>rfl⟩ ?_;generalize (nm++ [32,61,32]++T:List UInt8)=L at hR t3;unfold bdE;refine za (za ?_);refine zaa hX za5 rfl ?_ ?_
  ·trivial
  refine zaf rfl (fun hf=>?_) (fun hf=>?_)
  ·have hf:decide (((L.length:Nat):Int) > 4000)=true:=hf;have hf:=of_decide_eq_true hf;(repeat(first|apply zae|apply zab|apply zal|apply zad|apply zac|refine zaa hX za5 rfl trivial ?_|refine zaa hX za5 rfl id ?_|refine zaa hX za5 rfl ⟨id,id⟩ ?_));refine zr ⟨.inr rfl,zbd (by decide) rfl rfl trivial ?_⟩;show (([]:List UInt8),(2:Int),())=((zbl l).1,(zbl l).2,());rw[hR,if_neg (by omega),if_neg hd,if_neg he,if_pos (by omega)]
  have hf:decide (((L.length:Nat):Int) > 4000)=false:=hf;have hf:=of_decide_eq_false hf;rw[if_neg (by omega),if_neg hd,if_neg he,if_neg (by omega)]at hR;apply zab;have hl1:(L++ [10]:List UInt8).length=L.length+1:=by rw[zd];rfl
  have t4:L.length+1≤maxLen:=by unfold maxLen;omega
  have t5:acc.length+zg (L++ [10]:List UInt8)≤1000000000:=by omega
  cases b
  all_goals
   (repeat(first|apply zae|apply zab|apply zac|apply zad));refine zai ?_;refine AL.own 2 hX za5 zr3 rfl t4 rfl rfl t5 hI ?_;refine AL.nil ?_;refine zap (σ':=⟨[(0,⟨.slice de,l⟩),(4,⟨.hptr,((0:Nat),(0:Nat))⟩),(14,⟨.slice de,l⟩),(15,⟨i64,((l.length:Nat):Int)⟩),(16,⟨i64,(i:Int)⟩)],[(0,some (.hbox 105 [adV 0 true,⟨.obuf u8,(1:Nat)⟩])),(1,some (.buf 5 u8 (acc++(L++ [10]))))],3⟩) ⟨⟨rfl,rfl,rfl,rfl,rfl,trivial⟩,⟨rfl,rfl,trivial⟩,rfl,rfl⟩ ?_;refine za (za ?_);refine zaa hX za5 rfl ?_ ?_
   ·exact za0 (by omega)
   refine⟨(i+1,acc++(L++ [10])),⟨hlt,hR,?_⟩,by show l.length - (i+1) < l.length - i;omega,⟨rfl,rfl,rfl,rfl,zdT _,trivial⟩,⟨?_,rfl,trivial⟩,rfl,?_⟩
   ·show zg (acc++(L++ [10]):List UInt8)≤4001 * (i+1);rw[zd];omega
   ·rw[show decide (0 < (i+1,acc++(L++ [10])).1)=true from decide_eq_true (Nat.succ_pos _)];rfl
   ·rw[show decide (0 < (i+1,acc++(L++ [10])).1)=true from decide_eq_true (Nat.succ_pos _)];rfl
 ·have hb2:decide ((i:Int) < (l.length:Nat))=false:=hb;have hb2:=of_decide_eq_false hb2;obtain rfl:i=l.length:=by omega
  rw[jd,zkw]at hR;generalize decide (0 < l.length)=b;apply zad;refine zap (σ':=⟨[(4,⟨.hptr,((0:Nat),(0:Nat))⟩)],bdE b acc,2⟩) ⟨⟨rfl,trivial⟩,⟨rfl,rfl,trivial⟩,rfl,by cases b<;>rfl⟩ ?_;unfold bdE;cases b
  all_goals
   (repeat(first|apply zae|apply zab|apply zac|apply zad));refine zai ?_;refine AL.own 0 hX za5 zr3 rfl trivial rfl rfl trivial hI ?_;refine zT hX za5 rfl trivial ?_;refine zaf rfl (fun hc=>?_) (fun hc=>?_)
   ·have hc:decide (((acc.length:Nat):Int) > 1048576)=true:=hc;have hc:=of_decide_eq_true hc;(repeat(first|apply zae|apply zab|apply zal|apply zad|apply zac|refine zaa hX za5 rfl trivial ?_|refine zaa hX za5 rfl id ?_|refine zaa hX za5 rfl ⟨id,id⟩ ?_));refine zr ⟨.inr rfl,zbd (by decide) rfl rfl trivial ?_⟩;show (([]:List UInt8),(2:Int),())=((zbl l).1,(zbl l).2,());rw[hR,if_pos (by omega)]
   ·have hc:decide (((acc.length:Nat):Int) > 1048576)=false:=hc;have hc:=of_decide_eq_false hc;apply zab;(repeat(first|apply zae|apply zab|apply zac|apply zad));refine zai ?_;refine AL.give hX zmM rfl rfl rfl rfl rfl rfl rfl rfl rfl rfl rfl rfl trivial trivial hI rfl rfl ?_;show AL _ _ _ _ _ _ _ _;refine zT hX za5 rfl trivial ?_;refine zr ⟨.inr rfl,zbd (by decide) rfl rfl trivial ?_⟩;show (acc,(0:Int),())=((zbl l).1,(zbl l).2,());rw[hR,if_neg (by omega)]
set_option maxRecDepth 10000
abbrev Na (l:List UInt8):Prop:=∀ c∈l,c≠64
theorem Na.app {a b:List UInt8} (ha:Na a) (hb:Na b):Na (a++b):=fun c hc=>(yG.1 hc).elim (ha c) (hb c)
theorem na_dg {l:List UInt8} (h:∀ c∈l,isDg c=true):Na l:=fun c hc e=>by
 have:=h c hc;rw[e]at this;exact absurd this (by decide)
theorem zrW (n:Int):Na (deI n):=by
 unfold deI jO;by_cases hn:n < 0
 ·rw[if_pos hn];exact Na.app (a:=[45]) (by decide) (na_dg (zer _).1)
 ·rw[if_neg hn];exact na_dg (zer _).1
theorem zoJ:∀ l:List Int,Na (zdE l)
 | []=>fun c hc=>by cases hc
 |x::r=>(Na.app (a:=[32]) (by decide) (zrW x)).app (zoJ r)
theorem na_sep (i:Nat):Na (sepS i):=by unfold sepS;split<;>decide
theorem zrV:∀ (l:List Int) (i:Nat),Na (litS i l)
 | [],_=>fun c hc=>by cases hc
 |x::r,i=>((na_sep i).app (zrW x)).app (zrV r (i+1))
theorem ze3 (l:List Int):Na (zbV l):=(zrV l 0).app (by decide)
theorem zcH {w:List UInt8} (l:List Int) (h:Na w):Na (putS w l):=h.app (zoJ l)
theorem zlW (n:Int):Na (zb5 n):=by unfold zb5;split<;>decide
theorem zsX {n:Nd} (h:ndK n≠18):Na (zcc n):=by
 unfold zcc
 repeat' split
 ·exact zcH _ (by decide)
 ·exact zcH _ (by decide)
 ·exact (zcH _ (by decide)).app (ze3 _)
 ·exact (zcH _ (by decide)).app (ze3 _)
 ·exact (zcH _ (by decide)).app (ze3 _)
 ·exact (zcH _ (by decide)).app (ze3 _)
 ·exact (zcH _ (by decide)).app (zcH _ (zlW _))
 ·decide
theorem na_op (x:Int):Na (opWd x):=by
 unfold opWd;generalize (x - 1).toNat=k
 match k with
 |0=>decide
 |1=>decide
 |2=>decide
 |_+3=>exact fun c hc=>by cases hc
theorem na_pt {w:List UInt8} (h:w.all isPt=true):Na w:=fun c hc e=>by
 have:=zZ.1 h c hc;rw[e]at this;exact absurd this (by decide)
def bdA (l:List UInt8):Bool:=l.head?.all fun d=>d==32||d==41
def hitA (nm r:List UInt8):Bool:=decide (nm.length≤r.length)&&decide (r.take nm.length=nm)&&bdA (r.drop nm.length)
def zcM (nm v:List UInt8):Nat->List UInt8->List UInt8
 |_,[]=>[]
 |k+1,_::r=>zcM nm v k r
 |0,c::r=>if (c==64)&&hitA nm r then parS false v++zcM nm v nm.length r else c::zcM nm v 0 r
theorem zg9 (nm v:List UInt8):∀ (w r:List UInt8),zcM nm v w.length (w++r)=zcM nm v 0 r
 | [],_=>rfl
 |c::w,r=>by
  show zcM nm v (w.length+1) (c::(w++r))=_;rw[zcM];exact zg9 nm v w r
theorem ziX {nm v:List UInt8}:∀ {x r:List UInt8},Na x->zcM nm v 0 (x++r)=x++zcM nm v 0 r
 | [],_,_=>rfl
 |c::x,r,h=>by
  have hc:(c==64)=false:=beq_eq_false_iff_ne.2 (h c (yf ..));show zcM nm v 0 (c::(x++r))=_;rw[zcM,hc,xL,if_neg (by decide),ziX fun d hd=>h d (yy _ hd)];rfl
theorem ztm {nm w r:List UInt8} (hn:nm.all isPt=true) (hw:w.all isPt=true) (hr:bdA r=true):hitA nm (w++r)=decide (w=nm):=by
 have npt:∀ d:UInt8,isPt d=true->(d==32||d==41)=false:=fun d hd=>by
  rw[xu,beq_eq_false_iff_ne,beq_eq_false_iff_ne];exact⟨fun e=>by rw[e]at hd;exact absurd hd (by decide),fun e=>by rw[e]at hd;exact absurd hd (by decide)⟩
 unfold hitA;by_cases he:w=nm
 ·subst he;rw[decide_eq_true rfl,List.take_left,List.drop_left,hr,decide_eq_true rfl,decide_eq_true (by rw[zd];omega)];rfl
 rw[decide_eq_false he];by_cases hl:nm.length < w.length
 ·have hd:(w++r).drop nm.length=w.drop nm.length++r:=List.drop_append_of_le_length (Nat.le_of_lt hl);have hb:bdA ((w++r).drop nm.length)=false:=by
   rw[hd,yr hl];exact npt _ (zZ.1 hw _ (xS hl))
  rw[hb,xk]
 by_cases hg:w.length < nm.length
 ·cases r with
  |nil=>
   rw[zL,decide_eq_false (by omega)];rfl
  |cons d r=>
   have ht:decide ((w++d::r).take nm.length=nm)=false:=decide_eq_false fun e=>by
    have h1:((w++d::r).take nm.length)[w.length]? =some d:=by
     rw[List.getElem?_take,if_pos hg,List.getElem?_append_right (zl _),Nat.sub_self];rfl
    rw[e,zU hg]at h1;have h2:=zZ.1 hn _ (xS hg);rw[Option.some.inj h1]at h2;have h3:(d==32||d==41)=true:=hr;rw[npt d h2]at h3;cases h3
   rw[ht,xk,xL]
 ·have hl:w.length=nm.length:=by omega
  have ht:decide ((w++r).take nm.length=nm)=false:=decide_eq_false fun e=>he (by rw[<-hl,List.take_left]at e;exact e);rw[ht,xk,xL]
theorem zqz {nm v w r:List UInt8} (hn:nm.all isPt=true) (hw:w.all isPt=true) (hr:bdA r=true):zcM nm v 0 (64::(w++r))=(if w=nm then parS false v else 64::w)++zcM nm v 0 r:=by
 rw[zcM,ztm hn hw hr,show ((64:UInt8)==64)=true from rfl,jM];by_cases he:w=nm
 ·subst he;rw[if_pos (by simp),if_pos rfl,zg9]
 ·rw[if_neg (by simpa using he),if_neg he,ziX (na_pt hw)];rfl
def Rp (nm v x y:List UInt8):Prop:=∀ r,bdA r=true->zcM nm v 0 (x++r)=y++zcM nm v 0 r
section
variable {nm v:List UInt8}
theorem Rp.na {x:List UInt8} (h:Na x):Rp nm v x x:=fun _ _=>ziX h
theorem Rp.app {x y x' y':List UInt8} (h:Rp nm v x y) (h':Rp nm v x' y') (hb:∀ r,bdA r=true->bdA (x'++r)=true):Rp nm v (x++x') (y++y'):=fun r hr=>by
 rw[zp,zp,h _ (hb r hr),h' r hr]
theorem Rp.pre {x x' y':List UInt8} (h:Na x) (h':Rp nm v x' y'):Rp nm v (x++x') (x++y'):=fun r hr=>by
 rw[zp,zp,ziX h,h' r hr]
theorem Rp.par {c:Bool} {x y:List UInt8} (h:Rp nm v x y):Rp nm v (parS c x) (parS c y):=by
 unfold parS;split
 ·exact h
 ·exact Rp.pre (by decide) (h.app (Rp.na (by decide)) fun _ _=>rfl)
theorem zrL {x y:List UInt8} {n:Nd} (h:Rp nm v x y):Rp nm v (zbA x n) (zbA y n):=by
 unfold zbA
 repeat' split
 ·exact Rp.na (zcH _ (by decide))
 ·exact Rp.na (zcH _ (by decide))
 ·exact Rp.na (zcH _ (by decide))
 ·exact Rp.na ((zcH _ (by decide)).app (ze3 _))
 ·exact Rp.na ((zcH _ (by decide)).app (ze3 _))
 ·exact Rp.na ((zcH _ (by decide)).app ((zcH _ (zlW _)).app (ze3 _)))
 ·exact Rp.pre (zcH _ (by decide)) (Rp.pre (zcH _ (by decide)) h)
 ·exact Rp.na (by decide)
theorem zsf {x r:List UInt8} {n:Nd} (h:11≤ndK n∧ndK n≤17):bdA (zbA x n++r)=true:=by
 unfold zbA;rcases (show ndK n=11∨ndK n=12∨ndK n=13∨ndK n=14∨ndK n=15∨ndK n=16∨ndK n=17 by omega) with k|k|k|k|k|k|k<;>rw[k]<;>rfl
theorem zfQ (hn:nm.all isPt=true):∀ t:Tr,TrOk t->Rp nm v t.text (xM nm v t)
 | .leaf n,h=>by
  show Rp nm v (zcc n) (xM nm v (.leaf n));rw[xM];by_cases h18:ndK n=18
  ·have hl:zcc n=64::ndS n:=by
    unfold zcc;rw[h18];show ([64]++ndS n)++ []=_;rw[zL];rfl
   have hs:(ndS n).all isPt=true:=by
    have hf:=h.1;simp only[zbc,zf]at hf;have hf:=hf.2.2.1;unfold zh2 at hf;rw[show (ndK n==18)=true from beq_iff_eq.2 h18]at hf;have hf:zdY (ndS n)=true:=hf;simp only[zdY,zf]at hf;exact hf.2.2
   have hh:hitN nm n=decide (ndS n=nm):=by
    unfold hitN;rw[show (ndK n==18)=true from beq_iff_eq.2 h18,jM]
   rw[hl,hh];intro r hr;have:=zqz (v:=v) hn hs hr;show zcM nm v 0 (64::(ndS n++r))=_;rw[this];by_cases he:ndS n=nm
   ·rw[if_pos he,if_pos (decide_eq_true he)]
   ·rw[if_neg he,if_neg (by simpa using he)]
  ·have hh:hitN nm n=false:=by
    unfold hitN;rw[beq_eq_false_iff_ne.2 h18];rfl
   rw[hh,if_neg (by decide)];exact Rp.na (zsX h18)
 | .un n a,h=>(zfQ hn a h.2.2.2).par.app (zrL (Rp.na fun c hc=>by cases hc)) fun _ _=>zsf (by have:=h.2.1;omega)
 | .bin n a b,h=>by
  obtain⟨_,hk,_,ha,hb⟩:=h;unfold Tr.text xM;split
  ·rename_i h17;exact (zfQ hn a ha).par.app (zrL (zfQ hn b hb).par) fun _ _=>zsf (by omega)
  ·exact (zfQ hn a ha).par.app (Rp.pre (zcH _ ((Na.app (a:=[32]) (by decide) (na_op _)).app (by decide))) (zfQ hn b hb).par) fun _ _=>rfl
theorem zoo (hn:nm.all isPt=true) {t:Tr} (h:TrOk t):zcM nm v 0 t.text=xM nm v t:=by
 have:=zfQ (v:=v) hn t h [] rfl;rw[zL]at this;rw[this];show xM nm v t++ []=_;rw[zL]
end
def two (k:Int):Bool:=(k==8)||(k==9)||(k==10)||(k==17)
def zcv (by_:Int) (n:Nd):Nd:=(n.1,n.2.1,(if 8≤n.1∧n.1≤17 then n.2.2.1+by_ else n.2.2.1),(if two n.1 then n.2.2.2.1+by_ else n.2.2.2.1),n.2.2.2.2)
def zd7 (r:List Nd) (by_:Int):List Nd:=r.map (zcv by_)
def zqK (r:List Nd) (n:Nd):List Nd:=r++ [setL n ((r.length:Nat) - 1)]
def zrz (r s:List Nd) (n:Nd):List Nd:=r++zd7 s (r.length:Nat)++ [zbs n ((r.length:Nat) - 1) ((r.length:Nat)+(s.length:Nat) - 1)]
def cMod:Ctr:={ args:=[i64,i64],pre:=fun x=>[0 < x.2.1,x.2.1≤1000000000],res:=i64,own:=none,out:=fun x=>x.1 % x.2.1 }
theorem mod_ok:yK Tryz.prog gmG 40 cMod:=by
 refine zaq (K:=gmK) zaC Tryz.func40 rfl rfl Tryz.call40 rfl (by decide) (by intro h;cases h) ?_;rintro w0 X hX ⟨(a:Int),(b:Int),_⟩ hp;obtain⟨h0,h1⟩:0 < b∧b≤1000000000:=by
  simp only[cMod,allP]at hp
  simpa using hp
 change AWP _ _ _ _ _ ⟨[(0,⟨i64,a⟩),(1,⟨i64,b⟩)],[],0⟩ _;have hn:b≠0:=by omega
 refine za (za ?_);refine zaa hX zaC rfl ?_ ?_
 ·trivial
 refine za (za ?_);refine zaa hX zaC rfl ?_ ?_
 ·exact hn
 refine za (za ?_);refine zaa hX zaC rfl ?_ ?_
 ·trivial
 have hlt:=k5 a h0;have hgt: -b < a.tmod b:=by
  have h2:=Int.natAbs_tmod a b;have h3:a.natAbs % b.natAbs < b.natAbs:=Nat.mod_lt _ (by omega);omega
 have hem:a % b=if a.tmod b < 0 then a.tmod b+b else a.tmod b:=by
  have e1:=Int.emod_nonneg a hn;have e2:=k6 a h0;have e3:a=b * a.tdiv b+a.tmod b:=(Int.mul_tdiv_add_tmod a b).symm;split
  ·rename_i hneg;have:a=(a.tmod b+b)+b * (a.tdiv b - 1):=by rw[Int.mul_sub];omega
   conv=>lhs;rw[this]
   rw[vO];exact qS (by omega) (by omega)
  ·conv=>lhs;rw[e3]
   rw[Int.add_comm,vO];exact qS (by omega) (by omega)
 refine zaf rfl (fun hb=>?_) (fun hb=>?_)
 ·have hb:decide (a.tmod b < 0)=true:=hb;have hb:=of_decide_eq_true hb;have q0:inR .i64 (a.tmod b+b):=zam (by omega) (by omega);refine za (za ?_);refine zaa hX zaC rfl ?_ ?_
  ·exact q0
  (repeat(first|apply zae|apply zab|apply zal|apply zad|apply zac|refine zaa hX zaC rfl trivial ?_|refine zaa hX zaC rfl id ?_|refine zaa hX zaC rfl ⟨id,id⟩ ?_));refine zr ⟨.inr rfl,zaw rfl trivial rfl rfl ?_⟩;show a.tmod b+b=a % b;rw[hem,if_pos hb]
 ·have hb:decide (a.tmod b < 0)=false:=hb;have hb:=of_decide_eq_false hb;apply zab;(repeat(first|apply zae|apply zab|apply zal|apply zad|apply zac|refine zaa hX zaC rfl trivial ?_|refine zaa hX zaC rfl id ?_|refine zaa hX zaC rfl ⟨id,id⟩ ?_));refine zr ⟨.inr rfl,zaw rfl trivial rfl rfl ?_⟩;show a.tmod b=a % b;rw[hem,if_neg hb]
def cTwo:Ctr:={ args:=[i64],pre:=fun _=>[],res:=.bool,own:=none,out:=fun x=>two x.1 }
theorem zrF:yK Tryz.prog gmG 94 cTwo:=by
 refine zaq (K:=gmK) zaC Tryz.func94 rfl rfl Tryz.call94 rfl (by decide) (by intro h;cases h) ?_;rintro w0 X hX ⟨(k:Int),_⟩ hp;change AWP _ _ _ _ _ ⟨[(0,⟨i64,k⟩)],[],0⟩ _;refine za (za ?_);refine zaa hX zaC rfl ?_ ?_
 ·trivial
 refine za (za ?_);refine zaa hX zaC rfl ?_ ?_
 ·repeat'(first|exact trivial|assumption|(refine⟨?_,?_⟩)|(intro _)|exact zb rfl|exact zi _|(simp_all [allP];done))
 refine zr ⟨.inr rfl,zaw rfl trivial rfl rfl ?_⟩;show (bif (bif (bif (k==8) then true else (k==9)) then true else (k==10)) then true else (k==17))=two k;rw[b_or,b_or,b_or];rfl
theorem zmu {n:Nat} (h:10≤n):yo n=yo (n / 10)++ [yh (48+n % 10)]:=by
 conv=>lhs;rw[yo]
 rw[dif_neg (by omega)]
theorem zmv {n:Nat} (h:n < 10):yo n=[yh (48+n)]:=by rw[yo,dif_pos h]
theorem zr7 (n:Nat):yh ((48+((n:Int)).tmod 10) % 256).toNat=yh (48+n % 10):=by
 have:((n:Int)).tmod 10=((n % 10:Nat):Int):=rfl;rw[this]
 congr 1
 omega
theorem vS {x y:List UInt8} (h:x=y):(⟨.str,x⟩:V)=⟨.str,y⟩:=by rw[h]
def ztV:Ctr:={ args:=[i64],pre:=fun x=>[0≤x.1,x.1 < 100000000000000000],res:=.str,own:=none,out:=fun x=>deI x.1 }
theorem zlr:yK Tryz.prog gmG 107 ztV:=by
 refine zaq (K:=gmK) zaC Tryz.func107 rfl rfl Tryz.call107 rfl (by decide) (by intro h;cases h) ?_;rintro w0 X hX ⟨(n:Int),_⟩ hp;obtain⟨h0,h1⟩:0≤n∧n < 100000000000000000:=by
  simp only[ztV,allP]at hp
  simpa using hp
 change AWP _ _ _ _ _ ⟨[(0,⟨i64,n⟩)],[],0⟩ _;refine za (za ?_);refine zaa hX zaC rfl ?_ ?_
 ·trivial
 refine za (za ?_);refine zaa hX zaC rfl ?_ ?_
 ·trivial
 refine zaf rfl (fun hb=>?_) (fun _=>?_)
 ·have hb:decide (n < 0)=true:=hb;have:=of_decide_eq_true hb;omega
 apply zab;have ten:(10:Int)≠0:=by decide
 have tm:∀ x:Int,0≤x->0≤x.tmod 10∧x.tmod 10 < 10:=fun x hx=>⟨Int.tmod_nonneg _ hx,k5 _ (by decide)⟩;have hm:=tm n h0;have i1:inR .i64 (48+n.tmod 10):=zam (by omega) (by omega);refine za (za ?_);refine zaa hX zaC rfl ?_ ?_
 ·exact⟨ten,i1⟩
 have td:∀ x:Nat,((x:Int)).tdiv 10=((x / 10:Nat):Int):=fun x=>(Int.ofNat_tdiv ..);obtain⟨N,rfl⟩:∃ N:Nat,n=(N:Int):=⟨n.toNat,by omega⟩;have hlen:(deI (N:Int)).length≤18:=zes (by omega) h1;have hde:deI (N:Int)=yo N:=by
  unfold deI jO;rw[if_neg (by omega),zD]
 have i2:inR .i64 (((N:Int)).tdiv 10):=by rw[td];exact zam (by omega) (by omega)
 refine za (za ?_);refine zaa hX zaC rfl ?_ ?_
 ·exact⟨ten,i2⟩
 (repeat(first|apply zae|apply zab|apply zac|apply zad));refine yR (ι:=Nat×List UInt8) (fun p=>⟨[(0,⟨i64,(p.1:Int)⟩),(3,⟨.str,p.2⟩)],[],1⟩) (fun p=>p.1≤N / 10∧deI (N:Int)=if p.1=0 then p.2 else yo p.1++p.2) (fun p=>p.1) (N / 10,[yh (48+N % 10)]) ⟨zl _,?_⟩ ⟨⟨vI64 (td N),vS ?_,trivial⟩,trivial,rfl,rfl⟩ ?_
 ·rw[hde];show _=if N / 10=0 then [yh (48+N % 10)] else yo (N / 10)++ [yh (48+N % 10)]
  by_cases h10:N < 10
  ·rw[if_pos (by omega),zmv h10,Nat.mod_eq_of_lt h10]
  ·rw[if_neg (by omega),zmu (by omega)]
 ·show [yh ((48+((N:Int)).tmod 10) % 256).toNat]=_;rw[zr7]
 rintro ⟨m,s⟩ ⟨hm10,hd⟩;have hm10:m≤N / 10:=hm10;have hd:deI (N:Int)=if m=0 then s else yo m++s:=hd
 refine za (za ?_);refine zaa hX zaC rfl ?_ ?_
 ·trivial
 refine zaf rfl (fun hb=>?_) (fun hb=>?_)
 ·have hb:decide ((m:Int) > 0)=true:=hb;have hb:=of_decide_eq_true hb;rw[if_neg (by omega)]at hd;have hsl:s.length≤18:=by rw[hd,zd]at hlen;omega
  have hmm:=tm (m:Int) (by omega);have j1:inR .i64 (48+((m:Int)).tmod 10):=zam (by omega) (by omega);have j2:1+s.length≤maxLen:=by unfold maxLen;omega
  have j3:inR .i64 (((m:Int)).tdiv 10):=by rw[td];exact zam (by omega) (by omega)
  refine za (za ?_);refine zaa hX zaC rfl ?_ ?_
  ·exact⟨ten,j1,j2⟩
  refine za (za ?_);refine zaa hX zaC rfl ?_ ?_
  ·exact⟨ten,j3⟩
  refine⟨(m / 10,[yh (48+m % 10)]++s),⟨by show m / 10≤N / 10;omega,?_⟩,by show m / 10 < m;omega,⟨vI64 (td m),vS ?_,trivial⟩,trivial,rfl,rfl⟩
  ·rw[hd];show _=if m / 10=0 then [yh (48+m % 10)]++s else yo (m / 10)++([yh (48+m % 10)]++s)
   by_cases h10:m < 10
   ·rw[if_pos (by omega),zmv h10,Nat.mod_eq_of_lt h10]
   ·rw[if_neg (by omega),zmu (by omega),zp]
  ·show [yh ((48+((m:Int)).tmod 10) % 256).toNat]++s=_;rw[zr7]
 ·have hb:decide ((m:Int) > 0)=false:=hb;have hb:=of_decide_eq_false hb;rw[if_pos (by omega)]at hd;(repeat(first|apply zae|apply zab|apply zal|apply zad|apply zac|refine zaa hX zaC rfl trivial ?_|refine zaa hX zaC rfl id ?_|refine zaa hX zaC rfl ⟨id,id⟩ ?_));refine zr ⟨.inr rfl,zaw rfl trivial rfl rfl ?_⟩;exact hd.symm
def cDec:Ctr:={ args:=[i64],pre:=fun x=>[zb4 x.1],res:=.str,own:=none,out:=fun x=>deI x.1 }
def kDec:Kn:={ gmK with C:=[(107,ztV)] }
theorem zje:KnOk Tryz.prog gmG kDec:=zaC.with (.cons zlr .nil)
theorem dec_ok:yK Tryz.prog gmG 107 cDec:=by
 refine⟨zlr.1,fun w O xs vs hO hr hp hG=>?_⟩;obtain⟨(n:Int),_⟩:=xs;obtain⟨h0,h1⟩: -100000000000000000 < n∧n < 100000000000000000:=hp;by_cases hn:0≤n
 ·exact zlr.2 w O _ vs hO hr ⟨hn,h1⟩ hG
 ·have key:yK Tryz.prog gmG 107 { cDec with pre:=fun x=>[-100000000000000000 < x.1,x.1 < 0] }:=by
   refine zaq (K:=kDec) zje Tryz.func107 rfl rfl Tryz.call107 rfl (by decide) (by intro h;cases h) ?_;rintro w0 X hX ⟨(n:Int),_⟩ hp;obtain⟨h0,h1⟩: -100000000000000000 < n∧n < 0:=hp;change AWP _ _ _ _ _ ⟨[(0,⟨i64,n⟩)],[],0⟩ _;refine za (za ?_);refine zaa hX zje rfl ?_ ?_
   ·trivial
   refine za (za ?_);refine zaa hX zje rfl ?_ ?_
   ·trivial
   refine zaf rfl (fun _=>?_) (fun hb=>?_)
   ·have i1:inR .i64 (-n):=zam (by omega) (by omega);have i2:0≤ -n:=by omega
    have i3: -n < 100000000000000000:=by omega
    have hl:(deI (-n)).length≤18:=zes (by omega) (by omega);have i4:1+(deI (-n)).length≤maxLen:=by unfold maxLen;omega
    refine za (za ?_);refine zaa hX zje rfl ?_ ?_
    ·exact⟨i1,i2,i3,i4⟩
    refine zr ⟨.inr rfl,zaw rfl trivial rfl rfl ?_⟩;show [45]++deI (-n)=deI n;unfold deI jO;rw[if_neg (by omega),if_pos (by omega),show n.natAbs=(-n).toNat by omega];rfl
   ·have hb:decide (n < 0)=false:=hb;have:=of_decide_eq_false hb;omega
  have hneg:n < 0:=by omega
  exact key.2 w O _ vs hO hr ⟨h0,hneg⟩ hG
theorem bufN {te:zn} {x y:List Nd} (h:x=y):some (OObj.buf te nd x)=some (OObj.buf te nd y):=by rw[h]
def cOver:Ctr:={ args:=[.slice nd,nd],pre:=fun x=>[zg x.1≤1000000],res:=.slice nd,own:=none,out:=fun x=>zqK x.1 x.2.1 }
theorem zsQ:yK Tryz.prog gmG 97 cOver:=by
 refine zaq (K:=gmK) zaC Tryz.func97 rfl rfl Tryz.call97 rfl (by decide) (by intro h;cases h) ?_;rintro w0 X hX ⟨(r:List Nd),(n:Nd),_⟩ hp;have hl:r.length≤1000000:=hp;change AWP _ _ _ _ _ ⟨[(0,⟨.slice nd,r⟩),(1,⟨nd,n⟩)],[],0⟩ _;have i1:inR .i64 (((r.length:Nat):Int) - 1):=zam (by omega) (by omega);have i2:0+r.length≤1000000000:=by omega
 have i3:zg ([]++r)+1≤1000000000:=by rw[yH];omega
 refine za (za ?_);refine zaa hX zaC rfl ?_ ?_
 ·trivial
 refine za (za ?_);refine zaa hX zaC rfl ?_ ?_
 ·exact i1
 refine za (za ?_);refine zaa hX zaC rfl ?_ ?_
 ·exact i2
 refine za (za ?_);refine zaa hX zaC rfl ?_ ?_
 ·exact i3
 refine qZ hX 4 ?_;refine zr ⟨.inr rfl,zaw rfl trivial rfl rfl ?_⟩;rfl
def zsc:Ctr:={ args:=[.slice nd,i64],pre:=fun x=>[zg x.1≤1000000,0≤x.2.1,x.2.1≤1000000,∀ n∈(x.1:List Nd),(-1000000≤ndL n∧ndL n≤1000000)∧(-1000000≤ndR n∧ndR n≤1000000)],res:=.slice nd,own:=none,out:=fun x=>zd7 x.1 x.2.1 }
def kMvd:Kn:={ gmK with C:=[(94,cTwo)] }
theorem zc3:KnOk Tryz.prog gmG kMvd:=zaC.with (.cons zrF .nil)
theorem zqP:yK Tryz.prog gmG 148 zsc:=by
 refine zaq (K:=kMvd) zc3 Tryz.func148 rfl rfl Tryz.call148 rfl (by decide) (by intro h;cases h) ?_;rintro w0 X hX ⟨(r:List Nd),(b:Int),_⟩ hp;obtain⟨hl,b0,b1,hn⟩:r.length≤1000000∧0≤b∧b≤1000000∧∀ n∈r,(-1000000≤ndL n∧ndL n≤1000000)∧(-1000000≤ndR n∧ndR n≤1000000):=hp;change AWP _ _ _ _ _ ⟨[(0,⟨.slice nd,r⟩),(1,⟨i64,b⟩)],[],0⟩ _;have i2:0+r.length≤1000000000:=by omega
 refine za (za ?_);refine zaa hX zc3 rfl ?_ ?_
 ·trivial
 refine za (za ?_);refine zaa hX zc3 rfl ?_ ?_
 ·exact i2
 refine za (za ?_);refine zaa hX zc3 rfl ?_ ?_
 ·trivial
 (repeat(first|apply zae|apply zab|apply zac|apply zad));refine yR (ι:=Nat) (fun i=>⟨[(1,⟨i64,b⟩),(5,⟨.obuf nd,(0:Nat)⟩),(6,⟨i64,(i:Int)⟩)],[(0,some (.buf 73 nd ((r.take i).map (zcv b)++r.drop i)))],1⟩) (fun i=>i≤r.length) (fun i=>r.length - i) 0 (zk _) ⟨⟨rfl,rfl,rfl,trivial⟩,⟨bufN ?_,trivial⟩,rfl,rfl⟩ ?_
 ·rfl
 intro i hi;have hlen:((r.take i).map (zcv b)++r.drop i).length=r.length:=by rw[zd,vu,yB,yS];omega
 refine za (za ?_);refine zaa hX zc3 rfl ?_ ?_
 ·trivial
 refine zaf rfl (fun hb=>?_) (fun hb=>?_)
 ·have hb:decide ((i:Int) < ((((r.take i).map (zcv b)++r.drop i).length:Nat):Int))=true:=hb;have hb:=of_decide_eq_true hb;rw[hlen]at hb;have hlt:i < r.length:=by omega
  have z0:(0:Int)≤(i:Int):=by omega
  have hdr:r.drop i=r[i]::r.drop (i+1):=yr hlt;have hpl:((r.take i).map (zcv b)).length=i:=by rw[vu,yB];omega
  obtain⟨⟨q1,q2⟩,⟨q3,q4⟩⟩:=hn r[i] (xS hlt);rw[hdr]at hlen ⊢;have htk:(r.take (i+1)).map (zcv b)=(r.take i).map (zcv b)++ [zcv b r[i]]:=by rw[zO hlt,xO];rfl
  generalize (r.take i).map (zcv b)=p at *;generalize hdq:r.drop (i+1)=q at *;generalize r[i]=n at *;have z1:(i:Int) < (((p++n::q).length:Nat):Int):=by rw[hlen];omega
  have z2:((i:Int)).toNat < (p++n::q).length:=by rw[hlen];omega
  have hget:(p++n::q).getD ((i:Int)).toNat zNd=n:=by
   have:=zcb (l:=p) (m:=n::q) (z:=zNd) (j:=0);rw[zD,show i=p.length+0 by omega,this];rfl
  have hset:∀ x,(p++n::q).set ((i:Int)).toNat x=p++x::q:=fun x=>by
   rw[zD,jp _ _ (by omega),show i - p.length=0 by omega];rfl
  have i3:inR .i64 (ndL n+b):=zam (by omega) (by omega);have i4:inR .i64 (ndR n+b):=zam (by omega) (by omega);have i3':inR .i64 (ndL ((p++n::q).getD ((i:Int)).toNat zNd)+b):=by rw[hget];exact i3
  refine za (za ?_);refine zaa hX zc3 rfl ?_ ?_
  ·repeat'(first|exact trivial|assumption|exact z0|exact z1|exact z2|(refine⟨?_,?_⟩)|(intro _)|exact zb rfl|exact zi _|(simp_all [allP];done))
  refine qY (σ':=⟨[(1,⟨i64,b⟩),(5,⟨.obuf nd,(0:Nat)⟩),(6,⟨i64,(i:Int)⟩)],[(0,some (.buf 73 nd (p++(if 8≤ndK n∧ndK n≤17 then setL n (ndL n+b) else n)::q)))],1⟩) ?_ ?_
  ·have hq:(bif decide (ndK ((p++n::q).getD ((i:Int)).toNat zNd)≥8) then decide (ndK ((p++n::q).getD ((i:Int)).toNat zNd)≤17) else false)=decide (8≤ndK n∧ndK n≤17):=by
    rw[hget,zc6,yq,zf,decide_eq_true_iff,decide_eq_true_iff,decide_eq_true_iff]
   refine zaf rfl (fun hc=>?_) (fun hc=>?_)
   ·have hc:=of_decide_eq_true (hq.symm.trans hc);refine za (za ?_);refine zaa hX zc3 rfl ?_ ?_
    ·repeat'(first|exact trivial|assumption|exact z0|exact z1|exact z2|exact i3'|(refine⟨?_,?_⟩)|(intro _)|exact zb rfl|exact zi _|(simp_all [allP];done))
    refine⟨⟨rfl,rfl,rfl,trivial⟩,⟨bufN ?_,trivial⟩,rfl,rfl⟩;refine (hset _).trans ?_;rw[if_pos hc];show p++(setL ((p++n::q).getD ((i:Int)).toNat zNd) (ndL ((p++n::q).getD ((i:Int)).toNat zNd)+b))::q=_;rw[hget]
   ·have hc:=of_decide_eq_false (hq.symm.trans hc);apply zab;rw[if_neg hc];exact⟨⟨rfl,rfl,rfl,trivial⟩,⟨rfl,trivial⟩,rfl,rfl⟩
  generalize hn1:(if 8≤ndK n∧ndK n≤17 then setL n (ndL n+b) else n)=n1;have hK:ndK n1=ndK n:=by rw[<-hn1];split<;>rfl
  have hR:ndR n1=ndR n:=by rw[<-hn1];split<;>rfl
  have hlen1:(p++n1::q).length=r.length:=by rw[<-hlen];simp
  have y1:(i:Int) < (((p++n1::q).length:Nat):Int):=by rw[hlen1];omega
  have y2:((i:Int)).toNat < (p++n1::q).length:=by rw[hlen1];omega
  have hget1:(p++n1::q).getD ((i:Int)).toNat zNd=n1:=by
   have:=zcb (l:=p) (m:=n1::q) (z:=zNd) (j:=0);rw[zD,show i=p.length+0 by omega,this];rfl
  have hset1:∀ x,(p++n1::q).set ((i:Int)).toNat x=p++x::q:=fun x=>by
   rw[zD,jp _ _ (by omega),show i - p.length=0 by omega];rfl
  have i4':inR .i64 (ndR ((p++n1::q).getD ((i:Int)).toNat zNd)+b):=by rw[hget1,hR];exact i4
  refine za (za ?_);refine zaa hX zc3 rfl ?_ ?_
  ·repeat'(first|exact trivial|assumption|exact z0|exact y1|exact y2|(refine⟨?_,?_⟩)|(intro _)|exact zb rfl|exact zi _|(simp_all [allP];done))
  have hmv:zcv b n=if two (ndK n)=true then zbs n1 (ndL n1) (ndR n1+b) else n1:=by
   rw[<-hn1];unfold zcv;obtain⟨k,c,L,R,rest⟩:=n;by_cases h8:8≤k∧k≤17
   ·rw[if_pos h8,if_pos (c:=8≤ndK (k,c,L,R,rest)∧ndK (k,c,L,R,rest)≤17) h8];cases ht:two k with
    |true=>rw[if_pos (c:=two (ndK (k,c,L,R,rest))=true) ht];rfl
    |false=>rw[if_neg (c:=two (ndK (k,c,L,R,rest))=true) (by show ¬ two k=true;rw[ht];decide)];rfl
   ·rw[if_neg h8,if_neg (c:=8≤ndK (k,c,L,R,rest)∧ndK (k,c,L,R,rest)≤17) h8];cases ht:two k with
    |true=>rw[if_pos (c:=two (ndK (k,c,L,R,rest))=true) ht];rfl
    |false=>rw[if_neg (c:=two (ndK (k,c,L,R,rest))=true) (by show ¬ two k=true;rw[ht];decide)];rfl
  have hq:two (ndK ((p++n1::q).getD ((i:Int)).toNat zNd))=two (ndK n):=by rw[hget1,hK]
  refine zaf rfl (fun hc=>?_) (fun hc=>?_)
  ·have hc:=hq.symm.trans hc;refine za (za ?_);refine zaa hX zc3 rfl ?_ ?_
   ·repeat'(first|exact trivial|assumption|exact z0|exact y1|exact y2|exact i4'|(refine⟨?_,?_⟩)|(intro _)|exact zb rfl|exact zi _|(simp_all [allP];done))
   refine za (za ?_);refine zaa hX zc3 rfl ?_ ?_
   ·exact za0 (by omega)
   refine⟨i+1,hlt,by omega,⟨rfl,rfl,zdT _,trivial⟩,⟨bufN ?_,trivial⟩,rfl,rfl⟩;refine (hset1 _).trans ?_;rw[htk,hmv,if_pos hc,zp,hdq];show p++(zbs ((p++n1::q).getD ((i:Int)).toNat zNd) (ndL ((p++n1::q).getD ((i:Int)).toNat zNd)) (ndR ((p++n1::q).getD ((i:Int)).toNat zNd)+b))::q=_;rw[hget1];rfl
  ·have hc:=hq.symm.trans hc;apply zab;refine za (za ?_);refine zaa hX zc3 rfl ?_ ?_
   ·exact za0 (by omega)
   refine⟨i+1,hlt,by omega,⟨rfl,rfl,zdT _,trivial⟩,⟨bufN ?_,trivial⟩,rfl,rfl⟩;rw[htk,hmv,if_neg (by rw[hc];decide),zp,hdq];rfl
 ·have hb:decide ((i:Int) < ((((r.take i).map (zcv b)++r.drop i).length:Nat):Int))=false:=hb;have hb:=of_decide_eq_false hb;rw[hlen]at hb;obtain rfl:i=r.length:=by omega
  apply zad;refine qZ hX 5 ?_;refine za (za ?_);refine zaa hX zc3 rfl ?_ ?_
  ·trivial
  refine zr ⟨.inr rfl,zaw rfl trivial rfl rfl ?_⟩;show (r.take r.length).map (zcv b)++r.drop r.length=zd7 r b;rw[xd,jd,zL];rfl
def cBoth:Ctr:={ args:=[.slice nd,.slice nd,nd],pre:=fun x=>[1≤zg x.1,zg x.1≤100000,zg x.2.1≤100000,∀ n∈(x.2.1:List Nd),(-1000000≤ndL n∧ndL n≤1000000)∧(-1000000≤ndR n∧ndR n≤1000000)],res:=.slice nd,own:=none,out:=fun x=>zrz x.1 x.2.1 x.2.2.1 }
def kBth:Kn:={ gmK with C:=[(148,zsc)] }
theorem ze6:KnOk Tryz.prog gmG kBth:=zaC.with (.cons zqP .nil)
theorem ztZ:yK Tryz.prog gmG 95 cBoth:=by
 refine zaq (K:=kBth) ze6 Tryz.func95 rfl rfl Tryz.call95 rfl (by decide) (by intro h;cases h) ?_;rintro w0 X hX ⟨(a:List Nd),(c:List Nd),(n:Nd),_⟩ hp;obtain⟨h1,hl,hl2,hn⟩:1≤a.length∧a.length≤100000∧c.length≤100000∧∀ n∈c,(-1000000≤ndL n∧ndL n≤1000000)∧(-1000000≤ndR n∧ndR n≤1000000):=hp;change AWP _ _ _ _ _ ⟨[(0,⟨.slice nd,a⟩),(1,⟨.slice nd,c⟩),(2,⟨nd,n⟩)],[],0⟩ _;have i1:inR .i64 (((a.length:Nat):Int) - 1):=zam (by omega) (by omega);have i2:inR .i64 (((a.length:Nat):Int)+((c.length:Nat):Int)):=zam (by omega) (by omega);have i3:inR .i64 (((a.length:Nat):Int)+((c.length:Nat):Int) - 1):=zam (by omega) (by omega);have i4:0+a.length≤1000000000:=by omega
 have i5:c.length≤1000000:=by omega
 have i6:(0:Int)≤((a.length:Nat):Int):=by omega
 have i7:((a.length:Nat):Int)≤1000000:=by omega
 have hml:(zd7 c ((a.length:Nat):Int)).length=c.length:=by unfold zd7;rw[vu]
 have i8:zg ([]++a)+(zd7 c ((a.length:Nat):Int)).length≤1000000000:=by rw[yH];omega
 have i9:zg ([]++a++zd7 c ((a.length:Nat):Int))+1≤1000000000:=by rw[yH,zd];omega
 refine za (za ?_);refine zaa hX ze6 rfl ?_ ?_
 ·trivial
 refine za (za ?_);refine zaa hX ze6 rfl ?_ ?_
 ·exact i1
 refine za (za ?_);refine zaa hX ze6 rfl ?_ ?_
 ·exact⟨i2,i3⟩
 refine za (za ?_);refine zaa hX ze6 rfl ?_ ?_
 ·exact i4
 refine za (za ?_);refine zaa hX ze6 rfl ?_ ?_
 ·exact⟨i5,i6,i7,hn,i8⟩
 refine za (za ?_);refine zaa hX ze6 rfl ?_ ?_
 ·exact i9
 refine qZ hX 6 ?_;refine zr ⟨.inr rfl,zaw rfl trivial rfl rfl ?_⟩;rfl
abbrev Mk:=List Int×Int×Int×Int×Unit
def mkD (m:Mk):List Int:=m.1
def mkU (m:Mk):Int:=m.2.1
def mkN (m:Mk):Int:=m.2.2.1
def mkS (m:Mk):Int:=m.2.2.2.1
def mkUp (m:Mk):Mk:=(mkD m,mkU m+1,mkN m,mkS m,())
def zak (m:Mk) (n:Int):Int×Mk:=(if mkU m+1 > (((mkD m).length:Nat):Int) then 0 else (mkD m).getD (mkU m).toNat 0 % n,mkUp m)
def zrx:RCtr:={ self:=mkr,args:=[i64],inv:=fun _ _=>True,pre:=fun m xs=>[0≤mkU m,mkU m≤1000000,0 < xs.1,xs.1≤1000000000],res:=i64,out:=fun m xs=>(zak m xs.1).1,post:=fun m xs=>(zak m xs.1).2 }
def kMd:Kn:={ gmK with C:=[(40,cMod)] }
theorem ziA:KnOk Tryz.prog gmG kMd:=zaC.with (.cons mod_ok .nil)
theorem zk5:zeW Tryz.prog gmG 92 zrx:=by
 refine zdW (K:=kMd) ziA Tryz.func92 rfl rfl Tryz.call92 rfl (by decide) (fun w w' g hg h hk=>trivial) ?_;rintro w0 O g hX hinv ⟨(d:List Int),(u:Int),(nm:Int),(sz:Int),_⟩ ⟨(n:Int),_⟩ hp;obtain⟨h0,h1,h2,h3⟩:0≤u∧u≤1000000∧0 < n∧n≤1000000000:=hp;change AWP _ _ _ _ _ ⟨[(0,⟨.optr mkr,⟨0,mkr,.here⟩⟩),(1,⟨i64,n⟩)],[(0,some (.box mkr (d,u,nm,sz,())))],1⟩ _;have i1:inR .i64 (u+1):=zam (by omega) (by omega);have i2:inR .i64 (u+1 - 1):=zam (by omega) (by omega);have i3:(0:Int)≤u+1 - 1:=by omega
 refine za (za ?_);refine zaa hX ziA rfl ?_ ?_
 ·trivial
 refine za (za ?_);refine zaa hX ziA rfl ?_ ?_
 ·exact i1
 (repeat(first|apply zae|apply zab|apply zac|apply zad));refine kL dM hX ziA 9 (by kernel_rfl) rfl rfl ?_ ?_ ?_
 ·trivial
 ·trivial
 refine zaf rfl (fun hb=>?_) (fun hb=>?_)
 ·have hb:decide (u+1 > ((d.length:Nat):Int))=true:=hb;have hb:=of_decide_eq_true hb;refine za (za ?_);refine zaa hX ziA rfl ?_ ?_
  ·trivial
  refine zr ⟨.inr rfl,rfl,zaw rfl trivial rfl rfl ?_⟩;exact (if_pos (show mkU (d,u,nm,sz,())+1 > (((mkD (d,u,nm,sz,())).length:Nat):Int) from hb)).symm
 ·have hb:decide (u+1 > ((d.length:Nat):Int))=false:=hb;have hb:=of_decide_eq_false hb;apply zab;have i4:u+1 - 1 < ((d.length:Nat):Int):=by omega
  have i5:(u+1 - 1).toNat < d.length:=by omega
  (repeat(first|apply zae|apply zab|apply zac|apply zad));refine kL dM hX ziA 12 (by kernel_rfl) rfl rfl ?_ ?_ ?_
  ·repeat'(first|exact trivial|assumption|exact i2|exact i3|exact i4|exact i5|exact h2|exact h3|(refine⟨?_,?_⟩)|(intro _)|exact zb rfl|exact zi _|(simp_all [allP];done))
  ·repeat'(first|exact trivial|assumption|exact i2|exact i3|exact i4|exact i5|exact h2|exact h3|(refine⟨?_,?_⟩)|(intro _)|exact zb rfl|exact zi _|(simp_all [allP];done))
  refine zr ⟨.inr rfl,rfl,zaw rfl trivial rfl rfl ?_⟩;show d.getD (u+1 - 1).toNat 0 % n=_;refine Eq.trans ?_ (if_neg (show ¬ mkU (d,u,nm,sz,())+1 > (((mkD (d,u,nm,sz,())).length:Nat):Int) from hb)).symm;rw[show u+1 - 1=u by omega];rfl
theorem zaH (m:Mk) {n:Int} (h:0 < n):0≤(zak m n).1∧(zak m n).1 < n:=by
 unfold zak;split
 ·exact⟨xF _,h⟩
 ·exact⟨Int.emod_nonneg _ (by omega),k6 _ h⟩
theorem zaT (m:Mk) (n:Int):mkU (zak m n).2=mkU m+1:=rfl
theorem zs0 (m:Mk) (n:Int):mkN (zak m n).2=mkN m:=rfl
def mRis (lo hi:Int):Nat->Mk->Int->List Int->List Int×Mk
 |0,m,_,acc=>(acc,m)
 |k+1,m,v,acc=>if v≤hi then mRis lo hi k (zak m 3).2 (v+1+(zak m 3).1) (if v≠0∨0≤lo then acc++ [v] else acc) else (acc,m)
def orHi (hi:Int) (p:List Int×Mk):List Int×Mk:=(if p.1.length=0 then [hi] else p.1,p.2)
def zaI (m:Mk) (lo hi:Int):List Int×Mk:=
 let p:=zak m 4
 let q:=zak p.2 (hi - lo+1)
 orHi hi (mRis lo hi (1+p.1).toNat q.2 (lo+q.1) [])
def zlx:RCtr:={ self:=mkr,args:=[i64,i64],inv:=fun _ _=>True,pre:=fun m xs=>[0≤mkU m,mkU m≤900000,-1000≤xs.1,xs.1≤xs.2.1,xs.2.1≤1000],res:=ints,out:=fun m xs=>(zaI m xs.1 xs.2.1).1,post:=fun m xs=>(zaI m xs.1 xs.2.1).2 }
def kRi:Kn:={ gmK with R:=[(92,zrx)] }
theorem zcW:KnOk Tryz.prog gmG kRi:=zaC.withR (.cons zk5 (fun _ _=>trivial) .nil)
theorem zjW:zeW Tryz.prog gmG 96 zlx:=by
 refine zdW (K:=kRi) zcW Tryz.func96 rfl rfl Tryz.call96 rfl (by decide) (fun w w' g hg h hk=>trivial) ?_;rintro w0 O g hX hinv ⟨(d:List Int),(u:Int),(nm:Int),(sz:Int),_⟩ ⟨(lo:Int),(hi:Int),_⟩ hp;obtain⟨h0,h1,h2,h3,h4⟩:0≤u∧u≤900000∧ -1000≤lo∧lo≤hi∧hi≤1000:=hp;obtain⟨m,hm⟩:∃ m:Mk,m=(d,u,nm,sz,()):=⟨_,rfl⟩;rw[<-hm];have h0:0≤mkU m:=by rw[hm];exact h0
 have h1:mkU m≤900000:=by rw[hm];exact h1
 change AWP _ _ _ _ _ ⟨[(0,⟨.optr mkr,⟨0,mkr,.here⟩⟩),(1,⟨i64,lo⟩),(2,⟨i64,hi⟩)],[(0,some (.box mkr m))],1⟩ _;clear hm;have hc:=zaH m (n:=4) (by decide);have hu1:=zaT m 4;obtain⟨c,hc0⟩:∃ k:Nat,(zak m 4).1=(k:Int):=⟨(zak m 4).1.toNat,by omega⟩;have ha1:mkU m≤1000000:=by omega
 have i1:inR .i64 (1+(zak m 4).1):=zam (by omega) (by omega);refine za (za ?_);refine zaa hX zcW rfl ?_ ?_
 ·trivial
 refine za (za ?_);refine zaa hX zcW rfl ?_ ?_
 ·repeat'(first|exact trivial|assumption|exact h0|exact ha1|exact i1|(refine⟨?_,?_⟩)|(intro _)|exact zb rfl|exact zi _|(simp_all [allP];done))
 have hN0:1+(zak m 4).1=((c+1:Nat):Int):=by omega
 have e0:orHi hi (mRis lo hi (c+1) (zak (zak m 4).2 (hi - lo+1)).2 (lo+(zak (zak m 4).2 (hi - lo+1)).1) [])=zaI m lo hi:=by
  unfold zaI;simp only[hN0,zD]
 have hd1:=zaH (zak m 4).2 (n:=hi - lo+1) (by omega);have hu2:=zaT (zak m 4).2 (hi - lo+1);have j1:inR .i64 (hi - lo):=zam (by omega) (by omega);have j2:inR .i64 (hi - lo+1):=zam (by omega) (by omega);have j3:0≤mkU (zak m 4).2:=by omega
 have j4:mkU (zak m 4).2≤1000000:=by omega
 have j5:0 < hi - lo+1:=by omega
 have j6:hi - lo+1≤1000000000:=by omega
 have j7:inR .i64 (lo+(zak (zak m 4).2 (hi - lo+1)).1):=zam (by omega) (by omega);refine za (za ?_);refine zaa hX zcW rfl ?_ ?_
 ·repeat'(first|exact trivial|assumption|exact j1|exact j2|exact j3|exact j4|exact j5|exact j6|exact j7|(refine⟨?_,?_⟩)|(intro _)|exact zb rfl|exact zi _|(simp_all [allP];done))
 have u2:mkU (zak (zak m 4).2 (hi - lo+1)).2=mkU m+2:=by omega
 have v2:lo≤lo+(zak (zak m 4).2 (hi - lo+1)).1∧lo+(zak (zak m 4).2 (hi - lo+1)).1≤hi:=by omega
 refine za (za ?_);refine zaa hX zcW rfl ?_ ?_
 ·trivial
 refine AWP.nilBuf hX 9 3 i64 rfl rfl rfl ?_;refine za (za ?_);refine zaa hX zcW rfl ?_ ?_
 ·trivial
 have hcl:c+1≤4:=by omega
 refine zap (σ':=⟨[(0,⟨.optr mkr,⟨0,mkr,.here⟩⟩),(1,⟨i64,lo⟩),(2,⟨i64,hi⟩),(7,⟨i64,((c+1:Nat):Int)⟩),(8,⟨i64,lo+(zak (zak m 4).2 (hi - lo+1)).1⟩),(9,⟨.obuf i64,(1:Nat)⟩),(10,⟨i64,(0:Int)⟩)],[(0,some (.box mkr (zak (zak m 4).2 (hi - lo+1)).2)),(1,some (.buf 3 i64 []))],2⟩) ⟨⟨rfl,rfl,rfl,vI64 hN0,rfl,rfl,rfl,trivial⟩,⟨rfl,rfl,trivial⟩,rfl,rfl⟩ ?_;obtain⟨R,hRR⟩:∃ R,R=zaI m lo hi:=⟨_,rfl⟩;rw[<-hRR]at e0;generalize (zak (zak m 4).2 (hi - lo+1)).2=m2 at *;generalize lo+(zak (zak m 4).2 (hi - lo+1)).1=v at *;clear hc hu1 hc0 ha1 i1 hN0 hd1 hu2 j1 j2 j3 j4 j5 j6 j7;apply zac;refine yR (ι:=Nat×Mk×Int×List Int) (fun x=>⟨[(0,⟨.optr mkr,⟨0,mkr,.here⟩⟩),(1,⟨i64,lo⟩),(2,⟨i64,hi⟩),(7,⟨i64,((c+1:Nat):Int)⟩),(8,⟨i64,x.2.2.1⟩),(9,⟨.obuf i64,(1:Nat)⟩),(10,⟨i64,(((c+1) - x.1:Nat):Int)⟩)],[(0,some (.box mkr x.2.1)),(1,some (.buf 3 i64 x.2.2.2))],2⟩) (fun x=>orHi hi (mRis lo hi x.1 x.2.1 x.2.2.1 x.2.2.2)=R∧x.1≤c+1∧mkU x.2.1=mkU m+2+((c+1 - x.1:Nat):Int)∧(lo≤x.2.2.1∧x.2.2.1≤hi+3)∧x.2.2.2.length≤4 - x.1) (fun x=>x.1) (c+1,m2,v,[]) ⟨e0,zl _,?_,⟨v2.1,?_⟩,zk _⟩ ⟨⟨rfl,rfl,rfl,rfl,rfl,rfl,vI64 ?_,trivial⟩,⟨rfl,rfl,trivial⟩,rfl,rfl⟩ ?_
 ·show mkU m2=mkU m+2+((c+1 - (c+1):Nat):Int);omega
 ·show v≤hi+3;omega
 ·show (0:Int)=((c+1 - (c+1):Nat):Int);omega
 rintro ⟨k,mk,w,acc⟩ ⟨hR,hk,hu,⟨hw1,hw2⟩,hacc⟩;have hR:orHi hi (mRis lo hi k mk w acc)=R:=hR;have hk:k≤c+1:=hk;have hu:mkU mk=mkU m+2+((c+1 - k:Nat):Int):=hu;have hw1:lo≤w:=hw1;have hw2:w≤hi+3:=hw2;have hacc:acc.length≤4 - k:=hacc;clear e0 u2 v2;change AWP _ _ _ _ _ ⟨[(0,⟨.optr mkr,⟨0,mkr,.here⟩⟩),(1,⟨i64,lo⟩),(2,⟨i64,hi⟩),(7,⟨i64,((c+1:Nat):Int)⟩),(8,⟨i64,w⟩),(9,⟨.obuf i64,(1:Nat)⟩),(10,⟨i64,(((c+1) - k:Nat):Int)⟩)],[(0,some (.box mkr mk)),(1,some (.buf 3 i64 acc))],2⟩ _;have hq:(bif decide ((((c+1) - k:Nat):Int) < ((c+1:Nat):Int)) then decide (w≤hi) else false)=decide (0 < k∧w≤hi):=by
  rw[zc6,yq,zf,decide_eq_true_iff,decide_eq_true_iff,decide_eq_true_iff];omega
 refine za (za ?_);refine zaa hX zcW rfl ?_ ?_
 ·repeat'(first|exact trivial|assumption|(refine⟨?_,?_⟩)|(intro _)|exact zb rfl|exact zi _|(simp_all [allP];done))
 refine zaf rfl (fun hb=>?_) (fun hb=>?_)
 ·have hb:=of_decide_eq_true (hq.symm.trans hb);obtain⟨hk0,hwh⟩:=hb;obtain⟨k,rfl⟩:∃ j,k=j+1:=⟨k - 1,by omega⟩;have hR2:orHi hi (mRis lo hi k (zak mk 3).2 (w+1+(zak mk 3).1) (if w≠0∨0≤lo then acc++ [w] else acc))=R:=by
   rw[<-hR]
   conv=>rhs;rw[mRis,if_pos hwh]
  have hp3:=zaH mk (n:=3) (by decide);have hu3:=zaT mk 3;have q1:0≤mkU mk:=by omega
  have q2:mkU mk≤1000000:=by omega
  have q3:inR .i64 (w+1):=zam (by omega) (by omega);have q4:inR .i64 (w+1+(zak mk 3).1):=zam (by omega) (by omega);have q5:inR .i64 ((((c+1) - (k+1):Nat):Int)+1):=zam (by omega) (by omega);have q6:acc.length+1≤1000000000:=by omega
  have hend:((((c+1) - (k+1):Nat):Int)+1)=(((c+1) - k:Nat):Int):=by omega
  have hq2:(bif (!(w==0)) then true else decide (lo≥0))=decide (w≠0∨0≤lo):=by
   rw[b_or,yq,yl,decide_eq_true_iff,decide_eq_true_iff,zB,beq_eq_false_iff_ne]
  refine za (za ?_);refine zaa hX zcW rfl ?_ ?_
  ·repeat'(first|exact trivial|assumption|(refine⟨?_,?_⟩)|(intro _)|exact zb rfl|exact zi _|(simp_all [allP];done))
  refine zaf rfl (fun hc=>?_) (fun hc=>?_)
  ·have hc:=of_decide_eq_true (hq2.symm.trans hc);rw[if_pos hc]at hR2;refine za (za ?_);refine zaa hX zcW rfl ?_ ?_
   ·exact q6
   refine za (za ?_);refine zaa hX zcW rfl ?_ ?_
   ·repeat'(first|exact trivial|assumption|exact q1|exact q2|exact q3|exact q4|(refine⟨?_,?_⟩)|(intro _)|exact zb rfl|exact zi _|(simp_all [allP];done))
   refine za (za ?_);refine zaa hX zcW rfl ?_ ?_
   ·exact q5
   refine⟨(k,(zak mk 3).2,w+1+(zak mk 3).1,acc++ [w]),⟨hR2,by show k≤c+1;omega,?_,⟨?_,?_⟩,?_⟩,by show k < k+1;omega,⟨rfl,rfl,rfl,rfl,rfl,rfl,vI64 hend,trivial⟩,⟨rfl,rfl,trivial⟩,rfl,rfl⟩
   ·show mkU (zak mk 3).2=mkU m+2+((c+1 - k:Nat):Int);omega
   ·show lo≤w+1+(zak mk 3).1;omega
   ·show w+1+(zak mk 3).1≤hi+3;omega
   ·show (acc++ [w]).length≤4 - k;rw[zd,zF];omega
  ·have hc:=of_decide_eq_false (hq2.symm.trans hc);rw[if_neg hc]at hR2;apply zab;refine za (za ?_);refine zaa hX zcW rfl ?_ ?_
   ·repeat'(first|exact trivial|assumption|exact q1|exact q2|exact q3|exact q4|(refine⟨?_,?_⟩)|(intro _)|exact zb rfl|exact zi _|(simp_all [allP];done))
   refine za (za ?_);refine zaa hX zcW rfl ?_ ?_
   ·exact q5
   refine⟨(k,(zak mk 3).2,w+1+(zak mk 3).1,acc),⟨hR2,by show k≤c+1;omega,?_,⟨?_,?_⟩,?_⟩,by show k < k+1;omega,⟨rfl,rfl,rfl,rfl,rfl,rfl,vI64 hend,trivial⟩,⟨rfl,rfl,trivial⟩,rfl,rfl⟩
   ·show mkU (zak mk 3).2=mkU m+2+((c+1 - k:Nat):Int);omega
   ·show lo≤w+1+(zak mk 3).1;omega
   ·show w+1+(zak mk 3).1≤hi+3;omega
   ·show acc.length≤4 - k;omega
 ·have hb:=of_decide_eq_false (hq.symm.trans hb);have hR3:(mRis lo hi k mk w acc)=(acc,mk):=by
   cases k with
   |zero=>rfl
   |succ k=>rw[mRis,if_neg (by omega)]
  rw[hR3]at hR;apply zad;have q6:acc.length+1≤1000000000:=by omega
  have hq3:(((acc.length:Nat):Int)==0)=decide (acc.length=0):=by
   rw[yq,beq_iff_eq,decide_eq_true_iff];omega
  refine za (za ?_);refine zaa hX zcW rfl ?_ ?_
  ·trivial
  refine zaf rfl (fun hc=>?_) (fun hc=>?_)
  ·have hc:=of_decide_eq_true (hq3.symm.trans hc);refine za (za ?_);refine zaa hX zcW rfl ?_ ?_
   ·exact q6
   refine qZ hX 9 ?_;refine za (za ?_);refine zaa hX zcW rfl ?_ ?_
   ·trivial
   refine zr ⟨.inr rfl,?_,zaw rfl trivial rfl rfl ?_⟩
   ·show some (OObj.box mkr mk)=some (OObj.box mkr (zaI m lo hi).2);rw[<-hRR, <-hR];rfl
   ·show acc++ [hi]=(zaI m lo hi).1;rw[<-hRR, <-hR];unfold orHi;rw[if_pos hc,List.length_eq_zero_iff.1 hc];rfl
  ·have hc:=of_decide_eq_false (hq3.symm.trans hc);apply zab;refine qZ hX 9 ?_;refine za (za ?_);refine zaa hX zcW rfl ?_ ?_
   ·trivial
   refine zr ⟨.inr rfl,?_,zaw rfl trivial rfl rfl ?_⟩
   ·show some (OObj.box mkr mk)=some (OObj.box mkr (zaI m lo hi).2);rw[<-hRR, <-hR];rfl
   ·show acc=(zaI m lo hi).1;rw[<-hRR, <-hR];unfold orHi;rw[if_neg hc]
section
variable {P:Program} {w0:zj} {X:Ownr} {n:Nat} {σ:AS} {Q:Exit->AS->Prop} {ops:Array Oper}
theorem AL.guardU (j s:Nat) (b:Bool) (t:Ty) (y:t.T) {z:Bool} {o:Oper} {rest:List Oper} (hg:o.guard=some (j,b)) (hd:(ops[j]?).bind (·.dst)=some s) (hs:Frame.get σ.F s=⟨.cond .bool,(false,z)⟩) (hsn:Nat.blt s n=true) {d:Nat} (hdst:o.dst=some d) (hdn:Nat.blt d n=true) (h:AL P w0 X n ops rest ⟨(d,⟨.cond t,(false,y)⟩)::σ.F,σ.E,σ.nx⟩ Q) (hb:bnd t y=0:=by rfl):AL P w0 X n ops (o::rest) σ Q:=by
 intro β a w hsim;have hv:a.tmps.getD s undef=undef:=by
  have h2:=hsim.fr s;rw[hs]at h2;exact h2.2 rfl
 have hsz:s < a.tmps.size:=by rw[hsim.sz];simpa using hsn
 have hy:yielded ops a.tmps j=none:=by
  unfold yielded;rw[hd];have:a.tmps[s]? =some undef:=by
   rw[zJ,yj hsz]at hv;rw[yj hsz];exact congrArg some hv
  show (match (a.tmps[s]?) with
   |some (.bool b)=>some b
   |_=>none)=none
  rw[this];rfl
 have hw:¬ zI o (yielded ops a.tmps)=true:=by simp[zI,hg,hy]
 show if zI o (yielded ops a.tmps)=true then _ else _
 rw[if_neg hw];refine⟨fun f _=>zew _ f,?_⟩;rw[hdst];exact h _ _ _ (hsim.put (zV _ _) (v:=⟨.cond t,(false,y)⟩) ⟨fun h=>(by cases h),fun _=>rfl⟩ (by rw[show V.bound ⟨.cond t,(false,y)⟩=bnd t y from rfl,hb];exact zk _) (by simpa using hdn))
end
def zc1 (k:Int) (m:Mk):Bool×Mk:=if k=8 then (mkN m==0,m) else if k=6 then ((zak m 2).1==0,(zak m 2).2) else (false,m)
def zeb (k:Int) (m:Mk) (ids:Int):Int×Mk:=if k≠1∧k≠5 then zak m ids else (0,m)
def zgq (k c:Int) (m:Mk):Nd×Mk:=
 if k=1 then let p:=zak m 12;let q:=zak p.2 20;((1,c,0,0,1+p.1,q.1,[],[],()),q.2)
 else if k=2 then let p:=zak m 4;let q:=zak p.2 (1+p.1);((2,c,0,0,1+p.1,q.1,[],[],()),q.2)
 else if k=3 then let p:=zaI m 1 4;((3,c,0,0,0,0,p.1,[],()),p.2)
 else if k=4 then let p:=zaI m (-4) 7;((4,c,0,0,0,0,p.1,[],()),p.2)
 else if k=5 then let p:=zaI m 0 6;((5,c,0,0,0,0,p.1,[],()),p.2)
 else if k=6 then let p:=zaI m 1 4;((6,c,0,0,0,0,p.1,[],()),p.2)
 else let p:=zak m 3;let q:=zak p.2 2;let r:=zak q.2 7;let s:=zak r.2 2;((k,c,s.1,0,(if q.1=1 then -(1+p.1) else 1+p.1),r.1,[],[],()),s.2)
def lfK (k:Int) (b:Bool):Int:=bif b then 1 else k
def ziw (k:Int) (m:Mk) (ids:Int):Nd×Mk:=
 let q:=zc1 k m
 if k=8∧mkN q.2 > 0 then let r:=zak q.2 (mkN q.2);((18,0,0,0,0,0,[],[110]++deI r.1,()),r.2)
 else zgq (lfK k q.1) (zeb (lfK k q.1) q.2 ids).1 (zeb (lfK k q.1) q.2 ids).2
def zdc (m:Mk) (ids:Int):Nd×Mk:=ziw (1+(zak m 8).1) (zak m 8).2 ids
def zse:RCtr:={ self:=mkr,args:=[i64],inv:=fun _ _=>True,pre:=fun m xs=>[0≤mkU m,mkU m≤800000,0≤mkN m,mkN m≤1000000,0 < xs.1,xs.1≤1000000],res:=nd,out:=fun m xs=>(zdc m xs.1).1,post:=fun m xs=>(zdc m xs.1).2 }
def kMl:Kn:={ gmK with C:=[(107,cDec)],R:=[(92,zrx),(96,zlx)] }
theorem zaA:KnOk Tryz.prog gmG kMl:={ zaC.with (.cons dec_ok .nil) with r:=.cons zk5 (fun _ _=>trivial) (.cons zjW (fun _ _=>trivial) .nil) }
abbrev sLf (m:Mk) (ids k:Int) (n:Nd):AS:=⟨[(0,⟨.optr mkr,⟨0,mkr,.here⟩⟩),(1,⟨i64,ids⟩),(4,⟨.optr nd,⟨1,nd,.here⟩⟩),(5,⟨i64,k⟩),(6,⟨.optr nd,⟨2,nd,.here⟩⟩)],[(0,some (.box mkr m)),(1,some (.box nd zNd)),(2,some (.box nd n))],3⟩
theorem zqQ:zeW Tryz.prog gmG 93 zse:=by
 refine zdW (K:=kMl) zaA Tryz.func93 rfl rfl Tryz.call93 rfl (by decide) (fun w w' g hg h hk=>trivial) ?_;rintro w0 O g hX hinv (m:Mk) ⟨(ids:Int),_⟩ hp;obtain⟨h0,h1,h2,h3,h4,h5⟩:0≤mkU m∧mkU m≤800000∧0≤mkN m∧mkN m≤1000000∧0 < ids∧ids≤1000000:=hp;change AWP _ _ _ _ _ ⟨[(0,⟨.optr mkr,⟨0,mkr,.here⟩⟩),(1,⟨i64,ids⟩)],[(0,some (.box mkr m))],1⟩ _;have a1:mkU m≤1000000:=by omega
 have hk:=zaH m (n:=8) (by decide);have hu1:=zaT m 8;have hn1:=zs0 m 8;have a2:inR .i64 (1+(zak m 8).1):=zam (by omega) (by omega);refine za (za ?_);refine zaa hX zaA rfl ?_ ?_
 ·trivial
 refine za (za ?_);refine zaa hX zaA rfl ?_ ?_
 ·repeat'(first|exact trivial|assumption|exact h0|exact a1|exact a2|(refine⟨?_,?_⟩)|(intro _)|exact zb rfl|exact zi _|(simp_all [allP];done))
 refine za (za ?_);refine zaa hX zaA rfl ?_ ?_
 ·trivial
 obtain⟨R,hRR⟩:∃ R,R=zdc m ids:=⟨_,rfl⟩;have hR:R=ziw (1+(zak m 8).1) (zak m 8).2 ids:=hRR;refine zap (σ':=sLf (zak m 8).2 ids (1+(zak m 8).1) (1+(zak m 8).1,0,0,0,0,0,[],[],())) ⟨⟨rfl,rfl,rfl,rfl,rfl,trivial⟩,⟨rfl,rfl,rfl,trivial⟩,rfl,rfl⟩ ?_;generalize hk1:1+(zak m 8).1=k at *;have hkr:1≤k∧k≤8:=by omega
 generalize (zak m 8).2=m1 at *;have b1:0≤mkU m1:=by omega
 have b2:mkU m1≤1000000:=by omega
 clear hk hk1 a1 a2;apply zae;refine qY (σ':=sLf (zc1 k m1).2 ids k (lfK k (zc1 k m1).1,0,0,0,0,0,[],[],())) ?_ ?_
 ·apply zae;refine zai ?_;refine zN 3 hX zaA rfl trivial ?_;by_cases h8:k=8
  ·subst h8;have e:zc1 8 m1=(mkN m1==0,m1):=rfl;rw[e];refine yv 2 14 true rfl rfl rfl rfl ?_;refine zN 1 hX zaA rfl trivial ?_;refine yv 2 14 true rfl rfl rfl rfl ?_;refine zN 1 hX zaA rfl trivial ?_;refine yv 2 14 true rfl rfl rfl rfl ?_;refine zN 1 hX zaA rfl trivial ?_;refine yv 2 14 true rfl rfl rfl rfl ?_;refine zN 1 hX zaA rfl trivial ?_;refine yv 2 14 true rfl rfl rfl rfl ?_;refine zN 3 hX zaA rfl trivial ?_;by_cases hN:(mkN m1==0)=true
   ·rw[hN];refine zS 9 21 false i64 0 rfl rfl (zbo hN) rfl rfl rfl ?_;refine zS 9 21 false .bool false rfl rfl (zbo hN) rfl rfl rfl ?_;refine zS 9 21 false .bool false rfl rfl (zbo hN) rfl rfl rfl ?_;refine AL.guardU 12 24 true i64 0 rfl rfl rfl rfl rfl rfl ?_;refine AL.guardU 12 24 true i64 0 rfl rfl rfl rfl rfl rfl ?_;refine AL.guardU 12 24 true .bool false rfl rfl rfl rfl rfl rfl ?_;refine zS 9 21 false .bool false rfl rfl (zbo hN) rfl rfl rfl ?_;refine zT hX zaA rfl (fun hc=>absurd (show (!(mkN m1==0))=true from hc) (by rw[hN];decide)) ?_;refine zaf rfl (fun _=>?_) (fun hb=>?_)
    ·refine za (za ?_);refine zaa hX zaA rfl ?_ ?_
     ·trivial
     exact⟨⟨rfl,rfl,rfl,rfl,rfl,trivial⟩,⟨rfl,rfl,rfl,trivial⟩,rfl,rfl⟩
    ·have hb:(bif (mkN m1==0) then true else false)=false:=hb;rw[hN]at hb;cases hb
   ·have hN:(mkN m1==0)=false:=by simpa using hN
    rw[hN];refine xn (σ':=⟨(21,⟨.bool,false⟩)::(sLf m1 ids 8 (8,0,0,0,0,0,[],[],())).F,(sLf m1 ids 8 (8,0,0,0,0,0,[],[],())).E,3⟩) ⟨⟨zbo hN,rfl,rfl,rfl,rfl,rfl,trivial⟩,⟨rfl,rfl,rfl,trivial⟩,rfl,rfl⟩ ?_;refine yv 9 21 false rfl rfl rfl rfl ?_;refine zN 1 hX zaA rfl trivial ?_;refine yv 9 21 false rfl rfl rfl rfl ?_;refine zN 1 hX zaA rfl trivial ?_;refine yv 9 21 false rfl rfl rfl rfl ?_;refine zN 1 hX zaA rfl trivial ?_;refine zS 12 24 true i64 0 rfl rfl rfl rfl rfl rfl ?_;refine zS 12 24 true i64 0 rfl rfl rfl rfl rfl rfl ?_;refine zS 12 24 true .bool false rfl rfl rfl rfl rfl rfl ?_;refine yv 9 21 false rfl rfl rfl rfl ?_;refine zT hX zaA rfl (by repeat'(first|exact trivial|assumption|(refine⟨?_,?_⟩)|(intro _)|exact zb rfl|exact zi _|(simp_all [allP];done))) ?_;refine zaf rfl (fun hb=>?_) (fun _=>?_)
    ·have hb:false=true:=hb;cases hb
    apply zab;exact⟨⟨rfl,rfl,rfl,rfl,rfl,trivial⟩,⟨rfl,rfl,rfl,trivial⟩,rfl,rfl⟩
  ·have h8b:(k==8)=false:=beq_false_of_ne h8;refine xn (σ':=⟨(14,⟨.bool,false⟩)::(sLf m1 ids k (k,0,0,0,0,0,[],[],())).F,(sLf m1 ids k (k,0,0,0,0,0,[],[],())).E,3⟩) ⟨⟨zbo h8b,rfl,rfl,rfl,rfl,rfl,trivial⟩,⟨rfl,rfl,rfl,trivial⟩,rfl,rfl⟩ ?_;refine zS 2 14 true i64 0 rfl rfl rfl rfl rfl rfl ?_;refine zS 2 14 true i64 0 rfl rfl rfl rfl rfl rfl ?_;refine zS 2 14 true i64 0 rfl rfl rfl rfl rfl rfl ?_;refine zS 2 14 true i64 0 rfl rfl rfl rfl rfl rfl ?_;refine zS 2 14 true .bool false rfl rfl rfl rfl rfl rfl ?_;refine zN 2 hX zaA rfl (by repeat'(first|exact trivial|assumption|(refine⟨?_,?_⟩)|(intro _)|exact zb rfl|exact zi _|(simp_all [allP];done))) ?_;refine xn (σ':=⟨(21,⟨.bool,false⟩)::(sLf m1 ids k (k,0,0,0,0,0,[],[],())).F,(sLf m1 ids k (k,0,0,0,0,0,[],[],())).E,3⟩) ⟨⟨rfl,rfl,rfl,rfl,rfl,rfl,trivial⟩,⟨rfl,rfl,rfl,trivial⟩,rfl,rfl⟩ ?_;refine yv 9 21 false rfl rfl rfl rfl ?_;refine zN 1 hX zaA rfl trivial ?_;refine yv 9 21 false rfl rfl rfl rfl ?_;refine zN 1 hX zaA rfl trivial ?_;refine yv 9 21 false rfl rfl rfl rfl ?_;refine zN 1 hX zaA rfl trivial ?_;by_cases h6:k=6
   ·subst h6;have e:zc1 6 m1=((zak m1 2).1==0,(zak m1 2).2):=rfl;rw[e];refine yv 12 24 true rfl rfl rfl rfl ?_;refine zN 1 hX zaA rfl trivial ?_;refine yv 12 24 true rfl rfl rfl rfl ?_;refine zN 1 hX zaA rfl (by repeat'(first|exact trivial|assumption|exact b1|exact b2|(refine⟨?_,?_⟩)|(intro _)|exact zb rfl|exact zi _|(simp_all [allP];done))) ?_;refine yv 12 24 true rfl rfl rfl rfl ?_;refine zN 1 hX zaA rfl trivial ?_;refine yv 9 21 false rfl rfl rfl rfl ?_;refine zT hX zaA rfl (by repeat'(first|exact trivial|assumption|(refine⟨?_,?_⟩)|(intro _)|exact zb rfl|exact zi _|(simp_all [allP];done))) ?_;refine zaf rfl (fun hb=>?_) (fun hb=>?_)
    ·have hb:((zak m1 2).1==0)=true:=hb;rw[hb];refine za (za ?_);refine zaa hX zaA rfl ?_ ?_
     ·trivial
     exact⟨⟨rfl,rfl,rfl,rfl,rfl,trivial⟩,⟨rfl,rfl,rfl,trivial⟩,rfl,rfl⟩
    ·have hb:((zak m1 2).1==0)=false:=hb;rw[hb];apply zab;exact⟨⟨rfl,rfl,rfl,rfl,rfl,trivial⟩,⟨rfl,rfl,rfl,trivial⟩,rfl,rfl⟩
   ·have h6b:(k==6)=false:=beq_false_of_ne h6;have e:zc1 k m1=(false,m1):=by unfold zc1;rw[if_neg h8,if_neg h6]
    rw[e];refine xn (σ':=⟨(21,⟨.bool,false⟩)::(24,⟨.bool,false⟩)::(sLf m1 ids k (k,0,0,0,0,0,[],[],())).F,(sLf m1 ids k (k,0,0,0,0,0,[],[],())).E,3⟩) ⟨⟨rfl,zbo h6b,rfl,rfl,rfl,rfl,rfl,trivial⟩,⟨rfl,rfl,rfl,trivial⟩,rfl,rfl⟩ ?_;refine zS 12 24 true i64 0 rfl rfl rfl rfl rfl rfl ?_;refine zS 12 24 true i64 0 rfl rfl rfl rfl rfl rfl ?_;refine zS 12 24 true .bool false rfl rfl rfl rfl rfl rfl ?_;refine yv 9 21 false rfl rfl rfl rfl ?_;refine zT hX zaA rfl (by repeat'(first|exact trivial|assumption|(refine⟨?_,?_⟩)|(intro _)|exact zb rfl|exact zi _|(simp_all [allP];done))) ?_;refine zaf rfl (fun hb=>?_) (fun _=>?_)
    ·have hb:false=true:=hb;cases hb
    apply zab;exact⟨⟨rfl,rfl,rfl,rfl,rfl,trivial⟩,⟨rfl,rfl,rfl,trivial⟩,rfl,rfl⟩
 have hm2:mkN (zc1 k m1).2=mkN m∧0≤mkU (zc1 k m1).2∧mkU (zc1 k m1).2≤mkU m+2:=by
  unfold zc1;split
  ·exact⟨hn1,b1,by show mkU m1≤_;omega⟩
  ·split
   ·exact⟨hn1,by show 0≤mkU (zak m1 2).2;rw[zaT];omega,by show mkU (zak m1 2).2≤_;rw[zaT];omega⟩
   ·exact⟨hn1,b1,by show mkU m1≤_;omega⟩
 have hk8:k=8->(zc1 k m1).1=(mkN m==0):=fun h=>by
  rw[h];show (mkN m1==0)=(mkN m==0);rw[hn1]
 unfold ziw at hR;generalize zc1 k m1=q at *;obtain⟨b,m2⟩:=q;obtain⟨n2,u2,u3⟩:mkN m2=mkN m∧0≤mkU m2∧mkU m2≤mkU m+2:=hm2;have hk8:k=8->b=(mkN m==0):=hk8;have hR:R=if k=8∧mkN m2 > 0 then ((18,0,0,0,0,0,[],[110]++deI (zak m2 (mkN m2)).1,()),(zak m2 (mkN m2)).2) else zgq (lfK k b) (zeb (lfK k b) m2 ids).1 (zeb (lfK k b) m2 ids).2:=hR
 show AWP _ _ _ _ _ (sLf m2 ids k (lfK k b,0,0,0,0,0,[],[],())) _;have g1:mkU m2≤1000000:=by omega
 have g2:mkN m2≤1000000000:=by omega
 have hq:(bif (k==8) then decide (mkN m2 > 0) else false)=decide (k=8∧mkN m2 > 0):=by
  rw[zc6,yq,zf,decide_eq_true_iff,decide_eq_true_iff,beq_iff_eq]
 refine za (za ?_);refine zaa hX zaA rfl ?_ ?_
 ·repeat'(first|exact trivial|assumption|(refine⟨?_,?_⟩)|(intro _)|exact zb rfl|exact zi _|(simp_all [allP];done))
 refine zaf rfl (fun hc=>?_) (fun hc=>?_)
 ·have hc:=of_decide_eq_true (hq.symm.trans hc);rw[if_pos hc]at hR;have hp2:=zaH m2 (n:=mkN m2) (by omega);have g3:0 < mkN m2:=hc.2;have g4: -100000000000000000 < (zak m2 (mkN m2)).1:=by omega
  have g5:(zak m2 (mkN m2)).1 < 100000000000000000:=by omega
  have hl:(deI (zak m2 (mkN m2)).1).length≤18:=zes (by omega) (by omega);have g6:1+(deI (zak m2 (mkN m2)).1).length≤maxLen:=by unfold maxLen;omega
  refine za (za ?_);refine zaa hX zaA rfl ?_ ?_
  ·trivial
  refine za (za ?_);refine zaa hX zaA rfl ?_ ?_
  ·repeat'(first|exact trivial|assumption|exact u2|exact g1|exact g3|exact g2|exact g4|exact g5|exact g6|(refine⟨?_,?_⟩)|(intro _)|exact zb rfl|exact zi _|(simp_all [allP];done))
  refine za (za ?_);refine zaa hX zaA rfl ?_ ?_
  ·trivial
  refine zr ⟨.inr rfl,?_,zaw rfl trivial rfl rfl ?_⟩
  ·show some (OObj.box mkr (zak m2 (mkN m2)).2)=some (OObj.box mkr (zdc m ids).2);rw[<-hRR,hR]
  ·show (((18:Int),(0:Int),(0:Int),(0:Int),(0:Int),(0:Int),([]:List Int),[110]++deI (zak m2 (mkN m2)).1,()):Nd)=(zdc m ids).1;rw[<-hRR,hR]
 have hc:=of_decide_eq_false (hq.symm.trans hc);rw[if_neg hc]at hR;apply zab;have hk2:1≤lfK k b∧lfK k b≤7:=by
  unfold lfK;cases b with
  |true=>exact⟨by show (1:Int)≤1;omega,by show (1:Int)≤7;omega⟩
  |false=>
   show 1≤k∧k≤7;refine⟨hkr.1,?_⟩;by_cases h8:k=8
   ·have hz:=hk8 h8;have:mkN m≠0:=fun h=>by rw[h]at hz;cases hz
    exact absurd ⟨h8,by omega⟩ hc
   ·omega
 clear hk8 hq hc;generalize lfK k b=c at *;apply zae;refine qY (σ':=sLf (zeb c m2 ids).2 ids k (c,(zeb c m2 ids).1,0,0,0,0,[],[],())) ?_ ?_
 ·have hq:(bif (!(c==1)) then (!(c==5)) else false)=decide (c≠1∧c≠5):=by
   rw[zc6,yq,zf,decide_eq_true_iff,zB,zB,beq_eq_false_iff_ne,beq_eq_false_iff_ne]
  refine za (za ?_);refine zaa hX zaA rfl ?_ ?_
  ·repeat'(first|exact trivial|assumption|(refine⟨?_,?_⟩)|(intro _)|exact zb rfl|exact zi _|(simp_all [allP];done))
  refine zaf rfl (fun hc=>?_) (fun hc=>?_)
  ·have hc:=of_decide_eq_true (hq.symm.trans hc);have e:zeb c m2 ids=zak m2 ids:=if_pos hc;have h6:ids≤1000000000:=by omega
   refine za (za ?_);refine zaa hX zaA rfl ?_ ?_
   ·repeat'(first|exact trivial|assumption|exact u2|exact g1|exact h4|exact h6|(refine⟨?_,?_⟩)|(intro _)|exact zb rfl|exact zi _|(simp_all [allP];done))
   rw[e];exact⟨⟨rfl,rfl,rfl,rfl,rfl,trivial⟩,⟨rfl,rfl,rfl,trivial⟩,rfl,rfl⟩
  ·have hc:=of_decide_eq_false (hq.symm.trans hc);have e:zeb c m2 ids=(0,m2):=if_neg hc;apply zab;rw[e];exact⟨⟨rfl,rfl,rfl,rfl,rfl,trivial⟩,⟨rfl,rfl,rfl,trivial⟩,rfl,rfl⟩
 have hm3:0≤mkU (zeb c m2 ids).2∧mkU (zeb c m2 ids).2≤mkU m+3:=by
  unfold zeb;split
  ·rw[zaT];omega
  ·exact⟨u2,by show mkU m2≤_;omega⟩
 generalize zeb c m2 ids=q at *;obtain⟨(cy:Int),(m3:Mk)⟩:=q;obtain⟨w1,w2⟩:0≤mkU m3∧mkU m3≤mkU m+3:=hm3;have hR:R=zgq c cy m3:=hR;show AWP _ _ _ _ _ (sLf m3 ids k (c,cy,0,0,0,0,[],[],())) _;have w3:mkU m3≤1000000:=by omega
 have w4:mkU m3≤900000:=by omega
 refine za (za ?_);refine zaa hX zaA rfl ?_ ?_
 ·trivial
 refine qY (σ':=sLf R.2 ids k R.1) ?_ ?_
 ·apply zac;rcases (show c=1∨c=2∨c=3∨c=4∨c=5∨c=6∨c=7 by omega) with rfl|rfl|rfl|rfl|rfl|rfl|rfl
  ·skip
   refine za (za ?_);refine zaa hX zaA rfl ?_ ?_
   ·trivial
   refine zaf rfl (fun _=>?_) (fun hb=>absurd (show ((1:Int)==1)=false from hb) (by decide));have hp:=zaH m3 (n:=12) (by decide);have z1:inR .i64 (1+(zak m3 12).1):=zam (by omega) (by omega);have z2:0≤mkU (zak m3 12).2:=by rw[zaT];omega
   have z3:mkU (zak m3 12).2≤1000000:=by rw[zaT];omega
   refine za (za ?_);refine zaa hX zaA rfl ?_ ?_
   ·repeat'(first|exact trivial|assumption|exact w1|exact w3|exact z1|(refine⟨?_,?_⟩)|(intro _)|exact zb rfl|exact zi _|(simp_all [allP];done))
   refine za (za ?_);refine zaa hX zaA rfl ?_ ?_
   ·repeat'(first|exact trivial|assumption|exact z2|exact z3|(refine⟨?_,?_⟩)|(intro _)|exact zb rfl|exact zi _|(simp_all [allP];done))
   rw[hR];exact⟨⟨rfl,rfl,rfl,rfl,rfl,trivial⟩,⟨rfl,rfl,rfl,trivial⟩,rfl,rfl⟩
  ·have hp4:=zaH m3 (n:=4) (by decide);refine za (za ?_);refine zaa hX zaA rfl ?_ ?_
   ·trivial
   refine zaf rfl (fun hb=>absurd (show ((2:Int)==1)=true from hb) (by decide)) (fun _=>?_);refine za (za ?_);refine zaa hX zaA rfl ?_ ?_
   ·trivial
   refine zaf rfl (fun _=>?_) (fun hb=>absurd (show ((2:Int)==2)=false from hb) (by decide));have z1:inR .i64 (1+(zak m3 4).1):=zam (by omega) (by omega);have z2:0≤mkU (zak m3 4).2:=by rw[zaT];omega
   have z3:mkU (zak m3 4).2≤1000000:=by rw[zaT];omega
   have z4:0 < 1+(zak m3 4).1:=by omega
   have z5:1+(zak m3 4).1≤1000000000:=by omega
   refine za (za ?_);refine zaa hX zaA rfl ?_ ?_
   ·repeat'(first|exact trivial|assumption|exact w1|exact w3|exact z1|(refine⟨?_,?_⟩)|(intro _)|exact zb rfl|exact zi _|(simp_all [allP];done))
   refine za (za ?_);refine zaa hX zaA rfl ?_ ?_
   ·repeat'(first|exact trivial|assumption|exact z2|exact z3|exact z4|exact z5|(refine⟨?_,?_⟩)|(intro _)|exact zb rfl|exact zi _|(simp_all [allP];done))
   rw[hR];exact⟨⟨rfl,rfl,rfl,rfl,rfl,trivial⟩,⟨rfl,rfl,rfl,trivial⟩,rfl,rfl⟩
  ·skip
   refine za (za ?_);refine zaa hX zaA rfl ?_ ?_
   ·trivial
   refine zaf rfl (fun hb=>absurd (show ((3:Int)==1)=true from hb) (by decide)) (fun _=>?_);refine za (za ?_);refine zaa hX zaA rfl ?_ ?_
   ·trivial
   refine zaf rfl (fun hb=>absurd (show ((3:Int)==2)=true from hb) (by decide)) (fun _=>?_);refine za (za ?_);refine zaa hX zaA rfl ?_ ?_
   ·trivial
   refine zaf rfl (fun _=>?_) (fun hb=>absurd (show ((3:Int)==3)=false from hb) (by decide));refine za (za ?_);refine zaa hX zaA rfl ?_ ?_
   ·repeat'(first|exact trivial|assumption|exact w1|exact w4|(refine⟨?_,?_⟩)|(intro _)|exact zb rfl|exact zi _|(simp_all [allP];done))
   rw[hR];exact⟨⟨rfl,rfl,rfl,rfl,rfl,trivial⟩,⟨rfl,rfl,rfl,trivial⟩,rfl,rfl⟩
  ·skip
   refine za (za ?_);refine zaa hX zaA rfl ?_ ?_
   ·trivial
   refine zaf rfl (fun hb=>absurd (show ((4:Int)==1)=true from hb) (by decide)) (fun _=>?_);refine za (za ?_);refine zaa hX zaA rfl ?_ ?_
   ·trivial
   refine zaf rfl (fun hb=>absurd (show ((4:Int)==2)=true from hb) (by decide)) (fun _=>?_);refine za (za ?_);refine zaa hX zaA rfl ?_ ?_
   ·trivial
   refine zaf rfl (fun hb=>absurd (show ((4:Int)==3)=true from hb) (by decide)) (fun _=>?_);refine za (za ?_);refine zaa hX zaA rfl ?_ ?_
   ·trivial
   refine zaf rfl (fun _=>?_) (fun hb=>absurd (show ((4:Int)==4)=false from hb) (by decide));refine za (za ?_);refine zaa hX zaA rfl ?_ ?_
   ·repeat'(first|exact trivial|assumption|exact w1|exact w4|(refine⟨?_,?_⟩)|(intro _)|exact zb rfl|exact zi _|(simp_all [allP];done))
   rw[hR];exact⟨⟨rfl,rfl,rfl,rfl,rfl,trivial⟩,⟨rfl,rfl,rfl,trivial⟩,rfl,rfl⟩
  ·skip
   refine za (za ?_);refine zaa hX zaA rfl ?_ ?_
   ·trivial
   refine zaf rfl (fun hb=>absurd (show ((5:Int)==1)=true from hb) (by decide)) (fun _=>?_);refine za (za ?_);refine zaa hX zaA rfl ?_ ?_
   ·trivial
   refine zaf rfl (fun hb=>absurd (show ((5:Int)==2)=true from hb) (by decide)) (fun _=>?_);refine za (za ?_);refine zaa hX zaA rfl ?_ ?_
   ·trivial
   refine zaf rfl (fun hb=>absurd (show ((5:Int)==3)=true from hb) (by decide)) (fun _=>?_);refine za (za ?_);refine zaa hX zaA rfl ?_ ?_
   ·trivial
   refine zaf rfl (fun hb=>absurd (show ((5:Int)==4)=true from hb) (by decide)) (fun _=>?_);refine za (za ?_);refine zaa hX zaA rfl ?_ ?_
   ·trivial
   refine zaf rfl (fun _=>?_) (fun hb=>absurd (show ((5:Int)==5)=false from hb) (by decide));refine za (za ?_);refine zaa hX zaA rfl ?_ ?_
   ·repeat'(first|exact trivial|assumption|exact w1|exact w4|(refine⟨?_,?_⟩)|(intro _)|exact zb rfl|exact zi _|(simp_all [allP];done))
   rw[hR];exact⟨⟨rfl,rfl,rfl,rfl,rfl,trivial⟩,⟨rfl,rfl,rfl,trivial⟩,rfl,rfl⟩
  ·skip
   refine za (za ?_);refine zaa hX zaA rfl ?_ ?_
   ·trivial
   refine zaf rfl (fun hb=>absurd (show ((6:Int)==1)=true from hb) (by decide)) (fun _=>?_);refine za (za ?_);refine zaa hX zaA rfl ?_ ?_
   ·trivial
   refine zaf rfl (fun hb=>absurd (show ((6:Int)==2)=true from hb) (by decide)) (fun _=>?_);refine za (za ?_);refine zaa hX zaA rfl ?_ ?_
   ·trivial
   refine zaf rfl (fun hb=>absurd (show ((6:Int)==3)=true from hb) (by decide)) (fun _=>?_);refine za (za ?_);refine zaa hX zaA rfl ?_ ?_
   ·trivial
   refine zaf rfl (fun hb=>absurd (show ((6:Int)==4)=true from hb) (by decide)) (fun _=>?_);refine za (za ?_);refine zaa hX zaA rfl ?_ ?_
   ·trivial
   refine zaf rfl (fun hb=>absurd (show ((6:Int)==5)=true from hb) (by decide)) (fun _=>?_);refine za (za ?_);refine zaa hX zaA rfl ?_ ?_
   ·trivial
   refine zaf rfl (fun _=>?_) (fun hb=>absurd (show ((6:Int)==6)=false from hb) (by decide));refine za (za ?_);refine zaa hX zaA rfl ?_ ?_
   ·repeat'(first|exact trivial|assumption|exact w1|exact w4|(refine⟨?_,?_⟩)|(intro _)|exact zb rfl|exact zi _|(simp_all [allP];done))
   rw[hR];exact⟨⟨rfl,rfl,rfl,rfl,rfl,trivial⟩,⟨rfl,rfl,rfl,trivial⟩,rfl,rfl⟩
  ·skip
   refine za (za ?_);refine zaa hX zaA rfl ?_ ?_
   ·trivial
   refine zaf rfl (fun hb=>absurd (show ((7:Int)==1)=true from hb) (by decide)) (fun _=>?_);refine za (za ?_);refine zaa hX zaA rfl ?_ ?_
   ·trivial
   refine zaf rfl (fun hb=>absurd (show ((7:Int)==2)=true from hb) (by decide)) (fun _=>?_);refine za (za ?_);refine zaa hX zaA rfl ?_ ?_
   ·trivial
   refine zaf rfl (fun hb=>absurd (show ((7:Int)==3)=true from hb) (by decide)) (fun _=>?_);refine za (za ?_);refine zaa hX zaA rfl ?_ ?_
   ·trivial
   refine zaf rfl (fun hb=>absurd (show ((7:Int)==4)=true from hb) (by decide)) (fun _=>?_);refine za (za ?_);refine zaa hX zaA rfl ?_ ?_
   ·trivial
   refine zaf rfl (fun hb=>absurd (show ((7:Int)==5)=true from hb) (by decide)) (fun _=>?_);refine za (za ?_);refine zaa hX zaA rfl ?_ ?_
   ·trivial
   refine zaf rfl (fun hb=>absurd (show ((7:Int)==6)=true from hb) (by decide)) (fun _=>?_);have hp:=zaH m3 (n:=3) (by decide);have z1:inR .i64 (1+(zak m3 3).1):=zam (by omega) (by omega);have z2:0≤mkU (zak m3 3).2:=by rw[zaT];omega
   have z3:mkU (zak m3 3).2≤1000000:=by rw[zaT];omega
   refine za (za ?_);refine zaa hX zaA rfl ?_ ?_
   ·repeat'(first|exact trivial|assumption|exact w1|exact w3|exact z1|(refine⟨?_,?_⟩)|(intro _)|exact zb rfl|exact zi _|(simp_all [allP];done))
   have z4:0≤mkU (zak (zak m3 3).2 2).2:=by rw[zaT,zaT];omega
   have z5:mkU (zak (zak m3 3).2 2).2≤1000000:=by rw[zaT,zaT];omega
   have z6:0≤mkU (zak (zak (zak m3 3).2 2).2 7).2:=by rw[zaT,zaT,zaT];omega
   have z7:mkU (zak (zak (zak m3 3).2 2).2 7).2≤1000000:=by rw[zaT,zaT,zaT];omega
   have z8:inR .i64 (-(1+(zak m3 3).1)):=zam (by omega) (by omega);have hR:R=((7,cy,(zak (zak (zak (zak m3 3).2 2).2 7).2 2).1,0,(if (zak (zak m3 3).2 2).1=1 then -(1+(zak m3 3).1) else 1+(zak m3 3).1),(zak (zak (zak m3 3).2 2).2 7).1,[],[],()),(zak (zak (zak (zak m3 3).2 2).2 7).2 2).2):=hR;refine za (za ?_);refine zaa hX zaA rfl ?_ ?_
   ·repeat'(first|exact trivial|assumption|exact z2|exact z3|(refine⟨?_,?_⟩)|(intro _)|exact zb rfl|exact zi _|(simp_all [allP];done))
   refine zaf rfl (fun hb=>?_) (fun hb=>?_)
   ·have hb:((zak (zak m3 3).2 2).1==1)=true:=hb;rw[if_pos (eq_of_beq hb)]at hR;refine za (za ?_);refine zaa hX zaA rfl ?_ ?_
    ·exact z8
    refine za (za ?_);refine zaa hX zaA rfl ?_ ?_
    ·repeat'(first|exact trivial|assumption|exact z4|exact z5|(refine⟨?_,?_⟩)|(intro _)|exact zb rfl|exact zi _|(simp_all [allP];done))
    refine za (za ?_);refine zaa hX zaA rfl ?_ ?_
    ·repeat'(first|exact trivial|assumption|exact z6|exact z7|(refine⟨?_,?_⟩)|(intro _)|exact zb rfl|exact zi _|(simp_all [allP];done))
    rw[hR];exact⟨⟨rfl,rfl,rfl,rfl,rfl,trivial⟩,⟨rfl,rfl,rfl,trivial⟩,rfl,rfl⟩
   ·have hb:((zak (zak m3 3).2 2).1==1)=false:=hb;rw[if_neg (by simpa using hb)]at hR;apply zab;refine za (za ?_);refine zaa hX zaA rfl ?_ ?_
    ·repeat'(first|exact trivial|assumption|exact z4|exact z5|(refine⟨?_,?_⟩)|(intro _)|exact zb rfl|exact zi _|(simp_all [allP];done))
    refine za (za ?_);refine zaa hX zaA rfl ?_ ?_
    ·repeat'(first|exact trivial|assumption|exact z6|exact z7|(refine⟨?_,?_⟩)|(intro _)|exact zb rfl|exact zi _|(simp_all [allP];done))
    rw[hR];exact⟨⟨rfl,rfl,rfl,rfl,rfl,trivial⟩,⟨rfl,rfl,rfl,trivial⟩,rfl,rfl⟩
 show AWP _ _ _ _ _ (sLf R.2 ids k R.1) _;refine za (za ?_);refine zaa hX zaA rfl ?_ ?_
 ·trivial
 refine zr ⟨.inr rfl,?_,zaw rfl trivial rfl rfl ?_⟩
 ·show some (OObj.box mkr R.2)=some (OObj.box mkr (zdc m ids).2);rw[<-hRR]
 ·show R.1=(zdc m ids).1;rw[<-hRR]
def cRepl:Ctr:={ args:=[.str,.str,.str],pre:=fun x=>[zg x.1≤4000,zg x.2.1≤100,zg x.2.2.1≤4000],res:=.str,own:=none,out:=fun x=>zcM x.2.1 x.2.2.1 0 x.1 }
abbrev rF (s nm v out:List UInt8) (i:Nat):Frame:=[(0,⟨.str,s⟩),(1,⟨.str,nm⟩),(2,⟨.str,v⟩),(7,⟨.str,out⟩),(8,⟨i64,((nm.length+1:Nat):Int)⟩),(9,⟨i64,(i:Int)⟩)]
theorem zr1 {nm r:List UInt8} (h:¬ (nm.length≤r.length∧r.take nm.length=nm)):hitA nm r=false:=by
 unfold hitA;by_cases h1:nm.length≤r.length
 ·rw[decide_eq_false (p:=r.take nm.length=nm) (fun h2=>h ⟨h1,h2⟩),xk,xL]
 ·rw[decide_eq_false h1,xL,xL]
theorem zsp (c d:UInt8):((((c.toNat:Nat):Int))==((d.toNat:Nat):Int))=(c==d):=by
 by_cases e:c=d
 ·subst e;rw[show (c==c)=true by simp,show ((((c.toNat:Nat):Int))==((c.toNat:Nat):Int))=true by simp]
 ·rw[beq_eq_false_iff_ne.2 e];exact beq_eq_false_iff_ne.2 fun h=>e (UInt8.toNat_inj.1 (Int.ofNat.inj h))
set_option maxHeartbeats 2000000 in
theorem zsM:yK Tryz.prog gmH 38 cRepl:=by
 refine zaq (K:=gmK) zaj Tryz.func38 rfl rfl Tryz.call38 rfl (by decide) (by intro h;cases h) ?_;rintro w0 X hX ⟨(s:List UInt8),(nm:List UInt8),(v:List UInt8),⟨⟩⟩ hp;obtain⟨hs,hn,hv⟩:s.length≤4000∧nm.length≤100∧v.length≤4000:=hp;change AWP _ _ _ _ _ ⟨[(0,⟨.str,s⟩),(1,⟨.str,nm⟩),(2,⟨.str,v⟩)],[],0⟩ _;have q0:inR .i64 (((nm.length:Nat):Int)+1):=zam (by omega) (by omega);refine za (za ?_);refine zaa hX zaj rfl ?_ ?_
 ·trivial
 refine za (za ?_);refine zaa hX zaj rfl ?_ ?_
 ·trivial
 refine za (za ?_);refine zaa hX zaj rfl ?_ ?_
 ·exact q0
 refine za (za ?_);refine zaa hX zaj rfl ?_ ?_
 ·trivial
 obtain⟨R,hR⟩:∃ R,zcM nm v 0 s=R:=⟨_,rfl⟩;(repeat(first|apply zae|apply zab|apply zac|apply zad));refine yR (ι:=Nat×List UInt8) (fun x=>⟨rF s nm v x.2 x.1,[],0⟩) (fun x=>x.1≤s.length∧x.2.length≤x.1 * 5000∧x.2++zcM nm v 0 (s.drop x.1)=R) (fun x=>s.length - x.1) (0,[]) ⟨zk _,zk _,hR⟩ ⟨⟨rfl,rfl,rfl,rfl,vI64 (by omega),rfl,trivial⟩,trivial,rfl,rfl⟩ ?_;rintro ⟨i,out⟩ ⟨hi,ho,hL⟩;have hi:i≤s.length:=hi;have ho:out.length≤i * 5000:=ho;have hL:out++zcM nm v 0 (s.drop i)=R:=hL;show AWP _ _ _ _ _ ⟨rF s nm v out i,[],0⟩ _;refine za (za ?_);refine zaa hX zaj rfl ?_ ?_
 ·trivial
 refine zaf rfl (fun hb=>?_) (fun hb=>?_)
 rotate_left
 ·have hb:decide ((i:Int) < ((s.length:Nat):Int))=false:=hb;have hb:=of_decide_eq_false hb;obtain rfl:i=s.length:=by omega
  apply zad;refine za (za ?_);refine zaa hX zaj rfl ?_ ?_
  ·trivial
  refine zr ⟨.inr rfl,zaw rfl trivial rfl rfl ?_⟩;show out=zcM nm v 0 s;rw[hR, <-hL,jd];show out=out++ [];rw[zL]
 have hb:decide ((i:Int) < ((s.length:Nat):Int))=true:=hb;have hb:=of_decide_eq_true hb;have hlt:i < s.length:=by omega
 rw[yr hlt,zcM]at hL;have y0:(0:Int)≤(i:Int):=by omega
 have y2:((i:Int)).toNat < s.length:=by omega
 have hget:s.getD ((i:Int)).toNat 0=s[i]:=by rw[zD,zy,zU hlt];rfl
 obtain⟨c,hc⟩:∃ c,s[i]=c:=⟨_,rfl⟩;rw[hc]at hget hL;have hrl:(s.drop (i+1)).length=s.length - (i+1):=yS;obtain⟨hit,hh⟩:∃ hit,hit=((c==64)&&hitA nm (s.drop (i+1))):=⟨_,rfl⟩;rw[<-hh]at hL;apply zab;apply zae;apply zac;apply zae;refine xz (σ':=⟨[(0,⟨.str,s⟩),(1,⟨.str,nm⟩),(2,⟨.str,v⟩),(7,⟨.str,out⟩),(8,⟨i64,((nm.length+1:Nat):Int)⟩),(9,⟨i64,(i:Int)⟩),(65,⟨.bool,hit⟩)],[],0⟩) ?_ ?_
 rotate_left
 ·have q3:inR .i64 ((i:Int)+1):=zam (by omega) (by omega);refine zaf rfl (fun hc2=>?_) (fun hc2=>?_)
  ·have hc2:hit=true:=hc2;rw[if_pos hc2]at hL;rw[hc2]at hh;have hh:=hh.symm;rw[zf]at hh;have h2:=hh.2;unfold hitA at h2;rw[zf,zf,decide_eq_true_iff,decide_eq_true_iff]at h2;obtain⟨⟨h3,h4⟩,_⟩:=h2;have h5:zcM nm v nm.length (s.drop (i+1))=zcM nm v 0 (s.drop (i+nm.length+1)):=by
    have e:s.drop (i+1)=nm++(s.drop (i+1)).drop nm.length:=by
     conv=>lhs;rw[<-x9 nm.length (s.drop (i+1)),h4]
    rw[e,zg9,List.drop_drop,show i+1+nm.length=i+nm.length+1 by omega]
   rw[h5]at hL;have a1:out.length+1≤maxLen:=by unfold maxLen;omega
   have a2:zg (out++ [40]:List UInt8)+v.length≤maxLen:=by rw[zd];show out.length+1+_≤_;unfold maxLen;omega
   have a3:zg (out++ [40]++v:List UInt8)+1≤maxLen:=by rw[zd,zd];show out.length+1+_+1≤_;unfold maxLen;omega
   refine za (za ?_);refine zaa hX zaj rfl ?_ ?_
   ·exact⟨a1,a2,a3⟩
   have i1:inR .i64 ((i:Int)+((nm.length+1:Nat):Int)):=zam (by omega) (by omega);have i2:inR .i64 ((i:Int)+((nm.length+1:Nat):Int) - 1):=zam (by omega) (by omega);have i3:inR .i64 ((i:Int)+((nm.length+1:Nat):Int) - 1+1):=zam (by omega) (by omega);refine za (za ?_);refine zaa hX zaj rfl ?_ ?_
   ·repeat'(first|exact trivial|assumption|exact i1|exact i2|(refine⟨?_,?_⟩)|(intro _)|exact zb rfl|exact zi _|(simp_all [allP];done))
   apply zad;refine za (za ?_);refine zaa hX zaj rfl ?_ ?_
   ·exact i3
   have hlen:(out++parS false v).length≤(i+nm.length+1) * 5000:=by
    show (out++([40]++(v++ [41]))).length≤_;simp only[zd,zt,zX];omega
   refine⟨(i+nm.length+1,out++parS false v),⟨by show i+nm.length+1≤s.length;omega,hlen,by rw[zp];exact hL⟩,by show s.length - (i+nm.length+1) < s.length - i;omega,⟨rfl,rfl,rfl,?_,rfl,vI64 (by omega),trivial⟩,trivial,rfl,rfl⟩;show (⟨.str,out++ [40]++v++ [41]⟩:V)=⟨.str,out++([40]++(v++ [41]))⟩;simp only[zp]
  ·have hc2:hit=false:=hc2;rw[hc2,if_neg (by decide)]at hL;apply zab;have z1:(i:Int)≤(i:Int)+1:=by omega
   have z2:(i:Int)+1≤((s.length:Nat):Int):=by omega
   have hsl:(s.take ((i:Int)+1).toNat).drop ((i:Int)).toNat=[c]:=by
    rw[show ((i:Int)+1).toNat=i+1 by omega,zD,zO hlt,List.drop_left' (by rw[yB];omega),hc]
   have a1:out.length+zg ((s.take ((i:Int)+1).toNat).drop ((i:Int)).toNat)≤maxLen:=by rw[hsl];show out.length+1≤_;unfold maxLen;omega
   refine za (za ?_);refine zaa hX zaj rfl ?_ ?_
   ·repeat'(first|exact trivial|assumption|exact q3|exact y0|exact z1|exact z2|exact a1|(refine⟨?_,?_⟩)|(intro _)|exact zb rfl|exact zi _|(simp_all [allP];done))
   refine za (za ?_);refine zaa hX zaj rfl ?_ ?_
   ·exact q3
   refine⟨(i+1,out++ [c]),⟨hlt,by show (out++ [c]).length≤(i+1) * 5000;rw[zd,zF];omega,by rw[zp];exact hL⟩,by show s.length - (i+1) < s.length - i;omega,⟨rfl,rfl,rfl,?_,rfl,vI64 (by omega),trivial⟩,trivial,rfl,rfl⟩;show (⟨.str,out++(s.take ((i:Int)+1).toNat).drop ((i:Int)).toNat⟩:V)=_;rw[hsl]
 have q3:inR .i64 ((i:Int)+1):=zam (by omega) (by omega);have i1:inR .i64 ((i:Int)+((nm.length+1:Nat):Int)):=zam (by omega) (by omega);have w1:(0:Int)≤(i:Int)+1:=by omega
 have w2:(i:Int)+1≤(i:Int)+((nm.length+1:Nat):Int):=by omega
 have w4:(0:Int)≤(i:Int)+((nm.length+1:Nat):Int):=by omega
 (repeat(first|apply zae|apply zab|apply zac|apply zad));refine zai ?_;refine zN 5 hX zaj rfl ?_ ?_
 ·repeat'(first|exact trivial|assumption|exact y0|exact hb|exact y2|(refine⟨?_,?_⟩)|(intro _)|exact zb rfl|exact zi _|(simp_all [allP];done))
 have hcv:((((s.getD ((i:Int)).toNat 0).toNat:Nat):Int)==((((64:UInt8)).toNat:Nat):Int))=(c==64):=by rw[hget];exact zsp c 64
 by_cases hc1:c=64
 rotate_left
 ·have hF:hit=false:=by rw[hh,beq_eq_false_iff_ne.2 hc1,xL]
  refine xn (σ':=⟨[(0,⟨.str,s⟩),(1,⟨.str,nm⟩),(2,⟨.str,v⟩),(7,⟨.str,out⟩),(8,⟨i64,((nm.length+1:Nat):Int)⟩),(9,⟨i64,(i:Int)⟩),(23,⟨.bool,false⟩)],[],0⟩) ⟨⟨rfl,rfl,rfl,rfl,rfl,rfl,zbo (hcv.trans (beq_eq_false_iff_ne.2 hc1)),trivial⟩,trivial,rfl,rfl⟩ ?_
  iterate 6 refine zS 4 23 true .bool false rfl rfl rfl rfl rfl rfl ?_
  refine zN 2 hX zaj rfl (fun h=>by cases h) ?_;refine xn (σ':=⟨[(0,⟨.str,s⟩),(1,⟨.str,nm⟩),(2,⟨.str,v⟩),(7,⟨.str,out⟩),(8,⟨i64,((nm.length+1:Nat):Int)⟩),(9,⟨i64,(i:Int)⟩),(31,⟨.bool,false⟩)],[],0⟩) ⟨⟨rfl,rfl,rfl,rfl,rfl,rfl,rfl,trivial⟩,trivial,rfl,rfl⟩ ?_
  iterate 9 refine zS 12 31 true .bool false rfl rfl rfl rfl rfl rfl ?_
  refine zN 2 hX zaj rfl (fun h=>by cases h) ?_;refine xn (σ':=⟨[(0,⟨.str,s⟩),(1,⟨.str,nm⟩),(2,⟨.str,v⟩),(7,⟨.str,out⟩),(8,⟨i64,((nm.length+1:Nat):Int)⟩),(9,⟨i64,(i:Int)⟩),(42,⟨.bool,false⟩)],[],0⟩) ⟨⟨rfl,rfl,rfl,rfl,rfl,rfl,rfl,trivial⟩,trivial,rfl,rfl⟩ ?_
  iterate 7 refine zS 23 42 true .bool false rfl rfl rfl rfl rfl rfl ?_
  iterate 6 refine AL.guardU 30 49 false .bool false rfl rfl rfl rfl rfl rfl ?_
  iterate 2 refine zS 23 42 true .bool false rfl rfl rfl rfl rfl rfl ?_
  iterate 6 refine AL.guardU 38 57 false .bool false rfl rfl rfl rfl rfl rfl ?_
  refine zS 23 42 true .bool false rfl rfl rfl rfl rfl rfl ?_;refine zT hX zaj rfl (fun h=>by cases h) ?_;exact⟨⟨rfl,rfl,rfl,rfl,rfl,rfl,zbo hF.symm,trivial⟩,trivial,rfl,rfl⟩
 have hh:hit=hitA nm (s.drop (i+1)):=by rw[hh,beq_iff_eq.2 hc1,jM]
 refine xn (σ':=⟨[(0,⟨.str,s⟩),(1,⟨.str,nm⟩),(2,⟨.str,v⟩),(7,⟨.str,out⟩),(8,⟨i64,((nm.length+1:Nat):Int)⟩),(9,⟨i64,(i:Int)⟩),(23,⟨.bool,true⟩)],[],0⟩) ⟨⟨rfl,rfl,rfl,rfl,rfl,rfl,zbo (hcv.trans (beq_iff_eq.2 hc1)),trivial⟩,trivial,rfl,rfl⟩ ?_;by_cases hA:(i:Int)+((nm.length+1:Nat):Int)≤((s.length:Nat):Int)
 rotate_left
 ·have hF:hit=false:=by rw[hh];exact zr1 fun h=>by omega
  have w3:=hA;have w5:=hA;have w6:=hA
  iterate 6 (refine yv 4 23 true rfl rfl rfl rfl ?_;refine zN 1 hX zaj rfl (by repeat'(first|exact trivial|exact i1|exact q3|exact w1|exact w2|exact w3|exact w4|exact w5|exact w6|(intro h;cases h;done)|(refine⟨?_,?_⟩)|(intro _))) ?_)
  refine zN 2 hX zaj rfl (by repeat'(first|exact trivial|exact i1|exact q3|exact w1|exact w2|exact w3|exact w4|exact w5|exact w6|(intro h;cases h;done)|(refine⟨?_,?_⟩)|(intro _))) ?_;refine xn (σ':=⟨[(0,⟨.str,s⟩),(1,⟨.str,nm⟩),(2,⟨.str,v⟩),(7,⟨.str,out⟩),(8,⟨i64,((nm.length+1:Nat):Int)⟩),(9,⟨i64,(i:Int)⟩),(31,⟨.bool,false⟩)],[],0⟩) ⟨⟨rfl,rfl,rfl,rfl,rfl,rfl,zbo (decide_eq_false hA),trivial⟩,trivial,rfl,rfl⟩ ?_
  iterate 9 refine zS 12 31 true .bool false rfl rfl rfl rfl rfl rfl ?_
  refine zN 2 hX zaj rfl (fun h=>by cases h) ?_;refine xn (σ':=⟨[(0,⟨.str,s⟩),(1,⟨.str,nm⟩),(2,⟨.str,v⟩),(7,⟨.str,out⟩),(8,⟨i64,((nm.length+1:Nat):Int)⟩),(9,⟨i64,(i:Int)⟩),(42,⟨.bool,false⟩)],[],0⟩) ⟨⟨rfl,rfl,rfl,rfl,rfl,rfl,rfl,trivial⟩,trivial,rfl,rfl⟩ ?_
  iterate 7 refine zS 23 42 true .bool false rfl rfl rfl rfl rfl rfl ?_
  iterate 6 refine AL.guardU 30 49 false .bool false rfl rfl rfl rfl rfl rfl ?_
  iterate 2 refine zS 23 42 true .bool false rfl rfl rfl rfl rfl rfl ?_
  iterate 6 refine AL.guardU 38 57 false .bool false rfl rfl rfl rfl rfl rfl ?_
  refine zS 23 42 true .bool false rfl rfl rfl rfl rfl rfl ?_;refine zT hX zaj rfl (fun h=>by cases h) ?_;exact⟨⟨rfl,rfl,rfl,rfl,rfl,rfl,zbo hF.symm,trivial⟩,trivial,rfl,rfl⟩
 have w3:=hA;have w5:=w4;have w6:=w4
 iterate 6 (refine yv 4 23 true rfl rfl rfl rfl ?_;refine zN 1 hX zaj rfl (by repeat'(first|exact trivial|exact i1|exact q3|exact w1|exact w2|exact w3|exact w4|exact w5|exact w6|(intro h;cases h;done)|(refine⟨?_,?_⟩)|(intro _))) ?_)
 refine zN 2 hX zaj rfl (by repeat'(first|exact trivial|exact i1|exact q3|exact w1|exact w2|exact w3|exact w4|exact w5|exact w6|(intro h;cases h;done)|(refine⟨?_,?_⟩)|(intro _))) ?_;refine xn (σ':=⟨[(0,⟨.str,s⟩),(1,⟨.str,nm⟩),(2,⟨.str,v⟩),(7,⟨.str,out⟩),(8,⟨i64,((nm.length+1:Nat):Int)⟩),(9,⟨i64,(i:Int)⟩),(31,⟨.bool,true⟩)],[],0⟩) ⟨⟨rfl,rfl,rfl,rfl,rfl,rfl,zbo (decide_eq_true hA),trivial⟩,trivial,rfl,rfl⟩ ?_
 iterate 9 (refine yv 12 31 true rfl rfl rfl rfl ?_;refine zN 1 hX zaj rfl (by repeat'(first|exact trivial|exact i1|exact q3|exact w1|exact w2|exact w3|exact w4|exact w5|exact w6|(intro h;cases h;done)|(refine⟨?_,?_⟩)|(intro _))) ?_)
 refine zN 2 hX zaj rfl (by repeat'(first|exact trivial|exact i1|exact q3|exact w1|exact w2|exact w3|exact w4|exact w5|exact w6|(intro h;cases h;done)|(refine⟨?_,?_⟩)|(intro _))) ?_;have hsl:(s.take ((i:Int)+((nm.length+1:Nat):Int)).toNat).drop ((i:Int)+1).toNat=(s.drop (i+1)).take nm.length:=by
  rw[show ((i:Int)+((nm.length+1:Nat):Int)).toNat=i+1+nm.length by omega,show ((i:Int)+1).toNat=i+1 by omega,List.drop_take,Nat.add_sub_cancel_left]
 have hle:nm.length≤(s.drop (i+1)).length:=by omega
 by_cases hB:(s.drop (i+1)).take nm.length=nm
 rotate_left
 ·have hF:hit=false:=by rw[hh];exact zr1 fun h=>hB h.2
  have hv42:(bif true then eqb .str ((s.take ((i:Int)+((nm.length+1:Nat):Int)).toNat).drop ((i:Int)+1).toNat) nm else false)=false:=by rw[hsl,zcy,decide_eq_false hB];rfl
  refine xn (σ':=⟨[(0,⟨.str,s⟩),(1,⟨.str,nm⟩),(2,⟨.str,v⟩),(7,⟨.str,out⟩),(8,⟨i64,((nm.length+1:Nat):Int)⟩),(9,⟨i64,(i:Int)⟩),(42,⟨.bool,false⟩)],[],0⟩) ⟨⟨rfl,rfl,rfl,rfl,rfl,rfl,zbo hv42,trivial⟩,trivial,rfl,rfl⟩ ?_
  iterate 7 refine zS 23 42 true .bool false rfl rfl rfl rfl rfl rfl ?_
  iterate 6 refine AL.guardU 30 49 false .bool false rfl rfl rfl rfl rfl rfl ?_
  iterate 2 refine zS 23 42 true .bool false rfl rfl rfl rfl rfl rfl ?_
  iterate 6 refine AL.guardU 38 57 false .bool false rfl rfl rfl rfl rfl rfl ?_
  refine zS 23 42 true .bool false rfl rfl rfl rfl rfl rfl ?_;refine zT hX zaj rfl (fun h=>by cases h) ?_;exact⟨⟨rfl,rfl,rfl,rfl,rfl,rfl,zbo hF.symm,trivial⟩,trivial,rfl,rfl⟩
 have hv42:(bif true then eqb .str ((s.take ((i:Int)+((nm.length+1:Nat):Int)).toNat).drop ((i:Int)+1).toNat) nm else false)=true:=by rw[hsl,zcy,decide_eq_true hB];rfl
 have hh:hit=bdA (s.drop (i+nm.length+1)):=by
  rw[hh];unfold hitA;rw[decide_eq_true hB,decide_eq_true hle,List.drop_drop,show i+1+nm.length=i+nm.length+1 by omega];rfl
 refine xn (σ':=⟨[(0,⟨.str,s⟩),(1,⟨.str,nm⟩),(2,⟨.str,v⟩),(7,⟨.str,out⟩),(8,⟨i64,((nm.length+1:Nat):Int)⟩),(9,⟨i64,(i:Int)⟩),(42,⟨.bool,true⟩)],[],0⟩) ⟨⟨rfl,rfl,rfl,rfl,rfl,rfl,zbo hv42,trivial⟩,trivial,rfl,rfl⟩ ?_
 iterate 7 (refine yv 23 42 true rfl rfl rfl rfl ?_;refine zN 1 hX zaj rfl (by repeat'(first|exact trivial|exact i1|exact q3|exact w1|exact w2|exact w3|exact w4|exact w5|exact w6|(intro h;cases h;done)|(refine⟨?_,?_⟩)|(intro _))) ?_)
 by_cases hC:(i:Int)+((nm.length+1:Nat):Int)=((s.length:Nat):Int)
 ·have hF:hit=true:=by
   rw[hh,List.drop_eq_nil_of_le (by omega)];rfl
  refine xn (σ':=⟨[(0,⟨.str,s⟩),(1,⟨.str,nm⟩),(2,⟨.str,v⟩),(7,⟨.str,out⟩),(8,⟨i64,((nm.length+1:Nat):Int)⟩),(9,⟨i64,(i:Int)⟩),(42,⟨.bool,true⟩),(49,⟨.bool,true⟩)],[],0⟩) ⟨⟨rfl,rfl,rfl,rfl,rfl,rfl,rfl,zbo (beq_iff_eq.2 hC),trivial⟩,trivial,rfl,rfl⟩ ?_
  iterate 6 refine zS 30 49 false .bool false rfl rfl rfl rfl rfl rfl ?_
  iterate 2 (refine yv 23 42 true rfl rfl rfl rfl ?_;refine zN 1 hX zaj rfl (by repeat'(first|exact trivial|exact i1|exact q3|exact w1|exact w2|exact w3|exact w4|exact w5|exact w6|(intro h;cases h;done)|(refine⟨?_,?_⟩)|(intro _))) ?_)
  refine xn (σ':=⟨[(0,⟨.str,s⟩),(1,⟨.str,nm⟩),(2,⟨.str,v⟩),(7,⟨.str,out⟩),(8,⟨i64,((nm.length+1:Nat):Int)⟩),(9,⟨i64,(i:Int)⟩),(42,⟨.bool,true⟩),(57,⟨.bool,true⟩)],[],0⟩) ⟨⟨rfl,rfl,rfl,rfl,rfl,rfl,rfl,rfl,trivial⟩,trivial,rfl,rfl⟩ ?_
  iterate 6 refine zS 38 57 false .bool false rfl rfl rfl rfl rfl rfl ?_
  (refine yv 23 42 true rfl rfl rfl rfl ?_;refine zN 1 hX zaj rfl (by repeat'(first|exact trivial|exact i1|exact q3|exact w1|exact w2|exact w3|exact w4|exact w5|exact w6|(intro h;cases h;done)|(refine⟨?_,?_⟩)|(intro _))) ?_)
  refine zT hX zaj rfl (by repeat'(first|exact trivial|(intro h;cases h;done)|(refine⟨?_,?_⟩)|(intro _))) ?_;exact⟨⟨rfl,rfl,rfl,rfl,rfl,rfl,zbo hF.symm,trivial⟩,trivial,rfl,rfl⟩
 have hlt2:i+nm.length+1 < s.length:=by omega
 have w5:(i:Int)+((nm.length+1:Nat):Int) < ((s.length:Nat):Int):=by omega
 have w6:((i:Int)+((nm.length+1:Nat):Int)).toNat < s.length:=by omega
 have hgd:s.getD ((i:Int)+((nm.length+1:Nat):Int)).toNat 0=s[i+nm.length+1]:=by
  rw[show ((i:Int)+((nm.length+1:Nat):Int)).toNat=i+nm.length+1 by omega,zy,zU hlt2];rfl
 rw[yr hlt2]at hh;generalize s[i+nm.length+1]=d at *;have hh:hit=((d==32)||(d==41)):=hh;have hd32:((((s.getD ((i:Int)+((nm.length+1:Nat):Int)).toNat 0).toNat:Nat):Int)==((((32:UInt8)).toNat:Nat):Int))=(d==32):=by rw[hgd];exact zsp d 32
 have hd41:((((s.getD ((i:Int)+((nm.length+1:Nat):Int)).toNat 0).toNat:Nat):Int)==((((41:UInt8)).toNat:Nat):Int))=(d==41):=by rw[hgd];exact zsp d 41
 refine xn (σ':=⟨[(0,⟨.str,s⟩),(1,⟨.str,nm⟩),(2,⟨.str,v⟩),(7,⟨.str,out⟩),(8,⟨i64,((nm.length+1:Nat):Int)⟩),(9,⟨i64,(i:Int)⟩),(42,⟨.bool,true⟩),(49,⟨.bool,false⟩)],[],0⟩) ⟨⟨rfl,rfl,rfl,rfl,rfl,rfl,rfl,zbo (beq_eq_false_iff_ne.2 hC),trivial⟩,trivial,rfl,rfl⟩ ?_
 iterate 6 (refine yv 30 49 false rfl rfl rfl rfl ?_;refine zN 1 hX zaj rfl (by repeat'(first|exact trivial|exact i1|exact q3|exact w1|exact w2|exact w3|exact w4|exact w5|exact w6|(intro h;cases h;done)|(refine⟨?_,?_⟩)|(intro _))) ?_)
 iterate 2 (refine yv 23 42 true rfl rfl rfl rfl ?_;refine zN 1 hX zaj rfl (by repeat'(first|exact trivial|exact i1|exact q3|exact w1|exact w2|exact w3|exact w4|exact w5|exact w6|(intro h;cases h;done)|(refine⟨?_,?_⟩)|(intro _))) ?_)
 by_cases hD:d=32
 ·have hF:hit=true:=by rw[hh,beq_iff_eq.2 hD];rfl
  refine xn (σ':=⟨[(0,⟨.str,s⟩),(1,⟨.str,nm⟩),(2,⟨.str,v⟩),(7,⟨.str,out⟩),(8,⟨i64,((nm.length+1:Nat):Int)⟩),(9,⟨i64,(i:Int)⟩),(42,⟨.bool,true⟩),(57,⟨.bool,true⟩)],[],0⟩) ⟨⟨rfl,rfl,rfl,rfl,rfl,rfl,rfl,zbo (hd32.trans (beq_iff_eq.2 hD)),trivial⟩,trivial,rfl,rfl⟩ ?_
  iterate 6 refine zS 38 57 false .bool false rfl rfl rfl rfl rfl rfl ?_
  (refine yv 23 42 true rfl rfl rfl rfl ?_;refine zN 1 hX zaj rfl (by repeat'(first|exact trivial|exact i1|exact q3|exact w1|exact w2|exact w3|exact w4|exact w5|exact w6|(intro h;cases h;done)|(refine⟨?_,?_⟩)|(intro _))) ?_)
  refine zT hX zaj rfl (by repeat'(first|exact trivial|(intro h;cases h;done)|(refine⟨?_,?_⟩)|(intro _))) ?_;exact⟨⟨rfl,rfl,rfl,rfl,rfl,rfl,zbo hF.symm,trivial⟩,trivial,rfl,rfl⟩
 have hF:hit=(d==41):=by rw[hh,beq_eq_false_iff_ne.2 hD,Bool.false_or]
 refine xn (σ':=⟨[(0,⟨.str,s⟩),(1,⟨.str,nm⟩),(2,⟨.str,v⟩),(7,⟨.str,out⟩),(8,⟨i64,((nm.length+1:Nat):Int)⟩),(9,⟨i64,(i:Int)⟩),(42,⟨.bool,true⟩),(57,⟨.bool,false⟩)],[],0⟩) ⟨⟨rfl,rfl,rfl,rfl,rfl,rfl,rfl,zbo (hd32.trans (beq_eq_false_iff_ne.2 hD)),trivial⟩,trivial,rfl,rfl⟩ ?_
 iterate 6 (refine yv 38 57 false rfl rfl rfl rfl ?_;refine zN 1 hX zaj rfl (by repeat'(first|exact trivial|exact i1|exact q3|exact w1|exact w2|exact w3|exact w4|exact w5|exact w6|(intro h;cases h;done)|(refine⟨?_,?_⟩)|(intro _))) ?_)
 (refine yv 23 42 true rfl rfl rfl rfl ?_;refine zN 1 hX zaj rfl (by repeat'(first|exact trivial|exact i1|exact q3|exact w1|exact w2|exact w3|exact w4|exact w5|exact w6|(intro h;cases h;done)|(refine⟨?_,?_⟩)|(intro _))) ?_)
 refine zT hX zaj rfl (by repeat'(first|exact trivial|exact i1|exact q3|exact w1|exact w2|exact w3|exact w4|exact w5|exact w6|(intro h;cases h;done)|(refine⟨?_,?_⟩)|(intro _))) ?_;exact⟨⟨rfl,rfl,rfl,rfl,rfl,rfl,zbo (hd41.trans hF.symm),trivial⟩,trivial,rfl,rfl⟩
def TrSh:Tr->Prop
 | .leaf n=>¬ (8≤ndK n∧ndK n≤17)∧(0≤ndL n∧ndL n≤1)∧ndR n=0
 | .un n a=>(11≤ndK n∧ndK n≤16)∧ndR n=0∧TrSh a
 | .bin n a b=>((8≤ndK n∧ndK n≤10)∨ndK n=17)∧TrSh a∧TrSh b
theorem zdU:∀ t:Tr,1≤t.size
 | .leaf _=>zl _
 | .un _ a=>by have:=zdU a;rw[vE];omega
 | .bin _ a b=>by have:=zdU a;rw[vE];omega
theorem zfe {k:Int}:two k=true↔(8≤k∧k≤10)∨k=17:=by
 unfold two;rw[yl,yl,yl,beq_iff_eq,beq_iff_eq,beq_iff_eq,beq_iff_eq];omega
theorem zla {n:Nd} {b:Int} (h:¬ (8≤ndK n∧ndK n≤17)):zcv b n=n:=by
 obtain⟨k,c,L,R,rest⟩:=n;have h:¬ (8≤k∧k≤17):=h;have h2:¬ two k=true:=by rw[zfe];omega
 unfold zcv;rw[if_neg h,if_neg h2]
theorem zoK {n:Nd} {b x:Int} (h:11≤ndK n∧ndK n≤16):zcv b (setL n x)=setL n (x+b):=by
 obtain⟨k,c,L,R,rest⟩:=n;have h:11≤k∧k≤16:=h;have h1:8≤k∧k≤17:=by omega
 have h2:¬ two k=true:=by rw[zfe];omega
 show (k,c,(if 8≤k∧k≤17 then x+b else x),(if two k then R+b else R),rest)=(k,c,x+b,R,rest);rw[if_pos h1,if_neg h2]
theorem znf {n:Nd} {b x y:Int} (h:(8≤ndK n∧ndK n≤10)∨ndK n=17):zcv b (zbs n x y)=zbs n (x+b) (y+b):=by
 obtain⟨k,c,L,R,rest⟩:=n;have h:(8≤k∧k≤10)∨k=17:=h;have h1:8≤k∧k≤17:=by omega
 have h2:two k=true:=zfe.2 h;show (k,c,(if 8≤k∧k≤17 then x+b else x),(if two k then y+b else y),rest)=(k,c,x+b,y+b,rest);rw[if_pos h1,if_pos h2]
theorem zeE:∀ (t:Tr) (i j:Nat),TrSh t->zd7 (t.flat i) (j:Int)=t.flat (i+j)
 | .leaf n,i,j,h=>by
  rw[ve,ve];show [zcv _ n]=_;rw[zla h.1]
 | .un n a,i,j,h=>by
  rw[ve,ve];unfold zd7;rw[xO];have:=zeE a i j h.2.2;unfold zd7 at this;rw[this];show _++ [zcv _ _]=_;rw[zoK h.1]
  congr 3
  have:=zdU a;omega
 | .bin n a b,i,j,h=>by
  rw[ve,ve];unfold zd7;rw[xO,xO];have ha:=zeE a i j h.2.1;have hb:=zeE b (i+a.size) j h.2.2;unfold zd7 at ha hb;rw[ha,hb,show i+a.size+j=i+j+a.size by omega];show _++ [zcv _ _]=_;rw[znf h.1];have:=zdU a;have:=zdU b;rw[show ((i+a.size:Nat):Int) - 1+(j:Int)=((i+j+a.size:Nat):Int) - 1 by omega,show ((i+a.size+b.size:Nat):Int) - 1+(j:Int)=((i+j+a.size+b.size:Nat):Int) - 1 by omega]
theorem zoB (a:Tr) (n:Nd):zqK (a.flat 0) n=(Tr.un n a).flat 0:=by
 rw[ve];unfold zqK;rw[yW,Nat.zero_add]
theorem zpS (a b:Tr) (n:Nd) (h:TrSh b):zrz (a.flat 0) (b.flat 0) n=(Tr.bin n a b).flat 0:=by
 rw[ve];unfold zrz;rw[yW,yW,zeE b 0 a.size h,Nat.zero_add]
 congr 3
theorem zjk:∀ (t:Tr) (i:Nat),TrSh t->∀ n∈t.flat i,(0≤ndL n∧ndL n≤i+t.size)∧(0≤ndR n∧ndR n≤i+t.size)
 | .leaf n,i,h,x,hx=>by
  obtain rfl:=zw.1 hx;obtain⟨_,⟨h1,h2⟩,h3⟩:=h;rw[vE];exact⟨⟨h1,by omega⟩,⟨by omega,by omega⟩⟩
 | .un n a,i,h,x,hx=>by
  rw[ve]at hx;rw[vE];have hs:=zdU a;rcases yG.1 hx with hx|hx
  ·have:=zjk a i h.2.2 x hx;omega
  ·obtain rfl:=zw.1 hx;have hr:ndR n=0:=h.2.1;show (0≤((i+a.size:Nat):Int) - 1∧((i+a.size:Nat):Int) - 1≤_)∧(0≤ndR n∧ndR n≤_);omega
 | .bin n a b,i,h,x,hx=>by
  rw[ve]at hx;rw[vE];have hs:=zdU a;have ht:=zdU b;rcases yG.1 hx with hx|hx
  ·rcases yG.1 hx with hx|hx
   ·have:=zjk a i h.2.1 x hx;omega
   ·have:=zjk b (i+a.size) h.2.2 x hx;omega
  ·obtain rfl:=zw.1 hx;show (0≤((i+a.size:Nat):Int) - 1∧((i+a.size:Nat):Int) - 1≤_)∧(0≤((i+a.size+b.size:Nat):Int) - 1∧((i+a.size+b.size:Nat):Int) - 1≤_);omega
def zaG (m:Mk):Mk:=(mkD m,mkU m,mkN m,mkS m+1,())
def zfY (d:Nat) (p:Int×Mk):Bool:=decide (d=0)||decide (mkU p.2 > (((mkD p.2).length:Nat):Int))||decide (mkS p.2 > 30)||decide (10≤p.1)
def mOne (k ids:Int) (m:Mk):Nd×Mk:=
 if k=11 then ((k,0,0,0,(zak m 15).1 - 7,0,[],[],()),(zak m 15).2)
 else if k=12∨k=13 then ((k,0,0,0,(zak m 60).1,0,[],[],()),(zak m 60).2)
 else if k=14∨k=15 then ((k,0,0,0,0,0,(zaI m 0 60).1,[],()),(zaI m 0 60).2)
 else let p:=zak m ids;let q:=zak p.2 2;let r:=zaI q.2 (-3) 3;((k,p.1,0,0,0,q.1,r.1,[],()),r.2)
def mCnt (k:Int) (m:Mk):Int×Mk:=if k=17 then (1+(zak m 3).1,(zak m 3).2) else (0,m)
def mTr (ids:Int):Nat->Mk->Tr×Mk
 |0,m=>(.leaf (zdc (zak (zaG m) 14).2 ids).1,(zdc (zak (zaG m) 14).2 ids).2)
 |d+1,m=>
  let p:=zak (zaG m) 14
  if zfY (d+1) p=true then (.leaf (zdc p.2 ids).1,(zdc p.2 ids).2)
  else
   let a:=mTr ids d p.2
   if two (8+p.1)=true then
    let c:=mCnt (8+p.1) a.2
    let b:=mTr ids d c.2
    (.bin (8+p.1,0,0,0,c.1,0,[],[],()) a.1 b.1,b.2)
   else (.un (mOne (8+p.1) ids a.2).1 a.1,(mOne (8+p.1) ids a.2).2)
def MkLe (c:Nat) (m r:Mk):Prop:=mkN r=mkN m∧mkS r=mkS m∧mkD r=mkD m∧mkU m≤mkU r∧mkU r≤mkU m+(c:Int)
theorem MkLe.trans {a b:Nat} {m r s:Mk} (h1:MkLe a m r) (h2:MkLe b r s):MkLe (a+b) m s:=by
 obtain⟨x1,x2,x3,x4,x5⟩:=h1;obtain⟨y1,y2,y3,y4,y5⟩:=h2;exact⟨y1.trans x1,y2.trans x2,y3.trans x3,by omega,by omega⟩
theorem MkLe.mono {a b:Nat} {m r:Mk} (h:MkLe a m r) (hab:a≤b):MkLe b m r:=by
 obtain⟨x1,x2,x3,x4,x5⟩:=h;exact⟨x1,x2,x3,x4,by omega⟩
theorem MkLe.refl (m:Mk):MkLe 0 m m:=⟨rfl,rfl,rfl,xF _,by omega⟩
theorem zbk (m:Mk) (n:Int):MkLe 1 m (zak m n).2:=⟨rfl,rfl,rfl,by rw[zaT];omega,by rw[zaT];omega⟩
theorem zrM (lo hi:Int):∀ (k:Nat) (m:Mk) (v:Int) (acc:List Int),MkLe k m (mRis lo hi k m v acc).2
 |0,m,_,_=>MkLe.refl m
 |k+1,m,v,acc=>by
  rw[mRis];split
  ·exact ((zbk m 3).trans (zrM lo hi k _ _ _)).mono (by omega)
  ·exact (MkLe.refl m).mono (by omega)
theorem zdI (m:Mk) (lo hi:Int):MkLe 6 m (zaI m lo hi).2:=by
 have h:=zaH m (n:=4) (by decide);have h3:=zrM lo hi (1+(zak m 4).1).toNat (zak (zak m 4).2 (hi - lo+1)).2 (lo+(zak (zak m 4).2 (hi - lo+1)).1) [];exact (((zbk m 4).trans (zbk _ _)).trans h3).mono (by omega)
theorem zsL (k c:Int) (m:Mk):MkLe 6 m (zgq k c m).2:=by
 unfold zgq;split
 ·exact ((zbk m 12).trans (zbk _ 20)).mono (by omega)
 split
 ·exact ((zbk m 4).trans (zbk _ (1+(zak m 4).1))).mono (by omega)
 split
 ·exact zdI _ _ _
 split
 ·exact zdI _ _ _
 split
 ·exact zdI _ _ _
 split
 ·exact zdI _ _ _
 ·exact ((((zbk m 3).trans (zbk _ 2)).trans (zbk _ 7)).trans (zbk _ 2)).mono (by omega)
theorem zrH (k:Int) (m:Mk):MkLe 1 m (zc1 k m).2:=by
 unfold zc1;split
 ·exact (MkLe.refl m).mono (by omega)
 split
 ·exact zbk m 2
 ·exact (MkLe.refl m).mono (by omega)
theorem cyc_le (k:Int) (m:Mk) (ids:Int):MkLe 1 m (zeb k m ids).2:=by
 unfold zeb;split
 ·exact zbk m ids
 ·exact (MkLe.refl m).mono (by omega)
theorem zo5 (m:Mk) (ids:Int):MkLe 9 m (zdc m ids).2:=by
 unfold zdc ziw;have h1:=(zbk m 8).trans (zrH (1+(zak m 8).1) (zak m 8).2);dsimp only;split
 ·exact (h1.trans (zbk _ (mkN (zc1 (1+(zak m 8).1) (zak m 8).2).2))).mono (by omega)
 ·exact ((h1.trans (cyc_le _ _ _)).trans (zsL _ _ _)).mono (by omega)
theorem one_le (k ids:Int) (m:Mk):MkLe 8 m (mOne k ids m).2:=by
 unfold mOne;split
 ·exact (zbk m 15).mono (by omega)
 split
 ·exact (zbk m 60).mono (by omega)
 split
 ·exact (zdI m 0 60).mono (by omega)
 ·exact (((zbk m ids).trans (zbk _ 2)).trans (zdI _ _ _)).mono (by omega)
theorem zmx (k:Int) (m:Mk):MkLe 1 m (mCnt k m).2:=by
 unfold mCnt;split
 ·exact zbk m 3
 ·exact (MkLe.refl m).mono (by omega)
def MkGe (c e:Nat) (m r:Mk):Prop:=mkN r=mkN m∧mkD r=mkD m∧(mkS m≤mkS r∧mkS r≤mkS m+(e:Int))∧mkU m≤mkU r∧mkU r≤mkU m+(c:Int)
theorem MkGe.trans {a b e f:Nat} {m r s:Mk} (h1:MkGe a e m r) (h2:MkGe b f r s):MkGe (a+b) (e+f) m s:=by
 obtain⟨x1,x2,⟨x3,x6⟩,x4,x5⟩:=h1;obtain⟨y1,y2,⟨y3,y6⟩,y4,y5⟩:=h2;exact⟨y1.trans x1,y2.trans x2,⟨by omega,by omega⟩,by omega,by omega⟩
theorem MkLe.ge {a:Nat} {m r:Mk} (h:MkLe a m r):MkGe a 0 m r:=by
 obtain⟨x1,x2,x3,x4,x5⟩:=h;exact⟨x1,x3,⟨by omega,by omega⟩,x4,x5⟩
theorem MkGe.mono {a b e f:Nat} {m r:Mk} (h:MkGe a e m r) (hab:a≤b) (hef:e≤f):MkGe b f m r:=by
 obtain⟨x1,x2,⟨x3,x6⟩,x4,x5⟩:=h;exact⟨x1,x2,⟨by omega,by omega⟩,x4,by omega⟩
theorem zlj (m:Mk):MkGe 0 1 m (zaG m):=⟨rfl,rfl,⟨by show mkS m≤mkS m+1;omega,by show mkS m+1≤_;omega⟩,xF _,by show mkU m≤_;omega⟩
def mMax:Nat->Nat
 |0=>1
 |d+1=>2 * mMax d+1
theorem zj9 (ids:Int):∀ (d:Nat) (m:Mk),MkGe (20 * mMax d) (mMax d) m (mTr ids d m).2
 |0,m=>(((zlj m).trans (zbk _ 14).ge).trans (zo5 _ _).ge).mono (by decide) (by decide)
 |d+1,m=>by
  have h0:=(zlj m).trans (zbk (zaG m) 14).ge;have hM:mMax (d+1)=2 * mMax d+1:=rfl;rw[mTr];dsimp only;split
  ·exact (h0.trans (zo5 _ _).ge).mono (by omega) (by omega)
  have ha:=zj9 ids d (zak (zaG m) 14).2;split
  ·exact (((h0.trans ha).trans (zmx _ _).ge).trans (zj9 ids d _)).mono (by omega) (by omega)
  ·exact ((h0.trans ha).trans (one_le _ _ _).ge).mono (by omega) (by omega)
theorem zfs (ids:Int):∀ (d:Nat) (m:Mk),(mTr ids d m).1.size≤mMax d
 |0,m=>zl _
 |d+1,m=>by
  have hM:mMax (d+1)=2 * mMax d+1:=rfl;rw[mTr];dsimp only;split
  ·rw[vE];omega
  have ha:=zfs ids d (zak (zaG m) 14).2;split
  ·rw[vE];have hb:=zfs ids d (mCnt (8+(zak (zaG m) 14).1) (mTr ids d (zak (zaG m) 14).2).2).2;omega
  ·rw[vE];omega
theorem zrX {k:Int} {m:Mk} (hn:0≤mkN m) (hk:1≤k∧k≤8) (hc:¬ (k=8∧mkN (zc1 k m).2 > 0)):1≤lfK k (zc1 k m).1∧lfK k (zc1 k m).1≤7:=by
 unfold zc1 at hc ⊢;by_cases h8:k=8
 ·rw[if_pos h8]at hc ⊢;have hz:mkN m=0:=by
   by_cases hz:mkN m=0
   ·exact hz
   ·exact absurd ⟨h8,by show mkN m > 0;omega⟩ hc
  rw[hz];show (1:Int)≤1∧(1:Int)≤7;omega
 ·rw[if_neg h8];have:∀ b:Bool,1≤lfK k b∧lfK k b≤7:=fun b=>by
   cases b with
   |true=>show (1:Int)≤1∧(1:Int)≤7;omega
   |false=>show 1≤k∧k≤7;omega
  exact this _
theorem zgh {n:Nd} (k L:Int) (h:ndK n=k) (hk:¬ (8≤k∧k≤17)) (hL:ndL n=L) (h0:0≤L∧L≤1) (hR:ndR n=0):TrSh (.leaf n):=⟨by rw[h];exact hk,by rw[hL];exact h0,hR⟩
theorem zsJ {k c:Int} {m:Mk} (hk:1≤k∧k≤7):TrSh (.leaf (zgq k c m).1):=by
 rcases (show k=1∨k=2∨k=3∨k=4∨k=5∨k=6∨k=7 by omega) with rfl|rfl|rfl|rfl|rfl|rfl|rfl
 ·exact zgh 1 0 rfl (by decide) rfl (by decide) rfl
 ·exact zgh 2 0 rfl (by decide) rfl (by decide) rfl
 ·exact zgh 3 0 rfl (by decide) rfl (by decide) rfl
 ·exact zgh 4 0 rfl (by decide) rfl (by decide) rfl
 ·exact zgh 5 0 rfl (by decide) rfl (by decide) rfl
 ·exact zgh 6 0 rfl (by decide) rfl (by decide) rfl
 ·have:=zaH (zak (zak (zak m 3).2 2).2 7).2 (n:=2) (by decide);exact zgh 7 (zak (zak (zak (zak m 3).2 2).2 7).2 2).1 rfl (by decide) rfl (by omega) rfl
theorem zo3 (m:Mk) (ids:Int) (hn:0≤mkN m):TrSh (.leaf (zdc m ids).1):=by
 have hk:=zaH m (n:=8) (by decide);unfold zdc ziw;dsimp only;split
 ·exact zgh 18 0 rfl (by decide) rfl (by decide) rfl
 ·rename_i hc;exact zsJ (zrX (m:=(zak m 8).2) hn (by omega) hc)
theorem zrT {k ids:Int} {m:Mk}:ndK (mOne k ids m).1=k∧ndL (mOne k ids m).1=0∧ndR (mOne k ids m).1=0:=by
 unfold mOne;split
 ·exact⟨rfl,rfl,rfl⟩
 split
 ·exact⟨rfl,rfl,rfl⟩
 split
 ·exact⟨rfl,rfl,rfl⟩
 ·exact⟨rfl,rfl,rfl⟩
theorem zlX (ids:Int):∀ (d:Nat) (m:Mk),0≤mkN m->TrSh (mTr ids d m).1
 |0,m,h=>zo3 _ _ h
 |d+1,m,h=>by
  have hp:=zaH (zaG m) (n:=14) (by decide);rw[mTr];dsimp only;split
  ·exact zo3 _ _ h
  rename_i hst;have hs:(zak (zaG m) 14).1 < 10:=by
   have:¬ zfY (d+1) (zak (zaG m) 14)=true:=hst;unfold zfY at this;simp only[yl,decide_eq_true_iff,not_or]at this;omega
  have h0:0≤mkN (zak (zaG m) 14).2:=h;have ha:=zlX ids d (zak (zaG m) 14).2 h0;have hg:=(zj9 ids d (zak (zaG m) 14).2).1;split
  ·rename_i ht;have hc:=(zmx (8+(zak (zaG m) 14).1) (mTr ids d (zak (zaG m) 14).2).2).1;exact⟨zfe.1 ht,ha,zlX ids d _ (by rw[hc,hg];exact h0)⟩
  ·rename_i ht;obtain⟨e1,_,e3⟩:=zrT (k:=8+(zak (zaG m) 14).1) (ids:=ids) (m:=(mTr ids d (zak (zaG m) 14).2).2);refine⟨?_,e3,ha⟩;rw[e1];rw[zfe]at ht;omega
def zgu (D:Nat):RCtr:={ self:=mkr,args:=[i64,i64],inv:=fun _ _=>True,pre:=fun m xs=>[0≤xs.1,xs.1 < (D:Int),mMax xs.1.toNat≤10000,0≤mkU m∧mkU m+20 * ((mMax xs.1.toNat:Nat):Int)≤500000,0≤mkN m∧mkN m≤1000000,0≤mkS m∧mkS m+((mMax xs.1.toNat:Nat):Int)≤500000,0 < xs.2.1∧xs.2.1≤1000000],res:=.slice nd,out:=fun m xs=>(mTr xs.2.1 xs.1.toNat m).1.flat 0,post:=fun m xs=>(mTr xs.2.1 xs.1.toNat m).2 }
theorem zoN:∀ d:Nat,d≤mMax d
 |0=>zk _
 |d+1=>by have:=zoN d;show d+1≤2 * mMax d+1;omega
theorem zqT {ids:Int} {d:Nat} {m:Mk} (h:zfY d (zak (zaG m) 14)=true):mTr ids d m=(.leaf (zdc (zak (zaG m) 14).2 ids).1,(zdc (zak (zaG m) 14).2 ids).2):=by
 cases d with
 |zero=>rfl
 |succ d=>rw[mTr];exact if_pos h
theorem mTr_go {ids:Int} {d:Nat} {m:Mk} (h:¬ zfY (d+1) (zak (zaG m) 14)=true):mTr ids (d+1) m=if two (8+(zak (zaG m) 14).1)=true then
  (.bin (8+(zak (zaG m) 14).1,0,0,0,(mCnt (8+(zak (zaG m) 14).1) (mTr ids d (zak (zaG m) 14).2).2).1,0,[],[],()) (mTr ids d (zak (zaG m) 14).2).1 (mTr ids d (mCnt (8+(zak (zaG m) 14).1) (mTr ids d (zak (zaG m) 14).2).2).2).1,(mTr ids d (mCnt (8+(zak (zaG m) 14).1) (mTr ids d (zak (zaG m) 14).2).2).2).2)
  else (.un (mOne (8+(zak (zaG m) 14).1) ids (mTr ids d (zak (zaG m) 14).2).2).1 (mTr ids d (zak (zaG m) 14).2).1,(mOne (8+(zak (zaG m) 14).1) ids (mTr ids d (zak (zaG m) 14).2).2).2):=by
 rw[mTr];exact if_neg h
def kRu (D:Nat):Kn:={ gmK with C:=[(94,cTwo),(97,cOver),(95,cBoth)],R:=[(92,zrx),(96,zlx),(93,zse),(58,zgu D)] }
theorem kRu_ok {D:Nat} (ih:zeW Tryz.prog gmG 58 (zgu D)):KnOk Tryz.prog gmG (kRu D):=
 { zaC.with (.cons zrF (.cons zsQ (.cons ztZ .nil))) with r:=.cons zk5 (fun _ _=>trivial) (.cons zjW (fun _ _=>trivial) (.cons zqQ (fun _ _=>trivial) (.cons ih (fun _ _=>trivial) .nil))) }
theorem ztY {x y:Mk} (h:x=y):some (OObj.box mkr x)=some (OObj.box mkr y):=by rw[h]
abbrev sRu (m:Mk) (d:Nat) (ids k:Int) (n:Nd) (a:List Nd):AS:=⟨[(0,⟨.optr mkr,⟨0,mkr,.here⟩⟩),(1,⟨i64,(d:Int)⟩),(2,⟨i64,ids⟩),(8,⟨.optr nd,⟨1,nd,.here⟩⟩),(9,⟨.slice nd,a⟩)],[(0,some (.box mkr m)),(1,some (.box nd n))],2⟩
theorem zog (D:Nat) (ih:zeW Tryz.prog gmG 58 (zgu D)):zeW Tryz.prog gmG 58 (zgu (D+1)):=by
 have hK:=kRu_ok ih;refine zdW (K:=kRu D) hK Tryz.func58 rfl rfl Tryz.call58 rfl (zb rfl) (fun w w' g hg h hk=>trivial) ?_;rintro w0 O g hX hinv (m:Mk) ⟨(d:Int),(ids:Int),_⟩ hp;obtain⟨d,rfl⟩:∃ e:Nat,d=(e:Int):=⟨d.toNat,by have:0≤d:=hp.1;omega⟩;obtain⟨h0,hD,hM,⟨h1,h2⟩,⟨h3,h4⟩,⟨h5,h6⟩,h7,h8⟩:0≤(d:Int)∧(d:Int) < ((D+1:Nat):Int)∧mMax d≤10000∧(0≤mkU m∧mkU m+20 * ((mMax d:Nat):Int)≤500000)∧(0≤mkN m∧mkN m≤1000000)∧(0≤mkS m∧mkS m+((mMax d:Nat):Int)≤500000)∧0 < ids∧ids≤1000000:=hp;have hout:(zgu (D+1)).out m ((d:Int),ids,())=(mTr ids d m).1.flat 0:=rfl;have hpost:(zgu (D+1)).post m ((d:Int),ids,())=(mTr ids d m).2:=rfl;change AWP _ _ _ _ _ ⟨[(0,⟨.optr mkr,⟨0,mkr,.here⟩⟩),(1,⟨i64,(d:Int)⟩),(2,⟨i64,ids⟩)],[(0,some (.box mkr m))],1⟩ _;obtain⟨R,hRR⟩:∃ R,R=mTr ids d m:=⟨_,rfl⟩;have i1:inR .i64 (mkS m+1):=zam (by omega) (by omega);refine za (za ?_);refine zaa hX hK rfl ?_ ?_
 ·trivial
 refine za (za ?_);refine zaa hX hK rfl ?_ ?_
 ·exact i1
 have g1:0≤mkU (zaG m):=h1;have g2:mkU (zaG m)≤1000000:=by show mkU m≤_;omega
 refine zap (σ':=⟨[(0,⟨.optr mkr,⟨0,mkr,.here⟩⟩),(1,⟨i64,(d:Int)⟩),(2,⟨i64,ids⟩)],[(0,some (.box mkr (zaG m)))],1⟩) ⟨⟨rfl,rfl,rfl,trivial⟩,⟨rfl,trivial⟩,rfl,rfl⟩ ?_;have hge:=(zlj m).trans (zbk (zaG m) 14).ge;have hk:=zaH (zaG m) (n:=14) (by decide);refine za (za ?_);refine zaa hX hK rfl ?_ ?_
 ·repeat'(first|exact trivial|assumption|exact g1|exact g2|(refine⟨?_,?_⟩)|(intro _)|exact zb rfl|exact zi _|(simp_all [allP];done))
 have hstop:=@zqT ids d m;rw[<-hRR]at hstop;have hgo:=@mTr_go ids (d - 1) m;obtain⟨p,hP⟩:∃ p,p=zak (zaG m) 14:=⟨_,rfl⟩;rw[<-hP]at hstop hgo hge hk;refine zap (σ':=⟨[(0,⟨.optr mkr,⟨0,mkr,.here⟩⟩),(1,⟨i64,(d:Int)⟩),(2,⟨i64,ids⟩),(7,⟨i64,p.1⟩)],[(0,some (.box mkr p.2))],1⟩) ⟨⟨rfl,rfl,rfl,by rw[hP];rfl,trivial⟩,⟨ztY (by rw[hP];rfl),trivial⟩,rfl,rfl⟩ ?_;clear hP;obtain⟨(k:Int),(m1:Mk)⟩:=p;have hk:0≤k∧k < 14:=hk;obtain⟨e1,e2,⟨e3,e4⟩,e5,e6⟩:MkGe (0+1) (1+0) m m1:=hge;have hM1:1≤mMax d:=by cases d with
  |zero=>exact zl _
  |succ d=>show 1≤2 * mMax d+1;omega
 have hstop:zfY d (k,m1)=true->R=(.leaf (zdc m1 ids).1,(zdc m1 ids).2):=hstop;have hq:(bif (bif (bif decide ((d:Int)≤0) then true else decide (mkU m1 > (((mkD m1).length:Nat):Int))) then true else decide (mkS m1 > 30)) then true else decide (k≥10))=zfY d (k,m1):=by
  rw[b_or,b_or,b_or];unfold zfY;have:decide ((d:Int)≤0)=decide (d=0):=decide_eq_decide.2 (by omega);rw[this]
 change AWP _ _ _ _ _ ⟨[(0,⟨.optr mkr,⟨0,mkr,.here⟩⟩),(1,⟨i64,(d:Int)⟩),(2,⟨i64,ids⟩),(7,⟨i64,k⟩)],[(0,some (.box mkr m1))],1⟩ _;(repeat(first|apply zae|apply zab|apply zac|apply zad));refine kL dM hX hK 24 (by kernel_rfl) rfl rfl ?_ ?_ ?_
 ·repeat'(first|exact trivial|assumption|(refine⟨?_,?_⟩)|(intro _)|exact zb rfl|exact zi _|(simp_all [allP];done))
 ·repeat'(first|exact trivial|assumption|(refine⟨?_,?_⟩)|(intro _)|exact zb rfl|exact zi _|(simp_all [allP];done))
 refine zaf rfl (fun hc=>?_) (fun hc=>?_)
 ·have hc:=hq.symm.trans hc;have hR:=hstop hc;have j1:0≤mkU m1:=by omega
  have j2:mkU m1≤800000:=by omega
  have j3:0≤mkN m1:=by omega
  have j4:mkN m1≤1000000:=by omega
  refine za (za ?_);refine zaa hX hK rfl ?_ ?_
  ·repeat'(first|exact trivial|assumption|exact j1|exact j2|exact j3|exact j4|exact h7|exact h8|(refine⟨?_,?_⟩)|(intro _)|exact zb rfl|exact zi _|(simp_all [allP];done))
  refine qZ hX 6 ?_;refine zr ⟨.inr rfl,?_,zaw rfl trivial rfl rfl ?_⟩
  ·show some (OObj.box mkr (zdc m1 ids).2)=some (OObj.box mkr (mTr ids d m).2);rw[<-hRR,hR]
  ·show [(zdc m1 ids).1]=(mTr ids d m).1.flat 0;rw[<-hRR,hR];rfl
 have hc:=hq.symm.trans hc;have hd0:d≠0:=fun h=>by
  have:zfY d (k,m1)=true:=by unfold zfY;rw[decide_eq_true h];rfl
  rw[this]at hc;cases hc
 obtain⟨d,rfl⟩:∃ e,d=e+1:=⟨d - 1,by omega⟩;have hk10:k < 10:=by
  unfold zfY at hc;simp only[xu,decide_eq_false_iff_not]at hc;have:=hc.2;omega
 have hR:=hgo (by rw[show d+1 - 1+1=d+1 by omega,hc];decide);rw[show d+1 - 1=d by omega, <-hRR]at hR;clear hgo hstop hq hc;have hR:R=if two (8+k)=true then (.bin (8+k,0,0,0,(mCnt (8+k) (mTr ids d m1).2).1,0,[],[],()) (mTr ids d m1).1 (mTr ids d (mCnt (8+k) (mTr ids d m1).2).2).1,(mTr ids d (mCnt (8+k) (mTr ids d m1).2).2).2)
  else (.un (mOne (8+k) ids (mTr ids d m1).2).1 (mTr ids d m1).1,(mOne (8+k) ids (mTr ids d m1).2).2):=hR
 have hMM:mMax (d+1)=2 * mMax d+1:=rfl;have n1:0≤((d+1:Nat):Int) - 1:=by omega
 have n2:((d+1:Nat):Int) - 1 < (D:Int):=by omega
 have n3:(((d+1:Nat):Int) - 1).toNat=d:=by omega
 have n4:mMax (((d+1:Nat):Int) - 1).toNat≤10000:=by rw[n3];omega
 have n5:0≤mkU m1∧mkU m1+20 * ((mMax (((d+1:Nat):Int) - 1).toNat:Nat):Int)≤500000:=by rw[n3];omega
 have n6:0≤mkN m1∧mkN m1≤1000000:=by omega
 have n7:0≤mkS m1∧mkS m1+((mMax (((d+1:Nat):Int) - 1).toNat:Nat):Int)≤500000:=by rw[n3];omega
 have n8:0 < ids∧ids≤1000000:=⟨h7,h8⟩;have n9:inR .i64 (((d+1:Nat):Int) - 1):=zam (by omega) (by have:=zoN d;omega);have n10:inR .i64 (8+k):=zam (by omega) (by omega);refine za (za ?_);refine zaa hX hK rfl ?_ ?_
 ·exact n10
 refine za (za ?_);refine zaa hX hK rfl ?_ ?_
 ·exact⟨n9,n1,n2,n4,n5,n6,n7,n8⟩
 refine zap (σ':=sRu (mTr ids d m1).2 (d+1) ids (8+k) (8+k,0,0,0,0,0,[],[],()) ((mTr ids d m1).1.flat 0)) ⟨⟨rfl,rfl,rfl,rfl,by show (⟨.slice nd,(mTr ids (((d+1:Nat):Int) - 1).toNat m1).1.flat 0⟩:V)=_;rw[n3],trivial⟩,⟨ztY (by show (mTr ids (((d+1:Nat):Int) - 1).toNat m1).2=_;rw[n3]),rfl,trivial⟩,rfl,rfl⟩ ?_;have sh:=zlX ids d m1 n6.1;have sz:=zfs ids d m1;have ge:=zj9 ids d m1;generalize mTr ids d m1=A at *;obtain⟨(a:Tr),(m2:Mk)⟩:=A;have sh:TrSh a:=sh;have sz:a.size≤mMax d:=sz;obtain⟨f1,f2,⟨f3,f4⟩,f5,f6⟩:MkGe (20 * mMax d) (mMax d) m1 m2:=ge;have sa:=zdU a;have la:=yW a 0;have hR:R=if two (8+k)=true then (.bin (8+k,0,0,0,(mCnt (8+k) m2).1,0,[],[],()) a (mTr ids d (mCnt (8+k) m2).2).1,(mTr ids d (mCnt (8+k) m2).2).2)
  else (.un (mOne (8+k) ids m2).1 a,(mOne (8+k) ids m2).2):=hR
 show AWP _ _ _ _ _ (sRu m2 (d+1) ids (8+k) (8+k,0,0,0,0,0,[],[],()) (a.flat 0)) _;generalize hkk:8+k=c at *;have hc1:8≤c∧c≤17:=by omega
 have w1:0≤mkU m2:=by omega
 have w2:mkU m2≤1000000:=by omega
 have w3:mkU m2≤900000:=by omega
 refine za (za ?_);refine zaa hX hK rfl ?_ ?_
 ·trivial
 refine zaf rfl (fun hc=>?_) (fun hc=>?_)
 ·have hc:two c=true:=hc;rw[if_pos hc]at hR;apply zae;refine qY (σ':=sRu (mCnt c m2).2 (d+1) ids c (c,0,0,0,(mCnt c m2).1,0,[],[],()) (a.flat 0)) ?_ ?_
  ·refine za (za ?_);refine zaa hX hK rfl ?_ ?_
   ·trivial
   refine zaf rfl (fun hb=>?_) (fun hb=>?_)
   ·have hb:(c==17)=true:=hb;have e:mCnt c m2=(1+(zak m2 3).1,(zak m2 3).2):=if_pos (eq_of_beq hb);have hp:=zaH m2 (n:=3) (by decide);have z1:inR .i64 (1+(zak m2 3).1):=zam (by omega) (by omega);rw[e];refine za (za ?_);refine zaa hX hK rfl ?_ ?_
    ·repeat'(first|exact trivial|assumption|exact w1|exact w2|exact z1|(refine⟨?_,?_⟩)|(intro _)|exact zb rfl|exact zi _|(simp_all [allP];done))
    exact⟨⟨rfl,rfl,rfl,rfl,rfl,trivial⟩,⟨rfl,rfl,trivial⟩,rfl,rfl⟩
   ·have hb:(c==17)=false:=hb;have e:mCnt c m2=(0,m2):=if_neg (by simpa using hb);rw[e];apply zab;exact⟨⟨rfl,rfl,rfl,rfl,rfl,trivial⟩,⟨rfl,rfl,trivial⟩,rfl,rfl⟩
  obtain⟨x1,x2,x3,x4,x5⟩:MkLe 1 m2 (mCnt c m2).2:=zmx c m2;generalize mCnt c m2=q at *;obtain⟨(cn:Int),(m3:Mk)⟩:=q;have x1:mkN m3=mkN m2:=x1;have x2:mkS m3=mkS m2:=x2;have x4:mkU m2≤mkU m3:=x4;have x5:mkU m3≤mkU m2+((1:Nat):Int):=x5;have hR:R=(.bin (c,0,0,0,cn,0,[],[],()) a (mTr ids d m3).1,(mTr ids d m3).2):=hR;have v5:0≤mkU m3∧mkU m3+20 * ((mMax (((d+1:Nat):Int) - 1).toNat:Nat):Int)≤500000:=by rw[n3];omega
  have v6:0≤mkN m3∧mkN m3≤1000000:=by omega
  have v7:0≤mkS m3∧mkS m3+((mMax (((d+1:Nat):Int) - 1).toNat:Nat):Int)≤500000:=by rw[n3];omega
  refine za (za ?_);refine zaa hX hK rfl ?_ ?_
  ·exact⟨n9,n1,n2,n4,v5,v6,v7,n8⟩
  have sb:=zlX ids d m3 v6.1;have sz2:=zfs ids d m3;have lb:=yW (mTr ids d m3).1 0;have hb4:=zjk (mTr ids d m3).1 0 sb;have q1:1≤(a.flat 0).length:=by omega
  have q2:(a.flat 0).length≤100000:=by omega
  have q3:((mTr ids (((d+1:Nat):Int) - 1).toNat m3).1.flat 0).length≤100000:=by rw[n3];omega
  have q4:∀ n∈(mTr ids (((d+1:Nat):Int) - 1).toNat m3).1.flat 0,(-1000000≤ndL n∧ndL n≤1000000)∧(-1000000≤ndR n∧ndR n≤1000000):=by
   rw[n3];intro n hn;have:=hb4 n hn;omega
  refine za (za ?_);refine zaa hX hK rfl ?_ ?_
  ·exact⟨q1,q2,q3,q4⟩
  refine zr ⟨.inr rfl,?_,zaw rfl trivial rfl rfl ?_⟩
  ·show some (OObj.box mkr (mTr ids (((d+1:Nat):Int) - 1).toNat m3).2)=some (OObj.box mkr (mTr ids (d+1) m).2);rw[<-hRR,hR,n3]
  ·show zrz (a.flat 0) ((mTr ids (((d+1:Nat):Int) - 1).toNat m3).1.flat 0) (c,0,0,0,cn,0,[],[],())=(mTr ids (d+1) m).1.flat 0;rw[<-hRR,hR,n3,zpS a (mTr ids d m3).1 _ sb]
 ·have hc:two c=false:=hc;rw[hc,if_neg (by decide)]at hR;have hn2:¬ two c=true:=by rw[hc];decide
  rw[zfe]at hn2;apply zab;refine za (za ?_);refine zaa hX hK rfl ?_ ?_
  ·trivial
  refine qY (σ':=sRu (mOne c ids m2).2 (d+1) ids c (mOne c ids m2).1 (a.flat 0)) ?_ ?_
  ·apply zac;clear hR hkk n10;rcases (show c=11∨c=12∨c=13∨c=14∨c=15∨c=16 by omega) with rfl|rfl|rfl|rfl|rfl|rfl
   ·skip
    refine za (za ?_);refine zaa hX hK rfl ?_ ?_
    ·trivial
    refine zaf rfl (fun _=>?_) (fun hb=>absurd (show ((11:Int)==11)=false from hb) (by decide));have hp:=zaH m2 (n:=15) (by decide);have z1:inR .i64 ((zak m2 15).1 - 7):=zam (by omega) (by omega);refine za (za ?_);refine zaa hX hK rfl ?_ ?_
    ·repeat'(first|exact trivial|assumption|exact w1|exact w2|exact z1|(refine⟨?_,?_⟩)|(intro _)|exact zb rfl|exact zi _|(simp_all [allP];done))
    exact⟨⟨rfl,rfl,rfl,rfl,rfl,trivial⟩,⟨rfl,rfl,trivial⟩,rfl,rfl⟩
   ·skip
    refine za (za ?_);refine zaa hX hK rfl ?_ ?_
    ·trivial
    refine zaf rfl (fun hb=>absurd (show ((12:Int)==11)=true from hb) (by decide)) (fun _=>?_);refine za (za ?_);refine zaa hX hK rfl ?_ ?_
    ·trivial
    refine zaf rfl (fun _=>?_) (fun hb=>absurd (show ((12:Int)==12)=false from hb) (by decide));apply zab;refine zaf rfl (fun _=>?_) (fun hb=>absurd (show ((12:Int)==12)=false from hb) (by decide));refine za (za ?_);refine zaa hX hK rfl ?_ ?_
    ·repeat'(first|exact trivial|assumption|exact w1|exact w2|(refine⟨?_,?_⟩)|(intro _)|exact zb rfl|exact zi _|(simp_all [allP];done))
    exact⟨⟨rfl,rfl,rfl,rfl,rfl,trivial⟩,⟨rfl,rfl,trivial⟩,rfl,rfl⟩
   ·skip
    refine za (za ?_);refine zaa hX hK rfl ?_ ?_
    ·trivial
    refine zaf rfl (fun hb=>absurd (show ((13:Int)==11)=true from hb) (by decide)) (fun _=>?_);refine za (za ?_);refine zaa hX hK rfl ?_ ?_
    ·trivial
    refine zaf rfl (fun hb=>absurd (show ((13:Int)==12)=true from hb) (by decide)) (fun _=>?_);refine za (za ?_);refine zaa hX hK rfl ?_ ?_
    ·trivial
    refine zaf rfl (fun _=>?_) (fun hb=>absurd (show ((13:Int)==13)=false from hb) (by decide));refine za (za ?_);refine zaa hX hK rfl ?_ ?_
    ·repeat'(first|exact trivial|assumption|exact w1|exact w2|(refine⟨?_,?_⟩)|(intro _)|exact zb rfl|exact zi _|(simp_all [allP];done))
    exact⟨⟨rfl,rfl,rfl,rfl,rfl,trivial⟩,⟨rfl,rfl,trivial⟩,rfl,rfl⟩
   ·skip
    refine za (za ?_);refine zaa hX hK rfl ?_ ?_
    ·trivial
    refine zaf rfl (fun hb=>absurd (show ((14:Int)==11)=true from hb) (by decide)) (fun _=>?_);refine za (za ?_);refine zaa hX hK rfl ?_ ?_
    ·trivial
    refine zaf rfl (fun hb=>absurd (show ((14:Int)==12)=true from hb) (by decide)) (fun _=>?_);refine za (za ?_);refine zaa hX hK rfl ?_ ?_
    ·trivial
    refine zaf rfl (fun hb=>absurd (show ((14:Int)==13)=true from hb) (by decide)) (fun _=>?_);refine za (za ?_);refine zaa hX hK rfl ?_ ?_
    ·trivial
    refine zaf rfl (fun _=>?_) (fun hb=>absurd (show ((14:Int)==14)=false from hb) (by decide));apply zab;refine zaf rfl (fun _=>?_) (fun hb=>absurd (show ((14:Int)==14)=false from hb) (by decide));refine za (za ?_);refine zaa hX hK rfl ?_ ?_
    ·repeat'(first|exact trivial|assumption|exact w1|exact w3|(refine⟨?_,?_⟩)|(intro _)|exact zb rfl|exact zi _|(simp_all [allP];done))
    exact⟨⟨rfl,rfl,rfl,rfl,rfl,trivial⟩,⟨rfl,rfl,trivial⟩,rfl,rfl⟩
   ·skip
    refine za (za ?_);refine zaa hX hK rfl ?_ ?_
    ·trivial
    refine zaf rfl (fun hb=>absurd (show ((15:Int)==11)=true from hb) (by decide)) (fun _=>?_);refine za (za ?_);refine zaa hX hK rfl ?_ ?_
    ·trivial
    refine zaf rfl (fun hb=>absurd (show ((15:Int)==12)=true from hb) (by decide)) (fun _=>?_);refine za (za ?_);refine zaa hX hK rfl ?_ ?_
    ·trivial
    refine zaf rfl (fun hb=>absurd (show ((15:Int)==13)=true from hb) (by decide)) (fun _=>?_);refine za (za ?_);refine zaa hX hK rfl ?_ ?_
    ·trivial
    refine zaf rfl (fun hb=>absurd (show ((15:Int)==14)=true from hb) (by decide)) (fun _=>?_);refine za (za ?_);refine zaa hX hK rfl ?_ ?_
    ·trivial
    refine zaf rfl (fun _=>?_) (fun hb=>absurd (show ((15:Int)==15)=false from hb) (by decide));refine za (za ?_);refine zaa hX hK rfl ?_ ?_
    ·repeat'(first|exact trivial|assumption|exact w1|exact w3|(refine⟨?_,?_⟩)|(intro _)|exact zb rfl|exact zi _|(simp_all [allP];done))
    exact⟨⟨rfl,rfl,rfl,rfl,rfl,trivial⟩,⟨rfl,rfl,trivial⟩,rfl,rfl⟩
   ·skip
    refine za (za ?_);refine zaa hX hK rfl ?_ ?_
    ·trivial
    refine zaf rfl (fun hb=>absurd (show ((16:Int)==11)=true from hb) (by decide)) (fun _=>?_);refine za (za ?_);refine zaa hX hK rfl ?_ ?_
    ·trivial
    refine zaf rfl (fun hb=>absurd (show ((16:Int)==12)=true from hb) (by decide)) (fun _=>?_);refine za (za ?_);refine zaa hX hK rfl ?_ ?_
    ·trivial
    refine zaf rfl (fun hb=>absurd (show ((16:Int)==13)=true from hb) (by decide)) (fun _=>?_);refine za (za ?_);refine zaa hX hK rfl ?_ ?_
    ·trivial
    refine zaf rfl (fun hb=>absurd (show ((16:Int)==14)=true from hb) (by decide)) (fun _=>?_);refine za (za ?_);refine zaa hX hK rfl ?_ ?_
    ·trivial
    refine zaf rfl (fun hb=>absurd (show ((16:Int)==15)=true from hb) (by decide)) (fun _=>?_);have z2:0≤mkU (zak m2 ids).2:=by rw[zaT];omega
    have z3:mkU (zak m2 ids).2≤1000000:=by rw[zaT];omega
    have z4:0≤mkU (zak (zak m2 ids).2 2).2:=by rw[zaT,zaT];omega
    have z5:mkU (zak (zak m2 ids).2 2).2≤900000:=by rw[zaT,zaT];omega
    have z6:ids≤1000000000:=by omega
    refine za (za ?_);refine zaa hX hK rfl ?_ ?_
    ·repeat'(first|exact trivial|assumption|exact w1|exact w2|exact h7|exact z6|(refine⟨?_,?_⟩)|(intro _)|exact zb rfl|exact zi _|(simp_all [allP];done))
    refine za (za ?_);refine zaa hX hK rfl ?_ ?_
    ·repeat'(first|exact trivial|assumption|exact z2|exact z3|(refine⟨?_,?_⟩)|(intro _)|exact zb rfl|exact zi _|(simp_all [allP];done))
    refine za (za ?_);refine zaa hX hK rfl ?_ ?_
    ·repeat'(first|exact trivial|assumption|exact z4|exact z5|(refine⟨?_,?_⟩)|(intro _)|exact zb rfl|exact zi _|(simp_all [allP];done))
    exact⟨⟨rfl,rfl,rfl,rfl,rfl,trivial⟩,⟨rfl,rfl,trivial⟩,rfl,rfl⟩
  show AWP _ _ _ _ _ (sRu (mOne c ids m2).2 (d+1) ids c (mOne c ids m2).1 (a.flat 0)) _;have q2:(a.flat 0).length≤1000000:=by omega
  refine za (za ?_);refine zaa hX hK rfl ?_ ?_
  ·exact q2
  refine zr ⟨.inr rfl,?_,zaw rfl trivial rfl rfl ?_⟩
  ·show some (OObj.box mkr (mOne c ids m2).2)=some (OObj.box mkr (mTr ids (d+1) m).2);rw[<-hRR,hR]
  ·show zqK (a.flat 0) (mOne c ids m2).1=(mTr ids (d+1) m).1.flat 0;rw[<-hRR,hR,zoB]
theorem zqO (D:Nat):zeW Tryz.prog gmG 58 (zgu D):=by
 induction D with
 |zero=>
  refine⟨Tryz.call58,fun w O g cs ty x xs vs _ _ _ _ hp=>?_⟩;obtain⟨(d:Int),(ids:Int),_⟩:=xs;have h1:0≤d:=hp.1;have h2:d < ((0:Nat):Int):=hp.2.1;omega
 |succ D ih=>exact zog D ih
set_option maxRecDepth 10000
section
variable {s:List UInt8}
theorem zlL {lo hi:Int} {z:Bool} {x:Int} (h1:lo≤x) (h2:x≤hi) (h3:z=true∨x≠0):∀ {l:List Int} {last:Int},Ris lo hi z last l->l.getLast?.getD last < x->Ris lo hi z last (l++ [x])
 | [],_,_,h=>⟨h,h1,h2,h3,trivial⟩
 |y::r,last,h,hx=>by
  obtain⟨a,b,c,d,e⟩:=h;refine⟨a,b,c,d,zlL h1 h2 h3 e ?_⟩;rw[List.getLast?_cons]at hx;exact hx
end
theorem zrN {lo hi:Int} {z:Bool}:∀ {l:List Int} {last:Int},Ris lo hi z last l->∀ i,i < l.length->(lo≤l.getD i 0∧l.getD i 0≤hi)∧(0 < i->l.getD (i - 1) 0 < l.getD i 0)∧(z=true∨l.getD i 0≠0)
 | [],_,_,i,hi=>absurd hi (Nat.not_lt_zero _)
 |x::r,last,h,i,hi=>by
  obtain⟨a,b,c,d,e⟩:=h;cases i with
  |zero=>exact⟨⟨b,c⟩,fun h=>absurd h (Nat.lt_irrefl _),d⟩
  |succ i=>
   obtain⟨h1,h2,h3⟩:=zrN e i (by rw[zt]at hi;omega);refine⟨h1,fun _=>?_,h3⟩;cases i with
   |zero=>
    cases r with
    |nil=>rw[zt,zX]at hi;omega
    |cons y r=>exact e.1
   |succ i=>exact h2 (by omega)
theorem zhl {l:List Int} {lo hi:Int} {z:Bool} (h0:¬ (lo=0∧hi=0)) (hz:z=decide (¬ lo < 0)) (hne:l≠ []) (h:Ris lo hi z (lo - 1) l):zaS l (lo,hi,())=true:=by
 have hz0:zhj (lo,hi,())=false:=by
  rw[Bool.eq_false_iff];intro e;unfold zhj at e;rw[zf,beq_iff_eq,beq_iff_eq]at e;exact h0 e
 unfold zaS;rw[hz0,cond_false,zf,decide_eq_true_iff,zZ];refine⟨fun i hi=>?_,by have:=List.length_pos_iff.2 hne;omega⟩;obtain⟨⟨a,b⟩,c,d⟩:=zrN h i (List.mem_range.1 hi);rw[zB];unfold zhP;simp only[xu,xj,zaL,Bool.and_eq_false_iff,decide_eq_false_iff_not,beq_eq_false_iff_ne];refine⟨⟨⟨a,b⟩,?_⟩,?_⟩
 ·by_cases e:0 < i
  ·exact .inr (by have:=c e;omega)
  ·exact .inl e
 ·rcases d with d|d
  ·rw[hz]at d;exact .inr (of_decide_eq_true d)
  ·exact .inl d
theorem and4 {a b c d:Bool} (ha:a=true) (hb:b=true) (hc:c=true) (hd:d=true):((true&&a)&&(b&&(true&&(c&&d))))=true:=by rw[ha,hb,hc,hd];rfl
theorem zcI {n lo hi:Int} (h:lo≤n∧n≤hi):inB n lo hi=true:=zaL.2 h
theorem zdx {lo hi lo' hi':Int} {z:Bool} (h1:lo'≤lo) (h2:hi≤hi'):∀ {l:List Int} {a b:Int},b≤a->Ris lo hi z a l->Ris lo' hi' z b l
 | [],_,_,_,_=>trivial
 |x::r,a,b,hab,h=>by
  obtain⟨p,q,s,t,u⟩:=h;exact⟨by omega,by omega,by omega,t,zdx h1 h2 (xF _) u⟩
theorem zi9 {lo hi:Int} {z:Bool} (hz:z=true∨¬ 0≤lo):∀ (k:Nat) (m:Mk) (v:Int) (acc:List Int),Ris lo hi z (lo - 1) acc->acc.getLast?.getD (lo - 1) < v->lo≤v->Ris lo hi z (lo - 1) (mRis lo hi k m v acc).1∧(mRis lo hi k m v acc).1.length≤acc.length+k
 |0,m,v,acc,h,_,_=>⟨h,zl _⟩
 |k+1,m,v,acc,h,hl,hv=>by
  have hp:=zaH m (n:=3) (by decide);rw[mRis];split
  ·rename_i hvh;split
   ·rename_i hc;have h2:=zlL (z:=z) hv hvh (by
     rcases hz with hz|hz
     ·exact .inl hz
     ·exact .inr (hc.resolve_right hz)) h hl
    obtain⟨a,b⟩:=zi9 hz k (zak m 3).2 (v+1+(zak m 3).1) (acc++ [v]) h2 (by rw[List.getLast?_append];show v < _;omega) (by omega);refine⟨a,?_⟩;rw[zd,zF]at b;omega
   ·obtain⟨a,b⟩:=zi9 hz k (zak m 3).2 (v+1+(zak m 3).1) acc h (by omega) (by omega);exact⟨a,by omega⟩
  ·exact⟨h,by show acc.length≤_;omega⟩
theorem zcL (m:Mk) {lo hi:Int} {z:Bool} (hz:z=true∨¬ 0≤lo) (hz2:z=true∨hi≠0) (hl:lo≤hi):(zaI m lo hi).1≠ []∧(zaI m lo hi).1.length≤4∧Ris lo hi z (lo - 1) (zaI m lo hi).1:=by
 have hp:=zaH m (n:=4) (by decide);have hq:=zaH (zak m 4).2 (n:=hi - lo+1) (by omega);obtain⟨a,b⟩:=zi9 hz (hi:=hi) (1+(zak m 4).1).toNat (zak (zak m 4).2 (hi - lo+1)).2 (lo+(zak (zak m 4).2 (hi - lo+1)).1) [] trivial (by show lo - 1 < _;omega) (by omega);unfold zaI orHi;dsimp only;split
 ·exact⟨by simp,by simp,⟨by omega,hl,xF _,hz2,trivial⟩⟩
 ·rename_i hne;refine⟨fun e=>hne (by rw[e];rfl),?_,a⟩;rw[zX]at b;omega
def zdK (x:Int):Prop:=-1000 < x∧x < 1000
def NdSm (n:Nd):Prop:=(zdK (ndC n)∧zdK (ndN n)∧zdK (ndM n))∧(∀ x∈ndI n,zdK x)∧(ndI n).length≤5∧(ndS n).length≤20
theorem zrK {x:Int} (h:zdK x):(deI x).length≤4:=by
 unfold deI jO;have e:(10:Nat) ^ (2+1)=1000:=by decide
 obtain⟨h0,h1⟩:=h;split
 ·rw[zt];have:=zfF 2 x.natAbs (by rw[e];omega);omega
 ·have:=zfF 2 x.toNat (by rw[e];omega);omega
theorem zit {l:List Int} (h:∀ n∈l,zdK n):(zdE l).length≤5 * l.length:=by
 induction l with
 |nil=>exact zl _
 |cons n l ih=>
  have h1:=zrK (h n (yf ..));have h2:=ih fun m hm=>h m (yy _ hm);show ((32::deI n)++zdE l).length≤_;rw[zd,zt,zt];omega
theorem zhn:∀ (l:List Int) (i:Nat),(∀ n∈l,zdK n)->(litS i l).length≤6 * l.length
 | [],i,_=>zl _
 |n::l,i,h=>by
  have h1:=zrK (h n (yf ..));have h2:=zhn l (i+1) fun m hm=>h m (yy _ hm);have h3:=ziU i;show (sepS i++deI n++litS (i+1) l).length≤_;rw[zd,zd,zt];omega
theorem zni {n:Nd} (h:NdSm n):(zcc n).length≤90:=by
 obtain⟨⟨hC,hN,hM⟩,hI,hl,hs⟩:=h;have l1:∀ w:List UInt8,w.length≤10->∀ l:List Int,l.length≤3->(∀ x∈l,zdK x)->(putS w l).length≤25:=fun w hw l hl hx=>by
  have:=zit hx;unfold putS;rw[zd];omega
 have l2:(zbV (ndI n)).length≤31:=by
  have:=zhn (ndI n) 0 hI;unfold zbV;rw[zd,zF];omega
 have p0:∀ x∈([]:List Int),zdK x:=fun x hx=>by cases hx
 have p1:∀ x∈ [ndC n],zdK x:=fun x hx=>by rw[zw.1 hx];exact hC
 have p2:∀ x∈ [ndN n,ndM n],zdK x:=fun x hx=>by
  rcases yd.1 hx with rfl|hx
  ·exact hN
  ·rw[zw.1 hx];exact hM
 have p3:∀ x∈ [ndC n,ndN n,ndM n],zdK x:=fun x hx=>by
  rcases yd.1 hx with rfl|hx
  ·exact hC
  ·exact p2 x hx
 unfold zcc;split
 ·exact zH (l1 _ (by decide) _ (by simp) p2) (by decide)
 split
 ·exact zH (l1 _ (by decide) _ (by simp) p3) (by decide)
 split
 ·rw[zd];have:=l1 zcn (by decide) _ (by simp) p1;omega
 split
 ·rw[zd];have:=l1 za3 (by decide) _ (by simp) p1;omega
 split
 ·rw[zd];have:=l1 zbj (by decide) _ (by simp) p0;omega
 split
 ·rw[zd];have:=l1 zdh (by decide) _ (by simp) p1;omega
 split
 ·rw[zd];have:=l1 wNth (by decide) _ (by simp) p3;have:=l1 (zb5 (ndL n)) (zcK _) [] (by decide) p0;omega
 split
 ·show (64::ndS n++ []).length≤_;rw[zL,zt];omega
 ·exact zk _
theorem zjM {n:Nd} (b:List UInt8) (h:NdSm n):(zbA b n).length≤90+b.length:=by
 obtain⟨⟨hC,hN,hM⟩,hI,hl,hs⟩:=h;have l1:∀ w:List UInt8,w.length≤10->∀ l:List Int,l.length≤3->(∀ x∈l,zdK x)->(putS w l).length≤25:=fun w hw l hl hx=>by
  have:=zit hx;unfold putS;rw[zd];omega
 have l2:(zbV (ndI n)).length≤31:=by
  have:=zhn (ndI n) 0 hI;unfold zbV;rw[zd,zF];omega
 have p0:∀ x∈([]:List Int),zdK x:=fun x hx=>by cases hx
 have p1:∀ x∈ [ndC n],zdK x:=fun x hx=>by rw[zw.1 hx];exact hC
 have p2:∀ x∈ [ndN n],zdK x:=fun x hx=>by rw[zw.1 hx];exact hN
 unfold zbA;split
 ·have:=l1 (spW zeP) (by decide) _ (by simp) p2;omega
 split
 ·have:=l1 (spW zhU) (by decide) _ (by simp) p2;omega
 split
 ·have:=l1 (spW zeO) (by decide) _ (by simp) p2;omega
 split
 ·rw[zd];have:=l1 (spW zeX) (by decide) _ (by simp) p0;omega
 split
 ·rw[zd];have:=l1 (spW zco) (by decide) _ (by simp) p0;omega
 split
 ·rw[zd,zd];have:=l1 (spW wPos) (by decide) _ (by simp) p1;have:=l1 (zb5 (ndM n)) (zcK _) [] (by decide) p0;omega
 split
 ·rw[zd,zd];have:=l1 (spW zbD) (by decide) _ (by simp) p2;have:=l1 (spW wOf++ [32]) (by decide) [] (by decide) p0;omega
 ·exact zk _
def TrSm:Tr->Prop
 | .leaf n=>NdSm n
 | .un n a=>NdSm n∧TrSm a
 | .bin n a b=>NdSm n∧TrSm a∧TrSm b
theorem zey:∀ t:Tr,TrSm t->t.text.length≤100 * t.size
 | .leaf n,h=>by
  have:=zni h;show (zcc n).length≤100 * 1;omega
 | .un n a,h=>by
  have h1:=zjM [] h.1;have h2:=zey a h.2;have h3:=zcS (decide (a.lev≥4)) a.text;show (parS _ a.text++zbA [] n).length≤100 * (a.size+1);rw[zd];rw[zX]at h1;omega
 | .bin n a b,h=>by
  have h1:=zey a h.2.1;have h2:=zey b h.2.2;show _≤100 * (a.size+b.size+1);rw[ziM];split
  ·have h3:=zcS (decide (a.lev≥4)) a.text;have h4:=zcS (decide (b.lev≥5)) b.text;have h5:=zjM (parS (decide (b.lev≥5)) b.text) h.1;rw[zd];omega
  ·have h3:=zcS (decide (a.lev≥levS (ndK n))) a.text;have h4:=zcS (decide (b.lev≥levS (ndK n)+1)) b.text;have h5:(putS ([32]++opWd (levS (ndK n))++ [32]) []).length≤20:=by
    have h6:=zfZ (ndK n);show (([32]++opWd (levS (ndK n))++ [32])++ []:List UInt8).length≤20;rcases (show levS (ndK n)=1∨levS (ndK n)=2∨levS (ndK n)=3∨levS (ndK n)=4∨levS (ndK n)=5 by omega) with e|e|e|e|e<;>rw[e]<;>decide
   rw[zd,zd];omega
theorem sm0:zdK 0:=⟨by decide,by decide⟩
theorem zgj {lo hi:Int} {z:Bool} (h1: -1000 < lo) (h2:hi < 1000):∀ {l:List Int} {a:Int},Ris lo hi z a l->∀ x∈l,zdK x
 | [],_,_,x,hx=>by cases hx
 |y::r,_,h,x,hx=>by
  obtain⟨_,a,b,_,h⟩:=h;rcases yd.1 hx with rfl|hx
  ·exact⟨by omega,by omega⟩
  ·exact zgj h1 h2 h x hx
theorem nosm:∀ x∈([]:List Int),zdK x:=fun x hx=>by cases hx
theorem zsK {k c:Int} {m:Mk} (hk:1≤k∧k≤7) (hc:0≤c∧c≤2) (hc2:k=1∨k=5->c=0):TrOk (.leaf (zgq k c m).1)∧NdSm (zgq k c m).1:=by
 have sc:zdK c:=⟨by omega,by omega⟩;have p20:(([]:List UInt8)).length≤20:=zk _;rcases (show k=1∨k=2∨k=3∨k=4∨k=5∨k=6∨k=7 by omega) with rfl|rfl|rfl|rfl|rfl|rfl|rfl
 ·have h1:=zaH m (n:=12) (by decide);have h2:=zaH (zak m 12).2 (n:=20) (by decide);obtain rfl:c=0:=hc2 (.inl rfl);show TrOk (.leaf (1,0,0,0,1+(zak m 12).1,(zak (zak m 12).2 20).1,[],[],()))∧NdSm (1,0,0,0,1+(zak m 12).1,(zak (zak m 12).2 20).1,[],[],());generalize hx:1+(zak m 12).1=x at *;generalize (zak (zak m 12).2 20).1=y at *;refine⟨⟨?_,by show ¬ ((8:Int)≤1∧_);omega,rfl,fun _=>rfl⟩,⟨⟨sm0,⟨by show -1000 < x;omega,by show x < 1000;omega⟩,⟨by show -1000 < y;omega,by show y < 1000;omega⟩⟩,nosm,zk _,p20⟩⟩;exact and4 (a:=true) (b:=true) (c:=true) rfl rfl rfl (show (bif inB x 1 1099511627776 then inB y 0 1099511627776 else false)=true by rw[zcI (hi:=1099511627776) (by omega),zcI (hi:=1099511627776) (by omega)];rfl)
 ·have h1:=zaH m (n:=4) (by decide);have h2:=zaH (zak m 4).2 (n:=1+(zak m 4).1) (by omega);show TrOk (.leaf (2,c,0,0,1+(zak m 4).1,(zak (zak m 4).2 (1+(zak m 4).1)).1,[],[],()))∧NdSm (2,c,0,0,1+(zak m 4).1,(zak (zak m 4).2 (1+(zak m 4).1)).1,[],[],());generalize hx:1+(zak m 4).1=x at *;generalize (zak (zak m 4).2 x).1=y at *;refine⟨⟨?_,by show ¬ ((8:Int)≤2∧_);omega,rfl,fun _=>rfl⟩,⟨⟨sc,⟨by show -1000 < x;omega,by show x < 1000;omega⟩,⟨by show -1000 < y;omega,by show y < 1000;omega⟩⟩,nosm,zk _,p20⟩⟩;exact and4 (a:=true) (b:=inB c 0 2) (c:=true) rfl (zcI hc) rfl (show (bif inB x 1 400 then inB y 0 (x - 1) else false)=true by rw[zcI (by omega),zcI (by omega)];rfl)
 ·obtain⟨a1,a2,a3⟩:=zcL m (lo:=1) (hi:=4) (z:=true) (by decide) (by decide) (by decide);show TrOk (.leaf (3,c,0,0,0,0,(zaI m 1 4).1,[],()))∧NdSm (3,c,0,0,0,0,(zaI m 1 4).1,[],());generalize (zaI m 1 4).1=l at *;refine⟨⟨?_,by show ¬ ((8:Int)≤3∧_);omega,rfl,fun _=>rfl⟩,⟨⟨sc,sm0,sm0⟩,zgj (by decide) (by decide) a3,zH a2 (by decide),p20⟩⟩;exact and4 (a:=decide (l.length≤64)) (b:=inB c 0 2) (c:=zaS l (1,16,())) (d:=true) (decide_eq_true (by omega)) (zcI hc) (zhl (by decide) (by decide) a1 (zdx (by decide) (by decide) (by decide) a3)) rfl
 ·obtain⟨a1,a2,a3⟩:=zcL m (lo:=(-4)) (hi:=7) (z:=false) (by decide) (by decide) (by decide);show TrOk (.leaf (4,c,0,0,0,0,(zaI m (-4) 7).1,[],()))∧NdSm (4,c,0,0,0,0,(zaI m (-4) 7).1,[],());generalize (zaI m (-4) 7).1=l at *;refine⟨⟨?_,by show ¬ ((8:Int)≤4∧_);omega,rfl,fun _=>rfl⟩,⟨⟨sc,sm0,sm0⟩,zgj (by decide) (by decide) a3,zH a2 (by decide),p20⟩⟩;exact and4 (a:=decide (l.length≤64)) (b:=inB c 0 2) (c:=zaS l (-40,40,())) (d:=true) (decide_eq_true (by omega)) (zcI hc) (zhl (by decide) (by decide) a1 (zdx (by decide) (by decide) (by decide) a3)) rfl
 ·obtain rfl:c=0:=hc2 (.inr rfl);obtain⟨a1,a2,a3⟩:=zcL m (lo:=0) (hi:=6) (z:=true) (by decide) (by decide) (by decide);show TrOk (.leaf (5,0,0,0,0,0,(zaI m 0 6).1,[],()))∧NdSm (5,0,0,0,0,0,(zaI m 0 6).1,[],());generalize (zaI m 0 6).1=l at *;refine⟨⟨?_,by show ¬ ((8:Int)≤5∧_);omega,rfl,fun _=>rfl⟩,⟨⟨sc,sm0,sm0⟩,zgj (by decide) (by decide) a3,zH a2 (by decide),p20⟩⟩;exact and4 (a:=decide (l.length≤64)) (b:=true) (c:=zaS l (0,6,())) (d:=true) (decide_eq_true (by omega)) rfl (zhl (by decide) (by decide) a1 (zdx (by decide) (by decide) (by decide) a3)) rfl
 ·obtain⟨a1,a2,a3⟩:=zcL m (lo:=1) (hi:=4) (z:=true) (by decide) (by decide) (by decide);show TrOk (.leaf (6,c,0,0,0,0,(zaI m 1 4).1,[],()))∧NdSm (6,c,0,0,0,0,(zaI m 1 4).1,[],());generalize (zaI m 1 4).1=l at *;refine⟨⟨?_,by show ¬ ((8:Int)≤6∧_);omega,rfl,fun _=>rfl⟩,⟨⟨sc,sm0,sm0⟩,zgj (by decide) (by decide) a3,zH a2 (by decide),p20⟩⟩;exact and4 (a:=decide (l.length≤64)) (b:=inB c 0 2) (c:=zaS l (1,54,())) (d:=true) (decide_eq_true (by omega)) (zcI hc) (zhl (by decide) (by decide) a1 (zdx (by decide) (by decide) (by decide) a3)) rfl
 ·have h1:=zaH m (n:=3) (by decide);have h2:=zaH (zak (zak m 3).2 2).2 (n:=7) (by decide);have h3:=zaH (zak (zak (zak m 3).2 2).2 7).2 (n:=2) (by decide);show TrOk (.leaf (7,c,(zak (zak (zak (zak m 3).2 2).2 7).2 2).1,0,(if (zak (zak m 3).2 2).1=1 then -(1+(zak m 3).1) else 1+(zak m 3).1),(zak (zak (zak m 3).2 2).2 7).1,[],[],()))∧NdSm (7,c,(zak (zak (zak (zak m 3).2 2).2 7).2 2).1,0,(if (zak (zak m 3).2 2).1=1 then -(1+(zak m 3).1) else 1+(zak m 3).1),(zak (zak (zak m 3).2 2).2 7).1,[],[],());have hx:∀ b:Int,-3≤(if b=1 then -(1+(zak m 3).1) else 1+(zak m 3).1)∧(if b=1 then -(1+(zak m 3).1) else 1+(zak m 3).1)≤3∧(if b=1 then -(1+(zak m 3).1) else 1+(zak m 3).1)≠0:=fun b=>by split<;>omega
  have hx:=hx (zak (zak m 3).2 2).1;generalize (if (zak (zak m 3).2 2).1=1 then -(1+(zak m 3).1) else 1+(zak m 3).1)=x at *;generalize (zak (zak (zak m 3).2 2).2 7).1=y at *;generalize (zak (zak (zak (zak m 3).2 2).2 7).2 2).1=u at *;refine⟨⟨?_,by show ¬ ((8:Int)≤7∧_);omega,rfl,fun e=>absurd rfl e⟩,⟨⟨sc,⟨by show -1000 < x;omega,by show x < 1000;omega⟩,⟨by show -1000 < y;omega,by show y < 1000;omega⟩⟩,nosm,zk _,p20⟩⟩;refine and4 (a:=true) (b:=inB c 0 2) (c:=true) rfl (zcI hc) rfl (show (bif (bif (bif inB x (-60) 60 then !(x==0) else false) then inB y 0 6 else false) then inB u 0 1 else false)=true from ?_);rw[zcI (n:=x) (by omega),zcI (n:=y) (by omega),zcI (n:=u) (lo:=0) (hi:=1) (by omega),beq_eq_false_iff_ne.2 hx.2.2];rfl
theorem zrm {x:Int} (h0:0≤x) (h1:x < 1000000):(deI x).length≤6:=by
 unfold deI jO;rw[if_neg (by omega)];have e:(10:Nat) ^ (5+1)=1000000:=by decide
 exact zfF 5 x.toNat (by rw[e];omega)
theorem nm_ok {x:Int} (h0:0≤x) (h1:x < 1000000):zdY ([110]++deI x)=true∧([110]++deI x).length≤20:=by
 have hl:=zrm h0 h1;have hd:∀ c∈deI x,isPt c=true:=fun c hc=>by
  have e:deI x=yo x.toNat:=by unfold deI jO;rw[if_neg (by omega)]
  rw[e]at hc;unfold isPt;rw[(zer x.toNat).1 c hc,Bool.or_true,Bool.true_or]
 refine⟨?_,by rw[zd,zF];omega⟩;unfold zdY;rw[zf,zf,zf,decide_eq_true_iff,decide_eq_true_iff];refine⟨⟨by simp,by rw[zd,zF];omega⟩,rfl,?_⟩;rw[zZ];intro c hc;rcases yG.1 hc with hc|hc
 ·rw[zw.1 hc];decide
 ·exact hd c hc
theorem zr8 {k:Int} {m:Mk}:(0≤(zeb k m 3).1∧(zeb k m 3).1≤2)∧(k=1∨k=5->(zeb k m 3).1=0):=by
 unfold zeb;split
 ·rename_i h;have:=zaH m (n:=3) (by decide);exact⟨by omega,fun e=>by omega⟩
 ·exact⟨by show (0:Int)≤0∧(0:Int)≤2;omega,fun _=>rfl⟩
theorem zo2 (m:Mk) (hn:0≤mkN m) (hn2:mkN m≤1000000):TrOk (.leaf (zdc m 3).1)∧NdSm (zdc m 3).1:=by
 have hk:=zaH m (n:=8) (by decide);unfold zdc ziw;dsimp only;split
 ·rename_i hc;have h1:mkN (zc1 (1+(zak m 8).1) (zak m 8).2).2=mkN m:=(zrH _ _).1;have h2:=zaH (zc1 (1+(zak m 8).1) (zak m 8).2).2 (n:=mkN (zc1 (1+(zak m 8).1) (zak m 8).2).2) hc.2;generalize (zak (zc1 (1+(zak m 8).1) (zak m 8).2).2 (mkN (zc1 (1+(zak m 8).1) (zak m 8).2).2)).1=x at *;obtain⟨a,b⟩:=nm_ok (x:=x) h2.1 (by omega);refine⟨⟨?_,by show ¬ ((8:Int)≤18∧(18:Int)≤17);omega,rfl,fun _=>rfl⟩,⟨⟨sm0,sm0,sm0⟩,nosm,zk _,b⟩⟩;have:((true&&true)&&(true&&(zdY ([110]++deI x)&&(true&&true))))=true:=by rw[a];rfl
  exact this
 ·rename_i hc;exact zsK (zrX (m:=(zak m 8).2) hn (by omega) hc) zr8.1 zr8.2
theorem one_ok {k:Int} {m:Mk} (hk:11≤k∧k≤16):zbc (mOne k 3 m).1=true∧NdSm (mOne k 3 m).1:=by
 have p20:(([]:List UInt8)).length≤20:=zk _;rcases (show k=11∨k=12∨k=13∨k=14∨k=15∨k=16 by omega) with rfl|rfl|rfl|rfl|rfl|rfl
 ·have h1:=zaH m (n:=15) (by decide);show zbc (11,0,0,0,(zak m 15).1 - 7,0,[],[],())=true∧NdSm (11,0,0,0,(zak m 15).1 - 7,0,[],[],());generalize hx:(zak m 15).1 - 7=x at *;refine⟨?_,⟨⟨sm0,⟨by show -1000 < x;omega,by show x < 1000;omega⟩,sm0⟩,nosm,zk _,p20⟩⟩;exact and4 (a:=true) (b:=true) (c:=true) rfl rfl rfl (show (bif inB x (-1099511627776) 1099511627776 then true else false)=true by rw[zcI (lo:=-1099511627776) (hi:=1099511627776) (by omega)];rfl)
 ·have h1:=zaH m (n:=60) (by decide);show zbc (12,0,0,0,(zak m 60).1,0,[],[],())=true∧NdSm (12,0,0,0,(zak m 60).1,0,[],[],());generalize (zak m 60).1=x at *;refine⟨?_,⟨⟨sm0,⟨by show -1000 < x;omega,by show x < 1000;omega⟩,sm0⟩,nosm,zk _,p20⟩⟩;exact and4 (a:=true) (b:=true) (c:=true) rfl rfl rfl (show (bif inB x 0 1099511627776 then true else false)=true by rw[zcI (hi:=1099511627776) (by omega)];rfl)
 ·have h1:=zaH m (n:=60) (by decide);show zbc (13,0,0,0,(zak m 60).1,0,[],[],())=true∧NdSm (13,0,0,0,(zak m 60).1,0,[],[],());generalize (zak m 60).1=x at *;refine⟨?_,⟨⟨sm0,⟨by show -1000 < x;omega,by show x < 1000;omega⟩,sm0⟩,nosm,zk _,p20⟩⟩;exact and4 (a:=true) (b:=true) (c:=true) rfl rfl rfl (show (bif inB x 0 1099511627776 then true else false)=true by rw[zcI (hi:=1099511627776) (by omega)];rfl)
 ·obtain⟨a1,a2,a3⟩:=zcL m (lo:=0) (hi:=60) (z:=true) (by decide) (by decide) (by decide);show zbc (14,0,0,0,0,0,(zaI m 0 60).1,[],())=true∧NdSm (14,0,0,0,0,0,(zaI m 0 60).1,[],());generalize (zaI m 0 60).1=l at *;refine⟨?_,⟨⟨sm0,sm0,sm0⟩,zgj (by decide) (by decide) a3,zH a2 (by decide),p20⟩⟩;exact and4 (a:=decide (l.length≤64)) (b:=true) (c:=zaS l (0,1099511627776,())) (d:=true) (decide_eq_true (by omega)) rfl (zhl (by decide) (by decide) a1 (zdx (by decide) (by decide) (by decide) a3)) rfl
 ·obtain⟨a1,a2,a3⟩:=zcL m (lo:=0) (hi:=60) (z:=true) (by decide) (by decide) (by decide);show zbc (15,0,0,0,0,0,(zaI m 0 60).1,[],())=true∧NdSm (15,0,0,0,0,0,(zaI m 0 60).1,[],());generalize (zaI m 0 60).1=l at *;refine⟨?_,⟨⟨sm0,sm0,sm0⟩,zgj (by decide) (by decide) a3,zH a2 (by decide),p20⟩⟩;exact and4 (a:=decide (l.length≤64)) (b:=true) (c:=zaS l (0,1099511627776,())) (d:=true) (decide_eq_true (by omega)) rfl (zhl (by decide) (by decide) a1 (zdx (by decide) (by decide) (by decide) a3)) rfl
 ·have h1:=zaH m (n:=3) (by decide);have h2:=zaH (zak m 3).2 (n:=2) (by decide);obtain⟨a1,a2,a3⟩:=zcL (zak (zak m 3).2 2).2 (lo:=-3) (hi:=3) (z:=false) (by decide) (by decide) (by decide);show zbc (16,(zak m 3).1,0,0,0,(zak (zak m 3).2 2).1,(zaI (zak (zak m 3).2 2).2 (-3) 3).1,[],())=true∧NdSm (16,(zak m 3).1,0,0,0,(zak (zak m 3).2 2).1,(zaI (zak (zak m 3).2 2).2 (-3) 3).1,[],());generalize (zaI (zak (zak m 3).2 2).2 (-3) 3).1=l at *;generalize (zak (zak m 3).2 2).1=u at *;generalize (zak m 3).1=c at *;refine⟨?_,⟨⟨⟨by show -1000 < c;omega,by show c < 1000;omega⟩,sm0,⟨by show -1000 < u;omega,by show u < 1000;omega⟩⟩,zgj (by decide) (by decide) a3,zH a2 (by decide),p20⟩⟩;exact and4 (a:=decide (l.length≤64)) (b:=inB c 0 2) (c:=zaS l (-400,400,())) (d:=inB u 0 1) (decide_eq_true (by omega)) (zcI (by omega)) (zhl (by decide) (by decide) a1 (zdx (by decide) (by decide) (by decide) a3)) (zcI (by omega))
theorem bin_ok {k c:Int} (hk:(8≤k∧k≤10)∧c=0∨k=17∧1≤c∧c≤3):zbc (k,0,0,0,c,0,[],[],())=true∧NdSm (k,0,0,0,c,0,[],[],()):=by
 have p20:(([]:List UInt8)).length≤20:=zk _;refine⟨?_,⟨⟨sm0,⟨by show -1000 < c;omega,by show c < 1000;omega⟩,sm0⟩,nosm,zk _,p20⟩⟩;rcases hk with ⟨⟨h1,h2⟩,rfl⟩|⟨rfl,h⟩
 ·rcases (show k=8∨k=9∨k=10 by omega) with rfl|rfl|rfl
  ·decide+kernel
  ·decide+kernel
  ·decide+kernel
 ·exact and4 (a:=true) (b:=true) (c:=true) rfl rfl rfl (show (bif inB c 1 400 then true else false)=true by rw[zcI (by omega)];rfl)
theorem cnt_in {k:Int} {m:Mk} (h:two k=true):(8≤k∧k≤10)∧(mCnt k m).1=0∨k=17∧1≤(mCnt k m).1∧(mCnt k m).1≤3:=by
 rw[zfe]at h;unfold mCnt;split
 ·rename_i e;have:=zaH m (n:=3) (by decide);exact .inr ⟨e,by omega⟩
 ·exact .inl ⟨by omega,rfl⟩
theorem zoM:∀ (d:Nat) (m:Mk),0≤mkN m->mkN m≤1000000->TrOk (mTr 3 d m).1∧TrSm (mTr 3 d m).1
 |0,m,h,h2=>zo2 _ h h2
 |d+1,m,h,h2=>by
  have hp:=zaH (zaG m) (n:=14) (by decide);rw[mTr];dsimp only;split
  ·exact zo2 _ h h2
  rename_i hst;have hs:(zak (zaG m) 14).1 < 10:=by
   have:¬ zfY (d+1) (zak (zaG m) 14)=true:=hst;unfold zfY at this;simp only[yl,decide_eq_true_iff,not_or]at this;omega
  have h0:0≤mkN (zak (zaG m) 14).2:=h;have h3:mkN (zak (zaG m) 14).2≤1000000:=h2;obtain⟨ha,sa⟩:=zoM d (zak (zaG m) 14).2 h0 h3;have hg:=(zj9 3 d (zak (zaG m) 14).2).1;split
  ·rename_i ht;have hc:=(zmx (8+(zak (zaG m) 14).1) (mTr 3 d (zak (zaG m) 14).2).2).1;obtain⟨hb,sb⟩:=zoM d (mCnt (8+(zak (zaG m) 14).1) (mTr 3 d (zak (zaG m) 14).2).2).2 (by rw[hc,hg];exact h0) (by rw[hc,hg];exact h3);obtain⟨f,g⟩:=bin_ok (cnt_in (m:=(mTr 3 d (zak (zaG m) 14).2).2) ht);exact⟨⟨f,zfe.1 ht,⟨rfl,rfl⟩,ha,hb⟩,g,sa,sb⟩
  ·rename_i ht;rw[zfe]at ht;obtain⟨e1,e2,e3⟩:=zrT (k:=8+(zak (zaG m) 14).1) (ids:=3) (m:=(mTr 3 d (zak (zaG m) 14).2).2);obtain⟨f,g⟩:=one_ok (k:=8+(zak (zaG m) 14).1) (m:=(mTr 3 d (zak (zaG m) 14).2).2) (by omega);exact⟨⟨f,by rw[e1];omega,⟨e2,e3⟩,ha⟩,g,sa⟩
def zh3 (d:Nat) (k:Nat) (l:List Int) (n:Int):Tr:=(mTr 3 d (l.take k,0,n,0,())).1
theorem zsZ {d k:Nat} {l:List Int} {n:Int} (h0:0≤n) (h1:n≤1000000):TrOk (zh3 d k l n)∧TrSm (zh3 d k l n):=zoM d _ h0 h1
theorem zoL (d k:Nat) (l:List Int) (n:Int):(zh3 d k l n).size≤mMax d:=zfs 3 d _
def ztS (d k:Nat):Ctr:={ args:=[ints,i64],pre:=fun x=>[0≤x.2.1,x.2.1≤1000000],res:=.slice nd,own:=none,out:=fun x=>(zh3 d k x.1 x.2.1).flat 0 }
def kMa:Kn:={ gmK with R:=[(58,zgu 10)] }
theorem zl9:KnOk Tryz.prog gmG kMa:=zaC.withR (.cons (zqO 10) (fun _ _=>trivial) .nil)
theorem znW:yK Tryz.prog gmG 36 (ztS 2 30):=by
 refine zaq (K:=kMa) zl9 Tryz.func36 rfl rfl Tryz.call36 rfl (by decide) (by intro h;cases h) ?_;rintro w0 X hX ⟨(l:List Int),(n:Int),_⟩ hp;obtain⟨h0,h1⟩:0≤n∧n≤1000000:=hp;change AWP _ _ _ _ _ ⟨[(0,⟨ints,l⟩),(1,⟨i64,n⟩)],[],0⟩ _;refine za (za ?_);refine zaa hX zl9 rfl ?_ ?_
 ·trivial
 have e:(min ((l.length:Nat):Int) 30).toNat=min l.length 30:=by omega
 have y1:0≤min ((l.length:Nat):Int) 30:=by omega
 have y2:min ((l.length:Nat):Int) 30≤((l.length:Nat):Int):=by omega
 have ht:l.take (min ((l.length:Nat):Int) 30).toNat=l.take 30:=by
  rw[e];by_cases h:l.length≤30
  ·rw[Nat.min_eq_left h,xx (zl _),xx h]
  ·rw[Nat.min_eq_right (by omega)]
 refine za (za ?_);refine zaa hX zl9 rfl ?_ ?_
 ·exact⟨y1,y2⟩
 refine zap (σ':=⟨[(5,⟨.optr mkr,⟨0,mkr,.here⟩⟩)],[(0,some (.box mkr (l.take 30,0,n,0,())))],1⟩) ⟨⟨rfl,trivial⟩,⟨ztY (by show (l.take (min ((l.length:Nat):Int) 30).toNat,(0:Int),n,(0:Int),())=_;rw[ht]),trivial⟩,rfl,rfl⟩ ?_;have q1:(0:Int)≤2:=by decide
 have q2:(2:Int) < ((10:Nat):Int):=by decide
 have q3:mMax (2:Int).toNat≤10000:=by decide
 have q4:(0:Int)≤0∧(0:Int)+20 * ((mMax (2:Int).toNat:Nat):Int)≤500000:=by decide
 have q5:(0:Int)≤0∧(0:Int)+((mMax (2:Int).toNat:Nat):Int)≤500000:=by decide
 have q6:(0:Int) < 3∧(3:Int)≤1000000:=by decide
 refine za (za ?_);refine zaa hX zl9 rfl ?_ ?_
 ·exact⟨q1,q2,q3,q4,⟨h0,h1⟩,q5,q6⟩
 refine zr ⟨.inr rfl,zaw rfl trivial rfl rfl ?_⟩;rfl
theorem zqk:yK Tryz.prog gmH 36 (ztS 2 30):=znW.lift
noncomputable def eqN (a b:Nd):Bool:=eqb nd a b
theorem zlq {a b:Nd}:eqN a b=true↔a=b:=zbx
theorem zhG {a b:Nd}:eqN a b=false↔a≠b:=by rw[<-uF,zlq]
noncomputable def zsa:Ctr:={ args:=[nd,nd],pre:=fun _=>[],res:=.bool,own:=none,out:=fun x=>eqN x.1 x.2.1 }
theorem eqb_ne (x y:List UInt8):(!eqb .str x y)= !decide (x=y):=by rw[zcy]
theorem zqr:yK Tryz.prog gmH 49 zsa:=by
 refine zaq (K:=gmK) zaj Tryz.func49 rfl rfl Tryz.call49 rfl (by decide) (by intro h;cases h) ?_;rintro w0 X hX ⟨(a:Nd),(b:Nd),_⟩ hp;change AWP _ _ _ _ _ ⟨[(0,⟨nd,a⟩),(1,⟨nd,b⟩)],[],0⟩ _;refine za (za ?_);refine zaa hX zaj rfl ?_ ?_
 ·trivial
 refine za (za ?_);refine zaa hX zaj rfl ?_ ?_
 ·repeat'(first|exact trivial|assumption|(refine⟨?_,?_⟩)|(intro _)|exact zb rfl|exact zi _|(simp_all [allP];done))
 obtain⟨a1,a2,a3,a4,a5,a6,(la:List Int),a8,⟨⟩⟩:=a;obtain⟨b1,b2,b3,b4,b5,b6,(lb:List Int),b8,⟨⟩⟩:=b;have ht:(bif (bif (bif (bif (bif (bif (bif a1 != b1 then true else a2 != b2) then true else a3 != b3) then true else a4 != b4) then true else a5 != b5) then true else a6 != b6) then true else !eqb .str a8 b8) then true else ((la.length:Nat):Int) != ((lb.length:Nat):Int))=true↔¬ (a1=b1∧a2=b2∧a3=b3∧a4=b4∧a5=b5∧a6=b6∧a8=b8∧la.length=lb.length):=by
  rw[eqb_ne];simp only[b_or,yl,bne_iff_ne,zB,decide_eq_false_iff_not];constructor
  ·rintro (((((((h|h)|h)|h)|h)|h)|h)|h) ⟨x1,x2,x3,x4,x5,x6,x7,x8⟩
   ·exact h x1
   ·exact h x2
   ·exact h x3
   ·exact h x4
   ·exact h x5
   ·exact h x6
   ·exact h x7
   ·exact h (by rw[x8])
  ·intro h;by_cases x1:a1=b1
   ·by_cases x2:a2=b2
    ·by_cases x3:a3=b3
     ·by_cases x4:a4=b4
      ·by_cases x5:a5=b5
       ·by_cases x6:a6=b6
        ·by_cases x7:a8=b8
         ·refine .inr fun e=>h ⟨x1,x2,x3,x4,x5,x6,x7,by omega⟩
         ·exact .inl (.inr x7)
        ·exact .inl (.inl (.inr x6))
       ·exact .inl (.inl (.inl (.inr x5)))
      ·exact .inl (.inl (.inl (.inl (.inr x4))))
     ·exact .inl (.inl (.inl (.inl (.inl (.inr x3)))))
    ·exact .inl (.inl (.inl (.inl (.inl (.inl (.inr x2))))))
   ·exact .inl (.inl (.inl (.inl (.inl (.inl (.inl x1))))))
 refine zaf rfl (fun hb=>?_) (fun hb=>?_)
 ·have hb:=ht.1 hb;(repeat(first|apply zae|apply zab|apply zal|apply zad|apply zac|refine zaa hX zaj rfl trivial ?_|refine zaa hX zaj rfl id ?_|refine zaa hX zaj rfl ⟨id,id⟩ ?_));refine zr ⟨.inr rfl,zaw rfl trivial rfl rfl ?_⟩;refine (zhG.2 fun e=>hb ?_).symm;cases e;exact⟨rfl,rfl,rfl,rfl,rfl,rfl,rfl,rfl⟩
 ·have hb:¬ _:=fun h=>by rw[ht.2 h]at hb;cases hb
  obtain⟨rfl,rfl,rfl,rfl,rfl,rfl,rfl,hlen⟩:=Classical.not_not.1 hb;apply zab;refine za (za ?_);refine zaa hX zaj rfl ?_ ?_
  ·trivial
  (repeat(first|apply zae|apply zab|apply zac|apply zad));refine zap (σ':=⟨[(2,⟨.optr nd,⟨0,nd,.here⟩⟩),(3,⟨.optr nd,⟨1,nd,.here⟩⟩),(5,⟨i64,(0:Int)⟩)],[(0,some (.box nd (a1,a2,a3,a4,a5,a6,la,a8,()))),(1,some (.box nd (a1,a2,a3,a4,a5,a6,lb,a8,())))],2⟩) ⟨⟨rfl,rfl,rfl,trivial⟩,⟨rfl,rfl,trivial⟩,rfl,rfl⟩ ?_;refine yR (ι:=Nat) (fun k=>⟨[(2,⟨.optr nd,⟨0,nd,.here⟩⟩),(3,⟨.optr nd,⟨1,nd,.here⟩⟩),(5,⟨i64,(k:Int)⟩)],[(0,some (.box nd (a1,a2,a3,a4,a5,a6,la,a8,()))),(1,some (.box nd (a1,a2,a3,a4,a5,a6,lb,a8,())))],2⟩) (fun k=>k≤la.length∧la.take k=lb.take k) (fun k=>la.length - k) 0 ⟨zk _,rfl⟩ ⟨⟨rfl,rfl,rfl,trivial⟩,⟨rfl,rfl,trivial⟩,rfl,rfl⟩ ?_;rintro k ⟨hk,he⟩;refine za (za ?_);refine zaa hX zaj rfl ?_ ?_
  ·trivial
  refine AWP.len 64 rfl fun hl=>?_;have hl:la.length≤maxLen:=hl;unfold maxLen at hl;refine zaf rfl (fun hb=>?_) (fun hb=>?_)
  ·have hb:decide ((k:Int) < ((la.length:Nat):Int))=true:=hb;have hb:=of_decide_eq_true hb;have hlt:k < la.length:=by omega
   have hlt2:k < lb.length:=by omega
   have z0:(0:Int)≤(k:Int):=by omega
   have z1:(k:Int) < ((la.length:Nat):Int):=by omega
   have z2:(k:Int) < ((lb.length:Nat):Int):=by omega
   have g1:la.getD (k:Int).toNat (0:Int)=la[k]:=za6 hlt;have g2:lb.getD (k:Int).toNat (0:Int)=lb[k]:=za6 hlt2;(repeat(first|apply zae|apply zab|apply zac|apply zad));refine kL dM hX zaj 11 (by kernel_rfl) rfl rfl ?_ ?_ ?_
   ·repeat'(first|exact trivial|assumption|exact z0|exact z1|exact z2|(refine⟨?_,?_⟩)|(intro _)|exact zb rfl|exact zi _|(simp_all [allP];done))
   ·trivial
   refine zaf rfl (fun hc=>?_) (fun hc=>?_)
   ·have hc:(la.getD (k:Int).toNat (0:Int) != lb.getD (k:Int).toNat (0:Int))=true:=hc;rw[g1,g2]at hc;have hc:=bne_iff_ne.1 hc;(repeat(first|apply zae|apply zab|apply zal|apply zad|apply zac|refine zaa hX zaj rfl trivial ?_|refine zaa hX zaj rfl id ?_|refine zaa hX zaj rfl ⟨id,id⟩ ?_));refine zr ⟨.inr rfl,zaw rfl trivial rfl rfl ?_⟩;refine (zhG.2 fun e=>hc ?_).symm;have e:la=lb:=congrArg ndI e;subst e;rfl
   ·have hc:(la.getD (k:Int).toNat (0:Int) != lb.getD (k:Int).toNat (0:Int))=false:=hc;rw[g1,g2]at hc;have hc:=bne_eq_false_iff_eq.1 hc;apply zab;refine za (za ?_);refine zaa hX zaj rfl ?_ ?_
    ·exact za0 (by omega)
    refine⟨k+1,⟨hlt,?_⟩,by omega,⟨rfl,rfl,zdT _,trivial⟩,⟨rfl,rfl,trivial⟩,rfl,rfl⟩;rw[zO hlt,zO hlt2,he,hc]
  ·have hb:decide ((k:Int) < ((la.length:Nat):Int))=false:=hb;have hb:=of_decide_eq_false hb;obtain rfl:k=la.length:=by omega
   (repeat(first|apply zae|apply zab|apply zal|apply zad|apply zac|refine zaa hX zaj rfl trivial ?_|refine zaa hX zaj rfl id ?_|refine zaa hX zaj rfl ⟨id,id⟩ ?_));refine zr ⟨.inr rfl,zaw rfl trivial rfl rfl ?_⟩;refine (zlq.2 ?_).symm;rw[xd,hlen,xd]at he;rw[he]
noncomputable def zmQ (a b:List Nd):Bool:=eqb (.slice nd) a b
theorem zfk {a b:List Nd}:zmQ a b=true↔a=b:=zbx
theorem zg1 {a b:List Nd}:zmQ a b=false↔a≠b:=by rw[<-uF,zfk]
noncomputable def ztR:Ctr:={ args:=[.slice nd,.slice nd],pre:=fun _=>[],res:=.bool,own:=none,out:=fun x=>zmQ x.1 x.2.1 }
noncomputable def kSame:Kn:={ gmK with C:=[(49,zsa)] }
theorem zbC:KnOk Tryz.prog gmH kSame:=zaj.with (.cons zqr .nil)
theorem zn9:yK Tryz.prog gmH 18 ztR:=by
 refine zaq (K:=kSame) zbC Tryz.func18 rfl rfl Tryz.call18 rfl (by decide) (by intro h;cases h) ?_;rintro w0 X hX ⟨(la:List Nd),(lb:List Nd),_⟩ hp;change AWP _ _ _ _ _ ⟨[(0,⟨.slice nd,la⟩),(1,⟨.slice nd,lb⟩)],[],0⟩ _;refine AWP.len 0 rfl fun hl=>?_;unfold maxLen at hl;refine za (za ?_);refine zaa hX zbC rfl ?_ ?_
 ·trivial
 refine za (za ?_);refine zaa hX zbC rfl ?_ ?_
 ·trivial
 refine zaf rfl (fun hb=>?_) (fun hb=>?_)
 ·have hb:(((la.length:Nat):Int) != ((lb.length:Nat):Int))=true:=hb;have hb:=bne_iff_ne.1 hb;(repeat(first|apply zae|apply zab|apply zal|apply zad|apply zac|refine zaa hX zbC rfl trivial ?_|refine zaa hX zbC rfl id ?_|refine zaa hX zbC rfl ⟨id,id⟩ ?_));refine zr ⟨.inr rfl,zaw rfl trivial rfl rfl ?_⟩;exact (zg1.2 fun e=>hb (by have e:la=lb:=e;rw[e])).symm
 have hb:(((la.length:Nat):Int) != ((lb.length:Nat):Int))=false:=hb;have hb:=bne_eq_false_iff_eq.1 hb;have hlen:la.length=lb.length:=by omega
 apply zab;refine za (za ?_);refine zaa hX zbC rfl ?_ ?_
 ·trivial
 (repeat(first|apply zae|apply zab|apply zac|apply zad));refine yR (ι:=Nat) (fun k=>⟨[(0,⟨.slice nd,la⟩),(1,⟨.slice nd,lb⟩),(5,⟨i64,(k:Int)⟩)],[],0⟩) (fun k=>k≤la.length∧la.take k=lb.take k) (fun k=>la.length - k) 0 ⟨zk _,rfl⟩ ⟨⟨rfl,rfl,rfl,trivial⟩,trivial,rfl,rfl⟩ ?_;rintro k ⟨hk,he⟩;refine za (za ?_);refine zaa hX zbC rfl ?_ ?_
 ·trivial
 refine zaf rfl (fun hb=>?_) (fun hb=>?_)
 ·have hb:decide ((k:Int) < ((la.length:Nat):Int))=true:=hb;have hb:=of_decide_eq_true hb;have hlt:k < la.length:=by omega
  have hlt2:k < lb.length:=by omega
  have z0:(0:Int)≤(k:Int):=by omega
  have z1:(k:Int) < ((la.length:Nat):Int):=by omega
  have z2:(k:Int) < ((lb.length:Nat):Int):=by omega
  have g1:la.getD (k:Int).toNat zNd=la[k]:=za6 hlt;have g2:lb.getD (k:Int).toNat zNd=lb[k]:=za6 hlt2;(repeat(first|apply zae|apply zab|apply zac|apply zad));refine kL dM hX zbC 10 (by kernel_rfl) rfl rfl ?_ ?_ ?_
  ·repeat'(first|exact trivial|assumption|exact z0|exact z1|exact z2|(refine⟨?_,?_⟩)|(intro _)|exact zb rfl|exact zi _|(simp_all [allP];done))
  ·trivial
  refine zaf rfl (fun hc=>?_) (fun hc=>?_)
  ·have hc:(!eqN (la.getD (k:Int).toNat zNd) (lb.getD (k:Int).toNat zNd))=true:=hc;rw[g1,g2,zB]at hc;have hc:=zhG.1 hc;(repeat(first|apply zae|apply zab|apply zal|apply zad|apply zac|refine zaa hX zbC rfl trivial ?_|refine zaa hX zbC rfl id ?_|refine zaa hX zbC rfl ⟨id,id⟩ ?_));refine zr ⟨.inr rfl,zaw rfl trivial rfl rfl ?_⟩;refine (zg1.2 fun e=>hc ?_).symm;have e:la=lb:=e;subst e;rfl
  ·have hc:(!eqN (la.getD (k:Int).toNat zNd) (lb.getD (k:Int).toNat zNd))=false:=hc;rw[g1,g2,xj]at hc;have hc:=zlq.1 hc;apply zab;refine za (za ?_);refine zaa hX zbC rfl ?_ ?_
   ·exact za0 (by omega)
   refine⟨k+1,⟨hlt,?_⟩,by omega,⟨rfl,rfl,zdT _,trivial⟩,trivial,rfl,rfl⟩;rw[zO hlt,zO hlt2,he,hc]
 ·have hb:decide ((k:Int) < ((la.length:Nat):Int))=false:=hb;have hb:=of_decide_eq_false hb;obtain rfl:k=la.length:=by omega
  (repeat(first|apply zae|apply zab|apply zal|apply zad|apply zac|refine zaa hX zbC rfl trivial ?_|refine zaa hX zbC rfl id ?_|refine zaa hX zbC rfl ⟨id,id⟩ ?_));refine zr ⟨.inr rfl,zaw rfl trivial rfl rfl ?_⟩;refine (zfk.2 ?_).symm;rw[xd,hlen,xd]at he;exact he
noncomputable def zhm (y:List UInt8):Bool:=(!zkk y [35])&&decide (zbF isWh y < y.length)
noncomputable def zhX (y:List UInt8) (fr:Nat) (acc:List De):Except (Int×Int) (List De):=
 if zhm y=true then
  if 4000 < y.length then .error ((fr:Int),2)
  else match zgy y ((acc.length:Nat):Int) with
   | .ok d=>.ok (acc++ [d])
   | .error e=>if e.2=0 then .ok acc else .error ((fr:Int)+e.1,e.2)
 else .ok acc
noncomputable def libK:List (List UInt8)->Nat->List De->List De×Int×Int
 | [],_,acc=>(acc,0,0)
 |y::r,fr,acc=>match zhX y fr acc with
  | .error e=>([],e.1,e.2)
  | .ok acc'=>libK r (fr+y.length+1) acc'
noncomputable def za2 (s:List UInt8):List De×Int×Int:=if 1048576 < s.length then ([],0,2) else libK (segs s) 0 []
def lPF:List (Nat×V):=[(2,⟨.hptr,((0:Nat),(0:Nat))⟩),(3,⟨.optr i64,⟨1,i64,.here⟩⟩),(4,⟨.optr i64,⟨2,i64,.here⟩⟩),(5,⟨.hptr,((3:Nat),(0:Nat))⟩),(6,⟨.optr i64,⟨4,i64,.here⟩⟩),(7,⟨.optr .str,⟨5,.str,.here⟩⟩)]
def lRE (at' e:Int):Owns:=[(0,some (.hbox tD [⟨.lit,.slice none 0 0⟩])),(1,some (.box i64 at')),(2,some (.box i64 e))]
def zlc (y:List UInt8) (fr:Nat) (e:Exit) (σ:AS):Except (Int×Int) (List De)->Prop
 | .ok acc'=>e= .normal∧Fit σ ⟨[],libE y ((fr+y.length+1:Nat):Int) acc',7⟩
 | .error er=>e= .ret∧Fit σ ⟨[],lRE er.1 er.2,7⟩
noncomputable def kLc:Kn:={ gmK with H:=[tD],C:=[(51,cPre),(52,zlw 53 isWh)] }
theorem zcd:KnOk Tryz.prog gmH kLc:=⟨zhz,zhy,.cons zpl <| .cons zjP.lift .nil,ziB,RsOk.nil⟩
def zps:Code->Option (Code×Code)
 | .rangeFunc _ _ a b=>some (a,b)
 | .seq x y=>match zps x with
  |some r=>some r
  |none=>zps y
 | .block _ c=>zps c
 |_=>none
noncomputable def lBody:Code:=match zps (Tryz.f19.body.getD .skip) with
 |some r=>r.2
 |none=>.skip
noncomputable def lAsgn:Code:=match zps (Tryz.f19.body.getD .skip) with
 |some r=>r.1
 |none=>.skip
theorem zqW {w1:zj} {X:Ownr} {y:List UInt8} {fr:Nat} {acc:List De} (hy:y.length≤1100000) (hfr:fr≤1100000) (ha:acc.length≤1000000) (hX:X.Ok w1) (hG:X.G=gmH) (hK:X.K=5) (hinv:∀ ty,ginv w1 X.R ty) (her:∀ er,zgy y ((acc.length:Nat):Int)= .error er->0≤er.1∧er.1≤1100000):
  AWP Tryz.prog w1 X 47 lBody ⟨lPF,libE y (fr:Int) acc,7⟩ (fun e σ=>zlc y fr e σ (zhX y fr acc)):=by
 obtain⟨G,O,K,fix,D,ρ,B⟩:=X;obtain rfl:G=gmH:=hG;obtain rfl:K=5:=hK;unfold lPF libE;apply zac;have hp1:y.length≤2000000∧([35]:List UInt8).length≤2000000:=⟨by omega,by decide⟩;apply zae;refine xz (σ':=⟨[(2,⟨.hptr,((0:Nat),(0:Nat))⟩),(3,⟨.optr i64,⟨1,i64,.here⟩⟩),(4,⟨.optr i64,⟨2,i64,.here⟩⟩),(5,⟨.hptr,((3:Nat),(0:Nat))⟩),(6,⟨.optr i64,⟨4,i64,.here⟩⟩),(7,⟨.optr .str,⟨5,.str,.here⟩⟩),(25,⟨.bool,zhm y⟩)],libE y (fr:Int) acc,7⟩) ?_ ?_
 ·unfold libE;refine jB dM 10 rfl (by kernel_rfl) ?_;cases hq:zkk y [35] with
  |true=>
   have hl0:zhm y=false:=by unfold zhm;rw[hq];rfl
   have hb:(!zkk y [35])=false:=by rw[hq];rfl
   have hl2:(bif !zkk y [35] then false else false)=zhm y:=by rw[hl0,hb];rfl
   repeat'(first
    |exact jN
    |refine jo ⟨_,rfl,?_⟩ ?_
    |refine xg hX zcd rfl trivial ?_
    |refine xg hX zcd rfl hp1 ?_
    |(refine StepA.guardF 3 19 true .bool false rfl rfl (zbo hb) rfl rfl rfl ?_)
    |refine xg hX zcd rfl (by exact fun h=>hb.symm.trans h) ?_
    |(refine jG ?_;exact⟨⟨rfl,rfl,rfl,rfl,rfl,rfl,zbo hl2,trivial⟩,⟨rfl,rfl,rfl,rfl,rfl,rfl,rfl,trivial⟩,rfl,rfl⟩))
  |false=>
   have hb:(!zkk y [35])=true:=by rw[hq];rfl
   have hl1:(bif !zkk y [35] then decide (((zbF isWh y:Nat):Int) < ((y.length:Nat):Int)) else false)=zhm y:=by
    unfold zhm;rw[zcs]
    congr 1
    exact decide_eq_decide.2 Int.ofNat_lt
   repeat'(first
    |exact jN
    |refine jo ⟨_,rfl,?_⟩ ?_
    |refine StepA.guardT 3 19 true rfl rfl (zbo hb) rfl ?_
    |refine xg hX zcd rfl trivial ?_
    |refine xg hX zcd rfl hp1 ?_
    |refine xg hX zcd rfl (by exact rfl) ?_
    |refine xg hX zcd rfl (by exact fun h=>h) ?_
    |(refine jG ?_;exact⟨⟨rfl,rfl,rfl,rfl,rfl,rfl,zbo hl1,trivial⟩,⟨rfl,rfl,rfl,rfl,rfl,rfl,rfl,trivial⟩,rfl,rfl⟩))
 have hlen:((y.length:Nat):Int)≤1100000:=by omega
 have hfrl:((fr:Nat):Int)≤1100000:=by omega
 have q0:inR .i64 (((y.length:Nat):Int)+1):=zam (by omega) (by omega);have q1:inR .i64 ((fr:Int)+(((y.length:Nat):Int)+1)):=zam (by omega) (by omega);have hend:(fr:Int)+(((y.length:Nat):Int)+1)=((fr+y.length+1:Nat):Int):=by omega
 unfold libE;refine zaf rfl (fun hb=>?_) (fun hb=>?_)
 ·have hb:zhm y=true:=hb;unfold zhX;rw[if_pos hb];refine za (za ?_);refine zaa hX zcd rfl ?_ ?_
  ·trivial
  refine zaf rfl (fun hb=>?_) (fun hb=>?_)
  ·have hb:decide (((4000:Nat):Int) < ((y.length:Nat):Int))=true:=hb;have hb:=of_decide_eq_true hb;rw[if_pos (by omega)];refine xz (σ':=⟨[],lRE (fr:Int) 2,7⟩) ?_ ?_
   ·unfold lRE;refine jB dM 4 rfl (by kernel_rfl) ?_
    repeat'(first
     |exact jN
     |refine jo ⟨_,rfl,?_⟩ ?_
     |refine xg hX zcd rfl trivial ?_
     |(refine jG ?_;exact⟨trivial,⟨rfl,rfl,rfl,trivial⟩,rfl,rfl⟩))
   ·exact zr ⟨rfl,trivial,⟨rfl,rfl,rfl,trivial⟩,rfl,rfl⟩
  have hb:decide (((4000:Nat):Int) < ((y.length:Nat):Int))=false:=hb;have hb:=of_decide_eq_false hb;rw[if_neg (by omega)];apply zab;refine zap (σ':=⟨lPF,libE y (fr:Int) acc,7⟩) ⟨⟨rfl,rfl,rfl,rfl,rfl,rfl,trivial⟩,⟨rfl,rfl,rfl,rfl,rfl,rfl,rfl,trivial⟩,rfl,rfl⟩ ?_;unfold lPF;(repeat(first|apply zae|apply zab|apply zac|apply zad));refine zai ?_;refine AL.runClo hX 6 rfl rfl rfl rfl rfl rfl rfl rfl rfl rfl (by show 5≤6;omega) Tryz.func54 rfl rfl rfl rfl Tryz.call54 rfl rfl rfl (N:=NLib y (fr:Int) acc) (fun w2 X' h1 h2 h3 h4 h5 h6=>?_) (fun r σ hN=>?_)
  ·refine zqX (by omega) ha h1 h2 h3 h4 h5 fun ty=>zaJ (ty:=ty) hX rfl (hinv ty) _ _ h6 (by
    have:=h1.2.2 w2 (Kept.refl _ _);rwa[h2]at this)
  rcases hN with ⟨d,hd,rfl,hf⟩|⟨er,hd,rfl,hf⟩
  ·refine xn (σ':=⟨(32,⟨tupI,((0:Int),(0:Int),())⟩)::lPF,libE y (fr:Int) (acc++ [d]),7⟩) ⟨⟨rfl,rfl,rfl,rfl,rfl,rfl,rfl,trivial⟩,hf.e,rfl,rfl⟩ ?_;unfold lPF libE;refine zT hX zcd rfl trivial ?_;refine za (za ?_);refine zaa hX zcd rfl ?_ ?_
   ·trivial
   refine zaf rfl (fun hb=>absurd (show false=true from hb) (by decide)) (fun _=>?_);apply zab;rw[hd];refine za (za ?_);refine zaa hX zcd rfl ?_ ?_
   ·exact⟨q0,q1⟩
   exact⟨rfl,trivial,⟨rfl,rfl,rfl,rfl,zfH hend,rfl,rfl,trivial⟩,rfl,rfl⟩
  ·refine xn (σ':=⟨(32,⟨tupI,(er.1,er.2,())⟩)::lPF,libE y (fr:Int) acc,7⟩) ⟨⟨rfl,rfl,rfl,rfl,rfl,rfl,rfl,trivial⟩,hf.e,rfl,rfl⟩ ?_;obtain⟨her0,her1⟩:=her er hd;have q2:inR .i64 ((fr:Int)+er.1):=zam (by omega) (by omega);unfold lPF libE;refine zT hX zcd rfl trivial ?_;refine za (za ?_);refine zaa hX zcd rfl ?_ ?_
   ·trivial
   rw[hd];refine zaf rfl (fun hb=>?_) (fun hb=>?_)
   ·have hb:(er.2 != 0)=true:=hb;have hb:er.2≠0:=bne_iff_ne.1 hb;show AWP _ _ _ _ _ _ (zjL _ _);refine xz (σ':=⟨[],lRE ((fr:Int)+er.1) er.2,7⟩) ?_ ?_
    ·unfold lRE;refine jB dM 7 rfl (by kernel_rfl) ?_
     repeat'(first
      |exact jN
      |refine jo ⟨_,rfl,?_⟩ ?_
      |refine xg hX zcd rfl trivial ?_
      |refine xg hX zcd rfl q2 ?_
      |(refine jG ?_;exact⟨trivial,⟨rfl,rfl,rfl,trivial⟩,rfl,rfl⟩))
    ·refine zr ?_;show zlc y fr .ret _ (if er.2=0 then .ok acc else .error ((fr:Int)+er.1,er.2));rw[if_neg hb];exact⟨rfl,trivial,⟨rfl,rfl,rfl,trivial⟩,rfl,rfl⟩
   ·have hb:(er.2 != 0)=false:=hb;have hb:er.2=0:=by
     by_cases h:er.2=0
     ·exact h
     ·rw[bne_iff_ne.2 h]at hb;cases hb
    apply zab;refine za (za ?_);refine zaa hX zcd rfl ?_ ?_
    ·exact⟨q0,q1⟩
    show zlc y fr .normal _ (if er.2=0 then .ok acc else .error ((fr:Int)+er.1,er.2));rw[if_pos hb];exact⟨rfl,trivial,⟨rfl,rfl,rfl,rfl,zfH hend,rfl,rfl,trivial⟩,rfl,rfl⟩
 ·have hb:zhm y=false:=hb;unfold zhX;rw[if_neg (by rw[hb];decide)];apply zab;refine za (za ?_);refine zaa hX zcd rfl ?_ ?_
  ·exact⟨q0,q1⟩
  exact⟨rfl,trivial,⟨rfl,rfl,rfl,rfl,zfH hend,rfl,rfl,trivial⟩,rfl,rfl⟩
end
section
attribute [local go_sem] jQ
def zhV:List (List UInt8)->Nat
 | []=>0
 |g::r=>g.length+1+zhV r
theorem zfN:∀ (s c:List UInt8),zhV (segF c s)=c.length+s.length+1
 | [],c=>by unfold segF zhV zhV;simp
 |x::r,c=>by
  unfold segF;split
  ·rw[zhV,zfN r []];simp;omega
  ·rw[zfN r];simp;omega
theorem zmP (s:List UInt8):zhV (segs s)=s.length+1:=by rw[segs,zfN];simp
theorem zn6 (y:List UInt8):GOk y (zbi y,0):=by
 have:=zgO (s:=y);unfold zh6 at this;rwa[zlJ]at this
theorem zl3 {y:List UInt8} {k:Int} {er:Int×Int} (h:zgy y k= .error er):0≤er.1∧er.1≤((y.length:Nat):Int):=by
 have hg:=zn6 y;have he:Er y (gDef y (zbi y,0) k):=zaB (zb3 hg) fun u hu=>zaB (zb3 hg) fun _ _=>by
  have hc:=zbK hu;rw[beq_iff_eq]at hc;have k1:=zcm hg (by show Tok.cls (zbi y,(0:Int)).1≠0;rw[hc];decide);exact zaB (zeq k1.1) fun a ha=>zaB (ztG (zbq k1.1 ha).1) fun _ _=>zdf
 unfold zgy at h;cases hd:gDef y (zbi y,0) k with
 |ok r=>rw[hd]at h;cases h
 |error e=>
  rw[hd]at h;cases h;exact he _ hd
theorem zoU {y:List UInt8} {k:Nat} {d:De} (h:zgy y (k:Int)= .ok d):k < 4096:=by
 unfold zgy at h;cases hd:gDef y (zbi y,0) (k:Int) with
 |error e=>rw[hd]at h;cases h
 |ok r=>
  obtain⟨u,_,h2⟩:=zao hd;obtain⟨u2,h3,_⟩:=zao h2;have h3:=zbK h3;rw[zf,decide_eq_true_iff,decide_eq_true_iff]at h3;omega
theorem znR {y:List UInt8} {fr:Nat} {acc acc':List De} (ha:acc.length≤4096) (h:zhX y fr acc= .ok acc'):acc'.length≤4096:=by
 unfold zhX at h;split at h
 ·split at h
  ·cases h
  ·split at h
   ·rename_i d hd;cases h;have:=zoU hd;rw[zd,zF];omega
   ·split at h
    ·cases h;exact ha
    ·cases h
 ·cases h;exact ha
abbrev XL (O:Nat->Prop) (fix:Nat->Nat) (D:List jb) (ρ:Option Nat):Ownr:={ G:=gmH,X:=O,K:=5,fix:=fix,D:=D,ρ:=ρ }
def sLE (fr:Nat) (acc:List De):Owns:=[(0,some (.hbox tD [⟨.lit,.slice none 0 0⟩])),(1,some (.box i64 (0:Int))),(2,some (.box i64 (0:Int))),(3,some (zof 5)),(4,some (.box i64 (fr:Int))),(5,some (.buf 37 de acc))]
def lPF0:List (Nat×V):=[(2,⟨.hptr,((0:Nat),(0:Nat))⟩),(3,⟨.optr i64,⟨1,i64,.here⟩⟩),(4,⟨.optr i64,⟨2,i64,.here⟩⟩),(5,⟨.hptr,((3:Nat),(0:Nat))⟩),(6,⟨.optr i64,⟨4,i64,.here⟩⟩)]
def lRn:List (Nat×Nat):=[(0,0),(1,1),(2,2),(3,3),(4,4),(6,5),(5,6)]
theorem zo7 {B:zj} {O:Nat->Prop} {fix:Nat->Nat} {D:List jb} {ρ:Option Nat} (hX:(XL O fix D ρ).Ok B) (y:List UInt8) (fr:Nat) (acc:List De):
  AWP Tryz.prog B (XL O fix D ρ) 47 lAsgn ⟨(15,⟨.str,y⟩)::lPF0,sLE fr acc,6⟩ (fun e σ=>e= .normal∧Fit σ ⟨(2,⟨.hptr,((0:Nat),(0:Nat))⟩)::(3,⟨.optr i64,⟨1,i64,.here⟩⟩)::(4,⟨.optr i64,⟨2,i64,.here⟩⟩)::(5,⟨.hptr,((3:Nat),(0:Nat))⟩)::(6,⟨.optr i64,⟨4,i64,.here⟩⟩):: [(7,⟨.optr .str,⟨6,.str,.here⟩⟩)],(6,some (.box .str y))::sLE fr acc,7⟩):=by
 unfold lPF0 sLE;refine za (za ?_);refine zaa hX zcd rfl ?_ ?_
 ·trivial
 exact⟨rfl,⟨rfl,rfl,rfl,rfl,rfl,rfl,trivial⟩,⟨rfl,rfl,rfl,rfl,rfl,rfl,rfl,trivial⟩,rfl,rfl⟩
noncomputable def lTail:Code:=match Tryz.f19.body.getD .skip with
 | .seq _ (.seq _ (.seq _ (.seq _ (.seq _ t))))=>t
 |c=>c
def sLT (acc:List De):AS:=⟨[(2,⟨.hptr,((0:Nat),(0:Nat))⟩),(3,⟨.optr i64,⟨1,i64,.here⟩⟩),(4,⟨.optr i64,⟨2,i64,.here⟩⟩)],[(0,some (.hbox tD [⟨.slice de,acc⟩])),(1,some (.box i64 (0:Int))),(2,some (.box i64 (0:Int)))],6⟩
theorem zoR {B:zj} {O:Nat->Prop} {fix:Nat->Nat} {D:List jb} (hX:(XL O fix D none).Ok B) (fr:Nat) (acc:List De):
  AWP Tryz.prog B (XL O fix D none) 47 lTail ⟨lPF0,sLE fr acc,6⟩ (fun e σ=>e= .ret∧Fit σ (sLT acc)):=by
 unfold lPF0 sLE sLT;refine AWP.frzL hX 3 0 ?_;(repeat(first|apply zae|apply zab|apply zal|apply zad|apply zac|refine zaa hX zcd rfl trivial ?_|refine zaa hX zcd rfl id ?_|refine zaa hX zcd rfl ⟨id,id⟩ ?_));exact zr ⟨rfl,⟨rfl,rfl,rfl,trivial⟩,⟨rfl,rfl,rfl,trivial⟩,rfl,rfl⟩
section
variable {B W:zj} {X:Ownr} {n:Nat} {σ:AS} {β:Nat->zh} {a:Act}
theorem zmC (h:Sim B X n σ β a W) {i:Nat} (hi:i < X.K) {t:Ty} {x:t.T} (hE:Owns.get σ.E i=some (.box t x)):∃ cs ty,W.heap[X.fix i]? =some (.cells (List.toArray cs) ty (0,0))∧RepC W (OSet X σ.E β) t x cs:=by
 obtain⟨g,cs,ty,q1,_,q2,q3⟩:=h.own i _ hE;have q4:=(h.fix.2 i hi).1;rw[q1]at q4;have q4:g=X.fix i:=by simpa [zag] using q4
 subst q4;exact⟨cs,ty,q2,q3⟩
theorem zpk (h:Sim B X n σ β a W) {i:Nat} (hi:i < X.K) {v:V} {ty:zn} (hE:Owns.get σ.E i=some (.hbox ty [v])):∃ u,W.heap[X.fix i]? =some (.cells #[u] ty (0,0))∧u.oneCell'=true∧RepV W (OSet X σ.E β) β v.t v.x u:=by
 obtain⟨g,cs,q1,_,q2,u,r,rfl,q5,q6,q7⟩:=h.own i _ hE;have q7:r=[]:=q7;subst q7;have q4:=(h.fix.2 i hi).1;rw[q1]at q4;have q4:g=X.fix i:=by simpa [zag] using q4
 subst q4;exact⟨u,q2,q5,q6⟩
theorem zmR {B A C:zj} {X X':Ownr} {n n':Nat} {σ σ':AS} {β β':Nat->zh} {a a':Act} {I:Nat->Prop} (h:Sim B X n σ β a A) (h':Sim B X' n' σ' β' a' C) (hR:∀ g,X'.R g->X.R g) (hX:X.Ok B) (hI:∀ g,I g->X g):SameOn I B.heap.size A C:=
 ⟨h'.bel.os.trans h.bel.os.symm,h'.bel.tape.trans h.bel.tape.symm,h'.bel.output.trans h.bel.output.symm,h'.bel.size,fun k hk=>
   have hx:=hX.1 k (hI k hk)
   (h'.bel.block k hx.1 fun hr=>hx.2 (hR k hr)).trans (h.bel.block k hx.1 hx.2).symm⟩
end
def zpa (a:Act) (x:zh):Act:={ tmps:=((#[15]:Array Tmp).zip #[x]).foldl (fun t (p,v)=>t.setIfInBounds p v) a.tmps,defers:=[] }
theorem zdM {a:Act} {x:zh} (hsz:a.tmps.size=47) (s:Nat):(zpa a x).tmps.getD s undef=if 15=s then x else a.tmps.getD s undef:=by
 have:(zpa a x).tmps=a.tmps.setIfInBounds 15 x:=by simp[zpa]
 rw[this];by_cases h:15=s
 ·subst h;rw[if_pos rfl];simp[zJ,xN,hsz]
 ·rw[if_neg h];simp[zJ,xN,h]
def nA:Act:={ tmps:=#[],defers:=[] }
section
variable {w w5:zj} {O:Nat->Prop} {N:Nat} {s:List UInt8} {t0 t1 t2 t3 t4:zn} {a5:Act}
def lI (N D:Nat) (g:Nat):Prop:=itI (N+5) (N+6) (N+7) g∨g=D∨g=D+1
def lO (O:Nat->Prop) (N D:Nat) (g:Nat):Prop:=O g∨lI N D g
def lFix (N:Nat) (i:Nat):Nat:=N+i
def lBB (w5:zj) (N:Nat) (B:zj):Prop:=B.heap.size=w5.heap.size+2∧Kept (lI N w5.heap.size) w5 B
theorem lR {N:Nat} {O':Nat->Prop} {D:List jb} {ρ:Option Nat} {g:Nat} (h:(XL O' (lFix N) D ρ).R g):N≤g∧g≤N+4:=by
 rcases h with ⟨i,hi,rfl⟩|h
 ·have hi:i < 5:=hi;show N≤N+i∧N+i≤N+4;omega
 ·exact False.elim h
theorem zo9 (hN:N=w.heap.size) (hs5:w5.heap.size=N+8) (hb5:yV w.heap.size w w5) {B:zj} (h:lBB w5 N B):yV w.heap.size w B:=
 ⟨h.2.os.trans hb5.os,h.2.tape.trans hb5.tape,h.2.output.trans hb5.output,zH hb5.size h.2.size,fun k hk=>(h.2.block k (zK hk hb5.size) (by unfold lI itI;omega)).trans (hb5.block k hk)⟩
theorem zlh (hN:N=w.heap.size) (hs5:w5.heap.size=N+8) (hb5:yV w.heap.size w w5) {B W:zj} (h:lBB w5 N B) {O':Nat->Prop} {D:List jb} {ρ:Option Nat} (hk:Kept (XL O' (lFix N) D ρ).R B W):yV w.heap.size w W:=
 have hb:=zo9 hN hs5 hb5 h
 ⟨hk.os.trans hb.os,hk.tape.trans hb.tape,hk.output.trans hb.output,zH hb.size hk.size,fun k hkl=>(hk.block k (zK hkl hb.size) fun hr=>by have:=(lR hr).1;omega).trans (hb.block k hkl)⟩
theorem lX_ok (hN:N=w.heap.size) (hO:∀ g,O g->g < w.heap.size) (hG:gmH w) (hs5:w5.heap.size=N+8) (hb5:yV w.heap.size w w5) {B:zj} (h:lBB w5 N B) (D:List jb) (ρ:Option Nat):(XL (lO O N w5.heap.size) (lFix N) D ρ).Ok B:=by
 have hs:=h.1;refine⟨fun g hg=>?_,fun g hg=>?_,fun w' hk=>ziB _ _ hG (zlh hN hs5 hb5 h hk)⟩
 ·have hg:O g∨(g=N+5∨g=N+6∨g=N+7)∨g=w5.heap.size∨g=w5.heap.size+1:=hg;refine⟨?_,fun hr=>?_⟩
  ·rcases hg with h1|h1
   ·have:=hO g h1;omega
   ·omega
  ·have:=lR hr;rcases hg with h1|h1
   ·have:=hO g h1;omega
   ·omega
 ·have:=lR hg;omega
theorem lX_inv (hN:N=w.heap.size) (hG:gmH w) {O':Nat->Prop} {D:List jb} {ρ:Option Nat} {B:zj} (ty:zn):ginv B (XL O' (lFix N) D ρ).R ty:=by
 have hl:=zmg hG;exact⟨fun h=>by have:=lR h;omega,fun h=>by have:=lR h;omega⟩
def lJ (w5:zj) (O:Nat->Prop) (N:Nat) (s:List UInt8) (k:Nat) (W:zj):Prop:=∃ (B:zj) (β:Nat->zh) (acc:List De) (fr:Nat),lBB w5 N B∧Sim B (XL (lO O N w5.heap.size) (lFix N) [] none) 0 ⟨[],sLE fr acc,6⟩ β nA W∧acc.length≤4096∧k≤(segs s).length∧fr+zhV ((segs s).drop k)≤s.length+1∧libK ((segs s).drop k) fr acc=za2 s
def lN (w5:zj) (O:Nat->Prop) (N:Nat) (s:List UInt8) (k:Nat) (y:List UInt8) (a':Act) (W:zj):Prop:=∃ (B:zj) (β:Nat->zh) (acc:List De) (fr:Nat),lBB w5 N B∧Sim B (XL (lO O N w5.heap.size) (lFix N) [] none) 47 ⟨lPF,libE y (fr:Int) acc,7⟩ β a' W∧acc.length≤4096∧k≤(segs s).length∧fr+zhV ((segs s).drop k)≤s.length+1∧libK ((segs s).drop k) fr acc=za2 s
def lJr (w5:zj) (O:Nat->Prop) (N:Nat) (s:List UInt8) (W:zj):Prop:=∃ (er:Int×Int) (B:zj) (β:Nat->zh),za2 s=([],er.1,er.2)∧lBB w5 N B∧Sim B (XL (lO O N w5.heap.size) (lFix N) [] none) 0 ⟨[],lRE er.1 er.2,7⟩ β nA W
theorem zoV {tmps:Array zh} {g2 g3 g4:Nat} {W:zj} {u:zh} {x y:Int} {t2 t3 t4:zn} (hu:u.oneCell'=true) (h2:tmps.getD 2 undef= .pointer (some ⟨g2,0,none⟩)) (h3:tmps.getD 3 undef= .pointer (some ⟨g3,0,none⟩)) (h4:tmps.getD 4 undef= .pointer (some ⟨g4,0,none⟩))
  (c2:W.heap[g2]? =some (.cells #[u] t2 (0,0))) (c3:W.heap[g3]? =some (.cells #[.int .i64 x] t3 (0,0))) (c4:W.heap[g4]? =some (.cells #[.int .i64 y] t4 (0,0))):
  (results Tryz.f19 tmps).run Tryz.prog W= .ok (.tuple #[u,.int .i64 x,.int .i64 y]) W:=by
 have d2:=(zaV c2).1;have d3:=(zaV c3).1;have d4:=(zaV c4).1;rw[zJ]at h2 h3 h4;simp[results,Tryz.f19,go_sem,h2,h3,h4,d2,d3,d4]
abbrev zsq:Ty:=.tup (.slice de) (.tup i64 (.tup i64 .unit))
theorem zom {w:zj} {O:Nat->Prop} {acc:List De} {x y:Int} {u:zh} (hu:RepD w O (.slice de) acc u):zdu w O 0 none zsq (acc,x,y,()) (.tuple #[u,.int .i64 x,.int .i64 y]):=fun β=>
 ⟨[_,_,_],rfl,_,_,rfl,hu,_,_,rfl,rfl,_,_,rfl,rfl,rfl⟩
def ldco (D:Nat):jb:={ target:=.collected D,args:=#[] }
def zny (w:zj) (O:Nat->Prop) (r:List De×Int×Int) (e:Ending) (w':zj):Prop:=∃ v,e= .returned v∧yV w.heap.size w w'∧zdu w' O w.heap.size none zsq (r.1,r.2.1,r.2.2,()) v
theorem lfin {W:zj} {O':Nat->Prop} {tmps:Array zh} {D:Nat} {u:zh} {x y:Int} {acc:List De} (hN:N=w.heap.size) (hO:∀ g,O g->O' g) (hD:O' D) (hlt:N+2 < D) (hbel:yV w.heap.size w W) (hd:W.heap[D]? =some (.deferred (some []))) (hu:u.oneCell'=true) (h2:tmps.getD 2 undef= .pointer (some ⟨N,0,none⟩)) (h3:tmps.getD 3 undef= .pointer (some ⟨N+1,0,none⟩)) (h4:tmps.getD 4 undef= .pointer (some ⟨N+2,0,none⟩))
  (c2:W.heap[N]? =some (.cells #[u] t2 (0,0))) (c3:W.heap[N+1]? =some (.cells #[.int .i64 x] t3 (0,0))) (c4:W.heap[N+2]? =some (.cells #[.int .i64 y] t4 (0,0))) (hr:RepD W O' (.slice de) acc u):
  LeavesInM yA 1 Tryz.prog Tryz.f19 tmps (zny w O (acc,x,y)) [ldco D] .returning W:=by
 refine⟨(by intro h;cases h),.inl ⟨D,_,rfl,run_takeDeferred hd,?_⟩⟩;have hk:Kept (fun g=>g=D) W (W.putObj D (.deferred none)):=zcN _ rfl;have hlD:=(zo.1 hd).1;have hl:∀ g (o:Obj),W.heap[g]? =some o->g≠D->(W.putObj D (.deferred none)).heap[g]? =some o:=fun g o hg hne=>(hk.block g (zo.1 hg).1 hne).trans hg;refine⟨_,zoV hu h2 h3 h4 (hl _ _ c2 (by omega)) (hl _ _ c3 (by omega)) (hl _ _ c4 (by omega)),_,rfl,?_,?_⟩
 ·refine⟨hk.os.trans hbel.os,hk.tape.trans hbel.tape,hk.output.trans hbel.output,zH hbel.size hk.size,fun k hkl=>?_⟩;have h1:k < W.heap.size:=zK hkl hbel.size;exact (hk.block k h1 (by omega)).trans (hbel.block k hkl)
 ·exact zom (RepD.keep ⟨hk.size,fun g hg hn=>hk.block g hg fun e=>hn (e▸hD),fun g _ hg=>hO g hg⟩ hr)
end
end
section
attribute [local go_sem] jQ
section
variable {w w5:zj} {O:Nat->Prop} {N:Nat} {s:List UInt8} {t0 t1 t2 t3 t4:zn} {a5:Act}
theorem ziS {B W:zj} {O':Nat->Prop} {D:List jb} {ρ:Option Nat} {n:Nat} {σ:AS} {β:Nat->zh} {a:Act} (h:Sim B (XL O' (lFix N) D ρ) n σ β a W) {E:Owns} {m:Nat} (hf:Fit σ ⟨[],E,m⟩) (hm:5≤m):Sim B (XL O' (lFix N) [] none) 0 ⟨[],E,m⟩ β nA W:=
 (h.fit hf hm).act (X':=XL O' (lFix N) [] none) (a':=nA) rfl rfl rfl rfl rfl (F:=[]) zfS rfl
theorem zoX {y:List UInt8} {r:List (List UInt8)} {fr:Nat} {acc:List De}:libK (y::r) fr acc=match zhX y fr acc with
 | .error e=>([],e.1,e.2)
 | .ok acc'=>libK r (fr+y.length+1) acc':=rfl
set_option maxHeartbeats 1000000 in
theorem zoW (hN:N=w.heap.size) (hO:∀ g,O g->g < w.heap.size) (hG:gmH w) (hlen:s.length≤1048576) (hs5:w5.heap.size=N+8) (hb5:yV w.heap.size w w5)
  (b0:w5.heap[N]? =some (.cells #[.slice none 0 0] tD (0,0))) (b1:w5.heap[N+1]? =some (.cells #[.int .i64 0] t1 (0,0))) (b2:w5.heap[N+2]? =some (.cells #[.int .i64 0] t2 (0,0))) (b3:w5.heap[N+3]? =some (.cells #[.slice none 0 0] tD (0,0))) (b4:w5.heap[N+4]? =some (.cells #[.int .i64 0] t4 (0,0)))
  (i0:w5.heap[N+5]? =some (.cells #[.string ⟨s.toArray⟩] 9 (0,0))) (i1:w5.heap[N+6]? =some (.cells #[.string ⟨#[10]⟩] 9 (0,0))) (i2:w5.heap[N+7]? =some (.cells #[.int .i64 0] 3 (0,0)))
  (hsz:a5.tmps.size=47) (e2:a5.tmps.getD 2 undef= .pointer (some ⟨N,0,none⟩)) (e3:a5.tmps.getD 3 undef= .pointer (some ⟨N+1,0,none⟩)) (e4:a5.tmps.getD 4 undef= .pointer (some ⟨N+2,0,none⟩)) (e5:a5.tmps.getD 5 undef= .pointer (some ⟨N+3,0,none⟩)) (e6:a5.tmps.getD 6 undef= .pointer (some ⟨N+4,0,none⟩))
  (e14:a5.eval (.tmp 14)= .func (.func 145) #[] #[.pointer (some ⟨N+6,0,none⟩),.pointer (some ⟨N+5,0,none⟩),.pointer (some ⟨N+7,0,none⟩)]) (hdf:a5.defers=[]):
  zfL Tryz.prog 19 (.rangeFunc (.tmp 14) #[15] lAsgn lBody) (fun e a w'=>(e= .normal∨e= .ret)∧Exit.then (zfL Tryz.prog 19 lTail (bodyPostM yA 1 Tryz.prog Tryz.f19 (zny w O (za2 s)))) (bodyPostM yA 1 Tryz.prog Tryz.f19 (zny w O (za2 s))) e a w') a5 w5:=by
 have hP:za2 s=libK (segs s) 0 []:=if_neg (by omega);have hXok:∀ B D ρ,lBB w5 N B->(XL (lO O N w5.heap.size) (lFix N) D ρ).Ok B:=fun B D ρ h=>lX_ok hN hO hG hs5 hb5 h D ρ;have hsame:∀ {B A C:zj} {ρ ρ':Option Nat} {D D':List jb} {n n':Nat} {σ σ':AS} {β β':Nat->zh} {a a':Act},lBB w5 N B->Sim B (XL (lO O N w5.heap.size) (lFix N) D ρ) n σ β a A->Sim B (XL (lO O N w5.heap.size) (lFix N) D' ρ') n' σ' β' a' C->SameOn (lI N w5.heap.size) (w5.heap.size+2) A C:=fun hBB h h'=>by
  have:=zmR h h' (fun g hr=>hr) (hXok _ _ _ hBB) (I:=lI N w5.heap.size) (fun g hg=>.inr hg);rwa[hBB.1]at this
 refine zhT (m:=1) e14 Tryz.call145 (zk0 (N+5) (N+6) (N+7) s w5 (by omega) (by omega) i0 i1 i2) (zV _ _) ?_ (lJ w5 O N s) (lJr w5 O N s) (lN w5 O N s) ?_ ?_ ?_ ?_ ?_ ?_ ?_ ?_
 ·intro k hk;have hk:k=N+5∨k=N+6∨k=N+7:=hk;omega
 ·rintro k A C ⟨B,β,acc,fr,hBB,hS,h1,h2,h3,h4⟩ hk;obtain⟨B',hs',hk',hS'⟩:=hS.outside (hXok _ _ _ hBB) (I:=lI N w5.heap.size) (fun g hg=>.inr hg) hk;exact⟨B',β,acc,fr,⟨hs'.trans hBB.1,hBB.2.trans hk'⟩,hS',h1,h2,h3,h4⟩
 ·rintro A C ⟨er,B,β,hpe,hBB,hS⟩ hk;obtain⟨B',hs',hk',hS'⟩:=hS.outside (hXok _ _ _ hBB) (I:=lI N w5.heap.size) (fun g hg=>.inr hg) hk;exact⟨er,B',β,hpe,⟨hs'.trans hBB.1,hBB.2.trans hk'⟩,hS'⟩
 ·rintro k y a' A C ⟨B,β,acc,fr,hBB,hS,h1,h2,h3,h4⟩ hk;obtain⟨B',hs',hk',hS'⟩:=hS.outside (hXok _ _ _ hBB) (I:=lI N w5.heap.size) (fun g hg=>.inr hg) hk;exact⟨B',β,acc,fr,⟨hs'.trans hBB.1,hBB.2.trans hk'⟩,hS',h1,h2,h3,h4⟩
 ·intro W1 hb hs1;have hBB:lBB w5 N W1:=⟨hs1,⟨hb.os,hb.tape,hb.output,hb.size,fun k hk _=>hb.block k hk⟩⟩;have hl:∀ g (o:Obj),w5.heap[g]? =some o->W1.heap[g]? =some o:=fun g o hg=>(hb.block g (zo.1 hg).1).trans hg
  let β:Nat->zh:=fun i=>.pointer (some ⟨lFix N i,0,none⟩)
  have hS0:Sim W1 (XL (lO O N w5.heap.size) (lFix N) [] none) 0 ⟨[],[(0,some (.hbox tD [⟨.lit,.slice none 0 0⟩])),(1,some (.box i64 (0:Int))),(2,some (.box i64 (0:Int))),(3,some (.hbox tD [⟨.lit,.slice none 0 0⟩])),(4,some (.box i64 (0:Int)))],5⟩ β nA W1:=by
   refine Sim.boxes (X:=XL (lO O N w5.heap.size) (lFix N) [] none) rfl rfl (fun i _=>rfl) ?_ ?_ zfS rfl
   ·intro i j hi hj hij;have hij:N+i=N+j:=hij;omega
   ·intro i o h;rw[zah]at h;split at h
    ·rename_i hi;subst hi;cases h;exact⟨by show 0 < 5;omega,rfl,⟨N,[_],rfl,zk _,hl _ _ b0,_,[],rfl,rfl,rfl,rfl⟩,fun vs e v hv=>by cases e;rw[zw]at hv;subst hv;exact zk _⟩
    rw[zah]at h;split at h
    ·rename_i _ hi;subst hi;cases h;exact⟨by show 1 < 5;omega,rfl,⟨N+1,[_],_,rfl,zk _,hl _ _ b1,rfl⟩,fun vs e=>by cases e⟩
    rw[zah]at h;split at h
    ·rename_i _ _ hi;subst hi;cases h;exact⟨by show 2 < 5;omega,rfl,⟨N+2,[_],_,rfl,zk _,hl _ _ b2,rfl⟩,fun vs e=>by cases e⟩
    rw[zah]at h;split at h
    ·rename_i _ _ _ hi;subst hi;cases h;exact⟨by show 3 < 5;omega,rfl,⟨N+3,[_],rfl,zk _,hl _ _ b3,_,[],rfl,rfl,rfl,rfl⟩,fun vs e v hv=>by cases e;rw[zw]at hv;subst hv;exact zk _⟩
    rw[zah]at h;split at h
    ·rename_i _ _ _ _ hi;subst hi;cases h;exact⟨by show 4 < 5;omega,rfl,⟨N+4,[_],_,rfl,zk _,hl _ _ b4,rfl⟩,fun vs e=>by cases e⟩
    ·cases h
  obtain⟨β',hS1⟩:=kJ 3 0 37 de rfl rfl rfl _ _ _ hS0;refine⟨W1,β',[],0,hBB,ziS hS1 ⟨trivial,⟨rfl,rfl,rfl,rfl,rfl,rfl,trivial⟩,rfl,rfl⟩ (by omega),by simp,zk _,?_,hP.symm⟩;rw[List.drop_zero,zmP];omega
 ·rintro l k y W ⟨B,β,acc,fr,hBB,hS,h1,h2,h3,h4⟩ hy hsz2;obtain⟨hkl,hyk⟩:=yI.1 hy;have hd:(segs s).drop k=y::(segs s).drop (k+1):=by rw[<-hyk];exact yr hkl
  have h3':=h3;rw[hd,zhV]at h3';have hb:=fun k (hk:k < 5)=>(hS.fix.2 k hk).1;have hsim:=hS.act (X':=XL (lO O N w5.heap.size) (lFix N) [] (some l)) (m:=47) (a':=zpa a5 (.string ⟨y.toArray⟩)) rfl rfl rfl (by simp[zpa,hsz]) rfl (F:=(15,⟨.str,y⟩)::lPF0) (zbB (by rw[zdM hsz];exact⟨rfl,by show y.length≤maxLen;unfold maxLen;omega⟩) (zbB ⟨_,hb 0 (by omega),by rw[zdM hsz];exact e2⟩ (zbB ⟨_,hb 1 (by omega),by rw[zdM hsz];exact e3⟩ (zbB ⟨_,hb 2 (by omega),by rw[zdM hsz];exact e4⟩ (zbB ⟨_,hb 3 (by omega),by rw[zdM hsz];exact e5⟩ (zbB ⟨_,hb 4 (by omega),by rw[zdM hsz];exact e6⟩ zfS)))))) rfl;refine yM (zo7 (hXok B [] (some l) hBB) y fr acc β _ W hsim) ?_;rintro e a' W' ⟨σ',β',h',rfl,hf⟩;have hso:=hsame hBB hS h';have h6:=h'.fit hf (by show 5≤7;omega);have h7:=h6.renameK (L:=lRn) (m:=7) rfl rfl (by show 5≤7;omega) rfl rfl;refine⟨rfl,⟨B,_,acc,fr,hBB,(h7.fit (σ':=⟨lPF,libE y (fr:Int) acc,7⟩) ⟨⟨rfl,rfl,rfl,rfl,rfl,rfl,trivial⟩,⟨rfl,rfl,rfl,rfl,rfl,rfl,rfl,trivial⟩,rfl,rfl⟩ (by show 5≤7;omega)).act (X':=XL (lO O N w5.heap.size) (lFix N) [] none) rfl rfl rfl h7.sz h7.df (fun sl=>(h7.fit (σ':=⟨lPF,libE y (fr:Int) acc,7⟩) ⟨⟨rfl,rfl,rfl,rfl,rfl,rfl,trivial⟩,⟨rfl,rfl,rfl,rfl,rfl,rfl,rfl,trivial⟩,rfl,rfl⟩ (by show 5≤7;omega)).fr sl) rfl,h1,h2,h3,h4⟩,hso⟩
 ·rintro l k y W a' hy hsz2 ⟨B,β,acc,fr,hBB,hS,h1,h2,h3,h4⟩;obtain⟨hkl,hyk⟩:=yI.1 hy;have hd:(segs s).drop k=y::(segs s).drop (k+1):=by rw[<-hyk];exact yr hkl
  rw[hd,zhV]at h3;rw[hd,zoX]at h4;have hsim:=hS.act (X':=XL (lO O N w5.heap.size) (lFix N) [] (some l)) rfl rfl rfl hS.sz hS.df hS.fr rfl;refine yM (zqW (by omega) (by omega) (by omega) (hXok B [] (some l) hBB) rfl rfl (fun ty=>lX_inv hN hG ty) (fun er he=>⟨(zl3 he).1,by have:=(zl3 he).2;omega⟩) β _ W hsim) ?_;rintro e a3 W' ⟨σ',β',h',hR⟩;have hso:=hsame hBB hS h';refine⟨?_,hso⟩;cases hst:zhX y fr acc with
  |error er=>
   rw[hst]at hR h4;obtain⟨rfl,hf⟩:=hR;exact .inr ⟨rfl,er,B,β',h4.symm,hBB,ziS h' hf (by omega)⟩
  |ok acc'=>
   rw[hst]at hR h4;obtain⟨rfl,hf⟩:=hR;have h6:=(h'.fit hf (by show 5≤7;omega)).fit (σ':=⟨[],[(0,some (.hbox tD [⟨.lit,.slice none 0 0⟩])),(1,some (.box i64 (0:Int))),(2,some (.box i64 (0:Int))),(3,some (zof 6)),(4,some (.box i64 ((fr+y.length+1:Nat):Int))),(6,some (.buf 37 de acc'))],7⟩) ⟨trivial,⟨rfl,rfl,rfl,rfl,rfl,rfl,trivial⟩,rfl,rfl⟩ (by show 5≤7;omega);have h7:=h6.renameK (L:=lRn) (m:=6) rfl rfl (by show 5≤6;omega) rfl rfl;exact .inl ⟨rfl,B,_,acc',fr+y.length+1,hBB,ziS h7 ⟨trivial,⟨rfl,rfl,rfl,rfl,rfl,rfl,trivial⟩,rfl,rfl⟩ (by omega),znR h1 hst,hkl,by omega,h4⟩
 ·rintro W ⟨B,β,acc,fr,hBB,hS,h1,h2,h3,h4⟩ hdef;refine⟨.inl rfl,?_⟩;rw[jd]at h4;have h4:(acc,(0:Int),(0:Int))=za2 s:=h4;have hb:=fun k (hk:k < 5)=>(hS.fix.2 k hk).1;have hsim:=hS.act (X':=XL (lO O N w5.heap.size) (lFix N) [ldco w5.heap.size] none) (m:=47) (a':={ a5 with defers:={ target:=.collected w5.heap.size,args:=#[] }::a5.defers }) rfl rfl rfl hsz (by rw[hdf];rfl) (F:=lPF0) (zbB ⟨_,hb 0 (by omega),e2⟩ (zbB ⟨_,hb 1 (by omega),e3⟩ (zbB ⟨_,hb 2 (by omega),e4⟩ (zbB ⟨_,hb 3 (by omega),e5⟩ (zbB ⟨_,hb 4 (by omega),e6⟩ zfS))))) rfl;refine zck (m:=0) (yM (zoR (hXok _ _ _ hBB) fr acc β _ W hsim) ?_);rintro e a' W' ⟨σ',β',h',rfl,hf⟩;have h6:=h'.fit hf (by show 5≤6;omega);have hso:=hsame hBB hS h6;obtain⟨u,q0,q1,hu⟩:=zpk h6 (i:=0) (by show 0 < 5;omega) rfl;obtain⟨c1,y1,q2,q3⟩:=zmC h6 (i:=1) (by show 1 < 5;omega) rfl;obtain⟨c2,y2,q4,q5⟩:=zmC h6 (i:=2) (by show 2 < 5;omega) rfl;have q3:c1=[.int .i64 0]:=q3;have q5:c2=[.int .i64 0]:=q5;subst q3;subst q5;have hb6:=fun k (hk:k < 5)=>(h6.fix.2 k hk).1;have k2:a'.tmps.getD 2 undef= .pointer (some ⟨N,0,none⟩):=by
   obtain⟨g,r1,r2⟩:∃ g,zag (β' 0)=some g∧a'.tmps.getD 2 undef= .pointer (some ⟨g,0,none⟩):=h6.fr 2;rw[hb6 0 (by omega)]at r1;cases r1;exact r2
  have k3:a'.tmps.getD 3 undef= .pointer (some ⟨N+1,0,none⟩):=by
   obtain⟨g,r1,r2⟩:∃ g,zag (β' 1)=some g∧a'.tmps.getD 3 undef= .pointer (some ⟨g,0,none⟩):=h6.fr 3;rw[hb6 1 (by omega)]at r1;cases r1;exact r2
  have k4:a'.tmps.getD 4 undef= .pointer (some ⟨N+2,0,none⟩):=by
   obtain⟨g,r1,r2⟩:∃ g,zag (β' 2)=some g∧a'.tmps.getD 4 undef= .pointer (some ⟨g,0,none⟩):=h6.fr 4;rw[hb6 2 (by omega)]at r1;cases r1;exact r2
  show LeavesInM yA 1 Tryz.prog Tryz.f19 a'.tmps (zny w O (za2 s)) a'.defers .returning W';rw[h6.df, <-h4];exact lfin hN (O':=OSet (XL (lO O N w5.heap.size) (lFix N) [ldco w5.heap.size] none) (sLT acc).E β') (fun g hg=>.inl (.inl hg)) (.inl (.inr (.inr (.inl rfl)))) (by omega) (zlh hN hs5 hb5 hBB h6.bel) ((hso.block _ (.inr (.inl rfl))).trans hdef) q1 k2 k3 k4 q0 q2 q4 hu
 ·rintro W ⟨er,B,β,hpe,hBB,hS⟩ hdef;refine⟨.inr rfl,?_⟩;obtain⟨u,q0,q1,hu⟩:=zpk hS (i:=0) (by show 0 < 5;omega) rfl;have hu:u= .slice none 0 0:=hu;subst hu;obtain⟨c1,y1,q2,q3⟩:=zmC hS (i:=1) (by show 1 < 5;omega) rfl;obtain⟨c2,y2,q4,q5⟩:=zmC hS (i:=2) (by show 2 < 5;omega) rfl;have q3:c1=[.int .i64 er.1]:=q3;have q5:c2=[.int .i64 er.2]:=q5;subst q3;subst q5;show LeavesInM yA 1 Tryz.prog Tryz.f19 a5.tmps (zny w O (za2 s)) (ldco w5.heap.size::a5.defers) .returning W;rw[hdf,hpe];exact lfin (acc:=[]) hN (O':=OSet (XL (lO O N w5.heap.size) (lFix N) [] none) (lRE er.1 er.2) β) (fun g hg=>.inl (.inl hg)) (.inl (.inr (.inr (.inl rfl)))) (by omega) (zlh hN hs5 hb5 hBB hS.bel) hdef q1 e2 e3 e4 q0 q2 q4 ⟨_,rfl,.inl ⟨rfl,none,0,rfl,zk _⟩⟩
end
end
section
attribute [local go_sem] jQ
theorem zjA {P:Program} {f:FuncId} {Q:Exit->Act->zj->Prop} {a:Act} {w:zj} {id:Nat} {c:Code} (h:zfL P f c (fun e a w=>(e= .normal∨e= .ret)∧Q e a w) a w):zfL P f (.block id c) Q a w:=by
 intro b k cs hb hro;have h0:(lone (b.atR a (.code (.block id c)::k)) cs w).fenced P yA:=fenced_wide P _;obtain⟨e,a1,w1,⟨he,hq⟩,harr⟩:=h b (.inBlock id::k) cs hb hro;rcases he with rfl|rfl
 ·exact⟨.normal,a1,w1,hq,.head h0 stepR_block (kT harr (.one (fenced_wide P _) stepR_inBlock))⟩
 ·exact⟨_,a1,w1,hq,.of_steps (.one h0 stepR_block) harr⟩
noncomputable def zpL:Ctr:={ args:=[.str],pre:=fun _=>[],res:=zsq,own:=none,out:=fun x=>((za2 x.1).1,(za2 x.1).2.1,(za2 x.1).2.2,()) }
set_option maxHeartbeats 1000000 in
theorem zk7:yK Tryz.prog gmH 19 zpL:=by
 refine⟨Tryz.call19,fun w O xs vs hO hr hp hG=>?_⟩;obtain⟨(s:List UInt8),_⟩:=xs;obtain⟨v1,r1,rfl,e1,rfl⟩:=hr;have e1: [v1]=[Value.string ⟨s.toArray⟩]∧s.length≤maxLen:=e1;obtain⟨e1,hmax⟩:=e1;cases e1;refine callsIn_wide.1 (zeT (m:=1) Tryz.func19 rfl ?_);simp only[Tryz.ntmps19,qV,zt,zX,Nat.reduceAdd,Nat.reduceSub,vm,vp,vY,vz,yH,qb];change zfL _ _ _ (bodyPostM yA 1 Tryz.prog Tryz.f19 (zny w O (za2 s))) _ _;generalize hQ:bodyPostM yA 1 Tryz.prog Tryz.f19 _=Q;refine zcf (zck (m:=1) ?_)
 gi_wp2
 refine zcf (zck (m:=1) ?_)
 gi_wp2
 ·rename_i hlong;have hP:za2 s=([],0,2):=if_pos (by omega);rw[<-hQ,hP];refine⟨_,zoV (g2:=w.heap.size) (g3:=w.heap.size+1) (g4:=w.heap.size+1+1) (u:=.slice none 0 0) (x:=0) (y:=2) (t2:=tD) (t3:=3) (t4:=25) rfl rfl rfl rfl ?_ ?_ ?_,_,rfl,((((zV _ w).alloc (zl _) _).alloc (by simp) _).alloc (by simp;omega) _),zom (acc:=[]) ⟨_,rfl,.inl ⟨rfl,none,0,rfl,zk _⟩⟩⟩
  ·exact zaR _ (zaR _ (zbP _ rfl))
  ·exact zaR _ (zbP _ (by simp))
  ·exact zbP _ (by simp)
 rename_i hshort;have hlen:s.length≤1048576:=by omega
 refine zcf (zck (m:=1) ?_)
 gi_wp2
 refine zcf (zck (m:=1) ?_)
 gi_wp2
 refine zcf (zcf (zck (m:=1) ?_))
 gi_wp2
 refine⟨trivial,(callsIn_wide.2 (ziO _ _ _)).mono ?_⟩;rintro e w' ⟨rfl,rfl⟩
 gi_wp2
 refine zjA ?_;obtain⟨w4,hw4⟩:∃ w4:zj,w4=(((((w.alloc (.cells #[.slice none 0 0] tD)).alloc (.cells #[.int .i64 0] 3)).alloc (.cells #[.int .i64 0] 25)).alloc (.cells #[.slice none 0 0] tD)).alloc (.cells #[.int .i64 0] 3)):=⟨_,rfl⟩;rw[<-hw4, <-hQ];have hs4:w4.heap.size=w.heap.size+5:=by rw[hw4];simp
 have hb4:yV w.heap.size w w4:=by rw[hw4];exact ((((((zV _ w).alloc (zl _) _).alloc (by simp) _).alloc (by simp;omega) _).alloc (by simp;omega) _).alloc (by simp;omega) _)
 have b0:w4.heap[w.heap.size]? =some (.cells #[.slice none 0 0] tD (0,0)):=by rw[hw4];exact zaR _ (zaR _ (zaR _ (zaR _ (zbP _ rfl))))
 have b1:w4.heap[w.heap.size+1]? =some (.cells #[.int .i64 0] 3 (0,0)):=by rw[hw4];exact zaR _ (zaR _ (zaR _ (zbP _ (by simp))))
 have b2:w4.heap[w.heap.size+2]? =some (.cells #[.int .i64 0] 25 (0,0)):=by rw[hw4];exact zaR _ (zaR _ (zbP _ (by simp)))
 have b3:w4.heap[w.heap.size+3]? =some (.cells #[.slice none 0 0] tD (0,0)):=by rw[hw4];exact zaR _ (zbP _ (by simp))
 have b4:w4.heap[w.heap.size+4]? =some (.cells #[.int .i64 0] 3 (0,0)):=by rw[hw4];exact zbP _ (by simp)
 have hb5:yV w.heap.size w (itW w4 ⟨s.toArray⟩ ⟨#[10]⟩):=hb4.trans ((((zV _ w4).alloc (zl _) _).alloc (by simp) _).alloc (by simp;omega) _ |>.mono hb4.size);have i0:(itW w4 ⟨s.toArray⟩ ⟨#[10]⟩).heap[w.heap.size+5]? =some (.cells #[.string ⟨s.toArray⟩] 9 (0,0)):=zaR _ (zaR _ (zbP _ hs4));have i1:(itW w4 ⟨s.toArray⟩ ⟨#[10]⟩).heap[w.heap.size+6]? =some (.cells #[.string ⟨#[10]⟩] 9 (0,0)):=zaR _ (zbP _ (by simp[hs4]));have i2:(itW w4 ⟨s.toArray⟩ ⟨#[10]⟩).heap[w.heap.size+7]? =some (.cells #[.int .i64 0] 3 (0,0)):=zbP _ (by simp[hs4]);have hs5:(itW w4 ⟨s.toArray⟩ ⟨#[10]⟩).heap.size=w.heap.size+8:=by simp[itW,hs4]
 have hit:itV w4= .func (.func 145) #[] #[.pointer (some ⟨w.heap.size+6,0,none⟩),.pointer (some ⟨w.heap.size+5,0,none⟩),.pointer (some ⟨w.heap.size+7,0,none⟩)]:=by unfold itV;rw[hs4]
 have hl:∀ g (o:Obj),w4.heap[g]? =some o->(itW w4 ⟨s.toArray⟩ ⟨#[10]⟩).heap[g]? =some o:=fun g o hg=>zaR _ (zaR _ (zaR _ hg));exact zoW rfl hO hG hlen hs5 hb5 (hl _ _ b0) (hl _ _ b1) (hl _ _ b2) (hl _ _ b3) (hl _ _ b4) i0 i1 i2 rfl rfl rfl rfl rfl rfl hit rfl
end
def tx_sA:List UInt8:=[100,97,121,115,32,55,32,51,32,111,114,32,40,64,102,114,101,101,32,115,104,105,102,116,32,45,49,41]
def tx_sB:List UInt8:=[35,32,104,111,108,105,100,97,121,115,10,102,114,101,101,32,61,32,119,101,101,107,100,97,121,115,32,40,53,32,54,41,10,10,111,114,32,61,32,64,102,114,101,101,32,115,104,105,102,116,32,49]
def tx_sC:List UInt8:=[102,114,101,101,32,119,101,101,107,100,97,121,115,32,40,53,41]
def zjJ:List UInt8:=[100,97,121,115,32,55,32,51,32,111,114,32,64,102,114,101,101,32,115,104,105,102,116,32,45,49]
def zqc:List UInt8:=[102,114,101,101,32,61,32,119,101,101,107,100,97,121,115,32,40,53,32,54,41,10,111,114,32,61,32,64,102,114,101,101,32,115,104,105,102,116,32,49,10]
def zsw:List UInt8:=[100,97,121,115,32,48,32,51]
def zsv:List UInt8:=[109,111,110,116,104,115,32,48,32,40,50,32,50,41]
def zsu:List UInt8:=[100,97,121,115,32,48,55,32,51]
def zst:List UInt8:=[119,101,101,107,100,97,121,115,32,40,41]
def zss:List UInt8:=[100,97,121,115,32,55]
def zsr:List UInt8:=[]
def zfd:List UInt8:=[102,114,101,101]
def znF:List UInt8:=[111,114]
def sanR:List Nd:=[(1,0,0,0,7,3,[],[],()),(18,0,0,0,0,0,[],zfd,()),(11,0,1,0,-1,0,[],[],()),(9,0,0,2,0,0,[],[],())]
def sanL:List De:=[(zfd,[(5,0,0,0,0,0,[5,6],[],())],()),(znF,[(18,0,0,0,0,0,[],zfd,()),(11,0,0,0,1,0,[],[],())],())]
theorem sanA:zbu tx_sA=(sanR,0,0):=by kernel_rfl
theorem san1:zbu zsw=([],5,1):=by kernel_rfl
theorem san2:zbu zsv=([],12,1):=by kernel_rfl
theorem san3:zbu zsu=([],5,3):=by kernel_rfl
theorem san4:zbu zst=([],10,3):=by kernel_rfl
theorem san5:zbu zss=([],6,3):=by kernel_rfl
theorem san6:zbu zsr=([],0,3):=by kernel_rfl
theorem sanF:fmtS sanR=(zjJ,0):=by kernel_rfl
theorem sanN:fmtS []=([],1):=by kernel_rfl
theorem sanG:zbl sanL=(zqc,0):=by kernel_rfl
def zs2 (y:List UInt8):Bool:=(!decide (y.take 1=[35]))&&decide (zbF isWh y < y.length)
theorem zqV (y:List UInt8):zhm y=zs2 y:=by
 unfold zhm zs2 zkk;rw[zcy];have:(decide (zg ([35]:List UInt8)≤y.length)&&decide (y.take (zg ([35]:List UInt8))=[35]))=decide (y.take 1=[35]):=by
  cases y with
  |nil=>rfl
  |cons c q=>rw[decide_eq_true (by simp:zg ([35]:List UInt8)≤(c::q).length),jM];rfl
 rw[this]
def zqj (y:List UInt8) (fr:Nat) (acc:List De):Except (Int×Int) (List De):=
 if zs2 y=true then
  if 4000 < y.length then .error ((fr:Int),2)
  else match zgy y ((acc.length:Nat):Int) with
   | .ok d=>.ok (acc++ [d])
   | .error e=>if e.2=0 then .ok acc else .error ((fr:Int)+e.1,e.2)
 else .ok acc
theorem zqi (y:List UInt8) (fr:Nat) (acc:List De):zhX y fr acc=zqj y fr acc:=by
 unfold zhX zqj;rw[zqV]
 all_goals rfl
def libC:List (List UInt8)->Nat->List De->List De×Int×Int
 | [],_,acc=>(acc,0,0)
 |y::r,fr,acc=>match zqj y fr acc with
  | .error e=>([],e.1,e.2)
  | .ok acc'=>libC r (fr+y.length+1) acc'
theorem zoY:∀ (l:List (List UInt8)) (fr:Nat) (acc:List De),libK l fr acc=libC l fr acc
 | [],_,_=>rfl
 |y::r,fr,acc=>by
  unfold libK libC;rw[zqi];cases zqj y fr acc with
  |error e=>rfl
  |ok a=>exact zoY r _ a
def zj5 (s:List UInt8):List De×Int×Int:=if 1048576 < s.length then ([],0,2) else libC (segs s) 0 []
theorem zgn (s:List UInt8):za2 s=zj5 s:=by
 unfold za2 zj5;rw[zoY]
theorem sanB:za2 tx_sB=(sanL,0,0):=(zgn _).trans (by kernel_rfl)
theorem sanC:za2 tx_sC=([],5,3):=(zgn _).trans (by kernel_rfl)
def zcu (s:List UInt8) (at' e:Int):Bool:=(((((zbu s).1.length:Nat):Int)==0)&&((zbu s).2.1==at'))&&((zbu s).2.2==e)
def zr9:Ctr:={ args:=[.str,i64,i64],pre:=fun _=>[],res:=.bool,own:=none,out:=fun x=>zcu x.1 x.2.1 x.2.2.1 }
def kPa:Kn:={ gmK with C:=[(16,zmy)] }
theorem zl8:KnOk Tryz.prog gmH kPa:=zaj.with (.cons zi3 .nil)
theorem zqb:yK Tryz.prog gmH 42 zr9:=by
 refine zaq (K:=kPa) zl8 Tryz.func42 rfl rfl Tryz.call42 rfl (by decide) (by intro h;cases h) ?_;rintro w0 X hX ⟨(s:List UInt8),(at':Int),(e:Int),_⟩ hp;change AWP _ _ _ _ _ ⟨[(0,⟨.str,s⟩),(1,⟨i64,at'⟩),(2,⟨i64,e⟩)],[],0⟩ _;refine za (za ?_);refine zaa hX zl8 rfl ?_ ?_
 ·trivial
 refine za (za ?_);refine zaa hX zl8 rfl ?_ ?_
 ·trivial
 refine za (za ?_);refine zaa hX zl8 rfl ?_ ?_
 ·repeat'(first|exact trivial|assumption|(refine⟨?_,?_⟩)|(intro _)|exact zb rfl|exact zi _|(simp_all [allP];done))
 refine zr ⟨.inr rfl,zaw rfl trivial rfl rfl ?_⟩;show (bif (bif ((((zbu s).1.length:Nat):Int)==0) then (zbu s).2.1==at' else false) then (zbu s).2.2==e else false)=zcu s at' e;rw[zc6,zc6];rfl
def zpK:Ctr:={ args:=[],pre:=fun _=>[],res:=.bool,own:=none,out:=fun _=>true }
noncomputable def kSan:Kn:={ gmK with C:=[(16,zmy),(24,cFmt),(19,zpL),(26,cFmtL),(18,ztR),(42,zr9)] }
theorem zc2:KnOk Tryz.prog gmH kSan:=zaj.with (.cons zi3 <| .cons zhD <| .cons zk7 <| .cons zpq <| .cons zn9 <| .cons zqb .nil)
theorem vStr {x y:List UInt8} (h:x=y):(⟨.str,x⟩:V)=⟨.str,y⟩:=by rw[h]
theorem vRul {x y:List Nd} (h:x=y):(⟨.slice nd,x⟩:V)=⟨.slice nd,y⟩:=by rw[h]
theorem vDes {x y:List De} (h:x=y):(⟨.slice de,x⟩:V)=⟨.slice de,y⟩:=by rw[h]
set_option maxHeartbeats 2000000 in
theorem zn8:yK Tryz.prog gmH 15 zpK:=by
 refine zaq (K:=kSan) zc2 Tryz.func15 rfl rfl Tryz.call15 rfl (by decide) (by intro h;cases h) ?_;rintro w0 X hX _ hp;change AWP _ _ _ _ _ ⟨[],[],0⟩ _;refine za (za ?_);refine zaa hX zc2 rfl ?_ ?_
 ·trivial
 refine za (za ?_);refine zaa hX zc2 rfl ?_ ?_
 ·trivial
 refine zap (σ':=⟨[(1,⟨.slice nd,sanR⟩),(3,⟨i64,(0:Int)⟩)],[],0⟩) ⟨⟨vRul (congrArg (fun x=>x.1) sanA),vI64 (congrArg (fun x=>x.2.2) sanA),trivial⟩,trivial,rfl,rfl⟩ ?_;refine za (za ?_);refine zaa hX zc2 rfl ?_ ?_
 ·trivial
 refine qZ hX 4 ?_;refine zap (σ':=⟨[(1,⟨.slice nd,sanR⟩),(3,⟨i64,(0:Int)⟩),(4,⟨.slice nd,sanR⟩)],[],1⟩) ⟨⟨rfl,rfl,rfl,trivial⟩,trivial,rfl,rfl⟩ ?_;refine za (za ?_);refine zaa hX zc2 rfl ?_ ?_
 ·trivial
 refine zap (σ':=⟨[(1,⟨.slice nd,sanR⟩),(3,⟨i64,(0:Int)⟩),(4,⟨.slice nd,sanR⟩),(5,⟨.str,zjJ⟩),(6,⟨i64,(0:Int)⟩)],[],1⟩) ⟨⟨rfl,rfl,rfl,vStr (congrArg (fun x=>x.1) sanF),vI64 (congrArg (fun x=>x.2) sanF),trivial⟩,trivial,rfl,rfl⟩ ?_;refine za (za ?_);refine zaa hX zc2 rfl ?_ ?_
 ·trivial
 refine zap (σ':=⟨[(1,⟨.slice nd,sanR⟩),(3,⟨i64,(0:Int)⟩),(4,⟨.slice nd,sanR⟩),(5,⟨.str,zjJ⟩),(6,⟨i64,(0:Int)⟩),(7,⟨.slice de,sanL⟩),(9,⟨i64,(0:Int)⟩)],[],1⟩) ⟨⟨rfl,rfl,rfl,rfl,rfl,vDes (congrArg (fun x=>x.1) sanB),vI64 (congrArg (fun x=>x.2.2) sanB),trivial⟩,trivial,rfl,rfl⟩ ?_;refine za (za ?_);refine zaa hX zc2 rfl ?_ ?_
 ·trivial
 refine zap (σ':=⟨[(1,⟨.slice nd,sanR⟩),(3,⟨i64,(0:Int)⟩),(4,⟨.slice nd,sanR⟩),(5,⟨.str,zjJ⟩),(6,⟨i64,(0:Int)⟩),(7,⟨.slice de,sanL⟩),(9,⟨i64,(0:Int)⟩),(11,⟨i64,(5:Int)⟩),(12,⟨i64,(3:Int)⟩)],[],1⟩) ⟨⟨rfl,rfl,rfl,rfl,rfl,rfl,rfl,vI64 (congrArg (fun x=>x.2.1) sanC),vI64 (congrArg (fun x=>x.2.2) sanC),trivial⟩,trivial,rfl,rfl⟩ ?_;refine za (za ?_);refine zaa hX zc2 rfl ?_ ?_
 ·trivial
 refine zap (σ':=⟨[(1,⟨.slice nd,sanR⟩),(3,⟨i64,(0:Int)⟩),(4,⟨.slice nd,sanR⟩),(5,⟨.str,zjJ⟩),(6,⟨i64,(0:Int)⟩),(7,⟨.slice de,sanL⟩),(9,⟨i64,(0:Int)⟩),(11,⟨i64,(5:Int)⟩),(12,⟨i64,(3:Int)⟩),(14,⟨i64,(1:Int)⟩)],[],1⟩) ⟨⟨rfl,rfl,rfl,rfl,rfl,rfl,rfl,rfl,rfl,vI64 (congrArg (fun x=>x.2) sanN),trivial⟩,trivial,rfl,rfl⟩ ?_;refine za (za ?_);refine zaa hX zc2 rfl ?_ ?_
 ·repeat'(first|exact trivial|assumption|(refine⟨?_,?_⟩)|(intro _)|exact zb rfl|exact zi _|(simp_all [allP];done))
 refine zaf rfl (fun hb=>?_) (fun _=>?_)
 ·have hb:false=true:=hb;cases hb
 apply zab;refine za (za ?_);refine zaa hX zc2 rfl ?_ ?_
 ·trivial
 refine zap (σ':=⟨[(1,⟨.slice nd,sanR⟩),(4,⟨.slice nd,sanR⟩),(5,⟨.str,zjJ⟩),(7,⟨.slice de,sanL⟩),(15,⟨.str,zqc⟩),(16,⟨i64,(0:Int)⟩)],[],1⟩) ⟨⟨rfl,rfl,rfl,rfl,vStr (congrArg (fun x=>x.1) sanG),vI64 (congrArg (fun x=>x.2) sanG),trivial⟩,trivial,rfl,rfl⟩ ?_;have hs:zmQ sanR sanR=true:=zfk.2 rfl;have b0:(0:Int) < ((sanL.length:Nat):Int):=by decide
 have b1:(1:Int) < ((sanL.length:Nat):Int):=by decide
 refine za (za ?_);refine zaa hX zc2 rfl ?_ ?_
 ·repeat'(first|exact trivial|assumption|exact b0|exact b1|(refine⟨?_,?_⟩)|(intro _)|decide)
 refine zap (σ':=⟨[(17,⟨.bool,true⟩)],[],1⟩) ⟨⟨zbo ?_,trivial⟩,trivial,rfl,rfl⟩ ?_
 ·show (bif (bif (bif (bif (bif zmQ sanR sanR then eqb .str zjJ zjJ else false) then eqb .str zfd zfd else false) then eqb .str znF znF else false) then ((0:Int)==0) else false) then eqb .str zqc zqc else false)=true;rw[hs,zeH,zeH,zeH,zeH];rfl
 have w1:zcu zsw 5 1=true:=by unfold zcu;rw[san1];rfl
 have w2:zcu zsv 12 1=true:=by unfold zcu;rw[san2];rfl
 have w3:zcu zsu 5 3=true:=by unfold zcu;rw[san3];rfl
 have w4:zcu zst 10 3=true:=by unfold zcu;rw[san4];rfl
 have w5:zcu zss 6 3=true:=by unfold zcu;rw[san5];rfl
 have w6:zcu zsr 0 3=true:=by unfold zcu;rw[san6];rfl
 refine za (za ?_);refine zaa hX zc2 rfl ?_ ?_
 ·repeat'(first|exact trivial|assumption|(refine⟨?_,?_⟩)|(intro _))
 refine zr ⟨.inr rfl,zaw rfl trivial rfl rfl ?_⟩;show (bif (bif (bif (bif (bif (bif true then zcu zsw 5 1 else false) then zcu zsv 12 1 else false) then zcu zsu 5 3 else false) then zcu zst 10 3 else false) then zcu zss 6 3 else false) then zcu zsr 0 3 else false)=true;rw[w1,w2,w3,w4,w5,w6];rfl
def Tr.lvs:Tr->Nat
 | .leaf _=>1
 | .un _ a=>a.lvs
 | .bin _ a b=>a.lvs+b.lvs
theorem zgN:∀ t:Tr,2 * t.lvs≤t.size+1
 | .leaf _=>zl _
 | .un _ a=>by have:=zgN a;show 2 * a.lvs≤a.size+1+1;omega
 | .bin _ a b=>by have:=zgN a;have:=zgN b;show 2 * (a.lvs+b.lvs)≤a.size+b.size+1+1;omega
theorem zgE (nm:List UInt8) (u:Tr):∀ t:Tr,(xB nm u t).size≤t.size+t.lvs * u.size
 | .leaf n=>by
  rw[xB];split
  ·show u.size≤1+1 * u.size;omega
  ·show 1≤1+1 * u.size;omega
 | .un n a=>by
  have:=zgE nm u a;show (xB nm u a).size+1≤a.size+1+a.lvs * u.size;omega
 | .bin n a b=>by
  have h1:=zgE nm u a;have h2:=zgE nm u b;show (xB nm u a).size+(xB nm u b).size+1≤a.size+b.size+1+(a.lvs+b.lvs) * u.size;rw[Nat.add_mul];omega
theorem zb7 (c:Bool) (x:List UInt8):(parS c x).length=x.length+(if c then 0 else 2):=by
 unfold parS;split
 ·rfl
 ·show ([40]++(x++ [41])).length=_;simp only[zd,zF];omega
theorem znO {n:Nd} (h:ndK n=17) (x y:List UInt8):(zbA x n).length+y.length=(zbA y n).length+x.length:=by
 unfold zbA;rw[h];show (putS (spW zbD) [ndN n]++(putS (spW wOf++ [32]) []++x)).length+y.length=(putS (spW zbD) [ndN n]++(putS (spW wOf++ [32]) []++y)).length+x.length;simp only[zd];omega
theorem zfg (nm v:List UInt8):∀ t:Tr,(xM nm v t).length≤t.text.length+t.lvs * (v.length+2)
 | .leaf n=>by
  rw[xM];split
  ·rw[zb7];show v.length+2≤_+1 * (v.length+2);omega
  ·show (zcc n).length≤(zcc n).length+_;omega
 | .un n a=>by
  have h:=zfg nm v a;show (parS (decide (a.lev≥4)) (xM nm v a)++zbA [] n).length≤(parS (decide (a.lev≥4)) a.text++zbA [] n).length+a.lvs * (v.length+2);rw[zd,zd,zb7,zb7];omega
 | .bin n a b=>by
  have h1:=zfg nm v a;have h2:=zfg nm v b;show _≤_+(a.lvs+b.lvs) * (v.length+2);rw[Nat.add_mul];unfold xM Tr.text;split
  ·rename_i h17;have h3:=znO h17 (parS (decide (b.lev≥5)) (xM nm v b)) (parS (decide (b.lev≥5)) b.text);rw[zb7 (decide (b.lev≥5)) b.text,zb7 (decide (b.lev≥5)) (xM nm v b)]at h3;rw[zd,zd,zb7,zb7];omega
  ·rw[zd,zd,zd,zd,zb7,zb7,zb7,zb7];omega
theorem zjQ {l:List Int} {n:Int} (h0:0≤n) (h1:n≤1000000):TrOk (zh3 2 30 l n)∧(zh3 2 30 l n).size≤7∧(zh3 2 30 l n).text.length≤700:=by
 obtain⟨a,b⟩:=zsZ (d:=2) (k:=30) (l:=l) h0 h1;have hs:(zh3 2 30 l n).size≤7:=zoL 2 30 l n;have:=zey _ b;exact⟨a,hs,by omega⟩
def n1S:List UInt8:=[110,49]
theorem znP {t u:Tr} (ht:TrOk t∧t.size≤7∧t.text.length≤700) (hu:TrOk u∧u.size≤7∧u.text.length≤700):
  fmtS (t.flat 0)=(t.text,0)∧fmtS (u.flat 0)=(u.text,0)∧zfW (t.flat 0) n1S (u.flat 0)=((xB n1S u t).flat 0,0)∧zbu (zcM n1S u.text 0 t.text)=((xB n1S u t).flat 0,0,0):=by
 obtain⟨t1,t2,t3⟩:=ht;obtain⟨u1,u2,u3⟩:=hu;have hl:=zgN t;have hl4:t.lvs≤4:=by omega
 have hsz:=zgE n1S u t;have hm:t.lvs * u.size≤4 * 7:=Nat.mul_le_mul hl4 u2;have htl:=zfg n1S u.text t;have hm2:t.lvs * (u.text.length+2)≤4 * 702:=Nat.mul_le_mul hl4 (by omega);refine⟨?_,?_,zqD t1 u1 (by omega) (by omega) (by omega),?_⟩
 ·rw[zmm t1 (by omega)];exact if_neg (by omega)
 ·rw[zmm u1 (by omega)];exact if_neg (by omega)
 ·rw[zoo (by decide) t1];unfold zbu;rw[if_neg (by omega),zk6 t1 u1 (by omega)]
noncomputable def kLaJ:Kn:={ gmK with C:=[(16,zmy),(24,cFmt),(15,zpK),(36,ztS 2 30),(18,ztR),(37,cRPut),(38,cRepl)] }
theorem zd1:KnOk Tryz.prog gmH kLaJ:=zaj.with (.cons zi3 <| .cons zhD <| .cons zn8 <| .cons zqk <| .cons zn9 <| .cons zsO <| .cons zsM .nil)
set_option maxHeartbeats 1000000 in
theorem law10_ok:yK Tryz.prog gmH 12 (lawCtr [ints,ints]):=by
 refine zaq (K:=kLaJ) zd1 Tryz.func12 rfl rfl Tryz.call12 rfl (by decide) (by intro h;cases h) ?_;rintro w0 X hX ⟨(a:List Int),(b:List Int),_⟩ hp;change AWP _ _ _ _ _ ⟨[(0,⟨ints,a⟩),(1,⟨ints,b⟩)],[],0⟩ _;have m0:(0:Int)≤2:=by decide
 have m1:(2:Int)≤1000000:=by decide
 have ht:=zjQ (l:=a) m0 m1;have hu:=zjQ (l:=b) m0 m1;refine za (za ?_);refine zaa hX zd1 rfl ?_ ?_
 ·trivial
 refine za (za ?_);refine zaa hX zd1 rfl ?_ ?_
 ·trivial
 refine za (za ?_);refine zaa hX zd1 rfl ?_ ?_
 ·repeat'(first|exact trivial|assumption|exact m0|exact m1|(refine⟨?_,?_⟩)|(intro _)|exact zb rfl|exact zi _|(simp_all [allP];done))
 obtain⟨t,ht'⟩:∃ t,t=zh3 2 30 a 2:=⟨_,rfl⟩;obtain⟨u,hu'⟩:∃ u,u=zh3 2 30 b 2:=⟨_,rfl⟩;rw[<-ht']at ht;rw[<-hu']at hu;obtain⟨f1,f2,f3,f4⟩:=znP ht hu;refine zap (σ':=⟨[(5,⟨.bool,true⟩),(6,⟨.slice nd,t.flat 0⟩),(7,⟨.slice nd,u.flat 0⟩)],[],0⟩) ⟨⟨rfl,vRul (by rw[ht'];rfl),vRul (by rw[hu'];rfl),trivial⟩,trivial,rfl,rfl⟩ ?_;clear ht' hu';refine za (za ?_);refine zaa hX zd1 rfl ?_ ?_
 ·trivial
 refine za (za ?_);refine zaa hX zd1 rfl ?_ ?_
 ·trivial
 refine zap (σ':=⟨[(5,⟨.bool,true⟩),(6,⟨.slice nd,t.flat 0⟩),(7,⟨.slice nd,u.flat 0⟩),(8,⟨.str,t.text⟩),(9,⟨i64,(0:Int)⟩),(10,⟨.str,u.text⟩),(11,⟨i64,(0:Int)⟩)],[],0⟩) ⟨⟨rfl,rfl,rfl,vStr (congrArg (fun x=>x.1) f1),vI64 (congrArg (fun x=>x.2) f1),vStr (congrArg (fun x=>x.1) f2),vI64 (congrArg (fun x=>x.2) f2),trivial⟩,trivial,rfl,rfl⟩ ?_;refine za (za ?_);refine zaa hX zd1 rfl ?_ ?_
 ·trivial
 refine zap (σ':=⟨[(5,⟨.bool,true⟩),(8,⟨.str,t.text⟩),(9,⟨i64,(0:Int)⟩),(10,⟨.str,u.text⟩),(11,⟨i64,(0:Int)⟩),(12,⟨.slice nd,(xB n1S u t).flat 0⟩),(13,⟨i64,(0:Int)⟩)],[],0⟩) ⟨⟨rfl,rfl,rfl,rfl,rfl,vRul (congrArg (fun x=>x.1) f3),vI64 (congrArg (fun x=>x.2) f3),trivial⟩,trivial,rfl,rfl⟩ ?_;have p1:t.text.length≤4000:=by omega
 have p2:u.text.length≤4000:=by omega
 have p3:zg n1S≤100:=by decide
 refine za (za ?_);refine zaa hX zd1 rfl ?_ ?_
 ·exact⟨p1,p3,p2⟩
 refine zap (σ':=⟨[(5,⟨.bool,true⟩),(9,⟨i64,(0:Int)⟩),(11,⟨i64,(0:Int)⟩),(12,⟨.slice nd,(xB n1S u t).flat 0⟩),(13,⟨i64,(0:Int)⟩),(14,⟨.slice nd,(xB n1S u t).flat 0⟩),(16,⟨i64,(0:Int)⟩)],[],0⟩) ⟨⟨rfl,rfl,rfl,rfl,rfl,vRul (congrArg (fun x=>x.1) f4),vI64 (congrArg (fun x=>x.2.2) f4),trivial⟩,trivial,rfl,rfl⟩ ?_;generalize (xB n1S u t).flat 0=r;refine za (za ?_);refine zaa hX zd1 rfl ?_ ?_
 ·repeat'(first|exact trivial|assumption|(refine⟨?_,?_⟩)|(intro _)|exact zb rfl|exact zi _|(simp_all [allP];done))
 refine zr ⟨.inr rfl,zaw rfl trivial rfl rfl ?_⟩;show (bif (bif (bif (bif (bif ((0:Int)==0) then ((0:Int)==0) else false) then ((0:Int)==0) else false) then ((0:Int)==0) else false) then zmQ r r else false) then true else false)=true;rw[zfk.2 rfl];rfl
end Go.Proofs.YtpeaigpfddalcaaGreatDoor
