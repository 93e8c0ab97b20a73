/-
  Texts of this claim, joined: what the statement's proof uses.
-/
import Derived.Test.YtpeaigpfddalcaaGreatDoorVD
set_option linter.unusedSimpArgs false
set_option linter.unusedVariables false
set_option maxRecDepth 100000
open Array renaming getD_eq_getD_getElem? -> zP,getElem?_eq_some_iff -> zm,getElem?_setIfInBounds -> xH,replicate_succ -> j7,replicate_zero -> j8
open Bool renaming and_eq_true -> zb,eq_false_iff -> qf,eq_iff_iff -> yz,not_eq_false' -> y8,not_eq_true -> um,not_eq_true' -> zy,or_eq_true -> ya
open ByteArray renaming data_extract -> jP,ext -> uJ,mk -> vp
open Go renaming Deferred -> qS,TypeId -> zo,Value -> zg,World -> zi,wpIn_mono -> yD
open Go.Ending renaming returned -> uB
open Go.Extern.BytealgIndexByte renaming indexByte -> kR
open Go.Fence renaming wide -> yn
open Go.Lib renaming indexByte -> xd
open Go.Oper renaming semAt_some -> jI
open Go.Operand renaming const -> vY
open Go.Proofs.YtpeaigpfddalcaaGreatDoor renaming CtrOk -> yM
open Go.Proofs.YtpeaigpfddalcaaGreatDoor.AL renaming all -> zW
open Go.Proofs.YtpeaigpfddalcaaGreatDoor.AWP renaming frz -> jw,go -> za,len -> jU,loop -> yB,ordersA -> jr,ret -> zq,via -> xz
open Go.Proofs.YtpeaigpfddalcaaGreatDoor.AllN renaming cons -> jh,nil -> jH
open Go.Proofs.YtpeaigpfddalcaaGreatDoor.OrdA renaming last -> jx
open Go.Proofs.YtpeaigpfddalcaaGreatDoor.Ownr renaming plain -> qg
open Go.Proofs.YtpeaigpfddalcaaGreatDoor.Sim renaming nilLeaf -> kA
open Go.Proofs.YtpeaigpfddalcaaGreatDoor.StepA renaming eval -> yZ
open Go.Proofs.YtpeaigpfddalcaaGreatDoor.Tok renaming text -> zE
open Go.RowKit renaming Below -> yJ
open Go.RowKit.Below renaming heap_setCell -> xo,refl -> zO
open Go.StepsIn renaming trans -> kI
open Go.Value renaming int -> yl
open Go.World renaming alloc_heap_new -> xm,putObj_heap_other -> yY,putObj_heap_same -> qo
open Int renaming natCast_nonneg -> zu,toNat_natCast -> zL
open List renaming any_eq_true -> jz,append_assoc -> zr,append_toArray -> ve,cons_append -> y9,contains_iff_mem -> qB,drop_eq_getElem_cons -> y5,drop_length -> j2,getElem?_eq_getElem -> zR,getElem?_eq_some_iff -> zC,getElem_mem -> xv,length -> zd,length_append -> zh,length_cons -> zs,length_drop -> yX,length_nil -> z7,length_singleton -> yH,length_take -> ym,mem_cons -> zX,mem_range -> yk,mem_singleton -> zv,nil_append -> yN,push_toArray -> vQ,size_toArray -> qc,takeWhile_cons -> xQ,take_length -> xc,take_succ_eq_append_getElem -> zH
open Nat renaming le_of_ble_eq_true -> zf,le_refl -> zk,le_trans -> zQ,lt_of_lt_of_le -> zI,zero_le -> zl
open UInt8 renaming toNat -> yR
open Go Go.RowKit
namespace Go.Proofs.YtpeaigpfddalcaaGreatDoor
section
set_option maxRecDepth 10000
set_option maxRecDepth 10000
theorem zh8 {w0:zi} {O:Nat->Prop} (hX:(qg gmH O).Ok w0) {ty:zo}:ginv w0 (qg gmH O).R ty:=⟨Ownr.plain_noR _ _ _,Ownr.plain_noR _ _ _⟩
theorem know3 (k:Int) (h:0≤k∧k≤2):zhK (zf7 k):=by
 have key:∀ k:Fin 3,zhK (zf7 ((k.val:Nat):Int)):=by
  intro k;unfold zhK;revert k;decide+kernel
 have:=key ⟨k.toNat,by omega⟩;rwa[show (((⟨k.toNat,by omega⟩:Fin 3).val:Nat):Int)=k by show ((k.toNat:Nat):Int)=k;omega]at this
def zqL (k:Nat):List Cal:=(List.range 3).map fun j=>if j < k then zf7 ((j:Nat):Int) else zCal
theorem bufC {te:zo} {x y:List Cal} (h:x=y):some (OObj.buf te cal x)=some (OObj.buf te cal y):=by rw[h]
theorem zsP:∀ c∈zqL 3,zhK c:=fun c hc=>by
 obtain⟨j,hj,rfl⟩:=List.mem_map.1 hc;have hj:=yk.1 hj;rw[if_pos hj];exact know3 _ ⟨by omega,by omega⟩
def cFmt:Ctr:={ args:=[.slice nd],pre:=fun _=>[],res:=.tup .str (.tup i64 .unit),own:=none,out:=fun x=>((fmtS x.1).1,(fmtS x.1).2,()) }
def kFm:Kn:={ gmK with C:=[(59,zid),(34,zqO)] }
theorem zbG:KnOk Tryz.prog gmH kFm:=zak.with (.cons zqk <| .cons zng .nil)
def hFm:List (FuncId×HCtr):=[(60,zkl 65),(61,zm9 prT [107])]
theorem zq7:HsOk Tryz.prog gmH hFm:=.cons (zq1 65).1 <| .cons zr5 .nil
set_option maxHeartbeats 1000000 in
theorem zj6:yM Tryz.prog gmH 24 cFmt:=by
 refine zar (K:=kFm) zbG Tryz.func24 rfl rfl Tryz.call24 rfl (by decide) (by intro h;cases h) ?_;rintro w0 X hX ⟨(r:List Nd),_⟩ hp;change AWP _ _ _ _ _ ⟨[(0,⟨.slice nd,r⟩)],[],0⟩ _;refine jU 0 rfl fun hl=>?_;unfold maxLen at hl;have hI:∀ w R,(∀ g,R g->w0.heap.size≤g∨(qg gmH X).R g)->(qg gmH X).G w->bInv prT [107] w R 107:=fun w R hR hw=>⟨zaE (ty:=107) hX rfl (zh8 hX) (ty':=107) w R hR hw,zv.2 rfl⟩;refine za (za ?_);refine zaa hX zbG rfl ?_ ?_
 ·trivial
 refine za (za ?_);refine zaa hX zbG rfl ?_ ?_
 ·exact⟨by decide,by decide,(by decide:(3:Int)≤1000000000)⟩
 refine za (za ?_);refine zaa hX zbG rfl ?_ ?_
 ·trivial
 (repeat(first|apply zae|apply zac|apply zab|apply zad));refine yB (ι:=Nat) (fun k=>⟨[(0,⟨.slice nd,r⟩),(4,⟨.obuf cal,(0:Nat)⟩),(10,⟨i64,(3:Int)⟩),(11,⟨i64,(k:Int)⟩)],[(0,some (.buf 63 cal (zqL k)))],1⟩) (fun k=>k≤3) (fun k=>3 - k) 0 (zl _) ⟨⟨rfl,rfl,rfl,rfl,trivial⟩,⟨rfl,trivial⟩,rfl,rfl⟩ ?_;intro k hk;refine za (za ?_);refine zaa hX zbG rfl ?_ ?_
 ·trivial
 apply zae;refine zai rfl (fun hb=>?_) (fun hb=>?_)
 ·have hb:decide ((k:Int) < 3)=true:=hb;have hb:=of_decide_eq_true hb;have z0:(0:Int)≤(k:Int):=by omega
  have z1:(k:Int)≤2:=by omega
  have z2:(k:Int) < (((zqL k).length:Nat):Int):=by show (k:Int) < ((3:Nat):Int);omega
  have z3:((k:Int)).toNat < (zqL k).length:=by show _ < 3;omega
  refine za (za ?_);refine zaa hX zbG rfl ?_ ?_
  ·trivial
  refine za (za ?_);refine zaa hX zbG rfl ?_ ?_
  ·repeat'(first|exact trivial|exact z0|exact z1|exact z2|exact z3|(refine⟨?_,?_⟩))
  refine za (za ?_);refine zaa hX zbG rfl ?_ ?_
  ·exact zaH (by omega)
  refine⟨k+1,by omega,by omega,⟨rfl,rfl,rfl,zcz _,trivial⟩,⟨bufC ?_,trivial⟩,rfl,rfl⟩;rcases (show k=0∨k=1∨k=2 by omega) with rfl|rfl|rfl<;>rfl
 have hb:decide ((k:Int) < 3)=false:=hb;have hb:=of_decide_eq_false hb;obtain rfl:k=3:=by omega
 apply zad;refine jw hX 4 ?_;refine za (za ?_);refine zaa hX zbG rfl ?_ ?_
 ·exact⟨rfl,zsP⟩
 refine za (za ?_);refine zaa hX zbG rfl ?_ ?_
 ·trivial
 refine zai rfl (fun hb=>?_) (fun hb=>?_)
 ·have hb:(zco r != 0)=true:=hb;have hb:=bne_iff_ne.1 hb;(repeat(first|apply zae|apply zac|apply zal|apply zad|apply zab|refine zaa hX zbG rfl trivial ?_|refine zaa hX zbG rfl id ?_|refine zaa hX zbG rfl ⟨id,id⟩ ?_));refine zq ⟨.inr rfl,zba (by decide) rfl rfl trivial ?_⟩;show (([]:List UInt8),zco r,())=((fmtS r).1,(fmtS r).2,());unfold fmtS;rw[if_neg hb]
 have hb:(zco r != 0)=false:=hb;have hv:zco r=0:=by
  have:=bne_eq_false_iff_eq.1 hb;exact this
 have hwf:=zkv hv;have hok:=zrz hwf;have hsz:=zno hwf;have htx:=znn hwf;have htl:=zgj _ hok;obtain⟨⟨w1,w2⟩,_⟩:=zdl hwf;have hne:=zrB hok (by omega);apply zac;refine zap (σ':=⟨[(0,⟨.slice nd,r⟩)],[],1⟩) ⟨⟨rfl,trivial⟩,trivial,rfl,rfl⟩ ?_;apply zae;refine zaj ?_;refine AL.take 1 hX zbG rfl trivial ?_;refine AL.bldPr rfl rfl rfl rfl rfl ?_;refine AL.box3 hX rfl rfl rfl rfl rfl rfl rfl ?_;refine AL.nilLeaf 1 1 5 u8 rfl rfl rfl ?_;refine zW hX zbG rfl trivial ?_;have p0:(0:Int)≤((r.length:Nat):Int) - 1:=by omega
 have p1:(((r.length:Nat):Int) - 1).toNat < 65:=by omega
 have p2:(((r.length:Nat):Int) - 1).toNat < r.length:=by omega
 have hnf:zcR 65 r (((r.length:Nat):Int) - 1)=(zdn r).text:=by
  rw[<-htx];have hlow:=zlJ (zdl hwf).2.1;rw[show (((r.length:Nat):Int) - 1)=((r.length - 1:Nat):Int) by omega,zgr hlow _ _ (by omega) (by omega),zgr hlow _ _ (by omega) (by omega),zij hlow 65 (r.length+1) _ (by omega) (by omega) (by omega)]
 have p3:zd ([]:List UInt8)+zd (zcR 65 r (((r.length:Nat):Int) - 1))+10000≤1000000000:=by
  rw[hnf,z7];omega
 have p4:inR .i64 (((r.length:Nat):Int) - 1):=zav (by omega) (by omega);refine zap (σ':=⟨[(0,⟨.slice nd,r⟩),(7,⟨.hptr,((1:Nat),(0:Nat))⟩)],[(1,some (.hbox 107 [adV 1 false,⟨.obuf u8,(2:Nat)⟩,⟨.slice nd,r⟩])),(2,some (.buf 5 u8 []))],3⟩) ⟨⟨rfl,rfl,trivial⟩,⟨rfl,rfl,trivial⟩,rfl,rfl⟩ ?_;refine xz (σ':=⟨[(7,⟨.hptr,((1:Nat),(0:Nat))⟩)],[(1,some (.hbox 107 [adV 1 true,⟨.obuf u8,(2:Nat)⟩,⟨.slice nd,r⟩])),(2,some (.buf 5 u8 (zdn r).text))],3⟩) ?_ ?_
 ·refine zaj ?_;refine AL.own 4 hX zbG zq7 rfl p4 rfl rfl ⟨wfp_of hwf,p0,p1,p2,p3⟩ hI ?_;refine AL.nil ?_;exact⟨⟨rfl,trivial⟩,⟨rfl,(by show some (OObj.buf _ u8 ([]++zcR 65 r _))=_;rw[yN,hnf]),trivial⟩,rfl,rfl⟩
 have hf:fmtS r=if 4000 < (zdn r).text.length then ([],2) else ((zdn r).text,0):=by unfold fmtS;rw[if_pos hv]
 generalize (zdn r).text=T at hf hne;(repeat(first|apply zae|apply zac|apply zab|apply zad));refine zaj ?_;refine AL.take 2 hX zbG rfl trivial ?_;refine AL.step (eqP0 _ _ rfl) hX zbG rfl trivial ?_;refine AL.own 0 hX zbG zq7 rfl trivial rfl rfl trivial hI ?_;refine zW hX zbG rfl trivial ?_;refine zap (σ':=⟨[(7,⟨.hptr,((1:Nat),(0:Nat))⟩),(41,⟨.bool,decide (((T.length:Nat):Int) > 4000)⟩)],[(1,some (.hbox 107 [adV 1 true,⟨.obuf u8,(2:Nat)⟩,⟨.slice nd,r⟩])),(2,some (.buf 5 u8 T))],3⟩) ⟨⟨rfl,rfl,trivial⟩,⟨rfl,rfl,trivial⟩,rfl,rfl⟩ ?_;refine zai rfl (fun hb=>?_) (fun hb=>?_)
 ·have hb:=of_decide_eq_true hb;(repeat(first|apply zae|apply zac|apply zal|apply zad|apply zab|refine zaa hX zbG rfl trivial ?_|refine zaa hX zbG rfl id ?_|refine zaa hX zbG rfl ⟨id,id⟩ ?_));refine zq ⟨.inr rfl,zba (by decide) rfl rfl trivial ?_⟩;show (([]:List UInt8),(2:Int),())=((fmtS r).1,(fmtS r).2,());rw[hf,if_pos (by omega)]
 ·have hb:=of_decide_eq_false hb;apply zac;(repeat(first|apply zae|apply zac|apply zab|apply zad));refine zaj ?_;refine AL.take 2 hX zbG rfl trivial ?_;refine AL.step (eqP0 _ _ rfl) hX zbG rfl trivial ?_;refine AL.give hX (zjm prT rfl [107]) rfl rfl rfl rfl rfl rfl rfl rfl rfl rfl rfl rfl trivial hne hI rfl rfl ?_;show AL _ _ _ _ _ _ _ _;refine zW hX zbG rfl trivial ?_;refine zq ⟨.inr rfl,zba (by decide) rfl rfl trivial ?_⟩;show (T,(0:Int),())=((fmtS r).1,(fmtS r).2,());rw[hf,if_neg (by omega)]
end
section
attribute [local go_sem] jI
set_option maxHeartbeats 1000000 in
theorem zhE (s:ByteArray) (c:Int) (w:zi):
  Calls Tryz.prog 217 #[.string s,.int .u8 c] w fun e w'=>e= .returned (.int .i64 (xd s.data.toList c.toNat.toUInt8))∧w'=w:=by
 go_enter Tryz.func217,Tryz.ntmps217
 go_wp2
 rw[run_callFunc_extern Tryz.func244 (by kernel_rfl) (by kernel_rfl) (by kernel_rfl) (e:=kR) (by kernel_rfl),Lib.run_indexByteString];simp only[Result.andThen];rw[Oper.upon_value]
 go_wp2
 go_ret
 exact⟨rfl,rfl⟩
theorem zr9 (l:List UInt8) (c:UInt8):(xd l c= -1∧∀ x∈l,x≠c)∨∃ n:Nat,xd l c=(n:Int)∧n < l.length∧(∀ x∈l.take n,x≠c)∧l.drop n=c::l.drop (n+1):=by
 induction l with
 |nil=>exact .inl ⟨rfl,by simp⟩
 |cons b l ih=>
  unfold xd;by_cases h:b=c
  ·refine .inr ⟨0,by rw[if_pos (by simp[h])];rfl,by simp,by simp,by simp[h]⟩
  ·rw[if_neg (by simp[h])];rcases ih with ⟨h1,h2⟩|⟨n,h1,h2,h3,h4⟩
   ·refine .inl ⟨by rw[h1];rfl,fun x hx=>?_⟩;rcases zX.1 hx with rfl|hx
    ·exact h
    ·exact h2 x hx
   ·refine .inr ⟨n+1,?_,by simp;omega,fun x hx=>?_,by simpa using h4⟩
    ·rw[h1,if_neg (by simp)];omega
    ·rw[List.take_succ_cons]at hx;rcases zX.1 hx with rfl|hx
     ·exact h
     ·exact h3 x hx
def segF:List UInt8->List UInt8->List (List UInt8)
 |c,[]=>[c]
 |c,x::r=>if x=10 then c::segF [] r else segF (c++ [x]) r
def segs (s:List UInt8):List (List UInt8):=segF [] s
set_option maxHeartbeats 1000000 in
theorem zkF (s:ByteArray) (c:UInt8) (w:zi):
  Calls Tryz.prog 184 #[.string s,.string ⟨#[c]⟩] w fun e w'=>e= .returned (.int .i64 (xd s.data.toList c))∧w'=w:=by
 go_enter Tryz.func184,Tryz.ntmps184
 go_wp2_with (go_at_call 217;refine (zhE s _ _).mono ?_;rintro e w' ⟨rfl,rfl⟩)
 ·rename_i hs
  go_ret
  rw[ByteArray.toList_eq]at hs;have hs:=eq_of_beq hs;refine⟨?_,rfl⟩;rw[<-hs];show uB (.int .i64 0)=uB (.int .i64 (xd [c] c));unfold xd;rw[if_pos (by simp)]
 ·go_ret
  exact⟨rfl,rfl⟩
set_option maxHeartbeats 1000000 in
theorem zim (s:ByteArray) (c:UInt8) (w:zi):
  Calls Tryz.prog 147 #[.string s,.string ⟨#[c]⟩] w fun e w'=>e= .returned (.int .i64 (xd s.data.toList c))∧w'=w:=by
 go_enter Tryz.func147,Tryz.ntmps147
 go_wp2_with (go_at_call 184;refine (zkF s c _).mono ?_;rintro e w' ⟨rfl,rfl⟩)
 go_ret
 exact⟨rfl,rfl⟩
def itV (w:zi):zg:=.func (.func 145) #[] #[.pointer (some ⟨w.heap.size+1,0,none⟩),.pointer (some ⟨w.heap.size,0,none⟩),.pointer (some ⟨w.heap.size+1+1,0,none⟩)]
def itW (w:zi) (s p:ByteArray):zi:=((w.alloc (.cells #[.string s] 9)).alloc (.cells #[.string p] 9)).alloc (.cells #[.int .i64 0] 3)
set_option maxHeartbeats 1000000 in
theorem zhB (s p:ByteArray) (w:zi):Calls Tryz.prog 85 #[.string s,.string p,.int .i64 0] w fun e w'=>e= .returned (itV w)∧w'=itW w s p:=by
 go_enter Tryz.func85,Tryz.ntmps85
 go_wp2
 go_ret
 refine⟨?_,rfl⟩;unfold itV;simp
set_option maxHeartbeats 1000000 in
theorem zin (s p:ByteArray) (w:zi):Calls Tryz.prog 50 #[.string s,.string p] w fun e w'=>e= .returned (itV w)∧w'=itW w s p:=by
 go_enter Tryz.func50,Tryz.ntmps50
 go_wp2_with (go_at_call 85;refine (zhB s p _).mono ?_;rintro e w' ⟨rfl,rfl⟩)
 go_ret
 exact⟨rfl,rfl⟩
theorem zjr (p:List UInt8) (hp:∀ x∈p,x≠10) (r:List UInt8):∀ (c:List UInt8),segF c (p++r)=segF (c++p) r:=by
 induction p with
 |nil=>intro c;rw[List.append_nil];rfl
 |cons x p ih=>
  intro c;rw[y9];show (if x=10 then _ else _)=_;rw[if_neg (hp x (List.mem_cons_self ..)),ih (fun y hy=>hp y (List.mem_cons_of_mem _ hy)),zr];rfl
theorem znF {l:List UInt8} (h:∀ x∈l,x≠10):segs l=[l]:=by
 have:=zjr l h [] [];rw[List.append_nil,yN]at this;exact this
theorem znE {l:List UInt8} {n:Nat} (h:∀ x∈l.take n,x≠10) (hd:l.drop n=10::l.drop (n+1)):segs l=l.take n::segs (l.drop (n+1)):=by
 have:=zjr (l.take n) h (l.drop n) [];rw[List.take_append_drop,yN,hd]at this;exact this.trans (if_pos rfl)
theorem zsX (l:List UInt8) (n:Nat):(vp l.toArray).extract 0 n=⟨(l.take n).toArray⟩:=by
 apply uJ;rw[jP];simp
theorem zsY (l:List UInt8) (n:Nat):(vp l.toArray).extract n l.length=⟨(l.drop n).toArray⟩:=by
 apply uJ;rw[jP];simp;exact List.take_of_length_le (by rw[yX];exact zk _)
def itI (gs gp gv:Nat) (g:Nat):Prop:=g=gs∨g=gp∨g=gv
noncomputable def zq4 (gs:Nat) (W:zi):Nat:=match W.cell? ⟨gs,0,none⟩ with |some (.string s)=>s.size|_=>0
set_option maxHeartbeats 2000000 in
theorem zmq (l gs gp gv:Nat) (s:List UInt8) (J:Nat->zi->Prop) (Jr:zi->Prop) (W:zi) (hne:gs≠gp∧gs≠gv) (hlen:s.length≤2000000)
  (hs:W.heap[gs]? =some (.cells #[.string ⟨s.toArray⟩] 9 (0,0))) (hp:W.heap[gp]? =some (.cells #[.string ⟨#[10]⟩] 9 (0,0))) (hv:W.heap[gv]? =some (.cells #[.int .i64 0] 3 (0,0)))
  (hJ:∀ k A C,J k A->Kept (itI gs gp gv) A C->J k C)
  (hY:∀ k y W1,J k W1->(segs s)[k]? =some y->W.heap.size≤W1.heap.size->YieldAt yn 0 Tryz.prog l #[.string ⟨y.toArray⟩] W1 fun e W'=>(e= .returned (.bool true)∧J (k+1) W'∧SameOn (itI gs gp gv) W.heap.size W1 W')∨(e= .returned (.bool false)∧Jr W'))
  (h0:J 0 W):
  CallsIn yn 1 Tryz.prog 145 #[.func (.yield l) #[] #[],.pointer (some ⟨gp,0,none⟩),.pointer (some ⟨gs,0,none⟩),.pointer (some ⟨gv,0,none⟩)] W fun e W'=>(∃ v,e= .returned v)∧(J (segs s).length W'∨Jr W'):=by
 refine callsIn_of_wp Tryz.func145 rfl trivial ?_ rfl;have c1:=(zaU hp).1;have c2:=zaU hs;simp only[Tryz.ntmps145,qc,zs,z7,Nat.reduceAdd,Nat.reduceSub,j7,j8,vQ,ve,yN,y9]
 gi_wp2
 gi_loopw [7] (fun p wr=>∃ (pre:List (List UInt8)) (rest:List UInt8),segs s=pre++segs rest∧rest.length≤s.length∧wr.heap[gs]? =some (.cells #[.string ⟨rest.toArray⟩] 9 (0,0))∧wr.heap[gp]? =some (.cells #[.string ⟨#[10]⟩] 9 (0,0))∧wr.heap[gv]? =some (.cells #[.int .i64 0] 3 (0,0))∧J pre.length wr∧W.heap.size≤wr.heap.size)
  (fun p wr=>zq4 gs wr)
 case atStart=>exact⟨[],s,rfl,zk _,hs,hp,hv,h0,zk _⟩
 case round=>
  obtain⟨pre,rest,hsg,hrl,hs',hp',hv',hj,hsz⟩:=hrel;have d1:=(zaU hp').1;have d2:=zaU hs';have d3:=(zaU hv').1
  gi_wp2
  refine⟨trivial,(callsIn_wide.2 (zim _ _ _)).mono ?_⟩;rintro e w' ⟨rfl,rfl⟩;have hix:xd (vp rest.toArray).data.toList 10=xd rest 10:=rfl;rw[hix];rcases zr9 rest 10 with ⟨h1,h2⟩|⟨n,h1,h2,h3,h4⟩
  ·rw[h1];have hseg:=znF h2;rw[hseg]at hsg;obtain⟨fn,tmps,assign,body,hy,hR⟩:=hY pre.length rest _ hj (by rw[hsg];simp) hsz
   gi_wp2
   refine hR.mono ?_;rintro e W3 (⟨rfl,hJ3,hk3⟩|⟨rfl,hp3⟩)
   ·gi_wp2
    go_end0
    refine⟨⟨_,rfl⟩,.inl ?_⟩;rw[hsg,zh];exact hJ3
   ·gi_wp2
    go_end0
    exact⟨⟨_,rfl⟩,.inr hp3⟩
  ·rw[h1];have hseg:=znE h3 h4;rw[hseg]at hsg;have hn0:¬ (n:Int) < 0:=by omega
   have hex:(vp rest.toArray).extract 0 n=⟨(rest.take n).toArray⟩:=zsX rest n;have hex2:(vp rest.toArray).extract (n+1) rest.length=⟨(rest.drop (n+1)).toArray⟩:=zsY rest (n+1);have hnl:n < rest.length:=h2;obtain⟨fn,tmps,assign,body,hy,hR⟩:=hY pre.length (rest.take n) _ hj (by rw[hsg];simp) hsz
   gi_wp2
   refine hR.mono ?_;rintro e W3 (⟨rfl,hJ3,hk3⟩|⟨rfl,hp3⟩)
   ·have e1:=(hk3.block gs (.inl rfl)).trans hs';have e2:=(hk3.block gp (.inr (.inl rfl))).trans hp';have e3:=(hk3.block gv (.inr (.inr rfl))).trans hv';have f1:=(zaU e2).1;have f2:=zaU e1
    gi_wp2
    have g1:=zeD (.string ⟨(rest.drop (n+1)).toArray⟩) e1;refine⟨⟨pre++ [rest.take n],rest.drop (n+1),by rw[hsg,zr];rfl,by rw[yX];omega,g1,(xo W3 ⟨gs,0,none⟩ _ gp fun e=>hne.1 e.symm).trans e2,(xo W3 ⟨gs,0,none⟩ _ gv fun e=>hne.2 e.symm).trans e3,?_,?_⟩,?_⟩
    ·rw[zh,yH];exact hJ _ _ _ hJ3 (zdo W3 gs _ (.inl rfl))
    ·exact zQ hk3.size (zdo (R:=itI gs gp gv) W3 gs _ (.inl rfl)).size
    ·unfold zq4;rw[(zaU g1).1,d2.1];show (rest.drop (n+1)).toArray.size < rest.toArray.size;simp;omega
   ·gi_wp2
    exact⟨rfl,_,results_none rfl _ _ _,⟨_,rfl⟩,.inr hp3⟩
theorem zge {P:Program} {f:FuncId} {Q:Exit->Act->zi->Prop} {a:Act} {w:zi} {g:Operand} {ps:Array Tmp} {assign body:Code} {m:Nat}
  (h:∃ (l:Nat) (mark:List qS) (w1:zi) (d:qS) (w1':zi) (gf:FuncId) (args:Array zg) (w2:zi),
    (Instr.enterLoop f a.tmps ps assign body none).run P w= .ok (l,mark) w1∧(resolve a.eval (rangeCall g l) 0).run P w1= .ok d w1'∧(invoke d.target d.args).run P w1'= .ok (.enter gf args) w2∧
    CallsIn yn m P gf args w2 (fun e w3=>(∃ v,e= .returned v)∧∃ jump w4,(Instr.endLoop l).run P w3= .ok jump w4∧(match jump with
     |none=>Q .normal { a with defers:=mark++a.defers } w4
     |some c=>zfx P f c Q { a with defers:=mark++a.defers } w4))):
  zfx P f (.rangeFunc g ps assign body) Q a w:=by
 intro b k cs hb hro;obtain⟨l,mark,w1,d,w1',gf,args,w2,he,hres,hinv,_,hcall⟩:=h;rw[<-hro, <-hb]at he;have henter:=stepR_rangeFunc (P:=P) (b:=b) (a:=a) (k:=k) (cs:=cs) (w:=w) he hres hinv;obtain⟨e,w3,fr,⟨⟨v,rfl⟩,jump,w4,hend,hj⟩,hsteps,hfn,hleave⟩:=hcall (b.atR { a with defers:=mark++a.defers } (.inRangeFunc l::k)::cs) (room_wide _);have sback:StepsIn (Machine.fenced P yn) P (lone (b.atR a (.code (.rangeFunc g ps assign body)::k)) cs w) (lone (b.atR { a with defers:=mark++a.defers } ((jump.map Item.code).toList++k)) cs w4):=by
  refine .head (fenced_wide P _) henter (kI hsteps (.head (fenced_wide P _) ?_ (.one (fenced_wide P _) (stepR_endRangeFunc hend))));rw[<-finish_atR_inRangeFunc l v];exact step_leave_returned hleave
 cases jump with
 |none=>exact⟨.normal,_,w4,hj,sback⟩
 |some c=>
  obtain⟨e',a'',w5,hq,harr⟩:=hj b k cs hb hro;exact⟨e',a'',w5,hq,.of_steps sback harr⟩
def zrk (P:Program) (m:Nat) (gf:Nat) (lb:Array zg) (I:Nat->Prop) (ts:List (List UInt8)) (w:zi):Prop:=
 ∀ (l:Nat) (J:Nat->zi->Prop) (Jr:zi->Prop) (W:zi),yJ w.heap.size w W->(∀ k A C,J k A->Kept I A C->J k C)->
  (∀ k y W1,J k W1->ts[k]? =some y->W.heap.size≤W1.heap.size->YieldAt yn (m - 1) P l #[.string ⟨List.toArray y⟩] W1 fun e W'=>(e= .returned (.bool true)∧J (k+1) W'∧SameOn I W.heap.size W1 W')∨(e= .returned (.bool false)∧Jr W'))->
  J 0 W->
  CallsIn yn m P gf (#[.func (.yield l) #[] #[]]++lb) W fun e W'=>(∃ v,e= .returned v)∧(J ts.length W'∨Jr W')
theorem zhw {P:Program} {f:FuncId} {m:Nat} {g:Operand} {p:Tmp} {assign body:Code} {Q:Exit->Act->zi->Prop} {a:Act} {w:zi} {gf:Nat} {lb:Array zg} (hg:a.eval g= .func (.func gf) #[] lb) (eg:∀ args w,(callFunc gf args).run P w= .ok (.enter gf args) w)
  {I:Nat->Prop} {ts:List (List UInt8)} {w0:zi} (hseq:zrk P m gf lb I ts w0) (hb0:yJ w0.heap.size w0 w) (hI:∀ k,I k->k < w.heap.size)
  (J:Nat->zi->Prop) (Jr:zi->Prop) (N:Nat->List UInt8->Act->zi->Prop) (hJ:∀ k A C,J k A->Kept (fun g=>I g∨g=w.heap.size∨g=w.heap.size+1) A C->J k C) (hJr:∀ A C,Jr A->Kept (fun g=>I g∨g=w.heap.size∨g=w.heap.size+1) A C->Jr C)
  (hN:∀ k y a' A C,N k y a' A->Kept (fun g=>I g∨g=w.heap.size∨g=w.heap.size+1) A C->N k y a' C) (h0:∀ W1:zi,yJ w.heap.size w W1->W1.heap.size=w.heap.size+2->J 0 W1)
  (hassign:∀ (l k:Nat) (y:List UInt8) (W:zi),J k W->ts[k]? =some y->w.heap.size+2≤W.heap.size->assign.wpIn (yn.inRound l) (m - 1) P (fun e a' W'=>e= .normal∧N k y a' W'∧SameOn (fun g=>I g∨g=w.heap.size∨g=w.heap.size+1) (w.heap.size+2) W W') { tmps:=((#[p]:Array Tmp).zip #[(.string ⟨y.toArray⟩:zg)]).foldl (fun t (p,v)=>t.setIfInBounds p v) a.tmps,defers:=[] } W)
  (hbody:∀ (l k:Nat) (y:List UInt8) (W:zi) (a':Act),ts[k]? =some y->w.heap.size+2≤W.heap.size->N k y a' W->
    body.wpIn (yn.inRound l) (m - 1) P (fun e _ W3=>((e= .normal∧J (k+1) W3)∨(e= .ret∧Jr W3))∧SameOn (fun g=>I g∨g=w.heap.size∨g=w.heap.size+1) (w.heap.size+2) W W3) a' W)
  (hdone:∀ W:zi,J ts.length W->W.heap[w.heap.size]? =some (.deferred (some []))->Q .normal { a with defers:={ target:=.collected w.heap.size,args:=#[] }::a.defers } W)
  (hret:∀ (W:zi),Jr W->W.heap[w.heap.size]? =some (.deferred (some []))->Q .ret { a with defers:={ target:=.collected w.heap.size,args:=#[] }::a.defers } W):
  zfx P f (.rangeFunc g #[p] assign body) Q a w:=by
 obtain⟨rec,hrec⟩:∃ rec:LoopState->Option Code->Loop,rec=fun st pe=>{ state:=st,pending:=pe,fn:=f,tmps:=a.tmps,params:=#[p],assign,body,defers:=w.heap.size }:=⟨_,rfl⟩;obtain⟨W1,hW1⟩:∃ W1,(w.alloc (.deferred (some []))).alloc (.loop (rec .ready none))=W1:=⟨_,rfl⟩;have hs1:W1.heap.size=w.heap.size+2:=by rw[<-hW1];simp
 have hL1:W1.heap[w.heap.size+1]? =some (.loop (rec .ready none)):=by
  rw[<-hW1];have:=xm (w.alloc (.deferred (some []))) (.loop (rec .ready none));rwa[World.size_alloc]at this
 have hK1:W1.heap[w.heap.size]? =some (.deferred (some [])):=by
  rw[<-hW1];exact (Below.heap_alloc _ _ _ (by simp)).trans (xm w _)
 have hb1':yJ w.heap.size w W1:=by rw[<-hW1];exact ((zO _ w).alloc (zk _) _).alloc (by simp) _
 have hJ1:J 0 W1:=h0 _ hb1' hs1;have hb1:yJ w0.heap.size w0 W1:=hb0.trans (hb1'.mono hb0.size);refine zge (m:=m) ⟨w.heap.size+1,[{ target:=.collected w.heap.size,args:=#[] }],W1,{ target:=.fn (.func gf) lb,args:=#[.func (.yield (w.heap.size+1)) #[] #[]] },W1,gf,
  #[.func (.yield (w.heap.size+1)) #[] #[]]++lb,W1,?_,?_,?_,?_⟩
 ·rw[<-hW1,hrec];exact run_enterLoop_outer _ _ _ _ _
 ·simp only[resolve,hg];simp[go_sem]
 ·simp[invoke,go_sem,eg]
 refine (hseq (w.heap.size+1) (fun k W=>J k W∧W.heap[w.heap.size+1]? =some (.loop (rec .ready none))∧W.heap[w.heap.size]? =some (.deferred (some []))) (fun W=>Jr W∧W.heap[w.heap.size+1]? =some (.loop (rec .done (some .ret)))∧W.heap[w.heap.size]? =some (.deferred (some []))) W1 hb1 ?_ ?_ ⟨hJ1,hL1,hK1⟩).mono ?_
 ·intro k A C hs hb;have hl:=(zm.1 hs.2.1).1;have hd:=(zm.1 hs.2.2).1;exact⟨hJ k _ _ hs.1 (hb.mono fun g h=>.inl h),(hb.block _ hl fun h=>by have:=hI _ h;omega).trans hs.2.1,(hb.block _ hd fun h=>by have:=hI _ h;omega).trans hs.2.2⟩
 ·rintro k y W ⟨hj,hl,hk⟩ hy1 hsz;have hlt:w.heap.size+1 < W.heap.size:=(zm.1 hl).1;have hy:=run_yield (P:=P) (args:=#[.string ⟨y.toArray⟩]) hl (by rw[hrec];rfl);rw[hrec]at hy;refine⟨f,_,assign,body,hy,roundIn_of_wpIn trivial ?_⟩;refine yD (hassign _ k y W hj hy1 (by omega)) ?_;rintro e a2 W2 ⟨rfl,hn2,hk2⟩;have hl2:W2.heap[w.heap.size+1]? =some (.loop (rec .ready none)):=(hk2.block _ (.inr (.inr rfl))).trans hl;have hd2:W2.heap[w.heap.size]? =some (.deferred (some [])):=(hk2.block _ (.inr (.inl rfl))).trans hk;have hlt2:w.heap.size+1 < W2.heap.size:=(zm.1 hl2).1;refine⟨_,run_beginRound hl2 (by rw[hrec]),?_⟩;have hl3:(W2.putObj (w.heap.size+1) (.loop { rec .ready none with state:=.busy })).heap[w.heap.size+1]? =some (.loop { rec .ready none with state:=.busy }):=qo hlt2;have hd3:(W2.putObj (w.heap.size+1) (.loop { rec .ready none with state:=.busy })).heap[w.heap.size]? =some (.deferred (some [])):=(yY (by omega)).trans hd2;have hn3:N k y a2 (W2.putObj (w.heap.size+1) (.loop { rec .ready none with state:=.busy })):=hN k y a2 _ _ hn2 (zcF _ (.inr (.inr rfl)));have hp3:=grownBy_putObj' W2 (w.heap.size+1) (.loop { rec .ready none with state:=.busy });refine yD (hbody _ k y _ a2 hy1 (zQ (by omega) hp3.size) hn3) ?_;rintro e a3 W3 ⟨he,hk3⟩;have hl4:W3.heap[w.heap.size+1]? =some (.loop { rec .ready none with state:=.busy }):=(hk3.block _ (.inr (.inr rfl))).trans hl3;have hd4:W3.heap[w.heap.size]? =some (.deferred (some [])):=(hk3.block _ (.inr (.inl rfl))).trans hd3;rcases he with ⟨rfl,hj3⟩|⟨rfl,hr3⟩
  ·have hr:=run_endRound (P:=P) none hl4;refine⟨_,_,hr,.inl ⟨rfl,⟨hJ _ _ _ hj3 (zcF _ (.inr (.inr rfl))),?_,(yY (by omega)).trans hd4⟩,?_⟩⟩
   ·rw[qo (zm.1 hl4).1,hrec];rfl
   ·refine⟨?_,?_,?_,?_,fun j hj=>?_⟩
    ·exact (grownBy_putObj' W3 _ _).os.trans (hk3.os.trans (hp3.os.trans hk2.os))
    ·exact (grownBy_putObj' W3 _ _).tape.trans (hk3.tape.trans (hp3.tape.trans hk2.tape))
    ·exact (grownBy_putObj' W3 _ _).output.trans (hk3.output.trans (hp3.output.trans hk2.output))
    ·exact zQ (by rw[hs1];exact hk3.size) (grownBy_putObj' W3 _ _).size
    ·have hjl:=hI j hj;exact (yY (by omega)).trans ((hk3.block j (.inl hj)).trans ((yY (by omega)).trans (hk2.block j (.inl hj))))
  ·have hr:=run_endRound (P:=P) (some .ret) hl4;refine⟨_,_,hr,.inr ⟨rfl,hJr _ _ hr3 (zcF _ (.inr (.inr rfl))),?_,(yY (by omega)).trans hd4⟩⟩;rw[qo (zm.1 hl4).1,hrec];rfl
 ·rintro e W2 ⟨hv,⟨hj,hl,hk⟩|⟨hj,hl,hk⟩⟩
  ·refine⟨hv,none,_,by have:=run_endLoop (P:=P) hl (by rw[hrec];simp);rw[hrec]at this;exact this,hdone _ (hJ _ _ _ hj (zcF _ (.inr (.inr rfl)))) ((yY (by omega)).trans hk)⟩
  ·refine⟨hv,some .ret,_,by have:=run_endLoop (P:=P) hl (by rw[hrec];simp);rw[hrec]at this;exact this,?_⟩;exact zca (m:=0) (wpIn_ret (hret _ (hJr _ _ hj (zcF _ (.inr (.inr rfl)))) ((yY (by omega)).trans hk)))
theorem zkD (gs gp gv:Nat) (s:List UInt8) (w:zi) (hne:gs≠gp∧gs≠gv) (hlen:s.length≤2000000)
  (hs:w.heap[gs]? =some (.cells #[.string ⟨s.toArray⟩] 9 (0,0))) (hp:w.heap[gp]? =some (.cells #[.string ⟨#[10]⟩] 9 (0,0))) (hv:w.heap[gv]? =some (.cells #[.int .i64 0] 3 (0,0))):
  zrk Tryz.prog 1 145 #[.pointer (some ⟨gp,0,none⟩),.pointer (some ⟨gs,0,none⟩),.pointer (some ⟨gv,0,none⟩)] (itI gs gp gv) (segs s) w:=fun l J Jr W hW hJ hY h0=>
 zmq l gs gp gv s J Jr W hne hlen ((hW.block _ (zm.1 hs).1).trans hs) ((hW.block _ (zm.1 hp).1).trans hp) ((hW.block _ (zm.1 hv).1).trans hv) hJ hY h0
end
noncomputable def zjW (s p:List UInt8):Bool:=decide (p.length≤s.length)&&eqb .str (s.take p.length) p
noncomputable def cPre:Ctr:={ args:=[.str,.str],pre:=fun x=>[zd x.1≤2000000,zd x.2.1≤2000000],res:=.bool,own:=none,out:=fun x=>zjW x.1 x.2.1 }
theorem zmW:yM Tryz.prog gmH 86 cPre:=by
 refine zar (K:=gmK) zak Tryz.func86 rfl rfl Tryz.call86 rfl (by decide) (by intro h;cases h) ?_;rintro w0 X hX ⟨(s:List UInt8),(p:List UInt8),⟨⟩⟩ hp;obtain⟨hs,hpl⟩:s.length≤2000000∧p.length≤2000000:=hp;change AWP _ _ _ _ _ ⟨[(0,⟨.str,s⟩),(1,⟨.str,p⟩)],[],0⟩ _;refine za (za ?_);refine zaa hX zak rfl ?_ ?_
 ·trivial
 refine za (za ?_);refine zaa hX zak rfl ?_ ?_
 ·have hd:decide (((p.length:Nat):Int)≤((s.length:Nat):Int))=true->((p.length:Nat):Int)≤((s.length:Nat):Int):=of_decide_eq_true;exact⟨fun h=>h,fun h=>⟨h,h,zu _,hd h⟩,fun h=>⟨h,h⟩,fun h=>h⟩
 refine zq ⟨.inr rfl,zay rfl trivial rfl rfl ?_⟩;show (bif decide (((p.length:Nat):Int)≤((s.length:Nat):Int)) then eqb .str (List.take (((p.length:Nat):Int)).toNat s) p else false)=(decide (p.length≤s.length)&&eqb .str (s.take p.length) p);rw[zcg,dNat,zL]
noncomputable def kPx:Kn:={ gmK with C:=[(86,cPre)] }
theorem zoB:KnOk Tryz.prog gmH kPx:=zak.with (.cons zmW .nil)
theorem zoH:yM Tryz.prog gmH 51 cPre:=by
 refine zar (K:=kPx) zoB Tryz.func51 rfl rfl Tryz.call51 rfl (by decide) (by intro h;cases h) ?_;rintro w0 X hX ⟨(s:List UInt8),(p:List UInt8),⟨⟩⟩ hp;obtain⟨hs,hpl⟩:s.length≤2000000∧p.length≤2000000:=hp;change AWP _ _ _ _ _ ⟨[(0,⟨.str,s⟩),(1,⟨.str,p⟩)],[],0⟩ _;refine za (za ?_);refine zaa hX zoB rfl ?_ ?_
 ·trivial
 refine za (za ?_);refine zaa hX zoB rfl ?_ ?_
 ·exact⟨hs,hpl⟩
 exact zq ⟨.inr rfl,zay rfl trivial rfl rfl rfl⟩
abbrev De:=List UInt8×List Nd×Unit
abbrev znQ (j:Nat):OObj:=.hbox 29 [⟨.obuf de,j⟩]
abbrev tD:zo:=29
def libE (l:List UInt8) (fr:Int) (acc:List De):Owns:=[(0,some (.hbox tD [⟨.lit,.slice none 0 0⟩])),(1,some (.box i64 (0:Int))),(2,some (.box i64 (0:Int))),(3,some (znQ 6)),(4,some (.box i64 fr)),(5,some (.box .str l)),(6,some (.buf 37 de acc))]
def kLb:Kn:={ gmK with H:=[tD] }
theorem zoC:KnOk Tryz.prog gmH kLb:=⟨zgb,zga,CsOk.nil,zha,RsOk.nil⟩
def zgf (l:List UInt8) (k:Int):Except (Int×Int) De:=(gDef l (za1 l,0) k).map fun r=>(r.1,r.2.flat 0,())
theorem zm1 (l:List UInt8) (k:Int):zkZ l (za1 l,0) [] k=toX id (zgf l k):=by
 unfold zkZ zgf;cases gDef l (za1 l,0) k<;>rfl
def NLib (l:List UInt8) (fr:Int) (acc:List De) (r:Except (Int×Int) Unit) (σ:AS):Prop:=(∃ d,zgf l ((acc.length:Nat):Int)= .ok d∧r= .ok ()∧Fit σ ⟨[],libE l fr (acc++ [d]),7⟩)∨∃ er,zgf l ((acc.length:Nat):Int)= .error er∧r= .error er∧Fit σ ⟨[],libE l fr acc,7⟩
set_option maxHeartbeats 4000000 in
theorem zqc {w1:zi} {X:Ownr} {l:List UInt8} {fr:Int} {acc:List De} (hl:l.length≤4000) (ha:acc.length≤1000000) (hX:X.Ok w1) (hG:X.G=gmH) (hK:X.K=6) (hρ:X.ρ=none) (hD:X.D=[]) (hinv:∀ ty,ginv w1 X.R ty):
  AWP Tryz.prog w1 X Tryz.f54.ntmps (Tryz.f54.body.getD .skip) ⟨[(0,⟨.hptr,((3:Nat),(0:Nat))⟩),(1,⟨.optr .str,⟨5,.str,.here⟩⟩)],libE l fr acc,7⟩ (fun e σ=>((e= .normal∨e= .ret)∧NLib l fr acc (.ok ()) σ)∨∃ er,e= .panic [{ v:=pvS er,recovered:=false }]∧NLib l fr acc (.error er) σ):=by
 obtain⟨G,O,K,fix,D,ρ,B⟩:=X;obtain rfl:G=gmH:=hG;obtain rfl:K=6:=hK;obtain rfl:ρ=none:=hρ;obtain rfl:D=[]:=hD;have hI:=fun ty=>zaE (ty:=ty) hX rfl (hinv ty) (ty':=ty);have hl1:l.length≤100000:=by omega
 have hcap:acc.length+1≤1000000000:=by omega
 have hg0:GOk l (za1 l,0):=by
  have:=zdP (s:=l);unfold zfN at this;rwa[zlu]at this
 have hok:pOk (l,za1 l,[],0,()):=⟨hg0,hl1⟩;have hfew:few (l,za1 l,[],0,()):=Int.le_refl 0;have hx:=zm1 l ((acc.length:Nat):Int);unfold libE;refine jr dM 9 rfl (by kernel_rfl) ?_;cases hr:zgf l ((acc.length:Nat):Int) with
 |ok d=>
  rw[hr]at hx;have hx:zkZ l (za1 l,0) [] ((acc.length:Nat):Int)= .ok d:=hx
  repeat'(first
   |exact jH
   |refine jh ⟨_,rfl,?_⟩ ?_
   |refine yZ hX zoC rfl trivial ?_
   |refine StepA.fresh hX zd7 rfl rfl rfl rfl rfl rfl (by exact trivial) (by exact hl1) (by exact⟨rfl,rfl⟩) rfl rfl ?_
   |refine yZ hX zoC rfl hcap ?_
   |refine StepA.conv (kA 7 6 73 nd rfl rfl rfl) (StepA.giveO hX zfo rfl rfl rfl rfl rfl rfl rfl rfl rfl rfl rfl rfl (by exact trivial) (by exact⟨hok,hfew⟩) (by exact hI 139) rfl rfl (by exact hx) ?_)
   |(refine jx ?_;exact .inl ⟨.inl rfl,.inl ⟨d,hr,rfl,trivial,⟨rfl,rfl,rfl,rfl,rfl,rfl,rfl,trivial⟩,rfl,rfl⟩⟩))
 |error er=>
  rw[hr]at hx;have hx:zkZ l (za1 l,0) [] ((acc.length:Nat):Int)= .error (pvS er):=hx
  repeat'(first
   |exact jH
   |refine jh ⟨_,rfl,?_⟩ ?_
   |refine yZ hX zoC rfl trivial ?_
   |refine StepA.fresh hX zd7 rfl rfl rfl rfl rfl rfl (by exact trivial) (by exact hl1) (by exact⟨rfl,rfl⟩) rfl rfl ?_
   |refine StepA.conv (kA 7 6 73 nd rfl rfl rfl) (StepA.giveE hX zfo rfl rfl rfl rfl rfl rfl rfl rfl rfl rfl rfl rfl (by exact trivial) (by exact⟨hok,hfew⟩) (by exact hI 139) rfl rfl (by exact hx) ?_)
   |exact .inr ⟨er,rfl,.inr ⟨er,hr,rfl,trivial,⟨rfl,rfl,rfl,rfl,rfl,rfl,rfl,trivial⟩,rfl,rfl⟩⟩)
def zj7:List De->List UInt8->List UInt8×Int
 | [],acc=>if 1048576 < acc.length then ([],2) else (acc,0)
 |d::r,acc=>
  if 32 < d.1.length then ([],2)
  else if zas d.1=0∨zas d.1 < d.1.length then ([],1)
  else if (fmtS d.2.1).2≠0 then ([],(fmtS d.2.1).2)
  else if 4000 < (d.1++ [32,61,32]++(fmtS d.2.1).1).length then ([],2)
  else zj7 r (acc++(d.1++ [32,61,32]++(fmtS d.2.1).1++ [10]))
def zbh (l:List De):List UInt8×Int:=if 4096 < l.length then ([],2) else zj7 l []
theorem zqw (r:List Nd):(fmtS r).1.length≤4000:=by
 unfold fmtS;split
 ·split
  ·exact zl _
  ·show (zdn r).text.length≤4000;omega
 ·exact zl _
section
variable {w0:zi} {X:Ownr} {n:Nat} {Q:Exit->AS->Prop} {ops:Array Oper} {F:Frame} {E:Owns} {nx:Nat}
theorem AL.newBd (hX:X.Ok w0) {o:Oper} {rest:List Oper} (ho:o.op= .alloc 105) (hgd:o.guard=none) {d:Nat} (hd:o.dst=some d) (hdn:Nat.blt d n=true)
  (h:AL Tryz.prog w0 X n ops rest ⟨(d,⟨.hptr,(nx,(0:Nat))⟩)::F,(nx,some (.hbox 105 [⟨.lit,.pointer none⟩,⟨.lit,.slice none 0 0⟩]))::E,nx+1⟩ Q):AL Tryz.prog w0 X n ops (o::rest) ⟨F,E,nx⟩ Q:=by
 refine AL.hand hgd (fun c e=>by rw[ho]at e;cases e) fun β a w hs=>?_;have hlt:d < n:=by simpa using hdn
 refine zbt (u:=.pointer (some ⟨w.heap.size,0,none⟩)) (w':=w.alloc (.cells #[.pointer none,.slice none 0 0] 105 (0,0))) ?_ ?_
 ·unfold execOp;simp[ho,Instr.alloc,Tryz.zeroValue105,newVar,newRow,Value.cells,go_sem]
 ·rw[hd];obtain⟨β',h1⟩:=hs.make hX ((zO _ w).alloc (zk _) (.cells #[.pointer none,.slice none 0 0] 105 (0,0))) (bv:=.pointer (some ⟨w.heap.size,0,none⟩)) (o:=.hbox 105 [⟨.lit,.pointer none⟩,⟨.lit,.slice none 0 0⟩])
   (fun O β' _=>⟨w.heap.size,[.pointer none,.slice none 0 0],rfl,zl _,xm w _,⟨.pointer none,[.slice none 0 0],rfl,rfl,rfl,⟨.slice none 0 0,[],rfl,rfl,rfl,rfl⟩⟩⟩) (fun g hg=>by cases hg;exact zk _) (v:=⟨.hptr,(nx,(0:Nat))⟩) (u:=.pointer (some ⟨w.heap.size,0,none⟩))
   (fun O β' hb=>⟨w.heap.size,by show zah (β' nx)=_;rw[show β' nx=_ from hb];rfl,rfl⟩) (zk _) hlt (fun vs e v hv=>by
     cases e;rcases zX.1 hv with rfl|hv
     ·exact zl _
     ·rw[zv.1 hv];exact zl _)
  exact⟨_,β',h1,h⟩
end
@[reducible] def cStr0:HCtr:=hBl .unit [105] [] .str (fun _ _=>[]) fun x _=>.ok (x.2.1,x)
theorem zmX {R:Nat->Prop} {w w':zi} (h:yJ w.heap.size w w'):Kept R w w':=⟨h.os,h.tape,h.output,h.size,fun k hk _=>h.block k hk⟩
theorem zmp:zfw Tryz.prog gmH 62 cStr0 (fun x _=>.ok x.2.1):=by
 refine⟨Tryz.call62,zce rfl,fun w O g cs ty x xs vs b hO hgb hg hx hbuf hrep hpre hinv hG=>?_⟩;by_cases h0:x.2.1=[]
 ·obtain⟨xb,(xl:List UInt8),⟨⟩⟩:=x;obtain rfl:xl=[]:=h0;have hvs:vs=[]:=hrep;subst hvs;obtain rfl:ty=105:=zv.1 hinv.2;rw[zoe]at hx;obtain⟨u,r,rfl,hu1,hu,hr⟩:=hx;obtain⟨v,r,rfl,hv1,hv,hr⟩:=hr;have hv:v=b:=hv;subst hv;have hr:r=[]:=hr;subst hr;obtain⟨cells,k1,k2,k3⟩:=hbuf;have k1:=zfG k1;subst k1;have fin:∀ {e:Ending} {w':zi},(e= .returned (.string ⟨#[]⟩)∧yJ w.heap.size w w')->Kept (fun h=>h=g∨zah v=some h) w w'∧LEnd cStr0 w w' O e (.ok ([]:List UInt8)):=fun {e w'} h=>⟨zmX h.2,_,h.1,.inr fun β=>⟨rfl,zl _⟩⟩;rcases k2.2 with ⟨rfl,_⟩|⟨g',cap,cur,rfl,_,hg',hnc,hcm,hcs,htake⟩
  ·refine (Any.Builder_String_nil Tryz.lays169 Tryz.Builder_Extra_169 w.heap.size g u w hg).mono ?_;exact fun e w' h=>fin h
  ·by_cases hc0:cap=0
   ·subst hc0;refine (Any.Builder_String_noroom Tryz.lays169 Tryz.Builder_Extra_169 w.heap.size g g' u cur w (zk _) hg hg').mono ?_;exact fun e w' h=>fin h
   ·refine (Any.Builder_String_room Tryz.lays169 Tryz.Builder_Extra_169 w.heap.size g g' cap u w hc0 hg).mono ?_;exact fun e w' h=>fin h
 ·exact (zjm .unit rfl [105]).2.2 w O g cs ty x xs vs b hO hgb hg hx hbuf hrep h0 hinv hG
def zDe:De:=([],[],())
def cFmtL:Ctr:={ args:=[.slice de],pre:=fun _=>[],res:=.tup .str (.tup i64 .unit),own:=none,out:=fun x=>((zbh x.1).1,(zbh x.1).2,()) }
def kFb:Kn:={ gmK with C:=[(65,ziY),(24,cFmt)] }
theorem za3:KnOk Tryz.prog gmH kFb:=zak.with (.cons zhN.lift <| .cons zj6 .nil)
def hFb:List (FuncId×HCtr):=[(66,cWSB),(61,zm9 .unit [105])]
theorem zq8:HsOk Tryz.prog gmH hFb:=.cons zmj <| .cons zr6 .nil
def bdE (b:Bool) (acc:List UInt8):Owns:=[(0,some (.hbox 105 [adV 0 b,⟨.obuf u8,(1:Nat)⟩])),(1,some (.buf 5 u8 acc))]
set_option maxHeartbeats 1000000 in
theorem zoN:yM Tryz.prog gmH 26 cFmtL:=by
 refine zar (K:=kFb) za3 Tryz.func26 rfl rfl Tryz.call26 rfl (by decide) (by intro h;cases h) ?_;rintro w0 X hX ⟨(l:List De),_⟩ hp;change AWP _ _ _ _ _ ⟨[(0,⟨.slice de,l⟩)],[],0⟩ _;refine jU 0 rfl fun hl=>?_;unfold maxLen at hl;have hI:∀ w R,(∀ g,R g->w0.heap.size≤g∨(qg gmH X).R g)->(qg gmH X).G w->bInv .unit [105] w R 105:=fun w R hR hw=>⟨zaE (ty:=105) hX rfl (zh8 hX) (ty':=105) w R hR hw,zv.2 rfl⟩;refine za (za ?_);refine zaa hX za3 rfl ?_ ?_
 ·trivial
 refine za (za ?_);refine zaa hX za3 rfl ?_ ?_
 ·trivial
 refine zai rfl (fun hb=>?_) (fun hb=>?_)
 ·have hb:decide (((l.length:Nat):Int) > 4096)=true:=hb;have hb:=of_decide_eq_true hb;(repeat(first|apply zae|apply zac|apply zal|apply zad|apply zab|refine zaa hX za3 rfl trivial ?_|refine zaa hX za3 rfl id ?_|refine zaa hX za3 rfl ⟨id,id⟩ ?_));refine zq ⟨.inr rfl,zba (by decide) rfl rfl trivial ?_⟩;show (([]:List UInt8),(2:Int),())=((zbh l).1,(zbh l).2,());unfold zbh;rw[if_pos (by omega)]
 have hb:decide (((l.length:Nat):Int) > 4096)=false:=hb;have hb:=of_decide_eq_false hb;have hS:zbh l=zj7 l []:=by unfold zbh;rw[if_neg (by omega)]
 apply zac;apply zae;refine zaj ?_;refine AL.newBd hX rfl rfl rfl rfl ?_;refine AL.nilLeaf 0 1 5 u8 rfl rfl rfl ?_;refine AL.nil ?_;refine za (za ?_);refine zaa hX za3 rfl ?_ ?_
 ·trivial
 (repeat(first|apply zae|apply zac|apply zab|apply zad));refine yB (ι:=Nat×List UInt8) (fun p=>⟨[(0,⟨.slice de,l⟩),(4,⟨.hptr,((0:Nat),(0:Nat))⟩),(14,⟨.slice de,l⟩),(15,⟨i64,((l.length:Nat):Int)⟩),(16,⟨i64,(p.1:Int)⟩)],bdE (decide (0 < p.1)) p.2,2⟩) (fun p=>p.1≤l.length∧zbh l=zj7 (l.drop p.1) p.2∧p.2.length≤4001 * p.1) (fun p=>l.length - p.1) (0,[]) ⟨zl _,hS,zl _⟩ ⟨⟨rfl,rfl,rfl,rfl,rfl,trivial⟩,⟨rfl,rfl,trivial⟩,rfl,rfl⟩ ?_;rintro ⟨i,acc⟩ ⟨hi,hR,hal⟩;have hi:i≤l.length:=hi;have hR:zbh l=zj7 (l.drop i) acc:=hR;have hal:acc.length≤4001 * i:=hal;unfold bdE;refine za (za ?_);refine zaa hX za3 rfl ?_ ?_
 ·trivial
 apply zae;refine zai rfl (fun hb=>?_) (fun hb=>?_)
 ·have hb2:decide ((i:Int) < (l.length:Nat))=true:=hb;have hb2:=of_decide_eq_true hb2;have hlt:i < l.length:=by omega
  have z0:(0:Int)≤(i:Int):=by omega
  have hgd:l.getD (i:Int).toNat zDe=l[i]:=zaM hlt;rw[y5 hlt,zj7, <-hgd]at hR;generalize hbq:decide (0 < i)=b;refine za (za ?_);refine zaa hX za3 rfl ?_ ?_
  ·exact⟨z0,hb2⟩
  generalize hD:l.getD (i:Int).toNat zDe=D at *;obtain⟨(nm:List UInt8),(rl:List Nd),⟨⟩⟩:=D;refine zap (σ':=⟨[(0,⟨.slice de,l⟩),(4,⟨.hptr,((0:Nat),(0:Nat))⟩),(14,⟨.slice de,l⟩),(15,⟨i64,((l.length:Nat):Int)⟩),(16,⟨i64,(i:Int)⟩),(6,⟨.optr de,⟨2,de,.here⟩⟩)],(2,some (.box de (nm,rl,())))::bdE b acc,3⟩) ⟨⟨rfl,rfl,rfl,rfl,rfl,rfl,trivial⟩,⟨zft hD,rfl,rfl,trivial⟩,rfl,by cases b<;>rfl⟩ ?_;have hR:zbh l=if 32 < nm.length then ([],2) else if zas nm=0∨zas nm < nm.length then ([],1) else if (fmtS rl).2≠0 then ([],(fmtS rl).2) else if 4000 < (nm++ [32,61,32]++(fmtS rl).1).length then ([],2) else zj7 (l.drop (i+1)) (acc++(nm++ [32,61,32]++(fmtS rl).1++ [10])):=hR
  unfold bdE;refine za (za ?_);refine zaa hX za3 rfl ?_ ?_
  ·trivial
  refine za (za ?_);refine zaa hX za3 rfl ?_ ?_
  ·trivial
  refine zai rfl (fun hc=>?_) (fun hc=>?_)
  ·have hc:decide (((nm.length:Nat):Int) > 32)=true:=hc;have hc:=of_decide_eq_true hc;(repeat(first|apply zae|apply zac|apply zal|apply zad|apply zab|refine zaa hX za3 rfl trivial ?_|refine zaa hX za3 rfl id ?_|refine zaa hX za3 rfl ⟨id,id⟩ ?_));refine zq ⟨.inr rfl,zba (by decide) rfl rfl trivial ?_⟩;show (([]:List UInt8),(2:Int),())=((zbh l).1,(zbh l).2,());rw[hR,if_pos (by omega)]
  have hc:decide (((nm.length:Nat):Int) > 32)=false:=hc;have hc:=of_decide_eq_false hc;refine za (za ?_);refine zaa hX za3 rfl ?_ ?_
  ·repeat'(first|exact trivial|assumption|(refine⟨?_,?_⟩)|(intro _)|exact zf rfl|exact zu _|(simp_all [allP];done))
  have hq:(bif ((zas nm:Nat):Int)==0 then true else decide (((zas nm:Nat):Int) < ((nm.length:Nat):Int)))=decide (zas nm=0∨zas nm < nm.length):=by
   rw[b_or,yz,ya,decide_eq_true_iff,decide_eq_true_iff,beq_iff_eq];omega
  refine zai rfl (fun hd=>?_) (fun hd=>?_)
  ·have hd:=hq.symm.trans hd;have hd:=of_decide_eq_true hd;(repeat(first|apply zae|apply zac|apply zal|apply zad|apply zab|refine zaa hX za3 rfl trivial ?_|refine zaa hX za3 rfl id ?_|refine zaa hX za3 rfl ⟨id,id⟩ ?_));refine zq ⟨.inr rfl,zba (by decide) rfl rfl trivial ?_⟩;show (([]:List UInt8),(1:Int),())=((zbh l).1,(zbh l).2,());rw[hR,if_neg (by omega),if_pos hd]
  have hd:=hq.symm.trans hd;have hd:=of_decide_eq_false hd;apply zac;refine za (za ?_);refine zaa hX za3 rfl ?_ ?_
  ·trivial
  refine zap (σ':=⟨[(0,⟨.slice de,l⟩),(4,⟨.hptr,((0:Nat),(0:Nat))⟩),(14,⟨.slice de,l⟩),(15,⟨i64,((l.length:Nat):Int)⟩),(16,⟨i64,(i:Int)⟩),(6,⟨.optr de,⟨2,de,.here⟩⟩),(8,⟨.str,(fmtS rl).1⟩),(9,⟨i64,(fmtS rl).2⟩)],(2,some (.box de (nm,rl,())))::bdE b acc,3⟩) ⟨⟨rfl,rfl,rfl,rfl,rfl,rfl,rfl,rfl,trivial⟩,⟨rfl,rfl,rfl,trivial⟩,rfl,by cases b<;>rfl⟩ ?_;have hfl:=zqw rl;generalize (fmtS rl).1=T at *;generalize (fmtS rl).2=ec at *;unfold bdE;refine za (za ?_);refine zaa hX za3 rfl ?_ ?_
  ·trivial
  refine zai rfl (fun he=>?_) (fun he=>?_)
  ·have he:(ec != 0)=true:=he;have he:=bne_iff_ne.1 he;(repeat(first|apply zae|apply zac|apply zal|apply zad|apply zab|refine zaa hX za3 rfl trivial ?_|refine zaa hX za3 rfl id ?_|refine zaa hX za3 rfl ⟨id,id⟩ ?_));refine zq ⟨.inr rfl,zba (by decide) rfl rfl trivial ?_⟩;show (([]:List UInt8),ec,())=((zbh l).1,(zbh l).2,());rw[hR,if_neg (by omega),if_neg hd,if_pos he]
  have he:(ec != 0)=false:=he;have he:¬ ec≠0:=fun h=>by rw[bne_iff_ne.2 h]at he;cases he
  apply zac;have t1:nm.length+3≤maxLen:=by unfold maxLen;omega
  have t2:zd (nm++ [32,61,32]:List UInt8)+T.length≤maxLen:=by rw[zh];show nm.length+3+_≤_;unfold maxLen;omega
  have t3:(nm++ [32,61,32]++T:List UInt8).length=nm.length+3+T.length:=by rw[zh,zh];rfl
  refine za (za ?_);refine zaa hX za3 rfl ?_ ?_
  ·exact⟨t1,t2⟩
  refine zap (σ':=⟨[(0,⟨.slice de,l⟩),(4,⟨.hptr,((0:Nat),(0:Nat))⟩),(14,⟨.slice de,l⟩),(15,⟨i64,((l.length:Nat):Int)⟩),(16,⟨i64,(i:Int)⟩),(10,⟨.str,nm++ [32,61,32]++T⟩)],bdE b acc,3⟩) ⟨⟨rfl,rfl,rfl,rfl,rfl,rfl,trivial⟩,⟨rfl,rfl,trivial⟩,rfl,by cases b<;>rfl⟩ ?_;generalize (nm++ [32,61,32]++T:List UInt8)=L at hR t3;unfold bdE;refine za (za ?_);refine zaa hX za3 rfl ?_ ?_
  ·trivial
  refine zai rfl (fun hf=>?_) (fun hf=>?_)
  ·have hf:decide (((L.length:Nat):Int) > 4000)=true:=hf;have hf:=of_decide_eq_true hf;(repeat(first|apply zae|apply zac|apply zal|apply zad|apply zab|refine zaa hX za3 rfl trivial ?_|refine zaa hX za3 rfl id ?_|refine zaa hX za3 rfl ⟨id,id⟩ ?_));refine zq ⟨.inr rfl,zba (by decide) rfl rfl trivial ?_⟩;show (([]:List UInt8),(2:Int),())=((zbh l).1,(zbh l).2,());rw[hR,if_neg (by omega),if_neg hd,if_neg he,if_pos (by omega)]
  have hf:decide (((L.length:Nat):Int) > 4000)=false:=hf;have hf:=of_decide_eq_false hf;rw[if_neg (by omega),if_neg hd,if_neg he,if_neg (by omega)]at hR;apply zac;have hl1:(L++ [10]:List UInt8).length=L.length+1:=by rw[zh];rfl
  have t4:L.length+1≤maxLen:=by unfold maxLen;omega
  have t5:acc.length+zd (L++ [10]:List UInt8)≤1000000000:=by omega
  cases b
  all_goals
   (repeat(first|apply zae|apply zac|apply zab|apply zad));refine zaj ?_;refine AL.own 2 hX za3 zq8 rfl t4 rfl rfl t5 hI ?_;refine AL.nil ?_;refine zap (σ':=⟨[(0,⟨.slice de,l⟩),(4,⟨.hptr,((0:Nat),(0:Nat))⟩),(14,⟨.slice de,l⟩),(15,⟨i64,((l.length:Nat):Int)⟩),(16,⟨i64,(i:Int)⟩)],[(0,some (.hbox 105 [adV 0 true,⟨.obuf u8,(1:Nat)⟩])),(1,some (.buf 5 u8 (acc++(L++ [10]))))],3⟩) ⟨⟨rfl,rfl,rfl,rfl,rfl,trivial⟩,⟨rfl,rfl,trivial⟩,rfl,rfl⟩ ?_;refine za (za ?_);refine zaa hX za3 rfl ?_ ?_
   ·exact zaH (by omega)
   refine⟨(i+1,acc++(L++ [10])),⟨hlt,hR,?_⟩,by show l.length - (i+1) < l.length - i;omega,⟨rfl,rfl,rfl,rfl,zcz _,trivial⟩,⟨?_,rfl,trivial⟩,rfl,?_⟩
   ·show zd (acc++(L++ [10]):List UInt8)≤4001 * (i+1);rw[zh];omega
   ·rw[show decide (0 < (i+1,acc++(L++ [10])).1)=true from decide_eq_true (Nat.succ_pos _)];rfl
   ·rw[show decide (0 < (i+1,acc++(L++ [10])).1)=true from decide_eq_true (Nat.succ_pos _)];rfl
 ·have hb2:decide ((i:Int) < (l.length:Nat))=false:=hb;have hb2:=of_decide_eq_false hb2;obtain rfl:i=l.length:=by omega
  rw[j2,zj7]at hR;generalize decide (0 < l.length)=b;apply zad;refine zap (σ':=⟨[(4,⟨.hptr,((0:Nat),(0:Nat))⟩)],bdE b acc,2⟩) ⟨⟨rfl,trivial⟩,⟨rfl,rfl,trivial⟩,rfl,by cases b<;>rfl⟩ ?_;unfold bdE;cases b
  all_goals
   (repeat(first|apply zae|apply zac|apply zab|apply zad));refine zaj ?_;refine AL.own 0 hX za3 zq8 rfl trivial rfl rfl trivial hI ?_;refine zW hX za3 rfl trivial ?_;refine zai rfl (fun hc=>?_) (fun hc=>?_)
   ·have hc:decide (((acc.length:Nat):Int) > 1048576)=true:=hc;have hc:=of_decide_eq_true hc;(repeat(first|apply zae|apply zac|apply zal|apply zad|apply zab|refine zaa hX za3 rfl trivial ?_|refine zaa hX za3 rfl id ?_|refine zaa hX za3 rfl ⟨id,id⟩ ?_));refine zq ⟨.inr rfl,zba (by decide) rfl rfl trivial ?_⟩;show (([]:List UInt8),(2:Int),())=((zbh l).1,(zbh l).2,());rw[hR,if_pos (by omega)]
   ·have hc:decide (((acc.length:Nat):Int) > 1048576)=false:=hc;have hc:=of_decide_eq_false hc;apply zac;(repeat(first|apply zae|apply zac|apply zab|apply zad));refine zaj ?_;refine AL.give hX zmp rfl rfl rfl rfl rfl rfl rfl rfl rfl rfl rfl rfl trivial trivial hI rfl rfl ?_;show AL _ _ _ _ _ _ _ _;refine zW hX za3 rfl trivial ?_;refine zq ⟨.inr rfl,zba (by decide) rfl rfl trivial ?_⟩;show (acc,(0:Int),())=((zbh l).1,(zbh l).2,());rw[hR,if_neg (by omega)]
noncomputable def eqN (a b:Nd):Bool:=eqb nd a b
theorem zk6 {a b:Nd}:eqN a b=true↔a=b:=zbl
theorem zhi {a b:Nd}:eqN a b=false↔a≠b:=by rw[<-um,zk6]
noncomputable def zre:Ctr:={ args:=[nd,nd],pre:=fun _=>[],res:=.bool,own:=none,out:=fun x=>eqN x.1 x.2.1 }
theorem eqb_ne (x y:List UInt8):(!eqb .str x y)= !decide (x=y):=by rw[zdD]
theorem zpI:yM Tryz.prog gmH 49 zre:=by
 refine zar (K:=gmK) zak Tryz.func49 rfl rfl Tryz.call49 rfl (by decide) (by intro h;cases h) ?_;rintro w0 X hX ⟨(a:Nd),(b:Nd),_⟩ hp;change AWP _ _ _ _ _ ⟨[(0,⟨nd,a⟩),(1,⟨nd,b⟩)],[],0⟩ _;refine za (za ?_);refine zaa hX zak rfl ?_ ?_
 ·trivial
 refine za (za ?_);refine zaa hX zak rfl ?_ ?_
 ·repeat'(first|exact trivial|assumption|(refine⟨?_,?_⟩)|(intro _)|exact zf rfl|exact zu _|(simp_all [allP];done))
 obtain⟨a1,a2,a3,a4,a5,a6,(la:List Int),a8,⟨⟩⟩:=a;obtain⟨b1,b2,b3,b4,b5,b6,(lb:List Int),b8,⟨⟩⟩:=b;have ht:(bif (bif (bif (bif (bif (bif (bif a1 != b1 then true else a2 != b2) then true else a3 != b3) then true else a4 != b4) then true else a5 != b5) then true else a6 != b6) then true else !eqb .str a8 b8) then true else ((la.length:Nat):Int) != ((lb.length:Nat):Int))=true↔¬ (a1=b1∧a2=b2∧a3=b3∧a4=b4∧a5=b5∧a6=b6∧a8=b8∧la.length=lb.length):=by
  rw[eqb_ne];simp only[b_or,ya,bne_iff_ne,zy,decide_eq_false_iff_not];constructor
  ·rintro (((((((h|h)|h)|h)|h)|h)|h)|h) ⟨x1,x2,x3,x4,x5,x6,x7,x8⟩
   ·exact h x1
   ·exact h x2
   ·exact h x3
   ·exact h x4
   ·exact h x5
   ·exact h x6
   ·exact h x7
   ·exact h (by rw[x8])
  ·intro h;by_cases x1:a1=b1
   ·by_cases x2:a2=b2
    ·by_cases x3:a3=b3
     ·by_cases x4:a4=b4
      ·by_cases x5:a5=b5
       ·by_cases x6:a6=b6
        ·by_cases x7:a8=b8
         ·refine .inr fun e=>h ⟨x1,x2,x3,x4,x5,x6,x7,by omega⟩
         ·exact .inl (.inr x7)
        ·exact .inl (.inl (.inr x6))
       ·exact .inl (.inl (.inl (.inr x5)))
      ·exact .inl (.inl (.inl (.inl (.inr x4))))
     ·exact .inl (.inl (.inl (.inl (.inl (.inr x3)))))
    ·exact .inl (.inl (.inl (.inl (.inl (.inl (.inr x2))))))
   ·exact .inl (.inl (.inl (.inl (.inl (.inl (.inl x1))))))
 refine zai rfl (fun hb=>?_) (fun hb=>?_)
 ·have hb:=ht.1 hb;(repeat(first|apply zae|apply zac|apply zal|apply zad|apply zab|refine zaa hX zak rfl trivial ?_|refine zaa hX zak rfl id ?_|refine zaa hX zak rfl ⟨id,id⟩ ?_));refine zq ⟨.inr rfl,zay rfl trivial rfl rfl ?_⟩;refine (zhi.2 fun e=>hb ?_).symm;cases e;exact⟨rfl,rfl,rfl,rfl,rfl,rfl,rfl,rfl⟩
 ·have hb:¬ _:=fun h=>by rw[ht.2 h]at hb;cases hb
  obtain⟨rfl,rfl,rfl,rfl,rfl,rfl,rfl,hlen⟩:=Classical.not_not.1 hb;apply zac;refine za (za ?_);refine zaa hX zak rfl ?_ ?_
  ·trivial
  (repeat(first|apply zae|apply zac|apply zab|apply zad));refine zap (σ':=⟨[(2,⟨.optr nd,⟨0,nd,.here⟩⟩),(3,⟨.optr nd,⟨1,nd,.here⟩⟩),(5,⟨i64,(0:Int)⟩)],[(0,some (.box nd (a1,a2,a3,a4,a5,a6,la,a8,()))),(1,some (.box nd (a1,a2,a3,a4,a5,a6,lb,a8,())))],2⟩) ⟨⟨rfl,rfl,rfl,trivial⟩,⟨rfl,rfl,trivial⟩,rfl,rfl⟩ ?_;refine yB (ι:=Nat) (fun k=>⟨[(2,⟨.optr nd,⟨0,nd,.here⟩⟩),(3,⟨.optr nd,⟨1,nd,.here⟩⟩),(5,⟨i64,(k:Int)⟩)],[(0,some (.box nd (a1,a2,a3,a4,a5,a6,la,a8,()))),(1,some (.box nd (a1,a2,a3,a4,a5,a6,lb,a8,())))],2⟩) (fun k=>k≤la.length∧la.take k=lb.take k) (fun k=>la.length - k) 0 ⟨zl _,rfl⟩ ⟨⟨rfl,rfl,rfl,trivial⟩,⟨rfl,rfl,trivial⟩,rfl,rfl⟩ ?_;rintro k ⟨hk,he⟩;refine za (za ?_);refine zaa hX zak rfl ?_ ?_
  ·trivial
  refine jU 64 rfl fun hl=>?_;have hl:la.length≤maxLen:=hl;unfold maxLen at hl;refine zai rfl (fun hb=>?_) (fun hb=>?_)
  ·have hb:decide ((k:Int) < ((la.length:Nat):Int))=true:=hb;have hb:=of_decide_eq_true hb;have hlt:k < la.length:=by omega
   have hlt2:k < lb.length:=by omega
   have z0:(0:Int)≤(k:Int):=by omega
   have z1:(k:Int) < ((la.length:Nat):Int):=by omega
   have z2:(k:Int) < ((lb.length:Nat):Int):=by omega
   have g1:la.getD (k:Int).toNat (0:Int)=la[k]:=zaM hlt;have g2:lb.getD (k:Int).toNat (0:Int)=lb[k]:=zaM hlt2;(repeat(first|apply zae|apply zac|apply zab|apply zad));refine AWP.draw dM hX zak 11 (by kernel_rfl) rfl rfl ?_ ?_ ?_
   ·repeat'(first|exact trivial|assumption|exact z0|exact z1|exact z2|(refine⟨?_,?_⟩)|(intro _)|exact zf rfl|exact zu _|(simp_all [allP];done))
   ·trivial
   refine zai rfl (fun hc=>?_) (fun hc=>?_)
   ·have hc:(la.getD (k:Int).toNat (0:Int) != lb.getD (k:Int).toNat (0:Int))=true:=hc;rw[g1,g2]at hc;have hc:=bne_iff_ne.1 hc;(repeat(first|apply zae|apply zac|apply zal|apply zad|apply zab|refine zaa hX zak rfl trivial ?_|refine zaa hX zak rfl id ?_|refine zaa hX zak rfl ⟨id,id⟩ ?_));refine zq ⟨.inr rfl,zay rfl trivial rfl rfl ?_⟩;refine (zhi.2 fun e=>hc ?_).symm;have e:la=lb:=congrArg ndI e;subst e;rfl
   ·have hc:(la.getD (k:Int).toNat (0:Int) != lb.getD (k:Int).toNat (0:Int))=false:=hc;rw[g1,g2]at hc;have hc:=bne_eq_false_iff_eq.1 hc;apply zac;refine za (za ?_);refine zaa hX zak rfl ?_ ?_
    ·exact zaH (by omega)
    refine⟨k+1,⟨hlt,?_⟩,by omega,⟨rfl,rfl,zcz _,trivial⟩,⟨rfl,rfl,trivial⟩,rfl,rfl⟩;rw[zH hlt,zH hlt2,he,hc]
  ·have hb:decide ((k:Int) < ((la.length:Nat):Int))=false:=hb;have hb:=of_decide_eq_false hb;obtain rfl:k=la.length:=by omega
   (repeat(first|apply zae|apply zac|apply zal|apply zad|apply zab|refine zaa hX zak rfl trivial ?_|refine zaa hX zak rfl id ?_|refine zaa hX zak rfl ⟨id,id⟩ ?_));refine zq ⟨.inr rfl,zay rfl trivial rfl rfl ?_⟩;refine (zk6.2 ?_).symm;rw[xc,hlen,xc]at he;rw[he]
noncomputable def znK (a b:List Nd):Bool:=eqb (.slice nd) a b
theorem zgG {a b:List Nd}:znK a b=true↔a=b:=zbl
theorem zgH {a b:List Nd}:znK a b=false↔a≠b:=by rw[<-um,zgG]
noncomputable def cSame:Ctr:={ args:=[.slice nd,.slice nd],pre:=fun _=>[],res:=.bool,own:=none,out:=fun x=>znK x.1 x.2.1 }
noncomputable def kSame:Kn:={ gmK with C:=[(49,zre)] }
theorem zbw:KnOk Tryz.prog gmH kSame:=zak.with (.cons zpI .nil)
theorem zrM:yM Tryz.prog gmH 18 cSame:=by
 refine zar (K:=kSame) zbw Tryz.func18 rfl rfl Tryz.call18 rfl (by decide) (by intro h;cases h) ?_;rintro w0 X hX ⟨(la:List Nd),(lb:List Nd),_⟩ hp;change AWP _ _ _ _ _ ⟨[(0,⟨.slice nd,la⟩),(1,⟨.slice nd,lb⟩)],[],0⟩ _;refine jU 0 rfl fun hl=>?_;unfold maxLen at hl;refine za (za ?_);refine zaa hX zbw rfl ?_ ?_
 ·trivial
 refine za (za ?_);refine zaa hX zbw rfl ?_ ?_
 ·trivial
 refine zai rfl (fun hb=>?_) (fun hb=>?_)
 ·have hb:(((la.length:Nat):Int) != ((lb.length:Nat):Int))=true:=hb;have hb:=bne_iff_ne.1 hb;(repeat(first|apply zae|apply zac|apply zal|apply zad|apply zab|refine zaa hX zbw rfl trivial ?_|refine zaa hX zbw rfl id ?_|refine zaa hX zbw rfl ⟨id,id⟩ ?_));refine zq ⟨.inr rfl,zay rfl trivial rfl rfl ?_⟩;exact (zgH.2 fun e=>hb (by have e:la=lb:=e;rw[e])).symm
 have hb:(((la.length:Nat):Int) != ((lb.length:Nat):Int))=false:=hb;have hb:=bne_eq_false_iff_eq.1 hb;have hlen:la.length=lb.length:=by omega
 apply zac;refine za (za ?_);refine zaa hX zbw rfl ?_ ?_
 ·trivial
 (repeat(first|apply zae|apply zac|apply zab|apply zad));refine yB (ι:=Nat) (fun k=>⟨[(0,⟨.slice nd,la⟩),(1,⟨.slice nd,lb⟩),(5,⟨i64,(k:Int)⟩)],[],0⟩) (fun k=>k≤la.length∧la.take k=lb.take k) (fun k=>la.length - k) 0 ⟨zl _,rfl⟩ ⟨⟨rfl,rfl,rfl,trivial⟩,trivial,rfl,rfl⟩ ?_;rintro k ⟨hk,he⟩;refine za (za ?_);refine zaa hX zbw rfl ?_ ?_
 ·trivial
 refine zai rfl (fun hb=>?_) (fun hb=>?_)
 ·have hb:decide ((k:Int) < ((la.length:Nat):Int))=true:=hb;have hb:=of_decide_eq_true hb;have hlt:k < la.length:=by omega
  have hlt2:k < lb.length:=by omega
  have z0:(0:Int)≤(k:Int):=by omega
  have z1:(k:Int) < ((la.length:Nat):Int):=by omega
  have z2:(k:Int) < ((lb.length:Nat):Int):=by omega
  have g1:la.getD (k:Int).toNat zNd=la[k]:=zaM hlt;have g2:lb.getD (k:Int).toNat zNd=lb[k]:=zaM hlt2;(repeat(first|apply zae|apply zac|apply zab|apply zad));refine AWP.draw dM hX zbw 10 (by kernel_rfl) rfl rfl ?_ ?_ ?_
  ·repeat'(first|exact trivial|assumption|exact z0|exact z1|exact z2|(refine⟨?_,?_⟩)|(intro _)|exact zf rfl|exact zu _|(simp_all [allP];done))
  ·trivial
  refine zai rfl (fun hc=>?_) (fun hc=>?_)
  ·have hc:(!eqN (la.getD (k:Int).toNat zNd) (lb.getD (k:Int).toNat zNd))=true:=hc;rw[g1,g2,zy]at hc;have hc:=zhi.1 hc;(repeat(first|apply zae|apply zac|apply zal|apply zad|apply zab|refine zaa hX zbw rfl trivial ?_|refine zaa hX zbw rfl id ?_|refine zaa hX zbw rfl ⟨id,id⟩ ?_));refine zq ⟨.inr rfl,zay rfl trivial rfl rfl ?_⟩;refine (zgH.2 fun e=>hc ?_).symm;have e:la=lb:=e;subst e;rfl
  ·have hc:(!eqN (la.getD (k:Int).toNat zNd) (lb.getD (k:Int).toNat zNd))=false:=hc;rw[g1,g2,y8]at hc;have hc:=zk6.1 hc;apply zac;refine za (za ?_);refine zaa hX zbw rfl ?_ ?_
   ·exact zaH (by omega)
   refine⟨k+1,⟨hlt,?_⟩,by omega,⟨rfl,rfl,zcz _,trivial⟩,trivial,rfl,rfl⟩;rw[zH hlt,zH hlt2,he,hc]
 ·have hb:decide ((k:Int) < ((la.length:Nat):Int))=false:=hb;have hb:=of_decide_eq_false hb;obtain rfl:k=la.length:=by omega
  (repeat(first|apply zae|apply zac|apply zal|apply zad|apply zab|refine zaa hX zbw rfl trivial ?_|refine zaa hX zbw rfl id ?_|refine zaa hX zbw rfl ⟨id,id⟩ ?_));refine zq ⟨.inr rfl,zay rfl trivial rfl rfl ?_⟩;refine (zgG.2 ?_).symm;rw[xc,hlen,xc]at he;exact he
abbrev strs:Ty:=.slice .str
theorem zm5 {a b:List UInt8}:eqb .str a b=(a==b):=by
 rw[yz,beq_iff_eq];exact zbl
def cIdxS:Ctr:={ args:=[strs,.str],pre:=fun _=>[],res:=i64,own:=none,out:=fun x=>idx (fun y=>x.2.1==y) x.1 }
theorem zsf:yM Tryz.prog gmH 117 cIdxS:=by
 refine zar (K:=gmK) zak Tryz.func117 rfl rfl Tryz.call117 rfl (by decide) (by intro h;cases h) ?_;rintro w0 X hX ⟨(l:List (List UInt8)),(x:List UInt8),_⟩ hp;change AWP _ _ _ _ _ ⟨[(0,⟨strs,l⟩),(1,⟨.str,x⟩)],[],0⟩ _;refine jU 0 rfl fun hl=>?_;unfold maxLen at hl;(repeat(first|apply zae|apply zac|apply zal|apply zad|apply zab|refine zaa hX zak rfl trivial ?_|refine zaa hX zak rfl id ?_|refine zaa hX zak rfl ⟨id,id⟩ ?_));refine yB (ι:=Nat) (fun k=>⟨[(0,⟨strs,l⟩),(1,⟨.str,x⟩),(7,⟨i64,((l.length:Nat):Int)⟩),(8,⟨i64,(k:Int)⟩)],[],0⟩) (fun k=>k≤l.length∧∀ j (hj:j < l.length),j < k->(x==l[j])=false) (fun k=>l.length - k) 0 ⟨by omega,by omega⟩ ⟨⟨rfl,rfl,rfl,rfl,trivial⟩,trivial,rfl,rfl⟩ ?_;rintro k ⟨hk,hn⟩;refine za (za ?_);refine zaa hX zak rfl ?_ ?_
 ·trivial
 apply zae;refine zai rfl (fun hb=>?_) (fun hb=>?_)
 ·have hb:decide ((k:Int) < (l.length:Nat))=true:=hb;have hb:=of_decide_eq_true hb;have hlt:k < l.length:=by omega
  have n0:(0:Int)≤(k:Int):=by omega
  refine za (za ?_);refine zaa hX zak rfl ?_ ?_
  ·trivial
  refine za (za ?_);refine zaa hX zak rfl ?_ ?_
  ·exact⟨n0,hb⟩
  refine zai rfl (fun hb=>?_) (fun hb=>?_)
  ·have hc:eqb .str x (l.getD (k:Int).toNat [])=true:=hb;rw[zm5,zaM hlt]at hc;(repeat(first|apply zae|apply zac|apply zal|apply zad|apply zab|refine zaa hX zak rfl trivial ?_|refine zaa hX zak rfl id ?_|refine zaa hX zak rfl ⟨id,id⟩ ?_));refine zq ⟨.inr rfl,zay rfl trivial rfl rfl ?_⟩;show (k:Int)=idx _ l;exact (ziM hlt hc fun j hj=>hn j _ hj).symm
  ·have hc:eqb .str x (l.getD (k:Int).toNat [])=false:=hb;rw[zm5,zaM hlt]at hc;refine za (za ?_);refine zaa hX zak rfl ?_ ?_
   ·exact zaH (by omega)
   exact⟨k+1,⟨by omega,fun j hj hlt=>by
    by_cases e:j=k
    ·subst e;exact hc
    ·exact hn j hj (by omega)⟩,by omega,⟨rfl,rfl,rfl,zcz _,trivial⟩,trivial,rfl,rfl⟩
 ·have hb:decide ((k:Int) < (l.length:Nat))=false:=hb;have hb:=of_decide_eq_false hb;have:k=l.length:=by omega
  subst this;(repeat(first|apply zae|apply zac|apply zal|apply zad|apply zab|refine zaa hX zak rfl trivial ?_|refine zaa hX zak rfl id ?_|refine zaa hX zak rfl ⟨id,id⟩ ?_));refine zq ⟨.inr rfl,zay rfl trivial rfl rfl ?_⟩;show (-1:Int)=idx _ l;exact (ziN fun j hj=>hn j hj hj).symm
def zqQ:Ctr:={ args:=[strs,.str],pre:=fun _=>[],res:=.bool,own:=none,out:=fun x=>List.contains x.1 x.2.1 }
def kIxS:Kn:={ gmK with C:=[(117,cIdxS)] }
theorem ziI:KnOk Tryz.prog gmH kIxS:=zak.with (.cons zsf .nil)
theorem zs1 (l:List (List UInt8)) (x:List UInt8):l.any (fun y=>x==y)=l.contains x:=by
 rw[yz,jz,qB];constructor
 ·rintro ⟨y,hy,e⟩;rw[beq_iff_eq.1 e];exact hy
 ·exact fun h=>⟨x,h,beq_iff_eq.2 rfl⟩
theorem zsj:yM Tryz.prog gmH 69 zqQ:=by
 refine zar (K:=kIxS) ziI Tryz.func69 rfl rfl Tryz.call69 rfl (by decide) (by intro h;cases h) ?_;rintro w0 X hX ⟨(l:List (List UInt8)),(x:List UInt8),_⟩ hp;change AWP _ _ _ _ _ ⟨[(0,⟨strs,l⟩),(1,⟨.str,x⟩)],[],0⟩ _;(repeat(first|apply zae|apply zac|apply zal|apply zad|apply zab|refine zaa hX ziI rfl trivial ?_|refine zaa hX ziI rfl id ?_|refine zaa hX ziI rfl ⟨id,id⟩ ?_));refine zq ⟨.inr rfl,zay rfl trivial rfl rfl ?_⟩;show decide (idx (fun y=>x==y) l≥0)=l.contains x;rw[zkY,zs1]
def zrg:Ctr:={ args:=[.slice nd],pre:=fun x=>[zd x.1≤100000],res:=strs,own:=none,out:=fun x=>zc7 x.1 }
def kNam:Kn:={ gmK with C:=[(69,zqQ)] }
theorem zc9:KnOk Tryz.prog gmH kNam:=zak.with (.cons zsj .nil)
theorem zqV (out:List (List UInt8)) (n:Nd):(addN out n).length≤out.length+1:=by
 unfold addN;split
 ·rw[zh];exact zk _
 ·omega
theorem bufNm {te:zo} {x y:List (List UInt8)} (h:x=y):some (OObj.buf te .str x)=some (OObj.buf te .str y):=by rw[h]
theorem zp4:yM Tryz.prog gmH 31 zrg:=by
 refine zar (K:=kNam) zc9 Tryz.func31 rfl rfl Tryz.call31 rfl (by decide) (by intro h;cases h) ?_;rintro w0 X hX ⟨(r:List Nd),_⟩ hp;change AWP _ _ _ _ _ ⟨[(0,⟨.slice nd,r⟩)],[],0⟩ _;have hl:r.length≤100000:=hp;refine za (za ?_);refine zaa hX zc9 rfl ?_ ?_
 ·trivial
 refine za (za ?_);refine zaa hX zc9 rfl ?_ ?_
 ·trivial
 refine AWP.nilBuf hX 3 9 .str rfl rfl rfl ?_;refine za (za ?_);refine zaa hX zc9 rfl ?_ ?_
 ·trivial
 (repeat(first|apply zae|apply zac|apply zab|apply zad));refine yB (ι:=Nat) (fun i=>⟨[(3,⟨.obuf .str,(0:Nat)⟩),(6,⟨.slice nd,r⟩),(7,⟨i64,((r.length:Nat):Int)⟩),(8,⟨i64,(i:Int)⟩)],[(0,some (.buf 9 .str (zc7 (r.take i))))],1⟩) (fun i=>i≤r.length∧(zc7 (r.take i)).length≤i) (fun i=>r.length - i) 0 ⟨zl _,zl _⟩ ⟨⟨rfl,rfl,rfl,rfl,trivial⟩,⟨rfl,trivial⟩,rfl,rfl⟩ ?_;rintro i ⟨hi,hnl⟩;refine za (za ?_);refine zaa hX zc9 rfl ?_ ?_
 ·trivial
 apply zae;refine zai rfl (fun hb=>?_) (fun hb=>?_)
 ·have hb:decide ((i:Int) < (r.length:Nat))=true:=hb;have hb:=of_decide_eq_true hb;have hlt:i < r.length:=by omega
  have n0:(0:Int)≤(i:Int):=by omega
  have hsucc:zc7 (r.take (i+1))=addN (zc7 (r.take i)) (r.getD ((i:Int)).toNat zNd):=by
   unfold zc7;rw[zH hlt,List.foldl_append,zaM hlt];rfl
  have hln:=zqV (zc7 (r.take i)) (r.getD ((i:Int)).toNat zNd);refine za (za ?_);refine zaa hX zc9 rfl ?_ ?_
  ·exact⟨n0,hb⟩
  refine zap (σ':=⟨[(3,⟨.obuf .str,(0:Nat)⟩),(6,⟨.slice nd,r⟩),(7,⟨i64,((r.length:Nat):Int)⟩),(8,⟨i64,(i:Int)⟩),(5,⟨.optr nd,⟨1,nd,.here⟩⟩)],[(0,some (.buf 9 .str (zc7 (r.take i)))),(1,some (.box nd (r.getD ((i:Int)).toNat zNd)))],2⟩) ⟨⟨rfl,rfl,rfl,rfl,rfl,trivial⟩,⟨rfl,rfl,trivial⟩,rfl,rfl⟩ ?_;generalize r.getD ((i:Int)).toNat zNd=m at *;generalize zc7 (r.take i)=out at *;refine za (za ?_);refine zaa hX zc9 rfl ?_ ?_
  ·repeat'(first|exact trivial|assumption|(refine⟨?_,?_⟩)|(intro _)|exact zf rfl|exact zu _|(simp_all [allP];done))
  have hq:(bif ndK m==18 then !out.contains (ndS m) else false)=((ndK m==18)&& !out.contains (ndS m)):=zdk _ _;have hlen:out.length+1≤1000000000:=by omega
  refine zai rfl (fun hc=>?_) (fun hc=>?_)
  ·have hc:=hq.symm.trans hc;refine za (za ?_);refine zaa hX zc9 rfl ?_ ?_
   ·exact hlen
   refine za (za ?_);refine zaa hX zc9 rfl ?_ ?_
   ·exact zaH (by omega)
   refine⟨i+1,⟨hlt,by rw[hsucc];omega⟩,by omega,⟨rfl,rfl,rfl,zcz _,trivial⟩,⟨bufNm ?_,trivial⟩,rfl,rfl⟩;rw[hsucc];unfold addN;rw[if_pos hc];rfl
  ·have hc:=hq.symm.trans hc;refine za (za ?_);refine zaa hX zc9 rfl ?_ ?_
   ·exact zaH (by omega)
   refine⟨i+1,⟨hlt,by rw[hsucc];omega⟩,by omega,⟨rfl,rfl,rfl,zcz _,trivial⟩,⟨bufNm ?_,trivial⟩,rfl,rfl⟩;rw[hsucc];unfold addN;rw[if_neg (by rw[hc];decide)]
 ·have hb:decide ((i:Int) < (r.length:Nat))=false:=hb;have hb:=of_decide_eq_false hb;obtain rfl:i=r.length:=by omega
  apply zad;refine za (za ?_);refine zaa hX zc9 rfl ?_ ?_
  ·trivial
  refine jw hX 2 ?_;refine zq ⟨.inr rfl,zay rfl trivial rfl rfl ?_⟩;show zc7 (r.take r.length)=zc7 r;rw[xc]
theorem zn8:yM Tryz.prog gmH 32 zqQ:=by
 refine zar (K:=gmK) zak Tryz.func32 rfl rfl Tryz.call32 rfl (by decide) (by intro h;cases h) ?_;rintro w0 X hX ⟨(l:List (List UInt8)),(x:List UInt8),_⟩ hp;change AWP _ _ _ _ _ ⟨[(0,⟨strs,l⟩),(1,⟨.str,x⟩)],[],0⟩ _;refine jU 0 rfl fun hl=>?_;unfold maxLen at hl;refine za (za ?_);refine zaa hX zak rfl ?_ ?_
 ·trivial
 refine za (za ?_);refine zaa hX zak rfl ?_ ?_
 ·trivial
 (repeat(first|apply zae|apply zac|apply zab|apply zad));refine yB (ι:=Nat) (fun k=>⟨[(0,⟨strs,l⟩),(1,⟨.str,x⟩),(5,⟨i64,(k:Int)⟩)],[],0⟩) (fun k=>k≤l.length∧∀ j (hj:j < l.length),j < k->(l[j]==x)=false) (fun k=>l.length - k) 0 ⟨by omega,by omega⟩ ⟨⟨rfl,rfl,rfl,trivial⟩,trivial,rfl,rfl⟩ ?_;rintro k ⟨hk,hn⟩;refine za (za ?_);refine zaa hX zak rfl ?_ ?_
 ·trivial
 refine zai rfl (fun hb=>?_) (fun hb=>?_)
 ·have hb:decide ((k:Int) < (l.length:Nat))=true:=hb;have hb:=of_decide_eq_true hb;have hlt:k < l.length:=by omega
  have n0:(0:Int)≤(k:Int):=by omega
  refine za (za ?_);refine zaa hX zak rfl ?_ ?_
  ·exact⟨n0,hb⟩
  refine zai rfl (fun hb=>?_) (fun hb=>?_)
  ·have hc:eqb .str (l.getD (k:Int).toNat []) x=true:=hb;rw[zm5,zaM hlt]at hc;(repeat(first|apply zae|apply zac|apply zal|apply zad|apply zab|refine zaa hX zak rfl trivial ?_|refine zaa hX zak rfl id ?_|refine zaa hX zak rfl ⟨id,id⟩ ?_));refine zq ⟨.inr rfl,zay rfl trivial rfl rfl ?_⟩;show true=l.contains x;exact (qB.2 (beq_iff_eq.1 hc▸xv hlt)).symm
  ·have hc:eqb .str (l.getD (k:Int).toNat []) x=false:=hb;rw[zm5,zaM hlt]at hc;refine za (za ?_);refine zaa hX zak rfl ?_ ?_
   ·exact zaH (by omega)
   exact⟨k+1,⟨by omega,fun j hj hlt=>by
    by_cases e:j=k
    ·subst e;exact hc
    ·exact hn j hj (by omega)⟩,by omega,⟨rfl,rfl,zcz _,trivial⟩,trivial,rfl,rfl⟩
 ·have hb:decide ((k:Int) < (l.length:Nat))=false:=hb;have hb:=of_decide_eq_false hb;have:k=l.length:=by omega
  subst this;(repeat(first|apply zae|apply zac|apply zal|apply zad|apply zab|refine zaa hX zak rfl trivial ?_|refine zaa hX zak rfl id ?_|refine zaa hX zak rfl ⟨id,id⟩ ?_));refine zq ⟨.inr rfl,zay rfl trivial rfl rfl ?_⟩;show false=l.contains x;refine (qf.2 fun h=>?_).symm;obtain⟨j,hj,e⟩:=List.mem_iff_getElem.1 (qB.1 h);have:=hn j hj hj;rw[e,beq_self_eq_true]at this;cases this
def subS (s part:List UInt8):Bool:=(List.range (s.length+1 - part.length)).any fun i=>((s.drop i).take part.length)==part
def cSubS:Ctr:={ args:=[.str,.str],pre:=fun x=>[zd x.1≤1000000,zd x.2.1≤1000000],res:=.bool,own:=none,out:=fun x=>subS x.1 x.2.1 }
theorem zk8:yM Tryz.prog gmH 33 cSubS:=by
 refine zar (K:=gmK) zak Tryz.func33 rfl rfl Tryz.call33 rfl (by decide) (by intro h;cases h) ?_;rintro w0 X hX ⟨(s:List UInt8),(p:List UInt8),_⟩ hp;obtain⟨hs,hpl⟩:s.length≤1000000∧p.length≤1000000:=hp;change AWP _ _ _ _ _ ⟨[(0,⟨.str,s⟩),(1,⟨.str,p⟩)],[],0⟩ _;refine za (za ?_);refine zaa hX zak rfl ?_ ?_
 ·trivial
 refine za (za ?_);refine zaa hX zak rfl ?_ ?_
 ·trivial
 (repeat(first|apply zae|apply zac|apply zab|apply zad));refine yB (ι:=Nat) (fun k=>⟨[(0,⟨.str,s⟩),(1,⟨.str,p⟩),(5,⟨i64,(k:Int)⟩)],[],0⟩) (fun k=>k≤s.length+1∧∀ j,j < k->j+p.length≤s.length∧(((s.drop j).take p.length)==p)=false) (fun k=>s.length+1 - k) 0 ⟨by omega,fun j hj=>by omega⟩ ⟨⟨rfl,rfl,rfl,trivial⟩,trivial,rfl,rfl⟩ ?_;rintro k ⟨hk,hn⟩;have q0:inR .i64 ((k:Int)+((p.length:Nat):Int)):=zav (by omega) (by omega);refine za (za ?_);refine zaa hX zak rfl ?_ ?_
 ·exact q0
 refine zai rfl (fun hb=>?_) (fun hb=>?_)
 ·have hb:decide ((k:Int)+((p.length:Nat):Int)≤((s.length:Nat):Int))=true:=hb;have hb:=of_decide_eq_true hb;have hle:k+p.length≤s.length:=by omega
  have n0:(0:Int)≤(k:Int):=by omega
  have n1:(k:Int)≤(k:Int)+((p.length:Nat):Int):=by omega
  refine za (za ?_);refine zaa hX zak rfl ?_ ?_
  ·exact⟨q0,n0,n1,hb⟩
  have hcut:(s.take ((k:Int)+((p.length:Nat):Int)).toNat).drop ((k:Int)).toNat=(s.drop k).take p.length:=by
   rw[show ((k:Int)+((p.length:Nat):Int)).toNat=k+p.length by omega,zL,List.drop_take,Nat.add_sub_cancel_left]
  refine zai rfl (fun hc=>?_) (fun hc=>?_)
  ·have hc:eqb .str ((s.take ((k:Int)+((p.length:Nat):Int)).toNat).drop ((k:Int)).toNat) p=true:=hc;rw[zm5,hcut]at hc;(repeat(first|apply zae|apply zac|apply zal|apply zad|apply zab|refine zaa hX zak rfl trivial ?_|refine zaa hX zak rfl id ?_|refine zaa hX zak rfl ⟨id,id⟩ ?_));refine zq ⟨.inr rfl,zay rfl trivial rfl rfl ?_⟩;show true=subS s p;exact (jz.2 ⟨k,yk.2 (by omega),hc⟩).symm
  ·have hc:eqb .str ((s.take ((k:Int)+((p.length:Nat):Int)).toNat).drop ((k:Int)).toNat) p=false:=hc;rw[zm5,hcut]at hc;refine za (za ?_);refine zaa hX zak rfl ?_ ?_
   ·exact zav (by omega) (by omega)
   exact⟨k+1,⟨by omega,fun j hj=>by
    by_cases e:j=k
    ·rw[e];exact⟨hle,hc⟩
    ·exact hn j (by omega)⟩,by omega,⟨rfl,rfl,zcz _,trivial⟩,trivial,rfl,rfl⟩
 ·have hb:decide ((k:Int)+((p.length:Nat):Int)≤((s.length:Nat):Int))=false:=hb;have hb:=of_decide_eq_false hb;(repeat(first|apply zae|apply zac|apply zal|apply zad|apply zab|refine zaa hX zak rfl trivial ?_|refine zaa hX zak rfl id ?_|refine zaa hX zak rfl ⟨id,id⟩ ?_));refine zq ⟨.inr rfl,zay rfl trivial rfl rfl ?_⟩;show false=subS s p;refine (List.any_eq_false.2 fun j hj=>?_).symm;have hj:=yk.1 hj;rw[(hn j (by omega)).2];decide
def zo3:Ctr:={ args:=[],pre:=fun _=>[],res:=ints,own:=none,out:=fun _=>znz }
theorem znA:yM Tryz.prog gmH 126 zo3:=by
 refine zar (K:=gmK) zak Tryz.func126 rfl rfl Tryz.call126 rfl (by decide) (by intro h;cases h) ?_;rintro w0 X hX _ hp;change AWP _ _ _ _ _ ⟨[],[],0⟩ _;refine za (za ?_);refine zaa hX zak rfl ?_ ?_
 ·trivial
 refine za (za ?_);refine zaa hX zak rfl ?_ ?_
 ·trivial
 refine jw hX 0 ?_;refine zq ⟨.inr rfl,zay rfl trivial rfl rfl ?_⟩;rfl
def kKn2:Kn:={ gmK with C:=[(126,zo3)],H:=[63] }
theorem zb3:KnOk Tryz.prog gmH kKn2:=⟨zgb,zga,.cons znA .nil,zha,RsOk.nil⟩
theorem zmU (x:Option Addr) (y z:Nat):Tryz.prog.built 63 [(0,.int .i64 227021),(1,.slice x y z),(2,.int .i64 11)]=some #[.int .i64 227021,.slice x y z,.int .i64 11,.slice none 0 0]:=by kernel_rfl
set_option maxHeartbeats 1000000 in
theorem zoy:yM Tryz.prog gmH 75 zid:=by
 refine zar (K:=kKn2) zb3 Tryz.func75 rfl rfl Tryz.call75 rfl (by decide) (by intro h;cases h) ?_;rintro w0 X hX ⟨(k:Int),_⟩ hp;obtain⟨h0,h1⟩:0≤k∧k≤2:=by
  simp only[zid,allP]at hp
  simpa using hp
 change AWP _ _ _ _ _ ⟨[(0,⟨i64,k⟩)],[],0⟩ _;refine za (za ?_);refine zaa hX zb3 rfl ?_ ?_
 ·trivial
 refine za (za ?_);refine zaa hX zb3 rfl ?_ ?_
 ·trivial
 apply zab;refine za (za ?_);refine zaa hX zb3 rfl ?_ ?_
 ·trivial
 refine zai rfl (fun hb=>?_) (fun hb=>?_)
 ·have hb:(k==0)=true:=hb;obtain rfl:=beq_iff_eq.1 hb;refine za (za ?_);refine zaa hX zb3 rfl ?_ ?_
  ·trivial
  refine zq ⟨.inr rfl,zba (by decide) rfl rfl trivial ?_⟩;rfl
 have hb:(k==0)=false:=hb;have hk0:k≠0:=fun e=>by rw[e]at hb;cases hb
 refine za (za ?_);refine zaa hX zb3 rfl ?_ ?_
 ·trivial
 refine zai rfl (fun hb=>?_) (fun hb=>?_)
 ·have hb:(k==1)=true:=hb;obtain rfl:=beq_iff_eq.1 hb;refine za (za ?_);refine zaa hX zb3 rfl ?_ ?_
  ·trivial
  refine zq ⟨.inr rfl,zba (by decide) rfl rfl trivial ?_⟩;rfl
 have hb:(k==1)=false:=hb;have hk1:k≠1:=fun e=>by rw[e]at hb;cases hb
 refine za (za ?_);refine zaa hX zb3 rfl ?_ ?_
 ·trivial
 refine zai rfl (fun hb=>?_) (fun hb=>?_)
 ·have hb:(k==2)=true:=hb;obtain rfl:=beq_iff_eq.1 hb;(repeat(first|apply zae|apply zac|apply zab|apply zad));refine zaj ?_;refine AL.take 1 hX zb3 rfl trivial ?_;refine AL.hand rfl (by intro c e;cases e) fun β a w hs=>?_;have hu:a.tmps.getD 24 undef=β 1:=hs.fr 24;obtain⟨x,y,z,hxyz⟩:∃ x y z,β 1= .slice x y z:=by
   obtain⟨cs,_,hro,_⟩:=hs.own 1 _ rfl;rcases hro.2 with ⟨e,_⟩|⟨g,cap,cur,e,_⟩
   ·exact⟨_,_,_,e⟩
   ·exact⟨_,_,_,e⟩
  rw[hxyz]at hu;refine zkx (v:=⟨.hcons i64 (.hcons (.obuf i64) (.hcons i64 (.hcons .lit .unit))),((227021:Int),(1:Nat),(11:Int),Value.slice none 0 0,())⟩) rfl rfl (by decide) (N:=fun σ'=>AL _ w0 _ _ _ _ σ' _) ?_ hs (u:=.agg #[.int .i64 227021,.slice x y z,.int .i64 11,.slice none 0 0]) ?_ ?_
  rotate_left
  ·unfold execOp;refine zdX ?_;rw[show (#[(0,vY (yl .i64 227021)),(1,Operand.tmp 24),(2,vY (yl .i64 11))]:Array (Nat×Operand)).map (fun p=>(p.1,a.eval p.2))= #[(0,yl .i64 227021),(1,Value.slice x y z),(2,yl .i64 11)] from by
    have e:a.eval (.tmp 24)= .slice x y z:=hu;simp[e];exact⟨rfl,rfl⟩]
   exact run_build w _ _ _ (zmU x y z)
  ·refine⟨_,[.slice x y z,.int .i64 11,.slice none 0 0],rfl,rfl,(RepD.scalar (t:=.int .i64) rfl).2 rfl,?_⟩;refine⟨_,[.int .i64 11,.slice none 0 0],rfl,rfl,hxyz.symm,?_⟩;refine⟨_,[.slice none 0 0],rfl,rfl,(RepD.scalar (t:=.int .i64) rfl).2 rfl,?_⟩;refine⟨_,[],rfl,rfl,rfl,?_⟩;exact (RepD.agg rfl).2 ⟨[],rfl,rfl⟩
  refine zW hX zb3 rfl trivial ?_;refine AWP.nilLeaf 2 3 129 lru rfl rfl rfl ?_;refine za (za ?_);refine zaa hX zb3 rfl ?_ ?_
  ·trivial
  refine jw hX 5 ?_;refine za (za ?_);refine zaa hX zb3 rfl ?_ ?_
  ·trivial
  (repeat(first|apply zae|apply zac|apply zab|apply zad));refine yB (ι:=Nat) (fun j=>⟨[(2,⟨.hptr,((0:Nat),(0:Nat))⟩),(4,⟨.hptr,((2:Nat),(0:Nat))⟩),(5,⟨ints,zcK⟩),(6,⟨i64,(j:Int)⟩)],[(0,some (.hbox 63 [⟨i64,(0:Int)⟩,⟨.lit,.slice none 0 0⟩,⟨i64,(0:Int)⟩,⟨.lit,.slice none 0 0⟩])),(1,some (.buf 3 i64 zf6)),(2,some (.hbox 63 [⟨i64,(227021:Int)⟩,⟨.obuf i64,(1:Nat)⟩,⟨i64,(11:Int)⟩,⟨.obuf lru,(3:Nat)⟩])),(3,some (.buf 129 lru ((zcK.take j).map fun x=>(30,x,true,()))))],4⟩) (fun j=>j≤11) (fun j=>11 - j) 0 (zl _) ⟨⟨rfl,rfl,rfl,rfl,trivial⟩,⟨rfl,rfl,rfl,rfl,trivial⟩,rfl,rfl⟩ ?_;intro j hj;refine za (za ?_);refine zaa hX zb3 rfl ?_ ?_
  ·trivial
  refine zai rfl (fun hb=>?_) (fun hb=>?_)
  ·have hb:decide ((j:Int) < ((zcK.length:Nat):Int))=true:=hb;have hb:=of_decide_eq_true hb;have hlt:j < zcK.length:=by omega
   have z0:(0:Int)≤(j:Int):=by omega
   have hl:((zcK.take j).map fun x=>((30,x,true,()):Lr)).length+1≤1000000000:=by rw[List.length_map,ym];omega
   have z2:((j:Int)).toNat < zcK.length:=by omega
   (repeat(first|apply zae|apply zac|apply zab|apply zad));refine AWP.drawN dM hX zb3 8 (by kernel_rfl) rfl rfl ?_ ?_ ?_
   ·repeat'(first|exact trivial|assumption|exact z0|exact hb|(refine⟨?_,?_⟩)|(intro _)|exact zf rfl|exact zu _|(simp_all [allP];done))
   ·exact hl
   refine za (za ?_);refine zaa hX zb3 rfl ?_ ?_
   ·exact zaH (by omega)
   have h11:zcK.length=11:=rfl;refine⟨j+1,by omega,by omega,⟨rfl,rfl,rfl,zcz _,trivial⟩,⟨rfl,rfl,rfl,bufL ?_,trivial⟩,rfl,rfl⟩;rw[zH hlt,List.map_append];show _++ [((30:Int),zcK.getD (j:Int).toNat (0:Int),true,())]=_;rw[zaM hlt];rfl
  ·have hb:decide ((j:Int) < ((zcK.length:Nat):Int))=false:=hb;have hb:=of_decide_eq_false hb;have h11:zcK.length=11:=rfl;obtain rfl:j=11:=by omega
   apply zad;refine AWP.frzL hX 2 1 ?_;refine AWP.frzL hX 2 3 ?_;refine za (za ?_);refine zaa hX zb3 rfl ?_ ?_
   ·trivial
   refine zq ⟨.inr rfl,zba (by decide) rfl rfl trivial ?_⟩;rfl
 ·have hb:(k==2)=false:=hb;exact absurd (beq_iff_eq.2 (by omega:k=2)) (by rw[hb];decide)
theorem ziW:∀ k:Int,0≤k∧k≤2->zhK (zf7 k):=fun k hk=>by
 rcases (show k=0∨k=1∨k=2 by omega) with rfl|rfl|rfl
 ·exact⟨by decide,by decide,by decide,by decide,fun h=>absurd h (by decide),by decide,by decide+kernel⟩
 ·exact⟨by decide,by decide,by decide,by decide,fun h=>absurd h (by decide),by decide,by decide+kernel⟩
 ·exact⟨by decide,by decide,by decide,by decide,fun h=>absurd h (by decide),by decide,by decide+kernel⟩
def zm8:List Cal:=[zf7 0,zf7 1,zf7 2]
def zri:Ctr:={ args:=[],pre:=fun _=>[],res:=.slice cal,own:=none,out:=fun _=>zm8 }
def kCl7:Kn:={ gmK with C:=[(75,zid)] }
theorem zdb:KnOk Tryz.prog gmH kCl7:=zak.with (.cons zoy .nil)
theorem bufC2 {te:zo} {x y:List Cal} (h:x=y):some (OObj.buf te cal x)=some (OObj.buf te cal y):=by rw[h]
theorem zqM:yM Tryz.prog gmH 35 zri:=by
 refine zar (K:=kCl7) zdb Tryz.func35 rfl rfl Tryz.call35 rfl (by decide) (by intro h;cases h) ?_;rintro w0 X hX _ hp;change AWP _ _ _ _ _ ⟨[],[],0⟩ _;refine za (za ?_);refine zaa hX zdb rfl ?_ ?_
 ·trivial
 refine za (za ?_);refine zaa hX zdb rfl ?_ ?_
 ·trivial
 refine AWP.nilBuf hX 1 63 cal rfl rfl rfl ?_;refine za (za ?_);refine zaa hX zdb rfl ?_ ?_
 ·trivial
 (repeat(first|apply zae|apply zac|apply zab|apply zad));refine yB (ι:=Nat) (fun i=>⟨[(1,⟨.obuf cal,(0:Nat)⟩),(2,⟨i64,(i:Int)⟩)],[(0,some (.buf 63 cal (zm8.take i)))],1⟩) (fun i=>i≤3) (fun i=>3 - i) 0 (zl _) ⟨⟨rfl,rfl,trivial⟩,⟨rfl,trivial⟩,rfl,rfl⟩ ?_;intro i hi;refine za (za ?_);refine zaa hX zdb rfl ?_ ?_
 ·trivial
 refine zai rfl (fun hb=>?_) (fun hb=>?_)
 ·have hb:decide ((i:Int) < 3)=true:=hb;have hb:=of_decide_eq_true hb;have z0:(0:Int)≤(i:Int):=by omega
  have z1:(i:Int)≤2:=by omega
  have hl:(zm8.take i).length+1≤1000000000:=by rw[ym];omega
  refine za (za ?_);refine zaa hX zdb rfl ?_ ?_
  ·repeat'(first|exact trivial|assumption|exact z0|exact z1|(refine⟨?_,?_⟩)|(intro _)|exact zf rfl|exact zu _|(simp_all [allP];done))
  refine za (za ?_);refine zaa hX zdb rfl ?_ ?_
  ·exact hl
  refine za (za ?_);refine zaa hX zdb rfl ?_ ?_
  ·exact zaH (by omega)
  refine⟨i+1,by omega,by omega,⟨rfl,zcz _,trivial⟩,⟨bufC2 ?_,trivial⟩,rfl,rfl⟩;rcases (show i=0∨i=1∨i=2 by omega) with rfl|rfl|rfl<;>rfl
 ·have hb:decide ((i:Int) < 3)=false:=hb;have hb:=of_decide_eq_false hb;obtain rfl:i=3:=by omega
  apply zad;refine jw hX 1 ?_;(repeat(first|apply zae|apply zac|apply zal|apply zad|apply zab|refine zaa hX zdb rfl trivial ?_|refine zaa hX zdb rfl id ?_|refine zaa hX zdb rfl ⟨id,id⟩ ?_));refine zq ⟨.inr rfl,zay rfl trivial rfl rfl ?_⟩;rfl
noncomputable def zg0 (y:List UInt8):Bool:=(!zjW y [35])&&decide (zaV isWh y < y.length)
noncomputable def zhz (y:List UInt8) (fr:Nat) (acc:List De):Except (Int×Int) (List De):=
 if zg0 y=true then
  if 4000 < y.length then .error ((fr:Int),2)
  else match zgf y ((acc.length:Nat):Int) with
   | .ok d=>.ok (acc++ [d])
   | .error e=>if e.2=0 then .ok acc else .error ((fr:Int)+e.1,e.2)
 else .ok acc
noncomputable def libK:List (List UInt8)->Nat->List De->List De×Int×Int
 | [],_,acc=>(acc,0,0)
 |y::r,fr,acc=>match zhz y fr acc with
  | .error e=>([],e.1,e.2)
  | .ok acc'=>libK r (fr+y.length+1) acc'
noncomputable def za2 (s:List UInt8):List De×Int×Int:=if 1048576 < s.length then ([],0,2) else libK (segs s) 0 []
def lPF:List (Nat×V):=[(2,⟨.hptr,((0:Nat),(0:Nat))⟩),(3,⟨.optr i64,⟨1,i64,.here⟩⟩),(4,⟨.optr i64,⟨2,i64,.here⟩⟩),(5,⟨.hptr,((3:Nat),(0:Nat))⟩),(6,⟨.optr i64,⟨4,i64,.here⟩⟩),(7,⟨.optr .str,⟨5,.str,.here⟩⟩)]
def lRE (at' e:Int):Owns:=[(0,some (.hbox tD [⟨.lit,.slice none 0 0⟩])),(1,some (.box i64 at')),(2,some (.box i64 e))]
def zkP (y:List UInt8) (fr:Nat) (e:Exit) (σ:AS):Except (Int×Int) (List De)->Prop
 | .ok acc'=>e= .normal∧Fit σ ⟨[],libE y ((fr+y.length+1:Nat):Int) acc',7⟩
 | .error er=>e= .ret∧Fit σ ⟨[],lRE er.1 er.2,7⟩
noncomputable def kLc:Kn:={ gmK with H:=[tD],C:=[(51,cPre),(52,zlc 53 isWh)] }
theorem zb2:KnOk Tryz.prog gmH kLc:=⟨zgb,zga,.cons zoH <| .cons zjo.lift .nil,zha,RsOk.nil⟩
def zoP:Code->Option (Code×Code)
 | .rangeFunc _ _ a b=>some (a,b)
 | .seq x y=>match zoP x with
  |some r=>some r
  |none=>zoP y
 | .block _ c=>zoP c
 |_=>none
noncomputable def lBody:Code:=match zoP (Tryz.f19.body.getD .skip) with
 |some r=>r.2
 |none=>.skip
noncomputable def lAsgn:Code:=match zoP (Tryz.f19.body.getD .skip) with
 |some r=>r.1
 |none=>.skip
theorem zqb {w1:zi} {X:Ownr} {y:List UInt8} {fr:Nat} {acc:List De} (hy:y.length≤1100000) (hfr:fr≤1100000) (ha:acc.length≤1000000) (hX:X.Ok w1) (hG:X.G=gmH) (hK:X.K=5) (hinv:∀ ty,ginv w1 X.R ty) (her:∀ er,zgf y ((acc.length:Nat):Int)= .error er->0≤er.1∧er.1≤1100000):
  AWP Tryz.prog w1 X 47 lBody ⟨lPF,libE y (fr:Int) acc,7⟩ (fun e σ=>zkP y fr e σ (zhz y fr acc)):=by
 obtain⟨G,O,K,fix,D,ρ,B⟩:=X;obtain rfl:G=gmH:=hG;obtain rfl:K=5:=hK;unfold lPF libE;apply zab;have hp1:y.length≤2000000∧([35]:List UInt8).length≤2000000:=⟨by omega,by decide⟩;apply zae;refine xz (σ':=⟨[(2,⟨.hptr,((0:Nat),(0:Nat))⟩),(3,⟨.optr i64,⟨1,i64,.here⟩⟩),(4,⟨.optr i64,⟨2,i64,.here⟩⟩),(5,⟨.hptr,((3:Nat),(0:Nat))⟩),(6,⟨.optr i64,⟨4,i64,.here⟩⟩),(7,⟨.optr .str,⟨5,.str,.here⟩⟩),(25,⟨.bool,zg0 y⟩)],libE y (fr:Int) acc,7⟩) ?_ ?_
 ·unfold libE;refine jr dM 10 rfl (by kernel_rfl) ?_;cases hq:zjW y [35] with
  |true=>
   have hl0:zg0 y=false:=by unfold zg0;rw[hq];rfl
   have hb:(!zjW y [35])=false:=by rw[hq];rfl
   have hl2:(bif !zjW y [35] then false else false)=zg0 y:=by rw[hl0,hb];rfl
   repeat'(first
    |exact jH
    |refine jh ⟨_,rfl,?_⟩ ?_
    |refine yZ hX zb2 rfl trivial ?_
    |refine yZ hX zb2 rfl hp1 ?_
    |(refine StepA.guardF 3 19 true .bool false rfl rfl (zcO hb) rfl rfl rfl ?_)
    |refine yZ hX zb2 rfl (by exact fun h=>hb.symm.trans h) ?_
    |(refine jx ?_;exact⟨⟨rfl,rfl,rfl,rfl,rfl,rfl,zcO hl2,trivial⟩,⟨rfl,rfl,rfl,rfl,rfl,rfl,rfl,trivial⟩,rfl,rfl⟩))
  |false=>
   have hb:(!zjW y [35])=true:=by rw[hq];rfl
   have hl1:(bif !zjW y [35] then decide (((zaV isWh y:Nat):Int) < ((y.length:Nat):Int)) else false)=zg0 y:=by
    unfold zg0;rw[zcg]
    congr 1
    exact decide_eq_decide.2 Int.ofNat_lt
   repeat'(first
    |exact jH
    |refine jh ⟨_,rfl,?_⟩ ?_
    |refine StepA.guardT 3 19 true rfl rfl (zcO hb) rfl ?_
    |refine yZ hX zb2 rfl trivial ?_
    |refine yZ hX zb2 rfl hp1 ?_
    |refine yZ hX zb2 rfl (by exact rfl) ?_
    |refine yZ hX zb2 rfl (by exact fun h=>h) ?_
    |(refine jx ?_;exact⟨⟨rfl,rfl,rfl,rfl,rfl,rfl,zcO hl1,trivial⟩,⟨rfl,rfl,rfl,rfl,rfl,rfl,rfl,trivial⟩,rfl,rfl⟩))
 have hlen:((y.length:Nat):Int)≤1100000:=by omega
 have hfrl:((fr:Nat):Int)≤1100000:=by omega
 have q0:inR .i64 (((y.length:Nat):Int)+1):=zav (by omega) (by omega);have q1:inR .i64 ((fr:Int)+(((y.length:Nat):Int)+1)):=zav (by omega) (by omega);have hend:(fr:Int)+(((y.length:Nat):Int)+1)=((fr+y.length+1:Nat):Int):=by omega
 unfold libE;refine zai rfl (fun hb=>?_) (fun hb=>?_)
 ·have hb:zg0 y=true:=hb;unfold zhz;rw[if_pos hb];refine za (za ?_);refine zaa hX zb2 rfl ?_ ?_
  ·trivial
  refine zai rfl (fun hb=>?_) (fun hb=>?_)
  ·have hb:decide (((4000:Nat):Int) < ((y.length:Nat):Int))=true:=hb;have hb:=of_decide_eq_true hb;rw[if_pos (by omega)];refine xz (σ':=⟨[],lRE (fr:Int) 2,7⟩) ?_ ?_
   ·unfold lRE;refine jr dM 4 rfl (by kernel_rfl) ?_
    repeat'(first
     |exact jH
     |refine jh ⟨_,rfl,?_⟩ ?_
     |refine yZ hX zb2 rfl trivial ?_
     |(refine jx ?_;exact⟨trivial,⟨rfl,rfl,rfl,trivial⟩,rfl,rfl⟩))
   ·exact zq ⟨rfl,trivial,⟨rfl,rfl,rfl,trivial⟩,rfl,rfl⟩
  have hb:decide (((4000:Nat):Int) < ((y.length:Nat):Int))=false:=hb;have hb:=of_decide_eq_false hb;rw[if_neg (by omega)];apply zac;refine zap (σ':=⟨lPF,libE y (fr:Int) acc,7⟩) ⟨⟨rfl,rfl,rfl,rfl,rfl,rfl,trivial⟩,⟨rfl,rfl,rfl,rfl,rfl,rfl,rfl,trivial⟩,rfl,rfl⟩ ?_;unfold lPF;(repeat(first|apply zae|apply zac|apply zab|apply zad));refine zaj ?_;refine AL.runClo hX 6 rfl rfl rfl rfl rfl rfl rfl rfl rfl rfl (by show 5≤6;omega) Tryz.func54 rfl rfl rfl rfl Tryz.call54 rfl rfl rfl (N:=NLib y (fr:Int) acc) (fun w2 X' h1 h2 h3 h4 h5 h6=>?_) (fun r σ hN=>?_)
  ·refine zqc (by omega) ha h1 h2 h3 h4 h5 fun ty=>zaE (ty:=ty) hX rfl (hinv ty) _ _ h6 (by
    have:=h1.2.2 w2 (Kept.refl _ _);rwa[h2]at this)
  rcases hN with ⟨d,hd,rfl,hf⟩|⟨er,hd,rfl,hf⟩
  ·refine AL.fit (σ':=⟨(32,⟨tupI,((0:Int),(0:Int),())⟩)::lPF,libE y (fr:Int) (acc++ [d]),7⟩) ⟨⟨rfl,rfl,rfl,rfl,rfl,rfl,rfl,trivial⟩,hf.e,rfl,rfl⟩ ?_;unfold lPF libE;refine zW hX zb2 rfl trivial ?_;refine za (za ?_);refine zaa hX zb2 rfl ?_ ?_
   ·trivial
   refine zai rfl (fun hb=>absurd (show false=true from hb) (by decide)) (fun _=>?_);apply zac;rw[hd];refine za (za ?_);refine zaa hX zb2 rfl ?_ ?_
   ·exact⟨q0,q1⟩
   exact⟨rfl,trivial,⟨rfl,rfl,rfl,rfl,zft hend,rfl,rfl,trivial⟩,rfl,rfl⟩
  ·refine AL.fit (σ':=⟨(32,⟨tupI,(er.1,er.2,())⟩)::lPF,libE y (fr:Int) acc,7⟩) ⟨⟨rfl,rfl,rfl,rfl,rfl,rfl,rfl,trivial⟩,hf.e,rfl,rfl⟩ ?_;obtain⟨her0,her1⟩:=her er hd;have q2:inR .i64 ((fr:Int)+er.1):=zav (by omega) (by omega);unfold lPF libE;refine zW hX zb2 rfl trivial ?_;refine za (za ?_);refine zaa hX zb2 rfl ?_ ?_
   ·trivial
   rw[hd];refine zai rfl (fun hb=>?_) (fun hb=>?_)
   ·have hb:(er.2 != 0)=true:=hb;have hb:er.2≠0:=bne_iff_ne.1 hb;show AWP _ _ _ _ _ _ (zjl _ _);refine xz (σ':=⟨[],lRE ((fr:Int)+er.1) er.2,7⟩) ?_ ?_
    ·unfold lRE;refine jr dM 7 rfl (by kernel_rfl) ?_
     repeat'(first
      |exact jH
      |refine jh ⟨_,rfl,?_⟩ ?_
      |refine yZ hX zb2 rfl trivial ?_
      |refine yZ hX zb2 rfl q2 ?_
      |(refine jx ?_;exact⟨trivial,⟨rfl,rfl,rfl,trivial⟩,rfl,rfl⟩))
    ·refine zq ?_;show zkP y fr .ret _ (if er.2=0 then .ok acc else .error ((fr:Int)+er.1,er.2));rw[if_neg hb];exact⟨rfl,trivial,⟨rfl,rfl,rfl,trivial⟩,rfl,rfl⟩
   ·have hb:(er.2 != 0)=false:=hb;have hb:er.2=0:=by
     by_cases h:er.2=0
     ·exact h
     ·rw[bne_iff_ne.2 h]at hb;cases hb
    apply zac;refine za (za ?_);refine zaa hX zb2 rfl ?_ ?_
    ·exact⟨q0,q1⟩
    show zkP y fr .normal _ (if er.2=0 then .ok acc else .error ((fr:Int)+er.1,er.2));rw[if_pos hb];exact⟨rfl,trivial,⟨rfl,rfl,rfl,rfl,zft hend,rfl,rfl,trivial⟩,rfl,rfl⟩
 ·have hb:zg0 y=false:=hb;unfold zhz;rw[if_neg (by rw[hb];decide)];apply zac;refine za (za ?_);refine zaa hX zb2 rfl ?_ ?_
  ·exact⟨q0,q1⟩
  exact⟨rfl,trivial,⟨rfl,rfl,rfl,rfl,zft hend,rfl,rfl,trivial⟩,rfl,rfl⟩
section
attribute [local go_sem] jI
def zhx:List (List UInt8)->Nat
 | []=>0
 |g::r=>g.length+1+zhx r
theorem zfA:∀ (s c:List UInt8),zhx (segF c s)=c.length+s.length+1
 | [],c=>by unfold segF zhx zhx;simp
 |x::r,c=>by
  unfold segF;split
  ·rw[zhx,zfA r []];simp;omega
  ·rw[zfA r];simp;omega
theorem zmr (s:List UInt8):zhx (segs s)=s.length+1:=by rw[segs,zfA];simp
theorem znI (y:List UInt8):GOk y (za1 y,0):=by
 have:=zdP (s:=y);unfold zfN at this;rwa[zlu]at this
theorem zlL {y:List UInt8} {k:Int} {er:Int×Int} (h:zgf y k= .error er):0≤er.1∧er.1≤((y.length:Nat):Int):=by
 have hg:=znI y;have he:Er y (gDef y (za1 y,0) k):=zaz (zbW hg) fun u hu=>zaz (zbW hg) fun _ _=>by
  have hc:=zaK hu;rw[beq_iff_eq]at hc;have k1:=zbV hg (by show Tok.cls (za1 y,(0:Int)).1≠0;rw[hc];decide);exact zaz (zee k1.1) fun a ha=>zaz (zoW (zbf k1.1 ha).1) fun _ _=>zc2
 unfold zgf at h;cases hd:gDef y (za1 y,0) k with
 |ok r=>rw[hd]at h;cases h
 |error e=>
  rw[hd]at h;cases h;exact he _ hd
theorem zoj {y:List UInt8} {k:Nat} {d:De} (h:zgf y (k:Int)= .ok d):k < 4096:=by
 unfold zgf at h;cases hd:gDef y (za1 y,0) (k:Int) with
 |error e=>rw[hd]at h;cases h
 |ok r=>
  obtain⟨u,_,h2⟩:=zag hd;obtain⟨u2,h3,_⟩:=zag h2;have h3:=zaK h3;rw[zb,decide_eq_true_iff,decide_eq_true_iff]at h3;omega
theorem znt {y:List UInt8} {fr:Nat} {acc acc':List De} (ha:acc.length≤4096) (h:zhz y fr acc= .ok acc'):acc'.length≤4096:=by
 unfold zhz at h;split at h
 ·split at h
  ·cases h
  ·split at h
   ·rename_i d hd;cases h;have:=zoj hd;rw[zh,yH];omega
   ·split at h
    ·cases h;exact ha
    ·cases h
 ·cases h;exact ha
abbrev XL (O:Nat->Prop) (fix:Nat->Nat) (D:List qS) (ρ:Option Nat):Ownr:={ G:=gmH,X:=O,K:=5,fix:=fix,D:=D,ρ:=ρ }
def sLE (fr:Nat) (acc:List De):Owns:=[(0,some (.hbox tD [⟨.lit,.slice none 0 0⟩])),(1,some (.box i64 (0:Int))),(2,some (.box i64 (0:Int))),(3,some (znQ 5)),(4,some (.box i64 (fr:Int))),(5,some (.buf 37 de acc))]
def lPF0:List (Nat×V):=[(2,⟨.hptr,((0:Nat),(0:Nat))⟩),(3,⟨.optr i64,⟨1,i64,.here⟩⟩),(4,⟨.optr i64,⟨2,i64,.here⟩⟩),(5,⟨.hptr,((3:Nat),(0:Nat))⟩),(6,⟨.optr i64,⟨4,i64,.here⟩⟩)]
def lRn:List (Nat×Nat):=[(0,0),(1,1),(2,2),(3,3),(4,4),(6,5),(5,6)]
theorem zou {B:zi} {O:Nat->Prop} {fix:Nat->Nat} {D:List qS} {ρ:Option Nat} (hX:(XL O fix D ρ).Ok B) (y:List UInt8) (fr:Nat) (acc:List De):
  AWP Tryz.prog B (XL O fix D ρ) 47 lAsgn ⟨(15,⟨.str,y⟩)::lPF0,sLE fr acc,6⟩ (fun e σ=>e= .normal∧Fit σ ⟨(2,⟨.hptr,((0:Nat),(0:Nat))⟩)::(3,⟨.optr i64,⟨1,i64,.here⟩⟩)::(4,⟨.optr i64,⟨2,i64,.here⟩⟩)::(5,⟨.hptr,((3:Nat),(0:Nat))⟩)::(6,⟨.optr i64,⟨4,i64,.here⟩⟩):: [(7,⟨.optr .str,⟨6,.str,.here⟩⟩)],(6,some (.box .str y))::sLE fr acc,7⟩):=by
 unfold lPF0 sLE;refine za (za ?_);refine zaa hX zb2 rfl ?_ ?_
 ·trivial
 exact⟨rfl,⟨rfl,rfl,rfl,rfl,rfl,rfl,trivial⟩,⟨rfl,rfl,rfl,rfl,rfl,rfl,rfl,trivial⟩,rfl,rfl⟩
noncomputable def lTail:Code:=match Tryz.f19.body.getD .skip with
 | .seq _ (.seq _ (.seq _ (.seq _ (.seq _ t))))=>t
 |c=>c
def sLT (acc:List De):AS:=⟨[(2,⟨.hptr,((0:Nat),(0:Nat))⟩),(3,⟨.optr i64,⟨1,i64,.here⟩⟩),(4,⟨.optr i64,⟨2,i64,.here⟩⟩)],[(0,some (.hbox tD [⟨.slice de,acc⟩])),(1,some (.box i64 (0:Int))),(2,some (.box i64 (0:Int)))],6⟩
theorem zog {B:zi} {O:Nat->Prop} {fix:Nat->Nat} {D:List qS} (hX:(XL O fix D none).Ok B) (fr:Nat) (acc:List De):
  AWP Tryz.prog B (XL O fix D none) 47 lTail ⟨lPF0,sLE fr acc,6⟩ (fun e σ=>e= .ret∧Fit σ (sLT acc)):=by
 unfold lPF0 sLE sLT;refine AWP.frzL hX 3 0 ?_;(repeat(first|apply zae|apply zac|apply zal|apply zad|apply zab|refine zaa hX zb2 rfl trivial ?_|refine zaa hX zb2 rfl id ?_|refine zaa hX zb2 rfl ⟨id,id⟩ ?_));exact zq ⟨rfl,⟨rfl,rfl,rfl,trivial⟩,⟨rfl,rfl,rfl,trivial⟩,rfl,rfl⟩
section
variable {B W:zi} {X:Ownr} {n:Nat} {σ:AS} {β:Nat->zg} {a:Act}
theorem zmf (h:Sim B X n σ β a W) {i:Nat} (hi:i < X.K) {t:Ty} {x:t.T} (hE:Owns.get σ.E i=some (.box t x)):∃ cs ty,W.heap[X.fix i]? =some (.cells (List.toArray cs) ty (0,0))∧RepC W (OSet X σ.E β) t x cs:=by
 obtain⟨g,cs,ty,q1,_,q2,q3⟩:=h.own i _ hE;have q4:=(h.fix.2 i hi).1;rw[q1]at q4;have q4:g=X.fix i:=by simpa [zah] using q4
 subst q4;exact⟨cs,ty,q2,q3⟩
theorem zoG (h:Sim B X n σ β a W) {i:Nat} (hi:i < X.K) {v:V} {ty:zo} (hE:Owns.get σ.E i=some (.hbox ty [v])):∃ u,W.heap[X.fix i]? =some (.cells #[u] ty (0,0))∧u.oneCell'=true∧RepV W (OSet X σ.E β) β v.t v.x u:=by
 obtain⟨g,cs,q1,_,q2,u,r,rfl,q5,q6,q7⟩:=h.own i _ hE;have q7:r=[]:=q7;subst q7;have q4:=(h.fix.2 i hi).1;rw[q1]at q4;have q4:g=X.fix i:=by simpa [zah] using q4
 subst q4;exact⟨u,q2,q5,q6⟩
theorem zms {B A C:zi} {X X':Ownr} {n n':Nat} {σ σ':AS} {β β':Nat->zg} {a a':Act} {I:Nat->Prop} (h:Sim B X n σ β a A) (h':Sim B X' n' σ' β' a' C) (hR:∀ g,X'.R g->X.R g) (hX:X.Ok B) (hI:∀ g,I g->X g):SameOn I B.heap.size A C:=
 ⟨h'.bel.os.trans h.bel.os.symm,h'.bel.tape.trans h.bel.tape.symm,h'.bel.output.trans h.bel.output.symm,h'.bel.size,fun k hk=>
   have hx:=hX.1 k (hI k hk)
   (h'.bel.block k hx.1 fun hr=>hx.2 (hR k hr)).trans (h.bel.block k hx.1 hx.2).symm⟩
end
def zox (a:Act) (x:zg):Act:={ tmps:=((#[15]:Array Tmp).zip #[x]).foldl (fun t (p,v)=>t.setIfInBounds p v) a.tmps,defers:=[] }
theorem zdy {a:Act} {x:zg} (hsz:a.tmps.size=47) (s:Nat):(zox a x).tmps.getD s undef=if 15=s then x else a.tmps.getD s undef:=by
 have:(zox a x).tmps=a.tmps.setIfInBounds 15 x:=by simp[zox]
 rw[this];by_cases h:15=s
 ·subst h;rw[if_pos rfl];simp[zP,xH,hsz]
 ·rw[if_neg h];simp[zP,xH,h]
def nA:Act:={ tmps:=#[],defers:=[] }
section
variable {w w5:zi} {O:Nat->Prop} {N:Nat} {s:List UInt8} {t0 t1 t2 t3 t4:zo} {a5:Act}
def lI (N D:Nat) (g:Nat):Prop:=itI (N+5) (N+6) (N+7) g∨g=D∨g=D+1
def lO (O:Nat->Prop) (N D:Nat) (g:Nat):Prop:=O g∨lI N D g
def lFix (N:Nat) (i:Nat):Nat:=N+i
def lBB (w5:zi) (N:Nat) (B:zi):Prop:=B.heap.size=w5.heap.size+2∧Kept (lI N w5.heap.size) w5 B
theorem lR {N:Nat} {O':Nat->Prop} {D:List qS} {ρ:Option Nat} {g:Nat} (h:(XL O' (lFix N) D ρ).R g):N≤g∧g≤N+4:=by
 rcases h with ⟨i,hi,rfl⟩|h
 ·have hi:i < 5:=hi;show N≤N+i∧N+i≤N+4;omega
 ·exact False.elim h
theorem zow (hN:N=w.heap.size) (hs5:w5.heap.size=N+8) (hb5:yJ w.heap.size w w5) {B:zi} (h:lBB w5 N B):yJ w.heap.size w B:=
 ⟨h.2.os.trans hb5.os,h.2.tape.trans hb5.tape,h.2.output.trans hb5.output,zQ hb5.size h.2.size,fun k hk=>(h.2.block k (zI hk hb5.size) (by unfold lI itI;omega)).trans (hb5.block k hk)⟩
theorem zkW (hN:N=w.heap.size) (hs5:w5.heap.size=N+8) (hb5:yJ w.heap.size w w5) {B W:zi} (h:lBB w5 N B) {O':Nat->Prop} {D:List qS} {ρ:Option Nat} (hk:Kept (XL O' (lFix N) D ρ).R B W):yJ w.heap.size w W:=
 have hb:=zow hN hs5 hb5 h
 ⟨hk.os.trans hb.os,hk.tape.trans hb.tape,hk.output.trans hb.output,zQ hb.size hk.size,fun k hkl=>(hk.block k (zI hkl hb.size) fun hr=>by have:=(lR hr).1;omega).trans (hb.block k hkl)⟩
theorem lX_ok (hN:N=w.heap.size) (hO:∀ g,O g->g < w.heap.size) (hG:gmH w) (hs5:w5.heap.size=N+8) (hb5:yJ w.heap.size w w5) {B:zi} (h:lBB w5 N B) (D:List qS) (ρ:Option Nat):(XL (lO O N w5.heap.size) (lFix N) D ρ).Ok B:=by
 have hs:=h.1;refine⟨fun g hg=>?_,fun g hg=>?_,fun w' hk=>zha _ _ hG (zkW hN hs5 hb5 h hk)⟩
 ·have hg:O g∨(g=N+5∨g=N+6∨g=N+7)∨g=w5.heap.size∨g=w5.heap.size+1:=hg;refine⟨?_,fun hr=>?_⟩
  ·rcases hg with h1|h1
   ·have:=hO g h1;omega
   ·omega
  ·have:=lR hr;rcases hg with h1|h1
   ·have:=hO g h1;omega
   ·omega
 ·have:=lR hg;omega
theorem lX_inv (hN:N=w.heap.size) (hG:gmH w) {O':Nat->Prop} {D:List qS} {ρ:Option Nat} {B:zi} (ty:zo):ginv B (XL O' (lFix N) D ρ).R ty:=by
 have hl:=zlT hG;exact⟨fun h=>by have:=lR h;omega,fun h=>by have:=lR h;omega⟩
def lJ (w5:zi) (O:Nat->Prop) (N:Nat) (s:List UInt8) (k:Nat) (W:zi):Prop:=∃ (B:zi) (β:Nat->zg) (acc:List De) (fr:Nat),lBB w5 N B∧Sim B (XL (lO O N w5.heap.size) (lFix N) [] none) 0 ⟨[],sLE fr acc,6⟩ β nA W∧acc.length≤4096∧k≤(segs s).length∧fr+zhx ((segs s).drop k)≤s.length+1∧libK ((segs s).drop k) fr acc=za2 s
def lN (w5:zi) (O:Nat->Prop) (N:Nat) (s:List UInt8) (k:Nat) (y:List UInt8) (a':Act) (W:zi):Prop:=∃ (B:zi) (β:Nat->zg) (acc:List De) (fr:Nat),lBB w5 N B∧Sim B (XL (lO O N w5.heap.size) (lFix N) [] none) 47 ⟨lPF,libE y (fr:Int) acc,7⟩ β a' W∧acc.length≤4096∧k≤(segs s).length∧fr+zhx ((segs s).drop k)≤s.length+1∧libK ((segs s).drop k) fr acc=za2 s
def lJr (w5:zi) (O:Nat->Prop) (N:Nat) (s:List UInt8) (W:zi):Prop:=∃ (er:Int×Int) (B:zi) (β:Nat->zg),za2 s=([],er.1,er.2)∧lBB w5 N B∧Sim B (XL (lO O N w5.heap.size) (lFix N) [] none) 0 ⟨[],lRE er.1 er.2,7⟩ β nA W
theorem zok {tmps:Array zg} {g2 g3 g4:Nat} {W:zi} {u:zg} {x y:Int} {t2 t3 t4:zo} (hu:u.oneCell'=true) (h2:tmps.getD 2 undef= .pointer (some ⟨g2,0,none⟩)) (h3:tmps.getD 3 undef= .pointer (some ⟨g3,0,none⟩)) (h4:tmps.getD 4 undef= .pointer (some ⟨g4,0,none⟩))
  (c2:W.heap[g2]? =some (.cells #[u] t2 (0,0))) (c3:W.heap[g3]? =some (.cells #[.int .i64 x] t3 (0,0))) (c4:W.heap[g4]? =some (.cells #[.int .i64 y] t4 (0,0))):
  (results Tryz.f19 tmps).run Tryz.prog W= .ok (.tuple #[u,.int .i64 x,.int .i64 y]) W:=by
 have d2:=(zaU c2).1;have d3:=(zaU c3).1;have d4:=(zaU c4).1;rw[zP]at h2 h3 h4;simp[results,Tryz.f19,go_sem,h2,h3,h4,d2,d3,d4]
abbrev zrs:Ty:=.tup (.slice de) (.tup i64 (.tup i64 .unit))
theorem znW {w:zi} {O:Nat->Prop} {acc:List De} {x y:Int} {u:zg} (hu:RepD w O (.slice de) acc u):zdi w O 0 none zrs (acc,x,y,()) (.tuple #[u,.int .i64 x,.int .i64 y]):=fun β=>
 ⟨[_,_,_],rfl,_,_,rfl,hu,_,_,rfl,rfl,_,_,rfl,rfl,rfl⟩
def ldco (D:Nat):qS:={ target:=.collected D,args:=#[] }
def znc (w:zi) (O:Nat->Prop) (r:List De×Int×Int) (e:Ending) (w':zi):Prop:=∃ v,e= .returned v∧yJ w.heap.size w w'∧zdi w' O w.heap.size none zrs (r.1,r.2.1,r.2.2,()) v
theorem lfin {W:zi} {O':Nat->Prop} {tmps:Array zg} {D:Nat} {u:zg} {x y:Int} {acc:List De} (hN:N=w.heap.size) (hO:∀ g,O g->O' g) (hD:O' D) (hlt:N+2 < D) (hbel:yJ w.heap.size w W) (hd:W.heap[D]? =some (.deferred (some []))) (hu:u.oneCell'=true) (h2:tmps.getD 2 undef= .pointer (some ⟨N,0,none⟩)) (h3:tmps.getD 3 undef= .pointer (some ⟨N+1,0,none⟩)) (h4:tmps.getD 4 undef= .pointer (some ⟨N+2,0,none⟩))
  (c2:W.heap[N]? =some (.cells #[u] t2 (0,0))) (c3:W.heap[N+1]? =some (.cells #[.int .i64 x] t3 (0,0))) (c4:W.heap[N+2]? =some (.cells #[.int .i64 y] t4 (0,0))) (hr:RepD W O' (.slice de) acc u):
  LeavesInM yn 1 Tryz.prog Tryz.f19 tmps (znc w O (acc,x,y)) [ldco D] .returning W:=by
 refine⟨(by intro h;cases h),.inl ⟨D,_,rfl,run_takeDeferred hd,?_⟩⟩;have hk:Kept (fun g=>g=D) W (W.putObj D (.deferred none)):=zcF _ rfl;have hlD:=(zm.1 hd).1;have hl:∀ g (o:Obj),W.heap[g]? =some o->g≠D->(W.putObj D (.deferred none)).heap[g]? =some o:=fun g o hg hne=>(hk.block g (zm.1 hg).1 hne).trans hg;refine⟨_,zok hu h2 h3 h4 (hl _ _ c2 (by omega)) (hl _ _ c3 (by omega)) (hl _ _ c4 (by omega)),_,rfl,?_,?_⟩
 ·refine⟨hk.os.trans hbel.os,hk.tape.trans hbel.tape,hk.output.trans hbel.output,zQ hbel.size hk.size,fun k hkl=>?_⟩;have h1:k < W.heap.size:=zI hkl hbel.size;exact (hk.block k h1 (by omega)).trans (hbel.block k hkl)
 ·exact znW (RepD.keep ⟨hk.size,fun g hg hn=>hk.block g hg fun e=>hn (e▸hD),fun g _ hg=>hO g hg⟩ hr)
end
end
section
attribute [local go_sem] jI
section
variable {w w5:zi} {O:Nat->Prop} {N:Nat} {s:List UInt8} {t0 t1 t2 t3 t4:zo} {a5:Act}
theorem zir {B W:zi} {O':Nat->Prop} {D:List qS} {ρ:Option Nat} {n:Nat} {σ:AS} {β:Nat->zg} {a:Act} (h:Sim B (XL O' (lFix N) D ρ) n σ β a W) {E:Owns} {m:Nat} (hf:Fit σ ⟨[],E,m⟩) (hm:5≤m):Sim B (XL O' (lFix N) [] none) 0 ⟨[],E,m⟩ β nA W:=
 (h.fit hf hm).act (X':=XL O' (lFix N) [] none) (a':=nA) rfl rfl rfl rfl rfl (F:=[]) zfE rfl
theorem zom {y:List UInt8} {r:List (List UInt8)} {fr:Nat} {acc:List De}:libK (y::r) fr acc=match zhz y fr acc with
 | .error e=>([],e.1,e.2)
 | .ok acc'=>libK r (fr+y.length+1) acc':=rfl
set_option maxHeartbeats 1000000 in
theorem zol (hN:N=w.heap.size) (hO:∀ g,O g->g < w.heap.size) (hG:gmH w) (hlen:s.length≤1048576) (hs5:w5.heap.size=N+8) (hb5:yJ w.heap.size w w5)
  (b0:w5.heap[N]? =some (.cells #[.slice none 0 0] tD (0,0))) (b1:w5.heap[N+1]? =some (.cells #[.int .i64 0] t1 (0,0))) (b2:w5.heap[N+2]? =some (.cells #[.int .i64 0] t2 (0,0))) (b3:w5.heap[N+3]? =some (.cells #[.slice none 0 0] tD (0,0))) (b4:w5.heap[N+4]? =some (.cells #[.int .i64 0] t4 (0,0)))
  (i0:w5.heap[N+5]? =some (.cells #[.string ⟨s.toArray⟩] 9 (0,0))) (i1:w5.heap[N+6]? =some (.cells #[.string ⟨#[10]⟩] 9 (0,0))) (i2:w5.heap[N+7]? =some (.cells #[.int .i64 0] 3 (0,0)))
  (hsz:a5.tmps.size=47) (e2:a5.tmps.getD 2 undef= .pointer (some ⟨N,0,none⟩)) (e3:a5.tmps.getD 3 undef= .pointer (some ⟨N+1,0,none⟩)) (e4:a5.tmps.getD 4 undef= .pointer (some ⟨N+2,0,none⟩)) (e5:a5.tmps.getD 5 undef= .pointer (some ⟨N+3,0,none⟩)) (e6:a5.tmps.getD 6 undef= .pointer (some ⟨N+4,0,none⟩))
  (e14:a5.eval (.tmp 14)= .func (.func 145) #[] #[.pointer (some ⟨N+6,0,none⟩),.pointer (some ⟨N+5,0,none⟩),.pointer (some ⟨N+7,0,none⟩)]) (hdf:a5.defers=[]):
  zfx Tryz.prog 19 (.rangeFunc (.tmp 14) #[15] lAsgn lBody) (fun e a w'=>(e= .normal∨e= .ret)∧Exit.then (zfx Tryz.prog 19 lTail (bodyPostM yn 1 Tryz.prog Tryz.f19 (znc w O (za2 s)))) (bodyPostM yn 1 Tryz.prog Tryz.f19 (znc w O (za2 s))) e a w') a5 w5:=by
 have hP:za2 s=libK (segs s) 0 []:=if_neg (by omega);have hXok:∀ B D ρ,lBB w5 N B->(XL (lO O N w5.heap.size) (lFix N) D ρ).Ok B:=fun B D ρ h=>lX_ok hN hO hG hs5 hb5 h D ρ;have hsame:∀ {B A C:zi} {ρ ρ':Option Nat} {D D':List qS} {n n':Nat} {σ σ':AS} {β β':Nat->zg} {a a':Act},lBB w5 N B->Sim B (XL (lO O N w5.heap.size) (lFix N) D ρ) n σ β a A->Sim B (XL (lO O N w5.heap.size) (lFix N) D' ρ') n' σ' β' a' C->SameOn (lI N w5.heap.size) (w5.heap.size+2) A C:=fun hBB h h'=>by
  have:=zms h h' (fun g hr=>hr) (hXok _ _ _ hBB) (I:=lI N w5.heap.size) (fun g hg=>.inr hg);rwa[hBB.1]at this
 refine zhw (m:=1) e14 Tryz.call145 (zkD (N+5) (N+6) (N+7) s w5 (by omega) (by omega) i0 i1 i2) (zO _ _) ?_ (lJ w5 O N s) (lJr w5 O N s) (lN w5 O N s) ?_ ?_ ?_ ?_ ?_ ?_ ?_ ?_
 ·intro k hk;have hk:k=N+5∨k=N+6∨k=N+7:=hk;omega
 ·rintro k A C ⟨B,β,acc,fr,hBB,hS,h1,h2,h3,h4⟩ hk;obtain⟨B',hs',hk',hS'⟩:=hS.outside (hXok _ _ _ hBB) (I:=lI N w5.heap.size) (fun g hg=>.inr hg) hk;exact⟨B',β,acc,fr,⟨hs'.trans hBB.1,hBB.2.trans hk'⟩,hS',h1,h2,h3,h4⟩
 ·rintro A C ⟨er,B,β,hpe,hBB,hS⟩ hk;obtain⟨B',hs',hk',hS'⟩:=hS.outside (hXok _ _ _ hBB) (I:=lI N w5.heap.size) (fun g hg=>.inr hg) hk;exact⟨er,B',β,hpe,⟨hs'.trans hBB.1,hBB.2.trans hk'⟩,hS'⟩
 ·rintro k y a' A C ⟨B,β,acc,fr,hBB,hS,h1,h2,h3,h4⟩ hk;obtain⟨B',hs',hk',hS'⟩:=hS.outside (hXok _ _ _ hBB) (I:=lI N w5.heap.size) (fun g hg=>.inr hg) hk;exact⟨B',β,acc,fr,⟨hs'.trans hBB.1,hBB.2.trans hk'⟩,hS',h1,h2,h3,h4⟩
 ·intro W1 hb hs1;have hBB:lBB w5 N W1:=⟨hs1,⟨hb.os,hb.tape,hb.output,hb.size,fun k hk _=>hb.block k hk⟩⟩;have hl:∀ g (o:Obj),w5.heap[g]? =some o->W1.heap[g]? =some o:=fun g o hg=>(hb.block g (zm.1 hg).1).trans hg
  let β:Nat->zg:=fun i=>.pointer (some ⟨lFix N i,0,none⟩)
  have hS0:Sim W1 (XL (lO O N w5.heap.size) (lFix N) [] none) 0 ⟨[],[(0,some (.hbox tD [⟨.lit,.slice none 0 0⟩])),(1,some (.box i64 (0:Int))),(2,some (.box i64 (0:Int))),(3,some (.hbox tD [⟨.lit,.slice none 0 0⟩])),(4,some (.box i64 (0:Int)))],5⟩ β nA W1:=by
   refine Sim.boxes (X:=XL (lO O N w5.heap.size) (lFix N) [] none) rfl rfl (fun i _=>rfl) ?_ ?_ zfE rfl
   ·intro i j hi hj hij;have hij:N+i=N+j:=hij;omega
   ·intro i o h;rw[zaf]at h;split at h
    ·rename_i hi;subst hi;cases h;exact⟨by show 0 < 5;omega,rfl,⟨N,[_],rfl,zl _,hl _ _ b0,_,[],rfl,rfl,rfl,rfl⟩,fun vs e v hv=>by cases e;rw[zv]at hv;subst hv;exact zl _⟩
    rw[zaf]at h;split at h
    ·rename_i _ hi;subst hi;cases h;exact⟨by show 1 < 5;omega,rfl,⟨N+1,[_],_,rfl,zl _,hl _ _ b1,rfl⟩,fun vs e=>by cases e⟩
    rw[zaf]at h;split at h
    ·rename_i _ _ hi;subst hi;cases h;exact⟨by show 2 < 5;omega,rfl,⟨N+2,[_],_,rfl,zl _,hl _ _ b2,rfl⟩,fun vs e=>by cases e⟩
    rw[zaf]at h;split at h
    ·rename_i _ _ _ hi;subst hi;cases h;exact⟨by show 3 < 5;omega,rfl,⟨N+3,[_],rfl,zl _,hl _ _ b3,_,[],rfl,rfl,rfl,rfl⟩,fun vs e v hv=>by cases e;rw[zv]at hv;subst hv;exact zl _⟩
    rw[zaf]at h;split at h
    ·rename_i _ _ _ _ hi;subst hi;cases h;exact⟨by show 4 < 5;omega,rfl,⟨N+4,[_],_,rfl,zl _,hl _ _ b4,rfl⟩,fun vs e=>by cases e⟩
    ·cases h
  obtain⟨β',hS1⟩:=kA 3 0 37 de rfl rfl rfl _ _ _ hS0;refine⟨W1,β',[],0,hBB,zir hS1 ⟨trivial,⟨rfl,rfl,rfl,rfl,rfl,rfl,trivial⟩,rfl,rfl⟩ (by omega),by simp,zl _,?_,hP.symm⟩;rw[List.drop_zero,zmr];omega
 ·rintro l k y W ⟨B,β,acc,fr,hBB,hS,h1,h2,h3,h4⟩ hy hsz2;obtain⟨hkl,hyk⟩:=zC.1 hy;have hd:(segs s).drop k=y::(segs s).drop (k+1):=by rw[<-hyk];exact y5 hkl
  have h3':=h3;rw[hd,zhx]at h3';have hb:=fun k (hk:k < 5)=>(hS.fix.2 k hk).1;have hsim:=hS.act (X':=XL (lO O N w5.heap.size) (lFix N) [] (some l)) (m:=47) (a':=zox a5 (.string ⟨y.toArray⟩)) rfl rfl rfl (by simp[zox,hsz]) rfl (F:=(15,⟨.str,y⟩)::lPF0) (zbv (by rw[zdy hsz];exact⟨rfl,by show y.length≤maxLen;unfold maxLen;omega⟩) (zbv ⟨_,hb 0 (by omega),by rw[zdy hsz];exact e2⟩ (zbv ⟨_,hb 1 (by omega),by rw[zdy hsz];exact e3⟩ (zbv ⟨_,hb 2 (by omega),by rw[zdy hsz];exact e4⟩ (zbv ⟨_,hb 3 (by omega),by rw[zdy hsz];exact e5⟩ (zbv ⟨_,hb 4 (by omega),by rw[zdy hsz];exact e6⟩ zfE)))))) rfl;refine yD (zou (hXok B [] (some l) hBB) y fr acc β _ W hsim) ?_;rintro e a' W' ⟨σ',β',h',rfl,hf⟩;have hso:=hsame hBB hS h';have h6:=h'.fit hf (by show 5≤7;omega);have h7:=h6.renameK (L:=lRn) (m:=7) rfl rfl (by show 5≤7;omega) rfl rfl;refine⟨rfl,⟨B,_,acc,fr,hBB,(h7.fit (σ':=⟨lPF,libE y (fr:Int) acc,7⟩) ⟨⟨rfl,rfl,rfl,rfl,rfl,rfl,trivial⟩,⟨rfl,rfl,rfl,rfl,rfl,rfl,rfl,trivial⟩,rfl,rfl⟩ (by show 5≤7;omega)).act (X':=XL (lO O N w5.heap.size) (lFix N) [] none) rfl rfl rfl h7.sz h7.df (fun sl=>(h7.fit (σ':=⟨lPF,libE y (fr:Int) acc,7⟩) ⟨⟨rfl,rfl,rfl,rfl,rfl,rfl,trivial⟩,⟨rfl,rfl,rfl,rfl,rfl,rfl,rfl,trivial⟩,rfl,rfl⟩ (by show 5≤7;omega)).fr sl) rfl,h1,h2,h3,h4⟩,hso⟩
 ·rintro l k y W a' hy hsz2 ⟨B,β,acc,fr,hBB,hS,h1,h2,h3,h4⟩;obtain⟨hkl,hyk⟩:=zC.1 hy;have hd:(segs s).drop k=y::(segs s).drop (k+1):=by rw[<-hyk];exact y5 hkl
  rw[hd,zhx]at h3;rw[hd,zom]at h4;have hsim:=hS.act (X':=XL (lO O N w5.heap.size) (lFix N) [] (some l)) rfl rfl rfl hS.sz hS.df hS.fr rfl;refine yD (zqb (by omega) (by omega) (by omega) (hXok B [] (some l) hBB) rfl rfl (fun ty=>lX_inv hN hG ty) (fun er he=>⟨(zlL he).1,by have:=(zlL he).2;omega⟩) β _ W hsim) ?_;rintro e a3 W' ⟨σ',β',h',hR⟩;have hso:=hsame hBB hS h';refine⟨?_,hso⟩;cases hst:zhz y fr acc with
  |error er=>
   rw[hst]at hR h4;obtain⟨rfl,hf⟩:=hR;exact .inr ⟨rfl,er,B,β',h4.symm,hBB,zir h' hf (by omega)⟩
  |ok acc'=>
   rw[hst]at hR h4;obtain⟨rfl,hf⟩:=hR;have h6:=(h'.fit hf (by show 5≤7;omega)).fit (σ':=⟨[],[(0,some (.hbox tD [⟨.lit,.slice none 0 0⟩])),(1,some (.box i64 (0:Int))),(2,some (.box i64 (0:Int))),(3,some (znQ 6)),(4,some (.box i64 ((fr+y.length+1:Nat):Int))),(6,some (.buf 37 de acc'))],7⟩) ⟨trivial,⟨rfl,rfl,rfl,rfl,rfl,rfl,trivial⟩,rfl,rfl⟩ (by show 5≤7;omega);have h7:=h6.renameK (L:=lRn) (m:=6) rfl rfl (by show 5≤6;omega) rfl rfl;exact .inl ⟨rfl,B,_,acc',fr+y.length+1,hBB,zir h7 ⟨trivial,⟨rfl,rfl,rfl,rfl,rfl,rfl,trivial⟩,rfl,rfl⟩ (by omega),znt h1 hst,hkl,by omega,h4⟩
 ·rintro W ⟨B,β,acc,fr,hBB,hS,h1,h2,h3,h4⟩ hdef;refine⟨.inl rfl,?_⟩;rw[j2]at h4;have h4:(acc,(0:Int),(0:Int))=za2 s:=h4;have hb:=fun k (hk:k < 5)=>(hS.fix.2 k hk).1;have hsim:=hS.act (X':=XL (lO O N w5.heap.size) (lFix N) [ldco w5.heap.size] none) (m:=47) (a':={ a5 with defers:={ target:=.collected w5.heap.size,args:=#[] }::a5.defers }) rfl rfl rfl hsz (by rw[hdf];rfl) (F:=lPF0) (zbv ⟨_,hb 0 (by omega),e2⟩ (zbv ⟨_,hb 1 (by omega),e3⟩ (zbv ⟨_,hb 2 (by omega),e4⟩ (zbv ⟨_,hb 3 (by omega),e5⟩ (zbv ⟨_,hb 4 (by omega),e6⟩ zfE))))) rfl;refine zca (m:=0) (yD (zog (hXok _ _ _ hBB) fr acc β _ W hsim) ?_);rintro e a' W' ⟨σ',β',h',rfl,hf⟩;have h6:=h'.fit hf (by show 5≤6;omega);have hso:=hsame hBB hS h6;obtain⟨u,q0,q1,hu⟩:=zoG h6 (i:=0) (by show 0 < 5;omega) rfl;obtain⟨c1,y1,q2,q3⟩:=zmf h6 (i:=1) (by show 1 < 5;omega) rfl;obtain⟨c2,y2,q4,q5⟩:=zmf h6 (i:=2) (by show 2 < 5;omega) rfl;have q3:c1=[.int .i64 0]:=q3;have q5:c2=[.int .i64 0]:=q5;subst q3;subst q5;have hb6:=fun k (hk:k < 5)=>(h6.fix.2 k hk).1;have k2:a'.tmps.getD 2 undef= .pointer (some ⟨N,0,none⟩):=by
   obtain⟨g,r1,r2⟩:∃ g,zah (β' 0)=some g∧a'.tmps.getD 2 undef= .pointer (some ⟨g,0,none⟩):=h6.fr 2;rw[hb6 0 (by omega)]at r1;cases r1;exact r2
  have k3:a'.tmps.getD 3 undef= .pointer (some ⟨N+1,0,none⟩):=by
   obtain⟨g,r1,r2⟩:∃ g,zah (β' 1)=some g∧a'.tmps.getD 3 undef= .pointer (some ⟨g,0,none⟩):=h6.fr 3;rw[hb6 1 (by omega)]at r1;cases r1;exact r2
  have k4:a'.tmps.getD 4 undef= .pointer (some ⟨N+2,0,none⟩):=by
   obtain⟨g,r1,r2⟩:∃ g,zah (β' 2)=some g∧a'.tmps.getD 4 undef= .pointer (some ⟨g,0,none⟩):=h6.fr 4;rw[hb6 2 (by omega)]at r1;cases r1;exact r2
  show LeavesInM yn 1 Tryz.prog Tryz.f19 a'.tmps (znc w O (za2 s)) a'.defers .returning W';rw[h6.df, <-h4];exact lfin hN (O':=OSet (XL (lO O N w5.heap.size) (lFix N) [ldco w5.heap.size] none) (sLT acc).E β') (fun g hg=>.inl (.inl hg)) (.inl (.inr (.inr (.inl rfl)))) (by omega) (zkW hN hs5 hb5 hBB h6.bel) ((hso.block _ (.inr (.inl rfl))).trans hdef) q1 k2 k3 k4 q0 q2 q4 hu
 ·rintro W ⟨er,B,β,hpe,hBB,hS⟩ hdef;refine⟨.inr rfl,?_⟩;obtain⟨u,q0,q1,hu⟩:=zoG hS (i:=0) (by show 0 < 5;omega) rfl;have hu:u= .slice none 0 0:=hu;subst hu;obtain⟨c1,y1,q2,q3⟩:=zmf hS (i:=1) (by show 1 < 5;omega) rfl;obtain⟨c2,y2,q4,q5⟩:=zmf hS (i:=2) (by show 2 < 5;omega) rfl;have q3:c1=[.int .i64 er.1]:=q3;have q5:c2=[.int .i64 er.2]:=q5;subst q3;subst q5;show LeavesInM yn 1 Tryz.prog Tryz.f19 a5.tmps (znc w O (za2 s)) (ldco w5.heap.size::a5.defers) .returning W;rw[hdf,hpe];exact lfin (acc:=[]) hN (O':=OSet (XL (lO O N w5.heap.size) (lFix N) [] none) (lRE er.1 er.2) β) (fun g hg=>.inl (.inl hg)) (.inl (.inr (.inr (.inl rfl)))) (by omega) (zkW hN hs5 hb5 hBB hS.bel) hdef q1 e2 e3 e4 q0 q2 q4 ⟨_,rfl,.inl ⟨rfl,none,0,rfl,zl _⟩⟩
end
end
section
attribute [local go_sem] jI
theorem zja {P:Program} {f:FuncId} {Q:Exit->Act->zi->Prop} {a:Act} {w:zi} {id:Nat} {c:Code} (h:zfx P f c (fun e a w=>(e= .normal∨e= .ret)∧Q e a w) a w):zfx P f (.block id c) Q a w:=by
 intro b k cs hb hro;have h0:(lone (b.atR a (.code (.block id c)::k)) cs w).fenced P yn:=fenced_wide P _;obtain⟨e,a1,w1,⟨he,hq⟩,harr⟩:=h b (.inBlock id::k) cs hb hro;rcases he with rfl|rfl
 ·exact⟨.normal,a1,w1,hq,.head h0 stepR_block (kI harr (.one (fenced_wide P _) stepR_inBlock))⟩
 ·exact⟨_,a1,w1,hq,.of_steps (.one h0 stepR_block) harr⟩
noncomputable def zo7:Ctr:={ args:=[.str],pre:=fun _=>[],res:=zrs,own:=none,out:=fun x=>((za2 x.1).1,(za2 x.1).2.1,(za2 x.1).2.2,()) }
set_option maxHeartbeats 1000000 in
theorem zkK:yM Tryz.prog gmH 19 zo7:=by
 refine⟨Tryz.call19,fun w O xs vs hO hr hp hG=>?_⟩;obtain⟨(s:List UInt8),_⟩:=xs;obtain⟨v1,r1,rfl,e1,rfl⟩:=hr;have e1: [v1]=[Value.string ⟨s.toArray⟩]∧s.length≤maxLen:=e1;obtain⟨e1,hmax⟩:=e1;cases e1;refine callsIn_wide.1 (zez (m:=1) Tryz.func19 rfl ?_);simp only[Tryz.ntmps19,qc,zs,z7,Nat.reduceAdd,Nat.reduceSub,j7,j8,vQ,ve,yN,y9];change zfx _ _ _ (bodyPostM yn 1 Tryz.prog Tryz.f19 (znc w O (za2 s))) _ _;generalize hQ:bodyPostM yn 1 Tryz.prog Tryz.f19 _=Q;refine zb4 (zca (m:=1) ?_)
 gi_wp2
 refine zb4 (zca (m:=1) ?_)
 gi_wp2
 ·rename_i hlong;have hP:za2 s=([],0,2):=if_pos (by omega);rw[<-hQ,hP];refine⟨_,zok (g2:=w.heap.size) (g3:=w.heap.size+1) (g4:=w.heap.size+1+1) (u:=.slice none 0 0) (x:=0) (y:=2) (t2:=tD) (t3:=3) (t4:=25) rfl rfl rfl rfl ?_ ?_ ?_,_,rfl,((((zO _ w).alloc (zk _) _).alloc (by simp) _).alloc (by simp;omega) _),znW (acc:=[]) ⟨_,rfl,.inl ⟨rfl,none,0,rfl,zl _⟩⟩⟩
  ·exact zaR _ (zaR _ (zbL _ rfl))
  ·exact zaR _ (zbL _ (by simp))
  ·exact zbL _ (by simp)
 rename_i hshort;have hlen:s.length≤1048576:=by omega
 refine zb4 (zca (m:=1) ?_)
 gi_wp2
 refine zb4 (zca (m:=1) ?_)
 gi_wp2
 refine zb4 (zb4 (zca (m:=1) ?_))
 gi_wp2
 refine⟨trivial,(callsIn_wide.2 (zin _ _ _)).mono ?_⟩;rintro e w' ⟨rfl,rfl⟩
 gi_wp2
 refine zja ?_;obtain⟨w4,hw4⟩:∃ w4:zi,w4=(((((w.alloc (.cells #[.slice none 0 0] tD)).alloc (.cells #[.int .i64 0] 3)).alloc (.cells #[.int .i64 0] 25)).alloc (.cells #[.slice none 0 0] tD)).alloc (.cells #[.int .i64 0] 3)):=⟨_,rfl⟩;rw[<-hw4, <-hQ];have hs4:w4.heap.size=w.heap.size+5:=by rw[hw4];simp
 have hb4:yJ w.heap.size w w4:=by rw[hw4];exact ((((((zO _ w).alloc (zk _) _).alloc (by simp) _).alloc (by simp;omega) _).alloc (by simp;omega) _).alloc (by simp;omega) _)
 have b0:w4.heap[w.heap.size]? =some (.cells #[.slice none 0 0] tD (0,0)):=by rw[hw4];exact zaR _ (zaR _ (zaR _ (zaR _ (zbL _ rfl))))
 have b1:w4.heap[w.heap.size+1]? =some (.cells #[.int .i64 0] 3 (0,0)):=by rw[hw4];exact zaR _ (zaR _ (zaR _ (zbL _ (by simp))))
 have b2:w4.heap[w.heap.size+2]? =some (.cells #[.int .i64 0] 25 (0,0)):=by rw[hw4];exact zaR _ (zaR _ (zbL _ (by simp)))
 have b3:w4.heap[w.heap.size+3]? =some (.cells #[.slice none 0 0] tD (0,0)):=by rw[hw4];exact zaR _ (zbL _ (by simp))
 have b4:w4.heap[w.heap.size+4]? =some (.cells #[.int .i64 0] 3 (0,0)):=by rw[hw4];exact zbL _ (by simp)
 have hb5:yJ w.heap.size w (itW w4 ⟨s.toArray⟩ ⟨#[10]⟩):=hb4.trans ((((zO _ w4).alloc (zk _) _).alloc (by simp) _).alloc (by simp;omega) _ |>.mono hb4.size);have i0:(itW w4 ⟨s.toArray⟩ ⟨#[10]⟩).heap[w.heap.size+5]? =some (.cells #[.string ⟨s.toArray⟩] 9 (0,0)):=zaR _ (zaR _ (zbL _ hs4));have i1:(itW w4 ⟨s.toArray⟩ ⟨#[10]⟩).heap[w.heap.size+6]? =some (.cells #[.string ⟨#[10]⟩] 9 (0,0)):=zaR _ (zbL _ (by simp[hs4]));have i2:(itW w4 ⟨s.toArray⟩ ⟨#[10]⟩).heap[w.heap.size+7]? =some (.cells #[.int .i64 0] 3 (0,0)):=zbL _ (by simp[hs4]);have hs5:(itW w4 ⟨s.toArray⟩ ⟨#[10]⟩).heap.size=w.heap.size+8:=by simp[itW,hs4]
 have hit:itV w4= .func (.func 145) #[] #[.pointer (some ⟨w.heap.size+6,0,none⟩),.pointer (some ⟨w.heap.size+5,0,none⟩),.pointer (some ⟨w.heap.size+7,0,none⟩)]:=by unfold itV;rw[hs4]
 have hl:∀ g (o:Obj),w4.heap[g]? =some o->(itW w4 ⟨s.toArray⟩ ⟨#[10]⟩).heap[g]? =some o:=fun g o hg=>zaR _ (zaR _ (zaR _ hg));exact zol rfl hO hG hlen hs5 hb5 (hl _ _ b0) (hl _ _ b1) (hl _ _ b2) (hl _ _ b3) (hl _ _ b4) i0 i1 i2 rfl rfl rfl rfl rfl rfl hit rfl
end
section
set_option maxRecDepth 10000
section
variable {s:List UInt8}
def Scn (s:List UInt8) (st:GSt):Prop:=∃ o,st.1=zbJ s o
theorem zpF {o:Int} (h:Tok.cls (zbJ s o)=2):zE (zbJ s o)≠ []∧(zE (zbJ s o)).head?.all isLt=true∧(zE (zbJ s o)).all isPt=true:=by
 have h1:zE (zbJ s o)=zE (za1 (s.drop o.toNat)):=rfl;have h2:Tok.cls (zbJ s o)=Tok.cls (za1 (s.drop o.toNat)):=rfl;rw[h2]at h;rw[h1];rw[zgF]at h ⊢;generalize ((zaV isWh (s.drop o.toNat):Nat):Int)=k at *;generalize (s.drop o.toNat).drop (zaV isWh (s.drop o.toNat))=u at *;unfold zcD at h ⊢;cases u with
 |nil=>cases h
 |cons c r=>
  simp only[]at h ⊢;split at h
  ·cases h
  ·rename_i h0;split at h
   ·rename_i h1;rw[if_neg h0,if_pos h1];show r.take (zas r)≠ []∧(r.take (zas r)).head?.all isLt=true∧(r.take (zas r)).all isPt=true;obtain⟨_,hw⟩:=h1;cases r with
    |nil=>exact absurd hw (by decide)
    |cons d q=>
     have hd:isLt d=true:=by
      cases hd:isLt d with
      |true=>rfl
      |false=>
       have:zas (d::q)=0:=by show (if isLt d then zaV isPt (d::q) else 0)=0;rw[hd];rfl
       omega
     have hp:=(zlI d hd).1;have hwl:zas (d::q)=((d::q).takeWhile isPt).length:=by show (if isLt d then zaV isPt (d::q) else 0)=_;rw[if_pos hd];rfl
     have ht:(d::q).take (zas (d::q))=(d::q).takeWhile isPt:=by
      rw[hwl];exact (List.prefix_iff_eq_take.1 (List.takeWhile_prefix isPt)).symm
     rw[ht];refine⟨?_,?_,List.all_takeWhile⟩
     ·rw[xQ,hp];simp
     ·rw[xQ,hp];exact hd
   ·rename_i h1;split at h
    ·rename_i kk nn tt xx hn;have h:kk=2:=h;rcases (ze9 hn).1 with e|e<;>omega
    ·split at h<;>cases h
theorem zfB {st st':GSt} {w:List UInt8} (he:zaQ s st w= .ok st'):Scn s st':=by
 obtain⟨u,_,h2⟩:=zag he;cases h2;exact⟨_,rfl⟩
theorem zjt {st st':GSt} (he:zbu s st= .ok st'):Scn s st':=by
 obtain⟨u,_,h2⟩:=zag he;cases h2;exact⟨_,rfl⟩
theorem zdw {st st':GSt} {lo hi x:Int} (he:zaI s st lo hi= .ok (x,st')):Scn s st':=by
 obtain⟨_,_,he⟩:=zag he;obtain⟨_,_,he⟩:=zag he;cases he;exact⟨_,rfl⟩
theorem zjs {st st':GSt} {x:Int} (he:zcY s st= .ok (x,st')):Scn s st'∧(x=0∨x=1):=by
 obtain⟨_,_,he⟩:=zag he;cases he;refine⟨⟨_,rfl⟩,?_⟩;split
 ·exact .inr rfl
 ·exact .inl rfl
theorem zlw {lo hi:Int} {z:Bool} {x:Int} (h1:lo≤x) (h2:x≤hi) (h3:z=true∨x≠0):∀ {l:List Int} {last:Int},Ris lo hi z last l->l.getLast?.getD last < x->Ris lo hi z last (l++ [x])
 | [],_,_,h=>⟨h,h1,h2,h3,trivial⟩
 |y::r,last,h,hx=>by
  obtain⟨a,b,c,d,e⟩:=h;refine⟨a,b,c,d,zlw h1 h2 h3 e ?_⟩;rw[List.getLast?_cons]at hx;exact hx
theorem zh9 {lo hi:Int} {z:Bool}:∀ (k:Nat) {st st':GSt} {l l':List Int},GOk s st->zbI s lo hi z k st l= .ok (l',st')->l.length≤64->Ris lo hi z (lo - 1) l->l'≠ []∧l'.length≤64∧Ris lo hi z (lo - 1) l'
 |0,_,_,_,_,_,he,_,_=>by cases he
 |k+1,st,st',l,l',h,he,hlen,hr=>by
  unfold zbI at he;split at he
  ·rename_i hc;cases he;refine⟨fun e=>?_,hlen,hr⟩;rw[e]at hc;exact absurd hc (by simp)
  ·obtain⟨_,_,he⟩:=zag he;obtain⟨_,c2,he⟩:=zag he;obtain⟨_,c3,he⟩:=zag he;obtain⟨⟨x,st1⟩,h1,he⟩:=zag he;have c2:=of_decide_eq_true (zaK c2);have c3:=zaK c3;rw[zb,decide_eq_true_iff,ya,bne_iff_ne]at c3;have h2:=zam h h1;have hx:Tok.n st.1=x:=by
    obtain⟨_,_,he⟩:=zag h1;obtain⟨_,_,he⟩:=zag he;cases he;rfl
   rw[hx]at c3;exact zh9 k h2.1.1 he (by rw[zh,yH];omega) (zlw h2.2.1 h2.2.2 c3.2 hr c3.1)
theorem zdc {st st':GSt} {lo hi:Int} {z:Bool} {l:List Int} (h:GOk s st) (he:zcG s st lo hi z= .ok (l,st')):(l≠ []∧l.length≤64∧Ris lo hi z (lo - 1) l)∧Scn s st':=by
 unfold zcG at he;obtain⟨st1,h1,he⟩:=zag he;obtain⟨⟨l1,st2⟩,h2,he⟩:=zag he;obtain⟨st3,h3,he⟩:=zag he;cases he;exact⟨zh9 _ (zbf h h1).1 h2 (zl _) trivial,zfB h3⟩
end
theorem zq0 {lo hi:Int} {z:Bool}:∀ {l:List Int} {last:Int},Ris lo hi z last l->∀ i,i < l.length->(lo≤l.getD i 0∧l.getD i 0≤hi)∧(0 < i->l.getD (i - 1) 0 < l.getD i 0)∧(z=true∨l.getD i 0≠0)
 | [],_,_,i,hi=>absurd hi (Nat.not_lt_zero _)
 |x::r,last,h,i,hi=>by
  obtain⟨a,b,c,d,e⟩:=h;cases i with
  |zero=>exact⟨⟨b,c⟩,fun h=>absurd h (Nat.lt_irrefl _),d⟩
  |succ i=>
   obtain⟨h1,h2,h3⟩:=zq0 e i (by rw[zs]at hi;omega);refine⟨h1,fun _=>?_,h3⟩;cases i with
   |zero=>
    cases r with
    |nil=>rw[zs,z7]at hi;omega
    |cons y r=>exact e.1
   |succ i=>exact h2 (by omega)
theorem zgZ {l:List Int} {lo hi:Int} {z:Bool} (h0:¬ (lo=0∧hi=0)) (hz:z=decide (¬ lo < 0)) (hne:l≠ []) (h:Ris lo hi z (lo - 1) l):zaS l (lo,hi,())=true:=by
 have hz0:zgY (lo,hi,())=false:=by
  rw[qf];intro e;unfold zgY at e;rw[zb,beq_iff_eq,beq_iff_eq]at e;exact h0 e
 unfold zaS;rw[hz0,cond_false,zb,decide_eq_true_iff,List.all_eq_true];refine⟨fun i hi=>?_,by have:=List.length_pos_iff.2 hne;omega⟩;obtain⟨⟨a,b⟩,c,d⟩:=zq0 h i (yk.1 hi);rw[zy];unfold zhr;simp only[Bool.or_eq_false_iff,y8,zaJ,Bool.and_eq_false_iff,decide_eq_false_iff_not,beq_eq_false_iff_ne];refine⟨⟨⟨a,b⟩,?_⟩,?_⟩
 ·by_cases e:0 < i
  ·exact .inr (by have:=c e;omega)
  ·exact .inl e
 ·rcases d with d|d
  ·rw[hz]at d;exact .inr (of_decide_eq_true d)
  ·exact .inl d
theorem and4 {a b c d:Bool} (ha:a=true) (hb:b=true) (hc:c=true) (hd:d=true):((true&&a)&&(b&&(true&&(c&&d))))=true:=by rw[ha,hb,hc,hd];rfl
theorem zcy {n lo hi:Int} (h:lo≤n∧n≤hi):inB n lo hi=true:=zaJ.2 h
section
variable {s:List UInt8}
theorem zqu {st st':GSt} {n:Nd} (h:GOk s st):∀ (w:LeafW),zcN s st w= .ok (n,st')->TrOk (.leaf n)∧Scn s st'
 | .days,he=>by
  obtain⟨⟨x,a⟩,h1,he⟩:=zag he;obtain⟨⟨y,b⟩,h2,he⟩:=zag he;cases he;have k1:=zam h h1;have k2:=zam k1.1.1 h2;refine⟨⟨?_,by show ¬ ((8:Int)≤1∧_);omega,rfl,fun _=>rfl⟩,zdw h2⟩;exact and4 (a:=true) (b:=true) (c:=true) rfl rfl rfl (show (bif inB x 1 1099511627776 then inB y 0 1099511627776 else false)=true by rw[zcy (hi:=1099511627776) k1.2,zcy (hi:=1099511627776) k2.2];rfl)
 | .years,he=>by
  obtain⟨⟨c,a⟩,h0,he⟩:=zag he;obtain⟨⟨x,b⟩,h1,he⟩:=zag he;obtain⟨⟨y,d⟩,h2,he⟩:=zag he;cases he;have k0:=zam h h0;have k1:=zam k0.1.1 h1;have k2:=zam k1.1.1 h2;refine⟨⟨?_,by show ¬ ((8:Int)≤2∧_);omega,rfl,fun _=>rfl⟩,zdw h2⟩;exact and4 (a:=true) (b:=inB c 0 2) (c:=true) rfl (zcy k0.2) rfl (show (bif inB x 1 400 then inB y 0 (x - 1) else false)=true by rw[zcy k1.2,zcy k2.2];rfl)
 | .months,he=>by
  obtain⟨⟨c,a⟩,h0,he⟩:=zag he;obtain⟨⟨l,b⟩,h1,he⟩:=zag he;cases he;have k0:=zam h h0;obtain⟨⟨a1,a2,a3⟩,sc⟩:=zdc k0.1.1 h1;refine⟨⟨?_,by show ¬ ((8:Int)≤3∧_);omega,rfl,fun _=>rfl⟩,sc⟩;exact and4 (a:=decide (l.length≤64)) (b:=inB c 0 2) (c:=zaS l (1,16,())) (d:=true) (decide_eq_true a2) (zcy k0.2) (zgZ (by decide) (by decide) a1 a3) rfl
 | .monthdays,he=>by
  obtain⟨⟨c,a⟩,h0,he⟩:=zag he;obtain⟨⟨l,b⟩,h1,he⟩:=zag he;cases he;have k0:=zam h h0;obtain⟨⟨a1,a2,a3⟩,sc⟩:=zdc k0.1.1 h1;refine⟨⟨?_,by show ¬ ((8:Int)≤4∧_);omega,rfl,fun _=>rfl⟩,sc⟩;exact and4 (a:=decide (l.length≤64)) (b:=inB c 0 2) (c:=zaS l (-40,40,())) (d:=true) (decide_eq_true a2) (zcy k0.2) (zgZ (by decide) (by decide) a1 a3) rfl
 | .weekdays,he=>by
  obtain⟨⟨l,b⟩,h1,he⟩:=zag he;cases he;obtain⟨⟨a1,a2,a3⟩,sc⟩:=zdc h h1;refine⟨⟨?_,by show ¬ ((8:Int)≤5∧_);omega,rfl,fun _=>rfl⟩,sc⟩;exact and4 (a:=decide (l.length≤64)) (b:=true) (c:=zaS l (0,6,())) (d:=true) (decide_eq_true a2) rfl (zgZ (by decide) (by decide) a1 a3) rfl
 | .weeks,he=>by
  obtain⟨⟨c,a⟩,h0,he⟩:=zag he;obtain⟨⟨l,b⟩,h1,he⟩:=zag he;cases he;have k0:=zam h h0;obtain⟨⟨a1,a2,a3⟩,sc⟩:=zdc k0.1.1 h1;refine⟨⟨?_,by show ¬ ((8:Int)≤6∧_);omega,rfl,fun _=>rfl⟩,sc⟩;exact and4 (a:=decide (l.length≤64)) (b:=inB c 0 2) (c:=zaS l (1,54,())) (d:=true) (decide_eq_true a2) (zcy k0.2) (zgZ (by decide) (by decide) a1 a3) rfl
 | .nth,he=>by
  obtain⟨⟨c,a⟩,h0,he⟩:=zag he;obtain⟨_,hz,he⟩:=zag he;obtain⟨⟨x,b⟩,h1,he⟩:=zag he;obtain⟨⟨y,d⟩,h2,he⟩:=zag he;obtain⟨⟨u,e⟩,h3,he⟩:=zag he;cases he;have k0:=zam h h0;have k1:=zam k0.1.1 h1;have k2:=zam k1.1.1 h2;obtain⟨sc,hu⟩:=zjs h3;have hz:=zaK hz;obtain⟨_,c1,hm⟩:=zag h1;obtain⟨_,_,hm⟩:=zag hm;have hx:Tok.n a.1=x:=by cases hm;rfl
  have c1:=beq_iff_eq.1 (zaK c1);rw[c1,hx]at hz;have hx0:x≠0:=by simpa using hz
  refine⟨⟨?_,by show ¬ ((8:Int)≤7∧_);omega,rfl,fun e=>absurd rfl e⟩,sc⟩;refine and4 (a:=true) (b:=inB c 0 2) (c:=true) rfl (zcy k0.2) rfl (show (bif (bif (bif inB x (-60) 60 then !(x==0) else false) then inB y 0 6 else false) then inB u 0 1 else false)=true from ?_);rw[zcy k1.2,zcy k2.2,zcy (n:=u) (lo:=0) (hi:=1) (by omega),beq_eq_false_iff_ne.2 hx0];rfl
theorem zoL {st st':GSt} {n:Nd} (h:GOk s st):∀ (w:SufW),gSuf s st w= .ok (n,st')->(zbr n=true∧(ndL n=0∧ndR n=0)∧(match w with | .behind=>ndK n=17|_=>11≤ndK n∧ndK n≤16))∧Scn s st'
 | .shift,he=>by
  obtain⟨⟨x,a⟩,h1,he⟩:=zag he;cases he;have k1:=zam h h1;refine⟨⟨?_,⟨rfl,rfl⟩,by show (11:Int)≤11∧(11:Int)≤16;omega⟩,zdw h1⟩;exact and4 (a:=true) (b:=true) (c:=true) rfl rfl rfl (show (bif inB x (-1099511627776) 1099511627776 then true else false)=true by rw[zcy (lo:=-1099511627776) (hi:=1099511627776) k1.2];rfl)
 | .from_,he=>by
  obtain⟨⟨x,a⟩,h1,he⟩:=zag he;cases he;have k1:=zam h h1;refine⟨⟨?_,⟨rfl,rfl⟩,by show (11:Int)≤12∧(12:Int)≤16;omega⟩,zdw h1⟩;exact and4 (a:=true) (b:=true) (c:=true) rfl rfl rfl (show (bif inB x 0 1099511627776 then true else false)=true by rw[zcy (hi:=1099511627776) k1.2];rfl)
 | .until_,he=>by
  obtain⟨⟨x,a⟩,h1,he⟩:=zag he;cases he;have k1:=zam h h1;refine⟨⟨?_,⟨rfl,rfl⟩,by show (11:Int)≤13∧(13:Int)≤16;omega⟩,zdw h1⟩;exact and4 (a:=true) (b:=true) (c:=true) rfl rfl rfl (show (bif inB x 0 1099511627776 then true else false)=true by rw[zcy (hi:=1099511627776) k1.2];rfl)
 | .also,he=>by
  obtain⟨⟨l,b⟩,h1,he⟩:=zag he;cases he;obtain⟨⟨a1,a2,a3⟩,sc⟩:=zdc h h1;refine⟨⟨?_,⟨rfl,rfl⟩,by show (11:Int)≤14∧(14:Int)≤16;omega⟩,sc⟩;exact and4 (a:=decide (l.length≤64)) (b:=true) (c:=zaS l (0,1099511627776,())) (d:=true) (decide_eq_true a2) rfl (zgZ (by decide) (by decide) a1 a3) rfl
 | .except_,he=>by
  obtain⟨⟨l,b⟩,h1,he⟩:=zag he;cases he;obtain⟨⟨a1,a2,a3⟩,sc⟩:=zdc h h1;refine⟨⟨?_,⟨rfl,rfl⟩,by show (11:Int)≤15∧(15:Int)≤16;omega⟩,sc⟩;exact and4 (a:=decide (l.length≤64)) (b:=true) (c:=zaS l (0,1099511627776,())) (d:=true) (decide_eq_true a2) rfl (zgZ (by decide) (by decide) a1 a3) rfl
 | .pos,he=>by
  obtain⟨⟨c,a⟩,h0,he⟩:=zag he;obtain⟨⟨m,b⟩,h1,he⟩:=zag he;obtain⟨⟨l,d⟩,h2,he⟩:=zag he;cases he;have k0:=zam h h0;obtain⟨_,hm⟩:=zjs h1;obtain⟨⟨a1,a2,a3⟩,sc⟩:=zdc (zdA k0.1.1 h1).1 h2;refine⟨⟨?_,⟨rfl,rfl⟩,by show (11:Int)≤16∧(16:Int)≤16;omega⟩,sc⟩;exact and4 (a:=decide (l.length≤64)) (b:=inB c 0 2) (c:=zaS l (-400,400,())) (d:=inB m 0 1) (decide_eq_true a2) (zcy k0.2) (zgZ (by decide) (by decide) a1 a3) (zcy (by omega))
 | .behind,he=>by
  obtain⟨⟨x,a⟩,h1,he⟩:=zag he;obtain⟨b,h2,he⟩:=zag he;cases he;have k1:=zam h h1;refine⟨⟨?_,⟨rfl,rfl⟩,rfl⟩,zfB h2⟩;exact and4 (a:=true) (b:=true) (c:=true) rfl rfl rfl (show (bif inB x 1 400 then true else false)=true by rw[zcy k1.2];rfl)
def mdOk:Md->Prop
 | .binL i t=>i≤2∧TrOk t
 | .chainL t=>TrOk t
 |_=>True
theorem opK_ok {i:Nat} (h:i≤2):zbr (opK i,zNd.2)=true∧(8≤opK i∧opK i≤10):=by
 rcases (show i=0∨i=1∨i=2 by omega) with rfl|rfl|rfl
 ·exact⟨by decide+kernel,by decide⟩
 ·exact⟨by decide+kernel,by decide⟩
 ·exact⟨by decide+kernel,by decide⟩
theorem zdS:∀ (k:Nat) (md:Md) (st st':GSt) (t:Tr),GOk s st->Scn s st->mdOk md->prs s k md st= .ok (t,st')->TrOk t∧Scn s st'
 |0,_,_,_,_,_,_,_,he=>by cases he
 |k+1,.bin i,st,st',t,h,hs,hm,he=>by
  unfold prs at he;rw[zaW]at he;split at he
  ·exact zdS k .chain _ _ _ h hs (by exact trivial) he
  ·rename_i hi;obtain⟨⟨u,a⟩,h1,he⟩:=zag he;obtain⟨t1,s1⟩:=zdS k _ _ _ _ h hs (by exact trivial) h1;have k1:=zds h (zbj k _ _ _ _ h h1);exact zdS k _ _ _ _ k1 s1 (by exact⟨by omega,t1⟩) he
 |k+1,.binL i t0,st,st',t,h,hs,hm,he=>by
  unfold prs at he;rw[zaW]at he;split at he
  ·rename_i hi;obtain⟨a,h1,he⟩:=zag he;obtain⟨⟨u,b⟩,h2,he⟩:=zag he;have k1:=(zaP h (zcv hi) h1).1;obtain⟨t1,s1⟩:=zdS k _ _ _ _ k1 (zjt h1) (by exact trivial) h2;have k2:=zds k1 (zbj k _ _ _ _ k1 h2);obtain⟨f1,f2⟩:=opK_ok hm.1;exact zdS k _ _ _ _ k2 s1 (by exact⟨hm.1,f1,.inl f2,⟨rfl,rfl⟩,hm.2,t1⟩) he
  ·cases he;exact⟨hm.2,hs⟩
 |k+1,.chain,st,st',t,h,hs,hm,he=>by
  unfold prs at he;rw[zaW]at he;obtain⟨⟨u,a⟩,h1,he⟩:=zag he;obtain⟨t1,s1⟩:=zdS k _ _ _ _ h hs (by exact trivial) h1;have k1:=zds h (zbj k _ _ _ _ h h1);exact zdS k _ _ _ _ k1 s1 (by exact t1) he
 |k+1,.chainL t0,st,st',t,h,hs,hm,he=>by
  unfold prs at he;rw[zaW]at he;split at he
  ·rename_i hc;split at he
   ·cases he;exact⟨hm,hs⟩
   ·obtain⟨a,h1,he⟩:=zag he;obtain⟨⟨n,b⟩,h2,he⟩:=zag he;obtain⟨⟨u,c⟩,h3,he⟩:=zag he;have k1:=(zaP h (by rw[hc];decide) h1).1;have k2:=(zcT k1 _ h2).1;obtain⟨⟨f1,f2,f3⟩,s2⟩:=zoL k1 _ h2;obtain⟨t3,s3⟩:=zdS k _ _ _ _ k2 s2 (by exact trivial) h3;have k3:=zds k2 (zbj k _ _ _ _ k2 h3);exact zdS k _ _ _ _ k3 s3 (by exact⟨f1,.inr f3,f2,hm,t3⟩) he
   ·rename_i w hb hw;obtain⟨a,h1,he⟩:=zag he;obtain⟨⟨n,b⟩,h2,he⟩:=zag he;have k1:=(zaP h (by rw[hc];decide) h1).1;have k2:=(zcT k1 _ h2).1;obtain⟨⟨f1,f2,f3⟩,s2⟩:=zoL k1 _ h2;have f4:11≤ndK n∧ndK n≤16:=by
     cases w with
     |behind=>exact absurd rfl hb
     |shift=>exact f3
     |from_=>exact f3
     |until_=>exact f3
     |also=>exact f3
     |except_=>exact f3
     |pos=>exact f3
    exact zdS k _ _ _ _ k2 s2 (by exact⟨f1,f4,f2,hm⟩) he
  ·cases he;exact⟨hm,hs⟩
 |k+1,.prim,st,st',t,h,hs,hm,he=>by
  unfold prs at he;rw[zaW]at he;split at he
  ·rename_i hi;obtain⟨⟨u,a⟩,h1,he⟩:=zag he;obtain⟨b,h2,he⟩:=zag he;cases he;have k0:=zbV h (zcv hi);exact⟨(zdS k _ _ _ _ k0.1 ⟨_,rfl⟩ (by exact trivial) h1).1,zfB h2⟩
  ·split at he
   ·rename_i hc;obtain⟨_,h0,he⟩:=zag he;obtain⟨a,h1,he⟩:=zag he;cases he;refine⟨⟨?_,by show ¬ ((8:Int)≤18∧(18:Int)≤17);omega,rfl,fun _=>rfl⟩,zjt h1⟩;have hl:=of_decide_eq_true (zaK h0);obtain⟨o,ho⟩:=hs;rw[ho]at hc hl ⊢;obtain⟨r1,r2,r3⟩:=zpF hc;generalize zE (zbJ s o)=w at *;refine and4 (a:=true) (b:=true) (c:=zev w) (d:=true) rfl rfl ?_ rfl;unfold zev;rw[decide_eq_true r1,decide_eq_true hl,r2,r3];rfl
   ·obtain⟨_,h0,he⟩:=zag he;have hc:=zaK h0;rw[beq_iff_eq]at hc;split at he
    ·cases he
    ·obtain⟨a,h1,he⟩:=zag he;obtain⟨⟨n,b⟩,h2,he⟩:=zag he;cases he;have k1:=(zaP h (by rw[hc];decide) h1).1;exact zqu k1 _ h2
theorem zqs {st st':GSt} {t:Tr} (h:GOk s st) (hs:Scn s st) (he:zdB s st= .ok (t,st')):TrOk t∧st'.2=st.2+(t.size:Int)∧GOk s st':=by
 unfold zdB at he;obtain⟨⟨u,a⟩,h1,he⟩:=zag he;obtain⟨_,h2,he⟩:=zag he;cases he;exact⟨(zdS _ _ _ _ _ h hs (by exact trivial) h1).1,zgS h1,(zc6 h h1).1⟩
theorem zpY {t:Tr} (he:zcj s= .ok t):TrOk t∧t.size≤64:=by
 unfold zcj at he;cases hr:zdB s (zfN s) with
 |error e=>rw[hr]at he;cases he
 |ok p=>
  rw[hr]at he;cases he;obtain⟨h1,h2,h3⟩:=zqs (st':=p.2) (t:=p.1) zdP ⟨_,rfl⟩ hr;refine⟨h1,?_⟩;have:=h3.2.2;have h2:p.2.2=0+(p.1.size:Int):=h2;show p.1.size≤64;omega
end
def tx_sA:List UInt8:=[100,97,121,115,32,55,32,51,32,111,114,32,40,64,102,114,101,101,32,115,104,105,102,116,32,45,49,41]
def tx_sB:List UInt8:=[35,32,104,111,108,105,100,97,121,115,10,102,114,101,101,32,61,32,119,101,101,107,100,97,121,115,32,40,53,32,54,41,10,10,111,114,32,61,32,64,102,114,101,101,32,115,104,105,102,116,32,49]
def tx_sC:List UInt8:=[102,114,101,101,32,119,101,101,107,100,97,121,115,32,40,53,41]
def zji:List UInt8:=[100,97,121,115,32,55,32,51,32,111,114,32,64,102,114,101,101,32,115,104,105,102,116,32,45,49]
def zpw:List UInt8:=[102,114,101,101,32,61,32,119,101,101,107,100,97,121,115,32,40,53,32,54,41,10,111,114,32,61,32,64,102,114,101,101,32,115,104,105,102,116,32,49,10]
def zry:List UInt8:=[100,97,121,115,32,48,32,51]
def zrx:List UInt8:=[109,111,110,116,104,115,32,48,32,40,50,32,50,41]
def zrw:List UInt8:=[100,97,121,115,32,48,55,32,51]
def zrv:List UInt8:=[119,101,101,107,100,97,121,115,32,40,41]
def zru:List UInt8:=[100,97,121,115,32,55]
def zrt:List UInt8:=[]
def zeX:List UInt8:=[102,114,101,101]
def znk:List UInt8:=[111,114]
def sanR:List Nd:=[(1,0,0,0,7,3,[],[],()),(18,0,0,0,0,0,[],zeX,()),(11,0,1,0,-1,0,[],[],()),(9,0,0,2,0,0,[],[],())]
def sanL:List De:=[(zeX,[(5,0,0,0,0,0,[5,6],[],())],()),(znk,[(18,0,0,0,0,0,[],zeX,()),(11,0,0,0,1,0,[],[],())],())]
theorem sanA:zbb tx_sA=(sanR,0,0):=by kernel_rfl
theorem san1:zbb zry=([],5,1):=by kernel_rfl
theorem san2:zbb zrx=([],12,1):=by kernel_rfl
theorem san3:zbb zrw=([],5,3):=by kernel_rfl
theorem san4:zbb zrv=([],10,3):=by kernel_rfl
theorem san5:zbb zru=([],6,3):=by kernel_rfl
theorem san6:zbb zrt=([],0,3):=by kernel_rfl
theorem sanF:fmtS sanR=(zji,0):=by kernel_rfl
theorem sanN:fmtS []=([],1):=by kernel_rfl
theorem sanG:zbh sanL=(zpw,0):=by kernel_rfl
def zr0 (y:List UInt8):Bool:=(!decide (y.take 1=[35]))&&decide (zaV isWh y < y.length)
theorem zqa (y:List UInt8):zg0 y=zr0 y:=by
 unfold zg0 zr0 zjW;rw[zdD];have:(decide (zd ([35]:List UInt8)≤y.length)&&decide (y.take (zd ([35]:List UInt8))=[35]))=decide (y.take 1=[35]):=by
  cases y with
  |nil=>rfl
  |cons c q=>rw[decide_eq_true (by simp:zd ([35]:List UInt8)≤(c::q).length),Bool.true_and];rfl
 rw[this]
def zpC (y:List UInt8) (fr:Nat) (acc:List De):Except (Int×Int) (List De):=
 if zr0 y=true then
  if 4000 < y.length then .error ((fr:Int),2)
  else match zgf y ((acc.length:Nat):Int) with
   | .ok d=>.ok (acc++ [d])
   | .error e=>if e.2=0 then .ok acc else .error ((fr:Int)+e.1,e.2)
 else .ok acc
theorem zpB (y:List UInt8) (fr:Nat) (acc:List De):zhz y fr acc=zpC y fr acc:=by
 unfold zhz zpC;rw[zqa]
 all_goals rfl
def libC:List (List UInt8)->Nat->List De->List De×Int×Int
 | [],_,acc=>(acc,0,0)
 |y::r,fr,acc=>match zpC y fr acc with
  | .error e=>([],e.1,e.2)
  | .ok acc'=>libC r (fr+y.length+1) acc'
theorem zon:∀ (l:List (List UInt8)) (fr:Nat) (acc:List De),libK l fr acc=libC l fr acc
 | [],_,_=>rfl
 |y::r,fr,acc=>by
  unfold libK libC;rw[zpB];cases zpC y fr acc with
  |error e=>rfl
  |ok a=>exact zon r _ a
def zjF (s:List UInt8):List De×Int×Int:=if 1048576 < s.length then ([],0,2) else libC (segs s) 0 []
theorem zf3 (s:List UInt8):za2 s=zjF s:=by
 unfold za2 zjF;rw[zon]
theorem sanB:za2 tx_sB=(sanL,0,0):=(zf3 _).trans (by kernel_rfl)
theorem sanC:za2 tx_sC=([],5,3):=(zf3 _).trans (by kernel_rfl)
def zci (s:List UInt8) (at' e:Int):Bool:=(((((zbb s).1.length:Nat):Int)==0)&&((zbb s).2.1==at'))&&((zbb s).2.2==e)
def zrd:Ctr:={ args:=[.str,i64,i64],pre:=fun _=>[],res:=.bool,own:=none,out:=fun x=>zci x.1 x.2.1 x.2.2.1 }
def kPa:Kn:={ gmK with C:=[(16,zmc)] }
theorem zlO:KnOk Tryz.prog gmH kPa:=zak.with (.cons ziz .nil)
theorem zpv:yM Tryz.prog gmH 42 zrd:=by
 refine zar (K:=kPa) zlO Tryz.func42 rfl rfl Tryz.call42 rfl (by decide) (by intro h;cases h) ?_;rintro w0 X hX ⟨(s:List UInt8),(at':Int),(e:Int),_⟩ hp;change AWP _ _ _ _ _ ⟨[(0,⟨.str,s⟩),(1,⟨i64,at'⟩),(2,⟨i64,e⟩)],[],0⟩ _;refine za (za ?_);refine zaa hX zlO rfl ?_ ?_
 ·trivial
 refine za (za ?_);refine zaa hX zlO rfl ?_ ?_
 ·trivial
 refine za (za ?_);refine zaa hX zlO rfl ?_ ?_
 ·repeat'(first|exact trivial|assumption|(refine⟨?_,?_⟩)|(intro _)|exact zf rfl|exact zu _|(simp_all [allP];done))
 refine zq ⟨.inr rfl,zay rfl trivial rfl rfl ?_⟩;show (bif (bif ((((zbb s).1.length:Nat):Int)==0) then (zbb s).2.1==at' else false) then (zbb s).2.2==e else false)=zci s at' e;rw[zdk,zdk];rfl
def zo6:Ctr:={ args:=[],pre:=fun _=>[],res:=.bool,own:=none,out:=fun _=>true }
noncomputable def kSan:Kn:={ gmK with C:=[(16,zmc),(24,cFmt),(19,zo7),(26,cFmtL),(18,cSame),(42,zrd)] }
theorem zcS:KnOk Tryz.prog gmH kSan:=zak.with (.cons ziz <| .cons zj6 <| .cons zkK <| .cons zoN <| .cons zrM <| .cons zpv .nil)
theorem vStr {x y:List UInt8} (h:x=y):(⟨.str,x⟩:V)=⟨.str,y⟩:=by rw[h]
theorem vRul {x y:List Nd} (h:x=y):(⟨.slice nd,x⟩:V)=⟨.slice nd,y⟩:=by rw[h]
theorem vDes {x y:List De} (h:x=y):(⟨.slice de,x⟩:V)=⟨.slice de,y⟩:=by rw[h]
set_option maxHeartbeats 2000000 in
theorem znJ:yM Tryz.prog gmH 15 zo6:=by
 refine zar (K:=kSan) zcS Tryz.func15 rfl rfl Tryz.call15 rfl (by decide) (by intro h;cases h) ?_;rintro w0 X hX _ hp;change AWP _ _ _ _ _ ⟨[],[],0⟩ _;refine za (za ?_);refine zaa hX zcS rfl ?_ ?_
 ·trivial
 refine za (za ?_);refine zaa hX zcS rfl ?_ ?_
 ·trivial
 refine zap (σ':=⟨[(1,⟨.slice nd,sanR⟩),(3,⟨i64,(0:Int)⟩)],[],0⟩) ⟨⟨vRul (congrArg (fun x=>x.1) sanA),vI64 (congrArg (fun x=>x.2.2) sanA),trivial⟩,trivial,rfl,rfl⟩ ?_;refine za (za ?_);refine zaa hX zcS rfl ?_ ?_
 ·trivial
 refine jw hX 4 ?_;refine zap (σ':=⟨[(1,⟨.slice nd,sanR⟩),(3,⟨i64,(0:Int)⟩),(4,⟨.slice nd,sanR⟩)],[],1⟩) ⟨⟨rfl,rfl,rfl,trivial⟩,trivial,rfl,rfl⟩ ?_;refine za (za ?_);refine zaa hX zcS rfl ?_ ?_
 ·trivial
 refine zap (σ':=⟨[(1,⟨.slice nd,sanR⟩),(3,⟨i64,(0:Int)⟩),(4,⟨.slice nd,sanR⟩),(5,⟨.str,zji⟩),(6,⟨i64,(0:Int)⟩)],[],1⟩) ⟨⟨rfl,rfl,rfl,vStr (congrArg (fun x=>x.1) sanF),vI64 (congrArg (fun x=>x.2) sanF),trivial⟩,trivial,rfl,rfl⟩ ?_;refine za (za ?_);refine zaa hX zcS rfl ?_ ?_
 ·trivial
 refine zap (σ':=⟨[(1,⟨.slice nd,sanR⟩),(3,⟨i64,(0:Int)⟩),(4,⟨.slice nd,sanR⟩),(5,⟨.str,zji⟩),(6,⟨i64,(0:Int)⟩),(7,⟨.slice de,sanL⟩),(9,⟨i64,(0:Int)⟩)],[],1⟩) ⟨⟨rfl,rfl,rfl,rfl,rfl,vDes (congrArg (fun x=>x.1) sanB),vI64 (congrArg (fun x=>x.2.2) sanB),trivial⟩,trivial,rfl,rfl⟩ ?_;refine za (za ?_);refine zaa hX zcS rfl ?_ ?_
 ·trivial
 refine zap (σ':=⟨[(1,⟨.slice nd,sanR⟩),(3,⟨i64,(0:Int)⟩),(4,⟨.slice nd,sanR⟩),(5,⟨.str,zji⟩),(6,⟨i64,(0:Int)⟩),(7,⟨.slice de,sanL⟩),(9,⟨i64,(0:Int)⟩),(11,⟨i64,(5:Int)⟩),(12,⟨i64,(3:Int)⟩)],[],1⟩) ⟨⟨rfl,rfl,rfl,rfl,rfl,rfl,rfl,vI64 (congrArg (fun x=>x.2.1) sanC),vI64 (congrArg (fun x=>x.2.2) sanC),trivial⟩,trivial,rfl,rfl⟩ ?_;refine za (za ?_);refine zaa hX zcS rfl ?_ ?_
 ·trivial
 refine zap (σ':=⟨[(1,⟨.slice nd,sanR⟩),(3,⟨i64,(0:Int)⟩),(4,⟨.slice nd,sanR⟩),(5,⟨.str,zji⟩),(6,⟨i64,(0:Int)⟩),(7,⟨.slice de,sanL⟩),(9,⟨i64,(0:Int)⟩),(11,⟨i64,(5:Int)⟩),(12,⟨i64,(3:Int)⟩),(14,⟨i64,(1:Int)⟩)],[],1⟩) ⟨⟨rfl,rfl,rfl,rfl,rfl,rfl,rfl,rfl,rfl,vI64 (congrArg (fun x=>x.2) sanN),trivial⟩,trivial,rfl,rfl⟩ ?_;refine za (za ?_);refine zaa hX zcS rfl ?_ ?_
 ·repeat'(first|exact trivial|assumption|(refine⟨?_,?_⟩)|(intro _)|exact zf rfl|exact zu _|(simp_all [allP];done))
 refine zai rfl (fun hb=>?_) (fun _=>?_)
 ·have hb:false=true:=hb;cases hb
 apply zac;refine za (za ?_);refine zaa hX zcS rfl ?_ ?_
 ·trivial
 refine zap (σ':=⟨[(1,⟨.slice nd,sanR⟩),(4,⟨.slice nd,sanR⟩),(5,⟨.str,zji⟩),(7,⟨.slice de,sanL⟩),(15,⟨.str,zpw⟩),(16,⟨i64,(0:Int)⟩)],[],1⟩) ⟨⟨rfl,rfl,rfl,rfl,vStr (congrArg (fun x=>x.1) sanG),vI64 (congrArg (fun x=>x.2) sanG),trivial⟩,trivial,rfl,rfl⟩ ?_;have hs:znK sanR sanR=true:=zgG.2 rfl;have b0:(0:Int) < ((sanL.length:Nat):Int):=by decide
 have b1:(1:Int) < ((sanL.length:Nat):Int):=by decide
 refine za (za ?_);refine zaa hX zcS rfl ?_ ?_
 ·repeat'(first|exact trivial|assumption|exact b0|exact b1|(refine⟨?_,?_⟩)|(intro _)|decide)
 refine zap (σ':=⟨[(17,⟨.bool,true⟩)],[],1⟩) ⟨⟨zcO ?_,trivial⟩,trivial,rfl,rfl⟩ ?_
 ·show (bif (bif (bif (bif (bif znK sanR sanR then eqb .str zji zji else false) then eqb .str zeX zeX else false) then eqb .str znk znk else false) then ((0:Int)==0) else false) then eqb .str zpw zpw else false)=true;rw[hs,zer,zer,zer,zer];rfl
 have w1:zci zry 5 1=true:=by unfold zci;rw[san1];rfl
 have w2:zci zrx 12 1=true:=by unfold zci;rw[san2];rfl
 have w3:zci zrw 5 3=true:=by unfold zci;rw[san3];rfl
 have w4:zci zrv 10 3=true:=by unfold zci;rw[san4];rfl
 have w5:zci zru 6 3=true:=by unfold zci;rw[san5];rfl
 have w6:zci zrt 0 3=true:=by unfold zci;rw[san6];rfl
 refine za (za ?_);refine zaa hX zcS rfl ?_ ?_
 ·repeat'(first|exact trivial|assumption|(refine⟨?_,?_⟩)|(intro _))
 refine zq ⟨.inr rfl,zay rfl trivial rfl rfl ?_⟩;show (bif (bif (bif (bif (bif (bif true then zci zry 5 1 else false) then zci zrx 12 1 else false) then zci zrw 5 3 else false) then zci zrv 10 3 else false) then zci zru 6 3 else false) then zci zrt 0 3 else false)=true;rw[w1,w2,w3,w4,w5,w6];rfl
set_option maxRecDepth 10000
def Cd {α:Type} (m:Except (Int×Int) α):Prop:=∀ er,m= .error er->er.2≠0
theorem zaB {α β:Type} {m:Except (Int×Int) α} {f:α->Except (Int×Int) β} (h1:Cd m) (h2:∀ x,m= .ok x->Cd (f x)):Cd (m >>= f):=by
 intro er he;cases hm:m with
 |error e=>
  rw[hm]at he;have he:(.error e:Except (Int×Int) β)= .error er:=he;cases he;exact h1 _ hm
 |ok x=>
  rw[hm]at he;exact h2 x hm er he
theorem zdf {α:Type} {x:α}:Cd (.ok x:Except (Int×Int) α):=fun _ h=>by cases h
theorem zrc {α:Type} {a e:Int} (h:e≠0):Cd (.error (a,e):Except (Int×Int) α):=fun er he=>by cases he;exact h
theorem zcc {st:GSt} {b:Bool} {e:Int} (h:e≠0):Cd (zaC st b e):=by
 unfold zaC;split
 ·exact zdf
 ·exact zrc h
section
variable {s:List UInt8}
theorem zfq {st:GSt} {w:List UInt8}:Cd (zaQ s st w):=zaB (zcc (by decide)) fun _ _=>zdf
theorem zfr {st:GSt}:Cd (zbu s st):=zaB (zcc (by decide)) fun _ _=>zdf
theorem zbF {st:GSt} {lo hi:Int}:Cd (zaI s st lo hi):=zaB (zcc (by decide)) fun _ _=>zaB (zcc (by decide)) fun _ _=>zdf
theorem zmb {lo hi:Int} {z:Bool}:∀ (k:Nat) {st:GSt} {l:List Int},l.length≤64->65≤k+l.length->Cd (zbI s lo hi z k st l)
 |0,_,_,h1,h2=>by omega
 |k+1,st,l,h1,h2=>by
  unfold zbI;split
  ·exact zdf
  ·refine zaB (zcc (by decide)) fun _ _=>zaB (zcc (by decide)) fun _ hc=>zaB (zcc (by decide)) fun _ _=>zaB zbF fun p hp=>?_;have hc:=of_decide_eq_true (zaK hc);exact zmb k (by rw[zh,yH];omega) (by rw[zh,yH];omega)
theorem ziV {st:GSt} {lo hi:Int} {z:Bool}:Cd (zcG s st lo hi z):=
 zaB zfq fun _ _=>zaB (zmb 66 (zl _) (by decide)) fun _ _=>zaB zfq fun _ _=>zdf
theorem zma {st:GSt}:Cd (zcY s st):=zaB (zcc (by decide)) fun _ _=>zdf
theorem zsN {st:GSt}:∀ w:LeafW,Cd (zcN s st w)
 | .days=>zaB zbF fun _ _=>zaB zbF fun _ _=>zdf
 | .years=>zaB zbF fun _ _=>zaB zbF fun _ _=>zaB zbF fun _ _=>zdf
 | .months| .monthdays| .weeks=>zaB zbF fun _ _=>zaB ziV fun _ _=>zdf
 | .weekdays=>zaB ziV fun _ _=>zdf
 | .nth=>zaB zbF fun _ _=>zaB (zcc (by decide)) fun _ _=>zaB zbF fun _ _=>zaB zbF fun _ _=>zaB zma fun _ _=>zdf
theorem zrb {st:GSt}:∀ w:SufW,Cd (gSuf s st w)
 | .shift| .from_| .until_=>zaB zbF fun _ _=>zdf
 | .also| .except_=>zaB ziV fun _ _=>zdf
 | .pos=>zaB zbF fun _ _=>zaB zma fun _ _=>zaB ziV fun _ _=>zdf
 | .behind=>zaB zbF fun _ _=>zaB zfq fun _ _=>zdf
theorem zdU:∀ (k:Nat) (md:Md) (st:GSt),GOk s st->meas s md st < k->Cd (prs s k md st)
 |0,_,_,_,hk=>by omega
 |k+1,.bin i,st,h,hk=>by
  unfold prs;rw[zaW];split
  ·exact zdU k _ _ h (by simp only[meas,mdF]at *;omega)
  ·refine zaB (zdU k _ _ h (by simp only[meas,mdF]at *;omega)) fun p hp=>?_;have k1:Onw s st p.2:=zbj k (.bin (i+1)) _ _ _ h hp;have:=k1.rem h;exact zdU k _ _ k1.1 (by simp only[meas,mdF]at *;omega)
 |k+1,.binL i t,st,h,hk=>by
  unfold prs;rw[zaW];split
  ·rename_i hi;refine zaB zfr fun a ha=>?_;have k1:=zaP h (zcv hi) ha;have e1:=k1.rem h;refine zaB (zdU k _ _ k1.1 (by simp only[meas,mdF]at *;omega)) fun p hp=>?_;have k2:Onw s a p.2:=zbj k (.bin (i+1)) _ _ _ k1.1 hp;have e2:=k2.rem k1.1;exact zdU k _ _ k2.1 (by simp only[meas,mdF]at *;omega)
  ·exact zdf
 |k+1,.chain,st,h,hk=>by
  unfold prs;rw[zaW];refine zaB (zdU k _ _ h (by simp only[meas,mdF]at *;omega)) fun p hp=>?_;have k1:Onw s st p.2:=zbj k .prim _ _ _ h hp;have:=k1.rem h;exact zdU k _ _ k1.1 (by simp only[meas,mdF]at *;omega)
 |k+1,.chainL t,st,h,hk=>by
  unfold prs;rw[zaW];split
  ·rename_i hc;split
   ·exact zdf
   ·refine zaB zfr fun a ha=>?_;have k1:=zaP h (by rw[hc];decide) ha;have e1:=k1.rem h;refine zaB (zrb _) fun p hp=>?_;have k2:=zcT k1.1 _ hp;have e2:=k2.rem k1.1;refine zaB (zdU k _ _ k2.1 (by simp only[meas,mdF]at *;omega)) fun q hq=>?_;have k3:Onw s p.2 q.2:=zbj k .prim _ _ _ k2.1 hq;have e3:=k3.rem k2.1;exact zdU k _ _ k3.1 (by simp only[meas,mdF]at *;omega)
   ·refine zaB zfr fun a ha=>?_;have k1:=zaP h (by rw[hc];decide) ha;have e1:=k1.rem h;refine zaB (zrb _) fun p hp=>?_;have k2:=zcT k1.1 _ hp;have e2:=k2.rem k1.1;exact zdU k _ _ k2.1 (by simp only[meas,mdF]at *;omega)
  ·exact zdf
 |k+1,.prim,st,h,hk=>by
  unfold prs;rw[zaW];split
  ·rename_i hi;have k0:=zbV h (zcv hi);have e0:=k0.rem h;exact zaB (zdU k _ _ k0.1 (by simp only[meas,mdF]at *;omega)) fun _ _=>zaB zfq fun _ _=>zdf
  ·split
   ·exact zaB (zcc (by decide)) fun _ _=>zaB zfr fun _ _=>zdf
   ·refine zaB (zcc (by decide)) fun _ _=>?_;split
    ·exact zrc (by decide)
    ·exact zaB zfr fun _ _=>zaB (zsN _) fun _ _=>zdf
theorem zsM {st:GSt} (h:GOk s st):Cd (zdB s st):=zaB (zdU _ _ _ h (Nat.lt_succ_self _)) fun _ _=>zaB (zcc (by decide)) fun _ _=>zdf
theorem zmJ {er:Int×Int} (h:zcj s= .error er):er.2≠0∧0≤er.1∧er.1≤((s.length:Nat):Int):=by
 unfold zcj at h;cases hr:zdB s (zfN s) with
 |ok p=>rw[hr]at h;cases h
 |error e=>
  rw[hr]at h;cases h;exact⟨zsM zdP _ hr,zoW zdP _ hr⟩
end
theorem zmK {s:List UInt8} {t:Tr} (hs:s.length≤4000) (h:zcj s= .ok t):zbb s=(t.flat 0,0,0):=by
 unfold zbb;rw[if_neg (by omega),h]
theorem zmL (s:List UInt8):(∃ t,zcj s= .ok t∧zbb s=(t.flat 0,0,0)∧TrOk t∧t.size≤64)∨∃ at' e,e≠0∧zbb s=([],at',e):=by
 by_cases hl:4000 < s.length
 ·exact .inr ⟨0,2,by decide,if_pos hl⟩
 cases hg:zcj s with
 |ok t=>
  obtain⟨a,b⟩:=zpY hg;exact .inl ⟨t,rfl,zmK (by omega) hg,a,b⟩
 |error er=>
  obtain⟨c0,_⟩:=zmJ hg;refine .inr ⟨er.1,er.2,c0,?_⟩;unfold zbb;rw[if_neg hl,hg]
theorem zrF {c:UInt8} (h:isPt c=true):c≠32∧c≠41∧c≠40∧c≠9∧c≠10∧c≠13∧c≠64:=by
 refine⟨?_,?_,?_,?_,?_,?_,?_⟩<;>(intro e;rw[e]at h;exact absurd h (by decide))
def zih (c:UInt8):Bool:=(c != 32)&&(c != 41)&&(c != 40)&&(c != 9)&&(c != 10)&&(c != 13)&&(c != 64)
theorem zpt {c:UInt8} (h:isPt c=true):zih c=true:=by
 obtain⟨a,b,c',d,e,f,g⟩:=zrF h;unfold zih;simp[a,b,c',d,e,f,g]
theorem zne {c:UInt8} {r:List UInt8} (h:Stp (c::r)):zih c=false:=by
 rcases (show c=32∨c=41∨c=40∨c=9∨c=10∨c=13∨c=64 from h) with e|e|e|e|e|e|e<;>rw[e]<;>rfl
theorem neB (c d:UInt8):(((c.toNat:Nat):Int) != ((d.toNat:Nat):Int))=(c != d):=by
 rw[yz,bne_iff_ne,bne_iff_ne];exact⟨fun h e=>h (by rw[e]),fun h e=>h (UInt8.toNat_inj.1 (Int.ofNat.inj e))⟩
theorem zrX (A:Bool) (c:UInt8):(bif (bif (bif (bif (bif (bif (bif A then (((c.toNat:Nat):Int) != ((yR 32:Nat):Int)) else false) then (((c.toNat:Nat):Int) != ((yR 41:Nat):Int)) else false) then (((c.toNat:Nat):Int) != ((yR 40:Nat):Int)) else false) then (((c.toNat:Nat):Int) != ((yR 9:Nat):Int)) else false) then (((c.toNat:Nat):Int) != ((yR 10:Nat):Int)) else false) then (((c.toNat:Nat):Int) != ((yR 13:Nat):Int)) else false) then (((c.toNat:Nat):Int) != ((yR 64:Nat):Int)) else false)=(A&&zih c):=by
 simp only[neB,zdk];unfold zih;cases A<;>simp[Bool.and_assoc]
noncomputable def kLaH:Kn:={ gmK with C:=[(16,zmc),(15,zo6),(31,zrg),(32,zqQ),(33,cSubS),(34,zqO),(35,zri)] }
theorem za9:KnOk Tryz.prog gmH kLaH:=zak.with (.cons ziz <| .cons znJ <| .cons zp4 <| .cons zn8 <| .cons zk8 <| .cons zng <| .cons zqM .nil)
set_option maxHeartbeats 1000000 in
theorem law9_ok:yM Tryz.prog gmH 11 (lawCtr [.str]):=by
 refine zar (K:=kLaH) za9 Tryz.func11 rfl rfl Tryz.call11 rfl (by decide) (by intro h;cases h) ?_;rintro w0 X hX ⟨(s:List UInt8),_⟩ hp;change AWP _ _ _ _ _ ⟨[(0,⟨.str,s⟩)],[],0⟩ _;refine za (za ?_);refine zaa hX za9 rfl ?_ ?_
 ·trivial
 refine za (za ?_);refine zaa hX za9 rfl ?_ ?_
 ·trivial
 refine za (za ?_);refine zaa hX za9 rfl ?_ ?_
 ·trivial
 rcases zmL s with ⟨t,hg,hP,ht,hts⟩|⟨at',e,he,hP⟩
 rotate_left
 ·refine zap (σ':=⟨[(3,⟨.bool,true⟩),(6,⟨i64,e⟩)],[],0⟩) ⟨⟨rfl,vI64 (congrArg (fun x=>x.2.2) hP),trivial⟩,trivial,rfl,rfl⟩ ?_;refine za (za ?_);refine zaa hX za9 rfl ?_ ?_
  ·trivial
  refine zai rfl (fun _=>?_) (fun hb=>?_)
  ·(repeat(first|apply zae|apply zac|apply zal|apply zad|apply zab|refine zaa hX za9 rfl trivial ?_|refine zaa hX za9 rfl id ?_|refine zaa hX za9 rfl ⟨id,id⟩ ?_));exact zq ⟨.inr rfl,zay rfl trivial rfl rfl rfl⟩
  ·have hb:(e != 0)=false:=hb;rw[bne_iff_ne.2 he]at hb;cases hb
 obtain⟨hr1,hr2⟩:=zmI hg;have hsl:s.length≤4000:=by
  refine Nat.le_of_not_lt fun h=>?_;unfold zbb at hP;rw[if_pos h]at hP;have h2:(2:Int)=0:=congrArg (fun x=>x.2.2) hP;exact absurd h2 (by decide)
 have hv:zco (t.flat 0)=0:=zkw (zro ht hts);have hfl:(t.flat 0).length≤100000:=by rw[Tr.len_flat];omega
 have hN:∀ w,w∈zc7 (t.flat 0)↔w∈t.refs:=fun w=>by
  unfold zc7;rw[zjJ,ze4 t 0 ht];simp
 refine zap (σ':=⟨[(0,⟨.str,s⟩),(3,⟨.bool,true⟩),(4,⟨.slice nd,t.flat 0⟩),(6,⟨i64,(0:Int)⟩)],[],0⟩) ⟨⟨rfl,rfl,vRul (congrArg (fun x=>x.1) hP),vI64 (congrArg (fun x=>x.2.2) hP),trivial⟩,trivial,rfl,rfl⟩ ?_;generalize t.flat 0=R at *;refine za (za ?_);refine zaa hX za9 rfl ?_ ?_
 ·trivial
 refine zai rfl (fun hb=>absurd (show ((0:Int) != 0)=true from hb) (by decide)) (fun _=>?_);apply zac;refine za (za ?_);refine zaa hX za9 rfl ?_ ?_
 ·exact hfl
 refine zap (σ':=⟨[(0,⟨.str,s⟩),(3,⟨.bool,true⟩),(4,⟨.slice nd,R⟩),(7,⟨strs,zc7 R⟩)],[],0⟩) ⟨⟨rfl,rfl,rfl,rfl,trivial⟩,trivial,rfl,rfl⟩ ?_;generalize zc7 R=N at *;refine za (za ?_);refine zaa hX za9 rfl ?_ ?_
 ·trivial
 (repeat(first|apply zae|apply zac|apply zab|apply zad));refine yB (ι:=Nat) (fun i=>⟨[(0,⟨.str,s⟩),(3,⟨.bool,true⟩),(4,⟨.slice nd,R⟩),(7,⟨strs,N⟩),(8,⟨i64,(i:Int)⟩)],[],0⟩) (fun i=>i≤s.length) (fun i=>s.length - i) 0 (zl _) ⟨⟨rfl,rfl,rfl,rfl,rfl,trivial⟩,trivial,rfl,rfl⟩ ?_;intro i hi;refine za (za ?_);refine zaa hX za9 rfl ?_ ?_
 ·trivial
 refine zai rfl (fun hb=>?_) (fun hb=>?_)
 ·have hb:decide ((i:Int) < (s.length:Nat))=true:=hb;have hb:=of_decide_eq_true hb;have hlt:i < s.length:=by omega
  have n0:(0:Int)≤(i:Int):=by omega
  refine za (za ?_);refine zaa hX za9 rfl ?_ ?_
  ·exact⟨n0,hb⟩
  have hget:s.getD ((i:Int)).toNat 0=s[i]:=zaM hlt;have hcq:(((yR (s.getD ((i:Int)).toNat 0):Nat):Int) != ((yR 64:Nat):Int))=(s[i] != 64):=by rw[neB,hget]
  refine zai rfl (fun hc=>?_) (fun hc=>?_)
  ·apply zad;refine za (za ?_);refine zaa hX za9 rfl ?_ ?_
   ·exact zaH (by omega)
   exact⟨i+1,hlt,by omega,⟨rfl,rfl,rfl,rfl,zcz _,trivial⟩,trivial,rfl,rfl⟩
  have h64:s[i]=64:=by simpa using hcq.symm.trans hc
  obtain⟨w,hw,r,hd,hpt,hst⟩:=hr1 i (by rw[zR hlt,h64]);have hwN:N.contains w=true:=qB.2 ((hN w).2 hw);have hlen:i+1+w.length+r.length=s.length:=by
   have:=congrArg zd hd;rw[yX,zh]at this;omega
  apply zac;have qi:inR .i64 ((i:Int)+1):=zaH (by omega);refine za (za ?_);refine zaa hX za9 rfl ?_ ?_
  ·exact qi
  (repeat(first|apply zae|apply zac|apply zab|apply zad));refine yB (ι:=Nat) (fun j=>⟨[(0,⟨.str,s⟩),(3,⟨.bool,true⟩),(4,⟨.slice nd,R⟩),(7,⟨strs,N⟩),(8,⟨i64,(i:Int)⟩),(9,⟨i64,((i+1+j:Nat):Int)⟩)],[],0⟩) (fun j=>j≤w.length) (fun j=>w.length - j) 0 (zl _) ⟨⟨rfl,rfl,rfl,rfl,rfl,vI64 (by omega),trivial⟩,trivial,rfl,rfl⟩ ?_;intro j hj;obtain⟨k,hk⟩:∃ k:Nat,k=i+1+j:=⟨_,rfl⟩;rw[<-hk];have m0:(0:Int)≤(k:Int):=by omega
  have hsk:s[k]? =(w++r)[j]? :=by rw[hk, <-hd,List.getElem?_drop]
  obtain⟨c,hcd⟩:∃ c,s.getD ((k:Int)).toNat 0=c:=⟨_,rfl⟩;have hstep:(j < w.length∧k < s.length∧zih c=true)∨(j=w.length∧(decide ((k:Int) < ((s.length:Nat):Int))&&zih c)=false):=by
   rw[<-hcd,zL,List.getD_eq_getElem?_getD,hsk];by_cases hjw:j < w.length
   ·refine .inl ⟨hjw,by omega,?_⟩;rw[List.getElem?_append_left hjw,zR hjw];exact zpt (hpt _ (xv hjw))
   ·have hjw:j=w.length:=by omega
    refine .inr ⟨hjw,?_⟩;cases hr:r with
    |nil=>
     rw[hr,z7]at hlen;rw[decide_eq_false (by omega)];rfl
    |cons d q=>
     rw[hr]at hst;rw[List.getElem?_append_right (by omega),hjw,Nat.sub_self];show (_&&zih d)=false;rw[zne hst,Bool.and_false]
  have hnb:=zrX (decide ((k:Int) < ((s.length:Nat):Int))) (s.getD ((k:Int)).toNat 0);rw[hcd]at hnb;apply zae;refine xz (σ':=⟨[(0,⟨.str,s⟩),(3,⟨.bool,true⟩),(4,⟨.slice nd,R⟩),(7,⟨strs,N⟩),(8,⟨i64,(i:Int)⟩),(9,⟨i64,(k:Int)⟩),(80,⟨.bool,decide ((k:Int) < ((s.length:Nat):Int))&&zih c⟩)],[],0⟩) ?_ ?_
  ·by_cases hkl:(k:Int) < ((s.length:Nat):Int)
   ·refine za (za ?_);refine zaa hX za9 rfl ?_ ?_
    ·repeat'(first|exact trivial|assumption|exact m0|exact hkl|(refine⟨?_,?_⟩)|(intro _)|exact zf rfl|exact zu _|(simp_all [allP];done))
    refine⟨⟨rfl,rfl,rfl,rfl,rfl,rfl,zcO ?_,trivial⟩,trivial,rfl,rfl⟩;rw[<-hcd];exact zrX _ _
   ·have hkf:decide ((k:Int) < ((s.length:Nat):Int))=false:=decide_eq_false hkl;refine za (za ?_);refine zaa hX za9 rfl ?_ ?_
    ·repeat'(first|exact trivial|(intro h;rw[hkf]at h;cases h;done)|(refine⟨?_,?_⟩))
    refine⟨⟨rfl,rfl,rfl,rfl,rfl,rfl,zcO ?_,trivial⟩,trivial,rfl,rfl⟩;rw[<-hcd];exact zrX _ _
  refine zai rfl (fun hc2=>?_) (fun hc2=>?_)
  ·rcases hstep with ⟨a1,a2,a3⟩|⟨a1,a2⟩
   ·refine za (za ?_);refine zaa hX za9 rfl ?_ ?_
    ·exact zaH (by omega)
    exact⟨j+1,a1,by omega,⟨rfl,rfl,rfl,rfl,rfl,vI64 (by omega),trivial⟩,trivial,rfl,rfl⟩
   ·rw[a2]at hc2;cases hc2
  ·rcases hstep with ⟨a1,a2,a3⟩|⟨a1,a2⟩
   ·rw[a3,decide_eq_true (by omega)]at hc2;cases hc2
   subst a1;have hcut:(s.take ((k:Int)).toNat).drop ((i:Int)+1).toNat=w:=by
    rw[zL,show ((i:Int)+1).toNat=i+1 by omega,List.drop_take,hd,hk,show i+1+w.length - (i+1)=w.length by omega,List.take_left]
   have m1:(0:Int)≤(i:Int)+1:=by omega
   have m2:(i:Int)+1≤(k:Int):=by omega
   have m3:(k:Int)≤((s.length:Nat):Int):=by omega
   apply zad;refine za (za ?_);refine zaa hX za9 rfl ?_ ?_
   ·exact⟨qi,m1,m2,m3⟩
   refine zai rfl (fun hc3=>?_) (fun hc3=>?_)
   ·have hc3:(!N.contains ((s.take ((k:Int)).toNat).drop ((i:Int)+1).toNat))=true:=hc3;rw[hcut,hwN]at hc3;cases hc3
   ·refine za (za ?_);refine zaa hX za9 rfl ?_ ?_
    ·exact zaH (by omega)
    exact⟨i+1,hlt,by omega,⟨rfl,rfl,rfl,rfl,zcz _,trivial⟩,trivial,rfl,rfl⟩
 ·have hb:decide ((i:Int) < (s.length:Nat))=false:=hb;have hb:=of_decide_eq_false hb;apply zad;refine za (za ?_);refine zaa hX za9 rfl ?_ ?_
  ·trivial
  refine jU 7 rfl fun hnl=>?_;unfold maxLen at hnl;(repeat(first|apply zae|apply zac|apply zab|apply zad));refine yB (ι:=Nat) (fun i=>⟨[(0,⟨.str,s⟩),(3,⟨.bool,true⟩),(4,⟨.slice nd,R⟩),(7,⟨strs,N⟩),(10,⟨i64,(i:Int)⟩)],[],0⟩) (fun i=>i≤N.length) (fun i=>N.length - i) 0 (zl _) ⟨⟨rfl,rfl,rfl,rfl,rfl,trivial⟩,trivial,rfl,rfl⟩ ?_;intro k hk;refine za (za ?_);refine zaa hX za9 rfl ?_ ?_
  ·trivial
  refine zai rfl (fun hb=>?_) (fun hb=>?_)
  ·have hb:decide ((k:Int) < (N.length:Nat))=true:=hb;have hb:=of_decide_eq_true hb;have hlt:k < N.length:=by omega
   have n0:(0:Int)≤(k:Int):=by omega
   have hget:N.getD ((k:Int)).toNat []=N[k]:=zaM hlt;obtain⟨p,q,hpq⟩:=hr2 _ ((hN _).1 (xv hlt));have hpl:=congrArg zd hpq;rw[zh,zh,zs]at hpl;have n1:zd ([64]:List UInt8)+(N.getD ((k:Int)).toNat []).length≤maxLen:=by
    rw[hget];show 1+_≤_;unfold maxLen;omega
   have n2:s.length≤1000000:=by omega
   have n3:zd ([64]++N.getD ((k:Int)).toNat []:List UInt8)≤1000000:=by
    rw[hget,zh];show 1+_≤_;omega
   refine za (za ?_);refine zaa hX za9 rfl ?_ ?_
   ·repeat'(first|exact trivial|assumption|exact n0|exact hb|exact n1|exact n2|exact n3|(refine⟨?_,?_⟩)|(intro _)|exact zf rfl|exact zu _|(simp_all [allP];done))
   have hsub:subS s ([64]++N.getD ((k:Int)).toNat [])=true:=by
    rw[hget];refine jz.2 ⟨p.length,yk.2 ?_,?_⟩
    ·show p.length < s.length+1 - ([64]++N[k]:List UInt8).length;rw[zh];show p.length < s.length+1 - (1+N[k].length);omega
    ·rw[beq_iff_eq]
     conv=>lhs;rw[hpq,zr,List.drop_left]
     exact List.take_left
   refine zai rfl (fun hc3=>?_) (fun hc3=>?_)
   ·have hc3:(!subS s ([64]++N.getD ((k:Int)).toNat []))=true:=hc3;rw[hsub]at hc3;cases hc3
   ·refine za (za ?_);refine zaa hX za9 rfl ?_ ?_
    ·exact zaH (by omega)
    exact⟨k+1,hlt,by omega,⟨rfl,rfl,rfl,rfl,zcz _,trivial⟩,trivial,rfl,rfl⟩
  ·apply zad;have hc1:zd zm8=3:=rfl;have hc2:∀ c∈zm8,zhK c:=fun c hc=>by
    simp only[zm8,zX,List.not_mem_nil,or_false]at hc;rcases hc with rfl|rfl|rfl
    ·exact ziW 0 (by decide)
    ·exact ziW 1 (by decide)
    ·exact ziW 2 (by decide)
   refine za (za ?_);refine zaa hX za9 rfl ?_ ?_
   ·repeat'(first|exact trivial|assumption|exact hc1|exact hc2|(refine⟨?_,?_⟩)|(intro _)|exact zf rfl|exact zu _|(simp_all [allP];done))
   refine zq ⟨.inr rfl,zay rfl trivial rfl rfl ?_⟩;show (bif (zco R==0) then true else false)=true;rw[hv];rfl
end
end Go.Proofs.YtpeaigpfddalcaaGreatDoor
