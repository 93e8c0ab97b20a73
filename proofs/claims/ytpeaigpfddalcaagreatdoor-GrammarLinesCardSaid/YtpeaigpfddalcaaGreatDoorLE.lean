/-
  Texts of this claim, joined: what the statement's proof uses.
-/
import Derived.Test.YtpeaigpfddalcaaGreatDoorLD
set_option linter.unusedSimpArgs false
set_option linter.unusedVariables false
set_option maxRecDepth 100000
open Array renaming getD_eq_getD_getElem? -> zN,getElem?_eq_getElem -> yj,getElem?_eq_some_iff -> zo,getElem?_setIfInBounds -> xH,replicate_succ -> vu,replicate_zero -> vv
open Bool renaming and_eq_true -> zd,eq_false_iff -> qi,eq_iff_iff -> yu,not_eq_false' -> xg,not_eq_true -> vk,not_eq_true' -> zw,or_eq_false_iff -> xN,or_eq_true -> zZ
open ByteArray renaming data_extract -> jY,ext -> wj,mk -> vI
open Classical renaming not_not -> uE
open Except renaming ok -> kA
open Go renaming Deferred -> qX,TypeId -> zp,Value -> zh,World -> zj,wpIn_mono -> yK
open Go.Fence renaming wide -> yA
open Go.Lib renaming decDigits -> yq,itoa -> jS
open Go.Oper renaming semAt_some -> ji
open Go.Proofs.YtpeaigpfddalcaaGreatDoor renaming CtrOk -> yM
open Go.Proofs.YtpeaigpfddalcaaGreatDoor.AL renaming all -> zV,fit -> qC,guardF -> yl,guardT -> yW,take -> yh
open Go.Proofs.YtpeaigpfddalcaaGreatDoor.AWP renaming draw -> kV,frz -> qW,go -> za,len -> vp,loop -> yU,ordersA -> jB,ret -> zq,viaQ -> jh
open Go.Proofs.YtpeaigpfddalcaaGreatDoor.AllN renaming cons -> jn,nil -> jR
open Go.Proofs.YtpeaigpfddalcaaGreatDoor.OrdA renaming last -> jG
open Go.Proofs.YtpeaigpfddalcaaGreatDoor.Sim renaming nilLeaf -> kS
open Go.Proofs.YtpeaigpfddalcaaGreatDoor.StepA renaming eval -> xe
open Go.Proofs.YtpeaigpfddalcaaGreatDoor.Tok renaming cls -> zK,text -> zL
open Go.Proofs.YtpeaigpfddalcaaGreatDoor.Tr renaming flat -> vd,len_flat -> xo,size -> vH
open Go.Region renaming wanted -> zD
open Go.RowKit renaming Below -> yO
open Go.RowKit.Below renaming heap_setCell -> xp,refl -> zO
open Go.StepsIn renaming trans -> k5
open Go.World renaming alloc_heap_new -> xn,putObj_heap_other -> xd,putObj_heap_same -> qo
open Int renaming add_mul_emod_self_left -> vV,emod_eq_of_lt -> qO,emod_lt_of_pos -> um,le_refl -> xC,natCast_nonneg -> zi,tmod_lt_of_pos -> uk,toNat -> kC,toNat_natCast -> zH
open List renaming all_eq_true -> zT,append_assoc -> zs,append_nil -> zI,append_toArray -> vA,cons_append -> xw,drop_eq_getElem_cons -> yQ,drop_length -> jI,getElem?_eq_some_iff -> zB,length -> zg,length_append -> zf,length_cons -> zt,length_drop -> xc,length_eq_zero_iff -> jW,length_map -> jk,length_nil -> zY,length_singleton -> yp,length_take -> yT,map_append -> xu,mem_append -> yz,mem_cons -> zX,mem_cons_of_mem -> yg,mem_cons_self -> zR,mem_singleton -> zu,nil_append -> yB,push_toArray -> kh,set_append_right -> jo,size_toArray -> qf,take_length -> yS,take_of_length_le -> xx,take_succ_eq_append_getElem -> zF
open Nat renaming le_of_ble_eq_true -> zb,le_refl -> zk,le_trans -> zE,lt_of_lt_of_le -> zJ,zero_le -> zm
open UInt8 renaming ofNat -> zS
open Go Go.RowKit
namespace Go.Proofs.YtpeaigpfddalcaaGreatDoor
section
attribute [local go_sem] ji
theorem zjW (p:List UInt8) (hp:∀ x∈p,x≠10) (r:List UInt8):∀ (c:List UInt8),segF c (p++r)=segF (c++p) r:=by
 induction p with
 |nil=>intro c;rw[zI];rfl
 |cons x p ih=>
  intro c;rw[xw];show (if x=10 then _ else _)=_;rw[if_neg (hp x (zR ..)),ih (fun y hy=>hp y (yg _ hy)),zs];rfl
theorem zn7 {l:List UInt8} (h:∀ x∈l,x≠10):segs l=[l]:=by
 have:=zjW l h [] [];rw[zI,yB]at this;exact this
theorem zn6 {l:List UInt8} {n:Nat} (h:∀ x∈l.take n,x≠10) (hd:l.drop n=10::l.drop (n+1)):segs l=l.take n::segs (l.drop (n+1)):=by
 have:=zjW (l.take n) h (l.drop n) [];rw[List.take_append_drop,yB,hd]at this;exact this.trans (if_pos rfl)
theorem ztW (l:List UInt8) (n:Nat):(vI l.toArray).extract 0 n=⟨(l.take n).toArray⟩:=by
 apply wj;rw[jY];simp
theorem ztX (l:List UInt8) (n:Nat):(vI l.toArray).extract n l.length=⟨(l.drop n).toArray⟩:=by
 apply wj;rw[jY];simp;exact xx (by rw[xc];exact zk _)
def itI (gs gp gv:Nat) (g:Nat):Prop:=g=gs∨g=gp∨g=gv
noncomputable def zrW (gs:Nat) (W:zj):Nat:=match W.cell? ⟨gs,0,none⟩ with |some (.string s)=>s.size|_=>0
set_option maxHeartbeats 2000000 in
theorem zmV (l gs gp gv:Nat) (s:List UInt8) (J:Nat->zj->Prop) (Jr:zj->Prop) (W:zj) (hne:gs≠gp∧gs≠gv) (hlen:s.length≤2000000)
  (hs:W.heap[gs]? =some (.cells #[.string ⟨s.toArray⟩] 9 (0,0))) (hp:W.heap[gp]? =some (.cells #[.string ⟨#[10]⟩] 9 (0,0))) (hv:W.heap[gv]? =some (.cells #[.int .i64 0] 3 (0,0)))
  (hJ:∀ k A C,J k A->Kept (itI gs gp gv) A C->J k C)
  (hY:∀ k y W1,J k W1->(segs s)[k]? =some y->W.heap.size≤W1.heap.size->YieldAt yA 0 Tryz.prog l #[.string ⟨y.toArray⟩] W1 fun e W'=>(e= .returned (.bool true)∧J (k+1) W'∧SameOn (itI gs gp gv) W.heap.size W1 W')∨(e= .returned (.bool false)∧Jr W'))
  (h0:J 0 W):
  CallsIn yA 1 Tryz.prog 145 #[.func (.yield l) #[] #[],.pointer (some ⟨gp,0,none⟩),.pointer (some ⟨gs,0,none⟩),.pointer (some ⟨gv,0,none⟩)] W fun e W'=>(∃ v,e= .returned v)∧(J (segs s).length W'∨Jr W'):=by
 refine callsIn_of_wp Tryz.func145 rfl trivial ?_ rfl;have c1:=(zaY hp).1;have c2:=zaY hs;simp only[Tryz.ntmps145,qf,zt,zY,Nat.reduceAdd,Nat.reduceSub,vu,vv,kh,vA,yB,xw]
 gi_wp2
 gi_loopw [7] (fun p wr=>∃ (pre:List (List UInt8)) (rest:List UInt8),segs s=pre++segs rest∧rest.length≤s.length∧wr.heap[gs]? =some (.cells #[.string ⟨rest.toArray⟩] 9 (0,0))∧wr.heap[gp]? =some (.cells #[.string ⟨#[10]⟩] 9 (0,0))∧wr.heap[gv]? =some (.cells #[.int .i64 0] 3 (0,0))∧J pre.length wr∧W.heap.size≤wr.heap.size)
  (fun p wr=>zrW gs wr)
 case atStart=>exact⟨[],s,rfl,zk _,hs,hp,hv,h0,zk _⟩
 case round=>
  obtain⟨pre,rest,hsg,hrl,hs',hp',hv',hj,hsz⟩:=hrel;have d1:=(zaY hp').1;have d2:=zaY hs';have d3:=(zaY hv').1
  gi_wp2
  refine⟨trivial,(callsIn_wide.2 (ziQ _ _ _)).mono ?_⟩;rintro e w' ⟨rfl,rfl⟩;have hix:Lib.indexByte (vI rest.toArray).data.toList 10=Lib.indexByte rest 10:=rfl;rw[hix];rcases zs7 rest 10 with ⟨h1,h2⟩|⟨n,h1,h2,h3,h4⟩
  ·rw[h1];have hseg:=zn7 h2;rw[hseg]at hsg;obtain⟨fn,tmps,assign,body,hy,hR⟩:=hY pre.length rest _ hj (by rw[hsg];simp) hsz
   gi_wp2
   refine hR.mono ?_;rintro e W3 (⟨rfl,hJ3,hk3⟩|⟨rfl,hp3⟩)
   ·gi_wp2
    go_end0
    refine⟨⟨_,rfl⟩,.inl ?_⟩;rw[hsg,zf];exact hJ3
   ·gi_wp2
    go_end0
    exact⟨⟨_,rfl⟩,.inr hp3⟩
  ·rw[h1];have hseg:=zn6 h3 h4;rw[hseg]at hsg;have hn0:¬ (n:Int) < 0:=by omega
   have hex:(vI rest.toArray).extract 0 n=⟨(rest.take n).toArray⟩:=ztW rest n;have hex2:(vI rest.toArray).extract (n+1) rest.length=⟨(rest.drop (n+1)).toArray⟩:=ztX rest (n+1);have hnl:n < rest.length:=h2;obtain⟨fn,tmps,assign,body,hy,hR⟩:=hY pre.length (rest.take n) _ hj (by rw[hsg];simp) hsz
   gi_wp2
   refine hR.mono ?_;rintro e W3 (⟨rfl,hJ3,hk3⟩|⟨rfl,hp3⟩)
   ·have e1:=(hk3.block gs (.inl rfl)).trans hs';have e2:=(hk3.block gp (.inr (.inl rfl))).trans hp';have e3:=(hk3.block gv (.inr (.inr rfl))).trans hv';have f1:=(zaY e2).1;have f2:=zaY e1
    gi_wp2
    have g1:=ze1 (.string ⟨(rest.drop (n+1)).toArray⟩) e1;refine⟨⟨pre++ [rest.take n],rest.drop (n+1),by rw[hsg,zs];rfl,by rw[xc];omega,g1,(xp W3 ⟨gs,0,none⟩ _ gp fun e=>hne.1 e.symm).trans e2,(xp W3 ⟨gs,0,none⟩ _ gv fun e=>hne.2 e.symm).trans e3,?_,?_⟩,?_⟩
    ·rw[zf,yp];exact hJ _ _ _ hJ3 (zdu W3 gs _ (.inl rfl))
    ·exact zE hk3.size (zdu (R:=itI gs gp gv) W3 gs _ (.inl rfl)).size
    ·unfold zrW;rw[(zaY g1).1,d2.1];show (rest.drop (n+1)).toArray.size < rest.toArray.size;simp;omega
   ·gi_wp2
    exact⟨rfl,_,results_none rfl _ _ _,⟨_,rfl⟩,.inr hp3⟩
theorem zgC {P:Program} {f:FuncId} {Q:Exit->Act->zj->Prop} {a:Act} {w:zj} {g:Operand} {ps:Array Tmp} {assign body:Code} {m:Nat}
  (h:∃ (l:Nat) (mark:List qX) (w1:zj) (d:qX) (w1':zj) (gf:FuncId) (args:Array zh) (w2:zj),
    (Instr.enterLoop f a.tmps ps assign body none).run P w= .ok (l,mark) w1∧(resolve a.eval (rangeCall g l) 0).run P w1= .ok d w1'∧(invoke d.target d.args).run P w1'= .ok (.enter gf args) w2∧
    CallsIn yA m P gf args w2 (fun e w3=>(∃ v,e= .returned v)∧∃ jump w4,(Instr.endLoop l).run P w3= .ok jump w4∧(match jump with
     |none=>Q .normal { a with defers:=mark++a.defers } w4
     |some c=>zfT P f c Q { a with defers:=mark++a.defers } w4))):
  zfT P f (.rangeFunc g ps assign body) Q a w:=by
 intro b k cs hb hro;obtain⟨l,mark,w1,d,w1',gf,args,w2,he,hres,hinv,_,hcall⟩:=h;rw[<-hro, <-hb]at he;have henter:=stepR_rangeFunc (P:=P) (b:=b) (a:=a) (k:=k) (cs:=cs) (w:=w) he hres hinv;obtain⟨e,w3,fr,⟨⟨v,rfl⟩,jump,w4,hend,hj⟩,hsteps,hfn,hleave⟩:=hcall (b.atR { a with defers:=mark++a.defers } (.inRangeFunc l::k)::cs) (room_wide _);have sback:StepsIn (Machine.fenced P yA) P (lone (b.atR a (.code (.rangeFunc g ps assign body)::k)) cs w) (lone (b.atR { a with defers:=mark++a.defers } ((jump.map Item.code).toList++k)) cs w4):=by
  refine .head (fenced_wide P _) henter (k5 hsteps (.head (fenced_wide P _) ?_ (.one (fenced_wide P _) (stepR_endRangeFunc hend))));rw[<-finish_atR_inRangeFunc l v];exact step_leave_returned hleave
 cases jump with
 |none=>exact⟨.normal,_,w4,hj,sback⟩
 |some c=>
  obtain⟨e',a'',w5,hq,harr⟩:=hj b k cs hb hro;exact⟨e',a'',w5,hq,.of_steps sback harr⟩
def zsd (P:Program) (m:Nat) (gf:Nat) (lb:Array zh) (I:Nat->Prop) (ts:List (List UInt8)) (w:zj):Prop:=
 ∀ (l:Nat) (J:Nat->zj->Prop) (Jr:zj->Prop) (W:zj),yO w.heap.size w W->(∀ k A C,J k A->Kept I A C->J k C)->
  (∀ k y W1,J k W1->ts[k]? =some y->W.heap.size≤W1.heap.size->YieldAt yA (m - 1) P l #[.string ⟨List.toArray y⟩] W1 fun e W'=>(e= .returned (.bool true)∧J (k+1) W'∧SameOn I W.heap.size W1 W')∨(e= .returned (.bool false)∧Jr W'))->
  J 0 W->
  CallsIn yA m P gf (#[.func (.yield l) #[] #[]]++lb) W fun e W'=>(∃ v,e= .returned v)∧(J ts.length W'∨Jr W')
theorem zhV {P:Program} {f:FuncId} {m:Nat} {g:Operand} {p:Tmp} {assign body:Code} {Q:Exit->Act->zj->Prop} {a:Act} {w:zj} {gf:Nat} {lb:Array zh} (hg:a.eval g= .func (.func gf) #[] lb) (eg:∀ args w,(callFunc gf args).run P w= .ok (.enter gf args) w)
  {I:Nat->Prop} {ts:List (List UInt8)} {w0:zj} (hseq:zsd P m gf lb I ts w0) (hb0:yO w0.heap.size w0 w) (hI:∀ k,I k->k < w.heap.size)
  (J:Nat->zj->Prop) (Jr:zj->Prop) (N:Nat->List UInt8->Act->zj->Prop) (hJ:∀ k A C,J k A->Kept (fun g=>I g∨g=w.heap.size∨g=w.heap.size+1) A C->J k C) (hJr:∀ A C,Jr A->Kept (fun g=>I g∨g=w.heap.size∨g=w.heap.size+1) A C->Jr C)
  (hN:∀ k y a' A C,N k y a' A->Kept (fun g=>I g∨g=w.heap.size∨g=w.heap.size+1) A C->N k y a' C) (h0:∀ W1:zj,yO w.heap.size w W1->W1.heap.size=w.heap.size+2->J 0 W1)
  (hassign:∀ (l k:Nat) (y:List UInt8) (W:zj),J k W->ts[k]? =some y->w.heap.size+2≤W.heap.size->assign.wpIn (yA.inRound l) (m - 1) P (fun e a' W'=>e= .normal∧N k y a' W'∧SameOn (fun g=>I g∨g=w.heap.size∨g=w.heap.size+1) (w.heap.size+2) W W') { tmps:=((#[p]:Array Tmp).zip #[(.string ⟨y.toArray⟩:zh)]).foldl (fun t (p,v)=>t.setIfInBounds p v) a.tmps,defers:=[] } W)
  (hbody:∀ (l k:Nat) (y:List UInt8) (W:zj) (a':Act),ts[k]? =some y->w.heap.size+2≤W.heap.size->N k y a' W->
    body.wpIn (yA.inRound l) (m - 1) P (fun e _ W3=>((e= .normal∧J (k+1) W3)∨(e= .ret∧Jr W3))∧SameOn (fun g=>I g∨g=w.heap.size∨g=w.heap.size+1) (w.heap.size+2) W W3) a' W)
  (hdone:∀ W:zj,J ts.length W->W.heap[w.heap.size]? =some (.deferred (some []))->Q .normal { a with defers:={ target:=.collected w.heap.size,args:=#[] }::a.defers } W)
  (hret:∀ (W:zj),Jr W->W.heap[w.heap.size]? =some (.deferred (some []))->Q .ret { a with defers:={ target:=.collected w.heap.size,args:=#[] }::a.defers } W):
  zfT P f (.rangeFunc g #[p] assign body) Q a w:=by
 obtain⟨rec,hrec⟩:∃ rec:LoopState->Option Code->Loop,rec=fun st pe=>{ state:=st,pending:=pe,fn:=f,tmps:=a.tmps,params:=#[p],assign,body,defers:=w.heap.size }:=⟨_,rfl⟩;obtain⟨W1,hW1⟩:∃ W1,(w.alloc (.deferred (some []))).alloc (.loop (rec .ready none))=W1:=⟨_,rfl⟩;have hs1:W1.heap.size=w.heap.size+2:=by rw[<-hW1];simp
 have hL1:W1.heap[w.heap.size+1]? =some (.loop (rec .ready none)):=by
  rw[<-hW1];have:=xn (w.alloc (.deferred (some []))) (.loop (rec .ready none));rwa[World.size_alloc]at this
 have hK1:W1.heap[w.heap.size]? =some (.deferred (some [])):=by
  rw[<-hW1];exact (Below.heap_alloc _ _ _ (by simp)).trans (xn w _)
 have hb1':yO w.heap.size w W1:=by rw[<-hW1];exact ((zO _ w).alloc (zk _) _).alloc (by simp) _
 have hJ1:J 0 W1:=h0 _ hb1' hs1;have hb1:yO w0.heap.size w0 W1:=hb0.trans (hb1'.mono hb0.size);refine zgC (m:=m) ⟨w.heap.size+1,[{ target:=.collected w.heap.size,args:=#[] }],W1,{ target:=.fn (.func gf) lb,args:=#[.func (.yield (w.heap.size+1)) #[] #[]] },W1,gf,
  #[.func (.yield (w.heap.size+1)) #[] #[]]++lb,W1,?_,?_,?_,?_⟩
 ·rw[<-hW1,hrec];exact run_enterLoop_outer _ _ _ _ _
 ·simp only[resolve,hg];simp[go_sem]
 ·simp[invoke,go_sem,eg]
 refine (hseq (w.heap.size+1) (fun k W=>J k W∧W.heap[w.heap.size+1]? =some (.loop (rec .ready none))∧W.heap[w.heap.size]? =some (.deferred (some []))) (fun W=>Jr W∧W.heap[w.heap.size+1]? =some (.loop (rec .done (some .ret)))∧W.heap[w.heap.size]? =some (.deferred (some []))) W1 hb1 ?_ ?_ ⟨hJ1,hL1,hK1⟩).mono ?_
 ·intro k A C hs hb;have hl:=(zo.1 hs.2.1).1;have hd:=(zo.1 hs.2.2).1;exact⟨hJ k _ _ hs.1 (hb.mono fun g h=>.inl h),(hb.block _ hl fun h=>by have:=hI _ h;omega).trans hs.2.1,(hb.block _ hd fun h=>by have:=hI _ h;omega).trans hs.2.2⟩
 ·rintro k y W ⟨hj,hl,hk⟩ hy1 hsz;have hlt:w.heap.size+1 < W.heap.size:=(zo.1 hl).1;have hy:=run_yield (P:=P) (args:=#[.string ⟨y.toArray⟩]) hl (by rw[hrec];rfl);rw[hrec]at hy;refine⟨f,_,assign,body,hy,roundIn_of_wpIn trivial ?_⟩;refine yK (hassign _ k y W hj hy1 (by omega)) ?_;rintro e a2 W2 ⟨rfl,hn2,hk2⟩;have hl2:W2.heap[w.heap.size+1]? =some (.loop (rec .ready none)):=(hk2.block _ (.inr (.inr rfl))).trans hl;have hd2:W2.heap[w.heap.size]? =some (.deferred (some [])):=(hk2.block _ (.inr (.inl rfl))).trans hk;have hlt2:w.heap.size+1 < W2.heap.size:=(zo.1 hl2).1;refine⟨_,run_beginRound hl2 (by rw[hrec]),?_⟩;have hl3:(W2.putObj (w.heap.size+1) (.loop { rec .ready none with state:=.busy })).heap[w.heap.size+1]? =some (.loop { rec .ready none with state:=.busy }):=qo hlt2;have hd3:(W2.putObj (w.heap.size+1) (.loop { rec .ready none with state:=.busy })).heap[w.heap.size]? =some (.deferred (some [])):=(xd (by omega)).trans hd2;have hn3:N k y a2 (W2.putObj (w.heap.size+1) (.loop { rec .ready none with state:=.busy })):=hN k y a2 _ _ hn2 (zcK _ (.inr (.inr rfl)));have hp3:=grownBy_putObj' W2 (w.heap.size+1) (.loop { rec .ready none with state:=.busy });refine yK (hbody _ k y _ a2 hy1 (zE (by omega) hp3.size) hn3) ?_;rintro e a3 W3 ⟨he,hk3⟩;have hl4:W3.heap[w.heap.size+1]? =some (.loop { rec .ready none with state:=.busy }):=(hk3.block _ (.inr (.inr rfl))).trans hl3;have hd4:W3.heap[w.heap.size]? =some (.deferred (some [])):=(hk3.block _ (.inr (.inl rfl))).trans hd3;rcases he with ⟨rfl,hj3⟩|⟨rfl,hr3⟩
  ·have hr:=run_endRound (P:=P) none hl4;refine⟨_,_,hr,.inl ⟨rfl,⟨hJ _ _ _ hj3 (zcK _ (.inr (.inr rfl))),?_,(xd (by omega)).trans hd4⟩,?_⟩⟩
   ·rw[qo (zo.1 hl4).1,hrec];rfl
   ·refine⟨?_,?_,?_,?_,fun j hj=>?_⟩
    ·exact (grownBy_putObj' W3 _ _).os.trans (hk3.os.trans (hp3.os.trans hk2.os))
    ·exact (grownBy_putObj' W3 _ _).tape.trans (hk3.tape.trans (hp3.tape.trans hk2.tape))
    ·exact (grownBy_putObj' W3 _ _).output.trans (hk3.output.trans (hp3.output.trans hk2.output))
    ·exact zE (by rw[hs1];exact hk3.size) (grownBy_putObj' W3 _ _).size
    ·have hjl:=hI j hj;exact (xd (by omega)).trans ((hk3.block j (.inl hj)).trans ((xd (by omega)).trans (hk2.block j (.inl hj))))
  ·have hr:=run_endRound (P:=P) (some .ret) hl4;refine⟨_,_,hr,.inr ⟨rfl,hJr _ _ hr3 (zcK _ (.inr (.inr rfl))),?_,(xd (by omega)).trans hd4⟩⟩;rw[qo (zo.1 hl4).1,hrec];rfl
 ·rintro e W2 ⟨hv,⟨hj,hl,hk⟩|⟨hj,hl,hk⟩⟩
  ·refine⟨hv,none,_,by have:=run_endLoop (P:=P) hl (by rw[hrec];simp);rw[hrec]at this;exact this,hdone _ (hJ _ _ _ hj (zcK _ (.inr (.inr rfl)))) ((xd (by omega)).trans hk)⟩
  ·refine⟨hv,some .ret,_,by have:=run_endLoop (P:=P) hl (by rw[hrec];simp);rw[hrec]at this;exact this,?_⟩;exact zcg (m:=0) (wpIn_ret (hret _ (hJr _ _ hj (zcK _ (.inr (.inr rfl)))) ((xd (by omega)).trans hk)))
theorem zk4 (gs gp gv:Nat) (s:List UInt8) (w:zj) (hne:gs≠gp∧gs≠gv) (hlen:s.length≤2000000)
  (hs:w.heap[gs]? =some (.cells #[.string ⟨s.toArray⟩] 9 (0,0))) (hp:w.heap[gp]? =some (.cells #[.string ⟨#[10]⟩] 9 (0,0))) (hv:w.heap[gv]? =some (.cells #[.int .i64 0] 3 (0,0))):
  zsd Tryz.prog 1 145 #[.pointer (some ⟨gp,0,none⟩),.pointer (some ⟨gs,0,none⟩),.pointer (some ⟨gv,0,none⟩)] (itI gs gp gv) (segs s) w:=fun l J Jr W hW hJ hY h0=>
 zmV l gs gp gv s J Jr W hne hlen ((hW.block _ (zo.1 hs).1).trans hs) ((hW.block _ (zo.1 hp).1).trans hp) ((hW.block _ (zo.1 hv).1).trans hv) hJ hY h0
end
noncomputable def zjg (s p:List UInt8):Bool:=decide (p.length≤s.length)&&eqb .str (s.take p.length) p
noncomputable def cPre:Ctr:={ args:=[.str,.str],pre:=fun x=>[zg x.1≤2000000,zg x.2.1≤2000000],res:=.bool,own:=none,out:=fun x=>zjg x.1 x.2.1 }
theorem zno:yM Tryz.prog gmH 86 cPre:=by
 refine zar (K:=gmK) zak Tryz.func86 rfl rfl Tryz.call86 rfl (by decide) (by intro h;cases h) ?_;rintro w0 X hX ⟨(s:List UInt8),(p:List UInt8),⟨⟩⟩ hp;obtain⟨hs,hpl⟩:s.length≤2000000∧p.length≤2000000:=hp;change AWP _ _ _ _ _ ⟨[(0,⟨.str,s⟩),(1,⟨.str,p⟩)],[],0⟩ _;refine za (za ?_);refine zaa hX zak rfl ?_ ?_
 ·trivial
 refine za (za ?_);refine zaa hX zak rfl ?_ ?_
 ·have hd:decide (((p.length:Nat):Int)≤((s.length:Nat):Int))=true->((p.length:Nat):Int)≤((s.length:Nat):Int):=of_decide_eq_true;exact⟨fun h=>h,fun h=>⟨h,h,zi _,hd h⟩,fun h=>⟨h,h⟩,fun h=>h⟩
 refine zq ⟨.inr rfl,zax rfl trivial rfl rfl ?_⟩;show (bif decide (((p.length:Nat):Int)≤((s.length:Nat):Int)) then eqb .str (List.take (((p.length:Nat):Int)).toNat s) p else false)=(decide (p.length≤s.length)&&eqb .str (s.take p.length) p);rw[zco,dNat,zH]
noncomputable def kPx:Kn:={ gmK with C:=[(86,cPre)] }
theorem zph:KnOk Tryz.prog gmH kPx:=zak.with (.cons zno .nil)
theorem zpp:yM Tryz.prog gmH 51 cPre:=by
 refine zar (K:=kPx) zph Tryz.func51 rfl rfl Tryz.call51 rfl (by decide) (by intro h;cases h) ?_;rintro w0 X hX ⟨(s:List UInt8),(p:List UInt8),⟨⟩⟩ hp;obtain⟨hs,hpl⟩:s.length≤2000000∧p.length≤2000000:=hp;change AWP _ _ _ _ _ ⟨[(0,⟨.str,s⟩),(1,⟨.str,p⟩)],[],0⟩ _;refine za (za ?_);refine zaa hX zph rfl ?_ ?_
 ·trivial
 refine za (za ?_);refine zaa hX zph rfl ?_ ?_
 ·exact⟨hs,hpl⟩
 exact zq ⟨.inr rfl,zax rfl trivial rfl rfl rfl⟩
abbrev De:=List UInt8×List Nd×Unit
abbrev zoi (j:Nat):OObj:=.hbox 29 [⟨.obuf de,j⟩]
abbrev tD:zp:=29
def libE (l:List UInt8) (fr:Int) (acc:List De):Owns:=[(0,some (.hbox tD [⟨.lit,.slice none 0 0⟩])),(1,some (.box i64 (0:Int))),(2,some (.box i64 (0:Int))),(3,some (zoi 6)),(4,some (.box i64 fr)),(5,some (.box .str l)),(6,some (.buf 37 de acc))]
def kLb:Kn:={ gmK with H:=[tD] }
theorem zpi:KnOk Tryz.prog gmH kLb:=⟨zhx,zhw,CsOk.nil,ziE,RsOk.nil⟩
def zfB (l:List UInt8) (k:Int):Except (Int×Int) De:=(gDef l (zaR l,0) k).map fun r=>(r.1,r.2.flat 0,())
theorem znw (l:List UInt8) (k:Int):zlr l (zaR l,0) [] k=toX id (zfB l k):=by
 unfold zlr zfB;cases gDef l (zaR l,0) k<;>rfl
def NLib (l:List UInt8) (fr:Int) (acc:List De) (r:Except (Int×Int) Unit) (σ:AS):Prop:=(∃ d,zfB l ((acc.length:Nat):Int)= .ok d∧r= .ok ()∧Fit σ ⟨[],libE l fr (acc++ [d]),7⟩)∨∃ er,zfB l ((acc.length:Nat):Int)= .error er∧r= .error er∧Fit σ ⟨[],libE l fr acc,7⟩
set_option maxHeartbeats 4000000 in
theorem zqW {w1:zj} {X:Ownr} {l:List UInt8} {fr:Int} {acc:List De} (hl:l.length≤4000) (ha:acc.length≤1000000) (hX:X.Ok w1) (hG:X.G=gmH) (hK:X.K=6) (hρ:X.ρ=none) (hD:X.D=[]) (hinv:∀ ty,ginv w1 X.R ty):
  AWP Tryz.prog w1 X Tryz.f54.ntmps (Tryz.f54.body.getD .skip) ⟨[(0,⟨.hptr,((3:Nat),(0:Nat))⟩),(1,⟨.optr .str,⟨5,.str,.here⟩⟩)],libE l fr acc,7⟩ (fun e σ=>((e= .normal∨e= .ret)∧NLib l fr acc (.ok ()) σ)∨∃ er,e= .panic [{ v:=pvS er,recovered:=false }]∧NLib l fr acc (.error er) σ):=by
 obtain⟨G,O,K,fix,D,ρ,B⟩:=X;obtain rfl:G=gmH:=hG;obtain rfl:K=6:=hK;obtain rfl:ρ=none:=hρ;obtain rfl:D=[]:=hD;have hI:=fun ty=>zaJ (ty:=ty) hX rfl (hinv ty) (ty':=ty);have hl1:l.length≤100000:=by omega
 have hcap:acc.length+1≤1000000000:=by omega
 have hg0:GOk l (zaR l,0):=by
  have:=zgO (s:=l);unfold zh6 at this;rwa[zjY]at this
 have hok:pOk (l,zaR l,[],0,()):=⟨hg0,hl1⟩;have hfew:few (l,zaR l,[],0,()):=xC 0;have hx:=znw l ((acc.length:Nat):Int);unfold libE;refine jB dM 9 rfl (by kernel_rfl) ?_;cases hr:zfB l ((acc.length:Nat):Int) with
 |ok d=>
  rw[hr]at hx;have hx:zlr l (zaR l,0) [] ((acc.length:Nat):Int)= .ok d:=hx
  repeat'(first
   |exact jR
   |refine jn ⟨_,rfl,?_⟩ ?_
   |refine xe hX zpi rfl trivial ?_
   |refine StepA.fresh hX zei rfl rfl rfl rfl rfl rfl (by exact trivial) (by exact hl1) (by exact⟨rfl,rfl⟩) rfl rfl ?_
   |refine xe hX zpi rfl hcap ?_
   |refine StepA.conv (kS 7 6 73 nd rfl rfl rfl) (StepA.giveO hX zfM rfl rfl rfl rfl rfl rfl rfl rfl rfl rfl rfl rfl (by exact trivial) (by exact⟨hok,hfew⟩) (by exact hI 139) rfl rfl (by exact hx) ?_)
   |(refine jG ?_;exact .inl ⟨.inl rfl,.inl ⟨d,hr,rfl,trivial,⟨rfl,rfl,rfl,rfl,rfl,rfl,rfl,trivial⟩,rfl,rfl⟩⟩))
 |error er=>
  rw[hr]at hx;have hx:zlr l (zaR l,0) [] ((acc.length:Nat):Int)= .error (pvS er):=hx
  repeat'(first
   |exact jR
   |refine jn ⟨_,rfl,?_⟩ ?_
   |refine xe hX zpi rfl trivial ?_
   |refine StepA.fresh hX zei rfl rfl rfl rfl rfl rfl (by exact trivial) (by exact hl1) (by exact⟨rfl,rfl⟩) rfl rfl ?_
   |refine StepA.conv (kS 7 6 73 nd rfl rfl rfl) (StepA.giveE hX zfM rfl rfl rfl rfl rfl rfl rfl rfl rfl rfl rfl rfl (by exact trivial) (by exact⟨hok,hfew⟩) (by exact hI 139) rfl rfl (by exact hx) ?_)
   |exact .inr ⟨er,rfl,.inr ⟨er,hr,rfl,trivial,⟨rfl,rfl,rfl,rfl,rfl,rfl,rfl,trivial⟩,rfl,rfl⟩⟩)
def zh7:List De->List UInt8->List UInt8×Int
 | [],acc=>if 1048576 < acc.length then ([],2) else (acc,0)
 |d::r,acc=>
  if 32 < d.1.length then ([],2)
  else if zay d.1=0∨zay d.1 < d.1.length then ([],1)
  else if (fmtS d.2.1).2≠0 then ([],(fmtS d.2.1).2)
  else if 4000 < (d.1++ [32,61,32]++(fmtS d.2.1).1).length then ([],2)
  else zh7 r (acc++(d.1++ [32,61,32]++(fmtS d.2.1).1++ [10]))
def zbd (l:List De):List UInt8×Int:=if 4096 < l.length then ([],2) else zh7 l []
theorem zrd (r:List Nd):(fmtS r).1.length≤4000:=by
 unfold fmtS;split
 ·split
  ·exact zm _
  ·show (zc4 r).text.length≤4000;omega
 ·exact zm _
section
variable {w0:zj} {X:Ownr} {n:Nat} {Q:Exit->AS->Prop} {ops:Array Oper} {F:Frame} {E:Owns} {nx:Nat}
theorem AL.newBd (hX:X.Ok w0) {o:Oper} {rest:List Oper} (ho:o.op= .alloc 105) (hgd:o.guard=none) {d:Nat} (hd:o.dst=some d) (hdn:Nat.blt d n=true)
  (h:AL Tryz.prog w0 X n ops rest ⟨(d,⟨.hptr,(nx,(0:Nat))⟩)::F,(nx,some (.hbox 105 [⟨.lit,.pointer none⟩,⟨.lit,.slice none 0 0⟩]))::E,nx+1⟩ Q):AL Tryz.prog w0 X n ops (o::rest) ⟨F,E,nx⟩ Q:=by
 refine AL.hand hgd (fun c e=>by rw[ho]at e;cases e) fun β a w hs=>?_;have hlt:d < n:=by simpa using hdn
 refine zbx (u:=.pointer (some ⟨w.heap.size,0,none⟩)) (w':=w.alloc (.cells #[.pointer none,.slice none 0 0] 105 (0,0))) ?_ ?_
 ·unfold execOp;simp[ho,Instr.alloc,Tryz.zeroValue105,newVar,newRow,Value.cells,go_sem]
 ·rw[hd];obtain⟨β',h1⟩:=hs.make hX ((zO _ w).alloc (zk _) (.cells #[.pointer none,.slice none 0 0] 105 (0,0))) (bv:=.pointer (some ⟨w.heap.size,0,none⟩)) (o:=.hbox 105 [⟨.lit,.pointer none⟩,⟨.lit,.slice none 0 0⟩])
   (fun O β' _=>⟨w.heap.size,[.pointer none,.slice none 0 0],rfl,zm _,xn w _,⟨.pointer none,[.slice none 0 0],rfl,rfl,rfl,⟨.slice none 0 0,[],rfl,rfl,rfl,rfl⟩⟩⟩) (fun g hg=>by cases hg;exact zk _) (v:=⟨.hptr,(nx,(0:Nat))⟩) (u:=.pointer (some ⟨w.heap.size,0,none⟩))
   (fun O β' hb=>⟨w.heap.size,by show zah (β' nx)=_;rw[show β' nx=_ from hb];rfl,rfl⟩) (zk _) hlt (fun vs e v hv=>by
     cases e;rcases zX.1 hv with rfl|hv
     ·exact zm _
     ·rw[zu.1 hv];exact zm _)
  exact⟨_,β',h1,h⟩
end
@[reducible] def cStr0:HCtr:=hBl .unit [105] [] .str (fun _ _=>[]) fun x _=>.ok (x.2.1,x)
theorem zns {R:Nat->Prop} {w w':zj} (h:yO w.heap.size w w'):Kept R w w':=⟨h.os,h.tape,h.output,h.size,fun k hk _=>h.block k hk⟩
theorem zmU:zfS Tryz.prog gmH 62 cStr0 (fun x _=>.ok x.2.1):=by
 refine⟨Tryz.call62,zcm rfl,fun w O g cs ty x xs vs b hO hgb hg hx hbuf hrep hpre hinv hG=>?_⟩;by_cases h0:x.2.1=[]
 ·obtain⟨xb,(xl:List UInt8),⟨⟩⟩:=x;obtain rfl:xl=[]:=h0;have hvs:vs=[]:=hrep;subst hvs;obtain rfl:ty=105:=zu.1 hinv.2;rw[zoR]at hx;obtain⟨u,r,rfl,hu1,hu,hr⟩:=hx;obtain⟨v,r,rfl,hv1,hv,hr⟩:=hr;have hv:v=b:=hv;subst hv;have hr:r=[]:=hr;subst hr;obtain⟨cells,k1,k2,k3⟩:=hbuf;have k1:=zf2 k1;subst k1;have fin:∀ {e:Ending} {w':zj},(e= .returned (.string ⟨#[]⟩)∧yO w.heap.size w w')->Kept (fun h=>h=g∨zah v=some h) w w'∧LEnd cStr0 w w' O e (.ok ([]:List UInt8)):=fun {e w'} h=>⟨zns h.2,_,h.1,.inr fun β=>⟨rfl,zm _⟩⟩;rcases k2.2 with ⟨rfl,_⟩|⟨g',cap,cur,rfl,_,hg',hnc,hcm,hcs,htake⟩
  ·refine (Any.Builder_String_nil Tryz.lays169 Tryz.Builder_Extra_169 w.heap.size g u w hg).mono ?_;exact fun e w' h=>fin h
  ·by_cases hc0:cap=0
   ·subst hc0;refine (Any.Builder_String_noroom Tryz.lays169 Tryz.Builder_Extra_169 w.heap.size g g' u cur w (zk _) hg hg').mono ?_;exact fun e w' h=>fin h
   ·refine (Any.Builder_String_room Tryz.lays169 Tryz.Builder_Extra_169 w.heap.size g g' cap u w hc0 hg).mono ?_;exact fun e w' h=>fin h
 ·exact (zjQ .unit rfl [105]).2.2 w O g cs ty x xs vs b hO hgb hg hx hbuf hrep h0 hinv hG
def zDe:De:=([],[],())
def ztN:Ctr:={ args:=[.slice de],pre:=fun _=>[],res:=.tup .str (.tup i64 .unit),own:=none,out:=fun x=>((zbd x.1).1,(zbd x.1).2,()) }
def kFb:Kn:={ gmK with C:=[(65,zjr),(24,cFmt)] }
theorem za7:KnOk Tryz.prog gmH kFb:=zak.with (.cons zie.lift <| .cons zhC .nil)
def hFb:List (FuncId×HCtr):=[(66,cWSB),(61,znC .unit [105])]
theorem zr0:HsOk Tryz.prog gmH hFb:=.cons zmO <| .cons zs4 .nil
def bdE (b:Bool) (acc:List UInt8):Owns:=[(0,some (.hbox 105 [adV 0 b,⟨.obuf u8,(1:Nat)⟩])),(1,some (.buf 5 u8 acc))]
set_option maxHeartbeats 1000000 in
theorem zkC:yM Tryz.prog gmH 26 ztN:=by
 refine zar (K:=kFb) za7 Tryz.func26 rfl rfl Tryz.call26 rfl (by decide) (by intro h;cases h) ?_;rintro w0 X hX ⟨(l:List De),_⟩ hp;change AWP _ _ _ _ _ ⟨[(0,⟨.slice de,l⟩)],[],0⟩ _;refine vp 0 rfl fun hl=>?_;unfold maxLen at hl;have hI:∀ w R,(∀ g,R g->w0.heap.size≤g∨(Ownr.plain gmH X).R g)->(Ownr.plain gmH X).G w->bInv .unit [105] w R 105:=fun w R hR hw=>⟨zaJ (ty:=105) hX rfl (ziF hX) (ty':=105) w R hR hw,zu.2 rfl⟩;refine za (za ?_);refine zaa hX za7 rfl ?_ ?_
 ·trivial
 refine za (za ?_);refine zaa hX za7 rfl ?_ ?_
 ·trivial
 refine zaf rfl (fun hb=>?_) (fun hb=>?_)
 ·have hb:decide (((l.length:Nat):Int) > 4096)=true:=hb;have hb:=of_decide_eq_true hb;(repeat(first|apply zae|apply zab|apply zal|apply zad|apply zac|refine zaa hX za7 rfl trivial ?_|refine zaa hX za7 rfl id ?_|refine zaa hX za7 rfl ⟨id,id⟩ ?_));refine zq ⟨.inr rfl,zbk (by decide) rfl rfl trivial ?_⟩;show (([]:List UInt8),(2:Int),())=((zbd l).1,(zbd l).2,());unfold zbd;rw[if_pos (by omega)]
 have hb:decide (((l.length:Nat):Int) > 4096)=false:=hb;have hb:=of_decide_eq_false hb;have hS:zbd l=zh7 l []:=by unfold zbd;rw[if_neg (by omega)]
 apply zab;apply zae;refine zai ?_;refine AL.newBd hX rfl rfl rfl rfl ?_;refine AL.nilLeaf 0 1 5 u8 rfl rfl rfl ?_;refine AL.nil ?_;refine za (za ?_);refine zaa hX za7 rfl ?_ ?_
 ·trivial
 (repeat(first|apply zae|apply zab|apply zac|apply zad));refine yU (ι:=Nat×List UInt8) (fun p=>⟨[(0,⟨.slice de,l⟩),(4,⟨.hptr,((0:Nat),(0:Nat))⟩),(14,⟨.slice de,l⟩),(15,⟨i64,((l.length:Nat):Int)⟩),(16,⟨i64,(p.1:Int)⟩)],bdE (decide (0 < p.1)) p.2,2⟩) (fun p=>p.1≤l.length∧zbd l=zh7 (l.drop p.1) p.2∧p.2.length≤4001 * p.1) (fun p=>l.length - p.1) (0,[]) ⟨zm _,hS,zm _⟩ ⟨⟨rfl,rfl,rfl,rfl,rfl,trivial⟩,⟨rfl,rfl,trivial⟩,rfl,rfl⟩ ?_;rintro ⟨i,acc⟩ ⟨hi,hR,hal⟩;have hi:i≤l.length:=hi;have hR:zbd l=zh7 (l.drop i) acc:=hR;have hal:acc.length≤4001 * i:=hal;unfold bdE;refine za (za ?_);refine zaa hX za7 rfl ?_ ?_
 ·trivial
 apply zae;refine zaf rfl (fun hb=>?_) (fun hb=>?_)
 ·have hb2:decide ((i:Int) < (l.length:Nat))=true:=hb;have hb2:=of_decide_eq_true hb2;have hlt:i < l.length:=by omega
  have z0:(0:Int)≤(i:Int):=by omega
  have hgd:l.getD (i:Int).toNat zDe=l[i]:=za1 hlt;rw[yQ hlt,zh7, <-hgd]at hR;generalize hbq:decide (0 < i)=b;refine za (za ?_);refine zaa hX za7 rfl ?_ ?_
  ·exact⟨z0,hb2⟩
  generalize hD:l.getD (i:Int).toNat zDe=D at *;obtain⟨(nm:List UInt8),(rl:List Nd),⟨⟩⟩:=D;refine zaq (σ':=⟨[(0,⟨.slice de,l⟩),(4,⟨.hptr,((0:Nat),(0:Nat))⟩),(14,⟨.slice de,l⟩),(15,⟨i64,((l.length:Nat):Int)⟩),(16,⟨i64,(i:Int)⟩),(6,⟨.optr de,⟨2,de,.here⟩⟩)],(2,some (.box de (nm,rl,())))::bdE b acc,3⟩) ⟨⟨rfl,rfl,rfl,rfl,rfl,rfl,trivial⟩,⟨zfP hD,rfl,rfl,trivial⟩,rfl,by cases b<;>rfl⟩ ?_;have hR:zbd l=if 32 < nm.length then ([],2) else if zay nm=0∨zay nm < nm.length then ([],1) else if (fmtS rl).2≠0 then ([],(fmtS rl).2) else if 4000 < (nm++ [32,61,32]++(fmtS rl).1).length then ([],2) else zh7 (l.drop (i+1)) (acc++(nm++ [32,61,32]++(fmtS rl).1++ [10])):=hR
  unfold bdE;refine za (za ?_);refine zaa hX za7 rfl ?_ ?_
  ·trivial
  refine za (za ?_);refine zaa hX za7 rfl ?_ ?_
  ·trivial
  refine zaf rfl (fun hc=>?_) (fun hc=>?_)
  ·have hc:decide (((nm.length:Nat):Int) > 32)=true:=hc;have hc:=of_decide_eq_true hc;(repeat(first|apply zae|apply zab|apply zal|apply zad|apply zac|refine zaa hX za7 rfl trivial ?_|refine zaa hX za7 rfl id ?_|refine zaa hX za7 rfl ⟨id,id⟩ ?_));refine zq ⟨.inr rfl,zbk (by decide) rfl rfl trivial ?_⟩;show (([]:List UInt8),(2:Int),())=((zbd l).1,(zbd l).2,());rw[hR,if_pos (by omega)]
  have hc:decide (((nm.length:Nat):Int) > 32)=false:=hc;have hc:=of_decide_eq_false hc;refine za (za ?_);refine zaa hX za7 rfl ?_ ?_
  ·repeat'(first|exact trivial|assumption|(refine⟨?_,?_⟩)|(intro _)|exact zb rfl|exact zi _|(simp_all [allP];done))
  have hq:(bif ((zay nm:Nat):Int)==0 then true else decide (((zay nm:Nat):Int) < ((nm.length:Nat):Int)))=decide (zay nm=0∨zay nm < nm.length):=by
   rw[b_or,yu,zZ,decide_eq_true_iff,decide_eq_true_iff,beq_iff_eq];omega
  refine zaf rfl (fun hd=>?_) (fun hd=>?_)
  ·have hd:=hq.symm.trans hd;have hd:=of_decide_eq_true hd;(repeat(first|apply zae|apply zab|apply zal|apply zad|apply zac|refine zaa hX za7 rfl trivial ?_|refine zaa hX za7 rfl id ?_|refine zaa hX za7 rfl ⟨id,id⟩ ?_));refine zq ⟨.inr rfl,zbk (by decide) rfl rfl trivial ?_⟩;show (([]:List UInt8),(1:Int),())=((zbd l).1,(zbd l).2,());rw[hR,if_neg (by omega),if_pos hd]
  have hd:=hq.symm.trans hd;have hd:=of_decide_eq_false hd;apply zab;refine za (za ?_);refine zaa hX za7 rfl ?_ ?_
  ·trivial
  refine zaq (σ':=⟨[(0,⟨.slice de,l⟩),(4,⟨.hptr,((0:Nat),(0:Nat))⟩),(14,⟨.slice de,l⟩),(15,⟨i64,((l.length:Nat):Int)⟩),(16,⟨i64,(i:Int)⟩),(6,⟨.optr de,⟨2,de,.here⟩⟩),(8,⟨.str,(fmtS rl).1⟩),(9,⟨i64,(fmtS rl).2⟩)],(2,some (.box de (nm,rl,())))::bdE b acc,3⟩) ⟨⟨rfl,rfl,rfl,rfl,rfl,rfl,rfl,rfl,trivial⟩,⟨rfl,rfl,rfl,trivial⟩,rfl,by cases b<;>rfl⟩ ?_;have hfl:=zrd rl;generalize (fmtS rl).1=T at *;generalize (fmtS rl).2=ec at *;unfold bdE;refine za (za ?_);refine zaa hX za7 rfl ?_ ?_
  ·trivial
  refine zaf rfl (fun he=>?_) (fun he=>?_)
  ·have he:(ec != 0)=true:=he;have he:=bne_iff_ne.1 he;(repeat(first|apply zae|apply zab|apply zal|apply zad|apply zac|refine zaa hX za7 rfl trivial ?_|refine zaa hX za7 rfl id ?_|refine zaa hX za7 rfl ⟨id,id⟩ ?_));refine zq ⟨.inr rfl,zbk (by decide) rfl rfl trivial ?_⟩;show (([]:List UInt8),ec,())=((zbd l).1,(zbd l).2,());rw[hR,if_neg (by omega),if_neg hd,if_pos he]
  have he:(ec != 0)=false:=he;have he:¬ ec≠0:=fun h=>by rw[bne_iff_ne.2 h]at he;cases he
  apply zab;have t1:nm.length+3≤maxLen:=by unfold maxLen;omega
  have t2:zg (nm++ [32,61,32]:List UInt8)+T.length≤maxLen:=by rw[zf];show nm.length+3+_≤_;unfold maxLen;omega
  have t3:(nm++ [32,61,32]++T:List UInt8).length=nm.length+3+T.length:=by rw[zf,zf];rfl
  refine za (za ?_);refine zaa hX za7 rfl ?_ ?_
  ·exact⟨t1,t2⟩
  refine zaq (σ':=⟨[(0,⟨.slice de,l⟩),(4,⟨.hptr,((0:Nat),(0:Nat))⟩),(14,⟨.slice de,l⟩),(15,⟨i64,((l.length:Nat):Int)⟩),(16,⟨i64,(i:Int)⟩),(10,⟨.str,nm++ [32,61,32]++T⟩)],bdE b acc,3⟩) ⟨⟨rfl,rfl,rfl,rfl,rfl,rfl,trivial⟩,⟨rfl,rfl,trivial⟩,rfl,by cases b<;>rfl⟩ ?_;generalize (nm++ [32,61,32]++T:List UInt8)=L at hR t3;unfold bdE;refine za (za ?_);refine zaa hX za7 rfl ?_ ?_
  ·trivial
  refine zaf rfl (fun hf=>?_) (fun hf=>?_)
  ·have hf:decide (((L.length:Nat):Int) > 4000)=true:=hf;have hf:=of_decide_eq_true hf;(repeat(first|apply zae|apply zab|apply zal|apply zad|apply zac|refine zaa hX za7 rfl trivial ?_|refine zaa hX za7 rfl id ?_|refine zaa hX za7 rfl ⟨id,id⟩ ?_));refine zq ⟨.inr rfl,zbk (by decide) rfl rfl trivial ?_⟩;show (([]:List UInt8),(2:Int),())=((zbd l).1,(zbd l).2,());rw[hR,if_neg (by omega),if_neg hd,if_neg he,if_pos (by omega)]
  have hf:decide (((L.length:Nat):Int) > 4000)=false:=hf;have hf:=of_decide_eq_false hf;rw[if_neg (by omega),if_neg hd,if_neg he,if_neg (by omega)]at hR;apply zab;have hl1:(L++ [10]:List UInt8).length=L.length+1:=by rw[zf];rfl
  have t4:L.length+1≤maxLen:=by unfold maxLen;omega
  have t5:acc.length+zg (L++ [10]:List UInt8)≤1000000000:=by omega
  cases b
  all_goals
   (repeat(first|apply zae|apply zab|apply zac|apply zad));refine zai ?_;refine AL.own 2 hX za7 zr0 rfl t4 rfl rfl t5 hI ?_;refine AL.nil ?_;refine zaq (σ':=⟨[(0,⟨.slice de,l⟩),(4,⟨.hptr,((0:Nat),(0:Nat))⟩),(14,⟨.slice de,l⟩),(15,⟨i64,((l.length:Nat):Int)⟩),(16,⟨i64,(i:Int)⟩)],[(0,some (.hbox 105 [adV 0 true,⟨.obuf u8,(1:Nat)⟩])),(1,some (.buf 5 u8 (acc++(L++ [10]))))],3⟩) ⟨⟨rfl,rfl,rfl,rfl,rfl,trivial⟩,⟨rfl,rfl,trivial⟩,rfl,rfl⟩ ?_;refine za (za ?_);refine zaa hX za7 rfl ?_ ?_
   ·exact zaU (by omega)
   refine⟨(i+1,acc++(L++ [10])),⟨hlt,hR,?_⟩,by show l.length - (i+1) < l.length - i;omega,⟨rfl,rfl,rfl,rfl,zdy _,trivial⟩,⟨?_,rfl,trivial⟩,rfl,?_⟩
   ·show zg (acc++(L++ [10]):List UInt8)≤4001 * (i+1);rw[zf];omega
   ·rw[show decide (0 < (i+1,acc++(L++ [10])).1)=true from decide_eq_true (Nat.succ_pos _)];rfl
   ·rw[show decide (0 < (i+1,acc++(L++ [10])).1)=true from decide_eq_true (Nat.succ_pos _)];rfl
 ·have hb2:decide ((i:Int) < (l.length:Nat))=false:=hb;have hb2:=of_decide_eq_false hb2;obtain rfl:i=l.length:=by omega
  rw[jI,zh7]at hR;generalize decide (0 < l.length)=b;apply zad;refine zaq (σ':=⟨[(4,⟨.hptr,((0:Nat),(0:Nat))⟩)],bdE b acc,2⟩) ⟨⟨rfl,trivial⟩,⟨rfl,rfl,trivial⟩,rfl,by cases b<;>rfl⟩ ?_;unfold bdE;cases b
  all_goals
   (repeat(first|apply zae|apply zab|apply zac|apply zad));refine zai ?_;refine AL.own 0 hX za7 zr0 rfl trivial rfl rfl trivial hI ?_;refine zV hX za7 rfl trivial ?_;refine zaf rfl (fun hc=>?_) (fun hc=>?_)
   ·have hc:decide (((acc.length:Nat):Int) > 1048576)=true:=hc;have hc:=of_decide_eq_true hc;(repeat(first|apply zae|apply zab|apply zal|apply zad|apply zac|refine zaa hX za7 rfl trivial ?_|refine zaa hX za7 rfl id ?_|refine zaa hX za7 rfl ⟨id,id⟩ ?_));refine zq ⟨.inr rfl,zbk (by decide) rfl rfl trivial ?_⟩;show (([]:List UInt8),(2:Int),())=((zbd l).1,(zbd l).2,());rw[hR,if_pos (by omega)]
   ·have hc:decide (((acc.length:Nat):Int) > 1048576)=false:=hc;have hc:=of_decide_eq_false hc;apply zab;(repeat(first|apply zae|apply zab|apply zac|apply zad));refine zai ?_;refine AL.give hX zmU rfl rfl rfl rfl rfl rfl rfl rfl rfl rfl rfl rfl trivial trivial hI rfl rfl ?_;show AL _ _ _ _ _ _ _ _;refine zV hX za7 rfl trivial ?_;refine zq ⟨.inr rfl,zbk (by decide) rfl rfl trivial ?_⟩;show (acc,(0:Int),())=((zbd l).1,(zbd l).2,());rw[hR,if_neg (by omega)]
noncomputable def eqN (a b:Nd):Bool:=eqb nd a b
theorem zly {a b:Nd}:eqN a b=true↔a=b:=zbe
theorem zhH {a b:Nd}:eqN a b=false↔a≠b:=by rw[<-vk,zly]
noncomputable def zr6:Ctr:={ args:=[nd,nd],pre:=fun _=>[],res:=.bool,own:=none,out:=fun x=>eqN x.1 x.2.1 }
theorem eqb_ne (x y:List UInt8):(!eqb .str x y)= !decide (x=y):=by rw[zdM]
theorem zqp:yM Tryz.prog gmH 49 zr6:=by
 refine zar (K:=gmK) zak Tryz.func49 rfl rfl Tryz.call49 rfl (by decide) (by intro h;cases h) ?_;rintro w0 X hX ⟨(a:Nd),(b:Nd),_⟩ hp;change AWP _ _ _ _ _ ⟨[(0,⟨nd,a⟩),(1,⟨nd,b⟩)],[],0⟩ _;refine za (za ?_);refine zaa hX zak rfl ?_ ?_
 ·trivial
 refine za (za ?_);refine zaa hX zak rfl ?_ ?_
 ·repeat'(first|exact trivial|assumption|(refine⟨?_,?_⟩)|(intro _)|exact zb rfl|exact zi _|(simp_all [allP];done))
 obtain⟨a1,a2,a3,a4,a5,a6,(la:List Int),a8,⟨⟩⟩:=a;obtain⟨b1,b2,b3,b4,b5,b6,(lb:List Int),b8,⟨⟩⟩:=b;have ht:(bif (bif (bif (bif (bif (bif (bif a1 != b1 then true else a2 != b2) then true else a3 != b3) then true else a4 != b4) then true else a5 != b5) then true else a6 != b6) then true else !eqb .str a8 b8) then true else ((la.length:Nat):Int) != ((lb.length:Nat):Int))=true↔¬ (a1=b1∧a2=b2∧a3=b3∧a4=b4∧a5=b5∧a6=b6∧a8=b8∧la.length=lb.length):=by
  rw[eqb_ne];simp only[b_or,zZ,bne_iff_ne,zw,decide_eq_false_iff_not];constructor
  ·rintro (((((((h|h)|h)|h)|h)|h)|h)|h) ⟨x1,x2,x3,x4,x5,x6,x7,x8⟩
   ·exact h x1
   ·exact h x2
   ·exact h x3
   ·exact h x4
   ·exact h x5
   ·exact h x6
   ·exact h x7
   ·exact h (by rw[x8])
  ·intro h;by_cases x1:a1=b1
   ·by_cases x2:a2=b2
    ·by_cases x3:a3=b3
     ·by_cases x4:a4=b4
      ·by_cases x5:a5=b5
       ·by_cases x6:a6=b6
        ·by_cases x7:a8=b8
         ·refine .inr fun e=>h ⟨x1,x2,x3,x4,x5,x6,x7,by omega⟩
         ·exact .inl (.inr x7)
        ·exact .inl (.inl (.inr x6))
       ·exact .inl (.inl (.inl (.inr x5)))
      ·exact .inl (.inl (.inl (.inl (.inr x4))))
     ·exact .inl (.inl (.inl (.inl (.inl (.inr x3)))))
    ·exact .inl (.inl (.inl (.inl (.inl (.inl (.inr x2))))))
   ·exact .inl (.inl (.inl (.inl (.inl (.inl (.inl x1))))))
 refine zaf rfl (fun hb=>?_) (fun hb=>?_)
 ·have hb:=ht.1 hb;(repeat(first|apply zae|apply zab|apply zal|apply zad|apply zac|refine zaa hX zak rfl trivial ?_|refine zaa hX zak rfl id ?_|refine zaa hX zak rfl ⟨id,id⟩ ?_));refine zq ⟨.inr rfl,zax rfl trivial rfl rfl ?_⟩;refine (zhH.2 fun e=>hb ?_).symm;cases e;exact⟨rfl,rfl,rfl,rfl,rfl,rfl,rfl,rfl⟩
 ·have hb:¬ _:=fun h=>by rw[ht.2 h]at hb;cases hb
  obtain⟨rfl,rfl,rfl,rfl,rfl,rfl,rfl,hlen⟩:=uE.1 hb;apply zab;refine za (za ?_);refine zaa hX zak rfl ?_ ?_
  ·trivial
  (repeat(first|apply zae|apply zab|apply zac|apply zad));refine zaq (σ':=⟨[(2,⟨.optr nd,⟨0,nd,.here⟩⟩),(3,⟨.optr nd,⟨1,nd,.here⟩⟩),(5,⟨i64,(0:Int)⟩)],[(0,some (.box nd (a1,a2,a3,a4,a5,a6,la,a8,()))),(1,some (.box nd (a1,a2,a3,a4,a5,a6,lb,a8,())))],2⟩) ⟨⟨rfl,rfl,rfl,trivial⟩,⟨rfl,rfl,trivial⟩,rfl,rfl⟩ ?_;refine yU (ι:=Nat) (fun k=>⟨[(2,⟨.optr nd,⟨0,nd,.here⟩⟩),(3,⟨.optr nd,⟨1,nd,.here⟩⟩),(5,⟨i64,(k:Int)⟩)],[(0,some (.box nd (a1,a2,a3,a4,a5,a6,la,a8,()))),(1,some (.box nd (a1,a2,a3,a4,a5,a6,lb,a8,())))],2⟩) (fun k=>k≤la.length∧la.take k=lb.take k) (fun k=>la.length - k) 0 ⟨zm _,rfl⟩ ⟨⟨rfl,rfl,rfl,trivial⟩,⟨rfl,rfl,trivial⟩,rfl,rfl⟩ ?_;rintro k ⟨hk,he⟩;refine za (za ?_);refine zaa hX zak rfl ?_ ?_
  ·trivial
  refine vp 64 rfl fun hl=>?_;have hl:la.length≤maxLen:=hl;unfold maxLen at hl;refine zaf rfl (fun hb=>?_) (fun hb=>?_)
  ·have hb:decide ((k:Int) < ((la.length:Nat):Int))=true:=hb;have hb:=of_decide_eq_true hb;have hlt:k < la.length:=by omega
   have hlt2:k < lb.length:=by omega
   have z0:(0:Int)≤(k:Int):=by omega
   have z1:(k:Int) < ((la.length:Nat):Int):=by omega
   have z2:(k:Int) < ((lb.length:Nat):Int):=by omega
   have g1:la.getD (k:Int).toNat (0:Int)=la[k]:=za1 hlt;have g2:lb.getD (k:Int).toNat (0:Int)=lb[k]:=za1 hlt2;(repeat(first|apply zae|apply zab|apply zac|apply zad));refine kV dM hX zak 11 (by kernel_rfl) rfl rfl ?_ ?_ ?_
   ·repeat'(first|exact trivial|assumption|exact z0|exact z1|exact z2|(refine⟨?_,?_⟩)|(intro _)|exact zb rfl|exact zi _|(simp_all [allP];done))
   ·trivial
   refine zaf rfl (fun hc=>?_) (fun hc=>?_)
   ·have hc:(la.getD (k:Int).toNat (0:Int) != lb.getD (k:Int).toNat (0:Int))=true:=hc;rw[g1,g2]at hc;have hc:=bne_iff_ne.1 hc;(repeat(first|apply zae|apply zab|apply zal|apply zad|apply zac|refine zaa hX zak rfl trivial ?_|refine zaa hX zak rfl id ?_|refine zaa hX zak rfl ⟨id,id⟩ ?_));refine zq ⟨.inr rfl,zax rfl trivial rfl rfl ?_⟩;refine (zhH.2 fun e=>hc ?_).symm;have e:la=lb:=congrArg ndI e;subst e;rfl
   ·have hc:(la.getD (k:Int).toNat (0:Int) != lb.getD (k:Int).toNat (0:Int))=false:=hc;rw[g1,g2]at hc;have hc:=bne_eq_false_iff_eq.1 hc;apply zab;refine za (za ?_);refine zaa hX zak rfl ?_ ?_
    ·exact zaU (by omega)
    refine⟨k+1,⟨hlt,?_⟩,by omega,⟨rfl,rfl,zdy _,trivial⟩,⟨rfl,rfl,trivial⟩,rfl,rfl⟩;rw[zF hlt,zF hlt2,he,hc]
  ·have hb:decide ((k:Int) < ((la.length:Nat):Int))=false:=hb;have hb:=of_decide_eq_false hb;obtain rfl:k=la.length:=by omega
   (repeat(first|apply zae|apply zab|apply zal|apply zad|apply zac|refine zaa hX zak rfl trivial ?_|refine zaa hX zak rfl id ?_|refine zaa hX zak rfl ⟨id,id⟩ ?_));refine zq ⟨.inr rfl,zax rfl trivial rfl rfl ?_⟩;refine (zly.2 ?_).symm;rw[yS,hlen,yS]at he;rw[he]
noncomputable def zj0 (a b:List Nd):Bool:=eqb (.slice nd) a b
theorem zg0 {a b:List Nd}:zj0 a b=true↔a=b:=zbe
theorem ze2 {a b:List Nd}:zj0 a b=false↔a≠b:=by rw[<-vk,zg0]
noncomputable def ztK:Ctr:={ args:=[.slice nd,.slice nd],pre:=fun _=>[],res:=.bool,own:=none,out:=fun x=>zj0 x.1 x.2.1 }
noncomputable def kSame:Kn:={ gmK with C:=[(49,zr6)] }
theorem zbz:KnOk Tryz.prog gmH kSame:=zak.with (.cons zqp .nil)
theorem zoc:yM Tryz.prog gmH 18 ztK:=by
 refine zar (K:=kSame) zbz Tryz.func18 rfl rfl Tryz.call18 rfl (by decide) (by intro h;cases h) ?_;rintro w0 X hX ⟨(la:List Nd),(lb:List Nd),_⟩ hp;change AWP _ _ _ _ _ ⟨[(0,⟨.slice nd,la⟩),(1,⟨.slice nd,lb⟩)],[],0⟩ _;refine vp 0 rfl fun hl=>?_;unfold maxLen at hl;refine za (za ?_);refine zaa hX zbz rfl ?_ ?_
 ·trivial
 refine za (za ?_);refine zaa hX zbz rfl ?_ ?_
 ·trivial
 refine zaf rfl (fun hb=>?_) (fun hb=>?_)
 ·have hb:(((la.length:Nat):Int) != ((lb.length:Nat):Int))=true:=hb;have hb:=bne_iff_ne.1 hb;(repeat(first|apply zae|apply zab|apply zal|apply zad|apply zac|refine zaa hX zbz rfl trivial ?_|refine zaa hX zbz rfl id ?_|refine zaa hX zbz rfl ⟨id,id⟩ ?_));refine zq ⟨.inr rfl,zax rfl trivial rfl rfl ?_⟩;exact (ze2.2 fun e=>hb (by have e:la=lb:=e;rw[e])).symm
 have hb:(((la.length:Nat):Int) != ((lb.length:Nat):Int))=false:=hb;have hb:=bne_eq_false_iff_eq.1 hb;have hlen:la.length=lb.length:=by omega
 apply zab;refine za (za ?_);refine zaa hX zbz rfl ?_ ?_
 ·trivial
 (repeat(first|apply zae|apply zab|apply zac|apply zad));refine yU (ι:=Nat) (fun k=>⟨[(0,⟨.slice nd,la⟩),(1,⟨.slice nd,lb⟩),(5,⟨i64,(k:Int)⟩)],[],0⟩) (fun k=>k≤la.length∧la.take k=lb.take k) (fun k=>la.length - k) 0 ⟨zm _,rfl⟩ ⟨⟨rfl,rfl,rfl,trivial⟩,trivial,rfl,rfl⟩ ?_;rintro k ⟨hk,he⟩;refine za (za ?_);refine zaa hX zbz rfl ?_ ?_
 ·trivial
 refine zaf rfl (fun hb=>?_) (fun hb=>?_)
 ·have hb:decide ((k:Int) < ((la.length:Nat):Int))=true:=hb;have hb:=of_decide_eq_true hb;have hlt:k < la.length:=by omega
  have hlt2:k < lb.length:=by omega
  have z0:(0:Int)≤(k:Int):=by omega
  have z1:(k:Int) < ((la.length:Nat):Int):=by omega
  have z2:(k:Int) < ((lb.length:Nat):Int):=by omega
  have g1:la.getD (k:Int).toNat zNd=la[k]:=za1 hlt;have g2:lb.getD (k:Int).toNat zNd=lb[k]:=za1 hlt2;(repeat(first|apply zae|apply zab|apply zac|apply zad));refine kV dM hX zbz 10 (by kernel_rfl) rfl rfl ?_ ?_ ?_
  ·repeat'(first|exact trivial|assumption|exact z0|exact z1|exact z2|(refine⟨?_,?_⟩)|(intro _)|exact zb rfl|exact zi _|(simp_all [allP];done))
  ·trivial
  refine zaf rfl (fun hc=>?_) (fun hc=>?_)
  ·have hc:(!eqN (la.getD (k:Int).toNat zNd) (lb.getD (k:Int).toNat zNd))=true:=hc;rw[g1,g2,zw]at hc;have hc:=zhH.1 hc;(repeat(first|apply zae|apply zab|apply zal|apply zad|apply zac|refine zaa hX zbz rfl trivial ?_|refine zaa hX zbz rfl id ?_|refine zaa hX zbz rfl ⟨id,id⟩ ?_));refine zq ⟨.inr rfl,zax rfl trivial rfl rfl ?_⟩;refine (ze2.2 fun e=>hc ?_).symm;have e:la=lb:=e;subst e;rfl
  ·have hc:(!eqN (la.getD (k:Int).toNat zNd) (lb.getD (k:Int).toNat zNd))=false:=hc;rw[g1,g2,xg]at hc;have hc:=zly.1 hc;apply zab;refine za (za ?_);refine zaa hX zbz rfl ?_ ?_
   ·exact zaU (by omega)
   refine⟨k+1,⟨hlt,?_⟩,by omega,⟨rfl,rfl,zdy _,trivial⟩,trivial,rfl,rfl⟩;rw[zF hlt,zF hlt2,he,hc]
 ·have hb:decide ((k:Int) < ((la.length:Nat):Int))=false:=hb;have hb:=of_decide_eq_false hb;obtain rfl:k=la.length:=by omega
  (repeat(first|apply zae|apply zab|apply zal|apply zad|apply zac|refine zaa hX zbz rfl trivial ?_|refine zaa hX zbz rfl id ?_|refine zaa hX zbz rfl ⟨id,id⟩ ?_));refine zq ⟨.inr rfl,zax rfl trivial rfl rfl ?_⟩;refine (zg0.2 ?_).symm;rw[yS,hlen,yS]at he;exact he
noncomputable def zlT (a b:List De):Bool:=eqb (.slice de) a b
theorem zfX {a b:List De}:zlT a b=true↔a=b:=zbe
theorem zgo {a b:List De}:zlT a b=false↔a≠b:=by rw[<-vk,zfX]
noncomputable def zr7:Ctr:={ args:=[.slice de,.slice de],pre:=fun _=>[],res:=.bool,own:=none,out:=fun x=>zlT x.1 x.2.1 }
noncomputable def zrV:Kn:={ gmK with C:=[(18,ztK)] }
theorem zbg:KnOk Tryz.prog gmH zrV:=zak.with (.cons zoc .nil)
theorem zqq:yM Tryz.prog gmH 21 zr7:=by
 refine zar (K:=zrV) zbg Tryz.func21 rfl rfl Tryz.call21 rfl (by decide) (by intro h;cases h) ?_;rintro w0 X hX ⟨(la:List De),(lb:List De),_⟩ hp;change AWP _ _ _ _ _ ⟨[(0,⟨.slice de,la⟩),(1,⟨.slice de,lb⟩)],[],0⟩ _;refine vp 0 rfl fun hl=>?_;unfold maxLen at hl;refine za (za ?_);refine zaa hX zbg rfl ?_ ?_
 ·trivial
 refine za (za ?_);refine zaa hX zbg rfl ?_ ?_
 ·trivial
 refine zaf rfl (fun hb=>?_) (fun hb=>?_)
 ·have hb:(((la.length:Nat):Int) != ((lb.length:Nat):Int))=true:=hb;have hb:=bne_iff_ne.1 hb;(repeat(first|apply zae|apply zab|apply zal|apply zad|apply zac|refine zaa hX zbg rfl trivial ?_|refine zaa hX zbg rfl id ?_|refine zaa hX zbg rfl ⟨id,id⟩ ?_));refine zq ⟨.inr rfl,zax rfl trivial rfl rfl ?_⟩;exact (zgo.2 fun e=>hb (by have e:la=lb:=e;rw[e])).symm
 have hb:(((la.length:Nat):Int) != ((lb.length:Nat):Int))=false:=hb;have hb:=bne_eq_false_iff_eq.1 hb;have hlen:la.length=lb.length:=by omega
 apply zab;refine za (za ?_);refine zaa hX zbg rfl ?_ ?_
 ·trivial
 (repeat(first|apply zae|apply zab|apply zac|apply zad));refine yU (ι:=Nat) (fun k=>⟨[(0,⟨.slice de,la⟩),(1,⟨.slice de,lb⟩),(5,⟨i64,(k:Int)⟩)],[],0⟩) (fun k=>k≤la.length∧la.take k=lb.take k) (fun k=>la.length - k) 0 ⟨zm _,rfl⟩ ⟨⟨rfl,rfl,rfl,trivial⟩,trivial,rfl,rfl⟩ ?_;rintro k ⟨hk,he⟩;refine za (za ?_);refine zaa hX zbg rfl ?_ ?_
 ·trivial
 refine zaf rfl (fun hb=>?_) (fun hb=>?_)
 ·have hb:decide ((k:Int) < ((la.length:Nat):Int))=true:=hb;have hb:=of_decide_eq_true hb;have hlt:k < la.length:=by omega
  have hlt2:k < lb.length:=by omega
  have z0:(0:Int)≤(k:Int):=by omega
  have z1:(k:Int) < ((la.length:Nat):Int):=by omega
  have z2:(k:Int) < ((lb.length:Nat):Int):=by omega
  have g1:la.getD (k:Int).toNat zDe=la[k]:=za1 hlt;have g2:lb.getD (k:Int).toNat zDe=lb[k]:=za1 hlt2;have hq:(bif !eqb .str la[k].1 lb[k].1 then true else !zj0 la[k].2.1 lb[k].2.1)=true↔la[k]≠lb[k]:=by
   rw[b_or,zZ,zw,zw,ze2, <-vk,zbe];generalize la[k]=x;generalize lb[k]=y;obtain⟨x1,x2,⟨⟩⟩:=x;obtain⟨y1,y2,⟨⟩⟩:=y;constructor
   ·rintro (h|h) e
    ·cases e;exact h rfl
    ·cases e;exact h rfl
   ·intro h;by_cases h1:x1=y1
    ·refine .inr fun h2=>h ?_;have h2:x2=y2:=h2;rw[h1,h2]
    ·exact .inl h1
  (repeat(first|apply zae|apply zab|apply zac|apply zad));refine kV dM hX zbg 25 (by kernel_rfl) rfl rfl ?_ ?_ ?_
  ·repeat'(first|exact trivial|assumption|exact z0|exact z1|exact z2|(refine⟨?_,?_⟩)|(intro _)|exact zb rfl|exact zi _|(simp_all [allP];done))
  ·trivial
  refine zaf rfl (fun hc=>?_) (fun hc=>?_)
  ·have hc:(bif !eqb .str (la.getD (k:Int).toNat zDe).1 (lb.getD (k:Int).toNat zDe).1 then true else !zj0 (la.getD (k:Int).toNat zDe).2.1 (lb.getD (k:Int).toNat zDe).2.1)=true:=hc;rw[g1,g2]at hc;have hc:=hq.1 hc;(repeat(first|apply zae|apply zab|apply zal|apply zad|apply zac|refine zaa hX zbg rfl trivial ?_|refine zaa hX zbg rfl id ?_|refine zaa hX zbg rfl ⟨id,id⟩ ?_));refine zq ⟨.inr rfl,zax rfl trivial rfl rfl ?_⟩;refine (zgo.2 fun e=>hc ?_).symm;have e:la=lb:=e;subst e;rfl
  ·have hc:(bif !eqb .str (la.getD (k:Int).toNat zDe).1 (lb.getD (k:Int).toNat zDe).1 then true else !zj0 (la.getD (k:Int).toNat zDe).2.1 (lb.getD (k:Int).toNat zDe).2.1)=false:=hc;rw[g1,g2]at hc;have hc:la[k]=lb[k]:=uE.1 fun h=>by rw[hq.2 h]at hc;cases hc
   apply zab;refine za (za ?_);refine zaa hX zbg rfl ?_ ?_
   ·exact zaU (by omega)
   refine⟨k+1,⟨hlt,?_⟩,by omega,⟨rfl,rfl,zdy _,trivial⟩,trivial,rfl,rfl⟩;rw[zF hlt,zF hlt2,he,hc]
 ·have hb:decide ((k:Int) < ((la.length:Nat):Int))=false:=hb;have hb:=of_decide_eq_false hb;obtain rfl:k=la.length:=by omega
  (repeat(first|apply zae|apply zab|apply zal|apply zad|apply zac|refine zaa hX zbg rfl trivial ?_|refine zaa hX zbg rfl id ?_|refine zaa hX zbg rfl ⟨id,id⟩ ?_));refine zq ⟨.inr rfl,zax rfl trivial rfl rfl ?_⟩;refine (zfX.2 ?_).symm;rw[yS,hlen,yS]at he;exact he
noncomputable def zfz (y:List UInt8):Bool:=(!zjg y [35])&&decide (zbB isWh y < y.length)
noncomputable def zec (y:List UInt8) (fr:Nat) (acc:List De):Except (Int×Int) (List De):=
 if zfz y=true then
  if 4000 < y.length then .error ((fr:Int),2)
  else match zfB y ((acc.length:Nat):Int) with
   | .ok d=>.ok (acc++ [d])
   | .error e=>if e.2=0 then .ok acc else .error ((fr:Int)+e.1,e.2)
 else .ok acc
noncomputable def libK:List (List UInt8)->Nat->List De->List De×Int×Int
 | [],_,acc=>(acc,0,0)
 |y::r,fr,acc=>match zec y fr acc with
  | .error e=>([],e.1,e.2)
  | .ok acc'=>libK r (fr+y.length+1) acc'
noncomputable def zaS (s:List UInt8):List De×Int×Int:=if 1048576 < s.length then ([],0,2) else libK (segs s) 0 []
def lPF:List (Nat×V):=[(2,⟨.hptr,((0:Nat),(0:Nat))⟩),(3,⟨.optr i64,⟨1,i64,.here⟩⟩),(4,⟨.optr i64,⟨2,i64,.here⟩⟩),(5,⟨.hptr,((3:Nat),(0:Nat))⟩),(6,⟨.optr i64,⟨4,i64,.here⟩⟩),(7,⟨.optr .str,⟨5,.str,.here⟩⟩)]
def lRE (at' e:Int):Owns:=[(0,some (.hbox tD [⟨.lit,.slice none 0 0⟩])),(1,some (.box i64 at')),(2,some (.box i64 e))]
def zli (y:List UInt8) (fr:Nat) (e:Exit) (σ:AS):Except (Int×Int) (List De)->Prop
 | .ok acc'=>e= .normal∧Fit σ ⟨[],libE y ((fr+y.length+1:Nat):Int) acc',7⟩
 | .error er=>e= .ret∧Fit σ ⟨[],lRE er.1 er.2,7⟩
noncomputable def kLc:Kn:={ gmK with H:=[tD],C:=[(51,cPre),(52,zlE 53 isWh)] }
theorem zb7:KnOk Tryz.prog gmH kLc:=⟨zhx,zhw,.cons zpp <| .cons zjS.lift .nil,ziE,RsOk.nil⟩
def zpw:Code->Option (Code×Code)
 | .rangeFunc _ _ a b=>some (a,b)
 | .seq x y=>match zpw x with
  |some r=>some r
  |none=>zpw y
 | .block _ c=>zpw c
 |_=>none
noncomputable def lBody:Code:=match zpw (Tryz.f19.body.getD .skip) with
 |some r=>r.2
 |none=>.skip
noncomputable def lAsgn:Code:=match zpw (Tryz.f19.body.getD .skip) with
 |some r=>r.1
 |none=>.skip
theorem zqV {w1:zj} {X:Ownr} {y:List UInt8} {fr:Nat} {acc:List De} (hy:y.length≤1100000) (hfr:fr≤1100000) (ha:acc.length≤1000000) (hX:X.Ok w1) (hG:X.G=gmH) (hK:X.K=5) (hinv:∀ ty,ginv w1 X.R ty) (her:∀ er,zfB y ((acc.length:Nat):Int)= .error er->0≤er.1∧er.1≤1100000):
  AWP Tryz.prog w1 X 47 lBody ⟨lPF,libE y (fr:Int) acc,7⟩ (fun e σ=>zli y fr e σ (zec y fr acc)):=by
 obtain⟨G,O,K,fix,D,ρ,B⟩:=X;obtain rfl:G=gmH:=hG;obtain rfl:K=5:=hK;unfold lPF libE;apply zac;have hp1:y.length≤2000000∧([35]:List UInt8).length≤2000000:=⟨by omega,by decide⟩;apply zae;refine AWP.via (σ':=⟨[(2,⟨.hptr,((0:Nat),(0:Nat))⟩),(3,⟨.optr i64,⟨1,i64,.here⟩⟩),(4,⟨.optr i64,⟨2,i64,.here⟩⟩),(5,⟨.hptr,((3:Nat),(0:Nat))⟩),(6,⟨.optr i64,⟨4,i64,.here⟩⟩),(7,⟨.optr .str,⟨5,.str,.here⟩⟩),(25,⟨.bool,zfz y⟩)],libE y (fr:Int) acc,7⟩) ?_ ?_
 ·unfold libE;refine jB dM 10 rfl (by kernel_rfl) ?_;cases hq:zjg y [35] with
  |true=>
   have hl0:zfz y=false:=by unfold zfz;rw[hq];rfl
   have hb:(!zjg y [35])=false:=by rw[hq];rfl
   have hl2:(bif !zjg y [35] then false else false)=zfz y:=by rw[hl0,hb];rfl
   repeat'(first
    |exact jR
    |refine jn ⟨_,rfl,?_⟩ ?_
    |refine xe hX zb7 rfl trivial ?_
    |refine xe hX zb7 rfl hp1 ?_
    |(refine StepA.guardF 3 19 true .bool false rfl rfl (zcu hb) rfl rfl rfl ?_)
    |refine xe hX zb7 rfl (by exact fun h=>hb.symm.trans h) ?_
    |(refine jG ?_;exact⟨⟨rfl,rfl,rfl,rfl,rfl,rfl,zcu hl2,trivial⟩,⟨rfl,rfl,rfl,rfl,rfl,rfl,rfl,trivial⟩,rfl,rfl⟩))
  |false=>
   have hb:(!zjg y [35])=true:=by rw[hq];rfl
   have hl1:(bif !zjg y [35] then decide (((zbB isWh y:Nat):Int) < ((y.length:Nat):Int)) else false)=zfz y:=by
    unfold zfz;rw[zco]
    congr 1
    exact decide_eq_decide.2 Int.ofNat_lt
   repeat'(first
    |exact jR
    |refine jn ⟨_,rfl,?_⟩ ?_
    |refine StepA.guardT 3 19 true rfl rfl (zcu hb) rfl ?_
    |refine xe hX zb7 rfl trivial ?_
    |refine xe hX zb7 rfl hp1 ?_
    |refine xe hX zb7 rfl (by exact rfl) ?_
    |refine xe hX zb7 rfl (by exact fun h=>h) ?_
    |(refine jG ?_;exact⟨⟨rfl,rfl,rfl,rfl,rfl,rfl,zcu hl1,trivial⟩,⟨rfl,rfl,rfl,rfl,rfl,rfl,rfl,trivial⟩,rfl,rfl⟩))
 have hlen:((y.length:Nat):Int)≤1100000:=by omega
 have hfrl:((fr:Nat):Int)≤1100000:=by omega
 have q0:inR .i64 (((y.length:Nat):Int)+1):=zan (by omega) (by omega);have q1:inR .i64 ((fr:Int)+(((y.length:Nat):Int)+1)):=zan (by omega) (by omega);have hend:(fr:Int)+(((y.length:Nat):Int)+1)=((fr+y.length+1:Nat):Int):=by omega
 unfold libE;refine zaf rfl (fun hb=>?_) (fun hb=>?_)
 ·have hb:zfz y=true:=hb;unfold zec;rw[if_pos hb];refine za (za ?_);refine zaa hX zb7 rfl ?_ ?_
  ·trivial
  refine zaf rfl (fun hb=>?_) (fun hb=>?_)
  ·have hb:decide (((4000:Nat):Int) < ((y.length:Nat):Int))=true:=hb;have hb:=of_decide_eq_true hb;rw[if_pos (by omega)];refine AWP.via (σ':=⟨[],lRE (fr:Int) 2,7⟩) ?_ ?_
   ·unfold lRE;refine jB dM 4 rfl (by kernel_rfl) ?_
    repeat'(first
     |exact jR
     |refine jn ⟨_,rfl,?_⟩ ?_
     |refine xe hX zb7 rfl trivial ?_
     |(refine jG ?_;exact⟨trivial,⟨rfl,rfl,rfl,trivial⟩,rfl,rfl⟩))
   ·exact zq ⟨rfl,trivial,⟨rfl,rfl,rfl,trivial⟩,rfl,rfl⟩
  have hb:decide (((4000:Nat):Int) < ((y.length:Nat):Int))=false:=hb;have hb:=of_decide_eq_false hb;rw[if_neg (by omega)];apply zab;refine zaq (σ':=⟨lPF,libE y (fr:Int) acc,7⟩) ⟨⟨rfl,rfl,rfl,rfl,rfl,rfl,trivial⟩,⟨rfl,rfl,rfl,rfl,rfl,rfl,rfl,trivial⟩,rfl,rfl⟩ ?_;unfold lPF;(repeat(first|apply zae|apply zab|apply zac|apply zad));refine zai ?_;refine AL.runClo hX 6 rfl rfl rfl rfl rfl rfl rfl rfl rfl rfl (by show 5≤6;omega) Tryz.func54 rfl rfl rfl rfl Tryz.call54 rfl rfl rfl (N:=NLib y (fr:Int) acc) (fun w2 X' h1 h2 h3 h4 h5 h6=>?_) (fun r σ hN=>?_)
  ·refine zqW (by omega) ha h1 h2 h3 h4 h5 fun ty=>zaJ (ty:=ty) hX rfl (hinv ty) _ _ h6 (by
    have:=h1.2.2 w2 (Kept.refl _ _);rwa[h2]at this)
  rcases hN with ⟨d,hd,rfl,hf⟩|⟨er,hd,rfl,hf⟩
  ·refine qC (σ':=⟨(32,⟨tupI,((0:Int),(0:Int),())⟩)::lPF,libE y (fr:Int) (acc++ [d]),7⟩) ⟨⟨rfl,rfl,rfl,rfl,rfl,rfl,rfl,trivial⟩,hf.e,rfl,rfl⟩ ?_;unfold lPF libE;refine zV hX zb7 rfl trivial ?_;refine za (za ?_);refine zaa hX zb7 rfl ?_ ?_
   ·trivial
   refine zaf rfl (fun hb=>absurd (show false=true from hb) (by decide)) (fun _=>?_);apply zab;rw[hd];refine za (za ?_);refine zaa hX zb7 rfl ?_ ?_
   ·exact⟨q0,q1⟩
   exact⟨rfl,trivial,⟨rfl,rfl,rfl,rfl,zfP hend,rfl,rfl,trivial⟩,rfl,rfl⟩
  ·refine qC (σ':=⟨(32,⟨tupI,(er.1,er.2,())⟩)::lPF,libE y (fr:Int) acc,7⟩) ⟨⟨rfl,rfl,rfl,rfl,rfl,rfl,rfl,trivial⟩,hf.e,rfl,rfl⟩ ?_;obtain⟨her0,her1⟩:=her er hd;have q2:inR .i64 ((fr:Int)+er.1):=zan (by omega) (by omega);unfold lPF libE;refine zV hX zb7 rfl trivial ?_;refine za (za ?_);refine zaa hX zb7 rfl ?_ ?_
   ·trivial
   rw[hd];refine zaf rfl (fun hb=>?_) (fun hb=>?_)
   ·have hb:(er.2 != 0)=true:=hb;have hb:er.2≠0:=bne_iff_ne.1 hb;show AWP _ _ _ _ _ _ (zjO _ _);refine AWP.via (σ':=⟨[],lRE ((fr:Int)+er.1) er.2,7⟩) ?_ ?_
    ·unfold lRE;refine jB dM 7 rfl (by kernel_rfl) ?_
     repeat'(first
      |exact jR
      |refine jn ⟨_,rfl,?_⟩ ?_
      |refine xe hX zb7 rfl trivial ?_
      |refine xe hX zb7 rfl q2 ?_
      |(refine jG ?_;exact⟨trivial,⟨rfl,rfl,rfl,trivial⟩,rfl,rfl⟩))
    ·refine zq ?_;show zli y fr .ret _ (if er.2=0 then .ok acc else .error ((fr:Int)+er.1,er.2));rw[if_neg hb];exact⟨rfl,trivial,⟨rfl,rfl,rfl,trivial⟩,rfl,rfl⟩
   ·have hb:(er.2 != 0)=false:=hb;have hb:er.2=0:=by
     by_cases h:er.2=0
     ·exact h
     ·rw[bne_iff_ne.2 h]at hb;cases hb
    apply zab;refine za (za ?_);refine zaa hX zb7 rfl ?_ ?_
    ·exact⟨q0,q1⟩
    show zli y fr .normal _ (if er.2=0 then .ok acc else .error ((fr:Int)+er.1,er.2));rw[if_pos hb];exact⟨rfl,trivial,⟨rfl,rfl,rfl,rfl,zfP hend,rfl,rfl,trivial⟩,rfl,rfl⟩
 ·have hb:zfz y=false:=hb;unfold zec;rw[if_neg (by rw[hb];decide)];apply zab;refine za (za ?_);refine zaa hX zb7 rfl ?_ ?_
  ·exact⟨q0,q1⟩
  exact⟨rfl,trivial,⟨rfl,rfl,rfl,rfl,zfP hend,rfl,rfl,trivial⟩,rfl,rfl⟩
section
attribute [local go_sem] ji
def zhX:List (List UInt8)->Nat
 | []=>0
 |g::r=>g.length+1+zhX r
theorem zfW:∀ (s c:List UInt8),zhX (segF c s)=c.length+s.length+1
 | [],c=>by unfold segF zhX zhX;simp
 |x::r,c=>by
  unfold segF;split
  ·rw[zhX,zfW r []];simp;omega
  ·rw[zfW r];simp;omega
theorem zmW (s:List UInt8):zhX (segs s)=s.length+1:=by rw[segs,zfW];simp
theorem zjX (y:List UInt8):GOk y (zaR y,0):=by
 have:=zgO (s:=y);unfold zh6 at this;rwa[zjY]at this
theorem zmc {y:List UInt8} {k:Int} {er:Int×Int} (h:zfB y k= .error er):0≤er.1∧er.1≤((y.length:Nat):Int):=by
 have hg:=zjX y;have he:Er y (gDef y (zaR y,0) k):=zaB (zb0 hg) fun u hu=>zaB (zb0 hg) fun _ _=>by
  have hc:=zbI hu;rw[beq_iff_eq]at hc;have k1:=zci hg (by show zK (zaR y,(0:Int)).1≠0;rw[hc];decide);exact zaB (zer k1.1) fun a ha=>zaB (ztz (zbs k1.1 ha).1) fun _ _=>zdc
 unfold zfB at h;cases hd:gDef y (zaR y,0) k with
 |ok r=>rw[hd]at h;cases h
 |error e=>
  rw[hd]at h;cases h;exact he _ hd
theorem zoX {y:List UInt8} {k:Nat} {d:De} (h:zfB y (k:Int)= .ok d):k < 4096:=by
 unfold zfB at h;cases hd:gDef y (zaR y,0) (k:Int) with
 |error e=>rw[hd]at h;cases h
 |ok r=>
  obtain⟨u,_,h2⟩:=zao hd;obtain⟨u2,h3,_⟩:=zao h2;have h3:=zbI h3;rw[zd,decide_eq_true_iff,decide_eq_true_iff]at h3;omega
theorem znX {y:List UInt8} {fr:Nat} {acc acc':List De} (ha:acc.length≤4096) (h:zec y fr acc= .ok acc'):acc'.length≤4096:=by
 unfold zec at h;split at h
 ·split at h
  ·cases h
  ·split at h
   ·rename_i d hd;cases h;have:=zoX hd;rw[zf,yp];omega
   ·split at h
    ·cases h;exact ha
    ·cases h
 ·cases h;exact ha
abbrev XL (O:Nat->Prop) (fix:Nat->Nat) (D:List qX) (ρ:Option Nat):Ownr:={ G:=gmH,X:=O,K:=5,fix:=fix,D:=D,ρ:=ρ }
def sLE (fr:Nat) (acc:List De):Owns:=[(0,some (.hbox tD [⟨.lit,.slice none 0 0⟩])),(1,some (.box i64 (0:Int))),(2,some (.box i64 (0:Int))),(3,some (zoi 5)),(4,some (.box i64 (fr:Int))),(5,some (.buf 37 de acc))]
def lPF0:List (Nat×V):=[(2,⟨.hptr,((0:Nat),(0:Nat))⟩),(3,⟨.optr i64,⟨1,i64,.here⟩⟩),(4,⟨.optr i64,⟨2,i64,.here⟩⟩),(5,⟨.hptr,((3:Nat),(0:Nat))⟩),(6,⟨.optr i64,⟨4,i64,.here⟩⟩)]
def lRn:List (Nat×Nat):=[(0,0),(1,1),(2,2),(3,3),(4,4),(6,5),(5,6)]
theorem zpb {B:zj} {O:Nat->Prop} {fix:Nat->Nat} {D:List qX} {ρ:Option Nat} (hX:(XL O fix D ρ).Ok B) (y:List UInt8) (fr:Nat) (acc:List De):
  AWP Tryz.prog B (XL O fix D ρ) 47 lAsgn ⟨(15,⟨.str,y⟩)::lPF0,sLE fr acc,6⟩ (fun e σ=>e= .normal∧Fit σ ⟨(2,⟨.hptr,((0:Nat),(0:Nat))⟩)::(3,⟨.optr i64,⟨1,i64,.here⟩⟩)::(4,⟨.optr i64,⟨2,i64,.here⟩⟩)::(5,⟨.hptr,((3:Nat),(0:Nat))⟩)::(6,⟨.optr i64,⟨4,i64,.here⟩⟩):: [(7,⟨.optr .str,⟨6,.str,.here⟩⟩)],(6,some (.box .str y))::sLE fr acc,7⟩):=by
 unfold lPF0 sLE;refine za (za ?_);refine zaa hX zb7 rfl ?_ ?_
 ·trivial
 exact⟨rfl,⟨rfl,rfl,rfl,rfl,rfl,rfl,trivial⟩,⟨rfl,rfl,rfl,rfl,rfl,rfl,rfl,trivial⟩,rfl,rfl⟩
noncomputable def lTail:Code:=match Tryz.f19.body.getD .skip with
 | .seq _ (.seq _ (.seq _ (.seq _ (.seq _ t))))=>t
 |c=>c
def sLT (acc:List De):AS:=⟨[(2,⟨.hptr,((0:Nat),(0:Nat))⟩),(3,⟨.optr i64,⟨1,i64,.here⟩⟩),(4,⟨.optr i64,⟨2,i64,.here⟩⟩)],[(0,some (.hbox tD [⟨.slice de,acc⟩])),(1,some (.box i64 (0:Int))),(2,some (.box i64 (0:Int)))],6⟩
theorem zoT {B:zj} {O:Nat->Prop} {fix:Nat->Nat} {D:List qX} (hX:(XL O fix D none).Ok B) (fr:Nat) (acc:List De):
  AWP Tryz.prog B (XL O fix D none) 47 lTail ⟨lPF0,sLE fr acc,6⟩ (fun e σ=>e= .ret∧Fit σ (sLT acc)):=by
 unfold lPF0 sLE sLT;refine AWP.frzL hX 3 0 ?_;(repeat(first|apply zae|apply zab|apply zal|apply zad|apply zac|refine zaa hX zb7 rfl trivial ?_|refine zaa hX zb7 rfl id ?_|refine zaa hX zb7 rfl ⟨id,id⟩ ?_));exact zq ⟨rfl,⟨rfl,rfl,rfl,trivial⟩,⟨rfl,rfl,rfl,trivial⟩,rfl,rfl⟩
section
variable {B W:zj} {X:Ownr} {n:Nat} {σ:AS} {β:Nat->zh} {a:Act}
theorem zmK (h:Sim B X n σ β a W) {i:Nat} (hi:i < X.K) {t:Ty} {x:t.T} (hE:Owns.get σ.E i=some (.box t x)):∃ cs ty,W.heap[X.fix i]? =some (.cells (List.toArray cs) ty (0,0))∧RepC W (OSet X σ.E β) t x cs:=by
 obtain⟨g,cs,ty,q1,_,q2,q3⟩:=h.own i _ hE;have q4:=(h.fix.2 i hi).1;rw[q1]at q4;have q4:g=X.fix i:=by simpa [zah] using q4
 subst q4;exact⟨cs,ty,q2,q3⟩
theorem zpo (h:Sim B X n σ β a W) {i:Nat} (hi:i < X.K) {v:V} {ty:zp} (hE:Owns.get σ.E i=some (.hbox ty [v])):∃ u,W.heap[X.fix i]? =some (.cells #[u] ty (0,0))∧u.oneCell'=true∧RepV W (OSet X σ.E β) β v.t v.x u:=by
 obtain⟨g,cs,q1,_,q2,u,r,rfl,q5,q6,q7⟩:=h.own i _ hE;have q7:r=[]:=q7;subst q7;have q4:=(h.fix.2 i hi).1;rw[q1]at q4;have q4:g=X.fix i:=by simpa [zah] using q4
 subst q4;exact⟨u,q2,q5,q6⟩
theorem zmX {B A C:zj} {X X':Ownr} {n n':Nat} {σ σ':AS} {β β':Nat->zh} {a a':Act} {I:Nat->Prop} (h:Sim B X n σ β a A) (h':Sim B X' n' σ' β' a' C) (hR:∀ g,X'.R g->X.R g) (hX:X.Ok B) (hI:∀ g,I g->X g):SameOn I B.heap.size A C:=
 ⟨h'.bel.os.trans h.bel.os.symm,h'.bel.tape.trans h.bel.tape.symm,h'.bel.output.trans h.bel.output.symm,h'.bel.size,fun k hk=>
   have hx:=hX.1 k (hI k hk)
   (h'.bel.block k hx.1 fun hr=>hx.2 (hR k hr)).trans (h.bel.block k hx.1 hx.2).symm⟩
end
def zpe (a:Act) (x:zh):Act:={ tmps:=((#[15]:Array Tmp).zip #[x]).foldl (fun t (p,v)=>t.setIfInBounds p v) a.tmps,defers:=[] }
theorem zdI {a:Act} {x:zh} (hsz:a.tmps.size=47) (s:Nat):(zpe a x).tmps.getD s undef=if 15=s then x else a.tmps.getD s undef:=by
 have:(zpe a x).tmps=a.tmps.setIfInBounds 15 x:=by simp[zpe]
 rw[this];by_cases h:15=s
 ·subst h;rw[if_pos rfl];simp[zN,xH,hsz]
 ·rw[if_neg h];simp[zN,xH,h]
def nA:Act:={ tmps:=#[],defers:=[] }
section
variable {w w5:zj} {O:Nat->Prop} {N:Nat} {s:List UInt8} {t0 t1 t2 t3 t4:zp} {a5:Act}
def lI (N D:Nat) (g:Nat):Prop:=itI (N+5) (N+6) (N+7) g∨g=D∨g=D+1
def lO (O:Nat->Prop) (N D:Nat) (g:Nat):Prop:=O g∨lI N D g
def lFix (N:Nat) (i:Nat):Nat:=N+i
def lBB (w5:zj) (N:Nat) (B:zj):Prop:=B.heap.size=w5.heap.size+2∧Kept (lI N w5.heap.size) w5 B
theorem lR {N:Nat} {O':Nat->Prop} {D:List qX} {ρ:Option Nat} {g:Nat} (h:(XL O' (lFix N) D ρ).R g):N≤g∧g≤N+4:=by
 rcases h with ⟨i,hi,rfl⟩|h
 ·have hi:i < 5:=hi;show N≤N+i∧N+i≤N+4;omega
 ·exact False.elim h
theorem zpd (hN:N=w.heap.size) (hs5:w5.heap.size=N+8) (hb5:yO w.heap.size w w5) {B:zj} (h:lBB w5 N B):yO w.heap.size w B:=
 ⟨h.2.os.trans hb5.os,h.2.tape.trans hb5.tape,h.2.output.trans hb5.output,zE hb5.size h.2.size,fun k hk=>(h.2.block k (zJ hk hb5.size) (by unfold lI itI;omega)).trans (hb5.block k hk)⟩
theorem zlo (hN:N=w.heap.size) (hs5:w5.heap.size=N+8) (hb5:yO w.heap.size w w5) {B W:zj} (h:lBB w5 N B) {O':Nat->Prop} {D:List qX} {ρ:Option Nat} (hk:Kept (XL O' (lFix N) D ρ).R B W):yO w.heap.size w W:=
 have hb:=zpd hN hs5 hb5 h
 ⟨hk.os.trans hb.os,hk.tape.trans hb.tape,hk.output.trans hb.output,zE hb.size hk.size,fun k hkl=>(hk.block k (zJ hkl hb.size) fun hr=>by have:=(lR hr).1;omega).trans (hb.block k hkl)⟩
theorem lX_ok (hN:N=w.heap.size) (hO:∀ g,O g->g < w.heap.size) (hG:gmH w) (hs5:w5.heap.size=N+8) (hb5:yO w.heap.size w w5) {B:zj} (h:lBB w5 N B) (D:List qX) (ρ:Option Nat):(XL (lO O N w5.heap.size) (lFix N) D ρ).Ok B:=by
 have hs:=h.1;refine⟨fun g hg=>?_,fun g hg=>?_,fun w' hk=>ziE _ _ hG (zlo hN hs5 hb5 h hk)⟩
 ·have hg:O g∨(g=N+5∨g=N+6∨g=N+7)∨g=w5.heap.size∨g=w5.heap.size+1:=hg;refine⟨?_,fun hr=>?_⟩
  ·rcases hg with h1|h1
   ·have:=hO g h1;omega
   ·omega
  ·have:=lR hr;rcases hg with h1|h1
   ·have:=hO g h1;omega
   ·omega
 ·have:=lR hg;omega
theorem lX_inv (hN:N=w.heap.size) (hG:gmH w) {O':Nat->Prop} {D:List qX} {ρ:Option Nat} {B:zj} (ty:zp):ginv B (XL O' (lFix N) D ρ).R ty:=by
 have hl:=zmp hG;exact⟨fun h=>by have:=lR h;omega,fun h=>by have:=lR h;omega⟩
def lJ (w5:zj) (O:Nat->Prop) (N:Nat) (s:List UInt8) (k:Nat) (W:zj):Prop:=∃ (B:zj) (β:Nat->zh) (acc:List De) (fr:Nat),lBB w5 N B∧Sim B (XL (lO O N w5.heap.size) (lFix N) [] none) 0 ⟨[],sLE fr acc,6⟩ β nA W∧acc.length≤4096∧k≤(segs s).length∧fr+zhX ((segs s).drop k)≤s.length+1∧libK ((segs s).drop k) fr acc=zaS s
def lN (w5:zj) (O:Nat->Prop) (N:Nat) (s:List UInt8) (k:Nat) (y:List UInt8) (a':Act) (W:zj):Prop:=∃ (B:zj) (β:Nat->zh) (acc:List De) (fr:Nat),lBB w5 N B∧Sim B (XL (lO O N w5.heap.size) (lFix N) [] none) 47 ⟨lPF,libE y (fr:Int) acc,7⟩ β a' W∧acc.length≤4096∧k≤(segs s).length∧fr+zhX ((segs s).drop k)≤s.length+1∧libK ((segs s).drop k) fr acc=zaS s
def lJr (w5:zj) (O:Nat->Prop) (N:Nat) (s:List UInt8) (W:zj):Prop:=∃ (er:Int×Int) (B:zj) (β:Nat->zh),zaS s=([],er.1,er.2)∧lBB w5 N B∧Sim B (XL (lO O N w5.heap.size) (lFix N) [] none) 0 ⟨[],lRE er.1 er.2,7⟩ β nA W
theorem zoY {tmps:Array zh} {g2 g3 g4:Nat} {W:zj} {u:zh} {x y:Int} {t2 t3 t4:zp} (hu:u.oneCell'=true) (h2:tmps.getD 2 undef= .pointer (some ⟨g2,0,none⟩)) (h3:tmps.getD 3 undef= .pointer (some ⟨g3,0,none⟩)) (h4:tmps.getD 4 undef= .pointer (some ⟨g4,0,none⟩))
  (c2:W.heap[g2]? =some (.cells #[u] t2 (0,0))) (c3:W.heap[g3]? =some (.cells #[.int .i64 x] t3 (0,0))) (c4:W.heap[g4]? =some (.cells #[.int .i64 y] t4 (0,0))):
  (results Tryz.f19 tmps).run Tryz.prog W= .ok (.tuple #[u,.int .i64 x,.int .i64 y]) W:=by
 have d2:=(zaY c2).1;have d3:=(zaY c3).1;have d4:=(zaY c4).1;rw[zN]at h2 h3 h4;simp[results,Tryz.f19,go_sem,h2,h3,h4,d2,d3,d4]
abbrev zsm:Ty:=.tup (.slice de) (.tup i64 (.tup i64 .unit))
theorem zop {w:zj} {O:Nat->Prop} {acc:List De} {x y:Int} {u:zh} (hu:RepD w O (.slice de) acc u):zdq w O 0 none zsm (acc,x,y,()) (.tuple #[u,.int .i64 x,.int .i64 y]):=fun β=>
 ⟨[_,_,_],rfl,_,_,rfl,hu,_,_,rfl,rfl,_,_,rfl,rfl,rfl⟩
def ldco (D:Nat):qX:={ target:=.collected D,args:=#[] }
def znG (w:zj) (O:Nat->Prop) (r:List De×Int×Int) (e:Ending) (w':zj):Prop:=∃ v,e= .returned v∧yO w.heap.size w w'∧zdq w' O w.heap.size none zsm (r.1,r.2.1,r.2.2,()) v
theorem lfin {W:zj} {O':Nat->Prop} {tmps:Array zh} {D:Nat} {u:zh} {x y:Int} {acc:List De} (hN:N=w.heap.size) (hO:∀ g,O g->O' g) (hD:O' D) (hlt:N+2 < D) (hbel:yO w.heap.size w W) (hd:W.heap[D]? =some (.deferred (some []))) (hu:u.oneCell'=true) (h2:tmps.getD 2 undef= .pointer (some ⟨N,0,none⟩)) (h3:tmps.getD 3 undef= .pointer (some ⟨N+1,0,none⟩)) (h4:tmps.getD 4 undef= .pointer (some ⟨N+2,0,none⟩))
  (c2:W.heap[N]? =some (.cells #[u] t2 (0,0))) (c3:W.heap[N+1]? =some (.cells #[.int .i64 x] t3 (0,0))) (c4:W.heap[N+2]? =some (.cells #[.int .i64 y] t4 (0,0))) (hr:RepD W O' (.slice de) acc u):
  LeavesInM yA 1 Tryz.prog Tryz.f19 tmps (znG w O (acc,x,y)) [ldco D] .returning W:=by
 refine⟨(by intro h;cases h),.inl ⟨D,_,rfl,run_takeDeferred hd,?_⟩⟩;have hk:Kept (fun g=>g=D) W (W.putObj D (.deferred none)):=zcK _ rfl;have hlD:=(zo.1 hd).1;have hl:∀ g (o:Obj),W.heap[g]? =some o->g≠D->(W.putObj D (.deferred none)).heap[g]? =some o:=fun g o hg hne=>(hk.block g (zo.1 hg).1 hne).trans hg;refine⟨_,zoY hu h2 h3 h4 (hl _ _ c2 (by omega)) (hl _ _ c3 (by omega)) (hl _ _ c4 (by omega)),_,rfl,?_,?_⟩
 ·refine⟨hk.os.trans hbel.os,hk.tape.trans hbel.tape,hk.output.trans hbel.output,zE hbel.size hk.size,fun k hkl=>?_⟩;have h1:k < W.heap.size:=zJ hkl hbel.size;exact (hk.block k h1 (by omega)).trans (hbel.block k hkl)
 ·exact zop (RepD.keep ⟨hk.size,fun g hg hn=>hk.block g hg fun e=>hn (e▸hD),fun g _ hg=>hO g hg⟩ hr)
end
end
section
attribute [local go_sem] ji
section
variable {w w5:zj} {O:Nat->Prop} {N:Nat} {s:List UInt8} {t0 t1 t2 t3 t4:zp} {a5:Act}
theorem ziW {B W:zj} {O':Nat->Prop} {D:List qX} {ρ:Option Nat} {n:Nat} {σ:AS} {β:Nat->zh} {a:Act} (h:Sim B (XL O' (lFix N) D ρ) n σ β a W) {E:Owns} {m:Nat} (hf:Fit σ ⟨[],E,m⟩) (hm:5≤m):Sim B (XL O' (lFix N) [] none) 0 ⟨[],E,m⟩ β nA W:=
 (h.fit hf hm).act (X':=XL O' (lFix N) [] none) (a':=nA) rfl rfl rfl rfl rfl (F:=[]) zf0 rfl
theorem zo0 {y:List UInt8} {r:List (List UInt8)} {fr:Nat} {acc:List De}:libK (y::r) fr acc=match zec y fr acc with
 | .error e=>([],e.1,e.2)
 | .ok acc'=>libK r (fr+y.length+1) acc':=rfl
set_option maxHeartbeats 1000000 in
theorem zoZ (hN:N=w.heap.size) (hO:∀ g,O g->g < w.heap.size) (hG:gmH w) (hlen:s.length≤1048576) (hs5:w5.heap.size=N+8) (hb5:yO w.heap.size w w5)
  (b0:w5.heap[N]? =some (.cells #[.slice none 0 0] tD (0,0))) (b1:w5.heap[N+1]? =some (.cells #[.int .i64 0] t1 (0,0))) (b2:w5.heap[N+2]? =some (.cells #[.int .i64 0] t2 (0,0))) (b3:w5.heap[N+3]? =some (.cells #[.slice none 0 0] tD (0,0))) (b4:w5.heap[N+4]? =some (.cells #[.int .i64 0] t4 (0,0)))
  (i0:w5.heap[N+5]? =some (.cells #[.string ⟨s.toArray⟩] 9 (0,0))) (i1:w5.heap[N+6]? =some (.cells #[.string ⟨#[10]⟩] 9 (0,0))) (i2:w5.heap[N+7]? =some (.cells #[.int .i64 0] 3 (0,0)))
  (hsz:a5.tmps.size=47) (e2:a5.tmps.getD 2 undef= .pointer (some ⟨N,0,none⟩)) (e3:a5.tmps.getD 3 undef= .pointer (some ⟨N+1,0,none⟩)) (e4:a5.tmps.getD 4 undef= .pointer (some ⟨N+2,0,none⟩)) (e5:a5.tmps.getD 5 undef= .pointer (some ⟨N+3,0,none⟩)) (e6:a5.tmps.getD 6 undef= .pointer (some ⟨N+4,0,none⟩))
  (e14:a5.eval (.tmp 14)= .func (.func 145) #[] #[.pointer (some ⟨N+6,0,none⟩),.pointer (some ⟨N+5,0,none⟩),.pointer (some ⟨N+7,0,none⟩)]) (hdf:a5.defers=[]):
  zfT Tryz.prog 19 (.rangeFunc (.tmp 14) #[15] lAsgn lBody) (fun e a w'=>(e= .normal∨e= .ret)∧Exit.then (zfT Tryz.prog 19 lTail (bodyPostM yA 1 Tryz.prog Tryz.f19 (znG w O (zaS s)))) (bodyPostM yA 1 Tryz.prog Tryz.f19 (znG w O (zaS s))) e a w') a5 w5:=by
 have hP:zaS s=libK (segs s) 0 []:=if_neg (by omega);have hXok:∀ B D ρ,lBB w5 N B->(XL (lO O N w5.heap.size) (lFix N) D ρ).Ok B:=fun B D ρ h=>lX_ok hN hO hG hs5 hb5 h D ρ;have hsame:∀ {B A C:zj} {ρ ρ':Option Nat} {D D':List qX} {n n':Nat} {σ σ':AS} {β β':Nat->zh} {a a':Act},lBB w5 N B->Sim B (XL (lO O N w5.heap.size) (lFix N) D ρ) n σ β a A->Sim B (XL (lO O N w5.heap.size) (lFix N) D' ρ') n' σ' β' a' C->SameOn (lI N w5.heap.size) (w5.heap.size+2) A C:=fun hBB h h'=>by
  have:=zmX h h' (fun g hr=>hr) (hXok _ _ _ hBB) (I:=lI N w5.heap.size) (fun g hg=>.inr hg);rwa[hBB.1]at this
 refine zhV (m:=1) e14 Tryz.call145 (zk4 (N+5) (N+6) (N+7) s w5 (by omega) (by omega) i0 i1 i2) (zO _ _) ?_ (lJ w5 O N s) (lJr w5 O N s) (lN w5 O N s) ?_ ?_ ?_ ?_ ?_ ?_ ?_ ?_
 ·intro k hk;have hk:k=N+5∨k=N+6∨k=N+7:=hk;omega
 ·rintro k A C ⟨B,β,acc,fr,hBB,hS,h1,h2,h3,h4⟩ hk;obtain⟨B',hs',hk',hS'⟩:=hS.outside (hXok _ _ _ hBB) (I:=lI N w5.heap.size) (fun g hg=>.inr hg) hk;exact⟨B',β,acc,fr,⟨hs'.trans hBB.1,hBB.2.trans hk'⟩,hS',h1,h2,h3,h4⟩
 ·rintro A C ⟨er,B,β,hpe,hBB,hS⟩ hk;obtain⟨B',hs',hk',hS'⟩:=hS.outside (hXok _ _ _ hBB) (I:=lI N w5.heap.size) (fun g hg=>.inr hg) hk;exact⟨er,B',β,hpe,⟨hs'.trans hBB.1,hBB.2.trans hk'⟩,hS'⟩
 ·rintro k y a' A C ⟨B,β,acc,fr,hBB,hS,h1,h2,h3,h4⟩ hk;obtain⟨B',hs',hk',hS'⟩:=hS.outside (hXok _ _ _ hBB) (I:=lI N w5.heap.size) (fun g hg=>.inr hg) hk;exact⟨B',β,acc,fr,⟨hs'.trans hBB.1,hBB.2.trans hk'⟩,hS',h1,h2,h3,h4⟩
 ·intro W1 hb hs1;have hBB:lBB w5 N W1:=⟨hs1,⟨hb.os,hb.tape,hb.output,hb.size,fun k hk _=>hb.block k hk⟩⟩;have hl:∀ g (o:Obj),w5.heap[g]? =some o->W1.heap[g]? =some o:=fun g o hg=>(hb.block g (zo.1 hg).1).trans hg
  let β:Nat->zh:=fun i=>.pointer (some ⟨lFix N i,0,none⟩)
  have hS0:Sim W1 (XL (lO O N w5.heap.size) (lFix N) [] none) 0 ⟨[],[(0,some (.hbox tD [⟨.lit,.slice none 0 0⟩])),(1,some (.box i64 (0:Int))),(2,some (.box i64 (0:Int))),(3,some (.hbox tD [⟨.lit,.slice none 0 0⟩])),(4,some (.box i64 (0:Int)))],5⟩ β nA W1:=by
   refine Sim.boxes (X:=XL (lO O N w5.heap.size) (lFix N) [] none) rfl rfl (fun i _=>rfl) ?_ ?_ zf0 rfl
   ·intro i j hi hj hij;have hij:N+i=N+j:=hij;omega
   ·intro i o h;rw[zag]at h;split at h
    ·rename_i hi;subst hi;cases h;exact⟨by show 0 < 5;omega,rfl,⟨N,[_],rfl,zm _,hl _ _ b0,_,[],rfl,rfl,rfl,rfl⟩,fun vs e v hv=>by cases e;rw[zu]at hv;subst hv;exact zm _⟩
    rw[zag]at h;split at h
    ·rename_i _ hi;subst hi;cases h;exact⟨by show 1 < 5;omega,rfl,⟨N+1,[_],_,rfl,zm _,hl _ _ b1,rfl⟩,fun vs e=>by cases e⟩
    rw[zag]at h;split at h
    ·rename_i _ _ hi;subst hi;cases h;exact⟨by show 2 < 5;omega,rfl,⟨N+2,[_],_,rfl,zm _,hl _ _ b2,rfl⟩,fun vs e=>by cases e⟩
    rw[zag]at h;split at h
    ·rename_i _ _ _ hi;subst hi;cases h;exact⟨by show 3 < 5;omega,rfl,⟨N+3,[_],rfl,zm _,hl _ _ b3,_,[],rfl,rfl,rfl,rfl⟩,fun vs e v hv=>by cases e;rw[zu]at hv;subst hv;exact zm _⟩
    rw[zag]at h;split at h
    ·rename_i _ _ _ _ hi;subst hi;cases h;exact⟨by show 4 < 5;omega,rfl,⟨N+4,[_],_,rfl,zm _,hl _ _ b4,rfl⟩,fun vs e=>by cases e⟩
    ·cases h
  obtain⟨β',hS1⟩:=kS 3 0 37 de rfl rfl rfl _ _ _ hS0;refine⟨W1,β',[],0,hBB,ziW hS1 ⟨trivial,⟨rfl,rfl,rfl,rfl,rfl,rfl,trivial⟩,rfl,rfl⟩ (by omega),by simp,zm _,?_,hP.symm⟩;rw[List.drop_zero,zmW];omega
 ·rintro l k y W ⟨B,β,acc,fr,hBB,hS,h1,h2,h3,h4⟩ hy hsz2;obtain⟨hkl,hyk⟩:=zB.1 hy;have hd:(segs s).drop k=y::(segs s).drop (k+1):=by rw[<-hyk];exact yQ hkl
  have h3':=h3;rw[hd,zhX]at h3';have hb:=fun k (hk:k < 5)=>(hS.fix.2 k hk).1;have hsim:=hS.act (X':=XL (lO O N w5.heap.size) (lFix N) [] (some l)) (m:=47) (a':=zpe a5 (.string ⟨y.toArray⟩)) rfl rfl rfl (by simp[zpe,hsz]) rfl (F:=(15,⟨.str,y⟩)::lPF0) (zby (by rw[zdI hsz];exact⟨rfl,by show y.length≤maxLen;unfold maxLen;omega⟩) (zby ⟨_,hb 0 (by omega),by rw[zdI hsz];exact e2⟩ (zby ⟨_,hb 1 (by omega),by rw[zdI hsz];exact e3⟩ (zby ⟨_,hb 2 (by omega),by rw[zdI hsz];exact e4⟩ (zby ⟨_,hb 3 (by omega),by rw[zdI hsz];exact e5⟩ (zby ⟨_,hb 4 (by omega),by rw[zdI hsz];exact e6⟩ zf0)))))) rfl;refine yK (zpb (hXok B [] (some l) hBB) y fr acc β _ W hsim) ?_;rintro e a' W' ⟨σ',β',h',rfl,hf⟩;have hso:=hsame hBB hS h';have h6:=h'.fit hf (by show 5≤7;omega);have h7:=h6.renameK (L:=lRn) (m:=7) rfl rfl (by show 5≤7;omega) rfl rfl;refine⟨rfl,⟨B,_,acc,fr,hBB,(h7.fit (σ':=⟨lPF,libE y (fr:Int) acc,7⟩) ⟨⟨rfl,rfl,rfl,rfl,rfl,rfl,trivial⟩,⟨rfl,rfl,rfl,rfl,rfl,rfl,rfl,trivial⟩,rfl,rfl⟩ (by show 5≤7;omega)).act (X':=XL (lO O N w5.heap.size) (lFix N) [] none) rfl rfl rfl h7.sz h7.df (fun sl=>(h7.fit (σ':=⟨lPF,libE y (fr:Int) acc,7⟩) ⟨⟨rfl,rfl,rfl,rfl,rfl,rfl,trivial⟩,⟨rfl,rfl,rfl,rfl,rfl,rfl,rfl,trivial⟩,rfl,rfl⟩ (by show 5≤7;omega)).fr sl) rfl,h1,h2,h3,h4⟩,hso⟩
 ·rintro l k y W a' hy hsz2 ⟨B,β,acc,fr,hBB,hS,h1,h2,h3,h4⟩;obtain⟨hkl,hyk⟩:=zB.1 hy;have hd:(segs s).drop k=y::(segs s).drop (k+1):=by rw[<-hyk];exact yQ hkl
  rw[hd,zhX]at h3;rw[hd,zo0]at h4;have hsim:=hS.act (X':=XL (lO O N w5.heap.size) (lFix N) [] (some l)) rfl rfl rfl hS.sz hS.df hS.fr rfl;refine yK (zqV (by omega) (by omega) (by omega) (hXok B [] (some l) hBB) rfl rfl (fun ty=>lX_inv hN hG ty) (fun er he=>⟨(zmc he).1,by have:=(zmc he).2;omega⟩) β _ W hsim) ?_;rintro e a3 W' ⟨σ',β',h',hR⟩;have hso:=hsame hBB hS h';refine⟨?_,hso⟩;cases hst:zec y fr acc with
  |error er=>
   rw[hst]at hR h4;obtain⟨rfl,hf⟩:=hR;exact .inr ⟨rfl,er,B,β',h4.symm,hBB,ziW h' hf (by omega)⟩
  |ok acc'=>
   rw[hst]at hR h4;obtain⟨rfl,hf⟩:=hR;have h6:=(h'.fit hf (by show 5≤7;omega)).fit (σ':=⟨[],[(0,some (.hbox tD [⟨.lit,.slice none 0 0⟩])),(1,some (.box i64 (0:Int))),(2,some (.box i64 (0:Int))),(3,some (zoi 6)),(4,some (.box i64 ((fr+y.length+1:Nat):Int))),(6,some (.buf 37 de acc'))],7⟩) ⟨trivial,⟨rfl,rfl,rfl,rfl,rfl,rfl,trivial⟩,rfl,rfl⟩ (by show 5≤7;omega);have h7:=h6.renameK (L:=lRn) (m:=6) rfl rfl (by show 5≤6;omega) rfl rfl;exact .inl ⟨rfl,B,_,acc',fr+y.length+1,hBB,ziW h7 ⟨trivial,⟨rfl,rfl,rfl,rfl,rfl,rfl,trivial⟩,rfl,rfl⟩ (by omega),znX h1 hst,hkl,by omega,h4⟩
 ·rintro W ⟨B,β,acc,fr,hBB,hS,h1,h2,h3,h4⟩ hdef;refine⟨.inl rfl,?_⟩;rw[jI]at h4;have h4:(acc,(0:Int),(0:Int))=zaS s:=h4;have hb:=fun k (hk:k < 5)=>(hS.fix.2 k hk).1;have hsim:=hS.act (X':=XL (lO O N w5.heap.size) (lFix N) [ldco w5.heap.size] none) (m:=47) (a':={ a5 with defers:={ target:=.collected w5.heap.size,args:=#[] }::a5.defers }) rfl rfl rfl hsz (by rw[hdf];rfl) (F:=lPF0) (zby ⟨_,hb 0 (by omega),e2⟩ (zby ⟨_,hb 1 (by omega),e3⟩ (zby ⟨_,hb 2 (by omega),e4⟩ (zby ⟨_,hb 3 (by omega),e5⟩ (zby ⟨_,hb 4 (by omega),e6⟩ zf0))))) rfl;refine zcg (m:=0) (yK (zoT (hXok _ _ _ hBB) fr acc β _ W hsim) ?_);rintro e a' W' ⟨σ',β',h',rfl,hf⟩;have h6:=h'.fit hf (by show 5≤6;omega);have hso:=hsame hBB hS h6;obtain⟨u,q0,q1,hu⟩:=zpo h6 (i:=0) (by show 0 < 5;omega) rfl;obtain⟨c1,y1,q2,q3⟩:=zmK h6 (i:=1) (by show 1 < 5;omega) rfl;obtain⟨c2,y2,q4,q5⟩:=zmK h6 (i:=2) (by show 2 < 5;omega) rfl;have q3:c1=[.int .i64 0]:=q3;have q5:c2=[.int .i64 0]:=q5;subst q3;subst q5;have hb6:=fun k (hk:k < 5)=>(h6.fix.2 k hk).1;have k2:a'.tmps.getD 2 undef= .pointer (some ⟨N,0,none⟩):=by
   obtain⟨g,r1,r2⟩:∃ g,zah (β' 0)=some g∧a'.tmps.getD 2 undef= .pointer (some ⟨g,0,none⟩):=h6.fr 2;rw[hb6 0 (by omega)]at r1;cases r1;exact r2
  have k3:a'.tmps.getD 3 undef= .pointer (some ⟨N+1,0,none⟩):=by
   obtain⟨g,r1,r2⟩:∃ g,zah (β' 1)=some g∧a'.tmps.getD 3 undef= .pointer (some ⟨g,0,none⟩):=h6.fr 3;rw[hb6 1 (by omega)]at r1;cases r1;exact r2
  have k4:a'.tmps.getD 4 undef= .pointer (some ⟨N+2,0,none⟩):=by
   obtain⟨g,r1,r2⟩:∃ g,zah (β' 2)=some g∧a'.tmps.getD 4 undef= .pointer (some ⟨g,0,none⟩):=h6.fr 4;rw[hb6 2 (by omega)]at r1;cases r1;exact r2
  show LeavesInM yA 1 Tryz.prog Tryz.f19 a'.tmps (znG w O (zaS s)) a'.defers .returning W';rw[h6.df, <-h4];exact lfin hN (O':=OSet (XL (lO O N w5.heap.size) (lFix N) [ldco w5.heap.size] none) (sLT acc).E β') (fun g hg=>.inl (.inl hg)) (.inl (.inr (.inr (.inl rfl)))) (by omega) (zlo hN hs5 hb5 hBB h6.bel) ((hso.block _ (.inr (.inl rfl))).trans hdef) q1 k2 k3 k4 q0 q2 q4 hu
 ·rintro W ⟨er,B,β,hpe,hBB,hS⟩ hdef;refine⟨.inr rfl,?_⟩;obtain⟨u,q0,q1,hu⟩:=zpo hS (i:=0) (by show 0 < 5;omega) rfl;have hu:u= .slice none 0 0:=hu;subst hu;obtain⟨c1,y1,q2,q3⟩:=zmK hS (i:=1) (by show 1 < 5;omega) rfl;obtain⟨c2,y2,q4,q5⟩:=zmK hS (i:=2) (by show 2 < 5;omega) rfl;have q3:c1=[.int .i64 er.1]:=q3;have q5:c2=[.int .i64 er.2]:=q5;subst q3;subst q5;show LeavesInM yA 1 Tryz.prog Tryz.f19 a5.tmps (znG w O (zaS s)) (ldco w5.heap.size::a5.defers) .returning W;rw[hdf,hpe];exact lfin (acc:=[]) hN (O':=OSet (XL (lO O N w5.heap.size) (lFix N) [] none) (lRE er.1 er.2) β) (fun g hg=>.inl (.inl hg)) (.inl (.inr (.inr (.inl rfl)))) (by omega) (zlo hN hs5 hb5 hBB hS.bel) hdef q1 e2 e3 e4 q0 q2 q4 ⟨_,rfl,.inl ⟨rfl,none,0,rfl,zm _⟩⟩
end
end
section
attribute [local go_sem] ji
theorem zjD {P:Program} {f:FuncId} {Q:Exit->Act->zj->Prop} {a:Act} {w:zj} {id:Nat} {c:Code} (h:zfT P f c (fun e a w=>(e= .normal∨e= .ret)∧Q e a w) a w):zfT P f (.block id c) Q a w:=by
 intro b k cs hb hro;have h0:(lone (b.atR a (.code (.block id c)::k)) cs w).fenced P yA:=fenced_wide P _;obtain⟨e,a1,w1,⟨he,hq⟩,harr⟩:=h b (.inBlock id::k) cs hb hro;rcases he with rfl|rfl
 ·exact⟨.normal,a1,w1,hq,.head h0 stepR_block (k5 harr (.one (fenced_wide P _) stepR_inBlock))⟩
 ·exact⟨_,a1,w1,hq,.of_steps (.one h0 stepR_block) harr⟩
noncomputable def zlH:Ctr:={ args:=[.str],pre:=fun _=>[],res:=zsm,own:=none,out:=fun x=>((zaS x.1).1,(zaS x.1).2.1,(zaS x.1).2.2,()) }
set_option maxHeartbeats 1000000 in
theorem zhf:yM Tryz.prog gmH 19 zlH:=by
 refine⟨Tryz.call19,fun w O xs vs hO hr hp hG=>?_⟩;obtain⟨(s:List UInt8),_⟩:=xs;obtain⟨v1,r1,rfl,e1,rfl⟩:=hr;have e1: [v1]=[Value.string ⟨s.toArray⟩]∧s.length≤maxLen:=e1;obtain⟨e1,hmax⟩:=e1;cases e1;refine callsIn_wide.1 (zeV (m:=1) Tryz.func19 rfl ?_);simp only[Tryz.ntmps19,qf,zt,zY,Nat.reduceAdd,Nat.reduceSub,vu,vv,kh,vA,yB,xw];change zfT _ _ _ (bodyPostM yA 1 Tryz.prog Tryz.f19 (znG w O (zaS s))) _ _;generalize hQ:bodyPostM yA 1 Tryz.prog Tryz.f19 _=Q;refine zb9 (zcg (m:=1) ?_)
 gi_wp2
 refine zb9 (zcg (m:=1) ?_)
 gi_wp2
 ·rename_i hlong;have hP:zaS s=([],0,2):=if_pos (by omega);rw[<-hQ,hP];refine⟨_,zoY (g2:=w.heap.size) (g3:=w.heap.size+1) (g4:=w.heap.size+1+1) (u:=.slice none 0 0) (x:=0) (y:=2) (t2:=tD) (t3:=3) (t4:=25) rfl rfl rfl rfl ?_ ?_ ?_,_,rfl,((((zO _ w).alloc (zk _) _).alloc (by simp) _).alloc (by simp;omega) _),zop (acc:=[]) ⟨_,rfl,.inl ⟨rfl,none,0,rfl,zm _⟩⟩⟩
  ·exact zaT _ (zaT _ (zbN _ rfl))
  ·exact zaT _ (zbN _ (by simp))
  ·exact zbN _ (by simp)
 rename_i hshort;have hlen:s.length≤1048576:=by omega
 refine zb9 (zcg (m:=1) ?_)
 gi_wp2
 refine zb9 (zcg (m:=1) ?_)
 gi_wp2
 refine zb9 (zb9 (zcg (m:=1) ?_))
 gi_wp2
 refine⟨trivial,(callsIn_wide.2 (ziS _ _ _)).mono ?_⟩;rintro e w' ⟨rfl,rfl⟩
 gi_wp2
 refine zjD ?_;obtain⟨w4,hw4⟩:∃ w4:zj,w4=(((((w.alloc (.cells #[.slice none 0 0] tD)).alloc (.cells #[.int .i64 0] 3)).alloc (.cells #[.int .i64 0] 25)).alloc (.cells #[.slice none 0 0] tD)).alloc (.cells #[.int .i64 0] 3)):=⟨_,rfl⟩;rw[<-hw4, <-hQ];have hs4:w4.heap.size=w.heap.size+5:=by rw[hw4];simp
 have hb4:yO w.heap.size w w4:=by rw[hw4];exact ((((((zO _ w).alloc (zk _) _).alloc (by simp) _).alloc (by simp;omega) _).alloc (by simp;omega) _).alloc (by simp;omega) _)
 have b0:w4.heap[w.heap.size]? =some (.cells #[.slice none 0 0] tD (0,0)):=by rw[hw4];exact zaT _ (zaT _ (zaT _ (zaT _ (zbN _ rfl))))
 have b1:w4.heap[w.heap.size+1]? =some (.cells #[.int .i64 0] 3 (0,0)):=by rw[hw4];exact zaT _ (zaT _ (zaT _ (zbN _ (by simp))))
 have b2:w4.heap[w.heap.size+2]? =some (.cells #[.int .i64 0] 25 (0,0)):=by rw[hw4];exact zaT _ (zaT _ (zbN _ (by simp)))
 have b3:w4.heap[w.heap.size+3]? =some (.cells #[.slice none 0 0] tD (0,0)):=by rw[hw4];exact zaT _ (zbN _ (by simp))
 have b4:w4.heap[w.heap.size+4]? =some (.cells #[.int .i64 0] 3 (0,0)):=by rw[hw4];exact zbN _ (by simp)
 have hb5:yO w.heap.size w (itW w4 ⟨s.toArray⟩ ⟨#[10]⟩):=hb4.trans ((((zO _ w4).alloc (zk _) _).alloc (by simp) _).alloc (by simp;omega) _ |>.mono hb4.size);have i0:(itW w4 ⟨s.toArray⟩ ⟨#[10]⟩).heap[w.heap.size+5]? =some (.cells #[.string ⟨s.toArray⟩] 9 (0,0)):=zaT _ (zaT _ (zbN _ hs4));have i1:(itW w4 ⟨s.toArray⟩ ⟨#[10]⟩).heap[w.heap.size+6]? =some (.cells #[.string ⟨#[10]⟩] 9 (0,0)):=zaT _ (zbN _ (by simp[hs4]));have i2:(itW w4 ⟨s.toArray⟩ ⟨#[10]⟩).heap[w.heap.size+7]? =some (.cells #[.int .i64 0] 3 (0,0)):=zbN _ (by simp[hs4]);have hs5:(itW w4 ⟨s.toArray⟩ ⟨#[10]⟩).heap.size=w.heap.size+8:=by simp[itW,hs4]
 have hit:itV w4= .func (.func 145) #[] #[.pointer (some ⟨w.heap.size+6,0,none⟩),.pointer (some ⟨w.heap.size+5,0,none⟩),.pointer (some ⟨w.heap.size+7,0,none⟩)]:=by unfold itV;rw[hs4]
 have hl:∀ g (o:Obj),w4.heap[g]? =some o->(itW w4 ⟨s.toArray⟩ ⟨#[10]⟩).heap[g]? =some o:=fun g o hg=>zaT _ (zaT _ (zaT _ hg));exact zoZ rfl hO hG hlen hs5 hb5 (hl _ _ b0) (hl _ _ b1) (hl _ _ b2) (hl _ _ b3) (hl _ _ b4) i0 i1 i2 rfl rfl rfl rfl rfl rfl hit rfl
end
section
set_option maxRecDepth 10000
section
variable {s:List UInt8}
theorem zlV {lo hi:Int} {z:Bool} {x:Int} (h1:lo≤x) (h2:x≤hi) (h3:z=true∨x≠0):∀ {l:List Int} {last:Int},Ris lo hi z last l->l.getLast?.getD last < x->Ris lo hi z last (l++ [x])
 | [],_,_,h=>⟨h,h1,h2,h3,trivial⟩
 |y::r,last,h,hx=>by
  obtain⟨a,b,c,d,e⟩:=h;refine⟨a,b,c,d,zlV h1 h2 h3 e ?_⟩;rw[List.getLast?_cons]at hx;exact hx
end
theorem zrK {lo hi:Int} {z:Bool}:∀ {l:List Int} {last:Int},Ris lo hi z last l->∀ i,i < l.length->(lo≤l.getD i 0∧l.getD i 0≤hi)∧(0 < i->l.getD (i - 1) 0 < l.getD i 0)∧(z=true∨l.getD i 0≠0)
 | [],_,_,i,hi=>absurd hi (Nat.not_lt_zero _)
 |x::r,last,h,i,hi=>by
  obtain⟨a,b,c,d,e⟩:=h;cases i with
  |zero=>exact⟨⟨b,c⟩,fun h=>absurd h (Nat.lt_irrefl _),d⟩
  |succ i=>
   obtain⟨h1,h2,h3⟩:=zrK e i (by rw[zt]at hi;omega);refine⟨h1,fun _=>?_,h3⟩;cases i with
   |zero=>
    cases r with
    |nil=>rw[zt,zY]at hi;omega
    |cons y r=>exact e.1
   |succ i=>exact h2 (by omega)
theorem zhl {l:List Int} {lo hi:Int} {z:Bool} (h0:¬ (lo=0∧hi=0)) (hz:z=decide (¬ lo < 0)) (hne:l≠ []) (h:Ris lo hi z (lo - 1) l):zaV l (lo,hi,())=true:=by
 have hz0:zhj (lo,hi,())=false:=by
  rw[qi];intro e;unfold zhj at e;rw[zd,beq_iff_eq,beq_iff_eq]at e;exact h0 e
 unfold zaV;rw[hz0,cond_false,zd,decide_eq_true_iff,zT];refine⟨fun i hi=>?_,by have:=List.length_pos_iff.2 hne;omega⟩;obtain⟨⟨a,b⟩,c,d⟩:=zrK h i (List.mem_range.1 hi);rw[zw];unfold zhQ;simp only[xN,xg,zaM,Bool.and_eq_false_iff,decide_eq_false_iff_not,beq_eq_false_iff_ne];refine⟨⟨⟨a,b⟩,?_⟩,?_⟩
 ·by_cases e:0 < i
  ·exact .inr (by have:=c e;omega)
  ·exact .inl e
 ·rcases d with d|d
  ·rw[hz]at d;exact .inr (of_decide_eq_true d)
  ·exact .inl d
theorem and4 {a b c d:Bool} (ha:a=true) (hb:b=true) (hc:c=true) (hd:d=true):((true&&a)&&(b&&(true&&(c&&d))))=true:=by rw[ha,hb,hc,hd];rfl
theorem zcE {n lo hi:Int} (h:lo≤n∧n≤hi):inB n lo hi=true:=zaM.2 h
def tx_sA:List UInt8:=[100,97,121,115,32,55,32,51,32,111,114,32,40,64,102,114,101,101,32,115,104,105,102,116,32,45,49,41]
def tx_sB:List UInt8:=[35,32,104,111,108,105,100,97,121,115,10,102,114,101,101,32,61,32,119,101,101,107,100,97,121,115,32,40,53,32,54,41,10,10,111,114,32,61,32,64,102,114,101,101,32,115,104,105,102,116,32,49]
def tx_sC:List UInt8:=[102,114,101,101,32,119,101,101,107,100,97,121,115,32,40,53,41]
def zjM:List UInt8:=[100,97,121,115,32,55,32,51,32,111,114,32,64,102,114,101,101,32,115,104,105,102,116,32,45,49]
def zqc:List UInt8:=[102,114,101,101,32,61,32,119,101,101,107,100,97,121,115,32,40,53,32,54,41,10,111,114,32,61,32,64,102,114,101,101,32,115,104,105,102,116,32,49,10]
def zss:List UInt8:=[100,97,121,115,32,48,32,51]
def zsr:List UInt8:=[109,111,110,116,104,115,32,48,32,40,50,32,50,41]
def zsq:List UInt8:=[100,97,121,115,32,48,55,32,51]
def zsp:List UInt8:=[119,101,101,107,100,97,121,115,32,40,41]
def zso:List UInt8:=[100,97,121,115,32,55]
def zsn:List UInt8:=[]
def zfk:List UInt8:=[102,114,101,101]
def znN:List UInt8:=[111,114]
def sanR:List Nd:=[(1,0,0,0,7,3,[],[],()),(18,0,0,0,0,0,[],zfk,()),(11,0,1,0,-1,0,[],[],()),(9,0,0,2,0,0,[],[],())]
def sanL:List De:=[(zfk,[(5,0,0,0,0,0,[5,6],[],())],()),(znN,[(18,0,0,0,0,0,[],zfk,()),(11,0,0,0,1,0,[],[],())],())]
theorem sanA:zbD tx_sA=(sanR,0,0):=by kernel_rfl
theorem san1:zbD zss=([],5,1):=by kernel_rfl
theorem san2:zbD zsr=([],12,1):=by kernel_rfl
theorem san3:zbD zsq=([],5,3):=by kernel_rfl
theorem san4:zbD zsp=([],10,3):=by kernel_rfl
theorem san5:zbD zso=([],6,3):=by kernel_rfl
theorem san6:zbD zsn=([],0,3):=by kernel_rfl
theorem sanF:fmtS sanR=(zjM,0):=by kernel_rfl
theorem sanN:fmtS []=([],1):=by kernel_rfl
theorem sanG:zbd sanL=(zqc,0):=by kernel_rfl
def zsY (y:List UInt8):Bool:=(!decide (y.take 1=[35]))&&decide (zbB isWh y < y.length)
theorem zqU (y:List UInt8):zfz y=zsY y:=by
 unfold zfz zsY zjg;rw[zdM];have:(decide (zg ([35]:List UInt8)≤y.length)&&decide (y.take (zg ([35]:List UInt8))=[35]))=decide (y.take 1=[35]):=by
  cases y with
  |nil=>rfl
  |cons c q=>rw[decide_eq_true (by simp:zg ([35]:List UInt8)≤(c::q).length),Bool.true_and];rfl
 rw[this]
def zqi (y:List UInt8) (fr:Nat) (acc:List De):Except (Int×Int) (List De):=
 if zsY y=true then
  if 4000 < y.length then .error ((fr:Int),2)
  else match zfB y ((acc.length:Nat):Int) with
   | .ok d=>.ok (acc++ [d])
   | .error e=>if e.2=0 then .ok acc else .error ((fr:Int)+e.1,e.2)
 else .ok acc
theorem zqh (y:List UInt8) (fr:Nat) (acc:List De):zec y fr acc=zqi y fr acc:=by
 unfold zec zqi;rw[zqU]
 all_goals rfl
def libC:List (List UInt8)->Nat->List De->List De×Int×Int
 | [],_,acc=>(acc,0,0)
 |y::r,fr,acc=>match zqi y fr acc with
  | .error e=>([],e.1,e.2)
  | .ok acc'=>libC r (fr+y.length+1) acc'
theorem zo1:∀ (l:List (List UInt8)) (fr:Nat) (acc:List De),libK l fr acc=libC l fr acc
 | [],_,_=>rfl
 |y::r,fr,acc=>by
  unfold libK libC;rw[zqh];cases zqi y fr acc with
  |error e=>rfl
  |ok a=>exact zo1 r _ a
def zkc (s:List UInt8):List De×Int×Int:=if 1048576 < s.length then ([],0,2) else libC (segs s) 0 []
theorem zgt (s:List UInt8):zaS s=zkc s:=by
 unfold zaS zkc;rw[zo1]
theorem sanB:zaS tx_sB=(sanL,0,0):=(zgt _).trans (by kernel_rfl)
theorem sanC:zaS tx_sC=([],5,3):=(zgt _).trans (by kernel_rfl)
def zcq (s:List UInt8) (at' e:Int):Bool:=(((((zbD s).1.length:Nat):Int)==0)&&((zbD s).2.1==at'))&&((zbD s).2.2==e)
def zr5:Ctr:={ args:=[.str,i64,i64],pre:=fun _=>[],res:=.bool,own:=none,out:=fun x=>zcq x.1 x.2.1 x.2.2.1 }
def kPa:Kn:={ gmK with C:=[(16,zpN)] }
theorem zmh:KnOk Tryz.prog gmH kPa:=zak.with (.cons zl1 .nil)
theorem zqb:yM Tryz.prog gmH 42 zr5:=by
 refine zar (K:=kPa) zmh Tryz.func42 rfl rfl Tryz.call42 rfl (by decide) (by intro h;cases h) ?_;rintro w0 X hX ⟨(s:List UInt8),(at':Int),(e:Int),_⟩ hp;change AWP _ _ _ _ _ ⟨[(0,⟨.str,s⟩),(1,⟨i64,at'⟩),(2,⟨i64,e⟩)],[],0⟩ _;refine za (za ?_);refine zaa hX zmh rfl ?_ ?_
 ·trivial
 refine za (za ?_);refine zaa hX zmh rfl ?_ ?_
 ·trivial
 refine za (za ?_);refine zaa hX zmh rfl ?_ ?_
 ·repeat'(first|exact trivial|assumption|(refine⟨?_,?_⟩)|(intro _)|exact zb rfl|exact zi _|(simp_all [allP];done))
 refine zq ⟨.inr rfl,zax rfl trivial rfl rfl ?_⟩;show (bif (bif ((((zbD s).1.length:Nat):Int)==0) then (zbD s).2.1==at' else false) then (zbD s).2.2==e else false)=zcq s at' e;rw[zc2,zc2];rfl
def zpM:Ctr:={ args:=[],pre:=fun _=>[],res:=.bool,own:=none,out:=fun _=>true }
noncomputable def kSan:Kn:={ gmK with C:=[(16,zpN),(24,cFmt),(19,zlH),(26,ztN),(18,ztK),(42,zr5)] }
theorem zcZ:KnOk Tryz.prog gmH kSan:=zak.with (.cons zl1 <| .cons zhC <| .cons zhf <| .cons zkC <| .cons zoc <| .cons zqb .nil)
theorem vStr {x y:List UInt8} (h:x=y):(⟨.str,x⟩:V)=⟨.str,y⟩:=by rw[h]
theorem vRul {x y:List Nd} (h:x=y):(⟨.slice nd,x⟩:V)=⟨.slice nd,y⟩:=by rw[h]
theorem vDes {x y:List De} (h:x=y):(⟨.slice de,x⟩:V)=⟨.slice de,y⟩:=by rw[h]
set_option maxHeartbeats 2000000 in
theorem zob:yM Tryz.prog gmH 15 zpM:=by
 refine zar (K:=kSan) zcZ Tryz.func15 rfl rfl Tryz.call15 rfl (by decide) (by intro h;cases h) ?_;rintro w0 X hX _ hp;change AWP _ _ _ _ _ ⟨[],[],0⟩ _;refine za (za ?_);refine zaa hX zcZ rfl ?_ ?_
 ·trivial
 refine za (za ?_);refine zaa hX zcZ rfl ?_ ?_
 ·trivial
 refine zaq (σ':=⟨[(1,⟨.slice nd,sanR⟩),(3,⟨i64,(0:Int)⟩)],[],0⟩) ⟨⟨vRul (congrArg (fun x=>x.1) sanA),vI64 (congrArg (fun x=>x.2.2) sanA),trivial⟩,trivial,rfl,rfl⟩ ?_;refine za (za ?_);refine zaa hX zcZ rfl ?_ ?_
 ·trivial
 refine qW hX 4 ?_;refine zaq (σ':=⟨[(1,⟨.slice nd,sanR⟩),(3,⟨i64,(0:Int)⟩),(4,⟨.slice nd,sanR⟩)],[],1⟩) ⟨⟨rfl,rfl,rfl,trivial⟩,trivial,rfl,rfl⟩ ?_;refine za (za ?_);refine zaa hX zcZ rfl ?_ ?_
 ·trivial
 refine zaq (σ':=⟨[(1,⟨.slice nd,sanR⟩),(3,⟨i64,(0:Int)⟩),(4,⟨.slice nd,sanR⟩),(5,⟨.str,zjM⟩),(6,⟨i64,(0:Int)⟩)],[],1⟩) ⟨⟨rfl,rfl,rfl,vStr (congrArg (fun x=>x.1) sanF),vI64 (congrArg (fun x=>x.2) sanF),trivial⟩,trivial,rfl,rfl⟩ ?_;refine za (za ?_);refine zaa hX zcZ rfl ?_ ?_
 ·trivial
 refine zaq (σ':=⟨[(1,⟨.slice nd,sanR⟩),(3,⟨i64,(0:Int)⟩),(4,⟨.slice nd,sanR⟩),(5,⟨.str,zjM⟩),(6,⟨i64,(0:Int)⟩),(7,⟨.slice de,sanL⟩),(9,⟨i64,(0:Int)⟩)],[],1⟩) ⟨⟨rfl,rfl,rfl,rfl,rfl,vDes (congrArg (fun x=>x.1) sanB),vI64 (congrArg (fun x=>x.2.2) sanB),trivial⟩,trivial,rfl,rfl⟩ ?_;refine za (za ?_);refine zaa hX zcZ rfl ?_ ?_
 ·trivial
 refine zaq (σ':=⟨[(1,⟨.slice nd,sanR⟩),(3,⟨i64,(0:Int)⟩),(4,⟨.slice nd,sanR⟩),(5,⟨.str,zjM⟩),(6,⟨i64,(0:Int)⟩),(7,⟨.slice de,sanL⟩),(9,⟨i64,(0:Int)⟩),(11,⟨i64,(5:Int)⟩),(12,⟨i64,(3:Int)⟩)],[],1⟩) ⟨⟨rfl,rfl,rfl,rfl,rfl,rfl,rfl,vI64 (congrArg (fun x=>x.2.1) sanC),vI64 (congrArg (fun x=>x.2.2) sanC),trivial⟩,trivial,rfl,rfl⟩ ?_;refine za (za ?_);refine zaa hX zcZ rfl ?_ ?_
 ·trivial
 refine zaq (σ':=⟨[(1,⟨.slice nd,sanR⟩),(3,⟨i64,(0:Int)⟩),(4,⟨.slice nd,sanR⟩),(5,⟨.str,zjM⟩),(6,⟨i64,(0:Int)⟩),(7,⟨.slice de,sanL⟩),(9,⟨i64,(0:Int)⟩),(11,⟨i64,(5:Int)⟩),(12,⟨i64,(3:Int)⟩),(14,⟨i64,(1:Int)⟩)],[],1⟩) ⟨⟨rfl,rfl,rfl,rfl,rfl,rfl,rfl,rfl,rfl,vI64 (congrArg (fun x=>x.2) sanN),trivial⟩,trivial,rfl,rfl⟩ ?_;refine za (za ?_);refine zaa hX zcZ rfl ?_ ?_
 ·repeat'(first|exact trivial|assumption|(refine⟨?_,?_⟩)|(intro _)|exact zb rfl|exact zi _|(simp_all [allP];done))
 refine zaf rfl (fun hb=>?_) (fun _=>?_)
 ·have hb:false=true:=hb;cases hb
 apply zab;refine za (za ?_);refine zaa hX zcZ rfl ?_ ?_
 ·trivial
 refine zaq (σ':=⟨[(1,⟨.slice nd,sanR⟩),(4,⟨.slice nd,sanR⟩),(5,⟨.str,zjM⟩),(7,⟨.slice de,sanL⟩),(15,⟨.str,zqc⟩),(16,⟨i64,(0:Int)⟩)],[],1⟩) ⟨⟨rfl,rfl,rfl,rfl,vStr (congrArg (fun x=>x.1) sanG),vI64 (congrArg (fun x=>x.2) sanG),trivial⟩,trivial,rfl,rfl⟩ ?_;have hs:zj0 sanR sanR=true:=zg0.2 rfl;have b0:(0:Int) < ((sanL.length:Nat):Int):=by decide
 have b1:(1:Int) < ((sanL.length:Nat):Int):=by decide
 refine za (za ?_);refine zaa hX zcZ rfl ?_ ?_
 ·repeat'(first|exact trivial|assumption|exact b0|exact b1|(refine⟨?_,?_⟩)|(intro _)|decide)
 refine zaq (σ':=⟨[(17,⟨.bool,true⟩)],[],1⟩) ⟨⟨zcu ?_,trivial⟩,trivial,rfl,rfl⟩ ?_
 ·show (bif (bif (bif (bif (bif zj0 sanR sanR then eqb .str zjM zjM else false) then eqb .str zfk zfk else false) then eqb .str znN znN else false) then ((0:Int)==0) else false) then eqb .str zqc zqc else false)=true;rw[hs,zeI,zeI,zeI,zeI];rfl
 have w1:zcq zss 5 1=true:=by unfold zcq;rw[san1];rfl
 have w2:zcq zsr 12 1=true:=by unfold zcq;rw[san2];rfl
 have w3:zcq zsq 5 3=true:=by unfold zcq;rw[san3];rfl
 have w4:zcq zsp 10 3=true:=by unfold zcq;rw[san4];rfl
 have w5:zcq zso 6 3=true:=by unfold zcq;rw[san5];rfl
 have w6:zcq zsn 0 3=true:=by unfold zcq;rw[san6];rfl
 refine za (za ?_);refine zaa hX zcZ rfl ?_ ?_
 ·repeat'(first|exact trivial|assumption|(refine⟨?_,?_⟩)|(intro _))
 refine zq ⟨.inr rfl,zax rfl trivial rfl rfl ?_⟩;show (bif (bif (bif (bif (bif (bif true then zcq zss 5 1 else false) then zcq zsr 12 1 else false) then zcq zsq 5 3 else false) then zcq zsp 10 3 else false) then zcq zso 6 3 else false) then zcq zsn 0 3 else false)=true;rw[w1,w2,w3,w4,w5,w6];rfl
set_option maxRecDepth 10000
noncomputable def libX:List (List UInt8)->Nat->List De->Except (Int×Int) (List De)
 | [],_,acc=>.ok acc
 |y::r,fr,acc=>zec y fr acc >>= fun acc'=>libX r (fr+y.length+1) acc'
theorem zrT:∀ (l:List (List UInt8)) (fr:Nat) (acc:List De),libK l fr acc=match libX l fr acc with
  | .error e=>([],e.1,e.2)
  | .ok a=>(a,0,0)
 | [],_,_=>rfl
 |y::r,fr,acc=>by
  unfold libK libX;cases zec y fr acc with
  |error e=>rfl
  |ok a=>exact zrT r _ a
theorem znd {s:List UInt8} (hs:s.length≤1048576):zaS s=match libX (segs s) 0 [] with
  | .error e=>([],e.1,e.2)
  | .ok a=>(a,0,0):=by
 unfold zaS;rw[if_neg (by omega)];exact zrT _ _ _
def two (k:Int):Bool:=(k==8)||(k==9)||(k==10)||(k==17)
def zcr (by_:Int) (n:Nd):Nd:=(n.1,n.2.1,(if 8≤n.1∧n.1≤17 then n.2.2.1+by_ else n.2.2.1),(if two n.1 then n.2.2.2.1+by_ else n.2.2.2.1),n.2.2.2.2)
def zd2 (r:List Nd) (by_:Int):List Nd:=r.map (zcr by_)
def zqG (r:List Nd) (n:Nd):List Nd:=r++ [setL n ((r.length:Nat) - 1)]
def zry (r s:List Nd) (n:Nd):List Nd:=r++zd2 s (r.length:Nat)++ [zcc n ((r.length:Nat) - 1) ((r.length:Nat)+(s.length:Nat) - 1)]
def cMod:Ctr:={ args:=[i64,i64],pre:=fun x=>[0 < x.2.1,x.2.1≤1000000000],res:=i64,own:=none,out:=fun x=>x.1 % x.2.1 }
theorem mod_ok:yM Tryz.prog gmG 40 cMod:=by
 refine zar (K:=gmK) zaH Tryz.func40 rfl rfl Tryz.call40 rfl (by decide) (by intro h;cases h) ?_;rintro w0 X hX ⟨(a:Int),(b:Int),_⟩ hp;obtain⟨h0,h1⟩:0 < b∧b≤1000000000:=by
  simp only[cMod,allP]at hp
  simpa using hp
 change AWP _ _ _ _ _ ⟨[(0,⟨i64,a⟩),(1,⟨i64,b⟩)],[],0⟩ _;have hn:b≠0:=by omega
 refine za (za ?_);refine zaa hX zaH rfl ?_ ?_
 ·trivial
 refine za (za ?_);refine zaa hX zaH rfl ?_ ?_
 ·exact hn
 refine za (za ?_);refine zaa hX zaH rfl ?_ ?_
 ·trivial
 have hlt:=uk a h0;have hgt: -b < a.tmod b:=by
  have h2:=Int.natAbs_tmod a b;have h3:a.natAbs % b.natAbs < b.natAbs:=Nat.mod_lt _ (by omega);omega
 have hem:a % b=if a.tmod b < 0 then a.tmod b+b else a.tmod b:=by
  have e1:=Int.emod_nonneg a hn;have e2:=um a h0;have e3:a=b * a.tdiv b+a.tmod b:=(Int.mul_tdiv_add_tmod a b).symm;split
  ·rename_i hneg;have:a=(a.tmod b+b)+b * (a.tdiv b - 1):=by rw[Int.mul_sub];omega
   conv=>lhs;rw[this]
   rw[vV];exact qO (by omega) (by omega)
  ·conv=>lhs;rw[e3]
   rw[Int.add_comm,vV];exact qO (by omega) (by omega)
 refine zaf rfl (fun hb=>?_) (fun hb=>?_)
 ·have hb:decide (a.tmod b < 0)=true:=hb;have hb:=of_decide_eq_true hb;have q0:inR .i64 (a.tmod b+b):=zan (by omega) (by omega);refine za (za ?_);refine zaa hX zaH rfl ?_ ?_
  ·exact q0
  (repeat(first|apply zae|apply zab|apply zal|apply zad|apply zac|refine zaa hX zaH rfl trivial ?_|refine zaa hX zaH rfl id ?_|refine zaa hX zaH rfl ⟨id,id⟩ ?_));refine zq ⟨.inr rfl,zax rfl trivial rfl rfl ?_⟩;show a.tmod b+b=a % b;rw[hem,if_pos hb]
 ·have hb:decide (a.tmod b < 0)=false:=hb;have hb:=of_decide_eq_false hb;apply zab;(repeat(first|apply zae|apply zab|apply zal|apply zad|apply zac|refine zaa hX zaH rfl trivial ?_|refine zaa hX zaH rfl id ?_|refine zaa hX zaH rfl ⟨id,id⟩ ?_));refine zq ⟨.inr rfl,zax rfl trivial rfl rfl ?_⟩;show a.tmod b=a % b;rw[hem,if_neg hb]
def cTwo:Ctr:={ args:=[i64],pre:=fun _=>[],res:=.bool,own:=none,out:=fun x=>two x.1 }
theorem zrE:yM Tryz.prog gmG 94 cTwo:=by
 refine zar (K:=gmK) zaH Tryz.func94 rfl rfl Tryz.call94 rfl (by decide) (by intro h;cases h) ?_;rintro w0 X hX ⟨(k:Int),_⟩ hp;change AWP _ _ _ _ _ ⟨[(0,⟨i64,k⟩)],[],0⟩ _;refine za (za ?_);refine zaa hX zaH rfl ?_ ?_
 ·trivial
 refine za (za ?_);refine zaa hX zaH rfl ?_ ?_
 ·repeat'(first|exact trivial|assumption|(refine⟨?_,?_⟩)|(intro _)|exact zb rfl|exact zi _|(simp_all [allP];done))
 refine zq ⟨.inr rfl,zax rfl trivial rfl rfl ?_⟩;show (bif (bif (bif (k==8) then true else (k==9)) then true else (k==10)) then true else (k==17))=two k;rw[b_or,b_or,b_or];rfl
theorem zmE {n:Nat} (h:10≤n):yq n=yq (n / 10)++ [zS (48+n % 10)]:=by
 conv=>lhs;rw[yq]
 rw[dif_neg (by omega)]
theorem zmF {n:Nat} (h:n < 10):yq n=[zS (48+n)]:=by rw[yq,dif_pos h]
theorem zr3 (n:Nat):zS ((48+((n:Int)).tmod 10) % 256).toNat=zS (48+n % 10):=by
 have:((n:Int)).tmod 10=((n % 10:Nat):Int):=rfl;rw[this]
 congr 1
 omega
theorem vS {x y:List UInt8} (h:x=y):(⟨.str,x⟩:V)=⟨.str,y⟩:=by rw[h]
def ztP:Ctr:={ args:=[i64],pre:=fun x=>[0≤x.1,x.1 < 100000000000000000],res:=.str,own:=none,out:=fun x=>deI x.1 }
theorem zlz:yM Tryz.prog gmG 107 ztP:=by
 refine zar (K:=gmK) zaH Tryz.func107 rfl rfl Tryz.call107 rfl (by decide) (by intro h;cases h) ?_;rintro w0 X hX ⟨(n:Int),_⟩ hp;obtain⟨h0,h1⟩:0≤n∧n < 100000000000000000:=by
  simp only[ztP,allP]at hp
  simpa using hp
 change AWP _ _ _ _ _ ⟨[(0,⟨i64,n⟩)],[],0⟩ _;refine za (za ?_);refine zaa hX zaH rfl ?_ ?_
 ·trivial
 refine za (za ?_);refine zaa hX zaH rfl ?_ ?_
 ·trivial
 refine zaf rfl (fun hb=>?_) (fun _=>?_)
 ·have hb:decide (n < 0)=true:=hb;have:=of_decide_eq_true hb;omega
 apply zab;have ten:(10:Int)≠0:=by decide
 have tm:∀ x:Int,0≤x->0≤x.tmod 10∧x.tmod 10 < 10:=fun x hx=>⟨Int.tmod_nonneg _ hx,uk _ (by decide)⟩;have hm:=tm n h0;have i1:inR .i64 (48+n.tmod 10):=zan (by omega) (by omega);refine za (za ?_);refine zaa hX zaH rfl ?_ ?_
 ·exact⟨ten,i1⟩
 have td:∀ x:Nat,((x:Int)).tdiv 10=((x / 10:Nat):Int):=fun x=>(Int.ofNat_tdiv ..);obtain⟨N,rfl⟩:∃ N:Nat,n=(N:Int):=⟨n.toNat,by omega⟩;have hlen:(deI (N:Int)).length≤18:=zet (by omega) h1;have hde:deI (N:Int)=yq N:=by
  unfold deI jS;rw[if_neg (by omega),zH]
 have i2:inR .i64 (((N:Int)).tdiv 10):=by rw[td];exact zan (by omega) (by omega)
 refine za (za ?_);refine zaa hX zaH rfl ?_ ?_
 ·exact⟨ten,i2⟩
 (repeat(first|apply zae|apply zab|apply zac|apply zad));refine yU (ι:=Nat×List UInt8) (fun p=>⟨[(0,⟨i64,(p.1:Int)⟩),(3,⟨.str,p.2⟩)],[],1⟩) (fun p=>p.1≤N / 10∧deI (N:Int)=if p.1=0 then p.2 else yq p.1++p.2) (fun p=>p.1) (N / 10,[zS (48+N % 10)]) ⟨zk _,?_⟩ ⟨⟨vI64 (td N),vS ?_,trivial⟩,trivial,rfl,rfl⟩ ?_
 ·rw[hde];show _=if N / 10=0 then [zS (48+N % 10)] else yq (N / 10)++ [zS (48+N % 10)]
  by_cases h10:N < 10
  ·rw[if_pos (by omega),zmF h10,Nat.mod_eq_of_lt h10]
  ·rw[if_neg (by omega),zmE (by omega)]
 ·show [zS ((48+((N:Int)).tmod 10) % 256).toNat]=_;rw[zr3]
 rintro ⟨m,s⟩ ⟨hm10,hd⟩;have hm10:m≤N / 10:=hm10;have hd:deI (N:Int)=if m=0 then s else yq m++s:=hd
 refine za (za ?_);refine zaa hX zaH rfl ?_ ?_
 ·trivial
 refine zaf rfl (fun hb=>?_) (fun hb=>?_)
 ·have hb:decide ((m:Int) > 0)=true:=hb;have hb:=of_decide_eq_true hb;rw[if_neg (by omega)]at hd;have hsl:s.length≤18:=by rw[hd,zf]at hlen;omega
  have hmm:=tm (m:Int) (by omega);have j1:inR .i64 (48+((m:Int)).tmod 10):=zan (by omega) (by omega);have j2:1+s.length≤maxLen:=by unfold maxLen;omega
  have j3:inR .i64 (((m:Int)).tdiv 10):=by rw[td];exact zan (by omega) (by omega)
  refine za (za ?_);refine zaa hX zaH rfl ?_ ?_
  ·exact⟨ten,j1,j2⟩
  refine za (za ?_);refine zaa hX zaH rfl ?_ ?_
  ·exact⟨ten,j3⟩
  refine⟨(m / 10,[zS (48+m % 10)]++s),⟨by show m / 10≤N / 10;omega,?_⟩,by show m / 10 < m;omega,⟨vI64 (td m),vS ?_,trivial⟩,trivial,rfl,rfl⟩
  ·rw[hd];show _=if m / 10=0 then [zS (48+m % 10)]++s else yq (m / 10)++([zS (48+m % 10)]++s)
   by_cases h10:m < 10
   ·rw[if_pos (by omega),zmF h10,Nat.mod_eq_of_lt h10]
   ·rw[if_neg (by omega),zmE (by omega),zs]
  ·show [zS ((48+((m:Int)).tmod 10) % 256).toNat]++s=_;rw[zr3]
 ·have hb:decide ((m:Int) > 0)=false:=hb;have hb:=of_decide_eq_false hb;rw[if_pos (by omega)]at hd;(repeat(first|apply zae|apply zab|apply zal|apply zad|apply zac|refine zaa hX zaH rfl trivial ?_|refine zaa hX zaH rfl id ?_|refine zaa hX zaH rfl ⟨id,id⟩ ?_));refine zq ⟨.inr rfl,zax rfl trivial rfl rfl ?_⟩;exact hd.symm
def cDec:Ctr:={ args:=[i64],pre:=fun x=>[zb1 x.1],res:=.str,own:=none,out:=fun x=>deI x.1 }
def kDec:Kn:={ gmK with C:=[(107,ztP)] }
theorem zje:KnOk Tryz.prog gmG kDec:=zaH.with (.cons zlz .nil)
theorem dec_ok:yM Tryz.prog gmG 107 cDec:=by
 refine⟨zlz.1,fun w O xs vs hO hr hp hG=>?_⟩;obtain⟨(n:Int),_⟩:=xs;obtain⟨h0,h1⟩: -100000000000000000 < n∧n < 100000000000000000:=hp;by_cases hn:0≤n
 ·exact zlz.2 w O _ vs hO hr ⟨hn,h1⟩ hG
 ·have key:yM Tryz.prog gmG 107 { cDec with pre:=fun x=>[-100000000000000000 < x.1,x.1 < 0] }:=by
   refine zar (K:=kDec) zje Tryz.func107 rfl rfl Tryz.call107 rfl (by decide) (by intro h;cases h) ?_;rintro w0 X hX ⟨(n:Int),_⟩ hp;obtain⟨h0,h1⟩: -100000000000000000 < n∧n < 0:=hp;change AWP _ _ _ _ _ ⟨[(0,⟨i64,n⟩)],[],0⟩ _;refine za (za ?_);refine zaa hX zje rfl ?_ ?_
   ·trivial
   refine za (za ?_);refine zaa hX zje rfl ?_ ?_
   ·trivial
   refine zaf rfl (fun _=>?_) (fun hb=>?_)
   ·have i1:inR .i64 (-n):=zan (by omega) (by omega);have i2:0≤ -n:=by omega
    have i3: -n < 100000000000000000:=by omega
    have hl:(deI (-n)).length≤18:=zet (by omega) (by omega);have i4:1+(deI (-n)).length≤maxLen:=by unfold maxLen;omega
    refine za (za ?_);refine zaa hX zje rfl ?_ ?_
    ·exact⟨i1,i2,i3,i4⟩
    refine zq ⟨.inr rfl,zax rfl trivial rfl rfl ?_⟩;show [45]++deI (-n)=deI n;unfold deI jS;rw[if_neg (by omega),if_pos (by omega),show n.natAbs=(-n).toNat by omega];rfl
   ·have hb:decide (n < 0)=false:=hb;have:=of_decide_eq_false hb;omega
  have hneg:n < 0:=by omega
  exact key.2 w O _ vs hO hr ⟨h0,hneg⟩ hG
theorem bufN {te:zp} {x y:List Nd} (h:x=y):some (OObj.buf te nd x)=some (OObj.buf te nd y):=by rw[h]
def cOver:Ctr:={ args:=[.slice nd,nd],pre:=fun x=>[zg x.1≤1000000],res:=.slice nd,own:=none,out:=fun x=>zqG x.1 x.2.1 }
theorem zsK:yM Tryz.prog gmG 97 cOver:=by
 refine zar (K:=gmK) zaH Tryz.func97 rfl rfl Tryz.call97 rfl (by decide) (by intro h;cases h) ?_;rintro w0 X hX ⟨(r:List Nd),(n:Nd),_⟩ hp;have hl:r.length≤1000000:=hp;change AWP _ _ _ _ _ ⟨[(0,⟨.slice nd,r⟩),(1,⟨nd,n⟩)],[],0⟩ _;have i1:inR .i64 (((r.length:Nat):Int) - 1):=zan (by omega) (by omega);have i2:0+r.length≤1000000000:=by omega
 have i3:zg ([]++r)+1≤1000000000:=by rw[yB];omega
 refine za (za ?_);refine zaa hX zaH rfl ?_ ?_
 ·trivial
 refine za (za ?_);refine zaa hX zaH rfl ?_ ?_
 ·exact i1
 refine za (za ?_);refine zaa hX zaH rfl ?_ ?_
 ·exact i2
 refine za (za ?_);refine zaa hX zaH rfl ?_ ?_
 ·exact i3
 refine qW hX 4 ?_;refine zq ⟨.inr rfl,zax rfl trivial rfl rfl ?_⟩;rfl
def zr9:Ctr:={ args:=[.slice nd,i64],pre:=fun x=>[zg x.1≤1000000,0≤x.2.1,x.2.1≤1000000,∀ n∈(x.1:List Nd),(-1000000≤ndL n∧ndL n≤1000000)∧(-1000000≤ndR n∧ndR n≤1000000)],res:=.slice nd,own:=none,out:=fun x=>zd2 x.1 x.2.1 }
def kMvd:Kn:={ gmK with C:=[(94,cTwo)] }
theorem zc0:KnOk Tryz.prog gmG kMvd:=zaH.with (.cons zrE .nil)
theorem zqL:yM Tryz.prog gmG 148 zr9:=by
 refine zar (K:=kMvd) zc0 Tryz.func148 rfl rfl Tryz.call148 rfl (by decide) (by intro h;cases h) ?_;rintro w0 X hX ⟨(r:List Nd),(b:Int),_⟩ hp;obtain⟨hl,b0,b1,hn⟩:r.length≤1000000∧0≤b∧b≤1000000∧∀ n∈r,(-1000000≤ndL n∧ndL n≤1000000)∧(-1000000≤ndR n∧ndR n≤1000000):=hp;change AWP _ _ _ _ _ ⟨[(0,⟨.slice nd,r⟩),(1,⟨i64,b⟩)],[],0⟩ _;have i2:0+r.length≤1000000000:=by omega
 refine za (za ?_);refine zaa hX zc0 rfl ?_ ?_
 ·trivial
 refine za (za ?_);refine zaa hX zc0 rfl ?_ ?_
 ·exact i2
 refine za (za ?_);refine zaa hX zc0 rfl ?_ ?_
 ·trivial
 (repeat(first|apply zae|apply zab|apply zac|apply zad));refine yU (ι:=Nat) (fun i=>⟨[(1,⟨i64,b⟩),(5,⟨.obuf nd,(0:Nat)⟩),(6,⟨i64,(i:Int)⟩)],[(0,some (.buf 73 nd ((r.take i).map (zcr b)++r.drop i)))],1⟩) (fun i=>i≤r.length) (fun i=>r.length - i) 0 (zm _) ⟨⟨rfl,rfl,rfl,trivial⟩,⟨bufN ?_,trivial⟩,rfl,rfl⟩ ?_
 ·rfl
 intro i hi;have hlen:((r.take i).map (zcr b)++r.drop i).length=r.length:=by rw[zf,jk,yT,xc];omega
 refine za (za ?_);refine zaa hX zc0 rfl ?_ ?_
 ·trivial
 refine zaf rfl (fun hb=>?_) (fun hb=>?_)
 ·have hb:decide ((i:Int) < ((((r.take i).map (zcr b)++r.drop i).length:Nat):Int))=true:=hb;have hb:=of_decide_eq_true hb;rw[hlen]at hb;have hlt:i < r.length:=by omega
  have z0:(0:Int)≤(i:Int):=by omega
  have hdr:r.drop i=r[i]::r.drop (i+1):=yQ hlt;have hpl:((r.take i).map (zcr b)).length=i:=by rw[jk,yT];omega
  obtain⟨⟨q1,q2⟩,⟨q3,q4⟩⟩:=hn r[i] (List.getElem_mem hlt);rw[hdr]at hlen ⊢;have htk:(r.take (i+1)).map (zcr b)=(r.take i).map (zcr b)++ [zcr b r[i]]:=by rw[zF hlt,xu];rfl
  generalize (r.take i).map (zcr b)=p at *;generalize hdq:r.drop (i+1)=q at *;generalize r[i]=n at *;have z1:(i:Int) < (((p++n::q).length:Nat):Int):=by rw[hlen];omega
  have z2:((i:Int)).toNat < (p++n::q).length:=by rw[hlen];omega
  have hget:(p++n::q).getD ((i:Int)).toNat zNd=n:=by
   have:=zb6 (l:=p) (m:=n::q) (z:=zNd) (j:=0);rw[zH,show i=p.length+0 by omega,this];rfl
  have hset:∀ x,(p++n::q).set ((i:Int)).toNat x=p++x::q:=fun x=>by
   rw[zH,jo _ _ (by omega),show i - p.length=0 by omega];rfl
  have i3:inR .i64 (ndL n+b):=zan (by omega) (by omega);have i4:inR .i64 (ndR n+b):=zan (by omega) (by omega);have i3':inR .i64 (ndL ((p++n::q).getD ((i:Int)).toNat zNd)+b):=by rw[hget];exact i3
  refine za (za ?_);refine zaa hX zc0 rfl ?_ ?_
  ·repeat'(first|exact trivial|assumption|exact z0|exact z1|exact z2|(refine⟨?_,?_⟩)|(intro _)|exact zb rfl|exact zi _|(simp_all [allP];done))
  refine jh (σ':=⟨[(1,⟨i64,b⟩),(5,⟨.obuf nd,(0:Nat)⟩),(6,⟨i64,(i:Int)⟩)],[(0,some (.buf 73 nd (p++(if 8≤ndK n∧ndK n≤17 then setL n (ndL n+b) else n)::q)))],1⟩) ?_ ?_
  ·have hq:(bif decide (ndK ((p++n::q).getD ((i:Int)).toNat zNd)≥8) then decide (ndK ((p++n::q).getD ((i:Int)).toNat zNd)≤17) else false)=decide (8≤ndK n∧ndK n≤17):=by
    rw[hget,zc2,yu,zd,decide_eq_true_iff,decide_eq_true_iff,decide_eq_true_iff]
   refine zaf rfl (fun hc=>?_) (fun hc=>?_)
   ·have hc:=of_decide_eq_true (hq.symm.trans hc);refine za (za ?_);refine zaa hX zc0 rfl ?_ ?_
    ·repeat'(first|exact trivial|assumption|exact z0|exact z1|exact z2|exact i3'|(refine⟨?_,?_⟩)|(intro _)|exact zb rfl|exact zi _|(simp_all [allP];done))
    refine⟨⟨rfl,rfl,rfl,trivial⟩,⟨bufN ?_,trivial⟩,rfl,rfl⟩;refine (hset _).trans ?_;rw[if_pos hc];show p++(setL ((p++n::q).getD ((i:Int)).toNat zNd) (ndL ((p++n::q).getD ((i:Int)).toNat zNd)+b))::q=_;rw[hget]
   ·have hc:=of_decide_eq_false (hq.symm.trans hc);apply zab;rw[if_neg hc];exact⟨⟨rfl,rfl,rfl,trivial⟩,⟨rfl,trivial⟩,rfl,rfl⟩
  generalize hn1:(if 8≤ndK n∧ndK n≤17 then setL n (ndL n+b) else n)=n1;have hK:ndK n1=ndK n:=by rw[<-hn1];split<;>rfl
  have hR:ndR n1=ndR n:=by rw[<-hn1];split<;>rfl
  have hlen1:(p++n1::q).length=r.length:=by rw[<-hlen];simp
  have y1:(i:Int) < (((p++n1::q).length:Nat):Int):=by rw[hlen1];omega
  have y2:((i:Int)).toNat < (p++n1::q).length:=by rw[hlen1];omega
  have hget1:(p++n1::q).getD ((i:Int)).toNat zNd=n1:=by
   have:=zb6 (l:=p) (m:=n1::q) (z:=zNd) (j:=0);rw[zH,show i=p.length+0 by omega,this];rfl
  have hset1:∀ x,(p++n1::q).set ((i:Int)).toNat x=p++x::q:=fun x=>by
   rw[zH,jo _ _ (by omega),show i - p.length=0 by omega];rfl
  have i4':inR .i64 (ndR ((p++n1::q).getD ((i:Int)).toNat zNd)+b):=by rw[hget1,hR];exact i4
  refine za (za ?_);refine zaa hX zc0 rfl ?_ ?_
  ·repeat'(first|exact trivial|assumption|exact z0|exact y1|exact y2|(refine⟨?_,?_⟩)|(intro _)|exact zb rfl|exact zi _|(simp_all [allP];done))
  have hmv:zcr b n=if two (ndK n)=true then zcc n1 (ndL n1) (ndR n1+b) else n1:=by
   rw[<-hn1];unfold zcr;obtain⟨k,c,L,R,rest⟩:=n;by_cases h8:8≤k∧k≤17
   ·rw[if_pos h8,if_pos (c:=8≤ndK (k,c,L,R,rest)∧ndK (k,c,L,R,rest)≤17) h8];cases ht:two k with
    |true=>rw[if_pos (c:=two (ndK (k,c,L,R,rest))=true) ht];rfl
    |false=>rw[if_neg (c:=two (ndK (k,c,L,R,rest))=true) (by show ¬ two k=true;rw[ht];decide)];rfl
   ·rw[if_neg h8,if_neg (c:=8≤ndK (k,c,L,R,rest)∧ndK (k,c,L,R,rest)≤17) h8];cases ht:two k with
    |true=>rw[if_pos (c:=two (ndK (k,c,L,R,rest))=true) ht];rfl
    |false=>rw[if_neg (c:=two (ndK (k,c,L,R,rest))=true) (by show ¬ two k=true;rw[ht];decide)];rfl
  have hq:two (ndK ((p++n1::q).getD ((i:Int)).toNat zNd))=two (ndK n):=by rw[hget1,hK]
  refine zaf rfl (fun hc=>?_) (fun hc=>?_)
  ·have hc:=hq.symm.trans hc;refine za (za ?_);refine zaa hX zc0 rfl ?_ ?_
   ·repeat'(first|exact trivial|assumption|exact z0|exact y1|exact y2|exact i4'|(refine⟨?_,?_⟩)|(intro _)|exact zb rfl|exact zi _|(simp_all [allP];done))
   refine za (za ?_);refine zaa hX zc0 rfl ?_ ?_
   ·exact zaU (by omega)
   refine⟨i+1,hlt,by omega,⟨rfl,rfl,zdy _,trivial⟩,⟨bufN ?_,trivial⟩,rfl,rfl⟩;refine (hset1 _).trans ?_;rw[htk,hmv,if_pos hc,zs,hdq];show p++(zcc ((p++n1::q).getD ((i:Int)).toNat zNd) (ndL ((p++n1::q).getD ((i:Int)).toNat zNd)) (ndR ((p++n1::q).getD ((i:Int)).toNat zNd)+b))::q=_;rw[hget1];rfl
  ·have hc:=hq.symm.trans hc;apply zab;refine za (za ?_);refine zaa hX zc0 rfl ?_ ?_
   ·exact zaU (by omega)
   refine⟨i+1,hlt,by omega,⟨rfl,rfl,zdy _,trivial⟩,⟨bufN ?_,trivial⟩,rfl,rfl⟩;rw[htk,hmv,if_neg (by rw[hc];decide),zs,hdq];rfl
 ·have hb:decide ((i:Int) < ((((r.take i).map (zcr b)++r.drop i).length:Nat):Int))=false:=hb;have hb:=of_decide_eq_false hb;rw[hlen]at hb;obtain rfl:i=r.length:=by omega
  apply zad;refine qW hX 5 ?_;refine za (za ?_);refine zaa hX zc0 rfl ?_ ?_
  ·trivial
  refine zq ⟨.inr rfl,zax rfl trivial rfl rfl ?_⟩;show (r.take r.length).map (zcr b)++r.drop r.length=zd2 r b;rw[yS,jI,zI];rfl
def cBoth:Ctr:={ args:=[.slice nd,.slice nd,nd],pre:=fun x=>[1≤zg x.1,zg x.1≤100000,zg x.2.1≤100000,∀ n∈(x.2.1:List Nd),(-1000000≤ndL n∧ndL n≤1000000)∧(-1000000≤ndR n∧ndR n≤1000000)],res:=.slice nd,own:=none,out:=fun x=>zry x.1 x.2.1 x.2.2.1 }
def kBth:Kn:={ gmK with C:=[(148,zr9)] }
theorem zfb:KnOk Tryz.prog gmG kBth:=zaH.with (.cons zqL .nil)
theorem ztT:yM Tryz.prog gmG 95 cBoth:=by
 refine zar (K:=kBth) zfb Tryz.func95 rfl rfl Tryz.call95 rfl (by decide) (by intro h;cases h) ?_;rintro w0 X hX ⟨(a:List Nd),(c:List Nd),(n:Nd),_⟩ hp;obtain⟨h1,hl,hl2,hn⟩:1≤a.length∧a.length≤100000∧c.length≤100000∧∀ n∈c,(-1000000≤ndL n∧ndL n≤1000000)∧(-1000000≤ndR n∧ndR n≤1000000):=hp;change AWP _ _ _ _ _ ⟨[(0,⟨.slice nd,a⟩),(1,⟨.slice nd,c⟩),(2,⟨nd,n⟩)],[],0⟩ _;have i1:inR .i64 (((a.length:Nat):Int) - 1):=zan (by omega) (by omega);have i2:inR .i64 (((a.length:Nat):Int)+((c.length:Nat):Int)):=zan (by omega) (by omega);have i3:inR .i64 (((a.length:Nat):Int)+((c.length:Nat):Int) - 1):=zan (by omega) (by omega);have i4:0+a.length≤1000000000:=by omega
 have i5:c.length≤1000000:=by omega
 have i6:(0:Int)≤((a.length:Nat):Int):=by omega
 have i7:((a.length:Nat):Int)≤1000000:=by omega
 have hml:(zd2 c ((a.length:Nat):Int)).length=c.length:=by unfold zd2;rw[jk]
 have i8:zg ([]++a)+(zd2 c ((a.length:Nat):Int)).length≤1000000000:=by rw[yB];omega
 have i9:zg ([]++a++zd2 c ((a.length:Nat):Int))+1≤1000000000:=by rw[yB,zf];omega
 refine za (za ?_);refine zaa hX zfb rfl ?_ ?_
 ·trivial
 refine za (za ?_);refine zaa hX zfb rfl ?_ ?_
 ·exact i1
 refine za (za ?_);refine zaa hX zfb rfl ?_ ?_
 ·exact⟨i2,i3⟩
 refine za (za ?_);refine zaa hX zfb rfl ?_ ?_
 ·exact i4
 refine za (za ?_);refine zaa hX zfb rfl ?_ ?_
 ·exact⟨i5,i6,i7,hn,i8⟩
 refine za (za ?_);refine zaa hX zfb rfl ?_ ?_
 ·exact i9
 refine qW hX 6 ?_;refine zq ⟨.inr rfl,zax rfl trivial rfl rfl ?_⟩;rfl
abbrev Mk:=List Int×Int×Int×Int×Unit
def mkD (m:Mk):List Int:=m.1
def mkU (m:Mk):Int:=m.2.1
def mkN (m:Mk):Int:=m.2.2.1
def mkS (m:Mk):Int:=m.2.2.2.1
def mkUp (m:Mk):Mk:=(mkD m,mkU m+1,mkN m,mkS m,())
def zaj (m:Mk) (n:Int):Int×Mk:=(if mkU m+1 > (((mkD m).length:Nat):Int) then 0 else (mkD m).getD (mkU m).toNat 0 % n,mkUp m)
def zrw:RCtr:={ self:=mkr,args:=[i64],inv:=fun _ _=>True,pre:=fun m xs=>[0≤mkU m,mkU m≤1000000,0 < xs.1,xs.1≤1000000000],res:=i64,out:=fun m xs=>(zaj m xs.1).1,post:=fun m xs=>(zaj m xs.1).2 }
def kMd:Kn:={ gmK with C:=[(40,cMod)] }
theorem ziD:KnOk Tryz.prog gmG kMd:=zaH.with (.cons mod_ok .nil)
theorem zla:zeY Tryz.prog gmG 92 zrw:=by
 refine zdU (K:=kMd) ziD Tryz.func92 rfl rfl Tryz.call92 rfl (by decide) (fun w w' g hg h hk=>trivial) ?_;rintro w0 O g hX hinv ⟨(d:List Int),(u:Int),(nm:Int),(sz:Int),_⟩ ⟨(n:Int),_⟩ hp;obtain⟨h0,h1,h2,h3⟩:0≤u∧u≤1000000∧0 < n∧n≤1000000000:=hp;change AWP _ _ _ _ _ ⟨[(0,⟨.optr mkr,⟨0,mkr,.here⟩⟩),(1,⟨i64,n⟩)],[(0,some (.box mkr (d,u,nm,sz,())))],1⟩ _;have i1:inR .i64 (u+1):=zan (by omega) (by omega);have i2:inR .i64 (u+1 - 1):=zan (by omega) (by omega);have i3:(0:Int)≤u+1 - 1:=by omega
 refine za (za ?_);refine zaa hX ziD rfl ?_ ?_
 ·trivial
 refine za (za ?_);refine zaa hX ziD rfl ?_ ?_
 ·exact i1
 (repeat(first|apply zae|apply zab|apply zac|apply zad));refine kV dM hX ziD 9 (by kernel_rfl) rfl rfl ?_ ?_ ?_
 ·trivial
 ·trivial
 refine zaf rfl (fun hb=>?_) (fun hb=>?_)
 ·have hb:decide (u+1 > ((d.length:Nat):Int))=true:=hb;have hb:=of_decide_eq_true hb;refine za (za ?_);refine zaa hX ziD rfl ?_ ?_
  ·trivial
  refine zq ⟨.inr rfl,rfl,zax rfl trivial rfl rfl ?_⟩;exact (if_pos (show mkU (d,u,nm,sz,())+1 > (((mkD (d,u,nm,sz,())).length:Nat):Int) from hb)).symm
 ·have hb:decide (u+1 > ((d.length:Nat):Int))=false:=hb;have hb:=of_decide_eq_false hb;apply zab;have i4:u+1 - 1 < ((d.length:Nat):Int):=by omega
  have i5:(u+1 - 1).toNat < d.length:=by omega
  (repeat(first|apply zae|apply zab|apply zac|apply zad));refine kV dM hX ziD 12 (by kernel_rfl) rfl rfl ?_ ?_ ?_
  ·repeat'(first|exact trivial|assumption|exact i2|exact i3|exact i4|exact i5|exact h2|exact h3|(refine⟨?_,?_⟩)|(intro _)|exact zb rfl|exact zi _|(simp_all [allP];done))
  ·repeat'(first|exact trivial|assumption|exact i2|exact i3|exact i4|exact i5|exact h2|exact h3|(refine⟨?_,?_⟩)|(intro _)|exact zb rfl|exact zi _|(simp_all [allP];done))
  refine zq ⟨.inr rfl,rfl,zax rfl trivial rfl rfl ?_⟩;show d.getD (u+1 - 1).toNat 0 % n=_;refine Eq.trans ?_ (if_neg (show ¬ mkU (d,u,nm,sz,())+1 > (((mkD (d,u,nm,sz,())).length:Nat):Int) from hb)).symm;rw[show u+1 - 1=u by omega];rfl
theorem zaF (m:Mk) {n:Int} (h:0 < n):0≤(zaj m n).1∧(zaj m n).1 < n:=by
 unfold zaj;split
 ·exact⟨xC _,h⟩
 ·exact⟨Int.emod_nonneg _ (by omega),um _ h⟩
theorem zaW (m:Mk) (n:Int):mkU (zaj m n).2=mkU m+1:=rfl
theorem zsW (m:Mk) (n:Int):mkN (zaj m n).2=mkN m:=rfl
def mRis (lo hi:Int):Nat->Mk->Int->List Int->List Int×Mk
 |0,m,_,acc=>(acc,m)
 |k+1,m,v,acc=>if v≤hi then mRis lo hi k (zaj m 3).2 (v+1+(zaj m 3).1) (if v≠0∨0≤lo then acc++ [v] else acc) else (acc,m)
def orHi (hi:Int) (p:List Int×Mk):List Int×Mk:=(if p.1.length=0 then [hi] else p.1,p.2)
def zaI (m:Mk) (lo hi:Int):List Int×Mk:=
 let p:=zaj m 4
 let q:=zaj p.2 (hi - lo+1)
 orHi hi (mRis lo hi (1+p.1).toNat q.2 (lo+q.1) [])
def zlG:RCtr:={ self:=mkr,args:=[i64,i64],inv:=fun _ _=>True,pre:=fun m xs=>[0≤mkU m,mkU m≤900000,-1000≤xs.1,xs.1≤xs.2.1,xs.2.1≤1000],res:=ints,out:=fun m xs=>(zaI m xs.1 xs.2.1).1,post:=fun m xs=>(zaI m xs.1 xs.2.1).2 }
def kRi:Kn:={ gmK with R:=[(92,zrw)] }
theorem zcT:KnOk Tryz.prog gmG kRi:=zaH.withR (.cons zla (fun _ _=>trivial) .nil)
theorem zj3:zeY Tryz.prog gmG 96 zlG:=by
 refine zdU (K:=kRi) zcT Tryz.func96 rfl rfl Tryz.call96 rfl (by decide) (fun w w' g hg h hk=>trivial) ?_;rintro w0 O g hX hinv ⟨(d:List Int),(u:Int),(nm:Int),(sz:Int),_⟩ ⟨(lo:Int),(hi:Int),_⟩ hp;obtain⟨h0,h1,h2,h3,h4⟩:0≤u∧u≤900000∧ -1000≤lo∧lo≤hi∧hi≤1000:=hp;obtain⟨m,hm⟩:∃ m:Mk,m=(d,u,nm,sz,()):=⟨_,rfl⟩;rw[<-hm];have h0:0≤mkU m:=by rw[hm];exact h0
 have h1:mkU m≤900000:=by rw[hm];exact h1
 change AWP _ _ _ _ _ ⟨[(0,⟨.optr mkr,⟨0,mkr,.here⟩⟩),(1,⟨i64,lo⟩),(2,⟨i64,hi⟩)],[(0,some (.box mkr m))],1⟩ _;clear hm;have hc:=zaF m (n:=4) (by decide);have hu1:=zaW m 4;obtain⟨c,hc0⟩:∃ k:Nat,(zaj m 4).1=(k:Int):=⟨(zaj m 4).1.toNat,by omega⟩;have ha1:mkU m≤1000000:=by omega
 have i1:inR .i64 (1+(zaj m 4).1):=zan (by omega) (by omega);refine za (za ?_);refine zaa hX zcT rfl ?_ ?_
 ·trivial
 refine za (za ?_);refine zaa hX zcT rfl ?_ ?_
 ·repeat'(first|exact trivial|assumption|exact h0|exact ha1|exact i1|(refine⟨?_,?_⟩)|(intro _)|exact zb rfl|exact zi _|(simp_all [allP];done))
 have hN0:1+(zaj m 4).1=((c+1:Nat):Int):=by omega
 have e0:orHi hi (mRis lo hi (c+1) (zaj (zaj m 4).2 (hi - lo+1)).2 (lo+(zaj (zaj m 4).2 (hi - lo+1)).1) [])=zaI m lo hi:=by
  unfold zaI;simp only[hN0,zH]
 have hd1:=zaF (zaj m 4).2 (n:=hi - lo+1) (by omega);have hu2:=zaW (zaj m 4).2 (hi - lo+1);have j1:inR .i64 (hi - lo):=zan (by omega) (by omega);have j2:inR .i64 (hi - lo+1):=zan (by omega) (by omega);have j3:0≤mkU (zaj m 4).2:=by omega
 have j4:mkU (zaj m 4).2≤1000000:=by omega
 have j5:0 < hi - lo+1:=by omega
 have j6:hi - lo+1≤1000000000:=by omega
 have j7:inR .i64 (lo+(zaj (zaj m 4).2 (hi - lo+1)).1):=zan (by omega) (by omega);refine za (za ?_);refine zaa hX zcT rfl ?_ ?_
 ·repeat'(first|exact trivial|assumption|exact j1|exact j2|exact j3|exact j4|exact j5|exact j6|exact j7|(refine⟨?_,?_⟩)|(intro _)|exact zb rfl|exact zi _|(simp_all [allP];done))
 have u2:mkU (zaj (zaj m 4).2 (hi - lo+1)).2=mkU m+2:=by omega
 have v2:lo≤lo+(zaj (zaj m 4).2 (hi - lo+1)).1∧lo+(zaj (zaj m 4).2 (hi - lo+1)).1≤hi:=by omega
 refine za (za ?_);refine zaa hX zcT rfl ?_ ?_
 ·trivial
 refine AWP.nilBuf hX 9 3 i64 rfl rfl rfl ?_;refine za (za ?_);refine zaa hX zcT rfl ?_ ?_
 ·trivial
 have hcl:c+1≤4:=by omega
 refine zaq (σ':=⟨[(0,⟨.optr mkr,⟨0,mkr,.here⟩⟩),(1,⟨i64,lo⟩),(2,⟨i64,hi⟩),(7,⟨i64,((c+1:Nat):Int)⟩),(8,⟨i64,lo+(zaj (zaj m 4).2 (hi - lo+1)).1⟩),(9,⟨.obuf i64,(1:Nat)⟩),(10,⟨i64,(0:Int)⟩)],[(0,some (.box mkr (zaj (zaj m 4).2 (hi - lo+1)).2)),(1,some (.buf 3 i64 []))],2⟩) ⟨⟨rfl,rfl,rfl,vI64 hN0,rfl,rfl,rfl,trivial⟩,⟨rfl,rfl,trivial⟩,rfl,rfl⟩ ?_;obtain⟨R,hRR⟩:∃ R,R=zaI m lo hi:=⟨_,rfl⟩;rw[<-hRR]at e0;generalize (zaj (zaj m 4).2 (hi - lo+1)).2=m2 at *;generalize lo+(zaj (zaj m 4).2 (hi - lo+1)).1=v at *;clear hc hu1 hc0 ha1 i1 hN0 hd1 hu2 j1 j2 j3 j4 j5 j6 j7;apply zac;refine yU (ι:=Nat×Mk×Int×List Int) (fun x=>⟨[(0,⟨.optr mkr,⟨0,mkr,.here⟩⟩),(1,⟨i64,lo⟩),(2,⟨i64,hi⟩),(7,⟨i64,((c+1:Nat):Int)⟩),(8,⟨i64,x.2.2.1⟩),(9,⟨.obuf i64,(1:Nat)⟩),(10,⟨i64,(((c+1) - x.1:Nat):Int)⟩)],[(0,some (.box mkr x.2.1)),(1,some (.buf 3 i64 x.2.2.2))],2⟩) (fun x=>orHi hi (mRis lo hi x.1 x.2.1 x.2.2.1 x.2.2.2)=R∧x.1≤c+1∧mkU x.2.1=mkU m+2+((c+1 - x.1:Nat):Int)∧(lo≤x.2.2.1∧x.2.2.1≤hi+3)∧x.2.2.2.length≤4 - x.1) (fun x=>x.1) (c+1,m2,v,[]) ⟨e0,zk _,?_,⟨v2.1,?_⟩,zm _⟩ ⟨⟨rfl,rfl,rfl,rfl,rfl,rfl,vI64 ?_,trivial⟩,⟨rfl,rfl,trivial⟩,rfl,rfl⟩ ?_
 ·show mkU m2=mkU m+2+((c+1 - (c+1):Nat):Int);omega
 ·show v≤hi+3;omega
 ·show (0:Int)=((c+1 - (c+1):Nat):Int);omega
 rintro ⟨k,mk,w,acc⟩ ⟨hR,hk,hu,⟨hw1,hw2⟩,hacc⟩;have hR:orHi hi (mRis lo hi k mk w acc)=R:=hR;have hk:k≤c+1:=hk;have hu:mkU mk=mkU m+2+((c+1 - k:Nat):Int):=hu;have hw1:lo≤w:=hw1;have hw2:w≤hi+3:=hw2;have hacc:acc.length≤4 - k:=hacc;clear e0 u2 v2;change AWP _ _ _ _ _ ⟨[(0,⟨.optr mkr,⟨0,mkr,.here⟩⟩),(1,⟨i64,lo⟩),(2,⟨i64,hi⟩),(7,⟨i64,((c+1:Nat):Int)⟩),(8,⟨i64,w⟩),(9,⟨.obuf i64,(1:Nat)⟩),(10,⟨i64,(((c+1) - k:Nat):Int)⟩)],[(0,some (.box mkr mk)),(1,some (.buf 3 i64 acc))],2⟩ _;have hq:(bif decide ((((c+1) - k:Nat):Int) < ((c+1:Nat):Int)) then decide (w≤hi) else false)=decide (0 < k∧w≤hi):=by
  rw[zc2,yu,zd,decide_eq_true_iff,decide_eq_true_iff,decide_eq_true_iff];omega
 refine za (za ?_);refine zaa hX zcT rfl ?_ ?_
 ·repeat'(first|exact trivial|assumption|(refine⟨?_,?_⟩)|(intro _)|exact zb rfl|exact zi _|(simp_all [allP];done))
 refine zaf rfl (fun hb=>?_) (fun hb=>?_)
 ·have hb:=of_decide_eq_true (hq.symm.trans hb);obtain⟨hk0,hwh⟩:=hb;obtain⟨k,rfl⟩:∃ j,k=j+1:=⟨k - 1,by omega⟩;have hR2:orHi hi (mRis lo hi k (zaj mk 3).2 (w+1+(zaj mk 3).1) (if w≠0∨0≤lo then acc++ [w] else acc))=R:=by
   rw[<-hR]
   conv=>rhs;rw[mRis,if_pos hwh]
  have hp3:=zaF mk (n:=3) (by decide);have hu3:=zaW mk 3;have q1:0≤mkU mk:=by omega
  have q2:mkU mk≤1000000:=by omega
  have q3:inR .i64 (w+1):=zan (by omega) (by omega);have q4:inR .i64 (w+1+(zaj mk 3).1):=zan (by omega) (by omega);have q5:inR .i64 ((((c+1) - (k+1):Nat):Int)+1):=zan (by omega) (by omega);have q6:acc.length+1≤1000000000:=by omega
  have hend:((((c+1) - (k+1):Nat):Int)+1)=(((c+1) - k:Nat):Int):=by omega
  have hq2:(bif (!(w==0)) then true else decide (lo≥0))=decide (w≠0∨0≤lo):=by
   rw[b_or,yu,zZ,decide_eq_true_iff,decide_eq_true_iff,zw,beq_eq_false_iff_ne]
  refine za (za ?_);refine zaa hX zcT rfl ?_ ?_
  ·repeat'(first|exact trivial|assumption|(refine⟨?_,?_⟩)|(intro _)|exact zb rfl|exact zi _|(simp_all [allP];done))
  refine zaf rfl (fun hc=>?_) (fun hc=>?_)
  ·have hc:=of_decide_eq_true (hq2.symm.trans hc);rw[if_pos hc]at hR2;refine za (za ?_);refine zaa hX zcT rfl ?_ ?_
   ·exact q6
   refine za (za ?_);refine zaa hX zcT rfl ?_ ?_
   ·repeat'(first|exact trivial|assumption|exact q1|exact q2|exact q3|exact q4|(refine⟨?_,?_⟩)|(intro _)|exact zb rfl|exact zi _|(simp_all [allP];done))
   refine za (za ?_);refine zaa hX zcT rfl ?_ ?_
   ·exact q5
   refine⟨(k,(zaj mk 3).2,w+1+(zaj mk 3).1,acc++ [w]),⟨hR2,by show k≤c+1;omega,?_,⟨?_,?_⟩,?_⟩,by show k < k+1;omega,⟨rfl,rfl,rfl,rfl,rfl,rfl,vI64 hend,trivial⟩,⟨rfl,rfl,trivial⟩,rfl,rfl⟩
   ·show mkU (zaj mk 3).2=mkU m+2+((c+1 - k:Nat):Int);omega
   ·show lo≤w+1+(zaj mk 3).1;omega
   ·show w+1+(zaj mk 3).1≤hi+3;omega
   ·show (acc++ [w]).length≤4 - k;rw[zf,yp];omega
  ·have hc:=of_decide_eq_false (hq2.symm.trans hc);rw[if_neg hc]at hR2;apply zab;refine za (za ?_);refine zaa hX zcT rfl ?_ ?_
   ·repeat'(first|exact trivial|assumption|exact q1|exact q2|exact q3|exact q4|(refine⟨?_,?_⟩)|(intro _)|exact zb rfl|exact zi _|(simp_all [allP];done))
   refine za (za ?_);refine zaa hX zcT rfl ?_ ?_
   ·exact q5
   refine⟨(k,(zaj mk 3).2,w+1+(zaj mk 3).1,acc),⟨hR2,by show k≤c+1;omega,?_,⟨?_,?_⟩,?_⟩,by show k < k+1;omega,⟨rfl,rfl,rfl,rfl,rfl,rfl,vI64 hend,trivial⟩,⟨rfl,rfl,trivial⟩,rfl,rfl⟩
   ·show mkU (zaj mk 3).2=mkU m+2+((c+1 - k:Nat):Int);omega
   ·show lo≤w+1+(zaj mk 3).1;omega
   ·show w+1+(zaj mk 3).1≤hi+3;omega
   ·show acc.length≤4 - k;omega
 ·have hb:=of_decide_eq_false (hq.symm.trans hb);have hR3:(mRis lo hi k mk w acc)=(acc,mk):=by
   cases k with
   |zero=>rfl
   |succ k=>rw[mRis,if_neg (by omega)]
  rw[hR3]at hR;apply zad;have q6:acc.length+1≤1000000000:=by omega
  have hq3:(((acc.length:Nat):Int)==0)=decide (acc.length=0):=by
   rw[yu,beq_iff_eq,decide_eq_true_iff];omega
  refine za (za ?_);refine zaa hX zcT rfl ?_ ?_
  ·trivial
  refine zaf rfl (fun hc=>?_) (fun hc=>?_)
  ·have hc:=of_decide_eq_true (hq3.symm.trans hc);refine za (za ?_);refine zaa hX zcT rfl ?_ ?_
   ·exact q6
   refine qW hX 9 ?_;refine za (za ?_);refine zaa hX zcT rfl ?_ ?_
   ·trivial
   refine zq ⟨.inr rfl,?_,zax rfl trivial rfl rfl ?_⟩
   ·show some (OObj.box mkr mk)=some (OObj.box mkr (zaI m lo hi).2);rw[<-hRR, <-hR];rfl
   ·show acc++ [hi]=(zaI m lo hi).1;rw[<-hRR, <-hR];unfold orHi;rw[if_pos hc,jW.1 hc];rfl
  ·have hc:=of_decide_eq_false (hq3.symm.trans hc);apply zab;refine qW hX 9 ?_;refine za (za ?_);refine zaa hX zcT rfl ?_ ?_
   ·trivial
   refine zq ⟨.inr rfl,?_,zax rfl trivial rfl rfl ?_⟩
   ·show some (OObj.box mkr mk)=some (OObj.box mkr (zaI m lo hi).2);rw[<-hRR, <-hR];rfl
   ·show acc=(zaI m lo hi).1;rw[<-hRR, <-hR];unfold orHi;rw[if_neg hc]
section
variable {P:Program} {w0:zj} {X:Ownr} {n:Nat} {σ:AS} {Q:Exit->AS->Prop} {ops:Array Oper}
theorem AL.guardU (j s:Nat) (b:Bool) (t:Ty) (y:t.T) {z:Bool} {o:Oper} {rest:List Oper} (hg:o.guard=some (j,b)) (hd:(ops[j]?).bind (·.dst)=some s) (hs:Frame.get σ.F s=⟨.cond .bool,(false,z)⟩) (hsn:Nat.blt s n=true) {d:Nat} (hdst:o.dst=some d) (hdn:Nat.blt d n=true) (h:AL P w0 X n ops rest ⟨(d,⟨.cond t,(false,y)⟩)::σ.F,σ.E,σ.nx⟩ Q) (hb:bnd t y=0:=by rfl):AL P w0 X n ops (o::rest) σ Q:=by
 intro β a w hsim;have hv:a.tmps.getD s undef=undef:=by
  have h2:=hsim.fr s;rw[hs]at h2;exact h2.2 rfl
 have hsz:s < a.tmps.size:=by rw[hsim.sz];simpa using hsn
 have hy:yielded ops a.tmps j=none:=by
  unfold yielded;rw[hd];have:a.tmps[s]? =some undef:=by
   rw[zN,yj hsz]at hv;rw[yj hsz];exact congrArg some hv
  show (match (a.tmps[s]?) with
   |some (.bool b)=>some b
   |_=>none)=none
  rw[this];rfl
 have hw:¬ zD o (yielded ops a.tmps)=true:=by simp[zD,hg,hy]
 show if zD o (yielded ops a.tmps)=true then _ else _
 rw[if_neg hw];refine⟨fun f _=>zey _ f,?_⟩;rw[hdst];exact h _ _ _ (hsim.put (zO _ _) (v:=⟨.cond t,(false,y)⟩) ⟨fun h=>(by cases h),fun _=>rfl⟩ (by rw[show V.bound ⟨.cond t,(false,y)⟩=bnd t y from rfl,hb];exact zm _) (by simpa using hdn))
end
def zcY (k:Int) (m:Mk):Bool×Mk:=if k=8 then (mkN m==0,m) else if k=6 then ((zaj m 2).1==0,(zaj m 2).2) else (false,m)
def zd7 (k:Int) (m:Mk) (ids:Int):Int×Mk:=if k≠1∧k≠5 then zaj m ids else (0,m)
def zgw (k c:Int) (m:Mk):Nd×Mk:=
 if k=1 then let p:=zaj m 12;let q:=zaj p.2 20;((1,c,0,0,1+p.1,q.1,[],[],()),q.2)
 else if k=2 then let p:=zaj m 4;let q:=zaj p.2 (1+p.1);((2,c,0,0,1+p.1,q.1,[],[],()),q.2)
 else if k=3 then let p:=zaI m 1 4;((3,c,0,0,0,0,p.1,[],()),p.2)
 else if k=4 then let p:=zaI m (-4) 7;((4,c,0,0,0,0,p.1,[],()),p.2)
 else if k=5 then let p:=zaI m 0 6;((5,c,0,0,0,0,p.1,[],()),p.2)
 else if k=6 then let p:=zaI m 1 4;((6,c,0,0,0,0,p.1,[],()),p.2)
 else let p:=zaj m 3;let q:=zaj p.2 2;let r:=zaj q.2 7;let s:=zaj r.2 2;((k,c,s.1,0,(if q.1=1 then -(1+p.1) else 1+p.1),r.1,[],[],()),s.2)
def lfK (k:Int) (b:Bool):Int:=bif b then 1 else k
def ziz (k:Int) (m:Mk) (ids:Int):Nd×Mk:=
 let q:=zcY k m
 if k=8∧mkN q.2 > 0 then let r:=zaj q.2 (mkN q.2);((18,0,0,0,0,0,[],[110]++deI r.1,()),r.2)
 else zgw (lfK k q.1) (zd7 (lfK k q.1) q.2 ids).1 (zd7 (lfK k q.1) q.2 ids).2
def zc9 (m:Mk) (ids:Int):Nd×Mk:=ziz (1+(zaj m 8).1) (zaj m 8).2 ids
def zsb:RCtr:={ self:=mkr,args:=[i64],inv:=fun _ _=>True,pre:=fun m xs=>[0≤mkU m,mkU m≤800000,0≤mkN m,mkN m≤1000000,0 < xs.1,xs.1≤1000000],res:=nd,out:=fun m xs=>(zc9 m xs.1).1,post:=fun m xs=>(zc9 m xs.1).2 }
def kMl:Kn:={ gmK with C:=[(107,cDec)],R:=[(92,zrw),(96,zlG)] }
theorem zaA:KnOk Tryz.prog gmG kMl:={ zaH.with (.cons dec_ok .nil) with r:=.cons zla (fun _ _=>trivial) (.cons zj3 (fun _ _=>trivial) .nil) }
abbrev sLf (m:Mk) (ids k:Int) (n:Nd):AS:=⟨[(0,⟨.optr mkr,⟨0,mkr,.here⟩⟩),(1,⟨i64,ids⟩),(4,⟨.optr nd,⟨1,nd,.here⟩⟩),(5,⟨i64,k⟩),(6,⟨.optr nd,⟨2,nd,.here⟩⟩)],[(0,some (.box mkr m)),(1,some (.box nd zNd)),(2,some (.box nd n))],3⟩
theorem zqM:zeY Tryz.prog gmG 93 zsb:=by
 refine zdU (K:=kMl) zaA Tryz.func93 rfl rfl Tryz.call93 rfl (by decide) (fun w w' g hg h hk=>trivial) ?_;rintro w0 O g hX hinv (m:Mk) ⟨(ids:Int),_⟩ hp;obtain⟨h0,h1,h2,h3,h4,h5⟩:0≤mkU m∧mkU m≤800000∧0≤mkN m∧mkN m≤1000000∧0 < ids∧ids≤1000000:=hp;change AWP _ _ _ _ _ ⟨[(0,⟨.optr mkr,⟨0,mkr,.here⟩⟩),(1,⟨i64,ids⟩)],[(0,some (.box mkr m))],1⟩ _;have a1:mkU m≤1000000:=by omega
 have hk:=zaF m (n:=8) (by decide);have hu1:=zaW m 8;have hn1:=zsW m 8;have a2:inR .i64 (1+(zaj m 8).1):=zan (by omega) (by omega);refine za (za ?_);refine zaa hX zaA rfl ?_ ?_
 ·trivial
 refine za (za ?_);refine zaa hX zaA rfl ?_ ?_
 ·repeat'(first|exact trivial|assumption|exact h0|exact a1|exact a2|(refine⟨?_,?_⟩)|(intro _)|exact zb rfl|exact zi _|(simp_all [allP];done))
 refine za (za ?_);refine zaa hX zaA rfl ?_ ?_
 ·trivial
 obtain⟨R,hRR⟩:∃ R,R=zc9 m ids:=⟨_,rfl⟩;have hR:R=ziz (1+(zaj m 8).1) (zaj m 8).2 ids:=hRR;refine zaq (σ':=sLf (zaj m 8).2 ids (1+(zaj m 8).1) (1+(zaj m 8).1,0,0,0,0,0,[],[],())) ⟨⟨rfl,rfl,rfl,rfl,rfl,trivial⟩,⟨rfl,rfl,rfl,trivial⟩,rfl,rfl⟩ ?_;generalize hk1:1+(zaj m 8).1=k at *;have hkr:1≤k∧k≤8:=by omega
 generalize (zaj m 8).2=m1 at *;have b1:0≤mkU m1:=by omega
 have b2:mkU m1≤1000000:=by omega
 clear hk hk1 a1 a2;apply zae;refine jh (σ':=sLf (zcY k m1).2 ids k (lfK k (zcY k m1).1,0,0,0,0,0,[],[],())) ?_ ?_
 ·apply zae;refine zai ?_;refine yh 3 hX zaA rfl trivial ?_;by_cases h8:k=8
  ·subst h8;have e:zcY 8 m1=(mkN m1==0,m1):=rfl;rw[e];refine yW 2 14 true rfl rfl rfl rfl ?_;refine yh 1 hX zaA rfl trivial ?_;refine yW 2 14 true rfl rfl rfl rfl ?_;refine yh 1 hX zaA rfl trivial ?_;refine yW 2 14 true rfl rfl rfl rfl ?_;refine yh 1 hX zaA rfl trivial ?_;refine yW 2 14 true rfl rfl rfl rfl ?_;refine yh 1 hX zaA rfl trivial ?_;refine yW 2 14 true rfl rfl rfl rfl ?_;refine yh 3 hX zaA rfl trivial ?_;by_cases hN:(mkN m1==0)=true
   ·rw[hN];refine yl 9 21 false i64 0 rfl rfl (zcu hN) rfl rfl rfl ?_;refine yl 9 21 false .bool false rfl rfl (zcu hN) rfl rfl rfl ?_;refine yl 9 21 false .bool false rfl rfl (zcu hN) rfl rfl rfl ?_;refine AL.guardU 12 24 true i64 0 rfl rfl rfl rfl rfl rfl ?_;refine AL.guardU 12 24 true i64 0 rfl rfl rfl rfl rfl rfl ?_;refine AL.guardU 12 24 true .bool false rfl rfl rfl rfl rfl rfl ?_;refine yl 9 21 false .bool false rfl rfl (zcu hN) rfl rfl rfl ?_;refine zV hX zaA rfl (fun hc=>absurd (show (!(mkN m1==0))=true from hc) (by rw[hN];decide)) ?_;refine zaf rfl (fun _=>?_) (fun hb=>?_)
    ·refine za (za ?_);refine zaa hX zaA rfl ?_ ?_
     ·trivial
     exact⟨⟨rfl,rfl,rfl,rfl,rfl,trivial⟩,⟨rfl,rfl,rfl,trivial⟩,rfl,rfl⟩
    ·have hb:(bif (mkN m1==0) then true else false)=false:=hb;rw[hN]at hb;cases hb
   ·have hN:(mkN m1==0)=false:=by simpa using hN
    rw[hN];refine qC (σ':=⟨(21,⟨.bool,false⟩)::(sLf m1 ids 8 (8,0,0,0,0,0,[],[],())).F,(sLf m1 ids 8 (8,0,0,0,0,0,[],[],())).E,3⟩) ⟨⟨zcu hN,rfl,rfl,rfl,rfl,rfl,trivial⟩,⟨rfl,rfl,rfl,trivial⟩,rfl,rfl⟩ ?_;refine yW 9 21 false rfl rfl rfl rfl ?_;refine yh 1 hX zaA rfl trivial ?_;refine yW 9 21 false rfl rfl rfl rfl ?_;refine yh 1 hX zaA rfl trivial ?_;refine yW 9 21 false rfl rfl rfl rfl ?_;refine yh 1 hX zaA rfl trivial ?_;refine yl 12 24 true i64 0 rfl rfl rfl rfl rfl rfl ?_;refine yl 12 24 true i64 0 rfl rfl rfl rfl rfl rfl ?_;refine yl 12 24 true .bool false rfl rfl rfl rfl rfl rfl ?_;refine yW 9 21 false rfl rfl rfl rfl ?_;refine zV hX zaA rfl (by repeat'(first|exact trivial|assumption|(refine⟨?_,?_⟩)|(intro _)|exact zb rfl|exact zi _|(simp_all [allP];done))) ?_;refine zaf rfl (fun hb=>?_) (fun _=>?_)
    ·have hb:false=true:=hb;cases hb
    apply zab;exact⟨⟨rfl,rfl,rfl,rfl,rfl,trivial⟩,⟨rfl,rfl,rfl,trivial⟩,rfl,rfl⟩
  ·have h8b:(k==8)=false:=beq_false_of_ne h8;refine qC (σ':=⟨(14,⟨.bool,false⟩)::(sLf m1 ids k (k,0,0,0,0,0,[],[],())).F,(sLf m1 ids k (k,0,0,0,0,0,[],[],())).E,3⟩) ⟨⟨zcu h8b,rfl,rfl,rfl,rfl,rfl,trivial⟩,⟨rfl,rfl,rfl,trivial⟩,rfl,rfl⟩ ?_;refine yl 2 14 true i64 0 rfl rfl rfl rfl rfl rfl ?_;refine yl 2 14 true i64 0 rfl rfl rfl rfl rfl rfl ?_;refine yl 2 14 true i64 0 rfl rfl rfl rfl rfl rfl ?_;refine yl 2 14 true i64 0 rfl rfl rfl rfl rfl rfl ?_;refine yl 2 14 true .bool false rfl rfl rfl rfl rfl rfl ?_;refine yh 2 hX zaA rfl (by repeat'(first|exact trivial|assumption|(refine⟨?_,?_⟩)|(intro _)|exact zb rfl|exact zi _|(simp_all [allP];done))) ?_;refine qC (σ':=⟨(21,⟨.bool,false⟩)::(sLf m1 ids k (k,0,0,0,0,0,[],[],())).F,(sLf m1 ids k (k,0,0,0,0,0,[],[],())).E,3⟩) ⟨⟨rfl,rfl,rfl,rfl,rfl,rfl,trivial⟩,⟨rfl,rfl,rfl,trivial⟩,rfl,rfl⟩ ?_;refine yW 9 21 false rfl rfl rfl rfl ?_;refine yh 1 hX zaA rfl trivial ?_;refine yW 9 21 false rfl rfl rfl rfl ?_;refine yh 1 hX zaA rfl trivial ?_;refine yW 9 21 false rfl rfl rfl rfl ?_;refine yh 1 hX zaA rfl trivial ?_;by_cases h6:k=6
   ·subst h6;have e:zcY 6 m1=((zaj m1 2).1==0,(zaj m1 2).2):=rfl;rw[e];refine yW 12 24 true rfl rfl rfl rfl ?_;refine yh 1 hX zaA rfl trivial ?_;refine yW 12 24 true rfl rfl rfl rfl ?_;refine yh 1 hX zaA rfl (by repeat'(first|exact trivial|assumption|exact b1|exact b2|(refine⟨?_,?_⟩)|(intro _)|exact zb rfl|exact zi _|(simp_all [allP];done))) ?_;refine yW 12 24 true rfl rfl rfl rfl ?_;refine yh 1 hX zaA rfl trivial ?_;refine yW 9 21 false rfl rfl rfl rfl ?_;refine zV hX zaA rfl (by repeat'(first|exact trivial|assumption|(refine⟨?_,?_⟩)|(intro _)|exact zb rfl|exact zi _|(simp_all [allP];done))) ?_;refine zaf rfl (fun hb=>?_) (fun hb=>?_)
    ·have hb:((zaj m1 2).1==0)=true:=hb;rw[hb];refine za (za ?_);refine zaa hX zaA rfl ?_ ?_
     ·trivial
     exact⟨⟨rfl,rfl,rfl,rfl,rfl,trivial⟩,⟨rfl,rfl,rfl,trivial⟩,rfl,rfl⟩
    ·have hb:((zaj m1 2).1==0)=false:=hb;rw[hb];apply zab;exact⟨⟨rfl,rfl,rfl,rfl,rfl,trivial⟩,⟨rfl,rfl,rfl,trivial⟩,rfl,rfl⟩
   ·have h6b:(k==6)=false:=beq_false_of_ne h6;have e:zcY k m1=(false,m1):=by unfold zcY;rw[if_neg h8,if_neg h6]
    rw[e];refine qC (σ':=⟨(21,⟨.bool,false⟩)::(24,⟨.bool,false⟩)::(sLf m1 ids k (k,0,0,0,0,0,[],[],())).F,(sLf m1 ids k (k,0,0,0,0,0,[],[],())).E,3⟩) ⟨⟨rfl,zcu h6b,rfl,rfl,rfl,rfl,rfl,trivial⟩,⟨rfl,rfl,rfl,trivial⟩,rfl,rfl⟩ ?_;refine yl 12 24 true i64 0 rfl rfl rfl rfl rfl rfl ?_;refine yl 12 24 true i64 0 rfl rfl rfl rfl rfl rfl ?_;refine yl 12 24 true .bool false rfl rfl rfl rfl rfl rfl ?_;refine yW 9 21 false rfl rfl rfl rfl ?_;refine zV hX zaA rfl (by repeat'(first|exact trivial|assumption|(refine⟨?_,?_⟩)|(intro _)|exact zb rfl|exact zi _|(simp_all [allP];done))) ?_;refine zaf rfl (fun hb=>?_) (fun _=>?_)
    ·have hb:false=true:=hb;cases hb
    apply zab;exact⟨⟨rfl,rfl,rfl,rfl,rfl,trivial⟩,⟨rfl,rfl,rfl,trivial⟩,rfl,rfl⟩
 have hm2:mkN (zcY k m1).2=mkN m∧0≤mkU (zcY k m1).2∧mkU (zcY k m1).2≤mkU m+2:=by
  unfold zcY;split
  ·exact⟨hn1,b1,by show mkU m1≤_;omega⟩
  ·split
   ·exact⟨hn1,by show 0≤mkU (zaj m1 2).2;rw[zaW];omega,by show mkU (zaj m1 2).2≤_;rw[zaW];omega⟩
   ·exact⟨hn1,b1,by show mkU m1≤_;omega⟩
 have hk8:k=8->(zcY k m1).1=(mkN m==0):=fun h=>by
  rw[h];show (mkN m1==0)=(mkN m==0);rw[hn1]
 unfold ziz at hR;generalize zcY k m1=q at *;obtain⟨b,m2⟩:=q;obtain⟨n2,u2,u3⟩:mkN m2=mkN m∧0≤mkU m2∧mkU m2≤mkU m+2:=hm2;have hk8:k=8->b=(mkN m==0):=hk8;have hR:R=if k=8∧mkN m2 > 0 then ((18,0,0,0,0,0,[],[110]++deI (zaj m2 (mkN m2)).1,()),(zaj m2 (mkN m2)).2) else zgw (lfK k b) (zd7 (lfK k b) m2 ids).1 (zd7 (lfK k b) m2 ids).2:=hR
 show AWP _ _ _ _ _ (sLf m2 ids k (lfK k b,0,0,0,0,0,[],[],())) _;have g1:mkU m2≤1000000:=by omega
 have g2:mkN m2≤1000000000:=by omega
 have hq:(bif (k==8) then decide (mkN m2 > 0) else false)=decide (k=8∧mkN m2 > 0):=by
  rw[zc2,yu,zd,decide_eq_true_iff,decide_eq_true_iff,beq_iff_eq]
 refine za (za ?_);refine zaa hX zaA rfl ?_ ?_
 ·repeat'(first|exact trivial|assumption|(refine⟨?_,?_⟩)|(intro _)|exact zb rfl|exact zi _|(simp_all [allP];done))
 refine zaf rfl (fun hc=>?_) (fun hc=>?_)
 ·have hc:=of_decide_eq_true (hq.symm.trans hc);rw[if_pos hc]at hR;have hp2:=zaF m2 (n:=mkN m2) (by omega);have g3:0 < mkN m2:=hc.2;have g4: -100000000000000000 < (zaj m2 (mkN m2)).1:=by omega
  have g5:(zaj m2 (mkN m2)).1 < 100000000000000000:=by omega
  have hl:(deI (zaj m2 (mkN m2)).1).length≤18:=zet (by omega) (by omega);have g6:1+(deI (zaj m2 (mkN m2)).1).length≤maxLen:=by unfold maxLen;omega
  refine za (za ?_);refine zaa hX zaA rfl ?_ ?_
  ·trivial
  refine za (za ?_);refine zaa hX zaA rfl ?_ ?_
  ·repeat'(first|exact trivial|assumption|exact u2|exact g1|exact g3|exact g2|exact g4|exact g5|exact g6|(refine⟨?_,?_⟩)|(intro _)|exact zb rfl|exact zi _|(simp_all [allP];done))
  refine za (za ?_);refine zaa hX zaA rfl ?_ ?_
  ·trivial
  refine zq ⟨.inr rfl,?_,zax rfl trivial rfl rfl ?_⟩
  ·show some (OObj.box mkr (zaj m2 (mkN m2)).2)=some (OObj.box mkr (zc9 m ids).2);rw[<-hRR,hR]
  ·show (((18:Int),(0:Int),(0:Int),(0:Int),(0:Int),(0:Int),([]:List Int),[110]++deI (zaj m2 (mkN m2)).1,()):Nd)=(zc9 m ids).1;rw[<-hRR,hR]
 have hc:=of_decide_eq_false (hq.symm.trans hc);rw[if_neg hc]at hR;apply zab;have hk2:1≤lfK k b∧lfK k b≤7:=by
  unfold lfK;cases b with
  |true=>exact⟨by show (1:Int)≤1;omega,by show (1:Int)≤7;omega⟩
  |false=>
   show 1≤k∧k≤7;refine⟨hkr.1,?_⟩;by_cases h8:k=8
   ·have hz:=hk8 h8;have:mkN m≠0:=fun h=>by rw[h]at hz;cases hz
    exact absurd ⟨h8,by omega⟩ hc
   ·omega
 clear hk8 hq hc;generalize lfK k b=c at *;apply zae;refine jh (σ':=sLf (zd7 c m2 ids).2 ids k (c,(zd7 c m2 ids).1,0,0,0,0,[],[],())) ?_ ?_
 ·have hq:(bif (!(c==1)) then (!(c==5)) else false)=decide (c≠1∧c≠5):=by
   rw[zc2,yu,zd,decide_eq_true_iff,zw,zw,beq_eq_false_iff_ne,beq_eq_false_iff_ne]
  refine za (za ?_);refine zaa hX zaA rfl ?_ ?_
  ·repeat'(first|exact trivial|assumption|(refine⟨?_,?_⟩)|(intro _)|exact zb rfl|exact zi _|(simp_all [allP];done))
  refine zaf rfl (fun hc=>?_) (fun hc=>?_)
  ·have hc:=of_decide_eq_true (hq.symm.trans hc);have e:zd7 c m2 ids=zaj m2 ids:=if_pos hc;have h6:ids≤1000000000:=by omega
   refine za (za ?_);refine zaa hX zaA rfl ?_ ?_
   ·repeat'(first|exact trivial|assumption|exact u2|exact g1|exact h4|exact h6|(refine⟨?_,?_⟩)|(intro _)|exact zb rfl|exact zi _|(simp_all [allP];done))
   rw[e];exact⟨⟨rfl,rfl,rfl,rfl,rfl,trivial⟩,⟨rfl,rfl,rfl,trivial⟩,rfl,rfl⟩
  ·have hc:=of_decide_eq_false (hq.symm.trans hc);have e:zd7 c m2 ids=(0,m2):=if_neg hc;apply zab;rw[e];exact⟨⟨rfl,rfl,rfl,rfl,rfl,trivial⟩,⟨rfl,rfl,rfl,trivial⟩,rfl,rfl⟩
 have hm3:0≤mkU (zd7 c m2 ids).2∧mkU (zd7 c m2 ids).2≤mkU m+3:=by
  unfold zd7;split
  ·rw[zaW];omega
  ·exact⟨u2,by show mkU m2≤_;omega⟩
 generalize zd7 c m2 ids=q at *;obtain⟨(cy:Int),(m3:Mk)⟩:=q;obtain⟨w1,w2⟩:0≤mkU m3∧mkU m3≤mkU m+3:=hm3;have hR:R=zgw c cy m3:=hR;show AWP _ _ _ _ _ (sLf m3 ids k (c,cy,0,0,0,0,[],[],())) _;have w3:mkU m3≤1000000:=by omega
 have w4:mkU m3≤900000:=by omega
 refine za (za ?_);refine zaa hX zaA rfl ?_ ?_
 ·trivial
 refine jh (σ':=sLf R.2 ids k R.1) ?_ ?_
 ·apply zac;rcases (show c=1∨c=2∨c=3∨c=4∨c=5∨c=6∨c=7 by omega) with rfl|rfl|rfl|rfl|rfl|rfl|rfl
  ·skip
   refine za (za ?_);refine zaa hX zaA rfl ?_ ?_
   ·trivial
   refine zaf rfl (fun _=>?_) (fun hb=>absurd (show ((1:Int)==1)=false from hb) (by decide));have hp:=zaF m3 (n:=12) (by decide);have z1:inR .i64 (1+(zaj m3 12).1):=zan (by omega) (by omega);have z2:0≤mkU (zaj m3 12).2:=by rw[zaW];omega
   have z3:mkU (zaj m3 12).2≤1000000:=by rw[zaW];omega
   refine za (za ?_);refine zaa hX zaA rfl ?_ ?_
   ·repeat'(first|exact trivial|assumption|exact w1|exact w3|exact z1|(refine⟨?_,?_⟩)|(intro _)|exact zb rfl|exact zi _|(simp_all [allP];done))
   refine za (za ?_);refine zaa hX zaA rfl ?_ ?_
   ·repeat'(first|exact trivial|assumption|exact z2|exact z3|(refine⟨?_,?_⟩)|(intro _)|exact zb rfl|exact zi _|(simp_all [allP];done))
   rw[hR];exact⟨⟨rfl,rfl,rfl,rfl,rfl,trivial⟩,⟨rfl,rfl,rfl,trivial⟩,rfl,rfl⟩
  ·have hp4:=zaF m3 (n:=4) (by decide);refine za (za ?_);refine zaa hX zaA rfl ?_ ?_
   ·trivial
   refine zaf rfl (fun hb=>absurd (show ((2:Int)==1)=true from hb) (by decide)) (fun _=>?_);refine za (za ?_);refine zaa hX zaA rfl ?_ ?_
   ·trivial
   refine zaf rfl (fun _=>?_) (fun hb=>absurd (show ((2:Int)==2)=false from hb) (by decide));have z1:inR .i64 (1+(zaj m3 4).1):=zan (by omega) (by omega);have z2:0≤mkU (zaj m3 4).2:=by rw[zaW];omega
   have z3:mkU (zaj m3 4).2≤1000000:=by rw[zaW];omega
   have z4:0 < 1+(zaj m3 4).1:=by omega
   have z5:1+(zaj m3 4).1≤1000000000:=by omega
   refine za (za ?_);refine zaa hX zaA rfl ?_ ?_
   ·repeat'(first|exact trivial|assumption|exact w1|exact w3|exact z1|(refine⟨?_,?_⟩)|(intro _)|exact zb rfl|exact zi _|(simp_all [allP];done))
   refine za (za ?_);refine zaa hX zaA rfl ?_ ?_
   ·repeat'(first|exact trivial|assumption|exact z2|exact z3|exact z4|exact z5|(refine⟨?_,?_⟩)|(intro _)|exact zb rfl|exact zi _|(simp_all [allP];done))
   rw[hR];exact⟨⟨rfl,rfl,rfl,rfl,rfl,trivial⟩,⟨rfl,rfl,rfl,trivial⟩,rfl,rfl⟩
  ·skip
   refine za (za ?_);refine zaa hX zaA rfl ?_ ?_
   ·trivial
   refine zaf rfl (fun hb=>absurd (show ((3:Int)==1)=true from hb) (by decide)) (fun _=>?_);refine za (za ?_);refine zaa hX zaA rfl ?_ ?_
   ·trivial
   refine zaf rfl (fun hb=>absurd (show ((3:Int)==2)=true from hb) (by decide)) (fun _=>?_);refine za (za ?_);refine zaa hX zaA rfl ?_ ?_
   ·trivial
   refine zaf rfl (fun _=>?_) (fun hb=>absurd (show ((3:Int)==3)=false from hb) (by decide));refine za (za ?_);refine zaa hX zaA rfl ?_ ?_
   ·repeat'(first|exact trivial|assumption|exact w1|exact w4|(refine⟨?_,?_⟩)|(intro _)|exact zb rfl|exact zi _|(simp_all [allP];done))
   rw[hR];exact⟨⟨rfl,rfl,rfl,rfl,rfl,trivial⟩,⟨rfl,rfl,rfl,trivial⟩,rfl,rfl⟩
  ·skip
   refine za (za ?_);refine zaa hX zaA rfl ?_ ?_
   ·trivial
   refine zaf rfl (fun hb=>absurd (show ((4:Int)==1)=true from hb) (by decide)) (fun _=>?_);refine za (za ?_);refine zaa hX zaA rfl ?_ ?_
   ·trivial
   refine zaf rfl (fun hb=>absurd (show ((4:Int)==2)=true from hb) (by decide)) (fun _=>?_);refine za (za ?_);refine zaa hX zaA rfl ?_ ?_
   ·trivial
   refine zaf rfl (fun hb=>absurd (show ((4:Int)==3)=true from hb) (by decide)) (fun _=>?_);refine za (za ?_);refine zaa hX zaA rfl ?_ ?_
   ·trivial
   refine zaf rfl (fun _=>?_) (fun hb=>absurd (show ((4:Int)==4)=false from hb) (by decide));refine za (za ?_);refine zaa hX zaA rfl ?_ ?_
   ·repeat'(first|exact trivial|assumption|exact w1|exact w4|(refine⟨?_,?_⟩)|(intro _)|exact zb rfl|exact zi _|(simp_all [allP];done))
   rw[hR];exact⟨⟨rfl,rfl,rfl,rfl,rfl,trivial⟩,⟨rfl,rfl,rfl,trivial⟩,rfl,rfl⟩
  ·skip
   refine za (za ?_);refine zaa hX zaA rfl ?_ ?_
   ·trivial
   refine zaf rfl (fun hb=>absurd (show ((5:Int)==1)=true from hb) (by decide)) (fun _=>?_);refine za (za ?_);refine zaa hX zaA rfl ?_ ?_
   ·trivial
   refine zaf rfl (fun hb=>absurd (show ((5:Int)==2)=true from hb) (by decide)) (fun _=>?_);refine za (za ?_);refine zaa hX zaA rfl ?_ ?_
   ·trivial
   refine zaf rfl (fun hb=>absurd (show ((5:Int)==3)=true from hb) (by decide)) (fun _=>?_);refine za (za ?_);refine zaa hX zaA rfl ?_ ?_
   ·trivial
   refine zaf rfl (fun hb=>absurd (show ((5:Int)==4)=true from hb) (by decide)) (fun _=>?_);refine za (za ?_);refine zaa hX zaA rfl ?_ ?_
   ·trivial
   refine zaf rfl (fun _=>?_) (fun hb=>absurd (show ((5:Int)==5)=false from hb) (by decide));refine za (za ?_);refine zaa hX zaA rfl ?_ ?_
   ·repeat'(first|exact trivial|assumption|exact w1|exact w4|(refine⟨?_,?_⟩)|(intro _)|exact zb rfl|exact zi _|(simp_all [allP];done))
   rw[hR];exact⟨⟨rfl,rfl,rfl,rfl,rfl,trivial⟩,⟨rfl,rfl,rfl,trivial⟩,rfl,rfl⟩
  ·skip
   refine za (za ?_);refine zaa hX zaA rfl ?_ ?_
   ·trivial
   refine zaf rfl (fun hb=>absurd (show ((6:Int)==1)=true from hb) (by decide)) (fun _=>?_);refine za (za ?_);refine zaa hX zaA rfl ?_ ?_
   ·trivial
   refine zaf rfl (fun hb=>absurd (show ((6:Int)==2)=true from hb) (by decide)) (fun _=>?_);refine za (za ?_);refine zaa hX zaA rfl ?_ ?_
   ·trivial
   refine zaf rfl (fun hb=>absurd (show ((6:Int)==3)=true from hb) (by decide)) (fun _=>?_);refine za (za ?_);refine zaa hX zaA rfl ?_ ?_
   ·trivial
   refine zaf rfl (fun hb=>absurd (show ((6:Int)==4)=true from hb) (by decide)) (fun _=>?_);refine za (za ?_);refine zaa hX zaA rfl ?_ ?_
   ·trivial
   refine zaf rfl (fun hb=>absurd (show ((6:Int)==5)=true from hb) (by decide)) (fun _=>?_);refine za (za ?_);refine zaa hX zaA rfl ?_ ?_
   ·trivial
   refine zaf rfl (fun _=>?_) (fun hb=>absurd (show ((6:Int)==6)=false from hb) (by decide));refine za (za ?_);refine zaa hX zaA rfl ?_ ?_
   ·repeat'(first|exact trivial|assumption|exact w1|exact w4|(refine⟨?_,?_⟩)|(intro _)|exact zb rfl|exact zi _|(simp_all [allP];done))
   rw[hR];exact⟨⟨rfl,rfl,rfl,rfl,rfl,trivial⟩,⟨rfl,rfl,rfl,trivial⟩,rfl,rfl⟩
  ·skip
   refine za (za ?_);refine zaa hX zaA rfl ?_ ?_
   ·trivial
   refine zaf rfl (fun hb=>absurd (show ((7:Int)==1)=true from hb) (by decide)) (fun _=>?_);refine za (za ?_);refine zaa hX zaA rfl ?_ ?_
   ·trivial
   refine zaf rfl (fun hb=>absurd (show ((7:Int)==2)=true from hb) (by decide)) (fun _=>?_);refine za (za ?_);refine zaa hX zaA rfl ?_ ?_
   ·trivial
   refine zaf rfl (fun hb=>absurd (show ((7:Int)==3)=true from hb) (by decide)) (fun _=>?_);refine za (za ?_);refine zaa hX zaA rfl ?_ ?_
   ·trivial
   refine zaf rfl (fun hb=>absurd (show ((7:Int)==4)=true from hb) (by decide)) (fun _=>?_);refine za (za ?_);refine zaa hX zaA rfl ?_ ?_
   ·trivial
   refine zaf rfl (fun hb=>absurd (show ((7:Int)==5)=true from hb) (by decide)) (fun _=>?_);refine za (za ?_);refine zaa hX zaA rfl ?_ ?_
   ·trivial
   refine zaf rfl (fun hb=>absurd (show ((7:Int)==6)=true from hb) (by decide)) (fun _=>?_);have hp:=zaF m3 (n:=3) (by decide);have z1:inR .i64 (1+(zaj m3 3).1):=zan (by omega) (by omega);have z2:0≤mkU (zaj m3 3).2:=by rw[zaW];omega
   have z3:mkU (zaj m3 3).2≤1000000:=by rw[zaW];omega
   refine za (za ?_);refine zaa hX zaA rfl ?_ ?_
   ·repeat'(first|exact trivial|assumption|exact w1|exact w3|exact z1|(refine⟨?_,?_⟩)|(intro _)|exact zb rfl|exact zi _|(simp_all [allP];done))
   have z4:0≤mkU (zaj (zaj m3 3).2 2).2:=by rw[zaW,zaW];omega
   have z5:mkU (zaj (zaj m3 3).2 2).2≤1000000:=by rw[zaW,zaW];omega
   have z6:0≤mkU (zaj (zaj (zaj m3 3).2 2).2 7).2:=by rw[zaW,zaW,zaW];omega
   have z7:mkU (zaj (zaj (zaj m3 3).2 2).2 7).2≤1000000:=by rw[zaW,zaW,zaW];omega
   have z8:inR .i64 (-(1+(zaj m3 3).1)):=zan (by omega) (by omega);have hR:R=((7,cy,(zaj (zaj (zaj (zaj m3 3).2 2).2 7).2 2).1,0,(if (zaj (zaj m3 3).2 2).1=1 then -(1+(zaj m3 3).1) else 1+(zaj m3 3).1),(zaj (zaj (zaj m3 3).2 2).2 7).1,[],[],()),(zaj (zaj (zaj (zaj m3 3).2 2).2 7).2 2).2):=hR;refine za (za ?_);refine zaa hX zaA rfl ?_ ?_
   ·repeat'(first|exact trivial|assumption|exact z2|exact z3|(refine⟨?_,?_⟩)|(intro _)|exact zb rfl|exact zi _|(simp_all [allP];done))
   refine zaf rfl (fun hb=>?_) (fun hb=>?_)
   ·have hb:((zaj (zaj m3 3).2 2).1==1)=true:=hb;rw[if_pos (eq_of_beq hb)]at hR;refine za (za ?_);refine zaa hX zaA rfl ?_ ?_
    ·exact z8
    refine za (za ?_);refine zaa hX zaA rfl ?_ ?_
    ·repeat'(first|exact trivial|assumption|exact z4|exact z5|(refine⟨?_,?_⟩)|(intro _)|exact zb rfl|exact zi _|(simp_all [allP];done))
    refine za (za ?_);refine zaa hX zaA rfl ?_ ?_
    ·repeat'(first|exact trivial|assumption|exact z6|exact z7|(refine⟨?_,?_⟩)|(intro _)|exact zb rfl|exact zi _|(simp_all [allP];done))
    rw[hR];exact⟨⟨rfl,rfl,rfl,rfl,rfl,trivial⟩,⟨rfl,rfl,rfl,trivial⟩,rfl,rfl⟩
   ·have hb:((zaj (zaj m3 3).2 2).1==1)=false:=hb;rw[if_neg (by simpa using hb)]at hR;apply zab;refine za (za ?_);refine zaa hX zaA rfl ?_ ?_
    ·repeat'(first|exact trivial|assumption|exact z4|exact z5|(refine⟨?_,?_⟩)|(intro _)|exact zb rfl|exact zi _|(simp_all [allP];done))
    refine za (za ?_);refine zaa hX zaA rfl ?_ ?_
    ·repeat'(first|exact trivial|assumption|exact z6|exact z7|(refine⟨?_,?_⟩)|(intro _)|exact zb rfl|exact zi _|(simp_all [allP];done))
    rw[hR];exact⟨⟨rfl,rfl,rfl,rfl,rfl,trivial⟩,⟨rfl,rfl,rfl,trivial⟩,rfl,rfl⟩
 show AWP _ _ _ _ _ (sLf R.2 ids k R.1) _;refine za (za ?_);refine zaa hX zaA rfl ?_ ?_
 ·trivial
 refine zq ⟨.inr rfl,?_,zax rfl trivial rfl rfl ?_⟩
 ·show some (OObj.box mkr R.2)=some (OObj.box mkr (zc9 m ids).2);rw[<-hRR]
 ·show R.1=(zc9 m ids).1;rw[<-hRR]
def TrSh:Tr->Prop
 | .leaf n=>¬ (8≤ndK n∧ndK n≤17)∧(0≤ndL n∧ndL n≤1)∧ndR n=0
 | .un n a=>(11≤ndK n∧ndK n≤16)∧ndR n=0∧TrSh a
 | .bin n a b=>((8≤ndK n∧ndK n≤10)∨ndK n=17)∧TrSh a∧TrSh b
theorem zdS:∀ t:Tr,1≤t.size
 | .leaf _=>zk _
 | .un _ a=>by have:=zdS a;rw[vH];omega
 | .bin _ a b=>by have:=zdS a;rw[vH];omega
theorem zfl {k:Int}:two k=true↔(8≤k∧k≤10)∨k=17:=by
 unfold two;rw[zZ,zZ,zZ,beq_iff_eq,beq_iff_eq,beq_iff_eq,beq_iff_eq];omega
theorem zlf {n:Nd} {b:Int} (h:¬ (8≤ndK n∧ndK n≤17)):zcr b n=n:=by
 obtain⟨k,c,L,R,rest⟩:=n;have h:¬ (8≤k∧k≤17):=h;have h2:¬ two k=true:=by rw[zfl];omega
 unfold zcr;rw[if_neg h,if_neg h2]
theorem zoM {n:Nd} {b x:Int} (h:11≤ndK n∧ndK n≤16):zcr b (setL n x)=setL n (x+b):=by
 obtain⟨k,c,L,R,rest⟩:=n;have h:11≤k∧k≤16:=h;have h1:8≤k∧k≤17:=by omega
 have h2:¬ two k=true:=by rw[zfl];omega
 show (k,c,(if 8≤k∧k≤17 then x+b else x),(if two k then R+b else R),rest)=(k,c,x+b,R,rest);rw[if_pos h1,if_neg h2]
theorem znm {n:Nd} {b x y:Int} (h:(8≤ndK n∧ndK n≤10)∨ndK n=17):zcr b (zcc n x y)=zcc n (x+b) (y+b):=by
 obtain⟨k,c,L,R,rest⟩:=n;have h:(8≤k∧k≤10)∨k=17:=h;have h1:8≤k∧k≤17:=by omega
 have h2:two k=true:=zfl.2 h;show (k,c,(if 8≤k∧k≤17 then x+b else x),(if two k then y+b else y),rest)=(k,c,x+b,y+b,rest);rw[if_pos h1,if_pos h2]
theorem zeF:∀ (t:Tr) (i j:Nat),TrSh t->zd2 (t.flat i) (j:Int)=t.flat (i+j)
 | .leaf n,i,j,h=>by
  rw[vd,vd];show [zcr _ n]=_;rw[zlf h.1]
 | .un n a,i,j,h=>by
  rw[vd,vd];unfold zd2;rw[xu];have:=zeF a i j h.2.2;unfold zd2 at this;rw[this];show _++ [zcr _ _]=_;rw[zoM h.1]
  congr 3
  have:=zdS a;omega
 | .bin n a b,i,j,h=>by
  rw[vd,vd];unfold zd2;rw[xu,xu];have ha:=zeF a i j h.2.1;have hb:=zeF b (i+a.size) j h.2.2;unfold zd2 at ha hb;rw[ha,hb,show i+a.size+j=i+j+a.size by omega];show _++ [zcr _ _]=_;rw[znm h.1];have:=zdS a;have:=zdS b;rw[show ((i+a.size:Nat):Int) - 1+(j:Int)=((i+j+a.size:Nat):Int) - 1 by omega,show ((i+a.size+b.size:Nat):Int) - 1+(j:Int)=((i+j+a.size+b.size:Nat):Int) - 1 by omega]
theorem zoC (a:Tr) (n:Nd):zqG (a.flat 0) n=(Tr.un n a).flat 0:=by
 rw[vd];unfold zqG;rw[xo,Nat.zero_add]
theorem zpT (a b:Tr) (n:Nd) (h:TrSh b):zry (a.flat 0) (b.flat 0) n=(Tr.bin n a b).flat 0:=by
 rw[vd];unfold zry;rw[xo,xo,zeF b 0 a.size h,Nat.zero_add]
 congr 3
theorem zjm:∀ (t:Tr) (i:Nat),TrSh t->∀ n∈t.flat i,(0≤ndL n∧ndL n≤i+t.size)∧(0≤ndR n∧ndR n≤i+t.size)
 | .leaf n,i,h,x,hx=>by
  obtain rfl:=zu.1 hx;obtain⟨_,⟨h1,h2⟩,h3⟩:=h;rw[vH];exact⟨⟨h1,by omega⟩,⟨by omega,by omega⟩⟩
 | .un n a,i,h,x,hx=>by
  rw[vd]at hx;rw[vH];have hs:=zdS a;rcases yz.1 hx with hx|hx
  ·have:=zjm a i h.2.2 x hx;omega
  ·obtain rfl:=zu.1 hx;have hr:ndR n=0:=h.2.1;show (0≤((i+a.size:Nat):Int) - 1∧((i+a.size:Nat):Int) - 1≤_)∧(0≤ndR n∧ndR n≤_);omega
 | .bin n a b,i,h,x,hx=>by
  rw[vd]at hx;rw[vH];have hs:=zdS a;have ht:=zdS b;rcases yz.1 hx with hx|hx
  ·rcases yz.1 hx with hx|hx
   ·have:=zjm a i h.2.1 x hx;omega
   ·have:=zjm b (i+a.size) h.2.2 x hx;omega
  ·obtain rfl:=zu.1 hx;show (0≤((i+a.size:Nat):Int) - 1∧((i+a.size:Nat):Int) - 1≤_)∧(0≤((i+a.size+b.size:Nat):Int) - 1∧((i+a.size+b.size:Nat):Int) - 1≤_);omega
def zaE (m:Mk):Mk:=(mkD m,mkU m,mkN m,mkS m+1,())
def zf6 (d:Nat) (p:Int×Mk):Bool:=decide (d=0)||decide (mkU p.2 > (((mkD p.2).length:Nat):Int))||decide (mkS p.2 > 30)||decide (10≤p.1)
def mOne (k ids:Int) (m:Mk):Nd×Mk:=
 if k=11 then ((k,0,0,0,(zaj m 15).1 - 7,0,[],[],()),(zaj m 15).2)
 else if k=12∨k=13 then ((k,0,0,0,(zaj m 60).1,0,[],[],()),(zaj m 60).2)
 else if k=14∨k=15 then ((k,0,0,0,0,0,(zaI m 0 60).1,[],()),(zaI m 0 60).2)
 else let p:=zaj m ids;let q:=zaj p.2 2;let r:=zaI q.2 (-3) 3;((k,p.1,0,0,0,q.1,r.1,[],()),r.2)
def mCnt (k:Int) (m:Mk):Int×Mk:=if k=17 then (1+(zaj m 3).1,(zaj m 3).2) else (0,m)
def mTr (ids:Int):Nat->Mk->Tr×Mk
 |0,m=>(.leaf (zc9 (zaj (zaE m) 14).2 ids).1,(zc9 (zaj (zaE m) 14).2 ids).2)
 |d+1,m=>
  let p:=zaj (zaE m) 14
  if zf6 (d+1) p=true then (.leaf (zc9 p.2 ids).1,(zc9 p.2 ids).2)
  else
   let a:=mTr ids d p.2
   if two (8+p.1)=true then
    let c:=mCnt (8+p.1) a.2
    let b:=mTr ids d c.2
    (.bin (8+p.1,0,0,0,c.1,0,[],[],()) a.1 b.1,b.2)
   else (.un (mOne (8+p.1) ids a.2).1 a.1,(mOne (8+p.1) ids a.2).2)
def MkLe (c:Nat) (m r:Mk):Prop:=mkN r=mkN m∧mkS r=mkS m∧mkD r=mkD m∧mkU m≤mkU r∧mkU r≤mkU m+(c:Int)
theorem MkLe.trans {a b:Nat} {m r s:Mk} (h1:MkLe a m r) (h2:MkLe b r s):MkLe (a+b) m s:=by
 obtain⟨x1,x2,x3,x4,x5⟩:=h1;obtain⟨y1,y2,y3,y4,y5⟩:=h2;exact⟨y1.trans x1,y2.trans x2,y3.trans x3,by omega,by omega⟩
theorem MkLe.mono {a b:Nat} {m r:Mk} (h:MkLe a m r) (hab:a≤b):MkLe b m r:=by
 obtain⟨x1,x2,x3,x4,x5⟩:=h;exact⟨x1,x2,x3,x4,by omega⟩
theorem MkLe.refl (m:Mk):MkLe 0 m m:=⟨rfl,rfl,rfl,xC _,by omega⟩
theorem zbm (m:Mk) (n:Int):MkLe 1 m (zaj m n).2:=⟨rfl,rfl,rfl,by rw[zaW];omega,by rw[zaW];omega⟩
theorem zrJ (lo hi:Int):∀ (k:Nat) (m:Mk) (v:Int) (acc:List Int),MkLe k m (mRis lo hi k m v acc).2
 |0,m,_,_=>MkLe.refl m
 |k+1,m,v,acc=>by
  rw[mRis];split
  ·exact ((zbm m 3).trans (zrJ lo hi k _ _ _)).mono (by omega)
  ·exact (MkLe.refl m).mono (by omega)
theorem zdE (m:Mk) (lo hi:Int):MkLe 6 m (zaI m lo hi).2:=by
 have h:=zaF m (n:=4) (by decide);have h3:=zrJ lo hi (1+(zaj m 4).1).toNat (zaj (zaj m 4).2 (hi - lo+1)).2 (lo+(zaj (zaj m 4).2 (hi - lo+1)).1) [];exact (((zbm m 4).trans (zbm _ _)).trans h3).mono (by omega)
theorem zsH (k c:Int) (m:Mk):MkLe 6 m (zgw k c m).2:=by
 unfold zgw;split
 ·exact ((zbm m 12).trans (zbm _ 20)).mono (by omega)
 split
 ·exact ((zbm m 4).trans (zbm _ (1+(zaj m 4).1))).mono (by omega)
 split
 ·exact zdE _ _ _
 split
 ·exact zdE _ _ _
 split
 ·exact zdE _ _ _
 split
 ·exact zdE _ _ _
 ·exact ((((zbm m 3).trans (zbm _ 2)).trans (zbm _ 7)).trans (zbm _ 2)).mono (by omega)
theorem zrG (k:Int) (m:Mk):MkLe 1 m (zcY k m).2:=by
 unfold zcY;split
 ·exact (MkLe.refl m).mono (by omega)
 split
 ·exact zbm m 2
 ·exact (MkLe.refl m).mono (by omega)
theorem cyc_le (k:Int) (m:Mk) (ids:Int):MkLe 1 m (zd7 k m ids).2:=by
 unfold zd7;split
 ·exact zbm m ids
 ·exact (MkLe.refl m).mono (by omega)
theorem zo9 (m:Mk) (ids:Int):MkLe 9 m (zc9 m ids).2:=by
 unfold zc9 ziz;have h1:=(zbm m 8).trans (zrG (1+(zaj m 8).1) (zaj m 8).2);dsimp only;split
 ·exact (h1.trans (zbm _ (mkN (zcY (1+(zaj m 8).1) (zaj m 8).2).2))).mono (by omega)
 ·exact ((h1.trans (cyc_le _ _ _)).trans (zsH _ _ _)).mono (by omega)
theorem one_le (k ids:Int) (m:Mk):MkLe 8 m (mOne k ids m).2:=by
 unfold mOne;split
 ·exact (zbm m 15).mono (by omega)
 split
 ·exact (zbm m 60).mono (by omega)
 split
 ·exact (zdE m 0 60).mono (by omega)
 ·exact (((zbm m ids).trans (zbm _ 2)).trans (zdE _ _ _)).mono (by omega)
theorem zmH (k:Int) (m:Mk):MkLe 1 m (mCnt k m).2:=by
 unfold mCnt;split
 ·exact zbm m 3
 ·exact (MkLe.refl m).mono (by omega)
def MkGe (c e:Nat) (m r:Mk):Prop:=mkN r=mkN m∧mkD r=mkD m∧(mkS m≤mkS r∧mkS r≤mkS m+(e:Int))∧mkU m≤mkU r∧mkU r≤mkU m+(c:Int)
theorem MkGe.trans {a b e f:Nat} {m r s:Mk} (h1:MkGe a e m r) (h2:MkGe b f r s):MkGe (a+b) (e+f) m s:=by
 obtain⟨x1,x2,⟨x3,x6⟩,x4,x5⟩:=h1;obtain⟨y1,y2,⟨y3,y6⟩,y4,y5⟩:=h2;exact⟨y1.trans x1,y2.trans x2,⟨by omega,by omega⟩,by omega,by omega⟩
theorem MkLe.ge {a:Nat} {m r:Mk} (h:MkLe a m r):MkGe a 0 m r:=by
 obtain⟨x1,x2,x3,x4,x5⟩:=h;exact⟨x1,x3,⟨by omega,by omega⟩,x4,x5⟩
theorem MkGe.mono {a b e f:Nat} {m r:Mk} (h:MkGe a e m r) (hab:a≤b) (hef:e≤f):MkGe b f m r:=by
 obtain⟨x1,x2,⟨x3,x6⟩,x4,x5⟩:=h;exact⟨x1,x2,⟨by omega,by omega⟩,x4,by omega⟩
theorem zlq (m:Mk):MkGe 0 1 m (zaE m):=⟨rfl,rfl,⟨by show mkS m≤mkS m+1;omega,by show mkS m+1≤_;omega⟩,xC _,by show mkU m≤_;omega⟩
def mMax:Nat->Nat
 |0=>1
 |d+1=>2 * mMax d+1
theorem zkh (ids:Int):∀ (d:Nat) (m:Mk),MkGe (20 * mMax d) (mMax d) m (mTr ids d m).2
 |0,m=>(((zlq m).trans (zbm _ 14).ge).trans (zo9 _ _).ge).mono (by decide) (by decide)
 |d+1,m=>by
  have h0:=(zlq m).trans (zbm (zaE m) 14).ge;have hM:mMax (d+1)=2 * mMax d+1:=rfl;rw[mTr];dsimp only;split
  ·exact (h0.trans (zo9 _ _).ge).mono (by omega) (by omega)
  have ha:=zkh ids d (zaj (zaE m) 14).2;split
  ·exact (((h0.trans ha).trans (zmH _ _).ge).trans (zkh ids d _)).mono (by omega) (by omega)
  ·exact ((h0.trans ha).trans (one_le _ _ _).ge).mono (by omega) (by omega)
theorem zfy (ids:Int):∀ (d:Nat) (m:Mk),(mTr ids d m).1.size≤mMax d
 |0,m=>zk _
 |d+1,m=>by
  have hM:mMax (d+1)=2 * mMax d+1:=rfl;rw[mTr];dsimp only;split
  ·rw[vH];omega
  have ha:=zfy ids d (zaj (zaE m) 14).2;split
  ·rw[vH];have hb:=zfy ids d (mCnt (8+(zaj (zaE m) 14).1) (mTr ids d (zaj (zaE m) 14).2).2).2;omega
  ·rw[vH];omega
theorem zrU {k:Int} {m:Mk} (hn:0≤mkN m) (hk:1≤k∧k≤8) (hc:¬ (k=8∧mkN (zcY k m).2 > 0)):1≤lfK k (zcY k m).1∧lfK k (zcY k m).1≤7:=by
 unfold zcY at hc ⊢;by_cases h8:k=8
 ·rw[if_pos h8]at hc ⊢;have hz:mkN m=0:=by
   by_cases hz:mkN m=0
   ·exact hz
   ·exact absurd ⟨h8,by show mkN m > 0;omega⟩ hc
  rw[hz];show (1:Int)≤1∧(1:Int)≤7;omega
 ·rw[if_neg h8];have:∀ b:Bool,1≤lfK k b∧lfK k b≤7:=fun b=>by
   cases b with
   |true=>show (1:Int)≤1∧(1:Int)≤7;omega
   |false=>show 1≤k∧k≤7;omega
  exact this _
theorem zgm {n:Nd} (k L:Int) (h:ndK n=k) (hk:¬ (8≤k∧k≤17)) (hL:ndL n=L) (h0:0≤L∧L≤1) (hR:ndR n=0):TrSh (.leaf n):=⟨by rw[h];exact hk,by rw[hL];exact h0,hR⟩
theorem zsF {k c:Int} {m:Mk} (hk:1≤k∧k≤7):TrSh (.leaf (zgw k c m).1):=by
 rcases (show k=1∨k=2∨k=3∨k=4∨k=5∨k=6∨k=7 by omega) with rfl|rfl|rfl|rfl|rfl|rfl|rfl
 ·exact zgm 1 0 rfl (by decide) rfl (by decide) rfl
 ·exact zgm 2 0 rfl (by decide) rfl (by decide) rfl
 ·exact zgm 3 0 rfl (by decide) rfl (by decide) rfl
 ·exact zgm 4 0 rfl (by decide) rfl (by decide) rfl
 ·exact zgm 5 0 rfl (by decide) rfl (by decide) rfl
 ·exact zgm 6 0 rfl (by decide) rfl (by decide) rfl
 ·have:=zaF (zaj (zaj (zaj m 3).2 2).2 7).2 (n:=2) (by decide);exact zgm 7 (zaj (zaj (zaj (zaj m 3).2 2).2 7).2 2).1 rfl (by decide) rfl (by omega) rfl
theorem zo7 (m:Mk) (ids:Int) (hn:0≤mkN m):TrSh (.leaf (zc9 m ids).1):=by
 have hk:=zaF m (n:=8) (by decide);unfold zc9 ziz;dsimp only;split
 ·exact zgm 18 0 rfl (by decide) rfl (by decide) rfl
 ·rename_i hc;exact zsF (zrU (m:=(zaj m 8).2) hn (by omega) hc)
theorem zrN {k ids:Int} {m:Mk}:ndK (mOne k ids m).1=k∧ndL (mOne k ids m).1=0∧ndR (mOne k ids m).1=0:=by
 unfold mOne;split
 ·exact⟨rfl,rfl,rfl⟩
 split
 ·exact⟨rfl,rfl,rfl⟩
 split
 ·exact⟨rfl,rfl,rfl⟩
 ·exact⟨rfl,rfl,rfl⟩
theorem zl7 (ids:Int):∀ (d:Nat) (m:Mk),0≤mkN m->TrSh (mTr ids d m).1
 |0,m,h=>zo7 _ _ h
 |d+1,m,h=>by
  have hp:=zaF (zaE m) (n:=14) (by decide);rw[mTr];dsimp only;split
  ·exact zo7 _ _ h
  rename_i hst;have hs:(zaj (zaE m) 14).1 < 10:=by
   have:¬ zf6 (d+1) (zaj (zaE m) 14)=true:=hst;unfold zf6 at this;simp only[zZ,decide_eq_true_iff,not_or]at this;omega
  have h0:0≤mkN (zaj (zaE m) 14).2:=h;have ha:=zl7 ids d (zaj (zaE m) 14).2 h0;have hg:=(zkh ids d (zaj (zaE m) 14).2).1;split
  ·rename_i ht;have hc:=(zmH (8+(zaj (zaE m) 14).1) (mTr ids d (zaj (zaE m) 14).2).2).1;exact⟨zfl.1 ht,ha,zl7 ids d _ (by rw[hc,hg];exact h0)⟩
  ·rename_i ht;obtain⟨e1,_,e3⟩:=zrN (k:=8+(zaj (zaE m) 14).1) (ids:=ids) (m:=(mTr ids d (zaj (zaE m) 14).2).2);refine⟨?_,e3,ha⟩;rw[e1];rw[zfl]at ht;omega
def zgA (D:Nat):RCtr:={ self:=mkr,args:=[i64,i64],inv:=fun _ _=>True,pre:=fun m xs=>[0≤xs.1,xs.1 < (D:Int),mMax xs.1.toNat≤10000,0≤mkU m∧mkU m+20 * ((mMax xs.1.toNat:Nat):Int)≤500000,0≤mkN m∧mkN m≤1000000,0≤mkS m∧mkS m+((mMax xs.1.toNat:Nat):Int)≤500000,0 < xs.2.1∧xs.2.1≤1000000],res:=.slice nd,out:=fun m xs=>(mTr xs.2.1 xs.1.toNat m).1.flat 0,post:=fun m xs=>(mTr xs.2.1 xs.1.toNat m).2 }
theorem zoP:∀ d:Nat,d≤mMax d
 |0=>zm _
 |d+1=>by have:=zoP d;show d+1≤2 * mMax d+1;omega
theorem zqR {ids:Int} {d:Nat} {m:Mk} (h:zf6 d (zaj (zaE m) 14)=true):mTr ids d m=(.leaf (zc9 (zaj (zaE m) 14).2 ids).1,(zc9 (zaj (zaE m) 14).2 ids).2):=by
 cases d with
 |zero=>rfl
 |succ d=>rw[mTr];exact if_pos h
theorem mTr_go {ids:Int} {d:Nat} {m:Mk} (h:¬ zf6 (d+1) (zaj (zaE m) 14)=true):mTr ids (d+1) m=if two (8+(zaj (zaE m) 14).1)=true then
  (.bin (8+(zaj (zaE m) 14).1,0,0,0,(mCnt (8+(zaj (zaE m) 14).1) (mTr ids d (zaj (zaE m) 14).2).2).1,0,[],[],()) (mTr ids d (zaj (zaE m) 14).2).1 (mTr ids d (mCnt (8+(zaj (zaE m) 14).1) (mTr ids d (zaj (zaE m) 14).2).2).2).1,(mTr ids d (mCnt (8+(zaj (zaE m) 14).1) (mTr ids d (zaj (zaE m) 14).2).2).2).2)
  else (.un (mOne (8+(zaj (zaE m) 14).1) ids (mTr ids d (zaj (zaE m) 14).2).2).1 (mTr ids d (zaj (zaE m) 14).2).1,(mOne (8+(zaj (zaE m) 14).1) ids (mTr ids d (zaj (zaE m) 14).2).2).2):=by
 rw[mTr];exact if_neg h
def kRu (D:Nat):Kn:={ gmK with C:=[(94,cTwo),(97,cOver),(95,cBoth)],R:=[(92,zrw),(96,zlG),(93,zsb),(58,zgA D)] }
theorem kRu_ok {D:Nat} (ih:zeY Tryz.prog gmG 58 (zgA D)):KnOk Tryz.prog gmG (kRu D):=
 { zaH.with (.cons zrE (.cons zsK (.cons ztT .nil))) with r:=.cons zla (fun _ _=>trivial) (.cons zj3 (fun _ _=>trivial) (.cons zqM (fun _ _=>trivial) (.cons ih (fun _ _=>trivial) .nil))) }
theorem ztS {x y:Mk} (h:x=y):some (OObj.box mkr x)=some (OObj.box mkr y):=by rw[h]
abbrev sRu (m:Mk) (d:Nat) (ids k:Int) (n:Nd) (a:List Nd):AS:=⟨[(0,⟨.optr mkr,⟨0,mkr,.here⟩⟩),(1,⟨i64,(d:Int)⟩),(2,⟨i64,ids⟩),(8,⟨.optr nd,⟨1,nd,.here⟩⟩),(9,⟨.slice nd,a⟩)],[(0,some (.box mkr m)),(1,some (.box nd n))],2⟩
theorem zoj (D:Nat) (ih:zeY Tryz.prog gmG 58 (zgA D)):zeY Tryz.prog gmG 58 (zgA (D+1)):=by
 have hK:=kRu_ok ih;refine zdU (K:=kRu D) hK Tryz.func58 rfl rfl Tryz.call58 rfl (zb rfl) (fun w w' g hg h hk=>trivial) ?_;rintro w0 O g hX hinv (m:Mk) ⟨(d:Int),(ids:Int),_⟩ hp;obtain⟨d,rfl⟩:∃ e:Nat,d=(e:Int):=⟨d.toNat,by have:0≤d:=hp.1;omega⟩;obtain⟨h0,hD,hM,⟨h1,h2⟩,⟨h3,h4⟩,⟨h5,h6⟩,h7,h8⟩:0≤(d:Int)∧(d:Int) < ((D+1:Nat):Int)∧mMax d≤10000∧(0≤mkU m∧mkU m+20 * ((mMax d:Nat):Int)≤500000)∧(0≤mkN m∧mkN m≤1000000)∧(0≤mkS m∧mkS m+((mMax d:Nat):Int)≤500000)∧0 < ids∧ids≤1000000:=hp;have hout:(zgA (D+1)).out m ((d:Int),ids,())=(mTr ids d m).1.flat 0:=rfl;have hpost:(zgA (D+1)).post m ((d:Int),ids,())=(mTr ids d m).2:=rfl;change AWP _ _ _ _ _ ⟨[(0,⟨.optr mkr,⟨0,mkr,.here⟩⟩),(1,⟨i64,(d:Int)⟩),(2,⟨i64,ids⟩)],[(0,some (.box mkr m))],1⟩ _;obtain⟨R,hRR⟩:∃ R,R=mTr ids d m:=⟨_,rfl⟩;have i1:inR .i64 (mkS m+1):=zan (by omega) (by omega);refine za (za ?_);refine zaa hX hK rfl ?_ ?_
 ·trivial
 refine za (za ?_);refine zaa hX hK rfl ?_ ?_
 ·exact i1
 have g1:0≤mkU (zaE m):=h1;have g2:mkU (zaE m)≤1000000:=by show mkU m≤_;omega
 refine zaq (σ':=⟨[(0,⟨.optr mkr,⟨0,mkr,.here⟩⟩),(1,⟨i64,(d:Int)⟩),(2,⟨i64,ids⟩)],[(0,some (.box mkr (zaE m)))],1⟩) ⟨⟨rfl,rfl,rfl,trivial⟩,⟨rfl,trivial⟩,rfl,rfl⟩ ?_;have hge:=(zlq m).trans (zbm (zaE m) 14).ge;have hk:=zaF (zaE m) (n:=14) (by decide);refine za (za ?_);refine zaa hX hK rfl ?_ ?_
 ·repeat'(first|exact trivial|assumption|exact g1|exact g2|(refine⟨?_,?_⟩)|(intro _)|exact zb rfl|exact zi _|(simp_all [allP];done))
 have hstop:=@zqR ids d m;rw[<-hRR]at hstop;have hgo:=@mTr_go ids (d - 1) m;obtain⟨p,hP⟩:∃ p,p=zaj (zaE m) 14:=⟨_,rfl⟩;rw[<-hP]at hstop hgo hge hk;refine zaq (σ':=⟨[(0,⟨.optr mkr,⟨0,mkr,.here⟩⟩),(1,⟨i64,(d:Int)⟩),(2,⟨i64,ids⟩),(7,⟨i64,p.1⟩)],[(0,some (.box mkr p.2))],1⟩) ⟨⟨rfl,rfl,rfl,by rw[hP];rfl,trivial⟩,⟨ztS (by rw[hP];rfl),trivial⟩,rfl,rfl⟩ ?_;clear hP;obtain⟨(k:Int),(m1:Mk)⟩:=p;have hk:0≤k∧k < 14:=hk;obtain⟨e1,e2,⟨e3,e4⟩,e5,e6⟩:MkGe (0+1) (1+0) m m1:=hge;have hM1:1≤mMax d:=by cases d with
  |zero=>exact zk _
  |succ d=>show 1≤2 * mMax d+1;omega
 have hstop:zf6 d (k,m1)=true->R=(.leaf (zc9 m1 ids).1,(zc9 m1 ids).2):=hstop;have hq:(bif (bif (bif decide ((d:Int)≤0) then true else decide (mkU m1 > (((mkD m1).length:Nat):Int))) then true else decide (mkS m1 > 30)) then true else decide (k≥10))=zf6 d (k,m1):=by
  rw[b_or,b_or,b_or];unfold zf6;have:decide ((d:Int)≤0)=decide (d=0):=decide_eq_decide.2 (by omega);rw[this]
 change AWP _ _ _ _ _ ⟨[(0,⟨.optr mkr,⟨0,mkr,.here⟩⟩),(1,⟨i64,(d:Int)⟩),(2,⟨i64,ids⟩),(7,⟨i64,k⟩)],[(0,some (.box mkr m1))],1⟩ _;(repeat(first|apply zae|apply zab|apply zac|apply zad));refine kV dM hX hK 24 (by kernel_rfl) rfl rfl ?_ ?_ ?_
 ·repeat'(first|exact trivial|assumption|(refine⟨?_,?_⟩)|(intro _)|exact zb rfl|exact zi _|(simp_all [allP];done))
 ·repeat'(first|exact trivial|assumption|(refine⟨?_,?_⟩)|(intro _)|exact zb rfl|exact zi _|(simp_all [allP];done))
 refine zaf rfl (fun hc=>?_) (fun hc=>?_)
 ·have hc:=hq.symm.trans hc;have hR:=hstop hc;have j1:0≤mkU m1:=by omega
  have j2:mkU m1≤800000:=by omega
  have j3:0≤mkN m1:=by omega
  have j4:mkN m1≤1000000:=by omega
  refine za (za ?_);refine zaa hX hK rfl ?_ ?_
  ·repeat'(first|exact trivial|assumption|exact j1|exact j2|exact j3|exact j4|exact h7|exact h8|(refine⟨?_,?_⟩)|(intro _)|exact zb rfl|exact zi _|(simp_all [allP];done))
  refine qW hX 6 ?_;refine zq ⟨.inr rfl,?_,zax rfl trivial rfl rfl ?_⟩
  ·show some (OObj.box mkr (zc9 m1 ids).2)=some (OObj.box mkr (mTr ids d m).2);rw[<-hRR,hR]
  ·show [(zc9 m1 ids).1]=(mTr ids d m).1.flat 0;rw[<-hRR,hR];rfl
 have hc:=hq.symm.trans hc;have hd0:d≠0:=fun h=>by
  have:zf6 d (k,m1)=true:=by unfold zf6;rw[decide_eq_true h];rfl
  rw[this]at hc;cases hc
 obtain⟨d,rfl⟩:∃ e,d=e+1:=⟨d - 1,by omega⟩;have hk10:k < 10:=by
  unfold zf6 at hc;simp only[xN,decide_eq_false_iff_not]at hc;have:=hc.2;omega
 have hR:=hgo (by rw[show d+1 - 1+1=d+1 by omega,hc];decide);rw[show d+1 - 1=d by omega, <-hRR]at hR;clear hgo hstop hq hc;have hR:R=if two (8+k)=true then (.bin (8+k,0,0,0,(mCnt (8+k) (mTr ids d m1).2).1,0,[],[],()) (mTr ids d m1).1 (mTr ids d (mCnt (8+k) (mTr ids d m1).2).2).1,(mTr ids d (mCnt (8+k) (mTr ids d m1).2).2).2)
  else (.un (mOne (8+k) ids (mTr ids d m1).2).1 (mTr ids d m1).1,(mOne (8+k) ids (mTr ids d m1).2).2):=hR
 have hMM:mMax (d+1)=2 * mMax d+1:=rfl;have n1:0≤((d+1:Nat):Int) - 1:=by omega
 have n2:((d+1:Nat):Int) - 1 < (D:Int):=by omega
 have n3:(((d+1:Nat):Int) - 1).toNat=d:=by omega
 have n4:mMax (((d+1:Nat):Int) - 1).toNat≤10000:=by rw[n3];omega
 have n5:0≤mkU m1∧mkU m1+20 * ((mMax (((d+1:Nat):Int) - 1).toNat:Nat):Int)≤500000:=by rw[n3];omega
 have n6:0≤mkN m1∧mkN m1≤1000000:=by omega
 have n7:0≤mkS m1∧mkS m1+((mMax (((d+1:Nat):Int) - 1).toNat:Nat):Int)≤500000:=by rw[n3];omega
 have n8:0 < ids∧ids≤1000000:=⟨h7,h8⟩;have n9:inR .i64 (((d+1:Nat):Int) - 1):=zan (by omega) (by have:=zoP d;omega);have n10:inR .i64 (8+k):=zan (by omega) (by omega);refine za (za ?_);refine zaa hX hK rfl ?_ ?_
 ·exact n10
 refine za (za ?_);refine zaa hX hK rfl ?_ ?_
 ·exact⟨n9,n1,n2,n4,n5,n6,n7,n8⟩
 refine zaq (σ':=sRu (mTr ids d m1).2 (d+1) ids (8+k) (8+k,0,0,0,0,0,[],[],()) ((mTr ids d m1).1.flat 0)) ⟨⟨rfl,rfl,rfl,rfl,by show (⟨.slice nd,(mTr ids (((d+1:Nat):Int) - 1).toNat m1).1.flat 0⟩:V)=_;rw[n3],trivial⟩,⟨ztS (by show (mTr ids (((d+1:Nat):Int) - 1).toNat m1).2=_;rw[n3]),rfl,trivial⟩,rfl,rfl⟩ ?_;have sh:=zl7 ids d m1 n6.1;have sz:=zfy ids d m1;have ge:=zkh ids d m1;generalize mTr ids d m1=A at *;obtain⟨(a:Tr),(m2:Mk)⟩:=A;have sh:TrSh a:=sh;have sz:a.size≤mMax d:=sz;obtain⟨f1,f2,⟨f3,f4⟩,f5,f6⟩:MkGe (20 * mMax d) (mMax d) m1 m2:=ge;have sa:=zdS a;have la:=xo a 0;have hR:R=if two (8+k)=true then (.bin (8+k,0,0,0,(mCnt (8+k) m2).1,0,[],[],()) a (mTr ids d (mCnt (8+k) m2).2).1,(mTr ids d (mCnt (8+k) m2).2).2)
  else (.un (mOne (8+k) ids m2).1 a,(mOne (8+k) ids m2).2):=hR
 show AWP _ _ _ _ _ (sRu m2 (d+1) ids (8+k) (8+k,0,0,0,0,0,[],[],()) (a.flat 0)) _;generalize hkk:8+k=c at *;have hc1:8≤c∧c≤17:=by omega
 have w1:0≤mkU m2:=by omega
 have w2:mkU m2≤1000000:=by omega
 have w3:mkU m2≤900000:=by omega
 refine za (za ?_);refine zaa hX hK rfl ?_ ?_
 ·trivial
 refine zaf rfl (fun hc=>?_) (fun hc=>?_)
 ·have hc:two c=true:=hc;rw[if_pos hc]at hR;apply zae;refine jh (σ':=sRu (mCnt c m2).2 (d+1) ids c (c,0,0,0,(mCnt c m2).1,0,[],[],()) (a.flat 0)) ?_ ?_
  ·refine za (za ?_);refine zaa hX hK rfl ?_ ?_
   ·trivial
   refine zaf rfl (fun hb=>?_) (fun hb=>?_)
   ·have hb:(c==17)=true:=hb;have e:mCnt c m2=(1+(zaj m2 3).1,(zaj m2 3).2):=if_pos (eq_of_beq hb);have hp:=zaF m2 (n:=3) (by decide);have z1:inR .i64 (1+(zaj m2 3).1):=zan (by omega) (by omega);rw[e];refine za (za ?_);refine zaa hX hK rfl ?_ ?_
    ·repeat'(first|exact trivial|assumption|exact w1|exact w2|exact z1|(refine⟨?_,?_⟩)|(intro _)|exact zb rfl|exact zi _|(simp_all [allP];done))
    exact⟨⟨rfl,rfl,rfl,rfl,rfl,trivial⟩,⟨rfl,rfl,trivial⟩,rfl,rfl⟩
   ·have hb:(c==17)=false:=hb;have e:mCnt c m2=(0,m2):=if_neg (by simpa using hb);rw[e];apply zab;exact⟨⟨rfl,rfl,rfl,rfl,rfl,trivial⟩,⟨rfl,rfl,trivial⟩,rfl,rfl⟩
  obtain⟨x1,x2,x3,x4,x5⟩:MkLe 1 m2 (mCnt c m2).2:=zmH c m2;generalize mCnt c m2=q at *;obtain⟨(cn:Int),(m3:Mk)⟩:=q;have x1:mkN m3=mkN m2:=x1;have x2:mkS m3=mkS m2:=x2;have x4:mkU m2≤mkU m3:=x4;have x5:mkU m3≤mkU m2+((1:Nat):Int):=x5;have hR:R=(.bin (c,0,0,0,cn,0,[],[],()) a (mTr ids d m3).1,(mTr ids d m3).2):=hR;have v5:0≤mkU m3∧mkU m3+20 * ((mMax (((d+1:Nat):Int) - 1).toNat:Nat):Int)≤500000:=by rw[n3];omega
  have v6:0≤mkN m3∧mkN m3≤1000000:=by omega
  have v7:0≤mkS m3∧mkS m3+((mMax (((d+1:Nat):Int) - 1).toNat:Nat):Int)≤500000:=by rw[n3];omega
  refine za (za ?_);refine zaa hX hK rfl ?_ ?_
  ·exact⟨n9,n1,n2,n4,v5,v6,v7,n8⟩
  have sb:=zl7 ids d m3 v6.1;have sz2:=zfy ids d m3;have lb:=xo (mTr ids d m3).1 0;have hb4:=zjm (mTr ids d m3).1 0 sb;have q1:1≤(a.flat 0).length:=by omega
  have q2:(a.flat 0).length≤100000:=by omega
  have q3:((mTr ids (((d+1:Nat):Int) - 1).toNat m3).1.flat 0).length≤100000:=by rw[n3];omega
  have q4:∀ n∈(mTr ids (((d+1:Nat):Int) - 1).toNat m3).1.flat 0,(-1000000≤ndL n∧ndL n≤1000000)∧(-1000000≤ndR n∧ndR n≤1000000):=by
   rw[n3];intro n hn;have:=hb4 n hn;omega
  refine za (za ?_);refine zaa hX hK rfl ?_ ?_
  ·exact⟨q1,q2,q3,q4⟩
  refine zq ⟨.inr rfl,?_,zax rfl trivial rfl rfl ?_⟩
  ·show some (OObj.box mkr (mTr ids (((d+1:Nat):Int) - 1).toNat m3).2)=some (OObj.box mkr (mTr ids (d+1) m).2);rw[<-hRR,hR,n3]
  ·show zry (a.flat 0) ((mTr ids (((d+1:Nat):Int) - 1).toNat m3).1.flat 0) (c,0,0,0,cn,0,[],[],())=(mTr ids (d+1) m).1.flat 0;rw[<-hRR,hR,n3,zpT a (mTr ids d m3).1 _ sb]
 ·have hc:two c=false:=hc;rw[hc,if_neg (by decide)]at hR;have hn2:¬ two c=true:=by rw[hc];decide
  rw[zfl]at hn2;apply zab;refine za (za ?_);refine zaa hX hK rfl ?_ ?_
  ·trivial
  refine jh (σ':=sRu (mOne c ids m2).2 (d+1) ids c (mOne c ids m2).1 (a.flat 0)) ?_ ?_
  ·apply zac;clear hR hkk n10;rcases (show c=11∨c=12∨c=13∨c=14∨c=15∨c=16 by omega) with rfl|rfl|rfl|rfl|rfl|rfl
   ·skip
    refine za (za ?_);refine zaa hX hK rfl ?_ ?_
    ·trivial
    refine zaf rfl (fun _=>?_) (fun hb=>absurd (show ((11:Int)==11)=false from hb) (by decide));have hp:=zaF m2 (n:=15) (by decide);have z1:inR .i64 ((zaj m2 15).1 - 7):=zan (by omega) (by omega);refine za (za ?_);refine zaa hX hK rfl ?_ ?_
    ·repeat'(first|exact trivial|assumption|exact w1|exact w2|exact z1|(refine⟨?_,?_⟩)|(intro _)|exact zb rfl|exact zi _|(simp_all [allP];done))
    exact⟨⟨rfl,rfl,rfl,rfl,rfl,trivial⟩,⟨rfl,rfl,trivial⟩,rfl,rfl⟩
   ·skip
    refine za (za ?_);refine zaa hX hK rfl ?_ ?_
    ·trivial
    refine zaf rfl (fun hb=>absurd (show ((12:Int)==11)=true from hb) (by decide)) (fun _=>?_);refine za (za ?_);refine zaa hX hK rfl ?_ ?_
    ·trivial
    refine zaf rfl (fun _=>?_) (fun hb=>absurd (show ((12:Int)==12)=false from hb) (by decide));apply zab;refine zaf rfl (fun _=>?_) (fun hb=>absurd (show ((12:Int)==12)=false from hb) (by decide));refine za (za ?_);refine zaa hX hK rfl ?_ ?_
    ·repeat'(first|exact trivial|assumption|exact w1|exact w2|(refine⟨?_,?_⟩)|(intro _)|exact zb rfl|exact zi _|(simp_all [allP];done))
    exact⟨⟨rfl,rfl,rfl,rfl,rfl,trivial⟩,⟨rfl,rfl,trivial⟩,rfl,rfl⟩
   ·skip
    refine za (za ?_);refine zaa hX hK rfl ?_ ?_
    ·trivial
    refine zaf rfl (fun hb=>absurd (show ((13:Int)==11)=true from hb) (by decide)) (fun _=>?_);refine za (za ?_);refine zaa hX hK rfl ?_ ?_
    ·trivial
    refine zaf rfl (fun hb=>absurd (show ((13:Int)==12)=true from hb) (by decide)) (fun _=>?_);refine za (za ?_);refine zaa hX hK rfl ?_ ?_
    ·trivial
    refine zaf rfl (fun _=>?_) (fun hb=>absurd (show ((13:Int)==13)=false from hb) (by decide));refine za (za ?_);refine zaa hX hK rfl ?_ ?_
    ·repeat'(first|exact trivial|assumption|exact w1|exact w2|(refine⟨?_,?_⟩)|(intro _)|exact zb rfl|exact zi _|(simp_all [allP];done))
    exact⟨⟨rfl,rfl,rfl,rfl,rfl,trivial⟩,⟨rfl,rfl,trivial⟩,rfl,rfl⟩
   ·skip
    refine za (za ?_);refine zaa hX hK rfl ?_ ?_
    ·trivial
    refine zaf rfl (fun hb=>absurd (show ((14:Int)==11)=true from hb) (by decide)) (fun _=>?_);refine za (za ?_);refine zaa hX hK rfl ?_ ?_
    ·trivial
    refine zaf rfl (fun hb=>absurd (show ((14:Int)==12)=true from hb) (by decide)) (fun _=>?_);refine za (za ?_);refine zaa hX hK rfl ?_ ?_
    ·trivial
    refine zaf rfl (fun hb=>absurd (show ((14:Int)==13)=true from hb) (by decide)) (fun _=>?_);refine za (za ?_);refine zaa hX hK rfl ?_ ?_
    ·trivial
    refine zaf rfl (fun _=>?_) (fun hb=>absurd (show ((14:Int)==14)=false from hb) (by decide));apply zab;refine zaf rfl (fun _=>?_) (fun hb=>absurd (show ((14:Int)==14)=false from hb) (by decide));refine za (za ?_);refine zaa hX hK rfl ?_ ?_
    ·repeat'(first|exact trivial|assumption|exact w1|exact w3|(refine⟨?_,?_⟩)|(intro _)|exact zb rfl|exact zi _|(simp_all [allP];done))
    exact⟨⟨rfl,rfl,rfl,rfl,rfl,trivial⟩,⟨rfl,rfl,trivial⟩,rfl,rfl⟩
   ·skip
    refine za (za ?_);refine zaa hX hK rfl ?_ ?_
    ·trivial
    refine zaf rfl (fun hb=>absurd (show ((15:Int)==11)=true from hb) (by decide)) (fun _=>?_);refine za (za ?_);refine zaa hX hK rfl ?_ ?_
    ·trivial
    refine zaf rfl (fun hb=>absurd (show ((15:Int)==12)=true from hb) (by decide)) (fun _=>?_);refine za (za ?_);refine zaa hX hK rfl ?_ ?_
    ·trivial
    refine zaf rfl (fun hb=>absurd (show ((15:Int)==13)=true from hb) (by decide)) (fun _=>?_);refine za (za ?_);refine zaa hX hK rfl ?_ ?_
    ·trivial
    refine zaf rfl (fun hb=>absurd (show ((15:Int)==14)=true from hb) (by decide)) (fun _=>?_);refine za (za ?_);refine zaa hX hK rfl ?_ ?_
    ·trivial
    refine zaf rfl (fun _=>?_) (fun hb=>absurd (show ((15:Int)==15)=false from hb) (by decide));refine za (za ?_);refine zaa hX hK rfl ?_ ?_
    ·repeat'(first|exact trivial|assumption|exact w1|exact w3|(refine⟨?_,?_⟩)|(intro _)|exact zb rfl|exact zi _|(simp_all [allP];done))
    exact⟨⟨rfl,rfl,rfl,rfl,rfl,trivial⟩,⟨rfl,rfl,trivial⟩,rfl,rfl⟩
   ·skip
    refine za (za ?_);refine zaa hX hK rfl ?_ ?_
    ·trivial
    refine zaf rfl (fun hb=>absurd (show ((16:Int)==11)=true from hb) (by decide)) (fun _=>?_);refine za (za ?_);refine zaa hX hK rfl ?_ ?_
    ·trivial
    refine zaf rfl (fun hb=>absurd (show ((16:Int)==12)=true from hb) (by decide)) (fun _=>?_);refine za (za ?_);refine zaa hX hK rfl ?_ ?_
    ·trivial
    refine zaf rfl (fun hb=>absurd (show ((16:Int)==13)=true from hb) (by decide)) (fun _=>?_);refine za (za ?_);refine zaa hX hK rfl ?_ ?_
    ·trivial
    refine zaf rfl (fun hb=>absurd (show ((16:Int)==14)=true from hb) (by decide)) (fun _=>?_);refine za (za ?_);refine zaa hX hK rfl ?_ ?_
    ·trivial
    refine zaf rfl (fun hb=>absurd (show ((16:Int)==15)=true from hb) (by decide)) (fun _=>?_);have z2:0≤mkU (zaj m2 ids).2:=by rw[zaW];omega
    have z3:mkU (zaj m2 ids).2≤1000000:=by rw[zaW];omega
    have z4:0≤mkU (zaj (zaj m2 ids).2 2).2:=by rw[zaW,zaW];omega
    have z5:mkU (zaj (zaj m2 ids).2 2).2≤900000:=by rw[zaW,zaW];omega
    have z6:ids≤1000000000:=by omega
    refine za (za ?_);refine zaa hX hK rfl ?_ ?_
    ·repeat'(first|exact trivial|assumption|exact w1|exact w2|exact h7|exact z6|(refine⟨?_,?_⟩)|(intro _)|exact zb rfl|exact zi _|(simp_all [allP];done))
    refine za (za ?_);refine zaa hX hK rfl ?_ ?_
    ·repeat'(first|exact trivial|assumption|exact z2|exact z3|(refine⟨?_,?_⟩)|(intro _)|exact zb rfl|exact zi _|(simp_all [allP];done))
    refine za (za ?_);refine zaa hX hK rfl ?_ ?_
    ·repeat'(first|exact trivial|assumption|exact z4|exact z5|(refine⟨?_,?_⟩)|(intro _)|exact zb rfl|exact zi _|(simp_all [allP];done))
    exact⟨⟨rfl,rfl,rfl,rfl,rfl,trivial⟩,⟨rfl,rfl,trivial⟩,rfl,rfl⟩
  show AWP _ _ _ _ _ (sRu (mOne c ids m2).2 (d+1) ids c (mOne c ids m2).1 (a.flat 0)) _;have q2:(a.flat 0).length≤1000000:=by omega
  refine za (za ?_);refine zaa hX hK rfl ?_ ?_
  ·exact q2
  refine zq ⟨.inr rfl,?_,zax rfl trivial rfl rfl ?_⟩
  ·show some (OObj.box mkr (mOne c ids m2).2)=some (OObj.box mkr (mTr ids (d+1) m).2);rw[<-hRR,hR]
  ·show zqG (a.flat 0) (mOne c ids m2).1=(mTr ids (d+1) m).1.flat 0;rw[<-hRR,hR,zoC]
theorem zqK (D:Nat):zeY Tryz.prog gmG 58 (zgA D):=by
 induction D with
 |zero=>
  refine⟨Tryz.call58,fun w O g cs ty x xs vs _ _ _ _ hp=>?_⟩;obtain⟨(d:Int),(ids:Int),_⟩:=xs;have h1:0≤d:=hp.1;have h2:d < ((0:Nat):Int):=hp.2.1;omega
 |succ D ih=>exact zoj D ih
set_option maxRecDepth 10000
theorem zdt {lo hi lo' hi':Int} {z:Bool} (h1:lo'≤lo) (h2:hi≤hi'):∀ {l:List Int} {a b:Int},b≤a->Ris lo hi z a l->Ris lo' hi' z b l
 | [],_,_,_,_=>trivial
 |x::r,a,b,hab,h=>by
  obtain⟨p,q,s,t,u⟩:=h;exact⟨by omega,by omega,by omega,t,zdt h1 h2 (xC _) u⟩
theorem zja {lo hi:Int} {z:Bool} (hz:z=true∨¬ 0≤lo):∀ (k:Nat) (m:Mk) (v:Int) (acc:List Int),Ris lo hi z (lo - 1) acc->acc.getLast?.getD (lo - 1) < v->lo≤v->Ris lo hi z (lo - 1) (mRis lo hi k m v acc).1∧(mRis lo hi k m v acc).1.length≤acc.length+k
 |0,m,v,acc,h,_,_=>⟨h,zk _⟩
 |k+1,m,v,acc,h,hl,hv=>by
  have hp:=zaF m (n:=3) (by decide);rw[mRis];split
  ·rename_i hvh;split
   ·rename_i hc;have h2:=zlV (z:=z) hv hvh (by
     rcases hz with hz|hz
     ·exact .inl hz
     ·exact .inr (hc.resolve_right hz)) h hl
    obtain⟨a,b⟩:=zja hz k (zaj m 3).2 (v+1+(zaj m 3).1) (acc++ [v]) h2 (by rw[List.getLast?_append];show v < _;omega) (by omega);refine⟨a,?_⟩;rw[zf,yp]at b;omega
   ·obtain⟨a,b⟩:=zja hz k (zaj m 3).2 (v+1+(zaj m 3).1) acc h (by omega) (by omega);exact⟨a,by omega⟩
  ·exact⟨h,by show acc.length≤_;omega⟩
theorem zcI (m:Mk) {lo hi:Int} {z:Bool} (hz:z=true∨¬ 0≤lo) (hz2:z=true∨hi≠0) (hl:lo≤hi):(zaI m lo hi).1≠ []∧(zaI m lo hi).1.length≤4∧Ris lo hi z (lo - 1) (zaI m lo hi).1:=by
 have hp:=zaF m (n:=4) (by decide);have hq:=zaF (zaj m 4).2 (n:=hi - lo+1) (by omega);obtain⟨a,b⟩:=zja hz (hi:=hi) (1+(zaj m 4).1).toNat (zaj (zaj m 4).2 (hi - lo+1)).2 (lo+(zaj (zaj m 4).2 (hi - lo+1)).1) [] trivial (by show lo - 1 < _;omega) (by omega);unfold zaI orHi;dsimp only;split
 ·exact⟨by simp,by simp,⟨by omega,hl,xC _,hz2,trivial⟩⟩
 ·rename_i hne;refine⟨fun e=>hne (by rw[e];rfl),?_,a⟩;rw[zY]at b;omega
def zdG (x:Int):Prop:=-1000 < x∧x < 1000
def NdSm (n:Nd):Prop:=(zdG (ndC n)∧zdG (ndN n)∧zdG (ndM n))∧(∀ x∈ndI n,zdG x)∧(ndI n).length≤5∧(ndS n).length≤20
theorem zrI {x:Int} (h:zdG x):(deI x).length≤4:=by
 unfold deI jS;have e:(10:Nat) ^ (2+1)=1000:=by decide
 obtain⟨h0,h1⟩:=h;split
 ·rw[zt];have:=zfN 2 x.natAbs (by rw[e];omega);omega
 ·have:=zfN 2 x.toNat (by rw[e];omega);omega
theorem ziv {l:List Int} (h:∀ n∈l,zdG n):(zdz l).length≤5 * l.length:=by
 induction l with
 |nil=>exact zk _
 |cons n l ih=>
  have h1:=zrI (h n (zR ..));have h2:=ih fun m hm=>h m (yg _ hm);show ((32::deI n)++zdz l).length≤_;rw[zf,zt,zt];omega
theorem zhm:∀ (l:List Int) (i:Nat),(∀ n∈l,zdG n)->(litS i l).length≤6 * l.length
 | [],i,_=>zk _
 |n::l,i,h=>by
  have h1:=zrI (h n (zR ..));have h2:=zhm l (i+1) fun m hm=>h m (yg _ hm);have h3:=ziY i;show (sepS i++deI n++litS (i+1) l).length≤_;rw[zf,zf,zt];omega
theorem znr {n:Nd} (h:NdSm n):(zc6 n).length≤90:=by
 obtain⟨⟨hC,hN,hM⟩,hI,hl,hs⟩:=h;have l1:∀ w:List UInt8,w.length≤10->∀ l:List Int,l.length≤3->(∀ x∈l,zdG x)->(putS w l).length≤25:=fun w hw l hl hx=>by
  have:=ziv hx;unfold putS;rw[zf];omega
 have l2:(zbT (ndI n)).length≤31:=by
  have:=zhm (ndI n) 0 hI;unfold zbT;rw[zf,yp];omega
 have p0:∀ x∈([]:List Int),zdG x:=fun x hx=>by cases hx
 have p1:∀ x∈ [ndC n],zdG x:=fun x hx=>by rw[zu.1 hx];exact hC
 have p2:∀ x∈ [ndN n,ndM n],zdG x:=fun x hx=>by
  rcases zX.1 hx with rfl|hx
  ·exact hN
  ·rw[zu.1 hx];exact hM
 have p3:∀ x∈ [ndC n,ndN n,ndM n],zdG x:=fun x hx=>by
  rcases zX.1 hx with rfl|hx
  ·exact hC
  ·exact p2 x hx
 unfold zc6;split
 ·exact zE (l1 _ (by decide) _ (by simp) p2) (by decide)
 split
 ·exact zE (l1 _ (by decide) _ (by simp) p3) (by decide)
 split
 ·rw[zf];have:=l1 zcj (by decide) _ (by simp) p1;omega
 split
 ·rw[zf];have:=l1 za5 (by decide) _ (by simp) p1;omega
 split
 ·rw[zf];have:=l1 zbl (by decide) _ (by simp) p0;omega
 split
 ·rw[zf];have:=l1 zdf (by decide) _ (by simp) p1;omega
 split
 ·rw[zf];have:=l1 wNth (by decide) _ (by simp) p3;have:=l1 (zb2 (ndL n)) (zcH _) [] (by decide) p0;omega
 split
 ·show (64::ndS n++ []).length≤_;rw[zI,zt];omega
 ·exact zm _
theorem zjP {n:Nd} (b:List UInt8) (h:NdSm n):(zca b n).length≤90+b.length:=by
 obtain⟨⟨hC,hN,hM⟩,hI,hl,hs⟩:=h;have l1:∀ w:List UInt8,w.length≤10->∀ l:List Int,l.length≤3->(∀ x∈l,zdG x)->(putS w l).length≤25:=fun w hw l hl hx=>by
  have:=ziv hx;unfold putS;rw[zf];omega
 have l2:(zbT (ndI n)).length≤31:=by
  have:=zhm (ndI n) 0 hI;unfold zbT;rw[zf,yp];omega
 have p0:∀ x∈([]:List Int),zdG x:=fun x hx=>by cases hx
 have p1:∀ x∈ [ndC n],zdG x:=fun x hx=>by rw[zu.1 hx];exact hC
 have p2:∀ x∈ [ndN n],zdG x:=fun x hx=>by rw[zu.1 hx];exact hN
 unfold zca;split
 ·have:=l1 (spW zeQ) (by decide) _ (by simp) p2;omega
 split
 ·have:=l1 (spW zhW) (by decide) _ (by simp) p2;omega
 split
 ·have:=l1 (spW zeP) (by decide) _ (by simp) p2;omega
 split
 ·rw[zf];have:=l1 (spW zeZ) (by decide) _ (by simp) p0;omega
 split
 ·rw[zf];have:=l1 (spW zck) (by decide) _ (by simp) p0;omega
 split
 ·rw[zf,zf];have:=l1 (spW wPos) (by decide) _ (by simp) p1;have:=l1 (zb2 (ndM n)) (zcH _) [] (by decide) p0;omega
 split
 ·rw[zf,zf];have:=l1 (spW zbS) (by decide) _ (by simp) p2;have:=l1 (spW wOf++ [32]) (by decide) [] (by decide) p0;omega
 ·exact zm _
def TrSm:Tr->Prop
 | .leaf n=>NdSm n
 | .un n a=>NdSm n∧TrSm a
 | .bin n a b=>NdSm n∧TrSm a∧TrSm b
theorem zeA:∀ t:Tr,TrSm t->t.text.length≤100 * t.size
 | .leaf n,h=>by
  have:=znr h;show (zc6 n).length≤100 * 1;omega
 | .un n a,h=>by
  have h1:=zjP [] h.1;have h2:=zeA a h.2;have h3:=zcO (decide (a.lev≥4)) a.text;show (parS _ a.text++zca [] n).length≤100 * (a.size+1);rw[zf];rw[zY]at h1;omega
 | .bin n a b,h=>by
  have h1:=zeA a h.2.1;have h2:=zeA b h.2.2;show _≤100 * (a.size+b.size+1);rw[ziO];split
  ·have h3:=zcO (decide (a.lev≥4)) a.text;have h4:=zcO (decide (b.lev≥5)) b.text;have h5:=zjP (parS (decide (b.lev≥5)) b.text) h.1;rw[zf];omega
  ·have h3:=zcO (decide (a.lev≥levS (ndK n))) a.text;have h4:=zcO (decide (b.lev≥levS (ndK n)+1)) b.text;have h5:(putS ([32]++opWd (levS (ndK n))++ [32]) []).length≤20:=by
    have h6:=zjb (ndK n);show (([32]++opWd (levS (ndK n))++ [32])++ []:List UInt8).length≤20;rcases (show levS (ndK n)=1∨levS (ndK n)=2∨levS (ndK n)=3∨levS (ndK n)=4∨levS (ndK n)=5 by omega) with e|e|e|e|e<;>rw[e]<;>decide
   rw[zf,zf];omega
theorem sm0:zdG 0:=⟨by decide,by decide⟩
theorem zgp {lo hi:Int} {z:Bool} (h1: -1000 < lo) (h2:hi < 1000):∀ {l:List Int} {a:Int},Ris lo hi z a l->∀ x∈l,zdG x
 | [],_,_,x,hx=>by cases hx
 |y::r,_,h,x,hx=>by
  obtain⟨_,a,b,_,h⟩:=h;rcases zX.1 hx with rfl|hx
  ·exact⟨by omega,by omega⟩
  ·exact zgp h1 h2 h x hx
theorem nosm:∀ x∈([]:List Int),zdG x:=fun x hx=>by cases hx
theorem zsG {k c:Int} {m:Mk} (hk:1≤k∧k≤7) (hc:0≤c∧c≤2) (hc2:k=1∨k=5->c=0):TrOk (.leaf (zgw k c m).1)∧NdSm (zgw k c m).1:=by
 have sc:zdG c:=⟨by omega,by omega⟩;have p20:(([]:List UInt8)).length≤20:=zm _;rcases (show k=1∨k=2∨k=3∨k=4∨k=5∨k=6∨k=7 by omega) with rfl|rfl|rfl|rfl|rfl|rfl|rfl
 ·have h1:=zaF m (n:=12) (by decide);have h2:=zaF (zaj m 12).2 (n:=20) (by decide);obtain rfl:c=0:=hc2 (.inl rfl);show TrOk (.leaf (1,0,0,0,1+(zaj m 12).1,(zaj (zaj m 12).2 20).1,[],[],()))∧NdSm (1,0,0,0,1+(zaj m 12).1,(zaj (zaj m 12).2 20).1,[],[],());generalize hx:1+(zaj m 12).1=x at *;generalize (zaj (zaj m 12).2 20).1=y at *;refine⟨⟨?_,by show ¬ ((8:Int)≤1∧_);omega,rfl,fun _=>rfl⟩,⟨⟨sm0,⟨by show -1000 < x;omega,by show x < 1000;omega⟩,⟨by show -1000 < y;omega,by show y < 1000;omega⟩⟩,nosm,zm _,p20⟩⟩;exact and4 (a:=true) (b:=true) (c:=true) rfl rfl rfl (show (bif inB x 1 1099511627776 then inB y 0 1099511627776 else false)=true by rw[zcE (hi:=1099511627776) (by omega),zcE (hi:=1099511627776) (by omega)];rfl)
 ·have h1:=zaF m (n:=4) (by decide);have h2:=zaF (zaj m 4).2 (n:=1+(zaj m 4).1) (by omega);show TrOk (.leaf (2,c,0,0,1+(zaj m 4).1,(zaj (zaj m 4).2 (1+(zaj m 4).1)).1,[],[],()))∧NdSm (2,c,0,0,1+(zaj m 4).1,(zaj (zaj m 4).2 (1+(zaj m 4).1)).1,[],[],());generalize hx:1+(zaj m 4).1=x at *;generalize (zaj (zaj m 4).2 x).1=y at *;refine⟨⟨?_,by show ¬ ((8:Int)≤2∧_);omega,rfl,fun _=>rfl⟩,⟨⟨sc,⟨by show -1000 < x;omega,by show x < 1000;omega⟩,⟨by show -1000 < y;omega,by show y < 1000;omega⟩⟩,nosm,zm _,p20⟩⟩;exact and4 (a:=true) (b:=inB c 0 2) (c:=true) rfl (zcE hc) rfl (show (bif inB x 1 400 then inB y 0 (x - 1) else false)=true by rw[zcE (by omega),zcE (by omega)];rfl)
 ·obtain⟨a1,a2,a3⟩:=zcI m (lo:=1) (hi:=4) (z:=true) (by decide) (by decide) (by decide);show TrOk (.leaf (3,c,0,0,0,0,(zaI m 1 4).1,[],()))∧NdSm (3,c,0,0,0,0,(zaI m 1 4).1,[],());generalize (zaI m 1 4).1=l at *;refine⟨⟨?_,by show ¬ ((8:Int)≤3∧_);omega,rfl,fun _=>rfl⟩,⟨⟨sc,sm0,sm0⟩,zgp (by decide) (by decide) a3,zE a2 (by decide),p20⟩⟩;exact and4 (a:=decide (l.length≤64)) (b:=inB c 0 2) (c:=zaV l (1,16,())) (d:=true) (decide_eq_true (by omega)) (zcE hc) (zhl (by decide) (by decide) a1 (zdt (by decide) (by decide) (by decide) a3)) rfl
 ·obtain⟨a1,a2,a3⟩:=zcI m (lo:=(-4)) (hi:=7) (z:=false) (by decide) (by decide) (by decide);show TrOk (.leaf (4,c,0,0,0,0,(zaI m (-4) 7).1,[],()))∧NdSm (4,c,0,0,0,0,(zaI m (-4) 7).1,[],());generalize (zaI m (-4) 7).1=l at *;refine⟨⟨?_,by show ¬ ((8:Int)≤4∧_);omega,rfl,fun _=>rfl⟩,⟨⟨sc,sm0,sm0⟩,zgp (by decide) (by decide) a3,zE a2 (by decide),p20⟩⟩;exact and4 (a:=decide (l.length≤64)) (b:=inB c 0 2) (c:=zaV l (-40,40,())) (d:=true) (decide_eq_true (by omega)) (zcE hc) (zhl (by decide) (by decide) a1 (zdt (by decide) (by decide) (by decide) a3)) rfl
 ·obtain rfl:c=0:=hc2 (.inr rfl);obtain⟨a1,a2,a3⟩:=zcI m (lo:=0) (hi:=6) (z:=true) (by decide) (by decide) (by decide);show TrOk (.leaf (5,0,0,0,0,0,(zaI m 0 6).1,[],()))∧NdSm (5,0,0,0,0,0,(zaI m 0 6).1,[],());generalize (zaI m 0 6).1=l at *;refine⟨⟨?_,by show ¬ ((8:Int)≤5∧_);omega,rfl,fun _=>rfl⟩,⟨⟨sc,sm0,sm0⟩,zgp (by decide) (by decide) a3,zE a2 (by decide),p20⟩⟩;exact and4 (a:=decide (l.length≤64)) (b:=true) (c:=zaV l (0,6,())) (d:=true) (decide_eq_true (by omega)) rfl (zhl (by decide) (by decide) a1 (zdt (by decide) (by decide) (by decide) a3)) rfl
 ·obtain⟨a1,a2,a3⟩:=zcI m (lo:=1) (hi:=4) (z:=true) (by decide) (by decide) (by decide);show TrOk (.leaf (6,c,0,0,0,0,(zaI m 1 4).1,[],()))∧NdSm (6,c,0,0,0,0,(zaI m 1 4).1,[],());generalize (zaI m 1 4).1=l at *;refine⟨⟨?_,by show ¬ ((8:Int)≤6∧_);omega,rfl,fun _=>rfl⟩,⟨⟨sc,sm0,sm0⟩,zgp (by decide) (by decide) a3,zE a2 (by decide),p20⟩⟩;exact and4 (a:=decide (l.length≤64)) (b:=inB c 0 2) (c:=zaV l (1,54,())) (d:=true) (decide_eq_true (by omega)) (zcE hc) (zhl (by decide) (by decide) a1 (zdt (by decide) (by decide) (by decide) a3)) rfl
 ·have h1:=zaF m (n:=3) (by decide);have h2:=zaF (zaj (zaj m 3).2 2).2 (n:=7) (by decide);have h3:=zaF (zaj (zaj (zaj m 3).2 2).2 7).2 (n:=2) (by decide);show TrOk (.leaf (7,c,(zaj (zaj (zaj (zaj m 3).2 2).2 7).2 2).1,0,(if (zaj (zaj m 3).2 2).1=1 then -(1+(zaj m 3).1) else 1+(zaj m 3).1),(zaj (zaj (zaj m 3).2 2).2 7).1,[],[],()))∧NdSm (7,c,(zaj (zaj (zaj (zaj m 3).2 2).2 7).2 2).1,0,(if (zaj (zaj m 3).2 2).1=1 then -(1+(zaj m 3).1) else 1+(zaj m 3).1),(zaj (zaj (zaj m 3).2 2).2 7).1,[],[],());have hx:∀ b:Int,-3≤(if b=1 then -(1+(zaj m 3).1) else 1+(zaj m 3).1)∧(if b=1 then -(1+(zaj m 3).1) else 1+(zaj m 3).1)≤3∧(if b=1 then -(1+(zaj m 3).1) else 1+(zaj m 3).1)≠0:=fun b=>by split<;>omega
  have hx:=hx (zaj (zaj m 3).2 2).1;generalize (if (zaj (zaj m 3).2 2).1=1 then -(1+(zaj m 3).1) else 1+(zaj m 3).1)=x at *;generalize (zaj (zaj (zaj m 3).2 2).2 7).1=y at *;generalize (zaj (zaj (zaj (zaj m 3).2 2).2 7).2 2).1=u at *;refine⟨⟨?_,by show ¬ ((8:Int)≤7∧_);omega,rfl,fun e=>absurd rfl e⟩,⟨⟨sc,⟨by show -1000 < x;omega,by show x < 1000;omega⟩,⟨by show -1000 < y;omega,by show y < 1000;omega⟩⟩,nosm,zm _,p20⟩⟩;refine and4 (a:=true) (b:=inB c 0 2) (c:=true) rfl (zcE hc) rfl (show (bif (bif (bif inB x (-60) 60 then !(x==0) else false) then inB y 0 6 else false) then inB u 0 1 else false)=true from ?_);rw[zcE (n:=x) (by omega),zcE (n:=y) (by omega),zcE (n:=u) (lo:=0) (hi:=1) (by omega),beq_eq_false_iff_ne.2 hx.2.2];rfl
theorem zrl {x:Int} (h0:0≤x) (h1:x < 1000000):(deI x).length≤6:=by
 unfold deI jS;rw[if_neg (by omega)];have e:(10:Nat) ^ (5+1)=1000000:=by decide
 exact zfN 5 x.toNat (by rw[e];omega)
theorem nm_ok {x:Int} (h0:0≤x) (h1:x < 1000000):zcv ([110]++deI x)=true∧([110]++deI x).length≤20:=by
 have hl:=zrl h0 h1;have hd:∀ c∈deI x,isPt c=true:=fun c hc=>by
  have e:deI x=yq x.toNat:=by unfold deI jS;rw[if_neg (by omega)]
  rw[e]at hc;unfold isPt;rw[(zes x.toNat).1 c hc,Bool.or_true,Bool.true_or]
 refine⟨?_,by rw[zf,yp];omega⟩;unfold zcv;rw[zd,zd,zd,decide_eq_true_iff,decide_eq_true_iff];refine⟨⟨by simp,by rw[zf,yp];omega⟩,rfl,?_⟩;rw[zT];intro c hc;rcases yz.1 hc with hc|hc
 ·rw[zu.1 hc];decide
 ·exact hd c hc
theorem zr4 {k:Int} {m:Mk}:(0≤(zd7 k m 3).1∧(zd7 k m 3).1≤2)∧(k=1∨k=5->(zd7 k m 3).1=0):=by
 unfold zd7;split
 ·rename_i h;have:=zaF m (n:=3) (by decide);exact⟨by omega,fun e=>by omega⟩
 ·exact⟨by show (0:Int)≤0∧(0:Int)≤2;omega,fun _=>rfl⟩
theorem zo6 (m:Mk) (hn:0≤mkN m) (hn2:mkN m≤1000000):TrOk (.leaf (zc9 m 3).1)∧NdSm (zc9 m 3).1:=by
 have hk:=zaF m (n:=8) (by decide);unfold zc9 ziz;dsimp only;split
 ·rename_i hc;have h1:mkN (zcY (1+(zaj m 8).1) (zaj m 8).2).2=mkN m:=(zrG _ _).1;have h2:=zaF (zcY (1+(zaj m 8).1) (zaj m 8).2).2 (n:=mkN (zcY (1+(zaj m 8).1) (zaj m 8).2).2) hc.2;generalize (zaj (zcY (1+(zaj m 8).1) (zaj m 8).2).2 (mkN (zcY (1+(zaj m 8).1) (zaj m 8).2).2)).1=x at *;obtain⟨a,b⟩:=nm_ok (x:=x) h2.1 (by omega);refine⟨⟨?_,by show ¬ ((8:Int)≤18∧(18:Int)≤17);omega,rfl,fun _=>rfl⟩,⟨⟨sm0,sm0,sm0⟩,nosm,zm _,b⟩⟩;have:((true&&true)&&(true&&(zcv ([110]++deI x)&&(true&&true))))=true:=by rw[a];rfl
  exact this
 ·rename_i hc;exact zsG (zrU (m:=(zaj m 8).2) hn (by omega) hc) zr4.1 zr4.2
theorem one_ok {k:Int} {m:Mk} (hk:11≤k∧k≤16):zba (mOne k 3 m).1=true∧NdSm (mOne k 3 m).1:=by
 have p20:(([]:List UInt8)).length≤20:=zm _;rcases (show k=11∨k=12∨k=13∨k=14∨k=15∨k=16 by omega) with rfl|rfl|rfl|rfl|rfl|rfl
 ·have h1:=zaF m (n:=15) (by decide);show zba (11,0,0,0,(zaj m 15).1 - 7,0,[],[],())=true∧NdSm (11,0,0,0,(zaj m 15).1 - 7,0,[],[],());generalize hx:(zaj m 15).1 - 7=x at *;refine⟨?_,⟨⟨sm0,⟨by show -1000 < x;omega,by show x < 1000;omega⟩,sm0⟩,nosm,zm _,p20⟩⟩;exact and4 (a:=true) (b:=true) (c:=true) rfl rfl rfl (show (bif inB x (-1099511627776) 1099511627776 then true else false)=true by rw[zcE (lo:=-1099511627776) (hi:=1099511627776) (by omega)];rfl)
 ·have h1:=zaF m (n:=60) (by decide);show zba (12,0,0,0,(zaj m 60).1,0,[],[],())=true∧NdSm (12,0,0,0,(zaj m 60).1,0,[],[],());generalize (zaj m 60).1=x at *;refine⟨?_,⟨⟨sm0,⟨by show -1000 < x;omega,by show x < 1000;omega⟩,sm0⟩,nosm,zm _,p20⟩⟩;exact and4 (a:=true) (b:=true) (c:=true) rfl rfl rfl (show (bif inB x 0 1099511627776 then true else false)=true by rw[zcE (hi:=1099511627776) (by omega)];rfl)
 ·have h1:=zaF m (n:=60) (by decide);show zba (13,0,0,0,(zaj m 60).1,0,[],[],())=true∧NdSm (13,0,0,0,(zaj m 60).1,0,[],[],());generalize (zaj m 60).1=x at *;refine⟨?_,⟨⟨sm0,⟨by show -1000 < x;omega,by show x < 1000;omega⟩,sm0⟩,nosm,zm _,p20⟩⟩;exact and4 (a:=true) (b:=true) (c:=true) rfl rfl rfl (show (bif inB x 0 1099511627776 then true else false)=true by rw[zcE (hi:=1099511627776) (by omega)];rfl)
 ·obtain⟨a1,a2,a3⟩:=zcI m (lo:=0) (hi:=60) (z:=true) (by decide) (by decide) (by decide);show zba (14,0,0,0,0,0,(zaI m 0 60).1,[],())=true∧NdSm (14,0,0,0,0,0,(zaI m 0 60).1,[],());generalize (zaI m 0 60).1=l at *;refine⟨?_,⟨⟨sm0,sm0,sm0⟩,zgp (by decide) (by decide) a3,zE a2 (by decide),p20⟩⟩;exact and4 (a:=decide (l.length≤64)) (b:=true) (c:=zaV l (0,1099511627776,())) (d:=true) (decide_eq_true (by omega)) rfl (zhl (by decide) (by decide) a1 (zdt (by decide) (by decide) (by decide) a3)) rfl
 ·obtain⟨a1,a2,a3⟩:=zcI m (lo:=0) (hi:=60) (z:=true) (by decide) (by decide) (by decide);show zba (15,0,0,0,0,0,(zaI m 0 60).1,[],())=true∧NdSm (15,0,0,0,0,0,(zaI m 0 60).1,[],());generalize (zaI m 0 60).1=l at *;refine⟨?_,⟨⟨sm0,sm0,sm0⟩,zgp (by decide) (by decide) a3,zE a2 (by decide),p20⟩⟩;exact and4 (a:=decide (l.length≤64)) (b:=true) (c:=zaV l (0,1099511627776,())) (d:=true) (decide_eq_true (by omega)) rfl (zhl (by decide) (by decide) a1 (zdt (by decide) (by decide) (by decide) a3)) rfl
 ·have h1:=zaF m (n:=3) (by decide);have h2:=zaF (zaj m 3).2 (n:=2) (by decide);obtain⟨a1,a2,a3⟩:=zcI (zaj (zaj m 3).2 2).2 (lo:=-3) (hi:=3) (z:=false) (by decide) (by decide) (by decide);show zba (16,(zaj m 3).1,0,0,0,(zaj (zaj m 3).2 2).1,(zaI (zaj (zaj m 3).2 2).2 (-3) 3).1,[],())=true∧NdSm (16,(zaj m 3).1,0,0,0,(zaj (zaj m 3).2 2).1,(zaI (zaj (zaj m 3).2 2).2 (-3) 3).1,[],());generalize (zaI (zaj (zaj m 3).2 2).2 (-3) 3).1=l at *;generalize (zaj (zaj m 3).2 2).1=u at *;generalize (zaj m 3).1=c at *;refine⟨?_,⟨⟨⟨by show -1000 < c;omega,by show c < 1000;omega⟩,sm0,⟨by show -1000 < u;omega,by show u < 1000;omega⟩⟩,zgp (by decide) (by decide) a3,zE a2 (by decide),p20⟩⟩;exact and4 (a:=decide (l.length≤64)) (b:=inB c 0 2) (c:=zaV l (-400,400,())) (d:=inB u 0 1) (decide_eq_true (by omega)) (zcE (by omega)) (zhl (by decide) (by decide) a1 (zdt (by decide) (by decide) (by decide) a3)) (zcE (by omega))
theorem bin_ok {k c:Int} (hk:(8≤k∧k≤10)∧c=0∨k=17∧1≤c∧c≤3):zba (k,0,0,0,c,0,[],[],())=true∧NdSm (k,0,0,0,c,0,[],[],()):=by
 have p20:(([]:List UInt8)).length≤20:=zm _;refine⟨?_,⟨⟨sm0,⟨by show -1000 < c;omega,by show c < 1000;omega⟩,sm0⟩,nosm,zm _,p20⟩⟩;rcases hk with ⟨⟨h1,h2⟩,rfl⟩|⟨rfl,h⟩
 ·rcases (show k=8∨k=9∨k=10 by omega) with rfl|rfl|rfl
  ·decide+kernel
  ·decide+kernel
  ·decide+kernel
 ·exact and4 (a:=true) (b:=true) (c:=true) rfl rfl rfl (show (bif inB c 1 400 then true else false)=true by rw[zcE (by omega)];rfl)
theorem cnt_in {k:Int} {m:Mk} (h:two k=true):(8≤k∧k≤10)∧(mCnt k m).1=0∨k=17∧1≤(mCnt k m).1∧(mCnt k m).1≤3:=by
 rw[zfl]at h;unfold mCnt;split
 ·rename_i e;have:=zaF m (n:=3) (by decide);exact .inr ⟨e,by omega⟩
 ·exact .inl ⟨by omega,rfl⟩
theorem zoO:∀ (d:Nat) (m:Mk),0≤mkN m->mkN m≤1000000->TrOk (mTr 3 d m).1∧TrSm (mTr 3 d m).1
 |0,m,h,h2=>zo6 _ h h2
 |d+1,m,h,h2=>by
  have hp:=zaF (zaE m) (n:=14) (by decide);rw[mTr];dsimp only;split
  ·exact zo6 _ h h2
  rename_i hst;have hs:(zaj (zaE m) 14).1 < 10:=by
   have:¬ zf6 (d+1) (zaj (zaE m) 14)=true:=hst;unfold zf6 at this;simp only[zZ,decide_eq_true_iff,not_or]at this;omega
  have h0:0≤mkN (zaj (zaE m) 14).2:=h;have h3:mkN (zaj (zaE m) 14).2≤1000000:=h2;obtain⟨ha,sa⟩:=zoO d (zaj (zaE m) 14).2 h0 h3;have hg:=(zkh 3 d (zaj (zaE m) 14).2).1;split
  ·rename_i ht;have hc:=(zmH (8+(zaj (zaE m) 14).1) (mTr 3 d (zaj (zaE m) 14).2).2).1;obtain⟨hb,sb⟩:=zoO d (mCnt (8+(zaj (zaE m) 14).1) (mTr 3 d (zaj (zaE m) 14).2).2).2 (by rw[hc,hg];exact h0) (by rw[hc,hg];exact h3);obtain⟨f,g⟩:=bin_ok (cnt_in (m:=(mTr 3 d (zaj (zaE m) 14).2).2) ht);exact⟨⟨f,zfl.1 ht,⟨rfl,rfl⟩,ha,hb⟩,g,sa,sb⟩
  ·rename_i ht;rw[zfl]at ht;obtain⟨e1,e2,e3⟩:=zrN (k:=8+(zaj (zaE m) 14).1) (ids:=3) (m:=(mTr 3 d (zaj (zaE m) 14).2).2);obtain⟨f,g⟩:=one_ok (k:=8+(zaj (zaE m) 14).1) (m:=(mTr 3 d (zaj (zaE m) 14).2).2) (by omega);exact⟨⟨f,by rw[e1];omega,⟨e2,e3⟩,ha⟩,g,sa⟩
def zeN (d:Nat) (k:Nat) (l:List Int) (n:Int):Tr:=(mTr 3 d (l.take k,0,n,0,())).1
theorem zsU {d k:Nat} {l:List Int} {n:Int} (h0:0≤n) (h1:n≤1000000):TrOk (zeN d k l n)∧TrSm (zeN d k l n):=zoO d _ h0 h1
theorem zoN (d k:Nat) (l:List Int) (n:Int):(zeN d k l n).size≤mMax d:=zfy 3 d _
def ztL (d k:Nat):Ctr:={ args:=[ints,i64],pre:=fun x=>[0≤x.2.1,x.2.1≤1000000],res:=.slice nd,own:=none,out:=fun x=>(zeN d k x.1 x.2.1).flat 0 }
def kMa:Kn:={ gmK with R:=[(58,zgA 10)] }
theorem zmi:KnOk Tryz.prog gmG kMa:=zaH.withR (.cons (zqK 10) (fun _ _=>trivial) .nil)
theorem zqP:yM Tryz.prog gmG 23 (ztL 4 80):=by
 refine zar (K:=kMa) zmi Tryz.func23 rfl rfl Tryz.call23 rfl (by decide) (by intro h;cases h) ?_;rintro w0 X hX ⟨(l:List Int),(n:Int),_⟩ hp;obtain⟨h0,h1⟩:0≤n∧n≤1000000:=hp;change AWP _ _ _ _ _ ⟨[(0,⟨ints,l⟩),(1,⟨i64,n⟩)],[],0⟩ _;refine za (za ?_);refine zaa hX zmi rfl ?_ ?_
 ·trivial
 have e:(min ((l.length:Nat):Int) 80).toNat=min l.length 80:=by omega
 have y1:0≤min ((l.length:Nat):Int) 80:=by omega
 have y2:min ((l.length:Nat):Int) 80≤((l.length:Nat):Int):=by omega
 have ht:l.take (min ((l.length:Nat):Int) 80).toNat=l.take 80:=by
  rw[e];by_cases h:l.length≤80
  ·rw[Nat.min_eq_left h,xx (zk _),xx h]
  ·rw[Nat.min_eq_right (by omega)]
 refine za (za ?_);refine zaa hX zmi rfl ?_ ?_
 ·exact⟨y1,y2⟩
 refine zaq (σ':=⟨[(5,⟨.optr mkr,⟨0,mkr,.here⟩⟩)],[(0,some (.box mkr (l.take 80,0,n,0,())))],1⟩) ⟨⟨rfl,trivial⟩,⟨ztS (by show (l.take (min ((l.length:Nat):Int) 80).toNat,(0:Int),n,(0:Int),())=_;rw[ht]),trivial⟩,rfl,rfl⟩ ?_;have q1:(0:Int)≤4:=by decide
 have q2:(4:Int) < ((10:Nat):Int):=by decide
 have q3:mMax (4:Int).toNat≤10000:=by decide
 have q4:(0:Int)≤0∧(0:Int)+20 * ((mMax (4:Int).toNat:Nat):Int)≤500000:=by decide
 have q5:(0:Int)≤0∧(0:Int)+((mMax (4:Int).toNat:Nat):Int)≤500000:=by decide
 have q6:(0:Int) < 3∧(3:Int)≤1000000:=by decide
 refine za (za ?_);refine zaa hX zmi rfl ?_ ?_
 ·exact⟨q1,q2,q3,q4,⟨h0,h1⟩,q5,q6⟩
 refine zq ⟨.inr rfl,zax rfl trivial rfl rfl ?_⟩;rfl
theorem zsV:yM Tryz.prog gmH 23 (ztL 4 80):=zqP.lift
theorem zlg {k:Nat} {l:List Int} {n:Int} (h0:0≤n) (h1:n≤1000000):TrOk (zeN 4 k l n)∧(zeN 4 k l n).size≤31∧(zeN 4 k l n).text.length≤3100:=by
 obtain⟨a,b⟩:=zsU (d:=4) (k:=k) (l:=l) h0 h1;have hs:=zoN 4 k l n;have hs:(zeN 4 k l n).size≤31:=hs;have:=zeA _ b;exact⟨a,hs,by omega⟩
theorem zqQ {k:Nat} {l:List Int} {n:Int} (h0:0≤n) (h1:n≤1000000):fmtS ((zeN 4 k l n).flat 0)=((zeN 4 k l n).text,0):=by
 obtain⟨a,b,c⟩:=zlg (k:=k) (l:=l) h0 h1;rw[zmv a (by omega)];exact if_neg (by omega)
theorem catA {a b:List UInt8} {m n:Nat} (ha:a.length≤m) (hb:b.length≤n):(a++b).length≤m+n:=by rw[zf];omega
theorem cat2 {a b:List UInt8} {m n:Nat} (ha:a.length≤m) (hb:b.length≤n) (h:Nat.ble (m+n) 1048576=true):a.length+b.length≤maxLen:=by have:=zb h;unfold maxLen;omega
set_option maxRecDepth 10000
abbrev Nl (l:List UInt8):Prop:=∀ c∈l,c≠10
theorem Nl.app {a b:List UInt8} (ha:Nl a) (hb:Nl b):Nl (a++b):=fun c hc=>(yz.1 hc).elim (ha c) (hb c)
theorem nl_dg {l:List UInt8} (h:∀ c∈l,isDg c=true):Nl l:=fun c hc e=>by
 have:=h c hc;rw[e]at this;exact absurd this (by decide)
theorem zrR (n:Int):Nl (deI n):=by
 unfold deI jS;by_cases hn:n < 0
 ·rw[if_pos hn];exact Nl.app (a:=[45]) (by decide) (nl_dg (zes _).1)
 ·rw[if_neg hn];exact nl_dg (zes _).1
theorem zoI:∀ l:List Int,Nl (zdz l)
 | []=>fun c hc=>by cases hc
 |x::r=>(Nl.app (a:=[32]) (by decide) (zrR x)).app (zoI r)
theorem nl_sep (i:Nat):Nl (sepS i):=by unfold sepS;split<;>decide
theorem zrQ:∀ (l:List Int) (i:Nat),Nl (litS i l)
 | [],_=>fun c hc=>by cases hc
 |x::r,i=>((nl_sep i).app (zrR x)).app (zrQ r (i+1))
theorem ze8 (l:List Int):Nl (zbT l):=(zrQ l 0).app (by decide)
theorem zcA {w:List UInt8} (l:List Int) (h:Nl w):Nl (putS w l):=h.app (zoI l)
theorem zl5 (n:Int):Nl (zb2 n):=by unfold zb2;split<;>decide
theorem zkf {c:Bool} {t:List UInt8} (h:Nl t):Nl (parS c t):=by
 unfold parS;split
 ·exact h
 ·exact Nl.app (a:=[40]) (by decide) (h.app (by decide))
theorem zsQ {n:Nd} (h:Nl (ndS n)):Nl (zc6 n):=by
 unfold zc6
 repeat' split
 ·exact zcA _ (by decide)
 ·exact zcA _ (by decide)
 ·exact (zcA _ (by decide)).app (ze8 _)
 ·exact (zcA _ (by decide)).app (ze8 _)
 ·exact (zcA _ (by decide)).app (ze8 _)
 ·exact (zcA _ (by decide)).app (ze8 _)
 ·exact (zcA _ (by decide)).app (zcA _ (zl5 _))
 ·exact zcA _ (Nl.app (by decide) h)
 ·decide
theorem zrP {b:List UInt8} {n:Nd} (h:Nl b):Nl (zca b n):=by
 unfold zca
 repeat' split
 ·exact zcA _ (by decide)
 ·exact zcA _ (by decide)
 ·exact zcA _ (by decide)
 ·exact (zcA _ (by decide)).app (ze8 _)
 ·exact (zcA _ (by decide)).app (ze8 _)
 ·exact (zcA _ (by decide)).app ((zcA _ (zl5 _)).app (ze8 _))
 ·exact (zcA _ (by decide)).app ((zcA _ (by decide)).app h)
 ·decide
theorem nl_op (x:Int):Nl (opWd x):=by
 unfold opWd;generalize (x - 1).toNat=k
 match k with
 |0=>decide
 |1=>decide
 |2=>decide
 |_+3=>exact fun c hc=>by cases hc
theorem zoJ {w:List UInt8} (h:zcv w=true):Nl w:=fun c hc=>by
 simp only[zcv,zd]at h;have:=zT.1 h.2.2 c hc;intro e;rw[e]at this;exact absurd this (by decide)
theorem nl_fld {n:Nd} (h:zba n=true):Nl (ndS n):=by
 simp only[zba,zd]at h;have h:=h.2.2.1;unfold zh3 at h;cases hk:ndK n==18 with
 |true=>rw[hk]at h;exact zoJ h
 |false=>
  rw[hk]at h;have:ndS n=[]:=of_decide_eq_true h;rw[this];exact fun c hc=>by cases hc
theorem zf5:∀ t:Tr,TrOk t->Nl t.text
 | .leaf _,h=>zsQ (nl_fld h.1)
 | .un n a,h=>(zkf (zf5 a h.2.2.2)).app (zrP (fun c hc=>by cases hc))
 | .bin n a b,h=>by
  obtain⟨_,_,_,ha,hb⟩:=h;unfold Tr.text;split
  ·exact (zkf (zf5 a ha)).app (zrP (zkf (zf5 b hb)))
  ·exact (zkf (zf5 a ha)).app ((zcA _ ((Nl.app (a:=[32]) (by decide) (nl_op _)).app (by decide))).app (zkf (zf5 b hb)))
def zcB (w:List UInt8) (t:Tr):List UInt8:=w++ [32,61,32]++t.text
theorem zoW {w:List UInt8} {t:Tr} (hw:zcv w=true) (h:TrOk t):Lex (zcB w t) (tkW w::tkS 61::t.toks):=by
 simp only[zcv,zd,decide_eq_true_iff]at hw;obtain⟨⟨h1,h2⟩,h3,h4⟩:=hw;have:=za8 h1 h3 h4 (r:=32::([61]++(32::t.text))) ((zjT (.inr (.inr rfl))).lexR (.inl rfl) (zdX t h).sp).sp rfl;unfold zcB;rw[zs];exact this
theorem znq {w:List UInt8} {t:Tr} (hw:zcv w=true) (h:TrOk t) (hs:t.size≤64) {k:Int} (hk:k < 4096):zfB (zcB w t) k= .ok (w,t.flat 0,()):=by
 have hl:=zmd (zoW hw h) (zcB w t) [] rfl;have hg:=zjX (zcB w t);have e0:zd6 (zcB w t) 0=zaR (zcB w t):=zjY _;generalize zcB w t=y at *;have hsq:Sq y (zaR y) (tkW w::tkS 61::t.toks):=by
  rw[<-e0];exact ziR hl
 simp only[zcv,zd,decide_eq_true_iff]at hw;have hc:=hsq.2.1;have hc1:zK (zaR y)=1:=congrArg (fun x=>x.1) hc;have hc2:zL (zaR y)=w:=congrArg (fun x=>x.2.1) hc;have g1:=zow (st:=(zaR y,0)) hg hsq;obtain⟨e2,g2⟩:=zft (w:=wEq) g1.ok g1.sq rfl;obtain⟨st',e3,g3⟩:=zos h y (gAdv y (gAdv y (zaR y,0))) [] g2.ok (by rw[zI];exact g2.sq) (by
  have a:=g1.n;have b:=g2.n;have c:(zaR y,(0:Int)).2=0:=rfl;omega) ⟨rfl,rfl,trivial⟩
 have e3:prsT y (.bin 0) (gAdv y (gAdv y (zaR y,0)))=prsT y (.binL 0 t) st':=e3;rw[zhb g3.ok g3.sq rfl]at e3;have hc0:zK st'.1=0:=g3.sq;have hr:zeO y (gAdv y (gAdv y (zaR y,0)))= .ok (t,st'):=by
  unfold zeO;refine (okb e3 _).trans ?_;have c0:zaD st' (zK st'.1==0) 3= .ok ():=by rw[hc0];rfl
  exact (okb c0 _).trans rfl
 have hd:gDef y (zaR y,0) k= .ok (w,t):=by
  unfold gDef;have c1:zaD (zaR y,(0:Int)) (zK (zaR y,(0:Int)).1==1) 3= .ok ():=by
   show zaD _ (zK (zaR y)==1) 3=_;rw[hc1];rfl
  have c2:zaD (zaR y,(0:Int)) (decide ((zL (zaR y,(0:Int)).1).length≤32)&&decide (k < 4096)) 2= .ok ():=by
   show zaD _ (decide ((zL (zaR y)).length≤32)&&decide (k < 4096)) 2=_;rw[hc2,decide_eq_true hw.1.2,decide_eq_true hk];rfl
  refine (okb c1 _).trans ((okb c2 _).trans ((okb e2 _).trans ((okb hr _).trans ?_)));show kA (zL (zaR y),t)=_;rw[hc2]
 unfold zfB;rw[hd];rfl
theorem znp {w:List UInt8} {t:Tr} (hw:zcv w=true):zfz (zcB w t)=true:=by
 simp only[zcv,zd,decide_eq_true_iff]at hw;obtain⟨⟨h1,_⟩,h3,_⟩:=hw;cases w with
 |nil=>exact absurd rfl h1
 |cons c r=>
  have hc:isLt c=true:=h3;obtain⟨_,h5,_⟩:=zqS c hc;have e:zcB (c::r) t=c::(r++ [32,61,32]++t.text):=rfl;unfold zfz;rw[e,znZ h5];have:zjg (c::(r++ [32,61,32]++t.text)) [35]=false:=by
   by_cases e:c=35
   ·rw[e]at hc;exact absurd hc (by decide)
   ·show eqb .str [c] [35]=false;rw[qi];intro h;exact e (List.head_eq_of_cons_eq (zbe.1 h))
  rw[this];simp
def zbb:List (List UInt8×Tr)->List UInt8
 | []=>[]
 |d::r=>zcB d.1 d.2++10::zbb r
def zdN (l:List (List UInt8×Tr)):List De:=l.map fun d=>(d.1,d.2.flat 0,())
def znF (l:List (List UInt8×Tr)):Prop:=∀ d∈l,zcv d.1=true∧TrOk d.2∧d.2.size≤64∧(zcB d.1 d.2).length≤4000
theorem zoH:∀ (a c b:List UInt8),Nl a->segF c (a++10::b)=(c++a)::segF [] b
 | [],c,b,_=>by
  show (if (10:UInt8)=10 then c::segF [] b else segF (c++ [10]) b)=_;rw[if_pos rfl,zI]
 |x::r,c,b,h=>by
  show (if x=10 then c::segF [] (r++10::b) else segF (c++ [x]) (r++10::b))=_;rw[if_neg (h x (zR ..)),zoH r _ b fun y hy=>h y (yg _ hy)];simp
theorem zih:∀ l:List (List UInt8×Tr),znF l->segs (zbb l)=l.map (fun d=>zcB d.1 d.2)++ [[]]
 | [],_=>rfl
 |d::r,h=>by
  obtain⟨h1,h2,_⟩:=h d (zR ..);have hn:Nl (zcB d.1 d.2):=((zoJ h1).app (by decide)).app (zf5 _ h2);show segF [] (zcB d.1 d.2++10::zbb r)=_;rw[zoH _ _ _ hn];have:=zih r fun e he=>h e (yg _ he);rw[show segF [] (zbb r)=segs (zbb r) from rfl,this];rfl
theorem ziC:∀ (l:List (List UInt8×Tr)) (fr:Nat) (acc:List De),znF l->acc.length+l.length < 4096->libX (l.map (fun d=>zcB d.1 d.2)++ [[]]) fr acc= .ok (acc++zdN l)
 | [],fr,acc,_,_=>by
  show (zec [] fr acc >>= fun a=>kA a)=_;have:zfz []=false:=rfl;unfold zec;rw[this];show kA acc=kA (acc++ []);rw[zI]
 |d::r,fr,acc,h,hk=>by
  obtain⟨h1,h2,h3,h4⟩:=h d (zR ..);rw[zt]at hk;have hs:zec (zcB d.1 d.2) fr acc= .ok (acc++ [(d.1,d.2.flat 0,())]):=by
   unfold zec;rw[if_pos (znp h1),if_neg (by omega),znq h1 h2 h3 (by omega)]
  show (zec (zcB d.1 d.2) fr acc >>= fun a=>libX (r.map (fun d=>zcB d.1 d.2)++ [[]]) _ a)=_;rw[hs];show libX _ _ _=_;rw[ziC r _ _ (fun e he=>h e (yg _ he)) (by rw[zf,yp];omega),zs];rfl
theorem zlb {l:List (List UInt8×Tr)} (h:znF l) (hk:l.length < 4096) (hs:(zbb l).length≤1048576):zaS (zbb l)=(zdN l,0,0):=by
 rw[znd hs,zih l h,ziC l 0 [] h (by rw[zY];omega)];rfl
theorem zjF {w:List UInt8} (hw:zcv w=true):zay w=w.length:=by
 simp only[zcv,zd,decide_eq_true_iff]at hw;have:=zd9 (r:=[]) hw.1.1 hw.2.1 (zT.1 hw.2.2) trivial;rwa[zI]at this
theorem zhD:∀ (l:List (List UInt8×Tr)) (acc:List UInt8),znF l->(acc++zbb l).length≤1048576->zh7 (zdN l) acc=(acc++zbb l,0)
 | [],acc,_,hs=>by
  show (if 1048576 < acc.length then ([],2) else (acc,0))=(acc++ [],(0:Int));rw[show zbb []=[] from rfl,zI]at hs;rw[if_neg (by omega),zI]
 |d::r,acc,h,hs=>by
  obtain⟨h1,h2,h3,h4⟩:=h d (zR ..);have hw:=zjF h1;have hlen:d.1.length≤32∧d.1.length≠0:=by
   simp only[zcv,zd,decide_eq_true_iff]at h1;exact⟨h1.1.2,fun e=>h1.1.1 (jW.1 e)⟩
  have hl:d.1.length+3+d.2.text.length≤4000:=by
   unfold zcB at h4;rw[zf,zf]at h4;exact h4
  have hf:fmtS (d.2.flat 0)=(d.2.text,0):=by
   rw[zmv h2 h3,if_neg (by omega)]
  show (if 32 < d.1.length then ([],2)
   else if zay d.1=0∨zay d.1 < d.1.length then ([],1)
   else if (fmtS (d.2.flat 0)).2≠0 then ([],(fmtS (d.2.flat 0)).2)
   else if 4000 < (d.1++ [32,61,32]++(fmtS (d.2.flat 0)).1).length then ([],2)
   else zh7 (zdN r) (acc++(d.1++ [32,61,32]++(fmtS (d.2.flat 0)).1++ [10])))=_
  rw[hf,if_neg (by omega),if_neg (by omega),if_neg (fun h=>h rfl),if_neg (by show ¬ 4000 < (zcB d.1 d.2).length;omega)];have e:acc++(d.1++ [32,61,32]++d.2.text++ [10])++zbb r=acc++zbb (d::r):=by
   show _=acc++(d.1++ [32,61,32]++d.2.text++10::zbb r);simp
  have ih:=zhD r (acc++(d.1++ [32,61,32]++d.2.text++ [10])) (fun x hx=>h x (yg _ hx)) (by rw[e];exact hs);rw[e]at ih;exact ih
theorem zpu {l:List (List UInt8×Tr)} (h:znF l) (hk:l.length≤4096) (hs:(zbb l).length≤1048576):zbd (zdN l)=(zbb l,0):=by
 unfold zbd;rw[if_neg (by unfold zdN;rw[jk];omega)];exact zhD l [] h hs
def dgS (n:Nat):List UInt8:=if n < 10 then [zS (48+n)] else [zS (48+n / 10),zS (48+n % 10)]
def cDigs:Ctr:={ args:=[i64],pre:=fun x=>[0≤x.1,x.1≤99],res:=.str,own:=none,out:=fun x=>dgS x.1.toNat }
theorem zpH:yM Tryz.prog gmH 30 cDigs:=by
 refine zar (K:=gmK) zak Tryz.func30 rfl rfl Tryz.call30 rfl (by decide) (by intro h;cases h) ?_;rintro w0 X hX ⟨(n:Int),_⟩ hp;obtain⟨h0,h1⟩:0≤n∧n≤99:=hp;obtain⟨k,rfl⟩:∃ k:Nat,n=(k:Int):=⟨n.toNat,by omega⟩;have hk:k≤99:=by omega
 change AWP _ _ _ _ _ ⟨[(0,⟨i64,(k:Int)⟩)],[],0⟩ _;refine za (za ?_);refine zaa hX zak rfl ?_ ?_
 ·trivial
 refine za (za ?_);refine zaa hX zak rfl ?_ ?_
 ·trivial
 have q0:inR .i64 (48+(k:Int)):=zan (by omega) (by omega);refine zaf rfl (fun hb=>?_) (fun hb=>?_)
 ·have hb:decide ((k:Int) < 10)=true:=hb;have hb:=of_decide_eq_true hb;refine za (za ?_);refine zaa hX zak rfl ?_ ?_
  ·repeat'(first|exact trivial|assumption|exact q0|(refine⟨?_,?_⟩)|(intro _)|exact zb rfl|exact zi _|(simp_all [allP];done))
  refine zq ⟨.inr rfl,zax rfl trivial rfl rfl ?_⟩;show [zS (kC ((48+(k:Int)) % 256))]=dgS k;unfold dgS;rw[if_pos (by omega),show kC ((48+(k:Int)) % 256)=48+k by omega]
 ·have hb:decide ((k:Int) < 10)=false:=hb;have hb:=of_decide_eq_false hb;apply zab;have d1:(k:Int).tdiv 10=((k / 10:Nat):Int):=rfl;have d2:(k:Int).tmod 10=((k % 10:Nat):Int):=rfl;have q1:inR .i64 ((k:Int).tdiv 10):=by rw[d1];exact zan (by omega) (by omega)
  have q2:inR .i64 (48+(k:Int).tdiv 10):=by rw[d1];exact zan (by omega) (by omega)
  have q3:inR .i64 (48+(k:Int).tmod 10):=by rw[d2];exact zan (by omega) (by omega)
  have q4:(10:Int)≠0:=by decide
  refine za (za ?_);refine zaa hX zak rfl ?_ ?_
  ·exact⟨q4,q1,q2,q4,q3⟩
  refine zq ⟨.inr rfl,zax rfl trivial rfl rfl ?_⟩;show [zS (kC ((48+(k:Int).tdiv 10) % 256)),zS (kC ((48+(k:Int).tmod 10) % 256))]=dgS k;unfold dgS;rw[if_neg (by omega),d1,d2,show kC ((48+((k / 10:Nat):Int)) % 256)=48+k / 10 by omega,show kC ((48+((k % 10:Nat):Int)) % 256)=48+k % 10 by omega]
def nmT (j:Nat):List UInt8:=[110]++dgS j
noncomputable def dsT (made:List (List Int)) (i:Nat):List (List UInt8×Tr):=(List.range i).map fun j=>(nmT j,zeN 4 80 (made.getD j []) 4)
theorem zmz (made:List (List Int)) (i:Nat):dsT made (i+1)=dsT made i++ [(nmT i,zeN 4 80 (made.getD i []) 4)]:=by
 unfold dsT;rw[List.range_succ,xu];rfl
theorem zf7:∀ (a:List (List UInt8×Tr)) (d:List UInt8×Tr),zbb (a++ [d])=zbb a++(zcB d.1 d.2++ [10])
 | [],d=>by simp[zbb]
 |x::r,d=>by
  show zcB x.1 x.2++10::zbb (r++ [d])=(zcB x.1 x.2++10::zbb r)++(zcB d.1 d.2++ [10]);rw[zf7 r d];simp
theorem zrO {j:Nat} (h:j < 10):zcv (nmT j)=true∧(nmT j).length=2:=by
 rcases (show j=0∨j=1∨j=2∨j=3∨j=4∨j=5∨j=6∨j=7∨j=8∨j=9 by omega) with rfl|rfl|rfl|rfl|rfl|rfl|rfl|rfl|rfl|rfl<;>exact⟨rfl,rfl⟩
theorem zr2 (made:List (List Int)):∀ i,i≤10->znF (dsT made i)∧(dsT made i).length=i∧(zbb (dsT made i)).length≤3200 * i
 |0,_=>⟨fun d hd=>(by cases hd),rfl,zk _⟩
 |i+1,h=>by
  obtain⟨h1,h2,h3⟩:=zr2 made i (by omega);obtain⟨n1,n2⟩:=zrO (j:=i) (by omega);obtain⟨t1,t2,t3⟩:=zlg (k:=80) (l:=made.getD i []) (n:=4) (by decide) (by decide);have hl:(zcB (nmT i) (zeN 4 80 (made.getD i []) 4)).length=2+3+(zeN 4 80 (made.getD i []) 4).text.length:=by
   unfold zcB;rw[zf,zf,n2];rfl
  rw[zmz];refine⟨fun d hd=>?_,by rw[zf,h2];rfl,?_⟩
  ·rcases yz.1 hd with hd|hd
   ·exact h1 d hd
   ·rw[zu.1 hd];exact⟨n1,t1,zE t2 (by decide),by show (zcB (nmT i) (zeN 4 80 (made.getD i []) 4)).length≤4000;rw[hl];omega⟩
  ·rw[zf7,zf,zf,hl];show _+(_+1)≤_;omega
theorem bufDe {te:zp} {x y:List De} (h:x=y):some (OObj.buf te de x)=some (OObj.buf te de y):=by rw[h]
noncomputable def kLaG:Kn:={ gmK with C:=[(15,zpM),(30,cDigs),(23,ztL 4 80),(24,cFmt),(26,ztN),(19,zlH),(21,zr7)] }
theorem zb8:KnOk Tryz.prog gmH kLaG:=zak.with (.cons zob <| .cons zpH <| .cons zsV <| .cons zhC <| .cons zkC <| .cons zhf <| .cons zqq .nil)
set_option maxHeartbeats 1000000 in
theorem law8_ok:yM Tryz.prog gmH 10 (lawCtr [.slice ints]):=by
 refine zar (K:=kLaG) zb8 Tryz.func10 rfl rfl Tryz.call10 rfl (by decide) (by intro h;cases h) ?_;rintro w0 X hX ⟨(made:List (List Int)),_⟩ hp;change AWP _ _ _ _ _ ⟨[(0,⟨.slice ints,made⟩)],[],0⟩ _;refine vp 0 rfl fun hl=>?_;unfold maxLen at hl;refine za (za ?_);refine zaa hX zb8 rfl ?_ ?_
 ·trivial
 refine za (za ?_);refine zaa hX zb8 rfl ?_ ?_
 ·trivial
 refine za (za ?_);refine zaa hX zb8 rfl ?_ ?_
 ·trivial
 refine AWP.nilBuf hX 4 37 de rfl rfl rfl ?_;refine za (za ?_);refine zaa hX zb8 rfl ?_ ?_
 ·trivial
 refine za (za ?_);refine zaa hX zb8 rfl ?_ ?_
 ·trivial
 (repeat(first|apply zae|apply zab|apply zac|apply zad));refine yU (ι:=Nat) (fun i=>⟨[(0,⟨.slice ints,made⟩),(3,⟨.bool,true⟩),(4,⟨.obuf de,(0:Nat)⟩),(5,⟨.str,zbb (dsT made i)⟩),(6,⟨i64,(i:Int)⟩)],[(0,some (.buf 37 de (zdN (dsT made i))))],1⟩) (fun i=>i≤made.length∧i≤10) (fun i=>10 - i) 0 ⟨zm _,zm _⟩ ⟨⟨rfl,rfl,rfl,rfl,rfl,trivial⟩,⟨rfl,trivial⟩,rfl,rfl⟩ ?_;rintro i ⟨hi,hi2⟩;have hq0:(bif decide ((i:Int) < ((made.length:Nat):Int)) then decide ((i:Int) < 10) else false)=decide (i < made.length∧i < 10):=by
  rw[zc2,yu,zd,decide_eq_true_iff,decide_eq_true_iff,decide_eq_true_iff];omega
 obtain⟨hlo,hln,hll⟩:=zr2 made i hi2;refine za (za ?_);refine zaa hX zb8 rfl ?_ ?_
 ·repeat'(first|exact trivial|assumption|(refine⟨?_,?_⟩)|(intro _)|exact zb rfl|exact zi _|(simp_all [allP];done))
 refine zaf rfl (fun hb=>?_) (fun hb=>?_)
 ·obtain⟨hlt,h10⟩:=of_decide_eq_true (hq0.symm.trans hb);have z0:(0:Int)≤(i:Int):=by omega
  have z1:(i:Int) < ((made.length:Nat):Int):=by omega
  have z2:(i:Int)≤99:=by omega
  have z3:(0:Int)≤4:=by decide
  have z4:(4:Int)≤1000000:=by decide
  obtain⟨n1,n2⟩:=zrO h10;have z5:zg ([110]:List UInt8)+(dgS ((i:Int)).toNat).length≤maxLen:=by
   have:([110]:List UInt8).length+(dgS i).length=2:=by rw[<-zf];exact n2
   show ([110]:List UInt8).length+(dgS i).length≤maxLen;rw[this];decide
  (repeat(first|apply zae|apply zab|apply zac|apply zad));refine AWP.drawN dM hX zb8 11 (by kernel_rfl) rfl rfl ?_ ?_ ?_
  ·repeat'(first|exact trivial|assumption|exact z0|exact z1|exact z2|exact z3|exact z4|exact z5|(refine⟨?_,?_⟩)|(intro _)|exact zb rfl|exact zi _|(simp_all [allP];done))
  ·repeat'(first|exact trivial|assumption|exact z0|exact z1|exact z2|exact z3|exact z4|exact z5|(refine⟨?_,?_⟩)|(intro _)|exact zb rfl|exact zi _|(simp_all [allP];done))
  obtain⟨t1,t2,t3⟩:=zlg (k:=80) (l:=made.getD i []) (n:=4) (by decide) (by decide);have hfm:=zqQ (k:=80) (l:=made.getD i []) (n:=4) (by decide) (by decide);have hsucc:=zmz made i;obtain⟨t,ht⟩:∃ t,t=zeN 4 80 (made.getD i []) 4:=⟨_,rfl⟩;rw[<-ht]at t1 t2 t3 hfm hsucc;refine zaq (σ':=⟨[(0,⟨.slice ints,made⟩),(3,⟨.bool,true⟩),(4,⟨.obuf de,(0:Nat)⟩),(5,⟨.str,zbb (dsT made i)⟩),(6,⟨i64,(i:Int)⟩),(7,⟨.optr de,⟨1,de,.here⟩⟩)],[(0,some (.buf 37 de (zdN (dsT made i)))),(1,some (.box de (nmT i,t.flat 0,())))],2⟩) ⟨⟨rfl,rfl,rfl,rfl,rfl,rfl,trivial⟩,⟨rfl,by rw[ht];rfl,trivial⟩,rfl,rfl⟩ ?_;clear ht;refine za (za ?_);refine zaa hX zb8 rfl ?_ ?_
  ·trivial
  refine zaq (σ':=⟨[(0,⟨.slice ints,made⟩),(3,⟨.bool,true⟩),(4,⟨.obuf de,(0:Nat)⟩),(5,⟨.str,zbb (dsT made i)⟩),(6,⟨i64,(i:Int)⟩),(7,⟨.optr de,⟨1,de,.here⟩⟩),(8,⟨.str,t.text⟩),(9,⟨i64,(0:Int)⟩)],[(0,some (.buf 37 de (zdN (dsT made i)))),(1,some (.box de (nmT i,t.flat 0,())))],2⟩) ⟨⟨rfl,rfl,rfl,rfl,rfl,rfl,vStr (congrArg (fun x=>x.1) hfm),vI64 (congrArg (fun x=>x.2) hfm),trivial⟩,⟨rfl,rfl,trivial⟩,rfl,rfl⟩ ?_;refine za (za ?_);refine zaa hX zb8 rfl ?_ ?_
  ·trivial
  refine zaf rfl (fun hb=>absurd (show ((0:Int) != 0)=true from hb) (by decide)) (fun _=>?_);apply zab;have hdl:(zdN (dsT made i)).length+1≤1000000000:=by unfold zdN;rw[jk,hln];omega
  refine za (za ?_);refine zaa hX zb8 rfl ?_ ?_
  ·exact hdl
  have hll':(zbb (dsT made i)).length≤32000:=by omega
  have hnm:(nmT i).length≤2:=by omega
  refine za (za ?_);refine zaa hX zb8 rfl ?_ ?_
  ·(repeat' first|exact trivial|with_reducible assumption|refine⟨?_,?_⟩|intro _|apply cat2|apply catA|exact hll'|exact hnm|exact t3|exact zk _|exact zi _|rfl|assumption)
  refine za (za ?_);refine zaa hX zb8 rfl ?_ ?_
  ·exact zaU (by omega)
  refine⟨i+1,⟨hlt,h10⟩,by omega,⟨rfl,rfl,rfl,vStr ?_,zdy _,trivial⟩,⟨bufDe ?_,trivial⟩,rfl,rfl⟩
  ·show zbb (dsT made i)++nmT i++ [32,61,32]++t.text++ [10]=zbb (dsT made (i+1));rw[hsucc,zf7];unfold zcB;simp
  ·show zdN (dsT made i)++ [(nmT i,t.flat 0,())]=zdN (dsT made (i+1));rw[hsucc];unfold zdN;rw[xu];rfl
 ·apply zad;refine qW hX 4 ?_;have hfm:=zpu hlo (by omega) (by omega);have hpa:=zlb hlo (by omega) (by omega);refine zaq (σ':=⟨[(3,⟨.bool,true⟩),(4,⟨.slice de,zdN (dsT made i)⟩),(5,⟨.str,zbb (dsT made i)⟩)],[],1⟩) ⟨⟨rfl,rfl,rfl,trivial⟩,trivial,rfl,rfl⟩ ?_;generalize dsT made i=d at *;refine za (za ?_);refine zaa hX zb8 rfl ?_ ?_
  ·trivial
  refine zaq (σ':=⟨[(3,⟨.bool,true⟩),(4,⟨.slice de,zdN d⟩),(5,⟨.str,zbb d⟩),(10,⟨.str,zbb d⟩),(11,⟨i64,(0:Int)⟩)],[],1⟩) ⟨⟨rfl,rfl,rfl,vStr (congrArg (fun x=>x.1) hfm),vI64 (congrArg (fun x=>x.2) hfm),trivial⟩,trivial,rfl,rfl⟩ ?_;refine za (za ?_);refine zaa hX zb8 rfl ?_ ?_
  ·trivial
  refine zaq (σ':=⟨[(3,⟨.bool,true⟩),(4,⟨.slice de,zdN d⟩),(5,⟨.str,zbb d⟩),(10,⟨.str,zbb d⟩),(11,⟨i64,(0:Int)⟩),(12,⟨.slice de,zdN d⟩),(13,⟨i64,(0:Int)⟩),(14,⟨i64,(0:Int)⟩)],[],1⟩) ⟨⟨rfl,rfl,rfl,rfl,rfl,vDes (congrArg (fun x=>x.1) hpa),vI64 (congrArg (fun x=>x.2.1) hpa),vI64 (congrArg (fun x=>x.2.2) hpa),trivial⟩,trivial,rfl,rfl⟩ ?_;refine za (za ?_);refine zaa hX zb8 rfl ?_ ?_
  ·repeat'(first|exact trivial|assumption|(refine⟨?_,?_⟩)|(intro _)|exact zb rfl|exact zi _|(simp_all [allP];done))
  refine zq ⟨.inr rfl,zax rfl trivial rfl rfl ?_⟩;show (bif (bif (bif (bif (bif ((0:Int)==0) then eqb .str (zbb d) (zbb d) else false) then ((0:Int)==0) else false) then ((0:Int)==0) else false) then zlT (zdN d) (zdN d) else false) then true else false)=true;rw[zfX.2 rfl,zbe.2 rfl];rfl
end
end Go.Proofs.YtpeaigpfddalcaaGreatDoor
