/-
  Texts of this claim, joined: what the statement's proof uses.
-/
import Derived.Test.YtpeaigpfddalcaaGreatDoorXD
namespace Go.Proofs.YtpeaigpfddalcaaGreatDoor
open Go Go.RowKit
set_option linter.unusedSimpArgs false
set_option linter.unusedVariables false
attribute [local go_sem] Oper.semAt_some
set_option maxRecDepth 100000
set_option maxHeartbeats 1000000 in
theorem zhJ (s:ByteArray) (c:Int) (w:World):
 Calls Tryz.prog 217 #[.string s,.int .u8 c] w fun e w'=>e= .returned (.int .i64 (Lib.indexByte s.data.toList c.toNat.toUInt8))∧w'=w:=by
 go_enter Tryz.func217,Tryz.ntmps217
 go_wp2
 rw [run_callFunc_extern Tryz.func244 (by kernel_rfl) (by kernel_rfl) (by kernel_rfl) (e:=Extern.BytealgIndexByte.indexByte) (by kernel_rfl),Lib.run_indexByteString]
 simp only [Result.andThen]
 rw [Oper.upon_value]
 go_wp2
 go_ret
 exact⟨rfl,rfl⟩
theorem zsr (l:List UInt8) (c:UInt8):(Lib.indexByte l c= -1∧∀ x∈l,x≠c)∨∃ n:Nat,Lib.indexByte l c=(n:Int)∧n < l.length∧(∀ x∈l.take n,x≠c)∧l.drop n=c::l.drop (n+1):=by
 induction l with
 | nil=>exact .inl ⟨rfl,by simp⟩
 | cons b l ih=>
  unfold Lib.indexByte
  by_cases h:b=c
  ·refine .inr ⟨0,by rw [if_pos (by simp [h])];rfl,by simp,by simp,by simp [h]⟩
  ·rw [if_neg (by simp [h])]
   rcases ih with ⟨h1,h2⟩ | ⟨n,h1,h2,h3,h4⟩
   ·refine .inl ⟨by rw [h1];rfl,fun x hx=>?_⟩
    rcases List.mem_cons.1 hx with rfl | hx
    ·exact h
    ·exact h2 x hx
   ·refine .inr ⟨n+1,?_,by simp;omega,fun x hx=>?_,by simpa using h4⟩
    ·rw [h1,if_neg (by simp)]
     omega
    ·rw [List.take_succ_cons] at hx
     rcases List.mem_cons.1 hx with rfl | hx
     ·exact h
     ·exact h3 x hx
def segF:List UInt8->List UInt8->List (List UInt8)
 | c,[]=>[c]
 | c,x::r=>if x=10 then c::segF [] r else segF (c++ [x]) r
def segs (s:List UInt8):List (List UInt8):=segF [] s
set_option maxHeartbeats 1000000 in
theorem zkC (s:ByteArray) (c:UInt8) (w:World):
 Calls Tryz.prog 184 #[.string s,.string ⟨#[c]⟩] w fun e w'=>e= .returned (.int .i64 (Lib.indexByte s.data.toList c))∧w'=w:=by
 go_enter Tryz.func184,Tryz.ntmps184
 go_wp2_with (go_at_call 217;refine (zhJ s _ _).mono ?_;rintro e w' ⟨rfl,rfl⟩)
 ·rename_i hs
  go_ret
  rw [ByteArray.toList_eq] at hs
  have hs:=eq_of_beq hs
  refine⟨?_,rfl⟩
  rw [<-hs]
  show Ending.returned (.int .i64 0)=Ending.returned (.int .i64 (Lib.indexByte [c] c))
  unfold Lib.indexByte
  rw [if_pos (by simp)]
 ·go_ret
  exact⟨rfl,rfl⟩
set_option maxHeartbeats 1000000 in
theorem ziq (s:ByteArray) (c:UInt8) (w:World):
 Calls Tryz.prog 147 #[.string s,.string ⟨#[c]⟩] w fun e w'=>e= .returned (.int .i64 (Lib.indexByte s.data.toList c))∧w'=w:=by
 go_enter Tryz.func147,Tryz.ntmps147
 go_wp2_with (go_at_call 184;refine (zkC s c _).mono ?_;rintro e w' ⟨rfl,rfl⟩)
 go_ret
 exact⟨rfl,rfl⟩
def itV (w:World):Value:=.func (.func 145) #[] #[.pointer (some ⟨w.heap.size+1,0,none⟩),.pointer (some ⟨w.heap.size,0,none⟩),.pointer (some ⟨w.heap.size+1+1,0,none⟩)]
def itW (w:World) (s p:ByteArray):World:=((w.alloc (.cells #[.string s] 9)).alloc (.cells #[.string p] 9)).alloc (.cells #[.int .i64 0] 3)
set_option maxHeartbeats 1000000 in
theorem zhG (s p:ByteArray) (w:World):Calls Tryz.prog 85 #[.string s,.string p,.int .i64 0] w fun e w'=>e= .returned (itV w)∧w'=itW w s p:=by
 go_enter Tryz.func85,Tryz.ntmps85
 go_wp2
 go_ret
 refine⟨?_,rfl⟩
 unfold itV
 simp
set_option maxHeartbeats 1000000 in
theorem zir (s p:ByteArray) (w:World):Calls Tryz.prog 50 #[.string s,.string p] w fun e w'=>e= .returned (itV w)∧w'=itW w s p:=by
 go_enter Tryz.func50,Tryz.ntmps50
 go_wp2_with (go_at_call 85;refine (zhG s p _).mono ?_;rintro e w' ⟨rfl,rfl⟩)
 go_ret
 exact⟨rfl,rfl⟩
theorem zjw (p:List UInt8) (hp:∀ x∈p,x≠10) (r:List UInt8):∀ (c:List UInt8),segF c (p++r)=segF (c++p) r:=by
 induction p with
 | nil=>intro c;rw [List.append_nil];rfl
 | cons x p ih=>
  intro c
  rw [List.cons_append]
  show (if x=10 then _ else _)=_
  rw [if_neg (hp x (List.mem_cons_self ..)),ih (fun y hy=>hp y (List.mem_cons_of_mem _ hy)),List.append_assoc]
  rfl
theorem zny {l:List UInt8} (h:∀ x∈l,x≠10):segs l=[l]:=by
 have:=zjw l h [] []
 rw [List.append_nil,List.nil_append] at this
 exact this
theorem znx {l:List UInt8} {n:Nat} (h:∀ x∈l.take n,x≠10) (hd:l.drop n=10::l.drop (n+1)):segs l=l.take n::segs (l.drop (n+1)):=by
 have:=zjw (l.take n) h (l.drop n) []
 rw [List.take_append_drop,List.nil_append,hd] at this
 exact this.trans (if_pos rfl)
theorem ztf (l:List UInt8) (n:Nat):(ByteArray.mk l.toArray).extract 0 n=⟨(l.take n).toArray⟩:=by
 apply ByteArray.ext
 rw [ByteArray.data_extract]
 simp
theorem ztg (l:List UInt8) (n:Nat):(ByteArray.mk l.toArray).extract n l.length=⟨(l.drop n).toArray⟩:=by
 apply ByteArray.ext
 rw [ByteArray.data_extract]
 simp
 exact List.take_of_length_le (by rw [List.length_drop];exact Nat.le_refl _)
def itI (gs gp gv:Nat) (g:Nat):Prop:=g=gs∨g=gp∨g=gv
noncomputable def zrj (gs:Nat) (W:World):Nat:=match W.cell? ⟨gs,0,none⟩ with | some (.string s)=>s.size | _=>0
set_option maxHeartbeats 2000000 in
theorem zmn (l gs gp gv:Nat) (s:List UInt8) (J:Nat->World->Prop) (Jr:World->Prop) (W:World) (hne:gs≠gp∧gs≠gv) (hlen:s.length≤2000000)
 (hs:W.heap[gs]? =some (.cells #[.string ⟨s.toArray⟩] 9 (0,0))) (hp:W.heap[gp]? =some (.cells #[.string ⟨#[10]⟩] 9 (0,0))) (hv:W.heap[gv]? =some (.cells #[.int .i64 0] 3 (0,0)))
 (hJ:∀ k A C,J k A->Kept (itI gs gp gv) A C->J k C)
 (hY:∀ k y W1,J k W1->(segs s)[k]? =some y->W.heap.size≤W1.heap.size->YieldAt Fence.wide 0 Tryz.prog l #[.string ⟨y.toArray⟩] W1 fun e W'=>(e= .returned (.bool true)∧J (k+1) W'∧SameOn (itI gs gp gv) W.heap.size W1 W')∨(e= .returned (.bool false)∧Jr W'))
 (h0:J 0 W):
 CallsIn Fence.wide 1 Tryz.prog 145 #[.func (.yield l) #[] #[],.pointer (some ⟨gp,0,none⟩),.pointer (some ⟨gs,0,none⟩),.pointer (some ⟨gv,0,none⟩)] W fun e W'=>(∃ v,e= .returned v)∧(J (segs s).length W'∨Jr W'):=by
 refine callsIn_of_wp Tryz.func145 rfl trivial ?_ rfl
 have c1:=(zaW hp).1
 have c2:=zaW hs
 simp only [Tryz.ntmps145,List.size_toArray,List.length_cons,List.length_nil,Nat.reduceAdd,Nat.reduceSub,Array.replicate_succ,Array.replicate_zero,List.push_toArray,List.append_toArray,List.nil_append,List.cons_append]
 gi_wp2
 gi_loopw [7] (fun p wr=>∃ (pre:List (List UInt8)) (rest:List UInt8),segs s=pre++segs rest∧rest.length≤s.length∧wr.heap[gs]? =some (.cells #[.string ⟨rest.toArray⟩] 9 (0,0))∧wr.heap[gp]? =some (.cells #[.string ⟨#[10]⟩] 9 (0,0))∧wr.heap[gv]? =some (.cells #[.int .i64 0] 3 (0,0))∧J pre.length wr∧W.heap.size≤wr.heap.size)
  (fun p wr=>zrj gs wr)
 case atStart=>exact⟨[],s,rfl,Nat.le_refl _,hs,hp,hv,h0,Nat.le_refl _⟩
 case round=>
  obtain⟨pre,rest,hsg,hrl,hs',hp',hv',hj,hsz⟩:=hrel
  have d1:=(zaW hp').1
  have d2:=zaW hs'
  have d3:=(zaW hv').1
  gi_wp2
  refine⟨trivial,(callsIn_wide.2 (ziq _ _ _)).mono ?_⟩
  rintro e w' ⟨rfl,rfl⟩
  have hix:Lib.indexByte (ByteArray.mk rest.toArray).data.toList 10=Lib.indexByte rest 10:=rfl
  rw [hix]
  rcases zsr rest 10 with ⟨h1,h2⟩ | ⟨n,h1,h2,h3,h4⟩
  ·rw [h1]
   have hseg:=zny h2
   rw [hseg] at hsg
   obtain⟨fn,tmps,assign,body,hy,hR⟩:=hY pre.length rest _ hj (by rw [hsg];simp) hsz
   gi_wp2
   refine hR.mono ?_
   rintro e W3 (⟨rfl,hJ3,hk3⟩ | ⟨rfl,hp3⟩)
   ·gi_wp2
    go_end0
    refine⟨⟨_,rfl⟩,.inl ?_⟩
    rw [hsg,List.length_append]
    exact hJ3
   ·gi_wp2
    go_end0
    exact⟨⟨_,rfl⟩,.inr hp3⟩
  ·rw [h1]
   have hseg:=znx h3 h4
   rw [hseg] at hsg
   have hn0:¬ (n:Int) < 0:=by omega
   have hex:(ByteArray.mk rest.toArray).extract 0 n=⟨(rest.take n).toArray⟩:=ztf rest n
   have hex2:(ByteArray.mk rest.toArray).extract (n+1) rest.length=⟨(rest.drop (n+1)).toArray⟩:=ztg rest (n+1)
   have hnl:n < rest.length:=h2
   obtain⟨fn,tmps,assign,body,hy,hR⟩:=hY pre.length (rest.take n) _ hj (by rw [hsg];simp) hsz
   gi_wp2
   refine hR.mono ?_
   rintro e W3 (⟨rfl,hJ3,hk3⟩ | ⟨rfl,hp3⟩)
   ·have e1:=(hk3.block gs (.inl rfl)).trans hs'
    have e2:=(hk3.block gp (.inr (.inl rfl))).trans hp'
    have e3:=(hk3.block gv (.inr (.inr rfl))).trans hv'
    have f1:=(zaW e2).1
    have f2:=zaW e1
    gi_wp2
    have g1:=zeP (.string ⟨(rest.drop (n+1)).toArray⟩) e1
    refine⟨⟨pre++ [rest.take n],rest.drop (n+1),by rw [hsg,List.append_assoc];rfl,by rw [List.length_drop];omega,g1,(Below.heap_setCell W3 ⟨gs,0,none⟩ _ gp fun e=>hne.1 e.symm).trans e2,(Below.heap_setCell W3 ⟨gs,0,none⟩ _ gv fun e=>hne.2 e.symm).trans e3,?_,?_⟩,?_⟩
    ·rw [List.length_append,List.length_singleton]
     exact hJ _ _ _ hJ3 (zdu W3 gs _ (.inl rfl))
    ·exact Nat.le_trans hk3.size (zdu (R:=itI gs gp gv) W3 gs _ (.inl rfl)).size
    ·unfold zrj
     rw [(zaW g1).1,d2.1]
     show (rest.drop (n+1)).toArray.size < rest.toArray.size
     simp
     omega
   ·gi_wp2
    exact⟨rfl,_,results_none rfl _ _ _,⟨_,rfl⟩,.inr hp3⟩
theorem zgm {P:Program} {f:FuncId} {Q:Exit->Act->World->Prop} {a:Act} {w:World} {g:Operand} {ps:Array Tmp} {assign body:Code} {m:Nat}
 (h:∃ (l:Nat) (mark:List Deferred) (w1:World) (d:Deferred) (w1':World) (gf:FuncId) (args:Array Value) (w2:World),
   (Instr.enterLoop f a.tmps ps assign body none).run P w= .ok (l,mark) w1∧(resolve a.eval (rangeCall g l) 0).run P w1= .ok d w1'∧(invoke d.target d.args).run P w1'= .ok (.enter gf args) w2∧
   CallsIn Fence.wide m P gf args w2 (fun e w3=>(∃ v,e= .returned v)∧∃ jump w4,(Instr.endLoop l).run P w3= .ok jump w4∧(match jump with
    | none=>Q .normal { a with defers:=mark++a.defers } w4
    | some c=>zfE P f c Q { a with defers:=mark++a.defers } w4))):
 zfE P f (.rangeFunc g ps assign body) Q a w:=by
 intro b k cs hb hro
 obtain⟨l,mark,w1,d,w1',gf,args,w2,he,hres,hinv,_,hcall⟩:=h
 rw [<-hro, <-hb] at he
 have henter:=stepR_rangeFunc (P:=P) (b:=b) (a:=a) (k:=k) (cs:=cs) (w:=w) he hres hinv
 obtain⟨e,w3,fr,⟨⟨v,rfl⟩,jump,w4,hend,hj⟩,hsteps,hfn,hleave⟩:=hcall (b.atR { a with defers:=mark++a.defers } (.inRangeFunc l::k)::cs) (room_wide _)
 have sback:StepsIn (Machine.fenced P Fence.wide) P (lone (b.atR a (.code (.rangeFunc g ps assign body)::k)) cs w) (lone (b.atR { a with defers:=mark++a.defers } ((jump.map Item.code).toList++k)) cs w4):=by
  refine .head (fenced_wide P _) henter (StepsIn.trans hsteps (.head (fenced_wide P _) ?_ (.one (fenced_wide P _) (stepR_endRangeFunc hend))))
  rw [<-finish_atR_inRangeFunc l v]
  exact step_leave_returned hleave
 cases jump with
 | none=>exact⟨.normal,_,w4,hj,sback⟩
 | some c=>
  obtain⟨e',a'',w5,hq,harr⟩:=hj b k cs hb hro
  exact⟨e',a'',w5,hq,.of_steps sback harr⟩
def zry (P:Program) (m:Nat) (gf:Nat) (lb:Array Value) (I:Nat->Prop) (ts:List (List UInt8)) (w:World):Prop:=
 ∀ (l:Nat) (J:Nat->World->Prop) (Jr:World->Prop) (W:World),Below w.heap.size w W->(∀ k A C,J k A->Kept I A C->J k C)->
  (∀ k y W1,J k W1->ts[k]? =some y->W.heap.size≤W1.heap.size->YieldAt Fence.wide (m - 1) P l #[.string ⟨List.toArray y⟩] W1 fun e W'=>(e= .returned (.bool true)∧J (k+1) W'∧SameOn I W.heap.size W1 W')∨(e= .returned (.bool false)∧Jr W'))->
  J 0 W->
  CallsIn Fence.wide m P gf (#[.func (.yield l) #[] #[]]++lb) W fun e W'=>(∃ v,e= .returned v)∧(J ts.length W'∨Jr W')
theorem zhA {P:Program} {f:FuncId} {m:Nat} {g:Operand} {p:Tmp} {assign body:Code} {Q:Exit->Act->World->Prop} {a:Act} {w:World} {gf:Nat} {lb:Array Value} (hg:a.eval g= .func (.func gf) #[] lb) (eg:∀ args w,(callFunc gf args).run P w= .ok (.enter gf args) w)
 {I:Nat->Prop} {ts:List (List UInt8)} {w0:World} (hseq:zry P m gf lb I ts w0) (hb0:Below w0.heap.size w0 w) (hI:∀ k,I k->k < w.heap.size)
 (J:Nat->World->Prop) (Jr:World->Prop) (N:Nat->List UInt8->Act->World->Prop) (hJ:∀ k A C,J k A->Kept (fun g=>I g∨g=w.heap.size∨g=w.heap.size+1) A C->J k C) (hJr:∀ A C,Jr A->Kept (fun g=>I g∨g=w.heap.size∨g=w.heap.size+1) A C->Jr C)
 (hN:∀ k y a' A C,N k y a' A->Kept (fun g=>I g∨g=w.heap.size∨g=w.heap.size+1) A C->N k y a' C) (h0:∀ W1:World,Below w.heap.size w W1->W1.heap.size=w.heap.size+2->J 0 W1)
 (hassign:∀ (l k:Nat) (y:List UInt8) (W:World),J k W->ts[k]? =some y->w.heap.size+2≤W.heap.size->assign.wpIn (Fence.wide.inRound l) (m - 1) P (fun e a' W'=>e= .normal∧N k y a' W'∧SameOn (fun g=>I g∨g=w.heap.size∨g=w.heap.size+1) (w.heap.size+2) W W') { tmps:=((#[p]:Array Tmp).zip #[(.string ⟨y.toArray⟩:Value)]).foldl (fun t (p,v)=>t.setIfInBounds p v) a.tmps,defers:=[] } W)
 (hbody:∀ (l k:Nat) (y:List UInt8) (W:World) (a':Act),ts[k]? =some y->w.heap.size+2≤W.heap.size->N k y a' W->
   body.wpIn (Fence.wide.inRound l) (m - 1) P (fun e _ W3=>((e= .normal∧J (k+1) W3)∨(e= .ret∧Jr W3))∧SameOn (fun g=>I g∨g=w.heap.size∨g=w.heap.size+1) (w.heap.size+2) W W3) a' W)
 (hdone:∀ W:World,J ts.length W->W.heap[w.heap.size]? =some (.deferred (some []))->Q .normal { a with defers:={ target:=.collected w.heap.size,args:=#[] }::a.defers } W)
 (hret:∀ (W:World),Jr W->W.heap[w.heap.size]? =some (.deferred (some []))->Q .ret { a with defers:={ target:=.collected w.heap.size,args:=#[] }::a.defers } W):
 zfE P f (.rangeFunc g #[p] assign body) Q a w:=by
 obtain⟨rec,hrec⟩:∃ rec:LoopState->Option Code->Loop,rec=fun st pe=>{ state:=st,pending:=pe,fn:=f,tmps:=a.tmps,params:=#[p],assign,body,defers:=w.heap.size }:=⟨_,rfl⟩
 obtain⟨W1,hW1⟩:∃ W1,(w.alloc (.deferred (some []))).alloc (.loop (rec .ready none))=W1:=⟨_,rfl⟩
 have hs1:W1.heap.size=w.heap.size+2:=by rw [<-hW1];simp
 have hL1:W1.heap[w.heap.size+1]? =some (.loop (rec .ready none)):=by
  rw [<-hW1];have:=World.alloc_heap_new (w.alloc (.deferred (some []))) (.loop (rec .ready none));rwa [World.size_alloc] at this
 have hK1:W1.heap[w.heap.size]? =some (.deferred (some [])):=by
  rw [<-hW1];exact (Below.heap_alloc _ _ _ (by simp)).trans (World.alloc_heap_new w _)
 have hb1':Below w.heap.size w W1:=by rw [<-hW1];exact ((Below.refl _ w).alloc (Nat.le_refl _) _).alloc (by simp) _
 have hJ1:J 0 W1:=h0 _ hb1' hs1
 have hb1:Below w0.heap.size w0 W1:=hb0.trans (hb1'.mono hb0.size)
 refine zgm (m:=m) ⟨w.heap.size+1,[{ target:=.collected w.heap.size,args:=#[] }],W1,{ target:=.fn (.func gf) lb,args:=#[.func (.yield (w.heap.size+1)) #[] #[]] },W1,gf,
  #[.func (.yield (w.heap.size+1)) #[] #[]]++lb,W1,?_,?_,?_,?_⟩
 ·rw [<-hW1,hrec];exact run_enterLoop_outer _ _ _ _ _
 ·simp only [resolve,hg]
  simp [go_sem]
 ·simp [invoke,go_sem,eg]
 refine (hseq (w.heap.size+1) (fun k W=>J k W∧W.heap[w.heap.size+1]? =some (.loop (rec .ready none))∧W.heap[w.heap.size]? =some (.deferred (some []))) (fun W=>Jr W∧W.heap[w.heap.size+1]? =some (.loop (rec .done (some .ret)))∧W.heap[w.heap.size]? =some (.deferred (some []))) W1 hb1 ?_ ?_ ⟨hJ1,hL1,hK1⟩).mono ?_
 ·intro k A C hs hb
  have hl:=(Array.getElem?_eq_some_iff.1 hs.2.1).1
  have hd:=(Array.getElem?_eq_some_iff.1 hs.2.2).1
  exact⟨hJ k _ _ hs.1 (hb.mono fun g h=>.inl h),(hb.block _ hl fun h=>by have:=hI _ h;omega).trans hs.2.1,(hb.block _ hd fun h=>by have:=hI _ h;omega).trans hs.2.2⟩
 ·rintro k y W ⟨hj,hl,hk⟩ hy1 hsz
  have hlt:w.heap.size+1 < W.heap.size:=(Array.getElem?_eq_some_iff.1 hl).1
  have hy:=run_yield (P:=P) (args:=#[.string ⟨y.toArray⟩]) hl (by rw [hrec];rfl)
  rw [hrec] at hy
  refine⟨f,_,assign,body,hy,roundIn_of_wpIn trivial ?_⟩
  refine Go.wpIn_mono (hassign _ k y W hj hy1 (by omega)) ?_
  rintro e a2 W2 ⟨rfl,hn2,hk2⟩
  have hl2:W2.heap[w.heap.size+1]? =some (.loop (rec .ready none)):=(hk2.block _ (.inr (.inr rfl))).trans hl
  have hd2:W2.heap[w.heap.size]? =some (.deferred (some [])):=(hk2.block _ (.inr (.inl rfl))).trans hk
  have hlt2:w.heap.size+1 < W2.heap.size:=(Array.getElem?_eq_some_iff.1 hl2).1
  refine⟨_,run_beginRound hl2 (by rw [hrec]),?_⟩
  have hl3:(W2.putObj (w.heap.size+1) (.loop { rec .ready none with state:=.busy })).heap[w.heap.size+1]? =some (.loop { rec .ready none with state:=.busy }):=World.putObj_heap_same hlt2
  have hd3:(W2.putObj (w.heap.size+1) (.loop { rec .ready none with state:=.busy })).heap[w.heap.size]? =some (.deferred (some [])):=(World.putObj_heap_other (by omega)).trans hd2
  have hn3:N k y a2 (W2.putObj (w.heap.size+1) (.loop { rec .ready none with state:=.busy })):=hN k y a2 _ _ hn2 (zcH _ (.inr (.inr rfl)))
  have hp3:=grownBy_putObj' W2 (w.heap.size+1) (.loop { rec .ready none with state:=.busy })
  refine Go.wpIn_mono (hbody _ k y _ a2 hy1 (Nat.le_trans (by omega) hp3.size) hn3) ?_
  rintro e a3 W3 ⟨he,hk3⟩
  have hl4:W3.heap[w.heap.size+1]? =some (.loop { rec .ready none with state:=.busy }):=(hk3.block _ (.inr (.inr rfl))).trans hl3
  have hd4:W3.heap[w.heap.size]? =some (.deferred (some [])):=(hk3.block _ (.inr (.inl rfl))).trans hd3
  rcases he with ⟨rfl,hj3⟩ | ⟨rfl,hr3⟩
  ·have hr:=run_endRound (P:=P) none hl4
   refine⟨_,_,hr,.inl ⟨rfl,⟨hJ _ _ _ hj3 (zcH _ (.inr (.inr rfl))),?_,(World.putObj_heap_other (by omega)).trans hd4⟩,?_⟩⟩
   ·rw [World.putObj_heap_same (Array.getElem?_eq_some_iff.1 hl4).1,hrec]
    rfl
   ·refine⟨?_,?_,?_,?_,fun j hj=>?_⟩
    ·exact (grownBy_putObj' W3 _ _).os.trans (hk3.os.trans (hp3.os.trans hk2.os))
    ·exact (grownBy_putObj' W3 _ _).tape.trans (hk3.tape.trans (hp3.tape.trans hk2.tape))
    ·exact (grownBy_putObj' W3 _ _).output.trans (hk3.output.trans (hp3.output.trans hk2.output))
    ·exact Nat.le_trans (by rw [hs1];exact hk3.size) (grownBy_putObj' W3 _ _).size
    ·have hjl:=hI j hj
     exact (World.putObj_heap_other (by omega)).trans ((hk3.block j (.inl hj)).trans ((World.putObj_heap_other (by omega)).trans (hk2.block j (.inl hj))))
  ·have hr:=run_endRound (P:=P) (some .ret) hl4
   refine⟨_,_,hr,.inr ⟨rfl,hJr _ _ hr3 (zcH _ (.inr (.inr rfl))),?_,(World.putObj_heap_other (by omega)).trans hd4⟩⟩
   rw [World.putObj_heap_same (Array.getElem?_eq_some_iff.1 hl4).1,hrec]
   rfl
 ·rintro e W2 ⟨hv,⟨hj,hl,hk⟩ | ⟨hj,hl,hk⟩⟩
  ·refine⟨hv,none,_,by have:=run_endLoop (P:=P) hl (by rw [hrec];simp);rw [hrec] at this;exact this,hdone _ (hJ _ _ _ hj (zcH _ (.inr (.inr rfl)))) ((World.putObj_heap_other (by omega)).trans hk)⟩
  ·refine⟨hv,some .ret,_,by have:=run_endLoop (P:=P) hl (by rw [hrec];simp);rw [hrec] at this;exact this,?_⟩
   exact zcf (m:=0) (wpIn_ret (hret _ (hJr _ _ hj (zcH _ (.inr (.inr rfl)))) ((World.putObj_heap_other (by omega)).trans hk)))
theorem zkz (gs gp gv:Nat) (s:List UInt8) (w:World) (hne:gs≠gp∧gs≠gv) (hlen:s.length≤2000000)
 (hs:w.heap[gs]? =some (.cells #[.string ⟨s.toArray⟩] 9 (0,0))) (hp:w.heap[gp]? =some (.cells #[.string ⟨#[10]⟩] 9 (0,0))) (hv:w.heap[gv]? =some (.cells #[.int .i64 0] 3 (0,0))):
 zry Tryz.prog 1 145 #[.pointer (some ⟨gp,0,none⟩),.pointer (some ⟨gs,0,none⟩),.pointer (some ⟨gv,0,none⟩)] (itI gs gp gv) (segs s) w:=fun l J Jr W hW hJ hY h0=>
 zmn l gs gp gv s J Jr W hne hlen ((hW.block _ (Array.getElem?_eq_some_iff.1 hs).1).trans hs) ((hW.block _ (Array.getElem?_eq_some_iff.1 hp).1).trans hp) ((hW.block _ (Array.getElem?_eq_some_iff.1 hv).1).trans hv) hJ hY h0
end Go.Proofs.YtpeaigpfddalcaaGreatDoor
namespace Go.Proofs.YtpeaigpfddalcaaGreatDoor
open Go Go.RowKit
set_option linter.unusedSimpArgs false
set_option linter.unusedVariables false
set_option maxRecDepth 100000
noncomputable def zjY (s p:List UInt8):Bool:=decide (p.length≤s.length)&&eqb .str (s.take p.length) p
noncomputable def cPre:Ctr:={ args:=[.str,.str],pre:=fun x=>[List.length x.1≤2000000,List.length x.2.1≤2000000],res:=.bool,own:=none,out:=fun x=>zjY x.1 x.2.1 }
theorem zmT:CtrOk Tryz.prog gmH 86 cPre:=by
 refine zaq (K:=gmK) zak Tryz.func86 rfl rfl Tryz.call86 rfl (by decide) (by intro h;cases h) ?_
 rintro w0 X hX ⟨(s:List UInt8),(p:List UInt8),⟨⟩⟩ hp
 obtain⟨hs,hpl⟩:s.length≤2000000∧p.length≤2000000:=hp
 change AWP _ _ _ _ _ ⟨[(0,⟨.str,s⟩),(1,⟨.str,p⟩)],[],0⟩ _
 (repeat (first | refine zae ?_ | refine zac ?_ | refine zab ?_ | refine zad ?_));refine zaa hX zak rfl ?_ ?_
 ·trivial
 (repeat (first | refine zae ?_ | refine zac ?_ | refine zab ?_ | refine zad ?_));refine zaa hX zak rfl ?_ ?_
 ·have hd:decide (((p.length:Nat):Int)≤((s.length:Nat):Int))=true->((p.length:Nat):Int)≤((s.length:Nat):Int):=of_decide_eq_true
  exact⟨fun h=>h,fun h=>⟨h,h,Int.natCast_nonneg _,hd h⟩,fun h=>⟨h,h⟩,fun h=>h⟩
 refine AWP.ret ⟨.inr rfl,zax rfl trivial rfl rfl ?_⟩
 show (bif decide (((p.length:Nat):Int)≤((s.length:Nat):Int)) then eqb .str (List.take (((p.length:Nat):Int)).toNat s) p else false)=(decide (p.length≤s.length)&&eqb .str (s.take p.length) p)
 rw [zco,dNat,Int.toNat_natCast]
noncomputable def kPx:Kn:={ gmK with C:=[(86,cPre)] }
theorem zoF:KnOk Tryz.prog gmH kPx:=zak.with (.cons zmT .nil)
theorem zoN:CtrOk Tryz.prog gmH 51 cPre:=by
 refine zaq (K:=kPx) zoF Tryz.func51 rfl rfl Tryz.call51 rfl (by decide) (by intro h;cases h) ?_
 rintro w0 X hX ⟨(s:List UInt8),(p:List UInt8),⟨⟩⟩ hp
 obtain⟨hs,hpl⟩:s.length≤2000000∧p.length≤2000000:=hp
 change AWP _ _ _ _ _ ⟨[(0,⟨.str,s⟩),(1,⟨.str,p⟩)],[],0⟩ _
 (repeat (first | refine zae ?_ | refine zac ?_ | refine zab ?_ | refine zad ?_));refine zaa hX zoF rfl ?_ ?_
 ·trivial
 (repeat (first | refine zae ?_ | refine zac ?_ | refine zab ?_ | refine zad ?_));refine zaa hX zoF rfl ?_ ?_
 ·exact⟨hs,hpl⟩
 exact AWP.ret ⟨.inr rfl,zax rfl trivial rfl rfl rfl⟩
abbrev De:=List UInt8×List Nd×Unit
abbrev znK (j:Nat):OObj:=.hbox 29 [⟨.obuf de,j⟩]
abbrev tD:TypeId:=29
def libE (l:List UInt8) (fr:Int) (acc:List De):Owns:=[(0,some (.hbox tD [⟨.lit,.slice none 0 0⟩])),(1,some (.box i64 (0:Int))),(2,some (.box i64 (0:Int))),(3,some (znK 6)),(4,some (.box i64 fr)),(5,some (.box .str l)),(6,some (.buf 37 de acc))]
def kLb:Kn:={ gmK with H:=[tD] }
theorem zoG:KnOk Tryz.prog gmH kLb:=⟨zhf,zhe,CsOk.nil,zie,RsOk.nil⟩
def zgn (l:List UInt8) (k:Int):Except (Int×Int) De:=(gDef l (zbg l,0) k).map fun r=>(r.1,r.2.flat 0,())
theorem zmY (l:List UInt8) (k:Int):zkX l (zbg l,0) [] k=toX id (zgn l k):=by
 unfold zkX zgn
 cases gDef l (zbg l,0) k<;>rfl
def NLib (l:List UInt8) (fr:Int) (acc:List De) (r:Except (Int×Int) Unit) (σ:AS):Prop:=(∃ d,zgn l ((acc.length:Nat):Int)= .ok d∧r= .ok ()∧Fit σ ⟨[],libE l fr (acc++ [d]),7⟩)∨∃ er,zgn l ((acc.length:Nat):Int)= .error er∧r= .error er∧Fit σ ⟨[],libE l fr acc,7⟩
set_option maxHeartbeats 4000000 in
theorem zqk {w1:World} {X:Ownr} {l:List UInt8} {fr:Int} {acc:List De} (hl:l.length≤4000) (ha:acc.length≤1000000) (hX:X.Ok w1) (hG:X.G=gmH) (hK:X.K=6) (hρ:X.ρ=none) (hD:X.D=[]) (hinv:∀ ty,ginv w1 X.R ty):
 AWP Tryz.prog w1 X Tryz.f54.ntmps (Tryz.f54.body.getD .skip) ⟨[(0,⟨.hptr,((3:Nat),(0:Nat))⟩),(1,⟨.optr .str,⟨5,.str,.here⟩⟩)],libE l fr acc,7⟩ (fun e σ=>((e= .normal∨e= .ret)∧NLib l fr acc (.ok ()) σ)∨∃ er,e= .panic [{ v:=pvS er,recovered:=false }]∧NLib l fr acc (.error er) σ):=by
 obtain⟨G,O,K,fix,D,ρ,B⟩:=X
 obtain rfl:G=gmH:=hG
 obtain rfl:K=6:=hK
 obtain rfl:ρ=none:=hρ
 obtain rfl:D=[]:=hD
 have hI:=fun ty=>zaJ (ty:=ty) hX rfl (hinv ty) (ty':=ty)
 have hl1:l.length≤100000:=by omega
 have hcap:acc.length+1≤1000000000:=by omega
 have hg0:GOk l (zbg l,0):=by
  have:=zgz (s:=l)
  unfold zhL at this
  rwa [zlo] at this
 have hok:pOk (l,zbg l,[],0,()):=⟨hg0,hl1⟩
 have hfew:few (l,zbg l,[],0,()):=Int.le_refl 0
 have hx:=zmY l ((acc.length:Nat):Int)
 unfold libE
 refine AWP.ordersA dM 9 rfl (by kernel_rfl) ?_
 cases hr:zgn l ((acc.length:Nat):Int) with
 | ok d=>
  rw [hr] at hx
  have hx:zkX l (zbg l,0) [] ((acc.length:Nat):Int)= .ok d:=hx
  repeat' (first
   | exact AllN.nil
   | refine AllN.cons ⟨_,rfl,?_⟩ ?_
   | refine StepA.eval hX zoG rfl trivial ?_
   | refine StepA.fresh hX zd9 rfl rfl rfl rfl rfl rfl (by exact trivial) (by exact hl1) (by exact⟨rfl,rfl⟩) rfl rfl ?_
   | refine StepA.eval hX zoG rfl hcap ?_
   | refine StepA.conv (Sim.nilLeaf 7 6 73 nd rfl rfl rfl) (StepA.giveO hX zfw rfl rfl rfl rfl rfl rfl rfl rfl rfl rfl rfl rfl (by exact trivial) (by exact⟨hok,hfew⟩) (by exact hI 139) rfl rfl (by exact hx) ?_)
   | (refine OrdA.last ?_;exact .inl ⟨.inl rfl,.inl ⟨d,hr,rfl,trivial,⟨rfl,rfl,rfl,rfl,rfl,rfl,rfl,trivial⟩,rfl,rfl⟩⟩))
 | error er=>
  rw [hr] at hx
  have hx:zkX l (zbg l,0) [] ((acc.length:Nat):Int)= .error (pvS er):=hx
  repeat' (first
   | exact AllN.nil
   | refine AllN.cons ⟨_,rfl,?_⟩ ?_
   | refine StepA.eval hX zoG rfl trivial ?_
   | refine StepA.fresh hX zd9 rfl rfl rfl rfl rfl rfl (by exact trivial) (by exact hl1) (by exact⟨rfl,rfl⟩) rfl rfl ?_
   | refine StepA.conv (Sim.nilLeaf 7 6 73 nd rfl rfl rfl) (StepA.giveE hX zfw rfl rfl rfl rfl rfl rfl rfl rfl rfl rfl rfl rfl (by exact trivial) (by exact⟨hok,hfew⟩) (by exact hI 139) rfl rfl (by exact hx) ?_)
   | exact .inr ⟨er,rfl,.inr ⟨er,hr,rfl,trivial,⟨rfl,rfl,rfl,rfl,rfl,rfl,rfl,trivial⟩,rfl,rfl⟩⟩)
def zj7:List De->List UInt8->List UInt8×Int
 | [],acc=>if 1048576 < acc.length then ([],2) else (acc,0)
 | d::r,acc=>
  if 32 < d.1.length then ([],2)
  else if zay d.1=0∨zay d.1 < d.1.length then ([],1)
  else if (fmtS d.2.1).2≠0 then ([],(fmtS d.2.1).2)
  else if 4000 < (d.1++ [32,61,32]++(fmtS d.2.1).1).length then ([],2)
  else zj7 r (acc++(d.1++ [32,61,32]++(fmtS d.2.1).1++ [10]))
def zbl (l:List De):List UInt8×Int:=if 4096 < l.length then ([],2) else zj7 l []
theorem zqC (r:List Nd):(fmtS r).1.length≤4000:=by
 unfold fmtS
 split
 ·split
  ·exact Nat.zero_le _
  ·show (zc2 r).text.length≤4000
   omega
 ·exact Nat.zero_le _
section
variable {w0:World} {X:Ownr} {n:Nat} {Q:Exit->AS->Prop} {ops:Array Oper} {F:Frame} {E:Owns} {nx:Nat}
theorem AL.newBd (hX:X.Ok w0) {o:Oper} {rest:List Oper} (ho:o.op= .alloc 105) (hgd:o.guard=none) {d:Nat} (hd:o.dst=some d) (hdn:Nat.blt d n=true)
 (h:AL Tryz.prog w0 X n ops rest ⟨(d,⟨.hptr,(nx,(0:Nat))⟩)::F,(nx,some (.hbox 105 [⟨.lit,.pointer none⟩,⟨.lit,.slice none 0 0⟩]))::E,nx+1⟩ Q):AL Tryz.prog w0 X n ops (o::rest) ⟨F,E,nx⟩ Q:=by
 refine AL.hand hgd (fun c e=>by rw [ho] at e;cases e) fun β a w hs=>?_
 have hlt:d < n:=by simpa using hdn
 refine zbz (u:=.pointer (some ⟨w.heap.size,0,none⟩)) (w':=w.alloc (.cells #[.pointer none,.slice none 0 0] 105 (0,0))) ?_ ?_
 ·unfold execOp
  simp [ho,Instr.alloc,Tryz.zeroValue105,newVar,newRow,Value.cells,go_sem]
 ·rw [hd]
  obtain⟨β',h1⟩:=hs.make hX ((Below.refl _ w).alloc (Nat.le_refl _) (.cells #[.pointer none,.slice none 0 0] 105 (0,0))) (bv:=.pointer (some ⟨w.heap.size,0,none⟩)) (o:=.hbox 105 [⟨.lit,.pointer none⟩,⟨.lit,.slice none 0 0⟩])
   (fun O β' _=>⟨w.heap.size,[.pointer none,.slice none 0 0],rfl,Nat.zero_le _,World.alloc_heap_new w _,⟨.pointer none,[.slice none 0 0],rfl,rfl,rfl,⟨.slice none 0 0,[],rfl,rfl,rfl,rfl⟩⟩⟩) (fun g hg=>by cases hg;exact Nat.le_refl _) (v:=⟨.hptr,(nx,(0:Nat))⟩) (u:=.pointer (some ⟨w.heap.size,0,none⟩))
   (fun O β' hb=>⟨w.heap.size,by show zah (β' nx)=_;rw [show β' nx=_ from hb];rfl,rfl⟩) (Nat.le_refl _) hlt (fun vs e v hv=>by
     cases e
     rcases List.mem_cons.1 hv with rfl | hv
     ·exact Nat.zero_le _
     ·rw [List.mem_singleton.1 hv];exact Nat.zero_le _)
  exact⟨_,β',h1,h⟩
end
@[reducible] def cStr0:HCtr:=hBl .unit [105] [] .str (fun _ _=>[]) fun x _=>.ok (x.2.1,x)
theorem zmV {R:Nat->Prop} {w w':World} (h:Below w.heap.size w w'):Kept R w w':=⟨h.os,h.tape,h.output,h.size,fun k hk _=>h.block k hk⟩
theorem zmm:zfD Tryz.prog gmH 62 cStr0 (fun x _=>.ok x.2.1):=by
 refine⟨Tryz.call62,zcm rfl,fun w O g cs ty x xs vs b hO hgb hg hx hbuf hrep hpre hinv hG=>?_⟩
 by_cases h0:x.2.1=[]
 ·obtain⟨xb,(xl:List UInt8),⟨⟩⟩:=x
  obtain rfl:xl=[]:=h0
  have hvs:vs=[]:=hrep
  subst hvs
  obtain rfl:ty=105:=List.mem_singleton.1 hinv.2
  rw [zog] at hx
  obtain⟨u,r,rfl,hu1,hu,hr⟩:=hx
  obtain⟨v,r,rfl,hv1,hv,hr⟩:=hr
  have hv:v=b:=hv
  subst hv
  have hr:r=[]:=hr
  subst hr
  obtain⟨cells,k1,k2,k3⟩:=hbuf
  have k1:=zfL k1
  subst k1
  have fin:∀ {e:Ending} {w':World},(e= .returned (.string ⟨#[]⟩)∧Below w.heap.size w w')->Kept (fun h=>h=g∨zah v=some h) w w'∧LEnd cStr0 w w' O e (.ok ([]:List UInt8)):=fun {e w'} h=>⟨zmV h.2,_,h.1,.inr fun β=>⟨rfl,Nat.zero_le _⟩⟩
  rcases k2.2 with ⟨rfl,_⟩ | ⟨g',cap,cur,rfl,_,hg',hnc,hcm,hcs,htake⟩
  ·refine (Any.Builder_String_nil Tryz.lays169 Tryz.Builder_Extra_169 w.heap.size g u w hg).mono ?_
   exact fun e w' h=>fin h
  ·by_cases hc0:cap=0
   ·subst hc0
    refine (Any.Builder_String_noroom Tryz.lays169 Tryz.Builder_Extra_169 w.heap.size g g' u cur w (Nat.le_refl _) hg hg').mono ?_
    exact fun e w' h=>fin h
   ·refine (Any.Builder_String_room Tryz.lays169 Tryz.Builder_Extra_169 w.heap.size g g' cap u w hc0 hg).mono ?_
    exact fun e w' h=>fin h
 ·exact (zjr .unit rfl [105]).2.2 w O g cs ty x xs vs b hO hgb hg hx hbuf hrep h0 hinv hG
def zDe:De:=([],[],())
def cFmtL:Ctr:={ args:=[.slice de],pre:=fun _=>[],res:=.tup .str (.tup i64 .unit),own:=none,out:=fun x=>((zbl x.1).1,(zbl x.1).2,()) }
def kFb:Kn:={ gmK with C:=[(65,zi4),(24,cFmt)] }
theorem za4:KnOk Tryz.prog gmH kFb:=zak.with (.cons zhS.lift <| .cons zhk .nil)
def hFb:List (FuncId×HCtr):=[(66,cWSB),(61,zm4 .unit [105])]
theorem zrn:HsOk Tryz.prog gmH hFb:=.cons zmg <| .cons zso .nil
def bdE (b:Bool) (acc:List UInt8):Owns:=[(0,some (.hbox 105 [adV 0 b,⟨.obuf u8,(1:Nat)⟩])),(1,some (.buf 5 u8 acc))]
set_option maxHeartbeats 1000000 in
theorem zoS:CtrOk Tryz.prog gmH 26 cFmtL:=by
 refine zaq (K:=kFb) za4 Tryz.func26 rfl rfl Tryz.call26 rfl (by decide) (by intro h;cases h) ?_
 rintro w0 X hX ⟨(l:List De),_⟩ hp
 change AWP _ _ _ _ _ ⟨[(0,⟨.slice de,l⟩)],[],0⟩ _
 refine AWP.len 0 rfl fun hl=>?_
 unfold maxLen at hl
 have hI:∀ w R,(∀ g,R g->w0.heap.size≤g∨(Ownr.plain gmH X).R g)->(Ownr.plain gmH X).G w->bInv .unit [105] w R 105:=fun w R hR hw=>⟨zaJ (ty:=105) hX rfl (zif hX) (ty':=105) w R hR hw,List.mem_singleton.2 rfl⟩
 (repeat (first | refine zae ?_ | refine zac ?_ | refine zab ?_ | refine zad ?_));refine zaa hX za4 rfl ?_ ?_
 ·trivial
 (repeat (first | refine zae ?_ | refine zac ?_ | refine zab ?_ | refine zad ?_));refine zaa hX za4 rfl ?_ ?_
 ·trivial
 refine zaf rfl (fun hb=>?_) (fun hb=>?_)
 ·have hb:decide (((l.length:Nat):Int) > 4096)=true:=hb
  have hb:=of_decide_eq_true hb
  (repeat (first | refine zae ?_ | refine zac ?_ | refine zal ?_ | refine zad ?_ | refine zab ?_ | refine zaa hX za4 rfl trivial ?_ | refine zaa hX za4 rfl id ?_ | refine zaa hX za4 rfl ⟨id,id⟩ ?_))
  refine AWP.ret ⟨.inr rfl,zbh (by decide) rfl rfl trivial ?_⟩
  show (([]:List UInt8),(2:Int),())=((zbl l).1,(zbl l).2,())
  unfold zbl
  rw [if_pos (by omega)]
 have hb:decide (((l.length:Nat):Int) > 4096)=false:=hb
 have hb:=of_decide_eq_false hb
 have hS:zbl l=zj7 l []:=by unfold zbl;rw [if_neg (by omega)]
 refine zac ?_
 refine zae ?_
 refine zai ?_
 refine AL.newBd hX rfl rfl rfl rfl ?_
 refine AL.nilLeaf 0 1 5 u8 rfl rfl rfl ?_
 refine AL.nil ?_
 (repeat (first | refine zae ?_ | refine zac ?_ | refine zab ?_ | refine zad ?_));refine zaa hX za4 rfl ?_ ?_
 ·trivial
 (repeat (first | refine zae ?_ | refine zac ?_ | refine zab ?_ | refine zad ?_));
 refine AWP.loop (ι:=Nat×List UInt8) (fun p=>⟨[(0,⟨.slice de,l⟩),(4,⟨.hptr,((0:Nat),(0:Nat))⟩),(14,⟨.slice de,l⟩),(15,⟨i64,((l.length:Nat):Int)⟩),(16,⟨i64,(p.1:Int)⟩)],bdE (decide (0 < p.1)) p.2,2⟩) (fun p=>p.1≤l.length∧zbl l=zj7 (l.drop p.1) p.2∧p.2.length≤4001 * p.1) (fun p=>l.length - p.1) (0,[]) ⟨Nat.zero_le _,hS,Nat.zero_le _⟩ ⟨⟨rfl,rfl,rfl,rfl,rfl,trivial⟩,⟨rfl,rfl,trivial⟩,rfl,rfl⟩ ?_
 rintro ⟨i,acc⟩ ⟨hi,hR,hal⟩
 have hi:i≤l.length:=hi
 have hR:zbl l=zj7 (l.drop i) acc:=hR
 have hal:acc.length≤4001 * i:=hal
 unfold bdE
 (repeat (first | refine zae ?_ | refine zac ?_ | refine zab ?_ | refine zad ?_));refine zaa hX za4 rfl ?_ ?_
 ·trivial
 refine zae ?_
 refine zaf rfl (fun hb=>?_) (fun hb=>?_)
 ·have hb2:decide ((i:Int) < (l.length:Nat))=true:=hb
  have hb2:=of_decide_eq_true hb2
  have hlt:i < l.length:=by omega
  have z0:(0:Int)≤(i:Int):=by omega
  have hgd:l.getD (i:Int).toNat zDe=l[i]:=za5 hlt
  rw [List.drop_eq_getElem_cons hlt,zj7, <-hgd] at hR
  generalize hbq:decide (0 < i)=b
  (repeat (first | refine zae ?_ | refine zac ?_ | refine zab ?_ | refine zad ?_));refine zaa hX za4 rfl ?_ ?_
  ·exact⟨z0,hb2⟩
  generalize hD:l.getD (i:Int).toNat zDe=D at *
  obtain⟨(nm:List UInt8),(rl:List Nd),⟨⟩⟩:=D
  refine zap (σ':=⟨[(0,⟨.slice de,l⟩),(4,⟨.hptr,((0:Nat),(0:Nat))⟩),(14,⟨.slice de,l⟩),(15,⟨i64,((l.length:Nat):Int)⟩),(16,⟨i64,(i:Int)⟩),(6,⟨.optr de,⟨2,de,.here⟩⟩)],(2,some (.box de (nm,rl,())))::bdE b acc,3⟩) ⟨⟨rfl,rfl,rfl,rfl,rfl,rfl,trivial⟩,⟨zfz hD,rfl,rfl,trivial⟩,rfl,by cases b<;>rfl⟩ ?_
  have hR:zbl l=if 32 < nm.length then ([],2) else if zay nm=0∨zay nm < nm.length then ([],1) else if (fmtS rl).2≠0 then ([],(fmtS rl).2) else if 4000 < (nm++ [32,61,32]++(fmtS rl).1).length then ([],2) else zj7 (l.drop (i+1)) (acc++(nm++ [32,61,32]++(fmtS rl).1++ [10])):=hR
  unfold bdE
  (repeat (first | refine zae ?_ | refine zac ?_ | refine zab ?_ | refine zad ?_));refine zaa hX za4 rfl ?_ ?_
  ·trivial
  (repeat (first | refine zae ?_ | refine zac ?_ | refine zab ?_ | refine zad ?_));refine zaa hX za4 rfl ?_ ?_
  ·trivial
  refine zaf rfl (fun hc=>?_) (fun hc=>?_)
  ·have hc:decide (((nm.length:Nat):Int) > 32)=true:=hc
   have hc:=of_decide_eq_true hc
   (repeat (first | refine zae ?_ | refine zac ?_ | refine zal ?_ | refine zad ?_ | refine zab ?_ | refine zaa hX za4 rfl trivial ?_ | refine zaa hX za4 rfl id ?_ | refine zaa hX za4 rfl ⟨id,id⟩ ?_))
   refine AWP.ret ⟨.inr rfl,zbh (by decide) rfl rfl trivial ?_⟩
   show (([]:List UInt8),(2:Int),())=((zbl l).1,(zbl l).2,())
   rw [hR,if_pos (by omega)]
  have hc:decide (((nm.length:Nat):Int) > 32)=false:=hc
  have hc:=of_decide_eq_false hc
  (repeat (first | refine zae ?_ | refine zac ?_ | refine zab ?_ | refine zad ?_));refine zaa hX za4 rfl ?_ ?_
  ·repeat' (first | exact trivial | assumption | (refine⟨?_,?_⟩) | (intro _) | exact Nat.le_of_ble_eq_true rfl | exact Int.natCast_nonneg _ | (simp_all [allP];done))
  have hq:(bif ((zay nm:Nat):Int)==0 then true else decide (((zay nm:Nat):Int) < ((nm.length:Nat):Int)))=decide (zay nm=0∨zay nm < nm.length):=by
   rw [b_or,Bool.eq_iff_iff,Bool.or_eq_true,decide_eq_true_iff,decide_eq_true_iff,beq_iff_eq]
   omega
  refine zaf rfl (fun hd=>?_) (fun hd=>?_)
  ·have hd:=hq.symm.trans hd
   have hd:=of_decide_eq_true hd
   (repeat (first | refine zae ?_ | refine zac ?_ | refine zal ?_ | refine zad ?_ | refine zab ?_ | refine zaa hX za4 rfl trivial ?_ | refine zaa hX za4 rfl id ?_ | refine zaa hX za4 rfl ⟨id,id⟩ ?_))
   refine AWP.ret ⟨.inr rfl,zbh (by decide) rfl rfl trivial ?_⟩
   show (([]:List UInt8),(1:Int),())=((zbl l).1,(zbl l).2,())
   rw [hR,if_neg (by omega),if_pos hd]
  have hd:=hq.symm.trans hd
  have hd:=of_decide_eq_false hd
  refine zac ?_
  (repeat (first | refine zae ?_ | refine zac ?_ | refine zab ?_ | refine zad ?_));refine zaa hX za4 rfl ?_ ?_
  ·trivial
  refine zap (σ':=⟨[(0,⟨.slice de,l⟩),(4,⟨.hptr,((0:Nat),(0:Nat))⟩),(14,⟨.slice de,l⟩),(15,⟨i64,((l.length:Nat):Int)⟩),(16,⟨i64,(i:Int)⟩),(6,⟨.optr de,⟨2,de,.here⟩⟩),(8,⟨.str,(fmtS rl).1⟩),(9,⟨i64,(fmtS rl).2⟩)],(2,some (.box de (nm,rl,())))::bdE b acc,3⟩) ⟨⟨rfl,rfl,rfl,rfl,rfl,rfl,rfl,rfl,trivial⟩,⟨rfl,rfl,rfl,trivial⟩,rfl,by cases b<;>rfl⟩ ?_
  have hfl:=zqC rl
  generalize (fmtS rl).1=T at *
  generalize (fmtS rl).2=ec at *
  unfold bdE
  (repeat (first | refine zae ?_ | refine zac ?_ | refine zab ?_ | refine zad ?_));refine zaa hX za4 rfl ?_ ?_
  ·trivial
  refine zaf rfl (fun he=>?_) (fun he=>?_)
  ·have he:(ec != 0)=true:=he
   have he:=bne_iff_ne.1 he
   (repeat (first | refine zae ?_ | refine zac ?_ | refine zal ?_ | refine zad ?_ | refine zab ?_ | refine zaa hX za4 rfl trivial ?_ | refine zaa hX za4 rfl id ?_ | refine zaa hX za4 rfl ⟨id,id⟩ ?_))
   refine AWP.ret ⟨.inr rfl,zbh (by decide) rfl rfl trivial ?_⟩
   show (([]:List UInt8),ec,())=((zbl l).1,(zbl l).2,())
   rw [hR,if_neg (by omega),if_neg hd,if_pos he]
  have he:(ec != 0)=false:=he
  have he:¬ ec≠0:=fun h=>by rw [bne_iff_ne.2 h] at he;cases he
  refine zac ?_
  have t1:nm.length+3≤maxLen:=by unfold maxLen;omega
  have t2:List.length (nm++ [32,61,32]:List UInt8)+T.length≤maxLen:=by rw [List.length_append];show nm.length+3+_≤_;unfold maxLen;omega
  have t3:(nm++ [32,61,32]++T:List UInt8).length=nm.length+3+T.length:=by rw [List.length_append,List.length_append];rfl
  (repeat (first | refine zae ?_ | refine zac ?_ | refine zab ?_ | refine zad ?_));refine zaa hX za4 rfl ?_ ?_
  ·exact⟨t1,t2⟩
  refine zap (σ':=⟨[(0,⟨.slice de,l⟩),(4,⟨.hptr,((0:Nat),(0:Nat))⟩),(14,⟨.slice de,l⟩),(15,⟨i64,((l.length:Nat):Int)⟩),(16,⟨i64,(i:Int)⟩),(10,⟨.str,nm++ [32,61,32]++T⟩)],bdE b acc,3⟩) ⟨⟨rfl,rfl,rfl,rfl,rfl,rfl,trivial⟩,⟨rfl,rfl,trivial⟩,rfl,by cases b<;>rfl⟩ ?_
  generalize (nm++ [32,61,32]++T:List UInt8)=L at hR t3
  unfold bdE
  (repeat (first | refine zae ?_ | refine zac ?_ | refine zab ?_ | refine zad ?_));refine zaa hX za4 rfl ?_ ?_
  ·trivial
  refine zaf rfl (fun hf=>?_) (fun hf=>?_)
  ·have hf:decide (((L.length:Nat):Int) > 4000)=true:=hf
   have hf:=of_decide_eq_true hf
   (repeat (first | refine zae ?_ | refine zac ?_ | refine zal ?_ | refine zad ?_ | refine zab ?_ | refine zaa hX za4 rfl trivial ?_ | refine zaa hX za4 rfl id ?_ | refine zaa hX za4 rfl ⟨id,id⟩ ?_))
   refine AWP.ret ⟨.inr rfl,zbh (by decide) rfl rfl trivial ?_⟩
   show (([]:List UInt8),(2:Int),())=((zbl l).1,(zbl l).2,())
   rw [hR,if_neg (by omega),if_neg hd,if_neg he,if_pos (by omega)]
  have hf:decide (((L.length:Nat):Int) > 4000)=false:=hf
  have hf:=of_decide_eq_false hf
  rw [if_neg (by omega),if_neg hd,if_neg he,if_neg (by omega)] at hR
  refine zac ?_
  have hl1:(L++ [10]:List UInt8).length=L.length+1:=by rw [List.length_append];rfl
  have t4:L.length+1≤maxLen:=by unfold maxLen;omega
  have t5:acc.length+List.length (L++ [10]:List UInt8)≤1000000000:=by omega
  cases b
  all_goals
   (repeat (first | refine zae ?_ | refine zac ?_ | refine zab ?_ | refine zad ?_));refine zai ?_
   refine AL.own 2 hX za4 zrn rfl t4 rfl rfl t5 hI ?_
   refine AL.nil ?_
   refine zap (σ':=⟨[(0,⟨.slice de,l⟩),(4,⟨.hptr,((0:Nat),(0:Nat))⟩),(14,⟨.slice de,l⟩),(15,⟨i64,((l.length:Nat):Int)⟩),(16,⟨i64,(i:Int)⟩)],[(0,some (.hbox 105 [adV 0 true,⟨.obuf u8,(1:Nat)⟩])),(1,some (.buf 5 u8 (acc++(L++ [10]))))],3⟩) ⟨⟨rfl,rfl,rfl,rfl,rfl,trivial⟩,⟨rfl,rfl,trivial⟩,rfl,rfl⟩ ?_
   (repeat (first | refine zae ?_ | refine zac ?_ | refine zab ?_ | refine zad ?_));refine zaa hX za4 rfl ?_ ?_
   ·exact zaR (by omega)
   refine⟨(i+1,acc++(L++ [10])),⟨hlt,hR,?_⟩,by show l.length - (i+1) < l.length - i;omega,⟨rfl,rfl,rfl,rfl,zck _,trivial⟩,⟨?_,rfl,trivial⟩,rfl,?_⟩
   ·show List.length (acc++(L++ [10]):List UInt8)≤4001 * (i+1)
    rw [List.length_append];omega
   ·rw [show decide (0 < (i+1,acc++(L++ [10])).1)=true from decide_eq_true (Nat.succ_pos _)];rfl
   ·rw [show decide (0 < (i+1,acc++(L++ [10])).1)=true from decide_eq_true (Nat.succ_pos _)];rfl
 ·have hb2:decide ((i:Int) < (l.length:Nat))=false:=hb
  have hb2:=of_decide_eq_false hb2
  obtain rfl:i=l.length:=by omega
  rw [List.drop_length,zj7] at hR
  generalize decide (0 < l.length)=b
  refine zad ?_
  refine zap (σ':=⟨[(4,⟨.hptr,((0:Nat),(0:Nat))⟩)],bdE b acc,2⟩) ⟨⟨rfl,trivial⟩,⟨rfl,rfl,trivial⟩,rfl,by cases b<;>rfl⟩ ?_
  unfold bdE
  cases b
  all_goals
   (repeat (first | refine zae ?_ | refine zac ?_ | refine zab ?_ | refine zad ?_));refine zai ?_
   refine AL.own 0 hX za4 zrn rfl trivial rfl rfl trivial hI ?_
   refine AL.all hX za4 rfl trivial ?_
   refine zaf rfl (fun hc=>?_) (fun hc=>?_)
   ·have hc:decide (((acc.length:Nat):Int) > 1048576)=true:=hc
    have hc:=of_decide_eq_true hc
    (repeat (first | refine zae ?_ | refine zac ?_ | refine zal ?_ | refine zad ?_ | refine zab ?_ | refine zaa hX za4 rfl trivial ?_ | refine zaa hX za4 rfl id ?_ | refine zaa hX za4 rfl ⟨id,id⟩ ?_))
    refine AWP.ret ⟨.inr rfl,zbh (by decide) rfl rfl trivial ?_⟩
    show (([]:List UInt8),(2:Int),())=((zbl l).1,(zbl l).2,())
    rw [hR,if_pos (by omega)]
   ·have hc:decide (((acc.length:Nat):Int) > 1048576)=false:=hc
    have hc:=of_decide_eq_false hc
    refine zac ?_
    (repeat (first | refine zae ?_ | refine zac ?_ | refine zab ?_ | refine zad ?_));refine zai ?_
    refine AL.give hX zmm rfl rfl rfl rfl rfl rfl rfl rfl rfl rfl rfl rfl trivial trivial hI rfl rfl ?_
    show AL _ _ _ _ _ _ _ _
    refine AL.all hX za4 rfl trivial ?_
    refine AWP.ret ⟨.inr rfl,zbh (by decide) rfl rfl trivial ?_⟩
    show (acc,(0:Int),())=((zbl l).1,(zbl l).2,())
    rw [hR,if_neg (by omega)]
noncomputable def eqN (a b:Nd):Bool:=eqb nd a b
theorem zk3 {a b:Nd}:eqN a b=true↔a=b:=zbv
theorem zhn {a b:Nd}:eqN a b=false↔a≠b:=by rw [<-Bool.not_eq_true,zk3]
noncomputable def zrs:Ctr:={ args:=[nd,nd],pre:=fun _=>[],res:=.bool,own:=none,out:=fun x=>eqN x.1 x.2.1 }
theorem eqb_ne (x y:List UInt8):(!eqb .str x y)= !decide (x=y):=by rw [zdL]
theorem zpP:CtrOk Tryz.prog gmH 49 zrs:=by
 refine zaq (K:=gmK) zak Tryz.func49 rfl rfl Tryz.call49 rfl (by decide) (by intro h;cases h) ?_
 rintro w0 X hX ⟨(a:Nd),(b:Nd),_⟩ hp
 change AWP _ _ _ _ _ ⟨[(0,⟨nd,a⟩),(1,⟨nd,b⟩)],[],0⟩ _
 (repeat (first | refine zae ?_ | refine zac ?_ | refine zab ?_ | refine zad ?_));refine zaa hX zak rfl ?_ ?_
 ·trivial
 (repeat (first | refine zae ?_ | refine zac ?_ | refine zab ?_ | refine zad ?_));refine zaa hX zak rfl ?_ ?_
 ·repeat' (first | exact trivial | assumption | (refine⟨?_,?_⟩) | (intro _) | exact Nat.le_of_ble_eq_true rfl | exact Int.natCast_nonneg _ | (simp_all [allP];done))
 obtain⟨a1,a2,a3,a4,a5,a6,(la:List Int),a8,⟨⟩⟩:=a
 obtain⟨b1,b2,b3,b4,b5,b6,(lb:List Int),b8,⟨⟩⟩:=b
 have ht:(bif (bif (bif (bif (bif (bif (bif a1 != b1 then true else a2 != b2) then true else a3 != b3) then true else a4 != b4) then true else a5 != b5) then true else a6 != b6) then true else !eqb .str a8 b8) then true else ((la.length:Nat):Int) != ((lb.length:Nat):Int))=true↔¬ (a1=b1∧a2=b2∧a3=b3∧a4=b4∧a5=b5∧a6=b6∧a8=b8∧la.length=lb.length):=by
  rw [eqb_ne]
  simp only [b_or,Bool.or_eq_true,bne_iff_ne,Bool.not_eq_true',decide_eq_false_iff_not]
  constructor
  ·rintro (((((((h | h) | h) | h) | h) | h) | h) | h) ⟨x1,x2,x3,x4,x5,x6,x7,x8⟩
   ·exact h x1
   ·exact h x2
   ·exact h x3
   ·exact h x4
   ·exact h x5
   ·exact h x6
   ·exact h x7
   ·exact h (by rw [x8])
  ·intro h
   by_cases x1:a1=b1
   ·by_cases x2:a2=b2
    ·by_cases x3:a3=b3
     ·by_cases x4:a4=b4
      ·by_cases x5:a5=b5
       ·by_cases x6:a6=b6
        ·by_cases x7:a8=b8
         ·refine .inr fun e=>h ⟨x1,x2,x3,x4,x5,x6,x7,by omega⟩
         ·exact .inl (.inr x7)
        ·exact .inl (.inl (.inr x6))
       ·exact .inl (.inl (.inl (.inr x5)))
      ·exact .inl (.inl (.inl (.inl (.inr x4))))
     ·exact .inl (.inl (.inl (.inl (.inl (.inr x3)))))
    ·exact .inl (.inl (.inl (.inl (.inl (.inl (.inr x2))))))
   ·exact .inl (.inl (.inl (.inl (.inl (.inl (.inl x1))))))
 refine zaf rfl (fun hb=>?_) (fun hb=>?_)
 ·have hb:=ht.1 hb
  (repeat (first | refine zae ?_ | refine zac ?_ | refine zal ?_ | refine zad ?_ | refine zab ?_ | refine zaa hX zak rfl trivial ?_ | refine zaa hX zak rfl id ?_ | refine zaa hX zak rfl ⟨id,id⟩ ?_))
  refine AWP.ret ⟨.inr rfl,zax rfl trivial rfl rfl ?_⟩
  refine (zhn.2 fun e=>hb ?_).symm
  cases e
  exact⟨rfl,rfl,rfl,rfl,rfl,rfl,rfl,rfl⟩
 ·have hb:¬ _:=fun h=>by rw [ht.2 h] at hb;cases hb
  obtain⟨rfl,rfl,rfl,rfl,rfl,rfl,rfl,hlen⟩:=Classical.not_not.1 hb
  refine zac ?_
  (repeat (first | refine zae ?_ | refine zac ?_ | refine zab ?_ | refine zad ?_));refine zaa hX zak rfl ?_ ?_
  ·trivial
  (repeat (first | refine zae ?_ | refine zac ?_ | refine zab ?_ | refine zad ?_));
  refine zap (σ':=⟨[(2,⟨.optr nd,⟨0,nd,.here⟩⟩),(3,⟨.optr nd,⟨1,nd,.here⟩⟩),(5,⟨i64,(0:Int)⟩)],[(0,some (.box nd (a1,a2,a3,a4,a5,a6,la,a8,()))),(1,some (.box nd (a1,a2,a3,a4,a5,a6,lb,a8,())))],2⟩) ⟨⟨rfl,rfl,rfl,trivial⟩,⟨rfl,rfl,trivial⟩,rfl,rfl⟩ ?_
  refine AWP.loop (ι:=Nat) (fun k=>⟨[(2,⟨.optr nd,⟨0,nd,.here⟩⟩),(3,⟨.optr nd,⟨1,nd,.here⟩⟩),(5,⟨i64,(k:Int)⟩)],[(0,some (.box nd (a1,a2,a3,a4,a5,a6,la,a8,()))),(1,some (.box nd (a1,a2,a3,a4,a5,a6,lb,a8,())))],2⟩) (fun k=>k≤la.length∧la.take k=lb.take k) (fun k=>la.length - k) 0 ⟨Nat.zero_le _,rfl⟩ ⟨⟨rfl,rfl,rfl,trivial⟩,⟨rfl,rfl,trivial⟩,rfl,rfl⟩ ?_
  rintro k ⟨hk,he⟩
  (repeat (first | refine zae ?_ | refine zac ?_ | refine zab ?_ | refine zad ?_));refine zaa hX zak rfl ?_ ?_
  ·trivial
  refine AWP.len 64 rfl fun hl=>?_
  have hl:la.length≤maxLen:=hl
  unfold maxLen at hl
  refine zaf rfl (fun hb=>?_) (fun hb=>?_)
  ·have hb:decide ((k:Int) < ((la.length:Nat):Int))=true:=hb
   have hb:=of_decide_eq_true hb
   have hlt:k < la.length:=by omega
   have hlt2:k < lb.length:=by omega
   have z0:(0:Int)≤(k:Int):=by omega
   have z1:(k:Int) < ((la.length:Nat):Int):=by omega
   have z2:(k:Int) < ((lb.length:Nat):Int):=by omega
   have g1:la.getD (k:Int).toNat (0:Int)=la[k]:=za5 hlt
   have g2:lb.getD (k:Int).toNat (0:Int)=lb[k]:=za5 hlt2
   (repeat (first | refine zae ?_ | refine zac ?_ | refine zab ?_ | refine zad ?_));refine AWP.draw dM hX zak 11 (by kernel_rfl) rfl rfl ?_ ?_ ?_
   ·repeat' (first | exact trivial | assumption | exact z0 | exact z1 | exact z2 | (refine⟨?_,?_⟩) | (intro _) | exact Nat.le_of_ble_eq_true rfl | exact Int.natCast_nonneg _ | (simp_all [allP];done))
   ·trivial
   refine zaf rfl (fun hc=>?_) (fun hc=>?_)
   ·have hc:(la.getD (k:Int).toNat (0:Int) != lb.getD (k:Int).toNat (0:Int))=true:=hc
    rw [g1,g2] at hc
    have hc:=bne_iff_ne.1 hc
    (repeat (first | refine zae ?_ | refine zac ?_ | refine zal ?_ | refine zad ?_ | refine zab ?_ | refine zaa hX zak rfl trivial ?_ | refine zaa hX zak rfl id ?_ | refine zaa hX zak rfl ⟨id,id⟩ ?_))
    refine AWP.ret ⟨.inr rfl,zax rfl trivial rfl rfl ?_⟩
    refine (zhn.2 fun e=>hc ?_).symm
    have e:la=lb:=congrArg ndI e
    subst e
    rfl
   ·have hc:(la.getD (k:Int).toNat (0:Int) != lb.getD (k:Int).toNat (0:Int))=false:=hc
    rw [g1,g2] at hc
    have hc:=bne_eq_false_iff_eq.1 hc
    refine zac ?_
    (repeat (first | refine zae ?_ | refine zac ?_ | refine zab ?_ | refine zad ?_));refine zaa hX zak rfl ?_ ?_
    ·exact zaR (by omega)
    refine⟨k+1,⟨hlt,?_⟩,by omega,⟨rfl,rfl,zck _,trivial⟩,⟨rfl,rfl,trivial⟩,rfl,rfl⟩
    rw [List.take_succ_eq_append_getElem hlt,List.take_succ_eq_append_getElem hlt2,he,hc]
  ·have hb:decide ((k:Int) < ((la.length:Nat):Int))=false:=hb
   have hb:=of_decide_eq_false hb
   obtain rfl:k=la.length:=by omega
   (repeat (first | refine zae ?_ | refine zac ?_ | refine zal ?_ | refine zad ?_ | refine zab ?_ | refine zaa hX zak rfl trivial ?_ | refine zaa hX zak rfl id ?_ | refine zaa hX zak rfl ⟨id,id⟩ ?_))
   refine AWP.ret ⟨.inr rfl,zax rfl trivial rfl rfl ?_⟩
   refine (zk3.2 ?_).symm
   rw [List.take_length,hlen,List.take_length] at he
   rw [he]
noncomputable def zkB (a b:List Nd):Bool:=eqb (.slice nd) a b
theorem zfb {a b:List Nd}:zkB a b=true↔a=b:=zbv
theorem zgK {a b:List Nd}:zkB a b=false↔a≠b:=by rw [<-Bool.not_eq_true,zfb]
noncomputable def zs4:Ctr:={ args:=[.slice nd,.slice nd],pre:=fun _=>[],res:=.bool,own:=none,out:=fun x=>zkB x.1 x.2.1 }
noncomputable def kSame:Kn:={ gmK with C:=[(49,zrs)] }
theorem zby:KnOk Tryz.prog gmH kSame:=zak.with (.cons zpP .nil)
theorem znE:CtrOk Tryz.prog gmH 18 zs4:=by
 refine zaq (K:=kSame) zby Tryz.func18 rfl rfl Tryz.call18 rfl (by decide) (by intro h;cases h) ?_
 rintro w0 X hX ⟨(la:List Nd),(lb:List Nd),_⟩ hp
 change AWP _ _ _ _ _ ⟨[(0,⟨.slice nd,la⟩),(1,⟨.slice nd,lb⟩)],[],0⟩ _
 refine AWP.len 0 rfl fun hl=>?_
 unfold maxLen at hl
 (repeat (first | refine zae ?_ | refine zac ?_ | refine zab ?_ | refine zad ?_));refine zaa hX zby rfl ?_ ?_
 ·trivial
 (repeat (first | refine zae ?_ | refine zac ?_ | refine zab ?_ | refine zad ?_));refine zaa hX zby rfl ?_ ?_
 ·trivial
 refine zaf rfl (fun hb=>?_) (fun hb=>?_)
 ·have hb:(((la.length:Nat):Int) != ((lb.length:Nat):Int))=true:=hb
  have hb:=bne_iff_ne.1 hb
  (repeat (first | refine zae ?_ | refine zac ?_ | refine zal ?_ | refine zad ?_ | refine zab ?_ | refine zaa hX zby rfl trivial ?_ | refine zaa hX zby rfl id ?_ | refine zaa hX zby rfl ⟨id,id⟩ ?_))
  refine AWP.ret ⟨.inr rfl,zax rfl trivial rfl rfl ?_⟩
  exact (zgK.2 fun e=>hb (by have e:la=lb:=e;rw [e])).symm
 have hb:(((la.length:Nat):Int) != ((lb.length:Nat):Int))=false:=hb
 have hb:=bne_eq_false_iff_eq.1 hb
 have hlen:la.length=lb.length:=by omega
 refine zac ?_
 (repeat (first | refine zae ?_ | refine zac ?_ | refine zab ?_ | refine zad ?_));refine zaa hX zby rfl ?_ ?_
 ·trivial
 (repeat (first | refine zae ?_ | refine zac ?_ | refine zab ?_ | refine zad ?_));
 refine AWP.loop (ι:=Nat) (fun k=>⟨[(0,⟨.slice nd,la⟩),(1,⟨.slice nd,lb⟩),(5,⟨i64,(k:Int)⟩)],[],0⟩) (fun k=>k≤la.length∧la.take k=lb.take k) (fun k=>la.length - k) 0 ⟨Nat.zero_le _,rfl⟩ ⟨⟨rfl,rfl,rfl,trivial⟩,trivial,rfl,rfl⟩ ?_
 rintro k ⟨hk,he⟩
 (repeat (first | refine zae ?_ | refine zac ?_ | refine zab ?_ | refine zad ?_));refine zaa hX zby rfl ?_ ?_
 ·trivial
 refine zaf rfl (fun hb=>?_) (fun hb=>?_)
 ·have hb:decide ((k:Int) < ((la.length:Nat):Int))=true:=hb
  have hb:=of_decide_eq_true hb
  have hlt:k < la.length:=by omega
  have hlt2:k < lb.length:=by omega
  have z0:(0:Int)≤(k:Int):=by omega
  have z1:(k:Int) < ((la.length:Nat):Int):=by omega
  have z2:(k:Int) < ((lb.length:Nat):Int):=by omega
  have g1:la.getD (k:Int).toNat zNd=la[k]:=za5 hlt
  have g2:lb.getD (k:Int).toNat zNd=lb[k]:=za5 hlt2
  (repeat (first | refine zae ?_ | refine zac ?_ | refine zab ?_ | refine zad ?_));refine AWP.draw dM hX zby 10 (by kernel_rfl) rfl rfl ?_ ?_ ?_
  ·repeat' (first | exact trivial | assumption | exact z0 | exact z1 | exact z2 | (refine⟨?_,?_⟩) | (intro _) | exact Nat.le_of_ble_eq_true rfl | exact Int.natCast_nonneg _ | (simp_all [allP];done))
  ·trivial
  refine zaf rfl (fun hc=>?_) (fun hc=>?_)
  ·have hc:(!eqN (la.getD (k:Int).toNat zNd) (lb.getD (k:Int).toNat zNd))=true:=hc
   rw [g1,g2,Bool.not_eq_true'] at hc
   have hc:=zhn.1 hc
   (repeat (first | refine zae ?_ | refine zac ?_ | refine zal ?_ | refine zad ?_ | refine zab ?_ | refine zaa hX zby rfl trivial ?_ | refine zaa hX zby rfl id ?_ | refine zaa hX zby rfl ⟨id,id⟩ ?_))
   refine AWP.ret ⟨.inr rfl,zax rfl trivial rfl rfl ?_⟩
   refine (zgK.2 fun e=>hc ?_).symm
   have e:la=lb:=e
   subst e
   rfl
  ·have hc:(!eqN (la.getD (k:Int).toNat zNd) (lb.getD (k:Int).toNat zNd))=false:=hc
   rw [g1,g2,Bool.not_eq_false'] at hc
   have hc:=zk3.1 hc
   refine zac ?_
   (repeat (first | refine zae ?_ | refine zac ?_ | refine zab ?_ | refine zad ?_));refine zaa hX zby rfl ?_ ?_
   ·exact zaR (by omega)
   refine⟨k+1,⟨hlt,?_⟩,by omega,⟨rfl,rfl,zck _,trivial⟩,trivial,rfl,rfl⟩
   rw [List.take_succ_eq_append_getElem hlt,List.take_succ_eq_append_getElem hlt2,he,hc]
 ·have hb:decide ((k:Int) < ((la.length:Nat):Int))=false:=hb
  have hb:=of_decide_eq_false hb
  obtain rfl:k=la.length:=by omega
  (repeat (first | refine zae ?_ | refine zac ?_ | refine zal ?_ | refine zad ?_ | refine zab ?_ | refine zaa hX zby rfl trivial ?_ | refine zaa hX zby rfl id ?_ | refine zaa hX zby rfl ⟨id,id⟩ ?_))
  refine AWP.ret ⟨.inr rfl,zax rfl trivial rfl rfl ?_⟩
  refine (zfb.2 ?_).symm
  rw [List.take_length,hlen,List.take_length] at he
  exact he
noncomputable def zg2 (y:List UInt8):Bool:=(!zjY y [35])&&decide (zbB isWh y < y.length)
noncomputable def zhE (y:List UInt8) (fr:Nat) (acc:List De):Except (Int×Int) (List De):=
 if zg2 y=true then
  if 4000 < y.length then .error ((fr:Int),2)
  else match zgn y ((acc.length:Nat):Int) with
   | .ok d=>.ok (acc++ [d])
   | .error e=>if e.2=0 then .ok acc else .error ((fr:Int)+e.1,e.2)
 else .ok acc
noncomputable def libK:List (List UInt8)->Nat->List De->List De×Int×Int
 | [],_,acc=>(acc,0,0)
 | y::r,fr,acc=>match zhE y fr acc with
  | .error e=>([],e.1,e.2)
  | .ok acc'=>libK r (fr+y.length+1) acc'
noncomputable def za0 (s:List UInt8):List De×Int×Int:=if 1048576 < s.length then ([],0,2) else libK (segs s) 0 []
def lPF:List (Nat×V):=[(2,⟨.hptr,((0:Nat),(0:Nat))⟩),(3,⟨.optr i64,⟨1,i64,.here⟩⟩),(4,⟨.optr i64,⟨2,i64,.here⟩⟩),(5,⟨.hptr,((3:Nat),(0:Nat))⟩),(6,⟨.optr i64,⟨4,i64,.here⟩⟩),(7,⟨.optr .str,⟨5,.str,.here⟩⟩)]
def lRE (at' e:Int):Owns:=[(0,some (.hbox tD [⟨.lit,.slice none 0 0⟩])),(1,some (.box i64 at')),(2,some (.box i64 e))]
def zkO (y:List UInt8) (fr:Nat) (e:Exit) (σ:AS):Except (Int×Int) (List De)->Prop
 | .ok acc'=>e= .normal∧Fit σ ⟨[],libE y ((fr+y.length+1:Nat):Int) acc',7⟩
 | .error er=>e= .ret∧Fit σ ⟨[],lRE er.1 er.2,7⟩
noncomputable def kLc:Kn:={ gmK with H:=[tD],C:=[(51,cPre),(52,zk9 53 isWh)] }
theorem zb7:KnOk Tryz.prog gmH kLc:=⟨zhf,zhe,.cons zoN <| .cons zjt.lift .nil,zie,RsOk.nil⟩
def zoU:Code->Option (Code×Code)
 | .rangeFunc _ _ a b=>some (a,b)
 | .seq x y=>match zoU x with
  | some r=>some r
  | none=>zoU y
 | .block _ c=>zoU c
 | _=>none
noncomputable def lBody:Code:=match zoU (Tryz.f19.body.getD .skip) with
 | some r=>r.2
 | none=>.skip
noncomputable def lAsgn:Code:=match zoU (Tryz.f19.body.getD .skip) with
 | some r=>r.1
 | none=>.skip
theorem zqj {w1:World} {X:Ownr} {y:List UInt8} {fr:Nat} {acc:List De} (hy:y.length≤1100000) (hfr:fr≤1100000) (ha:acc.length≤1000000) (hX:X.Ok w1) (hG:X.G=gmH) (hK:X.K=5) (hinv:∀ ty,ginv w1 X.R ty) (her:∀ er,zgn y ((acc.length:Nat):Int)= .error er->0≤er.1∧er.1≤1100000):
 AWP Tryz.prog w1 X 47 lBody ⟨lPF,libE y (fr:Int) acc,7⟩ (fun e σ=>zkO y fr e σ (zhE y fr acc)):=by
 obtain⟨G,O,K,fix,D,ρ,B⟩:=X
 obtain rfl:G=gmH:=hG
 obtain rfl:K=5:=hK
 unfold lPF libE
 refine zab ?_
 have hp1:y.length≤2000000∧([35]:List UInt8).length≤2000000:=⟨by omega,by decide⟩
 refine zae ?_
 refine AWP.via (σ':=⟨[(2,⟨.hptr,((0:Nat),(0:Nat))⟩),(3,⟨.optr i64,⟨1,i64,.here⟩⟩),(4,⟨.optr i64,⟨2,i64,.here⟩⟩),(5,⟨.hptr,((3:Nat),(0:Nat))⟩),(6,⟨.optr i64,⟨4,i64,.here⟩⟩),(7,⟨.optr .str,⟨5,.str,.here⟩⟩),(25,⟨.bool,zg2 y⟩)],libE y (fr:Int) acc,7⟩) ?_ ?_
 ·unfold libE
  refine AWP.ordersA dM 10 rfl (by kernel_rfl) ?_
  cases hq:zjY y [35] with
  | true=>
   have hl0:zg2 y=false:=by unfold zg2;rw [hq];rfl
   have hb:(!zjY y [35])=false:=by rw [hq];rfl
   have hl2:(bif !zjY y [35] then false else false)=zg2 y:=by rw [hl0,hb];rfl
   repeat' (first
    | exact AllN.nil
    | refine AllN.cons ⟨_,rfl,?_⟩ ?_
    | refine StepA.eval hX zb7 rfl trivial ?_
    | refine StepA.eval hX zb7 rfl hp1 ?_
    | (refine StepA.guardF 3 19 true .bool false rfl rfl (zct hb) rfl rfl rfl ?_)
    | refine StepA.eval hX zb7 rfl (by exact fun h=>hb.symm.trans h) ?_
    | (refine OrdA.last ?_;exact⟨⟨rfl,rfl,rfl,rfl,rfl,rfl,zct hl2,trivial⟩,⟨rfl,rfl,rfl,rfl,rfl,rfl,rfl,trivial⟩,rfl,rfl⟩))
  | false=>
   have hb:(!zjY y [35])=true:=by rw [hq];rfl
   have hl1:(bif !zjY y [35] then decide (((zbB isWh y:Nat):Int) < ((y.length:Nat):Int)) else false)=zg2 y:=by
    unfold zg2
    rw [zco]
    congr 1
    exact decide_eq_decide.2 Int.ofNat_lt
   repeat' (first
    | exact AllN.nil
    | refine AllN.cons ⟨_,rfl,?_⟩ ?_
    | refine StepA.guardT 3 19 true rfl rfl (zct hb) rfl ?_
    | refine StepA.eval hX zb7 rfl trivial ?_
    | refine StepA.eval hX zb7 rfl hp1 ?_
    | refine StepA.eval hX zb7 rfl (by exact rfl) ?_
    | refine StepA.eval hX zb7 rfl (by exact fun h=>h) ?_
    | (refine OrdA.last ?_;exact⟨⟨rfl,rfl,rfl,rfl,rfl,rfl,zct hl1,trivial⟩,⟨rfl,rfl,rfl,rfl,rfl,rfl,rfl,trivial⟩,rfl,rfl⟩))
 have hlen:((y.length:Nat):Int)≤1100000:=by omega
 have hfrl:((fr:Nat):Int)≤1100000:=by omega
 have q0:inR .i64 (((y.length:Nat):Int)+1):=zao (by omega) (by omega)
 have q1:inR .i64 ((fr:Int)+(((y.length:Nat):Int)+1)):=zao (by omega) (by omega)
 have hend:(fr:Int)+(((y.length:Nat):Int)+1)=((fr+y.length+1:Nat):Int):=by omega
 unfold libE
 refine zaf rfl (fun hb=>?_) (fun hb=>?_)
 ·have hb:zg2 y=true:=hb
  unfold zhE
  rw [if_pos hb]
  (repeat (first | refine zae ?_ | refine zac ?_ | refine zab ?_ | refine zad ?_));refine zaa hX zb7 rfl ?_ ?_
  ·trivial
  refine zaf rfl (fun hb=>?_) (fun hb=>?_)
  ·have hb:decide (((4000:Nat):Int) < ((y.length:Nat):Int))=true:=hb
   have hb:=of_decide_eq_true hb
   rw [if_pos (by omega)]
   refine AWP.via (σ':=⟨[],lRE (fr:Int) 2,7⟩) ?_ ?_
   ·unfold lRE
    refine AWP.ordersA dM 4 rfl (by kernel_rfl) ?_
    repeat' (first
     | exact AllN.nil
     | refine AllN.cons ⟨_,rfl,?_⟩ ?_
     | refine StepA.eval hX zb7 rfl trivial ?_
     | (refine OrdA.last ?_;exact⟨trivial,⟨rfl,rfl,rfl,trivial⟩,rfl,rfl⟩))
   ·exact AWP.ret ⟨rfl,trivial,⟨rfl,rfl,rfl,trivial⟩,rfl,rfl⟩
  have hb:decide (((4000:Nat):Int) < ((y.length:Nat):Int))=false:=hb
  have hb:=of_decide_eq_false hb
  rw [if_neg (by omega)]
  refine zac ?_
  refine zap (σ':=⟨lPF,libE y (fr:Int) acc,7⟩) ⟨⟨rfl,rfl,rfl,rfl,rfl,rfl,trivial⟩,⟨rfl,rfl,rfl,rfl,rfl,rfl,rfl,trivial⟩,rfl,rfl⟩ ?_
  unfold lPF
  (repeat (first | refine zae ?_ | refine zac ?_ | refine zab ?_ | refine zad ?_));refine zai ?_
  refine AL.runClo hX 6 rfl rfl rfl rfl rfl rfl rfl rfl rfl rfl (by show 5≤6;omega) Tryz.func54 rfl rfl rfl rfl Tryz.call54 rfl rfl rfl (N:=NLib y (fr:Int) acc) (fun w2 X' h1 h2 h3 h4 h5 h6=>?_) (fun r σ hN=>?_)
  ·refine zqk (by omega) ha h1 h2 h3 h4 h5 fun ty=>zaJ (ty:=ty) hX rfl (hinv ty) _ _ h6 (by
    have:=h1.2.2 w2 (Kept.refl _ _)
    rwa [h2] at this)
  rcases hN with ⟨d,hd,rfl,hf⟩ | ⟨er,hd,rfl,hf⟩
  ·refine AL.fit (σ':=⟨(32,⟨tupI,((0:Int),(0:Int),())⟩)::lPF,libE y (fr:Int) (acc++ [d]),7⟩) ⟨⟨rfl,rfl,rfl,rfl,rfl,rfl,rfl,trivial⟩,hf.e,rfl,rfl⟩ ?_
   unfold lPF libE
   refine AL.all hX zb7 rfl trivial ?_
   (repeat (first | refine zae ?_ | refine zac ?_ | refine zab ?_ | refine zad ?_));refine zaa hX zb7 rfl ?_ ?_
   ·trivial
   refine zaf rfl (fun hb=>absurd (show false=true from hb) (by decide)) (fun _=>?_)
   refine zac ?_
   rw [hd]
   (repeat (first | refine zae ?_ | refine zac ?_ | refine zab ?_ | refine zad ?_));refine zaa hX zb7 rfl ?_ ?_
   ·exact⟨q0,q1⟩
   exact⟨rfl,trivial,⟨rfl,rfl,rfl,rfl,zfz hend,rfl,rfl,trivial⟩,rfl,rfl⟩
  ·refine AL.fit (σ':=⟨(32,⟨tupI,(er.1,er.2,())⟩)::lPF,libE y (fr:Int) acc,7⟩) ⟨⟨rfl,rfl,rfl,rfl,rfl,rfl,rfl,trivial⟩,hf.e,rfl,rfl⟩ ?_
   obtain⟨her0,her1⟩:=her er hd
   have q2:inR .i64 ((fr:Int)+er.1):=zao (by omega) (by omega)
   unfold lPF libE
   refine AL.all hX zb7 rfl trivial ?_
   (repeat (first | refine zae ?_ | refine zac ?_ | refine zab ?_ | refine zad ?_));refine zaa hX zb7 rfl ?_ ?_
   ·trivial
   rw [hd]
   refine zaf rfl (fun hb=>?_) (fun hb=>?_)
   ·have hb:(er.2 != 0)=true:=hb
    have hb:er.2≠0:=bne_iff_ne.1 hb
    show AWP _ _ _ _ _ _ (zkv _ _)
    refine AWP.via (σ':=⟨[],lRE ((fr:Int)+er.1) er.2,7⟩) ?_ ?_
    ·unfold lRE
     refine AWP.ordersA dM 7 rfl (by kernel_rfl) ?_
     repeat' (first
      | exact AllN.nil
      | refine AllN.cons ⟨_,rfl,?_⟩ ?_
      | refine StepA.eval hX zb7 rfl trivial ?_
      | refine StepA.eval hX zb7 rfl q2 ?_
      | (refine OrdA.last ?_;exact⟨trivial,⟨rfl,rfl,rfl,trivial⟩,rfl,rfl⟩))
    ·refine AWP.ret ?_
     show zkO y fr .ret _ (if er.2=0 then .ok acc else .error ((fr:Int)+er.1,er.2))
     rw [if_neg hb]
     exact⟨rfl,trivial,⟨rfl,rfl,rfl,trivial⟩,rfl,rfl⟩
   ·have hb:(er.2 != 0)=false:=hb
    have hb:er.2=0:=by
     by_cases h:er.2=0
     ·exact h
     ·rw [bne_iff_ne.2 h] at hb;cases hb
    refine zac ?_
    (repeat (first | refine zae ?_ | refine zac ?_ | refine zab ?_ | refine zad ?_));refine zaa hX zb7 rfl ?_ ?_
    ·exact⟨q0,q1⟩
    show zkO y fr .normal _ (if er.2=0 then .ok acc else .error ((fr:Int)+er.1,er.2))
    rw [if_pos hb]
    exact⟨rfl,trivial,⟨rfl,rfl,rfl,rfl,zfz hend,rfl,rfl,trivial⟩,rfl,rfl⟩
 ·have hb:zg2 y=false:=hb
  unfold zhE
  rw [if_neg (by rw [hb];decide)]
  refine zac ?_
  (repeat (first | refine zae ?_ | refine zac ?_ | refine zab ?_ | refine zad ?_));refine zaa hX zb7 rfl ?_ ?_
  ·exact⟨q0,q1⟩
  exact⟨rfl,trivial,⟨rfl,rfl,rfl,rfl,zfz hend,rfl,rfl,trivial⟩,rfl,rfl⟩
end Go.Proofs.YtpeaigpfddalcaaGreatDoor
namespace Go.Proofs.YtpeaigpfddalcaaGreatDoor
open Go Go.RowKit
set_option linter.unusedSimpArgs false
set_option linter.unusedVariables false
attribute [local go_sem] Oper.semAt_some
set_option maxRecDepth 100000
def zhC:List (List UInt8)->Nat
 | []=>0
 | g::r=>g.length+1+zhC r
theorem zfG:∀ (s c:List UInt8),zhC (segF c s)=c.length+s.length+1
 | [],c=>by unfold segF zhC zhC;simp
 | x::r,c=>by
  unfold segF
  split
  ·rw [zhC,zfG r []];simp;omega
  ·rw [zfG r];simp;omega
theorem zmo (s:List UInt8):zhC (segs s)=s.length+1:=by rw [segs,zfG];simp
theorem znB (y:List UInt8):GOk y (zbg y,0):=by
 have:=zgz (s:=y)
 unfold zhL at this
 rwa [zlo] at this
theorem zlF {y:List UInt8} {k:Int} {er:Int×Int} (h:zgn y k= .error er):0≤er.1∧er.1≤((y.length:Nat):Int):=by
 have hg:=znB y
 have he:Er y (gDef y (zbg y,0) k):=zaB (zbZ hg) fun u hu=>zaB (zbZ hg) fun _ _=>by
  have hc:=zbH hu
  rw [beq_iff_eq] at hc
  have k1:=zch hg (by show Tok.cls (zbg y,(0:Int)).1≠0;rw [hc];decide)
  exact zaB (zei k1.1) fun a ha=>zaB (zsT (zbq k1.1 ha).1) fun _ _=>zda
 unfold zgn at h
 cases hd:gDef y (zbg y,0) k with
 | ok r=>rw [hd] at h;cases h
 | error e=>
  rw [hd] at h
  cases h
  exact he _ hd
theorem zol {y:List UInt8} {k:Nat} {d:De} (h:zgn y (k:Int)= .ok d):k < 4096:=by
 unfold zgn at h
 cases hd:gDef y (zbg y,0) (k:Int) with
 | error e=>rw [hd] at h;cases h
 | ok r=>
  obtain⟨u,_,h2⟩:=zan hd
  obtain⟨u2,h3,_⟩:=zan h2
  have h3:=zbH h3
  rw [Bool.and_eq_true,decide_eq_true_iff,decide_eq_true_iff] at h3
  omega
theorem zno {y:List UInt8} {fr:Nat} {acc acc':List De} (ha:acc.length≤4096) (h:zhE y fr acc= .ok acc'):acc'.length≤4096:=by
 unfold zhE at h
 split at h
 ·split at h
  ·cases h
  ·split at h
   ·rename_i d hd
    cases h
    have:=zol hd
    rw [List.length_append,List.length_singleton]
    omega
   ·split at h
    ·cases h;exact ha
    ·cases h
 ·cases h;exact ha
abbrev XL (O:Nat->Prop) (fix:Nat->Nat) (D:List Deferred) (ρ:Option Nat):Ownr:={ G:=gmH,X:=O,K:=5,fix:=fix,D:=D,ρ:=ρ }
def sLE (fr:Nat) (acc:List De):Owns:=[(0,some (.hbox tD [⟨.lit,.slice none 0 0⟩])),(1,some (.box i64 (0:Int))),(2,some (.box i64 (0:Int))),(3,some (znK 5)),(4,some (.box i64 (fr:Int))),(5,some (.buf 37 de acc))]
def lPF0:List (Nat×V):=[(2,⟨.hptr,((0:Nat),(0:Nat))⟩),(3,⟨.optr i64,⟨1,i64,.here⟩⟩),(4,⟨.optr i64,⟨2,i64,.here⟩⟩),(5,⟨.hptr,((3:Nat),(0:Nat))⟩),(6,⟨.optr i64,⟨4,i64,.here⟩⟩)]
def lRn:List (Nat×Nat):=[(0,0),(1,1),(2,2),(3,3),(4,4),(6,5),(5,6)]
theorem zoz {B:World} {O:Nat->Prop} {fix:Nat->Nat} {D:List Deferred} {ρ:Option Nat} (hX:(XL O fix D ρ).Ok B) (y:List UInt8) (fr:Nat) (acc:List De):
 AWP Tryz.prog B (XL O fix D ρ) 47 lAsgn ⟨(15,⟨.str,y⟩)::lPF0,sLE fr acc,6⟩ (fun e σ=>e= .normal∧Fit σ ⟨(2,⟨.hptr,((0:Nat),(0:Nat))⟩)::(3,⟨.optr i64,⟨1,i64,.here⟩⟩)::(4,⟨.optr i64,⟨2,i64,.here⟩⟩)::(5,⟨.hptr,((3:Nat),(0:Nat))⟩)::(6,⟨.optr i64,⟨4,i64,.here⟩⟩):: [(7,⟨.optr .str,⟨6,.str,.here⟩⟩)],(6,some (.box .str y))::sLE fr acc,7⟩):=by
 unfold lPF0 sLE
 (repeat (first | refine zae ?_ | refine zac ?_ | refine zab ?_ | refine zad ?_));refine zaa hX zb7 rfl ?_ ?_
 ·trivial
 exact⟨rfl,⟨rfl,rfl,rfl,rfl,rfl,rfl,trivial⟩,⟨rfl,rfl,rfl,rfl,rfl,rfl,rfl,trivial⟩,rfl,rfl⟩
noncomputable def lTail:Code:=match Tryz.f19.body.getD .skip with
 | .seq _ (.seq _ (.seq _ (.seq _ (.seq _ t))))=>t
 | c=>c
def sLT (acc:List De):AS:=⟨[(2,⟨.hptr,((0:Nat),(0:Nat))⟩),(3,⟨.optr i64,⟨1,i64,.here⟩⟩),(4,⟨.optr i64,⟨2,i64,.here⟩⟩)],[(0,some (.hbox tD [⟨.slice de,acc⟩])),(1,some (.box i64 (0:Int))),(2,some (.box i64 (0:Int)))],6⟩
theorem zoi {B:World} {O:Nat->Prop} {fix:Nat->Nat} {D:List Deferred} (hX:(XL O fix D none).Ok B) (fr:Nat) (acc:List De):
 AWP Tryz.prog B (XL O fix D none) 47 lTail ⟨lPF0,sLE fr acc,6⟩ (fun e σ=>e= .ret∧Fit σ (sLT acc)):=by
 unfold lPF0 sLE sLT
 refine AWP.frzL hX 3 0 ?_
 (repeat (first | refine zae ?_ | refine zac ?_ | refine zal ?_ | refine zad ?_ | refine zab ?_ | refine zaa hX zb7 rfl trivial ?_ | refine zaa hX zb7 rfl id ?_ | refine zaa hX zb7 rfl ⟨id,id⟩ ?_))
 exact AWP.ret ⟨rfl,⟨rfl,rfl,rfl,trivial⟩,⟨rfl,rfl,rfl,trivial⟩,rfl,rfl⟩
section
variable {B W:World} {X:Ownr} {n:Nat} {σ:AS} {β:Nat->Value} {a:Act}
theorem zmb (h:Sim B X n σ β a W) {i:Nat} (hi:i < X.K) {t:Ty} {x:t.T} (hE:Owns.get σ.E i=some (.box t x)):∃ cs ty,W.heap[X.fix i]? =some (.cells (List.toArray cs) ty (0,0))∧RepC W (OSet X σ.E β) t x cs:=by
 obtain⟨g,cs,ty,q1,_,q2,q3⟩:=h.own i _ hE
 have q4:=(h.fix.2 i hi).1
 rw [q1] at q4
 have q4:g=X.fix i:=by simpa [zah] using q4
 subst q4
 exact⟨cs,ty,q2,q3⟩
theorem zoM (h:Sim B X n σ β a W) {i:Nat} (hi:i < X.K) {v:V} {ty:TypeId} (hE:Owns.get σ.E i=some (.hbox ty [v])):∃ u,W.heap[X.fix i]? =some (.cells #[u] ty (0,0))∧u.oneCell'=true∧RepV W (OSet X σ.E β) β v.t v.x u:=by
 obtain⟨g,cs,q1,_,q2,u,r,rfl,q5,q6,q7⟩:=h.own i _ hE
 have q7:r=[]:=q7
 subst q7
 have q4:=(h.fix.2 i hi).1
 rw [q1] at q4
 have q4:g=X.fix i:=by simpa [zah] using q4
 subst q4
 exact⟨u,q2,q5,q6⟩
theorem zmq {B A C:World} {X X':Ownr} {n n':Nat} {σ σ':AS} {β β':Nat->Value} {a a':Act} {I:Nat->Prop} (h:Sim B X n σ β a A) (h':Sim B X' n' σ' β' a' C) (hR:∀ g,X'.R g->X.R g) (hX:X.Ok B) (hI:∀ g,I g->X g):SameOn I B.heap.size A C:=
 ⟨h'.bel.os.trans h.bel.os.symm,h'.bel.tape.trans h.bel.tape.symm,h'.bel.output.trans h.bel.output.symm,h'.bel.size,fun k hk=>
   have hx:=hX.1 k (hI k hk)
   (h'.bel.block k hx.1 fun hr=>hx.2 (hR k hr)).trans (h.bel.block k hx.1 hx.2).symm⟩
end
def zoC (a:Act) (x:Value):Act:={ tmps:=((#[15]:Array Tmp).zip #[x]).foldl (fun t (p,v)=>t.setIfInBounds p v) a.tmps,defers:=[] }
theorem zdG {a:Act} {x:Value} (hsz:a.tmps.size=47) (s:Nat):(zoC a x).tmps.getD s undef=if 15=s then x else a.tmps.getD s undef:=by
 have:(zoC a x).tmps=a.tmps.setIfInBounds 15 x:=by simp [zoC]
 rw [this]
 by_cases h:15=s
 ·subst h
  rw [if_pos rfl]
  simp [Array.getD_eq_getD_getElem?,Array.getElem?_setIfInBounds,hsz]
 ·rw [if_neg h]
  simp [Array.getD_eq_getD_getElem?,Array.getElem?_setIfInBounds,h]
def nA:Act:={ tmps:=#[],defers:=[] }
section
variable {w w5:World} {O:Nat->Prop} {N:Nat} {s:List UInt8} {t0 t1 t2 t3 t4:TypeId} {a5:Act}
def lI (N D:Nat) (g:Nat):Prop:=itI (N+5) (N+6) (N+7) g∨g=D∨g=D+1
def lO (O:Nat->Prop) (N D:Nat) (g:Nat):Prop:=O g∨lI N D g
def lFix (N:Nat) (i:Nat):Nat:=N+i
def lBB (w5:World) (N:Nat) (B:World):Prop:=B.heap.size=w5.heap.size+2∧Kept (lI N w5.heap.size) w5 B
theorem lR {N:Nat} {O':Nat->Prop} {D:List Deferred} {ρ:Option Nat} {g:Nat} (h:(XL O' (lFix N) D ρ).R g):N≤g∧g≤N+4:=by
 rcases h with ⟨i,hi,rfl⟩ | h
 ·have hi:i < 5:=hi
  show N≤N+i∧N+i≤N+4
  omega
 ·exact False.elim h
theorem zoB (hN:N=w.heap.size) (hs5:w5.heap.size=N+8) (hb5:Below w.heap.size w w5) {B:World} (h:lBB w5 N B):Below w.heap.size w B:=
 ⟨h.2.os.trans hb5.os,h.2.tape.trans hb5.tape,h.2.output.trans hb5.output,Nat.le_trans hb5.size h.2.size,fun k hk=>(h.2.block k (Nat.lt_of_lt_of_le hk hb5.size) (by unfold lI itI;omega)).trans (hb5.block k hk)⟩
theorem zkU (hN:N=w.heap.size) (hs5:w5.heap.size=N+8) (hb5:Below w.heap.size w w5) {B W:World} (h:lBB w5 N B) {O':Nat->Prop} {D:List Deferred} {ρ:Option Nat} (hk:Kept (XL O' (lFix N) D ρ).R B W):Below w.heap.size w W:=
 have hb:=zoB hN hs5 hb5 h
 ⟨hk.os.trans hb.os,hk.tape.trans hb.tape,hk.output.trans hb.output,Nat.le_trans hb.size hk.size,fun k hkl=>(hk.block k (Nat.lt_of_lt_of_le hkl hb.size) fun hr=>by have:=(lR hr).1;omega).trans (hb.block k hkl)⟩
theorem lX_ok (hN:N=w.heap.size) (hO:∀ g,O g->g < w.heap.size) (hG:gmH w) (hs5:w5.heap.size=N+8) (hb5:Below w.heap.size w w5) {B:World} (h:lBB w5 N B) (D:List Deferred) (ρ:Option Nat):(XL (lO O N w5.heap.size) (lFix N) D ρ).Ok B:=by
 have hs:=h.1
 refine⟨fun g hg=>?_,fun g hg=>?_,fun w' hk=>zie _ _ hG (zkU hN hs5 hb5 h hk)⟩
 ·have hg:O g∨(g=N+5∨g=N+6∨g=N+7)∨g=w5.heap.size∨g=w5.heap.size+1:=hg
  refine⟨?_,fun hr=>?_⟩
  ·rcases hg with h1 | h1
   ·have:=hO g h1;omega
   ·omega
  ·have:=lR hr
   rcases hg with h1 | h1
   ·have:=hO g h1;omega
   ·omega
 ·have:=lR hg
  omega
theorem lX_inv (hN:N=w.heap.size) (hG:gmH w) {O':Nat->Prop} {D:List Deferred} {ρ:Option Nat} {B:World} (ty:TypeId):ginv B (XL O' (lFix N) D ρ).R ty:=by
 have hl:=zlQ hG
 exact⟨fun h=>by have:=lR h;omega,fun h=>by have:=lR h;omega⟩
def lJ (w5:World) (O:Nat->Prop) (N:Nat) (s:List UInt8) (k:Nat) (W:World):Prop:=∃ (B:World) (β:Nat->Value) (acc:List De) (fr:Nat),lBB w5 N B∧Sim B (XL (lO O N w5.heap.size) (lFix N) [] none) 0 ⟨[],sLE fr acc,6⟩ β nA W∧acc.length≤4096∧k≤(segs s).length∧fr+zhC ((segs s).drop k)≤s.length+1∧libK ((segs s).drop k) fr acc=za0 s
def lN (w5:World) (O:Nat->Prop) (N:Nat) (s:List UInt8) (k:Nat) (y:List UInt8) (a':Act) (W:World):Prop:=∃ (B:World) (β:Nat->Value) (acc:List De) (fr:Nat),lBB w5 N B∧Sim B (XL (lO O N w5.heap.size) (lFix N) [] none) 47 ⟨lPF,libE y (fr:Int) acc,7⟩ β a' W∧acc.length≤4096∧k≤(segs s).length∧fr+zhC ((segs s).drop k)≤s.length+1∧libK ((segs s).drop k) fr acc=za0 s
def lJr (w5:World) (O:Nat->Prop) (N:Nat) (s:List UInt8) (W:World):Prop:=∃ (er:Int×Int) (B:World) (β:Nat->Value),za0 s=([],er.1,er.2)∧lBB w5 N B∧Sim B (XL (lO O N w5.heap.size) (lFix N) [] none) 0 ⟨[],lRE er.1 er.2,7⟩ β nA W
theorem zom {tmps:Array Value} {g2 g3 g4:Nat} {W:World} {u:Value} {x y:Int} {t2 t3 t4:TypeId} (hu:u.oneCell'=true) (h2:tmps.getD 2 undef= .pointer (some ⟨g2,0,none⟩)) (h3:tmps.getD 3 undef= .pointer (some ⟨g3,0,none⟩)) (h4:tmps.getD 4 undef= .pointer (some ⟨g4,0,none⟩))
 (c2:W.heap[g2]? =some (.cells #[u] t2 (0,0))) (c3:W.heap[g3]? =some (.cells #[.int .i64 x] t3 (0,0))) (c4:W.heap[g4]? =some (.cells #[.int .i64 y] t4 (0,0))):
 (results Tryz.f19 tmps).run Tryz.prog W= .ok (.tuple #[u,.int .i64 x,.int .i64 y]) W:=by
 have d2:=(zaW c2).1
 have d3:=(zaW c3).1
 have d4:=(zaW c4).1
 rw [Array.getD_eq_getD_getElem?] at h2 h3 h4
 simp [results,Tryz.f19,go_sem,h2,h3,h4,d2,d3,d4]
abbrev zrH:Ty:=.tup (.slice de) (.tup i64 (.tup i64 .unit))
theorem znR {w:World} {O:Nat->Prop} {acc:List De} {x y:Int} {u:Value} (hu:RepD w O (.slice de) acc u):zdo w O 0 none zrH (acc,x,y,()) (.tuple #[u,.int .i64 x,.int .i64 y]):=fun β=>
 ⟨[_,_,_],rfl,_,_,rfl,hu,_,_,rfl,rfl,_,_,rfl,rfl,rfl⟩
def ldco (D:Nat):Deferred:={ target:=.collected D,args:=#[] }
def zm6 (w:World) (O:Nat->Prop) (r:List De×Int×Int) (e:Ending) (w':World):Prop:=∃ v,e= .returned v∧Below w.heap.size w w'∧zdo w' O w.heap.size none zrH (r.1,r.2.1,r.2.2,()) v
theorem lfin {W:World} {O':Nat->Prop} {tmps:Array Value} {D:Nat} {u:Value} {x y:Int} {acc:List De} (hN:N=w.heap.size) (hO:∀ g,O g->O' g) (hD:O' D) (hlt:N+2 < D) (hbel:Below w.heap.size w W) (hd:W.heap[D]? =some (.deferred (some []))) (hu:u.oneCell'=true) (h2:tmps.getD 2 undef= .pointer (some ⟨N,0,none⟩)) (h3:tmps.getD 3 undef= .pointer (some ⟨N+1,0,none⟩)) (h4:tmps.getD 4 undef= .pointer (some ⟨N+2,0,none⟩))
 (c2:W.heap[N]? =some (.cells #[u] t2 (0,0))) (c3:W.heap[N+1]? =some (.cells #[.int .i64 x] t3 (0,0))) (c4:W.heap[N+2]? =some (.cells #[.int .i64 y] t4 (0,0))) (hr:RepD W O' (.slice de) acc u):
 LeavesInM Fence.wide 1 Tryz.prog Tryz.f19 tmps (zm6 w O (acc,x,y)) [ldco D] .returning W:=by
 refine⟨(by intro h;cases h),.inl ⟨D,_,rfl,run_takeDeferred hd,?_⟩⟩
 have hk:Kept (fun g=>g=D) W (W.putObj D (.deferred none)):=zcH _ rfl
 have hlD:=(Array.getElem?_eq_some_iff.1 hd).1
 have hl:∀ g (o:Obj),W.heap[g]? =some o->g≠D->(W.putObj D (.deferred none)).heap[g]? =some o:=fun g o hg hne=>(hk.block g (Array.getElem?_eq_some_iff.1 hg).1 hne).trans hg
 refine⟨_,zom hu h2 h3 h4 (hl _ _ c2 (by omega)) (hl _ _ c3 (by omega)) (hl _ _ c4 (by omega)),_,rfl,?_,?_⟩
 ·refine⟨hk.os.trans hbel.os,hk.tape.trans hbel.tape,hk.output.trans hbel.output,Nat.le_trans hbel.size hk.size,fun k hkl=>?_⟩
  have h1:k < W.heap.size:=Nat.lt_of_lt_of_le hkl hbel.size
  exact (hk.block k h1 (by omega)).trans (hbel.block k hkl)
 ·exact znR (RepD.keep ⟨hk.size,fun g hg hn=>hk.block g hg fun e=>hn (e▸hD),fun g _ hg=>hO g hg⟩ hr)
end
end Go.Proofs.YtpeaigpfddalcaaGreatDoor
namespace Go.Proofs.YtpeaigpfddalcaaGreatDoor
open Go Go.RowKit
set_option linter.unusedSimpArgs false
set_option linter.unusedVariables false
attribute [local go_sem] Oper.semAt_some
set_option maxRecDepth 100000
section
variable {w w5:World} {O:Nat->Prop} {N:Nat} {s:List UInt8} {t0 t1 t2 t3 t4:TypeId} {a5:Act}
theorem ziw {B W:World} {O':Nat->Prop} {D:List Deferred} {ρ:Option Nat} {n:Nat} {σ:AS} {β:Nat->Value} {a:Act} (h:Sim B (XL O' (lFix N) D ρ) n σ β a W) {E:Owns} {m:Nat} (hf:Fit σ ⟨[],E,m⟩) (hm:5≤m):Sim B (XL O' (lFix N) [] none) 0 ⟨[],E,m⟩ β nA W:=
 (h.fit hf hm).act (X':=XL O' (lFix N) [] none) (a':=nA) rfl rfl rfl rfl rfl (F:=[]) zfJ rfl
theorem zoo {y:List UInt8} {r:List (List UInt8)} {fr:Nat} {acc:List De}:libK (y::r) fr acc=match zhE y fr acc with
 | .error e=>([],e.1,e.2)
 | .ok acc'=>libK r (fr+y.length+1) acc':=rfl
set_option maxHeartbeats 1000000 in
theorem zon (hN:N=w.heap.size) (hO:∀ g,O g->g < w.heap.size) (hG:gmH w) (hlen:s.length≤1048576) (hs5:w5.heap.size=N+8) (hb5:Below w.heap.size w w5)
 (b0:w5.heap[N]? =some (.cells #[.slice none 0 0] tD (0,0))) (b1:w5.heap[N+1]? =some (.cells #[.int .i64 0] t1 (0,0))) (b2:w5.heap[N+2]? =some (.cells #[.int .i64 0] t2 (0,0))) (b3:w5.heap[N+3]? =some (.cells #[.slice none 0 0] tD (0,0))) (b4:w5.heap[N+4]? =some (.cells #[.int .i64 0] t4 (0,0)))
 (i0:w5.heap[N+5]? =some (.cells #[.string ⟨s.toArray⟩] 9 (0,0))) (i1:w5.heap[N+6]? =some (.cells #[.string ⟨#[10]⟩] 9 (0,0))) (i2:w5.heap[N+7]? =some (.cells #[.int .i64 0] 3 (0,0)))
 (hsz:a5.tmps.size=47) (e2:a5.tmps.getD 2 undef= .pointer (some ⟨N,0,none⟩)) (e3:a5.tmps.getD 3 undef= .pointer (some ⟨N+1,0,none⟩)) (e4:a5.tmps.getD 4 undef= .pointer (some ⟨N+2,0,none⟩)) (e5:a5.tmps.getD 5 undef= .pointer (some ⟨N+3,0,none⟩)) (e6:a5.tmps.getD 6 undef= .pointer (some ⟨N+4,0,none⟩))
 (e14:a5.eval (.tmp 14)= .func (.func 145) #[] #[.pointer (some ⟨N+6,0,none⟩),.pointer (some ⟨N+5,0,none⟩),.pointer (some ⟨N+7,0,none⟩)]) (hdf:a5.defers=[]):
 zfE Tryz.prog 19 (.rangeFunc (.tmp 14) #[15] lAsgn lBody) (fun e a w'=>(e= .normal∨e= .ret)∧Exit.then (zfE Tryz.prog 19 lTail (bodyPostM Fence.wide 1 Tryz.prog Tryz.f19 (zm6 w O (za0 s)))) (bodyPostM Fence.wide 1 Tryz.prog Tryz.f19 (zm6 w O (za0 s))) e a w') a5 w5:=by
 have hP:za0 s=libK (segs s) 0 []:=if_neg (by omega)
 have hXok:∀ B D ρ,lBB w5 N B->(XL (lO O N w5.heap.size) (lFix N) D ρ).Ok B:=fun B D ρ h=>lX_ok hN hO hG hs5 hb5 h D ρ
 have hsame:∀ {B A C:World} {ρ ρ':Option Nat} {D D':List Deferred} {n n':Nat} {σ σ':AS} {β β':Nat->Value} {a a':Act},lBB w5 N B->Sim B (XL (lO O N w5.heap.size) (lFix N) D ρ) n σ β a A->Sim B (XL (lO O N w5.heap.size) (lFix N) D' ρ') n' σ' β' a' C->SameOn (lI N w5.heap.size) (w5.heap.size+2) A C:=fun hBB h h'=>by
  have:=zmq h h' (fun g hr=>hr) (hXok _ _ _ hBB) (I:=lI N w5.heap.size) (fun g hg=>.inr hg)
  rwa [hBB.1] at this
 refine zhA (m:=1) e14 Tryz.call145 (zkz (N+5) (N+6) (N+7) s w5 (by omega) (by omega) i0 i1 i2) (Below.refl _ _) ?_ (lJ w5 O N s) (lJr w5 O N s) (lN w5 O N s) ?_ ?_ ?_ ?_ ?_ ?_ ?_ ?_
 ·intro k hk
  have hk:k=N+5∨k=N+6∨k=N+7:=hk
  omega
 ·rintro k A C ⟨B,β,acc,fr,hBB,hS,h1,h2,h3,h4⟩ hk
  obtain⟨B',hs',hk',hS'⟩:=hS.outside (hXok _ _ _ hBB) (I:=lI N w5.heap.size) (fun g hg=>.inr hg) hk
  exact⟨B',β,acc,fr,⟨hs'.trans hBB.1,hBB.2.trans hk'⟩,hS',h1,h2,h3,h4⟩
 ·rintro A C ⟨er,B,β,hpe,hBB,hS⟩ hk
  obtain⟨B',hs',hk',hS'⟩:=hS.outside (hXok _ _ _ hBB) (I:=lI N w5.heap.size) (fun g hg=>.inr hg) hk
  exact⟨er,B',β,hpe,⟨hs'.trans hBB.1,hBB.2.trans hk'⟩,hS'⟩
 ·rintro k y a' A C ⟨B,β,acc,fr,hBB,hS,h1,h2,h3,h4⟩ hk
  obtain⟨B',hs',hk',hS'⟩:=hS.outside (hXok _ _ _ hBB) (I:=lI N w5.heap.size) (fun g hg=>.inr hg) hk
  exact⟨B',β,acc,fr,⟨hs'.trans hBB.1,hBB.2.trans hk'⟩,hS',h1,h2,h3,h4⟩
 ·intro W1 hb hs1
  have hBB:lBB w5 N W1:=⟨hs1,⟨hb.os,hb.tape,hb.output,hb.size,fun k hk _=>hb.block k hk⟩⟩
  have hl:∀ g (o:Obj),w5.heap[g]? =some o->W1.heap[g]? =some o:=fun g o hg=>(hb.block g (Array.getElem?_eq_some_iff.1 hg).1).trans hg
  let β:Nat->Value:=fun i=>.pointer (some ⟨lFix N i,0,none⟩)
  have hS0:Sim W1 (XL (lO O N w5.heap.size) (lFix N) [] none) 0 ⟨[],[(0,some (.hbox tD [⟨.lit,.slice none 0 0⟩])),(1,some (.box i64 (0:Int))),(2,some (.box i64 (0:Int))),(3,some (.hbox tD [⟨.lit,.slice none 0 0⟩])),(4,some (.box i64 (0:Int)))],5⟩ β nA W1:=by
   refine Sim.boxes (X:=XL (lO O N w5.heap.size) (lFix N) [] none) rfl rfl (fun i _=>rfl) ?_ ?_ zfJ rfl
   ·intro i j hi hj hij
    have hij:N+i=N+j:=hij
    omega
   ·intro i o h
    rw [zag] at h
    split at h
    ·rename_i hi;subst hi;cases h
     exact⟨by show 0 < 5;omega,rfl,⟨N,[_],rfl,Nat.zero_le _,hl _ _ b0,_,[],rfl,rfl,rfl,rfl⟩,fun vs e v hv=>by cases e;rw [List.mem_singleton] at hv;subst hv;exact Nat.zero_le _⟩
    rw [zag] at h
    split at h
    ·rename_i _ hi;subst hi;cases h
     exact⟨by show 1 < 5;omega,rfl,⟨N+1,[_],_,rfl,Nat.zero_le _,hl _ _ b1,rfl⟩,fun vs e=>by cases e⟩
    rw [zag] at h
    split at h
    ·rename_i _ _ hi;subst hi;cases h
     exact⟨by show 2 < 5;omega,rfl,⟨N+2,[_],_,rfl,Nat.zero_le _,hl _ _ b2,rfl⟩,fun vs e=>by cases e⟩
    rw [zag] at h
    split at h
    ·rename_i _ _ _ hi;subst hi;cases h
     exact⟨by show 3 < 5;omega,rfl,⟨N+3,[_],rfl,Nat.zero_le _,hl _ _ b3,_,[],rfl,rfl,rfl,rfl⟩,fun vs e v hv=>by cases e;rw [List.mem_singleton] at hv;subst hv;exact Nat.zero_le _⟩
    rw [zag] at h
    split at h
    ·rename_i _ _ _ _ hi;subst hi;cases h
     exact⟨by show 4 < 5;omega,rfl,⟨N+4,[_],_,rfl,Nat.zero_le _,hl _ _ b4,rfl⟩,fun vs e=>by cases e⟩
    ·cases h
  obtain⟨β',hS1⟩:=Sim.nilLeaf 3 0 37 de rfl rfl rfl _ _ _ hS0
  refine⟨W1,β',[],0,hBB,ziw hS1 ⟨trivial,⟨rfl,rfl,rfl,rfl,rfl,rfl,trivial⟩,rfl,rfl⟩ (by omega),by simp,Nat.zero_le _,?_,hP.symm⟩
  rw [List.drop_zero,zmo]
  omega
 ·rintro l k y W ⟨B,β,acc,fr,hBB,hS,h1,h2,h3,h4⟩ hy hsz2
  obtain⟨hkl,hyk⟩:=List.getElem?_eq_some_iff.1 hy
  have hd:(segs s).drop k=y::(segs s).drop (k+1):=by rw [<-hyk];exact List.drop_eq_getElem_cons hkl
  have h3':=h3
  rw [hd,zhC] at h3'
  have hb:=fun k (hk:k < 5)=>(hS.fix.2 k hk).1
  have hsim:=hS.act (X':=XL (lO O N w5.heap.size) (lFix N) [] (some l)) (m:=47) (a':=zoC a5 (.string ⟨y.toArray⟩)) rfl rfl rfl (by simp [zoC,hsz]) rfl (F:=(15,⟨.str,y⟩)::lPF0) (zbx (by rw [zdG hsz];exact⟨rfl,by show y.length≤maxLen;unfold maxLen;omega⟩) (zbx ⟨_,hb 0 (by omega),by rw [zdG hsz];exact e2⟩ (zbx ⟨_,hb 1 (by omega),by rw [zdG hsz];exact e3⟩ (zbx ⟨_,hb 2 (by omega),by rw [zdG hsz];exact e4⟩ (zbx ⟨_,hb 3 (by omega),by rw [zdG hsz];exact e5⟩ (zbx ⟨_,hb 4 (by omega),by rw [zdG hsz];exact e6⟩ zfJ)))))) rfl
  refine Go.wpIn_mono (zoz (hXok B [] (some l) hBB) y fr acc β _ W hsim) ?_
  rintro e a' W' ⟨σ',β',h',rfl,hf⟩
  have hso:=hsame hBB hS h'
  have h6:=h'.fit hf (by show 5≤7;omega)
  have h7:=h6.renameK (L:=lRn) (m:=7) rfl rfl (by show 5≤7;omega) rfl rfl
  refine⟨rfl,⟨B,_,acc,fr,hBB,(h7.fit (σ':=⟨lPF,libE y (fr:Int) acc,7⟩) ⟨⟨rfl,rfl,rfl,rfl,rfl,rfl,trivial⟩,⟨rfl,rfl,rfl,rfl,rfl,rfl,rfl,trivial⟩,rfl,rfl⟩ (by show 5≤7;omega)).act (X':=XL (lO O N w5.heap.size) (lFix N) [] none) rfl rfl rfl h7.sz h7.df (fun sl=>(h7.fit (σ':=⟨lPF,libE y (fr:Int) acc,7⟩) ⟨⟨rfl,rfl,rfl,rfl,rfl,rfl,trivial⟩,⟨rfl,rfl,rfl,rfl,rfl,rfl,rfl,trivial⟩,rfl,rfl⟩ (by show 5≤7;omega)).fr sl) rfl,h1,h2,h3,h4⟩,hso⟩
 ·rintro l k y W a' hy hsz2 ⟨B,β,acc,fr,hBB,hS,h1,h2,h3,h4⟩
  obtain⟨hkl,hyk⟩:=List.getElem?_eq_some_iff.1 hy
  have hd:(segs s).drop k=y::(segs s).drop (k+1):=by rw [<-hyk];exact List.drop_eq_getElem_cons hkl
  rw [hd,zhC] at h3
  rw [hd,zoo] at h4
  have hsim:=hS.act (X':=XL (lO O N w5.heap.size) (lFix N) [] (some l)) rfl rfl rfl hS.sz hS.df hS.fr rfl
  refine Go.wpIn_mono (zqj (by omega) (by omega) (by omega) (hXok B [] (some l) hBB) rfl rfl (fun ty=>lX_inv hN hG ty) (fun er he=>⟨(zlF he).1,by have:=(zlF he).2;omega⟩) β _ W hsim) ?_
  rintro e a3 W' ⟨σ',β',h',hR⟩
  have hso:=hsame hBB hS h'
  refine⟨?_,hso⟩
  cases hst:zhE y fr acc with
  | error er=>
   rw [hst] at hR h4
   obtain⟨rfl,hf⟩:=hR
   exact .inr ⟨rfl,er,B,β',h4.symm,hBB,ziw h' hf (by omega)⟩
  | ok acc'=>
   rw [hst] at hR h4
   obtain⟨rfl,hf⟩:=hR
   have h6:=(h'.fit hf (by show 5≤7;omega)).fit (σ':=⟨[],[(0,some (.hbox tD [⟨.lit,.slice none 0 0⟩])),(1,some (.box i64 (0:Int))),(2,some (.box i64 (0:Int))),(3,some (znK 6)),(4,some (.box i64 ((fr+y.length+1:Nat):Int))),(6,some (.buf 37 de acc'))],7⟩) ⟨trivial,⟨rfl,rfl,rfl,rfl,rfl,rfl,trivial⟩,rfl,rfl⟩ (by show 5≤7;omega)
   have h7:=h6.renameK (L:=lRn) (m:=6) rfl rfl (by show 5≤6;omega) rfl rfl
   exact .inl ⟨rfl,B,_,acc',fr+y.length+1,hBB,ziw h7 ⟨trivial,⟨rfl,rfl,rfl,rfl,rfl,rfl,trivial⟩,rfl,rfl⟩ (by omega),zno h1 hst,hkl,by omega,h4⟩
 ·rintro W ⟨B,β,acc,fr,hBB,hS,h1,h2,h3,h4⟩ hdef
  refine⟨.inl rfl,?_⟩
  rw [List.drop_length] at h4
  have h4:(acc,(0:Int),(0:Int))=za0 s:=h4
  have hb:=fun k (hk:k < 5)=>(hS.fix.2 k hk).1
  have hsim:=hS.act (X':=XL (lO O N w5.heap.size) (lFix N) [ldco w5.heap.size] none) (m:=47) (a':={ a5 with defers:={ target:=.collected w5.heap.size,args:=#[] }::a5.defers }) rfl rfl rfl hsz (by rw [hdf];rfl) (F:=lPF0) (zbx ⟨_,hb 0 (by omega),e2⟩ (zbx ⟨_,hb 1 (by omega),e3⟩ (zbx ⟨_,hb 2 (by omega),e4⟩ (zbx ⟨_,hb 3 (by omega),e5⟩ (zbx ⟨_,hb 4 (by omega),e6⟩ zfJ))))) rfl
  refine zcf (m:=0) (Go.wpIn_mono (zoi (hXok _ _ _ hBB) fr acc β _ W hsim) ?_)
  rintro e a' W' ⟨σ',β',h',rfl,hf⟩
  have h6:=h'.fit hf (by show 5≤6;omega)
  have hso:=hsame hBB hS h6
  obtain⟨u,q0,q1,hu⟩:=zoM h6 (i:=0) (by show 0 < 5;omega) rfl
  obtain⟨c1,y1,q2,q3⟩:=zmb h6 (i:=1) (by show 1 < 5;omega) rfl
  obtain⟨c2,y2,q4,q5⟩:=zmb h6 (i:=2) (by show 2 < 5;omega) rfl
  have q3:c1=[.int .i64 0]:=q3
  have q5:c2=[.int .i64 0]:=q5
  subst q3;subst q5
  have hb6:=fun k (hk:k < 5)=>(h6.fix.2 k hk).1
  have k2:a'.tmps.getD 2 undef= .pointer (some ⟨N,0,none⟩):=by
   obtain⟨g,r1,r2⟩:∃ g,zah (β' 0)=some g∧a'.tmps.getD 2 undef= .pointer (some ⟨g,0,none⟩):=h6.fr 2
   rw [hb6 0 (by omega)] at r1
   cases r1
   exact r2
  have k3:a'.tmps.getD 3 undef= .pointer (some ⟨N+1,0,none⟩):=by
   obtain⟨g,r1,r2⟩:∃ g,zah (β' 1)=some g∧a'.tmps.getD 3 undef= .pointer (some ⟨g,0,none⟩):=h6.fr 3
   rw [hb6 1 (by omega)] at r1
   cases r1
   exact r2
  have k4:a'.tmps.getD 4 undef= .pointer (some ⟨N+2,0,none⟩):=by
   obtain⟨g,r1,r2⟩:∃ g,zah (β' 2)=some g∧a'.tmps.getD 4 undef= .pointer (some ⟨g,0,none⟩):=h6.fr 4
   rw [hb6 2 (by omega)] at r1
   cases r1
   exact r2
  show LeavesInM Fence.wide 1 Tryz.prog Tryz.f19 a'.tmps (zm6 w O (za0 s)) a'.defers .returning W'
  rw [h6.df, <-h4]
  exact lfin hN (O':=OSet (XL (lO O N w5.heap.size) (lFix N) [ldco w5.heap.size] none) (sLT acc).E β') (fun g hg=>.inl (.inl hg)) (.inl (.inr (.inr (.inl rfl)))) (by omega) (zkU hN hs5 hb5 hBB h6.bel) ((hso.block _ (.inr (.inl rfl))).trans hdef) q1 k2 k3 k4 q0 q2 q4 hu
 ·rintro W ⟨er,B,β,hpe,hBB,hS⟩ hdef
  refine⟨.inr rfl,?_⟩
  obtain⟨u,q0,q1,hu⟩:=zoM hS (i:=0) (by show 0 < 5;omega) rfl
  have hu:u= .slice none 0 0:=hu
  subst hu
  obtain⟨c1,y1,q2,q3⟩:=zmb hS (i:=1) (by show 1 < 5;omega) rfl
  obtain⟨c2,y2,q4,q5⟩:=zmb hS (i:=2) (by show 2 < 5;omega) rfl
  have q3:c1=[.int .i64 er.1]:=q3
  have q5:c2=[.int .i64 er.2]:=q5
  subst q3;subst q5
  show LeavesInM Fence.wide 1 Tryz.prog Tryz.f19 a5.tmps (zm6 w O (za0 s)) (ldco w5.heap.size::a5.defers) .returning W
  rw [hdf,hpe]
  exact lfin (acc:=[]) hN (O':=OSet (XL (lO O N w5.heap.size) (lFix N) [] none) (lRE er.1 er.2) β) (fun g hg=>.inl (.inl hg)) (.inl (.inr (.inr (.inl rfl)))) (by omega) (zkU hN hs5 hb5 hBB hS.bel) hdef q1 e2 e3 e4 q0 q2 q4 ⟨_,rfl,.inl ⟨rfl,none,0,rfl,Nat.zero_le _⟩⟩
end
end Go.Proofs.YtpeaigpfddalcaaGreatDoor
namespace Go.Proofs.YtpeaigpfddalcaaGreatDoor
open Go Go.RowKit
set_option linter.unusedSimpArgs false
set_option linter.unusedVariables false
attribute [local go_sem] Oper.semAt_some
set_option maxRecDepth 100000
theorem zjg {P:Program} {f:FuncId} {Q:Exit->Act->World->Prop} {a:Act} {w:World} {id:Nat} {c:Code} (h:zfE P f c (fun e a w=>(e= .normal∨e= .ret)∧Q e a w) a w):zfE P f (.block id c) Q a w:=by
 intro b k cs hb hro
 have h0:(lone (b.atR a (.code (.block id c)::k)) cs w).fenced P Fence.wide:=fenced_wide P _
 obtain⟨e,a1,w1,⟨he,hq⟩,harr⟩:=h b (.inBlock id::k) cs hb hro
 rcases he with rfl | rfl
 ·exact⟨.normal,a1,w1,hq,.head h0 stepR_block (StepsIn.trans harr (.one (fenced_wide P _) stepR_inBlock))⟩
 ·exact⟨_,a1,w1,hq,.of_steps (.one h0 stepR_block) harr⟩
noncomputable def zpe:Ctr:={ args:=[.str],pre:=fun _=>[],res:=zrH,own:=none,out:=fun x=>((za0 x.1).1,(za0 x.1).2.1,(za0 x.1).2.2,()) }
set_option maxHeartbeats 1000000 in
theorem zkJ:CtrOk Tryz.prog gmH 19 zpe:=by
 refine⟨Tryz.call19,fun w O xs vs hO hr hp hG=>?_⟩
 obtain⟨(s:List UInt8),_⟩:=xs
 obtain⟨v1,r1,rfl,e1,rfl⟩:=hr
 have e1: [v1]=[Value.string ⟨s.toArray⟩]∧s.length≤maxLen:=e1
 obtain⟨e1,hmax⟩:=e1
 cases e1
 refine callsIn_wide.1 (zeJ (m:=1) Tryz.func19 rfl ?_)
 simp only [Tryz.ntmps19,List.size_toArray,List.length_cons,List.length_nil,Nat.reduceAdd,Nat.reduceSub,Array.replicate_succ,Array.replicate_zero,List.push_toArray,List.append_toArray,List.nil_append,List.cons_append]
 change zfE _ _ _ (bodyPostM Fence.wide 1 Tryz.prog Tryz.f19 (zm6 w O (za0 s))) _ _
 generalize hQ:bodyPostM Fence.wide 1 Tryz.prog Tryz.f19 _=Q
 refine zb8 (zcf (m:=1) ?_)
 gi_wp2
 refine zb8 (zcf (m:=1) ?_)
 gi_wp2
 ·rename_i hlong
  have hP:za0 s=([],0,2):=if_pos (by omega)
  rw [<-hQ,hP]
  refine⟨_,zom (g2:=w.heap.size) (g3:=w.heap.size+1) (g4:=w.heap.size+1+1) (u:=.slice none 0 0) (x:=0) (y:=2) (t2:=tD) (t3:=3) (t4:=25) rfl rfl rfl rfl ?_ ?_ ?_,_,rfl,((((Below.refl _ w).alloc (Nat.le_refl _) _).alloc (by simp) _).alloc (by simp;omega) _),znR (acc:=[]) ⟨_,rfl,.inl ⟨rfl,none,0,rfl,Nat.zero_le _⟩⟩⟩
  ·exact zaS _ (zaS _ (zbL _ rfl))
  ·exact zaS _ (zbL _ (by simp))
  ·exact zbL _ (by simp)
 rename_i hshort
 have hlen:s.length≤1048576:=by omega
 refine zb8 (zcf (m:=1) ?_)
 gi_wp2
 refine zb8 (zcf (m:=1) ?_)
 gi_wp2
 refine zb8 (zb8 (zcf (m:=1) ?_))
 gi_wp2
 refine⟨trivial,(callsIn_wide.2 (zir _ _ _)).mono ?_⟩
 rintro e w' ⟨rfl,rfl⟩
 gi_wp2
 refine zjg ?_
 obtain⟨w4,hw4⟩:∃ w4:World,w4=(((((w.alloc (.cells #[.slice none 0 0] tD)).alloc (.cells #[.int .i64 0] 3)).alloc (.cells #[.int .i64 0] 25)).alloc (.cells #[.slice none 0 0] tD)).alloc (.cells #[.int .i64 0] 3)):=⟨_,rfl⟩
 rw [<-hw4, <-hQ]
 have hs4:w4.heap.size=w.heap.size+5:=by rw [hw4];simp
 have hb4:Below w.heap.size w w4:=by rw [hw4];exact ((((((Below.refl _ w).alloc (Nat.le_refl _) _).alloc (by simp) _).alloc (by simp;omega) _).alloc (by simp;omega) _).alloc (by simp;omega) _)
 have b0:w4.heap[w.heap.size]? =some (.cells #[.slice none 0 0] tD (0,0)):=by rw [hw4];exact zaS _ (zaS _ (zaS _ (zaS _ (zbL _ rfl))))
 have b1:w4.heap[w.heap.size+1]? =some (.cells #[.int .i64 0] 3 (0,0)):=by rw [hw4];exact zaS _ (zaS _ (zaS _ (zbL _ (by simp))))
 have b2:w4.heap[w.heap.size+2]? =some (.cells #[.int .i64 0] 25 (0,0)):=by rw [hw4];exact zaS _ (zaS _ (zbL _ (by simp)))
 have b3:w4.heap[w.heap.size+3]? =some (.cells #[.slice none 0 0] tD (0,0)):=by rw [hw4];exact zaS _ (zbL _ (by simp))
 have b4:w4.heap[w.heap.size+4]? =some (.cells #[.int .i64 0] 3 (0,0)):=by rw [hw4];exact zbL _ (by simp)
 have hb5:Below w.heap.size w (itW w4 ⟨s.toArray⟩ ⟨#[10]⟩):=hb4.trans ((((Below.refl _ w4).alloc (Nat.le_refl _) _).alloc (by simp) _).alloc (by simp;omega) _ |>.mono hb4.size)
 have i0:(itW w4 ⟨s.toArray⟩ ⟨#[10]⟩).heap[w.heap.size+5]? =some (.cells #[.string ⟨s.toArray⟩] 9 (0,0)):=zaS _ (zaS _ (zbL _ hs4))
 have i1:(itW w4 ⟨s.toArray⟩ ⟨#[10]⟩).heap[w.heap.size+6]? =some (.cells #[.string ⟨#[10]⟩] 9 (0,0)):=zaS _ (zbL _ (by simp [hs4]))
 have i2:(itW w4 ⟨s.toArray⟩ ⟨#[10]⟩).heap[w.heap.size+7]? =some (.cells #[.int .i64 0] 3 (0,0)):=zbL _ (by simp [hs4])
 have hs5:(itW w4 ⟨s.toArray⟩ ⟨#[10]⟩).heap.size=w.heap.size+8:=by simp [itW,hs4]
 have hit:itV w4= .func (.func 145) #[] #[.pointer (some ⟨w.heap.size+6,0,none⟩),.pointer (some ⟨w.heap.size+5,0,none⟩),.pointer (some ⟨w.heap.size+7,0,none⟩)]:=by unfold itV;rw [hs4]
 have hl:∀ g (o:Obj),w4.heap[g]? =some o->(itW w4 ⟨s.toArray⟩ ⟨#[10]⟩).heap[g]? =some o:=fun g o hg=>zaS _ (zaS _ (zaS _ hg))
 exact zon rfl hO hG hlen hs5 hb5 (hl _ _ b0) (hl _ _ b1) (hl _ _ b2) (hl _ _ b3) (hl _ _ b4) i0 i1 i2 rfl rfl rfl rfl rfl rfl hit rfl
end Go.Proofs.YtpeaigpfddalcaaGreatDoor
namespace Go.Proofs.YtpeaigpfddalcaaGreatDoor
open Go Go.RowKit
set_option linter.unusedSimpArgs false
set_option linter.unusedVariables false
set_option maxRecDepth 10000
section
variable {s:List UInt8}
theorem zlq {lo hi:Int} {z:Bool} {x:Int} (h1:lo≤x) (h2:x≤hi) (h3:z=true∨x≠0):∀ {l:List Int} {last:Int},Ris lo hi z last l->l.getLast?.getD last < x->Ris lo hi z last (l++ [x])
 | [],_,_,h=>⟨h,h1,h2,h3,trivial⟩
 | y::r,last,h,hx=>by
  obtain⟨a,b,c,d,e⟩:=h
  refine⟨a,b,c,d,zlq h1 h2 h3 e ?_⟩
  rw [List.getLast?_cons] at hx
  exact hx
end
theorem zrc {lo hi:Int} {z:Bool}:∀ {l:List Int} {last:Int},Ris lo hi z last l->∀ i,i < l.length->(lo≤l.getD i 0∧l.getD i 0≤hi)∧(0 < i->l.getD (i - 1) 0 < l.getD i 0)∧(z=true∨l.getD i 0≠0)
 | [],_,_,i,hi=>absurd hi (Nat.not_lt_zero _)
 | x::r,last,h,i,hi=>by
  obtain⟨a,b,c,d,e⟩:=h
  cases i with
  | zero=>exact⟨⟨b,c⟩,fun h=>absurd h (Nat.lt_irrefl _),d⟩
  | succ i=>
   obtain⟨h1,h2,h3⟩:=zrc e i (by rw [List.length_cons] at hi;omega)
   refine⟨h1,fun _=>?_,h3⟩
   cases i with
   | zero=>
    cases r with
    | nil=>rw [List.length_cons,List.length_nil] at hi;omega
    | cons y r=>exact e.1
   | succ i=>exact h2 (by omega)
theorem zg1 {l:List Int} {lo hi:Int} {z:Bool} (h0:¬ (lo=0∧hi=0)) (hz:z=decide (¬ lo < 0)) (hne:l≠ []) (h:Ris lo hi z (lo - 1) l):zaT l (lo,hi,())=true:=by
 have hz0:zgZ (lo,hi,())=false:=by
  rw [Bool.eq_false_iff]
  intro e
  unfold zgZ at e
  rw [Bool.and_eq_true,beq_iff_eq,beq_iff_eq] at e
  exact h0 e
 unfold zaT
 rw [hz0,cond_false,Bool.and_eq_true,decide_eq_true_iff,List.all_eq_true]
 refine⟨fun i hi=>?_,by have:=List.length_pos_iff.2 hne;omega⟩
 obtain⟨⟨a,b⟩,c,d⟩:=zrc h i (List.mem_range.1 hi)
 rw [Bool.not_eq_true']
 unfold zhw
 simp only [Bool.or_eq_false_iff,Bool.not_eq_false',zaM,Bool.and_eq_false_iff,decide_eq_false_iff_not,beq_eq_false_iff_ne]
 refine⟨⟨⟨a,b⟩,?_⟩,?_⟩
 ·by_cases e:0 < i
  ·exact .inr (by have:=c e;omega)
  ·exact .inl e
 ·rcases d with d | d
  ·rw [hz] at d
   exact .inr (of_decide_eq_true d)
  ·exact .inl d
theorem and4 {a b c d:Bool} (ha:a=true) (hb:b=true) (hc:c=true) (hd:d=true):((true&&a)&&(b&&(true&&(c&&d))))=true:=by rw [ha,hb,hc,hd];rfl
theorem zcB {n lo hi:Int} (h:lo≤n∧n≤hi):inB n lo hi=true:=zaM.2 h
set_option maxRecDepth 100000
def tx_sA:List UInt8:=[100,97,121,115,32,55,32,51,32,111,114,32,40,64,102,114,101,101,32,115,104,105,102,116,32,45,49,41]
def tx_sB:List UInt8:=[35,32,104,111,108,105,100,97,121,115,10,102,114,101,101,32,61,32,119,101,101,107,100,97,121,115,32,40,53,32,54,41,10,10,111,114,32,61,32,64,102,114,101,101,32,115,104,105,102,116,32,49]
def tx_sC:List UInt8:=[102,114,101,101,32,119,101,101,107,100,97,121,115,32,40,53,41]
def zjo:List UInt8:=[100,97,121,115,32,55,32,51,32,111,114,32,64,102,114,101,101,32,115,104,105,102,116,32,45,49]
def zpC:List UInt8:=[102,114,101,101,32,61,32,119,101,101,107,100,97,121,115,32,40,53,32,54,41,10,111,114,32,61,32,64,102,114,101,101,32,115,104,105,102,116,32,49,10]
def zrN:List UInt8:=[100,97,121,115,32,48,32,51]
def zrM:List UInt8:=[109,111,110,116,104,115,32,48,32,40,50,32,50,41]
def zrL:List UInt8:=[100,97,121,115,32,48,55,32,51]
def zrK:List UInt8:=[119,101,101,107,100,97,121,115,32,40,41]
def zrJ:List UInt8:=[100,97,121,115,32,55]
def zrI:List UInt8:=[]
def ze5:List UInt8:=[102,114,101,101]
def zne:List UInt8:=[111,114]
def sanR:List Nd:=[(1,0,0,0,7,3,[],[],()),(18,0,0,0,0,0,[],ze5,()),(11,0,1,0,-1,0,[],[],()),(9,0,0,2,0,0,[],[],())]
def sanL:List De:=[(ze5,[(5,0,0,0,0,0,[5,6],[],())],()),(zne,[(18,0,0,0,0,0,[],ze5,()),(11,0,0,0,1,0,[],[],())],())]
theorem sanA:zbk tx_sA=(sanR,0,0):=by kernel_rfl
theorem san1:zbk zrN=([],5,1):=by kernel_rfl
theorem san2:zbk zrM=([],12,1):=by kernel_rfl
theorem san3:zbk zrL=([],5,3):=by kernel_rfl
theorem san4:zbk zrK=([],10,3):=by kernel_rfl
theorem san5:zbk zrJ=([],6,3):=by kernel_rfl
theorem san6:zbk zrI=([],0,3):=by kernel_rfl
theorem sanF:fmtS sanR=(zjo,0):=by kernel_rfl
theorem sanN:fmtS []=([],1):=by kernel_rfl
theorem sanG:zbl sanL=(zpC,0):=by kernel_rfl
def zsi (y:List UInt8):Bool:=(!decide (y.take 1=[35]))&&decide (zbB isWh y < y.length)
theorem zqi (y:List UInt8):zg2 y=zsi y:=by
 unfold zg2 zsi zjY
 rw [zdL]
 have:(decide (List.length ([35]:List UInt8)≤y.length)&&decide (y.take (List.length ([35]:List UInt8))=[35]))=decide (y.take 1=[35]):=by
  cases y with
  | nil=>rfl
  | cons c q=>rw [decide_eq_true (by simp:List.length ([35]:List UInt8)≤(c::q).length),Bool.true_and];rfl
 rw [this]
def zpI (y:List UInt8) (fr:Nat) (acc:List De):Except (Int×Int) (List De):=
 if zsi y=true then
  if 4000 < y.length then .error ((fr:Int),2)
  else match zgn y ((acc.length:Nat):Int) with
   | .ok d=>.ok (acc++ [d])
   | .error e=>if e.2=0 then .ok acc else .error ((fr:Int)+e.1,e.2)
 else .ok acc
theorem zpH (y:List UInt8) (fr:Nat) (acc:List De):zhE y fr acc=zpI y fr acc:=by
 unfold zhE zpI
 rw [zqi]
 all_goals rfl
def libC:List (List UInt8)->Nat->List De->List De×Int×Int
 | [],_,acc=>(acc,0,0)
 | y::r,fr,acc=>match zpI y fr acc with
  | .error e=>([],e.1,e.2)
  | .ok acc'=>libC r (fr+y.length+1) acc'
theorem zop:∀ (l:List (List UInt8)) (fr:Nat) (acc:List De),libK l fr acc=libC l fr acc
 | [],_,_=>rfl
 | y::r,fr,acc=>by
  unfold libK libC
  rw [zpH]
  cases zpI y fr acc with
  | error e=>rfl
  | ok a=>exact zop r _ a
def zjI (s:List UInt8):List De×Int×Int:=if 1048576 < s.length then ([],0,2) else libC (segs s) 0 []
theorem zgd (s:List UInt8):za0 s=zjI s:=by
 unfold za0 zjI
 rw [zop]
theorem sanB:za0 tx_sB=(sanL,0,0):=(zgd _).trans (by kernel_rfl)
theorem sanC:za0 tx_sC=([],5,3):=(zgd _).trans (by kernel_rfl)
def zcp (s:List UInt8) (at' e:Int):Bool:=(((((zbk s).1.length:Nat):Int)==0)&&((zbk s).2.1==at'))&&((zbk s).2.2==e)
def zrr:Ctr:={ args:=[.str,i64,i64],pre:=fun _=>[],res:=.bool,own:=none,out:=fun x=>zcp x.1 x.2.1 x.2.2.1 }
def kPa:Kn:={ gmK with C:=[(16,zl7)] }
theorem zlJ:KnOk Tryz.prog gmH kPa:=zak.with (.cons ziG .nil)
theorem zpB:CtrOk Tryz.prog gmH 42 zrr:=by
 refine zaq (K:=kPa) zlJ Tryz.func42 rfl rfl Tryz.call42 rfl (by decide) (by intro h;cases h) ?_
 rintro w0 X hX ⟨(s:List UInt8),(at':Int),(e:Int),_⟩ hp
 change AWP _ _ _ _ _ ⟨[(0,⟨.str,s⟩),(1,⟨i64,at'⟩),(2,⟨i64,e⟩)],[],0⟩ _
 (repeat (first | refine zae ?_ | refine zac ?_ | refine zab ?_ | refine zad ?_));refine zaa hX zlJ rfl ?_ ?_
 ·trivial
 (repeat (first | refine zae ?_ | refine zac ?_ | refine zab ?_ | refine zad ?_));refine zaa hX zlJ rfl ?_ ?_
 ·trivial
 (repeat (first | refine zae ?_ | refine zac ?_ | refine zab ?_ | refine zad ?_));refine zaa hX zlJ rfl ?_ ?_
 ·repeat' (first | exact trivial | assumption | (refine⟨?_,?_⟩) | (intro _) | exact Nat.le_of_ble_eq_true rfl | exact Int.natCast_nonneg _ | (simp_all [allP];done))
 refine AWP.ret ⟨.inr rfl,zax rfl trivial rfl rfl ?_⟩
 show (bif (bif ((((zbk s).1.length:Nat):Int)==0) then (zbk s).2.1==at' else false) then (zbk s).2.2==e else false)=zcp s at' e
 rw [zdb,zdb]
 rfl
def zpd:Ctr:={ args:=[],pre:=fun _=>[],res:=.bool,own:=none,out:=fun _=>true }
noncomputable def kSan:Kn:={ gmK with C:=[(16,zl7),(24,cFmt),(19,zpe),(26,cFmtL),(18,zs4),(42,zrr)] }
theorem zcZ:KnOk Tryz.prog gmH kSan:=zak.with (.cons ziG <| .cons zhk <| .cons zkJ <| .cons zoS <| .cons znE <| .cons zpB .nil)
theorem vStr {x y:List UInt8} (h:x=y):(⟨.str,x⟩:V)=⟨.str,y⟩:=by rw [h]
theorem vRul {x y:List Nd} (h:x=y):(⟨.slice nd,x⟩:V)=⟨.slice nd,y⟩:=by rw [h]
theorem vDes {x y:List De} (h:x=y):(⟨.slice de,x⟩:V)=⟨.slice de,y⟩:=by rw [h]
set_option maxHeartbeats 2000000 in
theorem znD:CtrOk Tryz.prog gmH 15 zpd:=by
 refine zaq (K:=kSan) zcZ Tryz.func15 rfl rfl Tryz.call15 rfl (by decide) (by intro h;cases h) ?_
 rintro w0 X hX _ hp
 change AWP _ _ _ _ _ ⟨[],[],0⟩ _
 (repeat (first | refine zae ?_ | refine zac ?_ | refine zab ?_ | refine zad ?_));refine zaa hX zcZ rfl ?_ ?_
 ·trivial
 (repeat (first | refine zae ?_ | refine zac ?_ | refine zab ?_ | refine zad ?_));refine zaa hX zcZ rfl ?_ ?_
 ·trivial
 refine zap (σ':=⟨[(1,⟨.slice nd,sanR⟩),(3,⟨i64,(0:Int)⟩)],[],0⟩) ⟨⟨vRul (congrArg (fun x=>x.1) sanA),vI64 (congrArg (fun x=>x.2.2) sanA),trivial⟩,trivial,rfl,rfl⟩ ?_
 (repeat (first | refine zae ?_ | refine zac ?_ | refine zab ?_ | refine zad ?_));refine zaa hX zcZ rfl ?_ ?_
 ·trivial
 refine AWP.frz hX 4 ?_
 refine zap (σ':=⟨[(1,⟨.slice nd,sanR⟩),(3,⟨i64,(0:Int)⟩),(4,⟨.slice nd,sanR⟩)],[],1⟩) ⟨⟨rfl,rfl,rfl,trivial⟩,trivial,rfl,rfl⟩ ?_
 (repeat (first | refine zae ?_ | refine zac ?_ | refine zab ?_ | refine zad ?_));refine zaa hX zcZ rfl ?_ ?_
 ·trivial
 refine zap (σ':=⟨[(1,⟨.slice nd,sanR⟩),(3,⟨i64,(0:Int)⟩),(4,⟨.slice nd,sanR⟩),(5,⟨.str,zjo⟩),(6,⟨i64,(0:Int)⟩)],[],1⟩) ⟨⟨rfl,rfl,rfl,vStr (congrArg (fun x=>x.1) sanF),vI64 (congrArg (fun x=>x.2) sanF),trivial⟩,trivial,rfl,rfl⟩ ?_
 (repeat (first | refine zae ?_ | refine zac ?_ | refine zab ?_ | refine zad ?_));refine zaa hX zcZ rfl ?_ ?_
 ·trivial
 refine zap (σ':=⟨[(1,⟨.slice nd,sanR⟩),(3,⟨i64,(0:Int)⟩),(4,⟨.slice nd,sanR⟩),(5,⟨.str,zjo⟩),(6,⟨i64,(0:Int)⟩),(7,⟨.slice de,sanL⟩),(9,⟨i64,(0:Int)⟩)],[],1⟩) ⟨⟨rfl,rfl,rfl,rfl,rfl,vDes (congrArg (fun x=>x.1) sanB),vI64 (congrArg (fun x=>x.2.2) sanB),trivial⟩,trivial,rfl,rfl⟩ ?_
 (repeat (first | refine zae ?_ | refine zac ?_ | refine zab ?_ | refine zad ?_));refine zaa hX zcZ rfl ?_ ?_
 ·trivial
 refine zap (σ':=⟨[(1,⟨.slice nd,sanR⟩),(3,⟨i64,(0:Int)⟩),(4,⟨.slice nd,sanR⟩),(5,⟨.str,zjo⟩),(6,⟨i64,(0:Int)⟩),(7,⟨.slice de,sanL⟩),(9,⟨i64,(0:Int)⟩),(11,⟨i64,(5:Int)⟩),(12,⟨i64,(3:Int)⟩)],[],1⟩) ⟨⟨rfl,rfl,rfl,rfl,rfl,rfl,rfl,vI64 (congrArg (fun x=>x.2.1) sanC),vI64 (congrArg (fun x=>x.2.2) sanC),trivial⟩,trivial,rfl,rfl⟩ ?_
 (repeat (first | refine zae ?_ | refine zac ?_ | refine zab ?_ | refine zad ?_));refine zaa hX zcZ rfl ?_ ?_
 ·trivial
 refine zap (σ':=⟨[(1,⟨.slice nd,sanR⟩),(3,⟨i64,(0:Int)⟩),(4,⟨.slice nd,sanR⟩),(5,⟨.str,zjo⟩),(6,⟨i64,(0:Int)⟩),(7,⟨.slice de,sanL⟩),(9,⟨i64,(0:Int)⟩),(11,⟨i64,(5:Int)⟩),(12,⟨i64,(3:Int)⟩),(14,⟨i64,(1:Int)⟩)],[],1⟩) ⟨⟨rfl,rfl,rfl,rfl,rfl,rfl,rfl,rfl,rfl,vI64 (congrArg (fun x=>x.2) sanN),trivial⟩,trivial,rfl,rfl⟩ ?_
 (repeat (first | refine zae ?_ | refine zac ?_ | refine zab ?_ | refine zad ?_));refine zaa hX zcZ rfl ?_ ?_
 ·repeat' (first | exact trivial | assumption | (refine⟨?_,?_⟩) | (intro _) | exact Nat.le_of_ble_eq_true rfl | exact Int.natCast_nonneg _ | (simp_all [allP];done))
 refine zaf rfl (fun hb=>?_) (fun _=>?_)
 ·have hb:false=true:=hb
  cases hb
 refine zac ?_
 (repeat (first | refine zae ?_ | refine zac ?_ | refine zab ?_ | refine zad ?_));refine zaa hX zcZ rfl ?_ ?_
 ·trivial
 refine zap (σ':=⟨[(1,⟨.slice nd,sanR⟩),(4,⟨.slice nd,sanR⟩),(5,⟨.str,zjo⟩),(7,⟨.slice de,sanL⟩),(15,⟨.str,zpC⟩),(16,⟨i64,(0:Int)⟩)],[],1⟩) ⟨⟨rfl,rfl,rfl,rfl,vStr (congrArg (fun x=>x.1) sanG),vI64 (congrArg (fun x=>x.2) sanG),trivial⟩,trivial,rfl,rfl⟩ ?_
 have hs:zkB sanR sanR=true:=zfb.2 rfl
 have b0:(0:Int) < ((sanL.length:Nat):Int):=by decide
 have b1:(1:Int) < ((sanL.length:Nat):Int):=by decide
 (repeat (first | refine zae ?_ | refine zac ?_ | refine zab ?_ | refine zad ?_));refine zaa hX zcZ rfl ?_ ?_
 ·repeat' (first | exact trivial | assumption | exact b0 | exact b1 | (refine⟨?_,?_⟩) | (intro _) | decide)
 refine zap (σ':=⟨[(17,⟨.bool,true⟩)],[],1⟩) ⟨⟨zct ?_,trivial⟩,trivial,rfl,rfl⟩ ?_
 ·show (bif (bif (bif (bif (bif zkB sanR sanR then eqb .str zjo zjo else false) then eqb .str ze5 ze5 else false) then eqb .str zne zne else false) then ((0:Int)==0) else false) then eqb .str zpC zpC else false)=true
  rw [hs,zez,zez,zez,zez]
  rfl
 have w1:zcp zrN 5 1=true:=by unfold zcp;rw [san1];rfl
 have w2:zcp zrM 12 1=true:=by unfold zcp;rw [san2];rfl
 have w3:zcp zrL 5 3=true:=by unfold zcp;rw [san3];rfl
 have w4:zcp zrK 10 3=true:=by unfold zcp;rw [san4];rfl
 have w5:zcp zrJ 6 3=true:=by unfold zcp;rw [san5];rfl
 have w6:zcp zrI 0 3=true:=by unfold zcp;rw [san6];rfl
 (repeat (first | refine zae ?_ | refine zac ?_ | refine zab ?_ | refine zad ?_));refine zaa hX zcZ rfl ?_ ?_
 ·repeat' (first | exact trivial | assumption | (refine⟨?_,?_⟩) | (intro _))
 refine AWP.ret ⟨.inr rfl,zax rfl trivial rfl rfl ?_⟩
 show (bif (bif (bif (bif (bif (bif true then zcp zrN 5 1 else false) then zcp zrM 12 1 else false) then zcp zrL 5 3 else false) then zcp zrK 10 3 else false) then zcp zrJ 6 3 else false) then zcp zrI 0 3 else false)=true
 rw [w1,w2,w3,w4,w5,w6]
 rfl
def two (k:Int):Bool:=(k==8)||(k==9)||(k==10)||(k==17)
def zcq (by_:Int) (n:Nd):Nd:=(n.1,n.2.1,(if 8≤n.1∧n.1≤17 then n.2.2.1+by_ else n.2.2.1),(if two n.1 then n.2.2.2.1+by_ else n.2.2.2.1),n.2.2.2.2)
def zdY (r:List Nd) (by_:Int):List Nd:=r.map (zcq by_)
def zp6 (r:List Nd) (n:Nd):List Nd:=r++ [setL n ((r.length:Nat) - 1)]
def zqX (r s:List Nd) (n:Nd):List Nd:=r++zdY s (r.length:Nat)++ [zca n ((r.length:Nat) - 1) ((r.length:Nat)+(s.length:Nat) - 1)]
def cMod:Ctr:={ args:=[i64,i64],pre:=fun x=>[0 < x.2.1,x.2.1≤1000000000],res:=i64,own:=none,out:=fun x=>x.1 % x.2.1 }
theorem mod_ok:CtrOk Tryz.prog gmG 40 cMod:=by
 refine zaq (K:=gmK) zaH Tryz.func40 rfl rfl Tryz.call40 rfl (by decide) (by intro h;cases h) ?_
 rintro w0 X hX ⟨(a:Int),(b:Int),_⟩ hp
 obtain⟨h0,h1⟩:0 < b∧b≤1000000000:=by
  simp only [cMod,allP] at hp
  simpa using hp
 change AWP _ _ _ _ _ ⟨[(0,⟨i64,a⟩),(1,⟨i64,b⟩)],[],0⟩ _
 have hn:b≠0:=by omega
 (repeat (first | refine zae ?_ | refine zac ?_ | refine zab ?_ | refine zad ?_));refine zaa hX zaH rfl ?_ ?_
 ·trivial
 (repeat (first | refine zae ?_ | refine zac ?_ | refine zab ?_ | refine zad ?_));refine zaa hX zaH rfl ?_ ?_
 ·exact hn
 (repeat (first | refine zae ?_ | refine zac ?_ | refine zab ?_ | refine zad ?_));refine zaa hX zaH rfl ?_ ?_
 ·trivial
 have hlt:=Int.tmod_lt_of_pos a h0
 have hgt: -b < a.tmod b:=by
  have h2:=Int.natAbs_tmod a b
  have h3:a.natAbs % b.natAbs < b.natAbs:=Nat.mod_lt _ (by omega)
  omega
 have hem:a % b=if a.tmod b < 0 then a.tmod b+b else a.tmod b:=by
  have e1:=Int.emod_nonneg a hn
  have e2:=Int.emod_lt_of_pos a h0
  have e3:a=b * a.tdiv b+a.tmod b:=(Int.mul_tdiv_add_tmod a b).symm
  split
  ·rename_i hneg
   have:a=(a.tmod b+b)+b * (a.tdiv b - 1):=by rw [Int.mul_sub];omega
   conv=>lhs;rw [this]
   rw [Int.add_mul_emod_self_left]
   exact Int.emod_eq_of_lt (by omega) (by omega)
  ·conv=>lhs;rw [e3]
   rw [Int.add_comm,Int.add_mul_emod_self_left]
   exact Int.emod_eq_of_lt (by omega) (by omega)
 refine zaf rfl (fun hb=>?_) (fun hb=>?_)
 ·have hb:decide (a.tmod b < 0)=true:=hb
  have hb:=of_decide_eq_true hb
  have q0:inR .i64 (a.tmod b+b):=zao (by omega) (by omega)
  (repeat (first | refine zae ?_ | refine zac ?_ | refine zab ?_ | refine zad ?_));refine zaa hX zaH rfl ?_ ?_
  ·exact q0
  (repeat (first | refine zae ?_ | refine zac ?_ | refine zal ?_ | refine zad ?_ | refine zab ?_ | refine zaa hX zaH rfl trivial ?_ | refine zaa hX zaH rfl id ?_ | refine zaa hX zaH rfl ⟨id,id⟩ ?_))
  refine AWP.ret ⟨.inr rfl,zax rfl trivial rfl rfl ?_⟩
  show a.tmod b+b=a % b
  rw [hem,if_pos hb]
 ·have hb:decide (a.tmod b < 0)=false:=hb
  have hb:=of_decide_eq_false hb
  refine zac ?_
  (repeat (first | refine zae ?_ | refine zac ?_ | refine zal ?_ | refine zad ?_ | refine zab ?_ | refine zaa hX zaH rfl trivial ?_ | refine zaa hX zaH rfl id ?_ | refine zaa hX zaH rfl ⟨id,id⟩ ?_))
  refine AWP.ret ⟨.inr rfl,zax rfl trivial rfl rfl ?_⟩
  show a.tmod b=a % b
  rw [hem,if_neg hb]
def cTwo:Ctr:={ args:=[i64],pre:=fun _=>[],res:=.bool,own:=none,out:=fun x=>two x.1 }
theorem zq4:CtrOk Tryz.prog gmG 94 cTwo:=by
 refine zaq (K:=gmK) zaH Tryz.func94 rfl rfl Tryz.call94 rfl (by decide) (by intro h;cases h) ?_
 rintro w0 X hX ⟨(k:Int),_⟩ hp
 change AWP _ _ _ _ _ ⟨[(0,⟨i64,k⟩)],[],0⟩ _
 (repeat (first | refine zae ?_ | refine zac ?_ | refine zab ?_ | refine zad ?_));refine zaa hX zaH rfl ?_ ?_
 ·trivial
 (repeat (first | refine zae ?_ | refine zac ?_ | refine zab ?_ | refine zad ?_));refine zaa hX zaH rfl ?_ ?_
 ·repeat' (first | exact trivial | assumption | (refine⟨?_,?_⟩) | (intro _) | exact Nat.le_of_ble_eq_true rfl | exact Int.natCast_nonneg _ | (simp_all [allP];done))
 refine AWP.ret ⟨.inr rfl,zax rfl trivial rfl rfl ?_⟩
 show (bif (bif (bif (k==8) then true else (k==9)) then true else (k==10)) then true else (k==17))=two k
 rw [b_or,b_or,b_or]
 rfl
theorem zl3 {n:Nat} (h:10≤n):Lib.decDigits n=Lib.decDigits (n / 10)++ [UInt8.ofNat (48+n % 10)]:=by
 conv=>lhs;rw [Lib.decDigits]
 rw [dif_neg (by omega)]
theorem zl4 {n:Nat} (h:n < 10):Lib.decDigits n=[UInt8.ofNat (48+n)]:=by rw [Lib.decDigits,dif_pos h]
theorem zrp (n:Nat):UInt8.ofNat ((48+((n:Int)).tmod 10) % 256).toNat=UInt8.ofNat (48+n % 10):=by
 have:((n:Int)).tmod 10=((n % 10:Nat):Int):=rfl
 rw [this]
 congr 1
 omega
theorem vS {x y:List UInt8} (h:x=y):(⟨.str,x⟩:V)=⟨.str,y⟩:=by rw [h]
def zs8:Ctr:={ args:=[i64],pre:=fun x=>[0≤x.1,x.1 < 100000000000000000],res:=.str,own:=none,out:=fun x=>deI x.1 }
theorem zk4:CtrOk Tryz.prog gmG 107 zs8:=by
 refine zaq (K:=gmK) zaH Tryz.func107 rfl rfl Tryz.call107 rfl (by decide) (by intro h;cases h) ?_
 rintro w0 X hX ⟨(n:Int),_⟩ hp
 obtain⟨h0,h1⟩:0≤n∧n < 100000000000000000:=by
  simp only [zs8,allP] at hp
  simpa using hp
 change AWP _ _ _ _ _ ⟨[(0,⟨i64,n⟩)],[],0⟩ _
 (repeat (first | refine zae ?_ | refine zac ?_ | refine zab ?_ | refine zad ?_));refine zaa hX zaH rfl ?_ ?_
 ·trivial
 (repeat (first | refine zae ?_ | refine zac ?_ | refine zab ?_ | refine zad ?_));refine zaa hX zaH rfl ?_ ?_
 ·trivial
 refine zaf rfl (fun hb=>?_) (fun _=>?_)
 ·have hb:decide (n < 0)=true:=hb
  have:=of_decide_eq_true hb
  omega
 refine zac ?_
 have ten:(10:Int)≠0:=by decide
 have tm:∀ x:Int,0≤x->0≤x.tmod 10∧x.tmod 10 < 10:=fun x hx=>⟨Int.tmod_nonneg _ hx,Int.tmod_lt_of_pos _ (by decide)⟩
 have hm:=tm n h0
 have i1:inR .i64 (48+n.tmod 10):=zao (by omega) (by omega)
 (repeat (first | refine zae ?_ | refine zac ?_ | refine zab ?_ | refine zad ?_));refine zaa hX zaH rfl ?_ ?_
 ·exact⟨ten,i1⟩
 have td:∀ x:Nat,((x:Int)).tdiv 10=((x / 10:Nat):Int):=fun x=>(Int.ofNat_tdiv ..)
 obtain⟨N,rfl⟩:∃ N:Nat,n=(N:Int):=⟨n.toNat,by omega⟩
 have hlen:(deI (N:Int)).length≤18:=zej (by omega) h1
 have hde:deI (N:Int)=Lib.decDigits N:=by
  unfold deI Lib.itoa
  rw [if_neg (by omega),Int.toNat_natCast]
 have i2:inR .i64 (((N:Int)).tdiv 10):=by rw [td];exact zao (by omega) (by omega)
 (repeat (first | refine zae ?_ | refine zac ?_ | refine zab ?_ | refine zad ?_));refine zaa hX zaH rfl ?_ ?_
 ·exact⟨ten,i2⟩
 (repeat (first | refine zae ?_ | refine zac ?_ | refine zab ?_ | refine zad ?_));
 refine AWP.loop (ι:=Nat×List UInt8) (fun p=>⟨[(0,⟨i64,(p.1:Int)⟩),(3,⟨.str,p.2⟩)],[],1⟩) (fun p=>p.1≤N / 10∧deI (N:Int)=if p.1=0 then p.2 else Lib.decDigits p.1++p.2) (fun p=>p.1) (N / 10,[UInt8.ofNat (48+N % 10)]) ⟨Nat.le_refl _,?_⟩ ⟨⟨vI64 (td N),vS ?_,trivial⟩,trivial,rfl,rfl⟩ ?_
 ·rw [hde]
  show _=if N / 10=0 then [UInt8.ofNat (48+N % 10)] else Lib.decDigits (N / 10)++ [UInt8.ofNat (48+N % 10)]
  by_cases h10:N < 10
  ·rw [if_pos (by omega),zl4 h10,Nat.mod_eq_of_lt h10]
  ·rw [if_neg (by omega),zl3 (by omega)]
 ·show [UInt8.ofNat ((48+((N:Int)).tmod 10) % 256).toNat]=_
  rw [zrp]
 rintro ⟨m,s⟩ ⟨hm10,hd⟩
 have hm10:m≤N / 10:=hm10
 have hd:deI (N:Int)=if m=0 then s else Lib.decDigits m++s:=hd
 (repeat (first | refine zae ?_ | refine zac ?_ | refine zab ?_ | refine zad ?_));refine zaa hX zaH rfl ?_ ?_
 ·trivial
 refine zaf rfl (fun hb=>?_) (fun hb=>?_)
 ·have hb:decide ((m:Int) > 0)=true:=hb
  have hb:=of_decide_eq_true hb
  rw [if_neg (by omega)] at hd
  have hsl:s.length≤18:=by rw [hd,List.length_append] at hlen;omega
  have hmm:=tm (m:Int) (by omega)
  have j1:inR .i64 (48+((m:Int)).tmod 10):=zao (by omega) (by omega)
  have j2:1+s.length≤maxLen:=by unfold maxLen;omega
  have j3:inR .i64 (((m:Int)).tdiv 10):=by rw [td];exact zao (by omega) (by omega)
  (repeat (first | refine zae ?_ | refine zac ?_ | refine zab ?_ | refine zad ?_));refine zaa hX zaH rfl ?_ ?_
  ·exact⟨ten,j1,j2⟩
  (repeat (first | refine zae ?_ | refine zac ?_ | refine zab ?_ | refine zad ?_));refine zaa hX zaH rfl ?_ ?_
  ·exact⟨ten,j3⟩
  refine⟨(m / 10,[UInt8.ofNat (48+m % 10)]++s),⟨by show m / 10≤N / 10;omega,?_⟩,by show m / 10 < m;omega,⟨vI64 (td m),vS ?_,trivial⟩,trivial,rfl,rfl⟩
  ·rw [hd]
   show _=if m / 10=0 then [UInt8.ofNat (48+m % 10)]++s else Lib.decDigits (m / 10)++([UInt8.ofNat (48+m % 10)]++s)
   by_cases h10:m < 10
   ·rw [if_pos (by omega),zl4 h10,Nat.mod_eq_of_lt h10]
   ·rw [if_neg (by omega),zl3 (by omega),List.append_assoc]
  ·show [UInt8.ofNat ((48+((m:Int)).tmod 10) % 256).toNat]++s=_
   rw [zrp]
 ·have hb:decide ((m:Int) > 0)=false:=hb
  have hb:=of_decide_eq_false hb
  rw [if_pos (by omega)] at hd
  (repeat (first | refine zae ?_ | refine zac ?_ | refine zal ?_ | refine zad ?_ | refine zab ?_ | refine zaa hX zaH rfl trivial ?_ | refine zaa hX zaH rfl id ?_ | refine zaa hX zaH rfl ⟨id,id⟩ ?_))
  refine AWP.ret ⟨.inr rfl,zax rfl trivial rfl rfl ?_⟩
  exact hd.symm
def cDec:Ctr:={ args:=[i64],pre:=fun x=>[zb0 x.1],res:=.str,own:=none,out:=fun x=>deI x.1 }
def kDec:Kn:={ gmK with C:=[(107,zs8)] }
theorem ziS:KnOk Tryz.prog gmG kDec:=zaH.with (.cons zk4 .nil)
theorem dec_ok:CtrOk Tryz.prog gmG 107 cDec:=by
 refine⟨zk4.1,fun w O xs vs hO hr hp hG=>?_⟩
 obtain⟨(n:Int),_⟩:=xs
 obtain⟨h0,h1⟩: -100000000000000000 < n∧n < 100000000000000000:=hp
 by_cases hn:0≤n
 ·exact zk4.2 w O _ vs hO hr ⟨hn,h1⟩ hG
 ·have key:CtrOk Tryz.prog gmG 107 { cDec with pre:=fun x=>[-100000000000000000 < x.1,x.1 < 0] }:=by
   refine zaq (K:=kDec) ziS Tryz.func107 rfl rfl Tryz.call107 rfl (by decide) (by intro h;cases h) ?_
   rintro w0 X hX ⟨(n:Int),_⟩ hp
   obtain⟨h0,h1⟩: -100000000000000000 < n∧n < 0:=hp
   change AWP _ _ _ _ _ ⟨[(0,⟨i64,n⟩)],[],0⟩ _
   (repeat (first | refine zae ?_ | refine zac ?_ | refine zab ?_ | refine zad ?_));refine zaa hX ziS rfl ?_ ?_
   ·trivial
   (repeat (first | refine zae ?_ | refine zac ?_ | refine zab ?_ | refine zad ?_));refine zaa hX ziS rfl ?_ ?_
   ·trivial
   refine zaf rfl (fun _=>?_) (fun hb=>?_)
   ·have i1:inR .i64 (-n):=zao (by omega) (by omega)
    have i2:0≤ -n:=by omega
    have i3: -n < 100000000000000000:=by omega
    have hl:(deI (-n)).length≤18:=zej (by omega) (by omega)
    have i4:1+(deI (-n)).length≤maxLen:=by unfold maxLen;omega
    (repeat (first | refine zae ?_ | refine zac ?_ | refine zab ?_ | refine zad ?_));refine zaa hX ziS rfl ?_ ?_
    ·exact⟨i1,i2,i3,i4⟩
    refine AWP.ret ⟨.inr rfl,zax rfl trivial rfl rfl ?_⟩
    show [45]++deI (-n)=deI n
    unfold deI Lib.itoa
    rw [if_neg (by omega),if_pos (by omega),show n.natAbs=(-n).toNat by omega]
    rfl
   ·have hb:decide (n < 0)=false:=hb
    have:=of_decide_eq_false hb
    omega
  have hneg:n < 0:=by omega
  exact key.2 w O _ vs hO hr ⟨h0,hneg⟩ hG
theorem bufN {te:TypeId} {x y:List Nd} (h:x=y):some (OObj.buf te nd x)=some (OObj.buf te nd y):=by rw [h]
def cOver:Ctr:={ args:=[.slice nd,nd],pre:=fun x=>[List.length x.1≤1000000],res:=.slice nd,own:=none,out:=fun x=>zp6 x.1 x.2.1 }
theorem zr7:CtrOk Tryz.prog gmG 97 cOver:=by
 refine zaq (K:=gmK) zaH Tryz.func97 rfl rfl Tryz.call97 rfl (by decide) (by intro h;cases h) ?_
 rintro w0 X hX ⟨(r:List Nd),(n:Nd),_⟩ hp
 have hl:r.length≤1000000:=hp
 change AWP _ _ _ _ _ ⟨[(0,⟨.slice nd,r⟩),(1,⟨nd,n⟩)],[],0⟩ _
 have i1:inR .i64 (((r.length:Nat):Int) - 1):=zao (by omega) (by omega)
 have i2:0+r.length≤1000000000:=by omega
 have i3:List.length ([]++r)+1≤1000000000:=by rw [List.nil_append];omega
 (repeat (first | refine zae ?_ | refine zac ?_ | refine zab ?_ | refine zad ?_));refine zaa hX zaH rfl ?_ ?_
 ·trivial
 (repeat (first | refine zae ?_ | refine zac ?_ | refine zab ?_ | refine zad ?_));refine zaa hX zaH rfl ?_ ?_
 ·exact i1
 (repeat (first | refine zae ?_ | refine zac ?_ | refine zab ?_ | refine zad ?_));refine zaa hX zaH rfl ?_ ?_
 ·exact i2
 (repeat (first | refine zae ?_ | refine zac ?_ | refine zab ?_ | refine zad ?_));refine zaa hX zaH rfl ?_ ?_
 ·exact i3
 refine AWP.frz hX 4 ?_
 refine AWP.ret ⟨.inr rfl,zax rfl trivial rfl rfl ?_⟩
 rfl
def zru:Ctr:={ args:=[.slice nd,i64],pre:=fun x=>[List.length x.1≤1000000,0≤x.2.1,x.2.1≤1000000,∀ n∈(x.1:List Nd),(-1000000≤ndL n∧ndL n≤1000000)∧(-1000000≤ndR n∧ndR n≤1000000)],res:=.slice nd,own:=none,out:=fun x=>zdY x.1 x.2.1 }
def kMvd:Kn:={ gmK with C:=[(94,cTwo)] }
theorem zc0:KnOk Tryz.prog gmG kMvd:=zaH.with (.cons zq4 .nil)
theorem zqa:CtrOk Tryz.prog gmG 148 zru:=by
 refine zaq (K:=kMvd) zc0 Tryz.func148 rfl rfl Tryz.call148 rfl (by decide) (by intro h;cases h) ?_
 rintro w0 X hX ⟨(r:List Nd),(b:Int),_⟩ hp
 obtain⟨hl,b0,b1,hn⟩:r.length≤1000000∧0≤b∧b≤1000000∧∀ n∈r,(-1000000≤ndL n∧ndL n≤1000000)∧(-1000000≤ndR n∧ndR n≤1000000):=hp
 change AWP _ _ _ _ _ ⟨[(0,⟨.slice nd,r⟩),(1,⟨i64,b⟩)],[],0⟩ _
 have i2:0+r.length≤1000000000:=by omega
 (repeat (first | refine zae ?_ | refine zac ?_ | refine zab ?_ | refine zad ?_));refine zaa hX zc0 rfl ?_ ?_
 ·trivial
 (repeat (first | refine zae ?_ | refine zac ?_ | refine zab ?_ | refine zad ?_));refine zaa hX zc0 rfl ?_ ?_
 ·exact i2
 (repeat (first | refine zae ?_ | refine zac ?_ | refine zab ?_ | refine zad ?_));refine zaa hX zc0 rfl ?_ ?_
 ·trivial
 (repeat (first | refine zae ?_ | refine zac ?_ | refine zab ?_ | refine zad ?_));
 refine AWP.loop (ι:=Nat) (fun i=>⟨[(1,⟨i64,b⟩),(5,⟨.obuf nd,(0:Nat)⟩),(6,⟨i64,(i:Int)⟩)],[(0,some (.buf 73 nd ((r.take i).map (zcq b)++r.drop i)))],1⟩) (fun i=>i≤r.length) (fun i=>r.length - i) 0 (Nat.zero_le _) ⟨⟨rfl,rfl,rfl,trivial⟩,⟨bufN ?_,trivial⟩,rfl,rfl⟩ ?_
 ·rfl
 intro i hi
 have hlen:((r.take i).map (zcq b)++r.drop i).length=r.length:=by rw [List.length_append,List.length_map,List.length_take,List.length_drop];omega
 (repeat (first | refine zae ?_ | refine zac ?_ | refine zab ?_ | refine zad ?_));refine zaa hX zc0 rfl ?_ ?_
 ·trivial
 refine zaf rfl (fun hb=>?_) (fun hb=>?_)
 ·have hb:decide ((i:Int) < ((((r.take i).map (zcq b)++r.drop i).length:Nat):Int))=true:=hb
  have hb:=of_decide_eq_true hb
  rw [hlen] at hb
  have hlt:i < r.length:=by omega
  have z0:(0:Int)≤(i:Int):=by omega
  have hdr:r.drop i=r[i]::r.drop (i+1):=List.drop_eq_getElem_cons hlt
  have hpl:((r.take i).map (zcq b)).length=i:=by rw [List.length_map,List.length_take];omega
  obtain⟨⟨q1,q2⟩,⟨q3,q4⟩⟩:=hn r[i] (List.getElem_mem hlt)
  rw [hdr] at hlen ⊢
  have htk:(r.take (i+1)).map (zcq b)=(r.take i).map (zcq b)++ [zcq b r[i]]:=by rw [List.take_succ_eq_append_getElem hlt,List.map_append];rfl
  generalize (r.take i).map (zcq b)=p at *
  generalize hdq:r.drop (i+1)=q at *
  generalize r[i]=n at *
  have z1:(i:Int) < (((p++n::q).length:Nat):Int):=by rw [hlen];omega
  have z2:((i:Int)).toNat < (p++n::q).length:=by rw [hlen];omega
  have hget:(p++n::q).getD ((i:Int)).toNat zNd=n:=by
   have:=zb6 (l:=p) (m:=n::q) (z:=zNd) (j:=0)
   rw [Int.toNat_natCast,show i=p.length+0 by omega,this]
   rfl
  have hset:∀ x,(p++n::q).set ((i:Int)).toNat x=p++x::q:=fun x=>by
   rw [Int.toNat_natCast,List.set_append_right _ _ (by omega),show i - p.length=0 by omega]
   rfl
  have i3:inR .i64 (ndL n+b):=zao (by omega) (by omega)
  have i4:inR .i64 (ndR n+b):=zao (by omega) (by omega)
  have i3':inR .i64 (ndL ((p++n::q).getD ((i:Int)).toNat zNd)+b):=by rw [hget];exact i3
  (repeat (first | refine zae ?_ | refine zac ?_ | refine zab ?_ | refine zad ?_));refine zaa hX zc0 rfl ?_ ?_
  ·repeat' (first | exact trivial | assumption | exact z0 | exact z1 | exact z2 | (refine⟨?_,?_⟩) | (intro _) | exact Nat.le_of_ble_eq_true rfl | exact Int.natCast_nonneg _ | (simp_all [allP];done))
  refine AWP.viaQ (σ':=⟨[(1,⟨i64,b⟩),(5,⟨.obuf nd,(0:Nat)⟩),(6,⟨i64,(i:Int)⟩)],[(0,some (.buf 73 nd (p++(if 8≤ndK n∧ndK n≤17 then setL n (ndL n+b) else n)::q)))],1⟩) ?_ ?_
  ·have hq:(bif decide (ndK ((p++n::q).getD ((i:Int)).toNat zNd)≥8) then decide (ndK ((p++n::q).getD ((i:Int)).toNat zNd)≤17) else false)=decide (8≤ndK n∧ndK n≤17):=by
    rw [hget,zdb,Bool.eq_iff_iff,Bool.and_eq_true,decide_eq_true_iff,decide_eq_true_iff,decide_eq_true_iff]
   refine zaf rfl (fun hc=>?_) (fun hc=>?_)
   ·have hc:=of_decide_eq_true (hq.symm.trans hc)
    (repeat (first | refine zae ?_ | refine zac ?_ | refine zab ?_ | refine zad ?_));refine zaa hX zc0 rfl ?_ ?_
    ·repeat' (first | exact trivial | assumption | exact z0 | exact z1 | exact z2 | exact i3' | (refine⟨?_,?_⟩) | (intro _) | exact Nat.le_of_ble_eq_true rfl | exact Int.natCast_nonneg _ | (simp_all [allP];done))
    refine⟨⟨rfl,rfl,rfl,trivial⟩,⟨bufN ?_,trivial⟩,rfl,rfl⟩
    refine (hset _).trans ?_
    rw [if_pos hc]
    show p++(setL ((p++n::q).getD ((i:Int)).toNat zNd) (ndL ((p++n::q).getD ((i:Int)).toNat zNd)+b))::q=_
    rw [hget]
   ·have hc:=of_decide_eq_false (hq.symm.trans hc)
    refine zac ?_
    rw [if_neg hc]
    exact⟨⟨rfl,rfl,rfl,trivial⟩,⟨rfl,trivial⟩,rfl,rfl⟩
  generalize hn1:(if 8≤ndK n∧ndK n≤17 then setL n (ndL n+b) else n)=n1
  have hK:ndK n1=ndK n:=by rw [<-hn1];split<;>rfl
  have hR:ndR n1=ndR n:=by rw [<-hn1];split<;>rfl
  have hlen1:(p++n1::q).length=r.length:=by rw [<-hlen];simp
  have y1:(i:Int) < (((p++n1::q).length:Nat):Int):=by rw [hlen1];omega
  have y2:((i:Int)).toNat < (p++n1::q).length:=by rw [hlen1];omega
  have hget1:(p++n1::q).getD ((i:Int)).toNat zNd=n1:=by
   have:=zb6 (l:=p) (m:=n1::q) (z:=zNd) (j:=0)
   rw [Int.toNat_natCast,show i=p.length+0 by omega,this]
   rfl
  have hset1:∀ x,(p++n1::q).set ((i:Int)).toNat x=p++x::q:=fun x=>by
   rw [Int.toNat_natCast,List.set_append_right _ _ (by omega),show i - p.length=0 by omega]
   rfl
  have i4':inR .i64 (ndR ((p++n1::q).getD ((i:Int)).toNat zNd)+b):=by rw [hget1,hR];exact i4
  (repeat (first | refine zae ?_ | refine zac ?_ | refine zab ?_ | refine zad ?_));refine zaa hX zc0 rfl ?_ ?_
  ·repeat' (first | exact trivial | assumption | exact z0 | exact y1 | exact y2 | (refine⟨?_,?_⟩) | (intro _) | exact Nat.le_of_ble_eq_true rfl | exact Int.natCast_nonneg _ | (simp_all [allP];done))
  have hmv:zcq b n=if two (ndK n)=true then zca n1 (ndL n1) (ndR n1+b) else n1:=by
   rw [<-hn1]
   unfold zcq
   obtain⟨k,c,L,R,rest⟩:=n
   by_cases h8:8≤k∧k≤17
   ·rw [if_pos h8,if_pos (c:=8≤ndK (k,c,L,R,rest)∧ndK (k,c,L,R,rest)≤17) h8]
    cases ht:two k with
    | true=>rw [if_pos (c:=two (ndK (k,c,L,R,rest))=true) ht];rfl
    | false=>rw [if_neg (c:=two (ndK (k,c,L,R,rest))=true) (by show ¬ two k=true;rw [ht];decide)];rfl
   ·rw [if_neg h8,if_neg (c:=8≤ndK (k,c,L,R,rest)∧ndK (k,c,L,R,rest)≤17) h8]
    cases ht:two k with
    | true=>rw [if_pos (c:=two (ndK (k,c,L,R,rest))=true) ht];rfl
    | false=>rw [if_neg (c:=two (ndK (k,c,L,R,rest))=true) (by show ¬ two k=true;rw [ht];decide)];rfl
  have hq:two (ndK ((p++n1::q).getD ((i:Int)).toNat zNd))=two (ndK n):=by rw [hget1,hK]
  refine zaf rfl (fun hc=>?_) (fun hc=>?_)
  ·have hc:=hq.symm.trans hc
   (repeat (first | refine zae ?_ | refine zac ?_ | refine zab ?_ | refine zad ?_));refine zaa hX zc0 rfl ?_ ?_
   ·repeat' (first | exact trivial | assumption | exact z0 | exact y1 | exact y2 | exact i4' | (refine⟨?_,?_⟩) | (intro _) | exact Nat.le_of_ble_eq_true rfl | exact Int.natCast_nonneg _ | (simp_all [allP];done))
   (repeat (first | refine zae ?_ | refine zac ?_ | refine zab ?_ | refine zad ?_));refine zaa hX zc0 rfl ?_ ?_
   ·exact zaR (by omega)
   refine⟨i+1,hlt,by omega,⟨rfl,rfl,zck _,trivial⟩,⟨bufN ?_,trivial⟩,rfl,rfl⟩
   refine (hset1 _).trans ?_
   rw [htk,hmv,if_pos hc,List.append_assoc,hdq]
   show p++(zca ((p++n1::q).getD ((i:Int)).toNat zNd) (ndL ((p++n1::q).getD ((i:Int)).toNat zNd)) (ndR ((p++n1::q).getD ((i:Int)).toNat zNd)+b))::q=_
   rw [hget1]
   rfl
  ·have hc:=hq.symm.trans hc
   refine zac ?_
   (repeat (first | refine zae ?_ | refine zac ?_ | refine zab ?_ | refine zad ?_));refine zaa hX zc0 rfl ?_ ?_
   ·exact zaR (by omega)
   refine⟨i+1,hlt,by omega,⟨rfl,rfl,zck _,trivial⟩,⟨bufN ?_,trivial⟩,rfl,rfl⟩
   rw [htk,hmv,if_neg (by rw [hc];decide),List.append_assoc,hdq]
   rfl
 ·have hb:decide ((i:Int) < ((((r.take i).map (zcq b)++r.drop i).length:Nat):Int))=false:=hb
  have hb:=of_decide_eq_false hb
  rw [hlen] at hb
  obtain rfl:i=r.length:=by omega
  refine zad ?_
  refine AWP.frz hX 5 ?_
  (repeat (first | refine zae ?_ | refine zac ?_ | refine zab ?_ | refine zad ?_));refine zaa hX zc0 rfl ?_ ?_
  ·trivial
  refine AWP.ret ⟨.inr rfl,zax rfl trivial rfl rfl ?_⟩
  show (r.take r.length).map (zcq b)++r.drop r.length=zdY r b
  rw [List.take_length,List.drop_length,List.append_nil]
  rfl
def cBoth:Ctr:={ args:=[.slice nd,.slice nd,nd],pre:=fun x=>[1≤List.length x.1,List.length x.1≤100000,List.length x.2.1≤100000,∀ n∈(x.2.1:List Nd),(-1000000≤ndL n∧ndL n≤1000000)∧(-1000000≤ndR n∧ndR n≤1000000)],res:=.slice nd,own:=none,out:=fun x=>zqX x.1 x.2.1 x.2.2.1 }
def kBth:Kn:={ gmK with C:=[(148,zru)] }
theorem zeX:KnOk Tryz.prog gmG kBth:=zaH.with (.cons zqa .nil)
theorem ztc:CtrOk Tryz.prog gmG 95 cBoth:=by
 refine zaq (K:=kBth) zeX Tryz.func95 rfl rfl Tryz.call95 rfl (by decide) (by intro h;cases h) ?_
 rintro w0 X hX ⟨(a:List Nd),(c:List Nd),(n:Nd),_⟩ hp
 obtain⟨h1,hl,hl2,hn⟩:1≤a.length∧a.length≤100000∧c.length≤100000∧∀ n∈c,(-1000000≤ndL n∧ndL n≤1000000)∧(-1000000≤ndR n∧ndR n≤1000000):=hp
 change AWP _ _ _ _ _ ⟨[(0,⟨.slice nd,a⟩),(1,⟨.slice nd,c⟩),(2,⟨nd,n⟩)],[],0⟩ _
 have i1:inR .i64 (((a.length:Nat):Int) - 1):=zao (by omega) (by omega)
 have i2:inR .i64 (((a.length:Nat):Int)+((c.length:Nat):Int)):=zao (by omega) (by omega)
 have i3:inR .i64 (((a.length:Nat):Int)+((c.length:Nat):Int) - 1):=zao (by omega) (by omega)
 have i4:0+a.length≤1000000000:=by omega
 have i5:c.length≤1000000:=by omega
 have i6:(0:Int)≤((a.length:Nat):Int):=by omega
 have i7:((a.length:Nat):Int)≤1000000:=by omega
 have hml:(zdY c ((a.length:Nat):Int)).length=c.length:=by unfold zdY;rw [List.length_map]
 have i8:List.length ([]++a)+(zdY c ((a.length:Nat):Int)).length≤1000000000:=by rw [List.nil_append];omega
 have i9:List.length ([]++a++zdY c ((a.length:Nat):Int))+1≤1000000000:=by rw [List.nil_append,List.length_append];omega
 (repeat (first | refine zae ?_ | refine zac ?_ | refine zab ?_ | refine zad ?_));refine zaa hX zeX rfl ?_ ?_
 ·trivial
 (repeat (first | refine zae ?_ | refine zac ?_ | refine zab ?_ | refine zad ?_));refine zaa hX zeX rfl ?_ ?_
 ·exact i1
 (repeat (first | refine zae ?_ | refine zac ?_ | refine zab ?_ | refine zad ?_));refine zaa hX zeX rfl ?_ ?_
 ·exact⟨i2,i3⟩
 (repeat (first | refine zae ?_ | refine zac ?_ | refine zab ?_ | refine zad ?_));refine zaa hX zeX rfl ?_ ?_
 ·exact i4
 (repeat (first | refine zae ?_ | refine zac ?_ | refine zab ?_ | refine zad ?_));refine zaa hX zeX rfl ?_ ?_
 ·exact⟨i5,i6,i7,hn,i8⟩
 (repeat (first | refine zae ?_ | refine zac ?_ | refine zab ?_ | refine zad ?_));refine zaa hX zeX rfl ?_ ?_
 ·exact i9
 refine AWP.frz hX 6 ?_
 refine AWP.ret ⟨.inr rfl,zax rfl trivial rfl rfl ?_⟩
 rfl
abbrev Mk:=List Int×Int×Int×Int×Unit
def mkD (m:Mk):List Int:=m.1
def mkU (m:Mk):Int:=m.2.1
def mkN (m:Mk):Int:=m.2.2.1
def mkS (m:Mk):Int:=m.2.2.2.1
def mkUp (m:Mk):Mk:=(mkD m,mkU m+1,mkN m,mkS m,())
def zaj (m:Mk) (n:Int):Int×Mk:=(if mkU m+1 > (((mkD m).length:Nat):Int) then 0 else (mkD m).getD (mkU m).toNat 0 % n,mkUp m)
def zqV:RCtr:={ self:=mkr,args:=[i64],inv:=fun _ _=>True,pre:=fun m xs=>[0≤mkU m,mkU m≤1000000,0 < xs.1,xs.1≤1000000000],res:=i64,out:=fun m xs=>(zaj m xs.1).1,post:=fun m xs=>(zaj m xs.1).2 }
def kMd:Kn:={ gmK with C:=[(40,cMod)] }
theorem za7:KnOk Tryz.prog gmG kMd:=zaH.with (.cons mod_ok .nil)
theorem zkI:zeM Tryz.prog gmG 92 zqV:=by
 refine zdR (K:=kMd) za7 Tryz.func92 rfl rfl Tryz.call92 rfl (by decide) (fun w w' g hg h hk=>trivial) ?_
 rintro w0 O g hX hinv ⟨(d:List Int),(u:Int),(nm:Int),(sz:Int),_⟩ ⟨(n:Int),_⟩ hp
 obtain⟨h0,h1,h2,h3⟩:0≤u∧u≤1000000∧0 < n∧n≤1000000000:=hp
 change AWP _ _ _ _ _ ⟨[(0,⟨.optr mkr,⟨0,mkr,.here⟩⟩),(1,⟨i64,n⟩)],[(0,some (.box mkr (d,u,nm,sz,())))],1⟩ _
 have i1:inR .i64 (u+1):=zao (by omega) (by omega)
 have i2:inR .i64 (u+1 - 1):=zao (by omega) (by omega)
 have i3:(0:Int)≤u+1 - 1:=by omega
 (repeat (first | refine zae ?_ | refine zac ?_ | refine zab ?_ | refine zad ?_));refine zaa hX za7 rfl ?_ ?_
 ·trivial
 (repeat (first | refine zae ?_ | refine zac ?_ | refine zab ?_ | refine zad ?_));refine zaa hX za7 rfl ?_ ?_
 ·exact i1
 (repeat (first | refine zae ?_ | refine zac ?_ | refine zab ?_ | refine zad ?_));refine AWP.draw dM hX za7 9 (by kernel_rfl) rfl rfl ?_ ?_ ?_
 ·trivial
 ·trivial
 refine zaf rfl (fun hb=>?_) (fun hb=>?_)
 ·have hb:decide (u+1 > ((d.length:Nat):Int))=true:=hb
  have hb:=of_decide_eq_true hb
  (repeat (first | refine zae ?_ | refine zac ?_ | refine zab ?_ | refine zad ?_));refine zaa hX za7 rfl ?_ ?_
  ·trivial
  refine AWP.ret ⟨.inr rfl,rfl,zax rfl trivial rfl rfl ?_⟩
  exact (if_pos (show mkU (d,u,nm,sz,())+1 > (((mkD (d,u,nm,sz,())).length:Nat):Int) from hb)).symm
 ·have hb:decide (u+1 > ((d.length:Nat):Int))=false:=hb
  have hb:=of_decide_eq_false hb
  refine zac ?_
  have i4:u+1 - 1 < ((d.length:Nat):Int):=by omega
  have i5:(u+1 - 1).toNat < d.length:=by omega
  (repeat (first | refine zae ?_ | refine zac ?_ | refine zab ?_ | refine zad ?_));refine AWP.draw dM hX za7 12 (by kernel_rfl) rfl rfl ?_ ?_ ?_
  ·repeat' (first | exact trivial | assumption | exact i2 | exact i3 | exact i4 | exact i5 | exact h2 | exact h3 | (refine⟨?_,?_⟩) | (intro _) | exact Nat.le_of_ble_eq_true rfl | exact Int.natCast_nonneg _ | (simp_all [allP];done))
  ·repeat' (first | exact trivial | assumption | exact i2 | exact i3 | exact i4 | exact i5 | exact h2 | exact h3 | (refine⟨?_,?_⟩) | (intro _) | exact Nat.le_of_ble_eq_true rfl | exact Int.natCast_nonneg _ | (simp_all [allP];done))
  refine AWP.ret ⟨.inr rfl,rfl,zax rfl trivial rfl rfl ?_⟩
  show d.getD (u+1 - 1).toNat 0 % n=_
  refine Eq.trans ?_ (if_neg (show ¬ mkU (d,u,nm,sz,())+1 > (((mkD (d,u,nm,sz,())).length:Nat):Int) from hb)).symm
  rw [show u+1 - 1=u by omega]
  rfl
theorem zaF (m:Mk) {n:Int} (h:0 < n):0≤(zaj m n).1∧(zaj m n).1 < n:=by
 unfold zaj
 split
 ·exact⟨Int.le_refl _,h⟩
 ·exact⟨Int.emod_nonneg _ (by omega),Int.emod_lt_of_pos _ h⟩
theorem zaU (m:Mk) (n:Int):mkU (zaj m n).2=mkU m+1:=rfl
theorem zsg (m:Mk) (n:Int):mkN (zaj m n).2=mkN m:=rfl
def mRis (lo hi:Int):Nat->Mk->Int->List Int->List Int×Mk
 | 0,m,_,acc=>(acc,m)
 | k+1,m,v,acc=>if v≤hi then mRis lo hi k (zaj m 3).2 (v+1+(zaj m 3).1) (if v≠0∨0≤lo then acc++ [v] else acc) else (acc,m)
def orHi (hi:Int) (p:List Int×Mk):List Int×Mk:=(if p.1.length=0 then [hi] else p.1,p.2)
def zaI (m:Mk) (lo hi:Int):List Int×Mk:=
 let p:=zaj m 4
 let q:=zaj p.2 (hi - lo+1)
 orHi hi (mRis lo hi (1+p.1).toNat q.2 (lo+q.1) [])
def zlb:RCtr:={ self:=mkr,args:=[i64,i64],inv:=fun _ _=>True,pre:=fun m xs=>[0≤mkU m,mkU m≤900000,-1000≤xs.1,xs.1≤xs.2.1,xs.2.1≤1000],res:=ints,out:=fun m xs=>(zaI m xs.1 xs.2.1).1,post:=fun m xs=>(zaI m xs.1 xs.2.1).2 }
def kRi:Kn:={ gmK with R:=[(92,zqV)] }
theorem zcR:KnOk Tryz.prog gmG kRi:=zaH.withR (.cons zkI (fun _ _=>trivial) .nil)
theorem zjA:zeM Tryz.prog gmG 96 zlb:=by
 refine zdR (K:=kRi) zcR Tryz.func96 rfl rfl Tryz.call96 rfl (by decide) (fun w w' g hg h hk=>trivial) ?_
 rintro w0 O g hX hinv ⟨(d:List Int),(u:Int),(nm:Int),(sz:Int),_⟩ ⟨(lo:Int),(hi:Int),_⟩ hp
 obtain⟨h0,h1,h2,h3,h4⟩:0≤u∧u≤900000∧ -1000≤lo∧lo≤hi∧hi≤1000:=hp
 obtain⟨m,hm⟩:∃ m:Mk,m=(d,u,nm,sz,()):=⟨_,rfl⟩
 rw [<-hm]
 have h0:0≤mkU m:=by rw [hm];exact h0
 have h1:mkU m≤900000:=by rw [hm];exact h1
 change AWP _ _ _ _ _ ⟨[(0,⟨.optr mkr,⟨0,mkr,.here⟩⟩),(1,⟨i64,lo⟩),(2,⟨i64,hi⟩)],[(0,some (.box mkr m))],1⟩ _
 clear hm
 have hc:=zaF m (n:=4) (by decide)
 have hu1:=zaU m 4
 obtain⟨c,hc0⟩:∃ k:Nat,(zaj m 4).1=(k:Int):=⟨(zaj m 4).1.toNat,by omega⟩
 have ha1:mkU m≤1000000:=by omega
 have i1:inR .i64 (1+(zaj m 4).1):=zao (by omega) (by omega)
 (repeat (first | refine zae ?_ | refine zac ?_ | refine zab ?_ | refine zad ?_));refine zaa hX zcR rfl ?_ ?_
 ·trivial
 (repeat (first | refine zae ?_ | refine zac ?_ | refine zab ?_ | refine zad ?_));refine zaa hX zcR rfl ?_ ?_
 ·repeat' (first | exact trivial | assumption | exact h0 | exact ha1 | exact i1 | (refine⟨?_,?_⟩) | (intro _) | exact Nat.le_of_ble_eq_true rfl | exact Int.natCast_nonneg _ | (simp_all [allP];done))
 have hN0:1+(zaj m 4).1=((c+1:Nat):Int):=by omega
 have e0:orHi hi (mRis lo hi (c+1) (zaj (zaj m 4).2 (hi - lo+1)).2 (lo+(zaj (zaj m 4).2 (hi - lo+1)).1) [])=zaI m lo hi:=by
  unfold zaI
  simp only [hN0,Int.toNat_natCast]
 have hd1:=zaF (zaj m 4).2 (n:=hi - lo+1) (by omega)
 have hu2:=zaU (zaj m 4).2 (hi - lo+1)
 have j1:inR .i64 (hi - lo):=zao (by omega) (by omega)
 have j2:inR .i64 (hi - lo+1):=zao (by omega) (by omega)
 have j3:0≤mkU (zaj m 4).2:=by omega
 have j4:mkU (zaj m 4).2≤1000000:=by omega
 have j5:0 < hi - lo+1:=by omega
 have j6:hi - lo+1≤1000000000:=by omega
 have j7:inR .i64 (lo+(zaj (zaj m 4).2 (hi - lo+1)).1):=zao (by omega) (by omega)
 (repeat (first | refine zae ?_ | refine zac ?_ | refine zab ?_ | refine zad ?_));refine zaa hX zcR rfl ?_ ?_
 ·repeat' (first | exact trivial | assumption | exact j1 | exact j2 | exact j3 | exact j4 | exact j5 | exact j6 | exact j7 | (refine⟨?_,?_⟩) | (intro _) | exact Nat.le_of_ble_eq_true rfl | exact Int.natCast_nonneg _ | (simp_all [allP];done))
 have u2:mkU (zaj (zaj m 4).2 (hi - lo+1)).2=mkU m+2:=by omega
 have v2:lo≤lo+(zaj (zaj m 4).2 (hi - lo+1)).1∧lo+(zaj (zaj m 4).2 (hi - lo+1)).1≤hi:=by omega
 (repeat (first | refine zae ?_ | refine zac ?_ | refine zab ?_ | refine zad ?_));refine zaa hX zcR rfl ?_ ?_
 ·trivial
 refine AWP.nilBuf hX 9 3 i64 rfl rfl rfl ?_
 (repeat (first | refine zae ?_ | refine zac ?_ | refine zab ?_ | refine zad ?_));refine zaa hX zcR rfl ?_ ?_
 ·trivial
 have hcl:c+1≤4:=by omega
 refine zap (σ':=⟨[(0,⟨.optr mkr,⟨0,mkr,.here⟩⟩),(1,⟨i64,lo⟩),(2,⟨i64,hi⟩),(7,⟨i64,((c+1:Nat):Int)⟩),(8,⟨i64,lo+(zaj (zaj m 4).2 (hi - lo+1)).1⟩),(9,⟨.obuf i64,(1:Nat)⟩),(10,⟨i64,(0:Int)⟩)],[(0,some (.box mkr (zaj (zaj m 4).2 (hi - lo+1)).2)),(1,some (.buf 3 i64 []))],2⟩) ⟨⟨rfl,rfl,rfl,vI64 hN0,rfl,rfl,rfl,trivial⟩,⟨rfl,rfl,trivial⟩,rfl,rfl⟩ ?_
 obtain⟨R,hRR⟩:∃ R,R=zaI m lo hi:=⟨_,rfl⟩
 rw [<-hRR] at e0
 generalize (zaj (zaj m 4).2 (hi - lo+1)).2=m2 at *
 generalize lo+(zaj (zaj m 4).2 (hi - lo+1)).1=v at *
 clear hc hu1 hc0 ha1 i1 hN0 hd1 hu2 j1 j2 j3 j4 j5 j6 j7
 refine zab ?_
 refine AWP.loop (ι:=Nat×Mk×Int×List Int) (fun x=>⟨[(0,⟨.optr mkr,⟨0,mkr,.here⟩⟩),(1,⟨i64,lo⟩),(2,⟨i64,hi⟩),(7,⟨i64,((c+1:Nat):Int)⟩),(8,⟨i64,x.2.2.1⟩),(9,⟨.obuf i64,(1:Nat)⟩),(10,⟨i64,(((c+1) - x.1:Nat):Int)⟩)],[(0,some (.box mkr x.2.1)),(1,some (.buf 3 i64 x.2.2.2))],2⟩) (fun x=>orHi hi (mRis lo hi x.1 x.2.1 x.2.2.1 x.2.2.2)=R∧x.1≤c+1∧mkU x.2.1=mkU m+2+((c+1 - x.1:Nat):Int)∧(lo≤x.2.2.1∧x.2.2.1≤hi+3)∧x.2.2.2.length≤4 - x.1) (fun x=>x.1) (c+1,m2,v,[]) ⟨e0,Nat.le_refl _,?_,⟨v2.1,?_⟩,Nat.zero_le _⟩ ⟨⟨rfl,rfl,rfl,rfl,rfl,rfl,vI64 ?_,trivial⟩,⟨rfl,rfl,trivial⟩,rfl,rfl⟩ ?_
 ·show mkU m2=mkU m+2+((c+1 - (c+1):Nat):Int)
  omega
 ·show v≤hi+3
  omega
 ·show (0:Int)=((c+1 - (c+1):Nat):Int)
  omega
 rintro ⟨k,mk,w,acc⟩ ⟨hR,hk,hu,⟨hw1,hw2⟩,hacc⟩
 have hR:orHi hi (mRis lo hi k mk w acc)=R:=hR
 have hk:k≤c+1:=hk
 have hu:mkU mk=mkU m+2+((c+1 - k:Nat):Int):=hu
 have hw1:lo≤w:=hw1
 have hw2:w≤hi+3:=hw2
 have hacc:acc.length≤4 - k:=hacc
 clear e0 u2 v2
 change AWP _ _ _ _ _ ⟨[(0,⟨.optr mkr,⟨0,mkr,.here⟩⟩),(1,⟨i64,lo⟩),(2,⟨i64,hi⟩),(7,⟨i64,((c+1:Nat):Int)⟩),(8,⟨i64,w⟩),(9,⟨.obuf i64,(1:Nat)⟩),(10,⟨i64,(((c+1) - k:Nat):Int)⟩)],[(0,some (.box mkr mk)),(1,some (.buf 3 i64 acc))],2⟩ _
 have hq:(bif decide ((((c+1) - k:Nat):Int) < ((c+1:Nat):Int)) then decide (w≤hi) else false)=decide (0 < k∧w≤hi):=by
  rw [zdb,Bool.eq_iff_iff,Bool.and_eq_true,decide_eq_true_iff,decide_eq_true_iff,decide_eq_true_iff]
  omega
 (repeat (first | refine zae ?_ | refine zac ?_ | refine zab ?_ | refine zad ?_));refine zaa hX zcR rfl ?_ ?_
 ·repeat' (first | exact trivial | assumption | (refine⟨?_,?_⟩) | (intro _) | exact Nat.le_of_ble_eq_true rfl | exact Int.natCast_nonneg _ | (simp_all [allP];done))
 refine zaf rfl (fun hb=>?_) (fun hb=>?_)
 ·have hb:=of_decide_eq_true (hq.symm.trans hb)
  obtain⟨hk0,hwh⟩:=hb
  obtain⟨k,rfl⟩:∃ j,k=j+1:=⟨k - 1,by omega⟩
  have hR2:orHi hi (mRis lo hi k (zaj mk 3).2 (w+1+(zaj mk 3).1) (if w≠0∨0≤lo then acc++ [w] else acc))=R:=by
   rw [<-hR]
   conv=>rhs;rw [mRis,if_pos hwh]
  have hp3:=zaF mk (n:=3) (by decide)
  have hu3:=zaU mk 3
  have q1:0≤mkU mk:=by omega
  have q2:mkU mk≤1000000:=by omega
  have q3:inR .i64 (w+1):=zao (by omega) (by omega)
  have q4:inR .i64 (w+1+(zaj mk 3).1):=zao (by omega) (by omega)
  have q5:inR .i64 ((((c+1) - (k+1):Nat):Int)+1):=zao (by omega) (by omega)
  have q6:acc.length+1≤1000000000:=by omega
  have hend:((((c+1) - (k+1):Nat):Int)+1)=(((c+1) - k:Nat):Int):=by omega
  have hq2:(bif (!(w==0)) then true else decide (lo≥0))=decide (w≠0∨0≤lo):=by
   rw [b_or,Bool.eq_iff_iff,Bool.or_eq_true,decide_eq_true_iff,decide_eq_true_iff,Bool.not_eq_true',beq_eq_false_iff_ne]
  (repeat (first | refine zae ?_ | refine zac ?_ | refine zab ?_ | refine zad ?_));refine zaa hX zcR rfl ?_ ?_
  ·repeat' (first | exact trivial | assumption | (refine⟨?_,?_⟩) | (intro _) | exact Nat.le_of_ble_eq_true rfl | exact Int.natCast_nonneg _ | (simp_all [allP];done))
  refine zaf rfl (fun hc=>?_) (fun hc=>?_)
  ·have hc:=of_decide_eq_true (hq2.symm.trans hc)
   rw [if_pos hc] at hR2
   (repeat (first | refine zae ?_ | refine zac ?_ | refine zab ?_ | refine zad ?_));refine zaa hX zcR rfl ?_ ?_
   ·exact q6
   (repeat (first | refine zae ?_ | refine zac ?_ | refine zab ?_ | refine zad ?_));refine zaa hX zcR rfl ?_ ?_
   ·repeat' (first | exact trivial | assumption | exact q1 | exact q2 | exact q3 | exact q4 | (refine⟨?_,?_⟩) | (intro _) | exact Nat.le_of_ble_eq_true rfl | exact Int.natCast_nonneg _ | (simp_all [allP];done))
   (repeat (first | refine zae ?_ | refine zac ?_ | refine zab ?_ | refine zad ?_));refine zaa hX zcR rfl ?_ ?_
   ·exact q5
   refine⟨(k,(zaj mk 3).2,w+1+(zaj mk 3).1,acc++ [w]),⟨hR2,by show k≤c+1;omega,?_,⟨?_,?_⟩,?_⟩,by show k < k+1;omega,⟨rfl,rfl,rfl,rfl,rfl,rfl,vI64 hend,trivial⟩,⟨rfl,rfl,trivial⟩,rfl,rfl⟩
   ·show mkU (zaj mk 3).2=mkU m+2+((c+1 - k:Nat):Int)
    omega
   ·show lo≤w+1+(zaj mk 3).1
    omega
   ·show w+1+(zaj mk 3).1≤hi+3
    omega
   ·show (acc++ [w]).length≤4 - k
    rw [List.length_append,List.length_singleton]
    omega
  ·have hc:=of_decide_eq_false (hq2.symm.trans hc)
   rw [if_neg hc] at hR2
   refine zac ?_
   (repeat (first | refine zae ?_ | refine zac ?_ | refine zab ?_ | refine zad ?_));refine zaa hX zcR rfl ?_ ?_
   ·repeat' (first | exact trivial | assumption | exact q1 | exact q2 | exact q3 | exact q4 | (refine⟨?_,?_⟩) | (intro _) | exact Nat.le_of_ble_eq_true rfl | exact Int.natCast_nonneg _ | (simp_all [allP];done))
   (repeat (first | refine zae ?_ | refine zac ?_ | refine zab ?_ | refine zad ?_));refine zaa hX zcR rfl ?_ ?_
   ·exact q5
   refine⟨(k,(zaj mk 3).2,w+1+(zaj mk 3).1,acc),⟨hR2,by show k≤c+1;omega,?_,⟨?_,?_⟩,?_⟩,by show k < k+1;omega,⟨rfl,rfl,rfl,rfl,rfl,rfl,vI64 hend,trivial⟩,⟨rfl,rfl,trivial⟩,rfl,rfl⟩
   ·show mkU (zaj mk 3).2=mkU m+2+((c+1 - k:Nat):Int)
    omega
   ·show lo≤w+1+(zaj mk 3).1
    omega
   ·show w+1+(zaj mk 3).1≤hi+3
    omega
   ·show acc.length≤4 - k
    omega
 ·have hb:=of_decide_eq_false (hq.symm.trans hb)
  have hR3:(mRis lo hi k mk w acc)=(acc,mk):=by
   cases k with
   | zero=>rfl
   | succ k=>rw [mRis,if_neg (by omega)]
  rw [hR3] at hR
  refine zad ?_
  have q6:acc.length+1≤1000000000:=by omega
  have hq3:(((acc.length:Nat):Int)==0)=decide (acc.length=0):=by
   rw [Bool.eq_iff_iff,beq_iff_eq,decide_eq_true_iff]
   omega
  (repeat (first | refine zae ?_ | refine zac ?_ | refine zab ?_ | refine zad ?_));refine zaa hX zcR rfl ?_ ?_
  ·trivial
  refine zaf rfl (fun hc=>?_) (fun hc=>?_)
  ·have hc:=of_decide_eq_true (hq3.symm.trans hc)
   (repeat (first | refine zae ?_ | refine zac ?_ | refine zab ?_ | refine zad ?_));refine zaa hX zcR rfl ?_ ?_
   ·exact q6
   refine AWP.frz hX 9 ?_
   (repeat (first | refine zae ?_ | refine zac ?_ | refine zab ?_ | refine zad ?_));refine zaa hX zcR rfl ?_ ?_
   ·trivial
   refine AWP.ret ⟨.inr rfl,?_,zax rfl trivial rfl rfl ?_⟩
   ·show some (OObj.box mkr mk)=some (OObj.box mkr (zaI m lo hi).2)
    rw [<-hRR, <-hR]
    rfl
   ·show acc++ [hi]=(zaI m lo hi).1
    rw [<-hRR, <-hR]
    unfold orHi
    rw [if_pos hc,List.length_eq_zero_iff.1 hc]
    rfl
  ·have hc:=of_decide_eq_false (hq3.symm.trans hc)
   refine zac ?_
   refine AWP.frz hX 9 ?_
   (repeat (first | refine zae ?_ | refine zac ?_ | refine zab ?_ | refine zad ?_));refine zaa hX zcR rfl ?_ ?_
   ·trivial
   refine AWP.ret ⟨.inr rfl,?_,zax rfl trivial rfl rfl ?_⟩
   ·show some (OObj.box mkr mk)=some (OObj.box mkr (zaI m lo hi).2)
    rw [<-hRR, <-hR]
    rfl
   ·show acc=(zaI m lo hi).1
    rw [<-hRR, <-hR]
    unfold orHi
    rw [if_neg hc]
def whS (v:Int):List UInt8:=if v=1 then [9] else if v=2 then [10,10] else if v=3 then [13,10] else if v=4 then [32,32,32] else [32]
def gapV (g:List Int) (k:Nat):Int:=if 0 < g.length then g.getD (k % g.length) 0 % 7 else 0
def spF (g:List Int):Nat->List UInt8->List UInt8
 | _,[]=>[]
 | k,c::r=>if c=32 then whS (gapV g k)++spF g (k+1) r else c::spF g k r
theorem zm9 (v:Int):(whS v).length≤3:=by
 unfold whS
 split
 ·decide
 split
 ·decide
 split
 ·decide
 split<;>decide
theorem zkA (g:List Int):∀ (l:List UInt8) (k:Nat),(spF g k l).length≤3 * l.length
 | [],_=>Nat.le_refl _
 | c::r,k=>by
  rw [spF]
  split
  ·have:=zkA g r (k+1)
   have:=zm9 (gapV g k)
   rw [List.length_append,List.length_cons]
   omega
  ·have:=zkA g r k
   rw [List.length_cons,List.length_cons]
   omega
def zpa:Ctr:={ args:=[.str,ints],pre:=fun x=>[List.length x.1≤100000],res:=.str,own:=none,out:=fun x=>spF x.2.1 0 x.1 }
abbrev sSp (s:List UInt8) (g:List Int) (i k:Nat) (b:List UInt8):AS:=⟨[(0,⟨.str,s⟩),(1,⟨ints,g⟩),(5,⟨.obuf u8,(0:Nat)⟩),(6,⟨i64,(k:Int)⟩),(7,⟨i64,(i:Int)⟩)],[(0,some (.buf 5 u8 b))],1⟩
theorem zns:CtrOk Tryz.prog gmG 29 zpa:=by
 refine zaq (K:=kMd) za7 Tryz.func29 rfl rfl Tryz.call29 rfl (by decide) (by intro h;cases h) ?_
 rintro w0 X hX ⟨(s:List UInt8),(g:List Int),_⟩ hp
 have hl:s.length≤100000:=hp
 change AWP _ _ _ _ _ ⟨[(0,⟨.str,s⟩),(1,⟨ints,g⟩)],[],0⟩ _
 (repeat (first | refine zae ?_ | refine zac ?_ | refine zab ?_ | refine zad ?_));refine zaa hX za7 rfl ?_ ?_
 ·trivial
 (repeat (first | refine zae ?_ | refine zac ?_ | refine zab ?_ | refine zad ?_));refine zaa hX za7 rfl ?_ ?_
 ·trivial
 refine AWP.nilBuf hX 5 5 u8 rfl rfl rfl ?_
 (repeat (first | refine zae ?_ | refine zac ?_ | refine zab ?_ | refine zad ?_));refine zaa hX za7 rfl ?_ ?_
 ·trivial
 (repeat (first | refine zae ?_ | refine zac ?_ | refine zab ?_ | refine zad ?_));refine zaa hX za7 rfl ?_ ?_
 ·trivial
 refine zab ?_
 obtain⟨R,hRR⟩:∃ R,R=spF g 0 s:=⟨_,rfl⟩
 refine AWP.loop (ι:=Nat×Nat×List UInt8) (fun x=>sSp s g x.1 x.2.1 x.2.2) (fun x=>x.2.2++spF g x.2.1 (s.drop x.1)=R∧x.1≤s.length∧x.2.1≤x.1∧x.2.2.length≤3 * x.1) (fun x=>s.length - x.1) (0,0,[]) ⟨hRR.symm,Nat.zero_le _,Nat.le_refl _,Nat.zero_le _⟩ ⟨⟨rfl,rfl,rfl,rfl,rfl,trivial⟩,⟨rfl,trivial⟩,rfl,rfl⟩ ?_
 rintro ⟨i,k,b⟩ ⟨hR,hi,hk,hb0⟩
 have hR:b++spF g k (s.drop i)=R:=hR
 have hi:i≤s.length:=hi
 have hk:k≤i:=hk
 have hb0:b.length≤3 * i:=hb0
 show AWP _ _ _ _ _ (sSp s g i k b) _
 (repeat (first | refine zae ?_ | refine zac ?_ | refine zab ?_ | refine zad ?_));refine zaa hX za7 rfl ?_ ?_
 ·trivial
 refine zaf rfl (fun hb=>?_) (fun hb=>?_)
 ·have hb:decide ((i:Int) < ((s.length:Nat):Int))=true:=hb
  have hb:=of_decide_eq_true hb
  have hlt:i < s.length:=by omega
  have z0:(0:Int)≤(i:Int):=by omega
  have z2:((i:Int)).toNat < s.length:=by omega
  have hdr:s.drop i=s[i]::s.drop (i+1):=List.drop_eq_getElem_cons hlt
  have hget:s.getD ((i:Int)).toNat 0=s[i]:=by rw [Int.toNat_natCast,List.getD_eq_getElem?_getD,List.getElem?_eq_getElem hlt];rfl
  rw [hdr,spF] at hR
  (repeat (first | refine zae ?_ | refine zac ?_ | refine zab ?_ | refine zad ?_));refine zaa hX za7 rfl ?_ ?_
  ·repeat' (first | exact trivial | assumption | exact z0 | exact hb | exact z2 | (refine⟨?_,?_⟩) | (intro _) | exact Nat.le_of_ble_eq_true rfl | exact Int.natCast_nonneg _ | (simp_all [allP];done))
  have e1:s.length - (i+1) < s.length - i:=by omega
  have z5:inR .i64 ((i:Int)+1):=zaR (by omega)
  have z6:b.length+1≤1000000000:=by omega
  have hcq:(((UInt8.toNat (s.getD ((i:Int)).toNat 0):Nat):Int) != ((UInt8.toNat 32:Nat):Int))=decide (s[i]≠32):=by
   rw [hget,Bool.eq_iff_iff,bne_iff_ne,decide_eq_true_iff]
   exact⟨fun h e=>h (by rw [e]),fun h e=>h (UInt8.toNat_inj.1 (Int.ofNat.inj e))⟩
  refine zaf rfl (fun hc=>?_) (fun hc=>?_)
  ·have hc:s[i]≠32:=of_decide_eq_true (hcq.symm.trans hc)
   rw [if_neg hc] at hR
   (repeat (first | refine zae ?_ | refine zac ?_ | refine zab ?_ | refine zad ?_));refine zaa hX za7 rfl ?_ ?_
   ·repeat' (first | exact trivial | assumption | exact z0 | exact hb | exact z2 | exact z6 | (refine⟨?_,?_⟩) | (intro _) | exact Nat.le_of_ble_eq_true rfl | exact Int.natCast_nonneg _ | (simp_all [allP];done))
   refine zad ?_
   (repeat (first | refine zae ?_ | refine zac ?_ | refine zab ?_ | refine zad ?_));refine zaa hX za7 rfl ?_ ?_
   ·exact z5
   refine⟨(i+1,k,b++ [s[i]]),⟨?_,hlt,by show k≤i+1;omega,by show (b++ [s[i]]).length≤3 * (i+1);rw [List.length_append,List.length_singleton];omega⟩,e1,⟨rfl,rfl,rfl,rfl,zck _,trivial⟩,⟨by show some (OObj.buf 5 u8 (b++ [s.getD ((i:Int)).toNat 0]))=_;rw [hget],trivial⟩,rfl,rfl⟩
   show b++ [s[i]]++spF g k (s.drop (i+1))=R
   rw [<-hR,List.append_assoc]
   rfl
  ·have hc:s[i]=32:=Decidable.of_not_not (of_decide_eq_false (hcq.symm.trans hc))
   rw [if_pos hc] at hR
   refine zac ?_
   (repeat (first | refine zae ?_ | refine zac ?_ | refine zab ?_ | refine zad ?_));refine zaa hX za7 rfl ?_ ?_
   ·trivial
   (repeat (first | refine zae ?_ | refine zac ?_ | refine zab ?_ | refine zad ?_));refine zaa hX za7 rfl ?_ ?_
   ·trivial
   refine AWP.viaQ (σ':=⟨(8,⟨i64,gapV g k⟩)::(sSp s g i k b).F,(sSp s g i k b).E,1⟩) ?_ ?_
   ·refine zaf rfl (fun hg=>?_) (fun hg=>?_)
    ·have hg:decide (((g.length:Nat):Int) > 0)=true:=hg
     have hg:=of_decide_eq_true hg
     have hgl:0 < g.length:=by omega
     have y0:((g.length:Nat):Int)≠0:=by omega
     have ym:((k:Int)).tmod ((g.length:Nat):Int)=((k % g.length:Nat):Int):=rfl
     have yl:=Nat.mod_lt k hgl
     have y1:0≤((k:Int)).tmod ((g.length:Nat):Int):=by rw [ym];omega
     have y2:((k:Int)).tmod ((g.length:Nat):Int) < ((g.length:Nat):Int):=by rw [ym];omega
     have y3:(((k:Int)).tmod ((g.length:Nat):Int)).toNat < g.length:=by rw [ym];omega
     (repeat (first | refine zae ?_ | refine zac ?_ | refine zab ?_ | refine zad ?_));refine zaa hX za7 rfl ?_ ?_
     ·repeat' (first | exact trivial | assumption | exact y0 | exact y1 | exact y2 | exact y3 | (refine⟨?_,?_⟩) | (intro _) | exact Nat.le_of_ble_eq_true rfl | exact Int.natCast_nonneg _ | (simp_all [allP];done))
     refine⟨⟨?_,rfl,rfl,rfl,rfl,rfl,trivial⟩,⟨rfl,trivial⟩,rfl,rfl⟩
     show (⟨i64,g.getD (((k:Int)).tmod ((g.length:Nat):Int)).toNat 0 % 7⟩:V)=⟨i64,gapV g k⟩
     unfold gapV
     rw [ym,if_pos hgl,Int.toNat_natCast]
    ·have hg:decide (((g.length:Nat):Int) > 0)=false:=hg
     have hg:=of_decide_eq_false hg
     refine zac ?_
     refine⟨⟨?_,rfl,rfl,rfl,rfl,rfl,trivial⟩,⟨rfl,trivial⟩,rfl,rfl⟩
     show (⟨i64,(0:Int)⟩:V)=⟨i64,gapV g k⟩
     unfold gapV
     rw [if_neg (by omega)]
   generalize hv:gapV g k=v at *
   have z7:inR .i64 ((k:Int)+1):=zaR (by omega)
   (repeat (first | refine zae ?_ | refine zac ?_ | refine zab ?_ | refine zad ?_));refine zaa hX za7 rfl ?_ ?_
   ·exact z7
   (repeat (first | refine zae ?_ | refine zac ?_ | refine zab ?_ | refine zad ?_));refine zaa hX za7 rfl ?_ ?_
   ·trivial
   have z8:b.length+3≤1000000000:=by omega
   have z9:b.length+2≤1000000000:=by omega
   have hw:=zm9 v
   have fin:(b++whS v).length≤3 * (i+1):=by rw [List.length_append];omega
   have fin2:b++whS v++spF g (k+1) (s.drop (i+1))=R:=by rw [<-hR,List.append_assoc]
   have goal:∀ w,w=whS v->(some (OObj.buf 5 u8 (b++w))=some (OObj.buf 5 u8 (b++whS v))):=fun w h=>by rw [h]
   refine zab ?_
   (repeat (first | refine zae ?_ | refine zac ?_ | refine zab ?_ | refine zad ?_));refine zaa hX za7 rfl ?_ ?_
   ·trivial
   refine zaf rfl (fun hx=>?_) (fun hx=>?_)
   ·have hx:(v==1)=true:=hx
    (repeat (first | refine zae ?_ | refine zac ?_ | refine zab ?_ | refine zad ?_));refine zaa hX za7 rfl ?_ ?_
    ·exact z6
    (repeat (first | refine zae ?_ | refine zac ?_ | refine zab ?_ | refine zad ?_));refine zaa hX za7 rfl ?_ ?_
    ·exact z5
    exact⟨(i+1,k+1,b++whS v),⟨fin2,hlt,by show k+1≤i+1;omega,fin⟩,e1,⟨rfl,rfl,rfl,zck _,zck _,trivial⟩,⟨goal _ (by rw [eq_of_beq hx];rfl),trivial⟩,rfl,rfl⟩
   have hx1:(v==1)=false:=hx
   (repeat (first | refine zae ?_ | refine zac ?_ | refine zab ?_ | refine zad ?_));refine zaa hX za7 rfl ?_ ?_
   ·trivial
   refine zaf rfl (fun hx=>?_) (fun hx=>?_)
   ·have hx:(v==2)=true:=hx
    (repeat (first | refine zae ?_ | refine zac ?_ | refine zab ?_ | refine zad ?_));refine zaa hX za7 rfl ?_ ?_
    ·exact z9
    (repeat (first | refine zae ?_ | refine zac ?_ | refine zab ?_ | refine zad ?_));refine zaa hX za7 rfl ?_ ?_
    ·exact z5
    exact⟨(i+1,k+1,b++whS v),⟨fin2,hlt,by show k+1≤i+1;omega,fin⟩,e1,⟨rfl,rfl,rfl,zck _,zck _,trivial⟩,⟨goal _ (by rw [eq_of_beq hx];rfl),trivial⟩,rfl,rfl⟩
   have hx2:(v==2)=false:=hx
   (repeat (first | refine zae ?_ | refine zac ?_ | refine zab ?_ | refine zad ?_));refine zaa hX za7 rfl ?_ ?_
   ·trivial
   refine zaf rfl (fun hx=>?_) (fun hx=>?_)
   ·have hx:(v==3)=true:=hx
    (repeat (first | refine zae ?_ | refine zac ?_ | refine zab ?_ | refine zad ?_));refine zaa hX za7 rfl ?_ ?_
    ·exact z9
    (repeat (first | refine zae ?_ | refine zac ?_ | refine zab ?_ | refine zad ?_));refine zaa hX za7 rfl ?_ ?_
    ·exact z5
    exact⟨(i+1,k+1,b++whS v),⟨fin2,hlt,by show k+1≤i+1;omega,fin⟩,e1,⟨rfl,rfl,rfl,zck _,zck _,trivial⟩,⟨goal _ (by rw [eq_of_beq hx];rfl),trivial⟩,rfl,rfl⟩
   have hx3:(v==3)=false:=hx
   (repeat (first | refine zae ?_ | refine zac ?_ | refine zab ?_ | refine zad ?_));refine zaa hX za7 rfl ?_ ?_
   ·trivial
   refine zaf rfl (fun hx=>?_) (fun hx=>?_)
   ·have hx:(v==4)=true:=hx
    (repeat (first | refine zae ?_ | refine zac ?_ | refine zab ?_ | refine zad ?_));refine zaa hX za7 rfl ?_ ?_
    ·exact z8
    (repeat (first | refine zae ?_ | refine zac ?_ | refine zab ?_ | refine zad ?_));refine zaa hX za7 rfl ?_ ?_
    ·exact z5
    exact⟨(i+1,k+1,b++whS v),⟨fin2,hlt,by show k+1≤i+1;omega,fin⟩,e1,⟨rfl,rfl,rfl,zck _,zck _,trivial⟩,⟨goal _ (by rw [eq_of_beq hx];rfl),trivial⟩,rfl,rfl⟩
   have hx4:(v==4)=false:=hx
   have hwv: [32]=whS v:=by
    unfold whS
    rw [if_neg (by simpa using hx1),if_neg (by simpa using hx2),if_neg (by simpa using hx3),if_neg (by simpa using hx4)]
   (repeat (first | refine zae ?_ | refine zac ?_ | refine zab ?_ | refine zad ?_));refine zaa hX za7 rfl ?_ ?_
   ·exact z6
   (repeat (first | refine zae ?_ | refine zac ?_ | refine zab ?_ | refine zad ?_));refine zaa hX za7 rfl ?_ ?_
   ·exact z5
   exact⟨(i+1,k+1,b++whS v),⟨fin2,hlt,by show k+1≤i+1;omega,fin⟩,e1,⟨rfl,rfl,rfl,zck _,zck _,trivial⟩,⟨goal _ hwv,trivial⟩,rfl,rfl⟩
 ·have hb:decide ((i:Int) < ((s.length:Nat):Int))=false:=hb
  have hb:=of_decide_eq_false hb
  obtain rfl:i=s.length:=by omega
  rw [List.drop_length,spF,List.append_nil] at hR
  refine zad ?_
  refine AWP.frz hX 5 ?_
  have hbl:b.length≤maxLen:=by unfold maxLen;omega
  (repeat (first | refine zae ?_ | refine zac ?_ | refine zab ?_ | refine zad ?_));refine zaa hX za7 rfl ?_ ?_
  ·repeat' (first | exact trivial | assumption | exact hbl | (refine⟨?_,?_⟩) | (intro _) | exact Nat.le_of_ble_eq_true rfl | exact Int.natCast_nonneg _ | (simp_all [allP];done))
  refine AWP.ret ⟨.inr rfl,zax rfl trivial rfl rfl ?_⟩
  show b=spF g 0 s
  rw [<-hRR,hR]
section
variable {P:Program} {w0:World} {X:Ownr} {n:Nat} {σ:AS} {Q:Exit->AS->Prop} {ops:Array Oper}
theorem AL.guardU (j s:Nat) (b:Bool) (t:Ty) (y:t.T) {z:Bool} {o:Oper} {rest:List Oper} (hg:o.guard=some (j,b)) (hd:(ops[j]?).bind (·.dst)=some s) (hs:Frame.get σ.F s=⟨.cond .bool,(false,z)⟩) (hsn:Nat.blt s n=true) {d:Nat} (hdst:o.dst=some d) (hdn:Nat.blt d n=true) (h:AL P w0 X n ops rest ⟨(d,⟨.cond t,(false,y)⟩)::σ.F,σ.E,σ.nx⟩ Q) (hb:bnd t y=0:=by rfl):AL P w0 X n ops (o::rest) σ Q:=by
 intro β a w hsim
 have hv:a.tmps.getD s undef=undef:=by
  have h2:=hsim.fr s
  rw [hs] at h2
  exact h2.2 rfl
 have hsz:s < a.tmps.size:=by rw [hsim.sz];simpa using hsn
 have hy:yielded ops a.tmps j=none:=by
  unfold yielded
  rw [hd]
  have:a.tmps[s]? =some undef:=by
   rw [Array.getD_eq_getD_getElem?,Array.getElem?_eq_getElem hsz] at hv
   rw [Array.getElem?_eq_getElem hsz]
   exact congrArg some hv
  show (match (a.tmps[s]?) with
   | some (.bool b)=>some b
   | _=>none)=none
  rw [this]
  rfl
 have hw:¬ Region.wanted o (yielded ops a.tmps)=true:=by simp [Region.wanted,hg,hy]
 show if Region.wanted o (yielded ops a.tmps)=true then _ else _
 rw [if_neg hw]
 refine⟨fun f _=>ze1 _ f,?_⟩
 rw [hdst]
 exact h _ _ _ (hsim.put (Below.refl _ _) (v:=⟨.cond t,(false,y)⟩) ⟨fun h=>(by cases h),fun _=>rfl⟩ (by rw [show V.bound ⟨.cond t,(false,y)⟩=bnd t y from rfl,hb];exact Nat.zero_le _) (by simpa using hdn))
end
def zcY (k:Int) (m:Mk):Bool×Mk:=if k=8 then (mkN m==0,m) else if k=6 then ((zaj m 2).1==0,(zaj m 2).2) else (false,m)
def zd2 (k:Int) (m:Mk) (ids:Int):Int×Mk:=if k≠1∧k≠5 then zaj m ids else (0,m)
def zgg (k c:Int) (m:Mk):Nd×Mk:=
 if k=1 then let p:=zaj m 12;let q:=zaj p.2 20;((1,c,0,0,1+p.1,q.1,[],[],()),q.2)
 else if k=2 then let p:=zaj m 4;let q:=zaj p.2 (1+p.1);((2,c,0,0,1+p.1,q.1,[],[],()),q.2)
 else if k=3 then let p:=zaI m 1 4;((3,c,0,0,0,0,p.1,[],()),p.2)
 else if k=4 then let p:=zaI m (-4) 7;((4,c,0,0,0,0,p.1,[],()),p.2)
 else if k=5 then let p:=zaI m 0 6;((5,c,0,0,0,0,p.1,[],()),p.2)
 else if k=6 then let p:=zaI m 1 4;((6,c,0,0,0,0,p.1,[],()),p.2)
 else let p:=zaj m 3;let q:=zaj p.2 2;let r:=zaj q.2 7;let s:=zaj r.2 2;((k,c,s.1,0,(if q.1=1 then -(1+p.1) else 1+p.1),r.1,[],[],()),s.2)
def lfK (k:Int) (b:Bool):Int:=bif b then 1 else k
def zib (k:Int) (m:Mk) (ids:Int):Nd×Mk:=
 let q:=zcY k m
 if k=8∧mkN q.2 > 0 then let r:=zaj q.2 (mkN q.2);((18,0,0,0,0,0,[],[110]++deI r.1,()),r.2)
 else zgg (lfK k q.1) (zd2 (lfK k q.1) q.2 ids).1 (zd2 (lfK k q.1) q.2 ids).2
def zc7 (m:Mk) (ids:Int):Nd×Mk:=zib (1+(zaj m 8).1) (zaj m 8).2 ids
def zrw:RCtr:={ self:=mkr,args:=[i64],inv:=fun _ _=>True,pre:=fun m xs=>[0≤mkU m,mkU m≤800000,0≤mkN m,mkN m≤1000000,0 < xs.1,xs.1≤1000000],res:=nd,out:=fun m xs=>(zc7 m xs.1).1,post:=fun m xs=>(zc7 m xs.1).2 }
def kMl:Kn:={ gmK with C:=[(107,cDec)],R:=[(92,zqV),(96,zlb)] }
theorem zaA:KnOk Tryz.prog gmG kMl:={ zaH.with (.cons dec_ok .nil) with r:=.cons zkI (fun _ _=>trivial) (.cons zjA (fun _ _=>trivial) .nil) }
abbrev sLf (m:Mk) (ids k:Int) (n:Nd):AS:=⟨[(0,⟨.optr mkr,⟨0,mkr,.here⟩⟩),(1,⟨i64,ids⟩),(4,⟨.optr nd,⟨1,nd,.here⟩⟩),(5,⟨i64,k⟩),(6,⟨.optr nd,⟨2,nd,.here⟩⟩)],[(0,some (.box mkr m)),(1,some (.box nd zNd)),(2,some (.box nd n))],3⟩
theorem zqb:zeM Tryz.prog gmG 93 zrw:=by
 refine zdR (K:=kMl) zaA Tryz.func93 rfl rfl Tryz.call93 rfl (by decide) (fun w w' g hg h hk=>trivial) ?_
 rintro w0 O g hX hinv (m:Mk) ⟨(ids:Int),_⟩ hp
 obtain⟨h0,h1,h2,h3,h4,h5⟩:0≤mkU m∧mkU m≤800000∧0≤mkN m∧mkN m≤1000000∧0 < ids∧ids≤1000000:=hp
 change AWP _ _ _ _ _ ⟨[(0,⟨.optr mkr,⟨0,mkr,.here⟩⟩),(1,⟨i64,ids⟩)],[(0,some (.box mkr m))],1⟩ _
 have a1:mkU m≤1000000:=by omega
 have hk:=zaF m (n:=8) (by decide)
 have hu1:=zaU m 8
 have hn1:=zsg m 8
 have a2:inR .i64 (1+(zaj m 8).1):=zao (by omega) (by omega)
 (repeat (first | refine zae ?_ | refine zac ?_ | refine zab ?_ | refine zad ?_));refine zaa hX zaA rfl ?_ ?_
 ·trivial
 (repeat (first | refine zae ?_ | refine zac ?_ | refine zab ?_ | refine zad ?_));refine zaa hX zaA rfl ?_ ?_
 ·repeat' (first | exact trivial | assumption | exact h0 | exact a1 | exact a2 | (refine⟨?_,?_⟩) | (intro _) | exact Nat.le_of_ble_eq_true rfl | exact Int.natCast_nonneg _ | (simp_all [allP];done))
 (repeat (first | refine zae ?_ | refine zac ?_ | refine zab ?_ | refine zad ?_));refine zaa hX zaA rfl ?_ ?_
 ·trivial
 obtain⟨R,hRR⟩:∃ R,R=zc7 m ids:=⟨_,rfl⟩
 have hR:R=zib (1+(zaj m 8).1) (zaj m 8).2 ids:=hRR
 refine zap (σ':=sLf (zaj m 8).2 ids (1+(zaj m 8).1) (1+(zaj m 8).1,0,0,0,0,0,[],[],())) ⟨⟨rfl,rfl,rfl,rfl,rfl,trivial⟩,⟨rfl,rfl,rfl,trivial⟩,rfl,rfl⟩ ?_
 generalize hk1:1+(zaj m 8).1=k at *
 have hkr:1≤k∧k≤8:=by omega
 generalize (zaj m 8).2=m1 at *
 have b1:0≤mkU m1:=by omega
 have b2:mkU m1≤1000000:=by omega
 clear hk hk1 a1 a2
 refine zae ?_
 refine AWP.viaQ (σ':=sLf (zcY k m1).2 ids k (lfK k (zcY k m1).1,0,0,0,0,0,[],[],())) ?_ ?_
 ·refine zae ?_
  refine zai ?_
  refine AL.take 3 hX zaA rfl trivial ?_
  by_cases h8:k=8
  ·subst h8
   have e:zcY 8 m1=(mkN m1==0,m1):=rfl
   rw [e]
   refine AL.guardT 2 14 true rfl rfl rfl rfl ?_
   refine AL.take 1 hX zaA rfl trivial ?_
   refine AL.guardT 2 14 true rfl rfl rfl rfl ?_
   refine AL.take 1 hX zaA rfl trivial ?_
   refine AL.guardT 2 14 true rfl rfl rfl rfl ?_
   refine AL.take 1 hX zaA rfl trivial ?_
   refine AL.guardT 2 14 true rfl rfl rfl rfl ?_
   refine AL.take 1 hX zaA rfl trivial ?_
   refine AL.guardT 2 14 true rfl rfl rfl rfl ?_
   refine AL.take 3 hX zaA rfl trivial ?_
   by_cases hN:(mkN m1==0)=true
   ·rw [hN]
    refine AL.guardF 9 21 false i64 0 rfl rfl (zct hN) rfl rfl rfl ?_
    refine AL.guardF 9 21 false .bool false rfl rfl (zct hN) rfl rfl rfl ?_
    refine AL.guardF 9 21 false .bool false rfl rfl (zct hN) rfl rfl rfl ?_
    refine AL.guardU 12 24 true i64 0 rfl rfl rfl rfl rfl rfl ?_
    refine AL.guardU 12 24 true i64 0 rfl rfl rfl rfl rfl rfl ?_
    refine AL.guardU 12 24 true .bool false rfl rfl rfl rfl rfl rfl ?_
    refine AL.guardF 9 21 false .bool false rfl rfl (zct hN) rfl rfl rfl ?_
    refine AL.all hX zaA rfl (fun hc=>absurd (show (!(mkN m1==0))=true from hc) (by rw [hN];decide)) ?_
    refine zaf rfl (fun _=>?_) (fun hb=>?_)
    ·(repeat (first | refine zae ?_ | refine zac ?_ | refine zab ?_ | refine zad ?_));refine zaa hX zaA rfl ?_ ?_
     ·trivial
     exact⟨⟨rfl,rfl,rfl,rfl,rfl,trivial⟩,⟨rfl,rfl,rfl,trivial⟩,rfl,rfl⟩
    ·have hb:(bif (mkN m1==0) then true else false)=false:=hb
     rw [hN] at hb
     cases hb
   ·have hN:(mkN m1==0)=false:=by simpa using hN
    rw [hN]
    refine AL.fit (σ':=⟨(21,⟨.bool,false⟩)::(sLf m1 ids 8 (8,0,0,0,0,0,[],[],())).F,(sLf m1 ids 8 (8,0,0,0,0,0,[],[],())).E,3⟩) ⟨⟨zct hN,rfl,rfl,rfl,rfl,rfl,trivial⟩,⟨rfl,rfl,rfl,trivial⟩,rfl,rfl⟩ ?_
    refine AL.guardT 9 21 false rfl rfl rfl rfl ?_
    refine AL.take 1 hX zaA rfl trivial ?_
    refine AL.guardT 9 21 false rfl rfl rfl rfl ?_
    refine AL.take 1 hX zaA rfl trivial ?_
    refine AL.guardT 9 21 false rfl rfl rfl rfl ?_
    refine AL.take 1 hX zaA rfl trivial ?_
    refine AL.guardF 12 24 true i64 0 rfl rfl rfl rfl rfl rfl ?_
    refine AL.guardF 12 24 true i64 0 rfl rfl rfl rfl rfl rfl ?_
    refine AL.guardF 12 24 true .bool false rfl rfl rfl rfl rfl rfl ?_
    refine AL.guardT 9 21 false rfl rfl rfl rfl ?_
    refine AL.all hX zaA rfl (by repeat' (first | exact trivial | assumption | (refine⟨?_,?_⟩) | (intro _) | exact Nat.le_of_ble_eq_true rfl | exact Int.natCast_nonneg _ | (simp_all [allP];done))) ?_
    refine zaf rfl (fun hb=>?_) (fun _=>?_)
    ·have hb:false=true:=hb
     cases hb
    refine zac ?_
    exact⟨⟨rfl,rfl,rfl,rfl,rfl,trivial⟩,⟨rfl,rfl,rfl,trivial⟩,rfl,rfl⟩
  ·have h8b:(k==8)=false:=beq_false_of_ne h8
   refine AL.fit (σ':=⟨(14,⟨.bool,false⟩)::(sLf m1 ids k (k,0,0,0,0,0,[],[],())).F,(sLf m1 ids k (k,0,0,0,0,0,[],[],())).E,3⟩) ⟨⟨zct h8b,rfl,rfl,rfl,rfl,rfl,trivial⟩,⟨rfl,rfl,rfl,trivial⟩,rfl,rfl⟩ ?_
   refine AL.guardF 2 14 true i64 0 rfl rfl rfl rfl rfl rfl ?_
   refine AL.guardF 2 14 true i64 0 rfl rfl rfl rfl rfl rfl ?_
   refine AL.guardF 2 14 true i64 0 rfl rfl rfl rfl rfl rfl ?_
   refine AL.guardF 2 14 true i64 0 rfl rfl rfl rfl rfl rfl ?_
   refine AL.guardF 2 14 true .bool false rfl rfl rfl rfl rfl rfl ?_
   refine AL.take 2 hX zaA rfl (by repeat' (first | exact trivial | assumption | (refine⟨?_,?_⟩) | (intro _) | exact Nat.le_of_ble_eq_true rfl | exact Int.natCast_nonneg _ | (simp_all [allP];done))) ?_
   refine AL.fit (σ':=⟨(21,⟨.bool,false⟩)::(sLf m1 ids k (k,0,0,0,0,0,[],[],())).F,(sLf m1 ids k (k,0,0,0,0,0,[],[],())).E,3⟩) ⟨⟨rfl,rfl,rfl,rfl,rfl,rfl,trivial⟩,⟨rfl,rfl,rfl,trivial⟩,rfl,rfl⟩ ?_
   refine AL.guardT 9 21 false rfl rfl rfl rfl ?_
   refine AL.take 1 hX zaA rfl trivial ?_
   refine AL.guardT 9 21 false rfl rfl rfl rfl ?_
   refine AL.take 1 hX zaA rfl trivial ?_
   refine AL.guardT 9 21 false rfl rfl rfl rfl ?_
   refine AL.take 1 hX zaA rfl trivial ?_
   by_cases h6:k=6
   ·subst h6
    have e:zcY 6 m1=((zaj m1 2).1==0,(zaj m1 2).2):=rfl
    rw [e]
    refine AL.guardT 12 24 true rfl rfl rfl rfl ?_
    refine AL.take 1 hX zaA rfl trivial ?_
    refine AL.guardT 12 24 true rfl rfl rfl rfl ?_
    refine AL.take 1 hX zaA rfl (by repeat' (first | exact trivial | assumption | exact b1 | exact b2 | (refine⟨?_,?_⟩) | (intro _) | exact Nat.le_of_ble_eq_true rfl | exact Int.natCast_nonneg _ | (simp_all [allP];done))) ?_
    refine AL.guardT 12 24 true rfl rfl rfl rfl ?_
    refine AL.take 1 hX zaA rfl trivial ?_
    refine AL.guardT 9 21 false rfl rfl rfl rfl ?_
    refine AL.all hX zaA rfl (by repeat' (first | exact trivial | assumption | (refine⟨?_,?_⟩) | (intro _) | exact Nat.le_of_ble_eq_true rfl | exact Int.natCast_nonneg _ | (simp_all [allP];done))) ?_
    refine zaf rfl (fun hb=>?_) (fun hb=>?_)
    ·have hb:((zaj m1 2).1==0)=true:=hb
     rw [hb]
     (repeat (first | refine zae ?_ | refine zac ?_ | refine zab ?_ | refine zad ?_));refine zaa hX zaA rfl ?_ ?_
     ·trivial
     exact⟨⟨rfl,rfl,rfl,rfl,rfl,trivial⟩,⟨rfl,rfl,rfl,trivial⟩,rfl,rfl⟩
    ·have hb:((zaj m1 2).1==0)=false:=hb
     rw [hb]
     refine zac ?_
     exact⟨⟨rfl,rfl,rfl,rfl,rfl,trivial⟩,⟨rfl,rfl,rfl,trivial⟩,rfl,rfl⟩
   ·have h6b:(k==6)=false:=beq_false_of_ne h6
    have e:zcY k m1=(false,m1):=by unfold zcY;rw [if_neg h8,if_neg h6]
    rw [e]
    refine AL.fit (σ':=⟨(21,⟨.bool,false⟩)::(24,⟨.bool,false⟩)::(sLf m1 ids k (k,0,0,0,0,0,[],[],())).F,(sLf m1 ids k (k,0,0,0,0,0,[],[],())).E,3⟩) ⟨⟨rfl,zct h6b,rfl,rfl,rfl,rfl,rfl,trivial⟩,⟨rfl,rfl,rfl,trivial⟩,rfl,rfl⟩ ?_
    refine AL.guardF 12 24 true i64 0 rfl rfl rfl rfl rfl rfl ?_
    refine AL.guardF 12 24 true i64 0 rfl rfl rfl rfl rfl rfl ?_
    refine AL.guardF 12 24 true .bool false rfl rfl rfl rfl rfl rfl ?_
    refine AL.guardT 9 21 false rfl rfl rfl rfl ?_
    refine AL.all hX zaA rfl (by repeat' (first | exact trivial | assumption | (refine⟨?_,?_⟩) | (intro _) | exact Nat.le_of_ble_eq_true rfl | exact Int.natCast_nonneg _ | (simp_all [allP];done))) ?_
    refine zaf rfl (fun hb=>?_) (fun _=>?_)
    ·have hb:false=true:=hb
     cases hb
    refine zac ?_
    exact⟨⟨rfl,rfl,rfl,rfl,rfl,trivial⟩,⟨rfl,rfl,rfl,trivial⟩,rfl,rfl⟩
 have hm2:mkN (zcY k m1).2=mkN m∧0≤mkU (zcY k m1).2∧mkU (zcY k m1).2≤mkU m+2:=by
  unfold zcY
  split
  ·exact⟨hn1,b1,by show mkU m1≤_;omega⟩
  ·split
   ·exact⟨hn1,by show 0≤mkU (zaj m1 2).2;rw [zaU];omega,by show mkU (zaj m1 2).2≤_;rw [zaU];omega⟩
   ·exact⟨hn1,b1,by show mkU m1≤_;omega⟩
 have hk8:k=8->(zcY k m1).1=(mkN m==0):=fun h=>by
  rw [h]
  show (mkN m1==0)=(mkN m==0)
  rw [hn1]
 unfold zib at hR
 generalize zcY k m1=q at *
 obtain⟨b,m2⟩:=q
 obtain⟨n2,u2,u3⟩:mkN m2=mkN m∧0≤mkU m2∧mkU m2≤mkU m+2:=hm2
 have hk8:k=8->b=(mkN m==0):=hk8
 have hR:R=if k=8∧mkN m2 > 0 then ((18,0,0,0,0,0,[],[110]++deI (zaj m2 (mkN m2)).1,()),(zaj m2 (mkN m2)).2) else zgg (lfK k b) (zd2 (lfK k b) m2 ids).1 (zd2 (lfK k b) m2 ids).2:=hR
 show AWP _ _ _ _ _ (sLf m2 ids k (lfK k b,0,0,0,0,0,[],[],())) _
 have g1:mkU m2≤1000000:=by omega
 have g2:mkN m2≤1000000000:=by omega
 have hq:(bif (k==8) then decide (mkN m2 > 0) else false)=decide (k=8∧mkN m2 > 0):=by
  rw [zdb,Bool.eq_iff_iff,Bool.and_eq_true,decide_eq_true_iff,decide_eq_true_iff,beq_iff_eq]
 (repeat (first | refine zae ?_ | refine zac ?_ | refine zab ?_ | refine zad ?_));refine zaa hX zaA rfl ?_ ?_
 ·repeat' (first | exact trivial | assumption | (refine⟨?_,?_⟩) | (intro _) | exact Nat.le_of_ble_eq_true rfl | exact Int.natCast_nonneg _ | (simp_all [allP];done))
 refine zaf rfl (fun hc=>?_) (fun hc=>?_)
 ·have hc:=of_decide_eq_true (hq.symm.trans hc)
  rw [if_pos hc] at hR
  have hp2:=zaF m2 (n:=mkN m2) (by omega)
  have g3:0 < mkN m2:=hc.2
  have g4: -100000000000000000 < (zaj m2 (mkN m2)).1:=by omega
  have g5:(zaj m2 (mkN m2)).1 < 100000000000000000:=by omega
  have hl:(deI (zaj m2 (mkN m2)).1).length≤18:=zej (by omega) (by omega)
  have g6:1+(deI (zaj m2 (mkN m2)).1).length≤maxLen:=by unfold maxLen;omega
  (repeat (first | refine zae ?_ | refine zac ?_ | refine zab ?_ | refine zad ?_));refine zaa hX zaA rfl ?_ ?_
  ·trivial
  (repeat (first | refine zae ?_ | refine zac ?_ | refine zab ?_ | refine zad ?_));refine zaa hX zaA rfl ?_ ?_
  ·repeat' (first | exact trivial | assumption | exact u2 | exact g1 | exact g3 | exact g2 | exact g4 | exact g5 | exact g6 | (refine⟨?_,?_⟩) | (intro _) | exact Nat.le_of_ble_eq_true rfl | exact Int.natCast_nonneg _ | (simp_all [allP];done))
  (repeat (first | refine zae ?_ | refine zac ?_ | refine zab ?_ | refine zad ?_));refine zaa hX zaA rfl ?_ ?_
  ·trivial
  refine AWP.ret ⟨.inr rfl,?_,zax rfl trivial rfl rfl ?_⟩
  ·show some (OObj.box mkr (zaj m2 (mkN m2)).2)=some (OObj.box mkr (zc7 m ids).2)
   rw [<-hRR,hR]
  ·show (((18:Int),(0:Int),(0:Int),(0:Int),(0:Int),(0:Int),([]:List Int),[110]++deI (zaj m2 (mkN m2)).1,()):Nd)=(zc7 m ids).1
   rw [<-hRR,hR]
 have hc:=of_decide_eq_false (hq.symm.trans hc)
 rw [if_neg hc] at hR
 refine zac ?_
 have hk2:1≤lfK k b∧lfK k b≤7:=by
  unfold lfK
  cases b with
  | true=>exact⟨by show (1:Int)≤1;omega,by show (1:Int)≤7;omega⟩
  | false=>
   show 1≤k∧k≤7
   refine⟨hkr.1,?_⟩
   by_cases h8:k=8
   ·have hz:=hk8 h8
    have:mkN m≠0:=fun h=>by rw [h] at hz;cases hz
    exact absurd ⟨h8,by omega⟩ hc
   ·omega
 clear hk8 hq hc
 generalize lfK k b=c at *
 refine zae ?_
 refine AWP.viaQ (σ':=sLf (zd2 c m2 ids).2 ids k (c,(zd2 c m2 ids).1,0,0,0,0,[],[],())) ?_ ?_
 ·have hq:(bif (!(c==1)) then (!(c==5)) else false)=decide (c≠1∧c≠5):=by
   rw [zdb,Bool.eq_iff_iff,Bool.and_eq_true,decide_eq_true_iff,Bool.not_eq_true',Bool.not_eq_true',beq_eq_false_iff_ne,beq_eq_false_iff_ne]
  (repeat (first | refine zae ?_ | refine zac ?_ | refine zab ?_ | refine zad ?_));refine zaa hX zaA rfl ?_ ?_
  ·repeat' (first | exact trivial | assumption | (refine⟨?_,?_⟩) | (intro _) | exact Nat.le_of_ble_eq_true rfl | exact Int.natCast_nonneg _ | (simp_all [allP];done))
  refine zaf rfl (fun hc=>?_) (fun hc=>?_)
  ·have hc:=of_decide_eq_true (hq.symm.trans hc)
   have e:zd2 c m2 ids=zaj m2 ids:=if_pos hc
   have h6:ids≤1000000000:=by omega
   (repeat (first | refine zae ?_ | refine zac ?_ | refine zab ?_ | refine zad ?_));refine zaa hX zaA rfl ?_ ?_
   ·repeat' (first | exact trivial | assumption | exact u2 | exact g1 | exact h4 | exact h6 | (refine⟨?_,?_⟩) | (intro _) | exact Nat.le_of_ble_eq_true rfl | exact Int.natCast_nonneg _ | (simp_all [allP];done))
   rw [e]
   exact⟨⟨rfl,rfl,rfl,rfl,rfl,trivial⟩,⟨rfl,rfl,rfl,trivial⟩,rfl,rfl⟩
  ·have hc:=of_decide_eq_false (hq.symm.trans hc)
   have e:zd2 c m2 ids=(0,m2):=if_neg hc
   refine zac ?_
   rw [e]
   exact⟨⟨rfl,rfl,rfl,rfl,rfl,trivial⟩,⟨rfl,rfl,rfl,trivial⟩,rfl,rfl⟩
 have hm3:0≤mkU (zd2 c m2 ids).2∧mkU (zd2 c m2 ids).2≤mkU m+3:=by
  unfold zd2
  split
  ·rw [zaU]
   omega
  ·exact⟨u2,by show mkU m2≤_;omega⟩
 generalize zd2 c m2 ids=q at *
 obtain⟨(cy:Int),(m3:Mk)⟩:=q
 obtain⟨w1,w2⟩:0≤mkU m3∧mkU m3≤mkU m+3:=hm3
 have hR:R=zgg c cy m3:=hR
 show AWP _ _ _ _ _ (sLf m3 ids k (c,cy,0,0,0,0,[],[],())) _
 have w3:mkU m3≤1000000:=by omega
 have w4:mkU m3≤900000:=by omega
 (repeat (first | refine zae ?_ | refine zac ?_ | refine zab ?_ | refine zad ?_));refine zaa hX zaA rfl ?_ ?_
 ·trivial
 refine AWP.viaQ (σ':=sLf R.2 ids k R.1) ?_ ?_
 ·refine zab ?_
  rcases (show c=1∨c=2∨c=3∨c=4∨c=5∨c=6∨c=7 by omega) with rfl | rfl | rfl | rfl | rfl | rfl | rfl
  ·skip
   (repeat (first | refine zae ?_ | refine zac ?_ | refine zab ?_ | refine zad ?_));refine zaa hX zaA rfl ?_ ?_
   ·trivial
   refine zaf rfl (fun _=>?_) (fun hb=>absurd (show ((1:Int)==1)=false from hb) (by decide))
   have hp:=zaF m3 (n:=12) (by decide)
   have z1:inR .i64 (1+(zaj m3 12).1):=zao (by omega) (by omega)
   have z2:0≤mkU (zaj m3 12).2:=by rw [zaU];omega
   have z3:mkU (zaj m3 12).2≤1000000:=by rw [zaU];omega
   (repeat (first | refine zae ?_ | refine zac ?_ | refine zab ?_ | refine zad ?_));refine zaa hX zaA rfl ?_ ?_
   ·repeat' (first | exact trivial | assumption | exact w1 | exact w3 | exact z1 | (refine⟨?_,?_⟩) | (intro _) | exact Nat.le_of_ble_eq_true rfl | exact Int.natCast_nonneg _ | (simp_all [allP];done))
   (repeat (first | refine zae ?_ | refine zac ?_ | refine zab ?_ | refine zad ?_));refine zaa hX zaA rfl ?_ ?_
   ·repeat' (first | exact trivial | assumption | exact z2 | exact z3 | (refine⟨?_,?_⟩) | (intro _) | exact Nat.le_of_ble_eq_true rfl | exact Int.natCast_nonneg _ | (simp_all [allP];done))
   rw [hR]
   exact⟨⟨rfl,rfl,rfl,rfl,rfl,trivial⟩,⟨rfl,rfl,rfl,trivial⟩,rfl,rfl⟩
  ·have hp4:=zaF m3 (n:=4) (by decide)
   (repeat (first | refine zae ?_ | refine zac ?_ | refine zab ?_ | refine zad ?_));refine zaa hX zaA rfl ?_ ?_
   ·trivial
   refine zaf rfl (fun hb=>absurd (show ((2:Int)==1)=true from hb) (by decide)) (fun _=>?_)
   (repeat (first | refine zae ?_ | refine zac ?_ | refine zab ?_ | refine zad ?_));refine zaa hX zaA rfl ?_ ?_
   ·trivial
   refine zaf rfl (fun _=>?_) (fun hb=>absurd (show ((2:Int)==2)=false from hb) (by decide))
   have z1:inR .i64 (1+(zaj m3 4).1):=zao (by omega) (by omega)
   have z2:0≤mkU (zaj m3 4).2:=by rw [zaU];omega
   have z3:mkU (zaj m3 4).2≤1000000:=by rw [zaU];omega
   have z4:0 < 1+(zaj m3 4).1:=by omega
   have z5:1+(zaj m3 4).1≤1000000000:=by omega
   (repeat (first | refine zae ?_ | refine zac ?_ | refine zab ?_ | refine zad ?_));refine zaa hX zaA rfl ?_ ?_
   ·repeat' (first | exact trivial | assumption | exact w1 | exact w3 | exact z1 | (refine⟨?_,?_⟩) | (intro _) | exact Nat.le_of_ble_eq_true rfl | exact Int.natCast_nonneg _ | (simp_all [allP];done))
   (repeat (first | refine zae ?_ | refine zac ?_ | refine zab ?_ | refine zad ?_));refine zaa hX zaA rfl ?_ ?_
   ·repeat' (first | exact trivial | assumption | exact z2 | exact z3 | exact z4 | exact z5 | (refine⟨?_,?_⟩) | (intro _) | exact Nat.le_of_ble_eq_true rfl | exact Int.natCast_nonneg _ | (simp_all [allP];done))
   rw [hR]
   exact⟨⟨rfl,rfl,rfl,rfl,rfl,trivial⟩,⟨rfl,rfl,rfl,trivial⟩,rfl,rfl⟩
  ·skip
   (repeat (first | refine zae ?_ | refine zac ?_ | refine zab ?_ | refine zad ?_));refine zaa hX zaA rfl ?_ ?_
   ·trivial
   refine zaf rfl (fun hb=>absurd (show ((3:Int)==1)=true from hb) (by decide)) (fun _=>?_)
   (repeat (first | refine zae ?_ | refine zac ?_ | refine zab ?_ | refine zad ?_));refine zaa hX zaA rfl ?_ ?_
   ·trivial
   refine zaf rfl (fun hb=>absurd (show ((3:Int)==2)=true from hb) (by decide)) (fun _=>?_)
   (repeat (first | refine zae ?_ | refine zac ?_ | refine zab ?_ | refine zad ?_));refine zaa hX zaA rfl ?_ ?_
   ·trivial
   refine zaf rfl (fun _=>?_) (fun hb=>absurd (show ((3:Int)==3)=false from hb) (by decide))
   (repeat (first | refine zae ?_ | refine zac ?_ | refine zab ?_ | refine zad ?_));refine zaa hX zaA rfl ?_ ?_
   ·repeat' (first | exact trivial | assumption | exact w1 | exact w4 | (refine⟨?_,?_⟩) | (intro _) | exact Nat.le_of_ble_eq_true rfl | exact Int.natCast_nonneg _ | (simp_all [allP];done))
   rw [hR]
   exact⟨⟨rfl,rfl,rfl,rfl,rfl,trivial⟩,⟨rfl,rfl,rfl,trivial⟩,rfl,rfl⟩
  ·skip
   (repeat (first | refine zae ?_ | refine zac ?_ | refine zab ?_ | refine zad ?_));refine zaa hX zaA rfl ?_ ?_
   ·trivial
   refine zaf rfl (fun hb=>absurd (show ((4:Int)==1)=true from hb) (by decide)) (fun _=>?_)
   (repeat (first | refine zae ?_ | refine zac ?_ | refine zab ?_ | refine zad ?_));refine zaa hX zaA rfl ?_ ?_
   ·trivial
   refine zaf rfl (fun hb=>absurd (show ((4:Int)==2)=true from hb) (by decide)) (fun _=>?_)
   (repeat (first | refine zae ?_ | refine zac ?_ | refine zab ?_ | refine zad ?_));refine zaa hX zaA rfl ?_ ?_
   ·trivial
   refine zaf rfl (fun hb=>absurd (show ((4:Int)==3)=true from hb) (by decide)) (fun _=>?_)
   (repeat (first | refine zae ?_ | refine zac ?_ | refine zab ?_ | refine zad ?_));refine zaa hX zaA rfl ?_ ?_
   ·trivial
   refine zaf rfl (fun _=>?_) (fun hb=>absurd (show ((4:Int)==4)=false from hb) (by decide))
   (repeat (first | refine zae ?_ | refine zac ?_ | refine zab ?_ | refine zad ?_));refine zaa hX zaA rfl ?_ ?_
   ·repeat' (first | exact trivial | assumption | exact w1 | exact w4 | (refine⟨?_,?_⟩) | (intro _) | exact Nat.le_of_ble_eq_true rfl | exact Int.natCast_nonneg _ | (simp_all [allP];done))
   rw [hR]
   exact⟨⟨rfl,rfl,rfl,rfl,rfl,trivial⟩,⟨rfl,rfl,rfl,trivial⟩,rfl,rfl⟩
  ·skip
   (repeat (first | refine zae ?_ | refine zac ?_ | refine zab ?_ | refine zad ?_));refine zaa hX zaA rfl ?_ ?_
   ·trivial
   refine zaf rfl (fun hb=>absurd (show ((5:Int)==1)=true from hb) (by decide)) (fun _=>?_)
   (repeat (first | refine zae ?_ | refine zac ?_ | refine zab ?_ | refine zad ?_));refine zaa hX zaA rfl ?_ ?_
   ·trivial
   refine zaf rfl (fun hb=>absurd (show ((5:Int)==2)=true from hb) (by decide)) (fun _=>?_)
   (repeat (first | refine zae ?_ | refine zac ?_ | refine zab ?_ | refine zad ?_));refine zaa hX zaA rfl ?_ ?_
   ·trivial
   refine zaf rfl (fun hb=>absurd (show ((5:Int)==3)=true from hb) (by decide)) (fun _=>?_)
   (repeat (first | refine zae ?_ | refine zac ?_ | refine zab ?_ | refine zad ?_));refine zaa hX zaA rfl ?_ ?_
   ·trivial
   refine zaf rfl (fun hb=>absurd (show ((5:Int)==4)=true from hb) (by decide)) (fun _=>?_)
   (repeat (first | refine zae ?_ | refine zac ?_ | refine zab ?_ | refine zad ?_));refine zaa hX zaA rfl ?_ ?_
   ·trivial
   refine zaf rfl (fun _=>?_) (fun hb=>absurd (show ((5:Int)==5)=false from hb) (by decide))
   (repeat (first | refine zae ?_ | refine zac ?_ | refine zab ?_ | refine zad ?_));refine zaa hX zaA rfl ?_ ?_
   ·repeat' (first | exact trivial | assumption | exact w1 | exact w4 | (refine⟨?_,?_⟩) | (intro _) | exact Nat.le_of_ble_eq_true rfl | exact Int.natCast_nonneg _ | (simp_all [allP];done))
   rw [hR]
   exact⟨⟨rfl,rfl,rfl,rfl,rfl,trivial⟩,⟨rfl,rfl,rfl,trivial⟩,rfl,rfl⟩
  ·skip
   (repeat (first | refine zae ?_ | refine zac ?_ | refine zab ?_ | refine zad ?_));refine zaa hX zaA rfl ?_ ?_
   ·trivial
   refine zaf rfl (fun hb=>absurd (show ((6:Int)==1)=true from hb) (by decide)) (fun _=>?_)
   (repeat (first | refine zae ?_ | refine zac ?_ | refine zab ?_ | refine zad ?_));refine zaa hX zaA rfl ?_ ?_
   ·trivial
   refine zaf rfl (fun hb=>absurd (show ((6:Int)==2)=true from hb) (by decide)) (fun _=>?_)
   (repeat (first | refine zae ?_ | refine zac ?_ | refine zab ?_ | refine zad ?_));refine zaa hX zaA rfl ?_ ?_
   ·trivial
   refine zaf rfl (fun hb=>absurd (show ((6:Int)==3)=true from hb) (by decide)) (fun _=>?_)
   (repeat (first | refine zae ?_ | refine zac ?_ | refine zab ?_ | refine zad ?_));refine zaa hX zaA rfl ?_ ?_
   ·trivial
   refine zaf rfl (fun hb=>absurd (show ((6:Int)==4)=true from hb) (by decide)) (fun _=>?_)
   (repeat (first | refine zae ?_ | refine zac ?_ | refine zab ?_ | refine zad ?_));refine zaa hX zaA rfl ?_ ?_
   ·trivial
   refine zaf rfl (fun hb=>absurd (show ((6:Int)==5)=true from hb) (by decide)) (fun _=>?_)
   (repeat (first | refine zae ?_ | refine zac ?_ | refine zab ?_ | refine zad ?_));refine zaa hX zaA rfl ?_ ?_
   ·trivial
   refine zaf rfl (fun _=>?_) (fun hb=>absurd (show ((6:Int)==6)=false from hb) (by decide))
   (repeat (first | refine zae ?_ | refine zac ?_ | refine zab ?_ | refine zad ?_));refine zaa hX zaA rfl ?_ ?_
   ·repeat' (first | exact trivial | assumption | exact w1 | exact w4 | (refine⟨?_,?_⟩) | (intro _) | exact Nat.le_of_ble_eq_true rfl | exact Int.natCast_nonneg _ | (simp_all [allP];done))
   rw [hR]
   exact⟨⟨rfl,rfl,rfl,rfl,rfl,trivial⟩,⟨rfl,rfl,rfl,trivial⟩,rfl,rfl⟩
  ·skip
   (repeat (first | refine zae ?_ | refine zac ?_ | refine zab ?_ | refine zad ?_));refine zaa hX zaA rfl ?_ ?_
   ·trivial
   refine zaf rfl (fun hb=>absurd (show ((7:Int)==1)=true from hb) (by decide)) (fun _=>?_)
   (repeat (first | refine zae ?_ | refine zac ?_ | refine zab ?_ | refine zad ?_));refine zaa hX zaA rfl ?_ ?_
   ·trivial
   refine zaf rfl (fun hb=>absurd (show ((7:Int)==2)=true from hb) (by decide)) (fun _=>?_)
   (repeat (first | refine zae ?_ | refine zac ?_ | refine zab ?_ | refine zad ?_));refine zaa hX zaA rfl ?_ ?_
   ·trivial
   refine zaf rfl (fun hb=>absurd (show ((7:Int)==3)=true from hb) (by decide)) (fun _=>?_)
   (repeat (first | refine zae ?_ | refine zac ?_ | refine zab ?_ | refine zad ?_));refine zaa hX zaA rfl ?_ ?_
   ·trivial
   refine zaf rfl (fun hb=>absurd (show ((7:Int)==4)=true from hb) (by decide)) (fun _=>?_)
   (repeat (first | refine zae ?_ | refine zac ?_ | refine zab ?_ | refine zad ?_));refine zaa hX zaA rfl ?_ ?_
   ·trivial
   refine zaf rfl (fun hb=>absurd (show ((7:Int)==5)=true from hb) (by decide)) (fun _=>?_)
   (repeat (first | refine zae ?_ | refine zac ?_ | refine zab ?_ | refine zad ?_));refine zaa hX zaA rfl ?_ ?_
   ·trivial
   refine zaf rfl (fun hb=>absurd (show ((7:Int)==6)=true from hb) (by decide)) (fun _=>?_)
   have hp:=zaF m3 (n:=3) (by decide)
   have z1:inR .i64 (1+(zaj m3 3).1):=zao (by omega) (by omega)
   have z2:0≤mkU (zaj m3 3).2:=by rw [zaU];omega
   have z3:mkU (zaj m3 3).2≤1000000:=by rw [zaU];omega
   (repeat (first | refine zae ?_ | refine zac ?_ | refine zab ?_ | refine zad ?_));refine zaa hX zaA rfl ?_ ?_
   ·repeat' (first | exact trivial | assumption | exact w1 | exact w3 | exact z1 | (refine⟨?_,?_⟩) | (intro _) | exact Nat.le_of_ble_eq_true rfl | exact Int.natCast_nonneg _ | (simp_all [allP];done))
   have z4:0≤mkU (zaj (zaj m3 3).2 2).2:=by rw [zaU,zaU];omega
   have z5:mkU (zaj (zaj m3 3).2 2).2≤1000000:=by rw [zaU,zaU];omega
   have z6:0≤mkU (zaj (zaj (zaj m3 3).2 2).2 7).2:=by rw [zaU,zaU,zaU];omega
   have z7:mkU (zaj (zaj (zaj m3 3).2 2).2 7).2≤1000000:=by rw [zaU,zaU,zaU];omega
   have z8:inR .i64 (-(1+(zaj m3 3).1)):=zao (by omega) (by omega)
   have hR:R=((7,cy,(zaj (zaj (zaj (zaj m3 3).2 2).2 7).2 2).1,0,(if (zaj (zaj m3 3).2 2).1=1 then -(1+(zaj m3 3).1) else 1+(zaj m3 3).1),(zaj (zaj (zaj m3 3).2 2).2 7).1,[],[],()),(zaj (zaj (zaj (zaj m3 3).2 2).2 7).2 2).2):=hR
   (repeat (first | refine zae ?_ | refine zac ?_ | refine zab ?_ | refine zad ?_));refine zaa hX zaA rfl ?_ ?_
   ·repeat' (first | exact trivial | assumption | exact z2 | exact z3 | (refine⟨?_,?_⟩) | (intro _) | exact Nat.le_of_ble_eq_true rfl | exact Int.natCast_nonneg _ | (simp_all [allP];done))
   refine zaf rfl (fun hb=>?_) (fun hb=>?_)
   ·have hb:((zaj (zaj m3 3).2 2).1==1)=true:=hb
    rw [if_pos (eq_of_beq hb)] at hR
    (repeat (first | refine zae ?_ | refine zac ?_ | refine zab ?_ | refine zad ?_));refine zaa hX zaA rfl ?_ ?_
    ·exact z8
    (repeat (first | refine zae ?_ | refine zac ?_ | refine zab ?_ | refine zad ?_));refine zaa hX zaA rfl ?_ ?_
    ·repeat' (first | exact trivial | assumption | exact z4 | exact z5 | (refine⟨?_,?_⟩) | (intro _) | exact Nat.le_of_ble_eq_true rfl | exact Int.natCast_nonneg _ | (simp_all [allP];done))
    (repeat (first | refine zae ?_ | refine zac ?_ | refine zab ?_ | refine zad ?_));refine zaa hX zaA rfl ?_ ?_
    ·repeat' (first | exact trivial | assumption | exact z6 | exact z7 | (refine⟨?_,?_⟩) | (intro _) | exact Nat.le_of_ble_eq_true rfl | exact Int.natCast_nonneg _ | (simp_all [allP];done))
    rw [hR]
    exact⟨⟨rfl,rfl,rfl,rfl,rfl,trivial⟩,⟨rfl,rfl,rfl,trivial⟩,rfl,rfl⟩
   ·have hb:((zaj (zaj m3 3).2 2).1==1)=false:=hb
    rw [if_neg (by simpa using hb)] at hR
    refine zac ?_
    (repeat (first | refine zae ?_ | refine zac ?_ | refine zab ?_ | refine zad ?_));refine zaa hX zaA rfl ?_ ?_
    ·repeat' (first | exact trivial | assumption | exact z4 | exact z5 | (refine⟨?_,?_⟩) | (intro _) | exact Nat.le_of_ble_eq_true rfl | exact Int.natCast_nonneg _ | (simp_all [allP];done))
    (repeat (first | refine zae ?_ | refine zac ?_ | refine zab ?_ | refine zad ?_));refine zaa hX zaA rfl ?_ ?_
    ·repeat' (first | exact trivial | assumption | exact z6 | exact z7 | (refine⟨?_,?_⟩) | (intro _) | exact Nat.le_of_ble_eq_true rfl | exact Int.natCast_nonneg _ | (simp_all [allP];done))
    rw [hR]
    exact⟨⟨rfl,rfl,rfl,rfl,rfl,trivial⟩,⟨rfl,rfl,rfl,trivial⟩,rfl,rfl⟩
 show AWP _ _ _ _ _ (sLf R.2 ids k R.1) _
 (repeat (first | refine zae ?_ | refine zac ?_ | refine zab ?_ | refine zad ?_));refine zaa hX zaA rfl ?_ ?_
 ·trivial
 refine AWP.ret ⟨.inr rfl,?_,zax rfl trivial rfl rfl ?_⟩
 ·show some (OObj.box mkr R.2)=some (OObj.box mkr (zc7 m ids).2)
  rw [<-hRR]
 ·show R.1=(zc7 m ids).1
  rw [<-hRR]
def TrSh:Tr->Prop
 | .leaf n=>¬ (8≤ndK n∧ndK n≤17)∧(0≤ndL n∧ndL n≤1)∧ndR n=0
 | .un n a=>(11≤ndK n∧ndK n≤16)∧ndR n=0∧TrSh a
 | .bin n a b=>((8≤ndK n∧ndK n≤10)∨ndK n=17)∧TrSh a∧TrSh b
theorem zdO:∀ t:Tr,1≤t.size
 | .leaf _=>Nat.le_refl _
 | .un _ a=>by have:=zdO a;rw [Tr.size];omega
 | .bin _ a b=>by have:=zdO a;rw [Tr.size];omega
theorem ze6 {k:Int}:two k=true↔(8≤k∧k≤10)∨k=17:=by
 unfold two
 rw [Bool.or_eq_true,Bool.or_eq_true,Bool.or_eq_true,beq_iff_eq,beq_iff_eq,beq_iff_eq,beq_iff_eq]
 omega
theorem zkM {n:Nd} {b:Int} (h:¬ (8≤ndK n∧ndK n≤17)):zcq b n=n:=by
 obtain⟨k,c,L,R,rest⟩:=n
 have h:¬ (8≤k∧k≤17):=h
 have h2:¬ two k=true:=by rw [ze6];omega
 unfold zcq
 rw [if_neg h,if_neg h2]
theorem zoa {n:Nd} {b x:Int} (h:11≤ndK n∧ndK n≤16):zcq b (setL n x)=setL n (x+b):=by
 obtain⟨k,c,L,R,rest⟩:=n
 have h:11≤k∧k≤16:=h
 have h1:8≤k∧k≤17:=by omega
 have h2:¬ two k=true:=by rw [ze6];omega
 show (k,c,(if 8≤k∧k≤17 then x+b else x),(if two k then R+b else R),rest)=(k,c,x+b,R,rest)
 rw [if_pos h1,if_neg h2]
theorem zmR {n:Nd} {b x y:Int} (h:(8≤ndK n∧ndK n≤10)∨ndK n=17):zcq b (zca n x y)=zca n (x+b) (y+b):=by
 obtain⟨k,c,L,R,rest⟩:=n
 have h:(8≤k∧k≤10)∨k=17:=h
 have h1:8≤k∧k≤17:=by omega
 have h2:two k=true:=ze6.2 h
 show (k,c,(if 8≤k∧k≤17 then x+b else x),(if two k then y+b else y),rest)=(k,c,x+b,y+b,rest)
 rw [if_pos h1,if_pos h2]
theorem zew:∀ (t:Tr) (i j:Nat),TrSh t->zdY (t.flat i) (j:Int)=t.flat (i+j)
 | .leaf n,i,j,h=>by
  rw [Tr.flat,Tr.flat]
  show [zcq _ n]=_
  rw [zkM h.1]
 | .un n a,i,j,h=>by
  rw [Tr.flat,Tr.flat]
  unfold zdY
  rw [List.map_append]
  have:=zew a i j h.2.2
  unfold zdY at this
  rw [this]
  show _++ [zcq _ _]=_
  rw [zoa h.1]
  congr 3
  have:=zdO a
  omega
 | .bin n a b,i,j,h=>by
  rw [Tr.flat,Tr.flat]
  unfold zdY
  rw [List.map_append,List.map_append]
  have ha:=zew a i j h.2.1
  have hb:=zew b (i+a.size) j h.2.2
  unfold zdY at ha hb
  rw [ha,hb,show i+a.size+j=i+j+a.size by omega]
  show _++ [zcq _ _]=_
  rw [zmR h.1]
  have:=zdO a
  have:=zdO b
  rw [show ((i+a.size:Nat):Int) - 1+(j:Int)=((i+j+a.size:Nat):Int) - 1 by omega,show ((i+a.size+b.size:Nat):Int) - 1+(j:Int)=((i+j+a.size+b.size:Nat):Int) - 1 by omega]
theorem zn3 (a:Tr) (n:Nd):zp6 (a.flat 0) n=(Tr.un n a).flat 0:=by
 rw [Tr.flat]
 unfold zp6
 rw [Tr.len_flat,Nat.zero_add]
theorem zpk (a b:Tr) (n:Nd) (h:TrSh b):zqX (a.flat 0) (b.flat 0) n=(Tr.bin n a b).flat 0:=by
 rw [Tr.flat]
 unfold zqX
 rw [Tr.len_flat,Tr.len_flat,zew b 0 a.size h,Nat.zero_add]
 congr 3
theorem ziZ:∀ (t:Tr) (i:Nat),TrSh t->∀ n∈t.flat i,(0≤ndL n∧ndL n≤i+t.size)∧(0≤ndR n∧ndR n≤i+t.size)
 | .leaf n,i,h,x,hx=>by
  obtain rfl:=List.mem_singleton.1 hx
  obtain⟨_,⟨h1,h2⟩,h3⟩:=h
  rw [Tr.size]
  exact⟨⟨h1,by omega⟩,⟨by omega,by omega⟩⟩
 | .un n a,i,h,x,hx=>by
  rw [Tr.flat] at hx
  rw [Tr.size]
  have hs:=zdO a
  rcases List.mem_append.1 hx with hx | hx
  ·have:=ziZ a i h.2.2 x hx
   omega
  ·obtain rfl:=List.mem_singleton.1 hx
   have hr:ndR n=0:=h.2.1
   show (0≤((i+a.size:Nat):Int) - 1∧((i+a.size:Nat):Int) - 1≤_)∧(0≤ndR n∧ndR n≤_)
   omega
 | .bin n a b,i,h,x,hx=>by
  rw [Tr.flat] at hx
  rw [Tr.size]
  have hs:=zdO a
  have ht:=zdO b
  rcases List.mem_append.1 hx with hx | hx
  ·rcases List.mem_append.1 hx with hx | hx
   ·have:=ziZ a i h.2.1 x hx
    omega
   ·have:=ziZ b (i+a.size) h.2.2 x hx
    omega
  ·obtain rfl:=List.mem_singleton.1 hx
   show (0≤((i+a.size:Nat):Int) - 1∧((i+a.size:Nat):Int) - 1≤_)∧(0≤((i+a.size+b.size:Nat):Int) - 1∧((i+a.size+b.size:Nat):Int) - 1≤_)
   omega
def zaE (m:Mk):Mk:=(mkD m,mkU m,mkN m,mkS m+1,())
def zfP (d:Nat) (p:Int×Mk):Bool:=decide (d=0)||decide (mkU p.2 > (((mkD p.2).length:Nat):Int))||decide (mkS p.2 > 30)||decide (10≤p.1)
def mOne (k ids:Int) (m:Mk):Nd×Mk:=
 if k=11 then ((k,0,0,0,(zaj m 15).1 - 7,0,[],[],()),(zaj m 15).2)
 else if k=12∨k=13 then ((k,0,0,0,(zaj m 60).1,0,[],[],()),(zaj m 60).2)
 else if k=14∨k=15 then ((k,0,0,0,0,0,(zaI m 0 60).1,[],()),(zaI m 0 60).2)
 else let p:=zaj m ids;let q:=zaj p.2 2;let r:=zaI q.2 (-3) 3;((k,p.1,0,0,0,q.1,r.1,[],()),r.2)
def mCnt (k:Int) (m:Mk):Int×Mk:=if k=17 then (1+(zaj m 3).1,(zaj m 3).2) else (0,m)
def mTr (ids:Int):Nat->Mk->Tr×Mk
 | 0,m=>(.leaf (zc7 (zaj (zaE m) 14).2 ids).1,(zc7 (zaj (zaE m) 14).2 ids).2)
 | d+1,m=>
  let p:=zaj (zaE m) 14
  if zfP (d+1) p=true then (.leaf (zc7 p.2 ids).1,(zc7 p.2 ids).2)
  else
   let a:=mTr ids d p.2
   if two (8+p.1)=true then
    let c:=mCnt (8+p.1) a.2
    let b:=mTr ids d c.2
    (.bin (8+p.1,0,0,0,c.1,0,[],[],()) a.1 b.1,b.2)
   else (.un (mOne (8+p.1) ids a.2).1 a.1,(mOne (8+p.1) ids a.2).2)
def MkLe (c:Nat) (m r:Mk):Prop:=mkN r=mkN m∧mkS r=mkS m∧mkD r=mkD m∧mkU m≤mkU r∧mkU r≤mkU m+(c:Int)
theorem MkLe.trans {a b:Nat} {m r s:Mk} (h1:MkLe a m r) (h2:MkLe b r s):MkLe (a+b) m s:=by
 obtain⟨x1,x2,x3,x4,x5⟩:=h1
 obtain⟨y1,y2,y3,y4,y5⟩:=h2
 exact⟨y1.trans x1,y2.trans x2,y3.trans x3,by omega,by omega⟩
theorem MkLe.mono {a b:Nat} {m r:Mk} (h:MkLe a m r) (hab:a≤b):MkLe b m r:=by
 obtain⟨x1,x2,x3,x4,x5⟩:=h
 exact⟨x1,x2,x3,x4,by omega⟩
theorem MkLe.refl (m:Mk):MkLe 0 m m:=⟨rfl,rfl,rfl,Int.le_refl _,by omega⟩
theorem zbj (m:Mk) (n:Int):MkLe 1 m (zaj m n).2:=⟨rfl,rfl,rfl,by rw [zaU];omega,by rw [zaU];omega⟩
theorem zrb (lo hi:Int):∀ (k:Nat) (m:Mk) (v:Int) (acc:List Int),MkLe k m (mRis lo hi k m v acc).2
 | 0,m,_,_=>MkLe.refl m
 | k+1,m,v,acc=>by
  rw [mRis]
  split
  ·exact ((zbj m 3).trans (zrb lo hi k _ _ _)).mono (by omega)
  ·exact (MkLe.refl m).mono (by omega)
theorem zdC (m:Mk) (lo hi:Int):MkLe 6 m (zaI m lo hi).2:=by
 have h:=zaF m (n:=4) (by decide)
 have h3:=zrb lo hi (1+(zaj m 4).1).toNat (zaj (zaj m 4).2 (hi - lo+1)).2 (lo+(zaj (zaj m 4).2 (hi - lo+1)).1) []
 exact (((zbj m 4).trans (zbj _ _)).trans h3).mono (by omega)
theorem zr2 (k c:Int) (m:Mk):MkLe 6 m (zgg k c m).2:=by
 unfold zgg
 split
 ·exact ((zbj m 12).trans (zbj _ 20)).mono (by omega)
 split
 ·exact ((zbj m 4).trans (zbj _ (1+(zaj m 4).1))).mono (by omega)
 split
 ·exact zdC _ _ _
 split
 ·exact zdC _ _ _
 split
 ·exact zdC _ _ _
 split
 ·exact zdC _ _ _
 ·exact ((((zbj m 3).trans (zbj _ 2)).trans (zbj _ 7)).trans (zbj _ 2)).mono (by omega)
theorem zq6 (k:Int) (m:Mk):MkLe 1 m (zcY k m).2:=by
 unfold zcY
 split
 ·exact (MkLe.refl m).mono (by omega)
 split
 ·exact zbj m 2
 ·exact (MkLe.refl m).mono (by omega)
theorem cyc_le (k:Int) (m:Mk) (ids:Int):MkLe 1 m (zd2 k m ids).2:=by
 unfold zd2
 split
 ·exact zbj m ids
 ·exact (MkLe.refl m).mono (by omega)
theorem zox (m:Mk) (ids:Int):MkLe 9 m (zc7 m ids).2:=by
 unfold zc7 zib
 have h1:=(zbj m 8).trans (zq6 (1+(zaj m 8).1) (zaj m 8).2)
 dsimp only
 split
 ·exact (h1.trans (zbj _ (mkN (zcY (1+(zaj m 8).1) (zaj m 8).2).2))).mono (by omega)
 ·exact ((h1.trans (cyc_le _ _ _)).trans (zr2 _ _ _)).mono (by omega)
theorem one_le (k ids:Int) (m:Mk):MkLe 8 m (mOne k ids m).2:=by
 unfold mOne
 split
 ·exact (zbj m 15).mono (by omega)
 split
 ·exact (zbj m 60).mono (by omega)
 split
 ·exact (zdC m 0 60).mono (by omega)
 ·exact (((zbj m ids).trans (zbj _ 2)).trans (zdC _ _ _)).mono (by omega)
theorem zl6 (k:Int) (m:Mk):MkLe 1 m (mCnt k m).2:=by
 unfold mCnt
 split
 ·exact zbj m 3
 ·exact (MkLe.refl m).mono (by omega)
def MkGe (c e:Nat) (m r:Mk):Prop:=mkN r=mkN m∧mkD r=mkD m∧(mkS m≤mkS r∧mkS r≤mkS m+(e:Int))∧mkU m≤mkU r∧mkU r≤mkU m+(c:Int)
theorem MkGe.trans {a b e f:Nat} {m r s:Mk} (h1:MkGe a e m r) (h2:MkGe b f r s):MkGe (a+b) (e+f) m s:=by
 obtain⟨x1,x2,⟨x3,x6⟩,x4,x5⟩:=h1
 obtain⟨y1,y2,⟨y3,y6⟩,y4,y5⟩:=h2
 exact⟨y1.trans x1,y2.trans x2,⟨by omega,by omega⟩,by omega,by omega⟩
theorem MkLe.ge {a:Nat} {m r:Mk} (h:MkLe a m r):MkGe a 0 m r:=by
 obtain⟨x1,x2,x3,x4,x5⟩:=h
 exact⟨x1,x3,⟨by omega,by omega⟩,x4,x5⟩
theorem MkGe.mono {a b e f:Nat} {m r:Mk} (h:MkGe a e m r) (hab:a≤b) (hef:e≤f):MkGe b f m r:=by
 obtain⟨x1,x2,⟨x3,x6⟩,x4,x5⟩:=h
 exact⟨x1,x2,⟨by omega,by omega⟩,x4,by omega⟩
theorem zkW (m:Mk):MkGe 0 1 m (zaE m):=⟨rfl,rfl,⟨by show mkS m≤mkS m+1;omega,by show mkS m+1≤_;omega⟩,Int.le_refl _,by show mkU m≤_;omega⟩
def mMax:Nat->Nat
 | 0=>1
 | d+1=>2 * mMax d+1
theorem zjM (ids:Int):∀ (d:Nat) (m:Mk),MkGe (20 * mMax d) (mMax d) m (mTr ids d m).2
 | 0,m=>(((zkW m).trans (zbj _ 14).ge).trans (zox _ _).ge).mono (by decide) (by decide)
 | d+1,m=>by
  have h0:=(zkW m).trans (zbj (zaE m) 14).ge
  have hM:mMax (d+1)=2 * mMax d+1:=rfl
  rw [mTr]
  dsimp only
  split
  ·exact (h0.trans (zox _ _).ge).mono (by omega) (by omega)
  have ha:=zjM ids d (zaj (zaE m) 14).2
  split
  ·exact (((h0.trans ha).trans (zl6 _ _).ge).trans (zjM ids d _)).mono (by omega) (by omega)
  ·exact ((h0.trans ha).trans (one_le _ _ _).ge).mono (by omega) (by omega)
theorem zfk (ids:Int):∀ (d:Nat) (m:Mk),(mTr ids d m).1.size≤mMax d
 | 0,m=>Nat.le_refl _
 | d+1,m=>by
  have hM:mMax (d+1)=2 * mMax d+1:=rfl
  rw [mTr]
  dsimp only
  split
  ·rw [Tr.size];omega
  have ha:=zfk ids d (zaj (zaE m) 14).2
  split
  ·rw [Tr.size]
   have hb:=zfk ids d (mCnt (8+(zaj (zaE m) 14).1) (mTr ids d (zaj (zaE m) 14).2).2).2
   omega
  ·rw [Tr.size];omega
theorem zri {k:Int} {m:Mk} (hn:0≤mkN m) (hk:1≤k∧k≤8) (hc:¬ (k=8∧mkN (zcY k m).2 > 0)):1≤lfK k (zcY k m).1∧lfK k (zcY k m).1≤7:=by
 unfold zcY at hc ⊢
 by_cases h8:k=8
 ·rw [if_pos h8] at hc ⊢
  have hz:mkN m=0:=by
   by_cases hz:mkN m=0
   ·exact hz
   ·exact absurd ⟨h8,by show mkN m > 0;omega⟩ hc
  rw [hz]
  show (1:Int)≤1∧(1:Int)≤7
  omega
 ·rw [if_neg h8]
  have:∀ b:Bool,1≤lfK k b∧lfK k b≤7:=fun b=>by
   cases b with
   | true=>show (1:Int)≤1∧(1:Int)≤7;omega
   | false=>show 1≤k∧k≤7;omega
  exact this _
theorem zf7 {n:Nd} (k L:Int) (h:ndK n=k) (hk:¬ (8≤k∧k≤17)) (hL:ndL n=L) (h0:0≤L∧L≤1) (hR:ndR n=0):TrSh (.leaf n):=⟨by rw [h];exact hk,by rw [hL];exact h0,hR⟩
theorem zr0 {k c:Int} {m:Mk} (hk:1≤k∧k≤7):TrSh (.leaf (zgg k c m).1):=by
 rcases (show k=1∨k=2∨k=3∨k=4∨k=5∨k=6∨k=7 by omega) with rfl | rfl | rfl | rfl | rfl | rfl | rfl
 ·exact zf7 1 0 rfl (by decide) rfl (by decide) rfl
 ·exact zf7 2 0 rfl (by decide) rfl (by decide) rfl
 ·exact zf7 3 0 rfl (by decide) rfl (by decide) rfl
 ·exact zf7 4 0 rfl (by decide) rfl (by decide) rfl
 ·exact zf7 5 0 rfl (by decide) rfl (by decide) rfl
 ·exact zf7 6 0 rfl (by decide) rfl (by decide) rfl
 ·have:=zaF (zaj (zaj (zaj m 3).2 2).2 7).2 (n:=2) (by decide)
  exact zf7 7 (zaj (zaj (zaj (zaj m 3).2 2).2 7).2 2).1 rfl (by decide) rfl (by omega) rfl
theorem zov (m:Mk) (ids:Int) (hn:0≤mkN m):TrSh (.leaf (zc7 m ids).1):=by
 have hk:=zaF m (n:=8) (by decide)
 unfold zc7 zib
 dsimp only
 split
 ·exact zf7 18 0 rfl (by decide) rfl (by decide) rfl
 ·rename_i hc
  exact zr0 (zri (m:=(zaj m 8).2) hn (by omega) hc)
theorem zrg {k ids:Int} {m:Mk}:ndK (mOne k ids m).1=k∧ndL (mOne k ids m).1=0∧ndR (mOne k ids m).1=0:=by
 unfold mOne
 split
 ·exact⟨rfl,rfl,rfl⟩
 split
 ·exact⟨rfl,rfl,rfl⟩
 split
 ·exact⟨rfl,rfl,rfl⟩
 ·exact⟨rfl,rfl,rfl⟩
theorem zlA (ids:Int):∀ (d:Nat) (m:Mk),0≤mkN m->TrSh (mTr ids d m).1
 | 0,m,h=>zov _ _ h
 | d+1,m,h=>by
  have hp:=zaF (zaE m) (n:=14) (by decide)
  rw [mTr]
  dsimp only
  split
  ·exact zov _ _ h
  rename_i hst
  have hs:(zaj (zaE m) 14).1 < 10:=by
   have:¬ zfP (d+1) (zaj (zaE m) 14)=true:=hst
   unfold zfP at this
   simp only [Bool.or_eq_true,decide_eq_true_iff,not_or] at this
   omega
  have h0:0≤mkN (zaj (zaE m) 14).2:=h
  have ha:=zlA ids d (zaj (zaE m) 14).2 h0
  have hg:=(zjM ids d (zaj (zaE m) 14).2).1
  split
  ·rename_i ht
   have hc:=(zl6 (8+(zaj (zaE m) 14).1) (mTr ids d (zaj (zaE m) 14).2).2).1
   exact⟨ze6.1 ht,ha,zlA ids d _ (by rw [hc,hg];exact h0)⟩
  ·rename_i ht
   obtain⟨e1,_,e3⟩:=zrg (k:=8+(zaj (zaE m) 14).1) (ids:=ids) (m:=(mTr ids d (zaj (zaE m) 14).2).2)
   refine⟨?_,e3,ha⟩
   rw [e1]
   rw [ze6] at ht
   omega
def zgk (D:Nat):RCtr:={ self:=mkr,args:=[i64,i64],inv:=fun _ _=>True,pre:=fun m xs=>[0≤xs.1,xs.1 < (D:Int),mMax xs.1.toNat≤10000,0≤mkU m∧mkU m+20 * ((mMax xs.1.toNat:Nat):Int)≤500000,0≤mkN m∧mkN m≤1000000,0≤mkS m∧mkS m+((mMax xs.1.toNat:Nat):Int)≤500000,0 < xs.2.1∧xs.2.1≤1000000],res:=.slice nd,out:=fun m xs=>(mTr xs.2.1 xs.1.toNat m).1.flat 0,post:=fun m xs=>(mTr xs.2.1 xs.1.toNat m).2 }
theorem zoe:∀ d:Nat,d≤mMax d
 | 0=>Nat.zero_le _
 | d+1=>by have:=zoe d;show d+1≤2 * mMax d+1;omega
theorem zqg {ids:Int} {d:Nat} {m:Mk} (h:zfP d (zaj (zaE m) 14)=true):mTr ids d m=(.leaf (zc7 (zaj (zaE m) 14).2 ids).1,(zc7 (zaj (zaE m) 14).2 ids).2):=by
 cases d with
 | zero=>rfl
 | succ d=>rw [mTr];exact if_pos h
theorem mTr_go {ids:Int} {d:Nat} {m:Mk} (h:¬ zfP (d+1) (zaj (zaE m) 14)=true):mTr ids (d+1) m=if two (8+(zaj (zaE m) 14).1)=true then
 (.bin (8+(zaj (zaE m) 14).1,0,0,0,(mCnt (8+(zaj (zaE m) 14).1) (mTr ids d (zaj (zaE m) 14).2).2).1,0,[],[],()) (mTr ids d (zaj (zaE m) 14).2).1 (mTr ids d (mCnt (8+(zaj (zaE m) 14).1) (mTr ids d (zaj (zaE m) 14).2).2).2).1,(mTr ids d (mCnt (8+(zaj (zaE m) 14).1) (mTr ids d (zaj (zaE m) 14).2).2).2).2)
 else (.un (mOne (8+(zaj (zaE m) 14).1) ids (mTr ids d (zaj (zaE m) 14).2).2).1 (mTr ids d (zaj (zaE m) 14).2).1,(mOne (8+(zaj (zaE m) 14).1) ids (mTr ids d (zaj (zaE m) 14).2).2).2):=by
 rw [mTr]
 exact if_neg h
def kRu (D:Nat):Kn:={ gmK with C:=[(94,cTwo),(97,cOver),(95,cBoth)],R:=[(92,zqV),(96,zlb),(93,zrw),(58,zgk D)] }
theorem kRu_ok {D:Nat} (ih:zeM Tryz.prog gmG 58 (zgk D)):KnOk Tryz.prog gmG (kRu D):=
 { zaH.with (.cons zq4 (.cons zr7 (.cons ztc .nil))) with r:=.cons zkI (fun _ _=>trivial) (.cons zjA (fun _ _=>trivial) (.cons zqb (fun _ _=>trivial) (.cons ih (fun _ _=>trivial) .nil))) }
theorem ztb {x y:Mk} (h:x=y):some (OObj.box mkr x)=some (OObj.box mkr y):=by rw [h]
abbrev sRu (m:Mk) (d:Nat) (ids k:Int) (n:Nd) (a:List Nd):AS:=⟨[(0,⟨.optr mkr,⟨0,mkr,.here⟩⟩),(1,⟨i64,(d:Int)⟩),(2,⟨i64,ids⟩),(8,⟨.optr nd,⟨1,nd,.here⟩⟩),(9,⟨.slice nd,a⟩)],[(0,some (.box mkr m)),(1,some (.box nd n))],2⟩
theorem znL (D:Nat) (ih:zeM Tryz.prog gmG 58 (zgk D)):zeM Tryz.prog gmG 58 (zgk (D+1)):=by
 have hK:=kRu_ok ih
 refine zdR (K:=kRu D) hK Tryz.func58 rfl rfl Tryz.call58 rfl (Nat.le_of_ble_eq_true rfl) (fun w w' g hg h hk=>trivial) ?_
 rintro w0 O g hX hinv (m:Mk) ⟨(d:Int),(ids:Int),_⟩ hp
 obtain⟨d,rfl⟩:∃ e:Nat,d=(e:Int):=⟨d.toNat,by have:0≤d:=hp.1;omega⟩
 obtain⟨h0,hD,hM,⟨h1,h2⟩,⟨h3,h4⟩,⟨h5,h6⟩,h7,h8⟩:0≤(d:Int)∧(d:Int) < ((D+1:Nat):Int)∧mMax d≤10000∧(0≤mkU m∧mkU m+20 * ((mMax d:Nat):Int)≤500000)∧(0≤mkN m∧mkN m≤1000000)∧(0≤mkS m∧mkS m+((mMax d:Nat):Int)≤500000)∧0 < ids∧ids≤1000000:=hp
 have hout:(zgk (D+1)).out m ((d:Int),ids,())=(mTr ids d m).1.flat 0:=rfl
 have hpost:(zgk (D+1)).post m ((d:Int),ids,())=(mTr ids d m).2:=rfl
 change AWP _ _ _ _ _ ⟨[(0,⟨.optr mkr,⟨0,mkr,.here⟩⟩),(1,⟨i64,(d:Int)⟩),(2,⟨i64,ids⟩)],[(0,some (.box mkr m))],1⟩ _
 obtain⟨R,hRR⟩:∃ R,R=mTr ids d m:=⟨_,rfl⟩
 have i1:inR .i64 (mkS m+1):=zao (by omega) (by omega)
 (repeat (first | refine zae ?_ | refine zac ?_ | refine zab ?_ | refine zad ?_));refine zaa hX hK rfl ?_ ?_
 ·trivial
 (repeat (first | refine zae ?_ | refine zac ?_ | refine zab ?_ | refine zad ?_));refine zaa hX hK rfl ?_ ?_
 ·exact i1
 have g1:0≤mkU (zaE m):=h1
 have g2:mkU (zaE m)≤1000000:=by show mkU m≤_;omega
 refine zap (σ':=⟨[(0,⟨.optr mkr,⟨0,mkr,.here⟩⟩),(1,⟨i64,(d:Int)⟩),(2,⟨i64,ids⟩)],[(0,some (.box mkr (zaE m)))],1⟩) ⟨⟨rfl,rfl,rfl,trivial⟩,⟨rfl,trivial⟩,rfl,rfl⟩ ?_
 have hge:=(zkW m).trans (zbj (zaE m) 14).ge
 have hk:=zaF (zaE m) (n:=14) (by decide)
 (repeat (first | refine zae ?_ | refine zac ?_ | refine zab ?_ | refine zad ?_));refine zaa hX hK rfl ?_ ?_
 ·repeat' (first | exact trivial | assumption | exact g1 | exact g2 | (refine⟨?_,?_⟩) | (intro _) | exact Nat.le_of_ble_eq_true rfl | exact Int.natCast_nonneg _ | (simp_all [allP];done))
 have hstop:=@zqg ids d m
 rw [<-hRR] at hstop
 have hgo:=@mTr_go ids (d - 1) m
 obtain⟨p,hP⟩:∃ p,p=zaj (zaE m) 14:=⟨_,rfl⟩
 rw [<-hP] at hstop hgo hge hk
 refine zap (σ':=⟨[(0,⟨.optr mkr,⟨0,mkr,.here⟩⟩),(1,⟨i64,(d:Int)⟩),(2,⟨i64,ids⟩),(7,⟨i64,p.1⟩)],[(0,some (.box mkr p.2))],1⟩) ⟨⟨rfl,rfl,rfl,by rw [hP];rfl,trivial⟩,⟨ztb (by rw [hP];rfl),trivial⟩,rfl,rfl⟩ ?_
 clear hP
 obtain⟨(k:Int),(m1:Mk)⟩:=p
 have hk:0≤k∧k < 14:=hk
 obtain⟨e1,e2,⟨e3,e4⟩,e5,e6⟩:MkGe (0+1) (1+0) m m1:=hge
 have hM1:1≤mMax d:=by cases d with
  | zero=>exact Nat.le_refl _
  | succ d=>show 1≤2 * mMax d+1;omega
 have hstop:zfP d (k,m1)=true->R=(.leaf (zc7 m1 ids).1,(zc7 m1 ids).2):=hstop
 have hq:(bif (bif (bif decide ((d:Int)≤0) then true else decide (mkU m1 > (((mkD m1).length:Nat):Int))) then true else decide (mkS m1 > 30)) then true else decide (k≥10))=zfP d (k,m1):=by
  rw [b_or,b_or,b_or]
  unfold zfP
  have:decide ((d:Int)≤0)=decide (d=0):=decide_eq_decide.2 (by omega)
  rw [this]
 change AWP _ _ _ _ _ ⟨[(0,⟨.optr mkr,⟨0,mkr,.here⟩⟩),(1,⟨i64,(d:Int)⟩),(2,⟨i64,ids⟩),(7,⟨i64,k⟩)],[(0,some (.box mkr m1))],1⟩ _
 (repeat (first | refine zae ?_ | refine zac ?_ | refine zab ?_ | refine zad ?_));refine AWP.draw dM hX hK 24 (by kernel_rfl) rfl rfl ?_ ?_ ?_
 ·repeat' (first | exact trivial | assumption | (refine⟨?_,?_⟩) | (intro _) | exact Nat.le_of_ble_eq_true rfl | exact Int.natCast_nonneg _ | (simp_all [allP];done))
 ·repeat' (first | exact trivial | assumption | (refine⟨?_,?_⟩) | (intro _) | exact Nat.le_of_ble_eq_true rfl | exact Int.natCast_nonneg _ | (simp_all [allP];done))
 refine zaf rfl (fun hc=>?_) (fun hc=>?_)
 ·have hc:=hq.symm.trans hc
  have hR:=hstop hc
  have j1:0≤mkU m1:=by omega
  have j2:mkU m1≤800000:=by omega
  have j3:0≤mkN m1:=by omega
  have j4:mkN m1≤1000000:=by omega
  (repeat (first | refine zae ?_ | refine zac ?_ | refine zab ?_ | refine zad ?_));refine zaa hX hK rfl ?_ ?_
  ·repeat' (first | exact trivial | assumption | exact j1 | exact j2 | exact j3 | exact j4 | exact h7 | exact h8 | (refine⟨?_,?_⟩) | (intro _) | exact Nat.le_of_ble_eq_true rfl | exact Int.natCast_nonneg _ | (simp_all [allP];done))
  refine AWP.frz hX 6 ?_
  refine AWP.ret ⟨.inr rfl,?_,zax rfl trivial rfl rfl ?_⟩
  ·show some (OObj.box mkr (zc7 m1 ids).2)=some (OObj.box mkr (mTr ids d m).2)
   rw [<-hRR,hR]
  ·show [(zc7 m1 ids).1]=(mTr ids d m).1.flat 0
   rw [<-hRR,hR]
   rfl
 have hc:=hq.symm.trans hc
 have hd0:d≠0:=fun h=>by
  have:zfP d (k,m1)=true:=by unfold zfP;rw [decide_eq_true h];rfl
  rw [this] at hc
  cases hc
 obtain⟨d,rfl⟩:∃ e,d=e+1:=⟨d - 1,by omega⟩
 have hk10:k < 10:=by
  unfold zfP at hc
  simp only [Bool.or_eq_false_iff,decide_eq_false_iff_not] at hc
  have:=hc.2
  omega
 have hR:=hgo (by rw [show d+1 - 1+1=d+1 by omega,hc];decide)
 rw [show d+1 - 1=d by omega, <-hRR] at hR
 clear hgo hstop hq hc
 have hR:R=if two (8+k)=true then (.bin (8+k,0,0,0,(mCnt (8+k) (mTr ids d m1).2).1,0,[],[],()) (mTr ids d m1).1 (mTr ids d (mCnt (8+k) (mTr ids d m1).2).2).1,(mTr ids d (mCnt (8+k) (mTr ids d m1).2).2).2)
  else (.un (mOne (8+k) ids (mTr ids d m1).2).1 (mTr ids d m1).1,(mOne (8+k) ids (mTr ids d m1).2).2):=hR
 have hMM:mMax (d+1)=2 * mMax d+1:=rfl
 have n1:0≤((d+1:Nat):Int) - 1:=by omega
 have n2:((d+1:Nat):Int) - 1 < (D:Int):=by omega
 have n3:(((d+1:Nat):Int) - 1).toNat=d:=by omega
 have n4:mMax (((d+1:Nat):Int) - 1).toNat≤10000:=by rw [n3];omega
 have n5:0≤mkU m1∧mkU m1+20 * ((mMax (((d+1:Nat):Int) - 1).toNat:Nat):Int)≤500000:=by rw [n3];omega
 have n6:0≤mkN m1∧mkN m1≤1000000:=by omega
 have n7:0≤mkS m1∧mkS m1+((mMax (((d+1:Nat):Int) - 1).toNat:Nat):Int)≤500000:=by rw [n3];omega
 have n8:0 < ids∧ids≤1000000:=⟨h7,h8⟩
 have n9:inR .i64 (((d+1:Nat):Int) - 1):=zao (by omega) (by have:=zoe d;omega)
 have n10:inR .i64 (8+k):=zao (by omega) (by omega)
 (repeat (first | refine zae ?_ | refine zac ?_ | refine zab ?_ | refine zad ?_));refine zaa hX hK rfl ?_ ?_
 ·exact n10
 (repeat (first | refine zae ?_ | refine zac ?_ | refine zab ?_ | refine zad ?_));refine zaa hX hK rfl ?_ ?_
 ·exact⟨n9,n1,n2,n4,n5,n6,n7,n8⟩
 refine zap (σ':=sRu (mTr ids d m1).2 (d+1) ids (8+k) (8+k,0,0,0,0,0,[],[],()) ((mTr ids d m1).1.flat 0)) ⟨⟨rfl,rfl,rfl,rfl,by show (⟨.slice nd,(mTr ids (((d+1:Nat):Int) - 1).toNat m1).1.flat 0⟩:V)=_;rw [n3],trivial⟩,⟨ztb (by show (mTr ids (((d+1:Nat):Int) - 1).toNat m1).2=_;rw [n3]),rfl,trivial⟩,rfl,rfl⟩ ?_
 have sh:=zlA ids d m1 n6.1
 have sz:=zfk ids d m1
 have ge:=zjM ids d m1
 generalize mTr ids d m1=A at *
 obtain⟨(a:Tr),(m2:Mk)⟩:=A
 have sh:TrSh a:=sh
 have sz:a.size≤mMax d:=sz
 obtain⟨f1,f2,⟨f3,f4⟩,f5,f6⟩:MkGe (20 * mMax d) (mMax d) m1 m2:=ge
 have sa:=zdO a
 have la:=Tr.len_flat a 0
 have hR:R=if two (8+k)=true then (.bin (8+k,0,0,0,(mCnt (8+k) m2).1,0,[],[],()) a (mTr ids d (mCnt (8+k) m2).2).1,(mTr ids d (mCnt (8+k) m2).2).2)
  else (.un (mOne (8+k) ids m2).1 a,(mOne (8+k) ids m2).2):=hR
 show AWP _ _ _ _ _ (sRu m2 (d+1) ids (8+k) (8+k,0,0,0,0,0,[],[],()) (a.flat 0)) _
 generalize hkk:8+k=c at *
 have hc1:8≤c∧c≤17:=by omega
 have w1:0≤mkU m2:=by omega
 have w2:mkU m2≤1000000:=by omega
 have w3:mkU m2≤900000:=by omega
 (repeat (first | refine zae ?_ | refine zac ?_ | refine zab ?_ | refine zad ?_));refine zaa hX hK rfl ?_ ?_
 ·trivial
 refine zaf rfl (fun hc=>?_) (fun hc=>?_)
 ·have hc:two c=true:=hc
  rw [if_pos hc] at hR
  refine zae ?_
  refine AWP.viaQ (σ':=sRu (mCnt c m2).2 (d+1) ids c (c,0,0,0,(mCnt c m2).1,0,[],[],()) (a.flat 0)) ?_ ?_
  ·(repeat (first | refine zae ?_ | refine zac ?_ | refine zab ?_ | refine zad ?_));refine zaa hX hK rfl ?_ ?_
   ·trivial
   refine zaf rfl (fun hb=>?_) (fun hb=>?_)
   ·have hb:(c==17)=true:=hb
    have e:mCnt c m2=(1+(zaj m2 3).1,(zaj m2 3).2):=if_pos (eq_of_beq hb)
    have hp:=zaF m2 (n:=3) (by decide)
    have z1:inR .i64 (1+(zaj m2 3).1):=zao (by omega) (by omega)
    rw [e]
    (repeat (first | refine zae ?_ | refine zac ?_ | refine zab ?_ | refine zad ?_));refine zaa hX hK rfl ?_ ?_
    ·repeat' (first | exact trivial | assumption | exact w1 | exact w2 | exact z1 | (refine⟨?_,?_⟩) | (intro _) | exact Nat.le_of_ble_eq_true rfl | exact Int.natCast_nonneg _ | (simp_all [allP];done))
    exact⟨⟨rfl,rfl,rfl,rfl,rfl,trivial⟩,⟨rfl,rfl,trivial⟩,rfl,rfl⟩
   ·have hb:(c==17)=false:=hb
    have e:mCnt c m2=(0,m2):=if_neg (by simpa using hb)
    rw [e]
    refine zac ?_
    exact⟨⟨rfl,rfl,rfl,rfl,rfl,trivial⟩,⟨rfl,rfl,trivial⟩,rfl,rfl⟩
  obtain⟨x1,x2,x3,x4,x5⟩:MkLe 1 m2 (mCnt c m2).2:=zl6 c m2
  generalize mCnt c m2=q at *
  obtain⟨(cn:Int),(m3:Mk)⟩:=q
  have x1:mkN m3=mkN m2:=x1
  have x2:mkS m3=mkS m2:=x2
  have x4:mkU m2≤mkU m3:=x4
  have x5:mkU m3≤mkU m2+((1:Nat):Int):=x5
  have hR:R=(.bin (c,0,0,0,cn,0,[],[],()) a (mTr ids d m3).1,(mTr ids d m3).2):=hR
  have v5:0≤mkU m3∧mkU m3+20 * ((mMax (((d+1:Nat):Int) - 1).toNat:Nat):Int)≤500000:=by rw [n3];omega
  have v6:0≤mkN m3∧mkN m3≤1000000:=by omega
  have v7:0≤mkS m3∧mkS m3+((mMax (((d+1:Nat):Int) - 1).toNat:Nat):Int)≤500000:=by rw [n3];omega
  (repeat (first | refine zae ?_ | refine zac ?_ | refine zab ?_ | refine zad ?_));refine zaa hX hK rfl ?_ ?_
  ·exact⟨n9,n1,n2,n4,v5,v6,v7,n8⟩
  have sb:=zlA ids d m3 v6.1
  have sz2:=zfk ids d m3
  have lb:=Tr.len_flat (mTr ids d m3).1 0
  have hb4:=ziZ (mTr ids d m3).1 0 sb
  have q1:1≤(a.flat 0).length:=by omega
  have q2:(a.flat 0).length≤100000:=by omega
  have q3:((mTr ids (((d+1:Nat):Int) - 1).toNat m3).1.flat 0).length≤100000:=by rw [n3];omega
  have q4:∀ n∈(mTr ids (((d+1:Nat):Int) - 1).toNat m3).1.flat 0,(-1000000≤ndL n∧ndL n≤1000000)∧(-1000000≤ndR n∧ndR n≤1000000):=by
   rw [n3]
   intro n hn
   have:=hb4 n hn
   omega
  (repeat (first | refine zae ?_ | refine zac ?_ | refine zab ?_ | refine zad ?_));refine zaa hX hK rfl ?_ ?_
  ·exact⟨q1,q2,q3,q4⟩
  refine AWP.ret ⟨.inr rfl,?_,zax rfl trivial rfl rfl ?_⟩
  ·show some (OObj.box mkr (mTr ids (((d+1:Nat):Int) - 1).toNat m3).2)=some (OObj.box mkr (mTr ids (d+1) m).2)
   rw [<-hRR,hR,n3]
  ·show zqX (a.flat 0) ((mTr ids (((d+1:Nat):Int) - 1).toNat m3).1.flat 0) (c,0,0,0,cn,0,[],[],())=(mTr ids (d+1) m).1.flat 0
   rw [<-hRR,hR,n3,zpk a (mTr ids d m3).1 _ sb]
 ·have hc:two c=false:=hc
  rw [hc,if_neg (by decide)] at hR
  have hn2:¬ two c=true:=by rw [hc];decide
  rw [ze6] at hn2
  refine zac ?_
  (repeat (first | refine zae ?_ | refine zac ?_ | refine zab ?_ | refine zad ?_));refine zaa hX hK rfl ?_ ?_
  ·trivial
  refine AWP.viaQ (σ':=sRu (mOne c ids m2).2 (d+1) ids c (mOne c ids m2).1 (a.flat 0)) ?_ ?_
  ·refine zab ?_
   clear hR hkk n10
   rcases (show c=11∨c=12∨c=13∨c=14∨c=15∨c=16 by omega) with rfl | rfl | rfl | rfl | rfl | rfl
   ·skip
    (repeat (first | refine zae ?_ | refine zac ?_ | refine zab ?_ | refine zad ?_));refine zaa hX hK rfl ?_ ?_
    ·trivial
    refine zaf rfl (fun _=>?_) (fun hb=>absurd (show ((11:Int)==11)=false from hb) (by decide))
    have hp:=zaF m2 (n:=15) (by decide)
    have z1:inR .i64 ((zaj m2 15).1 - 7):=zao (by omega) (by omega)
    (repeat (first | refine zae ?_ | refine zac ?_ | refine zab ?_ | refine zad ?_));refine zaa hX hK rfl ?_ ?_
    ·repeat' (first | exact trivial | assumption | exact w1 | exact w2 | exact z1 | (refine⟨?_,?_⟩) | (intro _) | exact Nat.le_of_ble_eq_true rfl | exact Int.natCast_nonneg _ | (simp_all [allP];done))
    exact⟨⟨rfl,rfl,rfl,rfl,rfl,trivial⟩,⟨rfl,rfl,trivial⟩,rfl,rfl⟩
   ·skip
    (repeat (first | refine zae ?_ | refine zac ?_ | refine zab ?_ | refine zad ?_));refine zaa hX hK rfl ?_ ?_
    ·trivial
    refine zaf rfl (fun hb=>absurd (show ((12:Int)==11)=true from hb) (by decide)) (fun _=>?_)
    (repeat (first | refine zae ?_ | refine zac ?_ | refine zab ?_ | refine zad ?_));refine zaa hX hK rfl ?_ ?_
    ·trivial
    refine zaf rfl (fun _=>?_) (fun hb=>absurd (show ((12:Int)==12)=false from hb) (by decide))
    refine zac ?_
    refine zaf rfl (fun _=>?_) (fun hb=>absurd (show ((12:Int)==12)=false from hb) (by decide))
    (repeat (first | refine zae ?_ | refine zac ?_ | refine zab ?_ | refine zad ?_));refine zaa hX hK rfl ?_ ?_
    ·repeat' (first | exact trivial | assumption | exact w1 | exact w2 | (refine⟨?_,?_⟩) | (intro _) | exact Nat.le_of_ble_eq_true rfl | exact Int.natCast_nonneg _ | (simp_all [allP];done))
    exact⟨⟨rfl,rfl,rfl,rfl,rfl,trivial⟩,⟨rfl,rfl,trivial⟩,rfl,rfl⟩
   ·skip
    (repeat (first | refine zae ?_ | refine zac ?_ | refine zab ?_ | refine zad ?_));refine zaa hX hK rfl ?_ ?_
    ·trivial
    refine zaf rfl (fun hb=>absurd (show ((13:Int)==11)=true from hb) (by decide)) (fun _=>?_)
    (repeat (first | refine zae ?_ | refine zac ?_ | refine zab ?_ | refine zad ?_));refine zaa hX hK rfl ?_ ?_
    ·trivial
    refine zaf rfl (fun hb=>absurd (show ((13:Int)==12)=true from hb) (by decide)) (fun _=>?_)
    (repeat (first | refine zae ?_ | refine zac ?_ | refine zab ?_ | refine zad ?_));refine zaa hX hK rfl ?_ ?_
    ·trivial
    refine zaf rfl (fun _=>?_) (fun hb=>absurd (show ((13:Int)==13)=false from hb) (by decide))
    (repeat (first | refine zae ?_ | refine zac ?_ | refine zab ?_ | refine zad ?_));refine zaa hX hK rfl ?_ ?_
    ·repeat' (first | exact trivial | assumption | exact w1 | exact w2 | (refine⟨?_,?_⟩) | (intro _) | exact Nat.le_of_ble_eq_true rfl | exact Int.natCast_nonneg _ | (simp_all [allP];done))
    exact⟨⟨rfl,rfl,rfl,rfl,rfl,trivial⟩,⟨rfl,rfl,trivial⟩,rfl,rfl⟩
   ·skip
    (repeat (first | refine zae ?_ | refine zac ?_ | refine zab ?_ | refine zad ?_));refine zaa hX hK rfl ?_ ?_
    ·trivial
    refine zaf rfl (fun hb=>absurd (show ((14:Int)==11)=true from hb) (by decide)) (fun _=>?_)
    (repeat (first | refine zae ?_ | refine zac ?_ | refine zab ?_ | refine zad ?_));refine zaa hX hK rfl ?_ ?_
    ·trivial
    refine zaf rfl (fun hb=>absurd (show ((14:Int)==12)=true from hb) (by decide)) (fun _=>?_)
    (repeat (first | refine zae ?_ | refine zac ?_ | refine zab ?_ | refine zad ?_));refine zaa hX hK rfl ?_ ?_
    ·trivial
    refine zaf rfl (fun hb=>absurd (show ((14:Int)==13)=true from hb) (by decide)) (fun _=>?_)
    (repeat (first | refine zae ?_ | refine zac ?_ | refine zab ?_ | refine zad ?_));refine zaa hX hK rfl ?_ ?_
    ·trivial
    refine zaf rfl (fun _=>?_) (fun hb=>absurd (show ((14:Int)==14)=false from hb) (by decide))
    refine zac ?_
    refine zaf rfl (fun _=>?_) (fun hb=>absurd (show ((14:Int)==14)=false from hb) (by decide))
    (repeat (first | refine zae ?_ | refine zac ?_ | refine zab ?_ | refine zad ?_));refine zaa hX hK rfl ?_ ?_
    ·repeat' (first | exact trivial | assumption | exact w1 | exact w3 | (refine⟨?_,?_⟩) | (intro _) | exact Nat.le_of_ble_eq_true rfl | exact Int.natCast_nonneg _ | (simp_all [allP];done))
    exact⟨⟨rfl,rfl,rfl,rfl,rfl,trivial⟩,⟨rfl,rfl,trivial⟩,rfl,rfl⟩
   ·skip
    (repeat (first | refine zae ?_ | refine zac ?_ | refine zab ?_ | refine zad ?_));refine zaa hX hK rfl ?_ ?_
    ·trivial
    refine zaf rfl (fun hb=>absurd (show ((15:Int)==11)=true from hb) (by decide)) (fun _=>?_)
    (repeat (first | refine zae ?_ | refine zac ?_ | refine zab ?_ | refine zad ?_));refine zaa hX hK rfl ?_ ?_
    ·trivial
    refine zaf rfl (fun hb=>absurd (show ((15:Int)==12)=true from hb) (by decide)) (fun _=>?_)
    (repeat (first | refine zae ?_ | refine zac ?_ | refine zab ?_ | refine zad ?_));refine zaa hX hK rfl ?_ ?_
    ·trivial
    refine zaf rfl (fun hb=>absurd (show ((15:Int)==13)=true from hb) (by decide)) (fun _=>?_)
    (repeat (first | refine zae ?_ | refine zac ?_ | refine zab ?_ | refine zad ?_));refine zaa hX hK rfl ?_ ?_
    ·trivial
    refine zaf rfl (fun hb=>absurd (show ((15:Int)==14)=true from hb) (by decide)) (fun _=>?_)
    (repeat (first | refine zae ?_ | refine zac ?_ | refine zab ?_ | refine zad ?_));refine zaa hX hK rfl ?_ ?_
    ·trivial
    refine zaf rfl (fun _=>?_) (fun hb=>absurd (show ((15:Int)==15)=false from hb) (by decide))
    (repeat (first | refine zae ?_ | refine zac ?_ | refine zab ?_ | refine zad ?_));refine zaa hX hK rfl ?_ ?_
    ·repeat' (first | exact trivial | assumption | exact w1 | exact w3 | (refine⟨?_,?_⟩) | (intro _) | exact Nat.le_of_ble_eq_true rfl | exact Int.natCast_nonneg _ | (simp_all [allP];done))
    exact⟨⟨rfl,rfl,rfl,rfl,rfl,trivial⟩,⟨rfl,rfl,trivial⟩,rfl,rfl⟩
   ·skip
    (repeat (first | refine zae ?_ | refine zac ?_ | refine zab ?_ | refine zad ?_));refine zaa hX hK rfl ?_ ?_
    ·trivial
    refine zaf rfl (fun hb=>absurd (show ((16:Int)==11)=true from hb) (by decide)) (fun _=>?_)
    (repeat (first | refine zae ?_ | refine zac ?_ | refine zab ?_ | refine zad ?_));refine zaa hX hK rfl ?_ ?_
    ·trivial
    refine zaf rfl (fun hb=>absurd (show ((16:Int)==12)=true from hb) (by decide)) (fun _=>?_)
    (repeat (first | refine zae ?_ | refine zac ?_ | refine zab ?_ | refine zad ?_));refine zaa hX hK rfl ?_ ?_
    ·trivial
    refine zaf rfl (fun hb=>absurd (show ((16:Int)==13)=true from hb) (by decide)) (fun _=>?_)
    (repeat (first | refine zae ?_ | refine zac ?_ | refine zab ?_ | refine zad ?_));refine zaa hX hK rfl ?_ ?_
    ·trivial
    refine zaf rfl (fun hb=>absurd (show ((16:Int)==14)=true from hb) (by decide)) (fun _=>?_)
    (repeat (first | refine zae ?_ | refine zac ?_ | refine zab ?_ | refine zad ?_));refine zaa hX hK rfl ?_ ?_
    ·trivial
    refine zaf rfl (fun hb=>absurd (show ((16:Int)==15)=true from hb) (by decide)) (fun _=>?_)
    have z2:0≤mkU (zaj m2 ids).2:=by rw [zaU];omega
    have z3:mkU (zaj m2 ids).2≤1000000:=by rw [zaU];omega
    have z4:0≤mkU (zaj (zaj m2 ids).2 2).2:=by rw [zaU,zaU];omega
    have z5:mkU (zaj (zaj m2 ids).2 2).2≤900000:=by rw [zaU,zaU];omega
    have z6:ids≤1000000000:=by omega
    (repeat (first | refine zae ?_ | refine zac ?_ | refine zab ?_ | refine zad ?_));refine zaa hX hK rfl ?_ ?_
    ·repeat' (first | exact trivial | assumption | exact w1 | exact w2 | exact h7 | exact z6 | (refine⟨?_,?_⟩) | (intro _) | exact Nat.le_of_ble_eq_true rfl | exact Int.natCast_nonneg _ | (simp_all [allP];done))
    (repeat (first | refine zae ?_ | refine zac ?_ | refine zab ?_ | refine zad ?_));refine zaa hX hK rfl ?_ ?_
    ·repeat' (first | exact trivial | assumption | exact z2 | exact z3 | (refine⟨?_,?_⟩) | (intro _) | exact Nat.le_of_ble_eq_true rfl | exact Int.natCast_nonneg _ | (simp_all [allP];done))
    (repeat (first | refine zae ?_ | refine zac ?_ | refine zab ?_ | refine zad ?_));refine zaa hX hK rfl ?_ ?_
    ·repeat' (first | exact trivial | assumption | exact z4 | exact z5 | (refine⟨?_,?_⟩) | (intro _) | exact Nat.le_of_ble_eq_true rfl | exact Int.natCast_nonneg _ | (simp_all [allP];done))
    exact⟨⟨rfl,rfl,rfl,rfl,rfl,trivial⟩,⟨rfl,rfl,trivial⟩,rfl,rfl⟩
  show AWP _ _ _ _ _ (sRu (mOne c ids m2).2 (d+1) ids c (mOne c ids m2).1 (a.flat 0)) _
  have q2:(a.flat 0).length≤1000000:=by omega
  (repeat (first | refine zae ?_ | refine zac ?_ | refine zab ?_ | refine zad ?_));refine zaa hX hK rfl ?_ ?_
  ·exact q2
  refine AWP.ret ⟨.inr rfl,?_,zax rfl trivial rfl rfl ?_⟩
  ·show some (OObj.box mkr (mOne c ids m2).2)=some (OObj.box mkr (mTr ids (d+1) m).2)
   rw [<-hRR,hR]
  ·show zp6 (a.flat 0) (mOne c ids m2).1=(mTr ids (d+1) m).1.flat 0
   rw [<-hRR,hR,zn3]
theorem zp9 (D:Nat):zeM Tryz.prog gmG 58 (zgk D):=by
 induction D with
 | zero=>
  refine⟨Tryz.call58,fun w O g cs ty x xs vs _ _ _ _ hp=>?_⟩
  obtain⟨(d:Int),(ids:Int),_⟩:=xs
  have h1:0≤d:=hp.1
  have h2:d < ((0:Nat):Int):=hp.2.1
  omega
 | succ D ih=>exact znL D ih
set_option maxRecDepth 10000
theorem zdr {lo hi lo' hi':Int} {z:Bool} (h1:lo'≤lo) (h2:hi≤hi'):∀ {l:List Int} {a b:Int},b≤a->Ris lo hi z a l->Ris lo' hi' z b l
 | [],_,_,_,_=>trivial
 | x::r,a,b,hab,h=>by
  obtain⟨p,q,s,t,u⟩:=h
  exact⟨by omega,by omega,by omega,t,zdr h1 h2 (Int.le_refl _) u⟩
theorem ziM {lo hi:Int} {z:Bool} (hz:z=true∨¬ 0≤lo):∀ (k:Nat) (m:Mk) (v:Int) (acc:List Int),Ris lo hi z (lo - 1) acc->acc.getLast?.getD (lo - 1) < v->lo≤v->Ris lo hi z (lo - 1) (mRis lo hi k m v acc).1∧(mRis lo hi k m v acc).1.length≤acc.length+k
 | 0,m,v,acc,h,_,_=>⟨h,Nat.le_refl _⟩
 | k+1,m,v,acc,h,hl,hv=>by
  have hp:=zaF m (n:=3) (by decide)
  rw [mRis]
  split
  ·rename_i hvh
   split
   ·rename_i hc
    have h2:=zlq (z:=z) hv hvh (by
     rcases hz with hz | hz
     ·exact .inl hz
     ·exact .inr (hc.resolve_right hz)) h hl
    obtain⟨a,b⟩:=ziM hz k (zaj m 3).2 (v+1+(zaj m 3).1) (acc++ [v]) h2 (by rw [List.getLast?_append];show v < _;omega) (by omega)
    refine⟨a,?_⟩
    rw [List.length_append,List.length_singleton] at b
    omega
   ·obtain⟨a,b⟩:=ziM hz k (zaj m 3).2 (v+1+(zaj m 3).1) acc h (by omega) (by omega)
    exact⟨a,by omega⟩
  ·exact⟨h,by show acc.length≤_;omega⟩
theorem zcG (m:Mk) {lo hi:Int} {z:Bool} (hz:z=true∨¬ 0≤lo) (hz2:z=true∨hi≠0) (hl:lo≤hi):(zaI m lo hi).1≠ []∧(zaI m lo hi).1.length≤4∧Ris lo hi z (lo - 1) (zaI m lo hi).1:=by
 have hp:=zaF m (n:=4) (by decide)
 have hq:=zaF (zaj m 4).2 (n:=hi - lo+1) (by omega)
 obtain⟨a,b⟩:=ziM hz (hi:=hi) (1+(zaj m 4).1).toNat (zaj (zaj m 4).2 (hi - lo+1)).2 (lo+(zaj (zaj m 4).2 (hi - lo+1)).1) [] trivial (by show lo - 1 < _;omega) (by omega)
 unfold zaI orHi
 dsimp only
 split
 ·exact⟨by simp,by simp,⟨by omega,hl,Int.le_refl _,hz2,trivial⟩⟩
 ·rename_i hne
  refine⟨fun e=>hne (by rw [e];rfl),?_,a⟩
  rw [List.length_nil] at b
  omega
def zdF (x:Int):Prop:=-1000 < x∧x < 1000
def NdSm (n:Nd):Prop:=(zdF (ndC n)∧zdF (ndN n)∧zdF (ndM n))∧(∀ x∈ndI n,zdF x)∧(ndI n).length≤5∧(ndS n).length≤20
theorem zra {x:Int} (h:zdF x):(deI x).length≤4:=by
 unfold deI Lib.itoa
 have e:(10:Nat) ^ (2+1)=1000:=by decide
 obtain⟨h0,h1⟩:=h
 split
 ·rw [List.length_cons]
  have:=zfx 2 x.natAbs (by rw [e];omega)
  omega
 ·have:=zfx 2 x.toNat (by rw [e];omega)
  omega
theorem zh8 {l:List Int} (h:∀ n∈l,zdF n):(zdE l).length≤5 * l.length:=by
 induction l with
 | nil=>exact Nat.le_refl _
 | cons n l ih=>
  have h1:=zra (h n (List.mem_cons_self ..))
  have h2:=ih fun m hm=>h m (List.mem_cons_of_mem _ hm)
  show ((32::deI n)++zdE l).length≤_
  rw [List.length_append,List.length_cons,List.length_cons]
  omega
theorem zg3:∀ (l:List Int) (i:Nat),(∀ n∈l,zdF n)->(litS i l).length≤6 * l.length
 | [],i,_=>Nat.le_refl _
 | n::l,i,h=>by
  have h1:=zra (h n (List.mem_cons_self ..))
  have h2:=zg3 l (i+1) fun m hm=>h m (List.mem_cons_of_mem _ hm)
  have h3:=ziy i
  show (sepS i++deI n++litS (i+1) l).length≤_
  rw [List.length_append,List.length_append,List.length_cons]
  omega
theorem zmU {n:Nd} (h:NdSm n):(zdt n).length≤90:=by
 obtain⟨⟨hC,hN,hM⟩,hI,hl,hs⟩:=h
 have l1:∀ w:List UInt8,w.length≤10->∀ l:List Int,l.length≤3->(∀ x∈l,zdF x)->(putS w l).length≤25:=fun w hw l hl hx=>by
  have:=zh8 hx
  unfold putS
  rw [List.length_append]
  omega
 have l2:(zb1 (ndI n)).length≤31:=by
  have:=zg3 (ndI n) 0 hI
  unfold zb1
  rw [List.length_append,List.length_singleton]
  omega
 have p0:∀ x∈([]:List Int),zdF x:=fun x hx=>by cases hx
 have p1:∀ x∈ [ndC n],zdF x:=fun x hx=>by rw [List.mem_singleton.1 hx];exact hC
 have p2:∀ x∈ [ndN n,ndM n],zdF x:=fun x hx=>by
  rcases List.mem_cons.1 hx with rfl | hx
  ·exact hN
  ·rw [List.mem_singleton.1 hx];exact hM
 have p3:∀ x∈ [ndC n,ndN n,ndM n],zdF x:=fun x hx=>by
  rcases List.mem_cons.1 hx with rfl | hx
  ·exact hC
  ·exact p2 x hx
 unfold zdt
 split
 ·exact Nat.le_trans (l1 _ (by decide) _ (by simp) p2) (by decide)
 split
 ·exact Nat.le_trans (l1 _ (by decide) _ (by simp) p3) (by decide)
 split
 ·rw [List.length_append];have:=l1 zci (by decide) _ (by simp) p1;omega
 split
 ·rw [List.length_append];have:=l1 za1 (by decide) _ (by simp) p1;omega
 split
 ·rw [List.length_append];have:=l1 zbi (by decide) _ (by simp) p0;omega
 split
 ·rw [List.length_append];have:=l1 zde (by decide) _ (by simp) p1;omega
 split
 ·rw [List.length_append]
  have:=l1 wNth (by decide) _ (by simp) p3
  have:=l1 (zcb (ndL n)) (zcF _) [] (by decide) p0
  omega
 split
 ·show (64::ndS n++ []).length≤_
  rw [List.append_nil,List.length_cons];omega
 ·exact Nat.zero_le _
theorem zjq {n:Nd} (b:List UInt8) (h:NdSm n):(zcu b n).length≤90+b.length:=by
 obtain⟨⟨hC,hN,hM⟩,hI,hl,hs⟩:=h
 have l1:∀ w:List UInt8,w.length≤10->∀ l:List Int,l.length≤3->(∀ x∈l,zdF x)->(putS w l).length≤25:=fun w hw l hl hx=>by
  have:=zh8 hx
  unfold putS
  rw [List.length_append]
  omega
 have l2:(zb1 (ndI n)).length≤31:=by
  have:=zg3 (ndI n) 0 hI
  unfold zb1
  rw [List.length_append,List.length_singleton]
  omega
 have p0:∀ x∈([]:List Int),zdF x:=fun x hx=>by cases hx
 have p1:∀ x∈ [ndC n],zdF x:=fun x hx=>by rw [List.mem_singleton.1 hx];exact hC
 have p2:∀ x∈ [ndN n],zdF x:=fun x hx=>by rw [List.mem_singleton.1 hx];exact hN
 unfold zcu
 split
 ·have:=l1 (spW zeF) (by decide) _ (by simp) p2;omega
 split
 ·have:=l1 (spW zhB) (by decide) _ (by simp) p2;omega
 split
 ·have:=l1 (spW zeE) (by decide) _ (by simp) p2;omega
 split
 ·rw [List.length_append];have:=l1 (spW zeO) (by decide) _ (by simp) p0;omega
 split
 ·rw [List.length_append];have:=l1 (spW zcj) (by decide) _ (by simp) p0;omega
 split
 ·rw [List.length_append,List.length_append]
  have:=l1 (spW wPos) (by decide) _ (by simp) p1
  have:=l1 (zcb (ndM n)) (zcF _) [] (by decide) p0
  omega
 split
 ·rw [List.length_append,List.length_append]
  have:=l1 (spW zbQ) (by decide) _ (by simp) p2
  have:=l1 (spW wOf++ [32]) (by decide) [] (by decide) p0
  omega
 ·exact Nat.zero_le _
def TrSm:Tr->Prop
 | .leaf n=>NdSm n
 | .un n a=>NdSm n∧TrSm a
 | .bin n a b=>NdSm n∧TrSm a∧TrSm b
theorem zer:∀ t:Tr,TrSm t->t.text.length≤100 * t.size
 | .leaf n,h=>by
  have:=zmU h
  show (zdt n).length≤100 * 1
  omega
 | .un n a,h=>by
  have h1:=zjq [] h.1
  have h2:=zer a h.2
  have h3:=zcM (decide (a.lev≥4)) a.text
  show (parS _ a.text++zcu [] n).length≤100 * (a.size+1)
  rw [List.length_append]
  rw [List.length_nil] at h1
  omega
 | .bin n a b,h=>by
  have h1:=zer a h.2.1
  have h2:=zer b h.2.2
  show _≤100 * (a.size+b.size+1)
  rw [zin]
  split
  ·have h3:=zcM (decide (a.lev≥4)) a.text
   have h4:=zcM (decide (b.lev≥5)) b.text
   have h5:=zjq (parS (decide (b.lev≥5)) b.text) h.1
   rw [List.length_append]
   omega
  ·have h3:=zcM (decide (a.lev≥levS (ndK n))) a.text
   have h4:=zcM (decide (b.lev≥levS (ndK n)+1)) b.text
   have h5:(putS ([32]++opWd (levS (ndK n))++ [32]) []).length≤20:=by
    have h6:=ziO (ndK n)
    show (([32]++opWd (levS (ndK n))++ [32])++ []:List UInt8).length≤20
    rcases (show levS (ndK n)=1∨levS (ndK n)=2∨levS (ndK n)=3∨levS (ndK n)=4∨levS (ndK n)=5 by omega) with e | e | e | e | e<;>rw [e]<;>decide
   rw [List.length_append,List.length_append]
   omega
theorem sm0:zdF 0:=⟨by decide,by decide⟩
theorem zf9 {lo hi:Int} {z:Bool} (h1: -1000 < lo) (h2:hi < 1000):∀ {l:List Int} {a:Int},Ris lo hi z a l->∀ x∈l,zdF x
 | [],_,_,x,hx=>by cases hx
 | y::r,_,h,x,hx=>by
  obtain⟨_,a,b,_,h⟩:=h
  rcases List.mem_cons.1 hx with rfl | hx
  ·exact⟨by omega,by omega⟩
  ·exact zf9 h1 h2 h x hx
theorem nosm:∀ x∈([]:List Int),zdF x:=fun x hx=>by cases hx
theorem zr1 {k c:Int} {m:Mk} (hk:1≤k∧k≤7) (hc:0≤c∧c≤2) (hc2:k=1∨k=5->c=0):TrOk (.leaf (zgg k c m).1)∧NdSm (zgg k c m).1:=by
 have sc:zdF c:=⟨by omega,by omega⟩
 have p20:(([]:List UInt8)).length≤20:=Nat.zero_le _
 rcases (show k=1∨k=2∨k=3∨k=4∨k=5∨k=6∨k=7 by omega) with rfl | rfl | rfl | rfl | rfl | rfl | rfl
 ·have h1:=zaF m (n:=12) (by decide)
  have h2:=zaF (zaj m 12).2 (n:=20) (by decide)
  obtain rfl:c=0:=hc2 (.inl rfl)
  show TrOk (.leaf (1,0,0,0,1+(zaj m 12).1,(zaj (zaj m 12).2 20).1,[],[],()))∧NdSm (1,0,0,0,1+(zaj m 12).1,(zaj (zaj m 12).2 20).1,[],[],())
  generalize hx:1+(zaj m 12).1=x at *
  generalize (zaj (zaj m 12).2 20).1=y at *
  refine⟨⟨?_,by show ¬ ((8:Int)≤1∧_);omega,rfl,fun _=>rfl⟩,⟨⟨sm0,⟨by show -1000 < x;omega,by show x < 1000;omega⟩,⟨by show -1000 < y;omega,by show y < 1000;omega⟩⟩,nosm,Nat.zero_le _,p20⟩⟩
  exact and4 (a:=true) (b:=true) (c:=true) rfl rfl rfl (show (bif inB x 1 1099511627776 then inB y 0 1099511627776 else false)=true by rw [zcB (hi:=1099511627776) (by omega),zcB (hi:=1099511627776) (by omega)];rfl)
 ·have h1:=zaF m (n:=4) (by decide)
  have h2:=zaF (zaj m 4).2 (n:=1+(zaj m 4).1) (by omega)
  show TrOk (.leaf (2,c,0,0,1+(zaj m 4).1,(zaj (zaj m 4).2 (1+(zaj m 4).1)).1,[],[],()))∧NdSm (2,c,0,0,1+(zaj m 4).1,(zaj (zaj m 4).2 (1+(zaj m 4).1)).1,[],[],())
  generalize hx:1+(zaj m 4).1=x at *
  generalize (zaj (zaj m 4).2 x).1=y at *
  refine⟨⟨?_,by show ¬ ((8:Int)≤2∧_);omega,rfl,fun _=>rfl⟩,⟨⟨sc,⟨by show -1000 < x;omega,by show x < 1000;omega⟩,⟨by show -1000 < y;omega,by show y < 1000;omega⟩⟩,nosm,Nat.zero_le _,p20⟩⟩
  exact and4 (a:=true) (b:=inB c 0 2) (c:=true) rfl (zcB hc) rfl (show (bif inB x 1 400 then inB y 0 (x - 1) else false)=true by rw [zcB (by omega),zcB (by omega)];rfl)
 ·obtain⟨a1,a2,a3⟩:=zcG m (lo:=1) (hi:=4) (z:=true) (by decide) (by decide) (by decide)
  show TrOk (.leaf (3,c,0,0,0,0,(zaI m 1 4).1,[],()))∧NdSm (3,c,0,0,0,0,(zaI m 1 4).1,[],())
  generalize (zaI m 1 4).1=l at *
  refine⟨⟨?_,by show ¬ ((8:Int)≤3∧_);omega,rfl,fun _=>rfl⟩,⟨⟨sc,sm0,sm0⟩,zf9 (by decide) (by decide) a3,Nat.le_trans a2 (by decide),p20⟩⟩
  exact and4 (a:=decide (l.length≤64)) (b:=inB c 0 2) (c:=zaT l (1,16,())) (d:=true) (decide_eq_true (by omega)) (zcB hc) (zg1 (by decide) (by decide) a1 (zdr (by decide) (by decide) (by decide) a3)) rfl
 ·obtain⟨a1,a2,a3⟩:=zcG m (lo:=(-4)) (hi:=7) (z:=false) (by decide) (by decide) (by decide)
  show TrOk (.leaf (4,c,0,0,0,0,(zaI m (-4) 7).1,[],()))∧NdSm (4,c,0,0,0,0,(zaI m (-4) 7).1,[],())
  generalize (zaI m (-4) 7).1=l at *
  refine⟨⟨?_,by show ¬ ((8:Int)≤4∧_);omega,rfl,fun _=>rfl⟩,⟨⟨sc,sm0,sm0⟩,zf9 (by decide) (by decide) a3,Nat.le_trans a2 (by decide),p20⟩⟩
  exact and4 (a:=decide (l.length≤64)) (b:=inB c 0 2) (c:=zaT l (-40,40,())) (d:=true) (decide_eq_true (by omega)) (zcB hc) (zg1 (by decide) (by decide) a1 (zdr (by decide) (by decide) (by decide) a3)) rfl
 ·obtain rfl:c=0:=hc2 (.inr rfl)
  obtain⟨a1,a2,a3⟩:=zcG m (lo:=0) (hi:=6) (z:=true) (by decide) (by decide) (by decide)
  show TrOk (.leaf (5,0,0,0,0,0,(zaI m 0 6).1,[],()))∧NdSm (5,0,0,0,0,0,(zaI m 0 6).1,[],())
  generalize (zaI m 0 6).1=l at *
  refine⟨⟨?_,by show ¬ ((8:Int)≤5∧_);omega,rfl,fun _=>rfl⟩,⟨⟨sc,sm0,sm0⟩,zf9 (by decide) (by decide) a3,Nat.le_trans a2 (by decide),p20⟩⟩
  exact and4 (a:=decide (l.length≤64)) (b:=true) (c:=zaT l (0,6,())) (d:=true) (decide_eq_true (by omega)) rfl (zg1 (by decide) (by decide) a1 (zdr (by decide) (by decide) (by decide) a3)) rfl
 ·obtain⟨a1,a2,a3⟩:=zcG m (lo:=1) (hi:=4) (z:=true) (by decide) (by decide) (by decide)
  show TrOk (.leaf (6,c,0,0,0,0,(zaI m 1 4).1,[],()))∧NdSm (6,c,0,0,0,0,(zaI m 1 4).1,[],())
  generalize (zaI m 1 4).1=l at *
  refine⟨⟨?_,by show ¬ ((8:Int)≤6∧_);omega,rfl,fun _=>rfl⟩,⟨⟨sc,sm0,sm0⟩,zf9 (by decide) (by decide) a3,Nat.le_trans a2 (by decide),p20⟩⟩
  exact and4 (a:=decide (l.length≤64)) (b:=inB c 0 2) (c:=zaT l (1,54,())) (d:=true) (decide_eq_true (by omega)) (zcB hc) (zg1 (by decide) (by decide) a1 (zdr (by decide) (by decide) (by decide) a3)) rfl
 ·have h1:=zaF m (n:=3) (by decide)
  have h2:=zaF (zaj (zaj m 3).2 2).2 (n:=7) (by decide)
  have h3:=zaF (zaj (zaj (zaj m 3).2 2).2 7).2 (n:=2) (by decide)
  show TrOk (.leaf (7,c,(zaj (zaj (zaj (zaj m 3).2 2).2 7).2 2).1,0,(if (zaj (zaj m 3).2 2).1=1 then -(1+(zaj m 3).1) else 1+(zaj m 3).1),(zaj (zaj (zaj m 3).2 2).2 7).1,[],[],()))∧NdSm (7,c,(zaj (zaj (zaj (zaj m 3).2 2).2 7).2 2).1,0,(if (zaj (zaj m 3).2 2).1=1 then -(1+(zaj m 3).1) else 1+(zaj m 3).1),(zaj (zaj (zaj m 3).2 2).2 7).1,[],[],())
  have hx:∀ b:Int,-3≤(if b=1 then -(1+(zaj m 3).1) else 1+(zaj m 3).1)∧(if b=1 then -(1+(zaj m 3).1) else 1+(zaj m 3).1)≤3∧(if b=1 then -(1+(zaj m 3).1) else 1+(zaj m 3).1)≠0:=fun b=>by split<;>omega
  have hx:=hx (zaj (zaj m 3).2 2).1
  generalize (if (zaj (zaj m 3).2 2).1=1 then -(1+(zaj m 3).1) else 1+(zaj m 3).1)=x at *
  generalize (zaj (zaj (zaj m 3).2 2).2 7).1=y at *
  generalize (zaj (zaj (zaj (zaj m 3).2 2).2 7).2 2).1=u at *
  refine⟨⟨?_,by show ¬ ((8:Int)≤7∧_);omega,rfl,fun e=>absurd rfl e⟩,⟨⟨sc,⟨by show -1000 < x;omega,by show x < 1000;omega⟩,⟨by show -1000 < y;omega,by show y < 1000;omega⟩⟩,nosm,Nat.zero_le _,p20⟩⟩
  refine and4 (a:=true) (b:=inB c 0 2) (c:=true) rfl (zcB hc) rfl (show (bif (bif (bif inB x (-60) 60 then !(x==0) else false) then inB y 0 6 else false) then inB u 0 1 else false)=true from ?_)
  rw [zcB (n:=x) (by omega),zcB (n:=y) (by omega),zcB (n:=u) (lo:=0) (hi:=1) (by omega),beq_eq_false_iff_ne.2 hx.2.2];rfl
theorem zqK {x:Int} (h0:0≤x) (h1:x < 1000000):(deI x).length≤6:=by
 unfold deI Lib.itoa
 rw [if_neg (by omega)]
 have e:(10:Nat) ^ (5+1)=1000000:=by decide
 exact zfx 5 x.toNat (by rw [e];omega)
theorem nm_ok {x:Int} (h0:0≤x) (h1:x < 1000000):zea ([110]++deI x)=true∧([110]++deI x).length≤20:=by
 have hl:=zqK h0 h1
 have hd:∀ c∈deI x,isPt c=true:=fun c hc=>by
  have e:deI x=Lib.decDigits x.toNat:=by unfold deI Lib.itoa;rw [if_neg (by omega)]
  rw [e] at hc
  unfold isPt
  rw [(zhq x.toNat).1 c hc,Bool.or_true,Bool.true_or]
 refine⟨?_,by rw [List.length_append,List.length_singleton];omega⟩
 unfold zea
 rw [Bool.and_eq_true,Bool.and_eq_true,Bool.and_eq_true,decide_eq_true_iff,decide_eq_true_iff]
 refine⟨⟨by simp,by rw [List.length_append,List.length_singleton];omega⟩,rfl,?_⟩
 rw [List.all_eq_true]
 intro c hc
 rcases List.mem_append.1 hc with hc | hc
 ·rw [List.mem_singleton.1 hc];decide
 ·exact hd c hc
theorem zrq {k:Int} {m:Mk}:(0≤(zd2 k m 3).1∧(zd2 k m 3).1≤2)∧(k=1∨k=5->(zd2 k m 3).1=0):=by
 unfold zd2
 split
 ·rename_i h
  have:=zaF m (n:=3) (by decide)
  exact⟨by omega,fun e=>by omega⟩
 ·exact⟨by show (0:Int)≤0∧(0:Int)≤2;omega,fun _=>rfl⟩
theorem zou (m:Mk) (hn:0≤mkN m) (hn2:mkN m≤1000000):TrOk (.leaf (zc7 m 3).1)∧NdSm (zc7 m 3).1:=by
 have hk:=zaF m (n:=8) (by decide)
 unfold zc7 zib
 dsimp only
 split
 ·rename_i hc
  have h1:mkN (zcY (1+(zaj m 8).1) (zaj m 8).2).2=mkN m:=(zq6 _ _).1
  have h2:=zaF (zcY (1+(zaj m 8).1) (zaj m 8).2).2 (n:=mkN (zcY (1+(zaj m 8).1) (zaj m 8).2).2) hc.2
  generalize (zaj (zcY (1+(zaj m 8).1) (zaj m 8).2).2 (mkN (zcY (1+(zaj m 8).1) (zaj m 8).2).2)).1=x at *
  obtain⟨a,b⟩:=nm_ok (x:=x) h2.1 (by omega)
  refine⟨⟨?_,by show ¬ ((8:Int)≤18∧(18:Int)≤17);omega,rfl,fun _=>rfl⟩,⟨⟨sm0,sm0,sm0⟩,nosm,Nat.zero_le _,b⟩⟩
  have:((true&&true)&&(true&&(zea ([110]++deI x)&&(true&&true))))=true:=by rw [a];rfl
  exact this
 ·rename_i hc
  exact zr1 (zri (m:=(zaj m 8).2) hn (by omega) hc) zrq.1 zrq.2
theorem one_ok {k:Int} {m:Mk} (hk:11≤k∧k≤16):zbe (mOne k 3 m).1=true∧NdSm (mOne k 3 m).1:=by
 have p20:(([]:List UInt8)).length≤20:=Nat.zero_le _
 rcases (show k=11∨k=12∨k=13∨k=14∨k=15∨k=16 by omega) with rfl | rfl | rfl | rfl | rfl | rfl
 ·have h1:=zaF m (n:=15) (by decide)
  show zbe (11,0,0,0,(zaj m 15).1 - 7,0,[],[],())=true∧NdSm (11,0,0,0,(zaj m 15).1 - 7,0,[],[],())
  generalize hx:(zaj m 15).1 - 7=x at *
  refine⟨?_,⟨⟨sm0,⟨by show -1000 < x;omega,by show x < 1000;omega⟩,sm0⟩,nosm,Nat.zero_le _,p20⟩⟩
  exact and4 (a:=true) (b:=true) (c:=true) rfl rfl rfl (show (bif inB x (-1099511627776) 1099511627776 then true else false)=true by rw [zcB (lo:=-1099511627776) (hi:=1099511627776) (by omega)];rfl)
 ·have h1:=zaF m (n:=60) (by decide)
  show zbe (12,0,0,0,(zaj m 60).1,0,[],[],())=true∧NdSm (12,0,0,0,(zaj m 60).1,0,[],[],())
  generalize (zaj m 60).1=x at *
  refine⟨?_,⟨⟨sm0,⟨by show -1000 < x;omega,by show x < 1000;omega⟩,sm0⟩,nosm,Nat.zero_le _,p20⟩⟩
  exact and4 (a:=true) (b:=true) (c:=true) rfl rfl rfl (show (bif inB x 0 1099511627776 then true else false)=true by rw [zcB (hi:=1099511627776) (by omega)];rfl)
 ·have h1:=zaF m (n:=60) (by decide)
  show zbe (13,0,0,0,(zaj m 60).1,0,[],[],())=true∧NdSm (13,0,0,0,(zaj m 60).1,0,[],[],())
  generalize (zaj m 60).1=x at *
  refine⟨?_,⟨⟨sm0,⟨by show -1000 < x;omega,by show x < 1000;omega⟩,sm0⟩,nosm,Nat.zero_le _,p20⟩⟩
  exact and4 (a:=true) (b:=true) (c:=true) rfl rfl rfl (show (bif inB x 0 1099511627776 then true else false)=true by rw [zcB (hi:=1099511627776) (by omega)];rfl)
 ·obtain⟨a1,a2,a3⟩:=zcG m (lo:=0) (hi:=60) (z:=true) (by decide) (by decide) (by decide)
  show zbe (14,0,0,0,0,0,(zaI m 0 60).1,[],())=true∧NdSm (14,0,0,0,0,0,(zaI m 0 60).1,[],())
  generalize (zaI m 0 60).1=l at *
  refine⟨?_,⟨⟨sm0,sm0,sm0⟩,zf9 (by decide) (by decide) a3,Nat.le_trans a2 (by decide),p20⟩⟩
  exact and4 (a:=decide (l.length≤64)) (b:=true) (c:=zaT l (0,1099511627776,())) (d:=true) (decide_eq_true (by omega)) rfl (zg1 (by decide) (by decide) a1 (zdr (by decide) (by decide) (by decide) a3)) rfl
 ·obtain⟨a1,a2,a3⟩:=zcG m (lo:=0) (hi:=60) (z:=true) (by decide) (by decide) (by decide)
  show zbe (15,0,0,0,0,0,(zaI m 0 60).1,[],())=true∧NdSm (15,0,0,0,0,0,(zaI m 0 60).1,[],())
  generalize (zaI m 0 60).1=l at *
  refine⟨?_,⟨⟨sm0,sm0,sm0⟩,zf9 (by decide) (by decide) a3,Nat.le_trans a2 (by decide),p20⟩⟩
  exact and4 (a:=decide (l.length≤64)) (b:=true) (c:=zaT l (0,1099511627776,())) (d:=true) (decide_eq_true (by omega)) rfl (zg1 (by decide) (by decide) a1 (zdr (by decide) (by decide) (by decide) a3)) rfl
 ·have h1:=zaF m (n:=3) (by decide)
  have h2:=zaF (zaj m 3).2 (n:=2) (by decide)
  obtain⟨a1,a2,a3⟩:=zcG (zaj (zaj m 3).2 2).2 (lo:=-3) (hi:=3) (z:=false) (by decide) (by decide) (by decide)
  show zbe (16,(zaj m 3).1,0,0,0,(zaj (zaj m 3).2 2).1,(zaI (zaj (zaj m 3).2 2).2 (-3) 3).1,[],())=true∧NdSm (16,(zaj m 3).1,0,0,0,(zaj (zaj m 3).2 2).1,(zaI (zaj (zaj m 3).2 2).2 (-3) 3).1,[],())
  generalize (zaI (zaj (zaj m 3).2 2).2 (-3) 3).1=l at *
  generalize (zaj (zaj m 3).2 2).1=u at *
  generalize (zaj m 3).1=c at *
  refine⟨?_,⟨⟨⟨by show -1000 < c;omega,by show c < 1000;omega⟩,sm0,⟨by show -1000 < u;omega,by show u < 1000;omega⟩⟩,zf9 (by decide) (by decide) a3,Nat.le_trans a2 (by decide),p20⟩⟩
  exact and4 (a:=decide (l.length≤64)) (b:=inB c 0 2) (c:=zaT l (-400,400,())) (d:=inB u 0 1) (decide_eq_true (by omega)) (zcB (by omega)) (zg1 (by decide) (by decide) a1 (zdr (by decide) (by decide) (by decide) a3)) (zcB (by omega))
theorem bin_ok {k c:Int} (hk:(8≤k∧k≤10)∧c=0∨k=17∧1≤c∧c≤3):zbe (k,0,0,0,c,0,[],[],())=true∧NdSm (k,0,0,0,c,0,[],[],()):=by
 have p20:(([]:List UInt8)).length≤20:=Nat.zero_le _
 refine⟨?_,⟨⟨sm0,⟨by show -1000 < c;omega,by show c < 1000;omega⟩,sm0⟩,nosm,Nat.zero_le _,p20⟩⟩
 rcases hk with ⟨⟨h1,h2⟩,rfl⟩ | ⟨rfl,h⟩
 ·rcases (show k=8∨k=9∨k=10 by omega) with rfl | rfl | rfl
  ·decide+kernel
  ·decide+kernel
  ·decide+kernel
 ·exact and4 (a:=true) (b:=true) (c:=true) rfl rfl rfl (show (bif inB c 1 400 then true else false)=true by rw [zcB (by omega)];rfl)
theorem cnt_in {k:Int} {m:Mk} (h:two k=true):(8≤k∧k≤10)∧(mCnt k m).1=0∨k=17∧1≤(mCnt k m).1∧(mCnt k m).1≤3:=by
 rw [ze6] at h
 unfold mCnt
 split
 ·rename_i e
  have:=zaF m (n:=3) (by decide)
  exact .inr ⟨e,by omega⟩
 ·exact .inl ⟨by omega,rfl⟩
theorem zod:∀ (d:Nat) (m:Mk),0≤mkN m->mkN m≤1000000->TrOk (mTr 3 d m).1∧TrSm (mTr 3 d m).1
 | 0,m,h,h2=>zou _ h h2
 | d+1,m,h,h2=>by
  have hp:=zaF (zaE m) (n:=14) (by decide)
  rw [mTr]
  dsimp only
  split
  ·exact zou _ h h2
  rename_i hst
  have hs:(zaj (zaE m) 14).1 < 10:=by
   have:¬ zfP (d+1) (zaj (zaE m) 14)=true:=hst
   unfold zfP at this
   simp only [Bool.or_eq_true,decide_eq_true_iff,not_or] at this
   omega
  have h0:0≤mkN (zaj (zaE m) 14).2:=h
  have h3:mkN (zaj (zaE m) 14).2≤1000000:=h2
  obtain⟨ha,sa⟩:=zod d (zaj (zaE m) 14).2 h0 h3
  have hg:=(zjM 3 d (zaj (zaE m) 14).2).1
  split
  ·rename_i ht
   have hc:=(zl6 (8+(zaj (zaE m) 14).1) (mTr 3 d (zaj (zaE m) 14).2).2).1
   obtain⟨hb,sb⟩:=zod d (mCnt (8+(zaj (zaE m) 14).1) (mTr 3 d (zaj (zaE m) 14).2).2).2 (by rw [hc,hg];exact h0) (by rw [hc,hg];exact h3)
   obtain⟨f,g⟩:=bin_ok (cnt_in (m:=(mTr 3 d (zaj (zaE m) 14).2).2) ht)
   exact⟨⟨f,ze6.1 ht,⟨rfl,rfl⟩,ha,hb⟩,g,sa,sb⟩
  ·rename_i ht
   rw [ze6] at ht
   obtain⟨e1,e2,e3⟩:=zrg (k:=8+(zaj (zaE m) 14).1) (ids:=3) (m:=(mTr 3 d (zaj (zaE m) 14).2).2)
   obtain⟨f,g⟩:=one_ok (k:=8+(zaj (zaE m) 14).1) (m:=(mTr 3 d (zaj (zaE m) 14).2).2) (by omega)
   exact⟨⟨f,by rw [e1];omega,⟨e2,e3⟩,ha⟩,g,sa⟩
set_option maxRecDepth 100000
def zgY (d:Nat) (k:Nat) (l:List Int) (n:Int):Tr:=(mTr 3 d (l.take k,0,n,0,())).1
theorem zse {d k:Nat} {l:List Int} {n:Int} (h0:0≤n) (h1:n≤1000000):TrOk (zgY d k l n)∧TrSm (zgY d k l n):=zod d _ h0 h1
theorem zoc (d k:Nat) (l:List Int) (n:Int):(zgY d k l n).size≤mMax d:=zfk 3 d _
def zs5 (d k:Nat):Ctr:={ args:=[ints,i64],pre:=fun x=>[0≤x.2.1,x.2.1≤1000000],res:=.slice nd,own:=none,out:=fun x=>(zgY d k x.1 x.2.1).flat 0 }
def kMa:Kn:={ gmK with R:=[(58,zgk 10)] }
theorem zlK:KnOk Tryz.prog gmG kMa:=zaH.withR (.cons (zp9 10) (fun _ _=>trivial) .nil)
theorem zqe:CtrOk Tryz.prog gmG 23 (zs5 4 80):=by
 refine zaq (K:=kMa) zlK Tryz.func23 rfl rfl Tryz.call23 rfl (by decide) (by intro h;cases h) ?_
 rintro w0 X hX ⟨(l:List Int),(n:Int),_⟩ hp
 obtain⟨h0,h1⟩:0≤n∧n≤1000000:=hp
 change AWP _ _ _ _ _ ⟨[(0,⟨ints,l⟩),(1,⟨i64,n⟩)],[],0⟩ _
 (repeat (first | refine zae ?_ | refine zac ?_ | refine zab ?_ | refine zad ?_));refine zaa hX zlK rfl ?_ ?_
 ·trivial
 have e:(min ((l.length:Nat):Int) 80).toNat=min l.length 80:=by omega
 have y1:0≤min ((l.length:Nat):Int) 80:=by omega
 have y2:min ((l.length:Nat):Int) 80≤((l.length:Nat):Int):=by omega
 have ht:l.take (min ((l.length:Nat):Int) 80).toNat=l.take 80:=by
  rw [e]
  by_cases h:l.length≤80
  ·rw [Nat.min_eq_left h,List.take_of_length_le (Nat.le_refl _),List.take_of_length_le h]
  ·rw [Nat.min_eq_right (by omega)]
 (repeat (first | refine zae ?_ | refine zac ?_ | refine zab ?_ | refine zad ?_));refine zaa hX zlK rfl ?_ ?_
 ·exact⟨y1,y2⟩
 refine zap (σ':=⟨[(5,⟨.optr mkr,⟨0,mkr,.here⟩⟩)],[(0,some (.box mkr (l.take 80,0,n,0,())))],1⟩) ⟨⟨rfl,trivial⟩,⟨ztb (by show (l.take (min ((l.length:Nat):Int) 80).toNat,(0:Int),n,(0:Int),())=_;rw [ht]),trivial⟩,rfl,rfl⟩ ?_
 have q1:(0:Int)≤4:=by decide
 have q2:(4:Int) < ((10:Nat):Int):=by decide
 have q3:mMax (4:Int).toNat≤10000:=by decide
 have q4:(0:Int)≤0∧(0:Int)+20 * ((mMax (4:Int).toNat:Nat):Int)≤500000:=by decide
 have q5:(0:Int)≤0∧(0:Int)+((mMax (4:Int).toNat:Nat):Int)≤500000:=by decide
 have q6:(0:Int) < 3∧(3:Int)≤1000000:=by decide
 (repeat (first | refine zae ?_ | refine zac ?_ | refine zab ?_ | refine zad ?_));refine zaa hX zlK rfl ?_ ?_
 ·exact⟨q1,q2,q3,q4,⟨h0,h1⟩,q5,q6⟩
 refine AWP.ret ⟨.inr rfl,zax rfl trivial rfl rfl ?_⟩
 rfl
theorem zsf:CtrOk Tryz.prog gmH 23 (zs5 4 80):=zqe.lift
theorem zob {k:Nat} {l:List Int} {n:Int} (h0:0≤n) (h1:n≤1000000):TrOk (zgY 4 k l n)∧(zgY 4 k l n).size≤31∧(zgY 4 k l n).text.length≤3100:=by
 obtain⟨a,b⟩:=zse (d:=4) (k:=k) (l:=l) h0 h1
 have hs:=zoc 4 k l n
 have hs:(zgY 4 k l n).size≤31:=hs
 have:=zer _ b
 exact⟨a,hs,by omega⟩
theorem zqf {k:Nat} {l:List Int} {n:Int} (h0:0≤n) (h1:n≤1000000):fmtS ((zgY 4 k l n).flat 0)=((zgY 4 k l n).text,0):=by
 obtain⟨a,b,c⟩:=zob (k:=k) (l:=l) h0 h1
 rw [zqB a (by omega)]
 exact if_neg (by omega)
theorem zq0 (v:Int):∀ c∈whS v,isWh c=true:=by
 unfold whS
 split
 ·decide
 split
 ·decide
 split
 ·decide
 split<;>decide
theorem whS_ne (v:Int):whS v≠ []:=by
 unfold whS
 split
 ·decide
 split
 ·decide
 split
 ·decide
 split<;>decide
def nsp:List UInt8->Nat
 | []=>0
 | c::r=>if c=32 then nsp r+1 else nsp r
theorem ziu (g:List Int) (v:List UInt8):∀ (u:List UInt8) (k:Nat),spF g k (u++v)=spF g k u++spF g (k+nsp u) v
 | [],_=>rfl
 | c::r,k=>by
  rw [List.cons_append,spF,spF,nsp]
  by_cases h:c=32
  ·rw [if_pos h,if_pos h,if_pos h,ziu g v r (k+1),List.append_assoc,show k+1+nsp r=k+(nsp r+1) by omega]
  ·rw [if_neg h,if_neg h,if_neg h,ziu g v r k]
   rfl
theorem zlm {g:List Int}:∀ {u:List UInt8} (k:Nat),(∀ c∈u,isWh c=true)->∀ c∈spF g k u,isWh c=true
 | [],_,_,c,hc=>by cases hc
 | x::r,k,h,c,hc=>by
  rw [spF] at hc
  split at hc
  ·rcases List.mem_append.1 hc with hc | hc
   ·exact zq0 _ c hc
   ·exact zlm (k+1) (fun c hc=>h c (List.mem_cons_of_mem _ hc)) c hc
  ·rcases List.mem_cons.1 hc with rfl | hc
   ·exact h _ (List.mem_cons_self ..)
   ·exact zlm k (fun c hc=>h c (List.mem_cons_of_mem _ hc)) c hc
theorem zq8 {g:List Int}:∀ {u:List UInt8} (k:Nat),(∀ c∈u,isWh c=false)->spF g k u=u∧nsp u=0
 | [],_,_=>⟨rfl,rfl⟩
 | x::r,k,h=>by
  have hx:x≠32:=fun e=>by
   have:=h x (List.mem_cons_self ..)
   rw [e] at this
   cases this
  obtain⟨a,b⟩:=zq8 (g:=g) k (fun c hc=>h c (List.mem_cons_of_mem x hc))
  rw [spF,nsp,if_neg hx,if_neg hx,a,b]
  exact⟨rfl,rfl⟩
theorem wh_pt {c:UInt8} (h:isWh c=true):isPt c=false:=by
 cases hp:isPt c with
 | false=>rfl
 | true=>rw [zr5 c hp] at h;cases h
theorem spF_bd {g:List Int} {u:List UInt8} (k:Nat) (h:Bd u):Bd (spF g k u):=by
 cases u with
 | nil=>exact trivial
 | cons c r=>
  rw [spF]
  split
  ·have h1:=zq0 (gapV g k)
   have h2:=whS_ne (gapV g k)
   generalize whS (gapV g k)=w at *
   cases w with
   | nil=>exact absurd rfl h2
   | cons x y=>exact wh_pt (h1 x (List.mem_cons_self ..))
  ·exact h
theorem Lex.spF {u:List UInt8} {l:List Tk} (h:Lex u l) (g:List Int):∀ k,Lex (spF g k u) l:=by
 induction h with
 | nil h=>exact fun k=>.nil (zlm k h)
 | @tok ws w r a l h hw hb hr ih=>
  intro k
  obtain⟨e1,e2⟩:=zq8 (g:=g) (k+nsp ws) hw.nw
  rw [ziu,ziu,e1,e2]
  refine .tok (zlm k h) hw ?_ (ih _)
  rcases hb with h4 | hb
  ·exact .inl h4
  ·exact .inr (spF_bd _ hb)
def parN:Nat->List UInt8->List UInt8
 | 0,u=>u
 | n+1,u=>[40,32]++parN n u++ [41]
def zr6:Nat->List Tk->List Tk
 | 0,l=>l
 | n+1,l=>tkS 40::(zr6 n l++ [tkS 41])
theorem zlw (u:List UInt8):∀ n,(parN n u).length=u.length+3 * n
 | 0=>rfl
 | n+1=>by
  rw [parN,List.length_append,List.length_append,zlw u n]
  show 2+(u.length+3 * n)+1=_
  omega
theorem zlG {u:List UInt8} {l:List Tk} (h:Lex u l):∀ n,Lex (parN n u) (zr6 n l)
 | 0=>h
 | n+1=>by
  have h1:=(zlG h n).app (zhU (c:=41) (by decide)).lex (by show isPt 41=false;rfl)
  have h2:=(zhU (c:=40) (by decide)).lexR (.inl rfl) h1.sp
  exact h2
theorem zrd {T:List Tk} {t:Tr} (h:Qt 0 T t):∀ n,Qt 0 (zr6 n T) t
 | 0=>h
 | n+1=>(zrd h n).par.up (Nat.zero_le _) (by decide)
theorem zp4 {t:Tr} (h:TrOk t) (hs:t.size≤64) (g:List Int):zdJ (spF g 0 ([32]++t.text++ [32]))= .ok t:=by
 have h1:Lex (t.text++ [32]) t.toks:=by
  have:=(zds t h).app (v:=[32]) (m:=[]) (.nil fun c hc=>by rw [List.mem_singleton.1 hc];rfl) rfl
  rwa [List.append_nil] at this
 have h2:Lex ([32]++t.text++ [32]) t.toks:=by rw [List.append_assoc];exact h1.sp
 exact znV (zkF h) hs (ziN (h2.spF g 0) _ [] rfl)
theorem zmH {t:Tr} (h:TrOk t) (hs:t.size≤64) (n:Nat):zdJ (parN n t.text)= .ok t:=znV (zrd (zkF h) n) hs (ziN (zlG (zds t h) n) _ [] rfl)
theorem zh5 {s:List UInt8} {t:Tr} (hs:s.length≤4000) (h:zdJ s= .ok t):zbk s=(t.flat 0,0,0):=by
 unfold zbk
 rw [if_neg (by omega),h]
noncomputable def kLyt:Kn:={ gmK with C:=[(16,zl7),(24,cFmt),(15,zpd),(23,zs5 4 80),(18,zs4),(29,zpa)] }
theorem zbR:KnOk Tryz.prog gmH kLyt:=zak.with (.cons ziG <| .cons zhk <| .cons znD <| .cons zsf <| .cons znE <| .cons zns.lift .nil)
set_option maxHeartbeats 1000000 in
theorem law5_ok:CtrOk Tryz.prog gmH 7 (lawCtr [ints,ints,u8]):=by
 refine zaq (K:=kLyt) zbR Tryz.func7 rfl rfl Tryz.call7 rfl (by decide) (by intro h;cases h) ?_
 rintro w0 X hX ⟨(dr:List Int),(gp:List Int),(nb:UInt8),_⟩ hp
 change AWP _ _ _ _ _ ⟨[(0,⟨ints,dr⟩),(1,⟨ints,gp⟩),(2,⟨u8,nb⟩)],[],0⟩ _
 have m0:(0:Int)≤3:=by decide
 have m1:(3:Int)≤1000000:=by decide
 obtain⟨htr,hsz,htx⟩:=zob (k:=80) (l:=dr) m0 m1
 have hfm:=zqf (k:=80) (l:=dr) m0 m1
 (repeat (first | refine zae ?_ | refine zac ?_ | refine zab ?_ | refine zad ?_));refine zaa hX zbR rfl ?_ ?_
 ·trivial
 (repeat (first | refine zae ?_ | refine zac ?_ | refine zab ?_ | refine zad ?_));refine zaa hX zbR rfl ?_ ?_
 ·trivial
 (repeat (first | refine zae ?_ | refine zac ?_ | refine zab ?_ | refine zad ?_));refine zaa hX zbR rfl ?_ ?_
 ·repeat' (first | exact trivial | assumption | exact m0 | exact m1 | (refine⟨?_,?_⟩) | (intro _) | exact Nat.le_of_ble_eq_true rfl | exact Int.natCast_nonneg _ | (simp_all [allP];done))
 obtain⟨t,ht⟩:∃ t,t=zgY 4 80 dr 3:=⟨_,rfl⟩
 rw [<-ht] at htr hsz htx hfm
 refine zap (σ':=⟨[(0,⟨ints,dr⟩),(1,⟨ints,gp⟩),(2,⟨u8,nb⟩),(7,⟨.bool,true⟩),(8,⟨.slice nd,t.flat 0⟩)],[],0⟩) ⟨⟨rfl,rfl,rfl,rfl,vRul (by rw [ht];rfl),trivial⟩,trivial,rfl,rfl⟩ ?_
 clear ht
 (repeat (first | refine zae ?_ | refine zac ?_ | refine zab ?_ | refine zad ?_));refine zaa hX zbR rfl ?_ ?_
 ·repeat' (first | exact trivial | assumption | (refine⟨?_,?_⟩) | (intro _) | exact Nat.le_of_ble_eq_true rfl | exact Int.natCast_nonneg _ | (simp_all [allP];done))
 refine zap (σ':=⟨[(0,⟨ints,dr⟩),(1,⟨ints,gp⟩),(2,⟨u8,nb⟩),(7,⟨.bool,true⟩),(8,⟨.slice nd,t.flat 0⟩),(9,⟨.str,t.text⟩),(10,⟨i64,(0:Int)⟩)],[],0⟩) ⟨⟨rfl,rfl,rfl,rfl,rfl,vStr (congrArg (fun x=>x.1) hfm),vI64 (congrArg (fun x=>x.2) hfm),trivial⟩,trivial,rfl,rfl⟩ ?_
 (repeat (first | refine zae ?_ | refine zac ?_ | refine zab ?_ | refine zad ?_));refine zaa hX zbR rfl ?_ ?_
 ·trivial
 refine zaf rfl (fun hb=>?_) (fun _=>?_)
 ·have hb:((0:Int) != 0)=true:=hb
  cases hb
 refine zac ?_
 have l1:1+t.text.length≤maxLen:=by unfold maxLen;omega
 have l2:List.length ([32]++t.text:List UInt8)+1≤maxLen:=by rw [List.length_append];show 1+_+1≤_;unfold maxLen;omega
 have l3:List.length ([32]++t.text++ [32]:List UInt8)≤100000:=by rw [List.length_append,List.length_append];show 1+_+1≤_;omega
 (repeat (first | refine zae ?_ | refine zac ?_ | refine zab ?_ | refine zad ?_));refine zaa hX zbR rfl ?_ ?_
 ·exact⟨l1,l2,l3⟩
 obtain⟨P,hP⟩:∃ P,P=zbk (spF gp 0 ([32]++t.text++ [32])):=⟨_,rfl⟩
 refine zap (σ':=⟨[(2,⟨u8,nb⟩),(7,⟨.bool,true⟩),(8,⟨.slice nd,t.flat 0⟩),(9,⟨.str,t.text⟩),(11,⟨.slice nd,P.1⟩),(13,⟨i64,P.2.2⟩)],[],0⟩) ⟨⟨rfl,rfl,rfl,rfl,vRul (by rw [hP];rfl),vI64 (by rw [hP];rfl),trivial⟩,trivial,rfl,rfl⟩ ?_
 (repeat (first | refine zae ?_ | refine zac ?_ | refine zab ?_ | refine zad ?_));refine zaa hX zbR rfl ?_ ?_
 ·trivial
 (repeat (first | refine zae ?_ | refine zac ?_ | refine zab ?_ | refine zad ?_));refine zaa hX zbR rfl ?_ ?_
 ·trivial
 refine zab ?_
 have hn:(nb % UInt8.ofNat (Int.toNat 9)).toNat≤9:=by
  rw [UInt8.toNat_mod]
  have:=Nat.mod_lt nb.toNat (show (UInt8.ofNat (Int.toNat 9)).toNat > 0 by decide)
  have e:(UInt8.ofNat (Int.toNat 9)).toNat=9:=by decide
  rw [e] at this ⊢
  omega
 obtain⟨n,hnn⟩:∃ n,n=(nb % UInt8.ofNat (Int.toNat 9)).toNat:=⟨_,rfl⟩
 rw [<-hnn] at hn
 refine AWP.loop (ι:=Nat) (fun j=>⟨[(2,⟨u8,nb⟩),(7,⟨.bool,true⟩),(8,⟨.slice nd,t.flat 0⟩),(9,⟨.str,t.text⟩),(11,⟨.slice nd,P.1⟩),(13,⟨i64,P.2.2⟩),(14,⟨.str,parN j t.text⟩),(15,⟨i64,(j:Int)⟩)],[],0⟩) (fun j=>j≤n) (fun j=>n - j) 0 (Nat.zero_le _) ⟨⟨rfl,rfl,rfl,rfl,rfl,rfl,rfl,rfl,trivial⟩,trivial,rfl,rfl⟩ ?_
 intro j hj
 have lj:=zlw t.text j
 (repeat (first | refine zae ?_ | refine zac ?_ | refine zab ?_ | refine zad ?_));refine zaa hX zbR rfl ?_ ?_
 ·repeat' (first | exact trivial | assumption | (refine⟨?_,?_⟩) | (intro _) | exact Nat.le_of_ble_eq_true rfl | exact Int.natCast_nonneg _ | (simp_all [allP];done))
 refine zaf rfl (fun hb=>?_) (fun hb=>?_)
 ·have hb:decide ((j:Int) < (((nb % UInt8.ofNat (Int.toNat 9)).toNat:Nat):Int))=true:=hb
  rw [<-hnn] at hb
  have hb:=of_decide_eq_true hb
  have k1:2+(parN j t.text).length≤maxLen:=by unfold maxLen;omega
  have k2:List.length ([40,32]++parN j t.text:List UInt8)+1≤maxLen:=by rw [List.length_append];show 2+_+1≤_;unfold maxLen;omega
  have k3:inR .i64 ((j:Int)+1):=zaR (by omega)
  (repeat (first | refine zae ?_ | refine zac ?_ | refine zab ?_ | refine zad ?_));refine zaa hX zbR rfl ?_ ?_
  ·exact⟨k1,k2⟩
  (repeat (first | refine zae ?_ | refine zac ?_ | refine zab ?_ | refine zad ?_));refine zaa hX zbR rfl ?_ ?_
  ·exact k3
  exact⟨j+1,by omega,by omega,⟨rfl,rfl,rfl,rfl,rfl,rfl,rfl,zck _,trivial⟩,trivial,rfl,rfl⟩
 have hb:decide ((j:Int) < (((nb % UInt8.ofNat (Int.toNat 9)).toNat:Nat):Int))=false:=hb
 rw [<-hnn] at hb
 have hb:=of_decide_eq_false hb
 obtain rfl:j=n:=by omega
 refine zad ?_
 have hq:(bif decide ((((parN j t.text).length:Nat):Int) > 4000) then true else decide (((t.text.length:Nat):Int) > 1000))=decide (4000 < (parN j t.text).length∨1000 < t.text.length):=by
  rw [b_or,Bool.eq_iff_iff,Bool.or_eq_true,decide_eq_true_iff,decide_eq_true_iff,decide_eq_true_iff]
  omega
 (repeat (first | refine zae ?_ | refine zac ?_ | refine zab ?_ | refine zad ?_));refine zaa hX zbR rfl ?_ ?_
 ·repeat' (first | exact trivial | assumption | (refine⟨?_,?_⟩) | (intro _) | exact Nat.le_of_ble_eq_true rfl | exact Int.natCast_nonneg _ | (simp_all [allP];done))
 refine zaf rfl (fun hb=>?_) (fun hb=>?_)
 ·(repeat (first | refine zae ?_ | refine zac ?_ | refine zal ?_ | refine zad ?_ | refine zab ?_ | refine zaa hX zbR rfl trivial ?_ | refine zaa hX zbR rfl id ?_ | refine zaa hX zbR rfl ⟨id,id⟩ ?_))
  exact AWP.ret ⟨.inr rfl,zax rfl trivial rfl rfl rfl⟩
 have hb:=of_decide_eq_false (hq.symm.trans hb)
 have hls:(spF gp 0 ([32]++t.text++ [32])).length≤4000:=by
  have:=zkA gp ([32]++t.text++ [32]) 0
  rw [List.length_append,List.length_append] at this
  have this:(spF gp 0 ([32]++t.text++ [32])).length≤3 * (1+t.text.length+1):=this
  omega
 have hP:P=(t.flat 0,0,0):=hP.trans (zh5 hls (zp4 htr (by omega) gp))
 have hQ:zbk (parN j t.text)=(t.flat 0,0,0):=zh5 (by omega) (zmH htr (by omega) j)
 refine zac ?_
 (repeat (first | refine zae ?_ | refine zac ?_ | refine zab ?_ | refine zad ?_));refine zaa hX zbR rfl ?_ ?_
 ·trivial
 refine zap (σ':=⟨[(7,⟨.bool,true⟩),(8,⟨.slice nd,t.flat 0⟩),(11,⟨.slice nd,t.flat 0⟩),(13,⟨i64,(0:Int)⟩),(16,⟨.slice nd,t.flat 0⟩),(18,⟨i64,(0:Int)⟩)],[],0⟩) ⟨⟨rfl,rfl,vRul (by rw [hP]),vI64 (by rw [hP]),vRul (congrArg (fun x=>x.1) hQ),vI64 (congrArg (fun x=>x.2.2) hQ),trivial⟩,trivial,rfl,rfl⟩ ?_
 (repeat (first | refine zae ?_ | refine zac ?_ | refine zab ?_ | refine zad ?_));refine zaa hX zbR rfl ?_ ?_
 ·repeat' (first | exact trivial | assumption | (refine⟨?_,?_⟩) | (intro _) | exact Nat.le_of_ble_eq_true rfl | exact Int.natCast_nonneg _ | (simp_all [allP];done))
 refine AWP.ret ⟨.inr rfl,zax rfl trivial rfl rfl ?_⟩
 show (bif (bif (bif (bif ((0:Int)==0) then zkB (t.flat 0) (t.flat 0) else false) then ((0:Int)==0) else false) then zkB (t.flat 0) (t.flat 0) else false) then true else false)=true
 rw [zfb.2 rfl]
 rfl
end Go.Proofs.YtpeaigpfddalcaaGreatDoor
