/-
  Texts of this claim, joined: what the statement's proof uses.
-/
import Derived.Test.YtdjjmoenpjlfeaaGreatDoorKA
set_option linter.unusedSimpArgs false
set_option linter.unusedVariables false
set_option maxRecDepth 100000
open Array renaming all_eq_true_iff_forall_mem -> uE,getD -> vM,getD_eq_getD_getElem? -> yA,getElem?_eq_getElem -> xG,getElem?_eq_some_iff -> zv,length_toList -> jz,mem_append -> fF,mem_toList_iff -> uX,replicate -> zG,setIfInBounds_comm -> wO,toList -> wg
open Bool renaming and_eq_true -> zh,not_eq_true' -> xJ,or_eq_true -> xO
open Go renaming DataW -> gB,Deferred -> jF,Ending -> gv,Frame -> gD,FuncId -> yR,LetsOut -> ux,MapEntry -> fy,MemPlace -> wW,Operand -> zK,Program -> zA,ResultVar -> vX,TypeDesc -> uY,TypeId -> zy,Value -> zi,World -> zj,loadVar -> vh,wpIn_mono -> zT
open Go.Addr renaming add_mid -> qe
open Go.Builtin renaming copy_ -> uS
open Go.Cell renaming okWide -> gC
open Go.Code renaming region -> gx
open Go.ComesIn renaming of_steps -> wX
open Go.DataW renaming TrodAll -> gV,trod -> uz
open Go.Deferred renaming ofValue -> jv
open Go.Fence renaming wide -> yU
open Go.Frame renaming atR -> fw,enter -> fV
open Go.Instr renaming checkKey -> gE,loadAt -> qL,mapUpdate -> fT,storeAt -> qO,sureAddr -> qa
open Go.Oper renaming upon_value -> gl,wp -> jV,wpIn_mono -> gw,wp_mono -> wi
open Go.Proofs.YtdjjmoenpjlfeaaGreatDoor renaming CellsAt -> ju,Frame -> yF,Keeps -> jk,OwnRep -> yZ,frz -> kX,thaw -> qK
open Go.Proofs.YtdjjmoenpjlfeaaGreatDoor.Act renaming put_get -> qq,put_size -> jm
open Go.Proofs.YtdjjmoenpjlfeaaGreatDoor.Frame renaming get -> zr,kill -> jU,thaw -> vJ
open Go.Proofs.YtdjjmoenpjlfeaaGreatDoor.Kept renaming refl -> jw
open Go.Proofs.YtdjjmoenpjlfeaaGreatDoor.Ownr renaming one -> uU,plain -> qJ
open Go.Proofs.YtdjjmoenpjlfeaaGreatDoor.Owns renaming get -> zq,get_kill -> kQ,kill -> xH
open Go.Proofs.YtdjjmoenpjlfeaaGreatDoor.RepC renaming keep -> qU
open Go.Proofs.YtdjjmoenpjlfeaaGreatDoor.RepD renaming agg -> jf,scalar -> xE
open Go.Proofs.YtdjjmoenpjlfeaaGreatDoor.RepV renaming keep -> xF,ofBool -> qR,slice -> kz
open Go.Region renaming Mode -> gt,binds -> qX,ready -> qG,wanted -> zX
open Go.Result renaming andThen -> gy,andThen_ok -> zD
open Go.RowKit renaming Below -> xW
open Go.RowKit.Below renaming refl -> zY
open Go.Sem renaming run_bind -> zJ,run_pure -> zI
open Go.StepsIn renaming trans -> fZ
open Go.Value renaming agg -> gN,cells -> jL,nilFunc -> vn,okWide -> wh,pointer -> zz
open Go.Value.agg renaming inj -> gW
open Go.World renaming alloc_heap_new -> xK,cell? -> qd,putObj_heap_other -> xD,putObj_heap_same -> jx
open List renaming all_cons -> vl,all_eq_true -> yH,append_assoc -> zB,append_nil -> yE,cons_append -> vH,eq_nil_iff_forall_not_mem -> jy,eq_nil_of_length_eq_zero -> xC,filter_congr -> fu,filter_cons -> wV,filter_eq_nil_iff -> gi,filter_eq_self -> gQ,getElem?_append_left -> j8,getElem?_append_right -> jr,getElem?_eq_some_iff -> xB,getElem?_map -> yB,getElem?_set_ne -> vu,getElem?_set_self -> vE,getElem?_take -> yM,getElem_append -> gR,head_eq_of_cons_eq -> jN,length -> zp,length_append -> zl,length_cons -> yT,length_drop -> yY,length_map -> qY,length_nil -> jX,length_range -> wL,length_set -> qP,length_singleton -> qy,length_take -> zP,map_cons -> qN,mem_cons -> zE,mem_cons_of_mem -> yO,mem_cons_self -> yN,mem_iff_getElem? -> vf,mem_map -> jo,mem_of_getElem? -> ja,mem_range -> qr,mem_singleton -> zQ,nil_append -> qn,range -> xQ,replicate -> zg,singleton_append -> uH,size_toArray -> jS,take_append_drop -> qx,take_of_length_le -> qS,take_succ_cons -> gP,take_take -> qZ
open List.cons renaming inj -> kg
open Nat renaming add_mul -> jE,add_zero -> jT,beq -> yG,beq_eq -> qE,ble_eq -> vz,blt -> zO,eq_of_beq_eq_true -> xL,le_of_ble_eq_true -> zb,le_refl -> zu,le_succ_of_le -> uC,le_trans -> zL,lt_of_lt_of_le -> zF,lt_succ_self -> qw,min_eq_left -> qm,mul_one -> vq,not_lt_zero -> yS,zero_add -> xV,zero_le -> zk
open Ne renaming symm -> xI
open Option renaming bind_eq_some_iff -> vy,getD_some -> uP,map_eq_some_iff -> yC
open Option.some renaming inj -> yP
open UInt8 renaming ofNat -> zM
open Go Go.RowKit
namespace Go.Proofs.YtdjjmoenpjlfeaaGreatDoor
section
variable {P:zA}{md:gt}{ops:Array Oper}{R:Exit->Act->zj->Prop}
theorem zp2{m:Nat}{x0:Array Bool}(hb:zeQ ops=true)(hm:m<=ops.size)(inv:HeadInv .any ops m x0){i:Nat}(hi:i<m)(x8:x0.getD i false=false):qG .any ops x0≠ []:=by
 have x6:∀k,∀i,i<=k->i<m->x0.getD i false=false->qG .any ops x0≠ []:=by
  intro k
  induction k with
  |zero=>
   intro i x5 x9 hl;have:i=0:=o_;subst this;intro h0;have x2:0<ops.size:=o_;have x1:0∈qG .any ops x0:=mem_ready.2 ⟨getD_in (by rw[inv.size];exact x2) hl,ops[0],by simp[x2],λe he x3=>by
    have h1:=yH.1 hb 0 (qr.2 x2);simp only[xG x2]at h1;have h2:=(uE.1 h1) e he;simp[x3]at h2⟩
   rw[h0]at x1;cases x1
  |succ k ih=>
   intro i x5 x9 hl;by_cases x4:∃j,j<i/\x0.getD j false=false
   .obtain⟨j,hj,x7⟩:=x4;exact ih j o_ o_ x7
   .intro h0;have x2:i<ops.size:=o_;have x1:i∈qG .any ops x0:=mem_ready.2 ⟨getD_in (by rw[inv.size];exact x2) hl,ops[i],by simp[x2],λe he x3=>by
     have h1:=yH.1 hb i (qr.2 x2);simp only[xG x2]at h1;have h2:=(uE.1 h1) e he;simp only[x3,Bool.not_true,Bool.or_false]at h2;have h3:e.on<i:=by simpa using h2
     cases h4:x0.getD e.on false with
     |true=>rfl
     |false=>exact absurd ⟨e.on,h3,h4⟩ x4⟩
    rw[h0]at x1;cases x1
 exact x6 i i (zu _) hi x8
def left(x0:Array Bool)(m:Nat):Nat:=((xQ m).filter λi=>!x0.getD i false).length
theorem zl7{x0:Array Bool}{m i:Nat}(hi:i<m)(hs:i<x0.size)(x4:x0.getD i false=false):left (x0.setIfInBounds i true) m+1=left x0 m:=by
 unfold left;have h1:(xQ m).filter (λj=>!x0.getD j false)=(xQ m).filter (λj=>!(x0.setIfInBounds i true).getD j false||decide (j=i)):=by
  apply fu;intro j hj;by_cases x2:j=i
  .subst x2;simp[x4]
  .rw[getD_set_ne false (xI x2)];simp[x2]
 rw[h1];have h2:∀(l:List Nat),l.Nodup->i∈l->(l.filter λj=>!(x0.setIfInBounds i true).getD j false||decide (j=i)).length=(l.filter λj=>!(x0.setIfInBounds i true).getD j false).length+1:=by
  have x5:(x0.setIfInBounds i true).getD i false=true:=by simp[vM,hs]
  intro l
  induction l with
  |nil=>intro _ h;cases h
  |cons a l ih=>
   intro x3 x1;rw[List.nodup_cons]at x3;by_cases ha:a=i
   .subst ha;have h3:l.filter (λj=>!(x0.setIfInBounds a true).getD j false||decide (j=a))=l.filter (λj=>!(x0.setIfInBounds a true).getD j false):=by
     apply fu;intro j hj;have:j≠a:=λe=>x3.1 (e▸hj);simp[this]
    rw[wV,wV,if_pos (by simp),if_neg (by rw[x5];simp),h3,yT]
   .have x6:i∈l:=by rcases zE.1 x1 with h|h;exact absurd h.symm ha;exact h
    have:=ih x3.2 x6;simp only[wV,ha,decide_false,Bool.or_false];split
    .simp only[yT,this]
    .exact this
 exact(h2 _ List.nodup_range (qr.2 hi)).symm
theorem zos{x0:Array Bool}{m:Nat}(h:left x0 m=0):∀i,i<m->x0.getD i false=true:=by
 intro i hi;unfold left at h;have h1:=xC h;have h2:=gi.1 h1 i (qr.2 hi)
 simpa using h2
theorem zqs{x0:Array Bool}{m k:Nat}(h:left x0 m=k+1):∃i,i<m/\x0.getD i false=false:=by
 unfold left at h;cases hl:(xQ m).filter (λi=>!x0.getD i false) with
 |nil=>rw[hl]at h;cases h
 |cons a l=>
  have:a∈(xQ m).filter (λi=>!x0.getD i false):=by rw[hl];simp
  rw[List.mem_filter,qr]at this;exact⟨a,this.1,by simpa using this.2⟩
theorem zhJ{m:Nat}(hm:m<=ops.size)(hb:zeQ ops=true)(x7:m=ops.size\/(Region.sinkB .any ops m=true/\Region.chainB .any ops m=true))(I:Array Bool->Act->zj->Prop){g:Nat}
  (x3:∀x0 a w,I x0 a w->∀i,i<m->i∈qG .any ops x0->wpOp P ops R i (I (x0.setIfInBounds i true)) a w)
  (x2:∀x0 a w,HeadInv .any ops m x0->(∀i,i<m->x0.getD i false=true)->I x0 a w->wpAny P .any ops R g x0 a w):
  ∀(f:Nat)(x0:Array Bool)(a:Act)(w:zj),left x0 m=f->HeadInv .any ops m x0->I x0 a w->wpAny P .any ops R (f+g) x0 a w:=by
 intro f
 induction f with
 |zero=>
  intro x0 a w hl inv hI;rw[xV];exact x2 x0 a w inv (zos hl) hI
 |succ f ih=>
  intro x0 a w hl inv hI;obtain⟨i0,x6,x1⟩:=zqs hl;have xa:=zp2 hb hm inv x6 x1;rw[show f+1+g=(f+g)+1 by omega];refine⟨λh0=>absurd h0 xa,λi hi=>?_⟩;have x9:=(mem_ready.1 hi).1;have x4:i<ops.size:=by
   obtain⟨_,o,ho,_⟩:=mem_ready.1 hi;exact(zv.1 ho).1
  have x5:i<m:=by
   rcases Nat.lt_or_ge i m with h|h
   .exact h
   .rcases x7 with h1|⟨h1,h2⟩
    .omega
    .exact absurd hi (tail_waits h1 h2 o_ inv _ i0 rfl x6 (getD_in (by rw[inv.size];omega) x1) i h)
  refine wpOp_mono (λa' w' x8=>ih _ a' w' ?_ (inv.set hi x5) x8) (x3 x0 a w hI i x5 hi);have:=zl7 x5 (by rw[inv.size];exact x4) (getD_both x9);omega
end
def zdG:yF->List Oper->List V->yF
 |F,o::l,v::vs=>zdG ((o.dst.getD 0,v)::F) l vs
 |F,_,_=>F
theorem zcR:∀(l:List Oper)(vs:List V)(F:yF)(t:Nat),(∀o∈l,o.dst.isSome=true)->(∀o∈l,o.dst≠some t)->zr (zdG F l vs) t=zr F t
 | [],_,_,_,_,_=>by simp[zdG]
 |o::l,[],_,_,_,_=>by simp[zdG]
 |o::l,v::vs,F,t,hs,h=>by
  simp only[zdG];rw[zcR l vs _ t (λo ho=>hs o (by simp[ho])) (λo ho=>h o (by simp[ho])),zal,if_neg];intro e;have h1:=hs o (by simp);have h2:=h o (by simp);cases hd:o.dst with
  |none=>rw[hd]at h1;cases h1
  |some d=>rw[hd]at h2 e;exact h2 (by rw[<-e];rfl)
theorem ze8:∀(l:List Oper)(vs:List V)(F:yF)(t k:Nat)(o:Oper)(v:V),(∀o∈l,o.dst.isSome=true)->l[k]? =some o->o.dst=some t->vs[k]? =some v->
  (∀k' o',k<k'->l[k']? =some o'->o'.dst≠some t)->zr (zdG F l vs) t=v
 |o::l,v::vs,F,t,0,o',v',hs,hk,hd,hv,hno=>by
  cases hk;cases hv;simp only[zdG];rw[zcR l vs _ t (λo ho=>hs o (by simp[ho])) (λx1 ho=>by
   obtain⟨k',x0⟩:=vf.1 ho;exact hno (k'+1) x1 o_ (by simpa using x0)),zal,if_pos (by rw[hd];rfl)]
 |o::l,v::vs,F,t,k+1,o',v',hs,hk,hd,hv,hno=>by
  simp only[zdG];exact ze8 l vs _ t k o' v' (λo ho=>hs o (by simp[ho])) (by simpa using hk) hd (by simpa using hv) λk' x1 x2 x0=>hno (k'+1) x1 o_ (by simpa using x0)
 | [],_,_,_,_,_,_,_,hk,_,_,_=>by simp at hk
 |_::_,[],_,_,_,_,_,_,_,_,hv,_=>by simp at hv
section
variable {P:zA}{K:Kn}{w0:zj}{X:Ownr}{n:Nat}{Y:AS}{U:Nat->zi}{a:Act}{w:zj}{R:Exit->Act->zj->Prop}{ops:Array Oper}
theorem zie:∀(l:List Oper)(Y:AS)(r:List Prop×AS),zi7 K n ops l Y=some r->∃rs:List (List Prop×V),rs.length=l.length/\(allP r.1->∀q∈rs,allP q.1)/\r.2={ Y with F:=zdG Y.F l (rs.map (·.2)) }/\
  ∀i o,l[i]? =some o->∃d q,o.dst=some d/\d<n/\rs[i]? =some q/\gOp K n ops Y.E (zdG Y.F (l.take i) ((rs.map (·.2)).take i)) o=some q
 | [],Y,r,h=>by
  cases h;exact⟨[],rfl,λ_ q hq=>by simp at hq,rfl,λi o hi=>by simp at hi⟩
 |o::l,Y,r,h=>by
  obtain⟨F,E,nx⟩:=Y;simp only[zi7]at h;split at h
  .rename_i d hd;split at h
   .rename_i x1;split at h<;>first|(cases h;done)|skip
    rename_i p t x h1;obtain⟨q',h3,rfl⟩:=ze9 h;obtain⟨rs,g1,g2,g3,g4⟩:=zie l _ _ h3;refine⟨(p,⟨t,x⟩)::rs,by simp[g1],λhp y hx=>?_,?_,λi o' hi=>?_⟩
    .rw[zav]at hp;rcases zE.1 hx with rfl|hx
     .exact hp.1
     .exact g2 hp.2 y hx
    .rw[g3];simp only[qN,zdG,hd,uP]
    .cases i with
     |zero=>
      cases hi;exact⟨d,_,hd,by simpa using x1,rfl,by simpa [zdG] using h1⟩
     |succ i=>
      obtain⟨d',x0,e1,e2,e3,e4⟩:=g4 i o' (by simpa using hi);refine⟨d',x0,e1,e2,by simpa using e3,?_⟩;simp only[qN,gP,zdG,hd,uP]at e4 ⊢;exact e4
   .cases h
  .cases h
theorem zoW(hK:KnOk P X.G K)(hX:X.Ok w0)(h:Sim w0 X n Y U a w){m:Nat}(hB:zkV ops m=true){r1:List Prop×AS}(h1:zi7 K n ops (ops.toList.take m) Y=some r1)
  (hp1:allP r1.1) (hT:∀a' w',Sim w0 X n r1.2 U a' w'->wpList P ops R (ops.toList.drop m) a' w'):wpAny P .any ops R ops.size (zG ops.size false) a { w with drawn:=w.drawn+1 }:=by
 simp only[zkV,zh,vz]at hB;obtain⟨⟨⟨⟨hms,hflow⟩,hback⟩,htl0⟩,hseq⟩:=hB;have htl:m=ops.size\/(Region.sinkB .any ops m=true/\Region.chainB .any ops m=true):=by
  simp only[xO,zh,qE]at htl0;exact htl0
 obtain⟨rs,hl,hps,hr1,hspec⟩:=zie _ _ _ h1;have hlen:(ops.toList.take m).length=m:=by simp;omega
 rw[hlen]at hl;have hget:∀i,i<m->∃o d q,ops[i]? =some o/\o.dst=some d/\d<n/\rs[i]? =some q/\gOp K n ops Y.E (zdG Y.F (ops.toList.take i) ((rs.map (·.2)).take i)) o=some q:=by
  intro i hi;have hlt:i<ops.size:=o_;obtain⟨d,q,e1,e2,e3,e4⟩:=hspec i ops[i] (by rw[yM,if_pos hi];simp[hlt]);rw[qZ,qm o_]at e4;exact⟨ops[i],d,q,by simp[hlt],e1,e2,e3,e4⟩
 have hsome:∀k,k<=m->∀o∈ops.toList.take k,o.dst.isSome=true:=by
  intro k hk o ho;obtain⟨i,hi⟩:=vf.1 ho;rw[yM]at hi;split at hi
  .obtain⟨o',d,q,e1,e2,_⟩:=hget i o_;have:o'=o:=by
    have:ops.toList[i]? =some o':=by simpa using e1
    rw[this]at hi;cases hi;rfl
   rw[<-this,e2];rfl
  .cases hi
 have hdist:∀i j oi oj,i<m->j<m->ops[i]? =some oi->ops[j]? =some oj->i≠j->oi.dst≠oj.dst:=by
  intro i j oi oj hi hj hoi hoj hij;have h3:=yH.1 hflow j (qr.2 hj);rw[hoj]at h3;have h4:=yH.1 h3 i (qr.2 hi);rw[hoi]at h4;simp only[zh,xO,qE,xJ]at h4;rcases h4.1 with h5|h5
  .exact absurd h5 hij
  .intro e;rw[e]at h5;simp at h5
 have hdep:∀i j oi oj t,i<m->j<m->ops[i]? =some oi->ops[j]? =some oj->t∈znw ops oj->oi.dst=some t->i<j/\∃e∈oj.after,e.on=i/\qX .any e=true:=by
  intro i j oi oj t hi hj hoi hoj ht hd;have h3:=yH.1 hflow j (qr.2 hj);rw[hoj]at h3;have h4:=yH.1 h3 i (qr.2 hi);rw[hoi]at h4;simp only[zh]at h4;have h5:=yH.1 h4.2 t ht;rw[hd]at h5;simp only[beq_self_eq_true,Bool.not_true,Bool.false_or,zh]at h5;refine⟨by simpa using h5.1,?_⟩;obtain⟨e,he,h6⟩:=Array.any_eq_true'.1 h5.2;simp only[zh,qE]at h6;exact⟨e,he,h6.1,h6.2⟩
 let W:=w.drew
 have hsim:Sim w0 X n Y U a W:=⟨h.sz,h.df,h.bel.then ((zY _ _).drew),λs=>xF (.of_below ((zY _ _).drew) λ_ _ h=>h) _ _ _ (h.fr s),λi o ho=>(h.own i o ho).keep (.of_below ((zY _ _).drew) λ_ _ h=>h) λ_ _=>rfl,h.new,h.inj,h.lt,h.fix,h.hb,h.hE⟩
 let I:Array Bool->Act->zj->Prop:=λlisted a' w'=>
  a'.tmps.size=n/\a'.defers=X.D/\xW W.heap.size W w'/\(∀s,(∀i o,i<m->ops[i]? =some o->o.dst≠some s)->a'.tmps.getD s undef=a.tmps.getD s undef)/\
  (∀i o d q,i<m->ops[i]? =some o->o.dst=some d->rs[i]? =some q->listed.getD i false=true->RepV w' (OSet X Y.E U) U q.2.t q.2.x (a'.tmps.getD d undef))
 have hsum:ops.size=left (zG ops.size false) m+(ops.size-m):=by
  have:left (zG ops.size false) m=m:=by
   unfold left;have:(xQ m).filter (λi=>!(zG ops.size false).getD i false)=xQ m:=by
    rw[gQ];intro i _;rw[getD_replicate_false];rfl
   rw[this,wL]
  omega
 have hown:∀w',xW W.heap.size W w'->∀i o,zq Y.E i=some o->yZ w' (OSet X Y.E U) U 0 (U i) o:=λw' hb i o ho=>
  (hsim.own i o ho).keep (.of_below hb λ_ _ h=>h) λg hg=>hb.block g ((hsim.own i o ho).block_lt hg).2
 have hO:∀w',xW W.heap.size W w'->∀g,OSet X Y.E U g->g<w'.heap.size:=λw' hb g hg=>zF (hsim.hO hX g hg) hb.size
 suffices hkey:wpAny P .any ops R (left (zG ops.size false) m+(ops.size-m)) (zG ops.size false) a W by
  rw[<-hsum]at hkey;exact hkey
 refine zhJ hms hback htl I ?_ ?_ _ _ a W rfl ⟨by simp,λj oj _ hlj=>(by rw[getD_replicate_false]at hlj;cases hlj),λt _ ht=>getD_in (by simpa using ht) (getD_replicate_false _ _)⟩ ⟨h.sz,h.df,zY _ _,λ_ _=>rfl,λi o d q _ _ _ _ hli=>by rw[getD_replicate_false]at hli;cases hli⟩
 .
  rintro listed a' w' ⟨i1,i2,i3,i4,i5⟩ i him hir;obtain⟨hun,o',ho',hdone⟩:=mem_ready.1 hir;obtain⟨o,d,q,ho,hd,hdn,hq,hg⟩:=hget i him;have:o'=o:=by rw[ho]at ho';cases ho';rfl
  subst this;unfold wpOp;rw[ho];simp only;have hqp:=hps hp1 q (ja hq);refine zrG hK (hX.2.2 w' (hsim.bel.then i3)) (hO w' i3) (hown w' i3) hg hqp i1 (λt ht=>?_) λu w2 hb2 hr2=>?_
  .by_cases hex:∃k ok,k<m/\ops[k]? =some ok/\ok.dst=some t
   .obtain⟨k,ok,hkm,hok,hkd⟩:=hex;obtain⟨hki,e,he,heon,heb⟩:=hdep k i ok o' t hkm him hok ho ht hkd;have hlk:=hdone e he heb;rw[heon]at hlk;obtain⟨ok',dk,qk,g1,g2,g3,g4,g5⟩:=hget k hkm;have:ok'=ok:=by rw[hok]at g1;cases g1;rfl
    subst this;have hv:=ze8 (ops.toList.take i) ((rs.map (·.2)).take i) Y.F t k ok' qk.2 (hsome i o_) (by rw[yM,if_pos hki];simpa using hok) hkd
     (by rw[yM,if_pos hki,yB,g4];rfl) (λk' o'' hkk hk'=>by
       rw[yM]at hk';split at hk'
       .have:=hdist k' k o'' ok' o_ hkm (by simpa using hk') hok o_;rw[hkd]at this;exact this
       .cases hk')
    rw[hv];exact i5 k ok' t qk hkm hok hkd g4 hlk
   .have hno:∀o∈ops.toList.take i,o.dst≠some t:=by
     intro o2 ho2 hd2;obtain⟨k,hk⟩:=vf.1 ho2;rw[yM]at hk;split at hk
     .exact hex ⟨k,o2,by omega,by simpa using hk,hd2⟩
     .cases hk
    rw[zcR _ _ _ _ (hsome i o_) hno,i4 t λk ok hk hok hdk=>hex ⟨k,ok,hk,hok,hdk⟩];exact xF (.of_below i3 λ_ _ h=>h) _ _ _ (hsim.fr t)
  .have hb:xW W.heap.size W w2:=i3.trans (hb2.mono i3.size);rw[hd];refine⟨by rw[jm];exact i1,by rw[Act.put_defers];exact i2,hb,λs hs=>?_,λj oj dj qj hj hoj hdj hqj hlj=>?_⟩
   .rw[qq (by rw[i1];exact hdn),if_neg (λe=>hs i o' him ho (by rw[hd,e]))];exact i4 s hs
   .rw[qq (by rw[i1];exact hdn)];by_cases hji:i=j
    .subst hji;have:oj=o':=by rw[ho]at hoj;cases hoj;rfl
     subst this;have:dj=d:=by rw[hd]at hdj;cases hdj;rfl
     subst this;have:qj=q:=by rw[hq]at hqj;cases hqj;rfl
     subst this;rw[if_pos rfl];exact hr2
    .have hne:d≠dj:=λe=>hdist i j o' oj him hj ho hoj hji (by rw[hd,hdj,e]);rw[if_neg hne];rw[getD_set_ne false hji]at hlj;exact xF (.of_below hb2 λ_ _ h=>h) _ _ _ (i5 j oj dj qj hj hoj hdj hqj hlj)
 .
  rintro listed a' w' inv hall ⟨i1,i2,i3,i4,i5⟩;have hlist:listed=(zg m true++zg (ops.size-m) false).toArray:=by
   apply Array.ext
   .rw[inv.size];simp;omega
   .intro i h1 h2;rw[inv.size]at h1;by_cases him:i<m
    .have:=hall i him;simp only[vM,show i<listed.size by rw[inv.size];exact h1,dif_pos]at this;have e:listed[i]=true:=this;rw[e];simp[gR,him]
    .have:=inv.tail i o_ h1;have:=getD_both this;simp only[vM,show i<listed.size by rw[inv.size];exact h1,dif_pos]at this;have e:listed[i]=false:=this;rw[e];simp[gR,him]
  subst hlist;have hfin:Sim w0 X n r1.2 U a' w':=by
   rw[hr1];refine⟨i1,i2,hsim.bel.then i3,λs=>?_,hown w' i3,hsim.new,hsim.inj,hsim.lt,hsim.fix,λs=>?_,hsim.hE⟩
   .show RepV w' (OSet X Y.E U) U (zr (zdG Y.F (ops.toList.take m) (rs.map (·.2))) s).t _ _;by_cases hex:∃k ok,k<m/\ops[k]? =some ok/\ok.dst=some s
    .obtain⟨k,ok,hkm,hok,hkd⟩:=hex;obtain⟨ok',dk,qk,g1,g2,g3,g4,g5⟩:=hget k hkm;have:ok'=ok:=by rw[hok]at g1;cases g1;rfl
     subst this;have hv:=ze8 (ops.toList.take m) (rs.map (·.2)) Y.F s k ok' qk.2 (hsome m (zu _)) (by rw[yM,if_pos hkm];simpa using hok) hkd
      (by rw[yB,g4];rfl) (λk' o'' hkk hk'=>by
        rw[yM]at hk';split at hk'
        .have:=hdist k' k o'' ok' o_ hkm (by simpa using hk') hok o_;rw[hkd]at this;exact this
        .cases hk')
     rw[hv];exact i5 k ok' s qk hkm hok hkd g4 (hall k hkm)
    .have hno:∀o∈ops.toList.take m,o.dst≠some s:=by
      intro o2 ho2 hd2;obtain⟨k,hk⟩:=vf.1 ho2;rw[yM]at hk;split at hk
      .exact hex ⟨k,o2,by omega,by simpa using hk,hd2⟩
      .cases hk
     rw[zcR _ _ _ _ (hsome m (zu _)) hno,i4 s λk ok hk hok hdk=>hex ⟨k,ok,hk,hok,hdk⟩];exact xF (.of_below i3 λ_ _ h=>h) _ _ _ (hsim.fr s)
   .show(zr (zdG Y.F (ops.toList.take m) (rs.map (·.2))) s).bound<=Y.nx;have hbd:∀k,k<=m->∀s,(zr (zdG Y.F (ops.toList.take k) ((rs.map (·.2)).take k)) s).bound<=Y.nx:=by
     intro k
     induction k with
     |zero=>intro _ s;simpa [zdG] using hsim.hb s
     |succ k ih=>
      intro hk s;obtain⟨o,d,q,e1,e2,e3,e4,e5⟩:=hget k o_;have hb:=zjY e5 (ih o_) (λi o ho=>⟨hsim.lt i o ho,hsim.hE i o ho⟩) λt Z ht=>(hK.t.lay t Z ht).data;by_cases hsd:o.dst=some s
      .have hv:=ze8 (ops.toList.take (k+1)) ((rs.map (·.2)).take (k+1)) Y.F s k o q.2 (hsome (k+1) hk) (by rw[yM,if_pos o_];simpa using e1) hsd
        (by rw[yM,if_pos o_,yB,e4];rfl) (λk' o'' hkk hk'=>by
          rw[yM]at hk';split at hk'
          .omega
          .cases hk')
       rw[hv];exact hb
      .by_cases hex:∃k' ok,k'<k/\ops[k']? =some ok/\ok.dst=some s
       .obtain⟨k',ok,hk',hok,hkd⟩:=hex;obtain⟨ok',dk,qk,g1,g2,g3,g4,g5⟩:=hget k' o_;have:ok'=ok:=by rw[hok]at g1;cases g1;rfl
        subst this;have both:∀j,k'<j->j<=m->zr (zdG Y.F (ops.toList.take j) ((rs.map (·.2)).take j)) s=qk.2:=λj hj hjm=>
         ze8 _ _ Y.F s k' ok' qk.2 (hsome j hjm) (by rw[yM,if_pos hj];simpa using hok) hkd
          (by rw[yM,if_pos hj,yB,g4];rfl) (λk2 o'' hkk hk2=>by
            rw[yM]at hk2;split at hk2
            .have:=hdist k2 k' o'' ok' o_ o_ (by simpa using hk2) hok o_;rw[hkd]at this;exact this
            .cases hk2)
        rw[both (k+1) o_ hk, <-both k hk' o_];exact ih o_ s
       .have hno:∀o∈ops.toList.take (k+1),o.dst≠some s:=by
         intro o2 ho2 hd2;obtain⟨k2,hk2⟩:=vf.1 ho2;rw[yM]at hk2;split at hk2
         .have hk2':ops[k2]? =some o2:=by simpa using hk2
          by_cases hkk:k2=k
          .subst hkk;rw[e1]at hk2';cases hk2';exact hsd hd2
          .exact hex ⟨k2,o2,by omega,hk2',hd2⟩
         .cases hk2
        rw[zcR _ _ _ _ (hsome (k+1) hk) hno];exact hsim.hb s
    have:=hbd m (zu _) s;rwa[qS (l:=rs.map (·.2)) (by simp[hl])]at this
  have hlt:(ops.toList.drop m).length=ops.size-m:=by simp
  have:=wpAny_of_seq (P:=P) (md:=.any) (Q':=R) (ops:=ops) (ops.toList.drop m) m (zg m true++zg (ops.size-m) false).toArray a' w' (λj=>by simp[List.getElem?_drop]) (by rw[hlt];exact hseq) (hT a' w' hfin);rwa[hlt]at this
theorem ziS(hK:KnOk P X.G K)(hX:X.Ok w0)(h:Sim w0 X n Y U a w){m:Nat}(hB:zkV ops m=true){r1 r2:List Prop×AS}(h1:zi7 K n ops (ops.toList.take m) Y=some r1)(h2:aSeq K n ops (ops.toList.drop m) r1.2=some r2)
  (x1:allP r1.1) (x0:allP r2.1) (hR:∀U' a' w',Sim w0 X n r2.2 U' a' w'->R .normal a' w'):wpAny P .any ops R ops.size (zG ops.size false) a { w with drawn:=w.drawn+1 }:=
 zoW hK hX h hB h1 x1 λ_ _ hs=>zdg hK hX _ hs h2 x0 hR
end
inductive NOp where
 |pure (d:Nat) (q:List Prop×V)
 |var (d:Nat) (Z:Ty)
 |set (s:Nat) (Z:Ty) (p:List Prop) (y:Z.T)
section
variable {P:zA}{K:Kn}{w0:zj}{X:Ownr}{n:Nat}{Y:AS}{U:Nat->zi}{a:Act}{w:zj}{R:Exit->Act->zj->Prop}{ops:Array Oper}
def O2(X:Ownr)(E:Owns)(U:Nat->zi)(rs:List NOp)(x0:Array Bool)(a:Act)(g:Nat):Prop:=
 OSet X E U g\/∃i d Z,rs[i]? =some (NOp.var d Z)/\x0.getD i false=true/\zai (a.tmps.getD d undef)=some g
end
def zcP:Option Nat->Fence
 |none=>yU
 |some l=>yU.inRound l
theorem zem(ρ:Option Nat)(f:yR):(zcP ρ).fn f:=by cases ρ<;>trivial
theorem zkl(ρ:Option Nat):(zcP ρ).depth=none:=by cases ρ<;>rfl
theorem ziX{ρ:Option Nat}{n:Nat}{P:zA}{f:yR}{args:Array zi}{w:zj}{R:gv->zj->Prop}(h:Calls P f args w R):CallsIn (zcP ρ) n P f args w R:=by
 cases ρ with
 |none=>exact callsIn_wide.2 h
 |some l=>exact CallsIn.inRound l (callsIn_wide.2 h)
theorem zjr{ρ:Option Nat}{n:Nat}{P:zA}{row:String}{args:Array zi}{w:zj}{R:zi->zj->Prop}(h:Rows P row args w R):RowsIn (zcP ρ) n P row args w R:=by
 have key:RowsIn yU n P row args w R:=λc cs _=>let ⟨v,w',r,s⟩:=h c cs;⟨v,w',r,stepsIn_wide.2 s⟩
 cases ρ with
 |none=>exact key
 |some l=>exact key
theorem zmn{ρ:Option Nat}{p:Prop}:(zcP ρ).depth.isSome=true->p:=by rw[zkl];intro h;cases h
section
variable {P:zA}{ρ:Option Nat}{n:Nat}{ops:Array Oper}{a:Act}{w:zj}
theorem za2{o:Oper}(hd:∀c,o.op≠ .defer c){N:Act->zj->Prop}{R:Exit->Act->zj->Prop}(h:o.wp P a w N R):o.wpIn (zcP ρ) n P a w N R:=by
 refine⟨λf _=>zem ρ f,?_⟩;rw[Oper.semAt_eq _ _ _ hd];unfold jV at h;generalize (execOp a.eval o).run P w=r at h;cases r with
 |ok x w'=>
  cases x with
  |enter f args=>exact⟨zmn,ziX h⟩
  |row r args=>exact⟨zmn,zjr h⟩
  |round l f tmps assign body=>exact h.elim
  |_=>exact h
 |halt x w'=>cases x<;>exact h
def zaE(l:List Oper):Bool:=l.all λo=>match o.op with |.defer _=>false|_=>true
theorem zh3{l:List Oper}(h:zaE l=true):∀o∈l,∀c,o.op≠ .defer c:=by
 intro o ho c e;have:=yH.1 h o ho;rw[e]at this;cases this
theorem zjF{o:Oper}{l:List Oper}(h:zaE (o::l)=true):(∀c,o.op≠ .defer c)/\zaE l=true:=
 ⟨zh3 h o (yN ..),by simp only[zaE,vl,zh]at h ⊢;exact h.2⟩
theorem zaB{R:Exit->Act->zj->Prop}(x0:¬ux R):∀(l:List Oper),zaE l=true->∀{a:Act}{w:zj},wpList P ops R l a w->wpListIn (zcP ρ) n P ops R l a w
 | [],_,_,_,h=>h
 |o::l,hl,a,w,h=>by
  obtain⟨hd,x1⟩:=zjF hl;have ih:=λa w h=>zaB x0 l x1 (a:=a) (w:=w) h;simp only[wpListIn];simp only[wpList]at h;split at h
  .rename_i hw;rw[if_pos hw];rcases h with h|h
   .exact gw ih (za2 hd h)
   .exact(x0 h.2).elim
  .rename_i hw;rw[if_neg hw];exact⟨λf _=>zem ρ f,ih _ _ h⟩
theorem zhr{R:Exit->Act->zj->Prop}(x0:¬ux R)(hl:zaE ops.toList=true){i:Nat}{N:Act->zj->Prop}{a:Act}{w:zj}(h:wpOp P ops R i N a w):wpOpIn (zcP ρ) n P ops R i N a w:=by
 unfold wpOp at h;unfold wpOpIn;split
 .rename_i e;rw[e]at h;exact h
 .rename_i o e;rw[e]at h;have hd:=zh3 hl o (uX.2 (Array.mem_of_getElem? e));simp only at h;split at h
  .rename_i hw;rw[if_pos hw];rcases h with h|h
   .exact za2 hd h
   .exact(x0 h.2).elim
  .rename_i hw;rw[if_neg hw];exact⟨λf _=>zem ρ f,h⟩
theorem zbc{R:Exit->Act->zj->Prop}{md:gt}(x2:¬ux R)(hl:zaE ops.toList=true):∀(x1:Nat){x0:Array Bool}{a:Act}{w:zj},wpAny P md ops R x1 x0 a w->wpAnyIn (zcP ρ) n P md ops R x1 x0 a w
 |0,_,_,_,h=>h
 |x1+1,x0,a,w,h=>⟨h.1,λi hi=>wpOpIn_mono (λ_ _ h=>zbc x2 hl x1 h) (zhr x2 hl (h.2 i hi))⟩
section regions
variable {K:Kn}{w0:zj}{X:Ownr}{k:Nat}{Y:AS}{U:Nat->zi}{R:Exit->Act->zj->Prop}
theorem zbw{Φ:Act->zj->Prop}:¬ux (λe a w=>e=.normal/\Φ a w):=λ⟨_,_,h,_⟩=>by cases h
theorem zmS(hK:KnOk P X.G K)(hX:X.Ok w0)(h:Sim w0 X k Y U a w){id:Nat}{r:List Prop×AS}(hd:zaE ops.toList=true)(hs:aSeq K k ops ops.toList Y=some r)(hp:allP r.1)
  (hR:∀U' a' w',Sim w0 X k r.2 U' a' w'->R .normal a' w'):(gx id ops false).wpIn (zcP ρ) n P R a w:=
 zT (wpIn_region_list (zaB (R:=λe a w=>e=.normal/\∃U',Sim w0 X k r.2 U' a w) zbw _ hd (zdg hK hX _ h hs hp λU' _ _ h'=>⟨rfl,U',h'⟩))) λe a w⟨he,U',h'⟩=>by
  subst he;exact hR U' a w h'
theorem zqK(hm:P.follows .mixedOrders=true)(hK:KnOk P X.G K)(hX:X.Ok w0)(h:Sim w0 X k Y U a w){id m:Nat}(hd:zaE ops.toList=true)(hB:zkV ops m=true){r1 r2:List Prop×AS}(h1:zi7 K k ops (ops.toList.take m) Y=some r1)(h2:aSeq K k ops (ops.toList.drop m) r1.2=some r2)
  (x1:allP r1.1) (x0:allP r2.1) (hR:∀U' a' w',Sim w0 X k r2.2 U' a' w'->R .normal a' w'):(gx id ops true).wpIn (zcP ρ) n P R a w:=
 zT (wpIn_region_any hm (zbc (R:=λe a w=>e=.normal/\∃U',Sim w0 X k r2.2 U' a w) zbw hd _ (ziS hK hX h hB h1 h2 x1 x0 λU' _ _ h'=>⟨rfl,U',h'⟩))) λe a w⟨he,U',h'⟩=>by
  subst he;exact hR U' a w h'
end regions
theorem zdB{F:Fence}{c:Code}{Q:Exit->Act->zj->Prop}{ι:Type}(I:ι->Act->zj->Prop)(m:ι->Nat)(i0:ι)(h0:I i0 a w)
  (round:∀i a w,I i a w->c.wpIn F n P (Exit.then (λa' w'=>∃i',m i'<m i/\I i' a' w') Q) a w):(Code.loop c).wpIn F n P Q a w:=by
 have key:∀k i a w,m i<=k->I i a w->Code.roundsIn F n P c Q (k+1) a w:=by
  intro k
  induction k with
  |zero=>
   intro i a w hm h1;rw[roundsIn_succ];refine zT (round i a w h1) λe a' w' h3=>?_;cases e with
   |normal=>obtain⟨i',x0,_⟩:=h3;omega
   |_=>exact h3
  |succ k ih=>
   intro i a w hm h1;rw[roundsIn_succ];refine zT (round i a w h1) λe a' w' h3=>?_;cases e with
   |normal=>obtain⟨i',x0,h4⟩:=h3;exact ih i' a' w' o_ h4
   |_=>exact h3
 exact wpIn_loop_rounds (m i0+1) (key (m i0) i0 a w (zu _) h0)
theorem zbr{F:Fence}{R:Exit->Act->zj->Prop}:∀(l r:List Oper){a:Act}{w:zj},wpListIn F n P ops (λe a w=>e=.normal/\wpListIn F n P ops R r a w) l a w->wpListIn F n P ops R (l++r) a w
 | [],r,_,_,h=>h.2
 |o::l,r,a,w,h=>by
  simp only[vH,wpListIn]at h ⊢;split at h
  .rename_i hw;rw[if_pos hw];have h2:=gw (λa w h=>zbr l r h) h;refine⟨h2.1,?_⟩;have h3:=h2.2;revert h3;generalize (o.semAt F.round a.eval).run P w=x;intro h3;cases x with
   |ok x w'=>
    cases x with
    |enter f args=>
     refine⟨h3.1,h3.2.mono λe x0 he=>?_⟩;cases e with
     |returned v=>exact he
     |panicked c=>cases he.1
     |outgrown=>obtain⟨_,_,h4⟩:=he;cases h4.1
    |round l f tmps assign body=>
     refine⟨h3.1,h3.2.mono λe x0 he=>?_⟩;cases e with
     |returned v=>exact he
     |panicked c=>cases he.1
     |outgrown=>obtain⟨_,_,h4⟩:=he;cases h4.1
    |_=>exact h3
   |halt x w'=>
    cases x with
    |panic v=>cases h3.1
    |_=>exact h3
  .rename_i hw;rw[if_neg hw];exact⟨h.1,zbr l r h.2⟩
theorem zhI{o:Oper}{f:zK}{args:Array zK}{ts:Array zy}{l m:Nat}(ho:o.op=.call ⟨.value f,args,ts⟩)(hf:a.eval f=.func (.yield l) #[] #[]){N:Act->zj->Prop}{R:Exit->Act->zj->Prop}{Y0:gv->zj->Prop}
  (hy:YieldAt yU (m-1) P l (args.map a.eval) w Y0) (hN:∀e w',Y0 e w'->∃v,e=.returned v/\N (a.put o.dst v) w'):o.wpIn yU m P a w N R:=by
 obtain⟨fn,tmps,assign,body,h1,h2⟩:=hy;refine⟨λf _=>trivial,?_⟩;have hd:∀c,o.op≠ .defer c:=λc e=>by rw[ho]at e;cases e
 rw[Oper.semAt_eq _ _ _ hd];have x0:(execOp a.eval o).run P w=.ok (.round l fn tmps assign body) w:=by
  unfold execOp;simp[ho,resolve,invoke,jv,hf,h1]
 rw[x0];refine⟨λh=>by simp[yU]at h,h2.mono λe w' he=>?_⟩;obtain⟨v,rfl,h3⟩:=hN e w' he;exact h3
end
def AWP(P:zA)(w0:zj)(X:Ownr)(n:Nat)(c:Code)(Y:AS)(Q:Exit->AS->Prop):Prop:=
 ∀U a w,Sim w0 X n Y U a w->c.wpIn (zcP X.ρ) 0 P (λe a' w'=>∃Y' U',Sim w0 X n Y' U' a' w'/\Q e Y') a w
def zil(N:AS->Prop)(Q:Exit->AS->Prop):Exit->AS->Prop
 |.normal,Y=>N Y
 |e,Y=>Q e Y
def zhk(id:Nat)(Q:Exit->AS->Prop):Exit->AS->Prop
 |.exit j,Y=>bif yG j id then Q .normal Y else Q (.exit j) Y
 |e,Y=>Q e Y
def Sub(F:yF):List (Nat×V)->Prop
 | []=>True
 |(s,v)::r=>zr F s=v/\Sub F r
theorem Sub.get{F F':yF}(h:Sub F F'):∀s,zr F' s=zr F s\/zr F' s=⟨.junk,()⟩:=by
 induction F' with
 |nil=>exact λs=>.inr rfl
 |cons p r ih=>
  obtain⟨d,v⟩:=p;intro s;rw[zal];by_cases hs:d=s
  .rw[if_pos hs];exact .inl (hs▸h.1.symm)
  .rw[if_neg hs];exact ih h.2 s
section
variable {P:zA}{K:Kn}{w0:zj}{X:Ownr}{n:Nat}{Y:AS}{Q:Exit->AS->Prop}
theorem AWP.mono{c:Code}{Q':Exit->AS->Prop}(h:AWP P w0 X n c Y Q)(hq:∀e Y,Q e Y->Q' e Y):AWP P w0 X n c Y Q':=
 λU a w hs=>zT (h U a w hs) λe a w⟨Y',U',h1,h2⟩=>⟨Y',U',h1,hq _ _ h2⟩
theorem zap{x y:Code}(h:AWP P w0 X n x Y (zil (λY'=>AWP P w0 X n y Y' Q) Q)):AWP P w0 X n (.seq x y) Y Q:=
 λU a w hs=>wpIn_seq (zT (h U a w hs) λe a w⟨Y',U',h1,h2⟩=>by
  cases e with
  |normal=>exact h2 U' a w h1
  |_=>exact⟨Y',U',h1,h2⟩)
theorem zaf(h:Q .normal Y):AWP P w0 X n .skip Y Q:=λU a w hs=>wpIn_skip ⟨Y,U,hs,h⟩
theorem zaH{l:Nat}(h:Q .normal Y):AWP P w0 X n (.label l) Y Q:=λU a w hs=>wpIn_label ⟨Y,U,hs,h⟩
theorem zan{id:Nat}(h:Q (.exit id) Y):AWP P w0 X n (.exit id) Y Q:=λU a w hs=>wpIn_exit ⟨Y,U,hs,h⟩
theorem AWP.ret(h:Q .ret Y):AWP P w0 X n .ret Y Q:=λU a w hs=>wpIn_ret ⟨Y,U,hs,h⟩
theorem zae{c:zK}{x y:Code}{b:Bool}(hc:evO Y.F c=⟨.bool,b⟩)(ht:b=true->AWP P w0 X n x Y Q)(hf:b=false->AWP P w0 X n y Y Q):AWP P w0 X n (.cond c x y) Y Q:=by
 intro U a w hs;have h:=hs.ops c;rw[hc]at h;exact wpIn_cond_split (RepV.bool h) (λhb=>ht hb U a w hs) (λhb=>hf hb U a w hs)
theorem zaq{id:Nat}{c:Code}(h:AWP P w0 X n c Y (zhk id Q)):AWP P w0 X n (.block id c) Y Q:=
 λU a w hs=>wpIn_block (zT (h U a w hs) λe a w⟨Y',U',h1,h2⟩=>by
  cases e with
  |exit j=>
   simp only[zhk,cond_eq_ite,qE]at h2;simp only[Exit.inBlock];split
   .rename_i hj;rw[if_pos hj]at h2;exact⟨Y',U',h1,h2⟩
   .rename_i hj;rw[if_neg hj]at h2;exact⟨Y',U',h1,h2⟩
  |_=>exact⟨Y',U',h1,h2⟩)
def pkG(P:zA)(w0:zj)(X:Ownr)(n:Nat):Code->AS->(Exit->AS->Prop)->Prop
 |.seq x y,Y,Q=>pkG P w0 X n x Y (zil (λs=>AWP P w0 X n y s Q) Q)
 |.block i x,Y,Q=>pkG P w0 X n x Y (zhk i Q)
 |.skip,Y,Q=>Q .normal Y
 |.exit i,Y,Q=>Q (.exit i) Y
 |c,Y,Q=>AWP P w0 X n c Y Q
theorem zaa{c:Code}(h:pkG P w0 X n c Y Q):AWP P w0 X n c Y Q:=by
 induction c generalizing Y Q with
 |seq x y ihx _=>exact zap (ihx h)
 |block i x ih=>exact zaq (ih h)
 |skip=>exact zaf h
 |exit i=>exact zan h
 |_=>exact h
theorem zac(hX:X.Ok w0)(hK:KnOk P X.G K){id:Nat}{ops:Array Oper}{r:List Prop×AS}(hs:aSeq K n ops ops.toList Y=some r)(hp:allP r.1)(hq:Q .normal r.2)(hd:zaE ops.toList=true:=by rfl):AWP P w0 X n (.region id ops false) Y Q:=
 λ_ _ _ h=>zmS hK hX h hd hs hp λU' _ _ h'=>⟨r.2,U',h',hq⟩
theorem zbF(hm:P.follows .mixedOrders=true)(hX:X.Ok w0)(hK:KnOk P X.G K){id:Nat}{ops:Array Oper}(m:Nat)(hB:zkV ops m=true){r1 r2:List Prop×AS}(h1:zi7 K n ops (ops.toList.take m) Y=some r1)(h2:aSeq K n ops (ops.toList.drop m) r1.2=some r2)
  (x1:allP r1.1) (x0:allP r2.1) (hq:Q .normal r2.2) (hd:zaE ops.toList=true:=by rfl):AWP P w0 X n (.region id ops true) Y Q:=
 λ_ _ _ h=>zqK hm hK hX h hd hB h1 h2 x1 x0 λU' _ _ h'=>⟨r2.2,U',h',hq⟩
theorem AWP.weaken{c:Code}{F':yF}(hF:Sub Y.F F')(h:AWP P w0 X n c { Y with F:=F' } Q):AWP P w0 X n c Y Q:=
 λU a w hs=>h U a w (hs.weaken hF.get)
def SubE(E:Owns):List (Nat×Option OObj)->Prop
 | []=>True
 |(i,some o)::r=>zq E i=some o/\SubE E r
 |(_,none)::r=>SubE E r
theorem SubE.get{E E':Owns}(h:SubE E E'):∀i o,zq E' i=some o->zq E i=some o:=by
 induction E' with
 |nil=>intro i o h;cases h
 |cons p r ih=>
  obtain⟨j,q⟩:=p;intro i o hi;rw[zag]at hi;cases q with
  |none=>
   by_cases hj:j=i
   .rw[if_pos hj]at hi;cases hi
   .rw[if_neg hj]at hi;exact ih h i o hi
  |some q=>
   by_cases hj:j=i
   .rw[if_pos hj]at hi;cases hi;exact hj▸h.1
   .rw[if_neg hj]at hi;exact ih h.2 i o hi
def bndB(k:Nat):List (Nat×V)->Bool
 | []=>true
 |(_,v)::r=>Nat.ble v.bound k&&bndB k r
def bndV(k:Nat):List V->Bool
 | []=>true
 |v::r=>Nat.ble v.bound k&&bndV k r
theorem zq0{k:Nat}{vs:List V}(h:bndV k vs=true):∀v,v∈vs->v.bound<=k:=by
 induction vs with
 |nil=>intro v hv;cases hv
 |cons a r ih=>
  simp only[bndV,zh,vz]at h;intro v hv;rcases zE.1 hv with rfl|hv
  .exact h.1
  .exact ih h.2 v hv
def bndE(k:Nat):List (Nat×Option OObj)->Bool
 | []=>true
 |(i,some (.hbox _ vs))::r=>zO i k&&bndV k vs&&bndE k r
 |(i,_)::r=>zO i k&&bndE k r
theorem zda{k:Nat}{F:yF}(h:bndB k F=true)(s:Nat):(zr F s).bound<=k:=by
 induction F with
 |nil=>exact zk _
 |cons p r ih=>
  obtain⟨d,v⟩:=p;simp only[bndB,zh,vz]at h;rw[zal];by_cases hs:d=s
  .rw[if_pos hs];exact h.1
  .rw[if_neg hs];exact ih h.2
theorem zpn{k j:Nat}{q:Option OObj}{r:Owns}(h:bndE k ((j,q)::r)=true):j<k/\(∀o,q=some o->o.under k)/\bndE k r=true:=by
 cases q with
 |none=>
  simp only[bndE,zh]at h;exact⟨by simpa using h.1,(λ_ e=>by cases e),h.2⟩
 |some q=>
  cases q with
  |hbox ty vs=>
   simp only[bndE,zh]at h;refine⟨by simpa using h.1.1,λo e=>?_,h.2⟩;cases e;intro ws e;cases e;exact zq0 h.1.2
  |_=>
   simp only[bndE,zh]at h;refine⟨by simpa using h.1,λo e=>?_,h.2⟩;cases e;intro ws e;cases e
theorem zfy{k:Nat}{E:Owns}(h:bndE k E=true){i:Nat}{o:OObj}(hi:zq E i=some o):i<k/\o.under k:=by
 induction E with
 |nil=>cases hi
 |cons p r ih=>
  obtain⟨j,q⟩:=p;obtain⟨h1,h2,h3⟩:=zpn h;rw[zag]at hi;by_cases hj:j=i
  .rw[if_pos hj]at hi;exact⟨hj▸h1,h2 o hi⟩
  .rw[if_neg hj]at hi;exact ih h3 hi
theorem zi3{k:Nat}{E:Owns}(h:bndE k E=true){i:Nat}{o:OObj}(hi:zq E i=some o):i<k:=(zfy h hi).1
structure Fit(Y Y':AS):Prop where
 f:Sub Y.F Y'.F
 e:SubE Y.E Y'.E
 bf:bndB Y'.nx Y'.F=true
 be:bndE Y'.nx Y'.E=true
theorem Sub.r{F:yF}:∀{F':List (Nat×V)},(F'.map λp=>zr F p.1)=F'.map (λp=>p.2)->Sub F F'
 | [],_=>trivial
 |(s,v)::r,h=>⟨(kg h).1,Sub.r (kg h).2⟩
theorem SubE.r{E:Owns}:∀{E':List (Nat×Option OObj)},(E'.map λp=>zq E p.1)=E'.map (λp=>p.2)->SubE E E'
 | [],_=>trivial
 |(i,some o)::r,h=>⟨(kg h).1,SubE.r (kg h).2⟩
 |(i,none)::r,h=>SubE.r (E':=r) (kg h).2
theorem Fit.r{Y Y':AS}(h:((Y'.F.map λp=>zr Y.F p.1),(Y'.E.map λp=>zq Y.E p.1),bndB Y'.nx Y'.F&&bndE Y'.nx Y'.E)=(Y'.F.map (λp=>p.2),Y'.E.map (λp=>p.2),true)):Fit Y Y':=by
 obtain⟨h1,h2⟩:=Prod.mk.inj h;obtain⟨h2,h3⟩:=Prod.mk.inj h2;rw[zh]at h3;exact⟨Sub.r h1,SubE.r h2,h3.1,h3.2⟩
theorem Sim.fit{U:Nat->zi}{a:Act}{w:zj}(h:Sim w0 X n Y U a w){Y':AS}(hf:Fit Y Y')(x0:X.K<=Y'.nx):Sim w0 X n Y' U a w:=by
 have hk:jk w w (OSet X Y.E U) (OSet X Y'.E U):=⟨zu _,λ_ _ _=>rfl,λg _ hg=>by
  rcases hg with hg|⟨j,oj,h1,h2⟩
  .exact .inl hg
  .exact .inr ⟨j,oj,hf.e.get j oj h1,h2⟩⟩
 refine⟨h.sz,h.df,h.bel,λs=>?_,λi o ho=>(h.own i o (hf.e.get i o ho)).keep hk λ_ _=>rfl,λi o g ho=>h.new i o g (hf.e.get i o ho),λi j oi oj hi hj=>h.inj i j oi oj (hf.e.get i oi hi) (hf.e.get j oj hj),λi o ho=>zi3 hf.be ho,⟨x0,λi hi=>⟨(h.fix.2 i hi).1,λo ho=>(h.fix.2 i hi).2 o (hf.e.get i o ho)⟩⟩,λs=>zda hf.bf s,λi o ho=>(zfy hf.be ho).2⟩;rcases hf.f.get s with e|e
 .rw[e];exact xF hk _ _ _ (h.fr s)
 .rw[e];trivial
theorem zak{c:Code}{Y':AS}(hf:Fit Y Y')(h:AWP P w0 X n c Y' Q)(hk:X.K<=Y'.nx:=by exact zb rfl):AWP P w0 X n c Y Q:=
 λU a w hs=>h U a w (hs.fit hf hk)
theorem AWP.loop{c:Code}{ι:Type}(G:ι->AS)(J:ι->Prop)(m:ι->Nat)(i0:ι)(hJ:J i0)(h0:Fit Y (G i0))
  (round:∀i,J i->AWP P w0 X n c (G i) (zil (λY'=>∃i',J i'/\m i'<m i/\Fit Y' (G i')) Q)) (hk:∀i,X.K<=(G i).nx:=by exact λ_=>zb rfl):AWP P w0 X n (.loop c) Y Q:=by
 intro U a w hs;exact zdB (λi a w=>J i/\∃U,Sim w0 X n (G i) U a w) m i0 ⟨hJ,U,hs.fit h0 (hk _)⟩ λi a w⟨hj,U,h1⟩=>zT (round i hj U a w h1) λe a' w'⟨Y',U',h2,h3⟩=>by
  cases e with
  |normal=>obtain⟨i',x1,x0,hf⟩:=h3;exact⟨i',x0,x1,U',h2.fit hf (hk _)⟩
  |_=>exact⟨Y',U',h2,h3⟩
theorem AWP.len{c:Code}(s:Nat){t:Ty}{xs:List t.T}(hs:zr Y.F s=⟨.slice t,xs⟩)(h:xs.length<=maxLen->AWP P w0 X n c Y Q):AWP P w0 X n c Y Q:=by
 intro U a w x0;have h1:=x0.fr s;rw[hs]at h1;have h1:RepV w (OSet X Y.E U) U (.slice t) xs _:=h1;obtain⟨A,k,_,h2,h3⟩:=(kz h1).nlen;exact h o_ U a w x0
theorem AWP.frz(hX:X.Ok w0)(s:Nat){c:Code}(h:AWP P w0 X n c (kX Y (.tmp s)) Q):AWP P w0 X n c Y Q:=
 λU a w hs=>h U a w (hs.frz hX (.tmp s))
theorem zrh{c:Code}(s:Nat){k:Nat}{t:Ty}{xs:List t.T}(hs:zr Y.F s=⟨.arr k t,xs⟩)(h:xs.length=k->AWP P w0 X n c Y Q):AWP P w0 X n c Y Q:=by
 intro U a w x0;have h1:=x0.fr s;rw[hs]at h1;obtain⟨cs,_,h2⟩:=(jf rfl).1 h1;exact h h2.1 U a w x0
theorem zrg{c:Code}(i:Nat){k:Nat}{t:Ty}{xs:List t.T}(hi:zq Y.E i=some (.box (.arr k t) xs))(h:xs.length=k->AWP P w0 X n c Y Q):AWP P w0 X n c Y Q:=by
 intro U a w x0;obtain⟨g,cs,ty,_,_,_,h4⟩:=x0.own i _ hi;exact h h4.1 U a w x0
theorem zeB(hX:X.Ok w0)(s:Nat)(te:zy)(Z:Ty){c:Code}(hs:zr Y.F s=⟨.lit,.slice none 0 0⟩)(hn:zO s n=true)(x3:zO 0 Z.size=true)
  (h:AWP P w0 X n c ⟨(s,⟨.obuf Z,Y.nx⟩)::Y.F,(Y.nx,some (.buf te Z []))::Y.E,Y.nx+1⟩ Q):AWP P w0 X n c Y Q:=by
 intro U a w x0;have h1:=x0.fr s;rw[hs]at h1;have h1:a.tmps.getD s undef=.slice none 0 0:=h1;have x1:s<n:=by simpa using hn
 obtain⟨U',h2⟩:=x0.make hX (zY _ w) (bv:=.slice none 0 0) (o:=.buf te Z []) (v:=⟨.obuf Z,Y.nx⟩) (u:=.slice none 0 0) (d:=s)
  (λO _ _=>⟨[],rfl,⟨by simp,.inl ⟨rfl,rfl⟩⟩,by simpa using x3⟩) (λg hg=>by cases hg) (λO U' x2=>x2.symm) (zu _) x1
 have h3:a.put (some s) (.slice none 0 0)=a:=by
  obtain⟨tmps,defers⟩:=a;simp only[Act.put]
  congr 1
  have h4:s<tmps.size:=by have:=x0.sz;simp only at this;omega
  apply Array.ext
  .simp
  .intro i x5 x4;by_cases e:s=i
   .subst e;have h5:tmps[s]=.slice none 0 0:=by simpa [vM,h4] using h1
    rw[h5];simp
   .rw[Array.getElem_setIfInBounds,if_neg e]
 rw[h3]at h2;exact h U' a w h2
def zb1:(ts:List Ty)->Args ts->Nat->List (Nat×V)
 | [],_,_=>[]
 |t::r,x,s=>(s,⟨t,x.1⟩)::zb1 r x.2 (s+1)
def zhz(ts:List Ty)(xs:Args ts):AS:=⟨zb1 ts xs 0,[],0⟩
def rOf(T:Tbl)(Y:AS):vX->Option (List Prop×V)
 |.tmp s=>some ([],zr Y.F s)
 |.cell s t=>zjK T Y.E t (zr Y.F s)
def zmQ(T:Tbl)(Y:AS):List vX->(t:Ty)->Option (List Prop×t.T)
 | [],.unit=>some ([],())
 |r::rs,.tup a b=>match rOf T Y r with
  |some (p,v)=>match coe a (dat Y.E v),zmQ T Y rs b with
   |some x,some (q,y)=>some (p++q,(x,y))
   |_,_=>none
  |none=>none
 |_,_=>none
def Ty.tupData:Ty->Bool
 |.tup a b=>a.data&&b.tupData
 |.unit=>true
 |_=>false
def Done(T:Tbl)(rs:List vX)(Y:AS)(own:Option zy)(t:Ty)(x:t.T):Prop:=
 match own,rs with
 |none,[r]=>∃p v,rOf T Y r=some (p,v)/\allP p/\t.argOk=true/\coe t (dat Y.E v)=some x
 |none,rs=>rs.length≠1/\t.tupData=true/\∃p,zmQ T Y rs t=some (p,x)/\allP p
 |some te,[.tmp s]=>∃(Z x0:Ty)(i:Nat)(xs:List Z.T),zr Y.F s=⟨.obuf x0,i⟩/\zq Y.E i=some (.buf te Z xs)/\(⟨t,x⟩:V)=⟨.slice Z,xs⟩
 |_,_=>False
theorem zcs{w:zj}{O:Nat->Prop}{U:Nat->zi}:∀(ts:List Ty)(xs:Args ts)(vs:List zi)(pre post:List zi),zbf ts=true->RepA w O ts xs vs->∀s,RepV w O U (zr (zb1 ts xs pre.length) s).t (zr (zb1 ts xs pre.length) s).x ((pre++vs++post).toArray.getD s undef)
 | [],_,_,_,_,_,_,_=>trivial
 |t::ts,xs,vs,pre,post,hd,h,s=>by
  obtain⟨v,r,rfl,h1,h2⟩:=h;simp only[zbf,zh]at hd;simp only[zb1];rw[zal];by_cases hs:pre.length=s
  .rw[if_pos hs];subst hs;have:(pre++v::r++post).toArray.getD pre.length undef=v:=by simp[vM]
   rw[this];exact ze4 hd.1 h1
  .rw[if_neg hs];have:=zcs (U:=U) ts xs.2 r (pre++[v]) post hd.2 h2 s;rw[show(pre++[v]).length=pre.length+1 by simp]at this
   simpa using this
theorem zty{t:Ty}(ht:t.argOk=true){x:t.T}:bnd t x=0:=by
 cases t<;>first|rfl|(cases ht;done)
theorem zmP{w:zj}{O:Nat->Prop}{U:Nat->zi}{B:Nat}{t:Ty}(ht:t.argOk=true){x:t.T}{v:zi}(h:RepV w O U t x v):zcd w O B none t x v:=by
 cases t<;>first|exact h|exact λU'=>ze4 ht h|(cases ht;done)
theorem zbI:∀(ts:List Ty)(xs:Args ts)(k s:Nat),zbf ts=true->(zr (zb1 ts xs k) s).bound=0
 | [],_,_,_,_=>rfl
 |t::ts,xs,k,s,hd=>by
  simp only[zbf,zh]at hd;simp only[zb1,zal];by_cases hs:k=s
  .rw[if_pos hs];exact zty hd.1
  .rw[if_neg hs];exact zbI ts xs.2 (k+1) s hd.2
structure Seen(w0:zj)(X:Ownr)(Y:AS)(U:Nat->zi)(a:Act)(w:zj):Prop where
 fr:∀s,RepV w (OSet X Y.E U) U (zr Y.F s).t (zr Y.F s).x (a.tmps.getD s undef)
 own:∀i o,zq Y.E i=some o->yZ w (OSet X Y.E U) U 0 (U i) o
 new:∀i o g,zq Y.E i=some o->zai (U i)=some g->w0.heap.size<=g\/X.R g
theorem Sim.seen{U:Nat->zi}{a:Act}{w:zj}(h:Sim w0 X n Y U a w):Seen w0 X Y U a w:=⟨h.fr,h.own,h.new⟩
theorem zmq{U:Nat->zi}{a:Act}{w:zj}(h:Seen w0 X Y U a w)(hX:X.Ok w0){v:V}{u:zi}(hr:RepV w (OSet X Y.E U) U v.t v.x u):RepV w X.X U (dat Y.E v).t (dat Y.E v).x u:=by
 have hk:jk w w (OSet X Y.E U) X.X:=⟨zu _,λ_ _ _=>rfl,λ_ _ h=>.inl h⟩;obtain⟨t,x⟩:=v;cases t with
 |obuf t=>
  have h':u=U x:=hr;subst h';cases he:zq Y.E x with
  |none=>
   have e:dat Y.E ⟨.obuf t,x⟩=⟨.junk,()⟩:=by simp only[dat,he]
   rw[e];trivial
  |some o=>
   cases o with
   |box t' x'=>
    have e:dat Y.E ⟨.obuf t,x⟩=⟨.junk,()⟩:=by simp only[dat,he]
    rw[e];trivial
   |hbox ty vs=>
    have e:dat Y.E ⟨.obuf t,x⟩=⟨.junk,()⟩:=by simp only[dat,he]
    rw[e];trivial
   |mp m I=>
    have e:dat Y.E ⟨.obuf t,x⟩=⟨.junk,()⟩:=by simp only[dat,he]
    rw[e];trivial
   |buf te t' xs=>
    have e:dat Y.E ⟨.obuf t,x⟩=⟨.slice t',xs⟩:=by simp only[dat,he]
    rw[e];exact(h.own x _ he).view (λ_ _ h=>.inl h) λg hg x0=>by
     have h3:=hX.1 g x0;rcases h.new x _ g he hg with h4|h4
     .omega
     .exact h3.2 h4
 |_=>exact xF hk _ _ _ hr
theorem zm2{t:zy}{A:Addr}{u:zi}{w:zj}(h:(qL t (.pointer (some A))).run P w=.ok u w):(loadVar t A).run P w=.ok u w:=by
 simpa [qL,qa] using h
theorem zhU(hK:KnOk P X.G K)(hX:X.Ok w0){U:Nat->zi}{a:Act}{w:zj}(h:Seen w0 X Y U a w){r:vX}{p:List Prop}{v:V}(hr:rOf K.T Y r=some (p,v))(hp:allP p):
  ∃u,(match r with |.tmp t=>(pure (a.tmps.getD t undef):Sem zi)|.cell s t=>do loadVar t (<-asAddr (a.tmps.getD s undef))).run P w=.ok u w/\RepV w (OSet X Y.E U) U v.t v.x u:=by
 cases r with
 |tmp s=>
  cases hr;exact⟨_,rfl,h.fr s⟩
 |cell s t=>
  have hf:=h.fr s;have x0:zjK K.T Y.E t (zr Y.F s)=some (p,v):=hr;obtain⟨u,h1,h3⟩:=zjJ (P:=P) hK.t h.own x0 hp hf;have hptr:∃A,a.tmps.getD s undef=.pointer (some A):=by
   revert hf x0;generalize zr Y.F s=fv;obtain⟨ft,fx⟩:=fv;intro hf x0;cases ft<;>simp only[zjK,reduceCtorEq]at x0
   .obtain⟨g,off,cs,e,_⟩:=hf;exact⟨_,e⟩
   .obtain⟨g,_,e⟩:=hf;exact⟨_,e⟩
   .obtain⟨g,_,e⟩:=hf;exact⟨_,e⟩
   .obtain⟨cs,e,_⟩:=hf;exact⟨_,e⟩
  obtain⟨A,hA⟩:=hptr;rw[hA]at h1;refine⟨u,?_,h3⟩;simp only[hA,asAddr,zJ,zI,zD];exact zm2 h1
def resM(tmps:Array zi):vX->Sem zi
 |.tmp t=>pure (tmps.getD t undef)
 |.cell s t=>do loadVar t (<-asAddr (tmps.getD s undef))
theorem zeq(fn:Func)(tmps:Array zi):results fn tmps=(do let vs<-fn.results.mapM (resM tmps);pure (if h:vs.size=1 then vs[0] else .tuple vs):Sem zi):=by
 unfold results
 congr 1
theorem zjv(hK:KnOk P X.G K)(hX:X.Ok w0){U:Nat->zi}{a:Act}{w:zj}(h:Seen w0 X Y U a w):∀(rs:List vX)(t:Ty)(p:List Prop)(x:t.T),t.tupData=true->zmQ K.T Y rs t=some (p,x)->allP p->
  ∃us,(rs.mapM (resM a.tmps)).run P w=.ok us w/\us.length=rs.length/\RepTup w X.X t x us
 | [],.unit,p,x,_,hr,_=>⟨[],by simp,rfl,rfl⟩
 |r::rs,.tup c b,p,x,hd,hr,hp=>by
  simp only[zmQ]at hr;simp only[Ty.tupData,zh]at hd;split at hr
  .rename_i p1 v hv;split at hr
   .rename_i y q z hy hz;cases hr;rw[zav]at hp;obtain⟨u,h1,h2⟩:=zhU hK hX h hv hp.1;obtain⟨us,h3,h4,h5⟩:=zjv hK hX h rs b q z hd.2 hz hp.2;have x0:(resM a.tmps r).run P w=.ok u w:=by cases r<;>exact h1
    exact⟨u::us,by simp[List.mapM_cons,x0,h3],by simp[h4],u,us,rfl,zfW hd.1 hy (zmq h hX h2),h5⟩
   .cases hr
  .cases hr
 | [],.tup _ _,_,_,_,hr,_=>by cases hr
 |_::_,.unit,_,_,_,hr,_=>by cases hr
 |_,.bool,_,_,hd,_,_=>by cases hd
 |_,.int _,_,_,hd,_,_=>by cases hd
 |_,.str,_,_,hd,_,_=>by cases hd
 |_,.pair _ _,_,_,hd,_,_=>by cases hd
 |_,.arr _ _,_,_,hd,_,_=>by cases hd
 |_,.slice _,_,_,hd,_,_=>by cases hd
 |_,.junk,_,_,hd,_,_=>by cases hd
 |_,.lit,_,_,hd,_,_=>by cases hd
 |_,.vptr _,_,_,hd,_,_=>by cases hd
 |_,.cptr _ _ _,_,_,hd,_,_=>by cases hd
 |_,.optr _,_,_,hd,_,_=>by cases hd
 |_,.obuf _,_,_,hd,_,_=>by cases hd
 |_,.cond _,_,_,hd,_,_=>by cases hd
theorem zmN{w:zj}{O:Nat->Prop}{B:Nat}:∀(t:Ty)(x:t.T)(us:List zi),t.tupData=true->us.length≠1->RepTup w O t x us->(t=.unit->False)->zcd w O B none t x (.tuple us.toArray):=by
 intro t;cases t<;>intro x us hd hl h hu<;>first
  |exact λU=>⟨us,rfl,h⟩
  |(cases hd;done)
  |exact(hu rfl).elim
theorem OwnRep.raise{w:zj}{O:Nat->Prop}{U:Nat->zi}{B B':Nat}{bv:zi}{o:OObj}(h:yZ w O U B bv o)(hB:∀g,zai bv=some g->B'<=g):yZ w O U B' bv o:=by
 cases o with
 |box t x=>
  obtain⟨g,cs,ty,e,h1,h2⟩:=h;exact⟨g,cs,ty,e,hB g (by rw[e];rfl),h2⟩
 |buf te t xs=>
  obtain⟨cs,h1,h2,h3⟩:=h;refine⟨cs,h1,⟨h2.1,?_⟩,h3⟩;rcases h2.2 with h4|⟨g,cap,cur,e,h5,h6⟩
  .exact .inl h4
  .exact .inr ⟨g,cap,cur,e,hB g (by rw[e];rfl),h6⟩
 |hbox ty vs=>
  obtain⟨g,cs,e,h1,h2⟩:=h;exact⟨g,cs,e,hB g (by rw[e];rfl),h2⟩
 |mp m I=>
  obtain⟨ms,ck,e,h1,h2⟩:=h;exact⟨ms,ck,e,hB m (by rw[e];rfl),h2⟩
theorem zfp(hK:KnOk P X.G K)(hX:X.Ok w0){U:Nat->zi}{a:Act}{w:zj}(h:Seen w0 X Y U a w){fn:Func}{own:Option zy}{t:Ty}{x:t.T}(hd:Done K.T fn.results.toList Y own t x)(hR:own=none\/∀g,¬X.R g):
  ∃v,(results fn a.tmps).run P w=.ok v w/\(t=.unit\/zcd w X.X w0.heap.size own t x v):=by
 rw[zeq];have x0:∀us,(fn.results.toList.mapM (resM a.tmps)).run P w=.ok us w->(fn.results.mapM (resM a.tmps)).run P w=.ok us.toArray w:=λus x2=>by
  rw[Array.mapM_eq_mapM_toList];simp[x2]
 unfold Done at hd;split at hd
 .rename_i r hr;obtain⟨p,v,h1,h2,h3,h4⟩:=hd;obtain⟨u,h5,h6⟩:=zhU hK hX h h1 h2;have x3:(resM a.tmps r).run P w=.ok u w:=by cases r<;>exact h5
  have hm:=x0 [u] (by rw[hr];simp[x3]);refine⟨u,by simp[hm],.inr (zmP h3 (zgn h4 (zmq h hX h6)))⟩
 .obtain⟨h1,h2,p,h3,h4⟩:=hd;obtain⟨us,h5,h6,h7⟩:=zjv hK hX h _ _ _ _ h2 h3 h4;have hm:=x0 us h5;have hl:us.length≠1:=by rw[h6];exact h1
  refine⟨.tuple us.toArray,by simp[hm,hl],?_⟩;by_cases x1:t=.unit
  .exact .inl x1
  .exact .inr (zmN _ _ _ h2 hl h7 x1)
 .rename_i te s hr;obtain⟨Z,x4,i,xs,h1,h2,h3⟩:=hd;cases h3;have hf:=h.fr s;rw[h1]at hf;have hu:=hf;have hm:=x0 [a.tmps.getD s undef] (by rw[hr];simp[resM]);refine⟨U i,by rw[zJ,hm, <-hu];simp,.inr ?_⟩;refine OwnRep.keep (OwnRep.raise (h.own i _ h2) λg hg=>?_) ⟨zu _,λ_ _ _=>rfl,λg _ hg=>hg.imp id λhg=>⟨i,_,h2,hg⟩⟩ λ_ _=>rfl;rcases h.new i _ g h2 hg with h4|h4
  .exact h4
  .rcases hR with h5|h5
   .cases h5
   .exact(h5 g h4).elim
 .exact hd.elim
theorem zmO{w:zj}{O O':Nat->Prop}{B B':Nat}(hs:∀k,O' k->O k):∀(t:Ty)(x:t.T)(v:zi),zcd w O B none t x v->zcd w O' B' none t x v:=by
 have hk:jk w w O O':=⟨zu _,λ_ _ _=>rfl,λk _ h=>hs k h⟩;intro t;cases t<;>intro x v h<;>first|exact RepD.keep hk h|exact λU=>xF hk _ _ _ (h U)
def zjM:Option OObj->Option OObj
 |some (.box t x)=>some (.box t x)
 |_=>none
def zgh(I:List Nat):List (Nat×Option OObj)->List (Nat×Option OObj)
 | []=>[]
 |(i,o)::r=>(i,bif I.any (yG i) then none else zjM o)::zgh I r
theorem zjN(I:List Nat)(E:Owns)(j:Nat):zq (zgh I E) j=if I.any (yG j)=true then none else zjM (zq E j):=by
 induction E with
 |nil=>
  split<;>rfl
 |cons p E ih=>
  obtain⟨i,o⟩:=p;have e:zgh I ((i,o)::E)=(i,bif I.any (yG i) then none else zjM o)::zgh I E:=rfl;rw[e,zag,zag,ih];by_cases h:i=j
  .subst h;rw[if_pos rfl,if_pos rfl];cases I.any (yG i)<;>rfl
  .rw[if_neg h,if_neg h]
theorem zj3(hK:KnOk P X.G K)(hX:X.Ok w0){U:Nat->zi}{a:Act}{w:zj}(h:Sim w0 X n Y U a w)(I:List Nat){fn:Func}{t:Ty}{x:t.T}(hd:Done K.T fn.results.toList ⟨Y.F,zgh I Y.E,Y.nx⟩ none t x){O':Nat->Prop}
  (x7:∀k,O' k->X.X k\/∃i o,zq Y.E i=some o/\zai (U i)=some k/\(I.any (yG i)=true\/zjM (some o)=none)):
  ∃v,(results fn a.tmps).run P w=.ok v w/\(t=.unit\/zcd w O' w.heap.size none t x v):=by
 have x0:∀i o,zq (zgh I Y.E) i=some o->zq Y.E i=some o/\I.any (yG i)=false/\zjM (some o)≠none:=λi o ho=>by
  rw[zjN]at ho;split at ho
  .cases ho
  .rename_i hi;cases he:zq Y.E i with
   |none=>rw[he]at ho;cases ho
   |some o'=>
    rw[he]at ho;cases o' with
    |box t x=>cases ho;exact⟨rfl,Bool.eq_false_iff.2 hi,by simp[zjM]⟩
    |buf te t xs=>cases ho
    |hbox ty vs=>cases ho
    |mp m I=>cases ho
 let X':Ownr:={ X with X:=λk=>X.X k\/∃i o,zq Y.E i=some o/\zai (U i)=some k/\(I.any (yG i)=true\/zjM (some o)=none),K:=0,B:=λk=>∃i o,zq (zgh I Y.E) i=some o/\zai (U i)=some k }
 have hR:∀k,X'.R k->∃i o,zq (zgh I Y.E) i=some o/\zai (U i)=some k:=λk hr=>hr.elim (λ⟨_,h,_⟩=>absurd h (yS _)) id;have x4:∀k,X'.R k->w0.heap.size<=k\/X.R k:=λk hr=>by
  obtain⟨i,o,h1,h2⟩:=hR k hr;exact h.new i o k (x0 i o h1).1 h2
 have x6:X'.Ok w:=by
  refine⟨λk hk=>⟨?_,λhr=>?_⟩,λk hr=>?_,λw' hk=>hX.2.2 w' ⟨hk.os.trans h.bel.os,hk.tape.trans h.bel.tape,hk.output.trans h.bel.output,zL h.bel.size hk.size,λk x3 hr=>(hk.block k (zF x3 h.bel.size) λx5=>?_).trans (h.bel.block k x3 hr)⟩⟩
  .rcases hk with hk|⟨i,o,h1,h2,_⟩
   .exact zF (hX.1 k hk).1 h.bel.size
   .exact((h.own i o h1).block_lt h2).2
  .obtain⟨j,oj,h3,h4⟩:=hR k hr;obtain⟨h5,h6,h7⟩:=x0 j oj h3;rcases hk with hk|⟨i,o,h1,h2,h8⟩
   .have h9:=hX.1 k hk;rcases x4 k hr with h10|h10
    .omega
    .exact h9.2 h10
   .by_cases x2:i=j
    .subst x2;rw[h5]at h1;cases h1;rcases h8 with h8|h8
     .rw[h6]at h8;cases h8
     .exact h7 h8
    .exact h.inj i j o oj h1 h5 x2 k h2 h4
  .obtain⟨j,oj,h3,h4⟩:=hR k hr;exact((h.own j oj (x0 j oj h3).1).block_lt h4).2
  .rcases x4 k x5 with h10|h10
   .omega
   .exact hr h10
 have hS:OSet X' (zgh I Y.E) U=OSet X Y.E U:=by
  funext k
  apply propext;constructor
  .rintro ((hk|⟨i,o,h1,h2,_⟩)|⟨i,o,h1,h2⟩)
   .exact .inl hk
   .exact .inr ⟨i,o,h1,h2⟩
   .exact .inr ⟨i,o,(x0 i o h1).1,h2⟩
  .rintro (hk|⟨i,o,h1,h2⟩)
   .exact .inl (.inl hk)
   .by_cases hI:I.any (yG i)=true
    .exact .inl (.inr ⟨i,o,h1,h2,.inl hI⟩)
    .cases ho:zjM (some o) with
     |none=>exact .inl (.inr ⟨i,o,h1,h2,.inr ho⟩)
     |some o'=>
      refine .inr ⟨i,o',?_,h2⟩;rw[zjN,if_neg hI,h1,ho]
 have x1:Seen w X' ⟨Y.F,zgh I Y.E,Y.nx⟩ U a w:=by
  refine⟨λs=>?_,λi o ho=>?_,λi o k ho hb=>.inr (.inr ⟨i,o,ho,hb⟩)⟩
  .
   rw[hS];exact h.fr s
  .
   rw[hS];exact h.own i o (x0 i o ho).1
 obtain⟨v,h1,h2⟩:=zfp (X:=X') hK x6 x1 hd (.inl rfl);exact⟨v,h1,h2.imp id (zmO x7 _ _ _)⟩
theorem zc5{w:zj}{O:Nat->Prop}:∀(ts:List Ty)(xs:Args ts)(vs:List zi),RepA w O ts xs vs->vs.length=ts.length
 | [],_,_,h=>by cases h;rfl
 |t::ts,xs,vs,h=>by obtain⟨v,r,rfl,_,h2⟩:=h;simp[zc5 ts xs.2 r h2]
theorem zcm{G:zj->Prop}(hK:KnOk P G K){f:yR}{fn:Func}{c:Code}{ctr:Ctr}(hf:P.funcs[f]? =some fn)(hb:fn.body=some c)(hn:fn.ntmps=n)
  (x5:∀(zas:Array zi)(w:zj),(callFunc f zas).run P w=.ok (.enter f zas) w) (hd:zbf ctr.args=true) (hlen:ctr.args.length<=n) (x3:ctr.res=.unit->False)
  (h:∀(w0:zj)(X:Nat->Prop),(qJ G X).Ok w0->∀xs:Args ctr.args,allP (ctr.pre xs)->AWP P w0 (qJ G X) n c (zhz ctr.args xs) (λe Y=>(e=.normal\/e=.ret)/\Done K.T fn.results.toList Y ctr.own ctr.res (ctr.out xs))):CtrOk P G f ctr:=by
 refine⟨x5,λw O xs vs hO x1 hp hG=>calls_of_wp hf hb ?_⟩;have x4:=zc5 _ _ _ x1
 let X:Ownr:=qJ G O
 have x0:∀g,¬X.R g:=Ownr.plain_noR _ _;have hX:X.Ok w:=⟨λg hg=>⟨hO g hg,x0 g⟩,λg hg=>(x0 g hg).elim,λw' hk=>hK.st w w' hG (hk.below x0)⟩;have x2:Sim w X n (zhz ctr.args xs) (λ_=>undef) { tmps:=vs.toArray++zG (fn.ntmps-vs.toArray.size) undef,defers:=[] } w:=by
  have hE:OSet X (zhz ctr.args xs).E (λ_=>undef)=O:=by
   funext g
   apply propext;constructor
   .rintro (h|⟨i,o,h,_⟩)
    .exact h
    .cases h
   .exact λh=>.inl h
  refine⟨by simp[hn,x4];omega,rfl,jw _ _,λs=>?_,λi o h=>(by cases h),λi o g h=>(by cases h),λi j oi oj h=>(by cases h),λi o h=>(by cases h),⟨zk _,λi h=>(by cases h)⟩,λs=>?_,λi o h=>(by cases h)⟩
  .rw[hE];have:=zcs (U:=λ_=>undef) ctr.args xs vs [] (zg (fn.ntmps-vs.length) undef) hd x1 s;simp only[qn,jX]at this;have e:(vs.toArray++zG (fn.ntmps-vs.toArray.size) undef)=(vs++zg (fn.ntmps-vs.length) undef).toArray:=by simp
   show RepV w O _ _ _ ((vs.toArray++zG (fn.ntmps-vs.toArray.size) undef).getD s undef);rw[e];exact this
  .show(zr (zb1 ctr.args xs 0) s).bound<=0;rw[zbI _ _ _ _ hd];exact zu _
 refine wp_mono (wpIn_wide.1 (h w O hX xs hp _ _ _ x2)) λe a' w'⟨Y',U',h1,h2,h3⟩=>?_;obtain⟨v,h4,h5⟩:=zfp (X:=X) hK hX h1.seen h3 (.inr x0);have h5:=h5.resolve_left x3;have hb:=h1.bel.below x0;rcases h2 with rfl|rfl
 .exact⟨h1.df,v,h4,v,rfl,hb,h5⟩
 .exact⟨h1.df,v,h4,v,rfl,hb,h5⟩
theorem zpA(hX:X.Ok w0)(hK:KnOk P X.G K){id:Nat}{ops:Array Oper}{o:Oper}{rest:List Oper}{t:zy}{g d:Nat}{Z:Ty}{x:Z.T}(cs:List zi)(x3:ops.toList=o::rest)(ho:o.op=.load t (.global g))(x9:o.guard=none)(x4:o.dst=some d)(hd:zO d n=true)
  (x6:tis K.T t Z=true) (x8:Z.flat=true) (hc:RepC w0 (λ_=>True) Z x cs) (xc:ju w0 g 0 cs) (hg:g<w0.heap.size) (xd:¬X.R g) {r:List Prop×AS} (hs:aSeq K n ops rest ⟨(d,⟨Z,x⟩)::Y.F,Y.E,Y.nx⟩=some r) (hp:allP r.1) (hq:Q .normal r.2) (xa:zaE ops.toList=true:=by rfl):AWP P w0 X n (.region id ops false) Y Q:=by
 intro U a w x1;have xb:d<n:=by simpa using hd
 have x0:wpList P ops (λe a' w'=>e=.normal/\∃U',Sim w0 X n r.2 U' a' w') ops.toList a w:=by
  rw[x3];have x7:RepC w (OSet X Y.E U) Z x cs:=zbB Z x8 _ _ hc;have x5:ju w g 0 cs:=λj u hu=>by
   have h1:=xc j u hu;unfold qd at *;rw[x1.bel.block g hg xd];exact h1
  obtain⟨u,h6,h7⟩:=(hK.t.is x6).loadAt x7 x5;have h8:RepV w (OSet X Y.E U) U Z x u:=(za5 (hK.t.is x6).data).2 h7;have key:o.wp P a w (λa' w'=>wpList P ops (λe a' w'=>e=.normal/\∃U',Sim w0 X n r.2 U' a' w') rest a' w') (λe a' w'=>e=.normal/\∃U',Sim w0 X n r.2 U' a' w'):=by
   refine zba (u:=u) (w':=w) ?_ ?_
   .unfold execOp;simp only[ho];exact za7 h6
   .rw[x4];have x2:=x1.put (zY _ _) (v:=⟨Z,x⟩) h8 (by rw[show V.bound ⟨Z,x⟩=0 from zfx _ _ (hK.t.is x6).data];exact zk _) xb;exact zdg hK hX rest x2 hs hp λU' a' w' h=>⟨rfl,U',h⟩
  show if zX o (yielded ops a.tmps) then _ else _
  simp only[zX,x9,if_true];exact .inl key
 exact zT (wpIn_region_list (zaB zbw _ xa x0)) λe a w⟨he,U',h⟩=>by subst he;exact⟨_,U',h,hq⟩
def zfO(r:Ty)(x:r.T)(ts:List Ty)(xs:Args ts):AS:=⟨(0,⟨.optr r,⟨0,r,.here⟩⟩)::zb1 ts xs 1,[(0,some (.box r x))],1⟩
theorem zaW{G:zj->Prop}(hK:KnOk P G K){f:yR}{fn:Func}{c:Code}{ctr:RCtr}(hf:P.funcs[f]? =some fn)(hb:fn.body=some c)(hn:fn.ntmps=n)
  (xf:∀(zas:Array zi)(w:zj),(callFunc f zas).run P w=.ok (.enter f zas) w) (hd:zbf ctr.args=true) (hlen:ctr.args.length+1<=n) (xb:∀w w' g,ctr.inv w g->G w->Kept (λh=>h=g) w w'->G w')
  (h:∀(w0:zj)(O:Nat->Prop)(g:Nat),(uU G O g).Ok w0->ctr.inv w0 g->∀(x:ctr.self.T)(xs:Args ctr.args),allP (ctr.pre x xs)->
    AWP P w0 (uU G O g) n c (zfO ctr.self x ctr.args xs) (λe Y=>(e=.normal\/e=.ret)/\zq Y.E 0=some (.box ctr.self (ctr.post x xs))/\Done K.T fn.results.toList ⟨Y.F,zgh [0] Y.E,Y.nx⟩ none ctr.res (ctr.out x xs))):RCtrOk P G f ctr:=by
 refine⟨xf,λw O g cs ty x xs vs hO hg hx x1 hp x2 hG=>calls_of_wp hf hb ?_⟩;have xd:=zc5 _ _ _ x1;have xg:=(zv.1 hg).1
 let X:Ownr:=uU G O g
 have x0:∀h,X.R h↔h=g:=Ownr.one_R _ _ _;have hX:X.Ok w:=⟨λh hh=>⟨(hO h hh).1,λe=>(hO h hh).2 ((x0 h).1 e)⟩,λh e=>by rw[(x0 h).1 e];exact xg,λw' hk=>xb w w' g x2 hG ⟨hk.os,hk.tape,hk.output,hk.size,λk xe hr=>hk.block k xe λx4=>hr ((x0 k).1 x4)⟩⟩
 let U:Nat->zi:=λ_=>.pointer (some ⟨g,0,none⟩)
 have hE:OSet X (zfO ctr.self x ctr.args xs).E U=λh=>O h\/h=g:=by
  funext k
  apply propext;constructor
  .rintro (h|⟨i,o,_,h⟩)
   .exact .inl h
   .exact .inr (by simpa [U,zai] using h.symm)
  .rintro (h|h)
   .exact .inl h
   .exact .inr ⟨0,_,rfl,by rw[h];rfl⟩
 have hget:∀i o,zq (zfO ctr.self x ctr.args xs).E i=some o->i=0/\o=.box ctr.self x:=λi o h=>by
  rw[show(zfO ctr.self x ctr.args xs).E=[(0,some (.box ctr.self x))] from rfl,zag]at h;by_cases hi:0=i
  .rw[if_pos hi]at h;cases h;exact⟨hi.symm,rfl⟩
  .rw[if_neg hi]at h;cases h
 have x3:Sim w X n (zfO ctr.self x ctr.args xs) U { tmps:=(zz (some ⟨g,0,none⟩)::vs).toArray++zG (fn.ntmps-(zz (some ⟨g,0,none⟩)::vs).toArray.size) undef,defers:=[] } w:=by
  refine⟨by simp[hn,xd];omega,rfl,jw _ _,λs=>?_,λi o h=>?_,λi o k h hk=>?_,λi j oi oj h h' xi=>?_,λi o h=>?_,⟨zu _,λi hi=>⟨rfl,λo ho=>?_⟩⟩,λs=>?_,λi o h=>by rw[(hget i o h).2];intro _ e;cases e⟩
  .rw[hE];have e:((zz (some ⟨g,0,none⟩)::vs).toArray++zG (fn.ntmps-(zz (some ⟨g,0,none⟩)::vs).toArray.size) undef)=([zz (some ⟨g,0,none⟩)]++vs++zg (fn.ntmps-(vs.length+1)) undef).toArray:=by simp
   show RepV w _ _ _ _ (((zz (some ⟨g,0,none⟩)::vs).toArray++zG (fn.ntmps-(zz (some ⟨g,0,none⟩)::vs).toArray.size) undef).getD s undef);rw[e];have:=zcs (U:=U) ctr.args xs vs [zz (some ⟨g,0,none⟩)] (zg (fn.ntmps-(vs.length+1)) undef) hd x1 s;have key:∀u:zi,RepV w (λh=>O h\/h=g) U (zr ((0,⟨.optr ctr.self,⟨0,ctr.self,.here⟩⟩)::zb1 ctr.args xs 1) s).t (zr ((0,⟨.optr ctr.self,⟨0,ctr.self,.here⟩⟩)::zb1 ctr.args xs 1) s).x u=RepV w (λh=>O h\/h=g) U (if 0=s then(⟨.optr ctr.self,⟨0,ctr.self,.here⟩⟩:V) else zr (zb1 ctr.args xs 1) s).t (if 0=s then(⟨.optr ctr.self,⟨0,ctr.self,.here⟩⟩:V) else zr (zb1 ctr.args xs 1) s).x u:=λu=>by
    rw[<-zal]
   refine(key _).mpr ?_;by_cases hs:0=s
   .rw[if_pos hs];subst hs;exact⟨g,rfl,by simp[vM,Path.off]⟩
   .rw[if_neg hs];exact this
  .obtain⟨rfl,rfl⟩:=hget i o h;exact⟨g,cs,ty,rfl,zk _,hg,by rw[hE];exact hx⟩
  .exact .inr ((x0 k).2 (by simpa [U,zai] using hk.symm))
  .have:=(hget i oi h).1;have:=(hget j oj h').1;omega
  .have:=(hget i o h).1;subst this;exact qw 0
  .rw[(hget i o ho).2];rfl
  .show(zr ((0,⟨.optr ctr.self,⟨0,ctr.self,.here⟩⟩)::zb1 ctr.args xs 1) s).bound<=1;rw[zal];by_cases hs:0=s
   .rw[if_pos hs];exact zu _
   .rw[if_neg hs,zbI _ _ _ _ hd];exact zk _
 refine wp_mono (wpIn_wide.1 (h w O g hX x2 x xs hp _ _ _ x3)) λe a' w'⟨Y',U',h1,h2,h6,h3⟩=>?_;obtain⟨v,h4,h5⟩:=zj3 (X:=X) hK hX h1 [0] h3 (O':=λh=>O h\/h=g) (λk hk=>by
  rcases hk with hk|hk
  .exact .inl hk
  .exact .inr ⟨0,_,h6,by rw[(h1.fix.2 0 (qw 0)).1,hk];rfl,.inl rfl⟩)
 have x8:Kept (λh=>h=g) w w':=⟨h1.bel.os,h1.bel.tape,h1.bel.output,h1.bel.size,λk hk hr=>h1.bel.block k hk λx4=>hr ((x0 k).1 x4)⟩;obtain⟨g',x5,ty',x7,_,x6,xh⟩:=h1.own 0 _ h6;have x9:=(h1.fix.2 0 (qw 0)).1;rw[x7]at x9;have xc:g'=g:=by simpa [zai,X,uU] using x9
 subst xc;have xa:RepC w' (λh=>O h\/h=g') ctr.self (ctr.post x xs) x5:=qU ⟨zu _,λ_ _ _=>rfl,λk _ hk=>by
  rcases hk with hk|hk
  .exact .inl hk
  .exact .inr ⟨0,_,h6,by rw[x7,hk];rfl⟩⟩ _ _ _ xh
 rcases h2 with rfl|rfl
 .exact⟨h1.df,v,h4,v,x5,ty',rfl,x8,x6,xa,h5⟩
 .exact⟨h1.df,v,h4,v,x5,ty',rfl,x8,x6,xa,h5⟩
end
def tblB(P:zA):Tbl->Bool
 | []=>true
 |(t,Z)::r=>layB P Z (.inl t)&&tblB P r
def cmpT(P:zA)(T:Tbl):List zy->Bool
 | []=>true
 |t::r=>!P.eqGuardType P.depth t&&(match tget T t with |some Z=>Cmp P Z (.inl t)&&Nat.ble Z.depth 10000|none=>true)&&cmpT P T r
def zti(P:zA):UTbl->Bool
 | []=>true
 |(t,e)::r=>(match P.underlying t with |some (.slice e')=>yG e e'|_=>false)&&zti P r
theorem zsk{P:zA}{T:Tbl}(h:tblB P T=true):∀t Z,tget T t=some Z->Lay P Z (.inl t):=by
 induction T with
 |nil=>intro t Z h;cases h
 |cons p r ih=>
  obtain⟨s,Y⟩:=p;intro t Z ht;simp only[tblB,zh]at h;simp only[tget,cond_eq_ite,qE]at ht;split at ht
  .rename_i e;cases ht;exact e▸zsV _ _ h.1
  .exact ih h.2 t Z ht
theorem ztn{P:zA}{T:Tbl}{Q:List zy}(h:cmpT P T Q=true):∀t,Q.any (yG t)=true->P.eqGuardType P.depth t=false/\∀Z,tget T t=some Z->Cmp P Z (.inl t)=true/\Z.depth<=10000:=by
 induction Q with
 |nil=>intro t h;cases h
 |cons s r ih=>
  intro t ht;simp only[cmpT,zh,xJ]at h;simp only[List.any_cons,xO,qE]at ht;rcases ht with rfl|ht
  .refine⟨h.1.1,λZ x0=>?_⟩;have:=h.1.2;rw[x0]at this;simp only[zh,vz]at this;exact this
  .exact ih h.2 t ht
theorem zqI{P:zA}{U0:UTbl}(h:zti P U0=true):UOk P U0:=by
 induction U0 with
 |nil=>intro t e h;cases h
 |cons p r ih=>
  obtain⟨s,e'⟩:=p;intro t e ht;simp only[zti,zh]at h;simp only[uget,cond_eq_ite,qE]at ht;split at ht
  .rename_i hs;cases ht;subst hs;have h1:=h.1;split at h1
   .rename_i e2 h2;rw[h2,xL h1]
   .cases h1
  .exact ih h.2 t e ht
theorem znl{P:zA}{T:Tbl}{Q:List zy}(h:tblB P T=true)(hq:cmpT P T Q=true):TOk P T Q:=⟨zsk h,ztn hq⟩
theorem CsOk.nil{P:zA}{G:zj->Prop}:CsOk P G []:=λf c h=>by cases h
theorem CsOk.cons{P:zA}{G:zj->Prop}{f:yR}{c:Ctr}{C:Ctrs}(h:CtrOk P G f c)(hC:CsOk P G C):CsOk P G ((f,c)::C):=by
 intro g d hg;simp only[cget,cond_eq_ite,qE]at hg;split at hg
 .rename_i e;cases hg;exact e▸h
 .exact hC g d hg
theorem KnOk.withR{P:zA}{G:zj->Prop}{K:Kn}(h:KnOk P G K){R:List (yR×RCtr)}(hR:RsOk P G R):KnOk P G { K with R:=R }:=⟨h.t,h.u,h.c,h.st,hR⟩
theorem KnOk.with{P:zA}{G:zj->Prop}{K:Kn}(h:KnOk P G K){C:Ctrs}(hC:CsOk P G C):KnOk P G { K with C:=C }:=⟨h.t,h.u,hC,h.st,h.r⟩
theorem zah{n:Int}(h1: -9223372036854775808<=n)(h2:n<=9223372036854775807):inR .i64 n:=zc2.2 ⟨h1,h2⟩
theorem zm5{T:Tbl}{r:vX}{Y:AS}{t:Ty}{x y:t.T}{p:List Prop}{v:V}(h:rOf T Y r=some (p,v))(hp:allP p)(ht:t.argOk=true)(hc:coe t (dat Y.E v)=some y)(x0:y=x):Done T [r] Y none t x:=
 ⟨p,v,h,hp,ht,x0▸hc⟩
theorem zv3{T:Tbl}{rs:List vX}{Y:AS}{t:Ty}{x y:t.T}{p:List Prop}(hl:rs.length≠1)(ht:t.tupData=true)(h:zmQ T Y rs t=some (p,y))(hp:allP p)(x0:y=x):Done T rs Y none t x:=by
 match rs,hl,h with
 | [],hl,h=>exact⟨hl,ht,p,x0▸h,hp⟩
 | [_],hl,_=>exact(hl rfl).elim
 |_::_::_,hl,h=>exact⟨hl,ht,p,x0▸h,hp⟩
theorem zuX{T:Tbl}{s:Nat}{Y:AS}{Z x0:Ty}{te:zy}{i:Nat}{xs ys:List Z.T}(h:zr Y.F s=⟨.obuf x0,i⟩)(he:zq Y.E i=some (.buf te Z xs))(x1:xs=ys):Done T [.tmp s] Y (some te) (.slice Z) ys:=
 ⟨Z,x0,i,xs,h,he,by rw[x1]⟩
theorem zeP{t:Ty}{x y:t.T}(h:x=y):some (OObj.box t x)=some (OObj.box t y):=by rw[h]
theorem zbp{te:zy}{t:Ty}{x y:List t.T}(h:x=y):some (OObj.buf te t x)=some (OObj.buf te t y):=by rw[h]
theorem zce(k:Nat):(⟨.int .i64,((k:Int)+1:Int)⟩:V)=⟨.int .i64,(((k+1:Nat):Int):Int)⟩:=rfl
theorem zaP{k:Nat}(h:k<9223372036854775807):inR .i64 ((k:Int)+1):=zah o_ o_
theorem V.congr{t:Ty}{x y:t.T}(h:x=y):(⟨t,x⟩:V)=⟨t,y⟩:=by rw[h]
theorem z_{P:Prop}(h:P:=by repeat'(first|exact trivial|assumption|(refine⟨?_,?_⟩)|(intro _)|exact zb rfl|exact Int.natCast_nonneg _|rfl|omega|exact zah o_ o_|(simp_all [allP];done))):P:=h
section
variable {P:zA}{K:Kn}{w0:zj}{X:Ownr}{n:Nat}{Y:AS}{Q:Exit->AS->Prop}
theorem zaL{c:zK}{x y:Code}{b:Bool}(hc:evO Y.F c=⟨.bool,b⟩)(hf:AWP P w0 X n y Y Q)(hb:b=false:=by first|rfl|decide):AWP P w0 X n (.cond c x y) Y Q:=
 zae hc (λh=>by rw[hb]at h;cases h) λ_=>hf
theorem zbu{c:zK}{x y:Code}{b:Bool}(hc:evO Y.F c=⟨.bool,b⟩)(ht:AWP P w0 X n x Y Q)(hb:b=true:=by first|rfl|decide):AWP P w0 X n (.cond c x y) Y Q:=
 zae hc (λ_=>ht) λh=>by rw[hb]at h;cases h
theorem zaN{c:zK}{x y:Code}{p:Prop}[Decidable p](hc:evO Y.F c=⟨.bool,decide p⟩)(ht:p->AWP P w0 X n x Y Q)(hf:¬p->AWP P w0 X n y Y Q):AWP P w0 X n (.cond c x y) Y Q:=
 zae hc (λh=>ht (of_decide_eq_true h)) λh=>hf (of_decide_eq_false h)
end
theorem D1{T:Tbl}{r:vX}{Y:AS}{t:Ty}{x y:t.T}{p:List Prop}{v:V}(hxy:y=x)(h:rOf T Y r=some (p,v):=by rfl)(hp:allP p:=by trivial)(ht:t.argOk=true:=by rfl)(hc:coe t (dat Y.E v)=some y:=by rfl):Done T [r] Y none t x:=zm5 h hp ht hc hxy
theorem D2{T:Tbl}{rs:List vX}{Y:AS}{t:Ty}{x y:t.T}{p:List Prop}(hxy:y=x)(h:zmQ T Y rs t=some (p,y):=by rfl)(hl:rs.length≠1:=by decide)(ht:t.tupData=true:=by rfl)(hp:allP p:=by trivial):Done T rs Y none t x:=zv3 hl ht h hp hxy
structure KeptFrom(B:Nat)(w w':zj):Prop where
 os:w'.os=w.os
 tape:w'.tape=w.tape
 output:w'.output=w.output
 size:w.heap.size<=w'.heap.size
 block:∀k,B<=k->k<w.heap.size->w'.heap[k]? =w.heap[k]?
def zrX(P:zA)(n:Nat)(gf:Nat)(lb:Array zi)(t:Ty)(x0:List t.T)(w:zj):Prop:=
 ∀(l:Nat)(J:Nat->zj->Prop)(W:zj),xW w.heap.size w W->(∀k A C,J k A->xW W.heap.size A C->J k C)->
  (∀k x y W1,J k W1->x0[k]? =some y->W.heap.size<=W1.heap.size->RepD W1 (λg=>g<W.heap.size) t y x->YieldAt yU (n-1) P l #[x] W1 λe W'=>e=.returned (.bool true)/\J (k+1) W'/\KeptFrom W.heap.size W1 W')->
  J 0 W->
  CallsIn yU n P gf (#[.func (.yield l) #[] #[]]++lb) W λe W'=>(∃v,e=.returned v)/\J x0.length W'
theorem KeptFrom.trans{B:Nat}{a b c:zj}(h:KeptFrom B a b)(k:KeptFrom B b c):KeptFrom B a c:=
 ⟨k.os.trans h.os,k.tape.trans h.tape,k.output.trans h.output,zL h.size k.size,λi hi hl=>(k.block i hi (zF hl h.size)).trans (h.block i hi hl)⟩
theorem zcu{B:Nat}{W:zj}{l:Nat}{o o':Obj}(h:W.heap[l]? =some o)(hB:B<=l):xW B W (W.putObj l o'):=
 (zY B W).grown (grownBy_putObj' W l o') (by have:=(zv.1 h).1;omega) (λk e=>by cases e;omega)
theorem zed{B:Nat}{W:zj}{l:Nat}{o o':Obj}(h:W.heap[l]? =some o)(hB:l<B):KeptFrom B W (W.putObj l o'):=
 have hg:=grownBy_putObj' W l o'
 ⟨hg.os,hg.tape,hg.output,hg.size,λk hk x0=>hg.block k x0 λe=>by cases e;omega⟩
theorem zkk{P:zA}{n:Nat}{g:zK}{p:Tmp}{assign body:Code}{Q:Exit->Act->zj->Prop}{a:Act}{w:zj}{gf:Nat}{lb:Array zi}(hg:a.eval g=.func (.func gf) #[] lb)(eg:∀args w,(callFunc gf args).run P w=.ok (.enter gf args) w)
  {t:Ty}{x3:List t.T}{w0:zj} (xc:zrX P (n-1) gf lb t x3 w0) (xf:xW w0.heap.size w0 w)
  (I:Nat->zj->Prop) (hI:∀k A C,I k A->xW w.heap.size A C->I k C) (h0:I 0 w) (x7:zi->Act)
  (x2:∀(l:Nat)(x:zi)(W:zj)(K:Act->zj->Prop),K (x7 x) W->assign.wpIn (yU.inRound l) (n-1-1) P (Exit.then K (λ_ _ _=>False)) { tmps:=((#[p]:Array Tmp).zip #[x]).foldl (λt(p,v)=>t.setIfInBounds p v) a.tmps,defers:=[] } W)
  (x8:∀(l k:Nat)(x:zi)(y:t.T)(W:zj),I k W->x3[k]? =some y->w.heap.size+2<=W.heap.size->RepD W (λg=>g<w.heap.size+2) t y x->
    body.wpIn (yU.inRound l) (n-1-1) P (λe _ W'=>e=.normal/\KeptFrom w.heap.size W W'/\I (k+1) W') (x7 x) W)
  (x6:∀W:zj,I x3.length W->W.heap[w.heap.size]? =some (.deferred (some []))->Q .normal { a with defers:={ target:=.collected w.heap.size,args:=#[] }::a.defers } W):
  (Code.rangeFunc g #[p] assign body).wp P Q a w:=by
 refine(wpIn_wide (n:=n)).1 (wpIn_rangeFunc ?_);intro fn xg;obtain⟨x1,x0⟩:∃x1:LoopState->Option Code->Loop,x1=λst pe=>{ state:=st,pending:=pe,fn,tmps:=a.tmps,params:=#[p],assign,body,defers:=w.heap.size }:=⟨_,rfl⟩;obtain⟨W1,x9⟩:∃W1,(w.alloc (.deferred (some []))).alloc (.loop (x1 .ready none))=W1:=⟨_,rfl⟩;have xu:W1.heap.size=w.heap.size+2:=by rw[<-x9];simp
 have xj:W1.heap[w.heap.size+1]? =some (.loop (x1 .ready none)):=by
  rw[<-x9];have:=xK (w.alloc (.deferred (some []))) (.loop (x1 .ready none));rwa[World.size_alloc]at this
 have xk:W1.heap[w.heap.size]? =some (.deferred (some [])):=by
  rw[<-x9];exact(Below.heap_alloc _ _ _ (by simp)).trans (xK w _)
 have x5:xW w.heap.size w W1:=by rw[<-x9];exact((zY _ w).alloc (zu _) _).alloc (by simp) _
 have xo:I 0 W1:=hI 0 _ _ h0 x5;have xm:xW w0.heap.size w0 W1:=xf.trans (x5.mono xf.size);refine⟨w.heap.size+1,[{ target:=.collected w.heap.size,args:=#[] }],W1,{ target:=.fn (.func gf) lb,args:=#[.func (.yield (w.heap.size+1)) #[] #[]] },W1,gf,
  #[.func (.yield (w.heap.size+1)) #[] #[]]++lb,W1,?_,?_,?_,?_,(λh=>by cases h),?_⟩
 .rw[<-x9,x0];exact run_enterLoop_outer _ _ _ _ _
 .simp only[resolve,hg];simp[go_sem]
 .intro f' xv;trivial
 .simp[invoke,go_sem,eg]
 .refine(xc (w.heap.size+1) (λk W=>I k W/\W.heap[w.heap.size+1]? =some (.loop (x1 .ready none))/\W.heap[w.heap.size]? =some (.deferred (some []))) W1 xm
   (λk A C hs hb=>⟨hI k A C hs.1 (hb.mono o_),(hb.block _ o_).trans hs.2.1,(hb.block _ o_).trans hs.2.2⟩) ?_ ⟨xo,xj,xk⟩).mono ?_
  .rintro k x y W ⟨hi,hl,hk⟩ xn xt hx;have xi:w.heap.size+1<W.heap.size:=(zv.1 hl).1;have hy:=run_yield (P:=P) (args:=#[x]) hl (by rw[x0];rfl);rw[x0]at hy;refine⟨fn,_,assign,body,hy,roundIn_of_wpIn xg ?_⟩;have xd:(W.putObj (w.heap.size+1) (.loop { x1 .ready none with state:=.busy })).heap[w.heap.size+1]? =some (.loop { x1 .ready none with state:=.busy }):=jx xi;have xe:(W.putObj (w.heap.size+1) (.loop { x1 .ready none with state:=.busy })).heap[w.heap.size]? =some (.deferred (some [])):=(xD o_).trans hk;have xb:KeptFrom W1.heap.size W (W.putObj (w.heap.size+1) (.loop { x1 .ready none with state:=.busy })):=zed hl o_;have xp:RepD (W.putObj (w.heap.size+1) (.loop { x1 .ready none with state:=.busy })) (λg=>g<w.heap.size+2) t y x:=
    hx.keep ⟨xb.size,λg hg hn=>xb.block g o_ hg,λg _ hg=>by show g<W1.heap.size;omega⟩
   refine x2 _ x W _ ?_;refine⟨_,run_beginRound hl (by rw[x0]),?_⟩;refine wpIn_mono (x8 _ k x y _ (hI k _ _ hi (zcu hl o_)) xn (zL o_ xb.size) xp) ?_;rintro e a3 W3 ⟨rfl,x4,xq⟩;have xa:W3.heap[w.heap.size+1]? =some (.loop { x1 .ready none with state:=.busy }):=(x4.block _ o_ (zv.1 xd).1).trans xd;have xh:=(x4.block _ o_ (zv.1 xe).1).trans xe;have hr:=run_endRound (P:=P) none xa;refine⟨_,_,hr,rfl,⟨hI _ _ _ xq (zcu xa o_),?_,(xD o_).trans xh⟩,(xb.trans ⟨x4.os,x4.tape,x4.output,x4.size,λg hg xr=>x4.block g o_ xr⟩).trans (zed xa o_)⟩;rw[jx (zv.1 xa).1,x0];rfl
  .rintro e W2 ⟨⟨v,rfl⟩,hi,hl,hk⟩;exact⟨none,_,by have:=run_endLoop (P:=P) hl (by rw[x0];simp);rw[x0]at this;exact this,x6 _ (hI _ _ _ hi (zcu hl o_)) ((xD o_).trans hk)⟩
def RWP(P:zA)(w0:zj)(X:Ownr)(n:Nat)(c:Code)(Y:AS)(R:Exit->Act->zj->Prop):Prop:=∀U a w,Sim w0 X n Y U a w->c.wpIn (zcP X.ρ) 0 P R a w
theorem RWP.seq{P:zA}{w0:zj}{X:Ownr}{n:Nat}{x y:Code}{Y:AS}{R:Exit->Act->zj->Prop}(h:AWP P w0 X n x Y (zil (λY'=>RWP P w0 X n y Y' R) (λ_ _=>False))):RWP P w0 X n (.seq x y) Y R:=
 λU a w hs=>wpIn_seq (zT (h U a w hs) λe a' w'⟨Y',U',h1,h2⟩=>by
  cases e with
  |normal=>exact h2 U' a' w' h1
  |_=>exact h2.elim)
theorem OSet.nil{X:Ownr}{U:Nat->zi}:OSet X [] U=X.X:=by
 funext g
 apply propext;constructor
 .rintro (h|⟨i,o,h,_⟩)
  .exact h
  .cases h
 .exact λh=>.inl h
theorem zcn{w:zj}{O:Nat->Prop}{U:Nat->zi}{F:yF}{ts:Array zi}{s:Nat}{v:V}(h:RepV w O U v.t v.x (ts.getD s undef))(hF:∀t,RepV w O U (zr F t).t (zr F t).x (ts.getD t undef)):
  ∀t,RepV w O U (zr ((s,v)::F) t).t (zr ((s,v)::F) t).x (ts.getD t undef):=by
 intro t;rw[zal];by_cases hs:s=t
 .rw[if_pos hs, <-hs];exact h
 .rw[if_neg hs];exact hF t
theorem ziP{a b:Array zi}{i:Nat}(h:i<a.size):(a++b).getD i undef=a.getD i undef:=by
 simp[yA,Array.getElem?_append,h]
theorem ziv{w:zj}{O:Nat->Prop}{U:Nat->zi}{ts:Array zi}:∀t,RepV w O U (zr ([]:yF) t).t (zr ([]:yF) t).x (ts.getD t undef):=λ_=>trivial
section
variable {w0 w w':zj}{X:Ownr}{n:Nat}{Y:AS}{F F':yF}{U:Nat->zi}{a:Act}
theorem Sim.fresh(hK:X.K=0)(x2:a.tmps.size=n)(x1:a.defers=X.D)(x0:∀s,RepV w X.X U (zr F s).t (zr F s).x (a.tmps.getD s undef))(hb:bndB 0 F=true):Sim w X n ⟨F,[],0⟩ U a w:=
 ⟨x2,x1,jw _ _,λs=>by rw[OSet.nil];exact x0 s,λi o h=>(by cases h),λi o g h=>(by cases h),λi j oi oj h=>(by cases h),λi o h=>(by cases h),⟨by rw[hK];exact zu _,λi h=>by rw[hK]at h;cases h⟩,λs=>zda hb s,λi o h=>(by cases h)⟩
theorem Sim.rebase(h:Sim w0 X n Y U a w)(hE:Y.E=[])(hK:X.K=0)(hF:Sub Y.F F')(hb:bndB 0 F'=true):Sim w X n ⟨F',[],0⟩ U a w:=
 Sim.fresh hK h.sz h.df (λs=>by
  have h1:=(h.weaken hF.get).fr s;rw[show({ Y with F:=F' }:AS).E=[] from hE,OSet.nil]at h1;exact h1) hb
theorem Sim.round{B:Nat}(h:Sim w0 X n Y U a w)(hE:Y.E=[])(x0:∀g,g<B->X.X g)(hK:X.K=0)(hk:KeptFrom B w w')(hF:Sub Y.F F')(hb:bndB 0 F'=true):Sim w' X n ⟨F',[],0⟩ U a w':=
 Sim.fresh hK h.sz h.df (λs=>by
  have h1:=(h.weaken hF.get).fr s;rw[show({ Y with F:=F' }:AS).E=[] from hE,OSet.nil]at h1;refine xF ⟨hk.size,λg hg hn=>hk.block g ?_ hg,λg _ h=>h⟩ _ _ _ h1;rcases Nat.lt_or_ge g B with h2|h2
  .exact(hn (x0 g h2)).elim
  .exact h2) hb
theorem OwnRep.flat{O O':Nat->Prop}{B:Nat}{bv:zi}{te:zy}{t:Ty}{xs:List t.T}(ht:t.flat=true)(h:yZ w O U B bv (.buf te t xs)):yZ w O' U B bv (.buf te t xs):=by
 obtain⟨cs,h1,h2,h3⟩:=h;exact⟨cs,h1.mono λx _ c hc=>zbB t ht x c hc,h2,h3⟩
end
theorem Sim.anchor{w0 w:zj}{X:Ownr}{n:Nat}{Y:AS}{U:Nat->zi}{a:Act}(h:Sim w0 X n Y U a w)(fix:Nat->Nat)(x0:∀i,i<Y.nx->zai (U i)=some (fix i)/\∀o,zq Y.E i=some o->o.isBuf=false)(D:List jF):
  Sim w { X with K:=Y.nx,fix:=fix,D:=D } n Y U { a with defers:=D } w:=
 ⟨h.sz,rfl,jw _ _,h.fr,h.own,λi o g hi hg=>.inr (.inl ⟨i,h.lt i o hi,by
   have h1:=(x0 i (h.lt i o hi)).1;rw[hg]at h1;exact(yP h1).symm⟩),h.inj,h.lt,⟨zu _,x0⟩,h.hb,h.hE⟩
section
variable {P:zA}{ρ:Option Nat}{n:Nat}{ops:Array Oper}{a:Act}{w:zj}
theorem zdA{o:Oper}{rest:List Oper}{x:zK}(ho:o.op=.move x\/o.op=.assign x)(hg:o.guard=none){R:Exit->Act->zj->Prop}(h:wpListIn (zcP ρ) n P ops R rest (a.put o.dst (a.eval x)) w):wpListIn (zcP ρ) n P ops R (o::rest) a w:=by
 refine wpListIn_plain hg λK hK=>za2 (λc e=>?_) (zba (u:=a.eval x) (w':=w) ?_ (hK _ _ h))
 .rcases ho with ho|ho<;>(rw[e]at ho;cases ho)
 .unfold execOp;rcases ho with ho|ho<;>simp[ho]
end
theorem YieldAt.any{P:zA}{m m' l:Nat}{args:Array zi}{W:zj}{R:gv->zj->Prop}(h:YieldAt yU m P l args W R):YieldAt yU m' P l args W R:=by
 obtain⟨fn,tmps,assign,body,h1,h2⟩:=h;exact⟨fn,tmps,assign,body,h1,h2.1,λc cs _=>h2.2 c cs (room_wide _)⟩
structure KeepsC(w w':zj):Prop where
 size:w.heap.size<=w'.heap.size
 block:∀(g:Nat)cs ty fz,w.heap[g]? =some (.cells cs ty fz)->w'.heap[g]? =some (.cells cs ty fz)
 maps:∀(g:Nat)ms ck,w.heap[g]? =some (.map ms ck)->w'.heap[g]? =some (.map ms ck)
section
variable {w w':zj}{O:Nat->Prop}{U:Nat->zi}
theorem CellsAt.keepC{g off:Nat}{vs:List zi}(h:ju w g off vs)(hk:KeepsC w w'):ju w' g off vs:=λj u hu=>by
 have h1:=h j u hu;have hb:∃cs ty fz,w.heap[g]? =some (.cells cs ty fz):=by
  unfold qd at h1;cases ho:w.heap[g]? with
  |none=>simp[ho]at h1
  |some o=>cases o<;>first|exact⟨_,_,_,rfl⟩|(simp[ho]at h1)
 obtain⟨cs,ty,fz,hb⟩:=hb;exact(World.cell?_of_block (w:=w) ((hk.block g cs ty fz hb).trans hb.symm)).trans h1
theorem RepS.keepC{α:Type}{R R':α->List zi->Prop}{xs:List α}{v:zi}(h:RepS w O R xs v)(hk:KeepsC w w')(hr:∀x c,R x c->R' x c):RepS w' O R' xs v:=by
 rcases h with h|⟨g,off,c,vs,h1,h2,h3,h4,h5,h6,h7,h8⟩
 .exact .inl h
 .exact .inr ⟨g,off,c,vs,h1,h2,h3,h4,zF h5 hk.size,h6,h7.mono λx _ c=>hr x c,h8.keepC hk⟩
theorem RepC.keepC(hk:KeepsC w w'):∀(t:Ty)(x:t.T)(cs:List zi),RepC w O t x cs->RepC w' O t x cs:=by
 intro t
 induction t with
 |pair a b x0 x1=>rintro x cs ⟨c1,c2,h,h1,h2⟩;exact⟨c1,c2,h,x0 _ _ h1,x1 _ _ h2⟩
 |arr n t ih=>rintro x cs ⟨h1,h2⟩;exact⟨h1,h2.mono λx _ c=>ih x c⟩
 |slice t ih=>rintro x cs ⟨v,h,h2⟩;exact⟨v,h,h2.keepC hk ih⟩
 |_=>intro x cs h;exact h
theorem RepD.keepC(hk:KeepsC w w'){t:Ty}{x:t.T}{v:zi}(h:RepD w O t x v):RepD w' O t x v:=by
 unfold RepD at *;split at h
 .rename_i ht;obtain⟨cs,h1,h2⟩:=h;rw[if_pos ht];exact⟨cs,h1,RepC.keepC hk _ _ _ h2⟩
 .rename_i ht;rw[if_neg ht];exact RepC.keepC hk _ _ _ h
theorem RepTup.keepC(hk:KeepsC w w'):∀(t:Ty)(x:t.T)(vs:List zi),RepTup w O t x vs->RepTup w' O t x vs:=by
 intro t
 induction t with
 |tup a b iha x0=>rintro x vs ⟨v,r,h,h1,h2⟩;exact⟨v,r,h,h1.keepC hk,x0 _ _ h2⟩
 |unit=>intro x vs h;exact h
 |_=>intro x vs h;exact absurd h (by simp[RepTup])
theorem RepP.keepC(hk:KeepsC w w'){t:Ty}{x:t.T}{v:zi}(h:RepP w O t x v):RepP w' O t x v:=by
 cases t<;>first|exact h.elim|skip
 obtain⟨g,off,cs,h1,h2,h3,h4,h5⟩:=h;exact⟨g,off,cs,h1,zF h2 hk.size,h3,RepC.keepC hk _ _ _ h4,h5.keepC hk⟩
theorem RepCap.keepC(hk:KeepsC w w'):∀(t:Ty)(x:t.T)(vs:List zi),RepCap w O t x vs->RepCap w' O t x vs:=by
 intro t
 induction t with
 |tup a b iha x0=>rintro x vs ⟨v,r,h,h1,h2⟩;exact⟨v,r,h,h1.keepC hk,x0 _ _ h2⟩
 |unit=>intro x vs h;exact h
 |_=>intro x vs h;exact absurd h (by simp[RepCap])
theorem RepV.keepC(hk:KeepsC w w'):∀(t:Ty)(x:t.T)(v:zi),RepV w O U t x v->RepV w' O U t x v:=by
 intro t
 induction t with
 |junk=>intro x v h;exact h
 |lit=>intro x v h;exact h
 |vptr t _=>
  rintro x v ⟨g,off,cs,h1,h2,h3,h4,h5⟩;exact⟨g,off,cs,h1,zF h2 hk.size,h3,RepC.keepC hk _ _ _ h4,h5.keepC hk⟩
 |cptr g off t _=>
  rintro x v ⟨cs,h1,h2,h3,h4,h5⟩;exact⟨cs,h1,zF h2 hk.size,h3,RepC.keepC hk _ _ _ h4,h5.keepC hk⟩
 |optr t _=>intro x v h;exact h
 |obuf t _=>intro x v h;exact h
 |tup a b _ _=>rintro x v ⟨vs,h1,h2⟩;exact⟨vs,h1,RepTup.keepC hk _ _ _ h2⟩
 |cond t ih=>intro x v h;exact⟨λhc=>ih _ _ (h.1 hc),h.2⟩
 |clo f t _=>rintro x v ⟨vs,h1,h2⟩;exact⟨vs,h1,RepCap.keepC hk _ _ _ h2⟩
 |mapL=>rintro x v ⟨r,ms,ck,h1,h2,h3,h4,h5⟩;exact⟨r,ms,ck,h1,zF h2 hk.size,h3,hk.maps r ms ck h4,h5⟩
 |hptr=>intro x v h;exact h
 |hcons a b x0 x1=>rintro x v ⟨u,s,h1,h2,h3,h4⟩;exact⟨u,s,h1,h2,x0 _ _ h3,x1 _ _ h4⟩
 |_=>intro x v h;exact RepD.keepC hk h
theorem RepH.keepC(hk:KeepsC w w'):∀{vs:List V}{cs:List zi},RepH w O U vs cs->RepH w' O U vs cs
 | [],_,h=>h
 |v::r,_,⟨u,s,h1,h2,h3,h4⟩=>⟨u,s,h1,h2,RepV.keepC hk _ _ _ h3,RepH.keepC hk h4⟩
theorem OwnRep.keepC{B:Nat}{bv:zi}{o:OObj}(h:yZ w O U B bv o)(hk:KeepsC w w'):yZ w' O U B bv o:=by
 cases o with
 |box t x=>
  obtain⟨g',cs,ty,rfl,h1,h2,h3⟩:=h;exact⟨g',cs,ty,rfl,h1,hk.block _ _ _ _ h2,RepC.keepC hk _ _ _ h3⟩
 |buf te t xs=>
  obtain⟨cs,h1,h2,h3⟩:=h;refine⟨cs,h1.mono λx _ c=>RepC.keepC hk _ _ _,⟨h2.1,?_⟩,h3⟩;rcases h2.2 with h4|⟨g',cap,cur,rfl,h4,h5,h6⟩
  .exact .inl h4
  .exact .inr ⟨g',cap,cur,rfl,h4,hk.block _ _ _ _ h5,h6⟩
 |hbox ty vs=>
  obtain⟨g',cs,rfl,h1,h2,h3⟩:=h;exact⟨g',cs,rfl,h1,hk.block _ _ _ _ h2,h3.keepC hk⟩
 |mp m I=>
  obtain⟨ms,ck,rfl,h1,h2,h3⟩:=h;exact⟨ms,ck,rfl,h1,hk.maps _ _ _ h2,h3⟩
theorem zdK{D:Nat}{x:Option (List jF)}{o:Obj}(hD:w.heap[D]? =some (.deferred x)):KeepsC w (w.putObj D o):=by
 have hg:=grownBy_putObj' w D o;refine⟨hg.size,λg cs ty fz h=>(hg.block g (zv.1 h).1 λe=>?_).trans h,λg ms ck h=>(hg.block g (zv.1 h).1 λe=>?_).trans h⟩
 .cases e;rw[hD]at h;cases h
 .cases e;rw[hD]at h;cases h
end
theorem Seen.keepC{w0 w w':zj}{X:Ownr}{Y:AS}{U:Nat->zi}{a:Act}(h:Seen w0 X Y U a w)(hk:KeepsC w w'):Seen w0 X Y U a w':=
 ⟨λs=>RepV.keepC hk _ _ _ (h.fr s),λi o hi=>(h.own i o hi).keepC hk,h.new⟩
theorem zkK{P:zA}{K:Kn}{w0 w:zj}{X:Ownr}{n D:Nat}{Y:AS}{U:Nat->zi}{a:Act}{m:Nat}(hK:KnOk P X.G K)(hX:X.Ok w0)(h:Sim w0 X n Y U a w)(x0:X.D=[{ target:=.collected D,args:=#[] }])(hD:w.heap[D]? =some (.deferred (some []))){fn:Func}{own:Option zy}{t:Ty}{x:t.T}
  (hd:Done K.T fn.results.toList Y own t x) (hR:own=none\/∀g,¬X.R g) {R:gv->zj->Prop} (hQ:∀v,(t=.unit\/zcd (w.putObj D (.deferred none)) X.X w0.heap.size own t x v)->R (.returned v) (w.putObj D (.deferred none))):
  LeavesInM yU m P fn a.tmps R a.defers .returning w:=by
 rw[h.df,x0];refine⟨by simp,.inl ⟨_,_,rfl,run_takeDeferred hD,?_⟩⟩;obtain⟨v,h1,h2⟩:=zfp hK hX (h.seen.keepC (zdK hD)) hd hR;exact⟨v,h1,hQ v h2⟩
def zsj{r Z:Ty}(t:Ty)(x:t.T):Path r Z->V
 |.here=>match zeC r t with
  |some _=>⟨.vptr t,x⟩
  |none=>⟨.junk,()⟩
 |_=>⟨.junk,()⟩
def thawB(i:Nat)(t:Ty)(x:t.T)(v:V):V:=
 match v with
 |⟨.optr _,⟨j,_,p⟩⟩=>bif yG i j then zsj t x p else v
 |v=>v.kill i
def Frame.thawB(i:Nat)(t:Ty)(x:t.T):List (Nat×V)->List (Nat×V)
 | []=>[]
 |(s,v)::r=>(s,Go.Proofs.YtdjjmoenpjlfeaaGreatDoor.thawB i t x v)::Frame.thawB i t x r
theorem Frame.get_thawB(i:Nat)(t:Ty)(x:t.T)(F:yF)(s:Nat):zr (Frame.thawB i t x F) s=Go.Proofs.YtdjjmoenpjlfeaaGreatDoor.thawB i t x (zr F s):=by
 induction F with
 |nil=>rfl
 |cons p F ih=>
  obtain⟨d,v⟩:=p;simp only[Frame.thawB,zal,ih];split<;>rfl
theorem zh7(i:Nat)(v:V):v.kill i=v\/v.kill i=⟨.junk,()⟩:=by
 unfold V.kill;cases uses i v.t v.x<;>simp
section
variable {P:zA}{K:Kn}{w0:zj}{X:Ownr}{n:Nat}{Y:AS}{U:Nat->zi}{a:Act}{w:zj}{Q:Exit->AS->Prop}
theorem Sim.freezeB(h:Sim w0 X n Y U a w)(hX:X.Ok w0){i:Nat}{t:Ty}{x:t.T}(hi:zq Y.E i=some (.box t x)):
  Sim w0 X n { F:=Frame.thawB i t x Y.F,E:=(i,none)::Y.E,nx:=Y.nx } U a w:=by
 have h':=h.forget i;obtain⟨g,cs,ty,x2,_,hg,hr⟩:=h.own i _ hi;have x3:∀g,OSet X ((i,none)::Y.E) U g->OSet X Y.E U g:=λg hg=>by
  rcases hg with hg|⟨j,oj,h1,h2⟩
  .exact .inl hg
  .rw[zag]at h1;by_cases hs:i=j
   .rw[if_pos hs]at h1;cases h1
   .rw[if_neg hs]at h1;exact .inr ⟨j,oj,h1,h2⟩
 have x4:¬OSet X ((i,none)::Y.E) U g:=λx1=>by
  rcases x1 with x1|⟨j,oj,h1,h2⟩
  .have h3:=hX.1 g x1;rcases h.new i _ g hi (by rw[x2];rfl) with h4|h4
   .omega
   .exact h3.2 h4
  .rw[zag]at h1;by_cases hs:i=j
   .rw[if_pos hs]at h1;cases h1
   .rw[if_neg hs]at h1;exact h.inj i j _ _ hi h1 hs g (by rw[x2];rfl) h2
 have hk:jk w w (OSet X Y.E U) (OSet X ((i,none)::Y.E) U):=⟨zu _,λ_ _ _=>rfl,λg _ h=>x3 g h⟩;have hv:RepV w (OSet X ((i,none)::Y.E) U) U (.vptr t) x (.pointer (some ⟨g,0,none⟩)):=
  ⟨g,0,cs,rfl,(zv.1 hg).1,x4,qU hk _ _ _ hr,λj u hu=>by
    unfold qd;rw[hg]
    simpa using hu⟩
 refine⟨h'.sz,h'.df,h'.bel,λs=>?_,h'.own,h'.new,h'.inj,h'.lt,h'.fix,λs=>?_,h'.hE⟩
 .have h1:=h'.fr s;rw[Frame.get_thawB];revert h1;generalize zr Y.F s=v;intro h1;by_cases x0:thawB i t x v=v.kill i
  .rw[x0];rcases zh7 i v with e|e
   .rw[e];exact h1
   .rw[e];trivial
  .obtain⟨vt,vx⟩:=v;cases vt<;>first|exact absurd rfl x0|skip
   rename_i Z;obtain⟨j,r,p⟩:=vx;simp only[thawB];cases e:yG i j with
   |false=>exact h1
   |true=>
    have e':=xL e;subst e';simp only[cond_true];obtain⟨g',hb,hu⟩:=h1;rw[x2]at hb;cases hb;cases p with
    |here=>
     simp only[zsj];cases zeC Z t with
     |none=>trivial
     |some q=>rw[hu];exact hv
    |_=>trivial
 .have h1:=h'.hb s;rw[Frame.get_thawB];revert h1;generalize zr Y.F s=v;intro h1;by_cases x0:thawB i t x v=v.kill i
  .rw[x0];rcases zh7 i v with e|e
   .rw[e];exact h1
   .rw[e];exact zk _
  .obtain⟨vt,vx⟩:=v;cases vt<;>first|exact absurd rfl x0|skip
   rename_i Z;obtain⟨j,r,p⟩:=vx;simp only[thawB];cases e:yG i j with
   |false=>exact h1
   |true=>
    simp only[cond_true];cases p with
    |here=>
     simp only[zsj];cases zeC Z t with
     |none=>exact zk _
     |some q=>exact zk _
    |_=>exact zk _
def frzB(Y:AS)(s:Nat):AS:=
 match zr Y.F s with
 |⟨.optr _,⟨i,_,_⟩⟩=>match zq Y.E i with
  |some (.box t x)=>{ F:=Frame.thawB i t x Y.F,E:=(i,none)::Y.E,nx:=Y.nx }
  |_=>Y
 |_=>Y
theorem Sim.frzB(h:Sim w0 X n Y U a w)(hX:X.Ok w0)(s:Nat):Sim w0 X n (frzB Y s) U a w:=by
 unfold Go.Proofs.YtdjjmoenpjlfeaaGreatDoor.frzB;split
 .split
  .rename_i he;exact h.freezeB hX he
  .exact h
 .exact h
theorem AWP.frzB(hX:X.Ok w0)(s:Nat){c:Code}(h:AWP P w0 X n c (Go.Proofs.YtdjjmoenpjlfeaaGreatDoor.frzB Y s) Q):AWP P w0 X n c Y Q:=
 λU a w hs=>h U a w (hs.frzB hX s)
def zu2(ops:Array Oper):Bool:=
 Region.noSelect ops&&Region.free .any ops #[false,false,false] 0&&(qG .any ops #[false,false,false]).contains 0&&
  Region.free .any ops #[true,false,false] 1&&(qG .any ops #[true,false,false]).contains 1&&(qG .any ops #[true,true,false]== [2])&&(qG .any ops #[true,true,true]== [])
theorem zd4{xt te:zy}{k s:Nat}(hu:P.underlying xt=some (.array k te))(hs:∀w,(Go.sizeOf te).run P w=.ok s w)(g off:Nat)(w:zj):
  (Instr.sliceAt xt (.pointer (some ⟨g,off,none⟩)) none none none).run P w=.ok (.slice (some ⟨g,off,none⟩) k k) w:=by
 unfold Instr.sliceAt;simp only[zJ,run_underlying hu,zD,hs,zI,qa,Instr.sliceBounds];split
 .simp
 .simp[Addr.add]
theorem zlu(hm:P.follows .mixedOrders=true)(hX:X.Ok w0)(hK:KnOk P X.G K){id:Nat}{o0 o1 o2:Oper}{sd ss d0 d1 d2:Nat}{xd xs sl:zy}{nd ns i:Nat}{x y:List UInt8}
  (h0:o0.op=.slice xd (.tmp sd) none none none) (x6:o0.dst=some d0) (xy:o0.guard=none)
  (h1:o1.op=.slice xs (.tmp ss) none none none) (xb:o1.dst=some d1) (y6:o1.guard=none)
  (h2:o2.op=.call ⟨.builtin .copy,#[.tmp d0,.tmp d1],#[sl,sl]⟩) (y8:o2.dst=some d2) (xv:o2.guard=none)
  (xu:tis K.T xd (.arr nd (.int .u8))=true) (y5:tis K.T xs (.arr ns (.int .u8))=true) (yc:tis K.T sl (.slice (.int .u8))=true)
  (y1:zr Y.F sd=⟨.optr (.arr nd (.int .u8)),⟨i,.arr nd (.int .u8),.here⟩⟩) (hi:zq Y.E i=some (.box (.arr nd (.int .u8)) x)) (y4:zr Y.F ss=⟨.vptr (.arr ns (.int .u8)),y⟩)
  (xj:ns<=nd) (xh:d0<n) (xa:d1<n) (y3:d2<n) (xr:d0≠d1) (xf:d0≠ss) (hB:zu2 #[o0,o1,o2]=true)
  (hq:Q .normal ⟨(d2,⟨.junk,()⟩)::(d1,⟨.junk,()⟩)::(d0,⟨.junk,()⟩)::Y.F,(i,some (.box (.arr nd (.int .u8)) ((y++List.drop ns x:List UInt8))))::Y.E,Y.nx⟩):AWP P w0 X n (.region id #[o0,o1,o2] true) Y Q:=by
 intro U a w h;have xo:=h.fr sd;rw[y1]at xo;have xp:=h.fr ss;rw[y4]at xp;obtain⟨g,cs,ty,xg,_,hg,hr⟩:=h.own i _ hi;obtain⟨g',hb,xc⟩:=xo;have hb:zai (U i)=some g':=hb;rw[xg]at hb;cases hb;have xc:a.tmps.getD sd undef=.pointer (some ⟨g,0,none⟩):=xc;obtain⟨g2,x0,ds,x9,yd,xq,x2,xt⟩:=xp;have x9:a.tmps.getD ss undef=.pointer (some ⟨g2,x0,none⟩):=x9;have x2:zp y=ns/\RepL (RepC w (OSet X Y.E U) (.int .u8)) y ds:=x2;have hr:zp x=nd/\RepL (RepC w (OSet X Y.E U) (.int .u8)) x cs:=hr;have xn:=zdm x2.2;have xx:=zdm hr.2;obtain⟨td,x8,_,xz⟩:=hK.t.is xu;obtain⟨ts,xi,_,y7⟩:=hK.t.is y5;obtain⟨te,yb,_,y0⟩:=hK.t.is yc;simp only[zu2,zh,beq_iff_eq]at hB;obtain⟨⟨⟨⟨⟨⟨q1,q2⟩,q3⟩,q4⟩,q5⟩,q6⟩,q7⟩:=hB;have x7:=h.sz
 let v0:zi:=.slice (some ⟨g,0,none⟩) nd nd
 let v1:zi:=.slice (some ⟨g2,x0,none⟩) ns ns
 have hw:∀(o:Oper)(b:Act),o.guard=none->zX o (yielded #[o0,o1,o2] b.tmps)=true:=λo b hg=>by simp[zX,hg]
 have xw:Go.Yields P #[o0,o1,o2] o0 v0 a:=.inl ⟨hw _ _ xy,λw=>by
  unfold execOp;simp only[h0];have:=zd4 (P:=P) x8 (λw=>xz.sizeOf) g 0 w;rw[<-xc]at this;exact za7 this⟩
 have y9:Go.Yields P #[o0,o1,o2] o1 v1 (a.put o0.dst v0):=.inl ⟨hw _ _ y6,λw=>by
  unfold execOp;simp only[h1];have:=zd4 (P:=P) xi (λw=>y7.sizeOf) g2 x0 w;have e:(a.put o0.dst v0).eval (.tmp ss)=.pointer (some ⟨g2,x0,none⟩):=by
   show(a.put o0.dst v0).tmps.getD ss undef=_;rw[x6,qq (by rw[x7];exact xh),if_neg xf,x9]
  rw[<-e]at this;exact za7 this⟩
 let Φ:Exit->Act->zj->Prop:=λe a' w'=>e=.normal/\∃U',Sim w0 X n ⟨(d2,⟨.junk,()⟩)::(d1,⟨.junk,()⟩)::(d0,⟨.junk,()⟩)::Y.F,(i,some (.box (.arr nd (.int .u8)) ((y++List.drop ns x:List UInt8))))::Y.E,Y.nx⟩ U' a' w'
 have ya:zaE (#[o0,o1,o2]:Array Oper).toList=true:=by simp[zaE,h0,h1,h2]
 suffices hany:wpAny P .any #[o0,o1,o2] Φ 3 #[false,false,false] a { w with drawn:=w.drawn+1 } from
  zT (wpIn_region_any hm (zbc (R:=Φ) zbw ya _ hany)) λe a w⟨he,U',h'⟩=>by subst he;exact⟨_,U',h',hq⟩
 refine wpAny_take (i:=0) (oi:=o0) (v:=v0) rfl q1 q2 q3 (λc a w h=>by cases h.1) xw ?_;refine wpAny_take (i:=1) (oi:=o1) (v:=v1) rfl q1 q4 q5 (λc a w h=>by cases h.1) y9 ?_;refine wpAny_all (rs:=[2]) q6 (by simp) λj hj=>?_;rw[zQ]at hj;subst hj;obtain⟨b,hb⟩:∃b,b=(a.put o0.dst v0).put o1.dst v1:=⟨_,rfl⟩;rw[<-hb];have xm:b.eval (.tmp d0)=v0:=by
  show b.tmps.getD d0 undef=_;rw[hb,x6,xb,qq (by rw[jm,x7];exact xa),if_neg (xI xr),qq (by rw[x7];exact xh),if_pos rfl]
 have xk:b.eval (.tmp d1)=v1:=by
  show b.tmps.getD d1 undef=_;rw[hb,x6,xb,qq (by rw[jm,x7];exact xa),if_pos rfl]
 have hlen:ds.length=Nat.min ns nd:=by rw[xn,qY,x2.1];exact(qm xj).symm
 have x3:cs.length=nd:=by rw[xx,qY,hr.1]
 have xe:=run_copy_row (P:=P) w.drew sl sl o2.type te g 0 nd nd ⟨g2,x0,none⟩ ns ns cs.toArray ty ds yb (by rw[y0.cellSize];rfl) hg hlen
  (λj v hv=>by rw[qe];exact xt j v hv) (by simp only[jS];rw[hlen,x3,xV];exact Nat.min_le_right _ _) (λv hv=>by rw[xn]at hv;obtain⟨u,_,rfl⟩:=jo.1 hv;simp[Value.oneCell'])
 have e2:(#[o0,o1,o2]:Array Oper)[2]? =some o2:=rfl
 let W:zj:=w.drew
 have x4:(execOp b.eval o2).run P W=.ok (.value (goInt ds.length)) (W.setRow g (cs.toArray.toList.take 0++(ds++cs.toArray.toList.drop (0+ds.length))).toArray):=by
  simp only[execOp,h2,resolve,builtin,xm,xk,v0,v1];simp[invoke,builtin,xm,xk,v0,v1,xe,gy,W]
 generalize hcells:(cs.toArray.toList.take 0++(ds++cs.toArray.toList.drop (0+ds.length)))=cells at x4;have x1:cells=ds++cs.drop (ns*1):=by rw[<-hcells,hlen,show Nat.min ns nd=ns from qm xj];simp
 have hW:Sim w0 X n Y U a W:=⟨h.sz,h.df,h.bel.then ((zY _ _).drew),λs=>xF (.of_below ((zY _ _).drew) λ_ _ h=>h) _ _ _ (h.fr s),λi o ho=>(h.own i o ho).keep (.of_below ((zY _ _).drew) λ_ _ h=>h) λ_ _=>rfl,h.new,h.inj,h.lt,h.fix,h.hb,h.hE⟩;have s0:=hW.put (zY _ _) (v:=⟨.junk,()⟩) (u:=v0) t_ (zk _) xh;have s1:=s0.put (zY _ _) (v:=⟨.junk,()⟩) (u:=v1) t_ (zk _) xa;have y2:=hg;have s2:=s1.write (i:=i) (w':=W.setRow g cells.toArray) (o':=.box (.arr nd (.int .u8)) ((y++List.drop ns x:List UInt8))) hi
  ⟨rfl,rfl,rfl,by simp[World.setRow],λk _ hk=>setRow_other W g k _ (λe=>hk (by rw[xg,e];rfl))⟩
  (λ_=>⟨g,cells,ty,xg,zk _,setRow_heap W g _ _ ty _ y2,by
    refine⟨?_,?_⟩
    .
     rw[zl,yY,x2.1,hr.1];omega
    .rw[x1];exact(RepL.append (x2.2.mono λ_ _ _ h=>h) ((hr.2.drop (λx c=>RepC.len _ x c) ns).mono λ_ _ _ h=>h))⟩) rfl
 have s3:=s2.put (zY _ _) (v:=⟨.junk,()⟩) (u:=goInt ds.length) t_ (zk _) y3;have x5:o2.wp P b W (wpAny P .any #[o0,o1,o2] Φ 0 (((#[false,false,false].setIfInBounds 0 true).setIfInBounds 1 true).setIfInBounds 2 true)) Φ:=by
  unfold jV;rw[x4];refine⟨q7,rfl,U,?_⟩;rw[hb,x6,xb,y8];exact s3
 simp only[Go.wpOp,e2,hw o2 b xv,if_true];exact .inl x5
end
section
open Go Go.RowKit Go.WideShapes Go.ChangeShapes
def Ty.good:Ty->Bool
 |.pair a b=>a.good&&b.good
 |.arr _ t=>t.good
 |.slice t=>t.good&&zO 0 t.size
 |.nils=>false
 |_=>true
theorem zoU{k:IntKind}{n:Int}(h:k.min<=n/\n<=k.max):encI k (decI k n)=n:=by
 simp only[IntKind.min,IntKind.max]at h;cases k<;>simp[IntKind.signed,IntKind.bits]at h<;>simp only[encI,decI]
 .simp;omega
 .simp;omega
 .simp;omega
 .simp;omega
section
variable {P:zA}{w:zj}{H:Type}{enc:zy×zi->H}{base:Nat}{sp:Nat->Bool}{held:Bool}
def NoO:Nat->Prop:=λ_=>False
theorem znN{α:Type}{R:α->List zi->Prop}{s:Nat}:∀(n:Nat)(cs:List zi),cs.length=n*s->(∀i,i<n->∃x,R x ((cs.drop (i*s)).take s))->∃xs:List α,xs.length=n/\RepL R xs cs
 |0,cs,hl,_=>⟨[],rfl,xC (by simpa using hl)⟩
 |n+1,cs,hl,h=>by
  obtain⟨x,hx⟩:=h 0 o_;obtain⟨xs,x0,hr⟩:=znN (R:=R) (s:=s) n (cs.drop s) (by rw[yY,hl,jE];omega) λi hi=>by
   obtain⟨y,hy⟩:=h (i+1) o_;refine⟨y,?_⟩;rw[List.drop_drop,show s+i*s=(i+1)*s by rw[jE];omega];exact hy
  refine⟨x::xs,by simp[x0],cs.take s,cs.drop s,by simp,?_,hr⟩
  simpa using hx
theorem zeO{g off n:Nat}{x0:Option Nat}{cs:List zi}(h:w.cells? base ⟨g,off,x0⟩ n=some cs):cs.length=n/\∀j,j<n->∃u,cs[j]? =some u/\w.cell? ((⟨g,off,x0⟩:Addr).add j)=some u:=by
 unfold World.cells? at h;split at h
 .refine⟨by simpa using Lib.mapM_length h,λj hj=>?_⟩;obtain⟨b,h1,h2⟩:=Lib.mapM_at h j j (by simp[hj]);exact⟨b,h1,h2⟩
 .cases h
theorem zhV{α:Type}{R:α->List zi->Prop}{s g:Nat}:∀(n off:Nat),(∀i,i<n->∃x c,zp c=s/\R x c/\∀j,j<s->∃u,c[j]? =some u/\w.cell? ⟨g,off+i*s+j,none⟩=some u)->∃(xs:List α)(vs:List zi),xs.length=n/\RepL R xs vs/\ju w g off vs
 |0,_,_=>⟨[],[],rfl,rfl,λj u hu=>by simp at hu⟩
 |n+1,off,h=>by
  obtain⟨x,c,hc,hx,x0⟩:=h 0 o_;obtain⟨xs,vs,h1,h2,h3⟩:=zhV (R:=R) (s:=s) (g:=g) n (off+s) λi hi=>by
   obtain⟨y,d,hd,hy,x3⟩:=h (i+1) o_;refine⟨y,d,hd,hy,λj hj=>?_⟩;obtain⟨u,x1,x2⟩:=x3 j hj;refine⟨u,x1,?_⟩;rw[show off+s+i*s+j=off+(i+1)*s+j by rw[jE];omega];exact x2
  refine⟨x::xs,c++vs,by simp[h1],⟨c,vs,rfl,hx,h2⟩,λj u hu=>?_⟩;rw[List.getElem?_append]at hu;split at hu
  .rename_i hj;obtain⟨u',x1,x2⟩:=x0 j o_;rw[x1]at hu;cases hu
   simpa using x2
  .rename_i hj;have:=h3 (j-c.length) u hu;rw[hc]at this hj;rwa[show off+s+(j-s)=off+j by omega]at this
theorem zdv{Z:Ty}{t:zy}(h:Lay P Z (.inl t)):P.cellsOf t=Z.size:=by
 obtain⟨i,z,h1,h2,_⟩:=h.info;unfold Program.cellsOf;rw[h1];exact h2
def ztL(P:zA)(w:zj)(x2:zy×zi->H)(base:Nat)(sp:Nat->Bool)(x1:Bool)(Z:Ty):Prop:=
 ∀(t:zy)(cs:List zi)(x0:Nat)(d:gB H×List wW),Lay P Z (.inl t)->uz x2 P w base sp x1 x0 t cs=some d->∃x:Z.T,RepC w NoO Z x cs
def zgr(P:zA)(w:zj)(x2:zy×zi->H)(base:Nat)(sp:Nat->Bool)(x1:Bool)(Z:Ty):Prop:=
 ∀(fs:List Field)(off x0:Nat)(cs:List zi)(ds:List (gB H×List wW)),Lay P Z (.inr (fs,off))->fs.mapM (λf=>uz x2 P w base sp x1 x0 f.type ((cs.drop f.offset).take (P.cellsOf f.type)))=some ds->
  ∃x:Z.T,RepC w NoO Z x ((cs.drop off).take Z.size)
theorem zeF{Z:Ty}{t:zy}{fs:Array Field}(hu:P.underlying t=some (.struct fs))(hl:Lay P Z (.inr (fs.toList,0)))(hc:P.cellsOf t=Z.size)(h:zgr P w enc base sp held Z){cs:List zi}{x0:Nat}{d:gB H×List wW}
  (hd:uz enc P w base sp held x0 t cs=some d):∃x:Z.T,RepC w NoO Z x cs:=by
 cases x0 with
 |zero=>simp[uz]at hd
 |succ x0=>
  simp only[uz,hu]at hd;split at hd
  .rename_i hlen;obtain⟨ds,hm,_⟩:=yC.1 hd;obtain⟨x,hx⟩:=h fs.toList 0 x0 cs ds hl hm;refine⟨x,?_⟩;rw[List.drop_zero,qS (by rw[hlen,hc];exact zu _)]at hx;exact hx
  .cases hd
theorem zpQ:∀Z:Ty,Z.good=true->ztL P w enc base sp held Z/\zgr P w enc base sp held Z:=by
 intro Z
 induction Z with
 |bool=>
  refine λ_=>⟨λt cs x0 d hl h=>?_,λfs off x0 cs ds hl=>hl.elim⟩;obtain⟨b,rfl,_⟩:=DataW.trod_bool hl.1 h;exact⟨b,rfl⟩
 |int k=>
  refine λ_=>⟨λt cs x0 d hl h=>?_,λfs off x0 cs ds hl=>hl.elim⟩;obtain⟨z,rfl,_,x8⟩:=DataW.trod_int hl.1 h;simp only[Lit.wf,zh,decide_eq_true_eq]at x8;exact⟨decI k z,show [Value.int k z]=[Value.int k (encI k (decI k z))] by rw[zoU x8]⟩
 |str=>
  refine λ_=>⟨λt cs x0 d hl h=>?_,λfs off x0 cs ds hl=>hl.elim⟩;obtain⟨s,rfl,_,hs⟩:=DataW.trod_string hl.1 h;obtain⟨⟨l⟩⟩:=s;exact⟨l,rfl,by simpa [ByteArray.size] using hs⟩
 |unit=>
  have hS:zgr P w enc base sp held .unit:=λfs off x0 cs ds hl h=>⟨(),by simp[RepC,Ty.size]⟩;refine λ_=>⟨λt cs x0 d hl h=>?_,hS⟩;obtain⟨fs,hu,hi,hn⟩:=hl;exact zeF hu (by rw[hn];rfl) (zdv (Z:=.unit) ⟨fs,hu,hi,hn⟩) hS h
 |pair a b iha ihb=>
  intro hg;simp only[Ty.good,zh]at hg;obtain⟨ia,_⟩:=iha hg.1;obtain⟨_,ib⟩:=ihb hg.2;have hS:zgr P w enc base sp held (.pair a b):=λfs off x0 cs ds hl h=>by
   obtain⟨f,r,hf,ho,la,lb⟩:=hl;subst hf;rw[List.mapM_cons]at h;obtain⟨y,hy,h⟩:=vy.1 h;obtain⟨ys,xg,h⟩:=vy.1 h;obtain⟨x1,x9⟩:=ia _ _ _ _ la hy;obtain⟨x2,xh⟩:=ib r _ x0 cs ys lb xg;have ho:f.offset=off:=ho;rw[zdv la,ho]at x9;refine⟨(x1,x2),_,_,?_,x9,xh⟩;show(cs.drop off).take (a.size+b.size)=(cs.drop off).take a.size++(cs.drop (off+a.size)).take b.size;rw[List.take_add,List.drop_drop]
  refine⟨λt cs x0 d hl h=>?_,hS⟩;obtain⟨fs,hu,hi,f,r,hf,ho,la,lb⟩:=hl;have xd:Lay P (.pair a b) (.inr (fs.toList,0)):=⟨f,r,hf,ho,la,by simpa using lb⟩;exact zeF hu xd (zdv (Z:=.pair a b) ⟨fs,hu,hi,f,r,hf,ho,la,lb⟩) hS h
 |arr n e ih=>
  intro hg;obtain⟨ie,_⟩:=ih hg;refine⟨λt cs x0 d hl h=>?_,λfs off x0 cs ds hl=>hl.elim⟩;obtain⟨te,hu,hi,le⟩:=hl;have xc:P.cellsOf t=n*e.size:=zdv (Z:=.arr n e) ⟨te,hu,hi,le⟩;cases x0 with
  |zero=>simp[uz]at h
  |succ x0=>
   simp only[uz,hu]at h;split at h
   .rename_i hlen;obtain⟨ds,hm,_⟩:=yC.1 h;obtain⟨xs,h1,h2⟩:=znN (R:=RepC w NoO e) (s:=e.size) n cs (by rw[hlen,xc]) λi hi=>by
     obtain⟨y,_,hy⟩:=Lib.mapM_at hm i i (by simp[hi]);rw[zdv le]at hy;exact ie _ _ _ _ le hy
    exact⟨xs,h1,h2⟩
   .cases h
 |slice e ih=>
  intro hg;simp only[Ty.good,zh,Nat.blt_eq]at hg;obtain⟨ie,_⟩:=ih hg.1;refine⟨λt cs x0 d hl h=>?_,λfs off x0 cs ds hl=>hl.elim⟩;obtain⟨te,hu,hi,le⟩:=hl;rcases DataW.trod_slice hu h with ⟨rfl,_⟩|⟨⟨g,off,x6⟩,len,cap,elems,rest,n,rfl,rfl,_,hb,hlc,hcm,hel,hix,_,_⟩
  .exact⟨[],.slice none 0 0,rfl,.inl ⟨rfl,none,0,rfl,by simp[maxLen]⟩⟩
  .by_cases hlen:len=0
   .subst hlen;exact⟨[],_,rfl,.inl ⟨rfl,_,cap,rfl,hcm⟩⟩
   .rw[zdv le]at hix;have x4:∀i,i<len->∃c,w.cells? base ((⟨g,off,x6⟩:Addr).add (i*e.size)) e.size=some c/\∃x:e.T,RepC w NoO e x c:=λi hi=>by
     have h1:=hix i hi;have h2:∃y,elems[i]? =some y:=⟨elems[i]'o_,by simp[hel,hi]⟩;obtain⟨y,hy⟩:=h2;rw[hy]at h1;obtain⟨c,x5,xa⟩:=vy.1 h1;exact⟨c,x5,ie _ _ _ _ le xa⟩
    have x7:x6=none:=by
     obtain⟨c,x5,_⟩:=x4 0 o_;cases x6 with
     |none=>rfl
     |some q=>
      exfalso;have e0:∀k,k=0->(⟨g,off,some q⟩:Addr).add k=⟨g,off,some q⟩:=λk hk=>by unfold Addr.add;rw[if_pos hk]
      rw[e0 _ (Nat.zero_mul _)]at x5;obtain⟨u,_,x3⟩:=(zeO x5).2 0 o_;rw[e0 _ rfl]at x3;unfold qd at x3;split at x3
      .simp at x3
      .cases x3
    subst x7;obtain⟨xs,vs,h1,h2,h3⟩:=zhV (w:=w) (R:=RepC w NoO e) (s:=e.size) (g:=g) len off λi hi=>by
     obtain⟨c,x5,x,hx⟩:=x4 i hi;rw[qe]at x5;obtain⟨xb,xf⟩:=zeO x5;refine⟨x,c,xb,hx,λj hj=>?_⟩;obtain⟨u,xe,x3⟩:=xf j hj;rw[qe]at x3;exact⟨u,xe,x3⟩
    have xi:g<w.heap.size:=by
     obtain⟨c,x5,_⟩:=x4 0 o_;rw[qe]at x5;obtain⟨u,_,x3⟩:=(zeO x5).2 0 o_;rw[qe]at x3;unfold qd at x3;cases hh:w.heap[g]? with
     |none=>simp[hh]at x3
     |some o=>exact(zv.1 hh).1
    refine⟨xs,_,rfl,.inr ⟨g,off,cap,vs,by rw[h1],λhx=>hlen (by rw[<-h1,hx];rfl),by omega,hcm,xi,λh=>h,h2,h3⟩⟩
 |nils=>exact λhg=>by cases hg
 |_=>exact λ_=>⟨λt cs fuel d hl h=>hl.elim,λfs off fuel cs ds hl=>hl.elim⟩
def zke(P:zA):List Ty->List zy->Prop
 | [],[]=>True
 |Z::r,t::s=>Lay P Z (.inl t)/\zke P r s
 |_,_=>False
theorem zjL{T:Tbl}{Q:List zy}(hT:TOk P T Q):∀(ts:List Ty)(x0:List zy),(ts.length==x0.length&&(ts.zip x0).all λp=>tis T p.2 p.1)=true->zke P ts x0
 | [],[],_=>trivial
 |Z::r,t::s,h=>by
  simp only[yT,List.zip_cons_cons,vl,zh,beq_iff_eq]at h;exact⟨hT.is h.2.1,zjL hT r s (by simp only[zh,beq_iff_eq];exact⟨by omega,h.2.2⟩)⟩
 | [],_::_,h=>by simp at h
 |_::_,[],h=>by simp at h
theorem zo6{v:zi}(hv:∀cs,v≠ .agg cs):v.cells.toList=[v]:=by
 cases v<;>first|rfl|exact absurd rfl (hv _)
theorem znk{Z:Ty}(hg:Z.good=true){t:zy}(hl:Lay P Z (.inl t)){v:zi}{d:gB H}{ps:List wW}(h:DataW.Trod enc P w base sp held t v d ps){r:Reach}{b2:Nat}(x0:wh P w r b2 t v):∃x:Z.T,RepD w NoO Z x v:=by
 obtain⟨x1,h⟩:=h;obtain⟨x,hx⟩:=(zpQ Z hg).1 t _ x1 _ hl h;refine⟨x,?_⟩;cases hagg:Z.isAgg with
 |true=>
  rw[jf hagg];have:∃cs,v=.agg cs:=by
   unfold wh at x0;cases Z with
   |unit=>obtain⟨fs,hu,_⟩:=hl;rw[hu]at x0;obtain⟨cs,e,_⟩:=x0;exact⟨cs,e⟩
   |pair a b=>obtain⟨fs,hu,_⟩:=hl;rw[hu]at x0;obtain⟨cs,e,_⟩:=x0;exact⟨cs,e⟩
   |arr k e=>obtain⟨te,hu,_⟩:=hl;rw[hu]at x0;obtain⟨cs,e,_⟩:=x0;exact⟨cs,e⟩
   |_=>cases hagg
  obtain⟨cs,rfl⟩:=this;exact⟨cs.toList,by simp,hx⟩
 |false=>
  rw[xE hagg];have hv:∀cs,v≠ .agg cs:=by
   rintro cs rfl;unfold wh at x0;cases Z with
   |bool=>rw[hl.1]at x0;simp[gC,Cell.ok,hl.1]at x0
   |int k=>rw[hl.1]at x0;simp[gC,Cell.ok,hl.1]at x0
   |str=>rw[hl.1]at x0;simp[gC,Cell.ok,hl.1]at x0
   |slice e=>obtain⟨te,hu,_⟩:=hl;rw[hu]at x0;simp[gC,Cell.ok,hu]at x0
   |unit=>cases hagg
   |pair a b=>cases hagg
   |arr k e=>cases hagg
   |nils=>cases hg
   |_=>exact hl.elim
  rw[zo6 hv]at hx;exact hx
theorem zgy:∀(ts:List Ty)(x0:List zy)(vs:List zi)(ds:List (gB H))(ps:List wW),(ts.all Ty.good)=true->zke P ts x0->gV enc P w base sp held x0 vs ds ps->
  ∀{r:Reach}{b2:Nat},(∀(j:Nat)t v,x0[j]? =some t->vs[j]? =some v->wh P w r b2 t v)->ds.length=ts.length/\∃xs:Args ts,RepA w NoO ts xs vs
 | [],[],[],[],_,_,_,_,_,_,_=>⟨rfl,(),rfl⟩
 |Z::ts,t::x0,v::vs,d::ds,ps,hg,hl,h,r,b2,hok=>by
  simp only[vl,zh]at hg;obtain⟨p,q,h1,h2,_⟩:=h;obtain⟨x,hx⟩:=znk hg.1 hl.1 h1 (hok 0 t v rfl rfl);obtain⟨e,xs,x1⟩:=zgy ts x0 vs ds q hg.2 hl.2 h2 (λj t' v' hj hv=>hok (j+1) t' v' (by simpa using hj) (by simpa using hv));exact⟨by simp[e],(x,xs),v,vs,rfl,zbG hx,x1⟩
 | [],[],[],_::_,_,_,_,h,_,_,_=>h.elim
 | [],[],_::_,_,_,_,_,h,_,_,_=>by cases ‹List (gB H)›<;>exact h.elim
 |_::_,_::_,[],ds,_,_,_,h,_,_,_=>by cases ds<;>exact h.elim
 |_::_,_::_,_::_,[],_,_,_,h,_,_,_=>h.elim
 | [],_::_,_,_,_,_,hl,_,_,_,_=>hl.elim
 |_::_,[],_,_,_,_,hl,_,_,_,_=>hl.elim
theorem zeW{W W':zj}(hl:laidOutB P=true)(hb:xW W.heap.size W W'):∀(x1:List zy)(vs:List zi)(ds:List (gB H))(ps:List wW),(x1.all λt=>P.readableRec t&&decide (t<P.types.size))=true->gV enc P W 0 (λ_=>true) true x1 vs ds ps->(∀x∈ps,x.block<W.heap.size)->
  ∀x0:Nat->Bool,(∀p∈ps,x0 p.block=true)->gV enc P W' 0 x0 true x1 vs ds ps
 | [],[],[],_,_,h,_,_,_=>h
 |t::x1,v::vs,d::ds,ps,ht,h,hlt,x0,hsp=>by
  obtain⟨p,q,h1,h2,rfl⟩:=h;simp only[vl,zh,decide_eq_true_eq]at ht;have hp:∀x∈p,x.block<W.heap.size:=λx hx=>hlt x (by simp[hx]);refine⟨p,q,?_,zeW hl hb x1 vs ds q ht.2 h2 (λx hx=>hlt x (by simp[hx])) x0 (λx hx=>hsp x (by simp[hx])),rfl⟩;exact WideElems.Trod_stays hl ht.1.1 ht.1.2 h1 (λx hx=>hb.same (hp x hx)) (λx hx=>hsp x (by simp[hx]))
 | [],_::_,_,_,_,h,_,_,_=>by cases ‹List (gB H)›<;>exact h.elim
 | [],[],_::_,_,_,h,_,_,_=>h.elim
 |_::_,[],ds,_,_,h,_,_,_=>by cases ds<;>exact h.elim
 |_::_,_::_,[],_,_,h,_,_,_=>h.elim
def lawCtr(ts:List Ty):Ctr:={ args:=ts,pre:=λ_=>[],res:=.bool,own:=none,out:=λ_=>true }
theorem law_of_ctr{G:zj->Prop}{k:yR}{fn:Func}{s:ChangeSpec}{ts:List Ty}(hc:CtrOk P G k (lawCtr ts))(x9:zke P ts fn.params.toList)(x3:(ts.all Ty.good)=true)(x1:s.vars=[])
  (x4:∀(ds:List (gB H)),ds.length=ts.length->s.fn H ds={ results:=[.lit (.bool true)],args:=ds }) (x5:laidOutB P=true) (x8:(fn.params.toList.all λt=>P.readableRec t&&decide (t<P.types.size))=true) {tb:zy} (x7:fn.resultTypes= #[tb]) (xe:P.underlying tb=some .bool)
  {W:zj}{args:Array zi}{ds gs:List (gB H)}{x0:List wW}{b2:Nat} (xa:∀(j:Nat)t v,fn.params[j]? =some t->args[j]? =some v->wh P W .any b2 t v)
  (hW:DataW.Whole enc P fn.params.toList s.vars false W args.toList ds gs x0) (hG:G W):
  Calls P k args W λe W'=>∃v,e=.returned v/\s.post enc P fn false true false false W args v W':=by
 have xb:∀p∈x0,p.block<W.heap.size:=λp hp=>hW.lt p hp;have xc:=hW;obtain⟨p,q,hA,hV,rfl,_,_⟩:=hW;rw[x1]at hV;have xf:gs=[]/\q=[]:=by
  cases gs with
  |nil=>exact⟨rfl,hV⟩
  |cons g r=>exact hV.elim
 obtain⟨rfl,rfl⟩:=xf;obtain⟨hlen,xs,xd⟩:=zgy ts fn.params.toList args.toList ds p x3 x9 hA (r:=.any) (b2:=b2) (λj t v hj hv=>xa j t v (by simpa using hj) (by simpa using hv));have x2:=hc.2 W NoO xs args.toList (λg hg=>hg.elim) xd trivial hG;rw[Array.toArray_toList]at x2;refine x2.mono ?_;rintro e W' ⟨v,rfl,hb,hr⟩;have hv:v=.bool true:=RepV.bool (hr (λ_=>undef));subst hv;have x6:s.fn H (ds++[])={ results:=[.lit (.bool true)],args:=ds }:=by rw[yE];exact x4 ds hlen
 refine⟨_,rfl,ds,[],_,[],p,[],xc,?_,?_,?_,?_,λh=>(by cases h)⟩
 .rw[x6,x7];exact⟨[],[],⟨1,by simp[uz,xe,jL,Value.resultList]⟩,rfl,rfl⟩
 .rw[x6];exact zeW x5 hb _ _ _ _ x8 hA (λx hx=>xb x (by simp[hx])) _ (λx hx=>by simpa using xb x (by simp[hx]))
 .rw[x1,x6];rfl
 .exact World.keptBut_mono (λx hx=>⟨hx,.inr (.inl (by simpa using hx))⟩) (hb.frame (· ∈p++[]))
end
end
section
variable {P:zA}{F:Fence}{n:Nat}{b:gD}{a:Act}{k:List Item}{cs:List gD}{w:zj}{Q:Exit->Act->zj->Prop}
theorem zch{c:Code}:step P (lone (b.atR a (.code (.scope c)::k)) cs w)=.next (lone (b.atR a (.code c:: .inScope c::k)) cs w):=
 step_lone_go (by simp[stepG,stepG.exec,fw])
theorem zin{c:Code}:step P (lone (b.atR a (.inScope c::k)) cs w)=.next (lone (b.atR a k) cs w):=
 step_lone_go (by simp[stepG,stepG.exec,fw])
theorem zmA{c:Code}(h:c.wpIn F n P (Exit.noGoto Q) a w):(Code.scope c).wpIn F n P Q a w:=by
 intro b k cs x5 hb hr;have h0:(lone (b.atR a (.code (.scope c)::k)) cs w).fenced P F:=fenced_calm hb hr rfl;obtain⟨e,x2,x1,hq,x0⟩:=h b (.inScope c::k) cs x5 hb hr;cases e with
 |normal=>exact⟨.normal,x2,x1,hq,.head h0 zch (fZ x0 (.one (fenced_calm hb hr rfl) zin))⟩
 |exit id'=>
  have hx:exitTo id' (.inScope c::k)=exitTo id' k:=by simp[exitTo]
  exact⟨.exit id',x2,x1,hq,λk' hk=>.head h0 zch (x0.1 k' (by rw[hx];exact hk)),
   λx4 hk=>let ⟨x3,h1,h2⟩:=x0.2 x4 (by rw[hx];exact hk);⟨x3,h1,.head h0 zch h2⟩⟩
 |goto l=>exact hq.elim
 |ret=>exact⟨_,x2,x1,hq,.of_steps (.one h0 zch) x0⟩
 |panic ch=>exact⟨_,x2,x1,hq,.of_steps (.one h0 zch) x0⟩
 |outgrown=>exact⟨_,x2,x1,hq,.of_steps (.one h0 zch) x0⟩
end
section
variable {P:zA}{w0:zj}{X:Ownr}{n:Nat}{Y:AS}{Q:Exit->AS->Prop}
def zsM(Q:Exit->AS->Prop):Exit->AS->Prop
 |.goto _,_=>False
 |e,Y=>Q e Y
theorem AWP.scope{c:Code}(h:AWP P w0 X n c Y (zsM Q)):AWP P w0 X n (.scope c) Y Q:=λU a w hs=>
 zmA (zT (h U a w hs) λe a w⟨Y',U',h1,h2⟩=>by
  cases e with
  |goto l=>exact h2.elim
  |_=>exact⟨Y',U',h1,h2⟩)
end
def hasN:List Nat->Nat->Bool
 | [],_=>false
 |a::l,i=>bif yG a i then true else hasN l i
theorem zax{l:List Nat}{i:Nat}:hasN l i=true↔i∈l:=by
 induction l with
 |nil=>simp[hasN]
 |cons a l ih=>
  rw[hasN,cond_eq_ite,zE];by_cases h:yG a i=true
  .rw[if_pos h];have:=xL h;simp[this]
  .rw[if_neg h,ih];have:i≠a:=λe=>h (by rw[e];exact Nat.beq_refl a);simp[this]
def zdU(done:List Nat):List Oper->Nat->List Nat
 | [],_=>[]
 |o::l,i=>bif (!hasN done i)&&(o.after.toList.all λe=>!qX .any e||hasN done e.on) then i::zdU done l (i+1) else zdU done l (i+1)
theorem zhX{done:List Nat}:∀{l:List Oper}{i j:Nat}{o:Oper},l[j]? =some o->hasN done (i+j)=false->(∀e∈o.after,qX .any e=true->hasN done e.on=true)->i+j∈zdU done l i
 | [],_,_,_,h,_,_=>by simp at h
 |o::l,i,0,o',h,hd,ha=>by
  cases h;have hd:hasN done i=false:=hd;have h2:(o.after.toList.all λe=>!qX .any e||hasN done e.on)=true:=yH.2 λe he=>by
   cases hb:qX .any e with
   |false=>rfl
   |true=>simp[ha e (uX.1 he) hb]
  simp only[zdU,hd,h2,Bool.not_false,Bool.and_self,cond_true,jT,zE,true_or]
 |o::l,i,j+1,o',h,hd,ha=>by
  have:=zhX (done:=done) (l:=l) (i:=i+1) (j:=j) (o:=o') (by simpa using h) (by rw[show i+1+j=i+(j+1) by omega];exact hd) ha;rw[show i+1+j=i+(j+1) by omega]at this;rw[zdU,cond_eq_ite];split
  .exact yO _ this
  .exact this
def AllN(p:Nat->Prop):List Nat->Prop
 | []=>True
 |i::l=>p i/\AllN p l
theorem AllN.nil{p:Nat->Prop}:AllN p []:=trivial
theorem AllN.cons{p:Nat->Prop}{i:Nat}{l:List Nat}(h:p i)(h':AllN p l):AllN p (i::l):=⟨h,h'⟩
theorem AllN.mem{p:Nat->Prop}{l:List Nat}(h:AllN p l){i:Nat}(hi:i∈l):p i:=by
 induction l with
 |nil=>cases hi
 |cons a l ih=>
  rcases zE.1 hi with rfl|hi
  .exact h.1
  .exact ih h.2 hi
section
variable {P:zA}{K:Kn}{w0:zj}{X:Ownr}{n:Nat}{Y:AS}{Q:Exit->AS->Prop}{ops:Array Oper}
theorem AllN.of_mem{p:Nat->Prop}{l:List Nat}(h:∀i,i∈l->p i):AllN p l:=by
 induction l with
 |nil=>trivial
 |cons a l ih=>exact⟨h a (by simp),ih λi hi=>h i (by simp[hi])⟩
end
section
variable {P:zA}{K:Kn}{w0:zj}{X:Ownr}{n:Nat}{Y:AS}{U:Nat->zi}{a:Act}{w:zj}{ops:Array Oper}{R:Exit->Act->zj->Prop}{Q:Exit->AS->Prop}
theorem zkt(w:zj){g k:Nat}(h:g≠k)(c d:Array zi):(w.setRow g c).setRow k d=(w.setRow k d).setRow g c:=by
 unfold World.setRow
 congr 1
 apply Array.ext_getElem?;intro i;simp only[Array.getElem?_modify];by_cases h1:k=i<;>by_cases h2:g=i<;>simp[h1,h2];omega
theorem zpT{Z:Ty}{t:zy}(ht:Lay P Z (.inl t))(hs:Z.size=1){g off:Nat}{u:zi}{cur:Array zi}{ty:zy}(hg:w.heap[g]? =some (.cells cur ty (0,0)))(hf:off+1<=cur.size)(hu:u.cells= #[u])(h1:u.oneCell'=true):
  (qO t (.pointer (some ⟨g,off,none⟩)) u).run P w=.ok () (w.setRow g (cur.toList.take off++[u]++cur.toList.drop (off+1)).toArray):=by
 have x0:=run_storeCells_at P g off ty [u] 0 cur w hg (by simpa using hf) (by simpa using h1);simp only[jT,qy]at x0;unfold qO qa storeVar;simp only[zJ,zI,zD,ht.sizeOf,hu,hs];rw[if_neg (by simp)];exact x0
theorem zo3{dT sT ty te:zy}{A B:Option Addr}{c d:Nat}{s:Nat}(hu:P.underlying dT=some (.slice te))(hs:(Go.sizeOf te).run P w=.ok s w):
  (uS #[dT,sT] ty #[.slice A 0 c,.slice B 0 d]).run P w=.ok (goInt 0) w:=by
 cases A<;>cases B<;>simp[uS,run_underlying hu,hs,Builtin.lenOf,Builtin.firstCells,storeCells,loadCells,loadCellsFrom]
theorem zcL{o:Oper}{l:List Oper}{u:zi}{w':zj}(hg:o.guard=none)(h:(execOp a.eval o).run P w=.ok (.value u) w')(hn:wpList P ops R l (a.put o.dst u) w'):wpList P ops R (o::l) a w:=by
 simp only[wpList,wpOp,zX,hg,if_true];exact .inl (zba h hn)
theorem zj5{ev:zK->zi}{o:Oper}{x y:zK}{ts:Array zy}(h5:o.op=.call ⟨.builtin .copy,#[x,y],ts⟩){u v r:zi}(hx:ev x=u)(hy:ev y=v){w w':zj}(x0:(uS ts o.type #[u,v]).run P w=.ok r w'):
  (execOp ev o).run P w=.ok (.value r) w':=by
 subst hx;subst hy;simp only[execOp,h5,resolve,builtin];simp[invoke,builtin,x0,gy]
theorem znn(c:List zi)(v:zi)(k m:Nat)(h:k<m)(hm:m<=c.length):(c.take k++[v]++c.drop (k+1)).take m=(c.take m).take k++[v]++(c.take m).drop (k+1):=by
 rw[qZ,qm o_,zB,zB,List.take_append,zP,qm o_,qZ,Nat.min_eq_right o_,List.drop_take]
 congr 1
 obtain⟨d,hd⟩:∃d,m-k=d+1:=⟨m-k-1,by omega⟩;rw[hd,uH,gP,uH,show m-(k+1)=d by omega]
theorem znG(hX:X.Ok w0)(hK:KnOk P X.G K){x0:AS}(x1:Sim w0 X n x0 U a w){i j k sv:Nat}{ts to_ tu:zy}{xs:List (List UInt8)}{ys zs:List UInt8}{uy:zi}
  (xp:tis K.T ts (.slice (.int .u8))=true) (xi:zr x0.F sv=⟨.obuf (.int .u8),j⟩)
  (hi:zq x0.E i=some (.buf to_ (.slice (.int .u8)) xs)) (hj:zq x0.E j=some (.buf tu (.int .u8) zs)) (x8:i≠j) (hk:k<xs.length) (hlen:zs.length=ys.length)
  (hy:RepV w (OSet X x0.E U) U (.slice (.int .u8)) ys uy):
  ∃w2 w3 gh cap,U i=.slice (some ⟨gh,0,none⟩) xs.length cap/\(qO ts (.pointer (some ⟨gh,k,none⟩)) (U j)).run P w=.ok () w2/\w2.cell? ⟨gh,k,none⟩=some (U j)/\
   (∀ty,(uS #[ts,ts] ty #[U j,uy]).run P w2=.ok (goInt ys.length) w3)/\
   Sim w0 X n ⟨vJ j (.int .u8) ys x0.F,(i,some (.buf to_ (.slice (.int .u8)) (xs.set k ys)))::(j,none)::(j,some (.buf tu (.int .u8) ys))::x0.E,x0.nx⟩ U a w3:=by
 obtain⟨cs,hL,xb,xt⟩:=x1.own i _ hi;rcases xb.2 with ⟨_,hz⟩|⟨gh,cap,cur,hβ,_,hg,hcap,hm,hcs,htake⟩
 .exact absurd hz o_
 obtain⟨y6,y5,x2,xn⟩:=x1.own j _ hj;obtain⟨te,xr,_,xo⟩:=hK.t.is xp;have xf:Lay P (.slice (.int .u8)) (.inl ts):=hK.t.is xp;have xg:zai (U i)=some gh:=by rw[hβ];rfl
 have xx:cur.size=cap:=by rw[hcs];exact vq _
 have hvs:∃A m c,U j=.slice A m c:=by
  rcases x2.2 with ⟨e,_⟩|⟨g,c,_,e,_⟩
  .exact⟨_,_,_,e⟩
  .exact⟨_,_,_,e⟩
 have xv:(U j).cells= #[U j]:=by obtain⟨A,m,c,e⟩:=hvs;rw[e];rfl
 have xy:(U j).oneCell'=true:=by obtain⟨A,m,c,e⟩:=hvs;rw[e];rfl
 let C:Array zi:=(cur.toList.take k++[U j]++cur.toList.drop (k+1)).toArray
 have xj:(qO ts (.pointer (some ⟨gh,k,none⟩)) (U j)).run P w=.ok () (w.setRow gh C):=zpT xf rfl hg o_ xv xy;have xe:(w.setRow gh C).heap[gh]? =some (.cells C to_ (0,0)):=setRow_heap w gh cur C _ _ hg;have y3:C[k]? =some (U j):=by
  show(cur.toList.take k++[U j]++cur.toList.drop (k+1)).toArray[k]? =_;rw[List.getElem?_toArray,zB,jr (by rw[zP];omega),zP,jz,qm o_,Nat.sub_self];rfl
 have xw:C.size=cap:=by
  show(cur.toList.take k++[U j]++cur.toList.drop (k+1)).toArray.size=_;simp only[jS,zl,zP,yY,jz,qy];omega
 have x4:(w.setRow gh C).cell? ⟨gh,k,none⟩=some (U j):=by
  unfold qd;rw[xe];simp only[Option.isSome_none,Bool.false_eq_true,if_false];exact y3
 have fin:∀wa,wa.heap[gh]? =w.heap[gh]? ->Sim w0 X n ⟨x0.F,(j,some (.buf tu (.int .u8) ys))::x0.E,x0.nx⟩ U a wa->
   Sim w0 X n ⟨vJ j (.int .u8) ys x0.F,(i,some (.buf to_ (.slice (.int .u8)) (xs.set k ys)))::(j,none)::(j,some (.buf tu (.int .u8) ys))::x0.E,x0.nx⟩ U a (wa.setRow gh C):=by
  intro wa xk hA;have hF:=hA.freeze hX (i:=j) (te:=tu) (t:=.int .u8) (xs:=ys) (by rw[zag,if_pos rfl]);have xq:zq ((j,none)::(j,some (.buf tu (.int .u8) ys))::x0.E) i=some (.buf to_ (.slice (.int .u8)) xs):=by
   rw[zag,if_neg (xI x8),zag,if_neg (xI x8)];exact hi
  have hv:RepV wa (OSet X ((j,none)::(j,some (.buf tu (.int .u8) ys))::x0.E) U) U (.slice (.int .u8)) ys (U j):=by
   have h1:=hF.fr sv;have e:zr (vJ j (.int .u8) ys x0.F) sv=⟨.slice (.int .u8),ys⟩:=by
    rw[Frame.get_thaw,xi];simp[qK]
   have h2:=x1.fr sv;rw[xi]at h2;have h2:a.tmps.getD sv undef=U j:=h2;rw[<-h2];revert h1;show RepV _ _ _ (zr (vJ j (.int .u8) ys x0.F) sv).t _ _->_;rw[e];exact id
  refine hF.write xq (by rw[xg];exact zbJ wa gh C) (λxa=>?_) rfl;obtain⟨xm,xu,x3,_⟩:=hF.own i _ xq;rcases x3.2 with ⟨_,hz⟩|⟨gh2,cap2,cur2,hβ2,_,hg3,hcap2,hm2,hcs2,htake2⟩
  .exact absurd hz o_
  rw[hβ]at hβ2;cases hβ2;rw[xk,hg]at hg3;cases hg3;have y1:RepC wa (OSet X ((j,none)::(j,some (.buf tu (.int .u8) ys))::x0.E) U) (.slice (.int .u8)) ys [U j]:=⟨_,rfl,kz hv⟩;have x9:=xu.set (s:=1) (i:=k) (λx c=>RepC.len (.slice (.int .u8)) x c) hk y1;refine⟨_,x9.mono λx _ c=>qU xa _ _ _,⟨?_,.inr ⟨gh,cap,C,by rw[qP];exact hβ,zk _,setRow_heap wa gh cur C _ _ (by rw[xk];exact hg),by rw[qP];exact hcap,hm,by rw[xw];exact(vq _).symm,?_⟩⟩,Nat.one_pos⟩
  .have h9:xm.length=xs.length*1:=x3.1;show _=(xs.set k ys).length*1;rw[qP];simp only[zl,zP,yY,qy];omega
  .have h9:List.take (xs.length*1) cur.toList=xm:=htake2;show C.toList.take ((xs.set k ys).length*1)=_;rw[qP,vq,vq, <-h9,vq];exact znn _ _ _ _ hk (by have:cur.toList.length=cur.size:=jz;omega)
 by_cases xd:ys=[]
 .subst xd;have y4:zs=[]:=xC hlen;subst y4;have eA:∃A c,U j=.slice A 0 c:=by
   rcases x2.2 with ⟨e,_⟩|⟨g,c,_,e,_⟩
   .exact⟨_,_,e⟩
   .exact⟨_,_,e⟩
  have eB:∃A c,uy=.slice A 0 c:=by
   rcases kz hy with ⟨_,A,c,e,_⟩|⟨_,_,_,_,_,hx,_⟩
   .exact⟨A,c,e⟩
   .exact absurd rfl hx
  obtain⟨A,c,eA⟩:=eA;obtain⟨B,d,eB⟩:=eB;refine⟨w.setRow gh C,w.setRow gh C,gh,cap,hβ,xj,x4,λty=>by rw[eA,eB];exact zo3 xr xo.sizeOf,fin w rfl ?_⟩;exact x1.write hj ⟨rfl,rfl,rfl,zu _,λ_ _ _=>rfl⟩ (λ_=>x1.own j _ hj) rfl
 .rcases x2.2 with ⟨_,hz⟩|⟨gz,capz,curz,hβz,_,hgz,hcapz,hmz,hcsz,htakez⟩
  .exact absurd (xC o_) xd
  have xc:zai (U j)=some gz:=by rw[hβz];rfl
  have x7:gz≠gh:=λe=>x1.inj i j _ _ hi hj x8 gh xg (by rw[xc,e]);rcases kz hy with ⟨e,_⟩|⟨g2,off2,c2,vs,euy,hx,hc2,hm2,hg2lt,hnO,hLy,hcells⟩
  .exact absurd e xd
  subst euy;have x5:=zdm hLy;have x6:vs.length=ys.length:=by rw[x5,qY]
  have xe:g2≠gh:=λe=>hnO (.inr ⟨i,_,hi,by rw[xg,e]⟩);have y0:g2≠gz:=λe=>hnO (.inr ⟨j,_,hj,by rw[xc,e]⟩);have y2:curz.size=capz:=by rw[hcsz];exact vq _
  have xh:=λty=>run_copy_row (P:=P) (w.setRow gh C) ts ts ty te gz 0 zs.length capz ⟨g2,off2,none⟩ ys.length c2 curz tu vs xr (by rw[xo.cellSize];rfl) (by rw[setRow_other w gh gz C x7];exact hgz)
   (by rw[x6,hlen];exact(Nat.min_self _).symm)
   (λq u hu=>by
     rw[qe];have:=hcells q u hu;unfold qd at *;rw[setRow_other w gh g2 C xe];exact this)
   (by rw[xV,x6, <-hlen,y2];exact hcapz) (λu hu=>by rw[x5]at hu;obtain⟨b,_,rfl⟩:=jo.1 hu;rfl)
  let D:Array zi:=(curz.toList.take 0++vs++curz.toList.drop (0+vs.length)).toArray
  have xz:D.size=capz:=by
   show(curz.toList.take 0++vs++curz.toList.drop (0+vs.length)).toArray.size=_;simp only[jS,zl,zP,yY,jz];omega
  refine⟨w.setRow gh C,(w.setRow gh C).setRow gz D,gh,cap,hβ,xj,x4,λty=>by
   have e:goInt ((ys.length:Nat):Int)=goInt ((vs.length:Nat):Int):=by rw[x6]
   rw[hβz,e];exact xh ty,?_⟩
  rw[zkt w (xI x7)];refine fin (w.setRow gz D) (setRow_other w gz gh D (xI x7)) (x1.write hj (by rw[xc];exact zbJ w gz D) (λxa=>?_) rfl);refine⟨vs,hLy.mono λx _ c=>qU xa _ _ _,⟨by show vs.length=ys.length*1;omega,.inr ⟨gz,capz,D,by rw[<-hlen];exact hβz,zk _,setRow_heap w gz curz D _ _ hgz,by rw[<-hlen];exact hcapz,hmz,by rw[xz];exact(vq _).symm,?_⟩⟩,Nat.one_pos⟩;show(curz.toList.take 0++vs++curz.toList.drop (0+vs.length)).take (ys.length*1)=vs;rw[List.take_zero,qn,vq, <-x6,List.take_left]
theorem zlt(hX:X.Ok w0)(hK:KnOk P X.G K){yt xo:Nat}{x9 xa:Array Oper}{o6 c0 c1 c2 c3 c4 c5:Oper}(q1:x9.toList.drop 6=[o6])(e2:xa.toList=[c0,c1,c2,c3,c4,c5])
  {p1:List Prop}{xc:AS} (hs:aSeq K n x9 (x9.toList.take 6) Y=some (p1,xc)) (hp:allP p1)
  {sp sv so si sb d0 d1 d2 d3 d4 d5 i j k:Nat}{kI:Int}{ts xt to_ tu:zy}{xs:List (List UInt8)}{ys zs:List UInt8}
  (h6:o6.op=.store ts (.tmp sp) (.tmp sv)) (yx:o6.dst=none) (yn:o6.guard=none)
  (h0:c0.op=.move (.tmp so)) (yl:c0.dst=some d0) (yb:c0.guard=none)
  (h1:c1.op=.move (.tmp si)) (yf:c1.dst=some d1) (z5:c1.guard=none)
  (h2:c2.op=.indexAddr xt (.tmp d0) (.tmp d1)) (z7:c2.dst=some d2) (y7:c2.guard=none)
  (h3:c3.op=.load ts (.tmp d2)) (y8:c3.dst=some d3) (yd:c3.guard=none)
  (h4:c4.op=.move (.tmp sb)) (z6:c4.dst=some d4) (y6:c4.guard=none)
  (h5:c5.op=.call ⟨.builtin .copy,#[.tmp d3,.tmp d4],#[ts,ts]⟩) (y9:c5.dst=some d5) (yw:c5.guard=none)
  (y0:tis K.T ts (.slice (.int .u8))=true) (y5:tis K.T xt (.slice (.slice (.int .u8)))=true)
  (yz:zr xc.F sp=⟨.optr (.slice (.int .u8)),⟨i,.slice (.slice (.int .u8)),.elm k⟩⟩) (xu:zr xc.F sv=⟨.obuf (.int .u8),j⟩)
  (ym:zr xc.F so=⟨.obuf (.slice (.int .u8)),i⟩) (yi:zr xc.F si=⟨.int .i64,kI⟩) (yg:zr xc.F sb=⟨.slice (.int .u8),ys⟩)
  (hi:zq xc.E i=some (.buf to_ (.slice (.int .u8)) xs)) (hj:zq xc.E j=some (.buf tu (.int .u8) zs)) (yp:i≠j)
  (yu:0<=kI) (yh:kI.toNat=k) (hk:k<xs.length) (hlen:zs.length=ys.length)
  (y2:d0<n) (xv:d1<n) (xx:d2<n) (y3:d3<n) (xy:d4<n) (yv:d5<n)
  (ye:d0≠si) (z4:d0≠d1) (ya:d0≠sb) (yk:d1≠sb) (yj:d2≠sb) (yq:d3≠sb) (y4:d3≠d4)
  (hq:Q .normal ⟨(d5,⟨.junk,()⟩)::(d4,⟨.junk,()⟩)::(d3,⟨.junk,()⟩)::(d2,⟨.junk,()⟩)::(d1,⟨.junk,()⟩)::(d0,⟨.junk,()⟩)::vJ j (.int .u8) ys xc.F,
    (i,some (.buf to_ (.slice (.int .u8)) (xs.set k ys)))::(j,none)::(j,some (.buf tu (.int .u8) ys))::xc.E,xc.nx⟩)
  (z9:zaE (x9.toList.take 6)=true:=by rfl) (yo:zaE [o6]=true:=by rfl) (xn:zaE xa.toList=true:=by rfl):
  AWP P w0 X n (.seq (.region yt x9 false) (.region xo xa false)) Y Q:=by
 intro U a w h;have e1:x9.toList=x9.toList.take 6++[o6]:=by rw[<-q1,qx]
 have xn:zaE [c0,c1,c2,c3,c4,c5]=true:=by rw[<-e2];exact xn
 refine wpIn_seq (zT (Q:=λe a w=>e=.normal/\(gx xo xa false).wpIn (zcP X.ρ) 0 P (λe a w=>∃Y' U',Sim w0 X n Y' U' a w/\Q e Y') a w) (wpIn_region_list ?_) λe a w⟨he,hm⟩=>by subst he;exact hm);rw[e1];refine zbr _ _ (zaB (ρ:=X.ρ) zbw _ z9 (zdg hK hX _ h hs hp λx8 a1 w1 s1=>⟨rfl,?_⟩));refine zaB (ρ:=X.ρ) zbw _ yo ?_;have hy:=s1.fr sb;rw[yg]at hy;obtain⟨w2,w3,gh,cap,y1,yr,xe,xb,hS⟩:=znG hX hK s1 y0 xu hi hj yp hk hlen hy;have xd:=s1.fr sp;rw[yz]at xd;obtain⟨g,hb,xd⟩:=xd;have hb:zai (x8 i)=some g:=hb;rw[y1]at hb;cases hb;have xd:a1.tmps.getD sp undef=.pointer (some ⟨gh,k*1,none⟩):=xd;rw[vq]at xd;have xg:=s1.fr sv;rw[xu]at xg;have xg:a1.tmps.getD sv undef=x8 j:=xg;have xm:=s1.fr so;rw[ym]at xm;have xm:a1.tmps.getD so undef=x8 i:=xm;have xf:=s1.fr si;rw[yi]at xf;have xf:a1.tmps.getD si undef=.int .i64 kI:=RepV.int xf;have xz:=s1.sz;have z8:(execOp a1.eval o6).run P w1=.ok .skip w2:=by
  unfold execOp;simp only[h6];show Sem.run P (do qO ts (a1.tmps.getD sp undef) (a1.tmps.getD sv undef);_) w1=_;rw[xd,xg];simp[yr]
 simp only[wpList,wpOp,zX,yn,if_true];refine .inl ?_;unfold jV;rw[z8];show True/\(gx xo xa false).wpIn (zcP X.ρ) 0 P (λe a w=>∃Y' U',Sim w0 X n Y' U' a w/\Q e Y') (a1.put o6.dst undef) w2;rw[yx];refine⟨t_,zT (Q:=λe a w=>e=.normal/\∃Y' U',Sim w0 X n Y' U' a w/\Q .normal Y') (wpIn_region_list ?_) λe a w⟨he,hm⟩=>by subst he;exact hm⟩;rw[e2];refine zaB (ρ:=X.ρ) zbw _ xn ?_;show wpList P xa _ _ a1 w2;obtain⟨te,za,_,yc⟩:=hK.t.is y5;have xq:Lay P (.slice (.int .u8)) (.inl ts):=hK.t.is y0;obtain⟨uy,xw⟩:∃u,a1.tmps.getD sb undef=u:=⟨_,rfl⟩;have xb:∀ty,(uS #[ts,ts] ty #[x8 j,uy]).run P w2=.ok (goInt ys.length) w3:=by rw[<-xw];exact xb
 obtain⟨b0,xh⟩:∃b,a1.put (some d0) (x8 i)=b:=⟨_,rfl⟩;obtain⟨b1,xk⟩:∃b,b0.put (some d1) (.int .i64 kI)=b:=⟨_,rfl⟩;obtain⟨b2,xj⟩:∃b,b1.put (some d2) (.pointer (some ⟨gh,k,none⟩))=b:=⟨_,rfl⟩;obtain⟨b3,xi⟩:∃b,b2.put (some d3) (x8 j)=b:=⟨_,rfl⟩;obtain⟨b4,xr⟩:∃b,b3.put (some d4) uy=b:=⟨_,rfl⟩;have z0:b0.tmps.size=n:=by rw[<-xh,jm];exact xz
 have z1:b1.tmps.size=n:=by rw[<-xk,jm];exact z0
 have z2:b2.tmps.size=n:=by rw[<-xj,jm];exact z1
 have z3:b3.tmps.size=n:=by rw[<-xi,jm];exact z2
 have g1:∀s,b0.tmps.getD s undef=if d0=s then x8 i else a1.tmps.getD s undef:=λs=>by rw[<-xh];exact qq (by rw[xz];exact y2)
 have g2:∀s,b1.tmps.getD s undef=if d1=s then .int .i64 kI else b0.tmps.getD s undef:=λs=>by rw[<-xk];exact qq (by rw[z0];exact xv)
 have g3:∀s,b2.tmps.getD s undef=if d2=s then .pointer (some ⟨gh,k,none⟩) else b1.tmps.getD s undef:=λs=>by rw[<-xj];exact qq (by rw[z1];exact xx)
 have g4:∀s,b3.tmps.getD s undef=if d3=s then x8 j else b2.tmps.getD s undef:=λs=>by rw[<-xi];exact qq (by rw[z2];exact y3)
 have g5:∀s,b4.tmps.getD s undef=if d4=s then uy else b3.tmps.getD s undef:=λs=>by rw[<-xr];exact qq (by rw[z3];exact xy)
 have q0:=hS.put (zY _ _) (v:=⟨.junk,()⟩) (u:=x8 i) t_ (zk _) y2;rw[xh]at q0;have q1:=q0.put (zY _ _) (v:=⟨.junk,()⟩) (u:=.int .i64 kI) t_ (zk _) xv;rw[xk]at q1;have q2:=q1.put (zY _ _) (v:=⟨.junk,()⟩) (u:=.pointer (some ⟨gh,k,none⟩)) t_ (zk _) xx;rw[xj]at q2;have q3:=q2.put (zY _ _) (v:=⟨.junk,()⟩) (u:=x8 j) t_ (zk _) y3;rw[xi]at q3;have q4:=q3.put (zY _ _) (v:=⟨.junk,()⟩) (u:=uy) t_ (zk _) xy;rw[xr]at q4;have q5:=q4.put (zY _ _) (v:=⟨.junk,()⟩) (u:=goInt ys.length) t_ (zk _) yv;have x1:b0.eval (.tmp si)=.int .i64 kI:=by show b0.tmps.getD si undef=_;rw[g1,if_neg ye,xf]
 have x2:b1.eval (.tmp d0)=x8 i:=by show b1.tmps.getD d0 undef=_;rw[g2,if_neg (xI z4),g1,if_pos rfl]
 have x3:b1.eval (.tmp d1)=.int .i64 kI:=by show b1.tmps.getD d1 undef=_;rw[g2,if_pos rfl]
 have x4:b2.eval (.tmp d2)=.pointer (some ⟨gh,k,none⟩):=by show b2.tmps.getD d2 undef=_;rw[g3,if_pos rfl]
 have x5:b3.eval (.tmp sb)=uy:=by show b3.tmps.getD sb undef=_;rw[g4,if_neg yq,g3,if_neg yj,g2,if_neg yk,g1,if_neg ya,xw]
 have x6:b4.eval (.tmp d3)=x8 j:=by show b4.tmps.getD d3 undef=_;rw[g5,if_neg (xI y4),g4,if_pos rfl]
 have x7:b4.eval (.tmp d4)=uy:=by show b4.tmps.getD d4 undef=_;rw[g5,if_pos rfl]
 have x0:a1.eval (.tmp so)=x8 i:=xm;have yy:(Instr.indexAt xt (x8 i) (.int .i64 kI)).run P w2=.ok (.pointer (some ⟨gh,k,none⟩)) w2:=by
  have:=zbL (P:=P) (w:=w2) (k:=.i64) (A:=⟨gh,0,none⟩) (n:=xs.length) (c:=cap) za yc.sizeOf yu (show kI<(xs.length:Nat) by omega);rw[qe,yh,xV,show k*(Ty.slice (.int .u8)).size=k from vq _]at this;rw[y1];exact this
 have xp:∀(ev:zK->zi)(o:Oper)(x:zK)(u:zi),o.op=.move x->ev x=u->(execOp ev o).run P w2=.ok (.value u) w2:=λev o x u h hx=>by
  unfold execOp;simp only[h];rw[hx];rfl
 refine zcL (u:=x8 i) (w':=w2) yb (xp _ _ _ _ h0 x0) ?_;rw[yl,xh];refine zcL (u:=.int .i64 kI) (w':=w2) z5 (xp _ _ _ _ h1 x1) ?_;rw[yf,xk];refine zcL (u:=.pointer (some ⟨gh,k,none⟩)) (w':=w2) y7 (by
  unfold execOp;simp only[h2];rw[x2,x3];exact za7 yy) ?_
 rw[z7,xj];refine zcL (u:=x8 j) (w':=w2) yd (by
  unfold execOp;simp only[h3];rw[x4];exact za7 (zop xq rfl xe)) ?_
 rw[y8,xi];refine zcL (u:=uy) (w':=w2) y6 (xp _ _ _ _ h4 x5) ?_;rw[z6,xr];refine zcL (u:=goInt ys.length) (w':=w3) yw (zj5 h5 x6 x7 (xb c5.type)) ?_;rw[y9];exact⟨rfl,_,x8,q5,hq⟩
end
section
variable {w0:zj}{X:Ownr}{n:Nat}{Y:AS}{U:Nat->zi}{a:Act}{w:zj}
theorem RepH.set{O:Nat->Prop}:∀{vs:List V}{cs:List zi}{k:Nat}{v v':V},RepH w O U vs cs->vs[k]? =some v->(∀u,RepV w O U v.t v.x u->RepV w O U v'.t v'.x u)->RepH w O U (vs.set k v') cs
 | [],_,_,_,_,_,h,_=>by simp at h
 |y::r,_,0,_,_,⟨u,s,e,h2,h3,h4⟩,h,hv=>by
  cases h;exact⟨u,s,e,h2,hv u h3,h4⟩
 |y::r,_,k+1,_,_,⟨u,s,e,h2,h3,h4⟩,h,hv=>⟨u,s,e,h2,h3,RepH.set h4 (by simpa using h) hv⟩
theorem Sim.viewOf(h:Sim w0 X n Y U a w)(hX:X.Ok w0){i:Nat}{te:zy}{t:Ty}{xs:List t.T}(hi:zq Y.E i=some (.buf te t xs)):RepD w (OSet X ((i,none)::Y.E) U) (.slice t) xs (U i):=
 (h.own i _ hi).view (λg _ hg=>by
   rcases hg with hg|⟨j,oj,h1,h2⟩
   .exact .inl hg
   .rw[zag]at h1;by_cases hs:i=j
    .rw[if_pos hs]at h1;cases h1
    .rw[if_neg hs]at h1;exact .inr ⟨j,oj,h1,h2⟩) λg hg x0=>by
   rcases x0 with x0|⟨j,oj,h1,h2⟩
   .have h3:=hX.1 g x0;rcases h.new i _ g hi hg with h4|h4
    .omega
    .exact h3.2 h4
   .rw[zag]at h1;by_cases hs:i=j
    .rw[if_pos hs]at h1;cases h1
    .rw[if_neg hs]at h1;exact h.inj i j _ _ hi h1 hs g hg h2
theorem Sim.leaf(h:Sim w0 X n Y U a w){i k:Nat}{ty:zy}{vs:List V}{v v':V}(hi:zq Y.E i=some (.hbox ty vs))(hk:vs[k]? =some v)(hv:∀u,RepV w (OSet X Y.E U) U v.t v.x u->RepV w (OSet X Y.E U) U v'.t v'.x u)(hb:v'.bound<=Y.nx):
  Sim w0 X n { Y with E:=(i,some (.hbox ty (vs.set k v')))::Y.E } U a w:=by
 refine h.write (w':=w) hi ⟨rfl,rfl,rfl,zu _,λ_ _ _=>rfl⟩ (λ_=>?_) rfl ?_
 .obtain⟨g,cs,e,h1,h2,h3⟩:=h.own i _ hi;exact⟨g,cs,e,h1,h2,h3.set hk hv⟩
 .intro ws e u hu;cases e;rcases List.mem_or_eq_of_mem_set hu with hu|rfl
  .exact h.hE i _ hi vs rfl u hu
  .exact hb
theorem Sim.growNil(h:Sim w0 X n Y U a w)(te:zy)(Z:Ty)(x4:0<Z.size):∃U',(∀i,i<Y.nx->U' i=U i)/\U' Y.nx=.slice none 0 0/\Sim w0 X n { Y with E:=(Y.nx,some (.buf te Z []))::Y.E,nx:=Y.nx+1 } U' a w:=by
 refine⟨λj=>if j=Y.nx then .slice none 0 0 else U j,λi hi=>by simp[Nat.ne_of_lt hi],by simp,?_⟩;have hO:=λg=>OSet.new (X:=X) (U:=U) (bv:=.slice none 0 0) (o:=.buf te Z []) h.lt g;have x0:jk w w (OSet X Y.E U) (OSet X ((Y.nx,some (.buf te Z []))::Y.E) (λj=>if j=Y.nx then .slice none 0 0 else U j)):=
  ⟨zu _,λ_ _ _=>rfl,λg _ x3=>by
    rcases (hO g).1 x3 with h1|h1
    .exact h1
    .cases h1⟩
 refine⟨h.sz,h.df,h.bel,λs=>RepV.update _ _ _ (h.hb s) (xF x0 _ _ _ (h.fr s)),λi oi hi=>?_,λi oi g hi=>?_,λi j oi oj hi hj x2 g=>?_,λi oi hi=>?_,⟨uC h.fix.1,λi hi=>?_⟩,λs=>uC (h.hb s),λi oi hi=>?_⟩
 .rw[show zq ((Y.nx,some (.buf te Z []))::Y.E) i=_ from zag ..]at hi;by_cases hs:Y.nx=i
  .subst hs;rw[if_pos rfl]at hi;cases hi;rw[if_pos rfl];exact⟨[],rfl,⟨by simp,.inl ⟨rfl,rfl⟩⟩,x4⟩
  .rw[if_neg hs]at hi;rw[if_neg (xI hs)];exact((h.own i oi hi).keep x0 λ_ _=>rfl).update (h.hE i oi hi)
 .rw[show zq ((Y.nx,some (.buf te Z []))::Y.E) i=_ from zag ..]at hi;by_cases hs:Y.nx=i
  .rw[if_pos hs.symm];intro hg;cases hg
  .rw[if_neg hs]at hi;rw[if_neg (xI hs)];exact h.new i oi g hi
 .rw[show zq ((Y.nx,some (.buf te Z []))::Y.E) i=_ from zag ..]at hi;rw[show zq ((Y.nx,some (.buf te Z []))::Y.E) j=_ from zag ..]at hj;show zai (if i=Y.nx then _ else U i)=some g->zai (if j=Y.nx then _ else U j)≠some g;by_cases h1:Y.nx=i
  .rw[if_pos h1.symm];intro hg;cases hg
  .rw[if_neg h1]at hi;rw[if_neg (xI h1)];by_cases h2:Y.nx=j
   .rw[if_pos h2.symm];intro _ hg;cases hg
   .rw[if_neg h2]at hj;rw[if_neg (xI h2)];exact h.inj i j oi oj hi hj x2 g
 .rw[show zq ((Y.nx,some (.buf te Z []))::Y.E) i=_ from zag ..]at hi;show i<Y.nx+1;by_cases hs:Y.nx=i
  .omega
  .rw[if_neg hs]at hi;have:=h.lt i oi hi;omega
 .obtain⟨h2,h3⟩:=h.fix.2 i hi;have x1:i≠Y.nx:=by have:=h.fix.1;omega
  refine⟨?_,λoi ho=>?_⟩
  .
   rw[if_neg x1];exact h2
  .rw[show zq ((Y.nx,some (.buf te Z []))::Y.E) i=_ from zag ..,if_neg (xI x1)]at ho;exact h3 oi ho
 .rw[show zq ((Y.nx,some (.buf te Z []))::Y.E) i=_ from zag ..]at hi;by_cases hs:Y.nx=i
  .rw[if_pos hs]at hi;cases hi;intro _ e;cases e
  .rw[if_neg hs]at hi;intro vs e v hv;exact uC (h.hE i oi hi vs e v hv)
def frzL(Y:AS)(i k:Nat):AS:=
 match zq Y.E i with
 |some (.hbox ty vs)=>match vs[k]? with
  |some ⟨.obuf _,j⟩=>match zq Y.E j with
   |some (.buf _ t xs)=>{ F:=vJ j t xs Y.F,E:=(i,some (.hbox ty (vs.set k ⟨.slice t,xs⟩)))::(j,none)::Y.E,nx:=Y.nx }
   |_=>Y
  |_=>Y
 |_=>Y
theorem Sim.frzL(h:Sim w0 X n Y U a w)(hX:X.Ok w0)(i k:Nat):Sim w0 X n (frzL Y i k) U a w:=by
 unfold Go.Proofs.YtdjjmoenpjlfeaaGreatDoor.frzL;split
 .rename_i ty vs hi;split
  .rename_i t0 j hk;split
   .rename_i te t xs hj;have h1:=h.freeze hX hj;have x2:j≠i:=λe=>by subst e;rw[hi]at hj;cases hj
    have x1:zq ((j,none)::Y.E) i=some (.hbox ty vs):=by rw[zag,if_neg x2];exact hi
    have x0:=h.viewOf hX hj;exact h1.leaf x1 hk (v':=⟨.slice t,xs⟩) (λu hu=>by
     rw[hu];exact zbG x0) (zk _)
   .exact h
  .exact h
 .exact h
end
section
variable {P:zA}{w0:zj}{X:Ownr}{n:Nat}{Y:AS}{Q:Exit->AS->Prop}
theorem AWP.frzL(hX:X.Ok w0)(i k:Nat){c:Code}(h:AWP P w0 X n c (Go.Proofs.YtdjjmoenpjlfeaaGreatDoor.frzL Y i k) Q):AWP P w0 X n c Y Q:=λU a w hs=>h U a w (hs.frzL hX i k)
theorem za9(i k:Nat)(te:zy)(Z:Ty){ty:zy}{vs:List V}{c:Code}(hi:zq Y.E i=some (.hbox ty vs))(hk:vs[k]? =some ⟨.lit,.slice none 0 0⟩)(x1:zO 0 Z.size=true)
  (h:AWP P w0 X n c { Y with E:=(i,some (.hbox ty (vs.set k ⟨.obuf Z,Y.nx⟩)))::(Y.nx,some (.buf te Z []))::Y.E,nx:=Y.nx+1 } Q):AWP P w0 X n c Y Q:=by
 intro U a w hs;obtain⟨U',h1,h2,h3⟩:=hs.growNil te Z (by simpa using x1);have x2:=hs.lt i _ hi;have x0:zq ((Y.nx,some (.buf te Z []))::Y.E) i=some (.hbox ty vs):=by rw[zag,if_neg o_];exact hi
 exact h U' a w (h3.leaf x0 hk (v':=⟨.obuf Z,Y.nx⟩) (λu hu=>by
  show u=U' Y.nx;rw[hu,h2]) (zu _))
end
section
variable {P:zA}{K:Kn}{w0:zj}{X:Ownr}{n:Nat}{Y:AS}{Q:Exit->AS->Prop}
theorem ztN(hX:X.Ok w0)(hK:KnOk P X.G K){id:Nat}{ops:Array Oper}(pre:List Oper)(o:Oper)(rest:List Oper)(x1:ops.toList=pre++o::rest)(x5:o.guard=none){r1:List Prop×AS}(hs:aSeq K n ops pre Y=some r1)(hp:allP r1.1)
  (x0:∀U a w,Sim w0 X n r1.2 U a w->o.wp P a w (λa' w'=>∃Y2 U' r2,Sim w0 X n Y2 U' a' w'/\aSeq K n ops rest Y2=some r2/\allP r2.1/\Q .normal r2.2) (λe a' w'=>e≠ .outgrown/\∃Y' U',Sim w0 X n Y' U' a' w'/\Q e Y'))
  (x6:zaE pre=true:=by rfl) (x4:zaE (o::rest)=true:=by rfl):AWP P w0 X n (.region id ops false) Y Q:=by
 intro U a w x3
 let R:Exit->Act->zj->Prop:=λe a' w'=>e≠ .outgrown/\∃Y' U',Sim w0 X n Y' U' a' w'/\Q e Y'
 have x8:¬ux R:=λ⟨_,_,h,_⟩=>h rfl;have h2:∀U a w,Sim w0 X n r1.2 U a w->wpList P ops R (o::rest) a w:=λU a w h=>by
  refine wpList_plain x5 λK' x7=>?_;refine wi (λa' w'⟨Y2,U',r2,h3,h4,h5,h6⟩=>x7 a' w' ?_) (x0 U a w h);exact zdg hK hX rest h3 h4 h5 λx2 x9 xa h7=>⟨(λh=>by cases h),r2.2,x2,h7,h6⟩
 refine zT (wpIn_region_list (Q:=R) ?_) λe a w h=>h.2;rw[x1];refine zbr _ _ (zaB zbw _ x6 (zdg hK hX pre x3 hs hp λU' a' w' h=>⟨rfl,?_⟩));exact zaB x8 _ x4 (h2 U' a' w' h)
theorem zoS{w:zj}{xt e:zy}(hu:P.underlying xt=some (.slice e))(A:Option Addr)(l c:Nat):∀d,0<d->(Op.equalIn d xt (.slice A l c) (.slice none 0 0)).run P w=.ok A.isNone w
 |0,h=>absurd h (Nat.lt_irrefl 0)
 |d+1,_=>by cases A<;>simp[Op.equalIn,run_underlying hu]
theorem znc{w:zj}{xt e:zy}(hu:P.underlying xt=some (.slice e))(A:Option Addr)(l c:Nat):(Go.binOp .eql xt (.slice A l c) (.slice none 0 0)).run P w=.ok (.bool A.isNone) w:=by
 simp only[Go.binOp,Op.equal,Op.maxDepth,zJ,zoS hu A l c 10000 d_,zD,zI]
theorem zkh(hX:X.Ok w0)(hK:KnOk P X.G K){id:Nat}{ops:Array Oper}(pre:List Oper)(o:Oper){xt yt e:zy}{x:zK}{d:Nat}{Z:Ty}{xs:List Z.T}(x0:ops.toList=pre++[o])
  (ho:o.op=.binOp .eql xt x (.const (.slice none 0 0)) yt) (x4:o.guard=none) (x1:o.dst=some d) (hd:zO d n=true) (hu:P.underlying xt=some (.slice e)) {r1:List Prop×AS} (hs:aSeq K n ops pre Y=some r1) (hp:allP r1.1)
  (hx:evO r1.2.F x=⟨.slice Z,xs⟩) (hq:∀b:Bool,(b=true->xs=[])->Q .normal ⟨(d,⟨.bool,b⟩)::r1.2.F,r1.2.E,r1.2.nx⟩) (x5:zaE pre=true:=by rfl) (x3:zaE [o]=true:=by rfl):AWP P w0 X n (.region id ops false) Y Q:=by
 refine ztN hX hK pre o [] x0 x4 hs hp (λU a w h=>?_) x5 x3;have x6:d<n:=by simpa using hd
 have hv:=h.ops x;rw[hx]at hv;have hv:RepD w (OSet X r1.2.E U) (.slice Z) xs (a.eval x):=hv;obtain⟨A,l,c,hA,hE⟩:∃A l c,a.eval x=.slice A l c/\(A=none->xs=[]):=by
  have h3:∃v,[a.eval x]=[v]/\RepS w (OSet X r1.2.E U) (RepC w (OSet X r1.2.E U) Z) xs v:=hv;obtain⟨v,e1,h3⟩:=h3;cases e1;rcases h3 with ⟨h3,A,c,h4,_⟩|⟨g,off,c,vs,h4,_⟩
  .exact⟨A,0,c,h4,λ_=>h3⟩
  .exact⟨_,_,c,h4,λh=>by cases h⟩
 have x2:(execOp a.eval o).run P w=.ok (.value (.bool A.isNone)) w:=by
  unfold execOp;simp only[ho];have he:a.eval (.const (.slice none 0 0))=.slice none 0 0:=rfl;rw[hA,he];exact za7 (zbn (λcs h=>by cases h) (λh=>by cases h) (znc hu A l c))
 refine zba x2 ?_;rw[x1];exact⟨_,U,([],_),h.put (zY _ _) (v:=⟨.bool,A.isNone⟩) qR (zk _) x6,rfl,t_,hq _ λhb=>hE (by simpa using hb)⟩
end
section
variable {P:zA}{K:Kn}{w0:zj}{X:Ownr}{n:Nat}{Y:AS}{Q:Exit->AS->Prop}{ops:Array Oper}
theorem zcG{F:Fence}{m:Nat}{R0 R:Exit->Act->zj->Prop}(r:List Oper)(x0:∀a w,¬R0 .outgrown a w)(hN:∀a w,R0 .normal a w->wpListIn F m P ops R r a w)(hE:∀e a w,e≠ .normal->R0 e a w->R e a w):∀(l:List Oper){a:Act}{w:zj},wpListIn F m P ops R0 l a w->wpListIn F m P ops R (l++r) a w
 | [],_,_,h=>hN _ _ h
 |o::l,a,w,h=>by
  simp only[vH,wpListIn]at h ⊢;split at h
  .rename_i hw;rw[if_pos hw];have h2:=gw (λa w h=>zcG r x0 hN hE l h) h;refine⟨h2.1,?_⟩;have h3:=h2.2;revert h3;generalize (o.semAt F.round a.eval).run P w=x;intro h3;cases x with
   |ok x w'=>
    cases x with
    |enter f args=>
     refine⟨h3.1,h3.2.mono λe x1 he=>?_⟩;cases e with
     |returned v=>exact he
     |panicked c=>exact hE _ _ _ (by intro h;cases h) he
     |outgrown=>obtain⟨_,_,h4⟩:=he;exact(x0 _ _ h4).elim
    |round l f tmps assign body=>
     refine⟨h3.1,h3.2.mono λe x1 he=>?_⟩;cases e with
     |returned v=>exact he
     |panicked c=>exact hE _ _ _ (by intro h;cases h) he
     |outgrown=>obtain⟨_,_,h4⟩:=he;exact(x0 _ _ h4).elim
    |_=>exact h3
   |halt x w'=>
    cases x with
    |panic v=>exact hE _ _ _ (by intro h;cases h) h3
    |_=>exact h3
  .rename_i hw;rw[if_neg hw];exact⟨h.1,zcG r x0 hN hE l h.2⟩
def AL(P:zA)(w0:zj)(X:Ownr)(n:Nat)(ops:Array Oper)(l:List Oper)(Y:AS)(Q:Exit->AS->Prop):Prop:=
 ∀U a w,Sim w0 X n Y U a w->wpListIn (zcP X.ρ) 0 P ops (λe a' w'=>e≠ .outgrown/\∃Y' U',Sim w0 X n Y' U' a' w'/\Q e Y') l a w
theorem AL.then{l r:List Oper}{R:Exit->Act->zj->Prop}{U:Nat->zi}{a:Act}{w:zj}(h:AL P w0 X n ops l Y Q)(hs:Sim w0 X n Y U a w)(hN:∀Y' U' a' w',Sim w0 X n Y' U' a' w'->Q .normal Y'->wpListIn (zcP X.ρ) 0 P ops R r a' w')(hE:∀e Y' U' a' w',e≠ .normal->Sim w0 X n Y' U' a' w'->Q e Y'->R e a' w'):wpListIn (zcP X.ρ) 0 P ops R (l++r) a w:=
 zcG r (λ_ _ h=>h.1 rfl) (λa' w'⟨_,Y',U',h1,h2⟩=>hN Y' U' a' w' h1 h2) (λe a' w' he⟨_,Y',U',h1,h2⟩=>hE e Y' U' a' w' he h1 h2) l (h U a w hs)
theorem AL.nil(h:Q .normal Y):AL P w0 X n ops [] Y Q:=λU a w hs=>⟨(λh=>by cases h),Y,U,hs,h⟩
theorem AL.seq(hX:X.Ok w0)(hK:KnOk P X.G K)(pre:List Oper){rest:List Oper}{r:List Prop×AS}(hs:aSeq K n ops pre Y=some r)(hp:allP r.1)(h:AL P w0 X n ops rest r.2 Q)(hd:zaE pre=true:=by rfl):AL P w0 X n ops (pre++rest) Y Q:=
 λU a w x0=>zbr _ _ (zaB zbw _ hd (zdg hK hX pre x0 hs hp λU' a' w' h'=>⟨rfl,h U' a' w' h'⟩))
theorem AL.all(hX:X.Ok w0)(hK:KnOk P X.G K){l:List Oper}{r:List Prop×AS}(hs:aSeq K n ops l Y=some r)(hp:allP r.1)(hq:Q .normal r.2)(hd:zaE l=true:=by rfl):AL P w0 X n ops l Y Q:=by
 have h:=AL.seq (rest:=[]) (Q:=Q) hX hK l hs hp (AL.nil hq) hd;rwa[yE]at h
theorem AL.take(k:Nat)(hX:X.Ok w0)(hK:KnOk P X.G K){l:List Oper}{r:List Prop×AS}(hs:aSeq K n ops (l.take k) Y=some r)(hp:allP r.1)(h:AL P w0 X n ops (l.drop k) r.2 Q)(hd:zaE (l.take k)=true:=by rfl):AL P w0 X n ops l Y Q:=by
 have h:=AL.seq (Q:=Q) hX hK (l.take k) hs hp h hd;rwa[qx]at h
theorem zaj{id:Nat}(h:AL P w0 X n ops ops.toList Y Q):AWP P w0 X n (.region id ops false) Y Q:=
 λU a w x0=>zT (wpIn_region_list (h U a w x0)) λe a w h=>h.2
theorem AL.hand{o:Oper}{rest:List Oper}(x1:o.guard=none)(x2:∀c,o.op≠ .defer c)
  (h:∀U a w,Sim w0 X n Y U a w->o.wp P a w (λa' w'=>∃Y' U',Sim w0 X n Y' U' a' w'/\AL P w0 X n ops rest Y' Q) (λe a' w'=>e≠ .outgrown/\∃Y' U',Sim w0 X n Y' U' a' w'/\Q e Y')):AL P w0 X n ops (o::rest) Y Q:=by
 intro U a w x0;refine wpListIn_plain x1 λK hK=>za2 x2 (wi (λa' w'⟨Y',U',h1,h2⟩=>hK a' w' (h2 U' a' w' h1)) (h U a w x0))
theorem AL.fit{l:List Oper}{Y':AS}(hf:Fit Y Y')(h:AL P w0 X n ops l Y' Q)(hk:X.K<=Y'.nx:=by exact zb rfl):AL P w0 X n ops l Y Q:=
 λU a w hs=>h U a w (hs.fit hf hk)
end
section
variable {P:zA}{w:zj}
def zjZ(kd:uY)(k:zi):List (zi×zi)->Option (Option zi)
 | []=>some none
 |e::r=>match Instr.sameNow kd k e.1 with
  |some true=>some (some e.2)
  |some false=>zjZ kd k r
  |none=>none
theorem zfm(kd:uY)(k:zi):∀(ms:List fy)(i:Nat),(Instr.findNow kd k ms i).map (λo=>o.map (·.2))=zjZ kd k (ms.map λe=>(e.key,e.val))
 | [],i=>rfl
 |e::r,i=>by
  simp only[Instr.findNow,qN,zjZ];cases Instr.sameNow kd k e.key with
  |none=>rfl
  |some b=>
   cases b with
   |true=>rfl
   |false=>exact zfm kd k r (i+1)
def zdH:uY->Bool
 |.int _=>true
 |.string=>true
 |_=>false
theorem zgD(b:Bool){t:zy}{kd:uY}(hk:P.underlying t=some kd)(hp:zdH kd=true)(v:zi)(m:Nat):(gE b (m+1) t v).run P w=.ok () w:=by
 cases kd<;>simp[zdH]at hp<;>simp[gE,run_underlying hk]
theorem zd7(b:Bool){t:zy}{kd:uY}(hk:P.underlying t=some kd)(hp:zdH kd=true)(v:zi):(gE b 10000 t v).run P w=.ok () w:=zgD b hk hp v 9999
theorem zfD{r ck:Nat}{ms:Array fy}(h:w.heap[r]? =some (.map ms ck)):(getObj r).run P w=.ok (.map ms ck) w:=by simp[getObj,Sem.run,h]
theorem zmK{r ck:Nat}{ms:Array fy}(o:Obj)(h:w.heap[r]? =some (.map ms ck)):(setObj r o).run P w=.ok () (w.putObj r o):=by simp[setObj,Sem.run,h,World.putObj]
theorem zhw{t kt et:zy}{kd:uY}(hu:P.underlying t=some (.map kt et))(hk:P.underlying kt=some kd)(hp:zdH kd=true){r ck:Nat}{ms:Array fy}(h:w.heap[r]? =some (.map ms ck)){key v:zi}
  (hf:zjZ kd key (ms.toList.map λe=>(e.key,e.val))=some (some v)):(Instr.lookup t (.map (some r)) key false).run P w=.ok v w:=by
 rw[<-zfm kd key ms.toList 0]at hf;obtain⟨o,ho,hf⟩:=yC.1 hf;obtain⟨⟨i,v'⟩,rfl,rfl⟩:=yC.1 hf;simp[Instr.lookup,Instr.findKey,run_underlying hu,run_underlying hk,zfD h,zd7 _ hk hp,ho]
theorem zhx{t kt et:zy}{kd:uY}(hu:P.underlying t=some (.map kt et))(hk:P.underlying kt=some kd)(hp:zdH kd=true){r ck:Nat}{ms:Array fy}(h:w.heap[r]? =some (.map ms ck)){key v:zi}
  (hf:zjZ kd key (ms.toList.map λe=>(e.key,e.val))=some none):(fT t (.map (some r)) key v).run P w=.ok () (w.putObj r (.map (ms.push { key:=key,val:=v,born:=ck }) (ck+1))):=by
 rw[<-zfm kd key ms.toList 0]at hf;obtain⟨o,ho,hf⟩:=yC.1 hf;cases o with
 |some x=>cases hf
 |none=>simp[fT,Instr.findKey,run_underlying hu,run_underlying hk,zfD h,zd7 _ hk hp,ho,zmK _ h]
end
section
variable {P:zA}{w0:zj}{X:Ownr}{n:Nat}{Y:AS}{Q:Exit->AS->Prop}{ops:Array Oper}
theorem zr2{a:Act}{w w':zj}{o:Oper}{N:Act->zj->Prop}{R:Exit->Act->zj->Prop}(h:(execOp a.eval o).run P w=.ok .skip w'\/∃u,(execOp a.eval o).run P w=.ok (.value u) w')(x1:o.dst=none)(hN:N a w'):o.wp P a w N R:=by
 have x0:∀u,a.put o.dst u=a:=λu=>by rw[x1];rfl
 unfold jV;rcases h with h|⟨u,h⟩
 .rw[h];show N (a.put o.dst undef) w';rw[x0];exact hN
 .rw[h];show N (a.put o.dst u) w';rw[x0];exact hN
theorem ziM{k:zK}{x:Int}(hk:evO Y.F k=⟨.int .i64,x⟩):∀U a w,Sim w0 X n Y U a w->a.eval k=.int .i64 x:=λU a w hs=>by
 have h1:=hs.ops k;rw[hk]at h1;exact RepV.int h1
end
section
variable {P:zA}{f:yR}{Q:Exit->Act->zj->Prop}{a:Act}{w:zj}
def zne(P:zA)(f:yR)(c:Code)(Q:Exit->Act->zj->Prop)(a:Act)(w:zj):Prop:=
 ∀(b:gD)(k:List Item)(cs:List gD),b.fn=f->b.roundOf=none->∃e a' w',Q e a' w'/\ArrivesIn (Machine.fenced P yU) P (lone (b.atR a (.code c::k)) cs w) b k cs e a' w'
theorem zeT{m:Nat}{c:Code}(h:c.wpIn yU m P Q a w):zne P f c Q a w:=λb k cs _ x0=>h b k cs x0 trivial (room_wide _)
theorem zeS{x y:Code}(h:zne P f x (Exit.then (zne P f y Q) Q) a w):zne P f (.seq x y) Q a w:=by
 intro b k cs hb x2;have h0:(lone (b.atR a (.code (.seq x y)::k)) cs w).fenced P yU:=fenced_wide P _;obtain⟨e,a1,w1,hq,x1⟩:=h b (.code y::k) cs hb x2;cases e with
 |normal=>
  obtain⟨e2,a2,w2,x3,x0⟩:=hq b k cs hb x2;exact⟨e2,a2,w2,x3,.of_steps (.head h0 stepR_seq x1) x0⟩
 |_=>exact⟨_,a1,w1,hq,.of_steps (.one h0 stepR_seq) (.pass (x:=.code y) rfl (λ_ _=>.inl (by simp)) x1)⟩
theorem zhE{fn:Func}{c:Code}{args:Array zi}{m:Nat}{R:gv->zj->Prop}(hf:P.funcs[f]? =some fn)(hb:fn.body=some c)
  (h:zne P f c (bodyPostM yU m P fn R) { tmps:=args++zG (fn.ntmps-args.size) undef,defers:=[] } w):CallsIn yU m P f args w R:=by
 refine⟨t_,λcs hr=>?_⟩
 let b:gD:={ (default:gD) with fn:=f,kind:=.normal,roundOf:=none }
 have henter:fV P f args .normal=b.atR { tmps:=args++zG (fn.ntmps-args.size) undef,defers:=[] } [.code c]:=by
  simp[fV,fw,hf,hb,b]
 obtain⟨e,a',w',hq,harr⟩:=h b [] cs rfl rfl;rw[<-henter]at harr;cases e with
 |normal=>
  obtain⟨e',w'',fr',hR,hs,hfn,hl⟩:=leaves_stepsInM a'.defers .returning w' { b.atR a' [] with mode:=.returning } cs rfl rfl rfl hf rfl t_ hr hq;exact⟨e',w'',fr',hR,wX (fZ harr (.one (fenced_wide P _) (stepR_end rfl))) hs,hfn,hl⟩
 |ret=>
  obtain⟨todo,hs0⟩:=harr.1 rfl;obtain⟨e',w'',fr',hR,hs,hfn,hl⟩:=leaves_stepsInM a'.defers .returning w' { b.atR a' todo with mode:=.returning } cs rfl rfl rfl hf rfl t_ hr hq;exact⟨e',w'',fr',hR,wX hs0 hs,hfn,hl⟩
 |panic chain=>
  obtain⟨todo,hs0⟩:=harr;obtain⟨e',w'',fr',hR,hs,hfn,hl⟩:=leaves_stepsInM a'.defers (.panicking chain) w' { b.atR a' todo with mode:=.panicking chain } cs rfl rfl rfl hf rfl t_ hr hq;exact⟨e',w'',fr',hR,wX hs0 hs,hfn,hl⟩
 |exit id=>exact hq.elim
 |goto l=>exact hq.elim
 |outgrown=>exact⟨.outgrown,w',b,hq,harr.resolve_left (by simp[b]),rfl,t_⟩
end
theorem Kept.mono{R R':Nat->Prop}{w w':zj}(h:Kept R w w')(hr:∀k,R k->R' k):Kept R' w w':=⟨h.os,h.tape,h.output,h.size,λk hk hn=>h.block k hk λhR=>hn (hr k hR)⟩
theorem Kept.trans{R:Nat->Prop}{a b c:zj}(h:Kept R a b)(k:Kept R b c):Kept R a c:=⟨k.os.trans h.os,k.tape.trans h.tape,k.output.trans h.output,zL h.size k.size,λi hi hr=>(k.block i (zF hi h.size) hr).trans (h.block i hi hr)⟩
theorem zcT{R:Nat->Prop}{W:zj}{l:Nat}(o':Obj)(hR:R l):Kept R W (W.putObj l o'):=
 have hg:=grownBy_putObj' W l o'
 ⟨hg.os,hg.tape,hg.output,hg.size,λk hk hn=>hg.block k hk λe=>by cases e;exact hn hR⟩
theorem zdJ{B:Nat}{R:Nat->Prop}{w w':zj}(h:xW B w w')(hR:∀k,B<=k->R k):Kept R w w':=⟨h.os,h.tape,h.output,h.size,λk _ hn=>h.block k (Nat.lt_of_not_le λhk=>hn (hR k hk))⟩
structure SameOn(I:Nat->Prop)(N:Nat)(w w':zj):Prop where
 os:w'.os=w.os
 tape:w'.tape=w.tape
 output:w'.output=w.output
 size:N<=w'.heap.size
 block:∀k,I k->w'.heap[k]? =w.heap[k]?
theorem Sim.outside{B A C:zj}{X:Ownr}{n:Nat}{Y:AS}{U:Nat->zi}{a:Act}{I:Nat->Prop}(h:Sim B X n Y U a A)(hX:X.Ok B)(hI:∀g,I g->X g)(hk:Kept I A C):
  ∃B':zj,B'.heap.size=B.heap.size/\Kept I B B'/\Sim B' X n Y U a C:=by
 classical
 have x3:∀g,I g->g<B.heap.size:=λg hg=>(hX.1 g (hI g hg)).1
 let B':zj:={ B with heap:=Array.ofFn (n:=B.heap.size) λi=>if I i then(C.heap[i.1]?).getD B.heap[i] else B.heap[i] }
 have x1:B'.heap.size=B.heap.size:=Array.size_ofFn;have hget:∀k,k<B.heap.size->B'.heap[k]? =some (if I k then(C.heap[k]?).getD (B.heap[k]?.getD default) else B.heap[k]?.getD default):=λk hk=>by
  simp[B',hk]
 have x4:∀k,k<B.heap.size->¬I k->B'.heap[k]? =B.heap[k]? :=λk hk hn=>by
  rw[hget k hk,if_neg hn];simp[hk]
 have x6:∀k,I k->B'.heap[k]? =C.heap[k]? :=λk hi=>by
  have x5:=x3 k hi;rw[hget k x5,if_pos hi];have:k<C.heap.size:=zF x5 (zL h.bel.size hk.size);simp[this]
 have x0:jk A C (OSet X Y.E U) (OSet X Y.E U):=⟨hk.size,λg hg hn=>hk.block g hg λhi=>hn (.inl (hI g hi)),λg _ hg=>hg⟩;refine⟨B',x1,⟨rfl,rfl,rfl,by rw[x1];exact zu _,x4⟩,?_⟩;refine⟨h.sz,h.df,⟨hk.os.trans h.bel.os,hk.tape.trans h.bel.tape,hk.output.trans h.bel.output,by rw[x1];exact zL h.bel.size hk.size,λk x2 hr=>?_⟩,λs=>xF x0 _ _ _ (h.fr s),λi o ho=>?_,λi o g ho hg=>by rw[x1];exact h.new i o g ho hg,h.inj,h.lt,h.fix,h.hb,h.hE⟩
 .rw[x1]at x2;by_cases hi:I k
  .exact(x6 k hi).symm
  .exact(hk.block k (zF x2 h.bel.size) hi).trans ((h.bel.block k x2 hr).trans (x4 k x2 hi).symm)
 .refine(h.own i o ho).keep x0 λg hg=>hk.block g ((h.own i o ho).block_lt hg).2 λhi=>?_;have hx:=hX.1 g (hI g hi);rcases h.new i o g ho hg with h1|h1
  .omega
  .exact hx.2 h1
section
variable {P:zA}{K:Kn}{w0:zj}{X:Ownr}{n:Nat}{Y:AS}{Q:Exit->AS->Prop}{ops:Array Oper}
def StepA(P:zA)(w0:zj)(X:Ownr)(n:Nat)(ops:Array Oper)(o:Oper)(Y:AS)(N:AS->Prop)(Q:Exit->AS->Prop):Prop:=
 ∀(U:Nat->zi)(a:Act)(w:zj)(I:Act->zj->Prop)(R:Exit->Act->zj->Prop),Sim w0 X n Y U a w->(∀Y' U' a' w',Sim w0 X n Y' U' a' w'->N Y'->I a' w')->(∀e Y' U' a' w',e≠ .outgrown->Sim w0 X n Y' U' a' w'->Q e Y'->R e a' w')->
  if zX o (yielded ops a.tmps) then o.wp P a w I R\/(o.asks P a w/\ux R) else I (a.put o.dst undef) w
theorem StepA.eval(hX:X.Ok w0)(hK:KnOk P X.G K){o:Oper}{r:List Prop×AS}{N:AS->Prop}(hs:zhH K n ops o Y=some r)(hp:allP r.1)(hN:N r.2):StepA P w0 X n ops o Y N Q:=
 λU a w I R x0 hI _=>zgq hK hX x0 hs hp λU' a' w' h=>hI _ U' a' w' h hN
theorem StepA.hand{o:Oper}{N:AS->Prop}(x2:o.guard=none)(h:∀U a w,Sim w0 X n Y U a w->o.wp P a w (λa' w'=>∃Y' U',Sim w0 X n Y' U' a' w'/\N Y') (λe a' w'=>e≠ .outgrown/\∃Y' U',Sim w0 X n Y' U' a' w'/\Q e Y')):StepA P w0 X n ops o Y N Q:=by
 intro U a w I R x1 hI hR;simp only[zX,x2,if_true];have h0:=h U a w x1;have x0:∀a' w',(∃Y' U',Sim w0 X n Y' U' a' w'/\N Y')->I a' w':=λa' w'⟨Y',U',h1,h2⟩=>hI Y' U' a' w' h1 h2;refine .inl (wi x0 ?_);unfold jV at h0 ⊢;revert h0;generalize (execOp a.eval o).run P w=x;intro h0;cases x with
 |ok x w'=>
  cases x with
  |enter f args=>
   refine Calls.mono h0 λe x3 he=>?_;cases e with
   |returned v=>exact he
   |panicked c=>obtain⟨h1,Y',U',h2,h3⟩:=he;exact hR _ Y' U' _ _ h1 h2 h3
   |outgrown=>obtain⟨_,_,h,_⟩:=he;exact(h rfl).elim
  |_=>first|exact h0|(obtain⟨_,_,h,_⟩:=h0.2;exact(h rfl).elim)|(obtain⟨_,_,h,_⟩:=h0;exact(h rfl).elim)
 |halt x w'=>
  cases x with
  |panic v=>obtain⟨h1,Y',U',h2,h3⟩:=h0;exact hR _ Y' U' _ _ h1 h2 h3
  |_=>exact h0
def OrdA(P:zA)(w0:zj)(X:Ownr)(n:Nat)(ops:Array Oper)(Q:Exit->AS->Prop):Nat->List Nat->AS->Prop
 |0,_,Y=>Q .normal Y
 |f+1,done,Y=>AllN (λi=>∃o,ops.toList[i]? =some o/\StepA P w0 X n ops o Y (OrdA P w0 X n ops Q f (i::done)) Q) (zdU done ops.toList 0)
theorem OrdA.step{f:Nat}{done:List Nat}(l:List Nat)(hl:zdU done ops.toList 0=l)(h:AllN (λi=>∃o,ops.toList[i]? =some o/\StepA P w0 X n ops o Y (OrdA P w0 X n ops Q f (i::done)) Q) l):OrdA P w0 X n ops Q (f+1) done Y:=by
 subst hl;exact h
theorem OrdA.last{done:List Nat}(h:Q .normal Y):OrdA P w0 X n ops Q 0 done Y:=h
theorem zgN{U:Nat->zi}{a:Act}{w:zj}(h:Sim w0 X n Y U a w)(hb:zeQ ops=true)(ho:OrdA P w0 X n ops Q ops.size [] Y):
  wpAny P .any ops (λe a' w'=>e≠ .outgrown/\∃Y' U',Sim w0 X n Y' U' a' w'/\Q e Y') ops.size (zG ops.size false) a { w with drawn:=w.drawn+1 }:=by
 let W:=w.drew
 have xe:Sim w0 X n Y U a W:=⟨h.sz,h.df,h.bel.then ((zY _ _).drew),λs=>xF (.of_below ((zY _ _).drew) λ_ _ h=>h) _ _ _ (h.fr s),λi o ho=>(h.own i o ho).keep (.of_below ((zY _ _).drew) λ_ _ h=>h) λ_ _=>rfl,h.new,h.inj,h.lt,h.fix,h.hb,h.hE⟩
 let I:Array Bool->Act->zj->Prop:=λx0 a' w'=>∃done s U',x0.size=ops.size/\(∀i,i<ops.size->(x0.getD i false=true↔i∈done))/\Sim w0 X n s U' a' w'/\OrdA P w0 X n ops Q (left x0 ops.size) done s
 have xg:left (zG ops.size false) ops.size=ops.size:=by
  unfold left;have:(xQ ops.size).filter (λi=>!(zG ops.size false).getD i false)=xQ ops.size:=by
   rw[gQ];intro i _;rw[getD_replicate_false];rfl
  rw[this,wL]
 suffices hkey:wpAny P .any ops (λe a' w'=>e≠ .outgrown/\∃Y' U',Sim w0 X n Y' U' a' w'/\Q e Y') (left (zG ops.size false) ops.size+0) (zG ops.size false) a W by
  rw[jT,xg]at hkey;exact hkey
 refine zhJ (zu _) hb (.inl rfl) I ?_ ?_ _ _ a W rfl ⟨by simp,λj oj _ xf=>(by rw[getD_replicate_false]at xf;cases xf),λt xk ht=>absurd ht o_⟩ ⟨[],Y,U,by simp,λi _=>by rw[getD_replicate_false];simp,xe,by rw[xg];exact ho⟩
 .rintro x0 a' w' ⟨done,s,U',x8,hd,hs,x5⟩ i x7 xj;obtain⟨xa,o,ho,x3⟩:=mem_ready.1 xj;have x1:=getD_both xa;have x2:=zl7 x7 (by rw[x8];exact x7) x1;rw[<-x2]at x5;have x4:0+i∈zdU done ops.toList 0:=zhX (o:=o) (by simpa using ho) (by
   rw[xV];cases hh:hasN done i with
   |false=>rfl
   |true=>rw[(hd i x7).2 (zax.1 hh)]at x1;cases x1) λe he xi=>by
    have h1:=x3 e he xi;by_cases x2:e.on<ops.size
    .exact zax.2 ((hd _ x2).1 h1)
    .rw[yA,Array.getElem?_eq_none o_]at h1;cases h1
  rw[xV]at x4;obtain⟨o',h1,h2⟩:=AllN.mem x5 x4;have:o'=o:=by
   rw[Array.getElem?_toList,ho]at h1;cases h1;rfl
  subst this;unfold wpOp;rw[ho];simp only;refine h2 U' a' w' _ _ hs (λY2 xb a2 w2 x9 h4=>⟨i::done,Y2,xb,by simp[x8],λj hj=>?_,x9,h4⟩) (λe Y2 xb a2 w2 xh x9 hq=>⟨xh,Y2,xb,x9,hq⟩);by_cases xd:i=j
  .subst xd;simp[vM,x8,x7]
  .rw[getD_set_ne false xd,hd j hj,zE];constructor
   .exact λh=>.inr h
   .rintro (h|h)
    .exact absurd h.symm xd
    .exact h
 .rintro x0 a' w' inv x6 ⟨done,s,U',x8,hd,hs,x5⟩;have hz:left x0 ops.size=0:=by
   unfold left;rw[List.length_eq_zero_iff,gi];intro i hi;rw[x6 i (qr.1 hi)];simp
  rw[hz]at x5;have xc:=x5;refine⟨?_,(λh=>by cases h),s,U',hs,xc⟩;apply jy.2;intro i hi;obtain⟨xa,o,ho,_⟩:=mem_ready.1 hi;have x2:=(zv.1 ho).1;have:=getD_both xa;rw[x6 i x2]at this;cases this
theorem zeR(hm:P.follows .mixedOrders=true){id:Nat}(f:Nat)(hf:ops.toList.length=f)(hb:zeQ ops=true)(ho:OrdA P w0 X n ops Q f [] Y)(hd:zaE ops.toList=true:=by rfl):AWP P w0 X n (.region id ops true) Y Q:=λ_ _ _ h=>by
 have x0:=hf;subst x0;exact zT (wpIn_region_any hm (zbc (R:=λe a' w'=>e≠ .outgrown/\∃Y' U',Sim w0 X n Y' U' a' w'/\Q e Y') (λ⟨_,_,h,_⟩=>h rfl) hd _ (zgN h hb ho))) λe a w h=>h.2
theorem zco{Y':AS}(hm:P.follows .mixedOrders=true){id:Nat}(f:Nat)(hf:ops.toList.length=f)(hb:zeQ ops=true)(ho:OrdA P w0 X n ops (λe s=>e=.normal/\Fit s Y') f [] Y)(hq:Q .normal Y')(hk:X.K<=Y'.nx:=by exact zb rfl)(hd:zaE ops.toList=true:=by rfl):AWP P w0 X n (.region id ops true) Y Q:=λU a w h=>
 zT (zeR hm f hf hb ho hd U a w h) λ_ _ _⟨_,U',hs,he,hf⟩=>⟨Y',U',hs.fit hf hk,he▸hq⟩
end
section
variable {w0 w:zj}{X X':Ownr}{n m:Nat}{Y:AS}{U:Nat->zi}{a a':Act}
theorem Sim.act(h:Sim w0 X n Y U a w)(hx:X'.X=X.X)(hk:X'.K=X.K)(hf:X'.fix=X.fix)(x3:a'.tmps.size=m)(x2:a'.defers=X'.D){F:yF}(x0:∀s,RepV w (OSet X Y.E U) U (zr F s).t (zr F s).x (a'.tmps.getD s undef))(hb:bndB Y.nx F=true)(x1:X'.B=X.B:=by rfl):Sim w0 X' m ⟨F,Y.E,Y.nx⟩ U a' w:=by
 have hR:X'.R=X.R:=by unfold Ownr.R;rw[hk,hf,x1]
 have hO:OSet X' Y.E U=OSet X Y.E U:=by unfold OSet;rw[hx]
 refine⟨x3,x2,by rw[hR];exact h.bel,by rw[hO];exact x0,by rw[hO];exact h.own,by rw[hR];exact h.new,h.inj,h.lt,by rw[hk,hf];exact h.fix,λs=>zda hb s,h.hE⟩
theorem Sim.grow{w':zj}(h:Sim w0 X n Y U a w)(hk:xW w.heap.size w w'):Sim w0 X n Y U a w':=
 ⟨h.sz,h.df,h.bel.then hk,λs=>xF (.of_below hk λ_ _ h=>h) _ _ _ (h.fr s),λi o ho=>(h.own i o ho).keep (.of_below hk λ_ _ h=>h) λg hg=>hk.block g ((h.own i o ho).block_lt hg).2,h.new,h.inj,h.lt,h.fix,h.hb,h.hE⟩
end
section
variable {P:zA}{K:Kn}{w0 w:zj}{X:Ownr}{n:Nat}{Y:AS}{U:Nat->zi}{a:Act}{Q:Exit->AS->Prop}{ops:Array Oper}
theorem zsT{Z:Ty}{t:zy}(h:Lay P Z (.inl t))(ha:Z.isAgg=true){g:Nat}{cs:List zi}(hl:cs.length=Z.size)(hc:ju w g 0 cs):(vh t ⟨g,0,none⟩).run P w=.ok (.agg cs.toArray) w:=by
 unfold vh;simp only[zJ,h.isAgg,zD];have h2:=run_loadCells_list (P:=P) w ⟨g,0,none⟩ cs (λj v hv=>by rw[qe];exact hc j v hv);rw[hl]at h2;simp only[ha,if_true,zJ,h.sizeOf,zD,h2,zI]
theorem zs7{T:Tbl}{L:List zy}(hT:TOk P T L){t:zy}{Z x0:Ty}(ht:tget T t=some (.pair (.slice Z) .unit)){O:Nat->Prop}{B i g:Nat}{bv:zi}{ty:zy}(h:yZ w O U B bv (.hbox ty [⟨.obuf x0,i⟩]))(hg:zai bv=some g):
  (vh t ⟨g,0,none⟩).run P w=.ok (.agg #[U i]) w:=by
 obtain⟨cs,h2,h3⟩:=h.hcells hg;obtain⟨u,s,rfl,_,hu,hs⟩:=h2;subst hs;subst hu;exact zsT (hT.lay _ _ ht) rfl rfl h3
end
def Ty.leafD:Ty->Bool
 |.pair a b=>a.leafD&&b.leafD
 |.vptr t=>t.data
 |.arr _ _=>false
 |t=>t.data
structure HCtr where
 self:Ty
 k:Nat
 ad:Option Nat:=none
 on:self.T->Bool:=λ_=>true
 te:zy
 et:Ty
 sl:self.T->List et.T
 args:List Ty
 inv:zj->(Nat->Prop)->zy->Prop
 pre:self.T->Args args->List Prop
 res:Ty
 out:self.T->Args args->Except zi (res.T×self.T)
def adV(i:Nat)(b:Bool):V:=bif b then ⟨.hptr,(i,(0:Nat))⟩ else ⟨.lit,.pointer none⟩
def HCtr.lv(c:HCtr)(i j:Nat)(x:c.self.T):List V:=match c.ad with
 |none=>(zaU c.self x).set c.k ⟨.obuf c.et,j⟩
 |some a=>((zaU c.self x).set c.k ⟨.obuf c.et,j⟩).set a (adV i (c.on x))
def HCtr.law(c:HCtr):Prop:=c.self.leafD=true/\(∀x,(zaU c.self x)[c.k]? =some ⟨.slice c.et,c.sl x⟩)/\∀a,c.ad=some a->a≠c.k/\∀x,(zaU c.self x)[a]? =some ⟨.bool,c.on x⟩
def adB(i:Nat):V->Option Bool
 |⟨.hptr,(i',0)⟩=>bif yG i' i then some true else none
 |⟨.lit,.pointer none⟩=>some false
 |_=>none
theorem zvz{i:Nat}{v:V}{b:Bool}(h:adB i v=some b):v=adV i b:=by
 unfold adB at h;split at h
 .rename_i i';simp only[cond_eq_ite,qE]at h;split at h
  .rename_i e;cases h;subst e;rfl
  .cases h
 .cases h;rfl
 .cases h
def HCtr.back(c:HCtr)(i:Nat)(vs:List V):List V:=match c.ad with
 |none=>vs
 |some a=>match vs[a]? with
  |some v=>match adB i v with
   |some b=>vs.set a ⟨.bool,b⟩
   |none=>[]
  |none=>[]
def zcI(O:Nat->Prop)(g:Nat)(b:zi)(h:Nat):Prop:=(O h\/h=g)\/zai b=some h
def zej(g:Nat)(b:zi)(i:Nat):zi:=if i=0 then .pointer (some ⟨g,0,none⟩) else b
theorem HCtr.back_cases(c:HCtr)(i:Nat)(vs:List V):c.back i vs=[]\/(c.ad=none/\c.back i vs=vs)\/∃a v b,c.ad=some a/\vs[a]? =some v/\adB i v=some b/\c.back i vs=vs.set a ⟨.bool,b⟩:=by
 unfold HCtr.back;split
 .rename_i h;exact .inr (.inl ⟨h,rfl⟩)
 .rename_i a ha;split
  .rename_i v hv;split
   .rename_i b hb;exact .inr (.inr ⟨a,v,b,ha,hv,hb,rfl⟩)
   .exact .inl rfl
  .exact .inl rfl
def HEnd(c:HCtr)(ty:zy)(w w':zj)(O:Nat->Prop)(g:Nat)(b:zi)(e:gv):Except zi (c.res.T×c.self.T)->Prop
 |.ok (y,x')=>∃v cs' b',e=.returned v/\w'.heap[g]? =some (.cells (List.toArray cs') ty (0,0))/\RepH w' (zcI O g b') (zej g b') (c.lv 0 1 x') cs'/\yZ w' (zcI O g b') (zej g b') 0 b' (.buf c.te c.et (c.sl x'))/\
  zai b'≠some g/\(∀h,zai b'=some h->zai b=some h\/w.heap.size<=h)/\(c.res=.unit\/zcd w' (zcI O g b') w.heap.size none c.res y v)
 |.error pv=>e=.panicked [{ v:=pv,recovered:=false }]
def zcZ(P:zA)(G:zj->Prop)(f:yR)(c:HCtr):Prop:=
 (∀(zas:Array zi)(w:zj),(callFunc f zas).run P w=.ok (.enter f zas) w)/\c.law/\
 ∀(w:zj)(O:Nat->Prop)(g:Nat)(cs:List zi)(ty:zy)(x:c.self.T)(xs:Args c.args)(vs:List zi)(b:zi),(∀h,O h->h<w.heap.size/\h≠g/\zai b≠some h)->zai b≠some g->w.heap[g]? =some (.cells cs.toArray ty (0,0))->
  RepH w (zcI O g b) (zej g b) (c.lv 0 1 x) cs->yZ w (zcI O g b) (zej g b) 0 b (.buf c.te c.et (c.sl x))->RepA w (zcI O g b) c.args xs vs->allP (c.pre x xs)->c.inv w (λh=>h=g\/zai b=some h) ty->G w->
  Calls P f (zz (some ⟨g,0,none⟩)::vs).toArray w λe w'=>Kept (λh=>h=g\/zai b=some h) w w'/\HEnd c ty w w' O g b e (c.out x xs)
def unH(c:HCtr)(i:Nat)(vs:List V)(E:Owns)(x:c.self.T):Prop:=∃et j xs,vs[c.k]? =some ⟨.obuf et,j⟩/\zq E j=some (.buf c.te c.et xs)/\unD c.self ((c.back i vs).set c.k ⟨.slice c.et,xs⟩)=some (x,[])
def zvA(T:Tbl)(rs:List vX)(c:HCtr)(ty:zy)(e:Exit)(Y:AS):Except zi (c.res.T×c.self.T)->Prop
 |.ok (y,x')=>(e=.normal\/e=.ret)/\(∃vs,zq Y.E 0=some (.hbox ty vs)/\unH c 0 vs Y.E x')/\Done T rs ⟨Y.F,zgh [] Y.E,Y.nx⟩ none c.res y
 |.error pv=>e=.panic [{ v:=pv,recovered:=false }]
theorem zkM:∀(t:Ty)(x:t.T),t.leafD=true->∀v∈zaU t x,v.bound=0:=by
 intro t
 induction t with
 |pair a b iha ihb=>
  intro x h v hv;have h:(a.leafD&&b.leafD)=true:=h;rw[zh]at h;rcases List.mem_append.1 (show v∈zaU a x.1++zaU b x.2 from hv) with hv|hv
  .exact iha _ h.1 v hv
  .exact ihb _ h.2 v hv
 |unit=>intro x h v hv;cases hv
 |arr n t _=>intro x h;cases h
 |bool=>intro x _ v hv;rw[zQ.1 hv];rfl
 |int k=>intro x _ v hv;rw[zQ.1 hv];rfl
 |str=>intro x _ v hv;rw[zQ.1 hv];rfl
 |slice t _=>intro x _ v hv;rw[zQ.1 hv];rfl
 |vptr t _=>intro x _ v hv;rw[zQ.1 hv];rfl
 |nils=>intro x _ v hv;rw[zQ.1 hv];rfl
 |_=>intro x h;cases h
def Ty.plainL:Ty->Bool
 |.vptr t=>t.data
 |t=>t.data
theorem zg1:∀(t:Ty)(x:t.T),t.leafD=true->∀v∈zaU t x,v.t.plainL=true:=by
 intro t
 induction t with
 |pair a b iha ihb=>
  intro x h v hv;have h:(a.leafD&&b.leafD)=true:=h;rw[zh]at h;rcases List.mem_append.1 (show v∈zaU a x.1++zaU b x.2 from hv) with hv|hv
  .exact iha _ h.1 v hv
  .exact ihb _ h.2 v hv
 |unit=>intro x h v hv;cases hv
 |arr n t _=>intro x h;cases h
 |bool=>intro x h v hv;rw[zQ.1 hv];exact h
 |int k=>intro x h v hv;rw[zQ.1 hv];exact h
 |str=>intro x h v hv;rw[zQ.1 hv];exact h
 |slice t _=>intro x h v hv;rw[zQ.1 hv];exact h
 |vptr t _=>intro x h v hv;rw[zQ.1 hv];exact h
 |nils=>intro x h v hv;rw[zQ.1 hv];exact h
 |_=>intro x h;cases h
theorem RepV.plainL{w w':zj}{O O':Nat->Prop}{U U':Nat->zi}(hk:jk w w' O O'):∀{t:Ty}{x:t.T}{u:zi},t.plainL=true->RepV w O U t x u->RepV w' O' U' t x u:=by
 intro t x u ht h;cases t with
 |vptr t=>exact xF (U:=U) hk (.vptr t) x u h
 |_=>first|(cases ht;done)|(exact(za5 ht).2 (RepD.keep hk ((za5 ht).1 h)))
theorem RepH.conv{w w':zj}{O O':Nat->Prop}{U U':Nat->zi}:∀{vs x0:List V}{cs:List zi},vs.length=x0.length->(∀(i:Nat)(v v':V),vs[i]? =some v->x0[i]? =some v'->∀u,RepV w O U v.t v.x u->RepV w' O' U' v'.t v'.x u)->RepH w O U vs cs->RepH w' O' U' x0 cs
 | [],[],_,_,_,h=>h
 | [],_::_,_,hl,_,_=>by cases hl
 |_::_,[],_,hl,_,_=>by cases hl
 |v::r,v'::r',_,hl,hc,⟨u,s,h1,h2,h3,h4⟩=>⟨u,s,h1,h2,hc 0 v v' rfl rfl u h3,RepH.conv (Nat.succ.inj hl) (λi v v' h h'=>hc (i+1) v v' h h') h4⟩
theorem zsg:∀(t:Ty)(l r:List V)(x:t.T),t.leafD=true->unD t l=some (x,r)->∃l1,l=l1++r/\l1.length=(zaU t x).length/\∀(i:Nat)(v v':V),l1[i]? =some v->(zaU t x)[i]? =some v'->coe v'.t v=some v'.x:=by
 intro t
 induction t with
 |pair a b iha ihb=>
  intro l r x ht h;have ht:(a.leafD&&b.leafD)=true:=ht;rw[zh]at ht;simp only[unD]at h;split at h<;>first|(cases h;done)|skip
  rename_i y r1 h1;split at h<;>first|(cases h;done)|skip
  rename_i z r2 h2;cases h;obtain⟨l1,e1,n1,c1⟩:=iha _ _ _ ht.1 h1;obtain⟨l2,e2,n2,c2⟩:=ihb _ _ _ ht.2 h2;refine⟨l1++l2,by rw[e1,e2,zB],by show(l1++l2).length=(zaU a y++zaU b z).length;rw[zl,zl,n1,n2],λi v v' hv x0=>?_⟩;have x0:(zaU a y++zaU b z)[i]? =some v':=x0;by_cases hi:i<l1.length
  .rw[j8 hi]at hv;rw[j8 o_]at x0;exact c1 i v v' hv x0
  .rw[jr o_]at hv;rw[jr o_]at x0;rw[n1]at hv;exact c2 _ v v' hv x0
 |unit=>intro l r x _ h;cases h;exact⟨[],rfl,rfl,λi v v' hv=>by simp at hv⟩
 |arr n t _=>intro l r x ht;cases ht
 |_=>
  intro l r x ht h
  first
   |(cases ht;done)
   |(cases l with
     |nil=>cases h
     |cons v l=>
      simp only[unD]at h;split at h<;>first|(cases h;done)|skip
      rename_i y hy;cases h;refine⟨[v],rfl,rfl,λi a b ha hb=>?_⟩;cases i with
      |zero=>
       cases ha;cases hb;exact hy
      |succ i=>simp at ha)
theorem zii{c:HCtr}(hc:c.law){i0:Nat}{vs:List V}{E:Owns}{x:c.self.T}(h:unH c i0 vs E x):∃et j,vs[c.k]? =some ⟨.obuf et,j⟩/\zq E j=some (.buf c.te c.et (c.sl x))/\vs.length=(zaU c.self x).length/\
  (∀(i:Nat)(v v':V),i≠c.k->c.ad≠some i->vs[i]? =some v->(zaU c.self x)[i]? =some v'->coe v'.t v=some v'.x/\v'.t.plainL=true)/\∀a,c.ad=some a->vs[a]? =some (adV i0 (c.on x)):=by
 obtain⟨et,j,xs,h1,h2,h3⟩:=h;obtain⟨x1,x2,x3⟩:=hc;obtain⟨l1,e1,n1,c1⟩:=zsg _ _ _ _ x1 h3;rw[yE]at e1;have hk:=(xB.1 h1).1;have x8:=(xB.1 (x2 x)).1;have hb:(c.ad=none/\c.back i0 vs=vs)\/∃a v b,c.ad=some a/\vs[a]? =some v/\adB i0 v=some b/\c.back i0 vs=vs.set a ⟨.bool,b⟩:=by
  rcases c.back_cases i0 vs with h0|h0
  .rw[h0,List.set_nil]at e1;rw[<-e1]at n1;simp only[jX]at n1;omega
  .exact h0
 have hlen:(c.back i0 vs).length=vs.length:=by
  rcases hb with ⟨_,e⟩|⟨a,v,b,_,_,_,e⟩<;>rw[e];rw[qP]
 have hget:=c1;rw[<-e1]at n1 hget;rw[qP,hlen]at n1;have hx:xs=c.sl x:=by
  have h4:=hget c.k ⟨.slice c.et,xs⟩ _ (by rw[vE (by rw[hlen];exact hk)]) (x2 x);rcases zey h4 with h5|⟨h5,_⟩
  .cases h5;rfl
  .cases h5
 refine⟨et,j,h1,hx▸h2,n1,λi v v' hi ha hv x0=>⟨hget i v v' ?_ x0,zg1 _ _ x1 v' (ja x0)⟩,λa ha=>?_⟩
 .rw[vu (xI hi)];rcases hb with ⟨_,e⟩|⟨a,u,b,ea,_,_,e⟩
  .rw[e];exact hv
  .rw[e,vu (λe=>ha (by rw[ea,e]))];exact hv
 .obtain⟨x4,x6⟩:=x3 a ha;rcases hb with ⟨e,_⟩|⟨a',u,b,ea,hu,hub,e⟩
  .rw[e]at ha;cases ha
  .rw[ha]at ea;cases ea;have x5:=(xB.1 hu).1;have h4:=hget a ⟨.bool,b⟩ _ (by rw[vu (xI x4),e,vE x5]) (x6 x);have x7:b=c.on x:=by
    rcases zey h4 with h5|⟨h5,_⟩
    .cases h5;rfl
    .cases h5
   rw[hu,zvz hub,x7]
theorem zh5{c:HCtr}(hc:c.law){i0 j i:Nat}{x:c.self.T}{v:V}(h:(c.lv i0 j x)[i]? =some v):(i=c.k/\v=⟨.obuf c.et,j⟩)\/(c.ad=some i/\i≠c.k/\v=adV i0 (c.on x))\/(i≠c.k/\c.ad≠some i/\(zaU c.self x)[i]? =some v):=by
 have x1:=(xB.1 (hc.2.1 x)).1;unfold HCtr.lv at h;cases ha:c.ad with
 |none=>
  rw[ha]at h;simp only at h;by_cases hi:i=c.k
  .subst hi;rw[vE x1]at h;exact .inl ⟨rfl,(yP h).symm⟩
  .rw[vu (xI hi)]at h;exact .inr (.inr ⟨hi,⟨(λe=>by cases e),h⟩⟩)
 |some a=>
  rw[ha]at h;simp only at h;obtain⟨x3,x4⟩:=hc.2.2 a ha;have x2:=(xB.1 (x4 x)).1;by_cases x0:i=a
  .subst x0;rw[vE (by rw[qP];exact x2)]at h;exact .inr (.inl ⟨rfl,x3,(yP h).symm⟩)
  .rw[vu (xI x0)]at h;by_cases hi:i=c.k
   .subst hi;rw[vE x1]at h;exact .inl ⟨rfl,(yP h).symm⟩
   .rw[vu (xI hi)]at h;exact .inr (.inr ⟨hi,λe=>x0 (yP e).symm,h⟩)
theorem zon(c:HCtr)(i0 j:Nat)(x:c.self.T):(c.lv i0 j x).length=(zaU c.self x).length:=by
 unfold HCtr.lv;cases c.ad with
 |none=>exact qP
 |some a=>simp only[qP]
theorem zl2{c:HCtr}(hc:c.law){i0 j m:Nat}(x0:i0<m)(hj:j<m)(x:c.self.T):∀v∈c.lv i0 j x,v.bound<=m:=by
 intro v hv;obtain⟨i,hi⟩:=vf.1 hv;rcases zh5 hc hi with ⟨_,rfl⟩|⟨_,_,rfl⟩|⟨_,_,h⟩
 .exact hj
 .unfold adV;cases c.on x with
  |true=>exact x0
  |false=>exact zk _
 .rw[zkM _ _ hc.1 v (ja h)];exact zk _
theorem zpx{w w':zj}{O O':Nat->Prop}{U U':Nat->zi}{i i':Nat}{b:Bool}{u:zi}(hb:zai (U' i')=zai (U i))(h:RepV w O U (adV i b).t (adV i b).x u):RepV w' O' U' (adV i' b).t (adV i' b).x u:=by
 cases b with
 |true=>
  obtain⟨g,h1,h2⟩:=h;exact⟨g,hb.trans h1,h2⟩
 |false=>exact h
theorem RepH.toLv{c:HCtr}(hc:c.law){w w':zj}{O O':Nat->Prop}{U U':Nat->zi}{i i1:Nat}{vs:List V}{E:Owns}{x:c.self.T}{cs:List zi}{j1:Nat}(hk:jk w w' O O')(h:unH c i vs E x)(hr:RepH w O U vs cs)
  (hb:∀j et,vs[c.k]? =some ⟨.obuf et,j⟩->U' j1=U j) (hi:zai (U' i1)=zai (U i)):RepH w' O' U' (c.lv i1 j1 x) cs:=by
 obtain⟨et,j,h1,h2,h3,h4,h5⟩:=zii hc h;refine RepH.conv (by rw[zon];exact h3) (λm v v' hv x0 u hu=>?_) hr;rcases zh5 hc x0 with ⟨rfl,rfl⟩|⟨ha,_,rfl⟩|⟨hm,ha,hl⟩
 .rw[h1]at hv;cases hv;show u=U' j1;rw[hu,hb j et h1]
 .rw[h5 m ha]at hv;cases hv;exact zpx hi hu
 .obtain⟨h6,h7⟩:=h4 m v v' hm ha hv hl;exact RepV.plainL (U:=U) hk h7 (zgn h6 hu)
theorem RepH.lvLv{c:HCtr}(hc:c.law){w w':zj}{O O':Nat->Prop}{U U':Nat->zi}{x:c.self.T}{cs:List zi}{i i1 j j1:Nat}(hk:jk w w' O O')(hr:RepH w O U (c.lv i j x) cs)(hb:U' j1=U j)(hi:zai (U' i1)=zai (U i)):RepH w' O' U' (c.lv i1 j1 x) cs:=by
 refine RepH.conv (by rw[zon,zon]) (λm v v' hv x0 u hu=>?_) hr;rcases zh5 hc x0 with ⟨rfl,rfl⟩|⟨ha,hk',rfl⟩|⟨hm,ha,hl'⟩
 .rcases zh5 hc hv with ⟨_,rfl⟩|⟨_,hm,_⟩|⟨hm,_⟩
  .
   show u=U' j1;rw[hu,hb]
  .exact absurd rfl hm
  .exact absurd rfl hm
 .rcases zh5 hc hv with ⟨e,_⟩|⟨_,_,rfl⟩|⟨_,hn,_⟩
  .exact absurd e hk'
  .exact zpx hi hu
  .exact absurd ha hn
 .rcases zh5 hc hv with ⟨e,_⟩|⟨e,_,_⟩|⟨_,_,hl⟩
  .exact absurd e hm
  .exact absurd e ha
  .rw[hl]at hl';cases hl';exact RepV.plainL (U:=U) hk (zg1 _ _ hc.1 _ (ja hl)) hu
section
variable {P:zA}{K:Kn}{n:Nat}
def zkU(c:HCtr)(ty:zy)(x:c.self.T)(xs:Args c.args):AS:=⟨(0,⟨.hptr,((0:Nat),(0:Nat))⟩)::zb1 c.args xs 1,[(0,some (.hbox ty (c.lv 0 1 x))),(1,some (.buf c.te c.et (c.sl x)))],2⟩
abbrev Ownr.own1(G:zj->Prop)(O:Nat->Prop)(g:Nat)(b:zi):Ownr:=⟨G,O,1,λ_=>g,[],none,λh=>zai b=some h⟩
theorem zuo(G:zj->Prop)(O:Nat->Prop)(g:Nat)(b:zi):∀h,(Ownr.own1 G O g b).R h↔(h=g\/zai b=some h):=λh=>
 ⟨λhh=>hh.elim (λ⟨i,_,e⟩=>.inl e.symm) .inr,λhh=>hh.elim (λe=>.inl ⟨0,qw 0,e.symm⟩) .inr⟩
theorem zvX{G:zj->Prop}{fn:Func}{ctr:HCtr}(hn:fn.ntmps=n)(x5:ctr.law)(hd:zbf ctr.args=true)(hlen:ctr.args.length+1<=n)(xc:∀w w' R ty,ctr.inv w R ty->G w->Kept R w w'->G w')
  {w:zj}{O:Nat->Prop}{g:Nat}{cs:List zi}{ty:zy}{x:ctr.self.T}{xs:Args ctr.args}{vs:List zi}{b:zi} (hO:∀h,O h->h<w.heap.size/\h≠g/\zai b≠some h) (xa:zai b≠some g) (hg:w.heap[g]? =some (.cells cs.toArray ty (0,0)))
  (hx:RepH w (zcI O g b) (zej g b) (ctr.lv 0 1 x) cs) (x2:yZ w (zcI O g b) (zej g b) 0 b (.buf ctr.te ctr.et (ctr.sl x))) (x3:RepA w (zcI O g b) ctr.args xs vs) (x8:ctr.inv w (λh=>h=g\/zai b=some h) ty) (hG:G w):
  ∃X:Ownr,X=Ownr.own1 G O g b/\X.Ok w/\(∀h,X.R h↔(h=g\/zai b=some h))/\Sim w X n (zkU ctr ty x xs) (zej g b) { tmps:=(zz (some ⟨g,0,none⟩)::vs).toArray++zG (fn.ntmps-(zz (some ⟨g,0,none⟩)::vs).toArray.size) undef,defers:=[] } w:=by
 have xd:=zc5 _ _ _ x3;have xh:=(zv.1 hg).1;have xb:∀h,zai b=some h->h<w.heap.size:=λh hh=>(x2.block_lt hh).2;obtain⟨X,x0⟩:∃X:Ownr,X=Ownr.own1 G O g b:=⟨_,rfl⟩;have x1:∀h,X.R h↔(h=g\/zai b=some h):=by rw[x0];exact zuo _ _ _ _
 have x6:X.X=O:=by rw[x0]
 have xe:X.G=G:=by rw[x0]
 have hX:X.Ok w:=⟨λh hh=>by
  rw[x6]at hh;exact⟨(hO h hh).1,λe=>((x1 h).1 e).elim (hO h hh).2.1 (hO h hh).2.2⟩,λh e=>((x1 h).1 e).elim (λe=>e▸xh) (xb h),λw' hk=>by
  rw[xe];exact xc w w' _ ty x8 hG ⟨hk.os,hk.tape,hk.output,hk.size,λk xg hr=>hk.block k xg λxf=>hr ((x1 k).1 xf)⟩⟩
 have hE:OSet X (zkU ctr ty x xs).E (zej g b)=zcI O g b:=by
  funext k
  apply propext;constructor
  .rintro (h|⟨i,o,hi,h⟩)
   .rw[x6]at h;exact .inl (.inl h)
   .unfold zej at h;by_cases h0:i=0
    .rw[if_pos h0]at h;exact .inl (.inr (yP h).symm)
    .rw[if_neg h0]at h;exact .inr h
  .rintro ((h|h)|h)
   .exact .inl (by rw[x6];exact h)
   .exact .inr ⟨0,_,rfl,by rw[h];rfl⟩
   .exact .inr ⟨1,_,rfl,h⟩
 have hget:∀i o,zq (zkU ctr ty x xs).E i=some o->(i=0/\o=.hbox ty (ctr.lv 0 1 x))\/(i=1/\o=.buf ctr.te ctr.et (ctr.sl x)):=λi o h=>by
  rw[show(zkU ctr ty x xs).E=[(0,some (.hbox ty (ctr.lv 0 1 x))),(1,some (.buf ctr.te ctr.et (ctr.sl x)))] from rfl,zag,zag]at h;by_cases hi:0=i
  .rw[if_pos hi]at h;cases h;exact .inl ⟨hi.symm,rfl⟩
  .rw[if_neg hi]at h;by_cases hi:1=i
   .rw[if_pos hi]at h;cases h;exact .inr ⟨hi.symm,rfl⟩
   .rw[if_neg hi]at h;cases h
 have x7:Sim w X n (zkU ctr ty x xs) (zej g b) { tmps:=(zz (some ⟨g,0,none⟩)::vs).toArray++zG (fn.ntmps-(zz (some ⟨g,0,none⟩)::vs).toArray.size) undef,defers:=[] } w:=by
  refine⟨by simp[hn,xd];omega,by rw[x0],jw _ _,λs=>?_,λi o h=>?_,λi o k h hk=>?_,λi j oi oj h h' x9 k hk x4=>?_,λi o h=>?_,⟨by rw[x0];exact Nat.le_succ 1,λi hi=>?_⟩,λs=>?_,λi o h=>?_⟩
  .rw[hE];have e:((zz (some ⟨g,0,none⟩)::vs).toArray++zG (fn.ntmps-(zz (some ⟨g,0,none⟩)::vs).toArray.size) undef)=([zz (some ⟨g,0,none⟩)]++vs++zg (fn.ntmps-(vs.length+1)) undef).toArray:=by simp
   show RepV w _ _ _ _ (((zz (some ⟨g,0,none⟩)::vs).toArray++zG (fn.ntmps-(zz (some ⟨g,0,none⟩)::vs).toArray.size) undef).getD s undef);rw[e];have:=zcs (U:=zej g b) ctr.args xs vs [zz (some ⟨g,0,none⟩)] (zg (fn.ntmps-(vs.length+1)) undef) hd x3 s;have key:∀u:zi,RepV w (zcI O g b) (zej g b) (zr ((0,⟨.hptr,((0:Nat),(0:Nat))⟩)::zb1 ctr.args xs 1) s).t (zr ((0,⟨.hptr,((0:Nat),(0:Nat))⟩)::zb1 ctr.args xs 1) s).x u=RepV w (zcI O g b) (zej g b) (if 0=s then(⟨.hptr,((0:Nat),(0:Nat))⟩:V) else zr (zb1 ctr.args xs 1) s).t (if 0=s then(⟨.hptr,((0:Nat),(0:Nat))⟩:V) else zr (zb1 ctr.args xs 1) s).x u:=λu=>by
    rw[<-zal]
   refine(key _).mpr ?_;by_cases hs:0=s
   .rw[if_pos hs];subst hs;exact⟨g,rfl,by simp[vM]⟩
   .rw[if_neg hs];exact this
  .rw[hE];rcases hget i o h with ⟨rfl,rfl⟩|⟨rfl,rfl⟩
   .exact⟨g,cs,rfl,zk _,hg,hx⟩
   .exact x2
  .refine .inr ((x1 k).2 ?_);rcases hget i o h with ⟨rfl,_⟩|⟨rfl,_⟩
   .exact .inl (yP hk).symm
   .exact .inr hk
  .rcases hget i oi h with ⟨rfl,_⟩|⟨rfl,_⟩<;>rcases hget j oj h' with ⟨rfl,_⟩|⟨rfl,_⟩
   .exact x9 rfl
   .have hk:some g=some k:=hk;exact xa (by rw[hk];exact x4)
   .have x4:some g=some k:=x4;exact xa (by rw[x4];exact hk)
   .exact x9 rfl
  .rcases hget i o h with ⟨rfl,_⟩|⟨rfl,_⟩
   .exact Nat.zero_lt_succ 1
   .exact qw 1
  .rw[x0]at hi ⊢;have hi:i=0:=by have:i<1:=hi;omega
   subst hi;refine⟨rfl,λo ho=>?_⟩;rcases hget 0 o ho with ⟨_,rfl⟩|⟨h,_⟩
   .rfl
   .cases h
  .show(zr ((0,⟨.hptr,((0:Nat),(0:Nat))⟩)::zb1 ctr.args xs 1) s).bound<=2;rw[zal];by_cases hs:0=s
   .rw[if_pos hs];exact Nat.le_succ 1
   .rw[if_neg hs,zbI _ _ _ _ hd];exact zk _
  .rcases hget i o h with ⟨_,rfl⟩|⟨_,rfl⟩
   .intro vs e v hv;cases e;exact zl2 x5 (Nat.zero_lt_succ 1) (qw 1) x v hv
   .intro vs e;cases e
 exact⟨X,x0,hX,x1,x7⟩
theorem zkW{G:zj->Prop}(hK:KnOk P G K){f:yR}{fn:Func}{c:Code}{ctr:HCtr}(hf:P.funcs[f]? =some fn)(hb:fn.body=some c)(hn:fn.ntmps=n)(x0:ctr.law)
  (xv:∀(zas:Array zi)(w:zj),(callFunc f zas).run P w=.ok (.enter f zas) w) (hd:zbf ctr.args=true) (hlen:ctr.args.length+1<=n) (xq:∀w w' R ty,ctr.inv w R ty->G w->Kept R w w'->G w')
  (h:∀(w0:zj)(X:Ownr)(ty:zy),X.Ok w0->X.G=G->X.K=1->X.ρ=none->X.D=[]->ctr.inv w0 X.R ty->∀(x:ctr.self.T)(xs:Args ctr.args),allP (ctr.pre x xs)->
    AWP P w0 X n c (zkU ctr ty x xs) (λe Y=>zvA K.T fn.results.toList ctr ty e Y (ctr.out x xs))):zcZ P G f ctr:=by
 refine⟨xv,x0,λw O g cs ty x xs vs b hO xp hg hx x8 xa hp x5 hG=>calls_of_wp hf hb ?_⟩;obtain⟨X,x1,hX,x7,x9⟩:=zvX (ctr:=ctr) (G:=G) hn x0 hd hlen xq hO xp hg hx x8 xa x5 hG;have xh:X.X=O:=by rw[x1]
 have xi:X.G=G:=by rw[x1]
 have x6:ctr.inv w X.R ty:=by
  rw[show X.R=λh=>h=g\/zai b=some h from funext λh=>propext (x7 h)];exact x5
 have hw:=h w X ty hX xi (by rw[x1]) (by rw[x1]) (by rw[x1]) x6 x xs hp _ _ _ x9;rw[show X.ρ=none by rw[x1]]at hw;refine wp_mono (wpIn_wide.1 hw) λe a' w'⟨Y',U',h1,h2⟩=>?_;have xc:Kept (λh=>h=g\/zai b=some h) w w':=⟨h1.bel.os,h1.bel.tape,h1.bel.output,h1.bel.size,λk hk hr=>h1.bel.block k hk λxu=>hr ((x7 k).1 xu)⟩;have xd:a'.defers=[]:=by rw[h1.df,x1]
 revert h2;cases ho:ctr.out x xs with
 |error pv=>
  rintro rfl;exact⟨xd,xc,rfl⟩
 |ok p=>
  obtain⟨y,x'⟩:=p;rintro ⟨h2,⟨ws,h6,h7⟩,h3⟩;obtain⟨xx,j,k1,k2,_,_⟩:=zii x0 h7;obtain⟨g',xb,x2,_,xf,xw⟩:=h1.own 0 _ h6;have xm:=(h1.fix.2 0 (by rw[x1];exact qw 0)).1;rw[x2]at xm;have xr:g'=g:=by
   have h:=xm;rw[x1]at h;exact yP h
  subst xr;have hj:=h1.own j _ k2;have xg:(0:Nat)≠j:=λe=>by rw[<-e,h6]at k2;cases k2
  have xe:∀k,zcI O g' (U' j) k->OSet X Y'.E U' k:=λk hk=>by
   rcases hk with (hk|hk)|hk
   .exact .inl (by rw[xh];exact hk)
   .exact .inr ⟨0,_,h6,by rw[x2,hk];rfl⟩
   .exact .inr ⟨j,_,k2,hk⟩
  have xo:jk w' w' (OSet X Y'.E U') (zcI O g' (U' j)):=⟨zu _,λ_ _ _=>rfl,λk _ hk=>xe k hk⟩;have x3:RepH w' (zcI O g' (U' j)) (zej g' (U' j)) (ctr.lv 0 1 x') xb:=RepH.toLv x0 xo h7 xw (λj' xt xk=>by
   rw[k1]at xk;cases xk;rfl) (by rw[x2];rfl)
  have xj:=hj.keep xo λ_ _=>rfl;have x4:∀h,zai (U' j)=some h->zai b=some h\/w.heap.size<=h:=λh hh=>by
   rcases h1.new j _ h k2 hh with h8|h8
   .exact .inr h8
   .rcases (x7 h).1 h8 with rfl|h8
    .exact absurd hh (h1.inj 0 j _ _ h6 k2 xg h (by rw[x2];rfl))
    .exact .inl h8
  have xn:=h1.inj 0 j _ _ h6 k2 xg g' (by rw[x2];rfl);obtain⟨v,h4,h5⟩:=zj3 (X:=X) (by rw[xi];exact hK) hX h1 [] h3 (O':=zcI O g' (U' j)) (λk hk=>by
   rcases hk with (hk|hk)|hk
   .exact .inl (by rw[xh];exact hk)
   .exact .inr ⟨0,_,h6,by rw[x2,hk];rfl,.inr rfl⟩
   .exact .inr ⟨j,_,k2,hk,.inr rfl⟩)
  rcases h2 with rfl|rfl
  .exact⟨xd,v,h4,xc,v,xb,_,rfl,xf,x3,xj,xn,x4,h5⟩
  .exact⟨xd,v,h4,xc,v,xb,_,rfl,xf,x3,xj,xn,x4,h5⟩
end
section
variable {w0 w w':zj}{X:Ownr}{n:Nat}{Y:AS}{U:Nat->zi}{a:Act}
theorem Sim.redo0(h:Sim w0 X n Y U a w){i:Nat}{o o':OObj}(hi:zq Y.E i=some o)(x7:o.isBuf=true)(hg:w.grownBy w' (zai (U i))){bv:zi}
  (x8:∀g,zai bv=some g->zai (U i)=some g\/w.heap.size<=g)
  (hr:yZ w' (OSet X ((i,some o')::xH i Y.E) (λj=>if j=i then bv else U j)) (λj=>if j=i then bv else U j) 0 bv o') (hu:o'.under Y.nx:=by exact λ_ e=>by cases e):
  Sim w0 X n { F:=jU i Y.F,E:=(i,some o')::xH i Y.E,nx:=Y.nx } (λj=>if j=i then bv else U j) a w':=by
 have hO:∀g,g<w.heap.size->OSet X ((i,some o')::xH i Y.E) (λj=>if j=i then bv else U j) g->OSet X Y.E U g:=λg xb xd=>by
  rcases xd with h1|⟨j,oj,h1,h2⟩
  .exact .inl h1
  .rw[zag]at h1;by_cases hj:i=j
   .subst hj;simp at h2;rcases x8 g h2 with h3|h3
    .exact .inr ⟨i,o,hi,h3⟩
    .omega
   .rw[if_neg hj,kQ]at h1;obtain⟨pj,xg,xh⟩:=yC.1 h1;simp[xI hj]at h2;exact .inr ⟨j,pj,xg,h2⟩
 have x2:jk w w' (OSet X Y.E U) (OSet X ((i,some o')::xH i Y.E) (λj=>if j=i then bv else U j)):=
  ⟨hg.size,λg xb xf=>hg.block g xb λe=>xf (.inr ⟨i,o,hi,e.symm⟩),hO⟩
 have x0:∀{j:Nat}{oj:OObj},i≠j->(if i=j then some o' else zq (xH i Y.E) j)=some oj->∃pj,zq Y.E j=some pj/\pj.kill i=oj:=λhs hj=>by
  rw[if_neg hs,kQ]at hj;exact yC.1 hj
 have x5:=h.bel.grown hg λg e=>h.new i o g hi e;have xe:=h.lt i o hi;refine⟨h.sz,h.df,x5,?_,?_,?_,?_,?_,?_,?_,?_⟩
 .intro s;rw[Frame.get_kill];unfold V.kill;cases hu:uses i (zr Y.F s).t (zr Y.F s).x with
  |true=>trivial
  |false=>exact RepV.other _ _ _ hu (xF x2 _ _ _ (h.fr s))
 .intro j oj hj;rw[show zq ((i,some o')::xH i Y.E) j=_ from zag ..]at hj;by_cases hs:i=j
  .subst hs;rw[if_pos rfl]at hj;cases hj;rw[if_pos rfl];exact hr
  .obtain⟨pj,x1,rfl⟩:=x0 hs hj;rw[if_neg (xI hs)];refine((h.own j pj x1).keep x2 λg x9=>hg.block g ((h.own j pj x1).block_lt x9).2 λe=>?_).kill;exact h.inj i j o pj hi x1 hs g e.symm x9
 .intro j oj g hj;rw[show zq ((i,some o')::xH i Y.E) j=_ from zag ..]at hj;by_cases hs:i=j
  .rw[if_pos hs.symm];intro x3;rcases x8 g x3 with h3|h3
   .exact h.new i o g hi h3
   .exact .inl (zL h.bel.size h3)
  .obtain⟨pj,x1,rfl⟩:=x0 hs hj;rw[if_neg (xI hs)];exact h.new j pj g x1
 .intro j k oj ok hj hk xc g;rw[show zq ((i,some o')::xH i Y.E) j=_ from zag ..]at hj;rw[show zq ((i,some o')::xH i Y.E) k=_ from zag ..]at hk;have fresh:∀m om,i≠m->zq Y.E m=some om->zai bv=some g->zai (U m)≠some g:=λm om hm xa x3 x4=>by
   rcases x8 g x3 with h3|h3
   .exact h.inj i m o om hi xa hm g h3 x4
   .have:=((h.own m om xa).block_lt x4).2;omega
  by_cases h1:i=j
  .by_cases h2:i=k
   .omega
   .obtain⟨pk,x6,rfl⟩:=x0 h2 hk;rw[if_pos h1.symm,if_neg (xI h2)];exact fresh k pk h2 x6
  .obtain⟨pj,x1,rfl⟩:=x0 h1 hj;rw[if_neg (xI h1)];by_cases h2:i=k
   .rw[if_pos h2.symm];exact λx3 x4=>fresh j pj h1 x1 x4 x3
   .obtain⟨pk,x6,rfl⟩:=x0 h2 hk;rw[if_neg (xI h2)];exact h.inj j k pj pk x1 x6 xc g
 .intro j oj hj;rw[show zq ((i,some o')::xH i Y.E) j=_ from zag ..]at hj;by_cases hs:i=j
  .exact hs▸xe
  .obtain⟨pj,x1,rfl⟩:=x0 hs hj;exact h.lt j pj x1
 .refine⟨h.fix.1,λj hj=>?_⟩;obtain⟨h2,h3⟩:=h.fix.2 j hj;have hs:i≠j:=λe=>by subst e;have:=h3 o hi;rw[x7]at this;cases this
  refine⟨?_,λoj ho=>?_⟩
  .
   rw[if_neg (xI hs)];exact h2
  .rw[show zq ((i,some o')::xH i Y.E) j=_ from zag ..]at ho;obtain⟨pj,x1,rfl⟩:=x0 hs ho;rw[OObj.kill_isBuf];exact h3 pj x1
 .intro s;rw[Frame.get_kill];unfold V.kill;cases uses i (zr Y.F s).t (zr Y.F s).x with
  |true=>exact zk _
  |false=>exact h.hb s
 .intro j oj hj;rw[show zq ((i,some o')::xH i Y.E) j=_ from zag ..]at hj;by_cases hs:i=j
  .rw[if_pos hs]at hj;cases hj;exact hu
  .obtain⟨pj,x1,rfl⟩:=x0 hs hj;exact OObj.kill_under (h.hE j pj x1)
theorem Sim.lose2(h:Sim w0 X n Y U a w){i j:Nat}{oi oj:OObj}(hi:zq Y.E i=some oi)(hj:zq Y.E j=some oj)(hk:Kept (λg=>zai (U i)=some g\/zai (U j)=some g) w w'):
  Sim w0 X n { Y with E:=(i,none)::(j,none)::Y.E } U a w':=by
 have hget:∀m om,zq ((i,none)::(j,none)::Y.E) m=some om->i≠m/\j≠m/\zq Y.E m=some om:=λm om hm=>by
  rw[zag,zag]at hm;by_cases h1:i=m
  .rw[if_pos h1]at hm;cases hm
  .rw[if_neg h1]at hm;by_cases h2:j=m
   .rw[if_pos h2]at hm;cases hm
   .rw[if_neg h2]at hm;exact⟨h1,h2,hm⟩
 have x0:jk w w' (OSet X Y.E U) (OSet X ((i,none)::(j,none)::Y.E) U):=⟨hk.size,λg hg x4=>hk.block g hg λe=>x4 (.inr (e.elim (λe=>⟨i,oi,hi,e⟩) λe=>⟨j,oj,hj,e⟩)),λg _ hg=>by
  rcases hg with hg|⟨m,om,h1,h2⟩
  .exact .inl hg
  .exact .inr ⟨m,om,(hget m om h1).2.2,h2⟩⟩
 have x1:Kept X.R w0 w':=⟨hk.os.trans h.bel.os,hk.tape.trans h.bel.tape,hk.output.trans h.bel.output,zL h.bel.size hk.size,λk x2 hr=>(hk.block k (zF x2 h.bel.size) λe=>by
  rcases e with e|e
  .rcases h.new i oi k hi e with h1|h1
   .omega
   .exact hr h1
  .rcases h.new j oj k hj e with h1|h1
   .omega
   .exact hr h1).trans (h.bel.block k x2 hr)⟩
 exact⟨h.sz,h.df,x1,λs=>xF x0 _ _ _ (h.fr s),λm om hm=>by
   obtain⟨h1,h2,h3⟩:=hget m om hm;exact(h.own m om h3).keep x0 λg hg=>hk.block g ((h.own m om h3).block_lt hg).2 λe=>e.elim (λe=>h.inj i m oi om hi h3 h1 g e hg) λe=>h.inj j m oj om hj h3 h2 g e hg,
  λm om g hm=>h.new m om g (hget m om hm).2.2,λm k om ok hm x3=>h.inj m k om ok (hget m om hm).2.2 (hget k ok x3).2.2,λm om hm=>h.lt m om (hget m om hm).2.2,
  ⟨h.fix.1,λm hm=>⟨(h.fix.2 m hm).1,λom ho=>(h.fix.2 m hm).2 om (hget m om ho).2.2⟩⟩,h.hb,λm om hm=>h.hE m om (hget m om hm).2.2⟩
end
section
variable {P:zA}{K:Kn}{w0:zj}{X:Ownr}{n:Nat}{Y:AS}{Q:Exit->AS->Prop}{ops:Array Oper}
@[reducible] def zpz{R S:Type}(N:R->S->Prop)(E:zi->Prop):Except zi (R×S)->Prop
 |.ok (y,x')=>N y x'
 |.error pv=>E pv
theorem zjT(hX:X.Ok w0){o:Oper}{f:yR}{c:HCtr}(hc:zcZ P X.G f c){a0:zK}{zas:List zK}(hrunG:∀(U:Nat->zi)(a:Act)(w:zj),Sim w0 X n (frzs Y zas) U a w->(∀(zas:Array zi)(w:zj),(callFunc f zas).run P w=.ok (.enter f zas) w)->(execOp a.eval o).run P w=.ok (.enter f (a.eval a0::zas.map a.eval).toArray) w)
  {F:yF}{E:Owns}{nx:Nat} (hσ:frzs Y zas=⟨F,E,nx⟩) {i:Nat} (hev:evO F a0=⟨.hptr,(i,(0:Nat))⟩) {ty:zy}{vs:List V} (hbox:zq E i=some (.hbox ty vs)) {et:Ty}{j:Nat} (hk:vs[c.k]? =some ⟨.obuf et,j⟩) {xsl:List c.et.T} (hbuf:zq E j=some (.buf c.te c.et xsl))
  {x:c.self.T} (hun:unD c.self ((c.back i vs).set c.k ⟨.slice c.et,xsl⟩)=some (x,[])) (hd:zbf c.args=true) (hfl:c.res.resOk=true)
  {q:List Prop}{xs:Args c.args} (hav:zgi E false (zas.map (evO F)) c.args=some (q,xs)) (hq:allP q) (hpre:allP (c.pre x xs)) (hinv:∀w R,(∀g,R g->w0.heap.size<=g\/X.R g)->X.G w->c.inv w R ty) {F':c.res.T->yF} (hput:∀y,putD n o.dst (resV c.res y) (jU j F)=some (F' y))
  {N:AS->Prop} (h:zpz (λy x'=>N ⟨F' y,(i,some (.hbox ty (c.lv i j x')))::(j,some (.buf c.te c.et (c.sl x')))::xH j E,nx⟩) (λpv=>Q (.panic [{ v:=pv,recovered:=false }]) ⟨F,(i,none)::(j,none)::E,nx⟩) (c.out x xs))
  (U:Nat->zi) (a:Act) (w:zj) (hs:Sim w0 X n Y U a w):o.wp P a w (λa' w'=>∃Y' U',Sim w0 X n Y' U' a' w'/\N Y') (λe a' w'=>e≠ .outgrown/\∃Y' U',Sim w0 X n Y' U' a' w'/\Q e Y'):=by
 have h1:=hs.frzs hX zas;have h1r:=h1;rw[hσ]at h1;obtain⟨hen,hlaw,hcall⟩:=hc;have hunH:unH c i vs E x:=⟨et,j,xsl,hk,hbuf,hun⟩;have hsl:xsl=c.sl x:=by
  obtain⟨et',j',k1,k2,_,_⟩:=zii hlaw hunH;rw[hk]at k1;cases k1;rw[hbuf]at k2;cases k2;rfl
 subst hsl;have hv:=h1.ops a0;rw[show evO (AS.mk F E nx).F a0=_ from hev]at hv;obtain⟨g,hg1,hg2⟩:=hv;obtain⟨g',cs,e1,_,e3,e4⟩:=h1.own _ _ hbox;have hgg:g'=g:=by
  have hg1:zai (U i)=some g:=hg1;rw[e1]at hg1
  simpa [zai] using hg1
 subst hgg;have hij:i≠j:=λe=>by rw[e,hbuf]at hbox;cases hbox
 have hji:j≠i:=λe=>hij e.symm;have hbj:=h1.own _ _ hbuf;have hOg:OSet X E U g':=.inr ⟨_,_,hbox,by rw[e1];rfl⟩;have hgb:zai (U j)≠some g':=h1.inj i j _ _ hbox hbuf hij g' (by rw[e1];rfl);obtain⟨O,hO⟩:∃O:Nat->Prop,O=λk=>OSet X E U k/\k≠g'/\zai (U j)≠some k:=⟨_,rfl⟩;have hset:zcI O g' (U j)=OSet X E U:=by
  funext k
  apply propext;rw[hO];constructor
  .rintro ((hk|rfl)|hk)
   .exact hk.1
   .exact hOg
   .exact .inr ⟨j,_,hbuf,hk⟩
  .intro hk;by_cases e:k=g'
   .exact .inl (.inr e)
   .by_cases e':zai (U j)=some k
    .exact .inr e'
    .exact .inl (.inl ⟨hk,e,e'⟩)
 have hvs:RepVs w (OSet X E U) U (zas.map (evO F)) (zas.map a.eval):=by
  refine⟨by simp,λi v hv=>?_⟩;rw[yB]at hv;obtain⟨z,hz,rfl⟩:=yC.1 hv;exact⟨a.eval z,by rw[yB,hz];rfl,h1.ops z⟩
 have ha:=zek (B:=0) h1.own hd hav hq hvs.2 hvs.1;have ha:RepA w (zcI O g' (U j)) c.args xs (zas.map a.eval):=by
  rw[hset];have e:(λk=>false=false/\OSet X E U k)=OSet X E U:=by funext k;simp
  rwa[e]at ha
 have hK0:jk w w (OSet X E U) (zcI O g' (U j)):=by rw[hset];exact Keeps.refl _ _
 have hlv:RepH w (zcI O g' (U j)) (zej g' (U j)) (c.lv 0 1 x) cs:=RepH.toLv hlaw hK0 hunH e4 (λj' et' hj'=>by
  rw[hk]at hj';cases hj';rfl) (by rw[e1];rfl)
 have hbuf2:yZ w (zcI O g' (U j)) (zej g' (U j)) 0 (U j) (.buf c.te c.et (c.sl x)):=hbj.keep hK0 λ_ _=>rfl;have hOk:∀k,O k->k<w.heap.size/\k≠g'/\zai (U j)≠some k:=λk hk=>by
  rw[hO]at hk;exact⟨h1.hO hX k hk.1,hk.2⟩
 have hR:∀k,(k=g'\/zai (U j)=some k)->w0.heap.size<=k\/X.R k:=λk hk=>by
  rcases hk with rfl|hk
  .exact h1.new _ _ k hbox (by rw[e1];rfl)
  .exact h1.new _ _ k hbuf hk
 have hcl:=hcall w O g' cs ty x xs _ (U j) hOk hgb e3 hlv hbuf2 ha hpre (hinv w _ hR (hX.2.2 w h1.bel)) (hX.2.2 w h1.bel);have hrun:(execOp a.eval o).run P w=.ok (.enter f (zz (some ⟨g',0,none⟩)::zas.map a.eval).toArray) w:=by
  rw[hrunG U a w h1r hen,hg2]
 unfold jV;rw[hrun];refine hcl.mono λe w' hr=>?_;obtain⟨hkp,hr⟩:=hr;revert hr h;cases c.out x xs with
 |error pv=>
  intro h;rintro rfl;refine⟨λe=>(by cases e),_,U,h1.lose2 hbox hbuf ⟨hkp.os,hkp.tape,hkp.output,hkp.size,λk hkl hn=>hkp.block k hkl λhk=>hn ?_⟩,h⟩;rcases hk with rfl|hk
  .exact .inl (by rw[e1];rfl)
  .exact .inr hk
 |ok r=>
  obtain⟨y,x'⟩:=r;intro h;rintro ⟨v,cs',b',rfl,h7,h8,h9,hng,hnew,hres⟩;obtain⟨w1,hw1⟩:∃w1,w1=w'.putObj g' (.cells cs.toArray ty (0,0)):=⟨_,rfl⟩;have hgl':g'<w'.heap.size:=(zv.1 h7).1;have hgl:g'<w.heap.size:=(zv.1 e3).1;have hw1g:w1.heap[g']? =some (.cells cs.toArray ty (0,0)):=by rw[hw1];exact jx hgl'
  have hw1o:∀k,k≠g'->w1.heap[k]? =w'.heap[k]? :=λk hne=>by rw[hw1];exact xD hne
  have hp1:=grownBy_putObj' w' g' (.cells cs.toArray ty (0,0));rw[<-hw1]at hp1;have hsz1:w1.heap.size=w'.heap.size:=by rw[hw1];simp
  let U1:Nat->zi:=λm=>if m=j then b' else U m
  obtain⟨E1,hE1⟩:∃E1:Owns,E1=(j,some (.buf c.te c.et (c.sl x')))::xH j E:=⟨_,rfl⟩;have hset1:∀k,OSet X E1 U1 k->zcI O g' b' k:=λk hk=>by
   have hX':∀m om,m≠j->zq E m=some om->zai (U m)=some k->zcI O g' b' k:=λm om hmj hm hbm=>by
    by_cases e:k=g'
    .exact .inl (.inr e)
    .refine .inl (.inl ?_);rw[hO];exact⟨.inr ⟨m,om,hm,hbm⟩,e,λe'=>h1.inj m j om _ hm hbuf hmj k hbm e'⟩
   rcases hk with hk|⟨m,om,hm,hbm⟩
   .refine .inl (.inl ?_);rw[hO];have h3:=hX.1 k hk;refine⟨.inl hk,λe=>?_,λe=>?_⟩
    .rcases hR k (.inl e) with h4|h4
     .omega
     .exact h3.2 h4
    .rcases hR k (.inr e) with h4|h4
     .omega
     .exact h3.2 h4
   .rw[hE1,zag]at hm;by_cases hjm:j=m
    .subst hjm;have hbm:zai (if j=j then b' else U j)=some k:=hbm;rw[if_pos rfl]at hbm;exact .inr hbm
    .rw[if_neg hjm,kQ]at hm;obtain⟨pm,hp,_⟩:=yC.1 hm;have hbm:zai (if m=j then b' else U m)=some k:=hbm;rw[if_neg (xI hjm)]at hbm;exact hX' m pm (xI hjm) hp hbm
  have hgr:w.grownBy w1 (zai (U j)):=⟨hp1.os.trans hkp.os,hp1.tape.trans hkp.tape,hp1.output.trans hkp.output,by rw[hsz1];exact hkp.size,λk hkl hne=>by
   by_cases e:k=g'
   .rw[e,hw1g,e3]
   .rw[hw1o k e];exact hkp.block k hkl λhk=>hk.elim e λhk=>hne hk.symm⟩
  have h2:=h1.redo0 (w':=w1) (o':=.buf c.te c.et (c.sl x')) hbuf rfl hgr hnew (by
   refine h9.keep ⟨by rw[hsz1];exact zu _,λk _ hn=>hw1o k λe=>hn (.inl (.inr e)),λk _ hk=>hset1 k (by rw[hE1];exact hk)⟩ λk hk=>hw1o k λe=>hng (by rw[hk,e]))
  rw[<-hE1]at h2;have hbi:(if i=j then b' else U i)=.pointer (some ⟨g',0,none⟩):=by rw[if_neg hij,e1]
  have hi1:zq E1 i=some (.hbox ty (vs.map (V.kill j))):=by
   rw[hE1,zag,if_neg hji,kQ];rw[show zq E i=_ from hbox];rfl
  have hjn:=h1.lt j _ hbuf;have h3:=h2.write (w':=w') (o':=.hbox ty (c.lv i j x')) hi1 (by
   rw[hbi];refine⟨hp1.os.symm,hp1.tape.symm,hp1.output.symm,by show w1.heap.size<=w'.heap.size;rw[hsz1];exact zu _,λk _ hne=>(hw1o k λe=>hne (by rw[e];rfl)).symm⟩) (λ_=>by
   rw[hbi];refine⟨g',cs',rfl,zk _,h7,RepH.lvLv hlaw ⟨zu _,λ_ _ _=>rfl,λk _ hk=>hset1 k hk⟩ h8 ?_ ?_⟩
   .show(if j=j then b' else U j)=zej g' b' 1;rw[if_pos rfl];rfl
   .
    rw[hbi];rfl) rfl (λws e u hu=>by
   cases e;exact zl2 hlaw (h1.lt i _ hbox) hjn x' u hu)
  subst hE1;refine⟨_,λm=>if m=j then b' else U m,?_,h⟩;have hp:=hput y;unfold putD at hp;split at hp
  .rename_i d hdst;split at hp<;>first|(cases hp;done)|skip
   rename_i hlt;have hp:=yP hp;rw[hdst, <-hp];have hkp2:jk w' w' (zcI O g' b') (OSet X ((i,some (.hbox ty (c.lv i j x')))::(j,some (.buf c.te c.et (c.sl x')))::xH j E) (λm=>if m=j then b' else U m)):=⟨zu _,λ_ _ _=>rfl,λk _ hk2=>by
    rcases hk2 with hk2|⟨m,om,hm,hbm⟩
    .exact hset1 k (.inl hk2)
    .rw[zag]at hm;by_cases him:i=m
     .subst him;have hbm:zai (if i=j then b' else U i)=some k:=hbm;rw[hbi]at hbm;exact .inl (.inr (yP hbm).symm)
     .rw[if_neg him]at hm;exact hset1 k (.inr ⟨m,om,hm,hbm⟩)⟩
   exact h3.put (zY _ _) (xF hkp2 _ _ _ (zju (U:=λm=>if m=j then b' else U m) _ hfl hres)) (zgG _ hfl _) (by simpa using hlt:d<n)
  .rename_i hdst;have hp:=yP hp;rw[hdst, <-hp];exact h3
theorem zqB(hX:X.Ok w0){o:Oper}{f:yR}{c:HCtr}(hc:zcZ P X.G f c){args:Array zK}{ts:Array zy}{a0:zK}{zas:List zK}(ho:o.op=.call ⟨.value (.func f),args,ts⟩)(x1:args.toList=a0::zas)
  {F:yF}{E:Owns}{nx:Nat} (xa:frzs Y zas=⟨F,E,nx⟩) {i:Nat} (x9:evO F a0=⟨.hptr,(i,(0:Nat))⟩) {ty:zy}{vs:List V} (hbox:zq E i=some (.hbox ty vs)) {et:Ty}{j:Nat} (hk:vs[c.k]? =some ⟨.obuf et,j⟩) {x6:List c.et.T} (x4:zq E j=some (.buf c.te c.et x6))
  {x:c.self.T} (xb:unD c.self ((c.back i vs).set c.k ⟨.slice c.et,x6⟩)=some (x,[])) (hd:zbf c.args=true) (x7:c.res.resOk=true)
  {q:List Prop}{xs:Args c.args} (x8:zgi E false (zas.map (evO F)) c.args=some (q,xs)) (hq:allP q) (x3:allP (c.pre x xs)) (x2:∀w R,(∀g,R g->w0.heap.size<=g\/X.R g)->X.G w->c.inv w R ty) {F':c.res.T->yF} (x5:∀y,putD n o.dst (resV c.res y) (jU j F)=some (F' y))
  {N:AS->Prop} (h:zpz (λy x'=>N ⟨F' y,(i,some (.hbox ty (c.lv i j x')))::(j,some (.buf c.te c.et (c.sl x')))::xH j E,nx⟩) (λpv=>Q (.panic [{ v:=pv,recovered:=false }]) ⟨F,(i,none)::(j,none)::E,nx⟩) (c.out x xs))
  (U:Nat->zi) (a:Act) (w:zj) (hs:Sim w0 X n Y U a w):o.wp P a w (λa' w'=>∃Y' U',Sim w0 X n Y' U' a' w'/\N Y') (λe a' w'=>e≠ .outgrown/\∃Y' U',Sim w0 X n Y' U' a' w'/\Q e Y'):=
 zjT hX hc (a0:=a0) (zas:=zas) (λU a w hs xc=>by
  have x0:(args.toList.map a.eval).toArray=(a.eval a0::zas.map a.eval).toArray:=by rw[x1,qN]
  rw[<-x0];have em:(args.toList.map a.eval).toArray=args.map a.eval++ #[]:=by
   rw[<-zbS];simp
  have hx:a.eval (.func f)=.func (.func f) #[] #[]:=rfl;rw[em];unfold execOp;simp[ho,resolve,invoke,jv,hx,xc]) xa x9 hbox hk x4 xb hd x7 x8 hq x3 x2 x5 h U a w hs
structure HSite where
 c:HCtr
 x:c.self.T
 xs:Args c.args
 ty:zy
 q:List Prop
 next:c.res.T->c.self.T->AS
 lost:AS
def hget:List (yR×HCtr)->yR->Option HCtr
 | [],_=>none
 |(g,c)::r,f=>bif yG g f then some c else hget r f
def HsOk(P:zA)(G:zj->Prop)(C:List (yR×HCtr)):Prop:=∀f c,hget C f=some c->zcZ P G f c
theorem HsOk.nil{P:zA}{G:zj->Prop}:HsOk P G []:=λ_ _ h=>by cases h
theorem HsOk.cons{P:zA}{G:zj->Prop}{f:yR}{c:HCtr}{C:List (yR×HCtr)}(h:zcZ P G f c)(hC:HsOk P G C):HsOk P G ((f,c)::C):=by
 intro g d hg;simp only[hget,cond_eq_ite,qE]at hg;split at hg
 .rename_i e;cases hg;exact e▸h
 .exact hC g d hg
def hFn(F:yF):Op->Option (yR×zK×List zK)
 |.call ⟨.value (.func f),args,_⟩=>match args.toList with
  |a0::zas=>some (f,a0,zas)
  | []=>none
 |_=>none
def zoL(n:Nat)(d:Option Nat)(v:V)(F:yF):yF:=match d with
 |some d=>(d,v)::F
 |none=>F
def zv2(n:Nat):Option Nat->Bool
 |some d=>zO d n
 |none=>true
def ztp(te:zy)(t:Ty):OObj->Option (List t.T)
 |.buf te' t' xs=>if yG te te' then zqU (.slice t') (.slice t) xs (zeC (.slice t') (.slice t)) else none
 |_=>none
def zta(C:List (yR×HCtr))(n:Nat)(o:Oper)(Y:AS):Option HSite:=
 match hFn Y.F o.op with
 |some (f,a0,zas)=>match hget C f with
  |some c=>match frzs Y zas with
   |⟨F,E,nx⟩=>match evO F a0 with
    |⟨.hptr,(i,0)⟩=>match zq E i with
     |some (.hbox ty vs)=>match vs[c.k]? with
      |some ⟨.obuf _,j⟩=>match zq E j with
       |some ob=>match ztp c.te c.et ob with
        |some xsl=>if zbf c.args&&c.res.resOk&&zv2 n o.dst then(match unD c.self ((c.back i vs).set c.k ⟨.slice c.et,xsl⟩),zgi E false (zas.map (evO F)) c.args with
         |some (x,[]),some (q,xs)=>some ⟨c,x,xs,ty,q++c.pre x xs,λy x'=>⟨zoL n o.dst (resV c.res y) (jU j F),(i,some (.hbox ty (c.lv i j x')))::(j,some (.buf c.te c.et (c.sl x')))::xH j E,nx⟩,⟨F,(i,none)::(j,none)::E,nx⟩⟩
         |_,_=>none) else none
        |none=>none
       |none=>none
      |_=>none
     |_=>none
    |_=>none
  |none=>none
 |none=>none
theorem zqV{te:zy}{t:Ty}{ob:OObj}{xs:List t.T}(h:ztp te t ob=some xs):ob=.buf te t xs:=by
 cases ob with
 |buf te' t' ys=>
  simp only[ztp]at h;split at h<;>first|(cases h;done)|skip
  rename_i x0;have x0:te=te':=by simpa using x0
  subst x0;revert h;generalize zeC (Ty.slice t') (Ty.slice t)=e;intro h;cases e with
  |none=>cases h
  |some e=>
   obtain⟨e⟩:=e;cases e;cases h;rfl
 |_=>cases h
theorem zqz(hX:X.Ok w0){C:List (yR×HCtr)}(hC:HsOk P X.G C){o:Oper}{s:HSite}(hs:zta C n o Y=some s)(hq:allP s.q)(x4:∀w R,(∀g,R g->w0.heap.size<=g\/X.R g)->X.G w->s.c.inv w R s.ty)
  {N:AS->Prop} (h:zpz (λy x'=>N (s.next y x')) (λpv=>Q (.panic [{ v:=pv,recovered:=false }]) s.lost) (s.c.out s.x s.xs))
  (U:Nat->zi) (a:Act) (w:zj) (x6:Sim w0 X n Y U a w):o.wp P a w (λa' w'=>∃Y' U',Sim w0 X n Y' U' a' w'/\N Y') (λe a' w'=>e≠ .outgrown/\∃Y' U',Sim w0 X n Y' U' a' w'/\Q e Y'):=by
 unfold zta at hs;split at hs<;>first|(cases hs;done)|skip
 rename_i f a0 zas x2;split at hs<;>first|(cases hs;done)|skip
 rename_i c hc;split at hs;rename_i F E nx xa;split at hs<;>first|(cases hs;done)|skip
 rename_i i x9;split at hs<;>first|(cases hs;done)|skip
 rename_i ty vs hbox;split at hs<;>first|(cases hs;done)|skip
 rename_i et j hk;split at hs<;>first|(cases hs;done)|skip
 rename_i ob xe;split at hs<;>first|(cases hs;done)|skip
 rename_i xf xb;split at hs<;>first|(cases hs;done)|skip
 rename_i x1;simp only[zh]at x1;obtain⟨⟨hd,x7⟩,x0⟩:=x1;split at hs<;>first|(cases hs;done)|skip
 rename_i x q xs xc x8;have hs:=yP hs;subst hs;have x5:=zqV xb;subst x5;simp only[zav]at hq;obtain⟨args,ts,ho,x3⟩:∃args ts,o.op=.call ⟨.value (.func f),args,ts⟩/\args.toList=a0::zas:=by
  unfold hFn at x2;split at x2<;>first|(cases x2;done)|skip
  rename_i f' args ts xd;split at x2<;>first|(cases x2;done)|skip
  rename_i b0 bs hl;cases x2;exact⟨args,ts,xd,hl⟩
 refine zqB hX (hC f c hc) ho x3 xa x9 hbox hk xe xc hd x7 x8 hq.1 hq.2 x4 (F':=λy=>zoL n o.dst (resV c.res y) (jU j F)) (λy=>?_) h U a w x6;unfold putD zoL;cases hh:o.dst with
 |none=>rfl
 |some d=>
  rw[hh]at x0;have x0:zO d n=true:=x0;show(if zO d n=true then _ else _)=_;rw[if_pos x0]
theorem AL.own(m:Nat)(hX:X.Ok w0)(hK:KnOk P X.G K){C:List (yR×HCtr)}(hC:HsOk P X.G C){l rest:List Oper}{o:Oper}{r:List Prop×AS}(hs:aSeq K n ops (l.take m) Y=some r)(hp:allP r.1)(hl:l.drop m=o::rest){s:HSite}(x0:zta C n o r.2=some s)
  (hq:allP s.q) (x1:∀w R,(∀g,R g->w0.heap.size<=g\/X.R g)->X.G w->s.c.inv w R s.ty) (h:zpz (λy x'=>AL P w0 X n ops rest (s.next y x') Q) (λpv=>Q (.panic [{ v:=pv,recovered:=false }]) s.lost) (s.c.out s.x s.xs))
  (x3:o.guard=none:=by rfl) (x4:∀c,o.op≠ .defer c:=by intro c e;cases e) (hd:zaE (l.take m)=true:=by rfl):AL P w0 X n ops l Y Q:=by
 refine AL.take m hX hK hs hp ?_ hd;rw[hl];exact AL.hand x3 x4 λU a w x2=>zqz (N:=λY'=>AL P w0 X n ops rest Y' Q) hX hC x0 hq x1 h U a w x2
end
def Marks(B:Nat)(w:zj):List jF->Prop
 | []=>True
 |d::ds=>(∃g,d={ target:=.collected g,args:=#[] }/\B<=g/\w.heap[g]? =some (.deferred (some []))/\∀e∈ds,∀g',e.target=.collected g'->g'≠g)/\Marks B w ds
theorem Marks.keep{B:Nat}{w w':zj}(hk:∀g:Nat,w.heap[g]? =some (Obj.deferred (some []))->w'.heap[g]? =some (Obj.deferred (some []))):∀{ds:List jF},Marks B w ds->Marks B w' ds
 | [],_=>trivial
 |_::_,⟨⟨g,h1,h2,h3,h4⟩,h⟩=>⟨⟨g,h1,h2,hk g h3,h4⟩,Marks.keep hk h⟩
theorem Marks.mem{B:Nat}{w:zj}:∀{ds:List jF}{e:jF},Marks B w ds->e∈ds->∃g,e={ target:=.collected g,args:=#[] }/\B<=g/\w.heap[g]? =some (.deferred (some []))
 |d::ds,e,⟨⟨g,h1,h2,h3,_⟩,h⟩,he=>by
  rcases zE.1 he with rfl|he
  .exact⟨g,h1,h2,h3⟩
  .exact Marks.mem h he
theorem Marks.shut{B g:Nat}{w:zj}{o:Obj}:∀{ds:List jF},Marks B w ds->(∀e∈ds,∀g',e.target=.collected g'->g'≠g)->Marks B (w.putObj g o) ds
 | [],_,_=>trivial
 |_::_,⟨⟨g1,h1,h2,h3,h4⟩,h⟩,hn=>⟨⟨g1,h1,h2,(xD (hn _ (yN ..) g1 (by rw[h1]))).trans h3,h4⟩,Marks.shut h λe he=>hn e (yO _ he)⟩
theorem zgb{P:zA}{K:Kn}{w0:zj}{X:Ownr}{Y:AS}{U:Nat->zi}{a:Act}{m:Nat}(hK:KnOk P X.G K)(hX:X.Ok w0){fn:Func}{own:Option zy}{t:Ty}{x:t.T}
  (hd:Done K.T fn.results.toList Y own t x) (hR:own=none\/∀g,¬X.R g) {R:gv->zj->Prop}:∀(ds:List jF)(w:zj),Seen w0 X Y U a w->Marks w0.heap.size w ds->
  (∀w' v,xW w0.heap.size w w'->(t=.unit\/zcd w' X.X w0.heap.size own t x v)->R (.returned v) w')->LeavesInM yU m P fn a.tmps R ds .returning w
 | [],w,h,_,hQ=>by
  obtain⟨v,h1,h2⟩:=zfp hK hX h hd hR;exact⟨v,h1,hQ w v (zY _ _) h2⟩
 |d::ds,w,h,⟨⟨g,h1,h2,h3,h4⟩,hm⟩,hQ=>by
  subst h1;refine⟨by simp,.inl ⟨_,_,rfl,run_takeDeferred h3,?_⟩⟩;exact zgb hK hX hd hR ds _ (h.keepC (zdK h3)) (hm.shut h4) λw' v hb hr=>hQ w' v ((zcu h3 h2).trans hb) hr
abbrev Ownr.marked(G:zj->Prop)(O:Nat->Prop)(ds:List jF)(Bf:Nat->Prop):Ownr:=⟨G,O,0,λ_=>0,ds,none,Bf⟩
def noB:Nat->Prop:=λ_=>False
def ownB(E:Owns)(U:Nat->zi)(g:Nat):Prop:=∃i o,zq E i=some o/\zai (U i)=some g
theorem OwnRep.isCells{w:zj}{O:Nat->Prop}{U:Nat->zi}{B:Nat}{bv:zi}{o:OObj}(h:yZ w O U B bv o){g:Nat}(hg:zai bv=some g):∀d,w.heap[g]? ≠some (.deferred d):=by
 intro d hd;cases o with
 |box t x=>
  obtain⟨g',cs,ty,rfl,_,h2,_⟩:=h;cases hg;rw[h2]at hd;cases hd
 |buf te t xs=>
  obtain⟨cs,_,h2,_⟩:=h;rcases h2.2 with ⟨rfl,_⟩|⟨g',cap,cur,rfl,_,h5,_⟩
  .cases hg
  .cases hg;rw[h5]at hd;cases hd
 |hbox ty vs=>
  obtain⟨g',cs,rfl,_,h2,_⟩:=h;cases hg;rw[h2]at hd;cases hd
 |mp m I=>
  obtain⟨ms,ck,rfl,_,h2,_⟩:=h;cases hg;rw[h2]at hd;cases hd
section
variable {P:zA}{w0 w w':zj}{G:zj->Prop}{O:Nat->Prop}{n m:Nat}{Y Y':AS}{U U':Nat->zi}{a a':Act}{ds ds':List jF}{Bo:Nat->Prop}{Q:Exit->AS->Prop}
theorem zbW{Bf:Nat->Prop}{g:Nat}(h:(Ownr.marked G O ds Bf).R g):Bf g:=h.elim (λ⟨_,h,_⟩=>absurd h (yS _)) id
theorem Sim.isCells{X:Ownr}(h:Sim w0 X n Y U a w){g:Nat}(hg:ownB Y.E U g):∀d,w.heap[g]? ≠some (.deferred d):=by
 obtain⟨i,o,h1,h2⟩:=hg;exact(h.own i o h1).isCells h2
theorem zwd(h:Sim w0 (Ownr.marked G O ds Bo) n Y U a w):Sim w (Ownr.marked G O ds (ownB Y.E U)) n Y U a w:=
 ⟨h.sz,h.df,jw _ _,h.fr,h.own,λi o g hi hg=>.inr (.inr ⟨i,o,hi,hg⟩),h.inj,h.lt,⟨zk _,λi hi=>absurd hi (yS _)⟩,h.hb,h.hE⟩
theorem zfa(h:Sim w0 (Ownr.marked G O ds Bo) n Y U a w){g:Nat}(hg:ownB Y.E U g):(w0.heap.size<=g\/Bo g)/\g<w.heap.size:=by
 obtain⟨i,o,h1,h2⟩:=hg;exact⟨(h.new i o g h1 h2).imp id λhr=>zbW hr,((h.own i o h1).block_lt h2).2⟩
theorem zuJ(h:Sim w0 (Ownr.marked G O ds Bo) n Y U a w){R:Nat->Prop}(hR:∀g,R g->w0.heap.size<=g\/Bo g)(hk:Kept R w w'):Kept (Ownr.marked G O ds' Bo).R w0 w':=
 ⟨hk.os.trans h.bel.os,hk.tape.trans h.bel.tape,hk.output.trans h.bel.output,zL h.bel.size hk.size,λk x0 hn=>
   (hk.block k (zF x0 h.bel.size) λhr=>(hR k hr).elim (λh=>by omega) λh=>hn (.inr h)).trans (h.bel.block k x0 λhr=>hn (.inr (zbW hr)))⟩
theorem okM(hX:(Ownr.marked G O ds Bo).Ok w0)(h:Sim w0 (Ownr.marked G O ds Bo) n Y U a w):(Ownr.marked G O ds' (ownB Y.E U)).Ok w:=
 ⟨λg hg=>⟨zF (hX.1 g hg).1 h.bel.size,λhr=>(zfa h (zbW hr)).1.elim (λh1=>by have:=(hX.1 g hg).1;omega) λh1=>(hX.1 g hg).2 (.inr h1)⟩,λg hr=>(zfa h (zbW hr)).2,
   λw' hk=>hX.2.2 w' (zuJ h (λg hr=>(zfa h (zbW hr)).1) hk)⟩
theorem zwc(h:Sim w0 (Ownr.marked G O ds Bo) n Y U a w)(h':Sim w (Ownr.marked G O ds' (ownB Y.E U)) m Y' U' a' w'):Sim w0 (Ownr.marked G O ds' Bo) m Y' U' a' w':=
 ⟨h'.sz,h'.df,zuJ h (λg hr=>(zfa h (zbW hr)).1) h'.bel,h'.fr,h'.own,λi o g hi hg=>by
   rcases h'.new i o g hi hg with h1|h1
   .exact .inl (zL h.bel.size h1)
   .exact(zfa h (zbW h1)).1.imp id .inr,h'.inj,h'.lt,⟨zk _,λi hi=>absurd hi (yS _)⟩,h'.hb,h'.hE⟩
theorem zuz(h:Sim w0 (Ownr.marked G O ds Bo) n Y U a w){R:Nat->Prop}(hR:∀g,R g->ownB Y.E U g)(hk:Kept R w w'){es:List jF}(hm:Marks w0.heap.size w es):Marks w0.heap.size w' es:=
 hm.keep λg hg=>(hk.block g (zv.1 hg).1 λhr=>h.isCells (hR g hr) _ hg).trans hg
def AWPD(P:zA)(w0:zj)(G:zj->Prop)(O Bo:Nat->Prop)(n:Nat)(c:Code)(Y:AS)(Q:Exit->AS->Prop):Prop:=
 ∀ds U a w,Sim w0 (Ownr.marked G O ds Bo) n Y U a w->Marks w0.heap.size w ds->c.wpIn yU 0 P (λe a' w'=>∃Y' U' ds',Sim w0 (Ownr.marked G O ds' Bo) n Y' U' a' w'/\Marks w0.heap.size w' ds'/\Q e Y') a w
theorem AWPD.of{c:Code}(hX:∀ds,(Ownr.marked G O ds Bo).Ok w0)(h:∀W ds Bf,(Ownr.marked G O ds Bf).Ok W->AWP P W (Ownr.marked G O ds Bf) n c Y Q):AWPD P w0 G O Bo n c Y Q:=
 λds U a w hs hm=>zT (h w ds _ (okM (hX ds) hs) U a w (zwd hs)) λe a' w'⟨Y',U',h1,h2⟩=>⟨Y',U',ds,zwc hs h1,zuz hs (λg hr=>zbW hr) h1.bel hm,h2⟩
theorem AWPD.seq{x y:Code}(h:AWPD P w0 G O Bo n x Y (zil (λY'=>AWPD P w0 G O Bo n y Y' Q) Q)):AWPD P w0 G O Bo n (.seq x y) Y Q:=
 λds U a w hs hm=>wpIn_seq (zT (h ds U a w hs hm) λe a w⟨Y',U',ds',h1,h2,h3⟩=>by
  cases e with
  |normal=>exact h3 ds' U' a w h1 h2
  |_=>exact⟨Y',U',ds',h1,h2,h3⟩)
theorem AWPD.block{id:Nat}{c:Code}(h:AWPD P w0 G O Bo n c Y (zhk id Q)):AWPD P w0 G O Bo n (.block id c) Y Q:=
 λds U a w hs hm=>wpIn_block (zT (h ds U a w hs hm) λe a w⟨Y',U',ds',h1,hm',h2⟩=>by
  cases e with
  |exit j=>
   simp only[zhk,cond_eq_ite,qE]at h2;simp only[Exit.inBlock];split
   .rename_i hj;rw[if_pos hj]at h2;exact⟨Y',U',ds',h1,hm',h2⟩
   .rename_i hj;rw[if_neg hj]at h2;exact⟨Y',U',ds',h1,hm',h2⟩
  |_=>exact⟨Y',U',ds',h1,hm',h2⟩)
theorem AWPD.fit{c:Code}{Y2:AS}(hf:Fit Y Y2)(h:AWPD P w0 G O Bo n c Y2 Q):AWPD P w0 G O Bo n c Y Q:=
 λds U a w hs hm=>h ds U a w (hs.fit hf (zk _)) hm
theorem AWPD.loop{c:Code}{ι:Type}(S:ι->AS)(J:ι->Prop)(μ:ι->Nat)(i0:ι)(hJ:J i0)(h0:Fit Y (S i0))
  (round:∀i,J i->AWPD P w0 G O Bo n c (S i) (zil (λY'=>∃i',J i'/\μ i'<μ i/\Fit Y' (S i')) Q)):AWPD P w0 G O Bo n (.loop c) Y Q:=by
 intro ds U a w hs hm;exact zdB (λi a w=>J i/\∃ds U,Sim w0 (Ownr.marked G O ds Bo) n (S i) U a w/\Marks w0.heap.size w ds) μ i0 ⟨hJ,ds,U,hs.fit h0 (zk _),hm⟩ λi a w⟨hj,ds,U,h1,hm⟩=>zT (round i hj ds U a w h1 hm) λe a' w'⟨Y',U',ds',h2,x0,h3⟩=>by
  cases e with
  |normal=>obtain⟨i',x2,x1,hf⟩:=h3;exact⟨i',x1,x2,ds',U',h2.fit hf (zk _),x0⟩
  |_=>exact⟨Y',U',ds',h2,x0,h3⟩
end
def zjU(K:Nat):V->Bool
 |⟨.optr _,p⟩=>zO p.i K
 |⟨.hptr,x⟩=>zO x.1 K
 |⟨.obuf _,_⟩=>false
 |⟨.cond _,_⟩=>false
 |⟨.hcons _ _,_⟩=>false
 |_=>true
theorem RepV.rehand{w:zj}{O:Nat->Prop}{K:Nat}{U U':Nat->zi}(x0:∀i,i<K->∀g,zai (U i)=some g->zai (U' i)=some g):∀(v:V){u:zi},zjU K v=true->RepV w O U v.t v.x u->RepV w O U' v.t v.x u:=by
 rintro ⟨t,x⟩ u h hr;cases t<;>first
  |exact hr
  |(cases h;done)
  |(obtain⟨g,h1,h2⟩:=hr
    exact⟨g,x0 _ (zb h) g h1,h2⟩)
def nA0:Act:={ tmps:=#[],defers:=[] }
theorem zk6{P:zA}{K:Kn}{n:Nat}{G:zj->Prop}(hK:KnOk P G K){f:yR}{fn:Func}{c:Code}{ctr:Ctr}(hf:P.funcs[f]? =some fn)(hb:fn.body=some c)(hn:fn.ntmps=n)
  (x7:∀(zas:Array zi)(w:zj),(callFunc f zas).run P w=.ok (.enter f zas) w) (hd:zbf ctr.args=true) (hlen:ctr.args.length<=n) (x4:ctr.res=.unit->False) (x3:ctr.own=none)
  (h:∀(w0:zj)(O:Nat->Prop),(∀ds,(Ownr.marked G O ds noB).Ok w0)->∀xs:Args ctr.args,allP (ctr.pre xs)->AWPD P w0 G O noB n c (zhz ctr.args xs) (λe Y=>(e=.normal\/e=.ret)/\Done K.T fn.results.toList Y none ctr.res (ctr.out xs))):CtrOk P G f ctr:=by
 refine⟨x7,λw O xs vs hO x1 hp hG=>?_⟩;have x6:=zc5 _ _ _ x1;have hX:∀ds,(Ownr.marked G O ds noB).Ok w:=λds=>⟨λg hg=>⟨hO g hg,λh=>zbW h⟩,λg hg=>(zbW hg).elim,λw' hk=>hK.st w w' hG (hk.below λg h=>zbW h)⟩;refine(callsIn_wide (n:=0)).1 (callsIn_of_wp_marks hf hb trivial ?_ rfl);have x2:Sim w (Ownr.marked G O [] noB) n (zhz ctr.args xs) (λ_=>undef) { tmps:=vs.toArray++zG (fn.ntmps-vs.toArray.size) undef,defers:=[] } w:=by
  have hE:OSet (Ownr.marked G O [] noB) (zhz ctr.args xs).E (λ_=>undef)=O:=by
   funext g
   apply propext;constructor
   .rintro (h|⟨i,o,h,_⟩)
    .exact h
    .cases h
   .exact λh=>.inl h
  refine⟨by simp[hn,x6];omega,rfl,jw _ _,λs=>?_,λi o h=>(by cases h),λi o g h=>(by cases h),λi j oi oj h=>(by cases h),λi o h=>(by cases h),⟨zk _,λi h=>absurd h (yS _)⟩,λs=>?_,λi o h=>(by cases h)⟩
  .rw[hE];have:=zcs (U:=λ_=>undef) ctr.args xs vs [] (zg (fn.ntmps-vs.length) undef) hd x1 s;simp only[qn,jX]at this;have e:(vs.toArray++zG (fn.ntmps-vs.toArray.size) undef)=(vs++zg (fn.ntmps-vs.length) undef).toArray:=by simp
   show RepV w O _ _ _ ((vs.toArray++zG (fn.ntmps-vs.toArray.size) undef).getD s undef);rw[e];exact this
  .show(zr (zb1 ctr.args xs 0) s).bound<=0;rw[zbI _ _ _ _ hd];exact zu _
 refine zT (h w O hX xs hp [] _ _ _ x2 trivial) ?_;rintro e a' w' ⟨Y',U',ds',h1,hm,h2,h3⟩;have x0:LeavesInM yU 0 P fn a'.tmps (λe w'=>∃v,e=.returned v/\xW w.heap.size w w'/\zcd w' O w.heap.size ctr.own ctr.res (ctr.out xs) v) a'.defers .returning w':=by
  rw[h1.df];refine zgb (X:=Ownr.marked G O ds' noB) (K:=K) hK (hX ds') h3 (.inl rfl) ds' w' h1.seen hm λw2 v x5 hr=>⟨v,rfl,(h1.bel.below λg h=>zbW h).trans x5,?_⟩;rw[x3];exact hr.resolve_left x4
 rcases h2 with rfl|rfl
 .exact x0
 .exact x0
def rnF:List (Nat×Nat)->Nat->Nat
 | [],i=>i+100
 |(a,b)::r,i=>bif yG a i then b else rnF r i
def rnB:List (Nat×Nat)->Nat->Nat
 | [],j=>j-100
 |(a,b)::r,j=>bif yG b j then a else rnB r j
def rnOk:List (Nat×Nat)->Bool
 | []=>true
 |(_,b)::r=>zO b 100&&r.all (λp=>!yG p.2 b)&&rnOk r
theorem znK:∀(L:List (Nat×Nat))(i:Nat),(∃p∈L,p.2=rnF L i)\/100<=rnF L i
 | [],i=>.inr (by simp only[rnF];omega)
 |(a,b)::r,i=>by
  simp only[rnF,cond_eq_ite,qE];split
  .exact .inl ⟨(a,b),yN ..,rfl⟩
  .rcases znK r i with ⟨p,h1,h2⟩|h
   .exact .inl ⟨p,yO _ h1,h2⟩
   .exact .inr h
theorem zmM:∀(L:List (Nat×Nat))(i:Nat),rnOk L=true->rnB L (rnF L i)=i
 | [],i,_=>by simp only[rnF,rnB];omega
 |(a,b)::r,i,h=>by
  simp only[rnOk,zh]at h;obtain⟨⟨h1,h2⟩,h3⟩:=h;have h1:b<100:=by simpa using h1
  simp only[rnF,rnB,cond_eq_ite,qE];by_cases e:a=i
  .rw[if_pos e,if_pos rfl,e]
  .rw[if_neg e,if_neg]
   .exact zmM r i h3
   .intro e2;rcases znK r i with ⟨p,h4,h5⟩|h4
    .have h6:=yH.1 h2 p h4;rw[h5, <-e2]at h6;simp at h6
    .omega
def rnV(L:List (Nat×Nat)):V->V
 |⟨.optr t,p⟩=>⟨.optr t,{ p with i:=rnF L p.i }⟩
 |⟨.obuf t,j⟩=>⟨.obuf t,rnF L j⟩
 |⟨.hptr,x⟩=>⟨.hptr,(rnF L x.1,x.2)⟩
 |⟨.cond _,_⟩=>⟨.junk,()⟩
 |⟨.hcons _ _,_⟩=>⟨.junk,()⟩
 |v=>v
def rnVs(L:List (Nat×Nat)):List V->List V
 | []=>[]
 |v::r=>rnV L v::rnVs L r
def rnFr(L:List (Nat×Nat)):List (Nat×V)->List (Nat×V)
 | []=>[]
 |(s,v)::r=>(s,rnV L v)::rnFr L r
def rnO(L:List (Nat×Nat)):OObj->OObj
 |.hbox ty vs=>.hbox ty (rnVs L vs)
 |o=>o
def rnE(L:List (Nat×Nat)):List (Nat×Option OObj)->List (Nat×Option OObj)
 | []=>[]
 |(i,some o)::r=>(rnF L i,some (rnO L o))::rnE L r
 |(i,none)::r=>(rnF L i,none)::rnE L r
section
variable {w0 w:zj}{X:Ownr}{n:Nat}{Y:AS}{U:Nat->zi}{a:Act}{L:List (Nat×Nat)}
theorem zkw(hL:rnOk L=true){O:Nat->Prop}:∀(v:V){u:zi},RepV w O U v.t v.x u->RepV w O (λj=>U (rnB L j)) (rnV L v).t (rnV L v).x u:=by
 rintro ⟨t,x⟩ u h;cases t with
 |optr t=>
  obtain⟨g,h1,h2⟩:=h;refine⟨g,?_,h2⟩;show zai (U (rnB L (rnF L x.i)))=some g;rw[zmM L _ hL];exact h1
 |obuf t=>
  show u=U (rnB L (rnF L x));rw[zmM L _ hL];exact h
 |hptr=>
  obtain⟨g,h1,h2⟩:=h;refine⟨g,?_,h2⟩;show zai (U (rnB L (rnF L x.1)))=some g;rw[zmM L _ hL];exact h1
 |cond t=>trivial
 |hcons a b=>trivial
 |_=>exact h
theorem zis(hL:rnOk L=true){O:Nat->Prop}:∀{vs:List V}{cs:List zi},RepH w O U vs cs->RepH w O (λj=>U (rnB L j)) (rnVs L vs) cs
 | [],_,h=>h
 |v::r,_,⟨u,s,h1,h2,h3,h4⟩=>⟨u,s,h1,h2,zkw hL v h3,zis hL h4⟩
theorem znI(o:OObj):(rnO L o).isBuf=o.isBuf:=by cases o<;>rfl
theorem zlH(F:List (Nat×V))(s:Nat):zr (rnFr L F) s=rnV L (zr F s):=by
 induction F with
 |nil=>rfl
 |cons p r ih=>
  obtain⟨d,v⟩:=p;simp only[rnFr,zal];split
  .rfl
  .exact ih
theorem zcw(hL:rnOk L=true):∀(E:List (Nat×Option OObj))(j:Nat)(o':OObj),zq (rnE L E) j=some o'->∃o,j=rnF L (rnB L j)/\zq E (rnB L j)=some o/\o'=rnO L o
 | [],_,_,h=>by cases h
 |(i,q)::r,j,o',h=>by
  have e:rnE L ((i,q)::r)=(rnF L i,q.map (rnO L))::rnE L r:=by cases q<;>rfl
  rw[e,zag]at h;by_cases hj:rnF L i=j
  .rw[if_pos hj]at h;cases q with
   |none=>cases h
   |some o=>
    cases h;subst hj;rw[zmM L i hL,zag,if_pos rfl];exact⟨o,rfl,rfl,rfl⟩
  .rw[if_neg hj]at h;obtain⟨o,h1,h2,h3⟩:=zcw hL r j o' h;refine⟨o,h1,?_,h3⟩;rw[zag,if_neg]
   .exact h2
   .intro e2;rw[<-e2]at h1;exact hj h1.symm
theorem Sim.rename(h:Sim w0 X n Y U a w)(hL:rnOk L=true)(hK:X.K=0){m:Nat}(hF:bndB m (rnFr L Y.F)=true)(hE:bndE m (rnE L Y.E)=true):Sim w0 X n ⟨rnFr L Y.F,rnE L Y.E,m⟩ (λj=>U (rnB L j)) a w:=by
 have hO:∀g,OSet X (rnE L Y.E) (λj=>U (rnB L j)) g->OSet X Y.E U g:=by
  rintro g (hg|⟨j,o',h1,h2⟩)
  .exact .inl hg
  .obtain⟨o,_,h4,_⟩:=zcw hL _ _ _ h1;exact .inr ⟨_,o,h4,h2⟩
 have hk:jk w w (OSet X Y.E U) (OSet X (rnE L Y.E) (λj=>U (rnB L j))):=⟨zu _,λ_ _ _=>rfl,λg _ hg=>hO g hg⟩;refine⟨h.sz,h.df,h.bel,λs=>?_,λj o' hj=>?_,λj o' g hj hg=>?_,λi j oi oj hi hj x0 g=>?_,λj o' hj=>zi3 hE hj,⟨by rw[hK];exact zk _,λi hi=>by rw[hK]at hi;cases hi⟩,λs=>zda hF s,λj o' hj=>(zfy hE hj).2⟩
 .
  rw[zlH];exact zkw hL _ (xF hk _ _ _ (h.fr s))
 .obtain⟨o,_,h2,rfl⟩:=zcw hL _ _ _ hj;have h3:=(h.own _ o h2).keep hk λ_ _=>rfl;cases o with
  |hbox ty vs=>
   obtain⟨g,cs,e,k1,k2,k3⟩:=h3;exact⟨g,cs,e,k1,k2,zis hL k3⟩
  |box t x=>exact h3
  |buf te t xs=>exact h3
  |mp m I=>exact h3
 .obtain⟨o,_,h2,_⟩:=zcw hL _ _ _ hj;exact h.new _ o g h2 hg
 .obtain⟨p,e1,h1,_⟩:=zcw hL _ _ _ hi;obtain⟨q,e2,h2,_⟩:=zcw hL _ _ _ hj;exact h.inj _ _ p q h1 h2 (λe=>x0 (by rw[e1,e2,e])) g
theorem AWPD.rename{P:zA}{G:zj->Prop}{O Bo:Nat->Prop}{c:Code}{Q:Exit->AS->Prop}(L:List (Nat×Nat))(m:Nat)(h:AWPD P w0 G O Bo n c ⟨rnFr L Y.F,rnE L Y.E,m⟩ Q)(hL:rnOk L=true:=by rfl)(hF:bndB m (rnFr L Y.F)=true:=by rfl)(hE:bndE m (rnE L Y.E)=true:=by rfl):AWPD P w0 G O Bo n c Y Q:=
 λds U a w hs hm=>h ds _ a w (hs.rename hL rfl hF hE) hm
end
structure FnTy(P:zA)(t:zy):Prop where
 size:∀w,(sizeOf t).run P w=.ok 1 w
 agg:∀w,(Go.isAgg t).run P w=.ok false w
 alloc:∀(w:zj)(ev:zK->zi)(o:Oper),o.op=.alloc t->(execOp ev o).run P w=.ok (.value (.pointer (some ⟨w.heap.size,0,none⟩))) (w.alloc (.cells #[.nilFunc] t (0,0)))
def zqA:Nat->V->Option V
 |0,⟨.hcons a _,x⟩=>some ⟨a,x.1⟩
 |k+1,⟨.hcons _ b,x⟩=>zqA k ⟨b,x.2⟩
 |_,_=>none
def hlen:Ty->Nat
 |.hcons _ b=>hlen b+1
 |_=>0
def zoJ:Ty->Bool
 |.hcons _ b=>zoJ b
 |.unit=>true
 |_=>false
theorem hcells{w:zj}{O:Nat->Prop}{U:Nat->zi}:∀(t:Ty)(x:t.T)(u:zi),zoJ t=true->RepV w O U t x u->∃cs:List zi,u=.agg cs.toArray/\cs.length=hlen t/\∀k v,zqA k ⟨t,x⟩=some v->∃c,cs[k]? =some c/\c.oneCell'=true/\RepV w O U v.t v.x c:=by
 intro t
 induction t with
 |hcons a b _ ihb=>
  rintro x u hs ⟨c,s,rfl,hc,h1,h2⟩;obtain⟨cs,e,hl,hk⟩:=ihb x.2 _ hs h2;have e:s=cs:=by
   have:=gW e
   simpa using congrArg wg this
  subst e;refine⟨c::s,rfl,by simp[hlen,hl],λk v hv=>?_⟩;cases k with
  |zero=>cases hv;exact⟨c,rfl,hc,h1⟩
  |succ k=>exact hk k v hv
 |unit=>
  rintro x u _ h;obtain⟨cs,e,h⟩:=(jf rfl).1 h;subst h;exact⟨[],e,rfl,λk v hv=>by cases k<;>cases hv⟩
 |_=>intro x u h;cases h
section
variable {P:zA}{K:Kn}{w0:zj}{X:Ownr}{n:Nat}{F:List (Nat×V)}{E:Owns}{nx:Nat}{Q:Exit->AS->Prop}{ops:Array Oper}
theorem zg7:∀(k:Nat)(t:Ty)(x:t.T)(v:V),zqA k ⟨t,x⟩=some v->v.bound<=(⟨t,x⟩:V).bound
 |0,.hcons a b,x,v,h=>by cases h;exact Nat.le_max_left _ _
 |k+1,.hcons a b,x,v,h=>zL (zg7 k b x.2 v h) (Nat.le_max_right _ _)
 |0,.bool,_,_,h|0,.int _,_,_,h|0,.str,_,_,h|0,.unit,_,_,h|0,.pair _ _,_,_,h|0,.arr _ _,_,_,h|0,.slice _,_,_,h|0,.junk,_,_,h|0,.lit,_,_,h|0,.vptr _,_,_,h|0,.optr _,_,_,h|0,.obuf _,_,_,h|0,.tup _ _,_,_,h|0,.cond _,_,_,h|0,.clo _ _,_,_,h|0,.mapL,_,_,h|0,.hptr,_,_,h|0,.cptr _ _ _,_,_,h=>by cases h
 |_+1,.bool,_,_,h|_+1,.int _,_,_,h|_+1,.str,_,_,h|_+1,.unit,_,_,h|_+1,.pair _ _,_,_,h|_+1,.arr _ _,_,_,h|_+1,.slice _,_,_,h|_+1,.junk,_,_,h|_+1,.lit,_,_,h|_+1,.vptr _,_,_,h|_+1,.optr _,_,_,h|_+1,.obuf _,_,_,h|_+1,.tup _ _,_,_,h|_+1,.cond _,_,_,h|_+1,.clo _ _,_,_,h|_+1,.mapL,_,_,h|_+1,.hptr,_,_,h|_+1,.cptr _ _ _,_,_,h=>by cases h
theorem zbX{o:Oper}{d:Nat}(hd:o.dst=some d)(x2:zO d n=true){v:V}(hb:v.bound<=nx){N:AS->Prop}(h:N ⟨(d,v)::F,E,nx⟩){U:Nat->zi}{a:Act}{w:zj}(hs:Sim w0 X n ⟨F,E,nx⟩ U a w){u:zi}(x0:(execOp a.eval o).run P w=.ok (.value u) w)(hr:RepV w (OSet X E U) U v.t v.x u):
  o.wp P a w (λa' w'=>∃Y' U',Sim w0 X n Y' U' a' w'/\N Y') (λe a' w'=>e≠ .outgrown/\∃Y' U',Sim w0 X n Y' U' a' w'/\Q e Y'):=by
 have x1:d<n:=by simpa using x2
 refine zba (u:=u) (w':=w) x0 ?_;rw[hd];exact⟨_,U,hs.put (zY _ _) hr hb x1,h⟩
def zrY(P:zA)(t:zy)(m:Nat):Prop:=∀(cs:List zi)(k:Nat)(c:zi)(w:zj)(ev:zK->zi)(o:Oper)(x i:zK),cs.length=m->cs[k]? =some c->o.op=.index t x i->ev x=.agg cs.toArray->ev i=.int .i64 (k:Int)->(execOp ev o).run P w=.ok (.value c) w
theorem zaJ{t:zy}{m:Nat}(ht:zrY P t m){o:Oper}{rest:List Oper}{x i:zK}(ho:o.op=.index t x i)(x0:o.guard=none){d:Nat}(hd:o.dst=some d)(x1:zO d n=true)(k:Nat){hv:V}(hx:evO F x=hv)(x2:zoJ hv.t=true)(hm:hlen hv.t=m)(hi:evO F i=⟨.int .i64,((k:Nat):Int)⟩){v:V}(hl:zqA k hv=some v)
  (h:AL P w0 X n ops rest ⟨(d,v)::F,E,nx⟩ Q):AL P w0 X n ops (o::rest) ⟨F,E,nx⟩ Q:=by
 obtain⟨Z,y⟩:=hv;refine AL.hand x0 (λc e=>by rw[ho]at e;cases e) λU a w hs=>?_;have h1:=hs.ops x;rw[show evO (AS.mk F E nx).F x=_ from hx]at h1;obtain⟨cs,e1,e2,e3⟩:=hcells Z y _ x2 h1;obtain⟨c,c1,_,c3⟩:=e3 k v hl;have h2:=hs.ops i;rw[show evO (AS.mk F E nx).F i=_ from hi]at h2;have h3:=(xE (t:=.int .i64) rfl).1 h2;have hb:(⟨Z,y⟩:V).bound<=nx:=by
  have:=zdt hs.hb x;rwa[show evO (AS.mk F E nx).F x=_ from hx]at this
 exact zbX hd x1 (zL (zg7 k Z y v hl) hb) (N:=λY'=>AL P w0 X n ops rest Y' Q) h hs (ht cs k c w a.eval o x i (e2.trans hm) c1 ho e1 (jN h3)) c3
def zra(P:zA)(t:zy):Prop:=∀(w:zj)(ev:zK->zi)(o:Oper)(x:zK)(op:BinOp)(t2:zy)(b:Bool),(op=.eql/\b=true\/op=.neq/\b=false)->o.op=.binOp op t x (.const (.pointer none)) t2->(∀y,ev (.const y)=y)->
 (ev x=.pointer none->(execOp ev o).run P w=.ok (.value (.bool b)) w)/\∀A,ev x=.pointer (some A)->(execOp ev o).run P w=.ok (.value (.bool !b)) w
def zmc:V->Option Bool
 |⟨.lit,.pointer none⟩=>some true
 |⟨.vptr _,_⟩=>some false
 |_=>none
theorem zdS{t:zy}(ht:zra P t){o:Oper}{rest:List Oper}{x:zK}{op:BinOp}{t2:zy}{b:Bool}(x2:op=.eql/\b=true\/op=.neq/\b=false)(ho:o.op=.binOp op t x (.const (.pointer none)) t2)(x1:o.guard=none){d:Nat}(hd:o.dst=some d)(x0:zO d n=true){hv:V}(hx:evO F x=hv){q:Bool}(hq:zmc hv=some q)
  (h:AL P w0 X n ops rest ⟨(d,⟨.bool,q==b⟩)::F,E,nx⟩ Q):AL P w0 X n ops (o::rest) ⟨F,E,nx⟩ Q:=by
 refine AL.hand x1 (λc e=>by rw[ho]at e;cases e) λU a w hs=>?_;have h1:=hs.ops x;rw[show evO (AS.mk F E nx).F x=_ from hx]at h1;obtain⟨r1,r2⟩:=ht w a.eval o x op t2 b x2 ho λ_=>rfl;revert h1 hq;unfold zmc;split
 .intro hq h1;cases hq;refine zbX hd x0 (zk _) (N:=λY'=>AL P w0 X n ops rest Y' Q) h hs (r1 h1) ?_;cases b<;>exact qR
 .rename_i Z y;intro hq h1;cases hq;obtain⟨g,off,cs,e,_⟩:=h1;refine zbX hd x0 (zk _) (N:=λY'=>AL P w0 X n ops rest Y' Q) h hs (r2 _ e) ?_;cases b<;>exact qR
 .intro hq;cases hq
theorem zjb{o:Oper}{rest:List Oper}{f:yR}{args:Array zK}{ts:Array zy}(ho:o.op=.call ⟨.value (.func f),args,ts⟩)(x2:o.guard=none)(x4:∀(zas:Array zi)(w:zj),(callFunc f zas).run P w=.ok (.enter f zas) w){d:Nat}(hd:o.dst=some d)(x3:zO d n=true){v:V}(hb:v.bound=0)
  (x0:∀U a w,Sim w0 X n ⟨F,E,nx⟩ U a w->Calls P f (args.toList.map a.eval).toArray w λe w'=>∃u,e=.returned u/\xW w.heap.size w w'/\RepV w' (OSet X E U) U v.t v.x u)
  (h:AL P w0 X n ops rest ⟨(d,v)::F,E,nx⟩ Q):AL P w0 X n ops (o::rest) ⟨F,E,nx⟩ Q:=by
 have x1:d<n:=by simpa using x3
 refine AL.hand x2 (λc e=>by rw[ho]at e;cases e) λU a w hs=>zel ho x4 ((x0 U a w hs).mono λe w'⟨u,h1,h2,h3⟩=>⟨u,h1,?_⟩);rw[hd];exact⟨_,U,hs.put h2 h3 (by rw[hb];exact zk _) x1,h⟩
end
structure OpEq(P:zA)(o o':Oper):Prop where
 dst:o.dst=o'.dst
 after:o.after=o'.after
 guard:o.guard=o'.guard
 run:∀(ev:zK->zi)(w:zj),(execOp ev o).run P w=(execOp ev o').run P w
theorem OpEq.refl{P:zA}(o:Oper):OpEq P o o:=⟨rfl,rfl,rfl,λ_ _=>rfl⟩
def OpsEq(P:zA):List Oper->List Oper->Prop
 | [],[]=>True
 |o::l,o'::l'=>OpEq P o o'/\OpsEq P l l'
 |_,_=>False
inductive OpsI(P:zA):List Oper->List Oper->Prop where
 |nil:OpsI P [] []
 |cons {o o':Oper}{l l':List Oper} (h:OpEq P o o') (t:OpsI P l l'):OpsI P (o::l) (o'::l')
theorem OpsI.eq{P:zA}{l l':List Oper}(h:OpsI P l l'):OpsEq P l l':=by
 induction h with
 |nil=>trivial
 |cons h _ ih=>exact⟨h,ih⟩
theorem OpsEq.get{P:zA}:∀{l l':List Oper},OpsEq P l l'->l.length=l'.length/\∀(i:Nat)(o:Oper),l[i]? =some o->∃o',l'[i]? =some o'/\OpEq P o o'
 | [],[],_=>⟨rfl,λi o h=>by simp at h⟩
 | [],_::_,h=>h.elim
 |_::_,[],h=>h.elim
 |x::l,x'::l',⟨h1,h2⟩=>by
  obtain⟨h3,h4⟩:=h2.get;refine⟨by simp[h3],λi o h=>?_⟩;cases i with
  |zero=>cases h;exact⟨x',rfl,h1⟩
  |succ i=>exact h4 i o (by simpa using h)
theorem OpEq.wp{P:zA}{o o':Oper}(h:OpEq P o o'){a:Act}{w:zj}{N:Act->zj->Prop}{Q:Exit->Act->zj->Prop}(hw:o'.wp P a w N Q):o.wp P a w N Q:=by
 unfold jV at hw ⊢;rw[h.run];revert hw;generalize (execOp a.eval o').run P w=x;unfold Oper.upon;rw[h.dst];exact id
section
variable {P:zA}{ops ops':Array Oper}
theorem ziB(h:OpsEq P ops.toList ops'.toList):ops.size=ops'.size/\(∀(i:Nat)(o:Oper),ops[i]? =some o->∃o',ops'[i]? =some o'/\OpEq P o o')/\∀(i:Nat)(o':Oper),ops'[i]? =some o'->∃o,ops[i]? =some o/\OpEq P o o':=by
 obtain⟨h1,h2⟩:=h.get;have h1:ops.size=ops'.size:=h1;have h3:∀(i:Nat)(o:Oper),ops[i]? =some o->∃o',ops'[i]? =some o'/\OpEq P o o':=λi o ho=>by
  obtain⟨o',h4,h5⟩:=h2 i o (by simpa using ho);exact⟨o',by simpa using h4,h5⟩
 refine⟨h1,h3,λi o' x0=>?_⟩;have hi:i<ops.size:=by rw[h1];exact(zv.1 x0).1
 obtain⟨o2,h4,h5⟩:=h3 i _ (xG hi);rw[x0]at h4;cases h4;exact⟨_,xG hi,h5⟩
theorem zjc(h:OpsEq P ops.toList ops'.toList)(tmps:Array zi):yielded ops tmps=yielded ops' tmps:=by
 obtain⟨_,h2,h3⟩:=ziB h
 funext j
 unfold yielded;cases ho:ops[j]? with
 |some o=>
  obtain⟨o',h4,h5⟩:=h2 j o ho;simp only[h4,Option.bind_some,h5.dst]
 |none=>
  cases ho':ops'[j]? with
  |none=>rfl
  |some o'=>
   obtain⟨o,h4,_⟩:=h3 j o' ho';rw[ho]at h4;cases h4
theorem zfG(h:OpsEq P ops.toList ops'.toList){md:gt}{x0:Array Bool}{j:Nat}:j∈qG md ops x0↔j∈qG md ops' x0:=by
 obtain⟨_,h2,h3⟩:=ziB h;rw[mem_ready,mem_ready];constructor
 .rintro ⟨h4,o,h5,h6⟩;obtain⟨o',h7,h8⟩:=h2 j o h5;exact⟨h4,o',h7,λe he=>h6 e (by rw[h8.after];exact he)⟩
 .rintro ⟨h4,o',h5,h6⟩;obtain⟨o,h7,h8⟩:=h3 j o' h5;exact⟨h4,o,h7,λe he=>h6 e (by rw[<-h8.after];exact he)⟩
theorem zmB(h:OpsEq P ops.toList ops'.toList){Q:Exit->Act->zj->Prop}(x3:¬ux Q){md:gt}:∀(x1:Nat){x0:Array Bool}{a:Act}{w:zj},wpAny P md ops' Q x1 x0 a w->wpAny P md ops Q x1 x0 a w:=by
 have x2:∀{x0:Array Bool},qG md ops x0=[]↔qG md ops' x0=[]:=λ{x0}=>by
  rw[jy,jy];exact⟨λh1 i hi=>h1 i ((zfG h).2 hi),λh1 i hi=>h1 i ((zfG h).1 hi)⟩
 intro x1
 induction x1 with
 |zero=>intro x0 a w hw;exact⟨x2.2 hw.1,hw.2⟩
 |succ x1 ih=>
  intro x0 a w hw;refine⟨λh1=>hw.1 (x2.1 h1),λi hi=>?_⟩;have h2:=hw.2 i ((zfG h).1 hi);obtain⟨_,o,ho,_⟩:=mem_ready.1 hi;obtain⟨_,h3,_⟩:=ziB h;obtain⟨o',h4,h5⟩:=h3 i o ho;unfold wpOp at h2 ⊢;rw[ho];rw[h4]at h2;simp only at h2 ⊢;have x4:zX o (yielded ops a.tmps)=zX o' (yielded ops' a.tmps):=by
   rw[zjc h];unfold zX;rw[h5.guard]
  rw[x4];split at h2
  .rename_i hc;rw[if_pos hc];rcases h2 with h2|⟨_,h2⟩
   .exact .inl (h5.wp (wi (λa w h=>ih h) h2))
   .exact absurd h2 x3
  .rename_i hc;rw[if_neg hc,h5.dst];exact ih h2
end
section
variable {P:zA}{K:Kn}{w0:zj}{X:Ownr}{n:Nat}{Y:AS}{Q:Exit->AS->Prop}{ops:Array Oper}
theorem zdx{l':List Oper}(x0:OpsI P ops.toList l')(hm:P.follows .mixedOrders=true)(hX:X.Ok w0)(hK:KnOk P X.G K){id:Nat}(m:Nat)(hB:zkV l'.toArray m=true){r1 r2:List Prop×AS}(h1:zi7 K n l'.toArray (l'.take m) Y=some r1)(h2:aSeq K n l'.toArray (l'.drop m) r1.2=some r2)
  (x3:allP r1.1) (x2:allP r2.1) (hq:Q .normal r2.2) (hd:zaE ops.toList=true:=by rfl):AWP P w0 X n (.region id ops true) Y Q:=λU a w h=>by
 have x1:=x0.eq;exact zT (wpIn_region_any hm (zbc (R:=λe a w=>e=.normal/\∃U',Sim w0 X n r2.2 U' a w) zbw hd _ (by
  rw[(ziB x1).1];exact zmB x1 zbw _ (ziS hK hX h hB h1 h2 x3 x2 λU' _ _ h'=>⟨rfl,U',h'⟩)))) λe a w⟨he,U',h'⟩=>by
   subst he;exact⟨r2.2,U',h',hq⟩
theorem AL.step{o o':Oper}{rest:List Oper}(x1:OpEq P o o')(hX:X.Ok w0)(hK:KnOk P X.G K){r:List Prop×AS}(hs:zhH K n ops o' Y=some r)(hp:allP r.1)(h:AL P w0 X n ops rest r.2 Q)(x2:o.guard=none:=by rfl)(x4:∀c,o.op≠ .defer c:=by intro c e;cases e):AL P w0 X n ops (o::rest) Y Q:=by
 refine AL.hand x2 x4 λU a w x0=>x1.wp ?_;have h1:=zgq (ops:=ops) (N:=λa' w'=>∃Y' U',Sim w0 X n Y' U' a' w'/\AL P w0 X n ops rest Y' Q) (R:=λe a' w'=>e≠ .outgrown/\∃Y' U',Sim w0 X n Y' U' a' w'/\Q e Y') hK hX x0 hs hp λU' a' w' h2=>⟨r.2,U',h2,h⟩;have x3:o'.guard=none:=by rw[<-x1.guard];exact x2
 simp only[zX,x3,if_true]at h1;rcases h1 with h1|⟨_,h1⟩
 .exact h1
 .obtain⟨_,_,h2,_⟩:=h1;exact absurd rfl h2
end
section
variable {P:zA}{ops ops':Array Oper}{d:Nat}{src:zK}
theorem zhd{a:Act}{v:zi}{x:zK}(h:x≠ .tmp d):(a.put (some d) v).eval x=a.eval x:=by
 cases x with
 |tmp t=>
  have:d≠t:=λe=>h (by rw[e]);show(a.tmps.setIfInBounds d v).getD t undef=a.tmps.getD t undef;simp only[yA,Array.getElem?_setIfInBounds_ne this]
 |_=>rfl
theorem zp4{a:Act}{v x:zi}{q:Option Nat}(h:q≠some d):(a.put (some d) v).put q x=(a.put q x).put (some d) v:=by
 cases q with
 |none=>rfl
 |some e=>
  have:d≠e:=λh'=>h (by rw[h']);show({ a with tmps:=(a.tmps.setIfInBounds d v).setIfInBounds e x }:Act)={ a with tmps:=(a.tmps.setIfInBounds e x).setIfInBounds d v };rw[wO _ _ this]
structure FlOp(P:zA)(d:Nat)(x1:zK)(o o':Oper):Prop where
 dst:o.dst=o'.dst
 guard:o.guard=none
 guard':o'.guard=none
 fwd:∀e∈o.after,e∈o'.after
 bwd:∀e∈o'.after,e∈o.after\/e.on=0
 run:∀(ev:zK->zi)(w:zj),(execOp ev o).run P w=(execOp ev o').run P w
 nd:o.dst≠some d
 ns:∀t,x1=.tmp t->o.dst≠some t
 sees:(∃e∈o.after,e.on=0/\qX .any e=true)\/∀ev x0:zK->zi,(∀x,x≠ .tmp d->ev x=x0 x)->execOp ev o=execOp x0 o
theorem FlOp.of_eq{o o':Oper}(h:OpEq P o o')(hg:o.guard=none)(nd:o.dst≠some d)(ns:∀t,src=.tmp t->o.dst≠some t)(sees:(∃e∈o.after,e.on=0/\qX .any e=true)\/∀ev x0:zK->zi,(∀x,x≠ .tmp d->ev x=x0 x)->execOp ev o=execOp x0 o):FlOp P d src o o':=
 ⟨h.dst,hg,by rw[<-h.guard];exact hg,λe he=>by rw[<-h.after];exact he,λe he=>.inl (by rw[h.after];exact he),h.run,nd,ns,sees⟩
theorem FlOp.edge{o:Oper}(k:Nat)(hg:o.guard=none)(nd:o.dst≠some d)(ns:∀t,src=.tmp t->o.dst≠some t)(sees:(∃e∈o.after,e.on=0/\qX .any e=true)\/∀ev x0:zK->zi,(∀x,x≠ .tmp d->ev x=x0 x)->execOp ev o=execOp x0 o):FlOp P d src o { o with after:=o.after++ #[{ (o.after.getD k default) with on:=0 }] }:=
 ⟨rfl,hg,hg,λe he=>fF.2 (.inl he),λe he=>(fF.1 he).imp id λh=>by rw[Array.mem_singleton.1 h],λ_ _=>rfl,nd,ns,sees⟩
inductive FlL(P:zA)(d:Nat)(x0:zK):List Oper->List Oper->Prop where
 |nil:FlL P d x0 [] []
 |cons {o o':Oper}{l l':List Oper} (h:FlOp P d x0 o o') (t:FlL P d x0 l l'):FlL P d x0 (o::l) (o'::l')
theorem FlL.get{P:zA}{l l':List Oper}(h:FlL P d src l l'):l.length=l'.length/\(∀(i:Nat)(o:Oper),l[i]? =some o->∃o',l'[i]? =some o'/\FlOp P d src o o'):=by
 induction h with
 |nil=>exact⟨rfl,λi o h=>by simp at h⟩
 |cons h _ ih=>
  obtain⟨h3,h4⟩:=ih;refine⟨by simp[h3],λi o h'=>?_⟩;cases i with
  |zero=>cases h';exact⟨_,rfl,h⟩
  |succ i=>exact h4 i o (by simpa using h')
structure FlOk(P:zA)(d:Nat)(x1:zK)(ops x0:Array Oper):Prop where
 size:ops.size=x0.size
 zero:∃o,ops[0]? =some o/\x0[0]? =some o/\o.op=.move x1/\o.dst=some d/\(∀e∈o.after,False)/\o.guard=none
 rest:∀(i:Nat)(o:Oper),i≠0->ops[i]? =some o->∃o',x0[i]? =some o'/\FlOp P d x1 o o'
theorem FlOk.of{o0:Oper}{l l':List Oper}(x0:ops.toList=o0::l)(x1:o0.op=.move src)(hd:o0.dst=some d)(x2:o0.after.toList=[])(hg:o0.guard=none)(h:FlL P d src l l'):FlOk P d src ops (o0::l').toArray:=by
 obtain⟨h1,h2⟩:=h.get;have e:ops=(o0::l).toArray:=by rw[<-x0]
 subst e;refine⟨by simp[h1],⟨o0,by simp,by simp,x1,hd,λe he=>?_,hg⟩,λi o hi ho=>?_⟩
 .have:=uX.2 he;rw[x2]at this;cases this
 .cases i with
  |zero=>exact absurd rfl hi
  |succ i=>
   obtain⟨o',h3,h4⟩:=h2 i o (by simpa using ho);exact⟨o',by simpa using h3,h4⟩
variable {Q:Exit->Act->zj->Prop}
theorem FlOk.ready(h:FlOk P d src ops ops'){x0:Array Bool}{j:Nat}(hz:x0.getD 0 false=true):j∈qG .any ops x0↔j∈qG .any ops' x0:=by
 obtain⟨o0,e1,e2,_,_,e5,_⟩:=h.zero;rw[mem_ready,mem_ready];by_cases hj:j=0
 .subst hj;rw[e1,e2]
 constructor
 .rintro ⟨h4,o,h5,h6⟩;obtain⟨o',h7,h8⟩:=h.rest j o hj h5;exact⟨h4,o',h7,λe he hb=>by
   rcases h8.bwd e he with h9|h9
   .exact h6 e h9 hb
   .rw[h9];exact hz⟩
 .rintro ⟨h4,o',h5,h6⟩;have x1:j<ops.size:=by rw[h.size];exact(zv.1 h5).1
  obtain⟨o2,h7,h8⟩:=h.rest j _ hj (xG x1);rw[h5]at h7;cases h7;exact⟨h4,_,xG x1,λe he hb=>h6 e (h8.fwd e he) hb⟩
theorem zje(h:FlOk P d src ops ops')(x4:¬ux Q):∀(x1:Nat){x0:Array Bool}{a:Act}{w:zj},x0.getD 0 false=true->wpAny P .any ops' Q x1 x0 a w->wpAny P .any ops Q x1 x0 a w:=by
 have x2:∀{x0:Array Bool},x0.getD 0 false=true->(qG .any ops x0=[]↔qG .any ops' x0=[]):=λ{x0}hz=>by
  rw[jy,jy];exact⟨λh1 i hi=>h1 i ((h.ready hz).2 hi),λh1 i hi=>h1 i ((h.ready hz).1 hi)⟩
 intro x1
 induction x1 with
 |zero=>intro x0 a w hz hw;exact⟨(x2 hz).2 hw.1,hw.2⟩
 |succ x1 ih=>
  intro x0 a w hz hw;refine⟨λh1=>hw.1 ((x2 hz).1 h1),λi hi=>?_⟩;have h2:=hw.2 i ((h.ready hz).1 hi);have x3:i≠0:=by
   rintro rfl;have h3:=getD_both (mem_ready.1 hi).1;rw[hz]at h3;cases h3
  obtain⟨_,o,ho,_⟩:=mem_ready.1 hi;obtain⟨o',h4,h5⟩:=h.rest i o x3 ho;unfold wpOp at h2 ⊢;rw[ho];rw[h4]at h2;simp only[zX,h5.guard,h5.guard',if_true]at h2 ⊢;rcases h2 with h2|⟨_,h2⟩
  .refine .inl ?_;have h2:=wi (λa w hh=>ih (getD_set_true hz) hh) h2;unfold jV at h2 ⊢;rw[h5.run];revert h2;generalize (execOp a.eval o').run P w=x;unfold Oper.upon;rw[h5.dst];exact id
  .exact absurd h2 x4
theorem zpV{x0:Array Bool}{i j:Nat}:(x0.setIfInBounds i true).setIfInBounds j true=(x0.setIfInBounds j true).setIfInBounds i true:=by
 by_cases h:i=j
 .rw[h]
 .exact wO _ _ h
theorem znf(h:FlOk P d src ops ops')(xc:src≠ .tmp d)(x6:¬ux Q)(x8:∀e a w,Q e a w->e=.normal):∀(x1:Nat){x0:Array Bool}{a:Act}{w:zj},x0.size=ops.size->x0.getD 0 true=false->wpAny P .any ops' Q x1 (x0.setIfInBounds 0 true) (a.put (some d) (a.eval src)) w->wpAny P .any ops Q (x1+1) x0 a w:=by
 obtain⟨o0,e1,e2,e3,e4,e5,e6⟩:=h.zero;have x7:=(zv.1 e1).1;have x5:∀{x0:Array Bool},x0.size=ops.size->(x0.setIfInBounds 0 true).getD 0 false=true:=λ{x0}hs=>by
  simp[yA,Array.getElem?_setIfInBounds,hs,x7]
 intro x1
 induction x1 with
 |zero=>
  intro x0 a w hs hz hw;have h0:(0:Nat)∈qG .any ops x0:=mem_ready.2 ⟨hz,o0,e1,λe he _=>(e5 e he).elim⟩;refine⟨λh1=>(by rw[h1]at h0;cases h0),λi hi=>?_⟩;by_cases x2:i=0
  .subst x2;unfold wpOp;rw[e1];simp only[zX,e6,if_true];refine .inl ?_;have:(execOp a.eval o0).run P w=.ok (.value (a.eval src)) w:=by unfold execOp;rw[e3];rfl
   unfold jV;rw[this,gl,e4];exact zje h x6 _ (x5 hs) hw
  .have hr:=(h.ready (x5 hs) (j:=i)).1 (mem_ready.2 (by
    obtain⟨q1,o,q2,q3⟩:=mem_ready.1 hi;refine⟨by rw[getD_set_ne _ (xI x2)];exact q1,o,q2,λe he hb=>?_⟩;exact getD_set_true (q3 e he hb)))
   rw[hw.1]at hr;cases hr
 |succ x1 ih=>
  intro x0 a w hs hz hw;have h0:(0:Nat)∈qG .any ops x0:=mem_ready.2 ⟨hz,o0,e1,λe he _=>(e5 e he).elim⟩;refine⟨λh1=>(by rw[h1]at h0;cases h0),λi hi=>?_⟩;by_cases x2:i=0
  .subst x2;unfold wpOp;rw[e1];simp only[zX,e6,if_true];refine .inl ?_;have:(execOp a.eval o0).run P w=.ok (.value (a.eval src)) w:=by unfold execOp;rw[e3];rfl
   unfold jV;rw[this,gl,e4];exact zje h x6 _ (x5 hs) hw
  .have hr:=(h.ready (x5 hs) (j:=i)).1 (mem_ready.2 (by
    obtain⟨q1,o,q2,q3⟩:=mem_ready.1 hi;refine⟨by rw[getD_set_ne _ (xI x2)];exact q1,o,q2,λe he hb=>?_⟩;exact getD_set_true (q3 e he hb)))
   have h2:=hw.2 i hr;obtain⟨q1,o,ho,q3⟩:=mem_ready.1 hi;obtain⟨o',h4,h5⟩:=h.rest i o x2 ho;have xb:=h5.run;have hex:execOp (a.put (some d) (a.eval src)).eval o=execOp a.eval o:=by
    rcases h5.sees with ⟨e,he,h6,h7⟩|h6
    .have:=q3 e he h7;rw[h6,getD_both hz]at this;cases this
    .exact h6 _ _ λx hx=>zhd hx
   have x3:∀(b:Act)v,(b.put o.dst v).eval src=b.eval src:=λb v=>by
    cases hd:o.dst with
    |none=>rfl
    |some t=>exact zhd λe=>h5.ns t e hd
   have x4:∀(b:Act)v x,(b.put (some d) v).put o.dst x=(b.put o.dst x).put (some d) v:=λb v x=>zp4 h5.nd;unfold wpOp at h2 ⊢;rw[ho];rw[h4]at h2;simp only[zX,h5.guard,h5.guard',if_true]at h2 ⊢;rcases h2 with h2|⟨_,h2⟩
   .refine .inl ?_;have key:∀(b:Act)w',wpAny P .any ops' Q x1 ((x0.setIfInBounds 0 true).setIfInBounds i true) (b.put (some d) (b.eval src)) w'->wpAny P .any ops Q (x1+1) (x0.setIfInBounds i true) b w':=λb w' hh=>by
     rw[zpV]at hh;exact ih (by simp[hs]) (by rw[getD_set_ne _ x2];exact hz) hh
    unfold jV at h2 ⊢;rw[<-xb,hex]at h2;revert h2;generalize (execOp a.eval o).run P w=x;unfold Oper.upon;rw[<-h5.dst];intro h2;have kp:∀v w',wpAny P .any ops' Q x1 ((x0.setIfInBounds 0 true).setIfInBounds i true) ((a.put (some d) (a.eval src)).put o.dst v) w'->wpAny P .any ops Q (x1+1) (x0.setIfInBounds i true) (a.put o.dst v) w':=λv w' hh=>by
     rw[x4]at hh;exact key _ _ (by rw[x3];exact hh)
    cases x with
    |ok x w'=>
     cases x with
     |value v=>exact kp _ _ h2
     |skip=>exact kp _ _ h2
     |defer c=>
      have x9:({ a with defers:=c::a.defers }:Act).eval src=a.eval src:=by cases src<;>rfl
      refine key _ _ ?_;rw[x3,x9, <-x4];exact h2
     |enter f args=>
      refine Calls.mono h2 λe xa he=>?_;cases e with
      |returned v=>exact kp _ _ he
      |panicked c=>exact absurd (x8 _ _ _ he) (by intro hh;cases hh)
      |outgrown=>exact absurd he x6
     |row r args=>exact Rows.mono h2 λv xa he=>kp _ _ he
     |_=>exact h2
    |halt x w'=>
     cases x with
     |panic v=>exact absurd (x8 _ _ _ h2) (by intro hh;cases hh)
     |_=>exact h2
   .exact absurd h2 x6
theorem zlw(h:FlOk P d src ops ops')(x3:src≠ .tmp d)(x1:¬ux Q)(x2:∀e a w,Q e a w->e=.normal){a:Act}{w:zj}(hw:wpAny P .any ops' Q ops'.size (zG ops'.size false) a w):wpAny P .any ops Q ops.size (zG ops.size false) a w:=by
 obtain⟨o0,e1,e2,e3,e4,e5,e6⟩:=h.zero;have x0:0<ops.size:=(zv.1 e1).1;rw[<-h.size]at hw;obtain⟨f,hf⟩:∃f,ops.size=f+1:=⟨ops.size-1,by omega⟩;have hz:(zG ops.size false).getD 0 true=false:=by simp[x0]
 generalize hl:zG ops.size false=listed at hw hz ⊢;have hs:listed.size=ops.size:=by rw[<-hl];simp
 rw[hf]at hw ⊢;refine znf h x3 x1 x2 f hs hz ?_;have h0:(0:Nat)∈qG .any ops' listed:=mem_ready.2 ⟨hz,o0,e2,λe he _=>(e5 e he).elim⟩;have h1:=hw.2 0 h0;unfold wpOp at h1;rw[e2]at h1;simp only[zX,e6,if_true]at h1;rcases h1 with h1|⟨_,h1⟩
 .have:(execOp a.eval o0).run P w=.ok (.value (a.eval src)) w:=by unfold execOp;rw[e3];rfl
  unfold jV at h1;rw[this,gl,e4]at h1;exact h1
 .exact absurd h1 x1
end
section
variable {P:zA}{K:Kn}{w0:zj}{X:Ownr}{n:Nat}{Y:AS}{Q:Exit->AS->Prop}{ops:Array Oper}{d:Nat}{src:zK}
theorem zpB{o0:Oper}{l l':List Oper}(x0:ops.toList=o0::l)(hI:FlL P d src l l')(x2:o0.op=.move src)(x4:o0.dst=some d)(x6:o0.after.toList=[])(hg:o0.guard=none)(x1:src≠ .tmp d)(hm:P.follows .mixedOrders=true)(hX:X.Ok w0)(hK:KnOk P X.G K){id:Nat}(m:Nat)
  (hB:zkV (o0::l').toArray m=true) {r1 r2:List Prop×AS} (h1:zi7 K n (o0::l').toArray ((o0::l').take m) Y=some r1) (h2:aSeq K n (o0::l').toArray ((o0::l').drop m) r1.2=some r2)
  (x5:allP r1.1) (x3:allP r2.1) (hq:Q .normal r2.2) (hd:zaE ops.toList=true:=by rfl):AWP P w0 X n (.region id ops true) Y Q:=λU a w h=>
 zT (wpIn_region_any hm (zbc (R:=λe a w=>e=.normal/\∃U',Sim w0 X n r2.2 U' a w) zbw hd _ (
  zlw (FlOk.of x0 x2 x4 x6 hg hI) x1 zbw (λ_ _ _ h=>h.1) (ziS hK hX h hB h1 h2 x5 x3 λU' _ _ h'=>⟨rfl,U',h'⟩)))) λe a w⟨he,U',h'⟩=>by
   subst he;exact⟨r2.2,U',h',hq⟩
end
section
variable {P:zA}{K:Kn}{w0:zj}{X:Ownr}{n:Nat}{Y:AS}{Q:Exit->AS->Prop}{ops:Array Oper}
theorem AWP.rename(x0:X.K=0)(L:List (Nat×Nat))(m:Nat){c:Code}(h:AWP P w0 X n c ⟨rnFr L Y.F,rnE L Y.E,m⟩ Q)(hL:rnOk L=true:=by rfl)(hF:bndB m (rnFr L Y.F)=true:=by rfl)(hE:bndE m (rnE L Y.E)=true:=by rfl):AWP P w0 X n c Y Q:=
 λU a w hs=>h _ a w (hs.rename hL x0 hF hE)
end
section
variable {P:zA}{K:Kn}{w0:zj}{X:Ownr}{n:Nat}{F:List (Nat×V)}{E:Owns}{nx:Nat}{Q:Exit->AS->Prop}{ops:Array Oper}
theorem zdT{o:Oper}{rest:List Oper}(x1:o.guard=none)(x2:∀c,o.op≠ .defer c){d:Nat}(hd:o.dst=some d)(x3:zO d n=true)(u:zi)(x0:∀U a w,Sim w0 X n ⟨F,E,nx⟩ U a w->(execOp a.eval o).run P w=.ok (.value u) w)
  (h:AL P w0 X n ops rest ⟨(d,⟨.lit,u⟩)::F,E,nx⟩ Q):AL P w0 X n ops (o::rest) ⟨F,E,nx⟩ Q:=
 AL.hand x1 x2 λU a w hs=>zbX hd x3 (v:=⟨.lit,u⟩) (zk _) (N:=λY'=>AL P w0 X n ops rest Y' Q) h hs (x0 U a w hs) rfl
theorem zaR{U:Nat->zi}{a:Act}{w:zj}(hs:Sim w0 X n ⟨F,E,nx⟩ U a w){x:zK}{u:zi}(hx:evO F x=⟨.lit,u⟩):a.eval x=u:=by
 have h1:=hs.ops x;rw[show evO (AS.mk F E nx).F x=_ from hx]at h1;exact h1
theorem zlQ(x0:X.K=1){U:Nat->zi}{a:Act}{w:zj}(hs:Sim w0 X n ⟨F,E,nx⟩ U a w){x:zK}(hx:evO F x=⟨.hptr,((0:Nat),(0:Nat))⟩):a.eval x=.pointer (some ⟨X.fix 0,0,none⟩):=by
 have h1:=hs.ops x;rw[show evO (AS.mk F E nx).F x=_ from hx]at h1;obtain⟨g,x2,x1⟩:=h1;have h2:=(hs.fix.2 0 (by rw[x0];exact Nat.zero_lt_one)).1;rw[x2]at h2;rw[x1,yP h2]
theorem ztR(x1:X.K=1){o:Oper}{rest:List Oper}{f:yR}{x:zK}(ho:o.op=.makeFunc (.func f) #[x] #[])(x0:o.guard=none){d:Nat}(hd:o.dst=some d)(x2:zO d n=true)(hx:evO F x=⟨.hptr,((0:Nat),(0:Nat))⟩)
  (h:AL P w0 X n ops rest ⟨(d,⟨.lit,.func (.func f) #[.pointer (some ⟨X.fix 0,0,none⟩)] #[]⟩)::F,E,nx⟩ Q):AL P w0 X n ops (o::rest) ⟨F,E,nx⟩ Q:=
 zdT x0 (λc e=>by rw[ho]at e;cases e) hd x2 _ (λU a w hs=>by
  unfold execOp;simp only[ho];refine za7 ?_;rw[show(#[x]:Array zK).map a.eval= #[a.eval x] from by simp,zlQ x1 hs hx];simp[Instr.makeFunc]) h
theorem ztU(hX:X.Ok w0){o:Oper}{rest:List Oper}{t:zy}{x:zK}(ho:o.op=.box t x)(x3:o.guard=none){d:Nat}(hd:o.dst=some d)(x5:zO d n=true){A:Ty}{p:A.T}{q:zi}(hx:evO F x=⟨.hcons A (.hcons .lit .unit),(p,(q,()))⟩)
  (hA:A.plainL=true) (x6:(⟨A,p⟩:V).bound=0) (h:AL P w0 X n ops rest ⟨(d,⟨.hptr,(nx,(0:Nat))⟩)::F,(nx,some (.hbox t [⟨A,p⟩,⟨.lit,q⟩]))::E,nx+1⟩ Q):AL P w0 X n ops (o::rest) ⟨F,E,nx⟩ Q:=by
 refine AL.hand x3 (λc e=>by rw[ho]at e;cases e) λU a w hs=>?_;have x0:d<n:=by simpa using x5
 have h1:=hs.ops x;rw[show evO (AS.mk F E nx).F x=_ from hx]at h1;obtain⟨c,s,e1,hc,r1,h2⟩:=h1;obtain⟨c2,s2,e2,x2,r2,h3⟩:=h2;obtain⟨cs,e3,h3⟩:∃cs:List zi,(gN s2.toArray)=.agg cs.toArray/\RepC w (OSet X E U) .unit () cs:=(jf rfl).1 h3;have h3:cs=[]:=h3;subst h3;have e3:s2=[]:=by
  have:=gW e3
  simpa using congrArg wg this
 subst e3;have e2:s=[c2]:=by
  have:=gW e2
  simpa using congrArg wg this
 subst e2;refine zba (u:=.pointer (some ⟨w.heap.size,0,none⟩)) (w':=w.alloc (.cells #[c,c2] t (0,0))) ?_ ?_
 .unfold execOp;simp only[ho];refine za7 ?_;rw[e1];simp[Instr.box,newVar,newRow,jL,go_sem]
 .rw[hd];have hk:xW w.heap.size w (w.alloc (.cells #[c,c2] t (0,0))):=(zY _ w).alloc (zu _) (.cells #[c,c2] t (0,0));obtain⟨U',h4⟩:=hs.make hX hk (bv:=.pointer (some ⟨w.heap.size,0,none⟩)) (o:=.hbox t [⟨A,p⟩,⟨.lit,q⟩])
   (λO U' hO=>by
     have x4:jk w (w.alloc (.cells #[c,c2] t (0,0))) (OSet X E U) O:=.of_below hk λg hg x1=>by
      rcases hO g x1 with h5|h5
      .exact h5
      .simp[zai]at h5;omega
     exact⟨w.heap.size,[c,c2],rfl,zk _,xK w _,⟨c,[c2],rfl,hc,RepV.plainL x4 hA r1,⟨c2,[],rfl,x2,r2,rfl⟩⟩⟩) (λg hg=>by cases hg;exact zu _) (v:=⟨.hptr,(nx,(0:Nat))⟩) (u:=.pointer (some ⟨w.heap.size,0,none⟩))
   (λO U' hb=>⟨w.heap.size,by show zai (U' nx)=_;rw[show U' nx=_ from hb];rfl,rfl⟩) (zu _) x0 (λvs e v hv=>by
     cases e;rcases zE.1 hv with rfl|hv
     .rw[x6];exact zk _
     .rw[zQ.1 hv];exact zk _)
  exact⟨_,U',h4,h⟩
structure FnArr(P:zA)(t:zy)(m:Nat):Prop where
 size:∀w,(sizeOf t).run P w=.ok m w
 alloc:∀(w:zj)(ev:zK->zi)(o:Oper),o.op=.alloc t->(execOp ev o).run P w=.ok (.value (.pointer (some ⟨w.heap.size,0,none⟩))) (w.alloc (.cells (zg m vn).toArray t (0,0)))
 at_:∀(w:zj)(ev:zK->zi)(o:Oper)(p i:zK)(g k:Nat),k<m->o.op=.indexAddr t p i->ev p=.pointer (some ⟨g,0,none⟩)->ev i=.int .i64 (k:Int)->(execOp ev o).run P w=.ok (.value (.pointer (some ⟨g,k,none⟩))) w
def lits(us:List zi):List V:=us.map λu=>⟨.lit,u⟩
theorem ze5{w:zj}{O:Nat->Prop}{U:Nat->zi}:∀{us:List zi},(∀u∈us,u.oneCell'=true)->RepH w O U (lits us) us
 | [],_=>rfl
 |u::us,h=>⟨u,us,rfl,h u (yN ..),rfl,ze5 λv hv=>h v (yO _ hv)⟩
theorem zfJ{us:List zi}{k:Nat}:∀v∈lits us,v.bound<=k:=λv hv=>by
 obtain⟨u,_,rfl⟩:=jo.1 hv;exact zk _
theorem zpF{t:zy}{m:Nat}(ht:FnArr P t m)(hX:X.Ok w0){o:Oper}{rest:List Oper}(ho:o.op=.alloc t)(x1:o.guard=none){d:Nat}(hd:o.dst=some d)(x2:zO d n=true)
  (h:AL P w0 X n ops rest ⟨(d,⟨.hptr,(nx,(0:Nat))⟩)::F,(nx,some (.hbox t (lits (zg m .nilFunc))))::E,nx+1⟩ Q):AL P w0 X n ops (o::rest) ⟨F,E,nx⟩ Q:=by
 refine AL.hand x1 (λc e=>by rw[ho]at e;cases e) λU a w hs=>?_;have x0:d<n:=by simpa using x2
 refine zba (u:=.pointer (some ⟨w.heap.size,0,none⟩)) (w':=w.alloc (.cells (zg m vn).toArray t (0,0))) ?_ ?_
 .exact ht.alloc w a.eval o ho
 .rw[hd];obtain⟨U',h1⟩:=hs.make hX ((zY _ w).alloc (zu _) (.cells (zg m vn).toArray t (0,0))) (bv:=.pointer (some ⟨w.heap.size,0,none⟩)) (o:=.hbox t (lits (zg m .nilFunc)))
   (λO U' _=>⟨w.heap.size,zg m .nilFunc,rfl,zk _,xK w _,ze5 λu hu=>by rw[List.eq_of_mem_replicate hu];rfl⟩) (λg hg=>by cases hg;exact zu _) (v:=⟨.hptr,(nx,(0:Nat))⟩) (u:=.pointer (some ⟨w.heap.size,0,none⟩))
   (λO U' hb=>⟨w.heap.size,by show zai (U' nx)=_;rw[show U' nx=_ from hb];rfl,rfl⟩) (zu _) x0 (λvs e v hv=>by cases e;exact zfJ v hv)
  exact⟨_,U',h1,h⟩
theorem zpC{t:zy}{m:Nat}(ht:FnArr P t m){o:Oper}{rest:List Oper}{p x:zK}(ho:o.op=.store t p x)(x6:o.guard=none)(hd:o.dst=none){i:Nat}(hp:evO F p=⟨.hptr,(i,(0:Nat))⟩){vs:List V}{ty:zy}(hE:zq E i=some (.hbox ty vs))(hvs:vs.length=m){us:List zi}(x2:us.length=m)(x1:∀u∈us,u.oneCell'=true)(hx:evO F x=⟨.lit,.agg us.toArray⟩)
  (h:AL P w0 X n ops rest ⟨F,(i,some (.hbox ty (lits us)))::E,nx⟩ Q):AL P w0 X n ops (o::rest) ⟨F,E,nx⟩ Q:=by
 refine AL.hand x6 (λc e=>by rw[ho]at e;cases e) λU a w hs=>?_;have h1:=hs.ops p;rw[show evO (AS.mk F E nx).F p=_ from hp]at h1;obtain⟨g,x4,x9⟩:=h1;obtain⟨g',cs,e1,_,e3,e4⟩:=hs.own _ _ hE;have x8:g'=g:=by
  rw[e1]at x4
  simpa [zai] using x4
 subst x8;have x3:cs.length=m:=by rw[<-e4.len];exact hvs
 have x7:=zaR hs hx;have x0:(qO t (.pointer (some ⟨g',0,none⟩)) (a.eval x)).run P w=.ok () (w.setRow g' us.toArray):=by
  have x0:=run_storeCells_at P g' 0 ty us 0 (List.toArray cs) w e3 (by simp[x2,x3]) x1;simp only[jT]at x0;unfold qO qa storeVar;simp only[zJ,zI,zD,ht.size,x7];have xa:(gN us.toArray).cells.size=m:=by simp[jL,x2]
  rw[if_neg (by rw[xa];simp)];have x5:(gN us.toArray).cells.toList=us:=by simp[jL]
  rw[x5,x0]
  congr 2
  simp[List.drop_eq_nil_of_le,x2,x3]
 unfold jV;have e:(execOp a.eval o).run P w=.ok .skip (w.setRow g' us.toArray):=by
  unfold execOp;simp only[ho];rw[x9];simp[x0]
 rw[e];show ∃Y' U',Sim w0 X n Y' U' (a.put o.dst undef) _/\_;rw[hd];exact⟨_,U,hs.write (o':=.hbox ty (lits us)) hE (by rw[e1];exact zbJ w g' _) (λhk=>⟨g',us,e1,zk _,setRow_heap w g' cs.toArray _ ty _ e3,ze5 x1⟩) rfl (λws e v hv=>by cases e;exact zfJ v hv),h⟩
theorem ziw{w:zj}{O:Nat->Prop}{U:Nat->zi}:∀{vs:List V}{cs:List zi}{k:Nat}{v:V},RepH w O U vs cs->vs[k]? =some v->∃c,cs[k]? =some c/\RepV w O U v.t v.x c
 | [],_,k,v,_,h=>by simp at h
 |v0::r,_,k,v,⟨u,s,rfl,_,h1,h2⟩,h=>by
  cases k with
  |zero=>cases h;exact⟨u,rfl,h1⟩
  |succ k=>
   obtain⟨c,hc,hv⟩:=ziw h2 (k:=k) (v:=v) (by simpa using h);exact⟨c,by simpa using hc,hv⟩
theorem zdh{t et:zy}{m:Nat}(ht:FnArr P t m)(he:FnTy P et){o1 o2:Oper}{rest:List Oper}{p i:zK}(x4:o1.op=.indexAddr t p i)(x1:o1.guard=none){d1:Nat}(x8:o1.dst=some d1)(x9:zO d1 n=true){x:zK}(x5:o2.op=.load et x)(xb:o2.guard=none){d2:Nat}(x6:o2.dst=some d2)(x7:zO d2 n=true)
  (hx:x=.tmp d1) {j:Nat} (hp:evO F p=⟨.hptr,(j,(0:Nat))⟩) {us:List zi}{ty:zy} (hE:zq E j=some (.hbox ty (lits us))) (k:Nat) (hk:k<m) (hi:evO F i=⟨.int .i64,((k:Nat):Int)⟩) {u:zi} (hu:us[k]? =some u) (hj:zO j nx=true)
  (h:AL P w0 X n ops rest ⟨(d2,⟨.lit,u⟩)::(d1,⟨.hptr,(j,k)⟩)::F,E,nx⟩ Q):AL P w0 X n ops (o1::o2::rest) ⟨F,E,nx⟩ Q:=by
 have xc:j<nx:=by simpa using hj
 refine AL.hand x1 (λc e=>by rw[x4]at e;cases e) λU a w hs=>?_;have h1:=hs.ops p;rw[show evO (AS.mk F E nx).F p=_ from hp]at h1;obtain⟨g,x2,x3⟩:=h1;have h2:=hs.ops i;rw[show evO (AS.mk F E nx).F i=_ from hi]at h2;have h3: [a.eval i]=[.int .i64 (k:Int)]:=(xE (t:=.int .i64) rfl).1 h2;have h3:=jN h3;refine zbX x8 x9 (v:=⟨.hptr,(j,k)⟩) (by exact xc) (N:=λY'=>AL P w0 X n ops (o2::rest) Y' Q) ?_ hs (ht.at_ w a.eval o1 p i g k hk x4 x3 h3) ⟨g,x2,rfl⟩;refine AL.hand xb (λc e=>by rw[x5]at e;cases e) λU a w hs=>?_;have h1:=hs.ops x;rw[hx,show evO (AS.mk ((d1,(⟨.hptr,(j,k)⟩:V))::F) E nx).F (.tmp d1)=(⟨.hptr,(j,k)⟩:V) from by show zr _ _=_;rw[zal,if_pos rfl]]at h1;obtain⟨g,x2,x3⟩:=h1;obtain⟨g',cs,e1,_,e3,e4⟩:=hs.own _ _ hE;have xa:g'=g:=by
  have x1:=x2;rw[e1]at x1
  simpa [zai] using x1
 subst xa;obtain⟨c,hc,hv⟩:=ziw e4 (k:=k) (v:=⟨.lit,u⟩) (by unfold lits;rw[yB,hu];rfl);subst hv;have x0:w.cell? ⟨g',k,none⟩=some c:=by simp[qd,e3,hc]
 refine zbX x6 x7 (v:=⟨.lit,c⟩) (zk _) (N:=λY'=>AL P w0 X n ops rest Y' Q) h hs (u:=c) ?_ rfl;unfold execOp;simp only[x5];refine za7 ?_;rw[hx,x3];simp only[qL,qa,zJ,zI,zD];unfold vh;simp only[zJ,he.agg,zD];simp[load,Sem.run,x0]
theorem zc0(hX:X.Ok w0)(x8:X.K=1){o:Oper}{rest:List Oper}{f:yR}{c:HCtr}(hc:zcZ P X.G f c){y:zK}{ts:Array zy}(ho:o.op=.call ⟨.value y,#[],ts⟩)(x7:o.guard=none)(hy:evO F y=⟨.lit,.func (.func f) #[.pointer (some ⟨X.fix 0,0,none⟩)] #[]⟩)
  (a0:zK) (x5:evO F a0=⟨.hptr,((0:Nat),(0:Nat))⟩) {ty:zy}{vs:List V} (hbox:zq E 0=some (.hbox ty vs)) {et:Ty}{j:Nat} (hk:vs[c.k]? =some ⟨.obuf et,j⟩) {x4:List c.et.T} (x2:zq E j=some (.buf c.te c.et x4))
  {x:c.self.T} (xa:unD c.self ((c.back 0 vs).set c.k ⟨.slice c.et,x4⟩)=some (x,[])) (hd:zbf c.args=true) (x6:c.res.resOk=true)
  {q:List Prop}{xs:Args c.args} (x9:zgi E false [] c.args=some (q,xs)) (hq:allP q) (x1:allP (c.pre x xs)) (x0:∀w R,(∀g,R g->w0.heap.size<=g\/X.R g)->X.G w->c.inv w R ty) {F':c.res.T->yF} (x3:∀y,putD n o.dst (resV c.res y) (jU j F)=some (F' y))
  (h:zpz (λy x'=>AL P w0 X n ops rest ⟨F' y,(0,some (.hbox ty (c.lv 0 j x')))::(j,some (.buf c.te c.et (c.sl x')))::xH j E,nx⟩ Q) (λpv=>Q (.panic [{ v:=pv,recovered:=false }]) ⟨F,(0,none)::(j,none)::E,nx⟩) (c.out x xs)):AL P w0 X n ops (o::rest) ⟨F,E,nx⟩ Q:=
 AL.hand x7 (λc e=>by rw[ho]at e;cases e) (zjT hX hc (a0:=a0) (zas:=[]) (λU a w hs xb=>by
  have h1:=zaR hs hy;have h2:=zlQ x8 hs x5;unfold execOp;simp[ho,resolve,invoke,jv,h1,h2,xb]) rfl x5 hbox hk x2 xa hd x6 x9 hq x1 x0 x3 (N:=λY'=>AL P w0 X n ops rest Y' Q) h)
end
def w8(b:UInt8):BitVec 32:=BitVec.ofNat 32 b.toNat
def lo8(x:BitVec 32):UInt8:=zM x.toNat
def rotr(x:BitVec 32)(n:Nat):BitVec 32:=(x >>> n)|||(x <<< (32-n))
def be32(a b c d:UInt8):BitVec 32:=(w8 a <<< 24)|||(w8 b <<< 16)|||(w8 c <<< 8)|||w8 d
def sig0(x:BitVec 32):BitVec 32:=rotr x 7 ^^^ rotr x 18 ^^^ (x >>> 3)
def sig1(x:BitVec 32):BitVec 32:=rotr x 17 ^^^ rotr x 19 ^^^ (x >>> 10)
def ze1(b:List UInt8)(l:List (BitVec 32)):BitVec 32:=
 if l.length<16 then be32 (b.getD (4*l.length) 0) (b.getD (4*l.length+1) 0) (b.getD (4*l.length+2) 0) (b.getD (4*l.length+3) 0)
 else l.getD (l.length-16) 0+sig0 (l.getD (l.length-15) 0)+l.getD (l.length-7) 0+sig1 (l.getD (l.length-2) 0)
def zcQ(b:List UInt8):Nat->List (BitVec 32)
 |0=>[]
 |k+1=>zcQ b k++[ze1 b (zcQ b k)]
theorem zb4(b:List UInt8)(k:Nat):(zcQ b k).length=k:=by
 induction k with
 |zero=>rfl
 |succ k ih=>simp[zcQ,ih]
def zf6:List (BitVec 32):=[
 0x428a2f98,0x71374491,0xb5c0fbcf,0xe9b5dba5,0x3956c25b,0x59f111f1,0x923f82a4,0xab1c5ed5,
 0xd807aa98,0x12835b01,0x243185be,0x550c7dc3,0x72be5d74,0x80deb1fe,0x9bdc06a7,0xc19bf174,
 0xe49b69c1,0xefbe4786,0x0fc19dc6,0x240ca1cc,0x2de92c6f,0x4a7484aa,0x5cb0a9dc,0x76f988da,
 0x983e5152,0xa831c66d,0xb00327c8,0xbf597fc7,0xc6e00bf3,0xd5a79147,0x06ca6351,0x14292967,
 0x27b70a85,0x2e1b2138,0x4d2c6dfc,0x53380d13,0x650a7354,0x766a0abb,0x81c2c92e,0x92722c85,
 0xa2bfe8a1,0xa81a664b,0xc24b8b70,0xc76c51a3,0xd192e819,0xd6990624,0xf40e3585,0x106aa070,
 0x19a4c116,0x1e376c08,0x2748774c,0x34b0bcb5,0x391c0cb3,0x4ed8aa4a,0x5b9cca4f,0x682e6ff3,
 0x748f82ee,0x78a5636f,0x84c87814,0x8cc70208,0x90befffa,0xa4506ceb,0xbef9a3f7,0xc67178f2]
structure St where
 a:BitVec 32
 b:BitVec 32
 c:BitVec 32
 d:BitVec 32
 e:BitVec 32
 f:BitVec 32
 g:BitVec 32
 h:BitVec 32
def znH(t:St)(k w:BitVec 32):BitVec 32:=
 t.h+(rotr t.e 6 ^^^ rotr t.e 11 ^^^ rotr t.e 25)+((t.e&&& t.f) ^^^ (~~~t.e&&& t.g))+k+w
def zrq(t:St):BitVec 32:=
 (rotr t.a 2 ^^^ rotr t.a 13 ^^^ rotr t.a 22)+((t.a&&& t.b) ^^^ (t.a&&& t.c) ^^^ (t.b&&& t.c))
def round(t:St)(k w:BitVec 32):St:=
 ⟨znH t k w+zrq t,t.a,t.b,t.c,t.d+znH t k w,t.e,t.f,t.g⟩
def rounds(t:St)(ws:List (BitVec 32)):Nat->St
 |0=>t
 |i+1=>round (rounds t ws i) (zf6.getD i 0) (ws.getD i 0)
def ztI(s t:St):St:=⟨s.a+t.a,s.b+t.b,s.c+t.c,s.d+t.d,s.e+t.e,s.f+t.f,s.g+t.g,s.h+t.h⟩
def zbd(t:St):List (BitVec 32):=[t.a,t.b,t.c,t.d,t.e,t.f,t.g,t.h]
def zft(s:St)(b:List UInt8):St:=ztI s (rounds s (zcQ b 64) 64)
def st0:St:=⟨0x6a09e667,0xbb67ae85,0x3c6ef372,0xa54ff53a,0x510e527f,0x9b05688c,0x1f83d9ab,0x5be0cd19⟩
def zcK(m:List UInt8):Nat->St
 |0=>st0
 |n+1=>zft (zcK m n) ((m.drop (64*n)).take 64)
def zbq(n:Nat):Nat:=(119-n%64)%64
def zb6(n i:Nat):UInt8:=zM ((8*n)/2^(8*i))
def be64(n:Nat):List UInt8:=[zb6 n 7,zb6 n 6,zb6 n 5,zb6 n 4,zb6 n 3,zb6 n 2,zb6 n 1,zb6 n 0]
def pad(l:List UInt8):List UInt8:=l++[0x80]++zg (zbq l.length) 0++be64 l.length
def zex(s:St)(i:Nat):UInt8:=lo8 ((zbd s).getD (i/4) 0 >>> (24-8*(i%4)))
def zfq(s:St):List UInt8:=(xQ 32).map (zex s)
def sha(l:List UInt8):List UInt8:=zfq (zcK (pad l) ((pad l).length/64))
theorem zcN(l:List UInt8):(sha l).length=32:=by simp[sha,zfq]
theorem zhY(l:List UInt8):(pad l).length%64=0:=by
 simp[pad,zbq,be64];omega
def zb9(key:List UInt8)(by_:UInt8):List UInt8:=key.map (· ^^^ by_)++zg 32 by_
def hmac(key l:List UInt8):List UInt8:=sha (zb9 key 0x5c++sha (zb9 key 0x36++l))
def zmf(n:Nat):UInt8:=if n<10 then zM (48+n) else zM (87+n)
def hex(d:List UInt8):List UInt8:=d.flatMap λb=>[zmf (b.toNat/16),zmf (b.toNat%16)]
abbrev Nd:=Int×Int×Int×Int×Int×Int×List Int×List UInt8×Unit
abbrev TokT:=Int×Int×Int×List UInt8×Int×Unit
def Tok.at(t:TokT):Int:=t.2.1
def isLt(c:UInt8):Bool:=decide (97<=c|||32)&&decide (c|||32<=122)
def isDg(c:UInt8):Bool:=decide (48<=c)&&decide (c<=57)
def isPt(c:UInt8):Bool:=isLt c||isDg c||(c==45)
def numv(l:List UInt8):Nat:=l.foldl (λn c=>10*n+(c.toNat-48)) 0
def zvW:Nat:=1125899906842624
inductive Tr where
 |leaf (n:Nd)
 |un (n:Nd) (a:Tr)
 |bin (n:Nd) (a b:Tr)
def Tr.size:Tr->Nat
 |.leaf _=>1
 |.un _ a=>a.size+1
 |.bin _ a b=>a.size+b.size+1
def setL(n:Nd)(l:Int):Nd:=(n.1,n.2.1,l,n.2.2.2)
def zd6(n:Nd)(l r:Int):Nd:=(n.1,n.2.1,l,r,n.2.2.2.2)
def Tr.flat:Tr->Nat->List Nd
 |.leaf n,_=>[n]
 |.un n a,b=>a.flat b++[setL n ((b+a.size:Nat)-1)]
 |.bin n a c,b=>a.flat b++c.flat (b+a.size)++[zd6 n ((b+a.size:Nat)-1) ((b+a.size+c.size:Nat)-1)]
theorem Tr.len_flat:∀(t:Tr)(b:Nat),(t.flat b).length=t.size
 |.leaf _,_=>rfl
 |.un _ a,b=>by
  have:=Tr.len_flat a b;rw[Tr.flat,Tr.size,zl,this];rfl
 |.bin _ a c,b=>by
  have h1:=Tr.len_flat a b;have h2:=Tr.len_flat c (b+a.size);rw[Tr.flat,Tr.size,zl,zl,h1,h2];rfl
abbrev GSt:=TokT×Int
section
variable (s:List UInt8)
def zNd:Nd:=(0,0,0,0,0,0,[],[],())
def rem(st:GSt):Nat:=((s.length:Nat)-Tok.at st.1).toNat
end
section
variable {P:zA}{K:Kn}{w0:zj}{X:Ownr}{n:Nat}{Y:AS}{Q:Exit->AS->Prop}{ops:Array Oper}
theorem zri{o:Oper}{rest:List Oper}(x1:∀c,o.op≠ .defer c)(h:StepA P w0 X n ops o Y (λs=>AL P w0 X n ops rest s Q) Q):AL P w0 X n ops (o::rest) Y Q:=by
 intro U a w x0;have h0:=h U a w (λa' w'=>wpListIn (zcP X.ρ) 0 P ops (λe a' w'=>e≠ .outgrown/\∃Y' U',Sim w0 X n Y' U' a' w'/\Q e Y') rest a' w') (λe a' w'=>e≠ .outgrown/\∃Y' U',Sim w0 X n Y' U' a' w'/\Q e Y') x0 (λY' U' a' w' hs hN=>hN U' a' w' hs) (λe Y' U' a' w' he hs hq=>⟨he,Y',U',hs,hq⟩);show if zX o (yielded ops a.tmps)=true then _ else _
 split at h0
 .rename_i hw;rw[if_pos hw];rcases h0 with h0|⟨_,_,_,h0,_⟩
  .exact za2 x1 h0
  .exact absurd rfl h0
 .rename_i hw;rw[if_neg hw];exact⟨λf _=>zem _ f,h0⟩
end
section
variable {P:zA}{K:Kn}{w0:zj}{X:Ownr}{n:Nat}{Y:AS}{Q:Exit->AS->Prop}{ops:Array Oper}
theorem zpJ{j s:Nat}{b:Bool}(hd:(ops[j]?).bind (·.dst)=some s)(hs:zr Y.F s=⟨.bool,b⟩)(x2:zO s n=true){U:Nat->zi}{a:Act}{w:zj}(x0:Sim w0 X n Y U a w):yielded ops a.tmps j=some b:=by
 have hv:a.tmps.getD s undef=.bool b:=by
  have h2:=x0.fr s;rw[hs]at h2;exact RepV.bool h2
 have x1:s<a.tmps.size:=by rw[x0.sz];simpa using x2
 unfold yielded;rw[hd];have:a.tmps[s]? =some (.bool b):=by
  rw[yA,xG x1]at hv;rw[xG x1];exact congrArg some hv
 simp[this]
theorem AL.guardT(j s:Nat)(b:Bool){o:Oper}{rest:List Oper}(hg:o.guard=some (j,b))(hd:(ops[j]?).bind (·.dst)=some s)(hs:zr Y.F s=⟨.bool,b⟩)(x2:zO s n=true)(h:AL P w0 X n ops ({ o with guard:=none }::rest) Y Q):AL P w0 X n ops (o::rest) Y Q:=by
 intro U a w x0;have h1:=h U a w x0;have hy:=zpJ hd hs x2 x0;have hw:zX o (yielded ops a.tmps)=true:=by simp[zX,hg,hy]
 have x1:zX { o with guard:=none } (yielded ops a.tmps)=true:=by simp[zX]
 show if zX o (yielded ops a.tmps)=true then _ else _
 have h1:if zX { o with guard:=none } (yielded ops a.tmps)=true then _ else _:=h1
 rw[if_pos x1]at h1;rw[if_pos hw];exact h1
theorem StepA.guardT(j s:Nat)(b:Bool){o:Oper}{N:AS->Prop}(hg:o.guard=some (j,b))(hd:(ops[j]?).bind (·.dst)=some s)(hs:zr Y.F s=⟨.bool,b⟩)(x2:zO s n=true)(h:StepA P w0 X n ops { o with guard:=none } Y N Q):StepA P w0 X n ops o Y N Q:=by
 intro U a w I R x0 hI hR;have h1:=h U a w I R x0 hI hR;have hy:=zpJ hd hs x2 x0;have hw:zX o (yielded ops a.tmps)=true:=by simp[zX,hg,hy]
 have x1:zX { o with guard:=none } (yielded ops a.tmps)=true:=by simp[zX]
 show if zX o (yielded ops a.tmps)=true then _ else _
 have h1:if zX { o with guard:=none } (yielded ops a.tmps)=true then _ else _:=h1
 rw[if_pos x1]at h1;rw[if_pos hw];exact h1
theorem AL.guardF(j s:Nat)(b:Bool)(t:Ty)(y:t.T){o:Oper}{rest:List Oper}(hg:o.guard=some (j,b))(hd:(ops[j]?).bind (·.dst)=some s)(hs:zr Y.F s=⟨.bool,!b⟩)(x2:zO s n=true){d:Nat}(x1:o.dst=some d)(x3:zO d n=true)(h:AL P w0 X n ops rest ⟨(d,⟨.cond t,(false,y)⟩)::Y.F,Y.E,Y.nx⟩ Q)(hb:bnd t y=0:=by rfl):AL P w0 X n ops (o::rest) Y Q:=by
 intro U a w x0;have hy:=zpJ hd hs x2 x0;have hw:¬zX o (yielded ops a.tmps)=true:=by simp[zX,hg,hy]
 show if zX o (yielded ops a.tmps)=true then _ else _
 rw[if_neg hw];refine⟨λf _=>zem _ f,?_⟩;rw[x1];exact h _ _ _ (x0.put (zY _ _) (v:=⟨.cond t,(false,y)⟩) ⟨λh=>(by cases h),λ_=>rfl⟩ (by rw[show V.bound ⟨.cond t,(false,y)⟩=bnd t y from rfl,hb];exact zk _) (by simpa using x3))
theorem StepA.guardF(j s:Nat)(b:Bool)(t:Ty)(y:t.T){o:Oper}{N:AS->Prop}(hg:o.guard=some (j,b))(hd:(ops[j]?).bind (·.dst)=some s)(hs:zr Y.F s=⟨.bool,!b⟩)(x2:zO s n=true){d:Nat}(x1:o.dst=some d)(x3:zO d n=true)(h:N ⟨(d,⟨.cond t,(false,y)⟩)::Y.F,Y.E,Y.nx⟩)(hb:bnd t y=0:=by rfl):StepA P w0 X n ops o Y N Q:=by
 intro U a w I R x0 hI hR;have hy:=zpJ hd hs x2 x0;have hw:¬zX o (yielded ops a.tmps)=true:=by simp[zX,hg,hy]
 show if zX o (yielded ops a.tmps)=true then _ else _
 rw[if_neg hw,x1];exact hI _ U _ _ (x0.put (zY _ _) (v:=⟨.cond t,(false,y)⟩) ⟨λh=>(by cases h),λ_=>rfl⟩ (by rw[show V.bound ⟨.cond t,(false,y)⟩=bnd t y from rfl,hb];exact zk _) (by simpa using x3)) h
end
theorem za1{P:zA}{w0:zj}{X:Ownr}{n:Nat}{Y:AS}{Q:Exit->AS->Prop}{c d:Code}{Y':AS}(h1:AWP P w0 X n c Y (zil (λs=>Fit s Y') Q))(h2:AWP P w0 X n d Y' Q)(hk:X.K<=Y'.nx:=by exact zb rfl):AWP P w0 X n c Y (zil (λs=>AWP P w0 X n d s Q) Q):=
 AWP.mono h1 λe s h=>by
  cases e with
  |normal=>exact zak h h2 hk
  |_=>exact h
section
variable {P:zA}{K:Kn}{n:Nat}{G:zj->Prop}{f:yR}{fn:Func}{c:Code}
theorem zjS{ctr:HCtr}(hK:KnOk P G K)(hf:P.funcs[f]? =some fn)(hlaw:ctr.law)(hen:∀(us:Array zi)(w:zj),(callFunc f us).run P w=.ok (.enter f us) w)(hst:∀w w' R ty,ctr.inv w R ty->G w->Kept R w w'->G w')
  (h:∀(w0:zj)(O:Nat->Prop)(fix:Nat->Nat)(B:Nat->Prop)(ty:zy),(⟨G,O,1,fix,[],none,B⟩:Ownr).Ok w0->ctr.inv w0 (⟨G,O,1,fix,[],none,B⟩:Ownr).R ty->∀(x:ctr.self.T)(xs:Args ctr.args),allP (ctr.pre x xs)->
    AWP P w0 ⟨G,O,1,fix,[],none,B⟩ n c (zkU ctr ty x xs) (λe Y=>zvA K.T fn.results.toList ctr ty e Y (ctr.out x xs)))
  (hb:fn.body=some c:=by rfl) (hn:fn.ntmps=n:=by rfl) (hd:zbf ctr.args=true:=by rfl) (hlen:ctr.args.length+1<=n:=by exact zb rfl):zcZ P G f ctr:=
 zkW hK hf hb hn hlaw hen hd hlen hst λw0⟨G',O,k,fix,D,ρ,B⟩ty hX hG hk hρ hD hi x xs hp=>by
  obtain rfl:G'=G:=hG;obtain rfl:k=1:=hk;obtain rfl:ρ=none:=hρ;obtain rfl:D=[]:=hD;exact h w0 O fix B ty hX hi x xs hp
theorem ctr2{ctr:Ctr}(hK:KnOk P G K)(hf:P.funcs[f]? =some fn)(hen:∀(us:Array zi)(w:zj),(callFunc f us).run P w=.ok (.enter f us) w)
  (h:∀(w0:zj)(X:Nat->Prop),(qJ G X).Ok w0->∀xs:Args ctr.args,allP (ctr.pre xs)->AWP P w0 (qJ G X) n c (zhz ctr.args xs) (λe Y=>(e=.normal\/e=.ret)/\Done K.T fn.results.toList Y ctr.own ctr.res (ctr.out xs)))
  (hb:fn.body=some c:=by rfl) (hn:fn.ntmps=n:=by rfl) (hd:zbf ctr.args=true:=by rfl) (hlen:ctr.args.length<=n:=by decide) (hnu:ctr.res=.unit->False:=by intro h;cases h):CtrOk P G f ctr:=
 zcm hK hf hb hn hen hd hlen hnu h
end
section
variable {P:zA}{K:Kn}{w0:zj}{X:Ownr}{n:Nat}{Y:AS}{Q:Exit->AS->Prop}{ops:Array Oper}
theorem zab(hK:KnOk P X.G K){id:Nat}{r:List Prop×AS}(hq:Q .normal r.2)(hX:X.Ok w0:=by assumption)(hs:aSeq K n ops ops.toList Y=some r:=by rfl)(hp:allP r.1:=by exact z_)(hd:zaE ops.toList=true:=by rfl):AWP P w0 X n (.region id ops false) Y Q:=
 zac hX hK hs hp hq hd
theorem zat(k:Nat)(hK:KnOk P X.G K){l:List Oper}{r:List Prop×AS}(h:AL P w0 X n ops (l.drop k) r.2 Q)(hX:X.Ok w0:=by assumption)(hs:aSeq K n ops (l.take k) Y=some r:=by rfl)(hp:allP r.1:=by exact z_)(hd:zaE (l.take k)=true:=by rfl):AL P w0 X n ops l Y Q:=
 AL.take k hX hK hs hp h hd
theorem zau(hK:KnOk P X.G K){l:List Oper}{r:List Prop×AS}(hq:Q .normal r.2)(hX:X.Ok w0:=by assumption)(hs:aSeq K n ops l Y=some r:=by rfl)(hp:allP r.1:=by exact z_)(hd:zaE l=true:=by rfl):AL P w0 X n ops l Y Q:=
 AL.all hX hK hs hp hq hd
end
end Go.Proofs.YtdjjmoenpjlfeaaGreatDoor
