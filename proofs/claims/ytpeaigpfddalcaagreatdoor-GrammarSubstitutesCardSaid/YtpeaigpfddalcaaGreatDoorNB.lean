/-
  Texts of this claim, joined: what the statement's proof uses.
-/
import Derived.Test.YtpeaigpfddalcaaGreatDoorNA
set_option linter.unusedSimpArgs false
set_option linter.unusedVariables false
set_option maxRecDepth 100000
open Array renaming all_eq_true_iff_forall_mem -> j8,getD -> jy,getD_eq_getD_getElem? -> zJ,getElem?_eq_getElem -> yj,getElem?_eq_some_iff -> zo,mapM_eq_mapM_toList -> jJ,mem_append -> uE,mem_toList_iff -> jA,replicate -> zz,setIfInBounds_comm -> kc,toList_push -> ur
open Bool renaming and_eq_true -> zf,and_eq_true_iff -> vl,not_eq_true' -> zB,or_eq_true -> yl
open Go renaming DataW -> kB,Frame -> uT,FuncId -> zP,LetsOut -> jP,MapEntry -> km,MemPlace -> kl,Operand -> zE,Program -> zx,ResultVar -> qd,TypeDesc -> ji,TypeId -> zn,Value -> zh,World -> zj,wpIn_mono -> yM
open Go.Addr renaming add_mid -> yZ
open Go.Cell renaming okWide -> kG
open Go.ComesIn renaming of_steps -> kn
open Go.DataW renaming TrodAll -> kR,trod -> jS
open Go.Deferred renaming ofValue -> jE
open Go.Fence renaming wide -> yA
open Go.Frame renaming enter -> uU
open Go.Instr renaming checkKey -> kH,findKey -> kS,lookup -> kx,mapUpdate -> uP
open Go.Oper renaming upon_value -> qK,wp -> qW,wp_mono -> vd
open Go.Proofs.YtpeaigpfddalcaaGreatDoor renaming CtrOk -> yK,Frame -> yJ,Keeps -> xC,OwnRep -> zY,frz -> jt
open Go.Proofs.YtpeaigpfddalcaaGreatDoor.Act renaming put_get -> jU
open Go.Proofs.YtpeaigpfddalcaaGreatDoor.Frame renaming get -> zq,kill -> xh
open Go.Proofs.YtpeaigpfddalcaaGreatDoor.Kept renaming refl -> jn
open Go.Proofs.YtpeaigpfddalcaaGreatDoor.Ownr renaming one -> k8,plain -> qr
open Go.Proofs.YtpeaigpfddalcaaGreatDoor.Owns renaming get -> zm,get_kill -> jm,kill -> yi
open Go.Proofs.YtpeaigpfddalcaaGreatDoor.RepV renaming bool -> qM,keep -> yE
open Go.Region renaming Mode -> kF,binds -> qw,ready -> xi,wanted -> zI
open Go.Result renaming andThen_ok -> zA
open Go.RowKit renaming Below -> yV
open Go.RowKit.Below renaming refl -> zV
open Go.Sem renaming run_bind -> zC,run_pure -> zv
open Go.Value renaming okWide -> vD,pointer -> yk
open Go.World renaming cell? -> xo,putObj_heap_same -> qx
open Int renaming natCast_nonneg -> zi
open List renaming all_cons -> jk,all_eq_true -> zZ,append_assoc -> zp,append_nil -> zL,eq_nil_iff_forall_not_mem -> xy,eq_nil_of_length_eq_zero -> yP,filter_congr -> uo,filter_cons -> kj,filter_eq_nil_iff -> j9,filter_eq_self -> vy,getElem?_append_left -> xX,getElem?_append_right -> xe,getElem?_eq_some_iff -> yI,getElem?_map -> ym,getElem?_set_ne -> qo,getElem?_set_self -> qy,getElem?_take -> zM,getElem_append -> kN,length -> zg,length_append -> zd,length_cons -> zt,length_drop -> yS,length_nil -> zX,length_range -> uq,length_set -> qO,length_take -> yB,map_cons -> qf,mem_append -> yG,mem_cons -> yd,mem_cons_of_mem -> yy,mem_cons_self -> yf,mem_iff_getElem? -> qa,mem_of_getElem? -> qn,mem_range -> yU,mem_singleton -> zw,range -> xE,replicate -> zu,takeWhile_prefix -> jq,take_append_drop -> x9,take_of_length_le -> xx
open Nat renaming add_mul -> xp,add_zero -> j0,beq -> yb,beq_eq -> xc,ble_eq -> qt,blt -> zW,eq_of_beq_eq_true -> xH,le_of_ble_eq_true -> zb,le_refl -> zl,le_succ_of_le -> jX,le_trans -> zH,lt_of_lt_of_le -> zK,lt_succ_self -> y9,zero_add -> yp,zero_le -> zk
open Ne renaming symm -> yT
open Option renaming bind_eq_some_iff -> qp,bind_some -> jF,getD_some -> uD,map_eq_some_iff -> zG
open Option.some renaming inj -> ya
open Go Go.RowKit
namespace Go.Proofs.YtpeaigpfddalcaaGreatDoor
section
variable {P:zx} {K:Kn} {w0:zj} {X:Ownr} {n:Nat} {σ:AS} {β:Nat->zh} {a:Act} {w:zj} {N:Act->zj->Prop} {R:Exit->Act->zj->Prop} {ops:Array Oper}
def asB:zh->Option Bool
 | .bool b=>some b
 |_=>none
theorem zmF {j dj:Nat} (hj:(ops[j]?).bind (·.dst)=some dj) (hd:dj < a.tmps.size):yielded ops a.tmps j=asB (a.tmps.getD dj undef):=by
 unfold yielded;rw[hj];simp only[jF];have:a.tmps[dj]? =some (a.tmps.getD dj undef):=by simp[jy,hd]
 rw[this];cases a.tmps.getD dj undef<;>rfl
theorem zks {O:Nat->Prop} {v:V} {want c:Bool} (h:zra v want=some c) {u:zh} (hr:RepV w O β v.t v.x u):(asB u==some want)=c:=by
 obtain⟨t,x⟩:=v;unfold zra at h;split at h
 ·rename_i b hb;obtain⟨rfl,hb⟩:=V.mk.inj hb;cases hb;cases h;have hr:RepV w O β .bool c u:=hr;have:=qM hr;subst this;cases c<;>rfl
 ·rename_i b hb;obtain⟨rfl,hb⟩:=V.mk.inj hb;cases hb;cases h;have hr:RepV w O β .bool b u:=hr;have:=qM hr;subst this;cases b<;>rfl
 ·rename_i x1 x2 hb;obtain⟨rfl,hb⟩:=V.mk.inj hb;cases hb;cases h;have hr:RepV w O β (.cond .bool) (x1,x2) u:=hr;cases x1 with
  |true=>
   have:=qM (hr.1 rfl);subst this;cases x2<;>rfl
  |false=>
   have:=hr.2 rfl;subst this;rfl
 ·rename_i x1 x2 hb;obtain⟨rfl,hb⟩:=V.mk.inj hb;cases hb;cases h;have hr:RepV w O β (.cond .bool) (x1,x2) u:=hr;cases x1 with
  |true=>
   have:=qM (hr.1 rfl);subst this;cases x2<;>rfl
  |false=>
   have:=hr.2 rfl;subst this;rfl
 ·cases h
theorem zkC {O:Nat->Prop} {c:Bool} {v:V} {u:zh} (h:c=true->RepV w O β v.t v.x u) (h':c=false->u=undef):RepV w O β (zkD c v).t (zkD c v).x u:=by
 obtain⟨t,x⟩:=v;cases t<;>first
  |exact⟨h,h'⟩
  |skip
 rename_i t;have e:zkD c ⟨.cond t,x⟩=⟨.cond t,(c&&x.1,x.2)⟩:=rfl;rw[e];refine⟨fun hc=>?_,fun hc=>?_⟩
 ·have hc:(c&&x.1)=true:=hc;simp only[zf]at hc;exact (h hc.1).1 hc.2
 ·have hc:(c&&x.1)=false:=hc;cases hcc:c with
  |false=>exact h' hcc
  |true=>rw[hcc,Bool.true_and]at hc;exact (h hcc).2 hc
theorem zr4 {G:zj->Prop} (hK:KnOk P G K) (hG:G w) {O:Nat->Prop} {B:Nat} (hO:∀ g,O g->g < w.heap.size) {E:Owns} (hown:∀ i o,zm E i=some o->zY w O β B (β i) o) {F:yJ} {o:Oper} {r:List Prop×V} (h:gOp K n ops E F o=some r) (hp:allP r.1) (hsz:a.tmps.size=n)
  (hops:∀ t∈zn3 ops o,RepV w O β (zq F t).t (zq F t).x (a.tmps.getD t undef))
  (hN:∀ u w',yV w.heap.size w w'->RepV w' O β r.2.t r.2.x u->N (a.put o.dst u) w'):
  if zI o (yielded ops a.tmps) then o.wp P a w N R∨(o.asks P a w∧jP R) else N (a.put o.dst undef) w:=by
 have hop2:∀ x∈o.op.operands,RepV w O β (evO F x).t (evO F x).x (a.eval x):=fun x hx=>zpz fun s hs=>hops s (by
  unfold zn3;refine yG.2 (.inl (List.mem_filterMap.2 ⟨x,by simpa using hx,?_⟩));rw[hs])
 unfold gOp at h;cases hg:o.guard with
 |none=>
  rw[hg]at h;simp only at h;split at h<;>first|(cases h;done)|skip
  rename_i p t x h1;have h2:=h;split at h2
  ·cases h2;simp only[zI,hg,if_true];exact .inl (zsb hK.t hK.c hG hO hown h1 hp hop2 hN)
  ·cases h2
 |some g=>
  obtain⟨j,want⟩:=g;rw[hg]at h;simp only at h;split at h
  ·rename_i dj hdj;split at h
   ·rename_i hlt;split at h<;>first|(cases h;done)|skip
    rename_i c p v h1 h3;have h4:=h;split at h4<;>first|(cases h4;done)|skip
    ·have h4:=zkn h4;subst h4;have hlt':dj < n:=by simpa using hlt
     have hrep:=hops dj (by unfold zn3;rw[hg];simp[hdj]);have hw:zI o (yielded ops a.tmps)=c:=by
      unfold zI;rw[hg];simp only;rw[zmF hdj (by rw[hsz];exact hlt')];exact zks h1 hrep
     rw[hw];cases hc:c with
     |true=>
      rw[if_pos rfl];refine .inl (zsb hK.t hK.c hG hO hown h3 (zhQ hp hc) hop2 fun u w' hb hr=>hN u w' hb (zkC (fun _=>hr) (fun h0=>?_)));rw[hc]at h0;cases h0
     |false=>
      rw[if_neg (by simp)];exact hN undef w (zV _ _) (zkC (fun h0=>by rw[hc]at h0;cases h0) fun _=>rfl)
   ·cases h
  ·cases h
theorem zlt {c:Bool} {v:V}:(zkD c v).bound=v.bound:=by
 obtain⟨t,x⟩:=v;cases t<;>rfl
theorem zkG {E:Owns} {F:yJ} {op:Op} {p:List Prop} {t:Ty} {x:t.T} (h1:cOp K.T K.Q K.C E F op=some (p,⟨t,x⟩)) (hh:(!t.hand||zf2 op)=true) {m:Nat} (hF:∀ s,(zq F s).bound≤m) (hE:∀ i o,zm E i=some o->i < m∧o.under m) (hT:∀ t τ,tget K.T t=some τ->τ.data=true):bnd t x≤m:=by
 cases hr:t.hand with
 |false=>rw[zjt _ _ hr];exact zk _
 |true=>
  rw[hr]at hh;have hp:pOp K.T K.Q E F op=some (p,⟨t,x⟩):=by
   unfold cOp at h1;split at h1
   ·cases hh
   ·exact h1
  exact zj6 hp (by show (!t.hand||zf2 op)=true;rw[hr];exact hh) hF hE hT
theorem zkt {E:Owns} {F:yJ} {o:Oper} {r:List Prop×V} (h:gOp K n ops E F o=some r) {m:Nat} (hF:∀ s,(zq F s).bound≤m) (hE:∀ i o,zm E i=some o->i < m∧o.under m) (hT:∀ t τ,tget K.T t=some τ->τ.data=true):r.2.bound≤m:=by
 unfold gOp at h;split at h
 ·split at h<;>first|(cases h;done)|skip
  rename_i p t x h1;have h2:=h;split at h2
  ·rename_i hh;cases h2;exact zkG h1 hh hF hE hT
  ·cases h2
 ·split at h
  ·split at h
   ·split at h<;>first|(cases h;done)|skip
    rename_i c p v h1 h3;have h4:=h;split at h4<;>first|(cases h4;done)|skip
    rename_i hh;have h4:=zkn h4;subst h4;show (zkD c v).bound≤m;rw[zlt];obtain⟨t,x⟩:=v;exact zkG h3 hh hF hE hT
   ·cases h
  ·cases h
theorem zjO {t:zn} {τ:Ty} (ht:Lay P τ (.inl t)) {g off:Nat} {u:zh} {cur:List zh} {ty:zn} {w:zj} (hg:w.heap[g]? =some (.cells cur.toArray ty (0,0))) (hl:u.cells.toList.length=τ.size) (hf:off+τ.size≤cur.length) (h1:∀ y∈u.cells.toList,y.oneCell'=true):
  (Instr.storeAt t (.pointer (some ⟨g,off,none⟩)) u).run P w= .ok () (w.setRow g (over cur off u.cells.toList).toArray):=by
 have hrun:=run_storeCells_at P g off ty u.cells.toList 0 cur.toArray w hg (by rw[hl];simpa using hf) h1;simp only[j0]at hrun;unfold Instr.storeAt Instr.sureAddr storeVar;simp only[zC,zv,zA,ht.sizeOf];rw[if_neg (by simp only[ne_eq,Decidable.not_not];rw[<-hl];simp)];exact hrun
theorem RepH.one {O:Nat->Prop} {β:Nat->zh} {w:zj}:∀ {vs:List V} {cs:List zh},RepH w O β vs cs->∀ y∈cs,y.oneCell'=true
 | [],_,h,y,hy=>by
  have h:_=[]:=h;subst h;cases hy
 |v::r,_,⟨u,s,e,h2,h3,h4⟩,y,hy=>by
  subst e;rcases yd.1 hy with rfl|hy
  ·exact h2
  ·exact RepH.one h4 y hy
theorem zjd:∀ (t:Ty) (x:t.T),t.leafy=true->∀ v,v∈zaW t x->v.bound≤bnd t x:=by
 intro t
 induction t with
 |pair a b iha ihb=>
  intro x hl v hv;have hl:((Ty.pair a b).data&&(Ty.pair a b).noArr)=true:=hl;simp only[Ty.data,Ty.noArr,zf]at hl;rcases yG.1 hv with hv|hv
  ·have:=iha x.1 (by cases a<;>first|exact vl.2 ⟨hl.1.1,hl.2.1⟩|(cases hl.1.1;done)) v hv;rwa[zju _ _ hl.1.1]at this
  ·have:=ihb x.2 (by cases b<;>first|exact vl.2 ⟨hl.1.2,hl.2.2⟩|(cases hl.1.2;done)) v hv;rwa[zju _ _ hl.1.2]at this
 |unit=>intro x _ v hv;cases hv
 |hcons a b _ ihb=>
  intro x hl v hv;show v.bound≤max (bnd a x.1) (bnd b x.2);rcases yd.1 hv with rfl|hv
  ·exact Nat.le_max_left _ _
  ·exact zH (ihb x.2 hl v hv) (Nat.le_max_right _ _)
 |arr n t _=>
  intro x hl;have hl:((Ty.arr n t).data&&(Ty.arr n t).noArr)=true:=hl;simp[Ty.noArr]at hl
 |_=>
  intro x _ v hv;have hv:=zw.1 hv;subst hv;exact zl _
theorem zkA (v:zh):(evC v).bound=0:=by
 have:=zep (F:=[]) (m:=0) (fun s=>zl _) (.const v);exact Nat.eq_zero_of_le_zero this
theorem zjc {E:Owns} {v:V} {ls:List V} (h:zhp E v=some ls):∀ l,l∈ls->l.bound≤v.bound:=by
 obtain⟨t,x⟩:=v;unfold zhp at h;split at h
 ·rename_i y he;unfold zhq at h;split at h
  ·split at h
   ·cases h;intro l hl;obtain⟨c,_,rfl⟩:=List.mem_map.1 hl;rw[zkA];exact zk _
   ·cases h
  ·cases h
  ·cases h;intro l hl;rw[zw.1 hl];exact zk _
 ·rename_i t' j he;obtain⟨rfl,he⟩:=V.mk.inj he;cases he;split at h
  ·cases h;intro l hl;rw[zw.1 hl];exact zl _
  ·cases h
 ·rename_i h1 h2 he;obtain⟨rfl,he⟩:=V.mk.inj he;cases he;split at h
  ·rename_i hl;cases h;exact zjd _ _ hl
  ·cases h
theorem zq8 (hK:KnOk P X.G K) (hX:X.Ok w0) (h:Sim w0 X n σ β a w) {o:Oper} {r:List Prop×AS} (hs:ztn K n o σ=some r) (hp:allP r.1)
  (hN:∀ β' a' w',Sim w0 X n r.2 β' a' w'->N a' w'):o.wp P a w N R:=by
 obtain⟨F,E,nx⟩:=σ;simp only[ztn]at hs;split at hs
 ·rename_i t p x hop hdst;split at hs<;>first|(cases hs;done)|skip
  rename_i i k hq;split at hs<;>first|(cases hs;done)|skip
  rename_i vs τ hob hτ;split at hs<;>first|(cases hs;done)|skip
  rename_i ws hw;cases hs;simp only[zax]at hp;have hpp:=za7 (h.ops p) hp.1;rw[hq]at hpp;obtain⟨g,h2,h3⟩:=hpp;have hl:=hK.t.lay _ _ hτ;have hx:=za7 (h.ops x) hp.2;unfold putH at hw;split at hw<;>first|(cases hw;done)|skip
  rename_i ls hls;split at hw<;>first|(cases hw;done)|skip
  rename_i hc;cases hw;simp only[zf,xc,qt]at hc;have hlr:=zle (B:=0) h.own hls hx;obtain⟨g',cs,e1,e2,e3,e4⟩:=h.own _ _ hob;have hgg:g'=g:=by rw[e1]at h2;simpa [zag] using h2
  subst hgg;have hvl:=e4.len;have hll:=hlr.len;have hrun:=zjO (P:=P) hl (off:=k) e3 (by rw[<-hll];exact hc.1) (by rw[<-hvl];exact hc.2) hlr.one;unfold qW;have e:(execOp a.eval o).run P w= .ok .skip (w.setRow g' (over cs k (a.eval x).cells.toList).toArray):=by
   unfold execOp;simp only[hop];rw[h3];simp[hrun]
  rw[e];show N (a.put o.dst undef) _;rw[hdst];refine hN β a _ (h.write hob (by rw[h2];exact zhx w g' _) (fun hk=>?_) rfl ?_)
  ·refine⟨g',over cs k (a.eval x).cells.toList,e1,e2,setRow_heap w g' cs.toArray _ _ _ e3,?_⟩;have h5:RepH w (OSet X E β) β (vs.take k++ls++vs.drop (k+τ.size)) (over cs k (a.eval x).cells.toList):=by
    unfold over;rw[<-hll,hc.1];exact ((e4.take k).append hlr).append (e4.drop _)
   exact h5.keep hk
  ·intro us e v hv;cases e;rcases yG.1 hv with hv|hv
   ·rcases yG.1 hv with hv|hv
    ·exact h.hE _ _ hob vs rfl v (List.mem_of_mem_take hv)
    ·exact zH (zjc hls v hv) (zH (zgZ _) (zep h.hb x))
   ·exact h.hE _ _ hob vs rfl v (List.mem_of_mem_drop hv)
 ·rename_i t d hop hdst;split at hs<;>first|(cases hs;done)|skip
  rename_i hc;split at hs<;>first|(cases hs;done)|skip
  rename_i τ hτ;split at hs<;>first|(cases hs;done)|skip
  rename_i hone;cases hs;simp only[zf]at hc;have hd:d < n:=by simpa using hc.2
  have hl:=hK.t.lay _ _ hτ;obtain⟨i,z,hi,_,hz,hzc,_⟩:=hl.info;have hrep:∀ (w':zj) (O:Nat->Prop) (β':Nat->zh) (l:List zh),l.all Value.oneCell'=true->RepH w' O β' (l.map evC) l:=by
   intro w' O β' l
   induction l with
   |nil=>intro _;exact rfl
   |cons c l ih=>
    intro hl;simp only[jk,zf]at hl;exact⟨c,l,rfl,hl.1,zlo c,ih hl.2⟩
  obtain⟨β',hs'⟩:=h.make hX (za4 w (.cells (zbW τ).toArray t)) (bv:=.pointer (some ⟨w.heap.size,0,none⟩)) (o:=.hbox t ((zbW τ).map evC)) (v:=⟨.hptr,(nx,0)⟩) (u:=.pointer (some ⟨w.heap.size,0,none⟩)) (d:=d)
   (fun O β' _=>⟨w.heap.size,zbW τ,rfl,zk _,heap_alloc_new w _,hrep _ _ _ _ hone⟩) (fun g hg=>by cases hg;exact zl _)
   (fun O β' hβ=>⟨w.heap.size,by show zag (β' nx)=_;rw[hβ];rfl,rfl⟩) (zl _) hd (by
     intro us e v hv;cases e;obtain⟨c,_,rfl⟩:=List.mem_map.1 hv;rw[zkA];exact zk _)
  refine zbz (u:=.pointer (some ⟨w.heap.size,0,none⟩)) (w':=w.alloc (.cells (zbW τ).toArray t)) ?_ (by rw[hdst];exact hN β' _ _ hs');unfold execOp;simp[hop,Instr.alloc,zeroValue,typeInfo,hi,hz,newVar,newRow,hzc]
 ·rename_i t parts d hop hdst;split at hs<;>first|(cases hs;done)|skip
  rename_i hc;split at hs<;>first|(cases hs;done)|skip
  rename_i ta tb hτ;cases hs;simp only[zf]at hc;have hd:d < n:=by simpa using hc.1.2
  have hparts:parts= #[]:=by
   have:=hc.2;rw[List.isEmpty_iff]at this;rw[<-Array.toList_inj,this]
  subst hparts;have hl:=hK.t.lay _ _ hτ;obtain⟨fs,h2,hinf,f,rr,h3,h4,h5,h6⟩:=hl;obtain⟨i,z,hi,hs',hz,hzc,_⟩:=hinf;have hlr:Lay P (.pair ta tb) (.inr (fs.toList,0)):=⟨f,rr,h3,h4,h5,by simpa using h6⟩;obtain⟨places,h7,h8⟩:=zj3 _ _ _ hlr;have hrun:(Instr.build t #[]).run P w= .ok (.agg (zbW (.pair ta tb)).toArray) w:=by
   refine run_build w t #[] _ ?_;unfold Program.built;rw[hi,h2];simp only[hz,h7,hzc];rfl
  refine zbz (u:=.agg (zbW (.pair ta tb)).toArray) (w':=w) ?_ ?_
  ·unfold execOp;simp only[hop];exact zdH (by simpa using hrun)
  ·rw[hdst];exact hN β _ _ (h.put (zV _ _) (v:=⟨.lit,.agg (List.toArray (zbW (.pair ta tb)))⟩) rfl (zk _) hd)
 ·cases hs
theorem zg7 {O:Nat->Prop} {B:Nat} {v:zh}:∀ {t:Ty} (z:t.T),t.resOk=true->(t= .unit∨zdu w O B none t z v)->RepV w O β (resV t z).t (resV t z).x v:=by
 intro t;cases t with
 |unit=>intro z _ _;exact trivial
 |slice τ=>rintro z _ (e|h2);cases e;exact zcA h2
 |bool=>rintro z h (e|h2);cases e;exact h2 β
 |int k=>rintro z h (e|h2);cases e;exact h2 β
 |str=>rintro z h (e|h2);cases e;exact h2 β
 |pair a b=>rintro z h (e|h2);cases e;exact h2 β
 |arr n e=>rintro z h (e|h2);cases e;exact h2 β
 |tup a b=>rintro z h (e|h2);cases e;exact h2 β
 |_=>intro z h;cases h
theorem ze0 {t:Ty} (z:t.T) (h:t.resOk=true) (m:Nat):(resV t z).bound≤m:=by
 cases t<;>first|exact zk _|cases h
theorem zqB {C:List (zP×RCtr)} (hC:RsOk P X.G C) (hX:X.Ok w0) (h:Sim w0 X n σ β a w) {o:Oper} {r:List Prop×AS} (hs:zsN C n o σ=some r) (hp:allP r.1)
  (hN:∀ β' a' w',Sim w0 X n r.2 β' a' w'->N a' w'):o.wp P a w N R:=by
 unfold zsN at hs;split at hs<;>first|(cases hs;done)|skip
 rename_i f args ts hop;split at hs<;>first|(cases hs;done)|skip
 rename_i a0 zas c hargs hc;have h1:=h.frzs hX zas;split at hs;rename_i F E nx hσ;rw[hσ]at h1;split at hs<;>first|(cases hs;done)|skip
 rename_i t0 p hev;split at hs<;>first|(cases hs;done)|skip
 rename_i s x hbox;split at hs<;>first|(cases hs;done)|skip
 rename_i hcond;simp only[zf,xc]at hcond;obtain⟨⟨⟨hoff,hd⟩,hfl⟩,hself⟩:=hcond;split at hs<;>first|(cases hs;done)|skip
 rename_i y q xs hcoe hav;split at hs<;>first|(cases hs;done)|skip
 rename_i F' hput;cases hs;simp only[zax]at hp;obtain⟨hq,hpre⟩:=hp;obtain⟨⟨hen,hcall⟩,hinv⟩:=hC f c hc;have hv:=h1.ops a0;rw[show evO (AS.mk F E nx).F a0=_ from hev]at hv;obtain⟨g,hg1,hg2⟩:=hv;rw[hoff]at hg2;obtain⟨g',cs,ty,e1,_,e3,e4⟩:=h1.own _ _ hbox;have hgg:g'=g:=by rw[e1]at hg1;simpa [zag] using hg1
 subst hgg;rcases zeI hcoe with hcs|⟨hcs,_⟩
 case inr=>cases hcs;exact absurd e4 id
 cases hcs;have hOg:OSet X E β g':=.inr ⟨_,_,hbox,by rw[e1];rfl⟩;have hset:(fun k=>false=false∧OSet X E β k)=fun k=>(OSet X E β k∧k≠g')∨k=g':=by
  funext k
  apply propext;constructor
  ·rintro ⟨_,hk⟩;by_cases e:k=g'
   ·exact .inr e
   ·exact .inl ⟨hk,e⟩
  ·rintro (⟨hk,_⟩|rfl)
   ·exact⟨rfl,hk⟩
   ·exact⟨rfl,hOg⟩
 have hset2:OSet X E β=fun k=>(OSet X E β k∧k≠g')∨k=g':=by
  rw[<-hset]
  funext k
  simp
 have hvs:RepVs w (OSet X E β) β (zas.map (evO F)) (zas.map a.eval):=by
  refine⟨by simp,fun i v hv=>?_⟩;rw[ym]at hv;obtain⟨z,hz,rfl⟩:=zG.1 hv;exact⟨a.eval z,by rw[ym,hz];rfl,h1.ops z⟩
 have ha:=zdt (B:=0) h1.own hd hav hq hvs.2 hvs.1;rw[hset]at ha;rw[hset2]at e4;have hO:∀ k,(OSet X E β k∧k≠g')->k < w.heap.size∧k≠g':=fun k hk=>⟨h1.hO hX k hk.1,hk.2⟩;refine zgB hop hen ?_;rw[hargs,qf,hg2];refine (hcall w _ g' cs ty _ xs _ hO e3 e4 ha hpre (hinv w g') (hX.2.2 w h.bel)).mono fun e w' hr=>?_;obtain⟨v,cs',ty',he,hk,hc',hrep,hres⟩:=hr;refine⟨v,he,?_⟩;have h2:=h1.write (w':=w') (o':=.box c.self (c.post y xs)) hbox ⟨hk.os,hk.tape,hk.output,hk.size,fun k hkl hne=>hk.block k hkl fun e=>hne (by rw[e1,e];rfl)⟩ (fun _=>⟨g',cs',ty',e1,zk _,hc',by rw[hset2];exact hrep⟩) rfl;unfold putD at hput;split at hput
 ·rename_i d hdst;split at hput<;>first|(cases hput;done)|skip
  rename_i hlt;cases hput;rw[hdst];have hkp:xC w' w' (fun k=>(OSet X E β k∧k≠g')∨k=g') (OSet X ((p.i,some (.box c.self (c.post y xs)))::E) β):=⟨zl _,fun _ _ _=>rfl,fun k _ hk=>by
   suffices h0:OSet X E β k by rw[hset2]at h0;exact h0
   rcases hk with hk|⟨m,om,hm,hbm⟩
   ·exact .inl hk
   ·rw[zah]at hm;by_cases hpm:p.i=m
    ·subst hpm;exact .inr ⟨_,_,hbox,hbm⟩
    ·rw[if_neg hpm]at hm;exact .inr ⟨m,om,hm,hbm⟩⟩
  have h3:=h2.put (zV _ _) (yE hkp _ _ _ (zg7 (β:=β) _ hfl hres)) (ze0 _ hfl _) (by simpa using hlt:d < n);exact hN _ _ _ h3
 ·rename_i hdst;cases hput;rw[hdst];exact hN _ _ _ h2
theorem zgT (hK:KnOk P X.G K) (hX:X.Ok w0) (h:Sim w0 X n σ β a w) {o:Oper} {r:List Prop×AS} (hs:znx K n ops o σ=some r) (hp:allP r.1)
  (hN:∀ β' a' w',Sim w0 X n r.2 β' a' w'->N a' w'):if zI o (yielded ops a.tmps) then o.wp P a w N R∨(o.asks P a w∧jP R) else N (a.put o.dst undef) w:=by
 unfold znx at hs;split at hs
 ·rename_i hg;simp only[zI,hg,if_true];split at hs
  ·rename_i r' hm;cases hs;exact .inl (zqS hK hX h hm hp hN)
  ·split at hs
   ·rename_i r' hm;cases hs;exact .inl (ztL hK h hm hp hN)
   ·split at hs
    ·rename_i r' hm;cases hs;exact .inl (zq8 hK hX h hm hp hN)
    ·split at hs
     ·rename_i r' hm;cases hs;exact .inl (zqB hK.r hX h hm hp hN)
     ·exact .inl (zpD hK hX (h.frzs hX _) hs hp hN)
 ·split at hs
  ·rename_i d F E nx hd;split at hs
   ·rename_i hlt;split at hs<;>first|(cases hs;done)|skip
    rename_i p t x h1;cases hs;have hlt':d < n:=by simpa using hlt
    refine zr4 hK (hX.2.2 w h.bel) (h.hO hX) h.own h1 hp h.sz (fun t _=>h.fr t) fun u w' hb hr=>?_;rw[hd];exact hN β _ _ (h.puts hb hr (zkt h1 h.hb (fun i o ho=>⟨h.lt i o ho,h.hE i o ho⟩) fun t τ ht=>(hK.t.lay t τ ht).data) hlt')
   ·cases hs
  ·cases hs
theorem zgd (hK:KnOk P X.G K) (hX:X.Ok w0):∀ (l:List Oper) {σ:AS} {β:Nat->zh} {a:Act} {w:zj} {r:List Prop×AS},Sim w0 X n σ β a w->aSeq K n ops l σ=some r->allP r.1->
  (∀ β' a' w',Sim w0 X n r.2 β' a' w'->R .normal a' w')->wpList P ops R l a w
 | [],σ,β,a,w,r,h,hs,_,hR=>by
  cases hs;exact hR β a w h
 |o::l,σ,β,a,w,r,h,hs,hp,hR=>by
  simp only[aSeq]at hs;split at hs<;>first|(cases hs;done)|skip
  rename_i p σ' h1;obtain⟨q,h3,rfl⟩:=zhf hs;simp only[zax]at hp;exact zgT hK hX h h1 hp.1 fun β' a' w' hs'=>zgd hK hX l hs' h3 hp.2 hR
end
section
variable {P:zx} {md:kF} {ops:Array Oper} {R:Exit->Act->zj->Prop}
theorem zqA {m:Nat} {listed:Array Bool} (hb:znw ops=true) (hm:m≤ops.size) (inv:HeadInv .any ops m listed) {i:Nat} (hi:i < m) (hun:listed.getD i false=false):xi .any ops listed≠ []:=by
 have key:∀ k,∀ i,i≤k->i < m->listed.getD i false=false->xi .any ops listed≠ []:=by
  intro k
  induction k with
  |zero=>
   intro i hik him hl;have:i=0:=by omega
   subst this;intro h0;have hlt:0 < ops.size:=by omega
   have hmem:0∈xi .any ops listed:=mem_ready.2 ⟨getD_in (by rw[inv.size];exact hlt) hl,ops[0],by simp[hlt],fun e he hbd=>by
    have h1:=zZ.1 hb 0 (yU.2 hlt);simp only[yj hlt]at h1;have h2:=(j8.1 h1) e he;simp[hbd]at h2⟩
   rw[h0]at hmem;cases hmem
  |succ k ih=>
   intro i hik him hl;by_cases hex:∃ j,j < i∧listed.getD j false=false
   ·obtain⟨j,hj,hlj⟩:=hex;exact ih j (by omega) (by omega) hlj
   ·intro h0;have hlt:i < ops.size:=by omega
    have hmem:i∈xi .any ops listed:=mem_ready.2 ⟨getD_in (by rw[inv.size];exact hlt) hl,ops[i],by simp[hlt],fun e he hbd=>by
     have h1:=zZ.1 hb i (yU.2 hlt);simp only[yj hlt]at h1;have h2:=(j8.1 h1) e he;simp only[hbd,Bool.not_true,Bool.or_false]at h2;have h3:e.on < i:=by simpa using h2
     cases h4:listed.getD e.on false with
     |true=>rfl
     |false=>exact absurd ⟨e.on,h3,h4⟩ hex⟩
    rw[h0]at hmem;cases hmem
 exact key i i (zl _) hi hun
def left (listed:Array Bool) (m:Nat):Nat:=((xE m).filter fun i=>!listed.getD i false).length
theorem zl6 {listed:Array Bool} {m i:Nat} (hi:i < m) (hs:i < listed.size) (hun:listed.getD i false=false):left (listed.setIfInBounds i true) m+1=left listed m:=by
 unfold left;have h1:(xE m).filter (fun j=>!listed.getD j false)=(xE m).filter (fun j=>!(listed.setIfInBounds i true).getD j false||decide (j=i)):=by
  apply uo;intro j hj;by_cases hji:j=i
  ·subst hji;simp[hun]
  ·rw[getD_set_ne false (yT hji)];simp[hji]
 rw[h1];have h2:∀ (l:List Nat),l.Nodup->i∈l->(l.filter fun j=>!(listed.setIfInBounds i true).getD j false||decide (j=i)).length=(l.filter fun j=>!(listed.setIfInBounds i true).getD j false).length+1:=by
  have hii:(listed.setIfInBounds i true).getD i false=true:=by simp[jy,hs]
  intro l
  induction l with
  |nil=>intro _ h;cases h
  |cons a l ih=>
   intro hnd hmem;rw[List.nodup_cons]at hnd;by_cases ha:a=i
   ·subst ha;have h3:l.filter (fun j=>!(listed.setIfInBounds a true).getD j false||decide (j=a))=l.filter (fun j=>!(listed.setIfInBounds a true).getD j false):=by
     apply uo;intro j hj;have:j≠a:=fun e=>hnd.1 (e▸hj);simp[this]
    rw[kj,kj,if_pos (by simp),if_neg (by rw[hii];simp),h3,zt]
   ·have hm':i∈l:=by rcases yd.1 hmem with h|h;exact absurd h.symm ha;exact h
    have:=ih hnd.2 hm';simp only[kj,ha,decide_false,Bool.or_false];split
    ·simp only[zt,this]
    ·exact this
 exact (h2 _ List.nodup_range (yU.2 hi)).symm
theorem zo0 {listed:Array Bool} {m:Nat} (h:left listed m=0):∀ i,i < m->listed.getD i false=true:=by
 intro i hi;unfold left at h;have h1:=yP h;have h2:=j9.1 h1 i (yU.2 hi)
 simpa using h2
theorem zqZ {listed:Array Bool} {m k:Nat} (h:left listed m=k+1):∃ i,i < m∧listed.getD i false=false:=by
 unfold left at h;cases hl:(xE m).filter (fun i=>!listed.getD i false) with
 |nil=>rw[hl]at h;cases h
 |cons a l=>
  have:a∈(xE m).filter (fun i=>!listed.getD i false):=by rw[hl];simp
  rw[List.mem_filter,yU]at this;exact⟨a,this.1,by simpa using this.2⟩
theorem zid {m:Nat} (hm:m≤ops.size) (hb:znw ops=true) (htl:m=ops.size∨(Region.sinkB .any ops m=true∧Region.chainB .any ops m=true)) (I:Array Bool->Act->zj->Prop) {g:Nat}
  (hstep:∀ listed a w,I listed a w->∀ i,i < m->i∈xi .any ops listed->wpOp P ops R i (I (listed.setIfInBounds i true)) a w)
  (htail:∀ listed a w,HeadInv .any ops m listed->(∀ i,i < m->listed.getD i false=true)->I listed a w->wpAny P .any ops R g listed a w):
  ∀ (f:Nat) (listed:Array Bool) (a:Act) (w:zj),left listed m=f->HeadInv .any ops m listed->I listed a w->wpAny P .any ops R (f+g) listed a w:=by
 intro f
 induction f with
 |zero=>
  intro listed a w hl inv hI;rw[yp];exact htail listed a w inv (zo0 hl) hI
 |succ f ih=>
  intro listed a w hl inv hI;obtain⟨i0,hi0,hun0⟩:=zqZ hl;have hne:=zqA hb hm inv hi0 hun0;rw[show f+1+g=(f+g)+1 by omega];refine⟨fun h0=>absurd h0 hne,fun i hi=>?_⟩;have hun:=(mem_ready.1 hi).1;have hisz:i < ops.size:=by
   obtain⟨_,o,ho,_⟩:=mem_ready.1 hi;exact (zo.1 ho).1
  have him:i < m:=by
   rcases Nat.lt_or_ge i m with h|h
   ·exact h
   ·rcases htl with h1|⟨h1,h2⟩
    ·omega
    ·exact absurd hi (tail_waits h1 h2 (by omega) inv _ i0 rfl hi0 (getD_in (by rw[inv.size];omega) hun0) i h)
  refine wpOp_mono (fun a' w' hI'=>ih _ a' w' ?_ (inv.set hi him) hI') (hstep listed a w hI i him hi);have:=zl6 him (by rw[inv.size];exact hisz) (getD_both hun);omega
end
def zdX:yJ->List Oper->List V->yJ
 |F,o::l,v::vs=>zdX ((o.dst.getD 0,v)::F) l vs
 |F,_,_=>F
theorem zdi:∀ (l:List Oper) (vs:List V) (F:yJ) (t:Nat),(∀ o∈l,o.dst.isSome=true)->(∀ o∈l,o.dst≠some t)->zq (zdX F l vs) t=zq F t
 | [],_,_,_,_,_=>by simp[zdX]
 |o::l,[],_,_,_,_=>by simp[zdX]
 |o::l,v::vs,F,t,hs,h=>by
  simp only[zdX];rw[zdi l vs _ t (fun o ho=>hs o (by simp[ho])) (fun o ho=>h o (by simp[ho])),zat,if_neg];intro e;have h1:=hs o (by simp);have h2:=h o (by simp);cases hd:o.dst with
  |none=>rw[hd]at h1;cases h1
  |some d=>rw[hd]at h2 e;exact h2 (by rw[<-e];rfl)
theorem zfo:∀ (l:List Oper) (vs:List V) (F:yJ) (t k:Nat) (o:Oper) (v:V),(∀ o∈l,o.dst.isSome=true)->l[k]? =some o->o.dst=some t->vs[k]? =some v->
  (∀ k' o',k < k'->l[k']? =some o'->o'.dst≠some t)->zq (zdX F l vs) t=v
 |o::l,v::vs,F,t,0,o',v',hs,hk,hd,hv,hno=>by
  cases hk;cases hv;simp only[zdX];rw[zdi l vs _ t (fun o ho=>hs o (by simp[ho])) (fun o'' ho=>by
   obtain⟨k',hk'⟩:=qa.1 ho;exact hno (k'+1) o'' (by omega) (by simpa using hk')),zat,if_pos (by rw[hd];rfl)]
 |o::l,v::vs,F,t,k+1,o',v',hs,hk,hd,hv,hno=>by
  simp only[zdX];exact zfo l vs _ t k o' v' (fun o ho=>hs o (by simp[ho])) (by simpa using hk) hd (by simpa using hv) fun k' o'' hkk hk'=>hno (k'+1) o'' (by omega) (by simpa using hk')
 | [],_,_,_,_,_,_,_,hk,_,_,_=>by simp at hk
 |_::_,[],_,_,_,_,_,_,_,_,hv,_=>by simp at hv
section
variable {P:zx} {K:Kn} {w0:zj} {X:Ownr} {n:Nat} {σ:AS} {β:Nat->zh} {a:Act} {w:zj} {R:Exit->Act->zj->Prop} {ops:Array Oper}
theorem ziI:∀ (l:List Oper) (σ:AS) (r:List Prop×AS),zib K n ops l σ=some r->∃ rs:List (List Prop×V),rs.length=l.length∧(allP r.1->∀ q∈rs,allP q.1)∧r.2={ σ with F:=zdX σ.F l (rs.map (·.2)) }∧
  ∀ i o,l[i]? =some o->∃ d q,o.dst=some d∧d < n∧rs[i]? =some q∧gOp K n ops σ.E (zdX σ.F (l.take i) ((rs.map (·.2)).take i)) o=some q
 | [],σ,r,h=>by
  cases h;exact⟨[],rfl,fun _ q hq=>by simp at hq,rfl,fun i o hi=>by simp at hi⟩
 |o::l,σ,r,h=>by
  obtain⟨F,E,nx⟩:=σ;simp only[zib]at h;split at h
  ·rename_i d hd;split at h
   ·rename_i hlt;split at h<;>first|(cases h;done)|skip
    rename_i p t x h1;obtain⟨q',h3,rfl⟩:=zhf h;obtain⟨rs,g1,g2,g3,g4⟩:=ziI l _ _ h3;refine⟨(p,⟨t,x⟩)::rs,by simp[g1],fun hp y hx=>?_,?_,fun i o' hi=>?_⟩
    ·rw[zax]at hp;rcases yd.1 hx with rfl|hx
     ·exact hp.1
     ·exact g2 hp.2 y hx
    ·rw[g3];simp only[qf,zdX,hd,uD]
    ·cases i with
     |zero=>
      cases hi;exact⟨d,_,hd,by simpa using hlt,rfl,by simpa [zdX] using h1⟩
     |succ i=>
      obtain⟨d',q'',e1,e2,e3,e4⟩:=g4 i o' (by simpa using hi);refine⟨d',q'',e1,e2,by simpa using e3,?_⟩;simp only[qf,List.take_succ_cons,zdX,hd,uD]at e4 ⊢;exact e4
   ·cases h
  ·cases h
theorem zkB (hK:KnOk P X.G K) (hX:X.Ok w0) (h:Sim w0 X n σ β a w) {m:Nat} (hB:zko ops m=true) {r1:List Prop×AS} (h1:zib K n ops (ops.toList.take m) σ=some r1)
  (hp1:allP r1.1) (hT:∀ a' w',Sim w0 X n r1.2 β a' w'->wpList P ops R (ops.toList.drop m) a' w'):wpAny P .any ops R ops.size (zz ops.size false) a { w with drawn:=w.drawn+1 }:=by
 simp only[zko,zf,qt]at hB;obtain⟨⟨⟨⟨hms,hflow⟩,hback⟩,htl0⟩,hseq⟩:=hB;have htl:m=ops.size∨(Region.sinkB .any ops m=true∧Region.chainB .any ops m=true):=by
  simp only[yl,zf,xc]at htl0;exact htl0
 obtain⟨rs,hl,hps,hr1,hspec⟩:=ziI _ _ _ h1;have hlen:(ops.toList.take m).length=m:=by simp;omega
 rw[hlen]at hl;have hget:∀ i,i < m->∃ o d q,ops[i]? =some o∧o.dst=some d∧d < n∧rs[i]? =some q∧gOp K n ops σ.E (zdX σ.F (ops.toList.take i) ((rs.map (·.2)).take i)) o=some q:=by
  intro i hi;have hlt:i < ops.size:=by omega
  obtain⟨d,q,e1,e2,e3,e4⟩:=hspec i ops[i] (by rw[zM,if_pos hi];simp[hlt]);rw[List.take_take,Nat.min_eq_left (by omega)]at e4;exact⟨ops[i],d,q,by simp[hlt],e1,e2,e3,e4⟩
 have hsome:∀ k,k≤m->∀ o∈ops.toList.take k,o.dst.isSome=true:=by
  intro k hk o ho;obtain⟨i,hi⟩:=qa.1 ho;rw[zM]at hi;split at hi
  ·obtain⟨o',d,q,e1,e2,_⟩:=hget i (by omega);have:o'=o:=by
    have:ops.toList[i]? =some o':=by simpa using e1
    rw[this]at hi;cases hi;rfl
   rw[<-this,e2];rfl
  ·cases hi
 have hdist:∀ i j oi oj,i < m->j < m->ops[i]? =some oi->ops[j]? =some oj->i≠j->oi.dst≠oj.dst:=by
  intro i j oi oj hi hj hoi hoj hij;have h3:=zZ.1 hflow j (yU.2 hj);rw[hoj]at h3;have h4:=zZ.1 h3 i (yU.2 hi);rw[hoi]at h4;simp only[zf,yl,xc,zB]at h4;rcases h4.1 with h5|h5
  ·exact absurd h5 hij
  ·intro e;rw[e]at h5;simp at h5
 have hdep:∀ i j oi oj t,i < m->j < m->ops[i]? =some oi->ops[j]? =some oj->t∈zn3 ops oj->oi.dst=some t->i < j∧∃ e∈oj.after,e.on=i∧qw .any e=true:=by
  intro i j oi oj t hi hj hoi hoj ht hd;have h3:=zZ.1 hflow j (yU.2 hj);rw[hoj]at h3;have h4:=zZ.1 h3 i (yU.2 hi);rw[hoi]at h4;simp only[zf]at h4;have h5:=zZ.1 h4.2 t ht;rw[hd]at h5;simp only[beq_self_eq_true,Bool.not_true,Bool.false_or,zf]at h5;refine⟨by simpa using h5.1,?_⟩;obtain⟨e,he,h6⟩:=Array.any_eq_true'.1 h5.2;simp only[zf,xc]at h6;exact⟨e,he,h6.1,h6.2⟩
 let W:=w.drew
 have hsim:Sim w0 X n σ β a W:=⟨h.sz,h.df,h.bel.then ((zV _ _).drew),fun s=>yE (.of_below ((zV _ _).drew) fun _ _ h=>h) _ _ _ (h.fr s),fun i o ho=>(h.own i o ho).keep (.of_below ((zV _ _).drew) fun _ _ h=>h) fun _ _=>rfl,h.new,h.inj,h.lt,h.fix,h.hb,h.hE⟩
 let I:Array Bool->Act->zj->Prop:=fun listed a' w'=>
  a'.tmps.size=n∧a'.defers=X.D∧yV W.heap.size W w'∧(∀ s,(∀ i o,i < m->ops[i]? =some o->o.dst≠some s)->a'.tmps.getD s undef=a.tmps.getD s undef)∧
  (∀ i o d q,i < m->ops[i]? =some o->o.dst=some d->rs[i]? =some q->listed.getD i false=true->RepV w' (OSet X σ.E β) β q.2.t q.2.x (a'.tmps.getD d undef))
 have hsum:ops.size=left (zz ops.size false) m+(ops.size - m):=by
  have:left (zz ops.size false) m=m:=by
   unfold left;have:(xE m).filter (fun i=>!(zz ops.size false).getD i false)=xE m:=by
    rw[vy];intro i _;rw[getD_replicate_false];rfl
   rw[this,uq]
  omega
 have hown:∀ w',yV W.heap.size W w'->∀ i o,zm σ.E i=some o->zY w' (OSet X σ.E β) β 0 (β i) o:=fun w' hb i o ho=>
  (hsim.own i o ho).keep (.of_below hb fun _ _ h=>h) fun g hg=>hb.block g ((hsim.own i o ho).block_lt hg).2
 have hO:∀ w',yV W.heap.size W w'->∀ g,OSet X σ.E β g->g < w'.heap.size:=fun w' hb g hg=>zK (hsim.hO hX g hg) hb.size
 suffices hkey:wpAny P .any ops R (left (zz ops.size false) m+(ops.size - m)) (zz ops.size false) a W by
  rw[<-hsum]at hkey;exact hkey
 refine zid hms hback htl I ?_ ?_ _ _ a W rfl ⟨by simp,fun j oj _ hlj=>(by rw[getD_replicate_false]at hlj;cases hlj),fun t _ ht=>getD_in (by simpa using ht) (getD_replicate_false _ _)⟩ ⟨h.sz,h.df,zV _ _,fun _ _=>rfl,fun i o d q _ _ _ _ hli=>by rw[getD_replicate_false]at hli;cases hli⟩
 ·
  rintro listed a' w' ⟨i1,i2,i3,i4,i5⟩ i him hir;obtain⟨hun,o',ho',hdone⟩:=mem_ready.1 hir;obtain⟨o,d,q,ho,hd,hdn,hq,hg⟩:=hget i him;have:o'=o:=by rw[ho]at ho';cases ho';rfl
  subst this;unfold wpOp;rw[ho];simp only;have hqp:allP q.1:=hps hp1 q (qn hq);refine zr4 hK (hX.2.2 w' (hsim.bel.then i3)) (hO w' i3) (hown w' i3) hg hqp i1 (fun t ht=>?_) fun u w2 hb2 hr2=>?_
  ·by_cases hex:∃ k ok,k < m∧ops[k]? =some ok∧ok.dst=some t
   ·obtain⟨k,ok,hkm,hok,hkd⟩:=hex;obtain⟨hki,e,he,heon,heb⟩:=hdep k i ok o' t hkm him hok ho ht hkd;have hlk:=hdone e he heb;rw[heon]at hlk;obtain⟨ok',dk,qk,g1,g2,g3,g4,g5⟩:=hget k hkm;have:ok'=ok:=by rw[hok]at g1;cases g1;rfl
    subst this;have hv:=zfo (ops.toList.take i) ((rs.map (·.2)).take i) σ.F t k ok' qk.2 (hsome i (by omega)) (by rw[zM,if_pos hki];simpa using hok) hkd
     (by rw[zM,if_pos hki,ym,g4];rfl) (fun k' o'' hkk hk'=>by
       rw[zM]at hk';split at hk'
       ·have:=hdist k' k o'' ok' (by omega) hkm (by simpa using hk') hok (by omega);rw[hkd]at this;exact this
       ·cases hk')
    rw[hv];exact i5 k ok' t qk hkm hok hkd g4 hlk
   ·have hno:∀ o∈ops.toList.take i,o.dst≠some t:=by
     intro o2 ho2 hd2;obtain⟨k,hk⟩:=qa.1 ho2;rw[zM]at hk;split at hk
     ·exact hex ⟨k,o2,by omega,by simpa using hk,hd2⟩
     ·cases hk
    rw[zdi _ _ _ _ (hsome i (by omega)) hno,i4 t fun k ok hk hok hdk=>hex ⟨k,ok,hk,hok,hdk⟩];exact yE (.of_below i3 fun _ _ h=>h) _ _ _ (hsim.fr t)
  ·have hb:yV W.heap.size W w2:=i3.trans (hb2.mono i3.size);rw[hd];refine⟨by rw[Act.put_size];exact i1,by rw[Act.put_defers];exact i2,hb,fun s hs=>?_,fun j oj dj qj hj hoj hdj hqj hlj=>?_⟩
   ·rw[jU (by rw[i1];exact hdn),if_neg (fun e=>hs i o' him ho (by rw[hd,e]))];exact i4 s hs
   ·rw[jU (by rw[i1];exact hdn)];by_cases hji:i=j
    ·subst hji;have:oj=o':=by rw[ho]at hoj;cases hoj;rfl
     subst this;have:dj=d:=by rw[hd]at hdj;cases hdj;rfl
     subst this;have:qj=q:=by rw[hq]at hqj;cases hqj;rfl
     subst this;rw[if_pos rfl];exact hr2
    ·have hne:d≠dj:=fun e=>hdist i j o' oj him hj ho hoj hji (by rw[hd,hdj,e]);rw[if_neg hne];rw[getD_set_ne false hji]at hlj;exact yE (.of_below hb2 fun _ _ h=>h) _ _ _ (i5 j oj dj qj hj hoj hdj hqj hlj)
 ·
  rintro listed a' w' inv hall ⟨i1,i2,i3,i4,i5⟩;have hlist:listed=(zu m true++zu (ops.size - m) false).toArray:=by
   apply Array.ext
   ·rw[inv.size];simp;omega
   ·intro i h1 h2;rw[inv.size]at h1;by_cases him:i < m
    ·have:=hall i him;simp only[jy,show i < listed.size by rw[inv.size];exact h1,dif_pos]at this;have e:listed[i]=true:=this;rw[e];simp[kN,him]
    ·have:=inv.tail i (by omega) h1;have:=getD_both this;simp only[jy,show i < listed.size by rw[inv.size];exact h1,dif_pos]at this;have e:listed[i]=false:=this;rw[e];simp[kN,him]
  subst hlist;have hfin:Sim w0 X n r1.2 β a' w':=by
   rw[hr1];refine⟨i1,i2,hsim.bel.then i3,fun s=>?_,hown w' i3,hsim.new,hsim.inj,hsim.lt,hsim.fix,fun s=>?_,hsim.hE⟩
   ·show RepV w' (OSet X σ.E β) β (zq (zdX σ.F (ops.toList.take m) (rs.map (·.2))) s).t _ _;by_cases hex:∃ k ok,k < m∧ops[k]? =some ok∧ok.dst=some s
    ·obtain⟨k,ok,hkm,hok,hkd⟩:=hex;obtain⟨ok',dk,qk,g1,g2,g3,g4,g5⟩:=hget k hkm;have:ok'=ok:=by rw[hok]at g1;cases g1;rfl
     subst this;have hv:=zfo (ops.toList.take m) (rs.map (·.2)) σ.F s k ok' qk.2 (hsome m (zl _)) (by rw[zM,if_pos hkm];simpa using hok) hkd
      (by rw[ym,g4];rfl) (fun k' o'' hkk hk'=>by
        rw[zM]at hk';split at hk'
        ·have:=hdist k' k o'' ok' (by omega) hkm (by simpa using hk') hok (by omega);rw[hkd]at this;exact this
        ·cases hk')
     rw[hv];exact i5 k ok' s qk hkm hok hkd g4 (hall k hkm)
    ·have hno:∀ o∈ops.toList.take m,o.dst≠some s:=by
      intro o2 ho2 hd2;obtain⟨k,hk⟩:=qa.1 ho2;rw[zM]at hk;split at hk
      ·exact hex ⟨k,o2,by omega,by simpa using hk,hd2⟩
      ·cases hk
     rw[zdi _ _ _ _ (hsome m (zl _)) hno,i4 s fun k ok hk hok hdk=>hex ⟨k,ok,hk,hok,hdk⟩];exact yE (.of_below i3 fun _ _ h=>h) _ _ _ (hsim.fr s)
   ·show (zq (zdX σ.F (ops.toList.take m) (rs.map (·.2))) s).bound≤σ.nx;have hbd:∀ k,k≤m->∀ s,(zq (zdX σ.F (ops.toList.take k) ((rs.map (·.2)).take k)) s).bound≤σ.nx:=by
     intro k
     induction k with
     |zero=>intro _ s;simpa [zdX] using hsim.hb s
     |succ k ih=>
      intro hk s;obtain⟨o,d,q,e1,e2,e3,e4,e5⟩:=hget k (by omega);have hb:=zkt e5 (ih (by omega)) (fun i o ho=>⟨hsim.lt i o ho,hsim.hE i o ho⟩) fun t τ ht=>(hK.t.lay t τ ht).data;by_cases hsd:o.dst=some s
      ·have hv:=zfo (ops.toList.take (k+1)) ((rs.map (·.2)).take (k+1)) σ.F s k o q.2 (hsome (k+1) hk) (by rw[zM,if_pos (by omega)];simpa using e1) hsd
        (by rw[zM,if_pos (by omega),ym,e4];rfl) (fun k' o'' hkk hk'=>by
          rw[zM]at hk';split at hk'
          ·omega
          ·cases hk')
       rw[hv];exact hb
      ·by_cases hex:∃ k' ok,k' < k∧ops[k']? =some ok∧ok.dst=some s
       ·obtain⟨k',ok,hk',hok,hkd⟩:=hex;obtain⟨ok',dk,qk,g1,g2,g3,g4,g5⟩:=hget k' (by omega);have:ok'=ok:=by rw[hok]at g1;cases g1;rfl
        subst this;have both:∀ j,k' < j->j≤m->zq (zdX σ.F (ops.toList.take j) ((rs.map (·.2)).take j)) s=qk.2:=fun j hj hjm=>
         zfo _ _ σ.F s k' ok' qk.2 (hsome j hjm) (by rw[zM,if_pos hj];simpa using hok) hkd
          (by rw[zM,if_pos hj,ym,g4];rfl) (fun k2 o'' hkk hk2=>by
            rw[zM]at hk2;split at hk2
            ·have:=hdist k2 k' o'' ok' (by omega) (by omega) (by simpa using hk2) hok (by omega);rw[hkd]at this;exact this
            ·cases hk2)
        rw[both (k+1) (by omega) hk, <-both k hk' (by omega)];exact ih (by omega) s
       ·have hno:∀ o∈ops.toList.take (k+1),o.dst≠some s:=by
         intro o2 ho2 hd2;obtain⟨k2,hk2⟩:=qa.1 ho2;rw[zM]at hk2;split at hk2
         ·have hk2':ops[k2]? =some o2:=by simpa using hk2
          by_cases hkk:k2=k
          ·subst hkk;rw[e1]at hk2';cases hk2';exact hsd hd2
          ·exact hex ⟨k2,o2,by omega,hk2',hd2⟩
         ·cases hk2
        rw[zdi _ _ _ _ (hsome (k+1) hk) hno];exact hsim.hb s
    have:=hbd m (zl _) s;rwa[xx (l:=rs.map (·.2)) (by simp[hl])]at this
  have hlt:(ops.toList.drop m).length=ops.size - m:=by simp
  have:=wpAny_of_seq (P:=P) (md:=.any) (Q':=R) (ops:=ops) (ops.toList.drop m) m (zu m true++zu (ops.size - m) false).toArray a' w' (fun j=>by simp[List.getElem?_drop]) (by rw[hlt];exact hseq) (hT a' w' hfin);rwa[hlt]at this
theorem zmq (hK:KnOk P X.G K) (hX:X.Ok w0) (h:Sim w0 X n σ β a w) {m:Nat} (hB:zko ops m=true) {r1 r2:List Prop×AS} (h1:zib K n ops (ops.toList.take m) σ=some r1) (h2:aSeq K n ops (ops.toList.drop m) r1.2=some r2)
  (hp1:allP r1.1) (hp2:allP r2.1) (hR:∀ β' a' w',Sim w0 X n r2.2 β' a' w'->R .normal a' w'):wpAny P .any ops R ops.size (zz ops.size false) a { w with drawn:=w.drawn+1 }:=
 zkB hK hX h hB h1 hp1 fun _ _ hs=>zgd hK hX _ hs h2 hp2 hR
end
def ztf (o:Oper):Bool:=match o.op with
 | .buildSlice _ _ _=>true
 |_=>false
def markT (ops:Array Oper) (m:Nat) (o:Oper):Option (zn×Nat):=match o.op with
 | .convert s d (.tmp t)=>if yb s d&&((xE m).any fun j=>match ops[j]? with |some oj=>ztf oj&&(oj.dst==some t)|none=>false) then some (s,t) else none
 |_=>none
noncomputable def hOp (K:Kn) (n:Nat) (ops:Array Oper) (m:Nat) (E:Owns) (F:yJ) (o:Oper):Res:=
 match markT ops m o with
 |some (s,t)=>if tis K.T s (.slice (.int .u8)) then (match o.guard with
  |none=>match zq F t with
   |⟨.slice (.int .u8),x⟩=>some ([],⟨.slice (.int .u8),x⟩)
   |_=>none
  |some (j,want)=>match (ops[j]?).bind (·.dst) with
   |some dj=>if zW dj n then (match zra (zq F dj) want,zq F t with
    |some c,⟨.cond (.slice (.int .u8)),x⟩=>some ([c=true->x.1=true],⟨.cond (.slice (.int .u8)),(c,x.2)⟩)
    |_,_=>none) else none
   |none=>none) else none
 |none=>gOp K n ops E F o
inductive NOp where
 |pure (d:Nat) (q:List Prop×V)
 |var (d:Nat) (τ:Ty)
 |set (s:Nat) (τ:Ty) (p:List Prop) (y:τ.T)
section
variable {P:zx} {K:Kn} {w0:zj} {X:Ownr} {n:Nat} {σ:AS} {β:Nat->zh} {a:Act} {w:zj} {R:Exit->Act->zj->Prop} {ops:Array Oper}
def O2 (X:Ownr) (E:Owns) (β:Nat->zh) (rs:List NOp) (listed:Array Bool) (a:Act) (g:Nat):Prop:=
 OSet X E β g∨∃ i d τ,rs[i]? =some (NOp.var d τ)∧listed.getD i false=true∧zag (a.tmps.getD d undef)=some g
end
def zeK:Option Nat->Fence
 |none=>yA
 |some l=>yA.inRound l
theorem zew (ρ:Option Nat) (f:zP):(zeK ρ).fn f:=by cases ρ<;>trivial
theorem zkQ (ρ:Option Nat):(zeK ρ).depth=none:=by cases ρ<;>rfl
theorem zjo {ρ:Option Nat} {n:Nat} {P:zx} {f:zP} {args:Array zh} {w:zj} {R:Ending->zj->Prop} (h:Calls P f args w R):CallsIn (zeK ρ) n P f args w R:=by
 cases ρ with
 |none=>exact callsIn_wide.2 h
 |some l=>exact CallsIn.inRound l (callsIn_wide.2 h)
theorem zjU {ρ:Option Nat} {n:Nat} {P:zx} {row:String} {args:Array zh} {w:zj} {R:zh->zj->Prop} (h:Rows P row args w R):RowsIn (zeK ρ) n P row args w R:=by
 have key:RowsIn yA n P row args w R:=fun c cs _=>let ⟨v,w',r,s⟩:=h c cs;⟨v,w',r,stepsIn_wide.2 s⟩
 cases ρ with
 |none=>exact key
 |some l=>exact key
theorem zmt {ρ:Option Nat} {p:Prop}:(zeK ρ).depth.isSome=true->p:=by rw[zkQ];intro h;cases h
section
variable {P:zx} {ρ:Option Nat} {n:Nat} {ops:Array Oper} {a:Act} {w:zj}
theorem zct {o:Oper} (hd:∀ c,o.op≠ .defer c) {N:Act->zj->Prop} {R:Exit->Act->zj->Prop} (h:o.wp P a w N R):o.wpIn (zeK ρ) n P a w N R:=by
 refine⟨fun f _=>zew ρ f,?_⟩;rw[Oper.semAt_eq _ _ _ hd];unfold qW at h;generalize (execOp a.eval o).run P w=r at h;cases r with
 |ok x w'=>
  cases x with
  |enter f args=>exact⟨zmt,zjo h⟩
  |row r args=>exact⟨zmt,zjU h⟩
  |round l f tmps assign body=>exact h.elim
  |_=>exact h
 |halt x w'=>cases x<;>exact h
def zba (l:List Oper):Bool:=l.all fun o=>match o.op with | .defer _=>false|_=>true
theorem ziv {l:List Oper} (h:zba l=true):∀ o∈l,∀ c,o.op≠ .defer c:=by
 intro o ho c e;have:=zZ.1 h o ho;rw[e]at this;cases this
theorem zj7 {o:Oper} {l:List Oper} (h:zba (o::l)=true):(∀ c,o.op≠ .defer c)∧zba l=true:=
 ⟨ziv h o (yf ..),by simp only[zba,jk,zf]at h ⊢;exact h.2⟩
theorem zbr {R:Exit->Act->zj->Prop} (hno:¬ jP R):∀ (l:List Oper),zba l=true->∀ {a:Act} {w:zj},wpList P ops R l a w->wpListIn (zeK ρ) n P ops R l a w
 | [],_,_,_,h=>h
 |o::l,hl,a,w,h=>by
  obtain⟨hd,hl'⟩:=zj7 hl;have ih:=fun a w h=>zbr hno l hl' (a:=a) (w:=w) h;simp only[wpListIn];simp only[wpList]at h;split at h
  ·rename_i hw;rw[if_pos hw];rcases h with h|h
   ·exact Oper.wpIn_mono ih (zct hd h)
   ·exact (hno h.2).elim
  ·rename_i hw;rw[if_neg hw];exact⟨fun f _=>zew ρ f,ih _ _ h⟩
theorem zhS {R:Exit->Act->zj->Prop} (hno:¬ jP R) (hl:zba ops.toList=true) {i:Nat} {N:Act->zj->Prop} {a:Act} {w:zj} (h:wpOp P ops R i N a w):wpOpIn (zeK ρ) n P ops R i N a w:=by
 unfold wpOp at h;unfold wpOpIn;split
 ·rename_i e;rw[e]at h;exact h
 ·rename_i o e;rw[e]at h;have hd:=ziv hl o (jA.2 (Array.mem_of_getElem? e));simp only at h;split at h
  ·rename_i hw;rw[if_pos hw];rcases h with h|h
   ·exact zct hd h
   ·exact (hno h.2).elim
  ·rename_i hw;rw[if_neg hw];exact⟨fun f _=>zew ρ f,h⟩
theorem zbQ {R:Exit->Act->zj->Prop} {md:kF} (hno:¬ jP R) (hl:zba ops.toList=true):∀ (fuel:Nat) {listed:Array Bool} {a:Act} {w:zj},wpAny P md ops R fuel listed a w->wpAnyIn (zeK ρ) n P md ops R fuel listed a w
 |0,_,_,_,h=>h
 |fuel+1,listed,a,w,h=>⟨h.1,fun i hi=>wpOpIn_mono (fun _ _ h=>zbQ hno hl fuel h) (zhS hno hl (h.2 i hi))⟩
section regions
variable {K:Kn} {w0:zj} {X:Ownr} {k:Nat} {σ:AS} {β:Nat->zh} {R:Exit->Act->zj->Prop}
theorem zeC {Φ:Act->zj->Prop}:¬ jP (fun e a w=>e= .normal∧Φ a w):=fun⟨_,_,h,_⟩=>by cases h
theorem zm0 (hK:KnOk P X.G K) (hX:X.Ok w0) (h:Sim w0 X k σ β a w) {id:Nat} {r:List Prop×AS} (hd:zba ops.toList=true) (hs:aSeq K k ops ops.toList σ=some r) (hp:allP r.1)
  (hR:∀ β' a' w',Sim w0 X k r.2 β' a' w'->R .normal a' w'):(Code.region id ops false).wpIn (zeK ρ) n P R a w:=
 yM (wpIn_region_list (zbr (R:=fun e a w=>e= .normal∧∃ β',Sim w0 X k r.2 β' a w) zeC _ hd (zgd hK hX _ h hs hp fun β' _ _ h'=>⟨rfl,β',h'⟩))) fun e a w ⟨he,β',h'⟩=>by
  subst he;exact hR β' a w h'
theorem zrl (hm:P.follows .mixedOrders=true) (hK:KnOk P X.G K) (hX:X.Ok w0) (h:Sim w0 X k σ β a w) {id m:Nat} (hd:zba ops.toList=true) (hB:zko ops m=true) {r1 r2:List Prop×AS} (h1:zib K k ops (ops.toList.take m) σ=some r1) (h2:aSeq K k ops (ops.toList.drop m) r1.2=some r2)
  (hp1:allP r1.1) (hp2:allP r2.1) (hR:∀ β' a' w',Sim w0 X k r2.2 β' a' w'->R .normal a' w'):(Code.region id ops true).wpIn (zeK ρ) n P R a w:=
 yM (wpIn_region_any hm (zbQ (R:=fun e a w=>e= .normal∧∃ β',Sim w0 X k r2.2 β' a w) zeC hd _ (zmq hK hX h hB h1 h2 hp1 hp2 fun β' _ _ h'=>⟨rfl,β',h'⟩))) fun e a w ⟨he,β',h'⟩=>by
  subst he;exact hR β' a w h'
end regions
theorem zkP {F:Fence} {c:Code} {Q:Exit->Act->zj->Prop} {ι:Type} (I:ι->Act->zj->Prop) (m:ι->Nat) (i0:ι) (h0:I i0 a w)
  (round:∀ i a w,I i a w->c.wpIn F n P (Exit.then (fun a' w'=>∃ i',m i' < m i∧I i' a' w') Q) a w):(Code.loop c).wpIn F n P Q a w:=by
 have key:∀ k i a w,m i≤k->I i a w->Code.roundsIn F n P c Q (k+1) a w:=by
  intro k
  induction k with
  |zero=>
   intro i a w hm h1;rw[roundsIn_succ];refine yM (round i a w h1) fun e a' w' h3=>?_;cases e with
   |normal=>obtain⟨i',hlt,_⟩:=h3;omega
   |_=>exact h3
  |succ k ih=>
   intro i a w hm h1;rw[roundsIn_succ];refine yM (round i a w h1) fun e a' w' h3=>?_;cases e with
   |normal=>obtain⟨i',hlt,h4⟩:=h3;exact ih i' a' w' (by omega) h4
   |_=>exact h3
 exact wpIn_loop_rounds (m i0+1) (key (m i0) i0 a w (zl _) h0)
theorem zcz {F:Fence} {R:Exit->Act->zj->Prop}:∀ (l r:List Oper) {a:Act} {w:zj},wpListIn F n P ops (fun e a w=>e= .normal∧wpListIn F n P ops R r a w) l a w->wpListIn F n P ops R (l++r) a w
 | [],r,_,_,h=>h.2
 |o::l,r,a,w,h=>by
  simp only[List.cons_append,wpListIn]at h ⊢;split at h
  ·rename_i hw;rw[if_pos hw];have h2:=Oper.wpIn_mono (fun a w h=>zcz l r h) h;refine⟨h2.1,?_⟩;have h3:=h2.2;revert h3;generalize (o.semAt F.round a.eval).run P w=x;intro h3;cases x with
   |ok x w'=>
    cases x with
    |enter f args=>
     refine⟨h3.1,h3.2.mono fun e w'' he=>?_⟩;cases e with
     |returned v=>exact he
     |panicked c=>cases he.1
     |outgrown=>obtain⟨_,_,h4⟩:=he;cases h4.1
    |round l f tmps assign body=>
     refine⟨h3.1,h3.2.mono fun e w'' he=>?_⟩;cases e with
     |returned v=>exact he
     |panicked c=>cases he.1
     |outgrown=>obtain⟨_,_,h4⟩:=he;cases h4.1
    |_=>exact h3
   |halt x w'=>
    cases x with
    |panic v=>cases h3.1
    |_=>exact h3
  ·rename_i hw;rw[if_neg hw];exact⟨h.1,zcz l r h.2⟩
end
def AWP (P:zx) (w0:zj) (X:Ownr) (n:Nat) (c:Code) (σ:AS) (Q:Exit->AS->Prop):Prop:=
 ∀ β a w,Sim w0 X n σ β a w->c.wpIn (zeK X.ρ) 0 P (fun e a' w'=>∃ σ' β',Sim w0 X n σ' β' a' w'∧Q e σ') a w
def zjL (N:AS->Prop) (Q:Exit->AS->Prop):Exit->AS->Prop
 | .normal,σ=>N σ
 |e,σ=>Q e σ
def zkK (id:Nat) (Q:Exit->AS->Prop):Exit->AS->Prop
 | .exit j,σ=>bif yb j id then Q .normal σ else Q (.exit j) σ
 |e,σ=>Q e σ
def Sub (F:yJ):List (Nat×V)->Prop
 | []=>True
 |(s,v)::r=>zq F s=v∧Sub F r
theorem Sub.get {F F':yJ} (h:Sub F F'):∀ s,zq F' s=zq F s∨zq F' s=⟨.junk,()⟩:=by
 induction F' with
 |nil=>exact fun s=>.inr rfl
 |cons p r ih=>
  obtain⟨d,v⟩:=p;intro s;rw[zat];by_cases hs:d=s
  ·rw[if_pos hs];exact .inl (hs▸h.1.symm)
  ·rw[if_neg hs];exact ih h.2 s
section
variable {P:zx} {K:Kn} {w0:zj} {X:Ownr} {n:Nat} {σ:AS} {Q:Exit->AS->Prop}
theorem AWP.mono {c:Code} {Q':Exit->AS->Prop} (h:AWP P w0 X n c σ Q) (hq:∀ e σ,Q e σ->Q' e σ):AWP P w0 X n c σ Q':=
 fun β a w hs=>yM (h β a w hs) fun e a w ⟨σ',β',h1,h2⟩=>⟨σ',β',h1,hq _ _ h2⟩
theorem zae {x y:Code} (h:AWP P w0 X n x σ (zjL (fun σ'=>AWP P w0 X n y σ' Q) Q)):AWP P w0 X n (.seq x y) σ Q:=
 fun β a w hs=>wpIn_seq (yM (h β a w hs) fun e a w ⟨σ',β',h1,h2⟩=>by
  cases e with
  |normal=>exact h2 β' a w h1
  |_=>exact⟨σ',β',h1,h2⟩)
theorem zab (h:Q .normal σ):AWP P w0 X n .skip σ Q:=fun β a w hs=>wpIn_skip ⟨σ,β,hs,h⟩
theorem zal {l:Nat} (h:Q .normal σ):AWP P w0 X n (.label l) σ Q:=fun β a w hs=>wpIn_label ⟨σ,β,hs,h⟩
theorem zad {id:Nat} (h:Q (.exit id) σ):AWP P w0 X n (.exit id) σ Q:=fun β a w hs=>wpIn_exit ⟨σ,β,hs,h⟩
theorem AWP.ret (h:Q .ret σ):AWP P w0 X n .ret σ Q:=fun β a w hs=>wpIn_ret ⟨σ,β,hs,h⟩
theorem zaf {c:zE} {x y:Code} {b:Bool} (hc:evO σ.F c=⟨.bool,b⟩) (ht:b=true->AWP P w0 X n x σ Q) (hf:b=false->AWP P w0 X n y σ Q):AWP P w0 X n (.cond c x y) σ Q:=by
 intro β a w hs;have h:=hs.ops c;rw[hc]at h;exact wpIn_cond_split (qM h) (fun hb=>ht hb β a w hs) (fun hb=>hf hb β a w hs)
theorem zac {id:Nat} {c:Code} (h:AWP P w0 X n c σ (zkK id Q)):AWP P w0 X n (.block id c) σ Q:=
 fun β a w hs=>wpIn_block (yM (h β a w hs) fun e a w ⟨σ',β',h1,h2⟩=>by
  cases e with
  |exit j=>
   simp only[zkK,cond_eq_ite,xc]at h2;simp only[Exit.inBlock];split
   ·rename_i hj;rw[if_pos hj]at h2;exact⟨σ',β',h1,h2⟩
   ·rename_i hj;rw[if_neg hj]at h2;exact⟨σ',β',h1,h2⟩
  |_=>exact⟨σ',β',h1,h2⟩)
def pkG (P:zx) (w0:zj) (X:Ownr) (n:Nat):Code->AS->(Exit->AS->Prop)->Prop
 | .seq x y,σ,Q=>pkG P w0 X n x σ (zjL (fun s=>AWP P w0 X n y s Q) Q)
 | .block i x,σ,Q=>pkG P w0 X n x σ (zkK i Q)
 | .skip,σ,Q=>Q .normal σ
 | .exit i,σ,Q=>Q (.exit i) σ
 |c,σ,Q=>AWP P w0 X n c σ Q
theorem AWP.go {c:Code} (h:pkG P w0 X n c σ Q):AWP P w0 X n c σ Q:=by
 induction c generalizing σ Q with
 |seq x y ihx _=>exact zae (ihx h)
 |block i x ih=>exact zac (ih h)
 |skip=>exact zab h
 |exit i=>exact zad h
 |_=>exact h
theorem zaa (hX:X.Ok w0) (hK:KnOk P X.G K) {id:Nat} {ops:Array Oper} {r:List Prop×AS} (hs:aSeq K n ops ops.toList σ=some r) (hp:allP r.1) (hq:Q .normal r.2) (hd:zba ops.toList=true:=by rfl):AWP P w0 X n (.region id ops false) σ Q:=
 fun _ _ _ h=>zm0 hK hX h hd hs hp fun β' _ _ h'=>⟨r.2,β',h',hq⟩
theorem AWP.draw (hm:P.follows .mixedOrders=true) (hX:X.Ok w0) (hK:KnOk P X.G K) {id:Nat} {ops:Array Oper} (m:Nat) (hB:zko ops m=true) {r1 r2:List Prop×AS} (h1:zib K n ops (ops.toList.take m) σ=some r1) (h2:aSeq K n ops (ops.toList.drop m) r1.2=some r2)
  (hp1:allP r1.1) (hp2:allP r2.1) (hq:Q .normal r2.2) (hd:zba ops.toList=true:=by rfl):AWP P w0 X n (.region id ops true) σ Q:=
 fun _ _ _ h=>zrl hm hK hX h hd hB h1 h2 hp1 hp2 fun β' _ _ h'=>⟨r2.2,β',h',hq⟩
def SubE (E:Owns):List (Nat×Option OObj)->Prop
 | []=>True
 |(i,some o)::r=>zm E i=some o∧SubE E r
 |(_,none)::r=>SubE E r
theorem SubE.get {E E':Owns} (h:SubE E E'):∀ i o,zm E' i=some o->zm E i=some o:=by
 induction E' with
 |nil=>intro i o h;cases h
 |cons p r ih=>
  obtain⟨j,q⟩:=p;intro i o hi;rw[zah]at hi;cases q with
  |none=>
   by_cases hj:j=i
   ·rw[if_pos hj]at hi;cases hi
   ·rw[if_neg hj]at hi;exact ih h i o hi
  |some q=>
   by_cases hj:j=i
   ·rw[if_pos hj]at hi;cases hi;exact hj▸h.1
   ·rw[if_neg hj]at hi;exact ih h.2 i o hi
def bndB (k:Nat):List (Nat×V)->Bool
 | []=>true
 |(_,v)::r=>Nat.ble v.bound k&&bndB k r
def bndV (k:Nat):List V->Bool
 | []=>true
 |v::r=>Nat.ble v.bound k&&bndV k r
theorem zrA {k:Nat} {vs:List V} (h:bndV k vs=true):∀ v,v∈vs->v.bound≤k:=by
 induction vs with
 |nil=>intro v hv;cases hv
 |cons a r ih=>
  simp only[bndV,zf,qt]at h;intro v hv;rcases yd.1 hv with rfl|hv
  ·exact h.1
  ·exact ih h.2 v hv
def bndE (k:Nat):List (Nat×Option OObj)->Bool
 | []=>true
 |(i,some (.hbox _ vs))::r=>zW i k&&bndV k vs&&bndE k r
 |(i,_)::r=>zW i k&&bndE k r
theorem zfI {k:Nat} {F:yJ} (h:bndB k F=true) (s:Nat):(zq F s).bound≤k:=by
 induction F with
 |nil=>exact zk _
 |cons p r ih=>
  obtain⟨d,v⟩:=p;simp only[bndB,zf,qt]at h;rw[zat];by_cases hs:d=s
  ·rw[if_pos hs];exact h.1
  ·rw[if_neg hs];exact ih h.2
theorem zpT {k j:Nat} {q:Option OObj} {r:Owns} (h:bndE k ((j,q)::r)=true):j < k∧(∀ o,q=some o->o.under k)∧bndE k r=true:=by
 cases q with
 |none=>
  simp only[bndE,zf]at h;exact⟨by simpa using h.1,(fun _ e=>by cases e),h.2⟩
 |some q=>
  cases q with
  |hbox ty vs=>
   simp only[bndE,zf]at h;refine⟨by simpa using h.1.1,fun o e=>?_,h.2⟩;cases e;intro ws e;cases e;exact zrA h.1.2
  |_=>
   simp only[bndE,zf]at h;refine⟨by simpa using h.1,fun o e=>?_,h.2⟩;cases e;intro ws e;cases e
theorem zhO {k:Nat} {E:Owns} (h:bndE k E=true) {i:Nat} {o:OObj} (hi:zm E i=some o):i < k∧o.under k:=by
 induction E with
 |nil=>cases hi
 |cons p r ih=>
  obtain⟨j,q⟩:=p;obtain⟨h1,h2,h3⟩:=zpT h;rw[zah]at hi;by_cases hj:j=i
  ·rw[if_pos hj]at hi;exact⟨hj▸h1,h2 o hi⟩
  ·rw[if_neg hj]at hi;exact ih h3 hi
theorem zmD {k:Nat} {E:Owns} (h:bndE k E=true) {i:Nat} {o:OObj} (hi:zm E i=some o):i < k:=(zhO h hi).1
structure Fit (σ σ':AS):Prop where
 f:Sub σ.F σ'.F
 e:SubE σ.E σ'.E
 bf:bndB σ'.nx σ'.F=true
 be:bndE σ'.nx σ'.E=true
theorem Sim.fit {β:Nat->zh} {a:Act} {w:zj} (h:Sim w0 X n σ β a w) {σ':AS} (hf:Fit σ σ') (hnx:X.K≤σ'.nx):Sim w0 X n σ' β a w:=by
 have hk:xC w w (OSet X σ.E β) (OSet X σ'.E β):=⟨zl _,fun _ _ _=>rfl,fun g _ hg=>by
  rcases hg with hg|⟨j,oj,h1,h2⟩
  ·exact .inl hg
  ·exact .inr ⟨j,oj,hf.e.get j oj h1,h2⟩⟩
 refine⟨h.sz,h.df,h.bel,fun s=>?_,fun i o ho=>(h.own i o (hf.e.get i o ho)).keep hk fun _ _=>rfl,fun i o g ho=>h.new i o g (hf.e.get i o ho),fun i j oi oj hi hj=>h.inj i j oi oj (hf.e.get i oi hi) (hf.e.get j oj hj),fun i o ho=>zmD hf.be ho,⟨hnx,fun i hi=>⟨(h.fix.2 i hi).1,fun o ho=>(h.fix.2 i hi).2 o (hf.e.get i o ho)⟩⟩,fun s=>zfI hf.bf s,fun i o ho=>(zhO hf.be ho).2⟩;rcases hf.f.get s with e|e
 ·rw[e];exact yE hk _ _ _ (h.fr s)
 ·rw[e];trivial
theorem zap {c:Code} {σ':AS} (hf:Fit σ σ') (h:AWP P w0 X n c σ' Q) (hk:X.K≤σ'.nx:=by exact zb rfl):AWP P w0 X n c σ Q:=
 fun β a w hs=>h β a w (hs.fit hf hk)
theorem AWP.loop {c:Code} {ι:Type} (G:ι->AS) (J:ι->Prop) (m:ι->Nat) (i0:ι) (hJ:J i0) (h0:Fit σ (G i0))
  (round:∀ i,J i->AWP P w0 X n c (G i) (zjL (fun σ'=>∃ i',J i'∧m i' < m i∧Fit σ' (G i')) Q)) (hk:∀ i,X.K≤(G i).nx:=by exact fun _=>zb rfl):AWP P w0 X n (.loop c) σ Q:=by
 intro β a w hs;exact zkP (fun i a w=>J i∧∃ β,Sim w0 X n (G i) β a w) m i0 ⟨hJ,β,hs.fit h0 (hk _)⟩ fun i a w ⟨hj,β,h1⟩=>yM (round i hj β a w h1) fun e a' w' ⟨σ',β',h2,h3⟩=>by
  cases e with
  |normal=>obtain⟨i',hj',hlt,hf⟩:=h3;exact⟨i',hlt,hj',β',h2.fit hf (hk _)⟩
  |_=>exact⟨σ',β',h2,h3⟩
theorem AWP.len {c:Code} (s:Nat) {t:Ty} {xs:List t.T} (hs:zq σ.F s=⟨.slice t,xs⟩) (h:xs.length≤maxLen->AWP P w0 X n c σ Q):AWP P w0 X n c σ Q:=by
 intro β a w hsim;have h1:=hsim.fr s;rw[hs]at h1;have h1:RepV w (OSet X σ.E β) β (.slice t) xs _:=h1;obtain⟨A,k,_,h2,h3⟩:=(RepV.slice h1).nlen;exact h (by omega) β a w hsim
theorem AWP.slen {c:Code} (s:Nat) {l:List UInt8} (hs:zq σ.F s=⟨.str,l⟩) (h:l.length≤maxLen->AWP P w0 X n c σ Q):AWP P w0 X n c σ Q:=by
 intro β a w hsim;have h1:=hsim.fr s;rw[hs]at h1;exact h (RepV.str h1).2 β a w hsim
theorem AWP.frz (hX:X.Ok w0) (s:Nat) {c:Code} (h:AWP P w0 X n c (jt σ (.tmp s)) Q):AWP P w0 X n c σ Q:=
 fun β a w hs=>h β a w (hs.frz hX (.tmp s))
theorem AWP.nilBuf (hX:X.Ok w0) (s:Nat) (te:zn) (τ:Ty) {c:Code} (hs:zq σ.F s=⟨.lit,.slice none 0 0⟩) (hn:zW s n=true) (hτ:zW 0 τ.size=true)
  (h:AWP P w0 X n c ⟨(s,⟨.obuf τ,σ.nx⟩)::σ.F,(σ.nx,some (.buf te τ []))::σ.E,σ.nx+1⟩ Q):AWP P w0 X n c σ Q:=by
 intro β a w hsim;have h1:=hsim.fr s;rw[hs]at h1;have h1:a.tmps.getD s undef= .slice none 0 0:=h1;have hn':s < n:=by simpa using hn
 obtain⟨β',h2⟩:=hsim.make hX (zV _ w) (bv:=.slice none 0 0) (o:=.buf te τ []) (v:=⟨.obuf τ,σ.nx⟩) (u:=.slice none 0 0) (d:=s)
  (fun O _ _=>⟨[],rfl,⟨by simp,.inl ⟨rfl,rfl⟩⟩,by simpa using hτ⟩) (fun g hg=>by cases hg) (fun O β' hβ=>hβ.symm) (zl _) hn'
 have h3:a.put (some s) (.slice none 0 0)=a:=by
  obtain⟨tmps,defers⟩:=a;simp only[Act.put]
  congr 1
  have h4:s < tmps.size:=by have:=hsim.sz;simp only at this;omega
  apply Array.ext
  ·simp
  ·intro i hi1 hi2;by_cases e:s=i
   ·subst e;have h5:tmps[s]= .slice none 0 0:=by simpa [jy,h4] using h1
    rw[h5];simp
   ·rw[Array.getElem_setIfInBounds,if_neg e]
 rw[h3]at h2;exact h β' a w h2
def zc4:(ts:List Ty)->Args ts->Nat->List (Nat×V)
 | [],_,_=>[]
 |t::r,x,s=>(s,⟨t,x.1⟩)::zc4 r x.2 (s+1)
def znl (ts:List Ty) (xs:Args ts):AS:=⟨zc4 ts xs 0,[],0⟩
def rOf (T:Tbl) (σ:AS):qd->Option (List Prop×V)
 | .tmp s=>some ([],zq σ.F s)
 | .cell s t=>zkc T σ.E t (zq σ.F s)
def zon (T:Tbl) (σ:AS):List qd->(t:Ty)->Option (List Prop×t.T)
 | [],.unit=>some ([],())
 |r::rs,.tup a b=>match rOf T σ r with
  |some (p,v)=>match coe a (dat σ.E v),zon T σ rs b with
   |some x,some (q,y)=>some (p++q,(x,y))
   |_,_=>none
  |none=>none
 |_,_=>none
def Ty.tupData:Ty->Bool
 | .tup a b=>a.data&&b.tupData
 | .unit=>true
 |_=>false
def Done (T:Tbl) (rs:List qd) (σ:AS) (own:Option zn) (t:Ty) (x:t.T):Prop:=
 match own,rs with
 |none,[r]=>∃ p v,rOf T σ r=some (p,v)∧allP p∧t.argOk=true∧coe t (dat σ.E v)=some x
 |none,rs=>rs.length≠1∧t.tupData=true∧∃ p,zon T σ rs t=some (p,x)∧allP p
 |some te,[.tmp s]=>∃ (τ τ':Ty) (i:Nat) (xs:List τ.T),zq σ.F s=⟨.obuf τ',i⟩∧zm σ.E i=some (.buf te τ xs)∧(⟨t,x⟩:V)=⟨.slice τ,xs⟩
 |_,_=>False
theorem zdN {w:zj} {O:Nat->Prop} {β:Nat->zh}:∀ (ts:List Ty) (xs:Args ts) (vs:List zh) (pre post:List zh),zaY ts=true->RepA w O ts xs vs->∀ s,RepV w O β (zq (zc4 ts xs pre.length) s).t (zq (zc4 ts xs pre.length) s).x ((pre++vs++post).toArray.getD s undef)
 | [],_,_,_,_,_,_,_=>trivial
 |t::ts,xs,vs,pre,post,hd,h,s=>by
  obtain⟨v,r,rfl,h1,h2⟩:=h;simp only[zaY,zf]at hd;simp only[zc4];rw[zat];by_cases hs:pre.length=s
  ·rw[if_pos hs];subst hs;have:(pre++v::r++post).toArray.getD pre.length undef=v:=by simp[jy]
   rw[this];exact zfl hd.1 h1
  ·rw[if_neg hs];have:=zdN (β:=β) ts xs.2 r (pre++ [v]) post hd.2 h2 s;rw[show (pre++ [v]).length=pre.length+1 by simp]at this
   simpa using this
theorem zt0 {t:Ty} (ht:t.argOk=true) {x:t.T}:bnd t x=0:=by
 cases t<;>first|rfl|(cases ht;done)
theorem zmY {w:zj} {O:Nat->Prop} {β:Nat->zh} {B:Nat} {t:Ty} (ht:t.argOk=true) {x:t.T} {v:zh} (h:RepV w O β t x v):zdu w O B none t x v:=by
 cases t<;>first|exact h|exact fun β'=>zfl ht h|(cases ht;done)
theorem zcO:∀ (ts:List Ty) (xs:Args ts) (k s:Nat),zaY ts=true->(zq (zc4 ts xs k) s).bound=0
 | [],_,_,_,_=>rfl
 |t::ts,xs,k,s,hd=>by
  simp only[zaY,zf]at hd;simp only[zc4,zat];by_cases hs:k=s
  ·rw[if_pos hs];exact zt0 hd.1
  ·rw[if_neg hs];exact zcO ts xs.2 (k+1) s hd.2
structure Seen (w0:zj) (X:Ownr) (σ:AS) (β:Nat->zh) (a:Act) (w:zj):Prop where
 fr:∀ s,RepV w (OSet X σ.E β) β (zq σ.F s).t (zq σ.F s).x (a.tmps.getD s undef)
 own:∀ i o,zm σ.E i=some o->zY w (OSet X σ.E β) β 0 (β i) o
 new:∀ i o g,zm σ.E i=some o->zag (β i)=some g->w0.heap.size≤g∨X.R g
theorem Sim.seen {β:Nat->zh} {a:Act} {w:zj} (h:Sim w0 X n σ β a w):Seen w0 X σ β a w:=⟨h.fr,h.own,h.new⟩
theorem zmw {β:Nat->zh} {a:Act} {w:zj} (h:Seen w0 X σ β a w) (hX:X.Ok w0) {v:V} {u:zh} (hr:RepV w (OSet X σ.E β) β v.t v.x u):RepV w X.X β (dat σ.E v).t (dat σ.E v).x u:=by
 have hk:xC w w (OSet X σ.E β) X.X:=⟨zl _,fun _ _ _=>rfl,fun _ _ h=>.inl h⟩;obtain⟨t,x⟩:=v;cases t with
 |obuf t=>
  have h':u=β x:=hr;subst h';cases he:zm σ.E x with
  |none=>
   have e:dat σ.E ⟨.obuf t,x⟩=⟨.junk,()⟩:=by simp only[dat,he]
   rw[e];trivial
  |some o=>
   cases o with
   |box t' x'=>
    have e:dat σ.E ⟨.obuf t,x⟩=⟨.junk,()⟩:=by simp only[dat,he]
    rw[e];trivial
   |hbox ty vs=>
    have e:dat σ.E ⟨.obuf t,x⟩=⟨.junk,()⟩:=by simp only[dat,he]
    rw[e];trivial
   |buf te t' xs=>
    have e:dat σ.E ⟨.obuf t,x⟩=⟨.slice t',xs⟩:=by simp only[dat,he]
    rw[e];exact (h.own x _ he).view (fun _ _ h=>.inl h) fun g hg hxg=>by
     have h3:=hX.1 g hxg;rcases h.new x _ g he hg with h4|h4
     ·omega
     ·exact h3.2 h4
 |_=>exact yE hk _ _ _ hr
theorem zng {t:zn} {A:Addr} {u:zh} {w:zj} (h:(Instr.loadAt t (.pointer (some A))).run P w= .ok u w):(loadVar t A).run P w= .ok u w:=by
 simpa [Instr.loadAt,Instr.sureAddr] using h
theorem zii (hK:KnOk P X.G K) (hX:X.Ok w0) {β:Nat->zh} {a:Act} {w:zj} (h:Seen w0 X σ β a w) {r:qd} {p:List Prop} {v:V} (hr:rOf K.T σ r=some (p,v)) (hp:allP p):
  ∃ u,(match r with | .tmp t=>(pure (a.tmps.getD t undef):Sem zh)| .cell s t=>do loadVar t (<-asAddr (a.tmps.getD s undef))).run P w= .ok u w∧RepV w (OSet X σ.E β) β v.t v.x u:=by
 cases r with
 |tmp s=>
  cases hr;exact⟨_,rfl,h.fr s⟩
 |cell s t=>
  have hf:=h.fr s;have hr':zkc K.T σ.E t (zq σ.F s)=some (p,v):=hr;obtain⟨u,h1,h3⟩:=zkb (P:=P) hK.t h.own hr' hp hf;have hptr:∃ A,a.tmps.getD s undef= .pointer (some A):=by
   revert hf hr';generalize zq σ.F s=fv;obtain⟨ft,fx⟩:=fv;intro hf hr';cases ft<;>simp only[zkc,reduceCtorEq]at hr'
   ·obtain⟨g,off,cs,e,_⟩:=hf;exact⟨_,e⟩
   ·obtain⟨g,_,e⟩:=hf;exact⟨_,e⟩
   ·obtain⟨g,_,e⟩:=hf;exact⟨_,e⟩
   ·obtain⟨cs,e,_⟩:=hf;exact⟨_,e⟩
  obtain⟨A,hA⟩:=hptr;rw[hA]at h1;refine⟨u,?_,h3⟩;simp only[hA,asAddr,zC,zv,zA];exact zng h1
def resM (tmps:Array zh):qd->Sem zh
 | .tmp t=>pure (tmps.getD t undef)
 | .cell s t=>do loadVar t (<-asAddr (tmps.getD s undef))
theorem zfR (fn:Func) (tmps:Array zh):results fn tmps=(do let vs<-fn.results.mapM (resM tmps);pure (if h:vs.size=1 then vs[0] else .tuple vs):Sem zh):=by
 unfold results
 congr 1
theorem zjX (hK:KnOk P X.G K) (hX:X.Ok w0) {β:Nat->zh} {a:Act} {w:zj} (h:Seen w0 X σ β a w):∀ (rs:List qd) (t:Ty) (p:List Prop) (x:t.T),t.tupData=true->zon K.T σ rs t=some (p,x)->allP p->
  ∃ us,(rs.mapM (resM a.tmps)).run P w= .ok us w∧us.length=rs.length∧RepTup w X.X t x us
 | [],.unit,p,x,_,hr,_=>⟨[],by simp,rfl,rfl⟩
 |r::rs,.tup c b,p,x,hd,hr,hp=>by
  simp only[zon]at hr;simp only[Ty.tupData,zf]at hd;split at hr
  ·rename_i p1 v hv;split at hr
   ·rename_i y q z hy hz;cases hr;rw[zax]at hp;obtain⟨u,h1,h2⟩:=zii hK hX h hv hp.1;obtain⟨us,h3,h4,h5⟩:=zjX hK hX h rs b q z hd.2 hz hp.2;have h1':(resM a.tmps r).run P w= .ok u w:=by cases r<;>exact h1
    exact⟨u::us,by simp[List.mapM_cons,h1',h3],by simp[h4],u,us,rfl,zf6 hd.1 hy (zmw h hX h2),h5⟩
   ·cases hr
  ·cases hr
 | [],.tup _ _,_,_,_,hr,_=>by cases hr
 |_::_,.unit,_,_,_,hr,_=>by cases hr
 |_,.bool,_,_,hd,_,_=>by cases hd
 |_,.int _,_,_,hd,_,_=>by cases hd
 |_,.str,_,_,hd,_,_=>by cases hd
 |_,.pair _ _,_,_,hd,_,_=>by cases hd
 |_,.arr _ _,_,_,hd,_,_=>by cases hd
 |_,.slice _,_,_,hd,_,_=>by cases hd
 |_,.junk,_,_,hd,_,_=>by cases hd
 |_,.lit,_,_,hd,_,_=>by cases hd
 |_,.vptr _,_,_,hd,_,_=>by cases hd
 |_,.cptr _ _ _,_,_,hd,_,_=>by cases hd
 |_,.optr _,_,_,hd,_,_=>by cases hd
 |_,.obuf _,_,_,hd,_,_=>by cases hd
 |_,.cond _,_,_,hd,_,_=>by cases hd
theorem zmW {w:zj} {O:Nat->Prop} {B:Nat}:∀ (t:Ty) (x:t.T) (us:List zh),t.tupData=true->us.length≠1->RepTup w O t x us->(t= .unit->False)->zdu w O B none t x (.tuple us.toArray):=by
 intro t;cases t<;>intro x us hd hl h hu<;>first
  |exact fun β=>⟨us,rfl,h⟩
  |(cases hd;done)
  |exact (hu rfl).elim
theorem OwnRep.raise {w:zj} {O:Nat->Prop} {β:Nat->zh} {B B':Nat} {bv:zh} {o:OObj} (h:zY w O β B bv o) (hB:∀ g,zag bv=some g->B'≤g):zY w O β B' bv o:=by
 cases o with
 |box t x=>
  obtain⟨g,cs,ty,e,h1,h2⟩:=h;exact⟨g,cs,ty,e,hB g (by rw[e];rfl),h2⟩
 |buf te t xs=>
  obtain⟨cs,h1,h2,h3⟩:=h;refine⟨cs,h1,⟨h2.1,?_⟩,h3⟩;rcases h2.2 with h4|⟨g,cap,cur,e,h5,h6⟩
  ·exact .inl h4
  ·exact .inr ⟨g,cap,cur,e,hB g (by rw[e];rfl),h6⟩
 |hbox ty vs=>
  obtain⟨g,cs,e,h1,h2⟩:=h;exact⟨g,cs,e,hB g (by rw[e];rfl),h2⟩
theorem zmr (hK:KnOk P X.G K) (hX:X.Ok w0) {β:Nat->zh} {a:Act} {w:zj} (h:Seen w0 X σ β a w) {fn:Func} {own:Option zn} {t:Ty} {x:t.T} (hd:Done K.T fn.results.toList σ own t x) (hR:own=none∨∀ g,¬ X.R g):
  ∃ v,(results fn a.tmps).run P w= .ok v w∧(t= .unit∨zdu w X.X w0.heap.size own t x v):=by
 rw[zfR];have hmap:∀ us,(fn.results.toList.mapM (resM a.tmps)).run P w= .ok us w->(fn.results.mapM (resM a.tmps)).run P w= .ok us.toArray w:=fun us hus=>by
  rw[jJ];simp[hus]
 unfold Done at hd;split at hd
 ·rename_i r hr;obtain⟨p,v,h1,h2,h3,h4⟩:=hd;obtain⟨u,h5,h6⟩:=zii hK hX h h1 h2;have h5':(resM a.tmps r).run P w= .ok u w:=by cases r<;>exact h5
  have hm:=hmap [u] (by rw[hr];simp[h5']);refine⟨u,by simp[hm],.inr (zmY h3 (zgR h4 (zmw h hX h6)))⟩
 ·obtain⟨h1,h2,p,h3,h4⟩:=hd;obtain⟨us,h5,h6,h7⟩:=zjX hK hX h _ _ _ _ h2 h3 h4;have hm:=hmap us h5;have hl:us.length≠1:=by rw[h6];exact h1
  refine⟨.tuple us.toArray,by simp[hm,hl],?_⟩;by_cases hnu:t= .unit
  ·exact .inl hnu
  ·exact .inr (zmW _ _ _ h2 hl h7 hnu)
 ·rename_i te s hr;obtain⟨τ,τ',i,xs,h1,h2,h3⟩:=hd;cases h3;have hf:=h.fr s;rw[h1]at hf;have hu:a.tmps.getD s undef=β i:=hf;have hm:=hmap [a.tmps.getD s undef] (by rw[hr];simp[resM]);refine⟨β i,by rw[zC,hm, <-hu];simp,.inr ?_⟩;show zY w (fun g=>X g∨zag (β i)=some g) β w0.heap.size (β i) (.buf te τ xs);refine OwnRep.keep (OwnRep.raise (h.own i _ h2) fun g hg=>?_) ⟨zl _,fun _ _ _=>rfl,fun g _ hg=>hg.imp id fun hg=>⟨i,_,h2,hg⟩⟩ fun _ _=>rfl;rcases h.new i _ g h2 hg with h4|h4
  ·exact h4
  ·rcases hR with h5|h5
   ·cases h5
   ·exact (h5 g h4).elim
 ·exact hd.elim
theorem zmX {w:zj} {O O':Nat->Prop} {B B':Nat} (hs:∀ k,O' k->O k):∀ (t:Ty) (x:t.T) (v:zh),zdu w O B none t x v->zdu w O' B' none t x v:=by
 have hk:xC w w O O':=⟨zl _,fun _ _ _=>rfl,fun k _ h=>hs k h⟩;intro t;cases t<;>intro x v h<;>first|exact RepD.keep hk h|exact fun β=>yE hk _ _ _ (h β)
def zki:Option OObj->Option OObj
 |some (.box t x)=>some (.box t x)
 |_=>none
def ze5 (I:List Nat):List (Nat×Option OObj)->List (Nat×Option OObj)
 | []=>[]
 |(i,o)::r=>(i,bif I.any (yb i) then none else zki o)::ze5 I r
theorem zkj (I:List Nat) (E:Owns) (j:Nat):zm (ze5 I E) j=if I.any (yb j)=true then none else zki (zm E j):=by
 induction E with
 |nil=>
  show none=if _ then none else none
  split<;>rfl
 |cons p E ih=>
  obtain⟨i,o⟩:=p;have e:ze5 I ((i,o)::E)=(i,bif I.any (yb i) then none else zki o)::ze5 I E:=rfl;rw[e,zah,zah,ih];by_cases h:i=j
  ·subst h;rw[if_pos rfl,if_pos rfl];cases I.any (yb i)<;>rfl
  ·rw[if_neg h,if_neg h]
theorem zhI (hK:KnOk P X.G K) (hX:X.Ok w0) {β:Nat->zh} {a:Act} {w:zj} (h:Sim w0 X n σ β a w) (I:List Nat) {fn:Func} {t:Ty} {x:t.T} (hd:Done K.T fn.results.toList ⟨σ.F,ze5 I σ.E,σ.nx⟩ none t x) {O':Nat->Prop}
  (hO':∀ k,O' k->X.X k∨∃ i o,zm σ.E i=some o∧zag (β i)=some k∧(I.any (yb i)=true∨zki (some o)=none)):
  ∃ v,(results fn a.tmps).run P w= .ok v w∧(t= .unit∨zdu w O' w.heap.size none t x v):=by
 have hKE:∀ i o,zm (ze5 I σ.E) i=some o->zm σ.E i=some o∧I.any (yb i)=false∧zki (some o)≠none:=fun i o ho=>by
  rw[zkj]at ho;split at ho
  ·cases ho
  ·rename_i hi;cases he:zm σ.E i with
   |none=>rw[he]at ho;cases ho
   |some o'=>
    rw[he]at ho;cases o' with
    |box t x=>cases ho;exact⟨rfl,Bool.eq_false_iff.2 hi,by simp[zki]⟩
    |buf te t xs=>cases ho
    |hbox ty vs=>cases ho
 let X':Ownr:={ X with X:=fun k=>X.X k∨∃ i o,zm σ.E i=some o∧zag (β i)=some k∧(I.any (yb i)=true∨zki (some o)=none),K:=0,B:=fun k=>∃ i o,zm (ze5 I σ.E) i=some o∧zag (β i)=some k }
 have hR:∀ k,X'.R k->∃ i o,zm (ze5 I σ.E) i=some o∧zag (β i)=some k:=fun k hr=>hr.elim (fun⟨_,h,_⟩=>absurd h (Nat.not_lt_zero _)) id;have hR2:∀ k,X'.R k->w0.heap.size≤k∨X.R k:=fun k hr=>by
  obtain⟨i,o,h1,h2⟩:=hR k hr;exact h.new i o k (hKE i o h1).1 h2
 have hX':X'.Ok w:=by
  refine⟨fun k hk=>⟨?_,fun hr=>?_⟩,fun k hr=>?_,fun w' hk=>hX.2.2 w' ⟨hk.os.trans h.bel.os,hk.tape.trans h.bel.tape,hk.output.trans h.bel.output,zH h.bel.size hk.size,fun k hkl hr=>(hk.block k (zK hkl h.bel.size) fun hr'=>?_).trans (h.bel.block k hkl hr)⟩⟩
  ·rcases hk with hk|⟨i,o,h1,h2,_⟩
   ·exact zK (hX.1 k hk).1 h.bel.size
   ·exact ((h.own i o h1).block_lt h2).2
  ·obtain⟨j,oj,h3,h4⟩:=hR k hr;obtain⟨h5,h6,h7⟩:=hKE j oj h3;rcases hk with hk|⟨i,o,h1,h2,h8⟩
   ·have h9:=hX.1 k hk;rcases hR2 k hr with h10|h10
    ·omega
    ·exact h9.2 h10
   ·by_cases hij:i=j
    ·subst hij;rw[h5]at h1;cases h1;rcases h8 with h8|h8
     ·rw[h6]at h8;cases h8
     ·exact h7 h8
    ·exact h.inj i j o oj h1 h5 hij k h2 h4
  ·obtain⟨j,oj,h3,h4⟩:=hR k hr;exact ((h.own j oj (hKE j oj h3).1).block_lt h4).2
  ·rcases hR2 k hr' with h10|h10
   ·omega
   ·exact hr h10
 have hS:OSet X' (ze5 I σ.E) β=OSet X σ.E β:=by
  funext k
  apply propext;constructor
  ·rintro ((hk|⟨i,o,h1,h2,_⟩)|⟨i,o,h1,h2⟩)
   ·exact .inl hk
   ·exact .inr ⟨i,o,h1,h2⟩
   ·exact .inr ⟨i,o,(hKE i o h1).1,h2⟩
  ·rintro (hk|⟨i,o,h1,h2⟩)
   ·exact .inl (.inl hk)
   ·by_cases hI:I.any (yb i)=true
    ·exact .inl (.inr ⟨i,o,h1,h2,.inl hI⟩)
    ·cases ho:zki (some o) with
     |none=>exact .inl (.inr ⟨i,o,h1,h2,.inr ho⟩)
     |some o'=>
      refine .inr ⟨i,o',?_,h2⟩;rw[zkj,if_neg hI,h1,ho]
 have hseen:Seen w X' ⟨σ.F,ze5 I σ.E,σ.nx⟩ β a w:=by
  refine⟨fun s=>?_,fun i o ho=>?_,fun i o k ho hb=>.inr (.inr ⟨i,o,ho,hb⟩)⟩
  ·show RepV w (OSet X' (ze5 I σ.E) β) β _ _ _;rw[hS];exact h.fr s
  ·show zY w (OSet X' (ze5 I σ.E) β) β 0 (β i) o;rw[hS];exact h.own i o (hKE i o ho).1
 obtain⟨v,h1,h2⟩:=zmr (X:=X') hK hX' hseen hd (.inl rfl);exact⟨v,h1,h2.imp id (zmX hO' _ _ _)⟩
theorem zeB {w:zj} {O:Nat->Prop}:∀ (ts:List Ty) (xs:Args ts) (vs:List zh),RepA w O ts xs vs->vs.length=ts.length
 | [],_,_,h=>by cases h;rfl
 |t::ts,xs,vs,h=>by obtain⟨v,r,rfl,_,h2⟩:=h;simp[zeB ts xs.2 r h2]
theorem zaq {G:zj->Prop} (hK:KnOk P G K) {f:zP} {fn:Func} {c:Code} {ctr:Ctr} (hf:P.funcs[f]? =some fn) (hb:fn.body=some c) (hn:fn.ntmps=n)
  (hen:∀ (zas:Array zh) (w:zj),(callFunc f zas).run P w= .ok (.enter f zas) w) (hd:zaY ctr.args=true) (hlen:ctr.args.length≤n) (hnu:ctr.res= .unit->False)
  (h:∀ (w0:zj) (X:Nat->Prop),(qr G X).Ok w0->∀ xs:Args ctr.args,allP (ctr.pre xs)->AWP P w0 (qr G X) n c (znl ctr.args xs) (fun e σ=>(e= .normal∨e= .ret)∧Done K.T fn.results.toList σ ctr.own ctr.res (ctr.out xs))):yK P G f ctr:=by
 refine⟨hen,fun w O xs vs hO hrep hp hG=>calls_of_wp hf hb ?_⟩;have hvl:=zeB _ _ _ hrep
 let X:Ownr:=qr G O
 have hXR:∀ g,¬ X.R g:=Ownr.plain_noR _ _;have hX:X.Ok w:=⟨fun g hg=>⟨hO g hg,hXR g⟩,fun g hg=>(hXR g hg).elim,fun w' hk=>hK.st w w' hG (hk.below hXR)⟩;have hsim:Sim w X n (znl ctr.args xs) (fun _=>undef) { tmps:=vs.toArray++zz (fn.ntmps - vs.toArray.size) undef,defers:=[] } w:=by
  have hE:OSet X (znl ctr.args xs).E (fun _=>undef)=O:=by
   funext g
   apply propext;constructor
   ·rintro (h|⟨i,o,h,_⟩)
    ·exact h
    ·cases h
   ·exact fun h=>.inl h
  refine⟨by simp[hn,hvl];omega,rfl,jn _ _,fun s=>?_,fun i o h=>(by cases h),fun i o g h=>(by cases h),fun i j oi oj h=>(by cases h),fun i o h=>(by cases h),⟨zk _,fun i h=>(by cases h)⟩,fun s=>?_,fun i o h=>(by cases h)⟩
  ·rw[hE];have:=zdN (β:=fun _=>undef) ctr.args xs vs [] (zu (fn.ntmps - vs.length) undef) hd hrep s;simp only[List.nil_append,zX]at this;have e:(vs.toArray++zz (fn.ntmps - vs.toArray.size) undef)=(vs++zu (fn.ntmps - vs.length) undef).toArray:=by simp
   show RepV w O _ _ _ ((vs.toArray++zz (fn.ntmps - vs.toArray.size) undef).getD s undef);rw[e];exact this
  ·show (zq (zc4 ctr.args xs 0) s).bound≤0;rw[zcO _ _ _ _ hd];exact zl _
 refine wp_mono (wpIn_wide.1 (h w O hX xs hp _ _ _ hsim)) fun e a' w' ⟨σ',β',h1,h2,h3⟩=>?_;obtain⟨v,h4,h5⟩:=zmr (X:=X) hK hX h1.seen h3 (.inr hXR);have h5:=h5.resolve_left hnu;have hb:=h1.bel.below hXR;rcases h2 with rfl|rfl
 ·exact⟨h1.df,v,h4,v,rfl,hb,h5⟩
 ·exact⟨h1.df,v,h4,v,rfl,hb,h5⟩
def zph (r:Ty) (x:r.T) (ts:List Ty) (xs:Args ts):AS:=⟨(0,⟨.optr r,⟨0,r,.here⟩⟩)::zc4 ts xs 1,[(0,some (.box r x))],1⟩
theorem zdW {G:zj->Prop} (hK:KnOk P G K) {f:zP} {fn:Func} {c:Code} {ctr:RCtr} (hf:P.funcs[f]? =some fn) (hb:fn.body=some c) (hn:fn.ntmps=n)
  (hen:∀ (zas:Array zh) (w:zj),(callFunc f zas).run P w= .ok (.enter f zas) w) (hd:zaY ctr.args=true) (hlen:ctr.args.length+1≤n) (hst:∀ w w' g,ctr.inv w g->G w->Kept (fun h=>h=g) w w'->G w')
  (h:∀ (w0:zj) (O:Nat->Prop) (g:Nat),(k8 G O g).Ok w0->ctr.inv w0 g->∀ (x:ctr.self.T) (xs:Args ctr.args),allP (ctr.pre x xs)->
    AWP P w0 (k8 G O g) n c (zph ctr.self x ctr.args xs) (fun e σ=>(e= .normal∨e= .ret)∧zm σ.E 0=some (.box ctr.self (ctr.post x xs))∧Done K.T fn.results.toList ⟨σ.F,ze5 [0] σ.E,σ.nx⟩ none ctr.res (ctr.out x xs))):zeW P G f ctr:=by
 refine⟨hen,fun w O g cs ty x xs vs hO hg hx hrep hp hinv hG=>calls_of_wp hf hb ?_⟩;have hvl:=zeB _ _ _ hrep;have hgl:=(zo.1 hg).1
 let X:Ownr:=k8 G O g
 have hXR:∀ h,X.R h↔h=g:=Ownr.one_R _ _ _;have hX:X.Ok w:=⟨fun h hh=>⟨(hO h hh).1,fun e=>(hO h hh).2 ((hXR h).1 e)⟩,fun h e=>by rw[(hXR h).1 e];exact hgl,fun w' hk=>hst w w' g hinv hG ⟨hk.os,hk.tape,hk.output,hk.size,fun k hkl hr=>hk.block k hkl fun hr'=>hr ((hXR k).1 hr')⟩⟩
 let β:Nat->zh:=fun _=>.pointer (some ⟨g,0,none⟩)
 have hE:OSet X (zph ctr.self x ctr.args xs).E β=fun h=>O h∨h=g:=by
  funext k
  apply propext;constructor
  ·rintro (h|⟨i,o,_,h⟩)
   ·exact .inl h
   ·exact .inr (by simpa [β,zag] using h.symm)
  ·rintro (h|h)
   ·exact .inl h
   ·exact .inr ⟨0,_,rfl,by rw[h];rfl⟩
 have hget:∀ i o,zm (zph ctr.self x ctr.args xs).E i=some o->i=0∧o= .box ctr.self x:=fun i o h=>by
  rw[show (zph ctr.self x ctr.args xs).E=[(0,some (.box ctr.self x))] from rfl,zah]at h;by_cases hi:0=i
  ·rw[if_pos hi]at h;cases h;exact⟨hi.symm,rfl⟩
  ·rw[if_neg hi]at h;cases h
 have hsim:Sim w X n (zph ctr.self x ctr.args xs) β { tmps:=(yk (some ⟨g,0,none⟩)::vs).toArray++zz (fn.ntmps - (yk (some ⟨g,0,none⟩)::vs).toArray.size) undef,defers:=[] } w:=by
  refine⟨by simp[hn,hvl];omega,rfl,jn _ _,fun s=>?_,fun i o h=>?_,fun i o k h hk=>?_,fun i j oi oj h h' hne=>?_,fun i o h=>?_,⟨zl _,fun i hi=>⟨rfl,fun o ho=>?_⟩⟩,fun s=>?_,fun i o h=>by rw[(hget i o h).2];intro _ e;cases e⟩
  ·rw[hE];have e:((yk (some ⟨g,0,none⟩)::vs).toArray++zz (fn.ntmps - (yk (some ⟨g,0,none⟩)::vs).toArray.size) undef)=([yk (some ⟨g,0,none⟩)]++vs++zu (fn.ntmps - (vs.length+1)) undef).toArray:=by simp
   show RepV w _ _ _ _ (((yk (some ⟨g,0,none⟩)::vs).toArray++zz (fn.ntmps - (yk (some ⟨g,0,none⟩)::vs).toArray.size) undef).getD s undef);rw[e];have:=zdN (β:=β) ctr.args xs vs [yk (some ⟨g,0,none⟩)] (zu (fn.ntmps - (vs.length+1)) undef) hd hrep s;have key:∀ u:zh,RepV w (fun h=>O h∨h=g) β (zq ((0,⟨.optr ctr.self,⟨0,ctr.self,.here⟩⟩)::zc4 ctr.args xs 1) s).t (zq ((0,⟨.optr ctr.self,⟨0,ctr.self,.here⟩⟩)::zc4 ctr.args xs 1) s).x u=RepV w (fun h=>O h∨h=g) β (if 0=s then (⟨.optr ctr.self,⟨0,ctr.self,.here⟩⟩:V) else zq (zc4 ctr.args xs 1) s).t (if 0=s then (⟨.optr ctr.self,⟨0,ctr.self,.here⟩⟩:V) else zq (zc4 ctr.args xs 1) s).x u:=fun u=>by
    rw[<-zat]
   refine (key _).mpr ?_;by_cases hs:0=s
   ·rw[if_pos hs];subst hs;exact⟨g,rfl,by simp[jy,Path.off]⟩
   ·rw[if_neg hs];exact this
  ·obtain⟨rfl,rfl⟩:=hget i o h;exact⟨g,cs,ty,rfl,zk _,hg,by rw[hE];exact hx⟩
  ·exact .inr ((hXR k).2 (by simpa [β,zag] using hk.symm))
  ·have:=(hget i oi h).1;have:=(hget j oj h').1;omega
  ·have:=(hget i o h).1;subst this;exact y9 0
  ·rw[(hget i o ho).2];rfl
  ·show (zq ((0,⟨.optr ctr.self,⟨0,ctr.self,.here⟩⟩)::zc4 ctr.args xs 1) s).bound≤1;rw[zat];by_cases hs:0=s
   ·rw[if_pos hs];exact zl _
   ·rw[if_neg hs,zcO _ _ _ _ hd];exact zk _
 refine wp_mono (wpIn_wide.1 (h w O g hX hinv x xs hp _ _ _ hsim)) fun e a' w' ⟨σ',β',h1,h2,h6,h3⟩=>?_;obtain⟨v,h4,h5⟩:=zhI (X:=X) hK hX h1 [0] h3 (O':=fun h=>O h∨h=g) (fun k hk=>by
  rcases hk with hk|hk
  ·exact .inl hk
  ·exact .inr ⟨0,_,h6,by rw[(h1.fix.2 0 (y9 0)).1,hk];rfl,.inl rfl⟩)
 have hbk:Kept (fun h=>h=g) w w':=⟨h1.bel.os,h1.bel.tape,h1.bel.output,h1.bel.size,fun k hk hr=>h1.bel.block k hk fun hr'=>hr ((hXR k).1 hr')⟩;obtain⟨g',cs',ty',hb1,_,hb3,hb4⟩:=h1.own 0 _ h6;have hb5:=(h1.fix.2 0 (y9 0)).1;rw[hb1]at hb5;have hgg:g'=g:=by simpa [zag,X,k8] using hb5
 subst hgg;have hb6:RepC w' (fun h=>O h∨h=g') ctr.self (ctr.post x xs) cs':=RepC.keep ⟨zl _,fun _ _ _=>rfl,fun k _ hk=>by
  rcases hk with hk|hk
  ·exact .inl hk
  ·exact .inr ⟨0,_,h6,by rw[hb1,hk];rfl⟩⟩ _ _ _ hb4
 rcases h2 with rfl|rfl
 ·exact⟨h1.df,v,h4,v,cs',ty',rfl,hbk,hb3,hb6,h5⟩
 ·exact⟨h1.df,v,h4,v,cs',ty',rfl,hbk,hb3,hb6,h5⟩
end
def tblB (P:zx):Tbl->Bool
 | []=>true
 |(t,τ)::r=>layB P τ (.inl t)&&tblB P r
def cmpT (P:zx) (T:Tbl):List zn->Bool
 | []=>true
 |t::r=>!P.eqGuardType P.depth t&&(match tget T t with |some τ=>Cmp P τ (.inl t)&&Nat.ble τ.depth 10000|none=>true)&&cmpT P T r
def ztJ (P:zx):UTbl->Bool
 | []=>true
 |(t,e)::r=>(match P.underlying t with |some (.slice e')=>yb e e'|_=>false)&&ztJ P r
theorem zsz {P:zx} {T:Tbl} (h:tblB P T=true):∀ t τ,tget T t=some τ->Lay P τ (.inl t):=by
 induction T with
 |nil=>intro t τ h;cases h
 |cons p r ih=>
  obtain⟨s,σ⟩:=p;intro t τ ht;simp only[tblB,zf]at h;simp only[tget,cond_eq_ite,xc]at ht;split at ht
  ·rename_i e;cases ht;exact e▸zs9 _ _ h.1
  ·exact ih h.2 t τ ht
theorem ztM {P:zx} {T:Tbl} {Q:List zn} (h:cmpT P T Q=true):∀ t,Q.any (yb t)=true->P.eqGuardType P.depth t=false∧∀ τ,tget T t=some τ->Cmp P τ (.inl t)=true∧τ.depth≤10000:=by
 induction Q with
 |nil=>intro t h;cases h
 |cons s r ih=>
  intro t ht;simp only[cmpT,zf,zB]at h;simp only[List.any_cons,yl,xc]at ht;rcases ht with rfl|ht
  ·refine⟨h.1.1,fun τ hτ=>?_⟩;have:=h.1.2;rw[hτ]at this;simp only[zf,qt]at this;exact this
  ·exact ih h.2 t ht
theorem zrk {P:zx} {U:UTbl} (h:ztJ P U=true):UOk P U:=by
 induction U with
 |nil=>intro t e h;cases h
 |cons p r ih=>
  obtain⟨s,e'⟩:=p;intro t e ht;simp only[ztJ,zf]at h;simp only[uget,cond_eq_ite,xc]at ht;split at ht
  ·rename_i hs;cases ht;subst hs;have h1:=h.1;split at h1
   ·rename_i e2 h2;rw[h2,xH h1]
   ·cases h1
  ·exact ih h.2 t e ht
theorem zrG {P:zx} {T:Tbl} {Q:List zn} (h:tblB P T=true) (hq:cmpT P T Q=true):TOk P T Q:=⟨zsz h,ztM hq⟩
theorem CsOk.nil {P:zx} {G:zj->Prop}:CsOk P G []:=fun f c h=>by cases h
theorem CsOk.cons {P:zx} {G:zj->Prop} {f:zP} {c:Ctr} {C:Ctrs} (h:yK P G f c) (hC:CsOk P G C):CsOk P G ((f,c)::C):=by
 intro g d hg;simp only[cget,cond_eq_ite,xc]at hg;split at hg
 ·rename_i e;cases hg;exact e▸h
 ·exact hC g d hg
theorem KnOk.withR {P:zx} {G:zj->Prop} {K:Kn} (h:KnOk P G K) {R:List (zP×RCtr)} (hR:RsOk P G R):KnOk P G { K with R:=R }:=⟨h.t,h.u,h.c,h.st,hR⟩
theorem KnOk.with {P:zx} {G:zj->Prop} {K:Kn} (h:KnOk P G K) {C:Ctrs} (hC:CsOk P G C):KnOk P G { K with C:=C }:=⟨h.t,h.u,hC,h.st,h.r⟩
theorem zam {n:Int} (h1: -9223372036854775808≤n) (h2:n≤9223372036854775807):inR .i64 n:=zq6.2 ⟨h1,h2⟩
theorem zaw {T:Tbl} {r:qd} {σ:AS} {t:Ty} {x y:t.T} {p:List Prop} {v:V} (h:rOf T σ r=some (p,v)) (hp:allP p) (ht:t.argOk=true) (hc:coe t (dat σ.E v)=some y) (hxy:y=x):Done T [r] σ none t x:=
 ⟨p,v,h,hp,ht,hxy▸hc⟩
theorem zbd {T:Tbl} {rs:List qd} {σ:AS} {t:Ty} {x y:t.T} {p:List Prop} (hl:rs.length≠1) (ht:t.tupData=true) (h:zon T σ rs t=some (p,y)) (hp:allP p) (hxy:y=x):Done T rs σ none t x:=by
 match rs,hl,h with
 | [],hl,h=>exact⟨hl,ht,p,hxy▸h,hp⟩
 | [_],hl,_=>exact (hl rfl).elim
 |_::_::_,hl,h=>exact⟨hl,ht,p,hxy▸h,hp⟩
theorem zdT (k:Nat):(⟨.int .i64,((k:Int)+1:Int)⟩:V)=⟨.int .i64,(((k+1:Nat):Int):Int)⟩:=rfl
theorem za0 {k:Nat} (h:k < 9223372036854775807):inR .i64 ((k:Int)+1):=zam (by omega) (by omega)
theorem zbB {w:zj} {O:Nat->Prop} {β:Nat->zh} {F:yJ} {ts:Array zh} {s:Nat} {v:V} (h:RepV w O β v.t v.x (ts.getD s undef)) (hF:∀ t,RepV w O β (zq F t).t (zq F t).x (ts.getD t undef)):
  ∀ t,RepV w O β (zq ((s,v)::F) t).t (zq ((s,v)::F) t).x (ts.getD t undef):=by
 intro t;rw[zat];by_cases hs:s=t
 ·rw[if_pos hs, <-hs];exact h
 ·rw[if_neg hs];exact hF t
theorem zfS {w:zj} {O:Nat->Prop} {β:Nat->zh} {ts:Array zh}:∀ t,RepV w O β (zq ([]:yJ) t).t (zq ([]:yJ) t).x (ts.getD t undef):=fun _=>trivial
section
open Go Go.RowKit Go.WideShapes Go.ChangeShapes
def Ty.good:Ty->Bool
 | .pair a b=>a.good&&b.good
 | .arr _ t=>t.good
 | .slice t=>t.good&&zW 0 t.size
 |_=>true
theorem zpC {k:IntKind} {n:Int} (h:k.min≤n∧n≤k.max):encI k (decI k n)=n:=by
 simp only[IntKind.min,IntKind.max]at h;cases k<;>simp[IntKind.signed,IntKind.bits]at h<;>simp only[encI,decI]
 ·simp;omega
 ·simp;omega
 ·simp;omega
 ·simp;omega
section
variable {P:zx} {w:zj} {H:Type} {enc:zn×zh->H} {base:Nat} {sp:Nat->Bool} {held:Bool}
def NoO:Nat->Prop:=fun _=>False
theorem zop {α:Type} {R:α->List zh->Prop} {s:Nat}:∀ (n:Nat) (cs:List zh),cs.length=n * s->(∀ i,i < n->∃ x,R x ((cs.drop (i * s)).take s))->∃ xs:List α,xs.length=n∧RepL R xs cs
 |0,cs,hl,_=>⟨[],rfl,yP (by simpa using hl)⟩
 |n+1,cs,hl,h=>by
  obtain⟨x,hx⟩:=h 0 (by omega);obtain⟨xs,hxs,hr⟩:=zop (R:=R) (s:=s) n (cs.drop s) (by rw[yS,hl,xp];omega) fun i hi=>by
   obtain⟨y,hy⟩:=h (i+1) (by omega);refine⟨y,?_⟩;rw[List.drop_drop,show s+i * s=(i+1) * s by rw[xp];omega];exact hy
  refine⟨x::xs,by simp[hxs],cs.take s,cs.drop s,by simp,?_,hr⟩
  simpa using hx
theorem ze8 {g off n:Nat} {spt:Option Nat} {cs:List zh} (h:w.cells? base ⟨g,off,spt⟩ n=some cs):cs.length=n∧∀ j,j < n->∃ u,cs[j]? =some u∧w.cell? ((⟨g,off,spt⟩:Addr).add j)=some u:=by
 unfold World.cells? at h;split at h
 ·refine⟨by simpa using Lib.mapM_length h,fun j hj=>?_⟩;obtain⟨b,h1,h2⟩:=Lib.mapM_at h j j (by simp[hj]);exact⟨b,h1,h2⟩
 ·cases h
theorem zij {α:Type} {R:α->List zh->Prop} {s g:Nat}:∀ (n off:Nat),(∀ i,i < n->∃ x c,zg c=s∧R x c∧∀ j,j < s->∃ u,c[j]? =some u∧w.cell? ⟨g,off+i * s+j,none⟩=some u)->∃ (xs:List α) (vs:List zh),xs.length=n∧RepL R xs vs∧CellsAt w g off vs
 |0,_,_=>⟨[],[],rfl,rfl,fun j u hu=>by simp at hu⟩
 |n+1,off,h=>by
  obtain⟨x,c,hc,hx,hcell⟩:=h 0 (by omega);obtain⟨xs,vs,h1,h2,h3⟩:=zij (R:=R) (s:=s) (g:=g) n (off+s) fun i hi=>by
   obtain⟨y,d,hd,hy,hdc⟩:=h (i+1) (by omega);refine⟨y,d,hd,hy,fun j hj=>?_⟩;obtain⟨u,hu1,hu2⟩:=hdc j hj;refine⟨u,hu1,?_⟩;rw[show off+s+i * s+j=off+(i+1) * s+j by rw[xp];omega];exact hu2
  refine⟨x::xs,c++vs,by simp[h1],⟨c,vs,rfl,hx,h2⟩,fun j u hu=>?_⟩;rw[List.getElem?_append]at hu;split at hu
  ·rename_i hj;obtain⟨u',hu1,hu2⟩:=hcell j (by omega);rw[hu1]at hu;cases hu
   simpa using hu2
  ·rename_i hj;have:=h3 (j - c.length) u hu;rw[hc]at this hj;rwa[show off+s+(j - s)=off+j by omega]at this
theorem zdR {τ:Ty} {t:zn} (h:Lay P τ (.inl t)):P.cellsOf t=τ.size:=by
 obtain⟨i,z,h1,h2,_⟩:=h.info;unfold Program.cellsOf;rw[h1];exact h2
def zt9 (P:zx) (w:zj) (enc:zn×zh->H) (base:Nat) (sp:Nat->Bool) (held:Bool) (τ:Ty):Prop:=
 ∀ (t:zn) (cs:List zh) (fuel:Nat) (d:kB H×List kl),Lay P τ (.inl t)->jS enc P w base sp held fuel t cs=some d->∃ x:τ.T,RepC w NoO τ x cs
def zgU (P:zx) (w:zj) (enc:zn×zh->H) (base:Nat) (sp:Nat->Bool) (held:Bool) (τ:Ty):Prop:=
 ∀ (fs:List Field) (off fuel:Nat) (cs:List zh) (ds:List (kB H×List kl)),Lay P τ (.inr (fs,off))->fs.mapM (fun f=>jS enc P w base sp held fuel f.type ((cs.drop f.offset).take (P.cellsOf f.type)))=some ds->
  ∃ x:τ.T,RepC w NoO τ x ((cs.drop off).take τ.size)
theorem zeQ {τ:Ty} {t:zn} {fs:Array Field} (hu:P.underlying t=some (.struct fs)) (hl:Lay P τ (.inr (fs.toList,0))) (hc:P.cellsOf t=τ.size) (h:zgU P w enc base sp held τ) {cs:List zh} {fuel:Nat} {d:kB H×List kl}
  (hd:jS enc P w base sp held fuel t cs=some d):∃ x:τ.T,RepC w NoO τ x cs:=by
 cases fuel with
 |zero=>simp[jS]at hd
 |succ fuel=>
  simp only[jS,hu]at hd;split at hd
  ·rename_i hlen;obtain⟨ds,hm,_⟩:=zG.1 hd;obtain⟨x,hx⟩:=h fs.toList 0 fuel cs ds hl hm;refine⟨x,?_⟩;rw[List.drop_zero,xx (by rw[hlen,hc];exact zl _)]at hx;exact hx
  ·cases hd
theorem zqe:∀ τ:Ty,τ.good=true->zt9 P w enc base sp held τ∧zgU P w enc base sp held τ:=by
 intro τ
 induction τ with
 |bool=>
  refine fun _=>⟨fun t cs fuel d hl h=>?_,fun fs off fuel cs ds hl=>hl.elim⟩;obtain⟨b,rfl,_⟩:=DataW.trod_bool hl.1 h;exact⟨b,rfl⟩
 |int k=>
  refine fun _=>⟨fun t cs fuel d hl h=>?_,fun fs off fuel cs ds hl=>hl.elim⟩;obtain⟨z,rfl,_,hwf⟩:=DataW.trod_int hl.1 h;simp only[Lit.wf,zf,decide_eq_true_eq]at hwf;exact⟨decI k z,show [Value.int k z]=[Value.int k (encI k (decI k z))] by rw[zpC hwf]⟩
 |str=>
  refine fun _=>⟨fun t cs fuel d hl h=>?_,fun fs off fuel cs ds hl=>hl.elim⟩;obtain⟨s,rfl,_,hs⟩:=DataW.trod_string hl.1 h;obtain⟨⟨l⟩⟩:=s;exact⟨l,rfl,by simpa [ByteArray.size] using hs⟩
 |unit=>
  have hS:zgU P w enc base sp held .unit:=fun fs off fuel cs ds hl h=>⟨(),by simp[RepC,Ty.size]⟩;refine fun _=>⟨fun t cs fuel d hl h=>?_,hS⟩;obtain⟨fs,hu,hi,hn⟩:=hl;exact zeQ hu (by rw[hn];rfl) (zdR (τ:=.unit) ⟨fs,hu,hi,hn⟩) hS h
 |pair a b iha ihb=>
  intro hg;simp only[Ty.good,zf]at hg;obtain⟨ia,_⟩:=iha hg.1;obtain⟨_,ib⟩:=ihb hg.2;have hS:zgU P w enc base sp held (.pair a b):=fun fs off fuel cs ds hl h=>by
   obtain⟨f,r,hf,ho,la,lb⟩:=hl;have hf:fs=f::r:=hf;subst hf;rw[List.mapM_cons]at h;obtain⟨y,hy,h⟩:=qp.1 h;obtain⟨ys,hys,h⟩:=qp.1 h;obtain⟨x1,hx1⟩:=ia _ _ _ _ la hy;obtain⟨x2,hx2⟩:=ib r _ fuel cs ys lb hys;have ho:f.offset=off:=ho;rw[zdR la,ho]at hx1;refine⟨(x1,x2),_,_,?_,hx1,hx2⟩;show (cs.drop off).take (a.size+b.size)=(cs.drop off).take a.size++(cs.drop (off+a.size)).take b.size;rw[List.take_add,List.drop_drop]
  refine⟨fun t cs fuel d hl h=>?_,hS⟩;obtain⟨fs,hu,hi,f,r,hf,ho,la,lb⟩:=hl;have hl':Lay P (.pair a b) (.inr (fs.toList,0)):=⟨f,r,hf,ho,la,by simpa using lb⟩;exact zeQ hu hl' (zdR (τ:=.pair a b) ⟨fs,hu,hi,f,r,hf,ho,la,lb⟩) hS h
 |arr n e ih=>
  intro hg;obtain⟨ie,_⟩:=ih hg;refine⟨fun t cs fuel d hl h=>?_,fun fs off fuel cs ds hl=>hl.elim⟩;obtain⟨te,hu,hi,le⟩:=hl;have hct:P.cellsOf t=n * e.size:=zdR (τ:=.arr n e) ⟨te,hu,hi,le⟩;cases fuel with
  |zero=>simp[jS]at h
  |succ fuel=>
   simp only[jS,hu]at h;split at h
   ·rename_i hlen;obtain⟨ds,hm,_⟩:=zG.1 h;obtain⟨xs,h1,h2⟩:=zop (R:=RepC w NoO e) (s:=e.size) n cs (by rw[hlen,hct]) fun i hi=>by
     obtain⟨y,_,hy⟩:=Lib.mapM_at hm i i (by simp[hi]);rw[zdR le]at hy;exact ie _ _ _ _ le hy
    exact⟨xs,h1,h2⟩
   ·cases h
 |slice e ih=>
  intro hg;simp only[Ty.good,zf,Nat.blt_eq]at hg;obtain⟨ie,_⟩:=ih hg.1;refine⟨fun t cs fuel d hl h=>?_,fun fs off fuel cs ds hl=>hl.elim⟩;obtain⟨te,hu,hi,le⟩:=hl;rcases DataW.trod_slice hu h with ⟨rfl,_⟩|⟨⟨g,off,spt⟩,len,cap,elems,rest,n,rfl,rfl,_,hb,hlc,hcm,hel,hix,_,_⟩
  ·exact⟨[],.slice none 0 0,rfl,.inl ⟨rfl,none,0,rfl,by simp[maxLen]⟩⟩
  ·by_cases hlen:len=0
   ·subst hlen;exact⟨[],_,rfl,.inl ⟨rfl,_,cap,rfl,hcm⟩⟩
   ·rw[zdR le]at hix;have hsome:∀ i,i < len->∃ c,w.cells? base ((⟨g,off,spt⟩:Addr).add (i * e.size)) e.size=some c∧∃ x:e.T,RepC w NoO e x c:=fun i hi=>by
     have h1:=hix i hi;have h2:∃ y,elems[i]? =some y:=⟨elems[i]'(by omega),by simp[hel,hi]⟩;obtain⟨y,hy⟩:=h2;rw[hy]at h1;obtain⟨c,hc1,hc2⟩:=qp.1 h1;exact⟨c,hc1,ie _ _ _ _ le hc2⟩
    have hspt:spt=none:=by
     obtain⟨c,hc1,_⟩:=hsome 0 (by omega);cases spt with
     |none=>rfl
     |some q=>
      exfalso;have e0:∀ k,k=0->(⟨g,off,some q⟩:Addr).add k=⟨g,off,some q⟩:=fun k hk=>by unfold Addr.add;rw[if_pos hk]
      rw[e0 _ (Nat.zero_mul _)]at hc1;obtain⟨u,_,hu2⟩:=(ze8 hc1).2 0 (by omega);rw[e0 _ rfl]at hu2;unfold xo at hu2;split at hu2
      ·simp at hu2
      ·cases hu2
    subst hspt;obtain⟨xs,vs,h1,h2,h3⟩:=zij (w:=w) (R:=RepC w NoO e) (s:=e.size) (g:=g) len off fun i hi=>by
     obtain⟨c,hc1,x,hx⟩:=hsome i hi;rw[yZ]at hc1;obtain⟨hcl,hcc⟩:=ze8 hc1;refine⟨x,c,hcl,hx,fun j hj=>?_⟩;obtain⟨u,hu1,hu2⟩:=hcc j hj;rw[yZ]at hu2;exact⟨u,hu1,hu2⟩
    have hgl:g < w.heap.size:=by
     obtain⟨c,hc1,_⟩:=hsome 0 (by omega);rw[yZ]at hc1;obtain⟨u,_,hu2⟩:=(ze8 hc1).2 0 (by omega);rw[yZ]at hu2;unfold xo at hu2;cases hh:w.heap[g]? with
     |none=>simp[hh]at hu2
     |some o=>exact (zo.1 hh).1
    refine⟨xs,_,rfl,.inr ⟨g,off,cap,vs,by rw[h1],fun hx=>hlen (by rw[<-h1,hx];rfl),by omega,hcm,hgl,fun h=>h,h2,h3⟩⟩
 |_=>exact fun _=>⟨fun t cs fuel d hl h=>hl.elim,fun fs off fuel cs ds hl=>hl.elim⟩
def zkO (P:zx):List Ty->List zn->Prop
 | [],[]=>True
 |τ::r,t::s=>Lay P τ (.inl t)∧zkO P r s
 |_,_=>False
theorem zkg {T:Tbl} {Q:List zn} (hT:TOk P T Q):∀ (ts:List Ty) (tids:List zn),(ts.length==tids.length&&(ts.zip tids).all fun p=>tis T p.2 p.1)=true->zkO P ts tids
 | [],[],_=>trivial
 |τ::r,t::s,h=>by
  simp only[zt,List.zip_cons_cons,jk,zf,beq_iff_eq]at h;exact⟨hT.is h.2.1,zkg hT r s (by simp only[zf,beq_iff_eq];exact⟨by omega,h.2.2⟩)⟩
 | [],_::_,h=>by simp at h
 |_::_,[],h=>by simp at h
theorem zpH {v:zh} (hv:∀ cs,v≠ .agg cs):v.cells.toList=[v]:=by
 cases v<;>first|rfl|exact absurd rfl (hv _)
theorem znH {τ:Ty} (hg:τ.good=true) {t:zn} (hl:Lay P τ (.inl t)) {v:zh} {d:kB H} {ps:List kl} (h:DataW.Trod enc P w base sp held t v d ps) {r:Reach} {b2:Nat} (hok:vD P w r b2 t v):∃ x:τ.T,RepD w NoO τ x v:=by
 obtain⟨fuel,h⟩:=h;obtain⟨x,hx⟩:=(zqe τ hg).1 t _ fuel _ hl h;refine⟨x,?_⟩;cases hagg:τ.isAgg with
 |true=>
  rw[RepD.agg hagg];have:∃ cs,v= .agg cs:=by
   unfold vD at hok;cases τ with
   |unit=>obtain⟨fs,hu,_⟩:=hl;rw[hu]at hok;obtain⟨cs,e,_⟩:=hok;exact⟨cs,e⟩
   |pair a b=>obtain⟨fs,hu,_⟩:=hl;rw[hu]at hok;obtain⟨cs,e,_⟩:=hok;exact⟨cs,e⟩
   |arr k e=>obtain⟨te,hu,_⟩:=hl;rw[hu]at hok;obtain⟨cs,e,_⟩:=hok;exact⟨cs,e⟩
   |_=>cases hagg
  obtain⟨cs,rfl⟩:=this;exact⟨cs.toList,by simp,hx⟩
 |false=>
  rw[RepD.scalar hagg];have hv:∀ cs,v≠ .agg cs:=by
   rintro cs rfl;unfold vD at hok;cases τ with
   |bool=>rw[hl.1]at hok;simp[kG,Cell.ok,hl.1]at hok
   |int k=>rw[hl.1]at hok;simp[kG,Cell.ok,hl.1]at hok
   |str=>rw[hl.1]at hok;simp[kG,Cell.ok,hl.1]at hok
   |slice e=>obtain⟨te,hu,_⟩:=hl;rw[hu]at hok;simp[kG,Cell.ok,hu]at hok
   |unit=>cases hagg
   |pair a b=>cases hagg
   |arr k e=>cases hagg
   |_=>exact hl.elim
  rw[zpH hv]at hx;exact hx
theorem zgX:∀ (ts:List Ty) (tids:List zn) (vs:List zh) (ds:List (kB H)) (ps:List kl),(ts.all Ty.good)=true->zkO P ts tids->kR enc P w base sp held tids vs ds ps->
  ∀ {r:Reach} {b2:Nat},(∀ (j:Nat) t v,tids[j]? =some t->vs[j]? =some v->vD P w r b2 t v)->ds.length=ts.length∧∃ xs:Args ts,RepA w NoO ts xs vs
 | [],[],[],[],_,_,_,_,_,_,_=>⟨rfl,(),rfl⟩
 |τ::ts,t::tids,v::vs,d::ds,ps,hg,hl,h,r,b2,hok=>by
  simp only[jk,zf]at hg;obtain⟨p,q,h1,h2,_⟩:=h;obtain⟨x,hx⟩:=znH hg.1 hl.1 h1 (hok 0 t v rfl rfl);obtain⟨e,xs,hxs⟩:=zgX ts tids vs ds q hg.2 hl.2 h2 (fun j t' v' hj hv=>hok (j+1) t' v' (by simpa using hj) (by simpa using hv));exact⟨by simp[e],(x,xs),v,vs,rfl,zcA hx,hxs⟩
 | [],[],[],_::_,_,_,_,h,_,_,_=>h.elim
 | [],[],_::_,_,_,_,_,h,_,_,_=>by cases ‹List (kB H)› <;>exact h.elim
 |_::_,_::_,[],ds,_,_,_,h,_,_,_=>by cases ds<;>exact h.elim
 |_::_,_::_,_::_,[],_,_,_,h,_,_,_=>h.elim
 | [],_::_,_,_,_,_,hl,_,_,_,_=>hl.elim
 |_::_,[],_,_,_,_,hl,_,_,_,_=>hl.elim
theorem zff {W W':zj} (hl:laidOutB P=true) (hb:yV W.heap.size W W'):∀ (tids:List zn) (vs:List zh) (ds:List (kB H)) (ps:List kl),(tids.all fun t=>P.readableRec t&&decide (t < P.types.size))=true->kR enc P W 0 (fun _=>true) true tids vs ds ps->(∀ x∈ps,x.block < W.heap.size)->
  ∀ spare:Nat->Bool,(∀ p∈ps,spare p.block=true)->kR enc P W' 0 spare true tids vs ds ps
 | [],[],[],_,_,h,_,_,_=>h
 |t::tids,v::vs,d::ds,ps,ht,h,hlt,spare,hsp=>by
  obtain⟨p,q,h1,h2,rfl⟩:=h;simp only[jk,zf,decide_eq_true_eq]at ht;have hp:∀ x∈p,x.block < W.heap.size:=fun x hx=>hlt x (by simp[hx]);refine⟨p,q,?_,zff hl hb tids vs ds q ht.2 h2 (fun x hx=>hlt x (by simp[hx])) spare (fun x hx=>hsp x (by simp[hx])),rfl⟩;exact WideElems.Trod_stays hl ht.1.1 ht.1.2 h1 (fun x hx=>hb.same (hp x hx)) (fun x hx=>hsp x (by simp[hx]))
 | [],_::_,_,_,_,h,_,_,_=>by cases ‹List (kB H)› <;>exact h.elim
 | [],[],_::_,_,_,h,_,_,_=>h.elim
 |_::_,[],ds,_,_,h,_,_,_=>by cases ds<;>exact h.elim
 |_::_,_::_,[],_,_,h,_,_,_=>h.elim
def lawCtr (ts:List Ty):Ctr:={ args:=ts,pre:=fun _=>[],res:=.bool,own:=none,out:=fun _=>true }
theorem law_of_ctr {G:zj->Prop} {k:zP} {fn:Func} {s:ChangeSpec} {ts:List Ty} (hc:yK P G k (lawCtr ts)) (hlay:zkO P ts fn.params.toList) (hgood:(ts.all Ty.good)=true) (hvars:s.vars=[])
  (hspec:∀ (ds:List (kB H)),ds.length=ts.length->s.fn H ds={ results:=[.lit (.bool true)],args:=ds }) (hlaid:laidOutB P=true) (hrec:(fn.params.toList.all fun t=>P.readableRec t&&decide (t < P.types.size))=true) {tb:zn} (hres:fn.resultTypes= #[tb]) (htb:P.underlying tb=some .bool)
  {W:zj} {args:Array zh} {ds gs:List (kB H)} {before:List kl} {b2:Nat} (hval:∀ (j:Nat) t v,fn.params[j]? =some t->args[j]? =some v->vD P W .any b2 t v)
  (hW:DataW.Whole enc P fn.params.toList s.vars false W args.toList ds gs before) (hG:G W):
  Calls P k args W fun e W'=>∃ v,e= .returned v∧s.post enc P fn false true false false W args v W':=by
 have hlt:∀ p∈before,p.block < W.heap.size:=fun p hp=>hW.lt p hp;have hW':=hW;obtain⟨p,q,hA,hV,rfl,_,_⟩:=hW;rw[hvars]at hV;have hgs:gs=[]∧q=[]:=by
  cases gs with
  |nil=>exact⟨rfl,hV⟩
  |cons g r=>exact hV.elim
 obtain⟨rfl,rfl⟩:=hgs;obtain⟨hlen,xs,hxs⟩:=zgX ts fn.params.toList args.toList ds p hgood hlay hA (r:=.any) (b2:=b2) (fun j t v hj hv=>hval j t v (by simpa using hj) (by simpa using hv));have hcall:=hc.2 W NoO xs args.toList (fun g hg=>hg.elim) hxs trivial hG;rw[Array.toArray_toList]at hcall;refine hcall.mono ?_;rintro e W' ⟨v,rfl,hb,hr⟩;have hv:v= .bool true:=qM (hr (fun _=>undef));subst hv;have hfn:s.fn H (ds++ [])={ results:=[.lit (.bool true)],args:=ds }:=by rw[zL];exact hspec ds hlen
 refine⟨_,rfl,ds,[],_,[],p,[],hW',?_,?_,?_,?_,fun h=>(by cases h)⟩
 ·rw[hfn,hres];exact⟨[],[],⟨1,by simp[jS,htb,Value.cells,Value.resultList]⟩,rfl,rfl⟩
 ·rw[hfn];exact zff hlaid hb _ _ _ _ hrec hA (fun x hx=>hlt x (by simp[hx])) _ (fun x hx=>by simpa using hlt x (by simp[hx]))
 ·rw[hvars,hfn];rfl
 ·exact World.keptBut_mono (fun x hx=>⟨hx,.inr (.inl (by simpa using hx))⟩) (hb.frame (· ∈p++ []))
end
end
def hasN:List Nat->Nat->Bool
 | [],_=>false
 |a::l,i=>bif yb a i then true else hasN l i
theorem zmd {l:List Nat} {i:Nat}:hasN l i=true↔i∈l:=by
 induction l with
 |nil=>simp[hasN]
 |cons a l ih=>
  rw[hasN,cond_eq_ite,yd];by_cases h:yb a i=true
  ·rw[if_pos h];have:=xH h;simp[this]
  ·rw[if_neg h,ih];have:i≠a:=fun e=>h (by rw[e];exact Nat.beq_refl a);simp[this]
def zhb (done:List Nat):List Oper->Nat->List Nat
 | [],_=>[]
 |o::l,i=>bif (!hasN done i)&&(o.after.toList.all fun e=>!qw .any e||hasN done e.on) then i::zhb done l (i+1) else zhb done l (i+1)
theorem zik {done:List Nat}:∀ {l:List Oper} {i j:Nat} {o:Oper},l[j]? =some o->hasN done (i+j)=false->(∀ e∈o.after,qw .any e=true->hasN done e.on=true)->i+j∈zhb done l i
 | [],_,_,_,h,_,_=>by simp at h
 |o::l,i,0,o',h,hd,ha=>by
  cases h;have hd:hasN done i=false:=hd;have h2:(o.after.toList.all fun e=>!qw .any e||hasN done e.on)=true:=zZ.2 fun e he=>by
   cases hb:qw .any e with
   |false=>rfl
   |true=>simp[ha e (jA.1 he) hb]
  simp only[zhb,hd,h2,Bool.not_false,Bool.and_self,cond_true,j0,yd,true_or]
 |o::l,i,j+1,o',h,hd,ha=>by
  have:=zik (done:=done) (l:=l) (i:=i+1) (j:=j) (o:=o') (by simpa using h) (by rw[show i+1+j=i+(j+1) by omega];exact hd) ha;rw[show i+1+j=i+(j+1) by omega]at this;rw[zhb,cond_eq_ite];split
  ·exact yy _ this
  ·exact this
def AllN (p:Nat->Prop):List Nat->Prop
 | []=>True
 |i::l=>p i∧AllN p l
theorem AllN.nil {p:Nat->Prop}:AllN p []:=trivial
theorem AllN.cons {p:Nat->Prop} {i:Nat} {l:List Nat} (h:p i) (h':AllN p l):AllN p (i::l):=⟨h,h'⟩
theorem AllN.mem {p:Nat->Prop} {l:List Nat} (h:AllN p l) {i:Nat} (hi:i∈l):p i:=by
 induction l with
 |nil=>cases hi
 |cons a l ih=>
  rcases yd.1 hi with rfl|hi
  ·exact h.1
  ·exact ih h.2 hi
section
variable {w0:zj} {X:Ownr} {n:Nat} {σ:AS} {β:Nat->zh} {a:Act} {w:zj}
theorem RepH.set {O:Nat->Prop}:∀ {vs:List V} {cs:List zh} {k:Nat} {v v':V},RepH w O β vs cs->vs[k]? =some v->(∀ u,RepV w O β v.t v.x u->RepV w O β v'.t v'.x u)->RepH w O β (vs.set k v') cs
 | [],_,_,_,_,_,h,_=>by simp at h
 |y::r,_,0,_,_,⟨u,s,e,h2,h3,h4⟩,h,hv=>by
  cases h;exact⟨u,s,e,h2,hv u h3,h4⟩
 |y::r,_,k+1,_,_,⟨u,s,e,h2,h3,h4⟩,h,hv=>⟨u,s,e,h2,h3,RepH.set h4 (by simpa using h) hv⟩
theorem Sim.viewOf (h:Sim w0 X n σ β a w) (hX:X.Ok w0) {i:Nat} {te:zn} {t:Ty} {xs:List t.T} (hi:zm σ.E i=some (.buf te t xs)):RepD w (OSet X ((i,none)::σ.E) β) (.slice t) xs (β i):=
 (h.own i _ hi).view (fun g _ hg=>by
   rcases hg with hg|⟨j,oj,h1,h2⟩
   ·exact .inl hg
   ·rw[zah]at h1;by_cases hs:i=j
    ·rw[if_pos hs]at h1;cases h1
    ·rw[if_neg hs]at h1;exact .inr ⟨j,oj,h1,h2⟩) fun g hg hg'=>by
   rcases hg' with hg'|⟨j,oj,h1,h2⟩
   ·have h3:=hX.1 g hg';rcases h.new i _ g hi hg with h4|h4
    ·omega
    ·exact h3.2 h4
   ·rw[zah]at h1;by_cases hs:i=j
    ·rw[if_pos hs]at h1;cases h1
    ·rw[if_neg hs]at h1;exact h.inj i j _ _ hi h1 hs g hg h2
theorem Sim.leaf (h:Sim w0 X n σ β a w) {i k:Nat} {ty:zn} {vs:List V} {v v':V} (hi:zm σ.E i=some (.hbox ty vs)) (hk:vs[k]? =some v) (hv:∀ u,RepV w (OSet X σ.E β) β v.t v.x u->RepV w (OSet X σ.E β) β v'.t v'.x u) (hb:v'.bound≤σ.nx):
  Sim w0 X n { σ with E:=(i,some (.hbox ty (vs.set k v')))::σ.E } β a w:=by
 refine h.write (w':=w) hi ⟨rfl,rfl,rfl,zl _,fun _ _ _=>rfl⟩ (fun _=>?_) rfl ?_
 ·obtain⟨g,cs,e,h1,h2,h3⟩:=h.own i _ hi;exact⟨g,cs,e,h1,h2,h3.set hk hv⟩
 ·intro ws e u hu;cases e;rcases List.mem_or_eq_of_mem_set hu with hu|rfl
  ·exact h.hE i _ hi vs rfl u hu
  ·exact hb
theorem Sim.growNil (h:Sim w0 X n σ β a w) (te:zn) (τ:Ty) (hτ:0 < τ.size):∃ β',(∀ i,i < σ.nx->β' i=β i)∧β' σ.nx= .slice none 0 0∧Sim w0 X n { σ with E:=(σ.nx,some (.buf te τ []))::σ.E,nx:=σ.nx+1 } β' a w:=by
 refine⟨fun j=>if j=σ.nx then .slice none 0 0 else β j,fun i hi=>by simp[Nat.ne_of_lt hi],by simp,?_⟩;have hO:=fun g=>OSet.new (X:=X) (β:=β) (bv:=.slice none 0 0) (o:=.buf te τ []) h.lt g;have hkeep:xC w w (OSet X σ.E β) (OSet X ((σ.nx,some (.buf te τ []))::σ.E) (fun j=>if j=σ.nx then .slice none 0 0 else β j)):=
  ⟨zl _,fun _ _ _=>rfl,fun g _ hg'=>by
    rcases (hO g).1 hg' with h1|h1
    ·exact h1
    ·cases h1⟩
 refine⟨h.sz,h.df,h.bel,fun s=>RepV.update _ _ _ (h.hb s) (yE hkeep _ _ _ (h.fr s)),fun i oi hi=>?_,fun i oi g hi=>?_,fun i j oi oj hi hj hij g=>?_,fun i oi hi=>?_,⟨jX h.fix.1,fun i hi=>?_⟩,fun s=>jX (h.hb s),fun i oi hi=>?_⟩
 ·rw[show zm ((σ.nx,some (.buf te τ []))::σ.E) i=_ from zah ..]at hi;by_cases hs:σ.nx=i
  ·subst hs;rw[if_pos rfl]at hi;cases hi;show zY _ _ _ _ (if σ.nx=σ.nx then _ else _) _;rw[if_pos rfl];exact⟨[],rfl,⟨by simp,.inl ⟨rfl,rfl⟩⟩,hτ⟩
  ·rw[if_neg hs]at hi;show zY _ _ _ _ (if i=σ.nx then _ else _) _;rw[if_neg (yT hs)];exact ((h.own i oi hi).keep hkeep fun _ _=>rfl).update (h.hE i oi hi)
 ·rw[show zm ((σ.nx,some (.buf te τ []))::σ.E) i=_ from zah ..]at hi;show zag (if i=σ.nx then _ else β i)=some g->_;by_cases hs:σ.nx=i
  ·rw[if_pos hs.symm];intro hg;cases hg
  ·rw[if_neg hs]at hi;rw[if_neg (yT hs)];exact h.new i oi g hi
 ·rw[show zm ((σ.nx,some (.buf te τ []))::σ.E) i=_ from zah ..]at hi;rw[show zm ((σ.nx,some (.buf te τ []))::σ.E) j=_ from zah ..]at hj;show zag (if i=σ.nx then _ else β i)=some g->zag (if j=σ.nx then _ else β j)≠some g;by_cases h1:σ.nx=i
  ·rw[if_pos h1.symm];intro hg;cases hg
  ·rw[if_neg h1]at hi;rw[if_neg (yT h1)];by_cases h2:σ.nx=j
   ·rw[if_pos h2.symm];intro _ hg;cases hg
   ·rw[if_neg h2]at hj;rw[if_neg (yT h2)];exact h.inj i j oi oj hi hj hij g
 ·rw[show zm ((σ.nx,some (.buf te τ []))::σ.E) i=_ from zah ..]at hi;show i < σ.nx+1;by_cases hs:σ.nx=i
  ·omega
  ·rw[if_neg hs]at hi;have:=h.lt i oi hi;omega
 ·obtain⟨h2,h3⟩:=h.fix.2 i hi;have hne:i≠σ.nx:=by have:=h.fix.1;omega
  refine⟨?_,fun oi ho=>?_⟩
  ·show zag (if i=σ.nx then _ else β i)=some (X.fix i);rw[if_neg hne];exact h2
  ·rw[show zm ((σ.nx,some (.buf te τ []))::σ.E) i=_ from zah ..,if_neg (yT hne)]at ho;exact h3 oi ho
 ·rw[show zm ((σ.nx,some (.buf te τ []))::σ.E) i=_ from zah ..]at hi;by_cases hs:σ.nx=i
  ·rw[if_pos hs]at hi;cases hi;intro _ e;cases e
  ·rw[if_neg hs]at hi;intro vs e v hv;exact jX (h.hE i oi hi vs e v hv)
def frzL (σ:AS) (i k:Nat):AS:=
 match zm σ.E i with
 |some (.hbox ty vs)=>match vs[k]? with
  |some ⟨.obuf _,j⟩=>match zm σ.E j with
   |some (.buf _ t xs)=>{ F:=Frame.thaw j t xs σ.F,E:=(i,some (.hbox ty (vs.set k ⟨.slice t,xs⟩)))::(j,none)::σ.E,nx:=σ.nx }
   |_=>σ
  |_=>σ
 |_=>σ
theorem Sim.frzL (h:Sim w0 X n σ β a w) (hX:X.Ok w0) (i k:Nat):Sim w0 X n (frzL σ i k) β a w:=by
 unfold Go.Proofs.YtpeaigpfddalcaaGreatDoor.frzL;split
 ·rename_i ty vs hi;split
  ·rename_i t0 j hk;split
   ·rename_i te t xs hj;have h1:=h.freeze hX hj;have hij:j≠i:=fun e=>by subst e;rw[hi]at hj;cases hj
    have hi':zm ((j,none)::σ.E) i=some (.hbox ty vs):=by rw[zah,if_neg hij];exact hi
    have hview:=h.viewOf hX hj;exact h1.leaf hi' hk (v':=⟨.slice t,xs⟩) (fun u hu=>by
     have hu:u=β j:=hu;rw[hu];exact zcA hview) (zk _)
   ·exact h
  ·exact h
 ·exact h
end
section
variable {P:zx} {w0:zj} {X:Ownr} {n:Nat} {σ:AS} {Q:Exit->AS->Prop}
theorem AWP.frzL (hX:X.Ok w0) (i k:Nat) {c:Code} (h:AWP P w0 X n c (Go.Proofs.YtpeaigpfddalcaaGreatDoor.frzL σ i k) Q):AWP P w0 X n c σ Q:=fun β a w hs=>h β a w (hs.frzL hX i k)
theorem AWP.nilLeaf (i k:Nat) (te:zn) (τ:Ty) {ty:zn} {vs:List V} {c:Code} (hi:zm σ.E i=some (.hbox ty vs)) (hk:vs[k]? =some ⟨.lit,.slice none 0 0⟩) (hτ:zW 0 τ.size=true)
  (h:AWP P w0 X n c { σ with E:=(i,some (.hbox ty (vs.set k ⟨.obuf τ,σ.nx⟩)))::(σ.nx,some (.buf te τ []))::σ.E,nx:=σ.nx+1 } Q):AWP P w0 X n c σ Q:=by
 intro β a w hs;obtain⟨β',h1,h2,h3⟩:=hs.growNil te τ (by simpa using hτ);have hlt:=hs.lt i _ hi;have hi':zm ((σ.nx,some (.buf te τ []))::σ.E) i=some (.hbox ty vs):=by rw[zah,if_neg (by omega)];exact hi
 exact h β' a w (h3.leaf hi' hk (v':=⟨.obuf τ,σ.nx⟩) (fun u hu=>by
  have hu:u= .slice none 0 0:=hu;show u=β' σ.nx;rw[hu,h2]) (zl _))
end
section
variable {P:zx} {K:Kn} {w0:zj} {X:Ownr} {n:Nat} {σ:AS} {Q:Exit->AS->Prop}
theorem AWP.mid (hX:X.Ok w0) (hK:KnOk P X.G K) {id:Nat} {ops:Array Oper} (pre:List Oper) (o:Oper) (rest:List Oper) (hops:ops.toList=pre++o::rest) (hgd:o.guard=none) {r1:List Prop×AS} (hs:aSeq K n ops pre σ=some r1) (hp:allP r1.1)
  (hstep:∀ β a w,Sim w0 X n r1.2 β a w->o.wp P a w (fun a' w'=>∃ σ2 β' r2,Sim w0 X n σ2 β' a' w'∧aSeq K n ops rest σ2=some r2∧allP r2.1∧Q .normal r2.2) (fun e a' w'=>e≠ .outgrown∧∃ σ' β',Sim w0 X n σ' β' a' w'∧Q e σ'))
  (hd1:zba pre=true:=by rfl) (hd2:zba (o::rest)=true:=by rfl):AWP P w0 X n (.region id ops false) σ Q:=by
 intro β a w hsim
 let R:Exit->Act->zj->Prop:=fun e a' w'=>e≠ .outgrown∧∃ σ' β',Sim w0 X n σ' β' a' w'∧Q e σ'
 have hno:¬ jP R:=fun⟨_,_,h,_⟩=>h rfl;have h2:∀ β a w,Sim w0 X n r1.2 β a w->wpList P ops R (o::rest) a w:=fun β a w h=>by
  refine wpList_plain hgd fun K' hK'=>?_;refine vd (fun a' w' ⟨σ2,β',r2,h3,h4,h5,h6⟩=>hK' a' w' ?_) (hstep β a w h);exact zgd hK hX rest h3 h4 h5 fun β'' a'' w'' h7=>⟨(fun h=>by cases h),r2.2,β'',h7,h6⟩
 refine yM (wpIn_region_list (Q:=R) ?_) fun e a w h=>h.2;rw[hops];refine zcz _ _ (zbr zeC _ hd1 (zgd hK hX pre hsim hs hp fun β' a' w' h=>⟨rfl,?_⟩));exact zbr hno _ hd2 (h2 β' a' w' h)
theorem zpA {w:zj} {xt e:zn} (hu:P.underlying xt=some (.slice e)) (A:Option Addr) (l c:Nat):∀ d,0 < d->(Op.equalIn d xt (.slice A l c) (.slice none 0 0)).run P w= .ok A.isNone w
 |0,h=>absurd h (Nat.lt_irrefl 0)
 |d+1,_=>by cases A<;>simp[Op.equalIn,run_underlying hu]
theorem znu {w:zj} {xt e:zn} (hu:P.underlying xt=some (.slice e)) (A:Option Addr) (l c:Nat):(Go.binOp .eql xt (.slice A l c) (.slice none 0 0)).run P w= .ok (.bool A.isNone) w:=by
 simp only[Go.binOp,Op.equal,Op.maxDepth,zC,zpA hu A l c 10000 (by decide),zA,zv]
theorem AWP.nilEq (hX:X.Ok w0) (hK:KnOk P X.G K) {id:Nat} {ops:Array Oper} (pre:List Oper) (o:Oper) {xt yt e:zn} {x:zE} {d:Nat} {τ:Ty} {xs:List τ.T} (hops:ops.toList=pre++ [o])
  (ho:o.op= .binOp .eql xt x (.const (.slice none 0 0)) yt) (hgd:o.guard=none) (hdst:o.dst=some d) (hd:zW d n=true) (hu:P.underlying xt=some (.slice e)) {r1:List Prop×AS} (hs:aSeq K n ops pre σ=some r1) (hp:allP r1.1)
  (hx:evO r1.2.F x=⟨.slice τ,xs⟩) (hq:∀ b:Bool,(b=true->xs=[])->Q .normal ⟨(d,⟨.bool,b⟩)::r1.2.F,r1.2.E,r1.2.nx⟩) (hd1:zba pre=true:=by rfl) (hd2:zba [o]=true:=by rfl):AWP P w0 X n (.region id ops false) σ Q:=by
 refine AWP.mid hX hK pre o [] hops hgd hs hp (fun β a w h=>?_) hd1 hd2;have hd':d < n:=by simpa using hd
 have hv:=h.ops x;rw[hx]at hv;have hv:RepD w (OSet X r1.2.E β) (.slice τ) xs (a.eval x):=hv;obtain⟨A,l,c,hA,hE⟩:∃ A l c,a.eval x= .slice A l c∧(A=none->xs=[]):=by
  have h3:∃ v,[a.eval x]=[v]∧RepS w (OSet X r1.2.E β) (RepC w (OSet X r1.2.E β) τ) xs v:=hv;obtain⟨v,e1,h3⟩:=h3;cases e1;rcases h3 with ⟨h3,A,c,h4,_⟩|⟨g,off,c,vs,h4,_⟩
  ·exact⟨A,0,c,h4,fun _=>h3⟩
  ·exact⟨_,_,c,h4,fun h=>by cases h⟩
 have hrun:(execOp a.eval o).run P w= .ok (.value (.bool A.isNone)) w:=by
  unfold execOp;simp only[ho];have he:a.eval (.const (.slice none 0 0))= .slice none 0 0:=rfl;rw[hA,he];exact zdH (zbv (fun cs h=>by cases h) (fun h=>by cases h) (znu hu A l c))
 refine zbz hrun ?_;rw[hdst];exact⟨_,β,([],_),h.put (zV _ _) (v:=⟨.bool,A.isNone⟩) RepV.ofBool (zk _) hd',rfl,trivial,hq _ fun hb=>hE (by simpa using hb)⟩
end
section
variable {P:zx} {K:Kn} {w0:zj} {X:Ownr} {n:Nat} {σ:AS} {Q:Exit->AS->Prop} {ops:Array Oper}
def AL (P:zx) (w0:zj) (X:Ownr) (n:Nat) (ops:Array Oper) (l:List Oper) (σ:AS) (Q:Exit->AS->Prop):Prop:=
 ∀ β a w,Sim w0 X n σ β a w->wpListIn (zeK X.ρ) 0 P ops (fun e a' w'=>e≠ .outgrown∧∃ σ' β',Sim w0 X n σ' β' a' w'∧Q e σ') l a w
theorem AL.nil (h:Q .normal σ):AL P w0 X n ops [] σ Q:=fun β a w hs=>⟨(fun h=>by cases h),σ,β,hs,h⟩
theorem AL.seq (hX:X.Ok w0) (hK:KnOk P X.G K) (pre:List Oper) {rest:List Oper} {r:List Prop×AS} (hs:aSeq K n ops pre σ=some r) (hp:allP r.1) (h:AL P w0 X n ops rest r.2 Q) (hd:zba pre=true:=by rfl):AL P w0 X n ops (pre++rest) σ Q:=
 fun β a w hsim=>zcz _ _ (zbr zeC _ hd (zgd hK hX pre hsim hs hp fun β' a' w' h'=>⟨rfl,h β' a' w' h'⟩))
theorem AL.all (hX:X.Ok w0) (hK:KnOk P X.G K) {l:List Oper} {r:List Prop×AS} (hs:aSeq K n ops l σ=some r) (hp:allP r.1) (hq:Q .normal r.2) (hd:zba l=true:=by rfl):AL P w0 X n ops l σ Q:=by
 have h:=AL.seq (rest:=[]) (Q:=Q) hX hK l hs hp (AL.nil hq) hd;rwa[zL]at h
theorem AL.take (k:Nat) (hX:X.Ok w0) (hK:KnOk P X.G K) {l:List Oper} {r:List Prop×AS} (hs:aSeq K n ops (l.take k) σ=some r) (hp:allP r.1) (h:AL P w0 X n ops (l.drop k) r.2 Q) (hd:zba (l.take k)=true:=by rfl):AL P w0 X n ops l σ Q:=by
 have h:=AL.seq (Q:=Q) hX hK (l.take k) hs hp h hd;rwa[x9]at h
theorem zai {id:Nat} (h:AL P w0 X n ops ops.toList σ Q):AWP P w0 X n (.region id ops false) σ Q:=
 fun β a w hsim=>yM (wpIn_region_list (h β a w hsim)) fun e a w h=>h.2
theorem AL.hand {o:Oper} {rest:List Oper} (hgd:o.guard=none) (hnd:∀ c,o.op≠ .defer c)
  (h:∀ β a w,Sim w0 X n σ β a w->o.wp P a w (fun a' w'=>∃ σ' β',Sim w0 X n σ' β' a' w'∧AL P w0 X n ops rest σ' Q) (fun e a' w'=>e≠ .outgrown∧∃ σ' β',Sim w0 X n σ' β' a' w'∧Q e σ')):AL P w0 X n ops (o::rest) σ Q:=by
 intro β a w hsim;refine wpListIn_plain hgd fun K hK=>zct hnd (vd (fun a' w' ⟨σ',β',h1,h2⟩=>hK a' w' (h2 β' a' w' h1)) (h β a w hsim))
theorem AL.fit {l:List Oper} {σ':AS} (hf:Fit σ σ') (h:AL P w0 X n ops l σ' Q) (hk:X.K≤σ'.nx:=by exact zb rfl):AL P w0 X n ops l σ Q:=
 fun β a w hs=>h β a w (hs.fit hf hk)
end
section
variable {P:zx} {w:zj}
def zfz (kd:ji) (k:zh):List (zh×zh)->Option (Option zh)
 | []=>some none
 |e::r=>match Instr.sameNow kd k e.1 with
  |some true=>some (some e.2)
  |some false=>zfz kd k r
  |none=>none
theorem zfA (kd:ji) (k:zh):∀ (ms:List km) (i:Nat),(Instr.findNow kd k ms i).map (fun o=>o.map (·.2))=zfz kd k (ms.map fun e=>(e.key,e.val))
 | [],i=>rfl
 |e::r,i=>by
  simp only[Instr.findNow,qf,zfz];cases Instr.sameNow kd k e.key with
  |none=>rfl
  |some b=>
   cases b with
   |true=>rfl
   |false=>exact zfA kd k r (i+1)
def zcR:ji->Bool
 | .int _=>true
 | .string=>true
 |_=>false
theorem zg4 (b:Bool) {t:zn} {kd:ji} (hk:P.underlying t=some kd) (hp:zcR kd=true) (v:zh) (m:Nat):(kH b (m+1) t v).run P w= .ok () w:=by
 cases kd<;>simp[zcR]at hp<;>simp[kH,run_underlying hk]
theorem zef (b:Bool) {t:zn} {kd:ji} (hk:P.underlying t=some kd) (hp:zcR kd=true) (v:zh):(kH b 10000 t v).run P w= .ok () w:=zg4 b hk hp v 9999
theorem zfP {r ck:Nat} {ms:Array km} (h:w.heap[r]? =some (.map ms ck)):(getObj r).run P w= .ok (.map ms ck) w:=by simp[getObj,Sem.run,h]
theorem zmS {r ck:Nat} {ms:Array km} (o:Obj) (h:w.heap[r]? =some (.map ms ck)):(setObj r o).run P w= .ok () (w.putObj r o):=by simp[setObj,Sem.run,h,World.putObj]
theorem zh1 {t kt et:zn} {kd:ji} (hu:P.underlying t=some (.map kt et)) (hk:P.underlying kt=some kd) (hp:zcR kd=true) {r ck:Nat} {ms:Array km} (h:w.heap[r]? =some (.map ms ck)) {key v:zh}
  (hf:zfz kd key (ms.toList.map fun e=>(e.key,e.val))=some none):(uP t (.map (some r)) key v).run P w= .ok () (w.putObj r (.map (ms.push { key:=key,val:=v,born:=ck }) (ck+1))):=by
 rw[<-zfA kd key ms.toList 0]at hf;obtain⟨o,ho,hf⟩:=zG.1 hf;cases o with
 |some x=>cases hf
 |none=>simp[uP,kS,run_underlying hu,run_underlying hk,zfP h,zef _ hk hp,ho,zmS _ h]
end
def InsL (t:zn) (s:Nat):List (zh×zh)->List Oper->Prop
 | [],l=>l=[]
 |e::es,l=>∃ o r ko vo,l=o::r∧o.op= .insert t (.tmp s) ko vo∧(∀ a:Act,a.eval ko=e.1)∧(∀ a:Act,a.eval vo=e.2)∧o.guard=none∧o.dst=none∧InsL t s es r
theorem InsL.cons {t:zn} {s:Nat} {o:Oper} {r:List Oper} {ko vo:zE} {e:zh×zh} {es:List (zh×zh)} (ho:o.op= .insert t (.tmp s) ko vo) (hk:∀ a:Act,a.eval ko=e.1) (hv:∀ a:Act,a.eval vo=e.2) (hg:o.guard=none) (hd:o.dst=none) (h:InsL t s es r):InsL t s (e::es) (o::r):=⟨o,r,ko,vo,rfl,ho,hk,hv,hg,hd,h⟩
def zhC (kd:ji):List (zh×zh)->List (zh×zh)->Prop
 |_,[]=>True
 |done,e::r=>zfz kd e.1 done=some none∧zhC kd (done++ [e]) r
section
variable {P:zx} {w0:zj} {X:Ownr} {n:Nat} {σ:AS} {Q:Exit->AS->Prop} {ops:Array Oper}
theorem zsj {a:Act} {w w':zj} {o:Oper} {N:Act->zj->Prop} {R:Exit->Act->zj->Prop} (h:(execOp a.eval o).run P w= .ok .skip w'∨∃ u,(execOp a.eval o).run P w= .ok (.value u) w') (hdst:o.dst=none) (hN:N a w'):o.wp P a w N R:=by
 have hput:∀ u,a.put o.dst u=a:=fun u=>by rw[hdst];rfl
 unfold qW;rcases h with h|⟨u,h⟩
 ·rw[h];show N (a.put o.dst undef) w';rw[hput];exact hN
 ·rw[h];show N (a.put o.dst u) w';rw[hput];exact hN
theorem zj8 {t kt et:zn} {kd:ji} (hu:P.underlying t=some (.map kt et)) (hk:P.underlying kt=some kd) (hp:zcR kd=true) {s r:Nat} {w:zj} (hr:w.heap.size≤r) {a:Act} (ha:a.tmps.getD s undef= .map (some r)) {rest:List Oper} {ρ:Option Nat} {R:Exit->Act->zj->Prop}:
  ∀ (es:List (zh×zh)) (ins:List Oper) (w1:zj) (ms:Array km) (ck:Nat),InsL t s es ins->zhC kd (ms.toList.map fun e=>(e.key,e.val)) es->yV w.heap.size w w1->w1.heap[r]? =some (.map ms ck)->
   (∀ w2 ms' ck',yV w.heap.size w w2->w2.heap[r]? =some (.map ms' ck')->(ms'.toList.map fun e=>(e.key,e.val))=(ms.toList.map fun e=>(e.key,e.val))++es->wpListIn (zeK ρ) 0 P ops R rest a w2)->
   wpListIn (zeK ρ) 0 P ops R (ins++rest) a w1
 | [],ins,w1,ms,ck,hi,_,hb,hm,h=>by
  have hi:ins=[]:=hi;subst hi;exact h w1 ms ck hb hm (by simp)
 |e::es,ins,w1,ms,ck,hi,hf,hb,hm,h=>by
  obtain⟨o,l,ko,vo,rfl,ho,hko,hvo,hg,hd,hi⟩:=hi;refine wpListIn_plain hg fun K hK=>zct (fun c e'=>by rw[ho]at e';cases e') ?_;have hrun:=zh1 hu hk hp hm (key:=e.1) (v:=e.2) hf.1;have hlt:=(zo.1 hm).1;refine zsj (w':=w1.putObj r (.map (ms.push { key:=e.1,val:=e.2,born:=ck }) (ck+1))) ?_ hd (hK _ _ ?_)
  ·unfold execOp;simp only[ho];have e1:a.eval (.tmp s)= .map (some r):=ha;rw[hko,hvo,e1]
   first
    |exact .inl (by simp[hrun])
    |exact .inr ⟨_,by simp[hrun]⟩
  ·refine zj8 hu hk hp hr ha es l _ _ _ hi ?_ (hb.grown (grownBy_putObj' w1 r _) hb.size (fun k e=>by cases e;exact hr)) (qx hlt) ?_
   ·rw[ur,List.map_append];exact hf.2
   ·intro w2 ms' ck' h1 h2 h3;refine h w2 ms' ck' h1 h2 ?_;rw[h3,ur,List.map_append,zp];rfl
theorem AL.mapLit (hX:X.Ok w0) {t kt et:zn} {kd:ji} (hu:P.underlying t=some (.map kt et)) (hk:P.underlying kt=some kd) (hp:zcR kd=true) {o:Oper} {ins rest:List Oper} {d:Nat} (es:List (zh×zh)) (ho:o.op= .makeMap t none) (hg:o.guard=none) (hdst:o.dst=some d) (hd:zW d n=true)
  (hi:InsL t d es ins) (hf:zhC kd [] es) (h:AL P w0 X n ops rest ⟨(d,⟨.mapL,es⟩)::σ.F,σ.E,σ.nx⟩ Q):AL P w0 X n ops (o::(ins++rest)) σ Q:=by
 intro β a w hs;have hd':d < n:=by simpa using hd
 refine wpListIn_plain hg fun K hK=>zct (fun c e'=>by rw[ho]at e';cases e') (zbz (u:=.map (some w.heap.size)) (w':=w.alloc (.map #[] 0)) ?_ (hK _ _ ?_))
 ·unfold execOp;simp only[ho];exact zdH rfl
 ·rw[hdst];refine zj8 hu hk hp (w:=w) (r:=w.heap.size) (zl _) (by rw[jU (by rw[hs.sz];exact hd'),if_pos rfl]) es ins _ #[] 0 hi hf (za4 w _) (World.alloc_heap_new w _) ?_;intro w2 ms ck h1 h2 h3;exact h _ _ _ (hs.put h1 (v:=⟨.mapL,es⟩) ⟨w.heap.size,ms,ck,rfl,(zo.1 h2).1,fun hO=>absurd (hs.hO hX _ hO) (Nat.lt_irrefl _),h2,by rw[h3];rfl⟩ (zk _) hd')
theorem zpb {k:zE} {x:List UInt8} (hk:evO σ.F k=⟨.str,x⟩):∀ β a w,Sim w0 X n σ β a w->a.eval k= .string ⟨x.toArray⟩:=fun β a w hs=>by
 have h1:=hs.ops k;rw[hk]at h1;exact (RepV.str h1).1
end
section
variable {P:zx} {f:zP} {Q:Exit->Act->zj->Prop} {a:Act} {w:zj}
def zfL (P:zx) (f:zP) (c:Code) (Q:Exit->Act->zj->Prop) (a:Act) (w:zj):Prop:=
 ∀ (b:uT) (k:List Item) (cs:List uT),b.fn=f->b.roundOf=none->∃ e a' w',Q e a' w'∧ArrivesIn (Machine.fenced P yA) P (lone (b.atR a (.code c::k)) cs w) b k cs e a' w'
theorem zck {m:Nat} {c:Code} (h:c.wpIn yA m P Q a w):zfL P f c Q a w:=fun b k cs _ hro=>h b k cs hro trivial (room_wide _)
theorem zcf {x y:Code} (h:zfL P f x (Exit.then (zfL P f y Q) Q) a w):zfL P f (.seq x y) Q a w:=by
 intro b k cs hb hro;have h0:(lone (b.atR a (.code (.seq x y)::k)) cs w).fenced P yA:=fenced_wide P _;obtain⟨e,a1,w1,hq,harr⟩:=h b (.code y::k) cs hb hro;cases e with
 |normal=>
  obtain⟨e2,a2,w2,hq2,harr2⟩:=hq b k cs hb hro;exact⟨e2,a2,w2,hq2,.of_steps (.head h0 stepR_seq harr) harr2⟩
 |_=>exact⟨_,a1,w1,hq,.of_steps (.one h0 stepR_seq) (.pass (x:=.code y) rfl (fun _ _=>.inl (by simp)) harr)⟩
theorem zeT {fn:Func} {c:Code} {args:Array zh} {m:Nat} {R:Ending->zj->Prop} (hf:P.funcs[f]? =some fn) (hb:fn.body=some c)
  (h:zfL P f c (bodyPostM yA m P fn R) { tmps:=args++zz (fn.ntmps - args.size) undef,defers:=[] } w):CallsIn yA m P f args w R:=by
 refine⟨trivial,fun cs hr=>?_⟩
 let b:uT:={ (default:uT) with fn:=f,kind:=.normal,roundOf:=none }
 have henter:uU P f args .normal=b.atR { tmps:=args++zz (fn.ntmps - args.size) undef,defers:=[] } [.code c]:=by
  simp[uU,Go.Frame.atR,hf,hb,b]
 obtain⟨e,a',w',hq,harr⟩:=h b [] cs rfl rfl;rw[<-henter]at harr;cases e with
 |normal=>
  obtain⟨e',w'',fr',hR,hs,hfn,hl⟩:=leaves_stepsInM a'.defers .returning w' { b.atR a' [] with mode:=.returning } cs rfl rfl rfl hf rfl trivial hr hq;exact⟨e',w'',fr',hR,kn (StepsIn.trans harr (.one (fenced_wide P _) (stepR_end rfl))) hs,hfn,hl⟩
 |ret=>
  obtain⟨todo,hs0⟩:=harr.1 rfl;obtain⟨e',w'',fr',hR,hs,hfn,hl⟩:=leaves_stepsInM a'.defers .returning w' { b.atR a' todo with mode:=.returning } cs rfl rfl rfl hf rfl trivial hr hq;exact⟨e',w'',fr',hR,kn hs0 hs,hfn,hl⟩
 |panic chain=>
  obtain⟨todo,hs0⟩:=harr;obtain⟨e',w'',fr',hR,hs,hfn,hl⟩:=leaves_stepsInM a'.defers (.panicking chain) w' { b.atR a' todo with mode:=.panicking chain } cs rfl rfl rfl hf rfl trivial hr hq;exact⟨e',w'',fr',hR,kn hs0 hs,hfn,hl⟩
 |exit id=>exact hq.elim
 |goto l=>exact hq.elim
 |outgrown=>exact⟨.outgrown,w',b,hq,harr.resolve_left (by simp[b]),rfl,trivial⟩
end
theorem Kept.mono {R R':Nat->Prop} {w w':zj} (h:Kept R w w') (hr:∀ k,R k->R' k):Kept R' w w':=⟨h.os,h.tape,h.output,h.size,fun k hk hn=>h.block k hk fun hR=>hn (hr k hR)⟩
theorem Kept.trans {R:Nat->Prop} {a b c:zj} (h:Kept R a b) (k:Kept R b c):Kept R a c:=⟨k.os.trans h.os,k.tape.trans h.tape,k.output.trans h.output,zH h.size k.size,fun i hi hr=>(k.block i (zK hi h.size) hr).trans (h.block i hi hr)⟩
theorem zcN {R:Nat->Prop} {W:zj} {l:Nat} (o':Obj) (hR:R l):Kept R W (W.putObj l o'):=
 have hg:=grownBy_putObj' W l o'
 ⟨hg.os,hg.tape,hg.output,hg.size,fun k hk hn=>hg.block k hk fun e=>by cases e;exact hn hR⟩
structure SameOn (I:Nat->Prop) (N:Nat) (w w':zj):Prop where
 os:w'.os=w.os
 tape:w'.tape=w.tape
 output:w'.output=w.output
 size:N≤w'.heap.size
 block:∀ k,I k->w'.heap[k]? =w.heap[k]?
theorem Sim.outside {B A C:zj} {X:Ownr} {n:Nat} {σ:AS} {β:Nat->zh} {a:Act} {I:Nat->Prop} (h:Sim B X n σ β a A) (hX:X.Ok B) (hI:∀ g,I g->X g) (hk:Kept I A C):
  ∃ B':zj,B'.heap.size=B.heap.size∧Kept I B B'∧Sim B' X n σ β a C:=by
 classical
 have hIlt:∀ g,I g->g < B.heap.size:=fun g hg=>(hX.1 g (hI g hg)).1
 let B':zj:={ B with heap:=Array.ofFn (n:=B.heap.size) fun i=>if I i then (C.heap[i.1]?).getD B.heap[i] else B.heap[i] }
 have hsz:B'.heap.size=B.heap.size:=Array.size_ofFn;have hget:∀ k,k < B.heap.size->B'.heap[k]? =some (if I k then (C.heap[k]?).getD (B.heap[k]?.getD default) else B.heap[k]?.getD default):=fun k hk=>by
  simp[B',hk]
 have hne:∀ k,k < B.heap.size->¬ I k->B'.heap[k]? =B.heap[k]? :=fun k hk hn=>by
  rw[hget k hk,if_neg hn];simp[hk]
 have hin:∀ k,I k->B'.heap[k]? =C.heap[k]? :=fun k hi=>by
  have hk1:=hIlt k hi;rw[hget k hk1,if_pos hi];have:k < C.heap.size:=zK hk1 (zH h.bel.size hk.size);simp[this]
 have hkeep:xC A C (OSet X σ.E β) (OSet X σ.E β):=⟨hk.size,fun g hg hn=>hk.block g hg fun hi=>hn (.inl (hI g hi)),fun g _ hg=>hg⟩;refine⟨B',hsz,⟨rfl,rfl,rfl,by rw[hsz];exact zl _,hne⟩,?_⟩;refine⟨h.sz,h.df,⟨hk.os.trans h.bel.os,hk.tape.trans h.bel.tape,hk.output.trans h.bel.output,by rw[hsz];exact zH h.bel.size hk.size,fun k hkl hr=>?_⟩,fun s=>yE hkeep _ _ _ (h.fr s),fun i o ho=>?_,fun i o g ho hg=>by rw[hsz];exact h.new i o g ho hg,h.inj,h.lt,h.fix,h.hb,h.hE⟩
 ·rw[hsz]at hkl;by_cases hi:I k
  ·exact (hin k hi).symm
  ·exact (hk.block k (zK hkl h.bel.size) hi).trans ((h.bel.block k hkl hr).trans (hne k hkl hi).symm)
 ·refine (h.own i o ho).keep hkeep fun g hg=>hk.block g ((h.own i o ho).block_lt hg).2 fun hi=>?_;have hx:=hX.1 g (hI g hi);rcases h.new i o g ho hg with h1|h1
  ·omega
  ·exact hx.2 h1
section
variable {P:zx} {K:Kn} {w0:zj} {X:Ownr} {n:Nat} {σ:AS} {Q:Exit->AS->Prop} {ops:Array Oper}
def StepA (P:zx) (w0:zj) (X:Ownr) (n:Nat) (ops:Array Oper) (o:Oper) (σ:AS) (N:AS->Prop) (Q:Exit->AS->Prop):Prop:=
 ∀ (β:Nat->zh) (a:Act) (w:zj) (I:Act->zj->Prop) (R:Exit->Act->zj->Prop),Sim w0 X n σ β a w->(∀ σ' β' a' w',Sim w0 X n σ' β' a' w'->N σ'->I a' w')->(∀ e σ' β' a' w',e≠ .outgrown->Sim w0 X n σ' β' a' w'->Q e σ'->R e a' w')->
  if zI o (yielded ops a.tmps) then o.wp P a w I R∨(o.asks P a w∧jP R) else I (a.put o.dst undef) w
theorem StepA.eval (hX:X.Ok w0) (hK:KnOk P X.G K) {o:Oper} {r:List Prop×AS} {N:AS->Prop} (hs:znx K n ops o σ=some r) (hp:allP r.1) (hN:N r.2):StepA P w0 X n ops o σ N Q:=
 fun β a w I R hsim hI _=>zgT hK hX hsim hs hp fun β' a' w' h=>hI _ β' a' w' h hN
theorem StepA.hand {o:Oper} {N:AS->Prop} (hgd:o.guard=none) (h:∀ β a w,Sim w0 X n σ β a w->o.wp P a w (fun a' w'=>∃ σ' β',Sim w0 X n σ' β' a' w'∧N σ') (fun e a' w'=>e≠ .outgrown∧∃ σ' β',Sim w0 X n σ' β' a' w'∧Q e σ')):StepA P w0 X n ops o σ N Q:=by
 intro β a w I R hsim hI hR;simp only[zI,hgd,if_true];have h0:=h β a w hsim;have hmono:∀ a' w',(∃ σ' β',Sim w0 X n σ' β' a' w'∧N σ')->I a' w':=fun a' w' ⟨σ',β',h1,h2⟩=>hI σ' β' a' w' h1 h2;refine .inl (vd hmono ?_);unfold qW at h0 ⊢;revert h0;generalize (execOp a.eval o).run P w=x;intro h0;cases x with
 |ok x w'=>
  cases x with
  |enter f args=>
   refine Calls.mono h0 fun e w'' he=>?_;cases e with
   |returned v=>exact he
   |panicked c=>obtain⟨h1,σ',β',h2,h3⟩:=he;exact hR _ σ' β' _ _ h1 h2 h3
   |outgrown=>obtain⟨_,_,h,_⟩:=he;exact (h rfl).elim
  |_=>first|exact h0|(obtain⟨_,_,h,_⟩:=h0.2;exact (h rfl).elim)|(obtain⟨_,_,h,_⟩:=h0;exact (h rfl).elim)
 |halt x w'=>
  cases x with
  |panic v=>obtain⟨h1,σ',β',h2,h3⟩:=h0;exact hR _ σ' β' _ _ h1 h2 h3
  |_=>exact h0
def OrdA (P:zx) (w0:zj) (X:Ownr) (n:Nat) (ops:Array Oper) (Q:Exit->AS->Prop):Nat->List Nat->AS->Prop
 |0,_,σ=>Q .normal σ
 |f+1,done,σ=>AllN (fun i=>∃ o,ops.toList[i]? =some o∧StepA P w0 X n ops o σ (OrdA P w0 X n ops Q f (i::done)) Q) (zhb done ops.toList 0)
theorem OrdA.last {done:List Nat} (h:Q .normal σ):OrdA P w0 X n ops Q 0 done σ:=h
theorem zk8 {β:Nat->zh} {a:Act} {w:zj} (h:Sim w0 X n σ β a w) (hb:znw ops=true) (ho:OrdA P w0 X n ops Q ops.size [] σ):
  wpAny P .any ops (fun e a' w'=>e≠ .outgrown∧∃ σ' β',Sim w0 X n σ' β' a' w'∧Q e σ') ops.size (zz ops.size false) a { w with drawn:=w.drawn+1 }:=by
 let W:=w.drew
 have hsim:Sim w0 X n σ β a W:=⟨h.sz,h.df,h.bel.then ((zV _ _).drew),fun s=>yE (.of_below ((zV _ _).drew) fun _ _ h=>h) _ _ _ (h.fr s),fun i o ho=>(h.own i o ho).keep (.of_below ((zV _ _).drew) fun _ _ h=>h) fun _ _=>rfl,h.new,h.inj,h.lt,h.fix,h.hb,h.hE⟩
 let I:Array Bool->Act->zj->Prop:=fun listed a' w'=>∃ done s β',listed.size=ops.size∧(∀ i,i < ops.size->(listed.getD i false=true↔i∈done))∧Sim w0 X n s β' a' w'∧OrdA P w0 X n ops Q (left listed ops.size) done s
 have hl0:left (zz ops.size false) ops.size=ops.size:=by
  unfold left;have:(xE ops.size).filter (fun i=>!(zz ops.size false).getD i false)=xE ops.size:=by
   rw[vy];intro i _;rw[getD_replicate_false];rfl
  rw[this,uq]
 suffices hkey:wpAny P .any ops (fun e a' w'=>e≠ .outgrown∧∃ σ' β',Sim w0 X n σ' β' a' w'∧Q e σ') (left (zz ops.size false) ops.size+0) (zz ops.size false) a W by
  rw[j0,hl0]at hkey;exact hkey
 refine zid (zl _) hb (.inl rfl) I ?_ ?_ _ _ a W rfl ⟨by simp,fun j oj _ hlj=>(by rw[getD_replicate_false]at hlj;cases hlj),fun t ht1 ht=>absurd ht (by omega)⟩ ⟨[],σ,β,by simp,fun i _=>by rw[getD_replicate_false];simp,hsim,by rw[hl0];exact ho⟩
 ·rintro listed a' w' ⟨done,s,β',hsz,hd,hs,hok⟩ i him hir;obtain⟨hun,o,ho,hdone⟩:=mem_ready.1 hir;have hunf:listed.getD i false=false:=getD_both hun;have hlt:=zl6 him (by rw[hsz];exact him) hunf;rw[<-hlt]at hok;have hmem:0+i∈zhb done ops.toList 0:=zik (o:=o) (by simpa using ho) (by
   rw[yp];cases hh:hasN done i with
   |false=>rfl
   |true=>rw[(hd i him).2 (zmd.1 hh)]at hunf;cases hunf) fun e he hbd=>by
    have h1:=hdone e he hbd;by_cases hlt:e.on < ops.size
    ·exact zmd.2 ((hd _ hlt).1 h1)
    ·rw[zJ,Array.getElem?_eq_none (by omega)]at h1;cases h1
  rw[yp]at hmem;obtain⟨o',h1,h2⟩:=AllN.mem hok hmem;have:o'=o:=by
   rw[Array.getElem?_toList,ho]at h1;cases h1;rfl
  subst this;unfold wpOp;rw[ho];simp only;refine h2 β' a' w' _ _ hs (fun σ2 β2 a2 w2 hs2 h4=>⟨i::done,σ2,β2,by simp[hsz],fun j hj=>?_,hs2,h4⟩) (fun e σ2 β2 a2 w2 hne hs2 hq=>⟨hne,σ2,β2,hs2,hq⟩);by_cases hji:i=j
  ·subst hji;simp[jy,hsz,him]
  ·rw[getD_set_ne false hji,hd j hj,yd];constructor
   ·exact fun h=>.inr h
   ·rintro (h|h)
    ·exact absurd h.symm hji
    ·exact h
 ·rintro listed a' w' inv hall ⟨done,s,β',hsz,hd,hs,hok⟩;have hz:left listed ops.size=0:=by
   unfold left;rw[List.length_eq_zero_iff,j9];intro i hi;rw[hall i (yU.1 hi)];simp
  rw[hz]at hok;have hfit:Q .normal s:=hok;refine⟨?_,(fun h=>by cases h),s,β',hs,hfit⟩;apply xy.2;intro i hi;obtain⟨hun,o,ho,_⟩:=mem_ready.1 hi;have hlt:=(zo.1 ho).1;have:=getD_both hun;rw[hall i hlt]at this;cases this
theorem AWP.ordersA (hm:P.follows .mixedOrders=true) {id:Nat} (f:Nat) (hf:ops.toList.length=f) (hb:znw ops=true) (ho:OrdA P w0 X n ops Q f [] σ) (hd:zba ops.toList=true:=by rfl):AWP P w0 X n (.region id ops true) σ Q:=fun _ _ _ h=>by
 have hf':ops.size=f:=hf;subst hf';exact yM (wpIn_region_any hm (zbQ (R:=fun e a' w'=>e≠ .outgrown∧∃ σ' β',Sim w0 X n σ' β' a' w'∧Q e σ') (fun⟨_,_,h,_⟩=>h rfl) hd _ (zk8 h hb ho))) fun e a w h=>h.2
theorem AWP.ordF {σ':AS} (hm:P.follows .mixedOrders=true) {id:Nat} (f:Nat) (hf:ops.toList.length=f) (hb:znw ops=true) (ho:OrdA P w0 X n ops (fun e s=>e= .normal∧Fit s σ') f [] σ) (hq:Q .normal σ') (hk:X.K≤σ'.nx:=by exact zb rfl) (hd:zba ops.toList=true:=by rfl):AWP P w0 X n (.region id ops true) σ Q:=fun β a w h=>
 yM (AWP.ordersA hm f hf hb ho hd β a w h) fun _ _ _ ⟨_,β',hs,he,hf⟩=>⟨σ',β',hs.fit hf hk,he▸hq⟩
end
section
variable {w0 w:zj} {X X':Ownr} {n m:Nat} {σ:AS} {β:Nat->zh} {a a':Act}
theorem Sim.act (h:Sim w0 X n σ β a w) (hx:X'.X=X.X) (hk:X'.K=X.K) (hf:X'.fix=X.fix) (hsz:a'.tmps.size=m) (hdf:a'.defers=X'.D) {F:yJ} (hfr:∀ s,RepV w (OSet X σ.E β) β (zq F s).t (zq F s).x (a'.tmps.getD s undef)) (hb:bndB σ.nx F=true) (hxb:X'.B=X.B:=by rfl):Sim w0 X' m ⟨F,σ.E,σ.nx⟩ β a' w:=by
 have hR:X'.R=X.R:=by unfold Ownr.R;rw[hk,hf,hxb]
 have hO:OSet X' σ.E β=OSet X σ.E β:=by unfold OSet;rw[hx]
 refine⟨hsz,hdf,by rw[hR];exact h.bel,by rw[hO];exact hfr,by rw[hO];exact h.own,by rw[hR];exact h.new,h.inj,h.lt,by rw[hk,hf];exact h.fix,fun s=>zfI hb s,h.hE⟩
theorem Sim.boxes {F:yJ} {E:Owns} (hsz:a.tmps.size=n) (hdf:a.defers=X.D) (hβ:∀ i,i < X.K->β i= .pointer (some ⟨X.fix i,0,none⟩)) (hinj:∀ i j,i < X.K->j < X.K->X.fix i=X.fix j->i=j)
  (hE:∀ i o,zm E i=some o->i < X.K∧o.isBuf=false∧zY w (OSet X E β) β 0 (β i) o∧o.under X.K) (hfr:∀ s,RepV w (OSet X E β) β (zq F s).t (zq F s).x (a.tmps.getD s undef)) (hb:bndB X.K F=true):Sim w X n ⟨F,E,X.K⟩ β a w:=by
 have hblk:∀ i,i < X.K->zag (β i)=some (X.fix i):=fun i hi=>by rw[hβ i hi];rfl
 refine⟨hsz,hdf,jn _ _,hfr,fun i o h=>(hE i o h).2.2.1,fun i o g h hg=>?_,fun i j oi oj h h' hne g hg hg'=>?_,fun i o h=>(hE i o h).1,⟨zl _,fun i hi=>⟨hblk i hi,fun o ho=>(hE i o ho).2.1⟩⟩,fun s=>zfI hb s,fun i o h=>(hE i o h).2.2.2⟩
 ·have h1:=(hE i o h).1;rw[hblk i h1]at hg;exact .inr (.inl ⟨i,h1,ya hg⟩)
 ·have h1:=(hE i oi h).1;have h2:=(hE j oj h').1;rw[hblk i h1]at hg;rw[hblk j h2]at hg';exact hne (hinj i j h1 h2 (ya (hg.trans hg'.symm)))
end
def Ty.leafD:Ty->Bool
 | .pair a b=>a.leafD&&b.leafD
 | .vptr t=>t.data
 | .arr _ _=>false
 |t=>t.data
structure HCtr where
 self:Ty
 k:Nat
 ad:Option Nat:=none
 on:self.T->Bool:=fun _=>true
 te:zn
 et:Ty
 sl:self.T->List et.T
 args:List Ty
 inv:zj->(Nat->Prop)->zn->Prop
 pre:self.T->Args args->List Prop
 res:Ty
 out:self.T->Args args->Except zh (res.T×self.T)
def adV (i:Nat) (b:Bool):V:=bif b then ⟨.hptr,(i,(0:Nat))⟩ else ⟨.lit,.pointer none⟩
def HCtr.lv (c:HCtr) (i j:Nat) (x:c.self.T):List V:=match c.ad with
 |none=>(zaW c.self x).set c.k ⟨.obuf c.et,j⟩
 |some a=>((zaW c.self x).set c.k ⟨.obuf c.et,j⟩).set a (adV i (c.on x))
def HCtr.law (c:HCtr):Prop:=c.self.leafD=true∧(∀ x,(zaW c.self x)[c.k]? =some ⟨.slice c.et,c.sl x⟩)∧∀ a,c.ad=some a->a≠c.k∧∀ x,(zaW c.self x)[a]? =some ⟨.bool,c.on x⟩
def adB (i:Nat):V->Option Bool
 |⟨.hptr,(i',0)⟩=>bif yb i' i then some true else none
 |⟨.lit,.pointer none⟩=>some false
 |_=>none
theorem adB_eq {i:Nat} {v:V} {b:Bool} (h:adB i v=some b):v=adV i b:=by
 unfold adB at h;split at h
 ·rename_i i';simp only[cond_eq_ite,xc]at h;split at h
  ·rename_i e;cases h;subst e;rfl
  ·cases h
 ·cases h;rfl
 ·cases h
def HCtr.back (c:HCtr) (i:Nat) (vs:List V):List V:=match c.ad with
 |none=>vs
 |some a=>match vs[a]? with
  |some v=>match adB i v with
   |some b=>vs.set a ⟨.bool,b⟩
   |none=>[]
  |none=>[]
def zbO (O:Nat->Prop) (g:Nat) (b:zh) (h:Nat):Prop:=(O h∨h=g)∨zag b=some h
def zc5 (g:Nat) (b:zh) (i:Nat):zh:=if i=0 then .pointer (some ⟨g,0,none⟩) else b
theorem HCtr.back_cases (c:HCtr) (i:Nat) (vs:List V):c.back i vs=[]∨(c.ad=none∧c.back i vs=vs)∨∃ a v b,c.ad=some a∧vs[a]? =some v∧adB i v=some b∧c.back i vs=vs.set a ⟨.bool,b⟩:=by
 unfold HCtr.back;split
 ·rename_i h;exact .inr (.inl ⟨h,rfl⟩)
 ·rename_i a ha;split
  ·rename_i v hv;split
   ·rename_i b hb;exact .inr (.inr ⟨a,v,b,ha,hv,hb,rfl⟩)
   ·exact .inl rfl
  ·exact .inl rfl
def HEnd (c:HCtr) (ty:zn) (w w':zj) (O:Nat->Prop) (g:Nat) (b:zh) (e:Ending):Except zh (c.res.T×c.self.T)->Prop
 | .ok (y,x')=>∃ v cs' b',e= .returned v∧w'.heap[g]? =some (.cells (List.toArray cs') ty (0,0))∧RepH w' (zbO O g b') (zc5 g b') (c.lv 0 1 x') cs'∧zY w' (zbO O g b') (zc5 g b') 0 b' (.buf c.te c.et (c.sl x'))∧
  zag b'≠some g∧(∀ h,zag b'=some h->zag b=some h∨w.heap.size≤h)∧(c.res= .unit∨zdu w' (zbO O g b') w.heap.size none c.res y v)
 | .error pv=>e= .panicked [{ v:=pv,recovered:=false }]
def zaD (P:zx) (G:zj->Prop) (f:zP) (c:HCtr):Prop:=
 (∀ (zas:Array zh) (w:zj),(callFunc f zas).run P w= .ok (.enter f zas) w)∧c.law∧
 ∀ (w:zj) (O:Nat->Prop) (g:Nat) (cs:List zh) (ty:zn) (x:c.self.T) (xs:Args c.args) (vs:List zh) (b:zh),(∀ h,O h->h < w.heap.size∧h≠g∧zag b≠some h)->zag b≠some g->w.heap[g]? =some (.cells cs.toArray ty (0,0))->
  RepH w (zbO O g b) (zc5 g b) (c.lv 0 1 x) cs->zY w (zbO O g b) (zc5 g b) 0 b (.buf c.te c.et (c.sl x))->RepA w (zbO O g b) c.args xs vs->allP (c.pre x xs)->c.inv w (fun h=>h=g∨zag b=some h) ty->G w->
  Calls P f (yk (some ⟨g,0,none⟩)::vs).toArray w fun e w'=>Kept (fun h=>h=g∨zag b=some h) w w'∧HEnd c ty w w' O g b e (c.out x xs)
def unH (c:HCtr) (i:Nat) (vs:List V) (E:Owns) (x:c.self.T):Prop:=∃ et j xs,vs[c.k]? =some ⟨.obuf et,j⟩∧zm E j=some (.buf c.te c.et xs)∧unD c.self ((c.back i vs).set c.k ⟨.slice c.et,xs⟩)=some (x,[])
def zp4 (T:Tbl) (rs:List qd) (c:HCtr) (ty:zn) (e:Exit) (σ:AS):Except zh (c.res.T×c.self.T)->Prop
 | .ok (y,x')=>(e= .normal∨e= .ret)∧(∃ vs,zm σ.E 0=some (.hbox ty vs)∧unH c 0 vs σ.E x')∧Done T rs ⟨σ.F,ze5 [] σ.E,σ.nx⟩ none c.res y
 | .error pv=>e= .panic [{ v:=pv,recovered:=false }]
theorem zlg:∀ (t:Ty) (x:t.T),t.leafD=true->∀ v∈zaW t x,v.bound=0:=by
 intro t
 induction t with
 |pair a b iha ihb=>
  intro x h v hv;have h:(a.leafD&&b.leafD)=true:=h;rw[zf]at h;rcases yG.1 (show v∈zaW a x.1++zaW b x.2 from hv) with hv|hv
  ·exact iha _ h.1 v hv
  ·exact ihb _ h.2 v hv
 |unit=>intro x h v hv;cases hv
 |arr n t _=>intro x h;cases h
 |bool=>intro x _ v hv;rw[zw.1 hv];rfl
 |int k=>intro x _ v hv;rw[zw.1 hv];rfl
 |str=>intro x _ v hv;rw[zw.1 hv];rfl
 |slice t _=>intro x _ v hv;rw[zw.1 hv];rfl
 |vptr t _=>intro x _ v hv;rw[zw.1 hv];rfl
 |_=>intro x h;cases h
def Ty.plainL:Ty->Bool
 | .vptr t=>t.data
 |t=>t.data
theorem zhr:∀ (t:Ty) (x:t.T),t.leafD=true->∀ v∈zaW t x,v.t.plainL=true:=by
 intro t
 induction t with
 |pair a b iha ihb=>
  intro x h v hv;have h:(a.leafD&&b.leafD)=true:=h;rw[zf]at h;rcases yG.1 (show v∈zaW a x.1++zaW b x.2 from hv) with hv|hv
  ·exact iha _ h.1 v hv
  ·exact ihb _ h.2 v hv
 |unit=>intro x h v hv;cases hv
 |arr n t _=>intro x h;cases h
 |bool=>intro x h v hv;rw[zw.1 hv];exact h
 |int k=>intro x h v hv;rw[zw.1 hv];exact h
 |str=>intro x h v hv;rw[zw.1 hv];exact h
 |slice t _=>intro x h v hv;rw[zw.1 hv];exact h
 |vptr t _=>intro x h v hv;rw[zw.1 hv];exact h
 |_=>intro x h;cases h
theorem RepV.plainL {w w':zj} {O O':Nat->Prop} {β β':Nat->zh} (hk:xC w w' O O'):∀ {t:Ty} {x:t.T} {u:zh},t.plainL=true->RepV w O β t x u->RepV w' O' β' t x u:=by
 intro t x u ht h;cases t with
 |vptr t=>exact yE (β:=β) hk (.vptr t) x u h
 |_=>first|(cases ht;done)|(exact (zbG ht).2 (RepD.keep hk ((zbG ht).1 h)))
theorem RepH.conv {w w':zj} {O O':Nat->Prop} {β β':Nat->zh}:∀ {vs vs':List V} {cs:List zh},vs.length=vs'.length->(∀ (i:Nat) (v v':V),vs[i]? =some v->vs'[i]? =some v'->∀ u,RepV w O β v.t v.x u->RepV w' O' β' v'.t v'.x u)->RepH w O β vs cs->RepH w' O' β' vs' cs
 | [],[],_,_,_,h=>h
 | [],_::_,_,hl,_,_=>by cases hl
 |_::_,[],_,hl,_,_=>by cases hl
 |v::r,v'::r',_,hl,hc,⟨u,s,h1,h2,h3,h4⟩=>⟨u,s,h1,h2,hc 0 v v' rfl rfl u h3,RepH.conv (Nat.succ.inj hl) (fun i v v' h h'=>hc (i+1) v v' h h') h4⟩
theorem zso:∀ (t:Ty) (l r:List V) (x:t.T),t.leafD=true->unD t l=some (x,r)->∃ l1,l=l1++r∧l1.length=(zaW t x).length∧∀ (i:Nat) (v v':V),l1[i]? =some v->(zaW t x)[i]? =some v'->coe v'.t v=some v'.x:=by
 intro t
 induction t with
 |pair a b iha ihb=>
  intro l r x ht h;have ht:(a.leafD&&b.leafD)=true:=ht;rw[zf]at ht;simp only[unD]at h;split at h<;>first|(cases h;done)|skip
  rename_i y r1 h1;split at h<;>first|(cases h;done)|skip
  rename_i z r2 h2;cases h;obtain⟨l1,e1,n1,c1⟩:=iha _ _ _ ht.1 h1;obtain⟨l2,e2,n2,c2⟩:=ihb _ _ _ ht.2 h2;refine⟨l1++l2,by rw[e1,e2,zp],by show (l1++l2).length=(zaW a y++zaW b z).length;rw[zd,zd,n1,n2],fun i v v' hv hv'=>?_⟩;have hv':(zaW a y++zaW b z)[i]? =some v':=hv';by_cases hi:i < l1.length
  ·rw[xX hi]at hv;rw[xX (by omega)]at hv';exact c1 i v v' hv hv'
  ·rw[xe (by omega)]at hv;rw[xe (by omega)]at hv';rw[n1]at hv;exact c2 _ v v' hv hv'
 |unit=>intro l r x _ h;cases h;exact⟨[],rfl,rfl,fun i v v' hv=>by simp at hv⟩
 |arr n t _=>intro l r x ht;cases ht
 |_=>
  intro l r x ht h
  first
   |(cases ht;done)
   |(cases l with
     |nil=>cases h
     |cons v l=>
      simp only[unD]at h;split at h<;>first|(cases h;done)|skip
      rename_i y hy;cases h;refine⟨[v],rfl,rfl,fun i a b ha hb=>?_⟩;cases i with
      |zero=>
       cases ha;cases hb;exact hy
      |succ i=>simp at ha)
theorem zfc {c:HCtr} (hc:c.law) {i0:Nat} {vs:List V} {E:Owns} {x:c.self.T} (h:unH c i0 vs E x):∃ et j,vs[c.k]? =some ⟨.obuf et,j⟩∧zm E j=some (.buf c.te c.et (c.sl x))∧vs.length=(zaW c.self x).length∧
  (∀ (i:Nat) (v v':V),i≠c.k->c.ad≠some i->vs[i]? =some v->(zaW c.self x)[i]? =some v'->coe v'.t v=some v'.x∧v'.t.plainL=true)∧∀ a,c.ad=some a->vs[a]? =some (adV i0 (c.on x)):=by
 obtain⟨et,j,xs,h1,h2,h3⟩:=h;obtain⟨hl1,hl2,hl3⟩:=hc;obtain⟨l1,e1,n1,c1⟩:=zso _ _ _ _ hl1 h3;rw[zL]at e1;have hk:=(yI.1 h1).1;have hkl:=(yI.1 (hl2 x)).1;have hb:(c.ad=none∧c.back i0 vs=vs)∨∃ a v b,c.ad=some a∧vs[a]? =some v∧adB i0 v=some b∧c.back i0 vs=vs.set a ⟨.bool,b⟩:=by
  rcases c.back_cases i0 vs with h0|h0
  ·rw[h0,List.set_nil]at e1;rw[<-e1]at n1;simp only[zX]at n1;omega
  ·exact h0
 have hlen:(c.back i0 vs).length=vs.length:=by
  rcases hb with ⟨_,e⟩|⟨a,v,b,_,_,_,e⟩<;>rw[e];rw[qO]
 have hget:∀ (m:Nat) (v v':V),l1[m]? =some v->(zaW c.self x)[m]? =some v'->coe v'.t v=some v'.x:=c1;rw[<-e1]at n1 hget;rw[qO,hlen]at n1;have hx:xs=c.sl x:=by
  have h4:=hget c.k ⟨.slice c.et,xs⟩ _ (by rw[qy (by rw[hlen];exact hk)]) (hl2 x);rcases zeI h4 with h5|⟨h5,_⟩
  ·cases h5;rfl
  ·cases h5
 refine⟨et,j,h1,hx▸h2,n1,fun i v v' hi ha hv hv'=>⟨hget i v v' ?_ hv',zhr _ _ hl1 v' (qn hv')⟩,fun a ha=>?_⟩
 ·rw[qo (yT hi)];rcases hb with ⟨_,e⟩|⟨a,u,b,ea,_,_,e⟩
  ·rw[e];exact hv
  ·rw[e,qo (fun e=>ha (by rw[ea,e]))];exact hv
 ·obtain⟨hak,hab⟩:=hl3 a ha;rcases hb with ⟨e,_⟩|⟨a',u,b,ea,hu,hub,e⟩
  ·rw[e]at ha;cases ha
  ·rw[ha]at ea;cases ea;have hal:=(yI.1 hu).1;have h4:=hget a ⟨.bool,b⟩ _ (by rw[qo (yT hak),e,qy hal]) (hab x);have hbx:b=c.on x:=by
    rcases zeI h4 with h5|⟨h5,_⟩
    ·cases h5;rfl
    ·cases h5
   rw[hu,adB_eq hub,hbx]
theorem zix {c:HCtr} (hc:c.law) {i0 j i:Nat} {x:c.self.T} {v:V} (h:(c.lv i0 j x)[i]? =some v):(i=c.k∧v=⟨.obuf c.et,j⟩)∨(c.ad=some i∧i≠c.k∧v=adV i0 (c.on x))∨(i≠c.k∧c.ad≠some i∧(zaW c.self x)[i]? =some v):=by
 have hkl:=(yI.1 (hc.2.1 x)).1;unfold HCtr.lv at h;cases ha:c.ad with
 |none=>
  rw[ha]at h;simp only at h;by_cases hi:i=c.k
  ·subst hi;rw[qy hkl]at h;exact .inl ⟨rfl,(ya h).symm⟩
  ·rw[qo (yT hi)]at h;exact .inr (.inr ⟨hi,⟨(fun e=>by cases e),h⟩⟩)
 |some a=>
  rw[ha]at h;simp only at h;obtain⟨hak,hab⟩:=hc.2.2 a ha;have hal:=(yI.1 (hab x)).1;by_cases hia:i=a
  ·subst hia;rw[qy (by rw[qO];exact hal)]at h;exact .inr (.inl ⟨rfl,hak,(ya h).symm⟩)
  ·rw[qo (yT hia)]at h;by_cases hi:i=c.k
   ·subst hi;rw[qy hkl]at h;exact .inl ⟨rfl,(ya h).symm⟩
   ·rw[qo (yT hi)]at h;exact .inr (.inr ⟨hi,fun e=>hia (ya e).symm,h⟩)
theorem zoO (c:HCtr) (i0 j:Nat) (x:c.self.T):(c.lv i0 j x).length=(zaW c.self x).length:=by
 unfold HCtr.lv;cases c.ad with
 |none=>exact qO
 |some a=>simp only[qO]
theorem zlZ {c:HCtr} (hc:c.law) {i0 j m:Nat} (hi0:i0 < m) (hj:j < m) (x:c.self.T):∀ v∈c.lv i0 j x,v.bound≤m:=by
 intro v hv;obtain⟨i,hi⟩:=qa.1 hv;rcases zix hc hi with ⟨_,rfl⟩|⟨_,_,rfl⟩|⟨_,_,h⟩
 ·exact hj
 ·unfold adV;cases c.on x with
  |true=>exact hi0
  |false=>exact zk _
 ·rw[zlg _ _ hc.1 v (qn h)];exact zk _
theorem zp0 {w w':zj} {O O':Nat->Prop} {β β':Nat->zh} {i i':Nat} {b:Bool} {u:zh} (hb:zag (β' i')=zag (β i)) (h:RepV w O β (adV i b).t (adV i b).x u):RepV w' O' β' (adV i' b).t (adV i' b).x u:=by
 cases b with
 |true=>
  obtain⟨g,h1,h2⟩:=h;exact⟨g,hb.trans h1,h2⟩
 |false=>exact h
theorem RepH.toLv {c:HCtr} (hc:c.law) {w w':zj} {O O':Nat->Prop} {β β':Nat->zh} {i i1:Nat} {vs:List V} {E:Owns} {x:c.self.T} {cs:List zh} {j1:Nat} (hk:xC w w' O O') (h:unH c i vs E x) (hr:RepH w O β vs cs)
  (hb:∀ j et,vs[c.k]? =some ⟨.obuf et,j⟩->β' j1=β j) (hi:zag (β' i1)=zag (β i)):RepH w' O' β' (c.lv i1 j1 x) cs:=by
 obtain⟨et,j,h1,h2,h3,h4,h5⟩:=zfc hc h;refine RepH.conv (by rw[zoO];exact h3) (fun m v v' hv hv' u hu=>?_) hr;rcases zix hc hv' with ⟨rfl,rfl⟩|⟨ha,_,rfl⟩|⟨hm,ha,hl⟩
 ·rw[h1]at hv;cases hv;have hu:u=β j:=hu;show u=β' j1;rw[hu,hb j et h1]
 ·rw[h5 m ha]at hv;cases hv;exact zp0 hi hu
 ·obtain⟨h6,h7⟩:=h4 m v v' hm ha hv hl;exact RepV.plainL (β:=β) hk h7 (zgR h6 hu)
theorem RepH.lvLv {c:HCtr} (hc:c.law) {w w':zj} {O O':Nat->Prop} {β β':Nat->zh} {x:c.self.T} {cs:List zh} {i i1 j j1:Nat} (hk:xC w w' O O') (hr:RepH w O β (c.lv i j x) cs) (hb:β' j1=β j) (hi:zag (β' i1)=zag (β i)):RepH w' O' β' (c.lv i1 j1 x) cs:=by
 refine RepH.conv (by rw[zoO,zoO]) (fun m v v' hv hv' u hu=>?_) hr;rcases zix hc hv' with ⟨rfl,rfl⟩|⟨ha,hk',rfl⟩|⟨hm,ha,hl'⟩
 ·rcases zix hc hv with ⟨_,rfl⟩|⟨_,hm,_⟩|⟨hm,_⟩
  ·have hu:u=β j:=hu;show u=β' j1;rw[hu,hb]
  ·exact absurd rfl hm
  ·exact absurd rfl hm
 ·rcases zix hc hv with ⟨e,_⟩|⟨_,_,rfl⟩|⟨_,hn,_⟩
  ·exact absurd e hk'
  ·exact zp0 hi hu
  ·exact absurd ha hn
 ·rcases zix hc hv with ⟨e,_⟩|⟨e,_,_⟩|⟨_,_,hl⟩
  ·exact absurd e hm
  ·exact absurd e ha
  ·rw[hl]at hl';cases hl';exact RepV.plainL (β:=β) hk (zhr _ _ hc.1 _ (qn hl)) hu
section
variable {P:zx} {K:Kn} {n:Nat}
def zkm (c:HCtr) (ty:zn) (x:c.self.T) (xs:Args c.args):AS:=⟨(0,⟨.hptr,((0:Nat),(0:Nat))⟩)::zc4 c.args xs 1,[(0,some (.hbox ty (c.lv 0 1 x))),(1,some (.buf c.te c.et (c.sl x)))],2⟩
abbrev Ownr.own1 (G:zj->Prop) (O:Nat->Prop) (g:Nat) (b:zh):Ownr:=⟨G,O,1,fun _=>g,[],none,fun h=>zag b=some h⟩
theorem own1_R (G:zj->Prop) (O:Nat->Prop) (g:Nat) (b:zh):∀ h,(Ownr.own1 G O g b).R h↔(h=g∨zag b=some h):=fun h=>
 ⟨fun hh=>hh.elim (fun⟨i,_,e⟩=>.inl e.symm) .inr,fun hh=>hh.elim (fun e=>.inl ⟨0,y9 0,e.symm⟩) .inr⟩
theorem ztl {G:zj->Prop} {fn:Func} {ctr:HCtr} (hn:fn.ntmps=n) (hlaw:ctr.law) (hd:zaY ctr.args=true) (hlen:ctr.args.length+1≤n) (hst:∀ w w' R ty,ctr.inv w R ty->G w->Kept R w w'->G w')
  {w:zj} {O:Nat->Prop} {g:Nat} {cs:List zh} {ty:zn} {x:ctr.self.T} {xs:Args ctr.args} {vs:List zh} {b:zh} (hO:∀ h,O h->h < w.heap.size∧h≠g∧zag b≠some h) (hgb:zag b≠some g) (hg:w.heap[g]? =some (.cells cs.toArray ty (0,0)))
  (hx:RepH w (zbO O g b) (zc5 g b) (ctr.lv 0 1 x) cs) (hbuf:zY w (zbO O g b) (zc5 g b) 0 b (.buf ctr.te ctr.et (ctr.sl x))) (hrep:RepA w (zbO O g b) ctr.args xs vs) (hinv:ctr.inv w (fun h=>h=g∨zag b=some h) ty) (hG:G w):
  ∃ X:Ownr,X=Ownr.own1 G O g b∧X.Ok w∧(∀ h,X.R h↔(h=g∨zag b=some h))∧Sim w X n (zkm ctr ty x xs) (zc5 g b) { tmps:=(yk (some ⟨g,0,none⟩)::vs).toArray++zz (fn.ntmps - (yk (some ⟨g,0,none⟩)::vs).toArray.size) undef,defers:=[] } w:=by
 have hvl:=zeB _ _ _ hrep;have hgl:=(zo.1 hg).1;have hbl:∀ h,zag b=some h->h < w.heap.size:=fun h hh=>(hbuf.block_lt hh).2;obtain⟨X,hXd⟩:∃ X:Ownr,X=Ownr.own1 G O g b:=⟨_,rfl⟩;have hXR:∀ h,X.R h↔(h=g∨zag b=some h):=by rw[hXd];exact own1_R _ _ _ _
 have hXX:X.X=O:=by rw[hXd]
 have hXG:X.G=G:=by rw[hXd]
 have hX:X.Ok w:=⟨fun h hh=>by
  rw[hXX]at hh;exact⟨(hO h hh).1,fun e=>((hXR h).1 e).elim (hO h hh).2.1 (hO h hh).2.2⟩,fun h e=>((hXR h).1 e).elim (fun e=>e▸hgl) (hbl h),fun w' hk=>by
  rw[hXG];exact hst w w' _ ty hinv hG ⟨hk.os,hk.tape,hk.output,hk.size,fun k hkl hr=>hk.block k hkl fun hr'=>hr ((hXR k).1 hr')⟩⟩
 have hE:OSet X (zkm ctr ty x xs).E (zc5 g b)=zbO O g b:=by
  funext k
  apply propext;constructor
  ·rintro (h|⟨i,o,hi,h⟩)
   ·rw[hXX]at h;exact .inl (.inl h)
   ·unfold zc5 at h;by_cases h0:i=0
    ·rw[if_pos h0]at h;exact .inl (.inr (ya h).symm)
    ·rw[if_neg h0]at h;exact .inr h
  ·rintro ((h|h)|h)
   ·exact .inl (by rw[hXX];exact h)
   ·exact .inr ⟨0,_,rfl,by rw[h];rfl⟩
   ·exact .inr ⟨1,_,rfl,h⟩
 have hget:∀ i o,zm (zkm ctr ty x xs).E i=some o->(i=0∧o= .hbox ty (ctr.lv 0 1 x))∨(i=1∧o= .buf ctr.te ctr.et (ctr.sl x)):=fun i o h=>by
  rw[show (zkm ctr ty x xs).E=[(0,some (.hbox ty (ctr.lv 0 1 x))),(1,some (.buf ctr.te ctr.et (ctr.sl x)))] from rfl,zah,zah]at h;by_cases hi:0=i
  ·rw[if_pos hi]at h;cases h;exact .inl ⟨hi.symm,rfl⟩
  ·rw[if_neg hi]at h;by_cases hi:1=i
   ·rw[if_pos hi]at h;cases h;exact .inr ⟨hi.symm,rfl⟩
   ·rw[if_neg hi]at h;cases h
 have hsim:Sim w X n (zkm ctr ty x xs) (zc5 g b) { tmps:=(yk (some ⟨g,0,none⟩)::vs).toArray++zz (fn.ntmps - (yk (some ⟨g,0,none⟩)::vs).toArray.size) undef,defers:=[] } w:=by
  refine⟨by simp[hn,hvl];omega,by rw[hXd],jn _ _,fun s=>?_,fun i o h=>?_,fun i o k h hk=>?_,fun i j oi oj h h' hne k hk hk'=>?_,fun i o h=>?_,⟨by rw[hXd];exact Nat.le_succ 1,fun i hi=>?_⟩,fun s=>?_,fun i o h=>?_⟩
  ·rw[hE];have e:((yk (some ⟨g,0,none⟩)::vs).toArray++zz (fn.ntmps - (yk (some ⟨g,0,none⟩)::vs).toArray.size) undef)=([yk (some ⟨g,0,none⟩)]++vs++zu (fn.ntmps - (vs.length+1)) undef).toArray:=by simp
   show RepV w _ _ _ _ (((yk (some ⟨g,0,none⟩)::vs).toArray++zz (fn.ntmps - (yk (some ⟨g,0,none⟩)::vs).toArray.size) undef).getD s undef);rw[e];have:=zdN (β:=zc5 g b) ctr.args xs vs [yk (some ⟨g,0,none⟩)] (zu (fn.ntmps - (vs.length+1)) undef) hd hrep s;have key:∀ u:zh,RepV w (zbO O g b) (zc5 g b) (zq ((0,⟨.hptr,((0:Nat),(0:Nat))⟩)::zc4 ctr.args xs 1) s).t (zq ((0,⟨.hptr,((0:Nat),(0:Nat))⟩)::zc4 ctr.args xs 1) s).x u=RepV w (zbO O g b) (zc5 g b) (if 0=s then (⟨.hptr,((0:Nat),(0:Nat))⟩:V) else zq (zc4 ctr.args xs 1) s).t (if 0=s then (⟨.hptr,((0:Nat),(0:Nat))⟩:V) else zq (zc4 ctr.args xs 1) s).x u:=fun u=>by
    rw[<-zat]
   refine (key _).mpr ?_;by_cases hs:0=s
   ·rw[if_pos hs];subst hs;exact⟨g,rfl,by simp[jy]⟩
   ·rw[if_neg hs];exact this
  ·rw[hE];rcases hget i o h with ⟨rfl,rfl⟩|⟨rfl,rfl⟩
   ·exact⟨g,cs,rfl,zk _,hg,hx⟩
   ·exact hbuf
  ·refine .inr ((hXR k).2 ?_);rcases hget i o h with ⟨rfl,_⟩|⟨rfl,_⟩
   ·exact .inl (ya hk).symm
   ·exact .inr hk
  ·rcases hget i oi h with ⟨rfl,_⟩|⟨rfl,_⟩<;>rcases hget j oj h' with ⟨rfl,_⟩|⟨rfl,_⟩
   ·exact hne rfl
   ·have hk:some g=some k:=hk;exact hgb (by rw[hk];exact hk')
   ·have hk':some g=some k:=hk';exact hgb (by rw[hk'];exact hk)
   ·exact hne rfl
  ·rcases hget i o h with ⟨rfl,_⟩|⟨rfl,_⟩
   ·exact Nat.zero_lt_succ 1
   ·exact y9 1
  ·rw[hXd]at hi ⊢;have hi:i=0:=by have:i < 1:=hi;omega
   subst hi;refine⟨rfl,fun o ho=>?_⟩;rcases hget 0 o ho with ⟨_,rfl⟩|⟨h,_⟩
   ·rfl
   ·cases h
  ·show (zq ((0,⟨.hptr,((0:Nat),(0:Nat))⟩)::zc4 ctr.args xs 1) s).bound≤2;rw[zat];by_cases hs:0=s
   ·rw[if_pos hs];exact Nat.le_succ 1
   ·rw[if_neg hs,zcO _ _ _ _ hd];exact zk _
  ·rcases hget i o h with ⟨_,rfl⟩|⟨_,rfl⟩
   ·intro vs e v hv;cases e;exact zlZ hlaw (Nat.zero_lt_succ 1) (y9 1) x v hv
   ·intro vs e;cases e
 exact⟨X,hXd,hX,hXR,hsim⟩
theorem zau {G:zj->Prop} (hK:KnOk P G K) {f:zP} {fn:Func} {c:Code} {ctr:HCtr} (hf:P.funcs[f]? =some fn) (hb:fn.body=some c) (hn:fn.ntmps=n) (hlaw:ctr.law)
  (hen:∀ (zas:Array zh) (w:zj),(callFunc f zas).run P w= .ok (.enter f zas) w) (hd:zaY ctr.args=true) (hlen:ctr.args.length+1≤n) (hst:∀ w w' R ty,ctr.inv w R ty->G w->Kept R w w'->G w')
  (h:∀ (w0:zj) (X:Ownr) (ty:zn),X.Ok w0->X.G=G->X.K=1->X.ρ=none->X.D=[]->ctr.inv w0 X.R ty->∀ (x:ctr.self.T) (xs:Args ctr.args),allP (ctr.pre x xs)->
    AWP P w0 X n c (zkm ctr ty x xs) (fun e σ=>zp4 K.T fn.results.toList ctr ty e σ (ctr.out x xs))):zaD P G f ctr:=by
 refine⟨hen,hlaw,fun w O g cs ty x xs vs b hO hgb hg hx hbuf hrep hp hinv hG=>calls_of_wp hf hb ?_⟩;obtain⟨X,hXd,hX,hXR,hsim⟩:=ztl (ctr:=ctr) (G:=G) hn hlaw hd hlen hst hO hgb hg hx hbuf hrep hinv hG;have hXX:X.X=O:=by rw[hXd]
 have hXG:X.G=G:=by rw[hXd]
 have hinv':ctr.inv w X.R ty:=by
  rw[show X.R=fun h=>h=g∨zag b=some h from funext fun h=>propext (hXR h)];exact hinv
 have hw:=h w X ty hX hXG (by rw[hXd]) (by rw[hXd]) (by rw[hXd]) hinv' x xs hp _ _ _ hsim;rw[show X.ρ=none by rw[hXd]]at hw;refine wp_mono (wpIn_wide.1 hw) fun e a' w' ⟨σ',β',h1,h2⟩=>?_;have hbk:Kept (fun h=>h=g∨zag b=some h) w w':=⟨h1.bel.os,h1.bel.tape,h1.bel.output,h1.bel.size,fun k hk hr=>h1.bel.block k hk fun hr'=>hr ((hXR k).1 hr')⟩;have hdf:a'.defers=[]:=by rw[h1.df,hXd]
 revert h2;cases ho:ctr.out x xs with
 |error pv=>
  rintro rfl;exact⟨hdf,hbk,rfl⟩
 |ok p=>
  obtain⟨y,x'⟩:=p;rintro ⟨h2,⟨ws,h6,h7⟩,h3⟩;obtain⟨et',j,k1,k2,_,_⟩:=zfc hlaw h7;obtain⟨g',cs',hb1,_,hb3,hb4⟩:=h1.own 0 _ h6;have hb5:=(h1.fix.2 0 (by rw[hXd];exact y9 0)).1;rw[hb1]at hb5;have hgg:g'=g:=by
   have h:some g'=some (X.fix 0):=hb5;rw[hXd]at h;exact ya h
  subst hgg;have hj:=h1.own j _ k2;have hne:(0:Nat)≠j:=fun e=>by rw[<-e,h6]at k2;cases k2
  have hsub:∀ k,zbO O g' (β' j) k->OSet X σ'.E β' k:=fun k hk=>by
   rcases hk with (hk|hk)|hk
   ·exact .inl (by rw[hXX];exact hk)
   ·exact .inr ⟨0,_,h6,by rw[hb1,hk];rfl⟩
   ·exact .inr ⟨j,_,k2,hk⟩
  have hkp:xC w' w' (OSet X σ'.E β') (zbO O g' (β' j)):=⟨zl _,fun _ _ _=>rfl,fun k _ hk=>hsub k hk⟩;have hlvr:RepH w' (zbO O g' (β' j)) (zc5 g' (β' j)) (ctr.lv 0 1 x') cs':=RepH.toLv hlaw hkp h7 hb4 (fun j' et'' hj'=>by
   rw[k1]at hj';cases hj';rfl) (by rw[hb1];rfl)
  have hbr:zY w' (zbO O g' (β' j)) (zc5 g' (β' j)) 0 (β' j) (.buf ctr.te ctr.et (ctr.sl x')):=hj.keep hkp fun _ _=>rfl;have hnew:∀ h,zag (β' j)=some h->zag b=some h∨w.heap.size≤h:=fun h hh=>by
   rcases h1.new j _ h k2 hh with h8|h8
   ·exact .inr h8
   ·rcases (hXR h).1 h8 with rfl|h8
    ·exact absurd hh (h1.inj 0 j _ _ h6 k2 hne h (by rw[hb1];rfl))
    ·exact .inl h8
  have hng:zag (β' j)≠some g':=h1.inj 0 j _ _ h6 k2 hne g' (by rw[hb1];rfl);obtain⟨v,h4,h5⟩:=zhI (X:=X) (by rw[hXG];exact hK) hX h1 [] h3 (O':=zbO O g' (β' j)) (fun k hk=>by
   rcases hk with (hk|hk)|hk
   ·exact .inl (by rw[hXX];exact hk)
   ·exact .inr ⟨0,_,h6,by rw[hb1,hk];rfl,.inr rfl⟩
   ·exact .inr ⟨j,_,k2,hk,.inr rfl⟩)
  rcases h2 with rfl|rfl
  ·exact⟨hdf,v,h4,hbk,v,cs',_,rfl,hb3,hlvr,hbr,hng,hnew,h5⟩
  ·exact⟨hdf,v,h4,hbk,v,cs',_,rfl,hb3,hlvr,hbr,hng,hnew,h5⟩
end
section
variable {w0 w w':zj} {X:Ownr} {n:Nat} {σ:AS} {β:Nat->zh} {a:Act}
theorem Sim.redo0 (h:Sim w0 X n σ β a w) {i:Nat} {o o':OObj} (hi:zm σ.E i=some o) (hbuf:o.isBuf=true) (hg:w.grownBy w' (zag (β i))) {bv:zh}
  (hbv:∀ g,zag bv=some g->zag (β i)=some g∨w.heap.size≤g)
  (hr:zY w' (OSet X ((i,some o')::yi i σ.E) (fun j=>if j=i then bv else β j)) (fun j=>if j=i then bv else β j) 0 bv o') (hu:o'.under σ.nx:=by exact fun _ e=>by cases e):
  Sim w0 X n { F:=xh i σ.F,E:=(i,some o')::yi i σ.E,nx:=σ.nx } (fun j=>if j=i then bv else β j) a w':=by
 have hO:∀ g,g < w.heap.size->OSet X ((i,some o')::yi i σ.E) (fun j=>if j=i then bv else β j) g->OSet X σ.E β g:=fun g hgl hg'=>by
  rcases hg' with h1|⟨j,oj,h1,h2⟩
  ·exact .inl h1
  ·rw[zah]at h1;by_cases hj:i=j
   ·subst hj;simp at h2;rcases hbv g h2 with h3|h3
    ·exact .inr ⟨i,o,hi,h3⟩
    ·omega
   ·rw[if_neg hj,jm]at h1;obtain⟨pj,hp1,hp2⟩:=zG.1 h1;simp[yT hj]at h2;exact .inr ⟨j,pj,hp1,h2⟩
 have hkeep:xC w w' (OSet X σ.E β) (OSet X ((i,some o')::yi i σ.E) (fun j=>if j=i then bv else β j)):=
  ⟨hg.size,fun g hgl hgo=>hg.block g hgl fun e=>hgo (.inr ⟨i,o,hi,e.symm⟩),hO⟩
 have hold:∀ {j:Nat} {oj:OObj},i≠j->(if i=j then some o' else zm (yi i σ.E) j)=some oj->∃ pj,zm σ.E j=some pj∧pj.kill i=oj:=fun hs hj=>by
  rw[if_neg hs,jm]at hj;exact zG.1 hj
 have hbel:=h.bel.grown hg fun g e=>h.new i o g hi e;have hii:=h.lt i o hi;refine⟨h.sz,h.df,hbel,?_,?_,?_,?_,?_,?_,?_,?_⟩
 ·intro s;show RepV _ _ _ (zq (xh i σ.F) s).t _ _;rw[Frame.get_kill];unfold V.kill;cases hu:uses i (zq σ.F s).t (zq σ.F s).x with
  |true=>trivial
  |false=>exact RepV.other _ _ _ hu (yE hkeep _ _ _ (h.fr s))
 ·intro j oj hj;rw[show zm ((i,some o')::yi i σ.E) j=_ from zah ..]at hj;by_cases hs:i=j
  ·subst hs;rw[if_pos rfl]at hj;cases hj;show zY _ _ _ _ (if i=i then bv else _) _;rw[if_pos rfl];exact hr
  ·obtain⟨pj,hj2,rfl⟩:=hold hs hj;show zY _ _ _ _ (if j=i then bv else _) _;rw[if_neg (yT hs)];refine ((h.own j pj hj2).keep hkeep fun g hgb=>hg.block g ((h.own j pj hj2).block_lt hgb).2 fun e=>?_).kill;exact h.inj i j o pj hi hj2 hs g e.symm hgb
 ·intro j oj g hj;rw[show zm ((i,some o')::yi i σ.E) j=_ from zah ..]at hj;show zag (if j=i then bv else β j)=some g->_;by_cases hs:i=j
  ·rw[if_pos hs.symm];intro hb1;rcases hbv g hb1 with h3|h3
   ·exact h.new i o g hi h3
   ·exact .inl (zH h.bel.size h3)
  ·obtain⟨pj,hj2,rfl⟩:=hold hs hj;rw[if_neg (yT hs)];exact h.new j pj g hj2
 ·intro j k oj ok hj hk hjk g;rw[show zm ((i,some o')::yi i σ.E) j=_ from zah ..]at hj;rw[show zm ((i,some o')::yi i σ.E) k=_ from zah ..]at hk;show zag (if j=i then bv else β j)=some g->zag (if k=i then bv else β k)≠some g;have fresh:∀ m om,i≠m->zm σ.E m=some om->zag bv=some g->zag (β m)≠some g:=fun m om hm hmo hb1 hb2=>by
   rcases hbv g hb1 with h3|h3
   ·exact h.inj i m o om hi hmo hm g h3 hb2
   ·have:=((h.own m om hmo).block_lt hb2).2;omega
  by_cases h1:i=j
  ·by_cases h2:i=k
   ·omega
   ·obtain⟨pk,hk2,rfl⟩:=hold h2 hk;rw[if_pos h1.symm,if_neg (yT h2)];exact fresh k pk h2 hk2
  ·obtain⟨pj,hj2,rfl⟩:=hold h1 hj;rw[if_neg (yT h1)];by_cases h2:i=k
   ·rw[if_pos h2.symm];exact fun hb1 hb2=>fresh j pj h1 hj2 hb2 hb1
   ·obtain⟨pk,hk2,rfl⟩:=hold h2 hk;rw[if_neg (yT h2)];exact h.inj j k pj pk hj2 hk2 hjk g
 ·intro j oj hj;rw[show zm ((i,some o')::yi i σ.E) j=_ from zah ..]at hj;by_cases hs:i=j
  ·exact hs▸hii
  ·obtain⟨pj,hj2,rfl⟩:=hold hs hj;exact h.lt j pj hj2
 ·refine⟨h.fix.1,fun j hj=>?_⟩;obtain⟨h2,h3⟩:=h.fix.2 j hj;have hs:i≠j:=fun e=>by subst e;have:=h3 o hi;rw[hbuf]at this;cases this
  refine⟨?_,fun oj ho=>?_⟩
  ·show zag (if j=i then bv else β j)=some (X.fix j);rw[if_neg (yT hs)];exact h2
  ·rw[show zm ((i,some o')::yi i σ.E) j=_ from zah ..]at ho;obtain⟨pj,hj2,rfl⟩:=hold hs ho;rw[OObj.kill_isBuf];exact h3 pj hj2
 ·intro s;show (zq (xh i σ.F) s).bound≤σ.nx;rw[Frame.get_kill];unfold V.kill;cases uses i (zq σ.F s).t (zq σ.F s).x with
  |true=>exact zk _
  |false=>exact h.hb s
 ·intro j oj hj;rw[show zm ((i,some o')::yi i σ.E) j=_ from zah ..]at hj;by_cases hs:i=j
  ·rw[if_pos hs]at hj;cases hj;exact hu
  ·obtain⟨pj,hj2,rfl⟩:=hold hs hj;exact OObj.kill_under (h.hE j pj hj2)
theorem Sim.lose2 (h:Sim w0 X n σ β a w) {i j:Nat} {oi oj:OObj} (hi:zm σ.E i=some oi) (hj:zm σ.E j=some oj) (hk:Kept (fun g=>zag (β i)=some g∨zag (β j)=some g) w w'):
  Sim w0 X n { σ with E:=(i,none)::(j,none)::σ.E } β a w':=by
 have hget:∀ m om,zm ((i,none)::(j,none)::σ.E) m=some om->i≠m∧j≠m∧zm σ.E m=some om:=fun m om hm=>by
  rw[zah,zah]at hm;by_cases h1:i=m
  ·rw[if_pos h1]at hm;cases hm
  ·rw[if_neg h1]at hm;by_cases h2:j=m
   ·rw[if_pos h2]at hm;cases hm
   ·rw[if_neg h2]at hm;exact⟨h1,h2,hm⟩
 have hkeep:xC w w' (OSet X σ.E β) (OSet X ((i,none)::(j,none)::σ.E) β):=⟨hk.size,fun g hg hgo=>hk.block g hg fun e=>hgo (.inr (e.elim (fun e=>⟨i,oi,hi,e⟩) fun e=>⟨j,oj,hj,e⟩)),fun g _ hg=>by
  rcases hg with hg|⟨m,om,h1,h2⟩
  ·exact .inl hg
  ·exact .inr ⟨m,om,(hget m om h1).2.2,h2⟩⟩
 have hbel:Kept X.R w0 w':=⟨hk.os.trans h.bel.os,hk.tape.trans h.bel.tape,hk.output.trans h.bel.output,zH h.bel.size hk.size,fun k hkl hr=>(hk.block k (zK hkl h.bel.size) fun e=>by
  rcases e with e|e
  ·rcases h.new i oi k hi e with h1|h1
   ·omega
   ·exact hr h1
  ·rcases h.new j oj k hj e with h1|h1
   ·omega
   ·exact hr h1).trans (h.bel.block k hkl hr)⟩
 exact⟨h.sz,h.df,hbel,fun s=>yE hkeep _ _ _ (h.fr s),fun m om hm=>by
   obtain⟨h1,h2,h3⟩:=hget m om hm;exact (h.own m om h3).keep hkeep fun g hg=>hk.block g ((h.own m om h3).block_lt hg).2 fun e=>e.elim (fun e=>h.inj i m oi om hi h3 h1 g e hg) fun e=>h.inj j m oj om hj h3 h2 g e hg,
  fun m om g hm=>h.new m om g (hget m om hm).2.2,fun m k om ok hm hk'=>h.inj m k om ok (hget m om hm).2.2 (hget k ok hk').2.2,fun m om hm=>h.lt m om (hget m om hm).2.2,
  ⟨h.fix.1,fun m hm=>⟨(h.fix.2 m hm).1,fun om ho=>(h.fix.2 m hm).2 om (hget m om ho).2.2⟩⟩,h.hb,fun m om hm=>h.hE m om (hget m om hm).2.2⟩
end
section
variable {P:zx} {K:Kn} {w0:zj} {X:Ownr} {n:Nat} {σ:AS} {Q:Exit->AS->Prop} {ops:Array Oper}
@[reducible] def zlD {R S:Type} (N:R->S->Prop) (E:zh->Prop):Except zh (R×S)->Prop
 | .ok (y,x')=>N y x'
 | .error pv=>E pv
theorem zkq (hX:X.Ok w0) {o:Oper} {f:zP} {c:HCtr} (hc:zaD P X.G f c) {a0:zE} {zas:List zE} (hrunG:∀ (β:Nat->zh) (a:Act) (w:zj),Sim w0 X n (frzs σ zas) β a w->(∀ (zas:Array zh) (w:zj),(callFunc f zas).run P w= .ok (.enter f zas) w)->(execOp a.eval o).run P w= .ok (.enter f (a.eval a0::zas.map a.eval).toArray) w)
  {F:yJ} {E:Owns} {nx:Nat} (hσ:frzs σ zas=⟨F,E,nx⟩) {i:Nat} (hev:evO F a0=⟨.hptr,(i,(0:Nat))⟩) {ty:zn} {vs:List V} (hbox:zm E i=some (.hbox ty vs)) {et:Ty} {j:Nat} (hk:vs[c.k]? =some ⟨.obuf et,j⟩) {xsl:List c.et.T} (hbuf:zm E j=some (.buf c.te c.et xsl))
  {x:c.self.T} (hun:unD c.self ((c.back i vs).set c.k ⟨.slice c.et,xsl⟩)=some (x,[])) (hd:zaY c.args=true) (hfl:c.res.resOk=true)
  {q:List Prop} {xs:Args c.args} (hav:zd6 E false (zas.map (evO F)) c.args=some (q,xs)) (hq:allP q) (hpre:allP (c.pre x xs)) (hinv:∀ w R,(∀ g,R g->w0.heap.size≤g∨X.R g)->X.G w->c.inv w R ty) {F':c.res.T->yJ} (hput:∀ y,putD n o.dst (resV c.res y) (xh j F)=some (F' y))
  {N:AS->Prop} (h:zlD (fun y x'=>N ⟨F' y,(i,some (.hbox ty (c.lv i j x')))::(j,some (.buf c.te c.et (c.sl x')))::yi j E,nx⟩) (fun pv=>Q (.panic [{ v:=pv,recovered:=false }]) ⟨F,(i,none)::(j,none)::E,nx⟩) (c.out x xs))
  (β:Nat->zh) (a:Act) (w:zj) (hs:Sim w0 X n σ β a w):o.wp P a w (fun a' w'=>∃ σ' β',Sim w0 X n σ' β' a' w'∧N σ') (fun e a' w'=>e≠ .outgrown∧∃ σ' β',Sim w0 X n σ' β' a' w'∧Q e σ'):=by
 have h1:=hs.frzs hX zas;have h1r:=h1;rw[hσ]at h1;obtain⟨hen,hlaw,hcall⟩:=hc;have hunH:unH c i vs E x:=⟨et,j,xsl,hk,hbuf,hun⟩;have hsl:xsl=c.sl x:=by
  obtain⟨et',j',k1,k2,_,_⟩:=zfc hlaw hunH;rw[hk]at k1;cases k1;rw[hbuf]at k2;cases k2;rfl
 subst hsl;have hv:=h1.ops a0;rw[show evO (AS.mk F E nx).F a0=_ from hev]at hv;obtain⟨g,hg1,hg2⟩:=hv;obtain⟨g',cs,e1,_,e3,e4⟩:=h1.own _ _ hbox;have hgg:g'=g:=by
  have hg1:zag (β i)=some g:=hg1;rw[e1]at hg1
  simpa [zag] using hg1
 subst hgg;have hij:i≠j:=fun e=>by rw[e,hbuf]at hbox;cases hbox
 have hji:j≠i:=fun e=>hij e.symm;have hbj:=h1.own _ _ hbuf;have hOg:OSet X E β g':=.inr ⟨_,_,hbox,by rw[e1];rfl⟩;have hgb:zag (β j)≠some g':=h1.inj i j _ _ hbox hbuf hij g' (by rw[e1];rfl);obtain⟨O,hO⟩:∃ O:Nat->Prop,O=fun k=>OSet X E β k∧k≠g'∧zag (β j)≠some k:=⟨_,rfl⟩;have hset:zbO O g' (β j)=OSet X E β:=by
  funext k
  apply propext;rw[hO];constructor
  ·rintro ((hk|rfl)|hk)
   ·exact hk.1
   ·exact hOg
   ·exact .inr ⟨j,_,hbuf,hk⟩
  ·intro hk;by_cases e:k=g'
   ·exact .inl (.inr e)
   ·by_cases e':zag (β j)=some k
    ·exact .inr e'
    ·exact .inl (.inl ⟨hk,e,e'⟩)
 have hvs:RepVs w (OSet X E β) β (zas.map (evO F)) (zas.map a.eval):=by
  refine⟨by simp,fun i v hv=>?_⟩;rw[ym]at hv;obtain⟨z,hz,rfl⟩:=zG.1 hv;exact⟨a.eval z,by rw[ym,hz];rfl,h1.ops z⟩
 have ha:=zdt (B:=0) h1.own hd hav hq hvs.2 hvs.1;have ha:RepA w (zbO O g' (β j)) c.args xs (zas.map a.eval):=by
  rw[hset];have e:(fun k=>false=false∧OSet X E β k)=OSet X E β:=by funext k;simp
  rwa[e]at ha
 have hK0:xC w w (OSet X E β) (zbO O g' (β j)):=by rw[hset];exact Keeps.refl _ _
 have hlv:RepH w (zbO O g' (β j)) (zc5 g' (β j)) (c.lv 0 1 x) cs:=RepH.toLv hlaw hK0 hunH e4 (fun j' et' hj'=>by
  rw[hk]at hj';cases hj';rfl) (by rw[e1];rfl)
 have hbuf2:zY w (zbO O g' (β j)) (zc5 g' (β j)) 0 (β j) (.buf c.te c.et (c.sl x)):=hbj.keep hK0 fun _ _=>rfl;have hOk:∀ k,O k->k < w.heap.size∧k≠g'∧zag (β j)≠some k:=fun k hk=>by
  rw[hO]at hk;exact⟨h1.hO hX k hk.1,hk.2⟩
 have hR:∀ k,(k=g'∨zag (β j)=some k)->w0.heap.size≤k∨X.R k:=fun k hk=>by
  rcases hk with rfl|hk
  ·exact h1.new _ _ k hbox (by rw[e1];rfl)
  ·exact h1.new _ _ k hbuf hk
 have hcl:=hcall w O g' cs ty x xs _ (β j) hOk hgb e3 hlv hbuf2 ha hpre (hinv w _ hR (hX.2.2 w h1.bel)) (hX.2.2 w h1.bel);have hrun:(execOp a.eval o).run P w= .ok (.enter f (yk (some ⟨g',0,none⟩)::zas.map a.eval).toArray) w:=by
  rw[hrunG β a w h1r hen,hg2]
 unfold qW;rw[hrun];refine hcl.mono fun e w' hr=>?_;obtain⟨hkp,hr⟩:=hr;revert hr h;cases c.out x xs with
 |error pv=>
  intro h;rintro rfl;refine⟨fun e=>(by cases e),_,β,h1.lose2 hbox hbuf ⟨hkp.os,hkp.tape,hkp.output,hkp.size,fun k hkl hn=>hkp.block k hkl fun hk=>hn ?_⟩,h⟩;rcases hk with rfl|hk
  ·exact .inl (by rw[e1];rfl)
  ·exact .inr hk
 |ok r=>
  obtain⟨y,x'⟩:=r;intro h;rintro ⟨v,cs',b',rfl,h7,h8,h9,hng,hnew,hres⟩;obtain⟨w1,hw1⟩:∃ w1,w1=w'.putObj g' (.cells cs.toArray ty (0,0)):=⟨_,rfl⟩;have hgl':g' < w'.heap.size:=(zo.1 h7).1;have hgl:g' < w.heap.size:=(zo.1 e3).1;have hw1g:w1.heap[g']? =some (.cells cs.toArray ty (0,0)):=by rw[hw1];exact qx hgl'
  have hw1o:∀ k,k≠g'->w1.heap[k]? =w'.heap[k]? :=fun k hne=>by rw[hw1];exact World.putObj_heap_other hne
  have hp1:=grownBy_putObj' w' g' (.cells cs.toArray ty (0,0));rw[<-hw1]at hp1;have hsz1:w1.heap.size=w'.heap.size:=by rw[hw1];simp
  let β1:Nat->zh:=fun m=>if m=j then b' else β m
  obtain⟨E1,hE1⟩:∃ E1:Owns,E1=(j,some (.buf c.te c.et (c.sl x')))::yi j E:=⟨_,rfl⟩;have hset1:∀ k,OSet X E1 β1 k->zbO O g' b' k:=fun k hk=>by
   have hX':∀ m om,m≠j->zm E m=some om->zag (β m)=some k->zbO O g' b' k:=fun m om hmj hm hbm=>by
    by_cases e:k=g'
    ·exact .inl (.inr e)
    ·refine .inl (.inl ?_);rw[hO];exact⟨.inr ⟨m,om,hm,hbm⟩,e,fun e'=>h1.inj m j om _ hm hbuf hmj k hbm e'⟩
   rcases hk with hk|⟨m,om,hm,hbm⟩
   ·refine .inl (.inl ?_);rw[hO];have h3:=hX.1 k hk;refine⟨.inl hk,fun e=>?_,fun e=>?_⟩
    ·rcases hR k (.inl e) with h4|h4
     ·omega
     ·exact h3.2 h4
    ·rcases hR k (.inr e) with h4|h4
     ·omega
     ·exact h3.2 h4
   ·rw[hE1,zah]at hm;by_cases hjm:j=m
    ·subst hjm;have hbm:zag (if j=j then b' else β j)=some k:=hbm;rw[if_pos rfl]at hbm;exact .inr hbm
    ·rw[if_neg hjm,jm]at hm;obtain⟨pm,hp,_⟩:=zG.1 hm;have hbm:zag (if m=j then b' else β m)=some k:=hbm;rw[if_neg (yT hjm)]at hbm;exact hX' m pm (yT hjm) hp hbm
  have hgr:w.grownBy w1 (zag (β j)):=⟨hp1.os.trans hkp.os,hp1.tape.trans hkp.tape,hp1.output.trans hkp.output,by rw[hsz1];exact hkp.size,fun k hkl hne=>by
   by_cases e:k=g'
   ·rw[e,hw1g,e3]
   ·rw[hw1o k e];exact hkp.block k hkl fun hk=>hk.elim e fun hk=>hne hk.symm⟩
  have h2:=h1.redo0 (w':=w1) (o':=.buf c.te c.et (c.sl x')) hbuf rfl hgr hnew (by
   refine h9.keep ⟨by rw[hsz1];exact zl _,fun k _ hn=>hw1o k fun e=>hn (.inl (.inr e)),fun k _ hk=>hset1 k (by rw[hE1];exact hk)⟩ fun k hk=>hw1o k fun e=>hng (by rw[hk,e]))
  rw[<-hE1]at h2;have hbi:(if i=j then b' else β i)= .pointer (some ⟨g',0,none⟩):=by rw[if_neg hij,e1]
  have hi1:zm E1 i=some (.hbox ty (vs.map (V.kill j))):=by
   rw[hE1,zah,if_neg hji,jm];rw[show zm E i=_ from hbox];rfl
  have hjn:=h1.lt j _ hbuf;have h3:=h2.write (w':=w') (o':=.hbox ty (c.lv i j x')) hi1 (by
   rw[hbi];refine⟨hp1.os.symm,hp1.tape.symm,hp1.output.symm,by show w1.heap.size≤w'.heap.size;rw[hsz1];exact zl _,fun k _ hne=>(hw1o k fun e=>hne (by rw[e];rfl)).symm⟩) (fun _=>by
   rw[hbi];refine⟨g',cs',rfl,zk _,h7,RepH.lvLv hlaw ⟨zl _,fun _ _ _=>rfl,fun k _ hk=>hset1 k hk⟩ h8 ?_ ?_⟩
   ·show (if j=j then b' else β j)=zc5 g' b' 1;rw[if_pos rfl];rfl
   ·show zag (if i=j then b' else β i)=_;rw[hbi];rfl) rfl (fun ws e u hu=>by
   cases e;exact zlZ hlaw (h1.lt i _ hbox) hjn x' u hu)
  subst hE1;refine⟨_,fun m=>if m=j then b' else β m,?_,h⟩;have hp:=hput y;unfold putD at hp;split at hp
  ·rename_i d hdst;split at hp<;>first|(cases hp;done)|skip
   rename_i hlt;have hp:=ya hp;rw[hdst, <-hp];have hkp2:xC w' w' (zbO O g' b') (OSet X ((i,some (.hbox ty (c.lv i j x')))::(j,some (.buf c.te c.et (c.sl x')))::yi j E) (fun m=>if m=j then b' else β m)):=⟨zl _,fun _ _ _=>rfl,fun k _ hk2=>by
    rcases hk2 with hk2|⟨m,om,hm,hbm⟩
    ·exact hset1 k (.inl hk2)
    ·rw[zah]at hm;by_cases him:i=m
     ·subst him;have hbm:zag (if i=j then b' else β i)=some k:=hbm;rw[hbi]at hbm;exact .inl (.inr (ya hbm).symm)
     ·rw[if_neg him]at hm;exact hset1 k (.inr ⟨m,om,hm,hbm⟩)⟩
   exact h3.put (zV _ _) (yE hkp2 _ _ _ (zg7 (β:=fun m=>if m=j then b' else β m) _ hfl hres)) (ze0 _ hfl _) (by simpa using hlt:d < n)
  ·rename_i hdst;have hp:=ya hp;rw[hdst, <-hp];exact h3
theorem zq7 (hX:X.Ok w0) {o:Oper} {f:zP} {c:HCtr} (hc:zaD P X.G f c) {args:Array zE} {ts:Array zn} {a0:zE} {zas:List zE} (ho:o.op= .call ⟨.value (.func f),args,ts⟩) (hargs:args.toList=a0::zas)
  {F:yJ} {E:Owns} {nx:Nat} (hσ:frzs σ zas=⟨F,E,nx⟩) {i:Nat} (hev:evO F a0=⟨.hptr,(i,(0:Nat))⟩) {ty:zn} {vs:List V} (hbox:zm E i=some (.hbox ty vs)) {et:Ty} {j:Nat} (hk:vs[c.k]? =some ⟨.obuf et,j⟩) {xsl:List c.et.T} (hbuf:zm E j=some (.buf c.te c.et xsl))
  {x:c.self.T} (hun:unD c.self ((c.back i vs).set c.k ⟨.slice c.et,xsl⟩)=some (x,[])) (hd:zaY c.args=true) (hfl:c.res.resOk=true)
  {q:List Prop} {xs:Args c.args} (hav:zd6 E false (zas.map (evO F)) c.args=some (q,xs)) (hq:allP q) (hpre:allP (c.pre x xs)) (hinv:∀ w R,(∀ g,R g->w0.heap.size≤g∨X.R g)->X.G w->c.inv w R ty) {F':c.res.T->yJ} (hput:∀ y,putD n o.dst (resV c.res y) (xh j F)=some (F' y))
  {N:AS->Prop} (h:zlD (fun y x'=>N ⟨F' y,(i,some (.hbox ty (c.lv i j x')))::(j,some (.buf c.te c.et (c.sl x')))::yi j E,nx⟩) (fun pv=>Q (.panic [{ v:=pv,recovered:=false }]) ⟨F,(i,none)::(j,none)::E,nx⟩) (c.out x xs))
  (β:Nat->zh) (a:Act) (w:zj) (hs:Sim w0 X n σ β a w):o.wp P a w (fun a' w'=>∃ σ' β',Sim w0 X n σ' β' a' w'∧N σ') (fun e a' w'=>e≠ .outgrown∧∃ σ' β',Sim w0 X n σ' β' a' w'∧Q e σ'):=
 zkq hX hc (a0:=a0) (zas:=zas) (fun β a w hs hen=>by
  have hargs':(args.toList.map a.eval).toArray=(a.eval a0::zas.map a.eval).toArray:=by rw[hargs,qf]
  rw[<-hargs'];have em:(args.toList.map a.eval).toArray=args.map a.eval++ #[]:=by
   rw[<-zdk];simp
  have hx:a.eval (.func f)= .func (.func f) #[] #[]:=rfl;rw[em];unfold execOp;simp[ho,resolve,invoke,jE,hx,hen]) hσ hev hbox hk hbuf hun hd hfl hav hq hpre hinv hput h β a w hs
structure HSite where
 c:HCtr
 x:c.self.T
 xs:Args c.args
 ty:zn
 q:List Prop
 next:c.res.T->c.self.T->AS
 lost:AS
def hget:List (zP×HCtr)->zP->Option HCtr
 | [],_=>none
 |(g,c)::r,f=>bif yb g f then some c else hget r f
def HsOk (P:zx) (G:zj->Prop) (C:List (zP×HCtr)):Prop:=∀ f c,hget C f=some c->zaD P G f c
theorem HsOk.nil {P:zx} {G:zj->Prop}:HsOk P G []:=fun _ _ h=>by cases h
theorem HsOk.cons {P:zx} {G:zj->Prop} {f:zP} {c:HCtr} {C:List (zP×HCtr)} (h:zaD P G f c) (hC:HsOk P G C):HsOk P G ((f,c)::C):=by
 intro g d hg;simp only[hget,cond_eq_ite,xc]at hg;split at hg
 ·rename_i e;cases hg;exact e▸h
 ·exact hC g d hg
def hFn (F:yJ):Op->Option (zP×zE×List zE)
 | .call ⟨.value (.func f),args,_⟩=>match args.toList with
  |a0::zas=>some (f,a0,zas)
  | []=>none
 |_=>none
def zpm (n:Nat) (d:Option Nat) (v:V) (F:yJ):yJ:=match d with
 |some d=>(d,v)::F
 |none=>F
def dstOk (n:Nat):Option Nat->Bool
 |some d=>zW d n
 |none=>true
def ztN (te:zn) (t:Ty):OObj->Option (List t.T)
 | .buf te' t' xs=>if yb te te' then zrs (.slice t') (.slice t) xs (zfM (.slice t') (.slice t)) else none
 |_=>none
def znm (C:List (zP×HCtr)) (n:Nat) (o:Oper) (σ:AS):Option HSite:=
 match hFn σ.F o.op with
 |some (f,a0,zas)=>match hget C f with
  |some c=>match frzs σ zas with
   |⟨F,E,nx⟩=>match evO F a0 with
    |⟨.hptr,(i,0)⟩=>match zm E i with
     |some (.hbox ty vs)=>match vs[c.k]? with
      |some ⟨.obuf _,j⟩=>match zm E j with
       |some ob=>match ztN c.te c.et ob with
        |some xsl=>if zaY c.args&&c.res.resOk&&dstOk n o.dst then (match unD c.self ((c.back i vs).set c.k ⟨.slice c.et,xsl⟩),zd6 E false (zas.map (evO F)) c.args with
         |some (x,[]),some (q,xs)=>some ⟨c,x,xs,ty,q++c.pre x xs,fun y x'=>⟨zpm n o.dst (resV c.res y) (xh j F),(i,some (.hbox ty (c.lv i j x')))::(j,some (.buf c.te c.et (c.sl x')))::yi j E,nx⟩,⟨F,(i,none)::(j,none)::E,nx⟩⟩
         |_,_=>none) else none
        |none=>none
       |none=>none
      |_=>none
     |_=>none
    |_=>none
  |none=>none
 |none=>none
theorem zrt {te:zn} {t:Ty} {ob:OObj} {xs:List t.T} (h:ztN te t ob=some xs):ob= .buf te t xs:=by
 cases ob with
 |buf te' t' ys=>
  simp only[ztN]at h;split at h<;>first|(cases h;done)|skip
  rename_i hte;have hte:te=te':=by simpa using hte
  subst hte;revert h;generalize zfM (Ty.slice t') (Ty.slice t)=e;intro h;cases e with
  |none=>cases h
  |some e=>
   obtain⟨e⟩:=e;cases e;cases h;rfl
 |_=>cases h
theorem zjh (hX:X.Ok w0) {C:List (zP×HCtr)} (hC:HsOk P X.G C) {o:Oper} {s:HSite} (hs:znm C n o σ=some s) (hq:allP s.q) (hinv:∀ w R,(∀ g,R g->w0.heap.size≤g∨X.R g)->X.G w->s.c.inv w R s.ty)
  {N:AS->Prop} (h:zlD (fun y x'=>N (s.next y x')) (fun pv=>Q (.panic [{ v:=pv,recovered:=false }]) s.lost) (s.c.out s.x s.xs))
  (β:Nat->zh) (a:Act) (w:zj) (hsim:Sim w0 X n σ β a w):o.wp P a w (fun a' w'=>∃ σ' β',Sim w0 X n σ' β' a' w'∧N σ') (fun e a' w'=>e≠ .outgrown∧∃ σ' β',Sim w0 X n σ' β' a' w'∧Q e σ'):=by
 unfold znm at hs;split at hs<;>first|(cases hs;done)|skip
 rename_i f a0 zas hfn;split at hs<;>first|(cases hs;done)|skip
 rename_i c hc;split at hs;rename_i F E nx hσ;split at hs<;>first|(cases hs;done)|skip
 rename_i i hev;split at hs<;>first|(cases hs;done)|skip
 rename_i ty vs hbox;split at hs<;>first|(cases hs;done)|skip
 rename_i et j hk;split at hs<;>first|(cases hs;done)|skip
 rename_i ob hob;split at hs<;>first|(cases hs;done)|skip
 rename_i xsl hcb;split at hs<;>first|(cases hs;done)|skip
 rename_i hcond;simp only[zf]at hcond;obtain⟨⟨hd,hfl⟩,hdst⟩:=hcond;split at hs<;>first|(cases hs;done)|skip
 rename_i x q xs hun hav;have hs:=ya hs;subst hs;have hbuf:=zrt hcb;subst hbuf;simp only[zax]at hq;obtain⟨args,ts,ho,hargs⟩:∃ args ts,o.op= .call ⟨.value (.func f),args,ts⟩∧args.toList=a0::zas:=by
  unfold hFn at hfn;split at hfn<;>first|(cases hfn;done)|skip
  rename_i f' args ts hop;split at hfn<;>first|(cases hfn;done)|skip
  rename_i b0 bs hl;cases hfn;exact⟨args,ts,hop,hl⟩
 refine zq7 hX (hC f c hc) ho hargs hσ hev hbox hk hob hun hd hfl hav hq.1 hq.2 hinv (F':=fun y=>zpm n o.dst (resV c.res y) (xh j F)) (fun y=>?_) h β a w hsim;unfold putD zpm;cases hh:o.dst with
 |none=>rfl
 |some d=>
  rw[hh]at hdst;have hdst:zW d n=true:=hdst;show (if zW d n=true then _ else _)=_;rw[if_pos hdst]
theorem AL.own (m:Nat) (hX:X.Ok w0) (hK:KnOk P X.G K) {C:List (zP×HCtr)} (hC:HsOk P X.G C) {l rest:List Oper} {o:Oper} {r:List Prop×AS} (hs:aSeq K n ops (l.take m) σ=some r) (hp:allP r.1) (hl:l.drop m=o::rest) {s:HSite} (hsite:znm C n o r.2=some s)
  (hq:allP s.q) (hinv:∀ w R,(∀ g,R g->w0.heap.size≤g∨X.R g)->X.G w->s.c.inv w R s.ty) (h:zlD (fun y x'=>AL P w0 X n ops rest (s.next y x') Q) (fun pv=>Q (.panic [{ v:=pv,recovered:=false }]) s.lost) (s.c.out s.x s.xs))
  (hgd:o.guard=none:=by rfl) (hnd:∀ c,o.op≠ .defer c:=by intro c e;cases e) (hd:zba (l.take m)=true:=by rfl):AL P w0 X n ops l σ Q:=by
 refine AL.take m hX hK hs hp ?_ hd;rw[hl];exact AL.hand hgd hnd fun β a w hsim=>zjh (N:=fun σ'=>AL P w0 X n ops rest σ' Q) hX hC hsite hq hinv h β a w hsim
theorem StepA.own (hX:X.Ok w0) {C:List (zP×HCtr)} (hC:HsOk P X.G C) {o:Oper} {s:HSite} {N:AS->Prop} (hsite:znm C n o σ=some s) (hq:allP s.q) (hinv:∀ w R,(∀ g,R g->w0.heap.size≤g∨X.R g)->X.G w->s.c.inv w R s.ty)
  (h:zlD (fun y x'=>N (s.next y x')) (fun pv=>Q (.panic [{ v:=pv,recovered:=false }]) s.lost) (s.c.out s.x s.xs)) (hgd:o.guard=none:=by rfl):StepA P w0 X n ops o σ N Q:=
 StepA.hand hgd fun β a w hsim=>zjh (N:=N) hX hC hsite hq hinv h β a w hsim
end
abbrev Nd:=Int×Int×Int×Int×Int×Int×List Int×List UInt8×Unit
abbrev TokT:=Int×Int×Int×List UInt8×Int×Unit
def Tok.cls (t:TokT):Int:=t.1
def Tok.at (t:TokT):Int:=t.2.1
def Tok.size (t:TokT):Int:=t.2.2.1
def Tok.text (t:TokT):List UInt8:=t.2.2.2.1
def Tok.n (t:TokT):Int:=t.2.2.2.2.1
def isLt (c:UInt8):Bool:=decide (97≤c|||32)&&decide (c|||32≤122)
def isDg (c:UInt8):Bool:=decide (48≤c)&&decide (c≤57)
def isPt (c:UInt8):Bool:=isLt c||isDg c||(c==45)
def isWh (c:UInt8):Bool:=(c==32)||(c==9)||(c==10)||(c==13)
def zbF (p:UInt8->Bool) (s:List UInt8):Nat:=(s.takeWhile p).length
def zay:List UInt8->Nat
 | []=>0
 |c::r=>if isLt c then zbF isPt (c::r) else 0
def numv (l:List UInt8):Nat:=l.foldl (fun n c=>10 * n+(c.toNat - 48)) 0
def zdd:Nat:=1125899906842624
def zaQ (s:List UInt8):Nat:=if s.head? =some 45 then 1 else 0
def zaN (s:List UInt8):List UInt8:=(s.drop (zaQ s)).takeWhile isDg
def valN (s:List UInt8):Int:=if zaQ s=1 then -((min (numv (zaN s)) zdd:Nat):Int) else ((min (numv (zaN s)) zdd:Nat):Int)
def zcV (s:List UInt8):Option (Int×Nat×List UInt8×Int):=
 if (zaN s).length=0 then none
 else if (zaN s).head? =some 48∧1 < zaQ s+(zaN s).length then some (5,zaQ s+(zaN s).length,s.take (zaQ s+(zaN s).length),(zdd:Int))
 else some (3,zaQ s+(zaN s).length,s.take (zaQ s+(zaN s).length),valN s)
def zbi (s:List UInt8):TokT:=
 let skip:=zbF isWh s
 match s.drop skip with
 | []=>(0,(skip:Int),0,[],0,())
 |c::r=>
  if 0 < zay (c::r) then (1,(skip:Int),(zay (c::r):Nat),(c::r).take (zay (c::r)),0,())
  else if c=64∧0 < zay r then (2,(skip:Int),(zay r:Nat)+1,r.take (zay r),0,())
  else match zcV (c::r) with
   |some (k,n,t,x)=>(k,(skip:Int),(n:Nat),t,x,())
   |none=>if c=40∨c=41∨c=61 then (4,(skip:Int),1,[c],0,()) else (5,(skip:Int),1,[c],0,())
def zee (s:List UInt8) (o:Int):TokT:=let t:=zbi (s.drop o.toNat);(Tok.cls t,Tok.at t+o,Tok.size t,Tok.text t,Tok.n t,())
def zjH:List UInt8:=[100,97,121,115]
def zgg:List UInt8:=[121,101,97,114,115]
def zcn:List UInt8:=[109,111,110,116,104,115]
def za3:List UInt8:=[109,111,110,116,104,100,97,121,115]
def zbj:List UInt8:=[119,101,101,107,100,97,121,115]
def zdh:List UInt8:=[119,101,101,107,115]
def wNth:List UInt8:=[110,116,104]
def zeP:List UInt8:=[115,104,105,102,116]
def zhU:List UInt8:=[102,114,111,109]
def zeO:List UInt8:=[117,110,116,105,108]
def zeX:List UInt8:=[97,108,115,111]
def zco:List UInt8:=[101,120,99,101,112,116]
def wPos:List UInt8:=[112,111,115]
def zbD:List UInt8:=[98,101,104,105,110,100]
def wOr:List UInt8:=[111,114]
def zjG:List UInt8:=[109,105,110,117,115]
def wAnd:List UInt8:=[97,110,100]
def wOf:List UInt8:=[111,102]
def zjF:List UInt8:=[109,111,110,116,104]
def zea:List UInt8:=[121,101,97,114]
def ze9:List UInt8:=[40]
def zc7:List UInt8:=[41]
def wEq:List UInt8:=[61]
inductive Tr where
 |leaf (n:Nd)
 |un (n:Nd) (a:Tr)
 |bin (n:Nd) (a b:Tr)
def Tr.size:Tr->Nat
 | .leaf _=>1
 | .un _ a=>a.size+1
 | .bin _ a b=>a.size+b.size+1
def setL (n:Nd) (l:Int):Nd:=(n.1,n.2.1,l,n.2.2.2)
def zbs (n:Nd) (l r:Int):Nd:=(n.1,n.2.1,l,r,n.2.2.2.2)
def Tr.flat:Tr->Nat->List Nd
 | .leaf n,_=>[n]
 | .un n a,b=>a.flat b++ [setL n ((b+a.size:Nat) - 1)]
 | .bin n a c,b=>a.flat b++c.flat (b+a.size)++ [zbs n ((b+a.size:Nat) - 1) ((b+a.size+c.size:Nat) - 1)]
theorem Tr.len_flat:∀ (t:Tr) (b:Nat),(t.flat b).length=t.size
 | .leaf _,_=>rfl
 | .un _ a,b=>by
  have:=Tr.len_flat a b;rw[Tr.flat,Tr.size,zd,this];rfl
 | .bin _ a c,b=>by
  have h1:=Tr.len_flat a b;have h2:=Tr.len_flat c (b+a.size);rw[Tr.flat,Tr.size,zd,zd,h1,h2];rfl
abbrev GSt:=TokT×Int
abbrev GE:=Except (Int×Int)
section
variable (s:List UInt8)
def zaF (st:GSt) (b:Bool) (e:Int):Except (Int×Int) Unit:=if b then .ok () else .error (Tok.at st.1,e)
def gAdv (st:GSt):GSt:=(zee s (Tok.at st.1+Tok.size st.1),st.2)
def gIs (st:GSt) (w:List UInt8):Bool:=((Tok.cls st.1==1)||(Tok.cls st.1==4))&&decide (Tok.text st.1=w)
def zaX (st:GSt) (w:List UInt8):Except (Int×Int) GSt:=do
 zaF st (gIs st w) 3
 return gAdv s st
def zbU (st:GSt):Except (Int×Int) GSt:=do
 zaF st (decide (st.2 < 64)) 2
 return gAdv s (st.1,st.2+1)
def zaO (st:GSt) (low high:Int):GE (Int×GSt):=do
 zaF st (Tok.cls st.1==3) 3
 zaF st (decide (low≤Tok.n st.1)&&decide (Tok.n st.1≤high)) 1
 return (Tok.n st.1,gAdv s st)
def zcw (low high:Int) (zero:Bool):Nat->GSt->List Int->GE (List Int×GSt)
 |0,st,_=>.error (Tok.at st.1,0)
 |k+1,st,l=>if !l.isEmpty&&gIs st zc7 then .ok (l,st) else do
  zaF st (Tok.cls st.1==3) 3
  zaF st (decide (l.length < 64)) 2
  zaF st (decide (Tok.n st.1 > l.getLast?.getD (low - 1))&&(zero||(Tok.n st.1 != 0))) 1
  let (x,st')<-zaO s st low high
  zcw low high zero k st' (l++ [x])
def zdo (st:GSt) (low high:Int) (zero:Bool):GE (List Int×GSt):=do
 let st<-zaX s st ze9
 let (l,st)<-zcw s low high zero 66 st []
 let st<-zaX s st zc7
 return (l,st)
def zdP (st:GSt):GE (Int×GSt):=do
 zaF st (gIs st zjF||gIs st zea) 3
 return (if Tok.text st.1=zea then 1 else 0,gAdv s st)
def gCal (st:GSt):GE (Int×GSt):=zaO s st 0 2
def zdv:Int:=1099511627776
inductive LeafW where
 |days|years|months|monthdays|weekdays|weeks|nth
def zgz (w:List UInt8):Option LeafW:=
 if w=zjH then some .days else if w=zgg then some .years else if w=zcn then some .months else if w=za3 then some .monthdays else if w=zbj then some .weekdays else if w=zdh then some .weeks else if w=wNth then some .nth else none
def zdp (st:GSt):LeafW->GE (Nd×GSt)
 | .days=>do
  let (n,st)<-zaO s st 1 zdv
  let (m,st)<-zaO s st 0 zdv
  return ((1,0,0,0,n,m,[],[],()),st)
 | .years=>do
  let (c,st)<-gCal s st
  let (n,st)<-zaO s st 1 400
  let (m,st)<-zaO s st 0 (n - 1)
  return ((2,c,0,0,n,m,[],[],()),st)
 | .months=>do
  let (c,st)<-gCal s st
  let (l,st)<-zdo s st 1 16 true
  return ((3,c,0,0,0,0,l,[],()),st)
 | .monthdays=>do
  let (c,st)<-gCal s st
  let (l,st)<-zdo s st (-40) 40 false
  return ((4,c,0,0,0,0,l,[],()),st)
 | .weekdays=>do
  let (l,st)<-zdo s st 0 6 true
  return ((5,0,0,0,0,0,l,[],()),st)
 | .weeks=>do
  let (c,st)<-gCal s st
  let (l,st)<-zdo s st 1 54 true
  return ((6,c,0,0,0,0,l,[],()),st)
 | .nth=>do
  let (c,st)<-gCal s st
  zaF st ((Tok.cls st.1 != 3)||(Tok.n st.1 != 0)) 1
  let (n,st)<-zaO s st (-60) 60
  let (m,st)<-zaO s st 0 6
  let (l,st)<-zdP s st
  return ((7,c,l,0,n,m,[],[],()),st)
inductive SufW where
 |shift|from_|until_|also|except_|pos|behind
def sufW (w:List UInt8):Option SufW:=
 if w=zeP then some .shift else if w=zhU then some .from_ else if w=zeO then some .until_ else if w=zeX then some .also else if w=zco then some .except_ else if w=wPos then some .pos else if w=zbD then some .behind else none
def gSuf (st:GSt):SufW->GE (Nd×GSt)
 | .shift=>do
  let (n,st)<-zaO s st (-zdv) zdv
  return ((11,0,0,0,n,0,[],[],()),st)
 | .from_=>do
  let (n,st)<-zaO s st 0 zdv
  return ((12,0,0,0,n,0,[],[],()),st)
 | .until_=>do
  let (n,st)<-zaO s st 0 zdv
  return ((13,0,0,0,n,0,[],[],()),st)
 | .also=>do
  let (l,st)<-zdo s st 0 zdv true
  return ((14,0,0,0,0,0,l,[],()),st)
 | .except_=>do
  let (l,st)<-zdo s st 0 zdv true
  return ((15,0,0,0,0,0,l,[],()),st)
 | .pos=>do
  let (c,st)<-gCal s st
  let (m,st)<-zdP s st
  let (l,st)<-zdo s st (-400) 400 false
  return ((16,c,0,0,0,m,l,[],()),st)
 | .behind=>do
  let (n,st)<-zaO s st 1 400
  let st<-zaX s st wOf
  return ((17,0,0,0,n,0,[],[],()),st)
def opW:Nat->List UInt8
 |0=>wOr
 |1=>zjG
 |_=>wAnd
def opK:Nat->Int
 |0=>9
 |1=>10
 |_=>8
inductive Md where
 |bin (i:Nat)
 |binL (i:Nat) (t:Tr)
 |chain
 |chainL (t:Tr)
 |prim
def zNd:Nd:=(0,0,0,0,0,0,[],[],())
def zbp (rec:Md->GSt->GE (Tr×GSt)):Md->GSt->GE (Tr×GSt)
 | .bin i,st=>if 3≤i then rec .chain st else do
  let (t,st)<-rec (.bin (i+1)) st
  rec (.binL i t) st
 | .binL i t,st=>if gIs st (opW i) then do
   let st<-zbU s st
   let (u,st)<-rec (.bin (i+1)) st
   rec (.binL i (.bin (opK i,zNd.2) t u)) st
  else .ok (t,st)
 | .chain,st=>do
  let (t,st)<-rec .prim st
  rec (.chainL t) st
 | .chainL t,st=>if Tok.cls st.1=1 then (match sufW (Tok.text st.1) with
   |none=>.ok (t,st)
   |some .behind=>do
    let st<-zbU s st
    let (n,st)<-gSuf s st .behind
    let (u,st)<-rec .prim st
    rec (.chainL (.bin n t u)) st
   |some w=>do
    let st<-zbU s st
    let (n,st)<-gSuf s st w
    rec (.chainL (.un n t)) st)
  else .ok (t,st)
 | .prim,st=>if gIs st ze9 then do
   let (t,st)<-rec (.bin 0) (gAdv s st)
   let st<-zaX s st zc7
   return (t,st)
  else if Tok.cls st.1=2 then do
   zaF st (decide ((Tok.text st.1).length≤32)) 2
   let st'<-zbU s st
   return (.leaf (18,0,0,0,0,0,[],Tok.text st.1,()),st')
  else do
   zaF st (Tok.cls st.1==1) 3
   match zgz (Tok.text st.1) with
   |none=>.error (Tok.at st.1,3)
   |some w=>do
    let st<-zbU s st
    let (n,st)<-zdp s st w
    return (.leaf n,st)
def prs:Nat->Md->GSt->GE (Tr×GSt)
 |0,_,st=>.error (Tok.at st.1,0)
 |k+1,md,st=>zbp s (prs k) md st
def rem (st:GSt):Nat:=((s.length:Nat) - Tok.at st.1).toNat
def mdF:Md->Nat
 | .bin i=>3+(3 - i)
 | .chain=>2
 | .prim=>1
 | .binL _ _=>7
 | .chainL _=>7
def meas (md:Md) (st:GSt):Nat:=8 * rem s st+mdF md
def prsT (md:Md) (st:GSt):GE (Tr×GSt):=prs s (meas s md st+1) md st
def zfy (st:GSt):GE (Tr×GSt):=do
 let (t,st)<-prsT s (.bin 0) st
 zaF st (Tok.cls st.1==0) 3
 return (t,st)
def zh6:GSt:=(zee s 0,0)
def zeo:Except (Int×Int) Tr:=(zfy s (zh6 s)).map (·.1)
end
section
variable {s:List UInt8}
theorem zao {ε α β:Type} {e:Except ε α} {f:α->Except ε β} {y:β} (h:(e >>= f)= .ok y):∃ x,e= .ok x∧f x= .ok y:=by
 cases e with
 |error a=>cases h
 |ok x=>exact⟨x,rfl,h⟩
def TkOk (s:List UInt8) (t:TokT):Prop:=(0≤Tok.at t∧0≤Tok.size t∧Tok.at t+Tok.size t≤(s.length:Nat))∧(Tok.cls t≠0->1≤Tok.size t)∧(Tok.cls t=0->Tok.at t=(s.length:Nat))∧(-1125899906842624≤Tok.n t∧Tok.n t≤1125899906842624)∧(Tok.text t).length≤s.length∧(0≤Tok.cls t∧Tok.cls t≤5)
theorem ziQ (p:UInt8->Bool) (s:List UInt8):zbF p s≤s.length:=by
 unfold zbF;exact (jq p).length_le
theorem zev (s:List UInt8):zay s≤s.length:=by
 unfold zay;split
 ·exact zk _
 ·split
  ·exact ziQ _ _
  ·exact zk _
theorem zoF {l:List UInt8} {k:Int} {n:Nat} {t:List UInt8} {x:Int} (h:zcV l=some (k,n,t,x)):(k=3∨k=5)∧1≤n∧n≤l.length∧t.length≤l.length∧ -1125899906842624≤x∧x≤1125899906842624:=by
 have hs1:zaQ l≤1∧zaQ l≤l.length:=by
  unfold zaQ;cases l with
  |nil=>exact⟨by decide,by decide⟩
  |cons c r=>split<;>simp
 have hd:(zaN l).length≤(l.drop (zaQ l)).length:=(jq _).length_le;rw[yS]at hd;have hn:zdd=1125899906842624:=rfl;have hv: -1125899906842624≤valN l∧valN l≤1125899906842624:=by
  have:=Nat.min_le_right (numv (zaN l)) zdd;unfold valN;split<;>omega
 have ht:(l.take (zaQ l+(zaN l).length)).length≤l.length:=by rw[yB];omega
 unfold zcV at h;generalize valN l=vn at h hv;by_cases h0:(zaN l).length=0
 ·rw[if_pos h0]at h;cases h
 rw[if_neg h0]at h;by_cases h1:(zaN l).head? =some 48∧1 < zaQ l+(zaN l).length
 ·rw[if_pos h1]at h;cases h;refine⟨.inr rfl,by omega,by omega,ht,by omega,by omega⟩
 ·rw[if_neg h1]at h;cases h;exact⟨.inl rfl,by omega,by omega,ht,hv⟩
theorem zlI (s:List UInt8):TkOk s (zbi s):=by
 have hk:=ziQ isWh s;unfold zbi;simp only[];generalize zbF isWh s=k at hk;split
 ·rename_i hd;have hl:=congrArg zg hd;rw[yS,zX]at hl;refine⟨⟨?_,?_,?_⟩,?_,?_,?_,?_,?_⟩<;>simp only[Tok.at,Tok.size,Tok.cls,Tok.n,Tok.text,zX]<;>omega
 ·rename_i c r hd;have hl:=congrArg zg hd;rw[yS,zt]at hl;have hw:=zev (c::r);have hw2:=zev r;rw[zt]at hw;split
  ·have ht:((c::r).take (zay (c::r))).length≤s.length:=by rw[yB,zt];omega
   refine⟨⟨?_,?_,?_⟩,?_,?_,?_,?_,?_⟩<;>simp only[Tok.at,Tok.size,Tok.cls,Tok.n,Tok.text]<;>omega
  ·split
   ·have ht:(r.take (zay r)).length≤s.length:=by rw[yB];omega
    refine⟨⟨?_,?_,?_⟩,?_,?_,?_,?_,?_⟩<;>simp only[Tok.at,Tok.size,Tok.cls,Tok.n,Tok.text]<;>omega
   ·split
    ·rename_i kk n t x hn;obtain⟨h1,h2,h3,h4,h5,h6⟩:=zoF hn;rw[zt]at h3 h4;refine⟨⟨?_,?_,?_⟩,?_,?_,?_,?_,?_⟩<;>simp only[Tok.at,Tok.size,Tok.cls,Tok.n,Tok.text]<;>omega
    ·split<;>refine⟨⟨?_,?_,?_⟩,?_,?_,?_,?_,?_⟩<;>simp only[Tok.at,Tok.size,Tok.cls,Tok.n,Tok.text,zt,zX]<;>omega
theorem ziV {o:Int} (h0:0≤o) (h1:o≤(s.length:Nat)):TkOk s (zee s o)∧o≤Tok.at (zee s o):=by
 obtain⟨⟨a1,a2,a3⟩,b,c,d,e,f⟩:=zlI (s.drop o.toNat);rw[yS]at a3 c e;unfold zee;generalize zbi (s.drop o.toNat)=t at *;obtain⟨k,a,z,x,n,_⟩:=t;simp only[Tok.at,Tok.size,Tok.cls,Tok.n,Tok.text]at *;refine⟨⟨⟨?_,?_,?_⟩,?_,?_,?_,?_,?_⟩,?_⟩<;>first|omega|(simp only[Tok.at,Tok.size,Tok.cls,Tok.n,Tok.text];omega)
def GOk (s:List UInt8) (st:GSt):Prop:=TkOk s st.1∧0≤st.2∧st.2≤64
theorem zts {st:GSt} (h:GOk s st):GOk s (gAdv s st)∧Tok.at st.1+Tok.size st.1≤Tok.at (gAdv s st).1∧(gAdv s st).2=st.2:=by
 obtain⟨⟨⟨a1,a2,a3⟩,_⟩,hb⟩:=h;obtain⟨h1,h2⟩:=ziV (s:=s) (o:=Tok.at st.1+Tok.size st.1) (by omega) a3;exact⟨⟨h1,hb⟩,h2,rfl⟩
theorem zdF {st:GSt} {w:List UInt8} (h:gIs st w=true):Tok.cls st.1≠0:=by
 unfold gIs at h;rw[zf,yl,beq_iff_eq,beq_iff_eq]at h;omega
theorem zbK {st:GSt} {b:Bool} {e:Int} {u:Unit} (h:zaF st b e= .ok u):b=true:=by
 unfold zaF at h;split at h
 ·assumption
 ·cases h
def Onw (s:List UInt8) (st st':GSt):Prop:=GOk s st'∧Tok.at st.1+1≤Tok.at st'.1
theorem Onw.trans {a b c:GSt} (h:Onw s a b) (k:Onw s b c):Onw s a c:=⟨k.1,by have:=h.2;have:=k.2;omega⟩
theorem zcm {st:GSt} (h:GOk s st) (hc:Tok.cls st.1≠0):Onw s st (gAdv s st):=by
 obtain⟨h1,h2,_⟩:=zts h;have:=h.1.2.1 hc;exact⟨h1,by omega⟩
theorem zbq {st st':GSt} {w:List UInt8} (h:GOk s st) (he:zaX s st w= .ok st'):Onw s st st':=by
 unfold zaX at he;obtain⟨u,h1,h2⟩:=zao he;cases h2;exact zcm h (zdF (zbK h1))
theorem zbg {st st':GSt} (h:GOk s st) (hc:Tok.cls st.1≠0) (he:zbU s st= .ok st'):Onw s st st':=by
 unfold zbU at he;obtain⟨u,h1,h2⟩:=zao he;have h1:=of_decide_eq_true (zbK h1);cases h2;have h3:GOk s (st.1,st.2+1):=⟨h.1,by have:=h.2;constructor<;>simp only[]<;>omega⟩;exact zcm h3 hc
theorem zas {st st':GSt} {lo hi x:Int} (h:GOk s st) (he:zaO s st lo hi= .ok (x,st')):Onw s st st'∧lo≤x∧x≤hi:=by
 unfold zaO at he;obtain⟨u,h1,h2⟩:=zao he;obtain⟨u2,h3,h4⟩:=zao h2;have h1:=zbK h1;have h3:=zbK h3;rw[beq_iff_eq]at h1;rw[zf,decide_eq_true_iff,decide_eq_true_iff]at h3;cases h4;exact⟨zcm h (by rw[h1];decide),h3⟩
theorem zhB {lo hi:Int} {z:Bool}:∀ (k:Nat) {st st':GSt} {l l':List Int},GOk s st->zcw s lo hi z k st l= .ok (l',st')->(st'=st∨Onw s st st')
 |0,_,_,_,_,_,he=>by cases he
 |k+1,st,st',l,l',h,he=>by
  unfold zcw at he;split at he
  ·cases he;exact .inl rfl
  ·obtain⟨_,_,he⟩:=zao he;obtain⟨_,_,he⟩:=zao he;obtain⟨_,_,he⟩:=zao he;obtain⟨⟨x,st1⟩,h1,he⟩:=zao he;have h2:=(zas h h1).1;rcases zhB k h2.1 he with rfl|h3
   ·exact .inr h2
   ·exact .inr (h2.trans h3)
theorem zb2 {st st':GSt} {lo hi:Int} {z:Bool} {l:List Int} (h:GOk s st) (he:zdo s st lo hi z= .ok (l,st')):Onw s st st':=by
 unfold zdo at he;obtain⟨st1,h1,he⟩:=zao he;obtain⟨⟨l1,st2⟩,h2,he⟩:=zao he;obtain⟨st3,h3,he⟩:=zao he;cases he;have a:=zbq h h1;rcases zhB _ a.1 h2 with rfl|b
 ·exact a.trans (zbq a.1 h3)
 ·exact (a.trans b).trans (zbq b.1 h3)
theorem zem {st st':GSt} {x:Int} (h:GOk s st) (he:zdP s st= .ok (x,st')):Onw s st st':=by
 unfold zdP at he;obtain⟨u,h1,h2⟩:=zao he;have h1:=zbK h1;rw[yl]at h1;cases h2;exact zcm h (by rcases h1 with h1|h1<;>exact zdF h1)
theorem zml {st st':GSt} {n:Nd} (h:GOk s st):∀ (w:LeafW),zdp s st w= .ok (n,st')->Onw s st st'
 | .days,he=>by
  obtain⟨⟨x,a⟩,h1,he⟩:=zao he;obtain⟨⟨y,b⟩,h2,he⟩:=zao he;cases he;have k1:=(zas h h1).1;exact k1.trans (zas k1.1 h2).1
 | .years,he=>by
  obtain⟨⟨x,a⟩,h1,he⟩:=zao he;obtain⟨⟨y,b⟩,h2,he⟩:=zao he;obtain⟨⟨z,c⟩,h3,he⟩:=zao he;cases he;have k1:=(zas h h1).1;have k2:=(zas k1.1 h2).1;exact (k1.trans k2).trans (zas k2.1 h3).1
 | .months,he=>by
  obtain⟨⟨x,a⟩,h1,he⟩:=zao he;obtain⟨⟨y,b⟩,h2,he⟩:=zao he;cases he;have k1:=(zas h h1).1;exact k1.trans (zb2 k1.1 h2)
 | .monthdays,he=>by
  obtain⟨⟨x,a⟩,h1,he⟩:=zao he;obtain⟨⟨y,b⟩,h2,he⟩:=zao he;cases he;have k1:=(zas h h1).1;exact k1.trans (zb2 k1.1 h2)
 | .weekdays,he=>by
  obtain⟨⟨y,b⟩,h2,he⟩:=zao he;cases he;exact zb2 h h2
 | .weeks,he=>by
  obtain⟨⟨x,a⟩,h1,he⟩:=zao he;obtain⟨⟨y,b⟩,h2,he⟩:=zao he;cases he;have k1:=(zas h h1).1;exact k1.trans (zb2 k1.1 h2)
 | .nth,he=>by
  obtain⟨⟨x,a⟩,h1,he⟩:=zao he;obtain⟨_,_,he⟩:=zao he;obtain⟨⟨y,b⟩,h2,he⟩:=zao he;obtain⟨⟨z,c⟩,h3,he⟩:=zao he;obtain⟨⟨u,d⟩,h4,he⟩:=zao he;cases he;have k1:=(zas h h1).1;have k2:=(zas k1.1 h2).1;have k3:=(zas k2.1 h3).1;exact ((k1.trans k2).trans k3).trans (zem k3.1 h4)
theorem zel {st st':GSt} {n:Nd} (h:GOk s st):∀ (w:SufW),gSuf s st w= .ok (n,st')->Onw s st st'
 | .shift,he=>by
  obtain⟨⟨x,a⟩,h1,he⟩:=zao he;cases he;exact (zas h h1).1
 | .from_,he=>by
  obtain⟨⟨x,a⟩,h1,he⟩:=zao he;cases he;exact (zas h h1).1
 | .until_,he=>by
  obtain⟨⟨x,a⟩,h1,he⟩:=zao he;cases he;exact (zas h h1).1
 | .also,he=>by
  obtain⟨⟨x,a⟩,h1,he⟩:=zao he;cases he;exact zb2 h h1
 | .except_,he=>by
  obtain⟨⟨x,a⟩,h1,he⟩:=zao he;cases he;exact zb2 h h1
 | .pos,he=>by
  obtain⟨⟨x,a⟩,h1,he⟩:=zao he;obtain⟨⟨y,b⟩,h2,he⟩:=zao he;obtain⟨⟨z,c⟩,h3,he⟩:=zao he;cases he;have k1:=(zas h h1).1;have k2:=zem k1.1 h2;exact (k1.trans k2).trans (zb2 k2.1 h3)
 | .behind,he=>by
  obtain⟨⟨x,a⟩,h1,he⟩:=zao he;obtain⟨b,h2,he⟩:=zao he;cases he;have k1:=(zas h h1).1;exact k1.trans (zbq k1.1 h2)
def Cons (s:List UInt8) (st st':GSt):Md->Prop
 | .binL _ _| .chainL _=>st'=st∨Onw s st st'
 |_=>Onw s st st'
theorem Onw.then {md:Md} {a b c:GSt} (h:Onw s a b) (k:Cons s b c md):Onw s a c:=by
 cases md with
 |bin i=>exact h.trans k
 |chain=>exact h.trans k
 |prim=>exact h.trans k
 |binL i t=>
  rcases k with rfl|k
  ·exact h
  ·exact h.trans k
 |chainL t=>
  rcases k with rfl|k
  ·exact h
  ·exact h.trans k
theorem zm9 {r:Md->GSt->GE (Tr×GSt)} (hr:∀ md st t st',GOk s st->r md st= .ok (t,st')->Cons s st st' md):∀ md st t st',GOk s st->zbp s r md st= .ok (t,st')->Cons s st st' md
 | .bin i,st,t,st',h,he=>by
  rw[zbp]at he;split at he
  ·exact hr .chain _ _ _ h he
  ·obtain⟨⟨u,a⟩,h1,he⟩:=zao he;have k1:Onw s st a:=hr _ _ _ _ h h1;exact k1.then (hr _ _ _ _ k1.1 he)
 | .binL i t0,st,t,st',h,he=>by
  rw[zbp]at he;split at he
  ·rename_i hi;obtain⟨a,h1,he⟩:=zao he;obtain⟨⟨u,b⟩,h2,he⟩:=zao he;have k1:=zbg h (zdF hi) h1;have k2:Onw s a b:=hr _ _ _ _ k1.1 h2;exact .inr ((k1.trans k2).then (hr _ _ _ _ k2.1 he))
  ·cases he;exact .inl rfl
 | .chain,st,t,st',h,he=>by
  rw[zbp]at he;obtain⟨⟨u,a⟩,h1,he⟩:=zao he;have k1:Onw s st a:=hr _ _ _ _ h h1;exact k1.then (hr _ _ _ _ k1.1 he)
 | .chainL t0,st,t,st',h,he=>by
  rw[zbp]at he;split at he
  ·rename_i hc;split at he
   ·cases he;exact .inl rfl
   ·obtain⟨a,h1,he⟩:=zao he;obtain⟨⟨n,b⟩,h2,he⟩:=zao he;obtain⟨⟨u,c⟩,h3,he⟩:=zao he;have k1:=zbg h (by rw[hc];decide) h1;have k2:=zel k1.1 _ h2;have k3:Onw s b c:=hr _ _ _ _ k2.1 h3;exact .inr (((k1.trans k2).trans k3).then (hr _ _ _ _ k3.1 he))
   ·obtain⟨a,h1,he⟩:=zao he;obtain⟨⟨n,b⟩,h2,he⟩:=zao he;have k1:=zbg h (by rw[hc];decide) h1;have k2:=zel k1.1 _ h2;exact .inr ((k1.trans k2).then (hr _ _ _ _ k2.1 he))
  ·cases he;exact .inl rfl
 | .prim,st,t,st',h,he=>by
  rw[zbp]at he;split at he
  ·rename_i hi;obtain⟨⟨u,a⟩,h1,he⟩:=zao he;obtain⟨b,h2,he⟩:=zao he;cases he;have k0:=zcm h (zdF hi);have k1:Onw s (gAdv s st) a:=hr _ _ _ _ k0.1 h1;exact (k0.trans k1).trans (zbq k1.1 h2)
  ·split at he
   ·rename_i hc;obtain⟨_,_,he⟩:=zao he;obtain⟨a,h1,he⟩:=zao he;cases he;exact zbg h (by rw[hc];decide) h1
   ·obtain⟨_,h0,he⟩:=zao he;have hc:=zbK h0;rw[beq_iff_eq]at hc;split at he
    ·cases he
    ·obtain⟨a,h1,he⟩:=zao he;obtain⟨⟨n,b⟩,h2,he⟩:=zao he;cases he;have k1:=zbg h (by rw[hc];decide) h1;exact k1.trans (zml k1.1 _ h2)
theorem zcQ:∀ (k:Nat) md st t st',GOk s st->prs s k md st= .ok (t,st')->Cons s st st' md
 |0,_,_,_,_,_,he=>by cases he
 |k+1,md,st,t,st',h,he=>zm9 (zcQ k) md st t st' h he
theorem zby {ε α β:Type} {e e':Except ε α} {f f':α->Except ε β} (h:e=e') (hf:∀ x,e= .ok x->f x=f' x):(e >>= f)=(e' >>= f'):=by
 subst h;cases e with
 |error a=>rfl
 |ok x=>exact hf x rfl
theorem Onw.rem {a b:GSt} (h:Onw s a b) (ha:GOk s a):rem s b+1≤rem s a:=by
 obtain⟨⟨⟨⟨b1,b2,b3⟩,_⟩,_⟩,h2⟩:=h;have:=ha.1.1;unfold Go.Proofs.YtpeaigpfddalcaaGreatDoor.rem;omega
theorem zhg {r r':Md->GSt->GE (Tr×GSt)} (hc:∀ md st t st',GOk s st->r md st= .ok (t,st')->Cons s st st' md):∀ md st,GOk s st->(∀ md' st',GOk s st'->meas s md' st' < meas s md st->r md' st'=r' md' st')->zbp s r md st=zbp s r' md st
 | .bin i,st,h,hr=>by
  rw[zbp,zbp];split
  ·rename_i hi;exact hr _ _ h (by simp only[meas,mdF];omega)
  ·refine zby (hr _ _ h (by simp only[meas,mdF];omega)) fun⟨u,a⟩ h1=>?_;have k1:Onw s st a:=hc _ _ _ _ h h1;have:=k1.rem h;exact hr _ _ k1.1 (by simp only[meas,mdF];omega)
 | .binL i t0,st,h,hr=>by
  rw[zbp,zbp];split
  ·rename_i hi;refine zby rfl fun a h1=>?_;have k1:=zbg h (zdF hi) h1;have:=k1.rem h;refine zby (hr _ _ k1.1 (by simp only[meas,mdF];omega)) fun⟨u,b⟩ h2=>?_;have k2:Onw s a b:=hc _ _ _ _ k1.1 h2;have:=k2.rem k1.1;exact hr _ _ k2.1 (by simp only[meas,mdF];omega)
  ·rfl
 | .chain,st,h,hr=>by
  rw[zbp,zbp];refine zby (hr _ _ h (by simp only[meas,mdF];omega)) fun⟨u,a⟩ h1=>?_;have k1:Onw s st a:=hc _ _ _ _ h h1;have:=k1.rem h;exact hr _ _ k1.1 (by simp only[meas,mdF];omega)
 | .chainL t0,st,h,hr=>by
  rw[zbp,zbp];split
  ·rename_i hcl;split
   ·rfl
   ·refine zby rfl fun a h1=>?_;have k1:=zbg h (by rw[hcl];decide) h1;have e1:=k1.rem h;refine zby rfl fun⟨n,b⟩ h2=>?_;have k2:=zel k1.1 _ h2;have e2:=k2.rem k1.1;refine zby (hr _ _ k2.1 (by simp only[meas,mdF];omega)) fun⟨u,c⟩ h3=>?_;have k3:Onw s b c:=hc _ _ _ _ k2.1 h3;have e3:=k3.rem k2.1;exact hr _ _ k3.1 (by simp only[meas,mdF];omega)
   ·refine zby rfl fun a h1=>?_;have k1:=zbg h (by rw[hcl];decide) h1;have e1:=k1.rem h;refine zby rfl fun⟨n,b⟩ h2=>?_;have k2:=zel k1.1 _ h2;have e2:=k2.rem k1.1;exact hr _ _ k2.1 (by simp only[meas,mdF];omega)
  ·rfl
 | .prim,st,h,hr=>by
  rw[zbp,zbp];split
  ·rename_i hi;have k0:=zcm h (zdF hi);have:=k0.rem h;exact zby (hr _ _ k0.1 (by simp only[meas,mdF];omega)) fun _ _=>rfl
  ·rfl
theorem zlQ:∀ (k k':Nat) md st,GOk s st->meas s md st < k->meas s md st < k'->prs s k md st=prs s k' md st
 |0,_,_,_,_,hk,_=>by omega
 |_+1,0,_,_,_,_,hk=>by omega
 |k+1,k'+1,md,st,h,h1,h2=>zhg (zcQ k) md st h fun md' st' h' hlt=>zlQ k k' md' st' h' (by omega) (by omega)
theorem prs_T {k:Nat} {md:Md} {st:GSt} (h:GOk s st) (hk:meas s md st < k):prs s k md st=prsT s md st:=zlQ _ _ _ _ h hk (y9 _)
theorem zcB {md:Md} {st:GSt} (h:GOk s st):prsT s md st=zbp s (prsT s) md st:=
 zhg (zcQ _) md st h fun _ _ h' hlt=>prs_T h' hlt
theorem zdJ {md:Md} {st st':GSt} {t:Tr} (h:GOk s st) (he:prsT s md st= .ok (t,st')):Cons s st st' md:=zcQ _ _ _ _ _ h he
theorem zgO:GOk s (zh6 s):=⟨(ziV (Int.le_refl 0) (by omega)).1,Int.le_refl 0,(by decide:(0:Int)≤64)⟩
end
def rnF:List (Nat×Nat)->Nat->Nat
 | [],i=>i+100
 |(a,b)::r,i=>bif yb a i then b else rnF r i
def rnB:List (Nat×Nat)->Nat->Nat
 | [],j=>j - 100
 |(a,b)::r,j=>bif yb b j then a else rnB r j
def rnOk:List (Nat×Nat)->Bool
 | []=>true
 |(_,b)::r=>zW b 100&&r.all (fun p=>!yb p.2 b)&&rnOk r
theorem zol:∀ (L:List (Nat×Nat)) (i:Nat),(∃ p∈L,p.2=rnF L i)∨100≤rnF L i
 | [],i=>.inr (by simp only[rnF];omega)
 |(a,b)::r,i=>by
  simp only[rnF,cond_eq_ite,xc];split
  ·exact .inl ⟨(a,b),yf ..,rfl⟩
  ·rcases zol r i with ⟨p,h1,h2⟩|h
   ·exact .inl ⟨p,yy _ h1,h2⟩
   ·exact .inr h
theorem zmV:∀ (L:List (Nat×Nat)) (i:Nat),rnOk L=true->rnB L (rnF L i)=i
 | [],i,_=>by simp only[rnF,rnB];omega
 |(a,b)::r,i,h=>by
  simp only[rnOk,zf]at h;obtain⟨⟨h1,h2⟩,h3⟩:=h;have h1:b < 100:=by simpa using h1
  simp only[rnF,rnB,cond_eq_ite,xc];by_cases e:a=i
  ·rw[if_pos e,if_pos rfl,e]
  ·rw[if_neg e,if_neg]
   ·exact zmV r i h3
   ·intro e2;rcases zol r i with ⟨p,h4,h5⟩|h4
    ·have h6:=zZ.1 h2 p h4;rw[h5, <-e2]at h6;simp at h6
    ·omega
def rnV (L:List (Nat×Nat)):V->V
 |⟨.optr t,p⟩=>⟨.optr t,{ p with i:=rnF L p.i }⟩
 |⟨.obuf t,j⟩=>⟨.obuf t,rnF L j⟩
 |⟨.hptr,x⟩=>⟨.hptr,(rnF L x.1,x.2)⟩
 |⟨.cond _,_⟩=>⟨.junk,()⟩
 |⟨.hcons _ _,_⟩=>⟨.junk,()⟩
 |v=>v
def rnVs (L:List (Nat×Nat)):List V->List V
 | []=>[]
 |v::r=>rnV L v::rnVs L r
def rnFr (L:List (Nat×Nat)):List (Nat×V)->List (Nat×V)
 | []=>[]
 |(s,v)::r=>(s,rnV L v)::rnFr L r
def rnO (L:List (Nat×Nat)):OObj->OObj
 | .hbox ty vs=>.hbox ty (rnVs L vs)
 |o=>o
def rnE (L:List (Nat×Nat)):List (Nat×Option OObj)->List (Nat×Option OObj)
 | []=>[]
 |(i,some o)::r=>(rnF L i,some (rnO L o))::rnE L r
 |(i,none)::r=>(rnF L i,none)::rnE L r
section
variable {w0 w:zj} {X:Ownr} {n:Nat} {σ:AS} {β:Nat->zh} {a:Act} {L:List (Nat×Nat)}
theorem zoi (hL:rnOk L=true) {O:Nat->Prop}:∀ (v:V) {u:zh},RepV w O β v.t v.x u->RepV w O (fun j=>β (rnB L j)) (rnV L v).t (rnV L v).x u:=by
 rintro ⟨t,x⟩ u h;cases t with
 |optr t=>
  obtain⟨g,h1,h2⟩:=h;refine⟨g,?_,h2⟩;show zag (β (rnB L (rnF L x.i)))=some g;rw[zmV L _ hL];exact h1
 |obuf t=>
  have h:u=β x:=h;show u=β (rnB L (rnF L x));rw[zmV L _ hL];exact h
 |hptr=>
  obtain⟨g,h1,h2⟩:=h;refine⟨g,?_,h2⟩;show zag (β (rnB L (rnF L x.1)))=some g;rw[zmV L _ hL];exact h1
 |cond t=>trivial
 |hcons a b=>trivial
 |_=>exact h
theorem zlK (hL:rnOk L=true) {O:Nat->Prop}:∀ {vs:List V} {cs:List zh},RepH w O β vs cs->RepH w O (fun j=>β (rnB L j)) (rnVs L vs) cs
 | [],_,h=>h
 |v::r,_,⟨u,s,h1,h2,h3,h4⟩=>⟨u,s,h1,h2,zoi hL v h3,zlK hL h4⟩
theorem zoj (o:OObj):(rnO L o).isBuf=o.isBuf:=by cases o<;>rfl
theorem zqw (F:List (Nat×V)) (s:Nat):zq (rnFr L F) s=rnV L (zq F s):=by
 induction F with
 |nil=>rfl
 |cons p r ih=>
  obtain⟨d,v⟩:=p;simp only[rnFr,zat];split
  ·rfl
  ·exact ih
theorem zeZ (hL:rnOk L=true):∀ (E:List (Nat×Option OObj)) (j:Nat) (o':OObj),zm (rnE L E) j=some o'->∃ o,j=rnF L (rnB L j)∧zm E (rnB L j)=some o∧o'=rnO L o
 | [],_,_,h=>by cases h
 |(i,q)::r,j,o',h=>by
  have e:rnE L ((i,q)::r)=(rnF L i,q.map (rnO L))::rnE L r:=by cases q<;>rfl
  rw[e,zah]at h;by_cases hj:rnF L i=j
  ·rw[if_pos hj]at h;cases q with
   |none=>cases h
   |some o=>
    cases h;subst hj;rw[zmV L i hL,zah,if_pos rfl];exact⟨o,rfl,rfl,rfl⟩
  ·rw[if_neg hj]at h;obtain⟨o,h1,h2,h3⟩:=zeZ hL r j o' h;refine⟨o,h1,?_,h3⟩;rw[zah,if_neg]
   ·exact h2
   ·intro e2;rw[<-e2]at h1;exact hj h1.symm
end
def hleaf:Nat->V->Option V
 |0,⟨.hcons a _,x⟩=>some ⟨a,x.1⟩
 |k+1,⟨.hcons _ b,x⟩=>hleaf k ⟨b,x.2⟩
 |_,_=>none
def hlen:Ty->Nat
 | .hcons _ b=>hlen b+1
 |_=>0
def zr0:Ty->Bool
 | .hcons _ b=>zr0 b
 | .unit=>true
 |_=>false
theorem hcells {w:zj} {O:Nat->Prop} {β:Nat->zh}:∀ (t:Ty) (x:t.T) (u:zh),zr0 t=true->RepV w O β t x u->∃ cs:List zh,u= .agg cs.toArray∧cs.length=hlen t∧∀ k v,hleaf k ⟨t,x⟩=some v->∃ c,cs[k]? =some c∧c.oneCell'=true∧RepV w O β v.t v.x c:=by
 intro t
 induction t with
 |hcons a b _ ihb=>
  rintro x u hs ⟨c,s,rfl,hc,h1,h2⟩;obtain⟨cs,e,hl,hk⟩:=ihb x.2 _ hs h2;have e:s=cs:=by
   have:=Value.agg.inj e
   simpa using congrArg Array.toList this
  subst e;refine⟨c::s,rfl,by simp[hlen,hl],fun k v hv=>?_⟩;cases k with
  |zero=>cases hv;exact⟨c,rfl,hc,h1⟩
  |succ k=>exact hk k v hv
 |unit=>
  rintro x u _ h;obtain⟨cs,e,h⟩:∃ cs:List zh,u= .agg cs.toArray∧RepC w O .unit x cs:=(RepD.agg rfl).1 h;have h:cs=[]:=h;subst h;exact⟨[],e,rfl,fun k v hv=>by cases k<;>cases hv⟩
 |_=>intro x u h;cases h
section
variable {P:zx} {K:Kn} {w0:zj} {X:Ownr} {n:Nat} {F:List (Nat×V)} {E:Owns} {nx:Nat} {Q:Exit->AS->Prop} {ops:Array Oper}
theorem ziJ {o:Oper} {d:Nat} (hd:o.dst=some d) (hdn:zW d n=true) {v:V} (hb:v.bound≤nx) {N:AS->Prop} (h:N ⟨(d,v)::F,E,nx⟩) {β:Nat->zh} {a:Act} {w:zj} (hs:Sim w0 X n ⟨F,E,nx⟩ β a w) {u:zh} (hrun:(execOp a.eval o).run P w= .ok (.value u) w) (hr:RepV w (OSet X E β) β v.t v.x u):
  o.wp P a w (fun a' w'=>∃ σ' β',Sim w0 X n σ' β' a' w'∧N σ') (fun e a' w'=>e≠ .outgrown∧∃ σ' β',Sim w0 X n σ' β' a' w'∧Q e σ'):=by
 have hlt:d < n:=by simpa using hdn
 refine zbz (u:=u) (w':=w) hrun ?_;rw[hd];exact⟨_,β,hs.put (zV _ _) hr hb hlt,h⟩
end
structure OpEq (P:zx) (o o':Oper):Prop where
 dst:o.dst=o'.dst
 after:o.after=o'.after
 guard:o.guard=o'.guard
 run:∀ (ev:zE->zh) (w:zj),(execOp ev o).run P w=(execOp ev o').run P w
theorem OpEq.refl {P:zx} (o:Oper):OpEq P o o:=⟨rfl,rfl,rfl,fun _ _=>rfl⟩
def OpsEq (P:zx):List Oper->List Oper->Prop
 | [],[]=>True
 |o::l,o'::l'=>OpEq P o o'∧OpsEq P l l'
 |_,_=>False
inductive OpsI (P:zx):List Oper->List Oper->Prop where
 |nil:OpsI P [] []
 |cons {o o':Oper} {l l':List Oper} (h:OpEq P o o') (t:OpsI P l l'):OpsI P (o::l) (o'::l')
theorem OpsI.eq {P:zx} {l l':List Oper} (h:OpsI P l l'):OpsEq P l l':=by
 induction h with
 |nil=>trivial
 |cons h _ ih=>exact⟨h,ih⟩
theorem OpsEq.get {P:zx}:∀ {l l':List Oper},OpsEq P l l'->l.length=l'.length∧∀ (i:Nat) (o:Oper),l[i]? =some o->∃ o',l'[i]? =some o'∧OpEq P o o'
 | [],[],_=>⟨rfl,fun i o h=>by simp at h⟩
 | [],_::_,h=>h.elim
 |_::_,[],h=>h.elim
 |x::l,x'::l',⟨h1,h2⟩=>by
  obtain⟨h3,h4⟩:=h2.get;refine⟨by simp[h3],fun i o h=>?_⟩;cases i with
  |zero=>cases h;exact⟨x',rfl,h1⟩
  |succ i=>exact h4 i o (by simpa using h)
theorem OpEq.wp {P:zx} {o o':Oper} (h:OpEq P o o') {a:Act} {w:zj} {N:Act->zj->Prop} {Q:Exit->Act->zj->Prop} (hw:o'.wp P a w N Q):o.wp P a w N Q:=by
 unfold qW at hw ⊢;rw[h.run];revert hw;generalize (execOp a.eval o').run P w=x;unfold Oper.upon;rw[h.dst];exact id
section
variable {P:zx} {ops ops':Array Oper}
theorem zi6 (h:OpsEq P ops.toList ops'.toList):ops.size=ops'.size∧(∀ (i:Nat) (o:Oper),ops[i]? =some o->∃ o',ops'[i]? =some o'∧OpEq P o o')∧∀ (i:Nat) (o':Oper),ops'[i]? =some o'->∃ o,ops[i]? =some o∧OpEq P o o':=by
 obtain⟨h1,h2⟩:=h.get;have h1:ops.size=ops'.size:=h1;have h3:∀ (i:Nat) (o:Oper),ops[i]? =some o->∃ o',ops'[i]? =some o'∧OpEq P o o':=fun i o ho=>by
  obtain⟨o',h4,h5⟩:=h2 i o (by simpa using ho);exact⟨o',by simpa using h4,h5⟩
 refine⟨h1,h3,fun i o' ho'=>?_⟩;have hi:i < ops.size:=by rw[h1];exact (zo.1 ho').1
 obtain⟨o2,h4,h5⟩:=h3 i _ (yj hi);rw[ho']at h4;cases h4;exact⟨_,yj hi,h5⟩
theorem zjy (h:OpsEq P ops.toList ops'.toList) (tmps:Array zh):yielded ops tmps=yielded ops' tmps:=by
 obtain⟨_,h2,h3⟩:=zi6 h
 funext j
 unfold yielded;cases ho:ops[j]? with
 |some o=>
  obtain⟨o',h4,h5⟩:=h2 j o ho;simp only[h4,jF,h5.dst]
 |none=>
  cases ho':ops'[j]? with
  |none=>rfl
  |some o'=>
   obtain⟨o,h4,_⟩:=h3 j o' ho';rw[ho]at h4;cases h4
theorem zfV (h:OpsEq P ops.toList ops'.toList) {md:kF} {listed:Array Bool} {j:Nat}:j∈xi md ops listed↔j∈xi md ops' listed:=by
 obtain⟨_,h2,h3⟩:=zi6 h;rw[mem_ready,mem_ready];constructor
 ·rintro ⟨h4,o,h5,h6⟩;obtain⟨o',h7,h8⟩:=h2 j o h5;exact⟨h4,o',h7,fun e he=>h6 e (by rw[h8.after];exact he)⟩
 ·rintro ⟨h4,o',h5,h6⟩;obtain⟨o,h7,h8⟩:=h3 j o' h5;exact⟨h4,o,h7,fun e he=>h6 e (by rw[<-h8.after];exact he)⟩
theorem zmH (h:OpsEq P ops.toList ops'.toList) {Q:Exit->Act->zj->Prop} (hno:¬ jP Q) {md:kF}:∀ (fuel:Nat) {listed:Array Bool} {a:Act} {w:zj},wpAny P md ops' Q fuel listed a w->wpAny P md ops Q fuel listed a w:=by
 have hnil:∀ {listed:Array Bool},xi md ops listed=[]↔xi md ops' listed=[]:=fun {listed}=>by
  rw[xy,xy];exact⟨fun h1 i hi=>h1 i ((zfV h).2 hi),fun h1 i hi=>h1 i ((zfV h).1 hi)⟩
 intro fuel
 induction fuel with
 |zero=>intro listed a w hw;exact⟨hnil.2 hw.1,hw.2⟩
 |succ fuel ih=>
  intro listed a w hw;refine⟨fun h1=>hw.1 (hnil.1 h1),fun i hi=>?_⟩;have h2:=hw.2 i ((zfV h).1 hi);obtain⟨_,o,ho,_⟩:=mem_ready.1 hi;obtain⟨_,h3,_⟩:=zi6 h;obtain⟨o',h4,h5⟩:=h3 i o ho;unfold wpOp at h2 ⊢;rw[ho];rw[h4]at h2;simp only at h2 ⊢;have hw2:zI o (yielded ops a.tmps)=zI o' (yielded ops' a.tmps):=by
   rw[zjy h];unfold zI;rw[h5.guard]
  rw[hw2];split at h2
  ·rename_i hc;rw[if_pos hc];rcases h2 with h2|⟨_,h2⟩
   ·exact .inl (h5.wp (vd (fun a w h=>ih h) h2))
   ·exact absurd h2 hno
  ·rename_i hc;rw[if_neg hc,h5.dst];exact ih h2
end
section
variable {P:zx} {K:Kn} {w0:zj} {X:Ownr} {n:Nat} {σ:AS} {Q:Exit->AS->Prop} {ops:Array Oper}
theorem AL.step {o o':Oper} {rest:List Oper} (heq:OpEq P o o') (hX:X.Ok w0) (hK:KnOk P X.G K) {r:List Prop×AS} (hs:znx K n ops o' σ=some r) (hp:allP r.1) (h:AL P w0 X n ops rest r.2 Q) (hgd:o.guard=none:=by rfl) (hnd:∀ c,o.op≠ .defer c:=by intro c e;cases e):AL P w0 X n ops (o::rest) σ Q:=by
 refine AL.hand hgd hnd fun β a w hsim=>heq.wp ?_;have h1:=zgT (ops:=ops) (N:=fun a' w'=>∃ σ' β',Sim w0 X n σ' β' a' w'∧AL P w0 X n ops rest σ' Q) (R:=fun e a' w'=>e≠ .outgrown∧∃ σ' β',Sim w0 X n σ' β' a' w'∧Q e σ') hK hX hsim hs hp fun β' a' w' h2=>⟨r.2,β',h2,h⟩;have hg':o'.guard=none:=by rw[<-heq.guard];exact hgd
 simp only[zI,hg',if_true]at h1;rcases h1 with h1|⟨_,h1⟩
 ·exact h1
 ·obtain⟨_,_,h2,_⟩:=h1;exact absurd rfl h2
end
section
variable {P:zx} {ops ops':Array Oper} {d:Nat} {src:zE}
theorem zhF {a:Act} {v:zh} {x:zE} (h:x≠ .tmp d):(a.put (some d) v).eval x=a.eval x:=by
 cases x with
 |tmp t=>
  have:d≠t:=fun e=>h (by rw[e]);show (a.tmps.setIfInBounds d v).getD t undef=a.tmps.getD t undef;simp only[zJ,Array.getElem?_setIfInBounds_ne this]
 |_=>rfl
theorem zqE {a:Act} {v x:zh} {q:Option Nat} (h:q≠some d):(a.put (some d) v).put q x=(a.put q x).put (some d) v:=by
 cases q with
 |none=>rfl
 |some e=>
  have:d≠e:=fun h'=>h (by rw[h']);show ({ a with tmps:=(a.tmps.setIfInBounds d v).setIfInBounds e x }:Act)={ a with tmps:=(a.tmps.setIfInBounds e x).setIfInBounds d v };rw[kc _ _ this]
structure FlOp (P:zx) (d:Nat) (src:zE) (o o':Oper):Prop where
 dst:o.dst=o'.dst
 guard:o.guard=none
 guard':o'.guard=none
 fwd:∀ e∈o.after,e∈o'.after
 bwd:∀ e∈o'.after,e∈o.after∨e.on=0
 run:∀ (ev:zE->zh) (w:zj),(execOp ev o).run P w=(execOp ev o').run P w
 nd:o.dst≠some d
 ns:∀ t,src= .tmp t->o.dst≠some t
 sees:(∃ e∈o.after,e.on=0∧qw .any e=true)∨∀ ev ev':zE->zh,(∀ x,x≠ .tmp d->ev x=ev' x)->execOp ev o=execOp ev' o
theorem FlOp.of_eq {o o':Oper} (h:OpEq P o o') (hg:o.guard=none) (nd:o.dst≠some d) (ns:∀ t,src= .tmp t->o.dst≠some t) (sees:(∃ e∈o.after,e.on=0∧qw .any e=true)∨∀ ev ev':zE->zh,(∀ x,x≠ .tmp d->ev x=ev' x)->execOp ev o=execOp ev' o):FlOp P d src o o':=
 ⟨h.dst,hg,by rw[<-h.guard];exact hg,fun e he=>by rw[<-h.after];exact he,fun e he=>.inl (by rw[h.after];exact he),h.run,nd,ns,sees⟩
theorem FlOp.edge {o:Oper} (k:Nat) (hg:o.guard=none) (nd:o.dst≠some d) (ns:∀ t,src= .tmp t->o.dst≠some t) (sees:(∃ e∈o.after,e.on=0∧qw .any e=true)∨∀ ev ev':zE->zh,(∀ x,x≠ .tmp d->ev x=ev' x)->execOp ev o=execOp ev' o):FlOp P d src o { o with after:=o.after++ #[{ (o.after.getD k default) with on:=0 }] }:=
 ⟨rfl,hg,hg,fun e he=>uE.2 (.inl he),fun e he=>(uE.1 he).imp id fun h=>by rw[Array.mem_singleton.1 h],fun _ _=>rfl,nd,ns,sees⟩
inductive FlL (P:zx) (d:Nat) (src:zE):List Oper->List Oper->Prop where
 |nil:FlL P d src [] []
 |cons {o o':Oper} {l l':List Oper} (h:FlOp P d src o o') (t:FlL P d src l l'):FlL P d src (o::l) (o'::l')
theorem FlL.get {P:zx} {l l':List Oper} (h:FlL P d src l l'):l.length=l'.length∧(∀ (i:Nat) (o:Oper),l[i]? =some o->∃ o',l'[i]? =some o'∧FlOp P d src o o'):=by
 induction h with
 |nil=>exact⟨rfl,fun i o h=>by simp at h⟩
 |cons h _ ih=>
  obtain⟨h3,h4⟩:=ih;refine⟨by simp[h3],fun i o h'=>?_⟩;cases i with
  |zero=>cases h';exact⟨_,rfl,h⟩
  |succ i=>exact h4 i o (by simpa using h')
structure FlOk (P:zx) (d:Nat) (src:zE) (ops ops':Array Oper):Prop where
 size:ops.size=ops'.size
 zero:∃ o,ops[0]? =some o∧ops'[0]? =some o∧o.op= .move src∧o.dst=some d∧(∀ e∈o.after,False)∧o.guard=none
 rest:∀ (i:Nat) (o:Oper),i≠0->ops[i]? =some o->∃ o',ops'[i]? =some o'∧FlOp P d src o o'
theorem FlOk.of {o0:Oper} {l l':List Oper} (hops:ops.toList=o0::l) (hop:o0.op= .move src) (hd:o0.dst=some d) (haf:o0.after.toList=[]) (hg:o0.guard=none) (h:FlL P d src l l'):FlOk P d src ops (o0::l').toArray:=by
 obtain⟨h1,h2⟩:=h.get;have e:ops=(o0::l).toArray:=by rw[<-hops]
 subst e;refine⟨by simp[h1],⟨o0,by simp,by simp,hop,hd,fun e he=>?_,hg⟩,fun i o hi ho=>?_⟩
 ·have:=jA.2 he;rw[haf]at this;cases this
 ·cases i with
  |zero=>exact absurd rfl hi
  |succ i=>
   obtain⟨o',h3,h4⟩:=h2 i o (by simpa using ho);exact⟨o',by simpa using h3,h4⟩
variable {Q:Exit->Act->zj->Prop}
theorem FlOk.ready (h:FlOk P d src ops ops') {listed:Array Bool} {j:Nat} (hz:listed.getD 0 false=true):j∈xi .any ops listed↔j∈xi .any ops' listed:=by
 obtain⟨o0,e1,e2,_,_,e5,_⟩:=h.zero;rw[mem_ready,mem_ready];by_cases hj:j=0
 ·subst hj;rw[e1,e2]
 constructor
 ·rintro ⟨h4,o,h5,h6⟩;obtain⟨o',h7,h8⟩:=h.rest j o hj h5;exact⟨h4,o',h7,fun e he hb=>by
   rcases h8.bwd e he with h9|h9
   ·exact h6 e h9 hb
   ·rw[h9];exact hz⟩
 ·rintro ⟨h4,o',h5,h6⟩;have hlt:j < ops.size:=by rw[h.size];exact (zo.1 h5).1
  obtain⟨o2,h7,h8⟩:=h.rest j _ hj (yj hlt);rw[h5]at h7;cases h7;exact⟨h4,_,yj hlt,fun e he hb=>h6 e (h8.fwd e he) hb⟩
theorem zjB (h:FlOk P d src ops ops') (hno:¬ jP Q):∀ (fuel:Nat) {listed:Array Bool} {a:Act} {w:zj},listed.getD 0 false=true->wpAny P .any ops' Q fuel listed a w->wpAny P .any ops Q fuel listed a w:=by
 have hnil:∀ {listed:Array Bool},listed.getD 0 false=true->(xi .any ops listed=[]↔xi .any ops' listed=[]):=fun {listed} hz=>by
  rw[xy,xy];exact⟨fun h1 i hi=>h1 i ((h.ready hz).2 hi),fun h1 i hi=>h1 i ((h.ready hz).1 hi)⟩
 intro fuel
 induction fuel with
 |zero=>intro listed a w hz hw;exact⟨(hnil hz).2 hw.1,hw.2⟩
 |succ fuel ih=>
  intro listed a w hz hw;refine⟨fun h1=>hw.1 ((hnil hz).1 h1),fun i hi=>?_⟩;have h2:=hw.2 i ((h.ready hz).1 hi);have hi0:i≠0:=by
   rintro rfl;have h3:=getD_both (mem_ready.1 hi).1;rw[hz]at h3;cases h3
  obtain⟨_,o,ho,_⟩:=mem_ready.1 hi;obtain⟨o',h4,h5⟩:=h.rest i o hi0 ho;unfold wpOp at h2 ⊢;rw[ho];rw[h4]at h2;simp only[zI,h5.guard,h5.guard',if_true]at h2 ⊢;rcases h2 with h2|⟨_,h2⟩
  ·refine .inl ?_;have h2:=vd (fun a w hh=>ih (getD_set_true hz) hh) h2;unfold qW at h2 ⊢;rw[h5.run];revert h2;generalize (execOp a.eval o').run P w=x;unfold Oper.upon;rw[h5.dst];exact id
  ·exact absurd h2 hno
theorem zql {listed:Array Bool} {i j:Nat}:(listed.setIfInBounds i true).setIfInBounds j true=(listed.setIfInBounds j true).setIfInBounds i true:=by
 by_cases h:i=j
 ·rw[h]
 ·exact kc _ _ h
theorem znz (h:FlOk P d src ops ops') (hsd:src≠ .tmp d) (hno:¬ jP Q) (hQn:∀ e a w,Q e a w->e= .normal):∀ (fuel:Nat) {listed:Array Bool} {a:Act} {w:zj},listed.size=ops.size->listed.getD 0 true=false->wpAny P .any ops' Q fuel (listed.setIfInBounds 0 true) (a.put (some d) (a.eval src)) w->wpAny P .any ops Q (fuel+1) listed a w:=by
 obtain⟨o0,e1,e2,e3,e4,e5,e6⟩:=h.zero;have hpos:0 < ops.size:=(zo.1 e1).1;have hz1:∀ {listed:Array Bool},listed.size=ops.size->(listed.setIfInBounds 0 true).getD 0 false=true:=fun {listed} hs=>by
  simp[zJ,Array.getElem?_setIfInBounds,hs,hpos]
 intro fuel
 induction fuel with
 |zero=>
  intro listed a w hs hz hw;have h0:(0:Nat)∈xi .any ops listed:=mem_ready.2 ⟨hz,o0,e1,fun e he _=>(e5 e he).elim⟩;refine⟨fun h1=>(by rw[h1]at h0;cases h0),fun i hi=>?_⟩;by_cases hi0:i=0
  ·subst hi0;unfold wpOp;rw[e1];simp only[zI,e6,if_true];refine .inl ?_;have:(execOp a.eval o0).run P w= .ok (.value (a.eval src)) w:=by unfold execOp;rw[e3];rfl
   unfold qW;rw[this,qK,e4];exact zjB h hno _ (hz1 hs) hw
  ·have hr:=(h.ready (hz1 hs) (j:=i)).1 (mem_ready.2 (by
    obtain⟨q1,o,q2,q3⟩:=mem_ready.1 hi;refine⟨by rw[getD_set_ne _ (yT hi0)];exact q1,o,q2,fun e he hb=>?_⟩;exact getD_set_true (q3 e he hb)))
   rw[hw.1]at hr;cases hr
 |succ fuel ih=>
  intro listed a w hs hz hw;have h0:(0:Nat)∈xi .any ops listed:=mem_ready.2 ⟨hz,o0,e1,fun e he _=>(e5 e he).elim⟩;refine⟨fun h1=>(by rw[h1]at h0;cases h0),fun i hi=>?_⟩;by_cases hi0:i=0
  ·subst hi0;unfold wpOp;rw[e1];simp only[zI,e6,if_true];refine .inl ?_;have:(execOp a.eval o0).run P w= .ok (.value (a.eval src)) w:=by unfold execOp;rw[e3];rfl
   unfold qW;rw[this,qK,e4];exact zjB h hno _ (hz1 hs) hw
  ·have hr:=(h.ready (hz1 hs) (j:=i)).1 (mem_ready.2 (by
    obtain⟨q1,o,q2,q3⟩:=mem_ready.1 hi;refine⟨by rw[getD_set_ne _ (yT hi0)];exact q1,o,q2,fun e he hb=>?_⟩;exact getD_set_true (q3 e he hb)))
   have h2:=hw.2 i hr;obtain⟨q1,o,ho,q3⟩:=mem_ready.1 hi;obtain⟨o',h4,h5⟩:=h.rest i o hi0 ho;have hev:∀ x w,(execOp x o).run P w=(execOp x o').run P w:=h5.run;have hex:execOp (a.put (some d) (a.eval src)).eval o=execOp a.eval o:=by
    rcases h5.sees with ⟨e,he,h6,h7⟩|h6
    ·have:=q3 e he h7;rw[h6,getD_both hz]at this;cases this
    ·exact h6 _ _ fun x hx=>zhF hx
   have hsrc:∀ (b:Act) v,(b.put o.dst v).eval src=b.eval src:=fun b v=>by
    cases hd:o.dst with
    |none=>rfl
    |some t=>exact zhF fun e=>h5.ns t e hd
   have hput:∀ (b:Act) v x,(b.put (some d) v).put o.dst x=(b.put o.dst x).put (some d) v:=fun b v x=>zqE h5.nd;unfold wpOp at h2 ⊢;rw[ho];rw[h4]at h2;simp only[zI,h5.guard,h5.guard',if_true]at h2 ⊢;rcases h2 with h2|⟨_,h2⟩
   ·refine .inl ?_;have key:∀ (b:Act) w',wpAny P .any ops' Q fuel ((listed.setIfInBounds 0 true).setIfInBounds i true) (b.put (some d) (b.eval src)) w'->wpAny P .any ops Q (fuel+1) (listed.setIfInBounds i true) b w':=fun b w' hh=>by
     rw[zql]at hh;exact ih (by simp[hs]) (by rw[getD_set_ne _ hi0];exact hz) hh
    unfold qW at h2 ⊢;rw[<-hev,hex]at h2;revert h2;generalize (execOp a.eval o).run P w=x;unfold Oper.upon;rw[<-h5.dst];intro h2;have kp:∀ v w',wpAny P .any ops' Q fuel ((listed.setIfInBounds 0 true).setIfInBounds i true) ((a.put (some d) (a.eval src)).put o.dst v) w'->wpAny P .any ops Q (fuel+1) (listed.setIfInBounds i true) (a.put o.dst v) w':=fun v w' hh=>by
     rw[hput]at hh;exact key _ _ (by rw[hsrc];exact hh)
    cases x with
    |ok x w'=>
     cases x with
     |value v=>exact kp _ _ h2
     |skip=>exact kp _ _ h2
     |defer c=>
      have hsx:({ a with defers:=c::a.defers }:Act).eval src=a.eval src:=by cases src<;>rfl
      refine key _ _ ?_;rw[hsrc,hsx, <-hput];exact h2
     |enter f args=>
      refine Calls.mono h2 fun e w'' he=>?_;cases e with
      |returned v=>exact kp _ _ he
      |panicked c=>exact absurd (hQn _ _ _ he) (by intro hh;cases hh)
      |outgrown=>exact absurd he hno
     |row r args=>exact Rows.mono h2 fun v w'' he=>kp _ _ he
     |_=>exact h2
    |halt x w'=>
     cases x with
     |panic v=>exact absurd (hQn _ _ _ h2) (by intro hh;cases hh)
     |_=>exact h2
   ·exact absurd h2 hno
theorem zp9 (h:FlOk P d src ops ops') (hsd:src≠ .tmp d) (hno:¬ jP Q) (hQn:∀ e a w,Q e a w->e= .normal) {a:Act} {w:zj} (hw:wpAny P .any ops' Q ops'.size (zz ops'.size false) a w):wpAny P .any ops Q ops.size (zz ops.size false) a w:=by
 obtain⟨o0,e1,e2,e3,e4,e5,e6⟩:=h.zero;have hpos:0 < ops.size:=(zo.1 e1).1;rw[<-h.size]at hw;obtain⟨f,hf⟩:∃ f,ops.size=f+1:=⟨ops.size - 1,by omega⟩;have hz:(zz ops.size false).getD 0 true=false:=by simp[hpos]
 generalize hl:zz ops.size false=listed at hw hz ⊢;have hs:listed.size=ops.size:=by rw[<-hl];simp
 rw[hf]at hw ⊢;refine znz h hsd hno hQn f hs hz ?_;have h0:(0:Nat)∈xi .any ops' listed:=mem_ready.2 ⟨hz,o0,e2,fun e he _=>(e5 e he).elim⟩;have h1:=hw.2 0 h0;unfold wpOp at h1;rw[e2]at h1;simp only[zI,e6,if_true]at h1;rcases h1 with h1|⟨_,h1⟩
 ·have:(execOp a.eval o0).run P w= .ok (.value (a.eval src)) w:=by unfold execOp;rw[e3];rfl
  unfold qW at h1;rw[this,qK,e4]at h1;exact h1
 ·exact absurd h1 hno
end
section
variable {P:zx} {K:Kn} {w0:zj} {X:Ownr} {n:Nat} {σ:AS} {Q:Exit->AS->Prop} {ops:Array Oper} {d:Nat} {src:zE}
theorem AWP.drawF {o0:Oper} {l l':List Oper} (hops:ops.toList=o0::l) (hI:FlL P d src l l') (hop:o0.op= .move src) (hdd:o0.dst=some d) (haf:o0.after.toList=[]) (hg:o0.guard=none) (hsd:src≠ .tmp d) (hm:P.follows .mixedOrders=true) (hX:X.Ok w0) (hK:KnOk P X.G K) {id:Nat} (m:Nat)
  (hB:zko (o0::l').toArray m=true) {r1 r2:List Prop×AS} (h1:zib K n (o0::l').toArray ((o0::l').take m) σ=some r1) (h2:aSeq K n (o0::l').toArray ((o0::l').drop m) r1.2=some r2)
  (hp1:allP r1.1) (hp2:allP r2.1) (hq:Q .normal r2.2) (hd:zba ops.toList=true:=by rfl):AWP P w0 X n (.region id ops true) σ Q:=fun β a w h=>
 yM (wpIn_region_any hm (zbQ (R:=fun e a w=>e= .normal∧∃ β',Sim w0 X n r2.2 β' a w) zeC hd _ (
  zp9 (FlOk.of hops hop hdd haf hg hI) hsd zeC (fun _ _ _ h=>h.1) (zmq hK hX h hB h1 h2 hp1 hp2 fun β' _ _ h'=>⟨rfl,β',h'⟩)))) fun e a w ⟨he,β',h'⟩=>by
   subst he;exact⟨r2.2,β',h',hq⟩
end
section
variable {P:zx} {K:Kn} {w0:zj} {X:Ownr} {n:Nat} {F:List (Nat×V)} {E:Owns} {nx:Nat} {Q:Exit->AS->Prop} {ops:Array Oper}
theorem AL.litv {o:Oper} {rest:List Oper} (hgd:o.guard=none) (hnd:∀ c,o.op≠ .defer c) {d:Nat} (hd:o.dst=some d) (hdn:zW d n=true) (u:zh) (hrun:∀ β a w,Sim w0 X n ⟨F,E,nx⟩ β a w->(execOp a.eval o).run P w= .ok (.value u) w)
  (h:AL P w0 X n ops rest ⟨(d,⟨.lit,u⟩)::F,E,nx⟩ Q):AL P w0 X n ops (o::rest) ⟨F,E,nx⟩ Q:=
 AL.hand hgd hnd fun β a w hs=>ziJ hd hdn (v:=⟨.lit,u⟩) (zk _) (N:=fun σ'=>AL P w0 X n ops rest σ' Q) h hs (hrun β a w hs) rfl
theorem zl1 {β:Nat->zh} {a:Act} {w:zj} (hs:Sim w0 X n ⟨F,E,nx⟩ β a w) {x:zE} {u:zh} (hx:evO F x=⟨.lit,u⟩):a.eval x=u:=by
 have h1:=hs.ops x;rw[show evO (AS.mk F E nx).F x=_ from hx]at h1;exact h1
end
abbrev u8:Ty:=.int .u8
abbrev i64:Ty:=.int .i64
abbrev bs:Ty:=.slice u8
abbrev ints:Ty:=.slice i64
abbrev nd:Ty:=.pair i64 (.pair i64 (.pair i64 (.pair i64 (.pair i64 (.pair i64 (.pair ints (.pair .str .unit)))))))
abbrev tk:Ty:=.pair i64 (.pair i64 (.pair i64 (.pair .str (.pair i64 .unit))))
abbrev ps:Ty:=.pair .str (.pair tk (.pair (.slice nd) (.pair i64 .unit)))
abbrev de:Ty:=.pair .str (.pair (.slice nd) .unit)
abbrev sto:Ty:=.pair i64 (.pair i64 .unit)
abbrev gop:Ty:=.pair .str (.pair i64 .unit)
abbrev lru:Ty:=.pair i64 (.pair i64 (.pair .bool .unit))
abbrev cal:Ty:=.pair i64 (.pair ints (.pair i64 (.pair (.slice lru) .unit)))
abbrev lims:Ty:=.pair i64 (.pair i64 .unit)
abbrev shp:Ty:=.pair i64 (.pair .bool (.pair lims .unit))
abbrev rtk:Ty:=.pair i64 (.pair i64 (.pair .str (.pair i64 .unit)))
abbrev rps:Ty:=.pair .str (.pair rtk (.pair i64 (.pair i64 (.pair i64 .unit))))
abbrev mkr:Ty:=.pair ints (.pair i64 (.pair i64 (.pair i64 .unit)))
def gmT:Tbl:=[(3,i64),(4,.bool),(5,u8),(9,.str),(103,bs),(2,i64),(25,i64),(135,i64),(34,ints),(73,nd),(23,.slice nd),(24,.slice nd),(37,de),(29,.slice de),
 (137,tk),(139,ps),(133,sto),(157,gop),(158,.slice gop),(129,lru),(61,.slice lru),(63,cal),(55,.slice cal),(64,.arr 3 cal),
 (122,lims),(124,shp),(125,.arr 19 shp),(83,rtk),(85,rps),(97,mkr),(51,.slice .str),(48,.slice ints)]
def gmQ:List zn:=[122]
def gmU:UTbl:=[(103,5),(34,3),(23,73),(24,73),(29,37),(158,157),(61,129),(55,63),(51,9),(48,34)]
def gmK:Kn:={ T:=gmT,Q:=gmQ,U:=gmU,C:=[] }
set_option maxRecDepth 100000 in
theorem zhz:TOk Tryz.prog gmT gmQ:=zrG (by kernel_rfl) (by kernel_rfl)
theorem zhy:UOk Tryz.prog gmU:=zrk (by kernel_rfl)
def gmG (_:zj):Prop:=True
theorem dM:Tryz.prog.follows .mixedOrders=true:=by kernel_rfl
theorem vI64 {x y:Int} (h:x=y):(⟨i64,x⟩:V)=⟨i64,y⟩:=by rw[h]
theorem zbo {x y:Bool} (h:x=y):(⟨.bool,x⟩:V)=⟨.bool,y⟩:=by rw[h]
theorem zc6 (a b:Bool):(bif a then b else false)=(a&&b):=by cases a<;>rfl
theorem b_or (a b:Bool):(bif a then true else b)=(a||b):=by cases a<;>rfl
theorem za6 {α:Type} {l:List α} {k:Nat} {z:α} (h:k < l.length):l.getD (k:Int).toNat z=l[k]:=by
 rw[Int.toNat_natCast,List.getD_eq_getElem?_getD,List.getElem?_eq_getElem h];rfl
theorem zfH {t:Ty} {x y:t.T} (h:x=y):some (OObj.box t x)=some (OObj.box t y):=by rw[h]
theorem zaC:KnOk Tryz.prog gmG gmK:=⟨zhz,zhy,CsOk.nil,fun _ _ _ _=>trivial,RsOk.nil⟩
theorem RepV.anyβ {w:zj} {O:Nat->Prop} {β β':Nat->zh}:∀ (t:Ty) (x:t.T) (v:zh),bnd t x=0->RepV w O β t x v->RepV w O β' t x v:=by
 intro t
 induction t with
 |optr t _=>intro x v hb;cases hb
 |obuf t _=>intro x v hb;cases hb
 |hptr=>intro x v hb;cases hb
 |hcons a b iha ihb=>
  rintro x v hb ⟨u,s,h1,h2,h3,h4⟩;have hb:max (bnd a x.1) (bnd b x.2)=0:=hb;exact⟨u,s,h1,h2,iha _ _ (by omega) h3,ihb _ _ (by omega) h4⟩
 |cond t ih=>intro x v hb h;exact⟨fun hc=>ih _ _ hb (h.1 hc),h.2⟩
 |_=>intro x v hb h;exact h
theorem RepH.anyβ {w:zj} {O:Nat->Prop} {β β':Nat->zh}:∀ {vs:List V} {cs:List zh},(∀ v∈vs,v.bound=0)->RepH w O β vs cs->RepH w O β' vs cs
 | [],_,_,h=>h
 |v::r,_,hb,⟨u,s,h1,h2,h3,h4⟩=>⟨u,s,h1,h2,RepV.anyβ _ _ _ (hb v (by simp)) h3,RepH.anyβ (fun y hy=>hb y (by simp[hy])) h4⟩
def OObj.bare:OObj->Bool
 | .hbox _ vs=>vs.all fun v=>yb v.bound 0
 |_=>true
theorem OwnRep.anyβ {w:zj} {O:Nat->Prop} {β β':Nat->zh} {B:Nat} {bv:zh} {o:OObj} (hb:o.bare=true) (h:zY w O β B bv o):zY w O β' B bv o:=by
 cases o with
 |box t x=>exact h
 |buf te t xs=>exact h
 |hbox ty vs=>
  obtain⟨g,cs,e,h1,h2,h3⟩:=h;have hb:(vs.all fun v=>yb v.bound 0)=true:=hb;exact⟨g,cs,e,h1,h2,h3.anyβ fun v hv=>by have:=zZ.1 hb v hv;simpa using this⟩
theorem OObj.bare_under {o:OObj} (hb:o.bare=true) (k:Nat):o.under k:=by
 intro vs e v hv;cases o with
 |box t x=>cases e
 |buf te t xs=>cases e
 |hbox ty ws=>
  have e:ws=vs:=ya e;subst e;have hb:(ws.all fun v=>yb v.bound 0)=true:=hb;have:=zZ.1 hb v hv;have:v.bound=0:=by simpa using this
  omega
structure FCtr where
 args:List Ty
 pre:Args args->List Prop
 obj:Args args->OObj
def zmE (P:zx) (G:zj->Prop) (f:zP) (c:FCtr):Prop:=
 (∀ (zas:Array zh) (w:zj),(callFunc f zas).run P w= .ok (.enter f zas) w)∧
 ∀ (w:zj) (O:Nat->Prop) (xs:Args c.args) (vs:List zh),(∀ g,O g->g < w.heap.size)->RepA w O c.args xs vs->allP (c.pre xs)->G w->
  Calls P f vs.toArray w fun e w'=>∃ g,e= .returned (.pointer (some ⟨g,0,none⟩))∧yV w.heap.size w w'∧w.heap.size≤g∧∀ (O':Nat->Prop) (β:Nat->zh),(∀ h,O' h->O h∨h=g)->zY w' O' β 0 (.pointer (some ⟨g,0,none⟩)) (c.obj xs)
def zqG (i:Nat):OObj->V
 | .box t _=>⟨.optr t,⟨i,t,.here⟩⟩
 |_=>⟨.hptr,(i,(0:Nat))⟩
def FDone (rs:List qd) (σ:AS) (o:OObj):Prop:=∃ s i,rs=[.tmp s]∧zq σ.F s=zqG i o∧zm σ.E i=some o
section
variable {P:zx} {K:Kn} {n:Nat}
theorem zln {G:zj->Prop} (hK:KnOk P G K) {f:zP} {fn:Func} {c:Code} {ctr:FCtr} (hf:P.funcs[f]? =some fn) (hb:fn.body=some c) (hn:fn.ntmps=n)
  (hen:∀ (zas:Array zh) (w:zj),(callFunc f zas).run P w= .ok (.enter f zas) w) (hd:zaY ctr.args=true) (hlen:ctr.args.length≤n) (hbare:∀ xs,(ctr.obj xs).bare=true∧(ctr.obj xs).isBuf=false)
  (h:∀ (w0:zj) (X:Nat->Prop),(qr G X).Ok w0->∀ xs:Args ctr.args,allP (ctr.pre xs)->AWP P w0 (qr G X) n c (znl ctr.args xs) (fun e σ=>(e= .normal∨e= .ret)∧FDone fn.results.toList σ (ctr.obj xs))):zmE P G f ctr:=by
 refine⟨hen,fun w O xs vs hO hrep hp hG=>calls_of_wp hf hb ?_⟩;have hvl:=zeB _ _ _ hrep
 let X:Ownr:=qr G O
 have hXR:∀ g,¬ X.R g:=Ownr.plain_noR _ _;have hX:X.Ok w:=⟨fun g hg=>⟨hO g hg,hXR g⟩,fun g hg=>(hXR g hg).elim,fun w' hk=>hK.st w w' hG (hk.below hXR)⟩;have hsim:Sim w X n (znl ctr.args xs) (fun _=>undef) { tmps:=vs.toArray++zz (fn.ntmps - vs.toArray.size) undef,defers:=[] } w:=by
  have hE:OSet X (znl ctr.args xs).E (fun _=>undef)=O:=by
   funext g
   apply propext;constructor
   ·rintro (h|⟨i,o,h,_⟩)
    ·exact h
    ·cases h
   ·exact fun h=>.inl h
  refine⟨by simp[hn,hvl];omega,rfl,jn _ _,fun s=>?_,fun i o h=>(by cases h),fun i o g h=>(by cases h),fun i j oi oj h=>(by cases h),fun i o h=>(by cases h),⟨zk _,fun i h=>(by cases h)⟩,fun s=>?_,fun i o h=>(by cases h)⟩
  ·rw[hE];have:=zdN (β:=fun _=>undef) ctr.args xs vs [] (zu (fn.ntmps - vs.length) undef) hd hrep s;simp only[List.nil_append,zX]at this;have e:(vs.toArray++zz (fn.ntmps - vs.toArray.size) undef)=(vs++zu (fn.ntmps - vs.length) undef).toArray:=by simp
   show RepV w O _ _ _ ((vs.toArray++zz (fn.ntmps - vs.toArray.size) undef).getD s undef);rw[e];exact this
  ·show (zq (zc4 ctr.args xs 0) s).bound≤0;rw[zcO _ _ _ _ hd];exact zl _
 refine wp_mono (wpIn_wide.1 (h w O hX xs hp _ _ _ hsim)) fun e a' w' ⟨σ',β',h1,h2,s,i,hrs,hs,hi⟩=>?_;have hb:=h1.bel.below hXR;have hown:=h1.own i _ hi;obtain⟨g,hg⟩:∃ g,β' i= .pointer (some ⟨g,0,none⟩):=by
  cases ho:ctr.obj xs with
  |buf te t ys=>have:=(hbare xs).2;rw[ho]at this;cases this
  |box t x=>rw[ho]at hown;obtain⟨g,_,_,e,_⟩:=hown;exact⟨g,e⟩
  |hbox ty ys=>rw[ho]at hown;obtain⟨g,_,e,_⟩:=hown;exact⟨g,e⟩
 have hv:a'.tmps.getD s undef= .pointer (some ⟨g,0,none⟩):=by
  have hf:=h1.fr s;rw[hs]at hf;have hbg:zag (β' i)=some g:=by rw[hg];rfl
  cases ho:ctr.obj xs with
  |buf te t ys=>have:=(hbare xs).2;rw[ho]at this;cases this
  |box t x=>
   rw[ho]at hf;obtain⟨g',e1,e2⟩:=hf;have e1:zag (β' i)=some g':=e1;rw[hbg]at e1;cases e1;exact e2
  |hbox ty ys=>
   rw[ho]at hf;obtain⟨g',e1,e2⟩:=hf;have e1:zag (β' i)=some g':=e1;rw[hbg]at e1;cases e1;exact e2
 have hres:(results fn a'.tmps).run P w'= .ok (.pointer (some ⟨g,0,none⟩)) w':=by
  rw[zfR];have hm:(fn.results.mapM (resM a'.tmps)).run P w'= .ok [a'.tmps.getD s undef].toArray w':=by
   rw[jJ,hrs];simp[resM]
  rw[zC,hm,hv];simp
 have hng:w.heap.size≤g:=by
  rcases h1.new i _ g hi (by rw[hg];rfl) with h3|h3
  ·exact h3
  ·exact (hXR g h3).elim
 have hfin:∀ (O':Nat->Prop) (β:Nat->zh),(∀ h,O' h->O h∨h=g)->zY w' O' β 0 (.pointer (some ⟨g,0,none⟩)) (ctr.obj xs):=fun O' β hO'=>by
  rw[hg]at hown;refine OwnRep.anyβ (hbare xs).1 (hown.keep ⟨zl _,fun _ _ _=>rfl,fun k _ hk=>?_⟩ fun _ _=>rfl);rcases hO' k hk with h3|rfl
  ·exact .inl h3
  ·exact .inr ⟨i,_,hi,by rw[hg];rfl⟩
 rcases h2 with rfl|rfl
 ·exact⟨h1.df,_,hres,g,rfl,hb,hng,hfin⟩
 ·exact⟨h1.df,_,hres,g,rfl,hb,hng,hfin⟩
end
section
variable {P:zx} {K:Kn} {w0:zj} {X:Ownr} {n:Nat} {σ:AS} {Q:Exit->AS->Prop} {ops:Array Oper}
theorem AL.step1 {o:Oper} {rest:List Oper} (hnd:∀ c,o.op≠ .defer c) (h:StepA P w0 X n ops o σ (fun s=>AL P w0 X n ops rest s Q) Q):AL P w0 X n ops (o::rest) σ Q:=by
 intro β a w hsim;have h0:=h β a w (fun a' w'=>wpListIn (zeK X.ρ) 0 P ops (fun e a' w'=>e≠ .outgrown∧∃ σ' β',Sim w0 X n σ' β' a' w'∧Q e σ') rest a' w') (fun e a' w'=>e≠ .outgrown∧∃ σ' β',Sim w0 X n σ' β' a' w'∧Q e σ') hsim (fun σ' β' a' w' hs hN=>hN β' a' w' hs) (fun e σ' β' a' w' he hs hq=>⟨he,σ',β',hs,hq⟩);show if zI o (yielded ops a.tmps)=true then _ else _
 split at h0
 ·rename_i hw;rw[if_pos hw];rcases h0 with h0|⟨_,_,_,h0,_⟩
  ·exact zct hnd h0
  ·exact absurd rfl h0
 ·rename_i hw;rw[if_neg hw];exact⟨fun f _=>zew _ f,h0⟩
theorem StepA.fresh (hX:X.Ok w0) {o:Oper} {f:zP} {c:FCtr} (hc:zmE P X.G f c) {args:Array zE} {ts:Array zn} (ho:o.op= .call ⟨.value (.func f),args,ts⟩) {zas:List zE} (hargs:args.toList=zas) (hgd:o.guard=none)
  {F:yJ} {E:Owns} {nx:Nat} (hσ:frzs σ zas=⟨F,E,nx⟩) (hd:zaY c.args=true) {q:List Prop} {xs:Args c.args} (hav:zd6 E false (zas.map (evO F)) c.args=some (q,xs)) (hq:allP q) (hpre:allP (c.pre xs))
  (hbare:(c.obj xs).bare=true∧(c.obj xs).isBuf=false) {d:Nat} (hdst:o.dst=some d) (hdn:zW d n=true) {N:AS->Prop} (h:N ⟨(d,zqG nx (c.obj xs))::F,(nx,some (c.obj xs))::E,nx+1⟩):StepA P w0 X n ops o σ N Q:=by
 refine StepA.hand hgd fun β a w hs=>?_;have h1:=hs.frzs hX zas;rw[hσ]at h1;obtain⟨hen,hcall⟩:=hc;have hvs:RepVs w (OSet X E β) β (zas.map (evO F)) (zas.map a.eval):=by
  refine⟨by simp,fun i v hv=>?_⟩;rw[ym]at hv;obtain⟨z,hz,rfl⟩:=zG.1 hv;exact⟨a.eval z,by rw[ym,hz];rfl,h1.ops z⟩
 have ha:=zdt (B:=0) h1.own hd hav hq hvs.2 hvs.1;have ha:RepA w (OSet X E β) c.args xs (zas.map a.eval):=by
  have e:(fun k=>false=false∧OSet X E β k)=OSet X E β:=by funext k;simp
  rwa[e]at ha
 refine zgB ho hen ?_;rw[hargs];refine (hcall w _ xs _ (fun k hk=>h1.hO hX k hk) ha hpre (hX.2.2 w h1.bel)).mono fun e w' ⟨g,he,hb,hng,hown⟩=>?_;refine⟨_,he,?_⟩;have hlt:d < n:=by simpa using hdn
 rw[hdst];obtain⟨β',h2⟩:=h1.make hX hb (bv:=.pointer (some ⟨g,0,none⟩)) (o:=c.obj xs) (fun O β' hO=>hown O β' fun k hk=>(hO k hk).imp id fun e=>(ya e).symm) (fun k hk=>by
  have:g=k:=by simpa [zag] using hk
  omega) (v:=zqG nx (c.obj xs)) (u:=.pointer (some ⟨g,0,none⟩)) (fun O β' hβ=>by
   have hbg:zag (β' nx)=some g:=by rw[show β' nx=_ from hβ];rfl
   cases ho:c.obj xs with
   |buf te t ys=>have:=hbare.2;rw[ho]at this;cases this
   |box t x=>exact⟨g,hbg,rfl⟩
   |hbox ty ys=>exact⟨g,hbg,rfl⟩) (by
   cases ho:c.obj xs with
   |buf te t ys=>have:=hbare.2;rw[ho]at this;cases this
   |box t x=>exact zl _
   |hbox ty ys=>exact zl _) hlt (OObj.bare_under hbare.1 _)
 exact⟨_,β',h2,h⟩
theorem AL.fresh (hX:X.Ok w0) {o:Oper} {rest:List Oper} {f:zP} {c:FCtr} (hc:zmE P X.G f c) {args:Array zE} {ts:Array zn} (ho:o.op= .call ⟨.value (.func f),args,ts⟩) {zas:List zE} (hargs:args.toList=zas) (hgd:o.guard=none)
  {F:yJ} {E:Owns} {nx:Nat} (hσ:frzs σ zas=⟨F,E,nx⟩) (hd:zaY c.args=true) {q:List Prop} {xs:Args c.args} (hav:zd6 E false (zas.map (evO F)) c.args=some (q,xs)) (hq:allP q) (hpre:allP (c.pre xs))
  (hbare:(c.obj xs).bare=true∧(c.obj xs).isBuf=false) {d:Nat} (hdst:o.dst=some d) (hdn:zW d n=true) (h:AL P w0 X n ops rest ⟨(d,zqG nx (c.obj xs))::F,(nx,some (c.obj xs))::E,nx+1⟩ Q):AL P w0 X n ops (o::rest) σ Q:=
 AL.step1 (fun c e=>by rw[ho]at e;cases e) (StepA.fresh hX hc ho hargs hgd hσ hd hav hq hpre hbare hdst hdn h)
end
def LEnd (c:HCtr) (w w':zj) (O:Nat->Prop) (e:Ending):Except zh c.res.T->Prop
 | .ok y=>∃ v,e= .returned v∧(c.res= .unit∨zdu w' O w.heap.size none c.res y v)
 | .error pv=>e= .panicked [{ v:=pv,recovered:=false }]
def zfK (P:zx) (G:zj->Prop) (f:zP) (c:HCtr) (out:c.self.T->Args c.args->Except zh c.res.T):Prop:=
 (∀ (zas:Array zh) (w:zj),(callFunc f zas).run P w= .ok (.enter f zas) w)∧c.law∧
 ∀ (w:zj) (O:Nat->Prop) (g:Nat) (cs:List zh) (ty:zn) (x:c.self.T) (xs:Args c.args) (vs:List zh) (b:zh),(∀ h,O h->h < w.heap.size∧h≠g∧zag b≠some h)->zag b≠some g->w.heap[g]? =some (.cells cs.toArray ty (0,0))->
  RepH w (zbO O g b) (zc5 g b) (c.lv 0 1 x) cs->zY w (zbO O g b) (zc5 g b) 0 b (.buf c.te c.et (c.sl x))->RepA w (zbO O g b) c.args xs vs->allP (c.pre x xs)->c.inv w (fun h=>h=g∨zag b=some h) ty->G w->
  Calls P f (yk (some ⟨g,0,none⟩)::vs).toArray w fun e w'=>Kept (fun h=>h=g∨zag b=some h) w w'∧LEnd c w w' O e (out x xs)
def LDone (T:Tbl) (rs:List qd) (t:Ty) (e:Exit) (σ:AS):Except zh t.T->Prop
 | .ok y=>(e= .normal∨e= .ret)∧Done T rs ⟨σ.F,ze5 [] σ.E,σ.nx⟩ none t y
 | .error pv=>e= .panic [{ v:=pv,recovered:=false }]
section
variable {P:zx} {K:Kn} {n:Nat}
theorem zhs {G:zj->Prop} (hK:KnOk P G K) {f:zP} {fn:Func} {c:Code} {ctr:HCtr} {out:ctr.self.T->Args ctr.args->Except zh ctr.res.T} (hf:P.funcs[f]? =some fn) (hb:fn.body=some c) (hn:fn.ntmps=n) (hlaw:ctr.law)
  (hen:∀ (zas:Array zh) (w:zj),(callFunc f zas).run P w= .ok (.enter f zas) w) (hd:zaY ctr.args=true) (hlen:ctr.args.length+1≤n) (hst:∀ w w' R ty,ctr.inv w R ty->G w->Kept R w w'->G w')
  (h:∀ (w0:zj) (X:Ownr) (ty:zn),X.Ok w0->X.G=G->X.K=1->X.ρ=none->X.D=[]->ctr.inv w0 X.R ty->∀ (x:ctr.self.T) (xs:Args ctr.args),allP (ctr.pre x xs)->
    AWP P w0 X n c (zkm ctr ty x xs) (fun e σ=>LDone K.T fn.results.toList ctr.res e σ (out x xs))):zfK P G f ctr out:=by
 refine⟨hen,hlaw,fun w O g cs ty x xs vs b hO hgb hg hx hbuf hrep hp hinv hG=>calls_of_wp hf hb ?_⟩;obtain⟨X,hXd,hX,hXR,hsim⟩:=ztl (ctr:=ctr) (G:=G) hn hlaw hd hlen hst hO hgb hg hx hbuf hrep hinv hG;have hXX:X.X=O:=by rw[hXd]
 have hinv':ctr.inv w X.R ty:=by
  rw[show X.R=fun h=>h=g∨zag b=some h from funext fun h=>propext (hXR h)];exact hinv
 have hw:=h w X ty hX (by rw[hXd]) (by rw[hXd]) (by rw[hXd]) (by rw[hXd]) hinv' x xs hp _ _ _ hsim;rw[show X.ρ=none by rw[hXd]]at hw;refine wp_mono (wpIn_wide.1 hw) fun e a' w' ⟨σ',β',h1,h2⟩=>?_;have hbk:Kept (fun h=>h=g∨zag b=some h) w w':=⟨h1.bel.os,h1.bel.tape,h1.bel.output,h1.bel.size,fun k hk hr=>h1.bel.block k hk fun hr'=>hr ((hXR k).1 hr')⟩;have hdf:a'.defers=[]:=by rw[h1.df,hXd]
 revert h2;cases ho:out x xs with
 |error pv=>
  rintro rfl;exact⟨hdf,hbk,rfl⟩
 |ok y=>
  rintro ⟨h2,h3⟩;obtain⟨v,h4,h5⟩:=zhI (X:=X) (by rw[show X.G=G by rw[hXd]];exact hK) hX h1 [] h3 (O':=O) (fun k hk=>.inl (by rw[hXX];exact hk));rcases h2 with rfl|rfl
  ·exact⟨hdf,v,h4,hbk,v,rfl,h5⟩
  ·exact⟨hdf,v,h4,hbk,v,rfl,h5⟩
end
section
variable {P:zx} {K:Kn} {w0:zj} {X:Ownr} {n:Nat} {σ:AS} {Q:Exit->AS->Prop} {ops:Array Oper}
theorem StepA.give (hX:X.Ok w0) {o:Oper} {f:zP} {c:HCtr} {out:c.self.T->Args c.args->Except zh c.res.T} (hc:zfK P X.G f c out) {args:Array zE} {ts:Array zn} {a0:zE} {zas:List zE} (ho:o.op= .call ⟨.value (.func f),args,ts⟩) (hargs:args.toList=a0::zas) (hgd:o.guard=none)
  {F:yJ} {E:Owns} {nx:Nat} (hσ:frzs σ zas=⟨F,E,nx⟩) {i:Nat} (hev:evO F a0=⟨.hptr,(i,(0:Nat))⟩) {ty:zn} {vs:List V} (hbox:zm E i=some (.hbox ty vs)) {et:Ty} {j:Nat} (hk:vs[c.k]? =some ⟨.obuf et,j⟩) {xsl:List c.et.T} (hbuf:zm E j=some (.buf c.te c.et xsl))
  {x:c.self.T} (hun:unD c.self ((c.back i vs).set c.k ⟨.slice c.et,xsl⟩)=some (x,[])) (hd:zaY c.args=true) (hfl:c.res.resOk=true)
  {q:List Prop} {xs:Args c.args} (hav:zd6 E false (zas.map (evO F)) c.args=some (q,xs)) (hq:allP q) (hpre:allP (c.pre x xs)) (hinv:∀ w R,(∀ g,R g->w0.heap.size≤g∨X.R g)->X.G w->c.inv w R ty) {d:Nat} (hdst:o.dst=some d) (hdn:zW d n=true)
  {N:AS->Prop} (h:match out x xs with
   | .ok y=>N ⟨(d,resV c.res y)::F,(i,none)::(j,none)::E,nx⟩
   | .error pv=>Q (.panic [{ v:=pv,recovered:=false }]) ⟨F,(i,none)::(j,none)::E,nx⟩):StepA P w0 X n ops o σ N Q:=by
 refine StepA.hand hgd fun β a w hs=>?_;have h1:=hs.frzs hX zas;rw[hσ]at h1;obtain⟨hen,hlaw,hcall⟩:=hc;have hunH:unH c i vs E x:=⟨et,j,xsl,hk,hbuf,hun⟩;have hsl:xsl=c.sl x:=by
  obtain⟨et',j',k1,k2,_,_⟩:=zfc hlaw hunH;rw[hk]at k1;cases k1;rw[hbuf]at k2;cases k2;rfl
 subst hsl;have hv:=h1.ops a0;rw[show evO (AS.mk F E nx).F a0=_ from hev]at hv;obtain⟨g,hg1,hg2⟩:=hv;obtain⟨g',cs,e1,_,e3,e4⟩:=h1.own _ _ hbox;have hgg:g'=g:=by
  have hg1:zag (β i)=some g:=hg1;rw[e1]at hg1
  simpa [zag] using hg1
 subst hgg;have hij:i≠j:=fun e=>by rw[e,hbuf]at hbox;cases hbox
 have hbj:=h1.own _ _ hbuf;have hOg:OSet X E β g':=.inr ⟨_,_,hbox,by rw[e1];rfl⟩;have hgb:zag (β j)≠some g':=h1.inj i j _ _ hbox hbuf hij g' (by rw[e1];rfl);obtain⟨O,hO⟩:∃ O:Nat->Prop,O=fun k=>OSet X E β k∧k≠g'∧zag (β j)≠some k:=⟨_,rfl⟩;have hset:zbO O g' (β j)=OSet X E β:=by
  funext k
  apply propext;rw[hO];constructor
  ·rintro ((hk|rfl)|hk)
   ·exact hk.1
   ·exact hOg
   ·exact .inr ⟨j,_,hbuf,hk⟩
  ·intro hk;by_cases e:k=g'
   ·exact .inl (.inr e)
   ·by_cases e':zag (β j)=some k
    ·exact .inr e'
    ·exact .inl (.inl ⟨hk,e,e'⟩)
 have hvs:RepVs w (OSet X E β) β (zas.map (evO F)) (zas.map a.eval):=by
  refine⟨by simp,fun i v hv=>?_⟩;rw[ym]at hv;obtain⟨z,hz,rfl⟩:=zG.1 hv;exact⟨a.eval z,by rw[ym,hz];rfl,h1.ops z⟩
 have ha:=zdt (B:=0) h1.own hd hav hq hvs.2 hvs.1;have ha:RepA w (zbO O g' (β j)) c.args xs (zas.map a.eval):=by
  rw[hset];have e:(fun k=>false=false∧OSet X E β k)=OSet X E β:=by funext k;simp
  rwa[e]at ha
 have hK0:xC w w (OSet X E β) (zbO O g' (β j)):=by rw[hset];exact Keeps.refl _ _
 have hlv:RepH w (zbO O g' (β j)) (zc5 g' (β j)) (c.lv 0 1 x) cs:=RepH.toLv hlaw hK0 hunH e4 (fun j' et' hj'=>by
  rw[hk]at hj';cases hj';rfl) (by rw[e1];rfl)
 have hbuf2:zY w (zbO O g' (β j)) (zc5 g' (β j)) 0 (β j) (.buf c.te c.et (c.sl x)):=hbj.keep hK0 fun _ _=>rfl;have hOk:∀ k,O k->k < w.heap.size∧k≠g'∧zag (β j)≠some k:=fun k hk=>by
  rw[hO]at hk;exact⟨h1.hO hX k hk.1,hk.2⟩
 have hR:∀ k,(k=g'∨zag (β j)=some k)->w0.heap.size≤k∨X.R k:=fun k hk=>by
  rcases hk with rfl|hk
  ·exact h1.new _ _ k hbox (by rw[e1];rfl)
  ·exact h1.new _ _ k hbuf hk
 have hcl:=hcall w O g' cs ty x xs _ (β j) hOk hgb e3 hlv hbuf2 ha hpre (hinv w _ hR (hX.2.2 w h1.bel)) (hX.2.2 w h1.bel);have hrun:(execOp a.eval o).run P w= .ok (.enter f (yk (some ⟨g',0,none⟩)::zas.map a.eval).toArray) w:=by
  have em:args.map a.eval++ #[]=(yk (some ⟨g',0,none⟩)::zas.map a.eval).toArray:=by
   rw[<-zdk,hargs,qf,hg2];simp
  have hx:a.eval (.func f)= .func (.func f) #[] #[]:=rfl;rw[<-em];unfold execOp;simp[ho,resolve,invoke,jE,hx,hen]
 unfold qW;rw[hrun];refine hcl.mono fun e w' hr=>?_;obtain⟨hkp,hr⟩:=hr;have hl2:=h1.lose2 (w':=w') hbox hbuf ⟨hkp.os,hkp.tape,hkp.output,hkp.size,fun k hkl hn=>hkp.block k hkl fun hk=>hn (hk.elim (fun e=>.inl (by rw[e1,e];rfl)) .inr)⟩;revert hr h;cases out x xs with
 |error pv=>
  intro h;rintro rfl;exact⟨fun e=>(by cases e),_,β,hl2,h⟩
 |ok y=>
  intro h;rintro ⟨v,rfl,hres⟩;have hlt:d < n:=by simpa using hdn
  have hkp2:xC w' w' O (OSet X ((i,none)::(j,none)::E) β):=⟨zl _,fun _ _ _=>rfl,fun k _ hk2=>by
   rw[hO];rcases hk2 with hk2|⟨m,om,hm,hbm⟩
   ·have h3:=hX.1 k hk2;refine⟨.inl hk2,fun e=>?_,fun e=>?_⟩
    ·rcases hR k (.inl e) with h4|h4
     ·omega
     ·exact h3.2 h4
    ·rcases hR k (.inr e) with h4|h4
     ·omega
     ·exact h3.2 h4
   ·rw[zah,zah]at hm;by_cases him:i=m
    ·rw[if_pos him]at hm;cases hm
    ·rw[if_neg him]at hm;by_cases hjm:j=m
     ·rw[if_pos hjm]at hm;cases hm
     ·rw[if_neg hjm]at hm;refine⟨.inr ⟨m,om,hm,hbm⟩,fun e=>?_,fun e=>?_⟩
      ·exact h1.inj i m _ om hbox hm him k (by rw[e1,e];rfl) hbm
      ·exact h1.inj j m _ om hbuf hm hjm k e hbm⟩
  show ∃ σ' β',Sim w0 X n σ' β' (a.put o.dst v) w'∧_;rw[hdst];exact⟨_,β,hl2.put (zV _ _) (yE hkp2 _ _ _ (zg7 (β:=β) _ hfl hres)) (ze0 _ hfl _) hlt,h⟩
theorem AL.give (hX:X.Ok w0) {o:Oper} {rest:List Oper} {f:zP} {c:HCtr} {out:c.self.T->Args c.args->Except zh c.res.T} (hc:zfK P X.G f c out) {args:Array zE} {ts:Array zn} {a0:zE} {zas:List zE} (ho:o.op= .call ⟨.value (.func f),args,ts⟩) (hargs:args.toList=a0::zas) (hgd:o.guard=none)
  {F:yJ} {E:Owns} {nx:Nat} (hσ:frzs σ zas=⟨F,E,nx⟩) {i:Nat} (hev:evO F a0=⟨.hptr,(i,(0:Nat))⟩) {ty:zn} {vs:List V} (hbox:zm E i=some (.hbox ty vs)) {et:Ty} {j:Nat} (hk:vs[c.k]? =some ⟨.obuf et,j⟩) {xsl:List c.et.T} (hbuf:zm E j=some (.buf c.te c.et xsl))
  {x:c.self.T} (hun:unD c.self ((c.back i vs).set c.k ⟨.slice c.et,xsl⟩)=some (x,[])) (hd:zaY c.args=true) (hfl:c.res.resOk=true)
  {q:List Prop} {xs:Args c.args} (hav:zd6 E false (zas.map (evO F)) c.args=some (q,xs)) (hq:allP q) (hpre:allP (c.pre x xs)) (hinv:∀ w R,(∀ g,R g->w0.heap.size≤g∨X.R g)->X.G w->c.inv w R ty) {d:Nat} (hdst:o.dst=some d) (hdn:zW d n=true)
  (h:match out x xs with
    | .ok y=>AL P w0 X n ops rest ⟨(d,resV c.res y)::F,(i,none)::(j,none)::E,nx⟩ Q
    | .error pv=>Q (.panic [{ v:=pv,recovered:=false }]) ⟨F,(i,none)::(j,none)::E,nx⟩):AL P w0 X n ops (o::rest) σ Q:=
 AL.step1 (fun c e=>by rw[ho]at e;cases e) (StepA.give hX hc ho hargs hgd hσ hev hbox hk hbuf hun hd hfl hav hq hpre hinv hdst hdn h)
theorem zp5 {j s:Nat} {b:Bool} (hd:(ops[j]?).bind (·.dst)=some s) (hs:zq σ.F s=⟨.bool,b⟩) (hsn:zW s n=true) {β:Nat->zh} {a:Act} {w:zj} (hsim:Sim w0 X n σ β a w):yielded ops a.tmps j=some b:=by
 have hv:a.tmps.getD s undef= .bool b:=by
  have h2:=hsim.fr s;rw[hs]at h2;exact qM h2
 have hsz:s < a.tmps.size:=by rw[hsim.sz];simpa using hsn
 unfold yielded;rw[hd];have:a.tmps[s]? =some (.bool b):=by
  rw[zJ,yj hsz]at hv;rw[yj hsz];exact congrArg some hv
 simp[this]
theorem AL.guardT (j s:Nat) (b:Bool) {o:Oper} {rest:List Oper} (hg:o.guard=some (j,b)) (hd:(ops[j]?).bind (·.dst)=some s) (hs:zq σ.F s=⟨.bool,b⟩) (hsn:zW s n=true) (h:AL P w0 X n ops ({ o with guard:=none }::rest) σ Q):AL P w0 X n ops (o::rest) σ Q:=by
 intro β a w hsim;have h1:=h β a w hsim;have hy:=zp5 hd hs hsn hsim;have hw:zI o (yielded ops a.tmps)=true:=by simp[zI,hg,hy]
 have hw':zI { o with guard:=none } (yielded ops a.tmps)=true:=by simp[zI]
 show if zI o (yielded ops a.tmps)=true then _ else _
 have h1:if zI { o with guard:=none } (yielded ops a.tmps)=true then _ else _:=h1
 rw[if_pos hw']at h1;rw[if_pos hw];exact h1
theorem StepA.guardT (j s:Nat) (b:Bool) {o:Oper} {N:AS->Prop} (hg:o.guard=some (j,b)) (hd:(ops[j]?).bind (·.dst)=some s) (hs:zq σ.F s=⟨.bool,b⟩) (hsn:zW s n=true) (h:StepA P w0 X n ops { o with guard:=none } σ N Q):StepA P w0 X n ops o σ N Q:=by
 intro β a w I R hsim hI hR;have h1:=h β a w I R hsim hI hR;have hy:=zp5 hd hs hsn hsim;have hw:zI o (yielded ops a.tmps)=true:=by simp[zI,hg,hy]
 have hw':zI { o with guard:=none } (yielded ops a.tmps)=true:=by simp[zI]
 show if zI o (yielded ops a.tmps)=true then _ else _
 have h1:if zI { o with guard:=none } (yielded ops a.tmps)=true then _ else _:=h1
 rw[if_pos hw']at h1;rw[if_pos hw];exact h1
theorem AL.guardF (j s:Nat) (b:Bool) (t:Ty) (y:t.T) {o:Oper} {rest:List Oper} (hg:o.guard=some (j,b)) (hd:(ops[j]?).bind (·.dst)=some s) (hs:zq σ.F s=⟨.bool,!b⟩) (hsn:zW s n=true) {d:Nat} (hdst:o.dst=some d) (hdn:zW d n=true) (h:AL P w0 X n ops rest ⟨(d,⟨.cond t,(false,y)⟩)::σ.F,σ.E,σ.nx⟩ Q) (hb:bnd t y=0:=by rfl):AL P w0 X n ops (o::rest) σ Q:=by
 intro β a w hsim;have hy:=zp5 hd hs hsn hsim;have hw:¬ zI o (yielded ops a.tmps)=true:=by simp[zI,hg,hy]
 show if zI o (yielded ops a.tmps)=true then _ else _
 rw[if_neg hw];refine⟨fun f _=>zew _ f,?_⟩;rw[hdst];exact h _ _ _ (hsim.put (zV _ _) (v:=⟨.cond t,(false,y)⟩) ⟨fun h=>(by cases h),fun _=>rfl⟩ (by rw[show V.bound ⟨.cond t,(false,y)⟩=bnd t y from rfl,hb];exact zk _) (by simpa using hdn))
theorem StepA.guardF (j s:Nat) (b:Bool) (t:Ty) (y:t.T) {o:Oper} {N:AS->Prop} (hg:o.guard=some (j,b)) (hd:(ops[j]?).bind (·.dst)=some s) (hs:zq σ.F s=⟨.bool,!b⟩) (hsn:zW s n=true) {d:Nat} (hdst:o.dst=some d) (hdn:zW d n=true) (h:N ⟨(d,⟨.cond t,(false,y)⟩)::σ.F,σ.E,σ.nx⟩) (hb:bnd t y=0:=by rfl):StepA P w0 X n ops o σ N Q:=by
 intro β a w I R hsim hI hR;have hy:=zp5 hd hs hsn hsim;have hw:¬ zI o (yielded ops a.tmps)=true:=by simp[zI,hg,hy]
 show if zI o (yielded ops a.tmps)=true then _ else _
 rw[if_neg hw,hdst];exact hI _ β _ _ (hsim.put (zV _ _) (v:=⟨.cond t,(false,y)⟩) ⟨fun h=>(by cases h),fun _=>rfl⟩ (by rw[show V.bound ⟨.cond t,(false,y)⟩=bnd t y from rfl,hb];exact zk _) (by simpa using hdn)) h
theorem AL.ownV (hX:X.Ok w0) {o:Oper} {rest:List Oper} {f:zP} {c:HCtr} (hc:zaD P X.G f c) {y a0:zE} {args:Array zE} {ts:Array zn} (ho:o.op= .call ⟨.value y,args,ts⟩) (hargs:args= #[a0]) (hgd:o.guard=none)
  {F:yJ} {E:Owns} {nx:Nat} (hy:evO F y=⟨.lit,.func (.func f) #[] #[]⟩)
  {i:Nat} (hev:evO F a0=⟨.hptr,(i,(0:Nat))⟩) {ty:zn} {vs:List V} (hbox:zm E i=some (.hbox ty vs)) {et:Ty} {j:Nat} (hk:vs[c.k]? =some ⟨.obuf et,j⟩) {xsl:List c.et.T} (hbuf:zm E j=some (.buf c.te c.et xsl))
  {x:c.self.T} (hun:unD c.self ((c.back i vs).set c.k ⟨.slice c.et,xsl⟩)=some (x,[])) (hd:zaY c.args=true) (hfl:c.res.resOk=true)
  {q:List Prop} {xs:Args c.args} (hav:zd6 E false [] c.args=some (q,xs)) (hq:allP q) (hpre:allP (c.pre x xs)) (hinv:∀ w R,(∀ g,R g->w0.heap.size≤g∨X.R g)->X.G w->c.inv w R ty) {F':c.res.T->yJ} (hput:∀ y,putD n o.dst (resV c.res y) (xh j F)=some (F' y))
  (h:zlD (fun y x'=>AL P w0 X n ops rest ⟨F' y,(i,some (.hbox ty (c.lv i j x')))::(j,some (.buf c.te c.et (c.sl x')))::yi j E,nx⟩ Q) (fun pv=>Q (.panic [{ v:=pv,recovered:=false }]) ⟨F,(i,none)::(j,none)::E,nx⟩) (c.out x xs)):AL P w0 X n ops (o::rest) ⟨F,E,nx⟩ Q:=
 AL.hand hgd (fun c e=>by rw[ho]at e;cases e) (zkq hX hc (a0:=a0) (zas:=[]) (fun β a w hs hen=>by
  have h1:a.eval y= .func (.func f) #[] #[]:=by
   have h1:=hs.ops y;rw[show evO (frzs ⟨F,E,nx⟩ []).F y=_ from hy]at h1;exact h1
  unfold execOp;simp[ho,hargs,resolve,invoke,jE,h1,hen]) rfl hev hbox hk hbuf hun hd hfl hav hq hpre hinv hput (N:=fun σ'=>AL P w0 X n ops rest σ' Q) h)
theorem ziW {t kt et:zn} {kd:ji} (hu:P.underlying t=some (.map kt et)) (hk:P.underlying kt=some kd) (hp:zcR kd=true) {w:zj} {r ck:Nat} {ms:Array km} (h:w.heap[r]? =some (.map ms ck)) {key v:zh}
  (hf:zfz kd key (ms.toList.map fun e=>(e.key,e.val))=some (some v)):(kx t (.map (some r)) key true).run P w= .ok (.tuple #[v,.bool true]) w:=by
 rw[<-zfA kd key ms.toList 0]at hf;obtain⟨o,ho,hf⟩:=zG.1 hf;obtain⟨⟨i,v'⟩,rfl,rfl⟩:=zG.1 hf;simp[kx,kS,run_underlying hu,run_underlying hk,zfP h,zef _ hk hp,ho]
theorem zg3 {t kt et:zn} {kd:ji} (hu:P.underlying t=some (.map kt et)) (hk:P.underlying kt=some kd) (hp:zcR kd=true) {w:zj} {r ck:Nat} {ms:Array km} (h:w.heap[r]? =some (.map ms ck)) {key z:zh}
  (hf:zfz kd key (ms.toList.map fun e=>(e.key,e.val))=some none) (hz:(zeroValue et).run P w= .ok z w):(kx t (.map (some r)) key true).run P w= .ok (.tuple #[z,.bool false]) w:=by
 rw[<-zfA kd key ms.toList 0]at hf;obtain⟨o,ho,hf⟩:=zG.1 hf;cases o with
 |some x=>cases hf
 |none=>simp[kx,kS,run_underlying hu,run_underlying hk,zfP h,zef _ hk hp,ho,hz]
theorem zoS {t kt et:zn} {kd:ji} (hu:P.underlying t=some (.map kt et)) (hk:P.underlying kt=some kd) (hp:zcR kd=true) {o:Oper} {m k:zE} {d:Nat} {es:List (zh×zh)} {key z:zh} (ho:o.op= .lookup t m k true) (hdst:o.dst=some d) (hd:zW d n=true)
  (hm:evO σ.F m=⟨.mapL,es⟩) (hkey:∀ β a w,Sim w0 X n σ β a w->a.eval k=key) (hz:∀ w,(zeroValue et).run P w= .ok z w) {r:Option zh} (hf:zfz kd key es=some r) {N:AS->Prop} (h:N ⟨(d,⟨.lit,.tuple #[r.getD z,.bool r.isSome]⟩)::σ.F,σ.E,σ.nx⟩)
  (β:Nat->zh) (a:Act) (w:zj) (hs:Sim w0 X n σ β a w):o.wp P a w (fun a' w'=>∃ σ' β',Sim w0 X n σ' β' a' w'∧N σ') (fun e a' w'=>e≠ .outgrown∧∃ σ' β',Sim w0 X n σ' β' a' w'∧Q e σ'):=by
 have hd':d < n:=by simpa using hd
 have h1:=hs.ops m;rw[hm]at h1;obtain⟨r0,ms,ck,h2,_,_,h3,h4⟩:=h1;refine zbz (u:=.tuple #[r.getD z,.bool r.isSome]) (w':=w) ?_ ?_
 ·unfold execOp;simp only[ho];rw[h2,hkey β a w hs];cases r with
  |some v=>exact zdH (ziW hu hk hp h3 (by rw[h4];exact hf))
  |none=>exact zdH (zg3 hu hk hp h3 (by rw[h4];exact hf) (hz w))
 ·rw[hdst];exact⟨_,β,hs.put (zV _ _) (v:=⟨.lit,.tuple #[r.getD z,.bool r.isSome]⟩) rfl (zk _) hd',h⟩
theorem zpy {o:Oper} {x:zE} {d:Nat} {v b:zh} (ho:o.op= .extract x 0) (hdst:o.dst=some d) (hd:zW d n=true) (hx:evO σ.F x=⟨.lit,.tuple #[v,b]⟩) {N:AS->Prop} (h:N ⟨(d,⟨.lit,v⟩)::σ.F,σ.E,σ.nx⟩)
  (β:Nat->zh) (a:Act) (w:zj) (hs:Sim w0 X n σ β a w):o.wp P a w (fun a' w'=>∃ σ' β',Sim w0 X n σ' β' a' w'∧N σ') (fun e a' w'=>e≠ .outgrown∧∃ σ' β',Sim w0 X n σ' β' a' w'∧Q e σ'):=by
 have hd':d < n:=by simpa using hd
 have hv:a.eval x= .tuple #[v,b]:=by
  have h5:=hs.ops x;rw[hx]at h5;exact h5
 refine zbz (u:=v) (w':=w) ?_ ?_
 ·unfold execOp;simp only[ho,hv];exact zdH (by simp[Instr.extract])
 ·rw[hdst];exact⟨_,β,hs.put (zV _ _) (v:=⟨.lit,v⟩) rfl (zk _) hd',h⟩
theorem zpx {o:Oper} {x:zE} {d:Nat} {v:zh} {b:Bool} (ho:o.op= .extract x 1) (hdst:o.dst=some d) (hd:zW d n=true) (hx:evO σ.F x=⟨.lit,.tuple #[v,.bool b]⟩) {N:AS->Prop} (h:N ⟨(d,⟨.bool,b⟩)::σ.F,σ.E,σ.nx⟩)
  (β:Nat->zh) (a:Act) (w:zj) (hs:Sim w0 X n σ β a w):o.wp P a w (fun a' w'=>∃ σ' β',Sim w0 X n σ' β' a' w'∧N σ') (fun e a' w'=>e≠ .outgrown∧∃ σ' β',Sim w0 X n σ' β' a' w'∧Q e σ'):=by
 have hd':d < n:=by simpa using hd
 have hv:a.eval x= .tuple #[v,.bool b]:=by
  have h5:=hs.ops x;rw[hx]at h5;exact h5
 refine zbz (u:=.bool b) (w':=w) ?_ ?_
 ·unfold execOp;simp only[ho,hv];exact zdH (by simp[Instr.extract])
 ·rw[hdst];exact⟨_,β,hs.put (zV _ _) (v:=⟨.bool,b⟩) RepV.ofBool (zk _) hd',h⟩
theorem AL.look2 {t kt et:zn} {kd:ji} (hu:P.underlying t=some (.map kt et)) (hk:P.underlying kt=some kd) (hp:zcR kd=true) {o:Oper} {rest:List Oper} {m k:zE} {d:Nat} {es:List (zh×zh)} {key z:zh} (ho:o.op= .lookup t m k true) (hg:o.guard=none) (hdst:o.dst=some d) (hd:zW d n=true)
  (hm:evO σ.F m=⟨.mapL,es⟩) (hkey:∀ β a w,Sim w0 X n σ β a w->a.eval k=key) (hz:∀ w,(zeroValue et).run P w= .ok z w) {r:Option zh} (hf:zfz kd key es=some r) (h:AL P w0 X n ops rest ⟨(d,⟨.lit,.tuple #[r.getD z,.bool r.isSome]⟩)::σ.F,σ.E,σ.nx⟩ Q):AL P w0 X n ops (o::rest) σ Q:=
 AL.hand hg (fun c e'=>by rw[ho]at e';cases e') (zoS hu hk hp ho hdst hd hm hkey hz hf (N:=fun σ'=>AL P w0 X n ops rest σ' Q) h)
theorem AL.ext0 {o:Oper} {rest:List Oper} {x:zE} {d:Nat} {v b:zh} (ho:o.op= .extract x 0) (hg:o.guard=none) (hdst:o.dst=some d) (hd:zW d n=true) (hx:evO σ.F x=⟨.lit,.tuple #[v,b]⟩) (h:AL P w0 X n ops rest ⟨(d,⟨.lit,v⟩)::σ.F,σ.E,σ.nx⟩ Q):AL P w0 X n ops (o::rest) σ Q:=
 AL.hand hg (fun c e'=>by rw[ho]at e';cases e') (zpy ho hdst hd hx (N:=fun σ'=>AL P w0 X n ops rest σ' Q) h)
theorem AL.ext1 {o:Oper} {rest:List Oper} {x:zE} {d:Nat} {v:zh} {b:Bool} (ho:o.op= .extract x 1) (hg:o.guard=none) (hdst:o.dst=some d) (hd:zW d n=true) (hx:evO σ.F x=⟨.lit,.tuple #[v,.bool b]⟩) (h:AL P w0 X n ops rest ⟨(d,⟨.bool,b⟩)::σ.F,σ.E,σ.nx⟩ Q):AL P w0 X n ops (o::rest) σ Q:=
 AL.hand hg (fun c e'=>by rw[ho]at e';cases e') (zpx ho hdst hd hx (N:=fun σ'=>AL P w0 X n ops rest σ' Q) h)
end
theorem AWP.via {P:zx} {w0:zj} {X:Ownr} {n:Nat} {σ:AS} {Q:Exit->AS->Prop} {c d:Code} {σ':AS} (h1:AWP P w0 X n c σ (zjL (fun s=>Fit s σ') Q)) (h2:AWP P w0 X n d σ' Q) (hk:X.K≤σ'.nx:=by exact zb rfl):AWP P w0 X n (.seq c d) σ Q:=
 zae <| AWP.mono h1 fun e s h=>by
  cases e with
  |normal=>exact zap h h2 hk
  |_=>exact h
theorem AWP.viaQ {P:zx} {w0:zj} {X:Ownr} {n:Nat} {σ:AS} {Q:Exit->AS->Prop} {c d:Code} {σ':AS} (h1:AWP P w0 X n c σ (zjL (fun s=>Fit s σ') Q)) (h2:AWP P w0 X n d σ' Q) (hk:X.K≤σ'.nx:=by exact zb rfl):AWP P w0 X n c σ (zjL (fun s=>AWP P w0 X n d s Q) Q):=
 AWP.mono h1 fun e s h=>by
  cases e with
  |normal=>exact zap h h2 hk
  |_=>exact h
theorem ztp:Tryz.prog.globalNamed "internal/strconv.uint64pow10"=some 5:=by kernel_rfl
def gmH (w:zj):Prop:=Lib.TabIs Tryz.prog w "internal/strconv.uint64pow10" .u64 Lib.pow10Tab∧∃ ev,w.cell? ⟨4,0,none⟩=some ev∧(ev= .nilIface∨∃ te pe,ev= .iface te pe)
theorem zmg {w:zj} (h:gmH w):5 < w.heap.size∧4 < w.heap.size:=by
 obtain⟨ht,ev,hc,_⟩:=h;have hl:∀ g:Nat,(∃ o:Obj,w.heap[g]? =some o)->g < w.heap.size:=fun g ⟨o,ho⟩=>(zo.1 ho).1;refine⟨hl _ ?_,hl _ ?_⟩
 ·unfold Lib.TabIs World.var? at ht;rw[ztp]at ht;simp only[jF]at ht;cases ho:w.heap[5]? with
  |none=>rw[ho]at ht;cases ht
  |some o=>exact⟨o,rfl⟩
 ·unfold xo at hc;cases ho:w.heap[4]? with
  |none=>simp[ho]at hc
  |some o=>exact⟨o,rfl⟩
theorem zmh {R:Nat->Prop} {w w':zj} (h1:¬ R 5) (h2:¬ R 4) (h:gmH w) (hk:Kept R w w'):gmH w':=by
 obtain⟨l1,l2⟩:=zmg h;obtain⟨ht,ev,hc,hev⟩:=h;refine⟨?_,ev,?_,hev⟩
 ·unfold Lib.TabIs World.var? at *;rw[ztp]at *;simp only[jF]at *;rw[hk.block _ l1 h1];exact ht
 ·unfold xo at *;rw[hk.block _ l2 h2];exact hc
theorem ziB (w w':zj) (h:gmH w) (hb:yV w.heap.size w w'):gmH w':=zmh (R:=fun _=>False) (fun h=>h) (fun h=>h) h ⟨hb.os,hb.tape,hb.output,hb.size,fun k hk _=>hb.block k hk⟩
theorem zaj:KnOk Tryz.prog gmH gmK:=⟨zhz,zhy,CsOk.nil,ziB,RsOk.nil⟩
def ginv (_:zj) (R:Nat->Prop) (_:zn):Prop:=¬ R 5∧¬ R 4
theorem zaU:∀ w w' R (ty:zn),ginv w R ty->gmH w->Kept R w w'->gmH w':=fun _ _ _ _ h hg hk=>zmh h.1 h.2 hg hk
theorem zaJ {w0:zj} {X:Ownr} {ty:zn} (hX:X.Ok w0) (hG:X.G=gmH) (hi:ginv w0 X.R ty) {ty':zn}:∀ w R,(∀ g,R g->w0.heap.size≤g∨X.R g)->X.G w->ginv w R ty':=fun w R hR _=>by
 have h0:gmH w0:=by have:=hX.2.2 w0 (jn _ _);rwa[hG]at this
 obtain⟨l1,l2⟩:=zmg h0;refine⟨fun h=>?_,fun h=>?_⟩
 ·rcases hR _ h with h1|h1
  ·omega
  ·exact hi.1 h1
 ·rcases hR _ h with h1|h1
  ·omega
  ·exact hi.2 h1
theorem CtrOk.lift {f:zP} {c:Ctr} (h:yK Tryz.prog gmG f c):yK Tryz.prog gmH f c:=⟨h.1,fun w O xs vs hO hr hp _=>h.2 w O xs vs hO hr hp trivial⟩
theorem zcs (a b:Bool):(bif a then b else false)=(a&&b):=by cases a<;>rfl
theorem zhN (a b:Bool):(bif a then true else b)=(a||b):=by cases a<;>rfl
theorem u8eq (a b:UInt8):(((a.toNat:Nat):Int)==((b.toNat:Nat):Int))=(a==b):=by
 rw[Bool.eq_iff_iff,beq_iff_eq,beq_iff_eq, <-UInt8.toNat_inj];omega
theorem u8le (a b:UInt8):decide (((a.toNat:Nat):Int)≤((b.toNat:Nat):Int))=decide (a≤b):=by
 rw[Bool.eq_iff_iff,decide_eq_true_iff,decide_eq_true_iff,UInt8.le_iff_toNat_le];omega
def cLt:Ctr:={ args:=[u8],pre:=fun _=>[],res:=.bool,own:=none,out:=fun x=>isLt x.1 }
theorem zpf:yK Tryz.prog gmG 111 cLt:=by
 refine zaq (K:=gmK) zaC Tryz.func111 rfl rfl Tryz.call111 rfl (by decide) (by intro h;cases h) ?_;rintro w0 X hX ⟨(c:UInt8),_⟩ hp;change AWP _ _ _ _ _ ⟨[(0,⟨u8,c⟩)],[],0⟩ _;(repeat(first|apply zae|apply zab|apply zal|apply zad|apply zac|refine zaa hX zaC rfl trivial ?_|refine zaa hX zaC rfl id ?_|refine zaa hX zaC rfl ⟨id,id⟩ ?_));refine AWP.go (AWP.go ?_);refine zaa hX zaC rfl ?_ ?_
 ·repeat'(first|exact trivial|assumption|(refine⟨?_,?_⟩)|(intro _)|exact zb rfl|exact zi _|(simp_all [allP];done))
 refine AWP.ret ⟨.inr rfl,zaw rfl trivial rfl rfl ?_⟩;show (bif decide ((((97:UInt8).toNat:Nat):Int)≤(((c|||32:UInt8).toNat:Nat):Int)) then decide ((((c|||32:UInt8).toNat:Nat):Int)≤(((122:UInt8).toNat:Nat):Int)) else false)=isLt c;simp only[zcs,u8le];rfl
def cDg:Ctr:={ args:=[u8],pre:=fun _=>[],res:=.bool,own:=none,out:=fun x=>isDg x.1 }
theorem zpg:yK Tryz.prog gmG 113 cDg:=by
 refine zaq (K:=gmK) zaC Tryz.func113 rfl rfl Tryz.call113 rfl (by decide) (by intro h;cases h) ?_;rintro w0 X hX ⟨(c:UInt8),_⟩ hp;change AWP _ _ _ _ _ ⟨[(0,⟨u8,c⟩)],[],0⟩ _;(repeat(first|apply zae|apply zab|apply zal|apply zad|apply zac|refine zaa hX zaC rfl trivial ?_|refine zaa hX zaC rfl id ?_|refine zaa hX zaC rfl ⟨id,id⟩ ?_));refine AWP.ret ⟨.inr rfl,zaw rfl trivial rfl rfl ?_⟩;show (bif decide ((((48:UInt8).toNat:Nat):Int)≤(((c:UInt8).toNat:Nat):Int)) then decide ((((c:UInt8).toNat:Nat):Int)≤(((57:UInt8).toNat:Nat):Int)) else false)=isDg c;simp only[zcs,u8le];rfl
def cWh:Ctr:={ args:=[u8],pre:=fun _=>[],res:=.bool,own:=none,out:=fun x=>isWh x.1 }
theorem ztd:yK Tryz.prog gmG 53 cWh:=by
 refine zaq (K:=gmK) zaC Tryz.func53 rfl rfl Tryz.call53 rfl (by decide) (by intro h;cases h) ?_;rintro w0 X hX ⟨(c:UInt8),_⟩ hp;change AWP _ _ _ _ _ ⟨[(0,⟨u8,c⟩)],[],0⟩ _;(repeat(first|apply zae|apply zab|apply zal|apply zad|apply zac|refine zaa hX zaC rfl trivial ?_|refine zaa hX zaC rfl id ?_|refine zaa hX zaC rfl ⟨id,id⟩ ?_));refine AWP.go (AWP.go ?_);refine zaa hX zaC rfl ?_ ?_
 ·repeat'(first|exact trivial|assumption|(refine⟨?_,?_⟩)|(intro _)|exact zb rfl|exact zi _|(simp_all [allP];done))
 refine AWP.ret ⟨.inr rfl,zaw rfl trivial rfl rfl ?_⟩;show (bif (bif (bif (((c.toNat:Nat):Int)==(((32:UInt8).toNat:Nat):Int)) then true else (((c.toNat:Nat):Int)==(((9:UInt8).toNat:Nat):Int))) then true else (((c.toNat:Nat):Int)==(((10:UInt8).toNat:Nat):Int))) then true else (((c.toNat:Nat):Int)==(((13:UInt8).toNat:Nat):Int)))=isWh c;simp only[zhN,u8eq];rfl
def kTok1:Kn:={ gmK with C:=[(111,cLt),(113,cDg)] }
theorem zfu:KnOk Tryz.prog gmG kTok1:=zaC.with (.cons zpf <| .cons zpg .nil)
def cPt:Ctr:={ args:=[u8],pre:=fun _=>[],res:=.bool,own:=none,out:=fun x=>isPt x.1 }
theorem zte:yK Tryz.prog gmG 112 cPt:=by
 refine zaq (K:=kTok1) zfu Tryz.func112 rfl rfl Tryz.call112 rfl (by decide) (by intro h;cases h) ?_;rintro w0 X hX ⟨(c:UInt8),_⟩ hp;change AWP _ _ _ _ _ ⟨[(0,⟨u8,c⟩)],[],0⟩ _;(repeat(first|apply zae|apply zab|apply zal|apply zad|apply zac|refine zaa hX zfu rfl trivial ?_|refine zaa hX zfu rfl id ?_|refine zaa hX zfu rfl ⟨id,id⟩ ?_));refine AWP.go (AWP.go ?_);refine zaa hX zfu rfl ?_ ?_
 ·repeat'(first|exact trivial|assumption|(refine⟨?_,?_⟩)|(intro _)|exact zb rfl|exact zi _|(simp_all [allP];done))
 refine AWP.ret ⟨.inr rfl,zaw rfl trivial rfl rfl ?_⟩;show (bif (bif isLt c then true else isDg c) then true else (((c.toNat:Nat):Int)==(((45:UInt8).toNat:Nat):Int)))=isPt c;simp only[zhN,u8eq];rfl
def ztW (p:UInt8->Bool):Ctr:={ args:=[u8],pre:=fun _=>[],res:=.bool,own:=none,out:=fun x=>p x.1 }
def zlw (f:zP) (p:UInt8->Bool):Ctr:={ args:=[.str,.lit],pre:=fun x=>[x.2.1= .func (.func f) #[] #[]],res:=i64,own:=none,out:=fun x=>((zbF p x.1:Nat):Int) }
theorem zeA {p:UInt8->Bool} {s:List UInt8} {k:Nat} (hk:k≤s.length) (h1:∀ j (hj:j < s.length),j < k->p s[j]=true) (h2:∀ h:k < s.length,p s[k]=false):zbF p s=k:=by
 unfold zbF;have e:s=s.take k++s.drop k:=(x9 k s).symm;rw[e,List.takeWhile_append_of_pos]
 ·have:(s.drop k).takeWhile p=[]:=by
   by_cases h:k < s.length
   ·rw[List.drop_eq_getElem_cons h,List.takeWhile_cons,h2 h];rfl
   ·rw[List.drop_of_length_le (by omega)];rfl
  rw[this,zL,yB];omega
 ·intro x hx;obtain⟨j,hj,rfl⟩:=List.mem_iff_getElem.1 hx;rw[yB]at hj;rw[List.getElem_take];exact h1 j (by omega) (by omega)
def kSpWh:Kn:={ gmK with C:=[(53,ztW isWh)] }
theorem zbX:KnOk Tryz.prog gmG kSpWh:=zaC.with (.cons ztd .nil)
theorem zjP:yK Tryz.prog gmG 52 (zlw 53 isWh):=by
 refine zaq (K:=kSpWh) zbX Tryz.func52 rfl rfl Tryz.call52 rfl (by decide) (by intro h;cases h) ?_;rintro w0 X hX ⟨(s:List UInt8),(g:zh),_⟩ hp;obtain rfl:g= .func (.func 53) #[] #[]:=hp;change AWP _ _ _ _ _ ⟨[(0,⟨.str,s⟩),(1,⟨.lit,.func (.func 53) #[] #[]⟩)],[],0⟩ _;refine AWP.slen 0 rfl fun hl=>?_;unfold maxLen at hl;(repeat(first|apply zae|apply zab|apply zal|apply zad|apply zac|refine zaa hX zbX rfl trivial ?_|refine zaa hX zbX rfl id ?_|refine zaa hX zbX rfl ⟨id,id⟩ ?_));refine AWP.loop (ι:=Nat) (fun k=>⟨[(0,⟨.str,s⟩),(1,⟨.lit,.func (.func 53) #[] #[]⟩),(5,⟨i64,(k:Int)⟩)],[],0⟩) (fun k=>k≤s.length∧∀ j (hj:j < s.length),j < k->isWh s[j]=true) (fun k=>s.length - k) 0 ⟨by omega,fun j _ h=>by omega⟩ ⟨⟨rfl,rfl,rfl,trivial⟩,trivial,rfl,rfl⟩ ?_;rintro k ⟨hk,hall⟩;(repeat(first|apply zae|apply zab|apply zac|apply zad));refine zai ?_;refine AL.take 5 hX zbX rfl trivial ?_;by_cases hlt:k < s.length
 ·refine AL.fit (σ':=⟨[(0,⟨.str,s⟩),(1,⟨.lit,.func (.func 53) #[] #[]⟩),(5,⟨i64,(k:Int)⟩),(10,⟨.bool,true⟩)],[],0⟩) ⟨⟨rfl,rfl,rfl,zbo (decide_eq_true (by omega)),trivial⟩,trivial,rfl,rfl⟩ ?_;have n0:(0:Int)≤(k:Int):=by omega
  have n1:(k:Int) < ((s.length:Nat):Int):=by omega
  refine AL.all hX zbX rfl ?_ ?_
  ·exact⟨fun _=>⟨rfl,rfl,n0,n1⟩,fun _=>rfl,fun _=>rfl⟩
  refine zaf rfl (fun hb=>?_) (fun hb=>?_)
  ·have hb:isWh (s.getD (k:Int).toNat 0)=true:=hb;rw[za6 hlt]at hb;apply zab;refine AWP.go (AWP.go ?_);refine zaa hX zbX rfl ?_ ?_
   ·exact za0 (by omega)
   refine⟨k+1,⟨by omega,fun j hj hjk=>?_⟩,by omega,⟨rfl,rfl,zdT _,trivial⟩,trivial,rfl,rfl⟩;by_cases e:j=k
   ·subst e;exact hb
   ·exact hall j hj (by omega)
  ·have hb:isWh (s.getD (k:Int).toNat 0)=false:=hb;rw[za6 hlt]at hb;(repeat(first|apply zae|apply zab|apply zal|apply zad|apply zac|refine zaa hX zbX rfl trivial ?_|refine zaa hX zbX rfl id ?_|refine zaa hX zbX rfl ⟨id,id⟩ ?_));refine AWP.ret ⟨.inr rfl,zaw rfl trivial rfl rfl ?_⟩;show (k:Int)=((zbF isWh s:Nat):Int);rw[zeA hk hall fun _=>hb]
 ·refine AL.fit (σ':=⟨[(0,⟨.str,s⟩),(1,⟨.lit,.func (.func 53) #[] #[]⟩),(5,⟨i64,(k:Int)⟩),(10,⟨.bool,false⟩)],[],0⟩) ⟨⟨rfl,rfl,rfl,zbo (decide_eq_false (by omega)),trivial⟩,trivial,rfl,rfl⟩ ?_;refine AL.guardF 4 10 true .bool false rfl rfl rfl rfl rfl rfl ?_;refine AL.guardF 4 10 true .bool false rfl rfl rfl rfl rfl rfl ?_;refine AL.guardF 4 10 true .bool false rfl rfl rfl rfl rfl rfl ?_;refine AL.guardF 4 10 true .bool false rfl rfl rfl rfl rfl rfl ?_;refine AL.guardF 4 10 true .bool false rfl rfl rfl rfl rfl rfl ?_;refine AL.all hX zbX rfl id ?_;refine zaf rfl (fun hb=>absurd (show false=true from hb) (by decide)) (fun _=>?_);(repeat(first|apply zae|apply zab|apply zal|apply zad|apply zac|refine zaa hX zbX rfl trivial ?_|refine zaa hX zbX rfl id ?_|refine zaa hX zbX rfl ⟨id,id⟩ ?_));refine AWP.ret ⟨.inr rfl,zaw rfl trivial rfl rfl ?_⟩;show (k:Int)=((zbF isWh s:Nat):Int);rw[zeA hk hall fun h=>absurd h hlt]
def kSpDg:Kn:={ gmK with C:=[(113,ztW isDg)] }
theorem zbZ:KnOk Tryz.prog gmG kSpDg:=zaC.with (.cons zpg .nil)
end Go.Proofs.YtpeaigpfddalcaaGreatDoor
