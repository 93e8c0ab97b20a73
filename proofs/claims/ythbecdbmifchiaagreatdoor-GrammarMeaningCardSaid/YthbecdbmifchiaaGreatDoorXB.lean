/-
  Texts of this claim, joined: what the statement's proof uses.
-/
import Derived.Test.YthbecdbmifchiaaGreatDoorXA
set_option linter.unusedSimpArgs false
set_option linter.unusedVariables false
set_option maxRecDepth 100000
open Array renaming all_eq_true_iff_forall_mem -> uk,getD -> vm,getD_eq_getD_getElem? -> zO,getElem?_eq_getElem -> qo,getElem?_eq_some_iff -> zl,mapM_eq_mapM_toList -> wG,mem_append -> pH,mem_toList_iff -> gW,replicate -> zD,toList_push -> wT
open Bool renaming and_eq_true -> zf,and_eq_true_iff -> gU,not_eq_true' -> zL,or_eq_true -> yW
open Go renaming DataW -> gK,Deferred -> qS,Ending -> wZ,Frame -> bb,FuncId -> zV,LetsOut -> gF,MapEntry -> wu,MemPlace -> gq,Operand -> zB,Program -> zw,ResultVar -> jw,TypeDesc -> ke,TypeId -> zo,Value -> zd,World -> zh,wpIn_mono -> zT
open Go.Addr renaming add_mid -> xF
open Go.Cell renaming okWide -> gX
open Go.ComesIn renaming of_steps -> gr
open Go.DataW renaming TrodAll -> fo,trod -> kT
open Go.Deferred renaming ofValue -> vd
open Go.Fence renaming wide -> yD
open Go.Frame renaming enter -> bd
open Go.Instr renaming checkKey -> wv,findKey -> uJ,lookup -> kC,mapUpdate -> kO
open Go.Oper renaming wp -> v8,wpIn_mono -> gV
open Go.Proofs.YthbecdbmifchiaaGreatDoor renaming Frame -> zN,Keeps -> qz,OwnRep -> xC,frz -> kr
open Go.Proofs.YthbecdbmifchiaaGreatDoor.Act renaming put_get -> vX
open Go.Proofs.YthbecdbmifchiaaGreatDoor.Frame renaming get -> zn,kill -> jH
open Go.Proofs.YthbecdbmifchiaaGreatDoor.Kept renaming refl -> jx
open Go.Proofs.YthbecdbmifchiaaGreatDoor.Ownr renaming one -> fZ,plain -> jj
open Go.Proofs.YthbecdbmifchiaaGreatDoor.Owns renaming get -> zm,get_kill -> kL,kill -> xA
open Go.Proofs.YthbecdbmifchiaaGreatDoor.RepV renaming bool -> jQ,keep -> zZ
open Go.Region renaming binds -> qy,ready -> u6,wanted -> yF
open Go.Result renaming andThen_ok -> zG
open Go.RowKit renaming Below -> xG
open Go.RowKit.Below renaming refl -> zR
open Go.Sem renaming run_bind -> zK,run_pure -> zF
open Go.Value renaming okWide -> u7,pointer -> yO
open Go.World renaming cell? -> qi,putObj_heap_other -> yA,putObj_heap_same -> qL
open List renaming all_cons -> j0,all_eq_true -> yE,append_assoc -> zz,append_nil -> zW,cons_append -> ja,eq_nil_of_length_eq_zero -> xW,filter_congr -> pi,filter_cons -> gn,filter_eq_nil_iff -> um,filter_eq_self -> kJ,getElem?_append_left -> qK,getElem?_append_right -> qD,getElem?_eq_some_iff -> yI,getElem?_map -> yP,getElem?_set_ne -> jO,getElem?_set_self -> jX,getElem?_take -> yG,getElem_append -> fd,length -> zi,length_append -> zg,length_cons -> zv,length_drop -> qC,length_nil -> yC,length_range -> wS,length_set -> vC,length_take -> yU,map_cons -> qH,mem_append -> zU,mem_cons -> zs,mem_cons_of_mem -> zE,mem_cons_self -> zC,mem_iff_getElem? -> jD,mem_of_getElem? -> xX,mem_range -> xZ,mem_singleton -> zt,nil_append -> xH,range -> qB,replicate -> zr,takeWhile_prefix -> kl,take_of_length_le -> jc
open Nat renaming add_mul -> jl,add_zero -> jW,beq -> yK,beq_eq -> xV,ble_eq -> jF,blt -> zM,eq_of_beq_eq_true -> qt,le_of_ble_eq_true -> zq,le_refl -> zj,le_succ_of_le -> ug,le_trans -> zJ,lt_of_lt_of_le -> zy,lt_succ_self -> qp,not_lt_zero -> yH,zero_add -> yL,zero_le -> zk
open Ne renaming symm -> qF
open Option renaming bind_eq_some_iff -> jR,getD_some -> pG,map_eq_some_iff -> zQ
open Option.some renaming inj -> zP
open Go Go.RowKit
namespace Go.Proofs.YthbecdbmifchiaaGreatDoor
section
variable {P:zw}{K:Kn}{w0:zh}{X:Ownr}{n:Nat}{Y:AS}{U:Nat->zd}{a:Act}{w:zh}{N:Act->zh->Prop}{R:Exit->Act->zh->Prop}{ops:Array Oper}
def asB:zd->Option Bool
 |.bool b=>some b
 |_=>none
theorem zpi{j dj:Nat}(hj:(ops[j]?).bind (·.dst)=some dj)(hd:dj<a.tmps.size):yielded ops a.tmps j=asB (a.tmps.getD dj undef):=by
 unfold yielded;rw[hj];simp only[Option.bind_some];have:a.tmps[dj]? =some (a.tmps.getD dj undef):=by simp[vm,hd]
 rw[this];cases a.tmps.getD dj undef<;>rfl
theorem zmo{O:Nat->Prop}{v:V}{x0 c:Bool}(h:zxK v x0=some c){u:zd}(hr:RepV w O U v.t v.x u):(asB u==some x0)=c:=by
 obtain⟨t,x⟩:=v;unfold zxK at h;split at h
 .rename_i b hb;obtain⟨rfl,hb⟩:=V.mk.inj hb;cases hb;cases h;have:=jQ hr;subst this;cases c<;>rfl
 .rename_i b hb;obtain⟨rfl,hb⟩:=V.mk.inj hb;cases hb;cases h;have:=jQ hr;subst this;cases b<;>rfl
 .rename_i x1 x2 hb;obtain⟨rfl,hb⟩:=V.mk.inj hb;cases hb;cases h;cases x1 with
  |true=>
   have:=jQ (hr.1 rfl);subst this;cases x2<;>rfl
  |false=>
   have:=hr.2 rfl;subst this;rfl
 .rename_i x1 x2 hb;obtain⟨rfl,hb⟩:=V.mk.inj hb;cases hb;cases h;cases x1 with
  |true=>
   have:=jQ (hr.1 rfl);subst this;cases x2<;>rfl
  |false=>
   have:=hr.2 rfl;subst this;rfl
 .cases h
theorem zmx{O:Nat->Prop}{c:Bool}{v:V}{u:zd}(h:c=true->RepV w O U v.t v.x u)(h':c=false->u=undef):RepV w O U (znJ c v).t (znJ c v).x u:=by
 obtain⟨t,x⟩:=v;cases t<;>first
  |exact⟨h,h'⟩
  |skip
 rename_i t;have e:znJ c ⟨.cond t,x⟩=⟨.cond t,(c&&x.1,x.2)⟩:=rfl;rw[e];refine⟨λhc=>?_,λhc=>?_⟩
 .
  simp only[zf]at hc;exact(h hc.1).1 hc.2
 .
  cases hcc:c with
  |false=>exact h' hcc
  |true=>rw[hcc,Bool.true_and]at hc;exact(h hcc).2 hc
theorem zv0{G:zh->Prop}(hK:KnOk P G K)(hG:G w){O:Nat->Prop}{B:Nat}(hO:∀g,O g->g<w.heap.size){E:Owns}(x2:∀i o,zm E i=some o->xC w O U B (U i) o){F:zN}{o:Oper}{r:List Prop×V}(h:gOp K n ops E F o=some r)(hp:allP r.1)(x7:a.tmps.size=n)
  (x0:∀t∈zqP ops o,RepV w O U (zn F t).t (zn F t).x (a.tmps.getD t undef))
  (hN:∀u w',xG w.heap.size w w'->RepV w' O U r.2.t r.2.x u->N (a.put o.dst u) w'):
  if yF o (yielded ops a.tmps) then o.wp P a w N R\/(o.asks P a w/\gF R) else N (a.put o.dst undef) w:=by
 have x1:∀x∈o.op.operands,RepV w O U (evO F x).t (evO F x).x (a.eval x):=λx hx=>zsF λs hs=>x0 s (by
  unfold zqP;refine zU.2 (.inl (List.mem_filterMap.2 ⟨x,by simpa using hx,?_⟩));rw[hs])
 unfold gOp at h;cases hg:o.guard with
 |none=>
  rw[hg]at h;simp only at h;split at h<;>first|(cases h;done)|skip
  rename_i p t x h1;have h2:=h;split at h2
  .cases h2;simp only[yF,hg,if_true];exact .inl (zwa hK.t hK.c hG hO x2 h1 hp x1 hN)
  .cases h2
 |some g=>
  obtain⟨j,x8⟩:=g;rw[hg]at h;simp only at h;split at h
  .rename_i dj x5;split at h
   .rename_i x6;split at h<;>first|(cases h;done)|skip
    rename_i c p v h1 h3;have h4:=h;split at h4<;>first|(cases h4;done)|skip
    .have h4:=zmk h4;subst h4;have x3:dj<n:=by simpa using x6
     have x4:=x0 dj (by unfold zqP;rw[hg];simp[x5]);have hw:yF o (yielded ops a.tmps)=c:=by
      unfold yF;rw[hg];simp only;rw[zpi x5 (by rw[x7];exact x3)];exact zmo h1 x4
     rw[hw];cases hc:c with
     |true=>
      rw[if_pos rfl];refine .inl (zwa hK.t hK.c hG hO x2 h3 (zjb hp hc) x1 λu w' hb hr=>hN u w' hb (zmx (λ_=>hr) (λh0=>?_)));rw[hc]at h0;cases h0
     |false=>
      rw[if_neg (by simp)];exact hN undef w (zR _ _) (zmx (λh0=>by rw[hc]at h0;cases h0) λ_=>rfl)
   .cases h
  .cases h
theorem znI{c:Bool}{v:V}:(znJ c v).bound=v.bound:=by
 obtain⟨t,x⟩:=v;cases t<;>rfl
theorem zmB{E:Owns}{F:zN}{op:Op}{p:List Prop}{t:Ty}{x:t.T}(h1:cOp K.T K.Q K.C E F op=some (p,⟨t,x⟩))(hh:(!t.hand||zg9 op)=true){m:Nat}(hF:∀s,(zn F s).bound<=m)(hE:∀i o,zm E i=some o->i<m/\o.under m)(hT:∀t Z,tget K.T t=some Z->Z.data=true):bnd t x<=m:=by
 cases hr:t.hand with
 |false=>rw[zln _ _ hr];exact zk _
 |true=>
  rw[hr]at hh;have hp:pOp K.T K.Q E F op=some (p,⟨t,x⟩):=by
   unfold cOp at h1;split at h1
   .cases hh
   .exact h1
  exact zl0 hp (by show(!t.hand||zg9 op)=true;rw[hr];exact hh) hF hE hT
theorem zmp{E:Owns}{F:zN}{o:Oper}{r:List Prop×V}(h:gOp K n ops E F o=some r){m:Nat}(hF:∀s,(zn F s).bound<=m)(hE:∀i o,zm E i=some o->i<m/\o.under m)(hT:∀t Z,tget K.T t=some Z->Z.data=true):r.2.bound<=m:=by
 unfold gOp at h;split at h
 .split at h<;>first|(cases h;done)|skip
  rename_i p t x h1;have h2:=h;split at h2
  .rename_i hh;cases h2;exact zmB h1 hh hF hE hT
  .cases h2
 .split at h
  .split at h
   .split at h<;>first|(cases h;done)|skip
    rename_i c p v h1 h3;have h4:=h;split at h4<;>first|(cases h4;done)|skip
    rename_i hh;have h4:=zmk h4;subst h4;rw[znI];obtain⟨t,x⟩:=v;exact zmB h3 hh hF hE hT
   .cases h
  .cases h
theorem zlJ{t:zo}{Z:Ty}(ht:Lay P Z (.inl t)){g off:Nat}{u:zd}{cur:List zd}{ty:zo}{w:zh}(hg:w.heap[g]? =some (.cells cur.toArray ty (0,0)))(hl:u.cells.toList.length=Z.size)(hf:off+Z.size<=cur.length)(h1:∀y∈u.cells.toList,y.oneCell'=true):
  (Instr.storeAt t (.pointer (some ⟨g,off,none⟩)) u).run P w=.ok () (w.setRow g (over cur off u.cells.toList).toArray):=by
 have x0:=run_storeCells_at P g off ty u.cells.toList 0 cur.toArray w hg (by rw[hl];simpa using hf) h1;simp only[jW]at x0;unfold Instr.storeAt Instr.sureAddr storeVar;simp only[zK,zF,zG,ht.sizeOf];rw[if_neg (by simp only[ne_eq,Decidable.not_not];rw[<-hl];simp)];exact x0
theorem RepH.one{O:Nat->Prop}{U:Nat->zd}{w:zh}:∀{vs:List V}{cs:List zd},RepH w O U vs cs->∀y∈cs,y.oneCell'=true
 | [],_,h,y,hy=>by
  subst h;cases hy
 |v::r,_,⟨u,s,e,h2,h3,h4⟩,y,hy=>by
  subst e;rcases zs.1 hy with rfl|hy
  .exact h2
  .exact RepH.one h4 y hy
theorem zkS:∀(t:Ty)(x:t.T),t.leafy=true->∀v,v∈za7 t x->v.bound<=bnd t x:=by
 intro t
 induction t with
 |pair a b iha ihb=>
  intro x hl v hv;have hl:((Ty.pair a b).data&&(Ty.pair a b).noArr)=true:=hl;simp only[Ty.data,Ty.noArr,zf]at hl;rcases zU.1 hv with hv|hv
  .have:=iha x.1 (by cases a<;>first|exact gU.2 ⟨hl.1.1,hl.2.1⟩|(cases hl.1.1;done)) v hv;rwa[zh4 _ _ hl.1.1]at this
  .have:=ihb x.2 (by cases b<;>first|exact gU.2 ⟨hl.1.2,hl.2.2⟩|(cases hl.1.2;done)) v hv;rwa[zh4 _ _ hl.1.2]at this
 |unit=>intro x _ v hv;cases hv
 |hcons a b _ ihb=>
  intro x hl v hv;rcases zs.1 hv with rfl|hv
  .exact Nat.le_max_left _ _
  .exact zJ (ihb x.2 hl v hv) (Nat.le_max_right _ _)
 |arr n t _=>
  intro x hl;have hl:((Ty.arr n t).data&&(Ty.arr n t).noArr)=true:=hl;simp[Ty.noArr]at hl
 |_=>
  intro x _ v hv;have hv:=zt.1 hv;subst hv;exact zj _
theorem zmv(v:zd):(evC v).bound=0:=by
 have:=zff (F:=[]) (m:=0) (λs=>zj _) (.const v);exact Nat.eq_zero_of_le_zero this
theorem zkR{E:Owns}{v:V}{ls:List V}(h:zg6 E v=some ls):∀l,l∈ls->l.bound<=v.bound:=by
 obtain⟨t,x⟩:=v;unfold zg6 at h;split at h
 .rename_i y he;unfold ziJ at h;split at h
  .split at h
   .cases h;intro l hl;obtain⟨c,_,rfl⟩:=List.mem_map.1 hl;rw[zmv];exact zk _
   .cases h
  .cases h
  .cases h;intro l hl;rw[zt.1 hl];exact zk _
 .rename_i t' j he;obtain⟨rfl,he⟩:=V.mk.inj he;cases he;split at h
  .cases h;intro l hl;rw[zt.1 hl];exact zj _
  .cases h
 .rename_i h1 h2 he;obtain⟨rfl,he⟩:=V.mk.inj he;cases he;split at h
  .rename_i hl;cases h;exact zkS _ _ hl
  .cases h
theorem zuE(hK:KnOk P X.G K)(hX:X.Ok w0)(h:Sim w0 X n Y U a w){o:Oper}{r:List Prop×AS}(hs:zxH K n o Y=some r)(hp:allP r.1)
  (hN:∀U' a' w',Sim w0 X n r.2 U' a' w'->N a' w'):o.wp P a w N R:=by
 obtain⟨F,E,nx⟩:=Y;simp only[zxH]at hs;split at hs
 .rename_i t p x x3 x0;split at hs<;>first|(cases hs;done)|skip
  rename_i i k hq;split at hs<;>first|(cases hs;done)|skip
  rename_i vs Z x7 x6;split at hs<;>first|(cases hs;done)|skip
  rename_i ws hw;cases hs;simp only[zat]at hp;have xg:=zbj (h.ops p) hp.1;rw[hq]at xg;obtain⟨g,h2,h3⟩:=xg;have hl:=hK.t.lay _ _ x6;have hx:=zbj (h.ops x) hp.2;unfold putH at hw;split at hw<;>first|(cases hw;done)|skip
  rename_i ls xd;split at hw<;>first|(cases hw;done)|skip
  rename_i hc;cases hw;simp only[zf,xV,jF]at hc;have x4:=ziI (B:=0) h.own xd hx;obtain⟨g',cs,e1,e2,e3,e4⟩:=h.own _ _ x7;have xh:g'=g:=by rw[e1]at h2;simpa [zag] using h2
  subst xh;have xi:=e4.len;have xe:=x4.len;have x2:=zlJ (P:=P) hl (off:=k) e3 (by rw[<-xe];exact hc.1) (by rw[<-xi];exact hc.2) x4.one;unfold v8;have e:(execOp a.eval o).run P w=.ok .skip (w.setRow g' (over cs k (a.eval x).cells.toList).toArray):=by
   unfold execOp;simp only[x3];rw[h3];simp[x2]
  rw[e];show N (a.put o.dst undef) _;rw[x0];refine hN U a _ (h.write x7 (by rw[h2];exact zeC w g' _) (λhk=>?_) rfl ?_)
  .refine⟨g',over cs k (a.eval x).cells.toList,e1,e2,setRow_heap w g' cs.toArray _ _ _ e3,?_⟩;have h5:RepH w (OSet X E U) U (vs.take k++ls++vs.drop (k+Z.size)) (over cs k (a.eval x).cells.toList):=by
    unfold over;rw[<-xe,hc.1];exact((e4.take k).append x4).append (e4.drop _)
   exact h5.keep hk
  .intro us e v hv;cases e;rcases zU.1 hv with hv|hv
   .rcases zU.1 hv with hv|hv
    .exact h.hE _ _ x7 vs rfl v (List.mem_of_mem_take hv)
    .exact zJ (zkR xd v hv) (zJ (zig _) (zff h.hb x))
   .exact h.hE _ _ x7 vs rfl v (List.mem_of_mem_drop hv)
 .rename_i t d x3 x0;split at hs<;>first|(cases hs;done)|skip
  rename_i hc;split at hs<;>first|(cases hs;done)|skip
  rename_i Z x6;split at hs<;>first|(cases hs;done)|skip
  rename_i x8;cases hs;simp only[zf]at hc;have hd:d<n:=by simpa using hc.2
  have hl:=hK.t.lay _ _ x6;obtain⟨i,z,hi,_,hz,xc,_⟩:=hl.info;have xa:∀(w':zh)(O:Nat->Prop)(U':Nat->zd)(l:List zd),l.all Value.oneCell'=true->RepH w' O U' (l.map evC) l:=by
   intro w' O U' l
   induction l with
   |nil=>intro _;exact rfl
   |cons c l ih=>
    intro hl;simp only[j0,zf]at hl;exact⟨c,l,rfl,hl.1,znC c,ih hl.2⟩
  obtain⟨U',xf⟩:=h.make hX (zbg w (.cells (zbw Z).toArray t)) (bv:=.pointer (some ⟨w.heap.size,0,none⟩)) (o:=.hbox t ((zbw Z).map evC)) (v:=⟨.hptr,(nx,0)⟩) (u:=.pointer (some ⟨w.heap.size,0,none⟩)) (d:=d)
   (λO U' _=>⟨w.heap.size,zbw Z,rfl,zk _,heap_alloc_new w _,xa _ _ _ _ x8⟩) (λg hg=>by cases hg;exact zj _)
   (λO U' xj=>⟨w.heap.size,by show zag (U' nx)=_;rw[xj];rfl,rfl⟩) (zj _) hd (by
     intro us e v hv;cases e;obtain⟨c,_,rfl⟩:=List.mem_map.1 hv;rw[zmv];exact zk _)
  refine za5 (u:=.pointer (some ⟨w.heap.size,0,none⟩)) (w':=w.alloc (.cells (zbw Z).toArray t)) ?_ (by rw[x0];exact hN U' _ _ xf);unfold execOp;simp[x3,Instr.alloc,zeroValue,typeInfo,hi,hz,newVar,newRow,xc]
 .rename_i t x5 d x3 x0;split at hs<;>first|(cases hs;done)|skip
  rename_i hc;split at hs<;>first|(cases hs;done)|skip
  rename_i ta tb x6;cases hs;simp only[zf]at hc;have hd:d<n:=by simpa using hc.1.2
  have x1:x5= #[]:=by
   have:=hc.2;rw[List.isEmpty_iff]at this;rw[<-Array.toList_inj,this]
  subst x1;have hl:=hK.t.lay _ _ x6;obtain⟨fs,h2,xb,f,rr,h3,h4,h5,h6⟩:=hl;obtain⟨i,z,hi,xf,hz,xc,_⟩:=xb;have x4:Lay P (.pair ta tb) (.inr (fs.toList,0)):=⟨f,rr,h3,h4,h5,by simpa using h6⟩;obtain⟨x9,h7,h8⟩:=zlW _ _ _ x4;have x2:(Instr.build t #[]).run P w=.ok (.agg (zbw (.pair ta tb)).toArray) w:=by
   refine run_build w t #[] _ ?_;unfold Program.built;rw[hi,h2];simp only[hz,h7,xc];rfl
  refine za5 (u:=.agg (zbw (.pair ta tb)).toArray) (w':=w) ?_ ?_
  .unfold execOp;simp only[x3];exact zbz (by simpa using x2)
  .rw[x0];exact hN U _ _ (h.put (zR _ _) (v:=⟨.lit,.agg (List.toArray (zbw (.pair ta tb)))⟩) rfl (zk _) hd)
 .cases hs
theorem zir{O:Nat->Prop}{B:Nat}{v:zd}:∀{t:Ty}(z:t.T),t.resOk=true->(t=.unit\/zdb w O B none t z v)->RepV w O U (resV t z).t (resV t z).x v:=by
 intro t;cases t with
 |unit=>intro z _ _;exact t_
 |slice Z=>rintro z _ (e|h2);cases e;exact zcI h2
 |bool=>rintro z h (e|h2);cases e;exact h2 U
 |int k=>rintro z h (e|h2);cases e;exact h2 U
 |str=>rintro z h (e|h2);cases e;exact h2 U
 |pair a b=>rintro z h (e|h2);cases e;exact h2 U
 |arr n e=>rintro z h (e|h2);cases e;exact h2 U
 |tup a b=>rintro z h (e|h2);cases e;exact h2 U
 |_=>intro z h;cases h
theorem zf1{t:Ty}(z:t.T)(h:t.resOk=true)(m:Nat):(resV t z).bound<=m:=by
 cases t<;>first|exact zk _|cases h
theorem zt0{C:List (zV×RCtr)}(hC:RsOk P X.G C)(hX:X.Ok w0)(h:Sim w0 X n Y U a w){o:Oper}{r:List Prop×AS}(hs:zwW C n o Y=some r)(hp:allP r.1)
  (hN:∀U' a' w',Sim w0 X n r.2 U' a' w'->N a' w'):o.wp P a w N R:=by
 unfold zwW at hs;split at hs<;>first|(cases hs;done)|skip
 rename_i f args ts hop;split at hs<;>first|(cases hs;done)|skip
 rename_i a0 zas c hargs hc;have h1:=h.frzs hX zas;split at hs;rename_i F E nx hσ;rw[hσ]at h1;split at hs<;>first|(cases hs;done)|skip
 rename_i t0 p hev;split at hs<;>first|(cases hs;done)|skip
 rename_i s x hbox;split at hs<;>first|(cases hs;done)|skip
 rename_i hcond;simp only[zf,xV]at hcond;obtain⟨⟨⟨hoff,hd⟩,hfl⟩,hself⟩:=hcond;split at hs<;>first|(cases hs;done)|skip
 rename_i y q xs hcoe hav;split at hs<;>first|(cases hs;done)|skip
 rename_i F' hput;cases hs;simp only[zat]at hp;obtain⟨hq,hpre⟩:=hp;obtain⟨⟨hen,hcall⟩,hinv⟩:=hC f c hc;have hv:=h1.ops a0;rw[show evO (AS.mk F E nx).F a0=_ from hev]at hv;obtain⟨g,hg1,hg2⟩:=hv;rw[hoff]at hg2;obtain⟨g',cs,ty,e1,_,e3,e4⟩:=h1.own _ _ hbox;have hgg:g'=g:=by rw[e1]at hg1;simpa [zag] using hg1
 subst hgg;rcases zfA hcoe with hcs|⟨hcs,_⟩
 case inr=>cases hcs;exact absurd e4 id
 cases hcs;have hOg:OSet X E U g':=.inr ⟨_,_,hbox,by rw[e1];rfl⟩;have hset:(λk=>false=false/\OSet X E U k)=λk=>(OSet X E U k/\k≠g')\/k=g':=by
  funext k
  apply propext;constructor
  .rintro ⟨_,hk⟩;by_cases e:k=g'
   .exact .inr e
   .exact .inl ⟨hk,e⟩
  .rintro (⟨hk,_⟩|rfl)
   .exact⟨rfl,hk⟩
   .exact⟨rfl,hOg⟩
 have hset2:OSet X E U=λk=>(OSet X E U k/\k≠g')\/k=g':=by
  rw[<-hset]
  funext k
  simp
 have hvs:RepVs w (OSet X E U) U (zas.map (evO F)) (zas.map a.eval):=by
  refine⟨by simp,λi v hv=>?_⟩;rw[yP]at hv;obtain⟨z,hz,rfl⟩:=zQ.1 hv;exact⟨a.eval z,by rw[yP,hz];rfl,h1.ops z⟩
 have ha:=zdR (B:=0) h1.own hd hav hq hvs.2 hvs.1;rw[hset]at ha;rw[hset2]at e4;have hO:∀k,(OSet X E U k/\k≠g')->k<w.heap.size/\k≠g':=λk hk=>⟨h1.hO hX k hk.1,hk.2⟩;refine zen hop hen ?_;rw[hargs,qH,hg2];refine(hcall w _ g' cs ty _ xs _ hO e3 e4 ha hpre (hinv w g') (hX.2.2 w h.bel)).mono λe w' hr=>?_;obtain⟨v,cs',ty',he,hk,hc',hrep,hres⟩:=hr;refine⟨v,he,?_⟩;have h2:=h1.write (w':=w') (o':=.box c.self (c.post y xs)) hbox ⟨hk.os,hk.tape,hk.output,hk.size,λk hkl hne=>hk.block k hkl λe=>hne (by rw[e1,e];rfl)⟩ (λ_=>⟨g',cs',ty',e1,zk _,hc',by rw[hset2];exact hrep⟩) rfl;unfold putD at hput;split at hput
 .rename_i d hdst;split at hput<;>first|(cases hput;done)|skip
  rename_i hlt;cases hput;rw[hdst];have hkp:qz w' w' (λk=>(OSet X E U k/\k≠g')\/k=g') (OSet X ((p.i,some (.box c.self (c.post y xs)))::E) U):=⟨zj _,λ_ _ _=>rfl,λk _ hk=>by
   suffices h0:OSet X E U k by rw[hset2]at h0;exact h0
   rcases hk with hk|⟨m,om,hm,hbm⟩
   .exact .inl hk
   .rw[zab]at hm;by_cases hpm:p.i=m
    .subst hpm;exact .inr ⟨_,_,hbox,hbm⟩
    .rw[if_neg hpm]at hm;exact .inr ⟨m,om,hm,hbm⟩⟩
  have h3:=h2.put (zR _ _) (zZ hkp _ _ _ (zir (U:=U) _ hfl hres)) (zf1 _ hfl _) (by simpa using hlt:d<n);exact hN _ _ _ h3
 .rename_i hdst;cases hput;rw[hdst];exact hN _ _ _ h2
theorem zh5(hK:KnOk P X.G K)(hX:X.Ok w0)(h:Sim w0 X n Y U a w){o:Oper}{r:List Prop×AS}(hs:zje K n ops o Y=some r)(hp:allP r.1)
  (hN:∀U' a' w',Sim w0 X n r.2 U' a' w'->N a' w'):if yF o (yielded ops a.tmps) then o.wp P a w N R\/(o.asks P a w/\gF R) else N (a.put o.dst undef) w:=by
 unfold zje at hs;split at hs
 .rename_i hg;simp only[yF,hg,if_true];split at hs
  .rename_i r' hm;cases hs;exact .inl (zun hK hX h hm hp hN)
  .split at hs
   .rename_i r' hm;cases hs;exact .inl (zx9 hK h hm hp hN)
   .split at hs
    .rename_i r' hm;cases hs;exact .inl (zuE hK hX h hm hp hN)
    .split at hs
     .rename_i r' hm;cases hs;exact .inl (zt0 hK.r hX h hm hp hN)
     .exact .inl (zsL hK hX (h.frzs hX _) hs hp hN)
 .split at hs
  .rename_i d F E nx hd;split at hs
   .rename_i x1;split at hs<;>first|(cases hs;done)|skip
    rename_i p t x h1;cases hs;have x0:d<n:=by simpa using x1
    refine zv0 hK (hX.2.2 w h.bel) (h.hO hX) h.own h1 hp h.sz (λt _=>h.fr t) λu w' hb hr=>?_;rw[hd];exact hN U _ _ (h.puts hb hr (zmp h1 h.hb (λi o ho=>⟨h.lt i o ho,h.hE i o ho⟩) λt Z ht=>(hK.t.lay t Z ht).data) x0)
   .cases hs
  .cases hs
theorem zls(hK:KnOk P X.G K)(hX:X.Ok w0):∀(l:List Oper){Y:AS}{U:Nat->zd}{a:Act}{w:zh}{r:List Prop×AS},Sim w0 X n Y U a w->aSeq K n ops l Y=some r->allP r.1->
  (∀U' a' w',Sim w0 X n r.2 U' a' w'->R .normal a' w')->wpList P ops R l a w
 | [],Y,U,a,w,r,h,hs,_,hR=>by
  cases hs;exact hR U a w h
 |o::l,Y,U,a,w,r,h,hs,hp,hR=>by
  simp only[aSeq]at hs;split at hs<;>first|(cases hs;done)|skip
  rename_i p Y' h1;obtain⟨q,h3,rfl⟩:=zgq hs;simp only[zat]at hp;exact zh5 hK hX h h1 hp.1 λU' a' w' x0=>zls hK hX l x0 h3 hp.2 hR
end
section
variable {P:zw}{md:Region.Mode}{ops:Array Oper}{R:Exit->Act->zh->Prop}
theorem ztX{m:Nat}{listed:Array Bool}(hb:zgO ops=true)(hm:m<=ops.size)(inv:HeadInv .any ops m listed){i:Nat}(hi:i<m)(hun:listed.getD i false=false):u6 .any ops listed≠ []:=by
 have key:∀k,∀i,i<=k->i<m->listed.getD i false=false->u6 .any ops listed≠ []:=by
  intro k
  induction k with
  |zero=>
   intro i hik him hl;have:i=0:=by omega
   subst this;intro h0;have hlt:0<ops.size:=by omega
   have hmem:0∈u6 .any ops listed:=mem_ready.2 ⟨getD_in (by rw[inv.size];exact hlt) hl,ops[0],by simp[hlt],λe he hbd=>by
    have h1:=yE.1 hb 0 (xZ.2 hlt);simp only[qo hlt]at h1;have h2:=(uk.1 h1) e he;simp[hbd]at h2⟩
   rw[h0]at hmem;cases hmem
  |succ k ih=>
   intro i hik him hl;by_cases hex:∃j,j<i/\listed.getD j false=false
   .obtain⟨j,hj,hlj⟩:=hex;exact ih j (by omega) (by omega) hlj
   .intro h0;have hlt:i<ops.size:=by omega
    have hmem:i∈u6 .any ops listed:=mem_ready.2 ⟨getD_in (by rw[inv.size];exact hlt) hl,ops[i],by simp[hlt],λe he hbd=>by
     have h1:=yE.1 hb i (xZ.2 hlt);simp only[qo hlt]at h1;have h2:=(uk.1 h1) e he;simp only[hbd,Bool.not_true,Bool.or_false]at h2;have h3:e.on<i:=by simpa using h2
     cases h4:listed.getD e.on false with
     |true=>rfl
     |false=>exact absurd ⟨e.on,h3,h4⟩ hex⟩
    rw[h0]at hmem;cases hmem
 exact key i i (zj _) hi hun
def left(listed:Array Bool)(m:Nat):Nat:=((qB m).filter λi=>!listed.getD i false).length
theorem zoF{listed:Array Bool}{m i:Nat}(hi:i<m)(hs:i<listed.size)(hun:listed.getD i false=false):left (listed.setIfInBounds i true) m+1=left listed m:=by
 unfold left;have h1:(qB m).filter (λj=>!listed.getD j false)=(qB m).filter (λj=>!(listed.setIfInBounds i true).getD j false||decide (j=i)):=by
  apply pi;intro j hj;by_cases hji:j=i
  .subst hji;simp[hun]
  .rw[getD_set_ne false (qF hji)];simp[hji]
 rw[h1];have h2:∀(l:List Nat),l.Nodup->i∈l->(l.filter λj=>!(listed.setIfInBounds i true).getD j false||decide (j=i)).length=(l.filter λj=>!(listed.setIfInBounds i true).getD j false).length+1:=by
  have hii:(listed.setIfInBounds i true).getD i false=true:=by simp[vm,hs]
  intro l
  induction l with
  |nil=>intro _ h;cases h
  |cons a l ih=>
   intro hnd hmem;rw[List.nodup_cons]at hnd;by_cases ha:a=i
   .subst ha;have h3:l.filter (λj=>!(listed.setIfInBounds a true).getD j false||decide (j=a))=l.filter (λj=>!(listed.setIfInBounds a true).getD j false):=by
     apply pi;intro j hj;have:j≠a:=λe=>hnd.1 (e▸hj);simp[this]
    rw[gn,gn,if_pos (by simp),if_neg (by rw[hii];simp),h3,zv]
   .have hm':i∈l:=by rcases zs.1 hmem with h|h;exact absurd h.symm ha;exact h
    have:=ih hnd.2 hm';simp only[gn,ha,decide_false,Bool.or_false];split
    .simp only[zv,this]
    .exact this
 exact(h2 _ List.nodup_range (xZ.2 hi)).symm
theorem zrW{listed:Array Bool}{m:Nat}(h:left listed m=0):∀i,i<m->listed.getD i false=true:=by
 intro i hi;unfold left at h;have h1:=xW h;have h2:=um.1 h1 i (xZ.2 hi)
 simpa using h2
theorem zuw{listed:Array Bool}{m k:Nat}(h:left listed m=k+1):∃i,i<m/\listed.getD i false=false:=by
 unfold left at h;cases hl:(qB m).filter (λi=>!listed.getD i false) with
 |nil=>rw[hl]at h;cases h
 |cons a l=>
  have:a∈(qB m).filter (λi=>!listed.getD i false):=by rw[hl];simp
  rw[List.mem_filter,xZ]at this;exact⟨a,this.1,by simpa using this.2⟩
theorem zgR{m:Nat}(hm:m<=ops.size)(hb:zgO ops=true)(htl:m=ops.size\/(Region.sinkB .any ops m=true/\Region.chainB .any ops m=true))(I:Array Bool->Act->zh->Prop){g:Nat}
  (hstep:∀listed a w,I listed a w->∀i,i<m->i∈u6 .any ops listed->wpOp P ops R i (I (listed.setIfInBounds i true)) a w)
  (htail:∀listed a w,HeadInv .any ops m listed->(∀i,i<m->listed.getD i false=true)->I listed a w->wpAny P .any ops R g listed a w):
  ∀(f:Nat)(listed:Array Bool)(a:Act)(w:zh),left listed m=f->HeadInv .any ops m listed->I listed a w->wpAny P .any ops R (f+g) listed a w:=by
 intro f
 induction f with
 |zero=>
  intro listed a w hl inv hI;rw[yL];exact htail listed a w inv (zrW hl) hI
 |succ f ih=>
  intro listed a w hl inv hI;obtain⟨i0,hi0,hun0⟩:=zuw hl;have hne:=ztX hb hm inv hi0 hun0;rw[show f+1+g=(f+g)+1 by omega];refine⟨λh0=>absurd h0 hne,λi hi=>?_⟩;have hun:=(mem_ready.1 hi).1;have hisz:i<ops.size:=by
   obtain⟨_,o,ho,_⟩:=mem_ready.1 hi;exact(zl.1 ho).1
  have him:i<m:=by
   rcases Nat.lt_or_ge i m with h|h
   .exact h
   .rcases htl with h1|⟨h1,h2⟩
    .omega
    .exact absurd hi (tail_waits h1 h2 (by omega) inv _ i0 rfl hi0 (getD_in (by rw[inv.size];omega) hun0) i h)
  refine wpOp_mono (λa' w' hI'=>ih _ a' w' ?_ (inv.set hi him) hI') (hstep listed a w hI i him hi);have:=zoF him (by rw[inv.size];exact hisz) (getD_both hun);omega
end
def zes:zN->List Oper->List V->zN
 |F,o::l,v::vs=>zes ((o.dst.getD 0,v)::F) l vs
 |F,_,_=>F
theorem zdB:∀(l:List Oper)(vs:List V)(F:zN)(t:Nat),(∀o∈l,o.dst.isSome=true)->(∀o∈l,o.dst≠some t)->zn (zes F l vs) t=zn F t
 | [],_,_,_,_,_=>by simp[zes]
 |o::l,[],_,_,_,_=>by simp[zes]
 |o::l,v::vs,F,t,hs,h=>by
  simp only[zes];rw[zdB l vs _ t (λo ho=>hs o (by simp[ho])) (λo ho=>h o (by simp[ho])),zam,if_neg];intro e;have h1:=hs o (by simp);have h2:=h o (by simp);cases hd:o.dst with
  |none=>rw[hd]at h1;cases h1
  |some d=>rw[hd]at h2 e;exact h2 (by rw[<-e];rfl)
theorem zgp:∀(l:List Oper)(vs:List V)(F:zN)(t k:Nat)(o:Oper)(v:V),(∀o∈l,o.dst.isSome=true)->l[k]? =some o->o.dst=some t->vs[k]? =some v->
  (∀k' o',k<k'->l[k']? =some o'->o'.dst≠some t)->zn (zes F l vs) t=v
 |o::l,v::vs,F,t,0,o',v',hs,hk,hd,hv,hno=>by
  cases hk;cases hv;simp only[zes];rw[zdB l vs _ t (λo ho=>hs o (by simp[ho])) (λo'' ho=>by
   obtain⟨k',hk'⟩:=jD.1 ho;exact hno (k'+1) o'' (by omega) (by simpa using hk')),zam,if_pos (by rw[hd];rfl)]
 |o::l,v::vs,F,t,k+1,o',v',hs,hk,hd,hv,hno=>by
  simp only[zes];exact zgp l vs _ t k o' v' (λo ho=>hs o (by simp[ho])) (by simpa using hk) hd (by simpa using hv) λk' o'' hkk hk'=>hno (k'+1) o'' (by omega) (by simpa using hk')
 | [],_,_,_,_,_,_,_,hk,_,_,_=>by simp at hk
 |_::_,[],_,_,_,_,_,_,_,_,hv,_=>by simp at hv
section
variable {P:zw}{K:Kn}{w0:zh}{X:Ownr}{n:Nat}{Y:AS}{U:Nat->zd}{a:Act}{w:zh}{R:Exit->Act->zh->Prop}{ops:Array Oper}
theorem zkd:∀(l:List Oper)(Y:AS)(r:List Prop×AS),znX K n ops l Y=some r->∃rs:List (List Prop×V),rs.length=l.length/\(allP r.1->∀q∈rs,allP q.1)/\r.2={ Y with F:=zes Y.F l (rs.map (·.2)) }/\
  ∀i o,l[i]? =some o->∃d q,o.dst=some d/\d<n/\rs[i]? =some q/\gOp K n ops Y.E (zes Y.F (l.take i) ((rs.map (·.2)).take i)) o=some q
 | [],Y,r,h=>by
  cases h;exact⟨[],rfl,λ_ q hq=>by simp at hq,rfl,λi o hi=>by simp at hi⟩
 |o::l,Y,r,h=>by
  obtain⟨F,E,nx⟩:=Y;simp only[znX]at h;split at h
  .rename_i d hd;split at h
   .rename_i hlt;split at h<;>first|(cases h;done)|skip
    rename_i p t x h1;obtain⟨q',h3,rfl⟩:=zgq h;obtain⟨rs,g1,g2,g3,g4⟩:=zkd l _ _ h3;refine⟨(p,⟨t,x⟩)::rs,by simp[g1],λhp y hx=>?_,?_,λi o' hi=>?_⟩
    .rw[zat]at hp;rcases zs.1 hx with rfl|hx
     .exact hp.1
     .exact g2 hp.2 y hx
    .rw[g3];simp only[qH,zes,hd,pG]
    .cases i with
     |zero=>
      cases hi;exact⟨d,_,hd,by simpa using hlt,rfl,by simpa [zes] using h1⟩
     |succ i=>
      obtain⟨d',q'',e1,e2,e3,e4⟩:=g4 i o' (by simpa using hi);refine⟨d',q'',e1,e2,by simpa using e3,?_⟩;simp only[qH,List.take_succ_cons,zes,hd,pG]at e4 ⊢;exact e4
   .cases h
  .cases h
theorem zsK(hK:KnOk P X.G K)(hX:X.Ok w0)(h:Sim w0 X n Y U a w){m:Nat}(hB:zsl ops m=true){r1:List Prop×AS}(h1:znX K n ops (ops.toList.take m) Y=some r1)
  (hp1:allP r1.1) (hT:∀a' w',Sim w0 X n r1.2 U a' w'->wpList P ops R (ops.toList.drop m) a' w'):wpAny P .any ops R ops.size (zD ops.size false) a { w with drawn:=w.drawn+1 }:=by
 simp only[zsl,zf,jF]at hB;obtain⟨⟨⟨⟨hms,hflow⟩,hback⟩,htl0⟩,hseq⟩:=hB;have htl:m=ops.size\/(Region.sinkB .any ops m=true/\Region.chainB .any ops m=true):=by
  simp only[yW,zf,xV]at htl0;exact htl0
 obtain⟨rs,hl,hps,hr1,hspec⟩:=zkd _ _ _ h1;have hlen:(ops.toList.take m).length=m:=by simp;omega
 rw[hlen]at hl;have hget:∀i,i<m->∃o d q,ops[i]? =some o/\o.dst=some d/\d<n/\rs[i]? =some q/\gOp K n ops Y.E (zes Y.F (ops.toList.take i) ((rs.map (·.2)).take i)) o=some q:=by
  intro i hi;have hlt:i<ops.size:=by omega
  obtain⟨d,q,e1,e2,e3,e4⟩:=hspec i ops[i] (by rw[yG,if_pos hi];simp[hlt]);rw[List.take_take,Nat.min_eq_left (by omega)]at e4;exact⟨ops[i],d,q,by simp[hlt],e1,e2,e3,e4⟩
 have hsome:∀k,k<=m->∀o∈ops.toList.take k,o.dst.isSome=true:=by
  intro k hk o ho;obtain⟨i,hi⟩:=jD.1 ho;rw[yG]at hi;split at hi
  .obtain⟨o',d,q,e1,e2,_⟩:=hget i (by omega);have:o'=o:=by
    have:ops.toList[i]? =some o':=by simpa using e1
    rw[this]at hi;cases hi;rfl
   rw[<-this,e2];rfl
  .cases hi
 have hdist:∀i j oi oj,i<m->j<m->ops[i]? =some oi->ops[j]? =some oj->i≠j->oi.dst≠oj.dst:=by
  intro i j oi oj hi hj hoi hoj hij;have h3:=yE.1 hflow j (xZ.2 hj);rw[hoj]at h3;have h4:=yE.1 h3 i (xZ.2 hi);rw[hoi]at h4;simp only[zf,yW,xV,zL]at h4;rcases h4.1 with h5|h5
  .exact absurd h5 hij
  .intro e;rw[e]at h5;simp at h5
 have hdep:∀i j oi oj t,i<m->j<m->ops[i]? =some oi->ops[j]? =some oj->t∈zqP ops oj->oi.dst=some t->i<j/\∃e∈oj.after,e.on=i/\qy .any e=true:=by
  intro i j oi oj t hi hj hoi hoj ht hd;have h3:=yE.1 hflow j (xZ.2 hj);rw[hoj]at h3;have h4:=yE.1 h3 i (xZ.2 hi);rw[hoi]at h4;simp only[zf]at h4;have h5:=yE.1 h4.2 t ht;rw[hd]at h5;simp only[beq_self_eq_true,Bool.not_true,Bool.false_or,zf]at h5;refine⟨by simpa using h5.1,?_⟩;obtain⟨e,he,h6⟩:=Array.any_eq_true'.1 h5.2;simp only[zf,xV]at h6;exact⟨e,he,h6.1,h6.2⟩
 let W:=w.drew
 have hsim:Sim w0 X n Y U a W:=⟨h.sz,h.df,h.bel.then ((zR _ _).drew),λs=>zZ (.of_below ((zR _ _).drew) λ_ _ h=>h) _ _ _ (h.fr s),λi o ho=>(h.own i o ho).keep (.of_below ((zR _ _).drew) λ_ _ h=>h) λ_ _=>rfl,h.new,h.inj,h.lt,h.fix,h.hb,h.hE⟩
 let I:Array Bool->Act->zh->Prop:=λlisted a' w'=>
  a'.tmps.size=n/\a'.defers=X.D/\xG W.heap.size W w'/\(∀s,(∀i o,i<m->ops[i]? =some o->o.dst≠some s)->a'.tmps.getD s undef=a.tmps.getD s undef)/\
  (∀i o d q,i<m->ops[i]? =some o->o.dst=some d->rs[i]? =some q->listed.getD i false=true->RepV w' (OSet X Y.E U) U q.2.t q.2.x (a'.tmps.getD d undef))
 have hsum:ops.size=left (zD ops.size false) m+(ops.size-m):=by
  have:left (zD ops.size false) m=m:=by
   unfold left;have:(qB m).filter (λi=>!(zD ops.size false).getD i false)=qB m:=by
    rw[kJ];intro i _;rw[getD_replicate_false];rfl
   rw[this,wS]
  omega
 have hown:∀w',xG W.heap.size W w'->∀i o,zm Y.E i=some o->xC w' (OSet X Y.E U) U 0 (U i) o:=λw' hb i o ho=>
  (hsim.own i o ho).keep (.of_below hb λ_ _ h=>h) λg hg=>hb.block g ((hsim.own i o ho).block_lt hg).2
 have hO:∀w',xG W.heap.size W w'->∀g,OSet X Y.E U g->g<w'.heap.size:=λw' hb g hg=>zy (hsim.hO hX g hg) hb.size
 suffices hkey:wpAny P .any ops R (left (zD ops.size false) m+(ops.size-m)) (zD ops.size false) a W by
  rw[<-hsum]at hkey;exact hkey
 refine zgR hms hback htl I ?_ ?_ _ _ a W rfl ⟨by simp,λj oj _ hlj=>(by rw[getD_replicate_false]at hlj;cases hlj),λt _ ht=>getD_in (by simpa using ht) (getD_replicate_false _ _)⟩ ⟨h.sz,h.df,zR _ _,λ_ _=>rfl,λi o d q _ _ _ _ hli=>by rw[getD_replicate_false]at hli;cases hli⟩
 .
  rintro listed a' w' ⟨i1,i2,i3,i4,i5⟩ i him hir;obtain⟨hun,o',ho',hdone⟩:=mem_ready.1 hir;obtain⟨o,d,q,ho,hd,hdn,hq,hg⟩:=hget i him;have:o'=o:=by rw[ho]at ho';cases ho';rfl
  subst this;unfold wpOp;rw[ho];simp only;have hqp:allP q.1:=hps hp1 q (xX hq);refine zv0 hK (hX.2.2 w' (hsim.bel.then i3)) (hO w' i3) (hown w' i3) hg hqp i1 (λt ht=>?_) λu w2 hb2 hr2=>?_
  .by_cases hex:∃k ok,k<m/\ops[k]? =some ok/\ok.dst=some t
   .obtain⟨k,ok,hkm,hok,hkd⟩:=hex;obtain⟨hki,e,he,heon,heb⟩:=hdep k i ok o' t hkm him hok ho ht hkd;have hlk:=hdone e he heb;rw[heon]at hlk;obtain⟨ok',dk,qk,g1,g2,g3,g4,g5⟩:=hget k hkm;have:ok'=ok:=by rw[hok]at g1;cases g1;rfl
    subst this;have hv:=zgp (ops.toList.take i) ((rs.map (·.2)).take i) Y.F t k ok' qk.2 (hsome i (by omega)) (by rw[yG,if_pos hki];simpa using hok) hkd
     (by rw[yG,if_pos hki,yP,g4];rfl) (λk' o'' hkk hk'=>by
       rw[yG]at hk';split at hk'
       .have:=hdist k' k o'' ok' (by omega) hkm (by simpa using hk') hok (by omega);rw[hkd]at this;exact this
       .cases hk')
    rw[hv];exact i5 k ok' t qk hkm hok hkd g4 hlk
   .have hno:∀o∈ops.toList.take i,o.dst≠some t:=by
     intro o2 ho2 hd2;obtain⟨k,hk⟩:=jD.1 ho2;rw[yG]at hk;split at hk
     .exact hex ⟨k,o2,by omega,by simpa using hk,hd2⟩
     .cases hk
    rw[zdB _ _ _ _ (hsome i (by omega)) hno,i4 t λk ok hk hok hdk=>hex ⟨k,ok,hk,hok,hdk⟩];exact zZ (.of_below i3 λ_ _ h=>h) _ _ _ (hsim.fr t)
  .have hb:xG W.heap.size W w2:=i3.trans (hb2.mono i3.size);rw[hd];refine⟨by rw[Act.put_size];exact i1,by rw[Act.put_defers];exact i2,hb,λs hs=>?_,λj oj dj qj hj hoj hdj hqj hlj=>?_⟩
   .rw[vX (by rw[i1];exact hdn),if_neg (λe=>hs i o' him ho (by rw[hd,e]))];exact i4 s hs
   .rw[vX (by rw[i1];exact hdn)];by_cases hji:i=j
    .subst hji;have:oj=o':=by rw[ho]at hoj;cases hoj;rfl
     subst this;have:dj=d:=by rw[hd]at hdj;cases hdj;rfl
     subst this;have:qj=q:=by rw[hq]at hqj;cases hqj;rfl
     subst this;rw[if_pos rfl];exact hr2
    .have hne:d≠dj:=λe=>hdist i j o' oj him hj ho hoj hji (by rw[hd,hdj,e]);rw[if_neg hne];rw[getD_set_ne false hji]at hlj;exact zZ (.of_below hb2 λ_ _ h=>h) _ _ _ (i5 j oj dj qj hj hoj hdj hqj hlj)
 .
  rintro listed a' w' inv hall ⟨i1,i2,i3,i4,i5⟩;have hlist:listed=(zr m true++zr (ops.size-m) false).toArray:=by
   apply Array.ext
   .rw[inv.size];simp;omega
   .intro i h1 h2;rw[inv.size]at h1;by_cases him:i<m
    .have:=hall i him;simp only[vm,show i<listed.size by rw[inv.size];exact h1,dif_pos]at this;have e:listed[i]=true:=this;rw[e];simp[fd,him]
    .have:=inv.tail i (by omega) h1;have:=getD_both this;simp only[vm,show i<listed.size by rw[inv.size];exact h1,dif_pos]at this;have e:listed[i]=false:=this;rw[e];simp[fd,him]
  subst hlist;have hfin:Sim w0 X n r1.2 U a' w':=by
   rw[hr1];refine⟨i1,i2,hsim.bel.then i3,λs=>?_,hown w' i3,hsim.new,hsim.inj,hsim.lt,hsim.fix,λs=>?_,hsim.hE⟩
   .show RepV w' (OSet X Y.E U) U (zn (zes Y.F (ops.toList.take m) (rs.map (·.2))) s).t _ _;by_cases hex:∃k ok,k<m/\ops[k]? =some ok/\ok.dst=some s
    .obtain⟨k,ok,hkm,hok,hkd⟩:=hex;obtain⟨ok',dk,qk,g1,g2,g3,g4,g5⟩:=hget k hkm;have:ok'=ok:=by rw[hok]at g1;cases g1;rfl
     subst this;have hv:=zgp (ops.toList.take m) (rs.map (·.2)) Y.F s k ok' qk.2 (hsome m (zj _)) (by rw[yG,if_pos hkm];simpa using hok) hkd
      (by rw[yP,g4];rfl) (λk' o'' hkk hk'=>by
        rw[yG]at hk';split at hk'
        .have:=hdist k' k o'' ok' (by omega) hkm (by simpa using hk') hok (by omega);rw[hkd]at this;exact this
        .cases hk')
     rw[hv];exact i5 k ok' s qk hkm hok hkd g4 (hall k hkm)
    .have hno:∀o∈ops.toList.take m,o.dst≠some s:=by
      intro o2 ho2 hd2;obtain⟨k,hk⟩:=jD.1 ho2;rw[yG]at hk;split at hk
      .exact hex ⟨k,o2,by omega,by simpa using hk,hd2⟩
      .cases hk
     rw[zdB _ _ _ _ (hsome m (zj _)) hno,i4 s λk ok hk hok hdk=>hex ⟨k,ok,hk,hok,hdk⟩];exact zZ (.of_below i3 λ_ _ h=>h) _ _ _ (hsim.fr s)
   .show(zn (zes Y.F (ops.toList.take m) (rs.map (·.2))) s).bound<=Y.nx;have hbd:∀k,k<=m->∀s,(zn (zes Y.F (ops.toList.take k) ((rs.map (·.2)).take k)) s).bound<=Y.nx:=by
     intro k
     induction k with
     |zero=>intro _ s;simpa [zes] using hsim.hb s
     |succ k ih=>
      intro hk s;obtain⟨o,d,q,e1,e2,e3,e4,e5⟩:=hget k (by omega);have hb:=zmp e5 (ih (by omega)) (λi o ho=>⟨hsim.lt i o ho,hsim.hE i o ho⟩) λt Z ht=>(hK.t.lay t Z ht).data;by_cases hsd:o.dst=some s
      .have hv:=zgp (ops.toList.take (k+1)) ((rs.map (·.2)).take (k+1)) Y.F s k o q.2 (hsome (k+1) hk) (by rw[yG,if_pos (by omega)];simpa using e1) hsd
        (by rw[yG,if_pos (by omega),yP,e4];rfl) (λk' o'' hkk hk'=>by
          rw[yG]at hk';split at hk'
          .omega
          .cases hk')
       rw[hv];exact hb
      .by_cases hex:∃k' ok,k'<k/\ops[k']? =some ok/\ok.dst=some s
       .obtain⟨k',ok,hk',hok,hkd⟩:=hex;obtain⟨ok',dk,qk,g1,g2,g3,g4,g5⟩:=hget k' (by omega);have:ok'=ok:=by rw[hok]at g1;cases g1;rfl
        subst this;have both:∀j,k'<j->j<=m->zn (zes Y.F (ops.toList.take j) ((rs.map (·.2)).take j)) s=qk.2:=λj hj hjm=>
         zgp _ _ Y.F s k' ok' qk.2 (hsome j hjm) (by rw[yG,if_pos hj];simpa using hok) hkd
          (by rw[yG,if_pos hj,yP,g4];rfl) (λk2 o'' hkk hk2=>by
            rw[yG]at hk2;split at hk2
            .have:=hdist k2 k' o'' ok' (by omega) (by omega) (by simpa using hk2) hok (by omega);rw[hkd]at this;exact this
            .cases hk2)
        rw[both (k+1) (by omega) hk, <-both k hk' (by omega)];exact ih (by omega) s
       .have hno:∀o∈ops.toList.take (k+1),o.dst≠some s:=by
         intro o2 ho2 hd2;obtain⟨k2,hk2⟩:=jD.1 ho2;rw[yG]at hk2;split at hk2
         .have hk2':ops[k2]? =some o2:=by simpa using hk2
          by_cases hkk:k2=k
          .subst hkk;rw[e1]at hk2';cases hk2';exact hsd hd2
          .exact hex ⟨k2,o2,by omega,hk2',hd2⟩
         .cases hk2
        rw[zdB _ _ _ _ (hsome (k+1) hk) hno];exact hsim.hb s
    have:=hbd m (zj _) s;rwa[jc (l:=rs.map (·.2)) (by simp[hl])]at this
  have hlt:(ops.toList.drop m).length=ops.size-m:=by simp
  have:=wpAny_of_seq (P:=P) (md:=.any) (Q':=R) (ops:=ops) (ops.toList.drop m) m (zr m true++zr (ops.size-m) false).toArray a' w' (λj=>by simp[List.getElem?_drop]) (by rw[hlt];exact hseq) (hT a' w' hfin);rwa[hlt]at this
theorem zuT(hK:KnOk P X.G K)(hX:X.Ok w0)(h:Sim w0 X n Y U a w){m:Nat}(hB:zsl ops m=true){r1 r2:List Prop×AS}(h1:znX K n ops (ops.toList.take m) Y=some r1)(h2:aSeq K n ops (ops.toList.drop m) r1.2=some r2)
  (hp1:allP r1.1) (hp2:allP r2.1) (hR:∀U' a' w',Sim w0 X n r2.2 U' a' w'->R .normal a' w'):wpAny P .any ops R ops.size (zD ops.size false) a { w with drawn:=w.drawn+1 }:=
 zsK hK hX h hB h1 hp1 λ_ _ hs=>zls hK hX _ hs h2 hp2 hR
end
inductive NOp where
 |pure (d:Nat) (q:List Prop×V)
 |var (d:Nat) (Z:Ty)
 |set (s:Nat) (Z:Ty) (p:List Prop) (y:Z.T)
def znH:List NOp->List Prop
 | []=>[]
 |.pure _ q::rs=>q.1++znH rs
 |.var _ _::rs=>znH rs
 |.set _ _ p _::rs=>p++znH rs
def NOp.putP:NOp->zN->zN
 |.pure d q,F=>(d,q.2)::F
 |.var d _,F=>(d,⟨.junk,()⟩)::F
 |.set _ _ _ _,F=>F
def NOp.vars:NOp->List (Nat×Ty)->List (Nat×Ty)
 |.var d Z,vs=>(d,Z)::vs
 |_,vs=>vs
def fins:AS->List NOp->AS
 |Y,[]=>Y
 |⟨F,E,nx⟩,.pure d q::rs=>fins ⟨(d,q.2)::F,E,nx⟩ rs
 |⟨F,E,nx⟩,.var d _::rs=>fins ⟨(d,⟨.junk,()⟩)::F,E,nx⟩ rs
 |⟨F,E,nx⟩,.set s Z _ y::rs=>fins ⟨(s,⟨.optr Z,⟨nx,Z,.here⟩⟩)::F,(nx,some (.box Z y))::E,nx+1⟩ rs
def vget:List (Nat×Ty)->Nat->Option Ty
 | [],_=>none
 |(d,Z)::r,s=>bif yK d s then some Z else vget r s
noncomputable def nOne(K:Kn)(n:Nat)(ops:Array Oper)(E:Owns)(o:Oper)(F:zN)(vs:List (Nat×Ty)):Option NOp:=
 match o.op,o.dst,o.guard with
 |.alloc t,some d,none=>match tget K.T t with
  |some Z=>if zM d n then some (.var d Z) else none
  |none=>none
 |.store t (.tmp s) x,none,none=>match vget vs s with
  |some Z=>if tis K.T t Z then(match coe Z (zaM (evO F x)).2 with
   |some y=>some (.set s Z (zaM (evO F x)).1 y)
   |none=>none) else none
  |none=>none
 |_,some d,_=>if zM d n then(match gOp K n ops E F o with
  |some (p,⟨t,x⟩)=>some (.pure d (p,⟨t,x⟩))
  |none=>none) else none
 |_,_,_=>none
noncomputable def zAP(K:Kn)(n:Nat)(ops:Array Oper)(E:Owns):List Oper->zN->List (Nat×Ty)->Option (List NOp)
 | [],_,_=>some []
 |o::l,F,vs=>match nOne K n ops E o F vs with
  |some r=>match zAP K n ops E l (r.putP F) (r.vars vs) with
   |some rs=>some (r::rs)
   |none=>none
  |none=>none
def zzx:List Oper->zN->zN
 | [],F=>F
 |o::l,F=>match o.dst with
  |some d=>zzx l ((d,⟨.junk,()⟩)::F)
  |none=>zzx l F
section
variable {P:zw}{K:Kn}{w0:zh}{X:Ownr}{n:Nat}{Y:AS}{U:Nat->zd}{a:Act}{w:zh}{R:Exit->Act->zh->Prop}{ops:Array Oper}
def O2(X:Ownr)(E:Owns)(U:Nat->zd)(rs:List NOp)(listed:Array Bool)(a:Act)(g:Nat):Prop:=
 OSet X E U g\/∃i d Z,rs[i]? =some (NOp.var d Z)/\listed.getD i false=true/\zag (a.tmps.getD d undef)=some g
end
def zdT:Option Nat->Fence
 |none=>yD
 |some l=>yD.inRound l
theorem zfn(ρ:Option Nat)(f:zV):(zdT ρ).fn f:=by cases ρ<;>trivial
theorem zmS(ρ:Option Nat):(zdT ρ).depth=none:=by cases ρ<;>rfl
theorem zlg{ρ:Option Nat}{n:Nat}{P:zw}{f:zV}{args:Array zd}{w:zh}{R:wZ->zh->Prop}(h:Calls P f args w R):CallsIn (zdT ρ) n P f args w R:=by
 cases ρ with
 |none=>exact callsIn_wide.2 h
 |some l=>exact CallsIn.inRound l (callsIn_wide.2 h)
theorem zlO{ρ:Option Nat}{n:Nat}{P:zw}{row:String}{args:Array zd}{w:zh}{R:zd->zh->Prop}(h:Rows P row args w R):RowsIn (zdT ρ) n P row args w R:=by
 have key:RowsIn yD n P row args w R:=λc cs _=>let ⟨v,w',r,s⟩:=h c cs;⟨v,w',r,stepsIn_wide.2 s⟩
 cases ρ with
 |none=>exact key
 |some l=>exact key
theorem zo1{ρ:Option Nat}{p:Prop}:(zdT ρ).depth.isSome=true->p:=by rw[zmS];intro h;cases h
section
variable {P:zw}{ρ:Option Nat}{n:Nat}{ops:Array Oper}{a:Act}{w:zh}
theorem zbH{o:Oper}(hd:∀c,o.op≠ .defer c){N:Act->zh->Prop}{R:Exit->Act->zh->Prop}(h:o.wp P a w N R):o.wpIn (zdT ρ) n P a w N R:=by
 refine⟨λf _=>zfn ρ f,?_⟩;rw[Oper.semAt_eq _ _ _ hd];unfold v8 at h;generalize (execOp a.eval o).run P w=r at h;cases r with
 |ok x w'=>
  cases x with
  |enter f args=>exact⟨zo1,zlg h⟩
  |row r args=>exact⟨zo1,zlO h⟩
  |round l f tmps assign body=>exact h.elim
  |_=>exact h
 |halt x w'=>cases x<;>exact h
def za2(l:List Oper):Bool:=l.all λo=>match o.op with |.defer _=>false|_=>true
theorem zj0{l:List Oper}(h:za2 l=true):∀o∈l,∀c,o.op≠ .defer c:=by
 intro o ho c e;have:=yE.1 h o ho;rw[e]at this;cases this
theorem zl1{o:Oper}{l:List Oper}(h:za2 (o::l)=true):(∀c,o.op≠ .defer c)/\za2 l=true:=
 ⟨zj0 h o (zC ..),by simp only[za2,j0,zf]at h ⊢;exact h.2⟩
theorem zcE{R:Exit->Act->zh->Prop}(x0:¬gF R):∀(l:List Oper),za2 l=true->∀{a:Act}{w:zh},wpList P ops R l a w->wpListIn (zdT ρ) n P ops R l a w
 | [],_,_,_,h=>h
 |o::l,hl,a,w,h=>by
  obtain⟨hd,x1⟩:=zl1 hl;have ih:=λa w h=>zcE x0 l x1 (a:=a) (w:=w) h;simp only[wpListIn];simp only[wpList]at h;split at h
  .rename_i hw;rw[if_pos hw];rcases h with h|h
   .exact gV ih (zbH hd h)
   .exact(x0 h.2).elim
  .rename_i hw;rw[if_neg hw];exact⟨λf _=>zfn ρ f,ih _ _ h⟩
theorem zjh{R:Exit->Act->zh->Prop}(x0:¬gF R)(hl:za2 ops.toList=true){i:Nat}{N:Act->zh->Prop}{a:Act}{w:zh}(h:wpOp P ops R i N a w):wpOpIn (zdT ρ) n P ops R i N a w:=by
 unfold wpOp at h;unfold wpOpIn;split
 .rename_i e;rw[e]at h;exact h
 .rename_i o e;rw[e]at h;have hd:=zj0 hl o (gW.2 (Array.mem_of_getElem? e));simp only at h;split at h
  .rename_i hw;rw[if_pos hw];rcases h with h|h
   .exact zbH hd h
   .exact(x0 h.2).elim
  .rename_i hw;rw[if_neg hw];exact⟨λf _=>zfn ρ f,h⟩
theorem zcp{R:Exit->Act->zh->Prop}{md:Region.Mode}(x2:¬gF R)(hl:za2 ops.toList=true):∀(x1:Nat){x0:Array Bool}{a:Act}{w:zh},wpAny P md ops R x1 x0 a w->wpAnyIn (zdT ρ) n P md ops R x1 x0 a w
 |0,_,_,_,h=>h
 |x1+1,x0,a,w,h=>⟨h.1,λi hi=>wpOpIn_mono (λ_ _ h=>zcp x2 hl x1 h) (zjh x2 hl (h.2 i hi))⟩
section regions
variable {K:Kn}{w0:zh}{X:Ownr}{k:Nat}{Y:AS}{U:Nat->zd}{R:Exit->Act->zh->Prop}
theorem zkI{Φ:Act->zh->Prop}:¬gF (λe a w=>e=.normal/\Φ a w):=λ⟨_,_,h,_⟩=>by cases h
theorem zpE(hK:KnOk P X.G K)(hX:X.Ok w0)(h:Sim w0 X k Y U a w){id:Nat}{r:List Prop×AS}(hd:za2 ops.toList=true)(hs:aSeq K k ops ops.toList Y=some r)(hp:allP r.1)
  (hR:∀U' a' w',Sim w0 X k r.2 U' a' w'->R .normal a' w'):(Code.region id ops false).wpIn (zdT ρ) n P R a w:=
 zT (wpIn_region_list (zcE (R:=λe a w=>e=.normal/\∃U',Sim w0 X k r.2 U' a w) zkI _ hd (zls hK hX _ h hs hp λU' _ _ h'=>⟨rfl,U',h'⟩))) λe a w⟨he,U',h'⟩=>by
  subst he;exact hR U' a w h'
theorem zuS(hm:P.follows .mixedOrders=true)(hK:KnOk P X.G K)(hX:X.Ok w0)(h:Sim w0 X k Y U a w){id m:Nat}(hd:za2 ops.toList=true)(hB:zsl ops m=true){r1 r2:List Prop×AS}(h1:znX K k ops (ops.toList.take m) Y=some r1)(h2:aSeq K k ops (ops.toList.drop m) r1.2=some r2)
  (x1:allP r1.1) (x0:allP r2.1) (hR:∀U' a' w',Sim w0 X k r2.2 U' a' w'->R .normal a' w'):(Code.region id ops true).wpIn (zdT ρ) n P R a w:=
 zT (wpIn_region_any hm (zcp (R:=λe a w=>e=.normal/\∃U',Sim w0 X k r2.2 U' a w) zkI hd _ (zuT hK hX h hB h1 h2 x1 x0 λU' _ _ h'=>⟨rfl,U',h'⟩))) λe a w⟨he,U',h'⟩=>by
  subst he;exact hR U' a w h'
end regions
theorem zfX{F:Fence}{c:Code}{Q:Exit->Act->zh->Prop}{ι:Type}(I:ι->Act->zh->Prop)(m:ι->Nat)(i0:ι)(h0:I i0 a w)
  (round:∀i a w,I i a w->c.wpIn F n P (Exit.then (λa' w'=>∃i',m i'<m i/\I i' a' w') Q) a w):(Code.loop c).wpIn F n P Q a w:=by
 have key:∀k i a w,m i<=k->I i a w->Code.roundsIn F n P c Q (k+1) a w:=by
  intro k
  induction k with
  |zero=>
   intro i a w hm h1;rw[roundsIn_succ];refine zT (round i a w h1) λe a' w' h3=>?_;cases e with
   |normal=>obtain⟨i',x0,_⟩:=h3;omega
   |_=>exact h3
  |succ k ih=>
   intro i a w hm h1;rw[roundsIn_succ];refine zT (round i a w h1) λe a' w' h3=>?_;cases e with
   |normal=>obtain⟨i',x0,h4⟩:=h3;exact ih i' a' w' o_ h4
   |_=>exact h3
 exact wpIn_loop_rounds (m i0+1) (key (m i0) i0 a w (zj _) h0)
theorem zdz{F:Fence}{R:Exit->Act->zh->Prop}:∀(l r:List Oper){a:Act}{w:zh},wpListIn F n P ops (λe a w=>e=.normal/\wpListIn F n P ops R r a w) l a w->wpListIn F n P ops R (l++r) a w
 | [],r,_,_,h=>h.2
 |o::l,r,a,w,h=>by
  simp only[ja,wpListIn]at h ⊢;split at h
  .rename_i hw;rw[if_pos hw];have h2:=gV (λa w h=>zdz l r h) h;refine⟨h2.1,?_⟩;have h3:=h2.2;revert h3;generalize (o.semAt F.round a.eval).run P w=x;intro h3;cases x with
   |ok x w'=>
    cases x with
    |enter f args=>
     refine⟨h3.1,h3.2.mono λe x0 he=>?_⟩;cases e with
     |returned v=>exact he
     |panicked c=>cases he.1
     |outgrown=>obtain⟨_,_,h4⟩:=he;cases h4.1
    |round l f tmps assign body=>
     refine⟨h3.1,h3.2.mono λe x0 he=>?_⟩;cases e with
     |returned v=>exact he
     |panicked c=>cases he.1
     |outgrown=>obtain⟨_,_,h4⟩:=he;cases h4.1
    |_=>exact h3
   |halt x w'=>
    cases x with
    |panic v=>cases h3.1
    |_=>exact h3
  .rename_i hw;rw[if_neg hw];exact⟨h.1,zdz l r h.2⟩
theorem zpl{o:Oper}{f:zB}{args:Array zB}{ts:Array zo}{l m:Nat}(ho:o.op=.call ⟨.value f,args,ts⟩)(hf:a.eval f=.func (.yield l) #[] #[]){N:Act->zh->Prop}{R:Exit->Act->zh->Prop}{Y0:wZ->zh->Prop}
  (hy:YieldAt yD (m-1) P l (args.map a.eval) w Y0) (hN:∀e w',Y0 e w'->∃v,e=.returned v/\N (a.put o.dst v) w'):o.wpIn yD m P a w N R:=by
 obtain⟨fn,tmps,assign,body,h1,h2⟩:=hy;refine⟨λf _=>trivial,?_⟩;have hd:∀c,o.op≠ .defer c:=λc e=>by rw[ho]at e;cases e
 rw[Oper.semAt_eq _ _ _ hd];have x0:(execOp a.eval o).run P w=.ok (.round l fn tmps assign body) w:=by
  unfold execOp;simp[ho,resolve,invoke,vd,hf,h1]
 rw[x0];refine⟨λh=>by simp[yD]at h,h2.mono λe w' he=>?_⟩;obtain⟨v,rfl,h3⟩:=hN e w' he;exact h3
end
def AWP(P:zw)(w0:zh)(X:Ownr)(n:Nat)(c:Code)(Y:AS)(Q:Exit->AS->Prop):Prop:=
 ∀U a w,Sim w0 X n Y U a w->c.wpIn (zdT X.ρ) 0 P (λe a' w'=>∃Y' U',Sim w0 X n Y' U' a' w'/\Q e Y') a w
def zhI(N:AS->Prop)(Q:Exit->AS->Prop):Exit->AS->Prop
 |.normal,Y=>N Y
 |e,Y=>Q e Y
def zi8(id:Nat)(Q:Exit->AS->Prop):Exit->AS->Prop
 |.exit j,Y=>bif yK j id then Q .normal Y else Q (.exit j) Y
 |e,Y=>Q e Y
def Sub(F:zN):List (Nat×V)->Prop
 | []=>True
 |(s,v)::r=>zn F s=v/\Sub F r
theorem Sub.get{F F':zN}(h:Sub F F'):∀s,zn F' s=zn F s\/zn F' s=⟨.junk,()⟩:=by
 induction F' with
 |nil=>exact λs=>.inr rfl
 |cons p r ih=>
  obtain⟨d,v⟩:=p;intro s;rw[zam];by_cases hs:d=s
  .rw[if_pos hs];exact .inl (hs▸h.1.symm)
  .rw[if_neg hs];exact ih h.2 s
section
variable {P:zw}{K:Kn}{w0:zh}{X:Ownr}{n:Nat}{Y:AS}{Q:Exit->AS->Prop}
theorem AWP.mono{c:Code}{Q':Exit->AS->Prop}(h:AWP P w0 X n c Y Q)(hq:∀e Y,Q e Y->Q' e Y):AWP P w0 X n c Y Q':=
 λU a w hs=>zT (h U a w hs) λe a w⟨Y',U',h1,h2⟩=>⟨Y',U',h1,hq _ _ h2⟩
theorem zaq{x y:Code}(h:AWP P w0 X n x Y (zhI (λY'=>AWP P w0 X n y Y' Q) Q)):AWP P w0 X n (.seq x y) Y Q:=
 λU a w hs=>wpIn_seq (zT (h U a w hs) λe a w⟨Y',U',h1,h2⟩=>by
  cases e with
  |normal=>exact h2 U' a w h1
  |_=>exact⟨Y',U',h1,h2⟩)
theorem zah(h:Q .normal Y):AWP P w0 X n .skip Y Q:=λU a w hs=>wpIn_skip ⟨Y,U,hs,h⟩
theorem zcQ{l:Nat}(h:Q .normal Y):AWP P w0 X n (.label l) Y Q:=λU a w hs=>wpIn_label ⟨Y,U,hs,h⟩
theorem zaw{id:Nat}(h:Q (.exit id) Y):AWP P w0 X n (.exit id) Y Q:=λU a w hs=>wpIn_exit ⟨Y,U,hs,h⟩
theorem AWP.ret(h:Q .ret Y):AWP P w0 X n .ret Y Q:=λU a w hs=>wpIn_ret ⟨Y,U,hs,h⟩
theorem zaf{c:zB}{x y:Code}{b:Bool}(hc:evO Y.F c=⟨.bool,b⟩)(ht:b=true->AWP P w0 X n x Y Q)(hf:b=false->AWP P w0 X n y Y Q):AWP P w0 X n (.cond c x y) Y Q:=by
 intro U a w hs;have h:=hs.ops c;rw[hc]at h;exact wpIn_cond_split (jQ h) (λhb=>ht hb U a w hs) (λhb=>hf hb U a w hs)
theorem zay{id:Nat}{c:Code}(h:AWP P w0 X n c Y (zi8 id Q)):AWP P w0 X n (.block id c) Y Q:=
 λU a w hs=>wpIn_block (zT (h U a w hs) λe a w⟨Y',U',h1,h2⟩=>by
  cases e with
  |exit j=>
   simp only[zi8,cond_eq_ite,xV]at h2;simp only[Exit.inBlock];split
   .rename_i hj;rw[if_pos hj]at h2;exact⟨Y',U',h1,h2⟩
   .rename_i hj;rw[if_neg hj]at h2;exact⟨Y',U',h1,h2⟩
  |_=>exact⟨Y',U',h1,h2⟩)
def pkG(P:zw)(w0:zh)(X:Ownr)(n:Nat):Code->AS->(Exit->AS->Prop)->Prop
 |.seq x y,Y,Q=>pkG P w0 X n x Y (zhI (λs=>AWP P w0 X n y s Q) Q)
 |.block i x,Y,Q=>pkG P w0 X n x Y (zi8 i Q)
 |.skip,Y,Q=>Q .normal Y
 |.exit i,Y,Q=>Q (.exit i) Y
 |c,Y,Q=>AWP P w0 X n c Y Q
theorem AWP.go{c:Code}(h:pkG P w0 X n c Y Q):AWP P w0 X n c Y Q:=by
 induction c generalizing Y Q with
 |seq x y ihx _=>exact zaq (ihx h)
 |block i x ih=>exact zay (ih h)
 |skip=>exact zah h
 |exit i=>exact zaw h
 |_=>exact h
theorem zac(hX:X.Ok w0)(hK:KnOk P X.G K){id:Nat}{ops:Array Oper}{r:List Prop×AS}(hs:aSeq K n ops ops.toList Y=some r)(hp:allP r.1)(hq:Q .normal r.2)(hd:za2 ops.toList=true:=by rfl):AWP P w0 X n (.region id ops false) Y Q:=
 λ_ _ _ h=>zpE hK hX h hd hs hp λU' _ _ h'=>⟨r.2,U',h',hq⟩
theorem zpg(hm:P.follows .mixedOrders=true)(hX:X.Ok w0)(hK:KnOk P X.G K){id:Nat}{ops:Array Oper}(m:Nat)(hB:zsl ops m=true){r1 r2:List Prop×AS}(h1:znX K n ops (ops.toList.take m) Y=some r1)(h2:aSeq K n ops (ops.toList.drop m) r1.2=some r2)
  (x1:allP r1.1) (x0:allP r2.1) (hq:Q .normal r2.2) (hd:za2 ops.toList=true:=by rfl):AWP P w0 X n (.region id ops true) Y Q:=
 λ_ _ _ h=>zuS hm hK hX h hd hB h1 h2 x1 x0 λU' _ _ h'=>⟨r2.2,U',h',hq⟩
theorem AWP.weaken{c:Code}{F':zN}(hF:Sub Y.F F')(h:AWP P w0 X n c { Y with F:=F' } Q):AWP P w0 X n c Y Q:=
 λU a w hs=>h U a w (hs.weaken hF.get)
def SubE(E:Owns):List (Nat×Option OObj)->Prop
 | []=>True
 |(i,some o)::r=>zm E i=some o/\SubE E r
 |(_,none)::r=>SubE E r
theorem SubE.get{E E':Owns}(h:SubE E E'):∀i o,zm E' i=some o->zm E i=some o:=by
 induction E' with
 |nil=>intro i o h;cases h
 |cons p r ih=>
  obtain⟨j,q⟩:=p;intro i o hi;rw[zab]at hi;cases q with
  |none=>
   by_cases hj:j=i
   .rw[if_pos hj]at hi;cases hi
   .rw[if_neg hj]at hi;exact ih h i o hi
  |some q=>
   by_cases hj:j=i
   .rw[if_pos hj]at hi;cases hi;exact hj▸h.1
   .rw[if_neg hj]at hi;exact ih h.2 i o hi
def bndB(k:Nat):List (Nat×V)->Bool
 | []=>true
 |(_,v)::r=>Nat.ble v.bound k&&bndB k r
def bndV(k:Nat):List V->Bool
 | []=>true
 |v::r=>Nat.ble v.bound k&&bndV k r
theorem zvb{k:Nat}{vs:List V}(h:bndV k vs=true):∀v,v∈vs->v.bound<=k:=by
 induction vs with
 |nil=>intro v hv;cases hv
 |cons a r ih=>
  simp only[bndV,zf,jF]at h;intro v hv;rcases zs.1 hv with rfl|hv
  .exact h.1
  .exact ih h.2 v hv
def bndE(k:Nat):List (Nat×Option OObj)->Bool
 | []=>true
 |(i,some (.hbox _ vs))::r=>zM i k&&bndV k vs&&bndE k r
 |(i,_)::r=>zM i k&&bndE k r
theorem zdx{k:Nat}{F:zN}(h:bndB k F=true)(s:Nat):(zn F s).bound<=k:=by
 induction F with
 |nil=>exact zk _
 |cons p r ih=>
  obtain⟨d,v⟩:=p;simp only[bndB,zf,jF]at h;rw[zam];by_cases hs:d=s
  .rw[if_pos hs];exact h.1
  .rw[if_neg hs];exact ih h.2
theorem zs9{k j:Nat}{q:Option OObj}{r:Owns}(h:bndE k ((j,q)::r)=true):j<k/\(∀o,q=some o->o.under k)/\bndE k r=true:=by
 cases q with
 |none=>
  simp only[bndE,zf]at h;exact⟨by simpa using h.1,(λ_ e=>by cases e),h.2⟩
 |some q=>
  cases q with
  |hbox ty vs=>
   simp only[bndE,zf]at h;refine⟨by simpa using h.1.1,λo e=>?_,h.2⟩;cases e;intro ws e;cases e;exact zvb h.1.2
  |_=>
   simp only[bndE,zf]at h;refine⟨by simpa using h.1,λo e=>?_,h.2⟩;cases e;intro ws e;cases e
theorem zgN{k:Nat}{E:Owns}(h:bndE k E=true){i:Nat}{o:OObj}(hi:zm E i=some o):i<k/\o.under k:=by
 induction E with
 |nil=>cases hi
 |cons p r ih=>
  obtain⟨j,q⟩:=p;obtain⟨h1,h2,h3⟩:=zs9 h;rw[zab]at hi;by_cases hj:j=i
  .rw[if_pos hj]at hi;exact⟨hj▸h1,h2 o hi⟩
  .rw[if_neg hj]at hi;exact ih h3 hi
theorem zlo{k:Nat}{E:Owns}(h:bndE k E=true){i:Nat}{o:OObj}(hi:zm E i=some o):i<k:=(zgN h hi).1
structure Fit(Y Y':AS):Prop where
 f:Sub Y.F Y'.F
 e:SubE Y.E Y'.E
 bf:bndB Y'.nx Y'.F=true
 be:bndE Y'.nx Y'.E=true
theorem Sim.fit{U:Nat->zd}{a:Act}{w:zh}(h:Sim w0 X n Y U a w){Y':AS}(hf:Fit Y Y')(x0:X.K<=Y'.nx):Sim w0 X n Y' U a w:=by
 have hk:qz w w (OSet X Y.E U) (OSet X Y'.E U):=⟨zj _,λ_ _ _=>rfl,λg _ hg=>by
  rcases hg with hg|⟨j,oj,h1,h2⟩
  .exact .inl hg
  .exact .inr ⟨j,oj,hf.e.get j oj h1,h2⟩⟩
 refine⟨h.sz,h.df,h.bel,λs=>?_,λi o ho=>(h.own i o (hf.e.get i o ho)).keep hk λ_ _=>rfl,λi o g ho=>h.new i o g (hf.e.get i o ho),λi j oi oj hi hj=>h.inj i j oi oj (hf.e.get i oi hi) (hf.e.get j oj hj),λi o ho=>zlo hf.be ho,⟨x0,λi hi=>⟨(h.fix.2 i hi).1,λo ho=>(h.fix.2 i hi).2 o (hf.e.get i o ho)⟩⟩,λs=>zdx hf.bf s,λi o ho=>(zgN hf.be ho).2⟩;rcases hf.f.get s with e|e
 .rw[e];exact zZ hk _ _ _ (h.fr s)
 .rw[e];trivial
theorem zak{c:Code}{Y':AS}(hf:Fit Y Y')(h:AWP P w0 X n c Y' Q)(hk:X.K<=Y'.nx:=by exact zq rfl):AWP P w0 X n c Y Q:=
 λU a w hs=>h U a w (hs.fit hf hk)
theorem AWP.loop{c:Code}{ι:Type}(G:ι->AS)(J:ι->Prop)(m:ι->Nat)(i0:ι)(hJ:J i0)(h0:Fit Y (G i0))
  (round:∀i,J i->AWP P w0 X n c (G i) (zhI (λY'=>∃i',J i'/\m i'<m i/\Fit Y' (G i')) Q)) (hk:∀i,X.K<=(G i).nx:=by exact λ_=>zq rfl):AWP P w0 X n (.loop c) Y Q:=by
 intro U a w hs;exact zfX (λi a w=>J i/\∃U,Sim w0 X n (G i) U a w) m i0 ⟨hJ,U,hs.fit h0 (hk _)⟩ λi a w⟨hj,U,h1⟩=>zT (round i hj U a w h1) λe a' w'⟨Y',U',h2,h3⟩=>by
  cases e with
  |normal=>obtain⟨i',x1,x0,hf⟩:=h3;exact⟨i',x0,x1,U',h2.fit hf (hk _)⟩
  |_=>exact⟨Y',U',h2,h3⟩
theorem AWP.len{c:Code}(s:Nat){t:Ty}{xs:List t.T}(hs:zn Y.F s=⟨.slice t,xs⟩)(h:xs.length<=maxLen->AWP P w0 X n c Y Q):AWP P w0 X n c Y Q:=by
 intro U a w x0;have h1:=x0.fr s;rw[hs]at h1;have h1:RepV w (OSet X Y.E U) U (.slice t) xs _:=h1;obtain⟨A,k,_,h2,h3⟩:=(RepV.slice h1).nlen;exact h o_ U a w x0
theorem zlt{c:Code}(s:Nat){l:List UInt8}(hs:zn Y.F s=⟨.str,l⟩)(h:l.length<=maxLen->AWP P w0 X n c Y Q):AWP P w0 X n c Y Q:=by
 intro U a w x0;have h1:=x0.fr s;rw[hs]at h1;exact h (RepV.str h1).2 U a w x0
theorem AWP.frz(hX:X.Ok w0)(s:Nat){c:Code}(h:AWP P w0 X n c (kr Y (.tmp s)) Q):AWP P w0 X n c Y Q:=
 λU a w hs=>h U a w (hs.frz hX (.tmp s))
theorem zhl(hX:X.Ok w0)(s:Nat)(te:zo)(Z:Ty){c:Code}(hs:zn Y.F s=⟨.lit,.slice none 0 0⟩)(hn:zM s n=true)(x3:zM 0 Z.size=true)
  (h:AWP P w0 X n c ⟨(s,⟨.obuf Z,Y.nx⟩)::Y.F,(Y.nx,some (.buf te Z []))::Y.E,Y.nx+1⟩ Q):AWP P w0 X n c Y Q:=by
 intro U a w x0;have h1:=x0.fr s;rw[hs]at h1;have h1:a.tmps.getD s undef=.slice none 0 0:=h1;have x1:s<n:=by simpa using hn
 obtain⟨U',h2⟩:=x0.make hX (zR _ w) (bv:=.slice none 0 0) (o:=.buf te Z []) (v:=⟨.obuf Z,Y.nx⟩) (u:=.slice none 0 0) (d:=s)
  (λO _ _=>⟨[],rfl,⟨by simp,.inl ⟨rfl,rfl⟩⟩,by simpa using x3⟩) (λg hg=>by cases hg) (λO U' x2=>x2.symm) (zj _) x1
 have h3:a.put (some s) (.slice none 0 0)=a:=by
  obtain⟨tmps,defers⟩:=a;simp only[Act.put]
  congr 1
  have h4:s<tmps.size:=by have:=x0.sz;simp only at this;omega
  apply Array.ext
  .simp
  .intro i x5 x4;by_cases e:s=i
   .subst e;have h5:tmps[s]=.slice none 0 0:=by simpa [vm,h4] using h1
    rw[h5];simp
   .rw[Array.getElem_setIfInBounds,if_neg e]
 rw[h3]at h2;exact h U' a w h2
def zdu:(ts:List Ty)->Args ts->Nat->List (Nat×V)
 | [],_,_=>[]
 |t::r,x,s=>(s,⟨t,x.1⟩)::zdu r x.2 (s+1)
def zju(ts:List Ty)(xs:Args ts):AS:=⟨zdu ts xs 0,[],0⟩
def rOf(T:Tbl)(Y:AS):jw->Option (List Prop×V)
 |.tmp s=>some ([],zn Y.F s)
 |.cell s t=>zl6 T Y.E t (zn Y.F s)
def zpC(T:Tbl)(Y:AS):List jw->(t:Ty)->Option (List Prop×t.T)
 | [],.unit=>some ([],())
 |r::rs,.tup a b=>match rOf T Y r with
  |some (p,v)=>match coe a (dat Y.E v),zpC T Y rs b with
   |some x,some (q,y)=>some (p++q,(x,y))
   |_,_=>none
  |none=>none
 |_,_=>none
def Ty.tupData:Ty->Bool
 |.tup a b=>a.data&&b.tupData
 |.unit=>true
 |_=>false
def Done(T:Tbl)(rs:List jw)(Y:AS)(own:Option zo)(t:Ty)(x:t.T):Prop:=
 match own,rs with
 |none,[r]=>∃p v,rOf T Y r=some (p,v)/\allP p/\t.argOk=true/\coe t (dat Y.E v)=some x
 |none,rs=>rs.length≠1/\t.tupData=true/\∃p,zpC T Y rs t=some (p,x)/\allP p
 |some te,[.tmp s]=>∃(Z x0:Ty)(i:Nat)(xs:List Z.T),zn Y.F s=⟨.obuf x0,i⟩/\zm Y.E i=some (.buf te Z xs)/\(⟨t,x⟩:V)=⟨.slice Z,xs⟩
 |_,_=>False
theorem zdJ{w:zh}{O:Nat->Prop}{U:Nat->zd}:∀(ts:List Ty)(xs:Args ts)(vs:List zd)(pre post:List zd),zaN ts=true->RepA w O ts xs vs->∀s,RepV w O U (zn (zdu ts xs pre.length) s).t (zn (zdu ts xs pre.length) s).x ((pre++vs++post).toArray.getD s undef)
 | [],_,_,_,_,_,_,_=>trivial
 |t::ts,xs,vs,pre,post,hd,h,s=>by
  obtain⟨v,r,rfl,h1,h2⟩:=h;simp only[zaN,zf]at hd;simp only[zdu];rw[zam];by_cases hs:pre.length=s
  .rw[if_pos hs];subst hs;have:(pre++v::r++post).toArray.getD pre.length undef=v:=by simp[vm]
   rw[this];exact zgm hd.1 h1
  .rw[if_neg hs];have:=zdJ (U:=U) ts xs.2 r (pre++[v]) post hd.2 h2 s;rw[show(pre++[v]).length=pre.length+1 by simp]at this
   simpa using this
theorem zyr{t:Ty}(ht:t.argOk=true){x:t.T}:bnd t x=0:=by
 cases t<;>first|rfl|(cases ht;done)
theorem zpB{w:zh}{O:Nat->Prop}{U:Nat->zd}{B:Nat}{t:Ty}(ht:t.argOk=true){x:t.T}{v:zd}(h:RepV w O U t x v):zdb w O B none t x v:=by
 cases t<;>first|exact h|exact λU'=>zgm ht h|(cases ht;done)
theorem zcx:∀(ts:List Ty)(xs:Args ts)(k s:Nat),zaN ts=true->(zn (zdu ts xs k) s).bound=0
 | [],_,_,_,_=>rfl
 |t::ts,xs,k,s,hd=>by
  simp only[zaN,zf]at hd;simp only[zdu,zam];by_cases hs:k=s
  .rw[if_pos hs];exact zyr hd.1
  .rw[if_neg hs];exact zcx ts xs.2 (k+1) s hd.2
structure Seen(w0:zh)(X:Ownr)(Y:AS)(U:Nat->zd)(a:Act)(w:zh):Prop where
 fr:∀s,RepV w (OSet X Y.E U) U (zn Y.F s).t (zn Y.F s).x (a.tmps.getD s undef)
 own:∀i o,zm Y.E i=some o->xC w (OSet X Y.E U) U 0 (U i) o
 new:∀i o g,zm Y.E i=some o->zag (U i)=some g->w0.heap.size<=g\/X.R g
theorem Sim.seen{U:Nat->zd}{a:Act}{w:zh}(h:Sim w0 X n Y U a w):Seen w0 X Y U a w:=⟨h.fr,h.own,h.new⟩
theorem zo4{U:Nat->zd}{a:Act}{w:zh}(h:Seen w0 X Y U a w)(hX:X.Ok w0){v:V}{u:zd}(hr:RepV w (OSet X Y.E U) U v.t v.x u):RepV w X.X U (dat Y.E v).t (dat Y.E v).x u:=by
 have hk:qz w w (OSet X Y.E U) X.X:=⟨zj _,λ_ _ _=>rfl,λ_ _ h=>.inl h⟩;obtain⟨t,x⟩:=v;cases t with
 |obuf t=>
  have h':u=U x:=hr;subst h';cases he:zm Y.E x with
  |none=>
   have e:dat Y.E ⟨.obuf t,x⟩=⟨.junk,()⟩:=by simp only[dat,he]
   rw[e];trivial
  |some o=>
   cases o with
   |box t' x'=>
    have e:dat Y.E ⟨.obuf t,x⟩=⟨.junk,()⟩:=by simp only[dat,he]
    rw[e];trivial
   |hbox ty vs=>
    have e:dat Y.E ⟨.obuf t,x⟩=⟨.junk,()⟩:=by simp only[dat,he]
    rw[e];trivial
   |mp m I=>
    have e:dat Y.E ⟨.obuf t,x⟩=⟨.junk,()⟩:=by simp only[dat,he]
    rw[e];trivial
   |buf te t' xs=>
    have e:dat Y.E ⟨.obuf t,x⟩=⟨.slice t',xs⟩:=by simp only[dat,he]
    rw[e];exact(h.own x _ he).view (λ_ _ h=>.inl h) λg hg x0=>by
     have h3:=hX.1 g x0;rcases h.new x _ g he hg with h4|h4
     .omega
     .exact h3.2 h4
 |_=>exact zZ hk _ _ _ hr
theorem zpX{t:zo}{A:Addr}{u:zd}{w:zh}(h:(Instr.loadAt t (.pointer (some A))).run P w=.ok u w):(loadVar t A).run P w=.ok u w:=by
 simpa [Instr.loadAt,Instr.sureAddr] using h
theorem zjM(hK:KnOk P X.G K)(hX:X.Ok w0){U:Nat->zd}{a:Act}{w:zh}(h:Seen w0 X Y U a w){r:jw}{p:List Prop}{v:V}(hr:rOf K.T Y r=some (p,v))(hp:allP p):
  ∃u,(match r with |.tmp t=>(pure (a.tmps.getD t undef):Sem zd)|.cell s t=>do loadVar t (<-asAddr (a.tmps.getD s undef))).run P w=.ok u w/\RepV w (OSet X Y.E U) U v.t v.x u:=by
 cases r with
 |tmp s=>
  cases hr;exact⟨_,rfl,h.fr s⟩
 |cell s t=>
  have hf:=h.fr s;have x0:zl6 K.T Y.E t (zn Y.F s)=some (p,v):=hr;obtain⟨u,h1,h3⟩:=zl5 (P:=P) hK.t h.own x0 hp hf;have hptr:∃A,a.tmps.getD s undef=.pointer (some A):=by
   revert hf x0;generalize zn Y.F s=fv;obtain⟨ft,fx⟩:=fv;intro hf x0;cases ft<;>simp only[zl6,reduceCtorEq]at x0
   .obtain⟨g,off,cs,e,_⟩:=hf;exact⟨_,e⟩
   .obtain⟨g,_,e⟩:=hf;exact⟨_,e⟩
   .obtain⟨g,_,e⟩:=hf;exact⟨_,e⟩
   .obtain⟨cs,e,_⟩:=hf;exact⟨_,e⟩
  obtain⟨A,hA⟩:=hptr;rw[hA]at h1;refine⟨u,?_,h3⟩;simp only[hA,asAddr,zK,zF,zG];exact zpX h1
def resM(tmps:Array zd):jw->Sem zd
 |.tmp t=>pure (tmps.getD t undef)
 |.cell s t=>do loadVar t (<-asAddr (tmps.getD s undef))
theorem zjL(fn:Func)(tmps:Array zd):results fn tmps=(do let vs<-fn.results.mapM (resM tmps);pure (if h:vs.size=1 then vs[0] else .tuple vs):Sem zd):=by
 unfold results
 congr 1
theorem zlR(hK:KnOk P X.G K)(hX:X.Ok w0){U:Nat->zd}{a:Act}{w:zh}(h:Seen w0 X Y U a w):∀(rs:List jw)(t:Ty)(p:List Prop)(x:t.T),t.tupData=true->zpC K.T Y rs t=some (p,x)->allP p->
  ∃us,(rs.mapM (resM a.tmps)).run P w=.ok us w/\us.length=rs.length/\RepTup w X.X t x us
 | [],.unit,p,x,_,hr,_=>⟨[],by simp,rfl,rfl⟩
 |r::rs,.tup c b,p,x,hd,hr,hp=>by
  simp only[zpC]at hr;simp only[Ty.tupData,zf]at hd;split at hr
  .rename_i p1 v hv;split at hr
   .rename_i y q z hy hz;cases hr;rw[zat]at hp;obtain⟨u,h1,h2⟩:=zjM hK hX h hv hp.1;obtain⟨us,h3,h4,h5⟩:=zlR hK hX h rs b q z hd.2 hz hp.2;have x0:(resM a.tmps r).run P w=.ok u w:=by cases r<;>exact h1
    exact⟨u::us,by simp[List.mapM_cons,x0,h3],by simp[h4],u,us,rfl,zhe hd.1 hy (zo4 h hX h2),h5⟩
   .cases hr
  .cases hr
 | [],.tup _ _,_,_,_,hr,_=>by cases hr
 |_::_,.unit,_,_,_,hr,_=>by cases hr
 |_,.bool,_,_,hd,_,_=>by cases hd
 |_,.int _,_,_,hd,_,_=>by cases hd
 |_,.str,_,_,hd,_,_=>by cases hd
 |_,.pair _ _,_,_,hd,_,_=>by cases hd
 |_,.arr _ _,_,_,hd,_,_=>by cases hd
 |_,.slice _,_,_,hd,_,_=>by cases hd
 |_,.junk,_,_,hd,_,_=>by cases hd
 |_,.lit,_,_,hd,_,_=>by cases hd
 |_,.vptr _,_,_,hd,_,_=>by cases hd
 |_,.cptr _ _ _,_,_,hd,_,_=>by cases hd
 |_,.optr _,_,_,hd,_,_=>by cases hd
 |_,.obuf _,_,_,hd,_,_=>by cases hd
 |_,.cond _,_,_,hd,_,_=>by cases hd
theorem zpz{w:zh}{O:Nat->Prop}{B:Nat}:∀(t:Ty)(x:t.T)(us:List zd),t.tupData=true->us.length≠1->RepTup w O t x us->(t=.unit->False)->zdb w O B none t x (.tuple us.toArray):=by
 intro t;cases t<;>intro x us hd hl h hu<;>first
  |exact λU=>⟨us,rfl,h⟩
  |(cases hd;done)
  |exact(hu rfl).elim
theorem OwnRep.raise{w:zh}{O:Nat->Prop}{U:Nat->zd}{B B':Nat}{bv:zd}{o:OObj}(h:xC w O U B bv o)(hB:∀g,zag bv=some g->B'<=g):xC w O U B' bv o:=by
 cases o with
 |box t x=>
  obtain⟨g,cs,ty,e,h1,h2⟩:=h;exact⟨g,cs,ty,e,hB g (by rw[e];rfl),h2⟩
 |buf te t xs=>
  obtain⟨cs,h1,h2,h3⟩:=h;refine⟨cs,h1,⟨h2.1,?_⟩,h3⟩;rcases h2.2 with h4|⟨g,cap,cur,e,h5,h6⟩
  .exact .inl h4
  .exact .inr ⟨g,cap,cur,e,hB g (by rw[e];rfl),h6⟩
 |hbox ty vs=>
  obtain⟨g,cs,e,h1,h2⟩:=h;exact⟨g,cs,e,hB g (by rw[e];rfl),h2⟩
 |mp m I=>
  obtain⟨ms,ck,e,h1,h2⟩:=h;exact⟨ms,ck,e,hB m (by rw[e];rfl),h2⟩
theorem zlc(hK:KnOk P X.G K)(hX:X.Ok w0){U:Nat->zd}{a:Act}{w:zh}(h:Seen w0 X Y U a w){fn:Func}{own:Option zo}{t:Ty}{x:t.T}(hd:Done K.T fn.results.toList Y own t x)(hR:own=none\/∀g,¬X.R g):
  ∃v,(results fn a.tmps).run P w=.ok v w/\(t=.unit\/zdb w X.X w0.heap.size own t x v):=by
 rw[zjL];have x0:∀us,(fn.results.toList.mapM (resM a.tmps)).run P w=.ok us w->(fn.results.mapM (resM a.tmps)).run P w=.ok us.toArray w:=λus x2=>by
  rw[wG];simp[x2]
 unfold Done at hd;split at hd
 .rename_i r hr;obtain⟨p,v,h1,h2,h3,h4⟩:=hd;obtain⟨u,h5,h6⟩:=zjM hK hX h h1 h2;have x3:(resM a.tmps r).run P w=.ok u w:=by cases r<;>exact h5
  have hm:=x0 [u] (by rw[hr];simp[x3]);refine⟨u,by simp[hm],.inr (zpB h3 (zh2 h4 (zo4 h hX h6)))⟩
 .obtain⟨h1,h2,p,h3,h4⟩:=hd;obtain⟨us,h5,h6,h7⟩:=zlR hK hX h _ _ _ _ h2 h3 h4;have hm:=x0 us h5;have hl:us.length≠1:=by rw[h6];exact h1
  refine⟨.tuple us.toArray,by simp[hm,hl],?_⟩;by_cases x1:t=.unit
  .exact .inl x1
  .exact .inr (zpz _ _ _ h2 hl h7 x1)
 .rename_i te s hr;obtain⟨Z,x4,i,xs,h1,h2,h3⟩:=hd;cases h3;have hf:=h.fr s;rw[h1]at hf;have hu:=hf;have hm:=x0 [a.tmps.getD s undef] (by rw[hr];simp[resM]);refine⟨U i,by rw[zK,hm, <-hu];simp,.inr ?_⟩;refine OwnRep.keep (OwnRep.raise (h.own i _ h2) λg hg=>?_) ⟨zj _,λ_ _ _=>rfl,λg _ hg=>hg.imp id λhg=>⟨i,_,h2,hg⟩⟩ λ_ _=>rfl;rcases h.new i _ g h2 hg with h4|h4
  .exact h4
  .rcases hR with h5|h5
   .cases h5
   .exact(h5 g h4).elim
 .exact hd.elim
theorem zpA{w:zh}{O O':Nat->Prop}{B B':Nat}(hs:∀k,O' k->O k):∀(t:Ty)(x:t.T)(v:zd),zdb w O B none t x v->zdb w O' B' none t x v:=by
 have hk:qz w w O O':=⟨zj _,λ_ _ _=>rfl,λk _ h=>hs k h⟩;intro t;cases t<;>intro x v h<;>first|exact RepD.keep hk h|exact λU=>zZ hk _ _ _ (h U)
def zme:Option OObj->Option OObj
 |some (.box t x)=>some (.box t x)
 |_=>none
def zgw(I:List Nat):List (Nat×Option OObj)->List (Nat×Option OObj)
 | []=>[]
 |(i,o)::r=>(i,bif I.any (yK i) then none else zme o)::zgw I r
theorem zmg(I:List Nat)(E:Owns)(j:Nat):zm (zgw I E) j=if I.any (yK j)=true then none else zme (zm E j):=by
 induction E with
 |nil=>
  split<;>rfl
 |cons p E ih=>
  obtain⟨i,o⟩:=p;have e:zgw I ((i,o)::E)=(i,bif I.any (yK i) then none else zme o)::zgw I E:=rfl;rw[e,zab,zab,ih];by_cases h:i=j
  .subst h;rw[if_pos rfl,if_pos rfl];cases I.any (yK i)<;>rfl
  .rw[if_neg h,if_neg h]
theorem zgI(hK:KnOk P X.G K)(hX:X.Ok w0){U:Nat->zd}{a:Act}{w:zh}(h:Sim w0 X n Y U a w)(I:List Nat){fn:Func}{t:Ty}{x:t.T}(hd:Done K.T fn.results.toList ⟨Y.F,zgw I Y.E,Y.nx⟩ none t x){O':Nat->Prop}
  (x7:∀k,O' k->X.X k\/∃i o,zm Y.E i=some o/\zag (U i)=some k/\(I.any (yK i)=true\/zme (some o)=none)):
  ∃v,(results fn a.tmps).run P w=.ok v w/\(t=.unit\/zdb w O' w.heap.size none t x v):=by
 have x0:∀i o,zm (zgw I Y.E) i=some o->zm Y.E i=some o/\I.any (yK i)=false/\zme (some o)≠none:=λi o ho=>by
  rw[zmg]at ho;split at ho
  .cases ho
  .rename_i hi;cases he:zm Y.E i with
   |none=>rw[he]at ho;cases ho
   |some o'=>
    rw[he]at ho;cases o' with
    |box t x=>cases ho;exact⟨rfl,Bool.eq_false_iff.2 hi,by simp[zme]⟩
    |buf te t xs=>cases ho
    |hbox ty vs=>cases ho
    |mp m I=>cases ho
 let X':Ownr:={ X with X:=λk=>X.X k\/∃i o,zm Y.E i=some o/\zag (U i)=some k/\(I.any (yK i)=true\/zme (some o)=none),K:=0,B:=λk=>∃i o,zm (zgw I Y.E) i=some o/\zag (U i)=some k }
 have hR:∀k,X'.R k->∃i o,zm (zgw I Y.E) i=some o/\zag (U i)=some k:=λk hr=>hr.elim (λ⟨_,h,_⟩=>absurd h (yH _)) id;have x4:∀k,X'.R k->w0.heap.size<=k\/X.R k:=λk hr=>by
  obtain⟨i,o,h1,h2⟩:=hR k hr;exact h.new i o k (x0 i o h1).1 h2
 have x6:X'.Ok w:=by
  refine⟨λk hk=>⟨?_,λhr=>?_⟩,λk hr=>?_,λw' hk=>hX.2.2 w' ⟨hk.os.trans h.bel.os,hk.tape.trans h.bel.tape,hk.output.trans h.bel.output,zJ h.bel.size hk.size,λk x3 hr=>(hk.block k (zy x3 h.bel.size) λx5=>?_).trans (h.bel.block k x3 hr)⟩⟩
  .rcases hk with hk|⟨i,o,h1,h2,_⟩
   .exact zy (hX.1 k hk).1 h.bel.size
   .exact((h.own i o h1).block_lt h2).2
  .obtain⟨j,oj,h3,h4⟩:=hR k hr;obtain⟨h5,h6,h7⟩:=x0 j oj h3;rcases hk with hk|⟨i,o,h1,h2,h8⟩
   .have h9:=hX.1 k hk;rcases x4 k hr with h10|h10
    .omega
    .exact h9.2 h10
   .by_cases x2:i=j
    .subst x2;rw[h5]at h1;cases h1;rcases h8 with h8|h8
     .rw[h6]at h8;cases h8
     .exact h7 h8
    .exact h.inj i j o oj h1 h5 x2 k h2 h4
  .obtain⟨j,oj,h3,h4⟩:=hR k hr;exact((h.own j oj (x0 j oj h3).1).block_lt h4).2
  .rcases x4 k x5 with h10|h10
   .omega
   .exact hr h10
 have hS:OSet X' (zgw I Y.E) U=OSet X Y.E U:=by
  funext k
  apply propext;constructor
  .rintro ((hk|⟨i,o,h1,h2,_⟩)|⟨i,o,h1,h2⟩)
   .exact .inl hk
   .exact .inr ⟨i,o,h1,h2⟩
   .exact .inr ⟨i,o,(x0 i o h1).1,h2⟩
  .rintro (hk|⟨i,o,h1,h2⟩)
   .exact .inl (.inl hk)
   .by_cases hI:I.any (yK i)=true
    .exact .inl (.inr ⟨i,o,h1,h2,.inl hI⟩)
    .cases ho:zme (some o) with
     |none=>exact .inl (.inr ⟨i,o,h1,h2,.inr ho⟩)
     |some o'=>
      refine .inr ⟨i,o',?_,h2⟩;rw[zmg,if_neg hI,h1,ho]
 have x1:Seen w X' ⟨Y.F,zgw I Y.E,Y.nx⟩ U a w:=by
  refine⟨λs=>?_,λi o ho=>?_,λi o k ho hb=>.inr (.inr ⟨i,o,ho,hb⟩)⟩
  .
   rw[hS];exact h.fr s
  .
   rw[hS];exact h.own i o (x0 i o ho).1
 obtain⟨v,h1,h2⟩:=zlc (X:=X') hK x6 x1 hd (.inl rfl);exact⟨v,h1,h2.imp id (zpA x7 _ _ _)⟩
theorem zeq{w:zh}{O:Nat->Prop}:∀(ts:List Ty)(xs:Args ts)(vs:List zd),RepA w O ts xs vs->vs.length=ts.length
 | [],_,_,h=>by cases h;rfl
 |t::ts,xs,vs,h=>by obtain⟨v,r,rfl,_,h2⟩:=h;simp[zeq ts xs.2 r h2]
theorem zj9{G:zh->Prop}(hK:KnOk P G K){f:zV}{fn:Func}{c:Code}{ctr:Ctr}(hf:P.funcs[f]? =some fn)(hb:fn.body=some c)(hn:fn.ntmps=n)
  (x5:∀(zas:Array zd)(w:zh),(callFunc f zas).run P w=.ok (.enter f zas) w) (hd:zaN ctr.args=true) (hlen:ctr.args.length<=n) (x3:ctr.res=.unit->False)
  (h:∀(w0:zh)(X:Nat->Prop),(jj G X).Ok w0->∀xs:Args ctr.args,allP (ctr.pre xs)->AWP P w0 (jj G X) n c (zju ctr.args xs) (λe Y=>(e=.normal\/e=.ret)/\Done K.T fn.results.toList Y ctr.own ctr.res (ctr.out xs))):CtrOk P G f ctr:=by
 refine⟨x5,λw O xs vs hO x1 hp hG=>calls_of_wp hf hb ?_⟩;have x4:=zeq _ _ _ x1
 let X:Ownr:=jj G O
 have x0:∀g,¬X.R g:=Ownr.plain_noR _ _;have hX:X.Ok w:=⟨λg hg=>⟨hO g hg,x0 g⟩,λg hg=>(x0 g hg).elim,λw' hk=>hK.st w w' hG (hk.below x0)⟩;have x2:Sim w X n (zju ctr.args xs) (λ_=>undef) { tmps:=vs.toArray++zD (fn.ntmps-vs.toArray.size) undef,defers:=[] } w:=by
  have hE:OSet X (zju ctr.args xs).E (λ_=>undef)=O:=by
   funext g
   apply propext;constructor
   .rintro (h|⟨i,o,h,_⟩)
    .exact h
    .cases h
   .exact λh=>.inl h
  refine⟨by simp[hn,x4];omega,rfl,jx _ _,λs=>?_,λi o h=>(by cases h),λi o g h=>(by cases h),λi j oi oj h=>(by cases h),λi o h=>(by cases h),⟨zk _,λi h=>(by cases h)⟩,λs=>?_,λi o h=>(by cases h)⟩
  .rw[hE];have:=zdJ (U:=λ_=>undef) ctr.args xs vs [] (zr (fn.ntmps-vs.length) undef) hd x1 s;simp only[xH,yC]at this;have e:(vs.toArray++zD (fn.ntmps-vs.toArray.size) undef)=(vs++zr (fn.ntmps-vs.length) undef).toArray:=by simp
   show RepV w O _ _ _ ((vs.toArray++zD (fn.ntmps-vs.toArray.size) undef).getD s undef);rw[e];exact this
  .show(zn (zdu ctr.args xs 0) s).bound<=0;rw[zcx _ _ _ _ hd];exact zj _
 refine wp_mono (wpIn_wide.1 (h w O hX xs hp _ _ _ x2)) λe a' w'⟨Y',U',h1,h2,h3⟩=>?_;obtain⟨v,h4,h5⟩:=zlc (X:=X) hK hX h1.seen h3 (.inr x0);have h5:=h5.resolve_left x3;have hb:=h1.bel.below x0;rcases h2 with rfl|rfl
 .exact⟨h1.df,v,h4,v,rfl,hb,h5⟩
 .exact⟨h1.df,v,h4,v,rfl,hb,h5⟩
def zsi(r:Ty)(x:r.T)(ts:List Ty)(xs:Args ts):AS:=⟨(0,⟨.optr r,⟨0,r,.here⟩⟩)::zdu ts xs 1,[(0,some (.box r x))],1⟩
theorem zer{G:zh->Prop}(hK:KnOk P G K){f:zV}{fn:Func}{c:Code}{ctr:RCtr}(hf:P.funcs[f]? =some fn)(hb:fn.body=some c)(hn:fn.ntmps=n)
  (xf:∀(zas:Array zd)(w:zh),(callFunc f zas).run P w=.ok (.enter f zas) w) (hd:zaN ctr.args=true) (hlen:ctr.args.length+1<=n) (xb:∀w w' g,ctr.inv w g->G w->Kept (λh=>h=g) w w'->G w')
  (h:∀(w0:zh)(O:Nat->Prop)(g:Nat),(fZ G O g).Ok w0->ctr.inv w0 g->∀(x:ctr.self.T)(xs:Args ctr.args),allP (ctr.pre x xs)->
    AWP P w0 (fZ G O g) n c (zsi ctr.self x ctr.args xs) (λe Y=>(e=.normal\/e=.ret)/\zm Y.E 0=some (.box ctr.self (ctr.post x xs))/\Done K.T fn.results.toList ⟨Y.F,zgw [0] Y.E,Y.nx⟩ none ctr.res (ctr.out x xs))):zfU P G f ctr:=by
 refine⟨xf,λw O g cs ty x xs vs hO hg hx x1 hp x2 hG=>calls_of_wp hf hb ?_⟩;have xd:=zeq _ _ _ x1;have xg:=(zl.1 hg).1
 let X:Ownr:=fZ G O g
 have x0:∀h,X.R h↔h=g:=Ownr.one_R _ _ _;have hX:X.Ok w:=⟨λh hh=>⟨(hO h hh).1,λe=>(hO h hh).2 ((x0 h).1 e)⟩,λh e=>by rw[(x0 h).1 e];exact xg,λw' hk=>xb w w' g x2 hG ⟨hk.os,hk.tape,hk.output,hk.size,λk xe hr=>hk.block k xe λx4=>hr ((x0 k).1 x4)⟩⟩
 let U:Nat->zd:=λ_=>.pointer (some ⟨g,0,none⟩)
 have hE:OSet X (zsi ctr.self x ctr.args xs).E U=λh=>O h\/h=g:=by
  funext k
  apply propext;constructor
  .rintro (h|⟨i,o,_,h⟩)
   .exact .inl h
   .exact .inr (by simpa [U,zag] using h.symm)
  .rintro (h|h)
   .exact .inl h
   .exact .inr ⟨0,_,rfl,by rw[h];rfl⟩
 have hget:∀i o,zm (zsi ctr.self x ctr.args xs).E i=some o->i=0/\o=.box ctr.self x:=λi o h=>by
  rw[show(zsi ctr.self x ctr.args xs).E=[(0,some (.box ctr.self x))] from rfl,zab]at h;by_cases hi:0=i
  .rw[if_pos hi]at h;cases h;exact⟨hi.symm,rfl⟩
  .rw[if_neg hi]at h;cases h
 have x3:Sim w X n (zsi ctr.self x ctr.args xs) U { tmps:=(yO (some ⟨g,0,none⟩)::vs).toArray++zD (fn.ntmps-(yO (some ⟨g,0,none⟩)::vs).toArray.size) undef,defers:=[] } w:=by
  refine⟨by simp[hn,xd];omega,rfl,jx _ _,λs=>?_,λi o h=>?_,λi o k h hk=>?_,λi j oi oj h h' xi=>?_,λi o h=>?_,⟨zj _,λi hi=>⟨rfl,λo ho=>?_⟩⟩,λs=>?_,λi o h=>by rw[(hget i o h).2];intro _ e;cases e⟩
  .rw[hE];have e:((yO (some ⟨g,0,none⟩)::vs).toArray++zD (fn.ntmps-(yO (some ⟨g,0,none⟩)::vs).toArray.size) undef)=([yO (some ⟨g,0,none⟩)]++vs++zr (fn.ntmps-(vs.length+1)) undef).toArray:=by simp
   show RepV w _ _ _ _ (((yO (some ⟨g,0,none⟩)::vs).toArray++zD (fn.ntmps-(yO (some ⟨g,0,none⟩)::vs).toArray.size) undef).getD s undef);rw[e];have:=zdJ (U:=U) ctr.args xs vs [yO (some ⟨g,0,none⟩)] (zr (fn.ntmps-(vs.length+1)) undef) hd x1 s;have key:∀u:zd,RepV w (λh=>O h\/h=g) U (zn ((0,⟨.optr ctr.self,⟨0,ctr.self,.here⟩⟩)::zdu ctr.args xs 1) s).t (zn ((0,⟨.optr ctr.self,⟨0,ctr.self,.here⟩⟩)::zdu ctr.args xs 1) s).x u=RepV w (λh=>O h\/h=g) U (if 0=s then(⟨.optr ctr.self,⟨0,ctr.self,.here⟩⟩:V) else zn (zdu ctr.args xs 1) s).t (if 0=s then(⟨.optr ctr.self,⟨0,ctr.self,.here⟩⟩:V) else zn (zdu ctr.args xs 1) s).x u:=λu=>by
    rw[<-zam]
   refine(key _).mpr ?_;by_cases hs:0=s
   .rw[if_pos hs];subst hs;exact⟨g,rfl,by simp[vm,Path.off]⟩
   .rw[if_neg hs];exact this
  .obtain⟨rfl,rfl⟩:=hget i o h;exact⟨g,cs,ty,rfl,zk _,hg,by rw[hE];exact hx⟩
  .exact .inr ((x0 k).2 (by simpa [U,zag] using hk.symm))
  .have:=(hget i oi h).1;have:=(hget j oj h').1;omega
  .have:=(hget i o h).1;subst this;exact qp 0
  .rw[(hget i o ho).2];rfl
  .show(zn ((0,⟨.optr ctr.self,⟨0,ctr.self,.here⟩⟩)::zdu ctr.args xs 1) s).bound<=1;rw[zam];by_cases hs:0=s
   .rw[if_pos hs];exact zj _
   .rw[if_neg hs,zcx _ _ _ _ hd];exact zk _
 refine wp_mono (wpIn_wide.1 (h w O g hX x2 x xs hp _ _ _ x3)) λe a' w'⟨Y',U',h1,h2,h6,h3⟩=>?_;obtain⟨v,h4,h5⟩:=zgI (X:=X) hK hX h1 [0] h3 (O':=λh=>O h\/h=g) (λk hk=>by
  rcases hk with hk|hk
  .exact .inl hk
  .exact .inr ⟨0,_,h6,by rw[(h1.fix.2 0 (qp 0)).1,hk];rfl,.inl rfl⟩)
 have x8:Kept (λh=>h=g) w w':=⟨h1.bel.os,h1.bel.tape,h1.bel.output,h1.bel.size,λk hk hr=>h1.bel.block k hk λx4=>hr ((x0 k).1 x4)⟩;obtain⟨g',x5,ty',x7,_,x6,xh⟩:=h1.own 0 _ h6;have x9:=(h1.fix.2 0 (qp 0)).1;rw[x7]at x9;have xc:g'=g:=by simpa [zag,X,fZ] using x9
 subst xc;have xa:RepC w' (λh=>O h\/h=g') ctr.self (ctr.post x xs) x5:=RepC.keep ⟨zj _,λ_ _ _=>rfl,λk _ hk=>by
  rcases hk with hk|hk
  .exact .inl hk
  .exact .inr ⟨0,_,h6,by rw[x7,hk];rfl⟩⟩ _ _ _ xh
 rcases h2 with rfl|rfl
 .exact⟨h1.df,v,h4,v,x5,ty',rfl,x8,x6,xa,h5⟩
 .exact⟨h1.df,v,h4,v,x5,ty',rfl,x8,x6,xa,h5⟩
end
def tblB(P:zw):Tbl->Bool
 | []=>true
 |(t,Z)::r=>layB P Z (.inl t)&&tblB P r
def cmpT(P:zw)(T:Tbl):List zo->Bool
 | []=>true
 |t::r=>!P.eqGuardType P.depth t&&(match tget T t with |some Z=>Cmp P Z (.inl t)&&Nat.ble Z.depth 10000|none=>true)&&cmpT P T r
def zx7(P:zw):UTbl->Bool
 | []=>true
 |(t,e)::r=>(match P.underlying t with |some (.slice e')=>yK e e'|_=>false)&&zx7 P r
theorem zwD{P:zw}{T:Tbl}(h:tblB P T=true):∀t Z,tget T t=some Z->Lay P Z (.inl t):=by
 induction T with
 |nil=>intro t Z h;cases h
 |cons p r ih=>
  obtain⟨s,Y⟩:=p;intro t Z ht;simp only[tblB,zf]at h;simp only[tget,cond_eq_ite,xV]at ht;split at ht
  .rename_i e;cases ht;exact e▸zxt _ _ h.1
  .exact ih h.2 t Z ht
theorem zya{P:zw}{T:Tbl}{Q:List zo}(h:cmpT P T Q=true):∀t,Q.any (yK t)=true->P.eqGuardType P.depth t=false/\∀Z,tget T t=some Z->Cmp P Z (.inl t)=true/\Z.depth<=10000:=by
 induction Q with
 |nil=>intro t h;cases h
 |cons s r ih=>
  intro t ht;simp only[cmpT,zf,zL]at h;simp only[List.any_cons,yW,xV]at ht;rcases ht with rfl|ht
  .refine⟨h.1.1,λZ x0=>?_⟩;have:=h.1.2;rw[x0]at this;simp only[zf,jF]at this;exact this
  .exact ih h.2 t ht
theorem zuR{P:zw}{U0:UTbl}(h:zx7 P U0=true):UOk P U0:=by
 induction U0 with
 |nil=>intro t e h;cases h
 |cons p r ih=>
  obtain⟨s,e'⟩:=p;intro t e ht;simp only[zx7,zf]at h;simp only[uget,cond_eq_ite,xV]at ht;split at ht
  .rename_i hs;cases ht;subst hs;have h1:=h.1;split at h1
   .rename_i e2 h2;rw[h2,qt h1]
   .cases h1
  .exact ih h.2 t e ht
theorem zid{P:zw}{T:Tbl}{Q:List zo}(h:tblB P T=true)(hq:cmpT P T Q=true):TOk P T Q:=⟨zwD h,zya hq⟩
theorem CsOk.nil{P:zw}{G:zh->Prop}:CsOk P G []:=λf c h=>by cases h
theorem CsOk.cons{P:zw}{G:zh->Prop}{f:zV}{c:Ctr}{C:Ctrs}(h:CtrOk P G f c)(hC:CsOk P G C):CsOk P G ((f,c)::C):=by
 intro g d hg;simp only[cget,cond_eq_ite,xV]at hg;split at hg
 .rename_i e;cases hg;exact e▸h
 .exact hC g d hg
theorem KnOk.withR{P:zw}{G:zh->Prop}{K:Kn}(h:KnOk P G K){R:List (zV×RCtr)}(hR:RsOk P G R):KnOk P G { K with R:=R }:=⟨h.t,h.u,h.c,h.st,hR⟩
theorem KnOk.with{P:zw}{G:zh->Prop}{K:Kn}(h:KnOk P G K){C:Ctrs}(hC:CsOk P G C):KnOk P G { K with C:=C }:=⟨h.t,h.u,hC,h.st,h.r⟩
theorem zad{n:Int}(h1: -9223372036854775808<=n)(h2:n<=9223372036854775807):inR .i64 n:=zsk.2 ⟨h1,h2⟩
theorem zBh{T:Tbl}{r:jw}{Y:AS}{t:Ty}{x y:t.T}{p:List Prop}{v:V}(h:rOf T Y r=some (p,v))(hp:allP p)(ht:t.argOk=true)(hc:coe t (dat Y.E v)=some y)(x0:y=x):Done T [r] Y none t x:=
 ⟨p,v,h,hp,ht,x0▸hc⟩
theorem zBg{T:Tbl}{rs:List jw}{Y:AS}{t:Ty}{x y:t.T}{p:List Prop}(hl:rs.length≠1)(ht:t.tupData=true)(h:zpC T Y rs t=some (p,y))(hp:allP p)(x0:y=x):Done T rs Y none t x:=by
 match rs,hl,h with
 | [],hl,h=>exact⟨hl,ht,p,x0▸h,hp⟩
 | [_],hl,_=>exact(hl rfl).elim
 |_::_::_,hl,h=>exact⟨hl,ht,p,x0▸h,hp⟩
theorem zeQ{t:Ty}{x y:t.T}(h:x=y):some (OObj.box t x)=some (OObj.box t y):=by rw[h]
theorem zmF{te:zo}{t:Ty}{x y:List t.T}(h:x=y):some (OObj.buf te t x)=some (OObj.buf te t y):=by rw[h]
theorem zdU(k:Nat):(⟨.int .i64,((k:Int)+1:Int)⟩:V)=⟨.int .i64,(((k+1:Nat):Int):Int)⟩:=rfl
theorem zbb{k:Nat}(h:k<9223372036854775807):inR .i64 ((k:Int)+1):=zad o_ o_
theorem z_{P:Prop}(h:P:=by repeat'(first|exact trivial|assumption|(refine⟨?_,?_⟩)|(intro _)|exact zq rfl|exact Int.natCast_nonneg _|rfl|omega|exact zad o_ o_|(simp_all [allP];done))):P:=h
section
variable {P:zw}{K:Kn}{w0:zh}{X:Ownr}{n:Nat}{Y:AS}{Q:Exit->AS->Prop}
theorem zke(hX:X.Ok w0)(hK:KnOk P X.G K){id:Nat}{ops:Array Oper}{r:List Prop×AS}(hs:aSeq K n ops ops.toList Y=some r)(hq:Q .normal r.2)(hp:allP r.1:=by exact z_)(hd:za2 ops.toList=true:=by rfl):AWP P w0 X n (.region id ops false) Y Q:=
 zac hX hK hs hp hq hd
theorem zdc{c:zB}{x y:Code}{b:Bool}(hc:evO Y.F c=⟨.bool,b⟩)(hf:AWP P w0 X n y Y Q)(hb:b=false:=by first|rfl|decide):AWP P w0 X n (.cond c x y) Y Q:=
 zaf hc (λh=>by rw[hb]at h;cases h) λ_=>hf
theorem zdo{c:zB}{x y:Code}{b:Bool}(hc:evO Y.F c=⟨.bool,b⟩)(ht:AWP P w0 X n x Y Q)(hb:b=true:=by first|rfl|decide):AWP P w0 X n (.cond c x y) Y Q:=
 zaf hc (λ_=>ht) λh=>by rw[hb]at h;cases h
theorem zaU{c:zB}{x y:Code}{p:Prop}[Decidable p](hc:evO Y.F c=⟨.bool,decide p⟩)(ht:p->AWP P w0 X n x Y Q)(hf:¬p->AWP P w0 X n y Y Q):AWP P w0 X n (.cond c x y) Y Q:=
 zaf hc (λh=>ht (of_decide_eq_true h)) λh=>hf (of_decide_eq_false h)
end
theorem D1{T:Tbl}{r:jw}{Y:AS}{t:Ty}{x y:t.T}{p:List Prop}{v:V}(hxy:y=x)(h:rOf T Y r=some (p,v):=by rfl)(hp:allP p:=by trivial)(ht:t.argOk=true:=by rfl)(hc:coe t (dat Y.E v)=some y:=by rfl):Done T [r] Y none t x:=zBh h hp ht hc hxy
theorem D2{T:Tbl}{rs:List jw}{Y:AS}{t:Ty}{x y:t.T}{p:List Prop}(hxy:y=x)(h:zpC T Y rs t=some (p,y):=by rfl)(hl:rs.length≠1:=by decide)(ht:t.tupData=true:=by rfl)(hp:allP p:=by trivial):Done T rs Y none t x:=zBg hl ht h hp hxy
theorem zmH{B:Nat}{W:zh}{l:Nat}{o o':Obj}(h:W.heap[l]? =some o)(hB:B<=l):xG B W (W.putObj l o'):=
 (zR B W).grown (grownBy_putObj' W l o') (by have:=(zl.1 h).1;omega) (λk e=>by cases e;omega)
theorem OSet.nil{X:Ownr}{U:Nat->zd}:OSet X [] U=X.X:=by
 funext g
 apply propext;constructor
 .rintro (h|⟨i,o,h,_⟩)
  .exact h
  .cases h
 .exact λh=>.inl h
theorem zbG{w:zh}{O:Nat->Prop}{U:Nat->zd}{F:zN}{ts:Array zd}{s:Nat}{v:V}(h:RepV w O U v.t v.x (ts.getD s undef))(hF:∀t,RepV w O U (zn F t).t (zn F t).x (ts.getD t undef)):
  ∀t,RepV w O U (zn ((s,v)::F) t).t (zn ((s,v)::F) t).x (ts.getD t undef):=by
 intro t;rw[zam];by_cases hs:s=t
 .rw[if_pos hs, <-hs];exact h
 .rw[if_neg hs];exact hF t
theorem zgX{w:zh}{O:Nat->Prop}{U:Nat->zd}{ts:Array zd}:∀t,RepV w O U (zn ([]:zN) t).t (zn ([]:zN) t).x (ts.getD t undef):=λ_=>trivial
section
variable {w0 w w':zh}{X:Ownr}{n:Nat}{Y:AS}{F F':zN}{U:Nat->zd}{a:Act}
theorem Sim.fresh(hK:X.K=0)(x2:a.tmps.size=n)(x1:a.defers=X.D)(x0:∀s,RepV w X.X U (zn F s).t (zn F s).x (a.tmps.getD s undef))(hb:bndB 0 F=true):Sim w X n ⟨F,[],0⟩ U a w:=
 ⟨x2,x1,jx _ _,λs=>by rw[OSet.nil];exact x0 s,λi o h=>(by cases h),λi o g h=>(by cases h),λi j oi oj h=>(by cases h),λi o h=>(by cases h),⟨by rw[hK];exact zj _,λi h=>by rw[hK]at h;cases h⟩,λs=>zdx hb s,λi o h=>(by cases h)⟩
theorem Sim.rebase(h:Sim w0 X n Y U a w)(hE:Y.E=[])(hK:X.K=0)(hF:Sub Y.F F')(hb:bndB 0 F'=true):Sim w X n ⟨F',[],0⟩ U a w:=
 Sim.fresh hK h.sz h.df (λs=>by
  have h1:=(h.weaken hF.get).fr s;rw[show({ Y with F:=F' }:AS).E=[] from hE,OSet.nil]at h1;exact h1) hb
end
theorem YieldAt.any{P:zw}{m m' l:Nat}{args:Array zd}{W:zh}{R:wZ->zh->Prop}(h:YieldAt yD m P l args W R):YieldAt yD m' P l args W R:=by
 obtain⟨fn,tmps,assign,body,h1,h2⟩:=h;exact⟨fn,tmps,assign,body,h1,h2.1,λc cs _=>h2.2 c cs (room_wide _)⟩
structure KeepsC(w w':zh):Prop where
 size:w.heap.size<=w'.heap.size
 block:∀(g:Nat)cs ty fz,w.heap[g]? =some (.cells cs ty fz)->w'.heap[g]? =some (.cells cs ty fz)
 maps:∀(g:Nat)ms ck,w.heap[g]? =some (.map ms ck)->w'.heap[g]? =some (.map ms ck)
section
variable {w w':zh}{O:Nat->Prop}{U:Nat->zd}
theorem CellsAt.keepC{g off:Nat}{vs:List zd}(h:CellsAt w g off vs)(hk:KeepsC w w'):CellsAt w' g off vs:=λj u hu=>by
 have h1:=h j u hu;have hb:∃cs ty fz,w.heap[g]? =some (.cells cs ty fz):=by
  unfold qi at h1;cases ho:w.heap[g]? with
  |none=>simp[ho]at h1
  |some o=>cases o<;>first|exact⟨_,_,_,rfl⟩|(simp[ho]at h1)
 obtain⟨cs,ty,fz,hb⟩:=hb;exact(World.cell?_of_block (w:=w) ((hk.block g cs ty fz hb).trans hb.symm)).trans h1
theorem RepS.keepC{α:Type}{R R':α->List zd->Prop}{xs:List α}{v:zd}(h:RepS w O R xs v)(hk:KeepsC w w')(hr:∀x c,R x c->R' x c):RepS w' O R' xs v:=by
 rcases h with h|⟨g,off,c,vs,h1,h2,h3,h4,h5,h6,h7,h8⟩
 .exact .inl h
 .exact .inr ⟨g,off,c,vs,h1,h2,h3,h4,zy h5 hk.size,h6,h7.mono λx _ c=>hr x c,h8.keepC hk⟩
theorem RepC.keepC(hk:KeepsC w w'):∀(t:Ty)(x:t.T)(cs:List zd),RepC w O t x cs->RepC w' O t x cs:=by
 intro t
 induction t with
 |pair a b x0 x1=>rintro x cs ⟨c1,c2,h,h1,h2⟩;exact⟨c1,c2,h,x0 _ _ h1,x1 _ _ h2⟩
 |arr n t ih=>rintro x cs ⟨h1,h2⟩;exact⟨h1,h2.mono λx _ c=>ih x c⟩
 |slice t ih=>rintro x cs ⟨v,h,h2⟩;exact⟨v,h,h2.keepC hk ih⟩
 |_=>intro x cs h;exact h
theorem RepD.keepC(hk:KeepsC w w'){t:Ty}{x:t.T}{v:zd}(h:RepD w O t x v):RepD w' O t x v:=by
 unfold RepD at *;split at h
 .rename_i ht;obtain⟨cs,h1,h2⟩:=h;rw[if_pos ht];exact⟨cs,h1,RepC.keepC hk _ _ _ h2⟩
 .rename_i ht;rw[if_neg ht];exact RepC.keepC hk _ _ _ h
theorem RepTup.keepC(hk:KeepsC w w'):∀(t:Ty)(x:t.T)(vs:List zd),RepTup w O t x vs->RepTup w' O t x vs:=by
 intro t
 induction t with
 |tup a b iha x0=>rintro x vs ⟨v,r,h,h1,h2⟩;exact⟨v,r,h,h1.keepC hk,x0 _ _ h2⟩
 |unit=>intro x vs h;exact h
 |_=>intro x vs h;exact absurd h (by simp[RepTup])
theorem RepP.keepC(hk:KeepsC w w'){t:Ty}{x:t.T}{v:zd}(h:RepP w O t x v):RepP w' O t x v:=by
 cases t<;>first|exact h.elim|skip
 obtain⟨g,off,cs,h1,h2,h3,h4,h5⟩:=h;exact⟨g,off,cs,h1,zy h2 hk.size,h3,RepC.keepC hk _ _ _ h4,h5.keepC hk⟩
theorem RepCap.keepC(hk:KeepsC w w'):∀(t:Ty)(x:t.T)(vs:List zd),RepCap w O t x vs->RepCap w' O t x vs:=by
 intro t
 induction t with
 |tup a b iha x0=>rintro x vs ⟨v,r,h,h1,h2⟩;exact⟨v,r,h,h1.keepC hk,x0 _ _ h2⟩
 |unit=>intro x vs h;exact h
 |_=>intro x vs h;exact absurd h (by simp[RepCap])
theorem RepV.keepC(hk:KeepsC w w'):∀(t:Ty)(x:t.T)(v:zd),RepV w O U t x v->RepV w' O U t x v:=by
 intro t
 induction t with
 |junk=>intro x v h;exact h
 |lit=>intro x v h;exact h
 |vptr t _=>
  rintro x v ⟨g,off,cs,h1,h2,h3,h4,h5⟩;exact⟨g,off,cs,h1,zy h2 hk.size,h3,RepC.keepC hk _ _ _ h4,h5.keepC hk⟩
 |cptr g off t _=>
  rintro x v ⟨cs,h1,h2,h3,h4,h5⟩;exact⟨cs,h1,zy h2 hk.size,h3,RepC.keepC hk _ _ _ h4,h5.keepC hk⟩
 |optr t _=>intro x v h;exact h
 |obuf t _=>intro x v h;exact h
 |tup a b _ _=>rintro x v ⟨vs,h1,h2⟩;exact⟨vs,h1,RepTup.keepC hk _ _ _ h2⟩
 |cond t ih=>intro x v h;exact⟨λhc=>ih _ _ (h.1 hc),h.2⟩
 |clo f t _=>rintro x v ⟨vs,h1,h2⟩;exact⟨vs,h1,RepCap.keepC hk _ _ _ h2⟩
 |mapL=>rintro x v ⟨r,ms,ck,h1,h2,h3,h4,h5⟩;exact⟨r,ms,ck,h1,zy h2 hk.size,h3,hk.maps r ms ck h4,h5⟩
 |hptr=>intro x v h;exact h
 |hcons a b x0 x1=>rintro x v ⟨u,s,h1,h2,h3,h4⟩;exact⟨u,s,h1,h2,x0 _ _ h3,x1 _ _ h4⟩
 |_=>intro x v h;exact RepD.keepC hk h
theorem RepH.keepC(hk:KeepsC w w'):∀{vs:List V}{cs:List zd},RepH w O U vs cs->RepH w' O U vs cs
 | [],_,h=>h
 |v::r,_,⟨u,s,h1,h2,h3,h4⟩=>⟨u,s,h1,h2,RepV.keepC hk _ _ _ h3,RepH.keepC hk h4⟩
theorem OwnRep.keepC{B:Nat}{bv:zd}{o:OObj}(h:xC w O U B bv o)(hk:KeepsC w w'):xC w' O U B bv o:=by
 cases o with
 |box t x=>
  obtain⟨g',cs,ty,rfl,h1,h2,h3⟩:=h;exact⟨g',cs,ty,rfl,h1,hk.block _ _ _ _ h2,RepC.keepC hk _ _ _ h3⟩
 |buf te t xs=>
  obtain⟨cs,h1,h2,h3⟩:=h;refine⟨cs,h1.mono λx _ c=>RepC.keepC hk _ _ _,⟨h2.1,?_⟩,h3⟩;rcases h2.2 with h4|⟨g',cap,cur,rfl,h4,h5,h6⟩
  .exact .inl h4
  .exact .inr ⟨g',cap,cur,rfl,h4,hk.block _ _ _ _ h5,h6⟩
 |hbox ty vs=>
  obtain⟨g',cs,rfl,h1,h2,h3⟩:=h;exact⟨g',cs,rfl,h1,hk.block _ _ _ _ h2,h3.keepC hk⟩
 |mp m I=>
  obtain⟨ms,ck,rfl,h1,h2,h3⟩:=h;exact⟨ms,ck,rfl,h1,hk.maps _ _ _ h2,h3⟩
theorem zkU{D:Nat}{x:Option (List qS)}{o:Obj}(hD:w.heap[D]? =some (.deferred x)):KeepsC w (w.putObj D o):=by
 have hg:=grownBy_putObj' w D o;refine⟨hg.size,λg cs ty fz h=>(hg.block g (zl.1 h).1 λe=>?_).trans h,λg ms ck h=>(hg.block g (zl.1 h).1 λe=>?_).trans h⟩
 .cases e;rw[hD]at h;cases h
 .cases e;rw[hD]at h;cases h
end
theorem Seen.keepC{w0 w w':zh}{X:Ownr}{Y:AS}{U:Nat->zd}{a:Act}(h:Seen w0 X Y U a w)(hk:KeepsC w w'):Seen w0 X Y U a w':=
 ⟨λs=>RepV.keepC hk _ _ _ (h.fr s),λi o hi=>(h.own i o hi).keepC hk,h.new⟩
def zwB{r Z:Ty}(t:Ty)(x:t.T):Path r Z->V
 |.here=>match zfE r t with
  |some _=>⟨.vptr t,x⟩
  |none=>⟨.junk,()⟩
 |_=>⟨.junk,()⟩
def thawB(i:Nat)(t:Ty)(x:t.T)(v:V):V:=
 match v with
 |⟨.optr _,⟨j,_,p⟩⟩=>bif yK i j then zwB t x p else v
 |v=>v.kill i
def Frame.thawB(i:Nat)(t:Ty)(x:t.T):List (Nat×V)->List (Nat×V)
 | []=>[]
 |(s,v)::r=>(s,Go.Proofs.YthbecdbmifchiaaGreatDoor.thawB i t x v)::Frame.thawB i t x r
theorem Frame.get_thawB(i:Nat)(t:Ty)(x:t.T)(F:zN)(s:Nat):zn (Frame.thawB i t x F) s=Go.Proofs.YthbecdbmifchiaaGreatDoor.thawB i t x (zn F s):=by
 induction F with
 |nil=>rfl
 |cons p F ih=>
  obtain⟨d,v⟩:=p;simp only[Frame.thawB,zam,ih];split<;>rfl
theorem zj4(i:Nat)(v:V):v.kill i=v\/v.kill i=⟨.junk,()⟩:=by
 unfold V.kill;cases uses i v.t v.x<;>simp
section
variable {P:zw}{K:Kn}{w0:zh}{X:Ownr}{n:Nat}{Y:AS}{U:Nat->zd}{a:Act}{w:zh}{Q:Exit->AS->Prop}
theorem Sim.freezeB(h:Sim w0 X n Y U a w)(hX:X.Ok w0){i:Nat}{t:Ty}{x:t.T}(hi:zm Y.E i=some (.box t x)):
  Sim w0 X n { F:=Frame.thawB i t x Y.F,E:=(i,none)::Y.E,nx:=Y.nx } U a w:=by
 have h':=h.forget i;obtain⟨g,cs,ty,x2,_,hg,hr⟩:=h.own i _ hi;have x3:∀g,OSet X ((i,none)::Y.E) U g->OSet X Y.E U g:=λg hg=>by
  rcases hg with hg|⟨j,oj,h1,h2⟩
  .exact .inl hg
  .rw[zab]at h1;by_cases hs:i=j
   .rw[if_pos hs]at h1;cases h1
   .rw[if_neg hs]at h1;exact .inr ⟨j,oj,h1,h2⟩
 have x4:¬OSet X ((i,none)::Y.E) U g:=λx1=>by
  rcases x1 with x1|⟨j,oj,h1,h2⟩
  .have h3:=hX.1 g x1;rcases h.new i _ g hi (by rw[x2];rfl) with h4|h4
   .omega
   .exact h3.2 h4
  .rw[zab]at h1;by_cases hs:i=j
   .rw[if_pos hs]at h1;cases h1
   .rw[if_neg hs]at h1;exact h.inj i j _ _ hi h1 hs g (by rw[x2];rfl) h2
 have hk:qz w w (OSet X Y.E U) (OSet X ((i,none)::Y.E) U):=⟨zj _,λ_ _ _=>rfl,λg _ h=>x3 g h⟩;have hv:RepV w (OSet X ((i,none)::Y.E) U) U (.vptr t) x (.pointer (some ⟨g,0,none⟩)):=
  ⟨g,0,cs,rfl,(zl.1 hg).1,x4,RepC.keep hk _ _ _ hr,λj u hu=>by
    unfold qi;rw[hg]
    simpa using hu⟩
 refine⟨h'.sz,h'.df,h'.bel,λs=>?_,h'.own,h'.new,h'.inj,h'.lt,h'.fix,λs=>?_,h'.hE⟩
 .have h1:=h'.fr s;rw[Frame.get_thawB];revert h1;generalize zn Y.F s=v;intro h1;by_cases x0:thawB i t x v=v.kill i
  .rw[x0];rcases zj4 i v with e|e
   .rw[e];exact h1
   .rw[e];trivial
  .obtain⟨vt,vx⟩:=v;cases vt<;>first|exact absurd rfl x0|skip
   rename_i Z;obtain⟨j,r,p⟩:=vx;simp only[thawB];cases e:yK i j with
   |false=>exact h1
   |true=>
    have e':=qt e;subst e';simp only[cond_true];obtain⟨g',hb,hu⟩:=h1;rw[x2]at hb;cases hb;cases p with
    |here=>
     simp only[zwB];cases zfE Z t with
     |none=>trivial
     |some q=>rw[hu];exact hv
    |_=>trivial
 .have h1:=h'.hb s;rw[Frame.get_thawB];revert h1;generalize zn Y.F s=v;intro h1;by_cases x0:thawB i t x v=v.kill i
  .rw[x0];rcases zj4 i v with e|e
   .rw[e];exact h1
   .rw[e];exact zk _
  .obtain⟨vt,vx⟩:=v;cases vt<;>first|exact absurd rfl x0|skip
   rename_i Z;obtain⟨j,r,p⟩:=vx;simp only[thawB];cases e:yK i j with
   |false=>exact h1
   |true=>
    simp only[cond_true];cases p with
    |here=>
     simp only[zwB];cases zfE Z t with
     |none=>exact zk _
     |some q=>exact zk _
    |_=>exact zk _
def frzB(Y:AS)(s:Nat):AS:=
 match zn Y.F s with
 |⟨.optr _,⟨i,_,_⟩⟩=>match zm Y.E i with
  |some (.box t x)=>{ F:=Frame.thawB i t x Y.F,E:=(i,none)::Y.E,nx:=Y.nx }
  |_=>Y
 |_=>Y
theorem Sim.frzB(h:Sim w0 X n Y U a w)(hX:X.Ok w0)(s:Nat):Sim w0 X n (frzB Y s) U a w:=by
 unfold Go.Proofs.YthbecdbmifchiaaGreatDoor.frzB;split
 .split
  .rename_i he;exact h.freezeB hX he
  .exact h
 .exact h
theorem AWP.frzB(hX:X.Ok w0)(s:Nat){c:Code}(h:AWP P w0 X n c (Go.Proofs.YthbecdbmifchiaaGreatDoor.frzB Y s) Q):AWP P w0 X n c Y Q:=
 λU a w hs=>h U a w (hs.frzB hX s)
end
section
open Go Go.RowKit Go.WideShapes Go.ChangeShapes
def Ty.good:Ty->Bool
 |.pair a b=>a.good&&b.good
 |.arr _ t=>t.good
 |.slice t=>t.good&&zM 0 t.size
 |_=>true
theorem zsJ{k:IntKind}{n:Int}(h:k.min<=n/\n<=k.max):encI k (decI k n)=n:=by
 simp only[IntKind.min,IntKind.max]at h;cases k<;>simp[IntKind.signed,IntKind.bits]at h<;>simp only[encI,decI]
 .simp;omega
 .simp;omega
 .simp;omega
 .simp;omega
section
variable {P:zw}{w:zh}{H:Type}{enc:zo×zd->H}{base:Nat}{sp:Nat->Bool}{held:Bool}
def NoO:Nat->Prop:=λ_=>False
theorem zrb{α:Type}{R:α->List zd->Prop}{s:Nat}:∀(n:Nat)(cs:List zd),cs.length=n*s->(∀i,i<n->∃x,R x ((cs.drop (i*s)).take s))->∃xs:List α,xs.length=n/\RepL R xs cs
 |0,cs,hl,_=>⟨[],rfl,xW (by simpa using hl)⟩
 |n+1,cs,hl,h=>by
  obtain⟨x,hx⟩:=h 0 o_;obtain⟨xs,x0,hr⟩:=zrb (R:=R) (s:=s) n (cs.drop s) (by rw[qC,hl,jl];omega) λi hi=>by
   obtain⟨y,hy⟩:=h (i+1) o_;refine⟨y,?_⟩;rw[List.drop_drop,show s+i*s=(i+1)*s by rw[jl];omega];exact hy
  refine⟨x::xs,by simp[x0],cs.take s,cs.drop s,by simp,?_,hr⟩
  simpa using hx
theorem zf9{g off n:Nat}{x0:Option Nat}{cs:List zd}(h:w.cells? base ⟨g,off,x0⟩ n=some cs):cs.length=n/\∀j,j<n->∃u,cs[j]? =some u/\w.cell? ((⟨g,off,x0⟩:Addr).add j)=some u:=by
 unfold World.cells? at h;split at h
 .refine⟨by simpa using Lib.mapM_length h,λj hj=>?_⟩;obtain⟨b,h1,h2⟩:=Lib.mapM_at h j j (by simp[hj]);exact⟨b,h1,h2⟩
 .cases h
theorem zjO{α:Type}{R:α->List zd->Prop}{s g:Nat}:∀(n off:Nat),(∀i,i<n->∃x c,zi c=s/\R x c/\∀j,j<s->∃u,c[j]? =some u/\w.cell? ⟨g,off+i*s+j,none⟩=some u)->∃(xs:List α)(vs:List zd),xs.length=n/\RepL R xs vs/\CellsAt w g off vs
 |0,_,_=>⟨[],[],rfl,rfl,λj u hu=>by simp at hu⟩
 |n+1,off,h=>by
  obtain⟨x,c,hc,hx,x0⟩:=h 0 o_;obtain⟨xs,vs,h1,h2,h3⟩:=zjO (R:=R) (s:=s) (g:=g) n (off+s) λi hi=>by
   obtain⟨y,d,hd,hy,x3⟩:=h (i+1) o_;refine⟨y,d,hd,hy,λj hj=>?_⟩;obtain⟨u,x1,x2⟩:=x3 j hj;refine⟨u,x1,?_⟩;rw[show off+s+i*s+j=off+(i+1)*s+j by rw[jl];omega];exact x2
  refine⟨x::xs,c++vs,by simp[h1],⟨c,vs,rfl,hx,h2⟩,λj u hu=>?_⟩;rw[List.getElem?_append]at hu;split at hu
  .rename_i hj;obtain⟨u',x1,x2⟩:=x0 j o_;rw[x1]at hu;cases hu
   simpa using x2
  .rename_i hj;have:=h3 (j-c.length) u hu;rw[hc]at this hj;rwa[show off+s+(j-s)=off+j by omega]at this
theorem zel{Z:Ty}{t:zo}(h:Lay P Z (.inl t)):P.cellsOf t=Z.size:=by
 obtain⟨i,z,h1,h2,_⟩:=h.info;unfold Program.cellsOf;rw[h1];exact h2
def zyC(P:zw)(w:zh)(x2:zo×zd->H)(base:Nat)(sp:Nat->Bool)(x1:Bool)(Z:Ty):Prop:=
 ∀(t:zo)(cs:List zd)(x0:Nat)(d:gK H×List gq),Lay P Z (.inl t)->kT x2 P w base sp x1 x0 t cs=some d->∃x:Z.T,RepC w NoO Z x cs
def zh6(P:zw)(w:zh)(x2:zo×zd->H)(base:Nat)(sp:Nat->Bool)(x1:Bool)(Z:Ty):Prop:=
 ∀(fs:List Field)(off x0:Nat)(cs:List zd)(ds:List (gK H×List gq)),Lay P Z (.inr (fs,off))->fs.mapM (λf=>kT x2 P w base sp x1 x0 f.type ((cs.drop f.offset).take (P.cellsOf f.type)))=some ds->
  ∃x:Z.T,RepC w NoO Z x ((cs.drop off).take Z.size)
theorem zfL{Z:Ty}{t:zo}{fs:Array Field}(hu:P.underlying t=some (.struct fs))(hl:Lay P Z (.inr (fs.toList,0)))(hc:P.cellsOf t=Z.size)(h:zh6 P w enc base sp held Z){cs:List zd}{x0:Nat}{d:gK H×List gq}
  (hd:kT enc P w base sp held x0 t cs=some d):∃x:Z.T,RepC w NoO Z x cs:=by
 cases x0 with
 |zero=>simp[kT]at hd
 |succ x0=>
  simp only[kT,hu]at hd;split at hd
  .rename_i hlen;obtain⟨ds,hm,_⟩:=zQ.1 hd;obtain⟨x,hx⟩:=h fs.toList 0 x0 cs ds hl hm;refine⟨x,?_⟩;rw[List.drop_zero,jc (by rw[hlen,hc];exact zj _)]at hx;exact hx
  .cases hd
theorem ztB:∀Z:Ty,Z.good=true->zyC P w enc base sp held Z/\zh6 P w enc base sp held Z:=by
 intro Z
 induction Z with
 |bool=>
  refine λ_=>⟨λt cs x0 d hl h=>?_,λfs off x0 cs ds hl=>hl.elim⟩;obtain⟨b,rfl,_⟩:=DataW.trod_bool hl.1 h;exact⟨b,rfl⟩
 |int k=>
  refine λ_=>⟨λt cs x0 d hl h=>?_,λfs off x0 cs ds hl=>hl.elim⟩;obtain⟨z,rfl,_,x8⟩:=DataW.trod_int hl.1 h;simp only[Lit.wf,zf,decide_eq_true_eq]at x8;exact⟨decI k z,show [Value.int k z]=[Value.int k (encI k (decI k z))] by rw[zsJ x8]⟩
 |str=>
  refine λ_=>⟨λt cs x0 d hl h=>?_,λfs off x0 cs ds hl=>hl.elim⟩;obtain⟨s,rfl,_,hs⟩:=DataW.trod_string hl.1 h;obtain⟨⟨l⟩⟩:=s;exact⟨l,rfl,by simpa [ByteArray.size] using hs⟩
 |unit=>
  have hS:zh6 P w enc base sp held .unit:=λfs off x0 cs ds hl h=>⟨(),by simp[RepC,Ty.size]⟩;refine λ_=>⟨λt cs x0 d hl h=>?_,hS⟩;obtain⟨fs,hu,hi,hn⟩:=hl;exact zfL hu (by rw[hn];rfl) (zel (Z:=.unit) ⟨fs,hu,hi,hn⟩) hS h
 |pair a b iha ihb=>
  intro hg;simp only[Ty.good,zf]at hg;obtain⟨ia,_⟩:=iha hg.1;obtain⟨_,ib⟩:=ihb hg.2;have hS:zh6 P w enc base sp held (.pair a b):=λfs off x0 cs ds hl h=>by
   obtain⟨f,r,hf,ho,la,lb⟩:=hl;subst hf;rw[List.mapM_cons]at h;obtain⟨y,hy,h⟩:=jR.1 h;obtain⟨ys,xg,h⟩:=jR.1 h;obtain⟨x1,x9⟩:=ia _ _ _ _ la hy;obtain⟨x2,xh⟩:=ib r _ x0 cs ys lb xg;have ho:f.offset=off:=ho;rw[zel la,ho]at x9;refine⟨(x1,x2),_,_,?_,x9,xh⟩;show(cs.drop off).take (a.size+b.size)=(cs.drop off).take a.size++(cs.drop (off+a.size)).take b.size;rw[List.take_add,List.drop_drop]
  refine⟨λt cs x0 d hl h=>?_,hS⟩;obtain⟨fs,hu,hi,f,r,hf,ho,la,lb⟩:=hl;have xd:Lay P (.pair a b) (.inr (fs.toList,0)):=⟨f,r,hf,ho,la,by simpa using lb⟩;exact zfL hu xd (zel (Z:=.pair a b) ⟨fs,hu,hi,f,r,hf,ho,la,lb⟩) hS h
 |arr n e ih=>
  intro hg;obtain⟨ie,_⟩:=ih hg;refine⟨λt cs x0 d hl h=>?_,λfs off x0 cs ds hl=>hl.elim⟩;obtain⟨te,hu,hi,le⟩:=hl;have xc:P.cellsOf t=n*e.size:=zel (Z:=.arr n e) ⟨te,hu,hi,le⟩;cases x0 with
  |zero=>simp[kT]at h
  |succ x0=>
   simp only[kT,hu]at h;split at h
   .rename_i hlen;obtain⟨ds,hm,_⟩:=zQ.1 h;obtain⟨xs,h1,h2⟩:=zrb (R:=RepC w NoO e) (s:=e.size) n cs (by rw[hlen,xc]) λi hi=>by
     obtain⟨y,_,hy⟩:=Lib.mapM_at hm i i (by simp[hi]);rw[zel le]at hy;exact ie _ _ _ _ le hy
    exact⟨xs,h1,h2⟩
   .cases h
 |slice e ih=>
  intro hg;simp only[Ty.good,zf,Nat.blt_eq]at hg;obtain⟨ie,_⟩:=ih hg.1;refine⟨λt cs x0 d hl h=>?_,λfs off x0 cs ds hl=>hl.elim⟩;obtain⟨te,hu,hi,le⟩:=hl;rcases DataW.trod_slice hu h with ⟨rfl,_⟩|⟨⟨g,off,x6⟩,len,cap,elems,rest,n,rfl,rfl,_,hb,hlc,hcm,hel,hix,_,_⟩
  .exact⟨[],.slice none 0 0,rfl,.inl ⟨rfl,none,0,rfl,by simp[maxLen]⟩⟩
  .by_cases hlen:len=0
   .subst hlen;exact⟨[],_,rfl,.inl ⟨rfl,_,cap,rfl,hcm⟩⟩
   .rw[zel le]at hix;have x4:∀i,i<len->∃c,w.cells? base ((⟨g,off,x6⟩:Addr).add (i*e.size)) e.size=some c/\∃x:e.T,RepC w NoO e x c:=λi hi=>by
     have h1:=hix i hi;have h2:∃y,elems[i]? =some y:=⟨elems[i]'o_,by simp[hel,hi]⟩;obtain⟨y,hy⟩:=h2;rw[hy]at h1;obtain⟨c,x5,xa⟩:=jR.1 h1;exact⟨c,x5,ie _ _ _ _ le xa⟩
    have x7:x6=none:=by
     obtain⟨c,x5,_⟩:=x4 0 o_;cases x6 with
     |none=>rfl
     |some q=>
      exfalso;have e0:∀k,k=0->(⟨g,off,some q⟩:Addr).add k=⟨g,off,some q⟩:=λk hk=>by unfold Addr.add;rw[if_pos hk]
      rw[e0 _ (Nat.zero_mul _)]at x5;obtain⟨u,_,x3⟩:=(zf9 x5).2 0 o_;rw[e0 _ rfl]at x3;unfold qi at x3;split at x3
      .simp at x3
      .cases x3
    subst x7;obtain⟨xs,vs,h1,h2,h3⟩:=zjO (w:=w) (R:=RepC w NoO e) (s:=e.size) (g:=g) len off λi hi=>by
     obtain⟨c,x5,x,hx⟩:=x4 i hi;rw[xF]at x5;obtain⟨xb,xf⟩:=zf9 x5;refine⟨x,c,xb,hx,λj hj=>?_⟩;obtain⟨u,xe,x3⟩:=xf j hj;rw[xF]at x3;exact⟨u,xe,x3⟩
    have xi:g<w.heap.size:=by
     obtain⟨c,x5,_⟩:=x4 0 o_;rw[xF]at x5;obtain⟨u,_,x3⟩:=(zf9 x5).2 0 o_;rw[xF]at x3;unfold qi at x3;cases hh:w.heap[g]? with
     |none=>simp[hh]at x3
     |some o=>exact(zl.1 hh).1
    refine⟨xs,_,rfl,.inr ⟨g,off,cap,vs,by rw[h1],λhx=>hlen (by rw[<-h1,hx];rfl),by omega,hcm,xi,λh=>h,h2,h3⟩⟩
 |_=>exact λ_=>⟨λt cs x0 d hl h=>hl.elim,λfs off x0 cs ds hl=>hl.elim⟩
def zmN(P:zw):List Ty->List zo->Prop
 | [],[]=>True
 |Z::r,t::s=>Lay P Z (.inl t)/\zmN P r s
 |_,_=>False
theorem zmb{T:Tbl}{Q:List zo}(hT:TOk P T Q):∀(ts:List Ty)(x0:List zo),(ts.length==x0.length&&(ts.zip x0).all λp=>tis T p.2 p.1)=true->zmN P ts x0
 | [],[],_=>trivial
 |Z::r,t::s,h=>by
  simp only[zv,List.zip_cons_cons,j0,zf,beq_iff_eq]at h;exact⟨hT.is h.2.1,zmb hT r s (by simp only[zf,beq_iff_eq];exact⟨by omega,h.2.2⟩)⟩
 | [],_::_,h=>by simp at h
 |_::_,[],h=>by simp at h
theorem zsT{v:zd}(hv:∀cs,v≠ .agg cs):v.cells.toList=[v]:=by
 cases v<;>first|rfl|exact absurd rfl (hv _)
theorem zqs{Z:Ty}(hg:Z.good=true){t:zo}(hl:Lay P Z (.inl t)){v:zd}{d:gK H}{ps:List gq}(h:DataW.Trod enc P w base sp held t v d ps){r:Reach}{b2:Nat}(x0:u7 P w r b2 t v):∃x:Z.T,RepD w NoO Z x v:=by
 obtain⟨x1,h⟩:=h;obtain⟨x,hx⟩:=(ztB Z hg).1 t _ x1 _ hl h;refine⟨x,?_⟩;cases hagg:Z.isAgg with
 |true=>
  rw[RepD.agg hagg];have:∃cs,v=.agg cs:=by
   unfold u7 at x0;cases Z with
   |unit=>obtain⟨fs,hu,_⟩:=hl;rw[hu]at x0;obtain⟨cs,e,_⟩:=x0;exact⟨cs,e⟩
   |pair a b=>obtain⟨fs,hu,_⟩:=hl;rw[hu]at x0;obtain⟨cs,e,_⟩:=x0;exact⟨cs,e⟩
   |arr k e=>obtain⟨te,hu,_⟩:=hl;rw[hu]at x0;obtain⟨cs,e,_⟩:=x0;exact⟨cs,e⟩
   |_=>cases hagg
  obtain⟨cs,rfl⟩:=this;exact⟨cs.toList,by simp,hx⟩
 |false=>
  rw[RepD.scalar hagg];have hv:∀cs,v≠ .agg cs:=by
   rintro cs rfl;unfold u7 at x0;cases Z with
   |bool=>rw[hl.1]at x0;simp[gX,Cell.ok,hl.1]at x0
   |int k=>rw[hl.1]at x0;simp[gX,Cell.ok,hl.1]at x0
   |str=>rw[hl.1]at x0;simp[gX,Cell.ok,hl.1]at x0
   |slice e=>obtain⟨te,hu,_⟩:=hl;rw[hu]at x0;simp[gX,Cell.ok,hu]at x0
   |unit=>cases hagg
   |pair a b=>cases hagg
   |arr k e=>cases hagg
   |_=>exact hl.elim
  rw[zsT hv]at hx;exact hx
theorem zic:∀(ts:List Ty)(x0:List zo)(vs:List zd)(ds:List (gK H))(ps:List gq),(ts.all Ty.good)=true->zmN P ts x0->fo enc P w base sp held x0 vs ds ps->
  ∀{r:Reach}{b2:Nat},(∀(j:Nat)t v,x0[j]? =some t->vs[j]? =some v->u7 P w r b2 t v)->ds.length=ts.length/\∃xs:Args ts,RepA w NoO ts xs vs
 | [],[],[],[],_,_,_,_,_,_,_=>⟨rfl,(),rfl⟩
 |Z::ts,t::x0,v::vs,d::ds,ps,hg,hl,h,r,b2,hok=>by
  simp only[j0,zf]at hg;obtain⟨p,q,h1,h2,_⟩:=h;obtain⟨x,hx⟩:=zqs hg.1 hl.1 h1 (hok 0 t v rfl rfl);obtain⟨e,xs,x1⟩:=zic ts x0 vs ds q hg.2 hl.2 h2 (λj t' v' hj hv=>hok (j+1) t' v' (by simpa using hj) (by simpa using hv));exact⟨by simp[e],(x,xs),v,vs,rfl,zcI hx,x1⟩
 | [],[],[],_::_,_,_,_,h,_,_,_=>h.elim
 | [],[],_::_,_,_,_,_,h,_,_,_=>by cases ‹List (gK H)›<;>exact h.elim
 |_::_,_::_,[],ds,_,_,_,h,_,_,_=>by cases ds<;>exact h.elim
 |_::_,_::_,_::_,[],_,_,_,h,_,_,_=>h.elim
 | [],_::_,_,_,_,_,hl,_,_,_,_=>hl.elim
 |_::_,[],_,_,_,_,hl,_,_,_,_=>hl.elim
theorem zgi{W W':zh}(hl:laidOutB P=true)(hb:xG W.heap.size W W'):∀(x1:List zo)(vs:List zd)(ds:List (gK H))(ps:List gq),(x1.all λt=>P.readableRec t&&decide (t<P.types.size))=true->fo enc P W 0 (λ_=>true) true x1 vs ds ps->(∀x∈ps,x.block<W.heap.size)->
  ∀x0:Nat->Bool,(∀p∈ps,x0 p.block=true)->fo enc P W' 0 x0 true x1 vs ds ps
 | [],[],[],_,_,h,_,_,_=>h
 |t::x1,v::vs,d::ds,ps,ht,h,hlt,x0,hsp=>by
  obtain⟨p,q,h1,h2,rfl⟩:=h;simp only[j0,zf,decide_eq_true_eq]at ht;have hp:∀x∈p,x.block<W.heap.size:=λx hx=>hlt x (by simp[hx]);refine⟨p,q,?_,zgi hl hb x1 vs ds q ht.2 h2 (λx hx=>hlt x (by simp[hx])) x0 (λx hx=>hsp x (by simp[hx])),rfl⟩;exact WideElems.Trod_stays hl ht.1.1 ht.1.2 h1 (λx hx=>hb.same (hp x hx)) (λx hx=>hsp x (by simp[hx]))
 | [],_::_,_,_,_,h,_,_,_=>by cases ‹List (gK H)›<;>exact h.elim
 | [],[],_::_,_,_,h,_,_,_=>h.elim
 |_::_,[],ds,_,_,h,_,_,_=>by cases ds<;>exact h.elim
 |_::_,_::_,[],_,_,h,_,_,_=>h.elim
def lawCtr(ts:List Ty):Ctr:={ args:=ts,pre:=λ_=>[],res:=.bool,own:=none,out:=λ_=>true }
theorem law_of_ctr{G:zh->Prop}{k:zV}{fn:Func}{s:ChangeSpec}{ts:List Ty}(hc:CtrOk P G k (lawCtr ts))(x9:zmN P ts fn.params.toList)(x3:(ts.all Ty.good)=true)(x1:s.vars=[])
  (x4:∀(ds:List (gK H)),ds.length=ts.length->s.fn H ds={ results:=[.lit (.bool true)],args:=ds }) (x5:laidOutB P=true) (x8:(fn.params.toList.all λt=>P.readableRec t&&decide (t<P.types.size))=true) {tb:zo} (x7:fn.resultTypes= #[tb]) (xe:P.underlying tb=some .bool)
  {W:zh}{args:Array zd}{ds gs:List (gK H)}{x0:List gq}{b2:Nat} (xa:∀(j:Nat)t v,fn.params[j]? =some t->args[j]? =some v->u7 P W .any b2 t v)
  (hW:DataW.Whole enc P fn.params.toList s.vars false W args.toList ds gs x0) (hG:G W):
  Calls P k args W λe W'=>∃v,e=.returned v/\s.post enc P fn false true false false W args v W':=by
 have xb:∀p∈x0,p.block<W.heap.size:=λp hp=>hW.lt p hp;have xc:=hW;obtain⟨p,q,hA,hV,rfl,_,_⟩:=hW;rw[x1]at hV;have xf:gs=[]/\q=[]:=by
  cases gs with
  |nil=>exact⟨rfl,hV⟩
  |cons g r=>exact hV.elim
 obtain⟨rfl,rfl⟩:=xf;obtain⟨hlen,xs,xd⟩:=zic ts fn.params.toList args.toList ds p x3 x9 hA (r:=.any) (b2:=b2) (λj t v hj hv=>xa j t v (by simpa using hj) (by simpa using hv));have x2:=hc.2 W NoO xs args.toList (λg hg=>hg.elim) xd trivial hG;rw[Array.toArray_toList]at x2;refine x2.mono ?_;rintro e W' ⟨v,rfl,hb,hr⟩;have hv:v=.bool true:=jQ (hr (λ_=>undef));subst hv;have x6:s.fn H (ds++[])={ results:=[.lit (.bool true)],args:=ds }:=by rw[zW];exact x4 ds hlen
 refine⟨_,rfl,ds,[],_,[],p,[],xc,?_,?_,?_,?_,λh=>(by cases h)⟩
 .rw[x6,x7];exact⟨[],[],⟨1,by simp[kT,xe,Value.cells,Value.resultList]⟩,rfl,rfl⟩
 .rw[x6];exact zgi x5 hb _ _ _ _ x8 hA (λx hx=>xb x (by simp[hx])) _ (λx hx=>by simpa using xb x (by simp[hx]))
 .rw[x1,x6];rfl
 .exact World.keptBut_mono (λx hx=>⟨hx,.inr (.inl (by simpa using hx))⟩) (hb.frame (· ∈p++[]))
end
end
def hasN:List Nat->Nat->Bool
 | [],_=>false
 |a::l,i=>bif yK a i then true else hasN l i
theorem zaz{l:List Nat}{i:Nat}:hasN l i=true↔i∈l:=by
 induction l with
 |nil=>simp[hasN]
 |cons a l ih=>
  rw[hasN,cond_eq_ite,zs];by_cases h:yK a i=true
  .rw[if_pos h];have:=qt h;simp[this]
  .rw[if_neg h,ih];have:i≠a:=λe=>h (by rw[e];exact Nat.beq_refl a);simp[this]
def zeH(done:List Nat):List Oper->Nat->List Nat
 | [],_=>[]
 |o::l,i=>bif (!hasN done i)&&(o.after.toList.all λe=>!qy .any e||hasN done e.on) then i::zeH done l (i+1) else zeH done l (i+1)
theorem zjP{done:List Nat}:∀{l:List Oper}{i j:Nat}{o:Oper},l[j]? =some o->hasN done (i+j)=false->(∀e∈o.after,qy .any e=true->hasN done e.on=true)->i+j∈zeH done l i
 | [],_,_,_,h,_,_=>by simp at h
 |o::l,i,0,o',h,hd,ha=>by
  cases h;have hd:hasN done i=false:=hd;have h2:(o.after.toList.all λe=>!qy .any e||hasN done e.on)=true:=yE.2 λe he=>by
   cases hb:qy .any e with
   |false=>rfl
   |true=>simp[ha e (gW.1 he) hb]
  simp only[zeH,hd,h2,Bool.not_false,Bool.and_self,cond_true,jW,zs,true_or]
 |o::l,i,j+1,o',h,hd,ha=>by
  have:=zjP (done:=done) (l:=l) (i:=i+1) (j:=j) (o:=o') (by simpa using h) (by rw[show i+1+j=i+(j+1) by omega];exact hd) ha;rw[show i+1+j=i+(j+1) by omega]at this;rw[zeH,cond_eq_ite];split
  .exact zE _ this
  .exact this
def AllN(p:Nat->Prop):List Nat->Prop
 | []=>True
 |i::l=>p i/\AllN p l
theorem AllN.nil{p:Nat->Prop}:AllN p []:=trivial
theorem AllN.cons{p:Nat->Prop}{i:Nat}{l:List Nat}(h:p i)(h':AllN p l):AllN p (i::l):=⟨h,h'⟩
theorem AllN.mem{p:Nat->Prop}{l:List Nat}(h:AllN p l){i:Nat}(hi:i∈l):p i:=by
 induction l with
 |nil=>cases hi
 |cons a l ih=>
  rcases zs.1 hi with rfl|hi
  .exact h.1
  .exact ih h.2 hi
section
variable {P:zw}{K:Kn}{w0:zh}{X:Ownr}{n:Nat}{Y:AS}{Q:Exit->AS->Prop}{ops:Array Oper}
theorem AllN.of_mem{p:Nat->Prop}{l:List Nat}(h:∀i,i∈l->p i):AllN p l:=by
 induction l with
 |nil=>trivial
 |cons a l ih=>exact⟨h a (by simp),ih λi hi=>h i (by simp[hi])⟩
end
section
variable {w0:zh}{X:Ownr}{n:Nat}{Y:AS}{U:Nat->zd}{a:Act}{w:zh}
theorem RepH.set{O:Nat->Prop}:∀{vs:List V}{cs:List zd}{k:Nat}{v v':V},RepH w O U vs cs->vs[k]? =some v->(∀u,RepV w O U v.t v.x u->RepV w O U v'.t v'.x u)->RepH w O U (vs.set k v') cs
 | [],_,_,_,_,_,h,_=>by simp at h
 |y::r,_,0,_,_,⟨u,s,e,h2,h3,h4⟩,h,hv=>by
  cases h;exact⟨u,s,e,h2,hv u h3,h4⟩
 |y::r,_,k+1,_,_,⟨u,s,e,h2,h3,h4⟩,h,hv=>⟨u,s,e,h2,h3,RepH.set h4 (by simpa using h) hv⟩
theorem Sim.viewOf(h:Sim w0 X n Y U a w)(hX:X.Ok w0){i:Nat}{te:zo}{t:Ty}{xs:List t.T}(hi:zm Y.E i=some (.buf te t xs)):RepD w (OSet X ((i,none)::Y.E) U) (.slice t) xs (U i):=
 (h.own i _ hi).view (λg _ hg=>by
   rcases hg with hg|⟨j,oj,h1,h2⟩
   .exact .inl hg
   .rw[zab]at h1;by_cases hs:i=j
    .rw[if_pos hs]at h1;cases h1
    .rw[if_neg hs]at h1;exact .inr ⟨j,oj,h1,h2⟩) λg hg x0=>by
   rcases x0 with x0|⟨j,oj,h1,h2⟩
   .have h3:=hX.1 g x0;rcases h.new i _ g hi hg with h4|h4
    .omega
    .exact h3.2 h4
   .rw[zab]at h1;by_cases hs:i=j
    .rw[if_pos hs]at h1;cases h1
    .rw[if_neg hs]at h1;exact h.inj i j _ _ hi h1 hs g hg h2
theorem Sim.leaf(h:Sim w0 X n Y U a w){i k:Nat}{ty:zo}{vs:List V}{v v':V}(hi:zm Y.E i=some (.hbox ty vs))(hk:vs[k]? =some v)(hv:∀u,RepV w (OSet X Y.E U) U v.t v.x u->RepV w (OSet X Y.E U) U v'.t v'.x u)(hb:v'.bound<=Y.nx):
  Sim w0 X n { Y with E:=(i,some (.hbox ty (vs.set k v')))::Y.E } U a w:=by
 refine h.write (w':=w) hi ⟨rfl,rfl,rfl,zj _,λ_ _ _=>rfl⟩ (λ_=>?_) rfl ?_
 .obtain⟨g,cs,e,h1,h2,h3⟩:=h.own i _ hi;exact⟨g,cs,e,h1,h2,h3.set hk hv⟩
 .intro ws e u hu;cases e;rcases List.mem_or_eq_of_mem_set hu with hu|rfl
  .exact h.hE i _ hi vs rfl u hu
  .exact hb
theorem Sim.growNil(h:Sim w0 X n Y U a w)(te:zo)(Z:Ty)(x4:0<Z.size):∃U',(∀i,i<Y.nx->U' i=U i)/\U' Y.nx=.slice none 0 0/\Sim w0 X n { Y with E:=(Y.nx,some (.buf te Z []))::Y.E,nx:=Y.nx+1 } U' a w:=by
 refine⟨λj=>if j=Y.nx then .slice none 0 0 else U j,λi hi=>by simp[Nat.ne_of_lt hi],by simp,?_⟩;have hO:=λg=>OSet.new (X:=X) (U:=U) (bv:=.slice none 0 0) (o:=.buf te Z []) h.lt g;have x0:qz w w (OSet X Y.E U) (OSet X ((Y.nx,some (.buf te Z []))::Y.E) (λj=>if j=Y.nx then .slice none 0 0 else U j)):=
  ⟨zj _,λ_ _ _=>rfl,λg _ x3=>by
    rcases (hO g).1 x3 with h1|h1
    .exact h1
    .cases h1⟩
 refine⟨h.sz,h.df,h.bel,λs=>RepV.update _ _ _ (h.hb s) (zZ x0 _ _ _ (h.fr s)),λi oi hi=>?_,λi oi g hi=>?_,λi j oi oj hi hj x2 g=>?_,λi oi hi=>?_,⟨ug h.fix.1,λi hi=>?_⟩,λs=>ug (h.hb s),λi oi hi=>?_⟩
 .rw[show zm ((Y.nx,some (.buf te Z []))::Y.E) i=_ from zab ..]at hi;by_cases hs:Y.nx=i
  .subst hs;rw[if_pos rfl]at hi;cases hi;rw[if_pos rfl];exact⟨[],rfl,⟨by simp,.inl ⟨rfl,rfl⟩⟩,x4⟩
  .rw[if_neg hs]at hi;rw[if_neg (qF hs)];exact((h.own i oi hi).keep x0 λ_ _=>rfl).update (h.hE i oi hi)
 .rw[show zm ((Y.nx,some (.buf te Z []))::Y.E) i=_ from zab ..]at hi;by_cases hs:Y.nx=i
  .rw[if_pos hs.symm];intro hg;cases hg
  .rw[if_neg hs]at hi;rw[if_neg (qF hs)];exact h.new i oi g hi
 .rw[show zm ((Y.nx,some (.buf te Z []))::Y.E) i=_ from zab ..]at hi;rw[show zm ((Y.nx,some (.buf te Z []))::Y.E) j=_ from zab ..]at hj;show zag (if i=Y.nx then _ else U i)=some g->zag (if j=Y.nx then _ else U j)≠some g;by_cases h1:Y.nx=i
  .rw[if_pos h1.symm];intro hg;cases hg
  .rw[if_neg h1]at hi;rw[if_neg (qF h1)];by_cases h2:Y.nx=j
   .rw[if_pos h2.symm];intro _ hg;cases hg
   .rw[if_neg h2]at hj;rw[if_neg (qF h2)];exact h.inj i j oi oj hi hj x2 g
 .rw[show zm ((Y.nx,some (.buf te Z []))::Y.E) i=_ from zab ..]at hi;show i<Y.nx+1;by_cases hs:Y.nx=i
  .omega
  .rw[if_neg hs]at hi;have:=h.lt i oi hi;omega
 .obtain⟨h2,h3⟩:=h.fix.2 i hi;have x1:i≠Y.nx:=by have:=h.fix.1;omega
  refine⟨?_,λoi ho=>?_⟩
  .
   rw[if_neg x1];exact h2
  .rw[show zm ((Y.nx,some (.buf te Z []))::Y.E) i=_ from zab ..,if_neg (qF x1)]at ho;exact h3 oi ho
 .rw[show zm ((Y.nx,some (.buf te Z []))::Y.E) i=_ from zab ..]at hi;by_cases hs:Y.nx=i
  .rw[if_pos hs]at hi;cases hi;intro _ e;cases e
  .rw[if_neg hs]at hi;intro vs e v hv;exact ug (h.hE i oi hi vs e v hv)
def frzL(Y:AS)(i k:Nat):AS:=
 match zm Y.E i with
 |some (.hbox ty vs)=>match vs[k]? with
  |some ⟨.obuf _,j⟩=>match zm Y.E j with
   |some (.buf _ t xs)=>{ F:=Frame.thaw j t xs Y.F,E:=(i,some (.hbox ty (vs.set k ⟨.slice t,xs⟩)))::(j,none)::Y.E,nx:=Y.nx }
   |_=>Y
  |_=>Y
 |_=>Y
theorem Sim.frzL(h:Sim w0 X n Y U a w)(hX:X.Ok w0)(i k:Nat):Sim w0 X n (frzL Y i k) U a w:=by
 unfold Go.Proofs.YthbecdbmifchiaaGreatDoor.frzL;split
 .rename_i ty vs hi;split
  .rename_i t0 j hk;split
   .rename_i te t xs hj;have h1:=h.freeze hX hj;have x2:j≠i:=λe=>by subst e;rw[hi]at hj;cases hj
    have x1:zm ((j,none)::Y.E) i=some (.hbox ty vs):=by rw[zab,if_neg x2];exact hi
    have x0:=h.viewOf hX hj;exact h1.leaf x1 hk (v':=⟨.slice t,xs⟩) (λu hu=>by
     rw[hu];exact zcI x0) (zk _)
   .exact h
  .exact h
 .exact h
end
section
variable {P:zw}{w0:zh}{X:Ownr}{n:Nat}{Y:AS}{Q:Exit->AS->Prop}
theorem AWP.frzL(hX:X.Ok w0)(i k:Nat){c:Code}(h:AWP P w0 X n c (Go.Proofs.YthbecdbmifchiaaGreatDoor.frzL Y i k) Q):AWP P w0 X n c Y Q:=λU a w hs=>h U a w (hs.frzL hX i k)
theorem AWP.nilLeaf(i k:Nat)(te:zo)(Z:Ty){ty:zo}{vs:List V}{c:Code}(hi:zm Y.E i=some (.hbox ty vs))(hk:vs[k]? =some ⟨.lit,.slice none 0 0⟩)(x1:zM 0 Z.size=true)
  (h:AWP P w0 X n c { Y with E:=(i,some (.hbox ty (vs.set k ⟨.obuf Z,Y.nx⟩)))::(Y.nx,some (.buf te Z []))::Y.E,nx:=Y.nx+1 } Q):AWP P w0 X n c Y Q:=by
 intro U a w hs;obtain⟨U',h1,h2,h3⟩:=hs.growNil te Z (by simpa using x1);have x2:=hs.lt i _ hi;have x0:zm ((Y.nx,some (.buf te Z []))::Y.E) i=some (.hbox ty vs):=by rw[zab,if_neg o_];exact hi
 exact h U' a w (h3.leaf x0 hk (v':=⟨.obuf Z,Y.nx⟩) (λu hu=>by
  show u=U' Y.nx;rw[hu,h2]) (zj _))
end
section
variable {P:zw}{K:Kn}{w0:zh}{X:Ownr}{n:Nat}{Y:AS}{Q:Exit->AS->Prop}{ops:Array Oper}
theorem zeo{F:Fence}{m:Nat}{R0 R:Exit->Act->zh->Prop}(r:List Oper)(x0:∀a w,¬R0 .outgrown a w)(hN:∀a w,R0 .normal a w->wpListIn F m P ops R r a w)(hE:∀e a w,e≠ .normal->R0 e a w->R e a w):∀(l:List Oper){a:Act}{w:zh},wpListIn F m P ops R0 l a w->wpListIn F m P ops R (l++r) a w
 | [],_,_,h=>hN _ _ h
 |o::l,a,w,h=>by
  simp only[ja,wpListIn]at h ⊢;split at h
  .rename_i hw;rw[if_pos hw];have h2:=gV (λa w h=>zeo r x0 hN hE l h) h;refine⟨h2.1,?_⟩;have h3:=h2.2;revert h3;generalize (o.semAt F.round a.eval).run P w=x;intro h3;cases x with
   |ok x w'=>
    cases x with
    |enter f args=>
     refine⟨h3.1,h3.2.mono λe x1 he=>?_⟩;cases e with
     |returned v=>exact he
     |panicked c=>exact hE _ _ _ (by intro h;cases h) he
     |outgrown=>obtain⟨_,_,h4⟩:=he;exact(x0 _ _ h4).elim
    |round l f tmps assign body=>
     refine⟨h3.1,h3.2.mono λe x1 he=>?_⟩;cases e with
     |returned v=>exact he
     |panicked c=>exact hE _ _ _ (by intro h;cases h) he
     |outgrown=>obtain⟨_,_,h4⟩:=he;exact(x0 _ _ h4).elim
    |_=>exact h3
   |halt x w'=>
    cases x with
    |panic v=>exact hE _ _ _ (by intro h;cases h) h3
    |_=>exact h3
  .rename_i hw;rw[if_neg hw];exact⟨h.1,zeo r x0 hN hE l h.2⟩
def AL(P:zw)(w0:zh)(X:Ownr)(n:Nat)(ops:Array Oper)(l:List Oper)(Y:AS)(Q:Exit->AS->Prop):Prop:=
 ∀U a w,Sim w0 X n Y U a w->wpListIn (zdT X.ρ) 0 P ops (λe a' w'=>e≠ .outgrown/\∃Y' U',Sim w0 X n Y' U' a' w'/\Q e Y') l a w
theorem AL.then{l r:List Oper}{R:Exit->Act->zh->Prop}{U:Nat->zd}{a:Act}{w:zh}(h:AL P w0 X n ops l Y Q)(hs:Sim w0 X n Y U a w)(hN:∀Y' U' a' w',Sim w0 X n Y' U' a' w'->Q .normal Y'->wpListIn (zdT X.ρ) 0 P ops R r a' w')(hE:∀e Y' U' a' w',e≠ .normal->Sim w0 X n Y' U' a' w'->Q e Y'->R e a' w'):wpListIn (zdT X.ρ) 0 P ops R (l++r) a w:=
 zeo r (λ_ _ h=>h.1 rfl) (λa' w'⟨_,Y',U',h1,h2⟩=>hN Y' U' a' w' h1 h2) (λe a' w' he⟨_,Y',U',h1,h2⟩=>hE e Y' U' a' w' he h1 h2) l (h U a w hs)
theorem AL.nil(h:Q .normal Y):AL P w0 X n ops [] Y Q:=λU a w hs=>⟨(λh=>by cases h),Y,U,hs,h⟩
theorem AL.seq(hX:X.Ok w0)(hK:KnOk P X.G K)(pre:List Oper){rest:List Oper}{r:List Prop×AS}(hs:aSeq K n ops pre Y=some r)(hp:allP r.1)(h:AL P w0 X n ops rest r.2 Q)(hd:za2 pre=true:=by rfl):AL P w0 X n ops (pre++rest) Y Q:=
 λU a w x0=>zdz _ _ (zcE zkI _ hd (zls hK hX pre x0 hs hp λU' a' w' h'=>⟨rfl,h U' a' w' h'⟩))
theorem AL.all(hX:X.Ok w0)(hK:KnOk P X.G K){l:List Oper}{r:List Prop×AS}(hs:aSeq K n ops l Y=some r)(hp:allP r.1)(hq:Q .normal r.2)(hd:za2 l=true:=by rfl):AL P w0 X n ops l Y Q:=by
 have h:=AL.seq (rest:=[]) (Q:=Q) hX hK l hs hp (AL.nil hq) hd;rwa[zW]at h
theorem AL.take(k:Nat)(hX:X.Ok w0)(hK:KnOk P X.G K){l:List Oper}{r:List Prop×AS}(hs:aSeq K n ops (l.take k) Y=some r)(hp:allP r.1)(h:AL P w0 X n ops (l.drop k) r.2 Q)(hd:za2 (l.take k)=true:=by rfl):AL P w0 X n ops l Y Q:=by
 have h:=AL.seq (Q:=Q) hX hK (l.take k) hs hp h hd;rwa[List.take_append_drop]at h
theorem zae{id:Nat}(h:AL P w0 X n ops ops.toList Y Q):AWP P w0 X n (.region id ops false) Y Q:=
 λU a w x0=>zT (wpIn_region_list (h U a w x0)) λe a w h=>h.2
theorem AL.hand{o:Oper}{rest:List Oper}(x1:o.guard=none)(x2:∀c,o.op≠ .defer c)
  (h:∀U a w,Sim w0 X n Y U a w->o.wp P a w (λa' w'=>∃Y' U',Sim w0 X n Y' U' a' w'/\AL P w0 X n ops rest Y' Q) (λe a' w'=>e≠ .outgrown/\∃Y' U',Sim w0 X n Y' U' a' w'/\Q e Y')):AL P w0 X n ops (o::rest) Y Q:=by
 intro U a w x0;refine wpListIn_plain x1 λK hK=>zbH x2 (Oper.wp_mono (λa' w'⟨Y',U',h1,h2⟩=>hK a' w' (h2 U' a' w' h1)) (h U a w x0))
theorem AL.fit{l:List Oper}{Y':AS}(hf:Fit Y Y')(h:AL P w0 X n ops l Y' Q)(hk:X.K<=Y'.nx:=by exact zq rfl):AL P w0 X n ops l Y Q:=
 λU a w hs=>h U a w (hs.fit hf hk)
end
section
variable {P:zw}{w:zh}
def zgD(kd:ke)(k:zd):List (zd×zd)->Option (Option zd)
 | []=>some none
 |e::r=>match Instr.sameNow kd k e.1 with
  |some true=>some (some e.2)
  |some false=>zgD kd k r
  |none=>none
theorem zgE(kd:ke)(k:zd):∀(ms:List wu)(i:Nat),(Instr.findNow kd k ms i).map (λo=>o.map (·.2))=zgD kd k (ms.map λe=>(e.key,e.val))
 | [],i=>rfl
 |e::r,i=>by
  simp only[Instr.findNow,qH,zgD];cases Instr.sameNow kd k e.key with
  |none=>rfl
  |some b=>
   cases b with
   |true=>rfl
   |false=>exact zgE kd k r (i+1)
def zc3:ke->Bool
 |.int _=>true
 |.string=>true
 |_=>false
theorem zin(b:Bool){t:zo}{kd:ke}(hk:P.underlying t=some kd)(hp:zc3 kd=true)(v:zd)(m:Nat):(wv b (m+1) t v).run P w=.ok () w:=by
 cases kd<;>simp[zc3]at hp<;>simp[wv,run_underlying hk]
theorem zeU(b:Bool){t:zo}{kd:ke}(hk:P.underlying t=some kd)(hp:zc3 kd=true)(v:zd):(wv b 10000 t v).run P w=.ok () w:=zin b hk hp v 9999
theorem zgW{r ck:Nat}{ms:Array wu}(h:w.heap[r]? =some (.map ms ck)):(getObj r).run P w=.ok (.map ms ck) w:=by simp[getObj,Sem.run,h]
theorem zpv{r ck:Nat}{ms:Array wu}(o:Obj)(h:w.heap[r]? =some (.map ms ck)):(setObj r o).run P w=.ok () (w.putObj r o):=by simp[setObj,Sem.run,h,World.putObj]
theorem zjr{t kt et:zo}{kd:ke}(hu:P.underlying t=some (.map kt et))(hk:P.underlying kt=some kd)(hp:zc3 kd=true){r ck:Nat}{ms:Array wu}(h:w.heap[r]? =some (.map ms ck)){key v:zd}
  (hf:zgD kd key (ms.toList.map λe=>(e.key,e.val))=some none):(kO t (.map (some r)) key v).run P w=.ok () (w.putObj r (.map (ms.push { key:=key,val:=v,born:=ck }) (ck+1))):=by
 rw[<-zgE kd key ms.toList 0]at hf;obtain⟨o,ho,hf⟩:=zQ.1 hf;cases o with
 |some x=>cases hf
 |none=>simp[kO,uJ,run_underlying hu,run_underlying hk,zgW h,zeU _ hk hp,ho,zpv _ h]
end
def InsL(t:zo)(s:Nat):List (zd×zd)->List Oper->Prop
 | [],l=>l=[]
 |e::es,l=>∃o r ko vo,l=o::r/\o.op=.insert t (.tmp s) ko vo/\(∀a:Act,a.eval ko=e.1)/\(∀a:Act,a.eval vo=e.2)/\o.guard=none/\o.dst=none/\InsL t s es r
theorem InsL.cons{t:zo}{s:Nat}{o:Oper}{r:List Oper}{ko vo:zB}{e:zd×zd}{es:List (zd×zd)}(ho:o.op=.insert t (.tmp s) ko vo)(hk:∀a:Act,a.eval ko=e.1)(hv:∀a:Act,a.eval vo=e.2)(hg:o.guard=none)(hd:o.dst=none)(h:InsL t s es r):InsL t s (e::es) (o::r):=⟨o,r,ko,vo,rfl,ho,hk,hv,hg,hd,h⟩
def ziS(kd:ke):List (zd×zd)->List (zd×zd)->Prop
 |_,[]=>True
 |done,e::r=>zgD kd e.1 done=some none/\ziS kd (done++[e]) r
section
variable {P:zw}{w0:zh}{X:Ownr}{n:Nat}{Y:AS}{Q:Exit->AS->Prop}{ops:Array Oper}
theorem zwm{a:Act}{w w':zh}{o:Oper}{N:Act->zh->Prop}{R:Exit->Act->zh->Prop}(h:(execOp a.eval o).run P w=.ok .skip w'\/∃u,(execOp a.eval o).run P w=.ok (.value u) w')(x1:o.dst=none)(hN:N a w'):o.wp P a w N R:=by
 have x0:∀u,a.put o.dst u=a:=λu=>by rw[x1];rfl
 unfold v8;rcases h with h|⟨u,h⟩
 .rw[h];show N (a.put o.dst undef) w';rw[x0];exact hN
 .rw[h];show N (a.put o.dst u) w';rw[x0];exact hN
theorem zl3{t kt et:zo}{kd:ke}(hu:P.underlying t=some (.map kt et))(hk:P.underlying kt=some kd)(hp:zc3 kd=true){s r:Nat}{w:zh}(hr:w.heap.size<=r){a:Act}(ha:a.tmps.getD s undef=.map (some r)){rest:List Oper}{ρ:Option Nat}{R:Exit->Act->zh->Prop}:
  ∀(es:List (zd×zd))(ins:List Oper)(w1:zh)(ms:Array wu)(ck:Nat),InsL t s es ins->ziS kd (ms.toList.map λe=>(e.key,e.val)) es->xG w.heap.size w w1->w1.heap[r]? =some (.map ms ck)->
   (∀w2 x1 x2,xG w.heap.size w w2->w2.heap[r]? =some (.map x1 x2)->(x1.toList.map λe=>(e.key,e.val))=(ms.toList.map λe=>(e.key,e.val))++es->wpListIn (zdT ρ) 0 P ops R rest a w2)->
   wpListIn (zdT ρ) 0 P ops R (ins++rest) a w1
 | [],ins,w1,ms,ck,hi,_,hb,hm,h=>by
  subst hi;exact h w1 ms ck hb hm (by simp)
 |e::es,ins,w1,ms,ck,hi,hf,hb,hm,h=>by
  obtain⟨o,l,ko,vo,rfl,ho,x4,x5,hg,hd,hi⟩:=hi;refine wpListIn_plain hg λK hK=>zbH (λc e'=>by rw[ho]at e';cases e') ?_;have x0:=zjr hu hk hp hm (key:=e.1) (v:=e.2) hf.1;have x3:=(zl.1 hm).1;refine zwm (w':=w1.putObj r (.map (ms.push { key:=e.1,val:=e.2,born:=ck }) (ck+1))) ?_ hd (hK _ _ ?_)
  .unfold execOp;simp only[ho];have e1:a.eval (.tmp s)=.map (some r):=ha;rw[x4,x5,e1]
   first
    |exact .inl (by simp[x0])
    |exact .inr ⟨_,by simp[x0]⟩
  .refine zl3 hu hk hp hr ha es l _ _ _ hi ?_ (hb.grown (grownBy_putObj' w1 r _) hb.size (λk e=>by cases e;exact hr)) (qL x3) ?_
   .rw[wT,List.map_append];exact hf.2
   .intro w2 x1 x2 h1 h2 h3;refine h w2 x1 x2 h1 h2 ?_;rw[h3,wT,List.map_append,zz];rfl
theorem zmP(hX:X.Ok w0){t kt et:zo}{kd:ke}(hu:P.underlying t=some (.map kt et))(hk:P.underlying kt=some kd)(hp:zc3 kd=true){o:Oper}{ins rest:List Oper}{d:Nat}(es:List (zd×zd))(ho:o.op=.makeMap t none)(hg:o.guard=none)(x0:o.dst=some d)(hd:zM d n=true)
  (hi:InsL t d es ins) (hf:ziS kd [] es) (h:AL P w0 X n ops rest ⟨(d,⟨.mapL,es⟩)::Y.F,Y.E,Y.nx⟩ Q):AL P w0 X n ops (o::(ins++rest)) Y Q:=by
 intro U a w hs;have x1:d<n:=by simpa using hd
 refine wpListIn_plain hg λK hK=>zbH (λc e'=>by rw[ho]at e';cases e') (za5 (u:=.map (some w.heap.size)) (w':=w.alloc (.map #[] 0)) ?_ (hK _ _ ?_))
 .unfold execOp;simp only[ho];exact zbz rfl
 .rw[x0];refine zl3 hu hk hp (w:=w) (r:=w.heap.size) (zj _) (by rw[vX (by rw[hs.sz];exact x1),if_pos rfl]) es ins _ #[] 0 hi hf (zbg w _) (World.alloc_heap_new w _) ?_;intro w2 ms ck h1 h2 h3;exact h _ _ _ (hs.put h1 (v:=⟨.mapL,es⟩) ⟨w.heap.size,ms,ck,rfl,(zl.1 h2).1,λhO=>absurd (hs.hO hX _ hO) (Nat.lt_irrefl _),h2,by rw[h3];rfl⟩ (zk _) x1)
theorem zr8{k:zB}{x:List UInt8}(hk:evO Y.F k=⟨.str,x⟩):∀U a w,Sim w0 X n Y U a w->a.eval k=.string ⟨x.toArray⟩:=λU a w hs=>by
 have h1:=hs.ops k;rw[hk]at h1;exact(RepV.str h1).1
end
section
variable {P:zw}{f:zV}{Q:Exit->Act->zh->Prop}{a:Act}{w:zh}
def zgQ(P:zw)(f:zV)(c:Code)(Q:Exit->Act->zh->Prop)(a:Act)(w:zh):Prop:=
 ∀(b:bb)(k:List Item)(cs:List bb),b.fn=f->b.roundOf=none->∃e a' w',Q e a' w'/\ArrivesIn (Machine.fenced P yD) P (lone (b.atR a (.code c::k)) cs w) b k cs e a' w'
theorem zco{m:Nat}{c:Code}(h:c.wpIn yD m P Q a w):zgQ P f c Q a w:=λb k cs _ x0=>h b k cs x0 trivial (room_wide _)
theorem zcj{x y:Code}(h:zgQ P f x (Exit.then (zgQ P f y Q) Q) a w):zgQ P f (.seq x y) Q a w:=by
 intro b k cs hb x2;have h0:(lone (b.atR a (.code (.seq x y)::k)) cs w).fenced P yD:=fenced_wide P _;obtain⟨e,a1,w1,hq,x1⟩:=h b (.code y::k) cs hb x2;cases e with
 |normal=>
  obtain⟨e2,a2,w2,x3,x0⟩:=hq b k cs hb x2;exact⟨e2,a2,w2,x3,.of_steps (.head h0 stepR_seq x1) x0⟩
 |_=>exact⟨_,a1,w1,hq,.of_steps (.one h0 stepR_seq) (.pass (x:=.code y) rfl (λ_ _=>.inl (by simp)) x1)⟩
theorem zfS{fn:Func}{c:Code}{args:Array zd}{m:Nat}{R:wZ->zh->Prop}(hf:P.funcs[f]? =some fn)(hb:fn.body=some c)
  (h:zgQ P f c (bodyPostM yD m P fn R) { tmps:=args++zD (fn.ntmps-args.size) undef,defers:=[] } w):CallsIn yD m P f args w R:=by
 refine⟨t_,λcs hr=>?_⟩
 let b:bb:={ (default:bb) with fn:=f,kind:=.normal,roundOf:=none }
 have henter:bd P f args .normal=b.atR { tmps:=args++zD (fn.ntmps-args.size) undef,defers:=[] } [.code c]:=by
  simp[bd,Go.Frame.atR,hf,hb,b]
 obtain⟨e,a',w',hq,harr⟩:=h b [] cs rfl rfl;rw[<-henter]at harr;cases e with
 |normal=>
  obtain⟨e',w'',fr',hR,hs,hfn,hl⟩:=leaves_stepsInM a'.defers .returning w' { b.atR a' [] with mode:=.returning } cs rfl rfl rfl hf rfl t_ hr hq;exact⟨e',w'',fr',hR,gr (StepsIn.trans harr (.one (fenced_wide P _) (stepR_end rfl))) hs,hfn,hl⟩
 |ret=>
  obtain⟨todo,hs0⟩:=harr.1 rfl;obtain⟨e',w'',fr',hR,hs,hfn,hl⟩:=leaves_stepsInM a'.defers .returning w' { b.atR a' todo with mode:=.returning } cs rfl rfl rfl hf rfl t_ hr hq;exact⟨e',w'',fr',hR,gr hs0 hs,hfn,hl⟩
 |panic chain=>
  obtain⟨todo,hs0⟩:=harr;obtain⟨e',w'',fr',hR,hs,hfn,hl⟩:=leaves_stepsInM a'.defers (.panicking chain) w' { b.atR a' todo with mode:=.panicking chain } cs rfl rfl rfl hf rfl t_ hr hq;exact⟨e',w'',fr',hR,gr hs0 hs,hfn,hl⟩
 |exit id=>exact hq.elim
 |goto l=>exact hq.elim
 |outgrown=>exact⟨.outgrown,w',b,hq,harr.resolve_left (by simp[b]),rfl,t_⟩
end
theorem Kept.mono{R R':Nat->Prop}{w w':zh}(h:Kept R w w')(hr:∀k,R k->R' k):Kept R' w w':=⟨h.os,h.tape,h.output,h.size,λk hk hn=>h.block k hk λhR=>hn (hr k hR)⟩
theorem Kept.trans{R:Nat->Prop}{a b c:zh}(h:Kept R a b)(k:Kept R b c):Kept R a c:=⟨k.os.trans h.os,k.tape.trans h.tape,k.output.trans h.output,zJ h.size k.size,λi hi hr=>(k.block i (zy hi h.size) hr).trans (h.block i hi hr)⟩
theorem zbq{R:Nat->Prop}{W:zh}{l:Nat}(o':Obj)(hR:R l):Kept R W (W.putObj l o'):=
 have hg:=grownBy_putObj' W l o'
 ⟨hg.os,hg.tape,hg.output,hg.size,λk hk hn=>hg.block k hk λe=>by cases e;exact hn hR⟩
theorem zey{B:Nat}{R:Nat->Prop}{w w':zh}(h:xG B w w')(hR:∀k,B<=k->R k):Kept R w w':=⟨h.os,h.tape,h.output,h.size,λk _ hn=>h.block k (Nat.lt_of_not_le λhk=>hn (hR k hk))⟩
structure SameOn(I:Nat->Prop)(N:Nat)(w w':zh):Prop where
 os:w'.os=w.os
 tape:w'.tape=w.tape
 output:w'.output=w.output
 size:N<=w'.heap.size
 block:∀k,I k->w'.heap[k]? =w.heap[k]?
theorem Sim.outside{B A C:zh}{X:Ownr}{n:Nat}{Y:AS}{U:Nat->zd}{a:Act}{I:Nat->Prop}(h:Sim B X n Y U a A)(hX:X.Ok B)(hI:∀g,I g->X g)(hk:Kept I A C):
  ∃B':zh,B'.heap.size=B.heap.size/\Kept I B B'/\Sim B' X n Y U a C:=by
 classical
 have x3:∀g,I g->g<B.heap.size:=λg hg=>(hX.1 g (hI g hg)).1
 let B':zh:={ B with heap:=Array.ofFn (n:=B.heap.size) λi=>if I i then(C.heap[i.1]?).getD B.heap[i] else B.heap[i] }
 have x1:B'.heap.size=B.heap.size:=Array.size_ofFn;have hget:∀k,k<B.heap.size->B'.heap[k]? =some (if I k then(C.heap[k]?).getD (B.heap[k]?.getD default) else B.heap[k]?.getD default):=λk hk=>by
  simp[B',hk]
 have x4:∀k,k<B.heap.size->¬I k->B'.heap[k]? =B.heap[k]? :=λk hk hn=>by
  rw[hget k hk,if_neg hn];simp[hk]
 have x6:∀k,I k->B'.heap[k]? =C.heap[k]? :=λk hi=>by
  have x5:=x3 k hi;rw[hget k x5,if_pos hi];have:k<C.heap.size:=zy x5 (zJ h.bel.size hk.size);simp[this]
 have x0:qz A C (OSet X Y.E U) (OSet X Y.E U):=⟨hk.size,λg hg hn=>hk.block g hg λhi=>hn (.inl (hI g hi)),λg _ hg=>hg⟩;refine⟨B',x1,⟨rfl,rfl,rfl,by rw[x1];exact zj _,x4⟩,?_⟩;refine⟨h.sz,h.df,⟨hk.os.trans h.bel.os,hk.tape.trans h.bel.tape,hk.output.trans h.bel.output,by rw[x1];exact zJ h.bel.size hk.size,λk x2 hr=>?_⟩,λs=>zZ x0 _ _ _ (h.fr s),λi o ho=>?_,λi o g ho hg=>by rw[x1];exact h.new i o g ho hg,h.inj,h.lt,h.fix,h.hb,h.hE⟩
 .rw[x1]at x2;by_cases hi:I k
  .exact(x6 k hi).symm
  .exact(hk.block k (zy x2 h.bel.size) hi).trans ((h.bel.block k x2 hr).trans (x4 k x2 hi).symm)
 .refine(h.own i o ho).keep x0 λg hg=>hk.block g ((h.own i o ho).block_lt hg).2 λhi=>?_;have hx:=hX.1 g (hI g hi);rcases h.new i o g ho hg with h1|h1
  .omega
  .exact hx.2 h1
section
variable {P:zw}{K:Kn}{w0:zh}{X:Ownr}{n:Nat}{Y:AS}{Q:Exit->AS->Prop}{ops:Array Oper}
def StepA(P:zw)(w0:zh)(X:Ownr)(n:Nat)(ops:Array Oper)(o:Oper)(Y:AS)(N:AS->Prop)(Q:Exit->AS->Prop):Prop:=
 ∀(U:Nat->zd)(a:Act)(w:zh)(I:Act->zh->Prop)(R:Exit->Act->zh->Prop),Sim w0 X n Y U a w->(∀Y' U' a' w',Sim w0 X n Y' U' a' w'->N Y'->I a' w')->(∀e Y' U' a' w',e≠ .outgrown->Sim w0 X n Y' U' a' w'->Q e Y'->R e a' w')->
  if yF o (yielded ops a.tmps) then o.wp P a w I R\/(o.asks P a w/\gF R) else I (a.put o.dst undef) w
theorem StepA.eval(hX:X.Ok w0)(hK:KnOk P X.G K){o:Oper}{r:List Prop×AS}{N:AS->Prop}(hs:zje K n ops o Y=some r)(hp:allP r.1)(hN:N r.2):StepA P w0 X n ops o Y N Q:=
 λU a w I R x0 hI _=>zh5 hK hX x0 hs hp λU' a' w' h=>hI _ U' a' w' h hN
theorem StepA.hand{o:Oper}{N:AS->Prop}(x2:o.guard=none)(h:∀U a w,Sim w0 X n Y U a w->o.wp P a w (λa' w'=>∃Y' U',Sim w0 X n Y' U' a' w'/\N Y') (λe a' w'=>e≠ .outgrown/\∃Y' U',Sim w0 X n Y' U' a' w'/\Q e Y')):StepA P w0 X n ops o Y N Q:=by
 intro U a w I R x1 hI hR;simp only[yF,x2,if_true];have h0:=h U a w x1;have x0:∀a' w',(∃Y' U',Sim w0 X n Y' U' a' w'/\N Y')->I a' w':=λa' w'⟨Y',U',h1,h2⟩=>hI Y' U' a' w' h1 h2;refine .inl (Oper.wp_mono x0 ?_);unfold v8 at h0 ⊢;revert h0;generalize (execOp a.eval o).run P w=x;intro h0;cases x with
 |ok x w'=>
  cases x with
  |enter f args=>
   refine Calls.mono h0 λe x3 he=>?_;cases e with
   |returned v=>exact he
   |panicked c=>obtain⟨h1,Y',U',h2,h3⟩:=he;exact hR _ Y' U' _ _ h1 h2 h3
   |outgrown=>obtain⟨_,_,h,_⟩:=he;exact(h rfl).elim
  |_=>first|exact h0|(obtain⟨_,_,h,_⟩:=h0.2;exact(h rfl).elim)|(obtain⟨_,_,h,_⟩:=h0;exact(h rfl).elim)
 |halt x w'=>
  cases x with
  |panic v=>obtain⟨h1,Y',U',h2,h3⟩:=h0;exact hR _ Y' U' _ _ h1 h2 h3
  |_=>exact h0
def OrdA(P:zw)(w0:zh)(X:Ownr)(n:Nat)(ops:Array Oper)(Q:Exit->AS->Prop):Nat->List Nat->AS->Prop
 |0,_,Y=>Q .normal Y
 |f+1,done,Y=>AllN (λi=>∃o,ops.toList[i]? =some o/\StepA P w0 X n ops o Y (OrdA P w0 X n ops Q f (i::done)) Q) (zeH done ops.toList 0)
theorem OrdA.step{f:Nat}{done:List Nat}(l:List Nat)(hl:zeH done ops.toList 0=l)(h:AllN (λi=>∃o,ops.toList[i]? =some o/\StepA P w0 X n ops o Y (OrdA P w0 X n ops Q f (i::done)) Q) l):OrdA P w0 X n ops Q (f+1) done Y:=by
 subst hl;exact h
theorem OrdA.last{done:List Nat}(h:Q .normal Y):OrdA P w0 X n ops Q 0 done Y:=h
theorem zm9{U:Nat->zd}{a:Act}{w:zh}(h:Sim w0 X n Y U a w)(hb:zgO ops=true)(ho:OrdA P w0 X n ops Q ops.size [] Y):
  wpAny P .any ops (λe a' w'=>e≠ .outgrown/\∃Y' U',Sim w0 X n Y' U' a' w'/\Q e Y') ops.size (zD ops.size false) a { w with drawn:=w.drawn+1 }:=by
 let W:=w.drew
 have xe:Sim w0 X n Y U a W:=⟨h.sz,h.df,h.bel.then ((zR _ _).drew),λs=>zZ (.of_below ((zR _ _).drew) λ_ _ h=>h) _ _ _ (h.fr s),λi o ho=>(h.own i o ho).keep (.of_below ((zR _ _).drew) λ_ _ h=>h) λ_ _=>rfl,h.new,h.inj,h.lt,h.fix,h.hb,h.hE⟩
 let I:Array Bool->Act->zh->Prop:=λx0 a' w'=>∃done s U',x0.size=ops.size/\(∀i,i<ops.size->(x0.getD i false=true↔i∈done))/\Sim w0 X n s U' a' w'/\OrdA P w0 X n ops Q (left x0 ops.size) done s
 have xg:left (zD ops.size false) ops.size=ops.size:=by
  unfold left;have:(qB ops.size).filter (λi=>!(zD ops.size false).getD i false)=qB ops.size:=by
   rw[kJ];intro i _;rw[getD_replicate_false];rfl
  rw[this,wS]
 suffices hkey:wpAny P .any ops (λe a' w'=>e≠ .outgrown/\∃Y' U',Sim w0 X n Y' U' a' w'/\Q e Y') (left (zD ops.size false) ops.size+0) (zD ops.size false) a W by
  rw[jW,xg]at hkey;exact hkey
 refine zgR (zj _) hb (.inl rfl) I ?_ ?_ _ _ a W rfl ⟨by simp,λj oj _ xf=>(by rw[getD_replicate_false]at xf;cases xf),λt xk ht=>absurd ht o_⟩ ⟨[],Y,U,by simp,λi _=>by rw[getD_replicate_false];simp,xe,by rw[xg];exact ho⟩
 .rintro x0 a' w' ⟨done,s,U',x8,hd,hs,x5⟩ i x7 xj;obtain⟨xa,o,ho,x3⟩:=mem_ready.1 xj;have x1:=getD_both xa;have x2:=zoF x7 (by rw[x8];exact x7) x1;rw[<-x2]at x5;have x4:0+i∈zeH done ops.toList 0:=zjP (o:=o) (by simpa using ho) (by
   rw[yL];cases hh:hasN done i with
   |false=>rfl
   |true=>rw[(hd i x7).2 (zaz.1 hh)]at x1;cases x1) λe he xi=>by
    have h1:=x3 e he xi;by_cases x2:e.on<ops.size
    .exact zaz.2 ((hd _ x2).1 h1)
    .rw[zO,Array.getElem?_eq_none o_]at h1;cases h1
  rw[yL]at x4;obtain⟨o',h1,h2⟩:=AllN.mem x5 x4;have:o'=o:=by
   rw[Array.getElem?_toList,ho]at h1;cases h1;rfl
  subst this;unfold wpOp;rw[ho];simp only;refine h2 U' a' w' _ _ hs (λY2 xb a2 w2 x9 h4=>⟨i::done,Y2,xb,by simp[x8],λj hj=>?_,x9,h4⟩) (λe Y2 xb a2 w2 xh x9 hq=>⟨xh,Y2,xb,x9,hq⟩);by_cases xd:i=j
  .subst xd;simp[vm,x8,x7]
  .rw[getD_set_ne false xd,hd j hj,zs];constructor
   .exact λh=>.inr h
   .rintro (h|h)
    .exact absurd h.symm xd
    .exact h
 .rintro x0 a' w' inv x6 ⟨done,s,U',x8,hd,hs,x5⟩;have hz:left x0 ops.size=0:=by
   unfold left;rw[List.length_eq_zero_iff,um];intro i hi;rw[x6 i (xZ.1 hi)];simp
  rw[hz]at x5;have xc:=x5;refine⟨?_,(λh=>by cases h),s,U',hs,xc⟩;apply List.eq_nil_iff_forall_not_mem.2;intro i hi;obtain⟨xa,o,ho,_⟩:=mem_ready.1 hi;have x2:=(zl.1 ho).1;have:=getD_both xa;rw[x6 i x2]at this;cases this
theorem zbF(hm:P.follows .mixedOrders=true){id:Nat}(f:Nat)(hf:ops.toList.length=f)(hb:zgO ops=true)(ho:OrdA P w0 X n ops Q f [] Y)(hd:za2 ops.toList=true:=by rfl):AWP P w0 X n (.region id ops true) Y Q:=λ_ _ _ h=>by
 have x0:=hf;subst x0;exact zT (wpIn_region_any hm (zcp (R:=λe a' w'=>e≠ .outgrown/\∃Y' U',Sim w0 X n Y' U' a' w'/\Q e Y') (λ⟨_,_,h,_⟩=>h rfl) hd _ (zm9 h hb ho))) λe a w h=>h.2
theorem zlu{Y':AS}(hm:P.follows .mixedOrders=true){id:Nat}(f:Nat)(hf:ops.toList.length=f)(hb:zgO ops=true)(ho:OrdA P w0 X n ops (λe s=>e=.normal/\Fit s Y') f [] Y)(hq:Q .normal Y')(hk:X.K<=Y'.nx:=by exact zq rfl)(hd:za2 ops.toList=true:=by rfl):AWP P w0 X n (.region id ops true) Y Q:=λU a w h=>
 zT (zbF hm f hf hb ho hd U a w h) λ_ _ _⟨_,U',hs,he,hf⟩=>⟨Y',U',hs.fit hf hk,he▸hq⟩
end
section
variable {w0 w:zh}{X X':Ownr}{n m:Nat}{Y:AS}{U:Nat->zd}{a a':Act}
theorem Sim.act(h:Sim w0 X n Y U a w)(hx:X'.X=X.X)(hk:X'.K=X.K)(hf:X'.fix=X.fix)(x3:a'.tmps.size=m)(x2:a'.defers=X'.D){F:zN}(x0:∀s,RepV w (OSet X Y.E U) U (zn F s).t (zn F s).x (a'.tmps.getD s undef))(hb:bndB Y.nx F=true)(x1:X'.B=X.B:=by rfl):Sim w0 X' m ⟨F,Y.E,Y.nx⟩ U a' w:=by
 have hR:X'.R=X.R:=by unfold Ownr.R;rw[hk,hf,x1]
 have hO:OSet X' Y.E U=OSet X Y.E U:=by unfold OSet;rw[hx]
 refine⟨x3,x2,by rw[hR];exact h.bel,by rw[hO];exact x0,by rw[hO];exact h.own,by rw[hR];exact h.new,h.inj,h.lt,by rw[hk,hf];exact h.fix,λs=>zdx hb s,h.hE⟩
theorem Sim.boxes{F:zN}{E:Owns}(x7:a.tmps.size=n)(x6:a.defers=X.D)(x5:∀i,i<X.K->U i=.pointer (some ⟨X.fix i,0,none⟩))(x1:∀i j,i<X.K->j<X.K->X.fix i=X.fix j->i=j)
  (hE:∀i o,zm E i=some o->i<X.K/\o.isBuf=false/\xC w (OSet X E U) U 0 (U i) o/\o.under X.K) (x4:∀s,RepV w (OSet X E U) U (zn F s).t (zn F s).x (a.tmps.getD s undef)) (hb:bndB X.K F=true):Sim w X n ⟨F,E,X.K⟩ U a w:=by
 have x0:∀i,i<X.K->zag (U i)=some (X.fix i):=λi hi=>by rw[x5 i hi];rfl
 refine⟨x7,x6,jx _ _,x4,λi o h=>(hE i o h).2.2.1,λi o g h hg=>?_,λi j oi oj h h' x3 g hg x2=>?_,λi o h=>(hE i o h).1,⟨zj _,λi hi=>⟨x0 i hi,λo ho=>(hE i o ho).2.1⟩⟩,λs=>zdx hb s,λi o h=>(hE i o h).2.2.2⟩
 .have h1:=(hE i o h).1;rw[x0 i h1]at hg;exact .inr (.inl ⟨i,h1,zP hg⟩)
 .have h1:=(hE i oi h).1;have h2:=(hE j oj h').1;rw[x0 i h1]at hg;rw[x0 j h2]at x2;exact x3 (x1 i j h1 h2 (zP (hg.trans x2.symm)))
end
section
variable {P:zw}{K:Kn}{w0 w:zh}{X:Ownr}{n:Nat}{Y:AS}{U:Nat->zd}{a:Act}{Q:Exit->AS->Prop}{ops:Array Oper}
theorem loadAgg{Z:Ty}{t:zo}(h:Lay P Z (.inl t))(ha:Z.isAgg=true){g:Nat}{cs:List zd}(hl:cs.length=Z.size)(hc:CellsAt w g 0 cs):(Go.loadVar t ⟨g,0,none⟩).run P w=.ok (.agg cs.toArray) w:=by
 unfold Go.loadVar;simp only[zK,h.isAgg,zG];have h2:=run_loadCells_list (P:=P) w ⟨g,0,none⟩ cs (λj v hv=>by rw[xF];exact hc j v hv);rw[hl]at h2;simp only[ha,if_true,zK,h.sizeOf,zG,h2,zF]
theorem zp5{T:Tbl}{L:List zo}(hT:TOk P T L){t:zo}{Z x0:Ty}(ht:tget T t=some (.pair (.slice Z) .unit)){O:Nat->Prop}{B i g:Nat}{bv:zd}{ty:zo}(h:xC w O U B bv (.hbox ty [⟨.obuf x0,i⟩]))(hg:zag bv=some g):
  (Go.loadVar t ⟨g,0,none⟩).run P w=.ok (.agg #[U i]) w:=by
 obtain⟨cs,h2,h3⟩:=h.hcells hg;obtain⟨u,s,rfl,_,hu,hs⟩:=h2;subst hs;subst hu;exact loadAgg (hT.lay _ _ ht) rfl rfl h3
end
def Ty.leafD:Ty->Bool
 |.pair a b=>a.leafD&&b.leafD
 |.vptr t=>t.data
 |.arr _ _=>false
 |t=>t.data
structure HCtr where
 self:Ty
 k:Nat
 ad:Option Nat:=none
 on:self.T->Bool:=λ_=>true
 te:zo
 et:Ty
 sl:self.T->List et.T
 args:List Ty
 inv:zh->(Nat->Prop)->zo->Prop
 pre:self.T->Args args->List Prop
 res:Ty
 out:self.T->Args args->Except zd (res.T×self.T)
def adV(i:Nat)(b:Bool):V:=bif b then ⟨.hptr,(i,(0:Nat))⟩ else ⟨.lit,.pointer none⟩
def HCtr.lv(c:HCtr)(i j:Nat)(x:c.self.T):List V:=match c.ad with
 |none=>(za7 c.self x).set c.k ⟨.obuf c.et,j⟩
 |some a=>((za7 c.self x).set c.k ⟨.obuf c.et,j⟩).set a (adV i (c.on x))
def HCtr.law(c:HCtr):Prop:=c.self.leafD=true/\(∀x,(za7 c.self x)[c.k]? =some ⟨.slice c.et,c.sl x⟩)/\∀a,c.ad=some a->a≠c.k/\∀x,(za7 c.self x)[a]? =some ⟨.bool,c.on x⟩
def adB(i:Nat):V->Option Bool
 |⟨.hptr,(i',0)⟩=>bif yK i' i then some true else none
 |⟨.lit,.pointer none⟩=>some false
 |_=>none
theorem zAt{i:Nat}{v:V}{b:Bool}(h:adB i v=some b):v=adV i b:=by
 unfold adB at h;split at h
 .rename_i i';simp only[cond_eq_ite,xV]at h;split at h
  .rename_i e;cases h;subst e;rfl
  .cases h
 .cases h;rfl
 .cases h
def HCtr.back(c:HCtr)(i:Nat)(vs:List V):List V:=match c.ad with
 |none=>vs
 |some a=>match vs[a]? with
  |some v=>match adB i v with
   |some b=>vs.set a ⟨.bool,b⟩
   |none=>[]
  |none=>[]
def zb0(O:Nat->Prop)(g:Nat)(b:zd)(h:Nat):Prop:=(O h\/h=g)\/zag b=some h
def zdP(g:Nat)(b:zd)(i:Nat):zd:=if i=0 then .pointer (some ⟨g,0,none⟩) else b
theorem HCtr.back_cases(c:HCtr)(i:Nat)(vs:List V):c.back i vs=[]\/(c.ad=none/\c.back i vs=vs)\/∃a v b,c.ad=some a/\vs[a]? =some v/\adB i v=some b/\c.back i vs=vs.set a ⟨.bool,b⟩:=by
 unfold HCtr.back;split
 .rename_i h;exact .inr (.inl ⟨h,rfl⟩)
 .rename_i a ha;split
  .rename_i v hv;split
   .rename_i b hb;exact .inr (.inr ⟨a,v,b,ha,hv,hb,rfl⟩)
   .exact .inl rfl
  .exact .inl rfl
def HEnd(c:HCtr)(ty:zo)(w w':zh)(O:Nat->Prop)(g:Nat)(b:zd)(e:wZ):Except zd (c.res.T×c.self.T)->Prop
 |.ok (y,x')=>∃v cs' b',e=.returned v/\w'.heap[g]? =some (.cells (List.toArray cs') ty (0,0))/\RepH w' (zb0 O g b') (zdP g b') (c.lv 0 1 x') cs'/\xC w' (zb0 O g b') (zdP g b') 0 b' (.buf c.te c.et (c.sl x'))/\
  zag b'≠some g/\(∀h,zag b'=some h->zag b=some h\/w.heap.size<=h)/\(c.res=.unit\/zdb w' (zb0 O g b') w.heap.size none c.res y v)
 |.error pv=>e=.panicked [{ v:=pv,recovered:=false }]
def zaD(P:zw)(G:zh->Prop)(f:zV)(c:HCtr):Prop:=
 (∀(zas:Array zd)(w:zh),(callFunc f zas).run P w=.ok (.enter f zas) w)/\c.law/\
 ∀(w:zh)(O:Nat->Prop)(g:Nat)(cs:List zd)(ty:zo)(x:c.self.T)(xs:Args c.args)(vs:List zd)(b:zd),(∀h,O h->h<w.heap.size/\h≠g/\zag b≠some h)->zag b≠some g->w.heap[g]? =some (.cells cs.toArray ty (0,0))->
  RepH w (zb0 O g b) (zdP g b) (c.lv 0 1 x) cs->xC w (zb0 O g b) (zdP g b) 0 b (.buf c.te c.et (c.sl x))->RepA w (zb0 O g b) c.args xs vs->allP (c.pre x xs)->c.inv w (λh=>h=g\/zag b=some h) ty->G w->
  Calls P f (yO (some ⟨g,0,none⟩)::vs).toArray w λe w'=>Kept (λh=>h=g\/zag b=some h) w w'/\HEnd c ty w w' O g b e (c.out x xs)
def unH(c:HCtr)(i:Nat)(vs:List V)(E:Owns)(x:c.self.T):Prop:=∃et j xs,vs[c.k]? =some ⟨.obuf et,j⟩/\zm E j=some (.buf c.te c.et xs)/\unD c.self ((c.back i vs).set c.k ⟨.slice c.et,xs⟩)=some (x,[])
def zqj(T:Tbl)(rs:List jw)(c:HCtr)(ty:zo)(e:Exit)(Y:AS):Except zd (c.res.T×c.self.T)->Prop
 |.ok (y,x')=>(e=.normal\/e=.ret)/\(∃vs,zm Y.E 0=some (.hbox ty vs)/\unH c 0 vs Y.E x')/\Done T rs ⟨Y.F,zgw [] Y.E,Y.nx⟩ none c.res y
 |.error pv=>e=.panic [{ v:=pv,recovered:=false }]
theorem znm:∀(t:Ty)(x:t.T),t.leafD=true->∀v∈za7 t x,v.bound=0:=by
 intro t
 induction t with
 |pair a b iha ihb=>
  intro x h v hv;have h:(a.leafD&&b.leafD)=true:=h;rw[zf]at h;rcases zU.1 (show v∈za7 a x.1++za7 b x.2 from hv) with hv|hv
  .exact iha _ h.1 v hv
  .exact ihb _ h.2 v hv
 |unit=>intro x h v hv;cases hv
 |arr n t _=>intro x h;cases h
 |bool=>intro x _ v hv;rw[zt.1 hv];rfl
 |int k=>intro x _ v hv;rw[zt.1 hv];rfl
 |str=>intro x _ v hv;rw[zt.1 hv];rfl
 |slice t _=>intro x _ v hv;rw[zt.1 hv];rfl
 |vptr t _=>intro x _ v hv;rw[zt.1 hv];rfl
 |_=>intro x h;cases h
def Ty.plainL:Ty->Bool
 |.vptr t=>t.data
 |t=>t.data
theorem ziK:∀(t:Ty)(x:t.T),t.leafD=true->∀v∈za7 t x,v.t.plainL=true:=by
 intro t
 induction t with
 |pair a b iha ihb=>
  intro x h v hv;have h:(a.leafD&&b.leafD)=true:=h;rw[zf]at h;rcases zU.1 (show v∈za7 a x.1++za7 b x.2 from hv) with hv|hv
  .exact iha _ h.1 v hv
  .exact ihb _ h.2 v hv
 |unit=>intro x h v hv;cases hv
 |arr n t _=>intro x h;cases h
 |bool=>intro x h v hv;rw[zt.1 hv];exact h
 |int k=>intro x h v hv;rw[zt.1 hv];exact h
 |str=>intro x h v hv;rw[zt.1 hv];exact h
 |slice t _=>intro x h v hv;rw[zt.1 hv];exact h
 |vptr t _=>intro x h v hv;rw[zt.1 hv];exact h
 |_=>intro x h;cases h
theorem RepV.plainL{w w':zh}{O O':Nat->Prop}{U U':Nat->zd}(hk:qz w w' O O'):∀{t:Ty}{x:t.T}{u:zd},t.plainL=true->RepV w O U t x u->RepV w' O' U' t x u:=by
 intro t x u ht h;cases t with
 |vptr t=>exact zZ (U:=U) hk (.vptr t) x u h
 |_=>first|(cases ht;done)|(exact(zbA ht).2 (RepD.keep hk ((zbA ht).1 h)))
theorem RepH.conv{w w':zh}{O O':Nat->Prop}{U U':Nat->zd}:∀{vs x0:List V}{cs:List zd},vs.length=x0.length->(∀(i:Nat)(v v':V),vs[i]? =some v->x0[i]? =some v'->∀u,RepV w O U v.t v.x u->RepV w' O' U' v'.t v'.x u)->RepH w O U vs cs->RepH w' O' U' x0 cs
 | [],[],_,_,_,h=>h
 | [],_::_,_,hl,_,_=>by cases hl
 |_::_,[],_,hl,_,_=>by cases hl
 |v::r,v'::r',_,hl,hc,⟨u,s,h1,h2,h3,h4⟩=>⟨u,s,h1,h2,hc 0 v v' rfl rfl u h3,RepH.conv (Nat.succ.inj hl) (λi v v' h h'=>hc (i+1) v v' h h') h4⟩
theorem zwq:∀(t:Ty)(l r:List V)(x:t.T),t.leafD=true->unD t l=some (x,r)->∃l1,l=l1++r/\l1.length=(za7 t x).length/\∀(i:Nat)(v v':V),l1[i]? =some v->(za7 t x)[i]? =some v'->coe v'.t v=some v'.x:=by
 intro t
 induction t with
 |pair a b iha ihb=>
  intro l r x ht h;have ht:(a.leafD&&b.leafD)=true:=ht;rw[zf]at ht;simp only[unD]at h;split at h<;>first|(cases h;done)|skip
  rename_i y r1 h1;split at h<;>first|(cases h;done)|skip
  rename_i z r2 h2;cases h;obtain⟨l1,e1,n1,c1⟩:=iha _ _ _ ht.1 h1;obtain⟨l2,e2,n2,c2⟩:=ihb _ _ _ ht.2 h2;refine⟨l1++l2,by rw[e1,e2,zz],by show(l1++l2).length=(za7 a y++za7 b z).length;rw[zg,zg,n1,n2],λi v v' hv x0=>?_⟩;have x0:(za7 a y++za7 b z)[i]? =some v':=x0;by_cases hi:i<l1.length
  .rw[qK hi]at hv;rw[qK o_]at x0;exact c1 i v v' hv x0
  .rw[qD o_]at hv;rw[qD o_]at x0;rw[n1]at hv;exact c2 _ v v' hv x0
 |unit=>intro l r x _ h;cases h;exact⟨[],rfl,rfl,λi v v' hv=>by simp at hv⟩
 |arr n t _=>intro l r x ht;cases ht
 |_=>
  intro l r x ht h
  first
   |(cases ht;done)
   |(cases l with
     |nil=>cases h
     |cons v l=>
      simp only[unD]at h;split at h<;>first|(cases h;done)|skip
      rename_i y hy;cases h;refine⟨[v],rfl,rfl,λi a b ha hb=>?_⟩;cases i with
      |zero=>
       cases ha;cases hb;exact hy
      |succ i=>simp at ha)
theorem zgf{c:HCtr}(hc:c.law){i0:Nat}{vs:List V}{E:Owns}{x:c.self.T}(h:unH c i0 vs E x):∃et j,vs[c.k]? =some ⟨.obuf et,j⟩/\zm E j=some (.buf c.te c.et (c.sl x))/\vs.length=(za7 c.self x).length/\
  (∀(i:Nat)(v v':V),i≠c.k->c.ad≠some i->vs[i]? =some v->(za7 c.self x)[i]? =some v'->coe v'.t v=some v'.x/\v'.t.plainL=true)/\∀a,c.ad=some a->vs[a]? =some (adV i0 (c.on x)):=by
 obtain⟨et,j,xs,h1,h2,h3⟩:=h;obtain⟨x1,x2,x3⟩:=hc;obtain⟨l1,e1,n1,c1⟩:=zwq _ _ _ _ x1 h3;rw[zW]at e1;have hk:=(yI.1 h1).1;have x8:=(yI.1 (x2 x)).1;have hb:(c.ad=none/\c.back i0 vs=vs)\/∃a v b,c.ad=some a/\vs[a]? =some v/\adB i0 v=some b/\c.back i0 vs=vs.set a ⟨.bool,b⟩:=by
  rcases c.back_cases i0 vs with h0|h0
  .rw[h0,List.set_nil]at e1;rw[<-e1]at n1;simp only[yC]at n1;omega
  .exact h0
 have hlen:(c.back i0 vs).length=vs.length:=by
  rcases hb with ⟨_,e⟩|⟨a,v,b,_,_,_,e⟩<;>rw[e];rw[vC]
 have hget:=c1;rw[<-e1]at n1 hget;rw[vC,hlen]at n1;have hx:xs=c.sl x:=by
  have h4:=hget c.k ⟨.slice c.et,xs⟩ _ (by rw[jX (by rw[hlen];exact hk)]) (x2 x);rcases zfA h4 with h5|⟨h5,_⟩
  .cases h5;rfl
  .cases h5
 refine⟨et,j,h1,hx▸h2,n1,λi v v' hi ha hv x0=>⟨hget i v v' ?_ x0,ziK _ _ x1 v' (xX x0)⟩,λa ha=>?_⟩
 .rw[jO (qF hi)];rcases hb with ⟨_,e⟩|⟨a,u,b,ea,_,_,e⟩
  .rw[e];exact hv
  .rw[e,jO (λe=>ha (by rw[ea,e]))];exact hv
 .obtain⟨x4,x6⟩:=x3 a ha;rcases hb with ⟨e,_⟩|⟨a',u,b,ea,hu,hub,e⟩
  .rw[e]at ha;cases ha
  .rw[ha]at ea;cases ea;have x5:=(yI.1 hu).1;have h4:=hget a ⟨.bool,b⟩ _ (by rw[jO (qF x4),e,jX x5]) (x6 x);have x7:b=c.on x:=by
    rcases zfA h4 with h5|⟨h5,_⟩
    .cases h5;rfl
    .cases h5
   rw[hu,zAt hub,x7]
theorem zj2{c:HCtr}(hc:c.law){i0 j i:Nat}{x:c.self.T}{v:V}(h:(c.lv i0 j x)[i]? =some v):(i=c.k/\v=⟨.obuf c.et,j⟩)\/(c.ad=some i/\i≠c.k/\v=adV i0 (c.on x))\/(i≠c.k/\c.ad≠some i/\(za7 c.self x)[i]? =some v):=by
 have x1:=(yI.1 (hc.2.1 x)).1;unfold HCtr.lv at h;cases ha:c.ad with
 |none=>
  rw[ha]at h;simp only at h;by_cases hi:i=c.k
  .subst hi;rw[jX x1]at h;exact .inl ⟨rfl,(zP h).symm⟩
  .rw[jO (qF hi)]at h;exact .inr (.inr ⟨hi,⟨(λe=>by cases e),h⟩⟩)
 |some a=>
  rw[ha]at h;simp only at h;obtain⟨x3,x4⟩:=hc.2.2 a ha;have x2:=(yI.1 (x4 x)).1;by_cases x0:i=a
  .subst x0;rw[jX (by rw[vC];exact x2)]at h;exact .inr (.inl ⟨rfl,x3,(zP h).symm⟩)
  .rw[jO (qF x0)]at h;by_cases hi:i=c.k
   .subst hi;rw[jX x1]at h;exact .inl ⟨rfl,(zP h).symm⟩
   .rw[jO (qF hi)]at h;exact .inr (.inr ⟨hi,λe=>x0 (zP e).symm,h⟩)
theorem zrK(c:HCtr)(i0 j:Nat)(x:c.self.T):(c.lv i0 j x).length=(za7 c.self x).length:=by
 unfold HCtr.lv;cases c.ad with
 |none=>exact vC
 |some a=>simp only[vC]
theorem zoy{c:HCtr}(hc:c.law){i0 j m:Nat}(x0:i0<m)(hj:j<m)(x:c.self.T):∀v∈c.lv i0 j x,v.bound<=m:=by
 intro v hv;obtain⟨i,hi⟩:=jD.1 hv;rcases zj2 hc hi with ⟨_,rfl⟩|⟨_,_,rfl⟩|⟨_,_,h⟩
 .exact hj
 .unfold adV;cases c.on x with
  |true=>exact x0
  |false=>exact zk _
 .rw[znm _ _ hc.1 v (xX h)];exact zk _
theorem ztj{w w':zh}{O O':Nat->Prop}{U U':Nat->zd}{i i':Nat}{b:Bool}{u:zd}(hb:zag (U' i')=zag (U i))(h:RepV w O U (adV i b).t (adV i b).x u):RepV w' O' U' (adV i' b).t (adV i' b).x u:=by
 cases b with
 |true=>
  obtain⟨g,h1,h2⟩:=h;exact⟨g,hb.trans h1,h2⟩
 |false=>exact h
theorem RepH.toLv{c:HCtr}(hc:c.law){w w':zh}{O O':Nat->Prop}{U U':Nat->zd}{i i1:Nat}{vs:List V}{E:Owns}{x:c.self.T}{cs:List zd}{j1:Nat}(hk:qz w w' O O')(h:unH c i vs E x)(hr:RepH w O U vs cs)
  (hb:∀j et,vs[c.k]? =some ⟨.obuf et,j⟩->U' j1=U j) (hi:zag (U' i1)=zag (U i)):RepH w' O' U' (c.lv i1 j1 x) cs:=by
 obtain⟨et,j,h1,h2,h3,h4,h5⟩:=zgf hc h;refine RepH.conv (by rw[zrK];exact h3) (λm v v' hv x0 u hu=>?_) hr;rcases zj2 hc x0 with ⟨rfl,rfl⟩|⟨ha,_,rfl⟩|⟨hm,ha,hl⟩
 .rw[h1]at hv;cases hv;show u=U' j1;rw[hu,hb j et h1]
 .rw[h5 m ha]at hv;cases hv;exact ztj hi hu
 .obtain⟨h6,h7⟩:=h4 m v v' hm ha hv hl;exact RepV.plainL (U:=U) hk h7 (zh2 h6 hu)
theorem RepH.lvLv{c:HCtr}(hc:c.law){w w':zh}{O O':Nat->Prop}{U U':Nat->zd}{x:c.self.T}{cs:List zd}{i i1 j j1:Nat}(hk:qz w w' O O')(hr:RepH w O U (c.lv i j x) cs)(hb:U' j1=U j)(hi:zag (U' i1)=zag (U i)):RepH w' O' U' (c.lv i1 j1 x) cs:=by
 refine RepH.conv (by rw[zrK,zrK]) (λm v v' hv x0 u hu=>?_) hr;rcases zj2 hc x0 with ⟨rfl,rfl⟩|⟨ha,hk',rfl⟩|⟨hm,ha,hl'⟩
 .rcases zj2 hc hv with ⟨_,rfl⟩|⟨_,hm,_⟩|⟨hm,_⟩
  .
   show u=U' j1;rw[hu,hb]
  .exact absurd rfl hm
  .exact absurd rfl hm
 .rcases zj2 hc hv with ⟨e,_⟩|⟨_,_,rfl⟩|⟨_,hn,_⟩
  .exact absurd e hk'
  .exact ztj hi hu
  .exact absurd ha hn
 .rcases zj2 hc hv with ⟨e,_⟩|⟨e,_,_⟩|⟨_,_,hl⟩
  .exact absurd e hm
  .exact absurd e ha
  .rw[hl]at hl';cases hl';exact RepV.plainL (U:=U) hk (ziK _ _ hc.1 _ (xX hl)) hu
section
variable {P:zw}{K:Kn}{n:Nat}
def zjv(c:HCtr)(ty:zo)(x:c.self.T)(xs:Args c.args):AS:=⟨(0,⟨.hptr,((0:Nat),(0:Nat))⟩)::zdu c.args xs 1,[(0,some (.hbox ty (c.lv 0 1 x))),(1,some (.buf c.te c.et (c.sl x)))],2⟩
abbrev Ownr.own1(G:zh->Prop)(O:Nat->Prop)(g:Nat)(b:zd):Ownr:=⟨G,O,1,λ_=>g,[],none,λh=>zag b=some h⟩
theorem zy7(G:zh->Prop)(O:Nat->Prop)(g:Nat)(b:zd):∀h,(Ownr.own1 G O g b).R h↔(h=g\/zag b=some h):=λh=>
 ⟨λhh=>hh.elim (λ⟨i,_,e⟩=>.inl e.symm) .inr,λhh=>hh.elim (λe=>.inl ⟨0,qp 0,e.symm⟩) .inr⟩
theorem zxE{G:zh->Prop}{fn:Func}{ctr:HCtr}(hn:fn.ntmps=n)(x5:ctr.law)(hd:zaN ctr.args=true)(hlen:ctr.args.length+1<=n)(xc:∀w w' R ty,ctr.inv w R ty->G w->Kept R w w'->G w')
  {w:zh}{O:Nat->Prop}{g:Nat}{cs:List zd}{ty:zo}{x:ctr.self.T}{xs:Args ctr.args}{vs:List zd}{b:zd} (hO:∀h,O h->h<w.heap.size/\h≠g/\zag b≠some h) (xa:zag b≠some g) (hg:w.heap[g]? =some (.cells cs.toArray ty (0,0)))
  (hx:RepH w (zb0 O g b) (zdP g b) (ctr.lv 0 1 x) cs) (x2:xC w (zb0 O g b) (zdP g b) 0 b (.buf ctr.te ctr.et (ctr.sl x))) (x3:RepA w (zb0 O g b) ctr.args xs vs) (x8:ctr.inv w (λh=>h=g\/zag b=some h) ty) (hG:G w):
  ∃X:Ownr,X=Ownr.own1 G O g b/\X.Ok w/\(∀h,X.R h↔(h=g\/zag b=some h))/\Sim w X n (zjv ctr ty x xs) (zdP g b) { tmps:=(yO (some ⟨g,0,none⟩)::vs).toArray++zD (fn.ntmps-(yO (some ⟨g,0,none⟩)::vs).toArray.size) undef,defers:=[] } w:=by
 have xd:=zeq _ _ _ x3;have xh:=(zl.1 hg).1;have xb:∀h,zag b=some h->h<w.heap.size:=λh hh=>(x2.block_lt hh).2;obtain⟨X,x0⟩:∃X:Ownr,X=Ownr.own1 G O g b:=⟨_,rfl⟩;have x1:∀h,X.R h↔(h=g\/zag b=some h):=by rw[x0];exact zy7 _ _ _ _
 have x6:X.X=O:=by rw[x0]
 have xe:X.G=G:=by rw[x0]
 have hX:X.Ok w:=⟨λh hh=>by
  rw[x6]at hh;exact⟨(hO h hh).1,λe=>((x1 h).1 e).elim (hO h hh).2.1 (hO h hh).2.2⟩,λh e=>((x1 h).1 e).elim (λe=>e▸xh) (xb h),λw' hk=>by
  rw[xe];exact xc w w' _ ty x8 hG ⟨hk.os,hk.tape,hk.output,hk.size,λk xg hr=>hk.block k xg λxf=>hr ((x1 k).1 xf)⟩⟩
 have hE:OSet X (zjv ctr ty x xs).E (zdP g b)=zb0 O g b:=by
  funext k
  apply propext;constructor
  .rintro (h|⟨i,o,hi,h⟩)
   .rw[x6]at h;exact .inl (.inl h)
   .unfold zdP at h;by_cases h0:i=0
    .rw[if_pos h0]at h;exact .inl (.inr (zP h).symm)
    .rw[if_neg h0]at h;exact .inr h
  .rintro ((h|h)|h)
   .exact .inl (by rw[x6];exact h)
   .exact .inr ⟨0,_,rfl,by rw[h];rfl⟩
   .exact .inr ⟨1,_,rfl,h⟩
 have hget:∀i o,zm (zjv ctr ty x xs).E i=some o->(i=0/\o=.hbox ty (ctr.lv 0 1 x))\/(i=1/\o=.buf ctr.te ctr.et (ctr.sl x)):=λi o h=>by
  rw[show(zjv ctr ty x xs).E=[(0,some (.hbox ty (ctr.lv 0 1 x))),(1,some (.buf ctr.te ctr.et (ctr.sl x)))] from rfl,zab,zab]at h;by_cases hi:0=i
  .rw[if_pos hi]at h;cases h;exact .inl ⟨hi.symm,rfl⟩
  .rw[if_neg hi]at h;by_cases hi:1=i
   .rw[if_pos hi]at h;cases h;exact .inr ⟨hi.symm,rfl⟩
   .rw[if_neg hi]at h;cases h
 have x7:Sim w X n (zjv ctr ty x xs) (zdP g b) { tmps:=(yO (some ⟨g,0,none⟩)::vs).toArray++zD (fn.ntmps-(yO (some ⟨g,0,none⟩)::vs).toArray.size) undef,defers:=[] } w:=by
  refine⟨by simp[hn,xd];omega,by rw[x0],jx _ _,λs=>?_,λi o h=>?_,λi o k h hk=>?_,λi j oi oj h h' x9 k hk x4=>?_,λi o h=>?_,⟨by rw[x0];exact Nat.le_succ 1,λi hi=>?_⟩,λs=>?_,λi o h=>?_⟩
  .rw[hE];have e:((yO (some ⟨g,0,none⟩)::vs).toArray++zD (fn.ntmps-(yO (some ⟨g,0,none⟩)::vs).toArray.size) undef)=([yO (some ⟨g,0,none⟩)]++vs++zr (fn.ntmps-(vs.length+1)) undef).toArray:=by simp
   show RepV w _ _ _ _ (((yO (some ⟨g,0,none⟩)::vs).toArray++zD (fn.ntmps-(yO (some ⟨g,0,none⟩)::vs).toArray.size) undef).getD s undef);rw[e];have:=zdJ (U:=zdP g b) ctr.args xs vs [yO (some ⟨g,0,none⟩)] (zr (fn.ntmps-(vs.length+1)) undef) hd x3 s;have key:∀u:zd,RepV w (zb0 O g b) (zdP g b) (zn ((0,⟨.hptr,((0:Nat),(0:Nat))⟩)::zdu ctr.args xs 1) s).t (zn ((0,⟨.hptr,((0:Nat),(0:Nat))⟩)::zdu ctr.args xs 1) s).x u=RepV w (zb0 O g b) (zdP g b) (if 0=s then(⟨.hptr,((0:Nat),(0:Nat))⟩:V) else zn (zdu ctr.args xs 1) s).t (if 0=s then(⟨.hptr,((0:Nat),(0:Nat))⟩:V) else zn (zdu ctr.args xs 1) s).x u:=λu=>by
    rw[<-zam]
   refine(key _).mpr ?_;by_cases hs:0=s
   .rw[if_pos hs];subst hs;exact⟨g,rfl,by simp[vm]⟩
   .rw[if_neg hs];exact this
  .rw[hE];rcases hget i o h with ⟨rfl,rfl⟩|⟨rfl,rfl⟩
   .exact⟨g,cs,rfl,zk _,hg,hx⟩
   .exact x2
  .refine .inr ((x1 k).2 ?_);rcases hget i o h with ⟨rfl,_⟩|⟨rfl,_⟩
   .exact .inl (zP hk).symm
   .exact .inr hk
  .rcases hget i oi h with ⟨rfl,_⟩|⟨rfl,_⟩<;>rcases hget j oj h' with ⟨rfl,_⟩|⟨rfl,_⟩
   .exact x9 rfl
   .have hk:some g=some k:=hk;exact xa (by rw[hk];exact x4)
   .have x4:some g=some k:=x4;exact xa (by rw[x4];exact hk)
   .exact x9 rfl
  .rcases hget i o h with ⟨rfl,_⟩|⟨rfl,_⟩
   .exact Nat.zero_lt_succ 1
   .exact qp 1
  .rw[x0]at hi ⊢;have hi:i=0:=by have:i<1:=hi;omega
   subst hi;refine⟨rfl,λo ho=>?_⟩;rcases hget 0 o ho with ⟨_,rfl⟩|⟨h,_⟩
   .rfl
   .cases h
  .show(zn ((0,⟨.hptr,((0:Nat),(0:Nat))⟩)::zdu ctr.args xs 1) s).bound<=2;rw[zam];by_cases hs:0=s
   .rw[if_pos hs];exact Nat.le_succ 1
   .rw[if_neg hs,zcx _ _ _ _ hd];exact zk _
  .rcases hget i o h with ⟨_,rfl⟩|⟨_,rfl⟩
   .intro vs e v hv;cases e;exact zoy x5 (Nat.zero_lt_succ 1) (qp 1) x v hv
   .intro vs e;cases e
 exact⟨X,x0,hX,x1,x7⟩
theorem znx{G:zh->Prop}(hK:KnOk P G K){f:zV}{fn:Func}{c:Code}{ctr:HCtr}(hf:P.funcs[f]? =some fn)(hb:fn.body=some c)(hn:fn.ntmps=n)(x0:ctr.law)
  (xv:∀(zas:Array zd)(w:zh),(callFunc f zas).run P w=.ok (.enter f zas) w) (hd:zaN ctr.args=true) (hlen:ctr.args.length+1<=n) (xq:∀w w' R ty,ctr.inv w R ty->G w->Kept R w w'->G w')
  (h:∀(w0:zh)(X:Ownr)(ty:zo),X.Ok w0->X.G=G->X.K=1->X.ρ=none->X.D=[]->ctr.inv w0 X.R ty->∀(x:ctr.self.T)(xs:Args ctr.args),allP (ctr.pre x xs)->
    AWP P w0 X n c (zjv ctr ty x xs) (λe Y=>zqj K.T fn.results.toList ctr ty e Y (ctr.out x xs))):zaD P G f ctr:=by
 refine⟨xv,x0,λw O g cs ty x xs vs b hO xp hg hx x8 xa hp x5 hG=>calls_of_wp hf hb ?_⟩;obtain⟨X,x1,hX,x7,x9⟩:=zxE (ctr:=ctr) (G:=G) hn x0 hd hlen xq hO xp hg hx x8 xa x5 hG;have xh:X.X=O:=by rw[x1]
 have xi:X.G=G:=by rw[x1]
 have x6:ctr.inv w X.R ty:=by
  rw[show X.R=λh=>h=g\/zag b=some h from funext λh=>propext (x7 h)];exact x5
 have hw:=h w X ty hX xi (by rw[x1]) (by rw[x1]) (by rw[x1]) x6 x xs hp _ _ _ x9;rw[show X.ρ=none by rw[x1]]at hw;refine wp_mono (wpIn_wide.1 hw) λe a' w'⟨Y',U',h1,h2⟩=>?_;have xc:Kept (λh=>h=g\/zag b=some h) w w':=⟨h1.bel.os,h1.bel.tape,h1.bel.output,h1.bel.size,λk hk hr=>h1.bel.block k hk λxu=>hr ((x7 k).1 xu)⟩;have xd:a'.defers=[]:=by rw[h1.df,x1]
 revert h2;cases ho:ctr.out x xs with
 |error pv=>
  rintro rfl;exact⟨xd,xc,rfl⟩
 |ok p=>
  obtain⟨y,x'⟩:=p;rintro ⟨h2,⟨ws,h6,h7⟩,h3⟩;obtain⟨xx,j,k1,k2,_,_⟩:=zgf x0 h7;obtain⟨g',xb,x2,_,xf,xw⟩:=h1.own 0 _ h6;have xm:=(h1.fix.2 0 (by rw[x1];exact qp 0)).1;rw[x2]at xm;have xr:g'=g:=by
   have h:=xm;rw[x1]at h;exact zP h
  subst xr;have hj:=h1.own j _ k2;have xg:(0:Nat)≠j:=λe=>by rw[<-e,h6]at k2;cases k2
  have xe:∀k,zb0 O g' (U' j) k->OSet X Y'.E U' k:=λk hk=>by
   rcases hk with (hk|hk)|hk
   .exact .inl (by rw[xh];exact hk)
   .exact .inr ⟨0,_,h6,by rw[x2,hk];rfl⟩
   .exact .inr ⟨j,_,k2,hk⟩
  have xo:qz w' w' (OSet X Y'.E U') (zb0 O g' (U' j)):=⟨zj _,λ_ _ _=>rfl,λk _ hk=>xe k hk⟩;have x3:RepH w' (zb0 O g' (U' j)) (zdP g' (U' j)) (ctr.lv 0 1 x') xb:=RepH.toLv x0 xo h7 xw (λj' xt xk=>by
   rw[k1]at xk;cases xk;rfl) (by rw[x2];rfl)
  have xj:=hj.keep xo λ_ _=>rfl;have x4:∀h,zag (U' j)=some h->zag b=some h\/w.heap.size<=h:=λh hh=>by
   rcases h1.new j _ h k2 hh with h8|h8
   .exact .inr h8
   .rcases (x7 h).1 h8 with rfl|h8
    .exact absurd hh (h1.inj 0 j _ _ h6 k2 xg h (by rw[x2];rfl))
    .exact .inl h8
  have xn:=h1.inj 0 j _ _ h6 k2 xg g' (by rw[x2];rfl);obtain⟨v,h4,h5⟩:=zgI (X:=X) (by rw[xi];exact hK) hX h1 [] h3 (O':=zb0 O g' (U' j)) (λk hk=>by
   rcases hk with (hk|hk)|hk
   .exact .inl (by rw[xh];exact hk)
   .exact .inr ⟨0,_,h6,by rw[x2,hk];rfl,.inr rfl⟩
   .exact .inr ⟨j,_,k2,hk,.inr rfl⟩)
  rcases h2 with rfl|rfl
  .exact⟨xd,v,h4,xc,v,xb,_,rfl,xf,x3,xj,xn,x4,h5⟩
  .exact⟨xd,v,h4,xc,v,xb,_,rfl,xf,x3,xj,xn,x4,h5⟩
end
section
variable {w0 w w':zh}{X:Ownr}{n:Nat}{Y:AS}{U:Nat->zd}{a:Act}
theorem Sim.redo0(h:Sim w0 X n Y U a w){i:Nat}{o o':OObj}(hi:zm Y.E i=some o)(x7:o.isBuf=true)(hg:w.grownBy w' (zag (U i))){bv:zd}
  (x8:∀g,zag bv=some g->zag (U i)=some g\/w.heap.size<=g)
  (hr:xC w' (OSet X ((i,some o')::xA i Y.E) (λj=>if j=i then bv else U j)) (λj=>if j=i then bv else U j) 0 bv o') (hu:o'.under Y.nx:=by exact λ_ e=>by cases e):
  Sim w0 X n { F:=jH i Y.F,E:=(i,some o')::xA i Y.E,nx:=Y.nx } (λj=>if j=i then bv else U j) a w':=by
 have hO:∀g,g<w.heap.size->OSet X ((i,some o')::xA i Y.E) (λj=>if j=i then bv else U j) g->OSet X Y.E U g:=λg xb xd=>by
  rcases xd with h1|⟨j,oj,h1,h2⟩
  .exact .inl h1
  .rw[zab]at h1;by_cases hj:i=j
   .subst hj;simp at h2;rcases x8 g h2 with h3|h3
    .exact .inr ⟨i,o,hi,h3⟩
    .omega
   .rw[if_neg hj,kL]at h1;obtain⟨pj,xg,xh⟩:=zQ.1 h1;simp[qF hj]at h2;exact .inr ⟨j,pj,xg,h2⟩
 have x2:qz w w' (OSet X Y.E U) (OSet X ((i,some o')::xA i Y.E) (λj=>if j=i then bv else U j)):=
  ⟨hg.size,λg xb xf=>hg.block g xb λe=>xf (.inr ⟨i,o,hi,e.symm⟩),hO⟩
 have x0:∀{j:Nat}{oj:OObj},i≠j->(if i=j then some o' else zm (xA i Y.E) j)=some oj->∃pj,zm Y.E j=some pj/\pj.kill i=oj:=λhs hj=>by
  rw[if_neg hs,kL]at hj;exact zQ.1 hj
 have x5:=h.bel.grown hg λg e=>h.new i o g hi e;have xe:=h.lt i o hi;refine⟨h.sz,h.df,x5,?_,?_,?_,?_,?_,?_,?_,?_⟩
 .intro s;rw[Frame.get_kill];unfold V.kill;cases hu:uses i (zn Y.F s).t (zn Y.F s).x with
  |true=>trivial
  |false=>exact RepV.other _ _ _ hu (zZ x2 _ _ _ (h.fr s))
 .intro j oj hj;rw[show zm ((i,some o')::xA i Y.E) j=_ from zab ..]at hj;by_cases hs:i=j
  .subst hs;rw[if_pos rfl]at hj;cases hj;rw[if_pos rfl];exact hr
  .obtain⟨pj,x1,rfl⟩:=x0 hs hj;rw[if_neg (qF hs)];refine((h.own j pj x1).keep x2 λg x9=>hg.block g ((h.own j pj x1).block_lt x9).2 λe=>?_).kill;exact h.inj i j o pj hi x1 hs g e.symm x9
 .intro j oj g hj;rw[show zm ((i,some o')::xA i Y.E) j=_ from zab ..]at hj;by_cases hs:i=j
  .rw[if_pos hs.symm];intro x3;rcases x8 g x3 with h3|h3
   .exact h.new i o g hi h3
   .exact .inl (zJ h.bel.size h3)
  .obtain⟨pj,x1,rfl⟩:=x0 hs hj;rw[if_neg (qF hs)];exact h.new j pj g x1
 .intro j k oj ok hj hk xc g;rw[show zm ((i,some o')::xA i Y.E) j=_ from zab ..]at hj;rw[show zm ((i,some o')::xA i Y.E) k=_ from zab ..]at hk;have fresh:∀m om,i≠m->zm Y.E m=some om->zag bv=some g->zag (U m)≠some g:=λm om hm xa x3 x4=>by
   rcases x8 g x3 with h3|h3
   .exact h.inj i m o om hi xa hm g h3 x4
   .have:=((h.own m om xa).block_lt x4).2;omega
  by_cases h1:i=j
  .by_cases h2:i=k
   .omega
   .obtain⟨pk,x6,rfl⟩:=x0 h2 hk;rw[if_pos h1.symm,if_neg (qF h2)];exact fresh k pk h2 x6
  .obtain⟨pj,x1,rfl⟩:=x0 h1 hj;rw[if_neg (qF h1)];by_cases h2:i=k
   .rw[if_pos h2.symm];exact λx3 x4=>fresh j pj h1 x1 x4 x3
   .obtain⟨pk,x6,rfl⟩:=x0 h2 hk;rw[if_neg (qF h2)];exact h.inj j k pj pk x1 x6 xc g
 .intro j oj hj;rw[show zm ((i,some o')::xA i Y.E) j=_ from zab ..]at hj;by_cases hs:i=j
  .exact hs▸xe
  .obtain⟨pj,x1,rfl⟩:=x0 hs hj;exact h.lt j pj x1
 .refine⟨h.fix.1,λj hj=>?_⟩;obtain⟨h2,h3⟩:=h.fix.2 j hj;have hs:i≠j:=λe=>by subst e;have:=h3 o hi;rw[x7]at this;cases this
  refine⟨?_,λoj ho=>?_⟩
  .
   rw[if_neg (qF hs)];exact h2
  .rw[show zm ((i,some o')::xA i Y.E) j=_ from zab ..]at ho;obtain⟨pj,x1,rfl⟩:=x0 hs ho;rw[OObj.kill_isBuf];exact h3 pj x1
 .intro s;rw[Frame.get_kill];unfold V.kill;cases uses i (zn Y.F s).t (zn Y.F s).x with
  |true=>exact zk _
  |false=>exact h.hb s
 .intro j oj hj;rw[show zm ((i,some o')::xA i Y.E) j=_ from zab ..]at hj;by_cases hs:i=j
  .rw[if_pos hs]at hj;cases hj;exact hu
  .obtain⟨pj,x1,rfl⟩:=x0 hs hj;exact OObj.kill_under (h.hE j pj x1)
theorem Sim.lose2(h:Sim w0 X n Y U a w){i j:Nat}{oi oj:OObj}(hi:zm Y.E i=some oi)(hj:zm Y.E j=some oj)(hk:Kept (λg=>zag (U i)=some g\/zag (U j)=some g) w w'):
  Sim w0 X n { Y with E:=(i,none)::(j,none)::Y.E } U a w':=by
 have hget:∀m om,zm ((i,none)::(j,none)::Y.E) m=some om->i≠m/\j≠m/\zm Y.E m=some om:=λm om hm=>by
  rw[zab,zab]at hm;by_cases h1:i=m
  .rw[if_pos h1]at hm;cases hm
  .rw[if_neg h1]at hm;by_cases h2:j=m
   .rw[if_pos h2]at hm;cases hm
   .rw[if_neg h2]at hm;exact⟨h1,h2,hm⟩
 have x0:qz w w' (OSet X Y.E U) (OSet X ((i,none)::(j,none)::Y.E) U):=⟨hk.size,λg hg x4=>hk.block g hg λe=>x4 (.inr (e.elim (λe=>⟨i,oi,hi,e⟩) λe=>⟨j,oj,hj,e⟩)),λg _ hg=>by
  rcases hg with hg|⟨m,om,h1,h2⟩
  .exact .inl hg
  .exact .inr ⟨m,om,(hget m om h1).2.2,h2⟩⟩
 have x1:Kept X.R w0 w':=⟨hk.os.trans h.bel.os,hk.tape.trans h.bel.tape,hk.output.trans h.bel.output,zJ h.bel.size hk.size,λk x2 hr=>(hk.block k (zy x2 h.bel.size) λe=>by
  rcases e with e|e
  .rcases h.new i oi k hi e with h1|h1
   .omega
   .exact hr h1
  .rcases h.new j oj k hj e with h1|h1
   .omega
   .exact hr h1).trans (h.bel.block k x2 hr)⟩
 exact⟨h.sz,h.df,x1,λs=>zZ x0 _ _ _ (h.fr s),λm om hm=>by
   obtain⟨h1,h2,h3⟩:=hget m om hm;exact(h.own m om h3).keep x0 λg hg=>hk.block g ((h.own m om h3).block_lt hg).2 λe=>e.elim (λe=>h.inj i m oi om hi h3 h1 g e hg) λe=>h.inj j m oj om hj h3 h2 g e hg,
  λm om g hm=>h.new m om g (hget m om hm).2.2,λm k om ok hm x3=>h.inj m k om ok (hget m om hm).2.2 (hget k ok x3).2.2,λm om hm=>h.lt m om (hget m om hm).2.2,
  ⟨h.fix.1,λm hm=>⟨(h.fix.2 m hm).1,λom ho=>(h.fix.2 m hm).2 om (hget m om ho).2.2⟩⟩,h.hb,λm om hm=>h.hE m om (hget m om hm).2.2⟩
end
section
variable {P:zw}{K:Kn}{w0:zh}{X:Ownr}{n:Nat}{Y:AS}{Q:Exit->AS->Prop}{ops:Array Oper}
@[reducible] def zqi{R S:Type}(N:R->S->Prop)(E:zd->Prop):Except zd (R×S)->Prop
 |.ok (y,x')=>N y x'
 |.error pv=>E pv
theorem zmm(hX:X.Ok w0){o:Oper}{f:zV}{c:HCtr}(hc:zaD P X.G f c){a0:zB}{zas:List zB}(hrunG:∀(U:Nat->zd)(a:Act)(w:zh),Sim w0 X n (frzs Y zas) U a w->(∀(zas:Array zd)(w:zh),(callFunc f zas).run P w=.ok (.enter f zas) w)->(execOp a.eval o).run P w=.ok (.enter f (a.eval a0::zas.map a.eval).toArray) w)
  {F:zN}{E:Owns}{nx:Nat} (hσ:frzs Y zas=⟨F,E,nx⟩) {i:Nat} (hev:evO F a0=⟨.hptr,(i,(0:Nat))⟩) {ty:zo}{vs:List V} (hbox:zm E i=some (.hbox ty vs)) {et:Ty}{j:Nat} (hk:vs[c.k]? =some ⟨.obuf et,j⟩) {xsl:List c.et.T} (hbuf:zm E j=some (.buf c.te c.et xsl))
  {x:c.self.T} (hun:unD c.self ((c.back i vs).set c.k ⟨.slice c.et,xsl⟩)=some (x,[])) (hd:zaN c.args=true) (hfl:c.res.resOk=true)
  {q:List Prop}{xs:Args c.args} (hav:zdY E false (zas.map (evO F)) c.args=some (q,xs)) (hq:allP q) (hpre:allP (c.pre x xs)) (hinv:∀w R,(∀g,R g->w0.heap.size<=g\/X.R g)->X.G w->c.inv w R ty) {F':c.res.T->zN} (hput:∀y,putD n o.dst (resV c.res y) (jH j F)=some (F' y))
  {N:AS->Prop} (h:zqi (λy x'=>N ⟨F' y,(i,some (.hbox ty (c.lv i j x')))::(j,some (.buf c.te c.et (c.sl x')))::xA j E,nx⟩) (λpv=>Q (.panic [{ v:=pv,recovered:=false }]) ⟨F,(i,none)::(j,none)::E,nx⟩) (c.out x xs))
  (U:Nat->zd) (a:Act) (w:zh) (hs:Sim w0 X n Y U a w):o.wp P a w (λa' w'=>∃Y' U',Sim w0 X n Y' U' a' w'/\N Y') (λe a' w'=>e≠ .outgrown/\∃Y' U',Sim w0 X n Y' U' a' w'/\Q e Y'):=by
 have h1:=hs.frzs hX zas;have h1r:=h1;rw[hσ]at h1;obtain⟨hen,hlaw,hcall⟩:=hc;have hunH:unH c i vs E x:=⟨et,j,xsl,hk,hbuf,hun⟩;have hsl:xsl=c.sl x:=by
  obtain⟨et',j',k1,k2,_,_⟩:=zgf hlaw hunH;rw[hk]at k1;cases k1;rw[hbuf]at k2;cases k2;rfl
 subst hsl;have hv:=h1.ops a0;rw[show evO (AS.mk F E nx).F a0=_ from hev]at hv;obtain⟨g,hg1,hg2⟩:=hv;obtain⟨g',cs,e1,_,e3,e4⟩:=h1.own _ _ hbox;have hgg:g'=g:=by
  have hg1:zag (U i)=some g:=hg1;rw[e1]at hg1
  simpa [zag] using hg1
 subst hgg;have hij:i≠j:=λe=>by rw[e,hbuf]at hbox;cases hbox
 have hji:j≠i:=λe=>hij e.symm;have hbj:=h1.own _ _ hbuf;have hOg:OSet X E U g':=.inr ⟨_,_,hbox,by rw[e1];rfl⟩;have hgb:zag (U j)≠some g':=h1.inj i j _ _ hbox hbuf hij g' (by rw[e1];rfl);obtain⟨O,hO⟩:∃O:Nat->Prop,O=λk=>OSet X E U k/\k≠g'/\zag (U j)≠some k:=⟨_,rfl⟩;have hset:zb0 O g' (U j)=OSet X E U:=by
  funext k
  apply propext;rw[hO];constructor
  .rintro ((hk|rfl)|hk)
   .exact hk.1
   .exact hOg
   .exact .inr ⟨j,_,hbuf,hk⟩
  .intro hk;by_cases e:k=g'
   .exact .inl (.inr e)
   .by_cases e':zag (U j)=some k
    .exact .inr e'
    .exact .inl (.inl ⟨hk,e,e'⟩)
 have hvs:RepVs w (OSet X E U) U (zas.map (evO F)) (zas.map a.eval):=by
  refine⟨by simp,λi v hv=>?_⟩;rw[yP]at hv;obtain⟨z,hz,rfl⟩:=zQ.1 hv;exact⟨a.eval z,by rw[yP,hz];rfl,h1.ops z⟩
 have ha:=zdR (B:=0) h1.own hd hav hq hvs.2 hvs.1;have ha:RepA w (zb0 O g' (U j)) c.args xs (zas.map a.eval):=by
  rw[hset];have e:(λk=>false=false/\OSet X E U k)=OSet X E U:=by funext k;simp
  rwa[e]at ha
 have hK0:qz w w (OSet X E U) (zb0 O g' (U j)):=by rw[hset];exact Keeps.refl _ _
 have hlv:RepH w (zb0 O g' (U j)) (zdP g' (U j)) (c.lv 0 1 x) cs:=RepH.toLv hlaw hK0 hunH e4 (λj' et' hj'=>by
  rw[hk]at hj';cases hj';rfl) (by rw[e1];rfl)
 have hbuf2:xC w (zb0 O g' (U j)) (zdP g' (U j)) 0 (U j) (.buf c.te c.et (c.sl x)):=hbj.keep hK0 λ_ _=>rfl;have hOk:∀k,O k->k<w.heap.size/\k≠g'/\zag (U j)≠some k:=λk hk=>by
  rw[hO]at hk;exact⟨h1.hO hX k hk.1,hk.2⟩
 have hR:∀k,(k=g'\/zag (U j)=some k)->w0.heap.size<=k\/X.R k:=λk hk=>by
  rcases hk with rfl|hk
  .exact h1.new _ _ k hbox (by rw[e1];rfl)
  .exact h1.new _ _ k hbuf hk
 have hcl:=hcall w O g' cs ty x xs _ (U j) hOk hgb e3 hlv hbuf2 ha hpre (hinv w _ hR (hX.2.2 w h1.bel)) (hX.2.2 w h1.bel);have hrun:(execOp a.eval o).run P w=.ok (.enter f (yO (some ⟨g',0,none⟩)::zas.map a.eval).toArray) w:=by
  rw[hrunG U a w h1r hen,hg2]
 unfold v8;rw[hrun];refine hcl.mono λe w' hr=>?_;obtain⟨hkp,hr⟩:=hr;revert hr h;cases c.out x xs with
 |error pv=>
  intro h;rintro rfl;refine⟨λe=>(by cases e),_,U,h1.lose2 hbox hbuf ⟨hkp.os,hkp.tape,hkp.output,hkp.size,λk hkl hn=>hkp.block k hkl λhk=>hn ?_⟩,h⟩;rcases hk with rfl|hk
  .exact .inl (by rw[e1];rfl)
  .exact .inr hk
 |ok r=>
  obtain⟨y,x'⟩:=r;intro h;rintro ⟨v,cs',b',rfl,h7,h8,h9,hng,hnew,hres⟩;obtain⟨w1,hw1⟩:∃w1,w1=w'.putObj g' (.cells cs.toArray ty (0,0)):=⟨_,rfl⟩;have hgl':g'<w'.heap.size:=(zl.1 h7).1;have hgl:g'<w.heap.size:=(zl.1 e3).1;have hw1g:w1.heap[g']? =some (.cells cs.toArray ty (0,0)):=by rw[hw1];exact qL hgl'
  have hw1o:∀k,k≠g'->w1.heap[k]? =w'.heap[k]? :=λk hne=>by rw[hw1];exact yA hne
  have hp1:=grownBy_putObj' w' g' (.cells cs.toArray ty (0,0));rw[<-hw1]at hp1;have hsz1:w1.heap.size=w'.heap.size:=by rw[hw1];simp
  let U1:Nat->zd:=λm=>if m=j then b' else U m
  obtain⟨E1,hE1⟩:∃E1:Owns,E1=(j,some (.buf c.te c.et (c.sl x')))::xA j E:=⟨_,rfl⟩;have hset1:∀k,OSet X E1 U1 k->zb0 O g' b' k:=λk hk=>by
   have hX':∀m om,m≠j->zm E m=some om->zag (U m)=some k->zb0 O g' b' k:=λm om hmj hm hbm=>by
    by_cases e:k=g'
    .exact .inl (.inr e)
    .refine .inl (.inl ?_);rw[hO];exact⟨.inr ⟨m,om,hm,hbm⟩,e,λe'=>h1.inj m j om _ hm hbuf hmj k hbm e'⟩
   rcases hk with hk|⟨m,om,hm,hbm⟩
   .refine .inl (.inl ?_);rw[hO];have h3:=hX.1 k hk;refine⟨.inl hk,λe=>?_,λe=>?_⟩
    .rcases hR k (.inl e) with h4|h4
     .omega
     .exact h3.2 h4
    .rcases hR k (.inr e) with h4|h4
     .omega
     .exact h3.2 h4
   .rw[hE1,zab]at hm;by_cases hjm:j=m
    .subst hjm;have hbm:zag (if j=j then b' else U j)=some k:=hbm;rw[if_pos rfl]at hbm;exact .inr hbm
    .rw[if_neg hjm,kL]at hm;obtain⟨pm,hp,_⟩:=zQ.1 hm;have hbm:zag (if m=j then b' else U m)=some k:=hbm;rw[if_neg (qF hjm)]at hbm;exact hX' m pm (qF hjm) hp hbm
  have hgr:w.grownBy w1 (zag (U j)):=⟨hp1.os.trans hkp.os,hp1.tape.trans hkp.tape,hp1.output.trans hkp.output,by rw[hsz1];exact hkp.size,λk hkl hne=>by
   by_cases e:k=g'
   .rw[e,hw1g,e3]
   .rw[hw1o k e];exact hkp.block k hkl λhk=>hk.elim e λhk=>hne hk.symm⟩
  have h2:=h1.redo0 (w':=w1) (o':=.buf c.te c.et (c.sl x')) hbuf rfl hgr hnew (by
   refine h9.keep ⟨by rw[hsz1];exact zj _,λk _ hn=>hw1o k λe=>hn (.inl (.inr e)),λk _ hk=>hset1 k (by rw[hE1];exact hk)⟩ λk hk=>hw1o k λe=>hng (by rw[hk,e]))
  rw[<-hE1]at h2;have hbi:(if i=j then b' else U i)=.pointer (some ⟨g',0,none⟩):=by rw[if_neg hij,e1]
  have hi1:zm E1 i=some (.hbox ty (vs.map (V.kill j))):=by
   rw[hE1,zab,if_neg hji,kL];rw[show zm E i=_ from hbox];rfl
  have hjn:=h1.lt j _ hbuf;have h3:=h2.write (w':=w') (o':=.hbox ty (c.lv i j x')) hi1 (by
   rw[hbi];refine⟨hp1.os.symm,hp1.tape.symm,hp1.output.symm,by show w1.heap.size<=w'.heap.size;rw[hsz1];exact zj _,λk _ hne=>(hw1o k λe=>hne (by rw[e];rfl)).symm⟩) (λ_=>by
   rw[hbi];refine⟨g',cs',rfl,zk _,h7,RepH.lvLv hlaw ⟨zj _,λ_ _ _=>rfl,λk _ hk=>hset1 k hk⟩ h8 ?_ ?_⟩
   .show(if j=j then b' else U j)=zdP g' b' 1;rw[if_pos rfl];rfl
   .
    rw[hbi];rfl) rfl (λws e u hu=>by
   cases e;exact zoy hlaw (h1.lt i _ hbox) hjn x' u hu)
  subst hE1;refine⟨_,λm=>if m=j then b' else U m,?_,h⟩;have hp:=hput y;unfold putD at hp;split at hp
  .rename_i d hdst;split at hp<;>first|(cases hp;done)|skip
   rename_i hlt;have hp:=zP hp;rw[hdst, <-hp];have hkp2:qz w' w' (zb0 O g' b') (OSet X ((i,some (.hbox ty (c.lv i j x')))::(j,some (.buf c.te c.et (c.sl x')))::xA j E) (λm=>if m=j then b' else U m)):=⟨zj _,λ_ _ _=>rfl,λk _ hk2=>by
    rcases hk2 with hk2|⟨m,om,hm,hbm⟩
    .exact hset1 k (.inl hk2)
    .rw[zab]at hm;by_cases him:i=m
     .subst him;have hbm:zag (if i=j then b' else U i)=some k:=hbm;rw[hbi]at hbm;exact .inl (.inr (zP hbm).symm)
     .rw[if_neg him]at hm;exact hset1 k (.inr ⟨m,om,hm,hbm⟩)⟩
   exact h3.put (zR _ _) (zZ hkp2 _ _ _ (zir (U:=λm=>if m=j then b' else U m) _ hfl hres)) (zf1 _ hfl _) (by simpa using hlt:d<n)
  .rename_i hdst;have hp:=zP hp;rw[hdst, <-hp];exact h3
theorem zuD(hX:X.Ok w0){o:Oper}{f:zV}{c:HCtr}(hc:zaD P X.G f c){args:Array zB}{ts:Array zo}{a0:zB}{zas:List zB}(ho:o.op=.call ⟨.value (.func f),args,ts⟩)(x1:args.toList=a0::zas)
  {F:zN}{E:Owns}{nx:Nat} (xa:frzs Y zas=⟨F,E,nx⟩) {i:Nat} (x9:evO F a0=⟨.hptr,(i,(0:Nat))⟩) {ty:zo}{vs:List V} (hbox:zm E i=some (.hbox ty vs)) {et:Ty}{j:Nat} (hk:vs[c.k]? =some ⟨.obuf et,j⟩) {x6:List c.et.T} (x4:zm E j=some (.buf c.te c.et x6))
  {x:c.self.T} (xb:unD c.self ((c.back i vs).set c.k ⟨.slice c.et,x6⟩)=some (x,[])) (hd:zaN c.args=true) (x7:c.res.resOk=true)
  {q:List Prop}{xs:Args c.args} (x8:zdY E false (zas.map (evO F)) c.args=some (q,xs)) (hq:allP q) (x3:allP (c.pre x xs)) (x2:∀w R,(∀g,R g->w0.heap.size<=g\/X.R g)->X.G w->c.inv w R ty) {F':c.res.T->zN} (x5:∀y,putD n o.dst (resV c.res y) (jH j F)=some (F' y))
  {N:AS->Prop} (h:zqi (λy x'=>N ⟨F' y,(i,some (.hbox ty (c.lv i j x')))::(j,some (.buf c.te c.et (c.sl x')))::xA j E,nx⟩) (λpv=>Q (.panic [{ v:=pv,recovered:=false }]) ⟨F,(i,none)::(j,none)::E,nx⟩) (c.out x xs))
  (U:Nat->zd) (a:Act) (w:zh) (hs:Sim w0 X n Y U a w):o.wp P a w (λa' w'=>∃Y' U',Sim w0 X n Y' U' a' w'/\N Y') (λe a' w'=>e≠ .outgrown/\∃Y' U',Sim w0 X n Y' U' a' w'/\Q e Y'):=
 zmm hX hc (a0:=a0) (zas:=zas) (λU a w hs xc=>by
  have x0:(args.toList.map a.eval).toArray=(a.eval a0::zas.map a.eval).toArray:=by rw[x1,qH]
  rw[<-x0];have em:(args.toList.map a.eval).toArray=args.map a.eval++ #[]:=by
   rw[<-zdE];simp
  have hx:a.eval (.func f)=.func (.func f) #[] #[]:=rfl;rw[em];unfold execOp;simp[ho,resolve,invoke,vd,hx,xc]) xa x9 hbox hk x4 xb hd x7 x8 hq x3 x2 x5 h U a w hs
structure HSite where
 c:HCtr
 x:c.self.T
 xs:Args c.args
 ty:zo
 q:List Prop
 next:c.res.T->c.self.T->AS
 lost:AS
def hget:List (zV×HCtr)->zV->Option HCtr
 | [],_=>none
 |(g,c)::r,f=>bif yK g f then some c else hget r f
def HsOk(P:zw)(G:zh->Prop)(C:List (zV×HCtr)):Prop:=∀f c,hget C f=some c->zaD P G f c
theorem HsOk.nil{P:zw}{G:zh->Prop}:HsOk P G []:=λ_ _ h=>by cases h
theorem HsOk.cons{P:zw}{G:zh->Prop}{f:zV}{c:HCtr}{C:List (zV×HCtr)}(h:zaD P G f c)(hC:HsOk P G C):HsOk P G ((f,c)::C):=by
 intro g d hg;simp only[hget,cond_eq_ite,xV]at hg;split at hg
 .rename_i e;cases hg;exact e▸h
 .exact hC g d hg
def hFn(F:zN):Op->Option (zV×zB×List zB)
 |.call ⟨.value (.func f),args,_⟩=>match args.toList with
  |a0::zas=>some (f,a0,zas)
  | []=>none
 |_=>none
def zsp(n:Nat)(d:Option Nat)(v:V)(F:zN):zN:=match d with
 |some d=>(d,v)::F
 |none=>F
def zBf(n:Nat):Option Nat->Bool
 |some d=>zM d n
 |none=>true
def zyd(te:zo)(t:Ty):OObj->Option (List t.T)
 |.buf te' t' xs=>if yK te te' then zu2 (.slice t') (.slice t) xs (zfE (.slice t') (.slice t)) else none
 |_=>none
def zsq(C:List (zV×HCtr))(n:Nat)(o:Oper)(Y:AS):Option HSite:=
 match hFn Y.F o.op with
 |some (f,a0,zas)=>match hget C f with
  |some c=>match frzs Y zas with
   |⟨F,E,nx⟩=>match evO F a0 with
    |⟨.hptr,(i,0)⟩=>match zm E i with
     |some (.hbox ty vs)=>match vs[c.k]? with
      |some ⟨.obuf _,j⟩=>match zm E j with
       |some ob=>match zyd c.te c.et ob with
        |some xsl=>if zaN c.args&&c.res.resOk&&zBf n o.dst then(match unD c.self ((c.back i vs).set c.k ⟨.slice c.et,xsl⟩),zdY E false (zas.map (evO F)) c.args with
         |some (x,[]),some (q,xs)=>some ⟨c,x,xs,ty,q++c.pre x xs,λy x'=>⟨zsp n o.dst (resV c.res y) (jH j F),(i,some (.hbox ty (c.lv i j x')))::(j,some (.buf c.te c.et (c.sl x')))::xA j E,nx⟩,⟨F,(i,none)::(j,none)::E,nx⟩⟩
         |_,_=>none) else none
        |none=>none
       |none=>none
      |_=>none
     |_=>none
    |_=>none
  |none=>none
 |none=>none
theorem zu3{te:zo}{t:Ty}{ob:OObj}{xs:List t.T}(h:zyd te t ob=some xs):ob=.buf te t xs:=by
 cases ob with
 |buf te' t' ys=>
  simp only[zyd]at h;split at h<;>first|(cases h;done)|skip
  rename_i x0;have x0:te=te':=by simpa using x0
  subst x0;revert h;generalize zfE (Ty.slice t') (Ty.slice t)=e;intro h;cases e with
  |none=>cases h
  |some e=>
   obtain⟨e⟩:=e;cases e;cases h;rfl
 |_=>cases h
theorem zoL(hX:X.Ok w0){C:List (zV×HCtr)}(hC:HsOk P X.G C){o:Oper}{s:HSite}(hs:zsq C n o Y=some s)(hq:allP s.q)(x4:∀w R,(∀g,R g->w0.heap.size<=g\/X.R g)->X.G w->s.c.inv w R s.ty)
  {N:AS->Prop} (h:zqi (λy x'=>N (s.next y x')) (λpv=>Q (.panic [{ v:=pv,recovered:=false }]) s.lost) (s.c.out s.x s.xs))
  (U:Nat->zd) (a:Act) (w:zh) (x6:Sim w0 X n Y U a w):o.wp P a w (λa' w'=>∃Y' U',Sim w0 X n Y' U' a' w'/\N Y') (λe a' w'=>e≠ .outgrown/\∃Y' U',Sim w0 X n Y' U' a' w'/\Q e Y'):=by
 unfold zsq at hs;split at hs<;>first|(cases hs;done)|skip
 rename_i f a0 zas x2;split at hs<;>first|(cases hs;done)|skip
 rename_i c hc;split at hs;rename_i F E nx xa;split at hs<;>first|(cases hs;done)|skip
 rename_i i x9;split at hs<;>first|(cases hs;done)|skip
 rename_i ty vs hbox;split at hs<;>first|(cases hs;done)|skip
 rename_i et j hk;split at hs<;>first|(cases hs;done)|skip
 rename_i ob xe;split at hs<;>first|(cases hs;done)|skip
 rename_i xf xb;split at hs<;>first|(cases hs;done)|skip
 rename_i x1;simp only[zf]at x1;obtain⟨⟨hd,x7⟩,x0⟩:=x1;split at hs<;>first|(cases hs;done)|skip
 rename_i x q xs xc x8;have hs:=zP hs;subst hs;have x5:=zu3 xb;subst x5;simp only[zat]at hq;obtain⟨args,ts,ho,x3⟩:∃args ts,o.op=.call ⟨.value (.func f),args,ts⟩/\args.toList=a0::zas:=by
  unfold hFn at x2;split at x2<;>first|(cases x2;done)|skip
  rename_i f' args ts xd;split at x2<;>first|(cases x2;done)|skip
  rename_i b0 bs hl;cases x2;exact⟨args,ts,xd,hl⟩
 refine zuD hX (hC f c hc) ho x3 xa x9 hbox hk xe xc hd x7 x8 hq.1 hq.2 x4 (F':=λy=>zsp n o.dst (resV c.res y) (jH j F)) (λy=>?_) h U a w x6;unfold putD zsp;cases hh:o.dst with
 |none=>rfl
 |some d=>
  rw[hh]at x0;have x0:zM d n=true:=x0;show(if zM d n=true then _ else _)=_;rw[if_pos x0]
theorem AL.own(m:Nat)(hX:X.Ok w0)(hK:KnOk P X.G K){C:List (zV×HCtr)}(hC:HsOk P X.G C){l rest:List Oper}{o:Oper}{r:List Prop×AS}(hs:aSeq K n ops (l.take m) Y=some r)(hp:allP r.1)(hl:l.drop m=o::rest){s:HSite}(x0:zsq C n o r.2=some s)
  (hq:allP s.q) (x1:∀w R,(∀g,R g->w0.heap.size<=g\/X.R g)->X.G w->s.c.inv w R s.ty) (h:zqi (λy x'=>AL P w0 X n ops rest (s.next y x') Q) (λpv=>Q (.panic [{ v:=pv,recovered:=false }]) s.lost) (s.c.out s.x s.xs))
  (x3:o.guard=none:=by rfl) (x4:∀c,o.op≠ .defer c:=by intro c e;cases e) (hd:za2 (l.take m)=true:=by rfl):AL P w0 X n ops l Y Q:=by
 refine AL.take m hX hK hs hp ?_ hd;rw[hl];exact AL.hand x3 x4 λU a w x2=>zoL (N:=λY'=>AL P w0 X n ops rest Y' Q) hX hC x0 hq x1 h U a w x2
theorem StepA.own(hX:X.Ok w0){C:List (zV×HCtr)}(hC:HsOk P X.G C){o:Oper}{s:HSite}{N:AS->Prop}(x0:zsq C n o Y=some s)(hq:allP s.q)(x1:∀w R,(∀g,R g->w0.heap.size<=g\/X.R g)->X.G w->s.c.inv w R s.ty)
  (h:zqi (λy x'=>N (s.next y x')) (λpv=>Q (.panic [{ v:=pv,recovered:=false }]) s.lost) (s.c.out s.x s.xs)) (x3:o.guard=none:=by rfl):StepA P w0 X n ops o Y N Q:=
 StepA.hand x3 λU a w x2=>zoL (N:=N) hX hC x0 hq x1 h U a w x2
end
abbrev Nd:=Int×Int×Int×Int×Int×Int×List Int×List UInt8×Unit
abbrev TokT:=Int×Int×Int×List UInt8×Int×Unit
def Tok.cls(t:TokT):Int:=t.1
def Tok.at(t:TokT):Int:=t.2.1
def Tok.size(t:TokT):Int:=t.2.2.1
def Tok.text(t:TokT):List UInt8:=t.2.2.2.1
def Tok.n(t:TokT):Int:=t.2.2.2.2.1
def isLt(c:UInt8):Bool:=decide (97<=c|||32)&&decide (c|||32<=122)
def isDg(c:UInt8):Bool:=decide (48<=c)&&decide (c<=57)
def isPt(c:UInt8):Bool:=isLt c||isDg c||(c==45)
def isWh(c:UInt8):Bool:=(c==32)||(c==9)||(c==10)||(c==13)
def zbJ(p:UInt8->Bool)(s:List UInt8):Nat:=(s.takeWhile p).length
def zau:List UInt8->Nat
 | []=>0
 |c::r=>if isLt c then zbJ isPt (c::r) else 0
def numv(l:List UInt8):Nat:=l.foldl (λn c=>10*n+(c.toNat-48)) 0
def zdK:Nat:=1125899906842624
def zaR(s:List UInt8):Nat:=if s.head? =some 45 then 1 else 0
def zaP(s:List UInt8):List UInt8:=(s.drop (zaR s)).takeWhile isDg
def valN(s:List UInt8):Int:=if zaR s=1 then -((min (numv (zaP s)) zdK:Nat):Int) else((min (numv (zaP s)) zdK:Nat):Int)
def zc6(s:List UInt8):Option (Int×Nat×List UInt8×Int):=
 if(zaP s).length=0 then none
 else if(zaP s).head? =some 48/\1<zaR s+(zaP s).length then some (5,zaR s+(zaP s).length,s.take (zaR s+(zaP s).length),(zdK:Int))
 else some (3,zaR s+(zaP s).length,s.take (zaR s+(zaP s).length),valN s)
def zbL(s:List UInt8):TokT:=
 let skip:=zbJ isWh s
 match s.drop skip with
 | []=>(0,(skip:Int),0,[],0,())
 |c::r=>
  if 0<zau (c::r) then(1,(skip:Int),(zau (c::r):Nat),(c::r).take (zau (c::r)),0,())
  else if c=64/\0<zau r then(2,(skip:Int),(zau r:Nat)+1,r.take (zau r),0,())
  else match zc6 (c::r) with
   |some (k,n,t,x)=>(k,(skip:Int),(n:Nat),t,x,())
   |none=>if c=40\/c=41\/c=61 then(4,(skip:Int),1,[c],0,()) else(5,(skip:Int),1,[c],0,())
def zeT(s:List UInt8)(o:Int):TokT:=let t:=zbL (s.drop o.toNat);(Tok.cls t,Tok.at t+o,Tok.size t,Tok.text t,Tok.n t,())
def zlC:List UInt8:=[100,97,121,115]
def zho:List UInt8:=[121,101,97,114,115]
def zct:List UInt8:=[109,111,110,116,104,115]
def zbe:List UInt8:=[109,111,110,116,104,100,97,121,115]
def zbo:List UInt8:=[119,101,101,107,100,97,121,115]
def zdA:List UInt8:=[119,101,101,107,115]
def wNth:List UInt8:=[110,116,104]
def zfK:List UInt8:=[115,104,105,102,116]
def zjj:List UInt8:=[102,114,111,109]
def zfJ:List UInt8:=[117,110,116,105,108]
def zfY:List UInt8:=[97,108,115,111]
def zcu:List UInt8:=[101,120,99,101,112,116]
def wPos:List UInt8:=[112,111,115]
def zbY:List UInt8:=[98,101,104,105,110,100]
def wOr:List UInt8:=[111,114]
def zlB:List UInt8:=[109,105,110,117,115]
def wAnd:List UInt8:=[97,110,100]
def wOf:List UInt8:=[111,102]
def zlA:List UInt8:=[109,111,110,116,104]
def zfD:List UInt8:=[121,101,97,114]
def zgc:List UInt8:=[40]
def zdi:List UInt8:=[41]
def wEq:List UInt8:=[61]
inductive Tr where
 |leaf (n:Nd)
 |un (n:Nd) (a:Tr)
 |bin (n:Nd) (a b:Tr)
def Tr.size:Tr->Nat
 |.leaf _=>1
 |.un _ a=>a.size+1
 |.bin _ a b=>a.size+b.size+1
def setL(n:Nd)(l:Int):Nd:=(n.1,n.2.1,l,n.2.2.2)
def zbZ(n:Nd)(l r:Int):Nd:=(n.1,n.2.1,l,r,n.2.2.2.2)
def Tr.flat:Tr->Nat->List Nd
 |.leaf n,_=>[n]
 |.un n a,b=>a.flat b++[setL n ((b+a.size:Nat)-1)]
 |.bin n a c,b=>a.flat b++c.flat (b+a.size)++[zbZ n ((b+a.size:Nat)-1) ((b+a.size+c.size:Nat)-1)]
theorem Tr.len_flat:∀(t:Tr)(b:Nat),(t.flat b).length=t.size
 |.leaf _,_=>rfl
 |.un _ a,b=>by
  have:=Tr.len_flat a b;rw[Tr.flat,Tr.size,zg,this];rfl
 |.bin _ a c,b=>by
  have h1:=Tr.len_flat a b;have h2:=Tr.len_flat c (b+a.size);rw[Tr.flat,Tr.size,zg,zg,h1,h2];rfl
abbrev GSt:=TokT×Int
abbrev GE:=Except (Int×Int)
section
variable (s:List UInt8)
def zaH(st:GSt)(b:Bool)(e:Int):Except (Int×Int) Unit:=if b then .ok () else .error (Tok.at st.1,e)
def gAdv(st:GSt):GSt:=(zeT s (Tok.at st.1+Tok.size st.1),st.2)
def gIs(st:GSt)(w:List UInt8):Bool:=((Tok.cls st.1==1)||(Tok.cls st.1==4))&&decide (Tok.text st.1=w)
def za3(st:GSt)(w:List UInt8):Except (Int×Int) GSt:=do
 zaH st (gIs st w) 3
 return gAdv s st
def zbX(st:GSt):Except (Int×Int) GSt:=do
 zaH st (decide (st.2<64)) 2
 return gAdv s (st.1,st.2+1)
def zaO(st:GSt)(x1 x0:Int):GE (Int×GSt):=do
 zaH st (Tok.cls st.1==3) 3
 zaH st (decide (x1<=Tok.n st.1)&&decide (Tok.n st.1<=x0)) 1
 return (Tok.n st.1,gAdv s st)
def zcU(x1 x0:Int)(zero:Bool):Nat->GSt->List Int->GE (List Int×GSt)
 |0,st,_=>.error (Tok.at st.1,0)
 |k+1,st,l=>if !l.isEmpty&&gIs st zdi then .ok (l,st) else do
  zaH st (Tok.cls st.1==3) 3
  zaH st (decide (l.length<64)) 2
  zaH st (decide (Tok.n st.1>l.getLast?.getD (x1-1))&&(zero||(Tok.n st.1 != 0))) 1
  let (x,st')<-zaO s st x1 x0
  zcU x1 x0 zero k st' (l++[x])
def zdL(st:GSt)(x1 x0:Int)(zero:Bool):GE (List Int×GSt):=do
 let st<-za3 s st zgc
 let (l,st)<-zcU s x1 x0 zero 66 st []
 let st<-za3 s st zdi
 return (l,st)
def zei(st:GSt):GE (Int×GSt):=do
 zaH st (gIs st zlA||gIs st zfD) 3
 return (if Tok.text st.1=zfD then 1 else 0,gAdv s st)
def gCal(st:GSt):GE (Int×GSt):=zaO s st 0 2
def zdX:Int:=1099511627776
inductive LeafW where
 |days|years|months|monthdays|weekdays|weeks|nth
def zhL(w:List UInt8):Option LeafW:=
 if w=zlC then some .days else if w=zho then some .years else if w=zct then some .months else if w=zbe then some .monthdays else if w=zbo then some .weekdays else if w=zdA then some .weeks else if w=wNth then some .nth else none
def zdM(st:GSt):LeafW->GE (Nd×GSt)
 |.days=>do
  let (n,st)<-zaO s st 1 zdX
  let (m,st)<-zaO s st 0 zdX
  return ((1,0,0,0,n,m,[],[],()),st)
 |.years=>do
  let (c,st)<-gCal s st
  let (n,st)<-zaO s st 1 400
  let (m,st)<-zaO s st 0 (n-1)
  return ((2,c,0,0,n,m,[],[],()),st)
 |.months=>do
  let (c,st)<-gCal s st
  let (l,st)<-zdL s st 1 16 true
  return ((3,c,0,0,0,0,l,[],()),st)
 |.monthdays=>do
  let (c,st)<-gCal s st
  let (l,st)<-zdL s st (-40) 40 false
  return ((4,c,0,0,0,0,l,[],()),st)
 |.weekdays=>do
  let (l,st)<-zdL s st 0 6 true
  return ((5,0,0,0,0,0,l,[],()),st)
 |.weeks=>do
  let (c,st)<-gCal s st
  let (l,st)<-zdL s st 1 54 true
  return ((6,c,0,0,0,0,l,[],()),st)
 |.nth=>do
  let (c,st)<-gCal s st
  zaH st ((Tok.cls st.1 != 3)||(Tok.n st.1 != 0)) 1
  let (n,st)<-zaO s st (-60) 60
  let (m,st)<-zaO s st 0 6
  let (l,st)<-zei s st
  return ((7,c,l,0,n,m,[],[],()),st)
inductive SufW where
 |shift|from_|until_|also|except_|pos|behind
def sufW(w:List UInt8):Option SufW:=
 if w=zfK then some .shift else if w=zjj then some .from_ else if w=zfJ then some .until_ else if w=zfY then some .also else if w=zcu then some .except_ else if w=wPos then some .pos else if w=zbY then some .behind else none
def gSuf(st:GSt):SufW->GE (Nd×GSt)
 |.shift=>do
  let (n,st)<-zaO s st (-zdX) zdX
  return ((11,0,0,0,n,0,[],[],()),st)
 |.from_=>do
  let (n,st)<-zaO s st 0 zdX
  return ((12,0,0,0,n,0,[],[],()),st)
 |.until_=>do
  let (n,st)<-zaO s st 0 zdX
  return ((13,0,0,0,n,0,[],[],()),st)
 |.also=>do
  let (l,st)<-zdL s st 0 zdX true
  return ((14,0,0,0,0,0,l,[],()),st)
 |.except_=>do
  let (l,st)<-zdL s st 0 zdX true
  return ((15,0,0,0,0,0,l,[],()),st)
 |.pos=>do
  let (c,st)<-gCal s st
  let (m,st)<-zei s st
  let (l,st)<-zdL s st (-400) 400 false
  return ((16,c,0,0,0,m,l,[],()),st)
 |.behind=>do
  let (n,st)<-zaO s st 1 400
  let st<-za3 s st wOf
  return ((17,0,0,0,n,0,[],[],()),st)
def opW:Nat->List UInt8
 |0=>wOr
 |1=>zlB
 |_=>wAnd
def opK:Nat->Int
 |0=>9
 |1=>10
 |_=>8
inductive Md where
 |bin (i:Nat)
 |binL (i:Nat) (t:Tr)
 |chain
 |chainL (t:Tr)
 |prim
def zNd:Nd:=(0,0,0,0,0,0,[],[],())
def zbx(x0:Md->GSt->GE (Tr×GSt)):Md->GSt->GE (Tr×GSt)
 |.bin i,st=>if 3<=i then x0 .chain st else do
  let (t,st)<-x0 (.bin (i+1)) st
  x0 (.binL i t) st
 |.binL i t,st=>if gIs st (opW i) then do
   let st<-zbX s st
   let (u,st)<-x0 (.bin (i+1)) st
   x0 (.binL i (.bin (opK i,zNd.2) t u)) st
  else .ok (t,st)
 |.chain,st=>do
  let (t,st)<-x0 .prim st
  x0 (.chainL t) st
 |.chainL t,st=>if Tok.cls st.1=1 then(match sufW (Tok.text st.1) with
   |none=>.ok (t,st)
   |some .behind=>do
    let st<-zbX s st
    let (n,st)<-gSuf s st .behind
    let (u,st)<-x0 .prim st
    x0 (.chainL (.bin n t u)) st
   |some w=>do
    let st<-zbX s st
    let (n,st)<-gSuf s st w
    x0 (.chainL (.un n t)) st)
  else .ok (t,st)
 |.prim,st=>if gIs st zgc then do
   let (t,st)<-x0 (.bin 0) (gAdv s st)
   let st<-za3 s st zdi
   return (t,st)
  else if Tok.cls st.1=2 then do
   zaH st (decide ((Tok.text st.1).length<=32)) 2
   let st'<-zbX s st
   return (.leaf (18,0,0,0,0,0,[],Tok.text st.1,()),st')
  else do
   zaH st (Tok.cls st.1==1) 3
   match zhL (Tok.text st.1) with
   |none=>.error (Tok.at st.1,3)
   |some w=>do
    let st<-zbX s st
    let (n,st)<-zdM s st w
    return (.leaf n,st)
def prs:Nat->Md->GSt->GE (Tr×GSt)
 |0,_,st=>.error (Tok.at st.1,0)
 |k+1,md,st=>zbx s (prs k) md st
def rem(st:GSt):Nat:=((s.length:Nat)-Tok.at st.1).toNat
def mdF:Md->Nat
 |.bin i=>3+(3-i)
 |.chain=>2
 |.prim=>1
 |.binL _ _=>7
 |.chainL _=>7
def meas(md:Md)(st:GSt):Nat:=8*rem s st+mdF md
def prsT(md:Md)(st:GSt):GE (Tr×GSt):=prs s (meas s md st+1) md st
def zgC(st:GSt):GE (Tr×GSt):=do
 let (t,st)<-prsT s (.bin 0) st
 zaH st (Tok.cls st.1==0) 3
 return (t,st)
def zjx:GSt:=(zeT s 0,0)
def zeL:Except (Int×Int) Tr:=(zgC s (zjx s)).map (·.1)
end
section
variable {s:List UInt8}
theorem zan{ε α U:Type}{e:Except ε α}{f:α->Except ε U}{y:U}(h:(e >>=f)=.ok y):∃x,e=.ok x/\f x=.ok y:=by
 cases e with
 |error a=>cases h
 |ok x=>exact⟨x,rfl,h⟩
def TkOk(s:List UInt8)(t:TokT):Prop:=(0<=Tok.at t/\0<=Tok.size t/\Tok.at t+Tok.size t<=(s.length:Nat))/\(Tok.cls t≠0->1<=Tok.size t)/\(Tok.cls t=0->Tok.at t=(s.length:Nat))/\(-1125899906842624<=Tok.n t/\Tok.n t<=1125899906842624)/\(Tok.text t).length<=s.length/\(0<=Tok.cls t/\Tok.cls t<=5)
theorem zkm(p:UInt8->Bool)(s:List UInt8):zbJ p s<=s.length:=by
 unfold zbJ;exact(kl p).length_le
theorem zfm(s:List UInt8):zau s<=s.length:=by
 unfold zau;split
 .exact zk _
 .split
  .exact zkm _ _
  .exact zk _
theorem zrs{l:List UInt8}{k:Int}{n:Nat}{t:List UInt8}{x:Int}(h:zc6 l=some (k,n,t,x)):(k=3\/k=5)/\1<=n/\n<=l.length/\t.length<=l.length/\ -1125899906842624<=x/\x<=1125899906842624:=by
 have x0:zaR l<=1/\zaR l<=l.length:=by
  unfold zaR;cases l with
  |nil=>exact⟨by decide,by decide⟩
  |cons c r=>split<;>simp
 have hd:(zaP l).length<=(l.drop (zaR l)).length:=(kl _).length_le;rw[qC]at hd;have hn:zdK=1125899906842624:=rfl;have hv: -1125899906842624<=valN l/\valN l<=1125899906842624:=by
  have:=Nat.min_le_right (numv (zaP l)) zdK;unfold valN;split<;>omega
 have ht:(l.take (zaR l+(zaP l).length)).length<=l.length:=by rw[yU];omega
 unfold zc6 at h;generalize valN l=vn at h hv;by_cases h0:(zaP l).length=0
 .rw[if_pos h0]at h;cases h
 rw[if_neg h0]at h;by_cases h1:(zaP l).head? =some 48/\1<zaR l+(zaP l).length
 .rw[if_pos h1]at h;cases h;refine⟨.inr rfl,by omega,by omega,ht,by omega,by omega⟩
 .rw[if_neg h1]at h;cases h;exact⟨.inl rfl,by omega,by omega,ht,hv⟩
theorem zoc(s:List UInt8):TkOk s (zbL s):=by
 have hk:=zkm isWh s;unfold zbL;simp only[];generalize zbJ isWh s=k at hk;split
 .rename_i hd;have hl:=congrArg zi hd;rw[qC,yC]at hl;refine⟨⟨?_,?_,?_⟩,?_,?_,?_,?_,?_⟩<;>simp only[Tok.at,Tok.size,Tok.cls,Tok.n,Tok.text,yC]<;>omega
 .rename_i c r hd;have hl:=congrArg zi hd;rw[qC,zv]at hl;have hw:=zfm (c::r);have x0:=zfm r;rw[zv]at hw;split
  .have ht:((c::r).take (zau (c::r))).length<=s.length:=by rw[yU,zv];omega
   refine⟨⟨?_,?_,?_⟩,?_,?_,?_,?_,?_⟩<;>simp only[Tok.at,Tok.size,Tok.cls,Tok.n,Tok.text]<;>omega
  .split
   .have ht:(r.take (zau r)).length<=s.length:=by rw[yU];omega
    refine⟨⟨?_,?_,?_⟩,?_,?_,?_,?_,?_⟩<;>simp only[Tok.at,Tok.size,Tok.cls,Tok.n,Tok.text]<;>omega
   .split
    .rename_i kk n t x hn;obtain⟨h1,h2,h3,h4,h5,h6⟩:=zrs hn;rw[zv]at h3 h4;refine⟨⟨?_,?_,?_⟩,?_,?_,?_,?_,?_⟩<;>simp only[Tok.at,Tok.size,Tok.cls,Tok.n,Tok.text]<;>omega
    .split<;>refine⟨⟨?_,?_,?_⟩,?_,?_,?_,?_,?_⟩<;>simp only[Tok.at,Tok.size,Tok.cls,Tok.n,Tok.text,zv,yC]<;>omega
theorem zkv{o:Int}(h0:0<=o)(h1:o<=(s.length:Nat)):TkOk s (zeT s o)/\o<=Tok.at (zeT s o):=by
 obtain⟨⟨a1,a2,a3⟩,b,c,d,e,f⟩:=zoc (s.drop o.toNat);rw[qC]at a3 c e;unfold zeT;generalize zbL (s.drop o.toNat)=t at *;obtain⟨k,a,z,x,n,_⟩:=t;simp only[Tok.at,Tok.size,Tok.cls,Tok.n,Tok.text]at *;refine⟨⟨⟨?_,?_,?_⟩,?_,?_,?_,?_,?_⟩,?_⟩<;>first|omega|(simp only[Tok.at,Tok.size,Tok.cls,Tok.n,Tok.text];omega)
def GOk(s:List UInt8)(st:GSt):Prop:=TkOk s st.1/\0<=st.2/\st.2<=64
theorem zxN{st:GSt}(h:GOk s st):GOk s (gAdv s st)/\Tok.at st.1+Tok.size st.1<=Tok.at (gAdv s st).1/\(gAdv s st).2=st.2:=by
 obtain⟨⟨⟨a1,a2,a3⟩,_⟩,hb⟩:=h;obtain⟨h1,h2⟩:=zkv (s:=s) (o:=Tok.at st.1+Tok.size st.1) o_ a3;exact⟨⟨h1,hb⟩,h2,rfl⟩
theorem zea{st:GSt}{w:List UInt8}(h:gIs st w=true):Tok.cls st.1≠0:=by
 unfold gIs at h;rw[zf,yW,beq_iff_eq,beq_iff_eq]at h;omega
theorem zbP{st:GSt}{b:Bool}{e:Int}{u:Unit}(h:zaH st b e=.ok u):b=true:=by
 unfold zaH at h;split at h
 .assumption
 .cases h
def Onw(s:List UInt8)(st st':GSt):Prop:=GOk s st'/\Tok.at st.1+1<=Tok.at st'.1
theorem Onw.trans{a b c:GSt}(h:Onw s a b)(k:Onw s b c):Onw s a c:=⟨k.1,by have:=h.2;have:=k.2;omega⟩
theorem zcr{st:GSt}(h:GOk s st)(hc:Tok.cls st.1≠0):Onw s st (gAdv s st):=by
 obtain⟨h1,h2,_⟩:=zxN h;have:=h.1.2.1 hc;exact⟨h1,by omega⟩
theorem zby{st st':GSt}{w:List UInt8}(h:GOk s st)(he:za3 s st w=.ok st'):Onw s st st':=by
 unfold za3 at he;obtain⟨u,h1,h2⟩:=zan he;cases h2;exact zcr h (zea (zbP h1))
theorem zbn{st st':GSt}(h:GOk s st)(hc:Tok.cls st.1≠0)(he:zbX s st=.ok st'):Onw s st st':=by
 unfold zbX at he;obtain⟨u,h1,h2⟩:=zan he;have h1:=of_decide_eq_true (zbP h1);cases h2;have h3:GOk s (st.1,st.2+1):=⟨h.1,by have:=h.2;constructor<;>simp only[]<;>omega⟩;exact zcr h3 hc
theorem zap{st st':GSt}{lo hi x:Int}(h:GOk s st)(he:zaO s st lo hi=.ok (x,st')):Onw s st st'/\lo<=x/\x<=hi:=by
 unfold zaO at he;obtain⟨u,h1,h2⟩:=zan he;obtain⟨u2,h3,h4⟩:=zan h2;have h1:=zbP h1;have h3:=zbP h3;rw[beq_iff_eq]at h1;rw[zf,decide_eq_true_iff,decide_eq_true_iff]at h3;cases h4;exact⟨zcr h (by rw[h1];decide),h3⟩
theorem ziR{lo hi:Int}{z:Bool}:∀(k:Nat){st st':GSt}{l l':List Int},GOk s st->zcU s lo hi z k st l=.ok (l',st')->(st'=st\/Onw s st st')
 |0,_,_,_,_,_,he=>by cases he
 |k+1,st,st',l,l',h,he=>by
  unfold zcU at he;split at he
  .cases he;exact .inl rfl
  .obtain⟨_,_,he⟩:=zan he
   iterate 2 (obtain⟨_,_,he⟩:=zan he)
   obtain⟨⟨x,x0⟩,h1,he⟩:=zan he;have h2:=(zap h h1).1;rcases ziR k h2.1 he with rfl|h3
   .exact .inr h2
   .exact .inr (h2.trans h3)
theorem zb4{st st':GSt}{lo hi:Int}{z:Bool}{l:List Int}(h:GOk s st)(he:zdL s st lo hi z=.ok (l,st')):Onw s st st':=by
 unfold zdL at he;obtain⟨x2,h1,he⟩:=zan he;obtain⟨⟨l1,x1⟩,h2,he⟩:=zan he;obtain⟨x0,h3,he⟩:=zan he;cases he;have a:=zby h h1;rcases ziR _ a.1 h2 with rfl|b
 .exact a.trans (zby a.1 h3)
 .exact(a.trans b).trans (zby b.1 h3)
theorem zfd{st st':GSt}{x:Int}(h:GOk s st)(he:zei s st=.ok (x,st')):Onw s st st':=by
 unfold zei at he;obtain⟨u,h1,h2⟩:=zan he;have h1:=zbP h1;rw[yW]at h1;cases h2;exact zcr h (by rcases h1 with h1|h1<;>exact zea h1)
theorem zoS{st st':GSt}{n:Nd}(h:GOk s st):∀(w:LeafW),zdM s st w=.ok (n,st')->Onw s st st'
 |.days,he=>by
  obtain⟨⟨x,a⟩,h1,he⟩:=zan he;obtain⟨⟨y,b⟩,h2,he⟩:=zan he;cases he;have k1:=(zap h h1).1;exact k1.trans (zap k1.1 h2).1
 |.years,he=>by
  obtain⟨⟨x,a⟩,h1,he⟩:=zan he;obtain⟨⟨y,b⟩,h2,he⟩:=zan he;obtain⟨⟨z,c⟩,h3,he⟩:=zan he;cases he;have k1:=(zap h h1).1;have k2:=(zap k1.1 h2).1;exact(k1.trans k2).trans (zap k2.1 h3).1
 |.months,he=>by
  obtain⟨⟨x,a⟩,h1,he⟩:=zan he;obtain⟨⟨y,b⟩,h2,he⟩:=zan he;cases he;have k1:=(zap h h1).1;exact k1.trans (zb4 k1.1 h2)
 |.monthdays,he=>by
  obtain⟨⟨x,a⟩,h1,he⟩:=zan he;obtain⟨⟨y,b⟩,h2,he⟩:=zan he;cases he;have k1:=(zap h h1).1;exact k1.trans (zb4 k1.1 h2)
 |.weekdays,he=>by
  obtain⟨⟨y,b⟩,h2,he⟩:=zan he;cases he;exact zb4 h h2
 |.weeks,he=>by
  obtain⟨⟨x,a⟩,h1,he⟩:=zan he;obtain⟨⟨y,b⟩,h2,he⟩:=zan he;cases he;have k1:=(zap h h1).1;exact k1.trans (zb4 k1.1 h2)
 |.nth,he=>by
  obtain⟨⟨x,a⟩,h1,he⟩:=zan he;obtain⟨_,_,he⟩:=zan he;obtain⟨⟨y,b⟩,h2,he⟩:=zan he;obtain⟨⟨z,c⟩,h3,he⟩:=zan he;obtain⟨⟨u,d⟩,h4,he⟩:=zan he;cases he;have k1:=(zap h h1).1;have k2:=(zap k1.1 h2).1;have k3:=(zap k2.1 h3).1;exact((k1.trans k2).trans k3).trans (zfd k3.1 h4)
theorem zfc{st st':GSt}{n:Nd}(h:GOk s st):∀(w:SufW),gSuf s st w=.ok (n,st')->Onw s st st'
 |.shift,he=>by
  obtain⟨⟨x,a⟩,h1,he⟩:=zan he;cases he;exact(zap h h1).1
 |.from_,he=>by
  obtain⟨⟨x,a⟩,h1,he⟩:=zan he;cases he;exact(zap h h1).1
 |.until_,he=>by
  obtain⟨⟨x,a⟩,h1,he⟩:=zan he;cases he;exact(zap h h1).1
 |.also,he=>by
  obtain⟨⟨x,a⟩,h1,he⟩:=zan he;cases he;exact zb4 h h1
 |.except_,he=>by
  obtain⟨⟨x,a⟩,h1,he⟩:=zan he;cases he;exact zb4 h h1
 |.pos,he=>by
  obtain⟨⟨x,a⟩,h1,he⟩:=zan he;obtain⟨⟨y,b⟩,h2,he⟩:=zan he;obtain⟨⟨z,c⟩,h3,he⟩:=zan he;cases he;have k1:=(zap h h1).1;have k2:=zfd k1.1 h2;exact(k1.trans k2).trans (zb4 k2.1 h3)
 |.behind,he=>by
  obtain⟨⟨x,a⟩,h1,he⟩:=zan he;obtain⟨b,h2,he⟩:=zan he;cases he;have k1:=(zap h h1).1;exact k1.trans (zby k1.1 h2)
def Cons(s:List UInt8)(st st':GSt):Md->Prop
 |.binL _ _|.chainL _=>st'=st\/Onw s st st'
 |_=>Onw s st st'
theorem Onw.then{md:Md}{a b c:GSt}(h:Onw s a b)(k:Cons s b c md):Onw s a c:=by
 cases md with
 |bin i=>exact h.trans k
 |chain=>exact h.trans k
 |prim=>exact h.trans k
 |binL i t=>
  rcases k with rfl|k
  .exact h
  .exact h.trans k
 |chainL t=>
  rcases k with rfl|k
  .exact h
  .exact h.trans k
theorem zpM{r:Md->GSt->GE (Tr×GSt)}(hr:∀md st t st',GOk s st->r md st=.ok (t,st')->Cons s st st' md):∀md st t st',GOk s st->zbx s r md st=.ok (t,st')->Cons s st st' md
 |.bin i,st,t,st',h,he=>by
  rw[zbx]at he;split at he
  .exact hr .chain _ _ _ h he
  .obtain⟨⟨u,a⟩,h1,he⟩:=zan he;have k1:=hr _ _ _ _ h h1;exact k1.then (hr _ _ _ _ k1.1 he)
 |.binL i t0,st,t,st',h,he=>by
  rw[zbx]at he;split at he
  .rename_i hi;obtain⟨a,h1,he⟩:=zan he;obtain⟨⟨u,b⟩,h2,he⟩:=zan he;have k1:=zbn h (zea hi) h1;have k2:=hr _ _ _ _ k1.1 h2;exact .inr ((k1.trans k2).then (hr _ _ _ _ k2.1 he))
  .cases he;exact .inl rfl
 |.chain,st,t,st',h,he=>by
  rw[zbx]at he;obtain⟨⟨u,a⟩,h1,he⟩:=zan he;have k1:=hr _ _ _ _ h h1;exact k1.then (hr _ _ _ _ k1.1 he)
 |.chainL t0,st,t,st',h,he=>by
  rw[zbx]at he;split at he
  .rename_i hc;split at he
   .cases he;exact .inl rfl
   .obtain⟨a,h1,he⟩:=zan he;obtain⟨⟨n,b⟩,h2,he⟩:=zan he;obtain⟨⟨u,c⟩,h3,he⟩:=zan he;have k1:=zbn h (by rw[hc];decide) h1;have k2:=zfc k1.1 _ h2;have k3:=hr _ _ _ _ k2.1 h3;exact .inr (((k1.trans k2).trans k3).then (hr _ _ _ _ k3.1 he))
   .obtain⟨a,h1,he⟩:=zan he;obtain⟨⟨n,b⟩,h2,he⟩:=zan he;have k1:=zbn h (by rw[hc];decide) h1;have k2:=zfc k1.1 _ h2;exact .inr ((k1.trans k2).then (hr _ _ _ _ k2.1 he))
  .cases he;exact .inl rfl
 |.prim,st,t,st',h,he=>by
  rw[zbx]at he;split at he
  .rename_i hi;obtain⟨⟨u,a⟩,h1,he⟩:=zan he;obtain⟨b,h2,he⟩:=zan he;cases he;have k0:=zcr h (zea hi);have k1:=hr _ _ _ _ k0.1 h1;exact(k0.trans k1).trans (zby k1.1 h2)
  .split at he
   .rename_i hc;obtain⟨_,_,he⟩:=zan he;obtain⟨a,h1,he⟩:=zan he;cases he;exact zbn h (by rw[hc];decide) h1
   .obtain⟨_,h0,he⟩:=zan he;have hc:=zbP h0;rw[beq_iff_eq]at hc;split at he
    .cases he
    .obtain⟨a,h1,he⟩:=zan he;obtain⟨⟨n,b⟩,h2,he⟩:=zan he;cases he;have k1:=zbn h (by rw[hc];decide) h1;exact k1.trans (zoS k1.1 _ h2)
theorem zc2:∀(k:Nat)md st t st',GOk s st->prs s k md st=.ok (t,st')->Cons s st st' md
 |0,_,_,_,_,_,he=>by cases he
 |k+1,md,st,t,st',h,he=>zpM (zc2 k) md st t st' h he
theorem zbE{ε α U:Type}{e e':Except ε α}{f f':α->Except ε U}(h:e=e')(hf:∀x,e=.ok x->f x=f' x):(e >>=f)=(e' >>=f'):=by
 subst h;cases e with
 |error a=>rfl
 |ok x=>exact hf x rfl
theorem Onw.rem{a b:GSt}(h:Onw s a b)(ha:GOk s a):rem s b+1<=rem s a:=by
 obtain⟨⟨⟨⟨b1,b2,b3⟩,_⟩,_⟩,h2⟩:=h;have:=ha.1.1;unfold Go.Proofs.YthbecdbmifchiaaGreatDoor.rem;omega
theorem zix{r r':Md->GSt->GE (Tr×GSt)}(hc:∀md st t st',GOk s st->r md st=.ok (t,st')->Cons s st st' md):∀md st,GOk s st->(∀md' st',GOk s st'->meas s md' st'<meas s md st->r md' st'=r' md' st')->zbx s r md st=zbx s r' md st
 |.bin i,st,h,hr=>by
  rw[zbx,zbx];split
  .rename_i hi;exact hr _ _ h (by simp only[meas,mdF];omega)
  .refine zbE (hr _ _ h (by simp only[meas,mdF];omega)) λ⟨u,a⟩h1=>?_;have k1:=hc _ _ _ _ h h1;have:=k1.rem h;exact hr _ _ k1.1 (by simp only[meas,mdF];omega)
 |.binL i t0,st,h,hr=>by
  rw[zbx,zbx];split
  .rename_i hi;refine zbE rfl λa h1=>?_;have k1:=zbn h (zea hi) h1;have:=k1.rem h;refine zbE (hr _ _ k1.1 (by simp only[meas,mdF];omega)) λ⟨u,b⟩h2=>?_;have k2:=hc _ _ _ _ k1.1 h2;have:=k2.rem k1.1;exact hr _ _ k2.1 (by simp only[meas,mdF];omega)
  .rfl
 |.chain,st,h,hr=>by
  rw[zbx,zbx];refine zbE (hr _ _ h (by simp only[meas,mdF];omega)) λ⟨u,a⟩h1=>?_;have k1:=hc _ _ _ _ h h1;have:=k1.rem h;exact hr _ _ k1.1 (by simp only[meas,mdF];omega)
 |.chainL t0,st,h,hr=>by
  rw[zbx,zbx];split
  .rename_i x0;split
   .rfl
   .refine zbE rfl λa h1=>?_;have k1:=zbn h (by rw[x0];decide) h1;have e1:=k1.rem h;refine zbE rfl λ⟨n,b⟩h2=>?_;have k2:=zfc k1.1 _ h2;have e2:=k2.rem k1.1;refine zbE (hr _ _ k2.1 (by simp only[meas,mdF];omega)) λ⟨u,c⟩h3=>?_;have k3:=hc _ _ _ _ k2.1 h3;have e3:=k3.rem k2.1;exact hr _ _ k3.1 (by simp only[meas,mdF];omega)
   .refine zbE rfl λa h1=>?_;have k1:=zbn h (by rw[x0];decide) h1;have e1:=k1.rem h;refine zbE rfl λ⟨n,b⟩h2=>?_;have k2:=zfc k1.1 _ h2;have e2:=k2.rem k1.1;exact hr _ _ k2.1 (by simp only[meas,mdF];omega)
  .rfl
 |.prim,st,h,hr=>by
  rw[zbx,zbx];split
  .rename_i hi;have k0:=zcr h (zea hi);have:=k0.rem h;exact zbE (hr _ _ k0.1 (by simp only[meas,mdF];omega)) λ_ _=>rfl
  .rfl
theorem zol:∀(k k':Nat)md st,GOk s st->meas s md st<k->meas s md st<k'->prs s k md st=prs s k' md st
 |0,_,_,_,_,hk,_=>by omega
 |_+1,0,_,_,_,_,hk=>by omega
 |k+1,k'+1,md,st,h,h1,h2=>zix (zc2 k) md st h λx0 st' h' x1=>zol k k' x0 st' h' o_ o_
theorem zAL{k:Nat}{md:Md}{st:GSt}(h:GOk s st)(hk:meas s md st<k):prs s k md st=prsT s md st:=zol _ _ _ _ h hk (qp _)
theorem zcJ{md:Md}{st:GSt}(h:GOk s st):prsT s md st=zbx s (prsT s) md st:=
 zix (zc2 _) md st h λ_ _ h' x0=>zAL h' x0
theorem zed{md:Md}{st st':GSt}{t:Tr}(h:GOk s st)(he:prsT s md st=.ok (t,st')):Cons s st st' md:=zc2 _ _ _ _ _ h he
theorem zhY:GOk s (zjx s):=⟨(zkv (Int.le_refl 0) o_).1,Int.le_refl 0,(by decide:(0:Int)<=64)⟩
end
def Marks(B:Nat)(w:zh):List qS->Prop
 | []=>True
 |d::ds=>(∃g,d={ target:=.collected g,args:=#[] }/\B<=g/\w.heap[g]? =some (.deferred (some []))/\∀e∈ds,∀g',e.target=.collected g'->g'≠g)/\Marks B w ds
theorem Marks.keep{B:Nat}{w w':zh}(hk:∀g:Nat,w.heap[g]? =some (Obj.deferred (some []))->w'.heap[g]? =some (Obj.deferred (some []))):∀{ds:List qS},Marks B w ds->Marks B w' ds
 | [],_=>trivial
 |_::_,⟨⟨g,h1,h2,h3,h4⟩,h⟩=>⟨⟨g,h1,h2,hk g h3,h4⟩,Marks.keep hk h⟩
theorem Marks.mem{B:Nat}{w:zh}:∀{ds:List qS}{e:qS},Marks B w ds->e∈ds->∃g,e={ target:=.collected g,args:=#[] }/\B<=g/\w.heap[g]? =some (.deferred (some []))
 |d::ds,e,⟨⟨g,h1,h2,h3,_⟩,h⟩,he=>by
  rcases zs.1 he with rfl|he
  .exact⟨g,h1,h2,h3⟩
  .exact Marks.mem h he
theorem Marks.shut{B g:Nat}{w:zh}{o:Obj}:∀{ds:List qS},Marks B w ds->(∀e∈ds,∀g',e.target=.collected g'->g'≠g)->Marks B (w.putObj g o) ds
 | [],_,_=>trivial
 |_::_,⟨⟨g1,h1,h2,h3,h4⟩,h⟩,hn=>⟨⟨g1,h1,h2,(yA (hn _ (zC ..) g1 (by rw[h1]))).trans h3,h4⟩,Marks.shut h λe he=>hn e (zE _ he)⟩
theorem ze4{P:zw}{K:Kn}{w0:zh}{X:Ownr}{Y:AS}{U:Nat->zd}{a:Act}{m:Nat}(hK:KnOk P X.G K)(hX:X.Ok w0){fn:Func}{own:Option zo}{t:Ty}{x:t.T}
  (hd:Done K.T fn.results.toList Y own t x) (hR:own=none\/∀g,¬X.R g) {R:wZ->zh->Prop}:∀(ds:List qS)(w:zh),Seen w0 X Y U a w->Marks w0.heap.size w ds->
  (∀w' v,xG w0.heap.size w w'->(t=.unit\/zdb w' X.X w0.heap.size own t x v)->R (.returned v) w')->LeavesInM yD m P fn a.tmps R ds .returning w
 | [],w,h,_,hQ=>by
  obtain⟨v,h1,h2⟩:=zlc hK hX h hd hR;exact⟨v,h1,hQ w v (zR _ _) h2⟩
 |d::ds,w,h,⟨⟨g,h1,h2,h3,h4⟩,hm⟩,hQ=>by
  subst h1;refine⟨by simp,.inl ⟨_,_,rfl,run_takeDeferred h3,?_⟩⟩;exact ze4 hK hX hd hR ds _ (h.keepC (zkU h3)) (hm.shut h4) λw' v hb hr=>hQ w' v ((zmH h3 h2).trans hb) hr
abbrev Ownr.marked(G:zh->Prop)(O:Nat->Prop)(ds:List qS)(Bf:Nat->Prop):Ownr:=⟨G,O,0,λ_=>0,ds,none,Bf⟩
def noB:Nat->Prop:=λ_=>False
def ownB(E:Owns)(U:Nat->zd)(g:Nat):Prop:=∃i o,zm E i=some o/\zag (U i)=some g
theorem OwnRep.isCells{w:zh}{O:Nat->Prop}{U:Nat->zd}{B:Nat}{bv:zd}{o:OObj}(h:xC w O U B bv o){g:Nat}(hg:zag bv=some g):∀d,w.heap[g]? ≠some (.deferred d):=by
 intro d hd;cases o with
 |box t x=>
  obtain⟨g',cs,ty,rfl,_,h2,_⟩:=h;cases hg;rw[h2]at hd;cases hd
 |buf te t xs=>
  obtain⟨cs,_,h2,_⟩:=h;rcases h2.2 with ⟨rfl,_⟩|⟨g',cap,cur,rfl,_,h5,_⟩
  .cases hg
  .cases hg;rw[h5]at hd;cases hd
 |hbox ty vs=>
  obtain⟨g',cs,rfl,_,h2,_⟩:=h;cases hg;rw[h2]at hd;cases hd
 |mp m I=>
  obtain⟨ms,ck,rfl,_,h2,_⟩:=h;cases hg;rw[h2]at hd;cases hd
section
variable {P:zw}{w0 w w':zh}{G:zh->Prop}{O:Nat->Prop}{n m:Nat}{Y Y':AS}{U U':Nat->zd}{a a':Act}{ds ds':List qS}{Bo:Nat->Prop}{Q:Exit->AS->Prop}
theorem zcf{Bf:Nat->Prop}{g:Nat}(h:(Ownr.marked G O ds Bf).R g):Bf g:=h.elim (λ⟨_,h,_⟩=>absurd h (yH _)) id
theorem Sim.isCells{X:Ownr}(h:Sim w0 X n Y U a w){g:Nat}(hg:ownB Y.E U g):∀d,w.heap[g]? ≠some (.deferred d):=by
 obtain⟨i,o,h1,h2⟩:=hg;exact(h.own i o h1).isCells h2
theorem zBo(h:Sim w0 (Ownr.marked G O ds Bo) n Y U a w):Sim w (Ownr.marked G O ds (ownB Y.E U)) n Y U a w:=
 ⟨h.sz,h.df,jx _ _,h.fr,h.own,λi o g hi hg=>.inr (.inr ⟨i,o,hi,hg⟩),h.inj,h.lt,⟨zk _,λi hi=>absurd hi (yH _)⟩,h.hb,h.hE⟩
theorem zfs(h:Sim w0 (Ownr.marked G O ds Bo) n Y U a w){g:Nat}(hg:ownB Y.E U g):(w0.heap.size<=g\/Bo g)/\g<w.heap.size:=by
 obtain⟨i,o,h1,h2⟩:=hg;exact⟨(h.new i o g h1 h2).imp id λhr=>zcf hr,((h.own i o h1).block_lt h2).2⟩
theorem zuB(h:Sim w0 (Ownr.marked G O ds Bo) n Y U a w){R:Nat->Prop}(hR:∀g,R g->w0.heap.size<=g\/Bo g)(hk:Kept R w w'):Kept (Ownr.marked G O ds' Bo).R w0 w':=
 ⟨hk.os.trans h.bel.os,hk.tape.trans h.bel.tape,hk.output.trans h.bel.output,zJ h.bel.size hk.size,λk x0 hn=>
   (hk.block k (zy x0 h.bel.size) λhr=>(hR k hr).elim (λh=>by omega) λh=>hn (.inr h)).trans (h.bel.block k x0 λhr=>hn (.inr (zcf hr)))⟩
theorem okM(hX:(Ownr.marked G O ds Bo).Ok w0)(h:Sim w0 (Ownr.marked G O ds Bo) n Y U a w):(Ownr.marked G O ds' (ownB Y.E U)).Ok w:=
 ⟨λg hg=>⟨zy (hX.1 g hg).1 h.bel.size,λhr=>(zfs h (zcf hr)).1.elim (λh1=>by have:=(hX.1 g hg).1;omega) λh1=>(hX.1 g hg).2 (.inr h1)⟩,λg hr=>(zfs h (zcf hr)).2,
   λw' hk=>hX.2.2 w' (zuB h (λg hr=>(zfs h (zcf hr)).1) hk)⟩
theorem zBn(h:Sim w0 (Ownr.marked G O ds Bo) n Y U a w)(h':Sim w (Ownr.marked G O ds' (ownB Y.E U)) m Y' U' a' w'):Sim w0 (Ownr.marked G O ds' Bo) m Y' U' a' w':=
 ⟨h'.sz,h'.df,zuB h (λg hr=>(zfs h (zcf hr)).1) h'.bel,h'.fr,h'.own,λi o g hi hg=>by
   rcases h'.new i o g hi hg with h1|h1
   .exact .inl (zJ h.bel.size h1)
   .exact(zfs h (zcf h1)).1.imp id .inr,h'.inj,h'.lt,⟨zk _,λi hi=>absurd hi (yH _)⟩,h'.hb,h'.hE⟩
theorem zzi(h:Sim w0 (Ownr.marked G O ds Bo) n Y U a w){R:Nat->Prop}(hR:∀g,R g->ownB Y.E U g)(hk:Kept R w w'){es:List qS}(hm:Marks w0.heap.size w es):Marks w0.heap.size w' es:=
 hm.keep λg hg=>(hk.block g (zl.1 hg).1 λhr=>h.isCells (hR g hr) _ hg).trans hg
def AWPD(P:zw)(w0:zh)(G:zh->Prop)(O Bo:Nat->Prop)(n:Nat)(c:Code)(Y:AS)(Q:Exit->AS->Prop):Prop:=
 ∀ds U a w,Sim w0 (Ownr.marked G O ds Bo) n Y U a w->Marks w0.heap.size w ds->c.wpIn yD 0 P (λe a' w'=>∃Y' U' ds',Sim w0 (Ownr.marked G O ds' Bo) n Y' U' a' w'/\Marks w0.heap.size w' ds'/\Q e Y') a w
theorem AWPD.of{c:Code}(hX:∀ds,(Ownr.marked G O ds Bo).Ok w0)(h:∀W ds Bf,(Ownr.marked G O ds Bf).Ok W->AWP P W (Ownr.marked G O ds Bf) n c Y Q):AWPD P w0 G O Bo n c Y Q:=
 λds U a w hs hm=>zT (h w ds _ (okM (hX ds) hs) U a w (zBo hs)) λe a' w'⟨Y',U',h1,h2⟩=>⟨Y',U',ds,zBn hs h1,zzi hs (λg hr=>zcf hr) h1.bel hm,h2⟩
theorem AWPD.seq{x y:Code}(h:AWPD P w0 G O Bo n x Y (zhI (λY'=>AWPD P w0 G O Bo n y Y' Q) Q)):AWPD P w0 G O Bo n (.seq x y) Y Q:=
 λds U a w hs hm=>wpIn_seq (zT (h ds U a w hs hm) λe a w⟨Y',U',ds',h1,h2,h3⟩=>by
  cases e with
  |normal=>exact h3 ds' U' a w h1 h2
  |_=>exact⟨Y',U',ds',h1,h2,h3⟩)
theorem AWPD.block{id:Nat}{c:Code}(h:AWPD P w0 G O Bo n c Y (zi8 id Q)):AWPD P w0 G O Bo n (.block id c) Y Q:=
 λds U a w hs hm=>wpIn_block (zT (h ds U a w hs hm) λe a w⟨Y',U',ds',h1,hm',h2⟩=>by
  cases e with
  |exit j=>
   simp only[zi8,cond_eq_ite,xV]at h2;simp only[Exit.inBlock];split
   .rename_i hj;rw[if_pos hj]at h2;exact⟨Y',U',ds',h1,hm',h2⟩
   .rename_i hj;rw[if_neg hj]at h2;exact⟨Y',U',ds',h1,hm',h2⟩
  |_=>exact⟨Y',U',ds',h1,hm',h2⟩)
theorem AWPD.fit{c:Code}{Y2:AS}(hf:Fit Y Y2)(h:AWPD P w0 G O Bo n c Y2 Q):AWPD P w0 G O Bo n c Y Q:=
 λds U a w hs hm=>h ds U a w (hs.fit hf (zk _)) hm
end
def zmn(K:Nat):V->Bool
 |⟨.optr _,p⟩=>zM p.i K
 |⟨.hptr,x⟩=>zM x.1 K
 |⟨.obuf _,_⟩=>false
 |⟨.cond _,_⟩=>false
 |⟨.hcons _ _,_⟩=>false
 |_=>true
theorem RepV.rehand{w:zh}{O:Nat->Prop}{K:Nat}{U U':Nat->zd}(x0:∀i,i<K->∀g,zag (U i)=some g->zag (U' i)=some g):∀(v:V){u:zd},zmn K v=true->RepV w O U v.t v.x u->RepV w O U' v.t v.x u:=by
 rintro ⟨t,x⟩ u h hr;cases t<;>first
  |exact hr
  |(cases h;done)
  |(obtain⟨g,h1,h2⟩:=hr
    exact⟨g,x0 _ (zq h) g h1,h2⟩)
def nA0:Act:={ tmps:=#[],defers:=[] }
theorem zi2{P:zw}{K:Kn}{n:Nat}{G:zh->Prop}(hK:KnOk P G K){f:zV}{fn:Func}{c:Code}{ctr:Ctr}(hf:P.funcs[f]? =some fn)(hb:fn.body=some c)(hn:fn.ntmps=n)
  (x7:∀(zas:Array zd)(w:zh),(callFunc f zas).run P w=.ok (.enter f zas) w) (hd:zaN ctr.args=true) (hlen:ctr.args.length<=n) (x4:ctr.res=.unit->False) (x3:ctr.own=none)
  (h:∀(w0:zh)(O:Nat->Prop),(∀ds,(Ownr.marked G O ds noB).Ok w0)->∀xs:Args ctr.args,allP (ctr.pre xs)->AWPD P w0 G O noB n c (zju ctr.args xs) (λe Y=>(e=.normal\/e=.ret)/\Done K.T fn.results.toList Y none ctr.res (ctr.out xs))):CtrOk P G f ctr:=by
 refine⟨x7,λw O xs vs hO x1 hp hG=>?_⟩;have x6:=zeq _ _ _ x1;have hX:∀ds,(Ownr.marked G O ds noB).Ok w:=λds=>⟨λg hg=>⟨hO g hg,λh=>zcf h⟩,λg hg=>(zcf hg).elim,λw' hk=>hK.st w w' hG (hk.below λg h=>zcf h)⟩;refine(callsIn_wide (n:=0)).1 (callsIn_of_wp_marks hf hb trivial ?_ rfl);have x2:Sim w (Ownr.marked G O [] noB) n (zju ctr.args xs) (λ_=>undef) { tmps:=vs.toArray++zD (fn.ntmps-vs.toArray.size) undef,defers:=[] } w:=by
  have hE:OSet (Ownr.marked G O [] noB) (zju ctr.args xs).E (λ_=>undef)=O:=by
   funext g
   apply propext;constructor
   .rintro (h|⟨i,o,h,_⟩)
    .exact h
    .cases h
   .exact λh=>.inl h
  refine⟨by simp[hn,x6];omega,rfl,jx _ _,λs=>?_,λi o h=>(by cases h),λi o g h=>(by cases h),λi j oi oj h=>(by cases h),λi o h=>(by cases h),⟨zk _,λi h=>absurd h (yH _)⟩,λs=>?_,λi o h=>(by cases h)⟩
  .rw[hE];have:=zdJ (U:=λ_=>undef) ctr.args xs vs [] (zr (fn.ntmps-vs.length) undef) hd x1 s;simp only[xH,yC]at this;have e:(vs.toArray++zD (fn.ntmps-vs.toArray.size) undef)=(vs++zr (fn.ntmps-vs.length) undef).toArray:=by simp
   show RepV w O _ _ _ ((vs.toArray++zD (fn.ntmps-vs.toArray.size) undef).getD s undef);rw[e];exact this
  .show(zn (zdu ctr.args xs 0) s).bound<=0;rw[zcx _ _ _ _ hd];exact zj _
 refine zT (h w O hX xs hp [] _ _ _ x2 trivial) ?_;rintro e a' w' ⟨Y',U',ds',h1,hm,h2,h3⟩;have x0:LeavesInM yD 0 P fn a'.tmps (λe w'=>∃v,e=.returned v/\xG w.heap.size w w'/\zdb w' O w.heap.size ctr.own ctr.res (ctr.out xs) v) a'.defers .returning w':=by
  rw[h1.df];refine ze4 (X:=Ownr.marked G O ds' noB) (K:=K) hK (hX ds') h3 (.inl rfl) ds' w' h1.seen hm λw2 v x5 hr=>⟨v,rfl,(h1.bel.below λg h=>zcf h).trans x5,?_⟩;rw[x3];exact hr.resolve_left x4
 rcases h2 with rfl|rfl
 .exact x0
 .exact x0
def rnF:List (Nat×Nat)->Nat->Nat
 | [],i=>i+100
 |(a,b)::r,i=>bif yK a i then b else rnF r i
def rnB:List (Nat×Nat)->Nat->Nat
 | [],j=>j-100
 |(a,b)::r,j=>bif yK b j then a else rnB r j
def rnOk:List (Nat×Nat)->Bool
 | []=>true
 |(_,b)::r=>zM b 100&&r.all (λp=>!yK p.2 b)&&rnOk r
theorem zq9:∀(L:List (Nat×Nat))(i:Nat),(∃p∈L,p.2=rnF L i)\/100<=rnF L i
 | [],i=>.inr (by simp only[rnF];omega)
 |(a,b)::r,i=>by
  simp only[rnF,cond_eq_ite,xV];split
  .exact .inl ⟨(a,b),zC ..,rfl⟩
  .rcases zq9 r i with ⟨p,h1,h2⟩|h
   .exact .inl ⟨p,zE _ h1,h2⟩
   .exact .inr h
theorem zpy:∀(L:List (Nat×Nat))(i:Nat),rnOk L=true->rnB L (rnF L i)=i
 | [],i,_=>by simp only[rnF,rnB];omega
 |(a,b)::r,i,h=>by
  simp only[rnOk,zf]at h;obtain⟨⟨h1,h2⟩,h3⟩:=h;have h1:b<100:=by simpa using h1
  simp only[rnF,rnB,cond_eq_ite,xV];by_cases e:a=i
  .rw[if_pos e,if_pos rfl,e]
  .rw[if_neg e,if_neg]
   .exact zpy r i h3
   .intro e2;rcases zq9 r i with ⟨p,h4,h5⟩|h4
    .have h6:=yE.1 h2 p h4;rw[h5, <-e2]at h6;simp at h6
    .omega
def rnV(L:List (Nat×Nat)):V->V
 |⟨.optr t,p⟩=>⟨.optr t,{ p with i:=rnF L p.i }⟩
 |⟨.obuf t,j⟩=>⟨.obuf t,rnF L j⟩
 |⟨.hptr,x⟩=>⟨.hptr,(rnF L x.1,x.2)⟩
 |⟨.cond _,_⟩=>⟨.junk,()⟩
 |⟨.hcons _ _,_⟩=>⟨.junk,()⟩
 |v=>v
def rnVs(L:List (Nat×Nat)):List V->List V
 | []=>[]
 |v::r=>rnV L v::rnVs L r
def rnFr(L:List (Nat×Nat)):List (Nat×V)->List (Nat×V)
 | []=>[]
 |(s,v)::r=>(s,rnV L v)::rnFr L r
def rnO(L:List (Nat×Nat)):OObj->OObj
 |.hbox ty vs=>.hbox ty (rnVs L vs)
 |o=>o
def rnE(L:List (Nat×Nat)):List (Nat×Option OObj)->List (Nat×Option OObj)
 | []=>[]
 |(i,some o)::r=>(rnF L i,some (rnO L o))::rnE L r
 |(i,none)::r=>(rnF L i,none)::rnE L r
section
variable {w0 w:zh}{X:Ownr}{n:Nat}{Y:AS}{U:Nat->zd}{a:Act}{L:List (Nat×Nat)}
theorem zm4(hL:rnOk L=true){O:Nat->Prop}:∀(v:V){u:zd},RepV w O U v.t v.x u->RepV w O (λj=>U (rnB L j)) (rnV L v).t (rnV L v).x u:=by
 rintro ⟨t,x⟩ u h;cases t with
 |optr t=>
  obtain⟨g,h1,h2⟩:=h;refine⟨g,?_,h2⟩;show zag (U (rnB L (rnF L x.i)))=some g;rw[zpy L _ hL];exact h1
 |obuf t=>
  show u=U (rnB L (rnF L x));rw[zpy L _ hL];exact h
 |hptr=>
  obtain⟨g,h1,h2⟩:=h;refine⟨g,?_,h2⟩;show zag (U (rnB L (rnF L x.1)))=some g;rw[zpy L _ hL];exact h1
 |cond t=>trivial
 |hcons a b=>trivial
 |_=>exact h
theorem zkx(hL:rnOk L=true){O:Nat->Prop}:∀{vs:List V}{cs:List zd},RepH w O U vs cs->RepH w O (λj=>U (rnB L j)) (rnVs L vs) cs
 | [],_,h=>h
 |v::r,_,⟨u,s,h1,h2,h3,h4⟩=>⟨u,s,h1,h2,zm4 hL v h3,zkx hL h4⟩
theorem zq6(o:OObj):(rnO L o).isBuf=o.isBuf:=by cases o<;>rfl
theorem zoe(F:List (Nat×V))(s:Nat):zn (rnFr L F) s=rnV L (zn F s):=by
 induction F with
 |nil=>rfl
 |cons p r ih=>
  obtain⟨d,v⟩:=p;simp only[rnFr,zam];split
  .rfl
  .exact ih
theorem zde(hL:rnOk L=true):∀(E:List (Nat×Option OObj))(j:Nat)(o':OObj),zm (rnE L E) j=some o'->∃o,j=rnF L (rnB L j)/\zm E (rnB L j)=some o/\o'=rnO L o
 | [],_,_,h=>by cases h
 |(i,q)::r,j,o',h=>by
  have e:rnE L ((i,q)::r)=(rnF L i,q.map (rnO L))::rnE L r:=by cases q<;>rfl
  rw[e,zab]at h;by_cases hj:rnF L i=j
  .rw[if_pos hj]at h;cases q with
   |none=>cases h
   |some o=>
    cases h;subst hj;rw[zpy L i hL,zab,if_pos rfl];exact⟨o,rfl,rfl,rfl⟩
  .rw[if_neg hj]at h;obtain⟨o,h1,h2,h3⟩:=zde hL r j o' h;refine⟨o,h1,?_,h3⟩;rw[zab,if_neg]
   .exact h2
   .intro e2;rw[<-e2]at h1;exact hj h1.symm
theorem Sim.rename(h:Sim w0 X n Y U a w)(hL:rnOk L=true)(hK:X.K=0){m:Nat}(hF:bndB m (rnFr L Y.F)=true)(hE:bndE m (rnE L Y.E)=true):Sim w0 X n ⟨rnFr L Y.F,rnE L Y.E,m⟩ (λj=>U (rnB L j)) a w:=by
 have hO:∀g,OSet X (rnE L Y.E) (λj=>U (rnB L j)) g->OSet X Y.E U g:=by
  rintro g (hg|⟨j,o',h1,h2⟩)
  .exact .inl hg
  .obtain⟨o,_,h4,_⟩:=zde hL _ _ _ h1;exact .inr ⟨_,o,h4,h2⟩
 have hk:qz w w (OSet X Y.E U) (OSet X (rnE L Y.E) (λj=>U (rnB L j))):=⟨zj _,λ_ _ _=>rfl,λg _ hg=>hO g hg⟩;refine⟨h.sz,h.df,h.bel,λs=>?_,λj o' hj=>?_,λj o' g hj hg=>?_,λi j oi oj hi hj x0 g=>?_,λj o' hj=>zlo hE hj,⟨by rw[hK];exact zk _,λi hi=>by rw[hK]at hi;cases hi⟩,λs=>zdx hF s,λj o' hj=>(zgN hE hj).2⟩
 .
  rw[zoe];exact zm4 hL _ (zZ hk _ _ _ (h.fr s))
 .obtain⟨o,_,h2,rfl⟩:=zde hL _ _ _ hj;have h3:=(h.own _ o h2).keep hk λ_ _=>rfl;cases o with
  |hbox ty vs=>
   obtain⟨g,cs,e,k1,k2,k3⟩:=h3;exact⟨g,cs,e,k1,k2,zkx hL k3⟩
  |box t x=>exact h3
  |buf te t xs=>exact h3
  |mp m I=>exact h3
 .obtain⟨o,_,h2,_⟩:=zde hL _ _ _ hj;exact h.new _ o g h2 hg
 .obtain⟨p,e1,h1,_⟩:=zde hL _ _ _ hi;obtain⟨q,e2,h2,_⟩:=zde hL _ _ _ hj;exact h.inj _ _ p q h1 h2 (λe=>x0 (by rw[e1,e2,e])) g
theorem AWPD.rename{P:zw}{G:zh->Prop}{O Bo:Nat->Prop}{c:Code}{Q:Exit->AS->Prop}(L:List (Nat×Nat))(m:Nat)(h:AWPD P w0 G O Bo n c ⟨rnFr L Y.F,rnE L Y.E,m⟩ Q)(hL:rnOk L=true:=by rfl)(hF:bndB m (rnFr L Y.F)=true:=by rfl)(hE:bndE m (rnE L Y.E)=true:=by rfl):AWPD P w0 G O Bo n c Y Q:=
 λds U a w hs hm=>h ds _ a w (hs.rename hL rfl hF hE) hm
end
def zzB:Nat->V->Option V
 |0,⟨.hcons a _,x⟩=>some ⟨a,x.1⟩
 |k+1,⟨.hcons _ b,x⟩=>zzB k ⟨b,x.2⟩
 |_,_=>none
def hlen:Ty->Nat
 |.hcons _ b=>hlen b+1
 |_=>0
def zvW:Ty->Bool
 |.hcons _ b=>zvW b
 |.unit=>true
 |_=>false
theorem hcells{w:zh}{O:Nat->Prop}{U:Nat->zd}:∀(t:Ty)(x:t.T)(u:zd),zvW t=true->RepV w O U t x u->∃cs:List zd,u=.agg cs.toArray/\cs.length=hlen t/\∀k v,zzB k ⟨t,x⟩=some v->∃c,cs[k]? =some c/\c.oneCell'=true/\RepV w O U v.t v.x c:=by
 intro t
 induction t with
 |hcons a b _ ihb=>
  rintro x u hs ⟨c,s,rfl,hc,h1,h2⟩;obtain⟨cs,e,hl,hk⟩:=ihb x.2 _ hs h2;have e:s=cs:=by
   have:=Value.agg.inj e
   simpa using congrArg Array.toList this
  subst e;refine⟨c::s,rfl,by simp[hlen,hl],λk v hv=>?_⟩;cases k with
  |zero=>cases hv;exact⟨c,rfl,hc,h1⟩
  |succ k=>exact hk k v hv
 |unit=>
  rintro x u _ h;obtain⟨cs,e,h⟩:=(RepD.agg rfl).1 h;subst h;exact⟨[],e,rfl,λk v hv=>by cases k<;>cases hv⟩
 |_=>intro x u h;cases h
section
variable {P:zw}{K:Kn}{w0:zh}{X:Ownr}{n:Nat}{F:List (Nat×V)}{E:Owns}{nx:Nat}{Q:Exit->AS->Prop}{ops:Array Oper}
theorem zgS{o:Oper}{d:Nat}(hd:o.dst=some d)(x2:zM d n=true){v:V}(hb:v.bound<=nx){N:AS->Prop}(h:N ⟨(d,v)::F,E,nx⟩){U:Nat->zd}{a:Act}{w:zh}(hs:Sim w0 X n ⟨F,E,nx⟩ U a w){u:zd}(x0:(execOp a.eval o).run P w=.ok (.value u) w)(hr:RepV w (OSet X E U) U v.t v.x u):
  o.wp P a w (λa' w'=>∃Y' U',Sim w0 X n Y' U' a' w'/\N Y') (λe a' w'=>e≠ .outgrown/\∃Y' U',Sim w0 X n Y' U' a' w'/\Q e Y'):=by
 have x1:d<n:=by simpa using x2
 refine za5 (u:=u) (w':=w) x0 ?_;rw[hd];exact⟨_,U,hs.put (zR _ _) hr hb x1,h⟩
end
structure OpEq(P:zw)(o o':Oper):Prop where
 dst:o.dst=o'.dst
 after:o.after=o'.after
 guard:o.guard=o'.guard
 run:∀(ev:zB->zd)(w:zh),(execOp ev o).run P w=(execOp ev o').run P w
theorem OpEq.refl{P:zw}(o:Oper):OpEq P o o:=⟨rfl,rfl,rfl,λ_ _=>rfl⟩
inductive OpsI(P:zw):List Oper->List Oper->Prop where
 |nil:OpsI P [] []
 |cons {o o':Oper}{l l':List Oper} (h:OpEq P o o') (t:OpsI P l l'):OpsI P (o::l) (o'::l')
theorem OpEq.wp{P:zw}{o o':Oper}(h:OpEq P o o'){a:Act}{w:zh}{N:Act->zh->Prop}{Q:Exit->Act->zh->Prop}(hw:o'.wp P a w N Q):o.wp P a w N Q:=by
 unfold v8 at hw ⊢;rw[h.run];revert hw;generalize (execOp a.eval o').run P w=x;unfold Oper.upon;rw[h.dst];exact id
section
variable {P:zw}{K:Kn}{w0:zh}{X:Ownr}{n:Nat}{Y:AS}{Q:Exit->AS->Prop}{ops:Array Oper}
theorem AL.step{o o':Oper}{rest:List Oper}(x1:OpEq P o o')(hX:X.Ok w0)(hK:KnOk P X.G K){r:List Prop×AS}(hs:zje K n ops o' Y=some r)(hp:allP r.1)(h:AL P w0 X n ops rest r.2 Q)(x2:o.guard=none:=by rfl)(x4:∀c,o.op≠ .defer c:=by intro c e;cases e):AL P w0 X n ops (o::rest) Y Q:=by
 refine AL.hand x2 x4 λU a w x0=>x1.wp ?_;have h1:=zh5 (ops:=ops) (N:=λa' w'=>∃Y' U',Sim w0 X n Y' U' a' w'/\AL P w0 X n ops rest Y' Q) (R:=λe a' w'=>e≠ .outgrown/\∃Y' U',Sim w0 X n Y' U' a' w'/\Q e Y') hK hX x0 hs hp λU' a' w' h2=>⟨r.2,U',h2,h⟩;have x3:o'.guard=none:=by rw[<-x1.guard];exact x2
 simp only[yF,x3,if_true]at h1;rcases h1 with h1|⟨_,h1⟩
 .exact h1
 .obtain⟨_,_,h2,_⟩:=h1;exact absurd rfl h2
end
section
variable {P:zw}{ops ops':Array Oper}{d:Nat}{src:zB}
structure FlOp(P:zw)(d:Nat)(x1:zB)(o o':Oper):Prop where
 dst:o.dst=o'.dst
 guard:o.guard=none
 guard':o'.guard=none
 fwd:∀e∈o.after,e∈o'.after
 bwd:∀e∈o'.after,e∈o.after\/e.on=0
 run:∀(ev:zB->zd)(w:zh),(execOp ev o).run P w=(execOp ev o').run P w
 nd:o.dst≠some d
 ns:∀t,x1=.tmp t->o.dst≠some t
 sees:(∃e∈o.after,e.on=0/\qy .any e=true)\/∀ev x0:zB->zd,(∀x,x≠ .tmp d->ev x=x0 x)->execOp ev o=execOp x0 o
theorem FlOp.of_eq{o o':Oper}(h:OpEq P o o')(hg:o.guard=none)(nd:o.dst≠some d)(ns:∀t,src=.tmp t->o.dst≠some t)(sees:(∃e∈o.after,e.on=0/\qy .any e=true)\/∀ev x0:zB->zd,(∀x,x≠ .tmp d->ev x=x0 x)->execOp ev o=execOp x0 o):FlOp P d src o o':=
 ⟨h.dst,hg,by rw[<-h.guard];exact hg,λe he=>by rw[<-h.after];exact he,λe he=>.inl (by rw[h.after];exact he),h.run,nd,ns,sees⟩
theorem FlOp.edge{o:Oper}(k:Nat)(hg:o.guard=none)(nd:o.dst≠some d)(ns:∀t,src=.tmp t->o.dst≠some t)(sees:(∃e∈o.after,e.on=0/\qy .any e=true)\/∀ev x0:zB->zd,(∀x,x≠ .tmp d->ev x=x0 x)->execOp ev o=execOp x0 o):FlOp P d src o { o with after:=o.after++ #[{ (o.after.getD k default) with on:=0 }] }:=
 ⟨rfl,hg,hg,λe he=>pH.2 (.inl he),λe he=>(pH.1 he).imp id λh=>by rw[Array.mem_singleton.1 h],λ_ _=>rfl,nd,ns,sees⟩
inductive FlL(P:zw)(d:Nat)(x0:zB):List Oper->List Oper->Prop where
 |nil:FlL P d x0 [] []
 |cons {o o':Oper}{l l':List Oper} (h:FlOp P d x0 o o') (t:FlL P d x0 l l'):FlL P d x0 (o::l) (o'::l')
variable {Q:Exit->Act->zh->Prop}
end
section
variable {P:zw}{K:Kn}{w0:zh}{X:Ownr}{n:Nat}{F:List (Nat×V)}{E:Owns}{nx:Nat}{Q:Exit->AS->Prop}{ops:Array Oper}
theorem zfl{o:Oper}{rest:List Oper}(x1:o.guard=none)(x2:∀c,o.op≠ .defer c){d:Nat}(hd:o.dst=some d)(x3:zM d n=true)(u:zd)(x0:∀U a w,Sim w0 X n ⟨F,E,nx⟩ U a w->(execOp a.eval o).run P w=.ok (.value u) w)
  (h:AL P w0 X n ops rest ⟨(d,⟨.lit,u⟩)::F,E,nx⟩ Q):AL P w0 X n ops (o::rest) ⟨F,E,nx⟩ Q:=
 AL.hand x1 x2 λU a w hs=>zgS hd x3 (v:=⟨.lit,u⟩) (zk _) (N:=λY'=>AL P w0 X n ops rest Y' Q) h hs (x0 U a w hs) rfl
theorem zb1{U:Nat->zd}{a:Act}{w:zh}(hs:Sim w0 X n ⟨F,E,nx⟩ U a w){x:zB}{u:zd}(hx:evO F x=⟨.lit,u⟩):a.eval x=u:=by
 have h1:=hs.ops x;rw[show evO (AS.mk F E nx).F x=_ from hx]at h1;exact h1
end
theorem RepV.anyβ{w:zh}{O:Nat->Prop}{U U':Nat->zd}:∀(t:Ty)(x:t.T)(v:zd),bnd t x=0->RepV w O U t x v->RepV w O U' t x v:=by
 intro t
 induction t with
 |optr t _=>intro x v hb;cases hb
 |obuf t _=>intro x v hb;cases hb
 |hptr=>intro x v hb;cases hb
 |hcons a b iha ihb=>
  rintro x v hb ⟨u,s,h1,h2,h3,h4⟩;have hb:max (bnd a x.1) (bnd b x.2)=0:=hb;exact⟨u,s,h1,h2,iha _ _ o_ h3,ihb _ _ o_ h4⟩
 |cond t ih=>intro x v hb h;exact⟨λhc=>ih _ _ hb (h.1 hc),h.2⟩
 |_=>intro x v hb h;exact h
theorem RepH.anyβ{w:zh}{O:Nat->Prop}{U U':Nat->zd}:∀{vs:List V}{cs:List zd},(∀v∈vs,v.bound=0)->RepH w O U vs cs->RepH w O U' vs cs
 | [],_,_,h=>h
 |v::r,_,hb,⟨u,s,h1,h2,h3,h4⟩=>⟨u,s,h1,h2,RepV.anyβ _ _ _ (hb v (by simp)) h3,RepH.anyβ (λy hy=>hb y (by simp[hy])) h4⟩
def OObj.bare:OObj->Bool
 |.hbox _ vs=>vs.all λv=>yK v.bound 0
 |_=>true
theorem OwnRep.anyβ{w:zh}{O:Nat->Prop}{U U':Nat->zd}{B:Nat}{bv:zd}{o:OObj}(hb:o.bare=true)(h:xC w O U B bv o):xC w O U' B bv o:=by
 cases o with
 |box t x=>exact h
 |buf te t xs=>exact h
 |mp m I=>exact h
 |hbox ty vs=>
  obtain⟨g,cs,e,h1,h2,h3⟩:=h;exact⟨g,cs,e,h1,h2,h3.anyβ λv hv=>by have:=yE.1 hb v hv;simpa using this⟩
theorem OObj.bare_under{o:OObj}(hb:o.bare=true)(k:Nat):o.under k:=by
 intro vs e v hv;cases o with
 |box t x=>cases e
 |buf te t xs=>cases e
 |mp m I=>cases e
 |hbox ty ws=>
  have e:=zP e;subst e;have:=yE.1 hb v hv;have:v.bound=0:=by simpa using this
  omega
structure FCtr where
 args:List Ty
 pre:Args args->List Prop
 obj:Args args->OObj
def zpc(P:zw)(G:zh->Prop)(f:zV)(c:FCtr):Prop:=
 (∀(zas:Array zd)(w:zh),(callFunc f zas).run P w=.ok (.enter f zas) w)/\
 ∀(w:zh)(O:Nat->Prop)(xs:Args c.args)(vs:List zd),(∀g,O g->g<w.heap.size)->RepA w O c.args xs vs->allP (c.pre xs)->G w->
  Calls P f vs.toArray w λe w'=>∃g,e=.returned (.pointer (some ⟨g,0,none⟩))/\xG w.heap.size w w'/\w.heap.size<=g/\∀(O':Nat->Prop)(U:Nat->zd),(∀h,O' h->O h\/h=g)->xC w' O' U 0 (.pointer (some ⟨g,0,none⟩)) (c.obj xs)
def zt4(i:Nat):OObj->V
 |.box t _=>⟨.optr t,⟨i,t,.here⟩⟩
 |_=>⟨.hptr,(i,(0:Nat))⟩
def zBr(rs:List jw)(Y:AS)(o:OObj):Prop:=∃s i,rs=[.tmp s]/\zn Y.F s=zt4 i o/\zm Y.E i=some o
section
variable {P:zw}{K:Kn}{n:Nat}
theorem znB{G:zh->Prop}(hK:KnOk P G K){f:zV}{fn:Func}{c:Code}{ctr:FCtr}(hf:P.funcs[f]? =some fn)(hb:fn.body=some c)(hn:fn.ntmps=n)
  (xb:∀(zas:Array zd)(w:zh),(callFunc f zas).run P w=.ok (.enter f zas) w) (hd:zaN ctr.args=true) (hlen:ctr.args.length<=n) (x1:∀xs,(ctr.obj xs).bare=true/\(ctr.obj xs).isBuf=false)
  (h:∀(w0:zh)(X:Nat->Prop),(jj G X).Ok w0->∀xs:Args ctr.args,allP (ctr.pre xs)->AWP P w0 (jj G X) n c (zju ctr.args xs) (λe Y=>(e=.normal\/e=.ret)/\zBr fn.results.toList Y (ctr.obj xs))):zpc P G f ctr:=by
 refine⟨xb,λw O xs vs hO x5 hp hG=>calls_of_wp hf hb ?_⟩;have x9:=zeq _ _ _ x5
 let X:Ownr:=jj G O
 have x3:∀g,¬X.R g:=Ownr.plain_noR _ _;have hX:X.Ok w:=⟨λg hg=>⟨hO g hg,x3 g⟩,λg hg=>(x3 g hg).elim,λw' hk=>hK.st w w' hG (hk.below x3)⟩;have x7:Sim w X n (zju ctr.args xs) (λ_=>undef) { tmps:=vs.toArray++zD (fn.ntmps-vs.toArray.size) undef,defers:=[] } w:=by
  have hE:OSet X (zju ctr.args xs).E (λ_=>undef)=O:=by
   funext g
   apply propext;constructor
   .rintro (h|⟨i,o,h,_⟩)
    .exact h
    .cases h
   .exact λh=>.inl h
  refine⟨by simp[hn,x9];omega,rfl,jx _ _,λs=>?_,λi o h=>(by cases h),λi o g h=>(by cases h),λi j oi oj h=>(by cases h),λi o h=>(by cases h),⟨zk _,λi h=>(by cases h)⟩,λs=>?_,λi o h=>(by cases h)⟩
  .rw[hE];have:=zdJ (U:=λ_=>undef) ctr.args xs vs [] (zr (fn.ntmps-vs.length) undef) hd x5 s;simp only[xH,yC]at this;have e:(vs.toArray++zD (fn.ntmps-vs.toArray.size) undef)=(vs++zr (fn.ntmps-vs.length) undef).toArray:=by simp
   show RepV w O _ _ _ ((vs.toArray++zD (fn.ntmps-vs.toArray.size) undef).getD s undef);rw[e];exact this
  .show(zn (zdu ctr.args xs 0) s).bound<=0;rw[zcx _ _ _ _ hd];exact zj _
 refine wp_mono (wpIn_wide.1 (h w O hX xs hp _ _ _ x7)) λe a' w'⟨Y',U',h1,h2,s,i,xc,hs,hi⟩=>?_;have hb:=h1.bel.below x3;have x0:=h1.own i _ hi;obtain⟨g,hg⟩:∃g,U' i=.pointer (some ⟨g,0,none⟩):=by
  cases ho:ctr.obj xs with
  |buf te t ys=>have:=(x1 xs).2;rw[ho]at this;cases this
  |box t x=>rw[ho]at x0;obtain⟨g,_,_,e,_⟩:=x0;exact⟨g,e⟩
  |hbox ty ys=>rw[ho]at x0;obtain⟨g,_,e,_⟩:=x0;exact⟨g,e⟩
  |mp m I=>rw[ho]at x0;obtain⟨_,_,e,_⟩:=x0;exact⟨m,e⟩
 have hv:a'.tmps.getD s undef=.pointer (some ⟨g,0,none⟩):=by
  have hf:=h1.fr s;rw[hs]at hf;have x6:zag (U' i)=some g:=by rw[hg];rfl
  cases ho:ctr.obj xs with
  |buf te t ys=>have:=(x1 xs).2;rw[ho]at this;cases this
  |box t x=>
   rw[ho]at hf;obtain⟨g',e1,e2⟩:=hf;have e1:zag (U' i)=some g':=e1;rw[x6]at e1;cases e1;exact e2
  |hbox ty ys=>
   rw[ho]at hf;obtain⟨g',e1,e2⟩:=hf;have e1:zag (U' i)=some g':=e1;rw[x6]at e1;cases e1;exact e2
  |mp m I=>
   rw[ho]at hf;obtain⟨g',e1,e2⟩:=hf;have e1:zag (U' i)=some g':=e1;rw[x6]at e1;cases e1;exact e2
 have x4:(results fn a'.tmps).run P w'=.ok (.pointer (some ⟨g,0,none⟩)) w':=by
  rw[zjL];have hm:(fn.results.mapM (resM a'.tmps)).run P w'=.ok [a'.tmps.getD s undef].toArray w':=by
   rw[wG,xc];simp[resM]
  rw[zK,hm,hv];simp
 have x8:w.heap.size<=g:=by
  rcases h1.new i _ g hi (by rw[hg];rfl) with h3|h3
  .exact h3
  .exact(x3 g h3).elim
 have x2:∀(O':Nat->Prop)(U:Nat->zd),(∀h,O' h->O h\/h=g)->xC w' O' U 0 (.pointer (some ⟨g,0,none⟩)) (ctr.obj xs):=λO' U xa=>by
  rw[hg]at x0;refine OwnRep.anyβ (x1 xs).1 (x0.keep ⟨zj _,λ_ _ _=>rfl,λk _ hk=>?_⟩ λ_ _=>rfl);rcases xa k hk with h3|rfl
  .exact .inl h3
  .exact .inr ⟨i,_,hi,by rw[hg];rfl⟩
 rcases h2 with rfl|rfl
 .exact⟨h1.df,_,x4,g,rfl,hb,x8,x2⟩
 .exact⟨h1.df,_,x4,g,rfl,hb,x8,x2⟩
end
section
variable {P:zw}{K:Kn}{w0:zh}{X:Ownr}{n:Nat}{Y:AS}{Q:Exit->AS->Prop}{ops:Array Oper}
theorem zh8{o:Oper}{rest:List Oper}(x1:∀c,o.op≠ .defer c)(h:StepA P w0 X n ops o Y (λs=>AL P w0 X n ops rest s Q) Q):AL P w0 X n ops (o::rest) Y Q:=by
 intro U a w x0;have h0:=h U a w (λa' w'=>wpListIn (zdT X.ρ) 0 P ops (λe a' w'=>e≠ .outgrown/\∃Y' U',Sim w0 X n Y' U' a' w'/\Q e Y') rest a' w') (λe a' w'=>e≠ .outgrown/\∃Y' U',Sim w0 X n Y' U' a' w'/\Q e Y') x0 (λY' U' a' w' hs hN=>hN U' a' w' hs) (λe Y' U' a' w' he hs hq=>⟨he,Y',U',hs,hq⟩);show if yF o (yielded ops a.tmps)=true then _ else _
 split at h0
 .rename_i hw;rw[if_pos hw];rcases h0 with h0|⟨_,_,_,h0,_⟩
  .exact zbH x1 h0
  .exact absurd rfl h0
 .rename_i hw;rw[if_neg hw];exact⟨λf _=>zfn _ f,h0⟩
theorem StepA.fresh(hX:X.Ok w0){o:Oper}{f:zV}{c:FCtr}(hc:zpc P X.G f c){args:Array zB}{ts:Array zo}(ho:o.op=.call ⟨.value (.func f),args,ts⟩){zas:List zB}(x2:args.toList=zas)(x8:o.guard=none)
  {F:zN}{E:Owns}{nx:Nat} (xc:frzs Y zas=⟨F,E,nx⟩) (hd:zaN c.args=true) {q:List Prop}{xs:Args c.args} (x9:zdY E false (zas.map (evO F)) c.args=some (q,xs)) (hq:allP q) (x5:allP (c.pre xs))
  (x0:(c.obj xs).bare=true/\(c.obj xs).isBuf=false) {d:Nat} (x3:o.dst=some d) (xa:zM d n=true) {N:AS->Prop} (h:N ⟨(d,zt4 nx (c.obj xs))::F,(nx,some (c.obj xs))::E,nx+1⟩):StepA P w0 X n ops o Y N Q:=by
 refine StepA.hand x8 λU a w hs=>?_;have h1:=hs.frzs hX zas;rw[xc]at h1;obtain⟨xd,x1⟩:=hc;have hvs:RepVs w (OSet X E U) U (zas.map (evO F)) (zas.map a.eval):=by
  refine⟨by simp,λi v hv=>?_⟩;rw[yP]at hv;obtain⟨z,hz,rfl⟩:=zQ.1 hv;exact⟨a.eval z,by rw[yP,hz];rfl,h1.ops z⟩
 have ha:=zdR (B:=0) h1.own hd x9 hq hvs.2 hvs.1;have ha:RepA w (OSet X E U) c.args xs (zas.map a.eval):=by
  have e:(λk=>false=false/\OSet X E U k)=OSet X E U:=by funext k;simp
  rwa[e]at ha
 refine zen ho xd ?_;rw[x2];refine(x1 w _ xs _ (λk hk=>h1.hO hX k hk) ha x5 (hX.2.2 w h1.bel)).mono λe w'⟨g,he,hb,xe,x6⟩=>?_;refine⟨_,he,?_⟩;have x7:d<n:=by simpa using xa
 rw[x3];obtain⟨U',h2⟩:=h1.make hX hb (bv:=.pointer (some ⟨g,0,none⟩)) (o:=c.obj xs) (λO U' hO=>x6 O U' λk hk=>(hO k hk).imp id λe=>(zP e).symm) (λk hk=>by
  have:g=k:=by simpa [zag] using hk
  omega) (v:=zt4 nx (c.obj xs)) (u:=.pointer (some ⟨g,0,none⟩)) (λO U' xb=>by
   have x4:zag (U' nx)=some g:=by rw[show U' nx=_ from xb];rfl
   cases ho:c.obj xs with
   |buf te t ys=>have:=x0.2;rw[ho]at this;cases this
   |box t x=>exact⟨g,x4,rfl⟩
   |hbox ty ys=>exact⟨g,x4,rfl⟩
   |mp m I=>exact⟨g,x4,rfl⟩) (by
   cases ho:c.obj xs with
   |buf te t ys=>have:=x0.2;rw[ho]at this;cases this
   |box t x=>exact zj _
   |hbox ty ys=>exact zj _
   |mp m I=>exact zj _) x7 (OObj.bare_under x0.1 _)
 exact⟨_,U',h2,h⟩
theorem AL.fresh(hX:X.Ok w0){o:Oper}{rest:List Oper}{f:zV}{c:FCtr}(hc:zpc P X.G f c){args:Array zB}{ts:Array zo}(ho:o.op=.call ⟨.value (.func f),args,ts⟩){zas:List zB}(x1:args.toList=zas)(x4:o.guard=none)
  {F:zN}{E:Owns}{nx:Nat} (x7:frzs Y zas=⟨F,E,nx⟩) (hd:zaN c.args=true) {q:List Prop}{xs:Args c.args} (x5:zdY E false (zas.map (evO F)) c.args=some (q,xs)) (hq:allP q) (x3:allP (c.pre xs))
  (x0:(c.obj xs).bare=true/\(c.obj xs).isBuf=false) {d:Nat} (x2:o.dst=some d) (x6:zM d n=true) (h:AL P w0 X n ops rest ⟨(d,zt4 nx (c.obj xs))::F,(nx,some (c.obj xs))::E,nx+1⟩ Q):AL P w0 X n ops (o::rest) Y Q:=
 zh8 (λc e=>by rw[ho]at e;cases e) (StepA.fresh hX hc ho x1 x4 x7 hd x5 hq x3 x0 x2 x6 h)
end
def LEnd(c:HCtr)(w w':zh)(O:Nat->Prop)(e:wZ):Except zd c.res.T->Prop
 |.ok y=>∃v,e=.returned v/\(c.res=.unit\/zdb w' O w.heap.size none c.res y v)
 |.error pv=>e=.panicked [{ v:=pv,recovered:=false }]
def zfV(P:zw)(G:zh->Prop)(f:zV)(c:HCtr)(out:c.self.T->Args c.args->Except zd c.res.T):Prop:=
 (∀(zas:Array zd)(w:zh),(callFunc f zas).run P w=.ok (.enter f zas) w)/\c.law/\
 ∀(w:zh)(O:Nat->Prop)(g:Nat)(cs:List zd)(ty:zo)(x:c.self.T)(xs:Args c.args)(vs:List zd)(b:zd),(∀h,O h->h<w.heap.size/\h≠g/\zag b≠some h)->zag b≠some g->w.heap[g]? =some (.cells cs.toArray ty (0,0))->
  RepH w (zb0 O g b) (zdP g b) (c.lv 0 1 x) cs->xC w (zb0 O g b) (zdP g b) 0 b (.buf c.te c.et (c.sl x))->RepA w (zb0 O g b) c.args xs vs->allP (c.pre x xs)->c.inv w (λh=>h=g\/zag b=some h) ty->G w->
  Calls P f (yO (some ⟨g,0,none⟩)::vs).toArray w λe w'=>Kept (λh=>h=g\/zag b=some h) w w'/\LEnd c w w' O e (out x xs)
def zyE(T:Tbl)(rs:List jw)(t:Ty)(e:Exit)(Y:AS):Except zd t.T->Prop
 |.ok y=>(e=.normal\/e=.ret)/\Done T rs ⟨Y.F,zgw [] Y.E,Y.nx⟩ none t y
 |.error pv=>e=.panic [{ v:=pv,recovered:=false }]
section
variable {P:zw}{K:Kn}{n:Nat}
theorem znn{G:zh->Prop}(hK:KnOk P G K){f:zV}{fn:Func}{c:Code}{ctr:HCtr}{out:ctr.self.T->Args ctr.args->Except zd ctr.res.T}(hf:P.funcs[f]? =some fn)(hb:fn.body=some c)(hn:fn.ntmps=n)(x2:ctr.law)
  (xe:∀(zas:Array zd)(w:zh),(callFunc f zas).run P w=.ok (.enter f zas) w) (hd:zaN ctr.args=true) (hlen:ctr.args.length+1<=n) (xc:∀w w' R ty,ctr.inv w R ty->G w->Kept R w w'->G w')
  (h:∀(w0:zh)(X:Ownr)(ty:zo),X.Ok w0->X.G=G->X.K=1->X.ρ=none->X.D=[]->ctr.inv w0 X.R ty->∀(x:ctr.self.T)(xs:Args ctr.args),allP (ctr.pre x xs)->
    AWP P w0 X n c (zjv ctr ty x xs) (λe Y=>zyE K.T fn.results.toList ctr.res e Y (out x xs))):zfV P G f ctr out:=by
 refine⟨xe,x2,λw O g cs ty x xs vs b hO xa hg hx x6 x8 hp x1 hG=>calls_of_wp hf hb ?_⟩;obtain⟨X,x0,hX,x9,x7⟩:=zxE (ctr:=ctr) (G:=G) hn x2 hd hlen xc hO xa hg hx x6 x8 x1 hG;have xd:X.X=O:=by rw[x0]
 have x3:ctr.inv w X.R ty:=by
  rw[show X.R=λh=>h=g\/zag b=some h from funext λh=>propext (x9 h)];exact x1
 have hw:=h w X ty hX (by rw[x0]) (by rw[x0]) (by rw[x0]) (by rw[x0]) x3 x xs hp _ _ _ x7;rw[show X.ρ=none by rw[x0]]at hw;refine wp_mono (wpIn_wide.1 hw) λe a' w'⟨Y',U',h1,h2⟩=>?_;have x4:Kept (λh=>h=g\/zag b=some h) w w':=⟨h1.bel.os,h1.bel.tape,h1.bel.output,h1.bel.size,λk hk hr=>h1.bel.block k hk λxb=>hr ((x9 k).1 xb)⟩;have x5:a'.defers=[]:=by rw[h1.df,x0]
 revert h2;cases ho:out x xs with
 |error pv=>
  rintro rfl;exact⟨x5,x4,rfl⟩
 |ok y=>
  rintro ⟨h2,h3⟩;obtain⟨v,h4,h5⟩:=zgI (X:=X) (by rw[show X.G=G by rw[x0]];exact hK) hX h1 [] h3 (O':=O) (λk hk=>.inl (by rw[xd];exact hk));rcases h2 with rfl|rfl
  .exact⟨x5,v,h4,x4,v,rfl,h5⟩
  .exact⟨x5,v,h4,x4,v,rfl,h5⟩
end
section
variable {P:zw}{K:Kn}{w0:zh}{X:Ownr}{n:Nat}{Y:AS}{Q:Exit->AS->Prop}{ops:Array Oper}
theorem StepA.give(hX:X.Ok w0){o:Oper}{f:zV}{c:HCtr}{out:c.self.T->Args c.args->Except zd c.res.T}(hc:zfV P X.G f c out){args:Array zB}{ts:Array zo}{a0:zB}{zas:List zB}(ho:o.op=.call ⟨.value (.func f),args,ts⟩)(x7:args.toList=a0::zas)(xt:o.guard=none)
  {F:zN}{E:Owns}{nx:Nat} (y3:frzs Y zas=⟨F,E,nx⟩) {i:Nat} (y2:evO F a0=⟨.hptr,(i,(0:Nat))⟩) {ty:zo}{vs:List V} (hbox:zm E i=some (.hbox ty vs)) {et:Ty}{j:Nat} (hk:vs[c.k]? =some ⟨.obuf et,j⟩) {x8:List c.et.T} (x0:zm E j=some (.buf c.te c.et x8))
  {x:c.self.T} (xz:unD c.self ((c.back i vs).set c.k ⟨.slice c.et,x8⟩)=some (x,[])) (hd:zaN c.args=true) (xj:c.res.resOk=true)
  {q:List Prop}{xs:Args c.args} (xu:zdY E false (zas.map (evO F)) c.args=some (q,xs)) (hq:allP q) (xf:allP (c.pre x xs)) (xe:∀w R,(∀g,R g->w0.heap.size<=g\/X.R g)->X.G w->c.inv w R ty) {d:Nat} (xd:o.dst=some d) (xv:zM d n=true)
  {N:AS->Prop} (h:match out x xs with
   |.ok y=>N ⟨(d,resV c.res y)::F,(i,none)::(j,none)::E,nx⟩
   |.error pv=>Q (.panic [{ v:=pv,recovered:=false }]) ⟨F,(i,none)::(j,none)::E,nx⟩):StepA P w0 X n ops o Y N Q:=by
 refine StepA.hand xt λU a w hs=>?_;have h1:=hs.frzs hX zas;rw[y3]at h1;obtain⟨y7,x1,x4⟩:=hc;have x5:unH c i vs E x:=⟨et,j,x8,hk,x0,xz⟩;have y8:x8=c.sl x:=by
  obtain⟨y5,j',k1,k2,_,_⟩:=zgf x1 x5;rw[hk]at k1;cases k1;rw[x0]at k2;cases k2;rfl
 subst y8;have hv:=h1.ops a0;rw[show evO (AS.mk F E nx).F a0=_ from y2]at hv;obtain⟨g,x9,y4⟩:=hv;obtain⟨g',cs,e1,_,e3,e4⟩:=h1.own _ _ hbox;have xw:g'=g:=by
  have x9:zag (U i)=some g:=x9;rw[e1]at x9
  simpa [zag] using x9
 subst xw;have xr:i≠j:=λe=>by rw[e,x0]at hbox;cases hbox
 have xp:=h1.own _ _ x0;have y6:OSet X E U g':=.inr ⟨_,_,hbox,by rw[e1];rfl⟩;have xq:zag (U j)≠some g':=h1.inj i j _ _ hbox x0 xr g' (by rw[e1];rfl);obtain⟨O,hO⟩:∃O:Nat->Prop,O=λk=>OSet X E U k/\k≠g'/\zag (U j)≠some k:=⟨_,rfl⟩;have x3:zb0 O g' (U j)=OSet X E U:=by
  funext k
  apply propext;rw[hO];constructor
  .rintro ((hk|rfl)|hk)
   .exact hk.1
   .exact y6
   .exact .inr ⟨j,_,x0,hk⟩
  .intro hk;by_cases e:k=g'
   .exact .inl (.inr e)
   .by_cases e':zag (U j)=some k
    .exact .inr e'
    .exact .inl (.inl ⟨hk,e,e'⟩)
 have hvs:RepVs w (OSet X E U) U (zas.map (evO F)) (zas.map a.eval):=by
  refine⟨by simp,λi v hv=>?_⟩;rw[yP]at hv;obtain⟨z,hz,rfl⟩:=zQ.1 hv;exact⟨a.eval z,by rw[yP,hz];rfl,h1.ops z⟩
 have ha:=zdR (B:=0) h1.own hd xu hq hvs.2 hvs.1;have ha:RepA w (zb0 O g' (U j)) c.args xs (zas.map a.eval):=by
  rw[x3];have e:(λk=>false=false/\OSet X E U k)=OSet X E U:=by funext k;simp
  rwa[e]at ha
 have xn:qz w w (OSet X E U) (zb0 O g' (U j)):=by rw[x3];exact Keeps.refl _ _
 have y0:RepH w (zb0 O g' (U j)) (zdP g' (U j)) (c.lv 0 1 x) cs:=RepH.toLv x1 xn x5 e4 (λj' y5 xm=>by
  rw[hk]at xm;cases xm;rfl) (by rw[e1];rfl)
 have x6:xC w (zb0 O g' (U j)) (zdP g' (U j)) 0 (U j) (.buf c.te c.et (c.sl x)):=xp.keep xn λ_ _=>rfl;have xy:∀k,O k->k<w.heap.size/\k≠g'/\zag (U j)≠some k:=λk hk=>by
  rw[hO]at hk;exact⟨h1.hO hX k hk.1,hk.2⟩
 have hR:∀k,(k=g'\/zag (U j)=some k)->w0.heap.size<=k\/X.R k:=λk hk=>by
  rcases hk with rfl|hk
  .exact h1.new _ _ k hbox (by rw[e1];rfl)
  .exact h1.new _ _ k x0 hk
 have xx:=x4 w O g' cs ty x xs _ (U j) xy xq e3 y0 x6 ha xf (xe w _ hR (hX.2.2 w h1.bel)) (hX.2.2 w h1.bel);have xi:(execOp a.eval o).run P w=.ok (.enter f (yO (some ⟨g',0,none⟩)::zas.map a.eval).toArray) w:=by
  have em:args.map a.eval++ #[]=(yO (some ⟨g',0,none⟩)::zas.map a.eval).toArray:=by
   rw[<-zdE,x7,qH,y4];simp
  have hx:a.eval (.func f)=.func (.func f) #[] #[]:=rfl;rw[<-em];unfold execOp;simp[ho,resolve,invoke,vd,hx,y7]
 unfold v8;rw[xi];refine xx.mono λe w' hr=>?_;obtain⟨x2,hr⟩:=hr;have xk:=h1.lose2 (w':=w') hbox x0 ⟨x2.os,x2.tape,x2.output,x2.size,λk y1 hn=>x2.block k y1 λhk=>hn (hk.elim (λe=>.inl (by rw[e1,e];rfl)) .inr)⟩;revert hr h;cases out x xs with
 |error pv=>
  intro h;rintro rfl;exact⟨λe=>(by cases e),_,U,xk,h⟩
 |ok y=>
  intro h;rintro ⟨v,rfl,xg⟩;have xo:d<n:=by simpa using xv
  have xh:qz w' w' O (OSet X ((i,none)::(j,none)::E) U):=⟨zj _,λ_ _ _=>rfl,λk _ xa=>by
   rw[hO];rcases xa with xa|⟨m,om,hm,hbm⟩
   .have h3:=hX.1 k xa;refine⟨.inl xa,λe=>?_,λe=>?_⟩
    .rcases hR k (.inl e) with h4|h4
     .omega
     .exact h3.2 h4
    .rcases hR k (.inr e) with h4|h4
     .omega
     .exact h3.2 h4
   .rw[zab,zab]at hm;by_cases xc:i=m
    .rw[if_pos xc]at hm;cases hm
    .rw[if_neg xc]at hm;by_cases xb:j=m
     .rw[if_pos xb]at hm;cases hm
     .rw[if_neg xb]at hm;refine⟨.inr ⟨m,om,hm,hbm⟩,λe=>?_,λe=>?_⟩
      .exact h1.inj i m _ om hbox hm xc k (by rw[e1,e];rfl) hbm
      .exact h1.inj j m _ om x0 hm xb k e hbm⟩
  show ∃Y' U',Sim w0 X n Y' U' (a.put o.dst v) w'/\_;rw[xd];exact⟨_,U,xk.put (zR _ _) (zZ xh _ _ _ (zir (U:=U) _ xj xg)) (zf1 _ xj _) xo,h⟩
theorem AL.give(hX:X.Ok w0){o:Oper}{rest:List Oper}{f:zV}{c:HCtr}{out:c.self.T->Args c.args->Except zd c.res.T}(hc:zfV P X.G f c out){args:Array zB}{ts:Array zo}{a0:zB}{zas:List zB}(ho:o.op=.call ⟨.value (.func f),args,ts⟩)(x0:args.toList=a0::zas)(x7:o.guard=none)
  {F:zN}{E:Owns}{nx:Nat} (xb:frzs Y zas=⟨F,E,nx⟩) {i:Nat} (xa:evO F a0=⟨.hptr,(i,(0:Nat))⟩) {ty:zo}{vs:List V} (hbox:zm E i=some (.hbox ty vs)) {et:Ty}{j:Nat} (hk:vs[c.k]? =some ⟨.obuf et,j⟩) {x5:List c.et.T} (x4:zm E j=some (.buf c.te c.et x5))
  {x:c.self.T} (xc:unD c.self ((c.back i vs).set c.k ⟨.slice c.et,x5⟩)=some (x,[])) (hd:zaN c.args=true) (x6:c.res.resOk=true)
  {q:List Prop}{xs:Args c.args} (x8:zdY E false (zas.map (evO F)) c.args=some (q,xs)) (hq:allP q) (x3:allP (c.pre x xs)) (x2:∀w R,(∀g,R g->w0.heap.size<=g\/X.R g)->X.G w->c.inv w R ty) {d:Nat} (x1:o.dst=some d) (x9:zM d n=true)
  (h:match out x xs with
    |.ok y=>AL P w0 X n ops rest ⟨(d,resV c.res y)::F,(i,none)::(j,none)::E,nx⟩ Q
    |.error pv=>Q (.panic [{ v:=pv,recovered:=false }]) ⟨F,(i,none)::(j,none)::E,nx⟩):AL P w0 X n ops (o::rest) Y Q:=
 zh8 (λc e=>by rw[ho]at e;cases e) (StepA.give hX hc ho x0 x7 xb xa hbox hk x4 xc hd x6 x8 hq x3 x2 x1 x9 h)
theorem ztq{j s:Nat}{b:Bool}(hd:(ops[j]?).bind (·.dst)=some s)(hs:zn Y.F s=⟨.bool,b⟩)(x2:zM s n=true){U:Nat->zd}{a:Act}{w:zh}(x0:Sim w0 X n Y U a w):yielded ops a.tmps j=some b:=by
 have hv:a.tmps.getD s undef=.bool b:=by
  have h2:=x0.fr s;rw[hs]at h2;exact jQ h2
 have x1:s<a.tmps.size:=by rw[x0.sz];simpa using x2
 unfold yielded;rw[hd];have:a.tmps[s]? =some (.bool b):=by
  rw[zO,qo x1]at hv;rw[qo x1];exact congrArg some hv
 simp[this]
theorem AL.guardT(j s:Nat)(b:Bool){o:Oper}{rest:List Oper}(hg:o.guard=some (j,b))(hd:(ops[j]?).bind (·.dst)=some s)(hs:zn Y.F s=⟨.bool,b⟩)(x2:zM s n=true)(h:AL P w0 X n ops ({ o with guard:=none }::rest) Y Q):AL P w0 X n ops (o::rest) Y Q:=by
 intro U a w x0;have h1:=h U a w x0;have hy:=ztq hd hs x2 x0;have hw:yF o (yielded ops a.tmps)=true:=by simp[yF,hg,hy]
 have x1:yF { o with guard:=none } (yielded ops a.tmps)=true:=by simp[yF]
 show if yF o (yielded ops a.tmps)=true then _ else _
 have h1:if yF { o with guard:=none } (yielded ops a.tmps)=true then _ else _:=h1
 rw[if_pos x1]at h1;rw[if_pos hw];exact h1
theorem StepA.guardT(j s:Nat)(b:Bool){o:Oper}{N:AS->Prop}(hg:o.guard=some (j,b))(hd:(ops[j]?).bind (·.dst)=some s)(hs:zn Y.F s=⟨.bool,b⟩)(x2:zM s n=true)(h:StepA P w0 X n ops { o with guard:=none } Y N Q):StepA P w0 X n ops o Y N Q:=by
 intro U a w I R x0 hI hR;have h1:=h U a w I R x0 hI hR;have hy:=ztq hd hs x2 x0;have hw:yF o (yielded ops a.tmps)=true:=by simp[yF,hg,hy]
 have x1:yF { o with guard:=none } (yielded ops a.tmps)=true:=by simp[yF]
 show if yF o (yielded ops a.tmps)=true then _ else _
 have h1:if yF { o with guard:=none } (yielded ops a.tmps)=true then _ else _:=h1
 rw[if_pos x1]at h1;rw[if_pos hw];exact h1
theorem AL.guardF(j s:Nat)(b:Bool)(t:Ty)(y:t.T){o:Oper}{rest:List Oper}(hg:o.guard=some (j,b))(hd:(ops[j]?).bind (·.dst)=some s)(hs:zn Y.F s=⟨.bool,!b⟩)(x2:zM s n=true){d:Nat}(x1:o.dst=some d)(x3:zM d n=true)(h:AL P w0 X n ops rest ⟨(d,⟨.cond t,(false,y)⟩)::Y.F,Y.E,Y.nx⟩ Q)(hb:bnd t y=0:=by rfl):AL P w0 X n ops (o::rest) Y Q:=by
 intro U a w x0;have hy:=ztq hd hs x2 x0;have hw:¬yF o (yielded ops a.tmps)=true:=by simp[yF,hg,hy]
 show if yF o (yielded ops a.tmps)=true then _ else _
 rw[if_neg hw];refine⟨λf _=>zfn _ f,?_⟩;rw[x1];exact h _ _ _ (x0.put (zR _ _) (v:=⟨.cond t,(false,y)⟩) ⟨λh=>(by cases h),λ_=>rfl⟩ (by rw[show V.bound ⟨.cond t,(false,y)⟩=bnd t y from rfl,hb];exact zk _) (by simpa using x3))
theorem StepA.guardF(j s:Nat)(b:Bool)(t:Ty)(y:t.T){o:Oper}{N:AS->Prop}(hg:o.guard=some (j,b))(hd:(ops[j]?).bind (·.dst)=some s)(hs:zn Y.F s=⟨.bool,!b⟩)(x2:zM s n=true){d:Nat}(x1:o.dst=some d)(x3:zM d n=true)(h:N ⟨(d,⟨.cond t,(false,y)⟩)::Y.F,Y.E,Y.nx⟩)(hb:bnd t y=0:=by rfl):StepA P w0 X n ops o Y N Q:=by
 intro U a w I R x0 hI hR;have hy:=ztq hd hs x2 x0;have hw:¬yF o (yielded ops a.tmps)=true:=by simp[yF,hg,hy]
 show if yF o (yielded ops a.tmps)=true then _ else _
 rw[if_neg hw,x1];exact hI _ U _ _ (x0.put (zR _ _) (v:=⟨.cond t,(false,y)⟩) ⟨λh=>(by cases h),λ_=>rfl⟩ (by rw[show V.bound ⟨.cond t,(false,y)⟩=bnd t y from rfl,hb];exact zk _) (by simpa using x3)) h
theorem zyG(hX:X.Ok w0){o:Oper}{rest:List Oper}{f:zV}{c:HCtr}(hc:zaD P X.G f c){y a0:zB}{args:Array zB}{ts:Array zo}(ho:o.op=.call ⟨.value y,args,ts⟩)(x0:args= #[a0])(x7:o.guard=none)
  {F:zN}{E:Owns}{nx:Nat} (hy:evO F y=⟨.lit,.func (.func f) #[] #[]⟩)
  {i:Nat} (x9:evO F a0=⟨.hptr,(i,(0:Nat))⟩) {ty:zo}{vs:List V} (hbox:zm E i=some (.hbox ty vs)) {et:Ty}{j:Nat} (hk:vs[c.k]? =some ⟨.obuf et,j⟩) {x5:List c.et.T} (x3:zm E j=some (.buf c.te c.et x5))
  {x:c.self.T} (xa:unD c.self ((c.back i vs).set c.k ⟨.slice c.et,x5⟩)=some (x,[])) (hd:zaN c.args=true) (x6:c.res.resOk=true)
  {q:List Prop}{xs:Args c.args} (x8:zdY E false [] c.args=some (q,xs)) (hq:allP q) (x2:allP (c.pre x xs)) (x1:∀w R,(∀g,R g->w0.heap.size<=g\/X.R g)->X.G w->c.inv w R ty) {F':c.res.T->zN} (x4:∀y,putD n o.dst (resV c.res y) (jH j F)=some (F' y))
  (h:zqi (λy x'=>AL P w0 X n ops rest ⟨F' y,(i,some (.hbox ty (c.lv i j x')))::(j,some (.buf c.te c.et (c.sl x')))::xA j E,nx⟩ Q) (λpv=>Q (.panic [{ v:=pv,recovered:=false }]) ⟨F,(i,none)::(j,none)::E,nx⟩) (c.out x xs)):AL P w0 X n ops (o::rest) ⟨F,E,nx⟩ Q:=
 AL.hand x7 (λc e=>by rw[ho]at e;cases e) (zmm hX hc (a0:=a0) (zas:=[]) (λU a w hs xb=>by
  have h1:a.eval y=.func (.func f) #[] #[]:=by
   have h1:=hs.ops y;rw[show evO (frzs ⟨F,E,nx⟩ []).F y=_ from hy]at h1;exact h1
  unfold execOp;simp[ho,x0,resolve,invoke,vd,h1,xb]) rfl x9 hbox hk x3 xa hd x6 x8 hq x2 x1 x4 (N:=λY'=>AL P w0 X n ops rest Y' Q) h)
theorem zkw{t kt et:zo}{kd:ke}(hu:P.underlying t=some (.map kt et))(hk:P.underlying kt=some kd)(hp:zc3 kd=true){w:zh}{r ck:Nat}{ms:Array wu}(h:w.heap[r]? =some (.map ms ck)){key v:zd}
  (hf:zgD kd key (ms.toList.map λe=>(e.key,e.val))=some (some v)):(kC t (.map (some r)) key true).run P w=.ok (.tuple #[v,.bool true]) w:=by
 rw[<-zgE kd key ms.toList 0]at hf;obtain⟨o,ho,hf⟩:=zQ.1 hf;obtain⟨⟨i,v'⟩,rfl,rfl⟩:=zQ.1 hf;simp[kC,uJ,run_underlying hu,run_underlying hk,zgW h,zeU _ hk hp,ho]
theorem zim{t kt et:zo}{kd:ke}(hu:P.underlying t=some (.map kt et))(hk:P.underlying kt=some kd)(hp:zc3 kd=true){w:zh}{r ck:Nat}{ms:Array wu}(h:w.heap[r]? =some (.map ms ck)){key z:zd}
  (hf:zgD kd key (ms.toList.map λe=>(e.key,e.val))=some none) (hz:(zeroValue et).run P w=.ok z w):(kC t (.map (some r)) key true).run P w=.ok (.tuple #[z,.bool false]) w:=by
 rw[<-zgE kd key ms.toList 0]at hf;obtain⟨o,ho,hf⟩:=zQ.1 hf;cases o with
 |some x=>cases hf
 |none=>simp[kC,uJ,run_underlying hu,run_underlying hk,zgW h,zeU _ hk hp,ho,hz]
theorem zrO{t kt et:zo}{kd:ke}(hu:P.underlying t=some (.map kt et))(hk:P.underlying kt=some kd)(hp:zc3 kd=true){o:Oper}{m k:zB}{d:Nat}{es:List (zd×zd)}{key z:zd}(ho:o.op=.lookup t m k true)(x0:o.dst=some d)(hd:zM d n=true)
  (hm:evO Y.F m=⟨.mapL,es⟩) (x1:∀U a w,Sim w0 X n Y U a w->a.eval k=key) (hz:∀w,(zeroValue et).run P w=.ok z w) {r:Option zd} (hf:zgD kd key es=some r) {N:AS->Prop} (h:N ⟨(d,⟨.lit,.tuple #[r.getD z,.bool r.isSome]⟩)::Y.F,Y.E,Y.nx⟩)
  (U:Nat->zd) (a:Act) (w:zh) (hs:Sim w0 X n Y U a w):o.wp P a w (λa' w'=>∃Y' U',Sim w0 X n Y' U' a' w'/\N Y') (λe a' w'=>e≠ .outgrown/\∃Y' U',Sim w0 X n Y' U' a' w'/\Q e Y'):=by
 have x2:d<n:=by simpa using hd
 have h1:=hs.ops m;rw[hm]at h1;obtain⟨r0,ms,ck,h2,_,_,h3,h4⟩:=h1;refine za5 (u:=.tuple #[r.getD z,.bool r.isSome]) (w':=w) ?_ ?_
 .unfold execOp;simp only[ho];rw[h2,x1 U a w hs];cases r with
  |some v=>exact zbz (zkw hu hk hp h3 (by rw[h4];exact hf))
  |none=>exact zbz (zim hu hk hp h3 (by rw[h4];exact hf) (hz w))
 .rw[x0];exact⟨_,U,hs.put (zR _ _) (v:=⟨.lit,.tuple #[r.getD z,.bool r.isSome]⟩) rfl (zk _) x2,h⟩
theorem zsD{o:Oper}{x:zB}{d:Nat}{v b:zd}(ho:o.op=.extract x 0)(x0:o.dst=some d)(hd:zM d n=true)(hx:evO Y.F x=⟨.lit,.tuple #[v,b]⟩){N:AS->Prop}(h:N ⟨(d,⟨.lit,v⟩)::Y.F,Y.E,Y.nx⟩)
  (U:Nat->zd) (a:Act) (w:zh) (hs:Sim w0 X n Y U a w):o.wp P a w (λa' w'=>∃Y' U',Sim w0 X n Y' U' a' w'/\N Y') (λe a' w'=>e≠ .outgrown/\∃Y' U',Sim w0 X n Y' U' a' w'/\Q e Y'):=by
 have x1:d<n:=by simpa using hd
 have hv:a.eval x=.tuple #[v,b]:=by
  have h5:=hs.ops x;rw[hx]at h5;exact h5
 refine za5 (u:=v) (w':=w) ?_ ?_
 .unfold execOp;simp only[ho,hv];exact zbz (by simp[Instr.extract])
 .rw[x0];exact⟨_,U,hs.put (zR _ _) (v:=⟨.lit,v⟩) rfl (zk _) x1,h⟩
theorem zsC{o:Oper}{x:zB}{d:Nat}{v:zd}{b:Bool}(ho:o.op=.extract x 1)(x0:o.dst=some d)(hd:zM d n=true)(hx:evO Y.F x=⟨.lit,.tuple #[v,.bool b]⟩){N:AS->Prop}(h:N ⟨(d,⟨.bool,b⟩)::Y.F,Y.E,Y.nx⟩)
  (U:Nat->zd) (a:Act) (w:zh) (hs:Sim w0 X n Y U a w):o.wp P a w (λa' w'=>∃Y' U',Sim w0 X n Y' U' a' w'/\N Y') (λe a' w'=>e≠ .outgrown/\∃Y' U',Sim w0 X n Y' U' a' w'/\Q e Y'):=by
 have x1:d<n:=by simpa using hd
 have hv:a.eval x=.tuple #[v,.bool b]:=by
  have h5:=hs.ops x;rw[hx]at h5;exact h5
 refine za5 (u:=.bool b) (w':=w) ?_ ?_
 .unfold execOp;simp only[ho,hv];exact zbz (by simp[Instr.extract])
 .rw[x0];exact⟨_,U,hs.put (zR _ _) (v:=⟨.bool,b⟩) RepV.ofBool (zk _) x1,h⟩
theorem zvr{t kt et:zo}{kd:ke}(hu:P.underlying t=some (.map kt et))(hk:P.underlying kt=some kd)(hp:zc3 kd=true){o:Oper}{rest:List Oper}{m k:zB}{d:Nat}{es:List (zd×zd)}{key z:zd}(ho:o.op=.lookup t m k true)(hg:o.guard=none)(x0:o.dst=some d)(hd:zM d n=true)
  (hm:evO Y.F m=⟨.mapL,es⟩) (x1:∀U a w,Sim w0 X n Y U a w->a.eval k=key) (hz:∀w,(zeroValue et).run P w=.ok z w) {r:Option zd} (hf:zgD kd key es=some r) (h:AL P w0 X n ops rest ⟨(d,⟨.lit,.tuple #[r.getD z,.bool r.isSome]⟩)::Y.F,Y.E,Y.nx⟩ Q):AL P w0 X n ops (o::rest) Y Q:=
 AL.hand hg (λc e'=>by rw[ho]at e';cases e') (zrO hu hk hp ho x0 hd hm x1 hz hf (N:=λY'=>AL P w0 X n ops rest Y' Q) h)
theorem zyI{o:Oper}{rest:List Oper}{x:zB}{d:Nat}{v b:zd}(ho:o.op=.extract x 0)(hg:o.guard=none)(x0:o.dst=some d)(hd:zM d n=true)(hx:evO Y.F x=⟨.lit,.tuple #[v,b]⟩)(h:AL P w0 X n ops rest ⟨(d,⟨.lit,v⟩)::Y.F,Y.E,Y.nx⟩ Q):AL P w0 X n ops (o::rest) Y Q:=
 AL.hand hg (λc e'=>by rw[ho]at e';cases e') (zsD ho x0 hd hx (N:=λY'=>AL P w0 X n ops rest Y' Q) h)
theorem zyH{o:Oper}{rest:List Oper}{x:zB}{d:Nat}{v:zd}{b:Bool}(ho:o.op=.extract x 1)(hg:o.guard=none)(x0:o.dst=some d)(hd:zM d n=true)(hx:evO Y.F x=⟨.lit,.tuple #[v,.bool b]⟩)(h:AL P w0 X n ops rest ⟨(d,⟨.bool,b⟩)::Y.F,Y.E,Y.nx⟩ Q):AL P w0 X n ops (o::rest) Y Q:=
 AL.hand hg (λc e'=>by rw[ho]at e';cases e') (zsC ho x0 hd hx (N:=λY'=>AL P w0 X n ops rest Y' Q) h)
end
theorem za8{P:zw}{w0:zh}{X:Ownr}{n:Nat}{Y:AS}{Q:Exit->AS->Prop}{c d:Code}{Y':AS}(h1:AWP P w0 X n c Y (zhI (λs=>Fit s Y') Q))(h2:AWP P w0 X n d Y' Q)(hk:X.K<=Y'.nx:=by exact zq rfl):AWP P w0 X n (.seq c d) Y Q:=
 zaq<|AWP.mono h1 λe s h=>by
  cases e with
  |normal=>exact zak h h2 hk
  |_=>exact h
theorem zbi{P:zw}{w0:zh}{X:Ownr}{n:Nat}{Y:AS}{Q:Exit->AS->Prop}{c d:Code}{Y':AS}(h1:AWP P w0 X n c Y (zhI (λs=>Fit s Y') Q))(h2:AWP P w0 X n d Y' Q)(hk:X.K<=Y'.nx:=by exact zq rfl):AWP P w0 X n c Y (zhI (λs=>AWP P w0 X n d s Q) Q):=
 AWP.mono h1 λe s h=>by
  cases e with
  |normal=>exact zak h h2 hk
  |_=>exact h
section
variable {P:zw}{K:Kn}{n:Nat}{G:zh->Prop}{f:zV}{fn:Func}{c:Code}
theorem zb9{ctr:HCtr}(hK:KnOk P G K)(hf:P.funcs[f]? =some fn)(hlaw:ctr.law)(hen:∀(us:Array zd)(w:zh),(callFunc f us).run P w=.ok (.enter f us) w)(hst:∀w w' R ty,ctr.inv w R ty->G w->Kept R w w'->G w')
  (h:∀(w0:zh)(O:Nat->Prop)(fix:Nat->Nat)(B:Nat->Prop)(ty:zo),(⟨G,O,1,fix,[],none,B⟩:Ownr).Ok w0->ctr.inv w0 (⟨G,O,1,fix,[],none,B⟩:Ownr).R ty->∀(x:ctr.self.T)(xs:Args ctr.args),allP (ctr.pre x xs)->
    AWP P w0 ⟨G,O,1,fix,[],none,B⟩ n c (zjv ctr ty x xs) (λe Y=>zqj K.T fn.results.toList ctr ty e Y (ctr.out x xs)))
  (hb:fn.body=some c:=by rfl) (hn:fn.ntmps=n:=by rfl) (hd:zaN ctr.args=true:=by rfl) (hlen:ctr.args.length+1<=n:=by exact zq rfl):zaD P G f ctr:=
 znx hK hf hb hn hlaw hen hd hlen hst λw0⟨G',O,k,fix,D,ρ,B⟩ty hX hG hk hρ hD hi x xs hp=>by
  obtain rfl:G'=G:=hG;obtain rfl:k=1:=hk;obtain rfl:ρ=none:=hρ;obtain rfl:D=[]:=hD;exact h w0 O fix B ty hX hi x xs hp
theorem zzq{ctr:HCtr}{out:ctr.self.T->Args ctr.args->Except zd ctr.res.T}(hK:KnOk P G K)(hf:P.funcs[f]? =some fn)(hlaw:ctr.law)(hen:∀(us:Array zd)(w:zh),(callFunc f us).run P w=.ok (.enter f us) w)(hst:∀w w' R ty,ctr.inv w R ty->G w->Kept R w w'->G w')
  (h:∀(w0:zh)(O:Nat->Prop)(fix:Nat->Nat)(B:Nat->Prop)(ty:zo),(⟨G,O,1,fix,[],none,B⟩:Ownr).Ok w0->ctr.inv w0 (⟨G,O,1,fix,[],none,B⟩:Ownr).R ty->∀(x:ctr.self.T)(xs:Args ctr.args),allP (ctr.pre x xs)->
    AWP P w0 ⟨G,O,1,fix,[],none,B⟩ n c (zjv ctr ty x xs) (λe Y=>zyE K.T fn.results.toList ctr.res e Y (out x xs)))
  (hb:fn.body=some c:=by rfl) (hn:fn.ntmps=n:=by rfl) (hd:zaN ctr.args=true:=by rfl) (hlen:ctr.args.length+1<=n:=by exact zq rfl):zfV P G f ctr out:=
 znn hK hf hb hn hlaw hen hd hlen hst λw0⟨G',O,k,fix,D,ρ,B⟩ty hX hG hk hρ hD hi x xs hp=>by
  obtain rfl:G'=G:=hG;obtain rfl:k=1:=hk;obtain rfl:ρ=none:=hρ;obtain rfl:D=[]:=hD;exact h w0 O fix B ty hX hi x xs hp
theorem ctr2{ctr:Ctr}(hK:KnOk P G K)(hf:P.funcs[f]? =some fn)(hen:∀(us:Array zd)(w:zh),(callFunc f us).run P w=.ok (.enter f us) w)
  (h:∀(w0:zh)(X:Nat->Prop),(jj G X).Ok w0->∀xs:Args ctr.args,allP (ctr.pre xs)->AWP P w0 (jj G X) n c (zju ctr.args xs) (λe Y=>(e=.normal\/e=.ret)/\Done K.T fn.results.toList Y ctr.own ctr.res (ctr.out xs)))
  (hb:fn.body=some c:=by rfl) (hn:fn.ntmps=n:=by rfl) (hd:zaN ctr.args=true:=by rfl) (hlen:ctr.args.length<=n:=by decide) (hnu:ctr.res=.unit->False:=by intro h;cases h):CtrOk P G f ctr:=
 zj9 hK hf hb hn hen hd hlen hnu h
end
section
variable {P:zw}{K:Kn}{w0:zh}{X:Ownr}{n:Nat}{Y:AS}{Q:Exit->AS->Prop}{ops:Array Oper}
theorem zaa(hK:KnOk P X.G K){id:Nat}{r:List Prop×AS}(hq:Q .normal r.2)(hX:X.Ok w0:=by assumption)(hs:aSeq K n ops ops.toList Y=some r:=by rfl)(hp:allP r.1:=by exact z_)(hd:za2 ops.toList=true:=by rfl):AWP P w0 X n (.region id ops false) Y Q:=
 zac hX hK hs hp hq hd
theorem za4(k:Nat)(hK:KnOk P X.G K){l:List Oper}{r:List Prop×AS}(h:AL P w0 X n ops (l.drop k) r.2 Q)(hX:X.Ok w0:=by assumption)(hs:aSeq K n ops (l.take k) Y=some r:=by rfl)(hp:allP r.1:=by exact z_)(hd:za2 (l.take k)=true:=by rfl):AL P w0 X n ops l Y Q:=
 AL.take k hX hK hs hp h hd
theorem zaI(hK:KnOk P X.G K){l:List Oper}{r:List Prop×AS}(hq:Q .normal r.2)(hX:X.Ok w0:=by assumption)(hs:aSeq K n ops l Y=some r:=by rfl)(hp:allP r.1:=by exact z_)(hd:za2 l=true:=by rfl):AL P w0 X n ops l Y Q:=
 AL.all hX hK hs hp hq hd
end
abbrev u8:Ty:=.int .u8
abbrev i64:Ty:=.int .i64
abbrev bs:Ty:=.slice u8
abbrev ints:Ty:=.slice i64
abbrev nd:Ty:=.pair i64 (.pair i64 (.pair i64 (.pair i64 (.pair i64 (.pair i64 (.pair ints (.pair .str .unit)))))))
abbrev tk:Ty:=.pair i64 (.pair i64 (.pair i64 (.pair .str (.pair i64 .unit))))
abbrev ps:Ty:=.pair .str (.pair tk (.pair (.slice nd) (.pair i64 .unit)))
abbrev de:Ty:=.pair .str (.pair (.slice nd) .unit)
abbrev sto:Ty:=.pair i64 (.pair i64 .unit)
abbrev gop:Ty:=.pair .str (.pair i64 .unit)
abbrev lru:Ty:=.pair i64 (.pair i64 (.pair .bool .unit))
abbrev cal:Ty:=.pair i64 (.pair ints (.pair i64 (.pair (.slice lru) .unit)))
abbrev lims:Ty:=.pair i64 (.pair i64 .unit)
abbrev shp:Ty:=.pair i64 (.pair .bool (.pair lims .unit))
abbrev mkr:Ty:=.pair ints (.pair i64 (.pair i64 (.pair i64 .unit)))
def gmT:Tbl:=[(3,i64),(4,.bool),(5,u8),(9,.str),(62,bs),(2,i64),(32,i64),(125,i64),(22,ints),(46,nd),(35,.slice nd),(36,.slice nd),(53,de),(47,.slice de),
 (127,tk),(129,ps),(123,sto),(108,gop),(109,.slice gop),(56,lru),(23,.slice lru),(25,cal),(31,.slice cal),(26,.arr 3 cal),
 (99,lims),(101,shp),(102,.arr 19 shp),(72,mkr),(144,.slice .str)]
def gmQ:List zo:=[99]
def gmU:UTbl:=[(62,5),(22,3),(35,46),(36,46),(47,53),(109,108),(23,56),(31,25),(144,9)]
def gmK:Kn:={ T:=gmT,Q:=gmQ,U0:=gmU,C:=[] }
set_option maxRecDepth 100000 in
theorem zeK:TOk Tryz.prog gmT gmQ:=zid (by kernel_rfl) (by kernel_rfl)
theorem zdm:UOk Tryz.prog gmU:=zuR (by kernel_rfl)
def gmG(_:zh):Prop:=True
theorem dM:Tryz.prog.follows .mixedOrders=true:=by kernel_rfl
theorem vI64{x y:Int}(h:x=y):(⟨i64,x⟩:V)=⟨i64,y⟩:=by rw[h]
theorem zcH{x y:Bool}(h:x=y):(⟨.bool,x⟩:V)=⟨.bool,y⟩:=by rw[h]
theorem zcR(a b:Bool):(bif a then b else false)=(a&&b):=by cases a<;>rfl
theorem b_or(a b:Bool):(bif a then true else b)=(a||b):=by cases a<;>rfl
theorem zaY{α:Type}{l:List α}{k:Nat}{z:α}(h:k<l.length):l.getD (k:Int).toNat z=l[k]:=by
 rw[Int.toNat_natCast,List.getD_eq_getElem?_getD,List.getElem?_eq_getElem h];rfl
end Go.Proofs.YthbecdbmifchiaaGreatDoor
