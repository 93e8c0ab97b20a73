/-
  Texts of this claim, joined: what the statement's proof uses.
-/
import Derived.Test.YtpeaigpfddalcaaGreatDoorLB
set_option linter.unusedSimpArgs false
set_option linter.unusedVariables false
set_option maxRecDepth 100000
open Array renaming getD_eq_getD_getElem? -> zN,getElem?_append -> qF,getElem?_eq_getElem -> yj,getElem?_eq_some_iff -> zo,getElem_modify_self -> vY,replicate -> zx,size_modify -> kg
open Bool renaming and_eq_true -> zd,eq_iff_iff -> yu,false_eq_true -> yw
open Go renaming FuncId -> zP,Operand -> zG,Program -> zy,ResultVar -> qh,TypeId -> zp,Value -> zh,World -> zj
open Go.ByteArray renaming toList_eq -> xA
open Go.Calls renaming mono -> kI
open Go.Deferred renaming ofValue -> vg
open Go.Exit renaming thenS -> vj
open Go.Fence renaming wide -> yA
open Go.Instr renaming extract -> jO,lookup -> kJ,makeInterface -> kW
open Go.Lib renaming byteCells -> k6,decDigits -> yq,indexByte -> xi,parseUintM -> kR
open Go.Operand renaming tmp -> uW
open Go.Proofs.YtpeaigpfddalcaaGreatDoor renaming CtrOk -> yM,Frame -> yv,Keeps -> xk,OwnRep -> yc,StepA -> ke
open Go.Proofs.YtpeaigpfddalcaaGreatDoor.AL renaming all -> zV,fit -> qC,hand -> qE,nil -> yf,own -> ym,step -> jH,take -> yh
open Go.Proofs.YtpeaigpfddalcaaGreatDoor.AWP renaming go -> za,loop -> yU,ret -> zq
open Go.Proofs.YtpeaigpfddalcaaGreatDoor.Frame renaming get -> zn,kill -> xm
open Go.Proofs.YtpeaigpfddalcaaGreatDoor.Kept renaming refl -> jF
open Go.Proofs.YtpeaigpfddalcaaGreatDoor.OpEq renaming refl -> xz
open Go.Proofs.YtpeaigpfddalcaaGreatDoor.Ownr renaming plain -> ql,plain_noR -> jA
open Go.Proofs.YtpeaigpfddalcaaGreatDoor.Owns renaming get -> zl
open Go.Proofs.YtpeaigpfddalcaaGreatDoor.RepV renaming keep -> yn
open Go.Proofs.YtpeaigpfddalcaaGreatDoor.StepA renaming hand -> vh
open Go.Proofs.YtpeaigpfddalcaaGreatDoor.Tok renaming cls -> zK,n -> xX,text -> zL
open Go.Region renaming wanted -> zD
open Go.RowKit renaming Below -> yO
open Go.RowKit.Below renaming heap_setCell -> xp,refl -> zO
open Go.Value renaming int -> yF,pointer -> yk,string -> jc
open Go.World renaming alloc_heap_new -> xn,cell? -> xB,freeze -> qP,var? -> wg
open Int renaming le_refl -> xC,natCast_nonneg -> zi,toNat_natCast -> zH
open List renaming all_eq_true -> zT,append_assoc -> zs,append_nil -> zI,drop -> jC,getD_eq_getElem?_getD -> zQ,getElem?_eq_getElem -> yd,getElem?_map -> yy,length -> zg,length_append -> zf,length_cons -> zt,length_drop -> xc,length_take -> yT,map_cons -> qt,mem_cons_self -> zR,mem_singleton -> zu,singleton_inj -> vR,takeWhile_cons -> jN,takeWhile_prefix -> jp
open Nat renaming beq -> zW,ble -> qe,blt -> zU,le_of_ble_eq_true -> zb,le_refl -> zk,le_trans -> zE,lt_succ_self -> yR,not_lt_zero -> xr,zero_le -> zm
open Option renaming bind_some -> jE,map_eq_some_iff -> zM
open Option.some renaming inj -> ya
open UInt8 renaming le_iff_toNat_le -> yY,toNat_inj -> je
open Go Go.RowKit
namespace Go.Proofs.YtpeaigpfddalcaaGreatDoor
theorem zcu {x y:Bool} (h:x=y):(⟨.bool,x⟩:V)=⟨.bool,y⟩:=by rw[h]
theorem zc2 (a b:Bool):(bif a then b else false)=(a&&b):=by cases a<;>rfl
theorem b_or (a b:Bool):(bif a then true else b)=(a||b):=by cases a<;>rfl
theorem za1 {α:Type} {l:List α} {k:Nat} {z:α} (h:k < l.length):l.getD (k:Int).toNat z=l[k]:=by
 rw[zH,zQ,yd h];rfl
theorem zfP {t:Ty} {x y:t.T} (h:x=y):some (OObj.box t x)=some (OObj.box t y):=by rw[h]
theorem zaH:KnOk Tryz.prog gmG gmK:=⟨zhx,zhw,CsOk.nil,fun _ _ _ _=>trivial,RsOk.nil⟩
theorem RepV.anyβ {w:zj} {O:Nat->Prop} {β β':Nat->zh}:∀ (t:Ty) (x:t.T) (v:zh),bnd t x=0->RepV w O β t x v->RepV w O β' t x v:=by
 intro t
 induction t with
 |optr t _=>intro x v hb;cases hb
 |obuf t _=>intro x v hb;cases hb
 |hptr=>intro x v hb;cases hb
 |hcons a b iha ihb=>
  rintro x v hb ⟨u,s,h1,h2,h3,h4⟩;have hb:max (bnd a x.1) (bnd b x.2)=0:=hb;exact⟨u,s,h1,h2,iha _ _ (by omega) h3,ihb _ _ (by omega) h4⟩
 |cond t ih=>intro x v hb h;exact⟨fun hc=>ih _ _ hb (h.1 hc),h.2⟩
 |_=>intro x v hb h;exact h
theorem RepH.anyβ {w:zj} {O:Nat->Prop} {β β':Nat->zh}:∀ {vs:List V} {cs:List zh},(∀ v∈vs,v.bound=0)->RepH w O β vs cs->RepH w O β' vs cs
 | [],_,_,h=>h
 |v::r,_,hb,⟨u,s,h1,h2,h3,h4⟩=>⟨u,s,h1,h2,RepV.anyβ _ _ _ (hb v (by simp)) h3,RepH.anyβ (fun y hy=>hb y (by simp[hy])) h4⟩
def OObj.bare:OObj->Bool
 | .hbox _ vs=>vs.all fun v=>zW v.bound 0
 |_=>true
theorem OwnRep.anyβ {w:zj} {O:Nat->Prop} {β β':Nat->zh} {B:Nat} {bv:zh} {o:OObj} (hb:o.bare=true) (h:yc w O β B bv o):yc w O β' B bv o:=by
 cases o with
 |box t x=>exact h
 |buf te t xs=>exact h
 |hbox ty vs=>
  obtain⟨g,cs,e,h1,h2,h3⟩:=h;have hb:(vs.all fun v=>zW v.bound 0)=true:=hb;exact⟨g,cs,e,h1,h2,h3.anyβ fun v hv=>by have:=zT.1 hb v hv;simpa using this⟩
theorem OObj.bare_under {o:OObj} (hb:o.bare=true) (k:Nat):o.under k:=by
 intro vs e v hv;cases o with
 |box t x=>cases e
 |buf te t xs=>cases e
 |hbox ty ws=>
  have e:ws=vs:=ya e;subst e;have hb:(ws.all fun v=>zW v.bound 0)=true:=hb;have:=zT.1 hb v hv;have:v.bound=0:=by simpa using this
  omega
structure FCtr where
 args:List Ty
 pre:Args args->List Prop
 obj:Args args->OObj
def zmM (P:zy) (G:zj->Prop) (f:zP) (c:FCtr):Prop:=
 (∀ (zas:Array zh) (w:zj),(callFunc f zas).run P w= .ok (.enter f zas) w)∧
 ∀ (w:zj) (O:Nat->Prop) (xs:Args c.args) (vs:List zh),(∀ g,O g->g < w.heap.size)->RepA w O c.args xs vs->allP (c.pre xs)->G w->
  Calls P f vs.toArray w fun e w'=>∃ g,e= .returned (.pointer (some ⟨g,0,none⟩))∧yO w.heap.size w w'∧w.heap.size≤g∧∀ (O':Nat->Prop) (β:Nat->zh),(∀ h,O' h->O h∨h=g)->yc w' O' β 0 (.pointer (some ⟨g,0,none⟩)) (c.obj xs)
def zqC (i:Nat):OObj->V
 | .box t _=>⟨.optr t,⟨i,t,.here⟩⟩
 |_=>⟨.hptr,(i,(0:Nat))⟩
def FDone (rs:List qh) (σ:AS) (o:OObj):Prop:=∃ s i,rs=[.tmp s]∧zn σ.F s=zqC i o∧zl σ.E i=some o
section
variable {P:zy} {K:Kn} {n:Nat}
theorem zlu {G:zj->Prop} (hK:KnOk P G K) {f:zP} {fn:Func} {c:Code} {ctr:FCtr} (hf:P.funcs[f]? =some fn) (hb:fn.body=some c) (hn:fn.ntmps=n)
  (hen:∀ (zas:Array zh) (w:zj),(callFunc f zas).run P w= .ok (.enter f zas) w) (hd:za6 ctr.args=true) (hlen:ctr.args.length≤n) (hbare:∀ xs,(ctr.obj xs).bare=true∧(ctr.obj xs).isBuf=false)
  (h:∀ (w0:zj) (X:Nat->Prop),(ql G X).Ok w0->∀ xs:Args ctr.args,allP (ctr.pre xs)->AWP P w0 (ql G X) n c (znt ctr.args xs) (fun e σ=>(e= .normal∨e= .ret)∧FDone fn.results.toList σ (ctr.obj xs))):zmM P G f ctr:=by
 refine⟨hen,fun w O xs vs hO hrep hp hG=>calls_of_wp hf hb ?_⟩;have hvl:=zfs _ _ _ hrep
 let X:Ownr:=ql G O
 have hXR:∀ g,¬ X.R g:=jA _ _;have hX:X.Ok w:=⟨fun g hg=>⟨hO g hg,hXR g⟩,fun g hg=>(hXR g hg).elim,fun w' hk=>hK.st w w' hG (hk.below hXR)⟩;have hsim:Sim w X n (znt ctr.args xs) (fun _=>undef) { tmps:=vs.toArray++zx (fn.ntmps - vs.toArray.size) undef,defers:=[] } w:=by
  have hE:OSet X (znt ctr.args xs).E (fun _=>undef)=O:=by
   funext g
   apply propext;constructor
   ·rintro (h|⟨i,o,h,_⟩)
    ·exact h
    ·cases h
   ·exact fun h=>.inl h
  refine⟨by simp[hn,hvl];omega,rfl,jF _ _,fun s=>?_,fun i o h=>(by cases h),fun i o g h=>(by cases h),fun i j oi oj h=>(by cases h),fun i o h=>(by cases h),⟨zm _,fun i h=>(by cases h)⟩,fun s=>?_,fun i o h=>(by cases h)⟩
  ·rw[hE];have:=zel (β:=fun _=>undef) ctr.args xs vs [] (List.replicate (fn.ntmps - vs.length) undef) hd hrep s;simp only[List.nil_append,List.length_nil]at this;have e:(vs.toArray++zx (fn.ntmps - vs.toArray.size) undef)=(vs++List.replicate (fn.ntmps - vs.length) undef).toArray:=by simp
   show RepV w O _ _ _ ((vs.toArray++zx (fn.ntmps - vs.toArray.size) undef).getD s undef);rw[e];exact this
  ·show (zn (zdA ctr.args xs 0) s).bound≤0;rw[zdj _ _ _ _ hd];exact zk _
 refine wp_mono (wpIn_wide.1 (h w O hX xs hp _ _ _ hsim)) fun e a' w' ⟨σ',β',h1,h2,s,i,hrs,hs,hi⟩=>?_;have hb:=h1.bel.below hXR;have hown:=h1.own i _ hi;obtain⟨g,hg⟩:∃ g,β' i= .pointer (some ⟨g,0,none⟩):=by
  cases ho:ctr.obj xs with
  |buf te t ys=>have:=(hbare xs).2;rw[ho]at this;cases this
  |box t x=>rw[ho]at hown;obtain⟨g,_,_,e,_⟩:=hown;exact⟨g,e⟩
  |hbox ty ys=>rw[ho]at hown;obtain⟨g,_,e,_⟩:=hown;exact⟨g,e⟩
 have hv:a'.tmps.getD s undef= .pointer (some ⟨g,0,none⟩):=by
  have hf:=h1.fr s;rw[hs]at hf;have hbg:zah (β' i)=some g:=by rw[hg];rfl
  cases ho:ctr.obj xs with
  |buf te t ys=>have:=(hbare xs).2;rw[ho]at this;cases this
  |box t x=>
   rw[ho]at hf;obtain⟨g',e1,e2⟩:=hf;have e1:zah (β' i)=some g':=e1;rw[hbg]at e1;cases e1;exact e2
  |hbox ty ys=>
   rw[ho]at hf;obtain⟨g',e1,e2⟩:=hf;have e1:zah (β' i)=some g':=e1;rw[hbg]at e1;cases e1;exact e2
 have hres:(results fn a'.tmps).run P w'= .ok (.pointer (some ⟨g,0,none⟩)) w':=by
  rw[zik];have hm:(fn.results.mapM (resM a'.tmps)).run P w'= .ok [a'.tmps.getD s undef].toArray w':=by
   rw[Array.mapM_eq_mapM_toList,hrs];simp[resM]
  rw[Sem.run_bind,hm,hv];simp
 have hng:w.heap.size≤g:=by
  rcases h1.new i _ g hi (by rw[hg];rfl) with h3|h3
  ·exact h3
  ·exact (hXR g h3).elim
 have hfin:∀ (O':Nat->Prop) (β:Nat->zh),(∀ h,O' h->O h∨h=g)->yc w' O' β 0 (.pointer (some ⟨g,0,none⟩)) (ctr.obj xs):=fun O' β hO'=>by
  rw[hg]at hown;refine OwnRep.anyβ (hbare xs).1 (hown.keep ⟨zk _,fun _ _ _=>rfl,fun k _ hk=>?_⟩ fun _ _=>rfl);rcases hO' k hk with h3|rfl
  ·exact .inl h3
  ·exact .inr ⟨i,_,hi,by rw[hg];rfl⟩
 rcases h2 with rfl|rfl
 ·exact⟨h1.df,_,hres,g,rfl,hb,hng,hfin⟩
 ·exact⟨h1.df,_,hres,g,rfl,hb,hng,hfin⟩
end
section
variable {P:zy} {K:Kn} {w0:zj} {X:Ownr} {n:Nat} {σ:AS} {Q:Exit->AS->Prop} {ops:Array Oper}
theorem AL.step1 {o:Oper} {rest:List Oper} (hnd:∀ c,o.op≠ .defer c) (h:ke P w0 X n ops o σ (fun s=>AL P w0 X n ops rest s Q) Q):AL P w0 X n ops (o::rest) σ Q:=by
 intro β a w hsim;have h0:=h β a w (fun a' w'=>wpListIn (zea X.ρ) 0 P ops (fun e a' w'=>e≠ .outgrown∧∃ σ' β',Sim w0 X n σ' β' a' w'∧Q e σ') rest a' w') (fun e a' w'=>e≠ .outgrown∧∃ σ' β',Sim w0 X n σ' β' a' w'∧Q e σ') hsim (fun σ' β' a' w' hs hN=>hN β' a' w' hs) (fun e σ' β' a' w' he hs hq=>⟨he,σ',β',hs,hq⟩);show if zD o (yielded ops a.tmps)=true then _ else _
 split at h0
 ·rename_i hw;rw[if_pos hw];rcases h0 with h0|⟨_,_,_,h0,_⟩
  ·exact zcp hnd h0
  ·exact absurd rfl h0
 ·rename_i hw;rw[if_neg hw];exact⟨fun f _=>zey _ f,h0⟩
theorem StepA.fresh (hX:X.Ok w0) {o:Oper} {f:zP} {c:FCtr} (hc:zmM P X.G f c) {args:Array zG} {ts:Array zp} (ho:o.op= .call ⟨.value (.func f),args,ts⟩) {zas:List zG} (hargs:args.toList=zas) (hgd:o.guard=none)
  {F:yv} {E:Owns} {nx:Nat} (hσ:frzs σ zas=⟨F,E,nx⟩) (hd:za6 c.args=true) {q:List Prop} {xs:Args c.args} (hav:zew E false (zas.map (evO F)) c.args=some (q,xs)) (hq:allP q) (hpre:allP (c.pre xs))
  (hbare:(c.obj xs).bare=true∧(c.obj xs).isBuf=false) {d:Nat} (hdst:o.dst=some d) (hdn:zU d n=true) {N:AS->Prop} (h:N ⟨(d,zqC nx (c.obj xs))::F,(nx,some (c.obj xs))::E,nx+1⟩):ke P w0 X n ops o σ N Q:=by
 refine vh hgd fun β a w hs=>?_;have h1:=hs.frzs hX zas;rw[hσ]at h1;obtain⟨hen,hcall⟩:=hc;have hvs:RepVs w (OSet X E β) β (zas.map (evO F)) (zas.map a.eval):=by
  refine⟨by simp,fun i v hv=>?_⟩;rw[yy]at hv;obtain⟨z,hz,rfl⟩:=zM.1 hv;exact⟨a.eval z,by rw[yy,hz];rfl,h1.ops z⟩
 have ha:=zdP (B:=0) h1.own hd hav hq hvs.2 hvs.1;have ha:RepA w (OSet X E β) c.args xs (zas.map a.eval):=by
  have e:(fun k=>false=false∧OSet X E β k)=OSet X E β:=by funext k;simp
  rwa[e]at ha
 refine zgF ho hen ?_;rw[hargs];refine (hcall w _ xs _ (fun k hk=>h1.hO hX k hk) ha hpre (hX.2.2 w h1.bel)).mono fun e w' ⟨g,he,hb,hng,hown⟩=>?_;refine⟨_,he,?_⟩;have hlt:d < n:=by simpa using hdn
 rw[hdst];obtain⟨β',h2⟩:=h1.make hX hb (bv:=.pointer (some ⟨g,0,none⟩)) (o:=c.obj xs) (fun O β' hO=>hown O β' fun k hk=>(hO k hk).imp id fun e=>(ya e).symm) (fun k hk=>by
  have:g=k:=by simpa [zah] using hk
  omega) (v:=zqC nx (c.obj xs)) (u:=.pointer (some ⟨g,0,none⟩)) (fun O β' hβ=>by
   have hbg:zah (β' nx)=some g:=by rw[show β' nx=_ from hβ];rfl
   cases ho:c.obj xs with
   |buf te t ys=>have:=hbare.2;rw[ho]at this;cases this
   |box t x=>exact⟨g,hbg,rfl⟩
   |hbox ty ys=>exact⟨g,hbg,rfl⟩) (by
   cases ho:c.obj xs with
   |buf te t ys=>have:=hbare.2;rw[ho]at this;cases this
   |box t x=>exact zk _
   |hbox ty ys=>exact zk _) hlt (OObj.bare_under hbare.1 _)
 exact⟨_,β',h2,h⟩
theorem AL.fresh (hX:X.Ok w0) {o:Oper} {rest:List Oper} {f:zP} {c:FCtr} (hc:zmM P X.G f c) {args:Array zG} {ts:Array zp} (ho:o.op= .call ⟨.value (.func f),args,ts⟩) {zas:List zG} (hargs:args.toList=zas) (hgd:o.guard=none)
  {F:yv} {E:Owns} {nx:Nat} (hσ:frzs σ zas=⟨F,E,nx⟩) (hd:za6 c.args=true) {q:List Prop} {xs:Args c.args} (hav:zew E false (zas.map (evO F)) c.args=some (q,xs)) (hq:allP q) (hpre:allP (c.pre xs))
  (hbare:(c.obj xs).bare=true∧(c.obj xs).isBuf=false) {d:Nat} (hdst:o.dst=some d) (hdn:zU d n=true) (h:AL P w0 X n ops rest ⟨(d,zqC nx (c.obj xs))::F,(nx,some (c.obj xs))::E,nx+1⟩ Q):AL P w0 X n ops (o::rest) σ Q:=
 AL.step1 (fun c e=>by rw[ho]at e;cases e) (StepA.fresh hX hc ho hargs hgd hσ hd hav hq hpre hbare hdst hdn h)
end
def LEnd (c:HCtr) (w w':zj) (O:Nat->Prop) (e:Ending):Except zh c.res.T->Prop
 | .ok y=>∃ v,e= .returned v∧(c.res= .unit∨zdq w' O w.heap.size none c.res y v)
 | .error pv=>e= .panicked [{ v:=pv,recovered:=false }]
def zfS (P:zy) (G:zj->Prop) (f:zP) (c:HCtr) (out:c.self.T->Args c.args->Except zh c.res.T):Prop:=
 (∀ (zas:Array zh) (w:zj),(callFunc f zas).run P w= .ok (.enter f zas) w)∧c.law∧
 ∀ (w:zj) (O:Nat->Prop) (g:Nat) (cs:List zh) (ty:zp) (x:c.self.T) (xs:Args c.args) (vs:List zh) (b:zh),(∀ h,O h->h < w.heap.size∧h≠g∧zah b≠some h)->zah b≠some g->w.heap[g]? =some (.cells cs.toArray ty (0,0))->
  RepH w (zbM O g b) (zc1 g b) (c.lv 0 1 x) cs->yc w (zbM O g b) (zc1 g b) 0 b (.buf c.te c.et (c.sl x))->RepA w (zbM O g b) c.args xs vs->allP (c.pre x xs)->c.inv w (fun h=>h=g∨zah b=some h) ty->G w->
  Calls P f (yk (some ⟨g,0,none⟩)::vs).toArray w fun e w'=>Kept (fun h=>h=g∨zah b=some h) w w'∧LEnd c w w' O e (out x xs)
def LDone (T:Tbl) (rs:List qh) (t:Ty) (e:Exit) (σ:AS):Except zh t.T->Prop
 | .ok y=>(e= .normal∨e= .ret)∧Done T rs ⟨σ.F,zfa [] σ.E,σ.nx⟩ none t y
 | .error pv=>e= .panic [{ v:=pv,recovered:=false }]
section
variable {P:zy} {K:Kn} {n:Nat}
theorem zhr {G:zj->Prop} (hK:KnOk P G K) {f:zP} {fn:Func} {c:Code} {ctr:HCtr} {out:ctr.self.T->Args ctr.args->Except zh ctr.res.T} (hf:P.funcs[f]? =some fn) (hb:fn.body=some c) (hn:fn.ntmps=n) (hlaw:ctr.law)
  (hen:∀ (zas:Array zh) (w:zj),(callFunc f zas).run P w= .ok (.enter f zas) w) (hd:za6 ctr.args=true) (hlen:ctr.args.length+1≤n) (hst:∀ w w' R ty,ctr.inv w R ty->G w->Kept R w w'->G w')
  (h:∀ (w0:zj) (X:Ownr) (ty:zp),X.Ok w0->X.G=G->X.K=1->X.ρ=none->X.D=[]->ctr.inv w0 X.R ty->∀ (x:ctr.self.T) (xs:Args ctr.args),allP (ctr.pre x xs)->
    AWP P w0 X n c (zku ctr ty x xs) (fun e σ=>LDone K.T fn.results.toList ctr.res e σ (out x xs))):zfS P G f ctr out:=by
 refine⟨hen,hlaw,fun w O g cs ty x xs vs b hO hgb hg hx hbuf hrep hp hinv hG=>calls_of_wp hf hb ?_⟩;obtain⟨X,hXd,hX,hXR,hsim⟩:=ztf (ctr:=ctr) (G:=G) hn hlaw hd hlen hst hO hgb hg hx hbuf hrep hinv hG;have hXX:X.X=O:=by rw[hXd]
 have hinv':ctr.inv w X.R ty:=by
  rw[show X.R=fun h=>h=g∨zah b=some h from funext fun h=>propext (hXR h)];exact hinv
 have hw:=h w X ty hX (by rw[hXd]) (by rw[hXd]) (by rw[hXd]) (by rw[hXd]) hinv' x xs hp _ _ _ hsim;rw[show X.ρ=none by rw[hXd]]at hw;refine wp_mono (wpIn_wide.1 hw) fun e a' w' ⟨σ',β',h1,h2⟩=>?_;have hbk:Kept (fun h=>h=g∨zah b=some h) w w':=⟨h1.bel.os,h1.bel.tape,h1.bel.output,h1.bel.size,fun k hk hr=>h1.bel.block k hk fun hr'=>hr ((hXR k).1 hr')⟩;have hdf:a'.defers=[]:=by rw[h1.df,hXd]
 revert h2;cases ho:out x xs with
 |error pv=>
  rintro rfl;exact⟨hdf,hbk,rfl⟩
 |ok y=>
  rintro ⟨h2,h3⟩;obtain⟨v,h4,h5⟩:=zhJ (X:=X) (by rw[show X.G=G by rw[hXd]];exact hK) hX h1 [] h3 (O':=O) (fun k hk=>.inl (by rw[hXX];exact hk));rcases h2 with rfl|rfl
  ·exact⟨hdf,v,h4,hbk,v,rfl,h5⟩
  ·exact⟨hdf,v,h4,hbk,v,rfl,h5⟩
end
section
variable {P:zy} {K:Kn} {w0:zj} {X:Ownr} {n:Nat} {σ:AS} {Q:Exit->AS->Prop} {ops:Array Oper}
theorem StepA.give (hX:X.Ok w0) {o:Oper} {f:zP} {c:HCtr} {out:c.self.T->Args c.args->Except zh c.res.T} (hc:zfS P X.G f c out) {args:Array zG} {ts:Array zp} {a0:zG} {zas:List zG} (ho:o.op= .call ⟨.value (.func f),args,ts⟩) (hargs:args.toList=a0::zas) (hgd:o.guard=none)
  {F:yv} {E:Owns} {nx:Nat} (hσ:frzs σ zas=⟨F,E,nx⟩) {i:Nat} (hev:evO F a0=⟨.hptr,(i,(0:Nat))⟩) {ty:zp} {vs:List V} (hbox:zl E i=some (.hbox ty vs)) {et:Ty} {j:Nat} (hk:vs[c.k]? =some ⟨.obuf et,j⟩) {xsl:List c.et.T} (hbuf:zl E j=some (.buf c.te c.et xsl))
  {x:c.self.T} (hun:unD c.self ((c.back i vs).set c.k ⟨.slice c.et,xsl⟩)=some (x,[])) (hd:za6 c.args=true) (hfl:c.res.resOk=true)
  {q:List Prop} {xs:Args c.args} (hav:zew E false (zas.map (evO F)) c.args=some (q,xs)) (hq:allP q) (hpre:allP (c.pre x xs)) (hinv:∀ w R,(∀ g,R g->w0.heap.size≤g∨X.R g)->X.G w->c.inv w R ty) {d:Nat} (hdst:o.dst=some d) (hdn:zU d n=true)
  {N:AS->Prop} (h:match out x xs with
   | .ok y=>N ⟨(d,resV c.res y)::F,(i,none)::(j,none)::E,nx⟩
   | .error pv=>Q (.panic [{ v:=pv,recovered:=false }]) ⟨F,(i,none)::(j,none)::E,nx⟩):ke P w0 X n ops o σ N Q:=by
 refine vh hgd fun β a w hs=>?_;have h1:=hs.frzs hX zas;rw[hσ]at h1;obtain⟨hen,hlaw,hcall⟩:=hc;have hunH:unH c i vs E x:=⟨et,j,xsl,hk,hbuf,hun⟩;have hsl:xsl=c.sl x:=by
  obtain⟨et',j',k1,k2,_,_⟩:=zfj hlaw hunH;rw[hk]at k1;cases k1;rw[hbuf]at k2;cases k2;rfl
 subst hsl;have hv:=h1.ops a0;rw[show evO (AS.mk F E nx).F a0=_ from hev]at hv;obtain⟨g,hg1,hg2⟩:=hv;obtain⟨g',cs,e1,_,e3,e4⟩:=h1.own _ _ hbox;have hgg:g'=g:=by
  have hg1:zah (β i)=some g:=hg1;rw[e1]at hg1
  simpa [zah] using hg1
 subst hgg;have hij:i≠j:=fun e=>by rw[e,hbuf]at hbox;cases hbox
 have hbj:=h1.own _ _ hbuf;have hOg:OSet X E β g':=.inr ⟨_,_,hbox,by rw[e1];rfl⟩;have hgb:zah (β j)≠some g':=h1.inj i j _ _ hbox hbuf hij g' (by rw[e1];rfl);obtain⟨O,hO⟩:∃ O:Nat->Prop,O=fun k=>OSet X E β k∧k≠g'∧zah (β j)≠some k:=⟨_,rfl⟩;have hset:zbM O g' (β j)=OSet X E β:=by
  funext k
  apply propext;rw[hO];constructor
  ·rintro ((hk|rfl)|hk)
   ·exact hk.1
   ·exact hOg
   ·exact .inr ⟨j,_,hbuf,hk⟩
  ·intro hk;by_cases e:k=g'
   ·exact .inl (.inr e)
   ·by_cases e':zah (β j)=some k
    ·exact .inr e'
    ·exact .inl (.inl ⟨hk,e,e'⟩)
 have hvs:RepVs w (OSet X E β) β (zas.map (evO F)) (zas.map a.eval):=by
  refine⟨by simp,fun i v hv=>?_⟩;rw[yy]at hv;obtain⟨z,hz,rfl⟩:=zM.1 hv;exact⟨a.eval z,by rw[yy,hz];rfl,h1.ops z⟩
 have ha:=zdP (B:=0) h1.own hd hav hq hvs.2 hvs.1;have ha:RepA w (zbM O g' (β j)) c.args xs (zas.map a.eval):=by
  rw[hset];have e:(fun k=>false=false∧OSet X E β k)=OSet X E β:=by funext k;simp
  rwa[e]at ha
 have hK0:xk w w (OSet X E β) (zbM O g' (β j)):=by rw[hset];exact Keeps.refl _ _
 have hlv:RepH w (zbM O g' (β j)) (zc1 g' (β j)) (c.lv 0 1 x) cs:=RepH.toLv hlaw hK0 hunH e4 (fun j' et' hj'=>by
  rw[hk]at hj';cases hj';rfl) (by rw[e1];rfl)
 have hbuf2:yc w (zbM O g' (β j)) (zc1 g' (β j)) 0 (β j) (.buf c.te c.et (c.sl x)):=hbj.keep hK0 fun _ _=>rfl;have hOk:∀ k,O k->k < w.heap.size∧k≠g'∧zah (β j)≠some k:=fun k hk=>by
  rw[hO]at hk;exact⟨h1.hO hX k hk.1,hk.2⟩
 have hR:∀ k,(k=g'∨zah (β j)=some k)->w0.heap.size≤k∨X.R k:=fun k hk=>by
  rcases hk with rfl|hk
  ·exact h1.new _ _ k hbox (by rw[e1];rfl)
  ·exact h1.new _ _ k hbuf hk
 have hcl:=hcall w O g' cs ty x xs _ (β j) hOk hgb e3 hlv hbuf2 ha hpre (hinv w _ hR (hX.2.2 w h1.bel)) (hX.2.2 w h1.bel);have hrun:(execOp a.eval o).run P w= .ok (.enter f (yk (some ⟨g',0,none⟩)::zas.map a.eval).toArray) w:=by
  have em:args.map a.eval++ #[]=(yk (some ⟨g',0,none⟩)::zas.map a.eval).toArray:=by
   rw[<-zdH,hargs,qt,hg2];simp
  have hx:a.eval (.func f)= .func (.func f) #[] #[]:=rfl;rw[<-em];unfold execOp;simp[ho,resolve,invoke,vg,hx,hen]
 unfold Oper.wp;rw[hrun];refine hcl.mono fun e w' hr=>?_;obtain⟨hkp,hr⟩:=hr;have hl2:=h1.lose2 (w':=w') hbox hbuf ⟨hkp.os,hkp.tape,hkp.output,hkp.size,fun k hkl hn=>hkp.block k hkl fun hk=>hn (hk.elim (fun e=>.inl (by rw[e1,e];rfl)) .inr)⟩;revert hr h;cases out x xs with
 |error pv=>
  intro h;rintro rfl;exact⟨fun e=>(by cases e),_,β,hl2,h⟩
 |ok y=>
  intro h;rintro ⟨v,rfl,hres⟩;have hlt:d < n:=by simpa using hdn
  have hkp2:xk w' w' O (OSet X ((i,none)::(j,none)::E) β):=⟨zk _,fun _ _ _=>rfl,fun k _ hk2=>by
   rw[hO];rcases hk2 with hk2|⟨m,om,hm,hbm⟩
   ·have h3:=hX.1 k hk2;refine⟨.inl hk2,fun e=>?_,fun e=>?_⟩
    ·rcases hR k (.inl e) with h4|h4
     ·omega
     ·exact h3.2 h4
    ·rcases hR k (.inr e) with h4|h4
     ·omega
     ·exact h3.2 h4
   ·rw[zag,zag]at hm;by_cases him:i=m
    ·rw[if_pos him]at hm;cases hm
    ·rw[if_neg him]at hm;by_cases hjm:j=m
     ·rw[if_pos hjm]at hm;cases hm
     ·rw[if_neg hjm]at hm;refine⟨.inr ⟨m,om,hm,hbm⟩,fun e=>?_,fun e=>?_⟩
      ·exact h1.inj i m _ om hbox hm him k (by rw[e1,e];rfl) hbm
      ·exact h1.inj j m _ om hbuf hm hjm k e hbm⟩
  show ∃ σ' β',Sim w0 X n σ' β' (a.put o.dst v) w'∧_;rw[hdst];exact⟨_,β,hl2.put (zO _ _) (yn hkp2 _ _ _ (zg6 (β:=β) _ hfl hres)) (ze4 _ hfl _) hlt,h⟩
theorem AL.give (hX:X.Ok w0) {o:Oper} {rest:List Oper} {f:zP} {c:HCtr} {out:c.self.T->Args c.args->Except zh c.res.T} (hc:zfS P X.G f c out) {args:Array zG} {ts:Array zp} {a0:zG} {zas:List zG} (ho:o.op= .call ⟨.value (.func f),args,ts⟩) (hargs:args.toList=a0::zas) (hgd:o.guard=none)
  {F:yv} {E:Owns} {nx:Nat} (hσ:frzs σ zas=⟨F,E,nx⟩) {i:Nat} (hev:evO F a0=⟨.hptr,(i,(0:Nat))⟩) {ty:zp} {vs:List V} (hbox:zl E i=some (.hbox ty vs)) {et:Ty} {j:Nat} (hk:vs[c.k]? =some ⟨.obuf et,j⟩) {xsl:List c.et.T} (hbuf:zl E j=some (.buf c.te c.et xsl))
  {x:c.self.T} (hun:unD c.self ((c.back i vs).set c.k ⟨.slice c.et,xsl⟩)=some (x,[])) (hd:za6 c.args=true) (hfl:c.res.resOk=true)
  {q:List Prop} {xs:Args c.args} (hav:zew E false (zas.map (evO F)) c.args=some (q,xs)) (hq:allP q) (hpre:allP (c.pre x xs)) (hinv:∀ w R,(∀ g,R g->w0.heap.size≤g∨X.R g)->X.G w->c.inv w R ty) {d:Nat} (hdst:o.dst=some d) (hdn:zU d n=true)
  (h:match out x xs with
    | .ok y=>AL P w0 X n ops rest ⟨(d,resV c.res y)::F,(i,none)::(j,none)::E,nx⟩ Q
    | .error pv=>Q (.panic [{ v:=pv,recovered:=false }]) ⟨F,(i,none)::(j,none)::E,nx⟩):AL P w0 X n ops (o::rest) σ Q:=
 AL.step1 (fun c e=>by rw[ho]at e;cases e) (StepA.give hX hc ho hargs hgd hσ hev hbox hk hbuf hun hd hfl hav hq hpre hinv hdst hdn h)
theorem zp5 {j s:Nat} {b:Bool} (hd:(ops[j]?).bind (·.dst)=some s) (hs:zn σ.F s=⟨.bool,b⟩) (hsn:zU s n=true) {β:Nat->zh} {a:Act} {w:zj} (hsim:Sim w0 X n σ β a w):yielded ops a.tmps j=some b:=by
 have hv:a.tmps.getD s undef= .bool b:=by
  have h2:=hsim.fr s;rw[hs]at h2;exact RepV.bool h2
 have hsz:s < a.tmps.size:=by rw[hsim.sz];simpa using hsn
 unfold yielded;rw[hd];have:a.tmps[s]? =some (.bool b):=by
  rw[zN,yj hsz]at hv;rw[yj hsz];exact congrArg some hv
 simp[this]
theorem AL.guardT (j s:Nat) (b:Bool) {o:Oper} {rest:List Oper} (hg:o.guard=some (j,b)) (hd:(ops[j]?).bind (·.dst)=some s) (hs:zn σ.F s=⟨.bool,b⟩) (hsn:zU s n=true) (h:AL P w0 X n ops ({ o with guard:=none }::rest) σ Q):AL P w0 X n ops (o::rest) σ Q:=by
 intro β a w hsim;have h1:=h β a w hsim;have hy:=zp5 hd hs hsn hsim;have hw:zD o (yielded ops a.tmps)=true:=by simp[zD,hg,hy]
 have hw':zD { o with guard:=none } (yielded ops a.tmps)=true:=by simp[zD]
 show if zD o (yielded ops a.tmps)=true then _ else _
 have h1:if zD { o with guard:=none } (yielded ops a.tmps)=true then _ else _:=h1
 rw[if_pos hw']at h1;rw[if_pos hw];exact h1
theorem StepA.guardT (j s:Nat) (b:Bool) {o:Oper} {N:AS->Prop} (hg:o.guard=some (j,b)) (hd:(ops[j]?).bind (·.dst)=some s) (hs:zn σ.F s=⟨.bool,b⟩) (hsn:zU s n=true) (h:ke P w0 X n ops { o with guard:=none } σ N Q):ke P w0 X n ops o σ N Q:=by
 intro β a w I R hsim hI hR;have h1:=h β a w I R hsim hI hR;have hy:=zp5 hd hs hsn hsim;have hw:zD o (yielded ops a.tmps)=true:=by simp[zD,hg,hy]
 have hw':zD { o with guard:=none } (yielded ops a.tmps)=true:=by simp[zD]
 show if zD o (yielded ops a.tmps)=true then _ else _
 have h1:if zD { o with guard:=none } (yielded ops a.tmps)=true then _ else _:=h1
 rw[if_pos hw']at h1;rw[if_pos hw];exact h1
theorem AL.guardF (j s:Nat) (b:Bool) (t:Ty) (y:t.T) {o:Oper} {rest:List Oper} (hg:o.guard=some (j,b)) (hd:(ops[j]?).bind (·.dst)=some s) (hs:zn σ.F s=⟨.bool,!b⟩) (hsn:zU s n=true) {d:Nat} (hdst:o.dst=some d) (hdn:zU d n=true) (h:AL P w0 X n ops rest ⟨(d,⟨.cond t,(false,y)⟩)::σ.F,σ.E,σ.nx⟩ Q) (hb:bnd t y=0:=by rfl):AL P w0 X n ops (o::rest) σ Q:=by
 intro β a w hsim;have hy:=zp5 hd hs hsn hsim;have hw:¬ zD o (yielded ops a.tmps)=true:=by simp[zD,hg,hy]
 show if zD o (yielded ops a.tmps)=true then _ else _
 rw[if_neg hw];refine⟨fun f _=>zey _ f,?_⟩;rw[hdst];exact h _ _ _ (hsim.put (zO _ _) (v:=⟨.cond t,(false,y)⟩) ⟨fun h=>(by cases h),fun _=>rfl⟩ (by rw[show V.bound ⟨.cond t,(false,y)⟩=bnd t y from rfl,hb];exact zm _) (by simpa using hdn))
theorem StepA.guardF (j s:Nat) (b:Bool) (t:Ty) (y:t.T) {o:Oper} {N:AS->Prop} (hg:o.guard=some (j,b)) (hd:(ops[j]?).bind (·.dst)=some s) (hs:zn σ.F s=⟨.bool,!b⟩) (hsn:zU s n=true) {d:Nat} (hdst:o.dst=some d) (hdn:zU d n=true) (h:N ⟨(d,⟨.cond t,(false,y)⟩)::σ.F,σ.E,σ.nx⟩) (hb:bnd t y=0:=by rfl):ke P w0 X n ops o σ N Q:=by
 intro β a w I R hsim hI hR;have hy:=zp5 hd hs hsn hsim;have hw:¬ zD o (yielded ops a.tmps)=true:=by simp[zD,hg,hy]
 show if zD o (yielded ops a.tmps)=true then _ else _
 rw[if_neg hw,hdst];exact hI _ β _ _ (hsim.put (zO _ _) (v:=⟨.cond t,(false,y)⟩) ⟨fun h=>(by cases h),fun _=>rfl⟩ (by rw[show V.bound ⟨.cond t,(false,y)⟩=bnd t y from rfl,hb];exact zm _) (by simpa using hdn)) h
theorem AL.ownV (hX:X.Ok w0) {o:Oper} {rest:List Oper} {f:zP} {c:HCtr} (hc:zaC P X.G f c) {y a0:zG} {args:Array zG} {ts:Array zp} (ho:o.op= .call ⟨.value y,args,ts⟩) (hargs:args= #[a0]) (hgd:o.guard=none)
  {F:yv} {E:Owns} {nx:Nat} (hy:evO F y=⟨.lit,.func (.func f) #[] #[]⟩)
  {i:Nat} (hev:evO F a0=⟨.hptr,(i,(0:Nat))⟩) {ty:zp} {vs:List V} (hbox:zl E i=some (.hbox ty vs)) {et:Ty} {j:Nat} (hk:vs[c.k]? =some ⟨.obuf et,j⟩) {xsl:List c.et.T} (hbuf:zl E j=some (.buf c.te c.et xsl))
  {x:c.self.T} (hun:unD c.self ((c.back i vs).set c.k ⟨.slice c.et,xsl⟩)=some (x,[])) (hd:za6 c.args=true) (hfl:c.res.resOk=true)
  {q:List Prop} {xs:Args c.args} (hav:zew E false [] c.args=some (q,xs)) (hq:allP q) (hpre:allP (c.pre x xs)) (hinv:∀ w R,(∀ g,R g->w0.heap.size≤g∨X.R g)->X.G w->c.inv w R ty) {F':c.res.T->yv} (hput:∀ y,putD n o.dst (resV c.res y) (xm j F)=some (F' y))
  (h:zlN (fun y x'=>AL P w0 X n ops rest ⟨F' y,(i,some (.hbox ty (c.lv i j x')))::(j,some (.buf c.te c.et (c.sl x')))::Owns.kill j E,nx⟩ Q) (fun pv=>Q (.panic [{ v:=pv,recovered:=false }]) ⟨F,(i,none)::(j,none)::E,nx⟩) (c.out x xs)):AL P w0 X n ops (o::rest) ⟨F,E,nx⟩ Q:=
 qE hgd (fun c e=>by rw[ho]at e;cases e) (zky hX hc (a0:=a0) (zas:=[]) (fun β a w hs hen=>by
  have h1:a.eval y= .func (.func f) #[] #[]:=by
   have h1:=hs.ops y;rw[show evO (frzs ⟨F,E,nx⟩ []).F y=_ from hy]at h1;exact h1
  unfold execOp;simp[ho,hargs,resolve,invoke,vg,h1,hen]) rfl hev hbox hk hbuf hun hd hfl hav hq hpre hinv hput (N:=fun σ'=>AL P w0 X n ops rest σ' Q) h)
theorem zi0 {t kt et:zp} {kd:TypeDesc} (hu:P.underlying t=some (.map kt et)) (hk:P.underlying kt=some kd) (hp:zcN kd=true) {w:zj} {r ck:Nat} {ms:Array MapEntry} (h:w.heap[r]? =some (.map ms ck)) {key v:zh}
  (hf:zfH kd key (ms.toList.map fun e=>(e.key,e.val))=some (some v)):(kJ t (.map (some r)) key true).run P w= .ok (.tuple #[v,.bool true]) w:=by
 rw[<-zfI kd key ms.toList 0]at hf;obtain⟨o,ho,hf⟩:=zM.1 hf;obtain⟨⟨i,v'⟩,rfl,rfl⟩:=zM.1 hf;simp[kJ,Instr.findKey,run_underlying hu,run_underlying hk,zfZ h,zef _ hk hp,ho]
theorem zg2 {t kt et:zp} {kd:TypeDesc} (hu:P.underlying t=some (.map kt et)) (hk:P.underlying kt=some kd) (hp:zcN kd=true) {w:zj} {r ck:Nat} {ms:Array MapEntry} (h:w.heap[r]? =some (.map ms ck)) {key z:zh}
  (hf:zfH kd key (ms.toList.map fun e=>(e.key,e.val))=some none) (hz:(zeroValue et).run P w= .ok z w):(kJ t (.map (some r)) key true).run P w= .ok (.tuple #[z,.bool false]) w:=by
 rw[<-zfI kd key ms.toList 0]at hf;obtain⟨o,ho,hf⟩:=zM.1 hf;cases o with
 |some x=>cases hf
 |none=>simp[kJ,Instr.findKey,run_underlying hu,run_underlying hk,zfZ h,zef _ hk hp,ho,hz]
theorem zoU {t kt et:zp} {kd:TypeDesc} (hu:P.underlying t=some (.map kt et)) (hk:P.underlying kt=some kd) (hp:zcN kd=true) {o:Oper} {m k:zG} {d:Nat} {es:List (zh×zh)} {key z:zh} (ho:o.op= .lookup t m k true) (hdst:o.dst=some d) (hd:zU d n=true)
  (hm:evO σ.F m=⟨.mapL,es⟩) (hkey:∀ β a w,Sim w0 X n σ β a w->a.eval k=key) (hz:∀ w,(zeroValue et).run P w= .ok z w) {r:Option zh} (hf:zfH kd key es=some r) {N:AS->Prop} (h:N ⟨(d,⟨.lit,.tuple #[r.getD z,.bool r.isSome]⟩)::σ.F,σ.E,σ.nx⟩)
  (β:Nat->zh) (a:Act) (w:zj) (hs:Sim w0 X n σ β a w):o.wp P a w (fun a' w'=>∃ σ' β',Sim w0 X n σ' β' a' w'∧N σ') (fun e a' w'=>e≠ .outgrown∧∃ σ' β',Sim w0 X n σ' β' a' w'∧Q e σ'):=by
 have hd':d < n:=by simpa using hd
 have h1:=hs.ops m;rw[hm]at h1;obtain⟨r0,ms,ck,h2,_,_,h3,h4⟩:=h1;refine zbx (u:=.tuple #[r.getD z,.bool r.isSome]) (w':=w) ?_ ?_
 ·unfold execOp;simp only[ho];rw[h2,hkey β a w hs];cases r with
  |some v=>exact zee (zi0 hu hk hp h3 (by rw[h4];exact hf))
  |none=>exact zee (zg2 hu hk hp h3 (by rw[h4];exact hf) (hz w))
 ·rw[hdst];exact⟨_,β,hs.put (zO _ _) (v:=⟨.lit,.tuple #[r.getD z,.bool r.isSome]⟩) rfl (zm _) hd',h⟩
theorem zpC {o:Oper} {x:zG} {d:Nat} {v b:zh} (ho:o.op= .extract x 0) (hdst:o.dst=some d) (hd:zU d n=true) (hx:evO σ.F x=⟨.lit,.tuple #[v,b]⟩) {N:AS->Prop} (h:N ⟨(d,⟨.lit,v⟩)::σ.F,σ.E,σ.nx⟩)
  (β:Nat->zh) (a:Act) (w:zj) (hs:Sim w0 X n σ β a w):o.wp P a w (fun a' w'=>∃ σ' β',Sim w0 X n σ' β' a' w'∧N σ') (fun e a' w'=>e≠ .outgrown∧∃ σ' β',Sim w0 X n σ' β' a' w'∧Q e σ'):=by
 have hd':d < n:=by simpa using hd
 have hv:a.eval x= .tuple #[v,b]:=by
  have h5:=hs.ops x;rw[hx]at h5;exact h5
 refine zbx (u:=v) (w':=w) ?_ ?_
 ·unfold execOp;simp only[ho,hv];exact zee (by simp[jO])
 ·rw[hdst];exact⟨_,β,hs.put (zO _ _) (v:=⟨.lit,v⟩) rfl (zm _) hd',h⟩
theorem zpB {o:Oper} {x:zG} {d:Nat} {v:zh} {b:Bool} (ho:o.op= .extract x 1) (hdst:o.dst=some d) (hd:zU d n=true) (hx:evO σ.F x=⟨.lit,.tuple #[v,.bool b]⟩) {N:AS->Prop} (h:N ⟨(d,⟨.bool,b⟩)::σ.F,σ.E,σ.nx⟩)
  (β:Nat->zh) (a:Act) (w:zj) (hs:Sim w0 X n σ β a w):o.wp P a w (fun a' w'=>∃ σ' β',Sim w0 X n σ' β' a' w'∧N σ') (fun e a' w'=>e≠ .outgrown∧∃ σ' β',Sim w0 X n σ' β' a' w'∧Q e σ'):=by
 have hd':d < n:=by simpa using hd
 have hv:a.eval x= .tuple #[v,.bool b]:=by
  have h5:=hs.ops x;rw[hx]at h5;exact h5
 refine zbx (u:=.bool b) (w':=w) ?_ ?_
 ·unfold execOp;simp only[ho,hv];exact zee (by simp[jO])
 ·rw[hdst];exact⟨_,β,hs.put (zO _ _) (v:=⟨.bool,b⟩) RepV.ofBool (zm _) hd',h⟩
theorem AL.look2 {t kt et:zp} {kd:TypeDesc} (hu:P.underlying t=some (.map kt et)) (hk:P.underlying kt=some kd) (hp:zcN kd=true) {o:Oper} {rest:List Oper} {m k:zG} {d:Nat} {es:List (zh×zh)} {key z:zh} (ho:o.op= .lookup t m k true) (hg:o.guard=none) (hdst:o.dst=some d) (hd:zU d n=true)
  (hm:evO σ.F m=⟨.mapL,es⟩) (hkey:∀ β a w,Sim w0 X n σ β a w->a.eval k=key) (hz:∀ w,(zeroValue et).run P w= .ok z w) {r:Option zh} (hf:zfH kd key es=some r) (h:AL P w0 X n ops rest ⟨(d,⟨.lit,.tuple #[r.getD z,.bool r.isSome]⟩)::σ.F,σ.E,σ.nx⟩ Q):AL P w0 X n ops (o::rest) σ Q:=
 qE hg (fun c e'=>by rw[ho]at e';cases e') (zoU hu hk hp ho hdst hd hm hkey hz hf (N:=fun σ'=>AL P w0 X n ops rest σ' Q) h)
theorem AL.ext0 {o:Oper} {rest:List Oper} {x:zG} {d:Nat} {v b:zh} (ho:o.op= .extract x 0) (hg:o.guard=none) (hdst:o.dst=some d) (hd:zU d n=true) (hx:evO σ.F x=⟨.lit,.tuple #[v,b]⟩) (h:AL P w0 X n ops rest ⟨(d,⟨.lit,v⟩)::σ.F,σ.E,σ.nx⟩ Q):AL P w0 X n ops (o::rest) σ Q:=
 qE hg (fun c e'=>by rw[ho]at e';cases e') (zpC ho hdst hd hx (N:=fun σ'=>AL P w0 X n ops rest σ' Q) h)
theorem AL.ext1 {o:Oper} {rest:List Oper} {x:zG} {d:Nat} {v:zh} {b:Bool} (ho:o.op= .extract x 1) (hg:o.guard=none) (hdst:o.dst=some d) (hd:zU d n=true) (hx:evO σ.F x=⟨.lit,.tuple #[v,.bool b]⟩) (h:AL P w0 X n ops rest ⟨(d,⟨.bool,b⟩)::σ.F,σ.E,σ.nx⟩ Q):AL P w0 X n ops (o::rest) σ Q:=
 qE hg (fun c e'=>by rw[ho]at e';cases e') (zpB ho hdst hd hx (N:=fun σ'=>AL P w0 X n ops rest σ' Q) h)
end
theorem AWP.via {P:zy} {w0:zj} {X:Ownr} {n:Nat} {σ:AS} {Q:Exit->AS->Prop} {c d:Code} {σ':AS} (h1:AWP P w0 X n c σ (zjO (fun s=>Fit s σ') Q)) (h2:AWP P w0 X n d σ' Q) (hk:X.K≤σ'.nx:=by exact zb rfl):AWP P w0 X n (.seq c d) σ Q:=
 zae <| AWP.mono h1 fun e s h=>by
  cases e with
  |normal=>exact zaq h h2 hk
  |_=>exact h
theorem AWP.viaQ {P:zy} {w0:zj} {X:Ownr} {n:Nat} {σ:AS} {Q:Exit->AS->Prop} {c d:Code} {σ':AS} (h1:AWP P w0 X n c σ (zjO (fun s=>Fit s σ') Q)) (h2:AWP P w0 X n d σ' Q) (hk:X.K≤σ'.nx:=by exact zb rfl):AWP P w0 X n c σ (zjO (fun s=>AWP P w0 X n d s Q) Q):=
 AWP.mono h1 fun e s h=>by
  cases e with
  |normal=>exact zaq h h2 hk
  |_=>exact h
theorem zti:Tryz.prog.globalNamed "internal/strconv.uint64pow10"=some 5:=by kernel_rfl
def gmH (w:zj):Prop:=Lib.TabIs Tryz.prog w "internal/strconv.uint64pow10" .u64 Lib.pow10Tab∧∃ ev,w.cell? ⟨4,0,none⟩=some ev∧(ev= .nilIface∨∃ te pe,ev= .iface te pe)
theorem zmp {w:zj} (h:gmH w):5 < w.heap.size∧4 < w.heap.size:=by
 obtain⟨ht,ev,hc,_⟩:=h;have hl:∀ g:Nat,(∃ o:Obj,w.heap[g]? =some o)->g < w.heap.size:=fun g ⟨o,ho⟩=>(zo.1 ho).1;refine⟨hl _ ?_,hl _ ?_⟩
 ·unfold Lib.TabIs wg at ht;rw[zti]at ht;simp only[jE]at ht;cases ho:w.heap[5]? with
  |none=>rw[ho]at ht;cases ht
  |some o=>exact⟨o,rfl⟩
 ·unfold xB at hc;cases ho:w.heap[4]? with
  |none=>simp[ho]at hc
  |some o=>exact⟨o,rfl⟩
theorem zmq {R:Nat->Prop} {w w':zj} (h1:¬ R 5) (h2:¬ R 4) (h:gmH w) (hk:Kept R w w'):gmH w':=by
 obtain⟨l1,l2⟩:=zmp h;obtain⟨ht,ev,hc,hev⟩:=h;refine⟨?_,ev,?_,hev⟩
 ·unfold Lib.TabIs wg at *;rw[zti]at *;simp only[jE]at *;rw[hk.block _ l1 h1];exact ht
 ·unfold xB at *;rw[hk.block _ l2 h2];exact hc
theorem ziE (w w':zj) (h:gmH w) (hb:yO w.heap.size w w'):gmH w':=zmq (R:=fun _=>False) (fun h=>h) (fun h=>h) h ⟨hb.os,hb.tape,hb.output,hb.size,fun k hk _=>hb.block k hk⟩
theorem zak:KnOk Tryz.prog gmH gmK:=⟨zhx,zhw,CsOk.nil,ziE,RsOk.nil⟩
def ginv (_:zj) (R:Nat->Prop) (_:zp):Prop:=¬ R 5∧¬ R 4
theorem zaX:∀ w w' R (ty:zp),ginv w R ty->gmH w->Kept R w w'->gmH w':=fun _ _ _ _ h hg hk=>zmq h.1 h.2 hg hk
theorem zaJ {w0:zj} {X:Ownr} {ty:zp} (hX:X.Ok w0) (hG:X.G=gmH) (hi:ginv w0 X.R ty) {ty':zp}:∀ w R,(∀ g,R g->w0.heap.size≤g∨X.R g)->X.G w->ginv w R ty':=fun w R hR _=>by
 have h0:gmH w0:=by have:=hX.2.2 w0 (jF _ _);rwa[hG]at this
 obtain⟨l1,l2⟩:=zmp h0;refine⟨fun h=>?_,fun h=>?_⟩
 ·rcases hR _ h with h1|h1
  ·omega
  ·exact hi.1 h1
 ·rcases hR _ h with h1|h1
  ·omega
  ·exact hi.2 h1
theorem CtrOk.lift {f:zP} {c:Ctr} (h:yM Tryz.prog gmG f c):yM Tryz.prog gmH f c:=⟨h.1,fun w O xs vs hO hr hp _=>h.2 w O xs vs hO hr hp trivial⟩
theorem zco (a b:Bool):(bif a then b else false)=(a&&b):=by cases a<;>rfl
theorem zhO (a b:Bool):(bif a then true else b)=(a||b):=by cases a<;>rfl
theorem u8eq (a b:UInt8):(((a.toNat:Nat):Int)==((b.toNat:Nat):Int))=(a==b):=by
 rw[yu,beq_iff_eq,beq_iff_eq, <-je];omega
theorem u8le (a b:UInt8):decide (((a.toNat:Nat):Int)≤((b.toNat:Nat):Int))=decide (a≤b):=by
 rw[yu,decide_eq_true_iff,decide_eq_true_iff,yY];omega
def cLt:Ctr:={ args:=[u8],pre:=fun _=>[],res:=.bool,own:=none,out:=fun x=>isLt x.1 }
theorem zpj:yM Tryz.prog gmG 111 cLt:=by
 refine zar (K:=gmK) zaH Tryz.func111 rfl rfl Tryz.call111 rfl (by decide) (by intro h;cases h) ?_;rintro w0 X hX ⟨(c:UInt8),_⟩ hp;change AWP _ _ _ _ _ ⟨[(0,⟨u8,c⟩)],[],0⟩ _;(repeat(first|apply zae|apply zab|apply zal|apply zad|apply zac|refine zaa hX zaH rfl trivial ?_|refine zaa hX zaH rfl id ?_|refine zaa hX zaH rfl ⟨id,id⟩ ?_));refine za (za ?_);refine zaa hX zaH rfl ?_ ?_
 ·repeat'(first|exact trivial|assumption|(refine⟨?_,?_⟩)|(intro _)|exact zb rfl|exact zi _|(simp_all [allP];done))
 refine zq ⟨.inr rfl,zax rfl trivial rfl rfl ?_⟩;show (bif decide ((((97:UInt8).toNat:Nat):Int)≤(((c|||32:UInt8).toNat:Nat):Int)) then decide ((((c|||32:UInt8).toNat:Nat):Int)≤(((122:UInt8).toNat:Nat):Int)) else false)=isLt c;simp only[zco,u8le];rfl
def cDg:Ctr:={ args:=[u8],pre:=fun _=>[],res:=.bool,own:=none,out:=fun x=>isDg x.1 }
theorem zpk:yM Tryz.prog gmG 113 cDg:=by
 refine zar (K:=gmK) zaH Tryz.func113 rfl rfl Tryz.call113 rfl (by decide) (by intro h;cases h) ?_;rintro w0 X hX ⟨(c:UInt8),_⟩ hp;change AWP _ _ _ _ _ ⟨[(0,⟨u8,c⟩)],[],0⟩ _;(repeat(first|apply zae|apply zab|apply zal|apply zad|apply zac|refine zaa hX zaH rfl trivial ?_|refine zaa hX zaH rfl id ?_|refine zaa hX zaH rfl ⟨id,id⟩ ?_));refine zq ⟨.inr rfl,zax rfl trivial rfl rfl ?_⟩;show (bif decide ((((48:UInt8).toNat:Nat):Int)≤(((c:UInt8).toNat:Nat):Int)) then decide ((((c:UInt8).toNat:Nat):Int)≤(((57:UInt8).toNat:Nat):Int)) else false)=isDg c;simp only[zco,u8le];rfl
def cWh:Ctr:={ args:=[u8],pre:=fun _=>[],res:=.bool,own:=none,out:=fun x=>isWh x.1 }
theorem zs9:yM Tryz.prog gmG 53 cWh:=by
 refine zar (K:=gmK) zaH Tryz.func53 rfl rfl Tryz.call53 rfl (by decide) (by intro h;cases h) ?_;rintro w0 X hX ⟨(c:UInt8),_⟩ hp;change AWP _ _ _ _ _ ⟨[(0,⟨u8,c⟩)],[],0⟩ _;(repeat(first|apply zae|apply zab|apply zal|apply zad|apply zac|refine zaa hX zaH rfl trivial ?_|refine zaa hX zaH rfl id ?_|refine zaa hX zaH rfl ⟨id,id⟩ ?_));refine za (za ?_);refine zaa hX zaH rfl ?_ ?_
 ·repeat'(first|exact trivial|assumption|(refine⟨?_,?_⟩)|(intro _)|exact zb rfl|exact zi _|(simp_all [allP];done))
 refine zq ⟨.inr rfl,zax rfl trivial rfl rfl ?_⟩;show (bif (bif (bif (((c.toNat:Nat):Int)==(((32:UInt8).toNat:Nat):Int)) then true else (((c.toNat:Nat):Int)==(((9:UInt8).toNat:Nat):Int))) then true else (((c.toNat:Nat):Int)==(((10:UInt8).toNat:Nat):Int))) then true else (((c.toNat:Nat):Int)==(((13:UInt8).toNat:Nat):Int)))=isWh c;simp only[zhO,u8eq];rfl
def kTok1:Kn:={ gmK with C:=[(111,cLt),(113,cDg)] }
theorem zfC:KnOk Tryz.prog gmG kTok1:=zaH.with (.cons zpj <| .cons zpk .nil)
def cPt:Ctr:={ args:=[u8],pre:=fun _=>[],res:=.bool,own:=none,out:=fun x=>isPt x.1 }
theorem zta:yM Tryz.prog gmG 112 cPt:=by
 refine zar (K:=kTok1) zfC Tryz.func112 rfl rfl Tryz.call112 rfl (by decide) (by intro h;cases h) ?_;rintro w0 X hX ⟨(c:UInt8),_⟩ hp;change AWP _ _ _ _ _ ⟨[(0,⟨u8,c⟩)],[],0⟩ _;(repeat(first|apply zae|apply zab|apply zal|apply zad|apply zac|refine zaa hX zfC rfl trivial ?_|refine zaa hX zfC rfl id ?_|refine zaa hX zfC rfl ⟨id,id⟩ ?_));refine za (za ?_);refine zaa hX zfC rfl ?_ ?_
 ·repeat'(first|exact trivial|assumption|(refine⟨?_,?_⟩)|(intro _)|exact zb rfl|exact zi _|(simp_all [allP];done))
 refine zq ⟨.inr rfl,zax rfl trivial rfl rfl ?_⟩;show (bif (bif isLt c then true else isDg c) then true else (((c.toNat:Nat):Int)==(((45:UInt8).toNat:Nat):Int)))=isPt c;simp only[zhO,u8eq];rfl
def ztQ (p:UInt8->Bool):Ctr:={ args:=[u8],pre:=fun _=>[],res:=.bool,own:=none,out:=fun x=>p x.1 }
def zlE (f:zP) (p:UInt8->Bool):Ctr:={ args:=[.str,.lit],pre:=fun x=>[x.2.1= .func (.func f) #[] #[]],res:=i64,own:=none,out:=fun x=>((zbB p x.1:Nat):Int) }
theorem zeC {p:UInt8->Bool} {s:List UInt8} {k:Nat} (hk:k≤s.length) (h1:∀ j (hj:j < s.length),j < k->p s[j]=true) (h2:∀ h:k < s.length,p s[k]=false):zbB p s=k:=by
 unfold zbB;have e:s=s.take k++s.drop k:=(List.take_append_drop k s).symm;rw[e,List.takeWhile_append_of_pos]
 ·have:(s.drop k).takeWhile p=[]:=by
   by_cases h:k < s.length
   ·rw[List.drop_eq_getElem_cons h,jN,h2 h];rfl
   ·rw[List.drop_of_length_le (by omega)];rfl
  rw[this,zI,yT];omega
 ·intro x hx;obtain⟨j,hj,rfl⟩:=List.mem_iff_getElem.1 hx;rw[yT]at hj;rw[List.getElem_take];exact h1 j (by omega) (by omega)
def kSpWh:Kn:={ gmK with C:=[(53,ztQ isWh)] }
theorem zbU:KnOk Tryz.prog gmG kSpWh:=zaH.with (.cons zs9 .nil)
theorem zjS:yM Tryz.prog gmG 52 (zlE 53 isWh):=by
 refine zar (K:=kSpWh) zbU Tryz.func52 rfl rfl Tryz.call52 rfl (by decide) (by intro h;cases h) ?_;rintro w0 X hX ⟨(s:List UInt8),(g:zh),_⟩ hp;obtain rfl:g= .func (.func 53) #[] #[]:=hp;change AWP _ _ _ _ _ ⟨[(0,⟨.str,s⟩),(1,⟨.lit,.func (.func 53) #[] #[]⟩)],[],0⟩ _;refine AWP.slen 0 rfl fun hl=>?_;unfold maxLen at hl;(repeat(first|apply zae|apply zab|apply zal|apply zad|apply zac|refine zaa hX zbU rfl trivial ?_|refine zaa hX zbU rfl id ?_|refine zaa hX zbU rfl ⟨id,id⟩ ?_));refine yU (ι:=Nat) (fun k=>⟨[(0,⟨.str,s⟩),(1,⟨.lit,.func (.func 53) #[] #[]⟩),(5,⟨i64,(k:Int)⟩)],[],0⟩) (fun k=>k≤s.length∧∀ j (hj:j < s.length),j < k->isWh s[j]=true) (fun k=>s.length - k) 0 ⟨by omega,fun j _ h=>by omega⟩ ⟨⟨rfl,rfl,rfl,trivial⟩,trivial,rfl,rfl⟩ ?_;rintro k ⟨hk,hall⟩;(repeat(first|apply zae|apply zab|apply zac|apply zad));refine zai ?_;refine yh 5 hX zbU rfl trivial ?_;by_cases hlt:k < s.length
 ·refine qC (σ':=⟨[(0,⟨.str,s⟩),(1,⟨.lit,.func (.func 53) #[] #[]⟩),(5,⟨i64,(k:Int)⟩),(10,⟨.bool,true⟩)],[],0⟩) ⟨⟨rfl,rfl,rfl,zcu (decide_eq_true (by omega)),trivial⟩,trivial,rfl,rfl⟩ ?_;have n0:(0:Int)≤(k:Int):=by omega
  have n1:(k:Int) < ((s.length:Nat):Int):=by omega
  refine zV hX zbU rfl ?_ ?_
  ·exact⟨fun _=>⟨rfl,rfl,n0,n1⟩,fun _=>rfl,fun _=>rfl⟩
  refine zaf rfl (fun hb=>?_) (fun hb=>?_)
  ·have hb:isWh (s.getD (k:Int).toNat 0)=true:=hb;rw[za1 hlt]at hb;apply zab;refine za (za ?_);refine zaa hX zbU rfl ?_ ?_
   ·exact zaU (by omega)
   refine⟨k+1,⟨by omega,fun j hj hjk=>?_⟩,by omega,⟨rfl,rfl,zdy _,trivial⟩,trivial,rfl,rfl⟩;by_cases e:j=k
   ·subst e;exact hb
   ·exact hall j hj (by omega)
  ·have hb:isWh (s.getD (k:Int).toNat 0)=false:=hb;rw[za1 hlt]at hb;(repeat(first|apply zae|apply zab|apply zal|apply zad|apply zac|refine zaa hX zbU rfl trivial ?_|refine zaa hX zbU rfl id ?_|refine zaa hX zbU rfl ⟨id,id⟩ ?_));refine zq ⟨.inr rfl,zax rfl trivial rfl rfl ?_⟩;show (k:Int)=((zbB isWh s:Nat):Int);rw[zeC hk hall fun _=>hb]
 ·refine qC (σ':=⟨[(0,⟨.str,s⟩),(1,⟨.lit,.func (.func 53) #[] #[]⟩),(5,⟨i64,(k:Int)⟩),(10,⟨.bool,false⟩)],[],0⟩) ⟨⟨rfl,rfl,rfl,zcu (decide_eq_false (by omega)),trivial⟩,trivial,rfl,rfl⟩ ?_;refine AL.guardF 4 10 true .bool false rfl rfl rfl rfl rfl rfl ?_;refine AL.guardF 4 10 true .bool false rfl rfl rfl rfl rfl rfl ?_;refine AL.guardF 4 10 true .bool false rfl rfl rfl rfl rfl rfl ?_;refine AL.guardF 4 10 true .bool false rfl rfl rfl rfl rfl rfl ?_;refine AL.guardF 4 10 true .bool false rfl rfl rfl rfl rfl rfl ?_;refine zV hX zbU rfl id ?_;refine zaf rfl (fun hb=>absurd (show false=true from hb) (by decide)) (fun _=>?_);(repeat(first|apply zae|apply zab|apply zal|apply zad|apply zac|refine zaa hX zbU rfl trivial ?_|refine zaa hX zbU rfl id ?_|refine zaa hX zbU rfl ⟨id,id⟩ ?_));refine zq ⟨.inr rfl,zax rfl trivial rfl rfl ?_⟩;show (k:Int)=((zbB isWh s:Nat):Int);rw[zeC hk hall fun h=>absurd h hlt]
def kSpDg:Kn:={ gmK with C:=[(113,ztQ isDg)] }
theorem zbW:KnOk Tryz.prog gmG kSpDg:=zaH.with (.cons zpk .nil)
theorem zn1:yM Tryz.prog gmG 52 (zlE 113 isDg):=by
 refine zar (K:=kSpDg) zbW Tryz.func52 rfl rfl Tryz.call52 rfl (by decide) (by intro h;cases h) ?_;rintro w0 X hX ⟨(s:List UInt8),(g:zh),_⟩ hp;obtain rfl:g= .func (.func 113) #[] #[]:=hp;change AWP _ _ _ _ _ ⟨[(0,⟨.str,s⟩),(1,⟨.lit,.func (.func 113) #[] #[]⟩)],[],0⟩ _;refine AWP.slen 0 rfl fun hl=>?_;unfold maxLen at hl;(repeat(first|apply zae|apply zab|apply zal|apply zad|apply zac|refine zaa hX zbW rfl trivial ?_|refine zaa hX zbW rfl id ?_|refine zaa hX zbW rfl ⟨id,id⟩ ?_));refine yU (ι:=Nat) (fun k=>⟨[(0,⟨.str,s⟩),(1,⟨.lit,.func (.func 113) #[] #[]⟩),(5,⟨i64,(k:Int)⟩)],[],0⟩) (fun k=>k≤s.length∧∀ j (hj:j < s.length),j < k->isDg s[j]=true) (fun k=>s.length - k) 0 ⟨by omega,fun j _ h=>by omega⟩ ⟨⟨rfl,rfl,rfl,trivial⟩,trivial,rfl,rfl⟩ ?_;rintro k ⟨hk,hall⟩;(repeat(first|apply zae|apply zab|apply zac|apply zad));refine zai ?_;refine yh 5 hX zbW rfl trivial ?_;by_cases hlt:k < s.length
 ·refine qC (σ':=⟨[(0,⟨.str,s⟩),(1,⟨.lit,.func (.func 113) #[] #[]⟩),(5,⟨i64,(k:Int)⟩),(10,⟨.bool,true⟩)],[],0⟩) ⟨⟨rfl,rfl,rfl,zcu (decide_eq_true (by omega)),trivial⟩,trivial,rfl,rfl⟩ ?_;have n0:(0:Int)≤(k:Int):=by omega
  have n1:(k:Int) < ((s.length:Nat):Int):=by omega
  refine zV hX zbW rfl ?_ ?_
  ·exact⟨fun _=>⟨rfl,rfl,n0,n1⟩,fun _=>rfl,fun _=>rfl⟩
  refine zaf rfl (fun hb=>?_) (fun hb=>?_)
  ·have hb:isDg (s.getD (k:Int).toNat 0)=true:=hb;rw[za1 hlt]at hb;apply zab;refine za (za ?_);refine zaa hX zbW rfl ?_ ?_
   ·exact zaU (by omega)
   refine⟨k+1,⟨by omega,fun j hj hjk=>?_⟩,by omega,⟨rfl,rfl,zdy _,trivial⟩,trivial,rfl,rfl⟩;by_cases e:j=k
   ·subst e;exact hb
   ·exact hall j hj (by omega)
  ·have hb:isDg (s.getD (k:Int).toNat 0)=false:=hb;rw[za1 hlt]at hb;(repeat(first|apply zae|apply zab|apply zal|apply zad|apply zac|refine zaa hX zbW rfl trivial ?_|refine zaa hX zbW rfl id ?_|refine zaa hX zbW rfl ⟨id,id⟩ ?_));refine zq ⟨.inr rfl,zax rfl trivial rfl rfl ?_⟩;show (k:Int)=((zbB isDg s:Nat):Int);rw[zeC hk hall fun _=>hb]
 ·refine qC (σ':=⟨[(0,⟨.str,s⟩),(1,⟨.lit,.func (.func 113) #[] #[]⟩),(5,⟨i64,(k:Int)⟩),(10,⟨.bool,false⟩)],[],0⟩) ⟨⟨rfl,rfl,rfl,zcu (decide_eq_false (by omega)),trivial⟩,trivial,rfl,rfl⟩ ?_;refine AL.guardF 4 10 true .bool false rfl rfl rfl rfl rfl rfl ?_;refine AL.guardF 4 10 true .bool false rfl rfl rfl rfl rfl rfl ?_;refine AL.guardF 4 10 true .bool false rfl rfl rfl rfl rfl rfl ?_;refine AL.guardF 4 10 true .bool false rfl rfl rfl rfl rfl rfl ?_;refine AL.guardF 4 10 true .bool false rfl rfl rfl rfl rfl rfl ?_;refine zV hX zbW rfl id ?_;refine zaf rfl (fun hb=>absurd (show false=true from hb) (by decide)) (fun _=>?_);(repeat(first|apply zae|apply zab|apply zal|apply zad|apply zac|refine zaa hX zbW rfl trivial ?_|refine zaa hX zbW rfl id ?_|refine zaa hX zbW rfl ⟨id,id⟩ ?_));refine zq ⟨.inr rfl,zax rfl trivial rfl rfl ?_⟩;show (k:Int)=((zbB isDg s:Nat):Int);rw[zeC hk hall fun h=>absurd h hlt]
def kSpPt:Kn:={ gmK with C:=[(112,ztQ isPt)] }
theorem zbV:KnOk Tryz.prog gmG kSpPt:=zaH.with (.cons zta .nil)
theorem zn0:yM Tryz.prog gmG 52 (zlE 112 isPt):=by
 refine zar (K:=kSpPt) zbV Tryz.func52 rfl rfl Tryz.call52 rfl (by decide) (by intro h;cases h) ?_;rintro w0 X hX ⟨(s:List UInt8),(g:zh),_⟩ hp;obtain rfl:g= .func (.func 112) #[] #[]:=hp;change AWP _ _ _ _ _ ⟨[(0,⟨.str,s⟩),(1,⟨.lit,.func (.func 112) #[] #[]⟩)],[],0⟩ _;refine AWP.slen 0 rfl fun hl=>?_;unfold maxLen at hl;(repeat(first|apply zae|apply zab|apply zal|apply zad|apply zac|refine zaa hX zbV rfl trivial ?_|refine zaa hX zbV rfl id ?_|refine zaa hX zbV rfl ⟨id,id⟩ ?_));refine yU (ι:=Nat) (fun k=>⟨[(0,⟨.str,s⟩),(1,⟨.lit,.func (.func 112) #[] #[]⟩),(5,⟨i64,(k:Int)⟩)],[],0⟩) (fun k=>k≤s.length∧∀ j (hj:j < s.length),j < k->isPt s[j]=true) (fun k=>s.length - k) 0 ⟨by omega,fun j _ h=>by omega⟩ ⟨⟨rfl,rfl,rfl,trivial⟩,trivial,rfl,rfl⟩ ?_;rintro k ⟨hk,hall⟩;(repeat(first|apply zae|apply zab|apply zac|apply zad));refine zai ?_;refine yh 5 hX zbV rfl trivial ?_;by_cases hlt:k < s.length
 ·refine qC (σ':=⟨[(0,⟨.str,s⟩),(1,⟨.lit,.func (.func 112) #[] #[]⟩),(5,⟨i64,(k:Int)⟩),(10,⟨.bool,true⟩)],[],0⟩) ⟨⟨rfl,rfl,rfl,zcu (decide_eq_true (by omega)),trivial⟩,trivial,rfl,rfl⟩ ?_;have n0:(0:Int)≤(k:Int):=by omega
  have n1:(k:Int) < ((s.length:Nat):Int):=by omega
  refine zV hX zbV rfl ?_ ?_
  ·exact⟨fun _=>⟨rfl,rfl,n0,n1⟩,fun _=>rfl,fun _=>rfl⟩
  refine zaf rfl (fun hb=>?_) (fun hb=>?_)
  ·have hb:isPt (s.getD (k:Int).toNat 0)=true:=hb;rw[za1 hlt]at hb;apply zab;refine za (za ?_);refine zaa hX zbV rfl ?_ ?_
   ·exact zaU (by omega)
   refine⟨k+1,⟨by omega,fun j hj hjk=>?_⟩,by omega,⟨rfl,rfl,zdy _,trivial⟩,trivial,rfl,rfl⟩;by_cases e:j=k
   ·subst e;exact hb
   ·exact hall j hj (by omega)
  ·have hb:isPt (s.getD (k:Int).toNat 0)=false:=hb;rw[za1 hlt]at hb;(repeat(first|apply zae|apply zab|apply zal|apply zad|apply zac|refine zaa hX zbV rfl trivial ?_|refine zaa hX zbV rfl id ?_|refine zaa hX zbV rfl ⟨id,id⟩ ?_));refine zq ⟨.inr rfl,zax rfl trivial rfl rfl ?_⟩;show (k:Int)=((zbB isPt s:Nat):Int);rw[zeC hk hall fun _=>hb]
 ·refine qC (σ':=⟨[(0,⟨.str,s⟩),(1,⟨.lit,.func (.func 112) #[] #[]⟩),(5,⟨i64,(k:Int)⟩),(10,⟨.bool,false⟩)],[],0⟩) ⟨⟨rfl,rfl,rfl,zcu (decide_eq_false (by omega)),trivial⟩,trivial,rfl,rfl⟩ ?_;refine AL.guardF 4 10 true .bool false rfl rfl rfl rfl rfl rfl ?_;refine AL.guardF 4 10 true .bool false rfl rfl rfl rfl rfl rfl ?_;refine AL.guardF 4 10 true .bool false rfl rfl rfl rfl rfl rfl ?_;refine AL.guardF 4 10 true .bool false rfl rfl rfl rfl rfl rfl ?_;refine AL.guardF 4 10 true .bool false rfl rfl rfl rfl rfl rfl ?_;refine zV hX zbV rfl id ?_;refine zaf rfl (fun hb=>absurd (show false=true from hb) (by decide)) (fun _=>?_);(repeat(first|apply zae|apply zab|apply zal|apply zad|apply zac|refine zaa hX zbV rfl trivial ?_|refine zaa hX zbV rfl id ?_|refine zaa hX zbV rfl ⟨id,id⟩ ?_));refine zq ⟨.inr rfl,zax rfl trivial rfl rfl ?_⟩;show (k:Int)=((zbB isPt s:Nat):Int);rw[zeC hk hall fun h=>absurd h hlt]
theorem zgk (c:UInt8) (r:List UInt8):zay (c::r)=if isLt c=true then zbB isPt (c::r) else 0:=rfl
def zjr:Ctr:={ args:=[.str],pre:=fun _=>[],res:=i64,own:=none,out:=fun x=>((zay x.1:Nat):Int) }
def kWl:Kn:={ gmK with C:=[(111,cLt),(52,zlE 112 isPt)] }
theorem zdv:KnOk Tryz.prog gmG kWl:=zaH.with (.cons zpj <| .cons zn0 .nil)
theorem zie:yM Tryz.prog gmG 65 zjr:=by
 refine zar (K:=kWl) zdv Tryz.func65 rfl rfl Tryz.call65 rfl (by decide) (by intro h;cases h) ?_;rintro w0 X hX ⟨(s:List UInt8),_⟩ hp;change AWP _ _ _ _ _ ⟨[(0,⟨.str,s⟩)],[],0⟩ _;(repeat(first|apply zae|apply zab|apply zal|apply zad|apply zac|refine zaa hX zdv rfl trivial ?_|refine zaa hX zdv rfl id ?_|refine zaa hX zdv rfl ⟨id,id⟩ ?_));(repeat(first|apply zae|apply zab|apply zac|apply zad));refine zai ?_;refine yh 3 hX zdv rfl trivial ?_;cases s with
 |nil=>
  refine qC (σ':=⟨[(0,⟨.str,([]:List UInt8)⟩),(5,⟨.bool,true⟩)],[],0⟩) ⟨⟨rfl,zcu (zbe.2 rfl),trivial⟩,trivial,rfl,rfl⟩ ?_;refine AL.guardF 2 5 false .bool false rfl rfl rfl rfl rfl rfl ?_;refine AL.guardF 2 5 false .bool false rfl rfl rfl rfl rfl rfl ?_;refine AL.guardF 2 5 false .bool false rfl rfl rfl rfl rfl rfl ?_;refine AL.guardF 2 5 false .bool false rfl rfl rfl rfl rfl rfl ?_;refine zV hX zdv rfl id ?_;refine zaf rfl (fun _=>?_) (fun hb=>absurd (show true=false from hb) (by decide));(repeat(first|apply zae|apply zab|apply zal|apply zad|apply zac|refine zaa hX zdv rfl trivial ?_|refine zaa hX zdv rfl id ?_|refine zaa hX zdv rfl ⟨id,id⟩ ?_));exact zq ⟨.inr rfl,zax rfl trivial rfl rfl rfl⟩
 |cons c r=>
  refine qC (σ':=⟨[(0,⟨.str,(c::r:List UInt8)⟩),(5,⟨.bool,false⟩)],[],0⟩) ⟨⟨rfl,zcu (Bool.eq_false_iff.2 fun h=>by cases zbe.1 h),trivial⟩,trivial,rfl,rfl⟩ ?_;have n1:(0:Int) < (((c::r).length:Nat):Int):=by rw[zt];omega
  refine zV hX zdv rfl ⟨fun _=>⟨rfl,xC 0,n1⟩,fun _=>rfl,fun _=>rfl,fun _=>rfl⟩ ?_;refine zaf rfl (fun hb=>?_) (fun hb=>?_)
  ·have hb:(!isLt c)=true:=hb;(repeat(first|apply zae|apply zab|apply zal|apply zad|apply zac|refine zaa hX zdv rfl trivial ?_|refine zaa hX zdv rfl id ?_|refine zaa hX zdv rfl ⟨id,id⟩ ?_));refine zq ⟨.inr rfl,zax rfl trivial rfl rfl ?_⟩;show (0:Int)=((zay (c::r):Nat):Int);rw[zgk,if_neg (by simpa using hb)];rfl
  ·have hb:(!isLt c)=false:=hb;apply zab;refine za (za ?_);refine zaa hX zdv rfl ?_ ?_
   ·exact rfl
   refine zq ⟨.inr rfl,zax rfl trivial rfl rfl ?_⟩;show ((zbB isPt (c::r):Nat):Int)=((zay (c::r):Nat):Int);rw[zgk,if_pos (by simpa using hb)]
def numA (acc:Nat) (l:List UInt8):Nat:=l.foldl (fun n c=>10 * n+(c.toNat - 48)) acc
theorem zoG:∀ (l:List UInt8) (acc:Nat),acc≤numA acc l
 | [],_=>zk _
 |c::r,acc=>by
  have:=zoG r (10 * acc+(c.toNat - 48));show acc≤numA (10 * acc+(c.toNat - 48)) r;omega
theorem zmj (c:UInt8):isDg c=true↔48≤c.toNat∧c.toNat≤57:=by
 unfold isDg;rw[zd,decide_eq_true_iff,decide_eq_true_iff,yY,yY];exact Iff.rfl
theorem zis:∀ (l:List UInt8) (acc:Nat),(∀ c∈l,isDg c=true)->acc < 18446744073709551616->(kR (2 ^ 64 - 1) acc l= .ok (numA acc l)∧numA acc l < 18446744073709551616)∨(kR (2 ^ 64 - 1) acc l= .range∧18446744073709551616≤numA acc l)
 | [],acc,_,ha=>.inl ⟨rfl,ha⟩
 |c::r,acc,h,ha=>by
  obtain⟨h1,h2⟩:=(zmj c).1 (h c (zR ..));have hge:=zoG r (10 * acc+(c.toNat - 48));have e:numA acc (c::r)=numA (10 * acc+(c.toNat - 48)) r:=rfl;rw[kR,if_pos ⟨h1,h2⟩,e];by_cases h3:1844674407370955162≤acc
  ·rw[if_pos h3];exact .inr ⟨rfl,by omega⟩
  ·rw[if_neg h3];have e2:acc * 10+(c.toNat - 48)=10 * acc+(c.toNat - 48):=by omega
   rw[e2];by_cases h4:2 ^ 64 - 1 < 10 * acc+(c.toNat - 48)
   ·rw[if_pos h4];exact .inr ⟨rfl,by omega⟩
   ·rw[if_neg h4];exact zis r _ (fun x hx=>h x (List.mem_cons_of_mem _ hx)) (by omega)
theorem zne {l:List UInt8} (hl:l≠ []) (h:∀ c∈l,isDg c=true):(Lib.parseIntB 64 l= .ok ((numv l:Nat):Int))∨(Lib.parseIntB 64 l= .range∧zda≤numv l):=by
 cases l with
 |nil=>exact absurd rfl hl
 |cons c r=>
  obtain⟨h1,h2⟩:=(zmj c).1 (h c (zR ..));rw[Lib.parseIntB_plain 64 c r (by omega) (by omega)];unfold Lib.parseUintB;rw[if_neg (by simp)];have e:numv (c::r)=numA 0 (c::r):=rfl;rw[e];unfold zda;rcases zis (c::r) 0 h (by omega) with ⟨h3,h4⟩|⟨h3,h4⟩
  ·rw[h3];unfold Lib.signlessC;by_cases h5:2 ^ (64 - 1)≤numA 0 (c::r)
   ·exact .inr ⟨if_pos h5,by omega⟩
   ·exact .inl (if_neg h5)
  ·rw[h3];exact .inr ⟨rfl,by omega⟩
def zp1 (s:List UInt8) (v:Int) (ev:zh):Prop:=(ev= .nilIface∧v=((numv s:Nat):Int))∨((∃ t p,ev= .iface t p)∧zda≤numv s)
theorem zi6 {s:List UInt8} (hs:s≠ []) (hd:∀ c∈s,isDg c=true) (hl:s.length≤100000) (w:zj) (hG:gmH w):
  Calls Tryz.prog 177 #[.string ⟨s.toArray⟩,.int .i64 10,.int .i64 64] w fun e w'=>∃ v ev,e= .returned (.tuple #[.int .i64 v,ev])∧yO w.heap.size w w'∧zp1 s v ev:=by
 rcases zne hs hd with h1|⟨h1,h2⟩
 ·refine kI (Any.strconv_ParseInt_10_at64_ok Tryz.laysC174 ⟨s.toArray⟩ (by show s.length≤9223372036854775806;omega) _ h1 w) ?_;rintro e w' ⟨rfl,hw⟩;refine⟨_,_,rfl,?_,.inl ⟨rfl,rfl⟩⟩;rcases hw with rfl|⟨t,rfl⟩
  ·exact zO _ _
  ·exact Lib.bytesWorld_below _ _ _
 ·obtain⟨ev,hv,hev⟩:=hG.2;refine kI (Any.strconv_ParseInt_10_at64_range Tryz.laysC174 ⟨s.toArray⟩ (by show s.length≤281474976710656;omega) h1 ev w hv hev) ?_;rintro e w' ⟨N,rfl,_,_,hb⟩;exact⟨_,_,rfl,hb,.inr ⟨⟨_,_,rfl⟩,h2⟩⟩
theorem zfx {α:Type} {p:α->Bool} {c:α}:∀ {l:List α},c∈l.takeWhile p->p c=true
 |x::l,h=>by
  rw[jN]at h;split at h
  ·rename_i hx;rcases List.mem_cons.1 h with rfl|h
   ·exact hx
   ·exact zfx h
  ·cases h
theorem errT:Tryz.prog.underlying 114=some (.interface (Tryz.prog.methodsAt 114)):=by kernel_rfl
def zkt:zh->Bool
 | .nilIface=>true
 |_=>false
theorem eqlNil {a:Act} {w:zj} {x:zG} {d:Nat} {ty:zp} {pos:String} {af:Array Edge} {ev:zh} (hx:a.eval x=ev) (he:ev= .nilIface∨∃ t p,ev= .iface t p):
  (execOp a.eval { dst:=some d,op:=Op.binOp .eql 114 x (.const .nilIface) 114,type:=ty,pos:=pos,after:=af,guard:=none }).run Tryz.prog w= .ok (.value (.bool (zkt ev))) w:=by
 have hn:a.eval (.const .nilIface)= .nilIface:=rfl;unfold execOp;rcases he with rfl|⟨t,p,rfl⟩
 ·simp[hx,hn,eqGuard,run_eql_nil_nil _ _ errT,zkt]
 ·simp[hx,hn,eqGuard,run_eql_held_nil _ _ _ _ errT,zkt]
theorem zte:(1125899906842624:Int)=((zda:Nat):Int):=by decide
theorem znb (M:Int) (hM:M=((zda:Nat):Int)) {s:List UInt8} {v:Int} {ev:zh} {b:Bool} (hend:zp1 s v ev) (hb:b=zkt ev):(bif b then decide (v < M) else false)=true↔(b=true∧v=((numv s:Nat):Int)∧numv s < zda):=by
 rcases hend with ⟨rfl,rfl⟩|⟨⟨t,p,rfl⟩,hn⟩
 ·rw[hb];show decide (((numv s:Nat):Int) < M)=true↔_;rw[decide_eq_true_iff];exact⟨fun h=>⟨rfl,rfl,by omega⟩,fun h=>by omega⟩
 ·rw[hb];exact⟨fun h=>(by cases h),fun h=>(by cases h.1)⟩
abbrev zTk:TokT:=(0,0,0,[],0,())
def zeT (s:List UInt8):TokT×Bool×Unit:=match zcR s with
 |some (k,n,t,x)=>((k,0,(n:Nat),t,x,()),true,())
 |none=>(zTk,false,())
def zmI:Ctr:={ args:=[.str],pre:=fun x=>[x.1≠ [],zg x.1≤100000],res:=.tup tk (.tup .bool .unit),own:=none,out:=fun x=>zeT x.1 }
def kNu:Kn:={ gmK with C:=[(52,zlE 113 isDg)] }
theorem zbG:KnOk Tryz.prog gmH kNu:=zak.with (.cons zn1.lift .nil)
theorem znj:yM Tryz.prog gmH 131 zmI:=by
 refine zar (K:=kNu) zbG Tryz.func131 rfl rfl Tryz.call131 rfl (by decide) (by intro h;cases h) ?_;rintro w0 X hX ⟨(s:List UInt8),_⟩ hp;obtain⟨hne,hlen⟩:s≠ []∧s.length≤100000:=hp;change AWP _ _ _ _ _ ⟨[(0,⟨.str,s⟩)],[],0⟩ _;have hpos:0 < s.length:=List.length_pos_iff.2 hne;(repeat(first|apply zae|apply zab|apply zal|apply zad|apply zac|refine zaa hX zbG rfl trivial ?_|refine zaa hX zbG rfl id ?_|refine zaa hX zbG rfl ⟨id,id⟩ ?_));have n0:(0:Int) < ((s.length:Nat):Int):=by omega
 refine za (za ?_);refine zaa hX zbG rfl ?_ ?_
 ·exact⟨xC 0,n0⟩
 have hsg:zaQ s≤1∧zaQ s≤s.length:=by
  unfold zaQ;split<;>omega
 obtain⟨c,r,rfl⟩:∃ c r,s=c::r:=by
  cases s with
  |nil=>exact absurd rfl hne
  |cons c r=>exact⟨c,r,rfl⟩
 refine AWP.viaQ (σ':=⟨[(0,⟨.str,(c::r:List UInt8)⟩),(2,⟨.optr tk,⟨0,tk,.here⟩⟩),(3,⟨.bool,false⟩),(4,⟨i64,((zaQ (c::r):Nat):Int)⟩)],[(0,some (.box tk zTk))],1⟩) ?_ ?_
 ·refine zaf rfl (fun hb=>?_) (fun hb=>?_)
  ·have hb:(((c.toNat:Nat):Int)==(((45:UInt8).toNat:Nat):Int))=true:=hb;rw[u8eq,beq_iff_eq]at hb;subst hb;refine za (za ?_);refine zaa hX zbG rfl ?_ ?_
   ·trivial
   exact⟨⟨rfl,rfl,rfl,rfl,trivial⟩,⟨rfl,trivial⟩,rfl,rfl⟩
  ·have hb:(((c.toNat:Nat):Int)==(((45:UInt8).toNat:Nat):Int))=false:=hb;rw[u8eq]at hb;have hs0:zaQ (c::r)=0:=by
    unfold zaQ;rw[if_neg];intro h;rw[ya h]at hb;cases hb
   apply zab;exact⟨⟨rfl,rfl,rfl,vI64 (by rw[hs0];rfl),trivial⟩,⟨rfl,trivial⟩,rfl,rfl⟩
 generalize hs:(c::r:List UInt8)=s at *;have p0:(0:Int)≤((zaQ s:Nat):Int):=by omega
 have p1:((zaQ s:Nat):Int)≤((s.length:Nat):Int):=by omega
 refine za (za ?_);refine zaa hX zbG rfl ?_ ?_
 ·exact⟨p0,p1,rfl⟩
 have hdl:(zaN s).length≤s.length - zaQ s:=by
  have:(zaN s).length≤(s.drop (zaQ s)).length:=(jp _).length_le;rwa[xc]at this
 have hd5:((zbB isDg (jC (((zaQ s:Nat):Int)).toNat s):Nat):Int)=(((zaN s).length:Nat):Int):=by
  rw[zH];rfl
 refine zaq (σ':=⟨[(0,⟨.str,s⟩),(2,⟨.optr tk,⟨0,tk,.here⟩⟩),(3,⟨.bool,false⟩),(4,⟨i64,((zaQ s:Nat):Int)⟩),(5,⟨i64,(((zaN s).length:Nat):Int)⟩)],[(0,some (.box tk zTk))],1⟩) ⟨⟨rfl,rfl,rfl,rfl,vI64 hd5,trivial⟩,⟨rfl,trivial⟩,rfl,rfl⟩ ?_;refine za (za ?_);refine zaa hX zbG rfl ?_ ?_
 ·trivial
 refine zaf rfl (fun hb=>?_) (fun hb=>?_)
 ·have hb:decide ((((zaN s).length:Nat):Int)=0)=true:=hb;have hb:=of_decide_eq_true hb;(repeat(first|apply zae|apply zab|apply zal|apply zad|apply zac|refine zaa hX zbG rfl trivial ?_|refine zaa hX zbG rfl id ?_|refine zaa hX zbG rfl ⟨id,id⟩ ?_));refine zq ⟨.inr rfl,zbk (by decide) rfl rfl trivial ?_⟩;show (zTk,(false,()))=zeT s;unfold zeT zcR;rw[if_pos (by omega)]
 have hb:decide ((((zaN s).length:Nat):Int)=0)=false:=hb;have hd0:(zaN s).length≠0:=fun h=>of_decide_eq_false hb (by omega);apply zab;have q0:inR .i64 (((zaQ s:Nat):Int)+(((zaN s).length:Nat):Int)):=zan (by omega) (by omega);have q1:(0:Int)≤((zaQ s:Nat):Int)+(((zaN s).length:Nat):Int):=by omega
 have q2:((zaQ s:Nat):Int)+(((zaN s).length:Nat):Int)≤((s.length:Nat):Int):=by omega
 have q3:((zaQ s:Nat):Int) < ((s.length:Nat):Int):=by omega
 refine za (za ?_);refine zaa hX zbG rfl ?_ ?_
 ·exact⟨q0,q0,q1,q2⟩
 have hm:((zaQ s:Nat):Int)+(((zaN s).length:Nat):Int)=((zaQ s+(zaN s).length:Nat):Int):=by omega
 refine zaq (σ':=⟨[(0,⟨.str,s⟩),(2,⟨.optr tk,⟨0,tk,.here⟩⟩),(3,⟨.bool,false⟩),(4,⟨i64,((zaQ s:Nat):Int)⟩),(5,⟨i64,(((zaN s).length:Nat):Int)⟩),(6,⟨.optr tk,⟨1,tk,.here⟩⟩)],[(0,some (.box tk zTk)),(1,some (.box tk (3,0,((zaQ s+(zaN s).length:Nat):Int),s.take (zaQ s+(zaN s).length),1125899906842624,())))],2⟩) ⟨⟨rfl,rfl,rfl,rfl,rfl,rfl,trivial⟩,⟨rfl,zfP ?_,trivial⟩,rfl,rfl⟩ ?_
 ·show ((3:Int),(0:Int),((zaQ s:Nat):Int)+(((zaN s).length:Nat):Int),List.take (((zaQ s:Nat):Int)+(((zaN s).length:Nat):Int)).toNat s,(1125899906842624:Int),())=_;rw[hm,zH]
 have hds:zaN s=(s.drop (zaQ s)).takeWhile isDg:=rfl;have hhd:(zaN s).head? =some (s.getD (zaQ s) 0):=by
  rw[hds];have hne2:(s.drop (zaQ s)).takeWhile isDg≠ []:=fun h=>hd0 (by rw[hds,h];rfl);rw[List.head?_eq_some_head hne2,List.head_takeWhile]
  congr 1
  rw[List.head_drop,zQ,yd (by omega)];rfl
 refine za (za ?_);refine zaa hX zbG rfl ?_ ?_
 ·exact⟨p0,q3,fun h=>⟨h,h,q0⟩,fun h=>h,fun h=>h⟩
 have htest:(bif ((((s.getD (((zaQ s:Nat):Int)).toNat 0).toNat:Nat):Int)==(((48:UInt8).toNat:Nat):Int)) then decide (((zaQ s:Nat):Int)+(((zaN s).length:Nat):Int) > 1) else false)=decide ((zaN s).head? =some 48∧1 < zaQ s+(zaN s).length):=by
  rw[u8eq,zco,zH,hhd,yu,zd,beq_iff_eq,decide_eq_true_iff,decide_eq_true_iff,Option.some_inj];constructor
  ·rintro ⟨h1,h2⟩;exact⟨h1,by omega⟩
  ·rintro ⟨h1,h2⟩;exact⟨h1,by omega⟩
 have hno:zcR s=if (zaN s).head? =some 48∧1 < zaQ s+(zaN s).length then some (5,zaQ s+(zaN s).length,s.take (zaQ s+(zaN s).length),(zda:Int)) else some (3,zaQ s+(zaN s).length,s.take (zaQ s+(zaN s).length),valN s):=by
  rw[zcR,if_neg hd0]
 refine zaf rfl (fun hb=>?_) (fun hb=>?_)
 ·have hb:=htest.symm.trans hb;have hb:=of_decide_eq_true hb;(repeat(first|apply zae|apply zab|apply zal|apply zad|apply zac|refine zaa hX zbG rfl trivial ?_|refine zaa hX zbG rfl id ?_|refine zaa hX zbG rfl ⟨id,id⟩ ?_));refine zq ⟨.inr rfl,zbk (by decide) rfl rfl trivial ?_⟩;show (((5:Int),(0:Int),((zaQ s+(zaN s).length:Nat):Int),s.take (zaQ s+(zaN s).length),(1125899906842624:Int),()),(true,()))=zeT s;unfold zeT;rw[hno,if_pos hb];rfl
 have hb:=htest.symm.trans hb;have hb:=of_decide_eq_false hb;rw[if_neg hb]at hno;apply zab;have hlist:((s.take ((((zaQ s:Nat):Int)+(((zaN s).length:Nat):Int))).toNat).drop (((zaQ s:Nat):Int)).toNat)=zaN s:=by
  rw[hm,zH,zH,List.drop_take,Nat.add_sub_cancel_left,hds];exact List.prefix_iff_eq_take.1 (jp isDg) |>.symm
 have hdig:∀ c∈zaN s,isDg c=true:=fun c hc=>by
  rw[hds]at hc;exact zfx hc
 have hdne:zaN s≠ []:=fun h=>hd0 (by rw[h];rfl);(repeat(first|apply zae|apply zab|apply zac|apply zad));refine zai ?_;refine yh 6 hX zbG rfl ⟨q0,p0,(by omega:((zaQ s:Nat):Int)≤((zaQ s:Nat):Int)+(((zaN s).length:Nat):Int)),q2⟩ ?_;refine qE rfl (fun c e=>by cases e) fun β a w hsim=>?_;have h46:a.eval (.tmp 46)= .string ⟨(zaN s).toArray⟩:=by
  have:=(RepV.str (hsim.ops (.tmp 46))).1;rwa[hlist]at this
 refine zgF (f:=177) rfl Tryz.call177 ?_;show Calls _ _ ((#[uW 46,.const (.int .i64 10),.const (.int .i64 64)].toList.map a.eval).toArray) _ _;rw[show ((#[uW 46,.const (.int .i64 10),.const (.int .i64 64)].toList.map a.eval).toArray:Array zh)= #[.string ⟨(zaN s).toArray⟩,.int .i64 10,.int .i64 64] by show #[a.eval (.tmp 46),_,_]=_;rw[h46];rfl];refine (zi6 hdne hdig (by omega) w (hX.2.2 w hsim.bel)).mono ?_;rintro e w'' ⟨v,ev,rfl,hb2,hend⟩;refine⟨_,rfl,⟨(47,⟨.lit,.tuple #[.int .i64 v,ev]⟩)::_,_,_⟩,β,hsim.put hb2 (v:=⟨.lit,.tuple #[.int .i64 v,ev]⟩) rfl (zm _) (by show 47 < 65;omega),?_⟩;refine yh 1 hX zbG rfl trivial ?_;refine qE rfl (fun c e=>by cases e) fun β a w' hs'=>?_;have h33:a.eval (.tmp 40)= .tuple #[.int .i64 v,ev]:=hs'.ops (.tmp 40);refine zbx (u:=.int .i64 v) (w':=w') ?_ ⟨⟨(48,⟨i64,v⟩)::_,_,_⟩,β,hs'.put (zO _ _) (v:=⟨i64,v⟩) (RepV.ofInt (k:=.i64)) (zm _) (by show 48 < 65;omega),?_⟩
 ·show (execOp a.eval { dst:=some 48,op:=Op.extract (.tmp 40) 0,type:=_,pos:=_,after:=_,guard:=none }).run _ _=_;unfold execOp;simp[h33,jO]
 refine qE rfl (fun c e=>by cases e) fun β a w' hs'=>?_;have h33:a.eval (.tmp 40)= .tuple #[.int .i64 v,ev]:=hs'.ops (.tmp 40);refine zbx (u:=ev) (w':=w') ?_ ⟨⟨(49,⟨.lit,ev⟩)::_,_,_⟩,β,hs'.put (zO _ _) (v:=⟨.lit,ev⟩) rfl (zm _) (by show 49 < 65;omega),?_⟩
 ·show (execOp a.eval { dst:=some 49,op:=Op.extract (.tmp 40) 1,type:=_,pos:=_,after:=_,guard:=none }).run _ _=_;unfold execOp;simp[h33,jO]
 refine zV hX zbG rfl trivial ?_;refine zaq (σ':=⟨[(0,⟨.str,s⟩),(2,⟨.optr tk,⟨0,tk,.here⟩⟩),(4,⟨i64,((zaQ s:Nat):Int)⟩),(6,⟨.optr tk,⟨1,tk,.here⟩⟩),(7,⟨i64,v⟩),(8,⟨.lit,ev⟩)],[(0,some (.box tk zTk)),(1,some (.box tk (3,0,((zaQ s+(zaN s).length:Nat):Int),s.take (zaQ s+(zaN s).length),1125899906842624,())))],2⟩) ⟨⟨rfl,rfl,rfl,rfl,rfl,rfl,trivial⟩,⟨rfl,rfl,trivial⟩,rfl,rfl⟩ ?_;(repeat(first|apply zae|apply zab|apply zac|apply zad));refine zai ?_;refine yh 1 hX zbG rfl trivial ?_;refine qE rfl (fun c e=>by cases e) fun β a w' hs'=>?_;have h38:a.eval (.tmp 50)=ev:=hs'.ops (.tmp 50);obtain⟨b,hbv⟩:∃ b,b=zkt ev:=⟨_,rfl⟩;refine zbx (u:=.bool b) (w':=w') (by rw[hbv];exact eqlNil h38 (hend.imp (fun h=>h.1) (fun h=>h.1))) ⟨⟨(51,⟨.bool,b⟩)::_,_,_⟩,β,hs'.put (zO _ _) (v:=⟨.bool,b⟩) RepV.ofBool (zm _) (by show 51 < 65;omega),?_⟩;have hsmall:(bif b then decide (v < 1125899906842624) else false)=true↔(b=true∧v=((numv (zaN s):Nat):Int)∧numv (zaN s) < zda):=znb _ zte hend hbv;have hbig:¬ (bif b then decide (v < 1125899906842624) else false)=true->zda≤numv (zaN s):=fun h=>by
  rcases hend with ⟨rfl,rfl⟩|⟨⟨t,p,rfl⟩,hn⟩
  ·rcases Nat.lt_or_ge (numv (zaN s)) zda with h1|h1
   ·exact absurd (hsmall.2 ⟨hbv,rfl,h1⟩) h
   ·exact h1
  ·exact hn
 refine zV hX zbG rfl ?_ ?_
 ·exact⟨fun h=>h,fun h=>h⟩
 have hfin:valN s=if zaQ s=1 then -((min (numv (zaN s)) zda:Nat):Int) else ((min (numv (zaN s)) zda:Nat):Int):=rfl
 refine AWP.viaQ (σ':=⟨[(2,⟨.optr tk,⟨0,tk,.here⟩⟩),(4,⟨i64,((zaQ s:Nat):Int)⟩),(6,⟨.optr tk,⟨1,tk,.here⟩⟩)],[(0,some (.box tk zTk)),(1,some (.box tk (3,0,((zaQ s+(zaN s).length:Nat):Int),s.take (zaQ s+(zaN s).length),((min (numv (zaN s)) zda:Nat):Int),())))],2⟩) ?_ ?_
 ·refine zaf rfl (fun hb=>?_) (fun hb=>?_)
  ·have hb:(bif b then decide (v < 1125899906842624) else false)=true:=hb;obtain⟨_,h2,h3⟩:=hsmall.1 hb;refine za (za ?_);refine zaa hX zbG rfl ?_ ?_
   ·trivial
   refine⟨⟨rfl,rfl,rfl,trivial⟩,⟨rfl,zfP ?_,trivial⟩,rfl,rfl⟩;rw[Nat.min_eq_left (Nat.le_of_lt h3), <-h2]
  ·have hb:¬ (bif b then decide (v < 1125899906842624) else false)=true:=by
    intro h;have hb:(bif b then decide (v < 1125899906842624) else false)=false:=hb;rw[hb]at h;cases h
   refine zab ⟨⟨rfl,rfl,rfl,trivial⟩,⟨rfl,zfP ?_,trivial⟩,rfl,rfl⟩;rw[Nat.min_eq_right (hbig hb)];rfl
 have hbnd:((min (numv (zaN s)) zda:Nat):Int)≤1125899906842624:=by
  have:=Nat.min_le_right (numv (zaN s)) zda;unfold zda at *;omega
 refine za (za ?_);refine zaa hX zbG rfl ?_ ?_
 ·trivial
 refine AWP.viaQ (σ':=⟨[(2,⟨.optr tk,⟨0,tk,.here⟩⟩),(6,⟨.optr tk,⟨1,tk,.here⟩⟩)],[(0,some (.box tk zTk)),(1,some (.box tk (3,0,((zaQ s+(zaN s).length:Nat):Int),s.take (zaQ s+(zaN s).length),valN s,())))],2⟩) ?_ ?_
 ·refine zaf rfl (fun hb=>?_) (fun hb=>?_)
  ·have hb:decide (((zaQ s:Nat):Int)=1)=true:=hb;have hb:=of_decide_eq_true hb;refine za (za ?_);refine zaa hX zbG rfl ?_ ?_
   ·show inR .i64 (-((min (numv (zaN s)) zda:Nat):Int));exact zan (by omega) (by omega)
   refine⟨⟨rfl,rfl,trivial⟩,⟨rfl,zfP ?_,trivial⟩,rfl,rfl⟩;rw[hfin,if_pos (by omega)]
  ·have hb:decide (((zaQ s:Nat):Int)=1)=false:=hb;have hb:=of_decide_eq_false hb;refine zab ⟨⟨rfl,rfl,trivial⟩,⟨rfl,zfP ?_,trivial⟩,rfl,rfl⟩;rw[hfin,if_neg (by omega)]
 (repeat(first|apply zae|apply zab|apply zal|apply zad|apply zac|refine zaa hX zbG rfl trivial ?_|refine zaa hX zbG rfl id ?_|refine zaa hX zbG rfl ⟨id,id⟩ ?_));refine zq ⟨.inr rfl,zbk (by decide) rfl rfl trivial ?_⟩;show (((3:Int),(0:Int),((zaQ s+(zaN s).length:Nat):Int),s.take (zaQ s+(zaN s).length),valN s,()),(true,()))=zeT s;unfold zeT;rw[hno]
section
open Go Go.RowKit Go.ChangeShapes Go.WideShapes Go.ChangeAt
theorem own:ownKnob Tryz.prog.godebug=none:=by kernel_rfl
theorem zs6:laidOutB Tryz.prog=true:=by kernel_rfl
abbrev zpc:List (String×DataW Unit):=Rows.grammarParseMatchesReferenceRow.laid
theorem tab_eq:(zpc.filter fun x=>x.1=="internal/strconv.uint64pow10")=[("internal/strconv.uint64pow10",Lib.tabData .u64 Lib.pow10Tab)]:=by kernel_rfl
theorem err_eq:(zpc.filter fun x=>x.1=="strconv.ErrRange")=[("strconv.ErrRange",Rows.laid_strconv_ErrRange)]:=by kernel_rfl
theorem znk:(zpc.filter fun x=>x.2.handleName?.isSome)=[]:=by kernel_rfl
theorem zrb:(Tryz.prog.globals[5]?).map (·.type)=some 267:=by kernel_rfl
theorem zrq:Tryz.prog.cellsOf 267=20:=by kernel_rfl
theorem zrp:Tryz.prog.cellsOf 236=1:=by kernel_rfl
theorem gErr:Tryz.prog.globalNamed "strconv.ErrRange"=some 4:=by kernel_rfl
theorem zrc:(Tryz.prog.globals[4]?).map (·.type)=some 114:=by kernel_rfl
theorem ztD {W:zj} (h:laidMetH Tryz.prog zpc W):gmH W:=by
 have h1:laidMet Tryz.prog zpc W:=by
  have:=(laidMetH_iff.1 h).1;rwa[List.filter_eq_self.2 (fun x hx=>by
   have hn:=(List.filter_eq_nil_iff.1 znk) x hx;cases he:x.2.handleName? with
   |none=>rfl
   |some s=>rw[he]at hn;exact absurd rfl hn)]at this
 have ht:=h1.filter fun x=>x.1=="internal/strconv.uint64pow10";have he:=h1.filter fun x=>x.1=="strconv.ErrRange";rw[tab_eq]at ht;rw[err_eq]at he;refine⟨Lib.tabIs_of_head (rest:=[]) zti zrb Tryz.underlying267 Tryz.underlying236 zrp zrq ht,?_⟩;obtain⟨ps,⟨g',t',cs,fuel,p,q,hg',ht',hvar,hd,_,_⟩,_⟩:=he;obtain rfl:=ya (gErr.symm.trans hg');obtain rfl:=ya (zrc.symm.trans ht');obtain⟨_,u,v,hcs,_,_⟩:=iface_of_trod errT hd;refine⟨.iface u v,?_,.inr ⟨u,v,rfl⟩⟩;unfold wg at hvar;rw[gErr]at hvar;simp only[jE]at hvar;unfold xB;cases ho:W.heap[4]? with
 |none=>rw[ho]at hvar;cases hvar
 |some o=>
  rw[ho]at hvar;cases o<;>simp at hvar;rename_i c t fz;subst hvar;simp;rw[<-Array.getElem?_toList,hcs];rfl
def numD:DataW Unit->Int
 | .lit (.int _ z)=>z
 |_=>0
def zpv:DataW Unit->List Int
 | .agg ds=>ds.flatMap fun d=>match d with
  | .agg es=>es.map numD
  |d=>[numD d]
 |_=>[]
def setG (g:Nat) (cs:List zh) (h:Array Obj):Array Obj:=h.modify g fun
 | .cells _ t frozen=>.cells cs.toArray t frozen
 |o=>o
noncomputable def heapW (os:Os):Array Obj:=
 let h:=(World.holding Tryz.prog os ⟨#[],#[],[]⟩).heap
 let n:=h.size
 ((setG 6 ((zpv Rows.laid_math_bits_deBruijn32tab).map (.int .u8 ·)) <|
   setG 7 ((zpv Rows.laid_math_bits_deBruijn64tab).map (.int .u8 ·)) <|
   setG 5 ((zpv Rows.laid_internal_strconv_uint64pow10).map (.int .u64 ·)) <|
   setG 1 ((zpv Rows.laid_unicode_utf8_acceptRanges).map (.int .u8 ·)) <|
   setG 0 ((zpv Rows.laid_unicode_utf8_first).map (.int .u8 ·)) <|
   setG 4 [.iface 273 (.pointer (some ⟨n,0,none⟩))] <|
   setG 3 [.iface 273 (.pointer (some ⟨n+1,0,none⟩))] h).push
    (.cells #[.string ⟨#[118,97,108,117,101,32,111,117,116,32,111,102,32,114,97,110,103,101]⟩] 275)).push
    (.cells #[.string ⟨#[105,110,118,97,108,105,100,32,115,121,110,116,97,120]⟩] 275)
noncomputable def zhs (os:Os):zj:={ World.holding Tryz.prog os ⟨#[],#[],[]⟩ with heap:=heapW os }
end
section
variable {s:List UInt8}
theorem zdL {st st':GSt} {w:List UInt8} (he:za0 s st w= .ok st'):st'.2=st.2:=by
 obtain⟨u,_,h2⟩:=zao he;cases h2;rfl
theorem zdb {st st':GSt} (he:zbR s st= .ok st'):st'.2=st.2+1:=by
 obtain⟨u,_,h2⟩:=zao he;cases h2;rfl
theorem zbv {st st':GSt} {lo hi x:Int} (he:zaO s st lo hi= .ok (x,st')):st'.2=st.2:=by
 obtain⟨_,_,he⟩:=zao he;obtain⟨_,_,he⟩:=zao he;cases he;rfl
theorem zmt {lo hi:Int} {z:Bool}:∀ (k:Nat) {st st':GSt} {l l':List Int},zcs s lo hi z k st l= .ok (l',st')->st'.2=st.2
 |0,_,_,_,_,he=>by cases he
 |k+1,st,st',l,l',he=>by
  unfold zcs at he;split at he
  ·cases he;rfl
  ·obtain⟨_,_,he⟩:=zao he;obtain⟨_,_,he⟩:=zao he;obtain⟨_,_,he⟩:=zao he;obtain⟨⟨x,st1⟩,h1,he⟩:=zao he;rw[zmt k he,zbv h1]
theorem zjl {st st':GSt} {lo hi:Int} {z:Bool} {l:List Int} (he:zdk s st lo hi z= .ok (l,st')):st'.2=st.2:=by
 obtain⟨st1,h1,he⟩:=zao he;obtain⟨⟨l1,st2⟩,h2,he⟩:=zao he;obtain⟨st3,h3,he⟩:=zao he;cases he;rw[zdL h3,zmt _ h2,zdL h1]
theorem zms {st st':GSt} {x:Int} (he:zdK s st= .ok (x,st')):st'.2=st.2:=by
 obtain⟨_,_,he⟩:=zao he;cases he;rfl
theorem ztj {st st':GSt} {n:Nd}:∀ (w:LeafW),zdl s st w= .ok (n,st')->st'.2=st.2
 | .days,he=>by
  obtain⟨⟨x,a⟩,h1,he⟩:=zao he;obtain⟨⟨y,b⟩,h2,he⟩:=zao he;cases he;rw[zbv h2,zbv h1]
 | .years,he=>by
  obtain⟨⟨x,a⟩,h1,he⟩:=zao he;obtain⟨⟨y,b⟩,h2,he⟩:=zao he;obtain⟨⟨z,c⟩,h3,he⟩:=zao he;cases he;rw[zbv h3,zbv h2,zbv h1]
 | .months,he| .monthdays,he| .weeks,he=>by
  obtain⟨⟨x,a⟩,h1,he⟩:=zao he;obtain⟨⟨y,b⟩,h2,he⟩:=zao he;cases he;rw[zjl h2,zbv h1]
 | .weekdays,he=>by
  obtain⟨⟨y,b⟩,h2,he⟩:=zao he;cases he;exact zjl h2
 | .nth,he=>by
  obtain⟨⟨x,a⟩,h1,he⟩:=zao he;obtain⟨_,_,he⟩:=zao he;obtain⟨⟨y,b⟩,h2,he⟩:=zao he;obtain⟨⟨z,c⟩,h3,he⟩:=zao he;obtain⟨⟨u,d⟩,h4,he⟩:=zao he;cases he;rw[zms h4,zbv h3,zbv h2,zbv h1]
theorem zmr {st st':GSt} {n:Nd}:∀ (w:SufW),gSuf s st w= .ok (n,st')->st'.2=st.2
 | .shift,he| .from_,he| .until_,he=>by
  obtain⟨⟨x,a⟩,h1,he⟩:=zao he;cases he;exact zbv h1
 | .also,he| .except_,he=>by
  obtain⟨⟨x,a⟩,h1,he⟩:=zao he;cases he;exact zjl h1
 | .pos,he=>by
  obtain⟨⟨x,a⟩,h1,he⟩:=zao he;obtain⟨⟨y,b⟩,h2,he⟩:=zao he;obtain⟨⟨z,c⟩,h3,he⟩:=zao he;cases he;rw[zjl h3,zms h2,zbv h1]
 | .behind,he=>by
  obtain⟨⟨x,a⟩,h1,he⟩:=zao he;obtain⟨b,h2,he⟩:=zao he;cases he;rw[zdL h2,zbv h1]
def SzOk (st:GSt) (t:Tr) (st':GSt):Md->Prop
 | .binL _ t0=>st'.2+(t0.size:Int)=st.2+(t.size:Int)
 | .chainL t0=>st'.2+(t0.size:Int)=st.2+(t.size:Int)
 |_=>st'.2=st.2+(t.size:Int)
theorem zqF {r:Md->GSt->GE (Tr×GSt)} (hr:∀ md st t st',r md st= .ok (t,st')->SzOk st t st' md):∀ md st t st',zbq s r md st= .ok (t,st')->SzOk st t st' md
 | .bin i,st,t,st',he=>by
  rw[zbq]at he;split at he
  ·exact hr .chain _ _ _ he
  ·obtain⟨⟨u,a⟩,h1,he⟩:=zao he;have k1:a.2=st.2+(u.size:Int):=hr _ _ _ _ h1;have k2:st'.2+(u.size:Int)=a.2+(t.size:Int):=hr _ _ _ _ he;show st'.2=st.2+(t.size:Int);omega
 | .binL i t0,st,t,st',he=>by
  rw[zbq]at he;split at he
  ·obtain⟨a,h1,he⟩:=zao he;obtain⟨⟨u,b⟩,h2,he⟩:=zao he;have k1:=zdb h1;have k2:b.2=a.2+(u.size:Int):=hr _ _ _ _ h2;have k3:st'.2+((t0.size+u.size+1:Nat):Int)=b.2+(t.size:Int):=hr _ _ _ _ he;show st'.2+(t0.size:Int)=st.2+(t.size:Int);omega
  ·cases he;rfl
 | .chain,st,t,st',he=>by
  rw[zbq]at he;obtain⟨⟨u,a⟩,h1,he⟩:=zao he;have k1:a.2=st.2+(u.size:Int):=hr _ _ _ _ h1;have k2:st'.2+(u.size:Int)=a.2+(t.size:Int):=hr _ _ _ _ he;show st'.2=st.2+(t.size:Int);omega
 | .chainL t0,st,t,st',he=>by
  show st'.2+(t0.size:Int)=st.2+(t.size:Int);rw[zbq]at he;split at he
  ·split at he
   ·cases he;rfl
   ·obtain⟨a,h1,he⟩:=zao he;obtain⟨⟨n,b⟩,h2,he⟩:=zao he;obtain⟨⟨u,c⟩,h3,he⟩:=zao he;have k1:=zdb h1;have k2:=zmr _ h2;have k3:c.2=b.2+(u.size:Int):=hr _ _ _ _ h3;have k4:st'.2+((t0.size+u.size+1:Nat):Int)=c.2+(t.size:Int):=hr _ _ _ _ he;omega
   ·obtain⟨a,h1,he⟩:=zao he;obtain⟨⟨n,b⟩,h2,he⟩:=zao he;have k1:=zdb h1;have k2:=zmr _ h2;have k4:st'.2+((t0.size+1:Nat):Int)=b.2+(t.size:Int):=hr _ _ _ _ he;omega
  ·cases he;rfl
 | .prim,st,t,st',he=>by
  show st'.2=st.2+(t.size:Int);rw[zbq]at he;split at he
  ·obtain⟨⟨u,a⟩,h1,he⟩:=zao he;obtain⟨b,h2,he⟩:=zao he;cases he;have k1:a.2=(gAdv s st).2+(t.size:Int):=hr _ _ _ _ h1;have k2:=zdL h2;have k3:(gAdv s st).2=st.2:=rfl;omega
  ·split at he
   ·obtain⟨_,_,he⟩:=zao he;obtain⟨a,h1,he⟩:=zao he;cases he;exact zdb h1
   ·obtain⟨_,h0,he⟩:=zao he;split at he
    ·cases he
    ·obtain⟨a,h1,he⟩:=zao he;obtain⟨⟨n,b⟩,h2,he⟩:=zao he;cases he;rw[ztj _ h2];exact zdb h1
theorem zrM:∀ (k:Nat) md st t st',prs s k md st= .ok (t,st')->SzOk st t st' md
 |0,_,_,_,_,he=>by cases he
 |k+1,md,st,t,st',he=>zqF (zrM k) md st t st' he
theorem zi5 {md:Md} {st st':GSt} {t:Tr} (he:prsT s md st= .ok (t,st')):SzOk st t st' md:=zrM _ _ _ _ _ he
theorem Tr.size_pos:∀ t:Tr,1≤t.size
 | .leaf _=>zk _
 | .un _ a=>Nat.le_add_left _ _
 | .bin _ a b=>Nat.le_add_left _ _
theorem zhd {i:Nat} {st:GSt} (h:GOk s st) (hi:3≤i):prsT s (.bin i) st=prsT s .chain st:=by
 rw[zcy h,zbq,if_pos hi]
theorem zgI {i:Nat} {st:GSt} (h:GOk s st) (hi:¬ 3≤i):prsT s (.bin i) st=(prsT s (.bin (i+1)) st >>= fun p=>prsT s (.binL i p.1) p.2):=by
 rw[zcy h,zbq,if_neg hi]
theorem zir {i:Nat} {t:Tr} {st:GSt} (h:GOk s st) (hi:gIs st (opW i)=false):prsT s (.binL i t) st= .ok (t,st):=by
 rw[zcy h,zbq,if_neg (by rw[hi];decide)]
theorem ziq {i:Nat} {t:Tr} {st:GSt} (h:GOk s st) (hi:gIs st (opW i)=true):prsT s (.binL i t) st=(zbR s st >>= fun st=>prsT s (.bin (i+1)) st >>= fun p=>prsT s (.binL i (.bin (opK i,zNd.2) t p.1)) p.2):=by
 rw[zcy h,zbq,if_pos hi]
theorem zio {st:GSt} (h:GOk s st):prsT s .chain st=(prsT s .prim st >>= fun p=>prsT s (.chainL p.1) p.2):=by
 rw[zcy h,zbq]
theorem zeh {t:Tr} {st:GSt} (h:GOk s st) (hc:zK st.1≠1):prsT s (.chainL t) st= .ok (t,st):=by
 rw[zcy h,zbq,if_neg hc]
theorem zgr {t:Tr} {st:GSt} (h:GOk s st) (hc:zK st.1=1) (hw:sufW (zL st.1)=none):prsT s (.chainL t) st= .ok (t,st):=by
 rw[zcy h,zbq,if_pos hc,hw]
def sufT (t:Tr) (st:GSt):SufW->GE (Tr×GSt)
 | .behind=>gSuf s st .behind >>= fun p=>prsT s .prim p.2 >>= fun u=>.ok (.bin p.1 t u.1,u.2)
 |w=>gSuf s st w >>= fun p=>.ok (.un p.1 t,p.2)
theorem zgs {t:Tr} {st:GSt} {w:SufW} (h:GOk s st) (hc:zK st.1=1) (hw:sufW (zL st.1)=some w):prsT s (.chainL t) st=(zbR s st >>= fun st=>sufT (s:=s) t st w >>= fun p=>prsT s (.chainL p.1) p.2):=by
 rw[zcy h,zbq,if_pos hc,hw];cases w<;>(
  simp only[sufT];cases zbR s st with
  |error e=>rfl
  |ok a=>
   show (gSuf s a _ >>= _)=((gSuf s a _ >>= _) >>= _);cases gSuf s a _ with
   |error e=>rfl
   |ok p=>
    first
    |rfl
    |(show (prsT s .prim p.2 >>= _)=((prsT s .prim p.2 >>= _) >>= _)
      cases prsT s .prim p.2<;>rfl))
end
section
variable {s:List UInt8}
def Er {α:Type} (s:List UInt8) (m:Except (Int×Int) α):Prop:=∀ er,m= .error er->0≤er.1∧er.1≤((s.length:Nat):Int)
theorem zaB {α β:Type} {m:Except (Int×Int) α} {f:α->Except (Int×Int) β} (h1:Er s m) (h2:∀ x,m= .ok x->Er s (f x)):Er s (m >>= f):=by
 intro er he;cases hm:m with
 |error e=>
  rw[hm]at he;have he:(.error e:Except (Int×Int) β)= .error er:=he;cases he;exact h1 _ hm
 |ok x=>
  rw[hm]at he;exact h2 x hm er he
theorem zdc {α:Type} {x:α}:Er s (.ok x:Except (Int×Int) α):=fun _ h=>by cases h
theorem zrh {α:Type} {st:GSt} {e:Int} (h:GOk s st):Er s (.error (Tok.at st.1,e):Except (Int×Int) α):=fun er he=>by
 cases he;obtain⟨⟨⟨a1,a2,a3⟩,_⟩,_⟩:=h;exact⟨a1,by show Tok.at st.1≤_;omega⟩
theorem zb0 {st:GSt} {b:Bool} {e:Int} (h:GOk s st):Er s (zaD st b e):=by
 unfold zaD;split
 ·exact zdc
 ·exact zrh h
theorem zer {st:GSt} {w:List UInt8} (h:GOk s st):Er s (za0 s st w):=zaB (zb0 h) fun _ _=>zdc
theorem zfK {st:GSt} (h:GOk s st):Er s (zbR s st):=zaB (zb0 h) fun _ _=>zdc
theorem zbJ {st:GSt} {lo hi:Int} (h:GOk s st):Er s (zaO s st lo hi):=zaB (zb0 h) fun _ _=>zaB (zb0 h) fun _ _=>zdc
theorem zmy {lo hi:Int} {z:Bool}:∀ (k:Nat) {st:GSt} {l:List Int},GOk s st->Er s (zcs s lo hi z k st l)
 |0,_,_,h=>zrh h
 |k+1,st,l,h=>by
  unfold zcs;split
  ·exact zdc
  ·exact zaB (zb0 h) fun _ _=>zaB (zb0 h) fun _ _=>zaB (zb0 h) fun _ _=>zaB (zbJ h) fun p hp=>zmy k (zat h hp).1.1
theorem zjo {st:GSt} {lo hi:Int} {z:Bool} (h:GOk s st):Er s (zdk s st lo hi z):=
 zaB (zer h) fun a ha=>zaB (zmy _ (zbs h ha).1) fun p hp=>zaB (zer (by
  rcases zhA _ (zbs h ha).1 hp with e|k
  ·rw[e];exact (zbs h ha).1
  ·exact k.1)) fun _ _=>zdc
theorem zmx {st:GSt} (h:GOk s st):Er s (zdK s st):=zaB (zb0 h) fun _ _=>zdc
theorem ztA {st:GSt} (h:GOk s st):∀ w:LeafW,Er s (zdl s st w)
 | .days=>zaB (zbJ h) fun p hp=>zaB (zbJ (zat h hp).1.1) fun _ _=>zdc
 | .years=>zaB (zbJ h) fun p hp=>zaB (zbJ (zat h hp).1.1) fun q hq=>zaB (zbJ (zat (zat h hp).1.1 hq).1.1) fun _ _=>zdc
 | .months| .monthdays| .weeks=>zaB (zbJ h) fun p hp=>zaB (zjo (zat h hp).1.1) fun _ _=>zdc
 | .weekdays=>zaB (zjo h) fun _ _=>zdc
 | .nth=>zaB (zbJ h) fun p hp=>zaB (zb0 (zat h hp).1.1) fun _ _=>zaB (zbJ (zat h hp).1.1) fun q hq=>zaB (zbJ (zat (zat h hp).1.1 hq).1.1) fun r hr=>zaB (zmx (zat (zat (zat h hp).1.1 hq).1.1 hr).1.1) fun _ _=>zdc
theorem zr1 {st:GSt} (h:GOk s st):∀ w:SufW,Er s (gSuf s st w)
 | .shift| .from_| .until_=>zaB (zbJ h) fun _ _=>zdc
 | .also| .except_=>zaB (zjo h) fun _ _=>zdc
 | .pos=>zaB (zbJ h) fun p hp=>zaB (zmx (zat h hp).1.1) fun q hq=>zaB (zjo (zeo (zat h hp).1.1 hq).1) fun _ _=>zdc
 | .behind=>zaB (zbJ h) fun p hp=>zaB (zer (zat h hp).1.1) fun _ _=>zdc
theorem zgd {md:Md} {st st':GSt} (h:GOk s st) (k:Cons s st st' md):GOk s st':=by
 cases md with
 |bin i=>exact k.1
 |chain=>exact k.1
 |prim=>exact k.1
 |binL i t=>
  rcases k with rfl|k
  ·exact h
  ·exact k.1
 |chainL t=>
  rcases k with rfl|k
  ·exact h
  ·exact k.1
theorem zd3:∀ (k:Nat) (md:Md) (st:GSt),GOk s st->Er s (prs s k md st)
 |0,_,_,h=>zrh h
 |k+1,.bin i,st,h=>by
  unfold prs;rw[zbq];split
  ·exact zd3 k _ _ h
  ·exact zaB (zd3 k _ _ h) fun p hp=>zd3 k _ _ (zgd h (zcM k _ _ _ _ h hp))
 |k+1,.binL i t,st,h=>by
  unfold prs;rw[zbq];split
  ·rename_i hi;refine zaB (zfK h) fun a ha=>?_;have k1:=zbi h (zdB hi) ha;exact zaB (zd3 k _ _ k1.1) fun p hp=>zd3 k _ _ (zgd k1.1 (zcM k _ _ _ _ k1.1 hp))
  ·exact zdc
 |k+1,.chain,st,h=>by
  unfold prs;rw[zbq];exact zaB (zd3 k _ _ h) fun p hp=>zd3 k _ _ (zgd h (zcM k _ _ _ _ h hp))
 |k+1,.chainL t,st,h=>by
  unfold prs;rw[zbq];split
  ·rename_i hc;split
   ·exact zdc
   ·refine zaB (zfK h) fun a ha=>?_;have k1:=zbi h (by rw[hc];decide) ha;refine zaB (zr1 k1.1 _) fun p hp=>?_;have k2:=zen k1.1 _ hp;exact zaB (zd3 k _ _ k2.1) fun q hq=>zd3 k _ _ (zgd k2.1 (zcM k _ _ _ _ k2.1 hq))
   ·refine zaB (zfK h) fun a ha=>?_;have k1:=zbi h (by rw[hc];decide) ha;refine zaB (zr1 k1.1 _) fun p hp=>?_;have k2:=zen k1.1 _ hp;exact zd3 k _ _ k2.1
  ·exact zdc
 |k+1,.prim,st,h=>by
  unfold prs;rw[zbq];split
  ·rename_i hi;have k0:=zci h (zdB hi);exact zaB (zd3 k _ _ k0.1) fun p hp=>zaB (zer (zgd k0.1 (zcM k _ _ _ _ k0.1 hp))) fun _ _=>zdc
  ·split
   ·exact zaB (zb0 h) fun _ _=>zaB (zfK h) fun _ _=>zdc
   ·refine zaB (zb0 h) fun u hu=>?_;have hc:=zbI hu;rw[beq_iff_eq]at hc;split
    ·exact zrh h
    ·refine zaB (zfK h) fun a ha=>?_;have k1:=zbi h (by rw[hc];decide) ha;exact zaB (ztA k1.1 _) fun _ _=>zdc
theorem ztz {st:GSt} (h:GOk s st):Er s (zeO s st):=
 zaB (zd3 _ _ _ h) fun p hp=>zaB (zb0 (zgd h (zcM _ _ _ _ _ h hp))) fun _ _=>zdc
end
def cSym:Ctr:={ args:=[.str,.str],pre:=fun x=>[x.1=[40,41,61],∃ c,x.2.1=[c]],res:=.bool,own:=none,out:=fun x=>decide (0≤xi x.1 (x.2.1.getD 0 0)) }
theorem sym_ok:yM Tryz.prog gmG 132 cSym:=by
 refine⟨Tryz.call132,fun w O xs vs hO hr hp hG=>?_⟩;obtain⟨(s:List UInt8),(d:List UInt8),_⟩:=xs;obtain⟨h1,c,h2⟩:s=[40,41,61]∧∃ c,d=[c]:=hp;subst h1;subst h2;obtain⟨v1,r1,rfl,e1,v2,r2,rfl,e2,rfl⟩:=hr;have e1: [v1]=[jc ⟨#[40,41,61]⟩]∧_:=e1;have e2: [v2]=[jc ⟨#[c]⟩]∧_:=e2;obtain⟨e1,_⟩:=e1;obtain⟨e2,_⟩:=e2;cases e1;cases e2;refine kI (Any.strings_Contains_one Tryz.lays144 ⟨#[40,41,61]⟩ c w) ?_;rintro e w' ⟨rfl,rfl⟩;refine⟨_,rfl,zO _ _,fun β=>?_⟩;rfl
def zh1 (sk:Nat):List UInt8->TokT
 | []=>(0,(sk:Int),0,[],0,())
 |c::r=>
  if 0 < zay (c::r) then (1,(sk:Int),(zay (c::r):Nat),(c::r).take (zay (c::r)),0,())
  else if c=64∧0 < zay r then (2,(sk:Int),(zay r:Nat)+1,r.take (zay r),0,())
  else match zcR (c::r) with
   |some (k,n,t,x)=>(k,(sk:Int),(n:Nat),t,x,())
   |none=>if c=40∨c=41∨c=61 then (4,(sk:Int),1,[c],0,()) else (5,(sk:Int),1,[c],0,())
theorem zn9 (sk:Nat) (c:UInt8) (r:List UInt8) (h:¬ 0 < zay (c::r)):zh1 sk (c::r)=(if c=64∧0 < zay r then (2,(sk:Int),((zay r:Nat):Int)+1,r.take (zay r),0,())
 else match zcR (c::r) with
  |some (k,n,t,x)=>(k,(sk:Int),((n:Nat):Int),t,x,())
  |none=>if c=40∨c=41∨c=61 then (4,(sk:Int),1,[c],0,()) else (5,(sk:Int),1,[c],0,()):TokT):=if_neg h
theorem zsE (s:List UInt8):zaR s=zh1 (zbB isWh s) (s.drop (zbB isWh s)):=by
 rw[zaR];cases s.drop (zbB isWh s)<;>rfl
theorem znT (c:UInt8):decide (0≤xi [40,41,61] c)=true↔(c=40∨c=41∨c=61):=by
 have key:∀ n:Fin 256,decide (0≤xi [40,41,61] (UInt8.ofNat n.val))=decide (n.val=40∨n.val=41∨n.val=61):=by decide+kernel
 have h:=key ⟨c.toNat,UInt8.toNat_lt c⟩;simp only[UInt8.ofNat_toNat]at h;rw[h,decide_eq_true_iff];constructor
 ·rintro (h|h|h)
  ·exact .inl (je.1 h)
  ·exact .inr (.inl (je.1 h))
  ·exact .inr (.inr (je.1 h))
 ·rintro (rfl|rfl|rfl)<;>decide
def cScan:Ctr:={ args:=[.str],pre:=fun x=>[zg x.1≤100000],res:=tk,own:=none,out:=fun x=>zaR x.1 }
def kSc:Kn:={ gmK with C:=[(52,zlE 53 isWh),(65,zjr),(131,zmI),(132,cSym)] }
theorem zbf:KnOk Tryz.prog gmH kSc:=zak.with (.cons zjS.lift <| .cons zie.lift <| .cons znj <| .cons sym_ok.lift .nil)
theorem zsD:yM Tryz.prog gmH 79 cScan:=by
 refine zar (K:=kSc) zbf Tryz.func79 rfl rfl Tryz.call79 rfl (by decide) (by intro h;cases h) ?_;rintro w0 X hX ⟨(s:List UInt8),_⟩ hp;have hlen:s.length≤100000:=hp;change AWP _ _ _ _ _ ⟨[(0,⟨.str,s⟩)],[],0⟩ _;refine za (za ?_);refine zaa hX zbf rfl ?_ ?_
 ·trivial
 refine za (za ?_);refine zaa hX zbf rfl ?_ ?_
 ·exact rfl
 have hsk:=ziU isWh s;have q0:(0:Int)≤((zbB isWh s:Nat):Int):=by omega
 have q1:((zbB isWh s:Nat):Int)≤((s.length:Nat):Int):=by omega
 refine za (za ?_);refine zaa hX zbf rfl ?_ ?_
 ·exact⟨q0,q1⟩
 obtain⟨u,hu⟩:∃ u,u=s.drop (zbB isWh s):=⟨_,rfl⟩;have hul:u.length≤100000:=by rw[hu,xc];omega
 refine zaq (σ':=⟨[(0,⟨.str,u⟩),(2,⟨.optr tk,⟨0,tk,.here⟩⟩),(3,⟨i64,((zbB isWh s:Nat):Int)⟩)],[(0,some (.box tk zTk))],1⟩) ⟨⟨?_,rfl,rfl,trivial⟩,⟨rfl,trivial⟩,rfl,rfl⟩ ?_
 ·show (⟨.str,jC (((zbB isWh s:Nat):Int)).toNat s⟩:V)=⟨.str,u⟩;rw[zH,hu]
 show AWP _ _ _ _ _ _ (fun e σ=>(e= .normal∨e= .ret)∧Done _ _ σ none tk (zaR s));rw[zsE, <-hu];generalize zbB isWh s=sk at q0 q1 ⊢;clear hu hsk hlen q1 hp;cases u with
 |nil=>
  refine za (za ?_);refine zaa hX zbf rfl ?_ ?_
  ·trivial
  refine zaf rfl (fun _=>?_) (fun hb=>?_)
  ·(repeat(first|apply zae|apply zab|apply zal|apply zad|apply zac|refine zaa hX zbf rfl trivial ?_|refine zaa hX zbf rfl id ?_|refine zaa hX zbf rfl ⟨id,id⟩ ?_));exact zq ⟨.inr rfl,zax rfl trivial rfl rfl rfl⟩
  ·have hb:eqb .str ([]:List UInt8) []=false:=hb;rw[zbe.2 rfl]at hb;cases hb
 |cons c r=>
  have hrl:r.length≤100000:=by rw[zt]at hul;omega
  have n1:(1:Int)≤(((c::r).length:Nat):Int):=by rw[zt];omega
  have n2:(0:Int) < (((c::r).length:Nat):Int):=by rw[zt];omega
  refine za (za ?_);refine zaa hX zbf rfl ?_ ?_
  ·trivial
  refine zaf rfl (fun hb=>?_) (fun _=>?_)
  ·have hb:eqb .str (c::r:List UInt8) []=true:=hb;cases zbe.1 hb
  apply zab;refine za (za ?_);refine zaa hX zbf rfl ?_ ?_
  ·exact⟨(by decide:(0:Int)≤1),n1⟩
  refine zaq (σ':=⟨[(0,⟨.str,(c::r:List UInt8)⟩),(2,⟨.optr tk,⟨0,tk,.here⟩⟩),(3,⟨i64,(sk:Int)⟩),(4,⟨.optr tk,⟨1,tk,.here⟩⟩)],[(0,some (.box tk zTk)),(1,some (.box tk (5,0,1,[c],0,())))],2⟩) ⟨⟨rfl,rfl,rfl,rfl,trivial⟩,⟨rfl,rfl,trivial⟩,rfl,rfl⟩ ?_;have hwl:=zex (c::r);refine AWP.via (σ':=⟨[(2,⟨.optr tk,⟨0,tk,.here⟩⟩),(3,⟨i64,(sk:Int)⟩),(4,⟨.optr tk,⟨1,tk,.here⟩⟩)],[(0,some (.box tk zTk)),(1,some (.box tk ((zh1 sk (c::r)).1,0,(zh1 sk (c::r)).2.2)))],2⟩) ?_ ?_
  ·refine za (za ?_);refine zaa hX zbf rfl ?_ ?_
   ·trivial
   have w0':(0:Int)≤((zay (c::r):Nat):Int):=by omega
   have w1':((zay (c::r):Nat):Int)≤(((c::r).length:Nat):Int):=by omega
   refine za (za ?_);refine zaa hX zbf rfl ?_ ?_
   ·trivial
   refine zaf rfl (fun hb=>?_) (fun hb=>?_)
   ·have hb:decide (((zay (c::r):Nat):Int) > 0)=true:=hb;have hb:=of_decide_eq_true hb;refine za (za ?_);refine zaa hX zbf rfl ?_ ?_
    ·exact⟨w0',w1'⟩
    refine⟨⟨rfl,rfl,rfl,trivial⟩,⟨rfl,zfP ?_,trivial⟩,rfl,rfl⟩;rw[zh1,if_pos (by omega)];show ((1:Int),(0:Int),((zay (c::r):Nat):Int),List.take (((zay (c::r):Nat):Int)).toNat (c::r),(0:Int),())=_;rw[zH]
   ·have hb:decide (((zay (c::r):Nat):Int) > 0)=false:=hb;have hb0:=of_decide_eq_false hb;have e0:=zn9 sk c r (by omega);rw[e0];have hwr:=zex r;have v0:(0:Int)≤1:=by decide
    refine za (za ?_);refine zaa hX zbf rfl ?_ ?_
    ·exact⟨v0,n1⟩
    refine zaq (σ':=⟨[(0,⟨.str,(c::r:List UInt8)⟩),(2,⟨.optr tk,⟨0,tk,.here⟩⟩),(3,⟨i64,(sk:Int)⟩),(4,⟨.optr tk,⟨1,tk,.here⟩⟩),(6,⟨i64,((zay r:Nat):Int)⟩)],[(0,some (.box tk zTk)),(1,some (.box tk (5,0,1,[c],0,())))],2⟩) ⟨⟨rfl,rfl,rfl,rfl,rfl,trivial⟩,⟨rfl,rfl,trivial⟩,rfl,rfl⟩ ?_;refine za (za ?_);refine zaa hX zbf rfl ?_ ?_
    ·exact⟨xC 0,n2,fun h=>h,fun h=>h⟩
    have ht:(bif (((c.toNat:Nat):Int)==(((64:UInt8).toNat:Nat):Int)) then decide (((zay r:Nat):Int) > 0) else false)=decide (c=64∧0 < zay r):=by
     rw[u8eq,zco,yu,zd,beq_iff_eq,decide_eq_true_iff,decide_eq_true_iff];constructor
     ·rintro ⟨h1,h2⟩;exact⟨h1,by omega⟩
     ·rintro ⟨h1,h2⟩;exact⟨h1,by omega⟩
    refine zaf rfl (fun hb=>?_) (fun hb=>?_)
    ·have hb:=of_decide_eq_true (ht.symm.trans hb);have g1:inR .i64 (((zay r:Nat):Int)+1):=zan (by omega) (by omega);have g2:(1:Int)≤((zay r:Nat):Int)+1:=by omega
     have g3:((zay r:Nat):Int)+1≤(((c::r).length:Nat):Int):=by rw[zt];omega
     refine za (za ?_);refine zaa hX zbf rfl ?_ ?_
     ·exact⟨g1,g1,v0,g2,g3⟩
     refine⟨⟨rfl,rfl,rfl,trivial⟩,⟨rfl,zfP ?_,trivial⟩,rfl,rfl⟩;rw[if_pos hb];have e1:(((zay r:Nat):Int)+1).toNat=zay r+1:=by omega
     show ((2:Int),(0:Int),((zay r:Nat):Int)+1,jC (1:Int).toNat (List.take (((zay r:Nat):Int)+1).toNat (c::r)),(0:Int),())=_;rw[e1];rfl
    ·have hb:=of_decide_eq_false (ht.symm.trans hb);rw[if_neg hb];refine za (za ?_);refine zaa hX zbf rfl ?_ ?_
     ·exact⟨(by intro h;cases h),hul⟩
     refine zaq (σ':=⟨[(0,⟨.str,(c::r:List UInt8)⟩),(2,⟨.optr tk,⟨0,tk,.here⟩⟩),(3,⟨i64,(sk:Int)⟩),(4,⟨.optr tk,⟨1,tk,.here⟩⟩),(7,⟨.optr tk,⟨2,tk,.here⟩⟩),(8,⟨.bool,(zeT (c::r)).2.1⟩)],[(0,some (.box tk zTk)),(1,some (.box tk (5,0,1,[c],0,()))),(2,some (.box tk (zeT (c::r)).1))],3⟩) ⟨⟨rfl,rfl,rfl,rfl,rfl,rfl,trivial⟩,⟨rfl,rfl,rfl,trivial⟩,rfl,rfl⟩ ?_;unfold zeT;cases zcR (c::r) with
     |some q=>
      obtain⟨k,n,t,x⟩:=q;(repeat(first|apply zae|apply zab|apply zal|apply zad|apply zac|refine zaa hX zbf rfl trivial ?_|refine zaa hX zbf rfl id ?_|refine zaa hX zbf rfl ⟨id,id⟩ ?_));refine zaf rfl (fun _=>?_) (fun hb=>absurd (show true=false from hb) (by decide));(repeat(first|apply zae|apply zab|apply zal|apply zad|apply zac|refine zaa hX zbf rfl trivial ?_|refine zaa hX zbf rfl id ?_|refine zaa hX zbf rfl ⟨id,id⟩ ?_));exact⟨⟨rfl,rfl,rfl,trivial⟩,⟨rfl,rfl,trivial⟩,rfl,rfl⟩
     |none=>
      (repeat(first|apply zae|apply zab|apply zal|apply zad|apply zac|refine zaa hX zbf rfl trivial ?_|refine zaa hX zbf rfl id ?_|refine zaa hX zbf rfl ⟨id,id⟩ ?_));refine zaf rfl (fun hb=>absurd (show false=true from hb) (by decide)) (fun _=>?_);refine za (za ?_);refine zaa hX zbf rfl ?_ ?_
      ·exact⟨v0,n1,rfl,⟨c,rfl⟩⟩
      refine zaf rfl (fun hb=>?_) (fun hb=>?_)
      ·have hb:=(znT c).1 hb;(repeat(first|apply zae|apply zab|apply zal|apply zad|apply zac|refine zaa hX zbf rfl trivial ?_|refine zaa hX zbf rfl id ?_|refine zaa hX zbf rfl ⟨id,id⟩ ?_));refine⟨⟨rfl,rfl,rfl,trivial⟩,⟨rfl,zfP ?_,trivial⟩,rfl,rfl⟩;simp only[if_pos hb]
      ·have hn:¬ (c=40∨c=41∨c=61):=fun h=>by
        have:=(znT c).2 h;have hb:decide (0≤xi [40,41,61] c)=false:=hb;rw[hb]at this;cases this
       apply zab;refine⟨⟨rfl,rfl,rfl,trivial⟩,⟨rfl,zfP ?_,trivial⟩,rfl,rfl⟩;simp only[if_neg hn]
  ·have hat:(zh1 sk (c::r)).2.1=(sk:Int):=by
    rw[zh1];split
    ·rfl
    ·split
     ·rfl
     ·split
      ·rfl
      ·split<;>rfl
   (repeat(first|apply zae|apply zab|apply zal|apply zad|apply zac|refine zaa hX zbf rfl trivial ?_|refine zaa hX zbf rfl id ?_|refine zaa hX zbf rfl ⟨id,id⟩ ?_));refine zq ⟨.inr rfl,zax rfl trivial rfl rfl ?_⟩;show ((zh1 sk (c::r)).1,(sk:Int),(zh1 sk (c::r)).2.2)=zh1 sk (c::r);rw[<-hat]
abbrev PsT:=List UInt8×TokT×List Nd×Int×Unit
def stOf (x:PsT):GSt:=(x.2.1,x.2.2.2.1)
abbrev psX (s:List UInt8) (st:GSt) (l:List Nd):PsT:=(s,st.1,l,st.2,())
def pOk (x:PsT):Prop:=GOk x.1 (stOf x)∧x.1.length≤100000
def pvS (e:Int×Int):zh:=.iface 133 (.agg #[.int .i64 e.1,.int .i64 e.2])
def toX {α β:Type} (f:α->β):Except (Int×Int) α->Except zh β
 | .ok a=>.ok (f a)
 | .error e=>.error (pvS e)
@[reducible] def hP (args:List Ty) (res:Ty) (pre:PsT->Args args->List Prop) (out:PsT->Args args->Except zh (res.T×PsT)):HCtr:=
 { self:=ps,k:=6,te:=73,et:=nd,sl:=fun x=>x.2.2.1,args:=args,inv:=ginv,pre:=fun x xs=>pOk x::pre x xs,res:=res,out:=out }
theorem zbh {args:List Ty} {res:Ty} {pre:PsT->Args args->List Prop} {out:PsT->Args args->Except zh (res.T×PsT)}:(hP args res pre out).law:=⟨rfl,fun _=>rfl,fun a h=>by cases h⟩
@[reducible] def pBox (ty:zp) (s:List UInt8) (st:GSt):OObj:=.hbox ty [⟨.str,s⟩,⟨i64,st.1.1⟩,⟨i64,st.1.2.1⟩,⟨i64,st.1.2.2.1⟩,⟨.str,st.1.2.2.2.1⟩,⟨i64,st.1.2.2.2.2.1⟩,⟨.obuf nd,(1:Nat)⟩,⟨i64,st.2⟩]
@[reducible] def pE (ty:zp) (s:List UInt8) (st:GSt) (l:List Nd):Owns:=[(0,some (pBox ty s st)),(1,some (.buf 73 nd l))]
@[reducible] def pSelf:V:=⟨.hptr,((0:Nat),(0:Nat))⟩
def pQ (rs:List qh) (c:HCtr) (ty:zp) (r:Except zh (c.res.T×c.self.T)) (e:Exit) (σ:AS):Prop:=zp4 gmT rs c ty e σ r
theorem zgu {rs:List qh} {c:HCtr} {ty:zp} {pv:zh} {σ:AS}:pQ rs c ty (.error pv) (.panic [{ v:=pv,recovered:=false }]) σ:=rfl
theorem zam {α β γ:Type} {f:β->γ} {e:Except (Int×Int) α} {k:α->Except (Int×Int) β} {er:Int×Int} (h:e= .error er):toX f (e >>= k)= .error (pvS er):=by rw[h];rfl
theorem zas {α β γ:Type} {f:β->γ} {e:Except (Int×Int) α} {k:α->Except (Int×Int) β} {a:α} (h:e= .ok a):toX f (e >>= k)=toX f (k a):=by rw[h];rfl
section
variable {P:zy} {K:Kn} {w0:zj} {X:Ownr} {n:Nat} {σ:AS} {Q:Exit->AS->Prop} {ops:Array Oper}
theorem zaz (m:Nat) (hX:X.Ok w0) (hK:KnOk P X.G K) {C:List (zP×HCtr)} (hC:HsOk P X.G C) {l rest:List Oper} {o:Oper} {r:List Prop×AS} (hs:aSeq K n ops (l.take m) σ=some r) (hp:allP r.1) (hl:l.drop m=o::rest) {s:HSite} (hsite:znv C n o r.2=some s)
  (hq:allP s.q) (hinv:∀ w R,(∀ g,R g->w0.heap.size≤g∨X.R g)->X.G w->s.c.inv w R s.ty) {α:Type} {f:α->s.c.res.T×s.c.self.T} {e:Except (Int×Int) α} (hout:s.c.out s.x s.xs=toX f e)
  (herr:∀ er,e= .error er->Q (.panic [{ v:=pvS er,recovered:=false }]) s.lost) (h:∀ a,e= .ok a->AL P w0 X n ops rest (s.next (f a).1 (f a).2) Q)
  (hgd:o.guard=none:=by rfl) (hnd:∀ c,o.op≠ .defer c:=by intro c e;cases e) (hd:zbn (l.take m)=true:=by rfl):AL P w0 X n ops l σ Q:=by
 refine ym m hX hK hC hs hp hl hsite hq hinv ?_ hgd hnd hd;rw[hout];cases e with
 |error er=>exact herr er rfl
 |ok a=>exact h a rfl
end
section
variable {P:zy} {K:Kn} {w0:zj} {X:Ownr} {n:Nat} {Q:Exit->AS->Prop} {ops:Array Oper}
theorem AL.ownVM (hX:X.Ok w0) {o:Oper} {rest:List Oper} {f:zP} {c:HCtr} (hc:zaC P X.G f c) {y a0:zG} {args:Array zG} {ts:Array zp} (ho:o.op= .call ⟨.value y,args,ts⟩) (hargs:args= #[a0]) (hgd:o.guard=none)
  {F:yv} {E:Owns} {nx:Nat} (hy:evO F y=⟨.lit,.func (.func f) #[] #[]⟩)
  {i:Nat} (hev:evO F a0=⟨.hptr,(i,(0:Nat))⟩) {ty:zp} {vs:List V} (hbox:zl E i=some (.hbox ty vs)) {et:Ty} {j:Nat} (hk:vs[c.k]? =some ⟨.obuf et,j⟩) {xsl:List c.et.T} (hbuf:zl E j=some (.buf c.te c.et xsl))
  {x:c.self.T} (hun:unD c.self ((c.back i vs).set c.k ⟨.slice c.et,xsl⟩)=some (x,[])) (hd:za6 c.args=true) (hfl:c.res.resOk=true)
  {q:List Prop} {xs:Args c.args} (hav:zew E false [] c.args=some (q,xs)) (hq:allP q) (hpre:allP (c.pre x xs)) (hinv:∀ w R,(∀ g,R g->w0.heap.size≤g∨X.R g)->X.G w->c.inv w R ty) {F':c.res.T->yv} (hput:∀ y,putD n o.dst (resV c.res y) (xm j F)=some (F' y))
  {α:Type} {g:α->c.res.T×c.self.T} {e:Except (Int×Int) α} (hout:c.out x xs=toX g e) (herr:∀ er,e= .error er->Q (.panic [{ v:=pvS er,recovered:=false }]) ⟨F,(i,none)::(j,none)::E,nx⟩)
  (h:∀ a,e= .ok a->AL P w0 X n ops rest ⟨F' (g a).1,(i,some (.hbox ty (c.lv i j (g a).2)))::(j,some (.buf c.te c.et (c.sl (g a).2)))::Owns.kill j E,nx⟩ Q):AL P w0 X n ops (o::rest) ⟨F,E,nx⟩ Q:=by
 refine AL.ownV hX hc ho hargs hgd hy hev hbox hk hbuf hun hd hfl hav hq hpre hinv hput ?_;rw[hout];cases e with
 |error er=>exact herr er rfl
 |ok a=>exact h a rfl
end
theorem zk6 {P:zy} {w:zj} {t:zp} {fs:Array Field} (h:P.underlying t=some (.struct fs)) (x:zh):(kW t x).run P w= .ok (.iface t x) w:=by
 unfold kW;simp[run_underlying h]
theorem zg1 {P:zy} {w:zj} (t:zp) (x:zh):(Instr.panic (.iface t x)).run P w= .halt (.panic (.iface t x)) w:=by
 simp[Instr.panic,Sem.run]
@[reducible] def ztO:HCtr:=hP [i64] .unit (fun _ _=>[]) fun x xs=>.error (pvS (Tok.at x.2.1,xs.1))
theorem ztw:zaC Tryz.prog gmH 137 ztO:=by
 refine zau (K:=gmK) zak Tryz.func137 rfl rfl zbh Tryz.call137 rfl (by decide) zaX ?_;rintro w0 ⟨G,O,K,fix,D,ρ,B⟩ ty hX hG hK hρ hD hinv x ⟨(e:Int),⟨⟩⟩ hp;obtain rfl:G=gmH:=hG;obtain rfl:K=1:=hK;obtain rfl:ρ=none:=hρ;obtain rfl:D=[]:=hD;obtain⟨s,t,l,b,⟨⟩⟩:=x;change AWP _ _ _ _ _ ⟨[(0,pSelf),(1,⟨i64,e⟩)],pE ty s (t,b) l,2⟩ (pQ _ ztO ty (.error (pvS (Tok.at t,e))));(repeat(first|apply zae|apply zab|apply zac|apply zad));refine zai ?_;refine yh 7 hX zak rfl trivial ?_;refine qE rfl (fun c e=>by cases e) fun β a w' hs=>?_;have h12:RepD w' _ sto (Tok.at t,e,()) (a.eval (.tmp 10)):=hs.ops (.tmp 10);obtain⟨cs,h1,c1,c2,rfl,h2,c3,c4,rfl,h3,h4⟩:=(RepD.agg rfl).1 h12;have h2:c1=[yF .i64 (Tok.at t)]:=h2;have h3:c3=[yF .i64 e]:=h3;have h4:c4=[]:=h4;subst h2;subst h3;subst h4;have h1:a.eval (.tmp 10)= .agg #[.int .i64 (Tok.at t),.int .i64 e]:=h1;refine zbx (u:=pvS (Tok.at t,e)) (w':=w') ?_ ⟨⟨(11,⟨.lit,pvS (Tok.at t,e)⟩)::_,_,_⟩,β,hs.put (zO _ _) (v:=⟨.lit,pvS (Tok.at t,e)⟩) rfl (zm _) (by show 11 < 12;omega),?_⟩
 ·show (execOp a.eval { dst:=some 11,op:=Op.makeInterface 133 (.tmp 10),type:=_,pos:=_,after:=_,guard:=none }).run _ _=_;unfold execOp;simp only[h1];exact zee (zk6 Tryz.underlying133 _)
 refine qE rfl (fun c e=>by cases e) fun β a w' hs=>?_;have h13:a.eval (.tmp 11)=pvS (Tok.at t,e):=hs.ops (.tmp 11);have hrun:(execOp a.eval { dst:=none,op:=Op.panic (.tmp 11),type:=0,pos:="",after:=#[],guard:=none }).run Tryz.prog w'= .halt (.panic (pvS (Tok.at t,e))) w':=by
  unfold execOp;simp only[h13];simp[pvS,zg1]
 unfold Oper.wp
 erw [hrun]
 exact⟨fun e=>(by cases e),_,β,hs,rfl⟩
@[reducible] def zgB:HCtr:=hP [.bool,i64] .unit (fun _ _=>[]) fun x xs=>toX (fun _=>((),x)) (zaD (stOf x) xs.1 xs.2.1)
def hFail:List (zP×HCtr):=[(137,ztO)]
theorem zq8:HsOk Tryz.prog gmH hFail:=.cons ztw .nil
theorem zeK:zaC Tryz.prog gmH 81 zgB:=by
 refine zau (K:=_) zak Tryz.func81 rfl rfl zbh Tryz.call81 rfl (zb rfl) zaX ?_;rintro w0 ⟨G,O,K,fix,D,ρ,B⟩ ty hX hG hK hρ hD hinv ⟨(s:List UInt8),(t:TokT),(l:List Nd),(b:Int),⟨⟩⟩ ⟨(c:Bool),(e:Int),⟨⟩⟩ hp;obtain rfl:G=gmH:=hG;obtain rfl:K=1:=hK;obtain rfl:ρ=none:=hρ;obtain rfl:D=[]:=hD;have hI:=zaJ (ty:=ty) (ty':=ty) hX rfl hinv;have hok:pOk (s,t,l,b,()):=hp;change AWP _ _ _ _ _ ⟨[(0,pSelf),(1,⟨.bool,c⟩),(2,⟨i64,e⟩)],pE ty s (t,b) l,2⟩ (pQ _ zgB ty (toX (fun _=>((),(s,t,l,b,()))) (zaD (t,b) c e)));refine za (za ?_);refine zaa hX zak rfl ?_ ?_
 ·trivial
 cases c with
 |true=>
  refine zaf rfl (fun hb=>absurd (show false=true from hb) (by decide)) (fun _=>?_);apply zab;exact⟨.inl rfl,⟨_,rfl,nd,1,_,rfl,rfl,rfl⟩,zbk (by decide) rfl rfl trivial rfl⟩
 |false=>
  refine zaf rfl (fun _=>?_) (fun hb=>absurd (show true=false from hb) (by decide));(repeat(first|apply zae|apply zab|apply zac|apply zad));refine zai ?_;exact ym 2 hX zak zq8 rfl trivial rfl rfl hok hI rfl
@[reducible] def cIs:HCtr:=hP [.str] .bool (fun _ _=>[]) fun x xs=>.ok (gIs (stOf x) xs.1,x)
theorem zq4:zaC Tryz.prog gmH 134 cIs:=by
 refine zau (K:=_) zak Tryz.func134 rfl rfl zbh Tryz.call134 rfl (zb rfl) zaX ?_;rintro w0 ⟨G,O,K,fix,D,ρ,B⟩ ty hX hG hK hρ hD hinv ⟨(s:List UInt8),(t:TokT),(l:List Nd),(b:Int),⟨⟩⟩ ⟨(u:List UInt8),⟨⟩⟩ hp;obtain rfl:G=gmH:=hG;obtain rfl:K=1:=hK;obtain rfl:ρ=none:=hρ;obtain rfl:D=[]:=hD;have hI:=zaJ (ty:=ty) (ty':=ty) hX rfl hinv;change AWP _ _ _ _ _ ⟨[(0,pSelf),(1,⟨.str,u⟩)],pE ty s (t,b) l,2⟩ (pQ _ cIs ty (.ok (gIs (t,b) u,(s,t,l,b,()))));refine za (za ?_);refine zaa hX zak rfl ?_ ?_
 ·trivial
 refine za (za ?_);refine zaa hX zak rfl ?_ ?_
 ·repeat'(first|exact trivial|assumption|(refine⟨?_,?_⟩)|(intro _)|exact zb rfl|exact zi _|(simp_all [allP];done))
 refine zq ⟨.inr rfl,⟨_,rfl,nd,1,_,rfl,rfl,rfl⟩,zax rfl trivial rfl rfl ?_⟩;show (bif (bif (t.1==1) then true else (t.1==4)) then eqb .str t.2.2.2.1 u else false)=gIs (t,b) u;rw[zco,zhO,zdM];rfl
@[reducible] def cAdv:HCtr:=hP [] tk (fun x _=>[]) fun x _=>.ok (x.2.1,psX x.1 (gAdv x.1 (stOf x)) x.2.2.1)
def kAd:Kn:={ gmK with C:=[(79,cScan)] }
theorem zcU:KnOk Tryz.prog gmH kAd:=zak.with (.cons zsD .nil)
theorem zgj:zaC Tryz.prog gmH 87 cAdv:=by
 refine zau (K:=_) zcU Tryz.func87 rfl rfl zbh Tryz.call87 rfl (zb rfl) zaX ?_;rintro w0 ⟨G,O,K,fix,D,ρ,B⟩ ty hX hG hK hρ hD hinv ⟨(s:List UInt8),(t:TokT),(l:List Nd),(b:Int),⟨⟩⟩ ⟨⟩ hp;obtain rfl:G=gmH:=hG;obtain rfl:K=1:=hK;obtain rfl:ρ=none:=hρ;obtain rfl:D=[]:=hD;have hI:=zaJ (ty:=ty) (ty':=ty) hX rfl hinv;have hok:pOk (s,t,l,b,()):=hp;change AWP _ _ _ _ _ ⟨[(0,pSelf)],pE ty s (t,b) l,2⟩ (pQ _ cAdv ty (.ok (t,psX s (gAdv s (t,b)) l)));refine za (za ?_);refine zaa hX zcU rfl ?_ ?_
 ·trivial
 obtain⟨⟨⟨⟨a1,a2,a3⟩,-⟩,-⟩,hlen⟩:=hok;have a1:(0:Int)≤t.2.1:=a1;have a2:(0:Int)≤t.2.2.1:=a2;have a3:t.2.1+t.2.2.1≤((s.length:Nat):Int):=a3;have hlen:s.length≤100000:=hlen;have q0:inR .i64 (t.2.1+t.2.2.1):=zan (by omega) (by omega);have q1:(0:Int)≤t.2.1+t.2.2.1:=by omega
 refine za (za ?_);refine zaa hX zcU rfl ?_ ?_
 ·trivial
 refine za (za ?_);refine zaa hX zcU rfl ?_ ?_
 ·exact q0
 have hdr:zg (jC (t.2.1+t.2.2.1).toNat s)≤100000:=by rw[xc];omega
 refine za (za ?_);refine zaa hX zcU rfl ?_ ?_
 ·exact⟨q1,a3,hdr⟩
 obtain⟨⟨⟨b1,b2,b3⟩,-⟩,b4⟩:=ziZ (s:=s) q1 a3;have hsc:=(zlS (s.drop (t.2.1+t.2.2.1).toNat)).1;have hsl:Tok.at (zaR (s.drop (t.2.1+t.2.2.1).toNat))≤100000:=by
  have:=hsc.2.2;have:=hsc.2.1;rw[xc]at *;omega
 have hsl0:=hsc.1;have q2:inR .i64 (Tok.at (zaR (s.drop (t.2.1+t.2.2.1).toNat))+(t.2.1+t.2.2.1)):=zan (by omega) (by omega);refine za (za ?_);refine zaa hX zcU rfl ?_ ?_
 ·exact q2
 (repeat(first|apply zae|apply zab|apply zal|apply zad|apply zac|refine zaa hX zcU rfl trivial ?_|refine zaa hX zcU rfl id ?_|refine zaa hX zcU rfl ⟨id,id⟩ ?_));exact zq ⟨.inr rfl,⟨_,rfl,nd,1,_,rfl,rfl,rfl⟩,zax rfl trivial rfl rfl rfl⟩
def hEx:List (zP×HCtr):=[(134,cIs),(81,zgB),(87,cAdv)]
theorem zdw:HsOk Tryz.prog gmH hEx:=.cons zq4 <| .cons zeK <| .cons zgj .nil
@[reducible] def zgh:HCtr:=hP [.str] .unit (fun _ _=>[]) fun x xs=>toX (fun st=>((),psX x.1 st x.2.2.1)) (za0 x.1 (stOf x) xs.1)
theorem zfJ:zaC Tryz.prog gmH 88 zgh:=by
 refine zau (K:=_) zak Tryz.func88 rfl rfl zbh Tryz.call88 rfl (zb rfl) zaX ?_;rintro w0 ⟨G,O,K,fix,D,ρ,B⟩ ty hX hG hK hρ hD hinv ⟨(s:List UInt8),(t:TokT),(l:List Nd),(b:Int),⟨⟩⟩ ⟨(u:List UInt8),⟨⟩⟩ hp;obtain rfl:G=gmH:=hG;obtain rfl:K=1:=hK;obtain rfl:ρ=none:=hρ;obtain rfl:D=[]:=hD;have hI:=zaJ (ty:=ty) (ty':=ty) hX rfl hinv;have hok:pOk (s,t,l,b,()):=hp;change AWP _ _ _ _ _ ⟨[(0,pSelf),(1,⟨.str,u⟩)],pE ty s (t,b) l,2⟩ (pQ _ zgh ty (toX (fun st=>((),psX s st l)) (za0 s (t,b) u)));(repeat(first|apply zae|apply zab|apply zac|apply zad));refine zai ?_;refine ym 3 hX zak zdw rfl trivial rfl rfl hok hI ?_;refine zaz 0 hX zak zdw rfl trivial rfl rfl hok hI (e:=zaD (t,b) (gIs (t,b) u) 3) rfl (fun er h=>?_) (fun a h=>?_)
 ·unfold za0;rw[zam h];exact zgu
 unfold za0;rw[zas h];refine yf ?_;(repeat(first|apply zae|apply zab|apply zac|apply zad));refine zai ?_;refine ym 1 hX zak zdw rfl trivial rfl rfl hok hI ?_;refine yf ?_;exact⟨.inl rfl,⟨_,rfl,nd,1,_,rfl,rfl,rfl⟩,zbk (by decide) rfl rfl trivial rfl⟩
@[reducible] def zkQ:HCtr:=hP [] .unit (fun _ _=>[]) fun x _=>toX (fun st=>((),psX x.1 st x.2.2.1)) (zbR x.1 (stOf x))
theorem zjy:zaC Tryz.prog gmH 135 zkQ:=by
 refine zau (K:=_) zak Tryz.func135 rfl rfl zbh Tryz.call135 rfl (zb rfl) zaX ?_;rintro w0 ⟨G,O,K,fix,D,ρ,B⟩ ty hX hG hK hρ hD hinv ⟨(s:List UInt8),(t:TokT),(l:List Nd),(b:Int),⟨⟩⟩ ⟨⟩ hp;obtain rfl:G=gmH:=hG;obtain rfl:K=1:=hK;obtain rfl:ρ=none:=hρ;obtain rfl:D=[]:=hD;have hI:=zaJ (ty:=ty) (ty':=ty) hX rfl hinv;have hok:pOk (s,t,l,b,()):=hp;change AWP _ _ _ _ _ ⟨[(0,pSelf)],pE ty s (t,b) l,2⟩ (pQ _ zkQ ty (toX (fun st=>((),psX s st l)) (zbR s (t,b))));(repeat(first|apply zae|apply zab|apply zac|apply zad));refine zai ?_;refine zaz 6 hX zak zdw rfl trivial rfl rfl hok hI (e:=zaD (t,b) (decide (b < 64)) 2) rfl (fun er h=>?_) (fun a h=>?_)
 ·unfold zbR;rw[zam h];exact zgu
 unfold zbR;rw[zas h];have hb:=of_decide_eq_true (zbI h);obtain⟨⟨g1,g2,g3⟩,hlen⟩:=id hok;have g2:(0:Int)≤b:=g2;have q0:inR .i64 (b+1):=zan (by omega) (by omega);have hok2:pOk (s,t,l,b+1,()):=⟨⟨g1,(by omega:(0:Int)≤b+1),(by omega:b+1≤64)⟩,hlen⟩;refine yf ?_;refine za (za ?_);refine zaa hX zak rfl ?_ ?_
 ·exact q0
 (repeat(first|apply zae|apply zab|apply zac|apply zad));refine zai ?_;refine ym 1 hX zak zdw rfl trivial rfl rfl hok2 hI ?_;refine yf ?_;exact⟨.inl rfl,⟨_,rfl,nd,1,_,rfl,rfl,rfl⟩,zbk (by decide) rfl rfl trivial rfl⟩
@[reducible] def zgg:HCtr:=hP [i64,i64] i64 (fun _ _=>[]) fun x xs=>toX (fun r=>(r.1,psX x.1 r.2 x.2.2.1)) (zaO x.1 (stOf x) xs.1 xs.2.1)
theorem zfw:zaC Tryz.prog gmH 202 zgg:=by
 refine zau (K:=_) zak Tryz.func202 rfl rfl zbh Tryz.call202 rfl (zb rfl) zaX ?_;rintro w0 ⟨G,O,K,fix,D,ρ,B⟩ ty hX hG hK hρ hD hinv ⟨(s:List UInt8),(t:TokT),(l:List Nd),(b:Int),⟨⟩⟩ ⟨(lo:Int),(hi:Int),⟨⟩⟩ hp;obtain rfl:G=gmH:=hG;obtain rfl:K=1:=hK;obtain rfl:ρ=none:=hρ;obtain rfl:D=[]:=hD;have hI:=zaJ (ty:=ty) (ty':=ty) hX rfl hinv;have hok:pOk (s,t,l,b,()):=hp;change AWP _ _ _ _ _ ⟨[(0,pSelf),(1,⟨i64,lo⟩),(2,⟨i64,hi⟩)],pE ty s (t,b) l,2⟩ (pQ _ zgg ty (toX (fun r=>(r.1,psX s r.2 l)) (zaO s (t,b) lo hi)));unfold zaO;refine za (za ?_);refine zaa hX zak rfl ?_ ?_
 ·trivial
 (repeat(first|apply zae|apply zab|apply zac|apply zad));refine zai ?_;refine zaz 7 hX zak zdw rfl trivial rfl rfl hok hI (e:=zaD (t,b) (zK t==3) 3) rfl (fun er h=>?_) (fun a h=>?_)
 ·rw[zam h];exact zgu
 rw[zas h];refine yf ?_;(repeat(first|apply zae|apply zab|apply zac|apply zad));refine zai ?_;refine qC (σ':=⟨[(0,pSelf),(1,⟨i64,lo⟩),(2,⟨i64,hi⟩)],pE ty s (t,b) l,2⟩) ⟨⟨rfl,rfl,rfl,trivial⟩,⟨rfl,rfl,trivial⟩,rfl,rfl⟩ ?_;refine zaz 17 hX zak zdw rfl ?_ rfl rfl hok hI (e:=zaD (t,b) (bif decide (lo≤xX t) then decide (xX t≤hi) else false) 1) rfl (fun er h=>?_) (fun a h=>?_)
 ·repeat'(first|exact trivial|assumption|(refine⟨?_,?_⟩)|(intro _)|exact zb rfl|exact zi _|(simp_all [allP];done))
 ·rw[zco]at h;rw[zam h];exact zgu
 rw[zco]at h;rw[zas h];refine yf ?_;refine zaq (σ':=⟨[(0,pSelf),(1,⟨i64,lo⟩),(2,⟨i64,hi⟩)],pE ty s (t,b) l,2⟩) ⟨⟨rfl,rfl,rfl,trivial⟩,⟨rfl,rfl,trivial⟩,rfl,rfl⟩ ?_;(repeat(first|apply zae|apply zab|apply zac|apply zad));refine zai ?_;refine ym 1 hX zak zdw rfl trivial rfl rfl hok hI ?_;refine zV hX zak rfl trivial ?_;exact zq ⟨.inr rfl,⟨_,rfl,nd,1,_,rfl,rfl,rfl⟩,zax rfl trivial rfl rfl rfl⟩
@[reducible] def zhL:HCtr:=hP [] i64 (fun _ _=>[]) fun x _=>toX (fun r=>(r.1,psX x.1 r.2 x.2.2.1)) (gCal x.1 (stOf x))
def hCal:List (zP×HCtr):=[(202,zgg)]
theorem zth:HsOk Tryz.prog gmH hCal:=.cons zfw .nil
theorem zlD:zaC Tryz.prog gmH 209 zhL:=by
 refine zau (K:=_) zak Tryz.func209 rfl rfl zbh Tryz.call209 rfl (zb rfl) zaX ?_;rintro w0 ⟨G,O,K,fix,D,ρ,B⟩ ty hX hG hK hρ hD hinv ⟨(s:List UInt8),(t:TokT),(l:List Nd),(b:Int),⟨⟩⟩ ⟨⟩ hp;obtain rfl:G=gmH:=hG;obtain rfl:K=1:=hK;obtain rfl:ρ=none:=hρ;obtain rfl:D=[]:=hD;have hI:=zaJ (ty:=ty) (ty':=ty) hX rfl hinv;have hok:pOk (s,t,l,b,()):=hp;change AWP _ _ _ _ _ ⟨[(0,pSelf)],pE ty s (t,b) l,2⟩ (pQ _ zhL ty (toX (fun r=>(r.1,psX s r.2 l)) (zaO s (t,b) 0 2)));refine za (za ?_);refine zaa hX zak rfl ?_ ?_
 ·trivial
 (repeat(first|apply zae|apply zab|apply zac|apply zad));refine zai ?_;refine zaz 1 hX zak zth rfl trivial rfl rfl hok hI (e:=zaO s (t,b) 0 2) rfl (fun er h=>?_) (fun a h=>?_)
 ·rw[h];exact zgu
 rw[h];refine zV hX zak rfl trivial ?_;exact zq ⟨.inr rfl,⟨_,rfl,nd,1,_,rfl,rfl,rfl⟩,zax rfl trivial rfl rfl rfl⟩
@[reducible] def zpL:HCtr:=hP [] i64 (fun _ _=>[]) fun x _=>toX (fun r=>(r.1,psX x.1 r.2 x.2.2.1)) (zdK x.1 (stOf x))
theorem zql:zaC Tryz.prog gmH 210 zpL:=by
 refine zau (K:=_) zak Tryz.func210 rfl rfl zbh Tryz.call210 rfl (zb rfl) zaX ?_;rintro w0 ⟨G,O,K,fix,D,ρ,B⟩ ty hX hG hK hρ hD hinv ⟨(s:List UInt8),(t:TokT),(l:List Nd),(b:Int),⟨⟩⟩ ⟨⟩ hp;obtain rfl:G=gmH:=hG;obtain rfl:K=1:=hK;obtain rfl:ρ=none:=hρ;obtain rfl:D=[]:=hD;have hI:=zaJ (ty:=ty) (ty':=ty) hX rfl hinv;have hok:pOk (s,t,l,b,()):=hp;change AWP _ _ _ _ _ ⟨[(0,pSelf)],pE ty s (t,b) l,2⟩ (pQ _ zpL ty (toX (fun r=>(r.1,psX s r.2 l)) (zdK s (t,b))));unfold zdK;refine za (za ?_);refine zaa hX zak rfl ?_ ?_
 ·trivial
 (repeat(first|apply zae|apply zab|apply zac|apply zad));refine zai ?_;refine ym 2 hX zak zdw rfl trivial rfl rfl hok hI ?_;cases hm:gIs (t,b) zjJ with
 |true=>
  rw[Bool.true_or];refine qC (σ':=⟨[(0,pSelf),(3,pSelf),(5,⟨.bool,true⟩)],pE ty s (t,b) l,2⟩) ⟨⟨rfl,rfl,zcu hm,trivial⟩,⟨rfl,rfl,trivial⟩,rfl,rfl⟩ ?_;refine yh 1 hX zak rfl trivial ?_;refine AL.guardF 3 6 false .bool false rfl rfl rfl rfl rfl rfl ?_;refine AL.guardF 3 6 false .bool false rfl rfl rfl rfl rfl rfl ?_;refine ym 1 hX zak zdw rfl id rfl rfl hok hI ?_;refine yf ?_;refine zaq (σ':=⟨[(0,pSelf)],pE ty s (t,b) l,2⟩) ⟨⟨rfl,trivial⟩,⟨rfl,rfl,trivial⟩,rfl,rfl⟩ ?_;(repeat(first|apply zae|apply zab|apply zac|apply zad));refine zai ?_;refine ym 1 hX zak zdw rfl trivial rfl rfl hok hI ?_;refine zV hX zak rfl trivial ?_;refine zaf rfl (fun hb=>?_) (fun hb=>?_)
  ·have hb:eqb .str t.2.2.2.1 zd5=true:=hb;have hb:zL t=zd5:=zbe.1 hb;(repeat(first|apply zae|apply zab|apply zal|apply zad|apply zac|refine zaa hX zak rfl trivial ?_|refine zaa hX zak rfl id ?_|refine zaa hX zak rfl ⟨id,id⟩ ?_));refine zq ⟨.inr rfl,⟨_,rfl,nd,1,_,rfl,rfl,rfl⟩,zax rfl trivial rfl rfl ?_⟩;show (1:Int)=if zL t=zd5 then 1 else 0
   rw[if_pos hb]
  ·have hb:eqb .str t.2.2.2.1 zd5=false:=hb;have hb:¬ zL t=zd5:=fun h=>by rw[zbe.2 h]at hb;cases hb
   (repeat(first|apply zae|apply zab|apply zal|apply zad|apply zac|refine zaa hX zak rfl trivial ?_|refine zaa hX zak rfl id ?_|refine zaa hX zak rfl ⟨id,id⟩ ?_));refine zq ⟨.inr rfl,⟨_,rfl,nd,1,_,rfl,rfl,rfl⟩,zax rfl trivial rfl rfl ?_⟩;show (0:Int)=if zL t=zd5 then 1 else 0
   rw[if_neg hb]
 |false=>
  rw[Bool.false_or];refine qC (σ':=⟨[(0,pSelf),(3,pSelf),(5,⟨.bool,false⟩)],pE ty s (t,b) l,2⟩) ⟨⟨rfl,rfl,zcu hm,trivial⟩,⟨rfl,rfl,trivial⟩,rfl,rfl⟩ ?_;refine yh 1 hX zak rfl trivial ?_;refine AL.guardT 3 6 false rfl rfl rfl rfl ?_;refine yh 1 hX zak rfl trivial ?_;refine AL.guardT 3 6 false rfl rfl rfl rfl ?_;refine ym 0 hX zak zdw rfl trivial rfl rfl hok hI ?_;refine zaz 1 hX zak zdw rfl trivial rfl rfl hok hI (e:=zaD (t,b) (gIs (t,b) zd5) 3) rfl (fun er h=>?_) (fun a h=>?_)
  ·rw[zam h];exact zgu
  rw[zas h];refine yf ?_;refine zaq (σ':=⟨[(0,pSelf)],pE ty s (t,b) l,2⟩) ⟨⟨rfl,trivial⟩,⟨rfl,rfl,trivial⟩,rfl,rfl⟩ ?_;(repeat(first|apply zae|apply zab|apply zac|apply zad));refine zai ?_;refine ym 1 hX zak zdw rfl trivial rfl rfl hok hI ?_;refine zV hX zak rfl trivial ?_;refine zaf rfl (fun hb=>?_) (fun hb=>?_)
  ·have hb:eqb .str t.2.2.2.1 zd5=true:=hb;have hb:zL t=zd5:=zbe.1 hb;(repeat(first|apply zae|apply zab|apply zal|apply zad|apply zac|refine zaa hX zak rfl trivial ?_|refine zaa hX zak rfl id ?_|refine zaa hX zak rfl ⟨id,id⟩ ?_));refine zq ⟨.inr rfl,⟨_,rfl,nd,1,_,rfl,rfl,rfl⟩,zax rfl trivial rfl rfl ?_⟩;show (1:Int)=if zL t=zd5 then 1 else 0
   rw[if_pos hb]
  ·have hb:eqb .str t.2.2.2.1 zd5=false:=hb;have hb:¬ zL t=zd5:=fun h=>by rw[zbe.2 h]at hb;cases hb
   (repeat(first|apply zae|apply zab|apply zal|apply zad|apply zac|refine zaa hX zak rfl trivial ?_|refine zaa hX zak rfl id ?_|refine zaa hX zak rfl ⟨id,id⟩ ?_));refine zq ⟨.inr rfl,⟨_,rfl,nd,1,_,rfl,rfl,rfl⟩,zax rfl trivial rfl rfl ?_⟩;show (0:Int)=if zL t=zd5 then 1 else 0
   rw[if_neg hb]
@[reducible] def cAdd:HCtr:=hP [nd] i64 (fun x _=>[zg x.2.2.1≤100000]) fun x xs=>.ok (((x.2.2.1.length:Nat):Int),psX x.1 (stOf x) (x.2.2.1++ [xs.1]))
theorem zpZ:zaC Tryz.prog gmH 136 cAdd:=by
 refine zau (K:=_) zak Tryz.func136 rfl rfl zbh Tryz.call136 rfl (zb rfl) zaX ?_;rintro w0 ⟨G,O,K,fix,D,ρ,B⟩ ty hX hG hK hρ hD hinv ⟨(s:List UInt8),(t:TokT),(l:List Nd),(b:Int),⟨⟩⟩ ⟨(m:Nd),⟨⟩⟩ hp;obtain rfl:G=gmH:=hG;obtain rfl:K=1:=hK;obtain rfl:ρ=none:=hρ;obtain rfl:D=[]:=hD;have hI:=zaJ (ty:=ty) (ty':=ty) hX rfl hinv;obtain⟨hok,hl⟩:pOk (s,t,l,b,())∧l.length≤100000:=hp;change AWP _ _ _ _ _ ⟨[(0,pSelf),(1,⟨nd,m⟩)],pE ty s (t,b) l,2⟩ (pQ _ cAdd ty (.ok (((l.length:Nat):Int),psX s (t,b) (l++ [m]))));refine za (za ?_);refine zaa hX zak rfl ?_ ?_
 ·trivial
 have hcap:l.length+1≤1000000000:=by omega
 apply zae;refine AWP.drawF (d:=5) (src:=.tmp 0) rfl (.cons (.of_eq (xz _) rfl (by intro h;cases h) (by intro t h;cases h;intro h;cases h) (.inr (by intro ev ev' h;simp[execOp,resolve,h]))) <| .cons (.of_eq (xz _) rfl (by intro h;cases h) (by intro t h;cases h;intro h;cases h) (.inr (by intro ev ev' h;simp[execOp,resolve,h]))) <| .cons (.of_eq (xz _) rfl (by intro h;cases h) (by intro t h;cases h;intro h;cases h) (.inr (by intro ev ev' h;simp[execOp,resolve,h]))) <| .cons (.of_eq (xz _) rfl (by intro h;cases h) (by intro t h;cases h;intro h;cases h) (.inr (by intro ev ev' h;simp[execOp,resolve,h]))) <| .cons (.of_eq (xz _) rfl (by intro h;cases h) (by intro t h;cases h;intro h;cases h) (.inr (by intro ev ev' h;simp[execOp,resolve,h]))) <| .cons (.of_eq (xz _) rfl (by intro h;cases h) (by intro t h;cases h;intro h;cases h) (.inr (by intro ev ev' h;simp[execOp,resolve,h]))) <| .cons (.edge 0 rfl (by intro h;cases h) (by intro t h;cases h;intro h;cases h) (.inr (by intro ev ev' h;simp[execOp,resolve,h]))) <| .cons (.of_eq (xz _) rfl (by intro h;cases h) (by intro t h;cases h;intro h;cases h) (.inl ⟨_,Array.mem_of_getElem? (i:=0) rfl,by decide,rfl⟩)) <| .cons (.of_eq (xz _) rfl (by intro h;cases h) (by intro t h;cases h;intro h;cases h) (.inr (by intro ev ev' h;simp[execOp,resolve,h]))) <| .cons (.of_eq (xz _) rfl (by intro h;cases h) (by intro t h;cases h;intro h;cases h) (.inr (by intro ev ev' h;simp[execOp,resolve,h]))) <| .nil) rfl rfl rfl rfl (by intro h;cases h) dM hX zak 7 (by kernel_rfl) rfl rfl ?_ ?_ ?_
 ·trivial
 ·exact hcap
 have q0:inR .i64 ((((l++ [m]).length:Nat):Int) - 1):=by rw[show (l++ [m]).length=l.length+1 by simp];exact zan (by omega) (by omega)
 refine za (za ?_);refine zaa hX zak rfl ?_ ?_
 ·exact q0
 refine zq ⟨.inr rfl,⟨_,rfl,nd,1,_,rfl,rfl,rfl⟩,zax rfl trivial rfl rfl ?_⟩;show (((l++ [m]).length:Nat):Int) - 1=((l.length:Nat):Int);rw[zf];simp
@[reducible] def ztM:HCtr:=hP [i64,i64,.bool] ints (fun _ xs=>[-1000≤xs.1,xs.1≤1000]) fun x xs=>toX (fun r=>(r.1,psX x.1 r.2 x.2.2.1)) (zdk x.1 (stOf x) xs.1 xs.2.1 xs.2.2.1)
def hLi:List (zP×HCtr):=[(134,cIs),(81,zgB),(88,zgh),(202,zgg)]
theorem zgy:HsOk Tryz.prog gmH hLi:=.cons zq4 <| .cons zeK <| .cons zfJ <| .cons zfw .nil
@[reducible] def lS (ty:zp) (s:List UInt8) (l:List Nd) (lo hi:Int) (z:Bool) (st:GSt) (acc:List Int):AS:=
 ⟨[(0,pSelf),(1,⟨i64,lo⟩),(2,⟨i64,hi⟩),(3,⟨.bool,z⟩),(9,⟨.obuf i64,(2:Nat)⟩),(10,⟨i64,acc.getLast?.getD (lo - 1)⟩)],[(0,some (pBox ty s st)),(1,some (.buf 73 nd l)),(2,some (.buf 3 i64 acc))],3⟩
theorem lt64 (n:Nat):decide (((n:Nat):Int) < 64)=decide (n < 64):=by
 rw[yu,decide_eq_true_iff,decide_eq_true_iff];omega
theorem ztk {s:List UInt8} {lo hi:Int} {z:Bool} {j:Nat} {st:GSt} {acc:List Int} (h:(!acc.isEmpty&&gIs st zc3)=false):zcs s lo hi z (j+1) st acc=(zaD st (zK st.1==3) 3 >>= fun _=>zaD st (decide (acc.length < 64)) 2 >>= fun _=>zaD st (decide (xX st.1 > acc.getLast?.getD (lo - 1))&&(z||(xX st.1 != 0))) 1 >>= fun _=>zaO s st lo hi >>= fun p=>zcs s lo hi z j p.2 (acc++ [p.1])):=by
 rw[zcs,if_neg (by rw[h];decide)]
theorem zs0:zaC Tryz.prog gmH 206 ztM:=by
 refine zau (K:=_) zak Tryz.func206 rfl rfl zbh Tryz.call206 rfl (zb rfl) zaX ?_;rintro w0 ⟨G,O,K,fix,D,ρ,B⟩ ty hX hG hK hρ hD hinv ⟨(s:List UInt8),(t:TokT),(l:List Nd),(b:Int),⟨⟩⟩ ⟨(lo:Int),(hi:Int),(z:Bool),⟨⟩⟩ hp;obtain rfl:G=gmH:=hG;obtain rfl:K=1:=hK;obtain rfl:ρ=none:=hρ;obtain rfl:D=[]:=hD;have hI:=zaJ (ty:=ty) (ty':=ty) hX rfl hinv;obtain⟨hok,hlo1,hlo2⟩:pOk (s,t,l,b,())∧ -1000≤lo∧lo≤1000:=hp;change AWP _ _ _ _ _ ⟨[(0,pSelf),(1,⟨i64,lo⟩),(2,⟨i64,hi⟩),(3,⟨.bool,z⟩)],pE ty s (t,b) l,2⟩ (pQ _ ztM ty (toX (fun r=>(r.1,psX s r.2 l)) (zdk s (t,b) lo hi z)));unfold zdk;(repeat(first|apply zae|apply zab|apply zal|apply zad|apply zac|refine zaa hX zak rfl trivial ?_|refine zaa hX zak rfl id ?_|refine zaa hX zak rfl ⟨id,id⟩ ?_));(repeat(first|apply zae|apply zab|apply zac|apply zad));refine zai ?_;refine zaz 1 hX zak zgy rfl trivial rfl rfl hok hI (e:=za0 s (t,b) zfg) rfl (fun er h=>?_) (fun st1 h=>?_)
 ·rw[zam h];exact zgu
 rw[zas h];have hok1:GOk s st1:=(zbs hok.1 h).1;have hsl:s.length≤100000:=hok.2;refine yf ?_;refine za (za ?_);refine zaa hX zak rfl ?_ ?_
 ·exact zan (by omega) (by omega)
 refine AWP.nilBuf hX 9 3 i64 rfl rfl rfl ?_;apply zac;refine yU (ι:=Nat×GSt×List Int) (fun i=>lS ty s l lo hi z i.2.1 i.2.2) (fun i=>zcs s lo hi z 66 st1 []=zcs s lo hi z i.1 i.2.1 i.2.2∧i.2.2.length+i.1=66∧GOk s i.2.1∧i.2.2.length≤64) (fun i=>i.1) (66,st1,[]) ⟨rfl,rfl,hok1,zm _⟩ ⟨⟨rfl,rfl,rfl,rfl,rfl,rfl,trivial⟩,⟨rfl,rfl,rfl,trivial⟩,rfl,rfl⟩ ?_;rintro ⟨k,st,acc⟩ ⟨heq,hk,hst,hacc⟩;have hst2:pOk (s,st.1,l,st.2,()):=⟨hst,hsl⟩;have heq:zcs s lo hi z 66 st1 []=zcs s lo hi z k st acc:=heq;have hk:acc.length+k=66:=hk;have hacc:acc.length≤64:=hacc;obtain⟨j,rfl⟩:∃ j,k=j+1:=⟨k - 1,by omega⟩;rw[heq];obtain⟨R,hR⟩:∃ R,R=zcs s lo hi z (j+1) st acc:=⟨_,rfl⟩;rw[<-hR];have hR0:=hR;apply zae;by_cases htest:(!acc.isEmpty&&gIs st zc3)=true
 ·obtain⟨hne,hcl⟩:=(zd _ _).mp htest;have hR2:R= .ok (acc,st):=hR.trans (if_pos htest);have hlen:(((acc.length:Nat):Int)==0)=false:=by
   cases acc with
   |nil=>cases hne
   |cons a r=>rw[zt];exact beq_false_of_ne (by omega)
  apply zae;refine zai ?_;refine yh 4 hX zak rfl trivial ?_;refine qC (σ':=⟨[(0,pSelf),(9,⟨.obuf i64,(2:Nat)⟩),(18,⟨.bool,false⟩)],[(0,some (pBox ty s st)),(1,some (.buf 73 nd l)),(2,some (.buf 3 i64 acc))],3⟩) ⟨⟨rfl,rfl,zcu hlen,trivial⟩,⟨rfl,rfl,rfl,trivial⟩,rfl,rfl⟩ ?_;refine AL.guardT 3 18 false rfl rfl rfl rfl ?_;refine yh 1 hX zak rfl trivial ?_;refine AL.guardT 3 18 false rfl rfl rfl rfl ?_;refine ym 0 hX zak zgy rfl trivial rfl rfl hst2 hI ?_;refine AL.guardT 3 18 false rfl rfl rfl rfl ?_;refine zV hX zak rfl trivial ?_;refine zaf rfl (fun hb=>?_) (fun _=>?_)
  ·have hb:(!gIs st zc3)=true:=hb;rw[hcl]at hb;cases hb
  apply zad;rw[zas hR2];refine zaq (σ':=⟨[(0,pSelf),(9,⟨.obuf i64,(2:Nat)⟩)],[(0,some (pBox ty s st)),(1,some (.buf 73 nd l)),(2,some (.buf 3 i64 acc))],3⟩) ⟨⟨rfl,rfl,trivial⟩,⟨rfl,rfl,rfl,trivial⟩,rfl,rfl⟩ ?_;(repeat(first|apply zae|apply zab|apply zac|apply zad));refine zai ?_;refine zaz 1 hX zak zgy rfl trivial rfl rfl hst2 hI (e:=za0 s st zc3) rfl (fun er h=>?_) (fun st2 h=>?_)
  ·rw[zam h];exact zgu
  rw[zas h];refine yf ?_;refine AWP.frz hX 9 ?_;(repeat(first|apply zae|apply zab|apply zal|apply zad|apply zac|refine zaa hX zak rfl trivial ?_|refine zaa hX zak rfl id ?_|refine zaa hX zak rfl ⟨id,id⟩ ?_));exact zq ⟨.inr rfl,⟨_,rfl,nd,1,_,rfl,rfl,rfl⟩,zax rfl trivial rfl rfl rfl⟩
 have htest:(!acc.isEmpty&&gIs st zc3)=false:=by simpa using htest
 refine AWP.viaQ (σ':=lS ty s l lo hi z st acc) ?_ ?_
 ·apply zae;refine zai ?_;refine yh 4 hX zak rfl trivial ?_;cases acc with
  |nil=>
   refine qC (σ':=⟨[(0,pSelf),(1,⟨i64,lo⟩),(2,⟨i64,hi⟩),(3,⟨.bool,z⟩),(9,⟨.obuf i64,(2:Nat)⟩),(10,⟨i64,([]:List Int).getLast?.getD (lo - 1)⟩),(18,⟨.bool,true⟩)],[(0,some (pBox ty s st)),(1,some (.buf 73 nd l)),(2,some (.buf 3 i64 []))],3⟩) ⟨⟨rfl,rfl,rfl,rfl,rfl,rfl,rfl,trivial⟩,⟨rfl,rfl,rfl,trivial⟩,rfl,rfl⟩ ?_;refine AL.guardF 3 18 false .bool false rfl rfl rfl rfl rfl rfl ?_;refine AL.guardF 3 18 false .bool false rfl rfl rfl rfl rfl rfl ?_;refine AL.guardF 3 18 false .bool false rfl rfl rfl rfl rfl rfl ?_;refine zV hX zak rfl id ?_;refine zaf rfl (fun _=>?_) (fun hb=>absurd (show true=false from hb) (by decide));apply zab;exact⟨⟨rfl,rfl,rfl,rfl,rfl,rfl,trivial⟩,⟨rfl,rfl,rfl,trivial⟩,rfl,rfl⟩
  |cons a r=>
   have hcl:gIs st zc3=false:=htest;have hlen:(((((a::r:List Int)).length:Nat):Int)==0)=false:=by
    rw[zt];exact beq_false_of_ne (by omega)
   refine qC (σ':=⟨[(0,pSelf),(1,⟨i64,lo⟩),(2,⟨i64,hi⟩),(3,⟨.bool,z⟩),(9,⟨.obuf i64,(2:Nat)⟩),(10,⟨i64,(a::r:List Int).getLast?.getD (lo - 1)⟩),(18,⟨.bool,false⟩)],[(0,some (pBox ty s st)),(1,some (.buf 73 nd l)),(2,some (.buf 3 i64 (a::r)))],3⟩) ⟨⟨rfl,rfl,rfl,rfl,rfl,rfl,zcu hlen,trivial⟩,⟨rfl,rfl,rfl,trivial⟩,rfl,rfl⟩ ?_;refine AL.guardT 3 18 false rfl rfl rfl rfl ?_;refine yh 1 hX zak rfl trivial ?_;refine AL.guardT 3 18 false rfl rfl rfl rfl ?_;refine ym 0 hX zak zgy rfl trivial rfl rfl hst2 hI ?_;refine AL.guardT 3 18 false rfl rfl rfl rfl ?_;refine zV hX zak rfl trivial ?_;refine zaf rfl (fun _=>?_) (fun hb=>?_)
   ·apply zab;exact⟨⟨rfl,rfl,rfl,rfl,rfl,rfl,trivial⟩,⟨rfl,rfl,rfl,trivial⟩,rfl,rfl⟩
   ·have hb:(!gIs st zc3)=false:=hb;rw[hcl]at hb;cases hb
 have hR:=hR.trans (ztk htest);apply zae;apply zac;(repeat(first|apply zae|apply zab|apply zac|apply zad));refine zai ?_;refine zaz 7 hX zak zgy rfl trivial rfl rfl hst2 hI (e:=zaD st (zK st.1==3) 3) rfl (fun er h=>?_) (fun u1 h1=>?_)
 ·rw[zam (hR.trans (by first|(rw[h];done)|(rw[h];rfl)))];exact rfl
 replace hR:=hR.trans (show _=_ by rw[h1])
 refine yf ?_;refine zaq (σ':=lS ty s l lo hi z st acc) ⟨⟨rfl,rfl,rfl,rfl,rfl,rfl,trivial⟩,⟨rfl,rfl,rfl,trivial⟩,rfl,rfl⟩ ?_;(repeat(first|apply zae|apply zab|apply zac|apply zad));refine zai ?_;refine zaz 4 hX zak zgy rfl trivial rfl rfl hst2 hI (e:=zaD st (decide (((acc.length:Nat):Int) < 64)) 2) rfl (fun er h=>?_) (fun u2 h2=>?_)
 ·rw[lt64]at h;rw[zam (hR.trans (by first|(rw[h];done)|(rw[h];rfl)))];exact rfl
 rw[lt64]at h2;have hacc64:=of_decide_eq_true (zbI h2)
 replace hR:=hR.trans (show _=_ by rw[h2])
 refine yf ?_;refine zaq (σ':=lS ty s l lo hi z st acc) ⟨⟨rfl,rfl,rfl,rfl,rfl,rfl,trivial⟩,⟨rfl,rfl,rfl,trivial⟩,rfl,rfl⟩ ?_;(repeat(first|apply zae|apply zab|apply zac|apply zad));refine zai ?_;refine zaz 19 hX zak zgy rfl ?_ rfl rfl hst2 hI (e:=zaD st (bif decide (xX st.1 > acc.getLast?.getD (lo - 1)) then (bif z then true else !(xX st.1==0)) else false) 1) rfl (fun er h=>?_) (fun u3 h3=>?_)
 ·repeat'(first|exact trivial|assumption|(refine⟨?_,?_⟩)|(intro _)|exact zb rfl|exact zi _|(simp_all [allP];done))
 ·rw[zco,zhO]at h;rw[zam (hR.trans (by rw[show (xX st.1 != 0)= !(xX st.1==0) from rfl,h];first|done|rfl))];exact rfl
 rw[zco,zhO]at h3
 replace hR:=hR.trans (show _=_ by rw[show (xX st.1 != 0)= !(xX st.1==0) from rfl,h3])
 refine yf ?_;refine zaq (σ':=lS ty s l lo hi z st acc) ⟨⟨rfl,rfl,rfl,rfl,rfl,rfl,trivial⟩,⟨rfl,rfl,rfl,trivial⟩,rfl,rfl⟩ ?_;(repeat(first|apply zae|apply zab|apply zac|apply zad));refine zai ?_;refine zaz 4 hX zak zgy rfl trivial rfl rfl hst2 hI (e:=zaO s st lo hi) rfl (fun er h=>?_) (fun p h4=>?_)
 ·rw[zam (hR.trans (by first|(rw[h];done)|(rw[h];rfl)))];exact rfl
 obtain⟨x,st2⟩:=p
 replace hR:=hR.trans (show _=zcs s lo hi z j st2 (acc++ [x]) by rw[h4];rfl)
 have hst3:=(zat hst h4).1.1;have hcap:acc.length+1≤1000000000:=by omega
 refine zV hX zak rfl hcap ?_;have hla:(acc++ [x]).length=acc.length+1:=by simp
 have q0:inR .i64 ((((acc++ [x]).length:Nat):Int) - 1):=zan (by omega) (by omega);have q1:(0:Int)≤(((acc++ [x]).length:Nat):Int) - 1:=by omega
 have q2:(((acc++ [x]).length:Nat):Int) - 1 < (((acc++ [x]).length:Nat):Int):=by omega
 have q3:((((acc++ [x]).length:Nat):Int) - 1).toNat < (acc++ [x]).length:=by omega
 refine zaq (σ':=⟨[(0,pSelf),(1,⟨i64,lo⟩),(2,⟨i64,hi⟩),(3,⟨.bool,z⟩),(9,⟨.obuf i64,(2:Nat)⟩)],[(0,some (pBox ty s st2)),(1,some (.buf 73 nd l)),(2,some (.buf 3 i64 (acc++ [x])))],3⟩) ⟨⟨rfl,rfl,rfl,rfl,rfl,trivial⟩,⟨rfl,rfl,rfl,trivial⟩,rfl,rfl⟩ ?_;refine za (za ?_);refine zaa hX zak rfl ?_ ?_
 ·exact⟨q0,q1,q2,q3⟩
 refine⟨(j,st2,acc++ [x]),⟨hR0▸hR,by show (acc++ [x]).length+j=66;omega,hst3,by show (acc++ [x]).length≤64;omega⟩,yR j,⟨rfl,rfl,rfl,rfl,rfl,vI64 ?_,trivial⟩,⟨rfl,rfl,rfl,trivial⟩,rfl,rfl⟩;show (acc++ [x]).getD ((((acc++ [x]).length:Nat):Int) - 1).toNat 0=(acc++ [x]).getLast?.getD (lo - 1);rw[show ((((acc++ [x]).length:Nat):Int) - 1).toNat=acc.length by omega];simp
def hFd:List (zP×HCtr):=[(202,zgg),(209,zhL),(210,zpL),(206,ztM),(81,zgB)]
theorem zbQ:HsOk Tryz.prog gmH hFd:=.cons zfw <| .cons zlD <| .cons zql <| .cons zs0 <| .cons zeK .nil
theorem nthT (a b:Bool):(bif !a then true else !b)=((!a)||(!b)):=by cases a<;>rfl
@[reducible] def zdo (w:LeafW):HCtr:=hP [] nd (fun _ _=>[]) fun x _=>toX (fun r=>(r.1,psX x.1 r.2 x.2.2.1)) (zdl x.1 (stOf x) w)
@[reducible] def zgf (w:SufW):HCtr:=hP [] nd (fun _ _=>[]) fun x _=>toX (fun r=>(r.1,psX x.1 r.2 x.2.2.1)) (gSuf x.1 (stOf x) w)
theorem zrf:zaC Tryz.prog gmH 237 (zdo .days):=by
 refine zau (K:=_) zak Tryz.func237 rfl rfl zbh Tryz.call237 rfl (zb rfl) zaX ?_;rintro w0 ⟨G,O,K,fix,D,ρ,B⟩ ty hX hG hK hρ hD hinv ⟨(s:List UInt8),(t:TokT),(l:List Nd),(b:Int),⟨⟩⟩ ⟨⟩ hp;obtain rfl:G=gmH:=hG;obtain rfl:K=1:=hK;obtain rfl:ρ=none:=hρ;obtain rfl:D=[]:=hD;have hI:=zaJ (ty:=ty) (ty':=ty) hX rfl hinv;have hok0:pOk (s,t,l,b,()):=hp;change AWP _ _ _ _ _ ⟨[(0,pSelf)],pE ty s (t,b) l,2⟩ (pQ _ (zdo .days) ty (toX (fun r=>(r.1,psX s r.2 l)) (zdl s (t,b) .days)));unfold zdl;refine za (za ?_);refine zaa hX zak rfl ?_ ?_
 ·trivial
 (repeat(first|apply zae|apply zab|apply zac|apply zad));refine zai ?_;refine zaz 1 hX zak zbQ rfl trivial rfl rfl hok0 hI (e:=zaO s (t,b) 1 zdr) rfl (fun er h=>?_) (fun a0 h0=>?_)
 ·rw[zam h];exact rfl
 rw[zas h0];obtain⟨x0,st0⟩:=a0;have hok1:pOk (s,st0.1,l,st0.2,()):=⟨((zat hok0.1 h0).1).1,hok0.2⟩;refine zV hX zak rfl trivial ?_;refine zaq (σ':=⟨[(0,pSelf),(2,⟨.optr nd,⟨2,nd,.here⟩⟩),(3,⟨i64,x0⟩)],[(0,some (pBox ty s st0)),(1,some (.buf 73 nd l)),(2,some (.box nd zNd))],3⟩) ⟨⟨rfl,rfl,rfl,trivial⟩,⟨rfl,rfl,rfl,trivial⟩,rfl,rfl⟩ ?_;(repeat(first|apply zae|apply zab|apply zac|apply zad));refine zai ?_;refine zaz 2 hX zak zbQ rfl trivial rfl rfl hok1 hI (e:=zaO s st0 0 zdr) rfl (fun er h=>?_) (fun a1 h1=>?_)
 ·rw[zam h];exact rfl
 rw[zas h1];obtain⟨x1,st1⟩:=a1;have hok2:pOk (s,st1.1,l,st1.2,()):=⟨((zat hok1.1 h1).1).1,hok1.2⟩;refine zV hX zak rfl trivial ?_;exact zq ⟨.inr rfl,⟨_,rfl,nd,1,_,rfl,rfl,rfl⟩,zax rfl trivial rfl rfl rfl⟩
theorem zpx:zaC Tryz.prog gmH 238 (zdo .years):=by
 refine zau (K:=_) zak Tryz.func238 rfl rfl zbh Tryz.call238 rfl (zb rfl) zaX ?_;rintro w0 ⟨G,O,K,fix,D,ρ,B⟩ ty hX hG hK hρ hD hinv ⟨(s:List UInt8),(t:TokT),(l:List Nd),(b:Int),⟨⟩⟩ ⟨⟩ hp;obtain rfl:G=gmH:=hG;obtain rfl:K=1:=hK;obtain rfl:ρ=none:=hρ;obtain rfl:D=[]:=hD;have hI:=zaJ (ty:=ty) (ty':=ty) hX rfl hinv;have hok0:pOk (s,t,l,b,()):=hp;change AWP _ _ _ _ _ ⟨[(0,pSelf)],pE ty s (t,b) l,2⟩ (pQ _ (zdo .years) ty (toX (fun r=>(r.1,psX s r.2 l)) (zdl s (t,b) .years)));unfold zdl;refine za (za ?_);refine zaa hX zak rfl ?_ ?_
 ·trivial
 (repeat(first|apply zae|apply zab|apply zac|apply zad));refine zai ?_;refine zaz 1 hX zak zbQ rfl trivial rfl rfl hok0 hI (e:=gCal s (t,b)) rfl (fun er h=>?_) (fun a0 h0=>?_)
 ·rw[zam h];exact rfl
 rw[zas h0];obtain⟨x0,st0⟩:=a0;have hok1:pOk (s,st0.1,l,st0.2,()):=⟨((zat hok0.1 h0).1).1,hok0.2⟩;refine zV hX zak rfl trivial ?_;refine zaq (σ':=⟨[(0,pSelf),(2,⟨.optr nd,⟨2,nd,.here⟩⟩),(3,⟨.optr nd,⟨3,nd,.here⟩⟩)],[(0,some (pBox ty s st0)),(1,some (.buf 73 nd l)),(2,some (.box nd zNd)),(3,some (.box nd (2,x0,0,0,0,0,[],[],())))],4⟩) ⟨⟨rfl,rfl,rfl,trivial⟩,⟨rfl,rfl,rfl,rfl,trivial⟩,rfl,rfl⟩ ?_;(repeat(first|apply zae|apply zab|apply zac|apply zad));refine zai ?_;refine zaz 1 hX zak zbQ rfl trivial rfl rfl hok1 hI (e:=zaO s st0 1 400) rfl (fun er h=>?_) (fun a1 h1=>?_)
 ·rw[zam h];exact rfl
 rw[zas h1];obtain⟨x1,st1⟩:=a1;have hok2:pOk (s,st1.1,l,st1.2,()):=⟨((zat hok1.1 h1).1).1,hok1.2⟩;refine zV hX zak rfl trivial ?_;refine zaq (σ':=⟨[(0,pSelf),(2,⟨.optr nd,⟨2,nd,.here⟩⟩),(3,⟨.optr nd,⟨3,nd,.here⟩⟩)],[(0,some (pBox ty s st1)),(1,some (.buf 73 nd l)),(2,some (.box nd zNd)),(3,some (.box nd (2,x0,0,0,x1,0,[],[],())))],4⟩) ⟨⟨rfl,rfl,rfl,trivial⟩,⟨rfl,rfl,rfl,rfl,trivial⟩,rfl,rfl⟩ ?_;(repeat(first|apply zae|apply zab|apply zac|apply zad));refine zai ?_;have hyb:=(zat hok1.1 h1).2;have hyc:inR .i64 (x1 - 1):=zan (by omega) (by omega);refine zaz 4 hX zak zbQ rfl hyc rfl rfl hok2 hI (e:=zaO s st1 0 (x1 - 1)) rfl (fun er h=>?_) (fun a2 h2=>?_)
 ·rw[zam h];exact rfl
 rw[zas h2];obtain⟨x2,st2⟩:=a2;have hok3:pOk (s,st2.1,l,st2.2,()):=⟨((zat hok2.1 h2).1).1,hok2.2⟩;refine zV hX zak rfl trivial ?_;refine zaq (σ':=⟨[(0,pSelf),(2,⟨.optr nd,⟨2,nd,.here⟩⟩),(3,⟨.optr nd,⟨3,nd,.here⟩⟩)],[(0,some (pBox ty s st2)),(1,some (.buf 73 nd l)),(2,some (.box nd zNd)),(3,some (.box nd (2,x0,0,0,x1,x2,[],[],())))],4⟩) ⟨⟨rfl,rfl,rfl,trivial⟩,⟨rfl,rfl,rfl,rfl,trivial⟩,rfl,rfl⟩ ?_;(repeat(first|apply zae|apply zab|apply zal|apply zad|apply zac|refine zaa hX zak rfl trivial ?_|refine zaa hX zak rfl id ?_|refine zaa hX zak rfl ⟨id,id⟩ ?_));exact zq ⟨.inr rfl,⟨_,rfl,nd,1,_,rfl,rfl,rfl⟩,zax rfl trivial rfl rfl rfl⟩
theorem zny:zaC Tryz.prog gmH 239 (zdo .months):=by
 refine zau (K:=_) zak Tryz.func239 rfl rfl zbh Tryz.call239 rfl (zb rfl) zaX ?_;rintro w0 ⟨G,O,K,fix,D,ρ,B⟩ ty hX hG hK hρ hD hinv ⟨(s:List UInt8),(t:TokT),(l:List Nd),(b:Int),⟨⟩⟩ ⟨⟩ hp;obtain rfl:G=gmH:=hG;obtain rfl:K=1:=hK;obtain rfl:ρ=none:=hρ;obtain rfl:D=[]:=hD;have hI:=zaJ (ty:=ty) (ty':=ty) hX rfl hinv;have hok0:pOk (s,t,l,b,()):=hp;change AWP _ _ _ _ _ ⟨[(0,pSelf)],pE ty s (t,b) l,2⟩ (pQ _ (zdo .months) ty (toX (fun r=>(r.1,psX s r.2 l)) (zdl s (t,b) .months)));unfold zdl;refine za (za ?_);refine zaa hX zak rfl ?_ ?_
 ·trivial
 (repeat(first|apply zae|apply zab|apply zac|apply zad));refine zai ?_;refine zaz 1 hX zak zbQ rfl trivial rfl rfl hok0 hI (e:=gCal s (t,b)) rfl (fun er h=>?_) (fun a0 h0=>?_)
 ·rw[zam h];exact rfl
 rw[zas h0];obtain⟨x0,st0⟩:=a0;have hok1:pOk (s,st0.1,l,st0.2,()):=⟨((zat hok0.1 h0).1).1,hok0.2⟩;refine zV hX zak rfl trivial ?_;refine zaq (σ':=⟨[(0,pSelf),(2,⟨.optr nd,⟨2,nd,.here⟩⟩),(3,⟨i64,x0⟩)],[(0,some (pBox ty s st0)),(1,some (.buf 73 nd l)),(2,some (.box nd zNd))],3⟩) ⟨⟨rfl,rfl,rfl,trivial⟩,⟨rfl,rfl,rfl,trivial⟩,rfl,rfl⟩ ?_;(repeat(first|apply zae|apply zab|apply zac|apply zad));refine zai ?_;refine zaz 2 hX zak zbQ rfl trivial rfl rfl ⟨hok1,(by decide:(-1000:Int)≤1),(by decide:(1:Int)≤1000)⟩ hI (e:=zdk s st0 1 16 true) rfl (fun er h=>?_) (fun a1 h1=>?_)
 ·rw[zam h];exact rfl
 rw[zas h1];obtain⟨x1,st1⟩:=a1;have hok2:pOk (s,st1.1,l,st1.2,()):=⟨(zbZ hok1.1 h1).1,hok1.2⟩;refine zV hX zak rfl trivial ?_;exact zq ⟨.inr rfl,⟨_,rfl,nd,1,_,rfl,rfl,rfl⟩,zax rfl trivial rfl rfl rfl⟩
theorem zjn:zaC Tryz.prog gmH 240 (zdo .monthdays):=by
 refine zau (K:=_) zak Tryz.func240 rfl rfl zbh Tryz.call240 rfl (zb rfl) zaX ?_;rintro w0 ⟨G,O,K,fix,D,ρ,B⟩ ty hX hG hK hρ hD hinv ⟨(s:List UInt8),(t:TokT),(l:List Nd),(b:Int),⟨⟩⟩ ⟨⟩ hp;obtain rfl:G=gmH:=hG;obtain rfl:K=1:=hK;obtain rfl:ρ=none:=hρ;obtain rfl:D=[]:=hD;have hI:=zaJ (ty:=ty) (ty':=ty) hX rfl hinv;have hok0:pOk (s,t,l,b,()):=hp;change AWP _ _ _ _ _ ⟨[(0,pSelf)],pE ty s (t,b) l,2⟩ (pQ _ (zdo .monthdays) ty (toX (fun r=>(r.1,psX s r.2 l)) (zdl s (t,b) .monthdays)));unfold zdl;refine za (za ?_);refine zaa hX zak rfl ?_ ?_
 ·trivial
 (repeat(first|apply zae|apply zab|apply zac|apply zad));refine zai ?_;refine zaz 1 hX zak zbQ rfl trivial rfl rfl hok0 hI (e:=gCal s (t,b)) rfl (fun er h=>?_) (fun a0 h0=>?_)
 ·rw[zam h];exact rfl
 rw[zas h0];obtain⟨x0,st0⟩:=a0;have hok1:pOk (s,st0.1,l,st0.2,()):=⟨((zat hok0.1 h0).1).1,hok0.2⟩;refine zV hX zak rfl trivial ?_;refine zaq (σ':=⟨[(0,pSelf),(2,⟨.optr nd,⟨2,nd,.here⟩⟩),(3,⟨i64,x0⟩)],[(0,some (pBox ty s st0)),(1,some (.buf 73 nd l)),(2,some (.box nd zNd))],3⟩) ⟨⟨rfl,rfl,rfl,trivial⟩,⟨rfl,rfl,rfl,trivial⟩,rfl,rfl⟩ ?_;(repeat(first|apply zae|apply zab|apply zac|apply zad));refine zai ?_;refine zaz 2 hX zak zbQ rfl trivial rfl rfl ⟨hok1,(by decide:(-1000:Int)≤(-40)),(by decide:((-40):Int)≤1000)⟩ hI (e:=zdk s st0 (-40) 40 false) rfl (fun er h=>?_) (fun a1 h1=>?_)
 ·rw[zam h];exact rfl
 rw[zas h1];obtain⟨x1,st1⟩:=a1;have hok2:pOk (s,st1.1,l,st1.2,()):=⟨(zbZ hok1.1 h1).1,hok1.2⟩;refine zV hX zak rfl trivial ?_;exact zq ⟨.inr rfl,⟨_,rfl,nd,1,_,rfl,rfl,rfl⟩,zax rfl trivial rfl rfl rfl⟩
theorem zpy:zaC Tryz.prog gmH 242 (zdo .weeks):=by
 refine zau (K:=_) zak Tryz.func242 rfl rfl zbh Tryz.call242 rfl (zb rfl) zaX ?_;rintro w0 ⟨G,O,K,fix,D,ρ,B⟩ ty hX hG hK hρ hD hinv ⟨(s:List UInt8),(t:TokT),(l:List Nd),(b:Int),⟨⟩⟩ ⟨⟩ hp;obtain rfl:G=gmH:=hG;obtain rfl:K=1:=hK;obtain rfl:ρ=none:=hρ;obtain rfl:D=[]:=hD;have hI:=zaJ (ty:=ty) (ty':=ty) hX rfl hinv;have hok0:pOk (s,t,l,b,()):=hp;change AWP _ _ _ _ _ ⟨[(0,pSelf)],pE ty s (t,b) l,2⟩ (pQ _ (zdo .weeks) ty (toX (fun r=>(r.1,psX s r.2 l)) (zdl s (t,b) .weeks)));unfold zdl;refine za (za ?_);refine zaa hX zak rfl ?_ ?_
 ·trivial
 (repeat(first|apply zae|apply zab|apply zac|apply zad));refine zai ?_;refine zaz 1 hX zak zbQ rfl trivial rfl rfl hok0 hI (e:=gCal s (t,b)) rfl (fun er h=>?_) (fun a0 h0=>?_)
 ·rw[zam h];exact rfl
 rw[zas h0];obtain⟨x0,st0⟩:=a0;have hok1:pOk (s,st0.1,l,st0.2,()):=⟨((zat hok0.1 h0).1).1,hok0.2⟩;refine zV hX zak rfl trivial ?_;refine zaq (σ':=⟨[(0,pSelf),(2,⟨.optr nd,⟨2,nd,.here⟩⟩),(3,⟨i64,x0⟩)],[(0,some (pBox ty s st0)),(1,some (.buf 73 nd l)),(2,some (.box nd zNd))],3⟩) ⟨⟨rfl,rfl,rfl,trivial⟩,⟨rfl,rfl,rfl,trivial⟩,rfl,rfl⟩ ?_;(repeat(first|apply zae|apply zab|apply zac|apply zad));refine zai ?_;refine zaz 2 hX zak zbQ rfl trivial rfl rfl ⟨hok1,(by decide:(-1000:Int)≤1),(by decide:(1:Int)≤1000)⟩ hI (e:=zdk s st0 1 54 true) rfl (fun er h=>?_) (fun a1 h1=>?_)
 ·rw[zam h];exact rfl
 rw[zas h1];obtain⟨x1,st1⟩:=a1;have hok2:pOk (s,st1.1,l,st1.2,()):=⟨(zbZ hok1.1 h1).1,hok1.2⟩;refine zV hX zak rfl trivial ?_;exact zq ⟨.inr rfl,⟨_,rfl,nd,1,_,rfl,rfl,rfl⟩,zax rfl trivial rfl rfl rfl⟩
theorem zkG:zaC Tryz.prog gmH 241 (zdo .weekdays):=by
 refine zau (K:=_) zak Tryz.func241 rfl rfl zbh Tryz.call241 rfl (zb rfl) zaX ?_;rintro w0 ⟨G,O,K,fix,D,ρ,B⟩ ty hX hG hK hρ hD hinv ⟨(s:List UInt8),(t:TokT),(l:List Nd),(b:Int),⟨⟩⟩ ⟨⟩ hp;obtain rfl:G=gmH:=hG;obtain rfl:K=1:=hK;obtain rfl:ρ=none:=hρ;obtain rfl:D=[]:=hD;have hI:=zaJ (ty:=ty) (ty':=ty) hX rfl hinv;have hok0:pOk (s,t,l,b,()):=hp;change AWP _ _ _ _ _ ⟨[(0,pSelf)],pE ty s (t,b) l,2⟩ (pQ _ (zdo .weekdays) ty (toX (fun r=>(r.1,psX s r.2 l)) (zdl s (t,b) .weekdays)));unfold zdl;refine za (za ?_);refine zaa hX zak rfl ?_ ?_
 ·trivial
 (repeat(first|apply zae|apply zab|apply zac|apply zad));refine zai ?_;refine zaz 1 hX zak zbQ rfl trivial rfl rfl ⟨hok0,(by decide:(-1000:Int)≤0),(by decide:(0:Int)≤1000)⟩ hI (e:=zdk s (t,b) 0 6 true) rfl (fun er h=>?_) (fun a0 h0=>?_)
 ·rw[zam h];exact rfl
 rw[zas h0];obtain⟨x0,st0⟩:=a0;have hok1:pOk (s,st0.1,l,st0.2,()):=⟨(zbZ hok0.1 h0).1,hok0.2⟩;refine zV hX zak rfl trivial ?_;exact zq ⟨.inr rfl,⟨_,rfl,nd,1,_,rfl,rfl,rfl⟩,zax rfl trivial rfl rfl rfl⟩
theorem zty:zaC Tryz.prog gmH 243 (zdo .nth):=by
 refine zau (K:=_) zak Tryz.func243 rfl rfl zbh Tryz.call243 rfl (zb rfl) zaX ?_;rintro w0 ⟨G,O,K,fix,D,ρ,B⟩ ty hX hG hK hρ hD hinv ⟨(s:List UInt8),(t:TokT),(l:List Nd),(b:Int),⟨⟩⟩ ⟨⟩ hp;obtain rfl:G=gmH:=hG;obtain rfl:K=1:=hK;obtain rfl:ρ=none:=hρ;obtain rfl:D=[]:=hD;have hI:=zaJ (ty:=ty) (ty':=ty) hX rfl hinv;have hok0:pOk (s,t,l,b,()):=hp;change AWP _ _ _ _ _ ⟨[(0,pSelf)],pE ty s (t,b) l,2⟩ (pQ _ (zdo .nth) ty (toX (fun r=>(r.1,psX s r.2 l)) (zdl s (t,b) .nth)));unfold zdl;refine za (za ?_);refine zaa hX zak rfl ?_ ?_
 ·trivial
 (repeat(first|apply zae|apply zab|apply zac|apply zad));refine zai ?_;refine zaz 1 hX zak zbQ rfl trivial rfl rfl hok0 hI (e:=gCal s (t,b)) rfl (fun er h=>?_) (fun a0 h0=>?_)
 ·rw[zam h];exact rfl
 rw[zas h0];obtain⟨x0,st0⟩:=a0;have hok1:pOk (s,st0.1,l,st0.2,()):=⟨((zat hok0.1 h0).1).1,hok0.2⟩;refine zV hX zak rfl trivial ?_;refine zaq (σ':=⟨[(0,pSelf),(2,⟨.optr nd,⟨2,nd,.here⟩⟩),(3,⟨.optr nd,⟨3,nd,.here⟩⟩)],[(0,some (pBox ty s st0)),(1,some (.buf 73 nd l)),(2,some (.box nd zNd)),(3,some (.box nd (7,x0,0,0,0,0,[],[],())))],4⟩) ⟨⟨rfl,rfl,rfl,trivial⟩,⟨rfl,rfl,rfl,rfl,trivial⟩,rfl,rfl⟩ ?_;(repeat(first|apply zae|apply zab|apply zac|apply zad));refine zai ?_;refine zaz 15 hX zak zbQ rfl ?_ rfl rfl hok1 hI (e:=zaD st0 (bif !(zK st0.1==3) then true else !(xX st0.1==0)) 1) rfl (fun er h=>?_) (fun u1 h1=>?_)
 ·repeat'(first|exact trivial|assumption|(refine⟨?_,?_⟩)|(intro _)|exact zb rfl|exact zi _|(simp_all [allP];done))
 ·rw[nthT]at h;rw[zam (show zaD st0 ((zK st0.1 != 3)||(xX st0.1 != 0)) 1=_ from h)];exact rfl
 rw[nthT]at h1;rw[zas (show zaD st0 ((zK st0.1 != 3)||(xX st0.1 != 0)) 1=_ from h1)];refine yf ?_;refine zaq (σ':=⟨[(0,pSelf),(2,⟨.optr nd,⟨2,nd,.here⟩⟩),(3,⟨.optr nd,⟨3,nd,.here⟩⟩)],[(0,some (pBox ty s st0)),(1,some (.buf 73 nd l)),(2,some (.box nd zNd)),(3,some (.box nd (7,x0,0,0,0,0,[],[],())))],4⟩) ⟨⟨rfl,rfl,rfl,trivial⟩,⟨rfl,rfl,rfl,rfl,trivial⟩,rfl,rfl⟩ ?_;(repeat(first|apply zae|apply zab|apply zac|apply zad));refine zai ?_;refine zaz 1 hX zak zbQ rfl trivial rfl rfl hok1 hI (e:=zaO s st0 (-60) 60) rfl (fun er h=>?_) (fun a2 h2=>?_)
 ·rw[zam h];exact rfl
 rw[zas h2];obtain⟨x2,st2⟩:=a2;have hok2:pOk (s,st2.1,l,st2.2,()):=⟨((zat hok1.1 h2).1).1,hok1.2⟩;refine zV hX zak rfl trivial ?_;refine zaq (σ':=⟨[(0,pSelf),(2,⟨.optr nd,⟨2,nd,.here⟩⟩),(3,⟨.optr nd,⟨3,nd,.here⟩⟩)],[(0,some (pBox ty s st2)),(1,some (.buf 73 nd l)),(2,some (.box nd zNd)),(3,some (.box nd (7,x0,0,0,x2,0,[],[],())))],4⟩) ⟨⟨rfl,rfl,rfl,trivial⟩,⟨rfl,rfl,rfl,rfl,trivial⟩,rfl,rfl⟩ ?_;(repeat(first|apply zae|apply zab|apply zac|apply zad));refine zai ?_;refine zaz 1 hX zak zbQ rfl trivial rfl rfl hok2 hI (e:=zaO s st2 0 6) rfl (fun er h=>?_) (fun a3 h3=>?_)
 ·rw[zam h];exact rfl
 rw[zas h3];obtain⟨x3,st3⟩:=a3;have hok3:pOk (s,st3.1,l,st3.2,()):=⟨((zat hok2.1 h3).1).1,hok2.2⟩;refine zV hX zak rfl trivial ?_;refine zaq (σ':=⟨[(0,pSelf),(2,⟨.optr nd,⟨2,nd,.here⟩⟩),(3,⟨.optr nd,⟨3,nd,.here⟩⟩)],[(0,some (pBox ty s st3)),(1,some (.buf 73 nd l)),(2,some (.box nd zNd)),(3,some (.box nd (7,x0,0,0,x2,x3,[],[],())))],4⟩) ⟨⟨rfl,rfl,rfl,trivial⟩,⟨rfl,rfl,rfl,rfl,trivial⟩,rfl,rfl⟩ ?_;(repeat(first|apply zae|apply zab|apply zac|apply zad));refine zai ?_;refine zaz 1 hX zak zbQ rfl trivial rfl rfl hok3 hI (e:=zdK s st3) rfl (fun er h=>?_) (fun a4 h4=>?_)
 ·rw[zam h];exact rfl
 rw[zas h4];obtain⟨x4,st4⟩:=a4;have hok4:pOk (s,st4.1,l,st4.2,()):=⟨(zeo hok3.1 h4).1,hok3.2⟩;refine zV hX zak rfl trivial ?_;refine zaq (σ':=⟨[(0,pSelf),(2,⟨.optr nd,⟨2,nd,.here⟩⟩),(3,⟨.optr nd,⟨3,nd,.here⟩⟩)],[(0,some (pBox ty s st4)),(1,some (.buf 73 nd l)),(2,some (.box nd zNd)),(3,some (.box nd (7,x0,x4,0,x2,x3,[],[],())))],4⟩) ⟨⟨rfl,rfl,rfl,trivial⟩,⟨rfl,rfl,rfl,rfl,trivial⟩,rfl,rfl⟩ ?_;(repeat(first|apply zae|apply zab|apply zal|apply zad|apply zac|refine zaa hX zak rfl trivial ?_|refine zaa hX zak rfl id ?_|refine zaa hX zak rfl ⟨id,id⟩ ?_));exact zq ⟨.inr rfl,⟨_,rfl,nd,1,_,rfl,rfl,rfl⟩,zax rfl trivial rfl rfl rfl⟩
theorem zpA:zaC Tryz.prog gmH 201 (zgf .shift):=by
 refine zau (K:=_) zak Tryz.func201 rfl rfl zbh Tryz.call201 rfl (zb rfl) zaX ?_;rintro w0 ⟨G,O,K,fix,D,ρ,B⟩ ty hX hG hK hρ hD hinv ⟨(s:List UInt8),(t:TokT),(l:List Nd),(b:Int),⟨⟩⟩ ⟨⟩ hp;obtain rfl:G=gmH:=hG;obtain rfl:K=1:=hK;obtain rfl:ρ=none:=hρ;obtain rfl:D=[]:=hD;have hI:=zaJ (ty:=ty) (ty':=ty) hX rfl hinv;have hok0:pOk (s,t,l,b,()):=hp;change AWP _ _ _ _ _ ⟨[(0,pSelf)],pE ty s (t,b) l,2⟩ (pQ _ (zgf .shift) ty (toX (fun r=>(r.1,psX s r.2 l)) (gSuf s (t,b) .shift)));unfold gSuf;refine za (za ?_);refine zaa hX zak rfl ?_ ?_
 ·trivial
 (repeat(first|apply zae|apply zab|apply zac|apply zad));refine zai ?_;refine zaz 1 hX zak zbQ rfl trivial rfl rfl hok0 hI (e:=zaO s (t,b) (-zdr) zdr) rfl (fun er h=>?_) (fun a0 h0=>?_)
 ·rw[zam h];exact rfl
 rw[zas h0];obtain⟨x0,st0⟩:=a0;have hok1:pOk (s,st0.1,l,st0.2,()):=⟨((zat hok0.1 h0).1).1,hok0.2⟩;refine zV hX zak rfl trivial ?_;exact zq ⟨.inr rfl,⟨_,rfl,nd,1,_,rfl,rfl,rfl⟩,zax rfl trivial rfl rfl rfl⟩
theorem zre:zaC Tryz.prog gmH 203 (zgf .from_):=by
 refine zau (K:=_) zak Tryz.func203 rfl rfl zbh Tryz.call203 rfl (zb rfl) zaX ?_;rintro w0 ⟨G,O,K,fix,D,ρ,B⟩ ty hX hG hK hρ hD hinv ⟨(s:List UInt8),(t:TokT),(l:List Nd),(b:Int),⟨⟩⟩ ⟨⟩ hp;obtain rfl:G=gmH:=hG;obtain rfl:K=1:=hK;obtain rfl:ρ=none:=hρ;obtain rfl:D=[]:=hD;have hI:=zaJ (ty:=ty) (ty':=ty) hX rfl hinv;have hok0:pOk (s,t,l,b,()):=hp;change AWP _ _ _ _ _ ⟨[(0,pSelf)],pE ty s (t,b) l,2⟩ (pQ _ (zgf .from_) ty (toX (fun r=>(r.1,psX s r.2 l)) (gSuf s (t,b) .from_)));unfold gSuf;refine za (za ?_);refine zaa hX zak rfl ?_ ?_
 ·trivial
 (repeat(first|apply zae|apply zab|apply zac|apply zad));refine zai ?_;refine zaz 1 hX zak zbQ rfl trivial rfl rfl hok0 hI (e:=zaO s (t,b) 0 zdr) rfl (fun er h=>?_) (fun a0 h0=>?_)
 ·rw[zam h];exact rfl
 rw[zas h0];obtain⟨x0,st0⟩:=a0;have hok1:pOk (s,st0.1,l,st0.2,()):=⟨((zat hok0.1 h0).1).1,hok0.2⟩;refine zV hX zak rfl trivial ?_;exact zq ⟨.inr rfl,⟨_,rfl,nd,1,_,rfl,rfl,rfl⟩,zax rfl trivial rfl rfl rfl⟩
theorem zpz:zaC Tryz.prog gmH 204 (zgf .until_):=by
 refine zau (K:=_) zak Tryz.func204 rfl rfl zbh Tryz.call204 rfl (zb rfl) zaX ?_;rintro w0 ⟨G,O,K,fix,D,ρ,B⟩ ty hX hG hK hρ hD hinv ⟨(s:List UInt8),(t:TokT),(l:List Nd),(b:Int),⟨⟩⟩ ⟨⟩ hp;obtain rfl:G=gmH:=hG;obtain rfl:K=1:=hK;obtain rfl:ρ=none:=hρ;obtain rfl:D=[]:=hD;have hI:=zaJ (ty:=ty) (ty':=ty) hX rfl hinv;have hok0:pOk (s,t,l,b,()):=hp;change AWP _ _ _ _ _ ⟨[(0,pSelf)],pE ty s (t,b) l,2⟩ (pQ _ (zgf .until_) ty (toX (fun r=>(r.1,psX s r.2 l)) (gSuf s (t,b) .until_)));unfold gSuf;refine za (za ?_);refine zaa hX zak rfl ?_ ?_
 ·trivial
 (repeat(first|apply zae|apply zab|apply zac|apply zad));refine zai ?_;refine zaz 1 hX zak zbQ rfl trivial rfl rfl hok0 hI (e:=zaO s (t,b) 0 zdr) rfl (fun er h=>?_) (fun a0 h0=>?_)
 ·rw[zam h];exact rfl
 rw[zas h0];obtain⟨x0,st0⟩:=a0;have hok1:pOk (s,st0.1,l,st0.2,()):=⟨((zat hok0.1 h0).1).1,hok0.2⟩;refine zV hX zak rfl trivial ?_;exact zq ⟨.inr rfl,⟨_,rfl,nd,1,_,rfl,rfl,rfl⟩,zax rfl trivial rfl rfl rfl⟩
theorem zrg:zaC Tryz.prog gmH 205 (zgf .also):=by
 refine zau (K:=_) zak Tryz.func205 rfl rfl zbh Tryz.call205 rfl (zb rfl) zaX ?_;rintro w0 ⟨G,O,K,fix,D,ρ,B⟩ ty hX hG hK hρ hD hinv ⟨(s:List UInt8),(t:TokT),(l:List Nd),(b:Int),⟨⟩⟩ ⟨⟩ hp;obtain rfl:G=gmH:=hG;obtain rfl:K=1:=hK;obtain rfl:ρ=none:=hρ;obtain rfl:D=[]:=hD;have hI:=zaJ (ty:=ty) (ty':=ty) hX rfl hinv;have hok0:pOk (s,t,l,b,()):=hp;change AWP _ _ _ _ _ ⟨[(0,pSelf)],pE ty s (t,b) l,2⟩ (pQ _ (zgf .also) ty (toX (fun r=>(r.1,psX s r.2 l)) (gSuf s (t,b) .also)));unfold gSuf;refine za (za ?_);refine zaa hX zak rfl ?_ ?_
 ·trivial
 (repeat(first|apply zae|apply zab|apply zac|apply zad));refine zai ?_;refine zaz 1 hX zak zbQ rfl trivial rfl rfl ⟨hok0,(by decide:(-1000:Int)≤0),(by decide:(0:Int)≤1000)⟩ hI (e:=zdk s (t,b) 0 zdr true) rfl (fun er h=>?_) (fun a0 h0=>?_)
 ·rw[zam h];exact rfl
 rw[zas h0];obtain⟨x0,st0⟩:=a0;have hok1:pOk (s,st0.1,l,st0.2,()):=⟨(zbZ hok0.1 h0).1,hok0.2⟩;refine zV hX zak rfl trivial ?_;exact zq ⟨.inr rfl,⟨_,rfl,nd,1,_,rfl,rfl,rfl⟩,zax rfl trivial rfl rfl rfl⟩
theorem znz:zaC Tryz.prog gmH 207 (zgf .except_):=by
 refine zau (K:=_) zak Tryz.func207 rfl rfl zbh Tryz.call207 rfl (zb rfl) zaX ?_;rintro w0 ⟨G,O,K,fix,D,ρ,B⟩ ty hX hG hK hρ hD hinv ⟨(s:List UInt8),(t:TokT),(l:List Nd),(b:Int),⟨⟩⟩ ⟨⟩ hp;obtain rfl:G=gmH:=hG;obtain rfl:K=1:=hK;obtain rfl:ρ=none:=hρ;obtain rfl:D=[]:=hD;have hI:=zaJ (ty:=ty) (ty':=ty) hX rfl hinv;have hok0:pOk (s,t,l,b,()):=hp;change AWP _ _ _ _ _ ⟨[(0,pSelf)],pE ty s (t,b) l,2⟩ (pQ _ (zgf .except_) ty (toX (fun r=>(r.1,psX s r.2 l)) (gSuf s (t,b) .except_)));unfold gSuf;refine za (za ?_);refine zaa hX zak rfl ?_ ?_
 ·trivial
 (repeat(first|apply zae|apply zab|apply zac|apply zad));refine zai ?_;refine zaz 1 hX zak zbQ rfl trivial rfl rfl ⟨hok0,(by decide:(-1000:Int)≤0),(by decide:(0:Int)≤1000)⟩ hI (e:=zdk s (t,b) 0 zdr true) rfl (fun er h=>?_) (fun a0 h0=>?_)
 ·rw[zam h];exact rfl
 rw[zas h0];obtain⟨x0,st0⟩:=a0;have hok1:pOk (s,st0.1,l,st0.2,()):=⟨(zbZ hok0.1 h0).1,hok0.2⟩;refine zV hX zak rfl trivial ?_;exact zq ⟨.inr rfl,⟨_,rfl,nd,1,_,rfl,rfl,rfl⟩,zax rfl trivial rfl rfl rfl⟩
theorem ztx:zaC Tryz.prog gmH 208 (zgf .pos):=by
 refine zau (K:=_) zak Tryz.func208 rfl rfl zbh Tryz.call208 rfl (zb rfl) zaX ?_;rintro w0 ⟨G,O,K,fix,D,ρ,B⟩ ty hX hG hK hρ hD hinv ⟨(s:List UInt8),(t:TokT),(l:List Nd),(b:Int),⟨⟩⟩ ⟨⟩ hp;obtain rfl:G=gmH:=hG;obtain rfl:K=1:=hK;obtain rfl:ρ=none:=hρ;obtain rfl:D=[]:=hD;have hI:=zaJ (ty:=ty) (ty':=ty) hX rfl hinv;have hok0:pOk (s,t,l,b,()):=hp;change AWP _ _ _ _ _ ⟨[(0,pSelf)],pE ty s (t,b) l,2⟩ (pQ _ (zgf .pos) ty (toX (fun r=>(r.1,psX s r.2 l)) (gSuf s (t,b) .pos)));unfold gSuf;refine za (za ?_);refine zaa hX zak rfl ?_ ?_
 ·trivial
 (repeat(first|apply zae|apply zab|apply zac|apply zad));refine zai ?_;refine zaz 1 hX zak zbQ rfl trivial rfl rfl hok0 hI (e:=gCal s (t,b)) rfl (fun er h=>?_) (fun a0 h0=>?_)
 ·rw[zam h];exact rfl
 rw[zas h0];obtain⟨x0,st0⟩:=a0;have hok1:pOk (s,st0.1,l,st0.2,()):=⟨((zat hok0.1 h0).1).1,hok0.2⟩;refine zV hX zak rfl trivial ?_;refine zaq (σ':=⟨[(0,pSelf),(2,⟨.optr nd,⟨2,nd,.here⟩⟩),(3,⟨.optr nd,⟨3,nd,.here⟩⟩)],[(0,some (pBox ty s st0)),(1,some (.buf 73 nd l)),(2,some (.box nd zNd)),(3,some (.box nd (16,x0,0,0,0,0,[],[],())))],4⟩) ⟨⟨rfl,rfl,rfl,trivial⟩,⟨rfl,rfl,rfl,rfl,trivial⟩,rfl,rfl⟩ ?_;(repeat(first|apply zae|apply zab|apply zac|apply zad));refine zai ?_;refine zaz 1 hX zak zbQ rfl trivial rfl rfl hok1 hI (e:=zdK s st0) rfl (fun er h=>?_) (fun a1 h1=>?_)
 ·rw[zam h];exact rfl
 rw[zas h1];obtain⟨x1,st1⟩:=a1;have hok2:pOk (s,st1.1,l,st1.2,()):=⟨(zeo hok1.1 h1).1,hok1.2⟩;refine zV hX zak rfl trivial ?_;refine zaq (σ':=⟨[(0,pSelf),(2,⟨.optr nd,⟨2,nd,.here⟩⟩),(3,⟨.optr nd,⟨3,nd,.here⟩⟩)],[(0,some (pBox ty s st1)),(1,some (.buf 73 nd l)),(2,some (.box nd zNd)),(3,some (.box nd (16,x0,0,0,0,x1,[],[],())))],4⟩) ⟨⟨rfl,rfl,rfl,trivial⟩,⟨rfl,rfl,rfl,rfl,trivial⟩,rfl,rfl⟩ ?_;(repeat(first|apply zae|apply zab|apply zac|apply zad));refine zai ?_;refine zaz 1 hX zak zbQ rfl trivial rfl rfl ⟨hok2,(by decide:(-1000:Int)≤(-400)),(by decide:((-400):Int)≤1000)⟩ hI (e:=zdk s st1 (-400) 400 false) rfl (fun er h=>?_) (fun a2 h2=>?_)
 ·rw[zam h];exact rfl
 rw[zas h2];obtain⟨x2,st2⟩:=a2;have hok3:pOk (s,st2.1,l,st2.2,()):=⟨(zbZ hok2.1 h2).1,hok2.2⟩;refine zV hX zak rfl trivial ?_;refine zaq (σ':=⟨[(0,pSelf),(2,⟨.optr nd,⟨2,nd,.here⟩⟩),(3,⟨.optr nd,⟨3,nd,.here⟩⟩)],[(0,some (pBox ty s st2)),(1,some (.buf 73 nd l)),(2,some (.box nd zNd)),(3,some (.box nd (16,x0,0,0,0,x1,x2,[],())))],4⟩) ⟨⟨rfl,rfl,rfl,trivial⟩,⟨rfl,rfl,rfl,rfl,trivial⟩,rfl,rfl⟩ ?_;(repeat(first|apply zae|apply zab|apply zal|apply zad|apply zac|refine zaa hX zak rfl trivial ?_|refine zaa hX zak rfl id ?_|refine zaa hX zak rfl ⟨id,id⟩ ?_));exact zq ⟨.inr rfl,⟨_,rfl,nd,1,_,rfl,rfl,rfl⟩,zax rfl trivial rfl rfl rfl⟩
def fnV (f:zP):zh:=.func (.func f) #[] #[]
def zc7:LeafW->zh
 | .days=>fnV 237
 | .years=>fnV 238
 | .months=>fnV 239
 | .monthdays=>fnV 240
 | .weekdays=>fnV 241
 | .weeks=>fnV 242
 | .nth=>fnV 243
def zeL:SufW->zh
 | .shift=>fnV 201
 | .from_=>fnV 203
 | .until_=>fnV 204
 | .also=>fnV 205
 | .except_=>fnV 207
 | .pos=>fnV 208
 | .behind=>fnV 211
def strV (w:List UInt8):zh:=.string ⟨w.toArray⟩
def zko:List (zh×zh):=[(strV zjK,zc7 .days),(strV zgl,zc7 .years),(strV zcj,zc7 .months),(strV za5,zc7 .monthdays),(strV zbl,zc7 .weekdays),(strV zdf,zc7 .weeks),(strV wNth,zc7 .nth)]
def zgY:List (zh×zh):=[(strV zeQ,zeL .shift),(strV zhW,zeL .from_),(strV zeP,zeL .until_),(strV zeZ,zeL .also),(strV zck,zeL .except_),(strV wPos,zeL .pos),(strV zbS,zeL .behind)]
theorem zpX (a b:ByteArray):(a==b)=(a.toList==b.toList):=by
 rw[xA,xA];show (a.data==b.data)=(a.data.toList==b.data.toList);rw[yu,beq_iff_eq,beq_iff_eq];exact⟨fun h=>by rw[h],fun h=>Array.toList_inj.1 h⟩
theorem ziH (w k:List UInt8) (v:zh) (es:List (zh×zh)):zfH .string (strV w) ((strV k,v)::es)=if w=k then some (some v) else zfH .string (strV w) es:=by
 rw[zfH];have e:Instr.sameNow .string (strV w) (strV k)=some (decide (w=k)):=by
  show some ((⟨w.toArray⟩:ByteArray)==⟨k.toArray⟩)=_
  congr 1
  rw[zpX,zeu,zdM]
 rw[show (strV k,v).1=strV k from rfl,e];by_cases h:w=k
 ·rw[if_pos h,decide_eq_true h]
 ·rw[if_neg h,decide_eq_false h]
theorem zo8 (w:List UInt8):zfH .string (strV w) zko=some ((zgD w).map zc7):=by
 unfold zko zgD
 iterate 7 (rw[ziH];split; · rfl)
 rfl
theorem zqf (w:List UInt8):zfH .string (strV w) zgY=some ((sufW w).map zeL):=by
 unfold zgY sufW
 iterate 7 (rw[ziH];split; · rfl)
 rfl
def zpP:Ctr:={ args:=[],pre:=fun _=>[],res:=.mapL,own:=none,out:=fun _=>zko }
def zkM:Ctr:={ args:=[],pre:=fun _=>[],res:=.mapL,own:=none,out:=fun _=>zgY }
theorem zo5:yM Tryz.prog gmH 200 zpP:=by
 refine zar (K:=gmK) zak Tryz.func200 rfl rfl Tryz.call200 rfl (by decide) (by intro h;cases h) ?_;rintro w0 X hX _ hp;change AWP _ _ _ _ _ ⟨[],[],0⟩ _;apply zae;refine za (za ?_);refine zaa hX zak rfl ?_ ?_
 ·trivial
 (repeat(first|apply zae|apply zab|apply zac|apply zad));refine zai ?_;refine AL.mapLit hX Tryz.underlying204 Tryz.underlying9 rfl zko (ins:=[_,_,_,_,_,_,_]) rfl rfl rfl rfl (.cons rfl (fun _=>rfl) (fun _=>rfl) rfl rfl <| .cons rfl (fun _=>rfl) (fun _=>rfl) rfl rfl <| .cons rfl (fun _=>rfl) (fun _=>rfl) rfl rfl <| .cons rfl (fun _=>rfl) (fun _=>rfl) rfl rfl <| .cons rfl (fun _=>rfl) (fun _=>rfl) rfl rfl <| .cons rfl (fun _=>rfl) (fun _=>rfl) rfl rfl <| .cons rfl (fun _=>rfl) (fun _=>rfl) rfl rfl rfl) ⟨rfl,rfl,rfl,rfl,rfl,rfl,rfl,trivial⟩ ?_;refine zV hX zak rfl trivial ?_;(repeat(first|apply zae|apply zab|apply zac|apply zad));exact zq ⟨.inr rfl,zax rfl trivial rfl rfl rfl⟩
theorem zk2:yM Tryz.prog gmH 179 zkM:=by
 refine zar (K:=gmK) zak Tryz.func179 rfl rfl Tryz.call179 rfl (by decide) (by intro h;cases h) ?_;rintro w0 X hX _ hp;change AWP _ _ _ _ _ ⟨[],[],0⟩ _;apply zae;refine za (za ?_);refine zaa hX zak rfl ?_ ?_
 ·trivial
 (repeat(first|apply zae|apply zab|apply zac|apply zad));refine zai ?_;refine AL.mapLit hX Tryz.underlying204 Tryz.underlying9 rfl zgY (ins:=[_,_,_,_,_,_,_]) rfl rfl rfl rfl (.cons rfl (fun _=>rfl) (fun _=>rfl) rfl rfl <| .cons rfl (fun _=>rfl) (fun _=>rfl) rfl rfl <| .cons rfl (fun _=>rfl) (fun _=>rfl) rfl rfl <| .cons rfl (fun _=>rfl) (fun _=>rfl) rfl rfl <| .cons rfl (fun _=>rfl) (fun _=>rfl) rfl rfl <| .cons rfl (fun _=>rfl) (fun _=>rfl) rfl rfl <| .cons rfl (fun _=>rfl) (fun _=>rfl) rfl rfl rfl) ⟨rfl,rfl,rfl,rfl,rfl,rfl,rfl,trivial⟩ ?_;refine zV hX zak rfl trivial ?_;(repeat(first|apply zae|apply zab|apply zac|apply zad));exact zq ⟨.inr rfl,zax rfl trivial rfl rfl rfl⟩
abbrev Gop:=List UInt8×Int×Unit
def opsL:List Gop:=[(wOr,9,()),(zlP,10,()),(wAnd,8,())]
def cOps:Ctr:={ args:=[],pre:=fun _=>[],res:=.slice gop,own:=none,out:=fun _=>opsL }
theorem zgv:yM Tryz.prog gmH 101 cOps:=by
 refine zar (K:=gmK) zak Tryz.func101 rfl rfl Tryz.call101 rfl (by decide) (by intro h;cases h) ?_;rintro w0 X hX _ hp;change AWP _ _ _ _ _ ⟨[],[],0⟩ _;(repeat(first|apply zae|apply zab|apply zal|apply zad|apply zac|refine zaa hX zak rfl trivial ?_|refine zaa hX zak rfl id ?_|refine zaa hX zak rfl ⟨id,id⟩ ?_));refine AWP.frz hX 0 ?_;exact zq ⟨.inr rfl,zax rfl trivial rfl rfl rfl⟩
@[reducible] def trX (s:List UInt8) (l:List Nd) (r:Tr×GSt):Int×PsT:=(((l.length+r.1.size:Nat):Int) - 1,psX s r.2 (l++r.1.flat l.length))
def few (x:PsT):Prop:=((x.2.2.1.length:Nat):Int)≤x.2.2.2.1
@[reducible] def cBin (k:Nat):HCtr:=hP [i64] i64 (fun x xs=>[0≤xs.1,xs.1≤3,few x,meas x.1 (.bin xs.1.toNat) (stOf x) < k]) fun x xs=>toX (trX x.1 x.2.2.1) (prsT x.1 (.bin xs.1.toNat) (stOf x))
@[reducible] def zkP (k:Nat):HCtr:=hP [] i64 (fun x _=>[few x,meas x.1 .chain (stOf x) < k]) fun x _=>toX (trX x.1 x.2.2.1) (prsT x.1 .chain (stOf x))
@[reducible] def zjs (k:Nat):HCtr:=hP [] i64 (fun x _=>[few x,meas x.1 .prim (stOf x) < k]) fun x _=>toX (trX x.1 x.2.2.1) (prsT x.1 .prim (stOf x))
def gBeh (s:List UInt8) (st:GSt):GE (Nd×Tr×GSt):=gSuf s st .behind >>= fun p=>prsT s .prim p.2 >>= fun u=>.ok (p.1,u.1,u.2)
def setR (n:Nd) (r:Int):Nd:=(n.1,n.2.1,n.2.2.1,r,n.2.2.2.2)
@[reducible] def cBeh (k:Nat):HCtr:=hP [] nd (fun x _=>[few x,meas x.1 .prim (stOf x) < k]) fun x _=>toX (fun r=>(setR r.1 (((x.2.2.1.length+r.2.1.size:Nat):Int) - 1),psX x.1 r.2.2 (x.2.2.1++r.2.1.flat x.2.2.1.length))) (gBeh x.1 (stOf x))
def kBi:Kn:={ gmK with C:=[(101,cOps)] }
theorem zbj:KnOk Tryz.prog gmH kBi:=zak.with (.cons zgv .nil)
def hBi (k:Nat):List (zP×HCtr):=[(80,cBin k),(133,zkP k),(134,cIs),(135,zkQ),(136,cAdd)]
theorem zsL {i:Nat} (h:i < 3):opsL.getD ((i:Int)).toNat ([],0,())=(opW i,opK i,()):=by
 rw[zH];rcases (show i=0∨i=1∨i=2 by omega) with rfl|rfl|rfl<;>rfl
theorem ztR {te:zp} {t:Ty} {x y:List t.T} (h:x=y):some (OObj.buf te t x)=some (OObj.buf te t y):=by rw[h]
theorem zpV (k:Nat) (hB:zaC Tryz.prog gmH 80 (cBin k)) (hC:zaC Tryz.prog gmH 133 (zkP k)):zaC Tryz.prog gmH 80 (cBin (k+1)):=by
 have hbi:HsOk Tryz.prog gmH (hBi k):=.cons hB <| .cons hC <| .cons zq4 <| .cons zjy <| .cons zpZ .nil;refine zau (K:=_) zbj Tryz.func80 rfl rfl zbh Tryz.call80 rfl (zb rfl) zaX ?_;rintro w0 ⟨G,O,K,fix,D,ρ,B⟩ ty hX hG hK hρ hD hinv ⟨(s:List UInt8),(t:TokT),(l:List Nd),(b:Int),⟨⟩⟩ ⟨(j:Int),⟨⟩⟩ hp;obtain rfl:G=gmH:=hG;obtain rfl:K=1:=hK;obtain rfl:ρ=none:=hρ;obtain rfl:D=[]:=hD;have hI:=zaJ (ty:=ty) (ty':=ty) hX rfl hinv;obtain⟨hok,hj0,hj1,hfew,hme⟩:pOk (s,t,l,b,())∧0≤j∧j≤3∧few (s,t,l,b,())∧meas s (.bin j.toNat) (t,b) < k+1:=hp;obtain⟨i,rfl⟩:∃ i:Nat,j=(i:Int):=⟨j.toNat,by omega⟩;rw[zH]at hme;have hg:GOk s (t,b):=hok.1;change AWP _ _ _ _ _ ⟨[(0,pSelf),(1,⟨i64,(i:Int)⟩)],pE ty s (t,b) l,2⟩ (pQ _ (cBin (k+1)) ty (toX (trX s l) (prsT s (.bin ((i:Int)).toNat) (t,b))));rw[zH];refine za (za ?_);refine zaa hX zbj rfl ?_ ?_
 ·trivial
 refine za (za ?_);refine zaa hX zbj rfl ?_ ?_
 ·trivial
 refine za (za ?_);refine zaa hX zbj rfl ?_ ?_
 ·trivial
 refine zaf rfl (fun hb=>?_) (fun hb=>?_)
 ·have hb:decide ((i:Int)=((3:Nat):Int))=true:=hb;have hb:=of_decide_eq_true hb;obtain rfl:i=3:=by omega
  rw[zhd hg (zk 3)];have hmc:meas s .chain (t,b) < k:=by simp only[meas,mdF]at hme ⊢;omega
  (repeat(first|apply zae|apply zab|apply zac|apply zad));refine zai ?_;refine zaz 1 hX zbj hbi rfl trivial rfl rfl ⟨hok,hfew,hmc⟩ hI (e:=prsT s .chain (t,b)) rfl (fun er h=>?_) (fun a h=>?_)
  ·rw[h];exact rfl
  rw[h];refine zV hX zbj rfl trivial ?_;exact zq ⟨.inr rfl,⟨_,rfl,nd,1,_,rfl,rfl,rfl⟩,zax rfl trivial rfl rfl rfl⟩
 have hb:decide ((i:Int)=((3:Nat):Int))=false:=hb;have hi3:i < 3:=by
  have:=of_decide_eq_false hb;omega
 apply zab;rw[zgI hg (by omega)];have hq:inR .i64 ((i:Int)+1):=zan (by omega) (by omega);have htn:((i:Int)+1).toNat=i+1:=by omega
 have hm1:meas s (.bin ((i:Int)+1).toNat) (t,b) < k:=by
  rw[htn];simp only[meas,mdF]at hme ⊢;omega
 (repeat(first|apply zae|apply zab|apply zac|apply zad));refine zai ?_;refine zaz 3 hX zbj hbi rfl hq rfl rfl ⟨hok,(by omega:(0:Int)≤(i:Int)+1),(by omega:(i:Int)+1≤3),hfew,hm1⟩ hI (f:=trX s l) (e:=prsT s (.bin (i+1)) (t,b)) (congrArg (fun i=>toX (trX s l) (prsT s (.bin i) (t,b))) htn) (fun er h=>?_) (fun a h=>?_)
 ·rw[zam h];exact rfl
 rw[zas h];obtain⟨t1,st1⟩:=a;refine zV hX zbj rfl trivial ?_;have hc1:Onw s (t,b) st1:=zdF hg h;have hz1:st1.2=b+(t1.size:Int):=zi5 h;have hsl:s.length≤100000:=hok.2;have hfew:((l.length:Nat):Int)≤b:=hfew;apply zae;apply zac;refine yU (ι:=Tr×GSt) (fun i'=>⟨[(0,pSelf),(1,⟨i64,(i:Int)⟩),(5,⟨.slice gop,opsL⟩),(6,⟨i64,(((l.length+i'.1.size:Nat):Int) - 1)⟩)],pE ty s i'.2 (l++i'.1.flat l.length),2⟩) (fun i'=>prsT s (.binL i t1) st1=prsT s (.binL i i'.1) i'.2∧Onw s (t,b) i'.2∧i'.2.2=b+(i'.1.size:Int)) (fun i'=>rem s i'.2) (t1,st1) ⟨rfl,hc1,hz1⟩ ⟨⟨rfl,rfl,rfl,rfl,trivial⟩,⟨rfl,rfl,trivial⟩,rfl,rfl⟩ ?_;rintro ⟨t2,st⟩ ⟨heq,hon,hsz⟩;have heq:prsT s (.binL i t1) st1=prsT s (.binL i t2) st:=heq;have hsz:st.2=b+(t2.size:Int):=hsz;have hon:Onw s (t,b) st:=hon;have hst:GOk s st:=hon.1;have hst2:pOk (s,st.1,l++t2.flat l.length,st.2,()):=⟨hst,hsl⟩;have hgo:(i:Int) < ((opsL.length:Nat):Int):=by show (i:Int) < ((3:Nat):Int);omega
 have hgo0:(0:Int)≤(i:Int):=by omega
 rw[heq];apply zae;apply zae;refine zai ?_;refine ym 6 hX zbj hbi rfl ⟨hgo0,hgo⟩ rfl rfl hst2 hI ?_;refine yf ?_;have hat:=zsL hi3;have hw1:(opsL.getD ((i:Int)).toNat ([],0,())).1=opW i:=by rw[hat]
 have hk1:(opsL.getD ((i:Int)).toNat ([],0,())).2.1=opK i:=by rw[hat]
 refine zaf rfl (fun hb=>?_) (fun hb=>?_)
 ·have hb:gIs st (opsL.getD ((i:Int)).toNat ([],0,())).1=true:=hb;rw[hw1]at hb;apply zab;rw[ziq hst hb]at heq ⊢;refine zaq (σ':=⟨[(0,pSelf),(1,⟨i64,(i:Int)⟩),(5,⟨.slice gop,opsL⟩),(6,⟨i64,(((l.length+t2.size:Nat):Int) - 1)⟩)],pE ty s st (l++t2.flat l.length),2⟩) ⟨⟨rfl,rfl,rfl,rfl,trivial⟩,⟨rfl,rfl,trivial⟩,rfl,rfl⟩ ?_;apply zac;(repeat(first|apply zae|apply zab|apply zac|apply zad));refine zai ?_;refine zaz 1 hX zbj hbi rfl trivial rfl rfl hst2 hI (e:=zbR s st) rfl (fun er h=>?_) (fun st3 h3=>?_)
  ·rw[zam h];exact rfl
  rw[zas h3];have hc3:=zbi hst (zdB hb) h3;have hz3:=zdb h3;have hfl:=t2.len_flat l.length;have hst3:pOk (s,st3.1,l++t2.flat l.length,st3.2,()):=⟨hc3.1,hsl⟩;have hfew3:few (s,st3.1,l++t2.flat l.length,st3.2,()):=by
   show (((l++t2.flat l.length).length:Nat):Int)≤st3.2;rw[zf];omega
  have hr1:=hon.rem hg;have hr2:=hc3.rem hst;have hm3:meas s (.bin ((i:Int)+1).toNat) st3 < k:=by
   rw[htn];simp only[meas,mdF]at hme ⊢;omega
  refine yf ?_;refine zaq (σ':=⟨[(0,pSelf),(1,⟨i64,(i:Int)⟩),(5,⟨.slice gop,opsL⟩),(6,⟨i64,(((l.length+t2.size:Nat):Int) - 1)⟩)],pE ty s st3 (l++t2.flat l.length),2⟩) ⟨⟨rfl,rfl,rfl,rfl,trivial⟩,⟨rfl,rfl,trivial⟩,rfl,rfl⟩ ?_;(repeat(first|apply zae|apply zab|apply zac|apply zad));refine zai ?_;refine zaz 3 hX zbj hbi rfl hq rfl rfl ⟨hst3,(by omega:(0:Int)≤(i:Int)+1),(by omega:(i:Int)+1≤3),hfew3,hm3⟩ hI (f:=trX s (l++t2.flat l.length)) (e:=prsT s (.bin (i+1)) st3) (congrArg (fun i=>toX (trX s (l++t2.flat l.length)) (prsT s (.bin i) st3)) htn) (fun er h=>?_) (fun a h4=>?_)
  ·rw[zam h];exact rfl
  rw[zas h4];obtain⟨u,st4⟩:=a;have hc4:Onw s st3 st4:=zdF hc3.1 h4;have hz4:st4.2=st3.2+(u.size:Int):=zi5 h4;have hst4:pOk (s,st4.1,l++t2.flat l.length++u.flat (l.length+t2.size),st4.2,()):=⟨hc4.1,hsl⟩;have hlen1:(l++t2.flat l.length).length=l.length+t2.size:=by rw[zf,hfl]
  have hlen2:(l++t2.flat l.length++u.flat (l.length+t2.size)).length=l.length+t2.size+u.size:=by rw[zf,hlen1,u.len_flat]
  refine zV hX zbj rfl trivial ?_;refine zaq (σ':=⟨[(0,pSelf),(1,⟨i64,(i:Int)⟩),(5,⟨.slice gop,opsL⟩),(6,⟨i64,(((l.length+t2.size:Nat):Int) - 1)⟩),(7,⟨i64,(((l.length+t2.size+u.size:Nat):Int) - 1)⟩)],pE ty s st4 (l++t2.flat l.length++u.flat (l.length+t2.size)),2⟩) ⟨⟨rfl,rfl,rfl,rfl,vI64 ?_,trivial⟩,⟨rfl,ztR ?_,trivial⟩,rfl,rfl⟩ ?_
  ·show ((((l++t2.flat l.length).length+u.size:Nat):Int) - 1)=_;rw[hlen1]
  ·show l++t2.flat l.length++u.flat (l++t2.flat l.length).length=_;rw[hlen1]
  have hg4:=hc4.1.2.2;have hadd:(l++t2.flat l.length++u.flat (l.length+t2.size)).length≤100000:=by
   rw[hlen2];omega
  (repeat(first|apply zae|apply zab|apply zac|apply zad));refine zai ?_;refine ym 9 hX zbj hbi rfl ⟨hgo0,hgo⟩ rfl rfl ⟨hst4,hadd⟩ hI ?_;refine zV hX zbj rfl trivial ?_;refine⟨(.bin (opK i,zNd.2) t2 u,st4),⟨?_,?_,?_⟩,?_,⟨rfl,rfl,rfl,vI64 ?_,trivial⟩,⟨rfl,ztR ?_,trivial⟩,rfl,rfl⟩
  ·rw[h3];show (prsT s (.bin (i+1)) st3 >>= _)=_;rw[h4];rfl
  ·exact (hon.trans hc3).trans hc4
  ·show st4.2=b+((t2.size+u.size+1:Nat):Int);omega
  ·have hr4:=hc4.rem hc3.1;show rem s st4 < rem s st;omega
  ·show (((l++t2.flat l.length++u.flat (l.length+t2.size)).length:Nat):Int)=((l.length+(t2.size+u.size+1):Nat):Int) - 1;rw[hlen2];omega
  ·show l++t2.flat l.length++u.flat (l.length+t2.size)++ [((opsL.getD ((i:Int)).toNat ([],0,())).2.1,(0:Int),(((l.length+t2.size:Nat):Int) - 1),(((l.length+t2.size+u.size:Nat):Int) - 1),(0:Int),(0:Int),([]:List Int),([]:List UInt8),())]=l++(t2.flat l.length++u.flat (l.length+t2.size)++ [zcc (opK i,zNd.2) (((l.length+t2.size:Nat):Int) - 1) (((l.length+t2.size+u.size:Nat):Int) - 1)]);rw[hk1, <-zs, <-zs];rfl
 ·have hb:gIs st (opsL.getD ((i:Int)).toNat ([],0,())).1=false:=hb;rw[hw1]at hb;rw[zir hst hb];apply zad;(repeat(first|apply zae|apply zab|apply zal|apply zad|apply zac|refine zaa hX zbj rfl trivial ?_|refine zaa hX zbj rfl id ?_|refine zaa hX zbj rfl ⟨id,id⟩ ?_));exact zq ⟨.inr rfl,⟨_,rfl,nd,1,_,rfl,rfl,rfl⟩,zax rfl trivial rfl rfl rfl⟩
def hBe (k:Nat):List (zP×HCtr):=[(202,zgg),(88,zgh),(178,zjs k)]
theorem beh_ok (k:Nat) (hP:zaC Tryz.prog gmH 178 (zjs k)):zaC Tryz.prog gmH 211 (cBeh k):=by
 have hbe:HsOk Tryz.prog gmH (hBe k):=.cons zfw <| .cons zfJ <| .cons hP .nil;refine zau (K:=_) zak Tryz.func211 rfl rfl zbh Tryz.call211 rfl (zb rfl) zaX ?_;rintro w0 ⟨G,O,K,fix,D,ρ,B⟩ ty hX hG hK hρ hD hinv ⟨(s:List UInt8),(t:TokT),(l:List Nd),(b:Int),⟨⟩⟩ ⟨⟩ hp;obtain rfl:G=gmH:=hG;obtain rfl:K=1:=hK;obtain rfl:ρ=none:=hρ;obtain rfl:D=[]:=hD;have hI:=zaJ (ty:=ty) (ty':=ty) hX rfl hinv;obtain⟨hok,hfew,hme⟩:pOk (s,t,l,b,())∧few (s,t,l,b,())∧meas s .prim (t,b) < k:=hp;have hg:GOk s (t,b):=hok.1;have hsl:s.length≤100000:=hok.2;have hfew:((l.length:Nat):Int)≤b:=hfew;change AWP _ _ _ _ _ ⟨[(0,pSelf)],pE ty s (t,b) l,2⟩ (pQ _ (cBeh k) ty (toX (fun r=>(setR r.1 (((l.length+r.2.1.size:Nat):Int) - 1),psX s r.2.2 (l++r.2.1.flat l.length))) (gBeh s (t,b))));obtain⟨R,hR⟩:∃ R,R=gBeh s (t,b):=⟨_,rfl⟩;rw[<-hR];rw[show gBeh s (t,b)=(zaO s (t,b) 1 400 >>= fun p=>za0 s p.2 wOf >>= fun st=>prsT s .prim st >>= fun u=>.ok ((17,0,0,0,p.1,0,[],[],()),u.1,u.2)) by
  unfold gBeh gSuf;cases zaO s (t,b) 1 400 with
  |error e=>rfl
  |ok p=>
   show ((za0 s p.2 wOf >>= _) >>= _)=(za0 s p.2 wOf >>= _);cases za0 s p.2 wOf<;>rfl]at hR
 refine za (za ?_);refine zaa hX zak rfl ?_ ?_
 ·trivial
 (repeat(first|apply zae|apply zab|apply zac|apply zad));refine zai ?_;refine zaz 1 hX zak hbe rfl trivial rfl rfl hok hI (e:=zaO s (t,b) 1 400) rfl (fun er h=>?_) (fun p h1=>?_)
 ·rw[show R= .error er by rw[hR,h];rfl];exact rfl
 obtain⟨x,st1⟩:=p;rw[h1]at hR;have hc1:=(zat hg h1).1;have hst1:pOk (s,st1.1,l,st1.2,()):=⟨hc1.1,hsl⟩;refine zV hX zak rfl trivial ?_;refine zaq (σ':=⟨[(0,pSelf),(2,⟨.optr nd,⟨2,nd,.here⟩⟩),(3,⟨.optr nd,⟨3,nd,.here⟩⟩)],[(0,some (pBox ty s st1)),(1,some (.buf 73 nd l)),(2,some (.box nd zNd)),(3,some (.box nd (17,0,0,0,x,0,[],[],())))],4⟩) ⟨⟨rfl,rfl,rfl,trivial⟩,⟨rfl,rfl,rfl,rfl,trivial⟩,rfl,rfl⟩ ?_;(repeat(first|apply zae|apply zab|apply zac|apply zad));refine zai ?_;refine zaz 1 hX zak hbe rfl trivial rfl rfl hst1 hI (e:=za0 s st1 wOf) rfl (fun er h=>?_) (fun st2 h2=>?_)
 ·rw[show R= .error er by rw[hR];show (za0 s st1 wOf >>= _)=_;rw[h];rfl];exact rfl
 have hc2:=zbs hc1.1 h2;have hst2:pOk (s,st2.1,l,st2.2,()):=⟨hc2.1,hsl⟩;refine yf ?_;refine zaq (σ':=⟨[(0,pSelf),(2,⟨.optr nd,⟨2,nd,.here⟩⟩),(3,⟨.optr nd,⟨3,nd,.here⟩⟩)],[(0,some (pBox ty s st2)),(1,some (.buf 73 nd l)),(2,some (.box nd zNd)),(3,some (.box nd (17,0,0,0,x,0,[],[],())))],4⟩) ⟨⟨rfl,rfl,rfl,trivial⟩,⟨rfl,rfl,rfl,rfl,trivial⟩,rfl,rfl⟩ ?_;have hr1:=hc1.rem hg;have hr2:=hc2.rem hc1.1;have hm2:meas s .prim st2 < k:=by
  simp only[meas,mdF]at hme ⊢;omega
 have hz1:=zbv h1;have hz2:=zdL h2;have hfew2:few (s,st2.1,l,st2.2,()):=by
  show ((l.length:Nat):Int)≤st2.2;rw[hz2,hz1];exact hfew
 (repeat(first|apply zae|apply zab|apply zac|apply zad));refine zai ?_;refine zaz 1 hX zak hbe rfl trivial rfl rfl ⟨hst2,hfew2,hm2⟩ hI (e:=prsT s .prim st2) rfl (fun er h=>?_) (fun p h3=>?_)
 ·rw[show R= .error er by rw[hR];show (za0 s st1 wOf >>= _)=_;rw[h2];show (prsT s .prim st2 >>= _)=_;rw[h];rfl];exact rfl
 obtain⟨u,st3⟩:=p;rw[show R= .ok ((17,0,0,0,x,0,[],[],()),u,st3) by rw[hR];show (za0 s st1 wOf >>= _)=_;rw[h2];show (prsT s .prim st2 >>= _)=_;rw[h3];rfl];refine zV hX zak rfl trivial ?_;(repeat(first|apply zae|apply zab|apply zal|apply zad|apply zac|refine zaa hX zak rfl trivial ?_|refine zaa hX zak rfl id ?_|refine zaa hX zak rfl ⟨id,id⟩ ?_));exact zq ⟨.inr rfl,⟨_,rfl,nd,1,_,rfl,rfl,rfl⟩,zax rfl trivial rfl rfl rfl⟩
def kCh:Kn:={ gmK with C:=[(179,zkM)] }
theorem zce:KnOk Tryz.prog gmH kCh:=zak.with (.cons zk2 .nil)
def hCh (k:Nat):List (zP×HCtr):=[(178,zjs k),(135,zkQ),(136,cAdd)]
theorem zsx {w:SufW} (hw:w≠ .behind):∃ f,zeL w= .func (.func f) #[] #[]∧zaC Tryz.prog gmH f (zgf w):=by
 cases w with
 |shift=>exact⟨_,rfl,zpA⟩
 |from_=>exact⟨_,rfl,zre⟩
 |until_=>exact⟨_,rfl,zpz⟩
 |also=>exact⟨_,rfl,zrg⟩
 |except_=>exact⟨_,rfl,znz⟩
 |pos=>exact⟨_,rfl,ztx⟩
 |behind=>exact absurd rfl hw
deriving instance DecidableEq for SufW
def zjk (s:List UInt8) (st:GSt) (len:Nat) (w:SufW):GE (Nd×List Nd×(Tr->Tr)×GSt):=
 if w= .behind then gBeh s st >>= fun r=>.ok (setR r.1 (((len+r.2.1.size:Nat):Int) - 1),r.2.1.flat len,fun t=>.bin r.1 t r.2.1,r.2.2)
 else gSuf s st w >>= fun p=>.ok (p.1,[],fun t=>.un p.1 t,p.2)
theorem znV {s:List UInt8} {t:Tr} {st:GSt} (len:Nat):∀ w:SufW,sufT (s:=s) t st w=(zjk s st len w >>= fun r=>.ok (r.2.2.1 t,r.2.2.2))
 | .behind=>by
  unfold sufT zjk gBeh;rw[if_pos rfl];cases gSuf s st .behind with
  |error e=>rfl
  |ok p=>
   show (prsT s .prim p.2 >>= _)=(((prsT s .prim p.2 >>= _) >>= _) >>= _);cases prsT s .prim p.2<;>rfl
 | .shift| .from_| .until_| .also| .except_| .pos=>by
  unfold sufT zjk;rw[if_neg (by intro h;cases h)];simp only[];cases gSuf s st _<;>rfl
theorem zra {s:List UInt8} {st:GSt} {len:Nat} {w:SufW} {r:Nd×List Nd×(Tr->Tr)×GSt} (h:GOk s st) (he:zjk s st len w= .ok r):Onw s st r.2.2.2∧r.2.2.2.2=st.2+(r.2.1.length:Int)∧∀ t:Tr,(r.2.2.1 t).size=t.size+r.2.1.length+1∧∀ b,len=b+t.size->(r.2.2.1 t).flat b=t.flat b++r.2.1++ [setL r.1 (((b+t.size:Nat):Int) - 1)]:=by
 unfold zjk at he;split at he
 ·obtain⟨⟨n,u,st'⟩,h1,h2⟩:=zao he;cases h2;obtain⟨⟨n',st1⟩,h3,h4⟩:=zao h1;obtain⟨⟨u',st2⟩,h5,h6⟩:=zao h4;cases h6;have k1:=zen h _ h3;have k2:Onw s st1 st2:=zdF k1.1 h5;have k3:=zmr _ h3;have k4:st2.2=st1.2+(u'.size:Int):=zi5 h5;refine⟨k1.trans k2,?_,fun t=>⟨?_,fun b hb=>?_⟩⟩
  ·show st2.2=st.2+(((u'.flat len).length:Nat):Int);rw[u'.len_flat];omega
  ·show t.size+u'.size+1=t.size+(u'.flat len).length+1;rw[u'.len_flat]
  ·subst hb;rfl
 ·obtain⟨⟨n,st'⟩,h1,h2⟩:=zao he;cases h2;refine⟨zen h _ h1,?_,fun t=>⟨rfl,fun b hb=>?_⟩⟩
  ·show st'.2=st.2+0;rw[zmr _ h1];omega
  ·show t.flat b++ [_]=t.flat b++ []++ [_];rw[zI]
@[reducible] def cSufK (w:SufW) (k:Nat):HCtr:=hP [] nd (fun x _=>[few x,meas x.1 .prim (stOf x) < k]) fun x _=>toX (fun r=>(r.1,psX x.1 r.2.2.2 (x.2.2.1++r.2.1))) (zjk x.1 (stOf x) x.2.2.1.length w)
theorem zqa {args:List Ty} {x:PsT} {xs:Args args} {pre pre':PsT->Args args->List Prop} (hp:∀ x xs,allP (pre' x xs)->allP (pre x xs)) (h7:allP (pOk x::pre' x xs)):allP (pOk x::pre x xs):=by
 have h8:pOk x∧allP (pre' x xs):=by
  cases hq:pre' x xs with
  |nil=>rw[hq]at h7;exact⟨h7,trivial⟩
  |cons a l=>rw[hq]at h7;exact h7
 have h9:=hp x xs h8.2;cases hr:pre x xs with
 |nil=>exact h8.1
 |cons a l=>rw[hr]at h9;exact⟨h8.1,h9⟩
theorem zkx {P:zy} {G:zj->Prop} {f:zP} {args:List Ty} {res:Ty} {pre pre':PsT->Args args->List Prop} {out out':PsT->Args args->Except zh (res.T×PsT)} (h:zaC P G f (hP args res pre out)) (hp:∀ x xs,allP (pre' x xs)->allP (pre x xs)) (ho:∀ x xs,out' x xs=out x xs):zaC P G f (hP args res pre' out'):=by
 obtain rfl:out'=out:=funext fun x=>funext fun xs=>ho x xs;refine⟨h.1,h.2.1,fun w O g cs ty x xs vs b h1 h2 h3 h4 h5 h6 h7 h8 h9=>?_⟩;refine (h.2.2 w O g cs ty x xs vs b h1 h2 h3 h4 h5 h6 ?_ h8 h9).mono fun e w' hr=>⟨hr.1,?_⟩
 ·exact zqa hp h7
 ·have hr:=hr.2;revert hr;show HEnd (hP args res pre out') ty w w' O g b e (out' x xs)->HEnd (hP args res pre' out') ty w w' O g b e (out' x xs);cases out' x xs<;>exact id
theorem zsw (k:Nat) (hP:zaC Tryz.prog gmH 178 (zjs k)) (w:SufW):∃ f,zeL w= .func (.func f) #[] #[]∧zaC Tryz.prog gmH f (cSufK w k):=by
 by_cases hw:w= .behind
 ·subst hw;refine⟨_,rfl,zkx (beh_ok k hP) (fun x xs h=>h) fun x xs=>?_⟩;unfold zjk;rw[if_pos rfl];cases gBeh x.1 (stOf x)<;>rfl
 ·obtain⟨f,h1,h2⟩:=zsx hw;refine⟨f,h1,zkx h2 (fun x xs h=>trivial) fun x xs=>?_⟩;unfold zjk;rw[if_neg hw];cases gSuf x.1 (stOf x) w with
  |error e=>rfl
  |ok p=>
   show Except.ok (p.1,psX x.1 p.2 (x.2.2.1++ []))=Except.ok (p.1,psX x.1 p.2 x.2.2.1);rw[zI]
theorem zro (k:Nat) (hP:zaC Tryz.prog gmH 178 (zjs k)):zaC Tryz.prog gmH 133 (zkP (k+1)):=by
 have hch:HsOk Tryz.prog gmH (hCh k):=.cons hP <| .cons zjy <| .cons zpZ .nil;refine zau (K:=_) zce Tryz.func133 rfl rfl zbh Tryz.call133 rfl (zb rfl) zaX ?_;rintro w0 ⟨G,O,K,fix,D,ρ,B⟩ ty hX hG hK hρ hD hinv ⟨(s:List UInt8),(t:TokT),(l:List Nd),(b:Int),⟨⟩⟩ ⟨⟩ hp;obtain rfl:G=gmH:=hG;obtain rfl:K=1:=hK;obtain rfl:ρ=none:=hρ;obtain rfl:D=[]:=hD;have hI:=zaJ (ty:=ty) (ty':=ty) hX rfl hinv;obtain⟨hok,hfew,hme⟩:pOk (s,t,l,b,())∧few (s,t,l,b,())∧meas s .chain (t,b) < k+1:=hp;have hg:GOk s (t,b):=hok.1;have hsl:s.length≤100000:=hok.2;change AWP _ _ _ _ _ ⟨[(0,pSelf)],pE ty s (t,b) l,2⟩ (pQ _ (zkP (k+1)) ty (toX (trX s l) (prsT s .chain (t,b))));rw[zio hg];refine za (za ?_);refine zaa hX zce rfl ?_ ?_
 ·trivial
 have hm0:meas s .prim (t,b) < k:=by simp only[meas,mdF]at hme ⊢;omega
 (repeat(first|apply zae|apply zab|apply zac|apply zad));refine zai ?_;refine zaz 1 hX zce hch rfl trivial rfl rfl ⟨hok,hfew,hm0⟩ hI (e:=prsT s .prim (t,b)) rfl (fun er h=>?_) (fun a h=>?_)
 ·rw[zam h];exact rfl
 rw[zas h];obtain⟨t1,st1⟩:=a;have hc1:Onw s (t,b) st1:=zdF hg h;have hz1:st1.2=b+(t1.size:Int):=zi5 h;have hfew:((l.length:Nat):Int)≤b:=hfew;refine zV hX zce rfl trivial ?_;apply zae;apply zac;refine yU (ι:=Tr×GSt) (fun i'=>⟨[(0,pSelf),(3,⟨i64,(((l.length+i'.1.size:Nat):Int) - 1)⟩),(4,⟨.mapL,zgY⟩)],pE ty s i'.2 (l++i'.1.flat l.length),2⟩) (fun i'=>prsT s (.chainL t1) st1=prsT s (.chainL i'.1) i'.2∧Onw s (t,b) i'.2∧i'.2.2=b+(i'.1.size:Int)) (fun i'=>rem s i'.2) (t1,st1) ⟨rfl,hc1,hz1⟩ ⟨⟨rfl,rfl,rfl,trivial⟩,⟨rfl,rfl,trivial⟩,rfl,rfl⟩ ?_;rintro ⟨t2,st⟩ ⟨heq,hon,hsz⟩;have heq:prsT s (.chainL t1) st1=prsT s (.chainL t2) st:=heq;have hsz:st.2=b+(t2.size:Int):=hsz;have hon:Onw s (t,b) st:=hon;have hst:GOk s st:=hon.1;have hst2:pOk (s,st.1,l++t2.flat l.length,st.2,()):=⟨hst,hsl⟩;have hfl:=t2.len_flat l.length;have hlen1:(l++t2.flat l.length).length=l.length+t2.size:=by rw[zf,hfl]
 rw[heq];apply zae;refine za (za ?_);refine zaa hX zce rfl ?_ ?_
 ·trivial
 refine zaf rfl (fun hb=>?_) (fun hb=>?_)
 rotate_left
 ·have hb:(st.1.1==1)=false:=hb;have hb:zK st.1≠1:=fun h=>by
   have:(st.1.1==1)=true:=beq_iff_eq.2 h;rw[this]at hb;cases hb
  rw[zeh hst hb];apply zad;(repeat(first|apply zae|apply zab|apply zal|apply zad|apply zac|refine zaa hX zce rfl trivial ?_|refine zaa hX zce rfl id ?_|refine zaa hX zce rfl ⟨id,id⟩ ?_));exact zq ⟨.inr rfl,⟨_,rfl,nd,1,_,rfl,rfl,rfl⟩,zax rfl trivial rfl rfl rfl⟩
 have hb:(st.1.1==1)=true:=hb;have hcls:zK st.1=1:=beq_iff_eq.1 hb;apply zab;refine zaq (σ':=⟨[(0,pSelf),(3,⟨i64,(((l.length+t2.size:Nat):Int) - 1)⟩),(4,⟨.mapL,zgY⟩)],pE ty s st (l++t2.flat l.length),2⟩) ⟨⟨rfl,rfl,rfl,trivial⟩,⟨rfl,rfl,trivial⟩,rfl,rfl⟩ ?_;apply zac;(repeat(first|apply zae|apply zab|apply zac|apply zad));refine zai ?_;refine yh 6 hX zce rfl trivial ?_;refine AL.look2 Tryz.underlying204 Tryz.underlying9 rfl (key:=strV (zL st.1)) (z:=.nilFunc) (es:=zgY) (r:=(sufW (zL st.1)).map zeL) rfl rfl rfl rfl rfl (zpf rfl) Tryz.zeroValue206 (zqf _) ?_;refine yh 1 hX zce rfl trivial ?_;refine AL.ext0 rfl rfl rfl rfl rfl ?_;refine AL.ext1 rfl rfl rfl rfl rfl ?_;refine zV hX zce rfl trivial ?_;refine za (za ?_);refine zaa hX zce rfl ?_ ?_
 ·trivial
 cases hw:sufW (zL st.1) with
 |none=>
  rw[zgr hst hcls hw];refine zaf rfl (fun _=>?_) (fun hb=>?_)
  rotate_left
  ·have hb:(!((none:Option SufW).map zeL).isSome)=false:=hb;cases hb
  apply zad;refine zaq (σ':=⟨[(0,pSelf),(3,⟨i64,(((l.length+t2.size:Nat):Int) - 1)⟩),(4,⟨.mapL,zgY⟩)],pE ty s st (l++t2.flat l.length),2⟩) ⟨⟨rfl,rfl,rfl,trivial⟩,⟨rfl,rfl,trivial⟩,rfl,rfl⟩ ?_;(repeat(first|apply zae|apply zab|apply zal|apply zad|apply zac|refine zaa hX zce rfl trivial ?_|refine zaa hX zce rfl id ?_|refine zaa hX zce rfl ⟨id,id⟩ ?_));exact zq ⟨.inr rfl,⟨_,rfl,nd,1,_,rfl,rfl,rfl⟩,zax rfl trivial rfl rfl rfl⟩
 |some w=>
  rw[zgs hst hcls hw]at heq ⊢;refine zaf rfl (fun hb=>?_) (fun _=>?_)
  ·have hb:(!((some w:Option SufW).map zeL).isSome)=true:=hb;cases hb
  apply zab;refine zaq (σ':=⟨[(0,pSelf),(3,⟨i64,(((l.length+t2.size:Nat):Int) - 1)⟩),(4,⟨.mapL,zgY⟩),(5,⟨.lit,zeL w⟩)],pE ty s st (l++t2.flat l.length),2⟩) ⟨⟨rfl,rfl,rfl,rfl,trivial⟩,⟨rfl,rfl,trivial⟩,rfl,rfl⟩ ?_;(repeat(first|apply zae|apply zab|apply zac|apply zad));refine zai ?_;refine zaz 1 hX zce hch rfl trivial rfl rfl hst2 hI (e:=zbR s st) rfl (fun er h=>?_) (fun st3 h3=>?_)
  ·rw[zam h];exact rfl
  rw[zas h3];have hc3:=zbi hst (by rw[hcls];decide) h3;have hz3:=zdb h3;have hst3:pOk (s,st3.1,l++t2.flat l.length,st3.2,()):=⟨hc3.1,hsl⟩;have hfew3:few (s,st3.1,l++t2.flat l.length,st3.2,()):=by
   show (((l++t2.flat l.length).length:Nat):Int)≤st3.2;rw[hlen1];omega
  have hr1:=hon.rem hg;have hr2:=hc3.rem hst;have hm3:meas s .prim st3 < k:=by
   simp only[meas,mdF]at hme ⊢;omega
  refine yf ?_;refine zaq (σ':=⟨[(0,pSelf),(3,⟨i64,(((l.length+t2.size:Nat):Int) - 1)⟩),(4,⟨.mapL,zgY⟩),(5,⟨.lit,zeL w⟩)],pE ty s st3 (l++t2.flat l.length),2⟩) ⟨⟨rfl,rfl,rfl,rfl,trivial⟩,⟨rfl,rfl,trivial⟩,rfl,rfl⟩ ?_;obtain⟨f,hf,hfo⟩:=zsw k hP w;(repeat(first|apply zae|apply zab|apply zac|apply zad));refine zai ?_;refine yh 2 hX zce rfl trivial ?_;refine AL.ownVM hX hfo rfl rfl rfl (by show (⟨.lit,zeL w⟩:V)=_;rw[hf]) rfl rfl rfl rfl rfl rfl rfl rfl trivial ⟨hst3,hfew3,hm3⟩ hI (fun _=>rfl) (e:=zjk s st3 (l++t2.flat l.length).length w) rfl (fun er h=>?_) (fun r h4=>?_)
  ·rw[znV (l++t2.flat l.length).length w];rw[h];exact rfl
  rw[znV (l++t2.flat l.length).length w];rw[h4];obtain⟨n0,ex,tf,st4⟩:=r;obtain⟨hc4,hz4,hT⟩:=zra hc3.1 h4;obtain⟨hT1,hT2⟩:=hT t2;have hT2:=hT2 l.length hlen1;have hT1:(tf t2).size=t2.size+ex.length+1:=hT1;have hT2:(tf t2).flat l.length=t2.flat l.length++ex++ [setL n0 (((l.length+t2.size:Nat):Int) - 1)]:=hT2;have hc4:Onw s st3 st4:=hc4;have hz4:st4.2=st3.2+(ex.length:Int):=hz4;have hlen2:(l++t2.flat l.length++ex).length=l.length+t2.size+ex.length:=by rw[zf,hlen1]
  have hst4:pOk (s,st4.1,l++t2.flat l.length++ex,st4.2,()):=⟨hc4.1,hsl⟩;refine zV hX zce rfl trivial ?_;refine zaq (σ':=⟨[(0,pSelf),(3,⟨i64,(((l.length+t2.size:Nat):Int) - 1)⟩),(4,⟨.mapL,zgY⟩),(7,⟨.optr nd,⟨2,nd,.here⟩⟩)],[(0,some (pBox ty s st4)),(1,some (.buf 73 nd (l++t2.flat l.length++ex))),(2,some (.box nd n0))],3⟩) ⟨⟨rfl,rfl,rfl,rfl,trivial⟩,⟨rfl,rfl,rfl,trivial⟩,rfl,rfl⟩ ?_;refine za (za ?_);refine zaa hX zce rfl ?_ ?_
  ·trivial
  have hg4:=hc4.1.2.2;have hadd:(l++t2.flat l.length++ex).length≤100000:=by
   rw[hlen2];omega
  (repeat(first|apply zae|apply zab|apply zac|apply zad));refine zai ?_;refine ym 2 hX zce hch rfl trivial rfl rfl ⟨hst4,hadd⟩ hI ?_;refine zV hX zce rfl trivial ?_;refine⟨(tf t2,st4),⟨?_,?_,?_⟩,?_,⟨rfl,vI64 ?_,rfl,trivial⟩,⟨rfl,ztR ?_,trivial⟩,rfl,rfl⟩
  ·rw[h3];show (sufT t2 st3 w >>= _)=_;rw[znV (l++t2.flat l.length).length w,h4];rfl
  ·exact (hon.trans hc3).trans hc4
  ·show st4.2=b+((tf t2).size:Int);rw[hT1];omega
  ·have hr4:=hc4.rem hc3.1;show rem s st4 < rem s st;omega
  ·show (((l++t2.flat l.length++ex).length:Nat):Int)=((l.length+(tf t2).size:Nat):Int) - 1;rw[hlen2,hT1];omega
  ·show l++t2.flat l.length++ex++ [setL n0 (((l.length+t2.size:Nat):Int) - 1)]=l++(tf t2).flat l.length;rw[hT2, <-zs, <-zs]
section
variable {s:List UInt8}
theorem zm7 {st:GSt} (h:GOk s st) (ho:gIs st zfg=true):prsT s .prim st=(prsT s (.bin 0) (gAdv s st) >>= fun p=>za0 s p.2 zc3 >>= fun st=>.ok (p.1,st)):=by
 rw[zcy h,zbq,if_pos ho];rfl
theorem zm8 {st:GSt} (h:GOk s st) (ho:gIs st zfg=false) (hc:zK st.1=2):prsT s .prim st=(zaD st (decide ((zL st.1).length≤32)) 2 >>= fun _=>zbR s st >>= fun st'=>.ok (.leaf (18,0,0,0,0,0,[],zL st.1,()),st')):=by
 rw[zcy h,zbq,if_neg (by rw[ho];decide),if_pos hc];rfl
def leafT (s:List UInt8) (st:GSt):Option LeafW->GE (Tr×GSt)
 |none=>.error (Tok.at st.1,3)
 |some w=>zbR s st >>= fun st=>zdl s st w >>= fun p=>.ok (.leaf p.1,p.2)
theorem zm9 {st:GSt} (h:GOk s st) (ho:gIs st zfg=false) (hc:zK st.1≠2):prsT s .prim st=(zaD st (zK st.1==3 - 2) 3 >>= fun _=>leafT s st (zgD (zL st.1))):=by
 rw[zcy h,zbq,if_neg (by rw[ho];decide),if_neg hc];show (zaD st (zK st.1==1) 3 >>= _)=(zaD st (zK st.1==1) 3 >>= _);cases zgD (zL st.1)<;>rfl
end
theorem zq2 (w:LeafW):∃ f,zc7 w= .func (.func f) #[] #[]∧zaC Tryz.prog gmH f (zdo w):=by
 cases w with
 |days=>exact⟨_,rfl,zrf⟩
 |years=>exact⟨_,rfl,zpx⟩
 |months=>exact⟨_,rfl,zny⟩
 |monthdays=>exact⟨_,rfl,zjn⟩
 |weekdays=>exact⟨_,rfl,zkG⟩
 |weeks=>exact⟨_,rfl,zpy⟩
 |nth=>exact⟨_,rfl,zty⟩
theorem dNat (a b:Nat):decide (((a:Nat):Int)≤((b:Nat):Int))=decide (a≤b):=decide_eq_decide.2 Int.ofNat_le
def kPm:Kn:={ gmK with C:=[(200,zpP)] }
theorem zb3:KnOk Tryz.prog gmH kPm:=zak.with (.cons zo5 .nil)
def hPm (k:Nat):List (zP×HCtr):=[(80,cBin k),(134,cIs),(87,cAdv),(88,zgh),(81,zgB),(135,zkQ),(136,cAdd)]
theorem zna (k:Nat) (hB:zaC Tryz.prog gmH 80 (cBin k)):zaC Tryz.prog gmH 178 (zjs (k+1)):=by
 have hpm:HsOk Tryz.prog gmH (hPm k):=.cons hB <| .cons zq4 <| .cons zgj <| .cons zfJ <| .cons zeK <| .cons zjy <| .cons zpZ .nil;refine zau (K:=_) zb3 Tryz.func178 rfl rfl zbh Tryz.call178 rfl (zb rfl) zaX ?_;rintro w0 ⟨G,O,K,fix,D,ρ,B⟩ ty hX hG hK hρ hD hinv ⟨(s:List UInt8),(t:TokT),(l:List Nd),(b:Int),⟨⟩⟩ ⟨⟩ hp;obtain rfl:G=gmH:=hG;obtain rfl:K=1:=hK;obtain rfl:ρ=none:=hρ;obtain rfl:D=[]:=hD;have hI:=zaJ (ty:=ty) (ty':=ty) hX rfl hinv;obtain⟨hok,hfew,hme⟩:pOk (s,t,l,b,())∧few (s,t,l,b,())∧meas s .prim (t,b) < k+1:=hp;have hg:GOk s (t,b):=hok.1;have hsl:s.length≤100000:=hok.2;have hfew:((l.length:Nat):Int)≤b:=hfew;change AWP _ _ _ _ _ ⟨[(0,pSelf)],pE ty s (t,b) l,2⟩ (pQ _ (zjs (k+1)) ty (toX (trX s l) (prsT s .prim (t,b))));refine za (za ?_);refine zaa hX zb3 rfl ?_ ?_
 ·trivial
 (repeat(first|apply zae|apply zab|apply zac|apply zad));refine zai ?_;refine ym 1 hX zb3 hpm rfl trivial rfl rfl hok hI ?_;refine yf ?_;refine zaf rfl (fun hb=>?_) (fun hb=>?_)
 ·have hb:gIs (t,b) zfg=true:=hb;rw[zm7 hg hb];have hc1:=zci hg (zdB hb);have hst1:pOk (s,(gAdv s (t,b)).1,l,(gAdv s (t,b)).2,()):=⟨hc1.1,hsl⟩;have hr1:=hc1.rem hg;have hm1:meas s (.bin ((0:Int)).toNat) (gAdv s (t,b)) < k:=by
   show meas s (.bin 0) (gAdv s (t,b)) < k;simp only[meas,mdF]at hme ⊢;omega
  (repeat(first|apply zae|apply zab|apply zac|apply zad));refine zai ?_;refine ym 1 hX zb3 hpm rfl trivial rfl rfl hok hI ?_;refine yf ?_;(repeat(first|apply zae|apply zab|apply zac|apply zad));refine zai ?_;refine zaz 1 hX zb3 hpm rfl trivial rfl rfl ⟨hst1,(by decide:(0:Int)≤0),(by decide:(0:Int)≤3),hfew,hm1⟩ hI (f:=trX s l) (e:=prsT s (.bin 0) (gAdv s (t,b))) rfl (fun er h=>?_) (fun a h=>?_)
  ·rw[zam h];exact rfl
  rw[zas h];obtain⟨u,st2⟩:=a;have hc2:Onw s (gAdv s (t,b)) st2:=zdF hc1.1 h;have hst2:pOk (s,st2.1,l++u.flat l.length,st2.2,()):=⟨hc2.1,hsl⟩;refine zV hX zb3 rfl trivial ?_;refine zaq (σ':=⟨[(0,pSelf),(3,⟨i64,(((l.length+u.size:Nat):Int) - 1)⟩)],pE ty s st2 (l++u.flat l.length),2⟩) ⟨⟨rfl,rfl,trivial⟩,⟨rfl,rfl,trivial⟩,rfl,rfl⟩ ?_;(repeat(first|apply zae|apply zab|apply zac|apply zad));refine zai ?_;refine zaz 1 hX zb3 hpm rfl trivial rfl rfl hst2 hI (e:=za0 s st2 zc3) rfl (fun er h=>?_) (fun st3 h3=>?_)
  ·rw[zam h];exact rfl
  rw[zas h3];refine yf ?_;(repeat(first|apply zae|apply zab|apply zal|apply zad|apply zac|refine zaa hX zb3 rfl trivial ?_|refine zaa hX zb3 rfl id ?_|refine zaa hX zb3 rfl ⟨id,id⟩ ?_));exact zq ⟨.inr rfl,⟨_,rfl,nd,1,_,rfl,rfl,rfl⟩,zax rfl trivial rfl rfl rfl⟩
 have hb:gIs (t,b) zfg=false:=hb;apply zab;refine za (za ?_);refine zaa hX zb3 rfl ?_ ?_
 ·trivial
 refine za (za ?_);refine zaa hX zb3 rfl ?_ ?_
 ·trivial
 refine zaq (σ':=⟨[(0,pSelf),(4,⟨.optr tk,⟨2,tk,.here⟩⟩),(22,⟨.bool,zK t==2⟩)],[(0,some (pBox ty s (t,b))),(1,some (.buf 73 nd l)),(2,some (.box tk t))],3⟩) ⟨⟨rfl,rfl,zcu rfl,trivial⟩,⟨rfl,rfl,rfl,trivial⟩,rfl,rfl⟩ ?_;refine zaf rfl (fun hc=>?_) (fun hc=>?_)
 ·have hc:zK t=2:=beq_iff_eq.1 hc;rw[zm8 hg hb hc];have hls:(zL t).length≤100000:=by
   have:=hg.1.2.2.2.2.1;have this:(zL t).length≤s.length:=this;omega
  (repeat(first|apply zae|apply zab|apply zac|apply zad));refine zai ?_;refine zaz 5 hX zb3 hpm rfl trivial rfl rfl hok hI (e:=zaD (t,b) (decide ((zL t).length≤32)) 2) (congrArg (fun c=>toX (fun _=>((),(s,t,l,b,()))) (zaD (t,b) c 2)) (dNat (zL t).length 32)) (fun er h=>?_) (fun a h=>?_)
  ·rw[zam h];exact rfl
  rw[zas h];refine yf ?_;refine zaq (σ':=⟨[(0,pSelf),(4,⟨.optr tk,⟨2,tk,.here⟩⟩)],[(0,some (pBox ty s (t,b))),(1,some (.buf 73 nd l)),(2,some (.box tk t))],3⟩) ⟨⟨rfl,rfl,trivial⟩,⟨rfl,rfl,rfl,trivial⟩,rfl,rfl⟩ ?_;(repeat(first|apply zae|apply zab|apply zac|apply zad));refine zai ?_;refine zaz 1 hX zb3 hpm rfl trivial rfl rfl hok hI (e:=zbR s (t,b)) rfl (fun er h=>?_) (fun st1 h1=>?_)
  ·rw[zam h];exact rfl
  rw[zas h1];have hc1:=zbi hg (by show zK t≠0;rw[hc];decide) h1;have hg1:=hc1.1.2.2;have hz1:=zdb h1;have hz1:st1.2=b+1:=hz1;have hst1:pOk (s,st1.1,l,st1.2,()):=⟨hc1.1,hsl⟩;have hadd:l.length≤100000:=by omega
  refine yf ?_;refine zaq (σ':=⟨[(0,pSelf),(4,⟨.optr tk,⟨2,tk,.here⟩⟩)],[(0,some (pBox ty s st1)),(1,some (.buf 73 nd l)),(2,some (.box tk t))],3⟩) ⟨⟨rfl,rfl,trivial⟩,⟨rfl,rfl,rfl,trivial⟩,rfl,rfl⟩ ?_;(repeat(first|apply zae|apply zab|apply zac|apply zad));refine zai ?_;refine ym 4 hX zb3 hpm rfl trivial rfl rfl ⟨hst1,hadd⟩ hI ?_;refine zV hX zb3 rfl trivial ?_;refine zq ⟨.inr rfl,⟨_,rfl,nd,1,_,rfl,rfl,rfl⟩,zax rfl trivial rfl rfl ?_⟩;show ((l.length:Nat):Int)=((l.length+1:Nat):Int) - 1;omega
 ·have hc:zK t≠2:=fun h=>by
   have h2:(zK t==2)=true:=beq_iff_eq.2 h;have hc:(zK t==2)=false:=hc;rw[h2]at hc;cases hc
  rw[zm9 hg hb hc];apply zab;refine zaq (σ':=⟨[(0,pSelf)],pE ty s (t,b) l,2⟩) ⟨⟨rfl,trivial⟩,⟨rfl,rfl,trivial⟩,rfl,rfl⟩ ?_;(repeat(first|apply zae|apply zab|apply zac|apply zad));refine zai ?_;refine zaz 7 hX zb3 hpm rfl trivial rfl rfl hok hI (e:=zaD (t,b) (zK t==1) 3) rfl (fun er h=>?_) (fun a h=>?_)
  ·rw[zam (by exact h)];exact rfl
  rw[zas (by exact h)];have hcls:zK t=1:=beq_iff_eq.1 (zbI h);refine yf ?_;refine AWP.via (σ':=⟨[(0,pSelf),(5,⟨.lit,((zgD (zL t)).map zc7).getD .nilFunc⟩),(6,⟨.bool,((zgD (zL t)).map zc7).isSome⟩)],pE ty s (t,b) l,2⟩) ?_ ?_
  ·refine AWP.ordersA dM 12 rfl (by kernel_rfl) ?_
   repeat'(first
    |exact AllN.nil
    |refine AllN.cons ⟨_,rfl,?_⟩ ?_
    |refine StepA.eval hX zb3 rfl trivial ?_
    |refine vh rfl (zoU Tryz.underlying204 Tryz.underlying9 rfl (key:=strV (zL t)) (z:=.nilFunc) (es:=zko) (r:=(zgD (zL t)).map zc7) rfl rfl rfl rfl (zpf rfl) Tryz.zeroValue206 (zo8 _) ?_)
    |refine vh rfl (zpC rfl rfl rfl rfl ?_)
    |refine vh rfl (zpB rfl rfl rfl rfl ?_)
    |(refine OrdA.last ?_;exact⟨⟨rfl,rfl,rfl,trivial⟩,⟨rfl,rfl,trivial⟩,rfl,rfl⟩))
  (repeat(first|apply zae|apply zab|apply zac|apply zad));refine zai ?_;refine zaz 2 hX zb3 hpm rfl trivial rfl rfl hok hI (e:=zaD (t,b) ((zgD (zL t)).map zc7).isSome 3) rfl (fun er h=>?_) (fun a h2=>?_)
  ·cases hw:zgD (zL t) with
   |some w=>rw[hw]at h;cases h
   |none=>
    rw[hw]at h;cases h;exact rfl
  cases hw:zgD (zL t) with
  |none=>rw[hw]at h2;cases h2
  |some w=>
   refine yf ?_;refine zaq (σ':=⟨[(0,pSelf),(5,⟨.lit,zc7 w⟩)],pE ty s (t,b) l,2⟩) ⟨⟨rfl,rfl,trivial⟩,⟨rfl,rfl,trivial⟩,rfl,rfl⟩ ?_;change AWP _ _ _ _ _ _ (pQ _ (zjs (k+1)) ty (toX (trX s l) (zbR s (t,b) >>= fun st=>zdl s st w >>= fun p=>.ok (.leaf p.1,p.2))));(repeat(first|apply zae|apply zab|apply zac|apply zad));refine zai ?_;refine zaz 1 hX zb3 hpm rfl trivial rfl rfl hok hI (e:=zbR s (t,b)) rfl (fun er h=>?_) (fun st1 h1=>?_)
   ·rw[zam h];exact rfl
   rw[zas h1];have hc1:=zbi hg (by show zK t≠0;rw[hcls];decide) h1;have hg1:=hc1.1.2.2;have hz1:=zdb h1;have hz1:st1.2=b+1:=hz1;have hst1:pOk (s,st1.1,l,st1.2,()):=⟨hc1.1,hsl⟩;have hadd:l.length≤100000:=by omega
   refine yf ?_;refine zaq (σ':=⟨[(0,pSelf),(5,⟨.lit,zc7 w⟩)],pE ty s st1 l,2⟩) ⟨⟨rfl,rfl,trivial⟩,⟨rfl,rfl,trivial⟩,rfl,rfl⟩ ?_;obtain⟨f,hf,hfo⟩:=zq2 w;(repeat(first|apply zae|apply zab|apply zac|apply zad));refine zai ?_;refine yh 3 hX zb3 rfl trivial ?_;refine AL.ownVM hX hfo rfl rfl rfl (by show (⟨.lit,zc7 w⟩:V)=_;rw[hf]) rfl rfl rfl rfl rfl rfl rfl rfl trivial hst1 hI (fun _=>rfl) (e:=zdl s st1 w) rfl (fun er h=>?_) (fun r h4=>?_)
   ·rw[zam h];exact rfl
   rw[zas h4];obtain⟨n0,st2⟩:=r;have hc2:Onw s st1 st2:=zmu hc1.1 w h4;have hst2:pOk (s,st2.1,l,st2.2,()):=⟨hc2.1,hsl⟩;refine ym 0 hX zb3 hpm rfl trivial rfl rfl ⟨hst2,hadd⟩ hI ?_;refine zV hX zb3 rfl trivial ?_;refine zq ⟨.inr rfl,⟨_,rfl,nd,1,_,rfl,rfl,rfl⟩,zax rfl trivial rfl rfl ?_⟩;show ((l.length:Nat):Int)=((l.length+1:Nat):Int) - 1;omega
def Rec3 (k:Nat):Prop:=zaC Tryz.prog gmH 80 (cBin k)∧zaC Tryz.prog gmH 133 (zkP k)∧zaC Tryz.prog gmH 178 (zjs k)
theorem zem {P:zy} {G:zj->Prop} {f:zP} {c:HCtr} (hl:c.law) (hen:∀ (vs:Array zh) (w:zj),(callFunc f vs).run P w= .ok (.enter f vs) w) (h:∀ x xs,¬ allP (c.pre x xs)):zaC P G f c:=
 ⟨hen,hl,fun _ _ _ _ _ x xs _ _ _ _ _ _ _ _ hp=>(h x xs hp).elim⟩
theorem zlY:∀ k,Rec3 k
 |0=>by
  refine⟨zem zbh Tryz.call80 fun x xs h=>?_,zem zbh Tryz.call133 fun x xs h=>?_,zem zbh Tryz.call178 fun x xs h=>?_⟩
  ·exact absurd h.2.2.2.2 (xr _)
  ·exact absurd h.2.2 (xr _)
  ·exact absurd h.2.2 (xr _)
 |k+1=>by
  obtain⟨h1,h2,h3⟩:=zlY k;exact⟨zpV k h1 h2,zro k h3,zna k h1⟩
@[reducible] def nBox (s:List UInt8) (t:TokT) (b:Int):OObj:=.hbox 139 [⟨.str,s⟩,⟨i64,t.1⟩,⟨i64,t.2.1⟩,⟨i64,t.2.2.1⟩,⟨.str,t.2.2.2.1⟩,⟨i64,t.2.2.2.2.1⟩,⟨.lit,.slice none 0 0⟩,⟨i64,b⟩]
@[reducible] def cNewP:FCtr:={ args:=[.str],pre:=fun xs=>[zg xs.1≤100000],obj:=fun xs=>nBox xs.1 (zaR xs.1) 0 }
def zj9 (s:List UInt8):zh:=.agg #[.string ⟨s.toArray⟩,.int .i64 0,.int .i64 0,.int .i64 0,.string ⟨#[]⟩,.int .i64 0,.slice none 0 0,.int .i64 0]
theorem zqD (s:List UInt8):Tryz.prog.built 139 [(0,.string ⟨s.toArray⟩)]=some #[.string ⟨s.toArray⟩,.int .i64 0,.int .i64 0,.int .i64 0,.string ⟨#[]⟩,.int .i64 0,.slice none 0 0,.int .i64 0]:=by kernel_rfl
section
variable {w0:zj} {X:Ownr} {n:Nat} {Q:Exit->AS->Prop} {ops:Array Oper}
theorem AL.newPs (hX:X.Ok w0) {o1 o2:Oper} {rest:List Oper} {d1 d2:Nat} {x:zG} (ho1:o1.op= .build 139 #[(0,x)]) (ho2:o2.op= .box 139 (.tmp d1)) (hg1:o1.guard=none) (hg2:o2.guard=none) (hd1:o1.dst=some d1) (hd2:o2.dst=some d2) (hn1:zU d1 n=true) (hn2:zU d2 n=true) {F:yv} {E:Owns} {nx:Nat} {s:List UInt8} (hx:evO F x=⟨.str,s⟩)
  (h:AL Tryz.prog w0 X n ops rest ⟨(d2,⟨.hptr,(nx,(0:Nat))⟩)::(d1,⟨.lit,zj9 s⟩)::F,(nx,some (nBox s zTk 0))::E,nx+1⟩ Q):AL Tryz.prog w0 X n ops (o1::o2::rest) ⟨F,E,nx⟩ Q:=by
 refine qE hg1 (fun c e=>by rw[ho1]at e;cases e) fun β a w hs=>?_;have hl1:d1 < n:=by simpa using hn1
 have hl2:d2 < n:=by simpa using hn2
 have hsx:=hs.ops x;rw[show evO (AS.mk F E nx).F x=_ from hx]at hsx;obtain⟨hsx,hle⟩:=hsx;have hsx:a.eval x= .string ⟨s.toArray⟩:=vR.1 hsx;refine zbx (u:=zj9 s) (w':=w) ?_ ?_
 ·unfold execOp;simp only[ho1];refine zee ?_;rw[show (#[(0,x)]:Array (Nat×zG)).map (fun p=>(p.1,a.eval p.2))= #[(0,jc ⟨s.toArray⟩)] from by simp[hsx]];exact run_build w _ _ _ (zqD s)
 rw[hd1];refine⟨_,β,hs.put (zO _ _) (v:=⟨.lit,zj9 s⟩) rfl (zm _) hl1,?_⟩;refine qE hg2 (fun c e=>by rw[ho2]at e;cases e) fun β a w hs=>?_;have hv:a.eval (.tmp d1)=zj9 s:=by
  have h1:=hs.ops (.tmp d1);have e:evO ((d1,⟨.lit,zj9 s⟩)::F) (.tmp d1)=⟨.lit,zj9 s⟩:=by
   show zn ((d1,_)::F) d1=_;rw[zap,if_pos rfl]
  rw[show evO (AS.mk ((d1,⟨.lit,zj9 s⟩)::F) E nx).F (.tmp d1)=_ from e]at h1;exact h1
 refine zbx (u:=.pointer (some ⟨w.heap.size,0,none⟩)) (w':=w.alloc (.cells #[.string ⟨s.toArray⟩,.int .i64 0,.int .i64 0,.int .i64 0,.string ⟨#[]⟩,.int .i64 0,.slice none 0 0,.int .i64 0] 139 (0,0))) ?_ ?_
 ·unfold execOp;simp only[ho2];refine zee ?_;rw[hv];simp[Instr.box,newVar,newRow,Value.cells,go_sem,zj9]
 ·rw[hd2];obtain⟨β',h4⟩:=hs.make hX ((zO _ w).alloc (zk _) (.cells #[.string ⟨s.toArray⟩,.int .i64 0,.int .i64 0,.int .i64 0,.string ⟨#[]⟩,.int .i64 0,.slice none 0 0,.int .i64 0] 139 (0,0))) (bv:=.pointer (some ⟨w.heap.size,0,none⟩)) (o:=nBox s zTk 0)
   (fun O β' hO=>⟨w.heap.size,[_,_,_,_,_,_,_,_],rfl,zm _,xn w _,_,_,rfl,rfl,⟨rfl,hle⟩,_,_,rfl,rfl,rfl,_,_,rfl,rfl,rfl,_,_,rfl,rfl,rfl,_,_,rfl,rfl,⟨rfl,zm _⟩,_,_,rfl,rfl,rfl,_,_,rfl,rfl,rfl,_,_,rfl,rfl,rfl,rfl⟩)
   (fun g hg=>by cases hg;exact zk _) (v:=⟨.hptr,(nx,(0:Nat))⟩) (u:=.pointer (some ⟨w.heap.size,0,none⟩))
   (fun O β' hb=>⟨w.heap.size,by show zah (β' nx)=_;rw[show β' nx=_ from hb];rfl,rfl⟩) (zk _) hl2 (fun vs e v hv=>by
     cases e;have:((nBox s zTk 0).bare)=true:=rfl;exact OObj.bare_under this _ _ rfl _ hv)
  exact⟨_,β',h4,h⟩
end
theorem zei:zmM Tryz.prog gmH 45 cNewP:=by
 refine zlu zcU Tryz.func45 rfl rfl Tryz.call45 rfl (zb rfl) (fun xs=>⟨rfl,rfl⟩) ?_;rintro w0 O hX ⟨(s:List UInt8),⟨⟩⟩ hp;have hlen:s.length≤100000:=hp;change AWP _ _ _ _ _ ⟨[(0,⟨.str,s⟩)],[],0⟩ _;refine za (za ?_);refine zaa hX zcU rfl ?_ ?_
 ·trivial
 (repeat(first|apply zae|apply zab|apply zac|apply zad));refine zai ?_;refine yh 1 hX zcU rfl trivial ?_;refine AL.newPs hX rfl rfl rfl rfl rfl rfl rfl rfl rfl ?_;refine zV hX zcU rfl trivial ?_;refine za (za ?_);refine zaa hX zcU rfl ?_ ?_
 ·exact hlen
 (repeat(first|apply zae|apply zab|apply zal|apply zad|apply zac|refine zaa hX zcU rfl trivial ?_|refine zaa hX zcU rfl id ?_|refine zaa hX zcU rfl ⟨id,id⟩ ?_));exact zq ⟨.inr rfl,_,_,rfl,rfl,rfl⟩
def lQ (rs:List qh) (t:Ty) (r:Except zh t.T) (e:Exit) (σ:AS):Prop:=LDone gmT rs t e σ r
def zep (s:List UInt8) (st:GSt) (l:List Nd):Except zh (List Nd):=toX (fun r=>l++r.1.flat l.length) (zeO s st)
@[reducible] def cRule:HCtr:=hP [] (.slice nd) (fun x _=>[few x]) fun x _=>.ok ([],x)
def hRu (k:Nat):List (zP×HCtr):=[(80,cBin k),(81,zgB)]
theorem zok:zfS Tryz.prog gmH 46 cRule (fun x _=>zep x.1 (stOf x) x.2.2.1):=by
 refine zhr (K:=gmK) zak Tryz.func46 rfl rfl zbh Tryz.call46 rfl (zb rfl) zaX ?_;rintro w0 ⟨G,O,K,fix,D,ρ,B⟩ ty hX hG hK hρ hD hinv x ⟨⟩ hp;obtain rfl:G=gmH:=hG;obtain rfl:K=1:=hK;obtain rfl:ρ=none:=hρ;obtain rfl:D=[]:=hD;have hI:=zaJ (ty:=ty) hX rfl hinv (ty':=ty);obtain⟨s,t,l,b,⟨⟩⟩:=x;obtain⟨hok,hfew⟩:pOk (s,t,l,b,())∧few (s,t,l,b,()):=hp;have hg:GOk s (t,b):=hok.1;have hsl:s.length≤100000:=hok.2;have hru:HsOk Tryz.prog gmH (hRu (meas s (.bin 0) (t,b)+1)):=.cons (zlY _).1 <| .cons zeK .nil;change AWP _ _ _ _ _ ⟨[(0,pSelf)],pE ty s (t,b) l,2⟩ (lQ _ (.slice nd) (zep s (t,b) l));unfold zep;obtain⟨R,hR⟩:∃ R,R=zeO s (t,b):=⟨_,rfl⟩;rw[<-hR];unfold zeO at hR;refine za (za ?_);refine zaa hX zak rfl ?_ ?_
 ·trivial
 (repeat(first|apply zae|apply zab|apply zac|apply zad));refine zai ?_;refine zaz 1 hX zak hru rfl trivial rfl rfl ⟨hok,(by decide:(0:Int)≤0),(by decide:(0:Int)≤3),hfew,yR _⟩ hI (f:=trX s l) (e:=prsT s (.bin 0) (t,b)) rfl (fun er h=>?_) (fun a h=>?_)
 ·rw[hR,zam h];exact rfl
 rw[h]at hR;obtain⟨u,st⟩:=a;have hc:Onw s (t,b) st:=zdF hg h;have hst:pOk (s,st.1,l++u.flat l.length,st.2,()):=⟨hc.1,hsl⟩;refine zV hX zak rfl trivial ?_;refine zaq (σ':=⟨[(0,pSelf)],pE ty s st (l++u.flat l.length),2⟩) ⟨⟨rfl,trivial⟩,⟨rfl,rfl,trivial⟩,rfl,rfl⟩ ?_;(repeat(first|apply zae|apply zab|apply zac|apply zad));refine zai ?_;refine zaz 7 hX zak hru rfl trivial rfl rfl hst hI (e:=zaD st (zK st.1==0) 3) rfl (fun er h=>?_) (fun a h=>?_)
 ·rw[show R= .error er by rw[hR];show (zaD st _ 3 >>= _)=_;rw[h];rfl];exact rfl
 rw[show R= .ok (u,st) by rw[hR];show (zaD st _ 3 >>= _)=_;rw[h];rfl];refine yf ?_;(repeat(first|apply zae|apply zab|apply zal|apply zad|apply zac|refine zaa hX zak rfl trivial ?_|refine zaa hX zak rfl id ?_|refine zaa hX zak rfl ⟨id,id⟩ ?_));refine AWP.frz hX 2 ?_;exact zq ⟨.inr rfl,zax rfl trivial rfl rfl rfl⟩
def gDef (s:List UInt8) (st:GSt) (n:Int):Except (Int×Int) (List UInt8×Tr):=do
 zaD st (zK st.1==1) 3
 zaD st (decide ((zL st.1).length≤32)&&decide (n < 4096)) 2
 let st'<-za0 s (gAdv s st) wEq
 let p<-zeO s st'
 return (zL st.1,p.1)
def zlr (s:List UInt8) (st:GSt) (l:List Nd) (n:Int):Except zh (List UInt8×List Nd×Unit):=toX (fun r=>(r.1,l++r.2.flat l.length,())) (gDef s st n)
@[reducible] def cDef:HCtr:=hP [i64] de (fun x _=>[few x]) fun x _=>.ok (([],[],()),x)
def hDf:List (zP×HCtr):=[(81,zgB),(87,cAdv),(88,zgh)]
theorem zmo:HsOk Tryz.prog gmH hDf:=.cons zeK <| .cons zgj <| .cons zfJ .nil
theorem zfM:zfS Tryz.prog gmH 55 cDef (fun x xs=>zlr x.1 (stOf x) x.2.2.1 xs.1):=by
 refine zhr (K:=gmK) zak Tryz.func55 rfl rfl zbh Tryz.call55 rfl (zb rfl) zaX ?_;rintro w0 ⟨G,O,K,fix,D,ρ,B⟩ ty hX hG hK hρ hD hinv x ⟨(k:Int),⟨⟩⟩ hp;obtain rfl:G=gmH:=hG;obtain rfl:K=1:=hK;obtain rfl:ρ=none:=hρ;obtain rfl:D=[]:=hD;have hI:=zaJ (ty:=ty) hX rfl hinv (ty':=ty);obtain⟨s,t,l,b,⟨⟩⟩:=x;obtain⟨hok,hfew⟩:pOk (s,t,l,b,())∧few (s,t,l,b,()):=hp;have hg:GOk s (t,b):=hok.1;have hsl:s.length≤100000:=hok.2;change AWP _ _ _ _ _ ⟨[(0,pSelf),(1,⟨i64,k⟩)],pE ty s (t,b) l,2⟩ (lQ _ de (zlr s (t,b) l k));unfold zlr;obtain⟨R,hR⟩:∃ R,R=gDef s (t,b) k:=⟨_,rfl⟩;rw[<-hR];unfold gDef at hR;have hls:(zL t).length≤100000:=by
  have:=hg.1.2.2.2.2.1;have this:(zL t).length≤s.length:=this;omega
 refine za (za ?_);refine zaa hX zak rfl ?_ ?_
 ·trivial
 (repeat(first|apply zae|apply zab|apply zac|apply zad));refine zai ?_;refine zaz 7 hX zak zmo rfl trivial rfl rfl hok hI (e:=zaD (t,b) (zK t==1) 3) rfl (fun er h=>?_) (fun a h=>?_)
 ·rw[hR,zam (by exact h)];exact rfl
 have hcls:zK t=1:=beq_iff_eq.1 (zbI h);rw[show (zaD (t,b) (zK (t,b).1==1) 3)= .ok a from h]at hR;have hR:R=(zaD (t,b) (decide ((zL t).length≤32)&&decide (k < 4096)) 2 >>= fun _=>za0 s (gAdv s (t,b)) wEq >>= fun st'=>zeO s st' >>= fun p=>.ok (zL t,p.1)):=hR;refine yf ?_;refine zaq (σ':=⟨[(0,pSelf),(1,⟨i64,k⟩),(4,⟨.optr de,⟨2,de,.here⟩⟩)],[(0,some (pBox ty s (t,b))),(1,some (.buf 73 nd l)),(2,some (.box de ([],[],())))],3⟩) ⟨⟨rfl,rfl,rfl,trivial⟩,⟨rfl,rfl,rfl,trivial⟩,rfl,rfl⟩ ?_;(repeat(first|apply zae|apply zab|apply zac|apply zad));refine zai ?_;refine zaz 12 hX zak zmo rfl ?_ rfl rfl hok hI (e:=zaD (t,b) (bif decide (((zL t).length:Int)≤((32:Nat):Int)) then decide (k < 4096) else false) 2) rfl (fun er h=>?_) (fun a h=>?_)
 ·repeat'(first|exact trivial|assumption|(refine⟨?_,?_⟩)|(intro _)|exact zb rfl|exact zi _|(simp_all [allP];done))
 ·rw[zco,dNat]at h;rw[hR,zam h];exact rfl
 rw[zco,dNat]at h;rw[h]at hR;have hR:R=(za0 s (gAdv s (t,b)) wEq >>= fun st'=>zeO s st' >>= fun p=>.ok (zL t,p.1)):=hR;refine yf ?_;refine zaq (σ':=⟨[(0,pSelf),(4,⟨.optr de,⟨2,de,.here⟩⟩)],[(0,some (pBox ty s (t,b))),(1,some (.buf 73 nd l)),(2,some (.box de ([],[],())))],3⟩) ⟨⟨rfl,rfl,trivial⟩,⟨rfl,rfl,rfl,trivial⟩,rfl,rfl⟩ ?_;have hc1:=zci hg (by show zK t≠0;rw[hcls];decide);obtain⟨st1,hst1⟩:∃ st1,st1=gAdv s (t,b):=⟨_,rfl⟩;have hz1:st1.2=b:=by rw[hst1];rfl
 (repeat(first|apply zae|apply zab|apply zac|apply zad));refine zai ?_;refine ym 1 hX zak zmo rfl trivial rfl rfl hok hI ?_;rw[<-hst1]at hR hc1;refine qC (σ':=⟨[(0,pSelf),(4,⟨.optr de,⟨2,de,.here⟩⟩),(28,⟨tk,t⟩)],[(0,some (pBox ty s st1)),(1,some (.buf 73 nd l)),(2,some (.box de ([],[],())))],3⟩) ⟨⟨rfl,rfl,rfl,trivial⟩,⟨by rw[hst1];rfl,rfl,rfl,trivial⟩,rfl,rfl⟩ ?_;refine zV hX zak rfl trivial ?_;refine zaq (σ':=⟨[(0,pSelf),(4,⟨.optr de,⟨2,de,.here⟩⟩),(5,⟨.optr de,⟨3,de,.here⟩⟩)],[(0,some (pBox ty s st1)),(1,some (.buf 73 nd l)),(2,some (.box de ([],[],()))),(3,some (.box de (zL t,[],())))],4⟩) ⟨⟨rfl,rfl,rfl,trivial⟩,⟨rfl,rfl,rfl,rfl,trivial⟩,rfl,rfl⟩ ?_;have hok1:pOk (s,st1.1,l,st1.2,()):=⟨hc1.1,hsl⟩;(repeat(first|apply zae|apply zab|apply zac|apply zad));refine zai ?_;refine zaz 1 hX zak zmo rfl trivial rfl rfl hok1 hI (e:=za0 s st1 wEq) rfl (fun er h=>?_) (fun st2 h2=>?_)
 ·rw[hR,zam (by exact h)];exact rfl
 rw[h2]at hR;have hR:R=(zeO s st2 >>= fun p=>.ok (zL t,p.1)):=hR;have hc2:=zbs hc1.1 h2;have hz2:=zdL h2;have hok2:pOk (s,st2.1,l,st2.2,()):=⟨hc2.1,hsl⟩;have hfew2:few (s,st2.1,l,st2.2,()):=by
  show ((l.length:Nat):Int)≤st2.2;rw[hz2,hz1];exact hfew
 refine yf ?_;refine zaq (σ':=⟨[(0,pSelf),(4,⟨.optr de,⟨2,de,.here⟩⟩),(5,⟨.optr de,⟨3,de,.here⟩⟩)],[(0,some (pBox ty s st2)),(1,some (.buf 73 nd l)),(2,some (.box de ([],[],()))),(3,some (.box de (zL t,[],())))],4⟩) ⟨⟨rfl,rfl,rfl,trivial⟩,⟨rfl,rfl,rfl,rfl,trivial⟩,rfl,rfl⟩ ?_;(repeat(first|apply zae|apply zab|apply zac|apply zad));refine zai ?_;refine yh 1 hX zak rfl trivial ?_;refine AL.give hX zok rfl rfl rfl rfl rfl rfl rfl rfl rfl rfl rfl rfl trivial ⟨hok2,hfew2⟩ hI rfl rfl ?_;cases h3:zeO s st2 with
 |error er=>
  rw[h3]at hR;rw[show zep s (stOf (s,st2.1,l,st2.2,())) l= .error (pvS er) by unfold zep;rw[show stOf (s,st2.1,l,st2.2,())=st2 from rfl,h3];rfl];rw[show R= .error er from hR];exact rfl
 |ok p=>
  rw[h3]at hR;rw[show zep s (stOf (s,st2.1,l,st2.2,())) l= .ok (l++p.1.flat l.length) by unfold zep;rw[show stOf (s,st2.1,l,st2.2,())=st2 from rfl,h3];rfl];rw[show R= .ok (zL t,p.1) from hR];show AL _ _ _ _ _ _ _ _;refine zV hX zak rfl trivial ?_;(repeat(first|apply zae|apply zab|apply zal|apply zad|apply zac|refine zaa hX zak rfl trivial ?_|refine zaa hX zak rfl id ?_|refine zaa hX zak rfl ⟨id,id⟩ ?_));exact zq ⟨.inr rfl,zax rfl trivial rfl rfl rfl⟩
def zp3 (c:HCtr) (ty:zp) (e:Exit) (σ:AS):Except zh (c.res.T×c.self.T)->Prop
 | .ok (_,x')=>(e= .normal∨e= .ret)∧∃ vs,zl σ.E 0=some (.hbox ty vs)∧unH c 0 vs σ.E x'
 | .error pv=>e= .panic [{ v:=pv,recovered:=false }]
section
variable {P:zy} {K:Kn} {n:Nat}
theorem zgx {G:zj->Prop} (hK:KnOk P G K) {f:zP} {fn:Func} {c:Code} {ctr:HCtr} (hf:P.funcs[f]? =some fn) (hb:fn.body=some c) (hn:fn.ntmps=n) (hlaw:ctr.law)
  (hen:∀ (us:Array zh) (w:zj),(callFunc f us).run P w= .ok (.enter f us) w) (hunit:ctr.res= .unit) (hrs:∀ tmps w,∃ v,(results fn tmps).run P w= .ok v w) (hd:za6 ctr.args=true) (hlen:ctr.args.length+1≤n) (hst:∀ w w' R ty,ctr.inv w R ty->G w->Kept R w w'->G w')
  (h:∀ (w0:zj) (X:Ownr) (ty:zp),X.Ok w0->X.G=G->X.K=1->X.ρ=none->X.D=[]->ctr.inv w0 X.R ty->∀ (x:ctr.self.T) (xs:Args ctr.args),allP (ctr.pre x xs)->
    AWP P w0 X n c (zku ctr ty x xs) (fun e σ=>zp3 ctr ty e σ (ctr.out x xs))):zaC P G f ctr:=by
 refine⟨hen,hlaw,fun w O g cs ty x xs vs b hO hgb hg hx hbuf hrep hp hinv hG=>calls_of_wp hf hb ?_⟩;obtain⟨X,hXd,hX,hXR,hsim⟩:=ztf (ctr:=ctr) (G:=G) hn hlaw hd hlen hst hO hgb hg hx hbuf hrep hinv hG;have hXX:X.X=O:=by rw[hXd]
 have hXG:X.G=G:=by rw[hXd]
 have hinv':ctr.inv w X.R ty:=by
  rw[show X.R=fun h=>h=g∨zah b=some h from funext fun h=>propext (hXR h)];exact hinv
 have hw:=h w X ty hX hXG (by rw[hXd]) (by rw[hXd]) (by rw[hXd]) hinv' x xs hp _ _ _ hsim;rw[show X.ρ=none by rw[hXd]]at hw;refine wp_mono (wpIn_wide.1 hw) fun e a' w' ⟨σ',β',h1,h2⟩=>?_;have hbk:Kept (fun h=>h=g∨zah b=some h) w w':=⟨h1.bel.os,h1.bel.tape,h1.bel.output,h1.bel.size,fun k hk hr=>h1.bel.block k hk fun hr'=>hr ((hXR k).1 hr')⟩;have hdf:a'.defers=[]:=by rw[h1.df,hXd]
 revert h2;cases ho:ctr.out x xs with
 |error pv=>
  rintro rfl;exact⟨hdf,hbk,rfl⟩
 |ok p=>
  obtain⟨y,x'⟩:=p;rintro ⟨h2,ws,h6,h7⟩;obtain⟨et',j,k1,k2,_,_⟩:=zfj hlaw h7;obtain⟨g',cs',hb1,_,hb3,hb4⟩:=h1.own 0 _ h6;have hb5:=(h1.fix.2 0 (by rw[hXd];exact yR 0)).1;rw[hb1]at hb5;have hgg:g'=g:=by
   have h:some g'=some (X.fix 0):=hb5;rw[hXd]at h;exact ya h
  subst hgg;have hj:=h1.own j _ k2;have hne:(0:Nat)≠j:=fun e=>by rw[<-e,h6]at k2;cases k2
  have hsub:∀ k,zbM O g' (β' j) k->OSet X σ'.E β' k:=fun k hk=>by
   rcases hk with (hk|hk)|hk
   ·exact .inl (by rw[hXX];exact hk)
   ·exact .inr ⟨0,_,h6,by rw[hb1,hk];rfl⟩
   ·exact .inr ⟨j,_,k2,hk⟩
  have hkp:xk w' w' (OSet X σ'.E β') (zbM O g' (β' j)):=⟨zk _,fun _ _ _=>rfl,fun k _ hk=>hsub k hk⟩;have hlvr:RepH w' (zbM O g' (β' j)) (zc1 g' (β' j)) (ctr.lv 0 1 x') cs':=RepH.toLv hlaw hkp h7 hb4 (fun j' et'' hj'=>by
   rw[k1]at hj';cases hj';rfl) (by rw[hb1];rfl)
  have hbr:yc w' (zbM O g' (β' j)) (zc1 g' (β' j)) 0 (β' j) (.buf ctr.te ctr.et (ctr.sl x')):=hj.keep hkp fun _ _=>rfl;have hnew:∀ h,zah (β' j)=some h->zah b=some h∨w.heap.size≤h:=fun h hh=>by
   rcases h1.new j _ h k2 hh with h8|h8
   ·exact .inr h8
   ·rcases (hXR h).1 h8 with rfl|h8
    ·exact absurd hh (h1.inj 0 j _ _ h6 k2 hne h (by rw[hb1];rfl))
    ·exact .inl h8
  have hng:zah (β' j)≠some g':=h1.inj 0 j _ _ h6 k2 hne g' (by rw[hb1];rfl);obtain⟨v,h4⟩:=hrs a'.tmps w';rcases h2 with rfl|rfl
  ·exact⟨hdf,v,h4,hbk,v,cs',_,rfl,hb3,hlvr,hbr,hng,hnew,.inl hunit⟩
  ·exact⟨hdf,v,h4,hbk,v,cs',_,rfl,hb3,hlvr,hbr,hng,hnew,.inl hunit⟩
end
abbrev prT:Ty:=.pair (.slice nd) .unit
@[reducible] def bTy (T:Ty):Ty:=.pair .bool (.pair bs T)
def bInv (T:Ty) (tys:List zp) (w:zj) (R:Nat->Prop) (ty:zp):Prop:=ginv w R ty∧ty∈tys
theorem zdC (T:Ty) (tys:List zp):∀ w w' R (ty:zp),bInv T tys w R ty->gmH w->Kept R w w'->gmH w':=fun _ _ _ ty h hg hk=>zaX _ _ _ ty h.1 hg hk
@[reducible] def hBl (T:Ty) (tys:List zp) (args:List Ty) (res:Ty) (pre:(bTy T).T->Args args->List Prop) (out:(bTy T).T->Args args->Except zh (res.T×(bTy T).T)):HCtr:=
 { self:=bTy T,k:=1,ad:=some 0,on:=fun x=>x.1,te:=5,et:=u8,sl:=fun x=>x.2.1,args:=args,inv:=bInv T tys,pre:=pre,res:=res,out:=out }
theorem zcm {T:Ty} (hT:T.leafD=true) {tys:List zp} {args:List Ty} {res:Ty} {pre:(bTy T).T->Args args->List Prop} {out:(bTy T).T->Args args->Except zh (res.T×(bTy T).T)}:(hBl T tys args res pre out).law:=
 ⟨hT,fun _=>rfl,fun a h=>by cases h;exact⟨Nat.zero_ne_one,fun _=>rfl⟩⟩
def tyOk (T:Ty):List zp->Prop:=fun tys=>∀ ty∈tys,(ty=107∨ty=105)∧∀ x:T.T,(zaZ T x).length=if ty=105 then 0 else 1
@[reducible] def cCC (T:Ty) (tys:List zp):HCtr:=hBl T tys [] .unit (fun _ _=>[]) fun x _=>.ok ((),(true,x.2))
theorem zoR (T:Ty) (tys:List zp) {args:List Ty} {res:Ty} {pre:(bTy T).T->Args args->List Prop} {out:(bTy T).T->Args args->Except zh (res.T×(bTy T).T)} (i j:Nat) (x:(bTy T).T):(hBl T tys args res pre out).lv i j x=adV i x.1::⟨.obuf u8,j⟩::zaZ T x.2.2:=rfl
theorem zlX {w:zj} {O:Nat->Prop} {β:Nat->zh}:∀ {vs:List V} {cs:List zh},RepH w O β vs cs->cs.length=vs.length
 | [],_,h=>by rw[show _=[] from h];rfl
 |v::r,_,⟨u,s,rfl,_,_,h⟩=>by rw[zt,zt,zlX h]
theorem zgz (T:Ty) (hT:T.leafD=true) (tys:List zp) (ht:tyOk T tys):zaC Tryz.prog gmH 114 (cCC T tys):=by
 refine⟨Tryz.call114,zcm hT,fun w O g cs ty x xs vs b hO hgb hg hx hbuf hrep hpre hinv hG=>?_⟩;have hvs:vs=[]:=hrep;subst hvs;rw[zoR]at hx;obtain⟨u,r,rfl,hu1,hu,hr⟩:=hx;obtain⟨hty,hlen⟩:=ht ty hinv.2;have hrl:=zlX hr;rw[zt,hlen]at hrl;have hgl:=(zo.1 hg).1;cases hx1:x.1 with
 |true=>
  rw[hx1]at hu;obtain⟨g',e1,e2⟩:∃ g',zah (zc1 g b 0)=some g'∧u= .pointer (some ⟨g',0,none⟩):=hu;have e1:some g=some g':=e1;cases e1;subst e2;have hc:w.cell? ⟨g,0,none⟩=some (.pointer (some ⟨g,0,none⟩)):=by simp[xB,hg]
  refine (Go.Proofs.Any.Builder_copyCheck_used Tryz.lays240 Tryz.Builder_X72_240 g w hc).mono ?_;rintro e w' ⟨rfl,rfl⟩;refine⟨jF _ _,_,_,b,rfl,hg,?_,hbuf,hgb,fun h hh=>.inl hh,.inl rfl⟩;rw[zoR];exact⟨_,_,rfl,rfl,⟨g,rfl,rfl⟩,hr⟩
 |false=>
  rw[hx1]at hu;have hu:u= .pointer none:=hu;subst hu;refine (zib ty hty g w r (by rw[hrl];split<;>rfl) hg).mono ?_;rintro e w' ⟨rfl,rfl⟩;have hk:Kept (fun h=>h=g∨zah b=some h) w (w.setCell ⟨g,0,none⟩ (.pointer (some ⟨g,0,none⟩))):=⟨rfl,rfl,rfl,by simp[World.setCell],fun k _ hn=>xp w ⟨g,0,none⟩ _ k fun e=>hn (.inl e)⟩;have hkk:xk w (w.setCell ⟨g,0,none⟩ (.pointer (some ⟨g,0,none⟩))) (zbM O g b) (zbM O g b):=⟨hk.size,fun k _ hn=>xp w ⟨g,0,none⟩ _ k fun e=>hn (.inl (.inr e)),fun _ _ h=>h⟩;refine⟨hk,_,.pointer (some ⟨g,0,none⟩)::r,b,rfl,?_,?_,hbuf.keep hkk fun k hk=>xp w ⟨g,0,none⟩ _ k fun e=>hgb (by rw[hk,e]),hgb,fun h hh=>.inl hh,.inl rfl⟩
  ·show (w.heap.modify g _)[g]? =_;rw[yj (by rw[kg];exact hgl),vY,(zo.1 hg).2];simp
  ·rw[zoR];exact⟨_,_,rfl,rfl,⟨g,rfl,rfl⟩,hr.keep hkk⟩
def Ty.noB:Ty->Bool
 | .obuf _=>false
 | .cond t=>t.noB
 | .hcons a b=>a.noB&&b.noB
 |_=>true
theorem RepV.fixβ {w:zj} {O:Nat->Prop} {β β':Nat->zh} {K:Nat} (hβ:∀ i,i < K->zah (β' i)=zah (β i)):∀ (t:Ty) (x:t.T) (v:zh),t.noB=true->bnd t x≤K->RepV w O β t x v->RepV w O β' t x v:=by
 intro t
 induction t with
 |optr t _=>
  rintro x v _ hb ⟨g,h1,h2⟩;have hb:x.i+1≤K:=hb;exact⟨g,(hβ _ (by omega)).trans h1,h2⟩
 |obuf t _=>intro x v hn;cases hn
 |cond t ih=>intro x v hn hb h;exact⟨fun hc=>ih _ _ hn hb (h.1 hc),h.2⟩
 |hptr=>
  rintro x v _ hb ⟨g,h1,h2⟩;have hb:x.1+1≤K:=hb;exact⟨g,(hβ _ (by omega)).trans h1,h2⟩
 |hcons a b iha ihb=>
  rintro x v hn hb ⟨u,s,h1,h2,h3,h4⟩;have hb':max (bnd a x.1) (bnd b x.2)≤K:=hb;have hn:(a.noB&&b.noB)=true:=hn;rw[zd]at hn;exact⟨u,s,h1,h2,iha _ _ hn.1 (by omega) h3,ihb _ _ hn.2 (by omega) h4⟩
 |_=>intro x v _ hb h;exact h
def zkq (K:Nat) (v:V):V:=bif v.t.noB&&qe v.bound K then v else ⟨.junk,()⟩
def zhu (K:Nat):List (Nat×V)->List (Nat×V)
 | []=>[]
 |(s,v)::r=>(s,zkq K v)::zhu K r
theorem zht (K:Nat):∀ (F:yv) (s:Nat),zn (zhu K F) s=zkq K (zn F s)
 | [],s=>rfl
 |(d,v)::r,s=>by
  show zn ((d,zkq K v)::zhu K r) s=_;rw[zap,zap];by_cases h:d=s
  ·rw[if_pos h,if_pos h]
  ·rw[if_neg h,if_neg h,zht K r s]
theorem zpg {w w':zj} {O O':Nat->Prop} {β β':Nat->zh} {K:Nat} (hk:xk w w' O O') (hβ:∀ i,i < K->zah (β' i)=zah (β i)) {v:V} {u:zh} (h:RepV w O β v.t v.x u):RepV w' O' β' (zkq K v).t (zkq K v).x u:=by
 unfold zkq;cases hc:v.t.noB&&qe v.bound K with
 |false=>trivial
 |true=>
  rw[zd]at hc;exact RepV.fixβ hβ _ _ _ hc.1 (zb hc.2) (yn hk _ _ _ h)
theorem zlp {K:Nat} (v:V):(zkq K v).bound≤K:=by
 unfold zkq;cases hc:v.t.noB&&qe v.bound K with
 |false=>exact zm _
 |true=>
  rw[zd]at hc;exact zb hc.2
def zeX (E:Owns):Nat->Bool
 |0=>true
 |k+1=>(match zl E k with
  |some o=>!o.isBuf
  |none=>false)&&zeX E k
theorem ziJ {E:Owns}:∀ {K:Nat},zeX E K=true->∀ i,i < K->∃ o,zl E i=some o∧o.isBuf=false
 |0,_,i,hi=>absurd hi (xr _)
 |k+1,h,i,hi=>by
  have h:((match zl E k with
   |some o=>!o.isBuf
   |none=>false)&&zeX E k)=true:=h
  rw[zd]at h;by_cases hk:i=k
  ·subst hk;have h1:=h.1;cases ho:zl E i with
   |none=>rw[ho]at h1;cases h1
   |some o=>rw[ho]at h1;exact⟨o,rfl,by simpa using h1⟩
  ·exact ziJ h.2 i (by omega)
def ztv (β:Nat->zh) (i:Nat):Nat:=(zah (β i)).getD 0
def inX (X:Ownr) (E:Owns) (β:Nat->zh) (K:Nat) (ex:Nat->Prop):Ownr:={ G:=X.G,X:=fun g=>X.X g∨ex g,K:=K,fix:=ztv β,D:=[],ρ:=none,B:=fun g=>∃ i o,zl E i=some o∧zah (β i)=some g }
section
variable {w0 w w1:zj} {X:Ownr} {n m K:Nat} {F F':yv} {E:Owns} {nx:Nat} {β:Nat->zh} {a a1:Act} {ex:Nat->Prop}
theorem zhN (h:Sim w0 X n ⟨F,E,nx⟩ β a w) (hb:zeX E K=true) {i:Nat} (hi:i < K):∃ o,zl E i=some o∧o.isBuf=false∧zah (β i)=some (ztv β i):=by
 obtain⟨o,ho,hob⟩:=ziJ hb i hi;refine⟨o,ho,hob,?_⟩;have h1:=h.own i o ho;unfold ztv;cases o with
 |box t x=>obtain⟨g,_,_,e,_⟩:=h1;rw[e];rfl
 |buf te t xs=>cases hob
 |hbox ty vs=>obtain⟨g,_,e,_⟩:=h1;rw[e];rfl
theorem zh5 (h:Sim w0 X n ⟨F,E,nx⟩ β a w) (hb:zeX E K=true) {g:Nat}:(inX X E β K ex).R g↔∃ i o,zl E i=some o∧zah (β i)=some g:=by
 constructor
 ·rintro (⟨i,hi,rfl⟩|h1)
  ·obtain⟨o,ho,_,hf⟩:=zhN h hb hi;exact⟨i,o,ho,hf⟩
  ·exact h1
 ·exact fun h1=>.inr h1
theorem zgK (h:Sim w0 X n ⟨F,E,nx⟩ β a w) {g:Nat} (hg:∃ i o,zl E i=some o∧zah (β i)=some g):g < w.heap.size:=by
 obtain⟨i,o,ho,hf⟩:=hg;exact ((h.own i o ho).block_lt hf).2
theorem zrX (h:Sim w0 X n ⟨F,E,nx⟩ β a w) (hX:X.Ok w0) (hbl:yO w.heap.size w w1) (hex:∀ g,ex g->w.heap.size≤g∧g < w1.heap.size) (hb:zeX E K=true):(inX X E β K ex).Ok w1:=by
 have hs0:=h.bel.size;have hs1:=hbl.size;refine⟨fun g hg=>?_,fun g hg=>?_,fun w' hk=>?_⟩
 ·rcases hg with hg|hg
  ·have:=hX.1 g hg;refine⟨by omega,fun hr=>?_⟩;obtain⟨i,o,ho,hf⟩:=(zh5 h hb).1 hr;rcases h.new i o g ho hf with h1|h1
   ·omega
   ·exact this.2 h1
  ·have:=hex g hg;refine⟨this.2,fun hr=>?_⟩;have:=zgK h ((zh5 h hb).1 hr);omega
 ·have:=zgK h ((zh5 h hb).1 hg);omega
 ·refine hX.2.2 w' ⟨hk.os.trans (hbl.os.trans h.bel.os),hk.tape.trans (hbl.tape.trans h.bel.tape),hk.output.trans (hbl.output.trans h.bel.output),zE hs0 (zE hs1 hk.size),fun k hkl hr=>?_⟩;rw[hk.block k (by omega) fun hr'=>?_,hbl.block k (by omega),h.bel.block k hkl hr];obtain⟨i,o,ho,hf⟩:=(zh5 h hb).1 hr';rcases h.new i o k ho hf with h1|h1
  ·omega
  ·exact hr h1
theorem Sim.goIn (h:Sim w0 X n ⟨F,E,nx⟩ β a w) (hbl:yO w.heap.size w w1) (hex:∀ g,ex g->w.heap.size≤g∧g < w1.heap.size) (hb:zeX E K=true) (hKn:K≤nx) (hsz:a1.tmps.size=m) (hdf:a1.defers=[]) (hfr:∀ s,RepV w (OSet X E β) β (zn F' s).t (zn F' s).x (a1.tmps.getD s undef)) (hbd:bndB nx F'=true):
  Sim w1 (inX X E β K ex) m ⟨F',E,nx⟩ β a1 w1:=by
 have hk:xk w w1 (OSet X E β) (OSet (inX X E β K ex) E β):=.of_below hbl fun g hg hg'=>by
  rcases hg' with (h1|h1)|h1
  ·exact .inl h1
  ·have:=hex g h1;omega
  ·exact .inr h1
 refine⟨hsz,hdf,jF _ _,fun s=>yn hk _ _ _ (hfr s),fun i o ho=>(h.own i o ho).keep hk fun g hg=>hbl.block g ((h.own i o ho).block_lt hg).2,fun i o g ho hg=>.inr ((zh5 h hb).2 ⟨i,o,ho,hg⟩),h.inj,h.lt,⟨hKn,fun i hi=>?_⟩,fun s=>zfQ hbd s,h.hE⟩;obtain⟨o,ho,hob,hf⟩:=zhN h hb hi;exact⟨hf,fun o' ho'=>by
  have ho':zl E i=some o':=ho';rw[ho]at ho';cases ho';exact hob⟩
theorem Sim.goOut (h:Sim w0 X n ⟨F,E,nx⟩ β a w) (hX:X.Ok w0) (hbl:yO w.heap.size w w1) (hex:∀ g,ex g->w.heap.size≤g∧g < w1.heap.size) (hb:zeX E K=true) (hK:X.K≤K) {σ:AS} {β':Nat->zh} {w' w'':zj} (h':Sim w1 (inX X E β K ex) m σ β' a1 w') (hk:Kept ex w' w''):
  Sim w0 X n ⟨zhu K F,σ.E,σ.nx⟩ β' a w'':=by
 have hok:=zrX h hX hbl hex hb;have hs0:=h.bel.size;have hs1:=hbl.size;have hs2:=h'.bel.size;have hs3:=hk.size;have hown:∀ i o g,zl σ.E i=some o->zah (β' i)=some g->w1.heap.size≤g∨∃ i o,zl E i=some o∧zah (β i)=some g:=fun i o g ho hg=>(h'.new i o g ho hg).imp id (zh5 h hb).1;have hexo:∀ i o g,zl σ.E i=some o->zah (β' i)=some g->¬ ex g:=fun i o g ho hg he=>by
  have h1:=hex g he;rcases hown i o g ho hg with h2|h2
  ·omega
  ·have:=zgK h h2;omega
 have hβ:∀ i,i < K->zah (β' i)=zah (β i):=fun i hi=>by
  obtain⟨o,ho,_,hf⟩:=zhN h hb hi;exact ((h'.fix.2 i hi).1).trans hf.symm
 have hk1:xk w w'' (OSet X E β) (OSet X σ.E β'):=by
  refine⟨by omega,fun g hg hn=>?_,fun g hg hg'=>?_⟩
  ·rw[hk.block g (by omega) fun he=>?_,h'.bel.block g (by omega) fun hr=>?_,hbl.block g hg]
   ·exact hn (.inr ((zh5 h hb).1 hr))
   ·have:=hex g he;omega
  ·rcases hg' with h1|⟨i,o,ho,hg'⟩
   ·exact .inl h1
   ·rcases hown i o g ho hg' with h2|h2
    ·omega
    ·exact .inr h2
 have hk2:xk w' w'' (OSet (inX X E β K ex) σ.E β') (OSet X σ.E β'):=by
  refine⟨hs3,fun g hg hn=>hk.block g hg fun he=>hn (.inl (.inr he)),fun g hg hg'=>?_⟩;rcases hg' with h1|h1
  ·exact .inl (.inl h1)
  ·exact .inr h1
 refine⟨h.sz,h.df,?_,fun s=>?_,fun i o ho=>(h'.own i o ho).keep hk2 fun g hg=>hk.block g ((h'.own i o ho).block_lt hg).2 (hexo i o g ho hg),fun i o g ho hg=>?_,h'.inj,h'.lt,⟨zE hK h'.fix.1,fun i hi=>?_⟩,fun s=>?_,h'.hE⟩
 ·refine⟨hk.os.trans (h'.bel.os.trans (hbl.os.trans h.bel.os)),hk.tape.trans (h'.bel.tape.trans (hbl.tape.trans h.bel.tape)),hk.output.trans (h'.bel.output.trans (hbl.output.trans h.bel.output)),by omega,fun k hkl hr=>?_⟩;rw[hk.block k (by omega) fun he=>?_,h'.bel.block k (by omega) fun hr'=>?_,hbl.block k (by omega),h.bel.block k hkl hr]
  ·obtain⟨i,o,ho,hf⟩:=(zh5 h hb).1 hr';rcases h.new i o k ho hf with h1|h1
   ·omega
   ·exact hr h1
  ·have:=hex k he;omega
 ·show RepV w'' (OSet X σ.E β') β' (zn (zhu K F) s).t (zn (zhu K F) s).x _;rw[zht];exact zpg hk1 hβ (h.fr s)
 ·rcases hown i o g ho hg with h2|⟨i',o',ho',hg'⟩
  ·exact .inl (by omega)
  ·exact h.new i' o' g ho' hg'
 ·have hi:i < X.K:=hi;exact⟨(hβ i (by omega)).trans (h.fix.2 i hi).1,(h'.fix.2 i (by show i < K;omega)).2⟩
 ·show (zn (zhu K F) s).bound≤σ.nx;rw[zht];exact zE (zlp _) h'.fix.1
def Ends (e:Exit) (en:Ending):Prop:=((e= .normal∨e= .ret)∧∃ v,en= .returned v)∨∃ ch,e= .panic ch∧en= .panicked ch
theorem Sim.inl {P:zy} (h:Sim w0 X n ⟨F,E,nx⟩ β a w) (hX:X.Ok w0) (hbl:yO w.heap.size w w1) (hex:∀ g,ex g->w.heap.size≤g∧g < w1.heap.size) (hb:zeX E K=true) (hKn:K≤nx) (hK:X.K≤K) {f:zP} {fn:Func} {c:Code} (hf:P.funcs[f]? =some fn) (hbd:fn.body=some c) (hn:fn.ntmps=m) (hres:fn.results= #[])
  {caps:Array zh} (hcl:caps.size≤m) (hfr:∀ s,RepV w (OSet X E β) β (zn F' s).t (zn F' s).x ((caps++zx (m - caps.size) undef).getD s undef)) (hbF:bndB nx F'=true) {Q:Exit->AS->Prop} (hq:∀ e σ,Q e σ->e= .normal∨e= .ret∨∃ ch,e= .panic ch)
  (hw:∀ X':Ownr,X'.Ok w1->X'.G=X.G->X'.K=K->X'.ρ=none->X'.D=[]->(∀ g,X'.R g->w0.heap.size≤g∨X.R g)->AWP P w1 X' m c ⟨F',E,nx⟩ Q):
  Calls P f caps w1 fun en w'=>w1.heap.size≤w'.heap.size∧(∀ g,ex g->w'.heap[g]? =w1.heap[g]?)∧∃ e σ,Ends e en∧Q e σ∧∀ w'',Kept ex w' w''->∃ β',Sim w0 X n ⟨zhu K F,σ.E,σ.nx⟩ β' a w'':=by
 refine calls_of_wp hf hbd ?_;have hok:=zrX h hX hbl hex hb;have hsim:=h.goIn (a1:={ tmps:=caps++zx (fn.ntmps - caps.size) undef,defers:=[] }) (m:=m) hbl hex hb hKn (by simp[hn];omega) rfl (by rw[hn];exact hfr) hbF;have hR:∀ g,(inX X E β K ex).R g->w0.heap.size≤g∨X.R g:=fun g hg=>by
  obtain⟨i,o,ho,hf⟩:=(zh5 h hb).1 hg;exact h.new i o g ho hf
 refine wp_mono (wpIn_wide.1 (hw _ hok rfl rfl rfl rfl hR β _ w1 hsim)) fun e a' w' ⟨σ,β',h',hQ⟩=>?_;have hkx:∀ g,ex g->w'.heap[g]? =w1.heap[g]? :=fun g he=>by
  have h1:=hex g he;refine h'.bel.block g h1.2 fun hr=>?_;have:=zgK h ((zh5 h hb).1 hr);omega
 have hfin:∀ en,Ends e en->w1.heap.size≤w'.heap.size∧(∀ g,ex g->w'.heap[g]? =w1.heap[g]?)∧∃ e σ,Ends e en∧Q e σ∧∀ w'',Kept ex w' w''->∃ β',Sim w0 X n ⟨zhu K F,σ.E,σ.nx⟩ β' a w'':=fun en he=>⟨h'.bel.size,hkx,e,σ,he,hQ,fun w'' hk=>⟨β',h.goOut hX hbl hex hb hK h' hk⟩⟩;have hdf:a'.defers=[]:=h'.df;rcases hq e σ hQ with rfl|rfl|⟨ch,rfl⟩
 ·exact⟨hdf,_,results_none hres _ _ _,hfin _ (.inl ⟨.inl rfl,_,rfl⟩)⟩
 ·exact⟨hdf,_,results_none hres _ _ _,hfin _ (.inl ⟨.inr rfl,_,rfl⟩)⟩
 ·exact⟨hdf,hfin _ (.inr ⟨ch,rfl,rfl⟩)⟩
end
section
variable {P:zy} {K:Kn} {w0:zj} {X:Ownr} {n:Nat} {σ:AS} {Q:Exit->AS->Prop} {ops:Array Oper}
theorem StepA.giveO (hX:X.Ok w0) {o:Oper} {f:zP} {c:HCtr} {out:c.self.T->Args c.args->Except zh c.res.T} (hc:zfS P X.G f c out) {args:Array zG} {ts:Array zp} {a0:zG} {zas:List zG} (ho:o.op= .call ⟨.value (.func f),args,ts⟩) (hargs:args.toList=a0::zas) (hgd:o.guard=none)
  {F:yv} {E:Owns} {nx:Nat} (hσ:frzs σ zas=⟨F,E,nx⟩) {i:Nat} (hev:evO F a0=⟨.hptr,(i,(0:Nat))⟩) {ty:zp} {vs:List V} (hbox:zl E i=some (.hbox ty vs)) {et:Ty} {j:Nat} (hk:vs[c.k]? =some ⟨.obuf et,j⟩) {xsl:List c.et.T} (hbuf:zl E j=some (.buf c.te c.et xsl))
  {x:c.self.T} (hun:unD c.self ((c.back i vs).set c.k ⟨.slice c.et,xsl⟩)=some (x,[])) (hd:za6 c.args=true) (hfl:c.res.resOk=true)
  {q:List Prop} {xs:Args c.args} (hav:zew E false (zas.map (evO F)) c.args=some (q,xs)) (hq:allP q) (hpre:allP (c.pre x xs)) (hinv:∀ w R,(∀ g,R g->w0.heap.size≤g∨X.R g)->X.G w->c.inv w R ty) {d:Nat} (hdst:o.dst=some d) (hdn:zU d n=true)
  {N:AS->Prop} {y:c.res.T} (hout:out x xs= .ok y) (h:N ⟨(d,resV c.res y)::F,(i,none)::(j,none)::E,nx⟩):ke P w0 X n ops o σ N Q:=
 StepA.give hX hc ho hargs hgd hσ hev hbox hk hbuf hun hd hfl hav hq hpre hinv hdst hdn (by rw[hout];exact h)
theorem StepA.giveE (hX:X.Ok w0) {o:Oper} {f:zP} {c:HCtr} {out:c.self.T->Args c.args->Except zh c.res.T} (hc:zfS P X.G f c out) {args:Array zG} {ts:Array zp} {a0:zG} {zas:List zG} (ho:o.op= .call ⟨.value (.func f),args,ts⟩) (hargs:args.toList=a0::zas) (hgd:o.guard=none)
  {F:yv} {E:Owns} {nx:Nat} (hσ:frzs σ zas=⟨F,E,nx⟩) {i:Nat} (hev:evO F a0=⟨.hptr,(i,(0:Nat))⟩) {ty:zp} {vs:List V} (hbox:zl E i=some (.hbox ty vs)) {et:Ty} {j:Nat} (hk:vs[c.k]? =some ⟨.obuf et,j⟩) {xsl:List c.et.T} (hbuf:zl E j=some (.buf c.te c.et xsl))
  {x:c.self.T} (hun:unD c.self ((c.back i vs).set c.k ⟨.slice c.et,xsl⟩)=some (x,[])) (hd:za6 c.args=true) (hfl:c.res.resOk=true)
  {q:List Prop} {xs:Args c.args} (hav:zew E false (zas.map (evO F)) c.args=some (q,xs)) (hq:allP q) (hpre:allP (c.pre x xs)) (hinv:∀ w R,(∀ g,R g->w0.heap.size≤g∨X.R g)->X.G w->c.inv w R ty) {d:Nat} (hdst:o.dst=some d) (hdn:zU d n=true)
  {N:AS->Prop} {pv:zh} (hout:out x xs= .error pv) (h:Q (.panic [{ v:=pv,recovered:=false }]) ⟨F,(i,none)::(j,none)::E,nx⟩):ke P w0 X n ops o σ N Q:=
 StepA.give hX hc ho hargs hgd hσ hev hbox hk hbuf hun hd hfl hav hq hpre hinv hdst hdn (by rw[hout];exact h)
theorem StepA.conv {o:Oper} {σ':AS} {N:AS->Prop} (hs:∀ β a w,Sim w0 X n σ β a w->∃ β',Sim w0 X n σ' β' a w) (h:ke P w0 X n ops o σ' N Q):ke P w0 X n ops o σ N Q:=
 fun β a w I R hsim hI hR=>by
  obtain⟨β',h'⟩:=hs β a w hsim;exact h β' a w I R h' hI hR
theorem Sim.nilLeaf (i k:Nat) (te:zp) (τ:Ty) {ty:zp} {vs:List V} (hi:zl σ.E i=some (.hbox ty vs)) (hk:vs[k]? =some ⟨.lit,.slice none 0 0⟩) (hτ:zU 0 τ.size=true):
  ∀ β a w,Sim w0 X n σ β a w->∃ β',Sim w0 X n { σ with E:=(i,some (.hbox ty (vs.set k ⟨.obuf τ,σ.nx⟩)))::(σ.nx,some (.buf te τ []))::σ.E,nx:=σ.nx+1 } β' a w:=by
 intro β a w hs;obtain⟨β',h1,h2,h3⟩:=hs.growNil te τ (by simpa using hτ);have hlt:=hs.lt i _ hi;have hi':zl ((σ.nx,some (.buf te τ []))::σ.E) i=some (.hbox ty vs):=by rw[zag,if_neg (by omega)];exact hi
 exact⟨β',h3.leaf hi' hk (v':=⟨.obuf τ,σ.nx⟩) (fun u hu=>by
  have hu:u= .slice none 0 0:=hu;show u=β' σ.nx;rw[hu,h2]) (zk _)⟩
theorem AL.nilLeaf (i k:Nat) (te:zp) (τ:Ty) {ty:zp} {vs:List V} {l:List Oper} (hi:zl σ.E i=some (.hbox ty vs)) (hk:vs[k]? =some ⟨.lit,.slice none 0 0⟩) (hτ:zU 0 τ.size=true)
  (h:AL P w0 X n ops l { σ with E:=(i,some (.hbox ty (vs.set k ⟨.obuf τ,σ.nx⟩)))::(σ.nx,some (.buf te τ []))::σ.E,nx:=σ.nx+1 } Q):AL P w0 X n ops l σ Q:=fun β a w hs=>by
 obtain⟨β',h'⟩:=Sim.nilLeaf i k te τ hi hk hτ β a w hs;exact h β' a w h'
def rnK (L:List (Nat×Nat)):Nat->Bool
 |0=>true
 |k+1=>zW (rnF L k) k&&rnK L k
theorem zon {L:List (Nat×Nat)}:∀ {k:Nat},rnK L k=true->∀ i,i < k->rnF L i=i
 |0,_,i,hi=>absurd hi (xr _)
 |k+1,h,i,hi=>by
  have h:(zW (rnF L k) k&&rnK L k)=true:=h;rw[zd]at h;by_cases e:i=k
  ·subst e;exact Nat.eq_of_beq_eq_true h.1
  ·exact zon h.2 i (by omega)
theorem Sim.renameK {w:zj} {β:Nat->zh} {a:Act} {L:List (Nat×Nat)} (h:Sim w0 X n σ β a w) (hL:rnOk L=true) {m:Nat} (hKL:rnK L X.K=true) (hKm:X.K≤m) (hF:bndB m (rnFr L σ.F)=true) (hE:bndE m (rnE L σ.E)=true):Sim w0 X n ⟨rnFr L σ.F,rnE L σ.E,m⟩ (fun j=>β (rnB L j)) a w:=by
 have hO:∀ g,OSet X (rnE L σ.E) (fun j=>β (rnB L j)) g->OSet X σ.E β g:=by
  rintro g (hg|⟨j,o',h1,h2⟩)
  ·exact .inl hg
  ·obtain⟨o,_,h4,_⟩:=ze3 hL _ _ _ h1;exact .inr ⟨_,o,h4,h2⟩
 have hk:xk w w (OSet X σ.E β) (OSet X (rnE L σ.E) (fun j=>β (rnB L j))):=⟨zk _,fun _ _ _=>rfl,fun g _ hg=>hO g hg⟩;have hb:∀ i,i < X.K->rnB L i=i:=fun i hi=>by
  have:=zm1 L i hL;rwa[zon hKL i hi]at this
 refine⟨h.sz,h.df,h.bel,fun s=>?_,fun j o' hj=>?_,fun j o' g hj hg=>?_,fun i j oi oj hi hj hij g=>?_,fun j o' hj=>zmL hE hj,⟨hKm,fun i hi=>?_⟩,fun s=>zfQ hF s,fun j o' hj=>(zhP hE hj).2⟩
 ·show RepV w _ _ (zn (rnFr L σ.F) s).t (zn (rnFr L σ.F) s).x _;rw[zqv];exact zol hL _ (yn hk _ _ _ (h.fr s))
 ·obtain⟨o,_,h2,rfl⟩:=ze3 hL _ _ _ hj;have h3:=(h.own _ o h2).keep hk fun _ _=>rfl;cases o with
  |hbox ty vs=>
   obtain⟨g,cs,e,k1,k2,k3⟩:=h3;exact⟨g,cs,e,k1,k2,zlU hL k3⟩
  |box t x=>exact h3
  |buf te t xs=>exact h3
 ·obtain⟨o,_,h2,_⟩:=ze3 hL _ _ _ hj;exact h.new _ o g h2 hg
 ·obtain⟨p,e1,h1,_⟩:=ze3 hL _ _ _ hi;obtain⟨q,e2,h2,_⟩:=ze3 hL _ _ _ hj;exact h.inj _ _ p q h1 h2 (fun e=>hij (by rw[e1,e2,e])) g
 ·obtain⟨k1,k2⟩:=h.fix.2 i hi;refine⟨by show zah (β (rnB L i))=_;rw[hb i hi];exact k1,fun o' ho'=>?_⟩;obtain⟨o,_,h2,rfl⟩:=ze3 hL _ _ _ ho';rw[hb i hi]at h2;rw[zom];exact k2 o h2
end
section
open Go Go.RowKit Go.Lib
section
variable {P:zy} {w:zj} {O:Nat->Prop} {β:Nat->zh}
theorem zhY (s:List UInt8):strCells ⟨s.toArray⟩=byteCells s:=by
 simp[strCells,byteCells]
theorem zlM {t u e:zp} {i:TypeInfo} (ht:P.underlying t=some (.slice e)) (hu:P.underlying u=some .string) (hi:P.info? e=some i) (hz:i.zero=some (.int .u8 0)) (hsize:i.size=1) (hby:i.bytes=1) (ty:zp) {B:Nat} (hB:B≤w.heap.size) {bv:zh} {xs:List UInt8} (hown:yc w O β B bv (.buf e (.int .u8) xs))
  (hOb:∀ g,zah bv=some g->O g) (s:List UInt8) (hlen:xs.length+s.length≤1000000000):
  ∃ v' w',(Builtin.append_ #[t,u] ty #[bv,.string ⟨s.toArray⟩]).run P w= .ok v' w'∧w.grownBy w' (zah bv)∧(∀ g,zah v'=some g->zah bv=some g∨w.heap.size≤g)∧
   ∀ O2,(∀ g,g < w.heap.size->O2 g->O g)->yc w' O2 β B v' (.buf e (.int .u8) ((xs++s:List UInt8))):=by
 obtain⟨cs,h1,h2,h3⟩:=hown;have hss:(⟨s.toArray⟩:ByteArray).size=s.length:=by simp[ByteArray.size]
 have hob:=zd4 h2;have h2:w.ownsRow B e 1 bv xs.length cs:=h2;obtain⟨v',w',k1,k2,k3,k4⟩:=run_append_own_string (P:=P) w B t u ty e i ht hu hi hz hsize hby bv xs.length cs h2 ⟨s.toArray⟩ (by rw[hss];simp only[Go.maxLen];omega) (by rw[hss];omega) hB;rw[hss]at k2;refine⟨v',w',k1,hob▸k3,?_,fun O2 hO2=>⟨cs++byteCells s,?_,by rw[show zg (xs++s:List UInt8)=xs.length+s.length from zf, <-zhY];exact k2,h3⟩⟩
 ·intro g hg;rcases h2.2 with ⟨rfl,hn⟩|⟨g',cap,cur,rfl,hbg,hg',hnc,hcm,hcs,htake⟩
  ·by_cases hm:(⟨s.toArray⟩:ByteArray).size=0
   ·have:=k4.2 ⟨rfl,hm⟩;rw[this]at hg;cases hg
   ·have hr2:=run_append_nil_string (P:=P) w t u ty e i _ ht hu hi hz ⟨s.toArray⟩ (by omega) (by omega) (by rw[hby];omega);rw[hr2]at k1;cases k1;cases hg;exact .inr (zk _)
  ·by_cases hroom:xs.length+(⟨s.toArray⟩:ByteArray).size≤cap
   ·have hcs':cur.size=cap:=by simpa using hcs
    have hr2:=run_append_room_string (P:=P) w t u ty e i ht hu hi hsize g' xs.length cap cur hg' ⟨s.toArray⟩ hroom (by omega);rw[hr2]at k1;cases k1;exact .inl hg
   ·have holds:∀ j u,cs[j]? =some u->w.cell? ((⟨g',0,none⟩:Addr).add j)=some u:=h2.cells (g:=g') rfl;have hr2:=run_append_grow_string (P:=P) w t u ty e i (.int .u8 0) ht hu hi hz ⟨g',0,none⟩ xs.length cap cs (by rw[h2.1,hsize]) holds ⟨s.toArray⟩ (by omega) (by omega) (by rw[hby];exact growslice_fits (by omega) (by omega));rw[hr2]at k1;cases k1;cases hg;exact .inr (zk _)
 ·have hk:xk w w' O O2:=⟨k3.size,fun g hgl hgo=>k3.block g hgl fun e=>hgo (hOb g (by rw[<-hob];exact e.symm)),hO2⟩;exact (h1.append (zgq s)).mono fun x _ c=>RepC.keep hk _ _ _
end
section
variable {P:zy} {K:Kn} {w0:zj} {X:Ownr} {n:Nat} {σ:AS} {Q:Exit->AS->Prop} {ops:Array Oper}
theorem AL.appStr {t u e:zp} {ti:TypeInfo} (ht:P.underlying t=some (.slice e)) (hu:P.underlying u=some .string) (hi:P.info? e=some ti) (hz:ti.zero=some (.int .u8 0)) (hsize:ti.size=1) (hby:ti.bytes=1) {o:Oper} {rest:List Oper} {sl x:zG} (ho:o.op= .call ⟨.builtin .append,#[sl,x],#[t,u]⟩) (hgd:o.guard=none) {d:Nat} (hd:o.dst=some d) (hdn:zU d n=true)
  {F:yv} {E:Owns} {nx i:Nat} (hs:evO F sl=⟨.obuf (.int .u8),i⟩) {xs:List UInt8} (hb:zl E i=some (.buf e (.int .u8) xs)) {s:List UInt8} (hx:evO F x=⟨.str,s⟩) (hlen:xs.length+s.length≤1000000000)
  (h:AL P w0 X n ops rest ⟨(d,⟨.obuf (.int .u8),i⟩)::xm i F,(i,some (.buf e (.int .u8) ((xs++s:List UInt8))))::Owns.kill i E,nx⟩ Q):AL P w0 X n ops (o::rest) ⟨F,E,nx⟩ Q:=by
 refine qE hgd (fun c e=>by rw[ho]at e;cases e) fun β a w hsim=>?_;have hlt:d < n:=by simpa using hdn
 have eS:a.eval sl=β i:=by
  have h1:=hsim.ops sl;rw[show evO (AS.mk F E nx).F sl=_ from hs]at h1;exact h1
 have eX:a.eval x= .string ⟨s.toArray⟩:=by
  have h1:=hsim.ops x;rw[show evO (AS.mk F E nx).F x=_ from hx]at h1;exact vR.1 h1.1
 obtain⟨v',w',k1,k2,k3,k4⟩:=zlM (P:=P) ht hu hi hz hsize hby o.type (zm _) (hsim.own i _ hb) (fun g hg=>.inr ⟨i,_,hb,hg⟩) s hlen;obtain⟨β',hs'⟩:=hsim.redo hb rfl k2 (bv:=v') k3 (t:=.int .u8) (o':=.buf e (.int .u8) ((xs++s:List UInt8))) (fun O _ hO=>k4 O hO) hlt;refine zbx (u:=v') (w':=w') ?_ (by rw[hd];exact⟨_,β',hs',h⟩);unfold execOp;simp only[ho,resolve,invoke,builtin,Sem.run_bind,Sem.run_pure,Result.andThen_ok,List.map_toArray,qt,List.map_nil,eS,eX,k1]
theorem StepA.step {o o':Oper} {N:AS->Prop} (heq:OpEq P o o') (hX:X.Ok w0) (hK:KnOk P X.G K) {r:List Prop×AS} (hs:znE K n ops o' σ=some r) (hp:allP r.1) (h:N r.2) (hgd:o.guard=none:=by rfl):ke P w0 X n ops o σ N Q:=by
 refine vh hgd fun β a w hsim=>heq.wp ?_;have h1:=zgT (ops:=ops) (N:=fun a' w'=>∃ σ' β',Sim w0 X n σ' β' a' w'∧N σ') (R:=fun e a' w'=>e≠ .outgrown∧∃ σ' β',Sim w0 X n σ' β' a' w'∧Q e σ') hK hX hsim hs hp fun β' a' w' h2=>⟨r.2,β',h2,h⟩;have hg':o'.guard=none:=by rw[<-heq.guard];exact hgd
 simp only[zD,hg',if_true]at h1;rcases h1 with h1|⟨_,h1⟩
 ·exact h1
 ·obtain⟨_,_,h2,_⟩:=h1;exact absurd rfl h2
end
end
theorem u8isS:(Tryz.prog.info? 5).isSome=true:=by kernel_rfl
noncomputable def u8i:TypeInfo:=(Tryz.prog.info? 5).get u8isS
theorem zrD:Tryz.prog.info? 5=some u8i:=(Option.some_get _).symm
theorem zrB:u8i.zero=some (.int .u8 0):=by kernel_rfl
theorem zrC:u8i.size=1:=by kernel_rfl
theorem znM:u8i.bytes=1:=by kernel_rfl
theorem eqB1 (o:Oper) (x:zG) (h:o.op= .fieldAddr 105 x 1):OpEq Tryz.prog o { o with op:=.fieldAddr 133 x 1 }:=by
 refine⟨rfl,rfl,rfl,fun ev w=>?_⟩;unfold execOp;simp only[h];cases ev x<;>simp[go_sem]
@[reducible] def cWSP:HCtr:=hBl prT [107] [.str] .unit (fun x xs=>[zg x.2.1+zg xs.1≤1000000000]) fun x xs=>.ok ((),(true,((x.2.1++xs.1:List UInt8),x.2.2)))
def hCCP:List (zP×HCtr):=[(114,cCC prT [107])]
theorem tyOkP:tyOk prT [107]:=fun t h=>by
 rw[zu]at h;subst h;exact⟨by first|exact .inl rfl|exact .inr rfl,fun x=>rfl⟩
theorem zpr:HsOk Tryz.prog gmH hCCP:=.cons (zgz prT rfl [107] tyOkP) .nil
theorem zid:zaC Tryz.prog gmH 66 cWSP:=by
 refine zgx (K:=gmK) zak Tryz.func66 rfl rfl (zcm rfl) Tryz.call66 rfl (fun tmps w=>⟨_,by simp[results,Tryz.f66,go_sem];rfl⟩) rfl (zb rfl) (zdC prT [107]) ?_;rintro w0 ⟨G,O,K,fix,D,ρ,B⟩ ty hX hG hK hρ hD hinv ⟨b,bf,r,⟨⟩⟩ ⟨(u:List UInt8),⟨⟩⟩ hp;obtain rfl:G=gmH:=hG;obtain rfl:K=1:=hK;obtain rfl:ρ=none:=hρ;obtain rfl:D=[]:=hD;have hI:=fun w R hR hw=>(⟨zaJ (ty:=ty) hX rfl hinv.1 (ty':=ty) w R hR hw,hinv.2⟩:bInv prT [107] w R ty);have hp:zg bf+u.length≤1000000000:=hp;have key:∀ b',AWP Tryz.prog w0 { G:=gmH,X:=O,K:=1,fix:=fix,D:=[],ρ:=none,B:=B } Tryz.f66.ntmps (Tryz.f66.body.getD .skip) ⟨[(0,⟨.hptr,((0:Nat),(0:Nat))⟩),(1,⟨.str,u⟩)],[(0,some (.hbox ty (adV 0 b'::⟨.obuf u8,(1:Nat)⟩:: [⟨.slice nd,r⟩]))),(1,some (.buf 5 u8 bf))],2⟩ (fun e σ=>zp3 cWSP ty e σ (.ok ((),(true,((bf++u:List UInt8),r,⟨⟩))))):=by
  intro b';apply zae;refine za (za ?_);refine zaa hX zak rfl ?_ ?_
  ·trivial
  refine AWP.via (σ':=⟨[(0,⟨.hptr,((0:Nat),(0:Nat))⟩),(1,⟨.str,u⟩),(5,⟨.lit,.nilIface⟩)],[(0,some (.hbox ty (⟨.hptr,((0:Nat),(0:Nat))⟩::⟨.obuf u8,(1:Nat)⟩:: [⟨.slice nd,r⟩]))),(1,some (.buf 5 u8 bf))],2⟩) ?_ ?_
  ·cases b' with
   |true=>
    (repeat(first|apply zae|apply zab|apply zac|apply zad));refine zai ?_;refine ym 1 hX zak zpr rfl trivial rfl rfl trivial hI ?_;exact yf ⟨⟨rfl,rfl,rfl,trivial⟩,⟨rfl,rfl,trivial⟩,rfl,rfl⟩
   |false=>
    (repeat(first|apply zae|apply zab|apply zac|apply zad));refine zai ?_;refine ym 1 hX zak zpr rfl trivial rfl rfl trivial hI ?_;exact yf ⟨⟨rfl,rfl,rfl,trivial⟩,⟨rfl,rfl,trivial⟩,rfl,rfl⟩
  (repeat(first|apply zae|apply zab|apply zac|apply zad));refine zai ?_;refine yh 3 hX zak rfl trivial ?_;refine jH (eqB1 _ _ rfl) hX zak rfl trivial ?_;refine yh 2 hX zak rfl trivial ?_;refine AL.appStr Tryz.underlying103 Tryz.underlying9 zrD zrB zrC znM rfl rfl rfl rfl rfl rfl rfl hp ?_;refine yh 1 hX zak rfl trivial ?_;refine jH (eqB1 _ _ rfl) hX zak rfl trivial ?_;refine zV hX zak rfl trivial ?_;(repeat(first|apply zae|apply zab|apply zal|apply zad|apply zac|refine zaa hX zak rfl trivial ?_|refine zaa hX zak rfl id ?_|refine zaa hX zak rfl ⟨id,id⟩ ?_));exact zq ⟨.inr rfl,_,rfl,u8,1,_,rfl,rfl,rfl⟩
 exact key b
@[reducible] def cWSB:HCtr:=hBl .unit [105] [.str] .unit (fun x xs=>[zg x.2.1+zg xs.1≤1000000000]) fun x xs=>.ok ((),(true,((x.2.1++xs.1:List UInt8),x.2.2)))
def hCCB:List (zP×HCtr):=[(114,cCC .unit [105])]
theorem tyOkB:tyOk .unit [105]:=fun t h=>by
 rw[zu]at h;subst h;exact⟨by first|exact .inl rfl|exact .inr rfl,fun x=>rfl⟩
theorem zps:HsOk Tryz.prog gmH hCCB:=.cons (zgz .unit rfl [105] tyOkB) .nil
theorem zmO:zaC Tryz.prog gmH 66 cWSB:=by
 refine zgx (K:=gmK) zak Tryz.func66 rfl rfl (zcm rfl) Tryz.call66 rfl (fun tmps w=>⟨_,by simp[results,Tryz.f66,go_sem];rfl⟩) rfl (zb rfl) (zdC .unit [105]) ?_;rintro w0 ⟨G,O,K,fix,D,ρ,B⟩ ty hX hG hK hρ hD hinv ⟨b,bf,⟨⟩⟩ ⟨(u:List UInt8),⟨⟩⟩ hp;obtain rfl:G=gmH:=hG;obtain rfl:K=1:=hK;obtain rfl:ρ=none:=hρ;obtain rfl:D=[]:=hD;have hI:=fun w R hR hw=>(⟨zaJ (ty:=ty) hX rfl hinv.1 (ty':=ty) w R hR hw,hinv.2⟩:bInv .unit [105] w R ty);have hp:zg bf+u.length≤1000000000:=hp;have key:∀ b',AWP Tryz.prog w0 { G:=gmH,X:=O,K:=1,fix:=fix,D:=[],ρ:=none,B:=B } Tryz.f66.ntmps (Tryz.f66.body.getD .skip) ⟨[(0,⟨.hptr,((0:Nat),(0:Nat))⟩),(1,⟨.str,u⟩)],[(0,some (.hbox ty (adV 0 b'::⟨.obuf u8,(1:Nat)⟩:: []))),(1,some (.buf 5 u8 bf))],2⟩ (fun e σ=>zp3 cWSB ty e σ (.ok ((),(true,((bf++u:List UInt8),⟨⟩))))):=by
  intro b';apply zae;refine za (za ?_);refine zaa hX zak rfl ?_ ?_
  ·trivial
  refine AWP.via (σ':=⟨[(0,⟨.hptr,((0:Nat),(0:Nat))⟩),(1,⟨.str,u⟩),(5,⟨.lit,.nilIface⟩)],[(0,some (.hbox ty (⟨.hptr,((0:Nat),(0:Nat))⟩::⟨.obuf u8,(1:Nat)⟩:: []))),(1,some (.buf 5 u8 bf))],2⟩) ?_ ?_
  ·cases b' with
   |true=>
    (repeat(first|apply zae|apply zab|apply zac|apply zad));refine zai ?_;refine ym 1 hX zak zps rfl trivial rfl rfl trivial hI ?_;exact yf ⟨⟨rfl,rfl,rfl,trivial⟩,⟨rfl,rfl,trivial⟩,rfl,rfl⟩
   |false=>
    (repeat(first|apply zae|apply zab|apply zac|apply zad));refine zai ?_;refine ym 1 hX zak zps rfl trivial rfl rfl trivial hI ?_;exact yf ⟨⟨rfl,rfl,rfl,trivial⟩,⟨rfl,rfl,trivial⟩,rfl,rfl⟩
  (repeat(first|apply zae|apply zab|apply zac|apply zad));refine zai ?_;refine yh 3 hX zak rfl trivial ?_;refine jH (eqB1 _ _ rfl) hX zak rfl trivial ?_;refine yh 2 hX zak rfl trivial ?_;refine AL.appStr Tryz.underlying103 Tryz.underlying9 zrD zrB zrC znM rfl rfl rfl rfl rfl rfl rfl hp ?_;refine yh 1 hX zak rfl trivial ?_;refine jH (eqB1 _ _ rfl) hX zak rfl trivial ?_;refine zV hX zak rfl trivial ?_;(repeat(first|apply zae|apply zab|apply zal|apply zad|apply zac|refine zaa hX zak rfl trivial ?_|refine zaa hX zak rfl id ?_|refine zaa hX zak rfl ⟨id,id⟩ ?_));exact zq ⟨.inr rfl,_,rfl,u8,1,_,rfl,rfl,rfl⟩
 exact key b
@[reducible] def znC (T:Ty) (tys:List zp):HCtr:=hBl T tys [] i64 (fun _ _=>[]) fun x _=>.ok (((x.2.1.length:Nat):Int),x)
theorem zs3:zaC Tryz.prog gmH 61 (znC prT [107]):=by
 refine zau (K:=gmK) zak Tryz.func61 rfl rfl (zcm rfl) Tryz.call61 rfl (zb rfl) (zdC prT [107]) ?_;rintro w0 ⟨G,O,K,fix,D,ρ,B⟩ ty hX hG hK hρ hD hinv ⟨b,bf,r,⟨⟩⟩ ⟨⟩ hp;obtain rfl:G=gmH:=hG;obtain rfl:K=1:=hK;obtain rfl:ρ=none:=hρ;obtain rfl:D=[]:=hD;have key:∀ b',AWP Tryz.prog w0 { G:=gmH,X:=O,K:=1,fix:=fix,D:=[],ρ:=none,B:=B } Tryz.f61.ntmps (Tryz.f61.body.getD .skip) ⟨[(0,⟨.hptr,((0:Nat),(0:Nat))⟩)],[(0,some (.hbox ty (adV 0 b'::⟨.obuf u8,(1:Nat)⟩:: [⟨.slice nd,r⟩]))),(1,some (.buf 5 u8 bf))],2⟩ (fun e σ=>zp4 gmT Tryz.f61.results.toList (znC prT [107]) ty e σ (.ok (((bf.length:Nat):Int),(b',bf,r,())))):=by
  intro b';apply zae;refine za (za ?_);refine zaa hX zak rfl ?_ ?_
  ·trivial
  (repeat(first|apply zae|apply zab|apply zac|apply zad));refine zai ?_;refine yh 2 hX zak rfl trivial ?_;refine jH (eqB1 _ _ rfl) hX zak rfl trivial ?_;refine zV hX zak rfl trivial ?_;cases b' with
  |true=>exact zq ⟨.inr rfl,⟨_,rfl,u8,1,_,rfl,rfl,rfl⟩,zax rfl trivial rfl rfl rfl⟩
  |false=>exact zq ⟨.inr rfl,⟨_,rfl,u8,1,_,rfl,rfl,rfl⟩,zax rfl trivial rfl rfl rfl⟩
 exact key b
theorem zs4:zaC Tryz.prog gmH 61 (znC .unit [105]):=by
 refine zau (K:=gmK) zak Tryz.func61 rfl rfl (zcm rfl) Tryz.call61 rfl (zb rfl) (zdC .unit [105]) ?_;rintro w0 ⟨G,O,K,fix,D,ρ,B⟩ ty hX hG hK hρ hD hinv ⟨b,bf,⟨⟩⟩ ⟨⟩ hp;obtain rfl:G=gmH:=hG;obtain rfl:K=1:=hK;obtain rfl:ρ=none:=hρ;obtain rfl:D=[]:=hD;have key:∀ b',AWP Tryz.prog w0 { G:=gmH,X:=O,K:=1,fix:=fix,D:=[],ρ:=none,B:=B } Tryz.f61.ntmps (Tryz.f61.body.getD .skip) ⟨[(0,⟨.hptr,((0:Nat),(0:Nat))⟩)],[(0,some (.hbox ty (adV 0 b'::⟨.obuf u8,(1:Nat)⟩:: []))),(1,some (.buf 5 u8 bf))],2⟩ (fun e σ=>zp4 gmT Tryz.f61.results.toList (znC .unit [105]) ty e σ (.ok (((bf.length:Nat):Int),(b',bf,())))):=by
  intro b';apply zae;refine za (za ?_);refine zaa hX zak rfl ?_ ?_
  ·trivial
  (repeat(first|apply zae|apply zab|apply zac|apply zad));refine zai ?_;refine yh 2 hX zak rfl trivial ?_;refine jH (eqB1 _ _ rfl) hX zak rfl trivial ?_;refine zV hX zak rfl trivial ?_;cases b' with
  |true=>exact zq ⟨.inr rfl,⟨_,rfl,u8,1,_,rfl,rfl,rfl⟩,zax rfl trivial rfl rfl rfl⟩
  |false=>exact zq ⟨.inr rfl,⟨_,rfl,u8,1,_,rfl,rfl,rfl⟩,zax rfl trivial rfl rfl rfl⟩
 exact key b
section
open Go.Shelf
set_option linter.unusedSimpArgs false
set_option linter.unusedVariables false
set_option maxHeartbeats 1000000 in
theorem znW {P:zy} {ρ:Ren} (L:Lays.n169 P ρ) (X:Builder.Extra P ρ) (b g cap:Nat) (cs cur:Array zh) (ty:zp) (l:List UInt8) (w:zj) (hbk:w.heap[b]? =some (.cells cs ty (0,0))) (h1:cs[1]? =some (.slice (some ⟨g,0,none⟩) l.length cap)) (hg:w.heap[g]? =some (.cells cur (ρ.t 5) (0,0))) (hnc:l.length≤cap) (hcm:cap≤maxLen) (hcs:cur.size=cap) (htake:cur.toList.take l.length=k6 l) (h0:l≠ []):
  Calls P (ρ.f 169) #[.pointer (some ⟨b,0,none⟩)] w fun e w'=>e= .returned (.string ⟨l.toArray⟩)∧w'=w.drew.freeze ⟨g,0,none⟩ l.length:=by
 have hl0:l.length≠0:=by simpa using h0
 have c1:w.drew.cell? ⟨b,1,none⟩=some (.slice (some ⟨g,0,none⟩) l.length cap):=by
  have:w.drew.heap[b]? =some (.cells cs ty (0,0)):=hbk;rw[Lib.cell_of_heap this];exact h1
 have hSD:(Builtin.unsafeSliceData_ #[(ρ.t 37)] (ρ.t 127) #[.slice (some ⟨g,0,none⟩) l.length cap]).run P w.drew= .ok (.pointer (some ⟨g,0,none⟩)) w.drew:=
  Lib.run_unsafeSliceData_row _ _ _ _ _ _ (by omega)
 have hUS:(Builtin.unsafeString_ #[(ρ.t 127),(ρ.t 3)] (ρ.t 9) #[.pointer (some ⟨g,0,none⟩),.int .i64 l.length]).run P w.drew= .ok (.string ⟨l.toArray⟩) (w.drew.freeze ⟨g,0,none⟩ l.length):=by
  refine Lib.run_unsafeString_row w.drew (ρ.t 127) (ρ.t 3) (ρ.t 9) (ρ.t 5) L.t127 X.cellsByte g cur.size (by have hg':w.drew.heap[g]? =some (.cells cur (ρ.t 5) (0,0)):=hg;simp[World.shape?,hg']) l h0 (by omega) (by unfold maxLen at hcm;omega) ?_;intro j x hx;have hg':w.drew.heap[g]? =some (.cells cur (ρ.t 5) (0,0)):=hg;rw[show ((⟨g,0,none⟩:Addr).add j)=⟨g,j,none⟩ from by simp[Addr.add_lit],Lib.cell_of_heap hg'];have h2:(cur.toList.take l.length)[j]? =some (.int .u8 x.toNat):=by rw[htake];simp[k6,hx]
  rw[List.getElem?_take]at h2;split at h2
  ·simpa using h2
  ·cases h2
 have mixed:=L.mixed;have t72:=L.t72;have a72:=L.a72;have z72:=L.z72;have v72:=L.v72;have u72:=run_underlying L.t72;have t70:=L.t70;have a70:=L.a70;have z70:=L.z70;have v70:=L.v70;have u70:=run_underlying L.t70;have t37:=L.t37;have a37:=L.a37;have z37:=L.z37;have v37:=L.v37;have u37:=run_underlying L.t37;have t127:=L.t127;have a127:=L.a127;have z127:=L.z127;have v127:=L.v127;have u127:=run_underlying L.t127;have t3:=L.t3;have a3:=L.a3;have z3:=L.z3;have v3:=L.v3;have u3:=run_underlying L.t3;have t9:=L.t9;have a9:=L.a9;have z9:=L.z9;have v9:=L.v9;have u9:=run_underlying L.t9;have t5:=X.t5;have a5:=X.a5;have z5:=X.z5;have v5:=X.v5;have u5:=run_underlying X.t5
 go_enter L.f169,Body.n169_ntmps ρ
 go_wp2
 go_region_o
 all_goals (go_wp2;go_ret;exact⟨rfl,rfl⟩)
end
theorem zkB (w:zj) (g n k:Nat) (hk:k≠g):(w.freeze ⟨g,0,none⟩ n).heap[k]? =w.heap[k]? :=by
 unfold qP;split
 ·rfl
 ·simp only[Array.getElem?_modify];rw[if_neg (fun e=>hk e.symm)]
theorem zls {R:Nat->Prop} (w:zj) (g n:Nat) (hR:R g):Kept R w (w.drew.freeze ⟨g,0,none⟩ n):=by
 refine⟨?_,?_,?_,?_,fun k _ hn=>zkB w.drew g n k fun e=>hn (e▸hR)⟩
 ·unfold qP;split<;>rfl
 ·unfold qP;split<;>rfl
 ·unfold qP;split<;>rfl
 ·unfold qP;split
  ·exact zk _
  ·show w.heap.size≤(Array.modify _ _ _).size;rw[kg];exact zk _
@[reducible] def cStrB (T:Ty) (tys:List zp):HCtr:=hBl T tys [] .str (fun x _=>[x.2.1≠ []]) fun x _=>.ok (x.2.1,x)
theorem zjQ (T:Ty) (hT:T.leafD=true) (tys:List zp):zfS Tryz.prog gmH 62 (cStrB T tys) (fun x _=>.ok x.2.1):=by
 refine⟨Tryz.call62,zcm hT,fun w O g cs ty x xs vs b hO hgb hg hx hbuf hrep hpre hinv hG=>?_⟩;have hvs:vs=[]:=hrep;subst hvs;have h0:x.2.1≠ []:=hpre;rw[zoR]at hx;obtain⟨u,r,rfl,hu1,hu,hr⟩:=hx;obtain⟨v,r,rfl,hv1,hv,hr⟩:=hr;have hv:v=b:=hv;subst hv;obtain⟨cells,k1,k2,k3⟩:=hbuf;have k1:=zf2 k1;subst k1;have hl0:x.2.1.length≠0:=by simpa using h0
 rcases k2.2 with ⟨_,hz⟩|⟨g',cap,cur,rfl,_,hg',hnc,hcm,hcs,htake⟩
 ·exact absurd hz hl0
 rw[show Ty.size u8=1 from rfl,Nat.mul_one]at hcs htake;refine (znW Tryz.lays169 Tryz.Builder_Extra_169 g g' cap _ cur ty x.2.1 w hg rfl hg' hnc hcm hcs (by simpa [k6] using htake) h0).mono ?_;rintro e w' ⟨rfl,rfl⟩;have hnc':zg x.2.1≤cap:=hnc;exact⟨zls w g' _ (.inr rfl),_,rfl,.inr fun β=>⟨rfl,by unfold maxLen at *;omega⟩⟩
section
attribute [local go_sem] Oper.semAt_some
theorem zof (e:Int×Int) (w:zj):(Instr.typeAssert (.iface 133 (.agg #[.int .i64 e.1,.int .i64 e.2])) 20 133 true).run Tryz.prog w= .ok (.tuple #[.agg #[.int .i64 e.1,.int .i64 e.2],.bool true]) w:=by kernel_rfl
set_option maxHeartbeats 2000000 in
theorem zoh (g2 g3:Nat) (w:zj):CallsDIn yA 0 Tryz.prog 78 #[.pointer (some ⟨g2,0,none⟩),.pointer (some ⟨g3,0,none⟩)] .returning w fun e u' w'=>
  (∃ v,e= .returned v)∧u'= .returning∧yO w.heap.size w w':=by
 refine callsDIn_of_wpSIn Tryz.func78 rfl trivial fun c₀ cs hu=>?_;apply wpSIn_seq;apply wpSIn_region;simp[wpOpsSIn,go_sem,recoverD,hu,Tryz.ntmps78,vj];apply wpSIn_seq;apply wpSIn_region;simp[wpOpsSIn,go_sem,vj];refine wpSIn_cond (t:=false) (by simp[Act.eval]) ?_;simp only[yw,if_false];refine wpSIn_of_wpIn rfl (wpIn_skip ?_);cases c₀
 simp_all [bodyPostS,results,Tryz.f78]
 exact zO _ _
def fixR (g2 g3 g5:Nat) (i:Nat):Nat:=if i=0 then g2 else if i=1 then g3 else g5
def sR1 (x2 x3:Int) (e:Int×Int):AS:=⟨[(0,⟨.optr i64,⟨0,i64,.here⟩⟩),(1,⟨.optr i64,⟨1,i64,.here⟩⟩),(3,⟨.optr sto,⟨2,sto,.here⟩⟩)],[(0,some (.box i64 x2)),(1,some (.box i64 x3)),(2,some (.box sto (e.1,e.2,())))],3⟩
def sR2 (e:Int×Int):AS:=⟨[],[(0,some (.box i64 e.1)),(1,some (.box i64 e.2))],3⟩
noncomputable def zqt:Code:=match Tryz.f78.body.getD .skip with
 | .seq _ (.seq _ (.cond _ c _))=>(match c with
  | .seq _ (.seq _ t)=>t
  |c=>c)
 |c=>c
theorem zqs {w1:zj} {X:Ownr} (hX:X.Ok w1) (hG:∀ w w',X.G w->yO w.heap.size w w'->X.G w') (hK:X.K=3) (x2 x3:Int) (e:Int×Int):AWP Tryz.prog w1 X 20 zqt (sR1 x2 x3 e) (fun en σ=>en= .normal∧Fit σ (sR2 e)):=by
 have kok:KnOk Tryz.prog X.G gmK:=⟨zhx,zhw,CsOk.nil,hG,RsOk.nil⟩;unfold sR1 sR2;refine AWP.ordersA dM 6 rfl (by kernel_rfl) ?_
 repeat'(first
  |exact AllN.nil
  |refine AllN.cons ⟨_,rfl,?_⟩ ?_
  |refine StepA.eval hX kok rfl trivial ?_
  |(refine OrdA.last ?_;exact⟨rfl,trivial,⟨rfl,rfl,trivial⟩,rfl,rfl⟩))
set_option maxHeartbeats 600000 in
theorem zqr (g2 g3:Nat) (e:Int×Int) (x2 x3:Int) (t2 t3:zp) (w:zj) (h2:w.heap[g2]? =some (.cells #[.int .i64 x2] t2 (0,0))) (h3:w.heap[g3]? =some (.cells #[.int .i64 x3] t3 (0,0))) (hne:g2≠g3):
  CallsDIn yA 0 Tryz.prog 78 #[.pointer (some ⟨g2,0,none⟩),.pointer (some ⟨g3,0,none⟩)] (.panicking [{ v:=pvS e,recovered:=false }]) w fun en u' w'=>
  (∃ v,en= .returned v)∧u'= .panicking [{ v:=pvS e,recovered:=true }]∧Kept (fun g=>g=g2∨g=g3) w w'∧∃ t2 t3,w'.heap[g2]? =some (.cells #[.int .i64 e.1] t2 (0,0))∧w'.heap[g3]? =some (.cells #[.int .i64 e.2] t3 (0,0)):=by
 refine callsDIn_of_wpSIn Tryz.func78 rfl trivial fun c₀ cs hu=>?_;apply wpSIn_seq;apply wpSIn_region;simp[wpOpsSIn,go_sem,recoverD,hu,Tryz.ntmps78,vj,pvS];apply wpSIn_seq;apply wpSIn_region;simp[wpOpsSIn,go_sem,vj];refine wpSIn_cond (t:=true) (by simp[Act.eval]) ?_;simp only[if_true];apply wpSIn_seq;apply wpSIn_region;simp[wpOpsSIn,go_sem,vj,zof];apply wpSIn_seq;apply wpSIn_seq;apply wpSIn_region;simp[wpOpsSIn,go_sem,vj];refine wpSIn_cond (t:=false) (by simp[Act.eval]) ?_;simp only[yw,if_false];refine wpSIn_of_wpIn rfl (wpIn_skip ?_);simp only[vj];refine wpSIn_of_wpIn rfl ?_;have hl2:=(zo.1 h2).1;have hl3:=(zo.1 h3).1;have hbA:yO w.heap.size w (w.alloc (.cells #[.int .i64 e.1,.int .i64 e.2] 133)):=za2 _ _;have h5:(w.alloc (.cells #[.int .i64 e.1,.int .i64 e.2] 133)).heap[w.heap.size]? =some (.cells #[.int .i64 e.1,.int .i64 e.2] 133 (0,0)):=xn _ _
 replace h2:=(hbA.block _ hl2).trans h2
 replace h3:=(hbA.block _ hl3).trans h3
 generalize w.alloc (.cells #[.int .i64 e.1,.int .i64 e.2] 133)=w1 at *
 let X:Ownr:={ G:=fun _=>True,X:=fun _=>False,K:=3,fix:=fixR g2 g3 w.heap.size }
 have hR:∀ g,X.R g->g=g2∨g=g3∨g=w.heap.size:=by
  rintro g (⟨i,hi,rfl⟩|h)
  rotate_left
  ·exact False.elim h
  have hi:i < 3:=hi;rcases (show i=0∨i=1∨i=2 by omega) with rfl|rfl|rfl
  ·exact .inl rfl
  ·exact .inr (.inl rfl)
  ·exact .inr (.inr rfl)
 have hX:X.Ok w1:=by
  refine⟨fun g h=>h.elim,fun g h=>?_,fun _ _=>trivial⟩;have:=(zo.1 h5).1;have:=hbA.size;rcases hR g h with rfl|rfl|rfl<;>omega
 let β:Nat->zh:=fun i=>.pointer (some ⟨X.fix i,0,none⟩)
 have hsim:∀ a:Act,a.tmps.size=20->a.defers=[]->a.tmps.getD 0 undef= .pointer (some ⟨g2,0,none⟩)->a.tmps.getD 1 undef= .pointer (some ⟨g3,0,none⟩)->a.tmps.getD 3 undef= .pointer (some ⟨w.heap.size,0,none⟩)->
   Sim w1 X 20 (sR1 x2 x3 e) β a w1:=fun a hsz hdf e0 e1 e3=>by
  refine Sim.boxes (X:=X) hsz hdf (fun i _=>rfl) ?_ ?_ ?_ rfl
  ·intro i j hi hj hij;have hi:i < 3:=hi;have hj:j < 3:=hj;have hij:fixR g2 g3 w.heap.size i=fixR g2 g3 w.heap.size j:=hij;unfold fixR at hij;rcases (show i=0∨i=1∨i=2 by omega) with rfl|rfl|rfl<;>rcases (show j=0∨j=1∨j=2 by omega) with rfl|rfl|rfl<;>first|rfl|(exfalso;simp at hij;omega)
  ·intro i o h;rw[zag]at h;split at h
   ·rename_i hi;subst hi;cases h;exact⟨by show 0 < 3;omega,rfl,⟨g2,[_],_,rfl,zm _,h2,rfl⟩,fun vs e=>by cases e⟩
   rw[zag]at h;split at h
   ·rename_i _ hi;subst hi;cases h;exact⟨by show 1 < 3;omega,rfl,⟨g3,[_],_,rfl,zm _,h3,rfl⟩,fun vs e=>by cases e⟩
   rw[zag]at h;split at h
   ·rename_i _ _ hi;subst hi;cases h;exact⟨by show 2 < 3;omega,rfl,⟨w.heap.size,[.int .i64 e.1,.int .i64 e.2],_,rfl,zm _,h5,[.int .i64 e.1],[.int .i64 e.2],rfl,rfl,[.int .i64 e.2],[],rfl,rfl,rfl⟩,fun vs e=>by cases e⟩
   ·cases h
  ·refine zby ⟨g2,rfl,e0⟩ (zby ⟨g3,rfl,e1⟩ (zby ⟨w.heap.size,rfl,e3⟩ zf0))
 refine Go.wpIn_mono (zqs hX (fun _ _ _ _=>trivial) rfl x2 x3 e β _ w1 (hsim _ ?_ ?_ ?_ ?_ ?_)) ?_
 ·simp
 ·rfl
 ·simp[zN,qF]
 ·simp[zN,qF]
 ·simp[zN,qF]
 ·rintro en a' w' ⟨σ',β',h1,rfl,hf⟩;have h6:=h1.fit hf (zk _);have hblk:∀ i,i < 3->zah (β' i)=some (fixR g2 g3 w.heap.size i):=fun i hi=>(h6.fix.2 i hi).1;obtain⟨k3,c3,y3,q4,_,q5,q6⟩:=h6.own 0 _ rfl;obtain⟨k4,c4,y4,q7,_,q8,q9⟩:=h6.own 1 _ rfl;have e0:=hblk 0 (by omega);have e1:=hblk 1 (by omega);rw[q4]at e0;rw[q7]at e1;have f0:k3=g2:=by simpa [zah,fixR] using e0
  have f1:k4=g3:=by simpa [zah,fixR] using e1
  subst f0;subst f1;have q6:c3=[.int .i64 e.1]:=q6;have q9:c4=[.int .i64 e.2]:=q9;subst q6;subst q9;refine⟨h6.df,_,rfl,_,results_none rfl _ _ _,⟨_,rfl⟩,rfl,⟨h6.bel.os.trans hbA.os,h6.bel.tape.trans hbA.tape,h6.bel.output.trans hbA.output,zE hbA.size h6.bel.size,fun k hk hn=>(h6.bel.block k (Nat.lt_of_lt_of_le hk hbA.size) fun hr=>?_).trans (hbA.block k hk)⟩,⟨_,q5⟩,⟨_,q8⟩⟩;rcases hR k hr with h|h|h
  ·exact hn (.inl h)
  ·exact hn (.inr h)
  ·omega
theorem zaY {W:zj} {B:Nat} {v:zh} {t:zp} (h:W.heap[B]? =some (.cells #[v] t (0,0))):W.cell? ⟨B,0,none⟩=some v∧W.frozen? ⟨B,0,none⟩=false:=by
 constructor<;>simp[xB,World.frozen?,h]
theorem ze1 {W:zj} {B:Nat} {v:zh} {t:zp} (v':zh) (h:W.heap[B]? =some (.cells #[v] t (0,0))):(W.setCell ⟨B,0,none⟩ v').heap[B]? =some (.cells #[v'] t (0,0)):=by
 obtain⟨hlt,hk⟩:=zo.1 h;show (W.heap.modify B _)[B]? =_;rw[yj (by rw[kg];exact hlt),vY,hk];rfl
theorem zdu {R:Nat->Prop} (W:zj) (g:Nat) (v:zh) (hR:R g):Kept R W (W.setCell ⟨g,0,none⟩ v):=
 ⟨rfl,rfl,rfl,by simp[World.setCell],fun k _ hn=>xp W ⟨g,0,none⟩ v k fun e=>hn (by rw[e];exact hR)⟩
theorem mkF (fn:Fn) (first cap:Array zh) (w:zj):(Instr.makeFunc fn first cap).run Tryz.prog w= .ok (.func fn first cap) w:=rfl
theorem zaT {w:zj} (o:Obj) {k:Nat} {x:Obj} (h:w.heap[k]? =some x):(w.alloc o).heap[k]? =some x:=((za2 w o).block _ (zo.1 h).1).trans h
theorem zbN {w:zj} (o:Obj) {k:Nat} (h:w.heap.size=k):(w.alloc o).heap[k]? =some o:=by subst h;exact xn _ _
def rdfn (N:Nat):Deferred:={ target:=.fn (.func 78) #[.pointer (some ⟨N,0,none⟩),.pointer (some ⟨N+1,0,none⟩)],args:=#[] }
theorem zg4 (N:Nat) (w:zj):(invoke (rdfn N).target (rdfn N).args).run Tryz.prog w= .ok (.enter 78 #[.pointer (some ⟨N,0,none⟩),.pointer (some ⟨N+1,0,none⟩)]) w:=by
 have eg:=Tryz.call78;simp[invoke,rdfn,go_sem,eg]
def runW (w:zj):zj:=(w.alloc (.cells #[.int .i64 0] 3)).alloc (.cells #[.int .i64 0] 25)
theorem zog (w:zj):(runW w).heap.size=w.heap.size+2:=by simp[runW]
theorem zmZ (w:zj):yO w.heap.size w (runW w):=((zO _ w).alloc (zk _) _).alloc (by simp) _
def runE:Except (Int×Int) Unit->Int×Int
 | .ok _=>(0,0)
 | .error e=>e
theorem zod {tmps:Array zh} {g2 g3:Nat} {W:zj} {x y:Int} {t2 t3:zp} (h2:tmps.getD 2 undef= .pointer (some ⟨g2,0,none⟩)) (h3:tmps.getD 3 undef= .pointer (some ⟨g3,0,none⟩))
  (c2:W.heap[g2]? =some (.cells #[.int .i64 x] t2 (0,0))) (c3:W.heap[g3]? =some (.cells #[.int .i64 y] t3 (0,0))):
  (results Tryz.f43 tmps).run Tryz.prog W= .ok (.tuple #[.int .i64 x,.int .i64 y]) W:=by
 have d2:=(zaY c2).1;have d3:=(zaY c3).1;rw[zN]at h2 h3;simp[results,Tryz.f43,go_sem,h2,h3,d2,d3]
section
variable {W:zj} {tmps:Array zh} {N:Nat} {x y:Int} {t2 t3:zp} {R:Ending->zj->Prop}
theorem zqw (h2:tmps.getD 2 undef= .pointer (some ⟨N,0,none⟩)) (h3:tmps.getD 3 undef= .pointer (some ⟨N+1,0,none⟩)) (c2:W.heap[N]? =some (.cells #[.int .i64 x] t2 (0,0))) (c3:W.heap[N+1]? =some (.cells #[.int .i64 y] t3 (0,0)))
  (hr:∀ w3,Kept (fun g=>g=N∨g=N+1) W w3->R (.returned (.tuple #[.int .i64 x,.int .i64 y])) w3):LeavesInM yA 1 Tryz.prog Tryz.f43 tmps R [rdfn N] .returning W:=by
 refine⟨(by intro h;cases h),.inr ⟨fun _=>zk _,_,_,_,_,rfl,zg4 N _,fun _ _=>trivial,?_⟩⟩;refine (zoh N (N+1) _).mono ?_;rintro e u' w3 ⟨⟨v,rfl⟩,rfl,hb3⟩;have hl:∀ g (o:Obj),W.heap[g]? =some o->w3.heap[g]? =some o:=fun g o hg=>(hb3.block g (zo.1 hg).1).trans hg;exact⟨_,zod h2 h3 (hl _ _ c2) (hl _ _ c3),hr _ ⟨hb3.os,hb3.tape,hb3.output,hb3.size,fun k hk _=>hb3.block k hk⟩⟩
theorem zqx {er:Int×Int} (h2:tmps.getD 2 undef= .pointer (some ⟨N,0,none⟩)) (h3:tmps.getD 3 undef= .pointer (some ⟨N+1,0,none⟩)) (c2:W.heap[N]? =some (.cells #[.int .i64 x] t2 (0,0))) (c3:W.heap[N+1]? =some (.cells #[.int .i64 y] t3 (0,0)))
  (hr:∀ w3,Kept (fun g=>g=N∨g=N+1) W w3->R (.returned (.tuple #[.int .i64 er.1,.int .i64 er.2])) w3):LeavesInM yA 1 Tryz.prog Tryz.f43 tmps R [rdfn N] (.panicking [{ v:=pvS er,recovered:=false }]) W:=by
 refine⟨(by intro h;cases h),.inr ⟨fun _=>zk _,_,_,_,_,rfl,zg4 N _,fun _ _=>trivial,?_⟩⟩;refine (zqr N (N+1) er x y t2 t3 _ c2 c3 (by omega)).mono ?_;rintro en u' w3 ⟨⟨v,rfl⟩,rfl,hk3,s2,s3,d2,d3⟩;exact⟨_,zod h2 h3 d2 d3,hr _ hk3⟩
end
set_option maxHeartbeats 1000000 in
theorem zoe {w:zj} {f:zP} {caps:Array zh} {R:Except (Int×Int) Unit->zj->Prop} (hen:∀ w,(callFunc f caps).run Tryz.prog w= .ok (.enter f caps) w)
  (hcall:Calls Tryz.prog f caps (runW w) fun e w'=>(runW w).heap.size≤w'.heap.size∧w'.heap[w.heap.size]? =(runW w).heap[w.heap.size]? ∧w'.heap[w.heap.size+1]? =(runW w).heap[w.heap.size+1]? ∧((∃ v,e= .returned v∧R (.ok ()) w')∨∃ er,e= .panicked [{ v:=pvS er,recovered:=false }]∧R (.error er) w')):
  Calls Tryz.prog 43 #[.func (.func f) #[] caps] w fun e w''=>∃ r w',R r w'∧(runW w).heap.size≤w'.heap.size∧Kept (fun g=>g=w.heap.size∨g=w.heap.size+1) w' w''∧e= .returned (.tuple #[.int .i64 (runE r).1,.int .i64 (runE r).2]):=by
 refine callsIn_wide.1 (zeV (m:=1) Tryz.func43 rfl ?_);simp only[Tryz.ntmps43,List.size_toArray,zt,List.length_nil,Nat.reduceAdd,Nat.reduceSub,Array.replicate_succ,Array.replicate_zero,List.push_toArray,List.append_toArray,List.nil_append,List.cons_append];generalize hQ:bodyPostM yA 1 Tryz.prog Tryz.f43 _=Q;have hmf:=mkF;refine zb9 (zcg (m:=1) ?_)
 gi_wp2
 refine zb9 (zcg (m:=1) ?_)
 gi_wp2
 refine zb9 (zcg (m:=1) ?_)
 gi_wp2
 refine⟨trivial,(callsIn_wide.2 hcall).mono ?_⟩;rintro e w' ⟨hsz,hb0,hb1,⟨v,rfl,hR⟩|⟨er,rfl,hR⟩⟩
 ·have c0:w'.heap[w.heap.size]? =some (.cells #[.int .i64 0] 3 (0,0)):=hb0.trans (zaT _ (zbN _ rfl));have c1:w'.heap[w.heap.size+1]? =some (.cells #[.int .i64 0] 25 (0,0)):=hb1.trans (zbN _ (by simp));have d0:=zaY c0;have d1:=zaY ((xp w' ⟨w.heap.size,0,none⟩ (.int .i64 0) (w.heap.size+1) (by show w.heap.size+1≠w.heap.size;omega)).trans c1)
  gi_wp2
  refine zb9 (zcg (m:=1) ?_)
  gi_wp2
  have f0:=ze1 (.int .i64 0) c0;have f1:=(xp w' ⟨w.heap.size,0,none⟩ (.int .i64 0) (w.heap.size+1) (by show w.heap.size+1≠w.heap.size;omega)).trans c1;have f2:=ze1 (.int .i64 0) f1;have f3:=(xp (w'.setCell ⟨w.heap.size,0,none⟩ (.int .i64 0)) ⟨w.heap.size+1,0,none⟩ (.int .i64 0) w.heap.size (by show w.heap.size≠w.heap.size+1;omega)).trans f0;have k1:=zdu (R:=fun g=>g=w.heap.size∨g=w.heap.size+1) w' w.heap.size (.int .i64 0) (.inl rfl);have k2:=zdu (R:=fun g=>g=w.heap.size∨g=w.heap.size+1) (w'.setCell ⟨w.heap.size,0,none⟩ (.int .i64 0)) (w.heap.size+1) (.int .i64 0) (.inr rfl);refine zcg (m:=1) (wpIn_ret ?_);rw[<-hQ];refine zqw rfl rfl f3 f2 fun w3 hk=>⟨.ok (),w',hR,hsz,?_,rfl⟩;exact (k1.trans k2).trans hk
 ·have c0:w'.heap[w.heap.size]? =some (.cells #[.int .i64 0] 3 (0,0)):=hb0.trans (zaT _ (zbN _ rfl));have c1:w'.heap[w.heap.size+1]? =some (.cells #[.int .i64 0] 25 (0,0)):=hb1.trans (zbN _ (by simp));rw[<-hQ];exact zqx rfl rfl c0 c1 fun w3 hk=>⟨.error er,w',hR,hsz,hk,rfl⟩
end
abbrev tupI:Ty:=.tup i64 (.tup i64 .unit)
section
variable {w0:zj} {X:Ownr} {n m K:Nat} {Q:Exit->AS->Prop} {ops:Array Oper} {F:yv} {E:Owns} {nx:Nat}
theorem AL.runClo (hX:X.Ok w0) (K:Nat) {o1 o2:Oper} {rest:List Oper} {f:zP} {fn:Func} {c:Code} {x0 x1:zG} {d1 d2:Nat} {ts:Array zp} (ho1:o1.op= .makeFunc (.func f) #[] #[x0,x1]) (ho2:o2.op= .call ⟨.value (.func 43),#[.tmp d1],ts⟩)
  (hg1:o1.guard=none) (hg2:o2.guard=none) (hd1:o1.dst=some d1) (hd2:o2.dst=some d2) (hn1:zU d1 n=true) (hn2:zU d2 n=true) (hb:zeX E K=true) (hKn:qe K nx=true) (hK:X.K≤K)
  (hf:Tryz.prog.funcs[f]? =some fn) (hbd:fn.body=some c) (hn:fn.ntmps=m) (hres:fn.results= #[]) (hm:qe 2 m=true) (hen:∀ (vs:Array zh) (w:zj),(callFunc f vs).run Tryz.prog w= .ok (.enter f vs) w) {v0 v1:V} (hv0:evO F x0=v0) (hv1:evO F x1=v1) (hbF:bndB nx [(0,v0),(1,v1)]=true) {N:Except (Int×Int) Unit->AS->Prop}
  (hw:∀ (w1:zj) (X':Ownr),X'.Ok w1->X'.G=X.G->X'.K=K->X'.ρ=none->X'.D=[]->(∀ g,X'.R g->w0.heap.size≤g∨X.R g)->AWP Tryz.prog w1 X' m c ⟨[(0,v0),(1,v1)],E,nx⟩ (fun e σ=>((e= .normal∨e= .ret)∧N (.ok ()) σ)∨∃ er,e= .panic [{ v:=pvS er,recovered:=false }]∧N (.error er) σ))
  (h:∀ r σ,N r σ->AL Tryz.prog w0 X n ops rest ⟨(d2,⟨tupI,((runE r).1,(runE r).2,())⟩)::(d1,⟨.junk,()⟩)::zhu K F,σ.E,σ.nx⟩ Q):AL Tryz.prog w0 X n ops (o1::o2::rest) ⟨F,E,nx⟩ Q:=by
 intro β a w hs;have hl1:d1 < n:=by simpa using hn1
 have hl2:d2 < n:=by simpa using hn2
 have hsz:=hs.sz;refine wpListIn_plain hg1 fun K1 hK1=>zcp (fun c e=>by rw[ho1]at e;cases e) ?_;have hr1:(execOp a.eval o1).run Tryz.prog w= .ok (.value (.func (.func f) #[] #[a.eval x0,a.eval x1])) w:=by
  unfold execOp;simp only[ho1];refine zee ?_;simp[Instr.makeFunc]
 refine zbx hr1 (hK1 _ _ ?_);rw[hd1];refine wpListIn_plain hg2 fun K2 hK2=>zcp (fun c e=>by rw[ho2]at e;cases e) ?_;refine zgF ho2 Tryz.call43 ?_;have hc:((#[uW d1]:Array zG).toList.map (a.put (some d1) (.func (.func f) #[] #[a.eval x0,a.eval x1])).eval).toArray= #[.func (.func f) #[] #[a.eval x0,a.eval x1]]:=by
  have:(a.put (some d1) (.func (.func f) #[] #[a.eval x0,a.eval x1])).eval (.tmp d1)= .func (.func f) #[] #[a.eval x0,a.eval x1]:=by
   show (a.put (some d1) _).tmps.getD d1 undef=_;rw[Act.put_get (by rw[hsz];exact hl1),if_pos rfl]
  rw[qt,this];rfl
 rw[hc];have hws:=zog w;have hfr:∀ s,RepV w (OSet X E β) β (zn [(0,v0),(1,v1)] s).t (zn [(0,v0),(1,v1)] s).x (((#[a.eval x0,a.eval x1]:Array zh)++zx (m - (#[a.eval x0,a.eval x1]:Array zh).size) undef).getD s undef):=by
  refine zby ?_ (zby ?_ zf0)
  ·have:=hs.ops x0;rw[show evO (AS.mk F E nx).F x0=_ from hv0]at this
   simpa [zN,qF] using this
  ·have:=hs.ops x1;rw[show evO (AS.mk F E nx).F x1=_ from hv1]at this
   simpa [zN,qF] using this
 have hin:=Sim.inl (K:=K) (m:=m) (w1:=runW w) (ex:=fun g=>g=w.heap.size∨g=w.heap.size+1) hs hX (zmZ w) (fun g hg=>by omega) hb (zb hKn) hK hf hbd hn hres (caps:=#[a.eval x0,a.eval x1]) (by show 2≤m;exact zb hm) hfr hbF (Q:=fun e σ=>((e= .normal∨e= .ret)∧N (.ok ()) σ)∨∃ er,e= .panic [{ v:=pvS er,recovered:=false }]∧N (.error er) σ)
  (fun e σ hq=>by
    rcases hq with ⟨rfl|rfl,_⟩|⟨er,rfl,_⟩
    ·exact .inl rfl
    ·exact .inr (.inl rfl)
    ·exact .inr (.inr ⟨_,rfl⟩)) (fun X' h1 h2 h3 h4 h5 h6=>hw _ X' h1 h2 h3 h4 h5 h6)
 let R:Except (Int×Int) Unit->zj->Prop:=fun r w'=>∃ σ,N r σ∧∀ w'',Kept (fun g=>g=w.heap.size∨g=w.heap.size+1) w' w''->∃ β',Sim w0 X n ⟨zhu K F,σ.E,σ.nx⟩ β' a w''
 refine (zoe (R:=R) (hen _) (hin.mono fun en w' hr=>?_)).mono fun en w'' hr=>?_
 ·obtain⟨h1,h2,e,σ,he,hq,hfin⟩:=hr;refine⟨h1,h2 _ (.inl rfl),h2 _ (.inr rfl),?_⟩;rcases hq with ⟨hq,hN⟩|⟨er,rfl,hN⟩
  ·rcases he with ⟨_,v,rfl⟩|⟨ch,rfl,_⟩
   ·exact .inl ⟨v,rfl,σ,hN,hfin⟩
   ·rcases hq with hq|hq<;>cases hq
  ·rcases he with ⟨hq|hq,_⟩|⟨ch,hq,rfl⟩
   ·cases hq
   ·cases hq
   ·cases hq;exact .inr ⟨er,rfl,σ,hN,hfin⟩
 ·obtain⟨r,w',⟨σ,hN,hfin⟩,hsz2,hk,rfl⟩:=hr;obtain⟨β',h'⟩:=hfin w'' hk;refine⟨_,rfl,hK2 _ _ ?_⟩;rw[hd2];have h2:=h'.put (zO _ _) (d:=d1) (v:=⟨.junk,()⟩) (u:=.func (.func f) #[] #[a.eval x0,a.eval x1]) trivial (zm _) hl1;have h3:=h2.put (zO _ _) (d:=d2) (v:=⟨tupI,((runE r).1,(runE r).2,())⟩) (u:=.tuple #[.int .i64 (runE r).1,.int .i64 (runE r).2]) ⟨[_,_],rfl,_,_,rfl,rfl,_,_,rfl,rfl,rfl⟩ (zm _) hl2;exact h r σ hN β' _ w'' h3
end
theorem zjY (s:List UInt8):zd6 s 0=zaR s:=by
 unfold zd6;rw[show ((0:Int)).toNat=0 from rfl,List.drop_zero];show (zK (zaR s),Tok.at (zaR s)+0,Tok.size (zaR s),zL (zaR s),xX (zaR s),())=zaR s;rw[Int.add_zero];rfl
def zbD (s:List UInt8):List Nd×Int×Int:=if 4000 < s.length then ([],0,2) else match zeU s with
 | .ok t=>(t.flat 0,0,0)
 | .error e=>([],e.1,e.2)
def zpN:Ctr:={ args:=[.str],pre:=fun _=>[],res:=.tup (.slice nd) (.tup i64 (.tup i64 .unit)),own:=none,out:=fun x=>((zbD x.1).1,(zbD x.1).2.1,(zbD x.1).2.2,()) }
def zp2 (s:List UInt8) (r:Except (Int×Int) Unit) (σ:AS):Prop:=(∃ t,zeU s= .ok t∧r= .ok ()∧Fit σ ⟨[],[(0,some (.box .str s)),(1,some (.box (.slice nd) (t.flat 0)))],2⟩)∨∃ er,zeU s= .error er∧r= .error er∧Fit σ ⟨[],[(0,some (.box .str s)),(1,some (.box (.slice nd) []))],2⟩
theorem zhy (s:List UInt8):zeU s=(zeO s (zaR s,0)).map (·.1):=by
 unfold zeU zh6;rw[zjY]
theorem znf {w1:zj} {X:Ownr} {s:List UInt8} (hs:s.length≤4000) (hX:X.Ok w1) (hG:X.G=gmH) (hK:X.K=2) (hρ:X.ρ=none) (hD:X.D=[]) (hinv:∀ ty,ginv w1 X.R ty):
  AWP Tryz.prog w1 X Tryz.f44.ntmps (Tryz.f44.body.getD .skip) ⟨[(0,⟨.optr .str,⟨0,.str,.here⟩⟩),(1,⟨.optr (.slice nd),⟨1,.slice nd,.here⟩⟩)],[(0,some (.box .str s)),(1,some (.box (.slice nd) []))],2⟩ (fun e σ=>((e= .normal∨e= .ret)∧zp2 s (.ok ()) σ)∨∃ er,e= .panic [{ v:=pvS er,recovered:=false }]∧zp2 s (.error er) σ):=by
 obtain⟨G,O,K,fix,D,ρ,B⟩:=X;obtain rfl:G=gmH:=hG;obtain rfl:K=2:=hK;obtain rfl:ρ=none:=hρ;obtain rfl:D=[]:=hD;have hI:=fun ty=>zaJ (ty:=ty) hX rfl (hinv ty) (ty':=ty);have hl:s.length≤100000:=by omega
 (repeat(first|apply zae|apply zab|apply zac|apply zad));refine zai ?_;refine yh 1 hX zak rfl trivial ?_;refine AL.fresh hX zei rfl rfl rfl rfl rfl rfl trivial hl ⟨rfl,rfl⟩ rfl rfl ?_;refine AL.nilLeaf 2 6 73 nd rfl rfl rfl ?_;refine qC (σ':=⟨[(0,⟨.optr .str,⟨0,.str,.here⟩⟩),(1,⟨.optr (.slice nd),⟨1,.slice nd,.here⟩⟩),(3,⟨.hptr,((2:Nat),(0:Nat))⟩)],[(0,some (.box .str s)),(1,some (.box (.slice nd) [])),(2,some (.hbox 139 [⟨.str,s⟩,⟨i64,(zaR s).1⟩,⟨i64,(zaR s).2.1⟩,⟨i64,(zaR s).2.2.1⟩,⟨.str,(zaR s).2.2.2.1⟩,⟨i64,(zaR s).2.2.2.2.1⟩,⟨.obuf nd,(3:Nat)⟩,⟨i64,(0:Int)⟩])),(3,some (.buf 73 nd []))],4⟩) ⟨⟨rfl,rfl,rfl,trivial⟩,⟨rfl,rfl,rfl,rfl,trivial⟩,rfl,rfl⟩ ?_;have hg0:GOk s (zaR s,0):=by
  have:=zgO (s:=s);unfold zh6 at this;rwa[zjY]at this
 have hok:pOk (s,zaR s,[],0,()):=⟨hg0,hl⟩;have hfew:few (s,zaR s,[],0,()):=xC 0;refine AL.give hX zok rfl rfl rfl rfl rfl rfl rfl rfl rfl rfl rfl rfl trivial ⟨hok,hfew⟩ (hI 139) rfl rfl ?_;cases h3:zeO s (zaR s,0) with
 |error er=>
  rw[show zep s (stOf (s,zaR s,[],0,())) []= .error (pvS er) by unfold zep;rw[show stOf (s,zaR s,([]:List Nd),(0:Int),())=(zaR s,0) from rfl,h3];rfl];refine .inr ⟨er,rfl,.inr ⟨er,?_,rfl,trivial,⟨rfl,rfl,trivial⟩,rfl,rfl⟩⟩;rw[zhy,h3];rfl
 |ok p=>
  rw[show zep s (stOf (s,zaR s,[],0,())) []= .ok (p.1.flat 0) by unfold zep;rw[show stOf (s,zaR s,([]:List Nd),(0:Int),())=(zaR s,0) from rfl,h3];rfl];show AL _ _ _ _ _ _ _ _;refine zV hX zak rfl trivial ?_;refine .inl ⟨.inl rfl,.inl ⟨p.1,?_,rfl,trivial,⟨rfl,rfl,trivial⟩,rfl,rfl⟩⟩;rw[zhy,h3];rfl
theorem zl1:yM Tryz.prog gmH 16 zpN:=by
 refine zar (K:=gmK) zak Tryz.func16 rfl rfl Tryz.call16 rfl (by decide) (by intro h;cases h) ?_;rintro w0 O hX ⟨(s:List UInt8),⟨⟩⟩ hp;have hg0:gmH w0:=hX.2.2 w0 (jF _ _);change AWP _ _ _ _ _ ⟨[(0,⟨.str,s⟩)],[],0⟩ _;refine za (za ?_);refine zaa hX zak rfl ?_ ?_
 ·trivial
 refine za (za ?_);refine zaa hX zak rfl ?_ ?_
 ·trivial
 refine zaf rfl (fun hb=>?_) (fun hb=>?_)
 ·have hb:decide (((4000:Nat):Int) < ((s.length:Nat):Int))=true:=hb;have hb:=of_decide_eq_true hb;have hP:zbD s=([],0,2):=if_pos (by omega);(repeat(first|apply zae|apply zab|apply zal|apply zad|apply zac|refine zaa hX zak rfl trivial ?_|refine zaa hX zak rfl id ?_|refine zaa hX zak rfl ⟨id,id⟩ ?_));refine zq ⟨.inr rfl,zbk (by decide) rfl rfl trivial ?_⟩;show _=((zbD s).1,(zbD s).2.1,(zbD s).2.2,());rw[hP]
 have hb:decide (((4000:Nat):Int) < ((s.length:Nat):Int))=false:=hb;have hb:=of_decide_eq_false hb;have hP:zbD s=match zeU s with
  | .ok t=>(t.flat 0,0,0)
  | .error e=>([],e.1,e.2):=if_neg (by omega)
 apply zab;refine za (za ?_);refine zaa hX zak rfl ?_ ?_
 ·trivial
 refine zaq (σ':=⟨[(1,⟨.optr .str,⟨0,.str,.here⟩⟩),(5,⟨.optr (.slice nd),⟨1,.slice nd,.here⟩⟩)],[(0,some (.box .str s)),(1,some (.box (.slice nd) []))],2⟩) ⟨⟨rfl,rfl,trivial⟩,⟨rfl,rfl,trivial⟩,rfl,rfl⟩ ?_;(repeat(first|apply zae|apply zab|apply zac|apply zad));refine zai ?_;refine AL.runClo hX 2 rfl rfl rfl rfl rfl rfl rfl rfl rfl rfl (zm _) Tryz.func44 rfl rfl rfl rfl Tryz.call44 rfl rfl rfl (N:=zp2 s) (fun w1 X' h1 h2 h3 h4 h5 h6=>?_) (fun r σ hN=>?_)
 ·refine znf (by omega) h1 h2 h3 h4 h5 fun ty=>?_;obtain⟨l1,l2⟩:=zmp hg0;refine⟨fun h=>?_,fun h=>?_⟩
  ·rcases h6 _ h with h7|h7
   ·omega
   ·exact jA _ _ _ h7
  ·rcases h6 _ h with h7|h7
   ·omega
   ·exact jA _ _ _ h7
 rcases hN with ⟨t,hN,rfl,hf⟩|⟨er,hN,rfl,hf⟩
 ·skip
  refine qC (σ':=⟨[(13,⟨tupI,((0:Int),(0:Int),())⟩),(1,⟨.optr .str,⟨0,.str,.here⟩⟩),(5,⟨.optr (.slice nd),⟨1,.slice nd,.here⟩⟩)],[(0,some (.box .str s)),(1,some (.box (.slice nd) (t.flat 0)))],2⟩) ⟨⟨rfl,rfl,rfl,trivial⟩,hf.e,rfl,rfl⟩ ?_;refine zV hX zak rfl trivial ?_;(repeat(first|apply zae|apply zab|apply zal|apply zad|apply zac|refine zaa hX zak rfl trivial ?_|refine zaa hX zak rfl id ?_|refine zaa hX zak rfl ⟨id,id⟩ ?_));refine zq ⟨.inr rfl,zbk (by decide) rfl rfl trivial ?_⟩;show _=((zbD s).1,(zbD s).2.1,(zbD s).2.2,());rw[hP,hN]
 ·skip
  refine qC (σ':=⟨[(13,⟨tupI,(er.1,er.2,())⟩),(1,⟨.optr .str,⟨0,.str,.here⟩⟩),(5,⟨.optr (.slice nd),⟨1,.slice nd,.here⟩⟩)],[(0,some (.box .str s)),(1,some (.box (.slice nd) []))],2⟩) ⟨⟨rfl,rfl,rfl,trivial⟩,hf.e,rfl,rfl⟩ ?_;refine zV hX zak rfl trivial ?_;(repeat(first|apply zae|apply zab|apply zal|apply zad|apply zac|refine zaa hX zak rfl trivial ?_|refine zaa hX zak rfl id ?_|refine zaa hX zak rfl ⟨id,id⟩ ?_));refine zq ⟨.inr rfl,zbk (by decide) rfl rfl trivial ?_⟩;show _=((zbD s).1,(zbD s).2.1,(zbD s).2.2,());rw[hP,hN]
theorem znD (w:zj) (q:Nat) (os:Array Obj):yO w.heap.size w (Sort.grow (w.drewN q) os):=
 ⟨rfl,rfl,rfl,by show w.heap.size≤(w.heap++os).size;rw[Array.size_append];omega,fun i hi=>by
   show (w.heap++os)[i]? =_;rw[Array.getElem?_append_left hi]⟩
abbrev deI (n:Int):List UInt8:=Lib.itoa n
theorem zfN (k:Nat):∀ n,n < 10 ^ (k+1)->(yq n).length≤k+1:=by
 induction k with
 |zero=>
  intro n h;rw[yq];by_cases hn:n < 10
  ·rw[dif_pos hn];exact zk _
  ·exact absurd (by simpa using h) hn
 |succ k ih=>
  intro n h;rw[yq];by_cases hn:n < 10
  ·rw[dif_pos hn];simp
  ·rw[dif_neg hn,zf];have:=ih (n / 10) (by rw[Nat.pow_succ]at h;omega);simp only[List.length_singleton];omega
theorem zet {n:Int} (h0: -100000000000000000 < n) (h1:n < 100000000000000000):(deI n).length≤18:=by
 unfold deI Lib.itoa;have e:(10:Nat) ^ (16+1)=100000000000000000:=by decide
 split
 ·rw[zt];have:=zfN 16 n.natAbs (by rw[e];omega);omega
 ·have:=zfN 16 n.toNat (by rw[e];omega);omega
def zb1 (n:Int):Prop:=-100000000000000000 < n∧n < 100000000000000000
def cItoa:Ctr:={ args:=[i64],pre:=fun x=>[zb1 x.1],res:=.str,own:=none,out:=fun x=>deI x.1 }
theorem zs8:yM Tryz.prog gmH 149 cItoa:=by
 refine⟨Tryz.call149,fun w O xs vs hO hr hp hG=>?_⟩;obtain⟨(n:Int),_⟩:=xs;obtain⟨v1,r1,rfl,e1,rfl⟩:=hr;have e1: [v1]=[yF .i64 n]:=e1;cases e1;obtain⟨h0,h1⟩: -100000000000000000 < n∧n < 100000000000000000:=hp;refine (Any.strconv_Itoa Tryz.laysM171 n (by omega) (by omega) w hG.1).mono ?_;rintro e w' ⟨rfl,k,os,rfl⟩;refine⟨_,rfl,znD w k os,fun β=>⟨rfl,?_⟩⟩;have:=zet h0 h1;show (deI n).length≤maxLen;unfold maxLen;omega
def levS (k:Int):Int:=if k=9 then 1 else if k=10 then 2 else if k=8 then 3 else if 11≤k∧k≤17 then 4 else 5
def zsa:Ctr:={ args:=[i64],pre:=fun _=>[],res:=i64,own:=none,out:=fun x=>levS x.1 }
def opKd (i:Nat):Int:=(opsL.getD i ([],0,())).2.1
end Go.Proofs.YtpeaigpfddalcaaGreatDoor
