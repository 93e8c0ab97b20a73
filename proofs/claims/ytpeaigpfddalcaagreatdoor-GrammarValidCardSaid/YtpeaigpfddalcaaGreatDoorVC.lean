/-
  Texts of this claim, joined: what the statement's proof uses.
-/
import Derived.Test.YtpeaigpfddalcaaGreatDoorVB
set_option linter.unusedSimpArgs false
set_option linter.unusedVariables false
set_option maxRecDepth 100000
open Array renaming getD_eq_getD_getElem? -> zP,getElem?_append -> qA,getElem?_eq_getElem -> yo,getElem?_eq_some_iff -> zm,getElem_modify_self -> vH,replicate -> zw,size_modify -> vP
open Bool renaming and_eq_true -> zb,eq_iff_iff -> yz,false_eq_true -> yi
open Go renaming FuncId -> zS,Operand -> zF,Program -> zx,ResultVar -> qe,TypeId -> zo,Value -> zg,World -> zi
open Go.ByteArray renaming toList_eq -> xC
open Go.Calls renaming mono -> km
open Go.Deferred renaming ofValue -> jY
open Go.Exit renaming thenS -> j0
open Go.Fence renaming wide -> yn
open Go.Instr renaming extract -> jE,lookup -> kn,makeInterface -> kE
open Go.Lib renaming byteCells -> kJ,decDigits -> xu,indexByte -> xd,parseUintM -> ky
open Go.Operand renaming tmp -> kz
open Go.Proofs.YtpeaigpfddalcaaGreatDoor renaming CtrOk -> yM,Frame -> yg,Keeps -> xf,StepA -> vN
open Go.Proofs.YtpeaigpfddalcaaGreatDoor.AL renaming all -> zW,fit -> jb,hand -> qq,nil -> z6,own -> yc,step -> jy,take -> yA
open Go.Proofs.YtpeaigpfddalcaaGreatDoor.AWP renaming go -> za,loop -> yB,ret -> zq
open Go.Proofs.YtpeaigpfddalcaaGreatDoor.Frame renaming get -> zn,kill -> xk
open Go.Proofs.YtpeaigpfddalcaaGreatDoor.Kept renaming refl -> jM
open Go.Proofs.YtpeaigpfddalcaaGreatDoor.OpEq renaming refl -> xA
open Go.Proofs.YtpeaigpfddalcaaGreatDoor.Owns renaming get -> zj
open Go.Proofs.YtpeaigpfddalcaaGreatDoor.RepV renaming keep -> yd
open Go.Proofs.YtpeaigpfddalcaaGreatDoor.StepA renaming hand -> jZ
open Go.Proofs.YtpeaigpfddalcaaGreatDoor.Tok renaming cls -> zB,n -> xO,text -> zE
open Go.Region renaming wanted -> zG
open Go.RowKit renaming Below -> yJ
open Go.RowKit.Below renaming heap_setCell -> xo,refl -> zO
open Go.Value renaming int -> yl,pointer -> yL,string -> qY
open Go.World renaming alloc_heap_new -> xm,cell? -> xD,freeze -> qJ,var? -> uH
open Int renaming le_refl -> qN,natCast_nonneg -> zu,toNat_natCast -> zL
open List renaming append_assoc -> zr,append_nil -> zJ,drop -> jt,getElem?_map -> yj,length -> zd,length_append -> zh,length_cons -> zs,length_drop -> yX,length_take -> ym,map_cons -> qt,mem_cons_of_mem -> yO,mem_cons_self -> z8,mem_singleton -> zv,singleton_inj -> vB,takeWhile_cons -> xQ,takeWhile_prefix -> xT
open Nat renaming ble -> qm,blt -> zU,le_of_ble_eq_true -> zf,le_refl -> zk,le_trans -> zQ,lt_succ_self -> xw,not_lt_zero -> xp,zero_le -> zl
open Option renaming bind_some -> jv,map_eq_some_iff -> zK
open Option.some renaming inj -> zN
open UInt8 renaming le_iff_toNat_le -> yS,toNat_inj -> qD
open Go Go.RowKit
namespace Go.Proofs.YtpeaigpfddalcaaGreatDoor
section
variable {P:zx} {K:Kn} {w0:zi} {X:Ownr} {n:Nat} {σ:AS} {Q:Exit->AS->Prop} {ops:Array Oper}
theorem AL.step1 {o:Oper} {rest:List Oper} (hnd:∀ c,o.op≠ .defer c) (h:vN P w0 X n ops o σ (fun s=>AL P w0 X n ops rest s Q) Q):AL P w0 X n ops (o::rest) σ Q:=by
 intro β a w hsim;have h0:=h β a w (fun a' w'=>wpListIn (zd0 X.ρ) 0 P ops (fun e a' w'=>e≠ .outgrown∧∃ σ' β',Sim w0 X n σ' β' a' w'∧Q e σ') rest a' w') (fun e a' w'=>e≠ .outgrown∧∃ σ' β',Sim w0 X n σ' β' a' w'∧Q e σ') hsim (fun σ' β' a' w' hs hN=>hN β' a' w' hs) (fun e σ' β' a' w' he hs hq=>⟨he,σ',β',hs,hq⟩);show if zG o (yielded ops a.tmps)=true then _ else _
 split at h0
 ·rename_i hw;rw[if_pos hw];rcases h0 with h0|⟨_,_,_,h0,_⟩
  ·exact zch hnd h0
  ·exact absurd rfl h0
 ·rename_i hw;rw[if_neg hw];exact⟨fun f _=>zeP _ f,h0⟩
theorem StepA.fresh (hX:X.Ok w0) {o:Oper} {f:zS} {c:FCtr} (hc:zmh P X.G f c) {args:Array zF} {ts:Array zo} (ho:o.op= .call ⟨.value (.func f),args,ts⟩) {zas:List zF} (hargs:args.toList=zas) (hgd:o.guard=none)
  {F:yg} {E:Owns} {nx:Nat} (hσ:frzs σ zas=⟨F,E,nx⟩) (hd:za4 c.args=true) {q:List Prop} {xs:Args c.args} (hav:zeh E false (zas.map (evO F)) c.args=some (q,xs)) (hq:allP q) (hpre:allP (c.pre xs))
  (hbare:(c.obj xs).bare=true∧(c.obj xs).isBuf=false) {d:Nat} (hdst:o.dst=some d) (hdn:zU d n=true) {N:AS->Prop} (h:N ⟨(d,zpV nx (c.obj xs))::F,(nx,some (c.obj xs))::E,nx+1⟩):vN P w0 X n ops o σ N Q:=by
 refine jZ hgd fun β a w hs=>?_;have h1:=hs.frzs hX zas;rw[hσ]at h1;obtain⟨hen,hcall⟩:=hc;have hvs:RepVs w (OSet X E β) β (zas.map (evO F)) (zas.map a.eval):=by
  refine⟨by simp,fun i v hv=>?_⟩;rw[yj]at hv;obtain⟨z,hz,rfl⟩:=zK.1 hv;exact⟨a.eval z,by rw[yj,hz];rfl,h1.ops z⟩
 have ha:=zdF (B:=0) h1.own hd hav hq hvs.2 hvs.1;have ha:RepA w (OSet X E β) c.args xs (zas.map a.eval):=by
  have e:(fun k=>false=false∧OSet X E β k)=OSet X E β:=by funext k;simp
  rwa[e]at ha
 refine zgi ho hen ?_;rw[hargs];refine (hcall w _ xs _ (fun k hk=>h1.hO hX k hk) ha hpre (hX.2.2 w h1.bel)).mono fun e w' ⟨g,he,hb,hng,hown⟩=>?_;refine⟨_,he,?_⟩;have hlt:d < n:=by simpa using hdn
 rw[hdst];obtain⟨β',h2⟩:=h1.make hX hb (bv:=.pointer (some ⟨g,0,none⟩)) (o:=c.obj xs) (fun O β' hO=>hown O β' fun k hk=>(hO k hk).imp id fun e=>(zN e).symm) (fun k hk=>by
  have:g=k:=by simpa [zah] using hk
  omega) (v:=zpV nx (c.obj xs)) (u:=.pointer (some ⟨g,0,none⟩)) (fun O β' hβ=>by
   have hbg:zah (β' nx)=some g:=by rw[show β' nx=_ from hβ];rfl
   cases ho:c.obj xs with
   |buf te t ys=>have:=hbare.2;rw[ho]at this;cases this
   |box t x=>exact⟨g,hbg,rfl⟩
   |hbox ty ys=>exact⟨g,hbg,rfl⟩) (by
   cases ho:c.obj xs with
   |buf te t ys=>have:=hbare.2;rw[ho]at this;cases this
   |box t x=>exact zk _
   |hbox ty ys=>exact zk _) hlt (OObj.bare_under hbare.1 _)
 exact⟨_,β',h2,h⟩
theorem AL.fresh (hX:X.Ok w0) {o:Oper} {rest:List Oper} {f:zS} {c:FCtr} (hc:zmh P X.G f c) {args:Array zF} {ts:Array zo} (ho:o.op= .call ⟨.value (.func f),args,ts⟩) {zas:List zF} (hargs:args.toList=zas) (hgd:o.guard=none)
  {F:yg} {E:Owns} {nx:Nat} (hσ:frzs σ zas=⟨F,E,nx⟩) (hd:za4 c.args=true) {q:List Prop} {xs:Args c.args} (hav:zeh E false (zas.map (evO F)) c.args=some (q,xs)) (hq:allP q) (hpre:allP (c.pre xs))
  (hbare:(c.obj xs).bare=true∧(c.obj xs).isBuf=false) {d:Nat} (hdst:o.dst=some d) (hdn:zU d n=true) (h:AL P w0 X n ops rest ⟨(d,zpV nx (c.obj xs))::F,(nx,some (c.obj xs))::E,nx+1⟩ Q):AL P w0 X n ops (o::rest) σ Q:=
 AL.step1 (fun c e=>by rw[ho]at e;cases e) (StepA.fresh hX hc ho hargs hgd hσ hd hav hq hpre hbare hdst hdn h)
end
def LEnd (c:HCtr) (w w':zi) (O:Nat->Prop) (e:Ending):Except zg c.res.T->Prop
 | .ok y=>∃ v,e= .returned v∧(c.res= .unit∨zdi w' O w.heap.size none c.res y v)
 | .error pv=>e= .panicked [{ v:=pv,recovered:=false }]
def zfw (P:zx) (G:zi->Prop) (f:zS) (c:HCtr) (out:c.self.T->Args c.args->Except zg c.res.T):Prop:=
 (∀ (zas:Array zg) (w:zi),(callFunc f zas).run P w= .ok (.enter f zas) w)∧c.law∧
 ∀ (w:zi) (O:Nat->Prop) (g:Nat) (cs:List zg) (ty:zo) (x:c.self.T) (xs:Args c.args) (vs:List zg) (b:zg),(∀ h,O h->h < w.heap.size∧h≠g∧zah b≠some h)->zah b≠some g->w.heap[g]? =some (.cells cs.toArray ty (0,0))->
  RepH w (zbK O g b) (zcU g b) (c.lv 0 1 x) cs->OwnRep w (zbK O g b) (zcU g b) 0 b (.buf c.te c.et (c.sl x))->RepA w (zbK O g b) c.args xs vs->allP (c.pre x xs)->c.inv w (fun h=>h=g∨zah b=some h) ty->G w->
  Calls P f (yL (some ⟨g,0,none⟩)::vs).toArray w fun e w'=>Kept (fun h=>h=g∨zah b=some h) w w'∧LEnd c w w' O e (out x xs)
def LDone (T:Tbl) (rs:List qe) (t:Ty) (e:Exit) (σ:AS):Except zg t.T->Prop
 | .ok y=>(e= .normal∨e= .ret)∧Done T rs ⟨σ.F,zfc [] σ.E,σ.nx⟩ none t y
 | .error pv=>e= .panic [{ v:=pv,recovered:=false }]
section
variable {P:zx} {K:Kn} {n:Nat}
theorem zg5 {G:zi->Prop} (hK:KnOk P G K) {f:zS} {fn:Func} {c:Code} {ctr:HCtr} {out:ctr.self.T->Args ctr.args->Except zg ctr.res.T} (hf:P.funcs[f]? =some fn) (hb:fn.body=some c) (hn:fn.ntmps=n) (hlaw:ctr.law)
  (hen:∀ (zas:Array zg) (w:zi),(callFunc f zas).run P w= .ok (.enter f zas) w) (hd:za4 ctr.args=true) (hlen:ctr.args.length+1≤n) (hst:∀ w w' R ty,ctr.inv w R ty->G w->Kept R w w'->G w')
  (h:∀ (w0:zi) (X:Ownr) (ty:zo),X.Ok w0->X.G=G->X.K=1->X.ρ=none->X.D=[]->ctr.inv w0 X.R ty->∀ (x:ctr.self.T) (xs:Args ctr.args),allP (ctr.pre x xs)->
    AWP P w0 X n c (zjY ctr ty x xs) (fun e σ=>LDone K.T fn.results.toList ctr.res e σ (out x xs))):zfw P G f ctr out:=by
 refine⟨hen,hlaw,fun w O g cs ty x xs vs b hO hgb hg hx hbuf hrep hp hinv hG=>calls_of_wp hf hb ?_⟩;obtain⟨X,hXd,hX,hXR,hsim⟩:=zsi (ctr:=ctr) (G:=G) hn hlaw hd hlen hst hO hgb hg hx hbuf hrep hinv hG;have hXX:X.X=O:=by rw[hXd]
 have hinv':ctr.inv w X.R ty:=by
  rw[show X.R=fun h=>h=g∨zah b=some h from funext fun h=>propext (hXR h)];exact hinv
 have hw:=h w X ty hX (by rw[hXd]) (by rw[hXd]) (by rw[hXd]) (by rw[hXd]) hinv' x xs hp _ _ _ hsim;rw[show X.ρ=none by rw[hXd]]at hw;refine wp_mono (wpIn_wide.1 hw) fun e a' w' ⟨σ',β',h1,h2⟩=>?_;have hbk:Kept (fun h=>h=g∨zah b=some h) w w':=⟨h1.bel.os,h1.bel.tape,h1.bel.output,h1.bel.size,fun k hk hr=>h1.bel.block k hk fun hr'=>hr ((hXR k).1 hr')⟩;have hdf:a'.defers=[]:=by rw[h1.df,hXd]
 revert h2;cases ho:out x xs with
 |error pv=>
  rintro rfl;exact⟨hdf,hbk,rfl⟩
 |ok y=>
  rintro ⟨h2,h3⟩;obtain⟨v,h4,h5⟩:=zkf (X:=X) (by rw[show X.G=G by rw[hXd]];exact hK) hX h1 [] h3 (O':=O) (fun k hk=>.inl (by rw[hXX];exact hk));rcases h2 with rfl|rfl
  ·exact⟨hdf,v,h4,hbk,v,rfl,h5⟩
  ·exact⟨hdf,v,h4,hbk,v,rfl,h5⟩
end
section
variable {P:zx} {K:Kn} {w0:zi} {X:Ownr} {n:Nat} {σ:AS} {Q:Exit->AS->Prop} {ops:Array Oper}
theorem StepA.give (hX:X.Ok w0) {o:Oper} {f:zS} {c:HCtr} {out:c.self.T->Args c.args->Except zg c.res.T} (hc:zfw P X.G f c out) {args:Array zF} {ts:Array zo} {a0:zF} {zas:List zF} (ho:o.op= .call ⟨.value (.func f),args,ts⟩) (hargs:args.toList=a0::zas) (hgd:o.guard=none)
  {F:yg} {E:Owns} {nx:Nat} (hσ:frzs σ zas=⟨F,E,nx⟩) {i:Nat} (hev:evO F a0=⟨.hptr,(i,(0:Nat))⟩) {ty:zo} {vs:List V} (hbox:zj E i=some (.hbox ty vs)) {et:Ty} {j:Nat} (hk:vs[c.k]? =some ⟨.obuf et,j⟩) {xsl:List c.et.T} (hbuf:zj E j=some (.buf c.te c.et xsl))
  {x:c.self.T} (hun:unD c.self ((c.back i vs).set c.k ⟨.slice c.et,xsl⟩)=some (x,[])) (hd:za4 c.args=true) (hfl:c.res.resOk=true)
  {q:List Prop} {xs:Args c.args} (hav:zeh E false (zas.map (evO F)) c.args=some (q,xs)) (hq:allP q) (hpre:allP (c.pre x xs)) (hinv:∀ w R,(∀ g,R g->w0.heap.size≤g∨X.R g)->X.G w->c.inv w R ty) {d:Nat} (hdst:o.dst=some d) (hdn:zU d n=true)
  {N:AS->Prop} (h:match out x xs with
   | .ok y=>N ⟨(d,resV c.res y)::F,(i,none)::(j,none)::E,nx⟩
   | .error pv=>Q (.panic [{ v:=pv,recovered:=false }]) ⟨F,(i,none)::(j,none)::E,nx⟩):vN P w0 X n ops o σ N Q:=by
 refine jZ hgd fun β a w hs=>?_;have h1:=hs.frzs hX zas;rw[hσ]at h1;obtain⟨hen,hlaw,hcall⟩:=hc;have hunH:unH c i vs E x:=⟨et,j,xsl,hk,hbuf,hun⟩;have hsl:xsl=c.sl x:=by
  obtain⟨et',j',k1,k2,_,_⟩:=zeW hlaw hunH;rw[hk]at k1;cases k1;rw[hbuf]at k2;cases k2;rfl
 subst hsl;have hv:=h1.ops a0;rw[show evO (AS.mk F E nx).F a0=_ from hev]at hv;obtain⟨g,hg1,hg2⟩:=hv;obtain⟨g',cs,e1,_,e3,e4⟩:=h1.own _ _ hbox;have hgg:g'=g:=by
  have hg1:zah (β i)=some g:=hg1;rw[e1]at hg1
  simpa [zah] using hg1
 subst hgg;have hij:i≠j:=fun e=>by rw[e,hbuf]at hbox;cases hbox
 have hbj:=h1.own _ _ hbuf;have hOg:OSet X E β g':=.inr ⟨_,_,hbox,by rw[e1];rfl⟩;have hgb:zah (β j)≠some g':=h1.inj i j _ _ hbox hbuf hij g' (by rw[e1];rfl);obtain⟨O,hO⟩:∃ O:Nat->Prop,O=fun k=>OSet X E β k∧k≠g'∧zah (β j)≠some k:=⟨_,rfl⟩;have hset:zbK O g' (β j)=OSet X E β:=by
  funext k
  apply propext;rw[hO];constructor
  ·rintro ((hk|rfl)|hk)
   ·exact hk.1
   ·exact hOg
   ·exact .inr ⟨j,_,hbuf,hk⟩
  ·intro hk;by_cases e:k=g'
   ·exact .inl (.inr e)
   ·by_cases e':zah (β j)=some k
    ·exact .inr e'
    ·exact .inl (.inl ⟨hk,e,e'⟩)
 have hvs:RepVs w (OSet X E β) β (zas.map (evO F)) (zas.map a.eval):=by
  refine⟨by simp,fun i v hv=>?_⟩;rw[yj]at hv;obtain⟨z,hz,rfl⟩:=zK.1 hv;exact⟨a.eval z,by rw[yj,hz];rfl,h1.ops z⟩
 have ha:=zdF (B:=0) h1.own hd hav hq hvs.2 hvs.1;have ha:RepA w (zbK O g' (β j)) c.args xs (zas.map a.eval):=by
  rw[hset];have e:(fun k=>false=false∧OSet X E β k)=OSet X E β:=by funext k;simp
  rwa[e]at ha
 have hK0:xf w w (OSet X E β) (zbK O g' (β j)):=by rw[hset];exact Keeps.refl _ _
 have hlv:RepH w (zbK O g' (β j)) (zcU g' (β j)) (c.lv 0 1 x) cs:=RepH.toLv hlaw hK0 hunH e4 (fun j' et' hj'=>by
  rw[hk]at hj';cases hj';rfl) (by rw[e1];rfl)
 have hbuf2:OwnRep w (zbK O g' (β j)) (zcU g' (β j)) 0 (β j) (.buf c.te c.et (c.sl x)):=hbj.keep hK0 fun _ _=>rfl;have hOk:∀ k,O k->k < w.heap.size∧k≠g'∧zah (β j)≠some k:=fun k hk=>by
  rw[hO]at hk;exact⟨h1.hO hX k hk.1,hk.2⟩
 have hR:∀ k,(k=g'∨zah (β j)=some k)->w0.heap.size≤k∨X.R k:=fun k hk=>by
  rcases hk with rfl|hk
  ·exact h1.new _ _ k hbox (by rw[e1];rfl)
  ·exact h1.new _ _ k hbuf hk
 have hcl:=hcall w O g' cs ty x xs _ (β j) hOk hgb e3 hlv hbuf2 ha hpre (hinv w _ hR (hX.2.2 w h1.bel)) (hX.2.2 w h1.bel);have hrun:(execOp a.eval o).run P w= .ok (.enter f (yL (some ⟨g',0,none⟩)::zas.map a.eval).toArray) w:=by
  have em:args.map a.eval++ #[]=(yL (some ⟨g',0,none⟩)::zas.map a.eval).toArray:=by
   rw[<-zdx,hargs,qt,hg2];simp
  have hx:a.eval (.func f)= .func (.func f) #[] #[]:=rfl;rw[<-em];unfold execOp;simp[ho,resolve,invoke,jY,hx,hen]
 unfold Oper.wp;rw[hrun];refine hcl.mono fun e w' hr=>?_;obtain⟨hkp,hr⟩:=hr;have hl2:=h1.lose2 (w':=w') hbox hbuf ⟨hkp.os,hkp.tape,hkp.output,hkp.size,fun k hkl hn=>hkp.block k hkl fun hk=>hn (hk.elim (fun e=>.inl (by rw[e1,e];rfl)) .inr)⟩;revert hr h;cases out x xs with
 |error pv=>
  intro h;rintro rfl;exact⟨fun e=>(by cases e),_,β,hl2,h⟩
 |ok y=>
  intro h;rintro ⟨v,rfl,hres⟩;have hlt:d < n:=by simpa using hdn
  have hkp2:xf w' w' O (OSet X ((i,none)::(j,none)::E) β):=⟨zk _,fun _ _ _=>rfl,fun k _ hk2=>by
   rw[hO];rcases hk2 with hk2|⟨m,om,hm,hbm⟩
   ·have h3:=hX.1 k hk2;refine⟨.inl hk2,fun e=>?_,fun e=>?_⟩
    ·rcases hR k (.inl e) with h4|h4
     ·omega
     ·exact h3.2 h4
    ·rcases hR k (.inr e) with h4|h4
     ·omega
     ·exact h3.2 h4
   ·rw[zaf,zaf]at hm;by_cases him:i=m
    ·rw[if_pos him]at hm;cases hm
    ·rw[if_neg him]at hm;by_cases hjm:j=m
     ·rw[if_pos hjm]at hm;cases hm
     ·rw[if_neg hjm]at hm;refine⟨.inr ⟨m,om,hm,hbm⟩,fun e=>?_,fun e=>?_⟩
      ·exact h1.inj i m _ om hbox hm him k (by rw[e1,e];rfl) hbm
      ·exact h1.inj j m _ om hbuf hm hjm k e hbm⟩
  show ∃ σ' β',Sim w0 X n σ' β' (a.put o.dst v) w'∧_;rw[hdst];exact⟨_,β,hl2.put (zO _ _) (yd hkp2 _ _ _ (zgM (β:=β) _ hfl hres)) (zeF _ hfl _) hlt,h⟩
theorem AL.give (hX:X.Ok w0) {o:Oper} {rest:List Oper} {f:zS} {c:HCtr} {out:c.self.T->Args c.args->Except zg c.res.T} (hc:zfw P X.G f c out) {args:Array zF} {ts:Array zo} {a0:zF} {zas:List zF} (ho:o.op= .call ⟨.value (.func f),args,ts⟩) (hargs:args.toList=a0::zas) (hgd:o.guard=none)
  {F:yg} {E:Owns} {nx:Nat} (hσ:frzs σ zas=⟨F,E,nx⟩) {i:Nat} (hev:evO F a0=⟨.hptr,(i,(0:Nat))⟩) {ty:zo} {vs:List V} (hbox:zj E i=some (.hbox ty vs)) {et:Ty} {j:Nat} (hk:vs[c.k]? =some ⟨.obuf et,j⟩) {xsl:List c.et.T} (hbuf:zj E j=some (.buf c.te c.et xsl))
  {x:c.self.T} (hun:unD c.self ((c.back i vs).set c.k ⟨.slice c.et,xsl⟩)=some (x,[])) (hd:za4 c.args=true) (hfl:c.res.resOk=true)
  {q:List Prop} {xs:Args c.args} (hav:zeh E false (zas.map (evO F)) c.args=some (q,xs)) (hq:allP q) (hpre:allP (c.pre x xs)) (hinv:∀ w R,(∀ g,R g->w0.heap.size≤g∨X.R g)->X.G w->c.inv w R ty) {d:Nat} (hdst:o.dst=some d) (hdn:zU d n=true)
  (h:match out x xs with
    | .ok y=>AL P w0 X n ops rest ⟨(d,resV c.res y)::F,(i,none)::(j,none)::E,nx⟩ Q
    | .error pv=>Q (.panic [{ v:=pv,recovered:=false }]) ⟨F,(i,none)::(j,none)::E,nx⟩):AL P w0 X n ops (o::rest) σ Q:=
 AL.step1 (fun c e=>by rw[ho]at e;cases e) (StepA.give hX hc ho hargs hgd hσ hev hbox hk hbuf hun hd hfl hav hq hpre hinv hdst hdn h)
theorem zpo {j s:Nat} {b:Bool} (hd:(ops[j]?).bind (·.dst)=some s) (hs:zn σ.F s=⟨.bool,b⟩) (hsn:zU s n=true) {β:Nat->zg} {a:Act} {w:zi} (hsim:Sim w0 X n σ β a w):yielded ops a.tmps j=some b:=by
 have hv:a.tmps.getD s undef= .bool b:=by
  have h2:=hsim.fr s;rw[hs]at h2;exact RepV.bool h2
 have hsz:s < a.tmps.size:=by rw[hsim.sz];simpa using hsn
 unfold yielded;rw[hd];have:a.tmps[s]? =some (.bool b):=by
  rw[zP,yo hsz]at hv;rw[yo hsz];exact congrArg some hv
 simp[this]
theorem AL.guardT (j s:Nat) (b:Bool) {o:Oper} {rest:List Oper} (hg:o.guard=some (j,b)) (hd:(ops[j]?).bind (·.dst)=some s) (hs:zn σ.F s=⟨.bool,b⟩) (hsn:zU s n=true) (h:AL P w0 X n ops ({ o with guard:=none }::rest) σ Q):AL P w0 X n ops (o::rest) σ Q:=by
 intro β a w hsim;have h1:=h β a w hsim;have hy:=zpo hd hs hsn hsim;have hw:zG o (yielded ops a.tmps)=true:=by simp[zG,hg,hy]
 have hw':zG { o with guard:=none } (yielded ops a.tmps)=true:=by simp[zG]
 show if zG o (yielded ops a.tmps)=true then _ else _
 have h1:if zG { o with guard:=none } (yielded ops a.tmps)=true then _ else _:=h1
 rw[if_pos hw']at h1;rw[if_pos hw];exact h1
theorem StepA.guardT (j s:Nat) (b:Bool) {o:Oper} {N:AS->Prop} (hg:o.guard=some (j,b)) (hd:(ops[j]?).bind (·.dst)=some s) (hs:zn σ.F s=⟨.bool,b⟩) (hsn:zU s n=true) (h:vN P w0 X n ops { o with guard:=none } σ N Q):vN P w0 X n ops o σ N Q:=by
 intro β a w I R hsim hI hR;have h1:=h β a w I R hsim hI hR;have hy:=zpo hd hs hsn hsim;have hw:zG o (yielded ops a.tmps)=true:=by simp[zG,hg,hy]
 have hw':zG { o with guard:=none } (yielded ops a.tmps)=true:=by simp[zG]
 show if zG o (yielded ops a.tmps)=true then _ else _
 have h1:if zG { o with guard:=none } (yielded ops a.tmps)=true then _ else _:=h1
 rw[if_pos hw']at h1;rw[if_pos hw];exact h1
theorem AL.guardF (j s:Nat) (b:Bool) (t:Ty) (y:t.T) {o:Oper} {rest:List Oper} (hg:o.guard=some (j,b)) (hd:(ops[j]?).bind (·.dst)=some s) (hs:zn σ.F s=⟨.bool,!b⟩) (hsn:zU s n=true) {d:Nat} (hdst:o.dst=some d) (hdn:zU d n=true) (h:AL P w0 X n ops rest ⟨(d,⟨.cond t,(false,y)⟩)::σ.F,σ.E,σ.nx⟩ Q) (hb:bnd t y=0:=by rfl):AL P w0 X n ops (o::rest) σ Q:=by
 intro β a w hsim;have hy:=zpo hd hs hsn hsim;have hw:¬ zG o (yielded ops a.tmps)=true:=by simp[zG,hg,hy]
 show if zG o (yielded ops a.tmps)=true then _ else _
 rw[if_neg hw];refine⟨fun f _=>zeP _ f,?_⟩;rw[hdst];exact h _ _ _ (hsim.put (zO _ _) (v:=⟨.cond t,(false,y)⟩) ⟨fun h=>(by cases h),fun _=>rfl⟩ (by rw[show V.bound ⟨.cond t,(false,y)⟩=bnd t y from rfl,hb];exact zl _) (by simpa using hdn))
theorem StepA.guardF (j s:Nat) (b:Bool) (t:Ty) (y:t.T) {o:Oper} {N:AS->Prop} (hg:o.guard=some (j,b)) (hd:(ops[j]?).bind (·.dst)=some s) (hs:zn σ.F s=⟨.bool,!b⟩) (hsn:zU s n=true) {d:Nat} (hdst:o.dst=some d) (hdn:zU d n=true) (h:N ⟨(d,⟨.cond t,(false,y)⟩)::σ.F,σ.E,σ.nx⟩) (hb:bnd t y=0:=by rfl):vN P w0 X n ops o σ N Q:=by
 intro β a w I R hsim hI hR;have hy:=zpo hd hs hsn hsim;have hw:¬ zG o (yielded ops a.tmps)=true:=by simp[zG,hg,hy]
 show if zG o (yielded ops a.tmps)=true then _ else _
 rw[if_neg hw,hdst];exact hI _ β _ _ (hsim.put (zO _ _) (v:=⟨.cond t,(false,y)⟩) ⟨fun h=>(by cases h),fun _=>rfl⟩ (by rw[show V.bound ⟨.cond t,(false,y)⟩=bnd t y from rfl,hb];exact zl _) (by simpa using hdn)) h
theorem AL.ownV (hX:X.Ok w0) {o:Oper} {rest:List Oper} {f:zS} {c:HCtr} (hc:zaA P X.G f c) {y a0:zF} {args:Array zF} {ts:Array zo} (ho:o.op= .call ⟨.value y,args,ts⟩) (hargs:args= #[a0]) (hgd:o.guard=none)
  {F:yg} {E:Owns} {nx:Nat} (hy:evO F y=⟨.lit,.func (.func f) #[] #[]⟩)
  {i:Nat} (hev:evO F a0=⟨.hptr,(i,(0:Nat))⟩) {ty:zo} {vs:List V} (hbox:zj E i=some (.hbox ty vs)) {et:Ty} {j:Nat} (hk:vs[c.k]? =some ⟨.obuf et,j⟩) {xsl:List c.et.T} (hbuf:zj E j=some (.buf c.te c.et xsl))
  {x:c.self.T} (hun:unD c.self ((c.back i vs).set c.k ⟨.slice c.et,xsl⟩)=some (x,[])) (hd:za4 c.args=true) (hfl:c.res.resOk=true)
  {q:List Prop} {xs:Args c.args} (hav:zeh E false [] c.args=some (q,xs)) (hq:allP q) (hpre:allP (c.pre x xs)) (hinv:∀ w R,(∀ g,R g->w0.heap.size≤g∨X.R g)->X.G w->c.inv w R ty) {F':c.res.T->yg} (hput:∀ y,putD n o.dst (resV c.res y) (xk j F)=some (F' y))
  (h:zlj (fun y x'=>AL P w0 X n ops rest ⟨F' y,(i,some (.hbox ty (c.lv i j x')))::(j,some (.buf c.te c.et (c.sl x')))::Owns.kill j E,nx⟩ Q) (fun pv=>Q (.panic [{ v:=pv,recovered:=false }]) ⟨F,(i,none)::(j,none)::E,nx⟩) (c.out x xs)):AL P w0 X n ops (o::rest) ⟨F,E,nx⟩ Q:=
 qq hgd (fun c e=>by rw[ho]at e;cases e) (zj2 hX hc (a0:=a0) (zas:=[]) (fun β a w hs hen=>by
  have h1:a.eval y= .func (.func f) #[] #[]:=by
   have h1:=hs.ops y;rw[show evO (frzs ⟨F,E,nx⟩ []).F y=_ from hy]at h1;exact h1
  unfold execOp;simp[ho,hargs,resolve,invoke,jY,h1,hen]) rfl hev hbox hk hbuf hun hd hfl hav hq hpre hinv hput (N:=fun σ'=>AL P w0 X n ops rest σ' Q) h)
theorem ziu {t kt et:zo} {kd:TypeDesc} (hu:P.underlying t=some (.map kt et)) (hk:P.underlying kt=some kd) (hp:zcI kd=true) {w:zi} {r ck:Nat} {ms:Array MapEntry} (h:w.heap[r]? =some (.map ms ck)) {key v:zg}
  (hf:zfj kd key (ms.toList.map fun e=>(e.key,e.val))=some (some v)):(kn t (.map (some r)) key true).run P w= .ok (.tuple #[v,.bool true]) w:=by
 rw[<-zfk kd key ms.toList 0]at hf;obtain⟨o,ho,hf⟩:=zK.1 hf;obtain⟨⟨i,v'⟩,rfl,rfl⟩:=zK.1 hf;simp[kn,Instr.findKey,run_underlying hu,run_underlying hk,zfD h,zd4 _ hk hp,ho]
theorem zgJ {t kt et:zo} {kd:TypeDesc} (hu:P.underlying t=some (.map kt et)) (hk:P.underlying kt=some kd) (hp:zcI kd=true) {w:zi} {r ck:Nat} {ms:Array MapEntry} (h:w.heap[r]? =some (.map ms ck)) {key z:zg}
  (hf:zfj kd key (ms.toList.map fun e=>(e.key,e.val))=some none) (hz:(zeroValue et).run P w= .ok z w):(kn t (.map (some r)) key true).run P w= .ok (.tuple #[z,.bool false]) w:=by
 rw[<-zfk kd key ms.toList 0]at hf;obtain⟨o,ho,hf⟩:=zK.1 hf;cases o with
 |some x=>cases hf
 |none=>simp[kn,Instr.findKey,run_underlying hu,run_underlying hk,zfD h,zd4 _ hk hp,ho,hz]
theorem zoh {t kt et:zo} {kd:TypeDesc} (hu:P.underlying t=some (.map kt et)) (hk:P.underlying kt=some kd) (hp:zcI kd=true) {o:Oper} {m k:zF} {d:Nat} {es:List (zg×zg)} {key z:zg} (ho:o.op= .lookup t m k true) (hdst:o.dst=some d) (hd:zU d n=true)
  (hm:evO σ.F m=⟨.mapL,es⟩) (hkey:∀ β a w,Sim w0 X n σ β a w->a.eval k=key) (hz:∀ w,(zeroValue et).run P w= .ok z w) {r:Option zg} (hf:zfj kd key es=some r) {N:AS->Prop} (h:N ⟨(d,⟨.lit,.tuple #[r.getD z,.bool r.isSome]⟩)::σ.F,σ.E,σ.nx⟩)
  (β:Nat->zg) (a:Act) (w:zi) (hs:Sim w0 X n σ β a w):o.wp P a w (fun a' w'=>∃ σ' β',Sim w0 X n σ' β' a' w'∧N σ') (fun e a' w'=>e≠ .outgrown∧∃ σ' β',Sim w0 X n σ' β' a' w'∧Q e σ'):=by
 have hd':d < n:=by simpa using hd
 have h1:=hs.ops m;rw[hm]at h1;obtain⟨r0,ms,ck,h2,_,_,h3,h4⟩:=h1;refine zbt (u:=.tuple #[r.getD z,.bool r.isSome]) (w':=w) ?_ ?_
 ·unfold execOp;simp only[ho];rw[h2,hkey β a w hs];cases r with
  |some v=>exact zdX (ziu hu hk hp h3 (by rw[h4];exact hf))
  |none=>exact zdX (zgJ hu hk hp h3 (by rw[h4];exact hf) (hz w))
 ·rw[hdst];exact⟨_,β,hs.put (zO _ _) (v:=⟨.lit,.tuple #[r.getD z,.bool r.isSome]⟩) rfl (zl _) hd',h⟩
theorem zoV {o:Oper} {x:zF} {d:Nat} {v b:zg} (ho:o.op= .extract x 0) (hdst:o.dst=some d) (hd:zU d n=true) (hx:evO σ.F x=⟨.lit,.tuple #[v,b]⟩) {N:AS->Prop} (h:N ⟨(d,⟨.lit,v⟩)::σ.F,σ.E,σ.nx⟩)
  (β:Nat->zg) (a:Act) (w:zi) (hs:Sim w0 X n σ β a w):o.wp P a w (fun a' w'=>∃ σ' β',Sim w0 X n σ' β' a' w'∧N σ') (fun e a' w'=>e≠ .outgrown∧∃ σ' β',Sim w0 X n σ' β' a' w'∧Q e σ'):=by
 have hd':d < n:=by simpa using hd
 have hv:a.eval x= .tuple #[v,b]:=by
  have h5:=hs.ops x;rw[hx]at h5;exact h5
 refine zbt (u:=v) (w':=w) ?_ ?_
 ·unfold execOp;simp only[ho,hv];exact zdX (by simp[jE])
 ·rw[hdst];exact⟨_,β,hs.put (zO _ _) (v:=⟨.lit,v⟩) rfl (zl _) hd',h⟩
theorem zoU {o:Oper} {x:zF} {d:Nat} {v:zg} {b:Bool} (ho:o.op= .extract x 1) (hdst:o.dst=some d) (hd:zU d n=true) (hx:evO σ.F x=⟨.lit,.tuple #[v,.bool b]⟩) {N:AS->Prop} (h:N ⟨(d,⟨.bool,b⟩)::σ.F,σ.E,σ.nx⟩)
  (β:Nat->zg) (a:Act) (w:zi) (hs:Sim w0 X n σ β a w):o.wp P a w (fun a' w'=>∃ σ' β',Sim w0 X n σ' β' a' w'∧N σ') (fun e a' w'=>e≠ .outgrown∧∃ σ' β',Sim w0 X n σ' β' a' w'∧Q e σ'):=by
 have hd':d < n:=by simpa using hd
 have hv:a.eval x= .tuple #[v,.bool b]:=by
  have h5:=hs.ops x;rw[hx]at h5;exact h5
 refine zbt (u:=.bool b) (w':=w) ?_ ?_
 ·unfold execOp;simp only[ho,hv];exact zdX (by simp[jE])
 ·rw[hdst];exact⟨_,β,hs.put (zO _ _) (v:=⟨.bool,b⟩) RepV.ofBool (zl _) hd',h⟩
theorem AL.look2 {t kt et:zo} {kd:TypeDesc} (hu:P.underlying t=some (.map kt et)) (hk:P.underlying kt=some kd) (hp:zcI kd=true) {o:Oper} {rest:List Oper} {m k:zF} {d:Nat} {es:List (zg×zg)} {key z:zg} (ho:o.op= .lookup t m k true) (hg:o.guard=none) (hdst:o.dst=some d) (hd:zU d n=true)
  (hm:evO σ.F m=⟨.mapL,es⟩) (hkey:∀ β a w,Sim w0 X n σ β a w->a.eval k=key) (hz:∀ w,(zeroValue et).run P w= .ok z w) {r:Option zg} (hf:zfj kd key es=some r) (h:AL P w0 X n ops rest ⟨(d,⟨.lit,.tuple #[r.getD z,.bool r.isSome]⟩)::σ.F,σ.E,σ.nx⟩ Q):AL P w0 X n ops (o::rest) σ Q:=
 qq hg (fun c e'=>by rw[ho]at e';cases e') (zoh hu hk hp ho hdst hd hm hkey hz hf (N:=fun σ'=>AL P w0 X n ops rest σ' Q) h)
theorem AL.ext0 {o:Oper} {rest:List Oper} {x:zF} {d:Nat} {v b:zg} (ho:o.op= .extract x 0) (hg:o.guard=none) (hdst:o.dst=some d) (hd:zU d n=true) (hx:evO σ.F x=⟨.lit,.tuple #[v,b]⟩) (h:AL P w0 X n ops rest ⟨(d,⟨.lit,v⟩)::σ.F,σ.E,σ.nx⟩ Q):AL P w0 X n ops (o::rest) σ Q:=
 qq hg (fun c e'=>by rw[ho]at e';cases e') (zoV ho hdst hd hx (N:=fun σ'=>AL P w0 X n ops rest σ' Q) h)
theorem AL.ext1 {o:Oper} {rest:List Oper} {x:zF} {d:Nat} {v:zg} {b:Bool} (ho:o.op= .extract x 1) (hg:o.guard=none) (hdst:o.dst=some d) (hd:zU d n=true) (hx:evO σ.F x=⟨.lit,.tuple #[v,.bool b]⟩) (h:AL P w0 X n ops rest ⟨(d,⟨.bool,b⟩)::σ.F,σ.E,σ.nx⟩ Q):AL P w0 X n ops (o::rest) σ Q:=
 qq hg (fun c e'=>by rw[ho]at e';cases e') (zoU ho hdst hd hx (N:=fun σ'=>AL P w0 X n ops rest σ' Q) h)
end
theorem AWP.via {P:zx} {w0:zi} {X:Ownr} {n:Nat} {σ:AS} {Q:Exit->AS->Prop} {c d:Code} {σ':AS} (h1:AWP P w0 X n c σ (zjl (fun s=>Fit s σ') Q)) (h2:AWP P w0 X n d σ' Q) (hk:X.K≤σ'.nx:=by exact zf rfl):AWP P w0 X n (.seq c d) σ Q:=
 zae <| AWP.mono h1 fun e s h=>by
  cases e with
  |normal=>exact zap h h2 hk
  |_=>exact h
theorem AWP.viaQ {P:zx} {w0:zi} {X:Ownr} {n:Nat} {σ:AS} {Q:Exit->AS->Prop} {c d:Code} {σ':AS} (h1:AWP P w0 X n c σ (zjl (fun s=>Fit s σ') Q)) (h2:AWP P w0 X n d σ' Q) (hk:X.K≤σ'.nx:=by exact zf rfl):AWP P w0 X n c σ (zjl (fun s=>AWP P w0 X n d s Q) Q):=
 AWP.mono h1 fun e s h=>by
  cases e with
  |normal=>exact zap h h2 hk
  |_=>exact h
theorem zsm:Tryz.prog.globalNamed "internal/strconv.uint64pow10"=some 5:=by kernel_rfl
def gmH (w:zi):Prop:=Lib.TabIs Tryz.prog w "internal/strconv.uint64pow10" .u64 Lib.pow10Tab∧∃ ev,w.cell? ⟨4,0,none⟩=some ev∧(ev= .nilIface∨∃ te pe,ev= .iface te pe)
theorem zlT {w:zi} (h:gmH w):5 < w.heap.size∧4 < w.heap.size:=by
 obtain⟨ht,ev,hc,_⟩:=h;have hl:∀ g:Nat,(∃ o:Obj,w.heap[g]? =some o)->g < w.heap.size:=fun g ⟨o,ho⟩=>(zm.1 ho).1;refine⟨hl _ ?_,hl _ ?_⟩
 ·unfold Lib.TabIs uH at ht;rw[zsm]at ht;simp only[jv]at ht;cases ho:w.heap[5]? with
  |none=>rw[ho]at ht;cases ht
  |some o=>exact⟨o,rfl⟩
 ·unfold xD at hc;cases ho:w.heap[4]? with
  |none=>simp[ho]at hc
  |some o=>exact⟨o,rfl⟩
theorem zlU {R:Nat->Prop} {w w':zi} (h1:¬ R 5) (h2:¬ R 4) (h:gmH w) (hk:Kept R w w'):gmH w':=by
 obtain⟨l1,l2⟩:=zlT h;obtain⟨ht,ev,hc,hev⟩:=h;refine⟨?_,ev,?_,hev⟩
 ·unfold Lib.TabIs uH at *;rw[zsm]at *;simp only[jv]at *;rw[hk.block _ l1 h1];exact ht
 ·unfold xD at *;rw[hk.block _ l2 h2];exact hc
theorem zha (w w':zi) (h:gmH w) (hb:yJ w.heap.size w w'):gmH w':=zlU (R:=fun _=>False) (fun h=>h) (fun h=>h) h ⟨hb.os,hb.tape,hb.output,hb.size,fun k hk _=>hb.block k hk⟩
theorem zak:KnOk Tryz.prog gmH gmK:=⟨zgb,zga,CsOk.nil,zha,RsOk.nil⟩
def ginv (_:zi) (R:Nat->Prop) (_:zo):Prop:=¬ R 5∧¬ R 4
theorem zaT:∀ w w' R (ty:zo),ginv w R ty->gmH w->Kept R w w'->gmH w':=fun _ _ _ _ h hg hk=>zlU h.1 h.2 hg hk
theorem zaE {w0:zi} {X:Ownr} {ty:zo} (hX:X.Ok w0) (hG:X.G=gmH) (hi:ginv w0 X.R ty) {ty':zo}:∀ w R,(∀ g,R g->w0.heap.size≤g∨X.R g)->X.G w->ginv w R ty':=fun w R hR _=>by
 have h0:gmH w0:=by have:=hX.2.2 w0 (jM _ _);rwa[hG]at this
 obtain⟨l1,l2⟩:=zlT h0;refine⟨fun h=>?_,fun h=>?_⟩
 ·rcases hR _ h with h1|h1
  ·omega
  ·exact hi.1 h1
 ·rcases hR _ h with h1|h1
  ·omega
  ·exact hi.2 h1
theorem CtrOk.lift {f:zS} {c:Ctr} (h:yM Tryz.prog gmG f c):yM Tryz.prog gmH f c:=⟨h.1,fun w O xs vs hO hr hp _=>h.2 w O xs vs hO hr hp trivial⟩
theorem zcg (a b:Bool):(bif a then b else false)=(a&&b):=by cases a<;>rfl
theorem zhp (a b:Bool):(bif a then true else b)=(a||b):=by cases a<;>rfl
theorem u8eq (a b:UInt8):(((a.toNat:Nat):Int)==((b.toNat:Nat):Int))=(a==b):=by
 rw[yz,beq_iff_eq,beq_iff_eq, <-qD];omega
theorem u8le (a b:UInt8):decide (((a.toNat:Nat):Int)≤((b.toNat:Nat):Int))=decide (a≤b):=by
 rw[yz,decide_eq_true_iff,decide_eq_true_iff,yS];omega
def cLt:Ctr:={ args:=[u8],pre:=fun _=>[],res:=.bool,own:=none,out:=fun x=>isLt x.1 }
theorem zoD:yM Tryz.prog gmG 111 cLt:=by
 refine zar (K:=gmK) zcu Tryz.func111 rfl rfl Tryz.call111 rfl (by decide) (by intro h;cases h) ?_;rintro w0 X hX ⟨(c:UInt8),_⟩ hp;change AWP _ _ _ _ _ ⟨[(0,⟨u8,c⟩)],[],0⟩ _;(repeat(first|apply zae|apply zac|apply zal|apply zad|apply zab|refine zaa hX zcu rfl trivial ?_|refine zaa hX zcu rfl id ?_|refine zaa hX zcu rfl ⟨id,id⟩ ?_));refine za (za ?_);refine zaa hX zcu rfl ?_ ?_
 ·repeat'(first|exact trivial|assumption|(refine⟨?_,?_⟩)|(intro _)|exact zf rfl|exact zu _|(simp_all [allP];done))
 refine zq ⟨.inr rfl,zay rfl trivial rfl rfl ?_⟩;show (bif decide ((((97:UInt8).toNat:Nat):Int)≤(((c|||32:UInt8).toNat:Nat):Int)) then decide ((((c|||32:UInt8).toNat:Nat):Int)≤(((122:UInt8).toNat:Nat):Int)) else false)=isLt c;simp only[zcg,u8le];rfl
def cDg:Ctr:={ args:=[u8],pre:=fun _=>[],res:=.bool,own:=none,out:=fun x=>isDg x.1 }
theorem zoE:yM Tryz.prog gmG 113 cDg:=by
 refine zar (K:=gmK) zcu Tryz.func113 rfl rfl Tryz.call113 rfl (by decide) (by intro h;cases h) ?_;rintro w0 X hX ⟨(c:UInt8),_⟩ hp;change AWP _ _ _ _ _ ⟨[(0,⟨u8,c⟩)],[],0⟩ _;(repeat(first|apply zae|apply zac|apply zal|apply zad|apply zab|refine zaa hX zcu rfl trivial ?_|refine zaa hX zcu rfl id ?_|refine zaa hX zcu rfl ⟨id,id⟩ ?_));refine zq ⟨.inr rfl,zay rfl trivial rfl rfl ?_⟩;show (bif decide ((((48:UInt8).toNat:Nat):Int)≤(((c:UInt8).toNat:Nat):Int)) then decide ((((c:UInt8).toNat:Nat):Int)≤(((57:UInt8).toNat:Nat):Int)) else false)=isDg c;simp only[zcg,u8le];rfl
def cWh:Ctr:={ args:=[u8],pre:=fun _=>[],res:=.bool,own:=none,out:=fun x=>isWh x.1 }
theorem zsb:yM Tryz.prog gmG 53 cWh:=by
 refine zar (K:=gmK) zcu Tryz.func53 rfl rfl Tryz.call53 rfl (by decide) (by intro h;cases h) ?_;rintro w0 X hX ⟨(c:UInt8),_⟩ hp;change AWP _ _ _ _ _ ⟨[(0,⟨u8,c⟩)],[],0⟩ _;(repeat(first|apply zae|apply zac|apply zal|apply zad|apply zab|refine zaa hX zcu rfl trivial ?_|refine zaa hX zcu rfl id ?_|refine zaa hX zcu rfl ⟨id,id⟩ ?_));refine za (za ?_);refine zaa hX zcu rfl ?_ ?_
 ·repeat'(first|exact trivial|assumption|(refine⟨?_,?_⟩)|(intro _)|exact zf rfl|exact zu _|(simp_all [allP];done))
 refine zq ⟨.inr rfl,zay rfl trivial rfl rfl ?_⟩;show (bif (bif (bif (((c.toNat:Nat):Int)==(((32:UInt8).toNat:Nat):Int)) then true else (((c.toNat:Nat):Int)==(((9:UInt8).toNat:Nat):Int))) then true else (((c.toNat:Nat):Int)==(((10:UInt8).toNat:Nat):Int))) then true else (((c.toNat:Nat):Int)==(((13:UInt8).toNat:Nat):Int)))=isWh c;simp only[zhp,u8eq];rfl
def kTok1:Kn:={ gmK with C:=[(111,cLt),(113,cDg)] }
theorem zfd:KnOk Tryz.prog gmG kTok1:=zcu.with (.cons zoD <| .cons zoE .nil)
def cPt:Ctr:={ args:=[u8],pre:=fun _=>[],res:=.bool,own:=none,out:=fun x=>isPt x.1 }
theorem zsc:yM Tryz.prog gmG 112 cPt:=by
 refine zar (K:=kTok1) zfd Tryz.func112 rfl rfl Tryz.call112 rfl (by decide) (by intro h;cases h) ?_;rintro w0 X hX ⟨(c:UInt8),_⟩ hp;change AWP _ _ _ _ _ ⟨[(0,⟨u8,c⟩)],[],0⟩ _;(repeat(first|apply zae|apply zac|apply zal|apply zad|apply zab|refine zaa hX zfd rfl trivial ?_|refine zaa hX zfd rfl id ?_|refine zaa hX zfd rfl ⟨id,id⟩ ?_));refine za (za ?_);refine zaa hX zfd rfl ?_ ?_
 ·repeat'(first|exact trivial|assumption|(refine⟨?_,?_⟩)|(intro _)|exact zf rfl|exact zu _|(simp_all [allP];done))
 refine zq ⟨.inr rfl,zay rfl trivial rfl rfl ?_⟩;show (bif (bif isLt c then true else isDg c) then true else (((c.toNat:Nat):Int)==(((45:UInt8).toNat:Nat):Int)))=isPt c;simp only[zhp,u8eq];rfl
def zsT (p:UInt8->Bool):Ctr:={ args:=[u8],pre:=fun _=>[],res:=.bool,own:=none,out:=fun x=>p x.1 }
def zlc (f:zS) (p:UInt8->Bool):Ctr:={ args:=[.str,.lit],pre:=fun x=>[x.2.1= .func (.func f) #[] #[]],res:=i64,own:=none,out:=fun x=>((zaV p x.1:Nat):Int) }
theorem zek {p:UInt8->Bool} {s:List UInt8} {k:Nat} (hk:k≤s.length) (h1:∀ j (hj:j < s.length),j < k->p s[j]=true) (h2:∀ h:k < s.length,p s[k]=false):zaV p s=k:=by
 unfold zaV;have e:s=s.take k++s.drop k:=(List.take_append_drop k s).symm;rw[e,List.takeWhile_append_of_pos]
 ·have:(s.drop k).takeWhile p=[]:=by
   by_cases h:k < s.length
   ·rw[List.drop_eq_getElem_cons h,xQ,h2 h];rfl
   ·rw[List.drop_of_length_le (by omega)];rfl
  rw[this,zJ,ym];omega
 ·intro x hx;obtain⟨j,hj,rfl⟩:=List.mem_iff_getElem.1 hx;rw[ym]at hj;rw[List.getElem_take];exact h1 j (by omega) (by omega)
def kSpWh:Kn:={ gmK with C:=[(53,zsT isWh)] }
theorem zbP:KnOk Tryz.prog gmG kSpWh:=zcu.with (.cons zsb .nil)
theorem zjo:yM Tryz.prog gmG 52 (zlc 53 isWh):=by
 refine zar (K:=kSpWh) zbP Tryz.func52 rfl rfl Tryz.call52 rfl (by decide) (by intro h;cases h) ?_;rintro w0 X hX ⟨(s:List UInt8),(g:zg),_⟩ hp;obtain rfl:g= .func (.func 53) #[] #[]:=hp;change AWP _ _ _ _ _ ⟨[(0,⟨.str,s⟩),(1,⟨.lit,.func (.func 53) #[] #[]⟩)],[],0⟩ _;refine AWP.slen 0 rfl fun hl=>?_;unfold maxLen at hl;(repeat(first|apply zae|apply zac|apply zal|apply zad|apply zab|refine zaa hX zbP rfl trivial ?_|refine zaa hX zbP rfl id ?_|refine zaa hX zbP rfl ⟨id,id⟩ ?_));refine yB (ι:=Nat) (fun k=>⟨[(0,⟨.str,s⟩),(1,⟨.lit,.func (.func 53) #[] #[]⟩),(5,⟨i64,(k:Int)⟩)],[],0⟩) (fun k=>k≤s.length∧∀ j (hj:j < s.length),j < k->isWh s[j]=true) (fun k=>s.length - k) 0 ⟨by omega,fun j _ h=>by omega⟩ ⟨⟨rfl,rfl,rfl,trivial⟩,trivial,rfl,rfl⟩ ?_;rintro k ⟨hk,hall⟩;(repeat(first|apply zae|apply zac|apply zab|apply zad));refine zaj ?_;refine yA 5 hX zbP rfl trivial ?_;by_cases hlt:k < s.length
 ·refine jb (σ':=⟨[(0,⟨.str,s⟩),(1,⟨.lit,.func (.func 53) #[] #[]⟩),(5,⟨i64,(k:Int)⟩),(10,⟨.bool,true⟩)],[],0⟩) ⟨⟨rfl,rfl,rfl,zcO (decide_eq_true (by omega)),trivial⟩,trivial,rfl,rfl⟩ ?_;have n0:(0:Int)≤(k:Int):=by omega
  have n1:(k:Int) < ((s.length:Nat):Int):=by omega
  refine zW hX zbP rfl ?_ ?_
  ·exact⟨fun _=>⟨rfl,rfl,n0,n1⟩,fun _=>rfl,fun _=>rfl⟩
  refine zai rfl (fun hb=>?_) (fun hb=>?_)
  ·have hb:isWh (s.getD (k:Int).toNat 0)=true:=hb;rw[zaM hlt]at hb;apply zac;refine za (za ?_);refine zaa hX zbP rfl ?_ ?_
   ·exact zaH (by omega)
   refine⟨k+1,⟨by omega,fun j hj hjk=>?_⟩,by omega,⟨rfl,rfl,zcz _,trivial⟩,trivial,rfl,rfl⟩;by_cases e:j=k
   ·subst e;exact hb
   ·exact hall j hj (by omega)
  ·have hb:isWh (s.getD (k:Int).toNat 0)=false:=hb;rw[zaM hlt]at hb;(repeat(first|apply zae|apply zac|apply zal|apply zad|apply zab|refine zaa hX zbP rfl trivial ?_|refine zaa hX zbP rfl id ?_|refine zaa hX zbP rfl ⟨id,id⟩ ?_));refine zq ⟨.inr rfl,zay rfl trivial rfl rfl ?_⟩;show (k:Int)=((zaV isWh s:Nat):Int);rw[zek hk hall fun _=>hb]
 ·refine jb (σ':=⟨[(0,⟨.str,s⟩),(1,⟨.lit,.func (.func 53) #[] #[]⟩),(5,⟨i64,(k:Int)⟩),(10,⟨.bool,false⟩)],[],0⟩) ⟨⟨rfl,rfl,rfl,zcO (decide_eq_false (by omega)),trivial⟩,trivial,rfl,rfl⟩ ?_;refine AL.guardF 4 10 true .bool false rfl rfl rfl rfl rfl rfl ?_;refine AL.guardF 4 10 true .bool false rfl rfl rfl rfl rfl rfl ?_;refine AL.guardF 4 10 true .bool false rfl rfl rfl rfl rfl rfl ?_;refine AL.guardF 4 10 true .bool false rfl rfl rfl rfl rfl rfl ?_;refine AL.guardF 4 10 true .bool false rfl rfl rfl rfl rfl rfl ?_;refine zW hX zbP rfl id ?_;refine zai rfl (fun hb=>absurd (show false=true from hb) (by decide)) (fun _=>?_);(repeat(first|apply zae|apply zac|apply zal|apply zad|apply zab|refine zaa hX zbP rfl trivial ?_|refine zaa hX zbP rfl id ?_|refine zaa hX zbP rfl ⟨id,id⟩ ?_));refine zq ⟨.inr rfl,zay rfl trivial rfl rfl ?_⟩;show (k:Int)=((zaV isWh s:Nat):Int);rw[zek hk hall fun h=>absurd h hlt]
def kSpDg:Kn:={ gmK with C:=[(113,zsT isDg)] }
theorem zbR:KnOk Tryz.prog gmG kSpDg:=zcu.with (.cons zoE .nil)
theorem znx:yM Tryz.prog gmG 52 (zlc 113 isDg):=by
 refine zar (K:=kSpDg) zbR Tryz.func52 rfl rfl Tryz.call52 rfl (by decide) (by intro h;cases h) ?_;rintro w0 X hX ⟨(s:List UInt8),(g:zg),_⟩ hp;obtain rfl:g= .func (.func 113) #[] #[]:=hp;change AWP _ _ _ _ _ ⟨[(0,⟨.str,s⟩),(1,⟨.lit,.func (.func 113) #[] #[]⟩)],[],0⟩ _;refine AWP.slen 0 rfl fun hl=>?_;unfold maxLen at hl;(repeat(first|apply zae|apply zac|apply zal|apply zad|apply zab|refine zaa hX zbR rfl trivial ?_|refine zaa hX zbR rfl id ?_|refine zaa hX zbR rfl ⟨id,id⟩ ?_));refine yB (ι:=Nat) (fun k=>⟨[(0,⟨.str,s⟩),(1,⟨.lit,.func (.func 113) #[] #[]⟩),(5,⟨i64,(k:Int)⟩)],[],0⟩) (fun k=>k≤s.length∧∀ j (hj:j < s.length),j < k->isDg s[j]=true) (fun k=>s.length - k) 0 ⟨by omega,fun j _ h=>by omega⟩ ⟨⟨rfl,rfl,rfl,trivial⟩,trivial,rfl,rfl⟩ ?_;rintro k ⟨hk,hall⟩;(repeat(first|apply zae|apply zac|apply zab|apply zad));refine zaj ?_;refine yA 5 hX zbR rfl trivial ?_;by_cases hlt:k < s.length
 ·refine jb (σ':=⟨[(0,⟨.str,s⟩),(1,⟨.lit,.func (.func 113) #[] #[]⟩),(5,⟨i64,(k:Int)⟩),(10,⟨.bool,true⟩)],[],0⟩) ⟨⟨rfl,rfl,rfl,zcO (decide_eq_true (by omega)),trivial⟩,trivial,rfl,rfl⟩ ?_;have n0:(0:Int)≤(k:Int):=by omega
  have n1:(k:Int) < ((s.length:Nat):Int):=by omega
  refine zW hX zbR rfl ?_ ?_
  ·exact⟨fun _=>⟨rfl,rfl,n0,n1⟩,fun _=>rfl,fun _=>rfl⟩
  refine zai rfl (fun hb=>?_) (fun hb=>?_)
  ·have hb:isDg (s.getD (k:Int).toNat 0)=true:=hb;rw[zaM hlt]at hb;apply zac;refine za (za ?_);refine zaa hX zbR rfl ?_ ?_
   ·exact zaH (by omega)
   refine⟨k+1,⟨by omega,fun j hj hjk=>?_⟩,by omega,⟨rfl,rfl,zcz _,trivial⟩,trivial,rfl,rfl⟩;by_cases e:j=k
   ·subst e;exact hb
   ·exact hall j hj (by omega)
  ·have hb:isDg (s.getD (k:Int).toNat 0)=false:=hb;rw[zaM hlt]at hb;(repeat(first|apply zae|apply zac|apply zal|apply zad|apply zab|refine zaa hX zbR rfl trivial ?_|refine zaa hX zbR rfl id ?_|refine zaa hX zbR rfl ⟨id,id⟩ ?_));refine zq ⟨.inr rfl,zay rfl trivial rfl rfl ?_⟩;show (k:Int)=((zaV isDg s:Nat):Int);rw[zek hk hall fun _=>hb]
 ·refine jb (σ':=⟨[(0,⟨.str,s⟩),(1,⟨.lit,.func (.func 113) #[] #[]⟩),(5,⟨i64,(k:Int)⟩),(10,⟨.bool,false⟩)],[],0⟩) ⟨⟨rfl,rfl,rfl,zcO (decide_eq_false (by omega)),trivial⟩,trivial,rfl,rfl⟩ ?_;refine AL.guardF 4 10 true .bool false rfl rfl rfl rfl rfl rfl ?_;refine AL.guardF 4 10 true .bool false rfl rfl rfl rfl rfl rfl ?_;refine AL.guardF 4 10 true .bool false rfl rfl rfl rfl rfl rfl ?_;refine AL.guardF 4 10 true .bool false rfl rfl rfl rfl rfl rfl ?_;refine AL.guardF 4 10 true .bool false rfl rfl rfl rfl rfl rfl ?_;refine zW hX zbR rfl id ?_;refine zai rfl (fun hb=>absurd (show false=true from hb) (by decide)) (fun _=>?_);(repeat(first|apply zae|apply zac|apply zal|apply zad|apply zab|refine zaa hX zbR rfl trivial ?_|refine zaa hX zbR rfl id ?_|refine zaa hX zbR rfl ⟨id,id⟩ ?_));refine zq ⟨.inr rfl,zay rfl trivial rfl rfl ?_⟩;show (k:Int)=((zaV isDg s:Nat):Int);rw[zek hk hall fun h=>absurd h hlt]
def kSpPt:Kn:={ gmK with C:=[(112,zsT isPt)] }
theorem zbQ:KnOk Tryz.prog gmG kSpPt:=zcu.with (.cons zsc .nil)
theorem znw:yM Tryz.prog gmG 52 (zlc 112 isPt):=by
 refine zar (K:=kSpPt) zbQ Tryz.func52 rfl rfl Tryz.call52 rfl (by decide) (by intro h;cases h) ?_;rintro w0 X hX ⟨(s:List UInt8),(g:zg),_⟩ hp;obtain rfl:g= .func (.func 112) #[] #[]:=hp;change AWP _ _ _ _ _ ⟨[(0,⟨.str,s⟩),(1,⟨.lit,.func (.func 112) #[] #[]⟩)],[],0⟩ _;refine AWP.slen 0 rfl fun hl=>?_;unfold maxLen at hl;(repeat(first|apply zae|apply zac|apply zal|apply zad|apply zab|refine zaa hX zbQ rfl trivial ?_|refine zaa hX zbQ rfl id ?_|refine zaa hX zbQ rfl ⟨id,id⟩ ?_));refine yB (ι:=Nat) (fun k=>⟨[(0,⟨.str,s⟩),(1,⟨.lit,.func (.func 112) #[] #[]⟩),(5,⟨i64,(k:Int)⟩)],[],0⟩) (fun k=>k≤s.length∧∀ j (hj:j < s.length),j < k->isPt s[j]=true) (fun k=>s.length - k) 0 ⟨by omega,fun j _ h=>by omega⟩ ⟨⟨rfl,rfl,rfl,trivial⟩,trivial,rfl,rfl⟩ ?_;rintro k ⟨hk,hall⟩;(repeat(first|apply zae|apply zac|apply zab|apply zad));refine zaj ?_;refine yA 5 hX zbQ rfl trivial ?_;by_cases hlt:k < s.length
 ·refine jb (σ':=⟨[(0,⟨.str,s⟩),(1,⟨.lit,.func (.func 112) #[] #[]⟩),(5,⟨i64,(k:Int)⟩),(10,⟨.bool,true⟩)],[],0⟩) ⟨⟨rfl,rfl,rfl,zcO (decide_eq_true (by omega)),trivial⟩,trivial,rfl,rfl⟩ ?_;have n0:(0:Int)≤(k:Int):=by omega
  have n1:(k:Int) < ((s.length:Nat):Int):=by omega
  refine zW hX zbQ rfl ?_ ?_
  ·exact⟨fun _=>⟨rfl,rfl,n0,n1⟩,fun _=>rfl,fun _=>rfl⟩
  refine zai rfl (fun hb=>?_) (fun hb=>?_)
  ·have hb:isPt (s.getD (k:Int).toNat 0)=true:=hb;rw[zaM hlt]at hb;apply zac;refine za (za ?_);refine zaa hX zbQ rfl ?_ ?_
   ·exact zaH (by omega)
   refine⟨k+1,⟨by omega,fun j hj hjk=>?_⟩,by omega,⟨rfl,rfl,zcz _,trivial⟩,trivial,rfl,rfl⟩;by_cases e:j=k
   ·subst e;exact hb
   ·exact hall j hj (by omega)
  ·have hb:isPt (s.getD (k:Int).toNat 0)=false:=hb;rw[zaM hlt]at hb;(repeat(first|apply zae|apply zac|apply zal|apply zad|apply zab|refine zaa hX zbQ rfl trivial ?_|refine zaa hX zbQ rfl id ?_|refine zaa hX zbQ rfl ⟨id,id⟩ ?_));refine zq ⟨.inr rfl,zay rfl trivial rfl rfl ?_⟩;show (k:Int)=((zaV isPt s:Nat):Int);rw[zek hk hall fun _=>hb]
 ·refine jb (σ':=⟨[(0,⟨.str,s⟩),(1,⟨.lit,.func (.func 112) #[] #[]⟩),(5,⟨i64,(k:Int)⟩),(10,⟨.bool,false⟩)],[],0⟩) ⟨⟨rfl,rfl,rfl,zcO (decide_eq_false (by omega)),trivial⟩,trivial,rfl,rfl⟩ ?_;refine AL.guardF 4 10 true .bool false rfl rfl rfl rfl rfl rfl ?_;refine AL.guardF 4 10 true .bool false rfl rfl rfl rfl rfl rfl ?_;refine AL.guardF 4 10 true .bool false rfl rfl rfl rfl rfl rfl ?_;refine AL.guardF 4 10 true .bool false rfl rfl rfl rfl rfl rfl ?_;refine AL.guardF 4 10 true .bool false rfl rfl rfl rfl rfl rfl ?_;refine zW hX zbQ rfl id ?_;refine zai rfl (fun hb=>absurd (show false=true from hb) (by decide)) (fun _=>?_);(repeat(first|apply zae|apply zac|apply zal|apply zad|apply zab|refine zaa hX zbQ rfl trivial ?_|refine zaa hX zbQ rfl id ?_|refine zaa hX zbQ rfl ⟨id,id⟩ ?_));refine zq ⟨.inr rfl,zay rfl trivial rfl rfl ?_⟩;show (k:Int)=((zaV isPt s:Nat):Int);rw[zek hk hall fun h=>absurd h hlt]
theorem zfX (c:UInt8) (r:List UInt8):zas (c::r)=if isLt c=true then zaV isPt (c::r) else 0:=rfl
def ziY:Ctr:={ args:=[.str],pre:=fun _=>[],res:=i64,own:=none,out:=fun x=>((zas x.1:Nat):Int) }
def kWl:Kn:={ gmK with C:=[(111,cLt),(52,zlc 112 isPt)] }
theorem zdp:KnOk Tryz.prog gmG kWl:=zcu.with (.cons zoD <| .cons znw .nil)
theorem zhN:yM Tryz.prog gmG 65 ziY:=by
 refine zar (K:=kWl) zdp Tryz.func65 rfl rfl Tryz.call65 rfl (by decide) (by intro h;cases h) ?_;rintro w0 X hX ⟨(s:List UInt8),_⟩ hp;change AWP _ _ _ _ _ ⟨[(0,⟨.str,s⟩)],[],0⟩ _;(repeat(first|apply zae|apply zac|apply zal|apply zad|apply zab|refine zaa hX zdp rfl trivial ?_|refine zaa hX zdp rfl id ?_|refine zaa hX zdp rfl ⟨id,id⟩ ?_));(repeat(first|apply zae|apply zac|apply zab|apply zad));refine zaj ?_;refine yA 3 hX zdp rfl trivial ?_;cases s with
 |nil=>
  refine jb (σ':=⟨[(0,⟨.str,([]:List UInt8)⟩),(5,⟨.bool,true⟩)],[],0⟩) ⟨⟨rfl,zcO (zbl.2 rfl),trivial⟩,trivial,rfl,rfl⟩ ?_;refine AL.guardF 2 5 false .bool false rfl rfl rfl rfl rfl rfl ?_;refine AL.guardF 2 5 false .bool false rfl rfl rfl rfl rfl rfl ?_;refine AL.guardF 2 5 false .bool false rfl rfl rfl rfl rfl rfl ?_;refine AL.guardF 2 5 false .bool false rfl rfl rfl rfl rfl rfl ?_;refine zW hX zdp rfl id ?_;refine zai rfl (fun _=>?_) (fun hb=>absurd (show true=false from hb) (by decide));(repeat(first|apply zae|apply zac|apply zal|apply zad|apply zab|refine zaa hX zdp rfl trivial ?_|refine zaa hX zdp rfl id ?_|refine zaa hX zdp rfl ⟨id,id⟩ ?_));exact zq ⟨.inr rfl,zay rfl trivial rfl rfl rfl⟩
 |cons c r=>
  refine jb (σ':=⟨[(0,⟨.str,(c::r:List UInt8)⟩),(5,⟨.bool,false⟩)],[],0⟩) ⟨⟨rfl,zcO (Bool.eq_false_iff.2 fun h=>by cases zbl.1 h),trivial⟩,trivial,rfl,rfl⟩ ?_;have n1:(0:Int) < (((c::r).length:Nat):Int):=by rw[zs];omega
  refine zW hX zdp rfl ⟨fun _=>⟨rfl,qN 0,n1⟩,fun _=>rfl,fun _=>rfl,fun _=>rfl⟩ ?_;refine zai rfl (fun hb=>?_) (fun hb=>?_)
  ·have hb:(!isLt c)=true:=hb;(repeat(first|apply zae|apply zac|apply zal|apply zad|apply zab|refine zaa hX zdp rfl trivial ?_|refine zaa hX zdp rfl id ?_|refine zaa hX zdp rfl ⟨id,id⟩ ?_));refine zq ⟨.inr rfl,zay rfl trivial rfl rfl ?_⟩;show (0:Int)=((zas (c::r):Nat):Int);rw[zfX,if_neg (by simpa using hb)];rfl
  ·have hb:(!isLt c)=false:=hb;apply zac;refine za (za ?_);refine zaa hX zdp rfl ?_ ?_
   ·exact rfl
   refine zq ⟨.inr rfl,zay rfl trivial rfl rfl ?_⟩;show ((zaV isPt (c::r):Nat):Int)=((zas (c::r):Nat):Int);rw[zfX,if_pos (by simpa using hb)]
def numA (acc:Nat) (l:List UInt8):Nat:=l.foldl (fun n c=>10 * n+(c.toNat - 48)) acc
theorem zoa:∀ (l:List UInt8) (acc:Nat),acc≤numA acc l
 | [],_=>zk _
 |c::r,acc=>by
  have:=zoa r (10 * acc+(c.toNat - 48));show acc≤numA (10 * acc+(c.toNat - 48)) r;omega
theorem zlP (c:UInt8):isDg c=true↔48≤c.toNat∧c.toNat≤57:=by
 unfold isDg;rw[zb,decide_eq_true_iff,decide_eq_true_iff,yS,yS];exact Iff.rfl
theorem zh0:∀ (l:List UInt8) (acc:Nat),(∀ c∈l,isDg c=true)->acc < 18446744073709551616->(ky (2 ^ 64 - 1) acc l= .ok (numA acc l)∧numA acc l < 18446744073709551616)∨(ky (2 ^ 64 - 1) acc l= .range∧18446744073709551616≤numA acc l)
 | [],acc,_,ha=>.inl ⟨rfl,ha⟩
 |c::r,acc,h,ha=>by
  obtain⟨h1,h2⟩:=(zlP c).1 (h c (z8 ..));have hge:=zoa r (10 * acc+(c.toNat - 48));have e:numA acc (c::r)=numA (10 * acc+(c.toNat - 48)) r:=rfl;rw[ky,if_pos ⟨h1,h2⟩,e];by_cases h3:1844674407370955162≤acc
  ·rw[if_pos h3];exact .inr ⟨rfl,by omega⟩
  ·rw[if_neg h3];have e2:acc * 10+(c.toNat - 48)=10 * acc+(c.toNat - 48):=by omega
   rw[e2];by_cases h4:2 ^ 64 - 1 < 10 * acc+(c.toNat - 48)
   ·rw[if_pos h4];exact .inr ⟨rfl,by omega⟩
   ·rw[if_neg h4];exact zh0 r _ (fun x hx=>h x (yO _ hx)) (by omega)
theorem zmM {l:List UInt8} (hl:l≠ []) (h:∀ c∈l,isDg c=true):(Lib.parseIntB 64 l= .ok ((numv l:Nat):Int))∨(Lib.parseIntB 64 l= .range∧zc0≤numv l):=by
 cases l with
 |nil=>exact absurd rfl hl
 |cons c r=>
  obtain⟨h1,h2⟩:=(zlP c).1 (h c (z8 ..));rw[Lib.parseIntB_plain 64 c r (by omega) (by omega)];unfold Lib.parseUintB;rw[if_neg (by simp)];have e:numv (c::r)=numA 0 (c::r):=rfl;rw[e];unfold zc0;rcases zh0 (c::r) 0 h (by omega) with ⟨h3,h4⟩|⟨h3,h4⟩
  ·rw[h3];unfold Lib.signlessC;by_cases h5:2 ^ (64 - 1)≤numA 0 (c::r)
   ·exact .inr ⟨if_pos h5,by omega⟩
   ·exact .inl (if_neg h5)
  ·rw[h3];exact .inr ⟨rfl,by omega⟩
def zpk (s:List UInt8) (v:Int) (ev:zg):Prop:=(ev= .nilIface∧v=((numv s:Nat):Int))∨((∃ t p,ev= .iface t p)∧zc0≤numv s)
theorem ziA {s:List UInt8} (hs:s≠ []) (hd:∀ c∈s,isDg c=true) (hl:s.length≤100000) (w:zi) (hG:gmH w):
  Calls Tryz.prog 177 #[.string ⟨s.toArray⟩,.int .i64 10,.int .i64 64] w fun e w'=>∃ v ev,e= .returned (.tuple #[.int .i64 v,ev])∧yJ w.heap.size w w'∧zpk s v ev:=by
 rcases zmM hs hd with h1|⟨h1,h2⟩
 ·refine km (Any.strconv_ParseInt_10_at64_ok Tryz.laysC174 ⟨s.toArray⟩ (by show s.length≤9223372036854775806;omega) _ h1 w) ?_;rintro e w' ⟨rfl,hw⟩;refine⟨_,_,rfl,?_,.inl ⟨rfl,rfl⟩⟩;rcases hw with rfl|⟨t,rfl⟩
  ·exact zO _ _
  ·exact Lib.bytesWorld_below _ _ _
 ·obtain⟨ev,hv,hev⟩:=hG.2;refine km (Any.strconv_ParseInt_10_at64_range Tryz.laysC174 ⟨s.toArray⟩ (by show s.length≤281474976710656;omega) h1 ev w hv hev) ?_;rintro e w' ⟨N,rfl,_,_,hb⟩;exact⟨_,_,rfl,hb,.inr ⟨⟨_,_,rfl⟩,h2⟩⟩
theorem zfa {α:Type} {p:α->Bool} {c:α}:∀ {l:List α},c∈l.takeWhile p->p c=true
 |x::l,h=>by
  rw[xQ]at h;split at h
  ·rename_i hx;rcases List.mem_cons.1 h with rfl|h
   ·exact hx
   ·exact zfa h
  ·cases h
theorem errT:Tryz.prog.underlying 114=some (.interface (Tryz.prog.methodsAt 114)):=by kernel_rfl
def zjX:zg->Bool
 | .nilIface=>true
 |_=>false
theorem eqlNil {a:Act} {w:zi} {x:zF} {d:Nat} {ty:zo} {pos:String} {af:Array Edge} {ev:zg} (hx:a.eval x=ev) (he:ev= .nilIface∨∃ t p,ev= .iface t p):
  (execOp a.eval { dst:=some d,op:=Op.binOp .eql 114 x (.const .nilIface) 114,type:=ty,pos:=pos,after:=af,guard:=none }).run Tryz.prog w= .ok (.value (.bool (zjX ev))) w:=by
 have hn:a.eval (.const .nilIface)= .nilIface:=rfl;unfold execOp;rcases he with rfl|⟨t,p,rfl⟩
 ·simp[hx,hn,eqGuard,run_eql_nil_nil _ _ errT,zjX]
 ·simp[hx,hn,eqGuard,run_eql_held_nil _ _ _ _ errT,zjX]
theorem zsh:(1125899906842624:Int)=((zc0:Nat):Int):=by decide
theorem zmG (M:Int) (hM:M=((zc0:Nat):Int)) {s:List UInt8} {v:Int} {ev:zg} {b:Bool} (hend:zpk s v ev) (hb:b=zjX ev):(bif b then decide (v < M) else false)=true↔(b=true∧v=((numv s:Nat):Int)∧numv s < zc0):=by
 rcases hend with ⟨rfl,rfl⟩|⟨⟨t,p,rfl⟩,hn⟩
 ·rw[hb];show decide (((numv s:Nat):Int) < M)=true↔_;rw[decide_eq_true_iff];exact⟨fun h=>⟨rfl,rfl,by omega⟩,fun h=>by omega⟩
 ·rw[hb];exact⟨fun h=>(by cases h),fun h=>(by cases h.1)⟩
abbrev zTk:TokT:=(0,0,0,[],0,())
def zey (s:List UInt8):TokT×Bool×Unit:=match zct s with
 |some (k,n,t,x)=>((k,0,(n:Nat),t,x,()),true,())
 |none=>(zTk,false,())
def zmd:Ctr:={ args:=[.str],pre:=fun x=>[x.1≠ [],zd x.1≤100000],res:=.tup tk (.tup .bool .unit),own:=none,out:=fun x=>zey x.1 }
def kNu:Kn:={ gmK with C:=[(52,zlc 113 isDg)] }
theorem zbB:KnOk Tryz.prog gmH kNu:=zak.with (.cons znx.lift .nil)
theorem zmR:yM Tryz.prog gmH 131 zmd:=by
 refine zar (K:=kNu) zbB Tryz.func131 rfl rfl Tryz.call131 rfl (by decide) (by intro h;cases h) ?_;rintro w0 X hX ⟨(s:List UInt8),_⟩ hp;obtain⟨hne,hlen⟩:s≠ []∧s.length≤100000:=hp;change AWP _ _ _ _ _ ⟨[(0,⟨.str,s⟩)],[],0⟩ _;have hpos:0 < s.length:=List.length_pos_iff.2 hne;(repeat(first|apply zae|apply zac|apply zal|apply zad|apply zab|refine zaa hX zbB rfl trivial ?_|refine zaa hX zbB rfl id ?_|refine zaa hX zbB rfl ⟨id,id⟩ ?_));have n0:(0:Int) < ((s.length:Nat):Int):=by omega
 refine za (za ?_);refine zaa hX zbB rfl ?_ ?_
 ·exact⟨qN 0,n0⟩
 have hsg:zaN s≤1∧zaN s≤s.length:=by
  unfold zaN;split<;>omega
 obtain⟨c,r,rfl⟩:∃ c r,s=c::r:=by
  cases s with
  |nil=>exact absurd rfl hne
  |cons c r=>exact⟨c,r,rfl⟩
 refine AWP.viaQ (σ':=⟨[(0,⟨.str,(c::r:List UInt8)⟩),(2,⟨.optr tk,⟨0,tk,.here⟩⟩),(3,⟨.bool,false⟩),(4,⟨i64,((zaN (c::r):Nat):Int)⟩)],[(0,some (.box tk zTk))],1⟩) ?_ ?_
 ·refine zai rfl (fun hb=>?_) (fun hb=>?_)
  ·have hb:(((c.toNat:Nat):Int)==(((45:UInt8).toNat:Nat):Int))=true:=hb;rw[u8eq,beq_iff_eq]at hb;subst hb;refine za (za ?_);refine zaa hX zbB rfl ?_ ?_
   ·trivial
   exact⟨⟨rfl,rfl,rfl,rfl,trivial⟩,⟨rfl,trivial⟩,rfl,rfl⟩
  ·have hb:(((c.toNat:Nat):Int)==(((45:UInt8).toNat:Nat):Int))=false:=hb;rw[u8eq]at hb;have hs0:zaN (c::r)=0:=by
    unfold zaN;rw[if_neg];intro h;rw[zN h]at hb;cases hb
   apply zac;exact⟨⟨rfl,rfl,rfl,vI64 (by rw[hs0];rfl),trivial⟩,⟨rfl,trivial⟩,rfl,rfl⟩
 generalize hs:(c::r:List UInt8)=s at *;have p0:(0:Int)≤((zaN s:Nat):Int):=by omega
 have p1:((zaN s:Nat):Int)≤((s.length:Nat):Int):=by omega
 refine za (za ?_);refine zaa hX zbB rfl ?_ ?_
 ·exact⟨p0,p1,rfl⟩
 have hdl:(zaL s).length≤s.length - zaN s:=by
  have:(zaL s).length≤(s.drop (zaN s)).length:=(xT _).length_le;rwa[yX]at this
 have hd5:((zaV isDg (jt (((zaN s:Nat):Int)).toNat s):Nat):Int)=(((zaL s).length:Nat):Int):=by
  rw[zL];rfl
 refine zap (σ':=⟨[(0,⟨.str,s⟩),(2,⟨.optr tk,⟨0,tk,.here⟩⟩),(3,⟨.bool,false⟩),(4,⟨i64,((zaN s:Nat):Int)⟩),(5,⟨i64,(((zaL s).length:Nat):Int)⟩)],[(0,some (.box tk zTk))],1⟩) ⟨⟨rfl,rfl,rfl,rfl,vI64 hd5,trivial⟩,⟨rfl,trivial⟩,rfl,rfl⟩ ?_;refine za (za ?_);refine zaa hX zbB rfl ?_ ?_
 ·trivial
 refine zai rfl (fun hb=>?_) (fun hb=>?_)
 ·have hb:decide ((((zaL s).length:Nat):Int)=0)=true:=hb;have hb:=of_decide_eq_true hb;(repeat(first|apply zae|apply zac|apply zal|apply zad|apply zab|refine zaa hX zbB rfl trivial ?_|refine zaa hX zbB rfl id ?_|refine zaa hX zbB rfl ⟨id,id⟩ ?_));refine zq ⟨.inr rfl,zba (by decide) rfl rfl trivial ?_⟩;show (zTk,(false,()))=zey s;unfold zey zct;rw[if_pos (by omega)]
 have hb:decide ((((zaL s).length:Nat):Int)=0)=false:=hb;have hd0:(zaL s).length≠0:=fun h=>of_decide_eq_false hb (by omega);apply zac;have q0:inR .i64 (((zaN s:Nat):Int)+(((zaL s).length:Nat):Int)):=zav (by omega) (by omega);have q1:(0:Int)≤((zaN s:Nat):Int)+(((zaL s).length:Nat):Int):=by omega
 have q2:((zaN s:Nat):Int)+(((zaL s).length:Nat):Int)≤((s.length:Nat):Int):=by omega
 have q3:((zaN s:Nat):Int) < ((s.length:Nat):Int):=by omega
 refine za (za ?_);refine zaa hX zbB rfl ?_ ?_
 ·exact⟨q0,q0,q1,q2⟩
 have hm:((zaN s:Nat):Int)+(((zaL s).length:Nat):Int)=((zaN s+(zaL s).length:Nat):Int):=by omega
 refine zap (σ':=⟨[(0,⟨.str,s⟩),(2,⟨.optr tk,⟨0,tk,.here⟩⟩),(3,⟨.bool,false⟩),(4,⟨i64,((zaN s:Nat):Int)⟩),(5,⟨i64,(((zaL s).length:Nat):Int)⟩),(6,⟨.optr tk,⟨1,tk,.here⟩⟩)],[(0,some (.box tk zTk)),(1,some (.box tk (3,0,((zaN s+(zaL s).length:Nat):Int),s.take (zaN s+(zaL s).length),1125899906842624,())))],2⟩) ⟨⟨rfl,rfl,rfl,rfl,rfl,rfl,trivial⟩,⟨rfl,zft ?_,trivial⟩,rfl,rfl⟩ ?_
 ·show ((3:Int),(0:Int),((zaN s:Nat):Int)+(((zaL s).length:Nat):Int),List.take (((zaN s:Nat):Int)+(((zaL s).length:Nat):Int)).toNat s,(1125899906842624:Int),())=_;rw[hm,zL]
 have hds:zaL s=(s.drop (zaN s)).takeWhile isDg:=rfl;have hhd:(zaL s).head? =some (s.getD (zaN s) 0):=by
  rw[hds];have hne2:(s.drop (zaN s)).takeWhile isDg≠ []:=fun h=>hd0 (by rw[hds,h];rfl);rw[List.head?_eq_some_head hne2,List.head_takeWhile]
  congr 1
  rw[List.head_drop,List.getD_eq_getElem?_getD,List.getElem?_eq_getElem (by omega)];rfl
 refine za (za ?_);refine zaa hX zbB rfl ?_ ?_
 ·exact⟨p0,q3,fun h=>⟨h,h,q0⟩,fun h=>h,fun h=>h⟩
 have htest:(bif ((((s.getD (((zaN s:Nat):Int)).toNat 0).toNat:Nat):Int)==(((48:UInt8).toNat:Nat):Int)) then decide (((zaN s:Nat):Int)+(((zaL s).length:Nat):Int) > 1) else false)=decide ((zaL s).head? =some 48∧1 < zaN s+(zaL s).length):=by
  rw[u8eq,zcg,zL,hhd,yz,zb,beq_iff_eq,decide_eq_true_iff,decide_eq_true_iff,Option.some_inj];constructor
  ·rintro ⟨h1,h2⟩;exact⟨h1,by omega⟩
  ·rintro ⟨h1,h2⟩;exact⟨h1,by omega⟩
 have hno:zct s=if (zaL s).head? =some 48∧1 < zaN s+(zaL s).length then some (5,zaN s+(zaL s).length,s.take (zaN s+(zaL s).length),(zc0:Int)) else some (3,zaN s+(zaL s).length,s.take (zaN s+(zaL s).length),valN s):=by
  rw[zct,if_neg hd0]
 refine zai rfl (fun hb=>?_) (fun hb=>?_)
 ·have hb:=htest.symm.trans hb;have hb:=of_decide_eq_true hb;(repeat(first|apply zae|apply zac|apply zal|apply zad|apply zab|refine zaa hX zbB rfl trivial ?_|refine zaa hX zbB rfl id ?_|refine zaa hX zbB rfl ⟨id,id⟩ ?_));refine zq ⟨.inr rfl,zba (by decide) rfl rfl trivial ?_⟩;show (((5:Int),(0:Int),((zaN s+(zaL s).length:Nat):Int),s.take (zaN s+(zaL s).length),(1125899906842624:Int),()),(true,()))=zey s;unfold zey;rw[hno,if_pos hb];rfl
 have hb:=htest.symm.trans hb;have hb:=of_decide_eq_false hb;rw[if_neg hb]at hno;apply zac;have hlist:((s.take ((((zaN s:Nat):Int)+(((zaL s).length:Nat):Int))).toNat).drop (((zaN s:Nat):Int)).toNat)=zaL s:=by
  rw[hm,zL,zL,List.drop_take,Nat.add_sub_cancel_left,hds];exact List.prefix_iff_eq_take.1 (xT isDg) |>.symm
 have hdig:∀ c∈zaL s,isDg c=true:=fun c hc=>by
  rw[hds]at hc;exact zfa hc
 have hdne:zaL s≠ []:=fun h=>hd0 (by rw[h];rfl);(repeat(first|apply zae|apply zac|apply zab|apply zad));refine zaj ?_;refine yA 6 hX zbB rfl ⟨q0,p0,(by omega:((zaN s:Nat):Int)≤((zaN s:Nat):Int)+(((zaL s).length:Nat):Int)),q2⟩ ?_;refine qq rfl (fun c e=>by cases e) fun β a w hsim=>?_;have h46:a.eval (.tmp 46)= .string ⟨(zaL s).toArray⟩:=by
  have:=(RepV.str (hsim.ops (.tmp 46))).1;rwa[hlist]at this
 refine zgi (f:=177) rfl Tryz.call177 ?_;show Calls _ _ ((#[kz 46,.const (.int .i64 10),.const (.int .i64 64)].toList.map a.eval).toArray) _ _;rw[show ((#[kz 46,.const (.int .i64 10),.const (.int .i64 64)].toList.map a.eval).toArray:Array zg)= #[.string ⟨(zaL s).toArray⟩,.int .i64 10,.int .i64 64] by show #[a.eval (.tmp 46),_,_]=_;rw[h46];rfl];refine (ziA hdne hdig (by omega) w (hX.2.2 w hsim.bel)).mono ?_;rintro e w'' ⟨v,ev,rfl,hb2,hend⟩;refine⟨_,rfl,⟨(47,⟨.lit,.tuple #[.int .i64 v,ev]⟩)::_,_,_⟩,β,hsim.put hb2 (v:=⟨.lit,.tuple #[.int .i64 v,ev]⟩) rfl (zl _) (by show 47 < 65;omega),?_⟩;refine yA 1 hX zbB rfl trivial ?_;refine qq rfl (fun c e=>by cases e) fun β a w' hs'=>?_;have h33:a.eval (.tmp 40)= .tuple #[.int .i64 v,ev]:=hs'.ops (.tmp 40);refine zbt (u:=.int .i64 v) (w':=w') ?_ ⟨⟨(48,⟨i64,v⟩)::_,_,_⟩,β,hs'.put (zO _ _) (v:=⟨i64,v⟩) (RepV.ofInt (k:=.i64)) (zl _) (by show 48 < 65;omega),?_⟩
 ·show (execOp a.eval { dst:=some 48,op:=Op.extract (.tmp 40) 0,type:=_,pos:=_,after:=_,guard:=none }).run _ _=_;unfold execOp;simp[h33,jE]
 refine qq rfl (fun c e=>by cases e) fun β a w' hs'=>?_;have h33:a.eval (.tmp 40)= .tuple #[.int .i64 v,ev]:=hs'.ops (.tmp 40);refine zbt (u:=ev) (w':=w') ?_ ⟨⟨(49,⟨.lit,ev⟩)::_,_,_⟩,β,hs'.put (zO _ _) (v:=⟨.lit,ev⟩) rfl (zl _) (by show 49 < 65;omega),?_⟩
 ·show (execOp a.eval { dst:=some 49,op:=Op.extract (.tmp 40) 1,type:=_,pos:=_,after:=_,guard:=none }).run _ _=_;unfold execOp;simp[h33,jE]
 refine zW hX zbB rfl trivial ?_;refine zap (σ':=⟨[(0,⟨.str,s⟩),(2,⟨.optr tk,⟨0,tk,.here⟩⟩),(4,⟨i64,((zaN s:Nat):Int)⟩),(6,⟨.optr tk,⟨1,tk,.here⟩⟩),(7,⟨i64,v⟩),(8,⟨.lit,ev⟩)],[(0,some (.box tk zTk)),(1,some (.box tk (3,0,((zaN s+(zaL s).length:Nat):Int),s.take (zaN s+(zaL s).length),1125899906842624,())))],2⟩) ⟨⟨rfl,rfl,rfl,rfl,rfl,rfl,trivial⟩,⟨rfl,rfl,trivial⟩,rfl,rfl⟩ ?_;(repeat(first|apply zae|apply zac|apply zab|apply zad));refine zaj ?_;refine yA 1 hX zbB rfl trivial ?_;refine qq rfl (fun c e=>by cases e) fun β a w' hs'=>?_;have h38:a.eval (.tmp 50)=ev:=hs'.ops (.tmp 50);obtain⟨b,hbv⟩:∃ b,b=zjX ev:=⟨_,rfl⟩;refine zbt (u:=.bool b) (w':=w') (by rw[hbv];exact eqlNil h38 (hend.imp (fun h=>h.1) (fun h=>h.1))) ⟨⟨(51,⟨.bool,b⟩)::_,_,_⟩,β,hs'.put (zO _ _) (v:=⟨.bool,b⟩) RepV.ofBool (zl _) (by show 51 < 65;omega),?_⟩;have hsmall:(bif b then decide (v < 1125899906842624) else false)=true↔(b=true∧v=((numv (zaL s):Nat):Int)∧numv (zaL s) < zc0):=zmG _ zsh hend hbv;have hbig:¬ (bif b then decide (v < 1125899906842624) else false)=true->zc0≤numv (zaL s):=fun h=>by
  rcases hend with ⟨rfl,rfl⟩|⟨⟨t,p,rfl⟩,hn⟩
  ·rcases Nat.lt_or_ge (numv (zaL s)) zc0 with h1|h1
   ·exact absurd (hsmall.2 ⟨hbv,rfl,h1⟩) h
   ·exact h1
  ·exact hn
 refine zW hX zbB rfl ?_ ?_
 ·exact⟨fun h=>h,fun h=>h⟩
 have hfin:valN s=if zaN s=1 then -((min (numv (zaL s)) zc0:Nat):Int) else ((min (numv (zaL s)) zc0:Nat):Int):=rfl
 refine AWP.viaQ (σ':=⟨[(2,⟨.optr tk,⟨0,tk,.here⟩⟩),(4,⟨i64,((zaN s:Nat):Int)⟩),(6,⟨.optr tk,⟨1,tk,.here⟩⟩)],[(0,some (.box tk zTk)),(1,some (.box tk (3,0,((zaN s+(zaL s).length:Nat):Int),s.take (zaN s+(zaL s).length),((min (numv (zaL s)) zc0:Nat):Int),())))],2⟩) ?_ ?_
 ·refine zai rfl (fun hb=>?_) (fun hb=>?_)
  ·have hb:(bif b then decide (v < 1125899906842624) else false)=true:=hb;obtain⟨_,h2,h3⟩:=hsmall.1 hb;refine za (za ?_);refine zaa hX zbB rfl ?_ ?_
   ·trivial
   refine⟨⟨rfl,rfl,rfl,trivial⟩,⟨rfl,zft ?_,trivial⟩,rfl,rfl⟩;rw[Nat.min_eq_left (Nat.le_of_lt h3), <-h2]
  ·have hb:¬ (bif b then decide (v < 1125899906842624) else false)=true:=by
    intro h;have hb:(bif b then decide (v < 1125899906842624) else false)=false:=hb;rw[hb]at h;cases h
   refine zac ⟨⟨rfl,rfl,rfl,trivial⟩,⟨rfl,zft ?_,trivial⟩,rfl,rfl⟩;rw[Nat.min_eq_right (hbig hb)];rfl
 have hbnd:((min (numv (zaL s)) zc0:Nat):Int)≤1125899906842624:=by
  have:=Nat.min_le_right (numv (zaL s)) zc0;unfold zc0 at *;omega
 refine za (za ?_);refine zaa hX zbB rfl ?_ ?_
 ·trivial
 refine AWP.viaQ (σ':=⟨[(2,⟨.optr tk,⟨0,tk,.here⟩⟩),(6,⟨.optr tk,⟨1,tk,.here⟩⟩)],[(0,some (.box tk zTk)),(1,some (.box tk (3,0,((zaN s+(zaL s).length:Nat):Int),s.take (zaN s+(zaL s).length),valN s,())))],2⟩) ?_ ?_
 ·refine zai rfl (fun hb=>?_) (fun hb=>?_)
  ·have hb:decide (((zaN s:Nat):Int)=1)=true:=hb;have hb:=of_decide_eq_true hb;refine za (za ?_);refine zaa hX zbB rfl ?_ ?_
   ·show inR .i64 (-((min (numv (zaL s)) zc0:Nat):Int));exact zav (by omega) (by omega)
   refine⟨⟨rfl,rfl,trivial⟩,⟨rfl,zft ?_,trivial⟩,rfl,rfl⟩;rw[hfin,if_pos (by omega)]
  ·have hb:decide (((zaN s:Nat):Int)=1)=false:=hb;have hb:=of_decide_eq_false hb;refine zac ⟨⟨rfl,rfl,trivial⟩,⟨rfl,zft ?_,trivial⟩,rfl,rfl⟩;rw[hfin,if_neg (by omega)]
 (repeat(first|apply zae|apply zac|apply zal|apply zad|apply zab|refine zaa hX zbB rfl trivial ?_|refine zaa hX zbB rfl id ?_|refine zaa hX zbB rfl ⟨id,id⟩ ?_));refine zq ⟨.inr rfl,zba (by decide) rfl rfl trivial ?_⟩;show (((3:Int),(0:Int),((zaN s+(zaL s).length:Nat):Int),s.take (zaN s+(zaL s).length),valN s,()),(true,()))=zey s;unfold zey;rw[hno]
section
open Go Go.RowKit Go.ChangeShapes Go.WideShapes Go.ChangeAt
theorem own:ownKnob Tryz.prog.godebug=none:=by kernel_rfl
theorem zr8:laidOutB Tryz.prog=true:=by kernel_rfl
abbrev zov:List (String×DataW Unit):=Rows.grammarParseMatchesReferenceRow.laid
theorem tab_eq:(zov.filter fun x=>x.1=="internal/strconv.uint64pow10")=[("internal/strconv.uint64pow10",Lib.tabData .u64 Lib.pow10Tab)]:=by kernel_rfl
theorem err_eq:(zov.filter fun x=>x.1=="strconv.ErrRange")=[("strconv.ErrRange",Rows.laid_strconv_ErrRange)]:=by kernel_rfl
theorem zmS:(zov.filter fun x=>x.2.handleName?.isSome)=[]:=by kernel_rfl
theorem zqt:(Tryz.prog.globals[5]?).map (·.type)=some 267:=by kernel_rfl
theorem zqI:Tryz.prog.cellsOf 267=20:=by kernel_rfl
theorem zqH:Tryz.prog.cellsOf 236=1:=by kernel_rfl
theorem gErr:Tryz.prog.globalNamed "strconv.ErrRange"=some 4:=by kernel_rfl
theorem zqv:(Tryz.prog.globals[4]?).map (·.type)=some 114:=by kernel_rfl
theorem zsG {W:zi} (h:laidMetH Tryz.prog zov W):gmH W:=by
 have h1:laidMet Tryz.prog zov W:=by
  have:=(laidMetH_iff.1 h).1;rwa[List.filter_eq_self.2 (fun x hx=>by
   have hn:=(List.filter_eq_nil_iff.1 zmS) x hx;cases he:x.2.handleName? with
   |none=>rfl
   |some s=>rw[he]at hn;exact absurd rfl hn)]at this
 have ht:=h1.filter fun x=>x.1=="internal/strconv.uint64pow10";have he:=h1.filter fun x=>x.1=="strconv.ErrRange";rw[tab_eq]at ht;rw[err_eq]at he;refine⟨Lib.tabIs_of_head (rest:=[]) zsm zqt Tryz.underlying267 Tryz.underlying236 zqH zqI ht,?_⟩;obtain⟨ps,⟨g',t',cs,fuel,p,q,hg',ht',hvar,hd,_,_⟩,_⟩:=he;obtain rfl:=zN (gErr.symm.trans hg');obtain rfl:=zN (zqv.symm.trans ht');obtain⟨_,u,v,hcs,_,_⟩:=iface_of_trod errT hd;refine⟨.iface u v,?_,.inr ⟨u,v,rfl⟩⟩;unfold uH at hvar;rw[gErr]at hvar;simp only[jv]at hvar;unfold xD;cases ho:W.heap[4]? with
 |none=>rw[ho]at hvar;cases hvar
 |some o=>
  rw[ho]at hvar;cases o<;>simp at hvar;rename_i c t fz;subst hvar;simp;rw[<-Array.getElem?_toList,hcs];rfl
def numD:DataW Unit->Int
 | .lit (.int _ z)=>z
 |_=>0
def zoO:DataW Unit->List Int
 | .agg ds=>ds.flatMap fun d=>match d with
  | .agg es=>es.map numD
  |d=>[numD d]
 |_=>[]
def setG (g:Nat) (cs:List zg) (h:Array Obj):Array Obj:=h.modify g fun
 | .cells _ t frozen=>.cells cs.toArray t frozen
 |o=>o
noncomputable def heapW (os:Os):Array Obj:=
 let h:=(World.holding Tryz.prog os ⟨#[],#[],[]⟩).heap
 let n:=h.size
 ((setG 6 ((zoO Rows.laid_math_bits_deBruijn32tab).map (.int .u8 ·)) <|
   setG 7 ((zoO Rows.laid_math_bits_deBruijn64tab).map (.int .u8 ·)) <|
   setG 5 ((zoO Rows.laid_internal_strconv_uint64pow10).map (.int .u64 ·)) <|
   setG 1 ((zoO Rows.laid_unicode_utf8_acceptRanges).map (.int .u8 ·)) <|
   setG 0 ((zoO Rows.laid_unicode_utf8_first).map (.int .u8 ·)) <|
   setG 4 [.iface 273 (.pointer (some ⟨n,0,none⟩))] <|
   setG 3 [.iface 273 (.pointer (some ⟨n+1,0,none⟩))] h).push
    (.cells #[.string ⟨#[118,97,108,117,101,32,111,117,116,32,111,102,32,114,97,110,103,101]⟩] 275)).push
    (.cells #[.string ⟨#[105,110,118,97,108,105,100,32,115,121,110,116,97,120]⟩] 275)
noncomputable def zg6 (os:Os):zi:={ World.holding Tryz.prog os ⟨#[],#[],[]⟩ with heap:=heapW os }
end
section
variable {s:List UInt8}
theorem zdC {st st':GSt} {w:List UInt8} (he:zaQ s st w= .ok st'):st'.2=st.2:=by
 obtain⟨u,_,h2⟩:=zag he;cases h2;rfl
theorem zc1 {st st':GSt} (he:zbu s st= .ok st'):st'.2=st.2+1:=by
 obtain⟨u,_,h2⟩:=zag he;cases h2;rfl
theorem zbq {st st':GSt} {lo hi x:Int} (he:zaI s st lo hi= .ok (x,st')):st'.2=st.2:=by
 obtain⟨_,_,he⟩:=zag he;obtain⟨_,_,he⟩:=zag he;cases he;rfl
theorem zlX {lo hi:Int} {z:Bool}:∀ (k:Nat) {st st':GSt} {l l':List Int},zbI s lo hi z k st l= .ok (l',st')->st'.2=st.2
 |0,_,_,_,_,he=>by cases he
 |k+1,st,st',l,l',he=>by
  unfold zbI at he;split at he
  ·cases he;rfl
  ·obtain⟨_,_,he⟩:=zag he;obtain⟨_,_,he⟩:=zag he;obtain⟨_,_,he⟩:=zag he;obtain⟨⟨x,st1⟩,h1,he⟩:=zag he;rw[zlX k he,zbq h1]
theorem ziQ {st st':GSt} {lo hi:Int} {z:Bool} {l:List Int} (he:zcG s st lo hi z= .ok (l,st')):st'.2=st.2:=by
 obtain⟨st1,h1,he⟩:=zag he;obtain⟨⟨l1,st2⟩,h2,he⟩:=zag he;obtain⟨st3,h3,he⟩:=zag he;cases he;rw[zdC h3,zlX _ h2,zdC h1]
theorem zlW {st st':GSt} {x:Int} (he:zcY s st= .ok (x,st')):st'.2=st.2:=by
 obtain⟨_,_,he⟩:=zag he;cases he;rfl
theorem zsn {st st':GSt} {n:Nd}:∀ (w:LeafW),zcN s st w= .ok (n,st')->st'.2=st.2
 | .days,he=>by
  obtain⟨⟨x,a⟩,h1,he⟩:=zag he;obtain⟨⟨y,b⟩,h2,he⟩:=zag he;cases he;rw[zbq h2,zbq h1]
 | .years,he=>by
  obtain⟨⟨x,a⟩,h1,he⟩:=zag he;obtain⟨⟨y,b⟩,h2,he⟩:=zag he;obtain⟨⟨z,c⟩,h3,he⟩:=zag he;cases he;rw[zbq h3,zbq h2,zbq h1]
 | .months,he| .monthdays,he| .weeks,he=>by
  obtain⟨⟨x,a⟩,h1,he⟩:=zag he;obtain⟨⟨y,b⟩,h2,he⟩:=zag he;cases he;rw[ziQ h2,zbq h1]
 | .weekdays,he=>by
  obtain⟨⟨y,b⟩,h2,he⟩:=zag he;cases he;exact ziQ h2
 | .nth,he=>by
  obtain⟨⟨x,a⟩,h1,he⟩:=zag he;obtain⟨_,_,he⟩:=zag he;obtain⟨⟨y,b⟩,h2,he⟩:=zag he;obtain⟨⟨z,c⟩,h3,he⟩:=zag he;obtain⟨⟨u,d⟩,h4,he⟩:=zag he;cases he;rw[zlW h4,zbq h3,zbq h2,zbq h1]
theorem zlV {st st':GSt} {n:Nd}:∀ (w:SufW),gSuf s st w= .ok (n,st')->st'.2=st.2
 | .shift,he| .from_,he| .until_,he=>by
  obtain⟨⟨x,a⟩,h1,he⟩:=zag he;cases he;exact zbq h1
 | .also,he| .except_,he=>by
  obtain⟨⟨x,a⟩,h1,he⟩:=zag he;cases he;exact ziQ h1
 | .pos,he=>by
  obtain⟨⟨x,a⟩,h1,he⟩:=zag he;obtain⟨⟨y,b⟩,h2,he⟩:=zag he;obtain⟨⟨z,c⟩,h3,he⟩:=zag he;cases he;rw[ziQ h3,zlW h2,zbq h1]
 | .behind,he=>by
  obtain⟨⟨x,a⟩,h1,he⟩:=zag he;obtain⟨b,h2,he⟩:=zag he;cases he;rw[zdC h2,zbq h1]
def SzOk (st:GSt) (t:Tr) (st':GSt):Md->Prop
 | .binL _ t0=>st'.2+(t0.size:Int)=st.2+(t.size:Int)
 | .chainL t0=>st'.2+(t0.size:Int)=st.2+(t.size:Int)
 |_=>st'.2=st.2+(t.size:Int)
theorem zp0 {r:Md->GSt->GE (Tr×GSt)} (hr:∀ md st t st',r md st= .ok (t,st')->SzOk st t st' md):∀ md st t st',zaW s r md st= .ok (t,st')->SzOk st t st' md
 | .bin i,st,t,st',he=>by
  rw[zaW]at he;split at he
  ·exact hr .chain _ _ _ he
  ·obtain⟨⟨u,a⟩,h1,he⟩:=zag he;have k1:a.2=st.2+(u.size:Int):=hr _ _ _ _ h1;have k2:st'.2+(u.size:Int)=a.2+(t.size:Int):=hr _ _ _ _ he;show st'.2=st.2+(t.size:Int);omega
 | .binL i t0,st,t,st',he=>by
  rw[zaW]at he;split at he
  ·obtain⟨a,h1,he⟩:=zag he;obtain⟨⟨u,b⟩,h2,he⟩:=zag he;have k1:=zc1 h1;have k2:b.2=a.2+(u.size:Int):=hr _ _ _ _ h2;have k3:st'.2+((t0.size+u.size+1:Nat):Int)=b.2+(t.size:Int):=hr _ _ _ _ he;show st'.2+(t0.size:Int)=st.2+(t.size:Int);omega
  ·cases he;rfl
 | .chain,st,t,st',he=>by
  rw[zaW]at he;obtain⟨⟨u,a⟩,h1,he⟩:=zag he;have k1:a.2=st.2+(u.size:Int):=hr _ _ _ _ h1;have k2:st'.2+(u.size:Int)=a.2+(t.size:Int):=hr _ _ _ _ he;show st'.2=st.2+(t.size:Int);omega
 | .chainL t0,st,t,st',he=>by
  show st'.2+(t0.size:Int)=st.2+(t.size:Int);rw[zaW]at he;split at he
  ·split at he
   ·cases he;rfl
   ·obtain⟨a,h1,he⟩:=zag he;obtain⟨⟨n,b⟩,h2,he⟩:=zag he;obtain⟨⟨u,c⟩,h3,he⟩:=zag he;have k1:=zc1 h1;have k2:=zlV _ h2;have k3:c.2=b.2+(u.size:Int):=hr _ _ _ _ h3;have k4:st'.2+((t0.size+u.size+1:Nat):Int)=c.2+(t.size:Int):=hr _ _ _ _ he;omega
   ·obtain⟨a,h1,he⟩:=zag he;obtain⟨⟨n,b⟩,h2,he⟩:=zag he;have k1:=zc1 h1;have k2:=zlV _ h2;have k4:st'.2+((t0.size+1:Nat):Int)=b.2+(t.size:Int):=hr _ _ _ _ he;omega
  ·cases he;rfl
 | .prim,st,t,st',he=>by
  show st'.2=st.2+(t.size:Int);rw[zaW]at he;split at he
  ·obtain⟨⟨u,a⟩,h1,he⟩:=zag he;obtain⟨b,h2,he⟩:=zag he;cases he;have k1:a.2=(gAdv s st).2+(t.size:Int):=hr _ _ _ _ h1;have k2:=zdC h2;have k3:(gAdv s st).2=st.2:=rfl;omega
  ·split at he
   ·obtain⟨_,_,he⟩:=zag he;obtain⟨a,h1,he⟩:=zag he;cases he;exact zc1 h1
   ·obtain⟨_,h0,he⟩:=zag he;split at he
    ·cases he
    ·obtain⟨a,h1,he⟩:=zag he;obtain⟨⟨n,b⟩,h2,he⟩:=zag he;cases he;rw[zsn _ h2];exact zc1 h1
theorem zq2:∀ (k:Nat) md st t st',prs s k md st= .ok (t,st')->SzOk st t st' md
 |0,_,_,_,_,he=>by cases he
 |k+1,md,st,t,st',he=>zp0 (zq2 k) md st t st' he
theorem zgS {md:Md} {st st':GSt} {t:Tr} (he:prsT s md st= .ok (t,st')):SzOk st t st' md:=zq2 _ _ _ _ _ he
theorem Tr.size_pos:∀ t:Tr,1≤t.size
 | .leaf _=>zk _
 | .un _ a=>Nat.le_add_left _ _
 | .bin _ a b=>Nat.le_add_left _ _
theorem zgT {i:Nat} {st:GSt} (h:GOk s st) (hi:3≤i):prsT s (.bin i) st=prsT s .chain st:=by
 rw[zcr h,zaW,if_pos hi]
theorem zgn {i:Nat} {st:GSt} (h:GOk s st) (hi:¬ 3≤i):prsT s (.bin i) st=(prsT s (.bin (i+1)) st >>= fun p=>prsT s (.binL i p.1) p.2):=by
 rw[zcr h,zaW,if_neg hi]
theorem zhZ {i:Nat} {t:Tr} {st:GSt} (h:GOk s st) (hi:gIs st (opW i)=false):prsT s (.binL i t) st= .ok (t,st):=by
 rw[zcr h,zaW,if_neg (by rw[hi];decide)]
theorem zhY {i:Nat} {t:Tr} {st:GSt} (h:GOk s st) (hi:gIs st (opW i)=true):prsT s (.binL i t) st=(zbu s st >>= fun st=>prsT s (.bin (i+1)) st >>= fun p=>prsT s (.binL i (.bin (opK i,zNd.2) t p.1)) p.2):=by
 rw[zcr h,zaW,if_pos hi]
theorem zhX {st:GSt} (h:GOk s st):prsT s .chain st=(prsT s .prim st >>= fun p=>prsT s (.chainL p.1) p.2):=by
 rw[zcr h,zaW]
theorem zd6 {t:Tr} {st:GSt} (h:GOk s st) (hc:zB st.1≠1):prsT s (.chainL t) st= .ok (t,st):=by
 rw[zcr h,zaW,if_neg hc]
theorem zf1 {t:Tr} {st:GSt} (h:GOk s st) (hc:zB st.1=1) (hw:sufW (zE st.1)=none):prsT s (.chainL t) st= .ok (t,st):=by
 rw[zcr h,zaW,if_pos hc,hw]
def sufT (t:Tr) (st:GSt):SufW->GE (Tr×GSt)
 | .behind=>gSuf s st .behind >>= fun p=>prsT s .prim p.2 >>= fun u=>.ok (.bin p.1 t u.1,u.2)
 |w=>gSuf s st w >>= fun p=>.ok (.un p.1 t,p.2)
theorem zf2 {t:Tr} {st:GSt} {w:SufW} (h:GOk s st) (hc:zB st.1=1) (hw:sufW (zE st.1)=some w):prsT s (.chainL t) st=(zbu s st >>= fun st=>sufT (s:=s) t st w >>= fun p=>prsT s (.chainL p.1) p.2):=by
 rw[zcr h,zaW,if_pos hc,hw];cases w<;>(
  simp only[sufT];cases zbu s st with
  |error e=>rfl
  |ok a=>
   show (gSuf s a _ >>= _)=((gSuf s a _ >>= _) >>= _);cases gSuf s a _ with
   |error e=>rfl
   |ok p=>
    first
    |rfl
    |(show (prsT s .prim p.2 >>= _)=((prsT s .prim p.2 >>= _) >>= _)
      cases prsT s .prim p.2<;>rfl))
end
section
variable {s:List UInt8}
def Er {α:Type} (s:List UInt8) (m:Except (Int×Int) α):Prop:=∀ er,m= .error er->0≤er.1∧er.1≤((s.length:Nat):Int)
theorem zaz {α β:Type} {m:Except (Int×Int) α} {f:α->Except (Int×Int) β} (h1:Er s m) (h2:∀ x,m= .ok x->Er s (f x)):Er s (m >>= f):=by
 intro er he;cases hm:m with
 |error e=>
  rw[hm]at he;have he:(.error e:Except (Int×Int) β)= .error er:=he;cases he;exact h1 _ hm
 |ok x=>
  rw[hm]at he;exact h2 x hm er he
theorem zc2 {α:Type} {x:α}:Er s (.ok x:Except (Int×Int) α):=fun _ h=>by cases h
theorem zqA {α:Type} {st:GSt} {e:Int} (h:GOk s st):Er s (.error (Tok.at st.1,e):Except (Int×Int) α):=fun er he=>by
 cases he;obtain⟨⟨⟨a1,a2,a3⟩,_⟩,_⟩:=h;exact⟨a1,by show Tok.at st.1≤_;omega⟩
theorem zbW {st:GSt} {b:Bool} {e:Int} (h:GOk s st):Er s (zaC st b e):=by
 unfold zaC;split
 ·exact zc2
 ·exact zqA h
theorem zee {st:GSt} {w:List UInt8} (h:GOk s st):Er s (zaQ s st w):=zaz (zbW h) fun _ _=>zc2
theorem zfm {st:GSt} (h:GOk s st):Er s (zbu s st):=zaz (zbW h) fun _ _=>zc2
theorem zbD {st:GSt} {lo hi:Int} (h:GOk s st):Er s (zaI s st lo hi):=zaz (zbW h) fun _ _=>zaz (zbW h) fun _ _=>zc2
theorem zl1 {lo hi:Int} {z:Bool}:∀ (k:Nat) {st:GSt} {l:List Int},GOk s st->Er s (zbI s lo hi z k st l)
 |0,_,_,h=>zqA h
 |k+1,st,l,h=>by
  unfold zbI;split
  ·exact zc2
  ·exact zaz (zbW h) fun _ _=>zaz (zbW h) fun _ _=>zaz (zbW h) fun _ _=>zaz (zbD h) fun p hp=>zl1 k (zam h hp).1.1
theorem ziS {st:GSt} {lo hi:Int} {z:Bool} (h:GOk s st):Er s (zcG s st lo hi z):=
 zaz (zee h) fun a ha=>zaz (zl1 _ (zbf h ha).1) fun p hp=>zaz (zee (by
  rcases zhd _ (zbf h ha).1 hp with e|k
  ·rw[e];exact (zbf h ha).1
  ·exact k.1)) fun _ _=>zc2
theorem zl0 {st:GSt} (h:GOk s st):Er s (zcY s st):=zaz (zbW h) fun _ _=>zc2
theorem zsD {st:GSt} (h:GOk s st):∀ w:LeafW,Er s (zcN s st w)
 | .days=>zaz (zbD h) fun p hp=>zaz (zbD (zam h hp).1.1) fun _ _=>zc2
 | .years=>zaz (zbD h) fun p hp=>zaz (zbD (zam h hp).1.1) fun q hq=>zaz (zbD (zam (zam h hp).1.1 hq).1.1) fun _ _=>zc2
 | .months| .monthdays| .weeks=>zaz (zbD h) fun p hp=>zaz (ziS (zam h hp).1.1) fun _ _=>zc2
 | .weekdays=>zaz (ziS h) fun _ _=>zc2
 | .nth=>zaz (zbD h) fun p hp=>zaz (zbW (zam h hp).1.1) fun _ _=>zaz (zbD (zam h hp).1.1) fun q hq=>zaz (zbD (zam (zam h hp).1.1 hq).1.1) fun r hr=>zaz (zl0 (zam (zam (zam h hp).1.1 hq).1.1 hr).1.1) fun _ _=>zc2
theorem zq9 {st:GSt} (h:GOk s st):∀ w:SufW,Er s (gSuf s st w)
 | .shift| .from_| .until_=>zaz (zbD h) fun _ _=>zc2
 | .also| .except_=>zaz (ziS h) fun _ _=>zc2
 | .pos=>zaz (zbD h) fun p hp=>zaz (zl0 (zam h hp).1.1) fun q hq=>zaz (ziS (zdA (zam h hp).1.1 hq).1) fun _ _=>zc2
 | .behind=>zaz (zbD h) fun p hp=>zaz (zee (zam h hp).1.1) fun _ _=>zc2
theorem zds {md:Md} {st st':GSt} (h:GOk s st) (k:Cons s st st' md):GOk s st':=by
 cases md with
 |bin i=>exact k.1
 |chain=>exact k.1
 |prim=>exact k.1
 |binL i t=>
  rcases k with rfl|k
  ·exact h
  ·exact k.1
 |chainL t=>
  rcases k with rfl|k
  ·exact h
  ·exact k.1
theorem zdT:∀ (k:Nat) (md:Md) (st:GSt),GOk s st->Er s (prs s k md st)
 |0,_,_,h=>zqA h
 |k+1,.bin i,st,h=>by
  unfold prs;rw[zaW];split
  ·exact zdT k _ _ h
  ·exact zaz (zdT k _ _ h) fun p hp=>zdT k _ _ (zds h (zbj k _ _ _ _ h hp))
 |k+1,.binL i t,st,h=>by
  unfold prs;rw[zaW];split
  ·rename_i hi;refine zaz (zfm h) fun a ha=>?_;have k1:=zaP h (zcv hi) ha;exact zaz (zdT k _ _ k1.1) fun p hp=>zdT k _ _ (zds k1.1 (zbj k _ _ _ _ k1.1 hp))
  ·exact zc2
 |k+1,.chain,st,h=>by
  unfold prs;rw[zaW];exact zaz (zdT k _ _ h) fun p hp=>zdT k _ _ (zds h (zbj k _ _ _ _ h hp))
 |k+1,.chainL t,st,h=>by
  unfold prs;rw[zaW];split
  ·rename_i hc;split
   ·exact zc2
   ·refine zaz (zfm h) fun a ha=>?_;have k1:=zaP h (by rw[hc];decide) ha;refine zaz (zq9 k1.1 _) fun p hp=>?_;have k2:=zcT k1.1 _ hp;exact zaz (zdT k _ _ k2.1) fun q hq=>zdT k _ _ (zds k2.1 (zbj k _ _ _ _ k2.1 hq))
   ·refine zaz (zfm h) fun a ha=>?_;have k1:=zaP h (by rw[hc];decide) ha;refine zaz (zq9 k1.1 _) fun p hp=>?_;have k2:=zcT k1.1 _ hp;exact zdT k _ _ k2.1
  ·exact zc2
 |k+1,.prim,st,h=>by
  unfold prs;rw[zaW];split
  ·rename_i hi;have k0:=zbV h (zcv hi);exact zaz (zdT k _ _ k0.1) fun p hp=>zaz (zee (zds k0.1 (zbj k _ _ _ _ k0.1 hp))) fun _ _=>zc2
  ·split
   ·exact zaz (zbW h) fun _ _=>zaz (zfm h) fun _ _=>zc2
   ·refine zaz (zbW h) fun u hu=>?_;have hc:=zaK hu;rw[beq_iff_eq]at hc;split
    ·exact zqA h
    ·refine zaz (zfm h) fun a ha=>?_;have k1:=zaP h (by rw[hc];decide) ha;exact zaz (zsD k1.1 _) fun _ _=>zc2
theorem zoW {st:GSt} (h:GOk s st):Er s (zdB s st):=
 zaz (zdT _ _ _ h) fun p hp=>zaz (zbW (zds h (zbj _ _ _ _ _ h hp))) fun _ _=>zc2
end
def cSym:Ctr:={ args:=[.str,.str],pre:=fun x=>[x.1=[40,41,61],∃ c,x.2.1=[c]],res:=.bool,own:=none,out:=fun x=>decide (0≤xd x.1 (x.2.1.getD 0 0)) }
theorem sym_ok:yM Tryz.prog gmG 132 cSym:=by
 refine⟨Tryz.call132,fun w O xs vs hO hr hp hG=>?_⟩;obtain⟨(s:List UInt8),(d:List UInt8),_⟩:=xs;obtain⟨h1,c,h2⟩:s=[40,41,61]∧∃ c,d=[c]:=hp;subst h1;subst h2;obtain⟨v1,r1,rfl,e1,v2,r2,rfl,e2,rfl⟩:=hr;have e1: [v1]=[qY ⟨#[40,41,61]⟩]∧_:=e1;have e2: [v2]=[qY ⟨#[c]⟩]∧_:=e2;obtain⟨e1,_⟩:=e1;obtain⟨e2,_⟩:=e2;cases e1;cases e2;refine km (Any.strings_Contains_one Tryz.lays144 ⟨#[40,41,61]⟩ c w) ?_;rintro e w' ⟨rfl,rfl⟩;refine⟨_,rfl,zO _ _,fun β=>?_⟩;rfl
def zhC (sk:Nat):List UInt8->TokT
 | []=>(0,(sk:Int),0,[],0,())
 |c::r=>
  if 0 < zas (c::r) then (1,(sk:Int),(zas (c::r):Nat),(c::r).take (zas (c::r)),0,())
  else if c=64∧0 < zas r then (2,(sk:Int),(zas r:Nat)+1,r.take (zas r),0,())
  else match zct (c::r) with
   |some (k,n,t,x)=>(k,(sk:Int),(n:Nat),t,x,())
   |none=>if c=40∨c=41∨c=61 then (4,(sk:Int),1,[c],0,()) else (5,(sk:Int),1,[c],0,())
theorem znH (sk:Nat) (c:UInt8) (r:List UInt8) (h:¬ 0 < zas (c::r)):zhC sk (c::r)=(if c=64∧0 < zas r then (2,(sk:Int),((zas r:Nat):Int)+1,r.take (zas r),0,())
 else match zct (c::r) with
  |some (k,n,t,x)=>(k,(sk:Int),((n:Nat):Int),t,x,())
  |none=>if c=40∨c=41∨c=61 then (4,(sk:Int),1,[c],0,()) else (5,(sk:Int),1,[c],0,()):TokT):=if_neg h
theorem zrL (s:List UInt8):za1 s=zhC (zaV isWh s) (s.drop (zaV isWh s)):=by
 rw[za1];cases s.drop (zaV isWh s)<;>rfl
theorem znp (c:UInt8):decide (0≤xd [40,41,61] c)=true↔(c=40∨c=41∨c=61):=by
 have key:∀ n:Fin 256,decide (0≤xd [40,41,61] (UInt8.ofNat n.val))=decide (n.val=40∨n.val=41∨n.val=61):=by decide+kernel
 have h:=key ⟨c.toNat,UInt8.toNat_lt c⟩;simp only[UInt8.ofNat_toNat]at h;rw[h,decide_eq_true_iff];constructor
 ·rintro (h|h|h)
  ·exact .inl (qD.1 h)
  ·exact .inr (.inl (qD.1 h))
  ·exact .inr (.inr (qD.1 h))
 ·rintro (rfl|rfl|rfl)<;>decide
def cScan:Ctr:={ args:=[.str],pre:=fun x=>[zd x.1≤100000],res:=tk,own:=none,out:=fun x=>za1 x.1 }
def kSc:Kn:={ gmK with C:=[(52,zlc 53 isWh),(65,ziY),(131,zmd),(132,cSym)] }
theorem zbc:KnOk Tryz.prog gmH kSc:=zak.with (.cons zjo.lift <| .cons zhN.lift <| .cons zmR <| .cons sym_ok.lift .nil)
theorem zrK:yM Tryz.prog gmH 79 cScan:=by
 refine zar (K:=kSc) zbc Tryz.func79 rfl rfl Tryz.call79 rfl (by decide) (by intro h;cases h) ?_;rintro w0 X hX ⟨(s:List UInt8),_⟩ hp;have hlen:s.length≤100000:=hp;change AWP _ _ _ _ _ ⟨[(0,⟨.str,s⟩)],[],0⟩ _;refine za (za ?_);refine zaa hX zbc rfl ?_ ?_
 ·trivial
 refine za (za ?_);refine zaa hX zbc rfl ?_ ?_
 ·exact rfl
 have hsk:=zgk isWh s;have q0:(0:Int)≤((zaV isWh s:Nat):Int):=by omega
 have q1:((zaV isWh s:Nat):Int)≤((s.length:Nat):Int):=by omega
 refine za (za ?_);refine zaa hX zbc rfl ?_ ?_
 ·exact⟨q0,q1⟩
 obtain⟨u,hu⟩:∃ u,u=s.drop (zaV isWh s):=⟨_,rfl⟩;have hul:u.length≤100000:=by rw[hu,yX];omega
 refine zap (σ':=⟨[(0,⟨.str,u⟩),(2,⟨.optr tk,⟨0,tk,.here⟩⟩),(3,⟨i64,((zaV isWh s:Nat):Int)⟩)],[(0,some (.box tk zTk))],1⟩) ⟨⟨?_,rfl,rfl,trivial⟩,⟨rfl,trivial⟩,rfl,rfl⟩ ?_
 ·show (⟨.str,jt (((zaV isWh s:Nat):Int)).toNat s⟩:V)=⟨.str,u⟩;rw[zL,hu]
 show AWP _ _ _ _ _ _ (fun e σ=>(e= .normal∨e= .ret)∧Done _ _ σ none tk (za1 s));rw[zrL, <-hu];generalize zaV isWh s=sk at q0 q1 ⊢;clear hu hsk hlen q1 hp;cases u with
 |nil=>
  refine za (za ?_);refine zaa hX zbc rfl ?_ ?_
  ·trivial
  refine zai rfl (fun _=>?_) (fun hb=>?_)
  ·(repeat(first|apply zae|apply zac|apply zal|apply zad|apply zab|refine zaa hX zbc rfl trivial ?_|refine zaa hX zbc rfl id ?_|refine zaa hX zbc rfl ⟨id,id⟩ ?_));exact zq ⟨.inr rfl,zay rfl trivial rfl rfl rfl⟩
  ·have hb:eqb .str ([]:List UInt8) []=false:=hb;rw[zbl.2 rfl]at hb;cases hb
 |cons c r=>
  have hrl:r.length≤100000:=by rw[zs]at hul;omega
  have n1:(1:Int)≤(((c::r).length:Nat):Int):=by rw[zs];omega
  have n2:(0:Int) < (((c::r).length:Nat):Int):=by rw[zs];omega
  refine za (za ?_);refine zaa hX zbc rfl ?_ ?_
  ·trivial
  refine zai rfl (fun hb=>?_) (fun _=>?_)
  ·have hb:eqb .str (c::r:List UInt8) []=true:=hb;cases zbl.1 hb
  apply zac;refine za (za ?_);refine zaa hX zbc rfl ?_ ?_
  ·exact⟨(by decide:(0:Int)≤1),n1⟩
  refine zap (σ':=⟨[(0,⟨.str,(c::r:List UInt8)⟩),(2,⟨.optr tk,⟨0,tk,.here⟩⟩),(3,⟨i64,(sk:Int)⟩),(4,⟨.optr tk,⟨1,tk,.here⟩⟩)],[(0,some (.box tk zTk)),(1,some (.box tk (5,0,1,[c],0,())))],2⟩) ⟨⟨rfl,rfl,rfl,rfl,trivial⟩,⟨rfl,rfl,trivial⟩,rfl,rfl⟩ ?_;have hwl:=zc3 (c::r);refine AWP.via (σ':=⟨[(2,⟨.optr tk,⟨0,tk,.here⟩⟩),(3,⟨i64,(sk:Int)⟩),(4,⟨.optr tk,⟨1,tk,.here⟩⟩)],[(0,some (.box tk zTk)),(1,some (.box tk ((zhC sk (c::r)).1,0,(zhC sk (c::r)).2.2)))],2⟩) ?_ ?_
  ·refine za (za ?_);refine zaa hX zbc rfl ?_ ?_
   ·trivial
   have w0':(0:Int)≤((zas (c::r):Nat):Int):=by omega
   have w1':((zas (c::r):Nat):Int)≤(((c::r).length:Nat):Int):=by omega
   refine za (za ?_);refine zaa hX zbc rfl ?_ ?_
   ·trivial
   refine zai rfl (fun hb=>?_) (fun hb=>?_)
   ·have hb:decide (((zas (c::r):Nat):Int) > 0)=true:=hb;have hb:=of_decide_eq_true hb;refine za (za ?_);refine zaa hX zbc rfl ?_ ?_
    ·exact⟨w0',w1'⟩
    refine⟨⟨rfl,rfl,rfl,trivial⟩,⟨rfl,zft ?_,trivial⟩,rfl,rfl⟩;rw[zhC,if_pos (by omega)];show ((1:Int),(0:Int),((zas (c::r):Nat):Int),List.take (((zas (c::r):Nat):Int)).toNat (c::r),(0:Int),())=_;rw[zL]
   ·have hb:decide (((zas (c::r):Nat):Int) > 0)=false:=hb;have hb0:=of_decide_eq_false hb;have e0:=znH sk c r (by omega);rw[e0];have hwr:=zc3 r;have v0:(0:Int)≤1:=by decide
    refine za (za ?_);refine zaa hX zbc rfl ?_ ?_
    ·exact⟨v0,n1⟩
    refine zap (σ':=⟨[(0,⟨.str,(c::r:List UInt8)⟩),(2,⟨.optr tk,⟨0,tk,.here⟩⟩),(3,⟨i64,(sk:Int)⟩),(4,⟨.optr tk,⟨1,tk,.here⟩⟩),(6,⟨i64,((zas r:Nat):Int)⟩)],[(0,some (.box tk zTk)),(1,some (.box tk (5,0,1,[c],0,())))],2⟩) ⟨⟨rfl,rfl,rfl,rfl,rfl,trivial⟩,⟨rfl,rfl,trivial⟩,rfl,rfl⟩ ?_;refine za (za ?_);refine zaa hX zbc rfl ?_ ?_
    ·exact⟨qN 0,n2,fun h=>h,fun h=>h⟩
    have ht:(bif (((c.toNat:Nat):Int)==(((64:UInt8).toNat:Nat):Int)) then decide (((zas r:Nat):Int) > 0) else false)=decide (c=64∧0 < zas r):=by
     rw[u8eq,zcg,yz,zb,beq_iff_eq,decide_eq_true_iff,decide_eq_true_iff];constructor
     ·rintro ⟨h1,h2⟩;exact⟨h1,by omega⟩
     ·rintro ⟨h1,h2⟩;exact⟨h1,by omega⟩
    refine zai rfl (fun hb=>?_) (fun hb=>?_)
    ·have hb:=of_decide_eq_true (ht.symm.trans hb);have g1:inR .i64 (((zas r:Nat):Int)+1):=zav (by omega) (by omega);have g2:(1:Int)≤((zas r:Nat):Int)+1:=by omega
     have g3:((zas r:Nat):Int)+1≤(((c::r).length:Nat):Int):=by rw[zs];omega
     refine za (za ?_);refine zaa hX zbc rfl ?_ ?_
     ·exact⟨g1,g1,v0,g2,g3⟩
     refine⟨⟨rfl,rfl,rfl,trivial⟩,⟨rfl,zft ?_,trivial⟩,rfl,rfl⟩;rw[if_pos hb];have e1:(((zas r:Nat):Int)+1).toNat=zas r+1:=by omega
     show ((2:Int),(0:Int),((zas r:Nat):Int)+1,jt (1:Int).toNat (List.take (((zas r:Nat):Int)+1).toNat (c::r)),(0:Int),())=_;rw[e1];rfl
    ·have hb:=of_decide_eq_false (ht.symm.trans hb);rw[if_neg hb];refine za (za ?_);refine zaa hX zbc rfl ?_ ?_
     ·exact⟨(by intro h;cases h),hul⟩
     refine zap (σ':=⟨[(0,⟨.str,(c::r:List UInt8)⟩),(2,⟨.optr tk,⟨0,tk,.here⟩⟩),(3,⟨i64,(sk:Int)⟩),(4,⟨.optr tk,⟨1,tk,.here⟩⟩),(7,⟨.optr tk,⟨2,tk,.here⟩⟩),(8,⟨.bool,(zey (c::r)).2.1⟩)],[(0,some (.box tk zTk)),(1,some (.box tk (5,0,1,[c],0,()))),(2,some (.box tk (zey (c::r)).1))],3⟩) ⟨⟨rfl,rfl,rfl,rfl,rfl,rfl,trivial⟩,⟨rfl,rfl,rfl,trivial⟩,rfl,rfl⟩ ?_;unfold zey;cases zct (c::r) with
     |some q=>
      obtain⟨k,n,t,x⟩:=q;(repeat(first|apply zae|apply zac|apply zal|apply zad|apply zab|refine zaa hX zbc rfl trivial ?_|refine zaa hX zbc rfl id ?_|refine zaa hX zbc rfl ⟨id,id⟩ ?_));refine zai rfl (fun _=>?_) (fun hb=>absurd (show true=false from hb) (by decide));(repeat(first|apply zae|apply zac|apply zal|apply zad|apply zab|refine zaa hX zbc rfl trivial ?_|refine zaa hX zbc rfl id ?_|refine zaa hX zbc rfl ⟨id,id⟩ ?_));exact⟨⟨rfl,rfl,rfl,trivial⟩,⟨rfl,rfl,trivial⟩,rfl,rfl⟩
     |none=>
      (repeat(first|apply zae|apply zac|apply zal|apply zad|apply zab|refine zaa hX zbc rfl trivial ?_|refine zaa hX zbc rfl id ?_|refine zaa hX zbc rfl ⟨id,id⟩ ?_));refine zai rfl (fun hb=>absurd (show false=true from hb) (by decide)) (fun _=>?_);refine za (za ?_);refine zaa hX zbc rfl ?_ ?_
      ·exact⟨v0,n1,rfl,⟨c,rfl⟩⟩
      refine zai rfl (fun hb=>?_) (fun hb=>?_)
      ·have hb:=(znp c).1 hb;(repeat(first|apply zae|apply zac|apply zal|apply zad|apply zab|refine zaa hX zbc rfl trivial ?_|refine zaa hX zbc rfl id ?_|refine zaa hX zbc rfl ⟨id,id⟩ ?_));refine⟨⟨rfl,rfl,rfl,trivial⟩,⟨rfl,zft ?_,trivial⟩,rfl,rfl⟩;simp only[if_pos hb]
      ·have hn:¬ (c=40∨c=41∨c=61):=fun h=>by
        have:=(znp c).2 h;have hb:decide (0≤xd [40,41,61] c)=false:=hb;rw[hb]at this;cases this
       apply zac;refine⟨⟨rfl,rfl,rfl,trivial⟩,⟨rfl,zft ?_,trivial⟩,rfl,rfl⟩;simp only[if_neg hn]
  ·have hat:(zhC sk (c::r)).2.1=(sk:Int):=by
    rw[zhC];split
    ·rfl
    ·split
     ·rfl
     ·split
      ·rfl
      ·split<;>rfl
   (repeat(first|apply zae|apply zac|apply zal|apply zad|apply zab|refine zaa hX zbc rfl trivial ?_|refine zaa hX zbc rfl id ?_|refine zaa hX zbc rfl ⟨id,id⟩ ?_));refine zq ⟨.inr rfl,zay rfl trivial rfl rfl ?_⟩;show ((zhC sk (c::r)).1,(sk:Int),(zhC sk (c::r)).2.2)=zhC sk (c::r);rw[<-hat]
abbrev PsT:=List UInt8×TokT×List Nd×Int×Unit
def stOf (x:PsT):GSt:=(x.2.1,x.2.2.2.1)
abbrev psX (s:List UInt8) (st:GSt) (l:List Nd):PsT:=(s,st.1,l,st.2,())
def pOk (x:PsT):Prop:=GOk x.1 (stOf x)∧x.1.length≤100000
def pvS (e:Int×Int):zg:=.iface 133 (.agg #[.int .i64 e.1,.int .i64 e.2])
def toX {α β:Type} (f:α->β):Except (Int×Int) α->Except zg β
 | .ok a=>.ok (f a)
 | .error e=>.error (pvS e)
@[reducible] def hP (args:List Ty) (res:Ty) (pre:PsT->Args args->List Prop) (out:PsT->Args args->Except zg (res.T×PsT)):HCtr:=
 { self:=ps,k:=6,te:=73,et:=nd,sl:=fun x=>x.2.2.1,args:=args,inv:=ginv,pre:=fun x xs=>pOk x::pre x xs,res:=res,out:=out }
theorem zbd {args:List Ty} {res:Ty} {pre:PsT->Args args->List Prop} {out:PsT->Args args->Except zg (res.T×PsT)}:(hP args res pre out).law:=⟨rfl,fun _=>rfl,fun a h=>by cases h⟩
@[reducible] def pBox (ty:zo) (s:List UInt8) (st:GSt):OObj:=.hbox ty [⟨.str,s⟩,⟨i64,st.1.1⟩,⟨i64,st.1.2.1⟩,⟨i64,st.1.2.2.1⟩,⟨.str,st.1.2.2.2.1⟩,⟨i64,st.1.2.2.2.2.1⟩,⟨.obuf nd,(1:Nat)⟩,⟨i64,st.2⟩]
@[reducible] def pE (ty:zo) (s:List UInt8) (st:GSt) (l:List Nd):Owns:=[(0,some (pBox ty s st)),(1,some (.buf 73 nd l))]
@[reducible] def pSelf:V:=⟨.hptr,((0:Nat),(0:Nat))⟩
def pQ (rs:List qe) (c:HCtr) (ty:zo) (r:Except zg (c.res.T×c.self.T)) (e:Exit) (σ:AS):Prop:=zpn gmT rs c ty e σ r
theorem zf4 {rs:List qe} {c:HCtr} {ty:zo} {pv:zg} {σ:AS}:pQ rs c ty (.error pv) (.panic [{ v:=pv,recovered:=false }]) σ:=rfl
theorem zan {α β γ:Type} {f:β->γ} {e:Except (Int×Int) α} {k:α->Except (Int×Int) β} {er:Int×Int} (h:e= .error er):toX f (e >>= k)= .error (pvS er):=by rw[h];rfl
theorem zaq {α β γ:Type} {f:β->γ} {e:Except (Int×Int) α} {k:α->Except (Int×Int) β} {a:α} (h:e= .ok a):toX f (e >>= k)=toX f (k a):=by rw[h];rfl
section
variable {P:zx} {K:Kn} {w0:zi} {X:Ownr} {n:Nat} {σ:AS} {Q:Exit->AS->Prop} {ops:Array Oper}
theorem zax (m:Nat) (hX:X.Ok w0) (hK:KnOk P X.G K) {C:List (zS×HCtr)} (hC:HsOk P X.G C) {l rest:List Oper} {o:Oper} {r:List Prop×AS} (hs:aSeq K n ops (l.take m) σ=some r) (hp:allP r.1) (hl:l.drop m=o::rest) {s:HSite} (hsite:zm0 C n o r.2=some s)
  (hq:allP s.q) (hinv:∀ w R,(∀ g,R g->w0.heap.size≤g∨X.R g)->X.G w->s.c.inv w R s.ty) {α:Type} {f:α->s.c.res.T×s.c.self.T} {e:Except (Int×Int) α} (hout:s.c.out s.x s.xs=toX f e)
  (herr:∀ er,e= .error er->Q (.panic [{ v:=pvS er,recovered:=false }]) s.lost) (h:∀ a,e= .ok a->AL P w0 X n ops rest (s.next (f a).1 (f a).2) Q)
  (hgd:o.guard=none:=by rfl) (hnd:∀ c,o.op≠ .defer c:=by intro c e;cases e) (hd:zbg (l.take m)=true:=by rfl):AL P w0 X n ops l σ Q:=by
 refine yc m hX hK hC hs hp hl hsite hq hinv ?_ hgd hnd hd;rw[hout];cases e with
 |error er=>exact herr er rfl
 |ok a=>exact h a rfl
end
section
variable {P:zx} {K:Kn} {w0:zi} {X:Ownr} {n:Nat} {Q:Exit->AS->Prop} {ops:Array Oper}
theorem AL.ownVM (hX:X.Ok w0) {o:Oper} {rest:List Oper} {f:zS} {c:HCtr} (hc:zaA P X.G f c) {y a0:zF} {args:Array zF} {ts:Array zo} (ho:o.op= .call ⟨.value y,args,ts⟩) (hargs:args= #[a0]) (hgd:o.guard=none)
  {F:yg} {E:Owns} {nx:Nat} (hy:evO F y=⟨.lit,.func (.func f) #[] #[]⟩)
  {i:Nat} (hev:evO F a0=⟨.hptr,(i,(0:Nat))⟩) {ty:zo} {vs:List V} (hbox:zj E i=some (.hbox ty vs)) {et:Ty} {j:Nat} (hk:vs[c.k]? =some ⟨.obuf et,j⟩) {xsl:List c.et.T} (hbuf:zj E j=some (.buf c.te c.et xsl))
  {x:c.self.T} (hun:unD c.self ((c.back i vs).set c.k ⟨.slice c.et,xsl⟩)=some (x,[])) (hd:za4 c.args=true) (hfl:c.res.resOk=true)
  {q:List Prop} {xs:Args c.args} (hav:zeh E false [] c.args=some (q,xs)) (hq:allP q) (hpre:allP (c.pre x xs)) (hinv:∀ w R,(∀ g,R g->w0.heap.size≤g∨X.R g)->X.G w->c.inv w R ty) {F':c.res.T->yg} (hput:∀ y,putD n o.dst (resV c.res y) (xk j F)=some (F' y))
  {α:Type} {g:α->c.res.T×c.self.T} {e:Except (Int×Int) α} (hout:c.out x xs=toX g e) (herr:∀ er,e= .error er->Q (.panic [{ v:=pvS er,recovered:=false }]) ⟨F,(i,none)::(j,none)::E,nx⟩)
  (h:∀ a,e= .ok a->AL P w0 X n ops rest ⟨F' (g a).1,(i,some (.hbox ty (c.lv i j (g a).2)))::(j,some (.buf c.te c.et (c.sl (g a).2)))::Owns.kill j E,nx⟩ Q):AL P w0 X n ops (o::rest) ⟨F,E,nx⟩ Q:=by
 refine AL.ownV hX hc ho hargs hgd hy hev hbox hk hbuf hun hd hfl hav hq hpre hinv hput ?_;rw[hout];cases e with
 |error er=>exact herr er rfl
 |ok a=>exact h a rfl
end
theorem zkG {P:zx} {w:zi} {t:zo} {fs:Array Field} (h:P.underlying t=some (.struct fs)) (x:zg):(kE t x).run P w= .ok (.iface t x) w:=by
 unfold kE;simp[run_underlying h]
theorem zgI {P:zx} {w:zi} (t:zo) (x:zg):(Instr.panic (.iface t x)).run P w= .halt (.panic (.iface t x)) w:=by
 simp[Instr.panic,Sem.run]
@[reducible] def zsS:HCtr:=hP [i64] .unit (fun _ _=>[]) fun x xs=>.error (pvS (Tok.at x.2.1,xs.1))
theorem zsA:zaA Tryz.prog gmH 137 zsS:=by
 refine zat (K:=gmK) zak Tryz.func137 rfl rfl zbd Tryz.call137 rfl (by decide) zaT ?_;rintro w0 ⟨G,O,K,fix,D,ρ,B⟩ ty hX hG hK hρ hD hinv x ⟨(e:Int),⟨⟩⟩ hp;obtain rfl:G=gmH:=hG;obtain rfl:K=1:=hK;obtain rfl:ρ=none:=hρ;obtain rfl:D=[]:=hD;obtain⟨s,t,l,b,⟨⟩⟩:=x;change AWP _ _ _ _ _ ⟨[(0,pSelf),(1,⟨i64,e⟩)],pE ty s (t,b) l,2⟩ (pQ _ zsS ty (.error (pvS (Tok.at t,e))));(repeat(first|apply zae|apply zac|apply zab|apply zad));refine zaj ?_;refine yA 7 hX zak rfl trivial ?_;refine qq rfl (fun c e=>by cases e) fun β a w' hs=>?_;have h12:RepD w' _ sto (Tok.at t,e,()) (a.eval (.tmp 10)):=hs.ops (.tmp 10);obtain⟨cs,h1,c1,c2,rfl,h2,c3,c4,rfl,h3,h4⟩:=(RepD.agg rfl).1 h12;have h2:c1=[yl .i64 (Tok.at t)]:=h2;have h3:c3=[yl .i64 e]:=h3;have h4:c4=[]:=h4;subst h2;subst h3;subst h4;have h1:a.eval (.tmp 10)= .agg #[.int .i64 (Tok.at t),.int .i64 e]:=h1;refine zbt (u:=pvS (Tok.at t,e)) (w':=w') ?_ ⟨⟨(11,⟨.lit,pvS (Tok.at t,e)⟩)::_,_,_⟩,β,hs.put (zO _ _) (v:=⟨.lit,pvS (Tok.at t,e)⟩) rfl (zl _) (by show 11 < 12;omega),?_⟩
 ·show (execOp a.eval { dst:=some 11,op:=Op.makeInterface 133 (.tmp 10),type:=_,pos:=_,after:=_,guard:=none }).run _ _=_;unfold execOp;simp only[h1];exact zdX (zkG Tryz.underlying133 _)
 refine qq rfl (fun c e=>by cases e) fun β a w' hs=>?_;have h13:a.eval (.tmp 11)=pvS (Tok.at t,e):=hs.ops (.tmp 11);have hrun:(execOp a.eval { dst:=none,op:=Op.panic (.tmp 11),type:=0,pos:="",after:=#[],guard:=none }).run Tryz.prog w'= .halt (.panic (pvS (Tok.at t,e))) w':=by
  unfold execOp;simp only[h13];simp[pvS,zgI]
 unfold Oper.wp
 erw [hrun]
 exact⟨fun e=>(by cases e),_,β,hs,rfl⟩
@[reducible] def zgd:HCtr:=hP [.bool,i64] .unit (fun _ _=>[]) fun x xs=>toX (fun _=>((),x)) (zaC (stOf x) xs.1 xs.2.1)
def hFail:List (zS×HCtr):=[(137,zsS)]
theorem zqp:HsOk Tryz.prog gmH hFail:=.cons zsA .nil
theorem zet:zaA Tryz.prog gmH 81 zgd:=by
 refine zat (K:=_) zak Tryz.func81 rfl rfl zbd Tryz.call81 rfl (zf rfl) zaT ?_;rintro w0 ⟨G,O,K,fix,D,ρ,B⟩ ty hX hG hK hρ hD hinv ⟨(s:List UInt8),(t:TokT),(l:List Nd),(b:Int),⟨⟩⟩ ⟨(c:Bool),(e:Int),⟨⟩⟩ hp;obtain rfl:G=gmH:=hG;obtain rfl:K=1:=hK;obtain rfl:ρ=none:=hρ;obtain rfl:D=[]:=hD;have hI:=zaE (ty:=ty) (ty':=ty) hX rfl hinv;have hok:pOk (s,t,l,b,()):=hp;change AWP _ _ _ _ _ ⟨[(0,pSelf),(1,⟨.bool,c⟩),(2,⟨i64,e⟩)],pE ty s (t,b) l,2⟩ (pQ _ zgd ty (toX (fun _=>((),(s,t,l,b,()))) (zaC (t,b) c e)));refine za (za ?_);refine zaa hX zak rfl ?_ ?_
 ·trivial
 cases c with
 |true=>
  refine zai rfl (fun hb=>absurd (show false=true from hb) (by decide)) (fun _=>?_);apply zac;exact⟨.inl rfl,⟨_,rfl,nd,1,_,rfl,rfl,rfl⟩,zba (by decide) rfl rfl trivial rfl⟩
 |false=>
  refine zai rfl (fun _=>?_) (fun hb=>absurd (show true=false from hb) (by decide));(repeat(first|apply zae|apply zac|apply zab|apply zad));refine zaj ?_;exact yc 2 hX zak zqp rfl trivial rfl rfl hok hI rfl
@[reducible] def cIs:HCtr:=hP [.str] .bool (fun _ _=>[]) fun x xs=>.ok (gIs (stOf x) xs.1,x)
theorem zql:zaA Tryz.prog gmH 134 cIs:=by
 refine zat (K:=_) zak Tryz.func134 rfl rfl zbd Tryz.call134 rfl (zf rfl) zaT ?_;rintro w0 ⟨G,O,K,fix,D,ρ,B⟩ ty hX hG hK hρ hD hinv ⟨(s:List UInt8),(t:TokT),(l:List Nd),(b:Int),⟨⟩⟩ ⟨(u:List UInt8),⟨⟩⟩ hp;obtain rfl:G=gmH:=hG;obtain rfl:K=1:=hK;obtain rfl:ρ=none:=hρ;obtain rfl:D=[]:=hD;have hI:=zaE (ty:=ty) (ty':=ty) hX rfl hinv;change AWP _ _ _ _ _ ⟨[(0,pSelf),(1,⟨.str,u⟩)],pE ty s (t,b) l,2⟩ (pQ _ cIs ty (.ok (gIs (t,b) u,(s,t,l,b,()))));refine za (za ?_);refine zaa hX zak rfl ?_ ?_
 ·trivial
 refine za (za ?_);refine zaa hX zak rfl ?_ ?_
 ·repeat'(first|exact trivial|assumption|(refine⟨?_,?_⟩)|(intro _)|exact zf rfl|exact zu _|(simp_all [allP];done))
 refine zq ⟨.inr rfl,⟨_,rfl,nd,1,_,rfl,rfl,rfl⟩,zay rfl trivial rfl rfl ?_⟩;show (bif (bif (t.1==1) then true else (t.1==4)) then eqb .str t.2.2.2.1 u else false)=gIs (t,b) u;rw[zcg,zhp,zdD];rfl
@[reducible] def cAdv:HCtr:=hP [] tk (fun x _=>[]) fun x _=>.ok (x.2.1,psX x.1 (gAdv x.1 (stOf x)) x.2.2.1)
def kAd:Kn:={ gmK with C:=[(79,cScan)] }
theorem zcM:KnOk Tryz.prog gmH kAd:=zak.with (.cons zrK .nil)
theorem zfV:zaA Tryz.prog gmH 87 cAdv:=by
 refine zat (K:=_) zcM Tryz.func87 rfl rfl zbd Tryz.call87 rfl (zf rfl) zaT ?_;rintro w0 ⟨G,O,K,fix,D,ρ,B⟩ ty hX hG hK hρ hD hinv ⟨(s:List UInt8),(t:TokT),(l:List Nd),(b:Int),⟨⟩⟩ ⟨⟩ hp;obtain rfl:G=gmH:=hG;obtain rfl:K=1:=hK;obtain rfl:ρ=none:=hρ;obtain rfl:D=[]:=hD;have hI:=zaE (ty:=ty) (ty':=ty) hX rfl hinv;have hok:pOk (s,t,l,b,()):=hp;change AWP _ _ _ _ _ ⟨[(0,pSelf)],pE ty s (t,b) l,2⟩ (pQ _ cAdv ty (.ok (t,psX s (gAdv s (t,b)) l)));refine za (za ?_);refine zaa hX zcM rfl ?_ ?_
 ·trivial
 obtain⟨⟨⟨⟨a1,a2,a3⟩,-⟩,-⟩,hlen⟩:=hok;have a1:(0:Int)≤t.2.1:=a1;have a2:(0:Int)≤t.2.2.1:=a2;have a3:t.2.1+t.2.2.1≤((s.length:Nat):Int):=a3;have hlen:s.length≤100000:=hlen;have q0:inR .i64 (t.2.1+t.2.2.1):=zav (by omega) (by omega);have q1:(0:Int)≤t.2.1+t.2.2.1:=by omega
 refine za (za ?_);refine zaa hX zcM rfl ?_ ?_
 ·trivial
 refine za (za ?_);refine zaa hX zcM rfl ?_ ?_
 ·exact q0
 have hdr:zd (jt (t.2.1+t.2.2.1).toNat s)≤100000:=by rw[yX];omega
 refine za (za ?_);refine zaa hX zcM rfl ?_ ?_
 ·exact⟨q1,a3,hdr⟩
 obtain⟨⟨⟨b1,b2,b3⟩,-⟩,b4⟩:=zit (s:=s) q1 a3;have hsc:=(zls (s.drop (t.2.1+t.2.2.1).toNat)).1;have hsl:Tok.at (za1 (s.drop (t.2.1+t.2.2.1).toNat))≤100000:=by
  have:=hsc.2.2;have:=hsc.2.1;rw[yX]at *;omega
 have hsl0:=hsc.1;have q2:inR .i64 (Tok.at (za1 (s.drop (t.2.1+t.2.2.1).toNat))+(t.2.1+t.2.2.1)):=zav (by omega) (by omega);refine za (za ?_);refine zaa hX zcM rfl ?_ ?_
 ·exact q2
 (repeat(first|apply zae|apply zac|apply zal|apply zad|apply zab|refine zaa hX zcM rfl trivial ?_|refine zaa hX zcM rfl id ?_|refine zaa hX zcM rfl ⟨id,id⟩ ?_));exact zq ⟨.inr rfl,⟨_,rfl,nd,1,_,rfl,rfl,rfl⟩,zay rfl trivial rfl rfl rfl⟩
def hEx:List (zS×HCtr):=[(134,cIs),(81,zgd),(87,cAdv)]
theorem zdq:HsOk Tryz.prog gmH hEx:=.cons zql <| .cons zet <| .cons zfV .nil
@[reducible] def zfT:HCtr:=hP [.str] .unit (fun _ _=>[]) fun x xs=>toX (fun st=>((),psX x.1 st x.2.2.1)) (zaQ x.1 (stOf x) xs.1)
theorem zfl:zaA Tryz.prog gmH 88 zfT:=by
 refine zat (K:=_) zak Tryz.func88 rfl rfl zbd Tryz.call88 rfl (zf rfl) zaT ?_;rintro w0 ⟨G,O,K,fix,D,ρ,B⟩ ty hX hG hK hρ hD hinv ⟨(s:List UInt8),(t:TokT),(l:List Nd),(b:Int),⟨⟩⟩ ⟨(u:List UInt8),⟨⟩⟩ hp;obtain rfl:G=gmH:=hG;obtain rfl:K=1:=hK;obtain rfl:ρ=none:=hρ;obtain rfl:D=[]:=hD;have hI:=zaE (ty:=ty) (ty':=ty) hX rfl hinv;have hok:pOk (s,t,l,b,()):=hp;change AWP _ _ _ _ _ ⟨[(0,pSelf),(1,⟨.str,u⟩)],pE ty s (t,b) l,2⟩ (pQ _ zfT ty (toX (fun st=>((),psX s st l)) (zaQ s (t,b) u)));(repeat(first|apply zae|apply zac|apply zab|apply zad));refine zaj ?_;refine yc 3 hX zak zdq rfl trivial rfl rfl hok hI ?_;refine zax 0 hX zak zdq rfl trivial rfl rfl hok hI (e:=zaC (t,b) (gIs (t,b) u) 3) rfl (fun er h=>?_) (fun a h=>?_)
 ·unfold zaQ;rw[zan h];exact zf4
 unfold zaQ;rw[zaq h];refine z6 ?_;(repeat(first|apply zae|apply zac|apply zab|apply zad));refine zaj ?_;refine yc 1 hX zak zdq rfl trivial rfl rfl hok hI ?_;refine z6 ?_;exact⟨.inl rfl,⟨_,rfl,nd,1,_,rfl,rfl,rfl⟩,zba (by decide) rfl rfl trivial rfl⟩
@[reducible] def zkn:HCtr:=hP [] .unit (fun _ _=>[]) fun x _=>toX (fun st=>((),psX x.1 st x.2.2.1)) (zbu x.1 (stOf x))
theorem zi5:zaA Tryz.prog gmH 135 zkn:=by
 refine zat (K:=_) zak Tryz.func135 rfl rfl zbd Tryz.call135 rfl (zf rfl) zaT ?_;rintro w0 ⟨G,O,K,fix,D,ρ,B⟩ ty hX hG hK hρ hD hinv ⟨(s:List UInt8),(t:TokT),(l:List Nd),(b:Int),⟨⟩⟩ ⟨⟩ hp;obtain rfl:G=gmH:=hG;obtain rfl:K=1:=hK;obtain rfl:ρ=none:=hρ;obtain rfl:D=[]:=hD;have hI:=zaE (ty:=ty) (ty':=ty) hX rfl hinv;have hok:pOk (s,t,l,b,()):=hp;change AWP _ _ _ _ _ ⟨[(0,pSelf)],pE ty s (t,b) l,2⟩ (pQ _ zkn ty (toX (fun st=>((),psX s st l)) (zbu s (t,b))));(repeat(first|apply zae|apply zac|apply zab|apply zad));refine zaj ?_;refine zax 6 hX zak zdq rfl trivial rfl rfl hok hI (e:=zaC (t,b) (decide (b < 64)) 2) rfl (fun er h=>?_) (fun a h=>?_)
 ·unfold zbu;rw[zan h];exact zf4
 unfold zbu;rw[zaq h];have hb:=of_decide_eq_true (zaK h);obtain⟨⟨g1,g2,g3⟩,hlen⟩:=id hok;have g2:(0:Int)≤b:=g2;have q0:inR .i64 (b+1):=zav (by omega) (by omega);have hok2:pOk (s,t,l,b+1,()):=⟨⟨g1,(by omega:(0:Int)≤b+1),(by omega:b+1≤64)⟩,hlen⟩;refine z6 ?_;refine za (za ?_);refine zaa hX zak rfl ?_ ?_
 ·exact q0
 (repeat(first|apply zae|apply zac|apply zab|apply zad));refine zaj ?_;refine yc 1 hX zak zdq rfl trivial rfl rfl hok2 hI ?_;refine z6 ?_;exact⟨.inl rfl,⟨_,rfl,nd,1,_,rfl,rfl,rfl⟩,zba (by decide) rfl rfl trivial rfl⟩
@[reducible] def zfS:HCtr:=hP [i64,i64] i64 (fun _ _=>[]) fun x xs=>toX (fun r=>(r.1,psX x.1 r.2 x.2.2.1)) (zaI x.1 (stOf x) xs.1 xs.2.1)
theorem ze8:zaA Tryz.prog gmH 202 zfS:=by
 refine zat (K:=_) zak Tryz.func202 rfl rfl zbd Tryz.call202 rfl (zf rfl) zaT ?_;rintro w0 ⟨G,O,K,fix,D,ρ,B⟩ ty hX hG hK hρ hD hinv ⟨(s:List UInt8),(t:TokT),(l:List Nd),(b:Int),⟨⟩⟩ ⟨(lo:Int),(hi:Int),⟨⟩⟩ hp;obtain rfl:G=gmH:=hG;obtain rfl:K=1:=hK;obtain rfl:ρ=none:=hρ;obtain rfl:D=[]:=hD;have hI:=zaE (ty:=ty) (ty':=ty) hX rfl hinv;have hok:pOk (s,t,l,b,()):=hp;change AWP _ _ _ _ _ ⟨[(0,pSelf),(1,⟨i64,lo⟩),(2,⟨i64,hi⟩)],pE ty s (t,b) l,2⟩ (pQ _ zfS ty (toX (fun r=>(r.1,psX s r.2 l)) (zaI s (t,b) lo hi)));unfold zaI;refine za (za ?_);refine zaa hX zak rfl ?_ ?_
 ·trivial
 (repeat(first|apply zae|apply zac|apply zab|apply zad));refine zaj ?_;refine zax 7 hX zak zdq rfl trivial rfl rfl hok hI (e:=zaC (t,b) (zB t==3) 3) rfl (fun er h=>?_) (fun a h=>?_)
 ·rw[zan h];exact zf4
 rw[zaq h];refine z6 ?_;(repeat(first|apply zae|apply zac|apply zab|apply zad));refine zaj ?_;refine jb (σ':=⟨[(0,pSelf),(1,⟨i64,lo⟩),(2,⟨i64,hi⟩)],pE ty s (t,b) l,2⟩) ⟨⟨rfl,rfl,rfl,trivial⟩,⟨rfl,rfl,trivial⟩,rfl,rfl⟩ ?_;refine zax 17 hX zak zdq rfl ?_ rfl rfl hok hI (e:=zaC (t,b) (bif decide (lo≤xO t) then decide (xO t≤hi) else false) 1) rfl (fun er h=>?_) (fun a h=>?_)
 ·repeat'(first|exact trivial|assumption|(refine⟨?_,?_⟩)|(intro _)|exact zf rfl|exact zu _|(simp_all [allP];done))
 ·rw[zcg]at h;rw[zan h];exact zf4
 rw[zcg]at h;rw[zaq h];refine z6 ?_;refine zap (σ':=⟨[(0,pSelf),(1,⟨i64,lo⟩),(2,⟨i64,hi⟩)],pE ty s (t,b) l,2⟩) ⟨⟨rfl,rfl,rfl,trivial⟩,⟨rfl,rfl,trivial⟩,rfl,rfl⟩ ?_;(repeat(first|apply zae|apply zac|apply zab|apply zad));refine zaj ?_;refine yc 1 hX zak zdq rfl trivial rfl rfl hok hI ?_;refine zW hX zak rfl trivial ?_;exact zq ⟨.inr rfl,⟨_,rfl,nd,1,_,rfl,rfl,rfl⟩,zay rfl trivial rfl rfl rfl⟩
@[reducible] def zhm:HCtr:=hP [] i64 (fun _ _=>[]) fun x _=>toX (fun r=>(r.1,psX x.1 r.2 x.2.2.1)) (gCal x.1 (stOf x))
def hCal:List (zS×HCtr):=[(202,zfS)]
theorem zsl:HsOk Tryz.prog gmH hCal:=.cons ze8 .nil
theorem zlb:zaA Tryz.prog gmH 209 zhm:=by
 refine zat (K:=_) zak Tryz.func209 rfl rfl zbd Tryz.call209 rfl (zf rfl) zaT ?_;rintro w0 ⟨G,O,K,fix,D,ρ,B⟩ ty hX hG hK hρ hD hinv ⟨(s:List UInt8),(t:TokT),(l:List Nd),(b:Int),⟨⟩⟩ ⟨⟩ hp;obtain rfl:G=gmH:=hG;obtain rfl:K=1:=hK;obtain rfl:ρ=none:=hρ;obtain rfl:D=[]:=hD;have hI:=zaE (ty:=ty) (ty':=ty) hX rfl hinv;have hok:pOk (s,t,l,b,()):=hp;change AWP _ _ _ _ _ ⟨[(0,pSelf)],pE ty s (t,b) l,2⟩ (pQ _ zhm ty (toX (fun r=>(r.1,psX s r.2 l)) (zaI s (t,b) 0 2)));refine za (za ?_);refine zaa hX zak rfl ?_ ?_
 ·trivial
 (repeat(first|apply zae|apply zac|apply zab|apply zad));refine zaj ?_;refine zax 1 hX zak zsl rfl trivial rfl rfl hok hI (e:=zaI s (t,b) 0 2) rfl (fun er h=>?_) (fun a h=>?_)
 ·rw[h];exact zf4
 rw[h];refine zW hX zak rfl trivial ?_;exact zq ⟨.inr rfl,⟨_,rfl,nd,1,_,rfl,rfl,rfl⟩,zay rfl trivial rfl rfl rfl⟩
@[reducible] def zo5:HCtr:=hP [] i64 (fun _ _=>[]) fun x _=>toX (fun r=>(r.1,psX x.1 r.2 x.2.2.1)) (zcY x.1 (stOf x))
theorem zpE:zaA Tryz.prog gmH 210 zo5:=by
 refine zat (K:=_) zak Tryz.func210 rfl rfl zbd Tryz.call210 rfl (zf rfl) zaT ?_;rintro w0 ⟨G,O,K,fix,D,ρ,B⟩ ty hX hG hK hρ hD hinv ⟨(s:List UInt8),(t:TokT),(l:List Nd),(b:Int),⟨⟩⟩ ⟨⟩ hp;obtain rfl:G=gmH:=hG;obtain rfl:K=1:=hK;obtain rfl:ρ=none:=hρ;obtain rfl:D=[]:=hD;have hI:=zaE (ty:=ty) (ty':=ty) hX rfl hinv;have hok:pOk (s,t,l,b,()):=hp;change AWP _ _ _ _ _ ⟨[(0,pSelf)],pE ty s (t,b) l,2⟩ (pQ _ zo5 ty (toX (fun r=>(r.1,psX s r.2 l)) (zcY s (t,b))));unfold zcY;refine za (za ?_);refine zaa hX zak rfl ?_ ?_
 ·trivial
 (repeat(first|apply zae|apply zac|apply zab|apply zad));refine zaj ?_;refine yc 2 hX zak zdq rfl trivial rfl rfl hok hI ?_;cases hm:gIs (t,b) zjf with
 |true=>
  rw[Bool.true_or];refine jb (σ':=⟨[(0,pSelf),(3,pSelf),(5,⟨.bool,true⟩)],pE ty s (t,b) l,2⟩) ⟨⟨rfl,rfl,zcO hm,trivial⟩,⟨rfl,rfl,trivial⟩,rfl,rfl⟩ ?_;refine yA 1 hX zak rfl trivial ?_;refine AL.guardF 3 6 false .bool false rfl rfl rfl rfl rfl rfl ?_;refine AL.guardF 3 6 false .bool false rfl rfl rfl rfl rfl rfl ?_;refine yc 1 hX zak zdq rfl id rfl rfl hok hI ?_;refine z6 ?_;refine zap (σ':=⟨[(0,pSelf)],pE ty s (t,b) l,2⟩) ⟨⟨rfl,trivial⟩,⟨rfl,rfl,trivial⟩,rfl,rfl⟩ ?_;(repeat(first|apply zae|apply zac|apply zab|apply zad));refine zaj ?_;refine yc 1 hX zak zdq rfl trivial rfl rfl hok hI ?_;refine zW hX zak rfl trivial ?_;refine zai rfl (fun hb=>?_) (fun hb=>?_)
  ·have hb:eqb .str t.2.2.2.1 zdW=true:=hb;have hb:zE t=zdW:=zbl.1 hb;(repeat(first|apply zae|apply zac|apply zal|apply zad|apply zab|refine zaa hX zak rfl trivial ?_|refine zaa hX zak rfl id ?_|refine zaa hX zak rfl ⟨id,id⟩ ?_));refine zq ⟨.inr rfl,⟨_,rfl,nd,1,_,rfl,rfl,rfl⟩,zay rfl trivial rfl rfl ?_⟩;show (1:Int)=if zE t=zdW then 1 else 0
   rw[if_pos hb]
  ·have hb:eqb .str t.2.2.2.1 zdW=false:=hb;have hb:¬ zE t=zdW:=fun h=>by rw[zbl.2 h]at hb;cases hb
   (repeat(first|apply zae|apply zac|apply zal|apply zad|apply zab|refine zaa hX zak rfl trivial ?_|refine zaa hX zak rfl id ?_|refine zaa hX zak rfl ⟨id,id⟩ ?_));refine zq ⟨.inr rfl,⟨_,rfl,nd,1,_,rfl,rfl,rfl⟩,zay rfl trivial rfl rfl ?_⟩;show (0:Int)=if zE t=zdW then 1 else 0
   rw[if_neg hb]
 |false=>
  rw[Bool.false_or];refine jb (σ':=⟨[(0,pSelf),(3,pSelf),(5,⟨.bool,false⟩)],pE ty s (t,b) l,2⟩) ⟨⟨rfl,rfl,zcO hm,trivial⟩,⟨rfl,rfl,trivial⟩,rfl,rfl⟩ ?_;refine yA 1 hX zak rfl trivial ?_;refine AL.guardT 3 6 false rfl rfl rfl rfl ?_;refine yA 1 hX zak rfl trivial ?_;refine AL.guardT 3 6 false rfl rfl rfl rfl ?_;refine yc 0 hX zak zdq rfl trivial rfl rfl hok hI ?_;refine zax 1 hX zak zdq rfl trivial rfl rfl hok hI (e:=zaC (t,b) (gIs (t,b) zdW) 3) rfl (fun er h=>?_) (fun a h=>?_)
  ·rw[zan h];exact zf4
  rw[zaq h];refine z6 ?_;refine zap (σ':=⟨[(0,pSelf)],pE ty s (t,b) l,2⟩) ⟨⟨rfl,trivial⟩,⟨rfl,rfl,trivial⟩,rfl,rfl⟩ ?_;(repeat(first|apply zae|apply zac|apply zab|apply zad));refine zaj ?_;refine yc 1 hX zak zdq rfl trivial rfl rfl hok hI ?_;refine zW hX zak rfl trivial ?_;refine zai rfl (fun hb=>?_) (fun hb=>?_)
  ·have hb:eqb .str t.2.2.2.1 zdW=true:=hb;have hb:zE t=zdW:=zbl.1 hb;(repeat(first|apply zae|apply zac|apply zal|apply zad|apply zab|refine zaa hX zak rfl trivial ?_|refine zaa hX zak rfl id ?_|refine zaa hX zak rfl ⟨id,id⟩ ?_));refine zq ⟨.inr rfl,⟨_,rfl,nd,1,_,rfl,rfl,rfl⟩,zay rfl trivial rfl rfl ?_⟩;show (1:Int)=if zE t=zdW then 1 else 0
   rw[if_pos hb]
  ·have hb:eqb .str t.2.2.2.1 zdW=false:=hb;have hb:¬ zE t=zdW:=fun h=>by rw[zbl.2 h]at hb;cases hb
   (repeat(first|apply zae|apply zac|apply zal|apply zad|apply zab|refine zaa hX zak rfl trivial ?_|refine zaa hX zak rfl id ?_|refine zaa hX zak rfl ⟨id,id⟩ ?_));refine zq ⟨.inr rfl,⟨_,rfl,nd,1,_,rfl,rfl,rfl⟩,zay rfl trivial rfl rfl ?_⟩;show (0:Int)=if zE t=zdW then 1 else 0
   rw[if_neg hb]
@[reducible] def cAdd:HCtr:=hP [nd] i64 (fun x _=>[zd x.2.2.1≤100000]) fun x xs=>.ok (((x.2.2.1.length:Nat):Int),psX x.1 (stOf x) (x.2.2.1++ [xs.1]))
theorem zpi:zaA Tryz.prog gmH 136 cAdd:=by
 refine zat (K:=_) zak Tryz.func136 rfl rfl zbd Tryz.call136 rfl (zf rfl) zaT ?_;rintro w0 ⟨G,O,K,fix,D,ρ,B⟩ ty hX hG hK hρ hD hinv ⟨(s:List UInt8),(t:TokT),(l:List Nd),(b:Int),⟨⟩⟩ ⟨(m:Nd),⟨⟩⟩ hp;obtain rfl:G=gmH:=hG;obtain rfl:K=1:=hK;obtain rfl:ρ=none:=hρ;obtain rfl:D=[]:=hD;have hI:=zaE (ty:=ty) (ty':=ty) hX rfl hinv;obtain⟨hok,hl⟩:pOk (s,t,l,b,())∧l.length≤100000:=hp;change AWP _ _ _ _ _ ⟨[(0,pSelf),(1,⟨nd,m⟩)],pE ty s (t,b) l,2⟩ (pQ _ cAdd ty (.ok (((l.length:Nat):Int),psX s (t,b) (l++ [m]))));refine za (za ?_);refine zaa hX zak rfl ?_ ?_
 ·trivial
 have hcap:l.length+1≤1000000000:=by omega
 apply zae;refine AWP.drawF (d:=5) (src:=.tmp 0) rfl (.cons (.of_eq (xA _) rfl (by intro h;cases h) (by intro t h;cases h;intro h;cases h) (.inr (by intro ev ev' h;simp[execOp,resolve,h]))) <| .cons (.of_eq (xA _) rfl (by intro h;cases h) (by intro t h;cases h;intro h;cases h) (.inr (by intro ev ev' h;simp[execOp,resolve,h]))) <| .cons (.of_eq (xA _) rfl (by intro h;cases h) (by intro t h;cases h;intro h;cases h) (.inr (by intro ev ev' h;simp[execOp,resolve,h]))) <| .cons (.of_eq (xA _) rfl (by intro h;cases h) (by intro t h;cases h;intro h;cases h) (.inr (by intro ev ev' h;simp[execOp,resolve,h]))) <| .cons (.of_eq (xA _) rfl (by intro h;cases h) (by intro t h;cases h;intro h;cases h) (.inr (by intro ev ev' h;simp[execOp,resolve,h]))) <| .cons (.of_eq (xA _) rfl (by intro h;cases h) (by intro t h;cases h;intro h;cases h) (.inr (by intro ev ev' h;simp[execOp,resolve,h]))) <| .cons (.edge 0 rfl (by intro h;cases h) (by intro t h;cases h;intro h;cases h) (.inr (by intro ev ev' h;simp[execOp,resolve,h]))) <| .cons (.of_eq (xA _) rfl (by intro h;cases h) (by intro t h;cases h;intro h;cases h) (.inl ⟨_,Array.mem_of_getElem? (i:=0) rfl,by decide,rfl⟩)) <| .cons (.of_eq (xA _) rfl (by intro h;cases h) (by intro t h;cases h;intro h;cases h) (.inr (by intro ev ev' h;simp[execOp,resolve,h]))) <| .cons (.of_eq (xA _) rfl (by intro h;cases h) (by intro t h;cases h;intro h;cases h) (.inr (by intro ev ev' h;simp[execOp,resolve,h]))) <| .nil) rfl rfl rfl rfl (by intro h;cases h) dM hX zak 7 (by kernel_rfl) rfl rfl ?_ ?_ ?_
 ·trivial
 ·exact hcap
 have q0:inR .i64 ((((l++ [m]).length:Nat):Int) - 1):=by rw[show (l++ [m]).length=l.length+1 by simp];exact zav (by omega) (by omega)
 refine za (za ?_);refine zaa hX zak rfl ?_ ?_
 ·exact q0
 refine zq ⟨.inr rfl,⟨_,rfl,nd,1,_,rfl,rfl,rfl⟩,zay rfl trivial rfl rfl ?_⟩;show (((l++ [m]).length:Nat):Int) - 1=((l.length:Nat):Int);rw[zh];simp
@[reducible] def zsR:HCtr:=hP [i64,i64,.bool] ints (fun _ xs=>[-1000≤xs.1,xs.1≤1000]) fun x xs=>toX (fun r=>(r.1,psX x.1 r.2 x.2.2.1)) (zcG x.1 (stOf x) xs.1 xs.2.1 xs.2.2.1)
def hLi:List (zS×HCtr):=[(134,cIs),(81,zgd),(88,zfT),(202,zfS)]
theorem zf9:HsOk Tryz.prog gmH hLi:=.cons zql <| .cons zet <| .cons zfl <| .cons ze8 .nil
@[reducible] def lS (ty:zo) (s:List UInt8) (l:List Nd) (lo hi:Int) (z:Bool) (st:GSt) (acc:List Int):AS:=
 ⟨[(0,pSelf),(1,⟨i64,lo⟩),(2,⟨i64,hi⟩),(3,⟨.bool,z⟩),(9,⟨.obuf i64,(2:Nat)⟩),(10,⟨i64,acc.getLast?.getD (lo - 1)⟩)],[(0,some (pBox ty s st)),(1,some (.buf 73 nd l)),(2,some (.buf 3 i64 acc))],3⟩
theorem lt64 (n:Nat):decide (((n:Nat):Int) < 64)=decide (n < 64):=by
 rw[yz,decide_eq_true_iff,decide_eq_true_iff];omega
theorem zso {s:List UInt8} {lo hi:Int} {z:Bool} {j:Nat} {st:GSt} {acc:List Int} (h:(!acc.isEmpty&&gIs st zcV)=false):zbI s lo hi z (j+1) st acc=(zaC st (zB st.1==3) 3 >>= fun _=>zaC st (decide (acc.length < 64)) 2 >>= fun _=>zaC st (decide (xO st.1 > acc.getLast?.getD (lo - 1))&&(z||(xO st.1 != 0))) 1 >>= fun _=>zaI s st lo hi >>= fun p=>zbI s lo hi z j p.2 (acc++ [p.1])):=by
 rw[zbI,if_neg (by rw[h];decide)]
theorem zr2:zaA Tryz.prog gmH 206 zsR:=by
 refine zat (K:=_) zak Tryz.func206 rfl rfl zbd Tryz.call206 rfl (zf rfl) zaT ?_;rintro w0 ⟨G,O,K,fix,D,ρ,B⟩ ty hX hG hK hρ hD hinv ⟨(s:List UInt8),(t:TokT),(l:List Nd),(b:Int),⟨⟩⟩ ⟨(lo:Int),(hi:Int),(z:Bool),⟨⟩⟩ hp;obtain rfl:G=gmH:=hG;obtain rfl:K=1:=hK;obtain rfl:ρ=none:=hρ;obtain rfl:D=[]:=hD;have hI:=zaE (ty:=ty) (ty':=ty) hX rfl hinv;obtain⟨hok,hlo1,hlo2⟩:pOk (s,t,l,b,())∧ -1000≤lo∧lo≤1000:=hp;change AWP _ _ _ _ _ ⟨[(0,pSelf),(1,⟨i64,lo⟩),(2,⟨i64,hi⟩),(3,⟨.bool,z⟩)],pE ty s (t,b) l,2⟩ (pQ _ zsR ty (toX (fun r=>(r.1,psX s r.2 l)) (zcG s (t,b) lo hi z)));unfold zcG;(repeat(first|apply zae|apply zac|apply zal|apply zad|apply zab|refine zaa hX zak rfl trivial ?_|refine zaa hX zak rfl id ?_|refine zaa hX zak rfl ⟨id,id⟩ ?_));(repeat(first|apply zae|apply zac|apply zab|apply zad));refine zaj ?_;refine zax 1 hX zak zf9 rfl trivial rfl rfl hok hI (e:=zaQ s (t,b) zeS) rfl (fun er h=>?_) (fun st1 h=>?_)
 ·rw[zan h];exact zf4
 rw[zaq h];have hok1:GOk s st1:=(zbf hok.1 h).1;have hsl:s.length≤100000:=hok.2;refine z6 ?_;refine za (za ?_);refine zaa hX zak rfl ?_ ?_
 ·exact zav (by omega) (by omega)
 refine AWP.nilBuf hX 9 3 i64 rfl rfl rfl ?_;apply zab;refine yB (ι:=Nat×GSt×List Int) (fun i=>lS ty s l lo hi z i.2.1 i.2.2) (fun i=>zbI s lo hi z 66 st1 []=zbI s lo hi z i.1 i.2.1 i.2.2∧i.2.2.length+i.1=66∧GOk s i.2.1∧i.2.2.length≤64) (fun i=>i.1) (66,st1,[]) ⟨rfl,rfl,hok1,zl _⟩ ⟨⟨rfl,rfl,rfl,rfl,rfl,rfl,trivial⟩,⟨rfl,rfl,rfl,trivial⟩,rfl,rfl⟩ ?_;rintro ⟨k,st,acc⟩ ⟨heq,hk,hst,hacc⟩;have hst2:pOk (s,st.1,l,st.2,()):=⟨hst,hsl⟩;have heq:zbI s lo hi z 66 st1 []=zbI s lo hi z k st acc:=heq;have hk:acc.length+k=66:=hk;have hacc:acc.length≤64:=hacc;obtain⟨j,rfl⟩:∃ j,k=j+1:=⟨k - 1,by omega⟩;rw[heq];obtain⟨R,hR⟩:∃ R,R=zbI s lo hi z (j+1) st acc:=⟨_,rfl⟩;rw[<-hR];have hR0:=hR;apply zae;by_cases htest:(!acc.isEmpty&&gIs st zcV)=true
 ·obtain⟨hne,hcl⟩:=(zb _ _).mp htest;have hR2:R= .ok (acc,st):=hR.trans (if_pos htest);have hlen:(((acc.length:Nat):Int)==0)=false:=by
   cases acc with
   |nil=>cases hne
   |cons a r=>rw[zs];exact beq_false_of_ne (by omega)
  apply zae;refine zaj ?_;refine yA 4 hX zak rfl trivial ?_;refine jb (σ':=⟨[(0,pSelf),(9,⟨.obuf i64,(2:Nat)⟩),(18,⟨.bool,false⟩)],[(0,some (pBox ty s st)),(1,some (.buf 73 nd l)),(2,some (.buf 3 i64 acc))],3⟩) ⟨⟨rfl,rfl,zcO hlen,trivial⟩,⟨rfl,rfl,rfl,trivial⟩,rfl,rfl⟩ ?_;refine AL.guardT 3 18 false rfl rfl rfl rfl ?_;refine yA 1 hX zak rfl trivial ?_;refine AL.guardT 3 18 false rfl rfl rfl rfl ?_;refine yc 0 hX zak zf9 rfl trivial rfl rfl hst2 hI ?_;refine AL.guardT 3 18 false rfl rfl rfl rfl ?_;refine zW hX zak rfl trivial ?_;refine zai rfl (fun hb=>?_) (fun _=>?_)
  ·have hb:(!gIs st zcV)=true:=hb;rw[hcl]at hb;cases hb
  apply zad;rw[zaq hR2];refine zap (σ':=⟨[(0,pSelf),(9,⟨.obuf i64,(2:Nat)⟩)],[(0,some (pBox ty s st)),(1,some (.buf 73 nd l)),(2,some (.buf 3 i64 acc))],3⟩) ⟨⟨rfl,rfl,trivial⟩,⟨rfl,rfl,rfl,trivial⟩,rfl,rfl⟩ ?_;(repeat(first|apply zae|apply zac|apply zab|apply zad));refine zaj ?_;refine zax 1 hX zak zf9 rfl trivial rfl rfl hst2 hI (e:=zaQ s st zcV) rfl (fun er h=>?_) (fun st2 h=>?_)
  ·rw[zan h];exact zf4
  rw[zaq h];refine z6 ?_;refine AWP.frz hX 9 ?_;(repeat(first|apply zae|apply zac|apply zal|apply zad|apply zab|refine zaa hX zak rfl trivial ?_|refine zaa hX zak rfl id ?_|refine zaa hX zak rfl ⟨id,id⟩ ?_));exact zq ⟨.inr rfl,⟨_,rfl,nd,1,_,rfl,rfl,rfl⟩,zay rfl trivial rfl rfl rfl⟩
 have htest:(!acc.isEmpty&&gIs st zcV)=false:=by simpa using htest
 refine AWP.viaQ (σ':=lS ty s l lo hi z st acc) ?_ ?_
 ·apply zae;refine zaj ?_;refine yA 4 hX zak rfl trivial ?_;cases acc with
  |nil=>
   refine jb (σ':=⟨[(0,pSelf),(1,⟨i64,lo⟩),(2,⟨i64,hi⟩),(3,⟨.bool,z⟩),(9,⟨.obuf i64,(2:Nat)⟩),(10,⟨i64,([]:List Int).getLast?.getD (lo - 1)⟩),(18,⟨.bool,true⟩)],[(0,some (pBox ty s st)),(1,some (.buf 73 nd l)),(2,some (.buf 3 i64 []))],3⟩) ⟨⟨rfl,rfl,rfl,rfl,rfl,rfl,rfl,trivial⟩,⟨rfl,rfl,rfl,trivial⟩,rfl,rfl⟩ ?_;refine AL.guardF 3 18 false .bool false rfl rfl rfl rfl rfl rfl ?_;refine AL.guardF 3 18 false .bool false rfl rfl rfl rfl rfl rfl ?_;refine AL.guardF 3 18 false .bool false rfl rfl rfl rfl rfl rfl ?_;refine zW hX zak rfl id ?_;refine zai rfl (fun _=>?_) (fun hb=>absurd (show true=false from hb) (by decide));apply zac;exact⟨⟨rfl,rfl,rfl,rfl,rfl,rfl,trivial⟩,⟨rfl,rfl,rfl,trivial⟩,rfl,rfl⟩
  |cons a r=>
   have hcl:gIs st zcV=false:=htest;have hlen:(((((a::r:List Int)).length:Nat):Int)==0)=false:=by
    rw[zs];exact beq_false_of_ne (by omega)
   refine jb (σ':=⟨[(0,pSelf),(1,⟨i64,lo⟩),(2,⟨i64,hi⟩),(3,⟨.bool,z⟩),(9,⟨.obuf i64,(2:Nat)⟩),(10,⟨i64,(a::r:List Int).getLast?.getD (lo - 1)⟩),(18,⟨.bool,false⟩)],[(0,some (pBox ty s st)),(1,some (.buf 73 nd l)),(2,some (.buf 3 i64 (a::r)))],3⟩) ⟨⟨rfl,rfl,rfl,rfl,rfl,rfl,zcO hlen,trivial⟩,⟨rfl,rfl,rfl,trivial⟩,rfl,rfl⟩ ?_;refine AL.guardT 3 18 false rfl rfl rfl rfl ?_;refine yA 1 hX zak rfl trivial ?_;refine AL.guardT 3 18 false rfl rfl rfl rfl ?_;refine yc 0 hX zak zf9 rfl trivial rfl rfl hst2 hI ?_;refine AL.guardT 3 18 false rfl rfl rfl rfl ?_;refine zW hX zak rfl trivial ?_;refine zai rfl (fun _=>?_) (fun hb=>?_)
   ·apply zac;exact⟨⟨rfl,rfl,rfl,rfl,rfl,rfl,trivial⟩,⟨rfl,rfl,rfl,trivial⟩,rfl,rfl⟩
   ·have hb:(!gIs st zcV)=false:=hb;rw[hcl]at hb;cases hb
 have hR:=hR.trans (zso htest);apply zae;apply zab;(repeat(first|apply zae|apply zac|apply zab|apply zad));refine zaj ?_;refine zax 7 hX zak zf9 rfl trivial rfl rfl hst2 hI (e:=zaC st (zB st.1==3) 3) rfl (fun er h=>?_) (fun u1 h1=>?_)
 ·rw[zan (hR.trans (by first|(rw[h];done)|(rw[h];rfl)))];exact rfl
 replace hR:=hR.trans (show _=_ by rw[h1])
 refine z6 ?_;refine zap (σ':=lS ty s l lo hi z st acc) ⟨⟨rfl,rfl,rfl,rfl,rfl,rfl,trivial⟩,⟨rfl,rfl,rfl,trivial⟩,rfl,rfl⟩ ?_;(repeat(first|apply zae|apply zac|apply zab|apply zad));refine zaj ?_;refine zax 4 hX zak zf9 rfl trivial rfl rfl hst2 hI (e:=zaC st (decide (((acc.length:Nat):Int) < 64)) 2) rfl (fun er h=>?_) (fun u2 h2=>?_)
 ·rw[lt64]at h;rw[zan (hR.trans (by first|(rw[h];done)|(rw[h];rfl)))];exact rfl
 rw[lt64]at h2;have hacc64:=of_decide_eq_true (zaK h2)
 replace hR:=hR.trans (show _=_ by rw[h2])
 refine z6 ?_;refine zap (σ':=lS ty s l lo hi z st acc) ⟨⟨rfl,rfl,rfl,rfl,rfl,rfl,trivial⟩,⟨rfl,rfl,rfl,trivial⟩,rfl,rfl⟩ ?_;(repeat(first|apply zae|apply zac|apply zab|apply zad));refine zaj ?_;refine zax 19 hX zak zf9 rfl ?_ rfl rfl hst2 hI (e:=zaC st (bif decide (xO st.1 > acc.getLast?.getD (lo - 1)) then (bif z then true else !(xO st.1==0)) else false) 1) rfl (fun er h=>?_) (fun u3 h3=>?_)
 ·repeat'(first|exact trivial|assumption|(refine⟨?_,?_⟩)|(intro _)|exact zf rfl|exact zu _|(simp_all [allP];done))
 ·rw[zcg,zhp]at h;rw[zan (hR.trans (by rw[show (xO st.1 != 0)= !(xO st.1==0) from rfl,h];first|done|rfl))];exact rfl
 rw[zcg,zhp]at h3
 replace hR:=hR.trans (show _=_ by rw[show (xO st.1 != 0)= !(xO st.1==0) from rfl,h3])
 refine z6 ?_;refine zap (σ':=lS ty s l lo hi z st acc) ⟨⟨rfl,rfl,rfl,rfl,rfl,rfl,trivial⟩,⟨rfl,rfl,rfl,trivial⟩,rfl,rfl⟩ ?_;(repeat(first|apply zae|apply zac|apply zab|apply zad));refine zaj ?_;refine zax 4 hX zak zf9 rfl trivial rfl rfl hst2 hI (e:=zaI s st lo hi) rfl (fun er h=>?_) (fun p h4=>?_)
 ·rw[zan (hR.trans (by first|(rw[h];done)|(rw[h];rfl)))];exact rfl
 obtain⟨x,st2⟩:=p
 replace hR:=hR.trans (show _=zbI s lo hi z j st2 (acc++ [x]) by rw[h4];rfl)
 have hst3:=(zam hst h4).1.1;have hcap:acc.length+1≤1000000000:=by omega
 refine zW hX zak rfl hcap ?_;have hla:(acc++ [x]).length=acc.length+1:=by simp
 have q0:inR .i64 ((((acc++ [x]).length:Nat):Int) - 1):=zav (by omega) (by omega);have q1:(0:Int)≤(((acc++ [x]).length:Nat):Int) - 1:=by omega
 have q2:(((acc++ [x]).length:Nat):Int) - 1 < (((acc++ [x]).length:Nat):Int):=by omega
 have q3:((((acc++ [x]).length:Nat):Int) - 1).toNat < (acc++ [x]).length:=by omega
 refine zap (σ':=⟨[(0,pSelf),(1,⟨i64,lo⟩),(2,⟨i64,hi⟩),(3,⟨.bool,z⟩),(9,⟨.obuf i64,(2:Nat)⟩)],[(0,some (pBox ty s st2)),(1,some (.buf 73 nd l)),(2,some (.buf 3 i64 (acc++ [x])))],3⟩) ⟨⟨rfl,rfl,rfl,rfl,rfl,trivial⟩,⟨rfl,rfl,rfl,trivial⟩,rfl,rfl⟩ ?_;refine za (za ?_);refine zaa hX zak rfl ?_ ?_
 ·exact⟨q0,q1,q2,q3⟩
 refine⟨(j,st2,acc++ [x]),⟨hR0▸hR,by show (acc++ [x]).length+j=66;omega,hst3,by show (acc++ [x]).length≤64;omega⟩,xw j,⟨rfl,rfl,rfl,rfl,rfl,vI64 ?_,trivial⟩,⟨rfl,rfl,rfl,trivial⟩,rfl,rfl⟩;show (acc++ [x]).getD ((((acc++ [x]).length:Nat):Int) - 1).toNat 0=(acc++ [x]).getLast?.getD (lo - 1);rw[show ((((acc++ [x]).length:Nat):Int) - 1).toNat=acc.length by omega];simp
def hFd:List (zS×HCtr):=[(202,zfS),(209,zhm),(210,zo5),(206,zsR),(81,zgd)]
theorem zbO:HsOk Tryz.prog gmH hFd:=.cons ze8 <| .cons zlb <| .cons zpE <| .cons zr2 <| .cons zet .nil
theorem nthT (a b:Bool):(bif !a then true else !b)=((!a)||(!b)):=by cases a<;>rfl
@[reducible] def zdg (w:LeafW):HCtr:=hP [] nd (fun _ _=>[]) fun x _=>toX (fun r=>(r.1,psX x.1 r.2 x.2.2.1)) (zcN x.1 (stOf x) w)
@[reducible] def zfR (w:SufW):HCtr:=hP [] nd (fun _ _=>[]) fun x _=>toX (fun r=>(r.1,psX x.1 r.2 x.2.2.1)) (gSuf x.1 (stOf x) w)
theorem zqy:zaA Tryz.prog gmH 237 (zdg .days):=by
 refine zat (K:=_) zak Tryz.func237 rfl rfl zbd Tryz.call237 rfl (zf rfl) zaT ?_;rintro w0 ⟨G,O,K,fix,D,ρ,B⟩ ty hX hG hK hρ hD hinv ⟨(s:List UInt8),(t:TokT),(l:List Nd),(b:Int),⟨⟩⟩ ⟨⟩ hp;obtain rfl:G=gmH:=hG;obtain rfl:K=1:=hK;obtain rfl:ρ=none:=hρ;obtain rfl:D=[]:=hD;have hI:=zaE (ty:=ty) (ty':=ty) hX rfl hinv;have hok0:pOk (s,t,l,b,()):=hp;change AWP _ _ _ _ _ ⟨[(0,pSelf)],pE ty s (t,b) l,2⟩ (pQ _ (zdg .days) ty (toX (fun r=>(r.1,psX s r.2 l)) (zcN s (t,b) .days)));unfold zcN;refine za (za ?_);refine zaa hX zak rfl ?_ ?_
 ·trivial
 (repeat(first|apply zae|apply zac|apply zab|apply zad));refine zaj ?_;refine zax 1 hX zak zbO rfl trivial rfl rfl hok0 hI (e:=zaI s (t,b) 1 zdj) rfl (fun er h=>?_) (fun a0 h0=>?_)
 ·rw[zan h];exact rfl
 rw[zaq h0];obtain⟨x0,st0⟩:=a0;have hok1:pOk (s,st0.1,l,st0.2,()):=⟨((zam hok0.1 h0).1).1,hok0.2⟩;refine zW hX zak rfl trivial ?_;refine zap (σ':=⟨[(0,pSelf),(2,⟨.optr nd,⟨2,nd,.here⟩⟩),(3,⟨i64,x0⟩)],[(0,some (pBox ty s st0)),(1,some (.buf 73 nd l)),(2,some (.box nd zNd))],3⟩) ⟨⟨rfl,rfl,rfl,trivial⟩,⟨rfl,rfl,rfl,trivial⟩,rfl,rfl⟩ ?_;(repeat(first|apply zae|apply zac|apply zab|apply zad));refine zaj ?_;refine zax 2 hX zak zbO rfl trivial rfl rfl hok1 hI (e:=zaI s st0 0 zdj) rfl (fun er h=>?_) (fun a1 h1=>?_)
 ·rw[zan h];exact rfl
 rw[zaq h1];obtain⟨x1,st1⟩:=a1;have hok2:pOk (s,st1.1,l,st1.2,()):=⟨((zam hok1.1 h1).1).1,hok1.2⟩;refine zW hX zak rfl trivial ?_;exact zq ⟨.inr rfl,⟨_,rfl,nd,1,_,rfl,rfl,rfl⟩,zay rfl trivial rfl rfl rfl⟩
theorem zoQ:zaA Tryz.prog gmH 238 (zdg .years):=by
 refine zat (K:=_) zak Tryz.func238 rfl rfl zbd Tryz.call238 rfl (zf rfl) zaT ?_;rintro w0 ⟨G,O,K,fix,D,ρ,B⟩ ty hX hG hK hρ hD hinv ⟨(s:List UInt8),(t:TokT),(l:List Nd),(b:Int),⟨⟩⟩ ⟨⟩ hp;obtain rfl:G=gmH:=hG;obtain rfl:K=1:=hK;obtain rfl:ρ=none:=hρ;obtain rfl:D=[]:=hD;have hI:=zaE (ty:=ty) (ty':=ty) hX rfl hinv;have hok0:pOk (s,t,l,b,()):=hp;change AWP _ _ _ _ _ ⟨[(0,pSelf)],pE ty s (t,b) l,2⟩ (pQ _ (zdg .years) ty (toX (fun r=>(r.1,psX s r.2 l)) (zcN s (t,b) .years)));unfold zcN;refine za (za ?_);refine zaa hX zak rfl ?_ ?_
 ·trivial
 (repeat(first|apply zae|apply zac|apply zab|apply zad));refine zaj ?_;refine zax 1 hX zak zbO rfl trivial rfl rfl hok0 hI (e:=gCal s (t,b)) rfl (fun er h=>?_) (fun a0 h0=>?_)
 ·rw[zan h];exact rfl
 rw[zaq h0];obtain⟨x0,st0⟩:=a0;have hok1:pOk (s,st0.1,l,st0.2,()):=⟨((zam hok0.1 h0).1).1,hok0.2⟩;refine zW hX zak rfl trivial ?_;refine zap (σ':=⟨[(0,pSelf),(2,⟨.optr nd,⟨2,nd,.here⟩⟩),(3,⟨.optr nd,⟨3,nd,.here⟩⟩)],[(0,some (pBox ty s st0)),(1,some (.buf 73 nd l)),(2,some (.box nd zNd)),(3,some (.box nd (2,x0,0,0,0,0,[],[],())))],4⟩) ⟨⟨rfl,rfl,rfl,trivial⟩,⟨rfl,rfl,rfl,rfl,trivial⟩,rfl,rfl⟩ ?_;(repeat(first|apply zae|apply zac|apply zab|apply zad));refine zaj ?_;refine zax 1 hX zak zbO rfl trivial rfl rfl hok1 hI (e:=zaI s st0 1 400) rfl (fun er h=>?_) (fun a1 h1=>?_)
 ·rw[zan h];exact rfl
 rw[zaq h1];obtain⟨x1,st1⟩:=a1;have hok2:pOk (s,st1.1,l,st1.2,()):=⟨((zam hok1.1 h1).1).1,hok1.2⟩;refine zW hX zak rfl trivial ?_;refine zap (σ':=⟨[(0,pSelf),(2,⟨.optr nd,⟨2,nd,.here⟩⟩),(3,⟨.optr nd,⟨3,nd,.here⟩⟩)],[(0,some (pBox ty s st1)),(1,some (.buf 73 nd l)),(2,some (.box nd zNd)),(3,some (.box nd (2,x0,0,0,x1,0,[],[],())))],4⟩) ⟨⟨rfl,rfl,rfl,trivial⟩,⟨rfl,rfl,rfl,rfl,trivial⟩,rfl,rfl⟩ ?_;(repeat(first|apply zae|apply zac|apply zab|apply zad));refine zaj ?_;have hyb:=(zam hok1.1 h1).2;have hyc:inR .i64 (x1 - 1):=zav (by omega) (by omega);refine zax 4 hX zak zbO rfl hyc rfl rfl hok2 hI (e:=zaI s st1 0 (x1 - 1)) rfl (fun er h=>?_) (fun a2 h2=>?_)
 ·rw[zan h];exact rfl
 rw[zaq h2];obtain⟨x2,st2⟩:=a2;have hok3:pOk (s,st2.1,l,st2.2,()):=⟨((zam hok2.1 h2).1).1,hok2.2⟩;refine zW hX zak rfl trivial ?_;refine zap (σ':=⟨[(0,pSelf),(2,⟨.optr nd,⟨2,nd,.here⟩⟩),(3,⟨.optr nd,⟨3,nd,.here⟩⟩)],[(0,some (pBox ty s st2)),(1,some (.buf 73 nd l)),(2,some (.box nd zNd)),(3,some (.box nd (2,x0,0,0,x1,x2,[],[],())))],4⟩) ⟨⟨rfl,rfl,rfl,trivial⟩,⟨rfl,rfl,rfl,rfl,trivial⟩,rfl,rfl⟩ ?_;(repeat(first|apply zae|apply zac|apply zal|apply zad|apply zab|refine zaa hX zak rfl trivial ?_|refine zaa hX zak rfl id ?_|refine zaa hX zak rfl ⟨id,id⟩ ?_));exact zq ⟨.inr rfl,⟨_,rfl,nd,1,_,rfl,rfl,rfl⟩,zay rfl trivial rfl rfl rfl⟩
theorem zm3:zaA Tryz.prog gmH 239 (zdg .months):=by
 refine zat (K:=_) zak Tryz.func239 rfl rfl zbd Tryz.call239 rfl (zf rfl) zaT ?_;rintro w0 ⟨G,O,K,fix,D,ρ,B⟩ ty hX hG hK hρ hD hinv ⟨(s:List UInt8),(t:TokT),(l:List Nd),(b:Int),⟨⟩⟩ ⟨⟩ hp;obtain rfl:G=gmH:=hG;obtain rfl:K=1:=hK;obtain rfl:ρ=none:=hρ;obtain rfl:D=[]:=hD;have hI:=zaE (ty:=ty) (ty':=ty) hX rfl hinv;have hok0:pOk (s,t,l,b,()):=hp;change AWP _ _ _ _ _ ⟨[(0,pSelf)],pE ty s (t,b) l,2⟩ (pQ _ (zdg .months) ty (toX (fun r=>(r.1,psX s r.2 l)) (zcN s (t,b) .months)));unfold zcN;refine za (za ?_);refine zaa hX zak rfl ?_ ?_
 ·trivial
 (repeat(first|apply zae|apply zac|apply zab|apply zad));refine zaj ?_;refine zax 1 hX zak zbO rfl trivial rfl rfl hok0 hI (e:=gCal s (t,b)) rfl (fun er h=>?_) (fun a0 h0=>?_)
 ·rw[zan h];exact rfl
 rw[zaq h0];obtain⟨x0,st0⟩:=a0;have hok1:pOk (s,st0.1,l,st0.2,()):=⟨((zam hok0.1 h0).1).1,hok0.2⟩;refine zW hX zak rfl trivial ?_;refine zap (σ':=⟨[(0,pSelf),(2,⟨.optr nd,⟨2,nd,.here⟩⟩),(3,⟨i64,x0⟩)],[(0,some (pBox ty s st0)),(1,some (.buf 73 nd l)),(2,some (.box nd zNd))],3⟩) ⟨⟨rfl,rfl,rfl,trivial⟩,⟨rfl,rfl,rfl,trivial⟩,rfl,rfl⟩ ?_;(repeat(first|apply zae|apply zac|apply zab|apply zad));refine zaj ?_;refine zax 2 hX zak zbO rfl trivial rfl rfl ⟨hok1,(by decide:(-1000:Int)≤1),(by decide:(1:Int)≤1000)⟩ hI (e:=zcG s st0 1 16 true) rfl (fun er h=>?_) (fun a1 h1=>?_)
 ·rw[zan h];exact rfl
 rw[zaq h1];obtain⟨x1,st1⟩:=a1;have hok2:pOk (s,st1.1,l,st1.2,()):=⟨(zbU hok1.1 h1).1,hok1.2⟩;refine zW hX zak rfl trivial ?_;exact zq ⟨.inr rfl,⟨_,rfl,nd,1,_,rfl,rfl,rfl⟩,zay rfl trivial rfl rfl rfl⟩
theorem ziR:zaA Tryz.prog gmH 240 (zdg .monthdays):=by
 refine zat (K:=_) zak Tryz.func240 rfl rfl zbd Tryz.call240 rfl (zf rfl) zaT ?_;rintro w0 ⟨G,O,K,fix,D,ρ,B⟩ ty hX hG hK hρ hD hinv ⟨(s:List UInt8),(t:TokT),(l:List Nd),(b:Int),⟨⟩⟩ ⟨⟩ hp;obtain rfl:G=gmH:=hG;obtain rfl:K=1:=hK;obtain rfl:ρ=none:=hρ;obtain rfl:D=[]:=hD;have hI:=zaE (ty:=ty) (ty':=ty) hX rfl hinv;have hok0:pOk (s,t,l,b,()):=hp;change AWP _ _ _ _ _ ⟨[(0,pSelf)],pE ty s (t,b) l,2⟩ (pQ _ (zdg .monthdays) ty (toX (fun r=>(r.1,psX s r.2 l)) (zcN s (t,b) .monthdays)));unfold zcN;refine za (za ?_);refine zaa hX zak rfl ?_ ?_
 ·trivial
 (repeat(first|apply zae|apply zac|apply zab|apply zad));refine zaj ?_;refine zax 1 hX zak zbO rfl trivial rfl rfl hok0 hI (e:=gCal s (t,b)) rfl (fun er h=>?_) (fun a0 h0=>?_)
 ·rw[zan h];exact rfl
 rw[zaq h0];obtain⟨x0,st0⟩:=a0;have hok1:pOk (s,st0.1,l,st0.2,()):=⟨((zam hok0.1 h0).1).1,hok0.2⟩;refine zW hX zak rfl trivial ?_;refine zap (σ':=⟨[(0,pSelf),(2,⟨.optr nd,⟨2,nd,.here⟩⟩),(3,⟨i64,x0⟩)],[(0,some (pBox ty s st0)),(1,some (.buf 73 nd l)),(2,some (.box nd zNd))],3⟩) ⟨⟨rfl,rfl,rfl,trivial⟩,⟨rfl,rfl,rfl,trivial⟩,rfl,rfl⟩ ?_;(repeat(first|apply zae|apply zac|apply zab|apply zad));refine zaj ?_;refine zax 2 hX zak zbO rfl trivial rfl rfl ⟨hok1,(by decide:(-1000:Int)≤(-40)),(by decide:((-40):Int)≤1000)⟩ hI (e:=zcG s st0 (-40) 40 false) rfl (fun er h=>?_) (fun a1 h1=>?_)
 ·rw[zan h];exact rfl
 rw[zaq h1];obtain⟨x1,st1⟩:=a1;have hok2:pOk (s,st1.1,l,st1.2,()):=⟨(zbU hok1.1 h1).1,hok1.2⟩;refine zW hX zak rfl trivial ?_;exact zq ⟨.inr rfl,⟨_,rfl,nd,1,_,rfl,rfl,rfl⟩,zay rfl trivial rfl rfl rfl⟩
theorem zoR:zaA Tryz.prog gmH 242 (zdg .weeks):=by
 refine zat (K:=_) zak Tryz.func242 rfl rfl zbd Tryz.call242 rfl (zf rfl) zaT ?_;rintro w0 ⟨G,O,K,fix,D,ρ,B⟩ ty hX hG hK hρ hD hinv ⟨(s:List UInt8),(t:TokT),(l:List Nd),(b:Int),⟨⟩⟩ ⟨⟩ hp;obtain rfl:G=gmH:=hG;obtain rfl:K=1:=hK;obtain rfl:ρ=none:=hρ;obtain rfl:D=[]:=hD;have hI:=zaE (ty:=ty) (ty':=ty) hX rfl hinv;have hok0:pOk (s,t,l,b,()):=hp;change AWP _ _ _ _ _ ⟨[(0,pSelf)],pE ty s (t,b) l,2⟩ (pQ _ (zdg .weeks) ty (toX (fun r=>(r.1,psX s r.2 l)) (zcN s (t,b) .weeks)));unfold zcN;refine za (za ?_);refine zaa hX zak rfl ?_ ?_
 ·trivial
 (repeat(first|apply zae|apply zac|apply zab|apply zad));refine zaj ?_;refine zax 1 hX zak zbO rfl trivial rfl rfl hok0 hI (e:=gCal s (t,b)) rfl (fun er h=>?_) (fun a0 h0=>?_)
 ·rw[zan h];exact rfl
 rw[zaq h0];obtain⟨x0,st0⟩:=a0;have hok1:pOk (s,st0.1,l,st0.2,()):=⟨((zam hok0.1 h0).1).1,hok0.2⟩;refine zW hX zak rfl trivial ?_;refine zap (σ':=⟨[(0,pSelf),(2,⟨.optr nd,⟨2,nd,.here⟩⟩),(3,⟨i64,x0⟩)],[(0,some (pBox ty s st0)),(1,some (.buf 73 nd l)),(2,some (.box nd zNd))],3⟩) ⟨⟨rfl,rfl,rfl,trivial⟩,⟨rfl,rfl,rfl,trivial⟩,rfl,rfl⟩ ?_;(repeat(first|apply zae|apply zac|apply zab|apply zad));refine zaj ?_;refine zax 2 hX zak zbO rfl trivial rfl rfl ⟨hok1,(by decide:(-1000:Int)≤1),(by decide:(1:Int)≤1000)⟩ hI (e:=zcG s st0 1 54 true) rfl (fun er h=>?_) (fun a1 h1=>?_)
 ·rw[zan h];exact rfl
 rw[zaq h1];obtain⟨x1,st1⟩:=a1;have hok2:pOk (s,st1.1,l,st1.2,()):=⟨(zbU hok1.1 h1).1,hok1.2⟩;refine zW hX zak rfl trivial ?_;exact zq ⟨.inr rfl,⟨_,rfl,nd,1,_,rfl,rfl,rfl⟩,zay rfl trivial rfl rfl rfl⟩
theorem zkb:zaA Tryz.prog gmH 241 (zdg .weekdays):=by
 refine zat (K:=_) zak Tryz.func241 rfl rfl zbd Tryz.call241 rfl (zf rfl) zaT ?_;rintro w0 ⟨G,O,K,fix,D,ρ,B⟩ ty hX hG hK hρ hD hinv ⟨(s:List UInt8),(t:TokT),(l:List Nd),(b:Int),⟨⟩⟩ ⟨⟩ hp;obtain rfl:G=gmH:=hG;obtain rfl:K=1:=hK;obtain rfl:ρ=none:=hρ;obtain rfl:D=[]:=hD;have hI:=zaE (ty:=ty) (ty':=ty) hX rfl hinv;have hok0:pOk (s,t,l,b,()):=hp;change AWP _ _ _ _ _ ⟨[(0,pSelf)],pE ty s (t,b) l,2⟩ (pQ _ (zdg .weekdays) ty (toX (fun r=>(r.1,psX s r.2 l)) (zcN s (t,b) .weekdays)));unfold zcN;refine za (za ?_);refine zaa hX zak rfl ?_ ?_
 ·trivial
 (repeat(first|apply zae|apply zac|apply zab|apply zad));refine zaj ?_;refine zax 1 hX zak zbO rfl trivial rfl rfl ⟨hok0,(by decide:(-1000:Int)≤0),(by decide:(0:Int)≤1000)⟩ hI (e:=zcG s (t,b) 0 6 true) rfl (fun er h=>?_) (fun a0 h0=>?_)
 ·rw[zan h];exact rfl
 rw[zaq h0];obtain⟨x0,st0⟩:=a0;have hok1:pOk (s,st0.1,l,st0.2,()):=⟨(zbU hok0.1 h0).1,hok0.2⟩;refine zW hX zak rfl trivial ?_;exact zq ⟨.inr rfl,⟨_,rfl,nd,1,_,rfl,rfl,rfl⟩,zay rfl trivial rfl rfl rfl⟩
theorem zsC:zaA Tryz.prog gmH 243 (zdg .nth):=by
 refine zat (K:=_) zak Tryz.func243 rfl rfl zbd Tryz.call243 rfl (zf rfl) zaT ?_;rintro w0 ⟨G,O,K,fix,D,ρ,B⟩ ty hX hG hK hρ hD hinv ⟨(s:List UInt8),(t:TokT),(l:List Nd),(b:Int),⟨⟩⟩ ⟨⟩ hp;obtain rfl:G=gmH:=hG;obtain rfl:K=1:=hK;obtain rfl:ρ=none:=hρ;obtain rfl:D=[]:=hD;have hI:=zaE (ty:=ty) (ty':=ty) hX rfl hinv;have hok0:pOk (s,t,l,b,()):=hp;change AWP _ _ _ _ _ ⟨[(0,pSelf)],pE ty s (t,b) l,2⟩ (pQ _ (zdg .nth) ty (toX (fun r=>(r.1,psX s r.2 l)) (zcN s (t,b) .nth)));unfold zcN;refine za (za ?_);refine zaa hX zak rfl ?_ ?_
 ·trivial
 (repeat(first|apply zae|apply zac|apply zab|apply zad));refine zaj ?_;refine zax 1 hX zak zbO rfl trivial rfl rfl hok0 hI (e:=gCal s (t,b)) rfl (fun er h=>?_) (fun a0 h0=>?_)
 ·rw[zan h];exact rfl
 rw[zaq h0];obtain⟨x0,st0⟩:=a0;have hok1:pOk (s,st0.1,l,st0.2,()):=⟨((zam hok0.1 h0).1).1,hok0.2⟩;refine zW hX zak rfl trivial ?_;refine zap (σ':=⟨[(0,pSelf),(2,⟨.optr nd,⟨2,nd,.here⟩⟩),(3,⟨.optr nd,⟨3,nd,.here⟩⟩)],[(0,some (pBox ty s st0)),(1,some (.buf 73 nd l)),(2,some (.box nd zNd)),(3,some (.box nd (7,x0,0,0,0,0,[],[],())))],4⟩) ⟨⟨rfl,rfl,rfl,trivial⟩,⟨rfl,rfl,rfl,rfl,trivial⟩,rfl,rfl⟩ ?_;(repeat(first|apply zae|apply zac|apply zab|apply zad));refine zaj ?_;refine zax 15 hX zak zbO rfl ?_ rfl rfl hok1 hI (e:=zaC st0 (bif !(zB st0.1==3) then true else !(xO st0.1==0)) 1) rfl (fun er h=>?_) (fun u1 h1=>?_)
 ·repeat'(first|exact trivial|assumption|(refine⟨?_,?_⟩)|(intro _)|exact zf rfl|exact zu _|(simp_all [allP];done))
 ·rw[nthT]at h;rw[zan (show zaC st0 ((zB st0.1 != 3)||(xO st0.1 != 0)) 1=_ from h)];exact rfl
 rw[nthT]at h1;rw[zaq (show zaC st0 ((zB st0.1 != 3)||(xO st0.1 != 0)) 1=_ from h1)];refine z6 ?_;refine zap (σ':=⟨[(0,pSelf),(2,⟨.optr nd,⟨2,nd,.here⟩⟩),(3,⟨.optr nd,⟨3,nd,.here⟩⟩)],[(0,some (pBox ty s st0)),(1,some (.buf 73 nd l)),(2,some (.box nd zNd)),(3,some (.box nd (7,x0,0,0,0,0,[],[],())))],4⟩) ⟨⟨rfl,rfl,rfl,trivial⟩,⟨rfl,rfl,rfl,rfl,trivial⟩,rfl,rfl⟩ ?_;(repeat(first|apply zae|apply zac|apply zab|apply zad));refine zaj ?_;refine zax 1 hX zak zbO rfl trivial rfl rfl hok1 hI (e:=zaI s st0 (-60) 60) rfl (fun er h=>?_) (fun a2 h2=>?_)
 ·rw[zan h];exact rfl
 rw[zaq h2];obtain⟨x2,st2⟩:=a2;have hok2:pOk (s,st2.1,l,st2.2,()):=⟨((zam hok1.1 h2).1).1,hok1.2⟩;refine zW hX zak rfl trivial ?_;refine zap (σ':=⟨[(0,pSelf),(2,⟨.optr nd,⟨2,nd,.here⟩⟩),(3,⟨.optr nd,⟨3,nd,.here⟩⟩)],[(0,some (pBox ty s st2)),(1,some (.buf 73 nd l)),(2,some (.box nd zNd)),(3,some (.box nd (7,x0,0,0,x2,0,[],[],())))],4⟩) ⟨⟨rfl,rfl,rfl,trivial⟩,⟨rfl,rfl,rfl,rfl,trivial⟩,rfl,rfl⟩ ?_;(repeat(first|apply zae|apply zac|apply zab|apply zad));refine zaj ?_;refine zax 1 hX zak zbO rfl trivial rfl rfl hok2 hI (e:=zaI s st2 0 6) rfl (fun er h=>?_) (fun a3 h3=>?_)
 ·rw[zan h];exact rfl
 rw[zaq h3];obtain⟨x3,st3⟩:=a3;have hok3:pOk (s,st3.1,l,st3.2,()):=⟨((zam hok2.1 h3).1).1,hok2.2⟩;refine zW hX zak rfl trivial ?_;refine zap (σ':=⟨[(0,pSelf),(2,⟨.optr nd,⟨2,nd,.here⟩⟩),(3,⟨.optr nd,⟨3,nd,.here⟩⟩)],[(0,some (pBox ty s st3)),(1,some (.buf 73 nd l)),(2,some (.box nd zNd)),(3,some (.box nd (7,x0,0,0,x2,x3,[],[],())))],4⟩) ⟨⟨rfl,rfl,rfl,trivial⟩,⟨rfl,rfl,rfl,rfl,trivial⟩,rfl,rfl⟩ ?_;(repeat(first|apply zae|apply zac|apply zab|apply zad));refine zaj ?_;refine zax 1 hX zak zbO rfl trivial rfl rfl hok3 hI (e:=zcY s st3) rfl (fun er h=>?_) (fun a4 h4=>?_)
 ·rw[zan h];exact rfl
 rw[zaq h4];obtain⟨x4,st4⟩:=a4;have hok4:pOk (s,st4.1,l,st4.2,()):=⟨(zdA hok3.1 h4).1,hok3.2⟩;refine zW hX zak rfl trivial ?_;refine zap (σ':=⟨[(0,pSelf),(2,⟨.optr nd,⟨2,nd,.here⟩⟩),(3,⟨.optr nd,⟨3,nd,.here⟩⟩)],[(0,some (pBox ty s st4)),(1,some (.buf 73 nd l)),(2,some (.box nd zNd)),(3,some (.box nd (7,x0,x4,0,x2,x3,[],[],())))],4⟩) ⟨⟨rfl,rfl,rfl,trivial⟩,⟨rfl,rfl,rfl,rfl,trivial⟩,rfl,rfl⟩ ?_;(repeat(first|apply zae|apply zac|apply zal|apply zad|apply zab|refine zaa hX zak rfl trivial ?_|refine zaa hX zak rfl id ?_|refine zaa hX zak rfl ⟨id,id⟩ ?_));exact zq ⟨.inr rfl,⟨_,rfl,nd,1,_,rfl,rfl,rfl⟩,zay rfl trivial rfl rfl rfl⟩
theorem zoT:zaA Tryz.prog gmH 201 (zfR .shift):=by
 refine zat (K:=_) zak Tryz.func201 rfl rfl zbd Tryz.call201 rfl (zf rfl) zaT ?_;rintro w0 ⟨G,O,K,fix,D,ρ,B⟩ ty hX hG hK hρ hD hinv ⟨(s:List UInt8),(t:TokT),(l:List Nd),(b:Int),⟨⟩⟩ ⟨⟩ hp;obtain rfl:G=gmH:=hG;obtain rfl:K=1:=hK;obtain rfl:ρ=none:=hρ;obtain rfl:D=[]:=hD;have hI:=zaE (ty:=ty) (ty':=ty) hX rfl hinv;have hok0:pOk (s,t,l,b,()):=hp;change AWP _ _ _ _ _ ⟨[(0,pSelf)],pE ty s (t,b) l,2⟩ (pQ _ (zfR .shift) ty (toX (fun r=>(r.1,psX s r.2 l)) (gSuf s (t,b) .shift)));unfold gSuf;refine za (za ?_);refine zaa hX zak rfl ?_ ?_
 ·trivial
 (repeat(first|apply zae|apply zac|apply zab|apply zad));refine zaj ?_;refine zax 1 hX zak zbO rfl trivial rfl rfl hok0 hI (e:=zaI s (t,b) (-zdj) zdj) rfl (fun er h=>?_) (fun a0 h0=>?_)
 ·rw[zan h];exact rfl
 rw[zaq h0];obtain⟨x0,st0⟩:=a0;have hok1:pOk (s,st0.1,l,st0.2,()):=⟨((zam hok0.1 h0).1).1,hok0.2⟩;refine zW hX zak rfl trivial ?_;exact zq ⟨.inr rfl,⟨_,rfl,nd,1,_,rfl,rfl,rfl⟩,zay rfl trivial rfl rfl rfl⟩
theorem zqx:zaA Tryz.prog gmH 203 (zfR .from_):=by
 refine zat (K:=_) zak Tryz.func203 rfl rfl zbd Tryz.call203 rfl (zf rfl) zaT ?_;rintro w0 ⟨G,O,K,fix,D,ρ,B⟩ ty hX hG hK hρ hD hinv ⟨(s:List UInt8),(t:TokT),(l:List Nd),(b:Int),⟨⟩⟩ ⟨⟩ hp;obtain rfl:G=gmH:=hG;obtain rfl:K=1:=hK;obtain rfl:ρ=none:=hρ;obtain rfl:D=[]:=hD;have hI:=zaE (ty:=ty) (ty':=ty) hX rfl hinv;have hok0:pOk (s,t,l,b,()):=hp;change AWP _ _ _ _ _ ⟨[(0,pSelf)],pE ty s (t,b) l,2⟩ (pQ _ (zfR .from_) ty (toX (fun r=>(r.1,psX s r.2 l)) (gSuf s (t,b) .from_)));unfold gSuf;refine za (za ?_);refine zaa hX zak rfl ?_ ?_
 ·trivial
 (repeat(first|apply zae|apply zac|apply zab|apply zad));refine zaj ?_;refine zax 1 hX zak zbO rfl trivial rfl rfl hok0 hI (e:=zaI s (t,b) 0 zdj) rfl (fun er h=>?_) (fun a0 h0=>?_)
 ·rw[zan h];exact rfl
 rw[zaq h0];obtain⟨x0,st0⟩:=a0;have hok1:pOk (s,st0.1,l,st0.2,()):=⟨((zam hok0.1 h0).1).1,hok0.2⟩;refine zW hX zak rfl trivial ?_;exact zq ⟨.inr rfl,⟨_,rfl,nd,1,_,rfl,rfl,rfl⟩,zay rfl trivial rfl rfl rfl⟩
theorem zoS:zaA Tryz.prog gmH 204 (zfR .until_):=by
 refine zat (K:=_) zak Tryz.func204 rfl rfl zbd Tryz.call204 rfl (zf rfl) zaT ?_;rintro w0 ⟨G,O,K,fix,D,ρ,B⟩ ty hX hG hK hρ hD hinv ⟨(s:List UInt8),(t:TokT),(l:List Nd),(b:Int),⟨⟩⟩ ⟨⟩ hp;obtain rfl:G=gmH:=hG;obtain rfl:K=1:=hK;obtain rfl:ρ=none:=hρ;obtain rfl:D=[]:=hD;have hI:=zaE (ty:=ty) (ty':=ty) hX rfl hinv;have hok0:pOk (s,t,l,b,()):=hp;change AWP _ _ _ _ _ ⟨[(0,pSelf)],pE ty s (t,b) l,2⟩ (pQ _ (zfR .until_) ty (toX (fun r=>(r.1,psX s r.2 l)) (gSuf s (t,b) .until_)));unfold gSuf;refine za (za ?_);refine zaa hX zak rfl ?_ ?_
 ·trivial
 (repeat(first|apply zae|apply zac|apply zab|apply zad));refine zaj ?_;refine zax 1 hX zak zbO rfl trivial rfl rfl hok0 hI (e:=zaI s (t,b) 0 zdj) rfl (fun er h=>?_) (fun a0 h0=>?_)
 ·rw[zan h];exact rfl
 rw[zaq h0];obtain⟨x0,st0⟩:=a0;have hok1:pOk (s,st0.1,l,st0.2,()):=⟨((zam hok0.1 h0).1).1,hok0.2⟩;refine zW hX zak rfl trivial ?_;exact zq ⟨.inr rfl,⟨_,rfl,nd,1,_,rfl,rfl,rfl⟩,zay rfl trivial rfl rfl rfl⟩
theorem zqz:zaA Tryz.prog gmH 205 (zfR .also):=by
 refine zat (K:=_) zak Tryz.func205 rfl rfl zbd Tryz.call205 rfl (zf rfl) zaT ?_;rintro w0 ⟨G,O,K,fix,D,ρ,B⟩ ty hX hG hK hρ hD hinv ⟨(s:List UInt8),(t:TokT),(l:List Nd),(b:Int),⟨⟩⟩ ⟨⟩ hp;obtain rfl:G=gmH:=hG;obtain rfl:K=1:=hK;obtain rfl:ρ=none:=hρ;obtain rfl:D=[]:=hD;have hI:=zaE (ty:=ty) (ty':=ty) hX rfl hinv;have hok0:pOk (s,t,l,b,()):=hp;change AWP _ _ _ _ _ ⟨[(0,pSelf)],pE ty s (t,b) l,2⟩ (pQ _ (zfR .also) ty (toX (fun r=>(r.1,psX s r.2 l)) (gSuf s (t,b) .also)));unfold gSuf;refine za (za ?_);refine zaa hX zak rfl ?_ ?_
 ·trivial
 (repeat(first|apply zae|apply zac|apply zab|apply zad));refine zaj ?_;refine zax 1 hX zak zbO rfl trivial rfl rfl ⟨hok0,(by decide:(-1000:Int)≤0),(by decide:(0:Int)≤1000)⟩ hI (e:=zcG s (t,b) 0 zdj true) rfl (fun er h=>?_) (fun a0 h0=>?_)
 ·rw[zan h];exact rfl
 rw[zaq h0];obtain⟨x0,st0⟩:=a0;have hok1:pOk (s,st0.1,l,st0.2,()):=⟨(zbU hok0.1 h0).1,hok0.2⟩;refine zW hX zak rfl trivial ?_;exact zq ⟨.inr rfl,⟨_,rfl,nd,1,_,rfl,rfl,rfl⟩,zay rfl trivial rfl rfl rfl⟩
theorem zm4:zaA Tryz.prog gmH 207 (zfR .except_):=by
 refine zat (K:=_) zak Tryz.func207 rfl rfl zbd Tryz.call207 rfl (zf rfl) zaT ?_;rintro w0 ⟨G,O,K,fix,D,ρ,B⟩ ty hX hG hK hρ hD hinv ⟨(s:List UInt8),(t:TokT),(l:List Nd),(b:Int),⟨⟩⟩ ⟨⟩ hp;obtain rfl:G=gmH:=hG;obtain rfl:K=1:=hK;obtain rfl:ρ=none:=hρ;obtain rfl:D=[]:=hD;have hI:=zaE (ty:=ty) (ty':=ty) hX rfl hinv;have hok0:pOk (s,t,l,b,()):=hp;change AWP _ _ _ _ _ ⟨[(0,pSelf)],pE ty s (t,b) l,2⟩ (pQ _ (zfR .except_) ty (toX (fun r=>(r.1,psX s r.2 l)) (gSuf s (t,b) .except_)));unfold gSuf;refine za (za ?_);refine zaa hX zak rfl ?_ ?_
 ·trivial
 (repeat(first|apply zae|apply zac|apply zab|apply zad));refine zaj ?_;refine zax 1 hX zak zbO rfl trivial rfl rfl ⟨hok0,(by decide:(-1000:Int)≤0),(by decide:(0:Int)≤1000)⟩ hI (e:=zcG s (t,b) 0 zdj true) rfl (fun er h=>?_) (fun a0 h0=>?_)
 ·rw[zan h];exact rfl
 rw[zaq h0];obtain⟨x0,st0⟩:=a0;have hok1:pOk (s,st0.1,l,st0.2,()):=⟨(zbU hok0.1 h0).1,hok0.2⟩;refine zW hX zak rfl trivial ?_;exact zq ⟨.inr rfl,⟨_,rfl,nd,1,_,rfl,rfl,rfl⟩,zay rfl trivial rfl rfl rfl⟩
theorem zsB:zaA Tryz.prog gmH 208 (zfR .pos):=by
 refine zat (K:=_) zak Tryz.func208 rfl rfl zbd Tryz.call208 rfl (zf rfl) zaT ?_;rintro w0 ⟨G,O,K,fix,D,ρ,B⟩ ty hX hG hK hρ hD hinv ⟨(s:List UInt8),(t:TokT),(l:List Nd),(b:Int),⟨⟩⟩ ⟨⟩ hp;obtain rfl:G=gmH:=hG;obtain rfl:K=1:=hK;obtain rfl:ρ=none:=hρ;obtain rfl:D=[]:=hD;have hI:=zaE (ty:=ty) (ty':=ty) hX rfl hinv;have hok0:pOk (s,t,l,b,()):=hp;change AWP _ _ _ _ _ ⟨[(0,pSelf)],pE ty s (t,b) l,2⟩ (pQ _ (zfR .pos) ty (toX (fun r=>(r.1,psX s r.2 l)) (gSuf s (t,b) .pos)));unfold gSuf;refine za (za ?_);refine zaa hX zak rfl ?_ ?_
 ·trivial
 (repeat(first|apply zae|apply zac|apply zab|apply zad));refine zaj ?_;refine zax 1 hX zak zbO rfl trivial rfl rfl hok0 hI (e:=gCal s (t,b)) rfl (fun er h=>?_) (fun a0 h0=>?_)
 ·rw[zan h];exact rfl
 rw[zaq h0];obtain⟨x0,st0⟩:=a0;have hok1:pOk (s,st0.1,l,st0.2,()):=⟨((zam hok0.1 h0).1).1,hok0.2⟩;refine zW hX zak rfl trivial ?_;refine zap (σ':=⟨[(0,pSelf),(2,⟨.optr nd,⟨2,nd,.here⟩⟩),(3,⟨.optr nd,⟨3,nd,.here⟩⟩)],[(0,some (pBox ty s st0)),(1,some (.buf 73 nd l)),(2,some (.box nd zNd)),(3,some (.box nd (16,x0,0,0,0,0,[],[],())))],4⟩) ⟨⟨rfl,rfl,rfl,trivial⟩,⟨rfl,rfl,rfl,rfl,trivial⟩,rfl,rfl⟩ ?_;(repeat(first|apply zae|apply zac|apply zab|apply zad));refine zaj ?_;refine zax 1 hX zak zbO rfl trivial rfl rfl hok1 hI (e:=zcY s st0) rfl (fun er h=>?_) (fun a1 h1=>?_)
 ·rw[zan h];exact rfl
 rw[zaq h1];obtain⟨x1,st1⟩:=a1;have hok2:pOk (s,st1.1,l,st1.2,()):=⟨(zdA hok1.1 h1).1,hok1.2⟩;refine zW hX zak rfl trivial ?_;refine zap (σ':=⟨[(0,pSelf),(2,⟨.optr nd,⟨2,nd,.here⟩⟩),(3,⟨.optr nd,⟨3,nd,.here⟩⟩)],[(0,some (pBox ty s st1)),(1,some (.buf 73 nd l)),(2,some (.box nd zNd)),(3,some (.box nd (16,x0,0,0,0,x1,[],[],())))],4⟩) ⟨⟨rfl,rfl,rfl,trivial⟩,⟨rfl,rfl,rfl,rfl,trivial⟩,rfl,rfl⟩ ?_;(repeat(first|apply zae|apply zac|apply zab|apply zad));refine zaj ?_;refine zax 1 hX zak zbO rfl trivial rfl rfl ⟨hok2,(by decide:(-1000:Int)≤(-400)),(by decide:((-400):Int)≤1000)⟩ hI (e:=zcG s st1 (-400) 400 false) rfl (fun er h=>?_) (fun a2 h2=>?_)
 ·rw[zan h];exact rfl
 rw[zaq h2];obtain⟨x2,st2⟩:=a2;have hok3:pOk (s,st2.1,l,st2.2,()):=⟨(zbU hok2.1 h2).1,hok2.2⟩;refine zW hX zak rfl trivial ?_;refine zap (σ':=⟨[(0,pSelf),(2,⟨.optr nd,⟨2,nd,.here⟩⟩),(3,⟨.optr nd,⟨3,nd,.here⟩⟩)],[(0,some (pBox ty s st2)),(1,some (.buf 73 nd l)),(2,some (.box nd zNd)),(3,some (.box nd (16,x0,0,0,0,x1,x2,[],())))],4⟩) ⟨⟨rfl,rfl,rfl,trivial⟩,⟨rfl,rfl,rfl,rfl,trivial⟩,rfl,rfl⟩ ?_;(repeat(first|apply zae|apply zac|apply zal|apply zad|apply zab|refine zaa hX zak rfl trivial ?_|refine zaa hX zak rfl id ?_|refine zaa hX zak rfl ⟨id,id⟩ ?_));exact zq ⟨.inr rfl,⟨_,rfl,nd,1,_,rfl,rfl,rfl⟩,zay rfl trivial rfl rfl rfl⟩
def fnV (f:zS):zg:=.func (.func f) #[] #[]
def zcX:LeafW->zg
 | .days=>fnV 237
 | .years=>fnV 238
 | .months=>fnV 239
 | .monthdays=>fnV 240
 | .weekdays=>fnV 241
 | .weeks=>fnV 242
 | .nth=>fnV 243
def zeu:SufW->zg
 | .shift=>fnV 201
 | .from_=>fnV 203
 | .until_=>fnV 204
 | .also=>fnV 205
 | .except_=>fnV 207
 | .pos=>fnV 208
 | .behind=>fnV 211
def strV (w:List UInt8):zg:=.string ⟨w.toArray⟩
def zjR:List (zg×zg):=[(strV zjg,zcX .days),(strV zfY,zcX .years),(strV zcm,zcX .months),(strV za6,zcX .monthdays),(strV zbo,zcX .weekdays),(strV zdm,zcX .weeks),(strV wNth,zcX .nth)]
def zgD:List (zg×zg):=[(strV zeR,zeu .shift),(strV zii,zeu .from_),(strV zeQ,zeu .until_),(strV zeT,zeu .also),(strV zcn,zeu .except_),(strV wPos,zeu .pos),(strV zbX,zeu .behind)]
theorem zpf (a b:ByteArray):(a==b)=(a.toList==b.toList):=by
 rw[xC,xC];show (a.data==b.data)=(a.data.toList==b.data.toList);rw[yz,beq_iff_eq,beq_iff_eq];exact⟨fun h=>by rw[h],fun h=>Array.toList_inj.1 h⟩
theorem zib (w k:List UInt8) (v:zg) (es:List (zg×zg)):zfj .string (strV w) ((strV k,v)::es)=if w=k then some (some v) else zfj .string (strV w) es:=by
 rw[zfj];have e:Instr.sameNow .string (strV w) (strV k)=some (decide (w=k)):=by
  show some ((⟨w.toArray⟩:ByteArray)==⟨k.toArray⟩)=_
  congr 1
  rw[zpf,zef,zdD]
 rw[show (strV k,v).1=strV k from rfl,e];by_cases h:w=k
 ·rw[if_pos h,decide_eq_true h]
 ·rw[if_neg h,decide_eq_false h]
theorem zos (w:List UInt8):zfj .string (strV w) zjR=some ((zgg w).map zcX):=by
 unfold zjR zgg
 iterate 7 (rw[zib];split; · rfl)
 rfl
theorem zpz (w:List UInt8):zfj .string (strV w) zgD=some ((sufW w).map zeu):=by
 unfold zgD sufW
 iterate 7 (rw[zib];split; · rfl)
 rfl
def zo9:Ctr:={ args:=[],pre:=fun _=>[],res:=.mapL,own:=none,out:=fun _=>zjR }
def zkj:Ctr:={ args:=[],pre:=fun _=>[],res:=.mapL,own:=none,out:=fun _=>zgD }
theorem zor:yM Tryz.prog gmH 200 zo9:=by
 refine zar (K:=gmK) zak Tryz.func200 rfl rfl Tryz.call200 rfl (by decide) (by intro h;cases h) ?_;rintro w0 X hX _ hp;change AWP _ _ _ _ _ ⟨[],[],0⟩ _;apply zae;refine za (za ?_);refine zaa hX zak rfl ?_ ?_
 ·trivial
 (repeat(first|apply zae|apply zac|apply zab|apply zad));refine zaj ?_;refine AL.mapLit hX Tryz.underlying204 Tryz.underlying9 rfl zjR (ins:=[_,_,_,_,_,_,_]) rfl rfl rfl rfl (.cons rfl (fun _=>rfl) (fun _=>rfl) rfl rfl <| .cons rfl (fun _=>rfl) (fun _=>rfl) rfl rfl <| .cons rfl (fun _=>rfl) (fun _=>rfl) rfl rfl <| .cons rfl (fun _=>rfl) (fun _=>rfl) rfl rfl <| .cons rfl (fun _=>rfl) (fun _=>rfl) rfl rfl <| .cons rfl (fun _=>rfl) (fun _=>rfl) rfl rfl <| .cons rfl (fun _=>rfl) (fun _=>rfl) rfl rfl rfl) ⟨rfl,rfl,rfl,rfl,rfl,rfl,rfl,trivial⟩ ?_;refine zW hX zak rfl trivial ?_;(repeat(first|apply zae|apply zac|apply zab|apply zad));exact zq ⟨.inr rfl,zay rfl trivial rfl rfl rfl⟩
theorem zkA:yM Tryz.prog gmH 179 zkj:=by
 refine zar (K:=gmK) zak Tryz.func179 rfl rfl Tryz.call179 rfl (by decide) (by intro h;cases h) ?_;rintro w0 X hX _ hp;change AWP _ _ _ _ _ ⟨[],[],0⟩ _;apply zae;refine za (za ?_);refine zaa hX zak rfl ?_ ?_
 ·trivial
 (repeat(first|apply zae|apply zac|apply zab|apply zad));refine zaj ?_;refine AL.mapLit hX Tryz.underlying204 Tryz.underlying9 rfl zgD (ins:=[_,_,_,_,_,_,_]) rfl rfl rfl rfl (.cons rfl (fun _=>rfl) (fun _=>rfl) rfl rfl <| .cons rfl (fun _=>rfl) (fun _=>rfl) rfl rfl <| .cons rfl (fun _=>rfl) (fun _=>rfl) rfl rfl <| .cons rfl (fun _=>rfl) (fun _=>rfl) rfl rfl <| .cons rfl (fun _=>rfl) (fun _=>rfl) rfl rfl <| .cons rfl (fun _=>rfl) (fun _=>rfl) rfl rfl <| .cons rfl (fun _=>rfl) (fun _=>rfl) rfl rfl rfl) ⟨rfl,rfl,rfl,rfl,rfl,rfl,rfl,trivial⟩ ?_;refine zW hX zak rfl trivial ?_;(repeat(first|apply zae|apply zac|apply zab|apply zad));exact zq ⟨.inr rfl,zay rfl trivial rfl rfl rfl⟩
abbrev Gop:=List UInt8×Int×Unit
def opsL:List Gop:=[(wOr,9,()),(zlm,10,()),(wAnd,8,())]
def cOps:Ctr:={ args:=[],pre:=fun _=>[],res:=.slice gop,own:=none,out:=fun _=>opsL }
theorem zf5:yM Tryz.prog gmH 101 cOps:=by
 refine zar (K:=gmK) zak Tryz.func101 rfl rfl Tryz.call101 rfl (by decide) (by intro h;cases h) ?_;rintro w0 X hX _ hp;change AWP _ _ _ _ _ ⟨[],[],0⟩ _;(repeat(first|apply zae|apply zac|apply zal|apply zad|apply zab|refine zaa hX zak rfl trivial ?_|refine zaa hX zak rfl id ?_|refine zaa hX zak rfl ⟨id,id⟩ ?_));refine AWP.frz hX 0 ?_;exact zq ⟨.inr rfl,zay rfl trivial rfl rfl rfl⟩
@[reducible] def trX (s:List UInt8) (l:List Nd) (r:Tr×GSt):Int×PsT:=(((l.length+r.1.size:Nat):Int) - 1,psX s r.2 (l++r.1.flat l.length))
def few (x:PsT):Prop:=((x.2.2.1.length:Nat):Int)≤x.2.2.2.1
@[reducible] def cBin (k:Nat):HCtr:=hP [i64] i64 (fun x xs=>[0≤xs.1,xs.1≤3,few x,meas x.1 (.bin xs.1.toNat) (stOf x) < k]) fun x xs=>toX (trX x.1 x.2.2.1) (prsT x.1 (.bin xs.1.toNat) (stOf x))
@[reducible] def zkm (k:Nat):HCtr:=hP [] i64 (fun x _=>[few x,meas x.1 .chain (stOf x) < k]) fun x _=>toX (trX x.1 x.2.2.1) (prsT x.1 .chain (stOf x))
@[reducible] def ziZ (k:Nat):HCtr:=hP [] i64 (fun x _=>[few x,meas x.1 .prim (stOf x) < k]) fun x _=>toX (trX x.1 x.2.2.1) (prsT x.1 .prim (stOf x))
def gBeh (s:List UInt8) (st:GSt):GE (Nd×Tr×GSt):=gSuf s st .behind >>= fun p=>prsT s .prim p.2 >>= fun u=>.ok (p.1,u.1,u.2)
def setR (n:Nd) (r:Int):Nd:=(n.1,n.2.1,n.2.2.1,r,n.2.2.2.2)
@[reducible] def cBeh (k:Nat):HCtr:=hP [] nd (fun x _=>[few x,meas x.1 .prim (stOf x) < k]) fun x _=>toX (fun r=>(setR r.1 (((x.2.2.1.length+r.2.1.size:Nat):Int) - 1),psX x.1 r.2.2 (x.2.2.1++r.2.1.flat x.2.2.1.length))) (gBeh x.1 (stOf x))
def kBi:Kn:={ gmK with C:=[(101,cOps)] }
theorem zbe:KnOk Tryz.prog gmH kBi:=zak.with (.cons zf5 .nil)
def hBi (k:Nat):List (zS×HCtr):=[(80,cBin k),(133,zkm k),(134,cIs),(135,zkn),(136,cAdd)]
theorem zrQ {i:Nat} (h:i < 3):opsL.getD ((i:Int)).toNat ([],0,())=(opW i,opK i,()):=by
 rw[zL];rcases (show i=0∨i=1∨i=2 by omega) with rfl|rfl|rfl<;>rfl
theorem zsU {te:zo} {t:Ty} {x y:List t.T} (h:x=y):some (OObj.buf te t x)=some (OObj.buf te t y):=by rw[h]
theorem zpd (k:Nat) (hB:zaA Tryz.prog gmH 80 (cBin k)) (hC:zaA Tryz.prog gmH 133 (zkm k)):zaA Tryz.prog gmH 80 (cBin (k+1)):=by
 have hbi:HsOk Tryz.prog gmH (hBi k):=.cons hB <| .cons hC <| .cons zql <| .cons zi5 <| .cons zpi .nil;refine zat (K:=_) zbe Tryz.func80 rfl rfl zbd Tryz.call80 rfl (zf rfl) zaT ?_;rintro w0 ⟨G,O,K,fix,D,ρ,B⟩ ty hX hG hK hρ hD hinv ⟨(s:List UInt8),(t:TokT),(l:List Nd),(b:Int),⟨⟩⟩ ⟨(j:Int),⟨⟩⟩ hp;obtain rfl:G=gmH:=hG;obtain rfl:K=1:=hK;obtain rfl:ρ=none:=hρ;obtain rfl:D=[]:=hD;have hI:=zaE (ty:=ty) (ty':=ty) hX rfl hinv;obtain⟨hok,hj0,hj1,hfew,hme⟩:pOk (s,t,l,b,())∧0≤j∧j≤3∧few (s,t,l,b,())∧meas s (.bin j.toNat) (t,b) < k+1:=hp;obtain⟨i,rfl⟩:∃ i:Nat,j=(i:Int):=⟨j.toNat,by omega⟩;rw[zL]at hme;have hg:GOk s (t,b):=hok.1;change AWP _ _ _ _ _ ⟨[(0,pSelf),(1,⟨i64,(i:Int)⟩)],pE ty s (t,b) l,2⟩ (pQ _ (cBin (k+1)) ty (toX (trX s l) (prsT s (.bin ((i:Int)).toNat) (t,b))));rw[zL];refine za (za ?_);refine zaa hX zbe rfl ?_ ?_
 ·trivial
 refine za (za ?_);refine zaa hX zbe rfl ?_ ?_
 ·trivial
 refine za (za ?_);refine zaa hX zbe rfl ?_ ?_
 ·trivial
 refine zai rfl (fun hb=>?_) (fun hb=>?_)
 ·have hb:decide ((i:Int)=((3:Nat):Int))=true:=hb;have hb:=of_decide_eq_true hb;obtain rfl:i=3:=by omega
  rw[zgT hg (zk 3)];have hmc:meas s .chain (t,b) < k:=by simp only[meas,mdF]at hme ⊢;omega
  (repeat(first|apply zae|apply zac|apply zab|apply zad));refine zaj ?_;refine zax 1 hX zbe hbi rfl trivial rfl rfl ⟨hok,hfew,hmc⟩ hI (e:=prsT s .chain (t,b)) rfl (fun er h=>?_) (fun a h=>?_)
  ·rw[h];exact rfl
  rw[h];refine zW hX zbe rfl trivial ?_;exact zq ⟨.inr rfl,⟨_,rfl,nd,1,_,rfl,rfl,rfl⟩,zay rfl trivial rfl rfl rfl⟩
 have hb:decide ((i:Int)=((3:Nat):Int))=false:=hb;have hi3:i < 3:=by
  have:=of_decide_eq_false hb;omega
 apply zac;rw[zgn hg (by omega)];have hq:inR .i64 ((i:Int)+1):=zav (by omega) (by omega);have htn:((i:Int)+1).toNat=i+1:=by omega
 have hm1:meas s (.bin ((i:Int)+1).toNat) (t,b) < k:=by
  rw[htn];simp only[meas,mdF]at hme ⊢;omega
 (repeat(first|apply zae|apply zac|apply zab|apply zad));refine zaj ?_;refine zax 3 hX zbe hbi rfl hq rfl rfl ⟨hok,(by omega:(0:Int)≤(i:Int)+1),(by omega:(i:Int)+1≤3),hfew,hm1⟩ hI (f:=trX s l) (e:=prsT s (.bin (i+1)) (t,b)) (congrArg (fun i=>toX (trX s l) (prsT s (.bin i) (t,b))) htn) (fun er h=>?_) (fun a h=>?_)
 ·rw[zan h];exact rfl
 rw[zaq h];obtain⟨t1,st1⟩:=a;refine zW hX zbe rfl trivial ?_;have hc1:Onw s (t,b) st1:=zc6 hg h;have hz1:st1.2=b+(t1.size:Int):=zgS h;have hsl:s.length≤100000:=hok.2;have hfew:((l.length:Nat):Int)≤b:=hfew;apply zae;apply zab;refine yB (ι:=Tr×GSt) (fun i'=>⟨[(0,pSelf),(1,⟨i64,(i:Int)⟩),(5,⟨.slice gop,opsL⟩),(6,⟨i64,(((l.length+i'.1.size:Nat):Int) - 1)⟩)],pE ty s i'.2 (l++i'.1.flat l.length),2⟩) (fun i'=>prsT s (.binL i t1) st1=prsT s (.binL i i'.1) i'.2∧Onw s (t,b) i'.2∧i'.2.2=b+(i'.1.size:Int)) (fun i'=>rem s i'.2) (t1,st1) ⟨rfl,hc1,hz1⟩ ⟨⟨rfl,rfl,rfl,rfl,trivial⟩,⟨rfl,rfl,trivial⟩,rfl,rfl⟩ ?_;rintro ⟨t2,st⟩ ⟨heq,hon,hsz⟩;have heq:prsT s (.binL i t1) st1=prsT s (.binL i t2) st:=heq;have hsz:st.2=b+(t2.size:Int):=hsz;have hon:Onw s (t,b) st:=hon;have hst:GOk s st:=hon.1;have hst2:pOk (s,st.1,l++t2.flat l.length,st.2,()):=⟨hst,hsl⟩;have hgo:(i:Int) < ((opsL.length:Nat):Int):=by show (i:Int) < ((3:Nat):Int);omega
 have hgo0:(0:Int)≤(i:Int):=by omega
 rw[heq];apply zae;apply zae;refine zaj ?_;refine yc 6 hX zbe hbi rfl ⟨hgo0,hgo⟩ rfl rfl hst2 hI ?_;refine z6 ?_;have hat:=zrQ hi3;have hw1:(opsL.getD ((i:Int)).toNat ([],0,())).1=opW i:=by rw[hat]
 have hk1:(opsL.getD ((i:Int)).toNat ([],0,())).2.1=opK i:=by rw[hat]
 refine zai rfl (fun hb=>?_) (fun hb=>?_)
 ·have hb:gIs st (opsL.getD ((i:Int)).toNat ([],0,())).1=true:=hb;rw[hw1]at hb;apply zac;rw[zhY hst hb]at heq ⊢;refine zap (σ':=⟨[(0,pSelf),(1,⟨i64,(i:Int)⟩),(5,⟨.slice gop,opsL⟩),(6,⟨i64,(((l.length+t2.size:Nat):Int) - 1)⟩)],pE ty s st (l++t2.flat l.length),2⟩) ⟨⟨rfl,rfl,rfl,rfl,trivial⟩,⟨rfl,rfl,trivial⟩,rfl,rfl⟩ ?_;apply zab;(repeat(first|apply zae|apply zac|apply zab|apply zad));refine zaj ?_;refine zax 1 hX zbe hbi rfl trivial rfl rfl hst2 hI (e:=zbu s st) rfl (fun er h=>?_) (fun st3 h3=>?_)
  ·rw[zan h];exact rfl
  rw[zaq h3];have hc3:=zaP hst (zcv hb) h3;have hz3:=zc1 h3;have hfl:=t2.len_flat l.length;have hst3:pOk (s,st3.1,l++t2.flat l.length,st3.2,()):=⟨hc3.1,hsl⟩;have hfew3:few (s,st3.1,l++t2.flat l.length,st3.2,()):=by
   show (((l++t2.flat l.length).length:Nat):Int)≤st3.2;rw[zh];omega
  have hr1:=hon.rem hg;have hr2:=hc3.rem hst;have hm3:meas s (.bin ((i:Int)+1).toNat) st3 < k:=by
   rw[htn];simp only[meas,mdF]at hme ⊢;omega
  refine z6 ?_;refine zap (σ':=⟨[(0,pSelf),(1,⟨i64,(i:Int)⟩),(5,⟨.slice gop,opsL⟩),(6,⟨i64,(((l.length+t2.size:Nat):Int) - 1)⟩)],pE ty s st3 (l++t2.flat l.length),2⟩) ⟨⟨rfl,rfl,rfl,rfl,trivial⟩,⟨rfl,rfl,trivial⟩,rfl,rfl⟩ ?_;(repeat(first|apply zae|apply zac|apply zab|apply zad));refine zaj ?_;refine zax 3 hX zbe hbi rfl hq rfl rfl ⟨hst3,(by omega:(0:Int)≤(i:Int)+1),(by omega:(i:Int)+1≤3),hfew3,hm3⟩ hI (f:=trX s (l++t2.flat l.length)) (e:=prsT s (.bin (i+1)) st3) (congrArg (fun i=>toX (trX s (l++t2.flat l.length)) (prsT s (.bin i) st3)) htn) (fun er h=>?_) (fun a h4=>?_)
  ·rw[zan h];exact rfl
  rw[zaq h4];obtain⟨u,st4⟩:=a;have hc4:Onw s st3 st4:=zc6 hc3.1 h4;have hz4:st4.2=st3.2+(u.size:Int):=zgS h4;have hst4:pOk (s,st4.1,l++t2.flat l.length++u.flat (l.length+t2.size),st4.2,()):=⟨hc4.1,hsl⟩;have hlen1:(l++t2.flat l.length).length=l.length+t2.size:=by rw[zh,hfl]
  have hlen2:(l++t2.flat l.length++u.flat (l.length+t2.size)).length=l.length+t2.size+u.size:=by rw[zh,hlen1,u.len_flat]
  refine zW hX zbe rfl trivial ?_;refine zap (σ':=⟨[(0,pSelf),(1,⟨i64,(i:Int)⟩),(5,⟨.slice gop,opsL⟩),(6,⟨i64,(((l.length+t2.size:Nat):Int) - 1)⟩),(7,⟨i64,(((l.length+t2.size+u.size:Nat):Int) - 1)⟩)],pE ty s st4 (l++t2.flat l.length++u.flat (l.length+t2.size)),2⟩) ⟨⟨rfl,rfl,rfl,rfl,vI64 ?_,trivial⟩,⟨rfl,zsU ?_,trivial⟩,rfl,rfl⟩ ?_
  ·show ((((l++t2.flat l.length).length+u.size:Nat):Int) - 1)=_;rw[hlen1]
  ·show l++t2.flat l.length++u.flat (l++t2.flat l.length).length=_;rw[hlen1]
  have hg4:=hc4.1.2.2;have hadd:(l++t2.flat l.length++u.flat (l.length+t2.size)).length≤100000:=by
   rw[hlen2];omega
  (repeat(first|apply zae|apply zac|apply zab|apply zad));refine zaj ?_;refine yc 9 hX zbe hbi rfl ⟨hgo0,hgo⟩ rfl rfl ⟨hst4,hadd⟩ hI ?_;refine zW hX zbe rfl trivial ?_;refine⟨(.bin (opK i,zNd.2) t2 u,st4),⟨?_,?_,?_⟩,?_,⟨rfl,rfl,rfl,vI64 ?_,trivial⟩,⟨rfl,zsU ?_,trivial⟩,rfl,rfl⟩
  ·rw[h3];show (prsT s (.bin (i+1)) st3 >>= _)=_;rw[h4];rfl
  ·exact (hon.trans hc3).trans hc4
  ·show st4.2=b+((t2.size+u.size+1:Nat):Int);omega
  ·have hr4:=hc4.rem hc3.1;show rem s st4 < rem s st;omega
  ·show (((l++t2.flat l.length++u.flat (l.length+t2.size)).length:Nat):Int)=((l.length+(t2.size+u.size+1):Nat):Int) - 1;rw[hlen2];omega
  ·show l++t2.flat l.length++u.flat (l.length+t2.size)++ [((opsL.getD ((i:Int)).toNat ([],0,())).2.1,(0:Int),(((l.length+t2.size:Nat):Int) - 1),(((l.length+t2.size+u.size:Nat):Int) - 1),(0:Int),(0:Int),([]:List Int),([]:List UInt8),())]=l++(t2.flat l.length++u.flat (l.length+t2.size)++ [zdI (opK i,zNd.2) (((l.length+t2.size:Nat):Int) - 1) (((l.length+t2.size+u.size:Nat):Int) - 1)]);rw[hk1, <-zr, <-zr];rfl
 ·have hb:gIs st (opsL.getD ((i:Int)).toNat ([],0,())).1=false:=hb;rw[hw1]at hb;rw[zhZ hst hb];apply zad;(repeat(first|apply zae|apply zac|apply zal|apply zad|apply zab|refine zaa hX zbe rfl trivial ?_|refine zaa hX zbe rfl id ?_|refine zaa hX zbe rfl ⟨id,id⟩ ?_));exact zq ⟨.inr rfl,⟨_,rfl,nd,1,_,rfl,rfl,rfl⟩,zay rfl trivial rfl rfl rfl⟩
def hBe (k:Nat):List (zS×HCtr):=[(202,zfS),(88,zfT),(178,ziZ k)]
theorem beh_ok (k:Nat) (hP:zaA Tryz.prog gmH 178 (ziZ k)):zaA Tryz.prog gmH 211 (cBeh k):=by
 have hbe:HsOk Tryz.prog gmH (hBe k):=.cons ze8 <| .cons zfl <| .cons hP .nil;refine zat (K:=_) zak Tryz.func211 rfl rfl zbd Tryz.call211 rfl (zf rfl) zaT ?_;rintro w0 ⟨G,O,K,fix,D,ρ,B⟩ ty hX hG hK hρ hD hinv ⟨(s:List UInt8),(t:TokT),(l:List Nd),(b:Int),⟨⟩⟩ ⟨⟩ hp;obtain rfl:G=gmH:=hG;obtain rfl:K=1:=hK;obtain rfl:ρ=none:=hρ;obtain rfl:D=[]:=hD;have hI:=zaE (ty:=ty) (ty':=ty) hX rfl hinv;obtain⟨hok,hfew,hme⟩:pOk (s,t,l,b,())∧few (s,t,l,b,())∧meas s .prim (t,b) < k:=hp;have hg:GOk s (t,b):=hok.1;have hsl:s.length≤100000:=hok.2;have hfew:((l.length:Nat):Int)≤b:=hfew;change AWP _ _ _ _ _ ⟨[(0,pSelf)],pE ty s (t,b) l,2⟩ (pQ _ (cBeh k) ty (toX (fun r=>(setR r.1 (((l.length+r.2.1.size:Nat):Int) - 1),psX s r.2.2 (l++r.2.1.flat l.length))) (gBeh s (t,b))));obtain⟨R,hR⟩:∃ R,R=gBeh s (t,b):=⟨_,rfl⟩;rw[<-hR];rw[show gBeh s (t,b)=(zaI s (t,b) 1 400 >>= fun p=>zaQ s p.2 wOf >>= fun st=>prsT s .prim st >>= fun u=>.ok ((17,0,0,0,p.1,0,[],[],()),u.1,u.2)) by
  unfold gBeh gSuf;cases zaI s (t,b) 1 400 with
  |error e=>rfl
  |ok p=>
   show ((zaQ s p.2 wOf >>= _) >>= _)=(zaQ s p.2 wOf >>= _);cases zaQ s p.2 wOf<;>rfl]at hR
 refine za (za ?_);refine zaa hX zak rfl ?_ ?_
 ·trivial
 (repeat(first|apply zae|apply zac|apply zab|apply zad));refine zaj ?_;refine zax 1 hX zak hbe rfl trivial rfl rfl hok hI (e:=zaI s (t,b) 1 400) rfl (fun er h=>?_) (fun p h1=>?_)
 ·rw[show R= .error er by rw[hR,h];rfl];exact rfl
 obtain⟨x,st1⟩:=p;rw[h1]at hR;have hc1:=(zam hg h1).1;have hst1:pOk (s,st1.1,l,st1.2,()):=⟨hc1.1,hsl⟩;refine zW hX zak rfl trivial ?_;refine zap (σ':=⟨[(0,pSelf),(2,⟨.optr nd,⟨2,nd,.here⟩⟩),(3,⟨.optr nd,⟨3,nd,.here⟩⟩)],[(0,some (pBox ty s st1)),(1,some (.buf 73 nd l)),(2,some (.box nd zNd)),(3,some (.box nd (17,0,0,0,x,0,[],[],())))],4⟩) ⟨⟨rfl,rfl,rfl,trivial⟩,⟨rfl,rfl,rfl,rfl,trivial⟩,rfl,rfl⟩ ?_;(repeat(first|apply zae|apply zac|apply zab|apply zad));refine zaj ?_;refine zax 1 hX zak hbe rfl trivial rfl rfl hst1 hI (e:=zaQ s st1 wOf) rfl (fun er h=>?_) (fun st2 h2=>?_)
 ·rw[show R= .error er by rw[hR];show (zaQ s st1 wOf >>= _)=_;rw[h];rfl];exact rfl
 have hc2:=zbf hc1.1 h2;have hst2:pOk (s,st2.1,l,st2.2,()):=⟨hc2.1,hsl⟩;refine z6 ?_;refine zap (σ':=⟨[(0,pSelf),(2,⟨.optr nd,⟨2,nd,.here⟩⟩),(3,⟨.optr nd,⟨3,nd,.here⟩⟩)],[(0,some (pBox ty s st2)),(1,some (.buf 73 nd l)),(2,some (.box nd zNd)),(3,some (.box nd (17,0,0,0,x,0,[],[],())))],4⟩) ⟨⟨rfl,rfl,rfl,trivial⟩,⟨rfl,rfl,rfl,rfl,trivial⟩,rfl,rfl⟩ ?_;have hr1:=hc1.rem hg;have hr2:=hc2.rem hc1.1;have hm2:meas s .prim st2 < k:=by
  simp only[meas,mdF]at hme ⊢;omega
 have hz1:=zbq h1;have hz2:=zdC h2;have hfew2:few (s,st2.1,l,st2.2,()):=by
  show ((l.length:Nat):Int)≤st2.2;rw[hz2,hz1];exact hfew
 (repeat(first|apply zae|apply zac|apply zab|apply zad));refine zaj ?_;refine zax 1 hX zak hbe rfl trivial rfl rfl ⟨hst2,hfew2,hm2⟩ hI (e:=prsT s .prim st2) rfl (fun er h=>?_) (fun p h3=>?_)
 ·rw[show R= .error er by rw[hR];show (zaQ s st1 wOf >>= _)=_;rw[h2];show (prsT s .prim st2 >>= _)=_;rw[h];rfl];exact rfl
 obtain⟨u,st3⟩:=p;rw[show R= .ok ((17,0,0,0,x,0,[],[],()),u,st3) by rw[hR];show (zaQ s st1 wOf >>= _)=_;rw[h2];show (prsT s .prim st2 >>= _)=_;rw[h3];rfl];refine zW hX zak rfl trivial ?_;(repeat(first|apply zae|apply zac|apply zal|apply zad|apply zab|refine zaa hX zak rfl trivial ?_|refine zaa hX zak rfl id ?_|refine zaa hX zak rfl ⟨id,id⟩ ?_));exact zq ⟨.inr rfl,⟨_,rfl,nd,1,_,rfl,rfl,rfl⟩,zay rfl trivial rfl rfl rfl⟩
def kCh:Kn:={ gmK with C:=[(179,zkj)] }
theorem zb8:KnOk Tryz.prog gmH kCh:=zak.with (.cons zkA .nil)
def hCh (k:Nat):List (zS×HCtr):=[(178,ziZ k),(135,zkn),(136,cAdd)]
theorem zrE {w:SufW} (hw:w≠ .behind):∃ f,zeu w= .func (.func f) #[] #[]∧zaA Tryz.prog gmH f (zfR w):=by
 cases w with
 |shift=>exact⟨_,rfl,zoT⟩
 |from_=>exact⟨_,rfl,zqx⟩
 |until_=>exact⟨_,rfl,zoS⟩
 |also=>exact⟨_,rfl,zqz⟩
 |except_=>exact⟨_,rfl,zm4⟩
 |pos=>exact⟨_,rfl,zsB⟩
 |behind=>exact absurd rfl hw
deriving instance DecidableEq for SufW
def ziP (s:List UInt8) (st:GSt) (len:Nat) (w:SufW):GE (Nd×List Nd×(Tr->Tr)×GSt):=
 if w= .behind then gBeh s st >>= fun r=>.ok (setR r.1 (((len+r.2.1.size:Nat):Int) - 1),r.2.1.flat len,fun t=>.bin r.1 t r.2.1,r.2.2)
 else gSuf s st w >>= fun p=>.ok (p.1,[],fun t=>.un p.1 t,p.2)
theorem znr {s:List UInt8} {t:Tr} {st:GSt} (len:Nat):∀ w:SufW,sufT (s:=s) t st w=(ziP s st len w >>= fun r=>.ok (r.2.2.1 t,r.2.2.2))
 | .behind=>by
  unfold sufT ziP gBeh;rw[if_pos rfl];cases gSuf s st .behind with
  |error e=>rfl
  |ok p=>
   show (prsT s .prim p.2 >>= _)=(((prsT s .prim p.2 >>= _) >>= _) >>= _);cases prsT s .prim p.2<;>rfl
 | .shift| .from_| .until_| .also| .except_| .pos=>by
  unfold sufT ziP;rw[if_neg (by intro h;cases h)];simp only[];cases gSuf s st _<;>rfl
theorem zqr {s:List UInt8} {st:GSt} {len:Nat} {w:SufW} {r:Nd×List Nd×(Tr->Tr)×GSt} (h:GOk s st) (he:ziP s st len w= .ok r):Onw s st r.2.2.2∧r.2.2.2.2=st.2+(r.2.1.length:Int)∧∀ t:Tr,(r.2.2.1 t).size=t.size+r.2.1.length+1∧∀ b,len=b+t.size->(r.2.2.1 t).flat b=t.flat b++r.2.1++ [setL r.1 (((b+t.size:Nat):Int) - 1)]:=by
 unfold ziP at he;split at he
 ·obtain⟨⟨n,u,st'⟩,h1,h2⟩:=zag he;cases h2;obtain⟨⟨n',st1⟩,h3,h4⟩:=zag h1;obtain⟨⟨u',st2⟩,h5,h6⟩:=zag h4;cases h6;have k1:=zcT h _ h3;have k2:Onw s st1 st2:=zc6 k1.1 h5;have k3:=zlV _ h3;have k4:st2.2=st1.2+(u'.size:Int):=zgS h5;refine⟨k1.trans k2,?_,fun t=>⟨?_,fun b hb=>?_⟩⟩
  ·show st2.2=st.2+(((u'.flat len).length:Nat):Int);rw[u'.len_flat];omega
  ·show t.size+u'.size+1=t.size+(u'.flat len).length+1;rw[u'.len_flat]
  ·subst hb;rfl
 ·obtain⟨⟨n,st'⟩,h1,h2⟩:=zag he;cases h2;refine⟨zcT h _ h1,?_,fun t=>⟨rfl,fun b hb=>?_⟩⟩
  ·show st'.2=st.2+0;rw[zlV _ h1];omega
  ·show t.flat b++ [_]=t.flat b++ []++ [_];rw[zJ]
@[reducible] def cSufK (w:SufW) (k:Nat):HCtr:=hP [] nd (fun x _=>[few x,meas x.1 .prim (stOf x) < k]) fun x _=>toX (fun r=>(r.1,psX x.1 r.2.2.2 (x.2.2.1++r.2.1))) (ziP x.1 (stOf x) x.2.2.1.length w)
theorem zpu {args:List Ty} {x:PsT} {xs:Args args} {pre pre':PsT->Args args->List Prop} (hp:∀ x xs,allP (pre' x xs)->allP (pre x xs)) (h7:allP (pOk x::pre' x xs)):allP (pOk x::pre x xs):=by
 have h8:pOk x∧allP (pre' x xs):=by
  cases hq:pre' x xs with
  |nil=>rw[hq]at h7;exact⟨h7,trivial⟩
  |cons a l=>rw[hq]at h7;exact h7
 have h9:=hp x xs h8.2;cases hr:pre x xs with
 |nil=>exact h8.1
 |cons a l=>rw[hr]at h9;exact⟨h8.1,h9⟩
theorem zj1 {P:zx} {G:zi->Prop} {f:zS} {args:List Ty} {res:Ty} {pre pre':PsT->Args args->List Prop} {out out':PsT->Args args->Except zg (res.T×PsT)} (h:zaA P G f (hP args res pre out)) (hp:∀ x xs,allP (pre' x xs)->allP (pre x xs)) (ho:∀ x xs,out' x xs=out x xs):zaA P G f (hP args res pre' out'):=by
 obtain rfl:out'=out:=funext fun x=>funext fun xs=>ho x xs;refine⟨h.1,h.2.1,fun w O g cs ty x xs vs b h1 h2 h3 h4 h5 h6 h7 h8 h9=>?_⟩;refine (h.2.2 w O g cs ty x xs vs b h1 h2 h3 h4 h5 h6 ?_ h8 h9).mono fun e w' hr=>⟨hr.1,?_⟩
 ·exact zpu hp h7
 ·have hr:=hr.2;revert hr;show HEnd (hP args res pre out') ty w w' O g b e (out' x xs)->HEnd (hP args res pre' out') ty w w' O g b e (out' x xs);cases out' x xs<;>exact id
theorem zrD (k:Nat) (hP:zaA Tryz.prog gmH 178 (ziZ k)) (w:SufW):∃ f,zeu w= .func (.func f) #[] #[]∧zaA Tryz.prog gmH f (cSufK w k):=by
 by_cases hw:w= .behind
 ·subst hw;refine⟨_,rfl,zj1 (beh_ok k hP) (fun x xs h=>h) fun x xs=>?_⟩;unfold ziP;rw[if_pos rfl];cases gBeh x.1 (stOf x)<;>rfl
 ·obtain⟨f,h1,h2⟩:=zrE hw;refine⟨f,h1,zj1 h2 (fun x xs h=>trivial) fun x xs=>?_⟩;unfold ziP;rw[if_neg hw];cases gSuf x.1 (stOf x) w with
  |error e=>rfl
  |ok p=>
   show Except.ok (p.1,psX x.1 p.2 (x.2.2.1++ []))=Except.ok (p.1,psX x.1 p.2 x.2.2.1);rw[zJ]
theorem zqG (k:Nat) (hP:zaA Tryz.prog gmH 178 (ziZ k)):zaA Tryz.prog gmH 133 (zkm (k+1)):=by
 have hch:HsOk Tryz.prog gmH (hCh k):=.cons hP <| .cons zi5 <| .cons zpi .nil;refine zat (K:=_) zb8 Tryz.func133 rfl rfl zbd Tryz.call133 rfl (zf rfl) zaT ?_;rintro w0 ⟨G,O,K,fix,D,ρ,B⟩ ty hX hG hK hρ hD hinv ⟨(s:List UInt8),(t:TokT),(l:List Nd),(b:Int),⟨⟩⟩ ⟨⟩ hp;obtain rfl:G=gmH:=hG;obtain rfl:K=1:=hK;obtain rfl:ρ=none:=hρ;obtain rfl:D=[]:=hD;have hI:=zaE (ty:=ty) (ty':=ty) hX rfl hinv;obtain⟨hok,hfew,hme⟩:pOk (s,t,l,b,())∧few (s,t,l,b,())∧meas s .chain (t,b) < k+1:=hp;have hg:GOk s (t,b):=hok.1;have hsl:s.length≤100000:=hok.2;change AWP _ _ _ _ _ ⟨[(0,pSelf)],pE ty s (t,b) l,2⟩ (pQ _ (zkm (k+1)) ty (toX (trX s l) (prsT s .chain (t,b))));rw[zhX hg];refine za (za ?_);refine zaa hX zb8 rfl ?_ ?_
 ·trivial
 have hm0:meas s .prim (t,b) < k:=by simp only[meas,mdF]at hme ⊢;omega
 (repeat(first|apply zae|apply zac|apply zab|apply zad));refine zaj ?_;refine zax 1 hX zb8 hch rfl trivial rfl rfl ⟨hok,hfew,hm0⟩ hI (e:=prsT s .prim (t,b)) rfl (fun er h=>?_) (fun a h=>?_)
 ·rw[zan h];exact rfl
 rw[zaq h];obtain⟨t1,st1⟩:=a;have hc1:Onw s (t,b) st1:=zc6 hg h;have hz1:st1.2=b+(t1.size:Int):=zgS h;have hfew:((l.length:Nat):Int)≤b:=hfew;refine zW hX zb8 rfl trivial ?_;apply zae;apply zab;refine yB (ι:=Tr×GSt) (fun i'=>⟨[(0,pSelf),(3,⟨i64,(((l.length+i'.1.size:Nat):Int) - 1)⟩),(4,⟨.mapL,zgD⟩)],pE ty s i'.2 (l++i'.1.flat l.length),2⟩) (fun i'=>prsT s (.chainL t1) st1=prsT s (.chainL i'.1) i'.2∧Onw s (t,b) i'.2∧i'.2.2=b+(i'.1.size:Int)) (fun i'=>rem s i'.2) (t1,st1) ⟨rfl,hc1,hz1⟩ ⟨⟨rfl,rfl,rfl,trivial⟩,⟨rfl,rfl,trivial⟩,rfl,rfl⟩ ?_;rintro ⟨t2,st⟩ ⟨heq,hon,hsz⟩;have heq:prsT s (.chainL t1) st1=prsT s (.chainL t2) st:=heq;have hsz:st.2=b+(t2.size:Int):=hsz;have hon:Onw s (t,b) st:=hon;have hst:GOk s st:=hon.1;have hst2:pOk (s,st.1,l++t2.flat l.length,st.2,()):=⟨hst,hsl⟩;have hfl:=t2.len_flat l.length;have hlen1:(l++t2.flat l.length).length=l.length+t2.size:=by rw[zh,hfl]
 rw[heq];apply zae;refine za (za ?_);refine zaa hX zb8 rfl ?_ ?_
 ·trivial
 refine zai rfl (fun hb=>?_) (fun hb=>?_)
 rotate_left
 ·have hb:(st.1.1==1)=false:=hb;have hb:zB st.1≠1:=fun h=>by
   have:(st.1.1==1)=true:=beq_iff_eq.2 h;rw[this]at hb;cases hb
  rw[zd6 hst hb];apply zad;(repeat(first|apply zae|apply zac|apply zal|apply zad|apply zab|refine zaa hX zb8 rfl trivial ?_|refine zaa hX zb8 rfl id ?_|refine zaa hX zb8 rfl ⟨id,id⟩ ?_));exact zq ⟨.inr rfl,⟨_,rfl,nd,1,_,rfl,rfl,rfl⟩,zay rfl trivial rfl rfl rfl⟩
 have hb:(st.1.1==1)=true:=hb;have hcls:zB st.1=1:=beq_iff_eq.1 hb;apply zac;refine zap (σ':=⟨[(0,pSelf),(3,⟨i64,(((l.length+t2.size:Nat):Int) - 1)⟩),(4,⟨.mapL,zgD⟩)],pE ty s st (l++t2.flat l.length),2⟩) ⟨⟨rfl,rfl,rfl,trivial⟩,⟨rfl,rfl,trivial⟩,rfl,rfl⟩ ?_;apply zab;(repeat(first|apply zae|apply zac|apply zab|apply zad));refine zaj ?_;refine yA 6 hX zb8 rfl trivial ?_;refine AL.look2 Tryz.underlying204 Tryz.underlying9 rfl (key:=strV (zE st.1)) (z:=.nilFunc) (es:=zgD) (r:=(sufW (zE st.1)).map zeu) rfl rfl rfl rfl rfl (zoz rfl) Tryz.zeroValue206 (zpz _) ?_;refine yA 1 hX zb8 rfl trivial ?_;refine AL.ext0 rfl rfl rfl rfl rfl ?_;refine AL.ext1 rfl rfl rfl rfl rfl ?_;refine zW hX zb8 rfl trivial ?_;refine za (za ?_);refine zaa hX zb8 rfl ?_ ?_
 ·trivial
 cases hw:sufW (zE st.1) with
 |none=>
  rw[zf1 hst hcls hw];refine zai rfl (fun _=>?_) (fun hb=>?_)
  rotate_left
  ·have hb:(!((none:Option SufW).map zeu).isSome)=false:=hb;cases hb
  apply zad;refine zap (σ':=⟨[(0,pSelf),(3,⟨i64,(((l.length+t2.size:Nat):Int) - 1)⟩),(4,⟨.mapL,zgD⟩)],pE ty s st (l++t2.flat l.length),2⟩) ⟨⟨rfl,rfl,rfl,trivial⟩,⟨rfl,rfl,trivial⟩,rfl,rfl⟩ ?_;(repeat(first|apply zae|apply zac|apply zal|apply zad|apply zab|refine zaa hX zb8 rfl trivial ?_|refine zaa hX zb8 rfl id ?_|refine zaa hX zb8 rfl ⟨id,id⟩ ?_));exact zq ⟨.inr rfl,⟨_,rfl,nd,1,_,rfl,rfl,rfl⟩,zay rfl trivial rfl rfl rfl⟩
 |some w=>
  rw[zf2 hst hcls hw]at heq ⊢;refine zai rfl (fun hb=>?_) (fun _=>?_)
  ·have hb:(!((some w:Option SufW).map zeu).isSome)=true:=hb;cases hb
  apply zac;refine zap (σ':=⟨[(0,pSelf),(3,⟨i64,(((l.length+t2.size:Nat):Int) - 1)⟩),(4,⟨.mapL,zgD⟩),(5,⟨.lit,zeu w⟩)],pE ty s st (l++t2.flat l.length),2⟩) ⟨⟨rfl,rfl,rfl,rfl,trivial⟩,⟨rfl,rfl,trivial⟩,rfl,rfl⟩ ?_;(repeat(first|apply zae|apply zac|apply zab|apply zad));refine zaj ?_;refine zax 1 hX zb8 hch rfl trivial rfl rfl hst2 hI (e:=zbu s st) rfl (fun er h=>?_) (fun st3 h3=>?_)
  ·rw[zan h];exact rfl
  rw[zaq h3];have hc3:=zaP hst (by rw[hcls];decide) h3;have hz3:=zc1 h3;have hst3:pOk (s,st3.1,l++t2.flat l.length,st3.2,()):=⟨hc3.1,hsl⟩;have hfew3:few (s,st3.1,l++t2.flat l.length,st3.2,()):=by
   show (((l++t2.flat l.length).length:Nat):Int)≤st3.2;rw[hlen1];omega
  have hr1:=hon.rem hg;have hr2:=hc3.rem hst;have hm3:meas s .prim st3 < k:=by
   simp only[meas,mdF]at hme ⊢;omega
  refine z6 ?_;refine zap (σ':=⟨[(0,pSelf),(3,⟨i64,(((l.length+t2.size:Nat):Int) - 1)⟩),(4,⟨.mapL,zgD⟩),(5,⟨.lit,zeu w⟩)],pE ty s st3 (l++t2.flat l.length),2⟩) ⟨⟨rfl,rfl,rfl,rfl,trivial⟩,⟨rfl,rfl,trivial⟩,rfl,rfl⟩ ?_;obtain⟨f,hf,hfo⟩:=zrD k hP w;(repeat(first|apply zae|apply zac|apply zab|apply zad));refine zaj ?_;refine yA 2 hX zb8 rfl trivial ?_;refine AL.ownVM hX hfo rfl rfl rfl (by show (⟨.lit,zeu w⟩:V)=_;rw[hf]) rfl rfl rfl rfl rfl rfl rfl rfl trivial ⟨hst3,hfew3,hm3⟩ hI (fun _=>rfl) (e:=ziP s st3 (l++t2.flat l.length).length w) rfl (fun er h=>?_) (fun r h4=>?_)
  ·rw[znr (l++t2.flat l.length).length w];rw[h];exact rfl
  rw[znr (l++t2.flat l.length).length w];rw[h4];obtain⟨n0,ex,tf,st4⟩:=r;obtain⟨hc4,hz4,hT⟩:=zqr hc3.1 h4;obtain⟨hT1,hT2⟩:=hT t2;have hT2:=hT2 l.length hlen1;have hT1:(tf t2).size=t2.size+ex.length+1:=hT1;have hT2:(tf t2).flat l.length=t2.flat l.length++ex++ [setL n0 (((l.length+t2.size:Nat):Int) - 1)]:=hT2;have hc4:Onw s st3 st4:=hc4;have hz4:st4.2=st3.2+(ex.length:Int):=hz4;have hlen2:(l++t2.flat l.length++ex).length=l.length+t2.size+ex.length:=by rw[zh,hlen1]
  have hst4:pOk (s,st4.1,l++t2.flat l.length++ex,st4.2,()):=⟨hc4.1,hsl⟩;refine zW hX zb8 rfl trivial ?_;refine zap (σ':=⟨[(0,pSelf),(3,⟨i64,(((l.length+t2.size:Nat):Int) - 1)⟩),(4,⟨.mapL,zgD⟩),(7,⟨.optr nd,⟨2,nd,.here⟩⟩)],[(0,some (pBox ty s st4)),(1,some (.buf 73 nd (l++t2.flat l.length++ex))),(2,some (.box nd n0))],3⟩) ⟨⟨rfl,rfl,rfl,rfl,trivial⟩,⟨rfl,rfl,rfl,trivial⟩,rfl,rfl⟩ ?_;refine za (za ?_);refine zaa hX zb8 rfl ?_ ?_
  ·trivial
  have hg4:=hc4.1.2.2;have hadd:(l++t2.flat l.length++ex).length≤100000:=by
   rw[hlen2];omega
  (repeat(first|apply zae|apply zac|apply zab|apply zad));refine zaj ?_;refine yc 2 hX zb8 hch rfl trivial rfl rfl ⟨hst4,hadd⟩ hI ?_;refine zW hX zb8 rfl trivial ?_;refine⟨(tf t2,st4),⟨?_,?_,?_⟩,?_,⟨rfl,vI64 ?_,rfl,trivial⟩,⟨rfl,zsU ?_,trivial⟩,rfl,rfl⟩
  ·rw[h3];show (sufT t2 st3 w >>= _)=_;rw[znr (l++t2.flat l.length).length w,h4];rfl
  ·exact (hon.trans hc3).trans hc4
  ·show st4.2=b+((tf t2).size:Int);rw[hT1];omega
  ·have hr4:=hc4.rem hc3.1;show rem s st4 < rem s st;omega
  ·show (((l++t2.flat l.length++ex).length:Nat):Int)=((l.length+(tf t2).size:Nat):Int) - 1;rw[hlen2,hT1];omega
  ·show l++t2.flat l.length++ex++ [setL n0 (((l.length+t2.size:Nat):Int) - 1)]=l++(tf t2).flat l.length;rw[hT2, <-zr, <-zr]
section
variable {s:List UInt8}
theorem zmC {st:GSt} (h:GOk s st) (ho:gIs st zeS=true):prsT s .prim st=(prsT s (.bin 0) (gAdv s st) >>= fun p=>zaQ s p.2 zcV >>= fun st=>.ok (p.1,st)):=by
 rw[zcr h,zaW,if_pos ho];rfl
theorem zmD {st:GSt} (h:GOk s st) (ho:gIs st zeS=false) (hc:zB st.1=2):prsT s .prim st=(zaC st (decide ((zE st.1).length≤32)) 2 >>= fun _=>zbu s st >>= fun st'=>.ok (.leaf (18,0,0,0,0,0,[],zE st.1,()),st')):=by
 rw[zcr h,zaW,if_neg (by rw[ho];decide),if_pos hc];rfl
def leafT (s:List UInt8) (st:GSt):Option LeafW->GE (Tr×GSt)
 |none=>.error (Tok.at st.1,3)
 |some w=>zbu s st >>= fun st=>zcN s st w >>= fun p=>.ok (.leaf p.1,p.2)
theorem zmE {st:GSt} (h:GOk s st) (ho:gIs st zeS=false) (hc:zB st.1≠2):prsT s .prim st=(zaC st (zB st.1==3 - 2) 3 >>= fun _=>leafT s st (zgg (zE st.1))):=by
 rw[zcr h,zaW,if_neg (by rw[ho];decide),if_neg hc];show (zaC st (zB st.1==1) 3 >>= _)=(zaC st (zB st.1==1) 3 >>= _);cases zgg (zE st.1)<;>rfl
end
theorem zqj (w:LeafW):∃ f,zcX w= .func (.func f) #[] #[]∧zaA Tryz.prog gmH f (zdg w):=by
 cases w with
 |days=>exact⟨_,rfl,zqy⟩
 |years=>exact⟨_,rfl,zoQ⟩
 |months=>exact⟨_,rfl,zm3⟩
 |monthdays=>exact⟨_,rfl,ziR⟩
 |weekdays=>exact⟨_,rfl,zkb⟩
 |weeks=>exact⟨_,rfl,zoR⟩
 |nth=>exact⟨_,rfl,zsC⟩
theorem dNat (a b:Nat):decide (((a:Nat):Int)≤((b:Nat):Int))=decide (a≤b):=decide_eq_decide.2 Int.ofNat_le
def kPm:Kn:={ gmK with C:=[(200,zo9)] }
theorem zbZ:KnOk Tryz.prog gmH kPm:=zak.with (.cons zor .nil)
def hPm (k:Nat):List (zS×HCtr):=[(80,cBin k),(134,cIs),(87,cAdv),(88,zfT),(81,zgd),(135,zkn),(136,cAdd)]
theorem zmF (k:Nat) (hB:zaA Tryz.prog gmH 80 (cBin k)):zaA Tryz.prog gmH 178 (ziZ (k+1)):=by
 have hpm:HsOk Tryz.prog gmH (hPm k):=.cons hB <| .cons zql <| .cons zfV <| .cons zfl <| .cons zet <| .cons zi5 <| .cons zpi .nil;refine zat (K:=_) zbZ Tryz.func178 rfl rfl zbd Tryz.call178 rfl (zf rfl) zaT ?_;rintro w0 ⟨G,O,K,fix,D,ρ,B⟩ ty hX hG hK hρ hD hinv ⟨(s:List UInt8),(t:TokT),(l:List Nd),(b:Int),⟨⟩⟩ ⟨⟩ hp;obtain rfl:G=gmH:=hG;obtain rfl:K=1:=hK;obtain rfl:ρ=none:=hρ;obtain rfl:D=[]:=hD;have hI:=zaE (ty:=ty) (ty':=ty) hX rfl hinv;obtain⟨hok,hfew,hme⟩:pOk (s,t,l,b,())∧few (s,t,l,b,())∧meas s .prim (t,b) < k+1:=hp;have hg:GOk s (t,b):=hok.1;have hsl:s.length≤100000:=hok.2;have hfew:((l.length:Nat):Int)≤b:=hfew;change AWP _ _ _ _ _ ⟨[(0,pSelf)],pE ty s (t,b) l,2⟩ (pQ _ (ziZ (k+1)) ty (toX (trX s l) (prsT s .prim (t,b))));refine za (za ?_);refine zaa hX zbZ rfl ?_ ?_
 ·trivial
 (repeat(first|apply zae|apply zac|apply zab|apply zad));refine zaj ?_;refine yc 1 hX zbZ hpm rfl trivial rfl rfl hok hI ?_;refine z6 ?_;refine zai rfl (fun hb=>?_) (fun hb=>?_)
 ·have hb:gIs (t,b) zeS=true:=hb;rw[zmC hg hb];have hc1:=zbV hg (zcv hb);have hst1:pOk (s,(gAdv s (t,b)).1,l,(gAdv s (t,b)).2,()):=⟨hc1.1,hsl⟩;have hr1:=hc1.rem hg;have hm1:meas s (.bin ((0:Int)).toNat) (gAdv s (t,b)) < k:=by
   show meas s (.bin 0) (gAdv s (t,b)) < k;simp only[meas,mdF]at hme ⊢;omega
  (repeat(first|apply zae|apply zac|apply zab|apply zad));refine zaj ?_;refine yc 1 hX zbZ hpm rfl trivial rfl rfl hok hI ?_;refine z6 ?_;(repeat(first|apply zae|apply zac|apply zab|apply zad));refine zaj ?_;refine zax 1 hX zbZ hpm rfl trivial rfl rfl ⟨hst1,(by decide:(0:Int)≤0),(by decide:(0:Int)≤3),hfew,hm1⟩ hI (f:=trX s l) (e:=prsT s (.bin 0) (gAdv s (t,b))) rfl (fun er h=>?_) (fun a h=>?_)
  ·rw[zan h];exact rfl
  rw[zaq h];obtain⟨u,st2⟩:=a;have hc2:Onw s (gAdv s (t,b)) st2:=zc6 hc1.1 h;have hst2:pOk (s,st2.1,l++u.flat l.length,st2.2,()):=⟨hc2.1,hsl⟩;refine zW hX zbZ rfl trivial ?_;refine zap (σ':=⟨[(0,pSelf),(3,⟨i64,(((l.length+u.size:Nat):Int) - 1)⟩)],pE ty s st2 (l++u.flat l.length),2⟩) ⟨⟨rfl,rfl,trivial⟩,⟨rfl,rfl,trivial⟩,rfl,rfl⟩ ?_;(repeat(first|apply zae|apply zac|apply zab|apply zad));refine zaj ?_;refine zax 1 hX zbZ hpm rfl trivial rfl rfl hst2 hI (e:=zaQ s st2 zcV) rfl (fun er h=>?_) (fun st3 h3=>?_)
  ·rw[zan h];exact rfl
  rw[zaq h3];refine z6 ?_;(repeat(first|apply zae|apply zac|apply zal|apply zad|apply zab|refine zaa hX zbZ rfl trivial ?_|refine zaa hX zbZ rfl id ?_|refine zaa hX zbZ rfl ⟨id,id⟩ ?_));exact zq ⟨.inr rfl,⟨_,rfl,nd,1,_,rfl,rfl,rfl⟩,zay rfl trivial rfl rfl rfl⟩
 have hb:gIs (t,b) zeS=false:=hb;apply zac;refine za (za ?_);refine zaa hX zbZ rfl ?_ ?_
 ·trivial
 refine za (za ?_);refine zaa hX zbZ rfl ?_ ?_
 ·trivial
 refine zap (σ':=⟨[(0,pSelf),(4,⟨.optr tk,⟨2,tk,.here⟩⟩),(22,⟨.bool,zB t==2⟩)],[(0,some (pBox ty s (t,b))),(1,some (.buf 73 nd l)),(2,some (.box tk t))],3⟩) ⟨⟨rfl,rfl,zcO rfl,trivial⟩,⟨rfl,rfl,rfl,trivial⟩,rfl,rfl⟩ ?_;refine zai rfl (fun hc=>?_) (fun hc=>?_)
 ·have hc:zB t=2:=beq_iff_eq.1 hc;rw[zmD hg hb hc];have hls:(zE t).length≤100000:=by
   have:=hg.1.2.2.2.2.1;have this:(zE t).length≤s.length:=this;omega
  (repeat(first|apply zae|apply zac|apply zab|apply zad));refine zaj ?_;refine zax 5 hX zbZ hpm rfl trivial rfl rfl hok hI (e:=zaC (t,b) (decide ((zE t).length≤32)) 2) (congrArg (fun c=>toX (fun _=>((),(s,t,l,b,()))) (zaC (t,b) c 2)) (dNat (zE t).length 32)) (fun er h=>?_) (fun a h=>?_)
  ·rw[zan h];exact rfl
  rw[zaq h];refine z6 ?_;refine zap (σ':=⟨[(0,pSelf),(4,⟨.optr tk,⟨2,tk,.here⟩⟩)],[(0,some (pBox ty s (t,b))),(1,some (.buf 73 nd l)),(2,some (.box tk t))],3⟩) ⟨⟨rfl,rfl,trivial⟩,⟨rfl,rfl,rfl,trivial⟩,rfl,rfl⟩ ?_;(repeat(first|apply zae|apply zac|apply zab|apply zad));refine zaj ?_;refine zax 1 hX zbZ hpm rfl trivial rfl rfl hok hI (e:=zbu s (t,b)) rfl (fun er h=>?_) (fun st1 h1=>?_)
  ·rw[zan h];exact rfl
  rw[zaq h1];have hc1:=zaP hg (by show zB t≠0;rw[hc];decide) h1;have hg1:=hc1.1.2.2;have hz1:=zc1 h1;have hz1:st1.2=b+1:=hz1;have hst1:pOk (s,st1.1,l,st1.2,()):=⟨hc1.1,hsl⟩;have hadd:l.length≤100000:=by omega
  refine z6 ?_;refine zap (σ':=⟨[(0,pSelf),(4,⟨.optr tk,⟨2,tk,.here⟩⟩)],[(0,some (pBox ty s st1)),(1,some (.buf 73 nd l)),(2,some (.box tk t))],3⟩) ⟨⟨rfl,rfl,trivial⟩,⟨rfl,rfl,rfl,trivial⟩,rfl,rfl⟩ ?_;(repeat(first|apply zae|apply zac|apply zab|apply zad));refine zaj ?_;refine yc 4 hX zbZ hpm rfl trivial rfl rfl ⟨hst1,hadd⟩ hI ?_;refine zW hX zbZ rfl trivial ?_;refine zq ⟨.inr rfl,⟨_,rfl,nd,1,_,rfl,rfl,rfl⟩,zay rfl trivial rfl rfl ?_⟩;show ((l.length:Nat):Int)=((l.length+1:Nat):Int) - 1;omega
 ·have hc:zB t≠2:=fun h=>by
   have h2:(zB t==2)=true:=beq_iff_eq.2 h;have hc:(zB t==2)=false:=hc;rw[h2]at hc;cases hc
  rw[zmE hg hb hc];apply zac;refine zap (σ':=⟨[(0,pSelf)],pE ty s (t,b) l,2⟩) ⟨⟨rfl,trivial⟩,⟨rfl,rfl,trivial⟩,rfl,rfl⟩ ?_;(repeat(first|apply zae|apply zac|apply zab|apply zad));refine zaj ?_;refine zax 7 hX zbZ hpm rfl trivial rfl rfl hok hI (e:=zaC (t,b) (zB t==1) 3) rfl (fun er h=>?_) (fun a h=>?_)
  ·rw[zan (by exact h)];exact rfl
  rw[zaq (by exact h)];have hcls:zB t=1:=beq_iff_eq.1 (zaK h);refine z6 ?_;refine AWP.via (σ':=⟨[(0,pSelf),(5,⟨.lit,((zgg (zE t)).map zcX).getD .nilFunc⟩),(6,⟨.bool,((zgg (zE t)).map zcX).isSome⟩)],pE ty s (t,b) l,2⟩) ?_ ?_
  ·refine AWP.ordersA dM 12 rfl (by kernel_rfl) ?_
   repeat'(first
    |exact AllN.nil
    |refine AllN.cons ⟨_,rfl,?_⟩ ?_
    |refine StepA.eval hX zbZ rfl trivial ?_
    |refine jZ rfl (zoh Tryz.underlying204 Tryz.underlying9 rfl (key:=strV (zE t)) (z:=.nilFunc) (es:=zjR) (r:=(zgg (zE t)).map zcX) rfl rfl rfl rfl (zoz rfl) Tryz.zeroValue206 (zos _) ?_)
    |refine jZ rfl (zoV rfl rfl rfl rfl ?_)
    |refine jZ rfl (zoU rfl rfl rfl rfl ?_)
    |(refine OrdA.last ?_;exact⟨⟨rfl,rfl,rfl,trivial⟩,⟨rfl,rfl,trivial⟩,rfl,rfl⟩))
  (repeat(first|apply zae|apply zac|apply zab|apply zad));refine zaj ?_;refine zax 2 hX zbZ hpm rfl trivial rfl rfl hok hI (e:=zaC (t,b) ((zgg (zE t)).map zcX).isSome 3) rfl (fun er h=>?_) (fun a h2=>?_)
  ·cases hw:zgg (zE t) with
   |some w=>rw[hw]at h;cases h
   |none=>
    rw[hw]at h;cases h;exact rfl
  cases hw:zgg (zE t) with
  |none=>rw[hw]at h2;cases h2
  |some w=>
   refine z6 ?_;refine zap (σ':=⟨[(0,pSelf),(5,⟨.lit,zcX w⟩)],pE ty s (t,b) l,2⟩) ⟨⟨rfl,rfl,trivial⟩,⟨rfl,rfl,trivial⟩,rfl,rfl⟩ ?_;change AWP _ _ _ _ _ _ (pQ _ (ziZ (k+1)) ty (toX (trX s l) (zbu s (t,b) >>= fun st=>zcN s st w >>= fun p=>.ok (.leaf p.1,p.2))));(repeat(first|apply zae|apply zac|apply zab|apply zad));refine zaj ?_;refine zax 1 hX zbZ hpm rfl trivial rfl rfl hok hI (e:=zbu s (t,b)) rfl (fun er h=>?_) (fun st1 h1=>?_)
   ·rw[zan h];exact rfl
   rw[zaq h1];have hc1:=zaP hg (by show zB t≠0;rw[hcls];decide) h1;have hg1:=hc1.1.2.2;have hz1:=zc1 h1;have hz1:st1.2=b+1:=hz1;have hst1:pOk (s,st1.1,l,st1.2,()):=⟨hc1.1,hsl⟩;have hadd:l.length≤100000:=by omega
   refine z6 ?_;refine zap (σ':=⟨[(0,pSelf),(5,⟨.lit,zcX w⟩)],pE ty s st1 l,2⟩) ⟨⟨rfl,rfl,trivial⟩,⟨rfl,rfl,trivial⟩,rfl,rfl⟩ ?_;obtain⟨f,hf,hfo⟩:=zqj w;(repeat(first|apply zae|apply zac|apply zab|apply zad));refine zaj ?_;refine yA 3 hX zbZ rfl trivial ?_;refine AL.ownVM hX hfo rfl rfl rfl (by show (⟨.lit,zcX w⟩:V)=_;rw[hf]) rfl rfl rfl rfl rfl rfl rfl rfl trivial hst1 hI (fun _=>rfl) (e:=zcN s st1 w) rfl (fun er h=>?_) (fun r h4=>?_)
   ·rw[zan h];exact rfl
   rw[zaq h4];obtain⟨n0,st2⟩:=r;have hc2:Onw s st1 st2:=zlY hc1.1 w h4;have hst2:pOk (s,st2.1,l,st2.2,()):=⟨hc2.1,hsl⟩;refine yc 0 hX zbZ hpm rfl trivial rfl rfl ⟨hst2,hadd⟩ hI ?_;refine zW hX zbZ rfl trivial ?_;refine zq ⟨.inr rfl,⟨_,rfl,nd,1,_,rfl,rfl,rfl⟩,zay rfl trivial rfl rfl ?_⟩;show ((l.length:Nat):Int)=((l.length+1:Nat):Int) - 1;omega
def Rec3 (k:Nat):Prop:=zaA Tryz.prog gmH 80 (cBin k)∧zaA Tryz.prog gmH 133 (zkm k)∧zaA Tryz.prog gmH 178 (ziZ k)
theorem zeb {P:zx} {G:zi->Prop} {f:zS} {c:HCtr} (hl:c.law) (hen:∀ (vs:Array zg) (w:zi),(callFunc f vs).run P w= .ok (.enter f vs) w) (h:∀ x xs,¬ allP (c.pre x xs)):zaA P G f c:=
 ⟨hen,hl,fun _ _ _ _ _ x xs _ _ _ _ _ _ _ _ hp=>(h x xs hp).elim⟩
theorem zlz:∀ k,Rec3 k
 |0=>by
  refine⟨zeb zbd Tryz.call80 fun x xs h=>?_,zeb zbd Tryz.call133 fun x xs h=>?_,zeb zbd Tryz.call178 fun x xs h=>?_⟩
  ·exact absurd h.2.2.2.2 (xp _)
  ·exact absurd h.2.2 (xp _)
  ·exact absurd h.2.2 (xp _)
 |k+1=>by
  obtain⟨h1,h2,h3⟩:=zlz k;exact⟨zpd k h1 h2,zqG k h3,zmF k h1⟩
@[reducible] def nBox (s:List UInt8) (t:TokT) (b:Int):OObj:=.hbox 139 [⟨.str,s⟩,⟨i64,t.1⟩,⟨i64,t.2.1⟩,⟨i64,t.2.2.1⟩,⟨.str,t.2.2.2.1⟩,⟨i64,t.2.2.2.2.1⟩,⟨.lit,.slice none 0 0⟩,⟨i64,b⟩]
@[reducible] def cNewP:FCtr:={ args:=[.str],pre:=fun xs=>[zd xs.1≤100000],obj:=fun xs=>nBox xs.1 (za1 xs.1) 0 }
def zjC (s:List UInt8):zg:=.agg #[.string ⟨s.toArray⟩,.int .i64 0,.int .i64 0,.int .i64 0,.string ⟨#[]⟩,.int .i64 0,.slice none 0 0,.int .i64 0]
theorem zpW (s:List UInt8):Tryz.prog.built 139 [(0,.string ⟨s.toArray⟩)]=some #[.string ⟨s.toArray⟩,.int .i64 0,.int .i64 0,.int .i64 0,.string ⟨#[]⟩,.int .i64 0,.slice none 0 0,.int .i64 0]:=by kernel_rfl
section
variable {w0:zi} {X:Ownr} {n:Nat} {Q:Exit->AS->Prop} {ops:Array Oper}
theorem AL.newPs (hX:X.Ok w0) {o1 o2:Oper} {rest:List Oper} {d1 d2:Nat} {x:zF} (ho1:o1.op= .build 139 #[(0,x)]) (ho2:o2.op= .box 139 (.tmp d1)) (hg1:o1.guard=none) (hg2:o2.guard=none) (hd1:o1.dst=some d1) (hd2:o2.dst=some d2) (hn1:zU d1 n=true) (hn2:zU d2 n=true) {F:yg} {E:Owns} {nx:Nat} {s:List UInt8} (hx:evO F x=⟨.str,s⟩)
  (h:AL Tryz.prog w0 X n ops rest ⟨(d2,⟨.hptr,(nx,(0:Nat))⟩)::(d1,⟨.lit,zjC s⟩)::F,(nx,some (nBox s zTk 0))::E,nx+1⟩ Q):AL Tryz.prog w0 X n ops (o1::o2::rest) ⟨F,E,nx⟩ Q:=by
 refine qq hg1 (fun c e=>by rw[ho1]at e;cases e) fun β a w hs=>?_;have hl1:d1 < n:=by simpa using hn1
 have hl2:d2 < n:=by simpa using hn2
 have hsx:=hs.ops x;rw[show evO (AS.mk F E nx).F x=_ from hx]at hsx;obtain⟨hsx,hle⟩:=hsx;have hsx:a.eval x= .string ⟨s.toArray⟩:=vB.1 hsx;refine zbt (u:=zjC s) (w':=w) ?_ ?_
 ·unfold execOp;simp only[ho1];refine zdX ?_;rw[show (#[(0,x)]:Array (Nat×zF)).map (fun p=>(p.1,a.eval p.2))= #[(0,qY ⟨s.toArray⟩)] from by simp[hsx]];exact run_build w _ _ _ (zpW s)
 rw[hd1];refine⟨_,β,hs.put (zO _ _) (v:=⟨.lit,zjC s⟩) rfl (zl _) hl1,?_⟩;refine qq hg2 (fun c e=>by rw[ho2]at e;cases e) fun β a w hs=>?_;have hv:a.eval (.tmp d1)=zjC s:=by
  have h1:=hs.ops (.tmp d1);have e:evO ((d1,⟨.lit,zjC s⟩)::F) (.tmp d1)=⟨.lit,zjC s⟩:=by
   show zn ((d1,_)::F) d1=_;rw[zao,if_pos rfl]
  rw[show evO (AS.mk ((d1,⟨.lit,zjC s⟩)::F) E nx).F (.tmp d1)=_ from e]at h1;exact h1
 refine zbt (u:=.pointer (some ⟨w.heap.size,0,none⟩)) (w':=w.alloc (.cells #[.string ⟨s.toArray⟩,.int .i64 0,.int .i64 0,.int .i64 0,.string ⟨#[]⟩,.int .i64 0,.slice none 0 0,.int .i64 0] 139 (0,0))) ?_ ?_
 ·unfold execOp;simp only[ho2];refine zdX ?_;rw[hv];simp[Instr.box,newVar,newRow,Value.cells,go_sem,zjC]
 ·rw[hd2];obtain⟨β',h4⟩:=hs.make hX ((zO _ w).alloc (zk _) (.cells #[.string ⟨s.toArray⟩,.int .i64 0,.int .i64 0,.int .i64 0,.string ⟨#[]⟩,.int .i64 0,.slice none 0 0,.int .i64 0] 139 (0,0))) (bv:=.pointer (some ⟨w.heap.size,0,none⟩)) (o:=nBox s zTk 0)
   (fun O β' hO=>⟨w.heap.size,[_,_,_,_,_,_,_,_],rfl,zl _,xm w _,_,_,rfl,rfl,⟨rfl,hle⟩,_,_,rfl,rfl,rfl,_,_,rfl,rfl,rfl,_,_,rfl,rfl,rfl,_,_,rfl,rfl,⟨rfl,zl _⟩,_,_,rfl,rfl,rfl,_,_,rfl,rfl,rfl,_,_,rfl,rfl,rfl,rfl⟩)
   (fun g hg=>by cases hg;exact zk _) (v:=⟨.hptr,(nx,(0:Nat))⟩) (u:=.pointer (some ⟨w.heap.size,0,none⟩))
   (fun O β' hb=>⟨w.heap.size,by show zah (β' nx)=_;rw[show β' nx=_ from hb];rfl,rfl⟩) (zk _) hl2 (fun vs e v hv=>by
     cases e;have:((nBox s zTk 0).bare)=true:=rfl;exact OObj.bare_under this _ _ rfl _ hv)
  exact⟨_,β',h4,h⟩
end
theorem zd7:zmh Tryz.prog gmH 45 cNewP:=by
 refine zk2 zcM Tryz.func45 rfl rfl Tryz.call45 rfl (zf rfl) (fun xs=>⟨rfl,rfl⟩) ?_;rintro w0 O hX ⟨(s:List UInt8),⟨⟩⟩ hp;have hlen:s.length≤100000:=hp;change AWP _ _ _ _ _ ⟨[(0,⟨.str,s⟩)],[],0⟩ _;refine za (za ?_);refine zaa hX zcM rfl ?_ ?_
 ·trivial
 (repeat(first|apply zae|apply zac|apply zab|apply zad));refine zaj ?_;refine yA 1 hX zcM rfl trivial ?_;refine AL.newPs hX rfl rfl rfl rfl rfl rfl rfl rfl rfl ?_;refine zW hX zcM rfl trivial ?_;refine za (za ?_);refine zaa hX zcM rfl ?_ ?_
 ·exact hlen
 (repeat(first|apply zae|apply zac|apply zal|apply zad|apply zab|refine zaa hX zcM rfl trivial ?_|refine zaa hX zcM rfl id ?_|refine zaa hX zcM rfl ⟨id,id⟩ ?_));exact zq ⟨.inr rfl,_,_,rfl,rfl,rfl⟩
def lQ (rs:List qe) (t:Ty) (r:Except zg t.T) (e:Exit) (σ:AS):Prop:=LDone gmT rs t e σ r
def zec (s:List UInt8) (st:GSt) (l:List Nd):Except zg (List Nd):=toX (fun r=>l++r.1.flat l.length) (zdB s st)
@[reducible] def cRule:HCtr:=hP [] (.slice nd) (fun x _=>[few x]) fun x _=>.ok ([],x)
def hRu (k:Nat):List (zS×HCtr):=[(80,cBin k),(81,zgd)]
theorem znR:zfw Tryz.prog gmH 46 cRule (fun x _=>zec x.1 (stOf x) x.2.2.1):=by
 refine zg5 (K:=gmK) zak Tryz.func46 rfl rfl zbd Tryz.call46 rfl (zf rfl) zaT ?_;rintro w0 ⟨G,O,K,fix,D,ρ,B⟩ ty hX hG hK hρ hD hinv x ⟨⟩ hp;obtain rfl:G=gmH:=hG;obtain rfl:K=1:=hK;obtain rfl:ρ=none:=hρ;obtain rfl:D=[]:=hD;have hI:=zaE (ty:=ty) hX rfl hinv (ty':=ty);obtain⟨s,t,l,b,⟨⟩⟩:=x;obtain⟨hok,hfew⟩:pOk (s,t,l,b,())∧few (s,t,l,b,()):=hp;have hg:GOk s (t,b):=hok.1;have hsl:s.length≤100000:=hok.2;have hru:HsOk Tryz.prog gmH (hRu (meas s (.bin 0) (t,b)+1)):=.cons (zlz _).1 <| .cons zet .nil;change AWP _ _ _ _ _ ⟨[(0,pSelf)],pE ty s (t,b) l,2⟩ (lQ _ (.slice nd) (zec s (t,b) l));unfold zec;obtain⟨R,hR⟩:∃ R,R=zdB s (t,b):=⟨_,rfl⟩;rw[<-hR];unfold zdB at hR;refine za (za ?_);refine zaa hX zak rfl ?_ ?_
 ·trivial
 (repeat(first|apply zae|apply zac|apply zab|apply zad));refine zaj ?_;refine zax 1 hX zak hru rfl trivial rfl rfl ⟨hok,(by decide:(0:Int)≤0),(by decide:(0:Int)≤3),hfew,xw _⟩ hI (f:=trX s l) (e:=prsT s (.bin 0) (t,b)) rfl (fun er h=>?_) (fun a h=>?_)
 ·rw[hR,zan h];exact rfl
 rw[h]at hR;obtain⟨u,st⟩:=a;have hc:Onw s (t,b) st:=zc6 hg h;have hst:pOk (s,st.1,l++u.flat l.length,st.2,()):=⟨hc.1,hsl⟩;refine zW hX zak rfl trivial ?_;refine zap (σ':=⟨[(0,pSelf)],pE ty s st (l++u.flat l.length),2⟩) ⟨⟨rfl,trivial⟩,⟨rfl,rfl,trivial⟩,rfl,rfl⟩ ?_;(repeat(first|apply zae|apply zac|apply zab|apply zad));refine zaj ?_;refine zax 7 hX zak hru rfl trivial rfl rfl hst hI (e:=zaC st (zB st.1==0) 3) rfl (fun er h=>?_) (fun a h=>?_)
 ·rw[show R= .error er by rw[hR];show (zaC st _ 3 >>= _)=_;rw[h];rfl];exact rfl
 rw[show R= .ok (u,st) by rw[hR];show (zaC st _ 3 >>= _)=_;rw[h];rfl];refine z6 ?_;(repeat(first|apply zae|apply zac|apply zal|apply zad|apply zab|refine zaa hX zak rfl trivial ?_|refine zaa hX zak rfl id ?_|refine zaa hX zak rfl ⟨id,id⟩ ?_));refine AWP.frz hX 2 ?_;exact zq ⟨.inr rfl,zay rfl trivial rfl rfl rfl⟩
def gDef (s:List UInt8) (st:GSt) (n:Int):Except (Int×Int) (List UInt8×Tr):=do
 zaC st (zB st.1==1) 3
 zaC st (decide ((zE st.1).length≤32)&&decide (n < 4096)) 2
 let st'<-zaQ s (gAdv s st) wEq
 let p<-zdB s st'
 return (zE st.1,p.1)
def zkZ (s:List UInt8) (st:GSt) (l:List Nd) (n:Int):Except zg (List UInt8×List Nd×Unit):=toX (fun r=>(r.1,l++r.2.flat l.length,())) (gDef s st n)
@[reducible] def cDef:HCtr:=hP [i64] de (fun x _=>[few x]) fun x _=>.ok (([],[],()),x)
def hDf:List (zS×HCtr):=[(81,zgd),(87,cAdv),(88,zfT)]
theorem zlS:HsOk Tryz.prog gmH hDf:=.cons zet <| .cons zfV <| .cons zfl .nil
theorem zfo:zfw Tryz.prog gmH 55 cDef (fun x xs=>zkZ x.1 (stOf x) x.2.2.1 xs.1):=by
 refine zg5 (K:=gmK) zak Tryz.func55 rfl rfl zbd Tryz.call55 rfl (zf rfl) zaT ?_;rintro w0 ⟨G,O,K,fix,D,ρ,B⟩ ty hX hG hK hρ hD hinv x ⟨(k:Int),⟨⟩⟩ hp;obtain rfl:G=gmH:=hG;obtain rfl:K=1:=hK;obtain rfl:ρ=none:=hρ;obtain rfl:D=[]:=hD;have hI:=zaE (ty:=ty) hX rfl hinv (ty':=ty);obtain⟨s,t,l,b,⟨⟩⟩:=x;obtain⟨hok,hfew⟩:pOk (s,t,l,b,())∧few (s,t,l,b,()):=hp;have hg:GOk s (t,b):=hok.1;have hsl:s.length≤100000:=hok.2;change AWP _ _ _ _ _ ⟨[(0,pSelf),(1,⟨i64,k⟩)],pE ty s (t,b) l,2⟩ (lQ _ de (zkZ s (t,b) l k));unfold zkZ;obtain⟨R,hR⟩:∃ R,R=gDef s (t,b) k:=⟨_,rfl⟩;rw[<-hR];unfold gDef at hR;have hls:(zE t).length≤100000:=by
  have:=hg.1.2.2.2.2.1;have this:(zE t).length≤s.length:=this;omega
 refine za (za ?_);refine zaa hX zak rfl ?_ ?_
 ·trivial
 (repeat(first|apply zae|apply zac|apply zab|apply zad));refine zaj ?_;refine zax 7 hX zak zlS rfl trivial rfl rfl hok hI (e:=zaC (t,b) (zB t==1) 3) rfl (fun er h=>?_) (fun a h=>?_)
 ·rw[hR,zan (by exact h)];exact rfl
 have hcls:zB t=1:=beq_iff_eq.1 (zaK h);rw[show (zaC (t,b) (zB (t,b).1==1) 3)= .ok a from h]at hR;have hR:R=(zaC (t,b) (decide ((zE t).length≤32)&&decide (k < 4096)) 2 >>= fun _=>zaQ s (gAdv s (t,b)) wEq >>= fun st'=>zdB s st' >>= fun p=>.ok (zE t,p.1)):=hR;refine z6 ?_;refine zap (σ':=⟨[(0,pSelf),(1,⟨i64,k⟩),(4,⟨.optr de,⟨2,de,.here⟩⟩)],[(0,some (pBox ty s (t,b))),(1,some (.buf 73 nd l)),(2,some (.box de ([],[],())))],3⟩) ⟨⟨rfl,rfl,rfl,trivial⟩,⟨rfl,rfl,rfl,trivial⟩,rfl,rfl⟩ ?_;(repeat(first|apply zae|apply zac|apply zab|apply zad));refine zaj ?_;refine zax 12 hX zak zlS rfl ?_ rfl rfl hok hI (e:=zaC (t,b) (bif decide (((zE t).length:Int)≤((32:Nat):Int)) then decide (k < 4096) else false) 2) rfl (fun er h=>?_) (fun a h=>?_)
 ·repeat'(first|exact trivial|assumption|(refine⟨?_,?_⟩)|(intro _)|exact zf rfl|exact zu _|(simp_all [allP];done))
 ·rw[zcg,dNat]at h;rw[hR,zan h];exact rfl
 rw[zcg,dNat]at h;rw[h]at hR;have hR:R=(zaQ s (gAdv s (t,b)) wEq >>= fun st'=>zdB s st' >>= fun p=>.ok (zE t,p.1)):=hR;refine z6 ?_;refine zap (σ':=⟨[(0,pSelf),(4,⟨.optr de,⟨2,de,.here⟩⟩)],[(0,some (pBox ty s (t,b))),(1,some (.buf 73 nd l)),(2,some (.box de ([],[],())))],3⟩) ⟨⟨rfl,rfl,trivial⟩,⟨rfl,rfl,rfl,trivial⟩,rfl,rfl⟩ ?_;have hc1:=zbV hg (by show zB t≠0;rw[hcls];decide);obtain⟨st1,hst1⟩:∃ st1,st1=gAdv s (t,b):=⟨_,rfl⟩;have hz1:st1.2=b:=by rw[hst1];rfl
 (repeat(first|apply zae|apply zac|apply zab|apply zad));refine zaj ?_;refine yc 1 hX zak zlS rfl trivial rfl rfl hok hI ?_;rw[<-hst1]at hR hc1;refine jb (σ':=⟨[(0,pSelf),(4,⟨.optr de,⟨2,de,.here⟩⟩),(28,⟨tk,t⟩)],[(0,some (pBox ty s st1)),(1,some (.buf 73 nd l)),(2,some (.box de ([],[],())))],3⟩) ⟨⟨rfl,rfl,rfl,trivial⟩,⟨by rw[hst1];rfl,rfl,rfl,trivial⟩,rfl,rfl⟩ ?_;refine zW hX zak rfl trivial ?_;refine zap (σ':=⟨[(0,pSelf),(4,⟨.optr de,⟨2,de,.here⟩⟩),(5,⟨.optr de,⟨3,de,.here⟩⟩)],[(0,some (pBox ty s st1)),(1,some (.buf 73 nd l)),(2,some (.box de ([],[],()))),(3,some (.box de (zE t,[],())))],4⟩) ⟨⟨rfl,rfl,rfl,trivial⟩,⟨rfl,rfl,rfl,rfl,trivial⟩,rfl,rfl⟩ ?_;have hok1:pOk (s,st1.1,l,st1.2,()):=⟨hc1.1,hsl⟩;(repeat(first|apply zae|apply zac|apply zab|apply zad));refine zaj ?_;refine zax 1 hX zak zlS rfl trivial rfl rfl hok1 hI (e:=zaQ s st1 wEq) rfl (fun er h=>?_) (fun st2 h2=>?_)
 ·rw[hR,zan (by exact h)];exact rfl
 rw[h2]at hR;have hR:R=(zdB s st2 >>= fun p=>.ok (zE t,p.1)):=hR;have hc2:=zbf hc1.1 h2;have hz2:=zdC h2;have hok2:pOk (s,st2.1,l,st2.2,()):=⟨hc2.1,hsl⟩;have hfew2:few (s,st2.1,l,st2.2,()):=by
  show ((l.length:Nat):Int)≤st2.2;rw[hz2,hz1];exact hfew
 refine z6 ?_;refine zap (σ':=⟨[(0,pSelf),(4,⟨.optr de,⟨2,de,.here⟩⟩),(5,⟨.optr de,⟨3,de,.here⟩⟩)],[(0,some (pBox ty s st2)),(1,some (.buf 73 nd l)),(2,some (.box de ([],[],()))),(3,some (.box de (zE t,[],())))],4⟩) ⟨⟨rfl,rfl,rfl,trivial⟩,⟨rfl,rfl,rfl,rfl,trivial⟩,rfl,rfl⟩ ?_;(repeat(first|apply zae|apply zac|apply zab|apply zad));refine zaj ?_;refine yA 1 hX zak rfl trivial ?_;refine AL.give hX znR rfl rfl rfl rfl rfl rfl rfl rfl rfl rfl rfl rfl trivial ⟨hok2,hfew2⟩ hI rfl rfl ?_;cases h3:zdB s st2 with
 |error er=>
  rw[h3]at hR;rw[show zec s (stOf (s,st2.1,l,st2.2,())) l= .error (pvS er) by unfold zec;rw[show stOf (s,st2.1,l,st2.2,())=st2 from rfl,h3];rfl];rw[show R= .error er from hR];exact rfl
 |ok p=>
  rw[h3]at hR;rw[show zec s (stOf (s,st2.1,l,st2.2,())) l= .ok (l++p.1.flat l.length) by unfold zec;rw[show stOf (s,st2.1,l,st2.2,())=st2 from rfl,h3];rfl];rw[show R= .ok (zE t,p.1) from hR];show AL _ _ _ _ _ _ _ _;refine zW hX zak rfl trivial ?_;(repeat(first|apply zae|apply zac|apply zal|apply zad|apply zab|refine zaa hX zak rfl trivial ?_|refine zaa hX zak rfl id ?_|refine zaa hX zak rfl ⟨id,id⟩ ?_));exact zq ⟨.inr rfl,zay rfl trivial rfl rfl rfl⟩
def zpm (c:HCtr) (ty:zo) (e:Exit) (σ:AS):Except zg (c.res.T×c.self.T)->Prop
 | .ok (_,x')=>(e= .normal∨e= .ret)∧∃ vs,zj σ.E 0=some (.hbox ty vs)∧unH c 0 vs σ.E x'
 | .error pv=>e= .panic [{ v:=pv,recovered:=false }]
section
variable {P:zx} {K:Kn} {n:Nat}
theorem zf8 {G:zi->Prop} (hK:KnOk P G K) {f:zS} {fn:Func} {c:Code} {ctr:HCtr} (hf:P.funcs[f]? =some fn) (hb:fn.body=some c) (hn:fn.ntmps=n) (hlaw:ctr.law)
  (hen:∀ (us:Array zg) (w:zi),(callFunc f us).run P w= .ok (.enter f us) w) (hunit:ctr.res= .unit) (hrs:∀ tmps w,∃ v,(results fn tmps).run P w= .ok v w) (hd:za4 ctr.args=true) (hlen:ctr.args.length+1≤n) (hst:∀ w w' R ty,ctr.inv w R ty->G w->Kept R w w'->G w')
  (h:∀ (w0:zi) (X:Ownr) (ty:zo),X.Ok w0->X.G=G->X.K=1->X.ρ=none->X.D=[]->ctr.inv w0 X.R ty->∀ (x:ctr.self.T) (xs:Args ctr.args),allP (ctr.pre x xs)->
    AWP P w0 X n c (zjY ctr ty x xs) (fun e σ=>zpm ctr ty e σ (ctr.out x xs))):zaA P G f ctr:=by
 refine⟨hen,hlaw,fun w O g cs ty x xs vs b hO hgb hg hx hbuf hrep hp hinv hG=>calls_of_wp hf hb ?_⟩;obtain⟨X,hXd,hX,hXR,hsim⟩:=zsi (ctr:=ctr) (G:=G) hn hlaw hd hlen hst hO hgb hg hx hbuf hrep hinv hG;have hXX:X.X=O:=by rw[hXd]
 have hXG:X.G=G:=by rw[hXd]
 have hinv':ctr.inv w X.R ty:=by
  rw[show X.R=fun h=>h=g∨zah b=some h from funext fun h=>propext (hXR h)];exact hinv
 have hw:=h w X ty hX hXG (by rw[hXd]) (by rw[hXd]) (by rw[hXd]) hinv' x xs hp _ _ _ hsim;rw[show X.ρ=none by rw[hXd]]at hw;refine wp_mono (wpIn_wide.1 hw) fun e a' w' ⟨σ',β',h1,h2⟩=>?_;have hbk:Kept (fun h=>h=g∨zah b=some h) w w':=⟨h1.bel.os,h1.bel.tape,h1.bel.output,h1.bel.size,fun k hk hr=>h1.bel.block k hk fun hr'=>hr ((hXR k).1 hr')⟩;have hdf:a'.defers=[]:=by rw[h1.df,hXd]
 revert h2;cases ho:ctr.out x xs with
 |error pv=>
  rintro rfl;exact⟨hdf,hbk,rfl⟩
 |ok p=>
  obtain⟨y,x'⟩:=p;rintro ⟨h2,ws,h6,h7⟩;obtain⟨et',j,k1,k2,_,_⟩:=zeW hlaw h7;obtain⟨g',cs',hb1,_,hb3,hb4⟩:=h1.own 0 _ h6;have hb5:=(h1.fix.2 0 (by rw[hXd];exact xw 0)).1;rw[hb1]at hb5;have hgg:g'=g:=by
   have h:some g'=some (X.fix 0):=hb5;rw[hXd]at h;exact zN h
  subst hgg;have hj:=h1.own j _ k2;have hne:(0:Nat)≠j:=fun e=>by rw[<-e,h6]at k2;cases k2
  have hsub:∀ k,zbK O g' (β' j) k->OSet X σ'.E β' k:=fun k hk=>by
   rcases hk with (hk|hk)|hk
   ·exact .inl (by rw[hXX];exact hk)
   ·exact .inr ⟨0,_,h6,by rw[hb1,hk];rfl⟩
   ·exact .inr ⟨j,_,k2,hk⟩
  have hkp:xf w' w' (OSet X σ'.E β') (zbK O g' (β' j)):=⟨zk _,fun _ _ _=>rfl,fun k _ hk=>hsub k hk⟩;have hlvr:RepH w' (zbK O g' (β' j)) (zcU g' (β' j)) (ctr.lv 0 1 x') cs':=RepH.toLv hlaw hkp h7 hb4 (fun j' et'' hj'=>by
   rw[k1]at hj';cases hj';rfl) (by rw[hb1];rfl)
  have hbr:OwnRep w' (zbK O g' (β' j)) (zcU g' (β' j)) 0 (β' j) (.buf ctr.te ctr.et (ctr.sl x')):=hj.keep hkp fun _ _=>rfl;have hnew:∀ h,zah (β' j)=some h->zah b=some h∨w.heap.size≤h:=fun h hh=>by
   rcases h1.new j _ h k2 hh with h8|h8
   ·exact .inr h8
   ·rcases (hXR h).1 h8 with rfl|h8
    ·exact absurd hh (h1.inj 0 j _ _ h6 k2 hne h (by rw[hb1];rfl))
    ·exact .inl h8
  have hng:zah (β' j)≠some g':=h1.inj 0 j _ _ h6 k2 hne g' (by rw[hb1];rfl);obtain⟨v,h4⟩:=hrs a'.tmps w';rcases h2 with rfl|rfl
  ·exact⟨hdf,v,h4,hbk,v,cs',_,rfl,hb3,hlvr,hbr,hng,hnew,.inl hunit⟩
  ·exact⟨hdf,v,h4,hbk,v,cs',_,rfl,hb3,hlvr,hbr,hng,hnew,.inl hunit⟩
end
abbrev prT:Ty:=.pair (.slice nd) .unit
@[reducible] def bTy (T:Ty):Ty:=.pair .bool (.pair bs T)
def bInv (T:Ty) (tys:List zo) (w:zi) (R:Nat->Prop) (ty:zo):Prop:=ginv w R ty∧ty∈tys
theorem zdt (T:Ty) (tys:List zo):∀ w w' R (ty:zo),bInv T tys w R ty->gmH w->Kept R w w'->gmH w':=fun _ _ _ ty h hg hk=>zaT _ _ _ ty h.1 hg hk
@[reducible] def hBl (T:Ty) (tys:List zo) (args:List Ty) (res:Ty) (pre:(bTy T).T->Args args->List Prop) (out:(bTy T).T->Args args->Except zg (res.T×(bTy T).T)):HCtr:=
 { self:=bTy T,k:=1,ad:=some 0,on:=fun x=>x.1,te:=5,et:=u8,sl:=fun x=>x.2.1,args:=args,inv:=bInv T tys,pre:=pre,res:=res,out:=out }
theorem zce {T:Ty} (hT:T.leafD=true) {tys:List zo} {args:List Ty} {res:Ty} {pre:(bTy T).T->Args args->List Prop} {out:(bTy T).T->Args args->Except zg (res.T×(bTy T).T)}:(hBl T tys args res pre out).law:=
 ⟨hT,fun _=>rfl,fun a h=>by cases h;exact⟨Nat.zero_ne_one,fun _=>rfl⟩⟩
def tyOk (T:Ty):List zo->Prop:=fun tys=>∀ ty∈tys,(ty=107∨ty=105)∧∀ x:T.T,(zaX T x).length=if ty=105 then 0 else 1
@[reducible] def cCC (T:Ty) (tys:List zo):HCtr:=hBl T tys [] .unit (fun _ _=>[]) fun x _=>.ok ((),(true,x.2))
theorem zoe (T:Ty) (tys:List zo) {args:List Ty} {res:Ty} {pre:(bTy T).T->Args args->List Prop} {out:(bTy T).T->Args args->Except zg (res.T×(bTy T).T)} (i j:Nat) (x:(bTy T).T):(hBl T tys args res pre out).lv i j x=adV i x.1::⟨.obuf u8,j⟩::zaX T x.2.2:=rfl
theorem zly {w:zi} {O:Nat->Prop} {β:Nat->zg}:∀ {vs:List V} {cs:List zg},RepH w O β vs cs->cs.length=vs.length
 | [],_,h=>by rw[show _=[] from h];rfl
 |v::r,_,⟨u,s,rfl,_,_,h⟩=>by rw[zs,zs,zly h]
theorem zgc (T:Ty) (hT:T.leafD=true) (tys:List zo) (ht:tyOk T tys):zaA Tryz.prog gmH 114 (cCC T tys):=by
 refine⟨Tryz.call114,zce hT,fun w O g cs ty x xs vs b hO hgb hg hx hbuf hrep hpre hinv hG=>?_⟩;have hvs:vs=[]:=hrep;subst hvs;rw[zoe]at hx;obtain⟨u,r,rfl,hu1,hu,hr⟩:=hx;obtain⟨hty,hlen⟩:=ht ty hinv.2;have hrl:=zly hr;rw[zs,hlen]at hrl;have hgl:=(zm.1 hg).1;cases hx1:x.1 with
 |true=>
  rw[hx1]at hu;obtain⟨g',e1,e2⟩:∃ g',zah (zcU g b 0)=some g'∧u= .pointer (some ⟨g',0,none⟩):=hu;have e1:some g=some g':=e1;cases e1;subst e2;have hc:w.cell? ⟨g,0,none⟩=some (.pointer (some ⟨g,0,none⟩)):=by simp[xD,hg]
  refine (Go.Proofs.Any.Builder_copyCheck_used Tryz.lays240 Tryz.Builder_X72_240 g w hc).mono ?_;rintro e w' ⟨rfl,rfl⟩;refine⟨jM _ _,_,_,b,rfl,hg,?_,hbuf,hgb,fun h hh=>.inl hh,.inl rfl⟩;rw[zoe];exact⟨_,_,rfl,rfl,⟨g,rfl,rfl⟩,hr⟩
 |false=>
  rw[hx1]at hu;have hu:u= .pointer none:=hu;subst hu;refine (zhJ ty hty g w r (by rw[hrl];split<;>rfl) hg).mono ?_;rintro e w' ⟨rfl,rfl⟩;have hk:Kept (fun h=>h=g∨zah b=some h) w (w.setCell ⟨g,0,none⟩ (.pointer (some ⟨g,0,none⟩))):=⟨rfl,rfl,rfl,by simp[World.setCell],fun k _ hn=>xo w ⟨g,0,none⟩ _ k fun e=>hn (.inl e)⟩;have hkk:xf w (w.setCell ⟨g,0,none⟩ (.pointer (some ⟨g,0,none⟩))) (zbK O g b) (zbK O g b):=⟨hk.size,fun k _ hn=>xo w ⟨g,0,none⟩ _ k fun e=>hn (.inl (.inr e)),fun _ _ h=>h⟩;refine⟨hk,_,.pointer (some ⟨g,0,none⟩)::r,b,rfl,?_,?_,hbuf.keep hkk fun k hk=>xo w ⟨g,0,none⟩ _ k fun e=>hgb (by rw[hk,e]),hgb,fun h hh=>.inl hh,.inl rfl⟩
  ·show (w.heap.modify g _)[g]? =_;rw[yo (by rw[vP];exact hgl),vH,(zm.1 hg).2];simp
  ·rw[zoe];exact⟨_,_,rfl,rfl,⟨g,rfl,rfl⟩,hr.keep hkk⟩
def Ty.noB:Ty->Bool
 | .obuf _=>false
 | .cond t=>t.noB
 | .hcons a b=>a.noB&&b.noB
 |_=>true
theorem RepV.fixβ {w:zi} {O:Nat->Prop} {β β':Nat->zg} {K:Nat} (hβ:∀ i,i < K->zah (β' i)=zah (β i)):∀ (t:Ty) (x:t.T) (v:zg),t.noB=true->bnd t x≤K->RepV w O β t x v->RepV w O β' t x v:=by
 intro t
 induction t with
 |optr t _=>
  rintro x v _ hb ⟨g,h1,h2⟩;have hb:x.i+1≤K:=hb;exact⟨g,(hβ _ (by omega)).trans h1,h2⟩
 |obuf t _=>intro x v hn;cases hn
 |cond t ih=>intro x v hn hb h;exact⟨fun hc=>ih _ _ hn hb (h.1 hc),h.2⟩
 |hptr=>
  rintro x v _ hb ⟨g,h1,h2⟩;have hb:x.1+1≤K:=hb;exact⟨g,(hβ _ (by omega)).trans h1,h2⟩
 |hcons a b iha ihb=>
  rintro x v hn hb ⟨u,s,h1,h2,h3,h4⟩;have hb':max (bnd a x.1) (bnd b x.2)≤K:=hb;have hn:(a.noB&&b.noB)=true:=hn;rw[zb]at hn;exact⟨u,s,h1,h2,iha _ _ hn.1 (by omega) h3,ihb _ _ hn.2 (by omega) h4⟩
 |_=>intro x v _ hb h;exact h
def zjT (K:Nat) (v:V):V:=bif v.t.noB&&qm v.bound K then v else ⟨.junk,()⟩
def zg8 (K:Nat):List (Nat×V)->List (Nat×V)
 | []=>[]
 |(s,v)::r=>(s,zjT K v)::zg8 K r
theorem zg7 (K:Nat):∀ (F:yg) (s:Nat),zn (zg8 K F) s=zjT K (zn F s)
 | [],s=>rfl
 |(d,v)::r,s=>by
  show zn ((d,zjT K v)::zg8 K r) s=_;rw[zao,zao];by_cases h:d=s
  ·rw[if_pos h,if_pos h]
  ·rw[if_neg h,if_neg h,zg7 K r s]
theorem zoA {w w':zi} {O O':Nat->Prop} {β β':Nat->zg} {K:Nat} (hk:xf w w' O O') (hβ:∀ i,i < K->zah (β' i)=zah (β i)) {v:V} {u:zg} (h:RepV w O β v.t v.x u):RepV w' O' β' (zjT K v).t (zjT K v).x u:=by
 unfold zjT;cases hc:v.t.noB&&qm v.bound K with
 |false=>trivial
 |true=>
  rw[zb]at hc;exact RepV.fixβ hβ _ _ _ hc.1 (zf hc.2) (yd hk _ _ _ h)
theorem zkX {K:Nat} (v:V):(zjT K v).bound≤K:=by
 unfold zjT;cases hc:v.t.noB&&qm v.bound K with
 |false=>exact zl _
 |true=>
  rw[zb]at hc;exact zf hc.2
def zeB (E:Owns):Nat->Bool
 |0=>true
 |k+1=>(match zj E k with
  |some o=>!o.isBuf
  |none=>false)&&zeB E k
theorem zie {E:Owns}:∀ {K:Nat},zeB E K=true->∀ i,i < K->∃ o,zj E i=some o∧o.isBuf=false
 |0,_,i,hi=>absurd hi (xp _)
 |k+1,h,i,hi=>by
  have h:((match zj E k with
   |some o=>!o.isBuf
   |none=>false)&&zeB E k)=true:=h
  rw[zb]at h;by_cases hk:i=k
  ·subst hk;have h1:=h.1;cases ho:zj E i with
   |none=>rw[ho]at h1;cases h1
   |some o=>rw[ho]at h1;exact⟨o,rfl,by simpa using h1⟩
  ·exact zie h.2 i (by omega)
def zsz (β:Nat->zg) (i:Nat):Nat:=(zah (β i)).getD 0
def inX (X:Ownr) (E:Owns) (β:Nat->zg) (K:Nat) (ex:Nat->Prop):Ownr:={ G:=X.G,X:=fun g=>X.X g∨ex g,K:=K,fix:=zsz β,D:=[],ρ:=none,B:=fun g=>∃ i o,zj E i=some o∧zah (β i)=some g }
section
variable {w0 w w1:zi} {X:Ownr} {n m K:Nat} {F F':yg} {E:Owns} {nx:Nat} {β:Nat->zg} {a a1:Act} {ex:Nat->Prop}
theorem zho (h:Sim w0 X n ⟨F,E,nx⟩ β a w) (hb:zeB E K=true) {i:Nat} (hi:i < K):∃ o,zj E i=some o∧o.isBuf=false∧zah (β i)=some (zsz β i):=by
 obtain⟨o,ho,hob⟩:=zie hb i hi;refine⟨o,ho,hob,?_⟩;have h1:=h.own i o ho;unfold zsz;cases o with
 |box t x=>obtain⟨g,_,_,e,_⟩:=h1;rw[e];rfl
 |buf te t xs=>cases hob
 |hbox ty vs=>obtain⟨g,_,e,_⟩:=h1;rw[e];rfl
theorem zhF (h:Sim w0 X n ⟨F,E,nx⟩ β a w) (hb:zeB E K=true) {g:Nat}:(inX X E β K ex).R g↔∃ i o,zj E i=some o∧zah (β i)=some g:=by
 constructor
 ·rintro (⟨i,hi,rfl⟩|h1)
  ·obtain⟨o,ho,_,hf⟩:=zho h hb hi;exact⟨i,o,ho,hf⟩
  ·exact h1
 ·exact fun h1=>.inr h1
theorem zgp (h:Sim w0 X n ⟨F,E,nx⟩ β a w) {g:Nat} (hg:∃ i o,zj E i=some o∧zah (β i)=some g):g < w.heap.size:=by
 obtain⟨i,o,ho,hf⟩:=hg;exact ((h.own i o ho).block_lt hf).2
theorem zq5 (h:Sim w0 X n ⟨F,E,nx⟩ β a w) (hX:X.Ok w0) (hbl:yJ w.heap.size w w1) (hex:∀ g,ex g->w.heap.size≤g∧g < w1.heap.size) (hb:zeB E K=true):(inX X E β K ex).Ok w1:=by
 have hs0:=h.bel.size;have hs1:=hbl.size;refine⟨fun g hg=>?_,fun g hg=>?_,fun w' hk=>?_⟩
 ·rcases hg with hg|hg
  ·have:=hX.1 g hg;refine⟨by omega,fun hr=>?_⟩;obtain⟨i,o,ho,hf⟩:=(zhF h hb).1 hr;rcases h.new i o g ho hf with h1|h1
   ·omega
   ·exact this.2 h1
  ·have:=hex g hg;refine⟨this.2,fun hr=>?_⟩;have:=zgp h ((zhF h hb).1 hr);omega
 ·have:=zgp h ((zhF h hb).1 hg);omega
 ·refine hX.2.2 w' ⟨hk.os.trans (hbl.os.trans h.bel.os),hk.tape.trans (hbl.tape.trans h.bel.tape),hk.output.trans (hbl.output.trans h.bel.output),zQ hs0 (zQ hs1 hk.size),fun k hkl hr=>?_⟩;rw[hk.block k (by omega) fun hr'=>?_,hbl.block k (by omega),h.bel.block k hkl hr];obtain⟨i,o,ho,hf⟩:=(zhF h hb).1 hr';rcases h.new i o k ho hf with h1|h1
  ·omega
  ·exact hr h1
theorem Sim.goIn (h:Sim w0 X n ⟨F,E,nx⟩ β a w) (hbl:yJ w.heap.size w w1) (hex:∀ g,ex g->w.heap.size≤g∧g < w1.heap.size) (hb:zeB E K=true) (hKn:K≤nx) (hsz:a1.tmps.size=m) (hdf:a1.defers=[]) (hfr:∀ s,RepV w (OSet X E β) β (zn F' s).t (zn F' s).x (a1.tmps.getD s undef)) (hbd:bndB nx F'=true):
  Sim w1 (inX X E β K ex) m ⟨F',E,nx⟩ β a1 w1:=by
 have hk:xf w w1 (OSet X E β) (OSet (inX X E β K ex) E β):=.of_below hbl fun g hg hg'=>by
  rcases hg' with (h1|h1)|h1
  ·exact .inl h1
  ·have:=hex g h1;omega
  ·exact .inr h1
 refine⟨hsz,hdf,jM _ _,fun s=>yd hk _ _ _ (hfr s),fun i o ho=>(h.own i o ho).keep hk fun g hg=>hbl.block g ((h.own i o ho).block_lt hg).2,fun i o g ho hg=>.inr ((zhF h hb).2 ⟨i,o,ho,hg⟩),h.inj,h.lt,⟨hKn,fun i hi=>?_⟩,fun s=>zfu hbd s,h.hE⟩;obtain⟨o,ho,hob,hf⟩:=zho h hb hi;exact⟨hf,fun o' ho'=>by
  have ho':zj E i=some o':=ho';rw[ho]at ho';cases ho';exact hob⟩
theorem Sim.goOut (h:Sim w0 X n ⟨F,E,nx⟩ β a w) (hX:X.Ok w0) (hbl:yJ w.heap.size w w1) (hex:∀ g,ex g->w.heap.size≤g∧g < w1.heap.size) (hb:zeB E K=true) (hK:X.K≤K) {σ:AS} {β':Nat->zg} {w' w'':zi} (h':Sim w1 (inX X E β K ex) m σ β' a1 w') (hk:Kept ex w' w''):
  Sim w0 X n ⟨zg8 K F,σ.E,σ.nx⟩ β' a w'':=by
 have hok:=zq5 h hX hbl hex hb;have hs0:=h.bel.size;have hs1:=hbl.size;have hs2:=h'.bel.size;have hs3:=hk.size;have hown:∀ i o g,zj σ.E i=some o->zah (β' i)=some g->w1.heap.size≤g∨∃ i o,zj E i=some o∧zah (β i)=some g:=fun i o g ho hg=>(h'.new i o g ho hg).imp id (zhF h hb).1;have hexo:∀ i o g,zj σ.E i=some o->zah (β' i)=some g->¬ ex g:=fun i o g ho hg he=>by
  have h1:=hex g he;rcases hown i o g ho hg with h2|h2
  ·omega
  ·have:=zgp h h2;omega
 have hβ:∀ i,i < K->zah (β' i)=zah (β i):=fun i hi=>by
  obtain⟨o,ho,_,hf⟩:=zho h hb hi;exact ((h'.fix.2 i hi).1).trans hf.symm
 have hk1:xf w w'' (OSet X E β) (OSet X σ.E β'):=by
  refine⟨by omega,fun g hg hn=>?_,fun g hg hg'=>?_⟩
  ·rw[hk.block g (by omega) fun he=>?_,h'.bel.block g (by omega) fun hr=>?_,hbl.block g hg]
   ·exact hn (.inr ((zhF h hb).1 hr))
   ·have:=hex g he;omega
  ·rcases hg' with h1|⟨i,o,ho,hg'⟩
   ·exact .inl h1
   ·rcases hown i o g ho hg' with h2|h2
    ·omega
    ·exact .inr h2
 have hk2:xf w' w'' (OSet (inX X E β K ex) σ.E β') (OSet X σ.E β'):=by
  refine⟨hs3,fun g hg hn=>hk.block g hg fun he=>hn (.inl (.inr he)),fun g hg hg'=>?_⟩;rcases hg' with h1|h1
  ·exact .inl (.inl h1)
  ·exact .inr h1
 refine⟨h.sz,h.df,?_,fun s=>?_,fun i o ho=>(h'.own i o ho).keep hk2 fun g hg=>hk.block g ((h'.own i o ho).block_lt hg).2 (hexo i o g ho hg),fun i o g ho hg=>?_,h'.inj,h'.lt,⟨zQ hK h'.fix.1,fun i hi=>?_⟩,fun s=>?_,h'.hE⟩
 ·refine⟨hk.os.trans (h'.bel.os.trans (hbl.os.trans h.bel.os)),hk.tape.trans (h'.bel.tape.trans (hbl.tape.trans h.bel.tape)),hk.output.trans (h'.bel.output.trans (hbl.output.trans h.bel.output)),by omega,fun k hkl hr=>?_⟩;rw[hk.block k (by omega) fun he=>?_,h'.bel.block k (by omega) fun hr'=>?_,hbl.block k (by omega),h.bel.block k hkl hr]
  ·obtain⟨i,o,ho,hf⟩:=(zhF h hb).1 hr';rcases h.new i o k ho hf with h1|h1
   ·omega
   ·exact hr h1
  ·have:=hex k he;omega
 ·show RepV w'' (OSet X σ.E β') β' (zn (zg8 K F) s).t (zn (zg8 K F) s).x _;rw[zg7];exact zoA hk1 hβ (h.fr s)
 ·rcases hown i o g ho hg with h2|⟨i',o',ho',hg'⟩
  ·exact .inl (by omega)
  ·exact h.new i' o' g ho' hg'
 ·have hi:i < X.K:=hi;exact⟨(hβ i (by omega)).trans (h.fix.2 i hi).1,(h'.fix.2 i (by show i < K;omega)).2⟩
 ·show (zn (zg8 K F) s).bound≤σ.nx;rw[zg7];exact zQ (zkX _) h'.fix.1
def Ends (e:Exit) (en:Ending):Prop:=((e= .normal∨e= .ret)∧∃ v,en= .returned v)∨∃ ch,e= .panic ch∧en= .panicked ch
theorem Sim.inl {P:zx} (h:Sim w0 X n ⟨F,E,nx⟩ β a w) (hX:X.Ok w0) (hbl:yJ w.heap.size w w1) (hex:∀ g,ex g->w.heap.size≤g∧g < w1.heap.size) (hb:zeB E K=true) (hKn:K≤nx) (hK:X.K≤K) {f:zS} {fn:Func} {c:Code} (hf:P.funcs[f]? =some fn) (hbd:fn.body=some c) (hn:fn.ntmps=m) (hres:fn.results= #[])
  {caps:Array zg} (hcl:caps.size≤m) (hfr:∀ s,RepV w (OSet X E β) β (zn F' s).t (zn F' s).x ((caps++zw (m - caps.size) undef).getD s undef)) (hbF:bndB nx F'=true) {Q:Exit->AS->Prop} (hq:∀ e σ,Q e σ->e= .normal∨e= .ret∨∃ ch,e= .panic ch)
  (hw:∀ X':Ownr,X'.Ok w1->X'.G=X.G->X'.K=K->X'.ρ=none->X'.D=[]->(∀ g,X'.R g->w0.heap.size≤g∨X.R g)->AWP P w1 X' m c ⟨F',E,nx⟩ Q):
  Calls P f caps w1 fun en w'=>w1.heap.size≤w'.heap.size∧(∀ g,ex g->w'.heap[g]? =w1.heap[g]?)∧∃ e σ,Ends e en∧Q e σ∧∀ w'',Kept ex w' w''->∃ β',Sim w0 X n ⟨zg8 K F,σ.E,σ.nx⟩ β' a w'':=by
 refine calls_of_wp hf hbd ?_;have hok:=zq5 h hX hbl hex hb;have hsim:=h.goIn (a1:={ tmps:=caps++zw (fn.ntmps - caps.size) undef,defers:=[] }) (m:=m) hbl hex hb hKn (by simp[hn];omega) rfl (by rw[hn];exact hfr) hbF;have hR:∀ g,(inX X E β K ex).R g->w0.heap.size≤g∨X.R g:=fun g hg=>by
  obtain⟨i,o,ho,hf⟩:=(zhF h hb).1 hg;exact h.new i o g ho hf
 refine wp_mono (wpIn_wide.1 (hw _ hok rfl rfl rfl rfl hR β _ w1 hsim)) fun e a' w' ⟨σ,β',h',hQ⟩=>?_;have hkx:∀ g,ex g->w'.heap[g]? =w1.heap[g]? :=fun g he=>by
  have h1:=hex g he;refine h'.bel.block g h1.2 fun hr=>?_;have:=zgp h ((zhF h hb).1 hr);omega
 have hfin:∀ en,Ends e en->w1.heap.size≤w'.heap.size∧(∀ g,ex g->w'.heap[g]? =w1.heap[g]?)∧∃ e σ,Ends e en∧Q e σ∧∀ w'',Kept ex w' w''->∃ β',Sim w0 X n ⟨zg8 K F,σ.E,σ.nx⟩ β' a w'':=fun en he=>⟨h'.bel.size,hkx,e,σ,he,hQ,fun w'' hk=>⟨β',h.goOut hX hbl hex hb hK h' hk⟩⟩;have hdf:a'.defers=[]:=h'.df;rcases hq e σ hQ with rfl|rfl|⟨ch,rfl⟩
 ·exact⟨hdf,_,results_none hres _ _ _,hfin _ (.inl ⟨.inl rfl,_,rfl⟩)⟩
 ·exact⟨hdf,_,results_none hres _ _ _,hfin _ (.inl ⟨.inr rfl,_,rfl⟩)⟩
 ·exact⟨hdf,hfin _ (.inr ⟨ch,rfl,rfl⟩)⟩
end
section
variable {P:zx} {K:Kn} {w0:zi} {X:Ownr} {n:Nat} {σ:AS} {Q:Exit->AS->Prop} {ops:Array Oper}
theorem StepA.giveO (hX:X.Ok w0) {o:Oper} {f:zS} {c:HCtr} {out:c.self.T->Args c.args->Except zg c.res.T} (hc:zfw P X.G f c out) {args:Array zF} {ts:Array zo} {a0:zF} {zas:List zF} (ho:o.op= .call ⟨.value (.func f),args,ts⟩) (hargs:args.toList=a0::zas) (hgd:o.guard=none)
  {F:yg} {E:Owns} {nx:Nat} (hσ:frzs σ zas=⟨F,E,nx⟩) {i:Nat} (hev:evO F a0=⟨.hptr,(i,(0:Nat))⟩) {ty:zo} {vs:List V} (hbox:zj E i=some (.hbox ty vs)) {et:Ty} {j:Nat} (hk:vs[c.k]? =some ⟨.obuf et,j⟩) {xsl:List c.et.T} (hbuf:zj E j=some (.buf c.te c.et xsl))
  {x:c.self.T} (hun:unD c.self ((c.back i vs).set c.k ⟨.slice c.et,xsl⟩)=some (x,[])) (hd:za4 c.args=true) (hfl:c.res.resOk=true)
  {q:List Prop} {xs:Args c.args} (hav:zeh E false (zas.map (evO F)) c.args=some (q,xs)) (hq:allP q) (hpre:allP (c.pre x xs)) (hinv:∀ w R,(∀ g,R g->w0.heap.size≤g∨X.R g)->X.G w->c.inv w R ty) {d:Nat} (hdst:o.dst=some d) (hdn:zU d n=true)
  {N:AS->Prop} {y:c.res.T} (hout:out x xs= .ok y) (h:N ⟨(d,resV c.res y)::F,(i,none)::(j,none)::E,nx⟩):vN P w0 X n ops o σ N Q:=
 StepA.give hX hc ho hargs hgd hσ hev hbox hk hbuf hun hd hfl hav hq hpre hinv hdst hdn (by rw[hout];exact h)
theorem StepA.giveE (hX:X.Ok w0) {o:Oper} {f:zS} {c:HCtr} {out:c.self.T->Args c.args->Except zg c.res.T} (hc:zfw P X.G f c out) {args:Array zF} {ts:Array zo} {a0:zF} {zas:List zF} (ho:o.op= .call ⟨.value (.func f),args,ts⟩) (hargs:args.toList=a0::zas) (hgd:o.guard=none)
  {F:yg} {E:Owns} {nx:Nat} (hσ:frzs σ zas=⟨F,E,nx⟩) {i:Nat} (hev:evO F a0=⟨.hptr,(i,(0:Nat))⟩) {ty:zo} {vs:List V} (hbox:zj E i=some (.hbox ty vs)) {et:Ty} {j:Nat} (hk:vs[c.k]? =some ⟨.obuf et,j⟩) {xsl:List c.et.T} (hbuf:zj E j=some (.buf c.te c.et xsl))
  {x:c.self.T} (hun:unD c.self ((c.back i vs).set c.k ⟨.slice c.et,xsl⟩)=some (x,[])) (hd:za4 c.args=true) (hfl:c.res.resOk=true)
  {q:List Prop} {xs:Args c.args} (hav:zeh E false (zas.map (evO F)) c.args=some (q,xs)) (hq:allP q) (hpre:allP (c.pre x xs)) (hinv:∀ w R,(∀ g,R g->w0.heap.size≤g∨X.R g)->X.G w->c.inv w R ty) {d:Nat} (hdst:o.dst=some d) (hdn:zU d n=true)
  {N:AS->Prop} {pv:zg} (hout:out x xs= .error pv) (h:Q (.panic [{ v:=pv,recovered:=false }]) ⟨F,(i,none)::(j,none)::E,nx⟩):vN P w0 X n ops o σ N Q:=
 StepA.give hX hc ho hargs hgd hσ hev hbox hk hbuf hun hd hfl hav hq hpre hinv hdst hdn (by rw[hout];exact h)
theorem StepA.conv {o:Oper} {σ':AS} {N:AS->Prop} (hs:∀ β a w,Sim w0 X n σ β a w->∃ β',Sim w0 X n σ' β' a w) (h:vN P w0 X n ops o σ' N Q):vN P w0 X n ops o σ N Q:=
 fun β a w I R hsim hI hR=>by
  obtain⟨β',h'⟩:=hs β a w hsim;exact h β' a w I R h' hI hR
theorem Sim.nilLeaf (i k:Nat) (te:zo) (τ:Ty) {ty:zo} {vs:List V} (hi:zj σ.E i=some (.hbox ty vs)) (hk:vs[k]? =some ⟨.lit,.slice none 0 0⟩) (hτ:zU 0 τ.size=true):
  ∀ β a w,Sim w0 X n σ β a w->∃ β',Sim w0 X n { σ with E:=(i,some (.hbox ty (vs.set k ⟨.obuf τ,σ.nx⟩)))::(σ.nx,some (.buf te τ []))::σ.E,nx:=σ.nx+1 } β' a w:=by
 intro β a w hs;obtain⟨β',h1,h2,h3⟩:=hs.growNil te τ (by simpa using hτ);have hlt:=hs.lt i _ hi;have hi':zj ((σ.nx,some (.buf te τ []))::σ.E) i=some (.hbox ty vs):=by rw[zaf,if_neg (by omega)];exact hi
 exact⟨β',h3.leaf hi' hk (v':=⟨.obuf τ,σ.nx⟩) (fun u hu=>by
  have hu:u= .slice none 0 0:=hu;show u=β' σ.nx;rw[hu,h2]) (zk _)⟩
theorem AL.nilLeaf (i k:Nat) (te:zo) (τ:Ty) {ty:zo} {vs:List V} {l:List Oper} (hi:zj σ.E i=some (.hbox ty vs)) (hk:vs[k]? =some ⟨.lit,.slice none 0 0⟩) (hτ:zU 0 τ.size=true)
  (h:AL P w0 X n ops l { σ with E:=(i,some (.hbox ty (vs.set k ⟨.obuf τ,σ.nx⟩)))::(σ.nx,some (.buf te τ []))::σ.E,nx:=σ.nx+1 } Q):AL P w0 X n ops l σ Q:=fun β a w hs=>by
 obtain⟨β',h'⟩:=Sim.nilLeaf i k te τ hi hk hτ β a w hs;exact h β' a w h'
def rnK (L:List (Nat×Nat)):Nat->Bool
 |0=>true
 |k+1=>Nat.beq (rnF L k) k&&rnK L k
theorem znU {L:List (Nat×Nat)}:∀ {k:Nat},rnK L k=true->∀ i,i < k->rnF L i=i
 |0,_,i,hi=>absurd hi (xp _)
 |k+1,h,i,hi=>by
  have h:(Nat.beq (rnF L k) k&&rnK L k)=true:=h;rw[zb]at h;by_cases e:i=k
  ·subst e;exact Nat.eq_of_beq_eq_true h.1
  ·exact znU h.2 i (by omega)
theorem Sim.renameK {w:zi} {β:Nat->zg} {a:Act} {L:List (Nat×Nat)} (h:Sim w0 X n σ β a w) (hL:rnOk L=true) {m:Nat} (hKL:rnK L X.K=true) (hKm:X.K≤m) (hF:bndB m (rnFr L σ.F)=true) (hE:bndE m (rnE L σ.E)=true):Sim w0 X n ⟨rnFr L σ.F,rnE L σ.E,m⟩ (fun j=>β (rnB L j)) a w:=by
 have hO:∀ g,OSet X (rnE L σ.E) (fun j=>β (rnB L j)) g->OSet X σ.E β g:=by
  rintro g (hg|⟨j,o',h1,h2⟩)
  ·exact .inl hg
  ·obtain⟨o,_,h4,_⟩:=zeE hL _ _ _ h1;exact .inr ⟨_,o,h4,h2⟩
 have hk:xf w w (OSet X σ.E β) (OSet X (rnE L σ.E) (fun j=>β (rnB L j))):=⟨zk _,fun _ _ _=>rfl,fun g _ hg=>hO g hg⟩;have hb:∀ i,i < X.K->rnB L i=i:=fun i hi=>by
  have:=zmw L i hL;rwa[znU hKL i hi]at this
 refine⟨h.sz,h.df,h.bel,fun s=>?_,fun j o' hj=>?_,fun j o' g hj hg=>?_,fun i j oi oj hi hj hij g=>?_,fun j o' hj=>zmg hE hj,⟨hKm,fun i hi=>?_⟩,fun s=>zfu hF s,fun j o' hj=>(zhq hE hj).2⟩
 ·show RepV w _ _ (zn (rnFr L σ.F) s).t (zn (rnFr L σ.F) s).x _;rw[zpN];exact znS hL _ (yd hk _ _ _ (h.fr s))
 ·obtain⟨o,_,h2,rfl⟩:=zeE hL _ _ _ hj;have h3:=(h.own _ o h2).keep hk fun _ _=>rfl;cases o with
  |hbox ty vs=>
   obtain⟨g,cs,e,k1,k2,k3⟩:=h3;exact⟨g,cs,e,k1,k2,zlv hL k3⟩
  |box t x=>exact h3
  |buf te t xs=>exact h3
 ·obtain⟨o,_,h2,_⟩:=zeE hL _ _ _ hj;exact h.new _ o g h2 hg
 ·obtain⟨p,e1,h1,_⟩:=zeE hL _ _ _ hi;obtain⟨q,e2,h2,_⟩:=zeE hL _ _ _ hj;exact h.inj _ _ p q h1 h2 (fun e=>hij (by rw[e1,e2,e])) g
 ·obtain⟨k1,k2⟩:=h.fix.2 i hi;refine⟨by show zah (β (rnB L i))=_;rw[hb i hi];exact k1,fun o' ho'=>?_⟩;obtain⟨o,_,h2,rfl⟩:=zeE hL _ _ _ ho';rw[hb i hi]at h2;rw[znT];exact k2 o h2
end
section
open Go Go.RowKit Go.Lib
section
variable {P:zx} {w:zi} {O:Nat->Prop} {β:Nat->zg}
theorem zhy (s:List UInt8):strCells ⟨s.toArray⟩=byteCells s:=by
 simp[strCells,byteCells]
theorem zli {t u e:zo} {i:TypeInfo} (ht:P.underlying t=some (.slice e)) (hu:P.underlying u=some .string) (hi:P.info? e=some i) (hz:i.zero=some (.int .u8 0)) (hsize:i.size=1) (hby:i.bytes=1) (ty:zo) {B:Nat} (hB:B≤w.heap.size) {bv:zg} {xs:List UInt8} (hown:OwnRep w O β B bv (.buf e (.int .u8) xs))
  (hOb:∀ g,zah bv=some g->O g) (s:List UInt8) (hlen:xs.length+s.length≤1000000000):
  ∃ v' w',(Builtin.append_ #[t,u] ty #[bv,.string ⟨s.toArray⟩]).run P w= .ok v' w'∧w.grownBy w' (zah bv)∧(∀ g,zah v'=some g->zah bv=some g∨w.heap.size≤g)∧
   ∀ O2,(∀ g,g < w.heap.size->O2 g->O g)->OwnRep w' O2 β B v' (.buf e (.int .u8) ((xs++s:List UInt8))):=by
 obtain⟨cs,h1,h2,h3⟩:=hown;have hss:(⟨s.toArray⟩:ByteArray).size=s.length:=by simp[ByteArray.size]
 have hob:=zdV h2;have h2:w.ownsRow B e 1 bv xs.length cs:=h2;obtain⟨v',w',k1,k2,k3,k4⟩:=run_append_own_string (P:=P) w B t u ty e i ht hu hi hz hsize hby bv xs.length cs h2 ⟨s.toArray⟩ (by rw[hss];simp only[Go.maxLen];omega) (by rw[hss];omega) hB;rw[hss]at k2;refine⟨v',w',k1,hob▸k3,?_,fun O2 hO2=>⟨cs++byteCells s,?_,by rw[show zd (xs++s:List UInt8)=xs.length+s.length from zh, <-zhy];exact k2,h3⟩⟩
 ·intro g hg;rcases h2.2 with ⟨rfl,hn⟩|⟨g',cap,cur,rfl,hbg,hg',hnc,hcm,hcs,htake⟩
  ·by_cases hm:(⟨s.toArray⟩:ByteArray).size=0
   ·have:=k4.2 ⟨rfl,hm⟩;rw[this]at hg;cases hg
   ·have hr2:=run_append_nil_string (P:=P) w t u ty e i _ ht hu hi hz ⟨s.toArray⟩ (by omega) (by omega) (by rw[hby];omega);rw[hr2]at k1;cases k1;cases hg;exact .inr (zk _)
  ·by_cases hroom:xs.length+(⟨s.toArray⟩:ByteArray).size≤cap
   ·have hcs':cur.size=cap:=by simpa using hcs
    have hr2:=run_append_room_string (P:=P) w t u ty e i ht hu hi hsize g' xs.length cap cur hg' ⟨s.toArray⟩ hroom (by omega);rw[hr2]at k1;cases k1;exact .inl hg
   ·have holds:∀ j u,cs[j]? =some u->w.cell? ((⟨g',0,none⟩:Addr).add j)=some u:=h2.cells (g:=g') rfl;have hr2:=run_append_grow_string (P:=P) w t u ty e i (.int .u8 0) ht hu hi hz ⟨g',0,none⟩ xs.length cap cs (by rw[h2.1,hsize]) holds ⟨s.toArray⟩ (by omega) (by omega) (by rw[hby];exact growslice_fits (by omega) (by omega));rw[hr2]at k1;cases k1;cases hg;exact .inr (zk _)
 ·have hk:xf w w' O O2:=⟨k3.size,fun g hgl hgo=>k3.block g hgl fun e=>hgo (hOb g (by rw[<-hob];exact e.symm)),hO2⟩;exact (h1.append (zf0 s)).mono fun x _ c=>RepC.keep hk _ _ _
end
section
variable {P:zx} {K:Kn} {w0:zi} {X:Ownr} {n:Nat} {σ:AS} {Q:Exit->AS->Prop} {ops:Array Oper}
theorem AL.appStr {t u e:zo} {ti:TypeInfo} (ht:P.underlying t=some (.slice e)) (hu:P.underlying u=some .string) (hi:P.info? e=some ti) (hz:ti.zero=some (.int .u8 0)) (hsize:ti.size=1) (hby:ti.bytes=1) {o:Oper} {rest:List Oper} {sl x:zF} (ho:o.op= .call ⟨.builtin .append,#[sl,x],#[t,u]⟩) (hgd:o.guard=none) {d:Nat} (hd:o.dst=some d) (hdn:zU d n=true)
  {F:yg} {E:Owns} {nx i:Nat} (hs:evO F sl=⟨.obuf (.int .u8),i⟩) {xs:List UInt8} (hb:zj E i=some (.buf e (.int .u8) xs)) {s:List UInt8} (hx:evO F x=⟨.str,s⟩) (hlen:xs.length+s.length≤1000000000)
  (h:AL P w0 X n ops rest ⟨(d,⟨.obuf (.int .u8),i⟩)::xk i F,(i,some (.buf e (.int .u8) ((xs++s:List UInt8))))::Owns.kill i E,nx⟩ Q):AL P w0 X n ops (o::rest) ⟨F,E,nx⟩ Q:=by
 refine qq hgd (fun c e=>by rw[ho]at e;cases e) fun β a w hsim=>?_;have hlt:d < n:=by simpa using hdn
 have eS:a.eval sl=β i:=by
  have h1:=hsim.ops sl;rw[show evO (AS.mk F E nx).F sl=_ from hs]at h1;exact h1
 have eX:a.eval x= .string ⟨s.toArray⟩:=by
  have h1:=hsim.ops x;rw[show evO (AS.mk F E nx).F x=_ from hx]at h1;exact vB.1 h1.1
 obtain⟨v',w',k1,k2,k3,k4⟩:=zli (P:=P) ht hu hi hz hsize hby o.type (zl _) (hsim.own i _ hb) (fun g hg=>.inr ⟨i,_,hb,hg⟩) s hlen;obtain⟨β',hs'⟩:=hsim.redo hb rfl k2 (bv:=v') k3 (t:=.int .u8) (o':=.buf e (.int .u8) ((xs++s:List UInt8))) (fun O _ hO=>k4 O hO) hlt;refine zbt (u:=v') (w':=w') ?_ (by rw[hd];exact⟨_,β',hs',h⟩);unfold execOp;simp only[ho,resolve,invoke,builtin,Sem.run_bind,Sem.run_pure,Result.andThen_ok,List.map_toArray,qt,List.map_nil,eS,eX,k1]
theorem StepA.step {o o':Oper} {N:AS->Prop} (heq:OpEq P o o') (hX:X.Ok w0) (hK:KnOk P X.G K) {r:List Prop×AS} (hs:znb K n ops o' σ=some r) (hp:allP r.1) (h:N r.2) (hgd:o.guard=none:=by rfl):vN P w0 X n ops o σ N Q:=by
 refine jZ hgd fun β a w hsim=>heq.wp ?_;have h1:=zgy (ops:=ops) (N:=fun a' w'=>∃ σ' β',Sim w0 X n σ' β' a' w'∧N σ') (R:=fun e a' w'=>e≠ .outgrown∧∃ σ' β',Sim w0 X n σ' β' a' w'∧Q e σ') hK hX hsim hs hp fun β' a' w' h2=>⟨r.2,β',h2,h⟩;have hg':o'.guard=none:=by rw[<-heq.guard];exact hgd
 simp only[zG,hg',if_true]at h1;rcases h1 with h1|⟨_,h1⟩
 ·exact h1
 ·obtain⟨_,_,h2,_⟩:=h1;exact absurd rfl h2
end
end
theorem u8isS:(Tryz.prog.info? 5).isSome=true:=by kernel_rfl
noncomputable def u8i:TypeInfo:=(Tryz.prog.info? 5).get u8isS
theorem zqY:Tryz.prog.info? 5=some u8i:=(Option.some_get _).symm
theorem zqW:u8i.zero=some (.int .u8 0):=by kernel_rfl
theorem zqX:u8i.size=1:=by kernel_rfl
theorem znj:u8i.bytes=1:=by kernel_rfl
theorem eqB1 (o:Oper) (x:zF) (h:o.op= .fieldAddr 105 x 1):OpEq Tryz.prog o { o with op:=.fieldAddr 133 x 1 }:=by
 refine⟨rfl,rfl,rfl,fun ev w=>?_⟩;unfold execOp;simp only[h];cases ev x<;>simp[go_sem]
@[reducible] def cWSP:HCtr:=hBl prT [107] [.str] .unit (fun x xs=>[zd x.2.1+zd xs.1≤1000000000]) fun x xs=>.ok ((),(true,((x.2.1++xs.1:List UInt8),x.2.2)))
def hCCP:List (zS×HCtr):=[(114,cCC prT [107])]
theorem tyOkP:tyOk prT [107]:=fun t h=>by
 rw[zv]at h;subst h;exact⟨by first|exact .inl rfl|exact .inr rfl,fun x=>rfl⟩
theorem zoJ:HsOk Tryz.prog gmH hCCP:=.cons (zgc prT rfl [107] tyOkP) .nil
theorem zhM:zaA Tryz.prog gmH 66 cWSP:=by
 refine zf8 (K:=gmK) zak Tryz.func66 rfl rfl (zce rfl) Tryz.call66 rfl (fun tmps w=>⟨_,by simp[results,Tryz.f66,go_sem];rfl⟩) rfl (zf rfl) (zdt prT [107]) ?_;rintro w0 ⟨G,O,K,fix,D,ρ,B⟩ ty hX hG hK hρ hD hinv ⟨b,bf,r,⟨⟩⟩ ⟨(u:List UInt8),⟨⟩⟩ hp;obtain rfl:G=gmH:=hG;obtain rfl:K=1:=hK;obtain rfl:ρ=none:=hρ;obtain rfl:D=[]:=hD;have hI:=fun w R hR hw=>(⟨zaE (ty:=ty) hX rfl hinv.1 (ty':=ty) w R hR hw,hinv.2⟩:bInv prT [107] w R ty);have hp:zd bf+u.length≤1000000000:=hp;have key:∀ b',AWP Tryz.prog w0 { G:=gmH,X:=O,K:=1,fix:=fix,D:=[],ρ:=none,B:=B } Tryz.f66.ntmps (Tryz.f66.body.getD .skip) ⟨[(0,⟨.hptr,((0:Nat),(0:Nat))⟩),(1,⟨.str,u⟩)],[(0,some (.hbox ty (adV 0 b'::⟨.obuf u8,(1:Nat)⟩:: [⟨.slice nd,r⟩]))),(1,some (.buf 5 u8 bf))],2⟩ (fun e σ=>zpm cWSP ty e σ (.ok ((),(true,((bf++u:List UInt8),r,⟨⟩))))):=by
  intro b';apply zae;refine za (za ?_);refine zaa hX zak rfl ?_ ?_
  ·trivial
  refine AWP.via (σ':=⟨[(0,⟨.hptr,((0:Nat),(0:Nat))⟩),(1,⟨.str,u⟩),(5,⟨.lit,.nilIface⟩)],[(0,some (.hbox ty (⟨.hptr,((0:Nat),(0:Nat))⟩::⟨.obuf u8,(1:Nat)⟩:: [⟨.slice nd,r⟩]))),(1,some (.buf 5 u8 bf))],2⟩) ?_ ?_
  ·cases b' with
   |true=>
    (repeat(first|apply zae|apply zac|apply zab|apply zad));refine zaj ?_;refine yc 1 hX zak zoJ rfl trivial rfl rfl trivial hI ?_;exact z6 ⟨⟨rfl,rfl,rfl,trivial⟩,⟨rfl,rfl,trivial⟩,rfl,rfl⟩
   |false=>
    (repeat(first|apply zae|apply zac|apply zab|apply zad));refine zaj ?_;refine yc 1 hX zak zoJ rfl trivial rfl rfl trivial hI ?_;exact z6 ⟨⟨rfl,rfl,rfl,trivial⟩,⟨rfl,rfl,trivial⟩,rfl,rfl⟩
  (repeat(first|apply zae|apply zac|apply zab|apply zad));refine zaj ?_;refine yA 3 hX zak rfl trivial ?_;refine jy (eqB1 _ _ rfl) hX zak rfl trivial ?_;refine yA 2 hX zak rfl trivial ?_;refine AL.appStr Tryz.underlying103 Tryz.underlying9 zqY zqW zqX znj rfl rfl rfl rfl rfl rfl rfl hp ?_;refine yA 1 hX zak rfl trivial ?_;refine jy (eqB1 _ _ rfl) hX zak rfl trivial ?_;refine zW hX zak rfl trivial ?_;(repeat(first|apply zae|apply zac|apply zal|apply zad|apply zab|refine zaa hX zak rfl trivial ?_|refine zaa hX zak rfl id ?_|refine zaa hX zak rfl ⟨id,id⟩ ?_));exact zq ⟨.inr rfl,_,rfl,u8,1,_,rfl,rfl,rfl⟩
 exact key b
@[reducible] def cWSB:HCtr:=hBl .unit [105] [.str] .unit (fun x xs=>[zd x.2.1+zd xs.1≤1000000000]) fun x xs=>.ok ((),(true,((x.2.1++xs.1:List UInt8),x.2.2)))
def hCCB:List (zS×HCtr):=[(114,cCC .unit [105])]
theorem tyOkB:tyOk .unit [105]:=fun t h=>by
 rw[zv]at h;subst h;exact⟨by first|exact .inl rfl|exact .inr rfl,fun x=>rfl⟩
theorem zoK:HsOk Tryz.prog gmH hCCB:=.cons (zgc .unit rfl [105] tyOkB) .nil
theorem zmj:zaA Tryz.prog gmH 66 cWSB:=by
 refine zf8 (K:=gmK) zak Tryz.func66 rfl rfl (zce rfl) Tryz.call66 rfl (fun tmps w=>⟨_,by simp[results,Tryz.f66,go_sem];rfl⟩) rfl (zf rfl) (zdt .unit [105]) ?_;rintro w0 ⟨G,O,K,fix,D,ρ,B⟩ ty hX hG hK hρ hD hinv ⟨b,bf,⟨⟩⟩ ⟨(u:List UInt8),⟨⟩⟩ hp;obtain rfl:G=gmH:=hG;obtain rfl:K=1:=hK;obtain rfl:ρ=none:=hρ;obtain rfl:D=[]:=hD;have hI:=fun w R hR hw=>(⟨zaE (ty:=ty) hX rfl hinv.1 (ty':=ty) w R hR hw,hinv.2⟩:bInv .unit [105] w R ty);have hp:zd bf+u.length≤1000000000:=hp;have key:∀ b',AWP Tryz.prog w0 { G:=gmH,X:=O,K:=1,fix:=fix,D:=[],ρ:=none,B:=B } Tryz.f66.ntmps (Tryz.f66.body.getD .skip) ⟨[(0,⟨.hptr,((0:Nat),(0:Nat))⟩),(1,⟨.str,u⟩)],[(0,some (.hbox ty (adV 0 b'::⟨.obuf u8,(1:Nat)⟩:: []))),(1,some (.buf 5 u8 bf))],2⟩ (fun e σ=>zpm cWSB ty e σ (.ok ((),(true,((bf++u:List UInt8),⟨⟩))))):=by
  intro b';apply zae;refine za (za ?_);refine zaa hX zak rfl ?_ ?_
  ·trivial
  refine AWP.via (σ':=⟨[(0,⟨.hptr,((0:Nat),(0:Nat))⟩),(1,⟨.str,u⟩),(5,⟨.lit,.nilIface⟩)],[(0,some (.hbox ty (⟨.hptr,((0:Nat),(0:Nat))⟩::⟨.obuf u8,(1:Nat)⟩:: []))),(1,some (.buf 5 u8 bf))],2⟩) ?_ ?_
  ·cases b' with
   |true=>
    (repeat(first|apply zae|apply zac|apply zab|apply zad));refine zaj ?_;refine yc 1 hX zak zoK rfl trivial rfl rfl trivial hI ?_;exact z6 ⟨⟨rfl,rfl,rfl,trivial⟩,⟨rfl,rfl,trivial⟩,rfl,rfl⟩
   |false=>
    (repeat(first|apply zae|apply zac|apply zab|apply zad));refine zaj ?_;refine yc 1 hX zak zoK rfl trivial rfl rfl trivial hI ?_;exact z6 ⟨⟨rfl,rfl,rfl,trivial⟩,⟨rfl,rfl,trivial⟩,rfl,rfl⟩
  (repeat(first|apply zae|apply zac|apply zab|apply zad));refine zaj ?_;refine yA 3 hX zak rfl trivial ?_;refine jy (eqB1 _ _ rfl) hX zak rfl trivial ?_;refine yA 2 hX zak rfl trivial ?_;refine AL.appStr Tryz.underlying103 Tryz.underlying9 zqY zqW zqX znj rfl rfl rfl rfl rfl rfl rfl hp ?_;refine yA 1 hX zak rfl trivial ?_;refine jy (eqB1 _ _ rfl) hX zak rfl trivial ?_;refine zW hX zak rfl trivial ?_;(repeat(first|apply zae|apply zac|apply zal|apply zad|apply zab|refine zaa hX zak rfl trivial ?_|refine zaa hX zak rfl id ?_|refine zaa hX zak rfl ⟨id,id⟩ ?_));exact zq ⟨.inr rfl,_,rfl,u8,1,_,rfl,rfl,rfl⟩
 exact key b
@[reducible] def zm9 (T:Ty) (tys:List zo):HCtr:=hBl T tys [] i64 (fun _ _=>[]) fun x _=>.ok (((x.2.1.length:Nat):Int),x)
theorem zr5:zaA Tryz.prog gmH 61 (zm9 prT [107]):=by
 refine zat (K:=gmK) zak Tryz.func61 rfl rfl (zce rfl) Tryz.call61 rfl (zf rfl) (zdt prT [107]) ?_;rintro w0 ⟨G,O,K,fix,D,ρ,B⟩ ty hX hG hK hρ hD hinv ⟨b,bf,r,⟨⟩⟩ ⟨⟩ hp;obtain rfl:G=gmH:=hG;obtain rfl:K=1:=hK;obtain rfl:ρ=none:=hρ;obtain rfl:D=[]:=hD;have key:∀ b',AWP Tryz.prog w0 { G:=gmH,X:=O,K:=1,fix:=fix,D:=[],ρ:=none,B:=B } Tryz.f61.ntmps (Tryz.f61.body.getD .skip) ⟨[(0,⟨.hptr,((0:Nat),(0:Nat))⟩)],[(0,some (.hbox ty (adV 0 b'::⟨.obuf u8,(1:Nat)⟩:: [⟨.slice nd,r⟩]))),(1,some (.buf 5 u8 bf))],2⟩ (fun e σ=>zpn gmT Tryz.f61.results.toList (zm9 prT [107]) ty e σ (.ok (((bf.length:Nat):Int),(b',bf,r,())))):=by
  intro b';apply zae;refine za (za ?_);refine zaa hX zak rfl ?_ ?_
  ·trivial
  (repeat(first|apply zae|apply zac|apply zab|apply zad));refine zaj ?_;refine yA 2 hX zak rfl trivial ?_;refine jy (eqB1 _ _ rfl) hX zak rfl trivial ?_;refine zW hX zak rfl trivial ?_;cases b' with
  |true=>exact zq ⟨.inr rfl,⟨_,rfl,u8,1,_,rfl,rfl,rfl⟩,zay rfl trivial rfl rfl rfl⟩
  |false=>exact zq ⟨.inr rfl,⟨_,rfl,u8,1,_,rfl,rfl,rfl⟩,zay rfl trivial rfl rfl rfl⟩
 exact key b
theorem zr6:zaA Tryz.prog gmH 61 (zm9 .unit [105]):=by
 refine zat (K:=gmK) zak Tryz.func61 rfl rfl (zce rfl) Tryz.call61 rfl (zf rfl) (zdt .unit [105]) ?_;rintro w0 ⟨G,O,K,fix,D,ρ,B⟩ ty hX hG hK hρ hD hinv ⟨b,bf,⟨⟩⟩ ⟨⟩ hp;obtain rfl:G=gmH:=hG;obtain rfl:K=1:=hK;obtain rfl:ρ=none:=hρ;obtain rfl:D=[]:=hD;have key:∀ b',AWP Tryz.prog w0 { G:=gmH,X:=O,K:=1,fix:=fix,D:=[],ρ:=none,B:=B } Tryz.f61.ntmps (Tryz.f61.body.getD .skip) ⟨[(0,⟨.hptr,((0:Nat),(0:Nat))⟩)],[(0,some (.hbox ty (adV 0 b'::⟨.obuf u8,(1:Nat)⟩:: []))),(1,some (.buf 5 u8 bf))],2⟩ (fun e σ=>zpn gmT Tryz.f61.results.toList (zm9 .unit [105]) ty e σ (.ok (((bf.length:Nat):Int),(b',bf,())))):=by
  intro b';apply zae;refine za (za ?_);refine zaa hX zak rfl ?_ ?_
  ·trivial
  (repeat(first|apply zae|apply zac|apply zab|apply zad));refine zaj ?_;refine yA 2 hX zak rfl trivial ?_;refine jy (eqB1 _ _ rfl) hX zak rfl trivial ?_;refine zW hX zak rfl trivial ?_;cases b' with
  |true=>exact zq ⟨.inr rfl,⟨_,rfl,u8,1,_,rfl,rfl,rfl⟩,zay rfl trivial rfl rfl rfl⟩
  |false=>exact zq ⟨.inr rfl,⟨_,rfl,u8,1,_,rfl,rfl,rfl⟩,zay rfl trivial rfl rfl rfl⟩
 exact key b
section
open Go.Shelf
set_option linter.unusedSimpArgs false
set_option linter.unusedVariables false
set_option maxHeartbeats 1000000 in
theorem zns {P:zx} {ρ:Ren} (L:Lays.n169 P ρ) (X:Builder.Extra P ρ) (b g cap:Nat) (cs cur:Array zg) (ty:zo) (l:List UInt8) (w:zi) (hbk:w.heap[b]? =some (.cells cs ty (0,0))) (h1:cs[1]? =some (.slice (some ⟨g,0,none⟩) l.length cap)) (hg:w.heap[g]? =some (.cells cur (ρ.t 5) (0,0))) (hnc:l.length≤cap) (hcm:cap≤maxLen) (hcs:cur.size=cap) (htake:cur.toList.take l.length=kJ l) (h0:l≠ []):
  Calls P (ρ.f 169) #[.pointer (some ⟨b,0,none⟩)] w fun e w'=>e= .returned (.string ⟨l.toArray⟩)∧w'=w.drew.freeze ⟨g,0,none⟩ l.length:=by
 have hl0:l.length≠0:=by simpa using h0
 have c1:w.drew.cell? ⟨b,1,none⟩=some (.slice (some ⟨g,0,none⟩) l.length cap):=by
  have:w.drew.heap[b]? =some (.cells cs ty (0,0)):=hbk;rw[Lib.cell_of_heap this];exact h1
 have hSD:(Builtin.unsafeSliceData_ #[(ρ.t 37)] (ρ.t 127) #[.slice (some ⟨g,0,none⟩) l.length cap]).run P w.drew= .ok (.pointer (some ⟨g,0,none⟩)) w.drew:=
  Lib.run_unsafeSliceData_row _ _ _ _ _ _ (by omega)
 have hUS:(Builtin.unsafeString_ #[(ρ.t 127),(ρ.t 3)] (ρ.t 9) #[.pointer (some ⟨g,0,none⟩),.int .i64 l.length]).run P w.drew= .ok (.string ⟨l.toArray⟩) (w.drew.freeze ⟨g,0,none⟩ l.length):=by
  refine Lib.run_unsafeString_row w.drew (ρ.t 127) (ρ.t 3) (ρ.t 9) (ρ.t 5) L.t127 X.cellsByte g cur.size (by have hg':w.drew.heap[g]? =some (.cells cur (ρ.t 5) (0,0)):=hg;simp[World.shape?,hg']) l h0 (by omega) (by unfold maxLen at hcm;omega) ?_;intro j x hx;have hg':w.drew.heap[g]? =some (.cells cur (ρ.t 5) (0,0)):=hg;rw[show ((⟨g,0,none⟩:Addr).add j)=⟨g,j,none⟩ from by simp[Addr.add_lit],Lib.cell_of_heap hg'];have h2:(cur.toList.take l.length)[j]? =some (.int .u8 x.toNat):=by rw[htake];simp[kJ,hx]
  rw[List.getElem?_take]at h2;split at h2
  ·simpa using h2
  ·cases h2
 have mixed:=L.mixed;have t72:=L.t72;have a72:=L.a72;have z72:=L.z72;have v72:=L.v72;have u72:=run_underlying L.t72;have t70:=L.t70;have a70:=L.a70;have z70:=L.z70;have v70:=L.v70;have u70:=run_underlying L.t70;have t37:=L.t37;have a37:=L.a37;have z37:=L.z37;have v37:=L.v37;have u37:=run_underlying L.t37;have t127:=L.t127;have a127:=L.a127;have z127:=L.z127;have v127:=L.v127;have u127:=run_underlying L.t127;have t3:=L.t3;have a3:=L.a3;have z3:=L.z3;have v3:=L.v3;have u3:=run_underlying L.t3;have t9:=L.t9;have a9:=L.a9;have z9:=L.z9;have v9:=L.v9;have u9:=run_underlying L.t9;have t5:=X.t5;have a5:=X.a5;have z5:=X.z5;have v5:=X.v5;have u5:=run_underlying X.t5
 go_enter L.f169,Body.n169_ntmps ρ
 go_wp2
 go_region_o
 all_goals (go_wp2;go_ret;exact⟨rfl,rfl⟩)
end
theorem zj5 (w:zi) (g n k:Nat) (hk:k≠g):(w.freeze ⟨g,0,none⟩ n).heap[k]? =w.heap[k]? :=by
 unfold qJ;split
 ·rfl
 ·simp only[Array.getElem?_modify];rw[if_neg (fun e=>hk e.symm)]
theorem zk0 {R:Nat->Prop} (w:zi) (g n:Nat) (hR:R g):Kept R w (w.drew.freeze ⟨g,0,none⟩ n):=by
 refine⟨?_,?_,?_,?_,fun k _ hn=>zj5 w.drew g n k fun e=>hn (e▸hR)⟩
 ·unfold qJ;split<;>rfl
 ·unfold qJ;split<;>rfl
 ·unfold qJ;split<;>rfl
 ·unfold qJ;split
  ·exact zk _
  ·show w.heap.size≤(Array.modify _ _ _).size;rw[vP];exact zk _
@[reducible] def cStrB (T:Ty) (tys:List zo):HCtr:=hBl T tys [] .str (fun x _=>[x.2.1≠ []]) fun x _=>.ok (x.2.1,x)
theorem zjm (T:Ty) (hT:T.leafD=true) (tys:List zo):zfw Tryz.prog gmH 62 (cStrB T tys) (fun x _=>.ok x.2.1):=by
 refine⟨Tryz.call62,zce hT,fun w O g cs ty x xs vs b hO hgb hg hx hbuf hrep hpre hinv hG=>?_⟩;have hvs:vs=[]:=hrep;subst hvs;have h0:x.2.1≠ []:=hpre;rw[zoe]at hx;obtain⟨u,r,rfl,hu1,hu,hr⟩:=hx;obtain⟨v,r,rfl,hv1,hv,hr⟩:=hr;have hv:v=b:=hv;subst hv;obtain⟨cells,k1,k2,k3⟩:=hbuf;have k1:=zfG k1;subst k1;have hl0:x.2.1.length≠0:=by simpa using h0
 rcases k2.2 with ⟨_,hz⟩|⟨g',cap,cur,rfl,_,hg',hnc,hcm,hcs,htake⟩
 ·exact absurd hz hl0
 rw[show Ty.size u8=1 from rfl,Nat.mul_one]at hcs htake;refine (zns Tryz.lays169 Tryz.Builder_Extra_169 g g' cap _ cur ty x.2.1 w hg rfl hg' hnc hcm hcs (by simpa [kJ] using htake) h0).mono ?_;rintro e w' ⟨rfl,rfl⟩;have hnc':zd x.2.1≤cap:=hnc;exact⟨zk0 w g' _ (.inr rfl),_,rfl,.inr fun β=>⟨rfl,by unfold maxLen at *;omega⟩⟩
section
attribute [local go_sem] Oper.semAt_some
theorem znN (e:Int×Int) (w:zi):(Instr.typeAssert (.iface 133 (.agg #[.int .i64 e.1,.int .i64 e.2])) 20 133 true).run Tryz.prog w= .ok (.tuple #[.agg #[.int .i64 e.1,.int .i64 e.2],.bool true]) w:=by kernel_rfl
set_option maxHeartbeats 2000000 in
theorem znP (g2 g3:Nat) (w:zi):CallsDIn yn 0 Tryz.prog 78 #[.pointer (some ⟨g2,0,none⟩),.pointer (some ⟨g3,0,none⟩)] .returning w fun e u' w'=>
  (∃ v,e= .returned v)∧u'= .returning∧yJ w.heap.size w w':=by
 refine callsDIn_of_wpSIn Tryz.func78 rfl trivial fun c₀ cs hu=>?_;apply wpSIn_seq;apply wpSIn_region;simp[wpOpsSIn,go_sem,recoverD,hu,Tryz.ntmps78,j0];apply wpSIn_seq;apply wpSIn_region;simp[wpOpsSIn,go_sem,j0];refine wpSIn_cond (t:=false) (by simp[Act.eval]) ?_;simp only[yi,if_false];refine wpSIn_of_wpIn rfl (wpIn_skip ?_);cases c₀
 simp_all [bodyPostS,results,Tryz.f78]
 exact zO _ _
def fixR (g2 g3 g5:Nat) (i:Nat):Nat:=if i=0 then g2 else if i=1 then g3 else g5
def sR1 (x2 x3:Int) (e:Int×Int):AS:=⟨[(0,⟨.optr i64,⟨0,i64,.here⟩⟩),(1,⟨.optr i64,⟨1,i64,.here⟩⟩),(3,⟨.optr sto,⟨2,sto,.here⟩⟩)],[(0,some (.box i64 x2)),(1,some (.box i64 x3)),(2,some (.box sto (e.1,e.2,())))],3⟩
def sR2 (e:Int×Int):AS:=⟨[],[(0,some (.box i64 e.1)),(1,some (.box i64 e.2))],3⟩
noncomputable def zpL:Code:=match Tryz.f78.body.getD .skip with
 | .seq _ (.seq _ (.cond _ c _))=>(match c with
  | .seq _ (.seq _ t)=>t
  |c=>c)
 |c=>c
theorem zpK {w1:zi} {X:Ownr} (hX:X.Ok w1) (hG:∀ w w',X.G w->yJ w.heap.size w w'->X.G w') (hK:X.K=3) (x2 x3:Int) (e:Int×Int):AWP Tryz.prog w1 X 20 zpL (sR1 x2 x3 e) (fun en σ=>en= .normal∧Fit σ (sR2 e)):=by
 have kok:KnOk Tryz.prog X.G gmK:=⟨zgb,zga,CsOk.nil,hG,RsOk.nil⟩;unfold sR1 sR2;refine AWP.ordersA dM 6 rfl (by kernel_rfl) ?_
 repeat'(first
  |exact AllN.nil
  |refine AllN.cons ⟨_,rfl,?_⟩ ?_
  |refine StepA.eval hX kok rfl trivial ?_
  |(refine OrdA.last ?_;exact⟨rfl,trivial,⟨rfl,rfl,trivial⟩,rfl,rfl⟩))
set_option maxHeartbeats 600000 in
theorem zpJ (g2 g3:Nat) (e:Int×Int) (x2 x3:Int) (t2 t3:zo) (w:zi) (h2:w.heap[g2]? =some (.cells #[.int .i64 x2] t2 (0,0))) (h3:w.heap[g3]? =some (.cells #[.int .i64 x3] t3 (0,0))) (hne:g2≠g3):
  CallsDIn yn 0 Tryz.prog 78 #[.pointer (some ⟨g2,0,none⟩),.pointer (some ⟨g3,0,none⟩)] (.panicking [{ v:=pvS e,recovered:=false }]) w fun en u' w'=>
  (∃ v,en= .returned v)∧u'= .panicking [{ v:=pvS e,recovered:=true }]∧Kept (fun g=>g=g2∨g=g3) w w'∧∃ t2 t3,w'.heap[g2]? =some (.cells #[.int .i64 e.1] t2 (0,0))∧w'.heap[g3]? =some (.cells #[.int .i64 e.2] t3 (0,0)):=by
 refine callsDIn_of_wpSIn Tryz.func78 rfl trivial fun c₀ cs hu=>?_;apply wpSIn_seq;apply wpSIn_region;simp[wpOpsSIn,go_sem,recoverD,hu,Tryz.ntmps78,j0,pvS];apply wpSIn_seq;apply wpSIn_region;simp[wpOpsSIn,go_sem,j0];refine wpSIn_cond (t:=true) (by simp[Act.eval]) ?_;simp only[if_true];apply wpSIn_seq;apply wpSIn_region;simp[wpOpsSIn,go_sem,j0,znN];apply wpSIn_seq;apply wpSIn_seq;apply wpSIn_region;simp[wpOpsSIn,go_sem,j0];refine wpSIn_cond (t:=false) (by simp[Act.eval]) ?_;simp only[yi,if_false];refine wpSIn_of_wpIn rfl (wpIn_skip ?_);simp only[j0];refine wpSIn_of_wpIn rfl ?_;have hl2:=(zm.1 h2).1;have hl3:=(zm.1 h3).1;have hbA:yJ w.heap.size w (w.alloc (.cells #[.int .i64 e.1,.int .i64 e.2] 133)):=zaY _ _;have h5:(w.alloc (.cells #[.int .i64 e.1,.int .i64 e.2] 133)).heap[w.heap.size]? =some (.cells #[.int .i64 e.1,.int .i64 e.2] 133 (0,0)):=xm _ _
 replace h2:=(hbA.block _ hl2).trans h2
 replace h3:=(hbA.block _ hl3).trans h3
 generalize w.alloc (.cells #[.int .i64 e.1,.int .i64 e.2] 133)=w1 at *
 let X:Ownr:={ G:=fun _=>True,X:=fun _=>False,K:=3,fix:=fixR g2 g3 w.heap.size }
 have hR:∀ g,X.R g->g=g2∨g=g3∨g=w.heap.size:=by
  rintro g (⟨i,hi,rfl⟩|h)
  rotate_left
  ·exact False.elim h
  have hi:i < 3:=hi;rcases (show i=0∨i=1∨i=2 by omega) with rfl|rfl|rfl
  ·exact .inl rfl
  ·exact .inr (.inl rfl)
  ·exact .inr (.inr rfl)
 have hX:X.Ok w1:=by
  refine⟨fun g h=>h.elim,fun g h=>?_,fun _ _=>trivial⟩;have:=(zm.1 h5).1;have:=hbA.size;rcases hR g h with rfl|rfl|rfl<;>omega
 let β:Nat->zg:=fun i=>.pointer (some ⟨X.fix i,0,none⟩)
 have hsim:∀ a:Act,a.tmps.size=20->a.defers=[]->a.tmps.getD 0 undef= .pointer (some ⟨g2,0,none⟩)->a.tmps.getD 1 undef= .pointer (some ⟨g3,0,none⟩)->a.tmps.getD 3 undef= .pointer (some ⟨w.heap.size,0,none⟩)->
   Sim w1 X 20 (sR1 x2 x3 e) β a w1:=fun a hsz hdf e0 e1 e3=>by
  refine Sim.boxes (X:=X) hsz hdf (fun i _=>rfl) ?_ ?_ ?_ rfl
  ·intro i j hi hj hij;have hi:i < 3:=hi;have hj:j < 3:=hj;have hij:fixR g2 g3 w.heap.size i=fixR g2 g3 w.heap.size j:=hij;unfold fixR at hij;rcases (show i=0∨i=1∨i=2 by omega) with rfl|rfl|rfl<;>rcases (show j=0∨j=1∨j=2 by omega) with rfl|rfl|rfl<;>first|rfl|(exfalso;simp at hij;omega)
  ·intro i o h;rw[zaf]at h;split at h
   ·rename_i hi;subst hi;cases h;exact⟨by show 0 < 3;omega,rfl,⟨g2,[_],_,rfl,zl _,h2,rfl⟩,fun vs e=>by cases e⟩
   rw[zaf]at h;split at h
   ·rename_i _ hi;subst hi;cases h;exact⟨by show 1 < 3;omega,rfl,⟨g3,[_],_,rfl,zl _,h3,rfl⟩,fun vs e=>by cases e⟩
   rw[zaf]at h;split at h
   ·rename_i _ _ hi;subst hi;cases h;exact⟨by show 2 < 3;omega,rfl,⟨w.heap.size,[.int .i64 e.1,.int .i64 e.2],_,rfl,zl _,h5,[.int .i64 e.1],[.int .i64 e.2],rfl,rfl,[.int .i64 e.2],[],rfl,rfl,rfl⟩,fun vs e=>by cases e⟩
   ·cases h
  ·refine zbv ⟨g2,rfl,e0⟩ (zbv ⟨g3,rfl,e1⟩ (zbv ⟨w.heap.size,rfl,e3⟩ zfE))
 refine Go.wpIn_mono (zpK hX (fun _ _ _ _=>trivial) rfl x2 x3 e β _ w1 (hsim _ ?_ ?_ ?_ ?_ ?_)) ?_
 ·simp
 ·rfl
 ·simp[zP,qA]
 ·simp[zP,qA]
 ·simp[zP,qA]
 ·rintro en a' w' ⟨σ',β',h1,rfl,hf⟩;have h6:=h1.fit hf (zk _);have hblk:∀ i,i < 3->zah (β' i)=some (fixR g2 g3 w.heap.size i):=fun i hi=>(h6.fix.2 i hi).1;obtain⟨k3,c3,y3,q4,_,q5,q6⟩:=h6.own 0 _ rfl;obtain⟨k4,c4,y4,q7,_,q8,q9⟩:=h6.own 1 _ rfl;have e0:=hblk 0 (by omega);have e1:=hblk 1 (by omega);rw[q4]at e0;rw[q7]at e1;have f0:k3=g2:=by simpa [zah,fixR] using e0
  have f1:k4=g3:=by simpa [zah,fixR] using e1
  subst f0;subst f1;have q6:c3=[.int .i64 e.1]:=q6;have q9:c4=[.int .i64 e.2]:=q9;subst q6;subst q9;refine⟨h6.df,_,rfl,_,results_none rfl _ _ _,⟨_,rfl⟩,rfl,⟨h6.bel.os.trans hbA.os,h6.bel.tape.trans hbA.tape,h6.bel.output.trans hbA.output,zQ hbA.size h6.bel.size,fun k hk hn=>(h6.bel.block k (Nat.lt_of_lt_of_le hk hbA.size) fun hr=>?_).trans (hbA.block k hk)⟩,⟨_,q5⟩,⟨_,q8⟩⟩;rcases hR k hr with h|h|h
  ·exact hn (.inl h)
  ·exact hn (.inr h)
  ·omega
theorem zaU {W:zi} {B:Nat} {v:zg} {t:zo} (h:W.heap[B]? =some (.cells #[v] t (0,0))):W.cell? ⟨B,0,none⟩=some v∧W.frozen? ⟨B,0,none⟩=false:=by
 constructor<;>simp[xD,World.frozen?,h]
theorem zeD {W:zi} {B:Nat} {v:zg} {t:zo} (v':zg) (h:W.heap[B]? =some (.cells #[v] t (0,0))):(W.setCell ⟨B,0,none⟩ v').heap[B]? =some (.cells #[v'] t (0,0)):=by
 obtain⟨hlt,hk⟩:=zm.1 h;show (W.heap.modify B _)[B]? =_;rw[yo (by rw[vP];exact hlt),vH,hk];rfl
theorem zdo {R:Nat->Prop} (W:zi) (g:Nat) (v:zg) (hR:R g):Kept R W (W.setCell ⟨g,0,none⟩ v):=
 ⟨rfl,rfl,rfl,by simp[World.setCell],fun k _ hn=>xo W ⟨g,0,none⟩ v k fun e=>hn (by rw[e];exact hR)⟩
theorem mkF (fn:Fn) (first cap:Array zg) (w:zi):(Instr.makeFunc fn first cap).run Tryz.prog w= .ok (.func fn first cap) w:=rfl
theorem zaR {w:zi} (o:Obj) {k:Nat} {x:Obj} (h:w.heap[k]? =some x):(w.alloc o).heap[k]? =some x:=((zaY w o).block _ (zm.1 h).1).trans h
theorem zbL {w:zi} (o:Obj) {k:Nat} (h:w.heap.size=k):(w.alloc o).heap[k]? =some o:=by subst h;exact xm _ _
def rdfn (N:Nat):Deferred:={ target:=.fn (.func 78) #[.pointer (some ⟨N,0,none⟩),.pointer (some ⟨N+1,0,none⟩)],args:=#[] }
theorem zgL (N:Nat) (w:zi):(invoke (rdfn N).target (rdfn N).args).run Tryz.prog w= .ok (.enter 78 #[.pointer (some ⟨N,0,none⟩),.pointer (some ⟨N+1,0,none⟩)]) w:=by
 have eg:=Tryz.call78;simp[invoke,rdfn,go_sem,eg]
def runW (w:zi):zi:=(w.alloc (.cells #[.int .i64 0] 3)).alloc (.cells #[.int .i64 0] 25)
theorem znO (w:zi):(runW w).heap.size=w.heap.size+2:=by simp[runW]
theorem zmu (w:zi):yJ w.heap.size w (runW w):=((zO _ w).alloc (zk _) _).alloc (by simp) _
def runE:Except (Int×Int) Unit->Int×Int
 | .ok _=>(0,0)
 | .error e=>e
theorem znL {tmps:Array zg} {g2 g3:Nat} {W:zi} {x y:Int} {t2 t3:zo} (h2:tmps.getD 2 undef= .pointer (some ⟨g2,0,none⟩)) (h3:tmps.getD 3 undef= .pointer (some ⟨g3,0,none⟩))
  (c2:W.heap[g2]? =some (.cells #[.int .i64 x] t2 (0,0))) (c3:W.heap[g3]? =some (.cells #[.int .i64 y] t3 (0,0))):
  (results Tryz.f43 tmps).run Tryz.prog W= .ok (.tuple #[.int .i64 x,.int .i64 y]) W:=by
 have d2:=(zaU c2).1;have d3:=(zaU c3).1;rw[zP]at h2 h3;simp[results,Tryz.f43,go_sem,h2,h3,d2,d3]
section
variable {W:zi} {tmps:Array zg} {N:Nat} {x y:Int} {t2 t3:zo} {R:Ending->zi->Prop}
theorem zpO (h2:tmps.getD 2 undef= .pointer (some ⟨N,0,none⟩)) (h3:tmps.getD 3 undef= .pointer (some ⟨N+1,0,none⟩)) (c2:W.heap[N]? =some (.cells #[.int .i64 x] t2 (0,0))) (c3:W.heap[N+1]? =some (.cells #[.int .i64 y] t3 (0,0)))
  (hr:∀ w3,Kept (fun g=>g=N∨g=N+1) W w3->R (.returned (.tuple #[.int .i64 x,.int .i64 y])) w3):LeavesInM yn 1 Tryz.prog Tryz.f43 tmps R [rdfn N] .returning W:=by
 refine⟨(by intro h;cases h),.inr ⟨fun _=>zk _,_,_,_,_,rfl,zgL N _,fun _ _=>trivial,?_⟩⟩;refine (znP N (N+1) _).mono ?_;rintro e u' w3 ⟨⟨v,rfl⟩,rfl,hb3⟩;have hl:∀ g (o:Obj),W.heap[g]? =some o->w3.heap[g]? =some o:=fun g o hg=>(hb3.block g (zm.1 hg).1).trans hg;exact⟨_,znL h2 h3 (hl _ _ c2) (hl _ _ c3),hr _ ⟨hb3.os,hb3.tape,hb3.output,hb3.size,fun k hk _=>hb3.block k hk⟩⟩
theorem zpP {er:Int×Int} (h2:tmps.getD 2 undef= .pointer (some ⟨N,0,none⟩)) (h3:tmps.getD 3 undef= .pointer (some ⟨N+1,0,none⟩)) (c2:W.heap[N]? =some (.cells #[.int .i64 x] t2 (0,0))) (c3:W.heap[N+1]? =some (.cells #[.int .i64 y] t3 (0,0)))
  (hr:∀ w3,Kept (fun g=>g=N∨g=N+1) W w3->R (.returned (.tuple #[.int .i64 er.1,.int .i64 er.2])) w3):LeavesInM yn 1 Tryz.prog Tryz.f43 tmps R [rdfn N] (.panicking [{ v:=pvS er,recovered:=false }]) W:=by
 refine⟨(by intro h;cases h),.inr ⟨fun _=>zk _,_,_,_,_,rfl,zgL N _,fun _ _=>trivial,?_⟩⟩;refine (zpJ N (N+1) er x y t2 t3 _ c2 c3 (by omega)).mono ?_;rintro en u' w3 ⟨⟨v,rfl⟩,rfl,hk3,s2,s3,d2,d3⟩;exact⟨_,znL h2 h3 d2 d3,hr _ hk3⟩
end
set_option maxHeartbeats 1000000 in
theorem znM {w:zi} {f:zS} {caps:Array zg} {R:Except (Int×Int) Unit->zi->Prop} (hen:∀ w,(callFunc f caps).run Tryz.prog w= .ok (.enter f caps) w)
  (hcall:Calls Tryz.prog f caps (runW w) fun e w'=>(runW w).heap.size≤w'.heap.size∧w'.heap[w.heap.size]? =(runW w).heap[w.heap.size]? ∧w'.heap[w.heap.size+1]? =(runW w).heap[w.heap.size+1]? ∧((∃ v,e= .returned v∧R (.ok ()) w')∨∃ er,e= .panicked [{ v:=pvS er,recovered:=false }]∧R (.error er) w')):
  Calls Tryz.prog 43 #[.func (.func f) #[] caps] w fun e w''=>∃ r w',R r w'∧(runW w).heap.size≤w'.heap.size∧Kept (fun g=>g=w.heap.size∨g=w.heap.size+1) w' w''∧e= .returned (.tuple #[.int .i64 (runE r).1,.int .i64 (runE r).2]):=by
 refine callsIn_wide.1 (zez (m:=1) Tryz.func43 rfl ?_);simp only[Tryz.ntmps43,List.size_toArray,zs,List.length_nil,Nat.reduceAdd,Nat.reduceSub,Array.replicate_succ,Array.replicate_zero,List.push_toArray,List.append_toArray,List.nil_append,List.cons_append];generalize hQ:bodyPostM yn 1 Tryz.prog Tryz.f43 _=Q;have hmf:=mkF;refine zb4 (zca (m:=1) ?_)
 gi_wp2
 refine zb4 (zca (m:=1) ?_)
 gi_wp2
 refine zb4 (zca (m:=1) ?_)
 gi_wp2
 refine⟨trivial,(callsIn_wide.2 hcall).mono ?_⟩;rintro e w' ⟨hsz,hb0,hb1,⟨v,rfl,hR⟩|⟨er,rfl,hR⟩⟩
 ·have c0:w'.heap[w.heap.size]? =some (.cells #[.int .i64 0] 3 (0,0)):=hb0.trans (zaR _ (zbL _ rfl));have c1:w'.heap[w.heap.size+1]? =some (.cells #[.int .i64 0] 25 (0,0)):=hb1.trans (zbL _ (by simp));have d0:=zaU c0;have d1:=zaU ((xo w' ⟨w.heap.size,0,none⟩ (.int .i64 0) (w.heap.size+1) (by show w.heap.size+1≠w.heap.size;omega)).trans c1)
  gi_wp2
  refine zb4 (zca (m:=1) ?_)
  gi_wp2
  have f0:=zeD (.int .i64 0) c0;have f1:=(xo w' ⟨w.heap.size,0,none⟩ (.int .i64 0) (w.heap.size+1) (by show w.heap.size+1≠w.heap.size;omega)).trans c1;have f2:=zeD (.int .i64 0) f1;have f3:=(xo (w'.setCell ⟨w.heap.size,0,none⟩ (.int .i64 0)) ⟨w.heap.size+1,0,none⟩ (.int .i64 0) w.heap.size (by show w.heap.size≠w.heap.size+1;omega)).trans f0;have k1:=zdo (R:=fun g=>g=w.heap.size∨g=w.heap.size+1) w' w.heap.size (.int .i64 0) (.inl rfl);have k2:=zdo (R:=fun g=>g=w.heap.size∨g=w.heap.size+1) (w'.setCell ⟨w.heap.size,0,none⟩ (.int .i64 0)) (w.heap.size+1) (.int .i64 0) (.inr rfl);refine zca (m:=1) (wpIn_ret ?_);rw[<-hQ];refine zpO rfl rfl f3 f2 fun w3 hk=>⟨.ok (),w',hR,hsz,?_,rfl⟩;exact (k1.trans k2).trans hk
 ·have c0:w'.heap[w.heap.size]? =some (.cells #[.int .i64 0] 3 (0,0)):=hb0.trans (zaR _ (zbL _ rfl));have c1:w'.heap[w.heap.size+1]? =some (.cells #[.int .i64 0] 25 (0,0)):=hb1.trans (zbL _ (by simp));rw[<-hQ];exact zpP rfl rfl c0 c1 fun w3 hk=>⟨.error er,w',hR,hsz,hk,rfl⟩
end
abbrev tupI:Ty:=.tup i64 (.tup i64 .unit)
section
variable {w0:zi} {X:Ownr} {n m K:Nat} {Q:Exit->AS->Prop} {ops:Array Oper} {F:yg} {E:Owns} {nx:Nat}
theorem AL.runClo (hX:X.Ok w0) (K:Nat) {o1 o2:Oper} {rest:List Oper} {f:zS} {fn:Func} {c:Code} {x0 x1:zF} {d1 d2:Nat} {ts:Array zo} (ho1:o1.op= .makeFunc (.func f) #[] #[x0,x1]) (ho2:o2.op= .call ⟨.value (.func 43),#[.tmp d1],ts⟩)
  (hg1:o1.guard=none) (hg2:o2.guard=none) (hd1:o1.dst=some d1) (hd2:o2.dst=some d2) (hn1:zU d1 n=true) (hn2:zU d2 n=true) (hb:zeB E K=true) (hKn:qm K nx=true) (hK:X.K≤K)
  (hf:Tryz.prog.funcs[f]? =some fn) (hbd:fn.body=some c) (hn:fn.ntmps=m) (hres:fn.results= #[]) (hm:qm 2 m=true) (hen:∀ (vs:Array zg) (w:zi),(callFunc f vs).run Tryz.prog w= .ok (.enter f vs) w) {v0 v1:V} (hv0:evO F x0=v0) (hv1:evO F x1=v1) (hbF:bndB nx [(0,v0),(1,v1)]=true) {N:Except (Int×Int) Unit->AS->Prop}
  (hw:∀ (w1:zi) (X':Ownr),X'.Ok w1->X'.G=X.G->X'.K=K->X'.ρ=none->X'.D=[]->(∀ g,X'.R g->w0.heap.size≤g∨X.R g)->AWP Tryz.prog w1 X' m c ⟨[(0,v0),(1,v1)],E,nx⟩ (fun e σ=>((e= .normal∨e= .ret)∧N (.ok ()) σ)∨∃ er,e= .panic [{ v:=pvS er,recovered:=false }]∧N (.error er) σ))
  (h:∀ r σ,N r σ->AL Tryz.prog w0 X n ops rest ⟨(d2,⟨tupI,((runE r).1,(runE r).2,())⟩)::(d1,⟨.junk,()⟩)::zg8 K F,σ.E,σ.nx⟩ Q):AL Tryz.prog w0 X n ops (o1::o2::rest) ⟨F,E,nx⟩ Q:=by
 intro β a w hs;have hl1:d1 < n:=by simpa using hn1
 have hl2:d2 < n:=by simpa using hn2
 have hsz:=hs.sz;refine wpListIn_plain hg1 fun K1 hK1=>zch (fun c e=>by rw[ho1]at e;cases e) ?_;have hr1:(execOp a.eval o1).run Tryz.prog w= .ok (.value (.func (.func f) #[] #[a.eval x0,a.eval x1])) w:=by
  unfold execOp;simp only[ho1];refine zdX ?_;simp[Instr.makeFunc]
 refine zbt hr1 (hK1 _ _ ?_);rw[hd1];refine wpListIn_plain hg2 fun K2 hK2=>zch (fun c e=>by rw[ho2]at e;cases e) ?_;refine zgi ho2 Tryz.call43 ?_;have hc:((#[kz d1]:Array zF).toList.map (a.put (some d1) (.func (.func f) #[] #[a.eval x0,a.eval x1])).eval).toArray= #[.func (.func f) #[] #[a.eval x0,a.eval x1]]:=by
  have:(a.put (some d1) (.func (.func f) #[] #[a.eval x0,a.eval x1])).eval (.tmp d1)= .func (.func f) #[] #[a.eval x0,a.eval x1]:=by
   show (a.put (some d1) _).tmps.getD d1 undef=_;rw[Act.put_get (by rw[hsz];exact hl1),if_pos rfl]
  rw[qt,this];rfl
 rw[hc];have hws:=znO w;have hfr:∀ s,RepV w (OSet X E β) β (zn [(0,v0),(1,v1)] s).t (zn [(0,v0),(1,v1)] s).x (((#[a.eval x0,a.eval x1]:Array zg)++zw (m - (#[a.eval x0,a.eval x1]:Array zg).size) undef).getD s undef):=by
  refine zbv ?_ (zbv ?_ zfE)
  ·have:=hs.ops x0;rw[show evO (AS.mk F E nx).F x0=_ from hv0]at this
   simpa [zP,qA] using this
  ·have:=hs.ops x1;rw[show evO (AS.mk F E nx).F x1=_ from hv1]at this
   simpa [zP,qA] using this
 have hin:=Sim.inl (K:=K) (m:=m) (w1:=runW w) (ex:=fun g=>g=w.heap.size∨g=w.heap.size+1) hs hX (zmu w) (fun g hg=>by omega) hb (zf hKn) hK hf hbd hn hres (caps:=#[a.eval x0,a.eval x1]) (by show 2≤m;exact zf hm) hfr hbF (Q:=fun e σ=>((e= .normal∨e= .ret)∧N (.ok ()) σ)∨∃ er,e= .panic [{ v:=pvS er,recovered:=false }]∧N (.error er) σ)
  (fun e σ hq=>by
    rcases hq with ⟨rfl|rfl,_⟩|⟨er,rfl,_⟩
    ·exact .inl rfl
    ·exact .inr (.inl rfl)
    ·exact .inr (.inr ⟨_,rfl⟩)) (fun X' h1 h2 h3 h4 h5 h6=>hw _ X' h1 h2 h3 h4 h5 h6)
 let R:Except (Int×Int) Unit->zi->Prop:=fun r w'=>∃ σ,N r σ∧∀ w'',Kept (fun g=>g=w.heap.size∨g=w.heap.size+1) w' w''->∃ β',Sim w0 X n ⟨zg8 K F,σ.E,σ.nx⟩ β' a w''
 refine (znM (R:=R) (hen _) (hin.mono fun en w' hr=>?_)).mono fun en w'' hr=>?_
 ·obtain⟨h1,h2,e,σ,he,hq,hfin⟩:=hr;refine⟨h1,h2 _ (.inl rfl),h2 _ (.inr rfl),?_⟩;rcases hq with ⟨hq,hN⟩|⟨er,rfl,hN⟩
  ·rcases he with ⟨_,v,rfl⟩|⟨ch,rfl,_⟩
   ·exact .inl ⟨v,rfl,σ,hN,hfin⟩
   ·rcases hq with hq|hq<;>cases hq
  ·rcases he with ⟨hq|hq,_⟩|⟨ch,hq,rfl⟩
   ·cases hq
   ·cases hq
   ·cases hq;exact .inr ⟨er,rfl,σ,hN,hfin⟩
 ·obtain⟨r,w',⟨σ,hN,hfin⟩,hsz2,hk,rfl⟩:=hr;obtain⟨β',h'⟩:=hfin w'' hk;refine⟨_,rfl,hK2 _ _ ?_⟩;rw[hd2];have h2:=h'.put (zO _ _) (d:=d1) (v:=⟨.junk,()⟩) (u:=.func (.func f) #[] #[a.eval x0,a.eval x1]) trivial (zl _) hl1;have h3:=h2.put (zO _ _) (d:=d2) (v:=⟨tupI,((runE r).1,(runE r).2,())⟩) (u:=.tuple #[.int .i64 (runE r).1,.int .i64 (runE r).2]) ⟨[_,_],rfl,_,_,rfl,rfl,_,_,rfl,rfl,rfl⟩ (zl _) hl2;exact h r σ hN β' _ w'' h3
end
theorem zlu (s:List UInt8):zbJ s 0=za1 s:=by
 unfold zbJ;rw[show ((0:Int)).toNat=0 from rfl,List.drop_zero];show (zB (za1 s),Tok.at (za1 s)+0,Tok.size (za1 s),zE (za1 s),xO (za1 s),())=za1 s;rw[Int.add_zero];rfl
def zbb (s:List UInt8):List Nd×Int×Int:=if 4000 < s.length then ([],0,2) else match zcj s with
 | .ok t=>(t.flat 0,0,0)
 | .error e=>([],e.1,e.2)
def zmc:Ctr:={ args:=[.str],pre:=fun _=>[],res:=.tup (.slice nd) (.tup i64 (.tup i64 .unit)),own:=none,out:=fun x=>((zbb x.1).1,(zbb x.1).2.1,(zbb x.1).2.2,()) }
def zpl (s:List UInt8) (r:Except (Int×Int) Unit) (σ:AS):Prop:=(∃ t,zcj s= .ok t∧r= .ok ()∧Fit σ ⟨[],[(0,some (.box .str s)),(1,some (.box (.slice nd) (t.flat 0)))],2⟩)∨∃ er,zcj s= .error er∧r= .error er∧Fit σ ⟨[],[(0,some (.box .str s)),(1,some (.box (.slice nd) []))],2⟩
theorem zhb (s:List UInt8):zcj s=(zdB s (za1 s,0)).map (·.1):=by
 unfold zcj zfN;rw[zlu]
theorem zmN {w1:zi} {X:Ownr} {s:List UInt8} (hs:s.length≤4000) (hX:X.Ok w1) (hG:X.G=gmH) (hK:X.K=2) (hρ:X.ρ=none) (hD:X.D=[]) (hinv:∀ ty,ginv w1 X.R ty):
  AWP Tryz.prog w1 X Tryz.f44.ntmps (Tryz.f44.body.getD .skip) ⟨[(0,⟨.optr .str,⟨0,.str,.here⟩⟩),(1,⟨.optr (.slice nd),⟨1,.slice nd,.here⟩⟩)],[(0,some (.box .str s)),(1,some (.box (.slice nd) []))],2⟩ (fun e σ=>((e= .normal∨e= .ret)∧zpl s (.ok ()) σ)∨∃ er,e= .panic [{ v:=pvS er,recovered:=false }]∧zpl s (.error er) σ):=by
 obtain⟨G,O,K,fix,D,ρ,B⟩:=X;obtain rfl:G=gmH:=hG;obtain rfl:K=2:=hK;obtain rfl:ρ=none:=hρ;obtain rfl:D=[]:=hD;have hI:=fun ty=>zaE (ty:=ty) hX rfl (hinv ty) (ty':=ty);have hl:s.length≤100000:=by omega
 (repeat(first|apply zae|apply zac|apply zab|apply zad));refine zaj ?_;refine yA 1 hX zak rfl trivial ?_;refine AL.fresh hX zd7 rfl rfl rfl rfl rfl rfl trivial hl ⟨rfl,rfl⟩ rfl rfl ?_;refine AL.nilLeaf 2 6 73 nd rfl rfl rfl ?_;refine jb (σ':=⟨[(0,⟨.optr .str,⟨0,.str,.here⟩⟩),(1,⟨.optr (.slice nd),⟨1,.slice nd,.here⟩⟩),(3,⟨.hptr,((2:Nat),(0:Nat))⟩)],[(0,some (.box .str s)),(1,some (.box (.slice nd) [])),(2,some (.hbox 139 [⟨.str,s⟩,⟨i64,(za1 s).1⟩,⟨i64,(za1 s).2.1⟩,⟨i64,(za1 s).2.2.1⟩,⟨.str,(za1 s).2.2.2.1⟩,⟨i64,(za1 s).2.2.2.2.1⟩,⟨.obuf nd,(3:Nat)⟩,⟨i64,(0:Int)⟩])),(3,some (.buf 73 nd []))],4⟩) ⟨⟨rfl,rfl,rfl,trivial⟩,⟨rfl,rfl,rfl,rfl,trivial⟩,rfl,rfl⟩ ?_;have hg0:GOk s (za1 s,0):=by
  have:=zdP (s:=s);unfold zfN at this;rwa[zlu]at this
 have hok:pOk (s,za1 s,[],0,()):=⟨hg0,hl⟩;have hfew:few (s,za1 s,[],0,()):=qN 0;refine AL.give hX znR rfl rfl rfl rfl rfl rfl rfl rfl rfl rfl rfl rfl trivial ⟨hok,hfew⟩ (hI 139) rfl rfl ?_;cases h3:zdB s (za1 s,0) with
 |error er=>
  rw[show zec s (stOf (s,za1 s,[],0,())) []= .error (pvS er) by unfold zec;rw[show stOf (s,za1 s,([]:List Nd),(0:Int),())=(za1 s,0) from rfl,h3];rfl];refine .inr ⟨er,rfl,.inr ⟨er,?_,rfl,trivial,⟨rfl,rfl,trivial⟩,rfl,rfl⟩⟩;rw[zhb,h3];rfl
 |ok p=>
  rw[show zec s (stOf (s,za1 s,[],0,())) []= .ok (p.1.flat 0) by unfold zec;rw[show stOf (s,za1 s,([]:List Nd),(0:Int),())=(za1 s,0) from rfl,h3];rfl];show AL _ _ _ _ _ _ _ _;refine zW hX zak rfl trivial ?_;refine .inl ⟨.inl rfl,.inl ⟨p.1,?_,rfl,trivial,⟨rfl,rfl,trivial⟩,rfl,rfl⟩⟩;rw[zhb,h3];rfl
theorem ziz:yM Tryz.prog gmH 16 zmc:=by
 refine zar (K:=gmK) zak Tryz.func16 rfl rfl Tryz.call16 rfl (by decide) (by intro h;cases h) ?_;rintro w0 O hX ⟨(s:List UInt8),⟨⟩⟩ hp;have hg0:gmH w0:=hX.2.2 w0 (jM _ _);change AWP _ _ _ _ _ ⟨[(0,⟨.str,s⟩)],[],0⟩ _;refine za (za ?_);refine zaa hX zak rfl ?_ ?_
 ·trivial
 refine za (za ?_);refine zaa hX zak rfl ?_ ?_
 ·trivial
 refine zai rfl (fun hb=>?_) (fun hb=>?_)
 ·have hb:decide (((4000:Nat):Int) < ((s.length:Nat):Int))=true:=hb;have hb:=of_decide_eq_true hb;have hP:zbb s=([],0,2):=if_pos (by omega);(repeat(first|apply zae|apply zac|apply zal|apply zad|apply zab|refine zaa hX zak rfl trivial ?_|refine zaa hX zak rfl id ?_|refine zaa hX zak rfl ⟨id,id⟩ ?_));refine zq ⟨.inr rfl,zba (by decide) rfl rfl trivial ?_⟩;show _=((zbb s).1,(zbb s).2.1,(zbb s).2.2,());rw[hP]
 have hb:decide (((4000:Nat):Int) < ((s.length:Nat):Int))=false:=hb;have hb:=of_decide_eq_false hb;have hP:zbb s=match zcj s with
  | .ok t=>(t.flat 0,0,0)
  | .error e=>([],e.1,e.2):=if_neg (by omega)
 apply zac;refine za (za ?_);refine zaa hX zak rfl ?_ ?_
 ·trivial
 refine zap (σ':=⟨[(1,⟨.optr .str,⟨0,.str,.here⟩⟩),(5,⟨.optr (.slice nd),⟨1,.slice nd,.here⟩⟩)],[(0,some (.box .str s)),(1,some (.box (.slice nd) []))],2⟩) ⟨⟨rfl,rfl,trivial⟩,⟨rfl,rfl,trivial⟩,rfl,rfl⟩ ?_;(repeat(first|apply zae|apply zac|apply zab|apply zad));refine zaj ?_;refine AL.runClo hX 2 rfl rfl rfl rfl rfl rfl rfl rfl rfl rfl (zl _) Tryz.func44 rfl rfl rfl rfl Tryz.call44 rfl rfl rfl (N:=zpl s) (fun w1 X' h1 h2 h3 h4 h5 h6=>?_) (fun r σ hN=>?_)
 ·refine zmN (by omega) h1 h2 h3 h4 h5 fun ty=>?_;obtain⟨l1,l2⟩:=zlT hg0;refine⟨fun h=>?_,fun h=>?_⟩
  ·rcases h6 _ h with h7|h7
   ·omega
   ·exact Ownr.plain_noR _ _ _ h7
  ·rcases h6 _ h with h7|h7
   ·omega
   ·exact Ownr.plain_noR _ _ _ h7
 rcases hN with ⟨t,hN,rfl,hf⟩|⟨er,hN,rfl,hf⟩
 ·skip
  refine jb (σ':=⟨[(13,⟨tupI,((0:Int),(0:Int),())⟩),(1,⟨.optr .str,⟨0,.str,.here⟩⟩),(5,⟨.optr (.slice nd),⟨1,.slice nd,.here⟩⟩)],[(0,some (.box .str s)),(1,some (.box (.slice nd) (t.flat 0)))],2⟩) ⟨⟨rfl,rfl,rfl,trivial⟩,hf.e,rfl,rfl⟩ ?_;refine zW hX zak rfl trivial ?_;(repeat(first|apply zae|apply zac|apply zal|apply zad|apply zab|refine zaa hX zak rfl trivial ?_|refine zaa hX zak rfl id ?_|refine zaa hX zak rfl ⟨id,id⟩ ?_));refine zq ⟨.inr rfl,zba (by decide) rfl rfl trivial ?_⟩;show _=((zbb s).1,(zbb s).2.1,(zbb s).2.2,());rw[hP,hN]
 ·skip
  refine jb (σ':=⟨[(13,⟨tupI,(er.1,er.2,())⟩),(1,⟨.optr .str,⟨0,.str,.here⟩⟩),(5,⟨.optr (.slice nd),⟨1,.slice nd,.here⟩⟩)],[(0,some (.box .str s)),(1,some (.box (.slice nd) []))],2⟩) ⟨⟨rfl,rfl,rfl,trivial⟩,hf.e,rfl,rfl⟩ ?_;refine zW hX zak rfl trivial ?_;(repeat(first|apply zae|apply zac|apply zal|apply zad|apply zab|refine zaa hX zak rfl trivial ?_|refine zaa hX zak rfl id ?_|refine zaa hX zak rfl ⟨id,id⟩ ?_));refine zq ⟨.inr rfl,zba (by decide) rfl rfl trivial ?_⟩;show _=((zbb s).1,(zbb s).2.1,(zbb s).2.2,());rw[hP,hN]
theorem zna (w:zi) (q:Nat) (os:Array Obj):yJ w.heap.size w (Sort.grow (w.drewN q) os):=
 ⟨rfl,rfl,rfl,by show w.heap.size≤(w.heap++os).size;rw[Array.size_append];omega,fun i hi=>by
   show (w.heap++os)[i]? =_;rw[Array.getElem?_append_left hi]⟩
abbrev deI (n:Int):List UInt8:=Lib.itoa n
theorem zl6 (k:Nat):∀ n,n < 10 ^ (k+1)->(xu n).length≤k+1:=by
 induction k with
 |zero=>
  intro n h;rw[xu];by_cases hn:n < 10
  ·rw[dif_pos hn];exact zk _
  ·exact absurd (by simpa using h) hn
 |succ k ih=>
  intro n h;rw[xu];by_cases hn:n < 10
  ·rw[dif_pos hn];simp
  ·rw[dif_neg hn,zh];have:=ih (n / 10) (by rw[Nat.pow_succ]at h;omega);simp only[List.length_singleton];omega
theorem zhk {n:Int} (h0: -100000000000000000 < n) (h1:n < 100000000000000000):(deI n).length≤18:=by
 unfold deI Lib.itoa;have e:(10:Nat) ^ (16+1)=100000000000000000:=by decide
 split
 ·rw[zs];have:=zl6 16 n.natAbs (by rw[e];omega);omega
 ·have:=zl6 16 n.toNat (by rw[e];omega);omega
def zbY (n:Int):Prop:=-100000000000000000 < n∧n < 100000000000000000
def cItoa:Ctr:={ args:=[i64],pre:=fun x=>[zbY x.1],res:=.str,own:=none,out:=fun x=>deI x.1 }
theorem zsa:yM Tryz.prog gmH 149 cItoa:=by
 refine⟨Tryz.call149,fun w O xs vs hO hr hp hG=>?_⟩;obtain⟨(n:Int),_⟩:=xs;obtain⟨v1,r1,rfl,e1,rfl⟩:=hr;have e1: [v1]=[yl .i64 n]:=e1;cases e1;obtain⟨h0,h1⟩: -100000000000000000 < n∧n < 100000000000000000:=hp;refine (Any.strconv_Itoa Tryz.laysM171 n (by omega) (by omega) w hG.1).mono ?_;rintro e w' ⟨rfl,k,os,rfl⟩;refine⟨_,rfl,zna w k os,fun β=>⟨rfl,?_⟩⟩;have:=zhk h0 h1;show (deI n).length≤maxLen;unfold maxLen;omega
def levS (k:Int):Int:=if k=9 then 1 else if k=10 then 2 else if k=8 then 3 else if 11≤k∧k≤17 then 4 else 5
def zrh:Ctr:={ args:=[i64],pre:=fun _=>[],res:=i64,own:=none,out:=fun x=>levS x.1 }
def opKd (i:Nat):Int:=(opsL.getD i ([],0,())).2.1
theorem zqf:yM Tryz.prog gmH 98 zrh:=by
 refine zar (K:=kBi) zbe Tryz.func98 rfl rfl Tryz.call98 rfl (by decide) (by intro h;cases h) ?_;rintro w0 X hX ⟨(kd:Int),⟨⟩⟩ hp;change AWP _ _ _ _ _ ⟨[(0,⟨i64,kd⟩)],[],0⟩ _;refine za (za ?_);refine zaa hX zbe rfl ?_ ?_
 ·trivial
 refine za (za ?_);refine zaa hX zbe rfl ?_ ?_
 ·trivial
 apply zab;refine yB (ι:=Nat) (fun i=>⟨[(0,⟨i64,kd⟩),(5,⟨.slice gop,opsL⟩),(6,⟨i64,(3:Int)⟩),(7,⟨i64,(i:Int)⟩)],[],0⟩) (fun i=>i≤3∧∀ j < i,opKd j≠kd) (fun i=>3 - i) 0 ⟨by omega,fun j h=>by omega⟩ ⟨⟨rfl,rfl,rfl,rfl,trivial⟩,trivial,rfl,rfl⟩ ?_;rintro i ⟨hi,hall⟩;refine za (za ?_);refine zaa hX zbe rfl ?_ ?_
 ·trivial
 apply zae;refine zai rfl (fun hb=>?_) (fun hb=>?_)
 ·have hb:decide ((i:Int) < (3:Int))=true:=hb;have hb:=of_decide_eq_true hb;have hi3:i < 3:=by omega
  have n0:(0:Int)≤(i:Int):=by omega
  have n1:(i:Int) < ((opsL.length:Nat):Int):=by show (i:Int) < ((3:Nat):Int);omega
  apply zac;apply zae;apply zab;refine za (za ?_);refine zaa hX zbe rfl ?_ ?_
  ·exact⟨n0,n1⟩
  refine za (za ?_);refine zaa hX zbe rfl ?_ ?_
  ·trivial
  refine zai rfl (fun hk=>?_) (fun hk=>?_)
  ·have hk:((opsL.getD ((i:Int)).toNat ([],0,())).2.1==kd)=true:=hk;have hk:=beq_iff_eq.1 hk;rw[zL]at hk;have q0:inR .i64 ((i:Int)+1):=zav (by omega) (by omega);refine za (za ?_);refine zaa hX zbe rfl ?_ ?_
   ·exact q0
   refine zq ⟨.inr rfl,zay rfl trivial rfl rfl ?_⟩;show (i:Int)+1=levS kd;rcases (show i=0∨i=1∨i=2 by omega) with rfl|rfl|rfl
   ·subst hk;rfl
   ·subst hk;rfl
   ·subst hk;rfl
  ·have hk:((opsL.getD ((i:Int)).toNat ([],0,())).2.1==kd)=false:=hk;have hk:(opsL.getD i ([],0,())).2.1≠kd:=fun e=>by
    rw[zL]at hk;rw[beq_iff_eq.2 e]at hk;cases hk
   apply zac;have q0:inR .i64 ((i:Int)+1):=zav (by omega) (by omega);refine za (za ?_);refine zaa hX zbe rfl ?_ ?_
   ·exact q0
   refine⟨i+1,⟨by omega,fun j hj=>?_⟩,by omega,⟨rfl,rfl,rfl,vI64 (by omega),trivial⟩,trivial,rfl,rfl⟩;by_cases e:j=i
   ·subst e;exact hk
   ·exact hall j (by omega)
 ·have hb:decide ((i:Int) < (3:Int))=false:=hb;have hb:=of_decide_eq_false hb;have h9:kd≠9:=fun e=>hall 0 (by omega) e.symm;have h10:kd≠10:=fun e=>hall 1 (by omega) e.symm;have h8:kd≠8:=fun e=>hall 2 (by omega) e.symm;apply zad;refine za (za ?_);refine zaa hX zbe rfl ?_ ?_
  ·repeat'(first|exact trivial|assumption|(refine⟨?_,?_⟩)|(intro _)|exact zf rfl|exact zu _|(simp_all [allP];done))
  refine zai rfl (fun hb=>?_) (fun hb=>?_)
  ·have hb:(bif decide ((11:Int)≤kd) then decide (kd≤17) else false)=true:=hb;rw[zcg,zb,decide_eq_true_iff,decide_eq_true_iff]at hb;(repeat(first|apply zae|apply zac|apply zal|apply zad|apply zab|refine zaa hX zbe rfl trivial ?_|refine zaa hX zbe rfl id ?_|refine zaa hX zbe rfl ⟨id,id⟩ ?_));refine zq ⟨.inr rfl,zay rfl trivial rfl rfl ?_⟩;show (4:Int)=levS kd;unfold levS;rw[if_neg h9,if_neg h10,if_neg h8,if_pos hb]
  ·have hb:(bif decide ((11:Int)≤kd) then decide (kd≤17) else false)=false:=hb;have hb:¬ (11≤kd∧kd≤17):=fun h=>by
    rw[zcg,decide_eq_true h.1,decide_eq_true h.2]at hb;cases hb
   apply zac;(repeat(first|apply zae|apply zac|apply zal|apply zad|apply zab|refine zaa hX zbe rfl trivial ?_|refine zaa hX zbe rfl id ?_|refine zaa hX zbe rfl ⟨id,id⟩ ?_));refine zq ⟨.inr rfl,zay rfl trivial rfl rfl ?_⟩;show (5:Int)=levS kd;unfold levS;rw[if_neg h9,if_neg h10,if_neg h8,if_neg hb]
def zcp (n:Int):List UInt8:=if n=1 then 32::zdW else 32::zjf
def zo4:Ctr:={ args:=[i64],pre:=fun x=>[0≤x.1,x.1≤1],res:=.str,own:=none,out:=fun x=>zcp x.1 }
theorem znG:yM Tryz.prog gmH 151 zo4:=by
 refine zar (K:=gmK) zak Tryz.func151 rfl rfl Tryz.call151 rfl (by decide) (by intro h;cases h) ?_;rintro w0 X hX ⟨(n:Int),⟨⟩⟩ hp;obtain⟨h0,h1⟩:0≤n∧n≤1:=hp;change AWP _ _ _ _ _ ⟨[(0,⟨i64,n⟩)],[],0⟩ _;have hlt:n < ((2:Nat):Int):=by omega
 have hlt2:n.toNat < 2:=by omega
 refine za (za ?_);refine zaa hX zak rfl ?_ ?_
 ·trivial
 refine za (za ?_);refine zaa hX zak rfl ?_ ?_
 ·exact⟨h0,hlt,hlt2⟩
 refine zq ⟨.inr rfl,zay rfl trivial rfl rfl ?_⟩;rcases (show n=0∨n=1 by omega) with rfl|rfl
 ·rfl
 ·rfl
theorem eqP0 (o:Oper) (x:zF) (h:o.op= .fieldAddr 107 x 0):OpEq Tryz.prog o { o with op:=.fieldAddr 133 x 0 }:=by
 refine⟨rfl,rfl,rfl,fun ev w=>?_⟩;unfold execOp;simp only[h];cases ev x<;>simp[go_sem]
theorem eqP1 (o:Oper) (x:zF) (h:o.op= .fieldAddr 107 x 1):OpEq Tryz.prog o { o with op:=.fieldAddr 73 x 2 }:=by
 refine⟨rfl,rfl,rfl,fun ev w=>?_⟩;unfold execOp;simp only[h];cases ev x<;>simp[go_sem]
@[reducible] def hW (args:List Ty) (pre:(bTy prT).T->Args args->List Prop) (out:(bTy prT).T->Args args->List UInt8):HCtr:=hBl prT [107] args .unit pre fun x xs=>.ok ((),(true,((x.2.1++out x xs:List UInt8),x.2.2)))
@[reducible] def wE (ty:zo) (b:Bool) (bf:List UInt8) (r:List Nd):Owns:=[(0,some (.hbox ty [adV 0 b,⟨.obuf u8,(1:Nat)⟩,⟨.slice nd,r⟩])),(1,some (.buf 5 u8 bf))]
def wQ (rs:List qe) (c:HCtr) (ty:zo) (r:Except zg (c.res.T×c.self.T)) (e:Exit) (σ:AS):Prop:=zpn gmT rs c ty e σ r
def zdY (l:List Int):List UInt8:=(l.map fun n=>32::deI n).flatten
def putS (s:List UInt8) (l:List Int):List UInt8:=s++zdY l
theorem zmQ (l:List Int) (n:Int):zdY (l++ [n])=zdY l++32::deI n:=by
 unfold zdY;rw[List.map_append,List.flatten_append];simp
theorem zbz {l:List Int} (h:∀ n∈l,zbY n):(zdY l).length≤19 * l.length:=by
 induction l with
 |nil=>exact zk _
 |cons n l ih=>
  have h1:=zhk (h n (z8 ..)).1 (h n (z8 ..)).2;have h2:=ih fun m hm=>h m (yO _ hm);show ((32::deI n)++zdY l).length≤_;rw[zh,zs,zs];omega
def kPt:Kn:={ gmK with C:=[(149,cItoa)] }
theorem zb7:KnOk Tryz.prog gmH kPt:=zak.with (.cons zsa .nil)
def hPt:List (zS×HCtr):=[(66,cWSP)]
theorem zlR:HsOk Tryz.prog gmH hPt:=.cons zhM .nil
@[reducible] def cPut:HCtr:=hW [.str,ints] (fun x xs=>[zd x.2.1+zd xs.1+19 * zd xs.2.1≤1000000000,∀ n∈xs.2.1,zbY n]) fun x xs=>putS xs.1 xs.2.1
theorem bufU {te:zo} {x y:List UInt8} (h:x=y):some (OObj.buf te u8 x)=some (OObj.buf te u8 y):=by rw[h]
end Go.Proofs.YtpeaigpfddalcaaGreatDoor
