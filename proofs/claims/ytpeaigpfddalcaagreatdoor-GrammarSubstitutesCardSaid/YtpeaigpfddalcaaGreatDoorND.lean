/-
  Texts of this claim, joined: what the statement's proof uses.
-/
import Derived.Test.YtpeaigpfddalcaaGreatDoorNC
set_option linter.unusedSimpArgs false
set_option linter.unusedVariables false
set_option maxRecDepth 100000
open Array renaming replicate -> zz,toList -> vB
open BitVec renaming ofInt -> yL,ofNat -> yc
open Bool renaming and_eq_false_iff -> jr,and_eq_true -> zf,and_false -> xk,eq_false_iff -> qX,false_and -> xL,false_ne_true -> yO,not_eq_false' -> xj,not_eq_true' -> zB,or_eq_false_iff -> xu,or_eq_true -> yl
open Eq renaming trans -> uu
open Go renaming FuncId -> zP,Operand -> zE,TypeId -> zn,Value -> zh,World -> zj
open Go.Lib renaming decDigits -> yo
open Go.Operand renaming const -> uW
open Go.Proofs.YtpeaigpfddalcaaGreatDoor renaming CtrOk -> yK,OwnRep -> zY
open Go.Proofs.YtpeaigpfddalcaaGreatDoor.AL renaming all -> zT,nil -> yg,own -> yn,take -> zN
open Go.Proofs.YtpeaigpfddalcaaGreatDoor.AWP renaming frz -> qZ,go -> za,loop -> yR,nilBuf -> ky,ret -> zr,via -> xz,viaQ -> qY
open Go.Proofs.YtpeaigpfddalcaaGreatDoor.Frame renaming get -> zq
open Go.Proofs.YtpeaigpfddalcaaGreatDoor.Owns renaming get -> zm
open Go.Proofs.YtpeaigpfddalcaaGreatDoor.StepA renaming eval -> xg
open Go.Proofs.YtpeaigpfddalcaaGreatDoor.Tok renaming cls -> zQ,text -> zR
open Go.Proofs.YtpeaigpfddalcaaGreatDoor.Tr renaming len_flat -> yW
open Go.Result renaming andThen_ok -> zA
open Go.Sem renaming run_bind -> zC
open Go.Utf8 renaming decode -> kM
open Go.Value renaming int -> yF
open Go.Value.agg renaming inj -> kb
open Int renaming le_refl -> xF,natCast_nonneg -> zi,toNat_natCast -> zD,toNat_of_nonneg -> qu,zero_add -> ut
open List renaming all_eq_true -> zZ,any_eq_false -> uw,append_assoc -> zp,append_nil -> zL,cons_append -> qb,drop_left -> qm,drop_length -> jd,foldl_append -> xG,foldl_cons -> vr,getD_eq_getElem?_getD -> zy,getElem?_append_left -> xX,getElem?_append_right -> xe,getElem?_eq_getElem -> zU,getElem?_map -> ym,getElem?_set -> uv,getElem?_take -> zM,getElem_mem -> xS,length -> zg,length_append -> zd,length_cons -> zt,length_nil -> zX,length_pos_iff -> qv,length_replicate -> xI,length_singleton -> zF,length_take -> yB,mem_append -> yG,mem_cons -> yd,mem_cons_of_mem -> yy,mem_cons_self -> yf,mem_singleton -> zw,nil_append -> yH,replicate -> zu,replicate_append_replicate -> ja,takeWhile_append_of_pos -> jj,takeWhile_cons -> jK,take_left -> xr,take_length -> xd,take_succ_eq_append_getElem -> zO
open Nat renaming add_sub_cancel -> vN,blt -> zW,gcd -> xY,gcd_pos_of_pos_right -> ke,lcm -> jh,le_of_ble_eq_true -> zb,le_refl -> zl,le_trans -> zH,lt_of_lt_of_le -> zK,min_eq_left -> yz,mul_div_cancel_left -> kq,not_lt_zero -> y8,sub_self -> kz,zero_add -> yp,zero_le -> zk
open Option renaming map_eq_some_iff -> zG
open Option.some renaming inj -> ya
open UInt8 renaming le_iff_toNat_le -> yX,ofNat -> yh,ofNat_toNat -> vW
open Go Go.RowKit
namespace Go.Proofs.YtpeaigpfddalcaaGreatDoor
section
def TCtrOk (P:Program) (G:zj->Prop) (f:zP) (c:TCtr):Prop:=
 (∀ (zas:Array zh) (w:zj),(callFunc f zas).run P w= .ok (.enter f zas) w)∧
 ∀ (w:zj) (O:Nat->Prop) (b u:zh) (xs:List c.et.T) (ys:Args c.args) (ps:List c.lt.T) (vs:List zh),(∀ h,O h->h < w.heap.size∧zag b≠some h)->(∀ g,zag b=some g->zag u≠some g)->
  zY w (fun g=>(O g∨zag u=some g)∨zag b=some g) (fun _=>undef) 0 b (.buf c.te c.et xs)->zY w (fun g=>(O g∨zag u=some g)∨zag b=some g) (fun _=>undef) 0 u (.buf c.le c.lt ps)->RepA w (fun g=>(O g∨zag u=some g)∨zag b=some g) c.args ys vs->allP (c.pre xs ys ps)->G w->
  Calls P f (b::(vs++ [u])).toArray w fun e w'=>∃ b',e= .returned b'∧w.grownBy w' (zag b)∧(∀ g,zag b'=some g->zag b=some g∨w.heap.size≤g)∧∀ (O2:Nat->Prop) (β:Nat->zh),(∀ g,O2 g->(O g∨zag u=some g)∨zag b'=some g)->zY w' O2 β 0 b' (.buf c.te c.et (c.out xs ys ps))
def Gu (G:zj->Prop) (w:zj) (u:zh) (w1:zj):Prop:=G w1∧∀ g,zag u=some g->g < w1.heap.size∧w1.heap[g]? =w.heap[g]?
theorem KnOk.sub {P:Program} {G G':zj->Prop} {K:Kn} (hK:KnOk P G K) (hG:∀ w,G' w->G w) (hst:∀ w w',G' w->Below w.heap.size w w'->G' w'):KnOk P G' K:=
 ⟨hK.t,hK.u,fun f c hc=>⟨(hK.c f c hc).1,fun w O xs vs hO hr hp hg=>(hK.c f c hc).2 w O xs vs hO hr hp (hG w hg)⟩,hst,fun f c hc=>⟨⟨(hK.r f c hc).1.1,fun w O g cs ty x xs vs h1 h2 h3 h4 h5 h6 h7=>(hK.r f c hc).1.2 w O g cs ty x xs vs h1 h2 h3 h4 h5 h6 (hG w h7)⟩,(hK.r f c hc).2⟩⟩
theorem KnOk.gu {P:Program} {G:zj->Prop} {K:Kn} (hK:KnOk P G K) (w:zj) (u:zh):KnOk P (Gu G w u) K:=
 hK.sub (fun _ h=>h.1) fun w1 w' h hb=>⟨hK.st w1 w' h.1 hb,fun g hg=>⟨zK (h.2 g hg).1 hb.size,(hb.block g (h.2 g hg).1).trans (h.2 g hg).2⟩⟩
abbrev trnX (G:zj->Prop) (w:zj) (O:Nat->Prop) (b u:zh):Ownr:={ G:=Gu G w u,X:=fun g=>O g∨zag u=some g,K:=0,fix:=fun _=>0,D:=[],ρ:=none,B:=fun g=>zag b=some g }
def znk (c:TCtr) (u:zh) (xs:List c.et.T) (ys:Args c.args):AS:=⟨(0,⟨.obuf c.et,(0:Nat)⟩)::(c.args.length+1,⟨.lit,u⟩)::zc4 c.args ys 1,[(0,some (.buf c.te c.et xs))],1⟩
def TDone (c:TCtr) (rs:List ResultVar) (σ:AS) (zs:List c.et.T):Prop:=∃ s i,rs=[.tmp s]∧zq σ.F s=⟨.obuf c.et,i⟩∧zm σ.E i=some (.buf c.te c.et zs)
section
variable {P:Program} {K:Kn} {n:Nat}
theorem zly {w:zj} {O:Nat->Prop} {β β':Nat->zh} {b:zh} {te:zn} {t:Ty} {xs:List t.T} (h:zY w O β 0 b (.buf te t xs)):zY w O β' 0 b (.buf te t xs):=h
theorem zkW {G:zj->Prop} (hK:KnOk P G K) {f:zP} {fn:Func} {c:Code} {ctr:TCtr} (hf:P.funcs[f]? =some fn) (hb:fn.body=some c) (hn:fn.ntmps=n)
  (hen:∀ (zas:Array zh) (w:zj),(callFunc f zas).run P w= .ok (.enter f zas) w) (hd:zaY ctr.args=true) (hlen:ctr.args.length+2≤n) (hst:∀ (w w':zj) (R:Nat->Prop),G w->Kept R w w'->G w')
  (h:∀ (w0:zj) (O:Nat->Prop) (b u:zh),(trnX G w0 O b u).Ok w0->KnOk P (Gu G w0 u) K->∀ (xs:List ctr.et.T) (ys:Args ctr.args) (ps:List ctr.lt.T),zY w0 (fun g=>(O g∨zag u=some g)∨zag b=some g) (fun _=>undef) 0 u (.buf ctr.le ctr.lt ps)->allP (ctr.pre xs ys ps)->
    AWP P w0 (trnX G w0 O b u) n c (znk ctr u xs ys) (fun e σ=>(e= .normal∨e= .ret)∧TDone ctr fn.results.toList σ (ctr.out xs ys ps))):TCtrOk P G f ctr:=by
 refine⟨hen,fun w O b u xs ys ps vs hO hbu hbuf hu hrep hp hG=>calls_of_wp hf hb ?_⟩;have hvl:=zeB _ _ _ hrep;have hub:∀ g,zag u=some g->g < w.heap.size:=fun g hg=>(hu.block_lt hg).2;have hbb:∀ g,zag b=some g->g < w.heap.size:=fun g hg=>(hbuf.block_lt hg).2;obtain⟨X,hXd⟩:∃ X,X=trnX G w O b u:=⟨_,rfl⟩;have hXR:∀ g,X.R g↔zag b=some g:=fun g=>by
  rw[hXd];exact⟨fun hg=>hg.elim (fun⟨i,hi,_⟩=>absurd hi (y8 _)) id,fun hg=>.inr hg⟩
 have hX:X.Ok w:=by
  refine⟨fun g hg=>?_,fun g hg=>hbb g ((hXR g).1 hg),fun w' hk=>?_⟩
  ·rw[hXd]at hg;rcases hg with hg|hg
   ·exact⟨(hO g hg).1,fun hr=>(hO g hg).2 ((hXR g).1 hr)⟩
   ·exact⟨hub g hg,fun hr=>hbu g ((hXR g).1 hr) hg⟩
  ·rw[hXd];refine⟨hst w w' _ hG hk,fun g hg=>⟨zK (hub g hg) hk.size,hk.block g (hub g hg) fun hr=>hbu g ((hXR g).1 hr) hg⟩⟩
 have hOO:OSet X (znk ctr u xs ys).E (fun i=>if i=0 then b else undef)=fun g=>(O g∨zag u=some g)∨zag b=some g:=by
  funext g
  apply propext;rw[hXd];constructor
  ·rintro (h1|⟨i,o,h1,h2⟩)
   ·exact .inl h1
   ·rw[show zm (znk ctr u xs ys).E i=if 0=i then some (.buf ctr.te ctr.et xs) else none from zah ..]at h1;split at h1
    ·rename_i e;subst e;exact .inr h2
    ·cases h1
  ·rintro (h1|h1)
   ·exact .inl h1
   ·exact .inr ⟨0,_,rfl,h1⟩
 have hget:∀ i o,zm (znk ctr u xs ys).E i=some o->i=0∧o= .buf ctr.te ctr.et xs:=fun i o h1=>by
  rw[show zm (znk ctr u xs ys).E i=if 0=i then some (.buf ctr.te ctr.et xs) else none from zah ..]at h1;split at h1
  ·rename_i e;cases h1;exact⟨e.symm,rfl⟩
  ·cases h1
 have hsim:Sim w X n (znk ctr u xs ys) (fun i=>if i=0 then b else undef) { tmps:=(b::(vs++ [u])).toArray++zz (fn.ntmps - (b::(vs++ [u])).toArray.size) undef,defers:=[] } w:=by
  refine⟨by simp[hn,hvl];omega,by rw[hXd],Kept.refl _ _,fun s=>?_,fun i o ho=>?_,fun i o g ho hg=>?_,fun i j oi oj hi hj hij=>?_,fun i o ho=>?_,⟨by rw[hXd];exact zk _,fun i hi=>by rw[hXd]at hi;exact absurd hi (y8 _)⟩,fun s=>?_,fun i o ho=>?_⟩
  ·rw[hOO];have e:((b::(vs++ [u])).toArray++zz (fn.ntmps - (b::(vs++ [u])).toArray.size) undef)=([b]++vs++(u::zu (fn.ntmps - (vs.length+2)) undef)).toArray:=by simp
   show RepV _ _ _ (zq ((0,⟨.obuf ctr.et,(0:Nat)⟩)::(ctr.args.length+1,⟨.lit,u⟩)::zc4 ctr.args ys 1) s).t (zq ((0,⟨.obuf ctr.et,(0:Nat)⟩)::(ctr.args.length+1,⟨.lit,u⟩)::zc4 ctr.args ys 1) s).x (((b::(vs++ [u])).toArray++zz (fn.ntmps - (b::(vs++ [u])).toArray.size) undef).getD s undef);rw[e,zat,zat];by_cases h0:0=s
   ·subst h0;rw[if_pos rfl];show _=_;simp
   ·rw[if_neg h0];by_cases h1:ctr.args.length+1=s
    ·subst h1;rw[if_pos rfl];show _=u;rw[Array.getD_eq_getD_getElem?,List.getElem?_toArray,xe (by simp[hvl])];simp[hvl]
    ·rw[if_neg h1];exact zdN (β:=_) ctr.args ys vs [b] _ hd hrep s
  ·obtain⟨rfl,rfl⟩:=hget i o ho;rw[hOO];exact hbuf
  ·obtain⟨rfl,rfl⟩:=hget i o ho;exact .inr ((hXR g).2 hg)
  ·obtain⟨rfl,_⟩:=hget i oi hi;obtain⟨rfl,_⟩:=hget j oj hj;exact absurd rfl hij
  ·obtain⟨rfl,_⟩:=hget i o ho;exact Nat.one_pos
  ·show (zq ((0,⟨.obuf ctr.et,(0:Nat)⟩)::(ctr.args.length+1,⟨.lit,u⟩)::zc4 ctr.args ys 1) s).bound≤1;rw[zat,zat];split
   ·exact zl _
   ·split
    ·exact zk _
    ·rw[zcO _ _ _ _ hd];exact zk _
  ·obtain⟨rfl,rfl⟩:=hget i o ho;exact fun _ e=>by cases e
 have hw:=h w O b u (by rw[<-hXd];exact hX) (hK.gu w u) xs ys ps hu hp;rw[<-hXd]at hw;have hw:=hw _ _ _ hsim;rw[show X.ρ=none by rw[hXd]]at hw;refine wp_mono (wpIn_wide.1 hw) fun e a' w' ⟨σ',β',h1,h2,s,i,h3,h4,h5⟩=>?_;have hres:a'.tmps.getD s undef=β' i:=by
  have:=h1.fr s;rw[h4]at this;exact this
 have hown:=h1.own _ _ h5;have hdf:a'.defers=[]:=by rw[h1.df,hXd]
 have hrs:(results fn a'.tmps).run P w'= .ok (β' i) w':=by
  rw[zfR];have hm:(fn.results.mapM (resM a'.tmps)).run P w'= .ok [a'.tmps.getD s undef].toArray w':=by
   rw[Array.mapM_eq_mapM_toList,h3];simp[resM]
  rw[zC,hm,hres];simp
 have hfin:w.grownBy w' (zag b)∧(∀ g,zag (β' i)=some g->zag b=some g∨w.heap.size≤g)∧∀ (O2:Nat->Prop) (β:Nat->zh),(∀ g,O2 g->(O g∨zag u=some g)∨zag (β' i)=some g)->zY w' O2 β 0 (β' i) (.buf ctr.te ctr.et (ctr.out xs ys ps)):=by
  refine⟨⟨h1.bel.os,h1.bel.tape,h1.bel.output,h1.bel.size,fun k hk hr=>h1.bel.block k hk fun hr'=>hr ((hXR k).1 hr').symm⟩,fun g hg=>?_,fun O2 β hO2=>zly (hown.keep ⟨zl _,fun _ _ _=>rfl,fun g _ hg=>?_⟩ fun _ _=>rfl)⟩
  ·rcases h1.new _ _ g h5 hg with h6|h6
   ·exact .inr h6
   ·exact .inl ((hXR g).1 h6)
  ·rcases hO2 g hg with h6|h6
   ·rw[hXd];exact .inl h6
   ·exact .inr ⟨i,_,h5,h6⟩
 rcases h2 with rfl|rfl
 ·exact⟨hdf,_,hrs,β' i,rfl,hfin⟩
 ·exact⟨hdf,_,hrs,β' i,rfl,hfin⟩
end
section
variable {P:Program} {w0:zj} {X:Ownr} {n:Nat} {σ:AS} {Q:Exit->AS->Prop} {ops:Array Oper}
theorem StepA.turn (hX:X.Ok w0) {o:Oper} {f:zP} {c:TCtr} (hc:TCtrOk P X.G f c) {args:Array zE} {ts:Array zn} {a0 az:zE} {zas:List zE} (ho:o.op= .call ⟨.value (.func f),args,ts⟩) (hargs:args.toList=a0::(zas++ [az])) (hgd:o.guard=none)
  {F:Frame} {E:Owns} {nx:Nat} (hσ:frzs σ zas=⟨F,E,nx⟩) {t0 tz:Ty} {i j:Nat} (hev:evO F a0=⟨.obuf t0,i⟩) {xs:List c.et.T} (hbuf:zm E i=some (.buf c.te c.et xs)) (hez:evO F az=⟨.obuf tz,j⟩) {ps:List c.lt.T} (hbz:zm E j=some (.buf c.le c.lt ps)) (hij:i≠j)
  (hd:zaY c.args=true) {q:List Prop} {ys:Args c.args} (hav:zd6 E false (zas.map (evO F)) c.args=some (q,ys)) (hq:allP q) (hpre:allP (c.pre xs ys ps)) {d:Nat} (hdst:o.dst=some d) (hdn:zW d n=true)
  {N:AS->Prop} (h:N ⟨(d,⟨.obuf c.et,i⟩)::Frame.kill i F,(i,some (.buf c.te c.et (c.out xs ys ps)))::Owns.kill i E,nx⟩):StepA P w0 X n ops o σ N Q:=by
 refine StepA.hand hgd fun β a w hs=>?_;have h1:=hs.frzs hX zas;rw[hσ]at h1;obtain⟨hen,hcall⟩:=hc;have hb0:a.eval a0=β i:=by
  have:=h1.ops a0;rw[show evO (AS.mk F E nx).F a0=_ from hev]at this;exact this
 have hbz0:a.eval az=β j:=by
  have:=h1.ops az;rw[show evO (AS.mk F E nx).F az=_ from hez]at this;exact this
 obtain⟨O,hO⟩:∃ O:Nat->Prop,O=fun k=>OSet X E β k∧zag (β i)≠some k∧zag (β j)≠some k:=⟨_,rfl⟩;have hset:(fun g=>(O g∨zag (β j)=some g)∨zag (β i)=some g)=OSet X E β:=by
  funext k
  apply propext;rw[hO];constructor
  ·rintro ((hk|hk)|hk)
   ·exact hk.1
   ·exact .inr ⟨j,_,hbz,hk⟩
   ·exact .inr ⟨i,_,hbuf,hk⟩
  ·intro hk;by_cases e:zag (β i)=some k
   ·exact .inr e
   ·by_cases e':zag (β j)=some k
    ·exact .inl (.inr e')
    ·exact .inl (.inl ⟨hk,e,e'⟩)
 have hvs:RepVs w (OSet X E β) β (zas.map (evO F)) (zas.map a.eval):=by
  refine⟨by simp,fun i v hv=>?_⟩;rw[ym]at hv;obtain⟨z,hz,rfl⟩:=zG.1 hv;exact⟨a.eval z,by rw[ym,hz];rfl,h1.ops z⟩
 have ha:=zdt (B:=0) h1.own hd hav hq hvs.2 hvs.1;have ha:RepA w (OSet X E β) c.args ys (zas.map a.eval):=by
  have e:(fun k=>false=false∧OSet X E β k)=OSet X E β:=by funext k;simp
  rwa[e]at ha
 have hcl:=hcall w O (β i) (β j) xs ys ps (zas.map a.eval) (fun k hk=>by rw[hO]at hk;exact⟨h1.hO hX k hk.1,hk.2.1⟩) (fun g hg=>h1.inj i j _ _ hbuf hbz hij g hg) (by rw[hset];exact zly (h1.own _ _ hbuf)) (by rw[hset];exact zly (h1.own _ _ hbz)) (by rw[hset];exact ha) hpre (hX.2.2 w h1.bel);have hrun:(execOp a.eval o).run P w= .ok (.enter f (β i::(zas.map a.eval++ [β j])).toArray) w:=by
  have em:args.map a.eval++ #[]=(β i::(zas.map a.eval++ [β j])).toArray:=by
   rw[<-zdk,hargs,List.map_cons,List.map_append,List.map_singleton,hb0,hbz0];simp
  have hx:a.eval (.func f)= .func (.func f) #[] #[]:=rfl;rw[<-em];unfold execOp;simp[ho,resolve,invoke,Deferred.ofValue,hx,hen]
 unfold Oper.wp;rw[hrun];refine hcl.mono fun e w' hr=>?_;obtain⟨b',rfl,hgr,hnew,hown⟩:=hr;have hlt:d < n:=by simpa using hdn
 have h2:=h1.redo0 (o':=.buf c.te c.et (c.out xs ys ps)) hbuf rfl hgr hnew (hown _ _ fun g hg=>by
  rcases hg with hg|⟨m,om,hm,hbm⟩
  ·have h3:=hX.1 g hg;refine .inl (.inl ?_);rw[hO];refine⟨.inl hg,fun e=>?_,fun e=>?_⟩
   ·rcases h1.new i _ g hbuf e with h4|h4
    ·omega
    ·exact h3.2 h4
   ·rcases h1.new j _ g hbz e with h4|h4
    ·omega
    ·exact h3.2 h4
  ·rw[zah]at hm;by_cases him:i=m
   ·subst him;simp at hbm;exact .inr hbm
   ·rw[if_neg him,Owns.get_kill]at hm;obtain⟨pm,hm1,hm2⟩:=zG.1 hm;simp[Ne.symm him]at hbm;by_cases hjm:j=m
    ·subst hjm;exact .inl (.inr hbm)
    ·refine .inl (.inl ?_);rw[hO];exact⟨.inr ⟨m,pm,hm1,hbm⟩,fun e=>h1.inj i m _ _ hbuf hm1 him g e hbm,fun e=>h1.inj j m _ _ hbz hm1 hjm g e hbm⟩)
 show ∃ σ' β',Sim w0 X n σ' β' (a.put o.dst b') w'∧_;rw[hdst];refine⟨_,_,h2.put (Below.refl _ _) (v:=⟨.obuf c.et,i⟩) (u:=b') ?_ ?_ hlt,h⟩
 ·show b'=if i=i then b' else β i
  rw[if_pos rfl]
 ·exact h1.lt i _ hbuf
theorem AL.turn (hX:X.Ok w0) {o:Oper} {rest:List Oper} {f:zP} {c:TCtr} (hc:TCtrOk P X.G f c) {args:Array zE} {ts:Array zn} {a0 az:zE} {zas:List zE} (ho:o.op= .call ⟨.value (.func f),args,ts⟩) (hargs:args.toList=a0::(zas++ [az])) (hgd:o.guard=none)
  {F:Frame} {E:Owns} {nx:Nat} (hσ:frzs σ zas=⟨F,E,nx⟩) {t0 tz:Ty} {i j:Nat} (hev:evO F a0=⟨.obuf t0,i⟩) {xs:List c.et.T} (hbuf:zm E i=some (.buf c.te c.et xs)) (hez:evO F az=⟨.obuf tz,j⟩) {ps:List c.lt.T} (hbz:zm E j=some (.buf c.le c.lt ps)) (hij:i≠j)
  (hd:zaY c.args=true) {q:List Prop} {ys:Args c.args} (hav:zd6 E false (zas.map (evO F)) c.args=some (q,ys)) (hq:allP q) (hpre:allP (c.pre xs ys ps)) {d:Nat} (hdst:o.dst=some d) (hdn:zW d n=true)
  (h:AL P w0 X n ops rest ⟨(d,⟨.obuf c.et,i⟩)::Frame.kill i F,(i,some (.buf c.te c.et (c.out xs ys ps)))::Owns.kill i E,nx⟩ Q):AL P w0 X n ops (o::rest) σ Q:=
 AL.step1 (fun c e=>by rw[ho]at e;cases e) (StepA.turn hX hc ho hargs hgd hσ hev hbuf hez hbz hij hd hav hq hpre hdst hdn h)
theorem AL.litAt (hX:X.Ok w0) {G:zj->Prop} {u:zh} (hG:X.G=Gu G w0 u) {O3:Nat->Prop} {β0:Nat->zh} {le:zn} {ps:List Int} (hu:zY w0 O3 β0 0 u (.buf le (.int .i64) ps)) {o1 o2:Oper} {rest:List Oper} {st te it:zn} {x i:zE} {d1 d2:Nat}
  (ho1:o1.op= .indexAddr st x i) (hg1:o1.guard=none) (hd1:o1.dst=some d1) (hn1:zW d1 n=true) (ho2:o2.op= .load it (.tmp d1)) (hg2:o2.guard=none) (hd2:o2.dst=some d2) (hn2:zW d2 n=true) (hs:P.underlying st=some (.slice te)) (hsz:∀ w,(Go.sizeOf te).run P w= .ok 1 w) (hag:∀ w,(Go.isAgg it).run P w= .ok false w)
  {F:Frame} {E:Owns} {nx:Nat} (hx:evO F x=⟨.lit,u⟩) {k:Int} (hi:evO F i=⟨.int .i64,k⟩) (h0:0≤k) (h1:k < ((ps.length:Nat):Int)) (h:∀ pv,AL P w0 X n ops rest ⟨(d2,⟨.int .i64,ps.getD k.toNat 0⟩)::(d1,⟨.lit,pv⟩)::F,E,nx⟩ Q):AL P w0 X n ops (o1::o2::rest) ⟨F,E,nx⟩ Q:=by
 obtain⟨cs,hL,⟨hcl,hrow⟩,_⟩:=hu;have hlt:k.toNat < ps.length:=by omega
 rcases hrow with ⟨_,hz⟩|⟨g,cap,cur,rfl,_,hcur,hcap,_,hsize,htake⟩
 ·have hz:ps.length=0:=hz;omega
 have hcell:cur[k.toNat]? =some (.int .i64 (ps.getD k.toNat 0)):=by
  have h2:=zg0 (t:=.int .i64) hL hlt;have h3:(cs.drop (k.toNat * 1)).take 1=[.int .i64 (ps.getD k.toNat 0)]:=h2;rw[Nat.mul_one]at h3;have h4:cs[k.toNat]? =some (.int .i64 (ps.getD k.toNat 0)):=by
   have:=congrArg (fun l=>l[0]?) h3
   simpa [zM,List.getElem?_drop] using this
  rw[<-htake,zM]at h4;split at h4
  ·simpa using h4
  ·cases h4
 refine AL.hand hg1 (fun c e=>by rw[ho1]at e;cases e) fun β a w hs1=>?_;have hev:=zl1 hs1 hx;have h2:=hs1.ops i;rw[show evO (AS.mk F E nx).F i=_ from hi]at h2;have h3: [a.eval i]=[.int .i64 k]:=(RepD.scalar (t:=.int .i64) rfl).1 h2;have h3:=List.head_eq_of_cons_eq h3;refine ziJ hd1 hn1 (v:=⟨.lit,.pointer (some ⟨g,k.toNat,none⟩)⟩) (zk _) (N:=fun σ'=>AL P w0 X n ops (o2::rest) σ' Q) ?_ hs1 (u:=.pointer (some ⟨g,k.toNat,none⟩)) ?_ rfl
 rotate_left
 ·unfold execOp;simp only[ho1];refine zdH ?_;rw[hev,h3,zd3 hs (hsz w) h0 h1];simp[Addr.add];intro hk;omega
 refine AL.hand hg2 (fun c e=>by rw[ho2]at e;cases e) fun β a w hs2=>?_;have hpe:a.eval (.tmp d1)= .pointer (some ⟨g,k.toNat,none⟩):=zl1 hs2 (by show zq _ _=_;rw[zat,if_pos rfl]);have hgu:X.G w:=hX.2.2 w hs2.bel;rw[hG]at hgu;obtain⟨_,hgu2⟩:=hgu.2 g rfl;have hcl2:w.cell? ⟨g,k.toNat,none⟩=some (.int .i64 (ps.getD k.toNat 0)):=by simp[World.cell?,hgu2,hcur,hcell]
 refine ziJ hd2 hn2 (v:=⟨.int .i64,ps.getD k.toNat 0⟩) (zk _) (N:=fun σ'=>AL P w0 X n ops rest σ' Q) (h _) hs2 (u:=.int .i64 (ps.getD k.toNat 0)) ?_ ((RepD.scalar (t:=.int .i64) rfl).2 rfl);unfold execOp;simp only[ho2];refine zdH ?_;rw[hpe];simp only[Instr.loadAt,Instr.sureAddr,zC,Sem.run_pure,zA];unfold Go.loadVar;simp only[zC,hag,zA];simp[load,Sem.run,hcl2]
end
set_option maxHeartbeats 400000 in
theorem zmO:yK Tryz.prog gmG 74 zhJ:=by
 refine zaq (K:=gmK) zaC Tryz.func74 rfl rfl Tryz.call74 rfl (by decide) (by intro h;cases h) ?_;rintro w0 X hX _ hp;change AWP _ _ _ _ _ ⟨[],[],0⟩ _;apply zae;refine za (za ?_);refine zaa hX zaC rfl ?_ ?_
 ·trivial
 refine za (za ?_);refine zaa hX zaC rfl ?_ ?_
 ·trivial
 refine zap (σ':=⟨[(0,⟨.optr (.arr 19 shp),⟨0,.arr 19 shp,.here⟩⟩)],[(0,some (.box (.arr 19 shp) zce))],1⟩) ⟨⟨by kernel_rfl,trivial⟩,⟨by kernel_rfl,trivial⟩,rfl,rfl⟩ ?_;exact zr ⟨.inr rfl,zaw rfl trivial rfl rfl rfl⟩
def zpQ:Ctr:={ args:=[ints],pre:=fun x=>[zg x.1≤1000],res:=ints,own:=none,out:=fun x=>x.1 }
theorem zpG:yK Tryz.prog gmG 127 zpQ:=by
 refine zaq (K:=gmK) zaC Tryz.func127 rfl rfl Tryz.call127 rfl (by decide) (by intro h;cases h) ?_;rintro w0 X hX ⟨(l:List Int),_⟩ hp;have hp:l.length≤1000:=hp;change AWP _ _ _ _ _ ⟨[(0,⟨ints,l⟩)],[],0⟩ _;(repeat(first|apply zae|apply zab|apply zal|apply zad|apply zac|refine zaa hX zaC rfl trivial ?_|refine zaa hX zaC rfl id ?_|refine zaa hX zaC rfl ⟨id,id⟩ ?_));refine AWP.nilEq (e:=3) hX zaC [_] _ rfl rfl rfl rfl rfl (by kernel_rfl) rfl trivial rfl (fun b hb=>?_);refine zaf rfl (fun h=>?_) (fun h=>?_)
 ·have h:b=true:=h;obtain rfl:=hb h;(repeat(first|apply zae|apply zab|apply zal|apply zad|apply zac|refine zaa hX zaC rfl trivial ?_|refine zaa hX zaC rfl id ?_|refine zaa hX zaC rfl ⟨id,id⟩ ?_));exact zr ⟨.inr rfl,zaw rfl trivial rfl rfl rfl⟩
 ·refine za (za ?_);refine zaa hX zaC rfl ?_ ?_
  ·show 0+l.length≤1000000000;omega
  refine qZ hX 2 ?_;exact zr ⟨.inr rfl,zaw rfl trivial rfl rfl rfl⟩
def opsK (k:Int):Int:=if k=8∨k=9∨k=10∨k=17 then 2 else if 11≤k∧k≤16 then 1 else 0
def putN (n:Nd) (ps:List Int):Nd:=if opsK n.1=2 then zbs n (ps.getD n.2.2.1.toNat 0) (ps.getD n.2.2.2.1.toNat 0) else if opsK n.1=1 then setL n (ps.getD n.2.2.1.toNat 0) else n
def cAddT:TCtr:={ te:=73,et:=nd,args:=[nd],le:=3,lt:=i64,pre:=fun xs y ps=>[zg xs≤100000,zg (ndI y.1)≤1000,1≤ndK y.1,ndK y.1≤18,1≤opsK (ndK y.1)->0≤ndL y.1∧ndL y.1 < ((ps.length:Nat):Int),opsK (ndK y.1)=2->0≤ndR y.1∧ndR y.1 < ((ps.length:Nat):Int)],out:=fun xs y ps=>xs++ [putN y.1 ps] }
theorem znY {k:Int} (h0:1≤k) (h1:k≤18):(List.getD zce k.toNat (za8 shp)).1=opsK k:=by
 rcases (show k=1∨k=2∨k=3∨k=4∨k=5∨k=6∨k=7∨k=8∨k=9∨k=10∨k=11∨k=12∨k=13∨k=14∨k=15∨k=16∨k=17∨k=18 by omega) with h|h|h|h|h|h|h|h|h|h|h|h|h|h|h|h|h|h<;>(subst h;decide)
def kAddT:Kn:={ gmK with C:=[(74,zhJ),(127,zpQ)] }
theorem zq4:KnOk Tryz.prog gmG kAddT:=zaC.with (.cons zmO <| .cons zpG .nil)
theorem ztg (w:zj):(Go.sizeOf 3).run Tryz.prog w= .ok 1 w:=by kernel_rfl
theorem zth (w:zj):(Go.isAgg 3).run Tryz.prog w= .ok false w:=by kernel_rfl
theorem zpZ:TCtrOk Tryz.prog gmG 76 cAddT:=by
 refine zkW zq4 Tryz.func76 rfl rfl Tryz.call76 rfl (zb rfl) (fun _ _ _ _ _=>trivial) ?_;rintro w0 O b u hX hK (xs:List Nd) ⟨(m:Nd),_⟩ (ps:List Int) hu hp;obtain⟨hl,hi,hk0,hk1,hL,hR⟩:xs.length≤100000∧(ndI m).length≤1000∧1≤ndK m∧ndK m≤18∧(1≤opsK (ndK m)->0≤ndL m∧ndL m < ((ps.length:Nat):Int))∧(opsK (ndK m)=2->0≤ndR m∧ndR m < ((ps.length:Nat):Int)):=hp;obtain⟨(k:Int),(c:Int),(l:Int),(r:Int),(x:Int),(y:Int),(li:List Int),(nm:List UInt8),⟨⟩⟩:=m;have hi:li.length≤1000:=hi;have hk0:1≤k:=hk0;have hk1:k≤18:=hk1;have hL:1≤opsK k->0≤l∧l < ((ps.length:Nat):Int):=hL;have hR:opsK k=2->0≤r∧r < ((ps.length:Nat):Int):=hR;change AWP _ _ _ _ _ ⟨[(0,⟨.obuf nd,(0:Nat)⟩),(2,⟨.lit,u⟩),(1,⟨nd,(k,c,l,r,x,y,li,nm,())⟩)],[(0,some (.buf 73 nd xs))],1⟩ _;refine za (za ?_);refine zaa hX hK rfl ?_ ?_
 ·trivial
 refine za (za ?_);refine zaa hX hK rfl ?_ ?_
 ·exact hi
 refine zap (σ':=⟨[(0,⟨.obuf nd,(0:Nat)⟩),(2,⟨.lit,u⟩),(4,⟨.optr nd,⟨1,nd,.here⟩⟩)],[(0,some (.buf 73 nd xs)),(1,some (.box nd (k,c,l,r,x,y,li,nm,())))],2⟩) ⟨⟨rfl,rfl,rfl,trivial⟩,⟨rfl,rfl,trivial⟩,rfl,rfl⟩ ?_;have z0:0≤k:=by omega
 have z1:k < ((19:Nat):Int):=by omega
 (repeat(first|apply zae|apply zab|apply zac|apply zad));refine AWP.draw dM hX hK 5 (by kernel_rfl) rfl rfl ?_ ?_ ?_
 ·repeat'(first|exact trivial|assumption|exact z0|exact z1|(refine⟨?_,?_⟩)|(intro _)|exact zb rfl|exact zi _|(simp_all [allP];done))
 ·trivial
 obtain⟨q,hq⟩:∃ q,opsK k=q:=⟨_,rfl⟩;refine zap (σ':=⟨[(0,⟨.obuf nd,(0:Nat)⟩),(2,⟨.lit,u⟩),(4,⟨.optr nd,⟨1,nd,.here⟩⟩),(15,⟨i64,q⟩)],[(0,some (.buf 73 nd xs)),(1,some (.box nd (k,c,l,r,x,y,li,nm,())))],2⟩) ⟨⟨rfl,rfl,rfl,vI64 ((znY hk0 hk1).trans hq),trivial⟩,⟨rfl,rfl,trivial⟩,rfl,rfl⟩ ?_;rw[hq]at hL hR;have hN:putN (k,c,l,r,x,y,li,nm,()) ps=(k,c,if q=2∨q=1 then ps.getD l.toNat 0 else l,if q=2 then ps.getD r.toNat 0 else r,x,y,li,nm,()):=by
  unfold putN;rw[show (k,c,l,r,x,y,li,nm,()).1=k from rfl,hq];by_cases h2:q=2
  ·rw[if_pos h2,if_pos (.inl h2),if_pos h2];rfl
  ·rw[if_neg h2,if_neg h2];by_cases h1:q=1
   ·rw[if_pos h1,if_pos (.inr h1)];rfl
   ·rw[if_neg h1,if_neg (by omega)]
 have hcap:xs.length+1≤1000000000:=by omega
 refine qY (σ':=⟨[(0,⟨.obuf nd,(0:Nat)⟩),(4,⟨.optr nd,⟨1,nd,.here⟩⟩)],[(0,some (.buf 73 nd xs)),(1,some (.box nd (putN (k,c,l,r,x,y,li,nm,()) ps)))],2⟩) ?_ ?_
 rotate_left
 ·refine za (za ?_);refine zaa hX hK rfl ?_ ?_
  ·exact hcap
  exact zr ⟨.inr rfl,6,0,rfl,rfl,rfl⟩
 rw[hN];refine za (za ?_);refine zaa hX hK rfl ?_ ?_
 ·trivial
 refine zaf rfl (fun hb=>?_) (fun hb=>?_)
 ·have hb:(q==2)=true:=hb;have hb:q=2:=beq_iff_eq.1 hb;obtain⟨l0,l1⟩:=hL (by omega);obtain⟨r0,r1⟩:=hR hb;rw[if_pos (.inl hb),if_pos hb];(repeat(first|apply zae|apply zab|apply zac|apply zad));refine zai ?_;refine zN 3 hX hK rfl trivial ?_;refine AL.litAt hX rfl hu rfl rfl rfl rfl rfl rfl rfl rfl (by kernel_rfl) ztg zth rfl rfl r0 r1 fun pv=>?_;refine zT hX hK rfl trivial ?_;refine zap (σ':=⟨[(0,⟨.obuf nd,(0:Nat)⟩),(2,⟨.lit,u⟩),(4,⟨.optr nd,⟨1,nd,.here⟩⟩)],[(0,some (.buf 73 nd xs)),(1,some (.box nd (k,c,l,ps.getD r.toNat 0,x,y,li,nm,())))],2⟩) ⟨⟨rfl,rfl,rfl,trivial⟩,⟨rfl,rfl,trivial⟩,rfl,rfl⟩ ?_;(repeat(first|apply zae|apply zab|apply zac|apply zad));refine zai ?_;refine zN 3 hX hK rfl trivial ?_;refine AL.litAt hX rfl hu rfl rfl rfl rfl rfl rfl rfl rfl (by kernel_rfl) ztg zth rfl rfl l0 l1 fun pv=>?_;refine zT hX hK rfl trivial ?_;exact⟨⟨rfl,rfl,trivial⟩,⟨rfl,rfl,trivial⟩,rfl,rfl⟩
 have hb:(q==2)=false:=hb;have hb2:q≠2:=ne_of_beq_false hb;refine za (za ?_);refine zaa hX hK rfl ?_ ?_
 ·trivial
 refine zaf rfl (fun hb=>?_) (fun hb=>?_)
 ·have hb:(q==1)=true:=hb;have hb:q=1:=beq_iff_eq.1 hb;obtain⟨l0,l1⟩:=hL (by omega);rw[if_pos (.inr hb),if_neg hb2];(repeat(first|apply zae|apply zab|apply zac|apply zad));refine zai ?_;refine zN 3 hX hK rfl trivial ?_;refine AL.litAt hX rfl hu rfl rfl rfl rfl rfl rfl rfl rfl (by kernel_rfl) ztg zth rfl rfl l0 l1 fun pv=>?_;refine zT hX hK rfl trivial ?_;exact⟨⟨rfl,rfl,trivial⟩,⟨rfl,rfl,trivial⟩,rfl,rfl⟩
 ·have hb:(q==1)=false:=hb;have hb1:q≠1:=ne_of_beq_false hb;rw[if_neg (by omega),if_neg hb2];exact zab ⟨⟨rfl,rfl,trivial⟩,⟨rfl,rfl,trivial⟩,rfl,rfl⟩
def guT:Tbl:=(236,.int .u64)::gmT
theorem guT_ok:TOk Tryz.prog guT gmQ:=zrG (by kernel_rfl) (by kernel_rfl)
def guK:Kn:={ T:=guT,Q:=gmQ,U:=gmU,C:=[] }
theorem zkr:KnOk Tryz.prog gmH guK:=⟨guT_ok,zhy,CsOk.nil,ziB,RsOk.nil⟩
def cMag:Ctr:={ args:=[i64],pre:=fun x=>[0≤x.1],res:=.int .u64,own:=none,out:=fun x=>yL 64 x.1 }
theorem mag_ok:yK Tryz.prog gmH 223 cMag:=by
 refine zaq (K:=guK) zkr Tryz.func223 rfl rfl Tryz.call223 rfl (by decide) (by intro h;cases h) ?_;rintro w0 X hX ⟨(n:Int),_⟩ hp;have hn:0≤n:=hp;change AWP _ _ _ _ _ ⟨[(0,⟨i64,n⟩)],[],0⟩ _;refine za (za ?_);refine zaa hX zkr rfl ?_ ?_
 ·trivial
 refine za (za ?_);refine zaa hX zkr rfl ?_ ?_
 ·trivial
 refine zaf rfl (fun hb=>?_) (fun hb=>?_)
 ·have hb:decide (n < 0)=true:=hb;have hb:=of_decide_eq_true hb;omega
 apply zab;refine za (za ?_);refine zaa hX zkr rfl ?_ ?_
 ·trivial
 refine zr ⟨.inr rfl,zaw rfl trivial rfl rfl ?_⟩;rfl
theorem bvI {a:Int} (h:0≤a):(⟨.int .u64,yL 64 a⟩:V)=⟨.int .u64,yc 64 a.toNat⟩:=by
 have:yL 64 a=yc 64 a.toNat:=by
  conv=>lhs;rw[<-qu h]
  exact BitVec.ofInt_natCast ..
 rw[this]
theorem bvN {y:Nat} (h:y≤1000000000000000):(yc 64 y).toNat=y:=by
 rw[BitVec.toNat_ofNat];exact Nat.mod_eq_of_lt (by omega)
theorem bvR {x y:Nat} (hx:x≤1000000000000000) (hy:y≤1000000000000000):(⟨.int .u64,yc 64 x % yc 64 y⟩:V)=⟨.int .u64,yc 64 (x % y)⟩:=by
 have hm:x % y≤x:=Nat.mod_le ..;have:yc 64 x % yc 64 y=yc 64 (x % y):=BitVec.eq_of_toNat_eq (by rw[BitVec.toNat_umod,bvN hx,bvN hy,bvN (by omega)]);rw[this]
def cGcd:Ctr:={ args:=[i64,i64],pre:=fun x=>[1≤x.1,x.1≤1000000000000000,1≤x.2.1,x.2.1≤1000000000000000],res:=i64,own:=none,out:=fun x=>((xY x.2.1.toNat x.1.toNat:Nat):Int) }
def kGcd:Kn:={ guK with C:=[(223,cMag)] }
theorem zej:KnOk Tryz.prog gmH kGcd:=zkr.with (.cons mag_ok .nil)
theorem gcd_ok:yK Tryz.prog gmH 190 cGcd:=by
 refine zaq (K:=kGcd) zej Tryz.func190 rfl rfl Tryz.call190 rfl (by decide) (by intro h;cases h) ?_;rintro w0 X hX ⟨(a:Int),(b:Int),_⟩ hp;obtain⟨ha,ha',hb,hb'⟩:1≤a∧a≤1000000000000000∧1≤b∧b≤1000000000000000:=by
  simp only[cGcd,allP]at hp
  simpa using hp
 change AWP _ _ _ _ _ ⟨[(0,⟨i64,a⟩),(1,⟨i64,b⟩)],[],0⟩ _;apply zae;refine za (za ?_);refine zaa hX zej rfl ?_ ?_
 ·trivial
 refine za (za ?_);refine zaa hX zej rfl ?_ ?_
 ·have h1:0≤a:=by omega
  have h2:0≤b:=by omega
  repeat'(first|exact trivial|exact h1|exact h2|(refine⟨?_,?_⟩)|(intro _))
 (repeat(first|apply zae|apply zab|apply zac|apply zad));refine yR (ι:=Nat×Nat) (fun p=>⟨[(0,⟨i64,a⟩),(1,⟨i64,b⟩),(5,⟨.int .u64,yc 64 p.1⟩),(6,⟨.int .u64,yc 64 p.2⟩)],[],0⟩) (fun p=>p.1≤1000000000000000∧p.2≤1000000000000000∧xY p.2 p.1=xY b.toNat a.toNat) (fun p=>p.2) (a.toNat,b.toNat) ⟨by omega,by omega,rfl⟩ ⟨⟨rfl,rfl,bvI (by omega),bvI (by omega),trivial⟩,trivial,rfl,rfl⟩ ?_;rintro ⟨x,y⟩ ⟨hx,hy,hg⟩;have hx:x≤1000000000000000:=hx;have hy:y≤1000000000000000:=hy;have hg:xY y x=xY b.toNat a.toNat:=hg;refine za (za ?_);refine zaa hX zej rfl ?_ ?_
 ·trivial
 refine zaf rfl (fun hb=>?_) (fun hb=>?_)
 ·have hc:((((yc 64 y).toNat:Nat):Int) != 0)=true:=hb;have hy1:y≠0:=fun e=>by subst e;exact absurd hc (by decide)
  have hy0:yc 64 y≠0:=fun e=>hy1 (by have:=congrArg BitVec.toNat e;rw[bvN hy]at this;exact this);(repeat(first|apply zae|apply zab|apply zac|apply zad));refine AWP.ordF (σ':=⟨[(0,⟨i64,a⟩),(1,⟨i64,b⟩),(5,⟨.int .u64,yc 64 y⟩),(6,⟨.int .u64,yc 64 (x % y)⟩)],[],0⟩) dM 6 rfl (by kernel_rfl) ?_ ?_
  ·repeat'(first|exact AllN.nil|refine AllN.cons ⟨_,rfl,?_⟩ ?_|refine xg hX zej rfl trivial ?_|refine xg hX zej rfl (by repeat'(first|exact trivial|exact hy0|(refine⟨?_,?_⟩)|(intro _))) ?_|(refine OrdA.last ?_;exact⟨rfl,⟨rfl,rfl,rfl,bvR hx hy,trivial⟩,trivial,rfl,rfl⟩))
  exact⟨(y,x % y),⟨hy,zH (Nat.mod_le ..) hx,by rw[<-Nat.gcd_rec];exact hg⟩,Nat.mod_lt _ (by omega),⟨rfl,rfl,rfl,rfl,trivial⟩,trivial,rfl,rfl⟩
 ·have hc:((((yc 64 y).toNat:Nat):Int) != 0)=false:=hb;rw[bvN hy]at hc;have hy0:y=0:=by
   have:=bne_eq_false_iff_eq.1 hc;omega
  subst hy0;rw[Nat.gcd_zero_left]at hg;apply zad;refine za (za ?_);refine zaa hX zej rfl ?_ ?_
  ·trivial
  refine zaf rfl (fun hd=>?_) (fun hd=>?_)
  ·have hd:decide ((((yc 64 x).toNat:Nat):Int) > 9223372036854775807)=true:=hd;rw[bvN hx]at hd;have:=of_decide_eq_true hd;omega
  apply zab;refine za (za ?_);refine zaa hX zej rfl ?_ ?_
  ·show inR .i64 (((yc 64 x).toNat:Nat):Int);rw[bvN hx];exact zam (by omega) (by omega)
  refine zr ⟨.inr rfl,zaw rfl trivial rfl rfl ?_⟩;show (((yc 64 x).toNat:Nat):Int)=((xY b.toNat a.toNat:Nat):Int);rw[bvN hx,hg]
theorem zo6 {x y:Nat} (hx:1≤x):x / xY y x * y=jh x y:=by
 have hg:xY y x ∣ x:=Nat.gcd_dvd_right y x;have hp:0 < xY y x:=ke _ (by omega);obtain⟨k,hk⟩:=hg;unfold jh;rw[Nat.gcd_comm x y];generalize xY y x=g at *;subst hk;rw[kq _ hp,Nat.mul_assoc,kq _ hp]
def cLcm:Ctr:={ args:=[i64,i64],pre:=fun x=>[1≤x.1,x.1≤1000,1≤x.2.1,x.2.1≤1000],res:=.tup i64 (.tup i64 .unit),own:=none,out:=fun x=>(((jh x.1.toNat x.2.1.toNat:Nat):Int),(0:Int),()) }
def kLcm:Kn:={ gmK with C:=[(190,cGcd)] }
theorem zf0:KnOk Tryz.prog gmH kLcm:=zaj.with (.cons gcd_ok .nil)
theorem lcm_ok:yK Tryz.prog gmH 158 cLcm:=by
 refine zaq (K:=kLcm) zf0 Tryz.func158 rfl rfl Tryz.call158 rfl (by decide) (by intro h;cases h) ?_;rintro w0 X hX ⟨(a:Int),(b:Int),_⟩ hp;obtain⟨ha,ha',hb,hb'⟩:1≤a∧a≤1000∧1≤b∧b≤1000:=by
  simp only[cLcm,allP]at hp
  simpa using hp
 change AWP _ _ _ _ _ ⟨[(0,⟨i64,a⟩),(1,⟨i64,b⟩)],[],0⟩ _;refine za (za ?_);refine zaa hX zf0 rfl ?_ ?_
 ·trivial
 refine za (za ?_);refine zaa hX zf0 rfl ?_ ?_
 ·exact⟨id,id⟩
 have t1:(bif decide (a < 1) then true else decide (b < 1))=false:=by
  rw[decide_eq_false (by omega),decide_eq_false (by omega)];rfl
 refine zaf rfl (fun hc=>?_) (fun _=>?_)
 ·have hc:(bif decide (a < 1) then true else decide (b < 1))=true:=hc;rw[t1]at hc;cases hc
 apply zab;have hg:0 < xY b.toNat a.toNat:=ke _ (by omega);have hq:a.tdiv ((xY b.toNat a.toNat:Nat):Int)=((a.toNat / xY b.toNat a.toNat:Nat):Int):=by
  conv=>lhs;rw[<-qu (by omega:0≤a)]
  exact Int.ofNat_tdiv ..
 have hqle:a.toNat / xY b.toNat a.toNat≤a.toNat:=Nat.div_le_self ..;have hq1000:a.toNat / xY b.toNat a.toNat≤1000:=by omega
 have q1:((xY b.toNat a.toNat:Nat):Int)≠0:=by omega
 have q2:inR .i64 (a.tdiv ((xY b.toNat a.toNat:Nat):Int)):=by rw[hq];generalize a.toNat / xY b.toNat a.toNat=z at hq1000;exact zam (by omega) (by omega)
 have big1:a≤1000000000000000:=by omega
 have big2:b≤1000000000000000:=by omega
 refine za (za ?_);refine zaa hX zf0 rfl ?_ ?_
 ·exact⟨ha,big1,hb,big2,q1,q2⟩
 refine zap (σ':=⟨[(0,⟨i64,a⟩),(1,⟨i64,b⟩),(6,⟨i64,((a.toNat / xY b.toNat a.toNat:Nat):Int)⟩)],[],0⟩) ⟨⟨rfl,rfl,vI64 hq,trivial⟩,trivial,rfl,rfl⟩ ?_;have hd:(1099511627776:Int).tdiv b=((1099511627776 / b.toNat:Nat):Int):=by
  conv=>lhs;rw[<-qu (by omega:0≤b)]
  exact Int.ofNat_tdiv ..
 have hd1:1099511627776 / 1000≤1099511627776 / b.toNat:=Nat.div_le_div_left (by omega) (by omega);have hd2:1099511627776 / b.toNat≤1099511627776:=Nat.div_le_self ..;have q3:b≠0:=by omega
 have q4:inR .i64 ((1099511627776:Int).tdiv b):=by rw[hd];exact zam (by omega) (by omega)
 refine za (za ?_);refine zaa hX zf0 rfl ?_ ?_
 ·exact⟨q3,q4⟩
 refine zaf rfl (fun hc=>?_) (fun _=>?_)
 ·have hc:decide (((a.toNat / xY b.toNat a.toNat:Nat):Int) > (1099511627776:Int).tdiv b)=true:=hc;have hc:=of_decide_eq_true hc;rw[hd]at hc;omega
 apply zab;have hm:((a.toNat / xY b.toNat a.toNat:Nat):Int) * b=((jh a.toNat b.toNat:Nat):Int):=by
  rw[<-zo6 (x:=a.toNat) (y:=b.toNat) (by omega),Int.natCast_mul,qu (by omega:0≤b)]
 have hml:jh a.toNat b.toNat≤1000000:=by
  rw[<-zo6 (x:=a.toNat) (y:=b.toNat) (by omega)];exact Nat.mul_le_mul (by omega:_≤1000) (by omega:b.toNat≤1000)
 have q5:inR .i64 (((a.toNat / xY b.toNat a.toNat:Nat):Int) * b):=by rw[hm];exact zam (by omega) (by omega)
 refine za (za ?_);refine zaa hX zf0 rfl ?_ ?_
 ·exact q5
 refine zr ⟨.inr rfl,zbd (by decide) rfl rfl trivial ?_⟩;show (((a.toNat / xY b.toNat a.toNat:Nat):Int) * b,(0:Int),())=(((jh a.toNat b.toNat:Nat):Int),(0:Int),());rw[hm]
abbrev Lr:=Int×Int×Bool×Unit
def zqU (r:Lr):Bool:=decide (r.1 < 1)||decide (r.1 > 400)||decide (r.2.1 < 0)||decide (r.2.1≥r.1)
def perS (y:Nat):List Lr->Int×Bool
 | []=>((y:Int),true)
 |r::l=>if zqU r=true then (0,false) else if 400 < jh y r.1.toNat then (0,false) else perS (jh y r.1.toNat) l
def cPer:Ctr:={ args:=[.slice lru],pre:=fun _=>[],res:=.tup i64 (.tup .bool .unit),own:=none,out:=fun x=>((perS 1 x.1).1,(perS 1 x.1).2,()) }
def kPer:Kn:={ gmK with C:=[(158,cLcm)] }
theorem zbI:KnOk Tryz.prog gmH kPer:=zaj.with (.cons lcm_ok .nil)
def zLr:Lr:=(0,0,false,())
theorem zoA:yK Tryz.prog gmH 125 cPer:=by
 refine zaq (K:=kPer) zbI Tryz.func125 rfl rfl Tryz.call125 rfl (by decide) (by intro h;cases h) ?_;rintro w0 X hX ⟨(l:List Lr),_⟩ hp;change AWP _ _ _ _ _ ⟨[(0,⟨.slice lru,l⟩)],[],0⟩ _;refine AWP.len 0 rfl fun hl=>?_;unfold maxLen at hl;refine za (za ?_);refine zaa hX zbI rfl ?_ ?_
 ·trivial
 refine za (za ?_);refine zaa hX zbI rfl ?_ ?_
 ·trivial
 refine za (za ?_);refine zaa hX zbI rfl ?_ ?_
 ·trivial
 (repeat(first|apply zae|apply zab|apply zac|apply zad));refine yR (ι:=Nat×Nat) (fun p=>⟨[(0,⟨.slice lru,l⟩),(4,⟨i64,(p.2:Int)⟩),(9,⟨.slice lru,l⟩),(10,⟨i64,((l.length:Nat):Int)⟩),(11,⟨i64,(p.1:Int)⟩)],[],0⟩) (fun p=>p.1≤l.length∧(1≤p.2∧p.2≤400)∧perS 1 l=perS p.2 (l.drop p.1)) (fun p=>l.length - p.1) (0,1) ⟨zk _,⟨by decide,by decide⟩,rfl⟩ ⟨⟨rfl,rfl,rfl,rfl,rfl,trivial⟩,trivial,rfl,rfl⟩ ?_;rintro ⟨k,y⟩ ⟨hk,hy,hr⟩;have hk:k≤l.length:=hk;have hy:1≤y∧y≤400:=hy;have hr:perS 1 l=perS y (l.drop k):=hr;refine za (za ?_);refine zaa hX zbI rfl ?_ ?_
 ·trivial
 apply zae;refine zaf rfl (fun hb=>?_) (fun hb=>?_)
 ·have hb:decide ((k:Int) < (l.length:Nat))=true:=hb;have hb:=of_decide_eq_true hb;have hlt:k < l.length:=by omega
  have n0:(0:Int)≤(k:Int):=by omega
  have hgd:l.getD (k:Int).toNat zLr=l[k]:=za6 hlt;rw[List.drop_eq_getElem_cons hlt,perS, <-hgd]at hr;refine za (za ?_);refine zaa hX zbI rfl ?_ ?_
  ·exact⟨n0,hb⟩
  generalize hG:l.getD (k:Int).toNat zLr=G at hr;obtain⟨(ev:Int),(rs:Int),(ye:Bool),⟨⟩⟩:=G;refine zap (σ':=⟨[(0,⟨.slice lru,l⟩),(4,⟨i64,(y:Int)⟩),(9,⟨.slice lru,l⟩),(10,⟨i64,((l.length:Nat):Int)⟩),(11,⟨i64,(k:Int)⟩),(6,⟨.optr lru,⟨0,lru,.here⟩⟩)],[(0,some (.box lru (ev,rs,ye,())))],1⟩) ⟨⟨rfl,rfl,rfl,rfl,rfl,rfl,trivial⟩,⟨zfH hG,trivial⟩,rfl,rfl⟩ ?_;refine za (za ?_);refine zaa hX zbI rfl ?_ ?_
  ·repeat'(first|exact trivial|assumption|(refine⟨?_,?_⟩)|(intro _)|exact zb rfl|exact zi _|(simp_all [allP];done))
  have hbe:zqU (ev,rs,ye,())=(bif (bif (bif decide (ev < 1) then true else decide (ev > 400)) then true else decide (rs < 0)) then true else decide (rs≥ev)):=by
   unfold zqU;rw[b_or,b_or,b_or]
  refine zaf rfl (fun hc=>?_) (fun hc=>?_)
  ·have hc:=hbe.trans hc;(repeat(first|apply zae|apply zab|apply zal|apply zad|apply zac|refine zaa hX zbI rfl trivial ?_|refine zaa hX zbI rfl id ?_|refine zaa hX zbI rfl ⟨id,id⟩ ?_));refine zr ⟨.inr rfl,zbd (by decide) rfl rfl trivial ?_⟩;show ((0:Int),false,())=((perS 1 l).1,(perS 1 l).2,());rw[hr,if_pos hc]
  have hc:=hbe.trans hc;have hn:=hc;unfold zqU at hn;simp only[xu,decide_eq_false_iff_not]at hn;obtain⟨⟨⟨n1,n2⟩,n3⟩,n4⟩:=hn;have n1:¬ ev < 1:=n1;have n2:¬ ev > 400:=n2;apply zab;have l1:(1:Int)≤(y:Int):=by omega
  have l2:(y:Int)≤1000:=by omega
  have l3:1≤ev:=by omega
  have l4:ev≤1000:=by omega
  refine za (za ?_);refine zaa hX zbI rfl ?_ ?_
  ·exact⟨l1,l2,l3,l4⟩
  refine zap (σ':=⟨[(0,⟨.slice lru,l⟩),(4,⟨i64,(y:Int)⟩),(9,⟨.slice lru,l⟩),(10,⟨i64,((l.length:Nat):Int)⟩),(11,⟨i64,(k:Int)⟩),(7,⟨i64,((jh y ev.toNat:Nat):Int)⟩),(8,⟨i64,0⟩)],[],1⟩) ⟨⟨rfl,rfl,rfl,rfl,rfl,rfl,rfl,trivial⟩,trivial,rfl,rfl⟩ ?_;refine za (za ?_);refine zaa hX zbI rfl ?_ ?_
  ·repeat'(first|exact trivial|assumption|(refine⟨?_,?_⟩)|(intro _)|exact zb rfl|exact zi _|(simp_all [allP];done))
  refine zaf rfl (fun hd=>?_) (fun hd=>?_)
  ·have hd:decide (((jh y ev.toNat:Nat):Int) > 400)=true:=hd;have hd:=of_decide_eq_true hd;(repeat(first|apply zae|apply zab|apply zal|apply zad|apply zac|refine zaa hX zbI rfl trivial ?_|refine zaa hX zbI rfl id ?_|refine zaa hX zbI rfl ⟨id,id⟩ ?_));refine zr ⟨.inr rfl,zbd (by decide) rfl rfl trivial ?_⟩;show ((0:Int),false,())=((perS 1 l).1,(perS 1 l).2,());rw[hr,if_neg (by rw[hc];decide),if_pos (by show 400 < jh y ev.toNat;omega)]
  ·have hd:decide (((jh y ev.toNat:Nat):Int) > 400)=false:=hd;have hd:=of_decide_eq_false hd;have hlp:0 < jh y ev.toNat:=Nat.lcm_pos (by omega) (by omega);apply zab;refine za (za ?_);refine zaa hX zbI rfl ?_ ?_
   ·trivial
   refine za (za ?_);refine zaa hX zbI rfl ?_ ?_
   ·exact za0 (by omega)
   refine⟨(k+1,jh y ev.toNat),⟨hlt,⟨hlp,by show jh y ev.toNat≤400;omega⟩,?_⟩,by show l.length - (k+1) < l.length - k;omega,⟨rfl,rfl,rfl,rfl,zdT _,trivial⟩,trivial,rfl,rfl⟩;rw[hr,if_neg (by rw[hc];decide),if_neg (by show ¬ 400 < jh y ev.toNat;omega)]
 ·have hb:decide ((k:Int) < (l.length:Nat))=false:=hb;have hb:=of_decide_eq_false hb;have:k=l.length:=by omega
  subst this;rw[jd,perS]at hr;(repeat(first|apply zae|apply zab|apply zal|apply zad|apply zac|refine zaa hX zbI rfl trivial ?_|refine zaa hX zbI rfl id ?_|refine zaa hX zbI rfl ⟨id,id⟩ ?_));refine zr ⟨.inr rfl,zbd (by decide) rfl rfl trivial ?_⟩;show ((y:Int),true,())=((perS 1 l).1,(perS 1 l).2,());rw[hr]
section
variable {s:List UInt8}
def Er {α:Type} (s:List UInt8) (m:Except (Int×Int) α):Prop:=∀ er,m= .error er->0≤er.1∧er.1≤((s.length:Nat):Int)
theorem zaB {α β:Type} {m:Except (Int×Int) α} {f:α->Except (Int×Int) β} (h1:Er s m) (h2:∀ x,m= .ok x->Er s (f x)):Er s (m >>= f):=by
 intro er he;cases hm:m with
 |error e=>
  rw[hm]at he;have he:(.error e:Except (Int×Int) β)= .error er:=he;cases he;exact h1 _ hm
 |ok x=>
  rw[hm]at he;exact h2 x hm er he
theorem zdf {α:Type} {x:α}:Er s (.ok x:Except (Int×Int) α):=fun _ h=>by cases h
theorem zri {α:Type} {st:GSt} {e:Int} (h:GOk s st):Er s (.error (Tok.at st.1,e):Except (Int×Int) α):=fun er he=>by
 cases he;obtain⟨⟨⟨a1,a2,a3⟩,_⟩,_⟩:=h;exact⟨a1,by show Tok.at st.1≤_;omega⟩
theorem zb3 {st:GSt} {b:Bool} {e:Int} (h:GOk s st):Er s (zaF st b e):=by
 unfold zaF;split
 ·exact zdf
 ·exact zri h
theorem zeq {st:GSt} {w:List UInt8} (h:GOk s st):Er s (zaX s st w):=zaB (zb3 h) fun _ _=>zdf
theorem zfC {st:GSt} (h:GOk s st):Er s (zbU s st):=zaB (zb3 h) fun _ _=>zdf
theorem zbL {st:GSt} {lo hi:Int} (h:GOk s st):Er s (zaO s st lo hi):=zaB (zb3 h) fun _ _=>zaB (zb3 h) fun _ _=>zdf
theorem zmp {lo hi:Int} {z:Bool}:∀ (k:Nat) {st:GSt} {l:List Int},GOk s st->Er s (zcw s lo hi z k st l)
 |0,_,_,h=>zri h
 |k+1,st,l,h=>by
  unfold zcw;split
  ·exact zdf
  ·exact zaB (zb3 h) fun _ _=>zaB (zb3 h) fun _ _=>zaB (zb3 h) fun _ _=>zaB (zbL h) fun p hp=>zmp k (zas h hp).1.1
theorem zjm {st:GSt} {lo hi:Int} {z:Bool} (h:GOk s st):Er s (zdo s st lo hi z):=
 zaB (zeq h) fun a ha=>zaB (zmp _ (zbq h ha).1) fun p hp=>zaB (zeq (by
  rcases zhB _ (zbq h ha).1 hp with e|k
  ·rw[e];exact (zbq h ha).1
  ·exact k.1)) fun _ _=>zdf
theorem zmo {st:GSt} (h:GOk s st):Er s (zdP s st):=zaB (zb3 h) fun _ _=>zdf
theorem ztH {st:GSt} (h:GOk s st):∀ w:LeafW,Er s (zdp s st w)
 | .days=>zaB (zbL h) fun p hp=>zaB (zbL (zas h hp).1.1) fun _ _=>zdf
 | .years=>zaB (zbL h) fun p hp=>zaB (zbL (zas h hp).1.1) fun q hq=>zaB (zbL (zas (zas h hp).1.1 hq).1.1) fun _ _=>zdf
 | .months| .monthdays| .weeks=>zaB (zbL h) fun p hp=>zaB (zjm (zas h hp).1.1) fun _ _=>zdf
 | .weekdays=>zaB (zjm h) fun _ _=>zdf
 | .nth=>zaB (zbL h) fun p hp=>zaB (zb3 (zas h hp).1.1) fun _ _=>zaB (zbL (zas h hp).1.1) fun q hq=>zaB (zbL (zas (zas h hp).1.1 hq).1.1) fun r hr=>zaB (zmo (zas (zas (zas h hp).1.1 hq).1.1 hr).1.1) fun _ _=>zdf
theorem zr6 {st:GSt} (h:GOk s st):∀ w:SufW,Er s (gSuf s st w)
 | .shift| .from_| .until_=>zaB (zbL h) fun _ _=>zdf
 | .also| .except_=>zaB (zjm h) fun _ _=>zdf
 | .pos=>zaB (zbL h) fun p hp=>zaB (zmo (zas h hp).1.1) fun q hq=>zaB (zjm (zem (zas h hp).1.1 hq).1) fun _ _=>zdf
 | .behind=>zaB (zbL h) fun p hp=>zaB (zeq (zas h hp).1.1) fun _ _=>zdf
theorem zf5 {md:Md} {st st':GSt} (h:GOk s st) (k:Cons s st st' md):GOk s st':=by
 cases md with
 |bin i=>exact k.1
 |chain=>exact k.1
 |prim=>exact k.1
 |binL i t=>
  rcases k with rfl|k
  ·exact h
  ·exact k.1
 |chainL t=>
  rcases k with rfl|k
  ·exact h
  ·exact k.1
theorem zd8:∀ (k:Nat) (md:Md) (st:GSt),GOk s st->Er s (prs s k md st)
 |0,_,_,h=>zri h
 |k+1,.bin i,st,h=>by
  unfold prs;rw[zbp];split
  ·exact zd8 k _ _ h
  ·exact zaB (zd8 k _ _ h) fun p hp=>zd8 k _ _ (zf5 h (zcQ k _ _ _ _ h hp))
 |k+1,.binL i t,st,h=>by
  unfold prs;rw[zbp];split
  ·rename_i hi;refine zaB (zfC h) fun a ha=>?_;have k1:=zbg h (zdF hi) ha;exact zaB (zd8 k _ _ k1.1) fun p hp=>zd8 k _ _ (zf5 k1.1 (zcQ k _ _ _ _ k1.1 hp))
  ·exact zdf
 |k+1,.chain,st,h=>by
  unfold prs;rw[zbp];exact zaB (zd8 k _ _ h) fun p hp=>zd8 k _ _ (zf5 h (zcQ k _ _ _ _ h hp))
 |k+1,.chainL t,st,h=>by
  unfold prs;rw[zbp];split
  ·rename_i hc;split
   ·exact zdf
   ·refine zaB (zfC h) fun a ha=>?_;have k1:=zbg h (by rw[hc];decide) ha;refine zaB (zr6 k1.1 _) fun p hp=>?_;have k2:=zel k1.1 _ hp;exact zaB (zd8 k _ _ k2.1) fun q hq=>zd8 k _ _ (zf5 k2.1 (zcQ k _ _ _ _ k2.1 hq))
   ·refine zaB (zfC h) fun a ha=>?_;have k1:=zbg h (by rw[hc];decide) ha;refine zaB (zr6 k1.1 _) fun p hp=>?_;have k2:=zel k1.1 _ hp;exact zd8 k _ _ k2.1
  ·exact zdf
 |k+1,.prim,st,h=>by
  unfold prs;rw[zbp];split
  ·rename_i hi;have k0:=zcm h (zdF hi);exact zaB (zd8 k _ _ k0.1) fun p hp=>zaB (zeq (zf5 k0.1 (zcQ k _ _ _ _ k0.1 hp))) fun _ _=>zdf
  ·split
   ·exact zaB (zb3 h) fun _ _=>zaB (zfC h) fun _ _=>zdf
   ·refine zaB (zb3 h) fun u hu=>?_;have hc:=zbK hu;rw[beq_iff_eq]at hc;split
    ·exact zri h
    ·refine zaB (zfC h) fun a ha=>?_;have k1:=zbg h (by rw[hc];decide) ha;exact zaB (ztH k1.1 _) fun _ _=>zdf
theorem ztG {st:GSt} (h:GOk s st):Er s (zfy s st):=
 zaB (zd8 _ _ _ h) fun p hp=>zaB (zb3 (zf5 h (zcQ _ _ _ _ _ h hp))) fun _ _=>zdf
end
set_option maxRecDepth 10000
abbrev Tk:=Int×List UInt8×Int
def tkOf (t:TokT):Tk:=(zQ t,zR t,Tok.n t)
def Toks (s:List UInt8):Int->List Tk->Prop
 |o,[]=>zQ (zee s o)=0
 |o,a::l=>zQ (zee s o)≠0∧tkOf (zee s o)=a∧Toks s (Tok.at (zee s o)+Tok.size (zee s o)) l
def Sq (s:List UInt8) (t:TokT):List Tk->Prop
 | []=>zQ t=0
 |a::l=>zQ t≠0∧tkOf t=a∧Toks s (Tok.at t+Tok.size t) l
def tkIs (w:List UInt8):List Tk->Bool
 | []=>false
 |a::_=>((a.1==1)||(a.1==4))&&decide (a.2.1=w)
theorem okb {ε α β:Type} {e:Except ε α} {x:α} (h:e= .ok x) (f:α->Except ε β):(e >>= f)=f x:=by
 subst h;rfl
section
variable {s:List UInt8}
theorem zkZ {o:Int} {l:List Tk} (h:Toks s o l):Sq s (zee s o) l:=by
 cases l with
 |nil=>exact h
 |cons a l=>exact h
theorem zhY {st:GSt} {l:List Tk} (h:Sq s st.1 l) (w:List UInt8):gIs st w=tkIs w l:=by
 cases l with
 |nil=>
  have h:zQ st.1=0:=h;unfold gIs tkIs;rw[h];rfl
 |cons a l=>
  obtain⟨_,h2,_⟩:=h;unfold gIs tkIs;rw[<-h2];rfl
structure Got (s:List UInt8) (st:GSt) (k:Int) (l:List Tk) (st':GSt):Prop where
 ok:GOk s st'
 sq:Sq s st'.1 l
 n:st'.2=st.2+k
theorem Got.trans {a b c:GSt} {j k:Int} {l l':List Tk} (h:Got s a j l b) (h':Got s b k l' c):Got s a (j+k) l' c:=⟨h'.ok,h'.sq,by rw[h'.n,h.n];omega⟩
theorem Got.trans0 {a b c:GSt} {j:Int} {l l':List Tk} (h:Got s a j l b) (h':Got s b 0 l' c):Got s a j l' c:=⟨h'.ok,h'.sq,by rw[h'.n,h.n];omega⟩
theorem zqC {st:GSt} {a:Tk} {l:List Tk} (hg:GOk s st) (h:Sq s st.1 (a::l)):Got s st 0 l (gAdv s st):=
 ⟨(zcm hg h.1).1,zkZ h.2.2,by show st.2=st.2+0;omega⟩
theorem zgF {st:GSt} {a:Tk} {l:List Tk} {w:List UInt8} (hg:GOk s st) (h:Sq s st.1 (a::l)) (hw:tkIs w (a::l)=true):zaX s st w= .ok (gAdv s st)∧Got s st 0 l (gAdv s st):=by
 refine⟨?_,zqC hg h⟩;unfold zaX zaF;rw[zhY h,hw];rfl
theorem zi1 {st:GSt} {a:Tk} {l:List Tk} (hg:GOk s st) (h:Sq s st.1 (a::l)) (hn:st.2 < 64):zbU s st= .ok (gAdv s (st.1,st.2+1))∧Got s st 1 l (gAdv s (st.1,st.2+1)):=by
 refine⟨?_,?_,?_,rfl⟩
 ·unfold zbU zaF;rw[decide_eq_true hn];rfl
 ·exact (zcm (st:=(st.1,st.2+1)) ⟨hg.1,by have:=hg.2;constructor<;>simp only[]<;>omega⟩ h.1).1
 ·exact zkZ h.2.2
def tkW (w:List UInt8):Tk:=(1,w,0)
def tkR (w:List UInt8):Tk:=(2,w,0)
def tkN (n:Int):Tk:=(3,deI n,n)
def tkS (c:UInt8):Tk:=(4,[c],0)
theorem zbt {st:GSt} {x lo hi:Int} {l:List Tk} (hg:GOk s st) (h:Sq s st.1 (tkN x::l)) (h1:lo≤x) (h2:x≤hi):zaO s st lo hi= .ok (x,gAdv s st)∧Got s st 0 l (gAdv s st):=by
 refine⟨?_,zqC hg h⟩;obtain⟨_,e,_⟩:=h;have e1:zQ st.1=3:=congrArg (fun a=>a.1) e;have e2:Tok.n st.1=x:=congrArg (fun a=>a.2.2) e;unfold zaO zaF;rw[e1,e2,decide_eq_true h1,decide_eq_true h2];rfl
def Ris (lo hi:Int) (z:Bool):Int->List Int->Prop
 |_,[]=>True
 |last,x::r=>last < x∧lo≤x∧x≤hi∧(z=true∨x≠0)∧Ris lo hi z x r
theorem zot {lo hi:Int} {z:Bool} {l:List Tk}:∀ (xs:List Int) (k:Nat) (acc:List Int) (st:GSt),xs.length < k->(acc=[]->xs≠ [])->acc.length+xs.length≤64->Ris lo hi z (acc.getLast?.getD (lo - 1)) xs->GOk s st->Sq s st.1 (xs.map tkN++tkS 41::l)->
  ∃ st',zcw s lo hi z k st acc= .ok (acc++xs,st')∧Got s st 0 (tkS 41::l) st'
 |_,0,_,_,hk,_,_,_,_,_=>by omega
 | [],k+1,acc,st,_,hne,_,_,hg,h=>by
  refine⟨st,?_,hg,h,by omega⟩;have hacc:acc≠ []:=fun e=>hne e rfl;have hc:gIs st zc7=true:=by rw[zhY h];rfl
  unfold zcw;rw[hc,zL,if_pos (by cases acc with |nil=>exact absurd rfl hacc|cons _ _=>rfl)]
 |x::r,k+1,acc,st,hk,hne,hlen,hr,hg,h=>by
  obtain⟨r1,r2,r3,r4,r5⟩:=hr;simp only[zt]at hk hlen;have h:Sq s st.1 (tkN x::(r.map tkN++tkS 41::l)):=h;obtain⟨hn,hgot⟩:=zbt hg h r2 r3;obtain⟨_,e,_⟩:=id h;have e1:zQ st.1=3:=congrArg (fun a=>a.1) e;have e2:Tok.n st.1=x:=congrArg (fun a=>a.2.2) e;have hc:gIs st zc7=false:=by rw[zhY h];rfl
  have hl:(acc++ [x]).getLast?.getD (lo - 1)=x:=by rw[List.getLast?_append];rfl
  obtain⟨st',h1,h2⟩:=zot r k (acc++ [x]) (gAdv s st) (by omega) (fun e=>by simp at e) (by rw[zd,zF];omega) (by rw[hl];exact r5) hgot.ok hgot.sq;refine⟨st',?_,hgot.trans0 h2⟩;rw[zp]at h1;unfold zcw;rw[hc,xk,if_neg yO];have c1:zaF st (zQ st.1==3) 3= .ok ():=by rw[e1];rfl
  have c2:zaF st (decide (acc.length < 64)) 2= .ok ():=by rw[decide_eq_true (by omega)];rfl
  have c3:zaF st (decide (Tok.n st.1 > acc.getLast?.getD (lo - 1))&&(z||(Tok.n st.1 != 0))) 1= .ok ():=by
   rw[e2,decide_eq_true r1];have:(z||(x != 0))=true:=by
    rcases r4 with rfl|r4
    ·rfl
    ·rw[yl];exact .inr (bne_iff_ne.2 r4)
   rw[this];rfl
  refine (okb c1 _).trans ((okb c2 _).trans ((okb c3 _).trans ((okb hn _).trans ?_)));exact h1
def zc9 (l:List Int):List Tk:=tkS 40::(l.map tkN++ [tkS 41])
theorem zhd {lo hi:Int} {z:Bool} {xs:List Int} {l:List Tk} {st:GSt} (hne:xs≠ []) (hlen:xs.length≤64) (hr:Ris lo hi z (lo - 1) xs) (hg:GOk s st) (h:Sq s st.1 (zc9 xs++l)):
  ∃ st',zdo s st lo hi z= .ok (xs,st')∧Got s st 0 l st':=by
 have h:Sq s st.1 (tkS 40::(xs.map tkN++ [tkS 41]++l)):=h;obtain⟨e1,g1⟩:=zgF (w:=ze9) hg h rfl;obtain⟨s2,e2,g2⟩:=zot (lo:=lo) (hi:=hi) (z:=z) (l:=l) xs 66 [] (gAdv s st) (by omega) (fun _=>hne) (by simpa using hlen) hr g1.ok (by have:=g1.sq;rwa[zp]at this);obtain⟨e3,g3⟩:=zgF (w:=zc7) g2.ok g2.sq rfl;refine⟨gAdv s s2,?_,(g1.trans0 g2).trans0 g3⟩;unfold zdo;exact (okb e1 _).trans ((okb e2 _).trans ((okb e3 _).trans rfl))
def zed (n:Int):Tk:=tkW (if n=1 then zea else zjF)
theorem zor {st:GSt} {x:Int} {l:List Tk} (hx:x=0∨x=1) (hg:GOk s st) (h:Sq s st.1 (zed x::l)):zdP s st= .ok (x,gAdv s st)∧Got s st 0 l (gAdv s st):=by
 refine⟨?_,zqC hg h⟩;have i1:=zhY h zjF;have i2:=zhY h zea;obtain⟨_,e,_⟩:=h;have e1:zR st.1=(zed x).2.1:=congrArg (fun a=>a.2.1) e;unfold zdP zaF;rw[i1,i2,e1];rcases hx with rfl|rfl<;>rfl
end
def ziz (n:Nd):List Tk:=
 if ndK n=1 then [tkW zjH,tkN (ndN n),tkN (ndM n)]
 else if ndK n=2 then [tkW zgg,tkN (ndC n),tkN (ndN n),tkN (ndM n)]
 else if ndK n=3 then tkW zcn::tkN (ndC n)::zc9 (ndI n)
 else if ndK n=4 then tkW za3::tkN (ndC n)::zc9 (ndI n)
 else if ndK n=5 then tkW zbj::zc9 (ndI n)
 else if ndK n=6 then tkW zdh::tkN (ndC n)::zc9 (ndI n)
 else if ndK n=7 then [tkW wNth,tkN (ndC n),tkN (ndN n),tkN (ndM n),zed (ndL n)]
 else if ndK n=18 then [tkR (ndS n)]
 else []
def zgx (b:List Tk) (n:Nd):List Tk:=
 if ndK n=11 then [tkW zeP,tkN (ndN n)]
 else if ndK n=12 then [tkW zhU,tkN (ndN n)]
 else if ndK n=13 then [tkW zeO,tkN (ndN n)]
 else if ndK n=14 then tkW zeX::zc9 (ndI n)
 else if ndK n=15 then tkW zco::zc9 (ndI n)
 else if ndK n=16 then tkW wPos::tkN (ndC n)::zed (ndM n)::zc9 (ndI n)
 else if ndK n=17 then tkW zbD::tkN (ndN n)::tkW wOf::b
 else []
def Tr.root:Tr->Nd
 | .leaf n=>n
 | .un n _=>n
 | .bin n _ _=>n
def Tr.lev (t:Tr):Int:=levS (ndK t.root)
def parT (c:Bool) (l:List Tk):List Tk:=if c then l else tkS 40::(l++ [tkS 41])
def Tr.toks:Tr->List Tk
 | .leaf n=>ziz n
 | .un n a=>parT (decide (a.lev≥4)) a.toks++zgx [] n
 | .bin n a b=>if ndK n=17 then parT (decide (a.lev≥4)) a.toks++zgx (parT (decide (b.lev≥5)) b.toks) n
  else parT (decide (a.lev≥levS (ndK n))) a.toks++(tkW (opWd (levS (ndK n)))::parT (decide (b.lev≥levS (ndK n)+1)) b.toks)
def zdC (k:Int):Shp:=zce.getD k.toNat (0,false,(0,0,()),())
def zeU (n:Nd):Bool:=bif (zdC (ndK n)).2.1 then inB (ndC n) 0 2 else ndC n==0
def zdY (w:List UInt8):Bool:=decide (w≠ [])&&decide (w.length≤32)&&(w.head?.all isLt&&w.all isPt)
def zh2 (n:Nd):Bool:=bif ndK n==18 then zdY (ndS n) else decide (ndS n=[])
def zbc (n:Nd):Bool:=inB (ndK n) 1 18&&decide ((ndI n).length≤64)&&(zeU n&&(zh2 n&&(zaS (ndI n) (zdC (ndK n)).2.2.1&&zcY n)))
def TrOk:Tr->Prop
 | .leaf n=>zbc n=true∧¬ (8≤ndK n∧ndK n≤17)∧ndR n=0∧(ndK n≠7->ndL n=0)
 | .un n a=>zbc n=true∧(11≤ndK n∧ndK n≤16)∧(ndL n=0∧ndR n=0)∧TrOk a
 | .bin n a b=>zbc n=true∧((8≤ndK n∧ndK n≤10)∨ndK n=17)∧(ndL n=0∧ndR n=0)∧TrOk a∧TrOk b
theorem zaL {n lo hi:Int}:inB n lo hi=true↔lo≤n∧n≤hi:=by
 unfold inB;rw[zf,decide_eq_true_iff,decide_eq_true_iff]
theorem zaE {n:Nd} (h:zbc n=true):(1≤ndK n∧ndK n≤18)∧(ndI n).length≤64∧zeU n=true∧zh2 n=true∧zaS (ndI n) (zdC (ndK n)).2.2.1=true∧zcY n=true:=by
 unfold zbc at h;simp only[zf,zaL,decide_eq_true_iff]at h;exact⟨h.1.1,h.1.2,h.2.1,h.2.2.1,h.2.2.2.1,h.2.2.2.2⟩
theorem ris_of {l:List Int} {lo hi:Int} (h:∀ i,i < l.length->zhP l (lo,hi,()) i=false):Ris lo hi (decide (¬ lo < 0)) (lo - 1) l:=by
 have key:∀ (r p:List Int) (last:Int),l=p++r->(p≠ []->last=l.getD (p.length - 1) 0)->(p=[]->last=lo - 1)->Ris lo hi (decide (¬ lo < 0)) last r:=by
  intro r
  induction r with
  |nil=>intro p last _ _ _;trivial
  |cons x r ih=>
   intro p last hl hp hp0;have hlen:p.length < l.length:=by rw[hl,zd,zt];omega
   have hx:l.getD p.length 0=x:=by
    rw[hl,zy,xe (zl _),kz];rfl
   have hb:=h p.length hlen;unfold zhP at hb;rw[hx]at hb;simp only[xu,xj,zaL,jr,decide_eq_false_iff_not,beq_eq_false_iff_ne]at hb;obtain⟨⟨⟨b1,b2⟩,b3⟩,b4⟩:=hb;refine⟨?_,b1,b2,?_,ih (p++ [x]) x (by rw[hl];simp) (fun _=>?_) (fun e=>by simp at e)⟩
   ·cases p with
    |nil=>rw[hp0 rfl];omega
    |cons y p=>
     rw[hp (by simp)];rcases b3 with b3|b3
     ·exact absurd (by simp:0 < (y::p).length) b3
     ·omega
   ·rcases b4 with b4|b4
    ·exact .inr b4
    ·exact .inl (decide_eq_true b4)
   ·rw[show (p++ [x]).length - 1=p.length by simp,hx]
 exact key l [] (lo - 1) rfl (fun h=>absurd rfl h) fun _=>rfl
theorem ze4 {l:List Int} {lo hi:Int} (h0:¬ (lo=0∧hi=0)) (h:zaS l (lo,hi,())=true):l≠ []∧Ris lo hi (decide (¬ lo < 0)) (lo - 1) l:=by
 have hz:zhj (lo,hi,())=false:=by
  rw[qX];intro e;unfold zhj at e;rw[zf,beq_iff_eq,beq_iff_eq]at e;exact h0 e
 unfold zaS at h;rw[hz,cond_false,zf,decide_eq_true_iff,zZ]at h;refine⟨fun e=>by rw[e]at h;exact absurd h.2 (by decide),ris_of fun i hi=>?_⟩;have:=h.1 i (List.mem_range.2 hi);rwa[zB]at this
theorem zdl {l:List Int} (h:zaS l (0,0,())=true):l=[]:=by
 have h:(((l.length:Nat):Int)==0)=true:=h;have:=beq_iff_eq.1 h;exact List.eq_nil_of_length_eq_zero (by omega)
theorem zlb (c:UInt8):isLt c=((decide (97≤(c.toNat:Int))&&decide ((c.toNat:Int)≤122))||(decide (65≤(c.toNat:Int))&&decide ((c.toNat:Int)≤90))):=by
 have h:∀ n:Fin 256,(isLt (yh n.val)==((decide (97≤((yh n.val).toNat:Int))&&decide (((yh n.val).toNat:Int)≤122))||(decide (65≤((yh n.val).toNat:Int))&&decide (((yh n.val).toNat:Int)≤90))))=true:=by decide+kernel
 have:=h ⟨c.toNat,c.toNat_lt⟩;rw[vW]at this;exact beq_iff_eq.1 this
theorem znA (s:ByteArray) (pos:Nat) (h:pos < s.size):1≤(kM s pos).2:=by
 by_cases ha:(s[pos]'h).toNat < 128
 ·rw[decode_ascii s pos h ha];exact zl _
 ·exact (decode_high s pos h (by omega)).2
def LtR (c:Int):Prop:=(97≤c∧c≤122)∨(65≤c∧c≤90)
def DgR (c:Int):Prop:=(48≤c∧c≤57)∨c=45
theorem zoH {l:List UInt8} {pos c wd:Nat} (hp:pos < l.length) (hdec:(l[pos].toNat < 128∧(c,wd)=(l[pos].toNat,1))∨(128≤l[pos].toNat∧128≤c)) (hhd:0 < pos->l.head?.all isLt=true) (hall:(l.take pos).all isPt=true)
  (h:LtR c∨(pos≠0∧DgR c)):wd=1∧l.head?.all isLt=true∧(l.take (pos+1)).all isPt=true:=by
 unfold LtR DgR at h;rcases hdec with ⟨h1,e⟩|⟨h1,e⟩
 ·have e1:c=l[pos].toNat:=congrArg (fun x=>x.1) e;have e2:wd=1:=congrArg (fun x=>x.2) e;have hpt:isPt l[pos]=true:=by
   unfold isPt;rw[zlb];rcases h with h|⟨_,h|h⟩
   ·have:((decide (97≤(l[pos].toNat:Int))&&decide ((l[pos].toNat:Int)≤122))||(decide (65≤(l[pos].toNat:Int))&&decide ((l[pos].toNat:Int)≤90)))=true:=by
     simp only[yl,zf,decide_eq_true_iff];omega
    rw[this];rfl
   ·have:isDg l[pos]=true:=by
     unfold isDg;rw[zf,decide_eq_true_iff,decide_eq_true_iff,yX,yX];exact⟨by show 48≤_;omega,by show _≤57;omega⟩
    rw[this,Bool.or_true];rfl
   ·have:l[pos]=45:=UInt8.toNat_inj.1 (by show _=45;omega);rw[this];rfl
  refine⟨e2,?_,?_⟩
  ·by_cases h0:pos=0
   ·subst h0;have hl:isLt l[0]=true:=by
     rw[zlb];simp only[yl,zf,decide_eq_true_iff];omega
    cases l with
    |nil=>rfl
    |cons a q=>exact hl
   ·exact hhd (by omega)
  ·rw[zO hp,List.all_append,hall,List.all_cons,hpt];rfl
 ·omega
theorem zqN {l:List UInt8} {pos c wd:Nat} (hp:pos < l.length) (hdec:(l[pos].toNat < 128∧(c,wd)=(l[pos].toNat,1))∨(128≤l[pos].toNat∧128≤c)) (h:¬ (LtR c∨(pos≠0∧DgR c))):zdY l=false:=by
 unfold LtR DgR at h;have hlt:isLt l[pos]=false:=by
  rw[zlb];simp only[xu,jr,decide_eq_false_iff_not];rcases hdec with ⟨h1,e⟩|⟨h1,e⟩
  ·have e1:c=l[pos].toNat:=congrArg (fun x=>x.1) e;omega
  ·omega
 unfold zdY;by_cases h0:pos=0
 ·subst h0;cases l with
  |nil=>exact absurd hp (y8 _)
  |cons a q=>
   have hlt:isLt a=false:=hlt;show (_&&_&&(isLt a&&_))=false;rw[hlt,xL,xk]
 ·have hpt:isPt l[pos]=false:=by
   unfold isPt;have hd:isDg l[pos]=false:=by
    unfold isDg;rw[jr,decide_eq_false_iff_not,decide_eq_false_iff_not,yX,yX];show ¬ 48≤_∨¬ _≤57;rcases hdec with ⟨h1,e⟩|⟨h1,e⟩
    ·have e1:c=l[pos].toNat:=congrArg (fun x=>x.1) e;omega
    ·omega
   have h45:(l[pos]==45)=false:=by
    rw[beq_eq_false_iff_ne];intro e2;have e3:l[pos].toNat=45:=by rw[e2];rfl
    rcases hdec with ⟨h1,e⟩|⟨h1,e⟩
    ·have e1:c=l[pos].toNat:=congrArg (fun x=>x.1) e;omega
    ·omega
   rw[hlt,hd,h45];rfl
  have:l.all isPt=false:=by
   rw[List.all_eq_false];exact⟨l[pos],xS hp,by rw[hpt];decide⟩
  rw[this,xk,xk]
set_option maxHeartbeats 2000000 in
theorem zk9 (l:List UInt8) (w:zj):Calls Tryz.prog 120 #[.string ⟨l.toArray⟩] w fun e w'=>e= .returned (.bool (zdY l))∧∃ pos,w'=w.iter ⟨l.toArray⟩ pos:=by
 go_enter Tryz.func120,Tryz.ntmps120
 go_wp2
 go_loopw [] (fun w'=>∃ (pos:Nat),w'=w.iter ⟨l.toArray⟩ pos∧pos≤l.length∧(0 < pos->l.head?.all isLt=true)∧(l.take pos).all isPt=true) (fun w'=>l.length - w'.iterPos w.heap.size)
 case atStart=>exact⟨0,rfl,zk _,fun h=>absurd h (by decide),rfl⟩
 case round=>
  obtain⟨pos,rfl,hpos,hhd,hall⟩:=hrel;have hsz:(⟨l.toArray⟩:ByteArray).size=l.length:=by simp[ByteArray.size]
  by_cases hp:pos < (⟨l.toArray⟩:ByteArray).size
  ·have hnx:∀ ty,(Instr.next (.pointer (some ⟨w.heap.size,0,none⟩)) true ty).run Tryz.prog (w.iter ⟨l.toArray⟩ pos)=_:=fun ty=>run_next_any w _ pos ty hp;have hwd:=znA _ pos hp;have hlo:l[pos]'(by omega)=(⟨l.toArray⟩:ByteArray)[pos]'hp:=rfl;have hdec:((l[pos]'(by omega)).toNat < 128∧kM ⟨l.toArray⟩ pos=((l[pos]'(by omega)).toNat,1))∨(128≤(l[pos]'(by omega)).toNat∧128≤(kM ⟨l.toArray⟩ pos).1):=by
    by_cases ha:(l[pos]'(by omega)).toNat < 128
    ·exact .inl ⟨ha,decode_ascii _ pos hp ha⟩
    ·exact .inr ⟨by omega,(decode_high _ pos hp (by rw[<-hlo];omega)).1⟩
   generalize kM ⟨l.toArray⟩ pos=dc at hnx hwd hdec;obtain⟨c,wd⟩:=dc;simp only[]at hnx hwd hdec;generalize hci:((c:Nat):Int)=ci at hnx;have hlen:pos < l.length:=by omega
   have hgood:=zoH hlen hdec hhd hall;have hbad:=zqN hlen hdec;rw[hci]at hgood hbad;by_cases hcase:LtR ci∨(pos≠0∧DgR ci)
   ·obtain⟨e1,e2,e3⟩:=hgood hcase;clear hgood hbad hdec hlo;unfold LtR DgR at hcase
    go_wp2
    all_goals (first
     |(exfalso
       clear hnx;simp only[zB,xj,decide_eq_false_iff_not,decide_eq_true_eq,beq_iff_eq,beq_eq_false_iff_ne]at *;omega)
     |(go_roundw
       case rel=>exact⟨pos+1,by simp[*],by omega,fun _=>e2,e3⟩
       case measure=>(simp[*];omega)))
   ·have hnf:=hbad hcase;clear hgood hbad hdec hlo;unfold LtR DgR at hcase
    go_wp2
    all_goals (first
     |(exfalso
       clear hnx;simp only[zB,xj,decide_eq_false_iff_not,decide_eq_true_eq,beq_iff_eq,beq_eq_false_iff_ne]at *;omega)
     |(go_ret
       refine⟨?_,_,rfl⟩
       first|rfl|(rw[hnf];rfl)|(simp[*];done)))
  ·have hnx:∀ ty,(Instr.next (.pointer (some ⟨w.heap.size,0,none⟩)) true ty).run Tryz.prog (w.iter ⟨l.toArray⟩ pos)=_:=fun ty=>run_next_end w _ pos ty hp;have hend:zdY l=(decide (l≠ [])&&decide (l.length≤32)):=by
    have hpl:pos=l.length:=by omega
    subst hpl;rw[xd]at hall;have hh:l.head?.all isLt=true:=by
     cases l with
     |nil=>rfl
     |cons a q=>exact hhd (Nat.zero_lt_succ _)
    unfold zdY;rw[hh,hall];simp
   go_wp2
   all_goals (
    rename_i hne
    go_ret
    refine⟨?_,pos,by simp[hne]⟩;rw[hend]
    first
    |(simp[hne];done)
    |(cases l with
      |nil=>exact absurd rfl hne
      |cons a q=>(simp;try omega)))
def cName:Ctr:={ args:=[.str],pre:=fun _=>[],res:=.bool,own:=none,out:=fun x=>zdY x.1 }
theorem zoI:yK Tryz.prog gmH 120 cName:=by
 refine⟨Tryz.call120,fun w O xs vs hO hr hp hG=>?_⟩;obtain⟨(l:List UInt8),_⟩:=xs;obtain⟨v1,r1,rfl,e1,rfl⟩:=hr;have e1: [v1]=[Value.string ⟨l.toArray⟩]∧l.length≤maxLen:=e1;obtain⟨e1,_⟩:=e1;cases e1;refine (zk9 l w).mono ?_;rintro e w' ⟨rfl,pos,rfl⟩;exact⟨_,rfl,za4 w _,fun β=>rfl⟩
set_option maxRecDepth 10000
theorem fld1 {n:Nd} (h:zbc n=true) (k:ndK n=1):n=(1,0,ndL n,ndR n,ndN n,ndM n,[],[],())∧(1≤ndN n∧ndN n≤1099511627776)∧(0≤ndM n∧ndM n≤1099511627776):=by
 obtain⟨_,hlen,hc,hm,hl,hn⟩:=zaE h;obtain⟨k',c,L,R,N,M,I,S,⟨⟩⟩:=n;obtain rfl:k'=1:=k;have hc2:(c==0)=true:=hc;obtain rfl:=beq_iff_eq.1 hc2;have hm2:decide (S=[])=true:=hm;obtain rfl:=of_decide_eq_true hm2;obtain rfl:=zdl (show zaS I (0,0,())=true from hl);have hn2:(bif inB N 1 1099511627776 then inB M 0 1099511627776 else false)=true:=hn;simp only[zc6,zf,zaL,beq_iff_eq,zB,beq_eq_false_iff_ne]at hn2;exact⟨rfl,hn2.1,hn2.2⟩
theorem fld2 {n:Nd} (h:zbc n=true) (k:ndK n=2):n=(2,ndC n,ndL n,ndR n,ndN n,ndM n,[],[],())∧(0≤ndC n∧ndC n≤2)∧(1≤ndN n∧ndN n≤400)∧(0≤ndM n∧ndM n≤ndN n - 1):=by
 obtain⟨_,hlen,hc,hm,hl,hn⟩:=zaE h;obtain⟨k',c,L,R,N,M,I,S,⟨⟩⟩:=n;obtain rfl:k'=2:=k;have hc2:inB c 0 2=true:=hc;rw[zaL]at hc2;have hm2:decide (S=[])=true:=hm;obtain rfl:=of_decide_eq_true hm2;obtain rfl:=zdl (show zaS I (0,0,())=true from hl);have hn2:(bif inB N 1 400 then inB M 0 (N - 1) else false)=true:=hn;simp only[zc6,zf,zaL,beq_iff_eq,zB,beq_eq_false_iff_ne]at hn2;exact⟨rfl,hc2,hn2.1,hn2.2⟩
theorem fld3 {n:Nd} (h:zbc n=true) (k:ndK n=3):n=(3,ndC n,ndL n,ndR n,0,0,ndI n,[],())∧(0≤ndC n∧ndC n≤2)∧(ndI n≠ []∧(ndI n).length≤64∧Ris (1) 16 true (0) (ndI n)):=by
 obtain⟨_,hlen,hc,hm,hl,hn⟩:=zaE h;obtain⟨k',c,L,R,N,M,I,S,⟨⟩⟩:=n;obtain rfl:k'=3:=k;have hc2:inB c 0 2=true:=hc;rw[zaL]at hc2;have hm2:decide (S=[])=true:=hm;obtain rfl:=of_decide_eq_true hm2;have hl2:=ze4 (by decide) (show zaS I (1,16,())=true from hl);have hn2:(bif N==0 then M==0 else false)=true:=hn;simp only[zc6,zf,zaL,beq_iff_eq,zB,beq_eq_false_iff_ne]at hn2;obtain⟨rfl,rfl⟩:=hn2;exact⟨rfl,hc2,⟨hl2.1,hlen,hl2.2⟩⟩
theorem fld4 {n:Nd} (h:zbc n=true) (k:ndK n=4):n=(4,ndC n,ndL n,ndR n,0,0,ndI n,[],())∧(0≤ndC n∧ndC n≤2)∧(ndI n≠ []∧(ndI n).length≤64∧Ris (-40) 40 false (-41) (ndI n)):=by
 obtain⟨_,hlen,hc,hm,hl,hn⟩:=zaE h;obtain⟨k',c,L,R,N,M,I,S,⟨⟩⟩:=n;obtain rfl:k'=4:=k;have hc2:inB c 0 2=true:=hc;rw[zaL]at hc2;have hm2:decide (S=[])=true:=hm;obtain rfl:=of_decide_eq_true hm2;have hl2:=ze4 (by decide) (show zaS I (-40,40,())=true from hl);have hn2:(bif N==0 then M==0 else false)=true:=hn;simp only[zc6,zf,zaL,beq_iff_eq,zB,beq_eq_false_iff_ne]at hn2;obtain⟨rfl,rfl⟩:=hn2;exact⟨rfl,hc2,⟨hl2.1,hlen,hl2.2⟩⟩
theorem fld5 {n:Nd} (h:zbc n=true) (k:ndK n=5):n=(5,0,ndL n,ndR n,0,0,ndI n,[],())∧(ndI n≠ []∧(ndI n).length≤64∧Ris (0) 6 true (-1) (ndI n)):=by
 obtain⟨_,hlen,hc,hm,hl,hn⟩:=zaE h;obtain⟨k',c,L,R,N,M,I,S,⟨⟩⟩:=n;obtain rfl:k'=5:=k;have hc2:(c==0)=true:=hc;obtain rfl:=beq_iff_eq.1 hc2;have hm2:decide (S=[])=true:=hm;obtain rfl:=of_decide_eq_true hm2;have hl2:=ze4 (by decide) (show zaS I (0,6,())=true from hl);have hn2:(bif N==0 then M==0 else false)=true:=hn;simp only[zc6,zf,zaL,beq_iff_eq,zB,beq_eq_false_iff_ne]at hn2;obtain⟨rfl,rfl⟩:=hn2;exact⟨rfl,⟨hl2.1,hlen,hl2.2⟩⟩
theorem fld6 {n:Nd} (h:zbc n=true) (k:ndK n=6):n=(6,ndC n,ndL n,ndR n,0,0,ndI n,[],())∧(0≤ndC n∧ndC n≤2)∧(ndI n≠ []∧(ndI n).length≤64∧Ris (1) 54 true (0) (ndI n)):=by
 obtain⟨_,hlen,hc,hm,hl,hn⟩:=zaE h;obtain⟨k',c,L,R,N,M,I,S,⟨⟩⟩:=n;obtain rfl:k'=6:=k;have hc2:inB c 0 2=true:=hc;rw[zaL]at hc2;have hm2:decide (S=[])=true:=hm;obtain rfl:=of_decide_eq_true hm2;have hl2:=ze4 (by decide) (show zaS I (1,54,())=true from hl);have hn2:(bif N==0 then M==0 else false)=true:=hn;simp only[zc6,zf,zaL,beq_iff_eq,zB,beq_eq_false_iff_ne]at hn2;obtain⟨rfl,rfl⟩:=hn2;exact⟨rfl,hc2,⟨hl2.1,hlen,hl2.2⟩⟩
theorem fld7 {n:Nd} (h:zbc n=true) (k:ndK n=7):n=(7,ndC n,ndL n,ndR n,ndN n,ndM n,[],[],())∧(0≤ndC n∧ndC n≤2)∧(-60≤ndN n∧ndN n≤60)∧ndN n≠0∧(0≤ndM n∧ndM n≤6)∧(0≤ndL n∧ndL n≤1):=by
 obtain⟨_,hlen,hc,hm,hl,hn⟩:=zaE h;obtain⟨k',c,L,R,N,M,I,S,⟨⟩⟩:=n;obtain rfl:k'=7:=k;have hc2:inB c 0 2=true:=hc;rw[zaL]at hc2;have hm2:decide (S=[])=true:=hm;obtain rfl:=of_decide_eq_true hm2;obtain rfl:=zdl (show zaS I (0,0,())=true from hl);have hn2:(bif (bif (bif inB N (-60) 60 then !(N==0) else false) then inB M 0 6 else false) then inB L 0 1 else false)=true:=hn;simp only[zc6,zf,zaL,beq_iff_eq,zB,beq_eq_false_iff_ne]at hn2;exact⟨rfl,hc2,hn2.1.1.1,hn2.1.1.2,hn2.1.2,hn2.2⟩
theorem fld8 {n:Nd} (h:zbc n=true) (k:ndK n=8):n=(8,0,ndL n,ndR n,0,0,[],[],()):=by
 obtain⟨_,hlen,hc,hm,hl,hn⟩:=zaE h;obtain⟨k',c,L,R,N,M,I,S,⟨⟩⟩:=n;obtain rfl:k'=8:=k;have hc2:(c==0)=true:=hc;obtain rfl:=beq_iff_eq.1 hc2;have hm2:decide (S=[])=true:=hm;obtain rfl:=of_decide_eq_true hm2;obtain rfl:=zdl (show zaS I (0,0,())=true from hl);have hn2:(bif N==0 then M==0 else false)=true:=hn;simp only[zc6,zf,zaL,beq_iff_eq,zB,beq_eq_false_iff_ne]at hn2;obtain⟨rfl,rfl⟩:=hn2;exact rfl
theorem fld9 {n:Nd} (h:zbc n=true) (k:ndK n=9):n=(9,0,ndL n,ndR n,0,0,[],[],()):=by
 obtain⟨_,hlen,hc,hm,hl,hn⟩:=zaE h;obtain⟨k',c,L,R,N,M,I,S,⟨⟩⟩:=n;obtain rfl:k'=9:=k;have hc2:(c==0)=true:=hc;obtain rfl:=beq_iff_eq.1 hc2;have hm2:decide (S=[])=true:=hm;obtain rfl:=of_decide_eq_true hm2;obtain rfl:=zdl (show zaS I (0,0,())=true from hl);have hn2:(bif N==0 then M==0 else false)=true:=hn;simp only[zc6,zf,zaL,beq_iff_eq,zB,beq_eq_false_iff_ne]at hn2;obtain⟨rfl,rfl⟩:=hn2;exact rfl
theorem fld10 {n:Nd} (h:zbc n=true) (k:ndK n=10):n=(10,0,ndL n,ndR n,0,0,[],[],()):=by
 obtain⟨_,hlen,hc,hm,hl,hn⟩:=zaE h;obtain⟨k',c,L,R,N,M,I,S,⟨⟩⟩:=n;obtain rfl:k'=10:=k;have hc2:(c==0)=true:=hc;obtain rfl:=beq_iff_eq.1 hc2;have hm2:decide (S=[])=true:=hm;obtain rfl:=of_decide_eq_true hm2;obtain rfl:=zdl (show zaS I (0,0,())=true from hl);have hn2:(bif N==0 then M==0 else false)=true:=hn;simp only[zc6,zf,zaL,beq_iff_eq,zB,beq_eq_false_iff_ne]at hn2;obtain⟨rfl,rfl⟩:=hn2;exact rfl
theorem ztB {n:Nd} (h:zbc n=true) (k:ndK n=11):n=(11,0,ndL n,ndR n,ndN n,0,[],[],())∧(-1099511627776≤ndN n∧ndN n≤1099511627776):=by
 obtain⟨_,hlen,hc,hm,hl,hn⟩:=zaE h;obtain⟨k',c,L,R,N,M,I,S,⟨⟩⟩:=n;obtain rfl:k'=11:=k;have hc2:(c==0)=true:=hc;obtain rfl:=beq_iff_eq.1 hc2;have hm2:decide (S=[])=true:=hm;obtain rfl:=of_decide_eq_true hm2;obtain rfl:=zdl (show zaS I (0,0,())=true from hl);have hn2:(bif inB N (-1099511627776) 1099511627776 then M==0 else false)=true:=hn;simp only[zc6,zf,zaL,beq_iff_eq,zB,beq_eq_false_iff_ne]at hn2;obtain rfl:=hn2.2;exact⟨rfl,hn2.1⟩
theorem ztA {n:Nd} (h:zbc n=true) (k:ndK n=12):n=(12,0,ndL n,ndR n,ndN n,0,[],[],())∧(0≤ndN n∧ndN n≤1099511627776):=by
 obtain⟨_,hlen,hc,hm,hl,hn⟩:=zaE h;obtain⟨k',c,L,R,N,M,I,S,⟨⟩⟩:=n;obtain rfl:k'=12:=k;have hc2:(c==0)=true:=hc;obtain rfl:=beq_iff_eq.1 hc2;have hm2:decide (S=[])=true:=hm;obtain rfl:=of_decide_eq_true hm2;obtain rfl:=zdl (show zaS I (0,0,())=true from hl);have hn2:(bif inB N 0 1099511627776 then M==0 else false)=true:=hn;simp only[zc6,zf,zaL,beq_iff_eq,zB,beq_eq_false_iff_ne]at hn2;obtain rfl:=hn2.2;exact⟨rfl,hn2.1⟩
theorem ztz {n:Nd} (h:zbc n=true) (k:ndK n=13):n=(13,0,ndL n,ndR n,ndN n,0,[],[],())∧(0≤ndN n∧ndN n≤1099511627776):=by
 obtain⟨_,hlen,hc,hm,hl,hn⟩:=zaE h;obtain⟨k',c,L,R,N,M,I,S,⟨⟩⟩:=n;obtain rfl:k'=13:=k;have hc2:(c==0)=true:=hc;obtain rfl:=beq_iff_eq.1 hc2;have hm2:decide (S=[])=true:=hm;obtain rfl:=of_decide_eq_true hm2;obtain rfl:=zdl (show zaS I (0,0,())=true from hl);have hn2:(bif inB N 0 1099511627776 then M==0 else false)=true:=hn;simp only[zc6,zf,zaL,beq_iff_eq,zB,beq_eq_false_iff_ne]at hn2;obtain rfl:=hn2.2;exact⟨rfl,hn2.1⟩
theorem zty {n:Nd} (h:zbc n=true) (k:ndK n=14):n=(14,0,ndL n,ndR n,0,0,ndI n,[],())∧(ndI n≠ []∧(ndI n).length≤64∧Ris (0) 1099511627776 true (-1) (ndI n)):=by
 obtain⟨_,hlen,hc,hm,hl,hn⟩:=zaE h;obtain⟨k',c,L,R,N,M,I,S,⟨⟩⟩:=n;obtain rfl:k'=14:=k;have hc2:(c==0)=true:=hc;obtain rfl:=beq_iff_eq.1 hc2;have hm2:decide (S=[])=true:=hm;obtain rfl:=of_decide_eq_true hm2;have hl2:=ze4 (by decide) (show zaS I (0,1099511627776,())=true from hl);have hn2:(bif N==0 then M==0 else false)=true:=hn;simp only[zc6,zf,zaL,beq_iff_eq,zB,beq_eq_false_iff_ne]at hn2;obtain⟨rfl,rfl⟩:=hn2;exact⟨rfl,⟨hl2.1,hlen,hl2.2⟩⟩
theorem ztx {n:Nd} (h:zbc n=true) (k:ndK n=15):n=(15,0,ndL n,ndR n,0,0,ndI n,[],())∧(ndI n≠ []∧(ndI n).length≤64∧Ris (0) 1099511627776 true (-1) (ndI n)):=by
 obtain⟨_,hlen,hc,hm,hl,hn⟩:=zaE h;obtain⟨k',c,L,R,N,M,I,S,⟨⟩⟩:=n;obtain rfl:k'=15:=k;have hc2:(c==0)=true:=hc;obtain rfl:=beq_iff_eq.1 hc2;have hm2:decide (S=[])=true:=hm;obtain rfl:=of_decide_eq_true hm2;have hl2:=ze4 (by decide) (show zaS I (0,1099511627776,())=true from hl);have hn2:(bif N==0 then M==0 else false)=true:=hn;simp only[zc6,zf,zaL,beq_iff_eq,zB,beq_eq_false_iff_ne]at hn2;obtain⟨rfl,rfl⟩:=hn2;exact⟨rfl,⟨hl2.1,hlen,hl2.2⟩⟩
theorem ztw {n:Nd} (h:zbc n=true) (k:ndK n=16):n=(16,ndC n,ndL n,ndR n,0,ndM n,ndI n,[],())∧(0≤ndC n∧ndC n≤2)∧(ndI n≠ []∧(ndI n).length≤64∧Ris (-400) 400 false (-401) (ndI n))∧(0≤ndM n∧ndM n≤1):=by
 obtain⟨_,hlen,hc,hm,hl,hn⟩:=zaE h;obtain⟨k',c,L,R,N,M,I,S,⟨⟩⟩:=n;obtain rfl:k'=16:=k;have hc2:inB c 0 2=true:=hc;rw[zaL]at hc2;have hm2:decide (S=[])=true:=hm;obtain rfl:=of_decide_eq_true hm2;have hl2:=ze4 (by decide) (show zaS I (-400,400,())=true from hl);have hn2:(bif N==0 then inB M 0 1 else false)=true:=hn;simp only[zc6,zf,zaL,beq_iff_eq,zB,beq_eq_false_iff_ne]at hn2;obtain rfl:=hn2.1;exact⟨rfl,hc2,⟨hl2.1,hlen,hl2.2⟩,hn2.2⟩
theorem ztv {n:Nd} (h:zbc n=true) (k:ndK n=17):n=(17,0,ndL n,ndR n,ndN n,0,[],[],())∧(1≤ndN n∧ndN n≤400):=by
 obtain⟨_,hlen,hc,hm,hl,hn⟩:=zaE h;obtain⟨k',c,L,R,N,M,I,S,⟨⟩⟩:=n;obtain rfl:k'=17:=k;have hc2:(c==0)=true:=hc;obtain rfl:=beq_iff_eq.1 hc2;have hm2:decide (S=[])=true:=hm;obtain rfl:=of_decide_eq_true hm2;obtain rfl:=zdl (show zaS I (0,0,())=true from hl);have hn2:(bif inB N 1 400 then M==0 else false)=true:=hn;simp only[zc6,zf,zaL,beq_iff_eq,zB,beq_eq_false_iff_ne]at hn2;obtain rfl:=hn2.2;exact⟨rfl,hn2.1⟩
theorem ztu {n:Nd} (h:zbc n=true) (k:ndK n=18):n=(18,0,ndL n,ndR n,0,0,[],ndS n,())∧zdY (ndS n)=true:=by
 obtain⟨_,hlen,hc,hm,hl,hn⟩:=zaE h;obtain⟨k',c,L,R,N,M,I,S,⟨⟩⟩:=n;obtain rfl:k'=18:=k;have hc2:(c==0)=true:=hc;obtain rfl:=beq_iff_eq.1 hc2;have hm2:zdY S=true:=hm;obtain rfl:=zdl (show zaS I (0,0,())=true from hl);have hn2:(bif N==0 then M==0 else false)=true:=hn;simp only[zc6,zf,zaL,beq_iff_eq,zB,beq_eq_false_iff_ne]at hn2;obtain⟨rfl,rfl⟩:=hn2;exact⟨rfl,hm2⟩
def resQ (s:List UInt8):Nat->GSt->GE (Tr×GSt)
 |0,st=>prsT s (.bin 0) st
 |1,st=>prsT s (.bin 1) st
 |2,st=>prsT s (.bin 2) st
 |3,st=>prsT s .chain st
 |_,st=>prsT s .prim st
def contQ (s:List UInt8):Nat->Tr->GSt->GE (Tr×GSt)
 |0,t,st=>prsT s (.binL 0 t) st
 |1,t,st=>prsT s (.binL 1 t) st
 |2,t,st=>prsT s (.binL 2 t) st
 |3,t,st=>prsT s (.chainL t) st
 |_,t,st=>.ok (t,st)
def zqM:List Tk->Prop
 | []=>True
 |a::_=>a.1=1->sufW a.2.1=none
def ztt:Nat->List Tk->Prop
 |0,l=>tkIs zjG l=false∧tkIs wAnd l=false∧zqM l
 |1,l=>tkIs wAnd l=false∧zqM l
 |2,l=>zqM l
 |_,_=>True
def Qt (i:Nat) (T:List Tk) (t:Tr):Prop:=∀ (s:List UInt8) (st:GSt) (l:List Tk),GOk s st->Sq s st.1 (T++l)->st.2+(t.size:Int)≤64->ztt i l->∃ st',resQ s i st=contQ s i t st'∧Got s st t.size l st'
section
variable {s:List UInt8}
theorem zos {st:GSt} {l:List Tk} {t:Tr} (hg:GOk s st) (h:Sq s st.1 l) (hf:zqM l):prsT s (.chainL t) st= .ok (t,st):=by
 cases l with
 |nil=>
  have h:zQ st.1=0:=h;exact zeg hg (by rw[h];decide)
 |cons a l=>
  have hf:a.1=1->sufW a.2.1=none:=hf;obtain⟨_,e,_⟩:=h;have e1:zQ st.1=a.1:=congrArg (fun a=>a.1) e;have e2:zR st.1=a.2.1:=congrArg (fun a=>a.2.1) e;by_cases hc:a.1=1
  ·exact zgl hg (by rw[e1,hc]) (by rw[e2];exact hf hc)
  ·exact zeg hg (by rw[e1];exact hc)
theorem zil {i:Nat} {st:GSt} {l:List Tk} {t:Tr} (hg:GOk s st) (h:Sq s st.1 l) (hf:tkIs (opW i) l=false):prsT s (.binL i t) st= .ok (t,st):=zio hg (by rw[zhY h];exact hf)
theorem Qt.chain {T:List Tk} {t:Tr} (h:Qt 4 T t):Qt 3 T t:=fun s st l hg hq hn hf=>by
 obtain⟨st',e,g⟩:=h s st l hg hq hn trivial;have e:prsT s .prim st= .ok (t,st'):=e;exact⟨st',by show prsT s .chain st=prsT s (.chainL t) st';rw[zim hg];exact okb e _,g⟩
theorem Qt.up3 {T:List Tk} {t:Tr} (h:Qt 3 T t):Qt 2 T t:=fun s st l hg hq hn hf=>by
 obtain⟨st',e,g⟩:=h s st l hg hq hn trivial;have e:prsT s .chain st=prsT s (.chainL t) st':=e;rw[zos g.ok g.sq hf]at e;refine⟨st',?_,g⟩;show prsT s (.bin 2) st=prsT s (.binL 2 t) st';rw[zgH hg (by decide),zhe hg (by decide)];exact okb e _
theorem Qt.up2 {T:List Tk} {t:Tr} (h:Qt 2 T t):Qt 1 T t:=fun s st l hg hq hn hf=>by
 obtain⟨st',e,g⟩:=h s st l hg hq hn hf.2;have e:prsT s (.bin 2) st=prsT s (.binL 2 t) st':=e;rw[zil (i:=2) g.ok g.sq hf.1]at e;refine⟨st',?_,g⟩;show prsT s (.bin 1) st=prsT s (.binL 1 t) st';rw[zgH hg (by decide)];exact okb e _
theorem Qt.up1 {T:List Tk} {t:Tr} (h:Qt 1 T t):Qt 0 T t:=fun s st l hg hq hn hf=>by
 obtain⟨st',e,g⟩:=h s st l hg hq hn hf.2;have e:prsT s (.bin 1) st=prsT s (.binL 1 t) st':=e;rw[zil (i:=1) g.ok g.sq hf.1]at e;refine⟨st',?_,g⟩;show prsT s (.bin 0) st=prsT s (.binL 0 t) st';rw[zgH hg (by decide)];exact okb e _
theorem Qt.up {T:List Tk} {t:Tr}:∀ {j i:Nat},Qt j T t->i≤j->j≤4->Qt i T t:=by
 intro j i h hij hj;have h4:j=4->∀ i,i≤4->Qt i T t:=by
  rintro rfl i hi;rcases (show i=0∨i=1∨i=2∨i=3∨i=4 by omega) with rfl|rfl|rfl|rfl|rfl
  ·exact h.chain.up3.up2.up1
  ·exact h.chain.up3.up2
  ·exact h.chain.up3
  ·exact h.chain
  ·exact h
 rcases (show j=0∨j=1∨j=2∨j=3∨j=4 by omega) with rfl|rfl|rfl|rfl|rfl
 ·obtain rfl:i=0:=by omega
  exact h
 ·rcases (show i=0∨i=1 by omega) with rfl|rfl
  ·exact h.up1
  ·exact h
 ·rcases (show i=0∨i=1∨i=2 by omega) with rfl|rfl|rfl
  ·exact h.up2.up1
  ·exact h.up2
  ·exact h
 ·rcases (show i=0∨i=1∨i=2∨i=3 by omega) with rfl|rfl|rfl|rfl
  ·exact h.up3.up2.up1
  ·exact h.up3.up2
  ·exact h.up3
  ·exact h
 ·exact h4 rfl i hij
theorem Qt.par {T:List Tk} {t:Tr} (h:Qt 0 T t):Qt 4 (tkS 40::(T++ [tkS 41])) t:=fun s st l hg hq hn hf=>by
 have hq:Sq s st.1 (tkS 40::(T++ [tkS 41]++l)):=hq;have i1:gIs st ze9=true:=by rw[zhY hq];rfl
 have g1:=zqC hg hq;have q1:=g1.sq;rw[zp]at q1;obtain⟨st',e,g2⟩:=h s (gAdv s st) (tkS 41::l) g1.ok q1 hn ⟨rfl,rfl,fun e=>by cases e⟩;have e:prsT s (.bin 0) (gAdv s st)=prsT s (.binL 0 t) st':=e;rw[zil g2.ok g2.sq rfl]at e;obtain⟨e3,g3⟩:=zgF (w:=zc7) g2.ok g2.sq rfl;refine⟨gAdv s st',?_,?_⟩
 ·show prsT s .prim st= .ok (t,gAdv s st');rw[zcB hg,zbp,if_pos i1];exact (okb e _).trans ((okb e3 _).trans rfl)
 ·have:=(g1.trans g2).trans0 g3;rwa[ut]at this
theorem zhc {st:GSt} {w:List UInt8} {lw:LeafW} {T l:List Tk} {n:Nd} (hw:zgz w=some lw) (hw1:w≠ze9) (hg:GOk s st) (h:Sq s st.1 (tkW w::(T++l))) (hn:st.2+1≤64)
  (hl:∀ st1,GOk s st1->Sq s st1.1 (T++l)->∃ st2,zdp s st1 lw= .ok (n,st2)∧Got s st1 0 l st2):∃ st',prsT s .prim st= .ok (.leaf n,st')∧Got s st 1 l st':=by
 have i1:gIs st ze9=false:=by
  rw[zhY h];show (true&&decide (w=ze9))=false;rw[decide_eq_false hw1];rfl
 obtain⟨e0,g0⟩:=zi1 hg h (by omega);obtain⟨_,e,_⟩:=id h;have e1:zQ st.1=1:=congrArg (fun a=>a.1) e;have e2:zR st.1=w:=congrArg (fun a=>a.2.1) e;obtain⟨st2,e3,g3⟩:=hl _ g0.ok g0.sq;refine⟨st2,?_,g0.trans0 g3⟩;rw[zcB hg,zbp,if_neg (by rw[i1];exact yO),if_neg (by rw[e1];decide)];have c0:zaF st (zQ st.1==1) 3= .ok ():=by rw[e1];rfl
 refine (okb c0 _).trans ?_;rw[e2,hw];exact (okb e0 _).trans ((okb e3 _).trans rfl)
theorem q_ref {st:GSt} {w:List UInt8} {l:List Tk} (hw:w.length≤32) (hg:GOk s st) (h:Sq s st.1 (tkR w::l)) (hn:st.2+1≤64):∃ st',prsT s .prim st= .ok (.leaf (18,0,0,0,0,0,[],w,()),st')∧Got s st 1 l st':=by
 have i1:gIs st ze9=false:=by rw[zhY h];rfl
 obtain⟨e0,g0⟩:=zi1 hg h (by omega);obtain⟨_,e,_⟩:=id h;have e1:zQ st.1=2:=congrArg (fun a=>a.1) e;have e2:zR st.1=w:=congrArg (fun a=>a.2.1) e;refine⟨_,?_,g0⟩;rw[zcB hg,zbp,if_neg (by rw[i1];exact yO),if_pos e1];have c0:zaF st (decide ((zR st.1).length≤32)) 2= .ok ():=by rw[e2,decide_eq_true hw];rfl
 refine (okb c0 _).trans ((okb e0 _).trans ?_);rw[e2];rfl
theorem setN {n:Nd} {k c L R N M:Int} {I:List Int} {S:List UInt8} (e:n=(k,c,ndL n,ndR n,N,M,I,S,())) (hL:ndL n=L) (hR:ndR n=R):n=(k,c,L,R,N,M,I,S,()):=by rw[<-hL, <-hR];exact e
theorem zou {n:Nd} (h:TrOk (.leaf n)):Qt 4 (ziz n) (.leaf n):=fun s st l hg hq hn hf=>by
 obtain⟨h1,h2,hR,hL⟩:=h;have hn:st.2+1≤64:=hn;obtain⟨⟨k1,k2⟩,_⟩:=zaE h1;show ∃ st',prsT s .prim st= .ok (.leaf n,st')∧Got s st 1 l st';unfold ziz at hq;rcases (show ndK n=1∨ndK n=2∨ndK n=3∨ndK n=4∨ndK n=5∨ndK n=6∨ndK n=7∨ndK n=18 by omega) with k|k|k|k|k|k|k|k<;>rw[k]at hq hL
 ·obtain⟨e,b1,b2⟩:=fld1 h1 k;have e:=setN e (hL (by decide)) hR;refine zhc (w:=zjH) (lw:=.days) (T:=[tkN (ndN n),tkN (ndM n)]) rfl (by decide) hg hq hn fun st1 g1 q1=>?_;obtain⟨a1,c1⟩:=zbt (lo:=1) (hi:=zdv) g1 q1 b1.1 b1.2;obtain⟨a2,c2⟩:=zbt (lo:=0) (hi:=zdv) c1.ok c1.sq b2.1 b2.2;refine⟨_,(okb a1 _).trans ((okb a2 _).trans ?_),c1.trans0 c2⟩
  conv=>rhs;rw[e]
  rfl
 ·obtain⟨e,b0,b1,b2⟩:=fld2 h1 k;have e:=setN e (hL (by decide)) hR;refine zhc (w:=zgg) (lw:=.years) (T:=[tkN (ndC n),tkN (ndN n),tkN (ndM n)]) rfl (by decide) hg hq hn fun st1 g1 q1=>?_;obtain⟨a0,c0⟩:=zbt (lo:=0) (hi:=2) g1 q1 b0.1 b0.2;obtain⟨a1,c1⟩:=zbt (lo:=1) (hi:=400) c0.ok c0.sq b1.1 b1.2;obtain⟨a2,c2⟩:=zbt (lo:=0) (hi:=ndN n - 1) c1.ok c1.sq b2.1 b2.2;refine⟨_,(okb a0 _).trans ((okb a1 _).trans ((okb a2 _).trans ?_)),(c0.trans0 c1).trans0 c2⟩
  conv=>rhs;rw[e]
  rfl
 ·obtain⟨e,b0,b1,b2,b3⟩:=fld3 h1 k;have e:=setN e (hL (by decide)) hR;refine zhc (w:=zcn) (lw:=.months) (T:=tkN (ndC n)::zc9 (ndI n)) rfl (by decide) hg hq hn fun st1 g1 q1=>?_;obtain⟨a0,c0⟩:=zbt (lo:=0) (hi:=2) g1 q1 b0.1 b0.2;obtain⟨st2,a1,c1⟩:=zhd b1 b2 b3 c0.ok c0.sq;refine⟨_,(okb a0 _).trans ((okb a1 _).trans ?_),c0.trans0 c1⟩
  conv=>rhs;rw[e]
  rfl
 ·obtain⟨e,b0,b1,b2,b3⟩:=fld4 h1 k;have e:=setN e (hL (by decide)) hR;refine zhc (w:=za3) (lw:=.monthdays) (T:=tkN (ndC n)::zc9 (ndI n)) rfl (by decide) hg hq hn fun st1 g1 q1=>?_;obtain⟨a0,c0⟩:=zbt (lo:=0) (hi:=2) g1 q1 b0.1 b0.2;obtain⟨st2,a1,c1⟩:=zhd b1 b2 b3 c0.ok c0.sq;refine⟨_,(okb a0 _).trans ((okb a1 _).trans ?_),c0.trans0 c1⟩
  conv=>rhs;rw[e]
  rfl
 ·obtain⟨e,b1,b2,b3⟩:=fld5 h1 k;have e:=setN e (hL (by decide)) hR;refine zhc (w:=zbj) (lw:=.weekdays) (T:=zc9 (ndI n)) rfl (by decide) hg hq hn fun st1 g1 q1=>?_;obtain⟨st2,a1,c1⟩:=zhd b1 b2 b3 g1 q1;refine⟨_,(okb a1 _).trans ?_,c1⟩
  conv=>rhs;rw[e]
  rfl
 ·obtain⟨e,b0,b1,b2,b3⟩:=fld6 h1 k;have e:=setN e (hL (by decide)) hR;refine zhc (w:=zdh) (lw:=.weeks) (T:=tkN (ndC n)::zc9 (ndI n)) rfl (by decide) hg hq hn fun st1 g1 q1=>?_;obtain⟨a0,c0⟩:=zbt (lo:=0) (hi:=2) g1 q1 b0.1 b0.2;obtain⟨st2,a1,c1⟩:=zhd b1 b2 b3 c0.ok c0.sq;refine⟨_,(okb a0 _).trans ((okb a1 _).trans ?_),c0.trans0 c1⟩
  conv=>rhs;rw[e]
  rfl
 ·obtain⟨e,b0,b1,bz,b2,b3⟩:=fld7 h1 k;have e:=setN e rfl hR;refine zhc (w:=wNth) (lw:=.nth) (T:=[tkN (ndC n),tkN (ndN n),tkN (ndM n),zed (ndL n)]) rfl (by decide) hg hq hn fun st1 g1 q1=>?_;obtain⟨a0,c0⟩:=zbt (lo:=0) (hi:=2) g1 q1 b0.1 b0.2;obtain⟨a1,c1⟩:=zbt (lo:=-60) (hi:=60) c0.ok c0.sq b1.1 b1.2;obtain⟨a2,c2⟩:=zbt (lo:=0) (hi:=6) c1.ok c1.sq b2.1 b2.2;obtain⟨a3,c3⟩:=zor (x:=ndL n) (by omega) c2.ok c2.sq;have cz:zaF (gAdv s st1) ((zQ (gAdv s st1).1 != 3)||(Tok.n (gAdv s st1).1 != 0)) 1= .ok ():=by
   have hq:=c0.sq;obtain⟨_,e,_⟩:=hq;have e2:Tok.n (gAdv s st1).1=ndN n:=congrArg (fun a=>a.2.2) e;rw[e2,bne_iff_ne.2 bz,Bool.or_true];rfl
  refine⟨_,(okb a0 _).trans ((okb cz _).trans ((okb a1 _).trans ((okb a2 _).trans ((okb a3 _).trans ?_)))),((c0.trans0 c1).trans0 c2).trans0 c3⟩
  conv=>rhs;rw[e]
  rfl
 ·obtain⟨e,b0⟩:=ztu h1 k;have e:=setN e (hL (by decide)) hR;have hl:(ndS n).length≤32:=by
   unfold zdY at b0;simp only[zf,decide_eq_true_iff]at b0;exact b0.1.2
  obtain⟨st',e1,g1⟩:=q_ref hl hg hq hn;refine⟨st',e1.trans ?_,g1⟩
  conv=>rhs;rw[e]
theorem zk4 {st:GSt} {w:List UInt8} {sw:SufW} {T l:List Tk} {t t':Tr} {k:Int} (hw:sufW w=some sw) (hg:GOk s st) (h:Sq s st.1 (tkW w::(T++l))) (hn:st.2+1≤64)
  (hl:∀ st1,GOk s st1->st1.2=st.2+1->Sq s st1.1 (T++l)->∃ st2,sufT (s:=s) t st1 sw= .ok (t',st2)∧Got s st1 k l st2):∃ st',prsT s (.chainL t) st=prsT s (.chainL t') st'∧Got s st (1+k) l st':=by
 obtain⟨e0,g0⟩:=zi1 hg h (by omega);obtain⟨_,e,_⟩:=id h;have e1:zQ st.1=1:=congrArg (fun a=>a.1) e;have e2:zR st.1=w:=congrArg (fun a=>a.2.1) e;obtain⟨st2,e3,g3⟩:=hl _ g0.ok rfl g0.sq;refine⟨st2,?_,g0.trans g3⟩;rw[zgm hg e1 (by rw[e2];exact hw)];exact (okb e0 _).trans ((okb e3 _).trans rfl)
theorem q_un {n:Nd} {a:Tr} {st:GSt} {l:List Tk} (h1:zbc n=true) (hk:11≤ndK n∧ndK n≤16) (hLR:ndL n=0∧ndR n=0) (hg:GOk s st) (hq:Sq s st.1 (zgx [] n++l)) (hn:st.2+1≤64):
  ∃ st',prsT s (.chainL a) st=prsT s (.chainL (.un n a)) st'∧Got s st 1 l st':=by
 unfold zgx at hq;rcases (show ndK n=11∨ndK n=12∨ndK n=13∨ndK n=14∨ndK n=15∨ndK n=16 by omega) with k|k|k|k|k|k<;>rw[k]at hq
 ·obtain⟨e,b1⟩:=ztB h1 k;have e:=setN e hLR.1 hLR.2;refine zk4 (k:=0) (w:=zeP) (sw:=.shift) (T:=[tkN (ndN n)]) rfl hg hq hn fun st1 g1 _ q1=>?_;obtain⟨a1,c1⟩:=zbt (lo:=-zdv) (hi:=zdv) g1 q1 b1.1 b1.2;have hs:gSuf s st1 .shift= .ok ((11,0,0,0,ndN n,0,[],[],()),gAdv s st1):=(okb a1 _).trans rfl;refine⟨_,(okb hs _).trans ?_,c1⟩
  conv=>rhs;rw[e]
 ·obtain⟨e,b1⟩:=ztA h1 k;have e:=setN e hLR.1 hLR.2;refine zk4 (k:=0) (w:=zhU) (sw:=.from_) (T:=[tkN (ndN n)]) rfl hg hq hn fun st1 g1 _ q1=>?_;obtain⟨a1,c1⟩:=zbt (lo:=0) (hi:=zdv) g1 q1 b1.1 b1.2;have hs:gSuf s st1 .from_= .ok ((12,0,0,0,ndN n,0,[],[],()),gAdv s st1):=(okb a1 _).trans rfl;refine⟨_,(okb hs _).trans ?_,c1⟩
  conv=>rhs;rw[e]
 ·obtain⟨e,b1⟩:=ztz h1 k;have e:=setN e hLR.1 hLR.2;refine zk4 (k:=0) (w:=zeO) (sw:=.until_) (T:=[tkN (ndN n)]) rfl hg hq hn fun st1 g1 _ q1=>?_;obtain⟨a1,c1⟩:=zbt (lo:=0) (hi:=zdv) g1 q1 b1.1 b1.2;have hs:gSuf s st1 .until_= .ok ((13,0,0,0,ndN n,0,[],[],()),gAdv s st1):=(okb a1 _).trans rfl;refine⟨_,(okb hs _).trans ?_,c1⟩
  conv=>rhs;rw[e]
 ·obtain⟨e,b1,b2,b3⟩:=zty h1 k;have e:=setN e hLR.1 hLR.2;refine zk4 (k:=0) (w:=zeX) (sw:=.also) (T:=zc9 (ndI n)) rfl hg hq hn fun st1 g1 _ q1=>?_;obtain⟨st2,a1,c1⟩:=zhd b1 b2 b3 g1 q1;have hs:gSuf s st1 .also= .ok ((14,0,0,0,0,0,ndI n,[],()),st2):=(okb a1 _).trans rfl;refine⟨_,(okb hs _).trans ?_,c1⟩
  conv=>rhs;rw[e]
 ·obtain⟨e,b1,b2,b3⟩:=ztx h1 k;have e:=setN e hLR.1 hLR.2;refine zk4 (k:=0) (w:=zco) (sw:=.except_) (T:=zc9 (ndI n)) rfl hg hq hn fun st1 g1 _ q1=>?_;obtain⟨st2,a1,c1⟩:=zhd b1 b2 b3 g1 q1;have hs:gSuf s st1 .except_= .ok ((15,0,0,0,0,0,ndI n,[],()),st2):=(okb a1 _).trans rfl;refine⟨_,(okb hs _).trans ?_,c1⟩
  conv=>rhs;rw[e]
 ·obtain⟨e,b0,⟨b1,b2,b3⟩,b4⟩:=ztw h1 k;have e:=setN e hLR.1 hLR.2;refine zk4 (k:=0) (w:=wPos) (sw:=.pos) (T:=tkN (ndC n)::zed (ndM n)::zc9 (ndI n)) rfl hg hq hn fun st1 g1 _ q1=>?_;obtain⟨a0,c0⟩:=zbt (lo:=0) (hi:=2) g1 q1 b0.1 b0.2;obtain⟨a2,c2⟩:=zor (x:=ndM n) (by omega) c0.ok c0.sq;obtain⟨st2,a1,c1⟩:=zhd b1 b2 b3 c2.ok c2.sq;have hs:gSuf s st1 .pos= .ok ((16,ndC n,0,0,0,ndM n,ndI n,[],()),st2):=(okb a0 _).trans ((okb a2 _).trans ((okb a1 _).trans rfl));refine⟨_,(okb hs _).trans ?_,(c0.trans0 c2).trans0 c1⟩
  conv=>rhs;rw[e]
theorem zlP {n:Nd} {a b:Tr} {B:List Tk} {st:GSt} {l:List Tk} (h1:zbc n=true) (hk:ndK n=17) (hLR:ndL n=0∧ndR n=0) (hB:Qt 4 B b) (hg:GOk s st) (hq:Sq s st.1 (zgx B n++l)) (hn:st.2+1+(b.size:Int)≤64):
  ∃ st',prsT s (.chainL a) st=prsT s (.chainL (.bin n a b)) st'∧Got s st (1+b.size) l st':=by
 unfold zgx at hq;rw[hk]at hq;obtain⟨e,b1⟩:=ztv h1 hk;have e:=setN e hLR.1 hLR.2;refine zk4 (k:=b.size) (w:=zbD) (sw:=.behind) (T:=tkN (ndN n)::tkW wOf::B) rfl hg hq (by omega) fun st1 g1 hn1 q1=>?_;obtain⟨a1,c1⟩:=zbt (lo:=1) (hi:=400) g1 q1 b1.1 b1.2;obtain⟨a2,c2⟩:=zgF (w:=wOf) c1.ok c1.sq rfl;obtain⟨st',a3,c3⟩:=hB s _ l c2.ok c2.sq (by rw[c2.n,c1.n];omega) trivial;have a3:prsT s .prim (gAdv s (gAdv s st1))= .ok (b,st'):=a3;refine⟨st',?_,?_⟩
 ·have hs:gSuf s st1 .behind= .ok ((17,0,0,0,ndN n,0,[],[],()),gAdv s (gAdv s st1)):=(okb a1 _).trans ((okb a2 _).trans rfl);refine (okb hs _).trans ((okb a3 _).trans ?_)
  conv=>rhs;rw[e]
 ·have:=(c1.trans c2).trans c3;rwa[ut,ut]at this
def levI (t:Tr):Nat:=(t.lev - 1).toNat
theorem zfZ (k:Int):1≤levS k∧levS k≤5:=by
 unfold levS
 repeat' split
 all_goals omega
theorem zjb {k:Int} (h:¬ (8≤k∧k≤17)):levS k=5:=by
 unfold levS;rw[if_neg (by omega),if_neg (by omega),if_neg (by omega),if_neg (by omega)]
theorem zho {k:Int} (h:11≤k∧k≤17):levS k=4:=by
 unfold levS;rw[if_neg (by omega),if_neg (by omega),if_neg (by omega),if_pos h]
theorem zi0 {a:Tr} (h:Qt (levI a) a.toks a) {r:Int} {i:Nat} (hr:r=(i:Int)+1) (hi:i≤4):Qt i (parT (decide (a.lev≥r)) a.toks) a:=by
 obtain⟨l1,l5⟩:=zfZ (ndK a.root);have hl:levI a≤4:=by unfold levI Tr.lev;omega
 by_cases hc:a.lev≥r
 ·rw[decide_eq_true hc];refine h.up ?_ hl;unfold levI Tr.lev at *;omega
 ·rw[decide_eq_false hc];exact (Qt.par (h.up (zk _) hl)).up hi (zl _)
theorem zfX {i:Nat} {n:Nd} {a b:Tr} {A B:List Tk} (hi:i≤2) (hA:Qt i A a) (hB:Qt (i+1) B b) (hn0:n=(opK i,zNd.2)):Qt i (A++(tkW (opW i)::B)) (.bin n a b):=fun s st l hg hq hn hf=>by
 have hn:st.2+((a.size+b.size+1:Nat):Int)≤64:=hn;rw[zp]at hq;have hfa:ztt i (tkW (opW i)::B++l):=by
  rcases (show i=0∨i=1∨i=2 by omega) with rfl|rfl|rfl
  ·exact⟨rfl,rfl,fun _=>rfl⟩
  ·exact⟨rfl,fun _=>rfl⟩
  ·exact fun _=>rfl
 obtain⟨st1,e1,g1⟩:=hA s st _ hg hq (by omega) hfa;have q1:Sq s st1.1 (tkW (opW i)::(B++l)):=g1.sq;have n1:=g1.n;have hop:gIs st1 (opW i)=true:=by
  rw[zhY q1];show (true&&decide (opW i=opW i))=true;rw[decide_eq_true rfl];rfl
 obtain⟨e2,g2⟩:=zi1 g1.ok q1 (by omega);have n2:=g2.n;have hfb:ztt (i+1) l:=by
  rcases (show i=0∨i=1∨i=2 by omega) with rfl|rfl|rfl
  ·exact hf.2
  ·exact hf.2
  ·trivial
 obtain⟨st3,e3,g3⟩:=hB s _ l g2.ok g2.sq (by rw[n2,n1];omega) hfb;have e4:prsT s (.bin (i+1)) (gAdv s (st1.1,st1.2+1))= .ok (b,st3):=by
  rcases (show i=0∨i=1∨i=2 by omega) with rfl|rfl|rfl
  ·have e3:prsT s (.bin 1) _=prsT s (.binL 1 b) st3:=e3;rw[zil (i:=1) g3.ok g3.sq hf.1]at e3;exact e3
  ·have e3:prsT s (.bin 2) _=prsT s (.binL 2 b) st3:=e3;rw[zil (i:=2) g3.ok g3.sq hf.1]at e3;exact e3
  ·have e3:prsT s .chain _=prsT s (.chainL b) st3:=e3;rw[zos g3.ok g3.sq hf]at e3;rw[zhe g2.ok (by decide)];exact e3
 have e5:prsT s (.binL i a) st1=prsT s (.binL i (.bin n a b)) st3:=by
  rw[zin g1.ok hop,hn0];exact (okb e2 _).trans ((okb e4 _).trans rfl)
 refine⟨st3,?_,?_⟩
 ·rw[e1];rcases (show i=0∨i=1∨i=2 by omega) with rfl|rfl|rfl
  ·exact e5
  ·exact e5
  ·exact e5
 ·have:=(g1.trans g2).trans g3;rwa[show (a.size:Int)+1+(b.size:Int)=((Tr.bin n a b).size:Int) by show _=((a.size+b.size+1:Nat):Int);omega]at this
theorem zr5 {n:Nd} (h:zbc n=true) (hk:8≤ndK n∧ndK n≤10) (hLR:ndL n=0∧ndR n=0):n=(ndK n,zNd.2):=by
 rcases (show ndK n=8∨ndK n=9∨ndK n=10 by omega) with k|k|k
 ·rw[k];exact setN (fld8 h k) hLR.1 hLR.2
 ·rw[k];exact setN (fld9 h k) hLR.1 hLR.2
 ·rw[k];exact setN (fld10 h k) hLR.1 hLR.2
theorem zeR:∀ t:Tr,TrOk t->Qt (levI t) t.toks t
 | .leaf n,h=>by
  have:levI (.leaf n)=4:=by
   show (levS (ndK n) - 1).toNat=4;rw[zjb h.2.1];rfl
  rw[this];exact zou h
 | .un n a,h=>by
  obtain⟨h1,hk,hLR,ha⟩:=h;have:levI (.un n a)=3:=by
   show (levS (ndK n) - 1).toNat=3;rw[zho (by omega)];rfl
  rw[this];intro s st l hg hq hn hf;have hn:st.2+((a.size+1:Nat):Int)≤64:=hn;have hq:Sq s st.1 (parT (decide (a.lev≥4)) a.toks++zgx [] n++l):=hq;rw[zp]at hq;obtain⟨st1,e1,g1⟩:=zi0 (zeR a ha) (i:=3) rfl (by decide) s st _ hg hq (by omega) trivial;have n1:=g1.n;obtain⟨st2,e2,g2⟩:=q_un (a:=a) h1 hk hLR g1.ok g1.sq (by omega);exact⟨st2,uu e1 e2,g1.trans g2⟩
 | .bin n a b,h=>by
  obtain⟨h1,hk,hLR,ha,hb⟩:=h;by_cases h17:ndK n=17
  ·have:levI (.bin n a b)=3:=by
    show (levS (ndK n) - 1).toNat=3;rw[zho (by omega)];rfl
   rw[this];intro s st l hg hq hn hf;have hn:st.2+((a.size+b.size+1:Nat):Int)≤64:=hn;unfold Tr.toks at hq;rw[if_pos h17,zp]at hq;obtain⟨st1,e1,g1⟩:=zi0 (zeR a ha) (i:=3) rfl (by decide) s st _ hg hq (by omega) trivial;have n1:=g1.n;obtain⟨st2,e2,g2⟩:=zlP (a:=a) h1 h17 hLR (zi0 (zeR b hb) (r:=5) (i:=4) rfl (by decide)) g1.ok g1.sq (by omega);have:=g1.trans g2;rw[show (a.size:Int)+(1+(b.size:Int))=((Tr.bin n a b).size:Int) by show _=((a.size+b.size+1:Nat):Int);omega]at this;exact⟨st2,uu e1 e2,this⟩
  ·have hk:8≤ndK n∧ndK n≤10:=by omega
   have hn0:=zr5 h1 hk hLR;unfold Tr.toks;rw[if_neg h17];have hl:levI (.bin n a b)=(levS (ndK n) - 1).toNat:=rfl;rw[hl];rcases (show ndK n=8∨ndK n=9∨ndK n=10 by omega) with k|k|k<;>rw[k]at hn0 ⊢
   ·exact zfX (i:=2) (by decide) (zi0 (zeR a ha) rfl (by decide)) (zi0 (zeR b hb) (r:=4) rfl (by decide)) hn0
   ·exact zfX (i:=0) (by decide) (zi0 (zeR a ha) rfl (by decide)) (zi0 (zeR b hb) (r:=2) rfl (by decide)) hn0
   ·exact zfX (i:=1) (by decide) (zi0 (zeR a ha) rfl (by decide)) (zi0 (zeR b hb) (r:=3) rfl (by decide)) hn0
theorem zrO {T:List Tk} {t:Tr} (hT:Qt 0 T t) (hs:t.size≤64) (h:Toks s 0 T):zeo s= .ok t:=by
 have hg:GOk s (zh6 s):=zgO;obtain⟨st',e,g⟩:=hT s (zh6 s) [] hg (by rw[zL];exact zkZ h) (by show (0:Int)+_≤64;omega) ⟨rfl,rfl,trivial⟩;have e:prsT s (.bin 0) (zh6 s)=prsT s (.binL 0 t) st':=e;rw[zil g.ok g.sq rfl]at e;have hc:zQ st'.1=0:=g.sq;have hr:zfy s (zh6 s)= .ok (t,st'):=by
  unfold zfy;refine (okb e _).trans ?_;have c0:zaF st' (zQ st'.1==0) 3= .ok ():=by rw[hc];rfl
  exact (okb c0 _).trans rfl
 unfold zeo;rw[hr];rfl
end
def Bd:List UInt8->Prop
 | []=>True
 |c::_=>isPt c=false
theorem Bd.app {r v:List UInt8} (h:Bd r) (hv:Bd v):Bd (r++v):=by
 cases r with
 |nil=>exact hv
 |cons c r=>exact h
def zeM (k:Int) (u:List UInt8):TokT:=
 match u with
 | []=>(0,k,0,[],0,())
 |c::r=>
  if 0 < zay (c::r) then (1,k,(zay (c::r):Nat),(c::r).take (zay (c::r)),0,())
  else if c=64∧0 < zay r then (2,k,(zay r:Nat)+1,r.take (zay r),0,())
  else match zcV (c::r) with
   |some (q,n,t,x)=>(q,k,(n:Nat),t,x,())
   |none=>if c=40∨c=41∨c=61 then (4,k,1,[c],0,()) else (5,k,1,[c],0,())
theorem zn7 (s:List UInt8):zbi s=zeM ((zbF isWh s:Nat):Int) (s.drop (zbF isWh s)):=rfl
theorem zqo (k:Int) (u:List UInt8):zeM k u=((zeM 0 u).1,k,(zeM 0 u).2.2):=by
 cases u with
 |nil=>rfl
 |cons c r=>
  unfold zeM;simp only[];split
  ·rfl
  ·split
   ·rfl
   ·split
    ·rfl
    ·split<;>rfl
theorem ziP {p:UInt8->Bool} {w u:List UInt8} (h:∀ c∈w,p c=true):zbF p (w++u)=w.length+zbF p u:=by
 unfold zbF;rw[jj h,zd]
theorem zrI {p:UInt8->Bool} {c:UInt8} {u:List UInt8} (h:p c=false):zbF p (c::u)=0:=by
 unfold zbF;rw[jK,h];rfl
theorem zsD {u:List UInt8} (h:Bd u):zbF isPt u=0:=by
 cases u with
 |nil=>rfl
 |cons c r=>exact zrI h
structure Sp (a:Tk) (w:List UInt8):Prop where
 ne:w≠ []
 nw:∀ c∈w,isWh c=false
 cls:a.1≠0
 sc:∀ r,(a.1=4∨Bd r)->zeM 0 (w++r)=(a.1,0,((w.length:Nat):Int),a.2.1,a.2.2,())
inductive Lex:List UInt8->List Tk->Prop
 |nil {ws:List UInt8} (h:∀ c∈ws,isWh c=true):Lex ws []
 |tok {ws w r:List UInt8} {a:Tk} {l:List Tk} (h:∀ c∈ws,isWh c=true) (hw:Sp a w) (hb:a.1=4∨Bd r) (hr:Lex r l):Lex (ws++(w++r)) (a::l)
theorem Lex.ws {ws u:List UInt8} {l:List Tk} (h:∀ c∈ws,isWh c=true) (hu:Lex u l):Lex (ws++u) l:=by
 cases hu with
 |nil h2=>exact .nil fun c hc=>(yG.1 hc).elim (h c) (h2 c)
 |tok h2 hw hb hr=>
  rw[<-zp];exact .tok (fun c hc=>(yG.1 hc).elim (h c) (h2 c)) hw hb hr
theorem Lex.sp {u:List UInt8} {l:List Tk} (hu:Lex u l):Lex (32::u) l:=Lex.ws (ws:=[32]) (fun c hc=>by rw[zw.1 hc];rfl) hu
theorem Lex.app {u:List UInt8} {l:List Tk} (hu:Lex u l) {v:List UInt8} {m:List Tk} (hv:Lex v m) (hb:Bd v):Lex (u++v) (l++m):=by
 induction hu with
 |nil h=>exact hv.ws h
 |tok h hw hb' _ ih=>
  rw[zp,zp];refine .tok h hw ?_ ih;rcases hb' with h4|hb'
  ·exact .inl h4
  ·exact .inr (hb'.app hb)
theorem Sp.lex {a:Tk} {w:List UInt8} (h:Sp a w):Lex w [a]:=by
 have:=Lex.tok (ws:=[]) (r:=[]) (l:=[]) (fun c hc=>by cases hc) h (.inr trivial) (.nil fun c hc=>by cases hc);rwa[yH,zL]at this
theorem Sp.lexR {a:Tk} {w:List UInt8} (h:Sp a w) {r:List UInt8} {l:List Tk} (hb:a.1=4∨Bd r) (hr:Lex r l):Lex (w++r) (a::l):=by
 have:=Lex.tok (ws:=[]) (fun c hc=>by cases hc) h hb hr;rwa[yH]at this
theorem zl4 {u:List UInt8} {l:List Tk} (h:Lex u l):∀ (s p:List UInt8),s=p++u->Toks s ((p.length:Nat):Int) l:=by
 induction h with
 | @nil ws h=>
  intro s p hs;show zQ (zee s _)=0;unfold zee;rw[hs,zD,qm,zn7];have e:zbF isWh ws=ws.length:=by
   have:=ziP (u:=[]) h;rw[zL]at this;rw[this];rfl
  rw[e,jd];rfl
 | @tok ws w r a l h hw hb hr ih=>
  intro s p hs;have hd:s.drop p.length=ws++(w++r):=by rw[hs,qm]
  have e:zbF isWh (ws++(w++r))=ws.length:=by
   rw[ziP h];cases w with
   |nil=>exact absurd rfl hw.ne
   |cons c q=>
    rw[qb,zrI (hw.nw c (yf ..))];rfl
  have hsc:zee s ((p.length:Nat):Int)=(a.1,((ws.length:Nat):Int)+((p.length:Nat):Int),((w.length:Nat):Int),a.2.1,a.2.2,()):=by
   unfold zee;rw[zD,hd,zn7,e,qm,zqo,hw.sc r hb];rfl
  refine⟨?_,?_,?_⟩
  ·rw[hsc];exact hw.cls
  ·rw[hsc];rfl
  ·rw[hsc];have:=ih s (p++ws++w) (by rw[hs];simp);rw[zd,zd]at this;show Toks s (((ws.length:Nat):Int)+((p.length:Nat):Int)+((w.length:Nat):Int)) l;rwa[show ((ws.length:Nat):Int)+((p.length:Nat):Int)+((w.length:Nat):Int)=((p.length+ws.length+w.length:Nat):Int) by omega]
theorem zmB {p:UInt8->Bool} (h:∀ n:Fin 256,p (yh n.val)=true) (c:UInt8):p c=true:=by
 have:=h ⟨c.toNat,c.toNat_lt⟩;rwa[vW]at this
theorem pt_wh (c:UInt8) (h:isPt c=true):isWh c=false:=by
 have:=zmB (p:=fun c=>!isPt c|| !isWh c) (by decide+kernel) c;rw[h]at this
 simpa using this
theorem zgQ (c:UInt8) (h:isDg c=true):isPt c=true∧isLt c=false∧isWh c=false∧c≠64∧c≠45∧c≠40∧c≠41∧c≠61:=by
 have:=zmB (p:=fun c=>!isDg c||(isPt c&& !isLt c&& !isWh c&&(c != 64)&&(c != 45)&&(c != 40)&&(c != 41)&&(c != 61))) (by decide+kernel) c;rw[h]at this;simp only[Bool.not_true,Bool.false_or,zf,zB,bne_iff_ne]at this;exact⟨this.1.1.1.1.1.1.1,this.1.1.1.1.1.1.2,this.1.1.1.1.1.2,this.1.1.1.1.2,this.1.1.1.2,this.1.1.2,this.1.2,this.2⟩
theorem zge {w r:List UInt8} (hne:w≠ []) (h1:w.head?.all isLt=true) (h2:∀ c∈w,isPt c=true) (hb:Bd r):zay (w++r)=w.length:=by
 cases w with
 |nil=>exact absurd rfl hne
 |cons c q=>
  have hc:isLt c=true:=h1;show (if isLt c then zbF isPt (c::q++r) else 0)=_;rw[if_pos hc,ziP h2,zsD hb];rfl
theorem zsE {w:List UInt8} (hne:w≠ []) (h1:w.head?.all isLt=true) (h2:∀ c∈w,isPt c=true):Sp (tkW w) w:=by
 refine⟨hne,fun c hc=>pt_wh c (h2 c hc),by show (1:Int)≠0;decide,fun r hb=>?_⟩;have hb:Bd r:=hb.resolve_left (by show (1:Int)≠4;decide);have hl:=zge hne h1 h2 hb;have hp:0 < w.length:=qv.2 hne;cases w with
 |nil=>exact absurd rfl hne
 |cons c q=>
  show zeM 0 (c::(q++r))=_;unfold zeM;have hl:zay (c::(q++r))=(c::q).length:=hl;simp only[];rw[hl,if_pos hp];show (1,0,_,(c::q++r).take (c::q).length,0,())=_;rw[xr];rfl
theorem sp_ref {w:List UInt8} (h:zdY w=true):Sp (tkR w) (64::w):=by
 unfold zdY at h;simp only[zf,decide_eq_true_iff,zZ]at h;obtain⟨⟨hne,_⟩,h1,h2⟩:=h;refine⟨by simp,fun c hc=>?_,by show (2:Int)≠0;decide,fun r hb=>?_⟩
 ·rcases yd.1 hc with rfl|hc
  ·rfl
  ·exact pt_wh c (h2 c hc)
 have hb:Bd r:=hb.resolve_left (by show (2:Int)≠4;decide);have hl:=zge hne h1 h2 hb;have hp:0 < w.length:=qv.2 hne;show zeM 0 (64::(w++r))=_;unfold zeM;have h64:zay (64::(w++r))=0:=rfl;simp only[];rw[h64,if_neg (by decide),hl,if_pos ⟨trivial,hp⟩,xr];show (2,0,((w.length:Nat):Int)+1,w,0,())=(2,0,(((64::w).length:Nat):Int),w,0,());rw[zt];rfl
theorem zlH {c:UInt8} (hc:c=40∨c=41∨c=61):Sp (tkS c) [c]:=by
 have hn:∀ r,zcV (c::r)=none:=fun r=>by
  unfold zcV;have:(zaN (c::r)).length=0:=by
   unfold zaN zaQ;rcases hc with rfl|rfl|rfl<;>rfl
  rw[if_pos this]
 refine⟨by simp,fun d hd=>?_,by show (4:Int)≠0;decide,fun r _=>?_⟩
 ·rw[zw.1 hd];rcases hc with rfl|rfl|rfl<;>rfl
 show zeM 0 (c::r)=_;unfold zeM;have h0:zay (c::r)=0:=by rcases hc with rfl|rfl|rfl<;>rfl
 have h64:c≠64:=by rcases hc with rfl|rfl|rfl<;>decide
 simp only[];rw[h0,if_neg (by decide),if_neg (fun h=>h64 h.1),hn,if_pos hc];rfl
theorem zoE (l:List UInt8) (c:UInt8):numv (l++ [c])=10 * numv l+(c.toNat - 48):=by unfold numv;rw[xG];rfl
theorem zms {d:Nat} (h:d < 10):isDg (yh (48+d))=true∧(yh (48+d)).toNat=48+d:=by
 have e:(yh (48+d)).toNat=48+d:=by rw[UInt8.toNat_ofNat'];exact Nat.mod_eq_of_lt (by omega)
 refine⟨?_,e⟩;unfold isDg;rw[zf,decide_eq_true_iff,decide_eq_true_iff,yX,yX,e];exact⟨by show 48≤_;omega,by show _≤57;omega⟩
theorem zer (u:Nat):(∀ c∈yo u,isDg c=true)∧numv (yo u)=u∧(1≤u->(yo u).head? ≠some 48)∧yo u≠ []:=by
 induction u using Nat.strongRecOn with
 |_ u ih=>
  rw[yo];by_cases hu:u < 10
  ·rw[dif_pos hu];obtain⟨h1,h2⟩:=zms hu;refine⟨fun c hc=>by rw[zw.1 hc];exact h1,?_,fun h0 e=>?_,by simp⟩
   ·show 10 * 0+((yh (48+u)).toNat - 48)=u;rw[h2];omega
   ·have e:some (yh (48+u))=some 48:=e;have:=congrArg UInt8.toNat (ya e);rw[h2]at this;have:48+u=48:=this;omega
  ·rw[dif_neg hu];obtain⟨i1,i2,i3,i4⟩:=ih (u / 10) (by omega);obtain⟨h1,h2⟩:=zms (d:=u % 10) (by omega);refine⟨fun c hc=>?_,?_,fun _ e=>?_,by simp⟩
   ·rcases yG.1 hc with hc|hc
    ·exact i1 c hc
    ·rw[zw.1 hc];exact h1
   ·rw[zoE,i2,h2];omega
   ·refine i3 (by omega) ?_;cases hd:yo (u / 10) with
    |nil=>exact absurd hd i4
    |cons c q=>rw[hd]at e;exact e
theorem znS {w r:List UInt8} (h:∀ c∈w,isDg c=true) (hb:Bd r):(w++r).takeWhile isDg=w:=by
 rw[jj h];have:r.takeWhile isDg=[]:=by
  cases r with
  |nil=>rfl
  |cons c q=>
   have hb:isPt c=false:=hb;rw[jK];have:isDg c=false:=by
    cases hd:isDg c with
    |false=>rfl
    |true=>rw[(zgQ c hd).1]at hb;cases hb
   rw[this];rfl
 rw[this,zL]
def ze1 (n:Int):Prop:=-1125899906842624 < n∧n < 1125899906842624
theorem znV {n:Int} (h:ze1 n):Sp (tkN n) (deI n):=by
 obtain⟨h1,h2⟩:=h;unfold deI Lib.itoa;by_cases hn:n < 0
 ·obtain⟨d1,d2,d3,d4⟩:=zer n.natAbs;have d3:=d3 (by omega);generalize hD:yo n.natAbs=D at *;have hde:deI n=45::D:=by unfold deI Lib.itoa;rw[if_pos hn,hD]
  rw[if_pos hn];refine⟨by simp,fun c hc=>?_,by show (3:Int)≠0;decide,fun r hb=>?_⟩
  ·rcases yd.1 hc with rfl|hc
   ·rfl
   ·exact (zgQ c (d1 c hc)).2.2.1
  have hb:Bd r:=hb.resolve_left (by show (3:Int)≠4;decide);have hlen:0 < D.length:=qv.2 d4;have hs:zaQ (45::(D++r))=1:=rfl;have hg:zaN (45::(D++r))=D:=by
   unfold zaN;rw[hs];exact znS d1 hb
  have hv:valN (45::(D++r))=n:=by
   unfold valN;rw[hs,if_pos rfl,hg,d2,yz (by unfold zdd;omega)];omega
  show zeM 0 (45::(D++r))=_;unfold zeM;simp only[];rw[show zay (45::(D++r))=0 from rfl,if_neg (by decide),if_neg (fun h=>absurd h.1 (by decide))];have hnt:zcV (45::(D++r))=some (3,1+D.length,(45::(D++r)).take (1+D.length),n):=by
   unfold zcV;rw[hg,hs,hv,if_neg (by omega),if_neg (fun h=>d3 h.1)]
  rw[hnt];have ht:(45::(D++r)).take (1+D.length)=45::D:=by
   rw[Nat.add_comm,List.take_succ_cons,xr]
  show (3,0,((1+D.length:Nat):Int),(45::(D++r)).take (1+D.length),n,())=(3,0,(((45::D).length:Nat):Int),deI n,n,());rw[ht,hde,zt,Nat.add_comm]
 ·obtain⟨d1,d2,d3,d4⟩:=zer n.toNat;have hz:n.toNat=0->yo n.toNat=[48]:=fun e=>by rw[e,yo];rfl
  generalize hD:yo n.toNat=D at *;have hde:deI n=D:=by unfold deI Lib.itoa;rw[if_neg hn,hD]
  rw[if_neg hn];refine⟨d4,fun c hc=>(zgQ c (d1 c hc)).2.2.1,by show (3:Int)≠0;decide,fun r hb=>?_⟩;have hb:Bd r:=hb.resolve_left (by show (3:Int)≠4;decide);have hlen:0 < D.length:=qv.2 d4;cases D with
  |nil=>exact absurd rfl d4
  |cons c q=>
   have hdg:=d1 c (yf ..);obtain⟨_,f1,_,f2,f3,_⟩:=zgQ c hdg;have hs:zaQ (c::(q++r))=0:=by
    unfold zaQ;exact if_neg (fun e=>f3 (ya e))
   have hg:zaN (c::(q++r))=c::q:=by
    unfold zaN;rw[hs];exact znS (w:=c::q) d1 hb
   have hv:valN (c::(q++r))=n:=by
    unfold valN;rw[hs,if_neg (by decide),hg,d2,yz (by unfold zdd;omega)];omega
   show zeM 0 (c::(q++r))=_;unfold zeM;simp only[];rw[show zay (c::(q++r))=0 by show (if isLt c then zbF isPt (c::(q++r)) else 0)=0;rw[f1];rfl,if_neg (by decide),if_neg (fun h=>f2 h.1)];have hnt:zcV (c::(q++r))=some (3,0+(c::q).length,(c::(q++r)).take (0+(c::q).length),n):=by
    unfold zcV;rw[hg,hs,hv,if_neg (by omega),if_neg];rintro ⟨e1,e2⟩;by_cases h0:n.toNat=0
    ·have e3:q=[]:=by have:=hz h0;exact (List.cons.inj this).2
     rw[e3]at e2;have e2:1 < 0+1:=e2;omega
    ·exact d3 (by omega) e1
   rw[hnt];have ht:(c::(q++r)).take (0+(c::q).length)=c::q:=by
    rw[yp];exact xr (l₁:=c::q)
   show (3,0,((0+(c::q).length:Nat):Int),(c::(q++r)).take (0+(c::q).length),n,())=(3,0,(((c::q).length:Nat):Int),deI n,n,());rw[ht,hde,yp]
theorem zcl:∀ l:List Int,(∀ x∈l,ze1 x)->Lex (zdE l) (l.map tkN)∧Bd (zdE l)
 | [],_=>⟨.nil (fun c hc=>(by cases hc)),trivial⟩
 |x::r,h=>by
  obtain⟨h1,h2⟩:=zcl r fun y hy=>h y (yy _ hy);refine⟨?_,rfl⟩;show Lex (32::deI x++zdE r) (tkN x::r.map tkN);exact ((znV (h x (yf ..))).lexR (.inr h2) h1).sp
theorem zoZ:∀ (l:List Int) (i:Nat),(∀ x∈l,ze1 x)->Lex (litS (i+1) l++ [41]) (l.map tkN++ [tkS 41])∧Bd (litS (i+1) l++ [41])
 | [],_,_=>⟨(zlH (.inr (.inl rfl))).lex,rfl⟩
 |x::r,i,h=>by
  obtain⟨h1,h2⟩:=zoZ r (i+1) fun y hy=>h y (yy _ hy);have e:litS (i+1) (x::r)++ [41]=32::(deI x++(litS (i+1+1) r++ [41])):=by
   show (sepS (i+1)++deI x++litS (i+1+1) r)++ [41]=_;simp[sepS]
  rw[e];exact⟨((znV (h x (yf ..))).lexR (.inr h2) h1).sp,rfl⟩
theorem zd0 {l:List Int} (hne:l≠ []) (h:∀ x∈l,ze1 x):Lex (zbV l) (zc9 l)∧Bd (zbV l):=by
 cases l with
 |nil=>exact absurd rfl hne
 |cons x r=>
  obtain⟨h1,h2⟩:=zoZ r 0 fun y hy=>h y (yy _ hy);have e:zbV (x::r)=32::([40]++(deI x++(litS (0+1) r++ [41]))):=by
   show (sepS 0++deI x++litS (0+1) r)++ [41]=_;simp[sepS]
  rw[e];exact⟨((zlH (.inl rfl)).lexR (.inl rfl) ((znV (h x (yf ..))).lexR (.inr h2) h1)).sp,rfl⟩
theorem zaZ {w:List UInt8} (hne:w≠ []) (h1:w.head?.all isLt=true) (h2:w.all isPt=true) {r:List UInt8} {l:List Tk} (hr:Lex r l) (hb:Bd r):Lex (w++r) (tkW w::l):=
 (zsE hne h1 (zZ.1 h2)).lexR (.inr hb) hr
theorem zke (n:Int) {r:List UInt8} {l:List Tk} (hr:Lex r l) (hb:Bd r):Lex (zb5 n++r) (zed n::l)∧Bd (zb5 n++r):=by
 unfold zb5 zed;split
 ·exact⟨(zaZ (by decide) rfl (by decide) hr hb).sp,rfl⟩
 ·exact⟨(zaZ (by decide) rfl (by decide) hr hb).sp,rfl⟩
theorem zs5:Lex [] []:=.nil fun c hc=>by cases hc
theorem zdm {c:Bool} {u:List UInt8} {l:List Tk} (h:Lex u l):Lex (parS c u) (parT c l):=by
 cases c with
 |true=>exact h
 |false=>exact (zlH (.inl rfl)).lexR (.inl rfl) (h.app (zlH (.inr (.inl rfl))).lex rfl)
def Tr.text:Tr->List UInt8
 | .leaf n=>zcc n
 | .un n a=>parS (decide (a.lev≥4)) a.text++zbA [] n
 | .bin n a b=>if ndK n=17 then parS (decide (a.lev≥4)) a.text++zbA (parS (decide (b.lev≥5)) b.text) n
  else parS (decide (a.lev≥levS (ndK n))) a.text++(putS ([32]++opWd (levS (ndK n))++ [32]) []++parS (decide (b.lev≥levS (ndK n)+1)) b.text)
theorem zcp {lo hi:Int} {z:Bool} (h1: -1125899906842624 < lo) (h2:hi < 1125899906842624):∀ {l:List Int} {last:Int},Ris lo hi z last l->∀ x∈l,ze1 x
 | [],_,_,x,hx=>by cases hx
 |y::r,_,h,x,hx=>by
  obtain⟨_,a,b,_,h⟩:=h;rcases yd.1 hx with rfl|hx
  ·exact⟨by omega,by omega⟩
  ·exact zcp h1 h2 h x hx
theorem num1 {a:Int} (h:ze1 a):∀ x∈ [a],ze1 x:=fun x hx=>by rw[zw.1 hx];exact h
theorem num2 {a b:Int} (h:ze1 a) (h':ze1 b):∀ x∈ [a,b],ze1 x:=fun x hx=>by
 rcases yd.1 hx with rfl|hx
 ·exact h
 ·exact num1 h' x hx
theorem num3 {a b c:Int} (h:ze1 a) (h':ze1 b) (h'':ze1 c):∀ x∈ [a,b,c],ze1 x:=fun x hx=>by
 rcases yd.1 hx with rfl|hx
 ·exact h
 ·exact num2 h' h'' x hx
theorem nt {a lo hi:Int} (h:lo≤a∧a≤hi) (h1: -1125899906842624 < lo:=by decide) (h2:hi < 1125899906842624:=by decide):ze1 a:=⟨by omega,by omega⟩
theorem zl5 {n:Nd} (h1:zbc n=true) (h2:¬ (8≤ndK n∧ndK n≤17)):Lex (zcc n) (ziz n):=by
 obtain⟨⟨k1,k2⟩,_⟩:=zaE h1;unfold zcc ziz;rcases (show ndK n=1∨ndK n=2∨ndK n=3∨ndK n=4∨ndK n=5∨ndK n=6∨ndK n=7∨ndK n=18 by omega) with k|k|k|k|k|k|k|k<;>rw[k]
 ·obtain⟨e,b1,b2⟩:=fld1 h1 k;obtain⟨x,y⟩:=zcl [ndN n,ndM n] (num2 (nt b1) (nt b2));exact zaZ (w:=zjH) (by decide) rfl (by decide) x y
 ·obtain⟨e,b0,b1,b2⟩:=fld2 h1 k;obtain⟨x,y⟩:=zcl [ndC n,ndN n,ndM n] (num3 (nt b0) (nt b1) ⟨by omega,by omega⟩);exact zaZ (w:=zgg) (by decide) rfl (by decide) x y
 ·obtain⟨e,b0,b1,b2,b3⟩:=fld3 h1 k;obtain⟨x,y⟩:=zcl [ndC n] (num1 (nt b0));obtain⟨x2,y2⟩:=zd0 b1 (zcp (by decide) (by decide) b3);have:=zaZ (w:=zcn) (by decide) rfl (by decide) (x.app x2 y2) (y.app y2);rwa[<-zp]at this
 ·obtain⟨e,b0,b1,b2,b3⟩:=fld4 h1 k;obtain⟨x,y⟩:=zcl [ndC n] (num1 (nt b0));obtain⟨x2,y2⟩:=zd0 b1 (zcp (by decide) (by decide) b3);have:=zaZ (w:=za3) (by decide) rfl (by decide) (x.app x2 y2) (y.app y2);rwa[<-zp]at this
 ·obtain⟨e,b1,b2,b3⟩:=fld5 h1 k;obtain⟨x2,y2⟩:=zd0 b1 (zcp (by decide) (by decide) b3);exact zaZ (w:=zbj) (by decide) rfl (by decide) x2 y2
 ·obtain⟨e,b0,b1,b2,b3⟩:=fld6 h1 k;obtain⟨x,y⟩:=zcl [ndC n] (num1 (nt b0));obtain⟨x2,y2⟩:=zd0 b1 (zcp (by decide) (by decide) b3);have:=zaZ (w:=zdh) (by decide) rfl (by decide) (x.app x2 y2) (y.app y2);rwa[<-zp]at this
 ·obtain⟨e,b0,b1,bz,b2,b3⟩:=fld7 h1 k;obtain⟨x,y⟩:=zcl [ndC n,ndN n,ndM n] (num3 (nt b0) (nt b1) (nt b2));obtain⟨x2,y2⟩:=zke (ndL n) zs5 trivial;have:=zaZ (w:=wNth) (by decide) rfl (by decide) (x.app x2 y2) (y.app y2);rw[<-zp]at this;exact this
 ·obtain⟨e,b0⟩:=ztu h1 k;show Lex ((64::ndS n)++ []) [tkR (ndS n)];rw[zL];exact (sp_ref b0).lex
theorem zja {n:Nd} {b:List UInt8} {B:List Tk} (h1:zbc n=true) (h2:11≤ndK n∧ndK n≤17) (hB:ndK n=17->Lex b B):Lex (zbA b n) (zgx B n)∧Bd (zbA b n):=by
 unfold zbA zgx;rcases (show ndK n=11∨ndK n=12∨ndK n=13∨ndK n=14∨ndK n=15∨ndK n=16∨ndK n=17 by omega) with k|k|k|k|k|k|k<;>rw[k]
 ·obtain⟨e,b1⟩:=ztB h1 k;obtain⟨x,y⟩:=zcl [ndN n] (num1 (nt b1));exact⟨(zaZ (w:=zeP) (by decide) rfl (by decide) x y).sp,rfl⟩
 ·obtain⟨e,b1⟩:=ztA h1 k;obtain⟨x,y⟩:=zcl [ndN n] (num1 (nt b1));exact⟨(zaZ (w:=zhU) (by decide) rfl (by decide) x y).sp,rfl⟩
 ·obtain⟨e,b1⟩:=ztz h1 k;obtain⟨x,y⟩:=zcl [ndN n] (num1 (nt b1));exact⟨(zaZ (w:=zeO) (by decide) rfl (by decide) x y).sp,rfl⟩
 ·obtain⟨e,b1,b2,b3⟩:=zty h1 k;obtain⟨x2,y2⟩:=zd0 b1 (zcp (by decide) (by decide) b3);exact⟨(zaZ (w:=zeX) (by decide) rfl (by decide) x2 y2).sp,rfl⟩
 ·obtain⟨e,b1,b2,b3⟩:=ztx h1 k;obtain⟨x2,y2⟩:=zd0 b1 (zcp (by decide) (by decide) b3);exact⟨(zaZ (w:=zco) (by decide) rfl (by decide) x2 y2).sp,rfl⟩
 ·obtain⟨e,b0,⟨b1,b2,b3⟩,b4⟩:=ztw h1 k;obtain⟨x,y⟩:=zcl [ndC n] (num1 (nt b0));obtain⟨x2,y2⟩:=zd0 b1 (zcp (by decide) (by decide) b3);obtain⟨x3,y3⟩:=zke (ndM n) x2 y2;refine⟨?_,rfl⟩;show Lex ((32::wPos)++zdE [ndC n]++((zb5 (ndM n)++ [])++zbV (ndI n))) _;rw[zL,zp];exact (zaZ (w:=wPos) (by decide) rfl (by decide) (x.app x3 y3) (y.app y3)).sp
 ·obtain⟨e,b1⟩:=ztv h1 k;obtain⟨x,y⟩:=zcl [ndN n] (num1 (nt b1));refine⟨?_,rfl⟩;show Lex ((32::zbD)++zdE [ndN n]++(((32::wOf)++ [32]++ [])++b)) _;rw[zL,zp,zp];have x3:Lex (32::(wOf++([32]++b))) (tkW wOf::B):=(zaZ (w:=wOf) (by decide) rfl (by decide) (hB k).sp rfl).sp;exact (zaZ (w:=zbD) (by decide) rfl (by decide) (x.app x3 rfl) (y.app rfl)).sp
theorem zdZ:∀ t:Tr,TrOk t->Lex t.text t.toks
 | .leaf n,h=>zl5 h.1 h.2.1
 | .un n a,h=>by
  obtain⟨h1,hk,_,ha⟩:=h;obtain⟨x,y⟩:=zja (b:=[]) (B:=[]) h1 (by omega) (fun e=>by omega);exact (zdm (zdZ a ha)).app x y
 | .bin n a b,h=>by
  obtain⟨h1,hk,_,ha,hb⟩:=h;unfold Tr.text Tr.toks;split
  ·rename_i h17;obtain⟨x,y⟩:=zja (n:=n) h1 (by omega) (fun _=>zdm (c:=decide (b.lev≥5)) (zdZ b hb));exact (zdm (zdZ a ha)).app x y
  ·rename_i h17;have hl:levS (ndK n)=1∨levS (ndK n)=2∨levS (ndK n)=3:=by
    rcases (show ndK n=8∨ndK n=9∨ndK n=10 by omega) with k|k|k<;>rw[k]
    ·exact .inr (.inr rfl)
    ·exact .inl rfl
    ·exact .inr (.inl rfl)
   have hB:=zdm (c:=decide (b.lev≥levS (ndK n)+1)) (zdZ b hb);generalize parS (decide (b.lev≥levS (ndK n)+1)) b.text=v at hB ⊢;generalize parT (decide (b.lev≥levS (ndK n)+1)) b.toks=m at hB ⊢;have hw:Lex (putS ([32]++opWd (levS (ndK n))++ [32]) []++v) (tkW (opWd (levS (ndK n)))::m)∧Bd (putS ([32]++opWd (levS (ndK n))++ [32]) []++v):=by
    have e:putS ([32]++opWd (levS (ndK n))++ [32]) []++v=32::(opWd (levS (ndK n))++(32::v)):=by
     show (([32]++opWd (levS (ndK n))++ [32])++ [])++v=_;simp
    rw[e];refine⟨?_,rfl⟩;rcases hl with hl|hl|hl<;>rw[hl]
    ·exact (zaZ (w:=wOr) (by decide) rfl (by decide) hB.sp rfl).sp
    ·exact (zaZ (w:=zjG) (by decide) rfl (by decide) hB.sp rfl).sp
    ·exact (zaZ (w:=wAnd) (by decide) rfl (by decide) hB.sp rfl).sp
   exact (zdm (zdZ a ha)).app hw.1 hw.2
theorem zoq {t:Tr} (h:TrOk t):Qt 0 t.toks t:=(zeR t h).up (zk _) (by have:=zfZ (ndK t.root);unfold levI Tr.lev;omega)
theorem zm6 {t:Tr} (h:TrOk t) (hs:t.size≤64):zeo t.text= .ok t:=zrO (zoq h) hs (zl4 (zdZ t h) _ [] rfl)
def opsN (n:Nd):Int:=(zdC (ndK n)).1
def zeN (n:Nd) (i:Int):Bool:=
 (bif decide (0 < opsN n) then inB (ndL n) 0 (i - 1) else (ndL n==0)||(ndK n==7))&&(bif decide (1 < opsN n) then inB (ndR n) 0 (i - 1) else ndR n==0)
def bump (u:List Int) (j:Int):List Int:=u.set j.toNat (u.getD j.toNat 0+1)
def zbE (u:List Int) (n:Nd):List Int:=
 bif decide (1 < opsN n) then bump (bump u (ndL n)) (ndR n) else bif decide (0 < opsN n) then bump u (ndL n) else u
def zca (r:List Nd) (k:Nat):List Int:=(r.take k).foldl zbE (zu r.length 0)
def zcE (n:Nd) (i:Int):Bool:=zbc n&&zeN n i
def zcZ (r:List Nd):Nat->Bool
 |0=>true
 |k+1=>zcZ r k&&zcE (r.getD k zNd) (k:Int)
def wfS (r:List Nd):Bool:=decide (1≤r.length)&&decide (r.length≤64)&&zcZ r r.length&& !((zca r r.length).take (r.length - 1)).any not1
def zcT (r:List Nd):Int:=if 64 < r.length∨r.any bigN=true then 2 else if wfS r=true then 0 else 1
theorem zdj {r:List Nd}:∀ {k:Nat},zcZ r k=true↔∀ j,j < k->zcE (r.getD j zNd) (j:Int)=true
 |0=>⟨fun _ j h=>by omega,fun _=>rfl⟩
 |k+1=>by
  unfold zcZ;rw[zf,zdj (k:=k)];constructor
  ·rintro ⟨h1,h2⟩ j hj;by_cases e:j=k
   ·rw[e];exact h2
   ·exact h1 j (by omega)
  ·exact fun h=>⟨fun j hj=>h j (by omega),h k (by omega)⟩
theorem ziu (r:List Nd) (j:Nat):zav r (j:Int)=r.getD j zNd:=rfl
theorem zlT {n:Nd} (h:11≤ndK n∧ndK n≤16):opsN n=1:=by
 unfold opsN;rcases (show ndK n=11∨ndK n=12∨ndK n=13∨ndK n=14∨ndK n=15∨ndK n=16 by omega) with k|k|k|k|k|k<;>rw[k]<;>rfl
theorem zi7 {n:Nd} (h:(8≤ndK n∧ndK n≤10)∨ndK n=17):opsN n=2:=by
 unfold opsN;rcases (show ndK n=8∨ndK n=9∨ndK n=10∨ndK n=17 by omega) with k|k|k|k<;>rw[k]<;>rfl
theorem zgL {n:Nd} (h1:1≤ndK n∧ndK n≤18) (h:¬ (8≤ndK n∧ndK n≤17)):opsN n=0:=by
 unfold opsN;rcases (show ndK n=1∨ndK n=2∨ndK n=3∨ndK n=4∨ndK n=5∨ndK n=6∨ndK n=7∨ndK n=18 by omega) with k|k|k|k|k|k|k|k<;>rw[k]<;>rfl
theorem zoD {n:Nd} {i:Int} (h:11≤ndK n∧ndK n≤16):zeN n i=true↔(0≤ndL n∧ndL n≤i - 1)∧ndR n=0:=by
 unfold zeN;rw[zlT h,decide_eq_true (by decide),decide_eq_false (by decide),cond_true,cond_false,zf,zaL,beq_iff_eq]
theorem zi8 {n:Nd} {i:Int} (h:(8≤ndK n∧ndK n≤10)∨ndK n=17):zeN n i=true↔(0≤ndL n∧ndL n≤i - 1)∧(0≤ndR n∧ndR n≤i - 1):=by
 unfold zeN;rw[zi7 h,decide_eq_true (by decide),decide_eq_true (by decide),cond_true,cond_true,zf,zaL,zaL]
theorem zlU {n:Nd} {i:Int} (h1:1≤ndK n∧ndK n≤18) (h:¬ (8≤ndK n∧ndK n≤17)):zeN n i=true↔(ndL n=0∨ndK n=7)∧ndR n=0:=by
 unfold zeN;rw[zgL h1 h,decide_eq_false (by decide),decide_eq_false (by decide),cond_false,cond_false,zf,yl,beq_iff_eq,beq_iff_eq,beq_iff_eq]
theorem zrU (n:Nd):n=(ndK n,ndC n,ndL n,ndR n,ndN n,ndM n,ndI n,ndS n,()):=rfl
theorem zgP {n:Nd} (h:8≤ndK n∧ndK n≤17) (l r:Int):zbc (zbs n l r)=zbc n:=by
 have h7:zcY (zbs n l r)=zcY n:=by
  unfold zcY;have hk:(zbs n l r).1=n.1:=rfl;have h7:(n.1==7)=false:=beq_eq_false_iff_ne.2 fun e=>by have:ndK n=7:=e;omega
  rw[hk,h7];rfl
 unfold zbc;rw[h7];rfl
def trF:Nat->List Nd->Int->Tr
 |0,r,i=>.leaf (zav r i)
 |k+1,r,i=>
  if 11≤ndK (zav r i)∧ndK (zav r i)≤16 then .un (zbs (zav r i) 0 0) (trF k r (ndL (zav r i)))
  else if (8≤ndK (zav r i)∧ndK (zav r i)≤10)∨ndK (zav r i)=17 then .bin (zbs (zav r i) 0 0) (trF k r (ndL (zav r i))) (trF k r (ndR (zav r i)))
  else .leaf (zav r i)
theorem zkV:∀ (k:Nat) (r:List Nd) (i:Int),(trF k r i).lev=levS (ndK (zav r i))
 |0,_,_=>rfl
 |k+1,r,i=>by
  unfold trF;split
  ·rfl
  ·split<;>rfl
def Low (r:List Nd):Prop:=∀ j:Nat,j < r.length->(8≤ndK (zav r j)->ndK (zav r j)≤17->0≤ndL (zav r j)∧ndL (zav r j) < j)∧(8≤ndK (zav r j)->ndK (zav r j)≤10∨ndK (zav r j)=17->0≤ndR (zav r j)∧ndR (zav r j) < j)
theorem zqg {n:Nd} (b:List UInt8) (h:11≤ndK n∧ndK n≤16):zbA b n=zbA [] (zbs n 0 0):=by
 unfold zbA;have hk:ndK (zbs n 0 0)=ndK n:=rfl;rw[hk];rcases (show ndK n=11∨ndK n=12∨ndK n=13∨ndK n=14∨ndK n=15∨ndK n=16 by omega) with k|k|k|k|k|k<;>rw[k]<;>rfl
theorem ziM (n:Nd) (a b:Tr):(Tr.bin n a b).text=if ndK n=17 then parS (decide (a.lev≥4)) a.text++zbA (parS (decide (b.lev≥5)) b.text) n
 else parS (decide (a.lev≥levS (ndK n))) a.text++(putS ([32]++opWd (levS (ndK n))++ [32]) []++parS (decide (b.lev≥levS (ndK n)+1)) b.text):=rfl
theorem zgM {r:List Nd} (hl:Low r):∀ (k:Nat) (i:Nat),i < k->i < r.length->zc0 k r i=(trF k r i).text
 |0,_,h,_=>by omega
 |k+1,i,hk,hr=>by
  obtain⟨hL,hR⟩:=hl i hr;unfold zc0 trF;generalize hn:zav r (i:Int)=n at *;have key:∀ j:Int,0≤j->j < (i:Int)->zc0 k r j=(trF k r j).text:=fun j h0 h1=>by
   obtain⟨m,rfl⟩:∃ m:Nat,j=(m:Int):=⟨j.toNat,by omega⟩;exact zgM hl k m (by omega) (by omega)
  by_cases h11:11≤ndK n∧ndK n≤16
  ·rw[if_pos h11,zho (by omega),if_neg (by decide),if_pos rfl];obtain⟨a,b⟩:=hL (by omega) (by omega);show _=parS (decide ((trF k r (ndL n)).lev≥4)) (trF k r (ndL n)).text++zbA [] (zbs n 0 0);rw[zkV,key _ a b,zqg _ h11]
  ·rw[if_neg h11];by_cases h8:(8≤ndK n∧ndK n≤10)∨ndK n=17
   ·rw[if_pos h8];obtain⟨a,b⟩:=hL (by omega) (by omega);obtain⟨c,d⟩:=hR (by omega) (by omega);rw[key _ a b,key _ c d];have hk:ndK (zbs n 0 0)=ndK n:=rfl;rw[ziM,hk,zkV,zkV];by_cases h17:ndK n=17
    ·rw[if_pos h17,h17,if_neg (by decide),if_pos (by decide)];have:∀ b,zbA b n=zbA b (zbs n 0 0):=fun b=>by
      unfold zbA;rw[hk,h17];rfl
     rw[this]
    ·have hlt:levS (ndK n) < 4:=by rcases (show ndK n=8∨ndK n=9∨ndK n=10 by omega) with k|k|k<;>rw[k]<;>decide
     rw[if_neg h17,if_pos hlt]
   ·rw[if_neg h8];rw[zjb (by omega),if_neg (by decide),if_neg (by decide)];rfl
theorem zcx {r:List Nd} (h:zcZ r r.length=true) {j:Nat} (hj:j < r.length):zbc (zav r j)=true∧zeN (zav r j) (j:Int)=true:=by
 have:=zdj.1 h j hj;unfold zcE at this;rw[zf]at this;exact this
theorem zl0 {r:List Nd} (h:zcZ r r.length=true):Low r:=fun j hj=>by
 obtain⟨_,h2⟩:=zcx h hj;constructor
 ·intro a b;by_cases hu:11≤ndK (zav r j)∧ndK (zav r j)≤16
  ·have:=((zoD hu).1 h2).1;omega
  ·have:=((zi8 (by omega)).1 h2).1;omega
 ·intro a b;have:=((zi8 (by omega)).1 h2).2;omega
theorem znG {r:List Nd} (h:zcZ r r.length=true):∀ (k i:Nat),i < k->i < r.length->TrOk (trF k r i)
 |0,_,hk,_=>by omega
 |k+1,i,hk,hr=>by
  obtain⟨h1,h2⟩:=zcx h hr;obtain⟨⟨k1,k2⟩,_⟩:=zaE h1;have key:∀ j:Int,0≤j->j≤(i:Int) - 1->TrOk (trF k r j):=fun j h0 h1=>by
   obtain⟨m,rfl⟩:∃ m:Nat,j=(m:Int):=⟨j.toNat,by omega⟩;exact znG h k m (by omega) (by omega)
  unfold trF;generalize zav r (i:Int)=n at *;by_cases h11:11≤ndK n∧ndK n≤16
  ·rw[if_pos h11];obtain⟨⟨a,b⟩,_⟩:=(zoD h11).1 h2;exact⟨by rw[zgP (by omega)];exact h1,h11,⟨rfl,rfl⟩,key _ a b⟩
  ·rw[if_neg h11];by_cases h8:(8≤ndK n∧ndK n≤10)∨ndK n=17
   ·rw[if_pos h8];obtain⟨⟨a,b⟩,⟨c,d⟩⟩:=(zi8 h8).1 h2;exact⟨by rw[zgP (by omega)];exact h1,h8,⟨rfl,rfl⟩,key _ a b,key _ c d⟩
   ·rw[if_neg h8];have hlf:¬ (8≤ndK n∧ndK n≤17):=by omega
    obtain⟨a,b⟩:=(zlU ⟨k1,k2⟩ hlf).1 h2;exact⟨h1,hlf,b,fun e=>a.resolve_right e⟩
theorem zd5 (u:List Int) (j:Int):(bump u j).length=u.length:=List.length_set ..
theorem zmI (u:List Int) (n:Nd):(zbE u n).length=u.length:=by
 unfold zbE;cases decide (1 < opsN n)<;>cases decide (0 < opsN n)<;>simp[zd5]
theorem zcP {u:List Int} {j:Int} {k:Nat} (hj:j.toNat < u.length):(bump u j).getD k 0=if k=j.toNat then u.getD k 0+1 else u.getD k 0:=by
 unfold bump;rw[zy,uv];by_cases e:k=j.toNat
 ·subst e;rw[if_pos rfl,if_pos rfl,if_pos hj];rfl
 ·rw[if_neg fun h=>e h.symm,if_neg e,zy]
theorem zcU (r:List Nd) (k:Nat):(zca r k).length=r.length:=by
 unfold zca;have:∀ (l:List Nd) (u:List Int),(l.foldl zbE u).length=u.length:=by
  intro l
  induction l with
  |nil=>intro u;rfl
  |cons n l ih=>intro u;rw[vr,ih,zmI]
 rw[this,xI]
theorem zcJ {r:List Nd} {k:Nat} (hk:k < r.length):zca r (k+1)=zbE (zca r k) (zav r k):=by
 unfold zca;rw[zO hk,xG];show zbE _ r[k]=zbE _ (r.getD k zNd);rw[zy,zU hk];rfl
theorem zkU (r:List Nd) (j:Nat):(zca r 0).getD j 0=0:=by
 unfold zca;rw[List.take_zero,List.foldl_nil,zy,List.getElem?_replicate];split<;>rfl
theorem zfb {n:Nd} {u:List Int} (h:(8≤ndK n->ndK n≤17->0≤ndL n∧ndL n < u.length)∧(8≤ndK n->ndK n≤10∨ndK n=17->0≤ndR n∧ndR n < u.length)) (hk:1≤ndK n∧ndK n≤18) (k:Nat):
  (zbE u n).getD k 0=u.getD k 0+(if 8≤ndK n∧ndK n≤17∧k=(ndL n).toNat then 1 else 0)+(if ((8≤ndK n∧ndK n≤10)∨ndK n=17)∧k=(ndR n).toNat then 1 else 0):=by
 obtain⟨hL,hR⟩:=h;unfold zbE;by_cases h11:11≤ndK n∧ndK n≤16
 ·obtain⟨a,b⟩:=hL (by omega) (by omega);rw[zlT h11,decide_eq_false (by decide),decide_eq_true (by decide),cond_false,cond_true,zcP (by omega)];rw[if_neg (c:=((8≤ndK n∧ndK n≤10)∨ndK n=17)∧k=(ndR n).toNat) (by omega)];by_cases e:k=(ndL n).toNat
  ·rw[if_pos e,if_pos ⟨by omega,by omega,e⟩];omega
  ·rw[if_neg e,if_neg fun h=>e h.2.2];omega
 ·by_cases h8:(8≤ndK n∧ndK n≤10)∨ndK n=17
  ·obtain⟨a,b⟩:=hL (by omega) (by omega);obtain⟨c,d⟩:=hR (by omega) (by omega);rw[zi7 h8,decide_eq_true (by decide),cond_true,zcP (by rw[zd5];omega),zcP (by omega)];by_cases e:k=(ndL n).toNat
   ·rw[if_pos e,if_pos (c:=8≤ndK n∧ndK n≤17∧k=(ndL n).toNat) ⟨by omega,by omega,e⟩];by_cases e2:k=(ndR n).toNat
    ·rw[if_pos e2,if_pos ⟨h8,e2⟩]
    ·rw[if_neg e2,if_neg fun h=>e2 h.2];omega
   ·rw[if_neg e,if_neg (c:=8≤ndK n∧ndK n≤17∧k=(ndL n).toNat) fun h=>e h.2.2];by_cases e2:k=(ndR n).toNat
    ·rw[if_pos e2,if_pos ⟨h8,e2⟩];omega
    ·rw[if_neg e2,if_neg fun h=>e2 h.2];omega
  ·rw[zgL hk (by omega),decide_eq_false (by decide),decide_eq_false (by decide),cond_false,cond_false,if_neg (by omega),if_neg (by omega)];omega
def pot (u:List Int) (f:Nat->Nat):Nat->Nat
 |0=>0
 |m+1=>pot u f m+(if u.getD m 0=0 then f m else 0)
theorem zgI {u:List Int} {f:Nat->Nat} {j:Int} (hj:j.toNat < u.length) (h0:u.getD j.toNat 0=0):∀ {m:Nat},(j.toNat < m->pot (bump u j) f m+f j.toNat=pot u f m)∧(m≤j.toNat->pot (bump u j) f m=pot u f m)
 |0=>⟨fun h=>by omega,fun _=>rfl⟩
 |m+1=>by
  obtain⟨i1,i2⟩:=zgI (f:=f) hj h0 (m:=m);constructor
  ·intro h;unfold pot;rw[zcP hj];by_cases e:m=j.toNat
   ·rw[i2 (by omega),if_pos e,e,h0,if_neg (by decide),if_pos rfl];omega
   ·rw[if_neg e, <-i1 (by omega)];omega
  ·intro h;unfold pot;rw[i2 (by omega),zcP hj,if_neg (c:=m=j.toNat) (by omega)]
theorem zex {r:List Nd} (hl:Low r) (hk:∀ j:Nat,j < r.length->1≤ndK (zav r j)∧ndK (zav r j)≤18):∀ m,m≤r.length->∀ j,m≤j->(zca r m).getD j 0=0
 |0,_,j,_=>zkU r j
 |m+1,hm,j,hj=>by
  obtain⟨a,b⟩:=hl m (by omega);rw[zcJ (by omega),zfb (by rw[zcU];exact⟨fun x y=>by have:=a x y;omega,fun x y=>by have:=b x y;omega⟩) (hk m (by omega)),zex hl hk m (by omega) j (by omega),if_neg,if_neg]
  ·omega
  ·rintro ⟨x,y⟩;have:=b (by omega) (by omega);omega
  ·rintro ⟨x,y,z⟩;have:=a x y;omega
theorem zgW {r:List Nd} (hl:Low r) (hk:∀ j:Nat,j < r.length->1≤ndK (zav r j)∧ndK (zav r j)≤18) (j:Nat):∀ d m,m+d≤r.length->(zca r m).getD j 0≤(zca r (m+d)).getD j 0
 |0,m,_=>xF _
 |d+1,m,h=>by
  have:=zgW hl hk j d m (by omega);obtain⟨a,b⟩:=hl (m+d) (by omega);rw[<-Nat.add_assoc,zcJ (by omega),zfb (by rw[zcU];exact⟨fun x y=>by have:=a x y;omega,fun x y=>by have:=b x y;omega⟩) (hk (m+d) (by omega))];have p1:(0:Int)≤if 8≤ndK (zav r (m+d:Nat))∧ndK (zav r (m+d:Nat))≤17∧j=(ndL (zav r (m+d:Nat))).toNat then 1 else 0:=by split<;>decide
  have p2:(0:Int)≤if ((8≤ndK (zav r (m+d:Nat))∧ndK (zav r (m+d:Nat))≤10)∨ndK (zav r (m+d:Nat))=17)∧j=(ndR (zav r (m+d:Nat))).toNat then 1 else 0:=by split<;>decide
  omega
theorem ziK {r:List Nd} (hl:Low r):∀ (k k' i:Nat),i < k->i < k'->i < r.length->trF k r i=trF k' r i
 |0,_,_,h,_,_=>by omega
 |_+1,0,_,_,h,_=>by omega
 |k+1,k'+1,i,h,h',hr=>by
  obtain⟨hL,hR⟩:=hl i hr;have key:∀ j:Int,0≤j->j < (i:Int)->trF k r j=trF k' r j:=fun j h0 h1=>by
   obtain⟨m,rfl⟩:∃ m:Nat,j=(m:Int):=⟨j.toNat,by omega⟩;exact ziK hl k k' m (by omega) (by omega) (by omega)
  unfold trF;split
  ·rename_i hu;obtain⟨a,b⟩:=hL (by omega) (by omega);rw[key _ a b]
  ·split
   ·rename_i hb;obtain⟨a,b⟩:=hL (by omega) (by omega);obtain⟨c,d⟩:=hR (by omega) (by omega);rw[key _ a b,key _ c d]
   ·rfl
theorem zlR {r:List Nd} (hl:Low r) (hk:∀ j:Nat,j < r.length->1≤ndK (zav r j)∧ndK (zav r j)≤18) (h1:∀ j,(zca r r.length).getD j 0≤1):∀ m,m≤r.length->pot (zca r m) (fun j=>(trF (r.length+1) r j).size) m=m
 |0,_=>rfl
 |m+1,hm=>by
  have ih:=zlR hl hk h1 m (by omega);obtain⟨hL,hR⟩:=hl m (by omega);have hkm:=hk m (by omega);have hb:∀ j,(zca r (m+1)).getD j 0≤1:=fun j=>by
   have:=zgW hl hk j (r.length - (m+1)) (m+1) (by omega);rw[show m+1+(r.length - (m+1))=r.length by omega]at this;have:=h1 j;omega
  have hab:=zex hl hk m (by omega);have hlen:=zcU r m;have hpos:∀ j,0≤(zca r m).getD j 0:=fun j=>by
   have:=zgW hl hk j m 0 (by omega);rw[zkU,yp]at this;exact this
  have hm0:(zca r (m+1)).getD m 0=0:=by
   have h:=hab m (zl _);rw[zcJ (by omega),zfb (by rw[zcU];exact⟨fun x y=>by have:=hL x y;omega,fun x y=>by have:=hR x y;omega⟩) hkm,h,if_neg,if_neg]
   ·rfl
   ·rintro ⟨x,y⟩;have:=hR (by omega) (by omega);omega
   ·rintro ⟨x,y,z⟩;have:=hL x y;omega
  have key:∀ j:Int,0≤j->j < (m:Int)->(trF r.length r j).size=(trF (r.length+1) r (j.toNat:Nat)).size:=fun j h0 h1=>by
   obtain⟨q,rfl⟩:∃ q:Nat,j=(q:Int):=⟨j.toNat,by omega⟩;rw[zD,ziK hl r.length (r.length+1) q (by omega) (by omega) (by omega)]
  have hf:∀ n,zav r (m:Int)=n->(trF (r.length+1) r (m:Int)).size=(if 8≤ndK n∧ndK n≤17 then (trF (r.length+1) r ((ndL n).toNat:Nat)).size else 0)+(if (8≤ndK n∧ndK n≤10)∨ndK n=17 then (trF (r.length+1) r ((ndR n).toNat:Nat)).size else 0)+1:=by
   rintro n rfl
   conv=>lhs;unfold trF
   split
   ·rename_i hu;obtain⟨a,b⟩:=hL (by omega) (by omega);rw[if_pos (by omega),if_neg (by omega)];show (trF r.length r _).size+1=_;rw[key _ a b]
   ·split
    ·rename_i hu;obtain⟨a,b⟩:=hL (by omega) (by omega);obtain⟨c,d⟩:=hR (by omega) (by omega);rw[if_pos (by omega)];show (trF r.length r _).size+(trF r.length r _).size+1=_;rw[key _ a b,key _ c d]
    ·rw[if_neg (by omega)];rfl
  have hf:=hf _ rfl;unfold pot;rw[hm0,if_pos rfl];have hu:=zcJ (r:=r) (k:=m) (by omega);rw[hu]at hb ⊢;generalize hn:zav r (m:Int)=n at *;rw[hf];unfold zbE at hb ⊢;by_cases h11:11≤ndK n∧ndK n≤16
  ·obtain⟨a,b⟩:=hL (by omega) (by omega);rw[zlT h11,decide_eq_false (by decide),decide_eq_true (by decide),cond_false,cond_true]at hb ⊢;rw[if_pos (by omega),if_neg (by omega)];have h0:=hb (ndL n).toNat;rw[zcP (by omega),if_pos rfl]at h0;have:=hpos (ndL n).toNat;have:=(zgI (f:=fun j=>(trF (r.length+1) r j).size) (u:=zca r m) (j:=ndL n) (by omega) (by omega) (m:=m)).1 (by omega);omega
  ·by_cases h8:(8≤ndK n∧ndK n≤10)∨ndK n=17
   ·obtain⟨a,b⟩:=hL (by omega) (by omega);obtain⟨c,d⟩:=hR (by omega) (by omega);rw[zi7 h8,decide_eq_true (by decide),cond_true]at hb ⊢;rw[if_pos (by omega),if_pos h8];have hne:(ndL n).toNat≠(ndR n).toNat:=fun e=>by
     have h0:=hb (ndR n).toNat;rw[zcP (by rw[zd5];omega),if_pos rfl,zcP (by omega),if_pos e.symm]at h0;have:=hpos (ndR n).toNat;omega
    have h0:=hb (ndL n).toNat;rw[zcP (by rw[zd5];omega),if_neg hne,zcP (by omega),if_pos rfl]at h0;have h2:=hb (ndR n).toNat;rw[zcP (by rw[zd5];omega),if_pos rfl,zcP (by omega),if_neg (fun e=>hne e.symm)]at h2;have p1:=hpos (ndL n).toNat;have p2:=hpos (ndR n).toNat;have e1:=(zgI (f:=fun j=>(trF (r.length+1) r j).size) (u:=zca r m) (j:=ndL n) (by omega) (by omega) (m:=m)).1 (by omega);have e2:=(zgI (f:=fun j=>(trF (r.length+1) r j).size) (u:=bump (zca r m) (ndL n)) (j:=ndR n) (by rw[zd5];omega) (by rw[zcP (by omega),if_neg (fun e=>hne e.symm)];omega) (m:=m)).1 (by omega);omega
   ·rw[zgL hkm (by omega),decide_eq_false (by decide),decide_eq_false (by decide),cond_false,cond_false,if_neg (by omega),if_neg (by omega),ih]
theorem zdw {r:List Nd} (h:wfS r=true):(1≤r.length∧r.length≤64)∧zcZ r r.length=true∧∀ j,j < r.length - 1->(zca r r.length).getD j 0=1:=by
 unfold wfS at h;simp only[zf,decide_eq_true_iff,zB,uw]at h;obtain⟨⟨h1,h2⟩,h3⟩:=h;refine⟨h1,h2,fun j hj=>?_⟩;have hl:=zcU r r.length;have hj2:j < (zca r r.length).length:=by omega
 have:=h3 ((zca r r.length)[j]) (List.mem_take_iff_getElem.2 ⟨j,by omega,rfl⟩);rw[zy,zU hj2];unfold not1 at this
 simpa using this
def zc8 (r:List Nd):Tr:=trF (r.length+1) r ((r.length:Int) - 1)
theorem znJ {r:List Nd} (h:wfS r=true):(zc8 r).size=r.length:=by
 obtain⟨⟨h1,h2⟩,h3,h4⟩:=zdw h;have hl:=zl0 h3;have hk:∀ j:Nat,j < r.length->1≤ndK (zav r j)∧ndK (zav r j)≤18:=fun j hj=>(zaE (zcx h3 hj).1).1;have hlast:(zca r r.length).getD (r.length - 1) 0=0:=by
  obtain⟨m,hm⟩:∃ m,r.length=m+1:=⟨r.length - 1,by omega⟩;obtain⟨a,b⟩:=hl m (by omega);rw[hm,vN,zcJ (by omega),zfb (by rw[zcU];exact⟨fun x y=>by have:=a x y;omega,fun x y=>by have:=b x y;omega⟩) (hk m (by omega)),zex hl hk m (by omega) m (zl _),if_neg,if_neg]
  ·rfl
  ·rintro ⟨x,y⟩;have:=b (by omega) (by omega);omega
  ·rintro ⟨x,y,z⟩;have:=a x y;omega
 have hle:∀ j,(zca r r.length).getD j 0≤1:=fun j=>by
  by_cases e:j < r.length - 1
  ·rw[h4 j e];exact xF _
  ·by_cases e2:j=r.length - 1
   ·rw[e2,hlast];decide
   ·rw[zex hl hk r.length (zl _) j (by omega)];decide
 have:=zlR hl hk hle r.length (zl _);obtain⟨m,hm⟩:∃ m,r.length=m+1:=⟨r.length - 1,by omega⟩;have hp:∀ q,q≤m->pot (zca r r.length) (fun j=>(trF (r.length+1) r j).size) q=0:=by
  intro q
  induction q with
  |zero=>intro _;rfl
  |succ q ih=>intro hq;unfold pot;rw[ih (by omega),h4 q (by omega),if_neg (by decide)]
 rw[hm]at this hlast;unfold pot at this;rw[<-hm]at this hlast;rw[hp m (zl _)]at this;have hm2:r.length - 1=m:=by omega
 rw[hm2]at hlast;rw[hlast,if_pos rfl]at this;unfold zc8;rw[show ((r.length:Int) - 1)=((m:Nat):Int) by omega];omega
theorem zsx {r:List Nd} (h:wfS r=true):TrOk (zc8 r):=by
 obtain⟨⟨h1,h2⟩,h3,h4⟩:=zdw h;unfold zc8;rw[show ((r.length:Int) - 1)=((r.length - 1:Nat):Int) by omega];exact znG h3 _ _ (by omega) (by omega)
theorem znI {r:List Nd} (h:wfS r=true):zc0 (r.length+1) r ((r.length:Int) - 1)=(zc8 r).text:=by
 obtain⟨⟨h1,h2⟩,h3,h4⟩:=zdw h;unfold zc8;rw[show ((r.length:Int) - 1)=((r.length - 1:Nat):Int) by omega];exact zgM (zl0 h3) _ _ (by omega) (by omega)
def fmtS (r:List Nd):List UInt8×Int:=if zcT r=0 then (if 4000 < (zc8 r).text.length then ([],2) else ((zc8 r).text,0)) else ([],zcT r)
theorem zjr {u:List Int} {B:Int} (h:∀ k:Nat,0≤u.getD k 0∧u.getD k 0≤B) (j:Int):∀ k:Nat,0≤(bump u j).getD k 0∧(bump u j).getD k 0≤B+1:=fun k=>by
 unfold bump;rw[zy,uv];have h1:=h k;have h2:=h j.toNat;rw[zy]at h1;split
 ·split
  ·show 0≤u.getD j.toNat 0+1∧u.getD j.toNat 0+1≤B+1;omega
  ·show (0:Int)≤0∧(0:Int)≤B+1;omega
 ·omega
theorem znC {u:List Int} {n:Nd} {B:Int} (h:∀ k:Nat,0≤u.getD k 0∧u.getD k 0≤B) (k:Nat):0≤(zbE u n).getD k 0∧(zbE u n).getD k 0≤B+2:=by
 unfold zbE;cases decide (1 < opsN n) with
 |true=>
  have:=zjr (zjr h (ndL n)) (ndR n) k;rw[cond_true];omega
 |false=>
  cases decide (0 < opsN n) with
  |true=>
   have:=zjr h (ndL n) k;rw[cond_false,cond_true];omega
  |false=>
   have:=h k;rw[cond_false,cond_false];omega
theorem zlG (r:List Nd):∀ (i:Nat),i≤r.length->∀ k:Nat,0≤(zca r i).getD k 0∧(zca r i).getD k 0≤2 * (i:Int)
 |0,_,k=>by rw[zkU];omega
 |i+1,hi,k=>by
  rw[zcJ (by omega)];have:=znC (n:=zav r i) (zlG r i (by omega)) k;omega
def zcG (u:List Int) (n:Nd):Nat->List Int
 |0=>u
 |1=>if 0 < opsN n then bump u (ndL n) else u
 |_=>zbE u n
def opdJ (n:Nd) (i:Int):Nat->Bool
 |0=>true
 |1=>(bif decide (0 < opsN n) then inB (ndL n) 0 (i - 1) else (ndL n==0)||(ndK n==7))
 |_=>zeN n i
theorem znD {u:List Int} {n:Nd} {B:Int} (h:∀ k:Nat,0≤u.getD k 0∧u.getD k 0≤B) (k:Nat):0≤(zcG u n 1).getD k 0∧(zcG u n 1).getD k 0≤B+1:=by
 show 0≤(if 0 < opsN n then bump u (ndL n) else u).getD k 0∧(if 0 < opsN n then bump u (ndL n) else u).getD k 0≤B+1;by_cases e:0 < opsN n
 ·rw[if_pos e];exact zjr h _ k
 ·rw[if_neg e];have:=h k;omega
theorem zmJ (u:List Int) (n:Nd):(zcG u n 1).length=u.length:=by
 show (if 0 < opsN n then bump u (ndL n) else u).length=u.length;by_cases e:0 < opsN n
 ·rw[if_pos e];exact zd5 _ _
 ·rw[if_neg e]
def cWf:Ctr:={ args:=[.slice nd],pre:=fun _=>[],res:=.bool,own:=none,out:=fun x=>wfS x.1 }
def kWf:Kn:={ gmK with C:=[(119,zbm),(74,zhJ),(120,cName),(121,zpM),(122,cNumb),(123,cAnyU)] }
theorem zaK:KnOk Tryz.prog gmH kWf:=zaj.with (.cons zjC <| .cons zjR <| .cons zoI <| .cons zoT <| .cons zsT <| .cons zt6 .nil)
theorem zlE {r:List Nd} {i:Nat} (hi:i < r.length) (h:zcE (zav r i) (i:Int)=false):wfS r=false:=by
 have:zcZ r r.length=false:=by
  rw[qX];intro e;have:=zdj.1 e i hi;rw[<-ziu,h]at this;cases this
 unfold wfS;rw[this,xk,xL]
theorem zjE {r:List Nd} {i:Nat} (hi:i < r.length) (h:zbc (zav r i)=false):wfS r=false:=zlE hi (by unfold zcE;rw[h];rfl)
theorem zjD {r:List Nd} {i:Nat} (hi:i < r.length) (h:zeN (zav r i) (i:Int)=false):wfS r=false:=zlE hi (by unfold zcE;rw[h,xk])
theorem zsF {k:Int} (h:1≤k∧k≤18):(zdC k).1=0∨(zdC k).1=1∨(zdC k).1=2:=by
 rcases (show k=1∨k=2∨k=3∨k=4∨k=5∨k=6∨k=7∨k=8∨k=9∨k=10∨k=11∨k=12∨k=13∨k=14∨k=15∨k=16∨k=17∨k=18 by omega) with rfl|rfl|rfl|rfl|rfl|rfl|rfl|rfl|rfl|rfl|rfl|rfl|rfl|rfl|rfl|rfl|rfl|rfl<;>decide
theorem zlF {u:List Int} {n:Nd} (h:opsN n=0∨opsN n=1∨opsN n=2):(if 1 < opsN n then bump (zcG u n 1) (ndR n) else zcG u n 1)=zcG u n 2:=by
 show _=zbE u n;unfold zbE zcG;rcases h with h|h|h<;>rw[h]<;>rfl
theorem bufI {te:zn} {x y:List Int} (h:x=y):some (OObj.buf te i64 x)=some (OObj.buf te i64 y):=by rw[h]
set_option maxHeartbeats 1000000 in
theorem wf_ok:yK Tryz.prog gmH 72 cWf:=by
 refine zaq (K:=kWf) zaK Tryz.func72 rfl rfl Tryz.call72 rfl (by decide) (by intro h;cases h) ?_;rintro w0 X hX ⟨(r:List Nd),_⟩ hp;change AWP _ _ _ _ _ ⟨[(0,⟨.slice nd,r⟩)],[],0⟩ _;refine AWP.len 0 rfl fun hl=>?_;unfold maxLen at hl;refine za (za ?_);refine zaa hX zaK rfl ?_ ?_
 ·trivial
 refine za (za ?_);refine zaa hX zaK rfl ?_ ?_
 ·repeat'(first|exact trivial|assumption|(refine⟨?_,?_⟩)|(intro _)|exact zb rfl|exact zi _|(simp_all [allP];done))
 refine zaf rfl (fun hb=>?_) (fun hb=>?_)
 ·have hb:(bif decide (((r.length:Nat):Int) < 1) then true else decide (((r.length:Nat):Int) > 64))=true:=hb;rw[b_or,yl,decide_eq_true_iff,decide_eq_true_iff]at hb;(repeat(first|apply zae|apply zab|apply zal|apply zad|apply zac|refine zaa hX zaK rfl trivial ?_|refine zaa hX zaK rfl id ?_|refine zaa hX zaK rfl ⟨id,id⟩ ?_));refine zr ⟨.inr rfl,zaw rfl trivial rfl rfl ?_⟩;show false=wfS r;unfold wfS;rcases hb with hb|hb
  ·rw[decide_eq_false (by omega:¬ 1≤r.length)];rfl
  ·rw[decide_eq_false (by omega:¬ r.length≤64),xk,xL,xL]
 have hb:(bif decide (((r.length:Nat):Int) < 1) then true else decide (((r.length:Nat):Int) > 64))=false:=hb;rw[b_or,xu,decide_eq_false_iff_not,decide_eq_false_iff_not]at hb;obtain⟨hb1,hb2⟩:=hb;apply zab;refine za (za ?_);refine zaa hX zaK rfl ?_ ?_
 ·trivial
 have m0:(0:Int)≤((r.length:Nat):Int):=by omega
 have m1:((r.length:Nat):Int)≤1000000000:=by omega
 refine za (za ?_);refine zaa hX zaK rfl ?_ ?_
 ·exact⟨m0,xF _,m1⟩
 refine za (za ?_);refine zaa hX zaK rfl ?_ ?_
 ·trivial
 (repeat(first|apply zae|apply zab|apply zac|apply zad));refine yR (ι:=Nat) (fun i=>⟨[(0,⟨.slice nd,r⟩),(3,⟨.optr (.arr 19 shp),⟨0,.arr 19 shp,.here⟩⟩),(4,⟨.obuf i64,(1:Nat)⟩),(24,⟨.slice nd,r⟩),(25,⟨i64,((r.length:Nat):Int)⟩),(26,⟨i64,(i:Int)⟩)],[(0,some (.box (.arr 19 shp) zce)),(1,some (.buf 3 i64 (zca r i)))],2⟩) (fun i=>i≤r.length∧zcZ r i=true) (fun i=>r.length - i) 0 ⟨zk _,rfl⟩ ⟨⟨rfl,rfl,rfl,rfl,rfl,rfl,trivial⟩,⟨rfl,bufI (by show zu (((r.length:Nat):Int)).toNat (0:Int)=_;rw[zD];rfl),trivial⟩,rfl,rfl⟩ ?_;rintro i ⟨hi,hn⟩;refine za (za ?_);refine zaa hX zaK rfl ?_ ?_
 ·trivial
 apply zae;refine zaf rfl (fun hb=>?_) (fun hb=>?_)
 ·have hb:decide ((i:Int) < (r.length:Nat))=true:=hb;have hb:=of_decide_eq_true hb;have hlt:i < r.length:=by omega
  have n0:(0:Int)≤(i:Int):=by omega
  have hbd:=zlG r i hi;have hul:=zcU r i;have hus:=zcJ hlt;have hno:zcZ r (i+1)=(zcZ r i&&zcE (zav r i) (i:Int)):=rfl;have hff:=zjE hlt;have hfo:=zjD hlt;rw[hn,Bool.true_and]at hno;refine za (za ?_);refine zaa hX zaK rfl ?_ ?_
  ·exact⟨n0,hb⟩
  refine zap (σ':=⟨[(0,⟨.slice nd,r⟩),(3,⟨.optr (.arr 19 shp),⟨0,.arr 19 shp,.here⟩⟩),(4,⟨.obuf i64,(1:Nat)⟩),(24,⟨.slice nd,r⟩),(25,⟨i64,((r.length:Nat):Int)⟩),(26,⟨i64,(i:Int)⟩),(5,⟨i64,(i:Int)⟩),(6,⟨.optr nd,⟨2,nd,.here⟩⟩)],[(0,some (.box (.arr 19 shp) zce)),(1,some (.buf 3 i64 (zca r i))),(2,some (.box nd (zav r i)))],3⟩) ⟨⟨rfl,rfl,rfl,rfl,rfl,rfl,rfl,rfl,trivial⟩,⟨rfl,rfl,rfl,trivial⟩,rfl,rfl⟩ ?_;generalize hnd:zav r i=n at *;generalize zca r i=u at *;refine za (za ?_);refine zaa hX zaK rfl ?_ ?_
  ·repeat'(first|exact trivial|assumption|(refine⟨?_,?_⟩)|(intro _)|exact zb rfl|exact zi _|(simp_all [allP];done))
  have hk18:(bif !inB (ndK n) 1 18 then true else decide (((ndI n).length:Int) > 64))= !(inB (ndK n) 1 18&&decide ((ndI n).length≤64)):=by
   have:decide (((ndI n).length:Int) > 64)= !decide ((ndI n).length≤64):=by
    rw[<-decide_not,decide_eq_decide];omega
   rw[this];cases inB (ndK n) 1 18<;>cases decide ((ndI n).length≤64)<;>rfl
  refine zaf rfl (fun hc=>?_) (fun hc=>?_)
  ·have hc:=hk18.symm.trans hc;rw[zB]at hc;(repeat(first|apply zae|apply zab|apply zal|apply zad|apply zac|refine zaa hX zaK rfl trivial ?_|refine zaa hX zaK rfl id ?_|refine zaa hX zaK rfl ⟨id,id⟩ ?_));refine zr ⟨.inr rfl,zaw rfl trivial rfl rfl ?_⟩;show false=wfS r;rw[hff (by unfold zbc;rw[hc];rfl)]
  have hc:=hk18.symm.trans hc;rw[xj,zf,zaL,decide_eq_true_iff]at hc;obtain⟨⟨k1,k2⟩,hl64⟩:=hc;apply zab;have t0:(0:Int)≤ndK n:=by omega
  have t1:ndK n < ((19:Nat):Int):=by omega
  have t2:(ndK n).toNat < 19:=by omega
  refine za (za ?_);refine zaa hX zaK rfl ?_ ?_
  ·exact⟨t0,t1,t2⟩
  refine zap (σ':=⟨[(0,⟨.slice nd,r⟩),(3,⟨.optr (.arr 19 shp),⟨0,.arr 19 shp,.here⟩⟩),(4,⟨.obuf i64,(1:Nat)⟩),(24,⟨.slice nd,r⟩),(25,⟨i64,((r.length:Nat):Int)⟩),(26,⟨i64,(i:Int)⟩),(5,⟨i64,(i:Int)⟩),(6,⟨.optr nd,⟨2,nd,.here⟩⟩),(7,⟨.optr shp,⟨3,shp,.here⟩⟩)],[(0,some (.box (.arr 19 shp) zce)),(1,some (.buf 3 i64 (u))),(2,some (.box nd n)),(3,some (.box shp (zdC (ndK n))))],4⟩) ⟨⟨rfl,rfl,rfl,rfl,rfl,rfl,rfl,rfl,rfl,trivial⟩,⟨rfl,rfl,rfl,rfl,trivial⟩,rfl,rfl⟩ ?_;have hops:=zsF ⟨k1,k2⟩;refine za (za ?_);refine zaa hX zaK rfl ?_ ?_
  ·trivial
  (repeat(first|apply zae|apply zab|apply zac|apply zad));refine qZ hX 49 ?_;refine yR (ι:=Nat) (fun j=>⟨[(0,⟨.slice nd,r⟩),(3,⟨.optr (.arr 19 shp),⟨0,.arr 19 shp,.here⟩⟩),(4,⟨.obuf i64,(1:Nat)⟩),(24,⟨.slice nd,r⟩),(25,⟨i64,((r.length:Nat):Int)⟩),(26,⟨i64,(i:Int)⟩),(5,⟨i64,(i:Int)⟩),(6,⟨.optr nd,⟨2,nd,.here⟩⟩),(7,⟨.optr shp,⟨3,shp,.here⟩⟩),(49,⟨.slice i64,[ndL n,ndR n]⟩),(50,⟨i64,(2:Int)⟩),(51,⟨i64,(j:Int)⟩)],[(0,some (.box (.arr 19 shp) zce)),(1,some (.buf 3 i64 (zcG u n j))),(2,some (.box nd n)),(3,some (.box shp (zdC (ndK n))))],4⟩) (fun j=>j≤2∧opdJ n i j=true) (fun j=>2 - j) 0 ⟨by decide,rfl⟩ ⟨⟨rfl,rfl,rfl,rfl,rfl,rfl,rfl,rfl,rfl,rfl,rfl,rfl,trivial⟩,⟨rfl,rfl,rfl,rfl,trivial⟩,rfl,rfl⟩ ?_
  ·rintro j ⟨hj,hjo⟩;refine za (za ?_);refine zaa hX zaK rfl ?_ ?_
   ·trivial
   apply zae;refine zaf rfl (fun hb=>?_) (fun hb=>?_)
   ·have hb:decide ((j:Int) < 2)=true:=hb;have hb:=of_decide_eq_true hb;rcases (show j=0∨j=1 by omega) with rfl|rfl
    ·have u0:(0:Int)≤((0:Nat):Int):=by omega
     have u1:((0:Nat):Int) < (([ndL n,ndR n].length:Nat):Int):=by show ((0:Nat):Int) < ((2:Nat):Int);omega
     refine za (za ?_);refine zaa hX zaK rfl ?_ ?_
     ·exact⟨u0,u1⟩
     apply zac;refine za (za ?_);refine zaa hX zaK rfl ?_ ?_
     ·trivial
     refine zaf rfl (fun hd=>?_) (fun hd=>?_)
     ·have hd:decide (((0:Nat):Int) < opsN n)=true:=hd;have hd:=of_decide_eq_true hd;have i1:inR .i64 ((i:Int) - 1):=zam (by omega) (by omega);refine za (za ?_);refine zaa hX zaK rfl ?_ ?_
      ·exact i1
      refine zaf rfl (fun he=>?_) (fun he=>?_)
      ·have he:(!inB (ndL n) 0 ((i:Int) - 1))=true:=he;rw[zB]at he;(repeat(first|apply zae|apply zab|apply zal|apply zad|apply zac|refine zaa hX zaK rfl trivial ?_|refine zaa hX zaK rfl id ?_|refine zaa hX zaK rfl ⟨id,id⟩ ?_));refine zr ⟨.inr rfl,zaw rfl trivial rfl rfl ?_⟩;show false=wfS r;rw[hfo (by unfold zeN;rw[decide_eq_true (show 0 < opsN n from hd),cond_true,he];rfl)]
      have he:(!inB (ndL n) 0 ((i:Int) - 1))=false:=he;rw[xj,zaL]at he;obtain⟨p0,p1⟩:=he;have hbj:∀ k:Nat,0≤(zcG u n 0).getD k 0∧(zcG u n 0).getD k 0≤200:=fun k=>by
       have:=hbd k;show 0≤u.getD k 0∧u.getD k 0≤200;omega
      have hlj:(zcG u n 0).length=r.length:=by exact hul
      have hb3:=hbj (ndL n).toNat;have p2:ndL n < (((zcG u n 0).length:Nat):Int):=by rw[hlj];omega
      have p4:(ndL n).toNat < (zcG u n 0).length:=by rw[hlj];omega
      have p3:inR .i64 ((zcG u n 0).getD (ndL n).toNat 0+1):=zam (by omega) (by omega);apply zab;refine za (za ?_);refine zaa hX zaK rfl ?_ ?_
      ·repeat'(first|exact trivial|exact p0|exact p2|exact p3|exact p4|(refine⟨?_,?_⟩))
      refine za (za ?_);refine zaa hX zaK rfl ?_ ?_
      ·exact za0 (by omega)
      refine⟨1,⟨by omega,?_⟩,by decide,⟨rfl,rfl,rfl,rfl,rfl,rfl,rfl,rfl,rfl,rfl,rfl,rfl,trivial⟩,⟨rfl,bufI ?_,rfl,rfl,trivial⟩,rfl,rfl⟩
      ·show (bif decide (0 < opsN n) then inB (ndL n) 0 ((i:Int) - 1) else _)=true;rw[decide_eq_true (show 0 < opsN n from hd),cond_true,zaL];exact⟨p0,p1⟩
      ·show bump (zcG u n 0) (ndL n)=zcG u n 1;show _=if 0 < opsN n then bump u (ndL n) else u
       rw[if_pos (show 0 < opsN n from hd)];rfl
     ·have hd:decide (((0:Nat):Int) < opsN n)=false:=hd;have hd:=of_decide_eq_false hd;refine za (za ?_);refine zaa hX zaK rfl ?_ ?_
      ·repeat'(first|exact trivial|assumption|(refine⟨?_,?_⟩)|(intro _)|exact zb rfl|exact zi _|(simp_all [allP];done))
      refine zaf rfl (fun he=>?_) (fun he=>?_)
      ·have he:(bif (ndL n != 0) then !(bif (((0:Nat):Int)==0) then (ndK n==7) else false) else false)=true:=he;(repeat(first|apply zae|apply zab|apply zal|apply zad|apply zac|refine zaa hX zaK rfl trivial ?_|refine zaa hX zaK rfl id ?_|refine zaa hX zaK rfl ⟨id,id⟩ ?_));refine zr ⟨.inr rfl,zaw rfl trivial rfl rfl ?_⟩;show false=wfS r;refine (hfo ?_).symm;unfold zeN;rw[decide_eq_false (show ¬ 0 < opsN n from hd),cond_false];revert he;unfold bne;cases (ndL n==0)<;>cases (ndK n==7)<;>intro he<;>first|rfl|cases he
      have he:(bif (ndL n != 0) then !(bif (((0:Nat):Int)==0) then (ndK n==7) else false) else false)=false:=he;apply zab;refine za (za ?_);refine zaa hX zaK rfl ?_ ?_
      ·exact za0 (by omega)
      refine⟨1,⟨by omega,?_⟩,by decide,⟨rfl,rfl,rfl,rfl,rfl,rfl,rfl,rfl,rfl,rfl,rfl,rfl,trivial⟩,⟨rfl,bufI ?_,rfl,rfl,trivial⟩,rfl,rfl⟩
      ·show (bif decide (0 < opsN n) then _ else (ndL n==0)||(ndK n==7))=true;rw[decide_eq_false (show ¬ 0 < opsN n from hd),cond_false];revert he;unfold bne;cases (ndL n==0)<;>cases (ndK n==7)<;>intro he<;>first|rfl|cases he
      ·show zcG u n 0=zcG u n 1;show u=if 0 < opsN n then bump u (ndL n) else u
       rw[if_neg (show ¬ 0 < opsN n from hd)]
    ·have u0:(0:Int)≤((1:Nat):Int):=by omega
     have u1:((1:Nat):Int) < (([ndL n,ndR n].length:Nat):Int):=by show ((1:Nat):Int) < ((2:Nat):Int);omega
     refine za (za ?_);refine zaa hX zaK rfl ?_ ?_
     ·exact⟨u0,u1⟩
     apply zac;refine za (za ?_);refine zaa hX zaK rfl ?_ ?_
     ·trivial
     refine zaf rfl (fun hd=>?_) (fun hd=>?_)
     ·have hd:decide (((1:Nat):Int) < opsN n)=true:=hd;have hd:=of_decide_eq_true hd;have i1:inR .i64 ((i:Int) - 1):=zam (by omega) (by omega);refine za (za ?_);refine zaa hX zaK rfl ?_ ?_
      ·exact i1
      refine zaf rfl (fun he=>?_) (fun he=>?_)
      ·have he:(!inB (ndR n) 0 ((i:Int) - 1))=true:=he;rw[zB]at he;(repeat(first|apply zae|apply zab|apply zal|apply zad|apply zac|refine zaa hX zaK rfl trivial ?_|refine zaa hX zaK rfl id ?_|refine zaa hX zaK rfl ⟨id,id⟩ ?_));refine zr ⟨.inr rfl,zaw rfl trivial rfl rfl ?_⟩;show false=wfS r;rw[hfo (by unfold zeN;rw[decide_eq_true (show 1 < opsN n from hd),cond_true,he];rw[xk])]
      have he:(!inB (ndR n) 0 ((i:Int) - 1))=false:=he;rw[xj,zaL]at he;obtain⟨p0,p1⟩:=he;have hbj:∀ k:Nat,0≤(zcG u n 1).getD k 0∧(zcG u n 1).getD k 0≤200:=fun k=>by
       have:=znD (n:=n) hbd k;omega
      have hlj:(zcG u n 1).length=r.length:=by rw[<-hul];exact zmJ u n
      have hb3:=hbj (ndR n).toNat;have p2:ndR n < (((zcG u n 1).length:Nat):Int):=by rw[hlj];omega
      have p4:(ndR n).toNat < (zcG u n 1).length:=by rw[hlj];omega
      have p3:inR .i64 ((zcG u n 1).getD (ndR n).toNat 0+1):=zam (by omega) (by omega);apply zab;refine za (za ?_);refine zaa hX zaK rfl ?_ ?_
      ·repeat'(first|exact trivial|exact p0|exact p2|exact p3|exact p4|(refine⟨?_,?_⟩))
      refine za (za ?_);refine zaa hX zaK rfl ?_ ?_
      ·exact za0 (by omega)
      refine⟨2,⟨by omega,?_⟩,by decide,⟨rfl,rfl,rfl,rfl,rfl,rfl,rfl,rfl,rfl,rfl,rfl,rfl,trivial⟩,⟨rfl,bufI ?_,rfl,rfl,trivial⟩,rfl,rfl⟩
      ·show (_&&(bif decide (1 < opsN n) then inB (ndR n) 0 ((i:Int) - 1) else _))=true;rw[decide_eq_true (show 1 < opsN n from hd),cond_true,zaL.2 ⟨p0,p1⟩,Bool.and_true];exact hjo
      ·show bump (zcG u n 1) (ndR n)=zcG u n 2;rw[<-zlF hops,if_pos (show 1 < opsN n from hd)]
     ·have hd:decide (((1:Nat):Int) < opsN n)=false:=hd;have hd:=of_decide_eq_false hd;refine za (za ?_);refine zaa hX zaK rfl ?_ ?_
      ·repeat'(first|exact trivial|assumption|(refine⟨?_,?_⟩)|(intro _)|exact zb rfl|exact zi _|(simp_all [allP];done))
      refine zaf rfl (fun he=>?_) (fun he=>?_)
      ·have he:(bif (ndR n != 0) then !(bif (((1:Nat):Int)==0) then (ndK n==7) else false) else false)=true:=he;(repeat(first|apply zae|apply zab|apply zal|apply zad|apply zac|refine zaa hX zaK rfl trivial ?_|refine zaa hX zaK rfl id ?_|refine zaa hX zaK rfl ⟨id,id⟩ ?_));refine zr ⟨.inr rfl,zaw rfl trivial rfl rfl ?_⟩;show false=wfS r;refine (hfo ?_).symm;unfold zeN;rw[decide_eq_false (show ¬ 1 < opsN n from hd),cond_false];revert he;unfold bne;cases (ndR n==0)<;>intro he<;>first|(rw[xk])|cases he
      have he:(bif (ndR n != 0) then !(bif (((1:Nat):Int)==0) then (ndK n==7) else false) else false)=false:=he;apply zab;refine za (za ?_);refine zaa hX zaK rfl ?_ ?_
      ·exact za0 (by omega)
      refine⟨2,⟨by omega,?_⟩,by decide,⟨rfl,rfl,rfl,rfl,rfl,rfl,rfl,rfl,rfl,rfl,rfl,rfl,trivial⟩,⟨rfl,bufI ?_,rfl,rfl,trivial⟩,rfl,rfl⟩
      ·show (_&&(bif decide (1 < opsN n) then _ else ndR n==0))=true;rw[decide_eq_false (show ¬ 1 < opsN n from hd),cond_false];have h2:(ndR n==0)=true:=by revert he;unfold bne;cases (ndR n==0)<;>intro he<;>first|rfl|cases he
       rw[h2,Bool.and_true];exact hjo
      ·show zcG u n 1=zcG u n 2;rw[<-zlF hops,if_neg (show ¬ 1 < opsN n from hd)]
   ·have hb:decide ((j:Int) < 2)=false:=hb;have hb:=of_decide_eq_false hb;obtain rfl:j=2:=by omega
    have hopd:zeN n (i:Int)=true:=hjo;apply zad;refine zap (σ':=⟨[(0,⟨.slice nd,r⟩),(3,⟨.optr (.arr 19 shp),⟨0,.arr 19 shp,.here⟩⟩),(4,⟨.obuf i64,(1:Nat)⟩),(24,⟨.slice nd,r⟩),(25,⟨i64,((r.length:Nat):Int)⟩),(26,⟨i64,(i:Int)⟩),(5,⟨i64,(i:Int)⟩),(6,⟨.optr nd,⟨2,nd,.here⟩⟩),(7,⟨.optr shp,⟨3,shp,.here⟩⟩)],[(0,some (.box (.arr 19 shp) zce)),(1,some (.buf 3 i64 (zbE u n))),(2,some (.box nd n)),(3,some (.box shp (zdC (ndK n))))],4⟩) ⟨⟨rfl,rfl,rfl,rfl,rfl,rfl,rfl,rfl,rfl,trivial⟩,⟨rfl,rfl,rfl,rfl,trivial⟩,rfl,rfl⟩ ?_;clear hbd hul;have hub:u.length=u.length:=rfl;generalize zbE u n=u' at hus;(repeat(first|apply zae|apply zab|apply zac|apply zad));refine AWP.ordF (σ':=⟨[(0,⟨.slice nd,r⟩),(3,⟨.optr (.arr 19 shp),⟨0,.arr 19 shp,.here⟩⟩),(4,⟨.obuf i64,(1:Nat)⟩),(24,⟨.slice nd,r⟩),(25,⟨i64,((r.length:Nat):Int)⟩),(26,⟨i64,(i:Int)⟩),(5,⟨i64,(i:Int)⟩),(6,⟨.optr nd,⟨2,nd,.here⟩⟩),(7,⟨.optr shp,⟨3,shp,.here⟩⟩),(10,⟨.bool,ndC n==0⟩),(11,⟨.bool,decide (ndS n=[])⟩)],[(0,some (.box (.arr 19 shp) zce)),(1,some (.buf 3 i64 (u'))),(2,some (.box nd n)),(3,some (.box shp (zdC (ndK n))))],4⟩) dM 8 rfl (by kernel_rfl) ?_ ?_
    ·repeat'(first|exact AllN.nil|refine AllN.cons ⟨_,rfl,?_⟩ ?_|refine xg hX zaK rfl trivial ?_|(refine OrdA.last ?_;exact⟨rfl,⟨rfl,rfl,rfl,rfl,rfl,rfl,rfl,rfl,rfl,rfl,zbo zcy,trivial⟩,⟨rfl,rfl,rfl,rfl,trivial⟩,rfl,rfl⟩))
    refine za (za ?_);refine zaa hX zaK rfl ?_ ?_
    ·trivial
    refine qY (σ':=⟨[(0,⟨.slice nd,r⟩),(3,⟨.optr (.arr 19 shp),⟨0,.arr 19 shp,.here⟩⟩),(4,⟨.obuf i64,(1:Nat)⟩),(24,⟨.slice nd,r⟩),(25,⟨i64,((r.length:Nat):Int)⟩),(26,⟨i64,(i:Int)⟩),(5,⟨i64,(i:Int)⟩),(6,⟨.optr nd,⟨2,nd,.here⟩⟩),(7,⟨.optr shp,⟨3,shp,.here⟩⟩),(10,⟨.bool,zeU n⟩),(11,⟨.bool,decide (ndS n=[])⟩)],[(0,some (.box (.arr 19 shp) zce)),(1,some (.buf 3 i64 (u'))),(2,some (.box nd n)),(3,some (.box shp (zdC (ndK n))))],4⟩) ?_ ?_
    ·refine zaf rfl (fun hd=>?_) (fun hd=>?_)
     ·have hd:(zdC (ndK n)).2.1=true:=hd;refine za (za ?_);refine zaa hX zaK rfl ?_ ?_
      ·trivial
      refine⟨⟨rfl,rfl,rfl,rfl,rfl,rfl,rfl,rfl,rfl,zbo ?_,rfl,trivial⟩,⟨rfl,rfl,rfl,rfl,trivial⟩,rfl,rfl⟩;unfold zeU;rw[hd];rfl
     ·have hd:(zdC (ndK n)).2.1=false:=hd;apply zab;refine⟨⟨rfl,rfl,rfl,rfl,rfl,rfl,rfl,rfl,rfl,zbo ?_,rfl,trivial⟩,⟨rfl,rfl,rfl,rfl,trivial⟩,rfl,rfl⟩;unfold zeU;rw[hd];rfl
    refine za (za ?_);refine zaa hX zaK rfl ?_ ?_
    ·trivial
    refine qY (σ':=⟨[(0,⟨.slice nd,r⟩),(3,⟨.optr (.arr 19 shp),⟨0,.arr 19 shp,.here⟩⟩),(4,⟨.obuf i64,(1:Nat)⟩),(24,⟨.slice nd,r⟩),(25,⟨i64,((r.length:Nat):Int)⟩),(26,⟨i64,(i:Int)⟩),(5,⟨i64,(i:Int)⟩),(6,⟨.optr nd,⟨2,nd,.here⟩⟩),(7,⟨.optr shp,⟨3,shp,.here⟩⟩),(10,⟨.bool,zeU n⟩),(11,⟨.bool,zh2 n⟩)],[(0,some (.box (.arr 19 shp) zce)),(1,some (.buf 3 i64 (u'))),(2,some (.box nd n)),(3,some (.box shp (zdC (ndK n))))],4⟩) ?_ ?_
    ·refine zaf rfl (fun hd=>?_) (fun hd=>?_)
     ·have hd:(ndK n==18)=true:=hd;refine za (za ?_);refine zaa hX zaK rfl ?_ ?_
      ·trivial
      refine⟨⟨rfl,rfl,rfl,rfl,rfl,rfl,rfl,rfl,rfl,rfl,zbo ?_,trivial⟩,⟨rfl,rfl,rfl,rfl,trivial⟩,rfl,rfl⟩;unfold zh2;rw[hd];rfl
     ·have hd:(ndK n==18)=false:=hd;apply zab;refine⟨⟨rfl,rfl,rfl,rfl,rfl,rfl,rfl,rfl,rfl,rfl,zbo ?_,trivial⟩,⟨rfl,rfl,rfl,rfl,trivial⟩,rfl,rfl⟩;unfold zh2;rw[hd];rfl
    have hfd:zbc n=(zeU n&&(zh2 n&&(zaS (ndI n) (zdC (ndK n)).2.2.1&&zcY n))):=by
     unfold zbc;rw[zaL.2 ⟨k1,k2⟩,decide_eq_true hl64];rfl
    refine za (za ?_);refine zaa hX zaK rfl ?_ ?_
    ·repeat'(first|exact trivial|assumption|(refine⟨?_,?_⟩)|(intro _)|exact zb rfl|exact zi _|(simp_all [allP];done))
    have ht:(bif (bif (bif !zeU n then true else !zh2 n) then true else !zaS (ndI n) (zdC (ndK n)).2.2.1) then true else !zcY n)= !zbc n:=by
     rw[hfd];cases zeU n<;>cases zh2 n<;>cases zaS (ndI n) (zdC (ndK n)).2.2.1<;>cases zcY n<;>rfl
    refine zaf rfl (fun hd=>?_) (fun hd=>?_)
    ·have hd:=ht.symm.trans hd;rw[zB]at hd;(repeat(first|apply zae|apply zab|apply zal|apply zad|apply zac|refine zaa hX zaK rfl trivial ?_|refine zaa hX zaK rfl id ?_|refine zaa hX zaK rfl ⟨id,id⟩ ?_));refine zr ⟨.inr rfl,zaw rfl trivial rfl rfl ?_⟩;show false=wfS r;rw[hff hd]
    ·have hd:=ht.symm.trans hd;rw[xj]at hd;apply zab;refine za (za ?_);refine zaa hX zaK rfl ?_ ?_
     ·exact za0 (by omega)
     refine⟨i+1,⟨hlt,?_⟩,by omega,⟨rfl,rfl,rfl,rfl,rfl,zdT _,trivial⟩,⟨rfl,bufI hus.symm,trivial⟩,rfl,rfl⟩;rw[hno];unfold zcE;rw[hd,hopd];rfl
 ·have hb:decide ((i:Int) < (r.length:Nat))=false:=hb;have hb:=of_decide_eq_false hb;obtain rfl:i=r.length:=by omega
  have hul:=zcU r r.length;apply zad;refine qZ hX 4 ?_;have i1:inR .i64 (((r.length:Nat):Int) - 1):=zam (by omega) (by omega);have i2:(0:Int)≤((r.length:Nat):Int) - 1:=by omega
  have i3:((r.length:Nat):Int) - 1≤(((zca r r.length).length:Nat):Int):=by omega
  refine za (za ?_);refine zaa hX zaK rfl ?_ ?_
  ·first|exact⟨i1,i2,i3,rfl⟩|(repeat'(first|exact trivial|exact i1|exact i2|exact i3|rfl|(refine⟨?_,?_⟩)))
  refine zr ⟨.inr rfl,zaw rfl trivial rfl rfl ?_⟩;show (!((zca r r.length).take (((r.length:Nat):Int) - 1).toNat).any not1)=wfS r;unfold wfS;rw[decide_eq_true (by omega),decide_eq_true (by omega),hn,show (((r.length:Nat):Int) - 1).toNat=r.length - 1 by omega];rfl
theorem TCtrOk.lift {f:zP} {c:TCtr} (h:TCtrOk Tryz.prog gmG f c):TCtrOk Tryz.prog gmH f c:=⟨h.1,fun w O b u xs ys ps vs h1 h2 h3 h4 h5 h6 _=>h.2 w O b u xs ys ps vs h1 h2 h3 h4 h5 h6 trivial⟩
theorem zrS {n:Nd} (h:1≤ndK n∧ndK n≤18):opsK (ndK n)=opsN n:=by
 have h1:=znY h.1 h.2;have hlt:(ndK n).toNat < zce.length:=by show (ndK n).toNat < 19;omega
 rw[<-h1];unfold opsN zdC;rw[zy,zy,zU hlt];rfl
def zcC (p:List Nd×List Int) (m:Nd):List Nd×List Int:=(p.1++ [putN m p.2],p.2++ [((p.1.length:Nat):Int)])
def zb6 (name:List UInt8) (by':List Nd) (p:List Nd×List Int) (n:Nd):List Nd×List Int:=
 let o:=if ndK n=18∧ndS n=name then (by'.foldl zcC (p.1,[])).1 else p.1++ [putN n p.2]
 (o,p.2++ [((o.length:Nat):Int) - 1])
def putF (r:List Nd) (name:List UInt8) (by':List Nd):List Nd×List Int:=r.foldl (zb6 name by') ([],[])
def zfW (r:List Nd) (name:List UInt8) (by':List Nd):List Nd×Int:=
 if wfS r=true∧wfS by'=true then (if 64 < (putF r name by').1.length then ([],2) else ((putF r name by').1,0)) else ([],1)
theorem zkv {α β:Type} (f:β->α->β) (z:β) {r:List α} {i:Nat} (h:i < r.length):(r.take (i+1)).foldl f z=f ((r.take i).foldl f z) r[i]:=by
 rw[zO h,xG];rfl
theorem zi5:∀ (l:List Nd) (p:List Nd×List Int),(l.foldl zcC p).1.length=p.1.length+l.length∧(l.foldl zcC p).2.length=p.2.length+l.length
 | [],p=>⟨rfl,rfl⟩
 |m::l,p=>by
  have h:=zi5 l (zcC p m);rw[vr,h.1,h.2,zt];unfold zcC;simp only[zd,zF];omega
theorem zow {name:List UInt8} {by':List Nd} (hb:by'.length≤64) (h1:1≤by'.length):∀ (l:List Nd) (p:List Nd×List Int),(l.foldl (zb6 name by') p).1.length≤p.1.length+64 * l.length∧(l.foldl (zb6 name by') p).2.length=p.2.length+l.length
 | [],p=>⟨by simp,rfl⟩
 |n::l,p=>by
  have h:=zow (name:=name) hb h1 l (zb6 name by' p n);have hs:(zb6 name by' p n).1.length≤p.1.length+64∧(zb6 name by' p n).2.length=p.2.length+1:=by
   unfold zb6;simp only[zd,zF,and_true];split
   ·rw[(zi5 by' (p.1,[])).1];show p.1.length+by'.length≤_;omega
   ·rw[zd,zF];omega
  rw[vr,zt];omega
theorem znB {r:List Nd} (h:wfS r=true):1≤r.length∧r.length≤64∧∀ i (hi:i < r.length),(ndI r[i]).length≤1000∧1≤ndK r[i]∧ndK r[i]≤18∧(1≤opsK (ndK r[i])->0≤ndL r[i]∧ndL r[i] < (i:Int))∧(opsK (ndK r[i])=2->0≤ndR r[i]∧ndR r[i] < (i:Int)):=by
 unfold wfS at h;rw[zf,zf,zf,decide_eq_true_iff,decide_eq_true_iff]at h;obtain⟨⟨⟨h1,h2⟩,h3⟩,_⟩:=h;refine⟨h1,h2,fun i hi=>?_⟩;have hn:=zdj.1 h3 i hi;rw[zy,zU hi]at hn;have hn:zcE r[i] (i:Int)=true:=hn;unfold zcE at hn;rw[zf]at hn;obtain⟨hf,ho⟩:=hn;obtain⟨hk,hl,_⟩:=zaE hf;unfold zeN at ho;rw[zf]at ho;obtain⟨o1,o2⟩:=ho;refine⟨by omega,hk.1,hk.2,fun hq=>?_,fun hq=>?_⟩
 ·rw[zrS hk]at hq;rw[show decide (0 < opsN r[i])=true from decide_eq_true (by omega)]at o1;have o1:inB (ndL r[i]) 0 ((i:Int) - 1)=true:=o1;have:=zaL.1 o1;omega
 ·rw[zrS hk]at hq;rw[show decide (1 < opsN r[i])=true from decide_eq_true (by omega)]at o2;have o2:inB (ndR r[i]) 0 ((i:Int) - 1)=true:=o2;have:=zaL.1 o2;omega
def cRPut:Ctr:={ args:=[.slice nd,.str,.slice nd],pre:=fun _=>[],res:=.tup (.slice nd) (.tup i64 .unit),own:=none,out:=fun x=>((zfW x.1 x.2.1 x.2.2.1).1,(zfW x.1 x.2.1 x.2.2.1).2,()) }
def kPut:Kn:={ gmK with C:=[(72,cWf)] }
theorem zbb:KnOk Tryz.prog gmH kPut:=zaj.with (.cons wf_ok .nil)
set_option maxHeartbeats 1000000 in
theorem zsO:yK Tryz.prog gmH 37 cRPut:=by
 refine zaq (K:=kPut) zbb Tryz.func37 rfl rfl Tryz.call37 rfl (by decide) (by intro h;cases h) ?_;rintro w0 X hX ⟨(r:List Nd),(nm:List UInt8),(by':List Nd),⟨⟩⟩ hp;change AWP _ _ _ _ _ ⟨[(0,⟨.slice nd,r⟩),(1,⟨.str,nm⟩),(2,⟨.slice nd,by'⟩)],[],0⟩ _;refine za (za ?_);refine zaa hX zbb rfl ?_ ?_
 ·trivial
 refine za (za ?_);refine zaa hX zbb rfl ?_ ?_
 ·repeat'(first|exact trivial|assumption|(refine⟨?_,?_⟩)|(intro _)|exact zb rfl|exact zi _|(simp_all [allP];done))
 refine zaf rfl (fun hb=>?_) (fun hb=>?_)
 ·have hb:(bif !wfS r then true else !wfS by')=true:=hb;have hP:zfW r nm by'=([],1):=if_neg (fun h=>by rw[h.1,h.2]at hb;cases hb);refine za (za ?_);refine zaa hX zbb rfl ?_ ?_
  ·trivial
  refine zr ⟨.inr rfl,zbd (by decide) rfl rfl trivial ?_⟩;show _=((zfW r nm by').1,(zfW r nm by').2,());rw[hP]
 have hb:(bif !wfS r then true else !wfS by')=false:=hb;have hw:wfS r=true∧wfS by'=true:=by
  cases h1:wfS r with
  |false=>rw[h1]at hb;cases hb
  |true=>
   cases h2:wfS by' with
   |false=>rw[h1,h2]at hb;cases hb
   |true=>exact⟨rfl,rfl⟩
 have hP:zfW r nm by'=if 64 < (putF r nm by').1.length then ([],2) else ((putF r nm by').1,0):=if_pos hw
 obtain⟨r1,r2,r3⟩:=znB hw.1;obtain⟨b1,b2,b3⟩:=znB hw.2;apply zab;refine za (za ?_);refine zaa hX zbb rfl ?_ ?_
 ·trivial
 refine ky hX 8 73 nd rfl rfl rfl ?_;refine za (za ?_);refine zaa hX zbb rfl ?_ ?_
 ·trivial
 refine ky hX 9 3 i64 rfl rfl rfl ?_;refine za (za ?_);refine zaa hX zbb rfl ?_ ?_
 ·trivial
 obtain⟨P,hPd⟩:∃ P:Nat->List Nd×List Int,∀ i,P i=(r.take i).foldl (zb6 nm by') ([],[]):=⟨_,fun _=>rfl⟩;have hPl:∀ i,i≤r.length->(P i).1.length≤64 * i∧(P i).2.length=i:=fun i hi=>by
  have:=zow (name:=nm) b2 b1 (r.take i) ([],[]);rw[<-hPd,yB,yz hi]at this;exact⟨by have:=this.1;simp at this;exact this,by have:=this.2;simp at this;exact this⟩
 (repeat(first|apply zae|apply zab|apply zac|apply zad));refine yR (ι:=Nat) (fun i=>⟨[(0,⟨.slice nd,r⟩),(1,⟨.str,nm⟩),(2,⟨.slice nd,by'⟩),(8,⟨.obuf nd,(0:Nat)⟩),(9,⟨.obuf i64,(1:Nat)⟩),(23,⟨.slice nd,r⟩),(24,⟨i64,((r.length:Nat):Int)⟩),(25,⟨i64,(i:Int)⟩)],[(0,some (.buf 73 nd (P i).1)),(1,some (.buf 3 i64 (P i).2))],2⟩) (fun i=>i≤r.length) (fun i=>r.length - i) 0 (zk _) ⟨⟨rfl,rfl,rfl,rfl,rfl,rfl,rfl,rfl,trivial⟩,⟨by rw[hPd];rfl,by rw[hPd];rfl,trivial⟩,rfl,rfl⟩ ?_;intro i hi;have hi:i≤r.length:=hi;obtain⟨p1,p2⟩:=hPl i hi;show AWP _ _ _ _ _ ⟨[(0,⟨.slice nd,r⟩),(1,⟨.str,nm⟩),(2,⟨.slice nd,by'⟩),(8,⟨.obuf nd,(0:Nat)⟩),(9,⟨.obuf i64,(1:Nat)⟩),(23,⟨.slice nd,r⟩),(24,⟨i64,((r.length:Nat):Int)⟩),(25,⟨i64,(i:Int)⟩)],[(0,some (.buf 73 nd (P i).1)),(1,some (.buf 3 i64 (P i).2))],2⟩ _;refine za (za ?_);refine zaa hX zbb rfl ?_ ?_
 ·trivial
 apply zae;refine zaf rfl (fun hb=>?_) (fun hb=>?_)
 rotate_left
 ·have hb:decide ((i:Int) < ((r.length:Nat):Int))=false:=hb;have hb:=of_decide_eq_false hb;obtain rfl:i=r.length:=by omega
  have hfin:P r.length=putF r nm by':=by rw[hPd,xd];rfl
  rw[hfin];apply zad;refine za (za ?_);refine zaa hX zbb rfl ?_ ?_
  ·trivial
  refine zaf rfl (fun hc=>?_) (fun hc=>?_)
  ·have hc:decide ((((putF r nm by').1.length:Nat):Int) > 64)=true:=hc;have hc:=of_decide_eq_true hc;rw[if_pos (by omega)]at hP;refine za (za ?_);refine zaa hX zbb rfl ?_ ?_
   ·trivial
   refine zr ⟨.inr rfl,zbd (by decide) rfl rfl trivial ?_⟩;show _=((zfW r nm by').1,(zfW r nm by').2,());rw[hP]
  ·have hc:decide ((((putF r nm by').1.length:Nat):Int) > 64)=false:=hc;have hc:=of_decide_eq_false hc;rw[if_neg (by omega)]at hP;apply zab;refine qZ hX 8 ?_;refine za (za ?_);refine zaa hX zbb rfl ?_ ?_
   ·trivial
   refine zr ⟨.inr rfl,zbd (by decide) rfl rfl trivial ?_⟩;show _=((zfW r nm by').1,(zfW r nm by').2,());rw[hP]
 have hb:decide ((i:Int) < ((r.length:Nat):Int))=true:=hb;have hb:=of_decide_eq_true hb;have hlt:i < r.length:=by omega
 have hnx:P (i+1)=zb6 nm by' (P i) r[i]:=by rw[hPd,hPd];exact zkv _ _ hlt
 obtain⟨n1,n2,n3,n4,n5⟩:=r3 i hlt;have hget:r.getD ((i:Int)).toNat zNd=r[i]:=by rw[zD,zy,zU hlt];rfl
 have y0:(0:Int)≤(i:Int):=by omega
 have y2:((i:Int)).toNat < r.length:=by omega
 apply zab;refine za (za ?_);refine zaa hX zbb rfl ?_ ?_
 ·repeat'(first|exact trivial|assumption|exact y0|exact hb|exact y2|(refine⟨?_,?_⟩)|(intro _)|exact zb rfl|exact zi _|(simp_all [allP];done))
 refine zap (σ':=⟨[(0,⟨.slice nd,r⟩),(1,⟨.str,nm⟩),(2,⟨.slice nd,by'⟩),(8,⟨.obuf nd,(0:Nat)⟩),(9,⟨.obuf i64,(1:Nat)⟩),(11,⟨.optr nd,⟨2,nd,.here⟩⟩),(23,⟨.slice nd,r⟩),(24,⟨i64,((r.length:Nat):Int)⟩),(25,⟨i64,(i:Int)⟩)],[(0,some (.buf 73 nd (P i).1)),(1,some (.buf 3 i64 (P i).2)),(2,some (.box nd r[i]))],3⟩) ⟨⟨rfl,rfl,rfl,rfl,rfl,rfl,rfl,rfl,rfl,trivial⟩,⟨rfl,rfl,by show some (OObj.box nd (r.getD ((i:Int)).toNat zNd))=_;rw[hget],trivial⟩,rfl,rfl⟩ ?_;generalize r[i]=m at *;generalize hQ:P i=Q at *;obtain⟨out,pl⟩:=Q;have p1:out.length≤64 * i:=p1;have p2:pl.length=i:=p2;refine za (za ?_);refine zaa hX zbb rfl ?_ ?_
 ·repeat'(first|exact trivial|assumption|(refine⟨?_,?_⟩)|(intro _)|exact zb rfl|exact zi _|(simp_all [allP];done))
 have hq:(bif (ndK m==18) then eqb .str (ndS m) nm else false)=decide (ndK m=18∧ndS m=nm):=by
  rw[zc6,zcy,Bool.eq_iff_iff,zf,beq_iff_eq,decide_eq_true_iff,decide_eq_true_iff]
 obtain⟨o,ho⟩:∃ o,o=(if ndK m=18∧ndS m=nm then (by'.foldl zcC (out,[])).1 else out++ [putN m pl]):=⟨_,rfl⟩;have hS:zb6 nm by' (out,pl) m=(o,pl++ [((o.length:Nat):Int) - 1]):=by rw[ho];rfl
 have hol:1≤o.length∧o.length≤64 * i+64:=by
  rw[ho];split
  ·rw[(zi5 by' (out,[])).1];show 1≤out.length+by'.length∧out.length+by'.length≤_;omega
  ·rw[zd,zF];omega
 refine qY (σ':=⟨[(0,⟨.slice nd,r⟩),(1,⟨.str,nm⟩),(2,⟨.slice nd,by'⟩),(8,⟨.obuf nd,(0:Nat)⟩),(9,⟨.obuf i64,(1:Nat)⟩),(23,⟨.slice nd,r⟩),(24,⟨i64,((r.length:Nat):Int)⟩),(25,⟨i64,(i:Int)⟩)],[(0,some (.buf 73 nd o)),(1,some (.buf 3 i64 pl))],2⟩) ?_ ?_
 rotate_left
 ·have c1:pl.length+1≤1000000000:=by omega
  have c2:inR .i64 (((o.length:Nat):Int) - 1):=zam (by omega) (by omega);have c3:inR .i64 ((i:Int)+1):=zam (by omega) (by omega);refine za (za ?_);refine zaa hX zbb rfl ?_ ?_
  ·repeat'(first|exact trivial|assumption|exact c1|exact c2|(refine⟨?_,?_⟩)|(intro _)|exact zb rfl|exact zi _|(simp_all [allP];done))
  refine za (za ?_);refine zaa hX zbb rfl ?_ ?_
  ·exact c3
  exact⟨i+1,hlt,by omega,⟨rfl,rfl,rfl,rfl,rfl,rfl,rfl,vI64 (by omega),trivial⟩,⟨by rw[hnx,hS];rfl,by rw[hnx,hS];rfl,trivial⟩,rfl,rfl⟩
 refine zaf rfl (fun hc=>?_) (fun hc=>?_)
 rotate_left
 ·have hc:=of_decide_eq_false (hq.symm.trans hc);rw[if_neg hc]at ho;rw[<-p2]at n4 n5;have hcap:out.length≤100000:=by omega
  (repeat(first|apply zae|apply zab|apply zac|apply zad));refine zai ?_;refine zN 3 hX zbb rfl trivial ?_;refine AL.turn hX zpZ.lift (a0:=.tmp 55) («zas» :=[.tmp 56]) (az:=.tmp 57) rfl rfl rfl rfl rfl rfl rfl rfl (by decide) rfl rfl trivial ⟨hcap,n1,n2,n3,n4,n5⟩ rfl rfl ?_;refine zT hX zbb rfl trivial ?_;exact⟨⟨rfl,rfl,rfl,rfl,rfl,rfl,rfl,rfl,trivial⟩,⟨by rw[ho];rfl,rfl,trivial⟩,rfl,rfl⟩
 have hc:=of_decide_eq_true (hq.symm.trans hc);rw[if_pos hc]at ho;refine za (za ?_);refine zaa hX zbb rfl ?_ ?_
 ·trivial
 refine ky hX 12 3 i64 rfl rfl rfl ?_;refine za (za ?_);refine zaa hX zbb rfl ?_ ?_
 ·trivial
 obtain⟨W,hW⟩:∃ W:Nat->List Nd×List Int,∀ j,W j=(by'.take j).foldl zcC (out,[]):=⟨_,fun _=>rfl⟩;have hWl:∀ j,j≤by'.length->(W j).1.length=out.length+j∧(W j).2.length=j:=fun j hj=>by
  have:=zi5 (by'.take j) (out,[]);rw[<-hW,yB,yz hj]at this;exact⟨this.1,by have:=this.2;simpa using this⟩
 (repeat(first|apply zae|apply zab|apply zac|apply zad));refine yR (ι:=Nat) (fun j=>⟨[(0,⟨.slice nd,r⟩),(1,⟨.str,nm⟩),(2,⟨.slice nd,by'⟩),(8,⟨.obuf nd,(0:Nat)⟩),(9,⟨.obuf i64,(1:Nat)⟩),(12,⟨.obuf i64,(3:Nat)⟩),(23,⟨.slice nd,r⟩),(24,⟨i64,((r.length:Nat):Int)⟩),(25,⟨i64,(i:Int)⟩),(38,⟨.slice nd,by'⟩),(39,⟨i64,((by'.length:Nat):Int)⟩),(40,⟨i64,(j:Int)⟩)],[(0,some (.buf 73 nd (W j).1)),(1,some (.buf 3 i64 pl)),(3,some (.buf 3 i64 (W j).2))],4⟩) (fun j=>j≤by'.length) (fun j=>by'.length - j) 0 (zk _) ⟨⟨rfl,rfl,rfl,rfl,rfl,rfl,rfl,rfl,rfl,rfl,rfl,rfl,trivial⟩,⟨by rw[hW];rfl,rfl,by rw[hW];rfl,trivial⟩,rfl,rfl⟩ ?_;intro j hj;have hj:j≤by'.length:=hj;obtain⟨w1,w2⟩:=hWl j hj;show AWP _ _ _ _ _ ⟨[(0,⟨.slice nd,r⟩),(1,⟨.str,nm⟩),(2,⟨.slice nd,by'⟩),(8,⟨.obuf nd,(0:Nat)⟩),(9,⟨.obuf i64,(1:Nat)⟩),(12,⟨.obuf i64,(3:Nat)⟩),(23,⟨.slice nd,r⟩),(24,⟨i64,((r.length:Nat):Int)⟩),(25,⟨i64,(i:Int)⟩),(38,⟨.slice nd,by'⟩),(39,⟨i64,((by'.length:Nat):Int)⟩),(40,⟨i64,(j:Int)⟩)],[(0,some (.buf 73 nd (W j).1)),(1,some (.buf 3 i64 pl)),(3,some (.buf 3 i64 (W j).2))],4⟩ _;refine za (za ?_);refine zaa hX zbb rfl ?_ ?_
 ·trivial
 apply zae;refine zaf rfl (fun hb=>?_) (fun hb=>?_)
 rotate_left
 ·have hb:decide ((j:Int) < ((by'.length:Nat):Int))=false:=hb;have hb:=of_decide_eq_false hb;obtain rfl:j=by'.length:=by omega
  have hfin:(W by'.length).1=o:=by rw[hW,xd,ho]
  exact zad ⟨⟨rfl,rfl,rfl,rfl,rfl,rfl,rfl,rfl,trivial⟩,⟨by rw[<-hfin];rfl,rfl,trivial⟩,rfl,rfl⟩
 have hb:decide ((j:Int) < ((by'.length:Nat):Int))=true:=hb;have hb:=of_decide_eq_true hb;have hltj:j < by'.length:=by omega
 have hnj:W (j+1)=zcC (W j) by'[j]:=by rw[hW,hW];exact zkv _ _ hltj
 obtain⟨u1,u2,u3,u4,u5⟩:=b3 j hltj;have hgj:by'.getD ((j:Int)).toNat zNd=by'[j]:=by rw[zD,zy,zU hltj];rfl
 have x0:(0:Int)≤(j:Int):=by omega
 have x2:((j:Int)).toNat < by'.length:=by omega
 apply zab;refine za (za ?_);refine zaa hX zbb rfl ?_ ?_
 ·repeat'(first|exact trivial|assumption|exact x0|exact hb|exact x2|(refine⟨?_,?_⟩)|(intro _)|exact zb rfl|exact zi _|(simp_all [allP];done))
 refine zap (σ':=⟨[(0,⟨.slice nd,r⟩),(1,⟨.str,nm⟩),(2,⟨.slice nd,by'⟩),(8,⟨.obuf nd,(0:Nat)⟩),(9,⟨.obuf i64,(1:Nat)⟩),(12,⟨.obuf i64,(3:Nat)⟩),(14,⟨.optr nd,⟨4,nd,.here⟩⟩),(23,⟨.slice nd,r⟩),(24,⟨i64,((r.length:Nat):Int)⟩),(25,⟨i64,(i:Int)⟩),(38,⟨.slice nd,by'⟩),(39,⟨i64,((by'.length:Nat):Int)⟩),(40,⟨i64,(j:Int)⟩)],[(0,some (.buf 73 nd (W j).1)),(1,some (.buf 3 i64 pl)),(3,some (.buf 3 i64 (W j).2)),(4,some (.box nd by'[j]))],5⟩) ⟨⟨rfl,rfl,rfl,rfl,rfl,rfl,rfl,rfl,rfl,rfl,rfl,rfl,rfl,trivial⟩,⟨rfl,rfl,rfl,by show some (OObj.box nd (by'.getD ((j:Int)).toNat zNd))=_;rw[hgj],trivial⟩,rfl,rfl⟩ ?_;generalize by'[j]=m' at *;generalize hV:W j=V at *;obtain⟨ou,ow⟩:=V;have w1:ou.length=out.length+j:=w1;have w2:ow.length=j:=w2;rw[<-w2]at u4 u5;have hcap:ou.length≤100000:=by omega
 (repeat(first|apply zae|apply zab|apply zac|apply zad));refine zai ?_;refine zN 3 hX zbb rfl trivial ?_;refine AL.turn hX zpZ.lift (a0:=.tmp 44) («zas» :=[.tmp 45]) (az:=.tmp 46) rfl rfl rfl rfl rfl rfl rfl rfl (by decide) rfl rfl trivial ⟨hcap,u1,u2,u3,u4,u5⟩ rfl rfl ?_;refine zT hX zbb rfl trivial ?_;obtain⟨o2,ho2⟩:∃ o2,o2=ou++ [putN m' ow]:=⟨_,rfl⟩;have hol2:o2.length=ou.length+1:=by rw[ho2,zd,zF]
 refine zap (σ':=⟨[(0,⟨.slice nd,r⟩),(1,⟨.str,nm⟩),(2,⟨.slice nd,by'⟩),(8,⟨.obuf nd,(0:Nat)⟩),(9,⟨.obuf i64,(1:Nat)⟩),(12,⟨.obuf i64,(3:Nat)⟩),(23,⟨.slice nd,r⟩),(24,⟨i64,((r.length:Nat):Int)⟩),(25,⟨i64,(i:Int)⟩),(38,⟨.slice nd,by'⟩),(39,⟨i64,((by'.length:Nat):Int)⟩),(40,⟨i64,(j:Int)⟩)],[(0,some (.buf 73 nd o2)),(1,some (.buf 3 i64 pl)),(3,some (.buf 3 i64 ow))],4⟩) ⟨⟨rfl,rfl,rfl,rfl,rfl,rfl,rfl,rfl,rfl,rfl,rfl,rfl,trivial⟩,⟨by rw[ho2];rfl,rfl,rfl,trivial⟩,rfl,rfl⟩ ?_;have c1:ow.length+1≤1000000000:=by omega
 have c2:inR .i64 (((o2.length:Nat):Int) - 1):=zam (by omega) (by omega);have c3:inR .i64 ((j:Int)+1):=zam (by omega) (by omega);refine za (za ?_);refine zaa hX zbb rfl ?_ ?_
 ·repeat'(first|exact trivial|assumption|exact c1|exact c2|(refine⟨?_,?_⟩)|(intro _)|exact zb rfl|exact zi _|(simp_all [allP];done))
 refine za (za ?_);refine zaa hX zbb rfl ?_ ?_
 ·exact c3
 have hnj:W (j+1)=(o2,ow++ [((o2.length:Nat):Int) - 1]):=by
  rw[hnj,ho2];unfold zcC;rw[zd,zF];show (ou++ [putN m' ow],ow++ [((ou.length:Nat):Int)])=_;rw[show ((ou.length+1:Nat):Int) - 1=((ou.length:Nat):Int) by omega]
 exact⟨j+1,hltj,by omega,⟨rfl,rfl,rfl,rfl,rfl,rfl,rfl,rfl,rfl,rfl,rfl,vI64 (by omega),trivial⟩,⟨by rw[hnj];rfl,rfl,by rw[hnj];rfl,trivial⟩,rfl,rfl⟩
set_option maxRecDepth 10000
theorem zdg {α:Type} {l m:List α} {z:α} {j:Nat} (h:j < l.length):(l++m).getD j z=l.getD j z:=by
 rw[zy,zy,xX h]
theorem zcb {α:Type} {l m:List α} {z:α} {j:Nat}:(l++m).getD (l.length+j) z=m.getD j z:=by
 rw[zy,zy,xe (Nat.le_add_right ..),Nat.add_sub_cancel_left]
theorem zsG {n:Nd} (h:ndL n=0∧ndR n=0) (x:Int):zbs (setL n x) 0 0=n:=by
 show (ndK n,ndC n,(0:Int),(0:Int),ndN n,ndM n,ndI n,ndS n,())=n
 conv=>rhs;rw[zrU n,h.1,h.2]
theorem zqm {n:Nd} (h:ndL n=0∧ndR n=0) (x y:Int):zbs (zbs n x y) 0 0=n:=by
 show (ndK n,ndC n,(0:Int),(0:Int),ndN n,ndM n,ndI n,ndS n,())=n
 conv=>rhs;rw[zrU n,h.1,h.2]
theorem zgC:∀ (t:Tr) (b:Nat) (r:List Nd) (k:Nat),TrOk t->(∀ j,j < t.size->r.getD (b+j) zNd=(t.flat b).getD j zNd)->b+t.size≤k->trF k r ((b+t.size:Nat) - 1:Int)=t
 | .leaf n,b,r,k,h,hr,hk=>by
  obtain⟨h1,h2,hR,hL⟩:=h;have hn:zav r ((b+1:Nat) - 1:Int)=n:=by
   rw[show (((b+1:Nat):Int) - 1)=((b+0:Nat):Int) by omega];exact hr 0 (Nat.zero_lt_one)
  show trF k r ((b+1:Nat) - 1:Int)=_;cases k with
  |zero=>
   have hk:b+1≤0:=hk;omega
  |succ k=>
   unfold trF;rw[hn,if_neg (by omega),if_neg (by omega)]
 | .un n a,b,r,k,h,hr,hk=>by
  obtain⟨h1,h2,hLR,ha⟩:=h;have hp:=a.size_pos;have hfl:=yW a b;have hk:b+(a.size+1)≤k:=hk;have hr:∀ j,j < a.size+1->r.getD (b+j) zNd=(a.flat b++ [setL n ((b+a.size:Nat) - 1)]).getD j zNd:=hr;have hn:zav r ((b+(a.size+1):Nat) - 1:Int)=setL n ((b+a.size:Nat) - 1):=by
   rw[show (((b+(a.size+1):Nat):Int) - 1)=((b+a.size:Nat):Int) by omega];have e:=hr a.size (by omega);rw[show a.size=(a.flat b).length+0 by omega,zcb]at e;rw[hfl]at e;exact e
  show trF k r ((b+(a.size+1):Nat) - 1:Int)=_;cases k with
  |zero=>omega
  |succ k=>
   unfold trF;rw[hn];have hK:ndK (setL n ((b+a.size:Nat) - 1))=ndK n:=rfl;have hL:ndL (setL n ((b+a.size:Nat) - 1))=((b+a.size:Nat):Int) - 1:=rfl;rw[hK,hL,if_pos h2,zsG hLR,zgC a b r k ha (fun j hj=>by rw[hr j (by omega),zdg (by omega)]) (by omega)]
 | .bin n a c,b,r,k,h,hr,hk=>by
  obtain⟨h1,h2,hLR,ha,hc⟩:=h;have hp:=a.size_pos;have hpc:=c.size_pos;have hfl:=yW a b;have hfc:=yW c (b+a.size);have hk:b+(a.size+c.size+1)≤k:=hk;have hr:∀ j,j < a.size+c.size+1->r.getD (b+j) zNd=(a.flat b++c.flat (b+a.size)++ [zbs n ((b+a.size:Nat) - 1) ((b+a.size+c.size:Nat) - 1)]).getD j zNd:=hr;have hn:zav r ((b+(a.size+c.size+1):Nat) - 1:Int)=zbs n ((b+a.size:Nat) - 1) ((b+a.size+c.size:Nat) - 1):=by
   rw[show (((b+(a.size+c.size+1):Nat):Int) - 1)=((b+(a.size+c.size):Nat):Int) by omega];have e:=hr (a.size+c.size) (by omega);rw[show a.size+c.size=(a.flat b++c.flat (b+a.size)).length+0 by rw[zd];omega,zcb]at e;rw[zd,hfl,hfc]at e;exact e
  show trF k r ((b+(a.size+c.size+1):Nat) - 1:Int)=_;cases k with
  |zero=>omega
  |succ k=>
   unfold trF;rw[hn];have hK:ndK (zbs n ((b+a.size:Nat) - 1) ((b+a.size+c.size:Nat) - 1))=ndK n:=rfl;have hL:ndL (zbs n ((b+a.size:Nat) - 1) ((b+a.size+c.size:Nat) - 1))=((b+a.size:Nat):Int) - 1:=rfl;have hR:ndR (zbs n ((b+a.size:Nat) - 1) ((b+a.size+c.size:Nat) - 1))=((b+a.size+c.size:Nat):Int) - 1:=rfl;rw[hK,hL,hR,if_neg (by omega),if_pos h2,zqm hLR,zgC a b r k ha (fun j hj=>by rw[hr j (by omega),zp,zdg (by omega)]) (by omega),
    zgC c (b+a.size) r k hc (fun j hj=>by rw[Nat.add_assoc,hr (a.size+j) (by omega),zp, <-hfl,zcb,hfl,zdg (by omega)]) (by omega)]
theorem zry (x y:List Int):bump (x++(0::y)) ((x.length:Nat):Int)=x++(1::y):=by
 unfold bump;rw[zD];have:(x++(0::y)).getD x.length 0=0:=by
  have:=zcb (l:=x) (m:=0::y) (z:=(0:Int)) (j:=0);rw[Nat.add_zero]at this;rw[this];rfl
 rw[this,List.set_append_right _ _ (zl _),kz];rfl
theorem zhL {x y z w:List Int} {i:Int} (hz:z=x++(0::y)) (hi:i=((x.length:Nat):Int)) (hw:w=x++(1::y)):bump z i=w:=by rw[hz,hi,hw,zry]
theorem ziY (n:Nat) (x:Int) (q:List Int):zu n x++(x::q)=zu (n+1) x++q:=by
 rw[List.replicate_succ',zp];rfl
theorem ziZ {n:Nat} (h:1≤n) (q:List Int):zu (n - 1) (1:Int)++(1::q)=zu n 1++q:=by
 rw[ziY,show n - 1+1=n by omega]
theorem zfa:∀ (t:Tr) (b:Nat) (p q:List Int),TrOk t->p.length=b->(t.flat b).foldl zbE (p++(zu t.size 0++q))=p++(zu (t.size - 1) 1++(0::q))
 | .leaf n,b,p,q,h,hp=>by
  obtain⟨h1,h2,hR,hL⟩:=h;obtain⟨hk,_⟩:=zaE h1;show zbE _ n=_;unfold zbE;rw[zgL hk h2];rfl
 | .un n a,b,p,q,h,hp=>by
  obtain⟨h1,h2,hLR,ha⟩:=h;have hs:=a.size_pos;show (a.flat b++ [_]).foldl zbE (p++(zu (a.size+1) 0++q))=p++(zu (a.size+1 - 1) 1++(0::q));rw[xG, <-ziY,zfa a b p (0::q) ha hp];show zbE _ (setL n ((b+a.size:Nat) - 1))=_;unfold zbE;have ho:opsN (setL n ((b+a.size:Nat) - 1))=1:=zlT (n:=setL n ((b+a.size:Nat) - 1)) h2;rw[ho,decide_eq_false (by decide),decide_eq_true (by decide),cond_false,cond_true];refine zhL (x:=p++zu (a.size - 1) 1) (y:=0::q) (by rw[zp]) ?_ ?_
  ·rw[zd,xI,hp];show ((b+a.size:Nat):Int) - 1=_;omega
  ·rw[zp,ziZ hs,vN]
 | .bin n a c,b,p,q,h,hp=>by
  obtain⟨h1,h2,hLR,ha,hc⟩:=h;have hs:=a.size_pos;have hs2:=c.size_pos;show (a.flat b++c.flat (b+a.size)++ [_]).foldl zbE (p++(zu (a.size+c.size+1) 0++q))=p++(zu (a.size+c.size+1 - 1) 1++(0::q));have e1:p++(zu (a.size+c.size+1) (0:Int)++q)=p++(zu a.size 0++(zu c.size 0++(0::q))):=by
   rw[<-ziY, <-ja,zp]
  rw[xG,xG,e1,zfa a b p _ ha hp];have e2:p++(zu (a.size - 1) (1:Int)++(0::(zu c.size 0++(0::q))))=(p++(zu (a.size - 1) 1++ [0]))++(zu c.size 0++(0::q)):=by simp
  rw[e2,zfa c (b+a.size) _ _ hc (by rw[zd,zd,xI,hp,zF];omega)];show zbE _ (zbs n ((b+a.size:Nat) - 1) ((b+a.size+c.size:Nat) - 1))=_;unfold zbE;have ho:opsN (zbs n ((b+a.size:Nat) - 1) ((b+a.size+c.size:Nat) - 1))=2:=zi7 (n:=zbs n ((b+a.size:Nat) - 1) ((b+a.size+c.size:Nat) - 1)) h2;rw[ho,decide_eq_true (by decide),cond_true];have eL:bump ((p++(zu (a.size - 1) 1++ [0]))++(zu (c.size - 1) 1++(0::(0::q)))) (ndL (zbs n ((b+a.size:Nat) - 1) ((b+a.size+c.size:Nat) - 1)))=p++zu (a.size - 1) 1++(1::(zu (c.size - 1) 1++(0::0::q))):=by
   refine zhL (x:=p++zu (a.size - 1) 1) (y:=zu (c.size - 1) 1++(0::0::q)) (by simp) ?_ rfl;rw[zd,xI,hp];show ((b+a.size:Nat):Int) - 1=_;omega
  rw[eL];refine zhL (x:=p++zu (a.size - 1) 1++(1::zu (c.size - 1) 1)) (y:=0::q) (by simp) ?_ ?_
  ·rw[zd,zd,zt,xI,xI,hp];show ((b+a.size+c.size:Nat):Int) - 1=_;omega
  ·rw[vN,zp,zp,qb,ziZ hs,ziZ hs2, <-zp (zu a.size 1),ja]
theorem zeD:∀ (t:Tr) (b:Nat),TrOk t->∀ j,j < t.size->zcE ((t.flat b).getD j zNd) ((b+j:Nat):Int)=true
 | .leaf n,b,h,j,hj=>by
  obtain⟨h1,h2,hR,hL⟩:=h;have hj:j < 1:=hj;obtain rfl:j=0:=by omega
  obtain⟨hk,_⟩:=zaE h1;show zcE n _=true;unfold zcE;rw[h1,(zlU hk h2).2 ⟨by by_cases e:ndK n=7;exact .inr e;exact .inl (hL e),hR⟩];rfl
 | .un n a,b,h,j,hj=>by
  obtain⟨h1,h2,hLR,ha⟩:=h;have hs:=a.size_pos;have hfl:=yW a b;have hj:j < a.size+1:=hj;show zcE ((a.flat b++ [setL n ((b+a.size:Nat) - 1)]).getD j zNd) _=true;by_cases e:j < a.size
  ·rw[zdg (by omega)];exact zeD a b ha j e
  ·obtain rfl:j=(a.flat b).length+0:=by omega
   rw[zcb];show zcE (setL n ((b+a.size:Nat) - 1)) _=true;have e1:zbc (setL n ((b+a.size:Nat) - 1))=true:=by
    have:=zgP (n:=n) (by omega) ((b+a.size:Nat) - 1) (ndR n);rw[h1]at this;exact this
   unfold zcE;rw[e1,(zoD (n:=setL n ((b+a.size:Nat) - 1)) h2).2 ⟨⟨by show (0:Int)≤((b+a.size:Nat):Int) - 1;omega,by show ((b+a.size:Nat):Int) - 1≤_;omega⟩,hLR.2⟩];rfl
 | .bin n a c,b,h,j,hj=>by
  obtain⟨h1,h2,hLR,ha,hc⟩:=h;have hs:=a.size_pos;have hs2:=c.size_pos;have hfl:=yW a b;have hfc:=yW c (b+a.size);have hj:j < a.size+c.size+1:=hj;show zcE ((a.flat b++c.flat (b+a.size)++ [zbs n ((b+a.size:Nat) - 1) ((b+a.size+c.size:Nat) - 1)]).getD j zNd) _=true;by_cases e:j < a.size
  ·rw[zp,zdg (by omega)];exact zeD a b ha j e
  ·by_cases e2:j < a.size+c.size
   ·obtain⟨i,rfl⟩:∃ i,j=(a.flat b).length+i:=⟨j - a.size,by omega⟩;rw[zp,zcb,zdg (by omega)];have:=zeD c (b+a.size) hc i (by omega);rwa[show b+((a.flat b).length+i)=b+a.size+i by omega]
   ·obtain rfl:j=(a.flat b++c.flat (b+a.size)).length+0:=by rw[zd];omega
    rw[zcb];show zcE (zbs n ((b+a.size:Nat) - 1) ((b+a.size+c.size:Nat) - 1)) _=true;have hlen:(a.flat b++c.flat (b+a.size)).length=a.size+c.size:=by rw[zd];omega
    have e1:=zgP (n:=n) (by omega) ((b+a.size:Nat) - 1) ((b+a.size+c.size:Nat) - 1);rw[h1]at e1;unfold zcE;rw[e1,(zi8 (n:=zbs n ((b+a.size:Nat) - 1) ((b+a.size+c.size:Nat) - 1)) h2).2 ⟨⟨by show (0:Int)≤((b+a.size:Nat):Int) - 1;omega,by show ((b+a.size:Nat):Int) - 1≤_;omega⟩,⟨by show (0:Int)≤((b+a.size+c.size:Nat):Int) - 1;omega,by show ((b+a.size+c.size:Nat):Int) - 1≤_;omega⟩⟩];rfl
theorem zmn {n:Nd} (h:zbc n=true):(ndS n).length≤32:=by
 obtain⟨_,_,_,h,_⟩:=zaE h;unfold zh2 at h;cases hk:(ndK n==18) with
 |true=>
  rw[hk]at h;have h:zdY (ndS n)=true:=h;unfold zdY at h;simp only[zf,decide_eq_true_iff]at h;exact h.1.2
 |false=>
  rw[hk]at h;have h:=of_decide_eq_true h;rw[h];decide
theorem zkT {r:List Nd} (h:wfS r=true):zcT r=0:=by
 obtain⟨⟨h1,h2⟩,h3,_⟩:=zdw h;unfold zcT;rw[if_neg,if_pos h];rintro (h4|h4)
 ·omega
 ·obtain⟨x,hx,hb⟩:=List.any_eq_true.1 h4;obtain⟨j,hj,rfl⟩:=List.getElem_of_mem hx;have hf:=(zcx h3 hj).1;rw[ziu,zy,zU hj]at hf;have hf:zbc r[j]=true:=hf;have h5:=(zaE hf).2.1;have h6:=zmn hf;unfold bigN at hb;rw[yl,decide_eq_true_iff,decide_eq_true_iff]at hb;unfold ndI at h5;unfold ndS at h6;omega
theorem zkR {r:List Nd} (h:zcT r=0):wfS r=true:=by
 unfold zcT at h;split at h
 ·cases h
 ·split at h
  ·assumption
  ·cases h
theorem zkS {t:Tr} (h:TrOk t) (hs:t.size≤64):wfS (t.flat 0)=true:=by
 have hl:=yW t 0;have hp:=t.size_pos;unfold wfS;have hu:zca (t.flat 0) (t.flat 0).length=zu (t.size - 1) 1++ [0]:=by
  unfold zca;rw[xd,hl];have:=zfa t 0 [] [] h rfl;rw[yH,yH,zL]at this;exact this
 rw[hu,hl,decide_eq_true hp,decide_eq_true hs,zdj.2 (fun j hj=>by have:=zeD t 0 h j hj;rwa[yp]at this)];have:(zu (t.size - 1) (1:Int)++ [0]).take (t.size - 1)=zu (t.size - 1) 1:=by
  have:=xr (l₁:=zu (t.size - 1) (1:Int)) (l₂:=[0]);rwa[xI]at this
 rw[this];have:(zu (t.size - 1) (1:Int)).any not1=false:=by
  rw[uw];intro x hx;rw[List.eq_of_mem_replicate hx];decide
 rw[this];rfl
theorem znK {t:Tr} (h:TrOk t):zc8 (t.flat 0)=t:=by
 unfold zc8;have hl:=yW t 0;have:=zgC t 0 (t.flat 0) ((t.flat 0).length+1) h (fun j _=>by rw[yp]) (by omega);rw[yp]at this;rw[hl]at this ⊢;exact this
theorem zmm {t:Tr} (h:TrOk t) (hs:t.size≤64):fmtS (t.flat 0)=if 4000 < t.text.length then ([],2) else (t.text,0):=by
 unfold fmtS;rw[if_pos (zkT (zkS h hs)),znK h]
def Tr.sub (nm:List UInt8) (u:Tr):Tr->Tr
 | .leaf n=>if ndK n=18∧ndS n=nm then u else .leaf n
 | .un n a=>.un n (Tr.sub nm u a)
 | .bin n a b=>.bin n (Tr.sub nm u a) (Tr.sub nm u b)
theorem zoC {k:Int} (h:¬ (8≤k∧k≤17)):opsK k=0:=by
 unfold opsK;rw[if_neg (by omega),if_neg (by omega)]
theorem zsS {k:Int} (h:11≤k∧k≤16):opsK k=1:=by
 unfold opsK;rw[if_neg (by omega),if_pos h]
theorem zqL {k:Int} (h:(8≤k∧k≤10)∨k=17):opsK k=2:=by
 unfold opsK;rw[if_pos (by omega)]
theorem zj1 {n:Nd} {ps:List Int} (h:¬ (8≤ndK n∧ndK n≤17)):putN n ps=n:=by
 unfold putN;have h:opsK n.1=0:=zoC h;rw[h,if_neg (by decide),if_neg (by decide)]
theorem zsP {n:Nd} {ps:List Int} {x:Int} (h:11≤ndK n∧ndK n≤16):putN (setL n x) ps=setL n (ps.getD x.toNat 0):=by
 unfold putN;have h:opsK (setL n x).1=1:=zsS h;rw[h,if_neg (by decide),if_pos rfl];rfl
theorem zqF {n:Nd} {ps:List Int} {x y:Int} (h:(8≤ndK n∧ndK n≤10)∨ndK n=17):putN (zbs n x y) ps=zbs n (ps.getD x.toNat 0) (ps.getD y.toNat 0):=by
 unfold putN;have h:opsK (zbs n x y).1=2:=zqL h;rw[h,if_pos rfl];rfl
theorem zpp {l m:List Int} {i:Nat} (h:i < l.length):(l++m).getD i 0=l.getD i 0:=by
 rw[zy,zy,xX h]
structure Plc (z:List Nd×List Int) (out:List Nd) (pl:List Int) (t:Tr) (k:Nat):Prop where
 o:z.1=out++t.flat out.length
 p:∃ ps,z.2=pl++ps∧ps.length=k∧z.2.getD (pl.length+k - 1) 0=((out.length+t.size:Nat):Int) - 1
theorem Plc.len {z:List Nd×List Int} {out:List Nd} {pl:List Int} {t:Tr} {k:Nat} (h:Plc z out pl t k):z.1.length=out.length+t.size∧z.2.length=pl.length+k:=by
 obtain⟨h1,ps,h2,h3,_⟩:=h;rw[h1,h2,zd,zd,yW,h3];exact⟨rfl,rfl⟩
theorem zfx (l:List Int) (x:Int):(l++ [x]).getD l.length 0=x:=by
 rw[zy,xe (zl _),kz];rfl
theorem zlS {f:List Nd×List Int->Nd->List Nd×List Int} {out:List Nd} {pl:List Int} {n:Nd} (h:f (out,pl) n=(out++ [n],pl++ [((out.length:Nat):Int)])):Plc ([n].foldl f (out,pl)) out pl (.leaf n) 1:=by
 show Plc (f (out,pl) n) out pl (.leaf n) 1;rw[h];refine⟨rfl,[_],rfl,rfl,?_⟩;show (pl++ [((out.length:Nat):Int)]).getD pl.length 0=_;rw[zfx];show ((out.length:Nat):Int)=((out.length+1:Nat):Int) - 1;omega
theorem zrR {f:List Nd×List Int->Nd->List Nd×List Int} {out:List Nd} {pl:List Int} {n:Nd} {l:List Nd} {a:Tr} {k:Nat} (hk:1≤k) (ha:Plc (l.foldl f (out,pl)) out pl a k) (ha1:1≤a.size) {x:Int} (hx:x=((pl.length+k:Nat):Int) - 1) (hn:11≤ndK n∧ndK n≤16)
  (hf:∀ p:List Nd×List Int,f p (setL n x)=(p.1++ [putN (setL n x) p.2],p.2++ [((p.1.length:Nat):Int)])):Plc ((l++ [setL n x]).foldl f (out,pl)) out pl (.un n a) (k+1):=by
 obtain⟨l1,l2⟩:=ha.len;rw[xG];show Plc (f (l.foldl f (out,pl)) (setL n x)) out pl (.un n a) (k+1);rw[hf,zsP hn];obtain⟨h1,ps,h2,h3,h4⟩:=ha;generalize l.foldl f (out,pl)=z at *;have hxt:x.toNat=pl.length+k - 1:=by omega
 refine⟨?_,ps++ [((z.1.length:Nat):Int)],?_,by rw[zd,h3];rfl,?_⟩
 ·show z.1++ [setL n (z.2.getD x.toNat 0)]=out++(a.flat out.length++ [setL n (((out.length+a.size:Nat):Int) - 1)]);rw[hxt,h4,h1,zp]
 ·show z.2++_=_;rw[h2,zp]
 ·show (z.2++ [((z.1.length:Nat):Int)]).getD (pl.length+(k+1) - 1) 0=_;rw[show pl.length+(k+1) - 1=z.2.length by omega,zfx,l1];show _=((out.length+(a.size+1):Nat):Int) - 1;omega
theorem zox {f:List Nd×List Int->Nd->List Nd×List Int} {out:List Nd} {pl:List Int} {n:Nd} {l m:List Nd} {a b:Tr} {k j:Nat} (hk:1≤k) (hj:1≤j) (ha:Plc (l.foldl f (out,pl)) out pl a k) (hb:∀ z:List Nd×List Int,z=l.foldl f (out,pl)->Plc (m.foldl f z) z.1 z.2 b j) {x y:Int} (hx:x=((pl.length+k:Nat):Int) - 1) (hy:y=((pl.length+k+j:Nat):Int) - 1) (hn:(8≤ndK n∧ndK n≤10)∨ndK n=17)
  (hf:∀ p:List Nd×List Int,f p (zbs n x y)=(p.1++ [putN (zbs n x y) p.2],p.2++ [((p.1.length:Nat):Int)])):Plc ((l++m++ [zbs n x y]).foldl f (out,pl)) out pl (.bin n a b) (k+j+1):=by
 obtain⟨l1,l2⟩:=ha.len;rw[xG,xG];have hb:=hb _ rfl;obtain⟨m1,m2⟩:=hb.len;show Plc (f (m.foldl f (l.foldl f (out,pl))) (zbs n x y)) out pl (.bin n a b) (k+j+1);rw[hf,zqF hn];obtain⟨h1,ps,h2,h3,h4⟩:=ha;obtain⟨g1,qs,g2,g3,g4⟩:=hb;generalize hz:l.foldl f (out,pl)=z at *;generalize m.foldl f z=v at *;have hxt:x.toNat=pl.length+k - 1:=by omega
 have hyt:y.toNat=z.2.length+j - 1:=by omega
 have hxv:v.2.getD (pl.length+k - 1) 0=((out.length+a.size:Nat):Int) - 1:=by
  rw[g2,zpp (by omega)];exact h4
 refine⟨?_,ps++qs++ [((v.1.length:Nat):Int)],?_,by rw[zd,zd,h3,g3];rfl,?_⟩
 ·show v.1++ [zbs n (v.2.getD x.toNat 0) (v.2.getD y.toNat 0)]=out++(a.flat out.length++b.flat (out.length+a.size)++ [zbs n (((out.length+a.size:Nat):Int) - 1) (((out.length+a.size+b.size:Nat):Int) - 1)]);rw[hxt,hyt,hxv,g4,g1,h1,zd,yW];simp only[zp]
 ·show v.2++_=_;rw[g2,h2];simp only[zp]
 ·show (v.2++ [((v.1.length:Nat):Int)]).getD (pl.length+(k+j+1) - 1) 0=_;rw[show pl.length+(k+j+1) - 1=v.2.length by omega,zfx,m1,l1];show _=((out.length+(a.size+b.size+1):Nat):Int) - 1;omega
theorem zgK:∀ (t:Tr) (out:List Nd) (own:List Int),TrOk t->Plc ((t.flat own.length).foldl zcC (out,own)) out own t t.size
 | .leaf n,out,own,h=>zlS (by
  show (out++ [putN n own],own++ [((out.length:Nat):Int)])=_;rw[zj1 h.2.1])
 | .un n a,out,own,h=>zrR a.size_pos (zgK a out own h.2.2.2) a.size_pos rfl h.2.1 fun _=>rfl
 | .bin n a b,out,own,h=>by
  have ha:=zgK a out own h.2.2.2.1;refine zox a.size_pos b.size_pos ha (fun z hz=>?_) rfl rfl h.2.1 fun _=>rfl;have hl:z.2.length=own.length+a.size:=by rw[hz];exact ha.len.2
  rw[<-hl];exact zgK b z.1 z.2 h.2.2.2.2
theorem zgG {nm:List UInt8} {u:Tr} (hu:TrOk u):∀ (t:Tr) (out:List Nd) (pl:List Int),TrOk t->Plc ((t.flat pl.length).foldl (zb6 nm (u.flat 0)) (out,pl)) out pl (Tr.sub nm u t) t.size
 | .leaf n,out,pl,h=>by
  rw[Tr.sub];by_cases hc:ndK n=18∧ndS n=nm
  ·rw[if_pos hc];have h1:=zgK u out [] hu;obtain⟨l1,_⟩:=h1.len;have hs:zb6 nm (u.flat 0) (out,pl) n=(((u.flat 0).foldl zcC (out,[])).1,pl++ [((((u.flat 0).foldl zcC (out,[])).1.length:Nat):Int) - 1]):=by
    unfold zb6;rw[if_pos hc]
   show Plc (zb6 nm (u.flat 0) (out,pl) n) out pl u 1;rw[hs];refine⟨h1.o,[_],rfl,rfl,?_⟩;show (pl++ [((((u.flat 0).foldl zcC (out,[])).1.length:Nat):Int) - 1]).getD pl.length 0=_;have l1:((u.flat 0).foldl zcC (out,[])).1.length=out.length+u.size:=l1;rw[zfx,l1]
  ·rw[if_neg hc];refine zlS ?_;unfold zb6;rw[if_neg hc,zj1 h.2.1];simp only[zd,zF];rw[show ((out.length+1:Nat):Int) - 1=((out.length:Nat):Int) by omega]
 | .un n a,out,pl,h=>by
  refine zrR a.size_pos (zgG hu a out pl h.2.2.2) (Tr.size_pos _) rfl h.2.1 fun p=>?_;have h18:¬ (ndK (setL n (((pl.length+a.size:Nat):Int) - 1))=18∧ndS (setL n (((pl.length+a.size:Nat):Int) - 1))=nm):=fun e=>by
   have h1:ndK n=18:=e.1;have:=h.2.1;omega
  unfold zb6;rw[if_neg h18];simp only[zd,zF];rw[show ((p.1.length+1:Nat):Int) - 1=((p.1.length:Nat):Int) by omega]
 | .bin n a b,out,pl,h=>by
  have ha:=zgG (nm:=nm) hu a out pl h.2.2.2.1;refine zox a.size_pos b.size_pos ha (fun z hz=>?_) rfl rfl h.2.1 fun p=>?_
  ·have hl:z.2.length=pl.length+a.size:=by rw[hz];exact ha.len.2
   rw[<-hl];exact zgG hu b z.1 z.2 h.2.2.2.2
  ·have h18:∀ x y,¬ (ndK (zbs n x y)=18∧ndS (zbs n x y)=nm):=fun x y e=>by
    have h1:ndK n=18:=e.1;have:=h.2.1;omega
   unfold zb6;rw[if_neg (h18 _ _)];simp only[zd,zF];rw[show ((p.1.length+1:Nat):Int) - 1=((p.1.length:Nat):Int) by omega]
theorem zqD {nm:List UInt8} {t u:Tr} (ht:TrOk t) (hu:TrOk u) (h1:t.size≤64) (h2:u.size≤64) (h3:(Tr.sub nm u t).size≤64):zfW (t.flat 0) nm (u.flat 0)=((Tr.sub nm u t).flat 0,0):=by
 have h:putF (t.flat 0) nm (u.flat 0)=((Tr.sub nm u t).flat 0,(putF (t.flat 0) nm (u.flat 0)).2):=by
  have:=(zgG (nm:=nm) hu t [] [] ht).o;exact Prod.ext this rfl
 unfold zfW;rw[if_pos ⟨zkS ht h1,zkS hu h2⟩,h];simp only[];rw[if_neg (by rw[yW];omega)]
def hitN (nm:List UInt8) (n:Nd):Bool:=(ndK n==18)&&decide (ndS n=nm)
def Tr.textS (nm v:List UInt8):Tr->List UInt8
 | .leaf n=>if hitN nm n then parS false v else zcc n
 | .un n a=>parS (decide (a.lev≥4)) (Tr.textS nm v a)++zbA [] n
 | .bin n a b=>if ndK n=17 then parS (decide (a.lev≥4)) (Tr.textS nm v a)++zbA (parS (decide (b.lev≥5)) (Tr.textS nm v b)) n
  else parS (decide (a.lev≥levS (ndK n))) (Tr.textS nm v a)++(putS ([32]++opWd (levS (ndK n))++ [32]) []++parS (decide (b.lev≥levS (ndK n)+1)) (Tr.textS nm v b))
def Tr.toksS (nm:List UInt8) (V:List Tk):Tr->List Tk
 | .leaf n=>if hitN nm n then parT false V else ziz n
 | .un n a=>parT (decide (a.lev≥4)) (Tr.toksS nm V a)++zgx [] n
 | .bin n a b=>if ndK n=17 then parT (decide (a.lev≥4)) (Tr.toksS nm V a)++zgx (parT (decide (b.lev≥5)) (Tr.toksS nm V b)) n
  else parT (decide (a.lev≥levS (ndK n))) (Tr.toksS nm V a)++(tkW (opWd (levS (ndK n)))::parT (decide (b.lev≥levS (ndK n)+1)) (Tr.toksS nm V b))
theorem zqh (nm:List UInt8) (u:Tr) (n:Nd):Tr.sub nm u (.leaf n)=if hitN nm n then u else .leaf n:=by
 rw[Tr.sub];unfold hitN;by_cases h:ndK n=18∧ndS n=nm
 ·rw[if_pos h,if_pos (by rw[zf,beq_iff_eq,decide_eq_true_iff];exact h)]
 ·rw[if_neg h,if_neg (by rw[zf,beq_iff_eq,decide_eq_true_iff];exact h)]
theorem zfn {a a':Tr} {A:List Tk} (h:Qt (levI a) A a') {r:Int} {i:Nat} (hr:r=(i:Int)+1) (hi:i≤4):Qt i (parT (decide (a.lev≥r)) A) a':=by
 obtain⟨l1,l5⟩:=zfZ (ndK a.root);have hl:levI a≤4:=by unfold levI Tr.lev;omega
 by_cases hc:a.lev≥r
 ·rw[decide_eq_true hc];refine h.up ?_ hl;unfold levI Tr.lev at *;omega
 ·rw[decide_eq_false hc];exact (Qt.par (h.up (zk _) hl)).up hi (zl _)
theorem zdD {nm:List UInt8} {u:Tr} (hu:TrOk u):∀ t:Tr,TrOk t->Qt (levI t) (Tr.toksS nm u.toks t) (Tr.sub nm u t)
 | .leaf n,h=>by
  have:levI (.leaf n)=4:=by
   show (levS (ndK n) - 1).toNat=4;rw[zjb h.2.1];rfl
  rw[this,zqh,Tr.toksS];split
  ·exact Qt.par (zoq hu)
  ·exact zou h
 | .un n a,h=>by
  obtain⟨h1,hk,hLR,ha⟩:=h;have:levI (.un n a)=3:=by
   show (levS (ndK n) - 1).toNat=3;rw[zho (by omega)];rfl
  rw[this];intro s st l hg hq hn hf;have hn:st.2+(((Tr.sub nm u a).size+1:Nat):Int)≤64:=hn;have hq:Sq s st.1 (parT (decide (a.lev≥4)) (Tr.toksS nm u.toks a)++zgx [] n++l):=hq;rw[zp]at hq;obtain⟨st1,e1,g1⟩:=zfn (zdD (nm:=nm) hu a ha) (i:=3) rfl (by decide) s st _ hg hq (by omega) trivial;have n1:=g1.n;obtain⟨st2,e2,g2⟩:=q_un (a:=Tr.sub nm u a) h1 hk hLR g1.ok g1.sq (by omega);exact⟨st2,uu e1 e2,g1.trans g2⟩
 | .bin n a b,h=>by
  obtain⟨h1,hk,hLR,ha,hb⟩:=h;by_cases h17:ndK n=17
  ·have:levI (.bin n a b)=3:=by
    show (levS (ndK n) - 1).toNat=3;rw[zho (by omega)];rfl
   rw[this];intro s st l hg hq hn hf;have hn:st.2+(((Tr.sub nm u a).size+(Tr.sub nm u b).size+1:Nat):Int)≤64:=hn;unfold Tr.toksS at hq;rw[if_pos h17,zp]at hq;obtain⟨st1,e1,g1⟩:=zfn (zdD (nm:=nm) hu a ha) (i:=3) rfl (by decide) s st _ hg hq (by omega) trivial;have n1:=g1.n;obtain⟨st2,e2,g2⟩:=zlP (a:=Tr.sub nm u a) h1 h17 hLR (zfn (zdD (nm:=nm) hu b hb) (r:=5) (i:=4) rfl (by decide)) g1.ok g1.sq (by omega);have:=g1.trans g2;rw[show ((Tr.sub nm u a).size:Int)+(1+((Tr.sub nm u b).size:Int))=((Tr.bin n (Tr.sub nm u a) (Tr.sub nm u b)).size:Int) by show _=(((Tr.sub nm u a).size+(Tr.sub nm u b).size+1:Nat):Int);omega]at this;exact⟨st2,uu e1 e2,this⟩
  ·have hk:8≤ndK n∧ndK n≤10:=by omega
   have hn0:=zr5 h1 hk hLR;unfold Tr.toksS;rw[if_neg h17];have hl:levI (.bin n a b)=(levS (ndK n) - 1).toNat:=rfl;rw[hl];rcases (show ndK n=8∨ndK n=9∨ndK n=10 by omega) with k|k|k<;>rw[k]at hn0 ⊢
   ·exact zfX (i:=2) (by decide) (zfn (zdD hu a ha) rfl (by decide)) (zfn (zdD hu b hb) (r:=4) rfl (by decide)) hn0
   ·exact zfX (i:=0) (by decide) (zfn (zdD hu a ha) rfl (by decide)) (zfn (zdD hu b hb) (r:=2) rfl (by decide)) hn0
   ·exact zfX (i:=1) (by decide) (zfn (zdD hu a ha) rfl (by decide)) (zfn (zdD hu b hb) (r:=3) rfl (by decide)) hn0
theorem zdL {nm:List UInt8} {u:Tr} (hu:TrOk u):∀ t:Tr,TrOk t->Lex (Tr.textS nm u.text t) (Tr.toksS nm u.toks t)
 | .leaf n,h=>by
  rw[Tr.textS,Tr.toksS];split
  ·exact zdm (c:=false) (zdZ u hu)
  ·exact zl5 h.1 h.2.1
 | .un n a,h=>by
  obtain⟨h1,hk,_,ha⟩:=h;obtain⟨x,y⟩:=zja (b:=[]) (B:=[]) h1 (by omega) (fun e=>by omega);exact (zdm (zdL (nm:=nm) hu a ha)).app x y
 | .bin n a b,h=>by
  obtain⟨h1,hk,_,ha,hb⟩:=h;unfold Tr.textS Tr.toksS;split
  ·rename_i h17;obtain⟨x,y⟩:=zja (n:=n) h1 (by omega) (fun _=>zdm (c:=decide (b.lev≥5)) (zdL (nm:=nm) hu b hb));exact (zdm (zdL (nm:=nm) hu a ha)).app x y
  ·rename_i h17;have hl:levS (ndK n)=1∨levS (ndK n)=2∨levS (ndK n)=3:=by
    rcases (show ndK n=8∨ndK n=9∨ndK n=10 by omega) with k|k|k<;>rw[k]
    ·exact .inr (.inr rfl)
    ·exact .inl rfl
    ·exact .inr (.inl rfl)
   have hB:=zdm (c:=decide (b.lev≥levS (ndK n)+1)) (zdL (nm:=nm) hu b hb);generalize parS (decide (b.lev≥levS (ndK n)+1)) (Tr.textS nm u.text b)=v at hB ⊢;generalize parT (decide (b.lev≥levS (ndK n)+1)) (Tr.toksS nm u.toks b)=m at hB ⊢;have hw:Lex (putS ([32]++opWd (levS (ndK n))++ [32]) []++v) (tkW (opWd (levS (ndK n)))::m)∧Bd (putS ([32]++opWd (levS (ndK n))++ [32]) []++v):=by
    have e:putS ([32]++opWd (levS (ndK n))++ [32]) []++v=32::(opWd (levS (ndK n))++(32::v)):=by
     show (([32]++opWd (levS (ndK n))++ [32])++ [])++v=_;simp
    rw[e];refine⟨?_,rfl⟩;rcases hl with hl|hl|hl<;>rw[hl]
    ·exact (zaZ (w:=wOr) (by decide) rfl (by decide) hB.sp rfl).sp
    ·exact (zaZ (w:=zjG) (by decide) rfl (by decide) hB.sp rfl).sp
    ·exact (zaZ (w:=wAnd) (by decide) rfl (by decide) hB.sp rfl).sp
   exact (zdm (zdL (nm:=nm) hu a ha)).app hw.1 hw.2
theorem zk6 {nm:List UInt8} {t u:Tr} (ht:TrOk t) (hu:TrOk u) (hs:(Tr.sub nm u t).size≤64):zeo (Tr.textS nm u.text t)= .ok (Tr.sub nm u t):=
 zrO ((zdD hu t ht).up (zk _) (by have:=zfZ (ndK t.root);unfold levI Tr.lev;omega)) hs (zl4 (zdL hu t ht) _ [] rfl)
theorem ze2 {a:Int} (ha:zb4 a):∀ x∈ [a],zb4 x:=fun x hx=>by rw[zw]at hx;subst hx;exact ha
theorem numL2 {a b:Int} (ha:zb4 a) (hb:zb4 b):∀ x∈ [a,b],zb4 x:=fun x hx=>by
 rcases yd.1 hx with rfl|hx
 ·exact ha
 ·exact ze2 hb x hx
theorem zsU {a b c:Int} (ha:zb4 a) (hb:zb4 b) (hc:zb4 c):∀ x∈ [a,b,c],zb4 x:=fun x hx=>by
 rcases yd.1 hx with rfl|hx
 ·exact ha
 ·exact numL2 hb hc x hx
def hLf:List (zP×HCtr):=[(100,cPut),(150,zmA)]
theorem zdO:HsOk Tryz.prog gmH hLf:=.cons zov <| .cons zl2 .nil
def kLf:Kn:={ gmK with C:=[(151,zpI)] }
theorem zaP:KnOk Tryz.prog gmH kLf:=zaj.with (.cons zn4 .nil)
theorem zcK (n:Int):(zb5 n).length≤10:=by
 unfold zb5;split
 ·decide
 ·decide
theorem cat3 (a b c:List UInt8):(a++b++c:List UInt8)=a++(b++c):=zp a b c
@[reducible] def zpO:HCtr:=hW [nd] (fun x xs=>[zg x.2.1+10000≤1000000000,zkN xs.1,1≤ndK xs.1,ndK xs.1≤7∨ndK xs.1=18]) fun x xs=>zcc xs.1
theorem zq1:zaD Tryz.prog gmH 103 zpO:=by
 refine zau (K:=_) zaP Tryz.func103 rfl rfl (zcq rfl) Tryz.call103 rfl (zb rfl) (zdG prT [107]) ?_;rintro w0 ⟨G,O,K,fix,D,ρ,B⟩ ty hX hG hK hρ hD hinv ⟨(b:Bool),(bf:List UInt8),(r:List Nd),⟨⟩⟩ ⟨(n:Nd),⟨⟩⟩ hp;obtain rfl:G=gmH:=hG;obtain rfl:K=1:=hK;obtain rfl:ρ=none:=hρ;obtain rfl:D=[]:=hD;have hI:=fun w R hR hw=>(⟨zaJ (ty:=ty) hX rfl hinv.1 (ty':=ty) w R hR hw,hinv.2⟩:bInv prT [107] w R ty);obtain⟨hlen,⟨⟨hC,hN,hM⟩,hI',hil,hnl,hsc,-⟩,hk0,hkk⟩:bf.length+10000≤1000000000∧zkN n∧1≤ndK n∧(ndK n≤7∨ndK n=18):=hp;have hq0:bf.length+200+19 * 3≤1000000000:=by omega
 change AWP _ _ _ _ _ ⟨[(0,⟨.hptr,((0:Nat),(0:Nat))⟩),(1,⟨nd,n⟩)],wE ty b bf r,2⟩ (wQ _ zpO ty (.ok ((),(true,((bf++zcc n:List UInt8),(r,()))))));unfold zcc;refine za (za ?_);refine zaa hX zaP rfl ?_ ?_
 ·trivial
 refine za (za ?_);refine zaa hX zaP rfl ?_ ?_
 ·trivial
 apply zac;refine zap (σ':=⟨[(0,⟨.hptr,((0:Nat),(0:Nat))⟩),(3,⟨.optr nd,⟨2,nd,.here⟩⟩),(5,⟨i64,ndK n⟩)],(2,some (.box nd n))::wE ty b bf r,3⟩) ⟨⟨rfl,rfl,rfl,trivial⟩,⟨rfl,rfl,rfl,trivial⟩,rfl,by cases b<;>rfl⟩ ?_;refine za (za ?_);refine zaa hX zaP rfl ?_ ?_
 ·trivial
 refine zaf rfl (fun hb=>?_) (fun hb=>?_)
 ·have hb:(ndK n==1)=true:=hb;have hk:=beq_iff_eq.1 hb;rw[if_pos hk];cases b
  all_goals
   (repeat(first|apply zae|apply zab|apply zac|apply zad));refine zai ?_;refine yn 6 hX zaP zdO rfl trivial rfl rfl ⟨(by show zg bf+zg zjH+19 * 2≤1000000000;have:zg zjH≤20:=(by decide);omega),(numL2 hN hM)⟩ hI ?_;exact yg ⟨.inl rfl,⟨_,rfl,u8,1,_,rfl,rfl,rfl⟩,zbd (by decide) rfl rfl trivial rfl⟩
 have hb:(ndK n==1)=false:=hb;have hk1:ndK n≠1:=fun e=>by rw[beq_iff_eq.2 e]at hb;cases hb
 rw[if_neg hk1];refine za (za ?_);refine zaa hX zaP rfl ?_ ?_
 ·trivial
 refine zaf rfl (fun hb=>?_) (fun hb=>?_)
 ·have hb:(ndK n==2)=true:=hb;have hk:=beq_iff_eq.1 hb;rw[if_pos hk];cases b
  all_goals
   (repeat(first|apply zae|apply zab|apply zac|apply zad));refine zai ?_;refine yn 8 hX zaP zdO rfl trivial rfl rfl ⟨(by show zg bf+zg zgg+19 * 3≤1000000000;have:zg zgg≤20:=(by decide);omega),(zsU hC hN hM)⟩ hI ?_;exact yg ⟨.inl rfl,⟨_,rfl,u8,1,_,rfl,rfl,rfl⟩,zbd (by decide) rfl rfl trivial rfl⟩
 have hb:(ndK n==2)=false:=hb;have hk2:ndK n≠2:=fun e=>by rw[beq_iff_eq.2 e]at hb;cases hb
 rw[if_neg hk2];refine za (za ?_);refine zaa hX zaP rfl ?_ ?_
 ·trivial
 refine zaf rfl (fun hb=>?_) (fun hb=>?_)
 ·have hb:(ndK n==3)=true:=hb;have hk:=beq_iff_eq.1 hb;rw[if_pos hk];refine xz (σ':=⟨[(0,⟨.hptr,((0:Nat),(0:Nat))⟩),(3,⟨.optr nd,⟨2,nd,.here⟩⟩)],(2,some (.box nd n))::wE ty true ((bf++putS zcn [ndC n]:List UInt8)) r,3⟩) ?_ ?_
  ·cases b
   all_goals
    (repeat(first|apply zae|apply zab|apply zac|apply zad));refine zai ?_;refine yn 4 hX zaP zdO rfl trivial rfl rfl ⟨(by show zg bf+zg zcn+19 * 1≤1000000000;have:zg zcn≤20:=(by decide);omega),(ze2 hC)⟩ hI ?_;exact yg ⟨⟨rfl,rfl,trivial⟩,⟨rfl,rfl,rfl,trivial⟩,rfl,rfl⟩
  have hl2:zg (bf++putS zcn [ndC n]:List UInt8)+20 * zg (ndI n)+1≤1000000000:=by
   have:=zbH (ze2 hC);have hw:zg zcn≤20:=by decide
   simp only[putS,zd,zt,zX]at this ⊢;omega
  rw[show (bf++(putS zcn [ndC n]++zbV (ndI n)):List UInt8)=bf++putS zcn [ndC n]++zbV (ndI n) from (cat3 _ _ _).symm];(repeat(first|apply zae|apply zab|apply zac|apply zad));refine zai ?_;refine yn 3 hX zaP zdO rfl trivial rfl rfl ⟨hl2,hI'⟩ hI ?_;exact yg ⟨.inl rfl,⟨_,rfl,u8,1,_,rfl,rfl,rfl⟩,zbd (by decide) rfl rfl trivial rfl⟩
 have hb:(ndK n==3)=false:=hb;have hk3:ndK n≠3:=fun e=>by rw[beq_iff_eq.2 e]at hb;cases hb
 rw[if_neg hk3];refine za (za ?_);refine zaa hX zaP rfl ?_ ?_
 ·trivial
 refine zaf rfl (fun hb=>?_) (fun hb=>?_)
 ·have hb:(ndK n==4)=true:=hb;have hk:=beq_iff_eq.1 hb;rw[if_pos hk];refine xz (σ':=⟨[(0,⟨.hptr,((0:Nat),(0:Nat))⟩),(3,⟨.optr nd,⟨2,nd,.here⟩⟩)],(2,some (.box nd n))::wE ty true ((bf++putS za3 [ndC n]:List UInt8)) r,3⟩) ?_ ?_
  ·cases b
   all_goals
    (repeat(first|apply zae|apply zab|apply zac|apply zad));refine zai ?_;refine yn 4 hX zaP zdO rfl trivial rfl rfl ⟨(by show zg bf+zg za3+19 * 1≤1000000000;have:zg za3≤20:=(by decide);omega),(ze2 hC)⟩ hI ?_;exact yg ⟨⟨rfl,rfl,trivial⟩,⟨rfl,rfl,rfl,trivial⟩,rfl,rfl⟩
  have hl2:zg (bf++putS za3 [ndC n]:List UInt8)+20 * zg (ndI n)+1≤1000000000:=by
   have:=zbH (ze2 hC);have hw:zg za3≤20:=by decide
   simp only[putS,zd,zt,zX]at this ⊢;omega
  rw[show (bf++(putS za3 [ndC n]++zbV (ndI n)):List UInt8)=bf++putS za3 [ndC n]++zbV (ndI n) from (cat3 _ _ _).symm];(repeat(first|apply zae|apply zab|apply zac|apply zad));refine zai ?_;refine yn 3 hX zaP zdO rfl trivial rfl rfl ⟨hl2,hI'⟩ hI ?_;exact yg ⟨.inl rfl,⟨_,rfl,u8,1,_,rfl,rfl,rfl⟩,zbd (by decide) rfl rfl trivial rfl⟩
 have hb:(ndK n==4)=false:=hb;have hk4:ndK n≠4:=fun e=>by rw[beq_iff_eq.2 e]at hb;cases hb
 rw[if_neg hk4];refine za (za ?_);refine zaa hX zaP rfl ?_ ?_
 ·trivial
 refine zaf rfl (fun hb=>?_) (fun hb=>?_)
 ·have hb:(ndK n==5)=true:=hb;have hk:=beq_iff_eq.1 hb;rw[if_pos hk];refine xz (σ':=⟨[(0,⟨.hptr,((0:Nat),(0:Nat))⟩),(3,⟨.optr nd,⟨2,nd,.here⟩⟩)],(2,some (.box nd n))::wE ty true ((bf++putS zbj []:List UInt8)) r,3⟩) ?_ ?_
  ·cases b
   all_goals
    (repeat(first|apply zae|apply zab|apply zac|apply zad));refine zai ?_;refine yn 1 hX zaP zdO rfl trivial rfl rfl ⟨(by show zg bf+zg zbj+19 * 0≤1000000000;have:zg zbj≤20:=(by decide);omega),(fun x hx=>by cases hx)⟩ hI ?_;exact yg ⟨⟨rfl,rfl,trivial⟩,⟨rfl,rfl,rfl,trivial⟩,rfl,rfl⟩
  have hl2:zg (bf++putS zbj []:List UInt8)+20 * zg (ndI n)+1≤1000000000:=by
   have:=zbH (l:=[]) (fun x hx=>by cases hx);have hw:zg zbj≤20:=by decide
   simp only[putS,zd,zt,zX]at this ⊢;omega
  rw[show (bf++(putS zbj []++zbV (ndI n)):List UInt8)=bf++putS zbj []++zbV (ndI n) from (cat3 _ _ _).symm];(repeat(first|apply zae|apply zab|apply zac|apply zad));refine zai ?_;refine yn 3 hX zaP zdO rfl trivial rfl rfl ⟨hl2,hI'⟩ hI ?_;exact yg ⟨.inl rfl,⟨_,rfl,u8,1,_,rfl,rfl,rfl⟩,zbd (by decide) rfl rfl trivial rfl⟩
 have hb:(ndK n==5)=false:=hb;have hk5:ndK n≠5:=fun e=>by rw[beq_iff_eq.2 e]at hb;cases hb
 rw[if_neg hk5];refine za (za ?_);refine zaa hX zaP rfl ?_ ?_
 ·trivial
 refine zaf rfl (fun hb=>?_) (fun hb=>?_)
 ·have hb:(ndK n==6)=true:=hb;have hk:=beq_iff_eq.1 hb;rw[if_pos hk];refine xz (σ':=⟨[(0,⟨.hptr,((0:Nat),(0:Nat))⟩),(3,⟨.optr nd,⟨2,nd,.here⟩⟩)],(2,some (.box nd n))::wE ty true ((bf++putS zdh [ndC n]:List UInt8)) r,3⟩) ?_ ?_
  ·cases b
   all_goals
    (repeat(first|apply zae|apply zab|apply zac|apply zad));refine zai ?_;refine yn 4 hX zaP zdO rfl trivial rfl rfl ⟨(by show zg bf+zg zdh+19 * 1≤1000000000;have:zg zdh≤20:=(by decide);omega),(ze2 hC)⟩ hI ?_;exact yg ⟨⟨rfl,rfl,trivial⟩,⟨rfl,rfl,rfl,trivial⟩,rfl,rfl⟩
  have hl2:zg (bf++putS zdh [ndC n]:List UInt8)+20 * zg (ndI n)+1≤1000000000:=by
   have:=zbH (ze2 hC);have hw:zg zdh≤20:=by decide
   simp only[putS,zd,zt,zX]at this ⊢;omega
  rw[show (bf++(putS zdh [ndC n]++zbV (ndI n)):List UInt8)=bf++putS zdh [ndC n]++zbV (ndI n) from (cat3 _ _ _).symm];(repeat(first|apply zae|apply zab|apply zac|apply zad));refine zai ?_;refine yn 3 hX zaP zdO rfl trivial rfl rfl ⟨hl2,hI'⟩ hI ?_;exact yg ⟨.inl rfl,⟨_,rfl,u8,1,_,rfl,rfl,rfl⟩,zbd (by decide) rfl rfl trivial rfl⟩
 have hb:(ndK n==6)=false:=hb;have hk6:ndK n≠6:=fun e=>by rw[beq_iff_eq.2 e]at hb;cases hb
 rw[if_neg hk6];refine za (za ?_);refine zaa hX zaP rfl ?_ ?_
 ·trivial
 refine zaf rfl (fun hb=>?_) (fun hb=>?_)
 ·have hb:(ndK n==7)=true:=hb;have hk:=beq_iff_eq.1 hb;rw[if_pos hk];obtain⟨hs0,hs1⟩:=hsc hk;refine xz (σ':=⟨[(0,⟨.hptr,((0:Nat),(0:Nat))⟩),(3,⟨.optr nd,⟨2,nd,.here⟩⟩)],(2,some (.box nd n))::wE ty true ((bf++putS wNth [ndC n,ndN n,ndM n]:List UInt8)) r,3⟩) ?_ ?_
  ·cases b
   all_goals
    (repeat(first|apply zae|apply zab|apply zac|apply zad));refine zai ?_;refine yn 8 hX zaP zdO rfl trivial rfl rfl ⟨(by show zg bf+zg wNth+19 * 3≤1000000000;have:zg wNth≤20:=(by decide);omega),(zsU hC hN hM)⟩ hI ?_;exact yg ⟨⟨rfl,rfl,trivial⟩,⟨rfl,rfl,rfl,trivial⟩,rfl,rfl⟩
  have hl2:zg (bf++putS wNth [ndC n,ndN n,ndM n]:List UInt8)+zg (zb5 (ndL n))+19 * 0≤1000000000:=by
   have:=zbH (zsU hC hN hM);have hw:zg wNth≤20:=by decide
   have hs:=zcK (ndL n);simp only[putS,zd,zt,zX]at this ⊢;omega
  rw[show (bf++(putS wNth [ndC n,ndN n,ndM n]++putS (zb5 (ndL n)) []):List UInt8)=bf++putS wNth [ndC n,ndN n,ndM n]++putS (zb5 (ndL n)) [] from (cat3 _ _ _).symm];(repeat(first|apply zae|apply zab|apply zac|apply zad));refine zai ?_;refine yn 4 hX zaP zdO rfl ⟨hs0,hs1⟩ rfl rfl ⟨hl2,fun x hx=>by cases hx⟩ hI ?_;exact yg ⟨.inl rfl,⟨_,rfl,u8,1,_,rfl,rfl,rfl⟩,zbd (by decide) rfl rfl trivial rfl⟩
 have hb:(ndK n==7)=false:=hb;have hk7:ndK n≠7:=fun e=>by rw[beq_iff_eq.2 e]at hb;cases hb
 rw[if_neg hk7];refine za (za ?_);refine zaa hX zaP rfl ?_ ?_
 ·trivial
 refine zaf rfl (fun hb=>?_) (fun hb=>?_)
 ·have hb:(ndK n==18)=true:=hb;have hk:=beq_iff_eq.1 hb;rw[if_pos hk];have hcat:1+zg (ndS n)≤maxLen:=by unfold maxLen;omega
  have hl2:zg bf+zg (wAt++ndS n:List UInt8)+19 * 0≤1000000000:=by
   rw[zd];show _+(1+_)+_≤_;omega
  cases b
  all_goals
   (repeat(first|apply zae|apply zab|apply zac|apply zad));refine zai ?_;refine yn 4 hX zaP zdO rfl hcat rfl rfl ⟨hl2,fun x hx=>by cases hx⟩ hI ?_;exact yg ⟨.inl rfl,⟨_,rfl,u8,1,_,rfl,rfl,rfl⟩,zbd (by decide) rfl rfl trivial rfl⟩
 have hb:(ndK n==18)=false:=hb;have hk18:ndK n≠18:=fun e=>by rw[beq_iff_eq.2 e]at hb;cases hb
 rw[if_neg hk18];exfalso;omega
def WfP (r:List Nd):Prop:=r.length≤1000∧∀ j:Nat,j < r.length->zkN (zav r j)∧(1≤ndK (zav r j)∧ndK (zav r j)≤18)∧(8≤ndK (zav r j)->ndK (zav r j)≤17->0≤ndL (zav r j)∧ndL (zav r j) < j)∧(8≤ndK (zav r j)->ndK (zav r j)≤10∨ndK (zav r j)=17->0≤ndR (zav r j)∧ndR (zav r j) < j)
@[reducible] def cOpd (k:Nat):HCtr:=hW [i64,i64] (fun x xs=>[WfP x.2.2.1,0≤xs.1,xs.1.toNat < k,xs.1.toNat < zg x.2.2.1,zg x.2.1+zg (opdF k x.2.2.1 xs.1 xs.2.1)+10000≤1000000000]) fun x xs=>opdF k x.2.2.1 xs.1 xs.2.1
@[reducible] def zrw (k:Nat):HCtr:=hW [nd] (fun x xs=>[WfP x.2.2.1,zkN xs.1,11≤ndK xs.1,ndK xs.1≤17,ndK xs.1=17->0≤ndR xs.1∧(ndR xs.1).toNat < k∧(ndR xs.1).toNat < zg x.2.2.1,zg x.2.1+zg (zbA (opdF k x.2.2.1 (ndR xs.1) 5) xs.1)+10000≤1000000000]) fun x xs=>zbA (opdF k x.2.2.1 (ndR xs.1) 5) xs.1
def hSf (k:Nat):List (zP×HCtr):=[(100,cPut),(150,zmA),(99,cOpd k)]
theorem cat4 (a b c d:List UInt8):(a++b++c++d:List UInt8)=a++(b++(c++d)):=by rw[zp,zp]
theorem zmL (k:Nat) (hO:zaD Tryz.prog gmH 99 (cOpd k)):zaD Tryz.prog gmH 102 (zrw k):=by
 have hsf:HsOk Tryz.prog gmH (hSf k):=.cons zov <| .cons zl2 <| .cons hO .nil;refine zau (K:=_) zaP Tryz.func102 rfl rfl (zcq rfl) Tryz.call102 rfl (zb rfl) (zdG prT [107]) ?_;rintro w0 ⟨G,O,K,fix,D,ρ,B⟩ ty hX hG hK hρ hD hinv ⟨(b:Bool),(bf:List UInt8),(r:List Nd),⟨⟩⟩ ⟨(n:Nd),⟨⟩⟩ hp;obtain rfl:G=gmH:=hG;obtain rfl:K=1:=hK;obtain rfl:ρ=none:=hρ;obtain rfl:D=[]:=hD;have hI:=fun w R hR hw=>(⟨zaJ (ty:=ty) hX rfl hinv.1 (ty':=ty) w R hR hw,hinv.2⟩:bInv prT [107] w R ty);obtain⟨hwf,⟨⟨hC,hN,hM⟩,hI',hil,hnl,-,hsc⟩,hk0,hkk,hbh,hT⟩:WfP r∧zkN n∧11≤ndK n∧ndK n≤17∧(ndK n=17->0≤ndR n∧(ndR n).toNat < k∧(ndR n).toNat < r.length)∧bf.length+(zbA (opdF k r (ndR n) 5) n).length+10000≤1000000000:=hp;have hlen:bf.length+10000≤1000000000:=by omega
 change AWP _ _ _ _ _ ⟨[(0,⟨.hptr,((0:Nat),(0:Nat))⟩),(1,⟨nd,n⟩)],wE ty b bf r,2⟩ (wQ _ (zrw k) ty (.ok ((),(true,((bf++zbA (opdF k r (ndR n) 5) n:List UInt8),(r,()))))));unfold zbA at hT ⊢;refine za (za ?_);refine zaa hX zaP rfl ?_ ?_
 ·trivial
 refine za (za ?_);refine zaa hX zaP rfl ?_ ?_
 ·trivial
 apply zac;refine zap (σ':=⟨[(0,⟨.hptr,((0:Nat),(0:Nat))⟩),(3,⟨.optr nd,⟨2,nd,.here⟩⟩),(5,⟨i64,ndK n⟩)],(2,some (.box nd n))::wE ty b bf r,3⟩) ⟨⟨rfl,rfl,rfl,trivial⟩,⟨rfl,rfl,rfl,trivial⟩,rfl,by cases b<;>rfl⟩ ?_;refine za (za ?_);refine zaa hX zaP rfl ?_ ?_
 ·trivial
 refine zaf rfl (fun hb=>?_) (fun hb=>?_)
 ·have hb:(ndK n==11)=true:=hb;have hk:=beq_iff_eq.1 hb;rw[if_pos hk];cases b
  all_goals
   (repeat(first|apply zae|apply zab|apply zac|apply zad));refine zai ?_;refine yn 4 hX zaP hsf rfl trivial rfl rfl ⟨(by show zg bf+zg (spW zeP)+19 * 1≤1000000000;have:zg (spW zeP)≤20:=(by decide);omega),(ze2 hN)⟩ hI ?_;exact yg ⟨.inl rfl,⟨_,rfl,u8,1,_,rfl,rfl,rfl⟩,zbd (by decide) rfl rfl trivial rfl⟩
 have hb:(ndK n==11)=false:=hb;have hk11:ndK n≠11:=fun e=>by rw[beq_iff_eq.2 e]at hb;cases hb
 rw[if_neg hk11];refine za (za ?_);refine zaa hX zaP rfl ?_ ?_
 ·trivial
 refine zaf rfl (fun hb=>?_) (fun hb=>?_)
 ·have hb:(ndK n==12)=true:=hb;have hk:=beq_iff_eq.1 hb;rw[if_pos hk];cases b
  all_goals
   (repeat(first|apply zae|apply zab|apply zac|apply zad));refine zai ?_;refine yn 4 hX zaP hsf rfl trivial rfl rfl ⟨(by show zg bf+zg (spW zhU)+19 * 1≤1000000000;have:zg (spW zhU)≤20:=(by decide);omega),(ze2 hN)⟩ hI ?_;exact yg ⟨.inl rfl,⟨_,rfl,u8,1,_,rfl,rfl,rfl⟩,zbd (by decide) rfl rfl trivial rfl⟩
 have hb:(ndK n==12)=false:=hb;have hk12:ndK n≠12:=fun e=>by rw[beq_iff_eq.2 e]at hb;cases hb
 rw[if_neg hk12];refine za (za ?_);refine zaa hX zaP rfl ?_ ?_
 ·trivial
 refine zaf rfl (fun hb=>?_) (fun hb=>?_)
 ·have hb:(ndK n==13)=true:=hb;have hk:=beq_iff_eq.1 hb;rw[if_pos hk];cases b
  all_goals
   (repeat(first|apply zae|apply zab|apply zac|apply zad));refine zai ?_;refine yn 4 hX zaP hsf rfl trivial rfl rfl ⟨(by show zg bf+zg (spW zeO)+19 * 1≤1000000000;have:zg (spW zeO)≤20:=(by decide);omega),(ze2 hN)⟩ hI ?_;exact yg ⟨.inl rfl,⟨_,rfl,u8,1,_,rfl,rfl,rfl⟩,zbd (by decide) rfl rfl trivial rfl⟩
 have hb:(ndK n==13)=false:=hb;have hk13:ndK n≠13:=fun e=>by rw[beq_iff_eq.2 e]at hb;cases hb
 rw[if_neg hk13];refine za (za ?_);refine zaa hX zaP rfl ?_ ?_
 ·trivial
 refine zaf rfl (fun hb=>?_) (fun hb=>?_)
 ·have hb:(ndK n==14)=true:=hb;have hk:=beq_iff_eq.1 hb;rw[if_pos hk];refine xz (σ':=⟨[(0,⟨.hptr,((0:Nat),(0:Nat))⟩),(3,⟨.optr nd,⟨2,nd,.here⟩⟩)],(2,some (.box nd n))::wE ty true ((bf++putS (spW zeX) []:List UInt8)) r,3⟩) ?_ ?_
  ·cases b
   all_goals
    (repeat(first|apply zae|apply zab|apply zac|apply zad));refine zai ?_;refine yn 1 hX zaP hsf rfl trivial rfl rfl ⟨(by show zg bf+zg (spW zeX)+19 * 0≤1000000000;have:zg (spW zeX)≤20:=(by decide);omega),(fun x hx=>by cases hx)⟩ hI ?_;exact yg ⟨⟨rfl,rfl,trivial⟩,⟨rfl,rfl,rfl,trivial⟩,rfl,rfl⟩
  have hl2:zg (bf++putS (spW zeX) []:List UInt8)+20 * zg (ndI n)+1≤1000000000:=by
   have:=zbH (l:=[]) (fun x hx=>by cases hx);have hw:zg (spW zeX)≤20:=by decide
   simp only[putS,zd,zt,zX]at this ⊢;omega
  rw[show (bf++(putS (spW zeX) []++zbV (ndI n)):List UInt8)=bf++putS (spW zeX) []++zbV (ndI n) from (cat3 _ _ _).symm];(repeat(first|apply zae|apply zab|apply zac|apply zad));refine zai ?_;refine yn 3 hX zaP hsf rfl trivial rfl rfl ⟨hl2,hI'⟩ hI ?_;exact yg ⟨.inl rfl,⟨_,rfl,u8,1,_,rfl,rfl,rfl⟩,zbd (by decide) rfl rfl trivial rfl⟩
 have hb:(ndK n==14)=false:=hb;have hk14:ndK n≠14:=fun e=>by rw[beq_iff_eq.2 e]at hb;cases hb
 rw[if_neg hk14];refine za (za ?_);refine zaa hX zaP rfl ?_ ?_
 ·trivial
 refine zaf rfl (fun hb=>?_) (fun hb=>?_)
 ·have hb:(ndK n==15)=true:=hb;have hk:=beq_iff_eq.1 hb;rw[if_pos hk];refine xz (σ':=⟨[(0,⟨.hptr,((0:Nat),(0:Nat))⟩),(3,⟨.optr nd,⟨2,nd,.here⟩⟩)],(2,some (.box nd n))::wE ty true ((bf++putS (spW zco) []:List UInt8)) r,3⟩) ?_ ?_
  ·cases b
   all_goals
    (repeat(first|apply zae|apply zab|apply zac|apply zad));refine zai ?_;refine yn 1 hX zaP hsf rfl trivial rfl rfl ⟨(by show zg bf+zg (spW zco)+19 * 0≤1000000000;have:zg (spW zco)≤20:=(by decide);omega),(fun x hx=>by cases hx)⟩ hI ?_;exact yg ⟨⟨rfl,rfl,trivial⟩,⟨rfl,rfl,rfl,trivial⟩,rfl,rfl⟩
  have hl2:zg (bf++putS (spW zco) []:List UInt8)+20 * zg (ndI n)+1≤1000000000:=by
   have:=zbH (l:=[]) (fun x hx=>by cases hx);have hw:zg (spW zco)≤20:=by decide
   simp only[putS,zd,zt,zX]at this ⊢;omega
  rw[show (bf++(putS (spW zco) []++zbV (ndI n)):List UInt8)=bf++putS (spW zco) []++zbV (ndI n) from (cat3 _ _ _).symm];(repeat(first|apply zae|apply zab|apply zac|apply zad));refine zai ?_;refine yn 3 hX zaP hsf rfl trivial rfl rfl ⟨hl2,hI'⟩ hI ?_;exact yg ⟨.inl rfl,⟨_,rfl,u8,1,_,rfl,rfl,rfl⟩,zbd (by decide) rfl rfl trivial rfl⟩
 have hb:(ndK n==15)=false:=hb;have hk15:ndK n≠15:=fun e=>by rw[beq_iff_eq.2 e]at hb;cases hb
 rw[if_neg hk15];refine za (za ?_);refine zaa hX zaP rfl ?_ ?_
 ·trivial
 refine zaf rfl (fun hb=>?_) (fun hb=>?_)
 ·have hb:(ndK n==16)=true:=hb;have hk:=beq_iff_eq.1 hb;rw[if_pos hk];obtain⟨hs0,hs1⟩:=hsc hk;refine xz (σ':=⟨[(0,⟨.hptr,((0:Nat),(0:Nat))⟩),(3,⟨.optr nd,⟨2,nd,.here⟩⟩)],(2,some (.box nd n))::wE ty true ((bf++putS (spW wPos) [ndC n]:List UInt8)) r,3⟩) ?_ ?_
  ·cases b
   all_goals
    (repeat(first|apply zae|apply zab|apply zac|apply zad));refine zai ?_;refine yn 4 hX zaP hsf rfl trivial rfl rfl ⟨(by show zg bf+zg (spW wPos)+19 * 1≤1000000000;have:zg (spW wPos)≤20:=(by decide);omega),(ze2 hC)⟩ hI ?_;exact yg ⟨⟨rfl,rfl,trivial⟩,⟨rfl,rfl,rfl,trivial⟩,rfl,rfl⟩
  have hl2:zg (bf++putS (spW wPos) [ndC n]:List UInt8)+zg (zb5 (ndM n))+19 * 0≤1000000000:=by
   have:=zbH (ze2 hC);have hw:zg (spW wPos)≤20:=by decide
   have hs:=zcK (ndM n);simp only[putS,zd,zt,zX]at this ⊢;omega
  refine xz (σ':=⟨[(0,⟨.hptr,((0:Nat),(0:Nat))⟩),(3,⟨.optr nd,⟨2,nd,.here⟩⟩)],(2,some (.box nd n))::wE ty true ((bf++putS (spW wPos) [ndC n]++putS (zb5 (ndM n)) []:List UInt8)) r,3⟩) ?_ ?_
  ·cases b
   all_goals
    (repeat(first|apply zae|apply zab|apply zac|apply zad));refine zai ?_;refine yn 4 hX zaP hsf rfl ⟨hs0,hs1⟩ rfl rfl ⟨hl2,fun x hx=>by cases hx⟩ hI ?_;exact yg ⟨⟨rfl,rfl,trivial⟩,⟨rfl,rfl,rfl,trivial⟩,rfl,rfl⟩
  have hl2b:zg (bf++putS (spW wPos) [ndC n]++putS (zb5 (ndM n)) []:List UInt8)+20 * zg (ndI n)+1≤1000000000:=by
   have:=zbH (ze2 hC);have hw:zg (spW wPos)≤20:=by decide
   have hs:=zcK (ndM n);have h0:zg (zdE [])=0:=rfl;simp only[putS,zd,zt,zX]at this h0 ⊢;omega
  rw[show (bf++(putS (spW wPos) [ndC n]++(putS (zb5 (ndM n)) []++zbV (ndI n))):List UInt8)=bf++putS (spW wPos) [ndC n]++putS (zb5 (ndM n)) []++zbV (ndI n) from (cat4 _ _ _ _).symm];(repeat(first|apply zae|apply zab|apply zac|apply zad));refine zai ?_;refine yn 3 hX zaP hsf rfl trivial rfl rfl ⟨hl2b,hI'⟩ hI ?_;exact yg ⟨.inl rfl,⟨_,rfl,u8,1,_,rfl,rfl,rfl⟩,zbd (by decide) rfl rfl trivial rfl⟩
 have hb:(ndK n==16)=false:=hb;have hk16:ndK n≠16:=fun e=>by rw[beq_iff_eq.2 e]at hb;cases hb
 rw[if_neg hk16];refine za (za ?_);refine zaa hX zaP rfl ?_ ?_
 ·trivial
 refine zaf rfl (fun hb=>?_) (fun hb=>?_)
 ·have hb:(ndK n==17)=true:=hb;have hk:=beq_iff_eq.1 hb;rw[if_pos hk];refine xz (σ':=⟨[(0,⟨.hptr,((0:Nat),(0:Nat))⟩),(3,⟨.optr nd,⟨2,nd,.here⟩⟩)],(2,some (.box nd n))::wE ty true ((bf++putS (spW zbD) [ndN n]:List UInt8)) r,3⟩) ?_ ?_
  ·cases b
   all_goals
    (repeat(first|apply zae|apply zab|apply zac|apply zad));refine zai ?_;refine yn 4 hX zaP hsf rfl trivial rfl rfl ⟨(by show zg bf+zg (spW zbD)+19 * 1≤1000000000;have:zg (spW zbD)≤20:=(by decide);omega),(ze2 hN)⟩ hI ?_;exact yg ⟨⟨rfl,rfl,trivial⟩,⟨rfl,rfl,rfl,trivial⟩,rfl,rfl⟩
  obtain⟨hb0,hb1,hb2⟩:=hbh hk;have hl2:zg (bf++putS (spW zbD) [ndN n]:List UInt8)+zg (spW wOf++ [32]:List UInt8)+19 * 0≤1000000000:=by
   have:=zbH (ze2 hN);have hw:zg (spW zbD)≤20:=by decide
   have hw2:zg (spW wOf++ [32]:List UInt8)≤20:=by decide
   rw[zd];simp only[putS,zd,zt,zX]at this hw2 ⊢;omega
  refine xz (σ':=⟨[(0,⟨.hptr,((0:Nat),(0:Nat))⟩),(3,⟨.optr nd,⟨2,nd,.here⟩⟩)],(2,some (.box nd n))::wE ty true ((bf++putS (spW zbD) [ndN n]++putS (spW wOf++ [32]) []:List UInt8)) r,3⟩) ?_ ?_
  ·cases b
   all_goals
    (repeat(first|apply zae|apply zab|apply zac|apply zad));refine zai ?_;refine yn 1 hX zaP hsf rfl trivial rfl rfl ⟨hl2,fun x hx=>by cases hx⟩ hI ?_;exact yg ⟨⟨rfl,rfl,trivial⟩,⟨rfl,rfl,rfl,trivial⟩,rfl,rfl⟩
  have hl3:zg (bf++putS (spW zbD) [ndN n]++putS (spW wOf++ [32]) []:List UInt8)+zg (opdF k r (ndR n) 5)+10000≤1000000000:=by
   rw[if_neg hk11,if_neg hk12,if_neg hk13,if_neg hk14,if_neg hk15,if_neg hk16,if_pos hk]at hT;rw[zd,zd]at hT ⊢;omega
  rw[show (bf++(putS (spW zbD) [ndN n]++(putS (spW wOf++ [32]) []++opdF k r (ndR n) 5)):List UInt8)=bf++putS (spW zbD) [ndN n]++putS (spW wOf++ [32]) []++opdF k r (ndR n) 5 from (cat4 _ _ _ _).symm];(repeat(first|apply zae|apply zab|apply zac|apply zad));refine zai ?_;refine yn 3 hX zaP hsf rfl trivial rfl rfl ⟨hwf,hb0,hb1,hb2,hl3⟩ hI ?_;exact yg ⟨.inl rfl,⟨_,rfl,u8,1,_,rfl,rfl,rfl⟩,zbd (by decide) rfl rfl trivial rfl⟩
 have hb:(ndK n==17)=false:=hb;have hk17:ndK n≠17:=fun e=>by rw[beq_iff_eq.2 e]at hb;cases hb
 rw[if_neg hk17];exfalso;omega
@[reducible] def zkH (k:Nat):HCtr:=hW [i64] (fun x xs=>[WfP x.2.2.1,0≤xs.1,xs.1.toNat < k,xs.1.toNat < zg x.2.2.1,zg x.2.1+zg (zc0 k x.2.2.1 xs.1)+10000≤1000000000]) fun x xs=>zc0 k x.2.2.1 xs.1
def kOd:Kn:={ gmK with C:=[(98,zsd),(101,cOps)] }
theorem zbS:KnOk Tryz.prog gmH kOd:=zaj.with (.cons zqY <| .cons zgp .nil)
def hOd (k:Nat):List (zP×HCtr):=[(66,cWSP),(60,zkH k)]
theorem zna (k:Nat) (hNd:zaD Tryz.prog gmH 60 (zkH k)):zaD Tryz.prog gmH 99 (cOpd k):=by
 have hod:HsOk Tryz.prog gmH (hOd k):=.cons zic <| .cons hNd .nil;refine zau (K:=_) zbS Tryz.func99 rfl rfl (zcq rfl) Tryz.call99 rfl (zb rfl) (zdG prT [107]) ?_;rintro w0 ⟨G,O,K,fix,D,ρ,B⟩ ty hX hG hK hρ hD hinv ⟨(b:Bool),(bf:List UInt8),(r:List Nd),⟨⟩⟩ ⟨(i:Int),(q:Int),⟨⟩⟩ hp;obtain rfl:G=gmH:=hG;obtain rfl:K=1:=hK;obtain rfl:ρ=none:=hρ;obtain rfl:D=[]:=hD;have hI:=fun w R hR hw=>(⟨zaJ (ty:=ty) hX rfl hinv.1 (ty':=ty) w R hR hw,hinv.2⟩:bInv prT [107] w R ty);obtain⟨hwf,h0,hk,hr,hT⟩:WfP r∧0≤i∧i.toNat < k∧i.toNat < r.length∧bf.length+(opdF k r i q).length+10000≤1000000000:=hp;have hil:i < ((r.length:Nat):Int):=by omega
 change AWP _ _ _ _ _ ⟨[(0,⟨.hptr,((0:Nat),(0:Nat))⟩),(1,⟨i64,i⟩),(2,⟨i64,q⟩)],wE ty b bf r,2⟩ (wQ _ (cOpd k) ty (.ok ((),(true,((bf++opdF k r i q:List UInt8),(r,()))))));unfold opdF at hT ⊢;apply zae;refine xz (σ':=⟨[(0,⟨.hptr,((0:Nat),(0:Nat))⟩),(1,⟨i64,i⟩),(16,⟨.bool,decide (levS (ndK (zav r i))≥q)⟩)],wE ty b bf r,2⟩) ?_ ?_
 ·cases b
  all_goals
   refine zai ?_;refine zN 2 hX zbS rfl trivial ?_;refine AL.step (eqP1 _ _ rfl) hX zbS rfl trivial ?_;refine zT hX zbS rfl ⟨h0,hil⟩ ?_;exact⟨⟨rfl,rfl,rfl,trivial⟩,⟨rfl,rfl,trivial⟩,rfl,rfl⟩
 refine zaf rfl (fun hb=>?_) (fun hb=>?_)
 ·have hb:decide (levS (ndK (zav r i))≥q)=true:=hb;rw[hb]at hT ⊢;have hT:bf.length+(zc0 k r i).length+10000≤1000000000:=hT;show AWP _ _ _ _ _ _ (zjL _ (wQ _ (cOpd k) ty (.ok ((),(true,((bf++zc0 k r i:List UInt8),(r,())))))));cases b
  all_goals
   (repeat(first|apply zae|apply zab|apply zac|apply zad));refine zai ?_;refine yn 2 hX zbS hod rfl trivial rfl rfl ⟨hwf,h0,hk,hr,hT⟩ hI ?_;refine yg ?_;exact zr ⟨.inr rfl,⟨_,rfl,u8,1,_,rfl,rfl,rfl⟩,zbd (by decide) rfl rfl trivial rfl⟩
 ·have hb:decide (levS (ndK (zav r i))≥q)=false:=hb;rw[hb]at hT ⊢;have hT:bf.length+([40]++(zc0 k r i++ [41]):List UInt8).length+10000≤1000000000:=hT;rw[zd,zd]at hT;have hT1:bf.length+zg ([40]:List UInt8)≤1000000000:=by omega
  have hT2:zg (bf++ [40]:List UInt8)+(zc0 k r i).length+10000≤1000000000:=by rw[zd];omega
  have hT3:zg (bf++ [40]++zc0 k r i:List UInt8)+zg ([41]:List UInt8)≤1000000000:=by rw[zd,zd];omega
  apply zab;rw[show (bf++parS false (zc0 k r i):List UInt8)=bf++ [40]++zc0 k r i++ [41] from (cat4 _ _ _ _).symm];refine xz (σ':=⟨[(0,⟨.hptr,((0:Nat),(0:Nat))⟩),(1,⟨i64,i⟩)],wE ty true ((bf++ [40]:List UInt8)) r,2⟩) ?_ ?_
  ·cases b
   all_goals
    refine zai ?_;refine zN 2 hX zbS rfl trivial ?_;refine AL.step (eqP0 _ _ rfl) hX zbS rfl trivial ?_;refine yn 0 hX zbS hod rfl trivial rfl rfl hT1 hI ?_;exact yg ⟨⟨rfl,rfl,trivial⟩,⟨rfl,rfl,trivial⟩,rfl,rfl⟩
  (repeat(first|apply zae|apply zab|apply zac|apply zad));refine zai ?_;refine yn 2 hX zbS hod rfl trivial rfl rfl ⟨hwf,h0,hk,hr,hT2⟩ hI ?_;refine yg ?_;refine zap (σ':=⟨[(0,⟨.hptr,((0:Nat),(0:Nat))⟩)],wE ty true ((bf++ [40]++zc0 k r i:List UInt8)) r,2⟩) ⟨⟨rfl,trivial⟩,⟨rfl,rfl,trivial⟩,rfl,rfl⟩ ?_;refine zai ?_;refine zN 2 hX zbS rfl trivial ?_;refine AL.step (eqP0 _ _ rfl) hX zbS rfl trivial ?_;refine yn 0 hX zbS hod rfl trivial rfl rfl hT3 hI ?_;refine yg ?_;exact⟨.inl rfl,⟨_,rfl,u8,1,_,rfl,rfl,rfl⟩,zbd (by decide) rfl rfl trivial rfl⟩
theorem zs6 {k:Int} (h:levS k < 4):(8≤k∧k≤10)∧1≤levS k:=by
 unfold levS at *;split at h
 ·rename_i e;subst e;decide
 ·split at h
  ·rename_i e;subst e;decide
  ·split at h
   ·rename_i e;subst e;decide
   ·split at h<;>omega
theorem levS_4 {k:Int} (h:levS k=4):11≤k∧k≤17:=by
 unfold levS at h;split at h
 ·omega
 ·split at h
  ·omega
  ·split at h
   ·omega
   ·split at h
    ·assumption
    ·omega
theorem levS_5 {k:Int} (h4:¬ levS k < 4) (h5:levS k≠4):¬ (8≤k∧k≤17):=by
 intro hk;unfold levS at *;split at h4
 ·omega
 ·split at h4
  ·omega
  ·split at h4
   ·omega
   ·split at h4
    ·rename_i a b c d;rw[if_neg a,if_neg b,if_neg c,if_pos d]at h5;exact h5 rfl
    ·omega
def hNo (k:Nat):List (zP×HCtr):=[(99,cOpd k),(100,cPut),(102,zrw k),(103,zpO)]
theorem zsW (k:Nat) (hOp:zaD Tryz.prog gmH 99 (cOpd k)) (hSu:zaD Tryz.prog gmH 102 (zrw k)):zaD Tryz.prog gmH 60 (zkH (k+1)):=by
 have hno:HsOk Tryz.prog gmH (hNo k):=.cons hOp <| .cons zov <| .cons hSu <| .cons zq1 .nil;refine zau (K:=_) zbS Tryz.func60 rfl rfl (zcq rfl) Tryz.call60 rfl (zb rfl) (zdG prT [107]) ?_;rintro w0 ⟨G,O,K,fix,D,ρ,B⟩ ty hX hG hK hρ hD hinv ⟨(b:Bool),(bf:List UInt8),(r:List Nd),⟨⟩⟩ ⟨(i:Int),⟨⟩⟩ hp;obtain rfl:G=gmH:=hG;obtain rfl:K=1:=hK;obtain rfl:ρ=none:=hρ;obtain rfl:D=[]:=hD;have hI:=fun w R hR hw=>(⟨zaJ (ty:=ty) hX rfl hinv.1 (ty':=ty) w R hR hw,hinv.2⟩:bInv prT [107] w R ty);obtain⟨hwf,h0,hk,hr,hT⟩:WfP r∧0≤i∧i.toNat < k+1∧i.toNat < r.length∧bf.length+(zc0 (k+1) r i).length+10000≤1000000000:=hp;have hil:i < ((r.length:Nat):Int):=by omega
 obtain⟨hnum,⟨hk1,hk18⟩,hL,hR⟩:=hwf.2 i.toNat hr;have hi:((i.toNat:Nat):Int)=i:=qu h0;rw[hi]at hnum hk1 hk18 hL hR;change AWP _ _ _ _ _ ⟨[(0,⟨.hptr,((0:Nat),(0:Nat))⟩),(1,⟨i64,i⟩)],wE ty b bf r,2⟩ (wQ _ (zkH (k+1)) ty (.ok ((),(true,((bf++zc0 (k+1) r i:List UInt8),(r,()))))));unfold zc0 at hT ⊢;generalize hn:zav r i=n at *;refine xz (σ':=⟨[(0,⟨.hptr,((0:Nat),(0:Nat))⟩),(4,⟨.optr nd,⟨2,nd,.here⟩⟩)],(2,some (.box nd n))::wE ty b bf r,3⟩) ?_ ?_
 ·subst hn;cases b
  all_goals
   refine zai ?_;refine zN 2 hX zbS rfl trivial ?_;refine AL.step (eqP1 _ _ rfl) hX zbS rfl trivial ?_;refine zT hX zbS rfl ⟨h0,hil⟩ ?_;exact⟨⟨rfl,rfl,trivial⟩,⟨rfl,rfl,rfl,trivial⟩,rfl,rfl⟩
 clear hn;refine xz (σ':=⟨[(0,⟨.hptr,((0:Nat),(0:Nat))⟩),(4,⟨.optr nd,⟨2,nd,.here⟩⟩),(5,⟨i64,levS (ndK n)⟩)],(2,some (.box nd n))::wE ty b bf r,3⟩) ?_ ?_
 ·refine zai ?_;refine zT hX zbS rfl trivial ?_;exact⟨⟨rfl,rfl,rfl,trivial⟩,⟨rfl,rfl,rfl,trivial⟩,rfl,by cases b<;>rfl⟩
 apply zac;refine za (za ?_);refine zaa hX zbS rfl ?_ ?_
 ·trivial
 refine zaf rfl (fun hb=>?_) (fun hb=>?_)
 ·have hb:decide (levS (ndK n) < 4)=true:=hb;have hb:=of_decide_eq_true hb;rw[if_pos hb]at hT ⊢;obtain⟨⟨hk8,hk10⟩,hl1⟩:=zs6 hb;obtain⟨hL0,hL1⟩:=hL hk8 (by omega);obtain⟨hR0,hR1⟩:=hR hk8 (.inl hk10);generalize levS (ndK n)=x at hb hT hl1;change bf.length+(opdF k r (ndL n) x++(putS ([32]++opWd x++ [32]) []++opdF k r (ndR n) (x+1))).length+10000≤1000000000 at hT;have hx3:x=1∨x=2∨x=3:=by omega
  have hw:zg (opWd x)≤5:=by rcases hx3 with rfl|rfl|rfl<;>decide
  have hT0:=hT;rw[zd,zd]at hT;have hLk:(ndL n).toNat < k:=by omega
  have hLr:(ndL n).toNat < r.length:=by omega
  have hRk:(ndR n).toNat < k:=by omega
  have hRr:(ndR n).toNat < r.length:=by omega
  have hTA:bf.length+(opdF k r (ndL n) x).length+10000≤1000000000:=by omega
  have hM0:zg (putS ([32]++opWd x++ [32]) [])=zg ([32]++opWd x++ [32]:List UInt8):=by
   show zg (([32]++opWd x++ [32])++ []:List UInt8)=_;rw[zL]
  have hM1:zg ([32]++opWd x++ [32]:List UInt8)≤7:=by
   rw[zd,zd];show 1+_+1≤7;omega
  have hTM:zg (bf++opdF k r (ndL n) x:List UInt8)+zg ([32]++opWd x++ [32]:List UInt8)+19 * 0≤1000000000:=by rw[zd];omega
  have hTC:zg (bf++opdF k r (ndL n) x++putS ([32]++opWd x++ [32]) []:List UInt8)+(opdF k r (ndR n) (x+1)).length+10000≤1000000000:=by rw[zd,zd];omega
  have q0:inR .i64 (x - 1):=zam (by omega) (by omega);have q1:inR .i64 (x+1):=zam (by omega) (by omega);have q2:(0:Int)≤x - 1:=by omega
  have q3:x - 1 < ((opsL.length:Nat):Int):=by show x - 1 < ((3:Nat):Int);omega
  have q4:1+zg (opWd x)≤maxLen:=by unfold maxLen;omega
  have q5:zg ([32]++opWd x:List UInt8)+1≤maxLen:=by rw[zd];show 1+_+1≤_;unfold maxLen;omega
  change AWP _ _ _ _ _ _ (zkK 0 (wQ _ (zkH (k+1)) ty (.ok ((),(true,((bf++(opdF k r (ndL n) x++(putS ([32]++opWd x++ [32]) []++opdF k r (ndR n) (x+1))):List UInt8),(r,())))))));rw[show (bf++(opdF k r (ndL n) x++(putS ([32]++opWd x++ [32]) []++opdF k r (ndR n) (x+1))):List UInt8)=bf++opdF k r (ndL n) x++putS ([32]++opWd x++ [32]) []++opdF k r (ndR n) (x+1) from (cat4 _ _ _ _).symm];refine xz (σ':=⟨[(0,⟨.hptr,((0:Nat),(0:Nat))⟩),(4,⟨.optr nd,⟨2,nd,.here⟩⟩),(5,⟨i64,x⟩)],(2,some (.box nd n))::wE ty true ((bf++opdF k r (ndL n) x:List UInt8)) r,3⟩) ?_ ?_
  ·cases b
   all_goals
    refine zai ?_;refine yn 4 hX zbS hno rfl trivial rfl rfl ⟨hwf,hL0,hLk,hLr,hTA⟩ hI ?_;exact yg ⟨⟨rfl,rfl,rfl,trivial⟩,⟨rfl,rfl,rfl,trivial⟩,rfl,rfl⟩
  refine xz (σ':=⟨[(0,⟨.hptr,((0:Nat),(0:Nat))⟩),(4,⟨.optr nd,⟨2,nd,.here⟩⟩),(5,⟨i64,x⟩)],(2,some (.box nd n))::wE ty true ((bf++opdF k r (ndL n) x++putS ([32]++opWd x++ [32]) []:List UInt8)) r,3⟩) ?_ ?_
  ·refine zai ?_;refine yn 9 hX zbS hno rfl ⟨q0,q2,q3,q4,q5⟩ rfl rfl ⟨hTM,fun y hy=>by cases hy⟩ hI ?_;exact yg ⟨⟨rfl,rfl,rfl,trivial⟩,⟨rfl,rfl,rfl,trivial⟩,rfl,rfl⟩
  refine zai ?_;refine yn 5 hX zbS hno rfl q1 rfl rfl ⟨hwf,hR0,hRk,hRr,hTC⟩ hI ?_;exact yg ⟨.inl rfl,⟨_,rfl,u8,1,_,rfl,rfl,rfl⟩,zbd (by decide) rfl rfl trivial rfl⟩
 ·have hb:decide (levS (ndK n) < 4)=false:=hb;have hb:=of_decide_eq_false hb;rw[if_neg hb]at hT ⊢;apply zae;refine za (za ?_);refine zaa hX zbS rfl ?_ ?_
  ·trivial
  refine zaf rfl (fun hc=>?_) (fun hc=>?_)
  ·have hc:(levS (ndK n)==4)=true:=hc;have hc:=beq_iff_eq.1 hc;rw[if_pos hc]at hT ⊢;obtain⟨hk11,hk17⟩:=levS_4 hc;obtain⟨hL0,hL1⟩:=hL (by omega) hk17;have hLk:(ndL n).toNat < k:=by omega
   have hLr:(ndL n).toNat < r.length:=by omega
   have hB:ndK n=17->0≤ndR n∧(ndR n).toNat < k∧(ndR n).toNat < r.length:=fun e=>by
    obtain⟨hR0,hR1⟩:=hR (by omega) (.inr e);exact⟨hR0,by omega,by omega⟩
   change bf.length+(opdF k r (ndL n) 4++zbA (opdF k r (ndR n) 5) n).length+10000≤1000000000 at hT;rw[zd]at hT;have hTA:bf.length+(opdF k r (ndL n) 4).length+10000≤1000000000:=by omega
   have hTS:zg (bf++opdF k r (ndL n) 4:List UInt8)+(zbA (opdF k r (ndR n) 5) n).length+10000≤1000000000:=by rw[zd];omega
   change AWP _ _ _ _ _ _ (zkK 0 (wQ _ (zkH (k+1)) ty (.ok ((),(true,((bf++(opdF k r (ndL n) 4++zbA (opdF k r (ndR n) 5) n):List UInt8),(r,())))))));rw[show (bf++(opdF k r (ndL n) 4++zbA (opdF k r (ndR n) 5) n):List UInt8)=bf++opdF k r (ndL n) 4++zbA (opdF k r (ndR n) 5) n from (cat3 _ _ _).symm];refine xz (σ':=⟨[(0,⟨.hptr,((0:Nat),(0:Nat))⟩),(4,⟨.optr nd,⟨2,nd,.here⟩⟩)],(2,some (.box nd n))::wE ty true ((bf++opdF k r (ndL n) 4:List UInt8)) r,3⟩) ?_ ?_
   ·cases b
    all_goals
     refine zai ?_;refine yn 3 hX zbS hno rfl trivial rfl rfl ⟨hwf,hL0,hLk,hLr,hTA⟩ hI ?_;exact yg ⟨⟨rfl,rfl,trivial⟩,⟨rfl,rfl,rfl,trivial⟩,rfl,rfl⟩
   refine zai ?_;refine yn 2 hX zbS hno rfl trivial rfl rfl ⟨hwf,hnum,hk11,hk17,hB,hTS⟩ hI ?_;exact yg ⟨.inl rfl,⟨_,rfl,u8,1,_,rfl,rfl,rfl⟩,zbd (by decide) rfl rfl trivial rfl⟩
  ·have hc:(levS (ndK n)==4)=false:=hc;have hc:levS (ndK n)≠4:=fun e=>by rw[beq_iff_eq.2 e]at hc;cases hc
   rw[if_neg hc]at hT ⊢;have h5:=levS_5 hb hc;have hkl:ndK n≤7∨ndK n=18:=by omega
   have hT:bf.length+(zcc n).length+10000≤1000000000:=hT;have hT1:bf.length+10000≤1000000000:=by omega
   cases b
   all_goals
    refine zai ?_;refine yn 2 hX zbS hno rfl trivial rfl rfl ⟨hT1,hnum,hk1,hkl⟩ hI ?_;exact yg ⟨.inl rfl,⟨_,rfl,u8,1,_,rfl,rfl,rfl⟩,zbd (by decide) rfl rfl trivial rfl⟩
theorem zrP:∀ k,zaD Tryz.prog gmH 60 (zkH k)∧zaD Tryz.prog gmH 99 (cOpd k)
 |0=>⟨zek (zcq rfl) Tryz.call60 fun x xs h=>absurd h.2.2.1 (y8 _),zek (zcq rfl) Tryz.call99 fun x xs h=>absurd h.2.2.1 (y8 _)⟩
 |k+1=>by
  obtain⟨h1,h2⟩:=zrP k;have h3:=zsW k h2 (zmL k h2);exact⟨h3,zna (k+1) h3⟩
set_option maxRecDepth 10000
theorem zlV {n:Nd} (h:zbc n=true):zkN n:=by
 obtain⟨⟨k1,k2⟩,hl,_⟩:=zaE h;have hs:=zmn h;have key:(zb4 (ndC n)∧zb4 (ndN n)∧zb4 (ndM n))∧(∀ x∈ndI n,zb4 x)∧(ndK n=7->0≤ndL n∧ndL n≤1)∧(ndK n=16->0≤ndM n∧ndM n≤1):=by
  rcases (show ndK n=1∨ndK n=2∨ndK n=3∨ndK n=4∨ndK n=5∨ndK n=6∨ndK n=7∨ndK n=8∨ndK n=9∨ndK n=10∨ndK n=11∨ndK n=12∨ndK n=13∨ndK n=14∨ndK n=15∨ndK n=16∨ndK n=17∨ndK n=18 by omega) with k|k|k|k|k|k|k|k|k|k|k|k|k|k|k|k|k|k
  ·obtain⟨e,b1,b2⟩:=fld1 h k;have eC:=congrArg ndC e;have eN:=congrArg ndN e;have eM:=congrArg ndM e;have eI:=congrArg ndI e;have eC:ndC n=0:=eC;have eN:ndN n=ndN n:=eN;have eM:ndM n=ndM n:=eM;have eI:ndI n=[]:=eI;refine⟨⟨⟨by omega,by omega⟩,⟨by omega,by omega⟩,⟨by omega,by omega⟩⟩,?_,fun e=>by omega,fun e=>by omega⟩;rw[eI];exact fun x hx=>by cases hx
  ·obtain⟨e,bc,b1,b2⟩:=fld2 h k;have eC:=congrArg ndC e;have eN:=congrArg ndN e;have eM:=congrArg ndM e;have eI:=congrArg ndI e;have eC:ndC n=ndC n:=eC;have eN:ndN n=ndN n:=eN;have eM:ndM n=ndM n:=eM;have eI:ndI n=[]:=eI;refine⟨⟨⟨by omega,by omega⟩,⟨by omega,by omega⟩,⟨by omega,by omega⟩⟩,?_,fun e=>by omega,fun e=>by omega⟩;rw[eI];exact fun x hx=>by cases hx
  ·obtain⟨e,bc,⟨l1,l2,l3⟩⟩:=fld3 h k;have eC:=congrArg ndC e;have eN:=congrArg ndN e;have eM:=congrArg ndM e;have eI:=congrArg ndI e;have eC:ndC n=ndC n:=eC;have eN:ndN n=0:=eN;have eM:ndM n=0:=eM;have eI:ndI n=ndI n:=eI;refine⟨⟨⟨by omega,by omega⟩,⟨by omega,by omega⟩,⟨by omega,by omega⟩⟩,?_,fun e=>by omega,fun e=>by omega⟩;exact fun x hx=>by have:=zcp (by decide) (by decide) l3 x hx;exact⟨by have:=this.1;omega,by have:=this.2;omega⟩
  ·obtain⟨e,bc,⟨l1,l2,l3⟩⟩:=fld4 h k;have eC:=congrArg ndC e;have eN:=congrArg ndN e;have eM:=congrArg ndM e;have eI:=congrArg ndI e;have eC:ndC n=ndC n:=eC;have eN:ndN n=0:=eN;have eM:ndM n=0:=eM;have eI:ndI n=ndI n:=eI;refine⟨⟨⟨by omega,by omega⟩,⟨by omega,by omega⟩,⟨by omega,by omega⟩⟩,?_,fun e=>by omega,fun e=>by omega⟩;exact fun x hx=>by have:=zcp (by decide) (by decide) l3 x hx;exact⟨by have:=this.1;omega,by have:=this.2;omega⟩
  ·obtain⟨e,⟨l1,l2,l3⟩⟩:=fld5 h k;have eC:=congrArg ndC e;have eN:=congrArg ndN e;have eM:=congrArg ndM e;have eI:=congrArg ndI e;have eC:ndC n=0:=eC;have eN:ndN n=0:=eN;have eM:ndM n=0:=eM;have eI:ndI n=ndI n:=eI;refine⟨⟨⟨by omega,by omega⟩,⟨by omega,by omega⟩,⟨by omega,by omega⟩⟩,?_,fun e=>by omega,fun e=>by omega⟩;exact fun x hx=>by have:=zcp (by decide) (by decide) l3 x hx;exact⟨by have:=this.1;omega,by have:=this.2;omega⟩
  ·obtain⟨e,bc,⟨l1,l2,l3⟩⟩:=fld6 h k;have eC:=congrArg ndC e;have eN:=congrArg ndN e;have eM:=congrArg ndM e;have eI:=congrArg ndI e;have eC:ndC n=ndC n:=eC;have eN:ndN n=0:=eN;have eM:ndM n=0:=eM;have eI:ndI n=ndI n:=eI;refine⟨⟨⟨by omega,by omega⟩,⟨by omega,by omega⟩,⟨by omega,by omega⟩⟩,?_,fun e=>by omega,fun e=>by omega⟩;exact fun x hx=>by have:=zcp (by decide) (by decide) l3 x hx;exact⟨by have:=this.1;omega,by have:=this.2;omega⟩
  ·obtain⟨e,bc,b1,bz,b2,b3⟩:=fld7 h k;have eC:=congrArg ndC e;have eN:=congrArg ndN e;have eM:=congrArg ndM e;have eI:=congrArg ndI e;have eC:ndC n=ndC n:=eC;have eN:ndN n=ndN n:=eN;have eM:ndM n=ndM n:=eM;have eI:ndI n=[]:=eI;refine⟨⟨⟨by omega,by omega⟩,⟨by omega,by omega⟩,⟨by omega,by omega⟩⟩,?_,fun e=>by omega,fun e=>by omega⟩;rw[eI];exact fun x hx=>by cases hx
  ·have e:=fld8 h k;have eC:=congrArg ndC e;have eN:=congrArg ndN e;have eM:=congrArg ndM e;have eI:=congrArg ndI e;have eC:ndC n=0:=eC;have eN:ndN n=0:=eN;have eM:ndM n=0:=eM;have eI:ndI n=[]:=eI;refine⟨⟨⟨by omega,by omega⟩,⟨by omega,by omega⟩,⟨by omega,by omega⟩⟩,?_,fun e=>by omega,fun e=>by omega⟩;rw[eI];exact fun x hx=>by cases hx
  ·have e:=fld9 h k;have eC:=congrArg ndC e;have eN:=congrArg ndN e;have eM:=congrArg ndM e;have eI:=congrArg ndI e;have eC:ndC n=0:=eC;have eN:ndN n=0:=eN;have eM:ndM n=0:=eM;have eI:ndI n=[]:=eI;refine⟨⟨⟨by omega,by omega⟩,⟨by omega,by omega⟩,⟨by omega,by omega⟩⟩,?_,fun e=>by omega,fun e=>by omega⟩;rw[eI];exact fun x hx=>by cases hx
  ·have e:=fld10 h k;have eC:=congrArg ndC e;have eN:=congrArg ndN e;have eM:=congrArg ndM e;have eI:=congrArg ndI e;have eC:ndC n=0:=eC;have eN:ndN n=0:=eN;have eM:ndM n=0:=eM;have eI:ndI n=[]:=eI;refine⟨⟨⟨by omega,by omega⟩,⟨by omega,by omega⟩,⟨by omega,by omega⟩⟩,?_,fun e=>by omega,fun e=>by omega⟩;rw[eI];exact fun x hx=>by cases hx
  ·obtain⟨e,b1⟩:=ztB h k;have eC:=congrArg ndC e;have eN:=congrArg ndN e;have eM:=congrArg ndM e;have eI:=congrArg ndI e;have eC:ndC n=0:=eC;have eN:ndN n=ndN n:=eN;have eM:ndM n=0:=eM;have eI:ndI n=[]:=eI;refine⟨⟨⟨by omega,by omega⟩,⟨by omega,by omega⟩,⟨by omega,by omega⟩⟩,?_,fun e=>by omega,fun e=>by omega⟩;rw[eI];exact fun x hx=>by cases hx
  ·obtain⟨e,b1⟩:=ztA h k;have eC:=congrArg ndC e;have eN:=congrArg ndN e;have eM:=congrArg ndM e;have eI:=congrArg ndI e;have eC:ndC n=0:=eC;have eN:ndN n=ndN n:=eN;have eM:ndM n=0:=eM;have eI:ndI n=[]:=eI;refine⟨⟨⟨by omega,by omega⟩,⟨by omega,by omega⟩,⟨by omega,by omega⟩⟩,?_,fun e=>by omega,fun e=>by omega⟩;rw[eI];exact fun x hx=>by cases hx
  ·obtain⟨e,b1⟩:=ztz h k;have eC:=congrArg ndC e;have eN:=congrArg ndN e;have eM:=congrArg ndM e;have eI:=congrArg ndI e;have eC:ndC n=0:=eC;have eN:ndN n=ndN n:=eN;have eM:ndM n=0:=eM;have eI:ndI n=[]:=eI;refine⟨⟨⟨by omega,by omega⟩,⟨by omega,by omega⟩,⟨by omega,by omega⟩⟩,?_,fun e=>by omega,fun e=>by omega⟩;rw[eI];exact fun x hx=>by cases hx
  ·obtain⟨e,⟨l1,l2,l3⟩⟩:=zty h k;have eC:=congrArg ndC e;have eN:=congrArg ndN e;have eM:=congrArg ndM e;have eI:=congrArg ndI e;have eC:ndC n=0:=eC;have eN:ndN n=0:=eN;have eM:ndM n=0:=eM;have eI:ndI n=ndI n:=eI;refine⟨⟨⟨by omega,by omega⟩,⟨by omega,by omega⟩,⟨by omega,by omega⟩⟩,?_,fun e=>by omega,fun e=>by omega⟩;exact fun x hx=>by have:=zcp (by decide) (by decide) l3 x hx;exact⟨by have:=this.1;omega,by have:=this.2;omega⟩
  ·obtain⟨e,⟨l1,l2,l3⟩⟩:=ztx h k;have eC:=congrArg ndC e;have eN:=congrArg ndN e;have eM:=congrArg ndM e;have eI:=congrArg ndI e;have eC:ndC n=0:=eC;have eN:ndN n=0:=eN;have eM:ndM n=0:=eM;have eI:ndI n=ndI n:=eI;refine⟨⟨⟨by omega,by omega⟩,⟨by omega,by omega⟩,⟨by omega,by omega⟩⟩,?_,fun e=>by omega,fun e=>by omega⟩;exact fun x hx=>by have:=zcp (by decide) (by decide) l3 x hx;exact⟨by have:=this.1;omega,by have:=this.2;omega⟩
  ·obtain⟨e,bc,⟨l1,l2,l3⟩,b1⟩:=ztw h k;have eC:=congrArg ndC e;have eN:=congrArg ndN e;have eM:=congrArg ndM e;have eI:=congrArg ndI e;have eC:ndC n=ndC n:=eC;have eN:ndN n=0:=eN;have eM:ndM n=ndM n:=eM;have eI:ndI n=ndI n:=eI;refine⟨⟨⟨by omega,by omega⟩,⟨by omega,by omega⟩,⟨by omega,by omega⟩⟩,?_,fun e=>by omega,fun e=>by omega⟩;exact fun x hx=>by have:=zcp (by decide) (by decide) l3 x hx;exact⟨by have:=this.1;omega,by have:=this.2;omega⟩
  ·obtain⟨e,b1⟩:=ztv h k;have eC:=congrArg ndC e;have eN:=congrArg ndN e;have eM:=congrArg ndM e;have eI:=congrArg ndI e;have eC:ndC n=0:=eC;have eN:ndN n=ndN n:=eN;have eM:ndM n=0:=eM;have eI:ndI n=[]:=eI;refine⟨⟨⟨by omega,by omega⟩,⟨by omega,by omega⟩,⟨by omega,by omega⟩⟩,?_,fun e=>by omega,fun e=>by omega⟩;rw[eI];exact fun x hx=>by cases hx
  ·obtain⟨e,bn⟩:=ztu h k;have eC:=congrArg ndC e;have eN:=congrArg ndN e;have eM:=congrArg ndM e;have eI:=congrArg ndI e;have eC:ndC n=0:=eC;have eN:ndN n=0:=eN;have eM:ndM n=0:=eM;have eI:ndI n=[]:=eI;refine⟨⟨⟨by omega,by omega⟩,⟨by omega,by omega⟩,⟨by omega,by omega⟩⟩,?_,fun e=>by omega,fun e=>by omega⟩;rw[eI];exact fun x hx=>by cases hx
 exact⟨key.1,key.2.1,by omega,by omega,key.2.2⟩
theorem wfp_of {r:List Nd} (h:wfS r=true):WfP r:=by
 obtain⟨⟨h1,h2⟩,h3,h4⟩:=zdw h;refine⟨by omega,fun j hj=>?_⟩;obtain⟨f1,f2⟩:=zcx h3 hj;obtain⟨l1,l2⟩:=zl0 h3 j hj;exact⟨zlV f1,(zaE f1).1,l1,l2⟩
theorem zcS (c:Bool) (t:List UInt8):(parS c t).length≤t.length+2:=by
 cases c with
 |true=>show t.length≤_;omega
 |false=>show ([40]++(t++ [41]):List UInt8).length≤_;simp
theorem zq0 {n:Nd} (h:zkN n):(zcc n).length≤2100:=by
 obtain⟨⟨hC,hN,hM⟩,hI,hl,hs,_⟩:=h;have l1:∀ w:List UInt8,w.length≤10->∀ l:List Int,l.length≤3->(∀ x∈l,zb4 x)->(putS w l).length≤67:=fun w hw l hl hx=>by
  have:=zbH hx;unfold putS;rw[zd];omega
 have l2:(zbV (ndI n)).length≤2001:=by
  have:=zft (ndI n) 0 hI;unfold zbV;rw[zd,zF];omega
 have p0:∀ x∈([]:List Int),zb4 x:=fun x hx=>by cases hx
 have p1:∀ x∈ [ndC n],zb4 x:=fun x hx=>by rw[zw.1 hx];exact hC
 have p2:∀ x∈ [ndN n,ndM n],zb4 x:=fun x hx=>by
  rcases yd.1 hx with rfl|hx
  ·exact hN
  ·rw[zw.1 hx];exact hM
 have p3:∀ x∈ [ndC n,ndN n,ndM n],zb4 x:=fun x hx=>by
  rcases yd.1 hx with rfl|hx
  ·exact hC
  ·exact p2 x hx
 unfold zcc;split
 ·exact zH (l1 _ (by decide) _ (by simp) p2) (by decide)
 split
 ·exact zH (l1 _ (by decide) _ (by simp) p3) (by decide)
 split
 ·rw[zd];have:=l1 zcn (by decide) _ (by simp) p1;omega
 split
 ·rw[zd];have:=l1 za3 (by decide) _ (by simp) p1;omega
 split
 ·rw[zd];have:=l1 zbj (by decide) _ (by simp) p0;omega
 split
 ·rw[zd];have:=l1 zdh (by decide) _ (by simp) p1;omega
 split
 ·rw[zd];have:=l1 wNth (by decide) _ (by simp) p3;have:=l1 (zb5 (ndL n)) (zcK _) [] (by decide) p0;omega
 split
 ·show (64::ndS n++ []).length≤_;rw[zL,zt];omega
 ·exact zk _
theorem znM {n:Nd} (b:List UInt8) (h:zkN n):(zbA b n).length≤2200+b.length:=by
 obtain⟨⟨hC,hN,hM⟩,hI,hl,hs,_⟩:=h;have l1:∀ w:List UInt8,w.length≤10->∀ l:List Int,l.length≤3->(∀ x∈l,zb4 x)->(putS w l).length≤67:=fun w hw l hl hx=>by
  have:=zbH hx;unfold putS;rw[zd];omega
 have l2:(zbV (ndI n)).length≤2001:=by
  have:=zft (ndI n) 0 hI;unfold zbV;rw[zd,zF];omega
 have p0:∀ x∈([]:List Int),zb4 x:=fun x hx=>by cases hx
 have p1:∀ x∈ [ndC n],zb4 x:=fun x hx=>by rw[zw.1 hx];exact hC
 have p2:∀ x∈ [ndN n],zb4 x:=fun x hx=>by rw[zw.1 hx];exact hN
 unfold zbA;split
 ·have:=l1 (spW zeP) (by decide) _ (by simp) p2;omega
 split
 ·have:=l1 (spW zhU) (by decide) _ (by simp) p2;omega
 split
 ·have:=l1 (spW zeO) (by decide) _ (by simp) p2;omega
 split
 ·rw[zd];have:=l1 (spW zeX) (by decide) _ (by simp) p0;omega
 split
 ·rw[zd];have:=l1 (spW zco) (by decide) _ (by simp) p0;omega
 split
 ·rw[zd,zd];have:=l1 (spW wPos) (by decide) _ (by simp) p1;have:=l1 (zb5 (ndM n)) (zcK _) [] (by decide) p0;omega
 split
 ·rw[zd,zd];have:=l1 (spW zbD) (by decide) _ (by simp) p2;have:=l1 (spW wOf++ [32]) (by decide) [] (by decide) p0;omega
 ·exact zk _
theorem zgD:∀ t:Tr,TrOk t->t.text.length≤3000 * t.size
 | .leaf n,h=>by
  have:=zq0 (zlV h.1);show (zcc n).length≤3000 * 1;omega
 | .un n a,h=>by
  have h1:=znM [] (zlV h.1);have h2:=zgD a h.2.2.2;have h3:=zcS (decide (a.lev≥4)) a.text;show (parS _ a.text++zbA [] n).length≤3000 * (a.size+1);rw[zd];rw[zX]at h1;omega
 | .bin n a b,h=>by
  have h1:=zgD a h.2.2.2.1;have h2:=zgD b h.2.2.2.2;show _≤3000 * (a.size+b.size+1);rw[ziM];split
  ·have h3:=zcS (decide (a.lev≥4)) a.text;have h4:=zcS (decide (b.lev≥5)) b.text;have h5:=znM (parS (decide (b.lev≥5)) b.text) (zlV h.1);rw[zd];omega
  ·have h3:=zcS (decide (a.lev≥levS (ndK n))) a.text;have h4:=zcS (decide (b.lev≥levS (ndK n)+1)) b.text;have h5:(putS ([32]++opWd (levS (ndK n))++ [32]) []).length≤20:=by
    have h6:=zfZ (ndK n);show (([32]++opWd (levS (ndK n))++ [32])++ []:List UInt8).length≤20;rcases (show levS (ndK n)=1∨levS (ndK n)=2∨levS (ndK n)=3∨levS (ndK n)=4∨levS (ndK n)=5 by omega) with e|e|e|e|e<;>rw[e]<;>decide
   rw[zd,zd];omega
theorem zsy {t:Tr} (h:TrOk t) (hs:t.size≤64):t.text≠ []:=fun e=>by
 have h1:=zm6 h hs;rw[e]at h1;have h2:(match zeo [] with | .ok _=>true| .error _=>false)=false:=by kernel_rfl
 rw[h1]at h2;cases h2
abbrev Cal:=Int×List Int×Int×List Lr×Unit
def zkE (c:Cal):Prop:=(0≤c.1∧c.1≤1048576)∧(1≤c.2.1.length∧c.2.1.length≤16)∧(-1≤c.2.2.1∧c.2.2.1 < (c.2.1.length:Int))∧c.2.2.2.1.length≤16∧(c.2.2.1= -1->c.2.2.2.1=[])∧(∀ m∈c.2.1,1≤m∧m≤40)∧(perS 1 c.2.2.2.1).2=true
def cCalV:Ctr:={ args:=[cal],pre:=fun x=>[zkE x.1],res:=.bool,own:=none,out:=fun _=>true }
def kCv:Kn:={ gmK with C:=[(125,cPer)] }
theorem zdn:KnOk Tryz.prog gmH kCv:=zaj.with (.cons zoA .nil)
theorem zqd {a b:Bool} (ha:a=false) (hb:b=false):(bif a then true else b)=false:=by rw[ha,hb];rfl
theorem ztP:yK Tryz.prog gmH 73 cCalV:=by
 refine zaq (K:=kCv) zdn Tryz.func73 rfl rfl Tryz.call73 rfl (by decide) (by intro h;cases h) ?_;rintro w0 X hX ⟨(c:Cal),_⟩ hp;obtain⟨(ep:Int),(ms:List Int),(lp:Int),(rs:List Lr),⟨⟩⟩:=c;obtain⟨⟨e0,e1⟩,⟨n0,n1⟩,⟨l0,l1⟩,r0,lr,hm,hper⟩:zkE (ep,ms,lp,rs,()):=hp;have e0:0≤ep:=e0;have e1:ep≤1048576:=e1;have n0:1≤ms.length:=n0;have n1:ms.length≤16:=n1;have l0: -1≤lp:=l0;have l1:lp < (ms.length:Int):=l1;have r0:rs.length≤16:=r0;have lr:lp= -1->rs=[]:=lr;have hm:∀ m∈ms,1≤m∧m≤40:=hm;have hper:(perS 1 rs).2=true:=hper;change AWP _ _ _ _ _ ⟨[(0,⟨cal,(ep,ms,lp,rs,())⟩)],[],0⟩ _;refine za (za ?_);refine zaa hX zdn rfl ?_ ?_
 ·trivial
 refine za (za ?_);refine zaa hX zdn rfl ?_ ?_
 ·trivial
 refine zap (σ':=⟨[(1,⟨.optr cal,⟨0,cal,.here⟩⟩),(3,⟨i64,((ms.length:Nat):Int)⟩)],[(0,some (.box cal (ep,ms,lp,rs,())))],1⟩) ⟨⟨rfl,rfl,trivial⟩,⟨rfl,trivial⟩,rfl,rfl⟩ ?_;refine za (za ?_);refine zaa hX zdn rfl ?_ ?_
 ·repeat'(first|exact trivial|assumption|(refine⟨?_,?_⟩)|(intro _)|exact zb rfl|exact zi _|(simp_all [allP];done))
 refine zaf rfl (fun hc=>?_) (fun _=>?_)
 ·have hc:(bif decide (ep < 0) then true else decide (ep > 1048576))=true:=hc;rw[zqd (decide_eq_false (by omega)) (decide_eq_false (by omega))]at hc;cases hc
 refine za (za ?_);refine zaa hX zdn rfl ?_ ?_
 ·repeat'(first|exact trivial|assumption|(refine⟨?_,?_⟩)|(intro _)|exact zb rfl|exact zi _|(simp_all [allP];done))
 refine zaf rfl (fun hc=>?_) (fun _=>?_)
 ·have hc:(bif decide (((ms.length:Nat):Int) < 1) then true else decide (((ms.length:Nat):Int) > 16))=true:=hc;rw[zqd (decide_eq_false (by omega)) (decide_eq_false (by omega))]at hc;cases hc
 refine za (za ?_);refine zaa hX zdn rfl ?_ ?_
 ·repeat'(first|exact trivial|assumption|(refine⟨?_,?_⟩)|(intro _)|exact zb rfl|exact zi _|(simp_all [allP];done))
 refine zaf rfl (fun hc=>?_) (fun _=>?_)
 ·have hc:(bif decide (lp < -1) then true else decide (lp≥((ms.length:Nat):Int)))=true:=hc;rw[zqd (decide_eq_false (by omega)) (decide_eq_false (by omega))]at hc;cases hc
 refine za (za ?_);refine zaa hX zdn rfl ?_ ?_
 ·repeat'(first|exact trivial|assumption|(refine⟨?_,?_⟩)|(intro _)|exact zb rfl|exact zi _|(simp_all [allP];done))
 refine zaf rfl (fun hc=>?_) (fun _=>?_)
 ·have hc:decide (((rs.length:Nat):Int) > 16)=true:=hc;have:=of_decide_eq_true hc;omega
 refine za (za ?_);refine zaa hX zdn rfl ?_ ?_
 ·repeat'(first|exact trivial|assumption|(refine⟨?_,?_⟩)|(intro _)|exact zb rfl|exact zi _|(simp_all [allP];done))
 refine zaf rfl (fun hc=>?_) (fun _=>?_)
 ·have hc:(bif (lp== -1) then decide (((rs.length:Nat):Int) > 0) else false)=true:=hc;cases hq:(lp== -1) with
  |false=>rw[hq]at hc;cases hc
  |true=>
   rw[hq]at hc;have:=of_decide_eq_true hc;rw[lr (beq_iff_eq.1 hq)]at this;exact absurd this (by decide)
 apply zab;refine zap (σ':=⟨[(1,⟨.optr cal,⟨0,cal,.here⟩⟩)],[(0,some (.box cal (ep,ms,lp,rs,())))],1⟩) ⟨⟨rfl,trivial⟩,⟨rfl,trivial⟩,rfl,rfl⟩ ?_;refine za (za ?_);refine zaa hX zdn rfl ?_ ?_
 ·trivial
 (repeat(first|apply zae|apply zab|apply zac|apply zad));refine yR (ι:=Nat) (fun k=>⟨[(1,⟨.optr cal,⟨0,cal,.here⟩⟩),(50,⟨ints,ms⟩),(51,⟨i64,((ms.length:Nat):Int)⟩),(52,⟨i64,(k:Int)⟩)],[(0,some (.box cal (ep,ms,lp,rs,())))],1⟩) (fun k=>k≤ms.length) (fun k=>ms.length - k) 0 (zk _) ⟨⟨rfl,rfl,rfl,rfl,trivial⟩,⟨rfl,trivial⟩,rfl,rfl⟩ ?_;intro k hk;refine za (za ?_);refine zaa hX zdn rfl ?_ ?_
 ·trivial
 apply zae;refine zaf rfl (fun hb=>?_) (fun hb=>?_)
 ·have hb:decide ((k:Int) < (ms.length:Nat))=true:=hb;have hb:=of_decide_eq_true hb;have hlt:k < ms.length:=by omega
  have z0:(0:Int)≤(k:Int):=by omega
  have hgd:ms.getD (k:Int).toNat (0:Int)=ms[k]:=za6 hlt;obtain⟨g0,g1⟩:=hm ms[k] (xS hlt);rw[<-hgd]at g0 g1;refine za (za ?_);refine zaa hX zdn rfl ?_ ?_
  ·exact⟨z0,hb⟩
  refine za (za ?_);refine zaa hX zdn rfl ?_ ?_
  ·repeat'(first|exact trivial|assumption|(refine⟨?_,?_⟩)|(intro _)|exact zb rfl|exact zi _|(simp_all [allP];done))
  refine zaf rfl (fun hc=>?_) (fun _=>?_)
  ·have hc:(bif decide (ms.getD (k:Int).toNat (0:Int) < 1) then true else decide (ms.getD (k:Int).toNat (0:Int) > 40))=true:=hc;rw[zqd (decide_eq_false (by omega)) (decide_eq_false (by omega))]at hc;cases hc
  apply zab;refine za (za ?_);refine zaa hX zdn rfl ?_ ?_
  ·exact za0 (by omega)
  exact⟨k+1,hlt,by omega,⟨rfl,rfl,rfl,zdT _,trivial⟩,⟨rfl,trivial⟩,rfl,rfl⟩
 ·apply zad;refine za (za ?_);refine zaa hX zdn rfl ?_ ?_
  ·trivial
  refine za (za ?_);refine zaa hX zdn rfl ?_ ?_
  ·trivial
  refine zr ⟨.inr rfl,zaw rfl trivial rfl rfl ?_⟩;exact hper
def ztQ:Ctr:={ args:=[.slice nd,.slice cal],pre:=fun x=>[zg x.2.1=3,∀ c∈(x.2.1:List Cal),zkE c],res:=i64,own:=none,out:=fun x=>zcT x.1 }
def zCal:Cal:=(0,[],0,[],())
def kVr:Kn:={ gmK with C:=[(71,cAnyR),(72,cWf),(73,cCalV),(74,zhJ)] }
theorem zbR:KnOk Tryz.prog gmH kVr:=zaj.with (.cons zt7 <| .cons wf_ok <| .cons ztP <| .cons zjR .nil)
set_option maxHeartbeats 1000000 in
theorem zsl:yK Tryz.prog gmH 34 ztQ:=by
 refine zaq (K:=kVr) zbR Tryz.func34 rfl rfl Tryz.call34 rfl (by decide) (by intro h;cases h) ?_;rintro w0 X hX ⟨(r:List Nd),(cs:List Cal),_⟩ hp;obtain⟨hc3,hcs⟩:cs.length=3∧∀ c∈cs,zkE c:=by
  simp only[ztQ,allP]at hp
  simpa using hp
 change AWP _ _ _ _ _ ⟨[(0,⟨.slice nd,r⟩),(1,⟨.slice cal,cs⟩)],[],0⟩ _;refine za (za ?_);refine zaa hX zbR rfl ?_ ?_
 ·trivial
 refine za (za ?_);refine zaa hX zbR rfl ?_ ?_
 ·trivial
 refine za (za ?_);refine zaa hX zbR rfl ?_ ?_
 ·repeat'(first|exact trivial|assumption|exact rfl|(refine⟨?_,?_⟩)|(intro _)|exact zb rfl|exact zi _|(simp_all [allP];done))
 have hbig:(bif decide (((r.length:Nat):Int) > 64) then true else r.any bigN)=decide (64 < r.length∨r.any bigN=true):=by
  rw[b_or,Bool.eq_iff_iff,yl,decide_eq_true_iff,decide_eq_true_iff];constructor
  ·rintro (h|h)
   ·exact .inl (by omega)
   ·exact .inr h
  ·rintro (h|h)
   ·exact .inl (by omega)
   ·exact .inr h
 refine zaf rfl (fun hb=>?_) (fun hb=>?_)
 ·have hb:=hbig.symm.trans hb;have hb:=of_decide_eq_true hb;(repeat(first|apply zae|apply zab|apply zal|apply zad|apply zac|refine zaa hX zbR rfl trivial ?_|refine zaa hX zbR rfl id ?_|refine zaa hX zbR rfl ⟨id,id⟩ ?_));refine zr ⟨.inr rfl,zaw rfl trivial rfl rfl ?_⟩;show (2:Int)=zcT r;unfold zcT;rw[if_pos hb]
 have hb:=hbig.symm.trans hb;have hnb:=of_decide_eq_false hb;apply zab;refine za (za ?_);refine zaa hX zbR rfl ?_ ?_
 ·repeat'(first|exact trivial|assumption|(refine⟨?_,?_⟩)|(intro _)|exact zb rfl|exact zi _|(simp_all [allP];done))
 have hwt:(bif !wfS r then true else decide (((cs.length:Nat):Int) > 3))= !wfS r:=by
  rw[hc3];cases wfS r<;>rfl
 refine zaf rfl (fun hb=>?_) (fun hb=>?_)
 ·have hb:=hwt.symm.trans hb;rw[zB]at hb;(repeat(first|apply zae|apply zab|apply zal|apply zad|apply zac|refine zaa hX zbR rfl trivial ?_|refine zaa hX zbR rfl id ?_|refine zaa hX zbR rfl ⟨id,id⟩ ?_));refine zr ⟨.inr rfl,zaw rfl trivial rfl rfl ?_⟩;show (1:Int)=zcT r;unfold zcT;rw[if_neg hnb,if_neg (by rw[hb];decide)]
 have hb:=hwt.symm.trans hb;rw[xj]at hb;have hv:zcT r=0:=by unfold zcT;rw[if_neg hnb,if_pos hb]
 obtain⟨⟨w1,w2⟩,w3,_⟩:=zdw hb;apply zab;refine za (za ?_);refine zaa hX zbR rfl ?_ ?_
 ·trivial
 (repeat(first|apply zae|apply zab|apply zac|apply zad));refine zap (σ':=⟨[(0,⟨.slice nd,r⟩),(1,⟨.slice cal,cs⟩),(27,⟨.slice cal,cs⟩),(28,⟨i64,((cs.length:Nat):Int)⟩),(29,⟨i64,(0:Int)⟩)],[],0⟩) ⟨⟨rfl,rfl,rfl,rfl,rfl,trivial⟩,trivial,rfl,rfl⟩ ?_;refine yR (ι:=Nat) (fun k=>⟨[(0,⟨.slice nd,r⟩),(1,⟨.slice cal,cs⟩),(27,⟨.slice cal,cs⟩),(28,⟨i64,((cs.length:Nat):Int)⟩),(29,⟨i64,(k:Int)⟩)],[],0⟩) (fun k=>k≤cs.length) (fun k=>cs.length - k) 0 (zk _) ⟨⟨rfl,rfl,rfl,rfl,rfl,trivial⟩,trivial,rfl,rfl⟩ ?_;intro k hk;refine za (za ?_);refine zaa hX zbR rfl ?_ ?_
 ·trivial
 apply zae;refine zaf rfl (fun hb=>?_) (fun hb=>?_)
 ·have hb:decide ((k:Int) < (cs.length:Nat))=true:=hb;have hb:=of_decide_eq_true hb;have hlt:k < cs.length:=by omega
  have z0:(0:Int)≤(k:Int):=by omega
  have hgd:cs.getD (k:Int).toNat zCal=cs[k]:=za6 hlt;have hok:=hcs cs[k] (xS hlt);rw[<-hgd]at hok;refine za (za ?_);refine zaa hX zbR rfl ?_ ?_
  ·exact⟨z0,hb⟩
  refine za (za ?_);refine zaa hX zbR rfl ?_ ?_
  ·exact hok
  refine zaf rfl (fun hc=>?_) (fun _=>?_)
  ·have hc:(!true)=true:=hc;cases hc
  apply zab;refine za (za ?_);refine zaa hX zbR rfl ?_ ?_
  ·exact za0 (by omega)
  exact⟨k+1,hlt,by omega,⟨rfl,rfl,rfl,rfl,zdT _,trivial⟩,trivial,rfl,rfl⟩
 ·apply zad;refine za (za ?_);refine zaa hX zbR rfl ?_ ?_
  ·trivial
  refine za (za ?_);refine zaa hX zbR rfl ?_ ?_
  ·trivial
  (repeat(first|apply zae|apply zab|apply zac|apply zad));refine yR (ι:=Nat) (fun i=>⟨[(0,⟨.slice nd,r⟩),(1,⟨.slice cal,cs⟩),(8,⟨.optr (.arr 19 shp),⟨0,.arr 19 shp,.here⟩⟩),(38,⟨.slice nd,r⟩),(39,⟨i64,((r.length:Nat):Int)⟩),(40,⟨i64,(i:Int)⟩)],[(0,some (.box (.arr 19 shp) zce))],1⟩) (fun i=>i≤r.length) (fun i=>r.length - i) 0 (zk _) ⟨⟨rfl,rfl,rfl,rfl,rfl,rfl,trivial⟩,⟨rfl,trivial⟩,rfl,rfl⟩ ?_;intro i hi;refine za (za ?_);refine zaa hX zbR rfl ?_ ?_
  ·trivial
  apply zae;refine zaf rfl (fun hb=>?_) (fun hb=>?_)
  ·have hb:decide ((i:Int) < (r.length:Nat))=true:=hb;have hb:=of_decide_eq_true hb;have hlt:i < r.length:=by omega
   have z0:(0:Int)≤(i:Int):=by omega
   have hf:=(zcx w3 hlt).1;obtain⟨⟨k1,k2⟩,_,hcal,_⟩:=zaE hf;refine za (za ?_);refine zaa hX zbR rfl ?_ ?_
   ·exact⟨z0,hb⟩
   refine zap (σ':=⟨[(0,⟨.slice nd,r⟩),(1,⟨.slice cal,cs⟩),(8,⟨.optr (.arr 19 shp),⟨0,.arr 19 shp,.here⟩⟩),(38,⟨.slice nd,r⟩),(39,⟨i64,((r.length:Nat):Int)⟩),(40,⟨i64,(i:Int)⟩),(10,⟨.optr nd,⟨1,nd,.here⟩⟩)],[(0,some (.box (.arr 19 shp) zce)),(1,some (.box nd (zav r i)))],2⟩) ⟨⟨rfl,rfl,rfl,rfl,rfl,rfl,rfl,trivial⟩,⟨rfl,rfl,trivial⟩,rfl,rfl⟩ ?_;generalize zav r i=n at *;have t0:(0:Int)≤ndK n:=by omega
   have t1:ndK n < ((19:Nat):Int):=by omega
   have t2:(ndK n).toNat < 19:=by omega
   refine za (za ?_);refine zaa hX zbR rfl ?_ ?_
   ·repeat'(first|exact trivial|assumption|exact t0|exact t1|exact t2|(refine⟨?_,?_⟩)|(intro _)|exact zb rfl|exact zi _|(simp_all [allP];done))
   refine zaf rfl (fun hc=>?_) (fun _=>?_)
   ·have hc:(bif (zdC (ndK n)).2.1 then decide (ndC n≥((cs.length:Nat):Int)) else false)=true:=hc;exfalso;unfold zeU at hcal;cases hq:(zdC (ndK n)).2.1 with
    |false=>rw[hq]at hc;cases hc
    |true=>
     rw[hq,cond_true]at hc hcal;have h1:=of_decide_eq_true hc;have h2:=zaL.1 hcal;omega
   apply zab;refine za (za ?_);refine zaa hX zbR rfl ?_ ?_
   ·exact za0 (by omega)
   exact⟨i+1,hlt,by omega,⟨rfl,rfl,rfl,rfl,rfl,zdT _,trivial⟩,⟨rfl,trivial⟩,rfl,rfl⟩
  ·(repeat(first|apply zae|apply zab|apply zal|apply zad|apply zac|refine zaa hX zbR rfl trivial ?_|refine zaa hX zbR rfl id ?_|refine zaa hX zbR rfl ⟨id,id⟩ ?_));refine zr ⟨.inr rfl,zaw rfl trivial rfl rfl ?_⟩;exact hv.symm
def zrJ:List Int:=[31,28,31,30,31,30,31,31,30,31,30,31]
def zhk:List Int:=[30,29,30,29,30,29,30,29,30,29,30,29]
def zg6:List Int:=[2,5,7,10,13,16,18,21,24,26,29]
def zl7 (k:Int):Cal:=
 if k=0 then (7,zrJ,1,[(4,0,true,()),(100,0,false,()),(400,0,true,())],())
 else if k=1 then (5,zrJ,1,[(4,0,true,())],())
 else (227021,zhk,11,zg6.map fun x=>(30,x,true,()),())
def zpP:Ctr:={ args:=[i64],pre:=fun x=>[0≤x.1,x.1≤2],res:=.tup cal (.tup i64 .unit),own:=none,out:=fun x=>(zl7 x.1,(0:Int),()) }
def kKw:Kn:={ gmK with H:=[63] }
theorem zb9:KnOk Tryz.prog gmH kKw:=⟨zhz,zhy,CsOk.nil,ziB,RsOk.nil⟩
def lunVal:zh:=.agg #[.int .i64 227021,.slice none 0 0,.int .i64 11,.slice none 0 0]
theorem zoQ:Tryz.prog.built 63 [(0,.int .i64 227021),(2,.int .i64 11)]=some #[.int .i64 227021,.slice none 0 0,.int .i64 11,.slice none 0 0]:=by kernel_rfl
theorem bufL {te:zn} {x y:List Lr} (h:x=y):some (OObj.buf te lru x)=some (OObj.buf te lru y):=by rw[h]
set_option maxHeartbeats 1000000 in
theorem zq3:yK Tryz.prog gmH 59 zpP:=by
 refine zaq (K:=kKw) zb9 Tryz.func59 rfl rfl Tryz.call59 rfl (by decide) (by intro h;cases h) ?_;rintro w0 X hX ⟨(k:Int),_⟩ hp;obtain⟨h0,h1⟩:0≤k∧k≤2:=by
  simp only[zpP,allP]at hp
  simpa using hp
 change AWP _ _ _ _ _ ⟨[(0,⟨i64,k⟩)],[],0⟩ _;refine za (za ?_);refine zaa hX zb9 rfl ?_ ?_
 ·trivial
 refine za (za ?_);refine zaa hX zb9 rfl ?_ ?_
 ·trivial
 refine qZ hX 4 ?_;refine za (za ?_);refine zaa hX zb9 rfl ?_ ?_
 ·trivial
 refine za (za ?_);refine zaa hX zb9 rfl ?_ ?_
 ·trivial
 refine za (za ?_);refine zaa hX zb9 rfl ?_ ?_
 ·trivial
 refine zaf rfl (fun hb=>?_) (fun hb=>?_)
 ·have hb:(k==0)=true:=hb;obtain rfl:=beq_iff_eq.1 hb;refine za (za ?_);refine zaa hX zb9 rfl ?_ ?_
  ·trivial
  refine qZ hX 6 ?_;refine za (za ?_);refine zaa hX zb9 rfl ?_ ?_
  ·trivial
  refine zr ⟨.inr rfl,zbd (by decide) rfl rfl trivial ?_⟩;rfl
 have hb:(k==0)=false:=hb;have hk0:k≠0:=fun e=>by rw[e]at hb;cases hb
 refine za (za ?_);refine zaa hX zb9 rfl ?_ ?_
 ·trivial
 refine zaf rfl (fun hb=>?_) (fun hb=>?_)
 ·have hb:(k==1)=true:=hb;obtain rfl:=beq_iff_eq.1 hb;refine za (za ?_);refine zaa hX zb9 rfl ?_ ?_
  ·trivial
  refine zr ⟨.inr rfl,zbd (by decide) rfl rfl trivial ?_⟩;rfl
 have hb:(k==1)=false:=hb;have hk1:k≠1:=fun e=>by rw[e]at hb;cases hb
 refine za (za ?_);refine zaa hX zb9 rfl ?_ ?_
 ·trivial
 refine zaf rfl (fun hb=>?_) (fun hb=>?_)
 ·have hb:(k==2)=true:=hb;obtain rfl:=beq_iff_eq.1 hb;(repeat(first|apply zae|apply zab|apply zac|apply zad));refine zai ?_;refine AL.litv rfl (by intro c e;cases e) rfl rfl lunVal (fun β a w hs=>by
   unfold execOp;refine zdH ?_;rw[show (#[(0,uW (yF .i64 227021)),(2,uW (yF .i64 11))]:Array (Nat×zE)).map (fun p=>(p.1,a.eval p.2))= #[(0,yF .i64 227021),(2,yF .i64 11)] from by simp;exact⟨rfl,rfl⟩];exact run_build w _ _ _ zoQ) ?_
  refine zT hX zb9 rfl trivial ?_;refine AWP.nilLeaf 3 1 3 i64 rfl rfl rfl ?_;refine AWP.nilLeaf 3 3 129 lru rfl rfl rfl ?_;refine za (za ?_);refine zaa hX zb9 rfl ?_ ?_
  ·trivial
  (repeat(first|apply zae|apply zab|apply zac|apply zad));refine yR (ι:=Nat) (fun i=>⟨[(2,⟨.hptr,((0:Nat),(0:Nat))⟩),(7,⟨.hptr,((3:Nat),(0:Nat))⟩),(32,⟨i64,(i:Int)⟩)],[(0,some (.hbox 63 [⟨i64,(0:Int)⟩,⟨.lit,.slice none 0 0⟩,⟨i64,(0:Int)⟩,⟨.lit,.slice none 0 0⟩])),(3,some (.hbox 63 [⟨i64,(227021:Int)⟩,⟨.obuf i64,(4:Nat)⟩,⟨i64,(11:Int)⟩,⟨.obuf lru,(5:Nat)⟩])),(4,some (.buf 3 i64 (zhk.take i))),(5,some (.buf 129 lru []))],6⟩) (fun i=>i≤12) (fun i=>12 - i) 0 (zk _) ⟨⟨rfl,rfl,rfl,trivial⟩,⟨rfl,rfl,rfl,rfl,trivial⟩,rfl,rfl⟩ ?_
  ·intro i hi;refine za (za ?_);refine zaa hX zb9 rfl ?_ ?_
   ·trivial
   apply zae;refine zaf rfl (fun hb=>?_) (fun hb=>?_)
   ·have hb:decide ((i:Int) < 12)=true:=hb;have hb:=of_decide_eq_true hb;obtain⟨hv,hv2,hv3⟩:(inR .i64 ((30:Int) - (i:Int).tmod 2))∧zhk.take i++ [(30:Int) - (i:Int).tmod 2]=zhk.take (i+1)∧(zhk.take i).length≤12:=by
     rcases (show i=0∨i=1∨i=2∨i=3∨i=4∨i=5∨i=6∨i=7∨i=8∨i=9∨i=10∨i=11 by omega) with rfl|rfl|rfl|rfl|rfl|rfl|rfl|rfl|rfl|rfl|rfl|rfl<;>exact⟨zam (by decide) (by decide),by decide,by decide⟩
    have q0:(2:Int)≠0:=by decide
    have q1:(zhk.take i).length+1≤1000000000:=by omega
    refine za (za ?_);refine zaa hX zb9 rfl ?_ ?_
    ·trivial
    refine za (za ?_);refine zaa hX zb9 rfl ?_ ?_
    ·exact⟨q0,hv,q1⟩
    refine za (za ?_);refine zaa hX zb9 rfl ?_ ?_
    ·exact za0 (by omega)
    exact⟨i+1,by omega,by omega,⟨rfl,rfl,zdT _,trivial⟩,⟨rfl,rfl,bufI hv2,rfl,trivial⟩,rfl,rfl⟩
   ·have hb:decide ((i:Int) < 12)=false:=hb;have hb:=of_decide_eq_false hb;obtain rfl:i=12:=by omega
    apply zad;refine za (za ?_);refine zaa hX zb9 rfl ?_ ?_
    ·trivial
    refine qZ hX 44 ?_;(repeat(first|apply zae|apply zab|apply zac|apply zad));refine yR (ι:=Nat) (fun j=>⟨[(2,⟨.hptr,((0:Nat),(0:Nat))⟩),(7,⟨.hptr,((3:Nat),(0:Nat))⟩),(44,⟨ints,zg6⟩),(45,⟨i64,(11:Int)⟩),(46,⟨i64,(j:Int)⟩)],[(0,some (.hbox 63 [⟨i64,(0:Int)⟩,⟨.lit,.slice none 0 0⟩,⟨i64,(0:Int)⟩,⟨.lit,.slice none 0 0⟩])),(3,some (.hbox 63 [⟨i64,(227021:Int)⟩,⟨.obuf i64,(4:Nat)⟩,⟨i64,(11:Int)⟩,⟨.obuf lru,(5:Nat)⟩])),(4,some (.buf 3 i64 zhk)),(5,some (.buf 129 lru ((zg6.take j).map fun x=>(30,x,true,()))))],6⟩) (fun j=>j≤11) (fun j=>11 - j) 0 (zk _) ⟨⟨rfl,rfl,rfl,rfl,rfl,trivial⟩,⟨rfl,rfl,rfl,rfl,trivial⟩,rfl,rfl⟩ ?_;intro j hj;refine za (za ?_);refine zaa hX zb9 rfl ?_ ?_
    ·trivial
    apply zae;refine zaf rfl (fun hb=>?_) (fun hb=>?_)
    ·have hb:decide ((j:Int) < 11)=true:=hb;have hb:=of_decide_eq_true hb;have hlt:j < zg6.length:=by show j < 11;omega
     have z0:(0:Int)≤(j:Int):=by omega
     have z1:(j:Int) < ((zg6.length:Nat):Int):=by omega
     have hl:((zg6.take j).map fun x=>((30,x,true,()):Lr)).length+1≤1000000000:=by rw[List.length_map,yB];omega
     refine za (za ?_);refine zaa hX zb9 rfl ?_ ?_
     ·exact⟨z0,z1⟩
     refine za (za ?_);refine zaa hX zb9 rfl ?_ ?_
     ·exact hl
     refine za (za ?_);refine zaa hX zb9 rfl ?_ ?_
     ·exact za0 (by omega)
     refine⟨j+1,by omega,by omega,⟨rfl,rfl,rfl,rfl,zdT _,trivial⟩,⟨rfl,rfl,rfl,bufL ?_,trivial⟩,rfl,rfl⟩;rw[zO hlt,List.map_append];show _++ [((30:Int),zg6.getD (j:Int).toNat (0:Int),true,())]=_;rw[za6 hlt];rfl
    ·have hb:decide ((j:Int) < 11)=false:=hb;have hb:=of_decide_eq_false hb;obtain rfl:j=11:=by omega
     apply zad;refine AWP.frzL hX 3 1 ?_;refine AWP.frzL hX 3 3 ?_;refine za (za ?_);refine zaa hX zb9 rfl ?_ ?_
     ·trivial
     refine zr ⟨.inr rfl,zbd (by decide) rfl rfl trivial ?_⟩;rfl
 ·have hb:(k==2)=false:=hb;exact absurd (beq_iff_eq.2 (by omega:k=2)) (by rw[hb];decide)
theorem zqI (A:Option Addr) (n c:Nat):Tryz.prog.built 107 [(1,.slice A n c)]=some #[.pointer none,.slice none 0 0,.slice A n c]:=by kernel_rfl
abbrev prV:Ty:=.hcons .lit (.hcons .lit (.hcons (.slice nd) .unit))
def prX (r:List Nd):prV.T:=(.pointer none,(.slice none 0 0,(r,())))
section
variable {w0:zj} {X:Ownr} {n:Nat} {Q:Exit->AS->Prop} {ops:Array Oper} {F:Frame} {E:Owns} {nx:Nat}
theorem AL.bldPr {o:Oper} {rest:List Oper} {x:zE} (ho:o.op= .build 107 #[(1,x)]) (hgd:o.guard=none) {d:Nat} (hd:o.dst=some d) (hdn:zW d n=true) {r:List Nd} (hx:evO F x=⟨.slice nd,r⟩)
  (h:AL Tryz.prog w0 X n ops rest ⟨(d,⟨prV,prX r⟩)::F,E,nx⟩ Q):AL Tryz.prog w0 X n ops (o::rest) ⟨F,E,nx⟩ Q:=by
 refine AL.hand hgd (fun c e=>by rw[ho]at e;cases e) fun β a w hs=>?_;have hsx:=hs.ops x;rw[show evO (AS.mk F E nx).F x=_ from hx]at hsx;have hsx':=hsx;obtain⟨v,e,hS⟩:=hsx;obtain⟨A,m,c,hv⟩:∃ A m c,a.eval x= .slice A m c:=by
  rw[List.singleton_inj.1 e];rcases hS with ⟨_,A,c,rfl,_⟩|⟨g,off,c,vs,rfl,_⟩
  ·exact⟨_,_,_,rfl⟩
  ·exact⟨_,_,_,rfl⟩
 rw[hv]at hsx';refine ziJ hd hdn (v:=⟨prV,prX r⟩) (zk _) (N:=fun σ'=>AL Tryz.prog w0 X n ops rest σ' Q) h hs (u:=.agg #[.pointer none,.slice none 0 0,.slice A m c]) ?_ ?_
 ·unfold execOp;simp only[ho];refine zdH ?_;rw[show (#[(1,x)]:Array (Nat×zE)).map (fun p=>(p.1,a.eval p.2))= #[(1,Value.slice A m c)] from by simp[hv]];exact run_build w _ _ _ (zqI A m c)
 ·exact⟨_,[_,_],rfl,rfl,rfl,_,[_],rfl,rfl,rfl,_,[],rfl,rfl,hsx',[],rfl,rfl⟩
theorem AL.box3 (hX:X.Ok w0) {o:Oper} {rest:List Oper} {t:zn} {x:zE} (ho:o.op= .box t x) (hgd:o.guard=none) {d:Nat} (hd:o.dst=some d) (hdn:zW d n=true) {A:Ty} {q1 q2:zh} {p:A.T} (hx:evO F x=⟨.hcons .lit (.hcons .lit (.hcons A .unit)),(q1,(q2,(p,())))⟩)
  (hA:A.plainL=true) (hbA:(⟨A,p⟩:V).bound=0) (h:AL Tryz.prog w0 X n ops rest ⟨(d,⟨.hptr,(nx,(0:Nat))⟩)::F,(nx,some (.hbox t [⟨.lit,q1⟩,⟨.lit,q2⟩,⟨A,p⟩]))::E,nx+1⟩ Q):AL Tryz.prog w0 X n ops (o::rest) ⟨F,E,nx⟩ Q:=by
 refine AL.hand hgd (fun c e=>by rw[ho]at e;cases e) fun β a w hs=>?_;have hlt:d < n:=by simpa using hdn
 have h1:=hs.ops x;rw[show evO (AS.mk F E nx).F x=_ from hx]at h1;obtain⟨c1,s1,e1,hc1,r1,h2⟩:=h1;obtain⟨c2,s2,e2,hc2,r2,h3⟩:=h2;obtain⟨c3,s3,e3,hc3,r3,h4⟩:=h3;obtain⟨cs,e4,h4⟩:∃ cs:List zh,(Value.agg s3.toArray)= .agg cs.toArray∧RepC w (OSet X E β) .unit () cs:=(RepD.agg rfl).1 h4;have h4:cs=[]:=h4;subst h4;have e4:s3=[]:=by
  have:=kb e4
  simpa using congrArg vB this
 subst e4;have e3:s2=[c3]:=by
  have:=kb e3
  simpa using congrArg vB this
 subst e3;have e2:s1=[c2,c3]:=by
  have:=kb e2
  simpa using congrArg vB this
 subst e2;refine zbz (u:=.pointer (some ⟨w.heap.size,0,none⟩)) (w':=w.alloc (.cells #[c1,c2,c3] t (0,0))) ?_ ?_
 ·unfold execOp;simp only[ho];refine zdH ?_;rw[e1];simp[Instr.box,newVar,newRow,Value.cells,go_sem]
 ·rw[hd];have hk:Below w.heap.size w (w.alloc (.cells #[c1,c2,c3] t (0,0))):=(Below.refl _ w).alloc (zl _) (.cells #[c1,c2,c3] t (0,0));obtain⟨β',h4⟩:=hs.make hX hk (bv:=.pointer (some ⟨w.heap.size,0,none⟩)) (o:=.hbox t [⟨.lit,q1⟩,⟨.lit,q2⟩,⟨A,p⟩])
   (fun O β' hO=>by
     have hkk:Keeps w (w.alloc (.cells #[c1,c2,c3] t (0,0))) (OSet X E β) O:=.of_below hk fun g hg hg'=>by
      rcases hO g hg' with h5|h5
      ·exact h5
      ·simp[zag]at h5;omega
     exact⟨w.heap.size,[c1,c2,c3],rfl,zk _,World.alloc_heap_new w _,⟨c1,[c2,c3],rfl,hc1,r1,⟨c2,[c3],rfl,hc2,r2,⟨c3,[],rfl,hc3,RepV.plainL hkk hA r3,rfl⟩⟩⟩⟩) (fun g hg=>by cases hg;exact zl _) (v:=⟨.hptr,(nx,(0:Nat))⟩) (u:=.pointer (some ⟨w.heap.size,0,none⟩))
   (fun O β' hb=>⟨w.heap.size,by show zag (β' nx)=_;rw[show β' nx=_ from hb];rfl,rfl⟩) (zl _) hlt (fun vs e v hv=>by
     cases e;rcases yd.1 hv with rfl|hv
     ·exact zk _
     ·rcases yd.1 hv with rfl|hv
      ·exact zk _
      ·rw[zw.1 hv,hbA];exact zk _)
  exact⟨_,β',h4,h⟩
end
end
end Go.Proofs.YtpeaigpfddalcaaGreatDoor
