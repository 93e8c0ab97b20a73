/-
  Texts of this claim, joined: what the statement's proof uses.
-/
import Derived.Test.YthbecdbmifchiaaGreatDoorXC
set_option linter.unusedSimpArgs false
set_option linter.unusedVariables false
set_option maxRecDepth 100000
open BitVec renaming ofInt -> xU,ofNat -> yN
open Bool renaming and_eq_false_iff -> vw,and_eq_true -> zf,and_false -> jP,eq_false_iff -> vL,eq_iff_iff -> zY,false_and -> wC,false_ne_true -> kV,false_or -> qZ,not_eq_false' -> qM,not_eq_true' -> zL,or_eq_false_iff -> xY,or_eq_true -> yW,or_false -> jL,or_true -> jM,true_or -> jY
open Classical renaming byContradiction -> wI
open Go renaming Program -> zw,TypeId -> zo,Value -> zd,World -> zh
open Go.Act renaming eval -> wx
open Go.Instr renaming loadAt -> xM
open Go.Lib renaming decDigits -> xK,itoa -> uo
open Go.Proofs.Tryz renaming prog -> zb
open Go.Proofs.YthbecdbmifchiaaGreatDoor renaming CtrOk -> yT,Frame -> zN,StepK -> vz,StepN -> uq
open Go.Proofs.YthbecdbmifchiaaGreatDoor.AL renaming all -> jz,handV -> fa
open Go.Proofs.YthbecdbmifchiaaGreatDoor.AWP renaming frz -> vM,frzB -> ql,go -> za,len -> wg,loop -> xP,ret -> zp
open Go.Proofs.YthbecdbmifchiaaGreatDoor.AllI renaming s -> zA
open Go.Proofs.YthbecdbmifchiaaGreatDoor.Frame renaming get -> zn
open Go.Proofs.YthbecdbmifchiaaGreatDoor.IWP renaming block -> gu,mono -> uM,of -> wA,seq -> ur
open Go.Proofs.YthbecdbmifchiaaGreatDoor.OrdA renaming last -> ve
open Go.Proofs.YthbecdbmifchiaaGreatDoor.Ownr renaming it -> vU
open Go.Proofs.YthbecdbmifchiaaGreatDoor.Owns renaming get -> zm
open Go.Proofs.YthbecdbmifchiaaGreatDoor.RepC renaming keep -> qJ,len -> yX
open Go.Proofs.YthbecdbmifchiaaGreatDoor.RepD renaming agg -> qr,scalar -> xJ
open Go.Proofs.YthbecdbmifchiaaGreatDoor.RepV renaming int -> je,ofInt -> jg
open Go.Proofs.YthbecdbmifchiaaGreatDoor.RsOk renaming nil -> vp
open Go.Proofs.YthbecdbmifchiaaGreatDoor.StepA renaming eval -> zX,hand -> jv
open Go.Proofs.YthbecdbmifchiaaGreatDoor.StepK renaming eval -> zx,step -> uF
open Go.Proofs.YthbecdbmifchiaaGreatDoor.StepN renaming eval -> uG
open Go.Proofs.YthbecdbmifchiaaGreatDoor.Tok renaming cls -> yJ,text -> yB
open Go.Proofs.YthbecdbmifchiaaGreatDoor.Tr renaming len_flat -> qg
open Go.Proofs.YthbecdbmifchiaaGreatDoor.Ty renaming size -> jV
open Go.Result renaming andThen_ok -> zG
open Go.Utf8 renaming decode -> fb
open Go.World renaming cell?_of_block -> qV
open Go.YieldAt renaming mono -> gH
open Int renaming add_mul_emod_self_left -> vq,emod_eq_of_lt -> jt,emod_lt_of_pos -> xS,emod_nonneg -> qq,le_refl -> yS,mul_tdiv_add_tmod -> gL,natCast_nonneg -> yM,ofNat_tdiv -> g9,tmod_lt_of_pos -> wz,toNat_natCast -> zH,toNat_of_nonneg -> qh,zero_add -> pp
open List renaming all_eq_true -> yE,any_eq_false -> pu,any_eq_true -> kE,append_assoc -> zz,append_nil -> zW,cons_append -> ja,drop_eq_getElem_cons -> qf,drop_left -> vh,drop_length -> kF,findIdx_getElem -> g8,foldl_append -> vO,getD_eq_getElem?_getD -> zu,getElem?_append_right -> qD,getElem?_eq_getElem -> zI,getElem?_set -> pr,getElem_mem -> xN,getElem_of_mem -> vV,length -> zi,length_append -> zg,length_cons -> zv,length_map -> jy,length_pos_iff -> jU,length_replicate -> qv,length_singleton -> xI,length_take -> yU,mem_append -> zU,mem_cons -> zs,mem_cons_of_mem -> zE,mem_cons_self -> zC,mem_of_mem_take -> vK,mem_range -> xZ,mem_singleton -> zt,nil_append -> xH,not_mem_nil -> jd,range -> qB,replicate -> zr,replicate_append_replicate -> vT,set_append_right -> kj,takeWhile_append_of_pos -> kf,takeWhile_cons -> kK,take_left -> ju,take_length -> xR,take_succ_cons -> kI,take_succ_eq_append_getElem -> zS
open Nat renaming add_sub_cancel -> kW,ble -> qO,blt -> zM,gcd -> jA,gcd_pos_of_pos_right -> w9,lcm -> vP,le_of_ble_eq_true -> zq,le_refl -> zj,le_trans -> zJ,mod_eq_of_lt -> jb,mod_lt -> fF,mul_div_cancel_left -> gw,zero_add -> yL,zero_le -> zk
open Option.some renaming inj -> zP
open True renaming intro -> qU
open UInt8 renaming le_iff_toNat_le -> qu,ofNat -> yR,ofNat_toNat -> wU
open Go Go.RowKit
namespace Go.Proofs.YthbecdbmifchiaaGreatDoor
section
section
variable {P:zw}{K:Kn}{w0:zh}{X:Ownr}{n:Nat}{Y:AS}{Q:Exit->AS->Prop}{ops:Array Oper}
theorem StepP.eval(hX:X.Ok w0)(hK:KnOk P X.G K){B:zN}{L:List (Nat×Nat×V)}{E0 E1:Owns}{nx0 i p:Nat}(x0:i≠p)(h0:zvh K n ops B L E0 nx0 i)(h1:zvh K n ops B L E1 nx0 i):
 (i≠p->vz P w0 X n ops Q B L E0 nx0 i/\vz P w0 X n ops Q B L E1 nx0 i)/\(i=p->StepX P w0 X n ops Q B L E0 E1 nx0 i):=⟨λ_=>⟨zx hX hK h0,zx hX hK h1⟩,λe=>absurd e x0⟩
theorem StepP.store{B:zN}{L:List (Nat×Nat×V)}{E0 E1:Owns}{nx0 p:Nat}(h:StepX P w0 X n ops Q B L E0 E1 nx0 p):
 (p≠p->vz P w0 X n ops Q B L E0 nx0 p/\vz P w0 X n ops Q B L E1 nx0 p)/\(p=p->StepX P w0 X n ops Q B L E0 E1 nx0 p):=⟨λh=>absurd rfl h,λ_=>h⟩
theorem zp6{w:zh}{O:Nat->Prop}{U U':Nat->zd}{B:Nat}{E:Owns}(x0:∀i o,zm E i=some o->OwnRep w O U B (U i) o){t:Ty}(hd:t.data=true)(ha:t.isAgg=true){v:V}{ls:List V}(hl:zg6 E v=some ls){y:t.T}(hu:unD t (ls.map (dat E))=some (y,[])){u:zd}{cs:Array zd}(x1:u=.agg cs)(hr:RepV w O U v.t v.x u):RepV w (λ_=>False) U' t y u:=by
 have h1:=ziI x0 hl hr;have h2:RepH w (λ_=>False) U (ls.map (dat E)) u.cells.toList:=by
  have:∀{vs:List V}{cs:List zd},RepH w O U vs cs->RepH w (λ_=>False) U (vs.map (dat E)) cs:=by
   intro vs
   induction vs with
   |nil=>intro cs h;exact h
   |cons v vs ih=>
    rintro cs ⟨u,s,e,h1,h2,h3⟩;exact⟨u,s,e,h1,zle x0 h2,ih h3⟩
  exact this h1
 obtain⟨c1,c2,e,h3,h4⟩:=zqo _ _ _ _ _ hd hu h2;rw[h4,zW]at e;refine(zbA hd).2 ((qr ha).2 ⟨c1,?_,h3⟩);rw[x1]at e ⊢;rw[<-e];rfl
theorem zn1(hX:X.Ok w0){f:FuncId}{c:Ctr}(hc:yT P X.G f c)(x5:c.res.flat=true)(x3:c.own=none){o:Oper}{args:Array Operand}{ts:Array zo}(ho:o.op=.call ⟨.value (.func f),args,ts⟩)(x6:o.guard=none){xs:Args c.args}
  (x4:∀U a w,Sim w0 X n Y U a w->RepA w (λ_=>False) c.args xs (args.toList.map a.eval)) (x2:allP (c.pre xs)) (x9:bnd c.res (c.out xs)=0) {d:Nat} (x1:o.dst=some d) (x7:zM d n=true) {N:AS->Prop} (h:N ⟨(d,⟨c.res,c.out xs⟩)::Y.F,Y.E,Y.nx⟩):StepA P w0 X n ops o Y N Q:=
 jv x6 λU a w hs=>by
  obtain⟨xa,x0⟩:=hc;have hG:=hX.2.2 w hs.bel;have h1:=(x0 w (λ_=>False) xs _ (λ_ h=>h.elim) (x4 U a w hs) x2 hG);refine zen ho xa (h1.mono λe w'⟨v,he,hb,hr⟩=>⟨v,he,?_⟩);rw[x3]at hr;have x8:=zcY (U:=U) _ _ _ hr;rw[x1];exact⟨_,U,hs.put hb (zeV x5 x8) (by rw[show V.bound ⟨c.res,c.out xs⟩=bnd c.res (c.out xs) from rfl,x9];exact zk _) (by simpa using x7),h⟩
end
theorem zpd{P:zw}{w0:zh}{X:Ownr}{n:Nat}{Y:AS}{Q:Exit->AS->Prop}{c d:Code}{Y':AS}(h1:AWP P w0 X n c Y (zhI (λs=>∀U a w,Sim w0 X n s U a w->∃U',Sim w0 X n Y' U' a w) Q))(h2:AWP P w0 X n d Y' Q):AWP P w0 X n c Y (zhI (λs=>AWP P w0 X n d s Q) Q):=
 AWP.mono h1 λe s h=>by
  cases e with
  |normal=>exact λU a w hs=>(h U a w hs).elim λU' h3=>h2 U' a w h3
  |_=>exact h
def znG:List V->V
 | []=>⟨.unit,()⟩
 |v::r=>⟨.hcons v.t (znG r).t,(v.x,(znG r).x)⟩
theorem zlS{w:zh}{O:Nat->Prop}{U:Nat->zd}:∀{vs:List V}{cs:List zd},RepH w O U vs cs->RepV w O U (znG vs).t (znG vs).x (.agg cs.toArray)
 | [],cs,h=>by
  subst h;exact(qr rfl).2 ⟨[],rfl,rfl⟩
 |v::r,_,⟨u,s,rfl,h1,h2,h3⟩=>⟨u,s,rfl,h1,h2,zlS h3⟩
section
variable {P:zw}{K:Kn}{w0:zh}{X:Ownr}{n:Nat}{Y:AS}{F:zN}{E:Owns}{nx:Nat}{Q:Exit->AS->Prop}{ops:Array Oper}
theorem StepA.pure(hX:X.Ok w0)(hK:KnOk P X.G K){o:Oper}{r:List Prop×V}(h:pOp K.T K.Q E F o.op=some r)(hp:allP r.1)(x0:o.guard=none){d:Nat}(hd:o.dst=some d)(x1:zM d n=true)(hb:r.2.bound=0){N:AS->Prop}(hN:N ⟨(d,r.2)::F,E,nx⟩):StepA P w0 X n ops o ⟨F,E,nx⟩ N Q:=
 jv x0 λU a w hs=>by
  obtain⟨u,w',h1,h2,h3⟩:=zg1 hK.t (hs.hO hX) (λi o h=>hs.own i o h) h hp λx _=>hs.ops x;refine za5 (u:=u) (w':=w') h1 ?_;rw[hd];exact⟨_,U,hs.put h2 h3 (by rw[hb];exact zk _) (by simpa using x1),hN⟩
theorem zjg(i:Nat){o:Oper}{t:zo}{p:Operand}{Z:Ty}(hl:Lay P Z (.inl t))(ha:Z.isAgg=true)(ho:o.op=.load t p)(x0:o.guard=none){d:Nat}(hd:o.dst=some d)(x1:zM d n=true)(hp:evO F p=⟨.hptr,(i,(0:Nat))⟩){ty:zo}{vs:List V}(hE:zm E i=some (.hbox ty vs))(hn:vs.length=Z.size)
  (hb:qO (znG vs).bound nx=true) {N:AS->Prop} (hN:N ⟨(d,znG vs)::F,E,nx⟩):StepA P w0 X n ops o ⟨F,E,nx⟩ N Q:=
 jv x0 λU a w hs=>by
  have h1:=hs.ops p;rw[show evO (AS.mk F E nx).F p=_ from hp]at h1;obtain⟨g,hg,h2⟩:=h1;obtain⟨cs,h3,h4⟩:=(hs.own i _ hE).hcells hg;refine zgS hd x1 (v:=znG vs) (zq hb) (N:=N) hN hs (u:=.agg cs.toArray) ?_ (zlS h3);unfold execOp;rw[ho];refine zbz ?_;rw[h2];exact hl.loadAgg ha (by rw[<-RepH.len h3,hn]) h4
end
section
variable {P:zw}{K:Kn}{w0:zh}{X:Ownr}{n:Nat}{Y:AS}{Q:Exit->AS->Prop}{ops:Array Oper}
def ph4(p1 p2:Nat)(a b c d:Owns×Nat)(done:List Nat):Owns×Nat:=bif hasN done p1 then(bif hasN done p2 then d else b) else(bif hasN done p2 then c else a)
theorem zpe(m p1 p2:Nat)(E1 E2 E3:Owns)(n1 n2 n3:Nat)(B:zN)(L:List (Nat×Nat×V))(xe:P.follows .mixedOrders=true)(hX:X.Ok w0){id:Nat}(f:Nat)(hf:ops.toList.length=f)(x5:qO m f=true)(hb:zgO ops=true)(ht:zjl ops.toList m f=true)
  (hd:disB ((L.map (·.2.1))++(B.map (·.1)))=true) (hB:Sub Y.F B) (x8:p1≠p2) (x2:AllI (λi=>(i≠p1->i≠p2->∀E nx,(E,nx)∈ [(Y.E,Y.nx),(E1,n1),(E2,n2),(E3,n3)]->vz P w0 X n ops (QC w0 X n Q) B L E nx i)/\(i=p1->∀done,hasN done p1=false->(∀q,q∈done->∀i,hasN (zcd ops.toList q) i=true->i∈done)->(hasN done p2=false->uq P w0 X n ops (QC w0 X n Q) B L done Y.E E1 Y.nx n1 i)/\(hasN done p2=true->uq P w0 X n ops (QC w0 X n Q) B L done E2 E3 n2 n3 i))/\(i=p2->∀done,hasN done p2=false->(∀x,hasN (zcd ops.toList i) x=true->x∈done)->(hasN done p1=false->uq P w0 X n ops (QC w0 X n Q) B L done Y.E E2 Y.nx n2 i)/\(hasN done p1=true->uq P w0 X n ops (QC w0 X n Q) B L done E1 E3 n1 n3 i))) m)
  (xd:bndB n3 (L.map (·.2)++B)=true) (x4:SubE E3 E3) (x7:bndE n3 E3=true) (xb:zM p1 m=true) (x9:zM p2 m=true)
  (x3:L.all (λp=>zM p.1 m)=true) (hq:TailA P w0 X n ops (QC w0 X n Q) (ops.toList.drop m) ⟨L.map (·.2)++B,E3,n3⟩) (hk:X.K<=n3:=by exact zq rfl) (xc:za2 ops.toList=true:=by rfl):AWP P w0 X n (.region id ops true) Y Q:=by
 refine zh7 m B L (ph:=ph4 p1 p2 (Y.E,Y.nx) (E1,n1) (E2,n2) (E3,n3)) E3 n3 xe hX f hf x5 hb ht hd hB rfl (λdone h=>?_) (λi hi done x0 x6 xa=>?_) xd x4 x7 x3 hq hk xc
 .unfold ph4;rw[zaz.2 (h p1 (by simpa using xb)),zaz.2 (h p2 (by simpa using x9))];exact⟨λ_=>rfl,rfl⟩
 have x1:∀p,i≠p->hasN (i::done) p=hasN done p:=λp hp=>by
  rw[zY,zaz,zaz,zs];exact⟨λh=>h.resolve_left λe=>hp e.symm,.inr⟩
 unfold ph4;by_cases e1:i=p1
 .subst e1;rw[zaz.2 (zC ..),x1 p2 x8,x0];have h:=(x2.get i hi).2.1 rfl done x0 xa;cases hc:hasN done p2 with
  |true=>exact h.2 hc
  |false=>exact h.1 hc
 .by_cases e2:i=p2
  .subst e2;rw[zaz.2 (zC ..),x1 p1 e1,x0];have h:=(x2.get i hi).2.2 rfl done x0 x6;cases hc:hasN done p1 with
   |true=>exact h.2 hc
   |false=>exact h.1 hc
  .rw[x1 p1 e1,x1 p2 e2];have h3:=(x2.get i hi).1 e1 e2;cases hasN done p1<;>cases hasN done p2<;>exact .of (h3 _ _ (by simp))
theorem zpf(m p1 p2:Nat)(E1 E2:Owns)(x0:Nat)(B:zN)(L:List (Nat×Nat×V))(xe:P.follows .mixedOrders=true)(hX:X.Ok w0){id:Nat}(f:Nat)(hf:ops.toList.length=f)(x5:qO m f=true)(hb:zgO ops=true)(ht:zjl ops.toList m f=true)
  (hd:disB ((L.map (·.2.1))++(B.map (·.1)))=true) (hB:Sub Y.F B) (x4:hasN (zcd ops.toList p2) p1=true) (x9:p1≠p2) (x1:AllI (λi=>(i≠p1->i≠p2->∀E nx,(E,nx)∈ [(Y.E,Y.nx),(E1,x0),(E2,x0)]->vz P w0 X n ops (QC w0 X n Q) B L E nx i)/\(i=p1->∀done,uq P w0 X n ops (QC w0 X n Q) B L done Y.E E1 Y.nx x0 i)/\(i=p2->∀done,uq P w0 X n ops (QC w0 X n Q) B L done E1 E2 x0 x0 i)) m) (xd:bndB x0 (L.map (·.2)++B)=true) (x3:SubE E2 E2) (x7:bndE x0 E2=true) (xb:zM p2 m=true)
  (x2:L.all (λp=>zM p.1 m)=true) (hq:TailA P w0 X n ops (QC w0 X n Q) (ops.toList.drop m) ⟨L.map (·.2)++B,E2,x0⟩) (hk:X.K<=x0:=by exact zq rfl) (xc:za2 ops.toList=true:=by rfl) (x8:zM p1 m=true:=by rfl):AWP P w0 X n (.region id ops true) Y Q:=by
 refine zpe m p1 p2 E1 E1 E2 x0 x0 x0 B L xe hX f hf x5 hb ht hd hB x9 (AllI.of λi hi=>⟨λh1 h2 E nx hE=>(x1.get i hi).1 h1 h2 E nx (by
  rcases zs.1 hE with h|hE
  .exact zs.2 (.inl h)
  rcases zs.1 hE with h|hE
  .exact zs.2 (.inr (zs.2 (.inl h)))
  .exact zs.2 (.inr hE)),λe done h1 xa=>⟨λ_=>(x1.get i hi).2.1 e done,λh2=>?_⟩,λe done h2 x6=>⟨λh1=>?_,λ_=>(x1.get i hi).2.2 e done⟩⟩) xd x3 x7 x8 xb x2 hq hk xc
 .rw[zaz.2 (xa p2 (zaz.1 h2) p1 x4)]at h1;cases h1
 .subst e;rw[zaz.2 (x6 p1 x4)]at h1;cases h1
theorem zvm{id:Nat}(m p:Nat)(x:Nat×Option OObj)(n1:Nat)(B:zN)(L:List (Nat×Nat×V))(xb:P.follows .mixedOrders=true)(hX:X.Ok w0)(f:Nat)(hf:ops.toList.length=f)(x2:qO m f=true)(hb:zgO ops=true)(ht:zjl ops.toList m f=true)
  (hd:disB ((L.map (·.2.1))++(B.map (·.1)))=true) (hB:Sub Y.F B) (x6:AllI (λi=>∀done,(∀y,hasN (zcd ops.toList i) y=true->y∈done)->(∀q,q∈done->∀i,hasN (zcd ops.toList q) i=true->i∈done)->(i≠p->(hasN done p=false->vz P w0 X n ops (QC w0 X n Q) B L Y.E Y.nx i)/\vz P w0 X n ops (QC w0 X n Q) B L (x::Y.E) n1 i)/\(i=p->uq P w0 X n ops (QC w0 X n Q) B L done Y.E (x::Y.E) Y.nx n1 i)) m)
  (xa:bndB n1 (L.map (·.2)++B)=true) (x1:SubE (x::Y.E) (x::Y.E)) (x4:bndE n1 (x::Y.E)=true) (x8:zM p m=true) (x0:L.all (λp=>zM p.1 m)=true) (hq:TailA P w0 X n ops (QC w0 X n Q) (ops.toList.drop m) ⟨L.map (·.2)++B,(x::Y.E),n1⟩) (hk:X.K<=n1:=by exact zq rfl) (x9:za2 ops.toList=true:=by rfl):AWP P w0 X n (.region id ops true) Y Q:=by
 refine zh7 m B L (ph:=λdone=>bif hasN done p then((x::Y.E),n1) else(Y.E,Y.nx)) (x::Y.E) n1 xb hX f hf x2 hb ht hd hB rfl (λdone h=>?_) (λi hi done x5 x3 x7=>?_) xa x1 x4 x0 hq hk x9
 .rw[zaz.2 (h p (by simpa using x8))];exact⟨λ_=>rfl,rfl⟩
 obtain⟨h1,h2⟩:=x6.get i hi done x3 x7;by_cases e:i=p
 .subst e;rw[zaz.2 (zC ..),x5];exact h2 rfl
 .have:hasN (i::done) p=hasN done p:=by
   rw[zY,zaz,zaz,zs];exact⟨λh=>h.resolve_left λh=>e h.symm,.inr⟩
  rw[this];cases hc:hasN done p with
  |true=>exact .of (h1 e).2
  |false=>exact .of ((h1 e).1 hc)
theorem zq8{R:List (Nat×Nat)}:∀{F:zN},(∀p∈F,rnV R p.2=p.2)->rnFr R F=F
 | [],_=>rfl
 |(s,v)::r,h=>by
  show(s,rnV R v)::rnFr R r=_;rw[zq8 λp hp=>h p (zE _ hp),h (s,v) (zC ..)]
theorem zmK(hX:X.Ok w0)(x4:X.K=0)(hK:KnOk P X.G K){B:zN}{L:List (Nat×Nat×V)}{done:List Nat}{E0 E1:Owns}{x3 x0 i:Nat}(R:List (Nat×Nat))(hR:rnOk R=true)(x9:FrJ B L done []->∀p,(p∈B\/∃q∈L,q.1∈done/\q.2=p)->rnV R p.2=p.2)(h:∃o,ops.toList[i]? =some o/\∀F,rnFr R F=F->∃r,zje K n ops o ⟨zbT B L o++F,E0,x3⟩=some r/\allP r.1/\rnFr R r.2.F=resJ L i (zbT B L o++F)/\(∀j,zm (rnE R r.2.E) j=zm E1 j)/\bndE x0 (rnE R r.2.E)=true)(x8:bndB x0 (L.map (·.2)++B)=true):uq P w0 X n ops Q B L done E0 E1 x3 x0 i:=by
 obtain⟨o,ho,h⟩:=h;refine⟨o,ho,λF N hF hc hN=>?_⟩;have hb:∀{l:zN},(∀p∈l,p.2.bound<=x0)->bndB x0 l=true:=by
  intro l
  induction l with
  |nil=>intro _;rfl
  |cons p r ih=>
   intro hl;show(qO p.2.bound x0&&bndB x0 r)=true;rw[zf];exact⟨by rw[Nat.ble_eq];exact hl p (zC ..),ih λq hq=>hl q (zE _ hq)⟩
 have x5:∀{l:zN},bndB x0 l=true->∀p∈l,p.2.bound<=x0:=by
  intro l
  induction l with
  |nil=>intro _ p hp;cases hp
  |cons p r ih=>
   intro hl q hq;have hl:(qO p.2.bound x0&&bndB x0 r)=true:=hl;rw[zf]at hl;rcases zs.1 hq with rfl|hq
   .exact zq hl.1
   .exact ih hl.2 q hq
 have x1:=x5 x8;have x7:∀p,(p∈B\/∃q∈L,q.2=p)->p.2.bound<=x0:=λp hp=>by
  rcases hp with h|⟨q,h,rfl⟩
  .exact x1 p (zU.2 (.inr h))
  .exact x1 _ (zU.2 (.inl (List.mem_map_of_mem h)))
 obtain⟨r,h1,h2,h3,h4,h6⟩:=h F (zq8 λp hp=>x9 (λ_ h=>by cases h) p (hF p hp));refine zX hX hK h1 h2 (hc _ _ (λU a w hs=>⟨_,hs.rename hR x4 (m:=x0) ?_ h6⟩) (hN _ h3 h4 rfl));rw[h3];unfold resJ zbT;refine hb λp hp=>x7 p ?_;have fm:∀{f:Nat×Nat×V->Bool},p∈L.filterMap (λp=>bif f p then some p.2 else none)->∃q∈L,q.2=p:=λhp=>by
  obtain⟨q,x6,x2⟩:=List.mem_filterMap.1 hp;rw[cond_eq_ite]at x2;split at x2
  .cases x2;exact⟨q,x6,rfl⟩
  .cases x2
 rcases zU.1 hp with hp|hp
 .exact .inr (fm hp)
 .rcases zU.1 hp with hp|hp
  .rcases zU.1 hp with hp|hp
   .exact .inl hp
   .exact .inr (fm hp)
  .exact(hF p hp).imp id λ⟨q,h,_,e⟩=>⟨q,h,e⟩
theorem StepQ.of{B:zN}{L:List (Nat×Nat×V)}{E0 E1 E2:Owns}{x1 x0 i p1 p2:Nat}(h1:i≠p1)(h2:i≠p2)(h:∀E nx,(E,nx)∈ [(E0,x1),(E1,x0),(E2,x0)]->vz P w0 X n ops Q B L E nx i):
 (i≠p1->i≠p2->∀E nx,(E,nx)∈ [(E0,x1),(E1,x0),(E2,x0)]->vz P w0 X n ops Q B L E nx i)/\(i=p1->∀done,uq P w0 X n ops Q B L done E0 E1 x1 x0 i)/\(i=p2->∀done,uq P w0 X n ops Q B L done E1 E2 x0 x0 i):=⟨λ_ _=>h,λe=>absurd e h1,λe=>absurd e h2⟩
theorem StepQ.new{B:zN}{L:List (Nat×Nat×V)}{E0 E1 E2:Owns}{x1 x0 p1 p2:Nat}(x2:p1≠p2)(h:∀done,uq P w0 X n ops Q B L done E0 E1 x1 x0 p1):
 (p1≠p1->p1≠p2->∀E nx,(E,nx)∈ [(E0,x1),(E1,x0),(E2,x0)]->vz P w0 X n ops Q B L E nx p1)/\(p1=p1->∀done,uq P w0 X n ops Q B L done E0 E1 x1 x0 p1)/\(p1=p2->∀done,uq P w0 X n ops Q B L done E1 E2 x0 x0 p1):=⟨λh=>absurd rfl h,λ_=>h,λe=>absurd e x2⟩
theorem StepQ.set{B:zN}{L:List (Nat×Nat×V)}{E0 E1 E2:Owns}{x1 x0 p1 p2:Nat}(x2:p2≠p1)(h:∀done,uq P w0 X n ops Q B L done E1 E2 x0 x0 p2):
 (p2≠p1->p2≠p2->∀E nx,(E,nx)∈ [(E0,x1),(E1,x0),(E2,x0)]->vz P w0 X n ops Q B L E nx p2)/\(p2=p1->∀done,uq P w0 X n ops Q B L done E0 E1 x1 x0 p2)/\(p2=p2->∀done,uq P w0 X n ops Q B L done E1 E2 x0 x0 p2):=⟨λ_ h=>absurd rfl h,λe=>absurd e x2,λ_=>h⟩
end
def sepS(i:Nat):List UInt8:=if i=0 then [32,40] else [32]
def litS:Nat->List Int->List UInt8
 |_,[]=>[]
 |i,n::r=>sepS i++deI n++litS (i+1) r
def zb8(l:List Int):List UInt8:=litS 0 l++[41]
theorem zl7(n:Int):∀(l:List Int)(i:Nat),litS i (l++[n])=litS i l++(sepS (i+l.length)++deI n)
 | [],i=>by
  show sepS i++deI n++[]=[]++(sepS (i+0)++deI n);rw[zW];rfl
 |m::l,i=>by
  show sepS i++deI m++litS (i+1) (l++[n])=sepS i++deI m++litS (i+1) l++_;rw[zl7 n l (i+1),zz (sepS i++deI m),zv,show i+1+l.length=i+(l.length+1) by omega]
theorem zku(i:Nat):(sepS i).length<=2:=by
 unfold sepS;split
 .exact zj _
 .exact Nat.le_succ _
theorem zgv:∀(l:List Int)(i:Nat),(∀n∈l,zb7 n)->(litS i l).length<=20*l.length
 | [],i,_=>zj _
 |n::l,i,h=>by
  have h1:=zfh (h n (zC ..)).1 (h n (zC ..)).2;have h2:=zgv l (i+1) λm hm=>h m (zE _ hm);have h3:=zku i;show(sepS i++deI n++litS (i+1) l).length<=_;rw[zg,zg,zv];omega
@[reducible] def zo7:HCtr:=hW [ints] (λx xs=>[zi x.2.1+20*zi xs.1+1<=1000000000,∀n∈xs.1,zb7 n]) λx xs=>zb8 xs.1
theorem zoC:zaD zb gmH 78 zo7:=by
 refine zb9 zba Tryz.func78 (zcy rfl) Tryz.call78 (zeb prT [66]) ?_;rintro w0 O fix B ty hX hinv ⟨(b:Bool),(bf:List UInt8),(r:List Nd),⟨⟩⟩ ⟨(l:List Int),⟨⟩⟩ hp;have hI:=λw R hR hw=>(⟨zaL (ty:=ty) hX rfl hinv.1 (ty':=ty) w R hR hw,hinv.2⟩:bInv prT [66] w R ty);obtain⟨hlen,hnum⟩:bf.length+20*l.length+1<=1000000000/\∀n∈l,zb7 n:=hp;change AWP _ _ _ _ _ ⟨[(0,⟨.hptr,((0:Nat),(0:Nat))⟩),(1,⟨.slice i64,l⟩)],wE ty b bf r,2⟩ (wQ _ zo7 ty (.ok ((),(true,((bf++zb8 l:List UInt8),(r,()))))));refine za (za (zaa zba ?_));apply zay;refine xP (ι:=Nat) (λi=>⟨[(0,⟨.hptr,((0:Nat),(0:Nat))⟩),(6,⟨.slice i64,l⟩),(7,⟨i64,((l.length:Nat):Int)⟩),(8,⟨i64,(i:Int)⟩)],wE ty (b||decide (0<i)) ((bf++litS 0 (l.take i):List UInt8)) r,2⟩) (λi=>i<=l.length) (λi=>l.length-i) 0 (zk _) ⟨⟨rfl,rfl,rfl,rfl,t_⟩,⟨by cases b<;>rfl,bufU (by show bf=bf++[];rw[zW]),t_⟩,rfl,by cases b<;>rfl⟩ ?_;intro i hi;obtain⟨b',hb'⟩:∃b',b'=(b||decide (0<i)):=⟨_,rfl⟩;rw[<-hb'];refine za (za (zaa zba ?_));apply zaq;refine zaU rfl (λhb=>?_) (λhb=>?_)
 .have hb:(i:Int)<((l.length:Nat):Int):=hb;have hil:i<l.length:=o_;have n0:(0:Int)<=(i:Int):=o_;have hat:l.getD ((i:Int)).toNat 0=l[i]:=zaY hil;have hn:zb7 (l.getD ((i:Int)).toNat 0):=by rw[hat];exact hnum _ (xN hil)
  have hd:=zfh hn.1 hn.2;have ht:zi (l.take i)=i:=by rw[yU];omega
  have hnt:=zgv (l.take i) 0 λn hm=>hnum n (vK hm);have hs:=zku i;have hbl:zi (bf++litS 0 (l.take i):List UInt8)+zi (sepS i++deI (l.getD ((i:Int)).toNat 0):List UInt8)<=1000000000:=by
   rw[zg,zg];omega
  apply zah;apply zaq;apply zay;refine za (za (zaa zba ?_));refine AWP.mono (Q:=λe sg=>e=.normal/\Fit sg ⟨[(0,⟨.hptr,((0:Nat),(0:Nat))⟩),(6,⟨.slice i64,l⟩),(7,⟨i64,((l.length:Nat):Int)⟩),(8,⟨i64,(i:Int)⟩)],wE ty true ((bf++litS 0 (l.take i)++(sepS i++deI (l.getD ((i:Int)).toNat 0)):List UInt8)) r,2⟩) ?_ ?_
  .have hsep:([[32,40],[32]]:List (List UInt8)).getD (min (i:Int) 1).toNat []=sepS i:=by
    cases i with
    |zero=>rfl
    |succ k=>
     rw[show min (((k+1:Nat)):Int) 1=1 by omega];rfl
   have m0:(0:Int)<=min (i:Int) 1:=o_;have m1:min (i:Int) 1<((2:Nat):Int):=o_;have m2:(min (i:Int) 1).toNat<2:=o_;have hcat:zi (([[32,40],[32]]:List (List UInt8)).getD (min (i:Int) 1).toNat [])+zi (deI (l.getD ((i:Int)).toNat 0))<=maxLen:=by rw[hsep];unfold maxLen;omega
   have hbl2:zi (bf++litS 0 (l.take i):List UInt8)+zi (([[32,40],[32]]:List (List UInt8)).getD (min (i:Int) 1).toNat []++deI (l.getD ((i:Int)).toNat 0):List UInt8)<=1000000000:=by rw[hsep];exact hbl
   rw[<-hsep];cases b'
   all_goals
    refine zvm 11 3 (2,some (.buf 9 .str [[32,40],[32]])) 3 [(0,⟨.hptr,((0:Nat),(0:Nat))⟩),(4,⟨i64,(i:Int)⟩),(5,⟨i64,l.getD ((i:Int)).toNat 0⟩),(6,⟨.slice i64,l⟩),(7,⟨i64,((l.length:Nat):Int)⟩),(8,⟨i64,(i:Int)⟩)] [(0,13,⟨.hptr,((0:Nat),(0:Nat))⟩),(1,14,⟨.hptr,((0:Nat),(0:Nat))⟩),(2,15,⟨.hptr,((0:Nat),(0:Nat))⟩),(3,16,⟨.obuf .str,(2:Nat)⟩),(4,17,⟨i64,(i:Int)⟩),(5,18,⟨i64,min (i:Int) 1⟩),(6,19,⟨.optr .str,⟨2,.slice .str,.elm (min (i:Int) 1).toNat⟩⟩),(7,20,⟨.str,([[32,40],[32]]:List (List UInt8)).getD (min (i:Int) 1).toNat []⟩),(8,21,⟨i64,l.getD ((i:Int)).toNat 0⟩),(9,22,⟨.str,deI (l.getD ((i:Int)).toNat 0)⟩),(10,23,⟨.str,([[32,40],[32]]:List (List UInt8)).getD (min (i:Int) 1).toNat []++deI (l.getD ((i:Int)).toNat 0)⟩)] dM hX 12 rfl rfl (by kernel_rfl) (by kernel_rfl) rfl ⟨rfl,rfl,rfl,rfl,rfl,rfl,t_⟩ (zA (zA (zA (zA (zA (zA (zA (zA (zA (zA (zA qU ?_) ?_) ?_) ?_) ?_) ?_) ?_) ?_) ?_) ?_) ?_) rfl ⟨rfl,rfl,rfl,t_⟩ rfl rfl rfl ?_
    .exact λ_ _ _=>⟨λ_=>⟨λ_=>zx hX zba k_,zx hX zba k_⟩,λh=>absurd h d_⟩
    .exact λ_ _ _=>⟨λ_=>⟨λ_=>zx hX zba k_,zx hX zba k_⟩,λh=>absurd h d_⟩
    .exact λ_ _ _=>⟨λ_=>⟨λ_=>(uF _ rfl ⟨.hptr,((0:Nat),(0:Nat))⟩ (λ_=>rfl) λF N hN=>StepA.step (eqP0 _ _ rfl) hX zba rfl t_ hN),(uF _ rfl ⟨.hptr,((0:Nat),(0:Nat))⟩ (λ_=>rfl) λF N hN=>StepA.step (eqP0 _ _ rfl) hX zba rfl t_ hN)⟩,λh=>absurd h d_⟩
    .exact λ_ _ _=>⟨λh=>absurd rfl h,λ_=>uG hX zba k_⟩
    .exact λ_ _ _=>⟨λ_=>⟨λ_=>zx hX zba k_,zx hX zba k_⟩,λh=>absurd h d_⟩
    .exact λ_ _ _=>⟨λ_=>⟨λ_=>zx hX zba k_,zx hX zba k_⟩,λh=>absurd h d_⟩
    .exact λ_ haf _=>⟨λ_=>⟨λh=>absurd (zaz.2 (haf 3 rfl)) (by rw[h];decide),zx hX zba ⟨_,rfl,λF=>⟨_,rfl,⟨m0,m1⟩,rfl,λ_=>rfl,rfl⟩⟩⟩,λh=>absurd h d_⟩
    .exact λ_ haf hdc=>⟨λ_=>⟨λh=>absurd (zaz.2 (hdc 6 (haf 6 rfl) 3 rfl)) (by rw[h];decide),zx hX zba ⟨_,rfl,λF=>⟨_,rfl,m2,rfl,λ_=>rfl,rfl⟩⟩⟩,λh=>absurd h d_⟩
    .exact λ_ _ _=>⟨λ_=>⟨λ_=>zx hX zba k_,zx hX zba k_⟩,λh=>absurd h d_⟩
    .exact λ_ _ _=>⟨λ_=>⟨λ_=>zx hX zba ⟨_,rfl,λF=>⟨_,rfl,hn,rfl,λ_=>rfl,rfl⟩⟩,zx hX zba ⟨_,rfl,λF=>⟨_,rfl,hn,rfl,λ_=>rfl,rfl⟩⟩⟩,λh=>absurd h d_⟩
    .exact λ_ haf hdc=>⟨λ_=>⟨λh=>absurd (zaz.2 (hdc 6 (hdc 7 (haf 7 rfl) 6 rfl) 3 rfl)) (by rw[h];decide),zx hX zba ⟨_,rfl,λF=>⟨_,rfl,hcat,rfl,λ_=>rfl,rfl⟩⟩⟩,λh=>absurd h d_⟩
    refine StepA.own hX zoM rfl hbl2 hI ?_;exact QC.of ⟨rfl,⟨rfl,rfl,rfl,rfl,t_⟩,⟨rfl,rfl,t_⟩,rfl,rfl⟩
  .rintro e s' ⟨rfl,hf⟩;have q0:inR .i64 ((i:Int)+1):=zad o_ o_;have ht1:(b||decide (0<i+1))=true:=by simp
   refine zak hf ?_ (by exact zq rfl);refine za (za (zaa zba ?_));refine⟨i+1,hil,by omega,?_⟩;rw[ht1];refine⟨⟨rfl,rfl,rfl,vI64 o_,t_⟩,⟨rfl,bufU ?_,t_⟩,rfl,rfl⟩;rw[hat,zS hil,zl7,ht,yL,zz]
 .have hb:¬((i:Int)<((l.length:Nat):Int)):=hb;obtain rfl:i=l.length:=o_;have hnt:=zgv (l.take l.length) 0 λn hm=>hnum n (vK hm);have hlt:=xR (l:=l);rw[hlt]at hnt;have hbl:zi (bf++litS 0 (l.take l.length):List UInt8)+zi ([41]:List UInt8)<=1000000000:=by
   rw[hlt,zg];show bf.length+_+1<=_;omega
  rw[show(bf++zb8 l:List UInt8)=bf++litS 0 (l.take l.length)++[41] from by rw[hlt,zz];rfl];apply zaw;cases b'
  all_goals
   refine zae ?_;refine za4 2 zba ?_;refine AL.step (eqP0 _ _ rfl) hX zba rfl t_ ?_;refine AL.own 0 hX zba zoM rfl t_ rfl rfl hbl hI ?_;refine AL.nil ?_;exact⟨.inl rfl,⟨_,rfl,u8,1,_,rfl,rfl,rfl⟩,D2 rfl⟩
def wAt:List UInt8:=[64]
def spW(w:List UInt8):List UInt8:=32::w
def ndK(n:Nd):Int:=n.1
def ndC(n:Nd):Int:=n.2.1
def ndL(n:Nd):Int:=n.2.2.1
def ndR(n:Nd):Int:=n.2.2.2.1
def ndN(n:Nd):Int:=n.2.2.2.2.1
def ndM(n:Nd):Int:=n.2.2.2.2.2.1
def ndI(n:Nd):List Int:=n.2.2.2.2.2.2.1
def ndS(n:Nd):List UInt8:=n.2.2.2.2.2.2.2.1
def zd0(n:Nd):List UInt8:=
 if ndK n=1 then putS zlC [ndN n,ndM n]
 else if ndK n=2 then putS zho [ndC n,ndN n,ndM n]
 else if ndK n=3 then putS zct [ndC n]++zb8 (ndI n)
 else if ndK n=4 then putS zbe [ndC n]++zb8 (ndI n)
 else if ndK n=5 then putS zbo []++zb8 (ndI n)
 else if ndK n=6 then putS zdA [ndC n]++zb8 (ndI n)
 else if ndK n=7 then putS wNth [ndC n,ndN n,ndM n]++putS (zcl (ndL n)) []
 else if ndK n=18 then putS (wAt++ndS n) []
 else []
def zb6(b:List UInt8)(n:Nd):List UInt8:=
 if ndK n=11 then putS (spW zfK) [ndN n]
 else if ndK n=12 then putS (spW zjj) [ndN n]
 else if ndK n=13 then putS (spW zfJ) [ndN n]
 else if ndK n=14 then putS (spW zfY) []++zb8 (ndI n)
 else if ndK n=15 then putS (spW zcu) []++zb8 (ndI n)
 else if ndK n=16 then putS (spW wPos) [ndC n]++(putS (zcl (ndM n)) []++zb8 (ndI n))
 else if ndK n=17 then putS (spW zbY) [ndN n]++(putS (spW wOf++[32]) []++b)
 else []
def opWd(x:Int):List UInt8:=(opsL.getD (x-1).toNat ([],0,())).1
def zar(r:List Nd)(i:Int):Nd:=r.getD i.toNat zNd
def parS(c:Bool)(t:List UInt8):List UInt8:=if c then t else [40]++(t++[41])
def zdC:Nat->List Nd->Int->List UInt8
 |0,_,_=>[]
 |k+1,r,i=>
  if levS (ndK (zar r i))<4 then
   parS (decide (levS (ndK (zar r (ndL (zar r i))))>=levS (ndK (zar r i)))) (zdC k r (ndL (zar r i)))++(putS ([32]++opWd (levS (ndK (zar r i)))++[32]) []++parS (decide (levS (ndK (zar r (ndR (zar r i))))>=levS (ndK (zar r i))+1)) (zdC k r (ndR (zar r i))))
  else if levS (ndK (zar r i))=4 then
   parS (decide (levS (ndK (zar r (ndL (zar r i))))>=4)) (zdC k r (ndL (zar r i)))++zb6 (parS (decide (levS (ndK (zar r (ndR (zar r i))))>=5)) (zdC k r (ndR (zar r i)))) (zar r i)
  else zd0 (zar r i)
def opdF(k:Nat)(r:List Nd)(i x0:Int):List UInt8:=parS (decide (levS (ndK (zar r i))>=x0)) (zdC k r i)
def zmM(n:Nd):Prop:=(zb7 (ndC n)/\zb7 (ndN n)/\zb7 (ndM n))/\(∀x∈ndI n,zb7 x)/\(ndI n).length<=100/\(ndS n).length<=100/\(ndK n=7->0<=ndL n/\ndL n<=1)/\(ndK n=16->0<=ndM n/\ndM n<=1)
def idx{α:Type}(f:α->Bool)(l:List α):Int:=if l.findIdx f<l.length then(l.findIdx f:Int) else -1
theorem zk0{α:Type}{f:α->Bool}{l:List α}(h:∀k(hk:k<l.length),f l[k]=false):idx f l= -1:=by
 unfold idx;rw[if_neg];intro hl;have:=g8 (w:=hl);rw[h _ hl]at this;cases this
theorem zkZ{α:Type}{f:α->Bool}{l:List α}{k:Nat}(hk:k<l.length)(h:f l[k]=true)(hb:∀j(hj:j<k),f (l[j]'(Nat.lt_trans hj hk))=false):idx f l=(k:Int):=by
 have:l.findIdx f=k:=by
  rw[List.findIdx_eq hk];exact⟨h,λj hj=>hb j hj⟩
 unfold idx;rw[this,if_pos hk]
theorem znw{α:Type}(f:α->Bool)(l:List α):decide (idx f l>=0)=l.any f:=by
 rw[zY,decide_eq_true_iff,kE];unfold idx;constructor
 .intro h;split at h
  .rename_i hl;exact⟨l[l.findIdx f],xN hl,g8 (w:=hl)⟩
  .omega
 .rintro ⟨x,hx,hf⟩;rw[if_pos (List.findIdx_lt_length_of_exists ⟨x,hx,hf⟩)];omega
def inB(n lo hi:Int):Bool:=decide (lo<=n)&&decide (n<=hi)
def zbt:Ctr:={ args:=[i64,i64,i64],pre:=λ_=>[],res:=.bool,own:=none,out:=λx=>inB x.1 x.2.1 x.2.2.1 }
theorem zlx:yT zb gmH 70 zbt:=by
 refine ctr2 zaj Tryz.func70 Tryz.call70 ?_;rintro w0 X hX ⟨n,lo,hi,_⟩ hp
 iterate 2 (refine za (za (zaa zaj ?_)))
 refine zp ⟨.inr rfl,D1 ?_⟩;show(bif decide (lo<=n) then decide (n<=hi) else false)=inB n lo hi;unfold inB;cases decide (lo<=n)<;>rfl
def not1(n:Int):Bool:=!(n==1)
def zzX:Ctr:={ args:=[i64],pre:=λ_=>[],res:=.bool,own:=none,out:=λx=>not1 x.1 }
theorem zw5:yT zb gmH 75 zzX:=by
 refine ctr2 zaj Tryz.func75 Tryz.call75 ?_;rintro w0 X hX ⟨n,_⟩ hp;(repeat refine za (za (zaa zaj ?_)));refine za ?_;refine zp ⟨.inr rfl,D1 ?_⟩;rfl
def bigN(n:Nd):Bool:=decide (((n.2.2.2.2.2.2.1.length:Nat):Int)>64)||decide (((n.2.2.2.2.2.2.2.1.length:Nat):Int)>32)
def zAg:Ctr:={ args:=[nd],pre:=λ_=>[],res:=.bool,own:=none,out:=λx=>bigN x.1 }
theorem zyt:yT zb gmH 37 zAg:=by
 refine ctr2 zaj Tryz.func37 Tryz.call37 ?_;rintro w0 X hX ⟨n,_⟩ hp
 iterate 2 (refine za (za (zaa zaj ?_)))
 refine zp ⟨.inr rfl,D1 ?_⟩;show(bif decide (((n.2.2.2.2.2.2.1.length:Nat):Int)>64) then true else decide (((n.2.2.2.2.2.2.2.1.length:Nat):Int)>32))=bigN n;unfold bigN;cases decide (((n.2.2.2.2.2.2.1.length:Nat):Int)>64)<;>rfl
def litN:zd:=.func (.func 37) #[] #[]
def litU:zd:=.func (.func 75) #[] #[]
def zz5:Ctr:={ args:=[.slice nd,.lit],pre:=λx=>[x.2.1=litN],res:=i64,own:=none,out:=λx=>idx bigN x.1 }
def zA4:Kn:={ gmK with C:=[(37,zAg)] }
theorem zeA:KnOk zb gmH zA4:=zaj.with (.cons zyt .nil)
theorem zxC:yT zb gmH 69 zz5:=by
 refine ctr2 zeA Tryz.func69 Tryz.call69 ?_;rintro w0 X hX ⟨l,f,_⟩ hp;obtain rfl:f=litN:=hp;change AWP _ _ _ _ _ ⟨[(0,⟨.slice nd,l⟩),(1,⟨.lit,litN⟩)],[],0⟩ _;refine wg 0 rfl λhl=>?_;unfold maxLen at hl;(repeat refine za (za (zaa zeA ?_)));refine za ?_;refine xP (ι:=Nat) (λk=>⟨[(0,⟨.slice nd,l⟩),(1,⟨.lit,litN⟩),(7,⟨i64,((l.length:Nat):Int)⟩),(8,⟨i64,(k:Int)⟩)],[],0⟩) (λk=>k<=l.length/\∀j(hj:j<l.length),j<k->bigN l[j]=false) (λk=>l.length-k) 0 ⟨by omega,by omega⟩ ⟨⟨rfl,rfl,rfl,rfl,t_⟩,t_,rfl,rfl⟩ ?_;rintro k ⟨hk,hn⟩;refine za (za (zaa zeA ?_));apply zaq;refine zaU rfl (λhb=>?_) (λhb=>?_)
 .have hb:(k:Int)<(l.length:Nat):=hb;have x0:k<l.length:=o_;have n0:(0:Int)<=(k:Int):=o_
  iterate 2 (refine za (za (zaa zeA ?_)))
  refine zaf rfl (λhb=>?_) (λhb=>?_)
  .have hc:bigN (l.getD (k:Int).toNat zNd)=true:=hb;rw[zaY x0]at hc;(repeat refine za (za (zaa zeA ?_)));refine za ?_;refine zp ⟨.inr rfl,D1 ?_⟩;show(k:Int)=idx _ l;exact(zkZ x0 hc λj hj=>hn j _ hj).symm
  .have hc:bigN (l.getD (k:Int).toNat zNd)=false:=hb;rw[zaY x0]at hc;refine za (za ?_);refine zac hX zeA rfl ?_ ?_
   .exact zbb o_
   exact⟨k+1,⟨by omega,λj hj x0=>by
    by_cases e:j=k
    .subst e;exact hc
    .exact hn j hj o_⟩,by omega,⟨rfl,rfl,rfl,zdU _,t_⟩,t_,rfl,rfl⟩
 .
  have:k=l.length:=o_;subst this;(repeat refine za (za (zaa zeA ?_)));refine za ?_;refine zp ⟨.inr rfl,D1 ?_⟩;exact(zk0 λj hj=>hn j hj hj).symm
def zAi:Ctr:={ args:=[.slice nd,.lit],pre:=λx=>[x.2.1=litN],res:=.bool,own:=none,out:=λx=>List.any x.1 bigN }
def zA8:Kn:={ gmK with C:=[(69,zz5)] }
theorem zgz:KnOk zb gmH zA8:=zaj.with (.cons zxC .nil)
theorem zyA:yT zb gmH 38 zAi:=by
 refine ctr2 zgz Tryz.func38 Tryz.call38 ?_;rintro w0 X hX ⟨l,f,_⟩ hp;obtain rfl:=hp;(repeat(first|apply zaq|apply zah|apply zcQ|apply zaw|apply zay|refine zac hX zgz rfl t_ ?_|refine zac hX zgz rfl id ?_|refine zac hX zgz rfl ⟨id,id⟩ ?_));refine za (za (zaa zgz ?_));refine zp ⟨.inr rfl,D1 ?_⟩;exact znw _ l
def zz3:Ctr:={ args:=[.slice i64,.lit],pre:=λx=>[x.2.1=litU],res:=i64,own:=none,out:=λx=>idx not1 x.1 }
def zA3:Kn:={ gmK with C:=[(75,zzX)] }
theorem zez:KnOk zb gmH zA3:=zaj.with (.cons zw5 .nil)
theorem zxA:yT zb gmH 112 zz3:=by
 refine ctr2 zez Tryz.func112 Tryz.call112 ?_;rintro w0 X hX ⟨l,f,_⟩ hp;obtain rfl:f=litU:=hp;change AWP _ _ _ _ _ ⟨[(0,⟨.slice i64,l⟩),(1,⟨.lit,litU⟩)],[],0⟩ _;refine wg 0 rfl λhl=>?_;unfold maxLen at hl;(repeat refine za (za (zaa zez ?_)));refine za ?_;refine xP (ι:=Nat) (λk=>⟨[(0,⟨.slice i64,l⟩),(1,⟨.lit,litU⟩),(7,⟨i64,((l.length:Nat):Int)⟩),(8,⟨i64,(k:Int)⟩)],[],0⟩) (λk=>k<=l.length/\∀j(hj:j<l.length),j<k->not1 l[j]=false) (λk=>l.length-k) 0 ⟨by omega,by omega⟩ ⟨⟨rfl,rfl,rfl,rfl,t_⟩,t_,rfl,rfl⟩ ?_;rintro k ⟨hk,hn⟩;refine za (za (zaa zez ?_));apply zaq;refine zaU rfl (λhb=>?_) (λhb=>?_)
 .have hb:(k:Int)<(l.length:Nat):=hb;have x0:k<l.length:=o_;have n0:(0:Int)<=(k:Int):=o_
  iterate 2 (refine za (za (zaa zez ?_)))
  refine zaf rfl (λhb=>?_) (λhb=>?_)
  .have hc:not1 (l.getD (k:Int).toNat (0:Int))=true:=hb;rw[zaY x0]at hc;(repeat refine za (za (zaa zez ?_)));refine za ?_;refine zp ⟨.inr rfl,D1 ?_⟩;show(k:Int)=idx _ l;exact(zkZ x0 hc λj hj=>hn j _ hj).symm
  .have hc:not1 (l.getD (k:Int).toNat (0:Int))=false:=hb;rw[zaY x0]at hc;refine za (za ?_);refine zac hX zez rfl ?_ ?_
   .exact zbb o_
   exact⟨k+1,⟨by omega,λj hj x0=>by
    by_cases e:j=k
    .subst e;exact hc
    .exact hn j hj o_⟩,by omega,⟨rfl,rfl,rfl,zdU _,t_⟩,t_,rfl,rfl⟩
 .
  have:k=l.length:=o_;subst this;(repeat refine za (za (zaa zez ?_)));refine za ?_;refine zp ⟨.inr rfl,D1 ?_⟩;exact(zk0 λj hj=>hn j hj hj).symm
def zAh:Ctr:={ args:=[.slice i64,.lit],pre:=λx=>[x.2.1=litU],res:=.bool,own:=none,out:=λx=>List.any x.1 not1 }
def zA7:Kn:={ gmK with C:=[(112,zz3)] }
theorem zgy:KnOk zb gmH zA7:=zaj.with (.cons zxA .nil)
theorem zyz:yT zb gmH 74 zAh:=by
 refine ctr2 zgy Tryz.func74 Tryz.call74 ?_;rintro w0 X hX ⟨l,f,_⟩ hp;obtain rfl:=hp;(repeat(first|apply zaq|apply zah|apply zcQ|apply zaw|apply zay|refine zac hX zgy rfl t_ ?_|refine zac hX zgy rfl id ?_|refine zac hX zgy rfl ⟨id,id⟩ ?_));refine za (za (zaa zgy ?_));refine zp ⟨.inr rfl,D1 ?_⟩;exact znw _ l
def zg5(b:Int×Int×Unit):Bool:=b.1==0&&b.2.1==0
def zhN(l:List Int)(b:Int×Int×Unit)(i:Nat):Bool:=!inB (l.getD i 0) b.1 b.2.1||(decide (0<i)&&decide (l.getD i 0<=l.getD (i-1) 0))||(l.getD i 0==0&&decide (b.1<0))
def zaV(l:List Int)(b:Int×Int×Unit):Bool:=bif zg5 b then((l.length:Nat):Int)==0 else(qB l.length).all (λi=>!zhN l b i)&&decide (((l.length:Nat):Int)>0)
theorem zox(b:Int×Int×Unit):eqb lims b (0,0,())=zg5 b:=by
 obtain⟨x,y,⟨⟩⟩:=b;unfold zg5;rw[zY,zbs,zf,beq_iff_eq,beq_iff_eq];exact⟨λh=>⟨congrArg (λz=>z.1) h,congrArg (λz=>z.2.1) h⟩,λ⟨h1,h2⟩=>by
  have h1:x=0:=h1;have h2:y=0:=h2;rw[h1,h2]⟩
def zsY:Ctr:={ args:=[ints,lims],pre:=λ_=>[],res:=.bool,own:=none,out:=λx=>zaV x.1 x.2.1 }
def kVl:Kn:={ gmK with C:=[(70,zbt)] }
theorem zbO:KnOk zb gmH kVl:=zaj.with (.cons zlx .nil)
theorem zrP:yT zb gmH 72 zsY:=by
 refine ctr2 zbO Tryz.func72 Tryz.call72 ?_;rintro w0 X hX ⟨(l:List Int),(b:Int×Int×Unit),_⟩ hp;change AWP _ _ _ _ _ ⟨[(0,⟨ints,l⟩),(1,⟨lims,b⟩)],[],0⟩ _;refine wg 0 rfl λhl=>?_;unfold maxLen at hl;apply zaq
 iterate 2 (refine za (za (zaa zbO ?_)))
 refine zaf rfl (λhb=>?_) (λhb=>?_)
 .have hb:zg5 b=true:=by rw[<-zox];exact hb
  (repeat refine za (za (zaa zbO ?_)));refine za ?_;refine zp ⟨.inr rfl,D1 ?_⟩;show _=zaV l b;unfold zaV;rw[hb];rfl
 have hb:zg5 b=false:=by rw[<-zox];exact hb
 (repeat refine za (za (zaa zbO ?_)));refine za ?_;refine xP (ι:=Nat) (λk=>⟨[(0,⟨ints,l⟩),(3,⟨.optr lims,⟨0,lims,.here⟩⟩),(13,⟨ints,l⟩),(14,⟨i64,((l.length:Nat):Int)⟩),(15,⟨i64,(k:Int)⟩)],[(0,some (.box lims b))],1⟩) (λk=>k<=l.length/\∀j,j<k->zhN l b j=false) (λk=>l.length-k) 0 ⟨by omega,by omega⟩ ⟨⟨rfl,rfl,rfl,rfl,rfl,t_⟩,⟨rfl,t_⟩,rfl,rfl⟩ ?_;rintro k ⟨hk,hn⟩;refine za (za (zaa zbO ?_));apply zaq;refine zaU rfl (λhb=>?_) (λhb=>?_)
 .have hb:(k:Int)<(l.length:Nat):=hb;have x1:k<l.length:=o_;have n0:(0:Int)<=(k:Int):=o_;refine za (za (zaa zbO ?_));refine za (za ?_);refine zac hX zbO rfl ?_ ?_
  .have i1:inR .i64 ((k:Int)-1):=zad o_ o_;have i2:(k:Int)-1<(l.length:Nat):=o_;have i3:decide ((k:Int)>0)=true->0<=(k:Int)-1:=λh=>by have:=of_decide_eq_true h;omega
   cases zbt.out (l.getD ((k:Int)).toNat (zav i64),b.fst,b.snd.fst,())<;>cases hD:decide ((k:Int)>0)<;>cases (l.getD ((k:Int)).toNat (zav i64)==0)<;>cases decide (l.getD ((k:Int)).toNat (zav i64)<=l.getD ((k:Int)-1).toNat (zav i64))
   all_goals
    exact z_
  have hq:decide ((k:Int)>0)=decide (0<k):=by rw[zY,decide_eq_true_iff,decide_eq_true_iff];omega
  have x0:((k:Int)-1).toNat=k-1:=o_;refine zaf rfl (λhb=>?_) (λhb=>?_)
  .have hc:zhN l b k=true:=by
    rw[<-hb];unfold zhN;rw[<-hq, <-x0];show(!zbt.out (l.getD ((k:Int)).toNat (zav i64),b.fst,b.snd.fst,())||(decide ((k:Int)>0)&&decide (l.getD ((k:Int)).toNat (zav i64)<=l.getD ((k:Int)-1).toNat (zav i64)))||((l.getD ((k:Int)).toNat (zav i64)==0)&&decide (b.1<0)))=_;cases zbt.out (l.getD ((k:Int)).toNat (zav i64),b.fst,b.snd.fst,())<;>cases hD:decide ((k:Int)>0)<;>cases (l.getD ((k:Int)).toNat (zav i64)==0)<;>cases decide (l.getD ((k:Int)).toNat (zav i64)<=l.getD ((k:Int)-1).toNat (zav i64))<;>cases decide (b.1<0)<;>rfl
   (repeat refine za (za (zaa zbO ?_)));refine za ?_;refine zp ⟨.inr rfl,D1 ?_⟩;show false=zaV l b;unfold zaV;rw[‹zg5 b=false›,show(qB l.length).all (λi=>!zhN l b i)=false from ?_]
   .rfl
   .rw[vL];intro ha;have:=yE.1 ha k (xZ.2 x1);rw[hc]at this;cases this
  .have hc:zhN l b k=false:=by
    rw[<-hb];unfold zhN;rw[<-hq, <-x0];show(!zbt.out (l.getD ((k:Int)).toNat (zav i64),b.fst,b.snd.fst,())||(decide ((k:Int)>0)&&decide (l.getD ((k:Int)).toNat (zav i64)<=l.getD ((k:Int)-1).toNat (zav i64)))||((l.getD ((k:Int)).toNat (zav i64)==0)&&decide (b.1<0)))=_;cases zbt.out (l.getD ((k:Int)).toNat (zav i64),b.fst,b.snd.fst,())<;>cases hD:decide ((k:Int)>0)<;>cases (l.getD ((k:Int)).toNat (zav i64)==0)<;>cases decide (l.getD ((k:Int)).toNat (zav i64)<=l.getD ((k:Int)-1).toNat (zav i64))<;>cases decide (b.1<0)<;>rfl
   refine za (za ?_);refine zac hX zbO rfl ?_ ?_
   .exact zbb o_
   exact⟨k+1,⟨by omega,λj hj=>by
    by_cases e:j=k
    .subst e;exact hc
    .exact hn j o_⟩,by omega,⟨rfl,rfl,rfl,rfl,zdU _,t_⟩,⟨rfl,t_⟩,rfl,rfl⟩
 .have hb:¬((k:Int)<(l.length:Nat)):=hb;have:k=l.length:=o_;subst this;(repeat refine za (za (zaa zbO ?_)));refine za ?_;refine zp ⟨.inr rfl,D1 ?_⟩;show _=zaV l b;unfold zaV;rw[‹zg5 b=false›,show(qB l.length).all (λi=>!zhN l b i)=true from yE.2 λi hi=>by rw[hn i (xZ.1 hi)];rfl];rfl
def zcw(n:Nd):Bool:=
 bif n.1==1 then bif inB n.2.2.2.2.1 1 1099511627776 then inB n.2.2.2.2.2.1 0 1099511627776 else false
 else bif n.1==2 then bif inB n.2.2.2.2.1 1 400 then inB n.2.2.2.2.2.1 0 (n.2.2.2.2.1-1) else false
 else bif n.1==7 then bif (bif (bif inB n.2.2.2.2.1 (-60) 60 then !(n.2.2.2.2.1==0) else false) then inB n.2.2.2.2.2.1 0 6 else false) then inB n.2.2.1 0 1 else false
 else bif n.1==11 then bif inB n.2.2.2.2.1 (-1099511627776) 1099511627776 then n.2.2.2.2.2.1==0 else false
 else bif (n.1==12)||(n.1==13) then bif inB n.2.2.2.2.1 0 1099511627776 then n.2.2.2.2.2.1==0 else false
 else bif n.1==16 then bif n.2.2.2.2.1==0 then inB n.2.2.2.2.2.1 0 1 else false
 else bif n.1==17 then bif inB n.2.2.2.2.1 1 400 then n.2.2.2.2.2.1==0 else false
 else bif n.2.2.2.2.1==0 then n.2.2.2.2.2.1==0 else false
def zzW:Ctr:={ args:=[nd],pre:=λ_=>[],res:=.bool,own:=none,out:=λx=>zcw x.1 }
theorem zw2:yT zb gmH 73 zzW:=by
 refine ctr2 zbO Tryz.func73 Tryz.call73 ?_;rintro w0 X hX ⟨n,_⟩ hp;apply zaq
 iterate 3 (refine za (za (zaa zbO ?_)))
 refine zaf rfl (λh1=>?_) (λh1=>?_)
 .
  refine za (za (zac hX zbO rfl ?_ ?_))
  .have i0:zbt.out (n.2.2.2.2.1,(1:Int),(400:Int),())=true->inR .i64 (n.2.2.2.2.1-1):=λh=>by
    have h:inB n.2.2.2.2.1 1 400=true:=h;unfold inB at h;rw[zf,decide_eq_true_iff,decide_eq_true_iff]at h;exact zad o_ o_
   cases hA:zbt.out (n.2.2.2.2.1,(1:Int),(1099511627776:Int),())
   all_goals
    exact z_
  refine zp ⟨.inr rfl,D1 ?_⟩;show _=zcw n;simp only[zcw,h1,cond_true,cond_false,jM,jY,jL,qZ]
  all_goals (first|rfl|(simp;done))
 refine za (za (zaa zbO ?_));refine zaf rfl (λh2=>?_) (λh2=>?_)
 .
  refine za (za (zac hX zbO rfl ?_ ?_))
  .have i0:zbt.out (n.2.2.2.2.1,(1:Int),(400:Int),())=true->inR .i64 (n.2.2.2.2.1-1):=λh=>by
    have h:inB n.2.2.2.2.1 1 400=true:=h;unfold inB at h;rw[zf,decide_eq_true_iff,decide_eq_true_iff]at h;exact zad o_ o_
   cases hA:zbt.out (n.2.2.2.2.1,(1:Int),(400:Int),())
   all_goals
    repeat'(first|exact trivial|assumption|rfl|exact i0 rfl|exact i0 hA|(intro h;exact absurd h kV)|(refine⟨?_,?_⟩)|(intro _))
  refine zp ⟨.inr rfl,D1 ?_⟩;show _=zcw n;simp only[zcw,h1,h2,cond_true,cond_false,jM,jY,jL,qZ]
  all_goals (first|rfl|(simp;done))
 refine za (za (zaa zbO ?_));refine zaf rfl (λh7=>?_) (λh7=>?_)
 .
  refine za (za (zac hX zbO rfl ?_ ?_))
  .have i0:zbt.out (n.2.2.2.2.1,(1:Int),(400:Int),())=true->inR .i64 (n.2.2.2.2.1-1):=λh=>by
    have h:inB n.2.2.2.2.1 1 400=true:=h;unfold inB at h;rw[zf,decide_eq_true_iff,decide_eq_true_iff]at h;exact zad o_ o_
   cases hA:zbt.out (n.2.2.2.2.1,(-60:Int),(60:Int),())<;>cases (n.2.2.2.2.1==0)<;>cases zbt.out (n.2.2.2.2.2.1,(0:Int),(6:Int),())
   all_goals
    exact z_
  refine zp ⟨.inr rfl,D1 ?_⟩;show _=zcw n;simp only[zcw,h1,h2,h7,cond_true,cond_false,jM,jY,jL,qZ]
  all_goals (first|rfl|(simp;done))
 refine za (za (zaa zbO ?_));refine zaf rfl (λx0=>?_) (λx0=>?_)
 .
  refine za (za (zac hX zbO rfl ?_ ?_))
  .have i0:zbt.out (n.2.2.2.2.1,(1:Int),(400:Int),())=true->inR .i64 (n.2.2.2.2.1-1):=λh=>by
    have h:inB n.2.2.2.2.1 1 400=true:=h;unfold inB at h;rw[zf,decide_eq_true_iff,decide_eq_true_iff]at h;exact zad o_ o_
   cases hA:zbt.out (n.2.2.2.2.1,(-1099511627776:Int),(1099511627776:Int),())
   all_goals
    exact z_
  refine zp ⟨.inr rfl,D1 ?_⟩;show _=zcw n;simp only[zcw,h1,h2,h7,x0,cond_true,cond_false,jM,jY,jL,qZ]
  all_goals (first|rfl|(simp;done))
 refine za (za (zaa zbO ?_));refine zbi (Y':=⟨[(1,⟨.optr nd,⟨0,nd,.here⟩⟩),(4,⟨i64,n.1⟩),(58,⟨.bool,(n.1==12)||(n.1==13)⟩)],[(0,some (.box nd n))],1⟩) ?_ ?_
 .refine zaf rfl (λh=>?_) (λh=>?_)
  .
   apply zah;rw[h];exact⟨⟨rfl,rfl,rfl,t_⟩,⟨rfl,t_⟩,rfl,rfl⟩
  .
   refine za (za (zaa zbO ?_));rw[h];exact⟨⟨rfl,rfl,rfl,t_⟩,⟨rfl,t_⟩,rfl,rfl⟩
 refine zaf rfl (λx1=>?_) (λx1=>?_)
 .
  refine za (za (zac hX zbO rfl ?_ ?_))
  .have i0:zbt.out (n.2.2.2.2.1,(1:Int),(400:Int),())=true->inR .i64 (n.2.2.2.2.1-1):=λh=>by
    have h:inB n.2.2.2.2.1 1 400=true:=h;unfold inB at h;rw[zf,decide_eq_true_iff,decide_eq_true_iff]at h;exact zad o_ o_
   cases hA:zbt.out (n.2.2.2.2.1,(0:Int),(1099511627776:Int),())
   all_goals
    exact z_
  refine zp ⟨.inr rfl,D1 ?_⟩;show _=zcw n;simp only[zcw,h1,h2,h7,x0,x1,cond_true,cond_false,jM,jY,jL,qZ]
  all_goals (first|rfl|(simp;done))
 refine za (za (zaa zbO ?_));refine zaf rfl (λx2=>?_) (λx2=>?_)
 .
  refine za (za (zac hX zbO rfl ?_ ?_))
  .have i0:zbt.out (n.2.2.2.2.1,(1:Int),(400:Int),())=true->inR .i64 (n.2.2.2.2.1-1):=λh=>by
    have h:inB n.2.2.2.2.1 1 400=true:=h;unfold inB at h;rw[zf,decide_eq_true_iff,decide_eq_true_iff]at h;exact zad o_ o_
   cases hA:(n.2.2.2.2.1==0)
   all_goals
    exact z_
  refine zp ⟨.inr rfl,D1 ?_⟩;show _=zcw n;simp only[zcw,h1,h2,h7,x0,x1,x2,cond_true,cond_false,jM,jY,jL,qZ]
  all_goals (first|rfl|(simp;done))
 refine za (za (zaa zbO ?_));refine zaf rfl (λx3=>?_) (λx3=>?_)
 .
  refine za (za (zac hX zbO rfl ?_ ?_))
  .have i0:zbt.out (n.2.2.2.2.1,(1:Int),(400:Int),())=true->inR .i64 (n.2.2.2.2.1-1):=λh=>by
    have h:inB n.2.2.2.2.1 1 400=true:=h;unfold inB at h;rw[zf,decide_eq_true_iff,decide_eq_true_iff]at h;exact zad o_ o_
   cases hA:zbt.out (n.2.2.2.2.1,(1:Int),(400:Int),())
   all_goals
    exact z_
  refine zp ⟨.inr rfl,D1 ?_⟩;show _=zcw n;simp only[zcw,h1,h2,h7,x0,x1,x2,x3,cond_true,cond_false,jM,jY,jL,qZ]
  all_goals (first|rfl|(simp;done))
 apply zah;refine za (za (zac hX zbO rfl ?_ ?_))
 .have i0:zbt.out (n.2.2.2.2.1,(1:Int),(400:Int),())=true->inR .i64 (n.2.2.2.2.1-1):=λh=>by
   have h:inB n.2.2.2.2.1 1 400=true:=h;unfold inB at h;rw[zf,decide_eq_true_iff,decide_eq_true_iff]at h;exact zad o_ o_
  cases hA:(n.2.2.2.2.1==0)
  all_goals
   exact z_
 refine zp ⟨.inr rfl,D1 ?_⟩;show _=zcw n;simp only[zcw,h1,h2,h7,x0,x1,x2,x3,cond_true,cond_false,jM,jY,jL,qZ]
 all_goals (first|rfl|(simp;done))
abbrev Shp:=Int×Bool×(Int×Int×Unit)×Unit
def zbK:List Shp:=[(0,false,(0,0,()),()),(0,false,(0,0,()),()),(0,true,(0,0,()),()),(0,true,(1,16,()),()),(0,true,(-40,40,()),()),(0,false,(0,6,()),()),(0,true,(1,54,()),()),(0,true,(0,0,()),()),(2,false,(0,0,()),()),(2,false,(0,0,()),()),(2,false,(0,0,()),()),(1,false,(0,0,()),()),(1,false,(0,0,()),()),(1,false,(0,0,()),()),(1,false,(0,1099511627776,()),()),(1,false,(0,1099511627776,()),()),(1,true,(-400,400,()),()),(2,false,(0,0,()),()),(0,false,(0,0,()),())]
def zlj:Ctr:={ args:=[],pre:=λ_=>[],res:=.arr 19 shp,own:=none,out:=λ_=>zbK }
set_option maxHeartbeats 400000 in
theorem zii:yT zb gmH 41 zlj:=by
 refine ctr2 zaj Tryz.func41 Tryz.call41 ?_;rintro w0 X hX _ hp;change AWP _ _ _ _ _ ⟨[],[],0⟩ _;apply zaq
 iterate 2 (refine za (za (zaa zaj ?_)))
 exact zp ⟨.inr rfl,D1 rfl⟩
set_option maxRecDepth 10000
abbrev Tk:=Int×List UInt8×Int
def tkOf(t:TokT):Tk:=(yJ t,yB t,Tok.n t)
def Toks(s:List UInt8):Int->List Tk->Prop
 |o,[]=>yJ (zeT s o)=0
 |o,a::l=>yJ (zeT s o)≠0/\tkOf (zeT s o)=a/\Toks s (Tok.at (zeT s o)+Tok.size (zeT s o)) l
def Sq(s:List UInt8)(t:TokT):List Tk->Prop
 | []=>yJ t=0
 |a::l=>yJ t≠0/\tkOf t=a/\Toks s (Tok.at t+Tok.size t) l
def tkIs(w:List UInt8):List Tk->Bool
 | []=>false
 |a::_=>((a.1==1)||(a.1==4))&&decide (a.2.1=w)
theorem okb{ε α U:Type}{e:Except ε α}{x:α}(h:e=.ok x)(f:α->Except ε U):(e >>=f)=f x:=by
 subst h;rfl
section
variable {s:List UInt8}
theorem zmZ{o:Int}{l:List Tk}(h:Toks s o l):Sq s (zeT s o) l:=by
 cases l with
 |nil=>exact h
 |cons a l=>exact h
theorem zjp{st:GSt}{l:List Tk}(h:Sq s st.1 l)(w:List UInt8):gIs st w=tkIs w l:=by
 cases l with
 |nil=>
  unfold gIs tkIs;rw[h];rfl
 |cons a l=>
  obtain⟨_,h2,_⟩:=h;unfold gIs tkIs;rw[<-h2];rfl
structure Got(s:List UInt8)(st:GSt)(k:Int)(l:List Tk)(st':GSt):Prop where
 ok:GOk s st'
 sq:Sq s st'.1 l
 n:st'.2=st.2+k
theorem Got.trans{a b c:GSt}{j k:Int}{l l':List Tk}(h:Got s a j l b)(h':Got s b k l' c):Got s a (j+k) l' c:=⟨h'.ok,h'.sq,by rw[h'.n,h.n];omega⟩
theorem Got.trans0{a b c:GSt}{j:Int}{l l':List Tk}(h:Got s a j l b)(h':Got s b 0 l' c):Got s a j l' c:=⟨h'.ok,h'.sq,by rw[h'.n,h.n];omega⟩
theorem zt2{st:GSt}{a:Tk}{l:List Tk}(hg:GOk s st)(h:Sq s st.1 (a::l)):Got s st 0 l (gAdv s st):=
 ⟨(zcr hg h.1).1,zmZ h.2.2,by show st.2=st.2+0;omega⟩
theorem zhR{st:GSt}{a:Tk}{l:List Tk}{w:List UInt8}(hg:GOk s st)(h:Sq s st.1 (a::l))(hw:tkIs w (a::l)=true):za3 s st w=.ok (gAdv s st)/\Got s st 0 l (gAdv s st):=by
 refine⟨?_,zt2 hg h⟩;unfold za3 zaH;rw[zjp h,hw];rfl
theorem zkB{st:GSt}{a:Tk}{l:List Tk}(hg:GOk s st)(h:Sq s st.1 (a::l))(hn:st.2<64):zbX s st=.ok (gAdv s (st.1,st.2+1))/\Got s st 1 l (gAdv s (st.1,st.2+1)):=by
 refine⟨?_,?_,?_,rfl⟩
 .unfold zbX zaH;rw[decide_eq_true hn];rfl
 .exact(zcr (st:=(st.1,st.2+1)) ⟨hg.1,by have:=hg.2;constructor<;>simp only[]<;>omega⟩ h.1).1
 .exact zmZ h.2.2
def tkW(w:List UInt8):Tk:=(1,w,0)
def tkR(w:List UInt8):Tk:=(2,w,0)
def tkN(n:Int):Tk:=(3,deI n,n)
def tkS(c:UInt8):Tk:=(4,[c],0)
theorem zbB{st:GSt}{x lo hi:Int}{l:List Tk}(hg:GOk s st)(h:Sq s st.1 (tkN x::l))(h1:lo<=x)(h2:x<=hi):zaO s st lo hi=.ok (x,gAdv s st)/\Got s st 0 l (gAdv s st):=by
 refine⟨?_,zt2 hg h⟩;obtain⟨_,e,_⟩:=h;have e1:yJ st.1=3:=congrArg (λa=>a.1) e;have e2:Tok.n st.1=x:=congrArg (λa=>a.2.2) e;unfold zaO zaH;rw[e1,e2,decide_eq_true h1,decide_eq_true h2];rfl
def Ris(lo hi:Int)(z:Bool):Int->List Int->Prop
 |_,[]=>True
 |last,x::r=>last<x/\lo<=x/\x<=hi/\(z=true\/x≠0)/\Ris lo hi z x r
theorem zrg{lo hi:Int}{z:Bool}{l:List Tk}:∀(xs:List Int)(k:Nat)(acc:List Int)(st:GSt),xs.length<k->(acc=[]->xs≠ [])->acc.length+xs.length<=64->Ris lo hi z (acc.getLast?.getD (lo-1)) xs->GOk s st->Sq s st.1 (xs.map tkN++tkS 41::l)->
  ∃st',zcU s lo hi z k st acc=.ok (acc++xs,st')/\Got s st 0 (tkS 41::l) st'
 |_,0,_,_,hk,_,_,_,_,_=>by omega
 | [],k+1,acc,st,_,hne,_,_,hg,h=>by
  refine⟨st,?_,hg,h,by omega⟩;have x1:acc≠ []:=λe=>hne e rfl;have hc:gIs st zdi=true:=by rw[zjp h];rfl
  unfold zcU;rw[hc,zW,if_pos (by cases acc with |nil=>exact absurd rfl x1|cons _ _=>rfl)]
 |x::r,k+1,acc,st,hk,hne,hlen,hr,hg,h=>by
  obtain⟨r1,r2,r3,r4,r5⟩:=hr;simp only[zv]at hk hlen;have h:Sq s st.1 (tkN x::(r.map tkN++tkS 41::l)):=h;obtain⟨hn,x0⟩:=zbB hg h r2 r3;obtain⟨_,e,_⟩:=id h;have e1:yJ st.1=3:=congrArg (λa=>a.1) e;have e2:Tok.n st.1=x:=congrArg (λa=>a.2.2) e;have hc:gIs st zdi=false:=by rw[zjp h];rfl
  have hl:(acc++[x]).getLast?.getD (lo-1)=x:=by rw[List.getLast?_append];rfl
  obtain⟨st',h1,h2⟩:=zrg r k (acc++[x]) (gAdv s st) o_ (λe=>by simp at e) (by rw[zg,xI];omega) (by rw[hl];exact r5) x0.ok x0.sq;refine⟨st',?_,x0.trans0 h2⟩;rw[zz]at h1;unfold zcU;rw[hc,jP,if_neg kV];have c1:zaH st (yJ st.1==3) 3=.ok ():=by rw[e1];rfl
  have c2:zaH st (decide (acc.length<64)) 2=.ok ():=by rw[decide_eq_true o_];rfl
  have c3:zaH st (decide (Tok.n st.1>acc.getLast?.getD (lo-1))&&(z||(Tok.n st.1 != 0))) 1=.ok ():=by
   rw[e2,decide_eq_true r1];have:(z||(x != 0))=true:=by
    rcases r4 with rfl|r4
    .rfl
    .rw[yW];exact .inr (bne_iff_ne.2 r4)
   rw[this];rfl
  refine(okb c1 _).trans ((okb c2 _).trans ((okb c3 _).trans ((okb hn _).trans ?_)));exact h1
def zdk(l:List Int):List Tk:=tkS 40::(l.map tkN++[tkS 41])
theorem ziv{lo hi:Int}{z:Bool}{xs:List Int}{l:List Tk}{st:GSt}(x0:xs≠ [])(hlen:xs.length<=64)(hr:Ris lo hi z (lo-1) xs)(hg:GOk s st)(h:Sq s st.1 (zdk xs++l)):
  ∃st',zdL s st lo hi z=.ok (xs,st')/\Got s st 0 l st':=by
 have h:Sq s st.1 (tkS 40::(xs.map tkN++[tkS 41]++l)):=h;obtain⟨e1,g1⟩:=zhR (w:=zgc) hg h rfl;obtain⟨s2,e2,g2⟩:=zrg (lo:=lo) (hi:=hi) (z:=z) (l:=l) xs 66 [] (gAdv s st) o_ (λ_=>x0) (by simpa using hlen) hr g1.ok (by have:=g1.sq;rwa[zz]at this);obtain⟨e3,g3⟩:=zhR (w:=zdi) g2.ok g2.sq rfl;refine⟨gAdv s s2,?_,(g1.trans0 g2).trans0 g3⟩;unfold zdL;exact(okb e1 _).trans ((okb e2 _).trans ((okb e3 _).trans rfl))
def zeS(n:Int):Tk:=tkW (if n=1 then zfD else zlA)
theorem zrd{st:GSt}{x:Int}{l:List Tk}(hx:x=0\/x=1)(hg:GOk s st)(h:Sq s st.1 (zeS x::l)):zei s st=.ok (x,gAdv s st)/\Got s st 0 l (gAdv s st):=by
 refine⟨?_,zt2 hg h⟩;have i1:=zjp h zlA;have i2:=zjp h zfD;obtain⟨_,e,_⟩:=h;have e1:yB st.1=(zeS x).2.1:=congrArg (λa=>a.2.1) e;unfold zei zaH;rw[i1,i2,e1];rcases hx with rfl|rfl<;>rfl
end
def zl9(n:Nd):List Tk:=
 if ndK n=1 then [tkW zlC,tkN (ndN n),tkN (ndM n)]
 else if ndK n=2 then [tkW zho,tkN (ndC n),tkN (ndN n),tkN (ndM n)]
 else if ndK n=3 then tkW zct::tkN (ndC n)::zdk (ndI n)
 else if ndK n=4 then tkW zbe::tkN (ndC n)::zdk (ndI n)
 else if ndK n=5 then tkW zbo::zdk (ndI n)
 else if ndK n=6 then tkW zdA::tkN (ndC n)::zdk (ndI n)
 else if ndK n=7 then [tkW wNth,tkN (ndC n),tkN (ndN n),tkN (ndM n),zeS (ndL n)]
 else if ndK n=18 then [tkR (ndS n)]
 else []
def zjm(b:List Tk)(n:Nd):List Tk:=
 if ndK n=11 then [tkW zfK,tkN (ndN n)]
 else if ndK n=12 then [tkW zjj,tkN (ndN n)]
 else if ndK n=13 then [tkW zfJ,tkN (ndN n)]
 else if ndK n=14 then tkW zfY::zdk (ndI n)
 else if ndK n=15 then tkW zcu::zdk (ndI n)
 else if ndK n=16 then tkW wPos::tkN (ndC n)::zeS (ndM n)::zdk (ndI n)
 else if ndK n=17 then tkW zbY::tkN (ndN n)::tkW wOf::b
 else []
def Tr.root:Tr->Nd
 |.leaf n=>n
 |.un n _=>n
 |.bin n _ _=>n
def Tr.lev(t:Tr):Int:=levS (ndK t.root)
def parT(c:Bool)(l:List Tk):List Tk:=if c then l else tkS 40::(l++[tkS 41])
def Tr.toks:Tr->List Tk
 |.leaf n=>zl9 n
 |.un n a=>parT (decide (a.lev>=4)) a.toks++zjm [] n
 |.bin n a b=>if ndK n=17 then parT (decide (a.lev>=4)) a.toks++zjm (parT (decide (b.lev>=5)) b.toks) n
  else parT (decide (a.lev>=levS (ndK n))) a.toks++(tkW (opWd (levS (ndK n)))::parT (decide (b.lev>=levS (ndK n)+1)) b.toks)
def zdV(k:Int):Shp:=zbK.getD k.toNat (0,false,(0,0,()),())
def zfi(n:Nd):Bool:=bif (zdV (ndK n)).2.1 then inB (ndC n) 0 2 else ndC n==0
def zfI(w:List UInt8):Bool:=decide (w≠ [])&&decide (w.length<=32)&&(w.head?.all isLt&&w.all isPt)
def zjs(n:Nd):Bool:=bif ndK n==18 then zfI (ndS n) else decide (ndS n=[])
def zaW(n:Nd):Bool:=inB (ndK n) 1 18&&decide ((ndI n).length<=64)&&(zfi n&&(zjs n&&(zaV (ndI n) (zdV (ndK n)).2.2.1&&zcw n)))
def TrOk:Tr->Prop
 |.leaf n=>zaW n=true/\¬(8<=ndK n/\ndK n<=17)/\ndR n=0/\(ndK n≠7->ndL n=0)
 |.un n a=>zaW n=true/\(11<=ndK n/\ndK n<=16)/\(ndL n=0/\ndR n=0)/\TrOk a
 |.bin n a b=>zaW n=true/\((8<=ndK n/\ndK n<=10)\/ndK n=17)/\(ndL n=0/\ndR n=0)/\TrOk a/\TrOk b
theorem zaF{n lo hi:Int}:inB n lo hi=true↔lo<=n/\n<=hi:=by
 unfold inB;rw[zf,decide_eq_true_iff,decide_eq_true_iff]
theorem zaC{n:Nd}(h:zaW n=true):(1<=ndK n/\ndK n<=18)/\(ndI n).length<=64/\zfi n=true/\zjs n=true/\zaV (ndI n) (zdV (ndK n)).2.2.1=true/\zcw n=true:=by
 unfold zaW at h;simp only[zf,zaF,decide_eq_true_iff]at h;exact⟨h.1.1,h.1.2,h.2.1,h.2.2.1,h.2.2.2.1,h.2.2.2.2⟩
theorem zyZ{l:List Int}{lo hi:Int}(h:∀i,i<l.length->zhN l (lo,hi,()) i=false):Ris lo hi (decide (¬lo<0)) (lo-1) l:=by
 have key:∀(r p:List Int)(last:Int),l=p++r->(p≠ []->last=l.getD (p.length-1) 0)->(p=[]->last=lo-1)->Ris lo hi (decide (¬lo<0)) last r:=by
  intro r
  induction r with
  |nil=>intro p last _ _ _;trivial
  |cons x r ih=>
   intro p last hl hp x0;have hlen:p.length<l.length:=by rw[hl,zg,zv];omega
   have hx:l.getD p.length 0=x:=by
    rw[hl,zu,qD (zj _),Nat.sub_self];rfl
   have hb:=h p.length hlen;unfold zhN at hb;rw[hx]at hb;simp only[xY,qM,zaF,vw,decide_eq_false_iff_not,beq_eq_false_iff_ne]at hb;obtain⟨⟨⟨b1,b2⟩,b3⟩,b4⟩:=hb;refine⟨?_,b1,b2,?_,ih (p++[x]) x (by rw[hl];simp) (λ_=>?_) (λe=>by simp at e)⟩
   .cases p with
    |nil=>rw[x0 rfl];omega
    |cons y p=>
     rw[hp (by simp)];rcases b3 with b3|b3
     .exact absurd (by simp:0<(y::p).length) b3
     .omega
   .rcases b4 with b4|b4
    .exact .inr b4
    .exact .inl (decide_eq_true b4)
   .rw[show(p++[x]).length-1=p.length by simp,hx]
 exact key l [] (lo-1) rfl (λh=>absurd rfl h) λ_=>rfl
theorem zf5{l:List Int}{lo hi:Int}(h0:¬(lo=0/\hi=0))(h:zaV l (lo,hi,())=true):l≠ []/\Ris lo hi (decide (¬lo<0)) (lo-1) l:=by
 have hz:zg5 (lo,hi,())=false:=by
  rw[vL];intro e;unfold zg5 at e;rw[zf,beq_iff_eq,beq_iff_eq]at e;exact h0 e
 unfold zaV at h;rw[hz,cond_false,zf,decide_eq_true_iff,yE]at h;refine⟨λe=>by rw[e]at h;exact absurd h.2 d_,zyZ λi hi=>?_⟩;have:=h.1 i (xZ.2 hi);rwa[zL]at this
theorem zdF{l:List Int}(h:zaV l (0,0,())=true):l=[]:=by
 have:=beq_iff_eq.1 h;exact List.eq_nil_of_length_eq_zero o_
theorem fld1{n:Nd}(h:zaW n=true)(k:ndK n=1):n=(1,0,ndL n,ndR n,ndN n,ndM n,[],[],())/\(1<=ndN n/\ndN n<=1099511627776)/\(0<=ndM n/\ndM n<=1099511627776):=by
 obtain⟨_,hlen,hc,hm,hl,hn⟩:=zaC h;obtain⟨k',c,L,R,N,M,I,S,⟨⟩⟩:=n;obtain rfl:=k;have x2:=hc;obtain rfl:=beq_iff_eq.1 x2;have x1:=hm;obtain rfl:=of_decide_eq_true x1;obtain rfl:=zdF (show zaV I (0,0,())=true from hl);have x0:(bif inB N 1 1099511627776 then inB M 0 1099511627776 else false)=true:=hn;simp only[zcR,zf,zaF,beq_iff_eq,zL,beq_eq_false_iff_ne]at x0;exact⟨rfl,x0.1,x0.2⟩
theorem fld2{n:Nd}(h:zaW n=true)(k:ndK n=2):n=(2,ndC n,ndL n,ndR n,ndN n,ndM n,[],[],())/\(0<=ndC n/\ndC n<=2)/\(1<=ndN n/\ndN n<=400)/\(0<=ndM n/\ndM n<=ndN n-1):=by
 obtain⟨_,hlen,hc,hm,hl,hn⟩:=zaC h;obtain⟨k',c,L,R,N,M,I,S,⟨⟩⟩:=n;obtain rfl:=k;have x1:inB c 0 2=true:=hc;rw[zaF]at x1;have x2:=hm;obtain rfl:=of_decide_eq_true x2;obtain rfl:=zdF (show zaV I (0,0,())=true from hl);have x0:(bif inB N 1 400 then inB M 0 (N-1) else false)=true:=hn;simp only[zcR,zf,zaF,beq_iff_eq,zL,beq_eq_false_iff_ne]at x0;exact⟨rfl,x1,x0.1,x0.2⟩
theorem fld3{n:Nd}(h:zaW n=true)(k:ndK n=3):n=(3,ndC n,ndL n,ndR n,0,0,ndI n,[],())/\(0<=ndC n/\ndC n<=2)/\(ndI n≠ []/\(ndI n).length<=64/\Ris (1) 16 true (0) (ndI n)):=by
 obtain⟨_,hlen,hc,hm,hl,hn⟩:=zaC h;obtain⟨k',c,L,R,N,M,I,S,⟨⟩⟩:=n;obtain rfl:=k;have x1:inB c 0 2=true:=hc;rw[zaF]at x1;have x3:=hm;obtain rfl:=of_decide_eq_true x3;have x2:=zf5 d_ (show zaV I (1,16,())=true from hl);have x0:(bif N==0 then M==0 else false)=true:=hn;simp only[zcR,zf,zaF,beq_iff_eq,zL,beq_eq_false_iff_ne]at x0;obtain⟨rfl,rfl⟩:=x0;exact⟨rfl,x1,⟨x2.1,hlen,x2.2⟩⟩
theorem fld4{n:Nd}(h:zaW n=true)(k:ndK n=4):n=(4,ndC n,ndL n,ndR n,0,0,ndI n,[],())/\(0<=ndC n/\ndC n<=2)/\(ndI n≠ []/\(ndI n).length<=64/\Ris (-40) 40 false (-41) (ndI n)):=by
 obtain⟨_,hlen,hc,hm,hl,hn⟩:=zaC h;obtain⟨k',c,L,R,N,M,I,S,⟨⟩⟩:=n;obtain rfl:=k;have x1:inB c 0 2=true:=hc;rw[zaF]at x1;have x3:=hm;obtain rfl:=of_decide_eq_true x3;have x2:=zf5 d_ (show zaV I (-40,40,())=true from hl);have x0:(bif N==0 then M==0 else false)=true:=hn;simp only[zcR,zf,zaF,beq_iff_eq,zL,beq_eq_false_iff_ne]at x0;obtain⟨rfl,rfl⟩:=x0;exact⟨rfl,x1,⟨x2.1,hlen,x2.2⟩⟩
theorem fld5{n:Nd}(h:zaW n=true)(k:ndK n=5):n=(5,0,ndL n,ndR n,0,0,ndI n,[],())/\(ndI n≠ []/\(ndI n).length<=64/\Ris (0) 6 true (-1) (ndI n)):=by
 obtain⟨_,hlen,hc,hm,hl,hn⟩:=zaC h;obtain⟨k',c,L,R,N,M,I,S,⟨⟩⟩:=n;obtain rfl:=k;have x2:=hc;obtain rfl:=beq_iff_eq.1 x2;have x3:=hm;obtain rfl:=of_decide_eq_true x3;have x1:=zf5 d_ (show zaV I (0,6,())=true from hl);have x0:(bif N==0 then M==0 else false)=true:=hn;simp only[zcR,zf,zaF,beq_iff_eq,zL,beq_eq_false_iff_ne]at x0;obtain⟨rfl,rfl⟩:=x0;exact⟨rfl,⟨x1.1,hlen,x1.2⟩⟩
theorem fld6{n:Nd}(h:zaW n=true)(k:ndK n=6):n=(6,ndC n,ndL n,ndR n,0,0,ndI n,[],())/\(0<=ndC n/\ndC n<=2)/\(ndI n≠ []/\(ndI n).length<=64/\Ris (1) 54 true (0) (ndI n)):=by
 obtain⟨_,hlen,hc,hm,hl,hn⟩:=zaC h;obtain⟨k',c,L,R,N,M,I,S,⟨⟩⟩:=n;obtain rfl:=k;have x1:inB c 0 2=true:=hc;rw[zaF]at x1;have x3:=hm;obtain rfl:=of_decide_eq_true x3;have x2:=zf5 d_ (show zaV I (1,54,())=true from hl);have x0:(bif N==0 then M==0 else false)=true:=hn;simp only[zcR,zf,zaF,beq_iff_eq,zL,beq_eq_false_iff_ne]at x0;obtain⟨rfl,rfl⟩:=x0;exact⟨rfl,x1,⟨x2.1,hlen,x2.2⟩⟩
theorem fld7{n:Nd}(h:zaW n=true)(k:ndK n=7):n=(7,ndC n,ndL n,ndR n,ndN n,ndM n,[],[],())/\(0<=ndC n/\ndC n<=2)/\(-60<=ndN n/\ndN n<=60)/\ndN n≠0/\(0<=ndM n/\ndM n<=6)/\(0<=ndL n/\ndL n<=1):=by
 obtain⟨_,hlen,hc,hm,hl,hn⟩:=zaC h;obtain⟨k',c,L,R,N,M,I,S,⟨⟩⟩:=n;obtain rfl:=k;have x1:inB c 0 2=true:=hc;rw[zaF]at x1;have x2:=hm;obtain rfl:=of_decide_eq_true x2;obtain rfl:=zdF (show zaV I (0,0,())=true from hl);have x0:(bif (bif (bif inB N (-60) 60 then !(N==0) else false) then inB M 0 6 else false) then inB L 0 1 else false)=true:=hn;simp only[zcR,zf,zaF,beq_iff_eq,zL,beq_eq_false_iff_ne]at x0;exact⟨rfl,x1,x0.1.1.1,x0.1.1.2,x0.1.2,x0.2⟩
theorem fld8{n:Nd}(h:zaW n=true)(k:ndK n=8):n=(8,0,ndL n,ndR n,0,0,[],[],()):=by
 obtain⟨_,hlen,hc,hm,hl,hn⟩:=zaC h;obtain⟨k',c,L,R,N,M,I,S,⟨⟩⟩:=n;obtain rfl:=k;have x2:=hc;obtain rfl:=beq_iff_eq.1 x2;have x1:=hm;obtain rfl:=of_decide_eq_true x1;obtain rfl:=zdF (show zaV I (0,0,())=true from hl);have x0:(bif N==0 then M==0 else false)=true:=hn;simp only[zcR,zf,zaF,beq_iff_eq,zL,beq_eq_false_iff_ne]at x0;obtain⟨rfl,rfl⟩:=x0;exact rfl
theorem fld9{n:Nd}(h:zaW n=true)(k:ndK n=9):n=(9,0,ndL n,ndR n,0,0,[],[],()):=by
 obtain⟨_,hlen,hc,hm,hl,hn⟩:=zaC h;obtain⟨k',c,L,R,N,M,I,S,⟨⟩⟩:=n;obtain rfl:=k;have x2:=hc;obtain rfl:=beq_iff_eq.1 x2;have x1:=hm;obtain rfl:=of_decide_eq_true x1;obtain rfl:=zdF (show zaV I (0,0,())=true from hl);have x0:(bif N==0 then M==0 else false)=true:=hn;simp only[zcR,zf,zaF,beq_iff_eq,zL,beq_eq_false_iff_ne]at x0;obtain⟨rfl,rfl⟩:=x0;exact rfl
theorem zzF{n:Nd}(h:zaW n=true)(k:ndK n=10):n=(10,0,ndL n,ndR n,0,0,[],[],()):=by
 obtain⟨_,hlen,hc,hm,hl,hn⟩:=zaC h;obtain⟨k',c,L,R,N,M,I,S,⟨⟩⟩:=n;obtain rfl:=k;have x2:=hc;obtain rfl:=beq_iff_eq.1 x2;have x1:=hm;obtain rfl:=of_decide_eq_true x1;obtain rfl:=zdF (show zaV I (0,0,())=true from hl);have x0:(bif N==0 then M==0 else false)=true:=hn;simp only[zcR,zf,zaF,beq_iff_eq,zL,beq_eq_false_iff_ne]at x0;obtain⟨rfl,rfl⟩:=x0;exact rfl
theorem zxW{n:Nd}(h:zaW n=true)(k:ndK n=11):n=(11,0,ndL n,ndR n,ndN n,0,[],[],())/\(-1099511627776<=ndN n/\ndN n<=1099511627776):=by
 obtain⟨_,hlen,hc,hm,hl,hn⟩:=zaC h;obtain⟨k',c,L,R,N,M,I,S,⟨⟩⟩:=n;obtain rfl:=k;have x2:=hc;obtain rfl:=beq_iff_eq.1 x2;have x1:=hm;obtain rfl:=of_decide_eq_true x1;obtain rfl:=zdF (show zaV I (0,0,())=true from hl);have x0:(bif inB N (-1099511627776) 1099511627776 then M==0 else false)=true:=hn;simp only[zcR,zf,zaF,beq_iff_eq,zL,beq_eq_false_iff_ne]at x0;obtain rfl:=x0.2;exact⟨rfl,x0.1⟩
theorem zxV{n:Nd}(h:zaW n=true)(k:ndK n=12):n=(12,0,ndL n,ndR n,ndN n,0,[],[],())/\(0<=ndN n/\ndN n<=1099511627776):=by
 obtain⟨_,hlen,hc,hm,hl,hn⟩:=zaC h;obtain⟨k',c,L,R,N,M,I,S,⟨⟩⟩:=n;obtain rfl:=k;have x2:=hc;obtain rfl:=beq_iff_eq.1 x2;have x1:=hm;obtain rfl:=of_decide_eq_true x1;obtain rfl:=zdF (show zaV I (0,0,())=true from hl);have x0:(bif inB N 0 1099511627776 then M==0 else false)=true:=hn;simp only[zcR,zf,zaF,beq_iff_eq,zL,beq_eq_false_iff_ne]at x0;obtain rfl:=x0.2;exact⟨rfl,x0.1⟩
theorem zxU{n:Nd}(h:zaW n=true)(k:ndK n=13):n=(13,0,ndL n,ndR n,ndN n,0,[],[],())/\(0<=ndN n/\ndN n<=1099511627776):=by
 obtain⟨_,hlen,hc,hm,hl,hn⟩:=zaC h;obtain⟨k',c,L,R,N,M,I,S,⟨⟩⟩:=n;obtain rfl:=k;have x2:=hc;obtain rfl:=beq_iff_eq.1 x2;have x1:=hm;obtain rfl:=of_decide_eq_true x1;obtain rfl:=zdF (show zaV I (0,0,())=true from hl);have x0:(bif inB N 0 1099511627776 then M==0 else false)=true:=hn;simp only[zcR,zf,zaF,beq_iff_eq,zL,beq_eq_false_iff_ne]at x0;obtain rfl:=x0.2;exact⟨rfl,x0.1⟩
theorem zxT{n:Nd}(h:zaW n=true)(k:ndK n=14):n=(14,0,ndL n,ndR n,0,0,ndI n,[],())/\(ndI n≠ []/\(ndI n).length<=64/\Ris (0) 1099511627776 true (-1) (ndI n)):=by
 obtain⟨_,hlen,hc,hm,hl,hn⟩:=zaC h;obtain⟨k',c,L,R,N,M,I,S,⟨⟩⟩:=n;obtain rfl:=k;have x2:=hc;obtain rfl:=beq_iff_eq.1 x2;have x3:=hm;obtain rfl:=of_decide_eq_true x3;have x1:=zf5 d_ (show zaV I (0,1099511627776,())=true from hl);have x0:(bif N==0 then M==0 else false)=true:=hn;simp only[zcR,zf,zaF,beq_iff_eq,zL,beq_eq_false_iff_ne]at x0;obtain⟨rfl,rfl⟩:=x0;exact⟨rfl,⟨x1.1,hlen,x1.2⟩⟩
theorem zxS{n:Nd}(h:zaW n=true)(k:ndK n=15):n=(15,0,ndL n,ndR n,0,0,ndI n,[],())/\(ndI n≠ []/\(ndI n).length<=64/\Ris (0) 1099511627776 true (-1) (ndI n)):=by
 obtain⟨_,hlen,hc,hm,hl,hn⟩:=zaC h;obtain⟨k',c,L,R,N,M,I,S,⟨⟩⟩:=n;obtain rfl:=k;have x2:=hc;obtain rfl:=beq_iff_eq.1 x2;have x3:=hm;obtain rfl:=of_decide_eq_true x3;have x1:=zf5 d_ (show zaV I (0,1099511627776,())=true from hl);have x0:(bif N==0 then M==0 else false)=true:=hn;simp only[zcR,zf,zaF,beq_iff_eq,zL,beq_eq_false_iff_ne]at x0;obtain⟨rfl,rfl⟩:=x0;exact⟨rfl,⟨x1.1,hlen,x1.2⟩⟩
theorem zxR{n:Nd}(h:zaW n=true)(k:ndK n=16):n=(16,ndC n,ndL n,ndR n,0,ndM n,ndI n,[],())/\(0<=ndC n/\ndC n<=2)/\(ndI n≠ []/\(ndI n).length<=64/\Ris (-400) 400 false (-401) (ndI n))/\(0<=ndM n/\ndM n<=1):=by
 obtain⟨_,hlen,hc,hm,hl,hn⟩:=zaC h;obtain⟨k',c,L,R,N,M,I,S,⟨⟩⟩:=n;obtain rfl:=k;have x1:inB c 0 2=true:=hc;rw[zaF]at x1;have x3:=hm;obtain rfl:=of_decide_eq_true x3;have x2:=zf5 d_ (show zaV I (-400,400,())=true from hl);have x0:(bif N==0 then inB M 0 1 else false)=true:=hn;simp only[zcR,zf,zaF,beq_iff_eq,zL,beq_eq_false_iff_ne]at x0;obtain rfl:=x0.1;exact⟨rfl,x1,⟨x2.1,hlen,x2.2⟩,x0.2⟩
theorem zxQ{n:Nd}(h:zaW n=true)(k:ndK n=17):n=(17,0,ndL n,ndR n,ndN n,0,[],[],())/\(1<=ndN n/\ndN n<=400):=by
 obtain⟨_,hlen,hc,hm,hl,hn⟩:=zaC h;obtain⟨k',c,L,R,N,M,I,S,⟨⟩⟩:=n;obtain rfl:=k;have x2:=hc;obtain rfl:=beq_iff_eq.1 x2;have x1:=hm;obtain rfl:=of_decide_eq_true x1;obtain rfl:=zdF (show zaV I (0,0,())=true from hl);have x0:(bif inB N 1 400 then M==0 else false)=true:=hn;simp only[zcR,zf,zaF,beq_iff_eq,zL,beq_eq_false_iff_ne]at x0;obtain rfl:=x0.2;exact⟨rfl,x0.1⟩
theorem zxP{n:Nd}(h:zaW n=true)(k:ndK n=18):n=(18,0,ndL n,ndR n,0,0,[],ndS n,())/\zfI (ndS n)=true:=by
 obtain⟨_,hlen,hc,hm,hl,hn⟩:=zaC h;obtain⟨k',c,L,R,N,M,I,S,⟨⟩⟩:=n;obtain rfl:=k;have x2:=hc;obtain rfl:=beq_iff_eq.1 x2;have x1:=hm;obtain rfl:=zdF (show zaV I (0,0,())=true from hl);have x0:(bif N==0 then M==0 else false)=true:=hn;simp only[zcR,zf,zaF,beq_iff_eq,zL,beq_eq_false_iff_ne]at x0;obtain⟨rfl,rfl⟩:=x0;exact⟨rfl,x1⟩
def resQ(s:List UInt8):Nat->GSt->GE (Tr×GSt)
 |0,st=>prsT s (.bin 0) st
 |1,st=>prsT s (.bin 1) st
 |2,st=>prsT s (.bin 2) st
 |3,st=>prsT s .chain st
 |_,st=>prsT s .prim st
def zBi(s:List UInt8):Nat->Tr->GSt->GE (Tr×GSt)
 |0,t,st=>prsT s (.binL 0 t) st
 |1,t,st=>prsT s (.binL 1 t) st
 |2,t,st=>prsT s (.binL 2 t) st
 |3,t,st=>prsT s (.chainL t) st
 |_,t,st=>.ok (t,st)
def zud:List Tk->Prop
 | []=>True
 |a::_=>a.1=1->sufW a.2.1=none
def zxO:Nat->List Tk->Prop
 |0,l=>tkIs zlB l=false/\tkIs wAnd l=false/\zud l
 |1,l=>tkIs wAnd l=false/\zud l
 |2,l=>zud l
 |_,_=>True
def Qt(i:Nat)(T:List Tk)(t:Tr):Prop:=∀(s:List UInt8)(st:GSt)(l:List Tk),GOk s st->Sq s st.1 (T++l)->st.2+(t.size:Int)<=64->zxO i l->∃st',resQ s i st=zBi s i t st'/\Got s st t.size l st'
section
variable {s:List UInt8}
theorem zrf{st:GSt}{l:List Tk}{t:Tr}(hg:GOk s st)(h:Sq s st.1 l)(hf:zud l):prsT s (.chainL t) st=.ok (t,st):=by
 cases l with
 |nil=>
  exact zeW hg (by rw[h];decide)
 |cons a l=>
  have hf:a.1=1->sufW a.2.1=none:=hf;obtain⟨_,e,_⟩:=h;have e1:yJ st.1=a.1:=congrArg (λa=>a.1) e;have e2:yB st.1=a.2.1:=congrArg (λa=>a.2.1) e;by_cases hc:a.1=1
  .exact zht hg (by rw[e1,hc]) (by rw[e2];exact hf hc)
  .exact zeW hg (by rw[e1];exact hc)
theorem zjR{i:Nat}{st:GSt}{l:List Tk}{t:Tr}(hg:GOk s st)(h:Sq s st.1 l)(hf:tkIs (opW i) l=false):prsT s (.binL i t) st=.ok (t,st):=zjU hg (by rw[zjp h];exact hf)
theorem Qt.chain{T:List Tk}{t:Tr}(h:Qt 4 T t):Qt 3 T t:=λs st l hg hq hn hf=>by
 obtain⟨st',e,g⟩:=h s st l hg hq hn trivial;exact⟨st',by show prsT s .chain st=prsT s (.chainL t) st';rw[zjS hg];exact okb e _,g⟩
theorem Qt.up3{T:List Tk}{t:Tr}(h:Qt 3 T t):Qt 2 T t:=λs st l hg hq hn hf=>by
 obtain⟨st',e,g⟩:=h s st l hg hq hn trivial;have e:prsT s .chain st=prsT s (.chainL t) st':=e;rw[zrf g.ok g.sq hf]at e;refine⟨st',?_,g⟩;show prsT s (.bin 2) st=prsT s (.binL 2 t) st';rw[zhS hg d_,ziw hg d_];exact okb e _
theorem Qt.up2{T:List Tk}{t:Tr}(h:Qt 2 T t):Qt 1 T t:=λs st l hg hq hn hf=>by
 obtain⟨st',e,g⟩:=h s st l hg hq hn hf.2;have e:prsT s (.bin 2) st=prsT s (.binL 2 t) st':=e;rw[zjR (i:=2) g.ok g.sq hf.1]at e;refine⟨st',?_,g⟩;show prsT s (.bin 1) st=prsT s (.binL 1 t) st';rw[zhS hg d_];exact okb e _
theorem Qt.up1{T:List Tk}{t:Tr}(h:Qt 1 T t):Qt 0 T t:=λs st l hg hq hn hf=>by
 obtain⟨st',e,g⟩:=h s st l hg hq hn hf.2;have e:prsT s (.bin 1) st=prsT s (.binL 1 t) st':=e;rw[zjR (i:=1) g.ok g.sq hf.1]at e;refine⟨st',?_,g⟩;show prsT s (.bin 0) st=prsT s (.binL 0 t) st';rw[zhS hg d_];exact okb e _
theorem Qt.up{T:List Tk}{t:Tr}:∀{j i:Nat},Qt j T t->i<=j->j<=4->Qt i T t:=by
 intro j i h x0 hj;have h4:j=4->∀i,i<=4->Qt i T t:=by
  rintro rfl i hi;rcases (show i=0\/i=1\/i=2\/i=3\/i=4 by omega) with rfl|rfl|rfl|rfl|rfl
  .exact h.chain.up3.up2.up1
  .exact h.chain.up3.up2
  .exact h.chain.up3
  .exact h.chain
  .exact h
 rcases (show j=0\/j=1\/j=2\/j=3\/j=4 by omega) with rfl|rfl|rfl|rfl|rfl
 .obtain rfl:i=0:=o_;exact h
 .rcases (show i=0\/i=1 by omega) with rfl|rfl
  .exact h.up1
  .exact h
 .rcases (show i=0\/i=1\/i=2 by omega) with rfl|rfl|rfl
  .exact h.up2.up1
  .exact h.up2
  .exact h
 .rcases (show i=0\/i=1\/i=2\/i=3 by omega) with rfl|rfl|rfl|rfl
  .exact h.up3.up2.up1
  .exact h.up3.up2
  .exact h.up3
  .exact h
 .exact h4 rfl i x0
theorem Qt.par{T:List Tk}{t:Tr}(h:Qt 0 T t):Qt 4 (tkS 40::(T++[tkS 41])) t:=λs st l hg hq hn hf=>by
 have hq:Sq s st.1 (tkS 40::(T++[tkS 41]++l)):=hq;have i1:gIs st zgc=true:=by rw[zjp hq];rfl
 have g1:=zt2 hg hq;have q1:=g1.sq;rw[zz]at q1;obtain⟨st',e,g2⟩:=h s (gAdv s st) (tkS 41::l) g1.ok q1 hn ⟨rfl,rfl,λe=>by cases e⟩;have e:prsT s (.bin 0) (gAdv s st)=prsT s (.binL 0 t) st':=e;rw[zjR g2.ok g2.sq rfl]at e;obtain⟨e3,g3⟩:=zhR (w:=zdi) g2.ok g2.sq rfl;refine⟨gAdv s st',?_,?_⟩
 .show prsT s .prim st=.ok (t,gAdv s st');rw[zcJ hg,zbx,if_pos i1];exact(okb e _).trans ((okb e3 _).trans rfl)
 .have:=(g1.trans g2).trans0 g3;rwa[pp]at this
theorem zit{st:GSt}{w:List UInt8}{lw:LeafW}{T l:List Tk}{n:Nd}(hw:zhL w=some lw)(x1:w≠zgc)(hg:GOk s st)(h:Sq s st.1 (tkW w::(T++l)))(hn:st.2+1<=64)
  (hl:∀st1,GOk s st1->Sq s st1.1 (T++l)->∃x0,zdM s st1 lw=.ok (n,x0)/\Got s st1 0 l x0):∃st',prsT s .prim st=.ok (.leaf n,st')/\Got s st 1 l st':=by
 have i1:gIs st zgc=false:=by
  rw[zjp h];show(true&&decide (w=zgc))=false;rw[decide_eq_false x1];rfl
 obtain⟨e0,g0⟩:=zkB hg h o_;obtain⟨_,e,_⟩:=id h;have e1:yJ st.1=1:=congrArg (λa=>a.1) e;have e2:yB st.1=w:=congrArg (λa=>a.2.1) e;obtain⟨x0,e3,g3⟩:=hl _ g0.ok g0.sq;refine⟨x0,?_,g0.trans0 g3⟩;rw[zcJ hg,zbx,if_neg (by rw[i1];exact kV),if_neg (by rw[e1];decide)];have c0:zaH st (yJ st.1==1) 3=.ok ():=by rw[e1];rfl
 refine(okb c0 _).trans ?_;rw[e2,hw];exact(okb e0 _).trans ((okb e3 _).trans rfl)
theorem zAI{st:GSt}{w:List UInt8}{l:List Tk}(hw:w.length<=32)(hg:GOk s st)(h:Sq s st.1 (tkR w::l))(hn:st.2+1<=64):∃st',prsT s .prim st=.ok (.leaf (18,0,0,0,0,0,[],w,()),st')/\Got s st 1 l st':=by
 have i1:gIs st zgc=false:=by rw[zjp h];rfl
 obtain⟨e0,g0⟩:=zkB hg h o_;obtain⟨_,e,_⟩:=id h;have e1:yJ st.1=2:=congrArg (λa=>a.1) e;have e2:yB st.1=w:=congrArg (λa=>a.2.1) e;refine⟨_,?_,g0⟩;rw[zcJ hg,zbx,if_neg (by rw[i1];exact kV),if_pos e1];have c0:zaH st (decide ((yB st.1).length<=32)) 2=.ok ():=by rw[e2,decide_eq_true hw];rfl
 refine(okb c0 _).trans ((okb e0 _).trans ?_);rw[e2];rfl
theorem setN{n:Nd}{k c L R N M:Int}{I:List Int}{S:List UInt8}(e:n=(k,c,ndL n,ndR n,N,M,I,S,()))(hL:ndL n=L)(hR:ndR n=R):n=(k,c,L,R,N,M,I,S,()):=by rw[<-hL, <-hR];exact e
theorem zwX{n:Nd}(h:TrOk (.leaf n)):Qt 4 (zl9 n) (.leaf n):=λs st l hg hq hn hf=>by
 obtain⟨h1,h2,hR,hL⟩:=h;obtain⟨⟨k1,k2⟩,_⟩:=zaC h1;show ∃st',prsT s .prim st=.ok (.leaf n,st')/\Got s st 1 l st';unfold zl9 at hq;rcases (show ndK n=1\/ndK n=2\/ndK n=3\/ndK n=4\/ndK n=5\/ndK n=6\/ndK n=7\/ndK n=18 by omega) with k|k|k|k|k|k|k|k<;>rw[k]at hq hL
 .obtain⟨e,b1,b2⟩:=fld1 h1 k;have e:=setN e (hL d_) hR;refine zit (w:=zlC) (lw:=.days) (T:=[tkN (ndN n),tkN (ndM n)]) rfl d_ hg hq hn λx0 g1 q1=>?_;obtain⟨a1,c1⟩:=zbB (lo:=1) (hi:=zdX) g1 q1 b1.1 b1.2;obtain⟨a2,c2⟩:=zbB (lo:=0) (hi:=zdX) c1.ok c1.sq b2.1 b2.2;refine⟨_,(okb a1 _).trans ((okb a2 _).trans ?_),c1.trans0 c2⟩
  conv=>rhs;rw[e]
  rfl
 .obtain⟨e,b0,b1,b2⟩:=fld2 h1 k;have e:=setN e (hL d_) hR;refine zit (w:=zho) (lw:=.years) (T:=[tkN (ndC n),tkN (ndN n),tkN (ndM n)]) rfl d_ hg hq hn λx0 g1 q1=>?_;obtain⟨a0,c0⟩:=zbB (lo:=0) (hi:=2) g1 q1 b0.1 b0.2;obtain⟨a1,c1⟩:=zbB (lo:=1) (hi:=400) c0.ok c0.sq b1.1 b1.2;obtain⟨a2,c2⟩:=zbB (lo:=0) (hi:=ndN n-1) c1.ok c1.sq b2.1 b2.2;refine⟨_,(okb a0 _).trans ((okb a1 _).trans ((okb a2 _).trans ?_)),(c0.trans0 c1).trans0 c2⟩
  conv=>rhs;rw[e]
  rfl
 .obtain⟨e,b0,b1,b2,b3⟩:=fld3 h1 k;have e:=setN e (hL d_) hR;refine zit (w:=zct) (lw:=.months) (T:=tkN (ndC n)::zdk (ndI n)) rfl d_ hg hq hn λx0 g1 q1=>?_;obtain⟨a0,c0⟩:=zbB (lo:=0) (hi:=2) g1 q1 b0.1 b0.2;obtain⟨x1,a1,c1⟩:=ziv b1 b2 b3 c0.ok c0.sq;refine⟨_,(okb a0 _).trans ((okb a1 _).trans ?_),c0.trans0 c1⟩
  conv=>rhs;rw[e]
  rfl
 .obtain⟨e,b0,b1,b2,b3⟩:=fld4 h1 k;have e:=setN e (hL d_) hR;refine zit (w:=zbe) (lw:=.monthdays) (T:=tkN (ndC n)::zdk (ndI n)) rfl d_ hg hq hn λx0 g1 q1=>?_;obtain⟨a0,c0⟩:=zbB (lo:=0) (hi:=2) g1 q1 b0.1 b0.2;obtain⟨x1,a1,c1⟩:=ziv b1 b2 b3 c0.ok c0.sq;refine⟨_,(okb a0 _).trans ((okb a1 _).trans ?_),c0.trans0 c1⟩
  conv=>rhs;rw[e]
  rfl
 .obtain⟨e,b1,b2,b3⟩:=fld5 h1 k;have e:=setN e (hL d_) hR;refine zit (w:=zbo) (lw:=.weekdays) (T:=zdk (ndI n)) rfl d_ hg hq hn λx0 g1 q1=>?_;obtain⟨x1,a1,c1⟩:=ziv b1 b2 b3 g1 q1;refine⟨_,(okb a1 _).trans ?_,c1⟩
  conv=>rhs;rw[e]
  rfl
 .obtain⟨e,b0,b1,b2,b3⟩:=fld6 h1 k;have e:=setN e (hL d_) hR;refine zit (w:=zdA) (lw:=.weeks) (T:=tkN (ndC n)::zdk (ndI n)) rfl d_ hg hq hn λx0 g1 q1=>?_;obtain⟨a0,c0⟩:=zbB (lo:=0) (hi:=2) g1 q1 b0.1 b0.2;obtain⟨x1,a1,c1⟩:=ziv b1 b2 b3 c0.ok c0.sq;refine⟨_,(okb a0 _).trans ((okb a1 _).trans ?_),c0.trans0 c1⟩
  conv=>rhs;rw[e]
  rfl
 .obtain⟨e,b0,b1,bz,b2,b3⟩:=fld7 h1 k;have e:=setN e rfl hR;refine zit (w:=wNth) (lw:=.nth) (T:=[tkN (ndC n),tkN (ndN n),tkN (ndM n),zeS (ndL n)]) rfl d_ hg hq hn λx0 g1 q1=>?_;obtain⟨a0,c0⟩:=zbB (lo:=0) (hi:=2) g1 q1 b0.1 b0.2;obtain⟨a1,c1⟩:=zbB (lo:=-60) (hi:=60) c0.ok c0.sq b1.1 b1.2;obtain⟨a2,c2⟩:=zbB (lo:=0) (hi:=6) c1.ok c1.sq b2.1 b2.2;obtain⟨a3,c3⟩:=zrd (x:=ndL n) o_ c2.ok c2.sq;have cz:zaH (gAdv s x0) ((yJ (gAdv s x0).1 != 3)||(Tok.n (gAdv s x0).1 != 0)) 1=.ok ():=by
   have hq:=c0.sq;obtain⟨_,e,_⟩:=hq;have e2:Tok.n (gAdv s x0).1=ndN n:=congrArg (λa=>a.2.2) e;rw[e2,bne_iff_ne.2 bz,jM];rfl
  refine⟨_,(okb a0 _).trans ((okb cz _).trans ((okb a1 _).trans ((okb a2 _).trans ((okb a3 _).trans ?_)))),((c0.trans0 c1).trans0 c2).trans0 c3⟩
  conv=>rhs;rw[e]
  rfl
 .obtain⟨e,b0⟩:=zxP h1 k;have e:=setN e (hL d_) hR;have hl:(ndS n).length<=32:=by
   unfold zfI at b0;simp only[zf,decide_eq_true_iff]at b0;exact b0.1.2
  obtain⟨st',e1,g1⟩:=zAI hl hg hq hn;refine⟨st',e1.trans ?_,g1⟩
  conv=>rhs;rw[e]
theorem zm6{st:GSt}{w:List UInt8}{sw:SufW}{T l:List Tk}{t t':Tr}{k:Int}(hw:sufW w=some sw)(hg:GOk s st)(h:Sq s st.1 (tkW w::(T++l)))(hn:st.2+1<=64)
  (hl:∀st1,GOk s st1->st1.2=st.2+1->Sq s st1.1 (T++l)->∃x0,sufT (s:=s) t st1 sw=.ok (t',x0)/\Got s st1 k l x0):∃st',prsT s (.chainL t) st=prsT s (.chainL t') st'/\Got s st (1+k) l st':=by
 obtain⟨e0,g0⟩:=zkB hg h o_;obtain⟨_,e,_⟩:=id h;have e1:=congrArg (λa=>a.1) e;have e2:yB st.1=w:=congrArg (λa=>a.2.1) e;obtain⟨x0,e3,g3⟩:=hl _ g0.ok rfl g0.sq;refine⟨x0,?_,g0.trans g3⟩;rw[zhu hg e1 (by rw[e2];exact hw)];exact(okb e0 _).trans ((okb e3 _).trans rfl)
theorem q_un{n:Nd}{a:Tr}{st:GSt}{l:List Tk}(h1:zaW n=true)(hk:11<=ndK n/\ndK n<=16)(x1:ndL n=0/\ndR n=0)(hg:GOk s st)(hq:Sq s st.1 (zjm [] n++l))(hn:st.2+1<=64):
  ∃st',prsT s (.chainL a) st=prsT s (.chainL (.un n a)) st'/\Got s st 1 l st':=by
 unfold zjm at hq;rcases (show ndK n=11\/ndK n=12\/ndK n=13\/ndK n=14\/ndK n=15\/ndK n=16 by omega) with k|k|k|k|k|k<;>rw[k]at hq
 .obtain⟨e,b1⟩:=zxW h1 k;have e:=setN e x1.1 x1.2;refine zm6 (k:=0) (w:=zfK) (sw:=.shift) (T:=[tkN (ndN n)]) rfl hg hq hn λx0 g1 _ q1=>?_;obtain⟨a1,c1⟩:=zbB (lo:=-zdX) (hi:=zdX) g1 q1 b1.1 b1.2;have hs:gSuf s x0 .shift=.ok ((11,0,0,0,ndN n,0,[],[],()),gAdv s x0):=(okb a1 _).trans rfl;refine⟨_,(okb hs _).trans ?_,c1⟩
  conv=>rhs;rw[e]
 .obtain⟨e,b1⟩:=zxV h1 k;have e:=setN e x1.1 x1.2;refine zm6 (k:=0) (w:=zjj) (sw:=.from_) (T:=[tkN (ndN n)]) rfl hg hq hn λx0 g1 _ q1=>?_;obtain⟨a1,c1⟩:=zbB (lo:=0) (hi:=zdX) g1 q1 b1.1 b1.2;have hs:gSuf s x0 .from_=.ok ((12,0,0,0,ndN n,0,[],[],()),gAdv s x0):=(okb a1 _).trans rfl;refine⟨_,(okb hs _).trans ?_,c1⟩
  conv=>rhs;rw[e]
 .obtain⟨e,b1⟩:=zxU h1 k;have e:=setN e x1.1 x1.2;refine zm6 (k:=0) (w:=zfJ) (sw:=.until_) (T:=[tkN (ndN n)]) rfl hg hq hn λx0 g1 _ q1=>?_;obtain⟨a1,c1⟩:=zbB (lo:=0) (hi:=zdX) g1 q1 b1.1 b1.2;have hs:gSuf s x0 .until_=.ok ((13,0,0,0,ndN n,0,[],[],()),gAdv s x0):=(okb a1 _).trans rfl;refine⟨_,(okb hs _).trans ?_,c1⟩
  conv=>rhs;rw[e]
 .obtain⟨e,b1,b2,b3⟩:=zxT h1 k;have e:=setN e x1.1 x1.2;refine zm6 (k:=0) (w:=zfY) (sw:=.also) (T:=zdk (ndI n)) rfl hg hq hn λx0 g1 _ q1=>?_;obtain⟨x2,a1,c1⟩:=ziv b1 b2 b3 g1 q1;have hs:gSuf s x0 .also=.ok ((14,0,0,0,0,0,ndI n,[],()),x2):=(okb a1 _).trans rfl;refine⟨_,(okb hs _).trans ?_,c1⟩
  conv=>rhs;rw[e]
 .obtain⟨e,b1,b2,b3⟩:=zxS h1 k;have e:=setN e x1.1 x1.2;refine zm6 (k:=0) (w:=zcu) (sw:=.except_) (T:=zdk (ndI n)) rfl hg hq hn λx0 g1 _ q1=>?_;obtain⟨x2,a1,c1⟩:=ziv b1 b2 b3 g1 q1;have hs:gSuf s x0 .except_=.ok ((15,0,0,0,0,0,ndI n,[],()),x2):=(okb a1 _).trans rfl;refine⟨_,(okb hs _).trans ?_,c1⟩
  conv=>rhs;rw[e]
 .obtain⟨e,b0,⟨b1,b2,b3⟩,b4⟩:=zxR h1 k;have e:=setN e x1.1 x1.2;refine zm6 (k:=0) (w:=wPos) (sw:=.pos) (T:=tkN (ndC n)::zeS (ndM n)::zdk (ndI n)) rfl hg hq hn λx0 g1 _ q1=>?_;obtain⟨a0,c0⟩:=zbB (lo:=0) (hi:=2) g1 q1 b0.1 b0.2;obtain⟨a2,c2⟩:=zrd (x:=ndM n) o_ c0.ok c0.sq;obtain⟨x2,a1,c1⟩:=ziv b1 b2 b3 c2.ok c2.sq;have hs:gSuf s x0 .pos=.ok ((16,ndC n,0,0,0,ndM n,ndI n,[],()),x2):=(okb a0 _).trans ((okb a2 _).trans ((okb a1 _).trans rfl));refine⟨_,(okb hs _).trans ?_,(c0.trans0 c2).trans0 c1⟩
  conv=>rhs;rw[e]
theorem zt1{n:Nd}{a b:Tr}{B:List Tk}{st:GSt}{l:List Tk}(h1:zaW n=true)(hk:ndK n=17)(x0:ndL n=0/\ndR n=0)(hB:Qt 4 B b)(hg:GOk s st)(hq:Sq s st.1 (zjm B n++l))(hn:st.2+1+(b.size:Int)<=64):
  ∃st',prsT s (.chainL a) st=prsT s (.chainL (.bin n a b)) st'/\Got s st (1+b.size) l st':=by
 unfold zjm at hq;rw[hk]at hq;obtain⟨e,b1⟩:=zxQ h1 hk;have e:=setN e x0.1 x0.2;refine zm6 (k:=b.size) (w:=zbY) (sw:=.behind) (T:=tkN (ndN n)::tkW wOf::B) rfl hg hq o_ λx1 g1 x2 q1=>?_;obtain⟨a1,c1⟩:=zbB (lo:=1) (hi:=400) g1 q1 b1.1 b1.2;obtain⟨a2,c2⟩:=zhR (w:=wOf) c1.ok c1.sq rfl;obtain⟨st',a3,c3⟩:=hB s _ l c2.ok c2.sq (by rw[c2.n,c1.n];omega) trivial;refine⟨st',?_,?_⟩
 .have hs:gSuf s x1 .behind=.ok ((17,0,0,0,ndN n,0,[],[],()),gAdv s (gAdv s x1)):=(okb a1 _).trans ((okb a2 _).trans rfl);refine(okb hs _).trans ((okb a3 _).trans ?_)
  conv=>rhs;rw[e]
 .have:=(c1.trans c2).trans c3;rwa[pp,pp]at this
def levI(t:Tr):Nat:=(t.lev-1).toNat
theorem zkQ(k:Int):1<=levS k/\levS k<=5:=by
 unfold levS
 repeat' split
 all_goals omega
theorem zoE{k:Int}(h:¬(8<=k/\k<=17)):levS k=5:=by
 unfold levS;rw[if_neg o_,if_neg o_,if_neg o_,if_neg o_]
theorem zni{k:Int}(h:11<=k/\k<=17):levS k=4:=by
 unfold levS;rw[if_neg o_,if_neg o_,if_neg o_,if_pos h]
theorem zkA{a:Tr}(h:Qt (levI a) a.toks a){r:Int}{i:Nat}(hr:r=(i:Int)+1)(hi:i<=4):Qt i (parT (decide (a.lev>=r)) a.toks) a:=by
 obtain⟨l1,l5⟩:=zkQ (ndK a.root);have hl:levI a<=4:=by unfold levI Tr.lev;omega
 by_cases hc:a.lev>=r
 .rw[decide_eq_true hc];refine h.up ?_ hl;unfold levI Tr.lev at *;omega
 .rw[decide_eq_false hc];exact(Qt.par (h.up (zk _) hl)).up hi (zj _)
theorem zg0{i:Nat}{n:Nd}{a b:Tr}{A B:List Tk}(hi:i<=2)(hA:Qt i A a)(hB:Qt (i+1) B b)(x3:n=(opK i,zNd.2)):Qt i (A++(tkW (opW i)::B)) (.bin n a b):=λs st l hg hq hn hf=>by
 have hn:st.2+((a.size+b.size+1:Nat):Int)<=64:=hn;rw[zz]at hq;have x4:zxO i (tkW (opW i)::B++l):=by
  rcases (show i=0\/i=1\/i=2 by omega) with rfl|rfl|rfl
  .exact⟨rfl,rfl,λ_=>rfl⟩
  .exact⟨rfl,λ_=>rfl⟩
  .exact λ_=>rfl
 obtain⟨x1,e1,g1⟩:=hA s st _ hg hq o_ x4;have q1:Sq s x1.1 (tkW (opW i)::(B++l)):=g1.sq;have n1:=g1.n;have x5:gIs x1 (opW i)=true:=by
  rw[zjp q1];show(true&&decide (opW i=opW i))=true;rw[decide_eq_true rfl];rfl
 obtain⟨e2,g2⟩:=zkB g1.ok q1 o_;have n2:=g2.n;have x2:zxO (i+1) l:=by
  rcases (show i=0\/i=1\/i=2 by omega) with rfl|rfl|rfl
  .exact hf.2
  .exact hf.2
  .trivial
 obtain⟨x0,e3,g3⟩:=hB s _ l g2.ok g2.sq (by rw[n2,n1];omega) x2;have e4:prsT s (.bin (i+1)) (gAdv s (x1.1,x1.2+1))=.ok (b,x0):=by
  rcases (show i=0\/i=1\/i=2 by omega) with rfl|rfl|rfl
  .have e3:prsT s (.bin 1) _=prsT s (.binL 1 b) x0:=e3;rw[zjR (i:=1) g3.ok g3.sq hf.1]at e3;exact e3
  .have e3:prsT s (.bin 2) _=prsT s (.binL 2 b) x0:=e3;rw[zjR (i:=2) g3.ok g3.sq hf.1]at e3;exact e3
  .have e3:prsT s .chain _=prsT s (.chainL b) x0:=e3;rw[zrf g3.ok g3.sq hf]at e3;rw[ziw g2.ok d_];exact e3
 have e5:prsT s (.binL i a) x1=prsT s (.binL i (.bin n a b)) x0:=by
  rw[zjT g1.ok x5,x3];exact(okb e2 _).trans ((okb e4 _).trans rfl)
 refine⟨x0,?_,?_⟩
 .rw[e1];rcases (show i=0\/i=1\/i=2 by omega) with rfl|rfl|rfl
  .exact e5
  .exact e5
  .exact e5
 .have:=(g1.trans g2).trans g3;rwa[show(a.size:Int)+1+(b.size:Int)=((Tr.bin n a b).size:Int) by show _=((a.size+b.size+1:Nat):Int);omega]at this
theorem zv1{n:Nd}(h:zaW n=true)(hk:8<=ndK n/\ndK n<=10)(x0:ndL n=0/\ndR n=0):n=(ndK n,zNd.2):=by
 rcases (show ndK n=8\/ndK n=9\/ndK n=10 by omega) with k|k|k
 .rw[k];exact setN (fld8 h k) x0.1 x0.2
 .rw[k];exact setN (fld9 h k) x0.1 x0.2
 .rw[k];exact setN (zzF h k) x0.1 x0.2
theorem zfM:∀t:Tr,TrOk t->Qt (levI t) t.toks t
 |.leaf n,h=>by
  have:levI (.leaf n)=4:=by
   show(levS (ndK n)-1).toNat=4;rw[zoE h.2.1];rfl
  rw[this];exact zwX h
 |.un n a,h=>by
  obtain⟨h1,hk,x1,ha⟩:=h;have:levI (.un n a)=3:=by
   show(levS (ndK n)-1).toNat=3;rw[zni o_];rfl
  rw[this];intro s st l hg hq hn hf;have hn:st.2+((a.size+1:Nat):Int)<=64:=hn;have hq:Sq s st.1 (parT (decide (a.lev>=4)) a.toks++zjm [] n++l):=hq;rw[zz]at hq;obtain⟨x4,e1,g1⟩:=zkA (zfM a ha) (i:=3) rfl d_ s st _ hg hq o_ trivial;have n1:=g1.n;obtain⟨x2,e2,g2⟩:=q_un (a:=a) h1 hk x1 g1.ok g1.sq o_;exact⟨x2,Eq.trans e1 e2,g1.trans g2⟩
 |.bin n a b,h=>by
  obtain⟨h1,hk,x1,ha,hb⟩:=h;by_cases x3:ndK n=17
  .have:levI (.bin n a b)=3:=by
    show(levS (ndK n)-1).toNat=3;rw[zni o_];rfl
   rw[this];intro s st l hg hq hn hf;have hn:st.2+((a.size+b.size+1:Nat):Int)<=64:=hn;unfold Tr.toks at hq;rw[if_pos x3,zz]at hq;obtain⟨x4,e1,g1⟩:=zkA (zfM a ha) (i:=3) rfl d_ s st _ hg hq o_ trivial;have n1:=g1.n;obtain⟨x2,e2,g2⟩:=zt1 (a:=a) h1 x3 x1 (zkA (zfM b hb) (r:=5) (i:=4) rfl d_) g1.ok g1.sq o_;have:=g1.trans g2;rw[show(a.size:Int)+(1+(b.size:Int))=((Tr.bin n a b).size:Int) by show _=((a.size+b.size+1:Nat):Int);omega]at this;exact⟨x2,Eq.trans e1 e2,this⟩
  .have hk:8<=ndK n/\ndK n<=10:=o_;have x0:=zv1 h1 hk x1;unfold Tr.toks;rw[if_neg x3];have hl:levI (.bin n a b)=(levS (ndK n)-1).toNat:=rfl;rw[hl];rcases (show ndK n=8\/ndK n=9\/ndK n=10 by omega) with k|k|k<;>rw[k]at x0 ⊢
   .exact zg0 (i:=2) d_ (zkA (zfM a ha) rfl d_) (zkA (zfM b hb) (r:=4) rfl d_) x0
   .exact zg0 (i:=0) d_ (zkA (zfM a ha) rfl d_) (zkA (zfM b hb) (r:=2) rfl d_) x0
   .exact zg0 (i:=1) d_ (zkA (zfM a ha) rfl d_) (zkA (zfM b hb) (r:=3) rfl d_) x0
theorem zre{T:List Tk}{t:Tr}(hT:Qt 0 T t)(hs:t.size<=64)(h:Toks s 0 T):zeL s=.ok t:=by
 have hg:GOk s (zjx s):=zhY;obtain⟨st',e,g⟩:=hT s (zjx s) [] hg (by rw[zW];exact zmZ h) (by show(0:Int)+_<=64;omega) ⟨rfl,rfl,t_⟩;have e:prsT s (.bin 0) (zjx s)=prsT s (.binL 0 t) st':=e;rw[zjR g.ok g.sq rfl]at e;have hc:=g.sq;have hr:zgC s (zjx s)=.ok (t,st'):=by
  unfold zgC;refine(okb e _).trans ?_;have c0:zaH st' (yJ st'.1==0) 3=.ok ():=by rw[hc];rfl
  exact(okb c0 _).trans rfl
 unfold zeL;rw[hr];rfl
end
def Bd:List UInt8->Prop
 | []=>True
 |c::_=>isPt c=false
theorem Bd.app{r v:List UInt8}(h:Bd r)(hv:Bd v):Bd (r++v):=by
 cases r with
 |nil=>exact hv
 |cons c r=>exact h
def zfG(k:Int)(u:List UInt8):TokT:=
 match u with
 | []=>(0,k,0,[],0,())
 |c::r=>
  if 0<zau (c::r) then(1,k,(zau (c::r):Nat),(c::r).take (zau (c::r)),0,())
  else if c=64/\0<zau r then(2,k,(zau r:Nat)+1,r.take (zau r),0,())
  else match zc6 (c::r) with
   |some (q,n,t,x)=>(q,k,(n:Nat),t,x,())
   |none=>if c=40\/c=41\/c=61 then(4,k,1,[c],0,()) else(5,k,1,[c],0,())
theorem zqV(s:List UInt8):zbL s=zfG ((zbJ isWh s:Nat):Int) (s.drop (zbJ isWh s)):=rfl
theorem ztL(k:Int)(u:List UInt8):zfG k u=((zfG 0 u).1,k,(zfG 0 u).2.2):=by
 cases u with
 |nil=>rfl
 |cons c r=>
  unfold zfG;simp only[];split
  .rfl
  .split
   .rfl
   .split
    .rfl
    .split<;>rfl
theorem zkl{p:UInt8->Bool}{w u:List UInt8}(h:∀c∈w,p c=true):zbJ p (w++u)=w.length+zbJ p u:=by
 unfold zbJ;rw[kf h,zg]
theorem zvz{p:UInt8->Bool}{c:UInt8}{u:List UInt8}(h:p c=false):zbJ p (c::u)=0:=by
 unfold zbJ;rw[kK,h];rfl
theorem zwH{u:List UInt8}(h:Bd u):zbJ isPt u=0:=by
 cases u with
 |nil=>rfl
 |cons c r=>exact zvz h
structure Sp(a:Tk)(w:List UInt8):Prop where
 ne:w≠ []
 nw:∀c∈w,isWh c=false
 cls:a.1≠0
 sc:∀r,(a.1=4\/Bd r)->zfG 0 (w++r)=(a.1,0,((w.length:Nat):Int),a.2.1,a.2.2,())
inductive Lex:List UInt8->List Tk->Prop
 |nil {ws:List UInt8} (h:∀c∈ws,isWh c=true):Lex ws []
 |tok {ws w r:List UInt8}{a:Tk}{l:List Tk} (h:∀c∈ws,isWh c=true) (hw:Sp a w) (hb:a.1=4\/Bd r) (hr:Lex r l):Lex (ws++(w++r)) (a::l)
theorem Lex.ws{ws u:List UInt8}{l:List Tk}(h:∀c∈ws,isWh c=true)(hu:Lex u l):Lex (ws++u) l:=by
 cases hu with
 |nil h2=>exact .nil λc hc=>(zU.1 hc).elim (h c) (h2 c)
 |tok h2 hw hb hr=>
  rw[<-zz];exact .tok (λc hc=>(zU.1 hc).elim (h c) (h2 c)) hw hb hr
theorem Lex.sp{u:List UInt8}{l:List Tk}(hu:Lex u l):Lex (32::u) l:=Lex.ws (ws:=[32]) (λc hc=>by rw[zt.1 hc];rfl) hu
theorem Lex.app{u:List UInt8}{l:List Tk}(hu:Lex u l){v:List UInt8}{m:List Tk}(hv:Lex v m)(hb:Bd v):Lex (u++v) (l++m):=by
 induction hu with
 |nil h=>exact hv.ws h
 |tok h hw hb' _ ih=>
  rw[zz,zz];refine .tok h hw ?_ ih;rcases hb' with h4|hb'
  .exact .inl h4
  .exact .inr (hb'.app hb)
theorem Sp.lex{a:Tk}{w:List UInt8}(h:Sp a w):Lex w [a]:=by
 have:=Lex.tok (ws:=[]) (r:=[]) (l:=[]) (λc hc=>by cases hc) h (.inr trivial) (.nil λc hc=>by cases hc);rwa[xH,zW]at this
theorem Sp.lexR{a:Tk}{w:List UInt8}(h:Sp a w){r:List UInt8}{l:List Tk}(hb:a.1=4\/Bd r)(hr:Lex r l):Lex (w++r) (a::l):=by
 have:=Lex.tok (ws:=[]) (λc hc=>by cases hc) h hb hr;rwa[xH]at this
theorem zkP{u:List UInt8}{l:List Tk}(h:Lex u l):∀(s p:List UInt8),s=p++u->Toks s ((p.length:Nat):Int) l:=by
 induction h with
 | @nil ws h=>
  intro s p hs;show yJ (zeT s _)=0;unfold zeT;rw[hs,zH,vh,zqV];have e:zbJ isWh ws=ws.length:=by
   have:=zkl (u:=[]) h;rw[zW]at this;rw[this];rfl
  rw[e,kF];rfl
 | @tok ws w r a l h hw hb hr ih=>
  intro s p hs;have hd:s.drop p.length=ws++(w++r):=by rw[hs,vh]
  have e:zbJ isWh (ws++(w++r))=ws.length:=by
   rw[zkl h];cases w with
   |nil=>exact absurd rfl hw.ne
   |cons c q=>
    rw[ja,zvz (hw.nw c (zC ..))];rfl
  have x0:zeT s ((p.length:Nat):Int)=(a.1,((ws.length:Nat):Int)+((p.length:Nat):Int),((w.length:Nat):Int),a.2.1,a.2.2,()):=by
   unfold zeT;rw[zH,hd,zqV,e,vh,ztL,hw.sc r hb];rfl
  refine⟨?_,?_,?_⟩
  .rw[x0];exact hw.cls
  .rw[x0];rfl
  .rw[x0];have:=ih s (p++ws++w) (by rw[hs];simp);rw[zg,zg]at this;show Toks s (((ws.length:Nat):Int)+((p.length:Nat):Int)+((w.length:Nat):Int)) l;rwa[show((ws.length:Nat):Int)+((p.length:Nat):Int)+((w.length:Nat):Int)=((p.length+ws.length+w.length:Nat):Int) by omega]
theorem zo8{p:UInt8->Bool}(h:∀n:Fin 256,p (yR n.val)=true)(c:UInt8):p c=true:=by
 have:=h ⟨c.toNat,c.toNat_lt⟩;rwa[wU]at this
theorem zy4(c:UInt8)(h:isPt c=true):isWh c=false:=by
 have:=zo8 (p:=λc=>!isPt c|| !isWh c) (by decide+kernel) c;rw[h]at this
 simpa using this
theorem zh1(c:UInt8)(h:isDg c=true):isPt c=true/\isLt c=false/\isWh c=false/\c≠64/\c≠45/\c≠40/\c≠41/\c≠61:=by
 have:=zo8 (p:=λc=>!isDg c||(isPt c&& !isLt c&& !isWh c&&(c != 64)&&(c != 45)&&(c != 40)&&(c != 41)&&(c != 61))) (by decide+kernel) c;rw[h]at this;simp only[Bool.not_true,qZ,zf,zL,bne_iff_ne]at this;exact⟨this.1.1.1.1.1.1.1,this.1.1.1.1.1.1.2,this.1.1.1.1.1.2,this.1.1.1.1.2,this.1.1.1.2,this.1.1.2,this.1.2,this.2⟩
theorem zhm{w r:List UInt8}(x0:w≠ [])(h1:w.head?.all isLt=true)(h2:∀c∈w,isPt c=true)(hb:Bd r):zau (w++r)=w.length:=by
 cases w with
 |nil=>exact absurd rfl x0
 |cons c q=>
  have hc:isLt c=true:=h1;show(if isLt c then zbJ isPt (c::q++r) else 0)=_;rw[if_pos hc,zkl h2,zwH hb];rfl
theorem zwI{w:List UInt8}(x0:w≠ [])(h1:w.head?.all isLt=true)(h2:∀c∈w,isPt c=true):Sp (tkW w) w:=by
 refine⟨x0,λc hc=>zy4 c (h2 c hc),by show(1:Int)≠0;decide,λr hb=>?_⟩;have hb:=hb.resolve_left (by show(1:Int)≠4;decide);have hl:=zhm x0 h1 h2 hb;have hp:0<w.length:=jU.2 x0;cases w with
 |nil=>exact absurd rfl x0
 |cons c q=>
  show zfG 0 (c::(q++r))=_;unfold zfG;have hl:zau (c::(q++r))=(c::q).length:=hl;simp only[];rw[hl,if_pos hp];show(1,0,_,(c::q++r).take (c::q).length,0,())=_;rw[ju];rfl
theorem zyV{w:List UInt8}(h:zfI w=true):Sp (tkR w) (64::w):=by
 unfold zfI at h;simp only[zf,decide_eq_true_iff,yE]at h;obtain⟨⟨x0,_⟩,h1,h2⟩:=h;refine⟨by simp,λc hc=>?_,by show(2:Int)≠0;decide,λr hb=>?_⟩
 .rcases zs.1 hc with rfl|hc
  .rfl
  .exact zy4 c (h2 c hc)
 have hb:Bd r:=hb.resolve_left (by show(2:Int)≠4;decide);have hl:=zhm x0 h1 h2 hb;have hp:0<w.length:=jU.2 x0;show zfG 0 (64::(w++r))=_;unfold zfG;have x1:zau (64::(w++r))=0:=rfl;simp only[];rw[x1,if_neg d_,hl,if_pos ⟨t_,hp⟩,ju];rw[zv];rfl
theorem zn9{c:UInt8}(hc:c=40\/c=41\/c=61):Sp (tkS c) [c]:=by
 have hn:∀r,zc6 (c::r)=none:=λr=>by
  unfold zc6;have:(zaP (c::r)).length=0:=by
   unfold zaP zaR;rcases hc with rfl|rfl|rfl<;>rfl
  rw[if_pos this]
 refine⟨by simp,λd hd=>?_,by show(4:Int)≠0;decide,λr _=>?_⟩
 .rw[zt.1 hd];rcases hc with rfl|rfl|rfl<;>rfl
 show zfG 0 (c::r)=_;unfold zfG;have h0:zau (c::r)=0:=by rcases hc with rfl|rfl|rfl<;>rfl
 have x0:c≠64:=by rcases hc with rfl|rfl|rfl<;>decide
 simp only[];rw[h0,if_neg d_,if_neg (λh=>x0 h.1),hn,if_pos hc];rfl
theorem zrr(l:List UInt8)(c:UInt8):numv (l++[c])=10*numv l+(c.toNat-48):=by unfold numv;rw[vO];rfl
theorem zo0{d:Nat}(h:d<10):isDg (yR (48+d))=true/\(yR (48+d)).toNat=48+d:=by
 have e:(yR (48+d)).toNat=48+d:=by rw[UInt8.toNat_ofNat'];exact jb o_
 refine⟨?_,e⟩;unfold isDg;rw[zf,decide_eq_true_iff,decide_eq_true_iff,qu,qu,e];exact⟨by show 48<=_;omega,by show _<=57;omega⟩
theorem zi0(u:Nat):(∀c∈xK u,isDg c=true)/\numv (xK u)=u/\(1<=u->(xK u).head? ≠some 48)/\xK u≠ []:=by
 induction u using Nat.strongRecOn with
 |_ u ih=>
  rw[xK];by_cases hu:u<10
  .rw[dif_pos hu];obtain⟨h1,h2⟩:=zo0 hu;refine⟨λc hc=>by rw[zt.1 hc];exact h1,?_,λh0 e=>?_,by simp⟩
   .show 10*0+((yR (48+u)).toNat-48)=u;rw[h2];omega
   .
    have:=congrArg UInt8.toNat (zP e);rw[h2]at this;have:48+u=48:=this;omega
  .rw[dif_neg hu];obtain⟨i1,i2,i3,i4⟩:=ih (u/10) o_;obtain⟨h1,h2⟩:=zo0 (d:=u%10) o_;refine⟨λc hc=>?_,?_,λ_ e=>?_,by simp⟩
   .rcases zU.1 hc with hc|hc
    .exact i1 c hc
    .rw[zt.1 hc];exact h1
   .rw[zrr,i2,h2];omega
   .refine i3 o_ ?_;cases hd:xK (u/10) with
    |nil=>exact absurd hd i4
    |cons c q=>rw[hd]at e;exact e
theorem zqF{w r:List UInt8}(h:∀c∈w,isDg c=true)(hb:Bd r):(w++r).takeWhile isDg=w:=by
 rw[kf h];have:r.takeWhile isDg=[]:=by
  cases r with
  |nil=>rfl
  |cons c q=>
   have hb:isPt c=false:=hb;rw[kK];have:isDg c=false:=by
    cases hd:isDg c with
    |false=>rfl
    |true=>rw[(zh1 c hd).1]at hb;cases hb
   rw[this];rfl
 rw[this,zW]
def zf3(n:Int):Prop:=-1125899906842624<n/\n<1125899906842624
theorem zqI{n:Int}(h:zf3 n):Sp (tkN n) (deI n):=by
 obtain⟨h1,h2⟩:=h;unfold deI uo;by_cases hn:n<0
 .obtain⟨d1,d2,d3,d4⟩:=zi0 n.natAbs;have d3:=d3 o_;generalize hD:xK n.natAbs=D at *;have x1:deI n=45::D:=by unfold deI uo;rw[if_pos hn,hD]
  rw[if_pos hn];refine⟨by simp,λc hc=>?_,by show(3:Int)≠0;decide,λr hb=>?_⟩
  .rcases zs.1 hc with rfl|hc
   .rfl
   .exact(zh1 c (d1 c hc)).2.2.1
  have hb:=hb.resolve_left (by show(3:Int)≠4;decide);have hlen:=jU.2 d4;have hs:zaR (45::(D++r))=1:=rfl;have hg:zaP (45::(D++r))=D:=by
   unfold zaP;rw[hs];exact zqF d1 hb
  have hv:valN (45::(D++r))=n:=by
   unfold valN;rw[hs,if_pos rfl,hg,d2,Nat.min_eq_left (by unfold zdK;omega)];omega
  show zfG 0 (45::(D++r))=_;unfold zfG;simp only[];rw[show zau (45::(D++r))=0 from rfl,if_neg d_,if_neg (λh=>absurd h.1 d_)];have x0:zc6 (45::(D++r))=some (3,1+D.length,(45::(D++r)).take (1+D.length),n):=by
   unfold zc6;rw[hg,hs,hv,if_neg o_,if_neg (λh=>d3 h.1)]
  rw[x0];have ht:(45::(D++r)).take (1+D.length)=45::D:=by
   rw[Nat.add_comm,kI,ju]
  show(3,0,((1+D.length:Nat):Int),(45::(D++r)).take (1+D.length),n,())=(3,0,(((45::D).length:Nat):Int),deI n,n,());rw[ht,x1,zv,Nat.add_comm]
 .obtain⟨d1,d2,d3,d4⟩:=zi0 n.toNat;have hz:n.toNat=0->xK n.toNat=[48]:=λe=>by rw[e,xK];rfl
  generalize hD:xK n.toNat=D at *;have x1:deI n=D:=by unfold deI uo;rw[if_neg hn,hD]
  rw[if_neg hn];refine⟨d4,λc hc=>(zh1 c (d1 c hc)).2.2.1,by show(3:Int)≠0;decide,λr hb=>?_⟩;have hb:=hb.resolve_left (by show(3:Int)≠4;decide);have hlen:=jU.2 d4;cases D with
  |nil=>exact absurd rfl d4
  |cons c q=>
   have x2:=d1 c (zC ..);obtain⟨_,f1,_,f2,f3,_⟩:=zh1 c x2;have hs:zaR (c::(q++r))=0:=by
    unfold zaR;exact if_neg (λe=>f3 (zP e))
   have hg:zaP (c::(q++r))=c::q:=by
    unfold zaP;rw[hs];exact zqF (w:=c::q) d1 hb
   have hv:valN (c::(q++r))=n:=by
    unfold valN;rw[hs,if_neg d_,hg,d2,Nat.min_eq_left (by unfold zdK;omega)];omega
   show zfG 0 (c::(q++r))=_;unfold zfG;simp only[];rw[show zau (c::(q++r))=0 by show(if isLt c then zbJ isPt (c::(q++r)) else 0)=0;rw[f1];rfl,if_neg d_,if_neg (λh=>f2 h.1)];have x0:zc6 (c::(q++r))=some (3,0+(c::q).length,(c::(q++r)).take (0+(c::q).length),n):=by
    unfold zc6;rw[hg,hs,hv,if_neg o_,if_neg];rintro ⟨e1,e2⟩;by_cases h0:n.toNat=0
    .have e3:q=[]:=by have:=hz h0;exact(List.cons.inj this).2
     rw[e3]at e2;have e2:1<0+1:=e2;omega
    .exact d3 o_ e1
   rw[x0];have ht:(c::(q++r)).take (0+(c::q).length)=c::q:=by
    rw[yL];exact ju (l₁:=c::q)
   show(3,0,((0+(c::q).length:Nat):Int),(c::(q++r)).take (0+(c::q).length),n,())=(3,0,(((c::q).length:Nat):Int),deI n,n,());rw[ht,x1,yL]
theorem zcq:∀l:List Int,(∀x∈l,zf3 x)->Lex (zeu l) (l.map tkN)/\Bd (zeu l)
 | [],_=>⟨.nil (λc hc=>(by cases hc)),t_⟩
 |x::r,h=>by
  obtain⟨h1,h2⟩:=zcq r λy hy=>h y (zE _ hy);refine⟨?_,rfl⟩;exact((zqI (h x (zC ..))).lexR (.inr h2) h1).sp
theorem zrV:∀(l:List Int)(i:Nat),(∀x∈l,zf3 x)->Lex (litS (i+1) l++[41]) (l.map tkN++[tkS 41])/\Bd (litS (i+1) l++[41])
 | [],_,_=>⟨(zn9 (.inr (.inl rfl))).lex,rfl⟩
 |x::r,i,h=>by
  obtain⟨h1,h2⟩:=zrV r (i+1) λy hy=>h y (zE _ hy);have e:litS (i+1) (x::r)++[41]=32::(deI x++(litS (i+1+1) r++[41])):=by
   show(sepS (i+1)++deI x++litS (i+1+1) r)++[41]=_;simp[sepS]
  rw[e];exact⟨((zqI (h x (zC ..))).lexR (.inr h2) h1).sp,rfl⟩
theorem zew{l:List Int}(x0:l≠ [])(h:∀x∈l,zf3 x):Lex (zb8 l) (zdk l)/\Bd (zb8 l):=by
 cases l with
 |nil=>exact absurd rfl x0
 |cons x r=>
  obtain⟨h1,h2⟩:=zrV r 0 λy hy=>h y (zE _ hy);have e:zb8 (x::r)=32::([40]++(deI x++(litS (0+1) r++[41]))):=by
   show(sepS 0++deI x++litS (0+1) r)++[41]=_;simp[sepS]
  rw[e];exact⟨((zn9 (.inl rfl)).lexR (.inl rfl) ((zqI (h x (zC ..))).lexR (.inr h2) h1)).sp,rfl⟩
theorem za6{w:List UInt8}(x0:w≠ [])(h1:w.head?.all isLt=true)(h2:w.all isPt=true){r:List UInt8}{l:List Tk}(hr:Lex r l)(hb:Bd r):Lex (w++r) (tkW w::l):=
 (zwI x0 h1 (yE.1 h2)).lexR (.inr hb) hr
theorem zl8(n:Int){r:List UInt8}{l:List Tk}(hr:Lex r l)(hb:Bd r):Lex (zcl n++r) (zeS n::l)/\Bd (zcl n++r):=by
 unfold zcl zeS;split
 .exact⟨(za6 d_ rfl d_ hr hb).sp,rfl⟩
 .exact⟨(za6 d_ rfl d_ hr hb).sp,rfl⟩
theorem zxn:Lex [] []:=.nil λc hc=>by cases hc
theorem ze3{c:Bool}{u:List UInt8}{l:List Tk}(h:Lex u l):Lex (parS c u) (parT c l):=by
 cases c with
 |true=>exact h
 |false=>exact(zn9 (.inl rfl)).lexR (.inl rfl) (h.app (zn9 (.inr (.inl rfl))).lex rfl)
def Tr.text:Tr->List UInt8
 |.leaf n=>zd0 n
 |.un n a=>parS (decide (a.lev>=4)) a.text++zb6 [] n
 |.bin n a b=>if ndK n=17 then parS (decide (a.lev>=4)) a.text++zb6 (parS (decide (b.lev>=5)) b.text) n
  else parS (decide (a.lev>=levS (ndK n))) a.text++(putS ([32]++opWd (levS (ndK n))++[32]) []++parS (decide (b.lev>=levS (ndK n)+1)) b.text)
theorem zcv{lo hi:Int}{z:Bool}(h1: -1125899906842624<lo)(h2:hi<1125899906842624):∀{l:List Int}{last:Int},Ris lo hi z last l->∀x∈l,zf3 x
 | [],_,_,x,hx=>by cases hx
 |y::r,_,h,x,hx=>by
  obtain⟨_,a,b,_,h⟩:=h;rcases zs.1 hx with rfl|hx
  .exact⟨by omega,by omega⟩
  .exact zcv h1 h2 h x hx
theorem num1{a:Int}(h:zf3 a):∀x∈ [a],zf3 x:=λx hx=>by rw[zt.1 hx];exact h
theorem num2{a b:Int}(h:zf3 a)(h':zf3 b):∀x∈ [a,b],zf3 x:=λx hx=>by
 rcases zs.1 hx with rfl|hx
 .exact h
 .exact num1 h' x hx
theorem num3{a b c:Int}(h:zf3 a)(h':zf3 b)(x0:zf3 c):∀x∈ [a,b,c],zf3 x:=λx hx=>by
 rcases zs.1 hx with rfl|hx
 .exact h
 .exact num2 h' x0 x hx
theorem nt{a lo hi:Int}(h:lo<=a/\a<=hi)(h1: -1125899906842624<lo:=by decide)(h2:hi<1125899906842624:=by decide):zf3 a:=⟨by omega,by omega⟩
theorem zuu{n:Nd}(h1:zaW n=true)(h2:¬(8<=ndK n/\ndK n<=17)):Lex (zd0 n) (zl9 n):=by
 obtain⟨⟨k1,k2⟩,_⟩:=zaC h1;unfold zd0 zl9;rcases (show ndK n=1\/ndK n=2\/ndK n=3\/ndK n=4\/ndK n=5\/ndK n=6\/ndK n=7\/ndK n=18 by omega) with k|k|k|k|k|k|k|k<;>rw[k]
 .obtain⟨e,b1,b2⟩:=fld1 h1 k;obtain⟨x,y⟩:=zcq [ndN n,ndM n] (num2 (nt b1) (nt b2));exact za6 (w:=zlC) d_ rfl d_ x y
 .obtain⟨e,b0,b1,b2⟩:=fld2 h1 k;obtain⟨x,y⟩:=zcq [ndC n,ndN n,ndM n] (num3 (nt b0) (nt b1) ⟨by omega,by omega⟩);exact za6 (w:=zho) d_ rfl d_ x y
 .obtain⟨e,b0,b1,b2,b3⟩:=fld3 h1 k;obtain⟨x,y⟩:=zcq [ndC n] (num1 (nt b0));obtain⟨x2,y2⟩:=zew b1 (zcv d_ d_ b3);have:=za6 (w:=zct) d_ rfl d_ (x.app x2 y2) (y.app y2);rwa[<-zz]at this
 .obtain⟨e,b0,b1,b2,b3⟩:=fld4 h1 k;obtain⟨x,y⟩:=zcq [ndC n] (num1 (nt b0));obtain⟨x2,y2⟩:=zew b1 (zcv d_ d_ b3);have:=za6 (w:=zbe) d_ rfl d_ (x.app x2 y2) (y.app y2);rwa[<-zz]at this
 .obtain⟨e,b1,b2,b3⟩:=fld5 h1 k;obtain⟨x2,y2⟩:=zew b1 (zcv d_ d_ b3);exact za6 (w:=zbo) d_ rfl d_ x2 y2
 .obtain⟨e,b0,b1,b2,b3⟩:=fld6 h1 k;obtain⟨x,y⟩:=zcq [ndC n] (num1 (nt b0));obtain⟨x2,y2⟩:=zew b1 (zcv d_ d_ b3);have:=za6 (w:=zdA) d_ rfl d_ (x.app x2 y2) (y.app y2);rwa[<-zz]at this
 .obtain⟨e,b0,b1,bz,b2,b3⟩:=fld7 h1 k;obtain⟨x,y⟩:=zcq [ndC n,ndN n,ndM n] (num3 (nt b0) (nt b1) (nt b2));obtain⟨x2,y2⟩:=zl8 (ndL n) zxn trivial;have:=za6 (w:=wNth) d_ rfl d_ (x.app x2 y2) (y.app y2);rw[<-zz]at this;exact this
 .obtain⟨e,b0⟩:=zxP h1 k;show Lex ((64::ndS n)++[]) [tkR (ndS n)];rw[zW];exact(zyV b0).lex
theorem znh{n:Nd}{b:List UInt8}{B:List Tk}(h1:zaW n=true)(h2:11<=ndK n/\ndK n<=17)(hB:ndK n=17->Lex b B):Lex (zb6 b n) (zjm B n)/\Bd (zb6 b n):=by
 unfold zb6 zjm;rcases (show ndK n=11\/ndK n=12\/ndK n=13\/ndK n=14\/ndK n=15\/ndK n=16\/ndK n=17 by omega) with k|k|k|k|k|k|k<;>rw[k]
 .obtain⟨e,b1⟩:=zxW h1 k;obtain⟨x,y⟩:=zcq [ndN n] (num1 (nt b1));exact⟨(za6 (w:=zfK) d_ rfl d_ x y).sp,rfl⟩
 .obtain⟨e,b1⟩:=zxV h1 k;obtain⟨x,y⟩:=zcq [ndN n] (num1 (nt b1));exact⟨(za6 (w:=zjj) d_ rfl d_ x y).sp,rfl⟩
 .obtain⟨e,b1⟩:=zxU h1 k;obtain⟨x,y⟩:=zcq [ndN n] (num1 (nt b1));exact⟨(za6 (w:=zfJ) d_ rfl d_ x y).sp,rfl⟩
 .obtain⟨e,b1,b2,b3⟩:=zxT h1 k;obtain⟨x2,y2⟩:=zew b1 (zcv d_ d_ b3);exact⟨(za6 (w:=zfY) d_ rfl d_ x2 y2).sp,rfl⟩
 .obtain⟨e,b1,b2,b3⟩:=zxS h1 k;obtain⟨x2,y2⟩:=zew b1 (zcv d_ d_ b3);exact⟨(za6 (w:=zcu) d_ rfl d_ x2 y2).sp,rfl⟩
 .obtain⟨e,b0,⟨b1,b2,b3⟩,b4⟩:=zxR h1 k;obtain⟨x,y⟩:=zcq [ndC n] (num1 (nt b0));obtain⟨x2,y2⟩:=zew b1 (zcv d_ d_ b3);obtain⟨x3,y3⟩:=zl8 (ndM n) x2 y2;refine⟨?_,rfl⟩;show Lex ((32::wPos)++zeu [ndC n]++((zcl (ndM n)++[])++zb8 (ndI n))) _;rw[zW,zz];exact(za6 (w:=wPos) d_ rfl d_ (x.app x3 y3) (y.app y3)).sp
 .obtain⟨e,b1⟩:=zxQ h1 k;obtain⟨x,y⟩:=zcq [ndN n] (num1 (nt b1));refine⟨?_,rfl⟩;show Lex ((32::zbY)++zeu [ndN n]++(((32::wOf)++[32]++[])++b)) _;rw[zW,zz,zz];have x3:=(za6 (w:=wOf) d_ rfl d_ (hB k).sp rfl).sp;exact(za6 (w:=zbY) d_ rfl d_ (x.app x3 rfl) (y.app rfl)).sp
theorem zds:∀t:Tr,TrOk t->Lex t.text t.toks
 |.leaf n,h=>zuu h.1 h.2.1
 |.un n a,h=>by
  obtain⟨h1,hk,_,ha⟩:=h;obtain⟨x,y⟩:=znh (b:=[]) (B:=[]) h1 o_ (λe=>by omega);exact(ze3 (zds a ha)).app x y
 |.bin n a b,h=>by
  obtain⟨h1,hk,_,ha,hb⟩:=h;unfold Tr.text Tr.toks;split
  .rename_i x0;obtain⟨x,y⟩:=znh (n:=n) h1 o_ (λ_=>ze3 (c:=decide (b.lev>=5)) (zds b hb));exact(ze3 (zds a ha)).app x y
  .rename_i x0;have hl:levS (ndK n)=1\/levS (ndK n)=2\/levS (ndK n)=3:=by
    rcases (show ndK n=8\/ndK n=9\/ndK n=10 by omega) with k|k|k<;>rw[k]
    .exact .inr (.inr rfl)
    .exact .inl rfl
    .exact .inr (.inl rfl)
   have hB:=ze3 (c:=decide (b.lev>=levS (ndK n)+1)) (zds b hb);generalize parS (decide (b.lev>=levS (ndK n)+1)) b.text=v at hB ⊢;generalize parT (decide (b.lev>=levS (ndK n)+1)) b.toks=m at hB ⊢;have hw:Lex (putS ([32]++opWd (levS (ndK n))++[32]) []++v) (tkW (opWd (levS (ndK n)))::m)/\Bd (putS ([32]++opWd (levS (ndK n))++[32]) []++v):=by
    have e:putS ([32]++opWd (levS (ndK n))++[32]) []++v=32::(opWd (levS (ndK n))++(32::v)):=by
     show(([32]++opWd (levS (ndK n))++[32])++[])++v=_;simp
    rw[e];refine⟨?_,rfl⟩;rcases hl with hl|hl|hl<;>rw[hl]
    .exact(za6 (w:=wOr) d_ rfl d_ hB.sp rfl).sp
    .exact(za6 (w:=zlB) d_ rfl d_ hB.sp rfl).sp
    .exact(za6 (w:=wAnd) d_ rfl d_ hB.sp rfl).sp
   exact(ze3 (zds a ha)).app hw.1 hw.2
theorem zrc{t:Tr}(h:TrOk t):Qt 0 t.toks t:=(zfM t h).up (zk _) (by have:=zkQ (ndK t.root);unfold levI Tr.lev;omega)
theorem zjW{t:Tr}(h:TrOk t)(hs:t.size<=64):zeL t.text=.ok t:=zre (zrc h) hs (zkP (zds t h) _ [] rfl)
def opsN(n:Nd):Int:=(zdV (ndK n)).1
def zeX(n:Nd)(i:Int):Bool:=
 (bif decide (0<opsN n) then inB (ndL n) 0 (i-1) else(ndL n==0)||(ndK n==7))&&(bif decide (1<opsN n) then inB (ndR n) 0 (i-1) else ndR n==0)
def bump(u:List Int)(j:Int):List Int:=u.set j.toNat (u.getD j.toNat 0+1)
def zbI(u:List Int)(n:Nd):List Int:=
 bif decide (1<opsN n) then bump (bump u (ndL n)) (ndR n) else bif decide (0<opsN n) then bump u (ndL n) else u
def zce(r:List Nd)(k:Nat):List Int:=(r.take k).foldl zbI (zr r.length 0)
def zc7(n:Nd)(i:Int):Bool:=zaW n&&zeX n i
def zdf(r:List Nd):Nat->Bool
 |0=>true
 |k+1=>zdf r k&&zc7 (r.getD k zNd) (k:Int)
def wfS(r:List Nd):Bool:=decide (1<=r.length)&&decide (r.length<=64)&&zdf r r.length&& !((zce r r.length).take (r.length-1)).any not1
def zcG(r:List Nd):Int:=if 64<r.length\/r.any bigN=true then 2 else if wfS r=true then 0 else 1
theorem zev{r:List Nd}:∀{k:Nat},zdf r k=true↔∀j,j<k->zc7 (r.getD j zNd) (j:Int)=true
 |0=>⟨λ_ j h=>by omega,λ_=>rfl⟩
 |k+1=>by
  unfold zdf;rw[zf,zev (k:=k)];constructor
  .rintro ⟨h1,h2⟩ j hj;by_cases e:j=k
   .rw[e];exact h2
   .exact h1 j o_
  .exact λh=>⟨λj hj=>h j o_,h k o_⟩
theorem zg3(r:List Nd)(j:Nat):zar r (j:Int)=r.getD j zNd:=rfl
theorem zop{n:Nd}(h:11<=ndK n/\ndK n<=16):opsN n=1:=by
 unfold opsN;rcases (show ndK n=11\/ndK n=12\/ndK n=13\/ndK n=14\/ndK n=15\/ndK n=16 by omega) with k|k|k|k|k|k<;>rw[k]<;>rfl
theorem zkG{n:Nd}(h:(8<=ndK n/\ndK n<=10)\/ndK n=17):opsN n=2:=by
 unfold opsN;rcases (show ndK n=8\/ndK n=9\/ndK n=10\/ndK n=17 by omega) with k|k|k|k<;>rw[k]<;>rfl
theorem zhV{n:Nd}(h1:1<=ndK n/\ndK n<=18)(h:¬(8<=ndK n/\ndK n<=17)):opsN n=0:=by
 unfold opsN;rcases (show ndK n=1\/ndK n=2\/ndK n=3\/ndK n=4\/ndK n=5\/ndK n=6\/ndK n=7\/ndK n=18 by omega) with k|k|k|k|k|k|k|k<;>rw[k]<;>rfl
theorem zrq{n:Nd}{i:Int}(h:11<=ndK n/\ndK n<=16):zeX n i=true↔(0<=ndL n/\ndL n<=i-1)/\ndR n=0:=by
 unfold zeX;rw[zop h,decide_eq_true d_,decide_eq_false d_,cond_true,cond_false,zf,zaF,beq_iff_eq]
theorem zkH{n:Nd}{i:Int}(h:(8<=ndK n/\ndK n<=10)\/ndK n=17):zeX n i=true↔(0<=ndL n/\ndL n<=i-1)/\(0<=ndR n/\ndR n<=i-1):=by
 unfold zeX;rw[zkG h,decide_eq_true d_,decide_eq_true d_,cond_true,cond_true,zf,zaF,zaF]
theorem zor{n:Nd}{i:Int}(h1:1<=ndK n/\ndK n<=18)(h:¬(8<=ndK n/\ndK n<=17)):zeX n i=true↔(ndL n=0\/ndK n=7)/\ndR n=0:=by
 unfold zeX;rw[zhV h1 h,decide_eq_false d_,decide_eq_false d_,cond_false,cond_false,zf,yW,beq_iff_eq,beq_iff_eq,beq_iff_eq]
theorem zvM(n:Nd):n=(ndK n,ndC n,ndL n,ndR n,ndN n,ndM n,ndI n,ndS n,()):=rfl
theorem zhZ{n:Nd}(h:8<=ndK n/\ndK n<=17)(l r:Int):zaW (zbZ n l r)=zaW n:=by
 have h7:zcw (zbZ n l r)=zcw n:=by
  unfold zcw;have hk:(zbZ n l r).1=n.1:=rfl;have h7:(n.1==7)=false:=beq_eq_false_iff_ne.2 λe=>by have:ndK n=7:=e;omega
  rw[hk,h7];rfl
 unfold zaW;rw[h7];rfl
def trF:Nat->List Nd->Int->Tr
 |0,r,i=>.leaf (zar r i)
 |k+1,r,i=>
  if 11<=ndK (zar r i)/\ndK (zar r i)<=16 then .un (zbZ (zar r i) 0 0) (trF k r (ndL (zar r i)))
  else if(8<=ndK (zar r i)/\ndK (zar r i)<=10)\/ndK (zar r i)=17 then .bin (zbZ (zar r i) 0 0) (trF k r (ndL (zar r i))) (trF k r (ndR (zar r i)))
  else .leaf (zar r i)
theorem zmW:∀(k:Nat)(r:List Nd)(i:Int),(trF k r i).lev=levS (ndK (zar r i))
 |0,_,_=>rfl
 |k+1,r,i=>by
  unfold trF;split
  .rfl
  .split<;>rfl
def Low(r:List Nd):Prop:=∀j:Nat,j<r.length->(8<=ndK (zar r j)->ndK (zar r j)<=17->0<=ndL (zar r j)/\ndL (zar r j)<j)/\(8<=ndK (zar r j)->ndK (zar r j)<=10\/ndK (zar r j)=17->0<=ndR (zar r j)/\ndR (zar r j)<j)
theorem ztE{n:Nd}(b:List UInt8)(h:11<=ndK n/\ndK n<=16):zb6 b n=zb6 [] (zbZ n 0 0):=by
 unfold zb6;have hk:ndK (zbZ n 0 0)=ndK n:=rfl;rw[hk];rcases (show ndK n=11\/ndK n=12\/ndK n=13\/ndK n=14\/ndK n=15\/ndK n=16 by omega) with k|k|k|k|k|k<;>rw[k]<;>rfl
theorem zkh(n:Nd)(a b:Tr):(Tr.bin n a b).text=if ndK n=17 then parS (decide (a.lev>=4)) a.text++zb6 (parS (decide (b.lev>=5)) b.text) n
 else parS (decide (a.lev>=levS (ndK n))) a.text++(putS ([32]++opWd (levS (ndK n))++[32]) []++parS (decide (b.lev>=levS (ndK n)+1)) b.text):=rfl
theorem zhW{r:List Nd}(hl:Low r):∀(k:Nat)(i:Nat),i<k->i<r.length->zdC k r i=(trF k r i).text
 |0,_,h,_=>by omega
 |k+1,i,hk,hr=>by
  obtain⟨hL,hR⟩:=hl i hr;unfold zdC trF;generalize hn:zar r (i:Int)=n at *;have key:∀j:Int,0<=j->j<(i:Int)->zdC k r j=(trF k r j).text:=λj h0 h1=>by
   obtain⟨m,rfl⟩:∃m:Nat,j=(m:Int):=⟨j.toNat,by omega⟩;exact zhW hl k m o_ o_
  by_cases x1:11<=ndK n/\ndK n<=16
  .rw[if_pos x1,zni o_,if_neg d_,if_pos rfl];obtain⟨a,b⟩:=hL o_ o_;show _=parS (decide ((trF k r (ndL n)).lev>=4)) (trF k r (ndL n)).text++zb6 [] (zbZ n 0 0);rw[zmW,key _ a b,ztE _ x1]
  .rw[if_neg x1];by_cases h8:(8<=ndK n/\ndK n<=10)\/ndK n=17
   .rw[if_pos h8];obtain⟨a,b⟩:=hL o_ o_;obtain⟨c,d⟩:=hR o_ o_;rw[key _ a b,key _ c d];have hk:ndK (zbZ n 0 0)=ndK n:=rfl;rw[zkh,hk,zmW,zmW];by_cases x0:ndK n=17
    .rw[if_pos x0,x0,if_neg d_,if_pos d_];have:∀b,zb6 b n=zb6 b (zbZ n 0 0):=λb=>by
      unfold zb6;rw[hk,x0];rfl
     rw[this]
    .have x2:levS (ndK n)<4:=by rcases (show ndK n=8\/ndK n=9\/ndK n=10 by omega) with k|k|k<;>rw[k]<;>decide
     rw[if_neg x0,if_pos x2]
   .rw[if_neg h8];rw[zoE o_,if_neg d_,if_neg d_];rfl
theorem zcc{r:List Nd}(h:zdf r r.length=true){j:Nat}(hj:j<r.length):zaW (zar r j)=true/\zeX (zar r j) (j:Int)=true:=by
 have:=zev.1 h j hj;unfold zc7 at this;rw[zf]at this;exact this
theorem zoz{r:List Nd}(h:zdf r r.length=true):Low r:=λj hj=>by
 obtain⟨_,h2⟩:=zcc h hj;constructor
 .intro a b;by_cases hu:11<=ndK (zar r j)/\ndK (zar r j)<=16
  .have:=((zrq hu).1 h2).1;omega
  .have:=((zkH o_).1 h2).1;omega
 .intro a b;have:=((zkH o_).1 h2).2;omega
theorem zqr{r:List Nd}(h:zdf r r.length=true):∀(k i:Nat),i<k->i<r.length->TrOk (trF k r i)
 |0,_,hk,_=>by omega
 |k+1,i,hk,hr=>by
  obtain⟨h1,h2⟩:=zcc h hr;obtain⟨⟨k1,k2⟩,_⟩:=zaC h1;have key:∀j:Int,0<=j->j<=(i:Int)-1->TrOk (trF k r j):=λj h0 h1=>by
   obtain⟨m,rfl⟩:∃m:Nat,j=(m:Int):=⟨j.toNat,by omega⟩;exact zqr h k m o_ o_
  unfold trF;generalize zar r (i:Int)=n at *;by_cases x0:11<=ndK n/\ndK n<=16
  .rw[if_pos x0];obtain⟨⟨a,b⟩,_⟩:=(zrq x0).1 h2;exact⟨by rw[zhZ o_];exact h1,x0,⟨rfl,rfl⟩,key _ a b⟩
  .rw[if_neg x0];by_cases h8:(8<=ndK n/\ndK n<=10)\/ndK n=17
   .rw[if_pos h8];obtain⟨⟨a,b⟩,⟨c,d⟩⟩:=(zkH h8).1 h2;exact⟨by rw[zhZ o_];exact h1,h8,⟨rfl,rfl⟩,key _ a b,key _ c d⟩
   .rw[if_neg h8];have x1:¬(8<=ndK n/\ndK n<=17):=o_;obtain⟨a,b⟩:=(zor ⟨k1,k2⟩ x1).1 h2;exact⟨h1,x1,b,λe=>a.resolve_right e⟩
theorem zeF(u:List Int)(j:Int):(bump u j).length=u.length:=List.length_set ..
theorem zpn(u:List Int)(n:Nd):(zbI u n).length=u.length:=by
 unfold zbI;cases decide (1<opsN n)<;>cases decide (0<opsN n)<;>simp[zeF]
theorem zc1{u:List Int}{j:Int}{k:Nat}(hj:j.toNat<u.length):(bump u j).getD k 0=if k=j.toNat then u.getD k 0+1 else u.getD k 0:=by
 unfold bump;rw[zu,pr];by_cases e:k=j.toNat
 .subst e;rw[if_pos rfl,if_pos rfl,if_pos hj];rfl
 .rw[if_neg λh=>e h.symm,if_neg e,zu]
theorem zc5(r:List Nd)(k:Nat):(zce r k).length=r.length:=by
 unfold zce;have:∀(l:List Nd)(u:List Int),(l.foldl zbI u).length=u.length:=by
  intro l
  induction l with
  |nil=>intro u;rfl
  |cons n l ih=>intro u;rw[List.foldl_cons,ih,zpn]
 rw[this,qv]
theorem zcV{r:List Nd}{k:Nat}(hk:k<r.length):zce r (k+1)=zbI (zce r k) (zar r k):=by
 unfold zce;rw[zS hk,vO];show zbI _ r[k]=zbI _ (r.getD k zNd);rw[zu,zI hk];rfl
theorem zmU(r:List Nd)(j:Nat):(zce r 0).getD j 0=0:=by
 unfold zce;rw[List.take_zero,List.foldl_nil,zu,List.getElem?_replicate];split<;>rfl
theorem zge{n:Nd}{u:List Int}(h:(8<=ndK n->ndK n<=17->0<=ndL n/\ndL n<u.length)/\(8<=ndK n->ndK n<=10\/ndK n=17->0<=ndR n/\ndR n<u.length))(hk:1<=ndK n/\ndK n<=18)(k:Nat):
  (zbI u n).getD k 0=u.getD k 0+(if 8<=ndK n/\ndK n<=17/\k=(ndL n).toNat then 1 else 0)+(if((8<=ndK n/\ndK n<=10)\/ndK n=17)/\k=(ndR n).toNat then 1 else 0):=by
 obtain⟨hL,hR⟩:=h;unfold zbI;by_cases x0:11<=ndK n/\ndK n<=16
 .obtain⟨a,b⟩:=hL o_ o_;rw[zop x0,decide_eq_false d_,decide_eq_true d_,cond_false,cond_true,zc1 o_];rw[if_neg (c:=((8<=ndK n/\ndK n<=10)\/ndK n=17)/\k=(ndR n).toNat) o_];by_cases e:k=(ndL n).toNat
  .rw[if_pos e,if_pos ⟨by omega,by omega,e⟩];omega
  .rw[if_neg e,if_neg λh=>e h.2.2];omega
 .by_cases h8:(8<=ndK n/\ndK n<=10)\/ndK n=17
  .obtain⟨a,b⟩:=hL o_ o_;obtain⟨c,d⟩:=hR o_ o_;rw[zkG h8,decide_eq_true d_,cond_true,zc1 (by rw[zeF];omega),zc1 o_];by_cases e:k=(ndL n).toNat
   .rw[if_pos e,if_pos (c:=8<=ndK n/\ndK n<=17/\k=(ndL n).toNat) ⟨by omega,by omega,e⟩];by_cases e2:k=(ndR n).toNat
    .rw[if_pos e2,if_pos ⟨h8,e2⟩]
    .rw[if_neg e2,if_neg λh=>e2 h.2];omega
   .rw[if_neg e,if_neg (c:=8<=ndK n/\ndK n<=17/\k=(ndL n).toNat) λh=>e h.2.2];by_cases e2:k=(ndR n).toNat
    .rw[if_pos e2,if_pos ⟨h8,e2⟩];omega
    .rw[if_neg e2,if_neg λh=>e2 h.2];omega
  .rw[zhV hk o_,decide_eq_false d_,decide_eq_false d_,cond_false,cond_false,if_neg o_,if_neg o_];omega
def pot(u:List Int)(f:Nat->Nat):Nat->Nat
 |0=>0
 |m+1=>pot u f m+(if u.getD m 0=0 then f m else 0)
theorem zhT{u:List Int}{f:Nat->Nat}{j:Int}(hj:j.toNat<u.length)(h0:u.getD j.toNat 0=0):∀{m:Nat},(j.toNat<m->pot (bump u j) f m+f j.toNat=pot u f m)/\(m<=j.toNat->pot (bump u j) f m=pot u f m)
 |0=>⟨λh=>by omega,λ_=>rfl⟩
 |m+1=>by
  obtain⟨i1,i2⟩:=zhT (f:=f) hj h0 (m:=m);constructor
  .intro h;unfold pot;rw[zc1 hj];by_cases e:m=j.toNat
   .rw[i2 o_,if_pos e,e,h0,if_neg d_,if_pos rfl];omega
   .rw[if_neg e, <-i1 o_];omega
  .intro h;unfold pot;rw[i2 o_,zc1 hj,if_neg (c:=m=j.toNat) o_]
theorem zfo{r:List Nd}(hl:Low r)(hk:∀j:Nat,j<r.length->1<=ndK (zar r j)/\ndK (zar r j)<=18):∀m,m<=r.length->∀j,m<=j->(zce r m).getD j 0=0
 |0,_,j,_=>zmU r j
 |m+1,hm,j,hj=>by
  obtain⟨a,b⟩:=hl m o_;rw[zcV o_,zge (by rw[zc5];exact⟨λx y=>by have:=a x y;omega,λx y=>by have:=b x y;omega⟩) (hk m o_),zfo hl hk m o_ j o_,if_neg,if_neg]
  .omega
  .rintro ⟨x,y⟩;have:=b o_ o_;omega
  .rintro ⟨x,y,z⟩;have:=a x y;omega
theorem zib{r:List Nd}(hl:Low r)(hk:∀j:Nat,j<r.length->1<=ndK (zar r j)/\ndK (zar r j)<=18)(j:Nat):∀d m,m+d<=r.length->(zce r m).getD j 0<=(zce r (m+d)).getD j 0
 |0,m,_=>yS _
 |d+1,m,h=>by
  have:=zib hl hk j d m o_;obtain⟨a,b⟩:=hl (m+d) o_;rw[<-Nat.add_assoc,zcV o_,zge (by rw[zc5];exact⟨λx y=>by have:=a x y;omega,λx y=>by have:=b x y;omega⟩) (hk (m+d) o_)];have p1:(0:Int)<=if 8<=ndK (zar r (m+d:Nat))/\ndK (zar r (m+d:Nat))<=17/\j=(ndL (zar r (m+d:Nat))).toNat then 1 else 0:=by split<;>decide
  have p2:(0:Int)<=if((8<=ndK (zar r (m+d:Nat))/\ndK (zar r (m+d:Nat))<=10)\/ndK (zar r (m+d:Nat))=17)/\j=(ndR (zar r (m+d:Nat))).toNat then 1 else 0:=by split<;>decide
  omega
theorem zkf{r:List Nd}(hl:Low r):∀(k k' i:Nat),i<k->i<k'->i<r.length->trF k r i=trF k' r i
 |0,_,_,h,_,_=>by omega
 |_+1,0,_,_,h,_=>by omega
 |k+1,k'+1,i,h,h',hr=>by
  obtain⟨hL,hR⟩:=hl i hr;have key:∀j:Int,0<=j->j<(i:Int)->trF k r j=trF k' r j:=λj h0 h1=>by
   obtain⟨m,rfl⟩:∃m:Nat,j=(m:Int):=⟨j.toNat,by omega⟩;exact zkf hl k k' m o_ o_ o_
  unfold trF;split
  .rename_i hu;obtain⟨a,b⟩:=hL o_ o_;rw[key _ a b]
  .split
   .rename_i hb;obtain⟨a,b⟩:=hL o_ o_;obtain⟨c,d⟩:=hR o_ o_;rw[key _ a b,key _ c d]
   .rfl
theorem zom{r:List Nd}(hl:Low r)(hk:∀j:Nat,j<r.length->1<=ndK (zar r j)/\ndK (zar r j)<=18)(h1:∀j,(zce r r.length).getD j 0<=1):∀m,m<=r.length->pot (zce r m) (λj=>(trF (r.length+1) r j).size) m=m
 |0,_=>rfl
 |m+1,hm=>by
  have ih:=zom hl hk h1 m o_;obtain⟨hL,hR⟩:=hl m o_;have x2:=hk m o_;have hb:∀j,(zce r (m+1)).getD j 0<=1:=λj=>by
   have:=zib hl hk j (r.length-(m+1)) (m+1) o_;rw[show m+1+(r.length-(m+1))=r.length by omega]at this;have:=h1 j;omega
  have x3:=zfo hl hk m o_;have hlen:=zc5 r m;have x0:∀j,0<=(zce r m).getD j 0:=λj=>by
   have:=zib hl hk j m 0 o_;rw[zmU,yL]at this;exact this
  have x5:(zce r (m+1)).getD m 0=0:=by
   have h:=x3 m (zj _);rw[zcV o_,zge (by rw[zc5];exact⟨λx y=>by have:=hL x y;omega,λx y=>by have:=hR x y;omega⟩) x2,h,if_neg,if_neg]
   .rfl
   .rintro ⟨x,y⟩;have:=hR o_ o_;omega
   .rintro ⟨x,y,z⟩;have:=hL x y;omega
  have key:∀j:Int,0<=j->j<(m:Int)->(trF r.length r j).size=(trF (r.length+1) r (j.toNat:Nat)).size:=λj h0 h1=>by
   obtain⟨q,rfl⟩:∃q:Nat,j=(q:Int):=⟨j.toNat,by omega⟩;rw[zH,zkf hl r.length (r.length+1) q o_ o_ o_]
  have hf:∀n,zar r (m:Int)=n->(trF (r.length+1) r (m:Int)).size=(if 8<=ndK n/\ndK n<=17 then(trF (r.length+1) r ((ndL n).toNat:Nat)).size else 0)+(if(8<=ndK n/\ndK n<=10)\/ndK n=17 then(trF (r.length+1) r ((ndR n).toNat:Nat)).size else 0)+1:=by
   rintro n rfl
   conv=>lhs;unfold trF
   split
   .rename_i hu;obtain⟨a,b⟩:=hL o_ o_;rw[if_pos o_,if_neg o_];show(trF r.length r _).size+1=_;rw[key _ a b]
   .split
    .rename_i hu;obtain⟨a,b⟩:=hL o_ o_;obtain⟨c,d⟩:=hR o_ o_;rw[if_pos o_];show(trF r.length r _).size+(trF r.length r _).size+1=_;rw[key _ a b,key _ c d]
    .rw[if_neg o_];rfl
  have hf:=hf _ rfl;unfold pot;rw[x5,if_pos rfl];have hu:=zcV (r:=r) (k:=m) o_;rw[hu]at hb ⊢;generalize hn:zar r (m:Int)=n at *;rw[hf];unfold zbI at hb ⊢;by_cases x4:11<=ndK n/\ndK n<=16
  .obtain⟨a,b⟩:=hL o_ o_;rw[zop x4,decide_eq_false d_,decide_eq_true d_,cond_false,cond_true]at hb ⊢;rw[if_pos o_,if_neg o_];have h0:=hb (ndL n).toNat;rw[zc1 o_,if_pos rfl]at h0;have:=x0 (ndL n).toNat;have:=(zhT (f:=λj=>(trF (r.length+1) r j).size) (u:=zce r m) (j:=ndL n) o_ o_ (m:=m)).1 o_;omega
  .by_cases h8:(8<=ndK n/\ndK n<=10)\/ndK n=17
   .obtain⟨a,b⟩:=hL o_ o_;obtain⟨c,d⟩:=hR o_ o_;rw[zkG h8,decide_eq_true d_,cond_true]at hb ⊢;rw[if_pos o_,if_pos h8];have x1:(ndL n).toNat≠(ndR n).toNat:=λe=>by
     have h0:=hb (ndR n).toNat;rw[zc1 (by rw[zeF];omega),if_pos rfl,zc1 o_,if_pos e.symm]at h0;have:=x0 (ndR n).toNat;omega
    have h0:=hb (ndL n).toNat;rw[zc1 (by rw[zeF];omega),if_neg x1,zc1 o_,if_pos rfl]at h0;have h2:=hb (ndR n).toNat;rw[zc1 (by rw[zeF];omega),if_pos rfl,zc1 o_,if_neg (λe=>x1 e.symm)]at h2;have p1:=x0 (ndL n).toNat;have p2:=x0 (ndR n).toNat;have e1:=(zhT (f:=λj=>(trF (r.length+1) r j).size) (u:=zce r m) (j:=ndL n) o_ o_ (m:=m)).1 o_;have e2:=(zhT (f:=λj=>(trF (r.length+1) r j).size) (u:=bump (zce r m) (ndL n)) (j:=ndR n) (by rw[zeF];omega) (by rw[zc1 o_,if_neg (λe=>x1 e.symm)];omega) (m:=m)).1 o_;omega
   .rw[zhV x2 o_,decide_eq_false d_,decide_eq_false d_,cond_false,cond_false,if_neg o_,if_neg o_,ih]
theorem zdq{r:List Nd}(h:wfS r=true):(1<=r.length/\r.length<=64)/\zdf r r.length=true/\∀j,j<r.length-1->(zce r r.length).getD j 0=1:=by
 unfold wfS at h;simp only[zf,decide_eq_true_iff,zL,pu]at h;obtain⟨⟨h1,h2⟩,h3⟩:=h;refine⟨h1,h2,λj hj=>?_⟩;have hl:=zc5 r r.length;have x0:j<(zce r r.length).length:=o_;have:=h3 ((zce r r.length)[j]) (List.mem_take_iff_getElem.2 ⟨j,by omega,rfl⟩);rw[zu,zI x0];unfold not1 at this
 simpa using this
def zdj(r:List Nd):Tr:=trF (r.length+1) r ((r.length:Int)-1)
theorem zqu{r:List Nd}(h:wfS r=true):(zdj r).size=r.length:=by
 obtain⟨⟨h1,h2⟩,h3,h4⟩:=zdq h;have hl:=zoz h3;have hk:∀j:Nat,j<r.length->1<=ndK (zar r j)/\ndK (zar r j)<=18:=λj hj=>(zaC (zcc h3 hj).1).1;have hlast:(zce r r.length).getD (r.length-1) 0=0:=by
  obtain⟨m,hm⟩:∃m,r.length=m+1:=⟨r.length-1,by omega⟩;obtain⟨a,b⟩:=hl m o_;rw[hm,kW,zcV o_,zge (by rw[zc5];exact⟨λx y=>by have:=a x y;omega,λx y=>by have:=b x y;omega⟩) (hk m o_),zfo hl hk m o_ m (zj _),if_neg,if_neg]
  .rfl
  .rintro ⟨x,y⟩;have:=b o_ o_;omega
  .rintro ⟨x,y,z⟩;have:=a x y;omega
 have hle:∀j,(zce r r.length).getD j 0<=1:=λj=>by
  by_cases e:j<r.length-1
  .rw[h4 j e];exact yS _
  .by_cases e2:j=r.length-1
   .rw[e2,hlast];decide
   .rw[zfo hl hk r.length (zj _) j o_];decide
 have:=zom hl hk hle r.length (zj _);obtain⟨m,hm⟩:∃m,r.length=m+1:=⟨r.length-1,by omega⟩;have hp:∀q,q<=m->pot (zce r r.length) (λj=>(trF (r.length+1) r j).size) q=0:=by
  intro q
  induction q with
  |zero=>intro _;rfl
  |succ q ih=>intro hq;unfold pot;rw[ih o_,h4 q o_,if_neg d_]
 rw[hm]at this hlast;unfold pot at this;rw[<-hm]at this hlast;rw[hp m (zj _)]at this;have hm2:r.length-1=m:=o_;rw[hm2]at hlast;rw[hlast,if_pos rfl]at this;unfold zdj;rw[show((r.length:Int)-1)=((m:Nat):Int) by omega];omega
theorem zwA{r:List Nd}(h:wfS r=true):TrOk (zdj r):=by
 obtain⟨⟨h1,h2⟩,h3,h4⟩:=zdq h;unfold zdj;rw[show((r.length:Int)-1)=((r.length-1:Nat):Int) by omega];exact zqr h3 _ _ o_ o_
theorem zqt{r:List Nd}(h:wfS r=true):zdC (r.length+1) r ((r.length:Int)-1)=(zdj r).text:=by
 obtain⟨⟨h1,h2⟩,h3,h4⟩:=zdq h;unfold zdj;rw[show((r.length:Int)-1)=((r.length-1:Nat):Int) by omega];exact zhW (zoz h3) _ _ o_ o_
def fmtS(r:List Nd):List UInt8×Int:=if zcG r=0 then(if 4000<(zdj r).text.length then([],2) else((zdj r).text,0)) else([],zcG r)
theorem zdy{α:Type}{l m:List α}{z:α}{j:Nat}(h:j<l.length):(l++m).getD j z=l.getD j z:=by
 rw[zu,zu,List.getElem?_append_left h]
theorem zcg{α:Type}{l m:List α}{z:α}{j:Nat}:(l++m).getD (l.length+j) z=m.getD j z:=by
 rw[zu,zu,qD (Nat.le_add_right ..),Nat.add_sub_cancel_left]
theorem zwO{n:Nd}(h:ndL n=0/\ndR n=0)(x:Int):zbZ (setL n x) 0 0=n:=by
 show(ndK n,ndC n,(0:Int),(0:Int),ndN n,ndM n,ndI n,ndS n,())=n
 conv=>rhs;rw[zvM n,h.1,h.2]
theorem ztJ{n:Nd}(h:ndL n=0/\ndR n=0)(x y:Int):zbZ (zbZ n x y) 0 0=n:=by
 show(ndK n,ndC n,(0:Int),(0:Int),ndN n,ndM n,ndI n,ndS n,())=n
 conv=>rhs;rw[zvM n,h.1,h.2]
theorem zhP:∀(t:Tr)(b:Nat)(r:List Nd)(k:Nat),TrOk t->(∀j,j<t.size->r.getD (b+j) zNd=(t.flat b).getD j zNd)->b+t.size<=k->trF k r ((b+t.size:Nat)-1:Int)=t
 |.leaf n,b,r,k,h,hr,hk=>by
  obtain⟨h1,h2,hR,hL⟩:=h;have hn:zar r ((b+1:Nat)-1:Int)=n:=by
   rw[show(((b+1:Nat):Int)-1)=((b+0:Nat):Int) by omega];exact hr 0 (Nat.zero_lt_one)
  show trF k r ((b+1:Nat)-1:Int)=_;cases k with
  |zero=>
   have hk:b+1<=0:=hk;omega
  |succ k=>
   unfold trF;rw[hn,if_neg o_,if_neg o_]
 |.un n a,b,r,k,h,hr,hk=>by
  obtain⟨h1,h2,x1,ha⟩:=h;have hp:=a.size_pos;have x0:=qg a b;have hk:b+(a.size+1)<=k:=hk;have hr:∀j,j<a.size+1->r.getD (b+j) zNd=(a.flat b++[setL n ((b+a.size:Nat)-1)]).getD j zNd:=hr;have hn:zar r ((b+(a.size+1):Nat)-1:Int)=setL n ((b+a.size:Nat)-1):=by
   rw[show(((b+(a.size+1):Nat):Int)-1)=((b+a.size:Nat):Int) by omega];have e:=hr a.size o_;rw[show a.size=(a.flat b).length+0 by omega,zcg]at e;rw[x0]at e;exact e
  show trF k r ((b+(a.size+1):Nat)-1:Int)=_;cases k with
  |zero=>omega
  |succ k=>
   unfold trF;rw[hn];have hK:ndK (setL n ((b+a.size:Nat)-1))=ndK n:=rfl;have hL:ndL (setL n ((b+a.size:Nat)-1))=((b+a.size:Nat):Int)-1:=rfl;rw[hK,hL,if_pos h2,zwO x1,zhP a b r k ha (λj hj=>by rw[hr j o_,zdy o_]) o_]
 |.bin n a c,b,r,k,h,hr,hk=>by
  obtain⟨h1,h2,x1,ha,hc⟩:=h;have hp:=a.size_pos;have x3:=c.size_pos;have x0:=qg a b;have x2:=qg c (b+a.size);have hk:b+(a.size+c.size+1)<=k:=hk;have hr:∀j,j<a.size+c.size+1->r.getD (b+j) zNd=(a.flat b++c.flat (b+a.size)++[zbZ n ((b+a.size:Nat)-1) ((b+a.size+c.size:Nat)-1)]).getD j zNd:=hr;have hn:zar r ((b+(a.size+c.size+1):Nat)-1:Int)=zbZ n ((b+a.size:Nat)-1) ((b+a.size+c.size:Nat)-1):=by
   rw[show(((b+(a.size+c.size+1):Nat):Int)-1)=((b+(a.size+c.size):Nat):Int) by omega];have e:=hr (a.size+c.size) o_;rw[show a.size+c.size=(a.flat b++c.flat (b+a.size)).length+0 by rw[zg];omega,zcg]at e;rw[zg,x0,x2]at e;exact e
  show trF k r ((b+(a.size+c.size+1):Nat)-1:Int)=_;cases k with
  |zero=>omega
  |succ k=>
   unfold trF;rw[hn];have hK:ndK (zbZ n ((b+a.size:Nat)-1) ((b+a.size+c.size:Nat)-1))=ndK n:=rfl;have hL:ndL (zbZ n ((b+a.size:Nat)-1) ((b+a.size+c.size:Nat)-1))=((b+a.size:Nat):Int)-1:=rfl;have hR:ndR (zbZ n ((b+a.size:Nat)-1) ((b+a.size+c.size:Nat)-1))=((b+a.size+c.size:Nat):Int)-1:=rfl;rw[hK,hL,hR,if_neg o_,if_pos h2,ztJ x1,zhP a b r k ha (λj hj=>by rw[hr j o_,zz,zdy o_]) o_,
    zhP c (b+a.size) r k hc (λj hj=>by rw[Nat.add_assoc,hr (a.size+j) o_,zz, <-x0,zcg,x0,zdy o_]) o_]
theorem zu9(x y:List Int):bump (x++(0::y)) ((x.length:Nat):Int)=x++(1::y):=by
 unfold bump;rw[zH];have:(x++(0::y)).getD x.length 0=0:=by
  have:=zcg (l:=x) (m:=0::y) (z:=(0:Int)) (j:=0);rw[Nat.add_zero]at this;rw[this];rfl
 rw[this,kj _ _ (zj _),Nat.sub_self];rfl
theorem zi5{x y z w:List Int}{i:Int}(hz:z=x++(0::y))(hi:i=((x.length:Nat):Int))(hw:w=x++(1::y)):bump z i=w:=by rw[hz,hi,hw,zu9]
theorem zky(n:Nat)(x:Int)(q:List Int):zr n x++(x::q)=zr (n+1) x++q:=by
 rw[List.replicate_succ',zz];rfl
theorem zkz{n:Nat}(h:1<=n)(q:List Int):zr (n-1) (1:Int)++(1::q)=zr n 1++q:=by
 rw[zky,show n-1+1=n by omega]
theorem zgd:∀(t:Tr)(b:Nat)(p q:List Int),TrOk t->p.length=b->(t.flat b).foldl zbI (p++(zr t.size 0++q))=p++(zr (t.size-1) 1++(0::q))
 |.leaf n,b,p,q,h,hp=>by
  obtain⟨h1,h2,hR,hL⟩:=h;obtain⟨hk,_⟩:=zaC h1;show zbI _ n=_;unfold zbI;rw[zhV hk h2];rfl
 |.un n a,b,p,q,h,hp=>by
  obtain⟨h1,h2,x1,ha⟩:=h;have hs:=a.size_pos;show(a.flat b++[_]).foldl zbI (p++(zr (a.size+1) 0++q))=p++(zr (a.size+1-1) 1++(0::q));rw[vO, <-zky,zgd a b p (0::q) ha hp];show zbI _ (setL n ((b+a.size:Nat)-1))=_;unfold zbI;have ho:opsN (setL n ((b+a.size:Nat)-1))=1:=zop (n:=setL n ((b+a.size:Nat)-1)) h2;rw[ho,decide_eq_false d_,decide_eq_true d_,cond_false,cond_true];refine zi5 (x:=p++zr (a.size-1) 1) (y:=0::q) (by rw[zz]) ?_ ?_
  .rw[zg,qv,hp];show((b+a.size:Nat):Int)-1=_;omega
  .rw[zz,zkz hs,kW]
 |.bin n a c,b,p,q,h,hp=>by
  obtain⟨h1,h2,x1,ha,hc⟩:=h;have hs:=a.size_pos;have x0:=c.size_pos;show(a.flat b++c.flat (b+a.size)++[_]).foldl zbI (p++(zr (a.size+c.size+1) 0++q))=p++(zr (a.size+c.size+1-1) 1++(0::q));have e1:p++(zr (a.size+c.size+1) (0:Int)++q)=p++(zr a.size 0++(zr c.size 0++(0::q))):=by
   rw[<-zky, <-vT,zz]
  rw[vO,vO,e1,zgd a b p _ ha hp];have e2:p++(zr (a.size-1) (1:Int)++(0::(zr c.size 0++(0::q))))=(p++(zr (a.size-1) 1++[0]))++(zr c.size 0++(0::q)):=by simp
  rw[e2,zgd c (b+a.size) _ _ hc (by rw[zg,zg,qv,hp,xI];omega)];show zbI _ (zbZ n ((b+a.size:Nat)-1) ((b+a.size+c.size:Nat)-1))=_;unfold zbI;have ho:opsN (zbZ n ((b+a.size:Nat)-1) ((b+a.size+c.size:Nat)-1))=2:=zkG (n:=zbZ n ((b+a.size:Nat)-1) ((b+a.size+c.size:Nat)-1)) h2;rw[ho,decide_eq_true d_,cond_true];have eL:bump ((p++(zr (a.size-1) 1++[0]))++(zr (c.size-1) 1++(0::(0::q)))) (ndL (zbZ n ((b+a.size:Nat)-1) ((b+a.size+c.size:Nat)-1)))=p++zr (a.size-1) 1++(1::(zr (c.size-1) 1++(0::0::q))):=by
   refine zi5 (x:=p++zr (a.size-1) 1) (y:=zr (c.size-1) 1++(0::0::q)) (by simp) ?_ rfl;rw[zg,qv,hp];show((b+a.size:Nat):Int)-1=_;omega
  rw[eL];refine zi5 (x:=p++zr (a.size-1) 1++(1::zr (c.size-1) 1)) (y:=0::q) (by simp) ?_ ?_
  .rw[zg,zg,zv,qv,qv,hp];show((b+a.size+c.size:Nat):Int)-1=_;omega
  .rw[kW,zz,zz,ja,zkz hs,zkz x0, <-zz (zr a.size 1),vT]
theorem zft:∀(t:Tr)(b:Nat),TrOk t->∀j,j<t.size->zc7 ((t.flat b).getD j zNd) ((b+j:Nat):Int)=true
 |.leaf n,b,h,j,hj=>by
  obtain⟨h1,h2,hR,hL⟩:=h;have hj:j<1:=hj;obtain rfl:j=0:=o_;obtain⟨hk,_⟩:=zaC h1;show zc7 n _=true;unfold zc7;rw[h1,(zor hk h2).2 ⟨by by_cases e:ndK n=7;exact .inr e;exact .inl (hL e),hR⟩];rfl
 |.un n a,b,h,j,hj=>by
  obtain⟨h1,h2,x0,ha⟩:=h;have hs:=a.size_pos;have x1:=qg a b;have hj:j<a.size+1:=hj;show zc7 ((a.flat b++[setL n ((b+a.size:Nat)-1)]).getD j zNd) _=true;by_cases e:j<a.size
  .rw[zdy o_];exact zft a b ha j e
  .obtain rfl:j=(a.flat b).length+0:=o_;rw[zcg];show zc7 (setL n ((b+a.size:Nat)-1)) _=true;have e1:zaW (setL n ((b+a.size:Nat)-1))=true:=by
    have:=zhZ (n:=n) o_ ((b+a.size:Nat)-1) (ndR n);rw[h1]at this;exact this
   unfold zc7;rw[e1,(zrq (n:=setL n ((b+a.size:Nat)-1)) h2).2 ⟨⟨by show(0:Int)<=((b+a.size:Nat):Int)-1;omega,by show((b+a.size:Nat):Int)-1<=_;omega⟩,x0.2⟩];rfl
 |.bin n a c,b,h,j,hj=>by
  obtain⟨h1,h2,x0,ha,hc⟩:=h;have hs:=a.size_pos;have x2:=c.size_pos;have x1:=qg a b;have x3:=qg c (b+a.size);have hj:j<a.size+c.size+1:=hj;show zc7 ((a.flat b++c.flat (b+a.size)++[zbZ n ((b+a.size:Nat)-1) ((b+a.size+c.size:Nat)-1)]).getD j zNd) _=true;by_cases e:j<a.size
  .rw[zz,zdy o_];exact zft a b ha j e
  .by_cases e2:j<a.size+c.size
   .obtain⟨i,rfl⟩:∃i,j=(a.flat b).length+i:=⟨j-a.size,by omega⟩;rw[zz,zcg,zdy o_];have:=zft c (b+a.size) hc i o_;rwa[show b+((a.flat b).length+i)=b+a.size+i by omega]
   .obtain rfl:j=(a.flat b++c.flat (b+a.size)).length+0:=by rw[zg];omega
    rw[zcg];show zc7 (zbZ n ((b+a.size:Nat)-1) ((b+a.size+c.size:Nat)-1)) _=true;have e1:=zhZ (n:=n) o_ ((b+a.size:Nat)-1) ((b+a.size+c.size:Nat)-1);rw[h1]at e1;unfold zc7;rw[e1,(zkH (n:=zbZ n ((b+a.size:Nat)-1) ((b+a.size+c.size:Nat)-1)) h2).2 ⟨⟨by show(0:Int)<=((b+a.size:Nat):Int)-1;omega,by show((b+a.size:Nat):Int)-1<=_;omega⟩,⟨by show(0:Int)<=((b+a.size+c.size:Nat):Int)-1;omega,by show((b+a.size+c.size:Nat):Int)-1<=_;omega⟩⟩];rfl
theorem zoV{n:Nd}(h:zaW n=true):(ndS n).length<=32:=by
 obtain⟨_,_,_,h,_⟩:=zaC h;unfold zjs at h;cases hk:(ndK n==18) with
 |true=>
  rw[hk]at h;have h:zfI (ndS n)=true:=h;unfold zfI at h;simp only[zf,decide_eq_true_iff]at h;exact h.1.2
 |false=>
  rw[hk]at h;have h:=of_decide_eq_true h;rw[h];decide
theorem zia{r:List Nd}(h:wfS r=true):zcG r=0:=by
 obtain⟨⟨h1,h2⟩,h3,_⟩:=zdq h;unfold zcG;rw[if_neg,if_pos h];rintro (h4|h4)
 .omega
 .obtain⟨x,hx,hb⟩:=kE.1 h4;obtain⟨j,hj,rfl⟩:=vV hx;have hf:=(zcc h3 hj).1;rw[zg3,zu,zI hj]at hf;have hf:zaW r[j]=true:=hf;have h5:=(zaC hf).2.1;have h6:=zoV hf;unfold bigN at hb;rw[yW,decide_eq_true_iff,decide_eq_true_iff]at hb;unfold ndI at h5;unfold ndS at h6;omega
theorem zmT{r:List Nd}(h:zcG r=0):wfS r=true:=by
 unfold zcG at h;split at h
 .cases h
 .split at h
  .assumption
  .cases h
theorem zh9{t:Tr}(h:TrOk t)(hs:t.size<=64):wfS (t.flat 0)=true:=by
 have hl:=qg t 0;have hp:=t.size_pos;unfold wfS;have hu:zce (t.flat 0) (t.flat 0).length=zr (t.size-1) 1++[0]:=by
  unfold zce;rw[xR,hl];have:=zgd t 0 [] [] h rfl;rw[xH,xH,zW]at this;exact this
 rw[hu,hl,decide_eq_true hp,decide_eq_true hs,zev.2 (λj hj=>by have:=zft t 0 h j hj;rwa[yL]at this)];have:(zr (t.size-1) (1:Int)++[0]).take (t.size-1)=zr (t.size-1) 1:=by
  have:=ju (l₁:=zr (t.size-1) (1:Int)) (l₂:=[0]);rwa[qv]at this
 rw[this];have:(zr (t.size-1) (1:Int)).any not1=false:=by
  rw[pu];intro x hx;rw[List.eq_of_mem_replicate hx];decide
 rw[this];rfl
theorem zqv{t:Tr}(h:TrOk t):zdj (t.flat 0)=t:=by
 unfold zdj;have hl:=qg t 0;have:=zhP t 0 (t.flat 0) ((t.flat 0).length+1) h (λj _=>by rw[yL]) o_;rw[yL]at this;rw[hl]at this ⊢;exact this
theorem zuK{t:Tr}(h:TrOk t)(hs:t.size<=64):fmtS (t.flat 0)=if 4000<t.text.length then([],2) else(t.text,0):=by
 unfold fmtS;rw[if_pos (zia (zh9 h hs)),zqv h]
def cMod:Ctr:={ args:=[i64,i64],pre:=λx=>[0<x.2.1,x.2.1<=1000000000],res:=i64,own:=none,out:=λx=>x.1%x.2.1 }
theorem zrA:yT zb gmG 9 cMod:=by
 refine ctr2 zaA Tryz.func9 Tryz.call9 ?_;rintro w0 X hX ⟨(a:Int),(b:Int),_⟩ hp;obtain⟨h0,h1⟩:0<b/\b<=1000000000:=by
  simp only[cMod,allP]at hp
  simpa using hp
 change AWP _ _ _ _ _ ⟨[(0,⟨i64,a⟩),(1,⟨i64,b⟩)],[],0⟩ _;have hn:b≠0:=o_
 iterate 3 (refine za (za (zaa zaA ?_)))
 have x2:=wz a h0;have x3: -b<a.tmod b:=by
  have h2:=Int.natAbs_tmod a b;have h3:a.natAbs%b.natAbs<b.natAbs:=fF _ o_;omega
 have x0:a%b=if a.tmod b<0 then a.tmod b+b else a.tmod b:=by
  have e1:=qq a hn;have e2:=xS a h0;have e3:a=b*a.tdiv b+a.tmod b:=(gL a b).symm;split
  .rename_i x1;have:a=(a.tmod b+b)+b*(a.tdiv b-1):=by rw[Int.mul_sub];omega
   conv=>lhs;rw[this]
   rw[vq];exact jt o_ o_
  .conv=>lhs;rw[e3]
   rw[Int.add_comm,vq];exact jt o_ o_
 refine zaU rfl (λhb=>?_) (λhb=>?_)
 .have hb:a.tmod b<0:=hb;have q0:inR .i64 (a.tmod b+b):=zad o_ o_;refine za (za (zaa zaA ?_));(repeat refine za (za (zaa zaA ?_)));refine za ?_;refine zp ⟨.inr rfl,D1 ?_⟩;show a.tmod b+b=a%b;rw[x0,if_pos hb]
 .
  apply zah;(repeat refine za (za (zaa zaA ?_)));refine za ?_;refine zp ⟨.inr rfl,D1 ?_⟩;show a.tmod b=a%b;rw[x0,if_neg hb]
def cTwo:Ctr:={ args:=[i64],pre:=λ_=>[],res:=.bool,own:=none,out:=λx=>two x.1 }
theorem zvy:yT zb gmG 50 cTwo:=by
 refine ctr2 zaA Tryz.func50 Tryz.call50 ?_;rintro w0 X hX ⟨k,_⟩ hp
 iterate 2 (refine za (za (zaa zaA ?_)))
 refine zp ⟨.inr rfl,D1 ?_⟩;rw[b_or,b_or,b_or];rfl
theorem zo2{n:Nat}(h:10<=n):xK n=xK (n/10)++[yR (48+n%10)]:=by
 conv=>lhs;rw[xK]
 rw[dif_neg o_]
theorem zo3{n:Nat}(h:n<10):xK n=[yR (48+n)]:=by rw[xK,dif_pos h]
theorem zv3(n:Nat):yR ((48+((n:Int)).tmod 10)%256).toNat=yR (48+n%10):=by
 have:((n:Int)).tmod 10=((n%10:Nat):Int):=rfl;rw[this]
 congr 1
 omega
theorem vS{x y:List UInt8}(h:x=y):(⟨.str,x⟩:V)=⟨.str,y⟩:=by rw[h]
def zyi:Ctr:={ args:=[i64],pre:=λx=>[0<=x.1,x.1<100000000000000000],res:=.str,own:=none,out:=λx=>deI x.1 }
theorem znF:yT zb gmG 80 zyi:=by
 refine ctr2 zaA Tryz.func80 Tryz.call80 ?_;rintro w0 X hX ⟨(n:Int),_⟩ hp;obtain⟨h0,h1⟩:0<=n/\n<100000000000000000:=by
  simp only[zyi,allP]at hp
  simpa using hp
 change AWP _ _ _ _ _ ⟨[(0,⟨i64,n⟩)],[],0⟩ _
 iterate 2 (refine za (za (zaa zaA ?_)))
 refine zaf rfl (λhb=>?_) (λ_=>?_)
 .have hb:decide (n<0)=true:=hb;have:=of_decide_eq_true hb;omega
 apply zah;have tm:∀x:Int,0<=x->0<=x.tmod 10/\x.tmod 10<10:=λx hx=>⟨Int.tmod_nonneg _ hx,wz _ d_⟩;have hm:=tm n h0;have i1:inR .i64 (48+n.tmod 10):=zad o_ o_;refine za (za (zaa zaA ?_));have td:∀x:Nat,((x:Int)).tdiv 10=((x/10:Nat):Int):=λx=>(g9 ..);obtain⟨N,rfl⟩:∃N:Nat,n=(N:Int):=⟨n.toNat,by omega⟩;have hlen:=zfh o_ h1;have x2:deI (N:Int)=xK N:=by
  unfold deI uo;rw[if_neg o_,zH]
 have i2:inR .i64 (((N:Int)).tdiv 10):=by rw[td];exact zad o_ o_
 refine za (za (zaa zaA ?_));refine za (za ?_);refine xP (ι:=Nat×List UInt8) (λp=>⟨[(0,⟨i64,(p.1:Int)⟩),(3,⟨.str,p.2⟩)],[],1⟩) (λp=>p.1<=N/10/\deI (N:Int)=if p.1=0 then p.2 else xK p.1++p.2) (λp=>p.1) (N/10,[yR (48+N%10)]) ⟨zj _,?_⟩ ⟨⟨vI64 (td N),vS ?_,t_⟩,t_,rfl,rfl⟩ ?_
 .rw[x2];by_cases x0:N<10
  .rw[if_pos o_,zo3 x0,jb x0]
  .rw[if_neg o_,zo2 o_]
 .show [yR ((48+((N:Int)).tmod 10)%256).toNat]=_;rw[zv3]
 rintro ⟨m,s⟩ ⟨x1,hd⟩;have hd:deI (N:Int)=if m=0 then s else xK m++s:=hd
 refine za (za (zaa zaA ?_));refine zaU rfl (λhb=>?_) (λhb=>?_)
 .have hb:(m:Int)>0:=hb;rw[if_neg o_]at hd;have x4:s.length<=18:=by rw[hd,zg]at hlen;omega
  have x3:=tm (m:Int) o_;have j1:inR .i64 (48+((m:Int)).tmod 10):=zad o_ o_;have j2:1+s.length<=maxLen:=by unfold maxLen;omega
  have j3:inR .i64 (((m:Int)).tdiv 10):=by rw[td];exact zad o_ o_
  iterate 2 (refine za (za (zaa zaA ?_)))
  refine⟨(m/10,[yR (48+m%10)]++s),⟨by show m/10<=N/10;omega,?_⟩,by show m/10<m;omega,⟨vI64 (td m),vS ?_,t_⟩,t_,rfl,rfl⟩
  .rw[hd];by_cases x0:m<10
   .rw[if_pos o_,zo3 x0,jb x0]
   .rw[if_neg o_,zo2 o_,zz]
  .show [yR ((48+((m:Int)).tmod 10)%256).toNat]++s=_;rw[zv3]
 .
  rw[if_pos o_]at hd;(repeat refine za (za (zaa zaA ?_)));refine za ?_;refine zp ⟨.inr rfl,D1 ?_⟩;exact hd.symm
def cDec:Ctr:={ args:=[i64],pre:=λx=>[zb7 x.1],res:=.str,own:=none,out:=λx=>deI x.1 }
def kDec:Kn:={ gmK with C:=[(80,zyi)] }
theorem znu:KnOk zb gmG kDec:=zaA.with (.cons znF .nil)
theorem zzN:yT zb gmG 80 cDec:=by
 refine⟨znF.1,λw O xs vs hO hr hp hG=>?_⟩;obtain⟨(n:Int),_⟩:=xs;obtain⟨h0,h1⟩: -100000000000000000<n/\n<100000000000000000:=hp;by_cases hn:0<=n
 .exact znF.2 w O _ vs hO hr ⟨hn,h1⟩ hG
 .have key:yT zb gmG 80 { cDec with pre:=λx=>[-100000000000000000<x.1,x.1<0] }:=by
   refine ctr2 znu Tryz.func80 Tryz.call80 ?_;rintro w0 X hX ⟨(n:Int),_⟩ hp;obtain⟨h0,h1⟩: -100000000000000000<n/\n<0:=hp;change AWP _ _ _ _ _ ⟨[(0,⟨i64,n⟩)],[],0⟩ _
   iterate 2 (refine za (za (zaa znu ?_)))
   refine zaf rfl (λ_=>?_) (λhb=>?_)
   .have i1:inR .i64 (-n):=zad o_ o_;have i2:0<= -n:=o_;have i3: -n<100000000000000000:=o_;have hl:(deI (-n)).length<=18:=zfh o_ o_;have i4:1+(deI (-n)).length<=maxLen:=by unfold maxLen;omega
    refine za (za (zaa znu ?_));refine zp ⟨.inr rfl,D1 ?_⟩;show [45]++deI (-n)=deI n;unfold deI uo;rw[if_neg o_,if_pos o_,show n.natAbs=(-n).toNat by omega];rfl
   .have hb:decide (n<0)=false:=hb;have:=of_decide_eq_false hb;omega
  have x0:n<0:=o_;exact key.2 w O _ vs hO hr ⟨h0,x0⟩ hG
theorem bufN{te:zo}{x y:List Nd}(h:x=y):some (OObj.buf te nd x)=some (OObj.buf te nd y):=by rw[h]
def zzU:Ctr:={ args:=[.slice nd,nd],pre:=λx=>[zi x.1<=1000000],res:=.slice nd,own:=none,out:=λx=>zt9 x.1 x.2.1 }
theorem zwZ:yT zb gmG 53 zzU:=by
 refine ctr2 zaA Tryz.func53 Tryz.call53 ?_;rintro w0 X hX ⟨(r:List Nd),(n:Nd),_⟩ hp;have hl:r.length<=1000000:=hp;change AWP _ _ _ _ _ ⟨[(0,⟨.slice nd,r⟩),(1,⟨nd,n⟩)],[],0⟩ _;have i1:inR .i64 (((r.length:Nat):Int)-1):=zad o_ o_;have i2:0+r.length<=1000000000:=o_;have i3:zi ([]++r)+1<=1000000000:=by rw[xH];omega
 iterate 4 (refine za (za (zaa zaA ?_)))
 refine vM hX 4 ?_;refine zp ⟨.inr rfl,D1 ?_⟩;rfl
def zwc:Ctr:={ args:=[.slice nd,i64],pre:=λx=>[zi x.1<=1000000,0<=x.2.1,x.2.1<=1000000,∀n∈(x.1:List Nd),(-1000000<=ndL n/\ndL n<=1000000)/\(-1000000<=ndR n/\ndR n<=1000000)],res:=.slice nd,own:=none,out:=λx=>ze1 x.1 x.2.1 }
def kMvd:Kn:={ gmK with C:=[(50,cTwo)] }
theorem zd9:KnOk zb gmG kMvd:=zaA.with (.cons zvy .nil)
theorem zui:yT zb gmG 81 zwc:=by
 refine ctr2 zd9 Tryz.func81 Tryz.call81 ?_;rintro w0 X hX ⟨(r:List Nd),(b:Int),_⟩ hp;obtain⟨hl,b0,b1,hn⟩:r.length<=1000000/\0<=b/\b<=1000000/\∀n∈r,(-1000000<=ndL n/\ndL n<=1000000)/\(-1000000<=ndR n/\ndR n<=1000000):=hp;change AWP _ _ _ _ _ ⟨[(0,⟨.slice nd,r⟩),(1,⟨i64,b⟩)],[],0⟩ _;have i2:0+r.length<=1000000000:=o_
 iterate 3 (refine za (za (zaa zd9 ?_)))
 refine za (za ?_);refine xP (ι:=Nat) (λi=>⟨[(1,⟨i64,b⟩),(5,⟨.obuf nd,(0:Nat)⟩),(6,⟨i64,(i:Int)⟩)],[(0,some (.buf 46 nd ((r.take i).map (zcL b)++r.drop i)))],1⟩) (λi=>i<=r.length) (λi=>r.length-i) 0 (zk _) ⟨⟨rfl,rfl,rfl,t_⟩,⟨bufN ?_,t_⟩,rfl,rfl⟩ ?_
 .rfl
 intro i hi;have hlen:((r.take i).map (zcL b)++r.drop i).length=r.length:=by rw[zg,jy,yU,List.length_drop];omega
 refine za (za (zaa zd9 ?_));refine zaU rfl (λhb=>?_) (λhb=>?_)
 .have hb:(i:Int)<((((r.take i).map (zcL b)++r.drop i).length:Nat):Int):=hb;rw[hlen]at hb;have x2:i<r.length:=o_;have z0:(0:Int)<=(i:Int):=o_;have x9:r.drop i=r[i]::r.drop (i+1):=qf x2;have xb:((r.take i).map (zcL b)).length=i:=by rw[jy,yU];omega
  obtain⟨⟨q1,q2⟩,⟨q3,q4⟩⟩:=hn r[i] (xN x2);rw[x9]at hlen ⊢;have x8:(r.take (i+1)).map (zcL b)=(r.take i).map (zcL b)++[zcL b r[i]]:=by rw[zS x2,List.map_append];rfl
  generalize (r.take i).map (zcL b)=p at *;generalize x6:r.drop (i+1)=q at *;generalize r[i]=n at *;have z1:(i:Int)<(((p++n::q).length:Nat):Int):=by rw[hlen];omega
  have hget:(p++n::q).getD ((i:Int)).toNat zNd=n:=by
   have:=zcg (l:=p) (m:=n::q) (z:=zNd) (j:=0);rw[zH,show i=p.length+0 by omega,this];rfl
  have x5:∀x,(p++n::q).set ((i:Int)).toNat x=p++x::q:=λx=>by
   rw[zH,kj _ _ o_,show i-p.length=0 by omega];rfl
  have i3:inR .i64 (ndL n+b):=zad o_ o_;have i4:inR .i64 (ndR n+b):=zad o_ o_;have xa:inR .i64 (ndL ((p++n::q).getD ((i:Int)).toNat zNd)+b):=by rw[hget];exact i3
  refine za (za (zaa zd9 ?_));refine zbi (Y':=⟨[(1,⟨i64,b⟩),(5,⟨.obuf nd,(0:Nat)⟩),(6,⟨i64,(i:Int)⟩)],[(0,some (.buf 46 nd (p++(if 8<=ndK n/\ndK n<=17 then setL n (ndL n+b) else n)::q)))],1⟩) ?_ ?_
  .have hq:(bif decide (ndK ((p++n::q).getD ((i:Int)).toNat zNd)>=8) then decide (ndK ((p++n::q).getD ((i:Int)).toNat zNd)<=17) else false)=decide (8<=ndK n/\ndK n<=17):=by
    rw[hget,zcR,zY,zf,decide_eq_true_iff,decide_eq_true_iff,decide_eq_true_iff]
   refine zaf rfl (λhc=>?_) (λhc=>?_)
   .have hc:=of_decide_eq_true (hq.symm.trans hc);refine za (za (zaa zd9 ?_));refine⟨⟨rfl,rfl,rfl,t_⟩,⟨bufN ?_,t_⟩,rfl,rfl⟩;refine(x5 _).trans ?_;rw[if_pos hc];show p++(setL ((p++n::q).getD ((i:Int)).toNat zNd) (ndL ((p++n::q).getD ((i:Int)).toNat zNd)+b))::q=_;rw[hget]
   .have hc:=of_decide_eq_false (hq.symm.trans hc);apply zah;rw[if_neg hc];exact⟨⟨rfl,rfl,rfl,t_⟩,⟨rfl,t_⟩,rfl,rfl⟩
  generalize x4:(if 8<=ndK n/\ndK n<=17 then setL n (ndL n+b) else n)=n1;have hK:ndK n1=ndK n:=by rw[<-x4];split<;>rfl
  have hR:ndR n1=ndR n:=by rw[<-x4];split<;>rfl
  have x1:(p++n1::q).length=r.length:=by rw[<-hlen];simp
  have y1:(i:Int)<(((p++n1::q).length:Nat):Int):=by rw[x1];omega
  have y2:((i:Int)).toNat<(p++n1::q).length:=by rw[x1];omega
  have x0:(p++n1::q).getD ((i:Int)).toNat zNd=n1:=by
   have:=zcg (l:=p) (m:=n1::q) (z:=zNd) (j:=0);rw[zH,show i=p.length+0 by omega,this];rfl
  have x3:∀x,(p++n1::q).set ((i:Int)).toNat x=p++x::q:=λx=>by
   rw[zH,kj _ _ o_,show i-p.length=0 by omega];rfl
  have xc:inR .i64 (ndR ((p++n1::q).getD ((i:Int)).toNat zNd)+b):=by rw[x0,hR];exact i4
  refine za (za (zaa zd9 ?_));have x7:zcL b n=if two (ndK n)=true then zbZ n1 (ndL n1) (ndR n1+b) else n1:=by
   rw[<-x4];unfold zcL;obtain⟨k,c,L,R,rest⟩:=n;by_cases h8:8<=k/\k<=17
   .rw[if_pos h8,if_pos (c:=8<=ndK (k,c,L,R,rest)/\ndK (k,c,L,R,rest)<=17) h8];cases ht:two k with
    |true=>rw[if_pos (c:=two (ndK (k,c,L,R,rest))=true) ht];rfl
    |false=>rw[if_neg (c:=two (ndK (k,c,L,R,rest))=true) (by show ¬two k=true;rw[ht];decide)];rfl
   .rw[if_neg h8,if_neg (c:=8<=ndK (k,c,L,R,rest)/\ndK (k,c,L,R,rest)<=17) h8];cases ht:two k with
    |true=>rw[if_pos (c:=two (ndK (k,c,L,R,rest))=true) ht];rfl
    |false=>rw[if_neg (c:=two (ndK (k,c,L,R,rest))=true) (by show ¬two k=true;rw[ht];decide)];rfl
  have hq:two (ndK ((p++n1::q).getD ((i:Int)).toNat zNd))=two (ndK n):=by rw[x0,hK]
  refine zaf rfl (λhc=>?_) (λhc=>?_)
  .have hc:=hq.symm.trans hc;refine za (za (zaa zd9 ?_));refine za (za (zac hX zd9 rfl ?_ ?_))
   .exact zbb o_
   refine⟨i+1,x2,by omega,⟨rfl,rfl,zdU _,t_⟩,⟨bufN ?_,t_⟩,rfl,rfl⟩;refine(x3 _).trans ?_;rw[x8,x7,if_pos hc,zz,x6];show p++(zbZ ((p++n1::q).getD ((i:Int)).toNat zNd) (ndL ((p++n1::q).getD ((i:Int)).toNat zNd)) (ndR ((p++n1::q).getD ((i:Int)).toNat zNd)+b))::q=_;rw[x0];rfl
  .have hc:=hq.symm.trans hc;apply zah;refine za (za ?_);refine zac hX zd9 rfl ?_ ?_
   .exact zbb o_
   refine⟨i+1,x2,by omega,⟨rfl,rfl,zdU _,t_⟩,⟨bufN ?_,t_⟩,rfl,rfl⟩;rw[x8,x7,if_neg (by rw[hc];decide),zz,x6];rfl
 .have hb:¬((i:Int)<((((r.take i).map (zcL b)++r.drop i).length:Nat):Int)):=hb;rw[hlen]at hb;obtain rfl:i=r.length:=o_;apply zaw;refine vM hX 5 ?_;refine za (za (zaa zd9 ?_));refine zp ⟨.inr rfl,D1 ?_⟩;rw[xR,kF,zW];rfl
def zAf:Ctr:={ args:=[.slice nd,.slice nd,nd],pre:=λx=>[1<=zi x.1,zi x.1<=100000,zi x.2.1<=100000,∀n∈(x.2.1:List Nd),(-1000000<=ndL n/\ndL n<=1000000)/\(-1000000<=ndR n/\ndR n<=1000000)],res:=.slice nd,own:=none,out:=λx=>zva x.1 x.2.1 x.2.2.1 }
def kBth:Kn:={ gmK with C:=[(81,zwc)] }
theorem zsf:KnOk zb gmG kBth:=zaA.with (.cons zui .nil)
theorem zyq:yT zb gmG 51 zAf:=by
 refine ctr2 zsf Tryz.func51 Tryz.call51 ?_;rintro w0 X hX ⟨(a:List Nd),(c:List Nd),(n:Nd),_⟩ hp;obtain⟨h1,hl,x1,hn⟩:1<=a.length/\a.length<=100000/\c.length<=100000/\∀n∈c,(-1000000<=ndL n/\ndL n<=1000000)/\(-1000000<=ndR n/\ndR n<=1000000):=hp;change AWP _ _ _ _ _ ⟨[(0,⟨.slice nd,a⟩),(1,⟨.slice nd,c⟩),(2,⟨nd,n⟩)],[],0⟩ _;have i1:inR .i64 (((a.length:Nat):Int)-1):=zad o_ o_;have i2:inR .i64 (((a.length:Nat):Int)+((c.length:Nat):Int)):=zad o_ o_;have i3:inR .i64 (((a.length:Nat):Int)+((c.length:Nat):Int)-1):=zad o_ o_;have i4:0+a.length<=1000000000:=o_;have i5:c.length<=1000000:=o_;have i6:(0:Int)<=((a.length:Nat):Int):=o_;have i7:((a.length:Nat):Int)<=1000000:=o_;have x0:(ze1 c ((a.length:Nat):Int)).length=c.length:=by unfold ze1;rw[jy]
 have i8:zi ([]++a)+(ze1 c ((a.length:Nat):Int)).length<=1000000000:=by rw[xH];omega
 have i9:zi ([]++a++ze1 c ((a.length:Nat):Int))+1<=1000000000:=by rw[xH,zg];omega
 iterate 6 (refine za (za (zaa zsf ?_)))
 refine vM hX 6 ?_;refine zp ⟨.inr rfl,D1 ?_⟩;rfl
theorem zw7:yT zb gmG 188 cMod:=by
 refine ctr2 zaA Tryz.func188 Tryz.call188 ?_;rintro w0 X hX ⟨(a:Int),(b:Int),_⟩ hp;obtain⟨h0,h1⟩:0<b/\b<=1000000000:=by
  simp only[cMod,allP]at hp
  simpa using hp
 change AWP _ _ _ _ _ ⟨[(0,⟨i64,a⟩),(1,⟨i64,b⟩)],[],0⟩ _;have hn:b≠0:=o_
 iterate 3 (refine za (za (zaa zaA ?_)))
 have x2:=wz a h0;have x3: -b<a.tmod b:=by
  have h2:=Int.natAbs_tmod a b;have h3:a.natAbs%b.natAbs<b.natAbs:=fF _ o_;omega
 have x0:a%b=if a.tmod b<0 then a.tmod b+b else a.tmod b:=by
  have e1:=qq a hn;have e2:=xS a h0;have e3:a=b*a.tdiv b+a.tmod b:=(gL a b).symm;split
  .rename_i x1;have:a=(a.tmod b+b)+b*(a.tdiv b-1):=by rw[Int.mul_sub];omega
   conv=>lhs;rw[this]
   rw[vq];exact jt o_ o_
  .conv=>lhs;rw[e3]
   rw[Int.add_comm,vq];exact jt o_ o_
 refine zaU rfl (λhb=>?_) (λhb=>?_)
 .have hb:a.tmod b<0:=hb;have q0:inR .i64 (a.tmod b+b):=zad o_ o_;refine za (za (zaa zaA ?_));(repeat refine za (za (zaa zaA ?_)));refine za ?_;refine zp ⟨.inr rfl,D1 ?_⟩;show a.tmod b+b=a%b;rw[x0,if_pos hb]
 .
  apply zah;(repeat refine za (za (zaa zaA ?_)));refine za ?_;refine zp ⟨.inr rfl,D1 ?_⟩;show a.tmod b=a%b;rw[x0,if_neg hb]
def zzZ:Ctr:={ args:=[i64,i64],pre:=λx=>[0<x.2.1,x.2.1<=1000000000],res:=.tup i64 (.tup i64 .unit),own:=none,out:=λx=>(x.1%x.2.1,0,()) }
def kNm1:Kn:={ gmK with C:=[(188,cMod)] }
theorem zns:KnOk zb gmG kNm1:=zaA.with (.cons zw7 .nil)
theorem zxb:yT zb gmG 166 zzZ:=by
 refine ctr2 zns Tryz.func166 Tryz.call166 ?_;rintro w0 X hX ⟨(a:Int),(b:Int),_⟩ hp;obtain⟨h0,h1⟩:0<b/\b<=1000000000:=hp;change AWP _ _ _ _ _ ⟨[(0,⟨i64,a⟩),(1,⟨i64,b⟩)],[],0⟩ _
 iterate 2 (refine za (za (zaa zns ?_)))
 refine zaf rfl (λhb=>?_) (λhb=>?_)
 .have hb:decide (b<1)=true:=hb;have hb:=of_decide_eq_true hb;omega
 apply zah;refine za (za (zaa zns ?_));exact zp ⟨.inr rfl,D2 rfl⟩
def kCm:Kn:={ gmK with C:=[(166,zzZ)] }
theorem zvT:KnOk zb gmG kCm:=zaA.with (.cons zxb .nil)
theorem zsS:yT zb gmG 137 cMod:=by
 refine ctr2 zvT Tryz.func137 Tryz.call137 ?_;rintro w0 X hX ⟨a,b,_⟩ hp;obtain⟨h0,h1⟩:=hp
 iterate 3 (refine za (za (zaa zvT ?_)))
 exact zp ⟨.inr rfl,D1 rfl⟩
def cWkd:Ctr:={ args:=[i64],pre:=λ_=>[],res:=i64,own:=none,out:=λx=>x.1%7 }
def kWkd:Kn:={ gmK with C:=[(137,cMod)] }
theorem zsa:KnOk zb gmG kWkd:=zaA.with (.cons zsS .nil)
theorem zpm:yT zb gmG 121 cWkd:=by
 refine ctr2 zsa Tryz.func121 Tryz.call121 ?_;rintro w0 X hX ⟨(a:Int),_⟩ hp;change AWP _ _ _ _ _ ⟨[(0,⟨i64,a⟩)],[],0⟩ _
 iterate 2 (refine za (za (zaa zsa ?_)))
 exact zp ⟨.inr rfl,D1 rfl⟩
theorem zhX{P:zw}{Z:Ty}{t:zo}(h:Lay P Z (.inl t))(hd:Z.isAgg=false){w:zh}{g o:Nat}{v:zd}(hc:w.cell? ⟨g,o,none⟩=some v):(xM t (.pointer (some ⟨g,o,none⟩))).run P w=.ok v w:=by
 simp only[xM,Instr.sureAddr,Sem.run_bind,Sem.run_pure,zG];unfold Go.loadVar;simp only[Sem.run_bind,h.isAgg,zG];simp[hd,load,Sem.run,hc]
def zyn(xs:List lru.T)(k:Nat):List V:=[⟨i64,((xs.length:Int)-1-k)⟩,⟨lru,xs.getD (xs.length-1-k) (zav lru)⟩]
theorem zs5(xs:List lru.T):Iter zb 195 (.tup (.vptr (.slice lru)) .unit) (xs,()) xs.length (zyn xs):=by
 rintro W0 us O' ⟨u,r,rfl,⟨g,o,cs,rfl,hg,hO,⟨v,rfl,hs⟩,hc⟩,rfl⟩;have x8:Lay zb (.slice lru) (.inl 23):=zeK.is (t:=23) rfl;have xh:Lay zb lru (.inl 56):=zeK.is (t:=56) rfl;have hlen:xs.length<=maxLen:=by
  rcases hs with ⟨rfl,_⟩|⟨_,_,_,_,_,_,h1,h2,_⟩
  .exact zk _
  .exact zJ h1 h2
 have hlen:xs.length<=9223372036854775807:=hlen;refine⟨λq=>q<W0.heap.size/\¬O' q,λq h=>h,zkt (G:=gmG) (n:=19) (λq h=>h.1) Tryz.func195 rfl rfl rfl (zq rfl) ?_⟩;intro l J B hB hJ hY;have x3:∀w,gmG w:=λ_=>trivial;obtain⟨C,x6⟩:∃C:Nat->Prop,C=λq=>q<W0.heap.size/\¬O' q:=⟨_,rfl⟩;rw[<-x6]at hY ⊢;have x1:∀q,C q->q<W0.heap.size:=λq h=>by rw[x6]at h;exact h.1
 have x4:∀q,q<W0.heap.size->¬O' q->C q:=λq h1 h2=>by rw[x6];exact⟨h1,h2⟩
 have zp5:∀(W:zh),(∀q,C q->W.heap[q]? =W0.heap[q]?)->(xM 23 (.pointer (some ⟨g,o,none⟩))).run zb W=.ok v W:=λW hw=>
  zhX x8 rfl ((qV (hw g (x4 g hg hO))).trans (hc 0 v rfl))
 have xc:∀{U:Nat->zd}{a:Act}{w w1:zh}{F:zN}{E:Owns}{nx:Nat},zn F 1=⟨.lit,.pointer (some ⟨g,o,none⟩)⟩->Sim w1 (vU gmG) 19 ⟨F,E,nx⟩ U a w->a.eval (.tmp 1)=.pointer (some ⟨g,o,none⟩):=λe h=>by
  have h1:=h.ops (.tmp 1);rw[show evO (AS.mk _ _ _).F (.tmp 1)=_ from e]at h1;exact h1
 let F (z:Int):List (Nat×V):=[(0,⟨.lit,.func (.yield l) #[] #[]⟩),(1,⟨.lit,.pointer (some ⟨g,o,none⟩)⟩),(3,⟨i64,z⟩)]
 refine ur ?_;refine uM (wA (Q:=λe F' κ=>e=.normal/\F'=F ((xs.length:Int)-1)/\κ=some 0) hB x1 x3 hJ (λW hX x2 hw=>?_)) ?_
 .refine zae ?_;refine fa rfl (by intro c e;cases e) rfl rfl ⟨.slice lru,xs⟩ rfl (λU a w x0=>?_) ?_
  .obtain⟨hz,x9⟩:=ze8 hB x1 x2 hw x0;refine⟨v,?_,(xJ rfl).2 ?_⟩
   .show(do pure (.value (<-xM _ (a.eval (.tmp 1)))):Sem Next).run _ _=_;rw[xc rfl x0];exact zbz (zp5 w x9)
   .refine qJ (O:=O') ⟨hz,λq hq hn=>x9 q (x4 q hq hn),λq _ h=>?_⟩ (.slice lru) xs [v] ⟨v,rfl,hs⟩;rw[OSet.nil]at h;exact h.elim
  refine jz hX zaA rfl ?_ ?_
  .exact zad o_ o_
  exact⟨rfl,F ((xs.length:Int)-1),⟨rfl,rfl,rfl,t_⟩,rfl,rfl,rfl,rfl⟩
 rintro e F' κ ⟨rfl,rfl,rfl⟩;refine gu ?_;refine IWP.loop (ι:=Nat) (λk=>F ((xs.length:Int)-1-k)) some (λk=>k<=xs.length) (λk=>xs.length-k) 0 (zk _) ⟨rfl,rfl,vI64 o_,t_⟩ rfl (λk=>rfl) (λk hk=>?_);have xm:inR .i64 ((xs.length:Int)-1-k-1):=zad o_ o_;refine ur (uM (wA (Q:=λe F' κ=>(e=.exit 0/\xs.length<=k/\κ=some k)\/(e=.normal/\k<xs.length/\F'=F ((xs.length:Int)-1-k)/\κ=some k)) hB x1 x3 hJ (λW hX x2 hw=>?_)) ?_)
 .refine za (za (zaa zaA ?_));refine zaf rfl (λhb=>zah ⟨rfl,F ((xs.length:Int)-1-k),⟨rfl,rfl,rfl,t_⟩,rfl,.inr ⟨rfl,?_,rfl,rfl⟩⟩) (λhb=>zaw ⟨rfl,F ((xs.length:Int)-1-k),⟨rfl,rfl,rfl,t_⟩,rfl,.inl ⟨rfl,?_,rfl⟩⟩)
  .have hb:decide ((xs.length:Int)-1-k>=0)=true:=hb;have hb:=of_decide_eq_true hb;omega
  .have hb:decide ((xs.length:Int)-1-k>=0)=false:=hb;have hb:=of_decide_eq_false hb;omega
 rintro e F' κ (⟨rfl,x5,rfl⟩|⟨rfl,x5,rfl,rfl⟩)
 .exact⟨.inl rfl,.inl (by rw[show k=xs.length by omega])⟩
 obtain⟨g2,off,c,vs,rfl,_,_,_,xj,xd,hvs,xe⟩:=hs.resolve_left (by rintro ⟨rfl,_⟩;cases x5);obtain⟨i,hi⟩:∃i,i=xs.length-1-k:=⟨_,rfl⟩;have xa:i<xs.length:=o_;have hz:(xs.length:Int)-1-k=(i:Int):=o_;obtain⟨ck,xb⟩:∃ck,ck=(vs.drop (i*jV lru)).take (jV lru):=⟨_,rfl⟩;have x7:RepC W0 O' lru xs[i] ck:=xb▸hvs.nth (λx c h=>yX _ _ _ h) (zI xa);have xi:CellsAt W0 g2 (off+i*jV lru) ck:=xb▸(xe.drop _).take _;have hT:zpb W0 C (zyn xs k) #[.int .i64 (i:Int),.agg ck.toArray]:=by
  refine⟨[.int .i64 (i:Int),.agg ck.toArray],rfl,rfl,λw' O'' U' h1 h2=>⟨rfl,λj v hv=>?_⟩⟩
  match j,hv with
  |0,hv=>
   have hv:(⟨i64,((xs.length:Int)-1-k)⟩:V)=v:=zP hv;subst hv;exact⟨_,rfl,by rw[hz];exact jg (k:=.i64)⟩
  |1,hv=>
   have hv:(⟨lru,xs.getD (xs.length-1-k) (zav lru)⟩:V)=v:=zP hv;subst hv;refine⟨_,rfl,?_⟩;have e:xs.getD (xs.length-1-k) (zav lru)=xs[i]:=by
    rw[<-hi,zu,zI xa];rfl
   rw[e];exact(qr rfl).2 ⟨_,rfl,qJ ⟨h1,λq hq hn=>(h2 q (x4 q hq hn)).1,λq hq ho=>wI λhn=>(h2 q (x4 q hq hn)).2 ho⟩ _ _ _ x7⟩
 rw[hz]at xm ⊢
 let F1:List (Nat×V):=(16,⟨.lit,.agg ck.toArray⟩)::(12,⟨i64,(i:Int)⟩)::(11,⟨.lit,.func (.yield l) #[] #[]⟩)::F (i:Int)
 refine ur (gu (ur (IWP.list ?_)));refine IL.of 6 F1 hB x1 x3 hJ rfl (λW hX x2 hw=>?_) ?_
 .refine za4 2 zaA ?_;refine zfl rfl (by intro c e;cases e) rfl rfl (.slice (some ⟨g2,off,none⟩) xs.length c) (λU a w x0=>?_) ?_
  .show(do pure (.value (<-xM _ (a.eval (.tmp 1)))):Sem Next).run _ _=_;rw[xc rfl x0];exact zbz (zp5 w (ze8 hB x1 x2 hw x0).2)
  refine za4 1 zaA ?_;refine zfl rfl (by intro c e;cases e) rfl rfl (.pointer (some ⟨g2,off+i*jV lru,none⟩)) (λU a w x0=>?_) ?_
  .obtain⟨te,hu,_,xg⟩:=x8;have e1:a.eval (.tmp 13)=.slice (some ⟨g2,off,none⟩) xs.length c:=x0.ops (.tmp 13);have e2:a.eval (.tmp 14)=.int .i64 (i:Int):=je (x0.ops (.tmp 14));show(do pure (.value (<-Instr.indexAt _ (a.eval (.tmp 13)) (a.eval (.tmp 14)))):Sem Next).run _ _=_;rw[e1,e2];refine zbz ?_;rw[zcN hu xg.sizeOf (yM i) o_,Addr.add_mid];rfl
  refine zfl rfl (by intro c e;cases e) rfl rfl (.agg ck.toArray) (λU a w x0=>?_) ?_
  .have e1:a.eval (.tmp 15)=.pointer (some ⟨g2,off+i*jV lru,none⟩):=x0.ops (.tmp 15);show(do pure (.value (<-xM _ (a.eval (.tmp 15)))):Sem Next).run _ _=_;rw[e1];exact zbz (xh.loadAgg rfl (yX _ _ _ x7) (xi.keep ((ze8 hB x1 x2 hw x0).2 g2 (x4 g2 xj xd))))
  exact AL.nil ⟨rfl,rfl,⟨rfl,rfl,rfl,rfl,rfl,rfl,t_⟩⟩
 refine IL.yield (y:=#[.int .i64 (i:Int),.agg ck.toArray]) rfl rfl rfl rfl rfl (λU a w x0=>?_) (λw hj hw=>?_) rfl rfl
 .have e1:a.eval (.tmp 12)=.int .i64 (i:Int):=je (x0.ops (.tmp 12));have e2:a.eval (.tmp 16)=.agg ck.toArray:=x0.ops (.tmp 16);simp[e1,e2]
 refine gH (hY k _ w hj x5 hT hw) ?_;rintro e W' ⟨b,rfl,xk,xf⟩;refine⟨b,_,rfl,xk,xf,?_⟩;refine IL.of 1 ((18,⟨.bool,!b⟩)::F (i:Int)) hB x1 x3 hJ rfl (λW hX x2 hw=>jz hX zaA rfl t_ ⟨rfl,rfl,⟨rfl,rfl,rfl,rfl,t_⟩⟩) ?_;refine IL.nil ?_;refine uM (wA (Q:=λe F' κ=>(e=.ret/\b=false/\κ=none)\/(e=.normal/\b=true/\F'=F (i:Int)/\κ=some (k+1))) hB x1 x3 hJ (λW hX x2 hw=>?_)) ?_
 .refine zaf rfl (λhb=>zp ⟨rfl,F (i:Int),⟨rfl,rfl,rfl,t_⟩,rfl,.inl ⟨rfl,?_,?_⟩⟩) (λhb=>zah ⟨rfl,F (i:Int),⟨rfl,rfl,rfl,t_⟩,rfl,.inr ⟨rfl,?_,rfl,?_⟩⟩)
  all_goals (have hb:(!b)=_:=hb;cases b<;>first|rfl|(cases hb))
 rintro e F' κ (⟨rfl,rfl,rfl⟩|⟨rfl,rfl,rfl,rfl⟩)
 .exact⟨.inr rfl,.inr rfl⟩
 refine wA hB x1 x3 hJ (λW hX x2 hw=>?_);refine za (za (zaa zaA ?_));exact⟨rfl,F ((i:Int)-1),⟨rfl,rfl,rfl,t_⟩,rfl,k+1,x5,by show xs.length-(k+1)<xs.length-k;omega,⟨rfl,rfl,vI64 o_,t_⟩,rfl⟩
def zyl(xs:List nd.T)(k:Nat):List V:=[⟨i64,((xs.length:Int)-1-k)⟩,⟨nd,xs.getD (xs.length-1-k) (zav nd)⟩]
theorem zs3(xs:List nd.T):Iter zb 131 (.tup (.vptr (.slice nd)) .unit) (xs,()) xs.length (zyl xs):=by
 rintro W0 us O' ⟨u,r,rfl,⟨g,o,cs,rfl,hg,hO,⟨v,rfl,hs⟩,hc⟩,rfl⟩;have x8:Lay zb (.slice nd) (.inl 36):=zeK.is (t:=36) rfl;have xh:Lay zb nd (.inl 46):=zeK.is (t:=46) rfl;have hlen:xs.length<=maxLen:=by
  rcases hs with ⟨rfl,_⟩|⟨_,_,_,_,_,_,h1,h2,_⟩
  .exact zk _
  .exact zJ h1 h2
 have hlen:xs.length<=9223372036854775807:=hlen;refine⟨λq=>q<W0.heap.size/\¬O' q,λq h=>h,zkt (G:=gmG) (n:=19) (λq h=>h.1) Tryz.func131 rfl rfl rfl (zq rfl) ?_⟩;intro l J B hB hJ hY;have x3:∀w,gmG w:=λ_=>trivial;obtain⟨C,x6⟩:∃C:Nat->Prop,C=λq=>q<W0.heap.size/\¬O' q:=⟨_,rfl⟩;rw[<-x6]at hY ⊢;have x1:∀q,C q->q<W0.heap.size:=λq h=>by rw[x6]at h;exact h.1
 have x4:∀q,q<W0.heap.size->¬O' q->C q:=λq h1 h2=>by rw[x6];exact⟨h1,h2⟩
 have zp5:∀(W:zh),(∀q,C q->W.heap[q]? =W0.heap[q]?)->(xM 36 (.pointer (some ⟨g,o,none⟩))).run zb W=.ok v W:=λW hw=>
  zhX x8 rfl ((qV (hw g (x4 g hg hO))).trans (hc 0 v rfl))
 have xc:∀{U:Nat->zd}{a:Act}{w w1:zh}{F:zN}{E:Owns}{nx:Nat},zn F 1=⟨.lit,.pointer (some ⟨g,o,none⟩)⟩->Sim w1 (vU gmG) 19 ⟨F,E,nx⟩ U a w->a.eval (.tmp 1)=.pointer (some ⟨g,o,none⟩):=λe h=>by
  have h1:=h.ops (.tmp 1);rw[show evO (AS.mk _ _ _).F (.tmp 1)=_ from e]at h1;exact h1
 let F (z:Int):List (Nat×V):=[(0,⟨.lit,.func (.yield l) #[] #[]⟩),(1,⟨.lit,.pointer (some ⟨g,o,none⟩)⟩),(3,⟨i64,z⟩)]
 refine ur ?_;refine uM (wA (Q:=λe F' κ=>e=.normal/\F'=F ((xs.length:Int)-1)/\κ=some 0) hB x1 x3 hJ (λW hX x2 hw=>?_)) ?_
 .refine zae ?_;refine fa rfl (by intro c e;cases e) rfl rfl ⟨.slice nd,xs⟩ rfl (λU a w x0=>?_) ?_
  .obtain⟨hz,x9⟩:=ze8 hB x1 x2 hw x0;refine⟨v,?_,(xJ rfl).2 ?_⟩
   .show(do pure (.value (<-xM _ (a.eval (.tmp 1)))):Sem Next).run _ _=_;rw[xc rfl x0];exact zbz (zp5 w x9)
   .refine qJ (O:=O') ⟨hz,λq hq hn=>x9 q (x4 q hq hn),λq _ h=>?_⟩ (.slice nd) xs [v] ⟨v,rfl,hs⟩;rw[OSet.nil]at h;exact h.elim
  refine jz hX zaA rfl ?_ ?_
  .exact zad o_ o_
  exact⟨rfl,F ((xs.length:Int)-1),⟨rfl,rfl,rfl,t_⟩,rfl,rfl,rfl,rfl⟩
 rintro e F' κ ⟨rfl,rfl,rfl⟩;refine gu ?_;refine IWP.loop (ι:=Nat) (λk=>F ((xs.length:Int)-1-k)) some (λk=>k<=xs.length) (λk=>xs.length-k) 0 (zk _) ⟨rfl,rfl,vI64 o_,t_⟩ rfl (λk=>rfl) (λk hk=>?_);have xm:inR .i64 ((xs.length:Int)-1-k-1):=zad o_ o_;refine ur (uM (wA (Q:=λe F' κ=>(e=.exit 0/\xs.length<=k/\κ=some k)\/(e=.normal/\k<xs.length/\F'=F ((xs.length:Int)-1-k)/\κ=some k)) hB x1 x3 hJ (λW hX x2 hw=>?_)) ?_)
 .refine za (za (zaa zaA ?_));refine zaf rfl (λhb=>zah ⟨rfl,F ((xs.length:Int)-1-k),⟨rfl,rfl,rfl,t_⟩,rfl,.inr ⟨rfl,?_,rfl,rfl⟩⟩) (λhb=>zaw ⟨rfl,F ((xs.length:Int)-1-k),⟨rfl,rfl,rfl,t_⟩,rfl,.inl ⟨rfl,?_,rfl⟩⟩)
  .have hb:decide ((xs.length:Int)-1-k>=0)=true:=hb;have hb:=of_decide_eq_true hb;omega
  .have hb:decide ((xs.length:Int)-1-k>=0)=false:=hb;have hb:=of_decide_eq_false hb;omega
 rintro e F' κ (⟨rfl,x5,rfl⟩|⟨rfl,x5,rfl,rfl⟩)
 .exact⟨.inl rfl,.inl (by rw[show k=xs.length by omega])⟩
 obtain⟨g2,off,c,vs,rfl,_,_,_,xj,xd,hvs,xe⟩:=hs.resolve_left (by rintro ⟨rfl,_⟩;cases x5);obtain⟨i,hi⟩:∃i,i=xs.length-1-k:=⟨_,rfl⟩;have xa:i<xs.length:=o_;have hz:(xs.length:Int)-1-k=(i:Int):=o_;obtain⟨ck,xb⟩:∃ck,ck=(vs.drop (i*jV nd)).take (jV nd):=⟨_,rfl⟩;have x7:RepC W0 O' nd xs[i] ck:=xb▸hvs.nth (λx c h=>yX _ _ _ h) (zI xa);have xi:CellsAt W0 g2 (off+i*jV nd) ck:=xb▸(xe.drop _).take _;have hT:zpb W0 C (zyl xs k) #[.int .i64 (i:Int),.agg ck.toArray]:=by
  refine⟨[.int .i64 (i:Int),.agg ck.toArray],rfl,rfl,λw' O'' U' h1 h2=>⟨rfl,λj v hv=>?_⟩⟩
  match j,hv with
  |0,hv=>
   have hv:(⟨i64,((xs.length:Int)-1-k)⟩:V)=v:=zP hv;subst hv;exact⟨_,rfl,by rw[hz];exact jg (k:=.i64)⟩
  |1,hv=>
   have hv:(⟨nd,xs.getD (xs.length-1-k) (zav nd)⟩:V)=v:=zP hv;subst hv;refine⟨_,rfl,?_⟩;have e:xs.getD (xs.length-1-k) (zav nd)=xs[i]:=by
    rw[<-hi,zu,zI xa];rfl
   rw[e];exact(qr rfl).2 ⟨_,rfl,qJ ⟨h1,λq hq hn=>(h2 q (x4 q hq hn)).1,λq hq ho=>wI λhn=>(h2 q (x4 q hq hn)).2 ho⟩ _ _ _ x7⟩
 rw[hz]at xm ⊢
 let F1:List (Nat×V):=(16,⟨.lit,.agg ck.toArray⟩)::(12,⟨i64,(i:Int)⟩)::(11,⟨.lit,.func (.yield l) #[] #[]⟩)::F (i:Int)
 refine ur (gu (ur (IWP.list ?_)));refine IL.of 6 F1 hB x1 x3 hJ rfl (λW hX x2 hw=>?_) ?_
 .refine za4 2 zaA ?_;refine zfl rfl (by intro c e;cases e) rfl rfl (.slice (some ⟨g2,off,none⟩) xs.length c) (λU a w x0=>?_) ?_
  .show(do pure (.value (<-xM _ (a.eval (.tmp 1)))):Sem Next).run _ _=_;rw[xc rfl x0];exact zbz (zp5 w (ze8 hB x1 x2 hw x0).2)
  refine za4 1 zaA ?_;refine zfl rfl (by intro c e;cases e) rfl rfl (.pointer (some ⟨g2,off+i*jV nd,none⟩)) (λU a w x0=>?_) ?_
  .obtain⟨te,hu,_,xg⟩:=x8;have e1:a.eval (.tmp 13)=.slice (some ⟨g2,off,none⟩) xs.length c:=x0.ops (.tmp 13);have e2:a.eval (.tmp 14)=.int .i64 (i:Int):=je (x0.ops (.tmp 14));show(do pure (.value (<-Instr.indexAt _ (a.eval (.tmp 13)) (a.eval (.tmp 14)))):Sem Next).run _ _=_;rw[e1,e2];refine zbz ?_;rw[zcN hu xg.sizeOf (yM i) o_,Addr.add_mid];rfl
  refine zfl rfl (by intro c e;cases e) rfl rfl (.agg ck.toArray) (λU a w x0=>?_) ?_
  .have e1:a.eval (.tmp 15)=.pointer (some ⟨g2,off+i*jV nd,none⟩):=x0.ops (.tmp 15);show(do pure (.value (<-xM _ (a.eval (.tmp 15)))):Sem Next).run _ _=_;rw[e1];exact zbz (xh.loadAgg rfl (yX _ _ _ x7) (xi.keep ((ze8 hB x1 x2 hw x0).2 g2 (x4 g2 xj xd))))
  exact AL.nil ⟨rfl,rfl,⟨rfl,rfl,rfl,rfl,rfl,rfl,t_⟩⟩
 refine IL.yield (y:=#[.int .i64 (i:Int),.agg ck.toArray]) rfl rfl rfl rfl rfl (λU a w x0=>?_) (λw hj hw=>?_) rfl rfl
 .have e1:a.eval (.tmp 12)=.int .i64 (i:Int):=je (x0.ops (.tmp 12));have e2:a.eval (.tmp 16)=.agg ck.toArray:=x0.ops (.tmp 16);simp[e1,e2]
 refine gH (hY k _ w hj x5 hT hw) ?_;rintro e W' ⟨b,rfl,xk,xf⟩;refine⟨b,_,rfl,xk,xf,?_⟩;refine IL.of 1 ((18,⟨.bool,!b⟩)::F (i:Int)) hB x1 x3 hJ rfl (λW hX x2 hw=>jz hX zaA rfl t_ ⟨rfl,rfl,⟨rfl,rfl,rfl,rfl,t_⟩⟩) ?_;refine IL.nil ?_;refine uM (wA (Q:=λe F' κ=>(e=.ret/\b=false/\κ=none)\/(e=.normal/\b=true/\F'=F (i:Int)/\κ=some (k+1))) hB x1 x3 hJ (λW hX x2 hw=>?_)) ?_
 .refine zaf rfl (λhb=>zp ⟨rfl,F (i:Int),⟨rfl,rfl,rfl,t_⟩,rfl,.inl ⟨rfl,?_,?_⟩⟩) (λhb=>zah ⟨rfl,F (i:Int),⟨rfl,rfl,rfl,t_⟩,rfl,.inr ⟨rfl,?_,rfl,?_⟩⟩)
  all_goals (have hb:(!b)=_:=hb;cases b<;>first|rfl|(cases hb))
 rintro e F' κ (⟨rfl,rfl,rfl⟩|⟨rfl,rfl,rfl,rfl⟩)
 .exact⟨.inr rfl,.inr rfl⟩
 refine wA hB x1 x3 hJ (λW hX x2 hw=>?_);refine za (za (zaa zaA ?_));exact⟨rfl,F ((i:Int)-1),⟨rfl,rfl,rfl,t_⟩,rfl,k+1,x5,by show xs.length-(k+1)<xs.length-k;omega,⟨rfl,rfl,vI64 o_,t_⟩,rfl⟩
def scpV(z:Int)(k:Nat):List V:=[⟨i64,z+k⟩]
theorem zob(z m:Int)(hm:0<=m)(h1:inR .i64 z)(h2:inR .i64 (z+m)):Iter zb 138 (.tup (.vptr i64) (.tup (.vptr i64) .unit)) (z,m,()) m.toNat (scpV z):=by
 rintro W0 us O' ⟨u,r,rfl,⟨g,o,cs,rfl,hg,hO,hr,hc⟩,u2,r2,rfl,⟨g2,o2,xi,rfl,xf,x9,xb,xa⟩,rfl⟩;subst hr;subst xb;have x8:Lay zb i64 (.inl 3):=zeK.is (t:=3) rfl;rw[zsk]at h1 h2;refine⟨λq=>q<W0.heap.size/\¬O' q,λq h=>h,zkt (G:=gmG) (n:=17) (λq h=>h.1) Tryz.func138 rfl rfl rfl (zq rfl) ?_⟩;intro l J B hB hJ hY;have x3:∀w,gmG w:=λ_=>trivial;obtain⟨C,x5⟩:∃C:Nat->Prop,C=λq=>q<W0.heap.size/\¬O' q:=⟨_,rfl⟩;rw[<-x5]at hY ⊢;have x2:∀q,C q->q<W0.heap.size:=λq h=>by rw[x5]at h;exact h.1
 have x7:∀q,q<W0.heap.size->¬O' q->C q:=λq h1 h2=>by rw[x5];exact⟨h1,h2⟩
 let F (z':Int):List (Nat×V):=[(0,⟨.lit,.func (.yield l) #[] #[]⟩),(1,⟨.lit,.pointer (some ⟨g,o,none⟩)⟩),(2,⟨.lit,.pointer (some ⟨g2,o2,none⟩)⟩),(4,⟨i64,z'⟩)]
 have x6:∀{U:Nat->zd}{a:Act}{w W:zh}{G':zN}{E:Owns}{nx:Nat}{d:Option Tmp}{ty:zo}{ps:String}{af:Array Edge},zn G' 1=⟨.lit,.pointer (some ⟨g,o,none⟩)⟩->B<=W.heap.size->(∀q,C q->W.heap[q]? =W0.heap[q]?)->Sim W (vU gmG) 17 ⟨G',E,nx⟩ U a w->
   ∃u,(execOp a.eval { dst:=d,op:=.load 3 (.tmp 1),type:=ty,pos:=ps,after:=af,guard:=none }).run zb w=.ok (.value u) w/\RepV w (OSet (vU gmG) E U) U i64 z u:=λe x1 hw h=>by
  have h1:=h.ops (.tmp 1);rw[show evO (AS.mk _ _ _).F (.tmp 1)=_ from e]at h1;refine⟨.int .i64 z,?_,jg (k:=.i64)⟩;show(do pure (.value (<-xM _ (wx _ (.tmp 1)))):Sem Next).run _ _=_;rw[show wx _ (.tmp 1)=_ from h1];exact zbz (zhX x8 rfl ((qV ((ze8 hB x2 x1 hw h).2 g (x7 g hg hO))).trans (hc 0 _ rfl)))
 have xc:∀{U:Nat->zd}{a:Act}{w W:zh}{G':zN}{E:Owns}{nx:Nat}{d:Option Tmp}{ty:zo}{ps:String}{af:Array Edge},zn G' 2=⟨.lit,.pointer (some ⟨g2,o2,none⟩)⟩->B<=W.heap.size->(∀q,C q->W.heap[q]? =W0.heap[q]?)->Sim W (vU gmG) 17 ⟨G',E,nx⟩ U a w->
   ∃u,(execOp a.eval { dst:=d,op:=.load 3 (.tmp 2),type:=ty,pos:=ps,after:=af,guard:=none }).run zb w=.ok (.value u) w/\RepV w (OSet (vU gmG) E U) U i64 m u:=λe x1 hw h=>by
  have h1:=h.ops (.tmp 2);rw[show evO (AS.mk _ _ _).F (.tmp 2)=_ from e]at h1;refine⟨.int .i64 m,?_,jg (k:=.i64)⟩;show(do pure (.value (<-xM _ (wx _ (.tmp 2)))):Sem Next).run _ _=_;rw[show wx _ (.tmp 2)=_ from h1];exact zbz (zhX x8 rfl ((qV ((ze8 hB x2 x1 hw h).2 g2 (x7 g2 xf x9))).trans (xa 0 _ rfl)))
 refine ur ?_;refine uM (wA (Q:=λe F' κ=>e=.normal/\F'=F z/\κ=some 0) hB x2 x3 hJ (λW hX x1 hw=>?_)) ?_
 .refine zae ?_;refine fa rfl (by intro c e;cases e) rfl rfl ⟨i64,z⟩ rfl (λU a w x0=>x6 rfl x1 hw x0) ?_;refine zaI zaA ?_;exact⟨rfl,F z,⟨rfl,rfl,rfl,rfl,t_⟩,rfl,rfl,rfl,rfl⟩
 rintro e F' κ ⟨rfl,rfl,rfl⟩;refine gu ?_;refine IWP.loop (ι:=Nat) (λk=>F (z+k)) some (λk=>k<=m.toNat) (λk=>m.toNat-k) 0 (zk _) ⟨rfl,rfl,rfl,vI64 o_,t_⟩ rfl (λk=>rfl) (λk hk=>?_);have xg:inR .i64 (z+m):=zad o_ o_;refine ur (uM (wA (Q:=λe F' κ=>(e=.exit 0/\m.toNat<=k/\κ=some k)\/(e=.normal/\k<m.toNat/\F'=F (z+k)/\κ=some k)) hB x2 x3 hJ (λW hX x1 hw=>?_)) ?_)
 .refine zaq (zae ?_);refine za4 1 zaA ?_;refine fa rfl (by intro c e;cases e) rfl rfl ⟨i64,z⟩ rfl (λU a w x0=>x6 rfl x1 hw x0) ?_;refine fa rfl (by intro c e;cases e) rfl rfl ⟨i64,m⟩ rfl (λU a w x0=>xc rfl x1 hw x0) ?_;refine jz hX zaA rfl xg ?_;refine zaf rfl (λhb=>zah ⟨rfl,F (z+k),⟨rfl,rfl,rfl,rfl,t_⟩,rfl,.inr ⟨rfl,?_,rfl,rfl⟩⟩) (λhb=>zaw ⟨rfl,F (z+k),⟨rfl,rfl,rfl,rfl,t_⟩,rfl,.inl ⟨rfl,?_,rfl⟩⟩)
  .
   have hb:=of_decide_eq_true hb;omega
  .
   have hb:=of_decide_eq_false hb;omega
 rintro e F' κ (⟨rfl,x4,rfl⟩|⟨rfl,x4,rfl,rfl⟩)
 .exact⟨.inl rfl,.inl (by rw[show k=m.toNat by omega])⟩
 have hT:zpb W0 C (scpV z k) #[.int .i64 (z+k)]:=by
  refine⟨[.int .i64 (z+k)],rfl,rfl,λw' O'' U' h1 h2=>⟨rfl,λj v hv=>?_⟩⟩
  match j,hv with
  |0,hv=>
   have hv:(⟨i64,z+(k:Int)⟩:V)=v:=zP hv;subst hv;exact⟨_,rfl,jg (k:=.i64)⟩
 have xh:inR .i64 (z+k+1):=zad o_ o_
 let F1:List (Nat×V):=(14,⟨i64,z+(k:Int)⟩)::(13,⟨.lit,.func (.yield l) #[] #[]⟩)::F (z+k)
 refine ur (gu (ur (IWP.list ?_)));refine IL.of 2 F1 hB x2 x3 hJ rfl (λW hX x1 hw=>jz hX zaA rfl t_ ⟨rfl,rfl,⟨rfl,rfl,rfl,rfl,rfl,rfl,t_⟩⟩) ?_;refine IL.yield (y:=#[.int .i64 (z+k)]) rfl rfl rfl rfl rfl (λU a w x0=>?_) (λw hj hw=>?_) rfl rfl
 .have e1:a.eval (.tmp 14)=.int .i64 (z+k):=je (x0.ops (.tmp 14));simp[e1]
 refine gH (hY k _ w hj x4 hT hw) ?_;rintro e W' ⟨b,rfl,xd,xe⟩;refine⟨b,_,rfl,xd,xe,?_⟩;refine IL.of 1 ((16,⟨.bool,!b⟩)::F (z+k)) hB x2 x3 hJ rfl (λW hX x1 hw=>jz hX zaA rfl t_ ⟨rfl,rfl,⟨rfl,rfl,rfl,rfl,rfl,t_⟩⟩) ?_;refine IL.nil ?_;refine uM (wA (Q:=λe F' κ=>(e=.ret/\b=false/\κ=none)\/(e=.normal/\b=true/\F'=F (z+k)/\κ=some (k+1))) hB x2 x3 hJ (λW hX x1 hw=>?_)) ?_
 .refine zaf rfl (λhb=>zp ⟨rfl,F (z+k),⟨rfl,rfl,rfl,rfl,t_⟩,rfl,.inl ⟨rfl,?_,?_⟩⟩) (λhb=>zah ⟨rfl,F (z+k),⟨rfl,rfl,rfl,rfl,t_⟩,rfl,.inr ⟨rfl,?_,rfl,?_⟩⟩)
  all_goals (have hb:(!b)=_:=hb;cases b<;>first|rfl|(cases hb))
 rintro e F' κ (⟨rfl,rfl,rfl⟩|⟨rfl,rfl,rfl,rfl⟩)
 .exact⟨.inr rfl,.inr rfl⟩
 refine wA hB x2 x3 hJ (λW hX x1 hw=>?_);refine za (za (zaa zaA ?_));exact⟨rfl,F (z+k+1),⟨rfl,rfl,rfl,rfl,t_⟩,rfl,k+1,x4,by show m.toNat-(k+1)<m.toNat-k;omega,⟨rfl,rfl,rfl,vI64 o_,t_⟩,rfl⟩
def guT:Tbl:=(210,.int .u64)::gmT
theorem zzD:TOk zb guT gmQ:=zid (by kernel_rfl) (by kernel_rfl)
def guK:Kn:={ T:=guT,Q:=gmQ,U0:=gmU,C:=[] }
theorem zoO:KnOk zb gmH guK:=⟨zzD,zdm,CsOk.nil,zcb,vp⟩
def cMag:Ctr:={ args:=[i64],pre:=λx=>[0<=x.1],res:=.int .u64,own:=none,out:=λx=>xU 64 x.1 }
theorem zzj:yT zb gmH 157 cMag:=by
 refine ctr2 zoO Tryz.func157 Tryz.call157 ?_;rintro w0 X hX ⟨(n:Int),_⟩ hp;have hn:0<=n:=hp;change AWP _ _ _ _ _ ⟨[(0,⟨i64,n⟩)],[],0⟩ _
 iterate 2 (refine za (za (zaa zoO ?_)))
 refine zaf rfl (λhb=>?_) (λhb=>?_)
 .have hb:decide (n<0)=true:=hb;have hb:=of_decide_eq_true hb;omega
 apply zah;refine za (za (zaa zoO ?_));refine zp ⟨.inr rfl,D1 ?_⟩;rfl
theorem bvI{a:Int}(h:0<=a):(⟨.int .u64,xU 64 a⟩:V)=⟨.int .u64,yN 64 a.toNat⟩:=by
 have:xU 64 a=yN 64 a.toNat:=by
  conv=>lhs;rw[<-qh h]
  exact BitVec.ofInt_natCast ..
 rw[this]
theorem bvN{y:Nat}(h:y<=1000000000000000):(yN 64 y).toNat=y:=by
 rw[BitVec.toNat_ofNat];exact jb o_
theorem bvR{x y:Nat}(hx:x<=1000000000000000)(hy:y<=1000000000000000):(⟨.int .u64,yN 64 x%yN 64 y⟩:V)=⟨.int .u64,yN 64 (x%y)⟩:=by
 have hm:x%y<=x:=Nat.mod_le ..;have:yN 64 x%yN 64 y=yN 64 (x%y):=BitVec.eq_of_toNat_eq (by rw[BitVec.toNat_umod,bvN hx,bvN hy,bvN o_]);rw[this]
def cGcd:Ctr:={ args:=[i64,i64],pre:=λx=>[1<=x.1,x.1<=1000000000000000,1<=x.2.1,x.2.1<=1000000000000000],res:=i64,own:=none,out:=λx=>((jA x.2.1.toNat x.1.toNat:Nat):Int) }
def kGcd:Kn:={ guK with C:=[(157,cMag)] }
theorem ze6:KnOk zb gmH kGcd:=zoO.with (.cons zzj .nil)
theorem zzE:yT zb gmH 128 cGcd:=by
 refine ctr2 ze6 Tryz.func128 Tryz.call128 ?_;rintro w0 X hX ⟨(a:Int),(b:Int),_⟩ hp;obtain⟨ha,x3,hb,x2⟩:1<=a/\a<=1000000000000000/\1<=b/\b<=1000000000000000:=by
  simp only[cGcd,allP]at hp
  simpa using hp
 change AWP _ _ _ _ _ ⟨[(0,⟨i64,a⟩),(1,⟨i64,b⟩)],[],0⟩ _;apply zaq;refine za (za (zaa ze6 ?_));refine za (za ?_);refine zac hX ze6 rfl ?_ ?_
 .have h1:0<=a:=o_;have h2:0<=b:=o_
  repeat'(first|exact t_|exact h1|exact h2|(refine⟨?_,?_⟩)|(intro _))
 refine za (za ?_);refine xP (ι:=Nat×Nat) (λp=>⟨[(0,⟨i64,a⟩),(1,⟨i64,b⟩),(5,⟨.int .u64,yN 64 p.1⟩),(6,⟨.int .u64,yN 64 p.2⟩)],[],0⟩) (λp=>p.1<=1000000000000000/\p.2<=1000000000000000/\jA p.2 p.1=jA b.toNat a.toNat) (λp=>p.2) (a.toNat,b.toNat) ⟨by omega,by omega,rfl⟩ ⟨⟨rfl,rfl,bvI o_,bvI o_,t_⟩,t_,rfl,rfl⟩ ?_;rintro ⟨x,y⟩ ⟨hx,hy,hg⟩;have hx:x<=1000000000000000:=hx;have hy:y<=1000000000000000:=hy;have hg:jA y x=jA b.toNat a.toNat:=hg;refine za (za (zaa ze6 ?_));refine zaf rfl (λhb=>?_) (λhb=>?_)
 .have hc:((((yN 64 y).toNat:Nat):Int) != 0)=true:=hb;have x1:y≠0:=λe=>by subst e;exact absurd hc d_
  have x0:yN 64 y≠0:=λe=>x1 (by have:=congrArg BitVec.toNat e;rw[bvN hy]at this;exact this);(repeat(first|apply zaq|apply zah|apply zay|apply zaw));refine zlu (Y':=⟨[(0,⟨i64,a⟩),(1,⟨i64,b⟩),(5,⟨.int .u64,yN 64 y⟩),(6,⟨.int .u64,yN 64 (x%y)⟩)],[],0⟩) dM 6 rfl (by kernel_rfl) ?_ ?_
  .repeat'(first|exact AllN.nil|refine AllN.cons ⟨_,rfl,?_⟩ ?_|refine zX hX ze6 rfl t_ ?_|refine zX hX ze6 rfl (by repeat'(first|exact t_|exact x0|(refine⟨?_,?_⟩)|(intro _))) ?_|(refine ve ?_;exact⟨rfl,⟨rfl,rfl,rfl,bvR hx hy,t_⟩,t_,rfl,rfl⟩))
  exact⟨(y,x%y),⟨hy,zJ (Nat.mod_le ..) hx,by rw[<-Nat.gcd_rec];exact hg⟩,fF _ o_,⟨rfl,rfl,rfl,rfl,t_⟩,t_,rfl,rfl⟩
 .have hc:((((yN 64 y).toNat:Nat):Int) != 0)=false:=hb;rw[bvN hy]at hc;have x0:y=0:=by
   have:=bne_eq_false_iff_eq.1 hc;omega
  subst x0;rw[Nat.gcd_zero_left]at hg;apply zaw;refine za (za (zaa ze6 ?_));refine zaf rfl (λhd=>?_) (λhd=>?_)
  .have hd:decide ((((yN 64 x).toNat:Nat):Int)>9223372036854775807)=true:=hd;rw[bvN hx]at hd;have:=of_decide_eq_true hd;omega
  apply zah;refine za (za ?_);refine zac hX ze6 rfl ?_ ?_
  .show inR .i64 (((yN 64 x).toNat:Nat):Int);rw[bvN hx];exact zad o_ o_
  refine zp ⟨.inr rfl,D1 ?_⟩;show(((yN 64 x).toNat:Nat):Int)=((jA b.toNat a.toNat:Nat):Int);rw[bvN hx,hg]
theorem zr3{x y:Nat}(hx:1<=x):x/jA y x*y=vP x y:=by
 have hg:jA y x ∣ x:=Nat.gcd_dvd_right y x;have hp:0<jA y x:=w9 _ o_;obtain⟨k,hk⟩:=hg;unfold vP;rw[Nat.gcd_comm x y];generalize jA y x=g at *;subst hk;rw[gw _ hp,Nat.mul_assoc,gw _ hp]
def cLcm:Ctr:={ args:=[i64,i64],pre:=λx=>[1<=x.1,x.1<=1000,1<=x.2.1,x.2.1<=1000],res:=.tup i64 (.tup i64 .unit),own:=none,out:=λx=>(((vP x.1.toNat x.2.1.toNat:Nat):Int),(0:Int),()) }
def kLcm:Kn:={ gmK with C:=[(128,cGcd)] }
theorem ziP:KnOk zb gmH kLcm:=zaj.with (.cons zzE .nil)
theorem zzr:yT zb gmH 113 cLcm:=by
 refine ctr2 ziP Tryz.func113 Tryz.call113 ?_;rintro w0 X hX ⟨(a:Int),(b:Int),_⟩ hp;obtain⟨ha,x8,hb,x7⟩:1<=a/\a<=1000/\1<=b/\b<=1000:=by
  simp only[cLcm,allP]at hp
  simpa using hp
 change AWP _ _ _ _ _ ⟨[(0,⟨i64,a⟩),(1,⟨i64,b⟩)],[],0⟩ _
 iterate 2 (refine za (za (zaa ziP ?_)))
 have t1:(bif decide (a<1) then true else decide (b<1))=false:=by
  rw[decide_eq_false o_,decide_eq_false o_];rfl
 refine zaf rfl (λhc=>?_) (λ_=>?_)
 .have hc:(bif decide (a<1) then true else decide (b<1))=true:=hc;rw[t1]at hc;cases hc
 apply zah;have hg:0<jA b.toNat a.toNat:=w9 _ o_;have hq:a.tdiv ((jA b.toNat a.toNat:Nat):Int)=((a.toNat/jA b.toNat a.toNat:Nat):Int):=by
  conv=>lhs;rw[<-qh (by omega:0<=a)]
  exact g9 ..
 have x2:a.toNat/jA b.toNat a.toNat<=a.toNat:=Nat.div_le_self ..;have x0:a.toNat/jA b.toNat a.toNat<=1000:=o_;have q1:((jA b.toNat a.toNat:Nat):Int)≠0:=o_;have q2:inR .i64 (a.tdiv ((jA b.toNat a.toNat:Nat):Int)):=by rw[hq];generalize a.toNat/jA b.toNat a.toNat=z at x0;exact zad o_ o_
 have x1:a<=1000000000000000:=o_;have x3:b<=1000000000000000:=o_;refine za (za (zaa ziP ?_));refine zak (Y':=⟨[(0,⟨i64,a⟩),(1,⟨i64,b⟩),(6,⟨i64,((a.toNat/jA b.toNat a.toNat:Nat):Int)⟩)],[],0⟩) ⟨⟨rfl,rfl,vI64 hq,t_⟩,t_,rfl,rfl⟩ ?_;have hd:(1099511627776:Int).tdiv b=((1099511627776/b.toNat:Nat):Int):=by
  conv=>lhs;rw[<-qh (by omega:0<=b)]
  exact g9 ..
 have x6:1099511627776/1000<=1099511627776/b.toNat:=Nat.div_le_div_left o_ o_;have x4:1099511627776/b.toNat<=1099511627776:=Nat.div_le_self ..;have q4:inR .i64 ((1099511627776:Int).tdiv b):=by rw[hd];exact zad o_ o_
 refine za (za (zaa ziP ?_));refine zaf rfl (λhc=>?_) (λ_=>?_)
 .have hc:decide (((a.toNat/jA b.toNat a.toNat:Nat):Int)>(1099511627776:Int).tdiv b)=true:=hc;have hc:=of_decide_eq_true hc;rw[hd]at hc;omega
 apply zah;have hm:((a.toNat/jA b.toNat a.toNat:Nat):Int)*b=((vP a.toNat b.toNat:Nat):Int):=by
  rw[<-zr3 (x:=a.toNat) (y:=b.toNat) o_,Int.natCast_mul,qh (by omega:0<=b)]
 have x5:vP a.toNat b.toNat<=1000000:=by
  rw[<-zr3 (x:=a.toNat) (y:=b.toNat) o_];exact Nat.mul_le_mul (by omega:_<=1000) (by omega:b.toNat<=1000)
 have q5:inR .i64 (((a.toNat/jA b.toNat a.toNat:Nat):Int)*b):=by rw[hm];exact zad o_ o_
 refine za (za (zaa ziP ?_));refine zp ⟨.inr rfl,D2 ?_⟩;show(((a.toNat/jA b.toNat a.toNat:Nat):Int)*b,(0:Int),())=(((vP a.toNat b.toNat:Nat):Int),(0:Int),());rw[hm]
abbrev Lr:=Int×Int×Bool×Unit
def ziF(r:Lr):Bool:=decide (r.1<1)||decide (r.1>400)||decide (r.2.1<0)||decide (r.2.1>=r.1)
def perS(y:Nat):List Lr->Int×Bool
 | []=>((y:Int),true)
 |r::l=>if ziF r=true then(0,false) else if 400<vP y r.1.toNat then(0,false) else perS (vP y r.1.toNat) l
def cPer:Ctr:={ args:=[.slice lru],pre:=λ_=>[],res:=.tup i64 (.tup .bool .unit),own:=none,out:=λx=>((perS 1 x.1).1,(perS 1 x.1).2,()) }
def kPer:Kn:={ gmK with C:=[(113,cLcm)] }
theorem zdg:KnOk zb gmH kPer:=zaj.with (.cons zzr .nil)
def zLr:Lr:=(0,0,false,())
theorem zlY:yT zb gmH 76 cPer:=by
 refine ctr2 zdg Tryz.func76 Tryz.call76 ?_;rintro w0 X hX ⟨(l:List Lr),_⟩ hp;change AWP _ _ _ _ _ ⟨[(0,⟨.slice lru,l⟩)],[],0⟩ _;refine wg 0 rfl λhl=>?_;unfold maxLen at hl
 iterate 3 (refine za (za (zaa zdg ?_)))
 refine za (za ?_);refine xP (ι:=Nat×Nat) (λp=>⟨[(0,⟨.slice lru,l⟩),(4,⟨i64,(p.2:Int)⟩),(9,⟨.slice lru,l⟩),(10,⟨i64,((l.length:Nat):Int)⟩),(11,⟨i64,(p.1:Int)⟩)],[],0⟩) (λp=>p.1<=l.length/\(1<=p.2/\p.2<=400)/\perS 1 l=perS p.2 (l.drop p.1)) (λp=>l.length-p.1) (0,1) ⟨zk _,⟨by decide,by decide⟩,rfl⟩ ⟨⟨rfl,rfl,rfl,rfl,rfl,t_⟩,t_,rfl,rfl⟩ ?_;rintro ⟨k,y⟩ ⟨hk,hy,hr⟩;have hk:k<=l.length:=hk;have hy:1<=y/\y<=400:=hy;have hr:perS 1 l=perS y (l.drop k):=hr;refine za (za (zaa zdg ?_));apply zaq;refine zaU rfl (λhb=>?_) (λhb=>?_)
 .have hb:(k:Int)<(l.length:Nat):=hb;have x0:k<l.length:=o_;have n0:(0:Int)<=(k:Int):=o_;have x2:l.getD (k:Int).toNat zLr=l[k]:=zaY x0;rw[qf x0,perS, <-x2]at hr;refine za (za (zaa zdg ?_));generalize hG:l.getD (k:Int).toNat zLr=G at hr;obtain⟨(ev:Int),(rs:Int),(ye:Bool),⟨⟩⟩:=G;refine zak (Y':=⟨[(0,⟨.slice lru,l⟩),(4,⟨i64,(y:Int)⟩),(9,⟨.slice lru,l⟩),(10,⟨i64,((l.length:Nat):Int)⟩),(11,⟨i64,(k:Int)⟩),(6,⟨.optr lru,⟨0,lru,.here⟩⟩)],[(0,some (.box lru (ev,rs,ye,())))],1⟩) ⟨⟨rfl,rfl,rfl,rfl,rfl,rfl,t_⟩,⟨zgM hG,t_⟩,rfl,rfl⟩ ?_;refine za (za (zaa zdg ?_));have x1:ziF (ev,rs,ye,())=(bif (bif (bif decide (ev<1) then true else decide (ev>400)) then true else decide (rs<0)) then true else decide (rs>=ev)):=by
   unfold ziF;rw[b_or,b_or,b_or]
  refine zaf rfl (λhc=>?_) (λhc=>?_)
  .have hc:=x1.trans hc;(repeat refine za (za (zaa zdg ?_)));refine za ?_;refine zp ⟨.inr rfl,D2 ?_⟩;show((0:Int),false,())=((perS 1 l).1,(perS 1 l).2,());rw[hr,if_pos hc]
  have hc:=x1.trans hc;have hn:=hc;unfold ziF at hn;simp only[xY,decide_eq_false_iff_not]at hn;obtain⟨⟨⟨n1,n2⟩,n3⟩,n4⟩:=hn;have n1:¬ev<1:=n1;have n2:¬ev>400:=n2;apply zah;have l1:(1:Int)<=(y:Int):=o_;have l2:(y:Int)<=1000:=o_;have l3:1<=ev:=o_;have l4:ev<=1000:=o_;refine za (za (zaa zdg ?_));refine zak (Y':=⟨[(0,⟨.slice lru,l⟩),(4,⟨i64,(y:Int)⟩),(9,⟨.slice lru,l⟩),(10,⟨i64,((l.length:Nat):Int)⟩),(11,⟨i64,(k:Int)⟩),(7,⟨i64,((vP y ev.toNat:Nat):Int)⟩),(8,⟨i64,0⟩)],[],1⟩) ⟨⟨rfl,rfl,rfl,rfl,rfl,rfl,rfl,t_⟩,t_,rfl,rfl⟩ ?_;refine za (za (zaa zdg ?_));refine zaU rfl (λhd=>?_) (λhd=>?_)
  .have hd:((vP y ev.toNat:Nat):Int)>400:=hd;(repeat refine za (za (zaa zdg ?_)));refine za ?_;refine zp ⟨.inr rfl,D2 ?_⟩;show((0:Int),false,())=((perS 1 l).1,(perS 1 l).2,());rw[hr,if_neg (by rw[hc];decide),if_pos (by show 400<vP y ev.toNat;omega)]
  .have hd:¬(((vP y ev.toNat:Nat):Int)>400):=hd;have x3:0<vP y ev.toNat:=Nat.lcm_pos o_ o_;apply zah;refine za (za (zaa zdg ?_));refine za (za ?_);refine zac hX zdg rfl ?_ ?_
   .exact zbb o_
   refine⟨(k+1,vP y ev.toNat),⟨x0,⟨x3,by show vP y ev.toNat<=400;omega⟩,?_⟩,by show l.length-(k+1)<l.length-k;omega,⟨rfl,rfl,rfl,rfl,zdU _,t_⟩,t_,rfl,rfl⟩;rw[hr,if_neg (by rw[hc];decide),if_neg (by show ¬400<vP y ev.toNat;omega)]
 .
  have:k=l.length:=o_;subst this;rw[kF,perS]at hr;(repeat refine za (za (zaa zdg ?_)));refine za ?_;refine zp ⟨.inr rfl,D2 ?_⟩;show((y:Int),true,())=((perS 1 l).1,(perS 1 l).2,());rw[hr]
theorem znf(c:UInt8):isLt c=((decide (97<=(c.toNat:Int))&&decide ((c.toNat:Int)<=122))||(decide (65<=(c.toNat:Int))&&decide ((c.toNat:Int)<=90))):=by
 have h:∀n:Fin 256,(isLt (yR n.val)==((decide (97<=((yR n.val).toNat:Int))&&decide (((yR n.val).toNat:Int)<=122))||(decide (65<=((yR n.val).toNat:Int))&&decide (((yR n.val).toNat:Int)<=90))))=true:=by decide+kernel
 have:=h ⟨c.toNat,c.toNat_lt⟩;rw[wU]at this;exact beq_iff_eq.1 this
theorem zqk(s:ByteArray)(pos:Nat)(h:pos<s.size):1<=(fb s pos).2:=by
 by_cases ha:(s[pos]'h).toNat<128
 .rw[decode_ascii s pos h ha];exact zj _
 .exact(decode_high s pos h o_).2
def LtR(c:Int):Prop:=(97<=c/\c<=122)\/(65<=c/\c<=90)
def DgR(c:Int):Prop:=(48<=c/\c<=57)\/c=45
theorem zrv{l:List UInt8}{pos c wd:Nat}(hp:pos<l.length)(x0:(l[pos].toNat<128/\(c,wd)=(l[pos].toNat,1))\/(128<=l[pos].toNat/\128<=c))(x3:0<pos->l.head?.all isLt=true)(x1:(l.take pos).all isPt=true)
  (h:LtR c\/(pos≠0/\DgR c)):wd=1/\l.head?.all isLt=true/\(l.take (pos+1)).all isPt=true:=by
 unfold LtR DgR at h;rcases x0 with ⟨h1,e⟩|⟨h1,e⟩
 .have e1:=congrArg (λx=>x.1) e;have e2:=congrArg (λx=>x.2) e;have x2:isPt l[pos]=true:=by
   unfold isPt;rw[znf];rcases h with h|⟨_,h|h⟩
   .have:((decide (97<=(l[pos].toNat:Int))&&decide ((l[pos].toNat:Int)<=122))||(decide (65<=(l[pos].toNat:Int))&&decide ((l[pos].toNat:Int)<=90)))=true:=by
     simp only[yW,zf,decide_eq_true_iff];omega
    rw[this];rfl
   .have:isDg l[pos]=true:=by
     unfold isDg;rw[zf,decide_eq_true_iff,decide_eq_true_iff,qu,qu];exact⟨by show 48<=_;omega,by show _<=57;omega⟩
    rw[this,jM];rfl
   .have:l[pos]=45:=UInt8.toNat_inj.1 (by show _=45;omega);rw[this];rfl
  refine⟨e2,?_,?_⟩
  .by_cases h0:pos=0
   .subst h0;have hl:isLt l[0]=true:=by
     rw[znf];simp only[yW,zf,decide_eq_true_iff];omega
    cases l with
    |nil=>rfl
    |cons a q=>exact hl
   .exact x3 o_
  .rw[zS hp,List.all_append,x1,List.all_cons,x2];rfl
 .omega
theorem zug{l:List UInt8}{pos c wd:Nat}(hp:pos<l.length)(x0:(l[pos].toNat<128/\(c,wd)=(l[pos].toNat,1))\/(128<=l[pos].toNat/\128<=c))(h:¬(LtR c\/(pos≠0/\DgR c))):zfI l=false:=by
 unfold LtR DgR at h;have x1:isLt l[pos]=false:=by
  rw[znf];simp only[xY,vw,decide_eq_false_iff_not];rcases x0 with ⟨h1,e⟩|⟨h1,e⟩
  .have e1:c=l[pos].toNat:=congrArg (λx=>x.1) e;omega
  .omega
 unfold zfI;by_cases h0:pos=0
 .subst h0;cases l with
  |nil=>exact absurd hp (Nat.not_lt_zero _)
  |cons a q=>
   have x1:isLt a=false:=x1;show(_&&_&&(isLt a&&_))=false;rw[x1,wC,jP]
 .have x2:isPt l[pos]=false:=by
   unfold isPt;have hd:isDg l[pos]=false:=by
    unfold isDg;rw[vw,decide_eq_false_iff_not,decide_eq_false_iff_not,qu,qu];show ¬48<=_\/¬_<=57;rcases x0 with ⟨h1,e⟩|⟨h1,e⟩
    .have e1:c=l[pos].toNat:=congrArg (λx=>x.1) e;omega
    .omega
   have x3:(l[pos]==45)=false:=by
    rw[beq_eq_false_iff_ne];intro e2;have e3:l[pos].toNat=45:=by rw[e2];rfl
    rcases x0 with ⟨h1,e⟩|⟨h1,e⟩
    .have e1:c=l[pos].toNat:=congrArg (λx=>x.1) e;omega
    .omega
   rw[x1,hd,x3];rfl
  have:l.all isPt=false:=by
   rw[List.all_eq_false];exact⟨l[pos],xN hp,by rw[x2];decide⟩
  rw[this,jP,jP]
set_option maxHeartbeats 2000000 in
theorem znb(l:List UInt8)(w:zh):Calls zb 71 #[.string ⟨l.toArray⟩] w λe w'=>e=.returned (.bool (zfI l))/\∃pos,w'=w.iter ⟨l.toArray⟩ pos:=by
 go_enter Tryz.func71,Tryz.ntmps71
 go_wp2
 go_loopw [] (λw'=>∃(pos:Nat),w'=w.iter ⟨l.toArray⟩ pos/\pos<=l.length/\(0<pos->l.head?.all isLt=true)/\(l.take pos).all isPt=true) (λw'=>l.length-w'.iterPos w.heap.size)
 case atStart=>exact⟨0,rfl,zk _,λh=>absurd h d_,rfl⟩
 case round=>
  obtain⟨pos,rfl,xb,xa,x3⟩:=hrel;have xf:(⟨l.toArray⟩:ByteArray).size=l.length:=by simp[ByteArray.size]
  by_cases hp:pos<(⟨l.toArray⟩:ByteArray).size
  .have x5:∀ty,(Instr.next (.pointer (some ⟨w.heap.size,0,none⟩)) true ty).run zb (w.iter ⟨l.toArray⟩ pos)=_:=λty=>run_next_any w _ pos ty hp;have x9:=zqk _ pos hp;have x8:l[pos]'o_=(⟨l.toArray⟩:ByteArray)[pos]'hp:=rfl;have x2:((l[pos]'o_).toNat<128/\fb ⟨l.toArray⟩ pos=((l[pos]'o_).toNat,1))\/(128<=(l[pos]'o_).toNat/\128<=(fb ⟨l.toArray⟩ pos).1):=by
    by_cases ha:(l[pos]'o_).toNat<128
    .exact .inl ⟨ha,decode_ascii _ pos hp ha⟩
    .exact .inr ⟨by omega,(decode_high _ pos hp (by rw[<-x8];omega)).1⟩
   generalize fb ⟨l.toArray⟩ pos=dc at x5 x9 x2;obtain⟨c,wd⟩:=dc;simp only[]at x5 x9 x2;generalize xd:((c:Nat):Int)=ci at x5;have hlen:pos<l.length:=o_;have x1:=zrv hlen x2 xa x3;have x4:=zug hlen x2;rw[xd]at x1 x4;by_cases x0:LtR ci\/(pos≠0/\DgR ci)
   .obtain⟨e1,e2,e3⟩:=x1 x0;clear x1 x4 x2 x8;unfold LtR DgR at x0
    go_wp2
    all_goals (first
     |(exfalso
       clear x5;simp only[zL,qM,decide_eq_false_iff_not,decide_eq_true_eq,beq_iff_eq,beq_eq_false_iff_ne]at *;omega)
     |(go_roundw
       case rel=>exact⟨pos+1,by simp[*],by omega,λ_=>e2,e3⟩
       case measure=>(simp[*];omega)))
   .have xe:=x4 x0;unfold LtR DgR at x0
    go_wp2
    all_goals (first
     |(exfalso
       clear x5;simp only[zL,qM,decide_eq_false_iff_not,decide_eq_true_eq,beq_iff_eq,beq_eq_false_iff_ne]at *;omega)
     |(go_ret
       refine⟨?_,_,rfl⟩
       first|rfl|(rw[xe];rfl)|(simp[*];done)))
  .have x5:∀ty,(Instr.next (.pointer (some ⟨w.heap.size,0,none⟩)) true ty).run zb (w.iter ⟨l.toArray⟩ pos)=_:=λty=>run_next_end w _ pos ty hp;have x7:zfI l=(decide (l≠ [])&&decide (l.length<=32)):=by
    have xc:pos=l.length:=o_;subst xc;rw[xR]at x3;have hh:l.head?.all isLt=true:=by
     cases l with
     |nil=>rfl
     |cons a q=>exact xa (Nat.zero_lt_succ _)
    unfold zfI;rw[hh,x3];simp
   go_wp2
   all_goals (
    rename_i x6
    go_ret
    refine⟨?_,pos,by simp[x6]⟩;rw[x7]
    first
    |(simp[x6];done)
    |(cases l with
      |nil=>exact absurd rfl x6
      |cons a q=>(simp;try omega)))
def zzY:Ctr:={ args:=[.str],pre:=λ_=>[],res:=.bool,own:=none,out:=λx=>zfI x.1 }
theorem zrw:yT zb gmH 71 zzY:=by
 refine⟨Tryz.call71,λw O xs vs hO hr hp hG=>?_⟩;obtain⟨l,_⟩:=xs;obtain⟨v1,r1,rfl,e1,rfl⟩:=hr;obtain⟨e1,_⟩:=e1;cases e1;refine(znb l w).mono ?_;rintro e w' ⟨rfl,pos,rfl⟩;exact⟨_,rfl,zbg w _,λU=>rfl⟩
theorem zll{u:List Int}{B:Int}(h:∀k:Nat,0<=u.getD k 0/\u.getD k 0<=B)(j:Int):∀k:Nat,0<=(bump u j).getD k 0/\(bump u j).getD k 0<=B+1:=λk=>by
 unfold bump;rw[zu,pr];have h1:=h k;have h2:=h j.toNat;rw[zu]at h1;split
 .split
  .show 0<=u.getD j.toNat 0+1/\u.getD j.toNat 0+1<=B+1;omega
  .show(0:Int)<=0/\(0:Int)<=B+1;omega
 .omega
theorem zqm{u:List Int}{n:Nd}{B:Int}(h:∀k:Nat,0<=u.getD k 0/\u.getD k 0<=B)(k:Nat):0<=(zbI u n).getD k 0/\(zbI u n).getD k 0<=B+2:=by
 unfold zbI;cases decide (1<opsN n) with
 |true=>
  have:=zll (zll h (ndL n)) (ndR n) k;rw[cond_true];omega
 |false=>
  cases decide (0<opsN n) with
  |true=>
   have:=zll h (ndL n) k;rw[cond_false,cond_true];omega
  |false=>
   have:=h k;rw[cond_false,cond_false];omega
theorem zn5(r:List Nd):∀(i:Nat),i<=r.length->∀k:Nat,0<=(zce r i).getD k 0/\(zce r i).getD k 0<=2*(i:Int)
 |0,_,k=>by rw[zmU];omega
 |i+1,hi,k=>by
  rw[zcV o_];have:=zqm (n:=zar r i) (zn5 r i o_) k;omega
def zdr(u:List Int)(n:Nd):Nat->List Int
 |0=>u
 |1=>if 0<opsN n then bump u (ndL n) else u
 |_=>zbI u n
def opdJ(n:Nd)(i:Int):Nat->Bool
 |0=>true
 |1=>(bif decide (0<opsN n) then inB (ndL n) 0 (i-1) else(ndL n==0)||(ndK n==7))
 |_=>zeX n i
theorem zqn{u:List Int}{n:Nd}{B:Int}(h:∀k:Nat,0<=u.getD k 0/\u.getD k 0<=B)(k:Nat):0<=(zdr u n 1).getD k 0/\(zdr u n 1).getD k 0<=B+1:=by
 show 0<=(if 0<opsN n then bump u (ndL n) else u).getD k 0/\(if 0<opsN n then bump u (ndL n) else u).getD k 0<=B+1;by_cases e:0<opsN n
 .rw[if_pos e];exact zll h _ k
 .rw[if_neg e];have:=h k;omega
theorem zpo(u:List Int)(n:Nd):(zdr u n 1).length=u.length:=by
 show(if 0<opsN n then bump u (ndL n) else u).length=u.length;by_cases e:0<opsN n
 .rw[if_pos e];exact zeF _ _
 .rw[if_neg e]
def cWf:Ctr:={ args:=[.slice nd],pre:=λ_=>[],res:=.bool,own:=none,out:=λx=>wfS x.1 }
def kWf:Kn:={ gmK with C:=[(70,zbt),(41,zlj),(71,zzY),(72,zsY),(73,zzW),(74,zAh)] }
theorem zbc:KnOk zb gmH kWf:=zaj.with (.cons zlx<|.cons zii<|.cons zrw<|.cons zrP<|.cons zw2<|.cons zyz .nil)
theorem zn3{r:List Nd}{i:Nat}(hi:i<r.length)(h:zc7 (zar r i) (i:Int)=false):wfS r=false:=by
 have:zdf r r.length=false:=by
  rw[vL];intro e;have:=zev.1 e i hi;rw[<-zg3,h]at this;cases this
 unfold wfS;rw[this,jP,wC]
theorem zlz{r:List Nd}{i:Nat}(hi:i<r.length)(h:zaW (zar r i)=false):wfS r=false:=zn3 hi (by unfold zc7;rw[h];rfl)
theorem zly{r:List Nd}{i:Nat}(hi:i<r.length)(h:zeX (zar r i) (i:Int)=false):wfS r=false:=zn3 hi (by unfold zc7;rw[h,jP])
theorem zwN{k:Int}(h:1<=k/\k<=18):(zdV k).1=0\/(zdV k).1=1\/(zdV k).1=2:=by
 rcases (show k=1\/k=2\/k=3\/k=4\/k=5\/k=6\/k=7\/k=8\/k=9\/k=10\/k=11\/k=12\/k=13\/k=14\/k=15\/k=16\/k=17\/k=18 by omega) with rfl|rfl|rfl|rfl|rfl|rfl|rfl|rfl|rfl|rfl|rfl|rfl|rfl|rfl|rfl|rfl|rfl|rfl<;>decide
theorem zn4{u:List Int}{n:Nd}(h:opsN n=0\/opsN n=1\/opsN n=2):(if 1<opsN n then bump (zdr u n 1) (ndR n) else zdr u n 1)=zdr u n 2:=by
 show _=zbI u n;unfold zbI zdr;rcases h with h|h|h<;>rw[h]<;>rfl
theorem bufI{te:zo}{x y:List Int}(h:x=y):some (OObj.buf te i64 x)=some (OObj.buf te i64 y):=by rw[h]
set_option maxHeartbeats 1000000 in
theorem zAw:yT zb gmH 39 cWf:=by
 refine ctr2 zbc Tryz.func39 Tryz.call39 ?_;rintro w0 X hX ⟨(r:List Nd),_⟩ hp;change AWP _ _ _ _ _ ⟨[(0,⟨.slice nd,r⟩)],[],0⟩ _;refine wg 0 rfl λhl=>?_;unfold maxLen at hl
 iterate 2 (refine za (za (zaa zbc ?_)))
 refine zaf rfl (λhb=>?_) (λhb=>?_)
 .have hb:(bif decide (((r.length:Nat):Int)<1) then true else decide (((r.length:Nat):Int)>64))=true:=hb;rw[b_or,yW,decide_eq_true_iff,decide_eq_true_iff]at hb;(repeat refine za (za (zaa zbc ?_)));refine za ?_;refine zp ⟨.inr rfl,D1 ?_⟩;show false=wfS r;unfold wfS;rcases hb with hb|hb
  .rw[decide_eq_false (by omega:¬1<=r.length)];rfl
  .rw[decide_eq_false (by omega:¬r.length<=64),jP,wC,wC]
 rw[b_or,xY,decide_eq_false_iff_not,decide_eq_false_iff_not]at hb;obtain⟨xi,xg⟩:=hb;apply zah;refine za (za (zaa zbc ?_));have m1:((r.length:Nat):Int)<=1000000000:=o_
 iterate 2 (refine za (za (zaa zbc ?_)))
 refine za (za ?_);refine xP (ι:=Nat) (λi=>⟨[(0,⟨.slice nd,r⟩),(3,⟨.optr (.arr 19 shp),⟨0,.arr 19 shp,.here⟩⟩),(4,⟨.obuf i64,(1:Nat)⟩),(24,⟨.slice nd,r⟩),(25,⟨i64,((r.length:Nat):Int)⟩),(26,⟨i64,(i:Int)⟩)],[(0,some (.box (.arr 19 shp) zbK)),(1,some (.buf 3 i64 (zce r i)))],2⟩) (λi=>i<=r.length/\zdf r i=true) (λi=>r.length-i) 0 ⟨zk _,rfl⟩ ⟨⟨rfl,rfl,rfl,rfl,rfl,rfl,t_⟩,⟨rfl,bufI (by show zr (((r.length:Nat):Int)).toNat (0:Int)=_;rw[zH];rfl),t_⟩,rfl,rfl⟩ ?_;rintro i ⟨hi,hn⟩;refine za (za (zaa zbc ?_));apply zaq;refine zaU rfl (λhb=>?_) (λhb=>?_)
 .
  have x3:i<r.length:=o_;have n0:(0:Int)<=(i:Int):=o_;have x8:=zn5 r i hi;have x5:=zc5 r i;have xb:=zcV x3;have xc:zdf r (i+1)=(zdf r i&&zc7 (zar r i) (i:Int)):=rfl;have xd:=zlz x3;have x4:=zly x3;rw[hn,Bool.true_and]at xc;refine za (za (zaa zbc ?_));refine zak (Y':=⟨[(0,⟨.slice nd,r⟩),(3,⟨.optr (.arr 19 shp),⟨0,.arr 19 shp,.here⟩⟩),(4,⟨.obuf i64,(1:Nat)⟩),(24,⟨.slice nd,r⟩),(25,⟨i64,((r.length:Nat):Int)⟩),(26,⟨i64,(i:Int)⟩),(5,⟨i64,(i:Int)⟩),(6,⟨.optr nd,⟨2,nd,.here⟩⟩)],[(0,some (.box (.arr 19 shp) zbK)),(1,some (.buf 3 i64 (zce r i))),(2,some (.box nd (zar r i)))],3⟩) ⟨⟨rfl,rfl,rfl,rfl,rfl,rfl,rfl,rfl,t_⟩,⟨rfl,rfl,rfl,t_⟩,rfl,rfl⟩ ?_;generalize xh:zar r i=n at *;generalize zce r i=u at *;refine za (za (zaa zbc ?_));have x2:(bif !inB (ndK n) 1 18 then true else decide (((ndI n).length:Int)>64))= !(inB (ndK n) 1 18&&decide ((ndI n).length<=64)):=by
   have:decide (((ndI n).length:Int)>64)= !decide ((ndI n).length<=64):=by
    rw[<-decide_not,decide_eq_decide];omega
   rw[this];cases inB (ndK n) 1 18<;>cases decide ((ndI n).length<=64)<;>rfl
  refine zaf rfl (λhc=>?_) (λhc=>?_)
  .have hc:=x2.symm.trans hc;rw[zL]at hc;(repeat refine za (za (zaa zbc ?_)));refine za ?_;refine zp ⟨.inr rfl,D1 ?_⟩;show false=wfS r;rw[xd (by unfold zaW;rw[hc];rfl)]
  have hc:=x2.symm.trans hc;rw[qM,zf,zaF,decide_eq_true_iff]at hc;obtain⟨⟨k1,k2⟩,xa⟩:=hc;apply zah;have t0:(0:Int)<=ndK n:=o_;have t1:ndK n<((19:Nat):Int):=o_;have t2:(ndK n).toNat<19:=o_;refine za (za (zaa zbc ?_));have x0:=zwN ⟨k1,k2⟩;refine za (za (zaa zbc ?_));(repeat(first|apply zaq|apply zah|apply zay|apply zaw));refine vM hX 49 ?_;refine xP (ι:=Nat) (λj=>⟨[(0,⟨.slice nd,r⟩),(3,⟨.optr (.arr 19 shp),⟨0,.arr 19 shp,.here⟩⟩),(4,⟨.obuf i64,(1:Nat)⟩),(24,⟨.slice nd,r⟩),(25,⟨i64,((r.length:Nat):Int)⟩),(26,⟨i64,(i:Int)⟩),(5,⟨i64,(i:Int)⟩),(6,⟨.optr nd,⟨2,nd,.here⟩⟩),(7,⟨.optr shp,⟨3,shp,.here⟩⟩),(49,⟨.slice i64,[ndL n,ndR n]⟩),(50,⟨i64,(2:Int)⟩),(51,⟨i64,(j:Int)⟩)],[(0,some (.box (.arr 19 shp) zbK)),(1,some (.buf 3 i64 (zdr u n j))),(2,some (.box nd n)),(3,some (.box shp (zdV (ndK n))))],4⟩) (λj=>j<=2/\opdJ n i j=true) (λj=>2-j) 0 ⟨by decide,rfl⟩ ⟨⟨rfl,rfl,rfl,rfl,rfl,rfl,rfl,rfl,rfl,rfl,rfl,rfl,t_⟩,⟨rfl,rfl,rfl,rfl,t_⟩,rfl,rfl⟩ ?_
  .rintro j ⟨hj,x7⟩;refine za (za (zaa zbc ?_));apply zaq;refine zaU rfl (λhb=>?_) (λhb=>?_)
   .have hb:(j:Int)<2:=hb;rcases (show j=0\/j=1 by omega) with rfl|rfl
    .have u0:(0:Int)<=((0:Nat):Int):=o_;have u1:((0:Nat):Int)<(([ndL n,ndR n].length:Nat):Int):=by show((0:Nat):Int)<((2:Nat):Int);omega
     refine za (za (zaa zbc ?_));apply zay;refine za (za (zaa zbc ?_));refine zaU rfl (λhd=>?_) (λhd=>?_)
     .have hd:((0:Nat):Int)<opsN n:=hd;have i1:inR .i64 ((i:Int)-1):=zad o_ o_;refine za (za (zaa zbc ?_));refine zaf rfl (λhe=>?_) (λhe=>?_)
      .have he:(!inB (ndL n) 0 ((i:Int)-1))=true:=he;rw[zL]at he;(repeat refine za (za (zaa zbc ?_)));refine za ?_;refine zp ⟨.inr rfl,D1 ?_⟩;show false=wfS r;rw[x4 (by unfold zeX;rw[decide_eq_true (show 0<opsN n from hd),cond_true,he];rfl)]
      have he:(!inB (ndL n) 0 ((i:Int)-1))=false:=he;rw[qM,zaF]at he;obtain⟨p0,p1⟩:=he;have x6:∀k:Nat,0<=(zdr u n 0).getD k 0/\(zdr u n 0).getD k 0<=200:=λk=>by
       have:=x8 k;show 0<=u.getD k 0/\u.getD k 0<=200;omega
      have x1:(zdr u n 0).length=r.length:=by exact x5
      have xe:=x6 (ndL n).toNat;have p2:ndL n<(((zdr u n 0).length:Nat):Int):=by rw[x1];omega
      have p4:(ndL n).toNat<(zdr u n 0).length:=by rw[x1];omega
      have p3:inR .i64 ((zdr u n 0).getD (ndL n).toNat 0+1):=zad o_ o_;apply zah
      iterate 2 (refine za (za (zaa zbc ?_)))
      refine⟨1,⟨by omega,?_⟩,by decide,⟨rfl,rfl,rfl,rfl,rfl,rfl,rfl,rfl,rfl,rfl,rfl,rfl,t_⟩,⟨rfl,bufI ?_,rfl,rfl,t_⟩,rfl,rfl⟩
      .show(bif decide (0<opsN n) then inB (ndL n) 0 ((i:Int)-1) else _)=true;rw[decide_eq_true (show 0<opsN n from hd),cond_true,zaF];exact⟨p0,p1⟩
      .
       show _=if 0<opsN n then bump u (ndL n) else u
       rw[if_pos (show 0<opsN n from hd)];rfl
     .have hd:¬(((0:Nat):Int)<opsN n):=hd;refine za (za (zaa zbc ?_));refine zaf rfl (λhe=>?_) (λhe=>?_)
      .have he:(bif (ndL n != 0) then !(bif (((0:Nat):Int)==0) then(ndK n==7) else false) else false)=true:=he;(repeat refine za (za (zaa zbc ?_)));refine za ?_;refine zp ⟨.inr rfl,D1 ?_⟩;show false=wfS r;refine(x4 ?_).symm;unfold zeX;rw[decide_eq_false (show ¬0<opsN n from hd),cond_false];revert he;unfold bne;cases (ndL n==0)<;>cases (ndK n==7)<;>intro he<;>first|rfl|cases he
      have he:(bif (ndL n != 0) then !(bif (((0:Nat):Int)==0) then(ndK n==7) else false) else false)=false:=he;apply zah;refine za (za (zaa zbc ?_));refine⟨1,⟨by omega,?_⟩,by decide,⟨rfl,rfl,rfl,rfl,rfl,rfl,rfl,rfl,rfl,rfl,rfl,rfl,t_⟩,⟨rfl,bufI ?_,rfl,rfl,t_⟩,rfl,rfl⟩
      .show(bif decide (0<opsN n) then _ else(ndL n==0)||(ndK n==7))=true;rw[decide_eq_false (show ¬0<opsN n from hd),cond_false];revert he;unfold bne;cases (ndL n==0)<;>cases (ndK n==7)<;>intro he<;>first|rfl|cases he
      .show zdr u n 0=zdr u n 1;show u=if 0<opsN n then bump u (ndL n) else u
       rw[if_neg (show ¬0<opsN n from hd)]
    .have u0:(0:Int)<=((1:Nat):Int):=o_;have u1:((1:Nat):Int)<(([ndL n,ndR n].length:Nat):Int):=by show((1:Nat):Int)<((2:Nat):Int);omega
     refine za (za (zaa zbc ?_));apply zay;refine za (za (zaa zbc ?_));refine zaU rfl (λhd=>?_) (λhd=>?_)
     .have hd:((1:Nat):Int)<opsN n:=hd;have i1:inR .i64 ((i:Int)-1):=zad o_ o_;refine za (za (zaa zbc ?_));refine zaf rfl (λhe=>?_) (λhe=>?_)
      .have he:(!inB (ndR n) 0 ((i:Int)-1))=true:=he;rw[zL]at he;(repeat refine za (za (zaa zbc ?_)));refine za ?_;refine zp ⟨.inr rfl,D1 ?_⟩;show false=wfS r;rw[x4 (by unfold zeX;rw[decide_eq_true (show 1<opsN n from hd),cond_true,he];rw[jP])]
      have he:(!inB (ndR n) 0 ((i:Int)-1))=false:=he;rw[qM,zaF]at he;obtain⟨p0,p1⟩:=he;have x6:∀k:Nat,0<=(zdr u n 1).getD k 0/\(zdr u n 1).getD k 0<=200:=λk=>by
       have:=zqn (n:=n) x8 k;omega
      have x1:(zdr u n 1).length=r.length:=by rw[<-x5];exact zpo u n
      have xe:=x6 (ndR n).toNat;have p2:ndR n<(((zdr u n 1).length:Nat):Int):=by rw[x1];omega
      have p4:(ndR n).toNat<(zdr u n 1).length:=by rw[x1];omega
      have p3:inR .i64 ((zdr u n 1).getD (ndR n).toNat 0+1):=zad o_ o_;apply zah
      iterate 2 (refine za (za (zaa zbc ?_)))
      refine⟨2,⟨by omega,?_⟩,by decide,⟨rfl,rfl,rfl,rfl,rfl,rfl,rfl,rfl,rfl,rfl,rfl,rfl,t_⟩,⟨rfl,bufI ?_,rfl,rfl,t_⟩,rfl,rfl⟩
      .show(_&&(bif decide (1<opsN n) then inB (ndR n) 0 ((i:Int)-1) else _))=true;rw[decide_eq_true (show 1<opsN n from hd),cond_true,zaF.2 ⟨p0,p1⟩,Bool.and_true];exact x7
      .show bump (zdr u n 1) (ndR n)=zdr u n 2;rw[<-zn4 x0,if_pos (show 1<opsN n from hd)]
     .
      refine za (za (zaa zbc ?_));refine zaf rfl (λhe=>?_) (λhe=>?_)
      .have he:(bif (ndR n != 0) then !(bif (((1:Nat):Int)==0) then(ndK n==7) else false) else false)=true:=he;(repeat refine za (za (zaa zbc ?_)));refine za ?_;refine zp ⟨.inr rfl,D1 ?_⟩;show false=wfS r;refine(x4 ?_).symm;unfold zeX;rw[decide_eq_false (show ¬1<opsN n from hd),cond_false];revert he;unfold bne;cases (ndR n==0)<;>intro he<;>first|(rw[jP])|cases he
      have he:(bif (ndR n != 0) then !(bif (((1:Nat):Int)==0) then(ndK n==7) else false) else false)=false:=he;apply zah;refine za (za (zaa zbc ?_));refine⟨2,⟨by omega,?_⟩,by decide,⟨rfl,rfl,rfl,rfl,rfl,rfl,rfl,rfl,rfl,rfl,rfl,rfl,t_⟩,⟨rfl,bufI ?_,rfl,rfl,t_⟩,rfl,rfl⟩
      .show(_&&(bif decide (1<opsN n) then _ else ndR n==0))=true;rw[decide_eq_false (show ¬1<opsN n from hd),cond_false];have h2:(ndR n==0)=true:=by revert he;unfold bne;cases (ndR n==0)<;>intro he<;>first|rfl|cases he
       rw[h2,Bool.and_true];exact x7
      .
       rw[<-zn4 x0,if_neg (show ¬1<opsN n from hd)]
   .have hb:¬((j:Int)<2):=hb;obtain rfl:j=2:=o_;have x9:zeX n (i:Int)=true:=x7;apply zaw;refine zak (Y':=⟨[(0,⟨.slice nd,r⟩),(3,⟨.optr (.arr 19 shp),⟨0,.arr 19 shp,.here⟩⟩),(4,⟨.obuf i64,(1:Nat)⟩),(24,⟨.slice nd,r⟩),(25,⟨i64,((r.length:Nat):Int)⟩),(26,⟨i64,(i:Int)⟩),(5,⟨i64,(i:Int)⟩),(6,⟨.optr nd,⟨2,nd,.here⟩⟩),(7,⟨.optr shp,⟨3,shp,.here⟩⟩)],[(0,some (.box (.arr 19 shp) zbK)),(1,some (.buf 3 i64 (zbI u n))),(2,some (.box nd n)),(3,some (.box shp (zdV (ndK n))))],4⟩) ⟨⟨rfl,rfl,rfl,rfl,rfl,rfl,rfl,rfl,rfl,t_⟩,⟨rfl,rfl,rfl,rfl,t_⟩,rfl,rfl⟩ ?_;clear x8 x5;have xj:u.length=u.length:=rfl;generalize zbI u n=u' at xb;(repeat(first|apply zaq|apply zah|apply zay|apply zaw));refine zlu (Y':=⟨[(0,⟨.slice nd,r⟩),(3,⟨.optr (.arr 19 shp),⟨0,.arr 19 shp,.here⟩⟩),(4,⟨.obuf i64,(1:Nat)⟩),(24,⟨.slice nd,r⟩),(25,⟨i64,((r.length:Nat):Int)⟩),(26,⟨i64,(i:Int)⟩),(5,⟨i64,(i:Int)⟩),(6,⟨.optr nd,⟨2,nd,.here⟩⟩),(7,⟨.optr shp,⟨3,shp,.here⟩⟩),(10,⟨.bool,ndC n==0⟩),(11,⟨.bool,decide (ndS n=[])⟩)],[(0,some (.box (.arr 19 shp) zbK)),(1,some (.buf 3 i64 (u'))),(2,some (.box nd n)),(3,some (.box shp (zdV (ndK n))))],4⟩) dM 8 rfl (by kernel_rfl) ?_ ?_
    .repeat'(first|exact AllN.nil|refine AllN.cons ⟨_,rfl,?_⟩ ?_|refine zX hX zbc rfl t_ ?_|(refine ve ?_;exact⟨rfl,⟨rfl,rfl,rfl,rfl,rfl,rfl,rfl,rfl,rfl,rfl,zcH zek,t_⟩,⟨rfl,rfl,rfl,rfl,t_⟩,rfl,rfl⟩))
    refine za (za (zaa zbc ?_));refine zbi (Y':=⟨[(0,⟨.slice nd,r⟩),(3,⟨.optr (.arr 19 shp),⟨0,.arr 19 shp,.here⟩⟩),(4,⟨.obuf i64,(1:Nat)⟩),(24,⟨.slice nd,r⟩),(25,⟨i64,((r.length:Nat):Int)⟩),(26,⟨i64,(i:Int)⟩),(5,⟨i64,(i:Int)⟩),(6,⟨.optr nd,⟨2,nd,.here⟩⟩),(7,⟨.optr shp,⟨3,shp,.here⟩⟩),(10,⟨.bool,zfi n⟩),(11,⟨.bool,decide (ndS n=[])⟩)],[(0,some (.box (.arr 19 shp) zbK)),(1,some (.buf 3 i64 (u'))),(2,some (.box nd n)),(3,some (.box shp (zdV (ndK n))))],4⟩) ?_ ?_
    .refine zaf rfl (λhd=>?_) (λhd=>?_)
     .have hd:(zdV (ndK n)).2.1=true:=hd;refine za (za (zaa zbc ?_));refine⟨⟨rfl,rfl,rfl,rfl,rfl,rfl,rfl,rfl,rfl,zcH ?_,rfl,t_⟩,⟨rfl,rfl,rfl,rfl,t_⟩,rfl,rfl⟩;unfold zfi;rw[hd];rfl
     .have hd:(zdV (ndK n)).2.1=false:=hd;apply zah;refine⟨⟨rfl,rfl,rfl,rfl,rfl,rfl,rfl,rfl,rfl,zcH ?_,rfl,t_⟩,⟨rfl,rfl,rfl,rfl,t_⟩,rfl,rfl⟩;unfold zfi;rw[hd];rfl
    refine za (za (zaa zbc ?_));refine zbi (Y':=⟨[(0,⟨.slice nd,r⟩),(3,⟨.optr (.arr 19 shp),⟨0,.arr 19 shp,.here⟩⟩),(4,⟨.obuf i64,(1:Nat)⟩),(24,⟨.slice nd,r⟩),(25,⟨i64,((r.length:Nat):Int)⟩),(26,⟨i64,(i:Int)⟩),(5,⟨i64,(i:Int)⟩),(6,⟨.optr nd,⟨2,nd,.here⟩⟩),(7,⟨.optr shp,⟨3,shp,.here⟩⟩),(10,⟨.bool,zfi n⟩),(11,⟨.bool,zjs n⟩)],[(0,some (.box (.arr 19 shp) zbK)),(1,some (.buf 3 i64 (u'))),(2,some (.box nd n)),(3,some (.box shp (zdV (ndK n))))],4⟩) ?_ ?_
    .refine zaf rfl (λhd=>?_) (λhd=>?_)
     .have hd:(ndK n==18)=true:=hd;refine za (za (zaa zbc ?_));refine⟨⟨rfl,rfl,rfl,rfl,rfl,rfl,rfl,rfl,rfl,rfl,zcH ?_,t_⟩,⟨rfl,rfl,rfl,rfl,t_⟩,rfl,rfl⟩;unfold zjs;rw[hd];rfl
     .have hd:(ndK n==18)=false:=hd;apply zah;refine⟨⟨rfl,rfl,rfl,rfl,rfl,rfl,rfl,rfl,rfl,rfl,zcH ?_,t_⟩,⟨rfl,rfl,rfl,rfl,t_⟩,rfl,rfl⟩;unfold zjs;rw[hd];rfl
    have xf:zaW n=(zfi n&&(zjs n&&(zaV (ndI n) (zdV (ndK n)).2.2.1&&zcw n))):=by
     unfold zaW;rw[zaF.2 ⟨k1,k2⟩,decide_eq_true xa];rfl
    refine za (za (zaa zbc ?_));have ht:(bif (bif (bif !zfi n then true else !zjs n) then true else !zaV (ndI n) (zdV (ndK n)).2.2.1) then true else !zcw n)= !zaW n:=by
     rw[xf];cases zfi n<;>cases zjs n<;>cases zaV (ndI n) (zdV (ndK n)).2.2.1<;>cases zcw n<;>rfl
    refine zaf rfl (λhd=>?_) (λhd=>?_)
    .have hd:=ht.symm.trans hd;rw[zL]at hd;(repeat refine za (za (zaa zbc ?_)));refine za ?_;refine zp ⟨.inr rfl,D1 ?_⟩;show false=wfS r;rw[xd hd]
    .have hd:=ht.symm.trans hd;rw[qM]at hd;apply zah;refine za (za ?_);refine zac hX zbc rfl ?_ ?_
     .exact zbb o_
     refine⟨i+1,⟨x3,?_⟩,by omega,⟨rfl,rfl,rfl,rfl,rfl,zdU _,t_⟩,⟨rfl,bufI xb.symm,t_⟩,rfl,rfl⟩;rw[xc];unfold zc7;rw[hd,x9];rfl
 .
  obtain rfl:i=r.length:=o_;have x5:=zc5 r r.length;apply zaw;refine vM hX 4 ?_;have i1:inR .i64 (((r.length:Nat):Int)-1):=zad o_ o_;have i2:=o_;have i3:((r.length:Nat):Int)-1<=(((zce r r.length).length:Nat):Int):=o_;refine za (za (zaa zbc ?_));refine zp ⟨.inr rfl,D1 ?_⟩;show(!((zce r r.length).take (((r.length:Nat):Int)-1).toNat).any not1)=wfS r;unfold wfS;rw[decide_eq_true o_,decide_eq_true o_,hn,show(((r.length:Nat):Int)-1).toNat=r.length-1 by omega];rfl
abbrev Cal:=Int×List Int×Int×List Lr×Unit
def zbv(c:Cal):Prop:=(0<=c.1/\c.1<=1048576)/\(1<=c.2.1.length/\c.2.1.length<=16)/\(-1<=c.2.2.1/\c.2.2.1<(c.2.1.length:Int))/\c.2.2.2.1.length<=16/\(c.2.2.1= -1->c.2.2.2.1=[])/\(∀m∈c.2.1,1<=m/\m<=40)/\(perS 1 c.2.2.2.1).2=true
def zs2:Ctr:={ args:=[cal],pre:=λx=>[zbv x.1],res:=.bool,own:=none,out:=λ_=>true }
def kCv:Kn:={ gmK with C:=[(76,cPer)] }
theorem zeI:KnOk zb gmH kCv:=zaj.with (.cons zlY .nil)
theorem ztA{a b:Bool}(ha:a=false)(hb:b=false):(bif a then true else b)=false:=by rw[ha,hb];rfl
theorem zlh:yT zb gmH 40 zs2:=by
 refine ctr2 zeI Tryz.func40 Tryz.call40 ?_;rintro w0 X hX ⟨(c:Cal),_⟩ hp;obtain⟨(ep:Int),(ms:List Int),(lp:Int),(rs:List Lr),⟨⟩⟩:=c;obtain⟨⟨e0,e1⟩,⟨n0,n1⟩,⟨l0,l1⟩,r0,lr,hm,x0⟩:zbv (ep,ms,lp,rs,()):=hp;have e0:0<=ep:=e0;have e1:ep<=1048576:=e1;have n0:1<=ms.length:=n0;have n1:ms.length<=16:=n1;have l0: -1<=lp:=l0;have l1:lp<(ms.length:Int):=l1;have r0:rs.length<=16:=r0;have lr:lp= -1->rs=[]:=lr;have hm:∀m∈ms,1<=m/\m<=40:=hm;have x0:(perS 1 rs).2=true:=x0;change AWP _ _ _ _ _ ⟨[(0,⟨cal,(ep,ms,lp,rs,())⟩)],[],0⟩ _
 iterate 2 (refine za (za (zaa zeI ?_)))
 refine zak (Y':=⟨[(1,⟨.optr cal,⟨0,cal,.here⟩⟩),(3,⟨i64,((ms.length:Nat):Int)⟩)],[(0,some (.box cal (ep,ms,lp,rs,())))],1⟩) ⟨⟨rfl,rfl,t_⟩,⟨rfl,t_⟩,rfl,rfl⟩ ?_;refine za (za (zaa zeI ?_));refine zaf rfl (λhc=>?_) (λ_=>?_)
 .have hc:(bif decide (ep<0) then true else decide (ep>1048576))=true:=hc;rw[ztA (decide_eq_false o_) (decide_eq_false o_)]at hc;cases hc
 refine za (za (zaa zeI ?_));refine zaf rfl (λhc=>?_) (λ_=>?_)
 .have hc:(bif decide (((ms.length:Nat):Int)<1) then true else decide (((ms.length:Nat):Int)>16))=true:=hc;rw[ztA (decide_eq_false o_) (decide_eq_false o_)]at hc;cases hc
 refine za (za (zaa zeI ?_));refine zaf rfl (λhc=>?_) (λ_=>?_)
 .have hc:(bif decide (lp < -1) then true else decide (lp>=((ms.length:Nat):Int)))=true:=hc;rw[ztA (decide_eq_false o_) (decide_eq_false o_)]at hc;cases hc
 refine za (za (zaa zeI ?_));refine zaf rfl (λhc=>?_) (λ_=>?_)
 .have hc:decide (((rs.length:Nat):Int)>16)=true:=hc;have:=of_decide_eq_true hc;omega
 refine za (za (zaa zeI ?_));refine zaf rfl (λhc=>?_) (λ_=>?_)
 .have hc:(bif (lp== -1) then decide (((rs.length:Nat):Int)>0) else false)=true:=hc;cases hq:(lp== -1) with
  |false=>rw[hq]at hc;cases hc
  |true=>
   rw[hq]at hc;have:=of_decide_eq_true hc;rw[lr (beq_iff_eq.1 hq)]at this;exact absurd this d_
 apply zah;refine zak (Y':=⟨[(1,⟨.optr cal,⟨0,cal,.here⟩⟩)],[(0,some (.box cal (ep,ms,lp,rs,())))],1⟩) ⟨⟨rfl,t_⟩,⟨rfl,t_⟩,rfl,rfl⟩ ?_;refine za (za (zaa zeI ?_));refine za (za ?_);refine xP (ι:=Nat) (λk=>⟨[(1,⟨.optr cal,⟨0,cal,.here⟩⟩),(50,⟨ints,ms⟩),(51,⟨i64,((ms.length:Nat):Int)⟩),(52,⟨i64,(k:Int)⟩)],[(0,some (.box cal (ep,ms,lp,rs,())))],1⟩) (λk=>k<=ms.length) (λk=>ms.length-k) 0 (zk _) ⟨⟨rfl,rfl,rfl,rfl,t_⟩,⟨rfl,t_⟩,rfl,rfl⟩ ?_;intro k hk;refine za (za (zaa zeI ?_));apply zaq;refine zaf rfl (λhb=>?_) (λhb=>?_)
 .have hb:decide ((k:Int)<(ms.length:Nat))=true:=hb;have hb:=of_decide_eq_true hb;have x1:k<ms.length:=o_;have z0:(0:Int)<=(k:Int):=o_;have x2:ms.getD (k:Int).toNat (0:Int)=ms[k]:=zaY x1;obtain⟨g0,g1⟩:=hm ms[k] (xN x1);rw[<-x2]at g0 g1
  iterate 2 (refine za (za (zaa zeI ?_)))
  refine zaf rfl (λhc=>?_) (λ_=>?_)
  .have hc:(bif decide (ms.getD (k:Int).toNat (0:Int)<1) then true else decide (ms.getD (k:Int).toNat (0:Int)>40))=true:=hc;rw[ztA (decide_eq_false o_) (decide_eq_false o_)]at hc;cases hc
  apply zah;refine za (za ?_);refine zac hX zeI rfl ?_ ?_
  .exact zbb o_
  exact⟨k+1,x1,by omega,⟨rfl,rfl,rfl,zdU _,t_⟩,⟨rfl,t_⟩,rfl,rfl⟩
 .apply zaw
  iterate 2 (refine za (za (zaa zeI ?_)))
  refine zp ⟨.inr rfl,D1 ?_⟩;exact x0
def zu6:Ctr:={ args:=[.slice nd,.slice cal],pre:=λx=>[zi x.2.1=3,∀c∈(x.2.1:List Cal),zbv c],res:=i64,own:=none,out:=λx=>zcG x.1 }
def zCal:Cal:=(0,[],0,[],())
def kVr:Kn:={ gmK with C:=[(38,zAi),(39,cWf),(40,zs2),(41,zlj)] }
theorem zdG:KnOk zb gmH kVr:=zaj.with (.cons zyA<|.cons zAw<|.cons zlh<|.cons zii .nil)
set_option maxHeartbeats 1000000 in
theorem zql:yT zb gmH 18 zu6:=by
 refine ctr2 zdG Tryz.func18 Tryz.call18 ?_;rintro w0 X hX ⟨r,cs,_⟩ hp;obtain⟨x6,x8⟩:cs.length=3/\∀c∈cs,zbv c:=by
  simp only[zu6,allP]at hp
  simpa using hp
 iterate 3 (refine za (za (zaa zdG ?_)))
 have x2:(bif decide (((r.length:Nat):Int)>64) then true else r.any bigN)=decide (64<r.length\/r.any bigN=true):=by
  rw[b_or,zY,yW,decide_eq_true_iff,decide_eq_true_iff];constructor
  .rintro (h|h)
   .exact .inl o_
   .exact .inr h
  .rintro (h|h)
   .exact .inl o_
   .exact .inr h
 refine zaf rfl (λhb=>?_) (λhb=>?_)
 .have hb:=x2.symm.trans hb;have hb:=of_decide_eq_true hb;(repeat refine za (za (zaa zdG ?_)));refine za ?_;refine zp ⟨.inr rfl,D1 ?_⟩;show(2:Int)=zcG r;unfold zcG;rw[if_pos hb]
 have hb:=x2.symm.trans hb;have x3:=of_decide_eq_false hb;apply zah;refine za (za (zaa zdG ?_));have x4:(bif !wfS r then true else decide (((cs.length:Nat):Int)>3))= !wfS r:=by
  rw[x6];cases wfS r<;>rfl
 refine zaf rfl (λhb=>?_) (λhb=>?_)
 .have hb:=x4.symm.trans hb;rw[zL]at hb;(repeat refine za (za (zaa zdG ?_)));refine za ?_;refine zp ⟨.inr rfl,D1 ?_⟩;show(1:Int)=zcG r;unfold zcG;rw[if_neg x3,if_neg (by rw[hb];decide)]
 have hb:=x4.symm.trans hb;rw[qM]at hb;have hv:zcG r=0:=by unfold zcG;rw[if_neg x3,if_pos hb]
 obtain⟨⟨w1,w2⟩,w3,_⟩:=zdq hb;apply zah;refine za (za (zaa zdG ?_));refine za (za ?_);refine xP (ι:=Nat) (λk=>⟨[(0,⟨.slice nd,r⟩),(1,⟨.slice cal,cs⟩),(27,⟨.slice cal,cs⟩),(28,⟨i64,((cs.length:Nat):Int)⟩),(29,⟨i64,(k:Int)⟩)],[],0⟩) (λk=>k<=cs.length) (λk=>cs.length-k) 0 (zk _) ⟨⟨rfl,rfl,rfl,rfl,rfl,t_⟩,t_,rfl,rfl⟩ ?_;intro k hk;refine za (za (zaa zdG ?_));apply zaq;refine zaf rfl (λhb=>?_) (λhb=>?_)
 .
  have hb:=of_decide_eq_true hb;have x1:k<cs.length:=o_;have z0:(0:Int)<=(k:Int):=o_;have x5:cs.getD (k:Int).toNat zCal=cs[k]:=zaY x1;have x7:=x8 cs[k] (xN x1);rw[<-x5]at x7
  iterate 2 (refine za (za (zaa zdG ?_)))
  refine zaf rfl (λhc=>?_) (λ_=>?_)
  .
   cases hc
  apply zah;refine za (za (zac hX zdG rfl ?_ ?_))
  .exact zbb o_
  exact⟨k+1,x1,by omega,⟨rfl,rfl,rfl,rfl,zdU _,t_⟩,t_,rfl,rfl⟩
 .apply zaw
  iterate 2 (refine za (za (zaa zdG ?_)))
  refine za (za ?_);refine xP (ι:=Nat) (λi=>⟨[(0,⟨.slice nd,r⟩),(1,⟨.slice cal,cs⟩),(8,⟨.optr (.arr 19 shp),⟨0,.arr 19 shp,.here⟩⟩),(38,⟨.slice nd,r⟩),(39,⟨i64,((r.length:Nat):Int)⟩),(40,⟨i64,(i:Int)⟩)],[(0,some (.box (.arr 19 shp) zbK))],1⟩) (λi=>i<=r.length) (λi=>r.length-i) 0 (zk _) ⟨⟨rfl,rfl,rfl,rfl,rfl,rfl,t_⟩,⟨rfl,t_⟩,rfl,rfl⟩ ?_;intro i hi;refine za (za (zaa zdG ?_));apply zaq;refine zaf rfl (λhb=>?_) (λhb=>?_)
  .
   have hb:=of_decide_eq_true hb;have x1:i<r.length:=o_;have z0:(0:Int)<=(i:Int):=o_;have hf:=(zcc w3 x1).1;obtain⟨⟨k1,k2⟩,_,x0,_⟩:=zaC hf;refine za (za (zaa zdG ?_));refine zak (Y':=⟨[(0,⟨.slice nd,r⟩),(1,⟨.slice cal,cs⟩),(8,⟨.optr (.arr 19 shp),⟨0,.arr 19 shp,.here⟩⟩),(38,⟨.slice nd,r⟩),(39,⟨i64,((r.length:Nat):Int)⟩),(40,⟨i64,(i:Int)⟩),(10,⟨.optr nd,⟨1,nd,.here⟩⟩)],[(0,some (.box (.arr 19 shp) zbK)),(1,some (.box nd (zar r i)))],2⟩) ⟨⟨rfl,rfl,rfl,rfl,rfl,rfl,rfl,t_⟩,⟨rfl,rfl,t_⟩,rfl,rfl⟩ ?_;generalize zar r i=n at *;have t0:(0:Int)<=ndK n:=o_;have t1:ndK n<((19:Nat):Int):=o_;have t2:(ndK n).toNat<19:=o_;refine za (za (zaa zdG ?_));refine zaf rfl (λhc=>?_) (λ_=>?_)
   .have hc:(bif (zdV (ndK n)).2.1 then decide (ndC n>=((cs.length:Nat):Int)) else false)=true:=hc;exfalso;unfold zfi at x0;cases hq:(zdV (ndK n)).2.1 with
    |false=>rw[hq]at hc;cases hc
    |true=>
     rw[hq,cond_true]at hc x0;have h1:=of_decide_eq_true hc;have h2:=zaF.1 x0;omega
   apply zah;refine za (za (zac hX zdG rfl ?_ ?_))
   .exact zbb o_
   exact⟨i+1,x1,by omega,⟨rfl,rfl,rfl,rfl,rfl,zdU _,t_⟩,⟨rfl,t_⟩,rfl,rfl⟩
  . (repeat refine za (za (zaa zdG ?_)));refine za ?_;refine zp ⟨.inr rfl,D1 ?_⟩;exact hv.symm
noncomputable def hdL(K:Kn)(n:Nat)(ops:Array Oper):Nat->List Oper->AS->Option (List (Nat×Nat×V))
 |_,[],_=>some []
 |i,o::l,Y=>match zje K n ops o Y with
  |some r=>match o.dst with
   |some d=>match zn r.2.F d with
    |⟨t,x⟩=>(hdL K n ops (i+1) l r.2).map ((i,d,⟨t,x⟩):: ·)
   |none=>none
  |none=>none
def clF:List Nat->zN->zN
 |_,[]=>[]
 |l,(s,v)::r=>bif hasN l s then clF l r else(s,v)::clF (s::l) r
theorem znK:∀(F:zN)(l:List Nat)(G:zN),(∀s,hasN l s=false->zn G s=zn F s)->Sub G (clF l F)
 | [],_,_,_=>trivial
 |(s,v)::r,l,G,h=>by
  unfold clF;cases hs:hasN l s with
  |true=>
   refine znK r l G λt ht=>?_;rw[h t ht,zam,if_neg λe=>by rw[e,ht]at hs;cases hs]
  |false=>
   refine⟨by rw[h s hs,zam,if_pos rfl],znK r (s::l) G λt ht=>?_⟩;have h1:s≠t:=λe=>by rw[e,zaz.2 (zC ..)]at ht;cases ht
   rw[h t (by
    cases hl:hasN l t with
    |false=>rfl
    |true=>rw[zaz.2 (zE _ (zaz.1 hl))]at ht;cases ht),zam,if_neg h1]
def clE:List Nat->Owns->Owns
 |_,[]=>[]
 |l,(i,o)::r=>bif hasN l i then clE l r else(i,o)::clE (i::l) r
theorem zlf:∀(E:Owns)(l:List Nat)(j:Nat),hasN l j=false->zm (clE l E) j=zm E j
 | [],_,_,_=>rfl
 |(i,o)::r,l,j,h=>by
  unfold clE;rw[zab];cases hs:hasN l i with
  |true=>rw[if_neg λe=>by rw[e,h]at hs;cases hs];exact zlf r l j h
  |false=>
   show zm ((i,o)::clE (i::l) r) j=_;rw[zab];split
   .rfl
   .rename_i hne;exact zlf r _ j (by
     cases hl:hasN (i::l) j with
     |false=>rfl
     |true=>rcases zs.1 (zaz.1 hl) with e|e
            .exact absurd e.symm hne
            .rw[zaz.2 e]at h;cases h)
theorem znL:∀(E:Owns)(l:List Nat)(G:Owns),(∀j,hasN l j=false->zm G j=zm E j)->SubE G (clE l E)
 | [],_,_,_=>trivial
 |(i,o)::r,l,G,h=>by
  unfold clE;cases hs:hasN l i with
  |true=>
   refine znL r l G λt ht=>?_;rw[h t ht,zab,if_neg λe=>by rw[e,ht]at hs;cases hs]
  |false=>
   have h2:SubE G (clE (i::l) r):=znL r (i::l) G λt ht=>by
    have h1:i≠t:=λe=>by rw[e,zaz.2 (zC ..)]at ht;cases ht
    rw[h t (by
     cases hl:hasN l t with
     |false=>rfl
     |true=>rw[zaz.2 (zE _ (zaz.1 hl))]at ht;cases ht),zab,if_neg h1]
   cases o with
   |none=>exact h2
   |some o=>exact⟨by rw[h i hs,zab,if_pos rfl],h2⟩
section
variable {P:zw}{K:Kn}{w0:zh}{X:Ownr}{n:Nat}{Y:AS}{Q:Exit->AS->Prop}{ops:Array Oper}
theorem TailA.seq(hX:X.Ok w0)(hK:KnOk P X.G K):∀{l:List Oper}{s:AS}{r:List Prop×AS},aSeq K n ops l s=some r->allP r.1->Q .normal r.2->TailA P w0 X n ops Q l s
 | [],s,r,h,_,hq=>by
  cases h;exact hq
 |o::l,s,r,h,hp,hq=>by
  simp only[aSeq]at h;split at h
  .rename_i p1 s1 h1;obtain⟨q,h2,rfl⟩:=zgq h;obtain⟨p3,p4⟩:=zat.1 hp;exact zX hX hK h1 p3 (TailA.seq hX hK h2 p4 hq)
  .cases h
def bndC(k:Nat):zN->Bool
 | []=>true
 |(_,v)::r=>bif v.t.data then bndC k r else qO v.bound k&&bndC k r
theorem znQ{k:Nat}:∀{F:zN},bndC k F=true->bndB k F=true
 | [],_=>rfl
 |(s,⟨t,x⟩)::r,h=>by
  unfold bndC at h;unfold bndB;cases hd:t.data with
  |true=>
   rw[hd]at h;rw[show V.bound ⟨t,x⟩=0 from zh4 t x hd,znQ h];rfl
  |false=>
   rw[hd]at h;rw[zf];rw[cond_false,zf]at h;exact⟨h.1,znQ h.2⟩
theorem zdn(m:Nat)(hm:P.follows .mixedOrders=true)(hK:KnOk P X.G K){L:List (Nat×Nat×V)}{id:Nat}{r:List Prop×AS}(hL:hdL K n ops 0 (ops.toList.take m) ⟨clF [] Y.F,clE [] Y.E,Y.nx⟩=some L)(hq:Q .normal r.2)(hX:X.Ok w0:=by assumption)
  (hst:AllI (zvh K n ops (clF (L.map (·.2.1)) Y.F) L (clE [] Y.E) Y.nx) m:=by repeat'(first|exact trivial|refine zA ?_ ?_|exact⟨_,rfl,λF=>⟨_,rfl,z_,rfl,λ_=>rfl,rfl⟩⟩))
  (hs:aSeq K n ops (ops.toList.drop m) ⟨L.map (·.2)++clF (L.map (·.2.1)) Y.F,clE [] Y.E,Y.nx⟩=some r:=by rfl) (hp:allP r.1:=by exact z_) (hb:zgO ops=true:=by kernel_rfl) (ht:zjl ops.toList m ops.toList.length=true:=by kernel_rfl) (hmf:qO m ops.toList.length=true:=by rfl)
  (hd:disB ((L.map (·.2.1))++((clF (L.map (·.2.1)) Y.F).map (·.1)))=true:=by rfl) (hbf:bndC Y.nx (L.map (·.2)++clF (L.map (·.2.1)) Y.F)=true:=by rfl) (hbe:bndE Y.nx (clE [] Y.E)=true:=by rfl) (hlen:L.all (λp=>zM p.1 m)=true:=by rfl)
  (hk:X.K<=Y.nx:=by exact zq rfl) (hdf:za2 ops.toList=true:=by rfl):AWP P w0 X n (.region id ops true) Y Q:=λU a w hs0=>
 zcs (Y:=⟨Y.F,clE [] Y.E,Y.nx⟩) m (clF (L.map (·.2.1)) Y.F) L hm hX _ rfl hmf hb ht hd (znK Y.F _ Y.F λ_ _=>rfl) (AllI.of λi hi=>zx hX hK (hst.get i hi)) (znQ hbf) (znL Y.E [] (clE [] Y.E) λj _=>zlf Y.E [] j rfl) hbe hlen (TailA.seq hX hK hs hp (QC.of hq)) hk hdf U a w (hs0.sameE (E':=clE [] Y.E) λj=>zlf Y.E [] j rfl)
end
abbrev alm:Ty:=.pair cal (.pair ints .unit)
abbrev Alm:=Cal×List Int×Unit
def caT:Tbl:=(195,alm)::gmT
theorem zmz:TOk zb caT gmQ:=zid (by kernel_rfl) (by kernel_rfl)
def caK:Kn:={ T:=caT,Q:=gmQ,U0:=gmU,C:=[] }
theorem zd6:KnOk zb gmG caK:=⟨zmz,zdm,CsOk.nil,λ_ _ _ _=>trivial,vp⟩
abbrev zs4:Ty:=.tup (.vptr (.slice lru)) .unit
def zAe:Ctr:={ args:=[.slice lru],pre:=λ_=>[],res:=.clo 195 zs4,own:=none,out:=λx=>(x.1,()) }
theorem zym:yT zb gmG 187 zAe:=by
 refine ctr2 zaA Tryz.func187 Tryz.call187 ?_;rintro w0 X hX ⟨l,_⟩ hp;refine za (za (zaa zaA ?_));refine ql hX 1 ?_;refine za (za (zaa zaA ?_));exact zp ⟨.inr rfl,D1 rfl⟩
def zg7:List Lr->Int->Bool
 | [],_=>false
 |r::rs,y=>if ∃q∈rs,y%q.1=q.2.1 then zg7 rs y else if y%r.1=r.2.1 then r.2.2.1 else false
def zf0(rs:List Lr):Prop:=∀r∈rs,0<r.1/\r.1<=1000000000
def zz1:Ctr:={ args:=[alm,i64],pre:=λx=>[zf0 x.1.1.2.2.2.1],res:=.bool,own:=none,out:=λx=>zg7 x.1.1.2.2.2.1 x.2.1 }
theorem zpZ:∀{rs:List Lr}{y:Int},(∀r∈rs,y%r.1≠r.2.1)->zg7 rs y=false
 | [],_,_=>rfl
 |r::rs,y,h=>by
  rw[zg7,if_neg λ⟨q,h1,h2⟩=>h q (zE _ h1) h2,if_neg (h r (zC ..))]
theorem zoG:∀{rs:List Lr}{y:Int}{i:Nat}(hi:i<rs.length),(∀j(hj:j<rs.length),i<j->y%rs[j].1≠rs[j].2.1)->y%rs[i].1=rs[i].2.1->zg7 rs y=rs[i].2.2.1
 |r::rs,y,0,_,h,h1=>by
  have hn:¬ ∃q∈rs,y%q.1=q.2.1:=λ⟨q,h2,h3⟩=>by
   obtain⟨j,hj,rfl⟩:=vV h2;exact h (j+1) (by simpa using hj) o_ h3
  rw[zg7,if_neg hn];exact if_pos h1
 |r::rs,y,i+1,hi,h,h1=>by
  have hi:i<rs.length:=by simpa using hi
  rw[zg7,if_pos ⟨rs[i],xN hi,h1⟩];exact zoG hi (λj hj x0=>h (j+1) (by simpa using hj) o_) h1
def kLp:Kn:={ caK with C:=[(137,cMod),(187,zAe)] }
theorem ziO:KnOk zb gmG kLp:=zd6.with (.cons zsS (.cons zym .nil))
set_option maxHeartbeats 8000000 in
theorem zxs:yT zb gmG 165 zz1:=by
 refine zi2 (K:=kLp) ziO Tryz.func165 rfl rfl Tryz.call165 rfl d_ (by intro h;cases h) rfl ?_;rintro w0 O hX ⟨c,y,_⟩ hp;have hp:zf0 c.1.2.2.2.1:=hp;change AWPD _ _ _ _ _ _ _ ⟨[(0,⟨alm,c⟩),(1,⟨i64,y⟩)],[],0⟩ _;refine AWPD.seq (AWPD.of hX λW1 x3 Bf1 x0=>?_);refine zac x0 ziO rfl t_ ?_;refine AWPD.seq (AWPD.seq (AWPD.of hX λW1 x3 Bf1 x0=>?_));refine zac x0 ziO rfl t_ ?_;obtain⟨rs,x2⟩:∃rs,rs=c.1.2.2.2.1:=⟨_,rfl⟩;show AWPD _ _ _ _ _ _ _ ⟨(10,⟨.clo _ zs4,(c.1.2.2.2.1,())⟩)::_,_,_⟩ _;rw[<-x2]at hp ⊢
 let E (b:Bool):Owns:=[(0,some (.box alm c)),(1,some (.box i64 y)),(2,some (.box .bool b))]
 let F:List (Nat×V):=[(2,⟨.optr alm,⟨0,alm,.here⟩⟩),(3,⟨.optr i64,⟨1,i64,.here⟩⟩),(4,⟨.optr .bool,⟨2,.bool,.here⟩⟩)]
 let ru (k:Nat):Lr:=rs.getD (rs.length-1-k) (zav lru)
 let E1 (k:Nat):Owns:=[(0,some (.box alm c)),(1,some (.box i64 y)),(2,some (.box .bool false)),(3,some (.box lru (ru k)))]
 have x4:∀k,k<rs.length->ru k∈rs:=λk hk=>by
  show rs.getD _ _∈rs;rw[zu,zI o_];exact xN _
 refine AWPD.block ?_;refine zeG hX rfl Tryz.call195 [11,12] rfl rfl rfl rs.length (zyn rs) (λ_=>rfl) (zs5 rs) 3 (λi hi=>?_) F ⟨rfl,rfl,rfl,t_⟩ rfl (λ_=>E false) 3 (zj _) ⟨⟨rfl,rfl,rfl,t_⟩,⟨rfl,rfl,rfl,t_⟩,rfl,rfl⟩ (λk=>rfl)
  (λk=>∀j,j<k->y%(ru j).1≠(ru j).2.1) (λk=>y%(ru k).1=(ru k).2.1) (λj hj=>absurd hj (Nat.not_lt_zero _))
  (λk=>⟨(6,⟨.optr lru,⟨3,lru,.here⟩⟩)::F,E1 k,4⟩) (λk=>zq rfl) (λk=>E (ru k).2.2.1) (λW O' Bf fix l x1 k hk hA=>?_) (λW O' Bf fix l x1 k hk hA=>?_) (λhA=>?_) (λk hk hA hR=>?_)
 .match i,hi with
  |0,_=>exact⟨_,rfl,rfl⟩
  |1,_=>exact⟨_,rfl,rfl⟩
  |2,_=>exact⟨_,rfl,rfl⟩
 .refine zac x1 ziO rfl t_ ?_;exact⟨rfl,⟨rfl,rfl,rfl,rfl,t_⟩,⟨rfl,rfl,rfl,rfl,t_⟩,rfl,rfl⟩
 .have hX:=x1;have h1:=hp _ (x4 k hk);refine za (za (zdn 7 dM ziO rfl ?_));refine zaf rfl (λhb=>?_) (λhb=>?_)
  .
   refine za (za (zaa ziO ?_));exact zp (.inr ⟨rfl,of_decide_eq_true hb,⟨t_,⟨rfl,rfl,rfl,t_⟩,rfl,rfl⟩⟩)
  .
   refine zah (.inl ⟨rfl,λj hj=>?_,⟨t_,⟨rfl,rfl,rfl,t_⟩,rfl,rfl⟩⟩);by_cases e:j=k
   .rw[e];exact of_decide_eq_false hb
   .exact hA j o_
 .refine AWPD.of hX λW1 x3 Bf1 x0=>?_;refine zaq (zac x0 ziO rfl t_ ?_);refine zp ⟨.inr rfl,D1 ?_⟩;show false=zg7 c.1.2.2.2.1 y;rw[<-x2,zpZ λr hr=>?_];obtain⟨j,hj,rfl⟩:=vV hr;have:=hA (rs.length-1-j) o_;have e:ru (rs.length-1-j)=rs[j]:=by
   show rs.getD _ _=_;rw[show rs.length-1-(rs.length-1-j)=j by omega,zu,zI hj];rfl
  rwa[e]at this
 .refine⟨.inr rfl,D1 ?_⟩;have hg:∀j(hj:j<rs.length),ru (rs.length-1-j)=rs[j]:=λj hj=>by
   show rs.getD _ _=_;rw[show rs.length-1-(rs.length-1-j)=j by omega,zu,zI hj];rfl
  have hi:rs.length-1-k<rs.length:=o_;have e:=hg (rs.length-1-k) hi;rw[show rs.length-1-(rs.length-1-k)=k by omega]at e;rw[e]at hR ⊢;show _=zg7 c.1.2.2.2.1 y;rw[<-x2];refine(zoG hi (λj hj x5=>?_) hR).symm;have:=hA (rs.length-1-j) o_;rwa[hg j hj]at this
def monS(c:Cal)(y m:Int):Int:=c.2.1.getD (m-1).toNat 0+(bif decide (m-1=c.2.2.1)&&zg7 c.2.2.2.1 y then 1 else 0)
def ze2(ms:List Int):Prop:=ms.length<=16/\∀m∈ms,1<=m/\m<=40
def cMon:Ctr:={ args:=[alm,i64,i64],pre:=λx=>[zf0 x.1.1.2.2.2.1,ze2 x.1.1.2.1,1<=x.2.2.1,x.2.2.1<=(x.1.1.2.1.length:Int)],res:=i64,own:=none,out:=λx=>monS x.1.1 x.2.1 x.2.2.1 }
def kMo:Kn:={ caK with C:=[(165,zz1)] }
theorem zj5:KnOk zb gmG kMo:=zd6.with (.cons zxs .nil)
theorem zk2{α:Type}{l:List α}{k:Nat}{z:α}(h:k<l.length):l.getD k z∈l:=by
 rw[zu,zI h];exact xN _
theorem zvN:yT zb gmG 136 cMon:=by
 refine ctr2 zj5 Tryz.func136 Tryz.call136 ?_;rintro w0 X hX ⟨(c:Alm),(y:Int),(m:Int),_⟩ hp;obtain⟨hr,⟨x0,hm⟩,h0,h1⟩:zf0 c.1.2.2.2.1/\ze2 c.1.2.1/\1<=m/\m<=(c.1.2.1.length:Int):=hp;change AWP _ _ _ _ _ ⟨[(0,⟨alm,c⟩),(1,⟨i64,y⟩),(2,⟨i64,m⟩)],[],0⟩ _;refine za (za (zaa zj5 ?_));refine ql hX 3 ?_;have hd:=hm _ (zk2 (z:=0) (show(m-1).toNat<c.1.2.1.length by omega));have q1:inR .i64 (m-1):=zad o_ o_;refine za (za ?_);refine zac hX zj5 rfl ?_ ?_
 .exact⟨q1,show 0<=m-1 by omega,show m-1<(c.1.2.1.length:Int) by omega⟩
 refine za (za (zaa zj5 ?_));refine zbi (Y':=⟨[(7,⟨i64,monS c.1 y m⟩)],[],1⟩) ?_ ?_
 .refine zaf rfl (λhb=>?_) (λhb=>?_)
  .have hb:(bif decide (m-1=c.1.2.2.1) then zg7 c.1.2.2.2.1 y else false)=true:=hb;have q2:inR .i64 (c.1.2.1.getD (m-1).toNat 0+1):=zad o_ o_;refine za (za (zaa zj5 ?_));refine⟨⟨vI64 ?_,t_⟩,t_,rfl,rfl⟩;show c.1.2.1.getD (m-1).toNat 0+1=monS c.1 y m;unfold monS;rw[zcR]at hb;rw[hb];rfl
  .have hb:(bif decide (m-1=c.1.2.2.1) then zg7 c.1.2.2.2.1 y else false)=false:=hb;refine zah ⟨⟨vI64 ?_,t_⟩,t_,rfl,rfl⟩;show c.1.2.1.getD (m-1).toNat 0=monS c.1 y m;unfold monS;rw[zcR]at hb;rw[hb];exact(Int.add_zero _).symm
 refine za (za (zaa zj5 ?_));exact zp ⟨.inr rfl,D1 rfl⟩
def yrK(c:Cal)(y:Int):Nat->Int
 |0=>0
 |k+1=>yrK c y k+monS c y ((k:Int)+1)
def yrS(c:Cal)(y:Int):Int:=yrK c y c.2.1.length
theorem zkM{c:Cal}{y m:Int}(hm:ze2 c.2.1)(h0:1<=m)(h1:m<=(c.2.1.length:Int)):1<=monS c y m/\monS c y m<=41:=by
 have hd:=hm.2 _ (zk2 (z:=0) (show(m-1).toNat<c.2.1.length by omega));unfold monS;cases (decide (m-1=c.2.2.1)&&zg7 c.2.2.2.1 y)<;>simp only[cond_true,cond_false]<;>omega
theorem zn2{c:Cal}{y:Int}(hm:ze2 c.2.1):∀k:Nat,k<=c.2.1.length->(k:Int)<=yrK c y k/\yrK c y k<=41*k
 |0,_=>⟨yS _,yS _⟩
 |k+1,h=>by
  have h1:=zn2 (y:=y) hm k o_;have h2:=zkM (y:=y) (m:=(k:Int)+1) hm o_ o_;simp only[yrK];omega
def cYr:Ctr:={ args:=[alm,i64],pre:=λx=>[zf0 x.1.1.2.2.2.1,ze2 x.1.1.2.1],res:=i64,own:=none,out:=λx=>yrS x.1.1 x.2.1 }
def kYr:Kn:={ caK with C:=[(136,cMon)] }
theorem zhz:KnOk zb gmG kYr:=zd6.with (.cons zvN .nil)
theorem zAv:yT zb gmG 162 cYr:=by
 refine ctr2 zhz Tryz.func162 Tryz.call162 ?_;rintro w0 X hX ⟨(c:Alm),(y:Int),_⟩ hp;obtain⟨hr,hm⟩:zf0 c.1.2.2.2.1/\ze2 c.1.2.1:=hp;have x0:=hm.1;change AWP _ _ _ _ _ ⟨[(0,⟨alm,c⟩),(1,⟨i64,y⟩)],[],0⟩ _;refine za (za (zaa zhz ?_));refine ql hX 2 ?_
 iterate 2 (refine za (za (zaa zhz ?_)))
 refine za (za ?_);refine xP (ι:=Nat) (λk=>⟨[(1,⟨i64,y⟩),(2,⟨.vptr alm,c⟩),(5,⟨i64,yrK c.1 y k⟩),(10,⟨i64,(c.1.2.1.length:Int)⟩),(11,⟨i64,(k:Int)⟩)],[],1⟩) (λk=>k<=c.1.2.1.length) (λk=>c.1.2.1.length-k) 0 (zk _) ⟨⟨rfl,rfl,rfl,rfl,rfl,t_⟩,t_,rfl,rfl⟩ ?_;intro k hk;have x1:=zn2 (y:=y) hm k hk;refine za (za (zaa zhz ?_));refine za (za ?_);refine zaU rfl (λhb=>?_) (λhb=>?_)
 .have hb:(k:Int)<(c.1.2.1.length:Int):=hb;have x2:=zkM (y:=y) (m:=(k:Int)+1) hm o_ o_;have q1:inR .i64 ((k:Int)+1):=zad o_ o_;have q2:inR .i64 (yrK c.1 y k+monS c.1 y ((k:Int)+1)):=zad (by omega) (by omega);apply zah;refine za (za (zac hX zhz rfl ?_ ?_))
  .trivial
  refine za (za ?_);refine zac hX zhz rfl ?_ ?_
  .repeat'(first|exact trivial|assumption|exact q1|exact q2|exact hr|exact hm|(refine⟨?_,?_⟩)|(intro _)|exact zq rfl|exact yM _|(simp_all [allP];done))
   .show 1<=(k:Int)+1;omega
  refine za (za (zaa zhz ?_));exact⟨k+1,by omega,by omega,⟨rfl,rfl,rfl,rfl,vI64 rfl,t_⟩,t_,rfl,rfl⟩
 .have hb:¬((k:Int)<(c.1.2.1.length:Int)):=hb;have e:k=c.1.2.1.length:=o_;apply zaw;refine za (za (zaa zhz ?_));refine zp ⟨.inr rfl,D1 ?_⟩;show yrK c.1 y k=yrS c.1 y;rw[e];rfl
def sumY(c:Cal):Nat->Int
 |0=>0
 |k+1=>sumY c k+yrS c ((k:Int)+1)
def stK(c:Cal)(k:Nat):List Int:=(qB (k+1)).map (sumY c)
theorem zgT(c:Cal)(k:Nat):(stK c k).length=k+1:=by simp[stK]
theorem ztH(c:Cal)(k:Nat):stK c (k+1)=stK c k++[sumY c (k+1)]:=by
 unfold stK;rw[List.range_succ,List.map_append];rfl
theorem zqE(c:Cal){k i:Nat}(h:i<=k):(stK c k).getD i 0=sumY c i:=by
 unfold stK;rw[zu,List.getElem?_map,List.getElem?_range o_];rfl
def cycN(c:Cal):Nat:=(perS 1 c.2.2.2.1).1.toNat
theorem zrl:∀(rs:List Lr)(y:Nat),1<=y->y<=400->(perS y rs).2=true->(∀r∈rs,ziF r=false)/\∃N:Nat,(perS y rs).1=(N:Int)/\1<=N/\N<=400
 | [],y,h1,h2,_=>⟨λr h=>(by cases h),y,rfl,h1,h2⟩
 |r::rs,y,h1,h2,h=>by
  unfold perS at h ⊢;by_cases hb:ziF r=true
  .rw[if_pos hb]at h;cases h
  .rw[if_neg hb]at h ⊢;by_cases hl:400<vP y r.1.toNat
   .rw[if_pos hl]at h;cases h
   .rw[if_neg hl]at h ⊢;have hb:ziF r=false:=by simpa using hb
    have hr:1<=r.1:=by
     unfold ziF at hb;simp only[xY,decide_eq_false_iff_not]at hb;omega
    have hp:1<=vP y r.1.toNat:=Nat.lcm_pos o_ o_;obtain⟨h3,h4⟩:=zrl rs _ hp o_ h;refine⟨λq hq=>?_,h4⟩;rcases zs.1 hq with rfl|hq
    .exact hb
    .exact h3 q hq
theorem zcO{c:Cal}(h:zbv c):zf0 c.2.2.2.1/\ze2 c.2.1/\1<=c.2.1.length/\(perS 1 c.2.2.2.1).1=(cycN c:Int)/\1<=cycN c/\cycN c<=400:=by
 obtain⟨_,⟨n0,n1⟩,_,_,_,hm,x0⟩:=h;obtain⟨h1,N,h2,h3,h4⟩:=zrl c.2.2.2.1 1 (zj _) o_ x0;refine⟨λr hr=>?_,⟨n1,hm⟩,n0,?_,?_,?_⟩
 .have hb:=h1 r hr;unfold ziF at hb;simp only[xY,decide_eq_false_iff_not]at hb;omega
 all_goals (unfold cycN;rw[h2];omega)
theorem zjE{c:Cal}{y:Int}(hm:ze2 c.2.1)(h1:1<=c.2.1.length):1<=yrS c y/\yrS c y<=656:=by
 have:=zn2 (y:=y) hm c.2.1.length (zj _);have:=hm.1;unfold yrS;omega
theorem zie{c:Cal}(hm:ze2 c.2.1)(h1:1<=c.2.1.length):∀k:Nat,(k:Int)<=sumY c k/\sumY c k<=656*k
 |0=>⟨yS _,yS _⟩
 |k+1=>by
  have:=zie hm h1 k;have:=zjE (y:=(k:Int)+1) hm h1;simp only[sumY];omega
abbrev almH:Ty:=.hcons i64 (.hcons ints (.hcons i64 (.hcons (.slice lru) (.hcons (.obuf i64) .unit))))
theorem ztf(a c:Int)(x1 x2 x3:Option Addr)(y1 z1 y2 z2 y3 z3:Nat):zb.built 195 [(0,.agg #[.int .i64 a,.slice x1 y1 z1,.int .i64 c,.slice x2 y2 z2]),(1,.slice x3 y3 z3)]=some #[.int .i64 a,.slice x1 y1 z1,.int .i64 c,.slice x2 y2 z2,.slice x3 y3 z3]:=by kernel_rfl
theorem zjN{α:Type}{w:zh}{O:Nat->Prop}{R:α->List zd->Prop}{xs:List α}{v:zd}(h:RepS w O R xs v):∃x y z,v=.slice x y z:=by
 rcases h with ⟨_,A,c,rfl,_⟩|⟨g,off,c,vs,rfl,_⟩<;>exact⟨_,_,_,rfl⟩
section
variable {w0:zh}{X:Ownr}{n:Nat}{F:zN}{E:Owns}{nx:Nat}{Q:Exit->AS->Prop}{ops:Array Oper}
theorem zvd(c:Cal){j:Nat}{te:zo}{xs:List Int}{o:Oper}{t:zo}(ht:t=195)(ho:o.op=.build t #[(0,.tmp 18),(1,.tmp 21)])(x5:o.guard=none)(hd:o.dst=some 22)(hn:zM 22 n=true)(x6:zn F 18=⟨cal,c⟩)(x4:zn F 21=⟨.obuf i64,j⟩)
  (hj:zm E j=some (.buf te i64 xs)) (x0:zM j nx=true) {N:AS->Prop} (h:N ⟨(22,⟨almH,(c.1,c.2.1,c.2.2.1,c.2.2.2.1,j,())⟩)::F,E,nx⟩):StepA zb w0 X n ops o ⟨F,E,nx⟩ N Q:=
 jv x5 λU a w hs=>by
  subst ht;have e1:a.eval (.tmp 21)=U j:=by
   have h1:=hs.ops (.tmp 21);rw[show evO (AS.mk F E nx).F (.tmp 21)=_ from x4]at h1;exact h1
  obtain⟨x3,y3,z3,e2⟩:∃x y z,U j=.slice x y z:=by
   obtain⟨cs,_,x7,_⟩:=hs.own j _ hj;rcases x7.2 with ⟨e,_⟩|⟨g,cap,cur,e,_⟩
   .exact⟨_,_,_,e⟩
   .exact⟨_,_,_,e⟩
  have h2:=hs.ops (.tmp 18);rw[show evO (AS.mk F E nx).F (.tmp 18)=_ from x6]at h2;obtain⟨cs,e3,c1,d1,rfl,h3,c2,d2,rfl,⟨v2,rfl,h4⟩,c3,d3,rfl,h5,c4,d4,rfl,⟨v4,rfl,h6⟩,h7⟩:=(qr rfl).1 h2;have h7:d4=[]:=h7;subst h3;subst h5;subst h7;obtain⟨x1,y1,z1,rfl⟩:=zjN h4;obtain⟨x2,y2,z2,rfl⟩:=zjN h6;have e3:a.eval (.tmp 18)=.agg #[.int .i64 c.1,.slice x1 y1 z1,.int .i64 c.2.2.1,.slice x2 y2 z2]:=e3;refine zgS (v:=⟨almH,(c.1,c.2.1,c.2.2.1,c.2.2.2.1,j,())⟩) hd hn ?_ (N:=N) h hs (u:=.agg #[.int .i64 c.1,.slice x1 y1 z1,.int .i64 c.2.2.1,.slice x2 y2 z2,.slice x3 y3 z3]) ?_ ?_
  .have x0:j<nx:=by simpa using x0
   show max 0 (max 0 (max 0 (max 0 (max (j+1) 0))))<=nx;omega
  .unfold execOp;rw[ho];refine zbz ?_;rw[show(#[(0,Operand.tmp 18),(1,Operand.tmp 21)]:Array (Nat×Operand)).map (λp=>(p.1,a.eval p.2))= #[(0,.agg #[.int .i64 c.1,.slice x1 y1 z1,.int .i64 c.2.2.1,.slice x2 y2 z2]),(1,.slice x3 y3 z3)] from by simp[e1,e2,e3]];exact run_build w _ _ _ (ztf ..)
  .refine⟨_,[.slice x1 y1 z1,.int .i64 c.2.2.1,.slice x2 y2 z2,.slice x3 y3 z3],rfl,rfl,(xJ (t:=.int .i64) rfl).2 rfl,?_⟩;refine⟨_,[.int .i64 c.2.2.1,.slice x2 y2 z2,.slice x3 y3 z3],rfl,rfl,(xJ (t:=ints) rfl).2 ⟨_,rfl,h4⟩,?_⟩;refine⟨_,[.slice x2 y2 z2,.slice x3 y3 z3],rfl,rfl,(xJ (t:=.int .i64) rfl).2 rfl,?_⟩;refine⟨_,[.slice x3 y3 z3],rfl,rfl,(xJ (t:=.slice lru) rfl).2 ⟨_,rfl,h6⟩,?_⟩;refine⟨_,[],rfl,rfl,e2.symm,?_⟩;exact(qr rfl).2 ⟨[],rfl,rfl⟩
end
def zzV:Ctr:={ args:=[cal],pre:=λx=>[zbv x.1],res:=.tup alm (.tup .bool .unit),own:=none,out:=λx=>((x.1,stK x.1 (cycN x.1),()),true,()) }
def kOp:Kn:={ caK with C:=[(40,zs2),(76,cPer)],H:=[195] }
theorem zb3:KnOk zb gmH kOp:=⟨zmz,zdm,.cons zlh (.cons zlY .nil),zcb,vp⟩
theorem zvt:yT zb gmH 162 cYr:=zAv.lift
abbrev opF(Y0:Nat)(k:Nat):List (Nat×V):=[(2,⟨.hptr,((1:Nat),(0:Nat))⟩),(6,⟨.hptr,((2:Nat),(0:Nat))⟩),(23,⟨i64,(Y0:Int)⟩),(24,⟨i64,(k:Int)⟩)]
abbrev opE(c:Cal)(xs:List Int):Owns:=[(1,some (.hbox 195 ((zbw alm).map evC))),(2,some (.hbox 195 [⟨i64,c.1⟩,⟨ints,c.2.1⟩,⟨i64,c.2.2.1⟩,⟨.slice lru,c.2.2.2.1⟩,⟨.obuf i64,(3:Nat)⟩])),(3,some (.buf 3 i64 xs))]
set_option maxHeartbeats 1000000 in
theorem zw1:yT zb gmH 132 zzV:=by
 refine ctr2 zb3 Tryz.func132 Tryz.call132 ?_;rintro w0 O hX ⟨(c:Cal),_⟩ hp;have hp:zbv c:=hp;obtain⟨hr,hm,x3,x1,x7,hN⟩:=zcO hp;change AWP _ _ _ _ _ ⟨[(0,⟨cal,c⟩)],[],0⟩ _
 iterate 2 (refine za (za (zaa zb3 ?_)))
 refine zaf rfl (λhb=>by cases hb) (λhb=>?_);refine za (za (zaa zb3 ?_));refine za (za ?_);have eY:(perS 1 c.2.2.2.1).1=(cycN c:Int):=x1;refine zak (Y':=⟨[(1,⟨.optr cal,⟨0,cal,.here⟩⟩),(2,⟨.hptr,((1:Nat),(0:Nat))⟩),(4,⟨i64,(cycN c:Int)⟩)],[(0,some (.box cal c)),(1,some (.hbox 195 ((zbw alm).map evC)))],2⟩) ⟨⟨rfl,rfl,vI64 eY,t_⟩,⟨rfl,rfl,t_⟩,rfl,rfl⟩ ?_;have q1:inR .i64 ((cycN c:Int)+1):=zad o_ o_;have q2:(cycN c:Int)+1<=1000000000:=o_;have q3:(1:Int)<=(cycN c:Int)+1:=o_;have q0:(0:Int)<=1:=d_;refine zpd (Y':=⟨(4,⟨i64,(cycN c:Int)⟩)::(2,⟨.hptr,((1:Nat),(0:Nat))⟩)::(6,⟨.hptr,((2:Nat),(0:Nat))⟩):: [],opE c [(0:Int)],4⟩) (zbF dM 7 rfl (by kernel_rfl) ?_) ?_
 .repeat' first
   |exact AllN.nil
   |refine AllN.cons ⟨_,rfl,?_⟩ ?_
   |refine zvd c rfl rfl rfl rfl rfl rfl rfl rfl rfl ?_
   |refine OrdA.step _ rfl ?_
   |refine zX hX zb3 rfl t_ ?_
   |refine zX hX zb3 rfl q1 ?_
   |refine zX hX zb3 rfl ⟨q0,q3,q2⟩ ?_
   |(refine ve ?_;show ∀(U:Nat->zd)(a:Act)(w:zh),Sim _ _ _ _ U a w->∃U',Sim _ _ _ _ U' a w;exact λU a w h=>⟨U,h.fit ⟨⟨rfl,rfl,rfl,t_⟩,⟨rfl,rfl,rfl,t_⟩,rfl,rfl⟩ (zk _)⟩)
   |(refine ve ?_;show ∀(U:Nat->zd)(a:Act)(w:zh),Sim _ _ _ _ U a w->∃U',Sim _ _ _ _ U' a w;exact λU a w h=>⟨_,(h.rename (L:=[(0,0),(1,1),(2,3),(3,2)]) rfl rfl (m:=4) rfl rfl).fit ⟨⟨rfl,rfl,rfl,t_⟩,⟨rfl,rfl,rfl,t_⟩,rfl,rfl⟩ (zk _)⟩)
 refine za (za (zaa zb3 ?_));refine za (za ?_);refine xP (ι:=Nat) (λk=>⟨opF (cycN c) k,opE c (stK c k),4⟩) (λk=>k<=cycN c) (λk=>cycN c-k) 0 (zk _) ⟨⟨rfl,rfl,rfl,rfl,t_⟩,⟨rfl,rfl,zmF (show [(0:Int)]=stK c 0 from rfl),t_⟩,rfl,rfl⟩ ?_;intro k hk;have x6:=zie hm x3 k;refine za (za (zaa zb3 ?_));refine za (za ?_);refine zaU rfl (λhb=>?_) (λhb=>?_)
 .have hb:(k:Int)<(cycN c:Int):=hb;have x5:=zjE (y:=(k:Int)+1) hm x3;have q1:inR .i64 ((k:Int)+1):=zad o_ o_;apply zah;refine za (za (zaa zb3 ?_));refine za (za ?_)
  let x0:Int:=(stK c k).getD (k:Int).toNat 0
  have x2:x0=sumY c k:=zqE c (zj k)
  let B:List (Nat×V):=(7,⟨i64,(k:Int)⟩)::opF (cycN c) k
  let L:List (Nat×Nat×V):=[(0,27,⟨.hptr,((2:Nat),(4:Nat))⟩),(1,28,⟨.obuf i64,(3:Nat)⟩),(2,29,⟨.hptr,((2:Nat),(4:Nat))⟩),(3,30,⟨.obuf i64,(3:Nat)⟩),(4,31,⟨i64,(k:Int)⟩),(5,32,⟨.optr i64,⟨3,.slice i64,.elm k⟩⟩),(6,33,⟨i64,x0⟩),
   (7,34,⟨almH,(c.1,c.2.1,c.2.2.1,c.2.2.2.1,(3:Nat),())⟩),(8,35,⟨i64,(k:Int)⟩),(9,36,⟨i64,(k:Int)+1⟩),(10,37,⟨i64,yrS c ((k:Int)+1)⟩),(11,38,⟨i64,x0+yrS c ((k:Int)+1)⟩),(12,39,⟨ints,[x0+yrS c ((k:Int)+1)]⟩)]
  refine zcs (Y:=⟨_,opE c (stK c k),4⟩) 13 B L dM hX 16 rfl rfl (by kernel_rfl) (by kernel_rfl) rfl ⟨rfl,rfl,rfl,rfl,rfl,t_⟩ ?_ rfl ⟨rfl,rfl,rfl,t_⟩ rfl rfl ?_
  .refine(zA (zA (zA (zA (zA (zA (zA (zA (zA (zA (zA (zA (zA qU ?_) ?_) ?_) ?_) ?_) ?_) ?_) ?_) ?_) ?_) ?_) ?_) ?_)
   .exact zx hX zb3 k_
   .exact zx hX zb3 k_
   .exact zx hX zb3 k_
   .exact zx hX zb3 k_
   .exact zx hX zb3 k_
   .refine zx hX zb3 ⟨_,rfl,λF=>⟨_,rfl,?_,rfl,λ_=>rfl,rfl⟩⟩;exact⟨yM k,show(k:Int)<((stK c k).length:Int) by rw[zgT];omega⟩
   .refine zx hX zb3 ⟨_,rfl,λF=>⟨_,rfl,?_,rfl,λ_=>rfl,rfl⟩⟩;exact(show k<(stK c k).length by rw[zgT];omega)
   .exact uF _ rfl ⟨almH,(c.1,c.2.1,c.2.2.1,c.2.2.2.1,(3:Nat),())⟩ (λ_=>rfl) λF N h=>zjg 2 (zmz.is (Z:=alm) rfl) rfl rfl rfl rfl rfl rfl rfl rfl rfl h
   .exact zx hX zb3 k_
   .exact zx hX zb3 ⟨_,rfl,λF=>⟨_,rfl,q1,rfl,λ_=>rfl,rfl⟩⟩
   .refine uF _ rfl ⟨i64,yrS c ((k:Int)+1)⟩ (λ_=>rfl) λF N h=>?_;refine zn1 hX zvt rfl rfl rfl rfl (xs:=((c,stK c k,()),(k:Int)+1,())) (λU a w hs=>?_) ⟨hr,hm⟩ rfl rfl rfl h;have h1:=hs.ops (.tmp 34);obtain⟨u,r,e1,e2⟩:∃u r,a.eval (.tmp 34)=.agg (List.toArray (u::r))/\True:=by
     obtain⟨u,r,e,_⟩:RepV w _ U almH _ (a.eval (.tmp 34)):=h1;exact⟨u,r,e,t_⟩
    exact⟨_,_,rfl,zp6 (λi o h=>hs.own i o h) (t:=alm) rfl rfl (ls:=[⟨i64,c.1⟩,⟨ints,c.2.1⟩,⟨i64,c.2.2.1⟩,⟨.slice lru,c.2.2.2.1⟩,⟨.obuf i64,(3:Nat)⟩]) rfl rfl e1 h1,_,_,rfl,zeV rfl (hs.ops (.tmp 36)),rfl⟩
   .refine zx hX zb3 ⟨_,rfl,λF=>⟨_,rfl,?_,rfl,λ_=>rfl,rfl⟩⟩;exact zad (by rw[x2];omega) (by rw[x2];omega)
   .refine uF _ rfl ⟨ints,[x0+yrS c ((k:Int)+1)]⟩ (λ_=>rfl) λF N h=>?_;refine StepA.pure hX zb3 (r:=([],⟨ints,[x0+yrS c ((k:Int)+1)]⟩)) rfl t_ rfl rfl rfl rfl h
  have x4:(stK c k).length+1<=1000000000:=by rw[zgT];omega
  refine zX hX zb3 rfl x4 ?_
  iterate 2 (refine zX hX zb3 rfl t_ ?_)
  refine QC.of ?_;refine za (za (zaa zb3 ?_));refine⟨k+1,by omega,by omega,⟨rfl,rfl,rfl,vI64 rfl,t_⟩,⟨rfl,rfl,zmF ?_,t_⟩,rfl,rfl⟩;show stK c k++[x0+yrS c ((k:Int)+1)]=stK c (k+1);rw[ztH,x2];rfl
 .
  have e:k=cycN c:=o_;subst e;apply zaw;refine za (za ?_);refine zae ?_;refine zh8 (by intro c e;cases e) (zjg 2 (zmz.is (Z:=alm) rfl) rfl rfl rfl rfl rfl rfl rfl rfl rfl ?_);refine zaI zb3 ?_;refine AWP.frzL hX 1 4 ?_;exact zp ⟨.inr rfl,D2 rfl⟩
def cCyc:Ctr:={ args:=[alm],pre:=λx=>[0<x.1.2.1.length,x.1.2.1.length<=1000],res:=.tup i64 (.tup i64 .unit),own:=none,out:=λx=>((x.1.2.1.length:Int)-1,x.1.2.1.getD (x.1.2.1.length-1) 0,()) }
theorem zzO:yT zb gmG 133 cCyc:=by
 refine ctr2 zd6 Tryz.func133 Tryz.call133 ?_;rintro w0 O hX ⟨c,_⟩ hp;obtain⟨h0,h1⟩:0<c.2.1.length/\c.2.1.length<=1000:=hp;change AWP _ _ _ _ _ ⟨[(0,⟨alm,c⟩)],[],0⟩ _;have q0:inR .i64 ((c.2.1.length:Int)-1):=zad o_ o_;refine za (za (zaa zd6 ?_));refine ql hX 1 ?_;refine za (za (zaa zd6 ?_));refine za (za ?_)
 let N1:Int:=(c.2.1.length:Int)-1
 let xl:Int:=c.2.1.getD ((c.2.1.length:Int)-1).toNat 0
 let L:List (Nat×Nat×V):=[(0,8,⟨i64,N1⟩),(1,9,⟨.vptr ints,c.2.1⟩),(2,10,⟨ints,c.2.1⟩),(3,11,⟨i64,N1⟩),(4,12,⟨.vptr i64,xl⟩),(5,13,⟨i64,xl⟩)]
 refine zak (Y':=⟨[(1,⟨.vptr alm,c⟩),(2,⟨i64,N1⟩)],[],1⟩) ⟨⟨rfl,rfl,t_⟩,t_,rfl,rfl⟩ ?_;refine zcs 7 [(1,⟨.vptr alm,c⟩),(2,⟨i64,N1⟩)] L dM hX 8 rfl rfl (by kernel_rfl) (by kernel_rfl) rfl ⟨rfl,rfl,t_⟩ ?_ rfl t_ rfl rfl ?_
 .refine(zA (zA (zA (zA (zA (zA (zA qU ?_) ?_) ?_) ?_) ?_) ?_) ?_)
  .exact zx hX zd6 k_
  .exact zx hX zd6 k_
  .exact zx hX zd6 k_
  .exact zx hX zd6 k_
  .exact zx hX zd6 ⟨_,rfl,λF=>⟨_,rfl,⟨show 0<=(c.2.1.length:Int)-1 by omega,show(c.2.1.length:Int)-1<(c.2.1.length:Int) by omega⟩,rfl,λ_=>rfl,rfl⟩⟩
  .exact zx hX zd6 k_
  .refine StepK.same _ rfl (d:=2) ⟨i64,N1⟩ (λ_=>rfl) (λ_=>rfl) λF N h=>?_;exact zX hX zd6 rfl t_ h
 refine zX hX zd6 rfl t_ ?_;refine QC.of (zp ⟨.inr rfl,D2 ?_⟩);show((c.2.1.length:Int)-1,c.2.1.getD ((c.2.1.length:Int)-1).toNat (0:Int),())=_;rw[show((c.2.1.length:Int)-1).toNat=c.2.1.length-1 by omega];rfl
def zAb:Ctr:={ args:=[cal],pre:=λx=>[zbv x.1],res:=.tup i64 (.tup i64 (.tup i64 .unit)),own:=none,out:=λx=>((cycN x.1:Int),sumY x.1 (cycN x.1),0,()) }
def kCy:Kn:={ caK with C:=[(132,zzV),(133,cCyc)] }
theorem zse:KnOk zb gmH kCy:=⟨zmz,zdm,.cons zw1 (.cons zzO.lift .nil),zcb,vp⟩
theorem zuW:yT zb gmH 117 zAb:=by
 refine ctr2 zse Tryz.func117 Tryz.call117 ?_;rintro w0 O hX ⟨(c:Cal),_⟩ hp;have hp:zbv c:=hp;obtain⟨hr,hm,x1,x0,x2,hN⟩:=zcO hp;change AWP _ _ _ _ _ ⟨[(0,⟨cal,c⟩)],[],0⟩ _;have q0:0<(stK c (cycN c)).length:=by rw[zgT];omega
 have q1:(stK c (cycN c)).length<=1000:=by rw[zgT];omega
 iterate 3 (refine za (za (zaa zse ?_)))
 refine zaf rfl (λhb=>by cases hb) (λhb=>?_);apply zah
 iterate 2 (refine za (za (zaa zse ?_)))
 refine zp ⟨.inr rfl,D2 ?_⟩;show(((stK c (cycN c)).length:Int)-1,(stK c (cycN c)).getD ((stK c (cycN c)).length-1) (0:Int),(0:Int),())=_;rw[zgT,show cycN c+1-1=cycN c by omega,zqE c (zj _)];show(((cycN c+1:Nat):Int)-1,_)=((cycN c:Int),_);rw[show((cycN c+1:Nat):Int)-1=(cycN c:Int) by omega]
abbrev eraT:Ty:=.pair cal (.pair i64 (.pair i64 (.pair i64 .unit)))
abbrev plc:Ty:=.pair i64 (.pair i64 (.pair i64 (.pair i64 (.pair i64 (.pair i64 .unit)))))
abbrev Era:=Cal×Int×Int×Int×Unit
abbrev Plc:=Int×Int×Int×Int×Int×Int×Unit
def erT:Tbl:=(195,alm)::(173,eraT)::(177,plc)::gmT
theorem zsH:TOk zb erT gmQ:=zid (by kernel_rfl) (by kernel_rfl)
def erK:Kn:={ T:=erT,Q:=gmQ,U0:=gmU,C:=[] }
theorem zfR:KnOk zb gmH erK:=⟨zsH,zdm,CsOk.nil,zcb,vp⟩
def monL(c:Cal)(y m:Int):Int:=if m<1\/(c.2.1.length:Int)<m then 0 else monS c y m
def cMoL:Ctr:={ args:=[cal,i64,i64],pre:=λx=>[zbv x.1],res:=i64,own:=none,out:=λx=>monL x.1 x.2.1 x.2.2.1 }
def kMoL:Kn:={ erK with C:=[(40,zs2),(136,cMon)] }
theorem zkV:KnOk zb gmH kMoL:=zfR.with (.cons zlh (.cons zvN.lift .nil))
theorem zvO:yT zb gmH 120 cMoL:=by
 refine ctr2 zkV Tryz.func120 Tryz.call120 ?_;rintro w0 O hX ⟨(c:Cal),(y:Int),(m:Int),_⟩ hp;have hp:zbv c:=hp;obtain⟨hr,hm,x0,_⟩:=zcO hp;change AWP _ _ _ _ _ ⟨[(0,⟨cal,c⟩),(1,⟨i64,y⟩),(2,⟨i64,m⟩)],[],0⟩ _
 iterate 2 (refine za (za (zaa zkV ?_)))
 refine zaf rfl (λhb=>?_) (λhb=>?_)
 .have hb:(bif decide (m<1) then true else decide (m>(c.2.1.length:Int)))=true:=hb;rw[b_or,yW,decide_eq_true_iff,decide_eq_true_iff]at hb;refine za (za (zaa zkV ?_));refine zp ⟨.inr rfl,D1 ?_⟩;show(0:Int)=monL c y m;rw[monL,if_pos hb]
 .have hb:(bif decide (m<1) then true else decide (m>(c.2.1.length:Int)))=false:=hb;rw[b_or,xY,decide_eq_false_iff_not,decide_eq_false_iff_not]at hb;apply zah;refine za (za (zaa zkV ?_));refine zp ⟨.inr rfl,D1 ?_⟩;show monS c y m=monL c y m;rw[monL,if_neg o_]
def cYrL:Ctr:={ args:=[cal,i64],pre:=λx=>[zbv x.1],res:=i64,own:=none,out:=λx=>yrS x.1 x.2.1 }
def kYrL:Kn:={ erK with C:=[(40,zs2),(162,cYr)] }
theorem znr:KnOk zb gmH kYrL:=zfR.with (.cons zlh (.cons zvt .nil))
theorem zyM:yT zb gmH 134 cYrL:=by
 refine ctr2 znr Tryz.func134 Tryz.call134 ?_;rintro w0 O hX ⟨c,y,_⟩ hp;obtain⟨hr,hm,x0,_⟩:=zcO hp
 iterate 2 (refine za (za (zaa znr ?_)))
 refine zaf rfl (λhb=>by cases hb) (λhb=>?_);apply zah;refine za (za (zaa znr ?_));exact zp ⟨.inr rfl,D1 rfl⟩
def sumL:List Int->Int
 | []=>0
 |x::l=>x+sumL l
def zhJ(c:Cal):Int:=sumL c.2.1+(if 0<=c.2.2.1 then 1 else 0)
def eraS(c:Cal):Era:=(c,(cycN c:Int),sumY c (cycN c),zhJ c,())
theorem zki:∀{l:List Int},(∀m∈l,1<=m/\m<=40)->0<=sumL l/\sumL l<=40*l.length
 | [],_=>⟨yS _,yS _⟩
 |x::l,h=>by
  have h1:=h x (zC ..);have h2:=zki λm hm=>h m (zE _ hm);simp only[sumL,zv];omega
theorem zlG:∀{l:List Int}{k:Nat}(h:k<l.length),sumL (l.take (k+1))=sumL (l.take k)+l[k]
 |x::l,0,_=>by simp[sumL]
 |x::l,k+1,h=>by
  have:=zlG (l:=l) (k:=k) (by simpa using h);simp only[kI,sumL,this,List.getElem_cons_succ];omega
def cEra:Ctr:={ args:=[cal],pre:=λx=>[zbv x.1],res:=.vptr eraT,own:=none,out:=λx=>eraS x.1 }
def kEra:Kn:={ erK with C:=[(117,zAb)] }
theorem ze7:KnOk zb gmH kEra:=zfR.with (.cons zuW .nil)
theorem zsG:yT zb gmH 84 cEra:=by
 refine ctr2 ze7 Tryz.func84 Tryz.call84 ?_;rintro w0 O hX ⟨(c:Cal),_⟩ hp;have hp:zbv c:=hp;obtain⟨hr,hm,x4,x1,x3,hN⟩:=zcO hp;have x2:=hm.1;change AWP _ _ _ _ _ ⟨[(0,⟨cal,c⟩)],[],0⟩ _
 iterate 3 (refine za (za (zaa ze7 ?_)))
 refine ql hX 1 ?_;refine za (za (zaa ze7 ?_));refine za (za ?_);refine xP (ι:=Nat) (λk=>⟨[(1,⟨.vptr cal,c⟩),(3,⟨.optr eraT,⟨1,eraT,.here⟩⟩),(22,⟨ints,c.2.1⟩),(23,⟨i64,(c.2.1.length:Int)⟩),(24,⟨i64,(k:Int)⟩)],[(1,some (.box eraT (c,(cycN c:Int),sumY c (cycN c),sumL (c.2.1.take k),())))],2⟩) (λk=>k<=c.2.1.length) (λk=>c.2.1.length-k) 0 (zk _) ⟨⟨rfl,rfl,rfl,rfl,rfl,t_⟩,⟨rfl,t_⟩,rfl,rfl⟩ ?_
 .intro k hk;refine za (za (zaa ze7 ?_));refine za (za ?_);refine zaU rfl (λhb=>?_) (λhb=>?_)
  .have hb:(k:Int)<(c.2.1.length:Int):=hb;have x0:k<c.2.1.length:=o_;have hx:=hm.2 _ (xN x0);have hs:=zki (l:=c.2.1.take k) λm h=>hm.2 m (vK h);have x5:(c.2.1.take k).length<=16:=by rw[yU];omega
   have hget:c.2.1.getD (k:Int).toNat 0=c.2.1[k]:=zaY x0;have q1:inR .i64 ((k:Int)+1):=zad o_ o_;have q2:inR .i64 (sumL (c.2.1.take k)+c.2.1.getD (k:Int).toNat 0):=zad (by rw[hget];omega) (by rw[hget];omega);apply zah
   iterate 3 (refine za (za (zaa ze7 ?_)))
   refine⟨k+1,by omega,by omega,⟨rfl,rfl,rfl,rfl,vI64 rfl,t_⟩,⟨zeQ ?_,t_⟩,rfl,rfl⟩;show(c,(cycN c:Int),sumY c (cycN c),sumL (c.2.1.take k)+c.2.1.getD (k:Int).toNat 0,())=_;rw[hget,zlG x0]
  .have hb:¬((k:Int)<(c.2.1.length:Int)):=hb;obtain rfl:k=c.2.1.length:=o_;have hs:=zki (l:=c.2.1) hm.2;have q2:inR .i64 (sumL (c.2.1.take c.2.1.length)+1):=by rw[xR];exact zad o_ o_
   apply zaw;refine zaq (zaq (zac hX ze7 rfl t_ ?_));refine zbi (Y':=⟨[(3,⟨.optr eraT,⟨1,eraT,.here⟩⟩)],[(1,some (.box eraT (eraS c)))],2⟩) ?_ ?_
   .refine zaU rfl (λhb=>?_) (λhb=>?_)
    .have hb:c.2.2.1>=0:=hb;refine za (za (zaa ze7 ?_));refine⟨⟨rfl,t_⟩,⟨zeQ ?_,t_⟩,rfl,rfl⟩;rw[xR];unfold eraS zhJ;rw[if_pos hb]
    .
     refine zah ⟨⟨rfl,t_⟩,⟨zeQ ?_,t_⟩,rfl,rfl⟩;rw[xR];unfold eraS zhJ;rw[if_neg hb,Int.add_zero]
   refine za (za (zaa ze7 ?_));refine ql hX 2 ?_;exact zp ⟨.inr rfl,D1 rfl⟩
def fY(c:Cal):Nat->Int->Int->Int×Int
 |0,r,l=>(r,l)
 |f+1,r,l=>if yrS c l<=r then fY c f (r-yrS c l) (l+1) else(r,l)
def fM(c:Cal)(y:Int):Nat->Int->Int->Int×Int
 |0,r,m=>(r,m)
 |f+1,r,m=>if monL c y m<=r then fM c y f (r-monL c y m) (m+1) else(r,m)
theorem zsy{c:Cal}(h1:∀l,1<=yrS c l):∀(f g:Nat)(r l:Int),r<f->r<g->fY c f r l=fY c g r l
 |0,0,_,_,_,_=>rfl
 |0,g+1,r,l,h,_=>by
  have:=h1 l;rw[fY,fY,if_neg o_]
 |f+1,0,r,l,_,h=>by
  have:=h1 l;rw[fY,fY,if_neg o_]
 |f+1,g+1,r,l,hf,hg=>by
  have:=h1 l;rw[fY,fY];split
  .exact zsy h1 f g _ _ o_ o_
  .rfl
def plcS(c:Cal)(x0:Int):Plc:=
 let t:=(x0-c.1)/sumY c (cycN c)
 let r:=(x0-c.1)%sumY c (cycN c)
 let q:=fY c (r.toNat+1) r 1
 let z:=fM c q.2 (c.2.1.length+1) q.1 1
 (q.2,t*cycN c+q.2,z.2,z.1,q.1,x0,())
def zPlc:Plc:=(0,0,0,0,0,0,())
def zaQ(c:Cal)(x0:Int):Plc×Bool:=if x0<c.1 then(zPlc,false) else(plcS c x0,true)
def zk8(e:Era):Prop:=zbv e.1/\e=eraS e.1
def zld(d:Int):Prop:=-1000000000000<=d/\d<=1000000000000
def zz9:Ctr:={ args:=[.vptr eraT,i64],pre:=λx=>[zk8 x.1,zld x.2.1],res:=.tup plc (.tup .bool .unit),own:=none,out:=λx=>((zaQ x.1.1 x.2.1).1,(zaQ x.1.1 x.2.1).2,()) }
def kFi:Kn:={ erK with C:=[(134,cYrL),(120,cMoL)] }
theorem zbd:KnOk zb gmH kFi:=zfR.with (.cons zyM (.cons zvO .nil))
set_option maxHeartbeats 8000000 in
theorem zxY:yT zb gmH 118 zz9:=by
 refine ctr2 zbd Tryz.func118 Tryz.call118 ?_;rintro w0 O hX ⟨(e:Era),(d:Int),_⟩ hp;obtain⟨⟨hc,he⟩,xm,xt⟩:zk8 e/\zld d:=hp;obtain⟨c,ys,ds,lg,⟨⟩⟩:=e;obtain⟨rfl,rfl,rfl⟩:ys=(cycN c:Int)/\ds=sumY c (cycN c)/\lg=zhJ c:=by
  simp only[eraS,Prod.mk.injEq]at he;exact⟨he.2.1,he.2.2.1,he.2.2.2.1⟩
 have hc:zbv c:=hc;obtain⟨hr,hm,x9,xe,xk,hN⟩:=zcO hc;have xr:=hc.1;have xn:=zie hm x9 (cycN c);have x6:=λy=>zjE (c:=c) (y:=y) hm x9;change AWP _ _ _ _ _ ⟨[(0,⟨.vptr eraT,(c,(cycN c:Int),sumY c (cycN c),zhJ c,())⟩),(1,⟨i64,d⟩)],[],0⟩ _
 let e:Era:=(c,(cycN c:Int),sumY c (cycN c),zhJ c,())
 iterate 2 (refine za (za (zaa zbd ?_)))
 refine zaU rfl (λhb=>?_) (λhb=>?_)
 .have hb:d<c.1:=hb;refine za (za (zaa zbd ?_));refine zp ⟨.inr rfl,D2 ?_⟩;show(zPlc,false,())=((zaQ c d).1,(zaQ c d).2,());rw[zaQ,if_pos hb]
 have hb:¬(d<c.1):=hb;have xg:=hb;apply zah;have q1:inR .i64 (d-c.1):=zad o_ o_;have q2:sumY c (cycN c)≠0:=o_;have ed:(d-c.1).tdiv (sumY c (cycN c))=(d-c.1)/sumY c (cycN c):=Int.tdiv_eq_ediv_of_nonneg o_;have em:(d-c.1).tmod (sumY c (cycN c))=(d-c.1)%sumY c (cycN c):=Int.tmod_eq_emod_of_nonneg o_;obtain⟨T,hT⟩:∃T,T=(d-c.1)/sumY c (cycN c):=⟨_,rfl⟩;obtain⟨R,hR⟩:∃R,R=(d-c.1)%sumY c (cycN c):=⟨_,rfl⟩;have xf:0<=R:=by rw[hR];exact qq _ q2
 have xi:R<sumY c (cycN c):=by rw[hR];exact xS _ o_
 have xb:0<=T:=by rw[hT];exact Int.ediv_nonneg o_ o_
 have xq:T<=d-c.1:=by rw[hT];exact Int.ediv_le_self _ o_
 have q3:inR .i64 ((d-c.1).tdiv (sumY c (cycN c))):=by rw[ed, <-hT];exact zad o_ o_
 refine za (za (zdn 26 dM zbd rfl ?_))
 let S (b:zN) (x:Plc):AS:=⟨b++[(0,⟨.vptr eraT,e⟩),(1,⟨i64,d⟩),(4,⟨.optr plc,⟨0,plc,.here⟩⟩),(6,⟨i64,T⟩),(8,⟨.optr plc,⟨1,plc,.here⟩⟩)],[(0,some (.box plc zPlc)),(1,some (.box plc x))],2⟩
 refine zak (Y':=⟨[(0,⟨.vptr eraT,e⟩),(1,⟨i64,d⟩),(4,⟨.optr plc,⟨0,plc,.here⟩⟩),(6,⟨i64,T⟩),(7,⟨i64,R⟩)],[(0,some (.box plc zPlc))],1⟩) ⟨⟨rfl,rfl,rfl,vI64 (ed.trans hT.symm),vI64 (em.trans hR.symm),t_⟩,⟨rfl,t_⟩,rfl,rfl⟩ ?_;refine za (za (zaa zbd ?_));refine za (za (zdn 8 dM zbd rfl ?_));refine za (za ?_);refine xP (ι:=Int×Int) (λp=>S [(7,⟨i64,p.1⟩),(9,⟨i64,yrS c p.2⟩)] (p.2,0,1,0,0,d,())) (λp=>0<=p.1/\1<=p.2/\p.1+p.2<=R+1/\fY c (R.toNat+1) R 1=fY c (p.1.toNat+1) p.1 p.2) (λp=>p.1.toNat) (R,1) ⟨xf,yS _,yS _,rfl⟩ ⟨⟨rfl,rfl,rfl,rfl,rfl,rfl,rfl,t_⟩,⟨rfl,rfl,t_⟩,rfl,rfl⟩ ?_;rintro ⟨r,l⟩ ⟨x5,xa,xd,x4⟩;have x5:0<=r:=x5;have xa:1<=l:=xa;have xd:r+l<=R+1:=xd;have x4:fY c (R.toNat+1) R 1=fY c (r.toNat+1) r l:=x4;have hy:=x6 l;refine za (za (zaa zbd ?_));refine za (za ?_);refine zaU rfl (λhb=>?_) (λhb=>?_)
 .have hb:r>=yrS c l:=hb;have q4:inR .i64 (r-yrS c l):=zad o_ o_;have q5:inR .i64 (l+1):=zad o_ o_;apply zah
  iterate 2 (refine za (za (zaa zbd ?_)))
  refine za (za (zdn 8 dM zbd rfl ?_));refine⟨(r-yrS c l,l+1),⟨by show 0<=r-yrS c l;omega,by show 1<=l+1;omega,by show r-yrS c l+(l+1)<=R+1;omega,?_⟩,by show(r-yrS c l).toNat<r.toNat;omega,⟨rfl,rfl,rfl,rfl,rfl,rfl,rfl,t_⟩,⟨rfl,rfl,t_⟩,rfl,rfl⟩;show _=fY c ((r-yrS c l).toNat+1) (r-yrS c l) (l+1);rw[x4,fY,if_pos o_];exact zsy (λl=>(x6 l).1) _ _ _ _ o_ o_
 have hb:¬(r>=yrS c l):=hb;have hq:fY c (R.toNat+1) R 1=(r,l):=by rw[x4,fY,if_neg o_]
 apply zaw;have q6:inR .i64 (T*(cycN c:Int))/\inR .i64 (T*(cycN c:Int)+l):=by
  have h1:T*(cycN c:Int)<=T*400:=Int.mul_le_mul_of_nonneg_left o_ xb;have h2:0<=T*(cycN c:Int):=Int.mul_nonneg xb o_;exact⟨zad o_ o_,zad o_ o_⟩
 refine za (za ?_)
 let x1:Plc:=(l,0,1,0,0,d,())
 let x2:Plc:=(l,T*(cycN c:Int)+l,1,0,0,d,())
 let E1:Owns:=[(0,some (.box plc zPlc)),(1,some (.box plc x2))]
 let x7 (k:Nat):V:=match k with
  |0=>⟨.optr i64,⟨1,plc,.fst .here⟩⟩
  |1=>⟨.optr i64,⟨1,plc,.fst (.snd .here)⟩⟩
  |_=>⟨.optr i64,⟨1,plc,.fst (.snd (.snd (.snd (.snd .here))))⟩⟩
 let L:List (Nat×Nat×V):=[(0,69,⟨i64,T⟩),(1,70,⟨.vptr eraT,e⟩),(2,71,⟨.vptr eraT,e⟩),(3,72,⟨.vptr i64,(cycN c:Int)⟩),(4,73,⟨i64,(cycN c:Int)⟩),(5,74,⟨i64,T*(cycN c:Int)⟩),(6,75,x7 0),(7,76,⟨i64,l⟩),(8,77,⟨i64,T*(cycN c:Int)+l⟩),(9,78,⟨i64,r⟩),(10,79,x7 1)]
 refine zak (Y':=S [(7,⟨i64,r⟩)] x1) ⟨⟨rfl,rfl,rfl,rfl,rfl,rfl,t_⟩,⟨rfl,rfl,t_⟩,rfl,rfl⟩ ?_;refine zvl 12 11 E1 (S [(7,⟨i64,r⟩)] x1).F L dM hX 14 rfl rfl (by kernel_rfl) (by kernel_rfl) rfl ⟨rfl,rfl,rfl,rfl,rfl,rfl,t_⟩ ?_ rfl ⟨rfl,rfl,t_⟩ rfl rfl rfl ?_
 .refine(zA (zA (zA (zA (zA (zA (zA (zA (zA (zA (zA (zA qU ?_) ?_) ?_) ?_) ?_) ?_) ?_) ?_) ?_) ?_) ?_) ?_)
  .exact StepP.eval hX zbd d_ k_ k_
  .exact StepP.eval hX zbd d_ k_ k_
  .exact StepP.eval hX zbd d_ k_ k_
  .exact StepP.eval hX zbd d_ k_ k_
  .exact StepP.eval hX zbd d_ k_ k_
  .exact StepP.eval hX zbd d_ ⟨_,rfl,λF=>⟨_,rfl,q6.1,rfl,λ_=>rfl,rfl⟩⟩ ⟨_,rfl,λF=>⟨_,rfl,q6.1,rfl,λ_=>rfl,rfl⟩⟩
  .exact StepP.eval hX zbd d_ k_ k_
  .exact StepP.eval hX zbd d_ k_ k_
  .exact StepP.eval hX zbd d_ ⟨_,rfl,λF=>⟨_,rfl,q6.2,rfl,λ_=>rfl,rfl⟩⟩ ⟨_,rfl,λF=>⟨_,rfl,q6.2,rfl,λ_=>rfl,rfl⟩⟩
  .exact StepP.eval hX zbd d_ k_ k_
  .exact StepP.eval hX zbd d_ k_ k_
  .exact StepP.store (StepX.eval hX zbd ⟨_,rfl,λF=>⟨_,rfl,t_,rfl,λj=>(match j with |0=>rfl|1=>rfl|_+2=>rfl),rfl⟩⟩)
 iterate 2 (refine zX hX zbd rfl t_ ?_)
 refine QC.of ?_
 let Y0:Int:=T*(cycN c:Int)+l
 obtain⟨Z0,hZ⟩:∃Z0,Z0=fM c l (c.2.1.length+1) r 1:=⟨_,rfl⟩;refine za (za ?_);refine xP (ι:=Int×Nat) (λp=>S [(7,⟨i64,p.1⟩)] (l,Y0,(p.2:Int)+1,0,r,d,())) (λp=>0<=p.1/\p.2<c.2.1.length/\p.1<yrS c l-yrK c l p.2/\Z0=fM c l (c.2.1.length+1-p.2) p.1 ((p.2:Int)+1)) (λp=>p.1.toNat) (r,0) ⟨x5,by show 0<c.2.1.length;omega,by show r<yrS c l-0;omega,hZ⟩ ⟨⟨rfl,rfl,rfl,rfl,rfl,rfl,t_⟩,⟨rfl,rfl,t_⟩,rfl,rfl⟩ ?_;rintro ⟨r',j⟩ ⟨x3,hj,xc,x0⟩;have x3:0<=r':=x3;have hj:j<c.2.1.length:=hj;have xc:r'<yrS c l-yrK c l j:=xc;have x0:Z0=fM c l (c.2.1.length+1-j) r' ((j:Int)+1):=x0;have x8:monL c l ((j:Int)+1)=monS c l ((j:Int)+1):=by rw[monL,if_neg o_]
 have xo:=zkM (c:=c) (y:=l) (m:=(j:Int)+1) hm o_ o_;have xj:=zn2 (c:=c) (y:=l) hm j o_;have xp:=x6 l;obtain⟨f,hf⟩:∃f,c.2.1.length+1-j=f+1:=⟨c.2.1.length-j,by omega⟩;rw[hf,fM,x8]at x0;refine za (za (zdn 10 dM zbd rfl ?_));refine zak (Y':=S [(7,⟨i64,r'⟩),(10,⟨i64,monS c l ((j:Int)+1)⟩)] (l,Y0,(j:Int)+1,0,r,d,())) ⟨⟨rfl,vI64 x8,rfl,rfl,rfl,rfl,rfl,t_⟩,⟨rfl,rfl,t_⟩,rfl,rfl⟩ ?_;refine za (za (zaa zbd ?_));refine za (za ?_);refine zaU rfl (λhb=>?_) (λhb=>?_)
 .have hb:r'<monS c l ((j:Int)+1):=hb;rw[if_neg o_]at x0;apply zaw
  iterate 2 (refine za (za (zaa zbd ?_)))
  refine zp ⟨.inr rfl,D2 ?_⟩;show((l,Y0,(j:Int)+1,r',r,d,()),true,())=((zaQ c d).1,(zaQ c d).2,());have e:zaQ c d=(plcS c d,true):=if_neg xg;rw[e];have e2:plcS c d=(l,Y0,(j:Int)+1,r',r,d,()):=by
   unfold plcS;simp only[<-hT, <-hR,hq, <-hZ,x0];rfl
  rw[e2]
 .have hb:¬(r'<monS c l ((j:Int)+1)):=hb;rw[if_pos o_]at x0;have xh:j+1<c.2.1.length:=by
   have:¬j+1=c.2.1.length:=λe=>by
    have h1:yrS c l=yrK c l (j+1):=by rw[e];rfl
    have h2:yrK c l (j+1)=yrK c l j+monS c l ((j:Int)+1):=rfl;omega
   omega
  have q7:inR .i64 (r'-monS c l ((j:Int)+1)):=zad o_ o_;have q8:inR .i64 ((j:Int)+1+1):=zad (by have:=hm.1;omega) (by have:=hm.1;omega);apply zah
  iterate 2 (refine za (za (zaa zbd ?_)))
  refine⟨(r'-monS c l ((j:Int)+1),j+1),⟨by show 0<=r'-monS c l ((j:Int)+1);omega,xh,?_,?_⟩,by show(r'-monS c l ((j:Int)+1)).toNat<r'.toNat;omega,⟨rfl,rfl,rfl,rfl,rfl,rfl,t_⟩,⟨rfl,rfl,t_⟩,rfl,rfl⟩
  .show r'-monS c l ((j:Int)+1)<yrS c l-(yrK c l j+monS c l ((j:Int)+1));omega
  .rw[x0];rw[show c.2.1.length+1-(j+1)=f by omega];rfl
abbrev zqR:Ty:=.tup (.vptr i64) (.tup (.vptr i64) .unit)
def zet(p:Plc):Int:=p.1
def pMon(p:Plc):Int:=p.2.2.1
def pDay(p:Plc):Int:=p.2.2.2.1
def pNth(p:Plc):Int:=p.2.2.2.2.1
def pNum(p:Plc):Int:=p.2.2.2.2.2.1
def scpA(p:Plc)(k:Int):Int:=if k=1 then pNum p-pNth p else pNum p-pDay p
def scpN(c:Cal)(p:Plc)(k:Int):Int:=if k=1 then yrS c (zet p) else monL c (zet p) (pMon p)
def cScp:Ctr:={ args:=[.vptr eraT,plc,i64],pre:=λx=>[zbv x.1.1,inR .i64 (pNum x.2.1-pDay x.2.1),inR .i64 (pNum x.2.1-pNth x.2.1)],res:=.clo 138 zqR,own:=none,out:=λx=>(scpA x.2.1 x.2.2.1,scpN x.1.1 x.2.1 x.2.2.1,()) }
def scpB(e:Era)(p:Plc)(k:Int):zN:=[(0,⟨.vptr eraT,e⟩),(2,⟨i64,k⟩),(4,⟨.vptr plc,p⟩)]
def scpL(e:Era)(p:Plc):List (Nat×Nat×V):=[(0,9,⟨.vptr i64,pNum p⟩),(1,10,⟨i64,pNum p⟩),(2,11,⟨.vptr i64,pDay p⟩),(3,12,⟨i64,pDay p⟩),(4,13,⟨i64,pNum p-pDay p⟩),(5,14,⟨.vptr eraT,e⟩),(6,15,⟨.vptr eraT,e⟩),(7,16,⟨.vptr cal,e.1⟩),(8,17,⟨cal,e.1⟩),(9,18,⟨.vptr i64,zet p⟩),(10,19,⟨i64,zet p⟩),(11,20,⟨.vptr i64,pMon p⟩),(12,21,⟨i64,pMon p⟩),(13,22,⟨i64,monL e.1 (zet p) (pMon p)⟩),(14,7,⟨.optr i64,⟨1,i64,.here⟩⟩),(15,8,⟨.optr i64,⟨2,i64,.here⟩⟩)]
set_option maxHeartbeats 8000000 in
theorem zyY:yT zb gmH 122 cScp:=by
 refine ctr2 zbd Tryz.func122 Tryz.call122 ?_;rintro w0 O hX ⟨e,p,k,_⟩ hp;obtain⟨hc,q1,q2⟩:=hp;refine za (za (zaa zbd ?_));refine ql hX 4 ?_;refine zak (Y':=⟨scpB e p k,[],1⟩) ⟨⟨rfl,rfl,rfl,t_⟩,t_,rfl,rfl⟩ ?_;refine za (za ?_);have x0:∀R:List (Nat×Nat),∀done:List Nat,hasN done 14=false\/rnV R ⟨.optr i64,⟨1,i64,.here⟩⟩=⟨.optr i64,⟨1,i64,.here⟩⟩->hasN done 15=false\/rnV R ⟨.optr i64,⟨2,i64,.here⟩⟩=⟨.optr i64,⟨2,i64,.here⟩⟩->∀x,(x∈scpB e p k\/∃q∈scpL e p,q.1∈done/\q.2=x)->rnV R x.2=x.2:=by
  rintro R done x2 x1 x (hx|⟨q,hq,hd,rfl⟩)
  .simp only[scpB,zs,jd,or_false]at hx;rcases hx with rfl|rfl|rfl<;>rfl
  .simp only[scpL,zs,jd,or_false]at hq;rcases hq with rfl|rfl|rfl|rfl|rfl|rfl|rfl|rfl|rfl|rfl|rfl|rfl|rfl|rfl|rfl|rfl
   all_goals first|rfl|exact x2.resolve_left (by rw[zaz.2 hd];decide)|exact x1.resolve_left (by rw[zaz.2 hd];decide)
 refine zpe 16 14 15 [(1,some (.box i64 (0:Int)))] [(2,some (.box i64 (0:Int)))] [(2,some (.box i64 (0:Int))),(1,some (.box i64 (0:Int)))] 2 3 3 (scpB e p k) (scpL e p) dM hX 18 rfl rfl (by kernel_rfl) (by kernel_rfl) rfl ⟨rfl,rfl,rfl,t_⟩ d_ (zA (zA (zA (zA (zA (zA (zA (zA (zA (zA (zA (zA (zA (zA (zA (zA qU ?_) ?_) ?_) ?_) ?_) ?_) ?_) ?_) ?_) ?_) ?_) ?_) ?_) ?_) ?_) ?_) rfl ⟨rfl,rfl,t_⟩ rfl rfl rfl rfl ?_
 rotate_left
 all_goals first
  |(refine⟨λ_ _ E nx _=>zx hX zbd ⟨_,rfl,λF=>⟨_,rfl,?_,rfl,λ_=>rfl,rfl⟩⟩,λh=>absurd h d_,λh=>absurd h d_⟩;first|exact t_|exact q1|exact hc)
  |skip
 .exact⟨λh=>absurd rfl h,λ_ done h1 _=>⟨λh2=>uG hX zbd k_,λh2=>zmK hX rfl zbd [(0,0),(2,2),(3,1)] rfl (λ_=>x0 _ done (.inl h1) (.inr rfl)) ⟨_,rfl,λF hF=>⟨_,rfl,t_,congrArg (λG=>(7,(⟨.optr i64,⟨1,i64,.here⟩⟩:V))::(scpB e p k++G)) hF,λj=>(match j with |0=>rfl|1=>rfl|2=>rfl|_+3=>rfl),rfl⟩⟩ rfl⟩,λh=>absurd h d_⟩
 .exact⟨λ_ h=>absurd rfl h,λh=>absurd h d_,λ_ done h1 _=>⟨λh2=>zmK hX rfl zbd [(0,0),(1,2)] rfl (λ_=>x0 _ done (.inl h2) (.inl h1)) ⟨_,rfl,λF hF=>⟨_,rfl,t_,congrArg (λG=>(8,(⟨.optr i64,⟨2,i64,.here⟩⟩:V))::(scpB e p k++G)) hF,λj=>(match j with |0=>rfl|1=>rfl|2=>rfl|_+3=>rfl),rfl⟩⟩ rfl,λh2=>uG hX zbd k_⟩⟩
 iterate 2 (refine zX hX zbd rfl t_ ?_)
 refine QC.of ?_;refine za (za (zaa zbd ?_));refine za (za ?_);refine zbi (Y':=⟨[(7,⟨.optr i64,⟨1,i64,.here⟩⟩),(8,⟨.optr i64,⟨2,i64,.here⟩⟩)],[(1,some (.box i64 (scpA p k))),(2,some (.box i64 (scpN e.1 p k)))],3⟩) ?_ ?_
 .refine zaU rfl (λhb=>?_) (λhb=>?_)
  .
   refine za (za (zdn 12 dM zbd rfl ?_));refine⟨⟨rfl,rfl,t_⟩,⟨zeQ ?_,zeQ ?_,t_⟩,rfl,rfl⟩
   .exact(if_pos hb).symm
   .exact(if_pos hb).symm
  .
   refine zah ⟨⟨rfl,rfl,t_⟩,⟨zeQ ?_,zeQ ?_,t_⟩,rfl,rfl⟩
   .exact(if_neg hb).symm
   .exact(if_neg hb).symm
 refine ql hX 7 ?_;refine ql hX 8 ?_;refine za (za (zaa zbd ?_));exact zp ⟨.inr rfl,D1 rfl⟩
def incL(l:List Int):Prop:=∀a b:Nat,a<b->b<l.length->l.getD a 0<l.getD b 0
def posL(l:List Int)(t:Int):Nat:=(l.takeWhile λx=>decide (x<t)).length
theorem zri:∀{l:List Int}{t:Int}{i:Nat},i<=l.length->(∀k,k<i->l.getD k 0<t)->(i<l.length->¬l.getD i 0<t)->posL l t=i
 | [],t,i,hi,_,_=>by
  have:i=0:=by simpa using hi
  subst this;rfl
 |x::l,t,0,_,_,h=>by
  have:¬x<t:=h (by simp);unfold posL;rw[List.takeWhile_cons_of_neg (by simpa using this)];rfl
 |x::l,t,i+1,hi,h1,h2=>by
  have hx:=h1 0 o_;have ih:=zri (l:=l) (t:=t) (i:=i) (by simpa using hi) (λk hk=>h1 (k+1) o_) (λhk=>h2 (by simpa using hk));unfold posL at ih ⊢;rw[List.takeWhile_cons_of_pos (by simpa using hx),zv,ih]
def zz0:Ctr:={ args:=[i64,i64],pre:=λ_=>[],res:=.bool,own:=none,out:=λx=>decide (x.1<x.2.1) }
def cNan:Ctr:={ args:=[i64],pre:=λ_=>[],res:=.bool,own:=none,out:=λ_=>false }
theorem zxa:yT zb gmH 186 cNan:=by
 refine ctr2 zaj Tryz.func186 Tryz.call186 ?_;rintro w0 O hX ⟨(a:Int),_⟩ hp;change AWP _ _ _ _ _ ⟨[(0,⟨i64,a⟩)],[],0⟩ _
 iterate 2 (refine za (za (zaa zaj ?_)))
 refine zp ⟨.inr rfl,D1 ?_⟩;show(a != a)=false;simp
end
end Go.Proofs.YthbecdbmifchiaaGreatDoor
