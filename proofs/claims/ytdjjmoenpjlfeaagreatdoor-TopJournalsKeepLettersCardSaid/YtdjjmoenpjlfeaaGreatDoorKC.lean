/-
  Texts of this claim, joined: what the statement's proof uses.
-/
import Derived.Test.YtdjjmoenpjlfeaaGreatDoorKB
set_option linter.unusedSimpArgs false
set_option linter.unusedVariables false
set_option maxRecDepth 100000
open Array renaming getD_eq_getD_getElem? -> yA,getElem?_eq_some_iff -> zv,getElem?_setIfInBounds -> qz,replicate -> zG
open BitVec renaming ofInt -> zV,ofNat -> zW,toNat_ofNat -> xA
open Bool renaming and_eq_false_iff -> uK,and_eq_true -> zh,and_false -> vO,eq_false_iff -> uF,eq_iff_iff -> qA,false_and -> wx,false_or -> jQ,not_eq_false' -> jD,not_eq_true' -> xJ,or_eq_false_iff -> jM,or_eq_true -> xO,or_false -> vm,or_true -> vF,true_or -> ke
open ByteArray renaming size -> vL
open Go renaming Deferred -> jF,FuncId -> yR,Operand -> zK,Program -> zA,TypeId -> zy,Value -> zi,World -> zj,wpIn_mono -> zT
open Go.Deferred renaming ofValue -> jv
open Go.Fence renaming wide -> yU
open Go.Instr renaming sureAddr -> qa
open Go.Lib renaming decDigits -> qH
open Go.Operand renaming const -> f7
open Go.Proofs.Tryz renaming prog -> zf
open Go.Proofs.YtdjjmoenpjlfeaaGreatDoor renaming CtrOk -> yQ,Frame -> yF,OwnRep -> yZ,SameOn -> fG,StepA -> kK
open Go.Proofs.YtdjjmoenpjlfeaaGreatDoor.AL renaming hand -> jg
open Go.Proofs.YtdjjmoenpjlfeaaGreatDoor.AWP renaming frz -> vo,frzB -> xN,len -> kC,loop -> yK,ret -> zC
open Go.Proofs.YtdjjmoenpjlfeaaGreatDoor.AllN renaming of_mem -> fN
open Go.Proofs.YtdjjmoenpjlfeaaGreatDoor.CsOk renaming nil -> ue
open Go.Proofs.YtdjjmoenpjlfeaaGreatDoor.Frame renaming get -> zr,kill -> jU
open Go.Proofs.YtdjjmoenpjlfeaaGreatDoor.Kept renaming refl -> jw
open Go.Proofs.YtdjjmoenpjlfeaaGreatDoor.Ownr renaming one -> uU
open Go.Proofs.YtdjjmoenpjlfeaaGreatDoor.Owns renaming get -> zq
open Go.Proofs.YtdjjmoenpjlfeaaGreatDoor.RepV renaming keep -> xF
open Go.Proofs.YtdjjmoenpjlfeaaGreatDoor.RsOk renaming nil -> ww
open Go.Proofs.YtdjjmoenpjlfeaaGreatDoor.Sim renaming act -> fU
open Go.Proofs.YtdjjmoenpjlfeaaGreatDoor.StepA renaming eval -> yD,hand -> uQ
open Go.Region renaming binds -> qX
open Go.Result renaming andThen_ok -> zD
open Go.RowKit renaming Below -> xW
open Go.RowKit.Below renaming refl -> zY
open Go.Sem renaming run_bind -> zJ,run_pure -> zI
open Go.Utf8 renaming decode -> gH
open Go.Value renaming func -> wv,int -> qD,pointer -> zz
open Go.World renaming alloc_heap_new -> xK,cell? -> qd,putObj_heap_other -> xD,putObj_heap_same -> jx
open Int renaming toNat_natCast -> zS,toNat_of_nonneg -> km
open List renaming all_cons -> vl,all_eq_true -> yH,any_eq_true -> ur,drop_eq_getElem_cons -> xR,findIdx_getElem -> gG,foldl_append -> kV,getD -> zx,getD_eq_getElem?_getD -> zH,getElem?_eq_getElem -> zR,getElem?_eq_none -> gn,getElem?_eq_some_iff -> xB,getElem?_map -> yB,getElem?_take -> yM,getElem?_toArray -> uI,getElem_mem -> qc,length -> zp,length_append -> zl,length_cons -> yT,length_erase_of_mem -> wP,length_singleton -> qy,map_append -> xX,map_cons -> qN,mem_append -> yJ,mem_cons -> zE,mem_cons_of_mem -> yO,mem_cons_self -> yN,mem_filterMap -> vN,mem_map -> jo,mem_map_of_mem -> uu,mem_of_getElem? -> ja,mem_range -> qr,mem_singleton -> zQ,nodup_cons -> kG,nodup_nil -> gF,range -> xQ,replicate -> zg,replicate_succ -> uv,set_append_right -> qW,take_succ_eq_append_getElem -> zN
open Nat renaming beq -> yG,beq_eq -> qE,ble -> xM,ble_eq_true_of_le -> uJ,blt -> zO,eq_of_beq_eq_true -> xL,gcd -> j9,gcd_pos_of_pos_right -> wQ,lcm -> kD,le_of_ble_eq_true -> zb,le_refl -> zu,le_trans -> zL,lt_of_lt_of_le -> zF,lt_succ_self -> qw,mul_div_cancel_left -> wY,not_lt_zero -> yS,zero_le -> zk
open Nat.succ renaming inj -> wj
open Option renaming map_eq_some_iff -> yC
open Option.some renaming inj -> yP
open UInt8 renaming le_iff_toNat_le -> vg,ofNat -> zM
open Go Go.RowKit
namespace Go.Proofs.YtdjjmoenpjlfeaaGreatDoor
def zcX(E:Owns):Nat->Bool
 |0=>true
 |k+1=>(match zq E k with
  |some o=>!o.isBuf
  |none=>false)&&zcX E k
theorem zid{E:Owns}:∀{K:Nat},zcX E K=true->∀i,i<K->∃o,zq E i=some o/\o.isBuf=false
 |0,_,i,hi=>absurd hi (yS _)
 |k+1,h,i,hi=>by
  have h:((match zq E k with
   |some o=>!o.isBuf
   |none=>false)&&zcX E k)=true:=h
  rw[zh]at h;by_cases hk:i=k
  .subst hk;have h1:=h.1;cases ho:zq E i with
   |none=>rw[ho]at h1;cases h1
   |some o=>rw[ho]at h1;exact⟨o,rfl,by simpa using h1⟩
  .exact zid h.2 i o_
def zhc(U:Nat->zi)(i:Nat):Nat:=(zai (U i)).getD 0
section
variable {w0 w w1:zj}{X:Ownr}{n m K:Nat}{F F':yF}{E:Owns}{nx:Nat}{U:Nat->zi}{a a1:Act}{ex:Nat->Prop}
theorem zhj(h:Sim w0 X n ⟨F,E,nx⟩ U a w)(hb:zcX E K=true){i:Nat}(hi:i<K):∃o,zq E i=some o/\o.isBuf=false/\zai (U i)=some (zhc U i):=by
 obtain⟨o,ho,x0⟩:=zid hb i hi;refine⟨o,ho,x0,?_⟩;have h1:=h.own i o ho;unfold zhc;cases o with
 |box t x=>obtain⟨g,_,_,e,_⟩:=h1;rw[e];rfl
 |buf te t xs=>cases x0
 |hbox ty vs=>obtain⟨g,_,e,_⟩:=h1;rw[e];rfl
 |mp m I=>obtain⟨_,_,e,_⟩:=h1;rw[e];rfl
theorem zgm(h:Sim w0 X n ⟨F,E,nx⟩ U a w){g:Nat}(hg:∃i o,zq E i=some o/\zai (U i)=some g):g<w.heap.size:=by
 obtain⟨i,o,ho,hf⟩:=hg;exact((h.own i o ho).block_lt hf).2
end
section
variable {P:zA}{K:Kn}{w0:zj}{X:Ownr}{n:Nat}{Y:AS}{Q:Exit->AS->Prop}{ops:Array Oper}
theorem StepA.conv{o:Oper}{Y':AS}{N:AS->Prop}(hs:∀U a w,Sim w0 X n Y U a w->∃U',Sim w0 X n Y' U' a w)(h:kK P w0 X n ops o Y' N Q):kK P w0 X n ops o Y N Q:=
 λU a w I R x0 hI hR=>by
  obtain⟨U',h'⟩:=hs U a w x0;exact h U' a w I R h' hI hR
def rnK(L:List (Nat×Nat)):Nat->Bool
 |0=>true
 |k+1=>yG (rnF L k) k&&rnK L k
theorem znJ{L:List (Nat×Nat)}:∀{k:Nat},rnK L k=true->∀i,i<k->rnF L i=i
 |0,_,i,hi=>absurd hi (yS _)
 |k+1,h,i,hi=>by
  have h:(yG (rnF L k) k&&rnK L k)=true:=h;rw[zh]at h;by_cases e:i=k
  .subst e;exact xL h.1
  .exact znJ h.2 i o_
theorem Sim.renameK{w:zj}{U:Nat->zi}{a:Act}{L:List (Nat×Nat)}(h:Sim w0 X n Y U a w)(hL:rnOk L=true){m:Nat}(x0:rnK L X.K=true)(x3:X.K<=m)(hF:bndB m (rnFr L Y.F)=true)(hE:bndE m (rnE L Y.E)=true):Sim w0 X n ⟨rnFr L Y.F,rnE L Y.E,m⟩ (λj=>U (rnB L j)) a w:=by
 have hO:∀g,OSet X (rnE L Y.E) (λj=>U (rnB L j)) g->OSet X Y.E U g:=by
  rintro g (hg|⟨j,o',h1,h2⟩)
  .exact .inl hg
  .obtain⟨o,_,h4,_⟩:=zcw hL _ _ _ h1;exact .inr ⟨_,o,h4,h2⟩
 have hk:Keeps w w (OSet X Y.E U) (OSet X (rnE L Y.E) (λj=>U (rnB L j))):=⟨zu _,λ_ _ _=>rfl,λg _ hg=>hO g hg⟩;have hb:∀i,i<X.K->rnB L i=i:=λi hi=>by
  have:=zmM L i hL;rwa[znJ x0 i hi]at this
 refine⟨h.sz,h.df,h.bel,λs=>?_,λj o' hj=>?_,λj o' g hj hg=>?_,λi j oi oj hi hj x1 g=>?_,λj o' hj=>zi3 hE hj,⟨x3,λi hi=>?_⟩,λs=>zda hF s,λj o' hj=>(zfy hE hj).2⟩
 .
  rw[zlH];exact zkw hL _ (xF hk _ _ _ (h.fr s))
 .obtain⟨o,_,h2,rfl⟩:=zcw hL _ _ _ hj;have h3:=(h.own _ o h2).keep hk λ_ _=>rfl;cases o with
  |hbox ty vs=>
   obtain⟨g,cs,e,k1,k2,k3⟩:=h3;exact⟨g,cs,e,k1,k2,zis hL k3⟩
  |box t x=>exact h3
  |buf te t xs=>exact h3
  |mp m I=>exact h3
 .obtain⟨o,_,h2,_⟩:=zcw hL _ _ _ hj;exact h.new _ o g h2 hg
 .obtain⟨p,e1,h1,_⟩:=zcw hL _ _ _ hi;obtain⟨q,e2,h2,_⟩:=zcw hL _ _ _ hj;exact h.inj _ _ p q h1 h2 (λe=>x1 (by rw[e1,e2,e])) g
 .obtain⟨k1,k2⟩:=h.fix.2 i hi;refine⟨by show zai (U (rnB L i))=_;rw[hb i hi];exact k1,λo' x2=>?_⟩;obtain⟨o,_,h2,rfl⟩:=zcw hL _ _ _ x2;rw[hb i hi]at h2;rw[znI];exact k2 o h2
theorem AWP.renameK{c:Code}(L:List (Nat×Nat))(m:Nat)(h:AWP P w0 X n c ⟨rnFr L Y.F,rnE L Y.E,m⟩ Q)(x0:rnK L X.K=true)(x1:X.K<=m)(hL:rnOk L=true:=by rfl)(hF:bndB m (rnFr L Y.F)=true:=by rfl)(hE:bndE m (rnE L Y.E)=true:=by rfl):AWP P w0 X n c Y Q:=
 λU a w hs=>h _ a w (hs.renameK hL x0 x1 hF hE)
end
section
open Go Go.RowKit Go.Lib
section
variable {P:zA}{w:zj}{O:Nat->Prop}{U:Nat->zi}
theorem zhv(s:List UInt8):strCells ⟨s.toArray⟩=zbo s:=by
 simp[strCells,zbo]
theorem zlo{t u e:zy}{i:TypeInfo}(ht:P.underlying t=some (.slice e))(hu:P.underlying u=some .string)(hi:P.info? e=some i)(hz:i.zero=some (.int .u8 0))(x0:i.size=1)(x4:i.bytes=1)(ty:zy){B:Nat}(hB:B<=w.heap.size){bv:zi}{xs:List UInt8}(x6:yZ w O U B bv (.buf e (.int .u8) xs))
  (x9:∀g,zai bv=some g->O g) (s:List UInt8) (hlen:xs.length+s.length<=1000000000):
  ∃v' w',(Builtin.append_ #[t,u] ty #[bv,.string ⟨s.toArray⟩]).run P w=.ok v' w'/\w.grownBy w' (zai bv)/\(∀g,zai v'=some g->zai bv=some g\/w.heap.size<=g)/\
   ∀O2,(∀g,g<w.heap.size->O2 g->O g)->yZ w' O2 U B v' (.buf e (.int .u8) ((xs++s:List UInt8))):=by
 obtain⟨cs,h1,h2,h3⟩:=x6;have x5:(⟨s.toArray⟩:ByteArray).size=s.length:=by simp[vL]
 have x7:=zdZ h2;have h2:w.ownsRow B e 1 bv xs.length cs:=h2;obtain⟨v',w',k1,k2,k3,k4⟩:=run_append_own_string (P:=P) w B t u ty e i ht hu hi hz x0 x4 bv xs.length cs h2 ⟨s.toArray⟩ (by rw[x5];simp only[Go.maxLen];omega) (by rw[x5];omega) hB;rw[x5]at k2;refine⟨v',w',k1,x7▸k3,?_,λO2 x8=>⟨cs++zbo s,?_,by rw[show zp (xs++s:List UInt8)=xs.length+s.length from zl, <-zhv];exact k2,h3⟩⟩
 .intro g hg;rcases h2.2 with ⟨rfl,hn⟩|⟨g',cap,cur,rfl,hbg,hg',hnc,hcm,hcs,htake⟩
  .by_cases hm:(⟨s.toArray⟩:ByteArray).size=0
   .have:=k4.2 ⟨rfl,hm⟩;rw[this]at hg;cases hg
   .have x2:=run_append_nil_string (P:=P) w t u ty e i _ ht hu hi hz ⟨s.toArray⟩ o_ o_ (by rw[x4];omega);rw[x2]at k1;cases k1;cases hg;exact .inr (zu _)
  .by_cases x1:xs.length+(⟨s.toArray⟩:ByteArray).size<=cap
   .
    have x2:=run_append_room_string (P:=P) w t u ty e i ht hu hi x0 g' xs.length cap cur hg' ⟨s.toArray⟩ x1 o_;rw[x2]at k1;cases k1;exact .inl hg
   .have x3:=h2.cells (g:=g') rfl;have x2:=run_append_grow_string (P:=P) w t u ty e i (.int .u8 0) ht hu hi hz ⟨g',0,none⟩ xs.length cap cs (by rw[h2.1,x0]) x3 ⟨s.toArray⟩ o_ o_ (by rw[x4];exact growslice_fits o_ o_);rw[x2]at k1;cases k1;cases hg;exact .inr (zu _)
 .have hk:Keeps w w' O O2:=⟨k3.size,λg xb xa=>k3.block g xb λe=>xa (x9 g (by rw[<-x7];exact e.symm)),x8⟩;exact(h1.append (zf8 s)).mono λx _ c=>RepC.keep hk _ _ _
end
section
variable {P:zA}{K:Kn}{w0:zj}{X:Ownr}{n:Nat}{Y:AS}{Q:Exit->AS->Prop}{ops:Array Oper}
theorem zpI{t u e:zy}{ti:TypeInfo}(ht:P.underlying t=some (.slice e))(hu:P.underlying u=some .string)(hi:P.info? e=some ti)(hz:ti.zero=some (.int .u8 0))(x1:ti.size=1)(x5:ti.bytes=1){o:Oper}{rest:List Oper}{sl x:zK}(ho:o.op=.call ⟨.builtin .append,#[sl,x],#[t,u]⟩)(x3:o.guard=none){d:Nat}(hd:o.dst=some d)(x4:zO d n=true)
  {F:yF}{E:Owns}{nx i:Nat} (hs:evO F sl=⟨.obuf (.int .u8),i⟩) {xs:List UInt8} (hb:zq E i=some (.buf e (.int .u8) xs)) {s:List UInt8} (hx:evO F x=⟨.str,s⟩) (hlen:xs.length+s.length<=1000000000)
  (h:AL P w0 X n ops rest ⟨(d,⟨.obuf (.int .u8),i⟩)::jU i F,(i,some (.buf e (.int .u8) ((xs++s:List UInt8))))::Owns.kill i E,nx⟩ Q):AL P w0 X n ops (o::rest) ⟨F,E,nx⟩ Q:=by
 refine jg x3 (λc e=>by rw[ho]at e;cases e) λU a w x0=>?_;have x2:d<n:=by simpa using x4
 have eS:a.eval sl=U i:=by
  have h1:=x0.ops sl;rw[show evO (AS.mk F E nx).F sl=_ from hs]at h1;exact h1
 have eX:a.eval x=.string ⟨s.toArray⟩:=by
  have h1:=x0.ops x;rw[show evO (AS.mk F E nx).F x=_ from hx]at h1;exact List.singleton_inj.1 h1.1
 obtain⟨v',w',k1,k2,k3,k4⟩:=zlo (P:=P) ht hu hi hz x1 x5 o.type (zk _) (x0.own i _ hb) (λg hg=>.inr ⟨i,_,hb,hg⟩) s hlen;obtain⟨U',x6⟩:=x0.redo hb rfl k2 (bv:=v') k3 (t:=.int .u8) (o':=.buf e (.int .u8) ((xs++s:List UInt8))) (λO _ hO=>k4 O hO) x2;refine zba (u:=v') (w':=w') ?_ (by rw[hd];exact⟨_,U',x6,h⟩);unfold execOp;simp only[ho,resolve,invoke,builtin,zJ,zI,zD,List.map_toArray,qN,List.map_nil,eS,eX,k1]
theorem StepA.step{o o':Oper}{N:AS->Prop}(x1:OpEq P o o')(hX:X.Ok w0)(hK:KnOk P X.G K){r:List Prop×AS}(hs:zhH K n ops o' Y=some r)(hp:allP r.1)(h:N r.2)(x2:o.guard=none:=by rfl):kK P w0 X n ops o Y N Q:=by
 refine uQ x2 λU a w x0=>x1.wp ?_;have h1:=zgq (ops:=ops) (N:=λa' w'=>∃Y' U',Sim w0 X n Y' U' a' w'/\N Y') (R:=λe a' w'=>e≠ .outgrown/\∃Y' U',Sim w0 X n Y' U' a' w'/\Q e Y') hK hX x0 hs hp λU' a' w' h2=>⟨r.2,U',h2,h⟩;have x3:o'.guard=none:=by rw[<-x1.guard];exact x2
 simp only[Region.wanted,x3,if_true]at h1;rcases h1 with h1|⟨_,h1⟩
 .exact h1
 .obtain⟨_,_,h2,_⟩:=h1;exact absurd rfl h2
end
end
structure Eqv(Y Y':AS):Prop where
 f:∀s,zr Y.F s=zr Y'.F s
 e:∀i,zq Y.E i=zq Y'.E i
 nx:Y.nx=Y'.nx
theorem zfd{done:List Nat}:∀{l:List Oper}{i k:Nat},k∈zdU done l i->∃j o,k=i+j/\l[j]? =some o/\hasN done k=false/\(o.after.toList.all λe=>!qX .any e||hasN done e.on)=true
 | [],_,_,h=>by cases h
 |o::l,i,k,h=>by
  have rest:k∈zdU done l (i+1)->∃j o',k=i+j/\(o::l)[j]? =some o'/\hasN done k=false/\(o'.after.toList.all λe=>!qX .any e||hasN done e.on)=true:=λh=>by
   obtain⟨j,o',h1,h2,h3⟩:=zfd h;exact⟨j+1,o',by omega,by simpa using h2,h3⟩
  rw[zdU,cond_eq_ite]at h;split at h
  .rename_i hc;rw[zh,xJ]at hc;rcases zE.1 h with rfl|h
   .exact⟨0,o,rfl,rfl,hc.1,hc.2⟩
   .exact rest h
  .exact rest h
theorem ziC:∀(n:Nat)(l:List Nat),l.Nodup->(∀x∈l,x<n)->l.length<=n
 |0,l,_,h=>by
  cases l with
  |nil=>exact zu _
  |cons a l=>exact absurd (h a (yN ..)) (yS _)
 |n+1,l,hn,h=>by
  by_cases hm:n∈l
  .have h1:=ziC n (l.erase n) (hn.erase n) λx hx=>by
    have h2:=h x (List.mem_of_mem_erase hx);have h3:x≠n:=λe=>by rw[hn.mem_erase_iff]at hx;exact hx.1 e
    omega
   rw[wP hm]at h1;omega
  .have h1:=ziC n l hn λx hx=>by
    have h2:=h x hx;have h3:x≠n:=λe=>hm (e▸hx);omega
   omega
theorem zn6{n:Nat}{l:List Nat}(hn:l.Nodup)(h:∀x∈l,x<n)(hl:l.length=n){i:Nat}(hi:i<n):i∈l:=
 Decidable.byContradiction λhc=>by
  have:=ziC n (i::l) (kG.2 ⟨hc,hn⟩) λx hx=>by
   rcases zE.1 hx with rfl|hx
   .exact hi
   .exact h x hx
  rw[yT]at this;omega
def zdd(B:yF)(L:List (Nat×Nat×V))(o:Oper):yF:=B++L.filterMap λp=>bif o.after.toList.any (λe=>yG e.on p.1&&qX .any e) then some p.2 else none
def resJ(L:List (Nat×Nat×V))(i:Nat)(F:yF):yF:=(L.filterMap λp=>bif yG p.1 i then some p.2 else none)++F
def disB:List Nat->Bool
 | []=>true
 |s::l=>!hasN l s&&disB l
section
variable {P:zA}{K:Kn}{w0:zj}{X:Ownr}{n:Nat}{Y:AS}{Q:Exit->AS->Prop}{ops:Array Oper}
theorem Sim.eqv{Y':AS}{U:Nat->zi}{a:Act}{w:zj}(h:Sim w0 X n Y U a w)(he:Eqv Y Y'):Sim w0 X n Y' U a w:=by
 have hO:OSet X Y.E U=OSet X Y'.E U:=by
  funext g
  unfold OSet;simp only[he.e]
 obtain⟨h1,h2,h3,h4,h5,h6,h7,h8,h9,x0,x1⟩:=h;simp only[he.e,he.f,he.nx,hO]at h4 h5 h6 h7 h8 h9 x0 x1;exact⟨h1,h2,h3,λs=>by
  have:=h4 s;rw[he.f s]at this;exact this,h5,h6,h7,h8,h9,x0,x1⟩
def zq9(K:Kn)(n:Nat)(ops:Array Oper)(B:yF)(L:List (Nat×Nat×V))(E0:Owns)(nx0 i:Nat):Prop:=
 ∃o,ops.toList[i]? =some o/\∀F,∃r,zhH K n ops o ⟨zdd B L o++F,E0,nx0⟩=some r/\allP r.1/\r.2.F=resJ L i (zdd B L o++F)/\(∀j,zq r.2.E j=zq E0 j)/\r.2.nx=nx0
structure KnowJ(f:Nat)(B:yF)(L:List (Nat×Nat×V))(E0:Owns)(nx0:Nat)(done:List Nat)(s:AS):Prop where
 l:∀p∈L,p.1∈done->zr s.F p.2.1=p.2.2
 b:∀p∈B,zr s.F p.1=p.2
 e:∀i,zq s.E i=zq E0 i
 nx:s.nx=nx0
 nd:done.Nodup
 lt:∀x∈done,x<f
theorem zfj{F:yF}:∀{N:yF},(∀p∈N,zr F p.1=p.2)->∀s,zr (N++F) s=zr F s
 | [],_,s=>rfl
 |(t,v)::N,h,s=>by
  show zr ((t,v)::(N++F)) s=_;rw[zal];split
  .rename_i e;subst e;exact(h (t,v) (yN ..)).symm
  .exact zfj (λp hp=>h p (yO _ hp)) s
theorem zeh{F:yF}{s:Nat}:∀{N:yF},(∀p∈N,p.1≠s)->zr (N++F) s=zr F s
 | [],_=>rfl
 |(t,v)::N,h=>by
  show zr ((t,v)::(N++F)) s=_;rw[zal,if_neg (h (t,v) (yN ..))];exact zeh λp hp=>h p (yO _ hp)
theorem zc7{F:yF}{s:Nat}{v:V}:∀{N:yF},(∀p∈N,p.1=s->p.2=v)->(s,v)∈N->zr (N++F) s=v
 | [],_,h=>by cases h
 |(t,u)::N,h,hm=>by
  show zr ((t,u)::(N++F)) s=_;rw[zal];split
  .rename_i e;exact h (t,u) (yN ..) e
  .rename_i x0;rcases zE.1 hm with e|hm
   .cases e;exact absurd rfl x0
   .exact zc7 (λp hp=>h p (yO _ hp)) hm
theorem ziT{l:List Nat}(h:disB l=true):l.Nodup:=by
 induction l with
 |nil=>exact gF
 |cons a l ih=>
  rw[disB,zh,xJ]at h;exact kG.2 ⟨λhm=>by
   rw[zax.2 hm]at h;exact absurd h.1 d_,ih h.2⟩
theorem zeb{α:Type}{f:α->Nat}:∀{l:List α},(l.map f).Nodup->∀{x y:α},x∈l->y∈l->f x=f y->x=y
 | [],_,_,_,h,_,_=>by cases h
 |a::l,hn,x,y,hx,hy,e=>by
  rw[qN,kG]at hn;rcases zE.1 hx with hxa|hxl
  .rcases zE.1 hy with hya|hyl
   .exact hxa.trans hya.symm
   .exact absurd (jo.2 ⟨y,hyl,by rw[<-e,hxa]⟩) hn.1
  .rcases zE.1 hy with hya|hyl
   .exact absurd (jo.2 ⟨x,hxl,by rw[e,hya]⟩) hn.1
   .exact zeb hn.2 hxl hyl e
theorem Sub.of{F:yF}:∀{N:yF},(∀p∈N,zr F p.1=p.2)->Sub F N
 | [],_=>trivial
 |(t,v)::N,h=>⟨h (t,v) (yN ..),Sub.of λp hp=>h p (yO _ hp)⟩
theorem SubE.of{E E0:Owns}(he:∀i,zq E i=zq E0 i):∀{N:Owns},SubE E0 N->SubE E N
 | [],_=>trivial
 |(i,some o)::N,h=>⟨(he i).trans h.1,SubE.of he h.2⟩
 |(_,none)::N,h=>SubE.of (N:=N) he h
def AllI(p:Nat->Prop):Nat->Prop
 |0=>True
 |k+1=>AllI p k/\p k
theorem AllI.s{p:Nat->Prop}{k:Nat}(h:AllI p k)(h':p k):AllI p (k+1):=⟨h,h'⟩
theorem AllI.of{p:Nat->Prop}:∀{k:Nat},(∀i,i<k->p i)->AllI p k
 |0,_=>trivial
 |k+1,h=>⟨AllI.of λi hi=>h i o_,h k o_⟩
theorem AllI.get{p:Nat->Prop}:∀{k:Nat},AllI p k->∀i,i<k->p i
 |0,_,i,h=>absurd h (yS _)
 |k+1,h,i,hi=>by
  rcases Nat.lt_succ_iff_lt_or_eq.1 hi with h1|rfl
  .exact h.1.get i h1
  .exact h.2
end
def ztM(P:zA)(m:Nat)(gf:Nat)(lb:Array zi)(C:Nat->Prop)(N:Nat)(T:Nat->Array zi->Prop)(w:zj):Prop:=
 ∀(l:Nat)(J:Nat->zj->Prop)(Jr:zj->Prop)(W:zj),xW w.heap.size w W->(∀k A B,J k A->xW A.heap.size A B->J k B)->(∀A B,Jr A->xW A.heap.size A B->Jr B)->
  (∀k y W1,J k W1->k<N->T k y->W.heap.size<=W1.heap.size->YieldAt yU (m-1) P l y W1 λe W'=>(e=.returned (.bool true)/\J (k+1) W'/\fG C W.heap.size W1 W')\/(e=.returned (.bool false)/\Jr W'/\fG C W.heap.size W1 W'))->
  J 0 W->
  CallsIn yU m P gf (#[.func (.yield l) #[] #[]]++lb) W λe W'=>(∃v,e=.returned v)/\(J N W'\/Jr W')
theorem zmz{P:zA}{n:Nat}{g:zK}{ps:Array Tmp}{assign body:Code}{Q:Exit->Act->zj->Prop}{a:Act}{w:zj}{gf:Nat}{lb:Array zi}(hg:a.eval g=.func (.func gf) #[] lb)(eg:∀args w,(callFunc gf args).run P w=.ok (.enter gf args) w)
  {C:Nat->Prop}{M:Nat}{T:Nat->Array zi->Prop}{w0:zj} (hseq:ztM P (n-1) gf lb C M T w0) (hps:∀k y,T k y->y.size=ps.size) (hb0:xW w0.heap.size w0 w) (hC:∀k,C k->k<w.heap.size)
  (J:Nat->zj->Prop) (Jr:zj->Prop) (N:Nat->Act->zj->Prop)
  (hJ:∀k A B,J k A->Kept (λg=>A.heap.size<=g\/g=w.heap.size+1) A B->J k B) (hJr:∀A B,Jr A->Kept (λg=>A.heap.size<=g\/g=w.heap.size+1) A B->Jr B) (hN:∀k a' A B,N k a' A->Kept (λg=>A.heap.size<=g\/g=w.heap.size+1) A B->N k a' B)
  (h0:∀W1:zj,xW w.heap.size w W1->W1.heap.size=w.heap.size+2->J 0 W1)
  (hassign:∀(l k:Nat)(y:Array zi)(W:zj),J k W->k<M->T k y->w.heap.size+2<=W.heap.size->assign.wpIn (yU.inRound l) (n-1-1) P (λe a' W'=>e=.normal/\N k a' W'/\fG (λg=>C g\/g=w.heap.size\/g=w.heap.size+1) (w.heap.size+2) W W') { tmps:=(ps.zip y).foldl (λt(p,v)=>t.setIfInBounds p v) a.tmps,defers:=[] } W)
  (hbody:∀(l k:Nat)(W:zj)(a':Act),k<M->w.heap.size+2<=W.heap.size->N k a' W->
    body.wpIn (yU.inRound l) (n-1-1) P (λe _ W3=>((e=.normal/\J (k+1) W3)\/(e=.ret/\Jr W3))/\fG (λg=>C g\/g=w.heap.size\/g=w.heap.size+1) (w.heap.size+2) W W3) a' W)
  (hdone:∀W:zj,J M W->W.heap[w.heap.size]? =some (.deferred (some []))->Q .normal { a with defers:={ target:=.collected w.heap.size,args:=#[] }::a.defers } W)
  (hret:∀W:zj,Jr W->W.heap[w.heap.size]? =some (.deferred (some []))->Q .ret { a with defers:={ target:=.collected w.heap.size,args:=#[] }::a.defers } W):
  (Code.rangeFunc g ps assign body).wp P Q a w:=by
 refine(wpIn_wide (n:=n)).1 (wpIn_rangeFunc ?_);intro fn hfn;obtain⟨rec,hrec⟩:∃rec:LoopState->Option Code->Loop,rec=λst pe=>{ state:=st,pending:=pe,fn,tmps:=a.tmps,params:=ps,assign,body,defers:=w.heap.size }:=⟨_,rfl⟩;obtain⟨W1,hW1⟩:∃W1,(w.alloc (.deferred (some []))).alloc (.loop (rec .ready none))=W1:=⟨_,rfl⟩;have hs1:W1.heap.size=w.heap.size+2:=by rw[<-hW1];simp
 have hL1:W1.heap[w.heap.size+1]? =some (.loop (rec .ready none)):=by
  rw[<-hW1];have:=xK (w.alloc (.deferred (some []))) (.loop (rec .ready none));rwa[World.size_alloc]at this
 have hK1:W1.heap[w.heap.size]? =some (.deferred (some [])):=by
  rw[<-hW1];exact(Below.heap_alloc _ _ _ (by simp)).trans (xK w _)
 have hb1':xW w.heap.size w W1:=by rw[<-hW1];exact((zY _ w).alloc (zu _) _).alloc (by simp) _
 have hJ1:J 0 W1:=h0 _ hb1' hs1;have hb1:xW w0.heap.size w0 W1:=hb0.trans (hb1'.mono hb0.size);refine⟨w.heap.size+1,[{ target:=.collected w.heap.size,args:=#[] }],W1,{ target:=.fn (.func gf) lb,args:=#[.func (.yield (w.heap.size+1)) #[] #[]] },W1,gf,
  #[.func (.yield (w.heap.size+1)) #[] #[]]++lb,W1,?_,?_,?_,?_,(λh=>by cases h),?_⟩
 .rw[<-hW1,hrec];exact run_enterLoop_outer _ _ _ _ _
 .simp only[resolve,hg];simp[go_sem]
 .intro f' hf';trivial
 .simp[invoke,go_sem,eg]
 refine(hseq (w.heap.size+1) (λk W=>J k W/\W.heap[w.heap.size+1]? =some (.loop (rec .ready none))/\W.heap[w.heap.size]? =some (.deferred (some []))) (λW=>Jr W/\W.heap[w.heap.size+1]? =some (.loop (rec .done (some .ret)))/\W.heap[w.heap.size]? =some (.deferred (some []))) W1 hb1 ?_ ?_ ?_ ⟨hJ1,hL1,hK1⟩).mono ?_
 .intro k A B hs hb;have hl:=(zv.1 hs.2.1).1;have hd:=(zv.1 hs.2.2).1;exact⟨hJ k _ _ hs.1 (zdJ hb λk hk=>.inl hk),(hb.block _ hl).trans hs.2.1,(hb.block _ hd).trans hs.2.2⟩
 .intro A B hs hb;have hl:=(zv.1 hs.2.1).1;have hd:=(zv.1 hs.2.2).1;exact⟨hJr _ _ hs.1 (zdJ hb λk hk=>.inl hk),(hb.block _ hl).trans hs.2.1,(hb.block _ hd).trans hs.2.2⟩
 .rintro k y W ⟨hj,hl,hk⟩ hkN hy1 hsz;have hlt:w.heap.size+1<W.heap.size:=(zv.1 hl).1;have hy:=run_yield (P:=P) (args:=y) hl (by rw[hrec];exact hps k y hy1);rw[hrec]at hy;refine⟨fn,_,assign,body,hy,roundIn_of_wpIn hfn ?_⟩;refine zT (hassign _ k y W hj hkN hy1 (by omega)) ?_;rintro e a2 W2 ⟨rfl,hn2,hk2⟩;have hl2:W2.heap[w.heap.size+1]? =some (.loop (rec .ready none)):=(hk2.block _ (.inr (.inr rfl))).trans hl;have hd2:W2.heap[w.heap.size]? =some (.deferred (some [])):=(hk2.block _ (.inr (.inl rfl))).trans hk;have hlt2:w.heap.size+1<W2.heap.size:=(zv.1 hl2).1;refine⟨_,run_beginRound hl2 (by rw[hrec]),?_⟩;have hl3:(W2.putObj (w.heap.size+1) (.loop { rec .ready none with state:=.busy })).heap[w.heap.size+1]? =some (.loop { rec .ready none with state:=.busy }):=jx hlt2;have hd3:(W2.putObj (w.heap.size+1) (.loop { rec .ready none with state:=.busy })).heap[w.heap.size]? =some (.deferred (some [])):=(xD (by omega)).trans hd2;have hn3:N k a2 (W2.putObj (w.heap.size+1) (.loop { rec .ready none with state:=.busy })):=hN k a2 _ _ hn2 (zcT _ (.inr rfl));have hp3:=grownBy_putObj' W2 (w.heap.size+1) (.loop { rec .ready none with state:=.busy });refine zT (hbody _ k _ a2 hkN (zL (by omega) hp3.size) hn3) ?_;rintro e a3 W3 ⟨he,hk3⟩;have hl4:W3.heap[w.heap.size+1]? =some (.loop { rec .ready none with state:=.busy }):=(hk3.block _ (.inr (.inr rfl))).trans hl3;have hd4:W3.heap[w.heap.size]? =some (.deferred (some [])):=(hk3.block _ (.inr (.inl rfl))).trans hd3;rcases he with ⟨rfl,hj3⟩|⟨rfl,hr3⟩
  .have hr:=run_endRound (P:=P) none hl4;refine⟨_,_,hr,.inl ⟨rfl,⟨hJ _ _ _ hj3 (zcT _ (.inr rfl)),?_,(xD (by omega)).trans hd4⟩,?_⟩⟩
   .rw[jx (zv.1 hl4).1,hrec];rfl
   .refine⟨?_,?_,?_,?_,λj hj=>?_⟩
    .exact(grownBy_putObj' W3 _ _).os.trans (hk3.os.trans (hp3.os.trans hk2.os))
    .exact(grownBy_putObj' W3 _ _).tape.trans (hk3.tape.trans (hp3.tape.trans hk2.tape))
    .exact(grownBy_putObj' W3 _ _).output.trans (hk3.output.trans (hp3.output.trans hk2.output))
    .exact zL (by rw[hs1];exact hk3.size) (grownBy_putObj' W3 _ _).size
    .have hjl:=hC j hj;exact(xD (by omega)).trans ((hk3.block j (.inl hj)).trans ((xD (by omega)).trans (hk2.block j (.inl hj))))
  .have hr:=run_endRound (P:=P) (some .ret) hl4;refine⟨_,_,hr,.inr ⟨rfl,⟨hJr _ _ hr3 (zcT _ (.inr rfl)),?_,(xD (by omega)).trans hd4⟩,?_⟩⟩
   .rw[jx (zv.1 hl4).1,hrec];rfl
   .refine⟨?_,?_,?_,?_,λj hj=>?_⟩
    .exact(grownBy_putObj' W3 _ _).os.trans (hk3.os.trans (hp3.os.trans hk2.os))
    .exact(grownBy_putObj' W3 _ _).tape.trans (hk3.tape.trans (hp3.tape.trans hk2.tape))
    .exact(grownBy_putObj' W3 _ _).output.trans (hk3.output.trans (hp3.output.trans hk2.output))
    .exact zL (by rw[hs1];exact hk3.size) (grownBy_putObj' W3 _ _).size
    .have hjl:=hC j hj;exact(xD (by omega)).trans ((hk3.block j (.inl hj)).trans ((xD (by omega)).trans (hk2.block j (.inl hj))))
 .rintro e W2 ⟨⟨v,rfl⟩,⟨hj,hl,hk⟩|⟨hj,hl,hk⟩⟩
  .exact⟨none,_,by have:=run_endLoop (P:=P) hl (by rw[hrec];simp);rw[hrec]at this;exact this,hdone _ (hJ _ _ _ hj (zcT _ (.inr rfl))) ((xD (by omega)).trans hk)⟩
  .exact⟨some .ret,_,by have:=run_endLoop (P:=P) hl (by rw[hrec];simp);rw[hrec]at this;exact this,wpIn_ret (hret _ (hJr _ _ hj (zcT _ (.inr rfl))) ((xD (by omega)).trans hk))⟩
def ztg(ps:Array Tmp)(a:Act)(y:Array zi):Act:={ tmps:=(ps.zip y).foldl (λt(p,v)=>t.setIfInBounds p v) a.tmps,defers:=[] }
def zipF:List Tmp->List V->List (Nat×V)
 |p::ps,v::vs=>(p,v)::zipF ps vs
 |_,_=>[]
theorem zmj:∀(ps:List Tmp)(xs:List zi)(t:Array zi),((ps.zip xs).foldl (λt(p:Tmp×zi)=>t.setIfInBounds p.1 p.2) t).size=t.size
 | [],_,_=>rfl
 |_::_,[],_=>rfl
 |p::ps,x::xs,t=>by
  show((ps.zip xs).foldl (λt(p:Tmp×zi)=>t.setIfInBounds p.1 p.2) (t.setIfInBounds p x)).size=t.size;rw[zmj ps xs];simp
theorem zfS:∀(ps:List Tmp)(xs:List zi)(t:Array zi)(s:Nat),s ∉ ps->((ps.zip xs).foldl (λt(p:Tmp×zi)=>t.setIfInBounds p.1 p.2) t).getD s undef=t.getD s undef
 | [],_,_,_,_=>rfl
 |_::_,[],_,_,_=>rfl
 |p::ps,x::xs,t,s,hs=>by
  show((ps.zip xs).foldl (λt(p:Tmp×zi)=>t.setIfInBounds p.1 p.2) (t.setIfInBounds p x)).getD s undef=_;rw[zfS ps xs _ s λh=>hs (yO _ h),yA,yA,qz,if_neg (λe:p=s=>hs (by rw[e];exact yN ..))]
theorem zmk{w:zj}{O:Nat->Prop}{U:Nat->zi}{F:yF}:∀(ps:List Tmp)(vs:List V)(xs:List zi)(t:Array zi),ps.Nodup->(∀p∈ps,p<t.size)->ps.length=vs.length->RepVs w O U vs xs->
  (∀s,RepV w O U (zr F s).t (zr F s).x (t.getD s undef))->∀s,RepV w O U (zr (zipF ps vs++F) s).t (zr (zipF ps vs++F) s).x (((ps.zip xs).foldl (λt(p:Tmp×zi)=>t.setIfInBounds p.1 p.2) t).getD s undef)
 | [],_,_,_,_,_,_,_,h,s=>h s
 |p::ps,[],_,_,_,_,hl,_,_,_=>by cases hl
 |p::ps,v::vs,[],_,_,_,_,h,_,_=>by have:=h.1;cases this
 |p::ps,v::vs,x::xs,t,hn,hlt,hl,hr,h,s=>by
  rw[kG]at hn;have hx:RepV w O U v.t v.x x:=by
   obtain⟨u,hu,hr⟩:=hr.2 0 v rfl;cases hu;exact hr
  have hp:=hlt p (yN ..);show RepV w O U (zr ((p,v)::(zipF ps vs++F)) s).t (zr ((p,v)::(zipF ps vs++F)) s).x (((ps.zip xs).foldl (λt(p:Tmp×zi)=>t.setIfInBounds p.1 p.2) (t.setIfInBounds p x)).getD s undef);rw[zal];by_cases e:p=s
  .rw[if_pos e, <-e,zfS _ _ _ _ hn.1,yA,qz,if_pos rfl]
   simpa [hp] using hx
  .rw[if_neg e];by_cases hs:s∈ps
   .have:=zmk (F:=[]) ps vs xs (t.setIfInBounds p x) hn.2 (λq hq=>by have:=hlt q (yO _ hq);simpa using this) (wj hl) ⟨wj hr.1,λi v hv=>hr.2 (i+1) v hv⟩ (λs=>trivial) s;have hg:∀(ps:List Tmp)(vs:List V),s∈ps->ps.length=vs.length->zr (zipF ps vs++F) s=zr (zipF ps vs++[]) s:=by
     intro ps
     induction ps with
     |nil=>intro vs h;cases h
     |cons p ps ih=>
      intro vs h hl;cases vs with
      |nil=>cases hl
      |cons v vs=>
       show zr ((p,v)::(zipF ps vs++F)) s=zr ((p,v)::(zipF ps vs++[])) s;rw[zal,zal];by_cases e:p=s
       .rw[if_pos e,if_pos e]
       .rw[if_neg e,if_neg e];exact ih vs ((zE.1 h).resolve_left λh=>e h.symm) (wj hl)
    rw[hg ps vs hs (wj hl)];exact this
   .rw[zfS _ _ _ _ hs,yA,qz,if_neg e, <-yA];have hg:∀(ps:List Tmp)(vs:List V),s ∉ ps->zr (zipF ps vs++F) s=zr F s:=by
     intro ps
     induction ps with
     |nil=>intro vs _;rfl
     |cons p ps ih=>
      intro vs h;cases vs with
      |nil=>rfl
      |cons v vs=>
       show zr ((p,v)::(zipF ps vs++F)) s=_;rw[zal,if_neg (λe:p=s=>h (by rw[e];exact yN ..))];exact ih vs λh'=>h (yO _ h')
    rw[hg ps vs hs];exact h s
def zr0(W0:zj)(C:Nat->Prop)(vs:List V)(y:Array zi):Prop:=∃xs:List zi,y=xs.toArray/\xs.length=vs.length/\∀(w':zj)(O'':Nat->Prop)(U':Nat->zi),W0.heap.size<=w'.heap.size->(∀g,C g->w'.heap[g]? =W0.heap[g]? /\¬O'' g)->RepVs w' O'' U' vs xs
def Iter(P:zA)(gf:Nat)(cap:Ty)(cx:cap.T)(N:Nat)(vals:Nat->List V):Prop:=
 ∀(w:zj)(us:List zi)(O':Nat->Prop),RepCap w O' cap cx us->∃(C:Nat->Prop),(∀g,C g->g<w.heap.size/\¬O' g)/\ztM P 0 gf us.toArray C N (λk y=>zr0 w C (vals k) y) w
section
variable {P:zA}{G:zj->Prop}{n:Nat}{W0:zj}{C:Nat->Prop}{B:Nat}{J:Option Nat->zj->Prop}{F:yF}{κ:Option Nat}{Q:Exit->yF->Option Nat->Prop}{ops:Array Oper}{l:List Oper}
abbrev Ownr.it(G:zj->Prop):Ownr:=⟨G,λ_=>False,0,λ_=>0,[],none,λ_=>False⟩
theorem Ownr.it_R{g:Nat}:¬(Ownr.it G).R g:=λh=>h.elim (λ⟨_,h,_⟩=>absurd h (yS _)) id
structure ISt(G:zj->Prop)(n:Nat)(W0:zj)(C:Nat->Prop)(B:Nat)(F:yF)(a:Act)(w:zj):Prop where
 big:B<=w.heap.size
 same:∀g,C g->w.heap[g]? =W0.heap[g]?
 sim:∃U,Sim w (Ownr.it G) n ⟨F,[],0⟩ U a w
def IWP(P:zA)(G:zj->Prop)(n:Nat)(W0:zj)(C:Nat->Prop)(B:Nat)(J:Option Nat->zj->Prop)(c:Code)(F:yF)(κ:Option Nat)(Q:Exit->yF->Option Nat->Prop):Prop:=
 ∀a w,ISt G n W0 C B F a w->J κ w->c.wpIn yU 0 P (λe a' w'=>∃F' κ',ISt G n W0 C B F' a' w'/\J κ' w'/\Q e F' κ') a w
def IL(P:zA)(G:zj->Prop)(n:Nat)(W0:zj)(C:Nat->Prop)(B:Nat)(J:Option Nat->zj->Prop)(ops:Array Oper)(l:List Oper)(F:yF)(κ:Option Nat)(Q:Exit->yF->Option Nat->Prop):Prop:=
 ∀a w,ISt G n W0 C B F a w->J κ w->wpListIn yU 0 P ops (λe a' w'=>∃F' κ',ISt G n W0 C B F' a' w'/\J κ' w'/\Q e F' κ') l a w
theorem zuO(hG:∀w,G w)(w:zj):(Ownr.it G).Ok w:=⟨λg h=>h.elim,λg h=>(Ownr.it_R h).elim,λw' _=>hG w'⟩
theorem ISt.step{Y:AS}{F':yF}{U:Nat->zi}{a a':Act}{w w':zj}(hW:W0.heap.size<=B)(hC:∀g,C g->g<W0.heap.size)(h:ISt G n W0 C B F a w)(h1:Sim w (Ownr.it G) n Y U a' w')(hE:Y.E=[])(hF:Sub Y.F F')(hb:bndB 0 F'=true):ISt G n W0 C B F' a' w'/\xW w.heap.size w w':=by
 have hb1:xW w.heap.size w w':=h1.bel.below λg h=>Ownr.it_R h;exact⟨⟨zL h.big hb1.size,λg hg=>(hb1.block g (by have:=hC g hg;have:=h.big;omega)).trans (h.same g hg),U,h1.rebase hE rfl hF hb⟩,hb1⟩
theorem IWP.of{c:Code}(hW:W0.heap.size<=B)(hC:∀g,C g->g<W0.heap.size)(hG:∀w,G w)(hJ:∀κ A A',J κ A->xW A.heap.size A A'->J κ A')
  (h:∀W,(Ownr.it G).Ok W->B<=W.heap.size->(∀g,C g->W.heap[g]? =W0.heap[g]?)->AWP P W (Ownr.it G) n c ⟨F,[],0⟩ (λe Y=>Y.E=[]/\∃F',Sub Y.F F'/\bndB 0 F'=true/\Q e F' κ)):IWP P G n W0 C B J c F κ Q:=by
 intro a w hs hj;obtain⟨U,hsim⟩:=hs.sim;refine zT (h w (zuO hG w) hs.big hs.same U a w hsim) ?_;rintro e a' w' ⟨Y',U',h1,hE,F',hF,hb,hq⟩;obtain⟨h2,h3⟩:=hs.step hW hC h1 hE hF hb;exact⟨F',κ,h2,hJ κ _ _ hj h3,hq⟩
theorem zkT{W w:zj}{Y:AS}{U:Nat->zi}{a:Act}(hW:W0.heap.size<=B)(hC:∀g,C g->g<W0.heap.size)(hWB:B<=W.heap.size)(hw:∀g,C g->W.heap[g]? =W0.heap[g]?)(h:Sim W (Ownr.it G) n Y U a w):W0.heap.size<=w.heap.size/\∀g,C g->w.heap[g]? =W0.heap[g]? :=by
 have hb1:xW W.heap.size W w:=h.bel.below λg h=>Ownr.it_R h;exact⟨by have:=hb1.size;omega,λg hg=>(hb1.block g (by have:=hC g hg;omega)).trans (hw g hg)⟩
def zt6(N:yF->Option Nat->Prop)(Q:Exit->yF->Option Nat->Prop):Exit->yF->Option Nat->Prop
 |.normal,F,κ=>N F κ
 |e,F,κ=>Q e F κ
def zrT(id:Nat)(Q:Exit->yF->Option Nat->Prop):Exit->yF->Option Nat->Prop
 |.exit j,F,κ=>bif yG j id then Q .normal F κ else Q (.exit j) F κ
 |e,F,κ=>Q e F κ
theorem IWP.mono{c:Code}{Q':Exit->yF->Option Nat->Prop}(h:IWP P G n W0 C B J c F κ Q)(hq:∀e F κ,Q e F κ->Q' e F κ):IWP P G n W0 C B J c F κ Q':=
 λa w hs hj=>zT (h a w hs hj) λe a' w'⟨F',κ',h1,h2,h3⟩=>⟨F',κ',h1,h2,hq _ _ _ h3⟩
theorem IWP.seq{x y:Code}(h:IWP P G n W0 C B J x F κ (zt6 (λF' κ'=>IWP P G n W0 C B J y F' κ' Q) Q)):IWP P G n W0 C B J (.seq x y) F κ Q:=
 λa w hs hj=>wpIn_seq (zT (h a w hs hj) λe a' w'⟨F',κ',h1,h2,h3⟩=>by
  cases e with
  |normal=>exact h3 a' w' h1 h2
  |_=>exact⟨F',κ',h1,h2,h3⟩)
theorem IWP.block{id:Nat}{c:Code}(h:IWP P G n W0 C B J c F κ (zrT id Q)):IWP P G n W0 C B J (.block id c) F κ Q:=
 λa w hs hj=>wpIn_block (zT (h a w hs hj) λe a' w'⟨F',κ',h1,h2,h3⟩=>by
  cases e with
  |exit j=>
   simp only[zrT,cond_eq_ite,qE]at h3;simp only[Exit.inBlock];split
   .rename_i hj;rw[if_pos hj]at h3;exact⟨F',κ',h1,h2,h3⟩
   .rename_i hj;rw[if_neg hj]at h3;exact⟨F',κ',h1,h2,h3⟩
  |_=>exact⟨F',κ',h1,h2,h3⟩)
theorem ISt.weaken{F':yF}{a:Act}{w:zj}(h:ISt G n W0 C B F a w)(hF:Sub F F')(hb:bndB 0 F'=true):ISt G n W0 C B F' a w:=by
 obtain⟨U,hs⟩:=h.sim;exact⟨h.big,h.same,U,hs.rebase rfl rfl hF hb⟩
theorem IWP.loop{c:Code}{ι:Type}(S:ι->yF)(K:ι->Option Nat)(I:ι->Prop)(μ:ι->Nat)(i0:ι)(h0:I i0)(hF:Sub F (S i0))(hk:K i0=κ)(hb:∀i,bndB 0 (S i)=true)
  (round:∀i,I i->IWP P G n W0 C B J c (S i) (K i) (zt6 (λF' κ'=>∃i',I i'/\μ i'<μ i/\Sub F' (S i')/\K i'=κ') Q)):IWP P G n W0 C B J (.loop c) F κ Q:=by
 intro a w hs hj;refine zdB (λi a w=>I i/\ISt G n W0 C B (S i) a w/\J (K i) w) μ i0 ⟨h0,hs.weaken hF (hb i0),by rw[hk];exact hj⟩ λi a w⟨h1,h2,h3⟩=>zT (round i h1 a w h2 h3) λe a' w'⟨F',κ',k1,k2,k3⟩=>?_;cases e with
 |normal=>
  obtain⟨i',e1,e2,e3,e4⟩:=k3;exact⟨i',e2,e1,k1.weaken e3 (hb i'),by rw[e4];exact k2⟩
 |_=>exact⟨F',κ',k1,k2,k3⟩
theorem IWP.list{id:Nat}(h:IL P G n W0 C B J ops ops.toList F κ Q):IWP P G n W0 C B J (.region id ops false) F κ Q:=λa w hs hj=>wpIn_region_list (h a w hs hj)
theorem IL.nil(h:Q .normal F κ):IL P G n W0 C B J ops [] F κ Q:=λa w hs hj=>⟨F,κ,hs,hj,h⟩
theorem IL.of(m:Nat)(F':yF)(hW:W0.heap.size<=B)(hC:∀g,C g->g<W0.heap.size)(hG:∀w,G w)(hJ:∀κ A A',J κ A->xW A.heap.size A A'->J κ A')(hb:bndB 0 F'=true)
  (h:∀W,(Ownr.it G).Ok W->B<=W.heap.size->(∀g,C g->W.heap[g]? =W0.heap[g]?)->AL P W (Ownr.it G) n ops (l.take m) ⟨F,[],0⟩ (λe Y=>e=.normal/\Y.E=[]/\Sub Y.F F')) (hr:IL P G n W0 C B J ops (l.drop m) F' κ Q):IL P G n W0 C B J ops l F κ Q:=by
 intro a w hs hj;obtain⟨U,hsim⟩:=hs.sim;rw[<-List.take_append_drop m l];refine(h w (zuO hG w) hs.big hs.same).then (r:=l.drop m) hsim ?_ ?_
 .rintro Y' U' a' w' h1 ⟨_,hE,hF⟩;obtain⟨h2,h3⟩:=hs.step hW hC h1 hE hF hb;exact hr a' w' h2 (hJ κ _ _ hj h3)
 .rintro e Y' U' a' w' hne h1 ⟨he,_⟩;exact absurd he hne
def znp(C:Nat->Prop):yF->Prop
 | []=>True
 |p::F=>(match p.2 with |⟨.lit,_⟩=>True|⟨.cptr g _ t,_⟩=>C g/\t.flat=true|v=>v.t.flat=true)/\znp C F
theorem IL.yield{o:Oper}{f:zK}{args:Array zK}{ts:Array zy}{lp:Nat}{y:Array zi}{d:Nat}{L:List Oper}(ho:o.op=.call ⟨.value f,args,ts⟩)(hgd:o.guard=none)(hdst:o.dst=some d)(hdn:zO d n=true)
  (hf:evO F f=⟨.lit,.func (.yield lp) #[] #[]⟩) (hargs:∀U a w,Sim w (Ownr.it G) n ⟨F,[],0⟩ U a w->args.map a.eval=y) (hy:∀w,J κ w->B<=w.heap.size->YieldAt yU 0 P lp y w λe W'=>∃b κ',e=.returned (.bool b)/\J κ' W'/\fG C B w W'/\IL P G n W0 C B J ops L ((d,⟨.bool,b⟩)::F) κ' Q)
  (hst:znp C F) (hb:bndB 0 F=true):IL P G n W0 C B J ops (o::L) F κ Q:=by
 intro a w hs hj;obtain⟨U,hsim⟩:=hs.sim;have h1:=hy w hj hs.big;rw[<-hargs U a w hsim]at h1;refine wpListIn_plain hgd λK hK=>?_;have hfe:a.eval f=.func (.yield lp) #[] #[]:=by
  have h2:=hsim.ops f;rw[show evO (AS.mk F [] 0).F f=_ from hf]at h2;exact h2
 refine zhI ho hfe (YieldAt.any h1) ?_;rintro e w' ⟨b,κ',rfl,hj',hsm,hl⟩;refine⟨_,rfl,hK _ _ ?_⟩;have hs2:Sim w' (Ownr.it G) n ⟨F,[],0⟩ U a w':=by
  refine Sim.fresh rfl hsim.sz hsim.df (λs=>?_) hb;have h3:=hsim.fr s;rw[OSet.nil]at h3;have hall:∀(F:yF)(s:Nat),znp C F->(∃u,zr F s=⟨.lit,u⟩)\/(zr F s).t.flat=true\/zr F s=⟨.junk,()⟩\/∃g o t x,zr F s=⟨.cptr g o t,x⟩/\C g/\t.flat=true:=by
   intro F s
   induction F with
   |nil=>intro _;exact .inr (.inr (.inl rfl))
   |cons p F ih=>
    intro h;obtain⟨q,t,x⟩:=p;rw[zal];split
    .cases t with
     |lit=>exact .inl ⟨x,rfl⟩
     |cptr g o t=>exact .inr (.inr (.inr ⟨g,o,t,x,rfl,h.1⟩))
     |_=>exact .inr (.inl h.1)
    .exact ih h.2
  rcases hall F s hst with ⟨u,e⟩|e|e|⟨g,o,t,x,e,hg,ht⟩
  .rw[e]at h3 ⊢;exact h3
  .exact ze3 e h3
  .rw[e];trivial
  .rw[e]at h3 ⊢;obtain⟨cs,h1,h2,h4,h5,h6⟩:=h3;exact⟨cs,h1,(zv.1 ((hsm.block g hg).trans (Array.getElem?_eq_getElem h2))).1,h4,zbB t ht x cs h5,h6.keep (hsm.block g hg)⟩
 have hs3:=hs2.put (zY _ _) (v:=⟨.bool,b⟩) (u:=.bool b) RepV.ofBool (zk _) (d:=d) (by simpa using hdn);rw[hdst];refine hl _ w' ⟨hsm.size,λg hg=>(hsm.block g hg).trans (hs.same g hg),U,hs3⟩ hj'
def litF:Nat->List zi->yF
 |_,[]=>[]
 |i,u::us=>(i,⟨.lit,u⟩)::litF (i+1) us
theorem zl4:∀(us:List zi)(i s:Nat),zr (litF i us) s=if i<=s/\s<i+us.length then ⟨.lit,us.getD (s-i) undef⟩ else ⟨.junk,()⟩
 | [],i,s=>by
  rw[if_neg (by simp only[List.length_nil];omega)];rfl
 |u::us,i,s=>by
  show zr ((i,⟨.lit,u⟩)::litF (i+1) us) s=_;rw[zal,zl4 us (i+1) s];simp only[yT];by_cases e:i=s
  .subst e;rw[if_pos rfl,if_pos (by omega),Nat.sub_self];rfl
  .rw[if_neg e];by_cases h:i+1<=s/\s<i+1+us.length
   .rw[if_pos h,if_pos (by omega),show s-i=(s-(i+1))+1 by omega];rfl
   .rw[if_neg h,if_neg (by omega)]
theorem zl5:∀(us:List zi)(i:Nat),bndB 0 (litF i us)=true
 | [],_=>rfl
 |u::us,i=>by
  show bndB 0 ((i,⟨.lit,u⟩)::litF (i+1) us)=true;simp only[bndB,zh];exact⟨rfl,zl5 us (i+1)⟩
theorem zlG(hC:∀g,C g->g<W0.heap.size){gf:yR}{fn:Func}{c:Code}(hf:P.funcs[gf]? =some fn)(hb:fn.body=some c)(hn:fn.ntmps=n)(hres:fn.results= #[]){us:List zi}(hlen:us.length+1<=n){N:Nat}{T:Nat->Array zi->Prop}
  (h:∀(l:Nat)(J:Option Nat->zj->Prop)(B:Nat),W0.heap.size<=B->(∀κ A A',J κ A->xW A.heap.size A A'->J κ A')->(∀k y W1,J (some k) W1->k<N->T k y->B<=W1.heap.size->YieldAt yU 0 P l y W1 λe W'=>∃b,e=.returned (.bool b)/\J (bif b then some (k+1) else none) W'/\fG C B W1 W')->
    IWP P G n W0 C B J c (litF 0 (.func (.yield l) #[] #[]::us)) (some 0) (λe _ κ=>(e=.normal\/e=.ret)/\(κ=some N\/κ=none))):ztM P 0 gf us.toArray C N T W0:=by
 intro l J Jr W hW hJ hJr hY h0;refine callsIn_of_wp hf hb trivial ?_ rfl;have hsame:∀g,g<W0.heap.size->W.heap[g]? =W0.heap[g]? :=λg hg=>hW.block g hg;have hiwp:=h l (λκ w=>match κ with |some k=>J k w|none=>Jr w) W.heap.size hW.size (λκ A A' hj hb=>by
  cases κ with
  |none=>exact hJr _ _ hj hb
  |some k=>exact hJ k _ _ hj hb) (λk y W1 hj hk ht hs=>YieldAt.mono (YieldAt.any (hY k y W1 hj hk ht hs)) λe W' he=>by
   rcases he with ⟨rfl,h1,h2⟩|⟨rfl,h1,h2⟩
   .exact⟨true,rfl,h1,h2⟩
   .exact⟨false,rfl,h1,h2⟩)
 have hsim:ISt G n W0 C W.heap.size (litF 0 (.func (.yield l) #[] #[]::us)) { tmps:=(#[.func (.yield l) #[] #[]]++us.toArray)++zG (fn.ntmps-(#[.func (.yield l) #[] #[]]++us.toArray:Array zi).size) undef,defers:=[] } W:=by
  refine⟨zu _,λg hg=>hsame g (hC g hg),λ_=>undef,Sim.fresh rfl ?_ rfl (λs=>?_) (zl5 _ _)⟩
  .simp[hn];omega
  .rw[zl4];by_cases hs:0<=s/\s<0+(wv (.yield l) #[] #[]::us).length
   .rw[if_pos hs];have e:(#[wv (.yield l) #[] #[]]++us.toArray)++zG (fn.ntmps-(#[wv (.yield l) #[] #[]]++us.toArray:Array zi).size) undef=(((.func (.yield l) #[] #[]::us):List zi)++zg (fn.ntmps-(us.length+1)) undef).toArray:=by
     simp[Nat.add_comm]
    show(_:Array zi).getD s undef=_;rw[e];have h2:s<(wv (.yield l) #[] #[]::us).length:=by simpa using hs.2
    simp only[yA,uI];rw[List.getElem?_append_left h2,Nat.sub_zero,zH]
   .rw[if_neg hs];trivial
 refine zT (hiwp _ W hsim h0) ?_;rintro e a' w' ⟨F',κ',h1,h2,he,hκ⟩;obtain⟨U,hs1⟩:=h1.sim;have hr:(results fn a'.tmps).run P w'=.ok (.tuple #[]) w':=results_none hres _ _ _;have hj:J N w'\/Jr w':=by
  rcases hκ with rfl|rfl
  .exact .inl h2
  .exact .inr h2
 rcases he with rfl|rfl
 .exact⟨hs1.df,_,hr,⟨_,rfl⟩,hj⟩
 .exact⟨hs1.df,_,hr,⟨_,rfl⟩,hj⟩
end
section
variable {P:zA}{K:Kn}{w0:zj}{X:Ownr}{n:Nat}{F:yF}{E:Owns}{nx:Nat}{Q:Exit->AS->Prop}{ops:Array Oper}
theorem AL.handV{o:Oper}{rest:List Oper}(hgd:o.guard=none)(hnd:∀c,o.op≠ .defer c){d:Nat}(hd:o.dst=some d)(hdn:zO d n=true)(v:V)(hb:v.bound=0)(hrun:∀U a w,Sim w0 X n ⟨F,E,nx⟩ U a w->∃u,(execOp a.eval o).run P w=.ok (.value u) w/\RepV w (OSet X E U) U v.t v.x u)
  (h:AL P w0 X n ops rest ⟨(d,v)::F,E,nx⟩ Q):AL P w0 X n ops (o::rest) ⟨F,E,nx⟩ Q:=
 jg hgd hnd λU a w hs=>by
  obtain⟨u,h1,h2⟩:=hrun U a w hs;exact zbX hd hdn (v:=v) (by rw[hb];exact zk _) (N:=λY'=>AL P w0 X n ops rest Y' Q) h hs h1 h2
theorem StepA.handV{o:Oper}{N:AS->Prop}(hgd:o.guard=none){d:Nat}(hd:o.dst=some d)(hdn:zO d n=true)(v:V)(hb:v.bound=0)(hrun:∀U a w,Sim w0 X n ⟨F,E,nx⟩ U a w->∃u,(execOp a.eval o).run P w=.ok (.value u) w/\RepV w (OSet X E U) U v.t v.x u)
  (h:N ⟨(d,v)::F,E,nx⟩):kK P w0 X n ops o ⟨F,E,nx⟩ N Q:=
 uQ hgd λU a w hs=>by
  obtain⟨u,h1,h2⟩:=hrun U a w hs;exact zbX hd hdn (v:=v) (by rw[hb];exact zk _) (N:=N) h hs h1 h2
end
section
variable {P:zA}{K:Kn}{w0:zj}{X:Ownr}{n:Nat}{Y:AS}{Q:Exit->AS->Prop}{ops:Array Oper}
theorem Sim.sameE{U:Nat->zi}{a:Act}{w:zj}(h:Sim w0 X n Y U a w){E':Owns}(he:∀j,zq E' j=zq Y.E j):Sim w0 X n ⟨Y.F,E',Y.nx⟩ U a w:=by
 have hO:OSet X E' U=OSet X Y.E U:=by funext g;simp only[OSet,he]
 refine⟨h.sz,h.df,h.bel,λs=>?_,λi o hi=>?_,λi o g hi=>h.new i o g ((he i).symm.trans hi),λi j oi oj hi hj=>h.inj i j oi oj ((he i).symm.trans hi) ((he j).symm.trans hj),λi o hi=>h.lt i o ((he i).symm.trans hi),⟨h.fix.1,λi hi=>⟨(h.fix.2 i hi).1,λo ho=>(h.fix.2 i hi).2 o ((he i).symm.trans ho)⟩⟩,h.hb,λi o hi=>h.hE i o ((he i).symm.trans hi)⟩
 .
  rw[hO];exact h.fr s
 .
  rw[hO];exact h.own i o ((he i).symm.trans hi)
end
def zbN(l:List Oper)(k:Nat):List Nat:=match l[k]? with |some o=>o.after.toList.filterMap λe=>bif qX .any e then some e.on else none|none=>[]
def ancs(l:List Oper):Nat->List Nat->List Nat
 |0,S=>S
 |i+1,S=>bif S.any (λk=>hasN (zbN l k) i) then ancs l i (i::S) else ancs l i S
def zgA(l:List Oper)(m f:Nat):Bool:=(xQ (f-m)).all λj=>(xQ (m+j)).all λi=>hasN (ancs l (m+j) [m+j]) i
section
variable {P:zA}{K:Kn}{w0:zj}{X:Ownr}{n:Nat}{Y:AS}{Q:Exit->AS->Prop}{ops:Array Oper}
theorem zhp{done:List Nat}{o:Oper}{k:Nat}(hk:ops.toList[k]? =some o)(h:(o.after.toList.all λe=>!qX .any e||hasN done e.on)=true):∀i,hasN (zbN ops.toList k) i=true->hasN done i=true:=by
 intro i hi;unfold zbN at hi;rw[hk]at hi;rw[zax]at hi;obtain⟨e,he,h2⟩:=vN.1 hi;rw[cond_eq_ite]at h2;split at h2
 .rename_i hb;cases h2;have:=yH.1 h e he;rw[hb,Bool.not_true,jQ]at this;exact this
 .cases h2
theorem zlp{done:List Nat}{j:Nat}(hj:∀i,hasN (zbN ops.toList j) i=true->i∈done)(hd:∀k,k∈done->∀i,hasN (zbN ops.toList k) i=true->i∈done):∀(i:Nat)(S:List Nat),(∀x∈S,x=j\/x∈done)->∀x∈ancs ops.toList i S,x=j\/x∈done
 |0,S,h=>h
 |i+1,S,h=>by
  rw[ancs,cond_eq_ite];split
  .rename_i hc;refine zlp hj hd i _ λx hx=>?_;rcases zE.1 hx with rfl|hx
   .obtain⟨k,hk,x0⟩:=ur.1 hc;rcases h k hk with rfl|h3
    .exact .inr (hj _ x0)
    .exact .inr (hd k h3 _ x0)
   .exact h x hx
  .exact zlp hj hd i S h
def StepX(P:zA)(w0:zj)(X:Ownr)(n:Nat)(ops:Array Oper)(Q:Exit->AS->Prop)(B:yF)(L:List (Nat×Nat×V))(E0 E1:Owns)(nx0 i:Nat):Prop:=
 ∃o,ops.toList[i]? =some o/\∀(F:yF)(N:AS->Prop),(∀s s',(∀U a w,Sim w0 X n s U a w->Sim w0 X n s' U a w)->N s'->N s)->(∀r:AS,r.F=resJ L i (zdd B L o++F)->(∀j,zq r.E j=zq E1 j)->r.nx=nx0->N r)->kK P w0 X n ops o ⟨zdd B L o++F,E0,nx0⟩ N Q
def StepK(P:zA)(w0:zj)(X:Ownr)(n:Nat)(ops:Array Oper)(Q:Exit->AS->Prop)(B:yF)(L:List (Nat×Nat×V))(E0:Owns)(nx0 i:Nat):Prop:=StepX P w0 X n ops Q B L E0 E0 nx0 i
theorem StepX.eval(hX:X.Ok w0)(hK:KnOk P X.G K){B:yF}{L:List (Nat×Nat×V)}{E0 E1:Owns}{nx0 i:Nat}(h:∃o,ops.toList[i]? =some o/\∀F,∃r,zhH K n ops o ⟨zdd B L o++F,E0,nx0⟩=some r/\allP r.1/\r.2.F=resJ L i (zdd B L o++F)/\(∀j,zq r.2.E j=zq E1 j)/\r.2.nx=nx0):StepX P w0 X n ops Q B L E0 E1 nx0 i:=by
 obtain⟨o,ho,h⟩:=h;refine⟨o,ho,λF N _ hN=>?_⟩;obtain⟨r,h1,h2,h3,h4,h5⟩:=h F;exact yD hX hK h1 h2 (hN _ h3 h4 h5)
def Eph(p:Nat)(E0 E1:Owns)(done:List Nat):Owns:=bif hasN done p then E1 else E0
theorem StepK.eval(hX:X.Ok w0)(hK:KnOk P X.G K){B:yF}{L:List (Nat×Nat×V)}{E0:Owns}{nx0 i:Nat}(h:zq9 K n ops B L E0 nx0 i):StepK P w0 X n ops Q B L E0 nx0 i:=by
 obtain⟨o,ho,h⟩:=h;refine⟨o,ho,λF N _ hN=>?_⟩;obtain⟨r,h1,h2,h3,h4,h5⟩:=h F;exact yD hX hK h1 h2 (hN _ h3 h4 h5)
theorem StepK.val{B:yF}{L:List (Nat×Nat×V)}{E0:Owns}{nx0 i:Nat}(o:Oper)(ho:ops.toList[i]? =some o)(x2:o.guard=none){d:Nat}(x0:o.dst=some d)(x3:zO d n=true)(v:V)(hb:v.bound=0)(hL:∀G,resJ L i G=(d,v)::G)
  (x1:∀F U a w,Sim w0 X n ⟨zdd B L o++F,E0,nx0⟩ U a w->∃u,(execOp a.eval o).run P w=.ok (.value u) w/\RepV w (OSet X E0 U) U v.t v.x u):StepK P w0 X n ops Q B L E0 nx0 i:=
 ⟨o,ho,λF N _ hN=>StepA.handV x2 x0 x3 v hb (x1 F) (hN _ (hL _).symm (λ_=>rfl) rfl)⟩
theorem StepK.step{B:yF}{L:List (Nat×Nat×V)}{E0:Owns}{nx0 i:Nat}(o:Oper)(ho:ops.toList[i]? =some o){d:Nat}(v:V)(hL:∀G,resJ L i G=(d,v)::G)
  (h:∀F N,N ⟨(d,v)::(zdd B L o++F),E0,nx0⟩->kK P w0 X n ops o ⟨zdd B L o++F,E0,nx0⟩ N Q):StepK P w0 X n ops Q B L E0 nx0 i:=
 ⟨o,ho,λF N _ hN=>h F N (hN _ (hL _).symm (λ_=>rfl) rfl)⟩
def TailA(P:zA)(w0:zj)(X:Ownr)(n:Nat)(ops:Array Oper)(Q:Exit->AS->Prop):List Oper->AS->Prop
 | [],s=>Q .normal s
 |o::r,s=>kK P w0 X n ops o s (λs'=>TailA P w0 X n ops Q r s') Q
theorem zlq{o:Oper}{N N':AS->Prop}{Q':Exit->AS->Prop}(h:kK P w0 X n ops o Y N Q)(hN:∀s,N s->N' s)(hQ:∀e s,Q e s->Q' e s):kK P w0 X n ops o Y N' Q':=
 λU a w I R hs hI hR=>h U a w I R hs (λY' U' a' w' h1 h2=>hI _ _ _ _ h1 (hN _ h2)) (λe Y' U' a' w' x0 h1 h2=>hR e Y' U' a' w' x0 h1 (hQ _ _ h2))
def QC(w0:zj)(X:Ownr)(n:Nat)(Q:Exit->AS->Prop)(e:Exit)(s:AS):Prop:=∃s',(∀U a w,Sim w0 X n s U a w->∃U',Sim w0 X n s' U' a w)/\Q e s'
theorem QC.of{e:Exit}{s:AS}(h:Q e s):QC w0 X n Q e s:=⟨s,λU _ _ h=>⟨U,h⟩,h⟩
theorem OrdA.conv{s s':AS}(hs:∀U a w,Sim w0 X n s U a w->∃U',Sim w0 X n s' U' a w):∀{k:Nat}{done:List Nat},OrdA P w0 X n ops (QC w0 X n Q) k done s'->OrdA P w0 X n ops (QC w0 X n Q) k done s
 |0,_,h=>by
  obtain⟨s2,h1,h2⟩:=h;exact⟨s2,λU a w h=>let ⟨x0,h3⟩:=hs U a w h;h1 x0 a w h3,h2⟩
 |k+1,done,h=>by
  refine OrdA.step _ rfl (fN λi hi=>?_);obtain⟨o,ho,h1⟩:=AllN.mem h hi;exact⟨o,ho,StepA.conv hs h1⟩
theorem zeH{done:List Nat}{k:Nat}(h:k∈zdU done ops.toList 0):∃o,ops.toList[k]? =some o/\hasN done k=false/\(o.after.toList.all λe=>!qX .any e||hasN done e.on)=true:=by
 obtain⟨j,o,hj,h1,h2,h3⟩:=zfd h;obtain rfl:k=j:=o_;exact⟨o,h1,h2,h3⟩
theorem zhN{m f:Nat}(ht:zgA ops.toList m f=true){done:List Nat}(x0:∀k,k∈done->∀i,hasN (zbN ops.toList k) i=true->i∈done){j:Nat}{o:Oper}(hj:ops.toList[j]? =some o)(x1:(o.after.toList.all λe=>!qX .any e||hasN done e.on)=true)(h1:m<=j)(h2:j<f):∀i,i<j->i∈done:=by
 intro i hi;have h3:=yH.1 ht (j-m) (qr.2 o_);rw[show m+(j-m)=j by omega]at h3;have h4:=zax.1 (yH.1 h3 i (qr.2 hi));rcases zlp (λi h=>zax.1 (zhp hj x1 i h)) x0 j [j] (λx hx=>.inl (zQ.1 hx)) i h4 with rfl|h5
 .omega
 .exact h5
theorem zlC{m f:Nat}(hf:ops.toList.length=f)(ht:zgA ops.toList m f=true):∀(k p:Nat)(done:List Nat)(s:AS),p+k=f->m<=p->(∀x,x∈done↔x<p)->(∀q,q∈done->∀i,hasN (zbN ops.toList q) i=true->i∈done)->TailA P w0 X n ops Q (ops.toList.drop p) s->OrdA P w0 X n ops Q k done s
 |0,p,done,s,hp,_,_,_,h=>by
  refine OrdA.last ?_;rw[List.drop_of_length_le o_]at h;exact h
 |k+1,p,done,s,hp,hm,hdn,hdc,h=>by
  refine OrdA.step _ rfl (fN λi hi=>?_);obtain⟨o,ho,x3,x2⟩:=zeH hi;have x1:=(xB.1 ho).1;have x5:p<=i:=by
   have:¬i<p:=λh=>by rw[zax.2 ((hdn i).2 h)]at x3;cases x3
   omega
  have x0:=zhN ht hdc ho x2 o_ o_;have x4:i=p:=by
   have:¬p<i:=λh=>by have:=(hdn p).1 (x0 p h);omega
   omega
  subst x4;refine⟨o,ho,?_⟩;rw[xR x1]at h;have e:ops.toList[i]=o:=by
   rw[zR x1]at ho;exact yP ho
  rw[e]at h;refine zlq h (λs' h'=>zlC hf ht k (i+1) (i::done) s' o_ o_ (λx=>?_) (λq hq x hx=>?_) h') λ_ _ h=>h
  .rw[zE,hdn];omega
  .rcases zE.1 hq with rfl|hq
   .exact yO _ (zax.1 (zhp ho x2 x hx))
   .exact yO _ (hdc q hq x hx)
theorem zps:∀(m:Nat)(l:List Nat),(∀x,x<m->x∈l)->m<=l.length
 |0,_,_=>zk _
 |m+1,l,h=>by
  have hm:=h m (qw m);have h1:=zps m (l.erase m) λx hx=>(List.mem_erase_of_ne o_).2 (h x o_);rw[wP hm]at h1;have:=List.length_pos_of_mem hm;omega
def FrJ(B:yF)(L:List (Nat×Nat×V))(done:List Nat)(F:yF):Prop:=∀p∈F,p∈B\/∃q∈L,q.1∈done/\q.2=p
def StepN(P:zA)(w0:zj)(X:Ownr)(n:Nat)(ops:Array Oper)(Q:Exit->AS->Prop)(B:yF)(L:List (Nat×Nat×V))(done:List Nat)(E0 E1:Owns)(nx0 x0 i:Nat):Prop:=
 ∃o,ops.toList[i]? =some o/\∀(F:yF)(N:AS->Prop),FrJ B L done F->(∀s s',(∀U a w,Sim w0 X n s U a w->∃U',Sim w0 X n s' U' a w)->N s'->N s)->(∀r:AS,r.F=resJ L i (zdd B L o++F)->(∀j,zq r.E j=zq E1 j)->r.nx=x0->N r)->kK P w0 X n ops o ⟨zdd B L o++F,E0,nx0⟩ N Q
theorem StepN.of{B:yF}{L:List (Nat×Nat×V)}{done:List Nat}{E0 E1:Owns}{nx0 i:Nat}(h:StepX P w0 X n ops Q B L E0 E1 nx0 i):StepN P w0 X n ops Q B L done E0 E1 nx0 nx0 i:=by
 obtain⟨o,ho,h⟩:=h;exact⟨o,ho,λF N _ hc hN=>h F N (λs s' hs=>hc s s' λU a w h=>⟨U,hs U a w h⟩) hN⟩
theorem StepN.eval(hX:X.Ok w0)(hK:KnOk P X.G K){B:yF}{L:List (Nat×Nat×V)}{done:List Nat}{E0 E1:Owns}{nx0 x0 i:Nat}(h:∃o,ops.toList[i]? =some o/\∀F,∃r,zhH K n ops o ⟨zdd B L o++F,E0,nx0⟩=some r/\allP r.1/\r.2.F=resJ L i (zdd B L o++F)/\(∀j,zq r.2.E j=zq E1 j)/\r.2.nx=x0):StepN P w0 X n ops Q B L done E0 E1 nx0 x0 i:=by
 obtain⟨o,ho,h⟩:=h;refine⟨o,ho,λF N _ _ hN=>?_⟩;obtain⟨r,h1,h2,h3,h4,h5⟩:=h F;exact yD hX hK h1 h2 (hN _ h3 h4 h5)
theorem ziA(hX:X.Ok w0){m f:Nat}(hf:ops.toList.length=f)(hm:m<=f)(ht:zgA ops.toList m f=true){B:yF}{L:List (Nat×Nat×V)}{ph:List Nat->Owns×Nat}(hd:((L.map (·.2.1))++(B.map (·.1))).Nodup)
  (xe:∀i,i<m->∀done,hasN done i=false->(∀x,hasN (zbN ops.toList i) x=true->x∈done)->(∀q,q∈done->∀i,hasN (zbN ops.toList q) i=true->i∈done)->StepN P w0 X n ops (QC w0 X n Q) B L done (ph done).1 (ph (i::done)).1 (ph done).2 (ph (i::done)).2 i) (hq:∀done s,KnowJ m B L (ph done).1 (ph done).2 done s->(∀i,i<m->i∈done)->∃s',(∀U a w,Sim w0 X n s U a w->∃U',Sim w0 X n s' U' a w)/\TailA P w0 X n ops (QC w0 X n Q) (ops.toList.drop m) s'):
  ∀(k:Nat)(done:List Nat)(s:AS),done.length+k=m->(∀q,q∈done->∀i,hasN (zbN ops.toList q) i=true->i∈done)->KnowJ m B L (ph done).1 (ph done).2 done s->FrJ B L done s.F->OrdA P w0 X n ops (QC w0 X n Q) (k+(f-m)) done s
 |0,done,s,hl,hdc,h,_=>by
  have x4:∀i,i<m->i∈done:=λi hi=>zn6 h.nd h.lt o_ hi;obtain⟨s',xj,xi⟩:=hq done s h x4;rw[Nat.zero_add];refine OrdA.conv xj (zlC hf ht (f-m) m done s' o_ (zu _) (λx=>⟨h.lt x,x4 x⟩) hdc xi)
 |k+1,done,s,hl,hdc,h,hfj=>by
  obtain⟨xf,xm,xh⟩:=List.nodup_append.1 hd;rw[show k+1+(f-m)=(k+(f-m))+1 by omega];refine OrdA.step _ rfl (fN λi hi=>?_);obtain⟨o,ho,xb,x9⟩:=zeH hi;have xn:=(xB.1 ho).1;have xd:i<m:=by
   by_cases hc:i<m
   .exact hc
   .have x4:=zhN ht hdc ho x9 o_ o_;have h1:m<=done.length:=by
     exact zps m done λx hx=>x4 x o_
    omega
  have x5:∀x,hasN (zbN ops.toList i) x=true->x∈done:=λx hx=>zax.1 (zhp ho x9 x hx);obtain⟨o',xg,hs⟩:=xe i xd done xb x5 hdc;obtain rfl:o=o':=by rw[ho]at xg;cases xg;rfl
  refine⟨o,ho,?_⟩;have x6:∀p∈zdd B L o,p∈B\/∃q∈L,q.1∈done/\q.2=p:=λp hp=>by
   rcases yJ.1 hp with hp|hp
   .exact .inl hp
   .obtain⟨q,x3,x0⟩:=vN.1 hp;rw[cond_eq_ite]at x0;split at x0
    .rename_i hc;cases x0;obtain⟨e,xk,xa⟩:=ur.1 hc;rw[zh,qE]at xa;have h6:=yH.1 x9 e xk;rw[xa.2,Bool.not_true,jQ]at h6;exact .inr ⟨q,x3,xa.1▸zax.1 h6,rfl⟩
    .cases x0
  have x7:∀p∈zdd B L o,zr s.F p.1=p.2:=λp hp=>by
   rcases x6 p hp with h1|⟨q,h1,h2,rfl⟩
   .exact h.b p h1
   .exact h.l q h1 h2
  have x1:=zfj x7;refine StepA.conv (Y':=⟨zdd B L o++s.F,(ph done).1,(ph done).2⟩) (λU a w hs=>⟨U,hs.eqv ⟨λt=>(x1 t).symm,h.e,h.nx⟩⟩) (hs s.F _ hfj (λ_ _ h1 h2=>OrdA.conv h1 h2) λr h3 h4 h5=>?_);have x2:∀p∈L.filterMap (λp=>bif yG p.1 i then some p.2 else none),∃q∈L,q.1=i/\q.2=p:=λp hp=>by
   obtain⟨q,x3,x0⟩:=vN.1 hp;rw[cond_eq_ite]at x0;split at x0
   .rename_i hc;cases x0;exact⟨q,x3,xL hc,rfl⟩
   .cases x0
  refine ziA hX hf hm ht hd xe hq k (i::done) r (by rw[yT];omega) (λq hq x hx=>?_) ?_ λp hp=>?_
  .rcases zE.1 hq with rfl|hq
   .exact yO _ (x5 x hx)
   .exact yO _ (hdc q hq x hx)
  .refine⟨λp hp xc=>?_,λp hp=>?_,h4,h5,kG.2 ⟨λhm=>(by rw[zax.2 hm]at xb;cases xb),h.nd⟩,λx hx=>?_⟩
   .rw[h3];unfold resJ;by_cases x8:p.1=i
    .refine zc7 (λq hq he=>?_) (vN.2 ⟨p,hp,?_⟩)
     .obtain⟨q',x3,x0,rfl⟩:=x2 q hq;rw[zeb xf x3 hp he]
     .rw[x8,cond_eq_ite,if_pos (Nat.beq_refl i)]
    .rw[zeh λq hq he=>?_,x1]
     .rcases zE.1 xc with e|xc
      .exact absurd e x8
      .exact h.l p hp xc
     .obtain⟨q',x3,x0,rfl⟩:=x2 q hq;exact x8 (by rw[<-zeb xf x3 hp he];exact x0)
   .rw[h3];unfold resJ;rw[zeh λq hq he=>?_,x1]
    .exact h.b p hp
    .obtain⟨q',x3,x0,rfl⟩:=x2 q hq;exact xh _ (uu x3) _ (uu hp) he
   .rcases zE.1 hx with rfl|hx
    .exact xd
    .exact h.lt x hx
  .rw[h3]at hp;unfold resJ at hp;have up:(p∈B\/∃q∈L,q.1∈done/\q.2=p)->p∈B\/∃q∈L,q.1∈i::done/\q.2=p:=λh=>h.imp id λ⟨q,h1,h2,h3⟩=>⟨q,h1,yO _ h2,h3⟩;rcases yJ.1 hp with hp|hp
   .obtain⟨q,h1,h2,h3⟩:=x2 p hp;exact .inr ⟨q,h1,by rw[h2];exact yN ..,h3⟩
   .rcases yJ.1 hp with hp|hp
    .exact up (x6 p hp)
    .exact up (hfj p hp)
theorem zgs(m:Nat)(B:yF)(L:List (Nat×Nat×V)){ph:List Nat->Owns×Nat}(EF:Owns)(nF:Nat)(xa:P.follows .mixedOrders=true)(hX:X.Ok w0){id:Nat}(f:Nat)(hf:ops.toList.length=f)(x2:xM m f=true)(hb:zeQ ops=true)(ht:zgA ops.toList m f=true)
  (hd:disB ((L.map (·.2.1))++(B.map (·.1)))=true) (hB:Sub Y.F B) (h0:ph []=(Y.E,Y.nx)) (hF:∀done,(∀i,i<m->i∈done)->(∀j,zq (ph done).1 j=zq EF j)/\(ph done).2=nF)
  (x7:∀i,i<m->∀done,hasN done i=false->(∀x,hasN (zbN ops.toList i) x=true->x∈done)->(∀q,q∈done->∀i,hasN (zbN ops.toList q) i=true->i∈done)->StepN P w0 X n ops (QC w0 X n Q) B L done (ph done).1 (ph (i::done)).1 (ph done).2 (ph (i::done)).2 i)
  (x9:bndB nF (L.map (·.2)++B)=true) (x3:SubE EF EF) (x6:bndE nF EF=true) (hlen:L.all (λp=>zO p.1 m)=true) (hq:TailA P w0 X n ops (QC w0 X n Q) (ops.toList.drop m) ⟨L.map (·.2)++B,EF,nF⟩) (hk:X.K<=nF:=by exact zb rfl) (x8:zaE ops.toList=true:=by rfl):AWP P w0 X n (.region id ops true) Y Q:=by
 have x2:=zb x2;have x0:∀{F:yF}{N:yF},Sub F N->∀p∈N,zr F p.1=p.2:=by
  intro F N
  induction N with
  |nil=>intro _ p hp;cases hp
  |cons q N ih=>
   intro h p hp;rcases zE.1 hp with rfl|hp
   .exact h.1
   .exact ih h.2 p hp
 refine AWP.weaken hB ?_;have x5:∀p∈B,zr B p.1=p.2:=λp hp=>by
  have h1:=zc7 (F:=[]) (N:=B) (s:=p.1) (v:=p.2) (λq hq he=>by
   have h2:=x0 hB q hq;rw[he,x0 hB p hp]at h2;exact h2.symm) hp
  rwa[List.append_nil]at h1
 have ho:=ziA (P:=P) (Q:=Q) (B:=B) (L:=L) (ph:=ph) hX hf x2 ht (ziT hd) x7 (λdone s h x1=>⟨⟨L.map (·.2)++B,EF,nF⟩,λU a w hs=>⟨U,hs.fit ⟨Sub.of λp hp=>?_,SubE.of (λj=>(h.e j).trans ((hF done x1).1 j)) x3,x9,x6⟩ hk⟩,hq⟩) m [] ⟨B,Y.E,Y.nx⟩ (by simp) (λq hq=>by cases hq) ⟨λp _ h=>(by cases h),x5,λ_=>by rw[h0],by rw[h0],gF,λx h=>(by cases h)⟩ λp hp=>.inl hp
 .rw[show m+(f-m)=f by omega]at ho;exact λU a w hs=>zT (zeR xa f hf hb ho x8 U a w hs) λe a' w'⟨Y',U',h1,s2,h2,h3⟩=>let ⟨xb,h4⟩:=h2 U' a' w' h1;⟨s2,xb,h4,h3⟩
 .rcases yJ.1 hp with hp|hp
  .obtain⟨q,x4,rfl⟩:=jo.1 hp;exact h.l q x4 (x1 _ (zb (yH.1 hlen q x4)))
  .exact h.b p hp
theorem zgt(m:Nat)(B:yF)(L:List (Nat×Nat×V))(x3:P.follows .mixedOrders=true)(hX:X.Ok w0){id:Nat}(f:Nat)(hf:ops.toList.length=f)(x4:xM m f=true)(hb:zeQ ops=true)(ht:zgA ops.toList m f=true)
  (hd:disB ((L.map (·.2.1))++(B.map (·.1)))=true) (hB:Sub Y.F B) (x5:AllI (StepK P w0 X n ops (QC w0 X n Q) B L Y.E Y.nx) m) (x2:bndB Y.nx (L.map (·.2)++B)=true) (x0:SubE Y.E Y.E) (x1:bndE Y.nx Y.E=true)
  (hlen:L.all (λp=>zO p.1 m)=true) (hq:TailA P w0 X n ops (QC w0 X n Q) (ops.toList.drop m) ⟨L.map (·.2)++B,Y.E,Y.nx⟩) (hk:X.K<=Y.nx:=by exact zb rfl) (x6:zaE ops.toList=true:=by rfl):AWP P w0 X n (.region id ops true) Y Q:=
 zgs m B L (ph:=λ_=>(Y.E,Y.nx)) Y.E Y.nx x3 hX f hf x4 hb ht hd hB rfl (λ_ _=>⟨λ_=>rfl,rfl⟩) (λi hi _ _ _ _=>.of (x5.get i hi)) x2 x0 x1 hlen hq hk x6
theorem zi8(m p:Nat)(E1:Owns)(B:yF)(L:List (Nat×Nat×V))(x5:P.follows .mixedOrders=true)(hX:X.Ok w0){id:Nat}(f:Nat)(hf:ops.toList.length=f)(x6:xM m f=true)(hb:zeQ ops=true)(ht:zgA ops.toList m f=true)
  (hd:disB ((L.map (·.2.1))++(B.map (·.1)))=true) (hB:Sub Y.F B) (x1:AllI (λi=>(i≠p->StepK P w0 X n ops (QC w0 X n Q) B L Y.E Y.nx i/\StepK P w0 X n ops (QC w0 X n Q) B L E1 Y.nx i)/\(i=p->StepX P w0 X n ops (QC w0 X n Q) B L Y.E E1 Y.nx i)) m) (x4:bndB Y.nx (L.map (·.2)++B)=true) (x0:SubE E1 E1) (x2:bndE Y.nx E1=true) (x7:zO p m=true)
  (hlen:L.all (λp=>zO p.1 m)=true) (hq:TailA P w0 X n ops (QC w0 X n Q) (ops.toList.drop m) ⟨L.map (·.2)++B,E1,Y.nx⟩) (hk:X.K<=Y.nx:=by exact zb rfl) (x8:zaE ops.toList=true:=by rfl):AWP P w0 X n (.region id ops true) Y Q:=by
 refine zgs m B L (ph:=λdone=>(Eph p Y.E E1 done,Y.nx)) E1 Y.nx x5 hX f hf x6 hb ht hd hB rfl (λdone h=>⟨λ_=>by unfold Eph;rw[zax.2 (h p (by simpa using x7))];rfl,rfl⟩) (λi hi done x3 _ _=>?_) x4 x0 x2 hlen hq hk x8;unfold Eph;by_cases e:i=p
 .subst e;rw[x3,zax.2 (yN ..)];exact .of ((x1.get i hi).2 rfl)
 .have:hasN (i::done) p=hasN done p:=by
   rw[qA,zax,zax,zE];exact⟨λh=>h.resolve_left λh=>e h.symm,.inr⟩
  rw[this];cases hasN done p with
  |true=>exact .of ((x1.get i hi).1 e).2
  |false=>exact .of ((x1.get i hi).1 e).1
end
section
variable {P:zA}{K:Kn}{w0:zj}{X:Ownr}{n:Nat}{Y:AS}{Q:Exit->AS->Prop}{ops:Array Oper}
theorem StepP.eval(hX:X.Ok w0)(hK:KnOk P X.G K){B:yF}{L:List (Nat×Nat×V)}{E0 E1:Owns}{nx0 i p:Nat}(x0:i≠p)(h0:zq9 K n ops B L E0 nx0 i)(h1:zq9 K n ops B L E1 nx0 i):
 (i≠p->StepK P w0 X n ops Q B L E0 nx0 i/\StepK P w0 X n ops Q B L E1 nx0 i)/\(i=p->StepX P w0 X n ops Q B L E0 E1 nx0 i):=⟨λ_=>⟨StepK.eval hX hK h0,StepK.eval hX hK h1⟩,λe=>absurd e x0⟩
theorem StepP.store{B:yF}{L:List (Nat×Nat×V)}{E0 E1:Owns}{nx0 p:Nat}(h:StepX P w0 X n ops Q B L E0 E1 nx0 p):
 (p≠p->StepK P w0 X n ops Q B L E0 nx0 p/\StepK P w0 X n ops Q B L E1 nx0 p)/\(p=p->StepX P w0 X n ops Q B L E0 E1 nx0 p):=⟨λh=>absurd rfl h,λ_=>h⟩
end
noncomputable def hdL(K:Kn)(n:Nat)(ops:Array Oper):Nat->List Oper->AS->Option (List (Nat×Nat×V))
 |_,[],_=>some []
 |i,o::l,Y=>match zhH K n ops o Y with
  |some r=>match o.dst with
   |some d=>match zr r.2.F d with
    |⟨t,x⟩=>(hdL K n ops (i+1) l r.2).map ((i,d,⟨t,x⟩):: ·)
   |none=>none
  |none=>none
def clF:List Nat->yF->yF
 |_,[]=>[]
 |l,(s,v)::r=>bif hasN l s then clF l r else(s,v)::clF (s::l) r
theorem zla:∀(F:yF)(l:List Nat)(G:yF),(∀s,hasN l s=false->zr G s=zr F s)->Sub G (clF l F)
 | [],_,_,_=>trivial
 |(s,v)::r,l,G,h=>by
  unfold clF;cases hs:hasN l s with
  |true=>
   refine zla r l G λt ht=>?_;rw[h t ht,zal,if_neg λe=>by rw[e,ht]at hs;cases hs]
  |false=>
   refine⟨by rw[h s hs,zal,if_pos rfl],zla r (s::l) G λt ht=>?_⟩;have h1:s≠t:=λe=>by rw[e,zax.2 (yN ..)]at ht;cases ht
   rw[h t (by
    cases hl:hasN l t with
    |false=>rfl
    |true=>rw[zax.2 (yO _ (zax.1 hl))]at ht;cases ht),zal,if_neg h1]
def clE:List Nat->Owns->Owns
 |_,[]=>[]
 |l,(i,o)::r=>bif hasN l i then clE l r else(i,o)::clE (i::l) r
theorem ziW:∀(E:Owns)(l:List Nat)(j:Nat),hasN l j=false->zq (clE l E) j=zq E j
 | [],_,_,_=>rfl
 |(i,o)::r,l,j,h=>by
  unfold clE;rw[zag];cases hs:hasN l i with
  |true=>rw[if_neg λe=>by rw[e,h]at hs;cases hs];exact ziW r l j h
  |false=>
   show zq ((i,o)::clE (i::l) r) j=_;rw[zag];split
   .rfl
   .rename_i hne;exact ziW r _ j (by
     cases hl:hasN (i::l) j with
     |false=>rfl
     |true=>rcases zE.1 (zax.1 hl) with e|e
            .exact absurd e.symm hne
            .rw[zax.2 e]at h;cases h)
theorem zlb:∀(E:Owns)(l:List Nat)(G:Owns),(∀j,hasN l j=false->zq G j=zq E j)->SubE G (clE l E)
 | [],_,_,_=>trivial
 |(i,o)::r,l,G,h=>by
  unfold clE;cases hs:hasN l i with
  |true=>
   refine zlb r l G λt ht=>?_;rw[h t ht,zag,if_neg λe=>by rw[e,ht]at hs;cases hs]
  |false=>
   have h2:SubE G (clE (i::l) r):=zlb r (i::l) G λt ht=>by
    have h1:i≠t:=λe=>by rw[e,zax.2 (yN ..)]at ht;cases ht
    rw[h t (by
     cases hl:hasN l t with
     |false=>rfl
     |true=>rw[zax.2 (yO _ (zax.1 hl))]at ht;cases ht),zag,if_neg h1]
   cases o with
   |none=>exact h2
   |some o=>exact⟨by rw[h i hs,zag,if_pos rfl],h2⟩
section
variable {P:zA}{K:Kn}{w0:zj}{X:Ownr}{n:Nat}{Y:AS}{Q:Exit->AS->Prop}{ops:Array Oper}
theorem TailA.seq(hX:X.Ok w0)(hK:KnOk P X.G K):∀{l:List Oper}{s:AS}{r:List Prop×AS},aSeq K n ops l s=some r->allP r.1->Q .normal r.2->TailA P w0 X n ops Q l s
 | [],s,r,h,_,hq=>by
  cases h;exact hq
 |o::l,s,r,h,hp,hq=>by
  simp only[aSeq]at h;split at h
  .rename_i p1 s1 h1;obtain⟨q,h2,rfl⟩:=ze9 h;obtain⟨p3,p4⟩:=zav.1 hp;exact yD hX hK h1 p3 (TailA.seq hX hK h2 p4 hq)
  .cases h
def bndC(k:Nat):yF->Bool
 | []=>true
 |(_,v)::r=>bif v.t.data then bndC k r else xM v.bound k&&bndC k r
theorem zli{k:Nat}:∀{F:yF},bndC k F=true->bndB k F=true
 | [],_=>rfl
 |(s,⟨t,x⟩)::r,h=>by
  unfold bndC at h;unfold bndB;cases hd:t.data with
  |true=>
   rw[hd]at h;rw[show V.bound ⟨t,x⟩=0 from zfx t x hd,zli h];rfl
  |false=>
   rw[hd]at h;rw[zh];rw[cond_false,zh]at h;exact⟨h.1,zli h.2⟩
theorem zcE(m:Nat)(hm:P.follows .mixedOrders=true)(hK:KnOk P X.G K){L:List (Nat×Nat×V)}{id:Nat}{r:List Prop×AS}(hL:hdL K n ops 0 (ops.toList.take m) ⟨clF [] Y.F,clE [] Y.E,Y.nx⟩=some L)(hq:Q .normal r.2)(hX:X.Ok w0:=by assumption)
  (hst:AllI (zq9 K n ops (clF (L.map (·.2.1)) Y.F) L (clE [] Y.E) Y.nx) m:=by repeat'(first|exact trivial|refine AllI.s ?_ ?_|exact⟨_,rfl,λF=>⟨_,rfl,z_,rfl,λ_=>rfl,rfl⟩⟩))
  (hs:aSeq K n ops (ops.toList.drop m) ⟨L.map (·.2)++clF (L.map (·.2.1)) Y.F,clE [] Y.E,Y.nx⟩=some r:=by rfl) (hp:allP r.1:=by exact z_) (hb:zeQ ops=true:=by kernel_rfl) (ht:zgA ops.toList m ops.toList.length=true:=by kernel_rfl) (hmf:xM m ops.toList.length=true:=by rfl)
  (hd:disB ((L.map (·.2.1))++((clF (L.map (·.2.1)) Y.F).map (·.1)))=true:=by rfl) (hbf:bndC Y.nx (L.map (·.2)++clF (L.map (·.2.1)) Y.F)=true:=by rfl) (hbe:bndE Y.nx (clE [] Y.E)=true:=by rfl) (hlen:L.all (λp=>zO p.1 m)=true:=by rfl)
  (hk:X.K<=Y.nx:=by exact zb rfl) (hdf:zaE ops.toList=true:=by rfl):AWP P w0 X n (.region id ops true) Y Q:=λU a w hs0=>
 zgt (Y:=⟨Y.F,clE [] Y.E,Y.nx⟩) m (clF (L.map (·.2.1)) Y.F) L hm hX _ rfl hmf hb ht hd (zla Y.F _ Y.F λ_ _=>rfl) (AllI.of λi hi=>StepK.eval hX hK (hst.get i hi)) (zli hbf) (zlb Y.E [] (clE [] Y.E) λj _=>ziW Y.E [] j rfl) hbe hlen (TailA.seq hX hK hs hp (QC.of hq)) hk hdf U a w (hs0.sameE (E':=clE [] Y.E) λj=>ziW Y.E [] j rfl)
end
abbrev u8:Ty:=.int .u8
abbrev i64:Ty:=.int .i64
abbrev u32:Ty:=.int .u32
abbrev bs:Ty:=.slice u8
abbrev dg:Ty:=.arr 32 u8
abbrev jl:Ty:=.pair bs (.pair i64 .unit)
abbrev jt:Ty:=.pair i64 (.pair i64 (.pair u8 .unit))
abbrev ints:Ty:=.slice i64
abbrev nd:Ty:=.pair i64 (.pair i64 (.pair i64 (.pair i64 (.pair i64 (.pair i64 (.pair ints (.pair .str .unit)))))))
abbrev lru:Ty:=.pair i64 (.pair i64 (.pair .bool .unit))
abbrev cal:Ty:=.pair i64 (.pair ints (.pair i64 (.pair (.slice lru) .unit)))
abbrev lims:Ty:=.pair i64 (.pair i64 .unit)
abbrev shp:Ty:=.pair i64 (.pair .bool (.pair lims .unit))
abbrev mkr:Ty:=.pair ints (.pair i64 (.pair i64 (.pair i64 .unit)))
abbrev sp:Ty:=.pair i64 (.pair i64 .unit)
abbrev mark:Ty:=.pair sp (.pair i64 .unit)
abbrev mv:Ty:=.pair i64 (.pair .bool (.pair i64 (.pair i64 (.pair i64 .unit))))
abbrev se:Ty:=.pair (.slice nd) (.pair i64 (.pair i64 (.pair .str (.pair i64 (.pair i64 (.pair (.slice mv) .unit))))))
abbrev lt:Ty:=.pair i64 (.pair i64 (.pair i64 (.pair i64 (.pair i64 (.pair i64 (.pair i64 (.pair i64 (.pair i64 (.pair i64 (.pair i64 (.pair i64 (.pair mv (.pair se (.pair i64 (.pair i64 (.pair i64 (.pair sp (.pair ints (.pair dg .unit)))))))))))))))))))
abbrev ev:Ty:=.pair i64 (.pair i64 (.pair i64 (.pair bs (.pair dg .unit))))
abbrev srd:Ty:=.pair bs .unit
def dT:Tbl:=[(3,i64),(4,.bool),(5,u8),(9,.str),(25,bs),(2,i64),(44,i64),(38,ints),(198,.int .u64),(104,nd),(31,.slice nd),(32,.slice nd),(30,mv),(33,.slice mv),(35,se),(42,lt),(28,.slice lt),
 (88,i64),(127,.arr 19 i64),(182,.arr 17 (.arr 2 i64)),(148,.arr 17 .bool),(149,ints),(181,.arr 2 i64),(176,.arr 3 i64),(206,.arr 8 u8),(37,sp),(63,mark),(64,.slice mark),(142,.arr 5 i64),(69,.slice dg),(66,ev),
 (53,.slice bs),(40,dg),(92,.int .u32),(23,.int .u16),(199,.arr 8 u32),(220,.arr 64 u32),(94,.int .u64),(200,.arr 8 u32),(175,.arr 64 u8),(27,jl),(52,jt),
 (197,lru),(152,.slice lru),(154,cal),(124,.slice cal),(189,lims),(191,shp),(192,.arr 19 shp),(73,mkr),(146,.slice .str),(22,.slice ints),(159,srd),(168,srd),(165,.unit)]
def dQ:List zy:=[40,30,37,189]
def dU:UTbl:=[(25,5),(38,3),(31,104),(32,104),(33,30),(28,42),(149,88),(64,63),(69,40),(53,25),(152,197),(124,154),(146,9),(22,38)]
def dK:Kn:={ T:=dT,Q:=dQ,U0:=dU,C:=[] }
set_option maxRecDepth 100000 in
theorem zd2:TOk zf dT dQ:=znl (by kernel_rfl) (by kernel_rfl)
theorem zdu:UOk zf dU:=zqI (by kernel_rfl)
def dG(w:zj):Prop:=0<w.heap.size/\∃cs,RepC w (λ_=>True) (.arr 64 u32) zf6 cs/\CellsAt w 0 0 cs
theorem zfU{R:Nat->Prop}{w w':zj}(hR:¬R 0)(h:dG w)(hk:Kept R w w'):dG w':=by
 obtain⟨h1,cs,h2,h3⟩:=h;refine⟨zF h1 hk.size,cs,zbB (.arr 64 u32) rfl _ _ h2,λj u hu=>?_⟩;have h4:=h3 j u hu;unfold qd at *;rw[hk.block _ h1 hR];exact h4
theorem zfr(w w':zj)(h:dG w)(hb:xW w.heap.size w w'):dG w':=zfU (R:=λ_=>False) (λh=>h) h ⟨hb.os,hb.tape,hb.output,hb.size,λk hk _=>hb.block k hk⟩
theorem dM:zf.follows .mixedOrders=true:=by kernel_rfl
theorem zam:KnOk zf dG dK:=⟨zd2,zdu,ue,zfr,ww⟩
abbrev gmT:Tbl:=dT
abbrev gmQ:List zy:=dQ
abbrev gmU:UTbl:=dU
abbrev gmK:Kn:=dK
theorem zfi:TOk zf gmT gmQ:=zd2
theorem zjW:UOk zf gmU:=zdu
def gmG(_:zj):Prop:=True
theorem zar:KnOk zf gmG gmK:=⟨zd2,zdu,ue,λ_ _ _ _=>trivial,ww⟩
theorem vI64{x y:Int}(h:x=y):(⟨i64,x⟩:V)=⟨i64,y⟩:=by rw[h]
theorem zcp{x y:Bool}(h:x=y):(⟨.bool,x⟩:V)=⟨.bool,y⟩:=by rw[h]
theorem zq6(a b:Bool):(bif a then b else false)=(a&&b):=by cases a<;>rfl
theorem b_or(a b:Bool):(bif a then true else b)=(a||b):=by cases a<;>rfl
theorem za4{α:Type}{l:List α}{k:Nat}{z:α}(h:k<l.length):l.getD (k:Int).toNat z=l[k]:=by
 rw[zS,zH,zR h];rfl
theorem zaT{t:Ty}{x y:t.T}(h:x=y):some (OObj.box t x)=some (OObj.box t y):=by rw[h]
section
open Go Go.RowKit Go.ChangeShapes Go.WideShapes Go.ChangeAt
theorem own:ownKnob zf.godebug=none:=by kernel_rfl
theorem zsW:laidOutB zf=true:=by kernel_rfl
theorem gTab:zf.globalNamed "kalends/digest.rounds"=some 0:=by kernel_rfl
theorem zqE:(zf.globals[0]?).map (·.type)=some 220:=by kernel_rfl
theorem zqT:zf.cellsOf 220=64:=by kernel_rfl
theorem zo7:zf.cellsOf 92=1:=by kernel_rfl
abbrev zvN{H:Type}:List (String×DataW H):=[("kalends/digest.rounds",Rows.laid_kalends_digest_rounds)]
def tabZ:List Int:=zf6.map λx=>(x.toNat:Int)
theorem zt9:(Rows.laid_kalends_digest_rounds:DataW Unit)=Lib.tabData .u32 tabZ:=by kernel_rfl
theorem ztl{W:zj}(h:laidMetH zf zvN W):dG W:=by
 have h:laidMet zf [("kalends/digest.rounds",Lib.tabData .u32 tabZ)] W:=by rw[<-zt9];exact h
 have ht:=Lib.tabIs_of_head (rest:=[]) gTab zqE Tryz.underlying220 Tryz.underlying92 zo7 zqT h;have hlen:tabZ.length=64:=rfl;have hcell:=λi(hi:i<64)=>ht.cell gTab i (by rw[hlen];exact hi);refine⟨?_,tabZ.map λz=>.int .u32 z,⟨rfl,?_⟩,λj u hu=>?_⟩
 .have h0:=hcell 0 (by omega);unfold qd at h0;cases ho:W.heap[0]? with
  |none=>simp[ho]at h0
  |some o=>exact(zv.1 ho).1
 .unfold tabZ;generalize zf6=l
  induction l with
  |nil=>rfl
  |cons x l ih=>exact⟨_,_,rfl,rfl,ih⟩
 .have hj:j<64:=by
   have:=(xB.1 hu).1
   simpa [hlen] using this
  rw[Nat.zero_add,hcell j hj];rw[yB]at hu;rw[<-hu,zH,zR (by rw[hlen];exact hj)];rfl
noncomputable def zg2(os:Os):zj:=
 { World.holding zf os ⟨#[],#[],[]⟩ with heap:=(World.holding zf os ⟨#[],#[],[]⟩).heap.modify 0 fun
  |.cells _ t frozen=>.cells (tabZ.map λz=>qD .u32 z).toArray t frozen
  |o=>o }
end
section
def rvOf(rs:List ResultVar)(Y:AS):V:=match rs with
 | [.tmp s]=>zr Y.F s
 |_=>⟨.junk,()⟩
def frV:Nat->List V->List (Nat×V)
 |_,[]=>[]
 |k,v::r=>(k,v)::frV (k+1) r
theorem zkY{w:zj}{O:Nat->Prop}{U:Nat->zi}:∀(vs:List V)(us pre post:List zi),RepVs w O U vs us->∀s,RepV w O U (zr (frV pre.length vs) s).t (zr (frV pre.length vs) s).x ((pre++us++post).toArray.getD s undef)
 | [],_,_,_,_,s=>trivial
 |v::r,us,pre,post,h,s=>by
  obtain⟨h1,h2⟩:=h;cases us with
  |nil=>cases h1
  |cons u us=>
   obtain⟨u',e,h3⟩:=h2 0 v rfl;cases e;show RepV _ _ _ (zr ((pre.length,v)::frV (pre.length+1) r) s).t (zr ((pre.length,v)::frV (pre.length+1) r) s).x _;rw[zal];by_cases hs:pre.length=s
   .rw[if_pos hs, <-hs];have:((pre++u::us++post).toArray.getD pre.length undef)=u:=by simp[yA]
    rw[this];exact h3
   .rw[if_neg hs];have:=zkY r us (pre++[u]) post ⟨by simpa using h1,λi x hx=>by
     obtain⟨y,h4,h5⟩:=h2 (i+1) x (by simpa using hx);exact⟨y,by simpa using h4,h5⟩⟩ s
    rw[zl,qy]at this;rw[show pre++u::us++post=pre++[u]++us++post by simp];exact this
section
variable {P:zA}{w0:zj}{X:Ownr}{n m:Nat}{Q:Exit->AS->Prop}{ops:Array Oper}{F:yF}{E:Owns}{nx:Nat}
theorem ze2{U:Nat->zi}{a:Act}{w:zj}(hs:Sim w0 X n ⟨F,E,nx⟩ U a w)(zas:List zK):RepVs w (OSet X E U) U (zas.map (evO F)) (zas.map a.eval):=by
 refine⟨by simp,λi v hv=>?_⟩;rw[yB,yC]at hv;obtain⟨x,hx,rfl⟩:=hv;exact⟨a.eval x,by rw[yB,hx];rfl,hs.ops x⟩
end
section
variable {P:zA}{K:Kn}{w0:zj}{X:Ownr}{n:Nat}{Y:AS}{Q:Exit->AS->Prop}{ops:Array Oper}
theorem zfB(k:Nat)(hX:X.Ok w0)(x7:xM X.K k=true)(hb:zcX Y.E k=true)(x3:xM k Y.nx=true){c:Code}(h:∀(w1:zj)(X':Ownr),X'.Ok w1->X'.G=X.G->X'.K=k->X'.ρ=X.ρ->X'.D=X.D->X'.X=X.X->(∀g,X'.R g->w0.heap.size<=g\/X.R g)->w0.heap.size<=w1.heap.size->(∀i,i<X.K->X'.fix i=X.fix i)->AWP P w1 X' n c Y Q):AWP P w0 X n c Y Q:=λU a w hs=>by
 have x7:=zb x7;have x3:=zb x3
 let Y0:Ownr:={ X with K:=k,fix:=zhc U,B:=λg=>∃i o,zq Y.E i=some o/\zai (U i)=some g }
 have x4:∀i,i<k->∃o,zq Y.E i=some o/\o.isBuf=false/\zai (U i)=some (zhc U i):=λi hi=>zhj (F:=Y.F) (E:=Y.E) (nx:=Y.nx) hs hb hi;have xa:∀g,Y0.R g->∃i o,zq Y.E i=some o/\zai (U i)=some g:=λg hg=>by
  rcases hg with ⟨i,hi,hg⟩|hg
  .
   have hg:zhc U i=g:=hg;obtain⟨o,ho,_,hf⟩:=x4 i hi;exact⟨i,o,ho,by rw[hf,hg]⟩
  .exact hg
 have x0:∀g,Y0.R g->w0.heap.size<=g\/X.R g:=λg hg=>by
  obtain⟨i,o,h1,h2⟩:=xa g hg;exact hs.new i o g h1 h2
 have x1:∀w',Kept Y0.R w w'->Kept X.R w0 w':=λw' hk=>⟨hk.os.trans hs.bel.os,hk.tape.trans hs.bel.tape,hk.output.trans hs.bel.output,zL hs.bel.size hk.size,λg x9 hn=>by
  have xc:=zF x9 hs.bel.size;rw[hk.block g xc λhy=>by
   rcases x0 g hy with h1|h1
   .omega
   .exact hn h1]
  exact hs.bel.block g x9 hn⟩
 have x2:Y0.Ok w:=by
  refine⟨λg hg=>⟨zF (hX.1 g hg).1 hs.bel.size,λhy=>?_⟩,λg hg=>?_,λw' hk=>hX.2.2 w' (x1 w' hk)⟩
  .have h1:=hX.1 g hg;rcases x0 g hy with h2|h2
   .omega
   .exact h1.2 h2
  .obtain⟨i,o,h1,h2⟩:=xa g hg;exact((hs.own i o h1).block_lt h2).2
 have x5:Sim w Y0 n Y U a w:=⟨hs.sz,hs.df,jw _ _,hs.fr,hs.own,λi o g h1 h2=>.inr (.inr ⟨i,o,h1,h2⟩),hs.inj,hs.lt,⟨x3,λi x6=>by
  obtain⟨o,ho,xd,hf⟩:=x4 i x6;exact⟨hf,λo' x8=>by rw[ho]at x8;cases x8;exact xd⟩⟩,hs.hb,hs.hE⟩
 have xb:∀i,i<X.K->Y0.fix i=X.fix i:=λi hi=>by
  obtain⟨o,ho,_,hf⟩:=x4 i o_;have h2:=(hs.fix.2 i hi).1;rw[hf]at h2;exact yP h2
 refine zT (h w Y0 x2 rfl rfl rfl rfl rfl x0 hs.bel.size xb U a w x5) λe a' w'⟨Y',U',h1,h2⟩=>⟨Y',U',?_,h2⟩;exact⟨h1.sz,h1.df,x1 w' h1.bel,h1.fr,h1.own,λi o g h3 h4=>by
  rcases h1.new i o g h3 h4 with h5|h5
  .exact .inl (zL hs.bel.size h5)
  .exact x0 g h5,h1.inj,h1.lt,⟨zL x7 h1.fix.1,λi x6=>by
   have h3:=h1.fix.2 i (by show i<k;omega);exact⟨h3.1.trans (by rw[xb i x6]),h3.2⟩⟩,h1.hb,h1.hE⟩
end
section
variable {P:zA}{K:Kn}{w0:zj}{X:Ownr}{n:Nat}{F:List (Nat×V)}{E:Owns}{nx:Nat}{Q:Exit->AS->Prop}{ops:Array Oper}
theorem zpE(hX:X.Ok w0){t:zy}{o:Oper}{x0:List Oper}(ho:o.op=.makeMap t none)(x2:o.guard=none){d:Nat}(hd:o.dst=some d)(x1:zO d n=true)
  (h:∀r,AL P w0 X n ops x0 ⟨(d,⟨.lit,.map (some r)⟩)::F,(nx,some (.mp r (λes=>es=[])))::E,nx+1⟩ Q):AL P w0 X n ops (o::x0) ⟨F,E,nx⟩ Q:=by
 refine jg x2 (λc e=>by rw[ho]at e;cases e) λU a w hs=>?_;have x3:d<n:=by simpa using x1
 refine zba (u:=.map (some w.heap.size)) (w':=w.alloc (.map #[] 0)) ?_ ?_
 .unfold execOp;simp only[ho];exact za7 rfl
 .rw[hd];obtain⟨U',h1⟩:=hs.make hX (za8 w (.map #[] 0)) (bv:=.pointer (some ⟨w.heap.size,0,none⟩)) (o:=.mp w.heap.size (λes=>es=[]))
   (λO U' _=>⟨#[],0,rfl,zk _,xK w _,rfl⟩) (λg hg=>by cases hg;exact zu _) (v:=⟨.lit,.map (some w.heap.size)⟩) (u:=.map (some w.heap.size))
   (λO U' hb=>rfl) (zk _) x3 (λvs e v hv=>by cases e)
  exact⟨_,U',h1,h _⟩
theorem zpH{t kt et:zy}{kd:TypeDesc}(hu:P.underlying t=some (.map kt et))(hk:P.underlying kt=some kd)(hp:zdH kd=true){r j:Nat}{es:List (zi×zi)}(hm:zq E j=some (.mp r (λx=>x=es))){o:Oper}{x0:List Oper}{m k v:zK}(ho:o.op=.mapUpdate t m k v)(x4:o.guard=none)(hd:o.dst=none)
  (hl:evO F m=⟨.lit,.map (some r)⟩) {key val:zi} (x3:∀U a w,Sim w0 X n ⟨F,E,nx⟩ U a w->a.eval k=key) (x2:∀a:Act,a.eval v=val) (hf:zjZ kd key es=some none)
  (h:AL P w0 X n ops x0 ⟨F,(j,some (.mp r (λx=>x=es++[(key,val)])))::E,nx⟩ Q):AL P w0 X n ops (o::x0) ⟨F,E,nx⟩ Q:=by
 refine jg x4 (λc e=>by rw[ho]at e;cases e) λU a w hs=>?_;obtain⟨ms,ck,eb,_,h1,h2⟩:=hs.own j _ hm;have x1:=zhx hu hk hp h1 (key:=key) (v:=val) (by rw[h2];exact hf);have x5:=(zv.1 h1).1;refine zr2 (w':=w.putObj r (.map (ms.push { key:=key,val:=val,born:=ck }) (ck+1))) ?_ hd ⟨_,U,hs.write (o':=.mp r (λx=>x=es++[(key,val)])) hm (by rw[eb];exact grownBy_putObj' w r _) (λhk=>?_) rfl (λws e=>by cases e),h⟩
 .unfold execOp;simp only[ho];rw[zaR hs hl,x3 U a w hs,x2 a];exact .inl (by simp[x1])
 .refine⟨_,_,eb,zk _,jx x5,?_⟩;rw[Array.toList_push,xX,h2];rfl
theorem zki{t kt et:zy}{kd:TypeDesc}(hu:P.underlying t=some (.map kt et))(hk:P.underlying kt=some kd)(hp:zdH kd=true){r j:Nat}{es:List (zi×zi)}(hm:zq E j=some (.mp r (λx=>x=es))){o:Oper}{x0:List Oper}{m k:zK}(ho:o.op=.lookup t m k false)(x3:o.guard=none){d:Nat}(hd:o.dst=some d)(x2:zO d n=true)
  (hl:evO F m=⟨.lit,.map (some r)⟩) {key:zi} (x1:∀U a w,Sim w0 X n ⟨F,E,nx⟩ U a w->a.eval k=key) {z:zi} (hz:∀w,(zeroValue et).run P w=.ok z w) {x:Option zi} (hf:zjZ kd key es=some x) (V:V) (hV:∀w O U,RepV w O U V.t V.x (x.getD z)) (hb:V.bound=0)
  (h:AL P w0 X n ops x0 ⟨(d,V)::F,E,nx⟩ Q):AL P w0 X n ops (o::x0) ⟨F,E,nx⟩ Q:=by
 refine AL.handV x3 (λc e=>by rw[ho]at e;cases e) hd x2 V hb (λU a w hs=>?_) h;obtain⟨ms,ck,eb,_,h1,h2⟩:=hs.own j _ hm;refine⟨x.getD z,?_,hV _ _ _⟩;unfold execOp;simp only[ho];rw[zaR hs hl,x1 U a w hs];cases x with
 |some v=>exact za7 (zhw hu hk hp h1 (by rw[h2];exact hf))
 |none=>
  rw[<-h2, <-zfm kd key ms.toList 0]at hf;obtain⟨o',x4,hf⟩:=yC.1 hf;cases o' with
  |some y=>cases hf
  |none=>
   refine za7 ?_;simp[Instr.lookup,Instr.findKey,run_underlying hu,run_underlying hk,zfD h1,zd7 _ hk hp,x4,hz]
end
def okT(p q:Nat->Bool):(t:Ty)->t.T->Bool
 |.optr _,x=>p x.i
 |.obuf _,i=>q i
 |.cond t,x=>okT p q t x.2
 |.hptr,x=>p x.1
 |.hcons a b,x=>okT p q a x.1&&okT p q b x.2
 |_,_=>true
def okV(p q:Nat->Bool)(v:V):Bool:=okT p q v.t v.x
theorem RepV.conv{w:zj}{O:Nat->Prop}{U x0:Nat->zi}{p q:Nat->Bool}(hp:∀i,p i=true->zai (x0 i)=zai (U i))(hq:∀i,q i=true->x0 i=U i):∀(t:Ty)(x:t.T)(v:zi),okT p q t x=true->RepV w O U t x v->RepV w O x0 t x v:=by
 intro t
 induction t with
 |optr t _=>rintro x v h ⟨g,h1,h2⟩;exact⟨g,(hp _ h).trans h1,h2⟩
 |obuf t _=>intro x v h h1;exact(show v=U x from h1).trans (hq _ h).symm
 |cond t ih=>intro x v h h1;exact⟨λhc=>ih _ _ h (h1.1 hc),h1.2⟩
 |hptr=>rintro x v h ⟨g,h1,h2⟩;exact⟨g,(hp _ h).trans h1,h2⟩
 |hcons a b iha ihb=>
  rintro x v h ⟨u,s,h1,h2,h3,h4⟩;have h:(okT p q a x.1&&okT p q b x.2)=true:=h;rw[zh]at h;exact⟨u,s,h1,h2,iha _ _ h.1 h3,ihb _ _ h.2 h4⟩
 |_=>intro x v _ h;exact h
theorem RepH.convO{w:zj}{O:Nat->Prop}{U x0:Nat->zi}{p q:Nat->Bool}(hp:∀i,p i=true->zai (x0 i)=zai (U i))(hq:∀i,q i=true->x0 i=U i):∀{vs:List V}{cs:List zi},vs.all (okV p q)=true->RepH w O U vs cs->RepH w O x0 vs cs
 | [],_,_,h=>h
 |v::r,_,hb,⟨u,s,h1,h2,h3,h4⟩=>by
  rw[vl,zh]at hb;exact⟨u,s,h1,h2,RepV.conv hp hq _ _ _ hb.1 h3,RepH.convO hp hq hb.2 h4⟩
def okO(p q:Nat->Bool):OObj->Bool
 |.hbox _ vs=>vs.all (okV p q)
 |_=>true
theorem OwnRep.convO{w:zj}{O:Nat->Prop}{U x0:Nat->zi}{p q:Nat->Bool}(hp:∀i,p i=true->zai (x0 i)=zai (U i))(hq:∀i,q i=true->x0 i=U i){B:Nat}{bv:zi}{o:OObj}(hb:okO p q o=true)(h:yZ w O U B bv o):yZ w O x0 B bv o:=by
 cases o with
 |hbox ty vs=>
  obtain⟨g,cs,h1,h2,h3,h4⟩:=h;exact⟨g,cs,h1,h2,h3,h4.convO hp hq hb⟩
 |_=>exact h
def zdC(K:Nat):List (Nat×Option OObj)->List (Nat×Option OObj)
 | []=>[]
 |(i,o)::r=>bif zO i K then(i,o)::zdC K r else zdC K r
theorem zgz{K i:Nat}:∀{E:Owns},zq (zdC K E) i=if i<K then zq E i else none
 | []=>by
  split<;>rfl
 |(j,o)::r=>by
  have ih:=zgz (K:=K) (i:=i) (E:=r);unfold zdC;cases hj:zO j K with
  |true=>
   have hj:j<K:=by simpa using hj
   show(bif yG j i then o else zq (zdC K r) i)=_;cases hji:yG j i with
   |true=>
    obtain rfl:=xL hji;rw[if_pos hj];show o=bif yG j j then o else _
    rw[hji];rfl
   |false=>
    show zq (zdC K r) i=_;rw[ih];show _=if i<K then(bif yG j i then o else zq r i) else none
    rw[hji];rfl
  |false=>
   have hj:¬j<K:=λh=>by rw[show zO j K=true from by simpa using h]at hj;cases hj
   show zq (zdC K r) i=_;rw[ih];show _=if i<K then(bif yG j i then o else zq r i) else none
   by_cases hi:i<K
   .rw[if_pos hi,if_pos hi];have:yG j i=false:=by
     cases h:yG j i with
     |false=>rfl
     |true=>have:=xL h;omega
    rw[this];rfl
   .rw[if_neg hi,if_neg hi]
def hasE(E:List (Nat×Option OObj))(i:Nat):Bool:=E.any λp=>yG p.1 i
theorem ziO{i:Nat}:∀{E E':Owns},zq (E'++E) i=if hasE E' i=true then zq E' i else zq E i
 |E,[]=>rfl
 |E,(j,o)::r=>by
  have ih:=ziO (i:=i) (E:=E) (E':=r);show(bif yG j i then o else zq (r++E) i)=if(yG j i||hasE r i)=true then(bif yG j i then o else zq r i) else _
  cases yG j i with
  |true=>rfl
  |false=>simpa using ih
theorem zmi{i:Nat}:∀{E:Owns},hasE E i=false->zq E i=none
 | [],_=>rfl
 |(j,o)::r,h=>by
  have h:(yG j i||hasE r i)=false:=h;rw[jM]at h;show(bif yG j i then o else zq r i)=none;rw[h.1];exact zmi h.2
def pIn(K nx i:Nat):Bool:=zO i K||xM nx i
def qIn(nx i:Nat):Bool:=xM nx i
def qOut(K i:Nat):Bool:=xM K i
def okE(p q:Nat->Bool):List (Nat×Option OObj)->Bool
 | []=>true
 |(_,some o)::r=>okO p q o&&okE p q r
 |(_,none)::r=>okE p q r
theorem zgO{p q:Nat->Bool}{i:Nat}{o:OObj}:∀{E:Owns},okE p q E=true->zq E i=some o->okO p q o=true
 | [],_,h=>by cases h
 |(j,some o')::r,h,hg=>by
  have h:(okO p q o'&&okE p q r)=true:=h;rw[zh]at h;have hg:(bif yG j i then some o' else zq r i)=some o:=hg;cases hj:yG j i with
  |true=>rw[hj]at hg;cases hg;exact h.1
  |false=>rw[hj]at hg;exact zgO h.2 hg
 |(j,none)::r,h,hg=>by
  have hg:(bif yG j i then none else zq r i)=some o:=hg;cases hj:yG j i with
  |true=>rw[hj]at hg;cases hg
  |false=>rw[hj]at hg;exact zgO (E:=r) h hg
def okF(q:Nat->Bool):List (Nat×V)->Bool
 | []=>true
 |(_,v)::r=>okV (λ_=>true) q v&&okF q r
theorem zn2{q:Nat->Bool}{s:Nat}:∀{F:yF},okF q F=true->okV (λ_=>true) q (zr F s)=true
 | [],_=>rfl
 |(j,v)::r,h=>by
  have h:(okV (λ_=>true) q v&&okF q r)=true:=h;rw[zh]at h;show okV _ q (bif yG j s then v else zr r s)=true;cases hj:yG j s with
  |true=>exact h.1
  |false=>exact zn2 h.2
def zim(K nx x0:Nat)(E':List (Nat×Option OObj))(r:V):Bool:=xM nx x0&&(E'.all λp=>pIn K nx p.1)&&((xQ K).all λi=>hasE E' i)&&okE (pIn K nx) (qIn nx) E'&&okV (pIn K nx) (qIn nx) r
def EndS(w:zj)(X:Ownr)(N:V->Owns->Nat->Prop)(en:Ending)(w':zj):Prop:=∃u r E' nx' U',en=.returned u/\N r E' nx'/\Sim w X 0 ⟨[],E',nx'⟩ U' nA0 w'/\RepV w' (OSet X E' U') U' r.t r.x u/\r.bound<=nx'
def zc3(P:zA)(w:zj)(X:Ownr)(f:yR)(m:Nat)(F':yF)(E1:Owns)(nx:Nat)(N:V->Owns->Nat->Prop):Prop:=
 ∀(U:Nat->zi)(caps:Array zi),Sim w X m ⟨F',E1,nx⟩ U { tmps:=caps++zG (m-caps.size) undef,defers:=[] } w->Calls P f caps w (EndS w X N)
section
variable {P:zA}{w:zj}{X:Ownr}{m:Nat}{Y:AS}{U:Nat->zi}{a:Act}{ds:List jF}
theorem EndS.of{w':zj}{Z0:Ownr}{N:V->Owns->Nat->Prop}{r:V}{u:zi}(hZ:Z0={ X with D:=Z0.D })(hD:X.D=[])(hQ:N r Y.E Y.nx)(h':Sim w Z0 m Y U a w')(hu:RepV w' (OSet Z0 Y.E U) U r.t r.x u)(hb:r.bound<=Y.nx):EndS w X N (.returned u) w':=by
 have x3:Kept X.R w w':=by have:=h'.bel;rw[hZ]at this;exact this
 have hO:OSet Z0 Y.E U=OSet X Y.E U:=by rw[hZ];rfl
 have x2:∀i o,zq Y.E i=some o->yZ w' (OSet X Y.E U) U 0 (U i) o:=by rw[<-hO];exact h'.own
 have x0:∀i o g,zq Y.E i=some o->zai (U i)=some g->w.heap.size<=g\/X.R g:=by have:=h'.new;rw[hZ]at this;exact this
 have x1:X.K<=Y.nx/\∀i,i<X.K->zai (U i)=some (X.fix i)/\∀o,zq Y.E i=some o->o.isBuf=false:=by have:=h'.fix;rw[hZ]at this;exact this
 exact⟨u,r,Y.E,Y.nx,U,rfl,hQ,⟨rfl,by rw[hD];rfl,x3,λ_=>trivial,x2,x0,h'.inj,h'.lt,x1,λ_=>zk _,h'.hE⟩,by rw[<-hO];exact hu,hb⟩
theorem zgF{fn:Func}(x0:fn.results= #[]\/∃s,fn.results= #[.tmp s]){w':zj}{O:Nat->Prop}{nx:Nat}(hf:∀s,RepV w' O U (zr Y.F s).t (zr Y.F s).x (a.tmps.getD s undef))(hb:∀s,(zr Y.F s).bound<=nx):
  ∃u,(∀w,(results fn a.tmps).run P w=.ok u w)/\RepV w' O U (rvOf fn.results.toList Y).t (rvOf fn.results.toList Y).x u/\(rvOf fn.results.toList Y).bound<=nx:=by
 rcases x0 with x0|⟨s,x0⟩
 .exact⟨_,λw=>results_none x0 _ _ w,by rw[x0];trivial,by rw[x0];exact zk _⟩
 .refine⟨a.tmps.getD s undef,λw=>?_,by rw[x0];exact hf s,by rw[x0];exact hb s⟩;rw[zeq,x0];simp[resM]
theorem zbP{f:yR}{fn:Func}{c:Code}{F':yF}{E1:Owns}{nx:Nat}{N:V->Owns->Nat->Prop}(hf:P.funcs[f]? =some fn)(x6:fn.body=some c)(hn:fn.ntmps=m)(x2:fn.results= #[]\/∃s,fn.results= #[.tmp s])(hD:X.D=[])(x5:X.ρ=none)(h:AWP P w X m c ⟨F',E1,nx⟩ (λe Y=>(e=.normal\/e=.ret)/\N (rvOf fn.results.toList Y) Y.E Y.nx)):zc3 P w X f m F' E1 nx N:=by
 obtain⟨G0,X0,K0,x0,D0,x8,B0⟩:=X;obtain rfl:=x5;obtain rfl:=hD;intro U caps x3;refine calls_of_wp hf x6 ?_;rw[hn];refine wp_mono (wpIn_wide.1 (h U _ w x3)) λe a' w'⟨Y,x7,h',he,hQ⟩=>?_;obtain⟨u,h1,h2,h3⟩:=zgF (P:=P) x2 h'.fr h'.hb;have x4:=h'.df;have x1:=EndS.of (X:=⟨G0,X0,K0,x0,[],none,B0⟩) (Z0:=⟨G0,X0,K0,x0,[],none,B0⟩) rfl rfl hQ h' h2 h3;rcases he with rfl|rfl
 .exact⟨x4,u,h1 w',x1⟩
 .exact⟨x4,u,h1 w',x1⟩
end
section
variable {w0 w:zj}{X:Ownr}{n m K:Nat}{F F':yF}{E:Owns}{nx:Nat}{U:Nat->zi}{a:Act}
theorem Sim.sub{P:zA}(h:Sim w0 X n ⟨F,E,nx⟩ U a w)(hX:X.Ok w0)(hb:zcX E K=true)(yl:K<=nx)(hK:X.K<=K)(hF:okF (qOut K) F=true)(ys:okE (λ_=>true) (qOut K) E=true){f:yR}
  {caps:Array zi} (yt:caps.size<=m) (yq:∀s,RepV w (OSet X E U) U (zr F' s).t (zr F' s).x ((caps++zG (m-caps.size) undef).getD s undef)) (y9:bndB nx F'=true) {N:V->Owns->Nat->Prop}
  (hw:∀X':Ownr,X'.Ok w->X'.G=X.G->X'.K=K->X'.ρ=none->X'.D=[]->(∀g,X'.R g->w0.heap.size<=g\/X.R g)->(∀i,i<X.K->X'.fix i=X.fix i)->zc3 P w X' f m F' (zdC K E) nx N)
  (hN:∀r E' x6,N r E' x6->zim K nx x6 E' r=true):
  Calls P f caps w λen w'=>∃u r E' x6 xb,en=.returned u/\N r E' x6/\Sim w0 X n ⟨F,E'++E,x6⟩ xb a w'/\RepV w' (OSet X (E'++E) xb) xb r.t r.x u/\r.bound<=x6:=by
 have xn:∀i,i<K->∃o,zq E i=some o/\o.isBuf=false/\zai (U i)=some (zhc U i):=λi hi=>zhj h hb hi;have y2:=h.bel.size
 let Y0:Ownr:={ G:=X.G,X:=λg=>X.X g\/∃i o,zq E i=some o/\K<=i/\zai (U i)=some g,K:=K,fix:=zhc U,D:=[],ρ:=none,B:=λ_=>False }
 have xj:∀g,Y0.R g->∃i o,i<K/\zq E i=some o/\zai (U i)=some g:=λg hg=>by
  rcases hg with ⟨i,hi,hg⟩|hg
  .have hi:i<K:=hi;have hg:zhc U i=g:=hg;obtain⟨o,ho,_,hf⟩:=xn i hi;exact⟨i,o,hi,ho,by rw[hf,hg]⟩
  .exact hg.elim
 have x7:∀g,Y0.R g->w0.heap.size<=g\/X.R g:=λg hg=>by
  obtain⟨i,o,_,h1,h2⟩:=xj g hg;exact h.new i o g h1 h2
 have xc:∀w',Kept Y0.R w w'->Kept X.R w0 w':=λw' hk=>⟨hk.os.trans h.bel.os,hk.tape.trans h.bel.tape,hk.output.trans h.bel.output,zL y2 hk.size,λg xz hn=>by
  have ym:g<w.heap.size:=zF xz y2;rw[hk.block g ym λhy=>by
   rcases x7 g hy with h1|h1
   .omega
   .exact hn h1]
  exact h.bel.block g xz hn⟩
 have yk:∀g,X.X g->g<w.heap.size/\¬Y0.R g:=λg hg=>by
  have h1:=hX.1 g hg;refine⟨by omega,λhy=>?_⟩;rcases x7 g hy with h2|h2
  .omega
  .exact h1.2 h2
 have xy:Y0.Ok w:=by
  refine⟨λg hg=>?_,λg hg=>?_,λw' hk=>hX.2.2 w' (xc w' hk)⟩
  .rcases hg with hg|⟨i,o,ho,hi,hg⟩
   .exact yk g hg
   .refine⟨zgm h ⟨i,o,ho,hg⟩,λhy=>?_⟩;obtain⟨j,oj,hj,xr,x4⟩:=xj g hy;exact h.inj i j o oj ho xr o_ g hg x4
  .obtain⟨i,o,_,h1,h2⟩:=xj g hg;exact zgm h ⟨i,o,h1,h2⟩
 have yb:∀g,OSet Y0 (zdC K E) U g->OSet X E U g:=λg hg=>by
  rcases hg with (hg|⟨i,o,ho,_,hg⟩)|⟨i,o,ho,hg⟩
  .exact .inl hg
  .exact .inr ⟨i,o,ho,hg⟩
  .rw[zgz]at ho;split at ho
   .exact .inr ⟨i,o,ho,hg⟩
   .cases ho
 have xm:Keeps w w (OSet X E U) (OSet Y0 (zdC K E) U):=⟨zu _,λ_ _ _=>rfl,λg _ hg=>yb g hg⟩;have xf:∀i o,zq (zdC K E) i=some o->i<K/\zq E i=some o:=λi o ho=>by
  rw[zgz]at ho;split at ho
  .rename_i hi;exact⟨hi,ho⟩
  .cases ho
 have xt:Sim w Y0 m ⟨F',zdC K E,nx⟩ U { tmps:=caps++zG (m-caps.size) undef,defers:=[] } w:=by
  refine⟨by simp;omega,rfl,jw _ _,λs=>xF xm _ _ _ (yq s),λi o ho=>(h.own i o (xf i o ho).2).keep xm λ_ _=>rfl,λi o g ho hg=>.inr ?_,λi j oi oj hi hj=>h.inj i j oi oj (xf i oi hi).2 (xf j oj hj).2,λi o ho=>h.lt i o (xf i o ho).2,⟨yl,λi hi=>?_⟩,λs=>zda y9 s,λi o ho=>h.hE i o (xf i o ho).2⟩
  .obtain⟨hi,ho⟩:=xf i o ho;obtain⟨_,_,_,hf⟩:=xn i hi;rw[hf]at hg;exact .inl ⟨i,hi,yP hg⟩
  .obtain⟨o,ho,yo,hf⟩:=xn i hi;refine⟨hf,λo' x1=>?_⟩;have:=(xf i o' x1).2;rw[ho]at this;cases this;exact yo
 have xk:∀i,i<X.K->Y0.fix i=X.fix i:=λi hi=>by
  obtain⟨o,ho,_,hf⟩:=xn i o_;have h2:=(h.fix.2 i hi).1;rw[hf]at h2;exact yP h2
 refine(hw Y0 xy rfl rfl rfl rfl x7 xk U caps xt).mono λen w'⟨u,r,E',x6,xb,he,hQ,h',hu,yi⟩=>?_;have xg:=hN _ _ _ hQ;unfold zim at xg;simp only[zh]at xg;obtain⟨⟨⟨⟨xq,x8⟩,xh⟩,xv⟩,xx⟩:=xg;have xq:=zb xq;have x8:∀i,hasE E' i=true->i<K\/nx<=i:=λi hi=>by
  obtain⟨p,hp,yn⟩:=ur.1 hi;have:=yH.1 x8 p hp;obtain rfl:=xL yn;unfold pIn at this;rw[xO]at this;exact this.imp (λh=>by simpa using h) zb
 have xh:∀i,i<K->hasE E' i=true:=λi hi=>yH.1 xh i (qr.2 hi)
 let γ:Nat->zi:=λi=>if i<K\/nx<=i then xb i else U i
 have x0:∀i,(i<K\/nx<=i)->γ i=xb i:=λi hi=>if_pos hi;have x2:∀i,¬(i<K\/nx<=i)->γ i=U i:=λi hi=>if_neg hi;have xu:∀i,i<nx->zai (γ i)=zai (U i):=λi hi=>by
  by_cases hk:i<K
  .rw[x0 i (.inl hk)];obtain⟨o,ho,_,hf⟩:=xn i hk;exact((h'.fix.2 i hk).1).trans hf.symm
  .rw[x2 i o_]
 have xo:∀i,pIn K nx i=true->i<K\/nx<=i:=λi hi=>by
  unfold pIn at hi;rw[xO]at hi;exact hi.imp (λh=>by simpa using h) zb
 have x3:∀i o,zq (E'++E) i=some o->((i<K\/nx<=i)/\zq E' i=some o)\/(K<=i/\i<nx/\zq E i=some o):=λi o ho=>by
  rw[ziO]at ho;by_cases hh:hasE E' i=true
  .rw[if_pos hh]at ho;exact .inl ⟨x8 i hh,ho⟩
  .rw[if_neg hh]at ho;have h1:=h.lt i o ho;refine .inr ⟨?_,h1,ho⟩;by_cases hk:i<K
   .exact absurd (xh i hk) hh
   .omega
 have xl:∀i o,zq E' i=some o->(i<K\/nx<=i)/\zq (E'++E) i=some o:=λi o ho=>by
  have hh:hasE E' i=true:=by
   cases hh:hasE E' i with
   |true=>rfl
   |false=>rw[zmi hh]at ho;cases ho
  exact⟨x8 i hh,by rw[ziO,if_pos hh];exact ho⟩
 have y4:∀i o,K<=i->i<nx->zq E i=some o->zq (E'++E) i=some o:=λi o h1 h2 ho=>by
  rw[ziO];have hh:¬hasE E' i=true:=λhh=>by
   rcases x8 i hh with h3|h3<;>omega
  rw[if_neg hh];exact ho
 have yc:=h'.bel.size;have yp:∀g,OSet X (E'++E) γ g->OSet Y0 E' xb g:=λg hg=>by
  rcases hg with hg|⟨i,o,ho,hg⟩
  .exact .inl (.inl hg)
  .rcases x3 i o ho with ⟨hi,x1⟩|⟨hi,y0,x1⟩
   .rw[x0 i hi]at hg;exact .inr ⟨i,o,x1,hg⟩
   .rw[x2 i o_]at hg;exact .inl (.inr ⟨i,o,x1,hi,hg⟩)
 have x9:∀i o g,zq E' i=some o->zai (xb i)=some g->w.heap.size<=g\/∃j oj,j<K/\zq E j=some oj/\zai (U j)=some g:=λi o g ho hg=>by
  rcases h'.new i o g ho hg with h1|h1
  .exact .inl h1
  .exact .inr (xj g h1)
 have xd:Keeps w w' (OSet X E U) (OSet X (E'++E) γ):=by
  refine⟨yc,λg hg hn=>h'.bel.block g hg λhr=>?_,λg hg yj=>?_⟩
  .obtain⟨i,o,_,h1,h2⟩:=xj g hr;exact hn (.inr ⟨i,o,h1,h2⟩)
  .rcases yj with h1|⟨i,o,ho,hgi⟩
   .exact .inl h1
   .rcases x3 i o ho with ⟨hi,x1⟩|⟨hi,y0,x1⟩
    .rw[x0 i hi]at hgi;rcases x9 i o g x1 hgi with h2|⟨j,oj,_,hj,x4⟩
     .omega
     .exact .inr ⟨j,oj,hj,x4⟩
    .rw[x2 i o_]at hgi;exact .inr ⟨i,o,x1,hgi⟩
 have xe:Keeps w' w' (OSet Y0 E' xb) (OSet X (E'++E) γ):=⟨zu _,λ_ _ _=>rfl,λg _ hg=>yp g hg⟩;have x5:∀(v:V)(u:zi),v.bound<=nx->okV (λ_=>true) (qOut K) v=true->RepV w (OSet X E U) U v.t v.x u->RepV w' (OSet X (E'++E) γ) γ v.t v.x u:=λv u yg yd hr=>by
  have h1:=xF xd _ _ _ hr;have yr:∀(t:Ty)(x:t.T),bnd t x<=nx->okT (λ_=>true) (qOut K) t x=true->okT (λi=>zO i nx) (λi=>zO i nx&&qOut K i) t x=true:=by
   intro t
   induction t with
   |optr t _=>intro x hb _;have hb:x.i+1<=nx:=hb;show zO x.i nx=true;exact uJ hb
   |obuf t _=>intro x hb hq;have hb:x+1<=nx:=hb;show(zO x nx&&qOut K x)=true;rw[zh];exact⟨uJ hb,hq⟩
   |cond t ih=>intro x hb hq;exact ih _ hb hq
   |hptr=>intro x hb _;have hb:x.1+1<=nx:=hb;show zO x.1 nx=true;exact uJ hb
   |hcons a b iha ihb=>
    intro x hb hq;have hb:max (bnd a x.1) (bnd b x.2)<=nx:=hb;have hq:(okT _ _ a x.1&&okT _ _ b x.2)=true:=hq;rw[zh]at hq;show(okT _ _ a x.1&&okT _ _ b x.2)=true;rw[zh];exact⟨iha _ o_ hq.1,ihb _ o_ hq.2⟩
   |_=>intros;rfl
  refine RepV.conv (λi hi=>xu i (by simpa using hi)) (λi hi=>?_) _ _ _ (yr v.t v.x yg yd) h1;rw[zh]at hi;have h2:i<nx:=by simpa using hi.1
  have h3:K<=i:=zb hi.2;exact x2 i o_
 have yf:∀(vs:List V)(cs:List zi),RepH w (OSet X E U) U vs cs->(∀v∈vs,v.bound<=nx)->vs.all (okV (λ_=>true) (qOut K))=true->RepH w' (OSet X (E'++E) γ) γ vs cs:=by
  intro vs
  induction vs with
  |nil=>intro cs h _ _;exact h
  |cons v r ih=>
   rintro cs ⟨u,s,h5,h6,h7,h8⟩ hu xp;rw[vl,zh]at xp;exact⟨u,s,h5,h6,x5 v u (hu v (by simp)) xp.1 h7,ih s h8 (λy hy=>hu y (by simp[hy])) xp.2⟩
 have xi:∀i o,K<=i->i<nx->zq E i=some o->yZ w' (OSet X (E'++E) γ) γ 0 (γ i) o:=λi o hi y0 ho=>by
  rw[x2 i o_];have y5:∀g,zai (U i)=some g->¬Y0.R g:=λg hg hr=>by
   obtain⟨j,oj,hj,xr,x4⟩:=xj g hr;exact h.inj i j o oj ho xr o_ g hg x4
  have h1:=(h.own i o ho).keep xd λg hg=>h'.bel.block g ((h.own i o ho).block_lt hg).2 (y5 g hg);cases o with
  |hbox ty vs=>
   obtain⟨g,cs,e1,e2,e3,e4⟩:=h1;obtain⟨g',y6,y3,yu,y7,y8⟩:=h.own i _ ho;have hu:=h.hE i _ ho vs rfl;have xp:=zgO ys ho;refine⟨g,cs,e1,e2,e3,?_⟩;have yh:g'=g:=by rw[e1]at y3;cases y3;rfl
   subst yh;have ye:y6=cs:=by
    have:=h'.bel.block g' (zv.1 y7).1 (y5 g' (by rw[e1];rfl));rw[e3,y7]at this
    simpa using this.symm
   subst ye;exact yf vs y6 y8 hu xp
  |box t x=>exact h1
  |buf te t xs=>exact h1
  |mp m I=>exact h1
 have xa:∀i o,zq E' i=some o->yZ w' (OSet X (E'++E) γ) γ 0 (γ i) o:=λi o ho=>by
  rw[x0 i (xl i o ho).1];refine OwnRep.convO (p:=pIn K nx) (q:=qIn nx) (λj hj=>by rw[x0 j (xo j hj)]) (λj hj=>x0 j (.inr (zb hj))) (zgO xv ho) ?_;exact(h'.own i o ho).keep xe λ_ _=>rfl
 have xw:Sim w0 X n ⟨F,E'++E,x6⟩ γ a w':=by
  refine⟨h.sz,h.df,xc w' h'.bel,λs=>x5 _ _ (h.hb s) (zn2 hF) (h.fr s),λi o ho=>?_,λi o g ho hg=>?_,λi j oi oj hi hj y1 g hg=>?_,λi o ho=>?_,⟨by show X.K<=x6;omega,λi hi=>?_⟩,λs=>zL (h.hb s) xq,λi o ho=>?_⟩
  .rcases x3 i o ho with ⟨_,x1⟩|⟨h1,h2,x1⟩
   .exact xa i o x1
   .exact xi i o h1 h2 x1
  .rcases x3 i o ho with ⟨hi,x1⟩|⟨h1,h2,x1⟩
   .rw[x0 i hi]at hg;rcases x9 i o g x1 hg with h3|⟨j,oj,_,hj,x4⟩
    .exact .inl o_
    .exact h.new j oj g hj x4
   .rw[x2 i o_]at hg;exact h.new i o g x1 hg
  .rcases x3 i oi hi with ⟨h1,hi'⟩|⟨h1,h2,hi'⟩<;>rcases x3 j oj hj with ⟨h3,hj'⟩|⟨h3,h4,hj'⟩
   .rw[x0 i h1]at hg;rw[x0 j h3];exact h'.inj i j oi oj hi' hj' y1 g hg
   .rw[x0 i h1]at hg;rw[x2 j o_];intro x4;rcases x9 i oi g hi' hg with h5|⟨k,ok,hk,xg,hgk⟩
    .have:=zgm h ⟨j,oj,hj',x4⟩;omega
    .exact h.inj k j ok oj xg hj' o_ g hgk x4
   .rw[x2 i o_]at hg;rw[x0 j h3];intro x4;rcases x9 j oj g hj' x4 with h5|⟨k,ok,hk,xg,hgk⟩
    .have:=zgm h ⟨i,oi,hi',hg⟩;omega
    .exact h.inj i k oi ok hi' xg o_ g hg hgk
   .rw[x2 i o_]at hg;rw[x2 j o_];exact h.inj i j oi oj hi' hj' y1 g hg
  .rcases x3 i o ho with ⟨_,x1⟩|⟨_,h2,_⟩
   .exact h'.lt i o x1
   .show i<x6;omega
  .
   have h1:=h'.fix.2 i (show i<K by omega);rw[x0 i (.inl o_)];refine⟨h1.1.trans (congrArg some (xk i hi)),λo ho=>?_⟩;rcases x3 i o ho with ⟨_,x1⟩|⟨h2,_,_⟩
   .exact h1.2 o x1
   .omega
  .rcases x3 i o ho with ⟨_,x1⟩|⟨_,_,x1⟩
   .exact h'.hE i o x1
   .intro vs hv v ya;exact zL (h.hE i o x1 vs hv v ya) xq
 have h4:=RepV.conv (p:=pIn K nx) (q:=qIn nx) (λj hj=>by rw[x0 j (xo j hj)]) (λj hj=>x0 j (.inr (zb hj))) _ _ _ xx (xF xe _ _ _ hu);exact⟨u,r,E',x6,γ,he,hQ,xw,h4,yi⟩
end
def zdn:V->Option Nat
 |⟨.hptr,(i,0)⟩=>some i
 |⟨.optr _,⟨i,_,.here⟩⟩=>some i
 |_=>none
theorem zjz{w:zj}{O:Nat->Prop}{U:Nat->zi}{v:V}{i g:Nat}(h:zdn v=some i)(hg:zai (U i)=some g):RepV w O U v.t v.x (.pointer (some ⟨g,0,none⟩)):=by
 unfold zdn at h;split at h
 .cases h;exact⟨g,hg,rfl⟩
 .cases h;exact⟨g,hg,rfl⟩
 .cases h
theorem zmX{w:zj}{O:Nat->Prop}{U:Nat->zi}{v:V}{u:zi}{i g:Nat}(h:zdn v=some i)(hg:zai (U i)=some g)(hr:RepV w O U v.t v.x u):u=.pointer (some ⟨g,0,none⟩):=by
 unfold zdn at h;split at h
 .cases h;obtain⟨g',h1,h2⟩:=hr;rw[hg]at h1;cases h1;exact h2
 .cases h;obtain⟨g',h1,h2⟩:=hr;rw[hg]at h1;cases h1;exact h2
 .cases h
def fixP(X:Ownr)(l:List Nat):Array zi:=(l.map λi=>zz (some ⟨X.fix i,0,none⟩)).toArray
section
variable {P:zA}{w0:zj}{X:Ownr}{n m:Nat}{Q:Exit->AS->Prop}{ops:Array Oper}{F:yF}{E:Owns}{nx:Nat}
theorem AL.subG(K:Nat)(hX:X.Ok w0){o:Oper}{x1:List Oper}{f:yR}(x5:o.guard=none)(xf:∀c,o.op≠ .defer c){d:Nat}(hd:o.dst=some d)(x6:zO d n=true){vs:List V}
  (x3:∀U a w,Sim w0 X n ⟨F,E,nx⟩ U a w->∃us:List zi,(execOp a.eval o).run P w=.ok (.enter f us.toArray) w/\RepVs w (OSet X E U) U vs us)
  {N:V->Owns->Nat->Prop}{E1:Owns}
  (hw:∀(w1:zj)(X':Ownr),X'.Ok w1->X'.G=X.G->X'.K=K->X'.ρ=none->X'.D=[]->(∀g,X'.R g->w0.heap.size<=g\/X.R g)->(∀i,i<X.K->X'.fix i=X.fix i)->w0.heap.size<=w1.heap.size->zc3 P w1 X' f m (frV 0 vs) E1 nx N)
  (xg:∀r E' x0,N r E' x0->zim K nx x0 E' r=true) (h:∀r E' x0,N r E' x0->AL P w0 X n ops x1 ⟨(d,r)::F,E'++E,x0⟩ Q)
  (xh:zdC K E=E1:=by rfl) (hb:zcX E K=true:=by rfl) (x9:xM K nx=true:=by rfl) (hK:xM X.K K=true:=by rfl) (hF:okF (qOut K) F=true:=by rfl) (xd:okE (λ_=>true) (qOut K) E=true:=by rfl) (x2:xM vs.length m=true:=by rfl) (x7:bndB nx (frV 0 vs)=true:=by rfl):AL P w0 X n ops (o::x1) ⟨F,E,nx⟩ Q:=by
 subst xh;have x4:d<n:=by simpa using x6
 refine jg x5 xf λU a w hs=>?_;obtain⟨us,hr,hv⟩:=x3 U a w hs;have x2:us.length<=m:=by rw[hv.1];exact zb x2
 have xc:∀s,RepV w (OSet X E U) U (zr (frV 0 vs) s).t (zr (frV 0 vs) s).x ((us.toArray++zG (m-us.toArray.size) undef).getD s undef):=λs=>by
  have:=zkY vs us [] (zg (m-us.length) undef) hv s;have e:us.toArray++zG (m-us.toArray.size) undef=([]++us++zg (m-us.length) undef).toArray:=by simp
  rw[e];exact this
 have x8:=Sim.sub (K:=K) (m:=m) hs hX hb (zb x9) (zb hK) hF xd (caps:=us.toArray) (by simpa using x2) xc x7 (N:=N) (λX' h1 h2 h3 h4 h5 h6 h7=>hw w X' h1 h2 h3 h4 h5 h6 h7 hs.bel.size) xg;unfold Oper.wp;rw[hr];show Calls P f us.toArray w _;refine x8.mono λe w'⟨u,r,E',x0,xa,he,hN,xe,hu,xb⟩=>?_;subst he;rw[hd];exact⟨_,xa,xe.put (zY _ _) hu xb x4,h _ _ _ hN⟩
theorem AL.subF(K:Nat)(hX:X.Ok w0){o:Oper}{x0:List Oper}{f:yR}{args:Array zK}{ts:Array zy}(ho:o.op=.call ⟨.value (.func f),args,ts⟩)(x1:o.guard=none)(x9:∀(zas:Array zi)(w:zj),(callFunc f zas).run P w=.ok (.enter f zas) w){d:Nat}(hd:o.dst=some d)(x2:zO d n=true){vs:List V}(x6:args.toList.map (evO F)=vs)
  {N:V->Owns->Nat->Prop}{E1:Owns}
  (hw:∀(w1:zj)(X':Ownr),X'.Ok w1->X'.G=X.G->X'.K=K->X'.ρ=none->X'.D=[]->(∀g,X'.R g->w0.heap.size<=g\/X.R g)->(∀i,i<X.K->X'.fix i=X.fix i)->w0.heap.size<=w1.heap.size->zc3 P w1 X' f m (frV 0 vs) E1 nx N)
  (x8:∀r E' nx',N r E' nx'->zim K nx nx' E' r=true) (h:∀r E' nx',N r E' nx'->AL P w0 X n ops x0 ⟨(d,r)::F,E'++E,nx'⟩ Q)
  (xa:zdC K E=E1:=by rfl) (hb:zcX E K=true:=by rfl) (x5:xM K nx=true:=by rfl) (hK:xM X.K K=true:=by rfl) (hF:okF (qOut K) F=true:=by rfl) (x7:okE (λ_=>true) (qOut K) E=true:=by rfl) (x4:xM vs.length m=true:=by rfl) (x3:bndB nx (frV 0 vs)=true:=by rfl):AL P w0 X n ops (o::x0) ⟨F,E,nx⟩ Q:=
 AL.subG K hX x1 (λc e=>by rw[ho]at e;cases e) hd x2 (λU a w hs=>⟨args.toList.map a.eval,by
  unfold execOp;have em:(args.toList.map a.eval).toArray=args.map a.eval:=by rw[<-zbS]
  simp[ho,resolve,invoke,jv,Act.eval,x9,em],x6▸ze2 hs _⟩) hw x8 h xa hb x5 hK hF x7 x4 x3
theorem AL.subV(K:Nat)(hX:X.Ok w0){o:Oper}{x0:List Oper}{f:yR}{x:zK}{args:Array zK}{ts:Array zy}{rc cp:List Nat}(ho:o.op=.call ⟨.value x,args,ts⟩)(x2:o.guard=none)(xe:∀(zas:Array zi)(w:zj),(callFunc f zas).run P w=.ok (.enter f zas) w){d:Nat}(hd:o.dst=some d)(x5:zO d n=true)
  (hx:evO F x=⟨.lit,.func (.func f) (fixP X rc) (fixP X cp)⟩) (x3:(rc++cp).all (λi=>zO i X.K)=true) (vr vc:List V) (xa:vr.map zdn=rc.map some) (x4:vc.map zdn=cp.map some) {vs:List V} (x9:vr++args.toList.map (evO F)++vc=vs)
  {N:V->Owns->Nat->Prop}{E1:Owns}
  (hw:∀(w1:zj)(X':Ownr),X'.Ok w1->X'.G=X.G->X'.K=K->X'.ρ=none->X'.D=[]->(∀g,X'.R g->w0.heap.size<=g\/X.R g)->(∀i,i<X.K->X'.fix i=X.fix i)->w0.heap.size<=w1.heap.size->zc3 P w1 X' f m (frV 0 vs) E1 nx N)
  (xd:∀r E' nx',N r E' nx'->zim K nx nx' E' r=true) (h:∀r E' nx',N r E' nx'->AL P w0 X n ops x0 ⟨(d,r)::F,E'++E,nx'⟩ Q)
  (xf:zdC K E=E1:=by rfl) (hb:zcX E K=true:=by rfl) (x8:xM K nx=true:=by rfl) (hK:xM X.K K=true:=by rfl) (hF:okF (qOut K) F=true:=by rfl) (xc:okE (λ_=>true) (qOut K) E=true:=by rfl) (x7:xM vs.length m=true:=by rfl) (x6:bndB nx (frV 0 vs)=true:=by rfl):AL P w0 X n ops (o::x0) ⟨F,E,nx⟩ Q:=by
 have hp:∀(l:List Nat)(v:List V),v.map zdn=l.map some->(∀i∈l,i<X.K)->∀U a w,Sim w0 X n ⟨F,E,nx⟩ U a w->RepVs w (OSet X E U) U v (l.map λi=>zz (some ⟨X.fix i,0,none⟩)):=λl v hv hl U a w hs=>by
  refine⟨by have:=congrArg zp hv;simpa using this.symm,λi y hy=>?_⟩;have h1:(v.map zdn)[i]? =some (zdn y):=by rw[yB,hy];rfl
  rw[hv,yB,yC]at h1;obtain⟨j,hj,xb⟩:=h1;exact⟨_,by rw[yB,hj];rfl,zjz xb.symm (hs.fix.2 j (hl j (ja hj))).1⟩
 have x1:∀i∈rc++cp,i<X.K:=λi hi=>by simpa using yH.1 x3 i hi
 refine AL.subG K hX x2 (λc e=>by rw[ho]at e;cases e) hd x5 (λU a w hs=>⟨_,?_,x9▸((hp rc vr xa (λi hi=>x1 i (by simp[hi])) U a w hs).append (ze2 hs args.toList)).append (hp cp vc x4 (λi hi=>x1 i (by simp[hi])) U a w hs)⟩) hw xd h xf hb x8 hK hF xc x7 x6;have h1:=zaR hs hx;unfold execOp;have em:(args.toList.map a.eval).toArray=args.map a.eval:=by rw[<-zbS]
 simp[ho,resolve,invoke,jv,h1,xe, <-em,fixP]
theorem zpG{o:Oper}{x0:List Oper}{f:yR}{rs cs:Array zK}{rc cp:List Nat}(ho:o.op=.makeFunc (.func f) rs cs)(x3:o.guard=none){d:Nat}(hd:o.dst=some d)(x5:zO d n=true)
  (x4:rs.toList.map (λx=>zdn (evO F x))=rc.map some) (x6:cs.toList.map (λx=>zdn (evO F x))=cp.map some) (x1:(rc++cp).all (λi=>zO i X.K)=true)
  (h:AL P w0 X n ops x0 ⟨(d,⟨.lit,.func (.func f) (fixP X rc) (fixP X cp)⟩)::F,E,nx⟩ Q):AL P w0 X n ops (o::x0) ⟨F,E,nx⟩ Q:=by
 refine zdT x3 (λc e=>by rw[ho]at e;cases e) hd x5 _ (λU a w hs=>?_) h;have x2:∀(zas:Array zK)(l:List Nat),zas.toList.map (λx=>zdn (evO F x))=l.map some->(∀i∈l,i<X.K)->zas.map a.eval=fixP X l:=λzas l he hl=>by
  have:(zas.map a.eval).toList=l.map λi=>zz (some ⟨X.fix i,0,none⟩):=by
   rw[Array.toList_map];apply List.ext_getElem?;intro i;rw[yB,yB];have h1:(zas.toList.map (λx=>zdn (evO F x)))[i]? =(l.map some)[i]? :=by rw[he]
   rw[yB,yB]at h1;cases hx:zas.toList[i]? with
   |none=>
    rw[hx]at h1;cases hy:l[i]? with
    |none=>rfl
    |some y=>rw[hy]at h1;cases h1
   |some x=>
    rw[hx]at h1;cases hy:l[i]? with
    |none=>rw[hy]at h1;cases h1
    |some y=>
     rw[hy]at h1;have h2:=yP h1;have h3:=hs.ops x;exact congrArg some (zmX h2 (hs.fix.2 y (hl y (ja hy))).1 h3)
  exact Array.toList_inj.1 this
 have hA:∀i∈rc++cp,i<X.K:=λi hi=>by simpa using yH.1 x1 i hi
 unfold execOp;simp only[ho];rw[x2 rs rc x4 (λi hi=>hA i (by simp[hi])),x2 cs cp x6 (λi hi=>hA i (by simp[hi]))];exact za7 rfl
end
structure OneTy(P:zA)(t:zy)(z:zi):Prop where
 size:∀w,(sizeOf t).run P w=.ok 1 w
 agg:∀w,(Go.isAgg t).run P w=.ok false w
 alloc:∀(w:zj)(ev:zK->zi)(o:Oper),o.op=.alloc t->(execOp ev o).run P w=.ok (.value (.pointer (some ⟨w.heap.size,0,none⟩))) (w.alloc (.cells #[z] t (0,0)))
 one:z.oneCell'=true
section
variable {P:zA}{w0:zj}{X:Ownr}{n:Nat}{Q:Exit->AS->Prop}{ops:Array Oper}{F:List (Nat×V)}{E:Owns}{nx:Nat}
theorem zpD{t:zy}{z:zi}(ht:OneTy P t z)(hX:X.Ok w0){o:Oper}{x0:List Oper}(ho:o.op=.alloc t)(x3:o.guard=none){d:Nat}(hd:o.dst=some d)(x4:zO d n=true)(h:AL P w0 X n ops x0 ⟨(d,⟨.hptr,(nx,(0:Nat))⟩)::F,(nx,some (.hbox t [⟨.lit,z⟩]))::E,nx+1⟩ Q):AL P w0 X n ops (o::x0) ⟨F,E,nx⟩ Q:=by
 refine jg x3 (λc e=>by rw[ho]at e;cases e) λU a w hs=>?_;have x2:d<n:=by simpa using x4
 refine zba (u:=.pointer (some ⟨w.heap.size,0,none⟩)) (w':=w.alloc (.cells #[z] t (0,0))) ?_ ?_
 .exact ht.alloc w a.eval o ho
 .rw[hd];obtain⟨x1,h1⟩:=hs.make hX ((zY _ w).alloc (zu _) (.cells #[z] t (0,0))) (bv:=.pointer (some ⟨w.heap.size,0,none⟩)) (o:=.hbox t [⟨.lit,z⟩])
   (λO x1 _=>⟨w.heap.size,[z],rfl,zk _,xK w _,⟨z,[],rfl,ht.one,rfl,rfl⟩⟩) (λg hg=>by cases hg;exact zu _) (v:=⟨.hptr,(nx,(0:Nat))⟩) (u:=.pointer (some ⟨w.heap.size,0,none⟩))
   (λO x1 hb=>⟨w.heap.size,by show zai (x1 nx)=_;rw[show x1 nx=_ from hb];rfl,rfl⟩) (zu _) x2 (λvs e v hv=>by cases e;rw[zQ.1 hv];exact zk _)
  exact⟨_,x1,h1,h⟩
theorem AL.setO{t:zy}{z:zi}(ht:OneTy P t z){o:Oper}{x1:List Oper}{p x:zK}(ho:o.op=.store t p x)(x5:o.guard=none)(hd:o.dst=none){i:Nat}(hp:evO F p=⟨.hptr,(i,(0:Nat))⟩){v0:V}{ty:zy}(hE:zq E i=some (.hbox ty [v0])){u:zi}(hx:evO F x=⟨.lit,u⟩)(hu:u.oneCell'=true)(x3:u.cells.toList=[u])
  (h:AL P w0 X n ops x1 ⟨F,(i,some (.hbox ty [⟨.lit,u⟩]))::E,nx⟩ Q):AL P w0 X n ops (o::x1) ⟨F,E,nx⟩ Q:=by
 refine jg x5 (λc e=>by rw[ho]at e;cases e) λU a w hs=>?_;have h1:=hs.ops p;rw[show evO (AS.mk F E nx).F p=_ from hp]at h1;obtain⟨g,x4,x6⟩:=h1;obtain⟨g',cs,e1,_,e3,u0,s0,e4,xa,_,e5⟩:=hs.own _ _ hE;subst e5;subst e4;have x9:g'=g:=by
  rw[e1]at x4
  simpa [zai] using x4
 subst x9;have h2:=zaR hs hx;have x2:∀y∈ [u],y.oneCell'=true:=λy hy=>by rw[zQ.1 hy];exact hu
 have x0:(Instr.storeAt t (.pointer (some ⟨g',0,none⟩)) u).run P w=.ok () (w.setRow g' (over [u0] 0 [u]).toArray):=by
  have x0:=run_storeCells_at P g' 0 ty [u] 0 (List.toArray [u0]) w e3 (by simp) x2;simp only[Nat.add_zero]at x0;unfold Instr.storeAt qa storeVar;simp only[zJ,zI,zD,ht.size];have x7:u.cells.size=1:=by rw[<-Array.length_toList,x3];rfl
  rw[if_neg (by rw[x7];simp)];have x8:u.cells=[u].toArray:=by rw[<-x3]
  rw[x8];exact x0
 unfold Oper.wp;have e:(execOp a.eval o).run P w=.ok .skip (w.setRow g' (over [u0] 0 [u]).toArray):=by
  unfold execOp;simp only[ho];rw[x6,h2];simp[x0]
 rw[e];show ∃Y' U',Sim w0 X n Y' U' (a.put o.dst undef) _/\_;rw[hd];refine⟨_,U,hs.write (o':=.hbox ty [⟨.lit,u⟩]) hE (by rw[e1];exact zbJ w g' _) (λhk=>?_) rfl ?_,h⟩
 .refine⟨g',over [u0] 0 [u],e1,zk _,setRow_heap w g' [u0].toArray _ ty _ e3,?_⟩;exact⟨u,[],rfl,hu,rfl,rfl⟩
 .intro ws e v hv;cases e;rw[zQ.1 hv];exact zk _
theorem AL.getO{t:zy}{z:zi}(ht:OneTy P t z){o:Oper}{x0:List Oper}{p:zK}(ho:o.op=.load t p)(x4:o.guard=none){d:Nat}(hd:o.dst=some d)(x5:zO d n=true){i:Nat}(hp:evO F p=⟨.hptr,(i,(0:Nat))⟩){v0:V}{ty:zy}(hE:zq E i=some (.hbox ty [v0]))(h:AL P w0 X n ops x0 ⟨(d,v0)::F,E,nx⟩ Q):AL P w0 X n ops (o::x0) ⟨F,E,nx⟩ Q:=by
 refine jg x4 (λc e=>by rw[ho]at e;cases e) λU a w hs=>?_;have x3:d<n:=by simpa using x5
 have h1:=hs.ops p;rw[show evO (AS.mk F E nx).F p=_ from hp]at h1;obtain⟨g,x2,x7⟩:=h1;obtain⟨g',cs,e1,_,e3,u0,s0,e4,x9,x6,e5⟩:=hs.own _ _ hE;have e5:s0=[]:=e5;subst e5;subst e4;have x8:g'=g:=by
  have x2:zai (U i)=some g:=x2;rw[e1]at x2
  simpa [zai] using x2
 subst x8;have x1:w.cell? ⟨g',0,none⟩=some u0:=by simp[qd,e3]
 refine zba (u:=u0) (w':=w) ?_ ?_
 .unfold execOp;simp only[ho];refine za7 ?_;rw[x7];simp only[Instr.loadAt,qa,zJ,zI,zD];unfold Go.loadVar;simp only[zJ,ht.agg,zD];simp[load,Sem.run,x1]
 .rw[hd];exact⟨_,U,hs.put (zY _ _) x6 (hs.hE i _ hE [v0] rfl v0 (zQ.2 rfl)) x3,h⟩
end
theorem zjw{w:zj}{O:Nat->Prop}{U:Nat->zi}:∀{cs:List zi},(∀c∈cs,c.oneCell'=true)->RepH w O U (cs.map λc=>⟨.lit,c⟩) cs
 | [],_=>rfl
 |c::r,h=>⟨c,r,rfl,h c (by simp),rfl,zjw λx hx=>h x (by simp[hx])⟩
section
variable {P:zA}{w0:zj}{X:Ownr}{n:Nat}{Q:Exit->AS->Prop}{ops:Array Oper}{F:List (Nat×V)}{E:Owns}{nx:Nat}
theorem ztS(hX:X.Ok w0){o:Oper}{x1:List Oper}{t:zy}{x:zK}(ho:o.op=.box t x)(x4:o.guard=none){d:Nat}(hd:o.dst=some d)(x5:zO d n=true){cs:List zi}(hx:evO F x=⟨.lit,.agg cs.toArray⟩)(x0:cs.all Value.oneCell'=true)
  (h:AL P w0 X n ops x1 ⟨(d,⟨.hptr,(nx,(0:Nat))⟩)::F,(nx,some (.hbox t (cs.map λc=>⟨.lit,c⟩)))::E,nx+1⟩ Q):AL P w0 X n ops (o::x1) ⟨F,E,nx⟩ Q:=by
 refine jg x4 (λc e=>by rw[ho]at e;cases e) λU a w hs=>?_;have x3:d<n:=by simpa using x5
 have x0:∀c∈cs,c.oneCell'=true:=yH.1 x0;refine zba (u:=.pointer (some ⟨w.heap.size,0,none⟩)) (w':=w.alloc (.cells cs.toArray t (0,0))) ?_ ?_
 .unfold execOp;simp only[ho];refine za7 ?_;rw[zaR hs hx];simp[Instr.box,newVar,newRow,Value.cells,go_sem]
 .rw[hd];obtain⟨x2,h4⟩:=hs.make hX ((zY _ w).alloc (zu _) (.cells cs.toArray t (0,0))) (bv:=.pointer (some ⟨w.heap.size,0,none⟩)) (o:=.hbox t (cs.map λc=>⟨.lit,c⟩))
   (λO x2 hO=>⟨w.heap.size,cs,rfl,zk _,xK w _,zjw x0⟩) (λg hg=>by cases hg;exact zu _) (v:=⟨.hptr,(nx,(0:Nat))⟩) (u:=.pointer (some ⟨w.heap.size,0,none⟩))
   (λO x2 hb=>⟨w.heap.size,by show zai (x2 nx)=_;rw[show x2 nx=_ from hb];rfl,rfl⟩) (zu _) x3 (λvs e v hv=>by
     cases e;obtain⟨c,_,rfl⟩:=jo.1 hv;exact zk _)
  exact⟨_,x2,h4,h⟩
end
theorem zrf{P:zA}{w0:zj}{X:Ownr}{n:Nat}{Y:AS}{Q:Exit->AS->Prop}{c:Code}(s:Nat)(t:Ty)(hs:zr Y.F s=⟨.lit,.slice none 0 0⟩)(h:AWP P w0 X n c { Y with F:=(s,⟨.slice t,[]⟩)::Y.F } Q):AWP P w0 X n c Y Q:=λU a w h1=>h U a w ⟨h1.sz,h1.df,h1.bel,λs'=>by
 have h2:=h1.fr s';rw[zal];by_cases e:s=s'
 .subst e;rw[if_pos rfl];rw[hs]at h2;rw[h2];exact RepV.ofSlice (.inl ⟨rfl,none,0,rfl,zk _⟩)
 .rw[if_neg e];exact h2,h1.own,h1.new,h1.inj,h1.lt,h1.fix,λs'=>by
 rw[zal];by_cases e:s=s'
 .rw[if_pos e];exact zk _
 .rw[if_neg e];exact h1.hb s',h1.hE⟩
theorem Marks.keepB{B:Nat}{w w':zj}(hk:∀g:Nat,B<=g->w.heap[g]? =some (Obj.deferred (some []))->w'.heap[g]? =some (Obj.deferred (some []))):∀{ds:List jF},Marks B w ds->Marks B w' ds
 | [],_=>trivial
 |_::_,⟨⟨g,h1,h2,h3,h4⟩,h⟩=>⟨⟨g,h1,h2,hk g h2 h3,h4⟩,Marks.keepB hk h⟩
def Ownr.wD(X:Ownr)(ds:List jF):Ownr:={ X with D:=ds }
section
variable {P:zA}{w0 w w':zj}{X:Ownr}{n:Nat}{Y:AS}{U:Nat->zi}{a:Act}{ds:List jF}{Q:Exit->AS->Prop}
theorem zqw(h:Sim w0 (X.wD ds) n Y U a w){R:Nat->Prop}(hR:∀g,R g->w0.heap.size<=g\/X.R g)(hk:Kept R w w'):Kept X.R w0 w':=
 ⟨hk.os.trans h.bel.os,hk.tape.trans h.bel.tape,hk.output.trans h.bel.output,zL h.bel.size hk.size,λk x0 hn=>
   (hk.block k (zF x0 h.bel.size) λhr=>(hR k hr).elim (λh=>by omega) λh=>hn h).trans (h.bel.block k x0 hn)⟩
def AWPM(P:zA)(w0:zj)(X:Ownr)(n:Nat)(c:Code)(Y:AS)(Q:Exit->AS->Prop):Prop:=
 ∀ds U a w,Sim w0 (X.wD ds) n Y U a w->Marks w0.heap.size w ds->c.wpIn yU 0 P (λe a' w'=>∃Y' U' ds',Sim w0 (X.wD ds') n Y' U' a' w'/\Marks w0.heap.size w' ds'/\Q e Y') a w
theorem AWPM.of{c:Code}(hX:X.Ok w0)(h:∀W ds Bf,(⟨X.G,X.X,X.K,X.fix,ds,none,Bf⟩:Ownr).Ok W->AWP P W ⟨X.G,X.X,X.K,X.fix,ds,none,Bf⟩ n c Y Q):AWPM P w0 X n c Y Q:=by
 intro ds U a w hs hm;have x0:∀g,ownB Y.E U g->(w0.heap.size<=g\/X.R g)/\g<w.heap.size:=λg⟨i,o,h1,h2⟩=>⟨hs.new i o g h1 h2,((hs.own i o h1).block_lt h2).2⟩
 let Y0:Ownr:=⟨X.G,X.X,X.K,X.fix,ds,none,ownB Y.E U⟩
 have x1:∀g,Y0.R g->w0.heap.size<=g\/X.R g:=λg hg=>by
  rcases hg with ⟨i,hi,hg⟩|hg
  .exact .inr (.inl ⟨i,hi,hg⟩)
  .exact(x0 g hg).1
 have x2:Y0.Ok w:=by
  refine⟨λg hg=>⟨zF (hX.1 g hg).1 hs.bel.size,λhy=>?_⟩,λg hg=>?_,λw' hk=>hX.2.2 w' (zqw hs x1 hk)⟩
  .rcases x1 g hy with h1|h1
   .have:=(hX.1 g hg).1;omega
   .exact(hX.1 g hg).2 h1
  .rcases hg with ⟨i,hi,hg⟩|hg
   .have h1:=hX.2.1 g (.inl ⟨i,hi,hg⟩);have h2:=hs.bel.size;omega
   .exact(x0 g hg).2
 have x3:Sim w Y0 n Y U a w:=⟨hs.sz,hs.df,jw _ _,hs.fr,hs.own,λi o g hi hg=>.inr (.inr ⟨i,o,hi,hg⟩),hs.inj,hs.lt,hs.fix,hs.hb,hs.hE⟩;refine zT (h w ds _ x2 U a w x3) λe a' w'⟨Y',U',h1,h2⟩=>⟨Y',U',ds,⟨h1.sz,h1.df,zqw hs x1 h1.bel,h1.fr,h1.own,λi o g hi hg=>?_,h1.inj,h1.lt,h1.fix,h1.hb,h1.hE⟩,?_,h2⟩
 .rcases h1.new i o g hi hg with h3|h3
  .exact .inl (zL hs.bel.size h3)
  .exact x1 g h3
 .refine hm.keepB λg x5 hg=>?_;have x4:=(zv.1 hg).1;by_cases hy:Y0.R g
  .exfalso;rcases hy with ⟨i,hi,hy⟩|⟨i,o,h3,h4⟩
   .have h1:=hX.2.1 g (.inl ⟨i,hi,hy⟩);omega
   .exact(hs.own i o h3).isCells h4 _ hg
  .exact(h1.bel.block g x4 hy).trans hg
theorem AWPM.seq{x y:Code}(h:AWPM P w0 X n x Y (zil (λY'=>AWPM P w0 X n y Y' Q) Q)):AWPM P w0 X n (.seq x y) Y Q:=
 λds U a w hs hm=>wpIn_seq (zT (h ds U a w hs hm) λe a w⟨Y',U',x0,h1,h2,h3⟩=>by
  cases e with
  |normal=>exact h3 x0 U' a w h1 h2
  |_=>exact⟨Y',U',x0,h1,h2,h3⟩)
theorem AWPM.block{id:Nat}{c:Code}(h:AWPM P w0 X n c Y (zhk id Q)):AWPM P w0 X n (.block id c) Y Q:=
 λds U a w hs hm=>wpIn_block (zT (h ds U a w hs hm) λe a w⟨Y',U',ds',h1,hm',h2⟩=>by
  cases e with
  |exit j=>
   simp only[zhk,cond_eq_ite,qE]at h2;simp only[Exit.inBlock];split
   .rename_i hj;rw[if_pos hj]at h2;exact⟨Y',U',ds',h1,hm',h2⟩
   .rename_i hj;rw[if_neg hj]at h2;exact⟨Y',U',ds',h1,hm',h2⟩
  |_=>exact⟨Y',U',ds',h1,hm',h2⟩)
end
theorem AWPM.rangeM{P:zA}{w0:zj}{X:Ownr}{n:Nat}{Y:AS}{Q:Exit->AS->Prop}{g gf:Nat}{ps:Array Tmp}{cap:Ty}{cx:cap.T}{x3 body:Code}(hX:X.Ok w0)
  (hg:zr Y.F g=⟨.clo gf cap,cx⟩) (eg:∀args w,(callFunc gf args).run P w=.ok (.enter gf args) w) (pl:List Tmp) (yq:ps=pl.toArray) (ys:pl.all (λp=>zO p n)=true) (yh:disB pl=true)
  (N:Nat) (x2:Nat->List V) (yc:∀k,(x2 k).length=pl.length) (xv:Iter P gf cap cx N x2)
  (K:Nat) (hK:∀i,i<K->∃ob,zq Y.E i=some ob/\ob.isBuf=false) (F:List (Nat×V)) (hF:Sub Y.F F) (hh:F.all (λz=>zjU K z.2&& !hasN pl z.1)=true) (E:Nat->Owns) (nx:Nat) (x5:K<=nx) (xp:X.K<=K) (xq:Fit Y ⟨F,E 0,nx⟩) (hv:∀k,bndV nx (x2 k)=true)
  (A R:Nat->Prop) (hA:A 0) (S1:Nat->AS) (yi:∀k,K<=(S1 k).nx) (ER:Nat->Owns)
  (x7:∀(W:zj)(O' Bf:Nat->Prop)(fix:Nat->Nat)(l:Nat),(⟨X.G,O',K,fix,[],some l,Bf⟩:Ownr).Ok W->(∀i,i<X.K->fix i=X.fix i)->∀k,k<N->A k->AWP P W ⟨X.G,O',K,fix,[],some l,Bf⟩ n x3 ⟨zipF pl (x2 k)++F,E k,nx⟩ (λe s=>e=.normal/\Fit s (S1 k)))
  (xk:∀(W:zj)(O' Bf:Nat->Prop)(fix:Nat->Nat)(l:Nat),(⟨X.G,O',K,fix,[],some l,Bf⟩:Ownr).Ok W->(∀i,i<X.K->fix i=X.fix i)->∀k,k<N->A k->AWP P W ⟨X.G,O',K,fix,[],some l,Bf⟩ n body (S1 k) (λe s=>(e=.normal/\A (k+1)/\Fit s ⟨[],E (k+1),nx⟩)\/(e=.ret/\R k/\Fit s ⟨[],ER k,nx⟩)))
  (ym:A N->Q .normal ⟨F,E N,nx⟩) (yj:∀k,k<N->A k->R k->Q .ret ⟨F,ER k,nx⟩):AWPM P w0 X n (.rangeFunc (.tmp g) ps x3 body) Y Q:=by
 intro ds U a w hs hm;subst yq;have y3:∀p∈pl,p<n:=λp hp=>by simpa using yH.1 ys p hp
 have xt:a.tmps.size=n:=hs.sz;have yd:=hs.fr g;rw[hg]at yd;obtain⟨us,yk,yf⟩:∃us,a.tmps.getD g undef=.func (.func gf) #[] (List.toArray us)/\RepCap w (OSet (X.wD ds) Y.E U) cap cx us:=yd;obtain⟨C,hC,yr⟩:=xv w us _ yf;have xd:∀g,ownB Y.E U g->(w0.heap.size<=g\/X.R g)/\g<w.heap.size:=λg⟨i,o,h1,h2⟩=>⟨hs.new i o g h1 h2,((hs.own i o h1).block_lt h2).2⟩;obtain⟨fix,xi⟩:∃fix:Nat->Nat,fix=λi=>(zai (U i)).getD 0:=⟨_,rfl⟩;have x8:∀i,i<K->zai (U i)=some (fix i)/\ownB Y.E U (fix i):=λi hi=>by
  obtain⟨ob,h1,h2⟩:=hK i hi;have h3:∃g,zai (U i)=some g:=by
   have h4:=hs.own i ob h1;cases ob with
   |box t x=>obtain⟨g',cs,ty,e,_⟩:=h4;rw[e];exact⟨_,rfl⟩
   |buf te t xs=>cases h2
   |hbox ty vs=>obtain⟨g',cs,e,_⟩:=h4;rw[e];exact⟨_,rfl⟩
   |mp m I=>obtain⟨ms,ck,e,_⟩:=h4;rw[e];exact⟨_,rfl⟩
  obtain⟨g',h4⟩:=h3;have h5:fix i=g':=by rw[xi];simp only[h4];rfl
  rw[h5];exact⟨h4,i,ob,h1,h4⟩
 obtain⟨D,hD⟩:∃D,D=w.heap.size:=⟨_,rfl⟩;have xu:∀i,i<X.K->fix i=X.fix i:=λi hi=>by
  have h1:=(hs.fix.2 i hi).1;rw[(x8 i o_).1]at h1;exact yP h1
 let OX:Nat->Prop:=λg=>X.X g\/g=D+1
 let XB:Option Nat->Ownr:=λρ=>⟨X.G,OX,K,fix,[],ρ,ownB Y.E U⟩
 have hR:∀ρ g,(XB ρ).R g->ownB Y.E U g:=λρ g h=>by
  rcases h with ⟨i,hi,rfl⟩|h
  .exact(x8 i hi).2
  .exact h
 have xj:∀g,X.X g->g<w0.heap.size:=λg hg=>(hX.1 g hg).1;have yt:=hs.bel.size;have x9:∀(ρ:Option Nat)(B W:zj),B.heap.size=D+2->Kept (λg=>D<=g) w B->Kept (XB ρ).R B W->Kept (λg=>ownB Y.E U g\/D<=g) w W:=λρ B W _ h1 h2=>
  (h1.mono λg h=>.inr h).trans (h2.mono λg h=>.inl (hR ρ g h))
 have y4:∀(ρ:Option Nat)(B:zj),B.heap.size=D+2->Kept (λg=>D<=g) w B->(XB ρ).Ok B:=λρ B y1 xo=>by
  refine⟨λg hg=>?_,λg hg=>?_,λW' hk=>?_⟩
  .
   refine⟨?_,λhr=>?_⟩
   .rcases hg with h|h
    .have:=xj g h;omega
    .omega
   .have h1:=xd g (hR ρ g hr);have yw:=h1.2;rcases hg with h|h
    .rcases h1.1 with h2|h2
     .have:=xj g h;omega
     .exact(hX.1 g h).2 h2
    .omega
  .have:=(xd g (hR ρ g hg)).2;omega
  .exact hX.2.2 W' (zqw hs (R:=λg=>ownB Y.E U g\/D<=g) (λg h=>h.elim (λh=>(xd g h).1) λh=>.inl (by have h:D<=g:=h;omega)) (x9 ρ B W' y1 xo hk))
 let J:Nat->zj->Prop:=λk W=>A k/\∃(B:zj)(x0:Nat->zi),B.heap.size=D+2/\Kept (λg=>D<=g) w B/\Sim B (XB none) 0 ⟨[],E k,nx⟩ x0 nA0 W
 let Jr:zj->Prop:=λW=>∃k,k<N/\A k/\R k/\∃(B:zj)(x0:Nat->zi),B.heap.size=D+2/\Kept (λg=>D<=g) w B/\Sim B (XB none) 0 ⟨[],ER k,nx⟩ x0 nA0 W
 let NN:Nat->Act->zj->Prop:=λk a' W=>A k/\bndB (S1 k).nx (S1 k).F=true/\∃(B:zj)(x0:Nat->zi),B.heap.size=D+2/\Kept (λg=>D<=g) w B/\Sim B (XB none) n (S1 k) x0 a' W
 have y5:∀(E':Owns)(B W:zj)(x0:Nat->zi),B.heap.size=D+2->Kept (λg=>D<=g) w B->Sim B (XB none) 0 ⟨[],E',nx⟩ x0 nA0 W->∀s,RepV W (OSet (XB none) E' x0) x0 (zr F s).t (zr F s).x (a.tmps.getD s undef):=by
  intro E' B W x0 y1 xo x1 s;have h1:=(hs.weaken hF.get).fr s;have yp:zjU K (zr F s)=true:=by
   have:∀(F:List (Nat×V)),F.all (λz=>zjU K z.2&& !hasN pl z.1)=true->zjU K (zr F s)=true:=by
    intro F
    induction F with
    |nil=>intro _;rfl
    |cons z F ih=>
     intro h;rw[vl,zh,zh]at h;obtain⟨s',v⟩:=z;rw[zal];split
     .exact h.1.1
     .exact ih h.2
   exact this F hh
  have h2:=RepV.rehand (U':=x0) (λi hi g hg=>by
   have h3:=(x8 i hi).1;rw[hg]at h3;rw[(x1.fix.2 i hi).1];exact h3.symm▸rfl) (zr F s) yp h1
  refine xF ⟨?_,λg xm x6=>?_,λg xm x6=>?_⟩ _ _ _ h2
  .have:=x1.bel.size;omega
  .refine(x1.bel.block g o_ λhr=>x6 (.inr (hR none g hr))).trans (xo.block g xm λh=>by omega)
  .rcases x6 with h3|⟨i,ob,h3,h4⟩
   .
    rcases h3 with h3|h3
    .exact .inl h3
    .omega
   .rcases x1.new i ob g h3 h4 with h5|h5
    .omega
    .exact .inr (hR none g h5)
 have h0:=hs.fit xq (zL xp x5);have xh:=xq.e.get;have xc:∀(m:Nat)(xg:AS)(a1:Act)(B A B':zj)(x0:Nat->zi),B.heap.size=D+2->Kept (λg=>D<=g) w B->Sim B (XB none) m xg x0 a1 A->Kept (λg=>A.heap.size<=g\/g=w.heap.size+1) A B'->∃B2:zj,B2.heap.size=D+2/\Kept (λg=>D<=g) w B2/\Sim B2 (XB none) m xg x0 a1 B':=by
  intro m xg a1 B A B' x0 h1 h2 h3 hk;obtain⟨B2,e1,e2,e3⟩:=h3.outside (y4 none B h1 h2) (I:=λg=>g=D+1) (λg h=>.inr h) (C:=B') ⟨hk.os,hk.tape,hk.output,hk.size,λq hq hn=>hk.block q hq λh=>h.elim (λh=>by omega) λh=>hn (by rw[h,hD])⟩;exact⟨B2,e1.trans h1,h2.trans (e2.mono λg h=>by have h:g=D+1:=h;show D<=g;omega),e3⟩
 have xa:∀(l m1 m2:Nat)(B W W':zj)(xg y6:AS)(y7 yb:Nat->zi)(a1 a2:Act)(xw xz:Option Nat),B.heap.size=D+2->Kept (λg=>D<=g) w B->Sim B (XB xw) m1 xg y7 a1 W->Sim B (XB xz) m2 y6 yb a2 W'->fG (λg=>C g\/g=w.heap.size\/g=w.heap.size+1) (w.heap.size+2) W W':=by
  intro l m1 m2 B W W' xg y6 y7 yb a1 a2 xw xz y1 xo h3 h4;refine⟨h4.bel.os.trans h3.bel.os.symm,h4.bel.tape.trans h3.bel.tape.symm,h4.bel.output.trans h3.bel.output.symm,by have:=h4.bel.size;omega,λq hq=>?_⟩;have xr:q<B.heap.size/\¬ownB Y.E U q:=by
   rcases hq with h|h|h
   .exact⟨by have:=(hC q h).1;omega,λhr=>(hC q h).2 (.inr hr)⟩
   .exact⟨by omega,λhr=>by have:=(xd q hr).2;omega⟩
   .exact⟨by omega,λhr=>by have:=(xd q hr).2;omega⟩
  exact(h4.bel.block q xr.1 λhr=>xr.2 (hR xz q hr)).trans (h3.bel.block q xr.1 λhr=>xr.2 (hR xw q hr)).symm
 have xl:∀(e:Exit)(E':Owns)(B W:zj)(x0:Nat->zi),B.heap.size=D+2->Kept (λg=>D<=g) w B->Sim B (XB none) 0 ⟨[],E',nx⟩ x0 nA0 W->W.heap[w.heap.size]? =some (.deferred (some []))->Q e ⟨F,E',nx⟩->
   ∃Y' U' ds',Sim w0 (X.wD ds') n Y' U' { a with defers:={ target:=.collected w.heap.size,args:=#[] }::a.defers } W/\Marks w0.heap.size W ds'/\Q e Y':=by
  intro e E' B W x0 h1 h2 h3 x4 yo;have ye:=x9 none B W h1 h2 h3.bel;refine⟨⟨F,E',nx⟩,x0,{ target:=.collected w.heap.size,args:=#[] }::ds,⟨xt,by show _::a.defers=_::ds;rw[hs.df];rfl,?_,λs=>?_,λi ob hi=>?_,λi ob g hi hg=>?_,h3.inj,h3.lt,⟨zL xp x5,λi hi=>⟨(h3.fix.2 i (zF hi xp)).1.trans (congrArg some (xu i hi)),(h3.fix.2 i (zF hi xp)).2⟩⟩,λs=>zda xq.bf s,h3.hE⟩,?_,yo⟩
  .exact zqw hs (λg h=>h.elim (λh=>(xd g h).1) λh=>.inl (by have h:D<=g:=h;omega)) ye
  .exact xF ⟨zu _,λ_ _ _=>rfl,λg _ x6=>x6.imp (λh=>.inl h) λh=>h⟩ _ _ _ (y5 E' B W x0 h1 h2 h3 s)
  .exact(h3.own i ob hi).keep ⟨zu _,λ_ _ _=>rfl,λg _ x6=>x6.imp (λh=>.inl h) λh=>h⟩ λ_ _=>rfl
  .rcases h3.new i ob g hi hg with h|h
   .exact .inl o_
   .exact(xd g (hR none g h)).1
  .refine⟨⟨w.heap.size,rfl,yt,x4,λe he g' y8 e2=>?_⟩,hm.keep λg xn=>(ye.block g (zv.1 xn).1 λh=>?_).trans xn⟩
   .obtain⟨g1,e1,_,e3⟩:=hm.mem he;rw[e1]at y8;cases y8;have:=(zv.1 e3).1;omega
   .rcases h with h|h
    .exact hs.isCells h _ xn
    .have:=(zv.1 xn).1;omega
 refine wpIn_wide.2 (zmz (n:=0) (w0:=w) (C:=C) yk eg yr (λk y hy=>?_) (zY _ _) (λk hk=>(hC k hk).1) J Jr NN ?_ ?_ ?_ ?_ ?_ ?_ ?_ ?_)
 .obtain⟨xs,rfl,h,_⟩:=hy;rw[yc]at h;simp[h]
 .rintro k A B' ⟨hA,B,x0,h1,h2,h3⟩ hk;obtain⟨B2,k1,k2,k3⟩:=xc _ _ _ B A B' x0 h1 h2 h3 hk;exact⟨hA,B2,x0,k1,k2,k3⟩
 .rintro A B' ⟨k,yl,hA,xy,B,x0,h1,h2,h3⟩ hk;obtain⟨B2,k1,k2,k3⟩:=xc _ _ _ B A B' x0 h1 h2 h3 hk;exact⟨k,yl,hA,xy,B2,x0,k1,k2,k3⟩
 .rintro k a' A B' ⟨hA,y2,B,x0,h1,h2,h3⟩ hk;obtain⟨B2,k1,k2,k3⟩:=xc _ _ _ B A B' x0 h1 h2 h3 hk;exact⟨hA,y2,B2,x0,k1,k2,k3⟩
 .intro W1 xx yx;refine⟨hA,W1,U,by omega,zdJ xx λk hk=>by rw[hD];exact hk,rfl,rfl,jw _ _,λ_=>trivial,λi ob hi=>?_,λi ob g hi hg=>.inr (.inr ⟨i,ob,xh i ob hi,hg⟩),h0.inj,h0.lt,⟨x5,λi hi=>⟨(x8 i hi).1,λob yn=>?_⟩⟩,λ_=>zk _,h0.hE⟩
  .refine(h0.own i ob hi).keep ⟨by omega,λg xm _=>xx.block g xm,λg xm x6=>?_⟩ λg hg=>xx.block g ((h0.own i ob hi).block_lt hg).2;rcases x6 with h3|h3
   .
    rcases h3 with h3|h3
    .exact .inl h3
    .omega
   .exact .inr h3
  .obtain⟨yu,h1,h2⟩:=hK i hi;have h3:=xh i ob yn;rw[h1]at h3;cases h3;exact h2
 .rintro l k y W ⟨xe,B,x0,h1,h2,h3⟩ xf ⟨xs,rfl,yv,xb⟩ y0;have hb:=x7 B OX (ownB Y.E U) fix l (y4 (some l) B h1 h2) xu k xf xe;have xb:=xb W (OSet (XB (some l)) (E k) x0) x0 (by have:=h3.bel.size;omega) λq hq=>by
   refine⟨(h3.bel.block q (by have:=(hC q hq).1;omega) λhr=>(hC q hq).2 (.inr (hR none q hr))).trans (h2.block q (hC q hq).1 λh=>by have:=(hC q hq).1;omega),?_⟩;rintro (h|⟨i,ob,h8,h9⟩)
   .
    rcases h with h|h
    .exact(hC q hq).2 (.inl h)
    .have:=(hC q hq).1;omega
   .rcases h3.new i ob q h8 h9 with h|h
    .have:=(hC q hq).1;omega
    .exact(hC q hq).2 (.inr (hR none q h))
  have ya:(ztg pl.toArray a xs.toArray).tmps=(pl.zip xs).foldl (λt(p:Tmp×zi)=>t.setIfInBounds p.1 p.2) a.tmps:=by
   unfold ztg;simp
  have x1:Sim B (XB (some l)) n ⟨zipF pl (x2 k)++F,E k,nx⟩ x0 (ztg pl.toArray a xs.toArray) W:=by
   refine fU (X':=XB (some l)) h3 rfl rfl rfl ?_ rfl (λs=>?_) ?_
   .rw[ya,zmj];exact xt
   .rw[ya];exact zmk pl (x2 k) xs a.tmps (ziT yh) (λp hp=>by rw[xt];exact y3 p hp) (yc k).symm xb (λs=>y5 (E k) B W x0 h1 h2 h3 s) s
   .have y9:=xq.bf;have:∀(ps:List Tmp)(vs:List V),bndV nx vs=true->bndB nx (zipF ps vs++F)=true:=by
     intro ps
     induction ps with
     |nil=>intro vs _;exact y9
     |cons p ps ih=>
      intro vs h;cases vs with
      |nil=>exact y9
      |cons v vs=>
       simp only[bndV,zh]at h;show bndB nx ((p,v)::(zipF ps vs++F))=true;simp only[bndB,zh];exact⟨h.1,ih vs h.2⟩
    exact this pl (x2 k) (hv k)
  refine zT (hb x0 _ W x1) ?_;rintro e a' W' ⟨Y',U',h4,rfl,h5⟩;have h6:=h4.fit h5 (yi k);refine⟨rfl,⟨xe,h5.bf,B,U',h1,h2,?_⟩,xa l _ _ B W W' _ _ _ _ _ _ none (some l) h1 h2 h3 h4⟩;exact fU (X':=XB none) (a':=a') (m:=n) (F:=(S1 k).F) h6 rfl rfl rfl h6.sz h6.df (λs=>h6.fr s) h5.bf
 .rintro l k W a' xf y0 ⟨xe,y2,B,x0,h1,h2,h3⟩;have hb:=xk B OX (ownB Y.E U) fix l (y4 (some l) B h1 h2) xu k xf xe;have x1:Sim B (XB (some l)) n (S1 k) x0 a' W:=by
   exact fU (X':=XB (some l)) (a':=a') (m:=n) (F:=(S1 k).F) h3 rfl rfl rfl h3.sz h3.df (λs=>h3.fr s) y2
  refine zT (hb x0 _ W x1) ?_;rintro e a3 W' ⟨Y',U',h4,h5⟩;refine⟨?_,xa l _ _ B W W' _ _ _ _ _ _ none (some l) h1 h2 h3 h4⟩;rcases h5 with ⟨rfl,hA1,h5⟩|⟨rfl,hR1,h5⟩
  .exact .inl ⟨rfl,hA1,B,U',h1,h2,fU (X':=XB none) (a':=nA0) (m:=0) (F:=[]) (h4.fit h5 x5) rfl rfl rfl rfl rfl (λs=>trivial) rfl⟩
  .exact .inr ⟨rfl,k,xf,xe,hR1,B,U',h1,h2,fU (X':=XB none) (a':=nA0) (m:=0) (F:=[]) (h4.fit h5 x5) rfl rfl rfl rfl rfl (λs=>trivial) rfl⟩
 .rintro W ⟨yg,B,x0,h1,h2,h3⟩ x4;exact xl .normal (E N) B W x0 h1 h2 h3 x4 (ym yg)
 .rintro W ⟨k,xf,xe,xy,B,x0,h1,h2,h3⟩ x4;exact xl .ret (ER k) B W x0 h1 h2 h3 x4 (yj k xf xe xy)
section
variable {P:zA}{w0:zj}{X:Ownr}{n m:Nat}{Y:AS}{U:Nat->zi}{a:Act}{ds:List jF}
theorem zot{fn:Func}{R:Ending->zj->Prop}{u:zi}(x0:∀w,(results fn a.tmps).run P w=.ok u w):∀(x1:List jF)(w:zj),Sim w0 (X.wD ds) n Y U a w->Marks w0.heap.size w x1->(∀w',Sim w0 (X.wD ds) n Y U a w'->R (.returned u) w')->LeavesInM yU 0 P fn a.tmps R x1 .returning w
 | [],w,h,_,hQ=>⟨u,x0 w,hQ w h⟩
 |d::x1,w,h,⟨⟨g,h1,h2,h3,h4⟩,hm⟩,hQ=>by
  subst h1;refine⟨by simp,.inl ⟨_,_,rfl,run_takeDeferred h3,?_⟩⟩;have hs:=h.seen.keepC (zdK (o:=.deferred none) h3);exact zot x0 x1 _ ⟨h.sz,h.df,h.bel.grown (grownBy_putObj' w g _) (λk e=>by cases e;exact .inl h2),hs.fr,hs.own,h.new,h.inj,h.lt,h.fix,h.hb,h.hE⟩ (hm.shut h4) hQ
theorem zo9{f:yR}{fn:Func}{c:Code}(hf:P.funcs[f]? =some fn)(x8:fn.body=some c)(x2:fn.results= #[]\/∃s,fn.results= #[.tmp s])(hn:fn.ntmps=m){w:zj}{F':yF}{E1:Owns}{nx:Nat}{N:V->Owns->Nat->Prop}(hD:X.D=[])
  (h:AWPM P w X m c ⟨F',E1,nx⟩ (λe Y=>(e=.normal\/e=.ret)/\N (rvOf fn.results.toList Y) Y.E Y.nx)):zc3 P w X f m F' E1 nx N:=by
 intro U caps x0;refine(callsIn_wide (n:=0)).1 (callsIn_of_wp_marks hf x8 trivial ?_ rfl);rw[hn];have x9:Sim w (X.wD []) m ⟨F',E1,nx⟩ U { tmps:=caps++zG (m-caps.size) undef,defers:=[] } w:=⟨x0.sz,rfl,x0.bel,x0.fr,x0.own,x0.new,x0.inj,x0.lt,x0.fix,x0.hb,x0.hE⟩;refine zT (h [] U _ w x9 trivial) ?_;rintro e a' w' ⟨Y,U',x4,h1,hm,he,hQ⟩;obtain⟨u,x7,xb,xa⟩:=zgF (P:=P) x2 h1.fr h1.hb;have x1:LeavesInM yU 0 P fn a'.tmps (EndS w X N) a'.defers .returning w':=by
  rw[h1.df];refine zot (X:=X) (ds:=x4) x7 x4 w' h1 hm λw2 h2=>?_;obtain⟨u',x3,x5,x6⟩:=zgF (P:=P) x2 h2.fr h2.hb;have:u'=u:=by
   have e1:=x7 w2;rw[x3 w2]at e1;cases e1;rfl
  subst this;exact EndS.of (Z0:=X.wD x4) rfl hD hQ h2 x5 x6
 rcases he with rfl|rfl
 .exact x1
 .exact x1
end
theorem znL{w:zj}{O:Nat->Prop}{B:Nat}:∀{t:Ty}{x:t.T}{v:zi},t.data=true->RepD w O t x v->zcd w O B none t x v:=by
 intro t x v x0 h;cases t with
 |slice t=>exact h
 |_=>exact λU=>(za5 x0).2 h
theorem znS{P:zA}{n:Nat}{G:zj->Prop}{f:yR}{fn:Func}{c:Code}{x0:RCtr}(hf:P.funcs[f]? =some fn)(hb:fn.body=some c)(hn:fn.ntmps=n)(x8:fn.results= #[]\/∃s,fn.results= #[.tmp s])(xp:∀(zas:Array zi)(w:zj),(callFunc f zas).run P w=.ok (.enter f zas) w)(hd:zbf x0.args=true)(xe:x0.args.length+1<=n)(x9:x0.res.data=true)(xn:∀w w' g,x0.inv w g->G w->Kept (λh=>h=g) w w'->G w')
  (h:∀(w0:zj)(O:Nat->Prop)(g:Nat),(uU G O g).Ok w0->x0.inv w0 g->∀(x:x0.self.T)(xs:Args x0.args),allP (x0.pre x xs)->
    AWPM P w0 (uU G O g) n c (zfO x0.self x x0.args xs) (λe Y=>(e=.normal\/e=.ret)/\zq Y.E 0=some (.box x0.self (x0.post x xs))/\rvOf fn.results.toList Y=⟨x0.res,x0.out x xs⟩)):RCtrOk P G f x0:=by
 refine⟨xp,λw O g cs ty x xs vs hO hg hx x2 hp x3 hG=>?_⟩;have xl:=zc5 _ _ _ x2;have xg:=(zv.1 hg).1
 let X:Ownr:=uU G O g
 have x4:∀h,X.R h↔h=g:=Ownr.one_R _ _ _;have hX:X.Ok w:=⟨λh hh=>⟨(hO h hh).1,λe=>(hO h hh).2 ((x4 h).1 e)⟩,λh e=>by rw[(x4 h).1 e];exact xg,λw' hk=>xn w w' g x3 hG ⟨hk.os,hk.tape,hk.output,hk.size,λk xt hr=>hk.block k xt λx7=>hr ((x4 k).1 x7)⟩⟩
 let U:Nat->zi:=λ_=>.pointer (some ⟨g,0,none⟩)
 have hE:OSet X (zfO x0.self x x0.args xs).E U=λh=>O h\/h=g:=by
  funext k
  apply propext;constructor
  .rintro (h|⟨i,o,_,h⟩)
   .exact .inl h
   .exact .inr (by simpa [U,zai] using h.symm)
  .rintro (h|h)
   .exact .inl h
   .exact .inr ⟨0,_,rfl,by rw[h];rfl⟩
 have x1:∀i o,zq (zfO x0.self x x0.args xs).E i=some o->i=0/\o=.box x0.self x:=λi o h=>by
  rw[show(zfO x0.self x x0.args xs).E=[(0,some (.box x0.self x))] from rfl,zag]at h;by_cases hi:0=i
  .rw[if_pos hi]at h;cases h;exact⟨hi.symm,rfl⟩
  .rw[if_neg hi]at h;cases h
 have x6:Sim w X n ⟨(zfO x0.self x x0.args xs).F,(zfO x0.self x x0.args xs).E,1⟩ U { tmps:=(zz (some ⟨g,0,none⟩)::vs).toArray++zG (n-(zz (some ⟨g,0,none⟩)::vs).toArray.size) undef,defers:=[] } w:=by
  refine⟨by simp[xl];omega,rfl,jw _ _,λs=>?_,λi o h=>?_,λi o k h hk=>?_,λi j oi oj h h' xv=>?_,λi o h=>?_,⟨zu _,λi hi=>⟨rfl,λo ho=>?_⟩⟩,λs=>?_,λi o h=>by rw[(x1 i o h).2];intro _ e;cases e⟩
  .show RepV w (OSet X (zfO x0.self x x0.args xs).E U) _ _ _ _;rw[hE];have e:((zz (some ⟨g,0,none⟩)::vs).toArray++zG (n-(zz (some ⟨g,0,none⟩)::vs).toArray.size) undef)=([zz (some ⟨g,0,none⟩)]++vs++zg (n-(vs.length+1)) undef).toArray:=by simp
   show RepV w _ _ _ _ (((zz (some ⟨g,0,none⟩)::vs).toArray++zG (n-(zz (some ⟨g,0,none⟩)::vs).toArray.size) undef).getD s undef);rw[e];have:=zcs (U:=U) x0.args xs vs [zz (some ⟨g,0,none⟩)] (zg (n-(vs.length+1)) undef) hd x2 s;have xk:∀u:zi,RepV w (λh=>O h\/h=g) U (zr ((0,⟨.optr x0.self,⟨0,x0.self,.here⟩⟩)::zb1 x0.args xs 1) s).t (zr ((0,⟨.optr x0.self,⟨0,x0.self,.here⟩⟩)::zb1 x0.args xs 1) s).x u=RepV w (λh=>O h\/h=g) U (if 0=s then(⟨.optr x0.self,⟨0,x0.self,.here⟩⟩:V) else zr (zb1 x0.args xs 1) s).t (if 0=s then(⟨.optr x0.self,⟨0,x0.self,.here⟩⟩:V) else zr (zb1 x0.args xs 1) s).x u:=λu=>by
    rw[<-zal]
   refine(xk _).mpr ?_;by_cases hs:0=s
   .rw[if_pos hs];subst hs;exact⟨g,rfl,by simp[Array.getD,Path.off]⟩
   .rw[if_neg hs];exact this
  .obtain⟨rfl,rfl⟩:=x1 i o h;exact⟨g,cs,ty,rfl,zk _,hg,by show RepC w (OSet X (zfO x0.self x x0.args xs).E U) _ _ _;rw[hE];exact hx⟩
  .exact .inr ((x4 k).2 (by simpa [U,zai] using hk.symm))
  .have:=(x1 i oi h).1;have:=(x1 j oj h').1;omega
  .have:=(x1 i o h).1;subst this;exact qw 0
  .rw[(x1 i o ho).2];rfl
  .show(zr ((0,⟨.optr x0.self,⟨0,x0.self,.here⟩⟩)::zb1 x0.args xs 1) s).bound<=1;rw[zal];by_cases hs:0=s
   .rw[if_pos hs];exact zu _
   .rw[if_neg hs,zbI _ _ _ _ hd];exact zk _
 have x5:=zo9 (X:=X) (N:=λr E' xi=>zq E' 0=some (.box x0.self (x0.post x xs))/\r=⟨x0.res,x0.out x xs⟩) hf hb x8 hn rfl (h w O g hX x3 x xs hp) U _ x6;refine x5.mono λe w'⟨u,r,E',xi,U',he,⟨h6,hr⟩,h1,hu,_⟩=>?_;have xr:Kept (λh=>h=g) w w':=⟨h1.bel.os,h1.bel.tape,h1.bel.output,h1.bel.size,λk hk hr=>h1.bel.block k hk λx7=>hr ((x4 k).1 x7)⟩;obtain⟨g',xq,xh,xa,_,xf,xj⟩:=h1.own 0 _ h6;have xb:=(h1.fix.2 0 (qw 0)).1;rw[xa]at xb;have xm:g'=g:=by simpa [zai,X,uU] using xb
 subst xm;have xo:∀k,(O k\/k=g')->OSet X E' U' k:=λk hk=>by
  rcases hk with hk|hk
  .exact .inl hk
  .exact .inr ⟨0,_,h6,by rw[xa,hk];rfl⟩
 have xc:Keeps w' w' (OSet X E' U') (λh=>O h\/h=g'):=⟨zu _,λ_ _ _=>rfl,λk _ hk=>xo k hk⟩;have xu:=RepC.keep xc _ _ _ xj;subst hr;have xd:=(za5 x9).1 (xF xc _ _ _ hu);exact⟨u,xq,xh,he,xr,xf,xu,.inr (znL x9 xd)⟩
section
variable {P:zA}{K:Kn}{w0:zj}{X:Ownr}{n:Nat}{Y:AS}{Q:Exit->AS->Prop}{ops:Array Oper}
def ph4(p1 p2:Nat)(a b c d:Owns×Nat)(done:List Nat):Owns×Nat:=bif hasN done p1 then(bif hasN done p2 then d else b) else(bif hasN done p2 then c else a)
theorem zrc(m p1 p2:Nat)(E1 E2 E3:Owns)(n1 n2 n3:Nat)(B:yF)(L:List (Nat×Nat×V))(xe:P.follows .mixedOrders=true)(hX:X.Ok w0){id:Nat}(f:Nat)(hf:ops.toList.length=f)(x5:xM m f=true)(hb:zeQ ops=true)(ht:zgA ops.toList m f=true)
  (hd:disB ((L.map (·.2.1))++(B.map (·.1)))=true) (hB:Sub Y.F B) (x8:p1≠p2) (x2:AllI (λi=>(i≠p1->i≠p2->∀E nx,(E,nx)∈ [(Y.E,Y.nx),(E1,n1),(E2,n2),(E3,n3)]->StepK P w0 X n ops (QC w0 X n Q) B L E nx i)/\(i=p1->∀done,hasN done p1=false->(∀q,q∈done->∀i,hasN (zbN ops.toList q) i=true->i∈done)->(hasN done p2=false->StepN P w0 X n ops (QC w0 X n Q) B L done Y.E E1 Y.nx n1 i)/\(hasN done p2=true->StepN P w0 X n ops (QC w0 X n Q) B L done E2 E3 n2 n3 i))/\(i=p2->∀done,hasN done p2=false->(∀x,hasN (zbN ops.toList i) x=true->x∈done)->(hasN done p1=false->StepN P w0 X n ops (QC w0 X n Q) B L done Y.E E2 Y.nx n2 i)/\(hasN done p1=true->StepN P w0 X n ops (QC w0 X n Q) B L done E1 E3 n1 n3 i))) m)
  (xd:bndB n3 (L.map (·.2)++B)=true) (x4:SubE E3 E3) (x7:bndE n3 E3=true) (xb:zO p1 m=true) (x9:zO p2 m=true)
  (x3:L.all (λp=>zO p.1 m)=true) (hq:TailA P w0 X n ops (QC w0 X n Q) (ops.toList.drop m) ⟨L.map (·.2)++B,E3,n3⟩) (hk:X.K<=n3:=by exact zb rfl) (xc:zaE ops.toList=true:=by rfl):AWP P w0 X n (.region id ops true) Y Q:=by
 refine zgs m B L (ph:=ph4 p1 p2 (Y.E,Y.nx) (E1,n1) (E2,n2) (E3,n3)) E3 n3 xe hX f hf x5 hb ht hd hB rfl (λdone h=>?_) (λi hi done x0 x6 xa=>?_) xd x4 x7 x3 hq hk xc
 .unfold ph4;rw[zax.2 (h p1 (by simpa using xb)),zax.2 (h p2 (by simpa using x9))];exact⟨λ_=>rfl,rfl⟩
 have x1:∀p,i≠p->hasN (i::done) p=hasN done p:=λp hp=>by
  rw[qA,zax,zax,zE];exact⟨λh=>h.resolve_left λe=>hp e.symm,.inr⟩
 unfold ph4;by_cases e1:i=p1
 .subst e1;rw[zax.2 (yN ..),x1 p2 x8,x0];have h:=(x2.get i hi).2.1 rfl done x0 xa;cases hc:hasN done p2 with
  |true=>exact h.2 hc
  |false=>exact h.1 hc
 .by_cases e2:i=p2
  .subst e2;rw[zax.2 (yN ..),x1 p1 e1,x0];have h:=(x2.get i hi).2.2 rfl done x0 x6;cases hc:hasN done p1 with
   |true=>exact h.2 hc
   |false=>exact h.1 hc
  .rw[x1 p1 e1,x1 p2 e2];have h3:=(x2.get i hi).1 e1 e2;cases hasN done p1<;>cases hasN done p2<;>exact .of (h3 _ _ (by simp))
theorem zrd{id:Nat}(m p:Nat)(x:Nat×Option OObj)(n1:Nat)(B:yF)(L:List (Nat×Nat×V))(xb:P.follows .mixedOrders=true)(hX:X.Ok w0)(f:Nat)(hf:ops.toList.length=f)(x2:xM m f=true)(hb:zeQ ops=true)(ht:zgA ops.toList m f=true)
  (hd:disB ((L.map (·.2.1))++(B.map (·.1)))=true) (hB:Sub Y.F B) (x6:AllI (λi=>∀done,(∀y,hasN (zbN ops.toList i) y=true->y∈done)->(∀q,q∈done->∀i,hasN (zbN ops.toList q) i=true->i∈done)->(i≠p->(hasN done p=false->StepK P w0 X n ops (QC w0 X n Q) B L Y.E Y.nx i)/\StepK P w0 X n ops (QC w0 X n Q) B L (x::Y.E) n1 i)/\(i=p->StepN P w0 X n ops (QC w0 X n Q) B L done Y.E (x::Y.E) Y.nx n1 i)) m)
  (xa:bndB n1 (L.map (·.2)++B)=true) (x1:SubE (x::Y.E) (x::Y.E)) (x4:bndE n1 (x::Y.E)=true) (x8:zO p m=true) (x0:L.all (λp=>zO p.1 m)=true) (hq:TailA P w0 X n ops (QC w0 X n Q) (ops.toList.drop m) ⟨L.map (·.2)++B,(x::Y.E),n1⟩) (hk:X.K<=n1:=by exact zb rfl) (x9:zaE ops.toList=true:=by rfl):AWP P w0 X n (.region id ops true) Y Q:=by
 refine zgs m B L (ph:=λdone=>bif hasN done p then((x::Y.E),n1) else(Y.E,Y.nx)) (x::Y.E) n1 xb hX f hf x2 hb ht hd hB rfl (λdone h=>?_) (λi hi done x5 x3 x7=>?_) xa x1 x4 x0 hq hk x9
 .rw[zax.2 (h p (by simpa using x8))];exact⟨λ_=>rfl,rfl⟩
 obtain⟨h1,h2⟩:=x6.get i hi done x3 x7;by_cases e:i=p
 .subst e;rw[zax.2 (yN ..),x5];exact h2 rfl
 .have:hasN (i::done) p=hasN done p:=by
   rw[qA,zax,zax,zE];exact⟨λh=>h.resolve_left λh=>e h.symm,.inr⟩
  rw[this];cases hc:hasN done p with
  |true=>exact .of (h1 e).2
  |false=>exact .of ((h1 e).1 hc)
end
section
variable {P:zA}{K:Kn}{w0:zj}{X:Ownr}{n:Nat}{Y:AS}{Q:Exit->AS->Prop}{ops:Array Oper}{d:Nat}{src:zK}
theorem zre{Y':AS}{o0:Oper}{l l':List Oper}(x4:ops.toList=o0::l)(hI:FlL P d src l l')(xb:o0.op=.move src)(xm:o0.dst=some d)(x6:o0.after.toList=[])(hg:o0.guard=none)(xg:src≠ .tmp d){id:Nat}(m p:Nat)(x:Nat×Option OObj)(n1:Nat)(B:yF)(L:List (Nat×Nat×V))(xh:P.follows .mixedOrders=true)(hX:X.Ok w0)(f:Nat)(hf:(o0::l').length=f)(x3:xM m f=true)(hb:zeQ (o0::l').toArray=true)(ht:zgA (o0::l') m f=true)
  (hd:disB ((L.map (·.2.1))++(B.map (·.1)))=true) (hB:Sub Y.F B) (xo:AllI (λi=>∀done,(∀y,hasN (zbN (o0::l') i) y=true->y∈done)->(∀q,q∈done->∀i,hasN (zbN (o0::l') q) i=true->i∈done)->(i≠p->(hasN done p=false->StepK P w0 X n (o0::l').toArray (QC w0 X n (λe s=>e=.normal/\Fit s Y')) B L Y.E Y.nx i)/\StepK P w0 X n (o0::l').toArray (QC w0 X n (λe s=>e=.normal/\Fit s Y')) B L (x::Y.E) n1 i)/\(i=p->StepN P w0 X n (o0::l').toArray (QC w0 X n (λe s=>e=.normal/\Fit s Y')) B L done Y.E (x::Y.E) Y.nx n1 i)) m)
  (xn:bndB n1 (L.map (·.2)++B)=true) (x2:SubE (x::Y.E) (x::Y.E)) (xf:bndE n1 (x::Y.E)=true) (xd:zO p m=true) (hlen:L.all (λp=>zO p.1 m)=true) (hq:TailA P w0 X n (o0::l').toArray (QC w0 X n (λe s=>e=.normal/\Fit s Y')) ((o0::l').drop m) ⟨L.map (·.2)++B,(x::Y.E),n1⟩) (xj:Q .normal Y') (hk:X.K<=n1:=by exact zb rfl) (xk:X.K<=Y'.nx:=by exact zb rfl) (xe:zaE ops.toList=true:=by rfl):AWP P w0 X n (.region id ops true) Y Q:=by
 have x0:∀{F:yF}{N:yF},Sub F N->∀p∈N,zr F p.1=p.2:=by
  intro F N
  induction N with
  |nil=>intro _ p hp;cases hp
  |cons q N ih=>
   intro h p hp;rcases zE.1 hp with rfl|hp
   .exact h.1
   .exact ih h.2 p hp
 refine AWP.weaken hB ?_;have x9:∀p∈B,zr B p.1=p.2:=λp hp=>by
  have h1:=zc7 (F:=[]) (N:=B) (s:=p.1) (v:=p.2) (λq hq he=>by
   have h2:=x0 hB q hq;rw[he,x0 hB p hp]at h2;exact h2.symm) hp
  rwa[List.append_nil]at h1
 have x3:m<=f:=zb x3
 let ph:List Nat->Owns×Nat:=λdone=>bif hasN done p then((x::Y.E),n1) else(Y.E,Y.nx)
 have h0:ph []=(Y.E,Y.nx):=rfl;have x5:∀i,i<m->∀done,hasN done i=false->(∀y,hasN (zbN (o0::l') i) y=true->y∈done)->(∀q,q∈done->∀i,hasN (zbN (o0::l') q) i=true->i∈done)->StepN P w0 X n (o0::l').toArray (QC w0 X n (λe s=>e=.normal/\Fit s Y')) B L done (ph done).1 (ph (i::done)).1 (ph done).2 (ph (i::done)).2 i:=λi hi done xl x6 xp=>by
  obtain⟨h1,h2⟩:=xo.get i hi done x6 xp;show StepN P w0 X n _ _ B L done (bif hasN done p then((x::Y.E),n1) else(Y.E,Y.nx)).1 (bif hasN (i::done) p then((x::Y.E),n1) else(Y.E,Y.nx)).1 (bif hasN done p then((x::Y.E),n1) else(Y.E,Y.nx)).2 (bif hasN (i::done) p then((x::Y.E),n1) else(Y.E,Y.nx)).2 i;by_cases e:i=p
  .subst e;rw[zax.2 (yN ..),xl];exact h2 rfl
  .have:hasN (i::done) p=hasN done p:=by
    rw[qA,zax,zax,zE];exact⟨λh=>h.resolve_left λh=>e h.symm,.inr⟩
   rw[this];cases hc:hasN done p with
   |true=>exact .of (h1 e).2
   |false=>exact .of ((h1 e).1 hc)
 have ho:=ziA (P:=P) (ops:=(o0::l').toArray) (Q:=λe s=>e=.normal/\Fit s Y') (B:=B) (L:=L) (ph:=ph) hX hf x3 ht (ziT hd) x5 (λdone s h x1=>⟨⟨L.map (·.2)++B,x::Y.E,n1⟩,λU a w hs=>⟨U,hs.fit ⟨Sub.of λp hp=>?_,SubE.of (λj=>(h.e j).trans ?_) x2,xn,xf⟩ hk⟩,hq⟩) m [] ⟨B,Y.E,Y.nx⟩ (by simp) (λq hq=>by cases hq) ⟨λp _ h=>(by cases h),x9,λ_=>by rw[h0],by rw[h0],gF,λx h=>(by cases h)⟩ λp hp=>.inl hp
 .rw[show m+(f-m)=f by omega]at ho;subst hf;intro U a w hs;have x8:¬LetsOut (λe a' w'=>e≠ .outgrown/\∃s U',Sim w0 X n s U' a' w'/\QC w0 X n (λe s=>e=.normal/\Fit s Y') e s):=λ⟨_,_,h,_⟩=>h rfl;have xi:∀e a' w',(e≠ .outgrown/\∃s U',Sim w0 X n s U' a' w'/\QC w0 X n (λe s=>e=.normal/\Fit s Y') e s)->e=.normal:=λ_ _ _⟨_,_,_,_,_,_,h,_⟩=>h;refine zT (wpIn_region_any xh (zbc x8 xe _ (zlw (FlOk.of x4 xb xm x6 hg hI) xg x8 xi (zgN hs hb ho)))) λe a' w'⟨_,s,U',xa,s2,h4,h5,h6⟩=>?_;obtain⟨xc,h7⟩:=h4 _ _ _ xa;subst h5;exact⟨Y',xc,h7.fit h6 xk,xj⟩
 .rcases yJ.1 hp with hp|hp
  .obtain⟨q,x7,rfl⟩:=jo.1 hp;exact h.l q x7 (x1 _ (zb (yH.1 hlen q x7)))
  .exact h.b p hp
 .show zq (bif hasN done p then((x::Y.E),n1) else(Y.E,Y.nx)).1 j=_;rw[zax.2 (x1 p (by simpa using xd))];rfl
end
abbrev tk:Ty:=.pair i64 (.pair i64 (.pair i64 (.pair .str (.pair i64 .unit))))
abbrev ps:Ty:=.pair .str (.pair tk (.pair (.slice nd) (.pair i64 .unit)))
abbrev gmH:zj->Prop:=dG
theorem zrF(w w':zj)(h:gmH w)(hb:xW w.heap.size w w'):gmH w':=zfr w w' h hb
theorem zd1:KnOk zf gmH gmK:=zam
theorem CtrOk.lift{f:yR}{c:Ctr}(h:yQ zf gmG f c):yQ zf gmH f c:=⟨h.1,λw O xs vs hO hr hp _=>h.2 w O xs vs hO hr hp trivial⟩
def ginv(_:zj)(R:Nat->Prop)(_:zy):Prop:=¬R 0
theorem zeg:∀w w' R(ty:zy),ginv w R ty->gmH w->Kept R w w'->gmH w':=λ_ _ _ _ h hg hk=>zfU h hg hk
abbrev deI(n:Int):List UInt8:=Lib.itoa n
theorem ziU(k:Nat):∀n,n<10^(k+1)->(qH n).length<=k+1:=by
 induction k with
 |zero=>
  intro n h;rw[qH];by_cases hn:n<10
  .rw[dif_pos hn];exact zu _
  .exact absurd (by simpa using h) hn
 |succ k ih=>
  intro n h;rw[qH];by_cases hn:n<10
  .rw[dif_pos hn];simp
  .rw[dif_neg hn,zl];have:=ih (n/10) (by rw[Nat.pow_succ]at h;omega);simp only[qy];omega
theorem zk4{n:Int}(h0: -100000000000000000<n)(h1:n<100000000000000000):(deI n).length<=18:=by
 unfold deI Lib.itoa;have e:(10:Nat)^(16+1)=100000000000000000:=by decide
 split
 .rw[yT];have:=ziU 16 n.natAbs (by rw[e];omega);omega
 .have:=ziU 16 n.toNat (by rw[e];omega);omega
def zvJ(n:Int):Prop:=-100000000000000000<n/\n<100000000000000000
def ndK(n:Nd):Int:=n.1
def ndC(n:Nd):Int:=n.2.1
def ndL(n:Nd):Int:=n.2.2.1
def ndR(n:Nd):Int:=n.2.2.2.1
def ndN(n:Nd):Int:=n.2.2.2.2.1
def ndM(n:Nd):Int:=n.2.2.2.2.2.1
def ndI(n:Nd):List Int:=n.2.2.2.2.2.2.1
def ndS(n:Nd):List UInt8:=n.2.2.2.2.2.2.2.1
def zdo(r:List Nd)(i:Int):Nd:=r.getD i.toNat zNd
def idx{α:Type}(f:α->Bool)(l:List α):Int:=if l.findIdx f<l.length then(l.findIdx f:Int) else -1
theorem zme{α:Type}{f:α->Bool}{l:List α}(h:∀k(hk:k<l.length),f l[k]=false):idx f l= -1:=by
 unfold idx;rw[if_neg];intro hl;have:=gG (w:=hl);rw[h _ hl]at this;cases this
theorem zmd{α:Type}{f:α->Bool}{l:List α}{k:Nat}(hk:k<l.length)(h:f l[k]=true)(hb:∀j(hj:j<k),f (l[j]'(Nat.lt_trans hj hk))=false):idx f l=(k:Int):=by
 have:l.findIdx f=k:=by
  rw[List.findIdx_eq hk];exact⟨h,λj hj=>hb j hj⟩
 unfold idx;rw[this,if_pos hk]
theorem zoI{α:Type}(f:α->Bool)(l:List α):decide (idx f l>=0)=l.any f:=by
 rw[qA,decide_eq_true_iff,ur];unfold idx;constructor
 .intro h;split at h
  .rename_i hl;exact⟨l[l.findIdx f],qc hl,gG (w:=hl)⟩
  .omega
 .rintro ⟨x,hx,hf⟩;rw[if_pos (List.findIdx_lt_length_of_exists ⟨x,hx,hf⟩)];omega
def inB(n lo hi:Int):Bool:=decide (lo<=n)&&decide (n<=hi)
def zbl:Ctr:={ args:=[i64,i64,i64],pre:=λ_=>[],res:=.bool,own:=none,out:=λx=>inB x.1 x.2.1 x.2.2.1 }
theorem zjf:yQ zf gmH 118 zbl:=by
 refine ctr2 zd1 Tryz.func118 Tryz.call118 ?_;rintro w0 X hX ⟨n,lo,hi,_⟩ hp
 iterate 2 (refine zaa (zaa (zab zd1 ?_)))
 refine zC ⟨.inr rfl,D1 ?_⟩;show(bif decide (lo<=n) then decide (n<=hi) else false)=inB n lo hi;unfold inB;cases decide (lo<=n)<;>rfl
def not1(n:Int):Bool:=!(n==1)
def zvh:Ctr:={ args:=[i64],pre:=λ_=>[],res:=.bool,own:=none,out:=λx=>not1 x.1 }
theorem zsL:yQ zf gmH 123 zvh:=by
 refine ctr2 zd1 Tryz.func123 Tryz.call123 ?_;rintro w0 X hX ⟨n,_⟩ hp;(repeat refine zaa (zaa (zab zd1 ?_)));refine zaa ?_;refine zC ⟨.inr rfl,D1 ?_⟩;rfl
def bigN(n:Nd):Bool:=decide (((n.2.2.2.2.2.2.1.length:Nat):Int)>64)||decide (((n.2.2.2.2.2.2.2.1.length:Nat):Int)>32)
def zvs:Ctr:={ args:=[nd],pre:=λ_=>[],res:=.bool,own:=none,out:=λx=>bigN x.1 }
theorem ztz:yQ zf gmH 103 zvs:=by
 refine ctr2 zd1 Tryz.func103 Tryz.call103 ?_;rintro w0 X hX ⟨n,_⟩ hp
 iterate 2 (refine zaa (zaa (zab zd1 ?_)))
 refine zC ⟨.inr rfl,D1 ?_⟩;show(bif decide (((n.2.2.2.2.2.2.1.length:Nat):Int)>64) then true else decide (((n.2.2.2.2.2.2.2.1.length:Nat):Int)>32))=bigN n;unfold bigN;cases decide (((n.2.2.2.2.2.2.1.length:Nat):Int)>64)<;>rfl
def litN:zi:=.func (.func 103) #[] #[]
def litU:zi:=.func (.func 123) #[] #[]
def zvl:Ctr:={ args:=[.slice nd,.lit],pre:=λx=>[x.2.1=litN],res:=i64,own:=none,out:=λx=>idx bigN x.1 }
def zvP:Kn:={ gmK with C:=[(103,zvs)] }
theorem zdN:KnOk zf gmH zvP:=zd1.with (.cons ztz .nil)
theorem zs6:yQ zf gmH 117 zvl:=by
 refine ctr2 zdN Tryz.func117 Tryz.call117 ?_;rintro w0 X hX ⟨l,f,_⟩ hp;obtain rfl:f=litN:=hp;change AWP _ _ _ _ _ ⟨[(0,⟨.slice nd,l⟩),(1,⟨.lit,litN⟩)],[],0⟩ _;refine kC 0 rfl λhl=>?_;unfold maxLen at hl;(repeat refine zaa (zaa (zab zdN ?_)));refine zaa ?_;refine yK (ι:=Nat) (λk=>⟨[(0,⟨.slice nd,l⟩),(1,⟨.lit,litN⟩),(7,⟨i64,((l.length:Nat):Int)⟩),(8,⟨i64,(k:Int)⟩)],[],0⟩) (λk=>k<=l.length/\∀j(hj:j<l.length),j<k->bigN l[j]=false) (λk=>l.length-k) 0 ⟨by omega,by omega⟩ ⟨⟨rfl,rfl,rfl,rfl,t_⟩,t_,rfl,rfl⟩ ?_;rintro k ⟨hk,hn⟩;refine zaa (zaa (zab zdN ?_));apply zap;refine zaN rfl (λhb=>?_) (λhb=>?_)
 .have hb:(k:Int)<(l.length:Nat):=hb;have x0:k<l.length:=o_;have n0:(0:Int)<=(k:Int):=o_
  iterate 2 (refine zaa (zaa (zab zdN ?_)))
  refine zae rfl (λhb=>?_) (λhb=>?_)
  .have hc:bigN (l.getD (k:Int).toNat zNd)=true:=hb;rw[za4 x0]at hc;(repeat refine zaa (zaa (zab zdN ?_)));refine zaa ?_;refine zC ⟨.inr rfl,D1 ?_⟩;show(k:Int)=idx _ l;exact(zmd x0 hc λj hj=>hn j _ hj).symm
  .have hc:bigN (l.getD (k:Int).toNat zNd)=false:=hb;rw[za4 x0]at hc;refine zaa (zaa ?_);refine zac hX zdN rfl ?_ ?_
   .exact zaP o_
   exact⟨k+1,⟨by omega,λj hj x0=>by
    by_cases e:j=k
    .subst e;exact hc
    .exact hn j hj o_⟩,by omega,⟨rfl,rfl,rfl,zce _,t_⟩,t_,rfl,rfl⟩
 .
  have:k=l.length:=o_;subst this;(repeat refine zaa (zaa (zab zdN ?_)));refine zaa ?_;refine zC ⟨.inr rfl,D1 ?_⟩;exact(zme λj hj=>hn j hj hj).symm
def zvu:Ctr:={ args:=[.slice nd,.lit],pre:=λx=>[x.2.1=litN],res:=.bool,own:=none,out:=λx=>List.any x.1 bigN }
def zvS:Kn:={ gmK with C:=[(117,zvl)] }
theorem zfh:KnOk zf gmH zvS:=zd1.with (.cons zs6 .nil)
theorem ztE:yQ zf gmH 104 zvu:=by
 refine ctr2 zfh Tryz.func104 Tryz.call104 ?_;rintro w0 X hX ⟨l,f,_⟩ hp;obtain rfl:=hp;(repeat(first|apply zap|apply zaf|apply zaH|apply zan|apply zaq|refine zac hX zfh rfl t_ ?_|refine zac hX zfh rfl id ?_|refine zac hX zfh rfl ⟨id,id⟩ ?_));refine zaa (zaa (zab zfh ?_));refine zC ⟨.inr rfl,D1 ?_⟩;exact zoI _ l
def zvk:Ctr:={ args:=[.slice i64,.lit],pre:=λx=>[x.2.1=litU],res:=i64,own:=none,out:=λx=>idx not1 x.1 }
def zvO:Kn:={ gmK with C:=[(123,zvh)] }
theorem zdM:KnOk zf gmH zvO:=zd1.with (.cons zsL .nil)
theorem zs5:yQ zf gmH 130 zvk:=by
 refine ctr2 zdM Tryz.func130 Tryz.call130 ?_;rintro w0 X hX ⟨l,f,_⟩ hp;obtain rfl:f=litU:=hp;change AWP _ _ _ _ _ ⟨[(0,⟨.slice i64,l⟩),(1,⟨.lit,litU⟩)],[],0⟩ _;refine kC 0 rfl λhl=>?_;unfold maxLen at hl;(repeat refine zaa (zaa (zab zdM ?_)));refine zaa ?_;refine yK (ι:=Nat) (λk=>⟨[(0,⟨.slice i64,l⟩),(1,⟨.lit,litU⟩),(7,⟨i64,((l.length:Nat):Int)⟩),(8,⟨i64,(k:Int)⟩)],[],0⟩) (λk=>k<=l.length/\∀j(hj:j<l.length),j<k->not1 l[j]=false) (λk=>l.length-k) 0 ⟨by omega,by omega⟩ ⟨⟨rfl,rfl,rfl,rfl,t_⟩,t_,rfl,rfl⟩ ?_;rintro k ⟨hk,hn⟩;refine zaa (zaa (zab zdM ?_));apply zap;refine zaN rfl (λhb=>?_) (λhb=>?_)
 .have hb:(k:Int)<(l.length:Nat):=hb;have x0:k<l.length:=o_;have n0:(0:Int)<=(k:Int):=o_
  iterate 2 (refine zaa (zaa (zab zdM ?_)))
  refine zae rfl (λhb=>?_) (λhb=>?_)
  .have hc:not1 (l.getD (k:Int).toNat (0:Int))=true:=hb;rw[za4 x0]at hc;(repeat refine zaa (zaa (zab zdM ?_)));refine zaa ?_;refine zC ⟨.inr rfl,D1 ?_⟩;show(k:Int)=idx _ l;exact(zmd x0 hc λj hj=>hn j _ hj).symm
  .have hc:not1 (l.getD (k:Int).toNat (0:Int))=false:=hb;rw[za4 x0]at hc;refine zaa (zaa ?_);refine zac hX zdM rfl ?_ ?_
   .exact zaP o_
   exact⟨k+1,⟨by omega,λj hj x0=>by
    by_cases e:j=k
    .subst e;exact hc
    .exact hn j hj o_⟩,by omega,⟨rfl,rfl,rfl,zce _,t_⟩,t_,rfl,rfl⟩
 .
  have:k=l.length:=o_;subst this;(repeat refine zaa (zaa (zab zdM ?_)));refine zaa ?_;refine zC ⟨.inr rfl,D1 ?_⟩;exact(zme λj hj=>hn j hj hj).symm
def zvt:Ctr:={ args:=[.slice i64,.lit],pre:=λx=>[x.2.1=litU],res:=.bool,own:=none,out:=λx=>List.any x.1 not1 }
def zvR:Kn:={ gmK with C:=[(130,zvk)] }
theorem zfg:KnOk zf gmH zvR:=zd1.with (.cons zs5 .nil)
theorem ztD:yQ zf gmH 122 zvt:=by
 refine ctr2 zfg Tryz.func122 Tryz.call122 ?_;rintro w0 X hX ⟨l,f,_⟩ hp;obtain rfl:=hp;(repeat(first|apply zap|apply zaf|apply zaH|apply zan|apply zaq|refine zac hX zfg rfl t_ ?_|refine zac hX zfg rfl id ?_|refine zac hX zfg rfl ⟨id,id⟩ ?_));refine zaa (zaa (zab zfg ?_));refine zC ⟨.inr rfl,D1 ?_⟩;exact zoI _ l
def ziJ(b:Int×Int×Unit):Bool:=b.1==0&&b.2.1==0
def zi4(l:List Int)(b:Int×Int×Unit)(i:Nat):Bool:=!inB (l.getD i 0) b.1 b.2.1||(decide (0<i)&&decide (l.getD i 0<=l.getD (i-1) 0))||(l.getD i 0==0&&decide (b.1<0))
def zbT(l:List Int)(b:Int×Int×Unit):Bool:=bif ziJ b then((l.length:Nat):Int)==0 else(xQ l.length).all (λi=>!zi4 l b i)&&decide (((l.length:Nat):Int)>0)
theorem zl1(b:Int×Int×Unit):eqb lims b (0,0,())=ziJ b:=by
 obtain⟨x,y,⟨⟩⟩:=b;unfold ziJ;rw[qA,zbt,zh,beq_iff_eq,beq_iff_eq];exact⟨λh=>⟨congrArg (λz=>z.1) h,congrArg (λz=>z.2.1) h⟩,λ⟨h1,h2⟩=>by
  have h1:x=0:=h1;have h2:y=0:=h2;rw[h1,h2]⟩
def zpc:Ctr:={ args:=[ints,lims],pre:=λ_=>[],res:=.bool,own:=none,out:=λx=>zbT x.1 x.2.1 }
def kVl:Kn:={ gmK with C:=[(118,zbl)] }
theorem zbs:KnOk zf gmH kVl:=zd1.with (.cons zjf .nil)
theorem zoq:yQ zf gmH 120 zpc:=by
 refine ctr2 zbs Tryz.func120 Tryz.call120 ?_;rintro w0 X hX ⟨(l:List Int),(b:Int×Int×Unit),_⟩ hp;change AWP _ _ _ _ _ ⟨[(0,⟨ints,l⟩),(1,⟨lims,b⟩)],[],0⟩ _;refine kC 0 rfl λhl=>?_;unfold maxLen at hl;apply zap
 iterate 2 (refine zaa (zaa (zab zbs ?_)))
 refine zae rfl (λhb=>?_) (λhb=>?_)
 .have hb:ziJ b=true:=by rw[<-zl1];exact hb
  (repeat refine zaa (zaa (zab zbs ?_)));refine zaa ?_;refine zC ⟨.inr rfl,D1 ?_⟩;show _=zbT l b;unfold zbT;rw[hb];rfl
 have hb:ziJ b=false:=by rw[<-zl1];exact hb
 (repeat refine zaa (zaa (zab zbs ?_)));refine zaa ?_;refine yK (ι:=Nat) (λk=>⟨[(0,⟨ints,l⟩),(3,⟨.optr lims,⟨0,lims,.here⟩⟩),(13,⟨ints,l⟩),(14,⟨i64,((l.length:Nat):Int)⟩),(15,⟨i64,(k:Int)⟩)],[(0,some (.box lims b))],1⟩) (λk=>k<=l.length/\∀j,j<k->zi4 l b j=false) (λk=>l.length-k) 0 ⟨by omega,by omega⟩ ⟨⟨rfl,rfl,rfl,rfl,rfl,t_⟩,⟨rfl,t_⟩,rfl,rfl⟩ ?_;rintro k ⟨hk,hn⟩;refine zaa (zaa (zab zbs ?_));apply zap;refine zaN rfl (λhb=>?_) (λhb=>?_)
 .have hb:(k:Int)<(l.length:Nat):=hb;have x1:k<l.length:=o_;have n0:(0:Int)<=(k:Int):=o_;refine zaa (zaa (zab zbs ?_));refine zaa (zaa ?_);refine zac hX zbs rfl ?_ ?_
  .have i1:inR .i64 ((k:Int)-1):=zah o_ o_;have i2:(k:Int)-1<(l.length:Nat):=o_;have i3:decide ((k:Int)>0)=true->0<=(k:Int)-1:=λh=>by have:=of_decide_eq_true h;omega
   cases zbl.out (l.getD ((k:Int)).toNat (zaD i64),b.fst,b.snd.fst,())<;>cases hD:decide ((k:Int)>0)<;>cases (l.getD ((k:Int)).toNat (zaD i64)==0)<;>cases decide (l.getD ((k:Int)).toNat (zaD i64)<=l.getD ((k:Int)-1).toNat (zaD i64))
   all_goals
    exact z_
  have hq:decide ((k:Int)>0)=decide (0<k):=by rw[qA,decide_eq_true_iff,decide_eq_true_iff];omega
  have x0:((k:Int)-1).toNat=k-1:=o_;refine zae rfl (λhb=>?_) (λhb=>?_)
  .have hc:zi4 l b k=true:=by
    rw[<-hb];unfold zi4;rw[<-hq, <-x0];show(!zbl.out (l.getD ((k:Int)).toNat (zaD i64),b.fst,b.snd.fst,())||(decide ((k:Int)>0)&&decide (l.getD ((k:Int)).toNat (zaD i64)<=l.getD ((k:Int)-1).toNat (zaD i64)))||((l.getD ((k:Int)).toNat (zaD i64)==0)&&decide (b.1<0)))=_;cases zbl.out (l.getD ((k:Int)).toNat (zaD i64),b.fst,b.snd.fst,())<;>cases hD:decide ((k:Int)>0)<;>cases (l.getD ((k:Int)).toNat (zaD i64)==0)<;>cases decide (l.getD ((k:Int)).toNat (zaD i64)<=l.getD ((k:Int)-1).toNat (zaD i64))<;>cases decide (b.1<0)<;>rfl
   (repeat refine zaa (zaa (zab zbs ?_)));refine zaa ?_;refine zC ⟨.inr rfl,D1 ?_⟩;show false=zbT l b;unfold zbT;rw[‹ziJ b=false›,show(xQ l.length).all (λi=>!zi4 l b i)=false from ?_]
   .rfl
   .rw[uF];intro ha;have:=yH.1 ha k (qr.2 x1);rw[hc]at this;cases this
  .have hc:zi4 l b k=false:=by
    rw[<-hb];unfold zi4;rw[<-hq, <-x0];show(!zbl.out (l.getD ((k:Int)).toNat (zaD i64),b.fst,b.snd.fst,())||(decide ((k:Int)>0)&&decide (l.getD ((k:Int)).toNat (zaD i64)<=l.getD ((k:Int)-1).toNat (zaD i64)))||((l.getD ((k:Int)).toNat (zaD i64)==0)&&decide (b.1<0)))=_;cases zbl.out (l.getD ((k:Int)).toNat (zaD i64),b.fst,b.snd.fst,())<;>cases hD:decide ((k:Int)>0)<;>cases (l.getD ((k:Int)).toNat (zaD i64)==0)<;>cases decide (l.getD ((k:Int)).toNat (zaD i64)<=l.getD ((k:Int)-1).toNat (zaD i64))<;>cases decide (b.1<0)<;>rfl
   refine zaa (zaa ?_);refine zac hX zbs rfl ?_ ?_
   .exact zaP o_
   exact⟨k+1,⟨by omega,λj hj=>by
    by_cases e:j=k
    .subst e;exact hc
    .exact hn j o_⟩,by omega,⟨rfl,rfl,rfl,rfl,zce _,t_⟩,⟨rfl,t_⟩,rfl,rfl⟩
 .have hb:¬((k:Int)<(l.length:Nat)):=hb;have:k=l.length:=o_;subst this;(repeat refine zaa (zaa (zab zbs ?_)));refine zaa ?_;refine zC ⟨.inr rfl,D1 ?_⟩;show _=zbT l b;unfold zbT;rw[‹ziJ b=false›,show(xQ l.length).all (λi=>!zi4 l b i)=true from yH.2 λi hi=>by rw[hn i (qr.1 hi)];rfl];rfl
def zcx(n:Nd):Bool:=
 bif n.1==1 then bif inB n.2.2.2.2.1 1 1099511627776 then inB n.2.2.2.2.2.1 0 1099511627776 else false
 else bif n.1==2 then bif inB n.2.2.2.2.1 1 400 then inB n.2.2.2.2.2.1 0 (n.2.2.2.2.1-1) else false
 else bif n.1==7 then bif (bif (bif inB n.2.2.2.2.1 (-60) 60 then !(n.2.2.2.2.1==0) else false) then inB n.2.2.2.2.2.1 0 6 else false) then inB n.2.2.1 0 1 else false
 else bif n.1==11 then bif inB n.2.2.2.2.1 (-1099511627776) 1099511627776 then n.2.2.2.2.2.1==0 else false
 else bif (n.1==12)||(n.1==13) then bif inB n.2.2.2.2.1 0 1099511627776 then n.2.2.2.2.2.1==0 else false
 else bif n.1==16 then bif n.2.2.2.2.1==0 then inB n.2.2.2.2.2.1 0 1 else false
 else bif n.1==17 then bif inB n.2.2.2.2.1 1 400 then n.2.2.2.2.2.1==0 else false
 else bif n.2.2.2.2.1==0 then n.2.2.2.2.2.1==0 else false
def zvg:Ctr:={ args:=[nd],pre:=λ_=>[],res:=.bool,own:=none,out:=λx=>zcx x.1 }
theorem zsK:yQ zf gmH 121 zvg:=by
 refine ctr2 zbs Tryz.func121 Tryz.call121 ?_;rintro w0 X hX ⟨n,_⟩ hp;apply zap
 iterate 3 (refine zaa (zaa (zab zbs ?_)))
 refine zae rfl (λh1=>?_) (λh1=>?_)
 .
  refine zaa (zaa (zac hX zbs rfl ?_ ?_))
  .have i0:zbl.out (n.2.2.2.2.1,(1:Int),(400:Int),())=true->inR .i64 (n.2.2.2.2.1-1):=λh=>by
    have h:inB n.2.2.2.2.1 1 400=true:=h;unfold inB at h;rw[zh,decide_eq_true_iff,decide_eq_true_iff]at h;exact zah o_ o_
   cases hA:zbl.out (n.2.2.2.2.1,(1:Int),(1099511627776:Int),())
   all_goals
    exact z_
  refine zC ⟨.inr rfl,D1 ?_⟩;show _=zcx n;simp only[zcx,h1,cond_true,cond_false,vF,ke,vm,jQ]
  all_goals (first|rfl|(simp;done))
 refine zaa (zaa (zab zbs ?_));refine zae rfl (λh2=>?_) (λh2=>?_)
 .
  refine zaa (zaa (zac hX zbs rfl ?_ ?_))
  .have i0:zbl.out (n.2.2.2.2.1,(1:Int),(400:Int),())=true->inR .i64 (n.2.2.2.2.1-1):=λh=>by
    have h:inB n.2.2.2.2.1 1 400=true:=h;unfold inB at h;rw[zh,decide_eq_true_iff,decide_eq_true_iff]at h;exact zah o_ o_
   cases hA:zbl.out (n.2.2.2.2.1,(1:Int),(400:Int),())
   all_goals
    repeat'(first|exact trivial|assumption|rfl|exact i0 rfl|exact i0 hA|(intro h;exact absurd h Bool.false_ne_true)|(refine⟨?_,?_⟩)|(intro _))
  refine zC ⟨.inr rfl,D1 ?_⟩;show _=zcx n;simp only[zcx,h1,h2,cond_true,cond_false,vF,ke,vm,jQ]
  all_goals (first|rfl|(simp;done))
 refine zaa (zaa (zab zbs ?_));refine zae rfl (λh7=>?_) (λh7=>?_)
 .
  refine zaa (zaa (zac hX zbs rfl ?_ ?_))
  .have i0:zbl.out (n.2.2.2.2.1,(1:Int),(400:Int),())=true->inR .i64 (n.2.2.2.2.1-1):=λh=>by
    have h:inB n.2.2.2.2.1 1 400=true:=h;unfold inB at h;rw[zh,decide_eq_true_iff,decide_eq_true_iff]at h;exact zah o_ o_
   cases hA:zbl.out (n.2.2.2.2.1,(-60:Int),(60:Int),())<;>cases (n.2.2.2.2.1==0)<;>cases zbl.out (n.2.2.2.2.2.1,(0:Int),(6:Int),())
   all_goals
    exact z_
  refine zC ⟨.inr rfl,D1 ?_⟩;show _=zcx n;simp only[zcx,h1,h2,h7,cond_true,cond_false,vF,ke,vm,jQ]
  all_goals (first|rfl|(simp;done))
 refine zaa (zaa (zab zbs ?_));refine zae rfl (λx0=>?_) (λx0=>?_)
 .
  refine zaa (zaa (zac hX zbs rfl ?_ ?_))
  .have i0:zbl.out (n.2.2.2.2.1,(1:Int),(400:Int),())=true->inR .i64 (n.2.2.2.2.1-1):=λh=>by
    have h:inB n.2.2.2.2.1 1 400=true:=h;unfold inB at h;rw[zh,decide_eq_true_iff,decide_eq_true_iff]at h;exact zah o_ o_
   cases hA:zbl.out (n.2.2.2.2.1,(-1099511627776:Int),(1099511627776:Int),())
   all_goals
    exact z_
  refine zC ⟨.inr rfl,D1 ?_⟩;show _=zcx n;simp only[zcx,h1,h2,h7,x0,cond_true,cond_false,vF,ke,vm,jQ]
  all_goals (first|rfl|(simp;done))
 refine zaa (zaa (zab zbs ?_));refine za1 (Y':=⟨[(1,⟨.optr nd,⟨0,nd,.here⟩⟩),(4,⟨i64,n.1⟩),(58,⟨.bool,(n.1==12)||(n.1==13)⟩)],[(0,some (.box nd n))],1⟩) ?_ ?_
 .refine zae rfl (λh=>?_) (λh=>?_)
  .
   apply zaf;rw[h];exact⟨⟨rfl,rfl,rfl,t_⟩,⟨rfl,t_⟩,rfl,rfl⟩
  .
   refine zaa (zaa (zab zbs ?_));rw[h];exact⟨⟨rfl,rfl,rfl,t_⟩,⟨rfl,t_⟩,rfl,rfl⟩
 refine zae rfl (λx1=>?_) (λx1=>?_)
 .
  refine zaa (zaa (zac hX zbs rfl ?_ ?_))
  .have i0:zbl.out (n.2.2.2.2.1,(1:Int),(400:Int),())=true->inR .i64 (n.2.2.2.2.1-1):=λh=>by
    have h:inB n.2.2.2.2.1 1 400=true:=h;unfold inB at h;rw[zh,decide_eq_true_iff,decide_eq_true_iff]at h;exact zah o_ o_
   cases hA:zbl.out (n.2.2.2.2.1,(0:Int),(1099511627776:Int),())
   all_goals
    exact z_
  refine zC ⟨.inr rfl,D1 ?_⟩;show _=zcx n;simp only[zcx,h1,h2,h7,x0,x1,cond_true,cond_false,vF,ke,vm,jQ]
  all_goals (first|rfl|(simp;done))
 refine zaa (zaa (zab zbs ?_));refine zae rfl (λx2=>?_) (λx2=>?_)
 .
  refine zaa (zaa (zac hX zbs rfl ?_ ?_))
  .have i0:zbl.out (n.2.2.2.2.1,(1:Int),(400:Int),())=true->inR .i64 (n.2.2.2.2.1-1):=λh=>by
    have h:inB n.2.2.2.2.1 1 400=true:=h;unfold inB at h;rw[zh,decide_eq_true_iff,decide_eq_true_iff]at h;exact zah o_ o_
   cases hA:(n.2.2.2.2.1==0)
   all_goals
    exact z_
  refine zC ⟨.inr rfl,D1 ?_⟩;show _=zcx n;simp only[zcx,h1,h2,h7,x0,x1,x2,cond_true,cond_false,vF,ke,vm,jQ]
  all_goals (first|rfl|(simp;done))
 refine zaa (zaa (zab zbs ?_));refine zae rfl (λx3=>?_) (λx3=>?_)
 .
  refine zaa (zaa (zac hX zbs rfl ?_ ?_))
  .have i0:zbl.out (n.2.2.2.2.1,(1:Int),(400:Int),())=true->inR .i64 (n.2.2.2.2.1-1):=λh=>by
    have h:inB n.2.2.2.2.1 1 400=true:=h;unfold inB at h;rw[zh,decide_eq_true_iff,decide_eq_true_iff]at h;exact zah o_ o_
   cases hA:zbl.out (n.2.2.2.2.1,(1:Int),(400:Int),())
   all_goals
    exact z_
  refine zC ⟨.inr rfl,D1 ?_⟩;show _=zcx n;simp only[zcx,h1,h2,h7,x0,x1,x2,x3,cond_true,cond_false,vF,ke,vm,jQ]
  all_goals (first|rfl|(simp;done))
 apply zaf;refine zaa (zaa (zac hX zbs rfl ?_ ?_))
 .have i0:zbl.out (n.2.2.2.2.1,(1:Int),(400:Int),())=true->inR .i64 (n.2.2.2.2.1-1):=λh=>by
   have h:inB n.2.2.2.2.1 1 400=true:=h;unfold inB at h;rw[zh,decide_eq_true_iff,decide_eq_true_iff]at h;exact zah o_ o_
  cases hA:(n.2.2.2.2.1==0)
  all_goals
   exact z_
 refine zC ⟨.inr rfl,D1 ?_⟩;show _=zcx n;simp only[zcx,h1,h2,h7,x0,x1,x2,x3,cond_true,cond_false,vF,ke,vm,jQ]
 all_goals (first|rfl|(simp;done))
abbrev Shp:=Int×Bool×(Int×Int×Unit)×Unit
def zbY:List Shp:=[(0,false,(0,0,()),()),(0,false,(0,0,()),()),(0,true,(0,0,()),()),(0,true,(1,16,()),()),(0,true,(-40,40,()),()),(0,false,(0,6,()),()),(0,true,(1,54,()),()),(0,true,(0,0,()),()),(2,false,(0,0,()),()),(2,false,(0,0,()),()),(2,false,(0,0,()),()),(1,false,(0,0,()),()),(1,false,(0,0,()),()),(1,false,(0,0,()),()),(1,false,(0,1099511627776,()),()),(1,false,(0,1099511627776,()),()),(1,true,(-400,400,()),()),(2,false,(0,0,()),()),(0,false,(0,0,()),())]
def zfZ:Ctr:={ args:=[],pre:=λ_=>[],res:=.arr 19 shp,own:=none,out:=λ_=>zbY }
set_option maxHeartbeats 400000 in
theorem zjn:yQ zf gmH 107 zfZ:=by
 refine ctr2 zd1 Tryz.func107 Tryz.call107 ?_;rintro w0 X hX _ hp;change AWP _ _ _ _ _ ⟨[],[],0⟩ _;apply zap
 iterate 2 (refine zaa (zaa (zab zd1 ?_)))
 exact zC ⟨.inr rfl,D1 rfl⟩
structure TCtr where
 te:zy
 et:Ty
 args:List Ty
 le:zy
 lt:Ty
 pre:List et.T->Args args->List lt.T->List Prop
 out:List et.T->Args args->List lt.T->List et.T
def TCtrOk(P:zA)(G:zj->Prop)(f:yR)(c:TCtr):Prop:=
 (∀(zas:Array zi)(w:zj),(callFunc f zas).run P w=.ok (.enter f zas) w)/\
 ∀(w:zj)(O:Nat->Prop)(b u:zi)(xs:List c.et.T)(ys:Args c.args)(ps:List c.lt.T)(vs:List zi),(∀h,O h->h<w.heap.size/\zai b≠some h)->(∀g,zai b=some g->zai u≠some g)->
  yZ w (λg=>(O g\/zai u=some g)\/zai b=some g) (λ_=>undef) 0 b (.buf c.te c.et xs)->yZ w (λg=>(O g\/zai u=some g)\/zai b=some g) (λ_=>undef) 0 u (.buf c.le c.lt ps)->RepA w (λg=>(O g\/zai u=some g)\/zai b=some g) c.args ys vs->allP (c.pre xs ys ps)->G w->
  Calls P f (b::(vs++[u])).toArray w λe w'=>∃b',e=.returned b'/\w.grownBy w' (zai b)/\(∀g,zai b'=some g->zai b=some g\/w.heap.size<=g)/\∀(O2:Nat->Prop)(U:Nat->zi),(∀g,O2 g->(O g\/zai u=some g)\/zai b'=some g)->yZ w' O2 U 0 b' (.buf c.te c.et (c.out xs ys ps))
def Gu(G:zj->Prop)(w:zj)(u:zi)(w1:zj):Prop:=G w1/\∀g,zai u=some g->g<w1.heap.size/\w1.heap[g]? =w.heap[g]?
theorem KnOk.sub{P:zA}{G G':zj->Prop}{K:Kn}(hK:KnOk P G K)(hG:∀w,G' w->G w)(x0:∀w w',G' w->xW w.heap.size w w'->G' w'):KnOk P G' K:=
 ⟨hK.t,hK.u,λf c hc=>⟨(hK.c f c hc).1,λw O xs vs hO hr hp hg=>(hK.c f c hc).2 w O xs vs hO hr hp (hG w hg)⟩,x0,λf c hc=>⟨⟨(hK.r f c hc).1.1,λw O g cs ty x xs vs h1 h2 h3 h4 h5 h6 h7=>(hK.r f c hc).1.2 w O g cs ty x xs vs h1 h2 h3 h4 h5 h6 (hG w h7)⟩,(hK.r f c hc).2⟩⟩
theorem KnOk.gu{P:zA}{G:zj->Prop}{K:Kn}(hK:KnOk P G K)(w:zj)(u:zi):KnOk P (Gu G w u) K:=
 hK.sub (λ_ h=>h.1) λw1 w' h hb=>⟨hK.st w1 w' h.1 hb,λg hg=>⟨zF (h.2 g hg).1 hb.size,(hb.block g (h.2 g hg).1).trans (h.2 g hg).2⟩⟩
abbrev trnX(G:zj->Prop)(w:zj)(O:Nat->Prop)(b u:zi):Ownr:={ G:=Gu G w u,X:=λg=>O g\/zai u=some g,K:=0,fix:=λ_=>0,D:=[],ρ:=none,B:=λg=>zai b=some g }
def zm3(c:TCtr)(u:zi)(xs:List c.et.T)(ys:Args c.args):AS:=⟨(0,⟨.obuf c.et,(0:Nat)⟩)::(c.args.length+1,⟨.lit,u⟩)::zb1 c.args ys 1,[(0,some (.buf c.te c.et xs))],1⟩
def zwe(c:TCtr)(rs:List ResultVar)(Y:AS)(zs:List c.et.T):Prop:=∃s i,rs=[.tmp s]/\zr Y.F s=⟨.obuf c.et,i⟩/\zq Y.E i=some (.buf c.te c.et zs)
section
variable {P:zA}{K:Kn}{n:Nat}
theorem zlg{w:zj}{O:Nat->Prop}{U U':Nat->zi}{b:zi}{te:zy}{t:Ty}{xs:List t.T}(h:yZ w O U 0 b (.buf te t xs)):yZ w O U' 0 b (.buf te t xs):=h
theorem zkp{G:zj->Prop}(hK:KnOk P G K){f:yR}{fn:Func}{c:Code}{ctr:TCtr}(hf:P.funcs[f]? =some fn)(hb:fn.body=some c)(hn:fn.ntmps=n)
  (xj:∀(zas:Array zi)(w:zj),(callFunc f zas).run P w=.ok (.enter f zas) w) (hd:zbf ctr.args=true) (hlen:ctr.args.length+2<=n) (xg:∀(w w':zj)(R:Nat->Prop),G w->Kept R w w'->G w')
  (h:∀(w0:zj)(O:Nat->Prop)(b u:zi),(trnX G w0 O b u).Ok w0->KnOk P (Gu G w0 u) K->∀(xs:List ctr.et.T)(ys:Args ctr.args)(ps:List ctr.lt.T),yZ w0 (λg=>(O g\/zai u=some g)\/zai b=some g) (λ_=>undef) 0 u (.buf ctr.le ctr.lt ps)->allP (ctr.pre xs ys ps)->
    AWP P w0 (trnX G w0 O b u) n c (zm3 ctr u xs ys) (λe Y=>(e=.normal\/e=.ret)/\zwe ctr fn.results.toList Y (ctr.out xs ys ps))):TCtrOk P G f ctr:=by
 refine⟨xj,λw O b u xs ys ps vs hO xa x2 hu x3 hp hG=>calls_of_wp hf hb ?_⟩;have x5:=zc5 _ _ _ x3;have x8:∀g,zai u=some g->g<w.heap.size:=λg hg=>(hu.block_lt hg).2;have xi:∀g,zai b=some g->g<w.heap.size:=λg hg=>(x2.block_lt hg).2;obtain⟨X,x0⟩:∃X,X=trnX G w O b u:=⟨_,rfl⟩;have x1:∀g,X.R g↔zai b=some g:=λg=>by
  rw[x0];exact⟨λhg=>hg.elim (λ⟨i,hi,_⟩=>absurd hi (yS _)) id,λhg=>.inr hg⟩
 have hX:X.Ok w:=by
  refine⟨λg hg=>?_,λg hg=>xi g ((x1 g).1 hg),λw' hk=>?_⟩
  .rw[x0]at hg;rcases hg with hg|hg
   .exact⟨(hO g hg).1,λhr=>(hO g hg).2 ((x1 g).1 hr)⟩
   .exact⟨x8 g hg,λhr=>xa g ((x1 g).1 hr) hg⟩
  .rw[x0];refine⟨xg w w' _ hG hk,λg hg=>⟨zF (x8 g hg) hk.size,hk.block g (x8 g hg) λhr=>xa g ((x1 g).1 hr) hg⟩⟩
 have xb:OSet X (zm3 ctr u xs ys).E (λi=>if i=0 then b else undef)=λg=>(O g\/zai u=some g)\/zai b=some g:=by
  funext g
  apply propext;rw[x0];constructor
  .rintro (h1|⟨i,o,h1,h2⟩)
   .exact .inl h1
   .rw[show zq (zm3 ctr u xs ys).E i=if 0=i then some (.buf ctr.te ctr.et xs) else none from zag ..]at h1;split at h1
    .rename_i e;subst e;exact .inr h2
    .cases h1
  .rintro (h1|h1)
   .exact .inl h1
   .exact .inr ⟨0,_,rfl,h1⟩
 have hget:∀i o,zq (zm3 ctr u xs ys).E i=some o->i=0/\o=.buf ctr.te ctr.et xs:=λi o h1=>by
  rw[show zq (zm3 ctr u xs ys).E i=if 0=i then some (.buf ctr.te ctr.et xs) else none from zag ..]at h1;split at h1
  .rename_i e;cases h1;exact⟨e.symm,rfl⟩
  .cases h1
 have x6:Sim w X n (zm3 ctr u xs ys) (λi=>if i=0 then b else undef) { tmps:=(b::(vs++[u])).toArray++zG (fn.ntmps-(b::(vs++[u])).toArray.size) undef,defers:=[] } w:=by
  refine⟨by simp[hn,x5];omega,by rw[x0],jw _ _,λs=>?_,λi o ho=>?_,λi o g ho hg=>?_,λi j oi oj hi hj xf=>?_,λi o ho=>?_,⟨by rw[x0];exact zk _,λi hi=>by rw[x0]at hi;exact absurd hi (yS _)⟩,λs=>?_,λi o ho=>?_⟩
  .rw[xb];have e:((b::(vs++[u])).toArray++zG (fn.ntmps-(b::(vs++[u])).toArray.size) undef)=([b]++vs++(u::zg (fn.ntmps-(vs.length+2)) undef)).toArray:=by simp
   show RepV _ _ _ (zr ((0,⟨.obuf ctr.et,(0:Nat)⟩)::(ctr.args.length+1,⟨.lit,u⟩)::zb1 ctr.args ys 1) s).t (zr ((0,⟨.obuf ctr.et,(0:Nat)⟩)::(ctr.args.length+1,⟨.lit,u⟩)::zb1 ctr.args ys 1) s).x (((b::(vs++[u])).toArray++zG (fn.ntmps-(b::(vs++[u])).toArray.size) undef).getD s undef);rw[e,zal,zal];by_cases h0:0=s
   .subst h0;rw[if_pos rfl];show _=_;simp
   .rw[if_neg h0];by_cases h1:ctr.args.length+1=s
    .subst h1;rw[if_pos rfl];show _=u;rw[yA,uI,List.getElem?_append_right (by simp[x5])];simp[x5]
    .rw[if_neg h1];exact zcs (U:=_) ctr.args ys vs [b] _ hd x3 s
  .obtain⟨rfl,rfl⟩:=hget i o ho;rw[xb];exact x2
  .obtain⟨rfl,rfl⟩:=hget i o ho;exact .inr ((x1 g).2 hg)
  .obtain⟨rfl,_⟩:=hget i oi hi;obtain⟨rfl,_⟩:=hget j oj hj;exact absurd rfl xf
  .obtain⟨rfl,_⟩:=hget i o ho;exact Nat.one_pos
  .show(zr ((0,⟨.obuf ctr.et,(0:Nat)⟩)::(ctr.args.length+1,⟨.lit,u⟩)::zb1 ctr.args ys 1) s).bound<=1;rw[zal,zal];split
   .exact zu _
   .split
    .exact zk _
    .rw[zbI _ _ _ _ hd];exact zk _
  .obtain⟨rfl,rfl⟩:=hget i o ho;exact λ_ e=>by cases e
 have hw:=h w O b u (by rw[<-x0];exact hX) (hK.gu w u) xs ys ps hu hp;rw[<-x0]at hw;have hw:=hw _ _ _ x6;rw[show X.ρ=none by rw[x0]]at hw;refine wp_mono (wpIn_wide.1 hw) λe a' w'⟨Y',U',h1,h2,s,i,h3,h4,h5⟩=>?_;have x9:a'.tmps.getD s undef=U' i:=by
  have:=h1.fr s;rw[h4]at this;exact this
 have x7:=h1.own _ _ h5;have xc:a'.defers=[]:=by rw[h1.df,x0]
 have xd:(results fn a'.tmps).run P w'=.ok (U' i) w':=by
  rw[zeq];have hm:(fn.results.mapM (resM a'.tmps)).run P w'=.ok [a'.tmps.getD s undef].toArray w':=by
   rw[Array.mapM_eq_mapM_toList,h3];simp[resM]
  rw[zJ,hm,x9];simp
 have x4:w.grownBy w' (zai b)/\(∀g,zai (U' i)=some g->zai b=some g\/w.heap.size<=g)/\∀(O2:Nat->Prop)(U:Nat->zi),(∀g,O2 g->(O g\/zai u=some g)\/zai (U' i)=some g)->yZ w' O2 U 0 (U' i) (.buf ctr.te ctr.et (ctr.out xs ys ps)):=by
  refine⟨⟨h1.bel.os,h1.bel.tape,h1.bel.output,h1.bel.size,λk hk hr=>h1.bel.block k hk λxh=>hr ((x1 k).1 xh).symm⟩,λg hg=>?_,λO2 U xe=>zlg (x7.keep ⟨zu _,λ_ _ _=>rfl,λg _ hg=>?_⟩ λ_ _=>rfl)⟩
  .rcases h1.new _ _ g h5 hg with h6|h6
   .exact .inr h6
   .exact .inl ((x1 g).1 h6)
  .rcases xe g hg with h6|h6
   .rw[x0];exact .inl h6
   .exact .inr ⟨i,_,h5,h6⟩
 rcases h2 with rfl|rfl
 .exact⟨xc,_,xd,U' i,rfl,x4⟩
 .exact⟨xc,_,xd,U' i,rfl,x4⟩
end
section
variable {P:zA}{w0:zj}{X:Ownr}{n:Nat}{Y:AS}{Q:Exit->AS->Prop}{ops:Array Oper}
theorem StepA.turn(hX:X.Ok w0){o:Oper}{f:yR}{c:TCtr}(hc:TCtrOk P X.G f c){args:Array zK}{ts:Array zy}{a0 az:zK}{zas:List zK}(ho:o.op=.call ⟨.value (.func f),args,ts⟩)(x4:args.toList=a0::(zas++[az]))(xg:o.guard=none)
  {F:yF}{E:Owns}{nx:Nat} (xn:frzs Y zas=⟨F,E,nx⟩) {t0 tz:Ty}{i j:Nat} (xm:evO F a0=⟨.obuf t0,i⟩) {xs:List c.et.T} (x0:zq E i=some (.buf c.te c.et xs)) (xh:evO F az=⟨.obuf tz,j⟩) {ps:List c.lt.T} (x3:zq E j=some (.buf c.le c.lt ps)) (xf:i≠j)
  (hd:zbf c.args=true) {q:List Prop}{ys:Args c.args} (xi:zgi E false (zas.map (evO F)) c.args=some (q,ys)) (hq:allP q) (xb:allP (c.pre xs ys ps)) {d:Nat} (x9:o.dst=some d) (xj:zO d n=true)
  {N:AS->Prop} (h:N ⟨(d,⟨.obuf c.et,i⟩)::jU i F,(i,some (.buf c.te c.et (c.out xs ys ps)))::Owns.kill i E,nx⟩):kK P w0 X n ops o Y N Q:=by
 refine uQ xg λU a w hs=>?_;have h1:=hs.frzs hX zas;rw[xn]at h1;obtain⟨xq,x2⟩:=hc;have xp:a.eval a0=U i:=by
  have:=h1.ops a0;rw[show evO (AS.mk F E nx).F a0=_ from xm]at this;exact this
 have x8:a.eval az=U j:=by
  have:=h1.ops az;rw[show evO (AS.mk F E nx).F az=_ from xh]at this;exact this
 obtain⟨O,hO⟩:∃O:Nat->Prop,O=λk=>OSet X E U k/\zai (U i)≠some k/\zai (U j)≠some k:=⟨_,rfl⟩;have x1:(λg=>(O g\/zai (U j)=some g)\/zai (U i)=some g)=OSet X E U:=by
  funext k
  apply propext;rw[hO];constructor
  .rintro ((hk|hk)|hk)
   .exact hk.1
   .exact .inr ⟨j,_,x3,hk⟩
   .exact .inr ⟨i,_,x0,hk⟩
  .intro hk;by_cases e:zai (U i)=some k
   .exact .inr e
   .by_cases e':zai (U j)=some k
    .exact .inl (.inr e')
    .exact .inl (.inl ⟨hk,e,e'⟩)
 have hvs:RepVs w (OSet X E U) U (zas.map (evO F)) (zas.map a.eval):=by
  refine⟨by simp,λi v hv=>?_⟩;rw[yB]at hv;obtain⟨z,hz,rfl⟩:=yC.1 hv;exact⟨a.eval z,by rw[yB,hz];rfl,h1.ops z⟩
 have ha:=zek (B:=0) h1.own hd xi hq hvs.2 hvs.1;have ha:RepA w (OSet X E U) c.args ys (zas.map a.eval):=by
  have e:(λk=>false=false/\OSet X E U k)=OSet X E U:=by funext k;simp
  rwa[e]at ha
 have xk:=x2 w O (U i) (U j) xs ys ps (zas.map a.eval) (λk hk=>by rw[hO]at hk;exact⟨h1.hO hX k hk.1,hk.2.1⟩) (λg hg=>h1.inj i j _ _ x0 x3 xf g hg) (by rw[x1];exact zlg (h1.own _ _ x0)) (by rw[x1];exact zlg (h1.own _ _ x3)) (by rw[x1];exact ha) xb (hX.2.2 w h1.bel);have xc:(execOp a.eval o).run P w=.ok (.enter f (U i::(zas.map a.eval++[U j])).toArray) w:=by
  have em:args.map a.eval++ #[]=(U i::(zas.map a.eval++[U j])).toArray:=by
   rw[<-zbS,x4,qN,xX,List.map_singleton,xp,x8];simp
  have hx:a.eval (.func f)=.func (.func f) #[] #[]:=rfl;rw[<-em];unfold execOp;simp[ho,resolve,invoke,jv,hx,xq]
 unfold Oper.wp;rw[xc];refine xk.mono λe w' hr=>?_;obtain⟨b',rfl,xo,x6,x7⟩:=hr;have xe:d<n:=by simpa using xj
 have h2:=h1.redo0 (o':=.buf c.te c.et (c.out xs ys ps)) x0 rfl xo x6 (x7 _ _ λg hg=>by
  rcases hg with hg|⟨m,om,hm,hbm⟩
  .have h3:=hX.1 g hg;refine .inl (.inl ?_);rw[hO];refine⟨.inl hg,λe=>?_,λe=>?_⟩
   .rcases h1.new i _ g x0 e with h4|h4
    .omega
    .exact h3.2 h4
   .rcases h1.new j _ g x3 e with h4|h4
    .omega
    .exact h3.2 h4
  .rw[zag]at hm;by_cases x5:i=m
   .subst x5;simp at hbm;exact .inr hbm
   .rw[if_neg x5,Owns.get_kill]at hm;obtain⟨pm,xa,xr⟩:=yC.1 hm;simp[Ne.symm x5]at hbm;by_cases xd:j=m
    .subst xd;exact .inl (.inr hbm)
    .refine .inl (.inl ?_);rw[hO];exact⟨.inr ⟨m,pm,xa,hbm⟩,λe=>h1.inj i m _ _ x0 xa x5 g e hbm,λe=>h1.inj j m _ _ x3 xa xd g e hbm⟩)
 show ∃Y' U',Sim w0 X n Y' U' (a.put o.dst b') w'/\_;rw[x9];refine⟨_,_,h2.put (zY _ _) (v:=⟨.obuf c.et,i⟩) (u:=b') ?_ ?_ xe,h⟩
 .show b'=if i=i then b' else U i
  rw[if_pos rfl]
 .exact h1.lt i _ x0
theorem AL.turn(hX:X.Ok w0){o:Oper}{rest:List Oper}{f:yR}{c:TCtr}(hc:TCtrOk P X.G f c){args:Array zK}{ts:Array zy}{a0 az:zK}{zas:List zK}(ho:o.op=.call ⟨.value (.func f),args,ts⟩)(x0:args.toList=a0::(zas++[az]))(x5:o.guard=none)
  {F:yF}{E:Owns}{nx:Nat} (xb:frzs Y zas=⟨F,E,nx⟩) {t0 tz:Ty}{i j:Nat} (x9:evO F a0=⟨.obuf t0,i⟩) {xs:List c.et.T} (x3:zq E i=some (.buf c.te c.et xs)) (x6:evO F az=⟨.obuf tz,j⟩) {ps:List c.lt.T} (xa:zq E j=some (.buf c.le c.lt ps)) (x4:i≠j)
  (hd:zbf c.args=true) {q:List Prop}{ys:Args c.args} (x7:zgi E false (zas.map (evO F)) c.args=some (q,ys)) (hq:allP q) (x2:allP (c.pre xs ys ps)) {d:Nat} (x1:o.dst=some d) (x8:zO d n=true)
  (h:AL P w0 X n ops rest ⟨(d,⟨.obuf c.et,i⟩)::jU i F,(i,some (.buf c.te c.et (c.out xs ys ps)))::Owns.kill i E,nx⟩ Q):AL P w0 X n ops (o::rest) Y Q:=
 zri (λc e=>by rw[ho]at e;cases e) (StepA.turn hX hc ho x0 x5 xb x9 x3 x6 xa x4 hd x7 hq x2 x1 x8 h)
theorem zja(hX:X.Ok w0){G:zj->Prop}{u:zi}(hG:X.G=Gu G w0 u){O3:Nat->Prop}{xb:Nat->zi}{le:zy}{ps:List Int}(hu:yZ w0 O3 xb 0 u (.buf le (.int .i64) ps)){o1 o2:Oper}{rest:List Oper}{st te it:zy}{x i:zK}{d1 d2:Nat}
  (x7:o1.op=.indexAddr st x i) (xk:o1.guard=none) (xg:o1.dst=some d1) (xh:zO d1 n=true) (x8:o2.op=.load it (.tmp d1)) (xj:o2.guard=none) (x9:o2.dst=some d2) (xd:zO d2 n=true) (hs:P.underlying st=some (.slice te)) (xe:∀w,(Go.sizeOf te).run P w=.ok 1 w) (xc:∀w,(Go.isAgg it).run P w=.ok false w)
  {F:yF}{E:Owns}{nx:Nat} (hx:evO F x=⟨.lit,u⟩) {k:Int} (hi:evO F i=⟨.int .i64,k⟩) (h0:0<=k) (h1:k<((ps.length:Nat):Int)) (h:∀pv,AL P w0 X n ops rest ⟨(d2,⟨.int .i64,ps.getD k.toNat 0⟩)::(d1,⟨.lit,pv⟩)::F,E,nx⟩ Q):AL P w0 X n ops (o1::o2::rest) ⟨F,E,nx⟩ Q:=by
 obtain⟨cs,hL,⟨xm,x3⟩,_⟩:=hu;have xa:k.toNat<ps.length:=o_;rcases x3 with ⟨_,hz⟩|⟨g,cap,cur,rfl,_,hcur,hcap,_,hsize,htake⟩
 .have hz:ps.length=0:=hz;omega
 have x0:cur[k.toNat]? =some (.int .i64 (ps.getD k.toNat 0)):=by
  have h2:=zgC (t:=.int .i64) hL xa;have h3:(cs.drop (k.toNat*1)).take 1=[.int .i64 (ps.getD k.toNat 0)]:=h2;rw[Nat.mul_one]at h3;have h4:cs[k.toNat]? =some (.int .i64 (ps.getD k.toNat 0)):=by
   have:=congrArg (λl=>l[0]?) h3
   simpa [yM,List.getElem?_drop] using this
  rw[<-htake,yM]at h4;split at h4
  .simpa using h4
  .cases h4
 refine jg xk (λc e=>by rw[x7]at e;cases e) λU a w x5=>?_;have xf:=zaR x5 hx;have h2:=x5.ops i;rw[show evO (AS.mk F E nx).F i=_ from hi]at h2;have h3: [a.eval i]=[.int .i64 k]:=(RepD.scalar (t:=.int .i64) rfl).1 h2;have h3:=List.head_eq_of_cons_eq h3;refine zbX xg xh (v:=⟨.lit,.pointer (some ⟨g,k.toNat,none⟩)⟩) (zk _) (N:=λY'=>AL P w0 X n ops (o2::rest) Y' Q) ?_ x5 (u:=.pointer (some ⟨g,k.toNat,none⟩)) ?_ rfl
 rotate_left
 .unfold execOp;simp only[x7];refine za7 ?_;rw[xf,h3,zbL hs (xe w) h0 h1];simp[Addr.add];intro hk;omega
 refine jg xj (λc e=>by rw[x8]at e;cases e) λU a w x1=>?_;have xi:a.eval (.tmp d1)=.pointer (some ⟨g,k.toNat,none⟩):=zaR x1 (by show zr _ _=_;rw[zal,if_pos rfl]);have x6:=hX.2.2 w x1.bel;rw[hG]at x6;obtain⟨_,x4⟩:=x6.2 g rfl;have x2:w.cell? ⟨g,k.toNat,none⟩=some (.int .i64 (ps.getD k.toNat 0)):=by simp[qd,x4,hcur,x0]
 refine zbX x9 xd (v:=⟨.int .i64,ps.getD k.toNat 0⟩) (zk _) (N:=λY'=>AL P w0 X n ops rest Y' Q) (h _) x1 (u:=.int .i64 (ps.getD k.toNat 0)) ?_ ((RepD.scalar (t:=.int .i64) rfl).2 rfl);unfold execOp;simp only[x8];refine za7 ?_;rw[xi];simp only[Instr.loadAt,qa,zJ,zI,zD];unfold Go.loadVar;simp only[zJ,xc,zD];simp[load,Sem.run,x2]
end
set_option maxHeartbeats 400000 in
theorem zhP:yQ zf gmG 107 zfZ:=by
 refine zcm (K:=gmK) zar Tryz.func107 rfl rfl Tryz.call107 rfl (by decide) (by intro h;cases h) ?_;rintro w0 X hX _ hp;change AWP _ _ _ _ _ ⟨[],[],0⟩ _;apply zap;refine zaa (zaa ?_);refine zac hX zar rfl ?_ ?_
 .trivial
 refine zaa (zaa ?_);refine zac hX zar rfl ?_ ?_
 .trivial
 refine zak (Y':=⟨[(0,⟨.optr (.arr 19 shp),⟨0,.arr 19 shp,.here⟩⟩)],[(0,some (.box (.arr 19 shp) zbY))],1⟩) ⟨⟨by kernel_rfl,trivial⟩,⟨by kernel_rfl,trivial⟩,rfl,rfl⟩ ?_;exact zC ⟨.inr rfl,zm5 rfl trivial rfl rfl rfl⟩
def zpg:Ctr:={ args:=[ints],pre:=λx=>[zp x.1<=1000],res:=ints,own:=none,out:=λx=>x.1 }
theorem zo5:yQ zf gmG 132 zpg:=by
 refine zcm (K:=gmK) zar Tryz.func132 rfl rfl Tryz.call132 rfl (by decide) (by intro h;cases h) ?_;rintro w0 X hX ⟨(l:List Int),_⟩ hp;have hp:l.length<=1000:=hp;change AWP _ _ _ _ _ ⟨[(0,⟨ints,l⟩)],[],0⟩ _;(repeat(first|apply zap|apply zaf|apply zaH|apply zan|apply zaq|refine zac hX zar rfl trivial ?_|refine zac hX zar rfl id ?_|refine zac hX zar rfl ⟨id,id⟩ ?_));refine zkh (e:=3) hX zar [_] _ rfl rfl rfl rfl rfl (by kernel_rfl) rfl trivial rfl (λb hb=>?_);refine zae rfl (λh=>?_) (λh=>?_)
 .have h:b=true:=h;obtain rfl:=hb h;(repeat(first|apply zap|apply zaf|apply zaH|apply zan|apply zaq|refine zac hX zar rfl trivial ?_|refine zac hX zar rfl id ?_|refine zac hX zar rfl ⟨id,id⟩ ?_));exact zC ⟨.inr rfl,zm5 rfl trivial rfl rfl rfl⟩
 .refine zaa (zaa ?_);refine zac hX zar rfl ?_ ?_
  .show 0+l.length<=1000000000;omega
  refine vo hX 2 ?_;exact zC ⟨.inr rfl,zm5 rfl trivial rfl rfl rfl⟩
def opsK(k:Int):Int:=if k=8\/k=9\/k=10\/k=17 then 2 else if 11<=k/\k<=16 then 1 else 0
def putN(n:Nd)(ps:List Int):Nd:=if opsK n.1=2 then zd6 n (ps.getD n.2.2.1.toNat 0) (ps.getD n.2.2.2.1.toNat 0) else if opsK n.1=1 then setL n (ps.getD n.2.2.1.toNat 0) else n
def zwb:TCtr:={ te:=104,et:=nd,args:=[nd],le:=3,lt:=i64,pre:=λxs y ps=>[zp xs<=100000,zp (ndI y.1)<=1000,1<=ndK y.1,ndK y.1<=18,1<=opsK (ndK y.1)->0<=ndL y.1/\ndL y.1<((ps.length:Nat):Int),opsK (ndK y.1)=2->0<=ndR y.1/\ndR y.1<((ps.length:Nat):Int)],out:=λxs y ps=>xs++[putN y.1 ps] }
theorem zks{k:Int}(h0:1<=k)(h1:k<=18):(zx zbY k.toNat (zaD shp)).1=opsK k:=by
 rcases (show k=1\/k=2\/k=3\/k=4\/k=5\/k=6\/k=7\/k=8\/k=9\/k=10\/k=11\/k=12\/k=13\/k=14\/k=15\/k=16\/k=17\/k=18 by omega) with h|h|h|h|h|h|h|h|h|h|h|h|h|h|h|h|h|h<;>(subst h;decide)
def zvT:Kn:={ gmK with C:=[(107,zfZ),(132,zpg)] }
theorem zqx:KnOk zf gmG zvT:=zar.with (.cons zhP<|.cons zo5 .nil)
theorem zs3(w:zj):(Go.sizeOf 3).run zf w=.ok 1 w:=by kernel_rfl
theorem zs4(w:zj):(Go.isAgg 3).run zf w=.ok false w:=by kernel_rfl
theorem ztH:TCtrOk zf gmG 126 zwb:=by
 refine zkp zqx Tryz.func126 rfl rfl Tryz.call126 rfl (zb rfl) (λ_ _ _ _ _=>trivial) ?_;rintro w0 O b u hX hK (xs:List Nd) ⟨(m:Nd),_⟩ (ps:List Int) hu hp;obtain⟨hl,hi,hk0,hk1,hL,hR⟩:xs.length<=100000/\(ndI m).length<=1000/\1<=ndK m/\ndK m<=18/\(1<=opsK (ndK m)->0<=ndL m/\ndL m<((ps.length:Nat):Int))/\(opsK (ndK m)=2->0<=ndR m/\ndR m<((ps.length:Nat):Int)):=hp;obtain⟨(k:Int),(c:Int),(l:Int),(r:Int),(x:Int),(y:Int),(li:List Int),(nm:List UInt8),⟨⟩⟩:=m;have hi:li.length<=1000:=hi;have hk0:1<=k:=hk0;have hk1:k<=18:=hk1;have hL:1<=opsK k->0<=l/\l<((ps.length:Nat):Int):=hL;have hR:opsK k=2->0<=r/\r<((ps.length:Nat):Int):=hR;change AWP _ _ _ _ _ ⟨[(0,⟨.obuf nd,(0:Nat)⟩),(2,⟨.lit,u⟩),(1,⟨nd,(k,c,l,r,x,y,li,nm,())⟩)],[(0,some (.buf 104 nd xs))],1⟩ _;refine zaa (zaa ?_);refine zac hX hK rfl ?_ ?_
 .trivial
 refine zaa (zaa ?_);refine zac hX hK rfl ?_ ?_
 .exact hi
 refine zak (Y':=⟨[(0,⟨.obuf nd,(0:Nat)⟩),(2,⟨.lit,u⟩),(4,⟨.optr nd,⟨1,nd,.here⟩⟩)],[(0,some (.buf 104 nd xs)),(1,some (.box nd (k,c,l,r,x,y,li,nm,())))],2⟩) ⟨⟨rfl,rfl,rfl,trivial⟩,⟨rfl,rfl,trivial⟩,rfl,rfl⟩ ?_;have z0:0<=k:=by omega
 have z1:k<((19:Nat):Int):=by omega
 (repeat(first|apply zap|apply zaf|apply zaq|apply zan));refine zbF dM hX hK 5 (by kernel_rfl) rfl rfl ?_ ?_ ?_
 .repeat'(first|exact trivial|assumption|exact z0|exact z1|(refine⟨?_,?_⟩)|(intro _)|exact zb rfl|exact Int.natCast_nonneg _|(simp_all [allP];done))
 .trivial
 obtain⟨q,hq⟩:∃q,opsK k=q:=⟨_,rfl⟩;refine zak (Y':=⟨[(0,⟨.obuf nd,(0:Nat)⟩),(2,⟨.lit,u⟩),(4,⟨.optr nd,⟨1,nd,.here⟩⟩),(15,⟨i64,q⟩)],[(0,some (.buf 104 nd xs)),(1,some (.box nd (k,c,l,r,x,y,li,nm,())))],2⟩) ⟨⟨rfl,rfl,rfl,vI64 ((zks hk0 hk1).trans hq),trivial⟩,⟨rfl,rfl,trivial⟩,rfl,rfl⟩ ?_;rw[hq]at hL hR;have hN:putN (k,c,l,r,x,y,li,nm,()) ps=(k,c,if q=2\/q=1 then ps.getD l.toNat 0 else l,if q=2 then ps.getD r.toNat 0 else r,x,y,li,nm,()):=by
  unfold putN;rw[show(k,c,l,r,x,y,li,nm,()).1=k from rfl,hq];by_cases h2:q=2
  .rw[if_pos h2,if_pos (.inl h2),if_pos h2];rfl
  .rw[if_neg h2,if_neg h2];by_cases h1:q=1
   .rw[if_pos h1,if_pos (.inr h1)];rfl
   .rw[if_neg h1,if_neg (by omega)]
 have hcap:xs.length+1<=1000000000:=by omega
 refine za1 (Y':=⟨[(0,⟨.obuf nd,(0:Nat)⟩),(4,⟨.optr nd,⟨1,nd,.here⟩⟩)],[(0,some (.buf 104 nd xs)),(1,some (.box nd (putN (k,c,l,r,x,y,li,nm,()) ps)))],2⟩) ?_ ?_
 rotate_left
 .refine zaa (zaa ?_);refine zac hX hK rfl ?_ ?_
  .exact hcap
  exact zC ⟨.inr rfl,6,0,rfl,rfl,rfl⟩
 rw[hN];refine zaa (zaa ?_);refine zac hX hK rfl ?_ ?_
 .trivial
 refine zae rfl (λhb=>?_) (λhb=>?_)
 .have hb:(q==2)=true:=hb;have hb:q=2:=beq_iff_eq.1 hb;obtain⟨l0,l1⟩:=hL (by omega);obtain⟨r0,r1⟩:=hR hb;rw[if_pos (.inl hb),if_pos hb];(repeat(first|apply zap|apply zaf|apply zaq|apply zan));refine zaj ?_;refine AL.take 3 hX hK rfl trivial ?_;refine zja hX rfl hu rfl rfl rfl rfl rfl rfl rfl rfl (by kernel_rfl) zs3 zs4 rfl rfl r0 r1 λpv=>?_;refine AL.all hX hK rfl trivial ?_;refine zak (Y':=⟨[(0,⟨.obuf nd,(0:Nat)⟩),(2,⟨.lit,u⟩),(4,⟨.optr nd,⟨1,nd,.here⟩⟩)],[(0,some (.buf 104 nd xs)),(1,some (.box nd (k,c,l,ps.getD r.toNat 0,x,y,li,nm,())))],2⟩) ⟨⟨rfl,rfl,rfl,trivial⟩,⟨rfl,rfl,trivial⟩,rfl,rfl⟩ ?_;(repeat(first|apply zap|apply zaf|apply zaq|apply zan));refine zaj ?_;refine AL.take 3 hX hK rfl trivial ?_;refine zja hX rfl hu rfl rfl rfl rfl rfl rfl rfl rfl (by kernel_rfl) zs3 zs4 rfl rfl l0 l1 λpv=>?_;refine AL.all hX hK rfl trivial ?_;exact⟨⟨rfl,rfl,trivial⟩,⟨rfl,rfl,trivial⟩,rfl,rfl⟩
 have hb:(q==2)=false:=hb;have hb2:q≠2:=ne_of_beq_false hb;refine zaa (zaa ?_);refine zac hX hK rfl ?_ ?_
 .trivial
 refine zae rfl (λhb=>?_) (λhb=>?_)
 .have hb:(q==1)=true:=hb;have hb:q=1:=beq_iff_eq.1 hb;obtain⟨l0,l1⟩:=hL (by omega);rw[if_pos (.inr hb),if_neg hb2];(repeat(first|apply zap|apply zaf|apply zaq|apply zan));refine zaj ?_;refine AL.take 3 hX hK rfl trivial ?_;refine zja hX rfl hu rfl rfl rfl rfl rfl rfl rfl rfl (by kernel_rfl) zs3 zs4 rfl rfl l0 l1 λpv=>?_;refine AL.all hX hK rfl trivial ?_;exact⟨⟨rfl,rfl,trivial⟩,⟨rfl,rfl,trivial⟩,rfl,rfl⟩
 .have hb:(q==1)=false:=hb;have hb1:q≠1:=ne_of_beq_false hb;rw[if_neg (by omega),if_neg hb2];exact zaf ⟨⟨rfl,rfl,trivial⟩,⟨rfl,rfl,trivial⟩,rfl,rfl⟩
def guT:Tbl:=(198,.int .u64)::gmT
theorem zuR:TOk zf guT gmQ:=znl (by kernel_rfl) (by kernel_rfl)
def guK:Kn:={ T:=guT,Q:=gmQ,U0:=gmU,C:=[] }
theorem zmh:KnOk zf gmH guK:=⟨zuR,zjW,ue,zrF,ww⟩
def cMag:Ctr:={ args:=[i64],pre:=λx=>[0<=x.1],res:=.int .u64,own:=none,out:=λx=>zV 64 x.1 }
theorem zuA:yQ zf gmH 134 cMag:=by
 refine ctr2 zmh Tryz.func134 Tryz.call134 ?_;rintro w0 X hX ⟨(n:Int),_⟩ hp;have hn:0<=n:=hp;change AWP _ _ _ _ _ ⟨[(0,⟨i64,n⟩)],[],0⟩ _
 iterate 2 (refine zaa (zaa (zab zmh ?_)))
 refine zae rfl (λhb=>?_) (λhb=>?_)
 .have hb:decide (n<0)=true:=hb;have hb:=of_decide_eq_true hb;omega
 apply zaf;refine zaa (zaa (zab zmh ?_));refine zC ⟨.inr rfl,D1 ?_⟩;rfl
theorem bvI{a:Int}(h:0<=a):(⟨.int .u64,zV 64 a⟩:V)=⟨.int .u64,zW 64 a.toNat⟩:=by
 have:zV 64 a=zW 64 a.toNat:=by
  conv=>lhs;rw[<-km h]
  exact BitVec.ofInt_natCast ..
 rw[this]
theorem bvN{y:Nat}(h:y<=1000000000000000):(zW 64 y).toNat=y:=by
 rw[xA];exact Nat.mod_eq_of_lt o_
theorem bvR{x y:Nat}(hx:x<=1000000000000000)(hy:y<=1000000000000000):(⟨.int .u64,zW 64 x%zW 64 y⟩:V)=⟨.int .u64,zW 64 (x%y)⟩:=by
 have hm:x%y<=x:=Nat.mod_le ..;have:zW 64 x%zW 64 y=zW 64 (x%y):=BitVec.eq_of_toNat_eq (by rw[BitVec.toNat_umod,bvN hx,bvN hy,bvN o_]);rw[this]
def cGcd:Ctr:={ args:=[i64,i64],pre:=λx=>[1<=x.1,x.1<=1000000000000000,1<=x.2.1,x.2.1<=1000000000000000],res:=i64,own:=none,out:=λx=>((j9 x.2.1.toNat x.1.toNat:Nat):Int) }
def kGcd:Kn:={ guK with C:=[(134,cMag)] }
theorem zef:KnOk zf gmH kGcd:=zmh.with (.cons zuA .nil)
theorem zuS:yQ zf gmH 133 cGcd:=by
 refine ctr2 zef Tryz.func133 Tryz.call133 ?_;rintro w0 X hX ⟨(a:Int),(b:Int),_⟩ hp;obtain⟨ha,x3,hb,x2⟩:1<=a/\a<=1000000000000000/\1<=b/\b<=1000000000000000:=by
  simp only[cGcd,allP]at hp
  simpa using hp
 change AWP _ _ _ _ _ ⟨[(0,⟨i64,a⟩),(1,⟨i64,b⟩)],[],0⟩ _;apply zap;refine zaa (zaa (zab zef ?_));refine zaa (zaa ?_);refine zac hX zef rfl ?_ ?_
 .have h1:0<=a:=o_;have h2:0<=b:=o_
  repeat'(first|exact t_|exact h1|exact h2|(refine⟨?_,?_⟩)|(intro _))
 refine zaa (zaa ?_);refine yK (ι:=Nat×Nat) (λp=>⟨[(0,⟨i64,a⟩),(1,⟨i64,b⟩),(5,⟨.int .u64,zW 64 p.1⟩),(6,⟨.int .u64,zW 64 p.2⟩)],[],0⟩) (λp=>p.1<=1000000000000000/\p.2<=1000000000000000/\j9 p.2 p.1=j9 b.toNat a.toNat) (λp=>p.2) (a.toNat,b.toNat) ⟨by omega,by omega,rfl⟩ ⟨⟨rfl,rfl,bvI o_,bvI o_,t_⟩,t_,rfl,rfl⟩ ?_;rintro ⟨x,y⟩ ⟨hx,hy,hg⟩;have hx:x<=1000000000000000:=hx;have hy:y<=1000000000000000:=hy;have hg:j9 y x=j9 b.toNat a.toNat:=hg;refine zaa (zaa (zab zef ?_));refine zae rfl (λhb=>?_) (λhb=>?_)
 .have hc:((((zW 64 y).toNat:Nat):Int) != 0)=true:=hb;have x1:y≠0:=λe=>by subst e;exact absurd hc d_
  have x0:zW 64 y≠0:=λe=>x1 (by have:=congrArg BitVec.toNat e;rw[bvN hy]at this;exact this);(repeat(first|apply zap|apply zaf|apply zaq|apply zan));refine zco (Y':=⟨[(0,⟨i64,a⟩),(1,⟨i64,b⟩),(5,⟨.int .u64,zW 64 y⟩),(6,⟨.int .u64,zW 64 (x%y)⟩)],[],0⟩) dM 6 rfl (by kernel_rfl) ?_ ?_
  .repeat'(first|exact AllN.nil|refine AllN.cons ⟨_,rfl,?_⟩ ?_|refine yD hX zef rfl t_ ?_|refine yD hX zef rfl (by repeat'(first|exact t_|exact x0|(refine⟨?_,?_⟩)|(intro _))) ?_|(refine OrdA.last ?_;exact⟨rfl,⟨rfl,rfl,rfl,bvR hx hy,t_⟩,t_,rfl,rfl⟩))
  exact⟨(y,x%y),⟨hy,zL (Nat.mod_le ..) hx,by rw[<-Nat.gcd_rec];exact hg⟩,Nat.mod_lt _ o_,⟨rfl,rfl,rfl,rfl,t_⟩,t_,rfl,rfl⟩
 .have hc:((((zW 64 y).toNat:Nat):Int) != 0)=false:=hb;rw[bvN hy]at hc;have x0:y=0:=by
   have:=bne_eq_false_iff_eq.1 hc;omega
  subst x0;rw[Nat.gcd_zero_left]at hg;apply zan;refine zaa (zaa (zab zef ?_));refine zae rfl (λhd=>?_) (λhd=>?_)
  .have hd:decide ((((zW 64 x).toNat:Nat):Int)>9223372036854775807)=true:=hd;rw[bvN hx]at hd;have:=of_decide_eq_true hd;omega
  apply zaf;refine zaa (zaa ?_);refine zac hX zef rfl ?_ ?_
  .show inR .i64 (((zW 64 x).toNat:Nat):Int);rw[bvN hx];exact zah o_ o_
  refine zC ⟨.inr rfl,D1 ?_⟩;show(((zW 64 x).toNat:Nat):Int)=((j9 b.toNat a.toNat:Nat):Int);rw[bvN hx,hg]
theorem zoz{x y:Nat}(hx:1<=x):x/j9 y x*y=kD x y:=by
 have hg:j9 y x ∣ x:=Nat.gcd_dvd_right y x;have hp:0<j9 y x:=wQ _ o_;obtain⟨k,hk⟩:=hg;unfold kD;rw[Nat.gcd_comm x y];generalize j9 y x=g at *;subst hk;rw[wY _ hp,Nat.mul_assoc,wY _ hp]
def cLcm:Ctr:={ args:=[i64,i64],pre:=λx=>[1<=x.1,x.1<=1000,1<=x.2.1,x.2.1<=1000],res:=.tup i64 (.tup i64 .unit),own:=none,out:=λx=>(((kD x.1.toNat x.2.1.toNat:Nat):Int),(0:Int),()) }
def kLcm:Kn:={ gmK with C:=[(133,cGcd)] }
theorem zg4:KnOk zf gmH kLcm:=zd1.with (.cons zuS .nil)
theorem zuH:yQ zf gmH 131 cLcm:=by
 refine ctr2 zg4 Tryz.func131 Tryz.call131 ?_;rintro w0 X hX ⟨(a:Int),(b:Int),_⟩ hp;obtain⟨ha,x8,hb,x7⟩:1<=a/\a<=1000/\1<=b/\b<=1000:=by
  simp only[cLcm,allP]at hp
  simpa using hp
 change AWP _ _ _ _ _ ⟨[(0,⟨i64,a⟩),(1,⟨i64,b⟩)],[],0⟩ _
 iterate 2 (refine zaa (zaa (zab zg4 ?_)))
 have t1:(bif decide (a<1) then true else decide (b<1))=false:=by
  rw[decide_eq_false o_,decide_eq_false o_];rfl
 refine zae rfl (λhc=>?_) (λ_=>?_)
 .have hc:(bif decide (a<1) then true else decide (b<1))=true:=hc;rw[t1]at hc;cases hc
 apply zaf;have hg:0<j9 b.toNat a.toNat:=wQ _ o_;have hq:a.tdiv ((j9 b.toNat a.toNat:Nat):Int)=((a.toNat/j9 b.toNat a.toNat:Nat):Int):=by
  conv=>lhs;rw[<-km (by omega:0<=a)]
  exact Int.ofNat_tdiv ..
 have x2:a.toNat/j9 b.toNat a.toNat<=a.toNat:=Nat.div_le_self ..;have x0:a.toNat/j9 b.toNat a.toNat<=1000:=o_;have q1:((j9 b.toNat a.toNat:Nat):Int)≠0:=o_;have q2:inR .i64 (a.tdiv ((j9 b.toNat a.toNat:Nat):Int)):=by rw[hq];generalize a.toNat/j9 b.toNat a.toNat=z at x0;exact zah o_ o_
 have x1:a<=1000000000000000:=o_;have x3:b<=1000000000000000:=o_;refine zaa (zaa (zab zg4 ?_));refine zak (Y':=⟨[(0,⟨i64,a⟩),(1,⟨i64,b⟩),(6,⟨i64,((a.toNat/j9 b.toNat a.toNat:Nat):Int)⟩)],[],0⟩) ⟨⟨rfl,rfl,vI64 hq,t_⟩,t_,rfl,rfl⟩ ?_;have hd:(1099511627776:Int).tdiv b=((1099511627776/b.toNat:Nat):Int):=by
  conv=>lhs;rw[<-km (by omega:0<=b)]
  exact Int.ofNat_tdiv ..
 have x6:1099511627776/1000<=1099511627776/b.toNat:=Nat.div_le_div_left o_ o_;have x4:1099511627776/b.toNat<=1099511627776:=Nat.div_le_self ..;have q4:inR .i64 ((1099511627776:Int).tdiv b):=by rw[hd];exact zah o_ o_
 refine zaa (zaa (zab zg4 ?_));refine zae rfl (λhc=>?_) (λ_=>?_)
 .have hc:decide (((a.toNat/j9 b.toNat a.toNat:Nat):Int)>(1099511627776:Int).tdiv b)=true:=hc;have hc:=of_decide_eq_true hc;rw[hd]at hc;omega
 apply zaf;have hm:((a.toNat/j9 b.toNat a.toNat:Nat):Int)*b=((kD a.toNat b.toNat:Nat):Int):=by
  rw[<-zoz (x:=a.toNat) (y:=b.toNat) o_,Int.natCast_mul,km (by omega:0<=b)]
 have x5:kD a.toNat b.toNat<=1000000:=by
  rw[<-zoz (x:=a.toNat) (y:=b.toNat) o_];exact Nat.mul_le_mul (by omega:_<=1000) (by omega:b.toNat<=1000)
 have q5:inR .i64 (((a.toNat/j9 b.toNat a.toNat:Nat):Int)*b):=by rw[hm];exact zah o_ o_
 refine zaa (zaa (zab zg4 ?_));refine zC ⟨.inr rfl,D2 ?_⟩;show(((a.toNat/j9 b.toNat a.toNat:Nat):Int)*b,(0:Int),())=(((kD a.toNat b.toNat:Nat):Int),(0:Int),());rw[hm]
abbrev Lr:=Int×Int×Bool×Unit
def zqr(r:Lr):Bool:=decide (r.1<1)||decide (r.1>400)||decide (r.2.1<0)||decide (r.2.1>=r.1)
def perS(y:Nat):List Lr->Int×Bool
 | []=>((y:Int),true)
 |r::l=>if zqr r=true then(0,false) else if 400<kD y r.1.toNat then(0,false) else perS (kD y r.1.toNat) l
def cPer:Ctr:={ args:=[.slice lru],pre:=λ_=>[],res:=.tup i64 (.tup .bool .unit),own:=none,out:=λx=>((perS 1 x.1).1,(perS 1 x.1).2,()) }
def kPer:Kn:={ gmK with C:=[(131,cLcm)] }
theorem zcA:KnOk zf gmH kPer:=zd1.with (.cons zuH .nil)
def zLr:Lr:=(0,0,false,())
theorem znX:yQ zf gmH 124 cPer:=by
 refine ctr2 zcA Tryz.func124 Tryz.call124 ?_;rintro w0 X hX ⟨(l:List Lr),_⟩ hp;change AWP _ _ _ _ _ ⟨[(0,⟨.slice lru,l⟩)],[],0⟩ _;refine kC 0 rfl λhl=>?_;unfold maxLen at hl
 iterate 3 (refine zaa (zaa (zab zcA ?_)))
 refine zaa (zaa ?_);refine yK (ι:=Nat×Nat) (λp=>⟨[(0,⟨.slice lru,l⟩),(4,⟨i64,(p.2:Int)⟩),(9,⟨.slice lru,l⟩),(10,⟨i64,((l.length:Nat):Int)⟩),(11,⟨i64,(p.1:Int)⟩)],[],0⟩) (λp=>p.1<=l.length/\(1<=p.2/\p.2<=400)/\perS 1 l=perS p.2 (l.drop p.1)) (λp=>l.length-p.1) (0,1) ⟨zk _,⟨by decide,by decide⟩,rfl⟩ ⟨⟨rfl,rfl,rfl,rfl,rfl,t_⟩,t_,rfl,rfl⟩ ?_;rintro ⟨k,y⟩ ⟨hk,hy,hr⟩;have hk:k<=l.length:=hk;have hy:1<=y/\y<=400:=hy;have hr:perS 1 l=perS y (l.drop k):=hr;refine zaa (zaa (zab zcA ?_));apply zap;refine zaN rfl (λhb=>?_) (λhb=>?_)
 .have hb:(k:Int)<(l.length:Nat):=hb;have x0:k<l.length:=o_;have n0:(0:Int)<=(k:Int):=o_;have x2:l.getD (k:Int).toNat zLr=l[k]:=za4 x0;rw[xR x0,perS, <-x2]at hr;refine zaa (zaa (zab zcA ?_));generalize hG:l.getD (k:Int).toNat zLr=G at hr;obtain⟨(ev:Int),(rs:Int),(ye:Bool),⟨⟩⟩:=G;refine zak (Y':=⟨[(0,⟨.slice lru,l⟩),(4,⟨i64,(y:Int)⟩),(9,⟨.slice lru,l⟩),(10,⟨i64,((l.length:Nat):Int)⟩),(11,⟨i64,(k:Int)⟩),(6,⟨.optr lru,⟨0,lru,.here⟩⟩)],[(0,some (.box lru (ev,rs,ye,())))],1⟩) ⟨⟨rfl,rfl,rfl,rfl,rfl,rfl,t_⟩,⟨zaT hG,t_⟩,rfl,rfl⟩ ?_;refine zaa (zaa (zab zcA ?_));have x1:zqr (ev,rs,ye,())=(bif (bif (bif decide (ev<1) then true else decide (ev>400)) then true else decide (rs<0)) then true else decide (rs>=ev)):=by
   unfold zqr;rw[b_or,b_or,b_or]
  refine zae rfl (λhc=>?_) (λhc=>?_)
  .have hc:=x1.trans hc;(repeat refine zaa (zaa (zab zcA ?_)));refine zaa ?_;refine zC ⟨.inr rfl,D2 ?_⟩;show((0:Int),false,())=((perS 1 l).1,(perS 1 l).2,());rw[hr,if_pos hc]
  have hc:=x1.trans hc;have hn:=hc;unfold zqr at hn;simp only[jM,decide_eq_false_iff_not]at hn;obtain⟨⟨⟨n1,n2⟩,n3⟩,n4⟩:=hn;have n1:¬ev<1:=n1;have n2:¬ev>400:=n2;apply zaf;have l1:(1:Int)<=(y:Int):=o_;have l2:(y:Int)<=1000:=o_;have l3:1<=ev:=o_;have l4:ev<=1000:=o_;refine zaa (zaa (zab zcA ?_));refine zak (Y':=⟨[(0,⟨.slice lru,l⟩),(4,⟨i64,(y:Int)⟩),(9,⟨.slice lru,l⟩),(10,⟨i64,((l.length:Nat):Int)⟩),(11,⟨i64,(k:Int)⟩),(7,⟨i64,((kD y ev.toNat:Nat):Int)⟩),(8,⟨i64,0⟩)],[],1⟩) ⟨⟨rfl,rfl,rfl,rfl,rfl,rfl,rfl,t_⟩,t_,rfl,rfl⟩ ?_;refine zaa (zaa (zab zcA ?_));refine zaN rfl (λhd=>?_) (λhd=>?_)
  .have hd:((kD y ev.toNat:Nat):Int)>400:=hd;(repeat refine zaa (zaa (zab zcA ?_)));refine zaa ?_;refine zC ⟨.inr rfl,D2 ?_⟩;show((0:Int),false,())=((perS 1 l).1,(perS 1 l).2,());rw[hr,if_neg (by rw[hc];decide),if_pos (by show 400<kD y ev.toNat;omega)]
  .have hd:¬(((kD y ev.toNat:Nat):Int)>400):=hd;have x3:0<kD y ev.toNat:=Nat.lcm_pos o_ o_;apply zaf;refine zaa (zaa (zab zcA ?_));refine zaa (zaa ?_);refine zac hX zcA rfl ?_ ?_
   .exact zaP o_
   refine⟨(k+1,kD y ev.toNat),⟨x0,⟨x3,by show kD y ev.toNat<=400;omega⟩,?_⟩,by show l.length-(k+1)<l.length-k;omega,⟨rfl,rfl,rfl,rfl,zce _,t_⟩,t_,rfl,rfl⟩;rw[hr,if_neg (by rw[hc];decide),if_neg (by show ¬400<kD y ev.toNat;omega)]
 .
  have:k=l.length:=o_;subst this;rw[List.drop_length,perS]at hr;(repeat refine zaa (zaa (zab zcA ?_)));refine zaa ?_;refine zC ⟨.inr rfl,D2 ?_⟩;show((y:Int),true,())=((perS 1 l).1,(perS 1 l).2,());rw[hr]
section
variable {s:List UInt8}
theorem Tr.size_pos:∀t:Tr,1<=t.size
 |.leaf _=>zu _
 |.un _ a=>Nat.le_add_left _ _
 |.bin _ a b=>Nat.le_add_left _ _
end
set_option maxRecDepth 10000
section
variable {s:List UInt8}
def Ris(lo hi:Int)(z:Bool):Int->List Int->Prop
 |_,[]=>True
 |last,x::r=>last<x/\lo<=x/\x<=hi/\(z=true\/x≠0)/\Ris lo hi z x r
end
def zdk(k:Int):Shp:=zbY.getD k.toNat (0,false,(0,0,()),())
def zeI(n:Nd):Bool:=bif (zdk (ndK n)).2.1 then inB (ndC n) 0 2 else ndC n==0
def zfH(w:List UInt8):Bool:=decide (w≠ [])&&decide (w.length<=32)&&(w.head?.all isLt&&w.all isPt)
def zhy(n:Nd):Bool:=bif ndK n==18 then zfH (ndS n) else decide (ndS n=[])
def zcl(n:Nd):Bool:=inB (ndK n) 1 18&&decide ((ndI n).length<=64)&&(zeI n&&(zhy n&&(zbT (ndI n) (zdk (ndK n)).2.2.1&&zcx n)))
def TrOk:Tr->Prop
 |.leaf n=>zcl n=true/\¬(8<=ndK n/\ndK n<=17)/\ndR n=0/\(ndK n≠7->ndL n=0)
 |.un n a=>zcl n=true/\(11<=ndK n/\ndK n<=16)/\(ndL n=0/\ndR n=0)/\TrOk a
 |.bin n a b=>zcl n=true/\((8<=ndK n/\ndK n<=10)\/ndK n=17)/\(ndL n=0/\ndR n=0)/\TrOk a/\TrOk b
theorem zb2{n lo hi:Int}:inB n lo hi=true↔lo<=n/\n<=hi:=by
 unfold inB;rw[zh,decide_eq_true_iff,decide_eq_true_iff]
theorem zcc{n:Nd}(h:zcl n=true):(1<=ndK n/\ndK n<=18)/\(ndI n).length<=64/\zeI n=true/\zhy n=true/\zbT (ndI n) (zdk (ndK n)).2.2.1=true/\zcx n=true:=by
 unfold zcl at h;simp only[zh,zb2,decide_eq_true_iff]at h;exact⟨h.1.1,h.1.2,h.2.1,h.2.2.1,h.2.2.2.1,h.2.2.2.2⟩
theorem zkI(c:UInt8):isLt c=((decide (97<=(c.toNat:Int))&&decide ((c.toNat:Int)<=122))||(decide (65<=(c.toNat:Int))&&decide ((c.toNat:Int)<=90))):=by
 have h:∀n:Fin 256,(isLt (zM n.val)==((decide (97<=((zM n.val).toNat:Int))&&decide (((zM n.val).toNat:Int)<=122))||(decide (65<=((zM n.val).toNat:Int))&&decide (((zM n.val).toNat:Int)<=90))))=true:=by decide+kernel
 have:=h ⟨c.toNat,c.toNat_lt⟩;rw[UInt8.ofNat_toNat]at this;exact beq_iff_eq.1 this
theorem zng(s:ByteArray)(pos:Nat)(h:pos<s.size):1<=(gH s pos).2:=by
 by_cases ha:(s[pos]'h).toNat<128
 .rw[decode_ascii s pos h ha];exact zu _
 .exact(decode_high s pos h o_).2
def LtR(c:Int):Prop:=(97<=c/\c<=122)\/(65<=c/\c<=90)
def DgR(c:Int):Prop:=(48<=c/\c<=57)\/c=45
theorem zob{l:List UInt8}{pos c wd:Nat}(hp:pos<l.length)(x0:(l[pos].toNat<128/\(c,wd)=(l[pos].toNat,1))\/(128<=l[pos].toNat/\128<=c))(x3:0<pos->l.head?.all isLt=true)(x1:(l.take pos).all isPt=true)
  (h:LtR c\/(pos≠0/\DgR c)):wd=1/\l.head?.all isLt=true/\(l.take (pos+1)).all isPt=true:=by
 unfold LtR DgR at h;rcases x0 with ⟨h1,e⟩|⟨h1,e⟩
 .have e1:=congrArg (λx=>x.1) e;have e2:=congrArg (λx=>x.2) e;have x2:isPt l[pos]=true:=by
   unfold isPt;rw[zkI];rcases h with h|⟨_,h|h⟩
   .have:((decide (97<=(l[pos].toNat:Int))&&decide ((l[pos].toNat:Int)<=122))||(decide (65<=(l[pos].toNat:Int))&&decide ((l[pos].toNat:Int)<=90)))=true:=by
     simp only[xO,zh,decide_eq_true_iff];omega
    rw[this];rfl
   .have:isDg l[pos]=true:=by
     unfold isDg;rw[zh,decide_eq_true_iff,decide_eq_true_iff,vg,vg];exact⟨by show 48<=_;omega,by show _<=57;omega⟩
    rw[this,vF];rfl
   .have:l[pos]=45:=UInt8.toNat_inj.1 (by show _=45;omega);rw[this];rfl
  refine⟨e2,?_,?_⟩
  .by_cases h0:pos=0
   .subst h0;have hl:isLt l[0]=true:=by
     rw[zkI];simp only[xO,zh,decide_eq_true_iff];omega
    cases l with
    |nil=>rfl
    |cons a q=>exact hl
   .exact x3 o_
  .rw[zN hp,List.all_append,x1,vl,x2];rfl
 .omega
theorem zqc{l:List UInt8}{pos c wd:Nat}(hp:pos<l.length)(x0:(l[pos].toNat<128/\(c,wd)=(l[pos].toNat,1))\/(128<=l[pos].toNat/\128<=c))(h:¬(LtR c\/(pos≠0/\DgR c))):zfH l=false:=by
 unfold LtR DgR at h;have x1:isLt l[pos]=false:=by
  rw[zkI];simp only[jM,uK,decide_eq_false_iff_not];rcases x0 with ⟨h1,e⟩|⟨h1,e⟩
  .have e1:c=l[pos].toNat:=congrArg (λx=>x.1) e;omega
  .omega
 unfold zfH;by_cases h0:pos=0
 .subst h0;cases l with
  |nil=>exact absurd hp (yS _)
  |cons a q=>
   have x1:isLt a=false:=x1;show(_&&_&&(isLt a&&_))=false;rw[x1,wx,vO]
 .have x2:isPt l[pos]=false:=by
   unfold isPt;have hd:isDg l[pos]=false:=by
    unfold isDg;rw[uK,decide_eq_false_iff_not,decide_eq_false_iff_not,vg,vg];show ¬48<=_\/¬_<=57;rcases x0 with ⟨h1,e⟩|⟨h1,e⟩
    .have e1:c=l[pos].toNat:=congrArg (λx=>x.1) e;omega
    .omega
   have x3:(l[pos]==45)=false:=by
    rw[beq_eq_false_iff_ne];intro e2;have e3:l[pos].toNat=45:=by rw[e2];rfl
    rcases x0 with ⟨h1,e⟩|⟨h1,e⟩
    .have e1:c=l[pos].toNat:=congrArg (λx=>x.1) e;omega
    .omega
   rw[x1,hd,x3];rfl
  have:l.all isPt=false:=by
   rw[List.all_eq_false];exact⟨l[pos],qc hp,by rw[x2];decide⟩
  rw[this,vO,vO]
set_option maxHeartbeats 2000000 in
theorem zkE(l:List UInt8)(w:zj):Calls zf 119 #[.string ⟨l.toArray⟩] w λe w'=>e=.returned (.bool (zfH l))/\∃pos,w'=w.iter ⟨l.toArray⟩ pos:=by
 go_enter Tryz.func119,Tryz.ntmps119
 go_wp2
 go_loopw [] (λw'=>∃(pos:Nat),w'=w.iter ⟨l.toArray⟩ pos/\pos<=l.length/\(0<pos->l.head?.all isLt=true)/\(l.take pos).all isPt=true) (λw'=>l.length-w'.iterPos w.heap.size)
 case atStart=>exact⟨0,rfl,zk _,λh=>absurd h d_,rfl⟩
 case round=>
  obtain⟨pos,rfl,xb,xa,x3⟩:=hrel;have xf:(⟨l.toArray⟩:ByteArray).size=l.length:=by simp[vL]
  by_cases hp:pos<(⟨l.toArray⟩:ByteArray).size
  .have x5:∀ty,(Instr.next (.pointer (some ⟨w.heap.size,0,none⟩)) true ty).run zf (w.iter ⟨l.toArray⟩ pos)=_:=λty=>run_next_any w _ pos ty hp;have x9:=zng _ pos hp;have x8:l[pos]'o_=(⟨l.toArray⟩:ByteArray)[pos]'hp:=rfl;have x2:((l[pos]'o_).toNat<128/\gH ⟨l.toArray⟩ pos=((l[pos]'o_).toNat,1))\/(128<=(l[pos]'o_).toNat/\128<=(gH ⟨l.toArray⟩ pos).1):=by
    by_cases ha:(l[pos]'o_).toNat<128
    .exact .inl ⟨ha,decode_ascii _ pos hp ha⟩
    .exact .inr ⟨by omega,(decode_high _ pos hp (by rw[<-x8];omega)).1⟩
   generalize gH ⟨l.toArray⟩ pos=dc at x5 x9 x2;obtain⟨c,wd⟩:=dc;simp only[]at x5 x9 x2;generalize xd:((c:Nat):Int)=ci at x5;have hlen:pos<l.length:=o_;have x1:=zob hlen x2 xa x3;have x4:=zqc hlen x2;rw[xd]at x1 x4;by_cases x0:LtR ci\/(pos≠0/\DgR ci)
   .obtain⟨e1,e2,e3⟩:=x1 x0;clear x1 x4 x2 x8;unfold LtR DgR at x0
    go_wp2
    all_goals (first
     |(exfalso
       clear x5;simp only[xJ,jD,decide_eq_false_iff_not,decide_eq_true_eq,beq_iff_eq,beq_eq_false_iff_ne]at *;omega)
     |(go_roundw
       case rel=>exact⟨pos+1,by simp[*],by omega,λ_=>e2,e3⟩
       case measure=>(simp[*];omega)))
   .have xe:=x4 x0;unfold LtR DgR at x0
    go_wp2
    all_goals (first
     |(exfalso
       clear x5;simp only[xJ,jD,decide_eq_false_iff_not,decide_eq_true_eq,beq_iff_eq,beq_eq_false_iff_ne]at *;omega)
     |(go_ret
       refine⟨?_,_,rfl⟩
       first|rfl|(rw[xe];rfl)|(simp[*];done)))
  .have x5:∀ty,(Instr.next (.pointer (some ⟨w.heap.size,0,none⟩)) true ty).run zf (w.iter ⟨l.toArray⟩ pos)=_:=λty=>run_next_end w _ pos ty hp;have x7:zfH l=(decide (l≠ [])&&decide (l.length<=32)):=by
    have xc:pos=l.length:=o_;subst xc;rw[List.take_length]at x3;have hh:l.head?.all isLt=true:=by
     cases l with
     |nil=>rfl
     |cons a q=>exact xa (Nat.zero_lt_succ _)
    unfold zfH;rw[hh,x3];simp
   go_wp2
   all_goals (
    rename_i x6
    go_ret
    refine⟨?_,pos,by simp[x6]⟩;rw[x7]
    first
    |(simp[x6];done)
    |(cases l with
      |nil=>exact absurd rfl x6
      |cons a q=>(simp;try omega)))
def zvi:Ctr:={ args:=[.str],pre:=λ_=>[],res:=.bool,own:=none,out:=λx=>zfH x.1 }
theorem zoc:yQ zf gmH 119 zvi:=by
 refine⟨Tryz.call119,λw O xs vs hO hr hp hG=>?_⟩;obtain⟨l,_⟩:=xs;obtain⟨v1,r1,rfl,e1,rfl⟩:=hr;obtain⟨e1,_⟩:=e1;cases e1;refine(zkE l w).mono ?_;rintro e w' ⟨rfl,pos,rfl⟩;exact⟨_,rfl,za8 w _,λU=>rfl⟩
set_option maxRecDepth 10000
theorem zn3(l:List UInt8)(c:UInt8):numv (l++[c])=10*numv l+(c.toNat-48):=by unfold numv;rw[kV];rfl
theorem zmm{d:Nat}(h:d<10):isDg (zM (48+d))=true/\(zM (48+d)).toNat=48+d:=by
 have e:(zM (48+d)).toNat=48+d:=by rw[UInt8.toNat_ofNat'];exact Nat.mod_eq_of_lt o_
 refine⟨?_,e⟩;unfold isDg;rw[zh,decide_eq_true_iff,decide_eq_true_iff,vg,vg,e];exact⟨by show 48<=_;omega,by show _<=57;omega⟩
theorem zoZ(u:Nat):(∀c∈qH u,isDg c=true)/\numv (qH u)=u/\(1<=u->(qH u).head? ≠some 48)/\qH u≠ []:=by
 induction u using Nat.strongRecOn with
 |_ u ih=>
  rw[qH];by_cases hu:u<10
  .rw[dif_pos hu];obtain⟨h1,h2⟩:=zmm hu;refine⟨λc hc=>by rw[zQ.1 hc];exact h1,?_,λh0 e=>?_,by simp⟩
   .show 10*0+((zM (48+u)).toNat-48)=u;rw[h2];omega
   .
    have:=congrArg UInt8.toNat (yP e);rw[h2]at this;have:48+u=48:=this;omega
  .rw[dif_neg hu];obtain⟨i1,i2,i3,i4⟩:=ih (u/10) o_;obtain⟨h1,h2⟩:=zmm (d:=u%10) o_;refine⟨λc hc=>?_,?_,λ_ e=>?_,by simp⟩
   .rcases yJ.1 hc with hc|hc
    .exact i1 c hc
    .rw[zQ.1 hc];exact h1
   .rw[zn3,i2,h2];omega
   .refine i3 o_ ?_;cases hd:qH (u/10) with
    |nil=>exact absurd hd i4
    |cons c q=>rw[hd]at e;exact e
def opsN(n:Nd):Int:=(zdk (ndK n)).1
def zeD(n:Nd)(i:Int):Bool:=
 (bif decide (0<opsN n) then inB (ndL n) 0 (i-1) else(ndL n==0)||(ndK n==7))&&(bif decide (1<opsN n) then inB (ndR n) 0 (i-1) else ndR n==0)
def bump(u:List Int)(j:Int):List Int:=u.set j.toNat (u.getD j.toNat 0+1)
def zbE(u:List Int)(n:Nd):List Int:=
 bif decide (1<opsN n) then bump (bump u (ndL n)) (ndR n) else bif decide (0<opsN n) then bump u (ndL n) else u
def zdj(r:List Nd)(k:Nat):List Int:=(r.take k).foldl zbE (zg r.length 0)
def zbR(n:Nd)(i:Int):Bool:=zcl n&&zeD n i
def zdb(r:List Nd):Nat->Bool
 |0=>true
 |k+1=>zdb r k&&zbR (r.getD k zNd) (k:Int)
def wfS(r:List Nd):Bool:=decide (1<=r.length)&&decide (r.length<=64)&&zdb r r.length&& !((zdj r r.length).take (r.length-1)).any not1
def zdi(r:List Nd):Int:=if 64<r.length\/r.any bigN=true then 2 else if wfS r=true then 0 else 1
theorem zcj{r:List Nd}:∀{k:Nat},zdb r k=true↔∀j,j<k->zbR (r.getD j zNd) (j:Int)=true
 |0=>⟨λ_ j h=>by omega,λ_=>rfl⟩
 |k+1=>by
  unfold zdb;rw[zh,zcj (k:=k)];constructor
  .rintro ⟨h1,h2⟩ j hj;by_cases e:j=k
   .rw[e];exact h2
   .exact h1 j o_
  .exact λh=>⟨λj hj=>h j o_,h k o_⟩
theorem zh2(r:List Nd)(j:Nat):zdo r (j:Int)=r.getD j zNd:=rfl
theorem zry{n:Nd}(h:11<=ndK n/\ndK n<=16):opsN n=1:=by
 unfold opsN;rcases (show ndK n=11\/ndK n=12\/ndK n=13\/ndK n=14\/ndK n=15\/ndK n=16 by omega) with k|k|k|k|k|k<;>rw[k]<;>rfl
theorem zn0{n:Nd}(h:(8<=ndK n/\ndK n<=10)\/ndK n=17):opsN n=2:=by
 unfold opsN;rcases (show ndK n=8\/ndK n=9\/ndK n=10\/ndK n=17 by omega) with k|k|k|k<;>rw[k]<;>rfl
theorem zlR{n:Nd}(h1:1<=ndK n/\ndK n<=18)(h:¬(8<=ndK n/\ndK n<=17)):opsN n=0:=by
 unfold opsN;rcases (show ndK n=1\/ndK n=2\/ndK n=3\/ndK n=4\/ndK n=5\/ndK n=6\/ndK n=7\/ndK n=18 by omega) with k|k|k|k|k|k|k|k<;>rw[k]<;>rfl
theorem zur{n:Nd}{i:Int}(h:11<=ndK n/\ndK n<=16):zeD n i=true↔(0<=ndL n/\ndL n<=i-1)/\ndR n=0:=by
 unfold zeD;rw[zry h,decide_eq_true d_,decide_eq_false d_,cond_true,cond_false,zh,zb2,beq_iff_eq]
theorem zsI{n:Nd}{i:Int}(h:(8<=ndK n/\ndK n<=10)\/ndK n=17):zeD n i=true↔(0<=ndL n/\ndL n<=i-1)/\(0<=ndR n/\ndR n<=i-1):=by
 unfold zeD;rw[zn0 h,decide_eq_true d_,decide_eq_true d_,cond_true,cond_true,zh,zb2,zb2]
theorem zp8{n:Nd}{i:Int}(h1:1<=ndK n/\ndK n<=18)(h:¬(8<=ndK n/\ndK n<=17)):zeD n i=true↔(ndL n=0\/ndK n=7)/\ndR n=0:=by
 unfold zeD;rw[zlR h1 h,decide_eq_false d_,decide_eq_false d_,cond_false,cond_false,zh,xO,beq_iff_eq,beq_iff_eq,beq_iff_eq]
theorem zml{n:Nd}(h:8<=ndK n/\ndK n<=17)(l r:Int):zcl (zd6 n l r)=zcl n:=by
 have h7:zcx (zd6 n l r)=zcx n:=by
  unfold zcx;have hk:(zd6 n l r).1=n.1:=rfl;have h7:(n.1==7)=false:=beq_eq_false_iff_ne.2 λe=>by have:ndK n=7:=e;omega
  rw[hk,h7];rfl
 unfold zcl;rw[h7];rfl
theorem zgd{r:List Nd}(h:zdb r r.length=true){j:Nat}(hj:j<r.length):zcl (zdo r j)=true/\zeD (zdo r j) (j:Int)=true:=by
 have:=zcj.1 h j hj;unfold zbR at this;rw[zh]at this;exact this
theorem zmx(u:List Int)(j:Int):(bump u j).length=u.length:=List.length_set ..
theorem zmC(u:List Int)(n:Nd):(zbE u n).length=u.length:=by
 unfold zbE;cases decide (1<opsN n)<;>cases decide (0<opsN n)<;>simp[zmx]
theorem zgx(r:List Nd)(k:Nat):(zdj r k).length=r.length:=by
 unfold zdj;have:∀(l:List Nd)(u:List Int),(l.foldl zbE u).length=u.length:=by
  intro l
  induction l with
  |nil=>intro u;rfl
  |cons n l ih=>intro u;rw[List.foldl_cons,ih,zmC]
 rw[this,List.length_replicate]
theorem zhL{r:List Nd}{k:Nat}(hk:k<r.length):zdj r (k+1)=zbE (zdj r k) (zdo r k):=by
 unfold zdj;rw[zN hk,kV];show zbE _ r[k]=zbE _ (r.getD k zNd);rw[zH,zR hk];rfl
theorem zse(r:List Nd)(j:Nat):(zdj r 0).getD j 0=0:=by
 unfold zdj;rw[List.take_zero,List.foldl_nil,zH,List.getElem?_replicate];split<;>rfl
theorem zlx{r:List Nd}(h:wfS r=true):(1<=r.length/\r.length<=64)/\zdb r r.length=true/\∀j,j<r.length-1->(zdj r r.length).getD j 0=1:=by
 unfold wfS at h;simp only[zh,decide_eq_true_iff,xJ,List.any_eq_false]at h;obtain⟨⟨h1,h2⟩,h3⟩:=h;refine⟨h1,h2,λj hj=>?_⟩;have hl:=zgx r r.length;have x0:j<(zdj r r.length).length:=o_;have:=h3 ((zdj r r.length)[j]) (List.mem_take_iff_getElem.2 ⟨j,by omega,rfl⟩);rw[zH,zR x0];unfold not1 at this
 simpa using this
theorem zi0{u:List Int}{B:Int}(h:∀k:Nat,0<=u.getD k 0/\u.getD k 0<=B)(j:Int):∀k:Nat,0<=(bump u j).getD k 0/\(bump u j).getD k 0<=B+1:=λk=>by
 unfold bump;rw[zH,List.getElem?_set];have h1:=h k;have h2:=h j.toNat;rw[zH]at h1;split
 .split
  .show 0<=u.getD j.toNat 0+1/\u.getD j.toNat 0+1<=B+1;omega
  .show(0:Int)<=0/\(0:Int)<=B+1;omega
 .omega
theorem znh{u:List Int}{n:Nd}{B:Int}(h:∀k:Nat,0<=u.getD k 0/\u.getD k 0<=B)(k:Nat):0<=(zbE u n).getD k 0/\(zbE u n).getD k 0<=B+2:=by
 unfold zbE;cases decide (1<opsN n) with
 |true=>
  have:=zi0 (zi0 h (ndL n)) (ndR n) k;rw[cond_true];omega
 |false=>
  cases decide (0<opsN n) with
  |true=>
   have:=zi0 h (ndL n) k;rw[cond_false,cond_true];omega
  |false=>
   have:=h k;rw[cond_false,cond_false];omega
theorem zlB(r:List Nd):∀(i:Nat),i<=r.length->∀k:Nat,0<=(zdj r i).getD k 0/\(zdj r i).getD k 0<=2*(i:Int)
 |0,_,k=>by rw[zse];omega
 |i+1,hi,k=>by
  rw[zhL o_];have:=znh (n:=zdo r i) (zlB r i o_) k;omega
def zcH(u:List Int)(n:Nd):Nat->List Int
 |0=>u
 |1=>if 0<opsN n then bump u (ndL n) else u
 |_=>zbE u n
def opdJ(n:Nd)(i:Int):Nat->Bool
 |0=>true
 |1=>(bif decide (0<opsN n) then inB (ndL n) 0 (i-1) else(ndL n==0)||(ndK n==7))
 |_=>zeD n i
theorem zni{u:List Int}{n:Nd}{B:Int}(h:∀k:Nat,0<=u.getD k 0/\u.getD k 0<=B)(k:Nat):0<=(zcH u n 1).getD k 0/\(zcH u n 1).getD k 0<=B+1:=by
 show 0<=(if 0<opsN n then bump u (ndL n) else u).getD k 0/\(if 0<opsN n then bump u (ndL n) else u).getD k 0<=B+1;by_cases e:0<opsN n
 .rw[if_pos e];exact zi0 h _ k
 .rw[if_neg e];have:=h k;omega
theorem zmD(u:List Int)(n:Nd):(zcH u n 1).length=u.length:=by
 show(if 0<opsN n then bump u (ndL n) else u).length=u.length;by_cases e:0<opsN n
 .rw[if_pos e];exact zmx _ _
 .rw[if_neg e]
def cWf:Ctr:={ args:=[.slice nd],pre:=λ_=>[],res:=.bool,own:=none,out:=λx=>wfS x.1 }
def kWf:Kn:={ gmK with C:=[(118,zbl),(107,zfZ),(119,zvi),(120,zpc),(121,zvg),(122,zvt)] }
theorem za6:KnOk zf gmH kWf:=zd1.with (.cons zjf<|.cons zjn<|.cons zoc<|.cons zoq<|.cons zsK<|.cons ztD .nil)
theorem zly{r:List Nd}{i:Nat}(hi:i<r.length)(h:zbR (zdo r i) (i:Int)=false):wfS r=false:=by
 have:zdb r r.length=false:=by
  rw[uF];intro e;have:=zcj.1 e i hi;rw[<-zh2,h]at this;cases this
 unfold wfS;rw[this,vO,wx]
theorem zjh{r:List Nd}{i:Nat}(hi:i<r.length)(h:zcl (zdo r i)=false):wfS r=false:=zly hi (by unfold zbR;rw[h];rfl)
theorem zjg{r:List Nd}{i:Nat}(hi:i<r.length)(h:zeD (zdo r i) (i:Int)=false):wfS r=false:=zly hi (by unfold zbR;rw[h,vO])
theorem zsp{k:Int}(h:1<=k/\k<=18):(zdk k).1=0\/(zdk k).1=1\/(zdk k).1=2:=by
 rcases (show k=1\/k=2\/k=3\/k=4\/k=5\/k=6\/k=7\/k=8\/k=9\/k=10\/k=11\/k=12\/k=13\/k=14\/k=15\/k=16\/k=17\/k=18 by omega) with rfl|rfl|rfl|rfl|rfl|rfl|rfl|rfl|rfl|rfl|rfl|rfl|rfl|rfl|rfl|rfl|rfl|rfl<;>decide
theorem zlz{u:List Int}{n:Nd}(h:opsN n=0\/opsN n=1\/opsN n=2):(if 1<opsN n then bump (zcH u n 1) (ndR n) else zcH u n 1)=zcH u n 2:=by
 show _=zbE u n;unfold zbE zcH;rcases h with h|h|h<;>rw[h]<;>rfl
theorem bufI{te:zy}{x y:List Int}(h:x=y):some (OObj.buf te i64 x)=some (OObj.buf te i64 y):=by rw[h]
set_option maxHeartbeats 1000000 in
theorem ztV:yQ zf gmH 105 cWf:=by
 refine ctr2 za6 Tryz.func105 Tryz.call105 ?_;rintro w0 X hX ⟨(r:List Nd),_⟩ hp;change AWP _ _ _ _ _ ⟨[(0,⟨.slice nd,r⟩)],[],0⟩ _;refine kC 0 rfl λhl=>?_;unfold maxLen at hl
 iterate 2 (refine zaa (zaa (zab za6 ?_)))
 refine zae rfl (λhb=>?_) (λhb=>?_)
 .have hb:(bif decide (((r.length:Nat):Int)<1) then true else decide (((r.length:Nat):Int)>64))=true:=hb;rw[b_or,xO,decide_eq_true_iff,decide_eq_true_iff]at hb;(repeat refine zaa (zaa (zab za6 ?_)));refine zaa ?_;refine zC ⟨.inr rfl,D1 ?_⟩;show false=wfS r;unfold wfS;rcases hb with hb|hb
  .rw[decide_eq_false (by omega:¬1<=r.length)];rfl
  .rw[decide_eq_false (by omega:¬r.length<=64),vO,wx,wx]
 rw[b_or,jM,decide_eq_false_iff_not,decide_eq_false_iff_not]at hb;obtain⟨xi,xg⟩:=hb;apply zaf;refine zaa (zaa (zab za6 ?_));have m1:((r.length:Nat):Int)<=1000000000:=o_
 iterate 2 (refine zaa (zaa (zab za6 ?_)))
 refine zaa (zaa ?_);refine yK (ι:=Nat) (λi=>⟨[(0,⟨.slice nd,r⟩),(3,⟨.optr (.arr 19 shp),⟨0,.arr 19 shp,.here⟩⟩),(4,⟨.obuf i64,(1:Nat)⟩),(24,⟨.slice nd,r⟩),(25,⟨i64,((r.length:Nat):Int)⟩),(26,⟨i64,(i:Int)⟩)],[(0,some (.box (.arr 19 shp) zbY)),(1,some (.buf 3 i64 (zdj r i)))],2⟩) (λi=>i<=r.length/\zdb r i=true) (λi=>r.length-i) 0 ⟨zk _,rfl⟩ ⟨⟨rfl,rfl,rfl,rfl,rfl,rfl,t_⟩,⟨rfl,bufI (by show zg (((r.length:Nat):Int)).toNat (0:Int)=_;rw[zS];rfl),t_⟩,rfl,rfl⟩ ?_;rintro i ⟨hi,hn⟩;refine zaa (zaa (zab za6 ?_));apply zap;refine zaN rfl (λhb=>?_) (λhb=>?_)
 .
  have x3:i<r.length:=o_;have n0:(0:Int)<=(i:Int):=o_;have x8:=zlB r i hi;have x5:=zgx r i;have xb:=zhL x3;have xc:zdb r (i+1)=(zdb r i&&zbR (zdo r i) (i:Int)):=rfl;have xd:=zjh x3;have x4:=zjg x3;rw[hn,Bool.true_and]at xc;refine zaa (zaa (zab za6 ?_));refine zak (Y':=⟨[(0,⟨.slice nd,r⟩),(3,⟨.optr (.arr 19 shp),⟨0,.arr 19 shp,.here⟩⟩),(4,⟨.obuf i64,(1:Nat)⟩),(24,⟨.slice nd,r⟩),(25,⟨i64,((r.length:Nat):Int)⟩),(26,⟨i64,(i:Int)⟩),(5,⟨i64,(i:Int)⟩),(6,⟨.optr nd,⟨2,nd,.here⟩⟩)],[(0,some (.box (.arr 19 shp) zbY)),(1,some (.buf 3 i64 (zdj r i))),(2,some (.box nd (zdo r i)))],3⟩) ⟨⟨rfl,rfl,rfl,rfl,rfl,rfl,rfl,rfl,t_⟩,⟨rfl,rfl,rfl,t_⟩,rfl,rfl⟩ ?_;generalize xh:zdo r i=n at *;generalize zdj r i=u at *;refine zaa (zaa (zab za6 ?_));have x2:(bif !inB (ndK n) 1 18 then true else decide (((ndI n).length:Int)>64))= !(inB (ndK n) 1 18&&decide ((ndI n).length<=64)):=by
   have:decide (((ndI n).length:Int)>64)= !decide ((ndI n).length<=64):=by
    rw[<-decide_not,decide_eq_decide];omega
   rw[this];cases inB (ndK n) 1 18<;>cases decide ((ndI n).length<=64)<;>rfl
  refine zae rfl (λhc=>?_) (λhc=>?_)
  .have hc:=x2.symm.trans hc;rw[xJ]at hc;(repeat refine zaa (zaa (zab za6 ?_)));refine zaa ?_;refine zC ⟨.inr rfl,D1 ?_⟩;show false=wfS r;rw[xd (by unfold zcl;rw[hc];rfl)]
  have hc:=x2.symm.trans hc;rw[jD,zh,zb2,decide_eq_true_iff]at hc;obtain⟨⟨k1,k2⟩,xa⟩:=hc;apply zaf;have t0:(0:Int)<=ndK n:=o_;have t1:ndK n<((19:Nat):Int):=o_;have t2:(ndK n).toNat<19:=o_;refine zaa (zaa (zab za6 ?_));have x0:=zsp ⟨k1,k2⟩;refine zaa (zaa (zab za6 ?_));(repeat(first|apply zap|apply zaf|apply zaq|apply zan));refine vo hX 49 ?_;refine yK (ι:=Nat) (λj=>⟨[(0,⟨.slice nd,r⟩),(3,⟨.optr (.arr 19 shp),⟨0,.arr 19 shp,.here⟩⟩),(4,⟨.obuf i64,(1:Nat)⟩),(24,⟨.slice nd,r⟩),(25,⟨i64,((r.length:Nat):Int)⟩),(26,⟨i64,(i:Int)⟩),(5,⟨i64,(i:Int)⟩),(6,⟨.optr nd,⟨2,nd,.here⟩⟩),(7,⟨.optr shp,⟨3,shp,.here⟩⟩),(49,⟨.slice i64,[ndL n,ndR n]⟩),(50,⟨i64,(2:Int)⟩),(51,⟨i64,(j:Int)⟩)],[(0,some (.box (.arr 19 shp) zbY)),(1,some (.buf 3 i64 (zcH u n j))),(2,some (.box nd n)),(3,some (.box shp (zdk (ndK n))))],4⟩) (λj=>j<=2/\opdJ n i j=true) (λj=>2-j) 0 ⟨by decide,rfl⟩ ⟨⟨rfl,rfl,rfl,rfl,rfl,rfl,rfl,rfl,rfl,rfl,rfl,rfl,t_⟩,⟨rfl,rfl,rfl,rfl,t_⟩,rfl,rfl⟩ ?_
  .rintro j ⟨hj,x7⟩;refine zaa (zaa (zab za6 ?_));apply zap;refine zaN rfl (λhb=>?_) (λhb=>?_)
   .have hb:(j:Int)<2:=hb;rcases (show j=0\/j=1 by omega) with rfl|rfl
    .have u0:(0:Int)<=((0:Nat):Int):=o_;have u1:((0:Nat):Int)<(([ndL n,ndR n].length:Nat):Int):=by show((0:Nat):Int)<((2:Nat):Int);omega
     refine zaa (zaa (zab za6 ?_));apply zaq;refine zaa (zaa (zab za6 ?_));refine zaN rfl (λhd=>?_) (λhd=>?_)
     .have hd:((0:Nat):Int)<opsN n:=hd;have i1:inR .i64 ((i:Int)-1):=zah o_ o_;refine zaa (zaa (zab za6 ?_));refine zae rfl (λhe=>?_) (λhe=>?_)
      .have he:(!inB (ndL n) 0 ((i:Int)-1))=true:=he;rw[xJ]at he;(repeat refine zaa (zaa (zab za6 ?_)));refine zaa ?_;refine zC ⟨.inr rfl,D1 ?_⟩;show false=wfS r;rw[x4 (by unfold zeD;rw[decide_eq_true (show 0<opsN n from hd),cond_true,he];rfl)]
      have he:(!inB (ndL n) 0 ((i:Int)-1))=false:=he;rw[jD,zb2]at he;obtain⟨p0,p1⟩:=he;have x6:∀k:Nat,0<=(zcH u n 0).getD k 0/\(zcH u n 0).getD k 0<=200:=λk=>by
       have:=x8 k;show 0<=u.getD k 0/\u.getD k 0<=200;omega
      have x1:(zcH u n 0).length=r.length:=by exact x5
      have xe:=x6 (ndL n).toNat;have p2:ndL n<(((zcH u n 0).length:Nat):Int):=by rw[x1];omega
      have p4:(ndL n).toNat<(zcH u n 0).length:=by rw[x1];omega
      have p3:inR .i64 ((zcH u n 0).getD (ndL n).toNat 0+1):=zah o_ o_;apply zaf
      iterate 2 (refine zaa (zaa (zab za6 ?_)))
      refine⟨1,⟨by omega,?_⟩,by decide,⟨rfl,rfl,rfl,rfl,rfl,rfl,rfl,rfl,rfl,rfl,rfl,rfl,t_⟩,⟨rfl,bufI ?_,rfl,rfl,t_⟩,rfl,rfl⟩
      .show(bif decide (0<opsN n) then inB (ndL n) 0 ((i:Int)-1) else _)=true;rw[decide_eq_true (show 0<opsN n from hd),cond_true,zb2];exact⟨p0,p1⟩
      .
       show _=if 0<opsN n then bump u (ndL n) else u
       rw[if_pos (show 0<opsN n from hd)];rfl
     .have hd:¬(((0:Nat):Int)<opsN n):=hd;refine zaa (zaa (zab za6 ?_));refine zae rfl (λhe=>?_) (λhe=>?_)
      .have he:(bif (ndL n != 0) then !(bif (((0:Nat):Int)==0) then(ndK n==7) else false) else false)=true:=he;(repeat refine zaa (zaa (zab za6 ?_)));refine zaa ?_;refine zC ⟨.inr rfl,D1 ?_⟩;show false=wfS r;refine(x4 ?_).symm;unfold zeD;rw[decide_eq_false (show ¬0<opsN n from hd),cond_false];revert he;unfold bne;cases (ndL n==0)<;>cases (ndK n==7)<;>intro he<;>first|rfl|cases he
      have he:(bif (ndL n != 0) then !(bif (((0:Nat):Int)==0) then(ndK n==7) else false) else false)=false:=he;apply zaf;refine zaa (zaa (zab za6 ?_));refine⟨1,⟨by omega,?_⟩,by decide,⟨rfl,rfl,rfl,rfl,rfl,rfl,rfl,rfl,rfl,rfl,rfl,rfl,t_⟩,⟨rfl,bufI ?_,rfl,rfl,t_⟩,rfl,rfl⟩
      .show(bif decide (0<opsN n) then _ else(ndL n==0)||(ndK n==7))=true;rw[decide_eq_false (show ¬0<opsN n from hd),cond_false];revert he;unfold bne;cases (ndL n==0)<;>cases (ndK n==7)<;>intro he<;>first|rfl|cases he
      .show zcH u n 0=zcH u n 1;show u=if 0<opsN n then bump u (ndL n) else u
       rw[if_neg (show ¬0<opsN n from hd)]
    .have u0:(0:Int)<=((1:Nat):Int):=o_;have u1:((1:Nat):Int)<(([ndL n,ndR n].length:Nat):Int):=by show((1:Nat):Int)<((2:Nat):Int);omega
     refine zaa (zaa (zab za6 ?_));apply zaq;refine zaa (zaa (zab za6 ?_));refine zaN rfl (λhd=>?_) (λhd=>?_)
     .have hd:((1:Nat):Int)<opsN n:=hd;have i1:inR .i64 ((i:Int)-1):=zah o_ o_;refine zaa (zaa (zab za6 ?_));refine zae rfl (λhe=>?_) (λhe=>?_)
      .have he:(!inB (ndR n) 0 ((i:Int)-1))=true:=he;rw[xJ]at he;(repeat refine zaa (zaa (zab za6 ?_)));refine zaa ?_;refine zC ⟨.inr rfl,D1 ?_⟩;show false=wfS r;rw[x4 (by unfold zeD;rw[decide_eq_true (show 1<opsN n from hd),cond_true,he];rw[vO])]
      have he:(!inB (ndR n) 0 ((i:Int)-1))=false:=he;rw[jD,zb2]at he;obtain⟨p0,p1⟩:=he;have x6:∀k:Nat,0<=(zcH u n 1).getD k 0/\(zcH u n 1).getD k 0<=200:=λk=>by
       have:=zni (n:=n) x8 k;omega
      have x1:(zcH u n 1).length=r.length:=by rw[<-x5];exact zmD u n
      have xe:=x6 (ndR n).toNat;have p2:ndR n<(((zcH u n 1).length:Nat):Int):=by rw[x1];omega
      have p4:(ndR n).toNat<(zcH u n 1).length:=by rw[x1];omega
      have p3:inR .i64 ((zcH u n 1).getD (ndR n).toNat 0+1):=zah o_ o_;apply zaf
      iterate 2 (refine zaa (zaa (zab za6 ?_)))
      refine⟨2,⟨by omega,?_⟩,by decide,⟨rfl,rfl,rfl,rfl,rfl,rfl,rfl,rfl,rfl,rfl,rfl,rfl,t_⟩,⟨rfl,bufI ?_,rfl,rfl,t_⟩,rfl,rfl⟩
      .show(_&&(bif decide (1<opsN n) then inB (ndR n) 0 ((i:Int)-1) else _))=true;rw[decide_eq_true (show 1<opsN n from hd),cond_true,zb2.2 ⟨p0,p1⟩,Bool.and_true];exact x7
      .show bump (zcH u n 1) (ndR n)=zcH u n 2;rw[<-zlz x0,if_pos (show 1<opsN n from hd)]
     .
      refine zaa (zaa (zab za6 ?_));refine zae rfl (λhe=>?_) (λhe=>?_)
      .have he:(bif (ndR n != 0) then !(bif (((1:Nat):Int)==0) then(ndK n==7) else false) else false)=true:=he;(repeat refine zaa (zaa (zab za6 ?_)));refine zaa ?_;refine zC ⟨.inr rfl,D1 ?_⟩;show false=wfS r;refine(x4 ?_).symm;unfold zeD;rw[decide_eq_false (show ¬1<opsN n from hd),cond_false];revert he;unfold bne;cases (ndR n==0)<;>intro he<;>first|(rw[vO])|cases he
      have he:(bif (ndR n != 0) then !(bif (((1:Nat):Int)==0) then(ndK n==7) else false) else false)=false:=he;apply zaf;refine zaa (zaa (zab za6 ?_));refine⟨2,⟨by omega,?_⟩,by decide,⟨rfl,rfl,rfl,rfl,rfl,rfl,rfl,rfl,rfl,rfl,rfl,rfl,t_⟩,⟨rfl,bufI ?_,rfl,rfl,t_⟩,rfl,rfl⟩
      .show(_&&(bif decide (1<opsN n) then _ else ndR n==0))=true;rw[decide_eq_false (show ¬1<opsN n from hd),cond_false];have h2:(ndR n==0)=true:=by revert he;unfold bne;cases (ndR n==0)<;>intro he<;>first|rfl|cases he
       rw[h2,Bool.and_true];exact x7
      .
       rw[<-zlz x0,if_neg (show ¬1<opsN n from hd)]
   .have hb:¬((j:Int)<2):=hb;obtain rfl:j=2:=o_;have x9:zeD n (i:Int)=true:=x7;apply zan;refine zak (Y':=⟨[(0,⟨.slice nd,r⟩),(3,⟨.optr (.arr 19 shp),⟨0,.arr 19 shp,.here⟩⟩),(4,⟨.obuf i64,(1:Nat)⟩),(24,⟨.slice nd,r⟩),(25,⟨i64,((r.length:Nat):Int)⟩),(26,⟨i64,(i:Int)⟩),(5,⟨i64,(i:Int)⟩),(6,⟨.optr nd,⟨2,nd,.here⟩⟩),(7,⟨.optr shp,⟨3,shp,.here⟩⟩)],[(0,some (.box (.arr 19 shp) zbY)),(1,some (.buf 3 i64 (zbE u n))),(2,some (.box nd n)),(3,some (.box shp (zdk (ndK n))))],4⟩) ⟨⟨rfl,rfl,rfl,rfl,rfl,rfl,rfl,rfl,rfl,t_⟩,⟨rfl,rfl,rfl,rfl,t_⟩,rfl,rfl⟩ ?_;clear x8 x5;have xj:u.length=u.length:=rfl;generalize zbE u n=u' at xb;(repeat(first|apply zap|apply zaf|apply zaq|apply zan));refine zco (Y':=⟨[(0,⟨.slice nd,r⟩),(3,⟨.optr (.arr 19 shp),⟨0,.arr 19 shp,.here⟩⟩),(4,⟨.obuf i64,(1:Nat)⟩),(24,⟨.slice nd,r⟩),(25,⟨i64,((r.length:Nat):Int)⟩),(26,⟨i64,(i:Int)⟩),(5,⟨i64,(i:Int)⟩),(6,⟨.optr nd,⟨2,nd,.here⟩⟩),(7,⟨.optr shp,⟨3,shp,.here⟩⟩),(10,⟨.bool,ndC n==0⟩),(11,⟨.bool,decide (ndS n=[])⟩)],[(0,some (.box (.arr 19 shp) zbY)),(1,some (.buf 3 i64 (u'))),(2,some (.box nd n)),(3,some (.box shp (zdk (ndK n))))],4⟩) dM 8 rfl (by kernel_rfl) ?_ ?_
    .repeat'(first|exact AllN.nil|refine AllN.cons ⟨_,rfl,?_⟩ ?_|refine yD hX za6 rfl t_ ?_|(refine OrdA.last ?_;exact⟨rfl,⟨rfl,rfl,rfl,rfl,rfl,rfl,rfl,rfl,rfl,rfl,zcp zia,t_⟩,⟨rfl,rfl,rfl,rfl,t_⟩,rfl,rfl⟩))
    refine zaa (zaa (zab za6 ?_));refine za1 (Y':=⟨[(0,⟨.slice nd,r⟩),(3,⟨.optr (.arr 19 shp),⟨0,.arr 19 shp,.here⟩⟩),(4,⟨.obuf i64,(1:Nat)⟩),(24,⟨.slice nd,r⟩),(25,⟨i64,((r.length:Nat):Int)⟩),(26,⟨i64,(i:Int)⟩),(5,⟨i64,(i:Int)⟩),(6,⟨.optr nd,⟨2,nd,.here⟩⟩),(7,⟨.optr shp,⟨3,shp,.here⟩⟩),(10,⟨.bool,zeI n⟩),(11,⟨.bool,decide (ndS n=[])⟩)],[(0,some (.box (.arr 19 shp) zbY)),(1,some (.buf 3 i64 (u'))),(2,some (.box nd n)),(3,some (.box shp (zdk (ndK n))))],4⟩) ?_ ?_
    .refine zae rfl (λhd=>?_) (λhd=>?_)
     .have hd:(zdk (ndK n)).2.1=true:=hd;refine zaa (zaa (zab za6 ?_));refine⟨⟨rfl,rfl,rfl,rfl,rfl,rfl,rfl,rfl,rfl,zcp ?_,rfl,t_⟩,⟨rfl,rfl,rfl,rfl,t_⟩,rfl,rfl⟩;unfold zeI;rw[hd];rfl
     .have hd:(zdk (ndK n)).2.1=false:=hd;apply zaf;refine⟨⟨rfl,rfl,rfl,rfl,rfl,rfl,rfl,rfl,rfl,zcp ?_,rfl,t_⟩,⟨rfl,rfl,rfl,rfl,t_⟩,rfl,rfl⟩;unfold zeI;rw[hd];rfl
    refine zaa (zaa (zab za6 ?_));refine za1 (Y':=⟨[(0,⟨.slice nd,r⟩),(3,⟨.optr (.arr 19 shp),⟨0,.arr 19 shp,.here⟩⟩),(4,⟨.obuf i64,(1:Nat)⟩),(24,⟨.slice nd,r⟩),(25,⟨i64,((r.length:Nat):Int)⟩),(26,⟨i64,(i:Int)⟩),(5,⟨i64,(i:Int)⟩),(6,⟨.optr nd,⟨2,nd,.here⟩⟩),(7,⟨.optr shp,⟨3,shp,.here⟩⟩),(10,⟨.bool,zeI n⟩),(11,⟨.bool,zhy n⟩)],[(0,some (.box (.arr 19 shp) zbY)),(1,some (.buf 3 i64 (u'))),(2,some (.box nd n)),(3,some (.box shp (zdk (ndK n))))],4⟩) ?_ ?_
    .refine zae rfl (λhd=>?_) (λhd=>?_)
     .have hd:(ndK n==18)=true:=hd;refine zaa (zaa (zab za6 ?_));refine⟨⟨rfl,rfl,rfl,rfl,rfl,rfl,rfl,rfl,rfl,rfl,zcp ?_,t_⟩,⟨rfl,rfl,rfl,rfl,t_⟩,rfl,rfl⟩;unfold zhy;rw[hd];rfl
     .have hd:(ndK n==18)=false:=hd;apply zaf;refine⟨⟨rfl,rfl,rfl,rfl,rfl,rfl,rfl,rfl,rfl,rfl,zcp ?_,t_⟩,⟨rfl,rfl,rfl,rfl,t_⟩,rfl,rfl⟩;unfold zhy;rw[hd];rfl
    have xf:zcl n=(zeI n&&(zhy n&&(zbT (ndI n) (zdk (ndK n)).2.2.1&&zcx n))):=by
     unfold zcl;rw[zb2.2 ⟨k1,k2⟩,decide_eq_true xa];rfl
    refine zaa (zaa (zab za6 ?_));have ht:(bif (bif (bif !zeI n then true else !zhy n) then true else !zbT (ndI n) (zdk (ndK n)).2.2.1) then true else !zcx n)= !zcl n:=by
     rw[xf];cases zeI n<;>cases zhy n<;>cases zbT (ndI n) (zdk (ndK n)).2.2.1<;>cases zcx n<;>rfl
    refine zae rfl (λhd=>?_) (λhd=>?_)
    .have hd:=ht.symm.trans hd;rw[xJ]at hd;(repeat refine zaa (zaa (zab za6 ?_)));refine zaa ?_;refine zC ⟨.inr rfl,D1 ?_⟩;show false=wfS r;rw[xd hd]
    .have hd:=ht.symm.trans hd;rw[jD]at hd;apply zaf;refine zaa (zaa ?_);refine zac hX za6 rfl ?_ ?_
     .exact zaP o_
     refine⟨i+1,⟨x3,?_⟩,by omega,⟨rfl,rfl,rfl,rfl,rfl,zce _,t_⟩,⟨rfl,bufI xb.symm,t_⟩,rfl,rfl⟩;rw[xc];unfold zbR;rw[hd,x9];rfl
 .
  obtain rfl:i=r.length:=o_;have x5:=zgx r r.length;apply zan;refine vo hX 4 ?_;have i1:inR .i64 (((r.length:Nat):Int)-1):=zah o_ o_;have i2:=o_;have i3:((r.length:Nat):Int)-1<=(((zdj r r.length).length:Nat):Int):=o_;refine zaa (zaa (zab za6 ?_));refine zC ⟨.inr rfl,D1 ?_⟩;show(!((zdj r r.length).take (((r.length:Nat):Int)-1).toNat).any not1)=wfS r;unfold wfS;rw[decide_eq_true o_,decide_eq_true o_,hn,show(((r.length:Nat):Int)-1).toNat=r.length-1 by omega];rfl
theorem TCtrOk.lift{f:yR}{c:TCtr}(h:TCtrOk zf gmG f c):TCtrOk zf gmH f c:=⟨h.1,λw O b u xs ys ps vs h1 h2 h3 h4 h5 h6 _=>h.2 w O b u xs ys ps vs h1 h2 h3 h4 h5 h6 trivial⟩
theorem zrz{n:Nd}(h:1<=ndK n/\ndK n<=18):opsK (ndK n)=opsN n:=by
 have h1:=zks h.1 h.2;have x0:(ndK n).toNat<zbY.length:=by show(ndK n).toNat<19;omega
 rw[<-h1];unfold opsN zdk;rw[zH,zH,zR x0];rfl
theorem zkm{r:List Nd}(h:wfS r=true):1<=r.length/\r.length<=64/\∀i(hi:i<r.length),(ndI r[i]).length<=1000/\1<=ndK r[i]/\ndK r[i]<=18/\(1<=opsK (ndK r[i])->0<=ndL r[i]/\ndL r[i]<(i:Int))/\(opsK (ndK r[i])=2->0<=ndR r[i]/\ndR r[i]<(i:Int)):=by
 unfold wfS at h;rw[zh,zh,zh,decide_eq_true_iff,decide_eq_true_iff]at h;obtain⟨⟨⟨h1,h2⟩,h3⟩,_⟩:=h;refine⟨h1,h2,λi hi=>?_⟩;have hn:=zcj.1 h3 i hi;rw[zH,zR hi]at hn;have hn:zbR r[i] (i:Int)=true:=hn;unfold zbR at hn;rw[zh]at hn;obtain⟨hf,ho⟩:=hn;obtain⟨hk,hl,_⟩:=zcc hf;unfold zeD at ho;rw[zh]at ho;obtain⟨o1,o2⟩:=ho;refine⟨by omega,hk.1,hk.2,λhq=>?_,λhq=>?_⟩
 .rw[zrz hk]at hq;rw[show decide (0<opsN r[i])=true from decide_eq_true o_]at o1;have o1:inB (ndL r[i]) 0 ((i:Int)-1)=true:=o1;have:=zb2.1 o1;omega
 .rw[zrz hk]at hq;rw[show decide (1<opsN r[i])=true from decide_eq_true o_]at o2;have:=zb2.1 o2;omega
abbrev Cal:=Int×List Int×Int×List Lr×Unit
def zpa(c:Cal):Prop:=(0<=c.1/\c.1<=1048576)/\(1<=c.2.1.length/\c.2.1.length<=16)/\(-1<=c.2.2.1/\c.2.2.1<(c.2.1.length:Int))/\c.2.2.2.1.length<=16/\(c.2.2.1= -1->c.2.2.2.1=[])/\(∀m∈c.2.1,1<=m/\m<=40)/\(perS 1 c.2.2.2.1).2=true
def zvq:Ctr:={ args:=[cal],pre:=λx=>[zpa x.1],res:=.bool,own:=none,out:=λ_=>true }
def kCv:Kn:={ gmK with C:=[(124,cPer)] }
theorem zdX:KnOk zf gmH kCv:=zd1.with (.cons znX .nil)
theorem zpP{a b:Bool}(ha:a=false)(hb:b=false):(bif a then true else b)=false:=by rw[ha,hb];rfl
theorem ztq:yQ zf gmH 106 zvq:=by
 refine ctr2 zdX Tryz.func106 Tryz.call106 ?_;rintro w0 X hX ⟨(c:Cal),_⟩ hp;obtain⟨(ep:Int),(ms:List Int),(lp:Int),(rs:List Lr),⟨⟩⟩:=c;obtain⟨⟨e0,e1⟩,⟨n0,n1⟩,⟨l0,l1⟩,r0,lr,hm,x0⟩:zpa (ep,ms,lp,rs,()):=hp;have e0:0<=ep:=e0;have e1:ep<=1048576:=e1;have n0:1<=ms.length:=n0;have n1:ms.length<=16:=n1;have l0: -1<=lp:=l0;have l1:lp<(ms.length:Int):=l1;have r0:rs.length<=16:=r0;have lr:lp= -1->rs=[]:=lr;have hm:∀m∈ms,1<=m/\m<=40:=hm;have x0:(perS 1 rs).2=true:=x0;change AWP _ _ _ _ _ ⟨[(0,⟨cal,(ep,ms,lp,rs,())⟩)],[],0⟩ _
 iterate 2 (refine zaa (zaa (zab zdX ?_)))
 refine zak (Y':=⟨[(1,⟨.optr cal,⟨0,cal,.here⟩⟩),(3,⟨i64,((ms.length:Nat):Int)⟩)],[(0,some (.box cal (ep,ms,lp,rs,())))],1⟩) ⟨⟨rfl,rfl,t_⟩,⟨rfl,t_⟩,rfl,rfl⟩ ?_;refine zaa (zaa (zab zdX ?_));refine zae rfl (λhc=>?_) (λ_=>?_)
 .have hc:(bif decide (ep<0) then true else decide (ep>1048576))=true:=hc;rw[zpP (decide_eq_false o_) (decide_eq_false o_)]at hc;cases hc
 refine zaa (zaa (zab zdX ?_));refine zae rfl (λhc=>?_) (λ_=>?_)
 .have hc:(bif decide (((ms.length:Nat):Int)<1) then true else decide (((ms.length:Nat):Int)>16))=true:=hc;rw[zpP (decide_eq_false o_) (decide_eq_false o_)]at hc;cases hc
 refine zaa (zaa (zab zdX ?_));refine zae rfl (λhc=>?_) (λ_=>?_)
 .have hc:(bif decide (lp < -1) then true else decide (lp>=((ms.length:Nat):Int)))=true:=hc;rw[zpP (decide_eq_false o_) (decide_eq_false o_)]at hc;cases hc
 refine zaa (zaa (zab zdX ?_));refine zae rfl (λhc=>?_) (λ_=>?_)
 .have hc:decide (((rs.length:Nat):Int)>16)=true:=hc;have:=of_decide_eq_true hc;omega
 refine zaa (zaa (zab zdX ?_));refine zae rfl (λhc=>?_) (λ_=>?_)
 .have hc:(bif (lp== -1) then decide (((rs.length:Nat):Int)>0) else false)=true:=hc;cases hq:(lp== -1) with
  |false=>rw[hq]at hc;cases hc
  |true=>
   rw[hq]at hc;have:=of_decide_eq_true hc;rw[lr (beq_iff_eq.1 hq)]at this;exact absurd this d_
 apply zaf;refine zak (Y':=⟨[(1,⟨.optr cal,⟨0,cal,.here⟩⟩)],[(0,some (.box cal (ep,ms,lp,rs,())))],1⟩) ⟨⟨rfl,t_⟩,⟨rfl,t_⟩,rfl,rfl⟩ ?_;refine zaa (zaa (zab zdX ?_));refine zaa (zaa ?_);refine yK (ι:=Nat) (λk=>⟨[(1,⟨.optr cal,⟨0,cal,.here⟩⟩),(50,⟨ints,ms⟩),(51,⟨i64,((ms.length:Nat):Int)⟩),(52,⟨i64,(k:Int)⟩)],[(0,some (.box cal (ep,ms,lp,rs,())))],1⟩) (λk=>k<=ms.length) (λk=>ms.length-k) 0 (zk _) ⟨⟨rfl,rfl,rfl,rfl,t_⟩,⟨rfl,t_⟩,rfl,rfl⟩ ?_;intro k hk;refine zaa (zaa (zab zdX ?_));apply zap;refine zae rfl (λhb=>?_) (λhb=>?_)
 .have hb:decide ((k:Int)<(ms.length:Nat))=true:=hb;have hb:=of_decide_eq_true hb;have x1:k<ms.length:=o_;have z0:(0:Int)<=(k:Int):=o_;have x2:ms.getD (k:Int).toNat (0:Int)=ms[k]:=za4 x1;obtain⟨g0,g1⟩:=hm ms[k] (qc x1);rw[<-x2]at g0 g1
  iterate 2 (refine zaa (zaa (zab zdX ?_)))
  refine zae rfl (λhc=>?_) (λ_=>?_)
  .have hc:(bif decide (ms.getD (k:Int).toNat (0:Int)<1) then true else decide (ms.getD (k:Int).toNat (0:Int)>40))=true:=hc;rw[zpP (decide_eq_false o_) (decide_eq_false o_)]at hc;cases hc
  apply zaf;refine zaa (zaa ?_);refine zac hX zdX rfl ?_ ?_
  .exact zaP o_
  exact⟨k+1,x1,by omega,⟨rfl,rfl,rfl,zce _,t_⟩,⟨rfl,t_⟩,rfl,rfl⟩
 .apply zan
  iterate 2 (refine zaa (zaa (zab zdX ?_)))
  refine zC ⟨.inr rfl,D1 ?_⟩;exact x0
def ztr:Ctr:={ args:=[.slice nd,.slice cal],pre:=λx=>[zp x.2.1=3,∀c∈(x.2.1:List Cal),zpa c],res:=i64,own:=none,out:=λx=>zdi x.1 }
def zCal:Cal:=(0,[],0,[],())
def kVr:Kn:={ gmK with C:=[(104,zvu),(105,cWf),(106,zvq),(107,zfZ)] }
theorem zcU:KnOk zf gmH kVr:=zd1.with (.cons ztE<|.cons ztV<|.cons ztq<|.cons zjn .nil)
set_option maxHeartbeats 1000000 in
theorem zsd:yQ zf gmH 80 ztr:=by
 refine ctr2 zcU Tryz.func80 Tryz.call80 ?_;rintro w0 X hX ⟨r,cs,_⟩ hp;obtain⟨x6,x8⟩:cs.length=3/\∀c∈cs,zpa c:=by
  simp only[ztr,allP]at hp
  simpa using hp
 iterate 3 (refine zaa (zaa (zab zcU ?_)))
 have x2:(bif decide (((r.length:Nat):Int)>64) then true else r.any bigN)=decide (64<r.length\/r.any bigN=true):=by
  rw[b_or,qA,xO,decide_eq_true_iff,decide_eq_true_iff];constructor
  .rintro (h|h)
   .exact .inl o_
   .exact .inr h
  .rintro (h|h)
   .exact .inl o_
   .exact .inr h
 refine zae rfl (λhb=>?_) (λhb=>?_)
 .have hb:=x2.symm.trans hb;have hb:=of_decide_eq_true hb;(repeat refine zaa (zaa (zab zcU ?_)));refine zaa ?_;refine zC ⟨.inr rfl,D1 ?_⟩;show(2:Int)=zdi r;unfold zdi;rw[if_pos hb]
 have hb:=x2.symm.trans hb;have x3:=of_decide_eq_false hb;apply zaf;refine zaa (zaa (zab zcU ?_));have x4:(bif !wfS r then true else decide (((cs.length:Nat):Int)>3))= !wfS r:=by
  rw[x6];cases wfS r<;>rfl
 refine zae rfl (λhb=>?_) (λhb=>?_)
 .have hb:=x4.symm.trans hb;rw[xJ]at hb;(repeat refine zaa (zaa (zab zcU ?_)));refine zaa ?_;refine zC ⟨.inr rfl,D1 ?_⟩;show(1:Int)=zdi r;unfold zdi;rw[if_neg x3,if_neg (by rw[hb];decide)]
 have hb:=x4.symm.trans hb;rw[jD]at hb;have hv:zdi r=0:=by unfold zdi;rw[if_neg x3,if_pos hb]
 obtain⟨⟨w1,w2⟩,w3,_⟩:=zlx hb;apply zaf;refine zaa (zaa (zab zcU ?_));refine zaa (zaa ?_);refine yK (ι:=Nat) (λk=>⟨[(0,⟨.slice nd,r⟩),(1,⟨.slice cal,cs⟩),(27,⟨.slice cal,cs⟩),(28,⟨i64,((cs.length:Nat):Int)⟩),(29,⟨i64,(k:Int)⟩)],[],0⟩) (λk=>k<=cs.length) (λk=>cs.length-k) 0 (zk _) ⟨⟨rfl,rfl,rfl,rfl,rfl,t_⟩,t_,rfl,rfl⟩ ?_;intro k hk;refine zaa (zaa (zab zcU ?_));apply zap;refine zae rfl (λhb=>?_) (λhb=>?_)
 .
  have hb:=of_decide_eq_true hb;have x1:k<cs.length:=o_;have z0:(0:Int)<=(k:Int):=o_;have x5:cs.getD (k:Int).toNat zCal=cs[k]:=za4 x1;have x7:=x8 cs[k] (qc x1);rw[<-x5]at x7
  iterate 2 (refine zaa (zaa (zab zcU ?_)))
  refine zae rfl (λhc=>?_) (λ_=>?_)
  .
   cases hc
  apply zaf;refine zaa (zaa (zac hX zcU rfl ?_ ?_))
  .exact zaP o_
  exact⟨k+1,x1,by omega,⟨rfl,rfl,rfl,rfl,zce _,t_⟩,t_,rfl,rfl⟩
 .apply zan
  iterate 2 (refine zaa (zaa (zab zcU ?_)))
  refine zaa (zaa ?_);refine yK (ι:=Nat) (λi=>⟨[(0,⟨.slice nd,r⟩),(1,⟨.slice cal,cs⟩),(8,⟨.optr (.arr 19 shp),⟨0,.arr 19 shp,.here⟩⟩),(38,⟨.slice nd,r⟩),(39,⟨i64,((r.length:Nat):Int)⟩),(40,⟨i64,(i:Int)⟩)],[(0,some (.box (.arr 19 shp) zbY))],1⟩) (λi=>i<=r.length) (λi=>r.length-i) 0 (zk _) ⟨⟨rfl,rfl,rfl,rfl,rfl,rfl,t_⟩,⟨rfl,t_⟩,rfl,rfl⟩ ?_;intro i hi;refine zaa (zaa (zab zcU ?_));apply zap;refine zae rfl (λhb=>?_) (λhb=>?_)
  .
   have hb:=of_decide_eq_true hb;have x1:i<r.length:=o_;have z0:(0:Int)<=(i:Int):=o_;have hf:=(zgd w3 x1).1;obtain⟨⟨k1,k2⟩,_,x0,_⟩:=zcc hf;refine zaa (zaa (zab zcU ?_));refine zak (Y':=⟨[(0,⟨.slice nd,r⟩),(1,⟨.slice cal,cs⟩),(8,⟨.optr (.arr 19 shp),⟨0,.arr 19 shp,.here⟩⟩),(38,⟨.slice nd,r⟩),(39,⟨i64,((r.length:Nat):Int)⟩),(40,⟨i64,(i:Int)⟩),(10,⟨.optr nd,⟨1,nd,.here⟩⟩)],[(0,some (.box (.arr 19 shp) zbY)),(1,some (.box nd (zdo r i)))],2⟩) ⟨⟨rfl,rfl,rfl,rfl,rfl,rfl,rfl,t_⟩,⟨rfl,rfl,t_⟩,rfl,rfl⟩ ?_;generalize zdo r i=n at *;have t0:(0:Int)<=ndK n:=o_;have t1:ndK n<((19:Nat):Int):=o_;have t2:(ndK n).toNat<19:=o_;refine zaa (zaa (zab zcU ?_));refine zae rfl (λhc=>?_) (λ_=>?_)
   .have hc:(bif (zdk (ndK n)).2.1 then decide (ndC n>=((cs.length:Nat):Int)) else false)=true:=hc;exfalso;unfold zeI at x0;cases hq:(zdk (ndK n)).2.1 with
    |false=>rw[hq]at hc;cases hc
    |true=>
     rw[hq,cond_true]at hc x0;have h1:=of_decide_eq_true hc;have h2:=zb2.1 x0;omega
   apply zaf;refine zaa (zaa (zac hX zcU rfl ?_ ?_))
   .exact zaP o_
   exact⟨i+1,x1,by omega,⟨rfl,rfl,rfl,rfl,rfl,zce _,t_⟩,⟨rfl,t_⟩,rfl,rfl⟩
  . (repeat refine zaa (zaa (zab zcU ?_)));refine zaa ?_;refine zC ⟨.inr rfl,D1 ?_⟩;exact hv.symm
def zrp:List Int:=[31,28,31,30,31,30,31,31,30,31,30,31]
def zgV:List Int:=[30,29,30,29,30,29,30,29,30,29,30,29]
def zgE:List Int:=[2,5,7,10,13,16,18,21,24,26,29]
def zma(k:Int):Cal:=
 if k=0 then(7,zrp,1,[(4,0,true,()),(100,0,false,()),(400,0,true,())],())
 else if k=1 then(5,zrp,1,[(4,0,true,())],())
 else(227021,zgV,11,zgE.map λx=>(30,x,true,()),())
def zpd:Ctr:={ args:=[i64],pre:=λx=>[0<=x.1,x.1<=2],res:=.tup cal (.tup i64 .unit),own:=none,out:=λx=>(zma x.1,(0:Int),()) }
def kKw:Kn:={ gmK with H:=[154] }
theorem zcf:KnOk zf gmH kKw:=⟨zfi,zjW,ue,zrF,ww⟩
def zuG:zi:=.agg #[.int .i64 227021,.slice none 0 0,.int .i64 11,.slice none 0 0]
theorem zoo:zf.built 154 [(0,.int .i64 227021),(2,.int .i64 11)]=some #[.int .i64 227021,.slice none 0 0,.int .i64 11,.slice none 0 0]:=by kernel_rfl
theorem bufL{te:zy}{x y:List Lr}(h:x=y):some (OObj.buf te lru x)=some (OObj.buf te lru y):=by rw[h]
set_option maxHeartbeats 1000000 in
theorem zqu:yQ zf gmH 82 zpd:=by
 refine ctr2 zcf Tryz.func82 Tryz.call82 ?_;rintro w0 X hX ⟨(k:Int),_⟩ hp;obtain⟨h0,h1⟩:0<=k/\k<=2:=by
  simp only[zpd,allP]at hp
  simpa using hp
 change AWP _ _ _ _ _ ⟨[(0,⟨i64,k⟩)],[],0⟩ _
 iterate 2 (refine zaa (zaa (zab zcf ?_)))
 refine vo hX 4 ?_
 iterate 3 (refine zaa (zaa (zab zcf ?_)))
 refine zae rfl (λhb=>?_) (λhb=>?_)
 .have hb:(k==0)=true:=hb;obtain rfl:=beq_iff_eq.1 hb;refine zaa (zaa (zab zcf ?_));refine vo hX 6 ?_;refine zaa (zaa (zab zcf ?_));refine zC ⟨.inr rfl,D2 ?_⟩;rfl
 have hb:(k==0)=false:=hb;have x4:k≠0:=λe=>by rw[e]at hb;cases hb
 refine zaa (zaa (zab zcf ?_));refine zae rfl (λhb=>?_) (λhb=>?_)
 .have hb:(k==1)=true:=hb;obtain rfl:=beq_iff_eq.1 hb;refine zaa (zaa (zab zcf ?_));refine zC ⟨.inr rfl,D2 ?_⟩;rfl
 have hb:(k==1)=false:=hb;have x3:k≠1:=λe=>by rw[e]at hb;cases hb
 refine zaa (zaa (zab zcf ?_));refine zae rfl (λhb=>?_) (λhb=>?_)
 .have hb:(k==2)=true:=hb;obtain rfl:=beq_iff_eq.1 hb;refine zaa (zaa (zaj ?_));refine zdT rfl (by intro c e;cases e) rfl rfl zuG (λU a w hs=>by
   unfold execOp;refine za7 ?_;rw[show(#[(0,f7 (qD .i64 227021)),(2,f7 (qD .i64 11))]:Array (Nat×zK)).map (λp=>(p.1,a.eval p.2))= #[(0,qD .i64 227021),(2,qD .i64 11)] from by simp;exact⟨rfl,rfl⟩];exact run_build w _ _ _ zoo) ?_
  refine zau zcf ?_;refine za9 3 1 3 i64 rfl rfl rfl ?_;refine za9 3 3 197 lru rfl rfl rfl ?_;refine zaa (zaa (zab zcf ?_));refine zaa (zaa ?_);refine yK (ι:=Nat) (λi=>⟨[(2,⟨.hptr,((0:Nat),(0:Nat))⟩),(7,⟨.hptr,((3:Nat),(0:Nat))⟩),(32,⟨i64,(i:Int)⟩)],[(0,some (.hbox 154 [⟨i64,(0:Int)⟩,⟨.lit,.slice none 0 0⟩,⟨i64,(0:Int)⟩,⟨.lit,.slice none 0 0⟩])),(3,some (.hbox 154 [⟨i64,(227021:Int)⟩,⟨.obuf i64,(4:Nat)⟩,⟨i64,(11:Int)⟩,⟨.obuf lru,(5:Nat)⟩])),(4,some (.buf 3 i64 (zgV.take i))),(5,some (.buf 197 lru []))],6⟩) (λi=>i<=12) (λi=>12-i) 0 (zk _) ⟨⟨rfl,rfl,rfl,t_⟩,⟨rfl,rfl,rfl,rfl,t_⟩,rfl,rfl⟩ ?_
  .intro i hi;refine zaa (zaa (zab zcf ?_));apply zap;refine zaN rfl (λhb=>?_) (λhb=>?_)
   .have hb:(i:Int)<12:=hb;obtain⟨hv,x1,x2⟩:(inR .i64 ((30:Int)-(i:Int).tmod 2))/\zgV.take i++[(30:Int)-(i:Int).tmod 2]=zgV.take (i+1)/\(zgV.take i).length<=12:=by
     rcases (show i=0\/i=1\/i=2\/i=3\/i=4\/i=5\/i=6\/i=7\/i=8\/i=9\/i=10\/i=11 by omega) with rfl|rfl|rfl|rfl|rfl|rfl|rfl|rfl|rfl|rfl|rfl|rfl<;>exact⟨zah d_ d_,by decide,by decide⟩
    have q1:(zgV.take i).length+1<=1000000000:=o_
    iterate 2 (refine zaa (zaa (zab zcf ?_)))
    refine zaa (zaa ?_);refine zac hX zcf rfl ?_ ?_
    .exact zaP o_
    exact⟨i+1,by omega,by omega,⟨rfl,rfl,zce _,t_⟩,⟨rfl,rfl,bufI x1,rfl,t_⟩,rfl,rfl⟩
   .have hb:¬((i:Int)<12):=hb;obtain rfl:i=12:=o_;apply zan;refine zaa (zaa (zab zcf ?_));refine vo hX 44 ?_;refine zaa (zaa ?_);refine yK (ι:=Nat) (λj=>⟨[(2,⟨.hptr,((0:Nat),(0:Nat))⟩),(7,⟨.hptr,((3:Nat),(0:Nat))⟩),(44,⟨ints,zgE⟩),(45,⟨i64,(11:Int)⟩),(46,⟨i64,(j:Int)⟩)],[(0,some (.hbox 154 [⟨i64,(0:Int)⟩,⟨.lit,.slice none 0 0⟩,⟨i64,(0:Int)⟩,⟨.lit,.slice none 0 0⟩])),(3,some (.hbox 154 [⟨i64,(227021:Int)⟩,⟨.obuf i64,(4:Nat)⟩,⟨i64,(11:Int)⟩,⟨.obuf lru,(5:Nat)⟩])),(4,some (.buf 3 i64 zgV)),(5,some (.buf 197 lru ((zgE.take j).map λx=>(30,x,true,()))))],6⟩) (λj=>j<=11) (λj=>11-j) 0 (zk _) ⟨⟨rfl,rfl,rfl,rfl,rfl,t_⟩,⟨rfl,rfl,rfl,rfl,t_⟩,rfl,rfl⟩ ?_;intro j hj;refine zaa (zaa (zab zcf ?_));apply zap;refine zaN rfl (λhb=>?_) (λhb=>?_)
    .have hb:(j:Int)<11:=hb;have x0:j<zgE.length:=by show j<11;omega
     have z0:(0:Int)<=(j:Int):=o_;have z1:(j:Int)<((zgE.length:Nat):Int):=o_;have hl:((zgE.take j).map λx=>((30,x,true,()):Lr)).length+1<=1000000000:=by rw[List.length_map,List.length_take];omega
     iterate 2 (refine zaa (zaa (zab zcf ?_)))
     refine zaa (zaa ?_);refine zac hX zcf rfl ?_ ?_
     .exact zaP o_
     refine⟨j+1,by omega,by omega,⟨rfl,rfl,rfl,rfl,zce _,t_⟩,⟨rfl,rfl,rfl,bufL ?_,t_⟩,rfl,rfl⟩;rw[zN x0,xX];show _++[((30:Int),zgE.getD (j:Int).toNat (0:Int),true,())]=_;rw[za4 x0];rfl
    .have hb:¬((j:Int)<11):=hb;obtain rfl:j=11:=o_;apply zan;refine AWP.frzL hX 3 1 ?_;refine AWP.frzL hX 3 3 ?_;refine zaa (zaa (zab zcf ?_));refine zC ⟨.inr rfl,D2 ?_⟩;rfl
 .have hb:(k==2)=false:=hb;exact absurd (beq_iff_eq.2 (by omega:k=2)) (by rw[hb];decide)
def wthn(n lo hi:Int):Bool:=bif decide (lo<=n) then decide (n<=hi) else false
def cIn:Ctr:={ args:=[i64,i64,i64],pre:=λ_=>[],res:=.bool,own:=none,out:=λx=>wthn x.1 x.2.1 x.2.2.1 }
theorem zhO:yQ zf dG 109 cIn:=by
 refine ctr2 zam Tryz.func109 Tryz.call109 ?_;rintro w0 X hX ⟨n,lo,hi,⟨⟩⟩ _
 repeat refine zaa (zaa (zab zam ?_))
 exact zC ⟨.inr rfl,D1 rfl⟩
theorem zvV:yQ zf dG 102 cIn:=by
 refine ctr2 zam Tryz.func102 Tryz.call102 ?_;rintro w0 X hX ⟨n,lo,hi,⟨⟩⟩ _
 repeat refine zaa (zaa (zab zam ?_))
 exact zC ⟨.inr rfl,D1 rfl⟩
noncomputable def mvOK(m:mv.T):Bool:=
 bif m.2.1 then(bif wthn m.1 0 1099511627776 then eqb mv m (m.1,true,0,0,0,()) else false)
 else bif (bif (bif wthn m.1 0 1099511627776 then wthn m.2.2.1 0 1099511627776 else false) then wthn m.2.2.2.1 0 1439 else false) then wthn m.2.2.2.2.1 1 10080 else false
noncomputable def cMv:Ctr:={ args:=[mv],pre:=λ_=>[],res:=.bool,own:=none,out:=λx=>mvOK x.1 }
def kWi:Kn:={ dK with C:=[(109,cIn)] }
theorem zjO:KnOk zf dG kWi:=zam.with (.cons zhO .nil)
theorem zof:yQ zf dG 110 cMv:=by
 refine ctr2 zjO Tryz.func110 Tryz.call110 ?_;rintro w0 X hX ⟨m,⟨⟩⟩ _;refine zaa (zaa (zab zjO ?_));refine xN hX 1 ?_;refine zaa (zaa (zab zjO ?_));refine zaa ?_;refine zae rfl (λhb=>?_) (λhb=>?_)
 .have hb:m.2.1=true:=hb
  repeat refine zaa (zaa (zab zjO ?_))
  refine zC ⟨.inr rfl,D1 ?_⟩;show _=mvOK m;unfold mvOK;rw[hb];rfl
 .have hb:m.2.1=false:=hb
  repeat refine zaa (zaa (zab zjO ?_))
  refine zC ⟨.inr rfl,D1 ?_⟩;show _=mvOK m;unfold mvOK;rw[hb];rfl
def kVm:Kn:={ dK with C:=[(102,cIn)] }
theorem zdV:KnOk zf dG kVm:=zam.with (.cons zvV .nil)
noncomputable def cMvG:Ctr:={ args:=[mv],pre:=λx=>[mvOK x.1=true],res:=.bool,own:=none,out:=λ_=>true }
theorem zf3:yQ zf dG 77 cMvG:=by
 refine ctr2 zdV Tryz.func77 Tryz.call77 ?_;rintro w0 X hX ⟨m,⟨⟩⟩ hm;have hm:mvOK m=true:=hm;change AWP _ _ _ _ _ ⟨[(0,⟨mv,m⟩)],[],0⟩ _;refine zaa (zaa (zab zdV ?_));refine xN hX 1 ?_
 iterate 2 (refine zaa (zaa (zab zdV ?_)))
 refine zaa ?_;refine zae rfl (λhb=>?_) (λhb=>?_)
 .have hb:m.2.1=true:=hb
  repeat refine zaa (zaa (zab zdV ?_))
  refine zC ⟨.inr rfl,D1 ?_⟩;unfold mvOK at hm;rw[hb]at hm;exact hm
 .have hb:m.2.1=false:=hb;unfold mvOK at hm;rw[hb,cond_false]at hm;have q4:=hm;have q3:(bif (bif wthn m.1 0 1099511627776 then wthn m.2.2.1 0 1099511627776 else false) then wthn m.2.2.2.1 0 1439 else false)=true:=by
   revert hm;cases (bif (bif wthn m.1 0 1099511627776 then wthn m.2.2.1 0 1099511627776 else false) then wthn m.2.2.2.1 0 1439 else false)<;>intro hm
   .cases hm
   .rfl
  have q2:(bif wthn m.1 0 1099511627776 then wthn m.2.2.1 0 1099511627776 else false)=true:=by
   revert q3;cases (bif wthn m.1 0 1099511627776 then wthn m.2.2.1 0 1099511627776 else false)<;>intro hm
   .cases hm
   .rfl
  have q1:wthn m.1 0 1099511627776=true:=by
   revert q2;cases wthn m.1 0 1099511627776<;>intro hm
   .cases hm
   .rfl
  refine zaa (zaa (zaj ?_));refine zat 5 zdV ?_
  iterate 4 (refine AL.guardT 4 21 true rfl rfl (zcp q1) rfl ?_;refine zat 1 zdV ?_)
  refine zat 2 zdV ?_
  iterate 4 (refine AL.guardT 10 27 true rfl rfl (zcp q2) rfl ?_;refine zat 1 zdV ?_)
  refine zat 2 zdV ?_
  iterate 4 (refine AL.guardT 16 33 true rfl rfl (zcp q3) rfl ?_;refine zat 1 zdV ?_)
  refine zau zdV ?_
  repeat refine zaa (zaa (zab zdV ?_))
  exact zC ⟨.inr rfl,D1 q4⟩
def zdc(s:se.T):Bool:=
 bif (bif (bif (bif decide ((((s.1.length:Nat):Int)+((s.2.2.2.2.2.2.1.length:Nat):Int))+((zp s.2.2.2.1:Nat):Int)=0) then decide (s.2.1=0) else false) then decide (s.2.2.1=0) else false) then decide (s.2.2.2.2.1=0) else false) then decide (s.2.2.2.2.2.1=0) else false
def cNoS:Ctr:={ args:=[se],pre:=λx=>[zp x.1.1<=1000000000,zp x.1.2.2.2.2.2.2.1<=1000000000,zp x.1.2.2.2.1<=1000000000],res:=.bool,own:=none,out:=λx=>zdc x.1 }
theorem zcS:yQ zf dG 59 cNoS:=by
 refine ctr2 zam Tryz.func59 Tryz.call59 ?_;rintro w0 X hX ⟨⟨(ru:List nd.T),(mi:Int),(le:Int),(zo:List UInt8),(ga:Int),(fo:Int),(mo:List mv.T),⟨⟩⟩,⟨⟩⟩ ⟨h1,h2,h3⟩;have h1:ru.length<=1000000000:=h1;have h2:mo.length<=1000000000:=h2;have h3:zo.length<=1000000000:=h3;change AWP _ _ _ _ _ ⟨[(0,⟨se,(ru,mi,le,zo,ga,fo,mo,())⟩)],[],0⟩ _;have q1:inR .i64 (((ru.length:Nat):Int)+((mo.length:Nat):Int)):=zah o_ o_;have q2:inR .i64 ((((ru.length:Nat):Int)+((mo.length:Nat):Int))+((zo.length:Nat):Int)):=zah o_ o_;refine zaa (zaa (zab zam ?_));refine xN hX 1 ?_
 repeat refine zaa (zaa (zab zam ?_))
 exact zC ⟨.inr rfl,D1 rfl⟩
def zih:List Int:=[0,1043,19,19,531,51,1923,3,40049,100417,102465,102401,102401,32769,102401,24624,122928,98316,65537]
def za3(k f:Int):Bool:=(((Int.toNat (zih.getD k.toNat 0/2^f.toNat)&&& 1:Nat):Int)==1)
def cUs:Ctr:={ args:=[i64,i64],pre:=λx=>[1<=x.1,x.1<=18,0<=x.2.1,x.2.1<17],res:=.bool,own:=none,out:=λx=>za3 x.1 x.2.1 }
theorem zgw:yQ zf dG 27 cUs:=by
 refine ctr2 zam Tryz.func27 Tryz.call27 ?_;rintro w0 X hX ⟨(k:Int),(f:Int),⟨⟩⟩ ⟨h1,h2,h3,h4⟩;have h1:1<=k:=h1;have h2:k<=18:=h2;have h3:0<=f:=h3;have h4:f<17:=h4;change AWP _ _ _ _ _ ⟨[(0,⟨i64,k⟩),(1,⟨i64,f⟩)],[],0⟩ _
 iterate 4 refine zaa (zaa (zab zam ?_))
 refine zak (Y':=⟨[(0,⟨i64,k⟩),(1,⟨i64,f⟩),(7,⟨.optr (.arr 19 i64),⟨0,.arr 19 i64,.here⟩⟩)],[(0,some (.box (.arr 19 i64) zih))],1⟩) ⟨⟨rfl,rfl,rfl,t_⟩,⟨zeP d_,t_⟩,rfl,rfl⟩ ?_;refine xN hX 7 ?_;have hn:∀j:Nat,0<=zih.getD j 0:=λj=>by
  by_cases hj:j<19
  .revert j;decide
  .rw[zH,gn (by show 19<=j;omega)];exact Int.le_refl _
 have hx:∀j:Nat,zih.getD j 0<200000:=λj=>by
  by_cases hj:j<19
  .revert j;decide
  .rw[zH,gn (by show 19<=j;omega)];decide
 have x1:(0:Int)<2^f.toNat:=Int.pow_pos d_;have hd:0<=zih.getD k.toNat (zaD i64)/2^f.toNat:=Int.ediv_nonneg (hn _) (Int.le_of_lt x1);have hb:Int.toNat (zih.getD k.toNat (zaD i64)/2^f.toNat)<2^(IntKind.i64.bits-1):=by
  have h5:zih.getD k.toNat (zaD i64)/2^f.toNat<=zih.getD k.toNat (zaD i64):=Int.ediv_le_self _ (hn _);have h6:zih.getD k.toNat (zaD i64)<200000:=hx _;show _<9223372036854775808;omega
 have x2:Int.toNat 1<2^(IntKind.i64.bits-1):=d_;have ht:k.toNat<19:=o_;have hk:(bif decide (0<k) then decide (k<=18) else false)=true:=by
  rw[decide_eq_true (show 0<k by omega),decide_eq_true h2];rfl
 have x0:decide (0<k)=true:=decide_eq_true o_;refine zaa (zaa (zab zam ?_ (hp:=?_)))
 rotate_left
 .exact⟨λ_=>x0,λ_=>x0,λ_=>⟨hk,o_,(by show k<19;omega)⟩,λ_=>hk,λ_=>⟨hk,hk,h3,(by show f<=63;omega)⟩,λ_=>⟨hk,hd,d_,hb,x2⟩,λ_=>hk,λ_=>hk⟩
 refine zC ⟨.inr rfl,D1 ?_⟩;rw[hk];rfl
def zgg:List (List Int):=[[1,1099511627776],[1,1099511627776],[0,15],[1,64],[0,511],[0,511],[0,255],[1,3],[0,1099511627776],[0,0],[0,0],[0,2251799813685248],[0,18],[1,4],[0,0],[0,0],[0,0]]
def limT(k:Int):List (List Int):=
 if k=1 then zgg.set 1 [1,1]
 else if k=6\/k=7 then zgg.set 1 [2,1099511627776]
 else if k=8 then(zgg.set 5 [0,63]).set 12 [1,512]
 else if k=14 then zgg.set 12 [0,5]
 else zgg
theorem lim1{k:Int}(e:k=1):limT k=zgg.set 1 [1,1]:=if_pos e
theorem lim2{k:Int}(e1:k≠1)(e:k=6\/k=7):limT k=zgg.set 1 [2,1099511627776]:=(if_neg e1).trans (if_pos e)
theorem lim3{k:Int}(e:k=8):limT k=(zgg.set 5 [0,63]).set 12 [1,512]:=by subst e;rfl
theorem lim4{k:Int}(e:k=14):limT k=zgg.set 12 [0,5]:=by subst e;rfl
theorem lim5{k:Int}(e1:k≠1)(e2:¬(k=6\/k=7))(e3:k≠8)(e4:k≠14):limT k=zgg:=(if_neg e1).trans ((if_neg e2).trans ((if_neg e3).trans (if_neg e4)))
def limF(k f:Int)(j:Nat):Int:=((limT k).getD f.toNat [0,0]).getD j 0
def cLm:Ctr:={ args:=[i64,i64],pre:=λx=>[0<=x.2.1,x.2.1<17],res:=.tup i64 (.tup i64 .unit),own:=none,out:=λx=>(limF x.1 x.2.1 0,limF x.1 x.2.1 1,()) }
set_option maxHeartbeats 4000000 in
theorem zor:yQ zf dG 76 cLm:=by
 refine ctr2 zam Tryz.func76 Tryz.call76 ?_;rintro w0 X hX ⟨(k:Int),(f:Int),⟨⟩⟩ ⟨h0,x0⟩;have h0:0<=f:=h0;have x0:f<17:=x0;change AWP _ _ _ _ _ ⟨[(0,⟨i64,k⟩),(1,⟨i64,f⟩)],[],0⟩ _
 iterate 2 (refine zaa (zaa (zab zam ?_)))
 apply zap;refine zaj ?_;refine zat 15 zam ?_;refine AL.fit (Y':=⟨[(0,⟨i64,k⟩),(1,⟨i64,f⟩),(9,⟨.arr 2 i64,([1,1099511627776]:List Int)⟩),(10,⟨.arr 2 i64,([1,1099511627776]:List Int)⟩),(12,⟨.arr 2 i64,([0,15]:List Int)⟩),(13,⟨.arr 2 i64,([1,64]:List Int)⟩),(15,⟨.arr 2 i64,([0,511]:List Int)⟩),(17,⟨.arr 2 i64,([0,511]:List Int)⟩),(18,⟨.arr 2 i64,([0,255]:List Int)⟩),(19,⟨.arr 2 i64,([1,3]:List Int)⟩),(20,⟨.arr 2 i64,([0,1099511627776]:List Int)⟩),(21,⟨.arr 2 i64,([0,2251799813685248]:List Int)⟩),(22,⟨.arr 2 i64,([0,18]:List Int)⟩),(23,⟨.arr 2 i64,([1,4]:List Int)⟩)],[],0⟩) ⟨⟨rfl,rfl,rfl,rfl,rfl,rfl,rfl,rfl,rfl,rfl,rfl,rfl,rfl,rfl,trivial⟩,t_,rfl,rfl⟩ ?_;refine AL.take 1 (r:=([],⟨(24,⟨.arr 17 (.arr 2 i64),zgg⟩):: [(0,⟨i64,k⟩),(1,⟨i64,f⟩),(9,⟨.arr 2 i64,([1,1099511627776]:List Int)⟩),(10,⟨.arr 2 i64,([1,1099511627776]:List Int)⟩),(12,⟨.arr 2 i64,([0,15]:List Int)⟩),(13,⟨.arr 2 i64,([1,64]:List Int)⟩),(15,⟨.arr 2 i64,([0,511]:List Int)⟩),(17,⟨.arr 2 i64,([0,511]:List Int)⟩),(18,⟨.arr 2 i64,([0,255]:List Int)⟩),(19,⟨.arr 2 i64,([1,3]:List Int)⟩),(20,⟨.arr 2 i64,([0,1099511627776]:List Int)⟩),(21,⟨.arr 2 i64,([0,2251799813685248]:List Int)⟩),(22,⟨.arr 2 i64,([0,18]:List Int)⟩),(23,⟨.arr 2 i64,([1,4]:List Int)⟩)],[],0⟩)) hX zam (by kernel_rfl) t_ ?_;refine zau zam ?_;refine zak (Y':=⟨[(0,⟨i64,k⟩),(1,⟨i64,f⟩),(8,⟨.optr (.arr 17 (.arr 2 i64)),⟨0,.arr 17 (.arr 2 i64),.here⟩⟩)],[(0,some (.box (.arr 17 (.arr 2 i64)) zgg))],1⟩) ⟨⟨rfl,rfl,rfl,t_⟩,⟨rfl,t_⟩,rfl,rfl⟩ ?_;have ef:∀{a b:Int},(a==b)=false->a≠b:=λh e=>by rw[e]at h;simp at h
 apply zap;refine za1 (Y':=⟨[(1,⟨i64,f⟩),(8,⟨.optr (.arr 17 (.arr 2 i64)),⟨0,.arr 17 (.arr 2 i64),.here⟩⟩)],[(0,some (.box (.arr 17 (.arr 2 i64)) (limT k)))],1⟩) ?_ ?_
 .refine zaa (zaa (zab zam ?_));refine zaa (zaa (zab zam ?_));refine zae rfl (λhb=>?_) (λhb=>?_)
  .have e:k=1:=eq_of_beq hb;refine zaa (zab zam ?_);exact⟨⟨rfl,rfl,t_⟩,⟨zaT (lim1 e).symm,t_⟩,rfl,rfl⟩
  have e1:=ef hb;refine zaa (zaa (zab zam ?_));refine zae rfl (λhb=>?_) (λhb=>?_)
  .have e:=eq_of_beq hb;refine zaa ?_;refine zae rfl (λhb=>?_) (λx2=>?_)
   .refine zaa (zab zam ?_);exact⟨⟨rfl,rfl,t_⟩,⟨zaT (lim2 e1 (.inl e)).symm,t_⟩,rfl,rfl⟩
   .exact absurd (hb.symm.trans x2) d_
  have e6:=ef hb;refine zaa (zaa (zab zam ?_));refine zae rfl (λhb=>?_) (λhb=>?_)
  .have e:=eq_of_beq hb;refine zaa (zab zam ?_);exact⟨⟨rfl,rfl,t_⟩,⟨zaT (lim2 e1 (.inr e)).symm,t_⟩,rfl,rfl⟩
  have e7:=ef hb;refine zaa (zaa (zab zam ?_));refine zae rfl (λhb=>?_) (λhb=>?_)
  .have e:=eq_of_beq hb;refine zaa (zaa (zab zam ?_));refine zaa (zab zam ?_);exact⟨⟨rfl,rfl,t_⟩,⟨zaT (lim3 e).symm,t_⟩,rfl,rfl⟩
  have e8:=ef hb;refine zaa (zaa (zab zam ?_));refine zae rfl (λhb=>?_) (λhb=>?_)
  .have e:=eq_of_beq hb;refine zaa (zab zam ?_);exact⟨⟨rfl,rfl,t_⟩,⟨zaT (lim4 e).symm,t_⟩,rfl,rfl⟩
  have x1:=ef hb;apply zaf;exact⟨⟨rfl,rfl,t_⟩,⟨zaT (lim5 e1 o_ e8 x1).symm,t_⟩,rfl,rfl⟩
 refine xN hX 8 ?_;apply zap;refine zcE 10 dM zam rfl ?_;refine zC ⟨.inr rfl,D2 ?_⟩;rfl
def ltC(l:lt.T):List Int:=l.2.2.2.2.2.2.2.2.2.2.2.2.2.2.2.2.2.2.1
def srvB(k:Int):Bool:=bif decide (8<=k) then decide (k<=14) else false
def celG(k:Int)(v:List Int):Prop:=v.length<=1000000/\(∀x∈v,0<=x/\x<=255)/\(srvB k=true->(∀x∈v,x<16)/\∀i,i+1<v.length->v.getD i 0<v.getD (i+1) 0)/\(k=17->v≠ [])
def cVC:Ctr:={ args:=[lt],pre:=λx=>[celG x.1.1 (ltC x.1)],res:=.bool,own:=none,out:=λ_=>true }
theorem zig:yQ zf dG 79 cVC:=by
 refine ctr2 zam Tryz.func79 Tryz.call79 ?_;rintro w0 X hX ⟨(l:lt.T),⟨⟩⟩ hp;obtain⟨v,hv⟩:∃v,v=ltC l:=⟨_,rfl⟩;obtain⟨hl,h1,h2,h3⟩:celG l.1 v:=by rw[hv];exact hp
 change AWP _ _ _ _ _ ⟨[(0,⟨lt,l⟩)],[],0⟩ _;refine zaa (zaa (zab zam ?_));refine xN hX 1 ?_;refine zaa (zaa (zab zam ?_));refine zak (Y':=⟨[(1,⟨.vptr lt,l⟩),(3,⟨.bool,srvB l.1⟩)],[],0⟩) ⟨⟨rfl,rfl,t_⟩,t_,rfl,rfl⟩ ?_;refine zaa (zaa (zab zam ?_));refine zak (Y':=⟨[(1,⟨.vptr lt,l⟩),(3,⟨.bool,srvB l.1⟩),(15,⟨ints,v⟩),(16,⟨i64,((v.length:Nat):Int)⟩),(17,⟨i64,(0:Int)⟩)],[],0⟩) ⟨⟨rfl,rfl,by rw[hv];rfl,by rw[hv];rfl,rfl,t_⟩,t_,rfl,rfl⟩ ?_;refine zaa ?_;refine yK (ι:=Nat) (λk=>⟨[(1,⟨.vptr lt,l⟩),(3,⟨.bool,srvB l.1⟩),(15,⟨ints,v⟩),(16,⟨i64,((v.length:Nat):Int)⟩),(17,⟨i64,(k:Int)⟩)],[],0⟩) (λk=>k<=v.length) (λk=>v.length-k) 0 (zk _) ⟨⟨rfl,rfl,rfl,rfl,rfl,t_⟩,t_,rfl,rfl⟩ ?_;intro k hk;refine zaa (zaa (zab zam ?_));refine zaa ?_;refine zaN rfl (λhb=>?_) (λhb=>?_)
 .have hb:(k:Int)<(v.length:Nat):=hb;have x0:k<v.length:=o_;have n0:(0:Int)<=(k:Int):=o_;have eg:v.getD (k:Int).toNat 0=v[k]:=za4 x0;have hx:=h1 v[k] (qc x0);refine zaa (zaa (zab zam ?_));refine zak (Y':=⟨[(1,⟨.vptr lt,l⟩),(3,⟨.bool,srvB l.1⟩),(4,⟨i64,(k:Int)⟩),(5,⟨i64,v[k]⟩),(15,⟨ints,v⟩),(16,⟨i64,((v.length:Nat):Int)⟩),(17,⟨i64,(k:Int)⟩)],[],0⟩) ⟨⟨rfl,rfl,rfl,vI64 eg,rfl,rfl,rfl,t_⟩,t_,rfl,rfl⟩ ?_;have x3:srvB l.1=true->v[k]<16/\(0<k->v.getD (k-1) 0<v[k]):=λhs=>by
   obtain⟨g1,g2⟩:=h2 hs;refine⟨g1 _ (qc x0),λh0=>?_⟩;have:=g2 (k-1) o_;rwa[show k-1+1=k by omega,zH (i:=k),zR x0]at this
  generalize v[k]=x at hx x3;refine zaa (zaa (zab zam ?_));refine zae rfl (λhb=>?_) (λx2=>?_)
  .have x2:(bif decide (x<0) then true else decide (x>255))=true:=hb;rw[b_or,xO,decide_eq_true_iff,decide_eq_true_iff]at x2;omega
  have q0:inR .i64 ((k:Int)-1):=zah o_ o_;have q1:inR .i64 ((k:Int)+1):=zah o_ o_;cases hs:srvB l.1 with
  |false=>
   refine zaa (zaa (zab zam ?_));refine zae rfl (λhb=>by cases hb) (λ_=>?_);refine zaa ?_;refine zaa (zaa (zab zam ?_));exact⟨k+1,by omega,by omega,⟨rfl,rfl,rfl,rfl,rfl,t_⟩,t_,rfl,rfl⟩
  |true=>
   obtain⟨g1,g2⟩:=x3 hs;have x1:decide (x>=16)=false:=decide_eq_false o_;rcases Nat.eq_zero_or_pos k with rfl|h0
   .refine zaa (zaa (zab zam ?_));refine zae rfl (λhb=>?_) (λ_=>?_)
    .exfalso;revert hb;rw[x1,show decide (((0:Nat):Int)>0)=false from by decide];intro h;cases h
    refine zaa ?_;refine zaa (zaa (zab zam ?_));exact⟨1,by omega,by omega,⟨rfl,rfl,rfl,rfl,rfl,t_⟩,t_,rfl,rfl⟩
   .have qi:(k:Int)-1<((zp (ltC l):Nat):Int):=by rw[<-hv];omega
    have qt:((k:Int)-1).toNat<zp (ltC l):=by rw[<-hv];omega
    refine zaa (zaa (zab zam ?_));refine zae rfl (λhb=>?_) (λ_=>?_)
    .exfalso;revert hb;show(bif true then(bif decide (x>=16) then true else(bif decide (((k:Nat):Int)>0) then decide (x<=zx (ltC l) ((k:Int)-1).toNat 0) else false)) else false)=true->False;rw[x1,show decide (((k:Nat):Int)>0)=true from decide_eq_true o_, <-hv,show((k:Int)-1).toNat=k-1 by omega,show decide (x<=zx v (k-1) 0)=false from decide_eq_false (by have:=g2 h0;omega)];intro h;cases h
    refine zaa ?_;refine zaa (zaa (zab zam ?_));exact⟨k+1,by omega,by omega,⟨rfl,rfl,rfl,rfl,rfl,t_⟩,t_,rfl,rfl⟩
 .
  obtain rfl:k=v.length:=o_;refine zaa ?_;refine zaa (zaa (zab zam ?_));refine zC ⟨.inr rfl,D1 ?_⟩;show(bif l.1 != 17 then true else decide (((zp (ltC l):Nat):Int)>0))=true;rw[<-hv];by_cases e:l.1=17
  .have:0<v.length:=List.length_pos_iff.2 (h3 e);rw[show decide (((v.length:Nat):Int)>0)=true from decide_eq_true o_];cases (l.1 != 17)<;>rfl
  .rw[show(l.1 != 17)=true from bne_iff_ne.2 e];rfl
def zeG(b:List UInt8)(k:Nat):List (BitVec 32):=zcQ b k++zg (64-k) 0
theorem zep(b:List UInt8)(k j:Nat)(hj:j<k)(d:BitVec 32):(zeG b k).getD j d=(zcQ b k).getD j 0:=by
 have hl:=zb4 b k;simp[zeG,zx,List.getElem?_append,hl,hj]
theorem zhR(b:List UInt8)(k:Nat)(hk:k<64):(zeG b k).set k (ze1 b (zcQ b k))=zeG b (k+1):=by
 have hl:=zb4 b k;have e:64-k=(64-(k+1))+1:=o_;simp only[zeG,zcQ];rw[e,uv,qW _ _ o_];simp[hl]
def zpe:Ctr:={ args:=[bs],pre:=λx=>[zp x.1=64],res:=.arr 64 u32,own:=none,out:=λx=>zcQ x.1 64 }
abbrev arr8:Ty:=.arr 8 u32
abbrev zhG:Ty:=.arr 64 u32
def stOf(l:List (BitVec 32)):St:=⟨l.getD 0 0,l.getD 1 0,l.getD 2 0,l.getD 3 0,l.getD 4 0,l.getD 5 0,l.getD 6 0,l.getD 7 0⟩
def mixL(s t:List (BitVec 32))(i:Nat):List (BitVec 32):=(xQ 8).map λj=>if j<i then t.getD j 0+s.getD j 0 else t.getD j 0
theorem zqh(s t:List (BitVec 32))(i:Nat)(h:i<8):(mixL s t i).set i ((mixL s t i).getD i 0+s.getD i 0)=mixL s t (i+1):=by
 rcases (by omega:i=0\/i=1\/i=2\/i=3\/i=4\/i=5\/i=6\/i=7) with rfl|rfl|rfl|rfl|rfl|rfl|rfl|rfl<;>rfl
theorem zro(n:Nat):((n:Int)).tmod 64=((n%64:Nat):Int):=rfl
theorem zkr(n i:Nat)(h:n<=2000000)(hi:i<8):zM (BitVec.toNat ((zW 64 8*zV 64 (n:Int)) >>> (8*(i:Int)).toNat))=zb6 n i:=by
 unfold zb6
 congr 1
 rw[BitVec.toNat_ushiftRight,Nat.shiftRight_eq_div_pow,BitVec.toNat_mul,BitVec.toNat_ofInt,xA];rw[show(8*(i:Int)).toNat=8*i by omega]
 congr 1
 omega
theorem zpp(n j:Nat)(hj:j<8):(be64 n).take (j+1)=(be64 n).take j++[zb6 n (7-j)]:=by
 rcases (by omega:j=0\/j=1\/j=2\/j=3\/j=4\/j=5\/j=6\/j=7) with rfl|rfl|rfl|rfl|rfl|rfl|rfl|rfl<;>rfl
def digL(s:St)(i:Nat):List UInt8:=(xQ i).map (zex s)++zg (32-i) 0
theorem zqM(s:St)(i:Nat)(h:i<32):(digL s i).set i (zex s i)=digL s (i+1):=by
 unfold digL;rw[qW _ _ (by simp)];simp only[List.length_map,List.length_range,Nat.sub_self,List.range_succ,xX,List.append_assoc,qN,List.map_nil];rw[show 32-i=(32-(i+1))+1 by omega,uv];rfl
theorem zmF(t:St):stOf (zbd t)=t:=rfl
end
end Go.Proofs.YtdjjmoenpjlfeaaGreatDoor
