/-
  Texts of this claim, joined: what the statement's proof uses.
-/
import Derived.Test.YthbecdbmifchiaaGreatDoorXD
set_option linter.unusedSimpArgs false
set_option linter.unusedVariables false
set_option maxRecDepth 100000
open Array renaming getD -> vm,getElem?_eq_some_iff -> zl,getElem?_setIfInBounds -> xO,replicate -> zD,toList -> uf
open BitVec renaming ofInt -> xU
open Bool renaming and_eq_true -> zf,eq_iff_iff -> zY
open ByteArray renaming data_extract -> uj,ext -> bi,mk -> pw
open Go renaming FuncId -> zV,Operand -> zB,Program -> zw,TypeId -> zo,Value -> zd,World -> zh,isAgg -> ku,sizeOf -> vA,wpIn_mono -> zT
open Go.Addr renaming add_mid -> xF
open Go.Ending renaming returned -> pY
open Go.Extern.BytealgIndexByte renaming indexByte -> fL
open Go.Fence renaming wide -> yD
open Go.Instr renaming box -> fc,lookup -> kC,mapUpdate -> kO,storeAt -> vR,sureAddr -> qA
open Go.Lib renaming indexByte -> qQ
open Go.MapKept renaming run_getObj_map -> ka,run_setObj_map -> gI
open Go.Oper renaming wp_mono -> wa
open Go.Operand renaming const -> bh
open Go.Program renaming keyLits -> pX
open Go.Proofs.Tryz renaming prog -> zb,underlying147 -> kY,underlying148 -> vr,underlying152 -> kX,underlying156 -> fK
open Go.Proofs.YthbecdbmifchiaaGreatDoor renaming CtrOk -> yT,Frame -> zN,StepK -> vz,frzB -> jE
open Go.Proofs.YthbecdbmifchiaaGreatDoor.AL renaming fit -> jp,guardF -> qE,guardT -> xE,nil -> yQ,own -> yZ,step -> kD,take -> vu
open Go.Proofs.YthbecdbmifchiaaGreatDoor.AWP renaming frzB -> ql,go -> za,loop -> xP,ret -> zp
open Go.Proofs.YthbecdbmifchiaaGreatDoor.AWPD renaming block -> fJ,of -> uu,rename -> pU,seq -> ut
open Go.Proofs.YthbecdbmifchiaaGreatDoor.AllI renaming s -> zA
open Go.Proofs.YthbecdbmifchiaaGreatDoor.Ownr renaming marked -> xB,plain -> jj,plain_noR -> ji
open Go.Proofs.YthbecdbmifchiaaGreatDoor.Owns renaming get -> zm
open Go.Proofs.YthbecdbmifchiaaGreatDoor.QC renaming of -> uW
open Go.Proofs.YthbecdbmifchiaaGreatDoor.RepD renaming agg -> qr
open Go.Proofs.YthbecdbmifchiaaGreatDoor.RepV renaming int -> je,keep -> zZ
open Go.Proofs.YthbecdbmifchiaaGreatDoor.RsOk renaming nil -> vp
open Go.Proofs.YthbecdbmifchiaaGreatDoor.StepA renaming eval -> zX
open Go.Proofs.YthbecdbmifchiaaGreatDoor.StepK renaming eval -> zx,val -> vW
open Go.Proofs.YthbecdbmifchiaaGreatDoor.StepN renaming eval -> uG
open Go.Proofs.YthbecdbmifchiaaGreatDoor.StepQ renaming of -> qN
open Go.Result renaming andThen -> jr,andThen_ok -> zG
open Go.RowKit renaming Below -> xG
open Go.RowKit.Below renaming heap_setCell -> qW,refl -> zR
open Go.Sem renaming run_bind -> zK,run_pure -> zF
open Go.Value renaming agg -> bk,cells -> vI,int -> qc,map -> ue,nilFunc -> jq,ownBlock -> uv,pointer -> yO,slice -> wW
open Go.Value.agg renaming inj -> w7
open Go.World renaming alloc_heap_new -> qa,cell? -> qi,cell?_of_block -> qV,putObj_heap_other -> yA,putObj_heap_same -> qL
open Int renaming add_zero -> vN,emod_lt_of_pos -> xS,le_refl -> yS,natCast_nonneg -> yM,reduceEq -> yV,toNat_natCast -> zH
open List renaming append_assoc -> zz,append_nil -> zW,cons_append -> ja,filterMap_append -> ux,filterMap_cons -> uX,getD_eq_getElem?_getD -> zu,getElem?_append_right -> qD,getElem?_eq_getElem -> zI,getElem?_eq_some_iff -> yI,getElem_mem -> xN,length -> zi,length_append -> zg,length_cons -> zv,length_drop -> qC,length_nil -> yC,length_replicate -> qv,length_singleton -> xI,map_cons -> qH,map_nil -> we,map_toArray -> uD,mem_cons -> zs,mem_cons_of_mem -> zE,mem_cons_self -> zC,mem_map -> jK,mem_map_of_mem -> jh,mem_nil_iff -> qd,mem_of_getElem? -> xX,mem_or_eq_of_mem_set -> kH,mem_singleton -> zt,nil_append -> xH,not_mem_nil -> jd,range -> qB,replicate -> zr
open Nat renaming beq_eq -> xV,blt -> zM,le_of_ble_eq_true -> zq,le_refl -> zj,le_trans -> zJ,lt_of_lt_of_le -> zy,not_lt_zero -> yH,zero_add -> yL,zero_le -> zk
open Option.some renaming inj -> zP
open Prod.mk renaming injEq -> qG
open True renaming intro -> qU
open Go Go.RowKit
namespace Go.Proofs.YthbecdbmifchiaaGreatDoor
section
set_option maxRecDepth 10000
theorem zw9:yT zb gmH 164 cNan:=by
 refine ctr2 zaj Tryz.func164 Tryz.call164 ?_;rintro w0 O hX ⟨(a:Int),_⟩ hp;change AWP _ _ _ _ _ ⟨[(0,⟨i64,a⟩)],[],0⟩ _
 iterate 2 (refine za (za (zaa zaj ?_)))
 refine zp ⟨.inr rfl,D1 ?_⟩;show(a != a)=false;simp
def zA2:Kn:={ gmK with C:=[(186,cNan)] }
theorem zoJ:KnOk zb gmH zA2:=zaj.with (.cons zxa .nil)
theorem zxp:yT zb gmH 163 zz0:=by
 refine ctr2 zoJ Tryz.func163 Tryz.call163 ?_;rintro w0 O hX ⟨a,b,_⟩ hp
 iterate 2 (refine za (za (zaa zoJ ?_)))
 exact zp ⟨.inr rfl,D1 rfl⟩
def bsT:Tbl:=(205,.int .u64)::gmT
theorem zAl:TOk zb bsT gmQ:=zid (by kernel_rfl) (by kernel_rfl)
def cBs:Ctr:={ args:=[ints,i64],pre:=λx=>[incL x.1,x.1.length<=1000000],res:=.tup i64 (.tup .bool .unit),own:=none,out:=λx=>((posL x.1 x.2.1:Int),decide (x.2.1∈x.1),()) }
def kBs:Kn:={ T:=bsT,Q:=gmQ,U0:=gmU,C:=[(163,zz0),(164,cNan)] }
theorem zhA:KnOk zb gmH kBs:=⟨zAl,zdm,.cons zxp (.cons zw9 .nil),zcb,vp⟩
theorem zxG{i j:Nat}(h:i+j<9223372036854775808):((xU 64 ((i:Int)+(j:Int)) >>> 1:BitVec 64).toNat:Int)=(((i+j)/2:Nat):Int):=by
 have e:xU 64 ((i:Int)+(j:Int))=BitVec.ofNat 64 (i+j):=by
  rw[show((i:Int)+(j:Int))=((i+j:Nat):Int) by omega];exact zeY _ _
 rw[e];simp only[BitVec.toNat_ushiftRight,BitVec.toNat_ofNat,Nat.shiftRight_succ,Nat.shiftRight_zero];rw[Nat.mod_eq_of_lt o_]
theorem zBm:yT zb gmH 135 cBs:=by
 refine ctr2 zhA Tryz.func135 Tryz.call135 ?_;rintro w0 O hX ⟨(l:List Int),(t:Int),_⟩ hp;obtain⟨hp,hl⟩:incL l/\l.length<=1000000:=hp;change AWP _ _ _ _ _ ⟨[(0,⟨ints,l⟩),(1,⟨i64,t⟩)],[],0⟩ _
 iterate 3 (refine za (za (zaa zhA ?_)))
 refine za (za ?_);refine xP (ι:=Nat×Nat) (λp=>⟨[(0,⟨ints,l⟩),(1,⟨i64,t⟩),(6,⟨i64,(l.length:Int)⟩),(7,⟨i64,(p.1:Int)⟩),(8,⟨i64,(p.2:Int)⟩)],[],0⟩) (λp=>p.1<=p.2/\p.2<=l.length/\(∀k,k<p.1->l.getD k 0<t)/\∀k,p.2<=k->k<l.length->¬l.getD k 0<t) (λp=>p.2-p.1) (0,l.length) ⟨zk _,zj _,λk h=>absurd h (yH _),λk h1 h2=>by have h1:l.length<=k:=h1;omega⟩ ⟨⟨rfl,rfl,rfl,rfl,rfl,t_⟩,t_,rfl,rfl⟩ ?_;rintro ⟨i,j⟩ ⟨x7,x3,x1,x2⟩;have x7:i<=j:=x7;have x3:j<=l.length:=x3;have x1:∀k,k<i->l.getD k 0<t:=x1;have x2:∀k,j<=k->k<l.length->¬l.getD k 0<t:=x2;refine za (za (zaa zhA ?_));refine za (za ?_);refine zaU rfl (λhb=>?_) (λhb=>?_)
 .have hb:(i:Int)<(j:Int):=hb;apply zah;have q1:inR .i64 ((i:Int)+(j:Int)):=zad o_ o_;obtain⟨m,hm⟩:∃m,m=(i+j)/2:=⟨_,rfl⟩;have hh:((xU 64 ((i:Int)+(j:Int)) >>> (1:Int).toNat:BitVec 64).toNat:Int)=(m:Int):=by rw[hm];exact zxG o_
  have q2:inR .i64 (((xU 64 ((i:Int)+(j:Int)) >>> (1:Int).toNat:BitVec 64).toNat:Nat):Int):=by rw[hh];exact zad o_ o_
  have q0:(0:Int)<=1:=d_;have x8:i<=m/\m<j:=o_;have q3:inR .i64 ((m:Int)+1):=zad o_ o_;have x4:l.getD (m:Int).toNat 0=l.getD m 0:=by rw[zH]
  refine za (za (zaa zhA ?_));refine zak (Y':=⟨[(0,⟨ints,l⟩),(1,⟨i64,t⟩),(6,⟨i64,(l.length:Int)⟩),(7,⟨i64,(i:Int)⟩),(8,⟨i64,(j:Int)⟩),(9,⟨i64,(m:Int)⟩)],[],0⟩) ⟨⟨rfl,rfl,rfl,rfl,rfl,vI64 hh,t_⟩,t_,rfl,rfl⟩ ?_;refine za (za ?_);refine zac hX zhA rfl ?_ ?_
  .exact⟨yM m,show(m:Int)<(l.length:Int) by omega⟩
  refine zaU rfl (λx0=>?_) (λx0=>?_)
  .have x0:l.getD (m:Int).toNat 0<t:=x0;rw[x4]at x0;refine za (za (zaa zhA ?_));refine⟨(m+1,j),⟨by show m+1<=j;omega,x3,λk hk=>?_,x2⟩,by show j-(m+1)<j-i;omega,⟨rfl,rfl,rfl,vI64 rfl,rfl,t_⟩,t_,rfl,rfl⟩;have hk:k<m+1:=hk;by_cases e:k=m
   .rw[e];exact x0
   .have:=hp k m o_ o_;omega
  .have x0:¬(l.getD (m:Int).toNat 0<t):=x0;rw[x4]at x0;refine za (za (zaa zhA ?_));refine⟨(i,m),⟨x8.1,by show m<=l.length;omega,x1,λk hk xa=>?_⟩,by show m-i<j-i;omega,⟨rfl,rfl,rfl,rfl,rfl,t_⟩,t_,rfl,rfl⟩;have hk:m<=k:=hk;by_cases e:k=m
   .rw[e];exact x0
   .have:=hp m k o_ xa;omega
 .have hb:¬((i:Int)<(j:Int)):=hb;have e:i=j:=o_;subst e;have x5:posL l t=i:=zri x3 x1 (λh=>x2 i (zj _) h);have x4:l.getD (i:Int).toNat 0=l.getD i 0:=by rw[zH]
  have z0:(0:Int)<=(i:Int):=yM i;apply zaw;refine za (za ?_);refine zac hX zhA rfl ?_ ?_
  .have x6:decide ((i:Int)<(l.length:Int))=true->(i:Int)<(l.length:Int):=of_decide_eq_true;show allP _;generalize decide ((i:Int)<(l.length:Int))=b1 at x6 ⊢;generalize (l.getD (i:Int).toNat (zav i64)==t)=b2;cases b1<;>cases b2<;>repeat'(first|exact t_|assumption|exact z0|exact x6 rfl|(refine⟨?_,?_⟩)|(intro _)|rfl|(simp_all [allP,cNan];done))
  refine zp ⟨.inr rfl,D2 ?_⟩;show((i:Int),(bif decide ((i:Int)<(l.length:Int)) then(bif (l.getD (i:Int).toNat 0==t) then true else false) else false),())=((posL l t:Int),decide (t∈l),());rw[x5,x4];have e2:(bif decide ((i:Int)<(l.length:Int)) then(bif (l.getD i 0==t) then true else false) else false)=decide (t∈l):=by
   rw[zcR,zY,zf,decide_eq_true_iff,decide_eq_true_iff,cond_eq_ite];constructor
   .rintro ⟨h1,h2⟩;split at h2
    .rename_i h3;have h3:l.getD i 0=t:=beq_iff_eq.1 h3;rw[<-h3];exact zk2 o_
    .cases h2
   .intro h;obtain⟨k,hk,xb⟩:=List.getElem_of_mem h;have hg:l.getD k 0=t:=by rw[zu,zI hk];exact xb
    have x9:k=i:=by
     have h1:¬k<i:=λh=>by have:=x1 k h;omega
     have h2:¬i<k:=λh=>by
      have h3:=hp i k h hk;have h4:=x2 i (zj _) o_;omega
     omega
    subst x9;exact⟨by omega,by rw[if_pos (beq_iff_eq.2 hg)]⟩
  rw[e2]
def cLsd:Ctr:={ args:=[ints,i64],pre:=λx=>[incL x.1,x.1.length<=1000000],res:=.bool,own:=none,out:=λx=>decide (x.2.1∈x.1) }
def kLsd:Kn:={ gmK with C:=[(135,cBs)] }
theorem zsb:KnOk zb gmH kLsd:=zaj.with (.cons zBm .nil)
theorem zzm:yT zb gmH 119 cLsd:=by
 refine ctr2 zsb Tryz.func119 Tryz.call119 ?_;rintro w0 O hX ⟨l,t,_⟩ hp;obtain⟨hp,hl⟩:=hp
 iterate 3 (refine za (za (zaa zsb ?_)))
 exact zp ⟨.inr rfl,D1 rfl⟩
theorem KnOk.sub{P:zw}{G G':zh->Prop}{K:Kn}(hK:KnOk P G K)(hG:∀w,G' w->G w)(x0:∀w w',G' w->xG w.heap.size w w'->G' w'):KnOk P G' K:=
 ⟨hK.t,hK.u,λf c hc=>⟨(hK.c f c hc).1,λw O xs vs hO hr hp hg=>(hK.c f c hc).2 w O xs vs hO hr hp (hG w hg)⟩,x0,λf c hc=>⟨⟨(hK.r f c hc).1.1,λw O g cs ty x xs vs h1 h2 h3 h4 h5 h6 h7=>(hK.r f c hc).1.2 w O g cs ty x xs vs h1 h2 h3 h4 h5 h6 (hG w h7)⟩,(hK.r f c hc).2⟩⟩
section
variable {P:zw}{a:Act}{w:zh}
theorem zkL{o:Oper}{x:zB}{A:Addr}(h:o.op=.nilCheck x)(hx:a.eval x=.pointer (some A)):(execOp a.eval o).run P w=.ok (.value (.pointer (some A))) w:=by
 unfold execOp;simp[h,hx]
theorem zk5{o:Oper}{s:zo}{x:zB}{g k m:Nat}{fs:Array Field}{f:Field}(h:o.op=.fieldAddr s x k)(hx:a.eval x=.pointer (some ⟨g,0,none⟩))(hu:P.underlying s=some (.struct fs))(hf:fs[k]? =some f)(hz:∀w,(vA f.type).run P w=.ok (m+1) w):(execOp a.eval o).run P w=.ok (.value (.pointer (some ⟨g,f.offset,none⟩))) w:=by
 have e:(Instr.fieldAt s (.pointer (some ⟨g,0,none⟩)) k).run P w=.ok (.pointer (some ⟨g,f.offset,none⟩)) w:=by
  unfold Instr.fieldAt;simp only[zK,run_underlying hu,zG,hf,qA,zF,fieldPlace,hz];rw[if_neg o_];show Result.ok (yO (some ((⟨g,0,none⟩:Addr).add f.offset))) w=_;rw[xF,yL]
 unfold execOp;simp only[h,hx];exact zbz e
theorem ziL{o:Oper}{t:zo}{x:zB}{g off:Nat}{u:zd}(h:o.op=.load t x)(hx:a.eval x=.pointer (some ⟨g,off,none⟩))(ha:∀w,(ku t).run P w=.ok false w)(hc:w.cell? ⟨g,off,none⟩=some u):(execOp a.eval o).run P w=.ok (.value u) w:=by
 have e:(Instr.loadAt t (.pointer (some ⟨g,off,none⟩))).run P w=.ok u w:=by
  unfold Instr.loadAt qA Go.loadVar;simp[zK,ha,load,Sem.run,hc]
 unfold execOp;simp only[h,hx];exact zbz e
theorem zxv{o:Oper}{xt te:zo}{x y:zB}{g L c:Nat}{i:Int}(h:o.op=.indexAddr xt x y)(hu:P.underlying xt=some (.slice te))(hs:∀w,(vA te).run P w=.ok 1 w)(hx:a.eval x=.slice (some ⟨g,0,none⟩) L c)(hy:a.eval y=.int .i64 i)(h0:0<=i)(h1:i<L):(execOp a.eval o).run P w=.ok (.value (.pointer (some ⟨g,i.toNat,none⟩))) w:=by
 unfold execOp;simp only[h,hx,hy];have:=zcN (P:=P) (w:=w) (k:=.i64) (A:=⟨g,0,none⟩) (n:=L) (c:=c) hu (hs w) h0 h1;rw[xF,yL,Nat.mul_one]at this;exact zbz this
end
structure EvC where
 wB:zh
 m:Nat
 be:Nat
 bs:Nat
 cap:Nat
 rV:zd
 rs:List Nd
 cs:List Cal
 H:Int->Int->Bool
def EvC.ev(C:EvC):zd:=.pointer (some ⟨C.be,0,none⟩)
def evFs:List zV:=[85,86,87,88,89,90,91,92,93,94,95,96,96,97,98,99,100]
def EvC.kinds(C:EvC):List zd:=.nilFunc::(evFs.map λf=>.func (.func f) #[C.ev] #[])++[.nilFunc]
structure EvOk(C:EvC):Prop where
 g1:C.m≠3
 g2:C.m≠5
 ml:C.m<C.wB.heap.size
 bl:C.be<C.wB.heap.size
 bm:C.be≠C.m
 sl:C.bs<C.wB.heap.size
 sm:C.bs≠C.m
 var:CellsAt C.wB C.be 0 ([C.rV,.slice (some ⟨C.bs,0,none⟩) C.cs.length C.cap,.map (some C.m)]++C.kinds)
 rule:RepD C.wB (λg=>g=C.m) (.slice nd) C.rs C.rV
 eras:∀i c,C.cs[i]? =some c->∃v,C.wB.cell? ⟨C.bs,i,none⟩=some v/\RepV C.wB (λg=>g=C.m) (λ_=>undef) (.vptr eraT) (eraS c) v
 cals:∀c∈C.cs,zbv c
def qKey(a b:Int):zd:=.agg #[.int .i64 a,.int .i64 b]
abbrev qI(H:Int->Int->Bool)(es:List (zd×zd)):Prop:=∀e∈es,∃a b,inR .i64 a/\inR .i64 b/\e=(qKey a b,.bool (H a b))
abbrev EvC.ctx(C:EvC):MCtx:=⟨gmH,C.wB,C.m,qI C.H⟩
theorem EvOk.hG{C:EvC}(hC:EvOk C)(w w':zh)(h:gmH w)(hk:Kept (λg=>g=C.m) w w'):gmH w':=zfx (λe=>hC.g1 e.symm) (λe=>hC.g2 e.symm) h hk
theorem EvC.st_below{C:EvC}(hC:EvOk C)(w w':zh)(h:C.ctx.st w)(hb:xG w.heap.size w w'):C.ctx.st w':=⟨zcb w w' h.1 hb,h.2.trans (zqf hb)⟩
theorem EvC.kn{C:EvC}(hC:EvOk C){K:Kn}(hK:KnOk zb gmH K):KnOk zb C.ctx.st K:=hK.sub (λ_ h=>h.1) (C.st_below hC)
section
variable {C:EvC}{w0:zh}{n:Nat}{Y:AS}{U:Nat->zd}{a:Act}{w:zh}
theorem EvC.keeps(x0:C.ctx.st w0)(hs:Sim w0 C.ctx.own n Y U a w):Keeps C.wB w (λg=>g=C.m) (OSet C.ctx.own Y.E U):=by
 have h1:=x0.2.trans (C.ctx.own_R'▸hs.bel);refine⟨h1.size,λg hg hn=>h1.block g hg hn,λg hg ho=>?_⟩;rcases ho with h|⟨i,o,hi,hb⟩
 .exact h.elim
 .rcases hs.new i o g hi hb with h2|h2
  .have h3:C.wB.heap.size<=w0.heap.size:=x0.2.size;omega
  .exact C.ctx.own_R.1 h2
theorem EvC.cell(hC:EvOk C)(x0:C.ctx.st w0)(hs:Sim w0 C.ctx.own n Y U a w){k:Nat}{u:zd}(hk:([C.rV,.slice (some ⟨C.bs,0,none⟩) C.cs.length C.cap,.map (some C.m)]++C.kinds)[k]? =some u):w.cell? ⟨C.be,k,none⟩=some u:=by
 have h1:=(C.keeps x0 hs).block _ hC.bl hC.bm;have h2:=(hC.var.keep h1) k u hk;rwa[yL]at h2
theorem EvC.eraAt(hC:EvOk C)(x0:C.ctx.st w0)(hs:Sim w0 C.ctx.own n Y U a w){i:Nat}{c:Cal}(hi:C.cs[i]? =some c):∃v,w.cell? ⟨C.bs,i,none⟩=some v/\RepV w (OSet C.ctx.own Y.E U) U (.vptr eraT) (eraS c) v:=by
 obtain⟨v,h1,h2⟩:=hC.eras i c hi;have hk:=C.keeps x0 hs;refine⟨v,(qV (w:=C.wB) (hk.block _ hC.sl hC.sm)).trans h1,?_⟩;have h3:=zZ hk _ _ _ h2;exact h3
theorem EvC.ruleAt(hC:EvOk C)(x0:C.ctx.st w0)(hs:Sim w0 C.ctx.own n Y U a w):RepV w (OSet C.ctx.own Y.E U) U (.slice nd) C.rs C.rV:=zZ (C.keeps x0 hs) (.slice nd) _ _ (U:=U) hC.rule
end
theorem evF0{a:Act}{w:zh}{o:Oper}{x:zB}{g:Nat}(h:o.op=.fieldAddr 152 x 0)(hx:a.eval x=.pointer (some ⟨g,0,none⟩)):(execOp a.eval o).run zb w=.ok (.value (.pointer (some ⟨g,0,none⟩))) w:=zk5 (m:=0) h hx kX rfl (λw=>by kernel_rfl)
theorem evF1{a:Act}{w:zh}{o:Oper}{x:zB}{g:Nat}(h:o.op=.fieldAddr 152 x 1)(hx:a.eval x=.pointer (some ⟨g,0,none⟩)):(execOp a.eval o).run zb w=.ok (.value (.pointer (some ⟨g,1,none⟩))) w:=zk5 (m:=0) h hx kX rfl (λw=>by kernel_rfl)
theorem evF2{a:Act}{w:zh}{o:Oper}{x:zB}{g:Nat}(h:o.op=.fieldAddr 152 x 2)(hx:a.eval x=.pointer (some ⟨g,0,none⟩)):(execOp a.eval o).run zb w=.ok (.value (.pointer (some ⟨g,2,none⟩))) w:=zk5 (m:=0) h hx kX rfl (λw=>by kernel_rfl)
theorem evF3{a:Act}{w:zh}{o:Oper}{x:zB}{g:Nat}(h:o.op=.fieldAddr 152 x 3)(hx:a.eval x=.pointer (some ⟨g,0,none⟩)):(execOp a.eval o).run zb w=.ok (.value (.pointer (some ⟨g,3,none⟩))) w:=zk5 (m:=18) h hx kX rfl (λw=>by kernel_rfl)
theorem zwi:∀w,(ku 148).run zb w=.ok false w:=λw=>by kernel_rfl
theorem zAq:∀w,(ku 153).run zb w=.ok false w:=λw=>by kernel_rfl
theorem zwJ:∀w,(vA 153).run zb w=.ok 1 w:=λw=>by kernel_rfl
def EvC.pt(C:EvC)(k:Nat):zd:=.pointer (some ⟨C.be,k,none⟩)
def EvC.erV(C:EvC):zd:=.slice (some ⟨C.bs,0,none⟩) C.cs.length C.cap
def EvC.erP(C:EvC)(i:Nat):zd:=.pointer (some ⟨C.bs,i,none⟩)
section
variable {C:EvC}{w0:zh}{n:Nat}{Q:Exit->AS->Prop}{ops:Array Oper}{B:zN}{L:List (Nat×Nat×V)}{E0:Owns}{nx0 i:Nat}
theorem EvC.kNil(o:Oper)(ho:ops.toList[i]? =some o){x:zB}(x1:o.op=.nilCheck x)(x2:o.guard=none){d:Nat}(x0:o.dst=some d)(x3:zM d n=true)(hL:∀G,resJ L i G=(d,⟨.lit,C.ev⟩)::G)(hx:∀F,evO (zbT B L o++F) x=⟨.lit,C.ev⟩):vz zb w0 C.ctx.own n ops Q B L E0 nx0 i:=
 vW o ho x2 x0 x3 ⟨.lit,C.ev⟩ rfl hL λF U a w hs=>⟨C.ev,zkL x1 (zb1 hs (hx F)),rfl⟩
theorem EvC.kFld1(o:Oper)(ho:ops.toList[i]? =some o){x:zB}(x1:o.op=.fieldAddr 152 x 1)(x2:o.guard=none){d:Nat}(x0:o.dst=some d)(x3:zM d n=true)(hL:∀G,resJ L i G=(d,⟨.lit,C.pt 1⟩)::G)(hx:∀F,evO (zbT B L o++F) x=⟨.lit,C.ev⟩):vz zb w0 C.ctx.own n ops Q B L E0 nx0 i:=
 vW o ho x2 x0 x3 ⟨.lit,C.pt 1⟩ rfl hL λF U a w hs=>⟨C.pt 1,evF1 x1 (zb1 hs (hx F)),rfl⟩
theorem EvC.kEras(hC:EvOk C)(x4:C.ctx.st w0)(o:Oper)(ho:ops.toList[i]? =some o){x:zB}(x1:o.op=.load 148 x)(x2:o.guard=none){d:Nat}(x0:o.dst=some d)(x3:zM d n=true)(hL:∀G,resJ L i G=(d,⟨.lit,C.erV⟩)::G)(hx:∀F,evO (zbT B L o++F) x=⟨.lit,C.pt 1⟩):vz zb w0 C.ctx.own n ops Q B L E0 nx0 i:=
 vW o ho x2 x0 x3 ⟨.lit,C.erV⟩ rfl hL λF U a w hs=>⟨C.erV,ziL x1 (zb1 hs (hx F)) zwi (C.cell hC x4 hs (k:=1) rfl),rfl⟩
theorem EvC.kIdx(o:Oper)(ho:ops.toList[i]? =some o){x y:zB}{k:Int}(x1:o.op=.indexAddr 148 x y)(x2:o.guard=none){d:Nat}(x0:o.dst=some d)(x3:zM d n=true)(hL:∀G,resJ L i G=(d,⟨.lit,C.erP k.toNat⟩)::G)(hx:∀F,evO (zbT B L o++F) x=⟨.lit,C.erV⟩)(hy:∀F,evO (zbT B L o++F) y=⟨i64,k⟩)(h0:0<=k)(h1:k<C.cs.length):vz zb w0 C.ctx.own n ops Q B L E0 nx0 i:=
 vW o ho x2 x0 x3 ⟨.lit,C.erP k.toNat⟩ rfl hL λF U a w hs=>⟨C.erP k.toNat,zxv x1 vr zwJ (zb1 hs (hx F)) (by
  have h2:=hs.ops y;rw[show evO (AS.mk _ E0 nx0).F y=_ from hy F]at h2;exact je h2) h0 h1,rfl⟩
theorem EvC.kEra(hC:EvOk C)(x4:C.ctx.st w0)(o:Oper)(ho:ops.toList[i]? =some o){x:zB}{k:Nat}{c:Cal}(hc:C.cs[k]? =some c)(x1:o.op=.load 153 x)(x2:o.guard=none){d:Nat}(x0:o.dst=some d)(x3:zM d n=true)(hL:∀G,resJ L i G=(d,⟨.vptr eraT,eraS c⟩)::G)(hx:∀F,evO (zbT B L o++F) x=⟨.lit,C.erP k⟩):vz zb w0 C.ctx.own n ops Q B L E0 nx0 i:=
 vW o ho x2 x0 x3 ⟨.vptr eraT,eraS c⟩ rfl hL λF U a w hs=>by
  obtain⟨v,h1,h2⟩:=C.eraAt hC x4 hs hc;exact⟨v,ziL x1 (zb1 hs (hx F)) zAq h1,h2⟩
end
def cEv(C:EvC)(pre:Nd->Int->Prop)(out:Nd->Int->Bool):MCtr:={ args:=[.lit,nd,i64],pre:=λx=>[x.1=C.ev,pre x.2.1 x.2.2.1],out:=λx=>out x.2.1 x.2.2.1 }
def nCal(n:Nd):Int:=n.2.1
def nL(n:Nd):Int:=n.2.2.1
def nR(n:Nd):Int:=n.2.2.2.1
def nN(n:Nd):Int:=n.2.2.2.2.1
def nM(n:Nd):Int:=n.2.2.2.2.2.1
def nLs(n:Nd):List Int:=n.2.2.2.2.2.2.1
def zi1(d:Int):Prop:=0<=d/\d<=1048576
def zv4(n:Nd)(d:Int):Bool:=bif decide (d>=nM n) then(d-nM n).tmod (nN n)==0 else false
def zsP(n:Nd)(d:Int):Prop:=zi1 d/\1<=nN n/\0<=nM n/\nM n<=1099511627776
theorem zuV{C:EvC}(hC:EvOk C):MOk zb C.ctx 85 (cEv C zsP zv4):=by
 have hK:=C.kn hC zaj;refine zbf (K:=gmK) hC.hG hK Tryz.func85 rfl rfl Tryz.call85 rfl (zq rfl) ?_;rintro w0 hX x3 ⟨e,n,d,_⟩ hp;obtain⟨rfl,⟨x1,x4⟩,hN,x2,x0⟩:e=C.ev/\zsP n d:=hp;change AWP _ _ _ _ _ ⟨[(0,⟨.lit,C.ev⟩),(1,⟨nd,n⟩),(2,⟨i64,d⟩)],[(0,some (.mp C.m C.ctx.I))],1⟩ _;refine za (za (zaa hK ?_));refine ql hX 4 ?_;have q1:inR .i64 (d-nM n):=zad o_ o_;have q2:nN n≠0:=o_;refine za (za ?_);refine zac hX hK rfl ?_ ?_
 .show allP _;exact z_
 exact zp ⟨.inr rfl,rfl,D1 rfl⟩
abbrev znv(l:List Int):Prop:=incL l/\l.length<=1000000
def wkdS(n:Nd)(d:Int):Bool:=decide (d%7∈nLs n)
def wkdP(n:Nd)(d:Int):Prop:=zi1 d/\znv (nLs n)
def kEv:Kn:={ erK with C:=[(121,cWkd),(119,cLsd),(118,zz9),(120,cMoL),(122,cScp)] }
theorem zdI:KnOk zb gmH kEv:=zfR.with (.cons zpm.lift (.cons zzm (.cons zxY (.cons zvO (.cons zyY .nil)))))
set_option maxHeartbeats 8000000 in
theorem zyO{C:EvC}(hC:EvOk C):MOk zb C.ctx 89 (cEv C wkdP wkdS):=by
 have hK:=C.kn hC zdI;refine zbf (K:=kEv) hC.hG hK Tryz.func89 rfl rfl Tryz.call89 rfl (zq rfl) ?_;rintro w0 hX x0 ⟨e,n,d,_⟩ hp;obtain⟨rfl,⟨x2,x1⟩,hl⟩:=hp;refine za (za (zaa hK ?_));refine ql hX 4 ?_;refine za (za (zdn 6 dM hK rfl ?_));exact zp ⟨.inr rfl,rfl,D1 rfl⟩
def zbh(cs:List Cal)(n:Nd):Cal:=cs.getD (nCal n).toNat (0,[],0,[],())
def zhM(cs:List Cal)(n:Nd):Prop:=0<=nCal n/\nCal n<cs.length
theorem zcP{cs:List Cal}{n:Nd}(h:zhM cs n):cs[(nCal n).toNat]? =some (zbh cs n):=by
 have h1:(nCal n).toNat<cs.length:=by have:=h.1;have:=h.2;omega
 unfold zbh;rw[zu,zI h1];rfl
theorem zfC{C:EvC}(hC:EvOk C){n:Nd}(h:zhM C.cs n):zbv (zbh C.cs n):=hC.cals _ (xX (zcP h))
def yrsS(cs:List Cal)(n:Nd)(d:Int):Bool:=bif (zaQ (zbh cs n) d).2 then((zaQ (zbh cs n) d).1.2.1).tmod (nN n)==nM n else false
def yrsP(cs:List Cal)(n:Nd)(d:Int):Prop:=zi1 d/\zhM cs n/\1<=nN n
set_option maxHeartbeats 1000000 in
theorem zyL{C:EvC}(hC:EvOk C):MOk zb C.ctx 86 (cEv C (yrsP C.cs) (yrsS C.cs)):=by
 have hK:=C.kn hC zdI;refine zbf (K:=kEv) hC.hG hK Tryz.func86 rfl rfl Tryz.call86 rfl (zq rfl) ?_;rintro w0 hX x2 ⟨e,(n:Nd),(d:Int),_⟩ hp;obtain⟨rfl,⟨x5,x6⟩,hc,hN⟩:e=C.ev/\yrsP C.cs n d:=hp;change AWP _ _ _ _ _ ⟨[(0,⟨.lit,C.ev⟩),(1,⟨nd,n⟩),(2,⟨i64,d⟩)],[(0,some (.mp C.m C.ctx.I))],1⟩ _;refine za (za (zaa hK ?_));refine ql hX 4 ?_;refine za (za ?_);obtain⟨c,x0⟩:∃c,c=zbh C.cs n:=⟨_,rfl⟩;have x3:C.cs[(nCal n).toNat]? =some c:=x0▸zcP hc;have x4:zbv c:=x0▸zfC hC hc;have x1:zk8 (eraS c)/\zld d:=⟨⟨x4,rfl⟩,by constructor<;>omega⟩
 let f:Plc×Bool:=zaQ c d
 let B:zN:=[(0,⟨.lit,C.ev⟩),(2,⟨i64,d⟩),(4,⟨.vptr nd,n⟩)]
 let tup:V:=⟨.tup plc (.tup .bool .unit),(f.1,f.2,())⟩
 let L:List (Nat×Nat×V):=[(0,10,⟨.lit,C.ev⟩),(1,11,⟨.lit,C.ev⟩),(2,12,⟨.lit,C.pt 1⟩),(3,13,⟨.lit,C.erV⟩),(4,14,⟨.vptr i64,nCal n⟩),(5,15,⟨i64,nCal n⟩),(6,16,⟨.lit,C.erP (nCal n).toNat⟩),(7,17,⟨.vptr eraT,eraS c⟩),(8,18,⟨i64,d⟩),(9,19,tup),(10,9,tup),(11,20,⟨plc,f.1⟩),(12,21,⟨.bool,f.2⟩),(13,7,⟨.optr plc,⟨2,plc,.here⟩⟩)]
 let M:Option OObj:=some (.mp C.m C.ctx.I)
 refine zpf 15 13 14 [(0,M),(2,some (.box plc zPlc))] [(0,M),(2,some (.box plc f.1))] 3 B L dM hX 16 rfl rfl (by kernel_rfl) (by kernel_rfl) rfl ⟨rfl,rfl,rfl,t_⟩ rfl d_ ?_ rfl ⟨rfl,rfl,t_⟩ rfl rfl rfl ?_
 .refine(zA (zA (zA (zA (zA (zA (zA (zA (zA (zA (zA (zA (zA (zA (zA qU ?_) ?_) ?_) ?_) ?_) ?_) ?_) ?_) ?_) ?_) ?_) ?_) ?_) ?_) ?_)
  .exact qN d_ d_ λE nx _=>zx hX hK k_
  .exact qN d_ d_ λE nx _=>C.kNil _ rfl rfl rfl rfl rfl (λ_=>rfl) λ_=>rfl
  .exact qN d_ d_ λE nx _=>C.kFld1 _ rfl rfl rfl rfl rfl (λ_=>rfl) λ_=>rfl
  .exact qN d_ d_ λE nx _=>C.kEras hC x2 _ rfl rfl rfl rfl rfl (λ_=>rfl) λ_=>rfl
  .exact qN d_ d_ λE nx _=>zx hX hK k_
  .exact qN d_ d_ λE nx _=>zx hX hK k_
  .exact qN d_ d_ λE nx _=>C.kIdx _ rfl rfl rfl rfl rfl (λ_=>rfl) (λ_=>rfl) (λ_=>rfl) hc.1 hc.2
  .exact qN d_ d_ λE nx _=>C.kEra hC x2 _ rfl x3 rfl rfl rfl rfl (λ_=>rfl) λ_=>rfl
  .exact qN d_ d_ λE nx _=>zx hX hK k_
  .exact qN d_ d_ λE nx hE=>zx hX hK ⟨_,rfl,λF=>⟨_,rfl,x1,rfl,λ_=>rfl,rfl⟩⟩
  .exact qN d_ d_ λE nx _=>zx hX hK k_
  .exact qN d_ d_ λE nx _=>zx hX hK k_
  .exact qN d_ d_ λE nx _=>zx hX hK k_
  .exact StepQ.new d_ (λ_=>uG hX hK ⟨_,rfl,λF=>⟨_,rfl,t_,rfl,λj=>(match j with |0=>rfl|1=>rfl|2=>rfl|_+3=>rfl),rfl⟩⟩)
  .exact StepQ.set d_ (λ_=>uG hX hK ⟨_,rfl,λF=>⟨_,rfl,t_,rfl,λj=>(match j with |0=>rfl|1=>rfl|2=>rfl|_+3=>rfl),rfl⟩⟩)
 refine zX hX hK rfl t_ ?_;refine uW ?_;refine zak (Y':=⟨[(4,⟨.vptr nd,n⟩),(7,⟨.optr plc,⟨2,plc,.here⟩⟩),(8,⟨.bool,f.2⟩)],[(0,M),(2,some (.box plc f.1))],3⟩) ⟨⟨rfl,rfl,rfl,t_⟩,⟨rfl,rfl,t_⟩,rfl,rfl⟩ ?_;have q2:nN n≠0:=o_;refine za (za (zdn 12 dM hK rfl ?_));refine zp ⟨.inr rfl,rfl,D1 ?_⟩;show(bif f.2 then f.1.2.1.tmod (nN n)==nM n else false)=yrsS C.cs n d;rw[yrsS, <-x0]
theorem zx0{c:Cal}(h1:∀l,1<=yrS c l):∀(f:Nat)(r l:Int),0<=r->0<=(fY c f r l).1/\(fY c f r l).1<=r
 |0,r,l,h=>⟨h,yS _⟩
 |f+1,r,l,h=>by
  have:=h1 l;rw[fY];split
  .have:=zx0 h1 f (r-yrS c l) (l+1) o_;omega
  .exact⟨h,yS _⟩
theorem zrz{c:Cal}(hm:ze2 c.2.1)(y m:Int):0<=monL c y m/\monL c y m<=41:=by
 unfold monL;split
 .omega
 .have:=zkM (c:=c) (y:=y) (m:=m) hm o_ o_;omega
theorem zzI{c:Cal}(hm:ze2 c.2.1)(y:Int):∀(f:Nat)(r m:Int),0<=r->0<=(fM c y f r m).1/\(fM c y f r m).1<=r
 |0,r,l,h=>⟨h,yS _⟩
 |f+1,r,m,h=>by
  have:=zrz hm y m;rw[fM];split
  .have:=zzI hm y f (r-monL c y m) (m+1) o_;omega
  .exact⟨h,yS _⟩
theorem zjV{c:Cal}{d:Int}(hc:zbv c):(0<=pDay (zaQ c d).1/\pDay (zaQ c d).1<=1000000)/\(0<=pNth (zaQ c d).1/\pNth (zaQ c d).1<=1000000)/\(0<=monL c (zet (zaQ c d).1) (pMon (zaQ c d).1)/\monL c (zet (zaQ c d).1) (pMon (zaQ c d).1)<=41):=by
 obtain⟨hr,hm,x0,x1,x2,hN⟩:=zcO hc;refine⟨?_,?_,zrz hm _ _⟩
 all_goals unfold zaQ;split
 .exact⟨yS _,(by decide:(0:Int)<=1000000)⟩
 .have h1:=zie hm x0 (cycN c);have h2:=Int.emod_nonneg (d-c.1) (b:=sumY c (cycN c)) o_;have h3:=xS (d-c.1) (b:=sumY c (cycN c)) o_;have h4:=zx0 (c:=c) (λl=>(zjE hm x0).1) (((d-c.1)%sumY c (cycN c)).toNat+1) _ 1 h2;have h5:=zzI hm (fY c (((d-c.1)%sumY c (cycN c)).toNat+1) ((d-c.1)%sumY c (cycN c)) 1).2 (c.2.1.length+1) _ 1 h4.1;have e:pDay (plcS c d,true).1=(fM c (fY c (((d-c.1)%sumY c (cycN c)).toNat+1) ((d-c.1)%sumY c (cycN c)) 1).2 (c.2.1.length+1) (fY c (((d-c.1)%sumY c (cycN c)).toNat+1) ((d-c.1)%sumY c (cycN c)) 1).1 1).1:=rfl;rw[e];omega
 .exact⟨yS _,(by decide:(0:Int)<=1000000)⟩
 .have h1:=zie hm x0 (cycN c);have h2:=Int.emod_nonneg (d-c.1) (b:=sumY c (cycN c)) o_;have h3:=xS (d-c.1) (b:=sumY c (cycN c)) o_;have h4:=zx0 (c:=c) (λl=>(zjE hm x0).1) (((d-c.1)%sumY c (cycN c)).toNat+1) _ 1 h2;have e:pNth (plcS c d,true).1=(fY c (((d-c.1)%sumY c (cycN c)).toNat+1) ((d-c.1)%sumY c (cycN c)) 1).1:=rfl;rw[e];omega
theorem zkD{c:Cal}{d:Int}:pNum (zaQ c d).1=d\/pNum (zaQ c d).1=0:=by
 unfold zaQ;split
 .exact .inr rfl
 .exact .inl rfl
def zuj(cs:List Cal)(n:Nd)(d:Int):Bool:=bif (zaQ (zbh cs n) d).2 then decide (pMon (zaQ (zbh cs n) d).1∈nLs n) else false
def zxd(cs:List Cal)(n:Nd)(d:Int):Prop:=zi1 d/\zhM cs n/\znv (nLs n)
set_option maxHeartbeats 1000000 in
theorem zxc{C:EvC}(hC:EvOk C):MOk zb C.ctx 87 (cEv C (zxd C.cs) (zuj C.cs)):=by
 have hK:=C.kn hC zdI;refine zbf (K:=kEv) hC.hG hK Tryz.func87 rfl rfl Tryz.call87 rfl (zq rfl) ?_;rintro w0 hX x2 ⟨e,(n:Nd),(d:Int),_⟩ hp;obtain⟨rfl,⟨x5,x6⟩,hc,hl⟩:e=C.ev/\zxd C.cs n d:=hp;change AWP _ _ _ _ _ ⟨[(0,⟨.lit,C.ev⟩),(1,⟨nd,n⟩),(2,⟨i64,d⟩)],[(0,some (.mp C.m C.ctx.I))],1⟩ _;refine za (za (zaa hK ?_));refine ql hX 4 ?_;obtain⟨c,x0⟩:∃c,c=zbh C.cs n:=⟨_,rfl⟩;have x3:C.cs[(nCal n).toNat]? =some c:=x0▸zcP hc;have x4:zbv c:=x0▸zfC hC hc;have x1:zk8 (eraS c)/\zld d:=⟨⟨x4,rfl⟩,by constructor<;>omega⟩
 let M:Option OObj:=some (.mp C.m C.ctx.I)
 let f:Plc×Bool:=zaQ c d
 refine za (za ?_)
 let B:zN:=[(0,⟨.lit,C.ev⟩),(2,⟨i64,d⟩),(4,⟨.vptr nd,n⟩)]
 let tup:V:=⟨.tup plc (.tup .bool .unit),(f.1,f.2,())⟩
 let L:List (Nat×Nat×V):=[(0,10,⟨.lit,C.ev⟩),(1,11,⟨.lit,C.ev⟩),(2,12,⟨.lit,C.pt 1⟩),(3,13,⟨.lit,C.erV⟩),(4,14,⟨.vptr i64,nCal n⟩),(5,15,⟨i64,nCal n⟩),(6,16,⟨.lit,C.erP (nCal n).toNat⟩),(7,17,⟨.vptr eraT,eraS c⟩),(8,18,⟨i64,d⟩),(9,19,tup),(10,9,tup),(11,20,⟨plc,f.1⟩),(12,21,⟨.bool,f.2⟩),(13,7,⟨.optr plc,⟨2,plc,.here⟩⟩)]
 refine zpf 15 13 14 [(0,M),(2,some (.box plc zPlc))] [(0,M),(2,some (.box plc f.1))] 3 B L dM hX 16 rfl rfl (by kernel_rfl) (by kernel_rfl) rfl ⟨rfl,rfl,rfl,t_⟩ rfl d_ ?_ rfl ⟨rfl,rfl,t_⟩ rfl rfl rfl ?_
 .refine(zA (zA (zA (zA (zA (zA (zA (zA (zA (zA (zA (zA (zA (zA (zA qU ?_) ?_) ?_) ?_) ?_) ?_) ?_) ?_) ?_) ?_) ?_) ?_) ?_) ?_) ?_)
  .exact qN d_ d_ λE nx _=>zx hX hK k_
  .exact qN d_ d_ λE nx _=>C.kNil _ rfl rfl rfl rfl rfl (λ_=>rfl) λ_=>rfl
  .exact qN d_ d_ λE nx _=>C.kFld1 _ rfl rfl rfl rfl rfl (λ_=>rfl) λ_=>rfl
  .exact qN d_ d_ λE nx _=>C.kEras hC x2 _ rfl rfl rfl rfl rfl (λ_=>rfl) λ_=>rfl
  .exact qN d_ d_ λE nx _=>zx hX hK k_
  .exact qN d_ d_ λE nx _=>zx hX hK k_
  .exact qN d_ d_ λE nx _=>C.kIdx _ rfl rfl rfl rfl rfl (λ_=>rfl) (λ_=>rfl) (λ_=>rfl) hc.1 hc.2
  .exact qN d_ d_ λE nx _=>C.kEra hC x2 _ rfl x3 rfl rfl rfl rfl (λ_=>rfl) λ_=>rfl
  .exact qN d_ d_ λE nx _=>zx hX hK k_
  .exact qN d_ d_ λE nx _=>zx hX hK ⟨_,rfl,λF=>⟨_,rfl,x1,rfl,λ_=>rfl,rfl⟩⟩
  .exact qN d_ d_ λE nx _=>zx hX hK k_
  .exact qN d_ d_ λE nx _=>zx hX hK k_
  .exact qN d_ d_ λE nx _=>zx hX hK k_
  .exact StepQ.new d_ (λ_=>uG hX hK ⟨_,rfl,λF=>⟨_,rfl,t_,rfl,λj=>(match j with |0=>rfl|1=>rfl|2=>rfl|_+3=>rfl),rfl⟩⟩)
  .exact StepQ.set d_ (λ_=>uG hX hK ⟨_,rfl,λF=>⟨_,rfl,t_,rfl,λj=>(match j with |0=>rfl|1=>rfl|2=>rfl|_+3=>rfl),rfl⟩⟩)
 refine zX hX hK rfl t_ ?_;refine uW ?_;refine za (za (zac hX hK rfl ?_ ?_))
 .
  exact z_
 refine zp ⟨.inr rfl,rfl,D1 ?_⟩;show(bif f.2 then decide (pMon f.1∈nLs n) else false)=zuj C.cs n d;rw[zuj, <-x0]
def mdS(cs:List Cal)(n:Nd)(d:Int):Bool:=bif (zaQ (zbh cs n) d).2 then(bif decide (pDay (zaQ (zbh cs n) d).1+1∈nLs n) then true else decide (pDay (zaQ (zbh cs n) d).1-monL (zbh cs n) (zet (zaQ (zbh cs n) d).1) (pMon (zaQ (zbh cs n) d).1)∈nLs n)) else false
def mdP(cs:List Cal)(n:Nd)(d:Int):Prop:=zi1 d/\zhM cs n/\znv (nLs n)
set_option maxHeartbeats 1000000 in
theorem zAS{C:EvC}(hC:EvOk C):MOk zb C.ctx 88 (cEv C (mdP C.cs) (mdS C.cs)):=by
 have hK:=C.kn hC zdI;refine zbf (K:=kEv) hC.hG hK Tryz.func88 rfl rfl Tryz.call88 rfl (zq rfl) ?_;rintro w0 hX x2 ⟨e,(n:Nd),(d:Int),_⟩ hp;obtain⟨rfl,⟨x6,x7⟩,hc,hl⟩:e=C.ev/\mdP C.cs n d:=hp;change AWP _ _ _ _ _ ⟨[(0,⟨.lit,C.ev⟩),(1,⟨nd,n⟩),(2,⟨i64,d⟩)],[(0,some (.mp C.m C.ctx.I))],1⟩ _;refine za (za (zaa hK ?_));refine ql hX 4 ?_;obtain⟨c,x0⟩:∃c,c=zbh C.cs n:=⟨_,rfl⟩;have x3:C.cs[(nCal n).toNat]? =some c:=x0▸zcP hc;have x1:zbv c:=x0▸zfC hC hc;have x4:zk8 (eraS c)/\zld d:=⟨⟨x1,rfl⟩,by constructor<;>omega⟩
 let M:Option OObj:=some (.mp C.m C.ctx.I)
 let f:Plc×Bool:=zaQ c d
 refine za (za ?_)
 let B:zN:=[(0,⟨.lit,C.ev⟩),(2,⟨i64,d⟩),(4,⟨.vptr nd,n⟩)]
 let L:List (Nat×Nat×V):=[(0,10,⟨.lit,C.ev⟩),(1,11,⟨.lit,C.ev⟩),(2,12,⟨.lit,C.pt 1⟩),(3,13,⟨.lit,C.erV⟩),(4,14,⟨.vptr i64,nCal n⟩),(5,15,⟨i64,nCal n⟩),(6,16,⟨.lit,C.erP (nCal n).toNat⟩),(7,17,⟨.vptr eraT,eraS c⟩)]
 refine zak (Y':=⟨B,[(0,M)],2⟩) ⟨⟨rfl,rfl,rfl,t_⟩,⟨rfl,t_⟩,rfl,rfl⟩ ?_;refine zcs 8 B L dM hX 9 rfl rfl (by kernel_rfl) (by kernel_rfl) rfl ⟨rfl,rfl,rfl,t_⟩ ?_ rfl ⟨rfl,t_⟩ rfl rfl ?_
 .refine(zA (zA (zA (zA (zA (zA (zA (zA qU ?_) ?_) ?_) ?_) ?_) ?_) ?_) ?_)
  .exact zx hX hK k_
  .exact C.kNil _ rfl rfl rfl rfl rfl (λ_=>rfl) λ_=>rfl
  .exact C.kFld1 _ rfl rfl rfl rfl rfl (λ_=>rfl) λ_=>rfl
  .exact C.kEras hC x2 _ rfl rfl rfl rfl rfl (λ_=>rfl) λ_=>rfl
  .exact zx hX hK k_
  .exact zx hX hK k_
  .exact C.kIdx _ rfl rfl rfl rfl rfl (λ_=>rfl) (λ_=>rfl) (λ_=>rfl) hc.1 hc.2
  .exact C.kEra hC x2 _ rfl x3 rfl rfl rfl rfl (λ_=>rfl) λ_=>rfl
 refine zX hX hK rfl t_ ?_;refine uW ?_;refine zak (Y':=⟨[(2,⟨i64,d⟩),(4,⟨.vptr nd,n⟩),(7,⟨.vptr eraT,eraS c⟩)],[(0,M)],2⟩) ⟨⟨rfl,rfl,rfl,t_⟩,⟨rfl,t_⟩,rfl,rfl⟩ ?_;refine za (za (zaa hK ?_));refine ql hX 8 ?_;refine zak (Y':=⟨[(4,⟨.vptr nd,n⟩),(7,⟨.vptr eraT,eraS c⟩),(8,⟨.vptr plc,f.1⟩),(9,⟨.bool,f.2⟩)],[(0,M)],3⟩) ⟨⟨rfl,rfl,rfl,rfl,t_⟩,⟨rfl,t_⟩,rfl,rfl⟩ ?_;have x5:(0<=pDay f.1/\pDay f.1<=1000000)/\(0<=pNth f.1/\pNth f.1<=1000000)/\(0<=monL c (zet f.1) (pMon f.1)/\monL c (zet f.1) (pMon f.1)<=41):=zjV x1;have q1:inR .i64 (pDay f.1+1):=zad o_ o_;have q2:inR .i64 (pDay f.1-monL c (zet f.1) (pMon f.1)):=zad o_ o_;refine za (za (zpg dM hX hK 27 (by kernel_rfl) rfl rfl ?_ ?_ ?_))
 .show allP _;exact z_
 .trivial
 refine zp ⟨.inr rfl,rfl,D1 ?_⟩;show(bif f.2 then(bif decide (pDay f.1+1∈nLs n) then true else decide (pDay f.1-monL c (zet f.1) (pMon f.1)∈nLs n)) else false)=mdS C.cs n d;rw[mdS, <-x0]
def wksS(cs:List Cal)(n:Nd)(d:Int):Bool:=bif (bif (zaQ (zbh cs n) (d-d%7+3)).2 then decide (d>=(zbh cs n).1) else false) then decide ((pNth (zaQ (zbh cs n) (d-d%7+3)).1).tdiv 7+1∈nLs n) else false
def wksP(cs:List Cal)(n:Nd)(d:Int):Prop:=zi1 d/\zhM cs n/\znv (nLs n)
set_option maxHeartbeats 1000000 in
theorem zyN{C:EvC}(hC:EvOk C):MOk zb C.ctx 90 (cEv C (wksP C.cs) (wksS C.cs)):=by
 have hK:=C.kn hC zdI;refine zbf (K:=kEv) hC.hG hK Tryz.func90 rfl rfl Tryz.call90 rfl (zq rfl) ?_;rintro w0 hX x3 ⟨e,(n:Nd),(d:Int),_⟩ hp;obtain⟨rfl,⟨x8,x9⟩,hc,hl⟩:e=C.ev/\wksP C.cs n d:=hp;change AWP _ _ _ _ _ ⟨[(0,⟨.lit,C.ev⟩),(1,⟨nd,n⟩),(2,⟨i64,d⟩)],[(0,some (.mp C.m C.ctx.I))],1⟩ _;refine za (za (zaa hK ?_));refine ql hX 4 ?_;obtain⟨c,x1⟩:∃c,c=zbh C.cs n:=⟨_,rfl⟩;have x4:C.cs[(nCal n).toNat]? =some c:=x1▸zcP hc;have x2:zbv c:=x1▸zfC hC hc;have x6:zk8 (eraS c)/\zld d:=⟨⟨x2,rfl⟩,by constructor<;>omega⟩
 let M:Option OObj:=some (.mp C.m C.ctx.I)
 let f:Plc×Bool:=zaQ c d
 refine za (za ?_)
 let B:zN:=[(0,⟨.lit,C.ev⟩),(2,⟨i64,d⟩),(4,⟨.vptr nd,n⟩)]
 let L:List (Nat×Nat×V):=[(0,10,⟨.lit,C.ev⟩),(1,11,⟨.lit,C.ev⟩),(2,12,⟨.lit,C.pt 1⟩),(3,13,⟨.lit,C.erV⟩),(4,14,⟨.vptr i64,nCal n⟩),(5,15,⟨i64,nCal n⟩),(6,16,⟨.lit,C.erP (nCal n).toNat⟩),(7,17,⟨.vptr eraT,eraS c⟩)]
 refine zak (Y':=⟨B,[(0,M)],2⟩) ⟨⟨rfl,rfl,rfl,t_⟩,⟨rfl,t_⟩,rfl,rfl⟩ ?_;refine zcs 8 B L dM hX 9 rfl rfl (by kernel_rfl) (by kernel_rfl) rfl ⟨rfl,rfl,rfl,t_⟩ ?_ rfl ⟨rfl,t_⟩ rfl rfl ?_
 .refine(zA (zA (zA (zA (zA (zA (zA (zA qU ?_) ?_) ?_) ?_) ?_) ?_) ?_) ?_)
  .exact zx hX hK k_
  .exact C.kNil _ rfl rfl rfl rfl rfl (λ_=>rfl) λ_=>rfl
  .exact C.kFld1 _ rfl rfl rfl rfl rfl (λ_=>rfl) λ_=>rfl
  .exact C.kEras hC x3 _ rfl rfl rfl rfl rfl (λ_=>rfl) λ_=>rfl
  .exact zx hX hK k_
  .exact zx hX hK k_
  .exact C.kIdx _ rfl rfl rfl rfl rfl (λ_=>rfl) (λ_=>rfl) (λ_=>rfl) hc.1 hc.2
  .exact C.kEra hC x3 _ rfl x4 rfl rfl rfl rfl (λ_=>rfl) λ_=>rfl
 refine zX hX hK rfl t_ ?_;refine uW ?_
 let g:Plc×Bool:=zaQ c (d-d%7+3)
 have x7:zk8 (eraS c)/\zld (d-d%7+3):=⟨⟨x2,rfl⟩,by constructor<;>omega⟩;have q1:inR .i64 (d-d%7):=zad o_ o_;have q2:inR .i64 (d-d%7+3):=zad o_ o_;refine zak (Y':=⟨[(2,⟨i64,d⟩),(4,⟨.vptr nd,n⟩),(7,⟨.vptr eraT,eraS c⟩)],[(0,M)],2⟩) ⟨⟨rfl,rfl,rfl,t_⟩,⟨rfl,t_⟩,rfl,rfl⟩ ?_;refine za (za ?_);refine zac hX hK rfl ?_ ?_
 .show allP _;exact z_
 refine ql hX 8 ?_;refine zak (Y':=⟨[(2,⟨i64,d⟩),(4,⟨.vptr nd,n⟩),(7,⟨.vptr eraT,eraS c⟩),(8,⟨.vptr plc,g.1⟩),(9,⟨.bool,g.2⟩)],[(0,M)],3⟩) ⟨⟨rfl,rfl,rfl,rfl,rfl,t_⟩,⟨rfl,t_⟩,rfl,rfl⟩ ?_;have x5:(0<=pDay g.1/\pDay g.1<=1000000)/\(0<=pNth g.1/\pNth g.1<=1000000)/\(0<=monL c (zet g.1) (pMon g.1)/\monL c (zet g.1) (pMon g.1)<=41):=zjV x2;have x0:(pNth g.1).tdiv 7=pNth g.1/7:=Int.tdiv_eq_ediv_of_nonneg x5.2.1.1;have q3:inR .i64 ((pNth g.1).tdiv 7):=zad (by rw[x0];omega) (by rw[x0];omega);have q4:inR .i64 ((pNth g.1).tdiv 7+1):=zad (by rw[x0];omega) (by rw[x0];omega);refine za (za (zac hX hK rfl ?_ ?_))
 .
  exact z_
 refine zp ⟨.inr rfl,rfl,D1 ?_⟩;show(bif (bif g.2 then decide (d>=c.1) else false) then decide ((pNth g.1).tdiv 7+1∈nLs n) else false)=wksS C.cs n d;rw[wksS, <-x1]
section
variable {P:zw}{K:Kn}{n:Nat}{S:MCtx}{w0:zh}{Y:AS}{Q:Exit->AS->Prop}
def AWPE(P:zw)(w0:zh)(S:MCtx)(n:Nat)(c:Code)(Y:AS)(Q:Exit->AS->Prop):Prop:=
 ∀U a w,Sim w0 S.own n Y U a w->c.wpIn yD 0 P (λe a' w'=>∃Y' U' ds',Sim w0 (xB S.st (λ_=>False) ds' (λg=>g=S.m)) n Y' U' a' w'/\Marks w0.heap.size w' ds'/\Q e Y') a w
theorem AWPE.D{c:Code}(h:AWPD P w0 S.st (λ_=>False) (λg=>g=S.m) n c Y Q):AWPE P w0 S n c Y Q:=λU a w hs=>h [] U a w hs trivial
theorem AWPE.seqA{x y:Code}(h:AWP P w0 S.own n x Y (zhI (λs=>AWPE P w0 S n y s Q) Q)):AWPE P w0 S n (.seq x y) Y Q:=
 λU a w hs=>wpIn_seq (zT (h U a w hs) λe a w⟨Y',U',h1,h2⟩=>by
  cases e with
  |normal=>exact h2 U' a w h1
  |_=>exact⟨Y',U',[],h1,t_,h2⟩)
theorem AWPE.seqE{x y:Code}(h:AWPE P w0 S n x Y (zhI (λs=>AWPD P w0 S.st (λ_=>False) (λg=>g=S.m) n y s Q) Q)):AWPE P w0 S n (.seq x y) Y Q:=
 λU a w hs=>wpIn_seq (zT (h U a w hs) λe a w⟨Y',U',ds',h1,h2,h3⟩=>by
  cases e with
  |normal=>exact h3 ds' U' a w h1 h2
  |_=>exact⟨Y',U',ds',h1,h2,h3⟩)
theorem AWPE.frzB(hX:S.own.Ok w0)(s:Nat){c:Code}(h:AWPE P w0 S n c (jE Y s) Q):AWPE P w0 S n c Y Q:=
 λU a w hs=>h U a w (hs.frzB hX s)
theorem AWPE.fit{c:Code}{Y':AS}(hf:Fit Y Y')(h:AWPE P w0 S n c Y' Q):AWPE P w0 S n c Y Q:=
 λU a w hs=>h U a w (hs.fit hf (zk _))
theorem MCtx.own_ok{S:MCtx}(h:S.own.Ok w0)(ds:List Deferred):(xB S.st (λ_=>False) ds (λg=>g=S.m)).Ok w0:=⟨λg hg=>hg.elim,h.2.1,h.2.2⟩
theorem ziA(hG:∀w w',S.G w->Kept (λg=>g=S.m) w w'->S.G w')(hK:KnOk P S.st K){f:zV}{fn:Func}{code:Code}{c:MCtr}(hf:P.funcs[f]? =some fn)(hb:fn.body=some code)(hn:fn.ntmps=n)
  (x8:∀(zas:Array zd)(w:zh),(callFunc f zas).run P w=.ok (.enter f zas) w) (hd:zaN c.args=true) (hlen:c.args.length<=n)
  (h:∀w0,S.own.Ok w0->S.st w0->∀xs:Args c.args,allP (c.pre xs)->AWPE P w0 S n code (zp4 S c.args xs) (λe Y=>(e=.normal\/e=.ret)/\zm Y.E 0=some (.mp S.m S.I)/\Done K.T fn.results.toList Y none .bool (c.out xs))):MOk P S f c:=by
 refine⟨x8,λw xs vs x4 hp x6 x2=>?_⟩;obtain⟨hX,x3⟩:=zzh hG hn hd hlen x4 x6 x2;refine(callsIn_wide (n:=0)).1 (callsIn_of_wp_marks hf hb trivial ?_ rfl);refine zT (h w hX x6 xs hp _ _ _ x3) ?_;rintro e a' w' ⟨Y',U',ds',h1,x7,h2,hm,h3⟩;have x0:LeavesInM yD 0 P fn a'.tmps (λe w'=>e=.returned (.bool (c.out xs))/\Kept (λg=>g=S.m) w w'/\S.inv w') a'.defers .returning w':=by
  rw[h1.df];refine ze4 (X:=xB S.st (λ_=>False) ds' (λg=>g=S.m)) (K:=K) hK (MCtx.own_ok hX ds') h3 (.inl rfl) ds' w' h1.seen x7 λw2 v x1 hr=>⟨?_,?_,?_⟩
  .rw[(zcY (U:=λ_=>undef) .bool (c.out xs) v (hr.resolve_left (by intro h;cases h))).bool]
  .have hk:=h1.bel.mono λg hg=>zcf (Bf:=λg=>g=S.m) hg;exact⟨x1.os.trans hk.os,x1.tape.trans hk.tape,x1.output.trans hk.output,zJ hk.size x1.size,λk x5 hn=>(x1.block k x5).trans (hk.block k x5 hn)⟩
  .obtain⟨ms,ck,_,_,k1,k2⟩:=h1.own 0 _ hm;exact⟨ms,ck,(x1.block _ (MCtx.inv_lt x2)).trans k1,k2⟩
 rcases h2 with rfl|rfl
 .exact x0
 .exact x0
end
def cntP(p:Int->Bool)(z:Int):Nat->Int
 |0=>0
 |k+1=>cntP p z k+(if p (z+k)=true then 1 else 0)
theorem zf8{p:Int->Bool}{z:Int}:∀k:Nat,0<=cntP p z k/\cntP p z k<=k
 |0=>⟨yS _,yS _⟩
 |k+1=>by
  have:=zf8 (p:=p) (z:=z) k;unfold cntP;split<;>omega
def upP(M d:Int)(x:Int):Bool:=bif decide (x%7=M) then decide (x<=d) else false
def frP(M d:Int)(x:Int):Bool:=bif decide (x%7=M) then decide (x>=d) else false
def nthS(cs:List Cal)(n:Nd)(d:Int):Bool:=
 bif (bif !(zaQ (zbh cs n) d).2 then true else !(decide (d%7=nM n))) then false
 else bif decide (nN n=cntP (upP (nM n) d) (scpA (zaQ (zbh cs n) d).1 (nL n)) (scpN (zbh cs n) (zaQ (zbh cs n) d).1 (nL n)).toNat) then true else decide (nN n= -cntP (frP (nM n) d) (scpA (zaQ (zbh cs n) d).1 (nL n)) (scpN (zbh cs n) (zaQ (zbh cs n) d).1 (nL n)).toNat)
def nthP(cs:List Cal)(n:Nd)(d:Int):Prop:=zi1 d/\zhM cs n/\True
theorem zqQ{c:Cal}{d k:Int}(hc:zbv c)(hd:zi1 d):(-1000000<=scpA (zaQ c d).1 k/\scpA (zaQ c d).1 k<=1048576)/\0<=scpN c (zaQ c d).1 k/\scpN c (zaQ c d).1 k<=656:=by
 obtain⟨hr,hm,x1,x0,x2,hN⟩:=zcO hc;have h1:=zjV (d:=d) hc;have h2:=zkD (c:=c) (d:=d);have h3:=zjE (y:=zet (zaQ c d).1) hm x1;obtain⟨d0,d1⟩:=hd;unfold scpA scpN;split<;>omega
set_option maxHeartbeats 1000000 in
theorem zze{C:EvC}(hC:EvOk C):MOk zb C.ctx 91 (cEv C (nthP C.cs) (nthS C.cs)):=by
 have hK:=C.kn hC zdI;refine ziA (K:=kEv) hC.hG hK Tryz.func91 rfl rfl Tryz.call91 rfl (zq rfl) ?_;rintro w0 hX x5 ⟨e,(n:Nd),(d:Int),_⟩ hp;obtain⟨rfl,⟨x8,xa⟩,hc,_⟩:e=C.ev/\nthP C.cs n d:=hp;change AWPE _ _ _ _ _ ⟨[(0,⟨.lit,C.ev⟩),(1,⟨nd,n⟩),(2,⟨i64,d⟩)],[(0,some (.mp C.m C.ctx.I))],1⟩ _;refine AWPE.seqA ?_;refine zac hX hK rfl t_ ?_;refine AWPE.frzB hX 4 ?_;refine AWPE.frzB hX 5 ?_;obtain⟨c,x0⟩:∃c,c=zbh C.cs n:=⟨_,rfl⟩;have x7:C.cs[(nCal n).toNat]? =some c:=x0▸zcP hc;have x1:zbv c:=x0▸zfC hC hc;have x3:zk8 (eraS c)/\zld d:=⟨⟨x1,rfl⟩,by constructor<;>omega⟩
 let M:Option OObj:=some (.mp C.m C.ctx.I)
 let f:Plc×Bool:=zaQ c d
 refine AWPE.seqA ?_
 let B:zN:=[(0,⟨.lit,C.ev⟩),(4,⟨.vptr nd,n⟩),(5,⟨.vptr i64,d⟩)]
 let L:List (Nat×Nat×V):=[(0,13,⟨.lit,C.ev⟩),(1,14,⟨.lit,C.ev⟩),(2,15,⟨.lit,C.pt 1⟩),(3,16,⟨.lit,C.erV⟩),(4,17,⟨.vptr i64,nCal n⟩),(5,18,⟨i64,nCal n⟩),(6,19,⟨.lit,C.erP (nCal n).toNat⟩),(7,20,⟨.vptr eraT,eraS c⟩)]
 refine zak (Y':=⟨B,[(0,M)],3⟩) ⟨⟨rfl,rfl,rfl,t_⟩,⟨rfl,t_⟩,rfl,rfl⟩ ?_;refine zcs 8 B L dM hX 9 rfl rfl (by kernel_rfl) (by kernel_rfl) rfl ⟨rfl,rfl,rfl,t_⟩ ?_ rfl ⟨rfl,t_⟩ rfl rfl ?_
 .refine(zA (zA (zA (zA (zA (zA (zA (zA qU ?_) ?_) ?_) ?_) ?_) ?_) ?_) ?_)
  .exact zx hX hK k_
  .exact C.kNil _ rfl rfl rfl rfl rfl (λ_=>rfl) λ_=>rfl
  .exact C.kFld1 _ rfl rfl rfl rfl rfl (λ_=>rfl) λ_=>rfl
  .exact C.kEras hC x5 _ rfl rfl rfl rfl rfl (λ_=>rfl) λ_=>rfl
  .exact zx hX hK k_
  .exact zx hX hK k_
  .exact C.kIdx _ rfl rfl rfl rfl rfl (λ_=>rfl) (λ_=>rfl) (λ_=>rfl) hc.1 hc.2
  .exact C.kEra hC x5 _ rfl x7 rfl rfl rfl rfl (λ_=>rfl) λ_=>rfl
 refine zX hX hK rfl t_ ?_;refine uW ?_;refine AWPE.fit (Y':=⟨[(4,⟨.vptr nd,n⟩),(5,⟨.vptr i64,d⟩),(7,⟨.vptr eraT,eraS c⟩)],[(0,M)],3⟩) ⟨⟨rfl,rfl,rfl,t_⟩,⟨rfl,t_⟩,rfl,rfl⟩ ?_;refine AWPE.seqA ?_;refine zac hX hK rfl x3 ?_;refine AWPE.frzB hX 8 ?_;refine AWPE.fit (Y':=⟨[(4,⟨.vptr nd,n⟩),(5,⟨.vptr i64,d⟩),(7,⟨.vptr eraT,eraS c⟩),(8,⟨.vptr plc,f.1⟩),(9,⟨.bool,f.2⟩)],[(0,M)],4⟩) ⟨⟨rfl,rfl,rfl,rfl,rfl,t_⟩,⟨rfl,t_⟩,rfl,rfl⟩ ?_;refine AWPE.seqA ?_;refine za (za (zdn 9 dM hK rfl ?_));refine zaf rfl (λhb=>?_) (λhb=>?_)
 .have hb:(bif !f.2 then true else !(decide (d%7=nM n)))=true:=hb;refine za (za (zaa hK ?_));refine zp ⟨.inr rfl,rfl,D1 ?_⟩;show false=nthS C.cs n d;rw[nthS, <-x0,show(bif !(zaQ c d).2 then true else !(decide (d%7=nM n)))=true from hb];rfl
 have hb:(bif !f.2 then true else !(decide (d%7=nM n)))=false:=hb;apply zah;refine AWPE.seqA ?_;refine zac hX hK rfl t_ ?_;have x2:=zqQ (k:=nL n) x1 ⟨x8,xa⟩;have xc:(0<=pDay f.1/\pDay f.1<=1000000)/\(0<=pNth f.1/\pNth f.1<=1000000)/\(0<=monL c (zet f.1) (pMon f.1)/\monL c (zet f.1) (pMon f.1)<=41):=zjV x1;have xb:pNum f.1=d\/pNum f.1=0:=zkD;have q1:inR .i64 (pNum f.1-pDay f.1):=zad o_ o_;have q2:inR .i64 (pNum f.1-pNth f.1):=zad o_ o_;obtain⟨z,hz⟩:∃z,z=scpA f.1 (nL n):=⟨_,rfl⟩;obtain⟨m,hm⟩:∃m,m=scpN c f.1 (nL n):=⟨_,rfl⟩;have x2:(-1000000<=z/\z<=1048576)/\0<=m/\m<=656:=by rw[hz,hm];exact x2
 refine AWPE.seqE (AWPE.seqA ?_);refine zac hX hK rfl ⟨x1,q1,q2⟩ ?_;refine AWPE.fit (Y':=⟨[(4,⟨.vptr nd,n⟩),(5,⟨.vptr i64,d⟩),(10,⟨.optr i64,⟨4,i64,.here⟩⟩),(11,⟨.optr i64,⟨5,i64,.here⟩⟩),(40,⟨.clo 138 zqR,(scpA f.1 (nL n),scpN c f.1 (nL n),())⟩)],[(0,M),(4,some (.box i64 (0:Int))),(5,some (.box i64 (0:Int)))],6⟩) ⟨⟨rfl,rfl,rfl,rfl,rfl,t_⟩,⟨rfl,rfl,rfl,t_⟩,rfl,rfl⟩ ?_;rw[<-hz, <-hm];refine AWPE.D (pU [(0,0),(4,1),(5,2)] 3 ?_)
 let u (k:Nat):Int:=cntP (upP (nM n) d) z k
 let v (k:Nat):Int:=cntP (frP (nM n) d) z k
 let E (k:Nat):Owns:=[(0,M),(1,some (.box i64 (u k))),(2,some (.box i64 (v k)))]
 let F:List (Nat×V):=[(4,⟨.vptr nd,n⟩),(5,⟨.vptr i64,d⟩),(10,⟨.optr i64,⟨1,i64,.here⟩⟩),(11,⟨.optr i64,⟨2,i64,.here⟩⟩)]
 have x6:=λds=>MCtx.own_ok hX ds;refine fJ ?_;refine zeG x6 rfl Tryz.call138 [41] rfl rfl rfl m.toNat (scpV z) (λ_=>rfl) (zob z m x2.2.1 (zad o_ o_) (zad o_ o_)) 3 (λi hi=>?_) F ⟨rfl,rfl,rfl,rfl,t_⟩ rfl E 3 (zj _) ⟨⟨rfl,rfl,rfl,rfl,t_⟩,⟨rfl,rfl,rfl,t_⟩,rfl,rfl⟩ (λk=>rfl)
  (λ_=>True) (λ_=>False) trivial
  (λk=>⟨(12,⟨i64,z+(k:Int)⟩)::F,E k,3⟩) (λk=>zj _) E (λW O' Bf fix l x4 k hk hA=>?_) (λW O' Bf fix l x4 k hk hA=>?_) (λhA=>?_) (λk hk hA hR=>hR.elim)
 .match i,hi with
  |0,_=>exact⟨_,rfl,rfl⟩
  |1,_=>exact⟨_,rfl,rfl⟩
  |2,_=>exact⟨_,rfl,rfl⟩
 .refine zac x4 hK rfl t_ ?_;exact⟨rfl,⟨rfl,rfl,rfl,rfl,rfl,t_⟩,⟨rfl,rfl,rfl,t_⟩,rfl,rfl⟩
 .have hX:=x4;have hu:=zf8 (p:=upP (nM n) d) (z:=z) k;have hv:=zf8 (p:=frP (nM n) d) (z:=z) k;have q3:inR .i64 (u k+1):=zad (by show _<=cntP _ z k+1;omega) (by show cntP _ z k+1<=_;omega);have q4:inR .i64 (v k+1):=zad (by show _<=cntP _ z k+1;omega) (by show cntP _ z k+1<=_;omega);refine za (za (zdn 10 dM hK rfl ?_));refine zbi (Y':=⟨(12,⟨i64,z+(k:Int)⟩)::F,[(0,M),(1,some (.box i64 (u (k+1)))),(2,some (.box i64 (v k)))],3⟩) ?_ ?_
  .refine zaf rfl (λhb=>?_) (λhb=>?_)
   .have hb:upP (nM n) d (z+(k:Int))=true:=hb;refine za (za (zaa hK ?_));refine⟨⟨rfl,rfl,rfl,rfl,rfl,t_⟩,⟨rfl,zeQ ?_,rfl,t_⟩,rfl,rfl⟩;show u k+1=cntP _ z k+_;rw[if_pos hb]
   .have hb:upP (nM n) d (z+(k:Int))=false:=hb;refine zah ⟨⟨rfl,rfl,rfl,rfl,rfl,t_⟩,⟨rfl,zeQ ?_,rfl,t_⟩,rfl,rfl⟩;show u k=cntP _ z k+_;rw[if_neg (by rw[hb];decide),vN]
  refine za (za (zdn 10 dM hK rfl ?_));refine zaf rfl (λhb=>?_) (λhb=>?_)
  .have hb:frP (nM n) d (z+(k:Int))=true:=hb;refine za (za (zaa hK ?_));refine .inl ⟨rfl,t_,⟨t_,⟨rfl,rfl,zeQ ?_,t_⟩,rfl,rfl⟩⟩;show v k+1=cntP _ z k+_;rw[if_pos hb]
  .have hb:frP (nM n) d (z+(k:Int))=false:=hb;refine zah (.inl ⟨rfl,t_,⟨t_,⟨rfl,rfl,zeQ ?_,t_⟩,rfl,rfl⟩⟩);show v k=cntP _ z k+_;rw[if_neg (by rw[hb];decide),vN]
 .have hv:=zf8 (p:=frP (nM n) d) (z:=z) m.toNat;have q5:inR .i64 (-(v m.toNat)):=zad (by show _<= -cntP _ z _;omega) (by show -cntP _ z _<=_;omega);refine uu x6 λW1 xd Bf1 x9=>?_;refine zaq (zac x9 hK rfl ?_ ?_)
  .show allP _;exact z_
  refine zp ⟨.inr rfl,rfl,D1 ?_⟩;show(bif decide (nN n=u m.toNat) then true else decide (nN n= -(v m.toNat)))=nthS C.cs n d;rw[nthS, <-x0,show(bif !(zaQ c d).2 then true else !(decide (d%7=nM n)))=false from hb,show scpA (zaQ c d).1 (nL n)=z from hz.symm,show scpN c (zaQ c d).1 (nL n)=m from hm.symm];rfl
theorem qLaw:WideMaps.KeyLaw zb 156:=deep_law (m:=2) o_ (by kernel_rfl) (by kernel_rfl) (by kernel_rfl)
theorem qWf{a:Int}(h:inR .i64 a):(Lit.int .i64 a).wf=true:=by
 simp only[Lit.wf,zf,decide_eq_true_eq];exact h
theorem qLit{a b:Int}(ha:inR .i64 a)(hb:inR .i64 b)(d:Nat):zb.keyLits (d+2) 156 [.int .i64 a,.int .i64 b]=some [.int .i64 a,.int .i64 b]:=by
 have h1:zb.cellsOf 156=2:=by kernel_rfl
 have h2:zb.cellsOf 3=1:=by kernel_rfl
 unfold pX;rw[fK];simp[pX,Tryz.underlying3,qWf ha,qWf hb,h1,h2]
theorem qOf{a b:Int}(ha:inR .i64 a)(hb:inR .i64 b):∃l,keyOf zb 156 (qKey a b)=some l:=by
 have h1:zb.keyType 156=true:=by kernel_rfl
 have h2:(qKey a b).formed zb 156=true:=by kernel_rfl
 obtain⟨d,hd⟩:∃d,zb.types.size+1=d+2:=⟨zb.types.size-1,by kernel_rfl⟩;unfold keyOf;rw[fK];simp only[h1,h2,hd,Bool.and_self,if_true];rw[show(qKey a b).cells.toList=[.int .i64 a,.int .i64 b] from rfl,qLit ha hb];exact⟨_,rfl⟩
theorem zt3{a b c d:Int}(h:qKey a b=qKey c d):a=c/\b=d:=by
 unfold qKey at h
 injection h with h
 have h:=congrArg uf h;simp at h;exact h
section
variable {w:zh}{m ck:Nat}{ms:Array MapEntry}{H:Int->Int->Bool}{a b:Int}
theorem zy3(hI:qI H (ms.toList.map λe=>(e.key,e.val)))(ha:inR .i64 a)(hb:inR .i64 b):
  ((Instr.findKey 156 (qKey a b) ms.toList).run zb w=.ok none w/\∀e∈ms.toList,e.key≠qKey a b)\/∃j e,(Instr.findKey 156 (qKey a b) ms.toList).run zb w=.ok (some (j,.bool (H a b))) w/\ms[j]? =some e/\e.key=qKey a b:=by
 obtain⟨l,hl⟩:=qOf ha hb;have hk:∀e∈ms.toList,∃c d,inR .i64 c/\inR .i64 d/\e.key=qKey c d/\e.val=.bool (H c d):=λe he=>by
  obtain⟨c,d,h1,h2,h3⟩:=hI _ (jh he);exact⟨c,d,h1,h2,congrArg (·.1) h3,congrArg (·.2) h3⟩
 rcases qLaw.find w hl ms.toList (λe he=>by
  obtain⟨c,d,h1,h2,h3,_⟩:=hk e he;rw[h3];exact qOf h1 h2) with h|⟨j,e,h1,h2,h3⟩
 .exact .inl h
 .refine .inr ⟨j,e,?_,by simpa using h2,h3⟩;obtain⟨c,d,_,_,h4,h5⟩:=hk e (xX h2);obtain⟨rfl,rfl⟩:=zt3 (h4.symm.trans h3);rw[h1,h5]
theorem zok(ha:inR .i64 a)(hb:inR .i64 b)(em:Bool):(Instr.checkKey em 10000 156 (qKey a b)).run zb w=.ok () w:=by
 obtain⟨l,hl⟩:=qOf ha hb;exact qLaw.check w em hl
theorem zAK(hm:w.heap[m]? =some (.map ms ck))(hI:qI H (ms.toList.map λe=>(e.key,e.val)))(ha:inR .i64 a)(hb:inR .i64 b){ok:Bool}(x0:ok=true↔∃e∈ms.toList.map (λe=>(e.key,e.val)),e.1=qKey a b):
  (kC 147 (.map (some m)) (qKey a b) true).run zb w=.ok (.tuple #[.bool (bif ok then H a b else false),.bool ok]) w:=by
 have hz:(zeroValue 4).run zb w=.ok (.bool false) w:=by kernel_rfl
 rcases zy3 (w:=w) hI ha hb with ⟨h1,h2⟩|⟨j,e,h1,h2,h3⟩
 .have e0:ok=false:=by
   cases ok with
   |false=>rfl
   |true=>
    obtain⟨e,he,h3⟩:=x0.1 rfl;obtain⟨e',x1,rfl⟩:=jK.1 he;exact absurd h3 (h2 e' x1)
  subst e0;simp[kC,run_underlying kY,ka hm,zok ha hb,h1,hz,jr]
 .have e0:=x0.2 ⟨_,jh (by exact(xX (by simpa using h2))),h3⟩;subst e0;simp[kC,run_underlying kY,ka hm,zok ha hb,h1,jr]
theorem qPut(hm:w.heap[m]? =some (.map ms ck))(hI:qI H (ms.toList.map λe=>(e.key,e.val)))(ha:inR .i64 a)(hb:inR .i64 b):
  ∃ms' ck',(kO 147 (.map (some m)) (qKey a b) (.bool (H a b))).run zb w=.ok () { w with heap:=w.heap.setIfInBounds m (.map ms' ck') }/\qI H (ms'.toList.map λe=>(e.key,e.val)):=by
 obtain⟨l,hl⟩:=qOf ha hb;rcases zy3 (w:=w) hI ha hb with ⟨h1,h2⟩|⟨j,e,h1,h2,h3⟩
 .refine⟨ms.push ⟨qKey a b,.bool (H a b),ck⟩,ck+1,?_,?_⟩
  .simp[kO,run_underlying kY,ka hm,zok ha hb,h1,gI _ hm,jr]
  .intro x hx;rw[Array.toList_push,List.map_append,List.mem_append]at hx;rcases hx with hx|hx
   .exact hI x hx
   .rw[List.map_singleton,zt]at hx;exact⟨a,b,ha,hb,hx⟩
 .refine⟨ms.modify j (λe'=>{ e' with key:=qKey a b,val:=.bool (H a b) }),ck,?_,?_⟩
  .simp[kO,run_underlying kY,ka hm,zok ha hb,h1,h2,h3,qLaw.stays w hl,gI _ hm,jr]
  .intro x hx;obtain⟨y,hy,rfl⟩:=jK.1 hx;rcases MapFrom.mem_modify hy with hy|⟨e',_,rfl⟩
   .exact hI _ (jh hy)
   .exact⟨a,b,ha,hb,rfl⟩
end
section
variable {P:zw}{w0:zh}{X:Ownr}{n:Nat}{Y:AS}{Q:Exit->AS->Prop}{c:Code}
theorem zhD(w:zh)(o:Option Nat):w.grownBy w o:=⟨rfl,rfl,rfl,zj _,λ_ _ _=>rfl⟩
theorem zvo{i m:Nat}{I:List (zd×zd)->Prop}(hm:zm Y.E i=some (.mp m I))(h:∀es0,I es0->AWP P w0 X n c ⟨Y.F,(i,some (.mp m λes=>es=es0))::Y.E,Y.nx⟩ Q):AWP P w0 X n c Y Q:=λU a w hs=>by
 obtain⟨ms,ck,eb,h0,h1,h2⟩:=hs.own i _ hm;exact h _ h2 U a w (hs.write (o':=.mp m λes=>es=ms.toList.map λe=>(e.key,e.val)) hm (zhD _ _) (λ_=>⟨ms,ck,eb,h0,h1,rfl⟩) rfl (by intro vs e;cases e))
theorem zvn{i m:Nat}{I I':List (zd×zd)->Prop}(hm:zm Y.E i=some (.mp m I))(hI:∀es,I es->I' es)(h:AWP P w0 X n c ⟨Y.F,(i,some (.mp m I'))::Y.E,Y.nx⟩ Q):AWP P w0 X n c Y Q:=λU a w hs=>by
 obtain⟨ms,ck,eb,h0,h1,h2⟩:=hs.own i _ hm;exact h U a w (hs.write (o':=.mp m I') hm (zhD _ _) (λ_=>⟨ms,ck,eb,h0,h1,hI _ h2⟩) rfl (by intro vs e;cases e))
theorem zqh{ops:Array Oper}{B:zN}{L:List (Nat×Nat×V)}{E0:Owns}{nx0 i:Nat}{H:Int->Int->Bool}{m j:Nat}{es0:List (zd×zd)}(hm:zm E0 j=some (.mp m λes=>es=es0))(hI:qI H es0){x y:Int}(ha:inR .i64 x)(hb:inR .i64 y){ok:Bool}(x4:ok=true↔∃e∈es0,e.1=qKey x y)
  (o:Oper) (ho:ops.toList[i]? =some o) {p q:zB} (x3:o.op=.lookup 147 p q true) (x1:o.guard=none) {d:Nat} (x0:o.dst=some d) (x2:zM d n=true) (hL:∀G,resJ L i G=(d,⟨.tup .bool (.tup .bool .unit),((bif ok then H x y else false),ok,())⟩)::G)
  (hp:∀F,evO (zbT B L o++F) p=⟨.lit,.map (some m)⟩) (hq:∀F,evO (zbT B L o++F) q=⟨.pair i64 (.pair i64 .unit),(x,y,())⟩):vz zb w0 X n ops Q B L E0 nx0 i:=
 vW o ho x1 x0 x2 _ rfl hL λF U a w hs=>by
  obtain⟨ms,ck,eb,h0,h1,h2⟩:=hs.own j _ hm;have hk:a.eval q=qKey x y:=by
   have h3:=hs.ops q;rw[show evO (AS.mk _ E0 nx0).F q=_ from hq F]at h3;obtain⟨cs,h4,c1,c2,rfl,h5,c3,c4,rfl,h6,h7⟩:=(qr (t:=.pair i64 (.pair i64 .unit)) rfl).1 h3;rw[h4,show c1=_ from h5,show c3=_ from h6,show c4=_ from h7];rfl
  refine⟨.tuple #[.bool (bif ok then H x y else false),.bool ok],?_,?_⟩
  .unfold execOp;simp only[x3,zb1 hs (hp F),hk];exact zbz (zAK h1 (h2▸hI) ha hb (h2▸x4))
  .exact⟨_,rfl,_,_,rfl,rfl,_,_,rfl,rfl,rfl⟩
theorem StepA.keep{ops:Array Oper}{H:Int->Int->Bool}{m j:Nat}(hm:zm Y.E j=some (.mp m (qI H))){x y:Int}(ha:inR .i64 x)(hb:inR .i64 y){o:Oper}{p q r:zB}(x7:o.op=.mapUpdate 147 p q r)(x6:o.guard=none)(x0:o.dst=none)
  (hp:evO Y.F p=⟨.lit,.map (some m)⟩) (hq:evO Y.F q=⟨.pair i64 (.pair i64 .unit),(x,y,())⟩) (hr:evO Y.F r=⟨.bool,H x y⟩) {N:AS->Prop} (hN:N ⟨Y.F,(j,some (.mp m (qI H)))::Y.E,Y.nx⟩):StepA zb w0 X n ops o Y N Q:=
 StepA.hand x6 λU a w hs=>by
  obtain⟨ms,ck,eb,h0,h1,h2⟩:=hs.own j _ hm;have hk:a.eval q=qKey x y:=by
   have h3:=hs.ops q;rw[hq]at h3;obtain⟨cs,h4,c1,c2,rfl,h5,c3,c4,rfl,h6,h7⟩:=(qr (t:=.pair i64 (.pair i64 .unit)) rfl).1 h3;rw[h4,show c1=_ from h5,show c3=_ from h6,show c4=_ from h7];rfl
  have hv:a.eval r=.bool (H x y):=by
   have h3:=hs.ops r;rw[hr]at h3;exact RepV.bool h3
  have hl:a.eval p=.map (some m):=zb1 hs hp;obtain⟨x3,x2,h3,h4⟩:=qPut (w:=w) h1 h2 ha hb;have x1:(execOp a.eval o).run zb w=.ok .skip { w with heap:=w.heap.setIfInBounds m (.map x3 x2) }:=by
   unfold execOp;simp only[x7,hl,hk,hv];simp[h3]
  unfold Oper.wp;rw[x1];show ∃Y' U',Sim w0 X n Y' U' (a.put o.dst undef) _/\_;rw[x0];have x5:=(zl.1 h1).1;exact⟨_,U,hs.write (o':=.mp m (qI H)) hm ⟨rfl,rfl,rfl,by simp,λk _ x4=>by
   have:m≠k:=λe=>x4 (by rw[eb, <-e];rfl);simp[xO,this]⟩ (λ_=>⟨x3,x2,eb,h0,by simp[xO,x5],h4⟩) rfl (by intro vs e;cases e),hN⟩
end
abbrev qst:Ty:=.pair i64 (.pair i64 .unit)
def qT:Tbl:=(156,qst)::erT
theorem zAJ:TOk zb qT gmQ:=zid (by kernel_rfl) (by kernel_rfl)
def kQ:Kn:={ T:=qT,Q:=gmQ,U0:=gmU,C:=[] }
theorem zA1:KnOk zb gmH kQ:=⟨zAJ,zdm,CsOk.nil,zcb,vp⟩
theorem zAs:∀w,(ku 147).run zb w=.ok false w:=λw=>by kernel_rfl
theorem zBp:∀w,(ku 36).run zb w=.ok false w:=λw=>by kernel_rfl
theorem zAr:∀w,(ku 149).run zb w=.ok false w:=λw=>by kernel_rfl
theorem zwL:∀w,(vA 149).run zb w=.ok 1 w:=λw=>by kernel_rfl
def hasS(C:EvC)(i d:Int):Bool:=bif decide (d<0) then false else C.H i d
def cHas(C:EvC)(D:Int->Int->Prop)(k:Int):MCtr:={ args:=[.lit,i64,i64],pre:=λx=>[x.1=C.ev,0<=x.2.1/\x.2.1<k,x.2.1<(C.rs.length:Int),inR .i64 x.2.1,inR .i64 x.2.2.1,0<=x.2.2.1->D x.2.1 x.2.2.1],out:=λx=>hasS C x.2.1 x.2.2.1 }
def ztn(C:EvC)(i d:Int):Prop:=∃f pre out,C.kinds[(C.rs.getD i.toNat (zav nd)).1.toNat]? =some (.func (.func f) #[C.ev] #[])/\MOk zb C.ctx f (cEv C pre out)/\pre (C.rs.getD i.toNat (zav nd)) d/\out (C.rs.getD i.toNat (zav nd)) d=C.H i d
section
variable {C:EvC}{w0:zh}{n:Nat}{Q:Exit->AS->Prop}{ops:Array Oper}{B:zN}{L:List (Nat×Nat×V)}{E0:Owns}{nx0 i:Nat}
theorem EvC.kFld(k:Nat)(hk:k=0\/k=2\/k=3)(o:Oper)(ho:ops.toList[i]? =some o){x:zB}(x0:o.op=.fieldAddr 152 x k)(x2:o.guard=none){d:Nat}(x1:o.dst=some d)(x3:zM d n=true)(hL:∀G,resJ L i G=(d,⟨.lit,C.pt k⟩)::G)(hx:∀F,evO (zbT B L o++F) x=⟨.lit,C.ev⟩):vz zb w0 C.ctx.own n ops Q B L E0 nx0 i:=
 vW o ho x2 x1 x3 ⟨.lit,C.pt k⟩ rfl hL λF U a w hs=>⟨C.pt k,by
  have h:=zb1 hs (hx F);rcases hk with rfl|rfl|rfl
  .exact evF0 x0 h
  .exact evF2 x0 h
  .exact evF3 x0 h,rfl⟩
theorem EvC.kMap(hC:EvOk C)(x4:C.ctx.st w0)(o:Oper)(ho:ops.toList[i]? =some o){x:zB}(x1:o.op=.load 147 x)(x2:o.guard=none){d:Nat}(x0:o.dst=some d)(x3:zM d n=true)(hL:∀G,resJ L i G=(d,⟨.lit,.map (some C.m)⟩)::G)(hx:∀F,evO (zbT B L o++F) x=⟨.lit,C.pt 2⟩):vz zb w0 C.ctx.own n ops Q B L E0 nx0 i:=
 vW o ho x2 x0 x3 ⟨.lit,.map (some C.m)⟩ rfl hL λF U a w hs=>⟨.map (some C.m),ziL x1 (zb1 hs (hx F)) zAs (C.cell hC x4 hs (k:=2) rfl),rfl⟩
theorem EvC.kRule(hC:EvOk C)(x1:C.ctx.st w0)(o:Oper)(ho:ops.toList[i]? =some o){x:zB}(x2:o.op=.load 36 x)(x3:o.guard=none){d:Nat}(x0:o.dst=some d)(x4:zM d n=true)(hL:∀G,resJ L i G=(d,⟨.slice nd,C.rs⟩)::G)(hx:∀F,evO (zbT B L o++F) x=⟨.lit,C.pt 0⟩):vz zb w0 C.ctx.own n ops Q B L E0 nx0 i:=
 vW o ho x3 x0 x4 ⟨.slice nd,C.rs⟩ rfl hL λF U a w hs=>⟨C.rV,ziL x2 (zb1 hs (hx F)) zBp (C.cell hC x1 hs (k:=0) rfl),C.ruleAt hC x1 hs⟩
theorem EvC.kFn(o:Oper)(ho:ops.toList[i]? =some o){x y:zB}{k:Int}(x1:o.op=.indexAddr 150 x y)(x2:o.guard=none){d:Nat}(x0:o.dst=some d)(x3:zM d n=true)(hL:∀G,resJ L i G=(d,⟨.lit,C.pt (3+k.toNat)⟩)::G)(hx:∀F,evO (zbT B L o++F) x=⟨.lit,C.pt 3⟩)(hy:∀F,evO (zbT B L o++F) y=⟨i64,k⟩)(h0:0<=k)(h1:k<19):vz zb w0 C.ctx.own n ops Q B L E0 nx0 i:=
 vW o ho x2 x0 x3 ⟨.lit,C.pt (3+k.toNat)⟩ rfl hL λF U a w hs=>⟨C.pt (3+k.toNat),by
  have h2:=hs.ops y;rw[show evO (AS.mk _ E0 nx0).F y=_ from hy F]at h2;have h3:=je h2;have h4:=zb1 hs (hx F);unfold execOp;simp only[x1,h3,h4];have:=zf6 (P:=zb) (w:=w) (k:=.i64) (A:=⟨C.be,3,none⟩) Tryz.underlying150 (zwL w) h0 h1;rw[xF,Nat.mul_one]at this;exact zbz this,rfl⟩
theorem EvC.kMeth(hC:EvOk C)(x4:C.ctx.st w0)(o:Oper)(ho:ops.toList[i]? =some o){x:zB}{k:Int}{u:zd}(hk:C.kinds[k.toNat]? =some u)(x1:o.op=.load 149 x)(x2:o.guard=none){d:Nat}(x0:o.dst=some d)(x3:zM d n=true)(hL:∀G,resJ L i G=(d,⟨.lit,u⟩)::G)(hx:∀F,evO (zbT B L o++F) x=⟨.lit,C.pt (3+k.toNat)⟩):vz zb w0 C.ctx.own n ops Q B L E0 nx0 i:=
 vW o ho x2 x0 x3 ⟨.lit,u⟩ rfl hL λF U a w hs=>⟨u,ziL x1 (zb1 hs (hx F)) zAr (C.cell hC x4 hs (k:=3+k.toNat) (by
  rw[qD (by simp)]
  simpa using hk)),rfl⟩
end
set_option maxHeartbeats 2000000 in
theorem zvX{C:EvC}(hC:EvOk C){D:Int->Int->Prop}{k:Int}(hM:∀i d,0<=i->i<k->i<(C.rs.length:Int)->0<=d->D i d->ztn C i d):MOk zb C.ctx 56 (cHas C D k):=by
 have hK:=C.kn hC zA1;refine zbf (K:=kQ) hC.hG hK Tryz.func56 rfl rfl Tryz.call56 rfl (zq rfl) ?_;rintro w0 hX x2 ⟨e,(i:Int),(d:Int),_⟩ hp;obtain⟨rfl,⟨x8,xf⟩,xc,xd,xa,hD⟩:e=C.ev/\(0<=i/\i<k)/\i<(C.rs.length:Int)/\inR .i64 i/\inR .i64 d/\(0<=d->D i d):=hp;change AWP _ _ _ _ _ ⟨[(0,⟨.lit,C.ev⟩),(1,⟨i64,i⟩),(2,⟨i64,d⟩)],[(0,some (.mp C.m C.ctx.I))],1⟩ _
 iterate 2 (refine za (za (zaa hK ?_)))
 refine zaf rfl (λhb=>?_) (λhb=>?_)
 .have hb:decide (d<0)=true:=hb;refine za (za (zaa hK ?_));refine zp ⟨.inr rfl,rfl,D1 ?_⟩;show false=hasS C i d;rw[hasS,hb];rfl
 have hb:decide (d<0)=false:=hb;have xb:0<=d:=by have:=of_decide_eq_false hb;omega
 obtain⟨f,pre,out,x0,xe,x5,x1⟩:=hM i d x8 xf xc xb (hD xb);obtain⟨nn,x7⟩:∃nn,nn=C.rs.getD i.toNat (zav nd):=⟨_,rfl⟩;rw[<-x7]at x0 x5 x1;apply zah;refine za (za (zaa hK ?_));refine za (za ?_);refine zvo (i:=0) rfl λes0 x9=>?_;obtain⟨ok,xg⟩:∃ok:Bool,ok=true↔∃e∈es0,e.1=qKey i d:=by
  by_cases h:∃e∈es0,e.1=qKey i d
  .exact⟨true,λ_=>h,λ_=>rfl⟩
  .exact⟨false,λh=>(by cases h),λh'=>absurd h' h⟩
 let is:Bool:=bif ok then C.H i d else false
 let tup:V:=⟨.tup .bool (.tup .bool .unit),(is,ok,())⟩
 let Es:Owns:=[(0,some (.mp C.m λes=>es=es0)),(1,some (.box qst (i,d,())))]
 let B:zN:=[(0,⟨.lit,C.ev⟩),(1,⟨i64,i⟩),(2,⟨i64,d⟩),(7,⟨.optr qst,⟨1,qst,.here⟩⟩)]
 let L:List (Nat×Nat×V):=[(0,16,⟨.lit,C.ev⟩),(1,17,⟨.lit,C.ev⟩),(2,18,⟨.lit,C.pt 2⟩),(3,19,⟨.lit,.map (some C.m)⟩),(4,20,⟨qst,(i,d,())⟩),(5,21,tup),(6,15,tup),(7,22,⟨.bool,is⟩),(8,23,⟨.bool,ok⟩),(9,8,⟨.bool,is⟩)]
 refine zak (Y':=⟨B,Es,2⟩) ⟨⟨rfl,rfl,rfl,rfl,t_⟩,⟨rfl,rfl,t_⟩,rfl,rfl⟩ ?_;refine zcs 10 B L dM hX 11 rfl rfl (by kernel_rfl) (by kernel_rfl) rfl ⟨rfl,rfl,rfl,rfl,t_⟩ ?_ rfl ⟨rfl,rfl,t_⟩ rfl rfl ?_
 .refine(zA (zA (zA (zA (zA (zA (zA (zA (zA (zA qU ?_) ?_) ?_) ?_) ?_) ?_) ?_) ?_) ?_) ?_)
  .exact zx hX hK k_
  .exact C.kNil _ rfl rfl rfl rfl rfl (λ_=>rfl) λ_=>rfl
  .exact C.kFld 2 d_ _ rfl rfl rfl rfl rfl (λ_=>rfl) λ_=>rfl
  .exact C.kMap hC x2 _ rfl rfl rfl rfl rfl (λ_=>rfl) λ_=>rfl
  .exact zx hX hK k_
  .exact zqh (j:=0) (m:=C.m) (H:=C.H) (es0:=es0) rfl x9 xd xa xg _ rfl rfl rfl rfl rfl (λ_=>rfl) (λ_=>rfl) λ_=>rfl
  .exact zx hX hK k_
  .exact zx hX hK k_
  .exact zx hX hK k_
  .exact zx hX hK k_
 refine zX hX hK rfl t_ ?_;refine uW ?_;refine zvn (i:=0) (I':=C.ctx.I) rfl (λes h=>h▸x9) ?_
 let M:Option OObj:=some (.mp C.m C.ctx.I)
 let Em:Owns:=[(0,M),(1,some (.box qst (i,d,())))]
 refine za (za (zaa hK ?_));have xh:hasS C i d=C.H i d:=by rw[hasS,hb];rfl
 refine zbi (Y':=⟨[(8,⟨.bool,C.H i d⟩)],Em,2⟩) ?_ ?_
 .refine zaf rfl (λhb=>?_) (λhb=>?_)
  .have hb:(!ok)=true:=hb
   let u:zd:=.func (.func f) #[C.ev] #[]
   let L:List (Nat×Nat×V):=[(0,26,⟨.lit,C.ev⟩),(1,27,⟨.lit,C.ev⟩),(2,28,⟨.lit,C.ev⟩),(3,29,⟨.lit,C.pt 0⟩),(4,30,⟨.slice nd,C.rs⟩),(5,31,⟨i64,i⟩),(6,32,⟨.vptr nd,nn⟩),(7,33,⟨.vptr i64,nn.1⟩),(8,34,⟨i64,nn.1⟩),(9,35,⟨.lit,C.ev⟩),(10,36,⟨.lit,C.pt 3⟩),(11,37,⟨.lit,C.pt (3+Int.toNat nn.1)⟩),(12,38,⟨.lit,u⟩),
    (13,39,⟨.lit,C.ev⟩),(14,40,⟨.lit,C.ev⟩),(15,41,⟨.lit,C.pt 0⟩),(16,42,⟨.slice nd,C.rs⟩),(17,43,⟨i64,i⟩),(18,44,⟨.vptr nd,nn⟩),(19,45,⟨nd,nn⟩),(20,46,⟨i64,d⟩)]
   have x3:0<=(nn.1:Int)/\(nn.1:Int)<19:=by
    have h1:=(yI.1 x0).1;have h2:C.kinds.length=19:=rfl;have h3:0<(nn.1:Int):=by
     by_cases h:0<(nn.1:Int)
     .exact h
     .rw[show Int.toNat nn.1=0 by omega]at x0;cases x0
    omega
   have x6:0<=i/\i<(C.rs.length:Int):=⟨x8,xc⟩
   let B6:zN:=[(0,⟨.lit,C.ev⟩),(1,⟨i64,i⟩),(2,⟨i64,d⟩),(7,⟨.optr qst,⟨1,qst,.here⟩⟩)]
   apply zaq;refine zak (Y':=⟨B6,Em,2⟩) ⟨⟨rfl,rfl,rfl,rfl,t_⟩,⟨rfl,rfl,t_⟩,rfl,rfl⟩ ?_;refine zcs 21 B6 L dM hX 23 rfl rfl (by kernel_rfl) (by kernel_rfl) rfl ⟨rfl,rfl,rfl,rfl,t_⟩ ?_ rfl ⟨rfl,rfl,t_⟩ rfl rfl ?_
   .refine(zA (zA (zA (zA (zA (zA (zA (zA (zA (zA (zA (zA (zA (zA (zA (zA (zA (zA (zA (zA (zA qU ?_) ?_) ?_) ?_) ?_) ?_) ?_) ?_) ?_) ?_) ?_) ?_) ?_) ?_) ?_) ?_) ?_) ?_) ?_) ?_) ?_)
    .exact zx hX hK k_
    .exact zx hX hK k_
    .exact C.kNil _ rfl rfl rfl rfl rfl (λ_=>rfl) λ_=>rfl
    .exact C.kFld 0 d_ _ rfl rfl rfl rfl rfl (λ_=>rfl) λ_=>rfl
    .exact C.kRule hC x2 _ rfl rfl rfl rfl rfl (λ_=>rfl) λ_=>rfl
    .exact zx hX hK k_
    .exact zx hX hK ⟨_,rfl,λF=>⟨_,rfl,x6,congrArg (λz=>(32,(⟨.vptr nd,z⟩:V))::_) x7.symm,λ_=>rfl,rfl⟩⟩
    .exact zx hX hK k_
    .exact zx hX hK k_
    .exact C.kNil _ rfl rfl rfl rfl rfl (λ_=>rfl) λ_=>rfl
    .exact C.kFld 3 d_ _ rfl rfl rfl rfl rfl (λ_=>rfl) λ_=>rfl
    .exact C.kFn _ rfl rfl rfl rfl rfl (λ_=>rfl) (λ_=>rfl) (λ_=>rfl) x3.1 x3.2
    .exact C.kMeth hC x2 _ rfl x0 rfl rfl rfl rfl (λ_=>rfl) λ_=>rfl
    .exact zx hX hK k_
    .exact C.kNil _ rfl rfl rfl rfl rfl (λ_=>rfl) λ_=>rfl
    .exact C.kFld 0 d_ _ rfl rfl rfl rfl rfl (λ_=>rfl) λ_=>rfl
    .exact C.kRule hC x2 _ rfl rfl rfl rfl rfl (λ_=>rfl) λ_=>rfl
    .exact zx hX hK k_
    .exact zx hX hK ⟨_,rfl,λF=>⟨_,rfl,x6,congrArg (λz=>(44,(⟨.vptr nd,z⟩:V))::_) x7.symm,λ_=>rfl,rfl⟩⟩
    .exact zx hX hK k_
    .exact zx hX hK k_
   refine zmL hX xe rfl (i:=0) rfl rfl rfl (r:=C.ev) rfl rfl rfl (q:=[]) (xs:=(C.ev,nn,d,())) rfl t_ ⟨rfl,x5⟩ rfl rfl ?_;refine zX hX hK rfl t_ ?_;refine uW ?_;have x4:(cEv C pre out).out (C.ev,nn,d,())=C.H i d:=x1;refine zak (Y':=⟨(8,⟨.bool,C.H i d⟩)::B6,Em,2⟩) ⟨⟨congrArg (λz=>(⟨.bool,z⟩:V)) x4,rfl,rfl,rfl,rfl,t_⟩,⟨rfl,rfl,t_⟩,rfl,rfl⟩ ?_
   let L7:List (Nat×Nat×V):=[(0,48,⟨.lit,C.ev⟩),(1,49,⟨.lit,C.ev⟩),(2,50,⟨.lit,C.pt 2⟩),(3,51,⟨.lit,.map (some C.m)⟩),(4,52,⟨qst,(i,d,())⟩),(5,53,⟨.bool,C.H i d⟩)]
   refine zcs 6 ((8,⟨.bool,C.H i d⟩)::B6) L7 dM hX 7 rfl rfl (by kernel_rfl) (by kernel_rfl) rfl ⟨rfl,rfl,rfl,rfl,rfl,t_⟩ ?_ rfl ⟨rfl,rfl,t_⟩ rfl rfl ?_
   .refine(zA (zA (zA (zA (zA (zA qU ?_) ?_) ?_) ?_) ?_) ?_)
    .exact zx hX hK k_
    .exact C.kNil _ rfl rfl rfl rfl rfl (λ_=>rfl) λ_=>rfl
    .exact C.kFld 2 d_ _ rfl rfl rfl rfl rfl (λ_=>rfl) λ_=>rfl
    .exact C.kMap hC x2 _ rfl rfl rfl rfl rfl (λ_=>rfl) λ_=>rfl
    .exact zx hX hK k_
    .exact zx hX hK k_
   refine StepA.keep (j:=0) (m:=C.m) (H:=C.H) rfl xd xa rfl rfl rfl rfl rfl rfl ?_;refine uW ?_;exact⟨⟨rfl,t_⟩,⟨rfl,rfl,t_⟩,rfl,rfl⟩
  .have hb:(!ok)=false:=hb;have e:is=C.H i d:=by
    show(bif ok then C.H i d else false)=_;cases ok with
    |true=>rfl
    |false=>cases hb
   refine zah ⟨⟨?_,t_⟩,⟨rfl,rfl,t_⟩,rfl,rfl⟩;exact congrArg (λz=>(⟨.bool,z⟩:V)) e
 refine za (za (zaa hK ?_));refine zp ⟨.inr rfl,rfl,D1 ?_⟩;exact xh.symm
def HasPre(C:EvC)(D:Int->Int->Prop)(k i d:Int):Prop:=(0<=i/\i<k)/\i<(C.rs.length:Int)/\inR .i64 i/\inR .i64 d/\(0<=d->D i d)
theorem zdS{w0:zh}{X:Ownr}{n:Nat}{Y:AS}{Q:Exit->AS->Prop}{ops:Array Oper}(hX:X.Ok w0){C:EvC}{D:Int->Int->Prop}{k:Int}(hH:MOk zb C.ctx 56 (cHas C D k))(hS:X.G=C.ctx.st){j:Nat}(hm:zm Y.E j=some (.mp C.m (qI C.H))){o:Oper}{rest:List Oper}{p q r:zB}{ts:Array zo}
  (ho:o.op=.call ⟨.value (.func 56),#[p,q,r],ts⟩) (x3:o.guard=none) (x2:True=True) (hp:evO Y.F p=⟨.lit,C.ev⟩) {i d:Int} (hq:evO Y.F q=⟨i64,i⟩) (hr:evO Y.F r=⟨i64,d⟩) (x0:HasPre C D k i d) {t:Nat} (x1:o.dst=some t) (x4:zM t n=true)
  (h:AL zb w0 X n ops rest ⟨(t,⟨.bool,hasS C i d⟩)::Y.F,Y.E,Y.nx⟩ Q):AL zb w0 X n ops (o::rest) Y Q:=
 AL.mcall hX hH hS hm ho x3 (show(#[p,q,r]:Array zB).toList=[p,q,r] from rfl) rfl (q:=[]) (xs:=(C.ev,i,d,())) (by
  show zdY Y.E false [evO Y.F p,evO Y.F q,evO Y.F r] _=_;rw[hp,hq,hr];rfl) t_ ⟨rfl,x0.1,x0.2.1,x0.2.2.1,x0.2.2.2.1,x0.2.2.2.2⟩ x1 x4 h
def twoP(C:EvC)(D:Int->Int->Prop)(k:Int)(n:Nd)(d:Int):Prop:=HasPre C D k (nL n) d/\HasPre C D k (nR n) d
def zs8(C:EvC)(n:Nd)(d:Int):Bool:=bif hasS C (nL n) d then hasS C (nR n) d else false
theorem zul{C:EvC}(hC:EvOk C){D:Int->Int->Prop}{k:Int}(hH:MOk zb C.ctx 56 (cHas C D k)):MOk zb C.ctx 92 (cEv C (twoP C D k) (zs8 C)):=by
 have hK:=C.kn hC zdI;refine zbf (K:=kEv) hC.hG hK Tryz.func92 rfl rfl Tryz.call92 rfl (zq rfl) ?_;rintro w0 hX x1 ⟨e,n,d,_⟩ hp;obtain⟨rfl,hL,hR⟩:=hp;refine za (za (zaa hK ?_));refine ql hX 4 ?_
 let M:Option OObj:=some (.mp C.m C.ctx.I)
 refine za (za ?_);refine zae ?_;refine za4 4 hK ?_;refine zdS hX hH rfl (j:=0) rfl rfl rfl rfl rfl (i:=nL n) rfl (d:=d) rfl hL rfl rfl ?_;refine za4 1 hK ?_;obtain⟨b,hb⟩:∃b,b=hasS C (nL n) d:=⟨_,rfl⟩;have x0:(⟨.bool,hasS C (nL n) d⟩:V)=⟨.bool,b⟩:=by rw[hb]
 refine jp (Y':=⟨[(0,⟨.lit,C.ev⟩),(2,⟨i64,d⟩),(4,⟨.vptr nd,n⟩),(12,⟨.bool,b⟩)],[(0,M)],2⟩) ⟨⟨rfl,rfl,rfl,x0,t_⟩,⟨rfl,t_⟩,rfl,rfl⟩ ?_;cases b with
 |false=>
  iterate 5 refine qE 5 12 true .bool false rfl rfl rfl rfl rfl rfl ?_
  refine zaI hK ?_;refine zp ⟨.inr rfl,rfl,D1 ?_⟩;show _=zs8 C n d;rw[zs8, <-hb]
  try rfl
 |true=>
  iterate 4 (refine xE 5 12 true rfl rfl rfl rfl ?_;refine vu 1 hX hK rfl t_ ?_)
  refine xE 5 12 true rfl rfl rfl rfl ?_;refine zdS hX hH rfl (j:=0) rfl rfl rfl rfl rfl (i:=nR n) rfl (d:=d) rfl hR rfl rfl ?_;refine zaI hK ?_;refine zp ⟨.inr rfl,rfl,D1 ?_⟩;show _=zs8 C n d;rw[zs8, <-hb]
  try rfl
def ziZ(C:EvC)(n:Nd)(d:Int):Bool:=bif hasS C (nL n) d then true else hasS C (nR n) d
theorem zpV{C:EvC}(hC:EvOk C){D:Int->Int->Prop}{k:Int}(hH:MOk zb C.ctx 56 (cHas C D k)):MOk zb C.ctx 93 (cEv C (twoP C D k) (ziZ C)):=by
 have hK:=C.kn hC zdI;refine zbf (K:=kEv) hC.hG hK Tryz.func93 rfl rfl Tryz.call93 rfl (zq rfl) ?_;rintro w0 hX x1 ⟨e,n,d,_⟩ hp;obtain⟨rfl,hL,hR⟩:=hp;refine za (za (zaa hK ?_));refine ql hX 4 ?_
 let M:Option OObj:=some (.mp C.m C.ctx.I)
 refine za (za ?_);refine zae ?_;refine za4 4 hK ?_;refine zdS hX hH rfl (j:=0) rfl rfl rfl rfl rfl (i:=nL n) rfl (d:=d) rfl hL rfl rfl ?_;refine za4 1 hK ?_;obtain⟨b,hb⟩:∃b,b=hasS C (nL n) d:=⟨_,rfl⟩;have x0:(⟨.bool,hasS C (nL n) d⟩:V)=⟨.bool,b⟩:=by rw[hb]
 refine jp (Y':=⟨[(0,⟨.lit,C.ev⟩),(2,⟨i64,d⟩),(4,⟨.vptr nd,n⟩),(12,⟨.bool,b⟩)],[(0,M)],2⟩) ⟨⟨rfl,rfl,rfl,x0,t_⟩,⟨rfl,t_⟩,rfl,rfl⟩ ?_;cases b with
 |false=>
  iterate 4 (refine xE 5 12 false rfl rfl rfl rfl ?_;refine vu 1 hX hK rfl t_ ?_)
  refine xE 5 12 false rfl rfl rfl rfl ?_;refine zdS hX hH rfl (j:=0) rfl rfl rfl rfl rfl (i:=nR n) rfl (d:=d) rfl hR rfl rfl ?_;refine zaI hK ?_;refine zp ⟨.inr rfl,rfl,D1 ?_⟩;show _=ziZ C n d;rw[ziZ, <-hb]
  try rfl
 |true=>
  iterate 5 refine qE 5 12 false .bool false rfl rfl rfl rfl rfl rfl ?_
  refine zaI hK ?_;refine zp ⟨.inr rfl,rfl,D1 ?_⟩;show _=ziZ C n d;rw[ziZ, <-hb]
  try rfl
def zgb(C:EvC)(n:Nd)(d:Int):Bool:=bif hasS C (nL n) d then !hasS C (nR n) d else false
theorem znc{C:EvC}(hC:EvOk C){D:Int->Int->Prop}{k:Int}(hH:MOk zb C.ctx 56 (cHas C D k)):MOk zb C.ctx 94 (cEv C (twoP C D k) (zgb C)):=by
 have hK:=C.kn hC zdI;refine zbf (K:=kEv) hC.hG hK Tryz.func94 rfl rfl Tryz.call94 rfl (zq rfl) ?_;rintro w0 hX x1 ⟨e,n,d,_⟩ hp;obtain⟨rfl,hL,hR⟩:=hp;refine za (za (zaa hK ?_));refine ql hX 4 ?_
 let M:Option OObj:=some (.mp C.m C.ctx.I)
 refine za (za ?_);refine zae ?_;refine za4 4 hK ?_;refine zdS hX hH rfl (j:=0) rfl rfl rfl rfl rfl (i:=nL n) rfl (d:=d) rfl hL rfl rfl ?_;refine za4 1 hK ?_;obtain⟨b,hb⟩:∃b,b=hasS C (nL n) d:=⟨_,rfl⟩;have x0:(⟨.bool,hasS C (nL n) d⟩:V)=⟨.bool,b⟩:=by rw[hb]
 refine jp (Y':=⟨[(0,⟨.lit,C.ev⟩),(2,⟨i64,d⟩),(4,⟨.vptr nd,n⟩),(12,⟨.bool,b⟩)],[(0,M)],2⟩) ⟨⟨rfl,rfl,rfl,x0,t_⟩,⟨rfl,t_⟩,rfl,rfl⟩ ?_;cases b with
 |false=>
  iterate 6 refine qE 5 12 true .bool false rfl rfl rfl rfl rfl rfl ?_
  refine zaI hK ?_;refine zp ⟨.inr rfl,rfl,D1 ?_⟩;show _=zgb C n d;rw[zgb, <-hb]
  try rfl
 |true=>
  iterate 4 (refine xE 5 12 true rfl rfl rfl rfl ?_;refine vu 1 hX hK rfl t_ ?_)
  refine xE 5 12 true rfl rfl rfl rfl ?_;refine zdS hX hH rfl (j:=0) rfl rfl rfl rfl rfl (i:=nR n) rfl (d:=d) rfl hR rfl rfl ?_;refine xE 5 12 true rfl rfl rfl rfl ?_;refine za4 1 hK ?_;refine zaI hK ?_;refine zp ⟨.inr rfl,rfl,D1 ?_⟩;show _=zgb C n d;rw[zgb, <-hb]
  try rfl
def zyX(C:EvC)(n:Nd)(d:Int):Bool:=hasS C (nL n) (d-nN n)
def zvE(C:EvC)(D:Int->Int->Prop)(k:Int)(n:Nd)(d:Int):Prop:=HasPre C D k (nL n) (d-nN n)/\inR .i64 (d-nN n)
theorem zrx{C:EvC}(hC:EvOk C){D:Int->Int->Prop}{k:Int}(hH:MOk zb C.ctx 56 (cHas C D k)):MOk zb C.ctx 95 (cEv C (zvE C D k) (zyX C)):=by
 have hK:=C.kn hC zdI;refine zbf (K:=kEv) hC.hG hK Tryz.func95 rfl rfl Tryz.call95 rfl (zq rfl) ?_;rintro w0 hX x0 ⟨e,n,d,_⟩ hp;obtain⟨rfl,hL,hr⟩:=hp;refine za (za (zaa hK ?_));refine ql hX 4 ?_
 let M:Option OObj:=some (.mp C.m C.ctx.I)
 refine za (za ?_);refine zae ?_;refine vu 7 hX hK rfl hr ?_;refine zdS hX hH rfl (j:=0) rfl rfl rfl rfl rfl (i:=nL n) rfl (d:=d-nN n) rfl hL rfl rfl ?_;refine zaI hK ?_;exact zp ⟨.inr rfl,rfl,D1 rfl⟩
noncomputable def cutE(C:EvC)(n:Nd)(d:Int):Bool:=bif (eqb .bool (decide (d>=nN n)) ((n.1:Int)==12)) then hasS C (nL n) d else false
def cutP(C:EvC)(D:Int->Int->Prop)(k:Int)(n:Nd)(d:Int):Prop:=HasPre C D k (nL n) d/\True
theorem zrC{C:EvC}(hC:EvOk C){D:Int->Int->Prop}{k:Int}(hH:MOk zb C.ctx 56 (cHas C D k)):MOk zb C.ctx 96 (cEv C (cutP C D k) (cutE C)):=by
 have hK:=C.kn hC zdI;refine zbf (K:=kEv) hC.hG hK Tryz.func96 rfl rfl Tryz.call96 rfl (zq rfl) ?_;rintro w0 hX x1 ⟨e,n,d,_⟩ hp;obtain⟨rfl,hL,_⟩:=hp;refine za (za (zaa hK ?_));refine ql hX 4 ?_
 let M:Option OObj:=some (.mp C.m C.ctx.I)
 refine za (za ?_);refine zae ?_;refine za4 9 hK ?_;obtain⟨b,hb⟩:∃b:Bool,b=(eqb .bool (decide (d>=nN n)) ((n.1:Int)==12)):=⟨_,rfl⟩;have x0:(⟨.bool,(eqb .bool (decide (d>=nN n)) ((n.1:Int)==12))⟩:V)=⟨.bool,b⟩:=by rw[hb]
 refine jp (Y':=⟨[(0,⟨.lit,C.ev⟩),(2,⟨i64,d⟩),(4,⟨.vptr nd,n⟩),(15,⟨.bool,b⟩)],[(0,M)],2⟩) ⟨⟨rfl,rfl,rfl,x0,t_⟩,⟨rfl,t_⟩,rfl,rfl⟩ ?_;cases b with
 |false=>
  iterate 5 refine qE 8 15 true .bool false rfl rfl rfl rfl rfl rfl ?_
  refine zaI hK ?_;refine zp ⟨.inr rfl,rfl,D1 ?_⟩;show _=cutE C n d;rw[cutE, <-hb]
  try rfl
 |true=>
  iterate 4 (refine xE 8 15 true rfl rfl rfl rfl ?_;refine vu 1 hX hK rfl t_ ?_)
  refine xE 8 15 true rfl rfl rfl rfl ?_;refine zdS hX hH rfl (j:=0) rfl rfl rfl rfl rfl (i:=nL n) rfl (d:=d) rfl hL rfl rfl ?_;refine zaI hK ?_;refine zp ⟨.inr rfl,rfl,D1 ?_⟩;show _=cutE C n d;rw[cutE, <-hb]
  try rfl
noncomputable def zte(C:EvC)(n:Nd)(d:Int):Bool:=bif decide (d∈nLs n) then true else hasS C (nL n) d
def zvc(C:EvC)(D:Int->Int->Prop)(k:Int)(n:Nd)(d:Int):Prop:=HasPre C D k (nL n) d/\znv (nLs n)
theorem zuo{C:EvC}(hC:EvOk C){D:Int->Int->Prop}{k:Int}(hH:MOk zb C.ctx 56 (cHas C D k)):MOk zb C.ctx 97 (cEv C (zvc C D k) (zte C)):=by
 have hK:=C.kn hC zdI;refine zbf (K:=kEv) hC.hG hK Tryz.func97 rfl rfl Tryz.call97 rfl (zq rfl) ?_;rintro w0 hX x1 ⟨e,n,d,_⟩ hp;obtain⟨rfl,hL,hl⟩:=hp;refine za (za (zaa hK ?_));refine ql hX 4 ?_
 let M:Option OObj:=some (.mp C.m C.ctx.I)
 refine za (za ?_);refine zae ?_;refine vu 5 hX hK rfl hl ?_;obtain⟨b,hb⟩:∃b:Bool,b=decide (d∈nLs n):=⟨_,rfl⟩;have x0:(⟨.bool,decide (d∈nLs n)⟩:V)=⟨.bool,b⟩:=by rw[hb]
 refine jp (Y':=⟨[(0,⟨.lit,C.ev⟩),(2,⟨i64,d⟩),(4,⟨.vptr nd,n⟩),(11,⟨.bool,b⟩)],[(0,M)],2⟩) ⟨⟨rfl,rfl,rfl,x0,t_⟩,⟨rfl,t_⟩,rfl,rfl⟩ ?_;cases b with
 |false=>
  iterate 4 (refine xE 4 11 false rfl rfl rfl rfl ?_;refine vu 1 hX hK rfl t_ ?_)
  refine xE 4 11 false rfl rfl rfl rfl ?_;refine zdS hX hH rfl (j:=0) rfl rfl rfl rfl rfl (i:=nL n) rfl (d:=d) rfl hL rfl rfl ?_;refine zaI hK ?_;refine zp ⟨.inr rfl,rfl,D1 ?_⟩;show _=zte C n d;rw[zte, <-hb]
  try rfl
 |true=>
  iterate 5 refine qE 4 11 false .bool false rfl rfl rfl rfl rfl rfl ?_
  refine zaI hK ?_;refine zp ⟨.inr rfl,rfl,D1 ?_⟩;show _=zte C n d;rw[zte, <-hb]
  try rfl
noncomputable def ziV(C:EvC)(n:Nd)(d:Int):Bool:=bif !decide (d∈nLs n) then hasS C (nL n) d else false
theorem zpU{C:EvC}(hC:EvOk C){D:Int->Int->Prop}{k:Int}(hH:MOk zb C.ctx 56 (cHas C D k)):MOk zb C.ctx 98 (cEv C (zvc C D k) (ziV C)):=by
 have hK:=C.kn hC zdI;refine zbf (K:=kEv) hC.hG hK Tryz.func98 rfl rfl Tryz.call98 rfl (zq rfl) ?_;rintro w0 hX x1 ⟨e,n,d,_⟩ hp;obtain⟨rfl,hL,hl⟩:=hp;refine za (za (zaa hK ?_));refine ql hX 4 ?_
 let M:Option OObj:=some (.mp C.m C.ctx.I)
 refine za (za ?_);refine zae ?_;refine vu 6 hX hK rfl hl ?_;obtain⟨b,hb⟩:∃b:Bool,b=(!decide (d∈nLs n)):=⟨_,rfl⟩;have x0:(⟨.bool,(!decide (d∈nLs n))⟩:V)=⟨.bool,b⟩:=by rw[hb]
 refine jp (Y':=⟨[(0,⟨.lit,C.ev⟩),(2,⟨i64,d⟩),(4,⟨.vptr nd,n⟩),(12,⟨.bool,b⟩)],[(0,M)],2⟩) ⟨⟨rfl,rfl,rfl,x0,t_⟩,⟨rfl,t_⟩,rfl,rfl⟩ ?_;cases b with
 |false=>
  iterate 5 refine qE 5 12 true .bool false rfl rfl rfl rfl rfl rfl ?_
  refine zaI hK ?_;refine zp ⟨.inr rfl,rfl,D1 ?_⟩;show _=ziV C n d;rw[ziV, <-hb]
  try rfl
 |true=>
  iterate 4 (refine xE 5 12 true rfl rfl rfl rfl ?_;refine vu 1 hX hK rfl t_ ?_)
  refine xE 5 12 true rfl rfl rfl rfl ?_;refine zdS hX hH rfl (j:=0) rfl rfl rfl rfl rfl (i:=nL n) rfl (d:=d) rfl hL rfl rfl ?_;refine zaI hK ?_;refine zp ⟨.inr rfl,rfl,D1 ?_⟩;show _=ziV C n d;rw[ziV, <-hb]
  try rfl
def bhL(hL hR:Int->Bool)(N:Int):Nat->Int->Int->Bool
 |0,_,_=>false
 |f+1,a,c=>bif (bif decide (a>=0) then decide (c<=N) else false) then(bif (bif decide (c=N) then hL a else false) then true else bhL hL hR N f (a-1) (bif hR a then c+1 else c)) else false
def zga(C:EvC)(n:Nd)(d:Int):Bool:=bif !hasS C (nR n) d then false else bhL (hasS C (nL n)) (hasS C (nR n)) (nN n) (d+1).toNat (d-1) 1
def znS(C:EvC)(D:Int->Int->Prop)(k:Int)(n:Nd)(d:Int):Prop:=zi1 d/\(1<=nN n/\nN n<=400)/\∀a,0<=a->a<=d->HasPre C D k (nL n) a/\HasPre C D k (nR n) a
set_option maxHeartbeats 1000000 in
theorem zpW{C:EvC}(hC:EvOk C){D:Int->Int->Prop}{k:Int}(hH:MOk zb C.ctx 56 (cHas C D k)):MOk zb C.ctx 100 (cEv C (znS C D k) (zga C)):=by
 have hK:=C.kn hC zdI;refine zbf (K:=kEv) hC.hG hK Tryz.func100 rfl rfl Tryz.call100 rfl (zq rfl) ?_;rintro w0 hX xb ⟨e,(n:Nd),(d:Int),_⟩ hp;obtain⟨rfl,⟨x9,xe⟩,⟨xd,xc⟩,x4⟩:e=C.ev/\znS C D k n d:=hp;change AWP _ _ _ _ _ ⟨[(0,⟨.lit,C.ev⟩),(1,⟨nd,n⟩),(2,⟨i64,d⟩)],[(0,some (.mp C.m C.ctx.I))],1⟩ _;refine za (za (zaa hK ?_));refine ql hX 4 ?_
 let M:Option OObj:=some (.mp C.m C.ctx.I)
 refine zak (Y':=⟨[(0,⟨.lit,C.ev⟩),(2,⟨i64,d⟩),(4,⟨.vptr nd,n⟩)],[(0,M)],2⟩) ⟨⟨rfl,rfl,rfl,t_⟩,⟨rfl,t_⟩,rfl,rfl⟩ ?_;refine za (za ?_);refine zae ?_;refine za4 4 hK ?_;refine zdS hX hH rfl (j:=0) rfl rfl rfl rfl rfl (i:=nR n) rfl (d:=d) rfl (x4 d x9 (yS _)).2 rfl rfl ?_;refine zaI hK ?_;refine zaf rfl (λhb=>?_) (λhb=>?_)
 .have hb:(!hasS C (nR n) d)=true:=hb;refine za (za (zaa hK ?_));refine zp ⟨.inr rfl,rfl,D1 ?_⟩;show false=zga C n d;rw[zga,hb];rfl
 have x7:(!hasS C (nR n) d)=false:=hb;have q1:inR .i64 (d-1):=zad o_ o_;apply zah
 iterate 2 (refine za (za (zaa hK ?_)))
 refine za (za ?_);obtain⟨Vb,hV⟩:∃Vb,Vb=bhL (hasS C (nL n)) (hasS C (nR n)) (nN n) (d+1).toNat (d-1) 1:=⟨_,rfl⟩
 let F (a c:Int):zN:=[(0,⟨.lit,C.ev⟩),(4,⟨.vptr nd,n⟩),(7,⟨i64,c⟩),(8,⟨i64,a⟩)]
 refine xP (ι:=Int×Int×Nat) (λp=>⟨F p.1 p.2.1,[(0,M)],2⟩) (λp=>-1<=p.1/\p.1<d/\1<=p.2.1/\p.2.1<=nN n+1/\p.1+1<p.2.2/\Vb=bhL (hasS C (nL n)) (hasS C (nR n)) (nN n) p.2.2 p.1 p.2.1) (λp=>p.2.2) (d-1,1,(d+1).toNat) ⟨by show -1<=d-1;omega,by show d-1<d;omega,yS _,by show(1:Int)<=nN n+1;omega,by show d-1+1<((d+1).toNat:Int);omega,hV⟩ ⟨⟨rfl,rfl,rfl,rfl,t_⟩,⟨rfl,t_⟩,rfl,rfl⟩ ?_;rintro ⟨a,c,f⟩ ⟨xa,x5,x3,x8,x6,x0⟩;have x5:a<d:=x5;have x3:1<=c:=x3;have x8:c<=nN n+1:=x8;have x6:a+1<(f:Int):=x6;have x0:Vb=bhL (hasS C (nL n)) (hasS C (nR n)) (nN n) f a c:=x0;obtain⟨f,rfl⟩:∃f',f=f'+1:=⟨f-1,by omega⟩;rw[bhL]at x0;refine za (za ?_);refine zac hX hK rfl ?_ ?_
 .show allP _;exact z_
 refine za (za ?_);refine zaf rfl (λhb=>?_) (λhb=>?_)
 .have hb:(bif decide (a>=0) then decide (c<=nN n) else false)=true:=hb;rw[hb,cond_true]at x0;have ha:0<=a/\c<=nN n:=by
   by_cases h:a>=0
   .rw[show decide (a>=0)=true from decide_eq_true h,cond_true]at hb;exact⟨h,of_decide_eq_true hb⟩
   .rw[show decide (a>=0)=false from decide_eq_false h]at hb;cases hb
  obtain⟨pL,pR⟩:=x4 a ha.1 o_;apply zah;refine za (za ?_);refine zbi (Y':=⟨(37,⟨.bool,bif decide (c=nN n) then hasS C (nL n) a else false⟩)::F a c,[(0,M)],2⟩) ?_ ?_
  .refine zae ?_;refine za4 5 hK ?_;obtain⟨b,hb⟩:∃b:Bool,b=decide (c=nN n):=⟨_,rfl⟩;rw[<-hb];refine jp (Y':=⟨(31,⟨.bool,b⟩)::F a c,[(0,M)],2⟩) ⟨⟨congrArg (λz=>(⟨.bool,z⟩:V)) hb.symm,rfl,rfl,rfl,rfl,t_⟩,⟨rfl,t_⟩,rfl,rfl⟩ ?_;cases b with
   |false=>
    iterate 5 refine qE 4 31 true .bool false rfl rfl rfl rfl rfl rfl ?_
    refine zaI hK ?_;exact⟨⟨rfl,rfl,rfl,rfl,rfl,t_⟩,⟨rfl,t_⟩,rfl,rfl⟩
   |true=>
    iterate 4 (refine xE 4 31 true rfl rfl rfl rfl ?_;refine vu 1 hX hK rfl t_ ?_)
    refine xE 4 31 true rfl rfl rfl rfl ?_;refine zdS hX hH rfl (j:=0) rfl rfl rfl rfl rfl (i:=nL n) rfl (d:=a) rfl pL rfl rfl ?_;refine zaI hK ?_;exact⟨⟨rfl,rfl,rfl,rfl,rfl,t_⟩,⟨rfl,t_⟩,rfl,rfl⟩
  refine zaf rfl (λx2=>?_) (λx2=>?_)
  .have x2:(bif decide (c=nN n) then hasS C (nL n) a else false)=true:=x2;rw[x2]at x0;refine za (za (zaa hK ?_));refine zp ⟨.inr rfl,rfl,D1 ?_⟩;show true=zga C n d;rw[zga,x7, <-hV,x0];rfl
  have x2:(bif decide (c=nN n) then hasS C (nL n) a else false)=false:=x2;rw[x2,cond_false]at x0;apply zah;refine za (za ?_);have q3:inR .i64 (a-1):=zad o_ o_;refine zae ?_;refine za4 4 hK ?_;refine zdS hX hH rfl (j:=0) rfl rfl rfl rfl rfl (i:=nR n) rfl (d:=a) rfl pR rfl rfl ?_;refine zaI hK ?_;refine zaf rfl (λx1=>?_) (λx1=>?_)
  .have x1:hasS C (nR n) a=true:=x1;have q2:inR .i64 (c+1):=zad o_ o_;rw[x1,cond_true]at x0
   iterate 2 (refine za (za (zaa hK ?_)))
   refine⟨(a-1,c+1,f),⟨by show -1<=a-1;omega,by show a-1<d;omega,by show 1<=c+1;omega,by show c+1<=nN n+1;omega,by show a-1+1<(f:Int);omega,x0⟩,by show f<f+1;omega,⟨rfl,rfl,rfl,rfl,t_⟩,⟨rfl,t_⟩,rfl,rfl⟩
  .have x1:hasS C (nR n) a=false:=x1;rw[x1,cond_false]at x0;apply zah;refine za (za (zaa hK ?_));refine⟨(a-1,c,f),⟨by show -1<=a-1;omega,by show a-1<d;omega,by show 1<=c;omega,by show c<=nN n+1;omega,by show a-1+1<(f:Int);omega,x0⟩,by show f<f+1;omega,⟨rfl,rfl,rfl,rfl,t_⟩,⟨rfl,t_⟩,rfl,rfl⟩
 .have hb:(bif decide (a>=0) then decide (c<=nN n) else false)=false:=hb;rw[hb,cond_false]at x0;apply zaw;refine za (za (zaa hK ?_));refine zp ⟨.inr rfl,rfl,D1 ?_⟩;show false=zga C n d;rw[zga,x7, <-hV,x0];rfl
section
variable {P:zw}{K:Kn}{w0:zh}{X:Ownr}{n:Nat}{F:zN}{E:Owns}{nx:Nat}{Q:Exit->AS->Prop}{ops:Array Oper}
theorem zyJ(hX:X.Ok w0){o:Oper}{rest:List Oper}{t:zo}{x:zB}(ho:o.op=.box t x)(x1:o.guard=none){d:Nat}(hd:o.dst=some d)(x2:zM d n=true){A:Addr}(hx:evO F x=⟨.lit,.pointer (some A)⟩)(x3:True=True)
  (h:AL P w0 X n ops rest ⟨(d,⟨.hptr,(nx,(0:Nat))⟩)::F,(nx,some (.hbox t [⟨.lit,.pointer (some A)⟩]))::E,nx+1⟩ Q):AL P w0 X n ops (o::rest) ⟨F,E,nx⟩ Q:=by
 refine AL.hand x1 (λc e=>by rw[ho]at e;cases e) λU a w hs=>?_;have x0:d<n:=by simpa using x2
 have e1:a.eval x=.pointer (some A):=zb1 hs hx;refine za5 (u:=.pointer (some ⟨w.heap.size,0,none⟩)) (w':=w.alloc (.cells #[.pointer (some A)] t (0,0))) ?_ ?_
 .unfold execOp;simp only[ho];refine zbz ?_;rw[e1];simp[fc,newVar,newRow,vI,go_sem]
 .rw[hd];have hk:xG w.heap.size w (w.alloc (.cells #[.pointer (some A)] t (0,0))):=(zR _ w).alloc (zj _) (.cells #[.pointer (some A)] t (0,0));obtain⟨U',h4⟩:=hs.make hX hk (bv:=.pointer (some ⟨w.heap.size,0,none⟩)) (o:=.hbox t [⟨.lit,.pointer (some A)⟩])
   (λO U' hO=>⟨w.heap.size,[.pointer (some A)],rfl,zk _,qa w _,⟨_,[],rfl,rfl,rfl,rfl⟩⟩) (λg hg=>by cases hg;exact zj _) (v:=⟨.hptr,(nx,(0:Nat))⟩) (u:=.pointer (some ⟨w.heap.size,0,none⟩))
   (λO U' hb=>⟨w.heap.size,by show zag (U' nx)=_;rw[show U' nx=_ from hb];rfl,rfl⟩) (zj _) x0 (λvs e v hv=>by
     cases e;rw[zt.1 hv];exact zk _)
  exact⟨_,U',h4,h⟩
theorem zr2{U:Nat->zd}{a:Act}{w:zh}{j:Nat}{ty:zo}{u:zd}(hE:zm E j=some (.hbox ty [⟨.lit,u⟩])){t:zo}(ha:∀w,(ku t).run P w=.ok false w){o:Oper}{x:zB}(x0:o.op=.load t x)(hx:evO F x=⟨.hptr,(j,(0:Nat))⟩)(hs:Sim w0 X n ⟨F,E,nx⟩ U a w):(execOp a.eval o).run P w=.ok (.value u) w:=by
 have h1:=hs.ops x;rw[show evO (AS.mk F E nx).F x=_ from hx]at h1;obtain⟨g,hg,h2⟩:=h1;obtain⟨cs,h3,h4⟩:=(hs.own j _ hE).hcells hg;obtain⟨c,s,rfl,_,h5,h6⟩:=h3;subst h5;exact ziL (g:=g) (off:=0) x0 h2 ha (h4 0 c rfl)
theorem StepK.ldL{B:zN}{L:List (Nat×Nat×V)}{E0:Owns}{nx0 i j:Nat}{ty:zo}{u:zd}(hE:zm E0 j=some (.hbox ty [⟨.lit,u⟩])){t:zo}(ha:∀w,(ku t).run P w=.ok false w)(o:Oper)(ho:ops.toList[i]? =some o){x:zB}(x2:o.op=.load t x)(x1:o.guard=none){d:Nat}(x0:o.dst=some d)(x3:zM d n=true)(hL:∀G,resJ L i G=(d,⟨.lit,u⟩)::G)(hx:∀F,evO (zbT B L o++F) x=⟨.hptr,(j,(0:Nat))⟩):vz P w0 X n ops Q B L E0 nx0 i:=
 vW o ho x1 x0 x3 ⟨.lit,u⟩ rfl hL λF U a w hs=>⟨u,zr2 hE ha x2 (hx F) hs,rfl⟩
theorem AL.ldL{j:Nat}{ty:zo}{u:zd}(hE:zm E j=some (.hbox ty [⟨.lit,u⟩])){t:zo}(ha:∀w,(ku t).run P w=.ok false w){o:Oper}{rest:List Oper}{x:zB}(x1:o.op=.load t x)(x2:o.guard=none){d:Nat}(x0:o.dst=some d)(x3:zM d n=true)(hx:evO F x=⟨.hptr,(j,(0:Nat))⟩)
  (h:AL P w0 X n ops rest ⟨(d,⟨.lit,u⟩)::F,E,nx⟩ Q):AL P w0 X n ops (o::rest) ⟨F,E,nx⟩ Q:=
 AL.handV x2 (λc e=>by rw[x1]at e;cases e) x0 x3 ⟨.lit,u⟩ rfl (λU a w hs=>⟨u,zr2 hE ha x1 hx hs,rfl⟩) h
end
theorem zth:∀w,(ku 119).run zb w=.ok false w:=λw=>by kernel_rfl
def posU(h:Int->Bool)(d:Int)(x:Int):Bool:=bif h x then decide (x<=d) else false
def posV(h:Int->Bool)(d:Int)(x:Int):Bool:=bif h x then decide (x>=d) else false
def posG(cs:List Cal)(h:Int->Bool)(n:Nd)(d:Int):Bool:=
 bif (bif !(zaQ (zbh cs n) d).2 then true else !h d) then false
 else bif decide (cntP (posU h d) (scpA (zaQ (zbh cs n) d).1 (nM n)) (scpN (zbh cs n) (zaQ (zbh cs n) d).1 (nM n)).toNat∈nLs n) then true else decide (-cntP (posV h d) (scpA (zaQ (zbh cs n) d).1 (nM n)) (scpN (zbh cs n) (zaQ (zbh cs n) d).1 (nM n)).toNat∈nLs n)
def posS(C:EvC)(n:Nd)(d:Int):Bool:=posG C.cs (hasS C (nL n)) n d
def posP(C:EvC)(D:Int->Int->Prop)(k:Int)(n:Nd)(d:Int):Prop:=zi1 d/\zhM C.cs n/\znv (nLs n)/\HasPre C D k (nL n) d/\∀j:Nat,j<(scpN (zbh C.cs n) (zaQ (zbh C.cs n) d).1 (nM n)).toNat->HasPre C D k (nL n) (scpA (zaQ (zbh C.cs n) d).1 (nM n)+j)
set_option maxHeartbeats 1000000 in
theorem zy5{C:EvC}(hC:EvOk C){D:Int->Int->Prop}{k:Int}(hH:MOk zb C.ctx 56 (cHas C D k)):MOk zb C.ctx 99 (cEv C (posP C D k) (posS C)):=by
 have hK:=C.kn hC zdI;refine ziA (K:=kEv) hC.hG hK Tryz.func99 rfl rfl Tryz.call99 rfl (zq rfl) ?_;rintro w0 hX x6 ⟨e,(n:Nd),(d:Int),_⟩ hp;obtain⟨rfl,⟨xa,xb⟩,hc,hl,xc,x2⟩:e=C.ev/\posP C D k n d:=hp;change AWPE _ _ _ _ _ ⟨[(0,⟨.lit,C.ev⟩),(1,⟨nd,n⟩),(2,⟨i64,d⟩)],[(0,some (.mp C.m C.ctx.I))],1⟩ _;refine AWPE.seqA ?_;refine zae ?_;refine zyJ hX rfl rfl rfl rfl rfl rfl ?_;refine zaI hK ?_;refine AWPE.frzB hX 4 ?_;refine AWPE.frzB hX 5 ?_;obtain⟨c,x0⟩:∃c,c=zbh C.cs n:=⟨_,rfl⟩;have x9:C.cs[(nCal n).toNat]? =some c:=x0▸zcP hc;have x1:zbv c:=x0▸zfC hC hc;have x4:zk8 (eraS c)/\zld d:=⟨⟨x1,rfl⟩,by constructor<;>omega⟩
 let M:Option OObj:=some (.mp C.m C.ctx.I)
 let f:Plc×Bool:=zaQ c d
 let Hb:Option OObj:=some (.hbox 119 [⟨.lit,C.ev⟩])
 refine AWPE.seqA ?_
 let B:zN:=[(3,⟨.hptr,((1:Nat),(0:Nat))⟩),(4,⟨.vptr nd,n⟩),(5,⟨.vptr i64,d⟩)]
 let L:List (Nat×Nat×V):=[(0,13,⟨.lit,C.ev⟩),(1,14,⟨.lit,C.ev⟩),(2,15,⟨.lit,C.pt 1⟩),(3,16,⟨.lit,C.erV⟩),(4,17,⟨.vptr i64,nCal n⟩),(5,18,⟨i64,nCal n⟩),(6,19,⟨.lit,C.erP (nCal n).toNat⟩),(7,20,⟨.vptr eraT,eraS c⟩)]
 refine zak (Y':=⟨B,[(0,M),(1,Hb)],4⟩) ⟨⟨rfl,rfl,rfl,t_⟩,⟨rfl,rfl,t_⟩,rfl,rfl⟩ ?_;refine zcs 8 B L dM hX 9 rfl rfl (by kernel_rfl) (by kernel_rfl) rfl ⟨rfl,rfl,rfl,t_⟩ ?_ rfl ⟨rfl,rfl,t_⟩ rfl rfl ?_
 .refine(zA (zA (zA (zA (zA (zA (zA (zA qU ?_) ?_) ?_) ?_) ?_) ?_) ?_) ?_)
  .exact StepK.ldL (j:=1) rfl zth _ rfl rfl rfl rfl rfl (λ_=>rfl) λ_=>rfl
  .exact C.kNil _ rfl rfl rfl rfl rfl (λ_=>rfl) λ_=>rfl
  .exact C.kFld1 _ rfl rfl rfl rfl rfl (λ_=>rfl) λ_=>rfl
  .exact C.kEras hC x6 _ rfl rfl rfl rfl rfl (λ_=>rfl) λ_=>rfl
  .exact zx hX hK k_
  .exact zx hX hK k_
  .exact C.kIdx _ rfl rfl rfl rfl rfl (λ_=>rfl) (λ_=>rfl) (λ_=>rfl) hc.1 hc.2
  .exact C.kEra hC x6 _ rfl x9 rfl rfl rfl rfl (λ_=>rfl) λ_=>rfl
 refine zX hX hK rfl t_ ?_;refine uW ?_;refine AWPE.fit (Y':=⟨[(3,⟨.hptr,((1:Nat),(0:Nat))⟩),(4,⟨.vptr nd,n⟩),(5,⟨.vptr i64,d⟩),(7,⟨.vptr eraT,eraS c⟩)],[(0,M),(1,Hb)],4⟩) ⟨⟨rfl,rfl,rfl,rfl,t_⟩,⟨rfl,rfl,t_⟩,rfl,rfl⟩ ?_;refine AWPE.seqA ?_;refine zac hX hK rfl x4 ?_;refine AWPE.frzB hX 8 ?_
 let F0:zN:=[(3,⟨.hptr,((1:Nat),(0:Nat))⟩),(4,⟨.vptr nd,n⟩),(5,⟨.vptr i64,d⟩),(7,⟨.vptr eraT,eraS c⟩),(8,⟨.vptr plc,f.1⟩)]
 refine AWPE.fit (Y':=⟨(9,⟨.bool,f.2⟩)::F0,[(0,M),(1,Hb)],5⟩) ⟨⟨rfl,rfl,rfl,rfl,rfl,rfl,t_⟩,⟨rfl,rfl,t_⟩,rfl,rfl⟩ ?_;refine AWPE.seqA ?_;refine za8 (Y':=⟨(36,⟨.bool,bif !f.2 then true else !hasS C (nL n) d⟩)::F0,[(0,M),(1,Hb)],5⟩) ?_ ?_
 .refine zae ?_;refine za4 3 hK ?_;obtain⟨b,hb⟩:∃b:Bool,b= !f.2:=⟨_,rfl⟩;rw[<-hb];refine jp (Y':=⟨(29,⟨.bool,b⟩)::F0,[(0,M),(1,Hb)],5⟩) ⟨⟨rfl,rfl,rfl,rfl,rfl,rfl,t_⟩,⟨rfl,rfl,t_⟩,rfl,rfl⟩ ?_;cases b with
  |true=>
   refine qE 2 29 false .lit C.ev rfl rfl rfl rfl rfl rfl ?_
   iterate 5 refine qE 2 29 false .bool false rfl rfl rfl rfl rfl rfl ?_
   refine zaI hK ?_;exact⟨⟨rfl,rfl,rfl,rfl,rfl,rfl,t_⟩,⟨rfl,rfl,t_⟩,rfl,rfl⟩
  |false=>
   refine xE 2 29 false rfl rfl rfl rfl ?_;refine AL.ldL (j:=1) rfl zth rfl rfl rfl rfl rfl ?_
   iterate 3 (refine xE 2 29 false rfl rfl rfl rfl ?_;refine vu 1 hX hK rfl t_ ?_)
   refine xE 2 29 false rfl rfl rfl rfl ?_;refine zdS hX hH rfl (j:=0) rfl rfl rfl rfl rfl (i:=nL n) rfl (d:=d) rfl xc rfl rfl ?_;refine xE 2 29 false rfl rfl rfl rfl ?_;refine za4 1 hK ?_;refine zaI hK ?_;exact⟨⟨rfl,rfl,rfl,rfl,rfl,rfl,t_⟩,⟨rfl,rfl,t_⟩,rfl,rfl⟩
 refine zaf rfl (λhb=>?_) (λhb=>?_)
 .have hb:(bif !f.2 then true else !hasS C (nL n) d)=true:=hb;refine za (za (zaa hK ?_));refine zp ⟨.inr rfl,rfl,D1 ?_⟩;show false=posG C.cs (hasS C (nL n)) n d;rw[posG, <-x0,show(bif !(zaQ c d).2 then true else !hasS C (nL n) d)=true from hb];rfl
 have hb:(bif !f.2 then true else !hasS C (nL n) d)=false:=hb;apply zah;refine AWPE.seqA ?_;refine zac hX hK rfl t_ ?_;have x3:=zqQ (k:=nM n) x1 ⟨xa,xb⟩;have xe:(0<=pDay f.1/\pDay f.1<=1000000)/\(0<=pNth f.1/\pNth f.1<=1000000)/\(0<=monL c (zet f.1) (pMon f.1)/\monL c (zet f.1) (pMon f.1)<=41):=zjV x1;have xd:pNum f.1=d\/pNum f.1=0:=zkD;have q1:inR .i64 (pNum f.1-pDay f.1):=zad o_ o_;have q2:inR .i64 (pNum f.1-pNth f.1):=zad o_ o_;obtain⟨z,hz⟩:∃z,z=scpA f.1 (nM n):=⟨_,rfl⟩;obtain⟨m,hm⟩:∃m,m=scpN c f.1 (nM n):=⟨_,rfl⟩;have x3:(-1000000<=z/\z<=1048576)/\0<=m/\m<=656:=by rw[hz,hm];exact x3
 have x2:∀j:Nat,j<m.toNat->HasPre C D k (nL n) (z+j):=by
  have h1:∀j:Nat,j<(scpN c (zaQ c d).1 (nM n)).toNat->HasPre C D k (nL n) (scpA (zaQ c d).1 (nM n)+j):=by rw[x0];exact x2
  rw[hz,hm];exact h1
 refine AWPE.seqE (AWPE.seqA ?_);refine zac hX hK rfl ⟨x1,q1,q2⟩ ?_;refine AWPE.fit (Y':=⟨[(3,⟨.hptr,((1:Nat),(0:Nat))⟩),(4,⟨.vptr nd,n⟩),(5,⟨.vptr i64,d⟩),(10,⟨.optr i64,⟨5,i64,.here⟩⟩),(11,⟨.optr i64,⟨6,i64,.here⟩⟩),(41,⟨.clo 138 zqR,(scpA f.1 (nM n),scpN c f.1 (nM n),())⟩)],[(0,M),(1,Hb),(5,some (.box i64 (0:Int))),(6,some (.box i64 (0:Int)))],7⟩) ⟨⟨rfl,rfl,rfl,rfl,rfl,rfl,t_⟩,⟨rfl,rfl,rfl,rfl,t_⟩,rfl,rfl⟩ ?_;rw[<-hz, <-hm];refine AWPE.D (pU [(0,0),(1,1),(5,2),(6,3)] 4 ?_)
 let h:Int->Bool:=hasS C (nL n)
 let u (k:Nat):Int:=cntP (posU h d) z k
 let v (k:Nat):Int:=cntP (posV h d) z k
 let E (k:Nat):Owns:=[(0,M),(1,Hb),(2,some (.box i64 (u k))),(3,some (.box i64 (v k)))]
 let F:List (Nat×V):=[(3,⟨.hptr,((1:Nat),(0:Nat))⟩),(4,⟨.vptr nd,n⟩),(5,⟨.vptr i64,d⟩),(10,⟨.optr i64,⟨2,i64,.here⟩⟩),(11,⟨.optr i64,⟨3,i64,.here⟩⟩)]
 have x7:=λds=>MCtx.own_ok hX ds;refine fJ ?_;refine zeG x7 rfl Tryz.call138 [42] rfl rfl rfl m.toNat (scpV z) (λ_=>rfl) (zob z m x3.2.1 (zad o_ o_) (zad o_ o_)) 4 (λi hi=>?_) F ⟨rfl,rfl,rfl,rfl,rfl,t_⟩ rfl E 4 (zj _) ⟨⟨rfl,rfl,rfl,rfl,rfl,t_⟩,⟨rfl,rfl,rfl,rfl,t_⟩,rfl,rfl⟩ (λk=>rfl)
  (λ_=>True) (λ_=>False) trivial
  (λk=>⟨(12,⟨i64,z+(k:Int)⟩)::F,E k,4⟩) (λk=>zj _) E (λW O' Bf fix l x5 j hk hA=>?_) (λW O' Bf fix l x5 j hk hA=>?_) (λhA=>?_) (λk hk hA hR=>hR.elim)
 .match i,hi with
  |0,_=>exact⟨_,rfl,rfl⟩
  |1,_=>exact⟨_,rfl,rfl⟩
  |2,_=>exact⟨_,rfl,rfl⟩
  |3,_=>exact⟨_,rfl,rfl⟩
 .refine zac x5 hK rfl t_ ?_;exact⟨rfl,⟨rfl,rfl,rfl,rfl,rfl,rfl,t_⟩,⟨rfl,rfl,rfl,rfl,t_⟩,rfl,rfl⟩
 .have hX:=x5;have hu:=zf8 (p:=posU h d) (z:=z) j;have hv:=zf8 (p:=posV h d) (z:=z) j;have q3:inR .i64 (u j+1):=zad (by show _<=cntP _ z j+1;omega) (by show cntP _ z j+1<=_;omega);have q4:inR .i64 (v j+1):=zad (by show _<=cntP _ z j+1;omega) (by show cntP _ z j+1<=_;omega);refine za (za ?_);refine zae ?_;refine AL.ldL (j:=1) rfl zth rfl rfl rfl rfl rfl ?_;refine za4 3 hK ?_;refine zdS hX hH rfl (j:=0) rfl rfl rfl rfl rfl (i:=nL n) rfl (d:=z+(j:Int)) rfl (x2 j hk) rfl rfl ?_;refine zaI hK ?_;refine zaf rfl (λhb=>?_) (λhb=>?_)
  .have hb:(!h (z+(j:Int)))=true:=hb;have hb:h (z+(j:Int))=false:=by simpa using hb
   apply zaw;refine .inl ⟨rfl,t_,⟨t_,⟨rfl,rfl,zeQ ?_,zeQ ?_,t_⟩,rfl,rfl⟩⟩
   .show u j=cntP _ z j+_;rw[posU,hb,cond_false,if_neg d_,vN]
   .show v j=cntP _ z j+_;rw[posV,hb,cond_false,if_neg d_,vN]
  have hb:(!h (z+(j:Int)))=false:=hb;have hb:h (z+(j:Int))=true:=by simpa using hb
  have eU:posU h d (z+(j:Int))=decide (z+(j:Int)<=d):=by rw[posU,hb];rfl
  have eV:posV h d (z+(j:Int))=decide (z+(j:Int)>=d):=by rw[posV,hb];rfl
  apply zah;refine za (za (zaa hK ?_));refine zbi (Y':=⟨(12,⟨i64,z+(j:Int)⟩)::F,[(0,M),(1,Hb),(2,some (.box i64 (u (j+1)))),(3,some (.box i64 (v j)))],4⟩) ?_ ?_
  .refine zaf rfl (λhb=>?_) (λhb=>?_)
   .have hb:decide (z+(j:Int)<=d)=true:=hb;refine za (za (zaa hK ?_));refine⟨⟨rfl,rfl,rfl,rfl,rfl,rfl,t_⟩,⟨rfl,rfl,zeQ ?_,rfl,t_⟩,rfl,rfl⟩;show u j+1=cntP _ z j+_;rw[if_pos (eU.trans hb)]
   .have hb:decide (z+(j:Int)<=d)=false:=hb;refine zah ⟨⟨rfl,rfl,rfl,rfl,rfl,rfl,t_⟩,⟨rfl,rfl,zeQ ?_,rfl,t_⟩,rfl,rfl⟩;show u j=cntP _ z j+_;rw[if_neg (by rw[eU,hb];decide),vN]
  refine za (za (zaa hK ?_));refine zaf rfl (λhb=>?_) (λhb=>?_)
  .have hb:decide (z+(j:Int)>=d)=true:=hb;refine za (za (zaa hK ?_));refine .inl ⟨rfl,t_,⟨t_,⟨rfl,rfl,rfl,zeQ ?_,t_⟩,rfl,rfl⟩⟩;show v j+1=cntP _ z j+_;rw[if_pos (eV.trans hb)]
  .have hb:decide (z+(j:Int)>=d)=false:=hb;refine zah (.inl ⟨rfl,t_,⟨t_,⟨rfl,rfl,rfl,zeQ ?_,t_⟩,rfl,rfl⟩⟩);show v j=cntP _ z j+_;rw[if_neg (by rw[eV,hb];decide),vN]
 .have hv:=zf8 (p:=posV h d) (z:=z) m.toNat;have q5:inR .i64 (-(v m.toNat)):=zad (by show _<= -cntP _ z _;omega) (by show -cntP _ z _<=_;omega);refine uu x7 λW1 xh Bf1 x8=>?_;refine zaq (zac x8 hK rfl ?_ ?_)
  .have xf:=hl.1;have xg:=hl.2;show allP _;exact z_
  refine zp ⟨.inr rfl,rfl,D1 ?_⟩;show(bif decide (u m.toNat∈nLs n) then true else decide (-(v m.toNat)∈nLs n))=posG C.cs h n d;rw[posG, <-x0,show(bif !(zaQ c d).2 then true else !h d)=false from hb,show scpA (zaQ c d).1 (nM n)=z from hz.symm,show scpN c (zaQ c d).1 (nM n)=m from hm.symm];rfl
def zbU(cs:List Cal)(hL hR:Int->Bool)(n:Nd)(d:Int):Bool:=
 if n.1=1 then zv4 n d
 else if n.1=2 then yrsS cs n d
 else if n.1=3 then zuj cs n d
 else if n.1=4 then mdS cs n d
 else if n.1=5 then wkdS n d
 else if n.1=6 then wksS cs n d
 else if n.1=7 then nthS cs n d
 else if n.1=8 then bif hL d then hR d else false
 else if n.1=9 then bif hL d then true else hR d
 else if n.1=10 then bif hL d then !hR d else false
 else if n.1=11 then hL (d-nN n)
 else if n.1=12 then bif decide (d>=nN n) then hL d else false
 else if n.1=13 then bif decide (d>=nN n) then false else hL d
 else if n.1=14 then bif decide (d∈nLs n) then true else hL d
 else if n.1=15 then bif !decide (d∈nLs n) then hL d else false
 else if n.1=16 then posG cs hL n d
 else if n.1=17 then bif !hR d then false else bhL hL hR (nN n) (d+1).toNat (d-1) 1
 else false
def znp(C:EvC)(D:Int->Int->Prop)(k:Int)(n:Nd)(d:Int):Prop:=
 (n.1=1/\zsP n d)\/(n.1=2/\yrsP C.cs n d)\/(n.1=3/\zxd C.cs n d)\/(n.1=4/\mdP C.cs n d)\/(n.1=5/\wkdP n d)\/(n.1=6/\wksP C.cs n d)\/(n.1=7/\nthP C.cs n d)\/(n.1=8/\twoP C D k n d)\/(n.1=9/\twoP C D k n d)\/(n.1=10/\twoP C D k n d)\/(n.1=11/\zvE C D k n d)\/(n.1=12/\cutP C D k n d)\/(n.1=13/\cutP C D k n d)\/(n.1=14/\zvc C D k n d)\/(n.1=15/\zvc C D k n d)\/(n.1=16/\posP C D k n d)\/(n.1=17/\znS C D k n d)
theorem zla(a b:Bool):eqb .bool a b=(a==b):=by
 rw[zY,zbs,beq_iff_eq]
theorem HasPre.mono{C:EvC}{D:Int->Int->Prop}{k k' i d:Int}(h:HasPre C D k i d)(hk:k<=k'):HasPre C D k' i d:=⟨⟨h.1.1,by have:=h.1.2;omega⟩,h.2⟩
theorem zxf{C:EvC}(hC:EvOk C){D:Int->Int->Prop}{k i d:Int}(hH:MOk zb C.ctx 56 (cHas C D k))(x0:C.H i d=zbU C.cs (hasS C (nL (C.rs.getD i.toNat (zav nd)))) (hasS C (nR (C.rs.getD i.toNat (zav nd)))) (C.rs.getD i.toNat (zav nd)) d)(hP:znp C D k (C.rs.getD i.toNat (zav nd)) d):ztn C i d:=by
 unfold ztn;obtain⟨n,hn⟩:∃n,n=C.rs.getD i.toNat (zav nd):=⟨_,rfl⟩;rw[<-hn]at x0 hP ⊢;rcases hP with ⟨hk,hp⟩|⟨hk,hp⟩|⟨hk,hp⟩|⟨hk,hp⟩|⟨hk,hp⟩|⟨hk,hp⟩|⟨hk,hp⟩|⟨hk,hp⟩|⟨hk,hp⟩|⟨hk,hp⟩|⟨hk,hp⟩|⟨hk,hp⟩|⟨hk,hp⟩|⟨hk,hp⟩|⟨hk,hp⟩|⟨hk,hp⟩|⟨hk,hp⟩
 .refine⟨_,_,_,by rw[hk];rfl,zuV hC,hp,?_⟩;rw[x0];unfold zbU;simp only[hk,reduceCtorEq,if_true,if_false,yV]
  try rfl
 .refine⟨_,_,_,by rw[hk];rfl,zyL hC,hp,?_⟩;rw[x0];unfold zbU;simp only[hk,reduceCtorEq,if_true,if_false,yV]
  try rfl
 .refine⟨_,_,_,by rw[hk];rfl,zxc hC,hp,?_⟩;rw[x0];unfold zbU;simp only[hk,reduceCtorEq,if_true,if_false,yV]
  try rfl
 .refine⟨_,_,_,by rw[hk];rfl,zAS hC,hp,?_⟩;rw[x0];unfold zbU;simp only[hk,reduceCtorEq,if_true,if_false,yV]
  try rfl
 .refine⟨_,_,_,by rw[hk];rfl,zyO hC,hp,?_⟩;rw[x0];unfold zbU;simp only[hk,reduceCtorEq,if_true,if_false,yV]
  try rfl
 .refine⟨_,_,_,by rw[hk];rfl,zyN hC,hp,?_⟩;rw[x0];unfold zbU;simp only[hk,reduceCtorEq,if_true,if_false,yV]
  try rfl
 .refine⟨_,_,_,by rw[hk];rfl,zze hC,hp,?_⟩;rw[x0];unfold zbU;simp only[hk,reduceCtorEq,if_true,if_false,yV]
  try rfl
 .refine⟨_,_,_,by rw[hk];rfl,zul hC hH,hp,?_⟩;rw[x0];unfold zbU;simp only[hk,reduceCtorEq,if_true,if_false,yV]
  try rfl
 .refine⟨_,_,_,by rw[hk];rfl,zpV hC hH,hp,?_⟩;rw[x0];unfold zbU;simp only[hk,reduceCtorEq,if_true,if_false,yV]
  try rfl
 .refine⟨_,_,_,by rw[hk];rfl,znc hC hH,hp,?_⟩;rw[x0];unfold zbU;simp only[hk,reduceCtorEq,if_true,if_false,yV]
  try rfl
 .refine⟨_,_,_,by rw[hk];rfl,zrx hC hH,hp,?_⟩;rw[x0];unfold zbU;simp only[hk,reduceCtorEq,if_true,if_false,yV]
  try rfl
 .refine⟨_,_,_,by rw[hk];rfl,zrC hC hH,hp,?_⟩;rw[x0];unfold zbU;simp only[hk,reduceCtorEq,if_true,if_false,yV];unfold cutE;rw[hk];rw[zla];cases decide (d>=nN n)<;>rfl
 .refine⟨_,_,_,by rw[hk];rfl,zrC hC hH,hp,?_⟩;rw[x0];unfold zbU;simp only[hk,reduceCtorEq,if_true,if_false,yV];unfold cutE;rw[hk];rw[zla];cases decide (d>=nN n)<;>rfl
 .refine⟨_,_,_,by rw[hk];rfl,zuo hC hH,hp,?_⟩;rw[x0];unfold zbU;simp only[hk,reduceCtorEq,if_true,if_false,yV]
  try rfl
 .refine⟨_,_,_,by rw[hk];rfl,zpU hC hH,hp,?_⟩;rw[x0];unfold zbU;simp only[hk,reduceCtorEq,if_true,if_false,yV]
  try rfl
 .refine⟨_,_,_,by rw[hk];rfl,zy5 hC hH,hp,?_⟩;rw[x0];unfold zbU;simp only[hk,reduceCtorEq,if_true,if_false,yV]
  try rfl
 .refine⟨_,_,_,by rw[hk];rfl,zpW hC hH,hp,?_⟩;rw[x0];unfold zbU;simp only[hk,reduceCtorEq,if_true,if_false,yV]
  try rfl
theorem zp1{C:EvC}{D:Int->Int->Prop}{k k':Int}{n:Nd}{d:Int}(h:znp C D k n d)(hk:k<=k'):znp C D k' n d:=by
 unfold znp at h ⊢;rcases h with ⟨hn,hp⟩|⟨hn,hp⟩|⟨hn,hp⟩|⟨hn,hp⟩|⟨hn,hp⟩|⟨hn,hp⟩|⟨hn,hp⟩|⟨hn,hp⟩|⟨hn,hp⟩|⟨hn,hp⟩|⟨hn,hp⟩|⟨hn,hp⟩|⟨hn,hp⟩|⟨hn,hp⟩|⟨hn,hp⟩|⟨hn,hp⟩|⟨hn,hp⟩
 .exact .inl ⟨hn,hp⟩
 .exact .inr (.inl ⟨hn,hp⟩)
 .exact .inr (.inr (.inl ⟨hn,hp⟩))
 .exact .inr (.inr (.inr (.inl ⟨hn,hp⟩)))
 .exact .inr (.inr (.inr (.inr (.inl ⟨hn,hp⟩))))
 .exact .inr (.inr (.inr (.inr (.inr (.inl ⟨hn,hp⟩)))))
 .exact .inr (.inr (.inr (.inr (.inr (.inr (.inl ⟨hn,hp⟩))))))
 .exact .inr (.inr (.inr (.inr (.inr (.inr (.inr (.inl ⟨hn,⟨hp.1.mono hk,hp.2.mono hk⟩⟩)))))))
 .exact .inr (.inr (.inr (.inr (.inr (.inr (.inr (.inr (.inl ⟨hn,⟨hp.1.mono hk,hp.2.mono hk⟩⟩))))))))
 .exact .inr (.inr (.inr (.inr (.inr (.inr (.inr (.inr (.inr (.inl ⟨hn,⟨hp.1.mono hk,hp.2.mono hk⟩⟩)))))))))
 .exact .inr (.inr (.inr (.inr (.inr (.inr (.inr (.inr (.inr (.inr (.inl ⟨hn,⟨hp.1.mono hk,hp.2⟩⟩))))))))))
 .exact .inr (.inr (.inr (.inr (.inr (.inr (.inr (.inr (.inr (.inr (.inr (.inl ⟨hn,⟨hp.1.mono hk,hp.2⟩⟩)))))))))))
 .exact .inr (.inr (.inr (.inr (.inr (.inr (.inr (.inr (.inr (.inr (.inr (.inr (.inl ⟨hn,⟨hp.1.mono hk,hp.2⟩⟩))))))))))))
 .exact .inr (.inr (.inr (.inr (.inr (.inr (.inr (.inr (.inr (.inr (.inr (.inr (.inr (.inl ⟨hn,⟨hp.1.mono hk,hp.2⟩⟩)))))))))))))
 .exact .inr (.inr (.inr (.inr (.inr (.inr (.inr (.inr (.inr (.inr (.inr (.inr (.inr (.inr (.inl ⟨hn,⟨hp.1.mono hk,hp.2⟩⟩))))))))))))))
 .exact .inr (.inr (.inr (.inr (.inr (.inr (.inr (.inr (.inr (.inr (.inr (.inr (.inr (.inr (.inr (.inl ⟨hn,⟨hp.1,hp.2.1,hp.2.2.1,hp.2.2.2.1.mono hk,λj hj=>(hp.2.2.2.2 j hj).mono hk⟩⟩)))))))))))))))
 .exact .inr (.inr (.inr (.inr (.inr (.inr (.inr (.inr (.inr (.inr (.inr (.inr (.inr (.inr (.inr (.inr ⟨hn,⟨hp.1,hp.2.1,λa h0 h1=>⟨(hp.2.2 a h0 h1).1.mono hk,(hp.2.2 a h0 h1).2.mono hk⟩⟩⟩)))))))))))))))
theorem zsn{C:EvC}(hC:EvOk C){D:Int->Int->Prop}(x0:∀i d,0<=i->i<(C.rs.length:Int)->0<=d->C.H i d=zbU C.cs (hasS C (nL (C.rs.getD i.toNat (zav nd)))) (hasS C (nR (C.rs.getD i.toNat (zav nd)))) (C.rs.getD i.toNat (zav nd)) d)
  (hP:∀i d,0<=i->i<(C.rs.length:Int)->0<=d->D i d->znp C D i (C.rs.getD i.toNat (zav nd)) d):∀k:Nat,MOk zb C.ctx 56 (cHas C D k)
 |0=>zvX hC λi d h0 h1=>by omega
 |k+1=>zvX hC λi d h0 h1 h2 h3 h4=>zxf hC (zsn hC x0 hP k) (x0 i d h0 h2 h3) (zp1 (hP i d h0 h2 h3 h4) o_)
section
variable {P:zw}{ops:Array Oper}{R:Exit->Act->zh->Prop}
theorem ordW{Ψ:List Nat->Act->zh->Prop}(hm:P.follows .mixedOrders=true)(hb:zgO ops=true)(hR:¬LetsOut R)(hd:za2 ops.toList=true)
  (x1:∀done i o,ops.toList[i]? =some o->hasN done i=false->(∀x,hasN (zcd ops.toList i) x=true->x∈done)->(∀q,q∈done->∀x,hasN (zcd ops.toList q) x=true->x∈done)->∀a w,Ψ done a w->o.guard=none/\o.wp P a w (Ψ (i::done)) R)
  (x7:∀done a w,(∀i,i<ops.size->i∈done)->Ψ done a w->R .normal a w) {id:Nat}{a:Act}{w:zh} (h0:Ψ [] a w.drew):(Code.region id ops true).wpIn (zdT none) 0 P R a w:=by
 refine wpIn_region_any hm (zcp (R:=R) hR hd _ ?_)
 let I:Array Bool->Act->zh->Prop:=λx0 a' w'=>∃done,x0.size=ops.size/\(∀i,i<ops.size->(x0.getD i false=true↔i∈done))/\(∀q,q∈done->∀x,hasN (zcd ops.toList q) x=true->x∈done)/\Ψ done a' w'
 have xj:left (zD ops.size false) ops.size=ops.size:=by
  unfold left;have:(qB ops.size).filter (λi=>!(zD ops.size false).getD i false)=qB ops.size:=by
   rw[List.filter_eq_self];intro i _;rw[getD_replicate_false];rfl
  rw[this,List.length_range]
 suffices hkey:wpAny P .any ops R (left (zD ops.size false) ops.size+0) (zD ops.size false) a w.drew by
  rw[Nat.add_zero,xj]at hkey;exact hkey
 refine zgR (zj _) hb (.inl rfl) I ?_ ?_ _ _ a w.drew rfl ⟨by simp,λj oj _ xc=>(by rw[getD_replicate_false]at xc;cases xc),λt xm ht=>absurd ht o_⟩ ⟨[],by simp,λi _=>by rw[getD_replicate_false];simp,λq hq=>(by cases hq),h0⟩
 .rintro x0 a' w' ⟨done,xa,x2,xe,hs⟩ i xb xi;obtain⟨x8,o,ho,x4⟩:=mem_ready.1 xi;have x3:=getD_both x8;have xd:∀x,hasN (zcd ops.toList i) x=true->x∈done:=λx hx=>by
   unfold zcd at hx;rw[Array.getElem?_toList,ho]at hx;rw[zaz]at hx;obtain⟨e,he,h2⟩:=List.mem_filterMap.1 hx;rw[cond_eq_ite]at h2;split at h2
   .rename_i xg;cases h2;have h1:=x4 e (by simpa using he) xg;by_cases x6:e.on<ops.size
    .exact(x2 _ x6).1 h1
    .rw[Array.getD_eq_getD_getElem?,Array.getElem?_eq_none o_]at h1;cases h1
   .cases h2
  have xf:hasN done i=false:=by
   cases hh:hasN done i with
   |false=>rfl
   |true=>rw[(x2 i xb).2 (zaz.1 hh)]at x3;cases x3
  obtain⟨xh,xk⟩:=x1 done i o (by simpa using ho) xf xd xe a' w' hs;unfold wpOp;rw[ho];simp only[Region.wanted,xh,if_true];refine .inl (wa (λa2 w2 h4=>⟨i::done,by simp[xa],λj hj=>?_,λq hq x hx=>?_,h4⟩) xk)
  .by_cases x9:i=j
   .subst x9;simp[vm,xa,xb]
   .rw[getD_set_ne false x9,x2 j hj,zs];exact⟨.inr,λh=>h.resolve_left λh=>x9 h.symm⟩
  .rcases zs.1 hq with rfl|hq
   .exact zE _ (xd x hx)
   .exact zE _ (xe q hq x hx)
 .rintro x0 a' w' inv x5 ⟨done,xa,x2,_,hs⟩;refine⟨?_,x7 done a' w' (λi hi=>(x2 i hi).1 (x5 i hi)) hs⟩;apply List.eq_nil_iff_forall_not_mem.2;intro i hi;obtain⟨x8,o,ho,_⟩:=mem_ready.1 hi;have x6:=(zl.1 ho).1;have:=getD_both x8;rw[x5 i x6]at this;cases this
end
noncomputable def erI:TypeInfo:=(zb.info? 153).getD default
theorem zmw:zb.info? 153=some erI:=by kernel_rfl
theorem zh0:erI.zero=some (.pointer none):=by kernel_rfl
theorem zeE:erI.size=1:=by kernel_rfl
theorem ziW:erI.bytes=8:=by kernel_rfl
theorem ztP(w:zh)(p:zd){A:Addr}(hp:p=.pointer (some A)):(Instr.buildSlice 148 1 #[(0,p)]).run zb w=.ok (.slice (some ⟨w.heap.size,0,none⟩) 1 1) (w.alloc (.cells #[p] 153)):=by
 refine run_buildSlice w _ _ 1 _ #[p] erI (.pointer none) vr zmw zh0 (by rw[zeE];decide) (by rw[zeE];decide) ?_;rw[zeE,hp];have e:(Array.range (1*1)).map (λx=>(yO none).cells[x%(yO none).cells.size]!)= #[.pointer none]:=zfW (yO none).cells d_ 1;rw[e];simp[Instr.fill,vI]
theorem ztQ{w:zh}{base k:Nat}{v:zd}{xs:List zd}(h:w.ownsRow base 153 1 v k xs)(hk:k<=100)(hb:base<=w.heap.size){q:Nat}{p:zd}(hq:w.cell? ⟨q,0,none⟩=some p)(hp:p.oneCell'=true)(ty:zo):
  ∃v' w',(Builtin.append_ #[148,148] ty #[v,.slice (some ⟨q,0,none⟩) 1 1]).run zb w=.ok v' w'/\w'.ownsRow base 153 1 v' (k+1) (xs++[p])/\w.grownBy w' v.ownBlock/\(v'.ownBlock=v.ownBlock\/v'.ownBlock=some w.heap.size):=by
 have x0:∀j u,[p][j]? =some u->w.cell? ((⟨q,0,none⟩:Addr).add j)=some u:=λj u hu=>by
  cases j with
  |zero=>cases hu;exact hq
  |succ j=>cases hu
 have h1:∀u∈ [p],u.oneCell'=true:=λu hu=>by rw[zt.1 hu];exact hp
 obtain⟨v',w',r1,r2,r3,_⟩:=run_append_own w base 148 ty 153 erI (.pointer none) 1 8 vr zmw zh0 zeE ziW rfl d_ v k xs h ⟨q,0,none⟩ 1 1 [p] rfl x0 h1 (by simp only[Go.maxLen];omega) o_ hb;refine⟨v',w',r1,r2,r3,?_⟩;have hl: [p].length=1*erI.size:=by rw[zeE];rfl
 rcases h.2 with ⟨rfl,rfl⟩|⟨g,cap,cur,rfl,_,hg,hnc,_,hcs,htk⟩
 .have r4:=run_append_nil (P:=zb) w 148 ty 153 erI (.pointer none) vr zmw zh0 ⟨q,0,none⟩ 1 1 [p] hl x0 d_ d_ (by rw[ziW];decide);cases r1.symm.trans r4;exact .inr rfl
 .by_cases x1:k+1<=cap
  .have r4:=run_append_room (P:=zb) (w:=w) 148 ty 153 erI vr zmw g k cap cur hg ⟨q,0,none⟩ 1 1 [p] hl x0 h1 x1 (by rw[zeE,hcs];simp;omega);cases r1.symm.trans r4;exact .inl rfl
  .have r4:=run_append_grow (P:=zb) w 148 ty 153 erI (.pointer none) vr zmw zh0 ⟨g,0,none⟩ k cap xs (by rw[zeE];exact h.1) (h.cells (g:=g) rfl) ⟨q,0,none⟩ 1 1 [p] hl x0 o_ o_ (by rw[ziW];exact growslice_fits o_ o_);cases r1.symm.trans r4;exact .inr rfl
structure NE where
 ws:Nat
 be:Nat
 m:Nat
 w0:zh
 a0:Act
 er:zd
 v5:zd
 xs:List zd
 cells:List zd
 c:Cal
 csV:zd
 cs:List Cal
 tb:Nat
def NE.ev(N:NE):zd:=.pointer (some ⟨N.be,0,none⟩)
def NE.pt(N:NE):zd:=.pointer (some ⟨N.be,1,none⟩)
def rowO(be m:Nat)(v:zd)(g:Nat):Prop:=g=be\/g=m\/v.ownBlock=some g
abbrev NE.O(N:NE):Nat->Prop:=rowO N.be N.m N.er
def NE.sl(N:NE):List (Nat×Nat×zd):=[(0,18,N.ev),(1,19,N.ev),(2,20,N.ev),(3,21,N.pt),(4,22,N.er),(5,23,N.v5),(9,27,N.ev),(10,28,N.pt)]
structure NPsi(N:NE)(done:List Nat)(a:Act)(w:zh):Prop where
 sz:a.tmps.size=69
 df:a.defers=[]
 base:∀s,s<18->a.tmps.getD s undef=N.a0.tmps.getD s undef
 sl:∀x∈N.sl,x.1∈done->a.tmps.getD x.2.1 undef=x.2.2
 s6:6∈done->8 ∉ done->RepV w N.O (λ_=>undef) (.vptr eraT) (eraS N.c) (a.tmps.getD 24 undef)
 s7:7∈done->∃q,a.tmps.getD 25 undef=.slice (some ⟨q,0,none⟩) 1 1/\N.w0.heap.size<=q/\w.cell? ⟨q,0,none⟩=some (a.tmps.getD 24 undef)
 s8:8∈done->w.ownsRow N.ws 153 1 (a.tmps.getD 26 undef) (N.xs.length+1) (N.xs++[a.tmps.getD 24 undef])/\RepV w (rowO N.be N.m (a.tmps.getD 26 undef)) (λ_=>undef) (.vptr eraT) (eraS N.c) (a.tmps.getD 24 undef)/\∀g,(a.tmps.getD 26 undef).ownBlock=some g->N.er.ownBlock=some g\/N.w0.heap.size<=g
 n8:8 ∉ done->w.ownsRow N.ws 153 1 N.er N.xs.length N.xs
 kp:Kept (λg=>N.er.ownBlock=some g) N.w0 w
 gm:gmH w
structure NE.Ok(N:NE):Prop where
 w0s:N.ws<=N.w0.heap.size
 be0:N.ws<=N.be
 be1:N.be<N.w0.heap.size
 ber:N.er.ownBlock≠some N.be
 bem:N.be≠N.m
 row:N.w0.ownsRow N.ws 153 1 N.er N.xs.length N.xs
 xl:N.xs.length<=100
 gm0:gmH N.w0
 mr:N.er.ownBlock≠some N.m
 gb:N.be≠3/\N.be≠5
 gl:N.er.ownBlock≠some 3/\N.er.ownBlock≠some 5
 t5:N.a0.tmps.getD 5 undef=N.ev
 t7:N.a0.tmps.getD 7 undef=.pointer (some ⟨N.tb,0,none⟩)
 cel:N.w0.heap[N.be]? =some (.cells N.cells.toArray 152 (0,0))
 len:N.cells.length=22
 erc:N.cells[1]? =some N.er
 v5r:∃x0:List zd,N.v5=.agg x0.toArray/\x0.length=cal.size/\CellsAt N.w0 N.tb 0 x0
 tbr:N.er.ownBlock≠some N.tb
 tbl:N.tb<N.w0.heap.size
 m1:N.m<N.w0.heap.size
 v5c:RepV N.w0 N.O (λ_=>undef) cal N.c N.v5
 cok:zbv N.c
section
variable {N:NE}{done:List Nat}{a:Act}{w w':zh}
theorem nPut(h:a.tmps.size=69){d s:Nat}(hd:d<69)(v:zd):(a.put (some d) v).tmps.getD s undef=if d=s then v else a.tmps.getD s undef:=Act.put_get (by rw[h];exact hd)
theorem NPsi.pure(h:NPsi N done a w){i d:Nat}{u:zd}(hx:(i,d,u)∈N.sl):NPsi N (i::done) (a.put (some d) u) w:=by
 have hd:(i,d)∈ [(0,18),(1,19),(2,20),(3,21),(4,22),(5,23),(9,27),(10,28)]:=by
  have:=jh (f:=λx:Nat×Nat×zd=>(x.1,x.2.1)) hx;exact this
 have x1:18<=d/\d<69/\d≠24/\d≠25/\d≠26/\i≠6/\i≠7/\i≠8:=by
  simp only[zs,qd,or_false,qG]at hd;omega
 have hg:∀s,s≠d->(a.put (some d) u).tmps.getD s undef=a.tmps.getD s undef:=λs hs=>by rw[nPut h.sz x1.2.1,if_neg λe=>hs e.symm]
 have hm:∀j,j≠i->(j∈i::done↔j∈done):=λj hj=>by rw[zs];exact⟨λh=>h.resolve_left hj,.inr⟩
 refine⟨by simp[Act.put,h.sz],h.df,λs hs=>by rw[hg s o_,h.base s hs],λx x0 x3=>?_,λh6 x4=>?_,λh7=>?_,λh8=>?_,λh8=>h.n8 λh'=>h8 (zE _ h'),h.kp,h.gm⟩
 .by_cases e:x.2.1=d
  .have x5:x=(i,d,u):=by
    simp only[NE.sl,zs,qd,or_false]at hx x0;rcases hx with h|h|h|h|h|h|h|h<;>rcases x0 with h'|h'|h'|h'|h'|h'|h'|h'<;>(first|exact h'.trans h.symm|(exfalso;subst h';cases h;simp at e))
   rw[x5,nPut h.sz x1.2.1,if_pos rfl]
  .have x2:x.1≠i:=λe1=>by
    simp only[NE.sl,zs,qd,or_false]at hx x0;rcases hx with h|h|h|h|h|h|h|h<;>rcases x0 with h'|h'|h'|h'|h'|h'|h'|h'<;>(first|(subst h';cases h;exact e rfl)|(exfalso;subst h';cases h;simp at e1))
   rw[hg _ e];exact h.sl x x0 ((hm _ x2).1 x3)
 .rw[hg 24 o_];exact h.s6 ((hm 6 o_).1 h6) λh'=>x4 (zE _ h')
 .rw[hg 25 o_,hg 24 o_];exact h.s7 ((hm 7 o_).1 h7)
 .rw[hg 26 o_,hg 24 o_];exact h.s8 ((hm 8 o_).1 h8)
theorem NPsi.keeps(h:NPsi N done a w):Keeps N.w0 w N.O N.O:=⟨h.kp.size,λg hg ho=>h.kp.block g hg λe=>ho (.inr (.inr e)),λ_ _ h=>h⟩
theorem NPsi.other(h:NPsi N done a w){i d:Nat}{u:zd}(hd:d=24/\i=6\/d=25/\i=7\/d=26/\i=8):(a.put (some d) u).tmps.size=69/\(a.put (some d) u).defers=[]/\(∀s,s<18->(a.put (some d) u).tmps.getD s undef=N.a0.tmps.getD s undef)/\∀x∈N.sl,x.1∈i::done->(a.put (some d) u).tmps.getD x.2.1 undef=x.2.2:=by
 have x0:d<69:=o_;refine⟨by simp[Act.put,h.sz],h.df,λs hs=>by rw[nPut h.sz x0,if_neg o_,h.base s hs],λx hx x1=>?_⟩;have h1:(x.1,x.2.1)∈ [(0,18),(1,19),(2,20),(3,21),(4,22),(5,23),(9,27),(10,28)]:=jh (f:=λx:Nat×Nat×zd=>(x.1,x.2.1)) hx;have h2:x.2.1≠d/\x.1≠i:=by
  simp only[zs,qd,or_false,qG]at h1;omega
 rw[nPut h.sz x0,if_neg λe=>h2.1 e.symm];exact h.sl x hx ((zs.1 x1).resolve_left h2.2)
theorem NPsi.slot(h:NPsi N done a w){i d:Nat}{u:zd}(hx:(i,d,u)∈N.sl)(hi:i∈done):a.eval (.tmp d)=u:=h.sl _ hx hi
theorem NPsi.era(hN:N.Ok)(h:NPsi N done a w)(h5:5∈done)(h7:7 ∉ done)(h8:8 ∉ done){o:Oper}{ts:Array zo}(ho:o.op=.call ⟨.value (.func 84),#[.tmp 23],ts⟩)(x0:o.dst=some 24){R:Exit->Act->zh->Prop}:o.wp zb a w (NPsi N (6::done)) R:=by
 refine zen ho zsG.1 ?_;have hk:=h.keeps;have hv:a.eval (.tmp 23)=N.v5:=h.slot (by simp[NE.sl]) h5;refine(zsG.2 w N.O (N.c,()) _ (λg hg=>?_) ⟨_,_,rfl,by rw[hv];exact zZ hk cal _ _ hN.v5c,rfl⟩ hN.cok h.gm).mono λe w'⟨v,he,hb,hr⟩=>⟨v,he,?_⟩
 .rcases hg with h1|h1|h1
  .rw[h1];exact zy hN.be1 hk.size
  .rw[h1];exact zy hN.m1 hk.size
  .exact((h.n8 h8).lt g h1).2
 .rw[x0];have x4:RepV w' N.O (λ_=>undef) (.vptr eraT) (eraS N.c) v:=zcY (U:=λ_=>undef) (.vptr eraT) (eraS N.c) v hr;obtain⟨o1,o2,o3,o4⟩:=h.other (i:=6) (d:=24) (u:=v) (.inl ⟨rfl,rfl⟩);have x2:(a.put (some 24) v).tmps.getD 24 undef=v:=by rw[nPut h.sz o_,if_pos rfl]
  have hg:w.grownBy w' none:=⟨hb.os,hb.tape,hb.output,hb.size,λk hk _=>hb.block k hk⟩;refine⟨o1,o2,o3,o4,λ_ _=>by rw[x2];exact x4,λx1=>absurd ((zs.1 x1).resolve_left d_) h7,λx3=>absurd ((zs.1 x3).resolve_left d_) h8,λ_=>(h.n8 h8).kept hg (by
   cases e:N.er.ownBlock with
   |none=>exact .inl rfl
   |some g=>exact .inr (by simp)),h.kp.then hb,zcb w w' h.gm hb⟩
theorem zyc{q:Nat}{v:zd}(h:w.cell? ⟨q,0,none⟩=some v):q<w.heap.size:=by
 unfold qi at h;cases hh:w.heap[q]? with
 |none=>simp[hh]at h
 |some o=>exact(zl.1 hh).1
theorem NPsi.bld(h:NPsi N done a w)(h6:6∈done)(h8:8 ∉ done){o:Oper}(ho:o.op=.buildSlice 148 1 #[(0,.tmp 24)])(x0:o.dst=some 25){R:Exit->Act->zh->Prop}:o.wp zb a w (NPsi N (7::done)) R:=by
 have hp:=h.s6 h6 h8;have x1:=hp;obtain⟨g,off,cs,e,h1,h2,h3,h4⟩:=hp;refine za5 (u:=.slice (some ⟨w.heap.size,0,none⟩) 1 1) (w':=w.alloc (.cells #[a.tmps.getD 24 undef] 153)) ?_ ?_
 .unfold execOp;simp only[ho];refine zbz ?_;have e2:a.eval (.tmp 24)=a.tmps.getD 24 undef:=rfl;simp only[uD,qH,we,e2];exact ztP w _ e
 .rw[x0];have hb:xG w.heap.size w (w.alloc (.cells #[a.tmps.getD 24 undef] 153)):=(zR _ w).alloc (zj _) _;obtain⟨o1,o2,o3,o4⟩:=h.other (i:=7) (d:=25) (u:=.slice (some ⟨w.heap.size,0,none⟩) 1 1) (.inr (.inl ⟨rfl,rfl⟩));have hg:∀s,s≠25->(a.put (some 25) (.slice (some ⟨w.heap.size,0,none⟩) 1 1)).tmps.getD s undef=a.tmps.getD s undef:=λs hs=>by rw[nPut h.sz o_,if_neg λe=>hs e.symm]
  refine⟨o1,o2,o3,o4,λ_ _=>?_,λ_=>⟨w.heap.size,by rw[nPut h.sz o_,if_pos rfl],h.kp.size,?_⟩,λx2=>absurd ((zs.1 x2).resolve_left d_) h8,λ_=>(h.n8 h8).alloc _,h.kp.then hb,zcb w _ h.gm hb⟩
  .rw[hg 24 o_];exact zZ (.of_below hb λ_ _ h=>h) _ _ _ x1
  .rw[hg 24 o_];unfold qi;rw[qa];rfl
theorem NPsi.app(hN:N.Ok)(h:NPsi N done a w)(h4:4∈done)(h6:6∈done)(h7:7∈done)(h8:8 ∉ done){o:Oper}(ho:o.op=.call ⟨.builtin .append,#[.tmp 22,.tmp 25],#[148,148]⟩)(x2:o.dst=some 26){R:Exit->Act->zh->Prop}:o.wp zb a w (NPsi N (8::done)) R:=by
 have hp:=h.s6 h6 h8;have x6:=hp;obtain⟨g,off,cs,e,_⟩:=hp;obtain⟨q,x4,x9,x0⟩:=h.s7 h7;have x3:=h.n8 h8;obtain⟨v',w',r1,r2,r3,r4⟩:=ztQ x3 hN.xl (zJ hN.w0s h.kp.size) x0 (by rw[e];rfl) o.type;have hv:a.eval (.tmp 22)=N.er:=h.slot (by simp[NE.sl]) h4;refine za5 (u:=v') (w':=w') ?_ ?_
 .have x8:a.eval (.tmp 25)=.slice (some ⟨q,0,none⟩) 1 1:=x4;simp only[execOp,ho,resolve,builtin];simp[invoke,builtin,hv,x8,r1,jr]
 .rw[x2];obtain⟨o1,o2,o3,o4⟩:=h.other (i:=8) (d:=26) (u:=v') (.inr (.inr ⟨rfl,rfl⟩));have hg:∀s,s≠26->(a.put (some 26) v').tmps.getD s undef=a.tmps.getD s undef:=λs hs=>by rw[nPut h.sz o_,if_neg λe=>hs e.symm]
  have x1:(a.put (some 26) v').tmps.getD 26 undef=v':=by rw[nPut h.sz o_,if_pos rfl]
  have xb:Keeps w w' N.O (rowO N.be N.m v'):=⟨r3.size,λx hx ho=>r3.block x hx λe=>ho (.inr (.inr e.symm)),λx hx ho=>by
   rcases ho with h1|h1|h1
   .exact .inl h1
   .exact .inr (.inl h1)
   .rcases r4 with r4|r4
    .exact .inr (.inr (r4▸h1))
    .rw[r4]at h1;cases h1;omega⟩
  have x5:N.er.ownBlock≠some 3/\N.er.ownBlock≠some 5:=hN.gl;refine⟨o1,o2,o3,o4,λ_ xa=>absurd (zC ..) xa,λ_=>⟨q,by rw[hg 25 o_];exact x4,x9,?_⟩,λ_=>⟨by rw[x1,hg 24 o_];exact r2,by rw[x1,hg 24 o_];exact zZ xb _ _ _ x6,λx hx=>?_⟩,λx7=>absurd (zC ..) x7,?_,?_⟩
  .rw[hg 24 o_];refine(qV (w:=w) (r3.block q ?_ λe=>?_)).trans x0
   .exact zyc x0
   .have:=(hN.row.lt q e.symm).2;omega
  .rw[x1]at hx;rcases r4 with r4|r4
   .exact .inl (r4▸hx)
   .rw[r4]at hx;cases hx;exact .inr h.kp.size
  .exact h.kp.grown r3 λx hx=>.inr hx
  .exact zfx (R:=λg=>N.er.ownBlock=some g) x5.1 x5.2 h.gm ⟨r3.os,r3.tape,r3.output,r3.size,λk hk hn=>r3.block k hk λe=>hn e.symm⟩
structure NeFin(N:NE)(a:Act)(w:zh):Prop where
 sz:a.tmps.size=69
 df:a.defers=[]
 base:∀s,s<18->a.tmps.getD s undef=N.a0.tmps.getD s undef
 gm:gmH w
 res:∃v p,w.heap[N.be]? =some (.cells (N.cells.set 1 v).toArray 152 (0,0))/\w.ownsRow N.ws 153 1 v (N.xs.length+1) (N.xs++[p])/\RepV w (rowO N.be N.m v) (λ_=>undef) (.vptr eraT) (eraS N.c) p/\v.ownBlock≠some N.be/\v.ownBlock≠some N.m/\Keeps N.w0 w N.O (rowO N.be N.m v)/\v.ownBlock≠some 3/\v.ownBlock≠some 5
 kp:Kept (λg=>N.er.ownBlock=some g\/g=N.be) N.w0 w
theorem zwM:∀w,(vA 148).run zb w=.ok 1 w:=λw=>by kernel_rfl
theorem NPsi.fin(hN:N.Ok)(h:NPsi N done a w)(h8:8∈done)(x9:10∈done){o:Oper}(ho:o.op=.store 148 (.tmp 28) (.tmp 26))(x3:o.dst=none){R:Exit->Act->zh->Prop}:o.wp zb a w (NeFin N) R:=by
 obtain⟨hr,hp,hn⟩:=h.s8 h8;obtain⟨v,hv⟩:∃v,v=a.tmps.getD 26 undef:=⟨_,rfl⟩;obtain⟨p,xb⟩:∃p,p=a.tmps.getD 24 undef:=⟨_,rfl⟩;rw[<-hv, <-xb]at hr hp;rw[<-hv]at hn;have x6:a.eval (.tmp 28)=N.pt:=h.slot (by simp[NE.sl]) x9;have hc:w.heap[N.be]? =some (.cells N.cells.toArray 152 (0,0)):=(h.kp.block _ hN.be1 λe=>hN.ber e).trans hN.cel;have x1:v.oneCell'=true/\v.cells= #[v]:=by
  rcases hr.2 with ⟨e,_⟩|⟨g,cap,cur,e,_⟩<;>rw[e]<;>exact⟨rfl,rfl⟩
 have x8:(storeCells ⟨N.be,1,none⟩ [v] 0).run zb w=.ok () (w.setRow N.be (N.cells.set 1 v).toArray):=by
  have:=run_storeCells_at zb N.be 1 152 [v] 0 N.cells.toArray w hc (by simp[hN.len]) (λu hu=>by rw[zt.1 hu];exact x1.1);rw[this]
  congr 2
  apply Array.toList_inj.1;simp[List.set_eq_take_append_cons_drop,hN.len]
 have x4:(execOp a.eval o).run zb w=.ok .skip (w.setRow N.be (N.cells.set 1 v).toArray):=by
  have x7:a.eval (.tmp 26)=v:=hv.symm;unfold execOp;simp only[ho,x6,x7,NE.pt];have:(vR 148 (.pointer (some ⟨N.be,1,none⟩)) v).run zb w=.ok () (w.setRow N.be (N.cells.set 1 v).toArray):=by
   unfold vR qA storeVar;simp only[zK,zF,zG,zwM,x1.2];rw[if_neg (by simp)]
   simpa using x8
  simp[this]
 unfold Oper.wp;rw[x4];show NeFin N (a.put o.dst undef) _;rw[x3];have hg:=zeC w N.be (N.cells.set 1 v).toArray;have x5:v.ownBlock≠some N.be:=λe=>(hn _ e).elim (λh=>hN.ber h) λh=>by have:=hN.be1;omega
 have xa:Keeps w (w.setRow N.be (N.cells.set 1 v).toArray) (rowO N.be N.m v) (rowO N.be N.m v):=⟨hg.size,λx hx ho=>hg.block x hx λe=>ho (.inl (zP e)),λ_ _ h=>h⟩;have x2:Keeps N.w0 w N.O (rowO N.be N.m v):=⟨h.kp.size,λg hg ho=>h.kp.block g hg λe=>ho (.inr (.inr e)),λg x0 ho=>by
  rcases ho with h1|h1|h1
  .exact .inl h1
  .exact .inr (.inl h1)
  .exact .inr (.inr ((hn g h1).resolve_right o_))⟩
 have x0:=zhE hN.gm0;refine⟨h.sz,h.df,h.base,?_,⟨v,p,setRow_heap w N.be _ _ _ _ hc,hr.kept hg (.inr λe=>x5 e),zZ xa _ _ _ hp,x5,λe=>(hn _ e).elim (λh=>hN.mr h) λh=>by have:=hN.m1;omega,⟨zJ x2.size hg.size,λg x0 ho=>(hg.block g (zy x0 x2.size) λe=>ho (.inl (zP e))).trans (x2.block g x0 ho),x2.own⟩,λe=>(hn _ e).elim (λh=>hN.gl.1 h) λh=>by have:=x0.1;omega,λe=>(hn _ e).elim (λh=>hN.gl.2 h) λh=>by have:=x0.2;omega⟩,?_⟩
 .exact zfx (R:=λg=>g=N.be) (λe=>hN.gb.1 e.symm) (λe=>hN.gb.2 e.symm) h.gm ⟨hg.os,hg.tape,hg.output,hg.size,λk hk hn=>hg.block k hk λe=>hn (zP e)⟩
 .exact(h.kp.mono λg hg=>.inl hg).grown hg λg e=>.inr (.inr (zP e).symm)
end
abbrev zjD:=List (Nat×zd)
def sget:zjD->Nat->Option zd
 | [],_=>none
 |(t,v)::r,s=>bif Nat.beq t s then some v else sget r s
structure Knows(n:Nat)(T:zjD)(a:Act):Prop where
 sz:a.tmps.size=n
 df:a.defers=[]
 t:∀s v,sget T s=some v->a.tmps.getD s undef=v
theorem Knows.put{n:Nat}{T:zjD}{a:Act}(h:Knows n T a){d:Nat}(hd:zM d n=true)(u:zd):Knows n ((d,u)::T) (a.put (some d) u):=by
 have hd:d<a.tmps.size:=by rw[h.sz];simpa using hd
 refine⟨by simp[Act.put,h.sz],h.df,λs v hs=>?_⟩;rw[Act.put_get hd];simp only[sget,cond_eq_ite,xV]at hs;split at hs
 .rename_i e;rw[if_pos e];exact zP hs
 .rename_i e;rw[if_neg e];exact h.t s v hs
theorem Knows.sub{n:Nat}{T T':zjD}{a:Act}(h:Knows n T a)(hs:∀s v,sget T' s=some v->sget T s=some v):Knows n T' a:=⟨h.sz,h.df,λs v hv=>h.t s v (hs s v hv)⟩
section
variable {P:zw}{ops:Array Oper}{R:Exit->Act->zh->Prop}{n:Nat}{T:zjD}{w:zh}
def RL(P:zw)(ops:Array Oper)(R:Exit->Act->zh->Prop)(n:Nat)(l:List Oper)(T:zjD)(w:zh):Prop:=∀a,Knows n T a->wpListIn (zdT none) 0 P ops R l a w
def RC(P:zw)(R:Exit->Act->zh->Prop)(n:Nat)(c:Code)(T:zjD)(w:zh):Prop:=∀a,Knows n T a->c.wpIn (zdT none) 0 P R a w
theorem RL.nil(h:∀a,Knows n T a->R .normal a w):RL P ops R n [] T w:=λa ha=>wpListIn_nil (h a ha)
theorem RL.step{o:Oper}{rest:List Oper}(x2:o.guard=none)(x3:∀c,o.op≠ .defer c){d:Nat}(x0:o.dst=some d)(x4:zM d n=true){u:zd}{w':zh}(x1:∀a,Knows n T a->(execOp a.eval o).run P w=.ok (.value u) w')(h:RL P ops R n rest ((d,u)::T) w'):RL P ops R n (o::rest) T w:=λa ha=>by
 refine wpListIn_plain x2 λK hK=>zbH x3 (za5 (x1 a ha) ?_);rw[x0];exact hK _ _ (h _ (ha.put x4 u))
theorem RL.skip{o:Oper}{rest:List Oper}(x2:o.guard=none)(x3:∀c,o.op≠ .defer c)(x0:o.dst=none){w':zh}(x1:∀a,Knows n T a->(execOp a.eval o).run P w=.ok .skip w')(h:RL P ops R n rest T w'):RL P ops R n (o::rest) T w:=λa ha=>by
 refine wpListIn_plain x2 λK hK=>zbH x3 ?_;unfold Oper.wp;rw[x1 a ha];show K (a.put o.dst undef) w';rw[x0];exact hK _ _ (h _ ha)
theorem RC.region{id:Nat}(h:RL P ops R n ops.toList T w):RC P R n (.region id ops false) T w:=λa ha=>wpIn_region_list (h a ha)
def zAE(N:Act->zh->Prop)(R:Exit->Act->zh->Prop):Exit->Act->zh->Prop
 |.normal,a,w=>N a w
 |e,a,w=>R e a w
theorem RC.seq{x y:Code}(h:RC P (zAE (λa w=>y.wpIn (zdT none) 0 P R a w) R) n x T w):RC P R n (.seq x y) T w:=λa ha=>
 wpIn_seq (zT (h a ha) λe a w h=>by
  cases e with
  |normal=>exact h
  |_=>exact h)
end
theorem zvC{X:Ownr}{n:Nat}{F:zN}{a:Act}{w:zh}{U:Nat->zd}(x1:a.tmps.size=n)(x0:a.defers=X.D)(hK:X.K=0)(hF:∀q∈F,RepV w (OSet X [] U) U q.2.t q.2.x (a.tmps.getD q.1 undef))(hb:bndB 0 F=true):Sim w X n ⟨F,[],0⟩ U a w:=by
 refine⟨x1,x0,Kept.refl _ _,λs=>?_,λi o h=>(by cases h),λi o g h=>(by cases h),λi j oi oj h=>(by cases h),λi o h=>(by cases h),⟨by rw[hK];exact zj _,λi hi=>(by rw[hK]at hi;exact absurd hi (yH _))⟩,λs=>zdx hb s,λi o h=>(by cases h)⟩;clear hb
 induction F with
 |nil=>exact qU
 |cons q F ih=>
  obtain⟨t,v⟩:=q;rw[zam];by_cases e:t=s
  .rw[if_pos e, <-e];exact hF (t,v) (zC ..)
  .rw[if_neg e];exact ih λq hq=>hF q (zE _ hq)
structure NLI(x0:zh)(be m:Nat)(rV:zd)(cs:List Cal)(k:Nat)(a:Act)(w:zh):Prop where
 sz:a.tmps.size=69
 df:a.defers=[]
 t5:a.tmps.getD 5 undef=.pointer (some ⟨be,0,none⟩)
 t13:a.tmps.getD 13 undef=.int .i64 (cs.length:Int)
 t14:a.tmps.getD 14 undef=.int .i64 (k:Int)
 kle:k<=cs.length
 gm:gmH w
 bel:xG x0.heap.size x0 w
 bem:be≠m
 be0:x0.heap.size<=be
 m0:x0.heap.size<=m
 be1:be<w.heap.size
 m1:m<w.heap.size
 map:w.heap[m]? =some (.map #[] 0)
 row:∃er xs,RepV w (rowO be m er) (λ_=>undef) (.slice cal) cs (a.tmps.getD 12 undef)/\w.heap[be]? =some (.cells ([rV,er,ue (some m)]++zr 19 jq).toArray 152 (0,0))/\w.ownsRow x0.heap.size 153 1 er k xs/\er.ownBlock≠some be/\er.ownBlock≠some m/\er.ownBlock≠some 3/\er.ownBlock≠some 5/\
  ∀(i:Nat)(c:Cal),cs[i]? =some c->i<k->∃p,xs[i]? =some p/\RepV w (rowO be m er) (λ_=>undef) (.vptr eraT) (eraS c) p
abbrev rX(be m:Nat)(er:zd):Ownr:=jj gmH (rowO be m er)
theorem zy1{be m:Nat}{er:zd}{w:zh}(hg:gmH w)(h1:be<w.heap.size)(h2:m<w.heap.size)(h3:∀g,er.ownBlock=some g->g<w.heap.size):(rX be m er).Ok w:=⟨λg hg=>⟨by
 rcases hg with h|h|h
 .rw[h];exact h1
 .rw[h];exact h2
 .exact h3 g h,ji _ _ g⟩,λg hg=>absurd hg (ji _ _ g),λw' hk=>zcb _ _ hg (hk.below λg hg=>ji _ _ g hg)⟩
def zkT(be:Nat):List zd:=jq::(evFs.map λf=>Value.func (.func f) #[.pointer (some ⟨be,0,none⟩)] #[])++[jq]
structure NewEv(x0:zh)(rV:zd)(cs:List Cal)(be m:Nat)(er:zd)(xs:List zd)(w:zh):Prop where
 gm:gmH w
 bel:xG x0.heap.size x0 w
 bem:be≠m
 be0:x0.heap.size<=be
 m0:x0.heap.size<=m
 be1:be<w.heap.size
 m1:m<w.heap.size
 map:w.heap[m]? =some (.map #[] 0)
 cel:w.heap[be]? =some (.cells ([rV,er,ue (some m)]++zkT be).toArray 152 (0,0))
 row:w.ownsRow x0.heap.size 153 1 er cs.length xs
 rbe:er.ownBlock≠some be
 rm:er.ownBlock≠some m
 eras:∀(i:Nat)(c:Cal),cs[i]? =some c->∃p,xs[i]? =some p/\RepV w (rowO be m er) (λ_=>undef) (.vptr eraT) (eraS c) p
theorem zi9{P:zw}{a:Act}{w:zh}{o:Oper}{x:zB}{u:zd}(h:o.op=.assign x)(hx:a.eval x=u):(execOp a.eval o).run P w=.ok (.value u) w:=by
 unfold execOp;simp only[h];rw[hx];rfl
theorem zbN{P:zw}{a:Act}{w:zh}{o:Oper}{x:zB}{u:zd}(h:o.op=.move x)(hx:a.eval x=u):(execOp a.eval o).run P w=.ok (.value u) w:=by
 unfold execOp;simp only[h];rw[hx];rfl
theorem zxe{a:Act}{w:zh}{o:Oper}(h:o.op=.makeMap 147 none):(execOp a.eval o).run zb w=.ok (.value (.map (some w.heap.size))) (w.alloc (.map #[] 0)):=by
 unfold execOp;simp only[h];refine zbz ?_;simp[Instr.makeMap,go_sem]
theorem zys{a:Act}{w:zh}{o:Oper}{x y:zB}{A:Option Addr}{n c:Nat}{m:Nat}(h:o.op=.build 152 #[(0,x),(2,y)])(hx:a.eval x=.slice A n c)(hy:a.eval y=.map (some m)):(execOp a.eval o).run zb w=.ok (.value (.agg ([wW A n c,wW none 0 0,ue (some m)]++zr 19 jq).toArray)) w:=by
 unfold execOp;simp only[h];refine zbz ?_;simp only[uD,qH,we,hx,hy];exact run_build w 152 _ _ (by kernel_rfl)
theorem zAj{P:zw}{a:Act}{w:zh}{o:Oper}{t:zo}{x:zB}{cs:Array zd}(h:o.op=.box t x)(hx:a.eval x=.agg cs)(hn:cs.size≠0):(execOp a.eval o).run P w=.ok (.value (.pointer (some ⟨w.heap.size,0,none⟩))) (w.alloc (.cells cs t (0,0))):=by
 unfold execOp;simp only[h];refine zbz ?_;rw[hx];simp[fc,newVar,newRow,vI,go_sem,hn]
theorem zvP{P:zw}{a:Act}{w:zh}{o:Oper}{x:zB}{xt te:zo}{A:Option Addr}{m c:Nat}(h:o.op=.call ⟨.builtin .len,#[x],#[xt]⟩)(hu:P.underlying xt=some (.slice te))(hx:a.eval x=.slice A m c):(execOp a.eval o).run P w=.ok (.value (.int .i64 m)) w:=by
 have hr:(Builtin.len_ #[xt] o.type #[.slice A m c]).run P w=.ok (.int .i64 m) w:=by
  unfold Builtin.len_;simp[zK,run_underlying hu,goInt,Builtin.lenOf]
 simp only[execOp,h,resolve,builtin];simp[invoke,builtin,hx,hr,jr]
theorem zvD{be m k:Nat}{er:zd}{cs:List Cal}{a:Act}{w:zh}(x2:a.tmps.size=69)(x1:a.defers=[])(t5:a.tmps.getD 5 undef=.pointer (some ⟨be,0,none⟩))(x0:RepV w (rowO be m er) (λ_=>undef) (.slice cal) cs (a.tmps.getD 12 undef))(t13:a.tmps.getD 13 undef=.int .i64 (cs.length:Int))(t14:a.tmps.getD 14 undef=.int .i64 (k:Int)):
  Sim w (rX be m er) 69 ⟨[(5,⟨.lit,.pointer (some ⟨be,0,none⟩)⟩),(12,⟨.slice cal,cs⟩),(13,⟨i64,(cs.length:Int)⟩),(14,⟨i64,(k:Int)⟩)],[],0⟩ (λ_=>undef) a w:=by
 refine zvC x2 x1 rfl (λq hq=>?_) rfl;simp only[zs,qd,or_false]at hq;rcases hq with rfl|rfl|rfl|rfl
 .exact t5
 .exact zZ ⟨zj _,λg hg _=>rfl,λg hg ho=>ho.elim id λ⟨i,o,hi,_⟩=>by cases hi⟩ (.slice cal) _ _ x0
 .refine(RepD.scalar (t:=i64) rfl).2 ?_;rw[t13];rfl
 .refine(RepD.scalar (t:=i64) rfl).2 ?_;rw[t14];rfl
theorem zoj{be m:Nat}{er:zd}{n:Nat}{Y:AS}{U:Nat->zd}{a:Act}{w w':zh}(h:Sim w (rX be m er) n Y U a w'):xG w.heap.size w w':=h.bel.below λg hg=>ji _ _ g hg
structure NB(x0:zh)(be m:Nat)(w:zh):Prop where
 gm:gmH w
 bel:xG x0.heap.size x0 w
 bem:be≠m
 be0:x0.heap.size<=be
 m0:x0.heap.size<=m
 be1:be<w.heap.size
 m1:m<w.heap.size
 map:w.heap[m]? =some (.map #[] 0)
theorem NLI.nb{x0:zh}{be m k:Nat}{rV:zd}{cs:List Cal}{a:Act}{w:zh}(h:NLI x0 be m rV cs k a w):NB x0 be m w:=⟨h.gm,h.bel,h.bem,h.be0,h.m0,h.be1,h.m1,h.map⟩
theorem NB.go{x0:zh}{be m k':Nat}{rV er:zd}{xs:List zd}{cs:List Cal}{a':Act}{w w':zh}{U:Nat->zd}(h:NB x0 be m w)(hk:k'<=cs.length)(h1:Sim w (rX be m er) 69 ⟨[(5,⟨.lit,.pointer (some ⟨be,0,none⟩)⟩),(12,⟨.slice cal,cs⟩),(13,⟨i64,(cs.length:Int)⟩),(14,⟨i64,(k':Int)⟩)],[],0⟩ U a' w')
  (x3:w.heap[be]? =some (.cells ([rV,er,ue (some m)]++zr 19 jq).toArray 152 (0,0))) (x1:w.ownsRow x0.heap.size 153 1 er k' xs) (r1:er.ownBlock≠some be) (r2:er.ownBlock≠some m) (r3:er.ownBlock≠some 3) (r4:er.ownBlock≠some 5)
  (x2:∀(i:Nat)(c:Cal),cs[i]? =some c->i<k'->∃p,xs[i]? =some p/\RepV w (rowO be m er) (λ_=>undef) (.vptr eraT) (eraS c) p):NLI x0 be m rV cs k' a' w':=by
 have hB:=zoj h1;have hg:w.grownBy w' none:=⟨hB.os,hB.tape,hB.output,hB.size,λk hk _=>hB.block k hk⟩;refine⟨h1.sz,h1.df,h1.fr 5,je (h1.fr 13),je (h1.fr 14),hk,zcb _ _ h.gm hB,⟨hB.os.trans h.bel.os,hB.tape.trans h.bel.tape,hB.output.trans h.bel.output,zJ h.bel.size hB.size,λk hk=>(hB.block k (zy hk h.bel.size)).trans (h.bel.block k hk)⟩,h.bem,h.be0,h.m0,zy h.be1 hB.size,zy h.m1 hB.size,(hB.block _ h.m1).trans h.map,er,xs,?_,(hB.block _ h.be1).trans x3,x1.kept hg ?_,r1,r2,r3,r4,λi c hc hi=>?_⟩
 .exact zZ ⟨zj _,λ_ _ _=>rfl,λg _ ho=>.inl ho⟩ (.slice cal) _ _ (h1.fr 12)
 .cases e:er.ownBlock with
  |none=>exact .inl rfl
  |some g=>exact .inr (by simp)
 .obtain⟨p,hp,hr⟩:=x2 i c hc hi;exact⟨p,hp,zZ (.of_below hB λ_ _ h=>h) _ _ _ hr⟩
theorem zc8{P:zw}{a:Act}{w:zh}{o:Oper}{f:zV}{x:zB}{r:zd}(h:o.op=.makeFunc (.func f) #[x] #[])(hx:a.eval x=r):(execOp a.eval o).run P w=.ok (.value (.func (.func f) #[r] #[])) w:=by
 unfold execOp;simp only[h];refine zbz ?_;rw[show(#[x]:Array zB).map a.eval= #[a.eval x] from by simp,hx];simp[Instr.makeFunc]
theorem zAm{a:Act}{w:zh}{o:Oper}{A:Addr}{r:zd}(hr:r=.pointer (some A))(h:o.op=.build 150 #[(1,.tmp 32),(2,.tmp 34),(3,.tmp 36),(4,.tmp 38),(5,.tmp 40),(6,.tmp 42),(7,.tmp 44),(8,.tmp 46),(9,.tmp 48),(10,.tmp 50),(11,.tmp 52),(12,.tmp 54),(13,.tmp 56),(14,.tmp 58),(15,.tmp 60),(16,.tmp 62),(17,.tmp 64),(18,.const .nilFunc)])
  (h0:a.eval (.tmp 32)=.func (.func 85) #[r] #[])
  (h1:a.eval (.tmp 34)=.func (.func 86) #[r] #[])
  (h2:a.eval (.tmp 36)=.func (.func 87) #[r] #[])
  (h3:a.eval (.tmp 38)=.func (.func 88) #[r] #[])
  (h4:a.eval (.tmp 40)=.func (.func 89) #[r] #[])
  (h5:a.eval (.tmp 42)=.func (.func 90) #[r] #[])
  (h6:a.eval (.tmp 44)=.func (.func 91) #[r] #[])
  (h7:a.eval (.tmp 46)=.func (.func 92) #[r] #[])
  (h8:a.eval (.tmp 48)=.func (.func 93) #[r] #[])
  (h9:a.eval (.tmp 50)=.func (.func 94) #[r] #[])
  (x1:a.eval (.tmp 52)=.func (.func 95) #[r] #[])
  (x4:a.eval (.tmp 54)=.func (.func 96) #[r] #[])
  (x6:a.eval (.tmp 56)=.func (.func 96) #[r] #[])
  (x2:a.eval (.tmp 58)=.func (.func 97) #[r] #[])
  (x5:a.eval (.tmp 60)=.func (.func 98) #[r] #[])
  (x0:a.eval (.tmp 62)=.func (.func 99) #[r] #[])
  (x3:a.eval (.tmp 64)=.func (.func 100) #[r] #[]):
  (execOp a.eval o).run zb w=.ok (.value (.agg (jq::(evFs.map λf=>Value.func (.func f) #[r] #[])++[jq]).toArray)) w:=by
 have hc:a.eval (.const .nilFunc)=.nilFunc:=rfl;unfold execOp;simp only[h];refine zbz ?_;simp only[uD,qH,we,h0,h1,h2,h3,h4,h5,h6,h7,h8,h9,x1,x4,x6,x2,x5,x0,x3,hc];subst hr;exact run_build w 150 _ _ (by kernel_rfl)
theorem zwK:∀w,(vA 150).run zb w=.ok 19 w:=λw=>by kernel_rfl
theorem zyU{a:Act}{w:zh}{o:Oper}{x y:zB}{be:Nat}{c0 c1 c2:zd}{ks:List zd}(x0:ks.length=19)(h1:∀u∈ks,u.oneCell'=true)(h:o.op=.store 150 x y)(hx:a.eval x=.pointer (some ⟨be,3,none⟩))(hy:a.eval y=.agg ks.toArray)(hc:w.heap[be]? =some (.cells ([c0,c1,c2]++zr 19 jq).toArray 152 (0,0))):
  (execOp a.eval o).run zb w=.ok .skip (w.setRow be ([c0,c1,c2]++ks).toArray):=by
 have x2:=run_storeCells_at zb be 3 152 ks 0 ([c0,c1,c2]++zr 19 jq).toArray w hc (by simp[x0]) h1;have e:(vR 150 (.pointer (some ⟨be,3,none⟩)) (.agg ks.toArray)).run zb w=.ok () (w.setRow be ([c0,c1,c2]++ks).toArray):=by
  unfold vR qA storeVar;simp only[zK,zF,zG,zwK];have x3:(bk ks.toArray).cells.size=19:=by simp[vI,x0]
  rw[if_neg (by rw[x3];simp)];have x1:(bk ks.toArray).cells.toList=ks:=by simp[vI]
  rw[x1,x2]
  congr 2
  simp[x0]
 unfold execOp;simp only[h,hx,hy];simp[e]
theorem zkp{T T':zjD}(h:∀q∈T',sget T q.1=some q.2):∀s v,sget T' s=some v->sget T s=some v:=by
 intro s v
 induction T' with
 |nil=>intro e;cases e
 |cons q T' ih=>
  obtain⟨t,u⟩:=q;intro e;simp only[sget,cond_eq_ite,xV]at e;split at e
  .rename_i h1;cases e;rw[<-h1];exact h (t,v) (zC ..)
  .exact ih (λq hq=>h q (zE _ hq)) e
theorem zkq{T':zjD}{a:Act}(h:∀q∈T',a.tmps.getD q.1 undef=q.2):∀s v,sget T' s=some v->a.tmps.getD s undef=v:=by
 intro s v
 induction T' with
 |nil=>intro e;cases e
 |cons q T' ih=>
  obtain⟨t,u⟩:=q;intro e;simp only[sget,cond_eq_ite,xV]at e;split at e
  .rename_i h1;cases e;rw[<-h1];exact h (t,v) (zC ..)
  .exact ih (λq hq=>h q (zE _ hq)) e
theorem zzg(tm:Array zd)(w:zh):(results Tryz.f55 tm).run zb w=.ok (tm.getD 4 undef) w:=by kernel_rfl
set_option maxHeartbeats 4000000 in
theorem zue{x0:zh}(xo:gmH x0){rs:List Nd}{cs:List Cal}{rV csV:zd}(yg:RepV x0 (λ_=>False) (λ_=>undef) (.slice nd) rs rV)(y2:RepV x0 (λ_=>False) (λ_=>undef) (.slice cal) cs csV)(y9:∀c∈cs,zbv c)(hlen:cs.length<=100):
  Calls zb 55 #[rV,csV] x0 (λe w=>∃be m er xs,e=.returned (.pointer (some ⟨be,0,none⟩))/\NewEv x0 rV cs be m er xs w):=by
 have yr:∀s v,sget [(0,rV),(1,csV)] s=some v->(#[rV,csV]++zD (69-2) undef).getD s undef=v:=λs v hs=>by
  refine zkq (T':=[(0,rV),(1,csV)]) (a:={ tmps:=#[rV,csV]++zD (69-2) undef,defers:=[] }) (λq hq=>?_) s v hs;simp only[zs,qd,or_false]at hq;rcases hq with rfl|rfl
  .show(#[rV,csV]++zD (69-2) undef).getD 0 undef=rV;simp[vm]
  .show(#[rV,csV]++zD (69-2) undef).getD 1 undef=csV;simp[vm]
 refine calls_of_wp Tryz.func55 rfl ?_
 let R:Exit->Act->zh->Prop:=λe a w=>e=.ret/\a.defers=[]/\∃be m er xs,a.tmps.getD 4 undef=.pointer (some ⟨be,0,none⟩)/\NewEv x0 rV cs be m er xs w
 refine wp_mono ((wpIn_wide (n:=0)).1 ((?_:RC zb R 69 _ [(0,rV),(1,csV)] x0) _ ⟨?_,rfl,λs v hs=>?_⟩)) ?_
 .refine RC.seq (RC.region ?_);refine RL.step rfl (by intro c e;cases e) rfl rfl (u:=.pointer none) (w':=x0) (λa ha=>zi9 rfl rfl) ?_;refine RL.nil λa ha=>?_;obtain⟨A,nc,cc,xz⟩:∃A nc cc,rV=.slice A nc cc:=by
   rcases RepV.slice yg with ⟨_,A,c,h,_⟩|⟨g,off,c,vs,h,_⟩
   .exact⟨_,_,_,h⟩
   .exact⟨_,_,_,h⟩
  obtain⟨B,yy,y5⟩:∃B cp,csV=.slice B cs.length cp:=by
   rcases RepV.slice y2 with ⟨e,A,c,h,_⟩|⟨g,off,c,vs,h,_⟩
   .exact⟨A,c,by rw[h,e];rfl⟩
   .exact⟨_,_,h⟩
  refine(?_:RC zb R 69 _ [(0,rV),(1,csV)] x0) _ (ha.sub λs v hs=>?_)
  .refine RC.seq (RC.region ?_)
   let w1:=x0.alloc (.map #[] 0)
   let cells:List zd:=[rV,wW none 0 0,ue (some x0.heap.size)]++zr 19 jq
   let w2:=w1.alloc (.cells cells.toArray 152 (0,0))
   refine RL.step rfl (by intro c e;cases e) rfl rfl (u:=rV) (w':=x0) (λa ha=>zbN rfl (ha.t 0 _ rfl)) ?_;refine RL.step rfl (by intro c e;cases e) rfl rfl (u:=.map (some x0.heap.size)) (w':=w1) (λa ha=>zxe rfl) ?_;refine RL.step rfl (by intro c e;cases e) rfl rfl (u:=.agg cells.toArray) (w':=w1) (λa ha=>(zys (x:=.tmp 8) (y:=.tmp 9) rfl (show a.eval (.tmp 8)=_ from(ha.t 8 _ rfl).trans xz) (show a.eval (.tmp 9)=_ from ha.t 9 _ rfl)).trans (by rw[<-xz])) ?_;refine RL.step rfl (by intro c e;cases e) rfl rfl (u:=.pointer (some ⟨w1.heap.size,0,none⟩)) (w':=w2) (λa ha=>zAj rfl (ha.t 10 _ rfl) (by simp[cells])) ?_;refine RL.step rfl (by intro c e;cases e) rfl rfl (u:=.pointer (some ⟨w1.heap.size,0,none⟩)) (w':=w2) (λa ha=>zi9 rfl (ha.t 11 _ rfl)) ?_;refine RL.nil λa ha=>?_;have yt:w1.heap.size=x0.heap.size+1:=by show(x0.heap.push _).size=_;simp
   have yw:w2.heap.size=x0.heap.size+2:=by show((x0.heap.push _).push _).size=_;simp
   refine(?_:RC zb R 69 _ [(1,csV),(5,.pointer (some ⟨w1.heap.size,0,none⟩))] w2) _ (ha.sub λs v hs=>?_)
   .refine RC.seq (RC.seq (RC.region ?_));refine RL.step rfl (by intro c e;cases e) rfl rfl (u:=csV) (w':=w2) (λa ha=>zbN rfl (ha.t 1 _ rfl)) ?_;refine RL.step rfl (by intro c e;cases e) rfl rfl (u:=.int .i64 (cs.length:Int)) (w':=w2) (λa ha=>zvP (x:=.tmp 12) rfl Tryz.underlying31 (show a.eval (.tmp 12)=_ from(ha.t 12 _ rfl).trans y5)) ?_;refine RL.step rfl (by intro c e;cases e) rfl rfl (u:=.int .i64 ((0:Nat):Int)) (w':=w2) (λa ha=>zbN rfl rfl) ?_;refine RL.nil λa ha=>?_;have xi:xG x0.heap.size x0 w2:=((zR _ x0).alloc (zj _) _).alloc (by show x0.heap.size<=w1.heap.size;omega) _;have y4:x0.heap.size≠w1.heap.size:=o_;have yl:NLI x0 w1.heap.size x0.heap.size rV cs 0 a w2:=by
     refine⟨ha.sz,ha.df,ha.t 5 _ rfl,ha.t 13 _ rfl,ha.t 14 _ rfl,zk _,zcb _ _ xo xi,xi,λe=>y4 e.symm,by omega,zj _,by omega,by omega,?_,.slice none 0 0,[],?_,?_,World.ownsRow_nil _ _ _ _,by simp[uv],by simp[uv],by simp[uv],by simp[uv],λi c _ hi=>absurd hi (yH _)⟩
     .show(w1.heap.push _)[x0.heap.size]? =_;rw[Array.getElem?_push_lt o_];show some (x0.heap.push _)[x0.heap.size]=_;simp
     .rw[ha.t 12 _ rfl];refine zZ ⟨xi.size,λg hg _=>xi.block g hg,λg hg ho=>?_⟩ _ _ _ y2;rcases ho with h1|h1|h1
      .omega
      .omega
      .simp[uv]at h1
     .show(w1.heap.push _)[w1.heap.size]? =_;simp[cells]
    refine wpIn_block (zT (zfX (Q:=λe a w=>e=.exit 0/\NLI x0 w1.heap.size x0.heap.size rV cs cs.length a w) (λk a w=>NLI x0 w1.heap.size x0.heap.size rV cs k a w) (λk=>cs.length-k) 0 yl ?_) ?_)
    .intro k a w h;obtain⟨er,xs,xy,x6,x4,r1,r2,r3,r4,x7⟩:=h.row;have xj:=λg hg=>x4.lt g hg;have hX:=zy1 (er:=er) h.gm h.be1 h.m1 (λg hg=>(xj g hg).2);have hs:=zvD h.sz h.df h.t5 xy h.t13 h.t14
     let F:zN:=[(5,⟨.lit,.pointer (some ⟨w1.heap.size,0,none⟩)⟩),(12,⟨.slice cal,cs⟩),(13,⟨i64,(cs.length:Int)⟩),(14,⟨i64,(k:Int)⟩)]
     refine wpIn_seq (zT ((?_:AWP zb w (rX w1.heap.size x0.heap.size er) 69 _ ⟨F,[],0⟩ (λe s=>e=.normal/\Fit s ⟨(15,⟨.bool,decide ((k:Int)<(cs.length:Int))⟩)::F,[],0⟩)) _ a w hs) ?_)
     .exact zac hX zfR rfl t_ ⟨rfl,⟨rfl,rfl,rfl,rfl,rfl,t_⟩,t_,rfl,rfl⟩
     rintro e a1 yb ⟨yu,yx,h1,rfl,hf⟩;have h1:=h1.fit hf (zj _);have yc:=RepV.bool (h1.ops (.tmp 15));refine wpIn_seq (wpIn_cond_split yc (λhb=>?_) (λhb=>?_))
     .have xv:=of_decide_eq_true hb;have xr:k<cs.length:=o_;obtain⟨c,hc⟩:∃c,c=cs.getD (k:Int).toNat (zav cal):=⟨_,rfl⟩;have xw:cs[k]? =some c:=by
       rw[hc,zH,zu,zI xr];rfl
      have xp:(0:Int)<=(k:Int)/\(k:Int)<(cs.length:Int):=⟨yM k,xv⟩;refine wpIn_skip (wpIn_seq (wpIn_block (wpIn_seq (zT ((?_:AWP zb w (rX w1.heap.size x0.heap.size er) 69 _ ⟨(15,⟨.bool,decide ((k:Int)<(cs.length:Int))⟩)::F,[],0⟩ (λe s=>e=.normal/\Fit s ⟨(7,⟨.optr cal,⟨0,cal,.here⟩⟩)::F,[(0,some (.box cal c))],1⟩)) _ a1 yb h1) ?_))))
      .refine zac hX zfR rfl xp ⟨rfl,⟨rfl,rfl,rfl,rfl,rfl,t_⟩,⟨?_,t_⟩,rfl,rfl⟩;exact zeQ hc.symm
      rintro e a2 xb ⟨Y2,yp,h2,rfl,y8⟩;have h2:=h2.fit y8 (zk _);have x2:=zoj h2;obtain⟨tb,xh,ty,eb,_,y0,xx⟩:=h2.own 0 _ rfl;have z0:=(h2.new 0 _ tb rfl (by rw[eb];rfl)).resolve_right λhr=>ji _ _ tb hr;have yh:a2.tmps.getD 7 undef=.pointer (some ⟨tb,0,none⟩):=by
       obtain⟨g,e1,e2⟩:∃g,zag (yp 0)=some g/\a2.tmps.getD 7 undef=.pointer (some ⟨g,0,none⟩):=h2.fr 7;rw[eb]at e1;cases e1;exact e2
      have ye:w.grownBy xb none:=⟨x2.os,x2.tape,x2.output,x2.size,λk hk _=>x2.block k hk⟩;have ys:∀g,er.ownBlock=some g->g<xb.heap.size:=λg hg=>zy (xj g hg).2 x2.size;have yq:=zhE xo;have yn:CellsAt xb tb 0 xh:=λj u hu=>by
       rw[yL];unfold qi;rw[y0]
       simpa using hu
      let N:NE:=⟨x0.heap.size,w1.heap.size,x0.heap.size,xb,a2,er,.agg xh.toArray,xs,[rV,er,ue (some x0.heap.size)]++zr 19 jq,c,csV,cs,tb⟩
      have x8:xb.ownsRow x0.heap.size 153 1 er k xs:=x4.kept ye (by
       cases e:er.ownBlock with
       |none=>exact .inl rfl
       |some g=>exact .inr (by simp))
      have xg:xs.length=k:=by have:=x4.1;omega
      have hN:N.Ok:=by
       refine⟨zJ h.bel.size x2.size,h.be0,zy h.be1 x2.size,r1,h.bem,?_,by show xs.length<=100;omega,zcb _ _ h.gm x2,r2,⟨by show w1.heap.size≠_;omega,by show w1.heap.size≠_;omega⟩,⟨r3,r4⟩,h2.fr 5,yh,(x2.block _ h.be1).trans x6,rfl,rfl,?_,?_,?_,zy h.m1 x2.size,?_,y9 c (xX xw)⟩
       .
        rw[xg];exact x8
       .exact⟨xh,rfl,RepC.len _ _ _ xx,yn⟩
       .exact λe=>by have h3:tb<w.heap.size:=(xj _ e).2;omega
       .exact(zl.1 y0).1
       .exact zZ ⟨zj _,λ_ _ _=>rfl,λg _ ho=>.inl ho⟩ cal _ _ (U:=λ_=>undef) ((qr (t:=cal) rfl).2 ⟨xh,rfl,xx⟩)
      have y6:Keeps w xb (rowO w1.heap.size x0.heap.size er) (rowO w1.heap.size x0.heap.size er):=.of_below x2 λ_ _ h=>h;have hd:∀W:zh,Kept (λg=>N.er.ownBlock=some g) W W.drew:=λW=>⟨rfl,rfl,rfl,zj _,λ_ _ _=>rfl⟩;refine zT (ordW (Ψ:=λdone a w=>(11 ∉ done->NPsi N done a w)/\(11∈done->NeFin N a w)) (R:=λe a w=>e=.normal/\NeFin N a w) dM (by kernel_rfl) (λ⟨_,_,h,_⟩=>by cases h) rfl ?_ (λdone a w xt xf=>⟨rfl,xf.2 (xt 11 d_)⟩) ⟨λ_=>⟨h2.sz,h2.df,λs _=>rfl,λx _ hx=>absurd hx jd,λhx=>absurd hx jd,λhx=>absurd hx jd,λhx=>absurd hx jd,λ_=>?_,hd _,?_⟩,λhx=>absurd hx jd⟩) ?_
      .intro done i o ho xa x5 xc a3 w3 xf;have hm:=x5;have x3:i≠11->11 ∉ done:=λxe x3=>by
        have y1:=xc 11 x3 10 rfl;have h9:9∈done:=xc 10 y1 9 rfl;have h0:∀x,x∈ [0,1,2,3,4,5,6,7,8]->x∈done:=λx hx=>by
         simp only[zs,qd,or_false]at hx;rcases hx with rfl|rfl|rfl|rfl|rfl|rfl|rfl|rfl|rfl<;>exact xc 11 x3 _ rfl
        have hi:i<12:=(yI.1 ho).1;have:i∈done:=by
         by_cases e9:i=9
         .rw[e9];exact h9
         .by_cases yk:i=10
          .rw[yk];exact y1
          .refine h0 i ?_;simp only[zs,qd,or_false];omega
        rw[zaz.2 this]at xa;cases xa
       have x1:∀{o:Oper}{j:Nat},j≠11->11 ∉ done->o.wp zb a3 w3 (NPsi N (j::done)) (λe a w=>e=.normal/\NeFin N a w)->o.wp zb a3 w3 (λa w=>(11 ∉ j::done->NPsi N (j::done) a w)/\(11∈j::done->NeFin N a w)) (λe a w=>e=.normal/\NeFin N a w):=λhj x3 h=>wa (λa w hp=>⟨λ_=>hp,λhx=>absurd ((zs.1 hx).resolve_left λe=>hj e.symm) x3⟩) h;have hP:=λxe=>xf.1 (x3 xe);have xd:∀x,hasN done x=false->x ∉ done:=λx hx hm=>by rw[zaz.2 hm]at hx;cases hx
       have hi:i<12:=(yI.1 ho).1;have e5:∀xe,a3.eval (.tmp 5)=N.ev:=λxe=>((hP xe).base 5 d_).trans hN.t5;have yz:w3.heap.size=w3.heap.size:=rfl;rcases (show i=0\/i=1\/i=2\/i=3\/i=4\/i=5\/i=6\/i=7\/i=8\/i=9\/i=10\/i=11 by omega) with rfl|rfl|rfl|rfl|rfl|rfl|rfl|rfl|rfl|rfl|rfl|rfl<;>cases ho<;>refine⟨rfl,?_⟩
       .exact x1 d_ (x3 d_) (za5 (zbN rfl (e5 d_)) ((hP d_).pure (by simp[NE.sl])))
       .exact x1 d_ (x3 d_) (za5 (zbN rfl (e5 d_)) ((hP d_).pure (by simp[NE.sl])))
       .exact x1 d_ (x3 d_) (za5 (zkL rfl ((hP d_).slot (i:=1) (u:=N.ev) (by simp[NE.sl]) (x5 1 rfl))) ((hP d_).pure (by simp[NE.sl,NE.ev])))
       .exact x1 d_ (x3 d_) (za5 (evF1 rfl ((hP d_).slot (i:=2) (u:=N.ev) (by simp[NE.sl]) (x5 2 rfl))) ((hP d_).pure (by simp[NE.sl,NE.pt])))
       .refine x1 d_ (x3 d_) (za5 (ziL (g:=w1.heap.size) (off:=1) rfl ((hP d_).slot (i:=3) (u:=N.pt) (by simp[NE.sl]) (x5 3 rfl)) zwi (u:=N.er) ?_) ((hP d_).pure (by simp[NE.sl])));have:=((hP d_).kp.block _ hN.be1 λe=>hN.ber e).trans hN.cel;unfold qi;rw[this];rfl
       .obtain⟨ds,ed,el,ec⟩:=hN.v5r;refine x1 d_ (x3 d_) (za5 (u:=N.v5) (w':=w3) ?_ ((hP d_).pure (by simp[NE.sl])));unfold execOp;refine zbz ?_;rw[show a3.eval (.tmp 7)=.pointer (some ⟨tb,0,none⟩) from((hP d_).base 7 d_).trans hN.t7,ed];exact(zsH.is (t:=25) (Z:=cal) rfl).loadAgg rfl el (ec.keep ((hP d_).kp.block _ hN.tbl λe=>hN.tbr e))
       .exact x1 d_ (x3 d_) ((hP d_).era hN (x5 5 rfl) (λhx=>xd 6 xa (xc 7 hx 6 rfl)) (λhx=>xd 6 xa (xc 8 hx 6 rfl)) rfl rfl)
       .exact x1 d_ (x3 d_) ((hP d_).bld (x5 6 rfl) (λhx=>xd 7 xa (xc 8 hx 7 rfl)) rfl rfl)
       .exact x1 d_ (x3 d_) ((hP d_).app hN (x5 4 rfl) (x5 6 rfl) (x5 7 rfl) (xd 8 xa) rfl rfl)
       .exact x1 d_ (x3 d_) (za5 (zkL rfl ((hP d_).slot (i:=0) (u:=N.ev) (by simp[NE.sl]) (x5 0 rfl))) ((hP d_).pure (by simp[NE.sl,NE.ev])))
       .exact x1 d_ (x3 d_) (za5 (evF1 rfl ((hP d_).slot (i:=9) (u:=N.ev) (by simp[NE.sl]) (x5 9 rfl))) ((hP d_).pure (by simp[NE.sl,NE.pt])))
       .exact wa (λa w hf=>⟨λhx=>absurd (zC ..) hx,λ_=>hf⟩) ((xf.1 (xd 11 xa)).fin hN (x5 8 rfl) (x5 10 rfl) rfl rfl)
      .
       rw[xg];exact x8
      .exact zcb _ _ (zcb _ _ h.gm x2) ((zR _ _).drew)
      rintro e a3 w3 ⟨rfl,hF⟩;obtain⟨v,p,c1,c2,c3,v1,v2,hk,v3,v4⟩:=hF.res;have x9:Kept (λg=>er.ownBlock=some g\/g=w1.heap.size) xb w3:=hF.kp;have xu:NB x0 w1.heap.size x0.heap.size w3:=by
       refine⟨hF.gm,?_,h.bem,h.be0,h.m0,zy h.be1 (zJ x2.size x9.size),zy h.m1 (zJ x2.size x9.size),?_⟩
       .refine⟨x9.os.trans (x2.os.trans h.bel.os),x9.tape.trans (x2.tape.trans h.bel.tape),x9.output.trans (x2.output.trans h.bel.output),zJ h.bel.size (zJ x2.size x9.size),λg hg=>?_⟩;have y3:=zy hg h.bel.size;refine(x9.block g (zy y3 x2.size) λe=>?_).trans ((x2.block g y3).trans (h.bel.block g hg));rcases e with e|e
        .have:=(xj g e).1;omega
        .omega
       .refine(x9.block _ (zy h.m1 x2.size) λe=>?_).trans ((x2.block _ h.m1).trans h.map);rcases e with e|e
        .exact r2 e
        .exact y4 e
      have yi:=(hF.base 5 d_).trans (h2.fr 5);have xq:RepV w3 (rowO w1.heap.size x0.heap.size v) (λ_=>undef) (.slice cal) cs (a3.tmps.getD 12 undef):=by
       rw[hF.base 12 d_];exact zZ hk _ _ _ (zZ ⟨zj _,λ_ _ _=>rfl,λg _ ho=>.inl ho⟩ (.slice cal) _ _ (U:=λ_=>undef) (h2.fr 12))
      have xm:=(hF.base 13 d_).trans (je (h2.fr 13));have xn:=(hF.base 14 d_).trans (je (h2.fr 14));have y7:=zy1 (er:=v) hF.gm xu.be1 xu.m1 (λg hg=>(c2.lt g hg).2);have yj:=zvD hF.sz hF.df yi xq xm xn;have q1:inR .i64 ((k:Int)+1):=zad o_ o_;refine zT ((?_:AWP zb w3 (rX w1.heap.size x0.heap.size v) 69 _ ⟨F,[],0⟩ (λe s=>e=.normal/\Fit s ⟨[(5,⟨.lit,.pointer (some ⟨w1.heap.size,0,none⟩)⟩),(12,⟨.slice cal,cs⟩),(13,⟨i64,(cs.length:Int)⟩),(14,⟨i64,((k+1:Nat):Int)⟩)],[],0⟩)) _ a3 w3 yj) ?_
      .exact zac y7 zfR rfl q1 ⟨rfl,⟨rfl,rfl,rfl,vI64 rfl,t_⟩,t_,rfl,rfl⟩
      rintro e a4 w4 ⟨z1,yv,h4,rfl,ya⟩;have h4:=h4.fit ya (zj _);refine⟨k+1,by omega,xu.go (rV:=rV) (er:=v) (xs:=xs++[p]) o_ h4 c1 (by have:=c2;rw[show N.xs.length=k from xg]at this;exact this) v1 v2 v3 v4 λi c' xk hi=>?_⟩;by_cases e:i=k
      .subst e;rw[xw]at xk;cases xk;refine⟨p,?_,c3⟩;rw[qD o_,xg];simp
      .obtain⟨p',yo,ym⟩:=x7 i c' xk o_;refine⟨p',by rw[List.getElem?_append_left o_];exact yo,?_⟩;exact zZ hk _ _ _ (zZ y6 _ _ _ ym)
     .have xv:=of_decide_eq_false hb;have hk:k=cs.length:=by have:=h.kle;omega
      refine wpIn_exit ⟨rfl,?_⟩;subst hk;exact h.nb.go (zj _) (h1.fit ⟨⟨rfl,rfl,rfl,rfl,t_⟩,t_,rfl,rfl⟩ (zj _)) x6 x4 r1 r2 r3 r4 x7
    .rintro e a5 w5 ⟨rfl,h5⟩;obtain⟨er,xs,xy,x6,x4,r1,r2,r3,r4,x7⟩:=h5.row
     let be:Nat:=w1.heap.size
     let ev:zd:=.pointer (some ⟨be,0,none⟩)
     let ks:List zd:=zkT be
     let w6:=w5.setRow be ([rV,er,ue (some x0.heap.size)]++ks).toArray
     refine(?_:RC zb R 69 _ [(5,ev)] w5) a5 ⟨h5.sz,h5.df,λs v hs=>?_⟩
     .refine RC.seq (RC.region ?_)
      iterate 2 (refine RL.step rfl (by intro c e;cases e) rfl rfl (u:=ev) (w':=w5) (λa ha=>zbN rfl (ha.t 5 _ rfl)) ?_)
      refine RL.step rfl (by intro c e;cases e) rfl rfl (u:=.func (.func 85) #[ev] #[]) (w':=w5) (λa ha=>zc8 (x:=.tmp 31) rfl (ha.t 31 _ rfl)) ?_;refine RL.step rfl (by intro c e;cases e) rfl rfl (u:=ev) (w':=w5) (λa ha=>zbN rfl (ha.t 5 _ rfl)) ?_;refine RL.step rfl (by intro c e;cases e) rfl rfl (u:=.func (.func 86) #[ev] #[]) (w':=w5) (λa ha=>zc8 (x:=.tmp 33) rfl (ha.t 33 _ rfl)) ?_;refine RL.step rfl (by intro c e;cases e) rfl rfl (u:=ev) (w':=w5) (λa ha=>zbN rfl (ha.t 5 _ rfl)) ?_;refine RL.step rfl (by intro c e;cases e) rfl rfl (u:=.func (.func 87) #[ev] #[]) (w':=w5) (λa ha=>zc8 (x:=.tmp 35) rfl (ha.t 35 _ rfl)) ?_;refine RL.step rfl (by intro c e;cases e) rfl rfl (u:=ev) (w':=w5) (λa ha=>zbN rfl (ha.t 5 _ rfl)) ?_;refine RL.step rfl (by intro c e;cases e) rfl rfl (u:=.func (.func 88) #[ev] #[]) (w':=w5) (λa ha=>zc8 (x:=.tmp 37) rfl (ha.t 37 _ rfl)) ?_;refine RL.step rfl (by intro c e;cases e) rfl rfl (u:=ev) (w':=w5) (λa ha=>zbN rfl (ha.t 5 _ rfl)) ?_;refine RL.step rfl (by intro c e;cases e) rfl rfl (u:=.func (.func 89) #[ev] #[]) (w':=w5) (λa ha=>zc8 (x:=.tmp 39) rfl (ha.t 39 _ rfl)) ?_;refine RL.step rfl (by intro c e;cases e) rfl rfl (u:=ev) (w':=w5) (λa ha=>zbN rfl (ha.t 5 _ rfl)) ?_;refine RL.step rfl (by intro c e;cases e) rfl rfl (u:=.func (.func 90) #[ev] #[]) (w':=w5) (λa ha=>zc8 (x:=.tmp 41) rfl (ha.t 41 _ rfl)) ?_;refine RL.step rfl (by intro c e;cases e) rfl rfl (u:=ev) (w':=w5) (λa ha=>zbN rfl (ha.t 5 _ rfl)) ?_;refine RL.step rfl (by intro c e;cases e) rfl rfl (u:=.func (.func 91) #[ev] #[]) (w':=w5) (λa ha=>zc8 (x:=.tmp 43) rfl (ha.t 43 _ rfl)) ?_;refine RL.step rfl (by intro c e;cases e) rfl rfl (u:=ev) (w':=w5) (λa ha=>zbN rfl (ha.t 5 _ rfl)) ?_;refine RL.step rfl (by intro c e;cases e) rfl rfl (u:=.func (.func 92) #[ev] #[]) (w':=w5) (λa ha=>zc8 (x:=.tmp 45) rfl (ha.t 45 _ rfl)) ?_;refine RL.step rfl (by intro c e;cases e) rfl rfl (u:=ev) (w':=w5) (λa ha=>zbN rfl (ha.t 5 _ rfl)) ?_;refine RL.step rfl (by intro c e;cases e) rfl rfl (u:=.func (.func 93) #[ev] #[]) (w':=w5) (λa ha=>zc8 (x:=.tmp 47) rfl (ha.t 47 _ rfl)) ?_;refine RL.step rfl (by intro c e;cases e) rfl rfl (u:=ev) (w':=w5) (λa ha=>zbN rfl (ha.t 5 _ rfl)) ?_;refine RL.step rfl (by intro c e;cases e) rfl rfl (u:=.func (.func 94) #[ev] #[]) (w':=w5) (λa ha=>zc8 (x:=.tmp 49) rfl (ha.t 49 _ rfl)) ?_;refine RL.step rfl (by intro c e;cases e) rfl rfl (u:=ev) (w':=w5) (λa ha=>zbN rfl (ha.t 5 _ rfl)) ?_;refine RL.step rfl (by intro c e;cases e) rfl rfl (u:=.func (.func 95) #[ev] #[]) (w':=w5) (λa ha=>zc8 (x:=.tmp 51) rfl (ha.t 51 _ rfl)) ?_;refine RL.step rfl (by intro c e;cases e) rfl rfl (u:=ev) (w':=w5) (λa ha=>zbN rfl (ha.t 5 _ rfl)) ?_;refine RL.step rfl (by intro c e;cases e) rfl rfl (u:=.func (.func 96) #[ev] #[]) (w':=w5) (λa ha=>zc8 (x:=.tmp 53) rfl (ha.t 53 _ rfl)) ?_;refine RL.step rfl (by intro c e;cases e) rfl rfl (u:=ev) (w':=w5) (λa ha=>zbN rfl (ha.t 5 _ rfl)) ?_;refine RL.step rfl (by intro c e;cases e) rfl rfl (u:=.func (.func 96) #[ev] #[]) (w':=w5) (λa ha=>zc8 (x:=.tmp 55) rfl (ha.t 55 _ rfl)) ?_;refine RL.step rfl (by intro c e;cases e) rfl rfl (u:=ev) (w':=w5) (λa ha=>zbN rfl (ha.t 5 _ rfl)) ?_;refine RL.step rfl (by intro c e;cases e) rfl rfl (u:=.func (.func 97) #[ev] #[]) (w':=w5) (λa ha=>zc8 (x:=.tmp 57) rfl (ha.t 57 _ rfl)) ?_;refine RL.step rfl (by intro c e;cases e) rfl rfl (u:=ev) (w':=w5) (λa ha=>zbN rfl (ha.t 5 _ rfl)) ?_;refine RL.step rfl (by intro c e;cases e) rfl rfl (u:=.func (.func 98) #[ev] #[]) (w':=w5) (λa ha=>zc8 (x:=.tmp 59) rfl (ha.t 59 _ rfl)) ?_;refine RL.step rfl (by intro c e;cases e) rfl rfl (u:=ev) (w':=w5) (λa ha=>zbN rfl (ha.t 5 _ rfl)) ?_;refine RL.step rfl (by intro c e;cases e) rfl rfl (u:=.func (.func 99) #[ev] #[]) (w':=w5) (λa ha=>zc8 (x:=.tmp 61) rfl (ha.t 61 _ rfl)) ?_;refine RL.step rfl (by intro c e;cases e) rfl rfl (u:=ev) (w':=w5) (λa ha=>zbN rfl (ha.t 5 _ rfl)) ?_;refine RL.step rfl (by intro c e;cases e) rfl rfl (u:=.func (.func 100) #[ev] #[]) (w':=w5) (λa ha=>zc8 (x:=.tmp 63) rfl (ha.t 63 _ rfl)) ?_;refine RL.step rfl (by intro c e;cases e) rfl rfl (u:=.agg ks.toArray) (w':=w5) (λa ha=>zAm (A:=⟨be,0,none⟩) (r:=ev) rfl rfl (ha.t 32 _ rfl) (ha.t 34 _ rfl) (ha.t 36 _ rfl) (ha.t 38 _ rfl) (ha.t 40 _ rfl) (ha.t 42 _ rfl) (ha.t 44 _ rfl) (ha.t 46 _ rfl) (ha.t 48 _ rfl) (ha.t 50 _ rfl) (ha.t 52 _ rfl) (ha.t 54 _ rfl) (ha.t 56 _ rfl) (ha.t 58 _ rfl) (ha.t 60 _ rfl) (ha.t 62 _ rfl) (ha.t 64 _ rfl)) ?_;refine RL.step rfl (by intro c e;cases e) rfl rfl (u:=ev) (w':=w5) (λa ha=>zkL (x:=.tmp 30) rfl (ha.t 30 _ rfl)) ?_;refine RL.step rfl (by intro c e;cases e) rfl rfl (u:=.pointer (some ⟨be,3,none⟩)) (w':=w5) (λa ha=>evF3 (x:=.tmp 66) rfl (ha.t 66 _ rfl)) ?_;refine RL.skip rfl (by intro c e;cases e) rfl (w':=w6) (λa ha=>zyU (x:=.tmp 67) (y:=.tmp 65) (ks:=ks) rfl (λu hu=>?_) rfl (ha.t 67 _ rfl) (ha.t 65 _ rfl) x6) ?_
      .simp only[ks,zkT,evFs,qH,we,ja,xH,zs,qd,or_false]at hu;rcases hu with rfl|rfl|rfl|rfl|rfl|rfl|rfl|rfl|rfl|rfl|rfl|rfl|rfl|rfl|rfl|rfl|rfl|rfl|rfl<;>rfl
      refine RL.nil λa ha=>?_;refine(?_:RC zb R 69 _ [(5,ev)] w6) _ (ha.sub λs v hs=>?_)
      .refine RC.seq (RC.region ?_);refine RL.step rfl (by intro c e;cases e) rfl rfl (u:=ev) (w':=w6) (λa ha=>zbN rfl (ha.t 5 _ rfl)) ?_;refine RL.step rfl (by intro c e;cases e) rfl rfl (u:=ev) (w':=w6) (λa ha=>zi9 rfl (ha.t 68 _ rfl)) ?_;refine RL.nil λa ha=>?_;refine wpIn_ret ⟨rfl,ha.df,be,x0.heap.size,er,xs,ha.t 4 _ rfl,?_⟩;have hg:=zeC w5 be ([rV,er,ue (some x0.heap.size)]++ks).toArray;have yq:=zhE xo;have yf:Keeps w5 w6 (rowO be x0.heap.size er) (rowO be x0.heap.size er):=⟨hg.size,λx hx ho=>hg.block x hx λe=>ho (.inl (zP e)),λ_ _ h=>h⟩;refine⟨?_,⟨hg.os.trans h5.bel.os,hg.tape.trans h5.bel.tape,hg.output.trans h5.bel.output,zJ h5.bel.size hg.size,λx hx=>(hg.block x (zy hx h5.bel.size) λe=>?_).trans (h5.bel.block x hx)⟩,h5.bem,h5.be0,h5.m0,zy h5.be1 hg.size,zy h5.m1 hg.size,(hg.block _ h5.m1 λe=>h5.bem (zP e).symm).trans h5.map,setRow_heap w5 be _ _ _ _ x6,x4.kept hg (.inr r1),r1,r2,λi c hc=>?_⟩
       .exact zfx (R:=λg=>g=be) (λe=>by have:3=w1.heap.size:=e;omega) (λe=>by have:5=w1.heap.size:=e;omega) h5.gm ⟨hg.os,hg.tape,hg.output,hg.size,λk hk hn=>hg.block k hk λe=>hn (zP e)⟩
       .have e2:=zP e;have:=h5.be0;omega
       .obtain⟨p,hp,hr⟩:=x7 i c hc (yI.1 hc).1;exact⟨p,hp,zZ yf _ _ _ hr⟩
      .exact zkp (T':=[(5,ev)]) (λq hq=>by rw[zt.1 hq];rfl) s v hs
     .exact zkq (T':=[(5,ev)]) (λq hq=>by rw[zt.1 hq];exact h5.t5) s v hs
   .exact zkp (T':=[(1,csV),(5,.pointer (some ⟨w1.heap.size,0,none⟩))]) (λq hq=>by
     simp only[zs,qd,or_false]at hq;rcases hq with rfl|rfl<;>rfl) s v hs
  .exact zkp (T':=[(0,rV),(1,csV)]) (λq hq=>by
    simp only[zs,qd,or_false]at hq;rcases hq with rfl|rfl<;>rfl) s v hs
 .
  simp
 .exact yr s v hs
 .rintro e a w ⟨rfl,yd,be,m,er,xs,h4,hn⟩;exact⟨yd,.pointer (some ⟨be,0,none⟩),(zzg a.tmps w).trans (by rw[h4]),be,m,er,xs,rfl,hn⟩
def zAd:Ctr:={ args:=[.slice nd],pre:=λ_=>[],res:=.clo 131 (.tup (.vptr (.slice nd)) .unit),own:=none,out:=λx=>(x.1,()) }
theorem zyk:yT zb gmG 116 zAd:=by
 refine ctr2 zaA Tryz.func116 Tryz.call116 ?_;rintro w0 X hX ⟨l,_⟩ hp;refine za (za (zaa zaA ?_));refine ql hX 1 ?_;refine za (za (zaa zaA ?_));exact zp ⟨.inr rfl,D1 rfl⟩
def oprN(n:Nd):Int:=(zbK.getD n.1.toNat (zav shp)).1
def farS(cs:List Cal)(n:Nd)(x:Int):Int:=if n.1=11 then x-min (nN n) 0 else if n.1=16 then x+zhJ (zbh cs n) else x
def setO(b:Bool)(l:List Int)(i x:Int):List Int:=if b=true then l.set i.toNat x else l
def zfH(rs:List Nd)(cs:List Cal)(d:Int):Nat->List Int
 |0=>(zr rs.length 0).set (rs.length-1) d
 |k+1=>
  let n:=rs.getD (rs.length-1-k) (zav nd)
  let l:=zfH rs cs d k
  let x0:=farS cs n (l.getD (rs.length-1-k) 0)
  setO (decide (oprN n>1)) (setO (decide (oprN n>0)) l (nL n) x0) (nR n) x0
def zuc(rs:List Nd)(cs:List Cal)(n:Nd):Prop:=(0<=n.1/\n.1<19)/\(n.1=11-> -1000<=nN n/\nN n<=2000000000000)/\(n.1=16->zhM cs n/\zbv (zbh cs n))/\(oprN n>0->0<=nL n/\nL n<rs.length)/\(oprN n>1->0<=nR n/\nR n<rs.length)
def zjQ(rs:List Nd)(cs:List Cal)(d:Int):Prop:=(1<=rs.length/\rs.length<=64)/\(0<=d/\d<=1000)/\∀n∈rs,zuc rs cs n
theorem zks{b:Bool}{l:List Int}{i x:Int}:(setO b l i x).length=l.length:=by
 unfold setO;split<;>simp
theorem ziz{rs:List Nd}{cs:List Cal}{d:Int}:∀k,(zfH rs cs d k).length=rs.length
 |0=>by simp[zfH]
 |k+1=>by rw[zfH,zks,zks,ziz k]
theorem zoa{b:Bool}{l:List Int}{i x B:Int}(h:∀y∈l,0<=y/\y<=B)(hx:0<=x/\x<=B):∀y∈setO b l i x,0<=y/\y<=B:=by
 unfold setO;split
 .intro y hy;rcases kH hy with h1|h1
  .exact h y h1
  .rw[h1];exact hx
 .exact h
theorem zxi{c:Cal}(h:zbv c):0<=zhJ c/\zhJ c<=641:=by
 obtain⟨hr,hm,x0,_⟩:=zcO h;have h1:=zki (l:=c.2.1) hm.2;have:=hm.1;unfold zhJ;split<;>omega
theorem zsw{rs:List Nd}{cs:List Cal}{n:Nd}{x B:Int}(h:zuc rs cs n)(hx:0<=x/\x<=B):0<=farS cs n x/\farS cs n x<=B+1000:=by
 unfold farS;split
 .rename_i e;have:=h.2.1 e;omega
 .split
  .rename_i e;have:=zxi (h.2.2.1 e).2;omega
  .omega
theorem zot{rs:List Nd}{cs:List Cal}{d:Int}(h:zjQ rs cs d):∀k,k<=rs.length->∀y∈zfH rs cs d k,0<=y/\y<=1000+1000*(k:Int)
 |0,_=>λy hy=>by
  rcases kH hy with h1|h1
  .rw[List.eq_of_mem_replicate h1];omega
  .rw[h1];have:=h.2.1;omega
 |k+1,hk=>by
  have ih:=zot h k o_;have x0:rs.length-1-k<rs.length:=o_;have hn:zuc rs cs (rs.getD (rs.length-1-k) (zav nd)):=h.2.2 _ (by
   rw[zu,zI x0];exact xN _)
  have hy:∀y∈zfH rs cs d k,0<=y/\y<=1000+1000*((k+1:Nat):Int):=λy hy=>by have:=ih y hy;omega
  have hg:0<=(zfH rs cs d k).getD (rs.length-1-k) 0/\(zfH rs cs d k).getD (rs.length-1-k) 0<=1000+1000*(k:Int):=ih _ (by
   rw[zu,zI (by rw[ziz];exact x0)];exact xN _)
  have hf:=zsw hn hg;exact zoa (zoa hy o_) o_
def zv9:Ctr:={ args:=[.slice nd,.slice cal,i64],pre:=λx=>[zjQ x.1 x.2.1 x.2.2.1],res:=.bool,own:=none,out:=λ_=>true }
def kRe:Kn:={ erK with C:=[(41,zlj),(116,zAd),(84,cEra)],H:=[22] }
theorem zcB:KnOk zb gmH kRe:=⟨zsH,zdm,.cons zii (.cons zyk.lift (.cons zsG .nil)),zcb,vp⟩
set_option maxHeartbeats 2000000 in
theorem ztY:yT zb gmH 83 zv9:=by
 refine zi2 (K:=kRe) zcB Tryz.func83 rfl rfl Tryz.call83 rfl d_ (by intro h;cases h) rfl ?_;rintro w0 O hX ⟨(rs:List Nd),(cs:List Cal),(d:Int),_⟩ hp;have hp:zjQ rs cs d:=hp;obtain⟨⟨x9,xe⟩,⟨xi,xj⟩,x8⟩:=hp;have hp:zjQ rs cs d:=⟨⟨x9,xe⟩,⟨xi,xj⟩,x8⟩;refine ut (uu hX λW1 x2 Bf1 x0=>?_);refine zac x0 zcB rfl t_ ?_;refine ut (uu hX λW1 x2 Bf1 x0=>?_);refine ql x0 4 ?_;refine zaq (zac x0 zcB rfl t_ ?_);refine zaf rfl (λhb=>?_) (λhb=>?_)
 .have hb:decide (d>4194304)=true:=hb;have:=of_decide_eq_true hb;omega
 apply zah;refine ut (uu hX λW1 x2 Bf1 x0=>?_);have q0:(0:Int)<=(rs.length:Int)/\(rs.length:Int)<=(rs.length:Int)/\(rs.length:Int)<=1000000000:=⟨yM _,yS _,by omega⟩;refine zac x0 zcB rfl q0 ?_;have q1:inR .i64 ((rs.length:Int)-1):=zad o_ o_;have q2:(0:Int)<=(rs.length:Int)-1/\(rs.length:Int)-1<((zr (rs.length:Int).toNat (0:Int)).length:Int):=by
  rw[qv,zH];omega
 refine ut (uu hX λW1 x2 Bf1 x0=>?_);refine zac x0 zcB rfl ?_ ?_
 .have q3:((rs.length:Int)-1).toNat<(zr (rs.length:Int).toNat (0:Int)).length:=by
   rw[qv,zH];omega
  show allP _;exact z_
 refine AWPD.fit (Y2:=⟨[(0,⟨.slice nd,rs⟩),(4,⟨.vptr (.slice cal),cs⟩),(6,⟨.optr .bool,⟨1,.bool,.here⟩⟩),(7,⟨.hptr,((3:Nat),(0:Nat))⟩)],[(1,some (.box .bool false)),(2,some (.buf 3 i64 (zfH rs cs d 0))),(3,some (.hbox 22 [⟨.obuf i64,(2:Nat)⟩]))],4⟩) ⟨⟨rfl,rfl,rfl,rfl,t_⟩,⟨rfl,zmF ?_,rfl,t_⟩,rfl,rfl⟩ ?_
 .show(zr (rs.length:Int).toNat (0:Int)).set ((rs.length:Int)-1).toNat d=(zr rs.length 0).set (rs.length-1) d;rw[zH,show((rs.length:Int)-1).toNat=rs.length-1 by omega]
 refine ut (uu hX λW1 x2 Bf1 x0=>?_);refine zac x0 zcB rfl t_ ?_;refine ut (ut (uu hX λW1 x2 Bf1 x0=>?_));refine ql x0 8 ?_;refine zac x0 zcB rfl t_ ?_;refine AWPD.fit (Y2:=⟨[(4,⟨.vptr (.slice cal),cs⟩),(6,⟨.optr .bool,⟨1,.bool,.here⟩⟩),(7,⟨.hptr,((3:Nat),(0:Nat))⟩),(8,⟨.vptr (.arr 19 shp),zbK⟩),(25,⟨.clo 131 (.tup (.vptr (.slice nd)) .unit),(rs,())⟩)],[(1,some (.box .bool false)),(2,some (.buf 3 i64 (zfH rs cs d 0))),(3,some (.hbox 22 [⟨.obuf i64,(2:Nat)⟩]))],5⟩) ⟨⟨rfl,rfl,rfl,rfl,rfl,t_⟩,⟨rfl,rfl,rfl,t_⟩,rfl,rfl⟩ ?_;refine pU [(1,0),(3,1),(2,2)] 3 ?_
 let E (k:Nat):Owns:=[(0,some (.box .bool false)),(1,some (.hbox 22 [⟨.obuf i64,(2:Nat)⟩])),(2,some (.buf 3 i64 (zfH rs cs d k)))]
 let F:List (Nat×V):=[(4,⟨.vptr (.slice cal),cs⟩),(6,⟨.optr .bool,⟨0,.bool,.here⟩⟩),(7,⟨.hptr,((1:Nat),(0:Nat))⟩),(8,⟨.vptr (.arr 19 shp),zbK⟩)]
 let nk (k:Nat):Nd:=rs.getD (rs.length-1-k) (zav nd)
 refine fJ ?_;refine zeG hX rfl Tryz.call131 [26,27] rfl rfl rfl rs.length (zyl rs) (λ_=>rfl) (zs3 rs) 2 (λi hi=>?_) F ⟨rfl,rfl,rfl,rfl,t_⟩ rfl E 3 (zq rfl) ⟨⟨rfl,rfl,rfl,rfl,t_⟩,⟨rfl,rfl,rfl,t_⟩,rfl,rfl⟩ (λk=>rfl)
  (λ_=>True) (λ_=>False) trivial
  (λk=>⟨(9,⟨i64,(rs.length:Int)-1-k⟩)::(10,⟨.optr nd,⟨3,nd,.here⟩⟩)::F,(3,some (.box nd (nk k)))::E k,4⟩) (λk=>zq rfl) E (λW O' Bf fix l x5 k hk hA=>?_) (λW O' Bf fix l x5 k hk hA=>?_) (λhA=>?_) (λk hk hA hR=>hR.elim)
 .match i,hi with
  |0,_=>exact⟨_,rfl,rfl⟩
  |1,_=>exact⟨_,rfl,rfl⟩
 .refine zaq (zac x5 zcB rfl t_ ?_);refine zac x5 zcB rfl t_ ?_;exact⟨rfl,⟨rfl,rfl,rfl,rfl,rfl,rfl,t_⟩,⟨rfl,rfl,rfl,rfl,t_⟩,rfl,rfl⟩
 .have hX:=x5;have x6:rs.length-1-k<rs.length:=o_;have xb:((rs.length:Int)-1-k).toNat=rs.length-1-k:=o_;have hn:zuc rs cs (nk k):=x8 _ (by
   show rs.getD (rs.length-1-k) (zav nd)∈rs;rw[zu,zI x6];exact xN _)
  obtain⟨n,x7⟩:∃n,n=nk k:=⟨_,rfl⟩;rw[<-x7]at hn;obtain⟨l,x4⟩:∃l,l=zfH rs cs d k:=⟨_,rfl⟩;have hlen:l.length=rs.length:=by rw[x4];exact ziz k
  have xa:=zot hp k o_;rw[<-x4]at xa;obtain⟨x,hx⟩:∃x,x=l.getD (rs.length-1-k) 0:=⟨_,rfl⟩;have xg:0<=x/\x<=1000+1000*(k:Int):=by
   rw[hx];refine xa _ ?_;rw[zu,zI o_];exact xN _
  have xk:=zsw hn xg;have xo:=o_;have xp:=o_;have xr:((rs.length:Int)-1-k).toNat<l.length:=o_;have xc:(λk=>((3,some (.box nd (nk k)))::E k:Owns)) k=[(3,some (.box nd n)),(0,some (.box .bool false)),(1,some (.hbox 22 [⟨.obuf i64,(2:Nat)⟩])),(2,some (.buf 3 i64 l))]:=by rw[x4,x7]
  show AWP _ _ _ _ _ ⟨_,(λk=>((3,some (.box nd (nk k)))::E k:Owns)) k,4⟩ _;rw[xc];refine ql hX 10 ?_;apply zay;refine za (za (zac hX zcB rfl ?_ ?_))
  .
   exact z_
  let El (l:List Int):Owns:=[(0,some (.box .bool false)),(1,some (.hbox 22 [⟨.obuf i64,(2:Nat)⟩])),(2,some (.buf 3 i64 l))]
  let F1:zN:=(10,⟨.vptr nd,n⟩)::F
  refine zak (Y':=⟨(11,⟨i64,x⟩)::F1,El l,4⟩) ⟨⟨vI64 (by rw[hx,xb];rfl),rfl,rfl,rfl,rfl,rfl,t_⟩,⟨rfl,rfl,rfl,t_⟩,rfl,rfl⟩ ?_;refine za8 (Y':=⟨(11,⟨i64,farS cs n x⟩)::F1,El l,5⟩) ?_ ?_
  .apply zay;refine za (za (zaa zcB ?_));refine zaU rfl (λhb=>?_) (λhb=>?_)
   .have hb:n.1=11:=hb;have e:farS cs n x=x-min (nN n) 0:=if_pos hb;have q4:inR .i64 (x-min (nN n) 0):=zad o_ o_;refine za (za ?_);refine zac hX zcB rfl ?_ ?_
    .show allP _;exact z_
    refine⟨⟨vI64 e.symm,rfl,rfl,rfl,rfl,rfl,t_⟩,⟨rfl,rfl,rfl,t_⟩,rfl,rfl⟩
   .have hb:¬(n.1=11):=hb;refine za (za (zaa zcB ?_));refine zaU rfl (λx1=>?_) (λx1=>?_)
    .have x1:n.1=16:=x1;have e:farS cs n x=x+zhJ (zbh cs n):=by rw[farS,if_neg hb,if_pos x1]
     obtain⟨hc,xn⟩:=hn.2.2.1 x1;have q4:inR .i64 (x+zhJ (zbh cs n)):=zad o_ o_;have xt:0<=nCal n:=hc.1;have xm:nCal n<(cs.length:Int):=hc.2;refine za (za ?_);refine zac hX zcB rfl ?_ ?_
     .show allP _;exact z_
     refine⟨⟨vI64 e.symm,rfl,rfl,rfl,rfl,rfl,t_⟩,⟨rfl,rfl,rfl,t_⟩,rfl,rfl⟩
    .have x1:¬(n.1=16):=x1;have e:farS cs n x=x:=by rw[farS,if_neg hb,if_neg x1]
     refine zah ⟨⟨vI64 e.symm,rfl,rfl,rfl,rfl,rfl,t_⟩,⟨rfl,rfl,rfl,t_⟩,rfl,rfl⟩
  obtain⟨y,hy⟩:∃y,y=farS cs n x:=⟨_,rfl⟩;rw[<-hy]at xk ⊢;refine za (za (zaa zcB ?_));refine zaf rfl (λhb=>?_) (λhb=>?_)
  .
   have:=of_decide_eq_true hb;omega
  apply zah;have xq:=hn.1.1;have xu:=hn.1.2;refine za (za (zac hX zcB rfl ?_ ?_))
  .
   exact z_
  let l1:List Int:=setO (decide (oprN n>0)) l (nL n) y
  let l2:List Int:=setO (decide (oprN n>1)) l1 (nR n) y
  refine zbi (Y':=⟨(11,⟨i64,y⟩)::F1,El l1,5⟩) ?_ ?_
  .refine zaf rfl (λhb=>?_) (λhb=>?_)
   .
    have h1:=hn.2.2.2.1 (of_decide_eq_true hb);have xd:=h1.1;have xf:nL n<(l.length:Int):=by have:=h1.2;omega
    have xh:(nL n).toNat<l.length:=o_;refine za (za ?_);refine zac hX zcB rfl ?_ ?_
    .show allP _;exact z_
    refine⟨⟨rfl,rfl,rfl,rfl,rfl,rfl,t_⟩,⟨rfl,rfl,zmF ?_,t_⟩,rfl,rfl⟩;exact(if_pos hb).symm
   .have hb:decide (oprN n>0)=false:=hb;refine zah ⟨⟨rfl,rfl,rfl,rfl,rfl,rfl,t_⟩,⟨rfl,rfl,zmF ?_,t_⟩,rfl,rfl⟩;exact(if_neg (by rw[hb];decide)).symm
  have x9:l1.length=rs.length:=by show(setO _ l _ _).length=_;rw[zks,hlen]
  refine za (za (zac hX zcB rfl ?_ ?_))
  .
   exact z_
  have x3:zfH rs cs d (k+1)=l2:=by
   show setO (decide (oprN (nk k)>1)) (setO (decide (oprN (nk k)>0)) (zfH rs cs d k) (nL (nk k)) (farS cs (nk k) ((zfH rs cs d k).getD (rs.length-1-k) 0))) (nR (nk k)) (farS cs (nk k) ((zfH rs cs d k).getD (rs.length-1-k) 0))=_;rw[<-x4, <-hx, <-x7, <-hy]
  refine zaf rfl (λhb=>?_) (λhb=>?_)
  .
   have h1:=hn.2.2.2.2 (of_decide_eq_true hb);have xd:=h1.1;have xf:nR n<(l1.length:Int):=by have:=h1.2;omega
   have xh:(nR n).toNat<l1.length:=o_;refine za (za ?_);refine zac hX zcB rfl ?_ ?_
   .show allP _;exact z_
   refine .inl ⟨rfl,t_,⟨t_,⟨rfl,rfl,zmF ?_,t_⟩,rfl,rfl⟩⟩;rw[x3];exact(if_pos hb).symm
  .have hb:decide (oprN n>1)=false:=hb;refine zah (.inl ⟨rfl,t_,⟨t_,⟨rfl,rfl,zmF ?_,t_⟩,rfl,rfl⟩⟩);rw[x3];exact(if_neg (by rw[hb];decide)).symm
 .refine uu hX λW1 x2 Bf1 x0=>?_;refine zaq (zac x0 zcB rfl t_ ?_);exact zp ⟨.inr rfl,D1 rfl⟩
set_option maxRecDepth 10000
section
variable {s:List UInt8}
def Tr.refs:Tr->List (List UInt8)
 |.leaf n=>if ndK n=18 then [ndS n] else []
 |.un _ a=>a.refs
 |.bin _ a b=>a.refs++b.refs
end
def nmOf(n:Nd):Option (List UInt8):=if ndK n=18 then some (ndS n) else none
theorem zkK{n:Nd}(h:ndK n≠18): [n].filterMap nmOf=[]:=by
 have:nmOf n=none:=if_neg h;rw[uX,this];rfl
theorem zgo:∀(t:Tr)(b:Nat),TrOk t->(t.flat b).filterMap nmOf=t.refs
 |.leaf n,b,_=>by
  show [n].filterMap nmOf=if ndK n=18 then [ndS n] else []
  split
  .rename_i h;have:nmOf n=some (ndS n):=if_pos h;rw[uX,this];rfl
  .rename_i h;exact zkK h
 |.un n a,b,h=>by
  obtain⟨_,hk,_,ha⟩:=h;show(a.flat b++[_]).filterMap nmOf=a.refs;rw[ux,zgo a b ha,zkK (by show ndK n≠18;omega),zW]
 |.bin n a c,b,h=>by
  obtain⟨_,hk,_,ha,hc⟩:=h;show(a.flat b++c.flat (b+a.size)++[_]).filterMap nmOf=a.refs++c.refs;rw[ux,ux,zgo a b ha,zgo c _ hc,zkK (by show ndK n≠18;omega),zW]
def addN(out:List (List UInt8))(n:Nd):List (List UInt8):=if(ndK n==18)&& !out.contains (ndS n) then out++[ndS n] else out
def zdD(r:List Nd):List (List UInt8):=r.foldl addN []
theorem zvf{w:List UInt8}{out:List (List UInt8)}{n:Nd}:w∈addN out n↔w∈out\/some w=nmOf n:=by
 unfold addN nmOf;by_cases hk:ndK n=18
 .rw[if_pos hk,hk];by_cases hc:out.contains (ndS n)=true
  .rw[hc,if_neg d_];constructor
   .exact .inl
   .rintro (h|h)
    .exact h
    .cases h;exact List.contains_iff_mem.1 hc
  .have hc:out.contains (ndS n)=false:=by simpa using hc
   rw[hc,if_pos d_,List.mem_append,zt];constructor
   .rintro (h|h)
    .exact .inl h
    .exact .inr (by rw[h])
   .rintro (h|h)
    .exact .inl h
    .exact .inr (zP h)
 .have:(ndK n==18)=false:=by simpa using hk
  rw[if_neg hk,this,if_neg (by simp)];simp
theorem zl2(w:List UInt8):∀(r:List Nd)(out:List (List UInt8)),w∈r.foldl addN out↔w∈out\/w∈r.filterMap nmOf
 | [],out=>by simp
 |n::r,out=>by
  rw[List.foldl_cons,zl2 w r,zvf,uX];cases h:nmOf n with
  |none=>simp
  |some x=>
   simp only[zs,Option.some.injEq];constructor
   .rintro ((h|h)|h)
    .exact .inl h
    .exact .inr (.inl h)
    .exact .inr (.inr h)
   .rintro (h|h|h)
    .exact .inl (.inl h)
    .exact .inl (.inr h)
    .exact .inr h
theorem zf4{a:Int}(ha:zb7 a):∀x∈ [a],zb7 x:=λx hx=>by rw[zt]at hx;subst hx;exact ha
theorem zzd{a b:Int}(ha:zb7 a)(hb:zb7 b):∀x∈ [a,b],zb7 x:=λx hx=>by
 rcases zs.1 hx with rfl|hx
 .exact ha
 .exact zf4 hb x hx
theorem zw4{a b c:Int}(ha:zb7 a)(hb:zb7 b)(hc:zb7 c):∀x∈ [a,b,c],zb7 x:=λx hx=>by
 rcases zs.1 hx with rfl|hx
 .exact ha
 .exact zzd hb hc x hx
def hLf:List (zV×HCtr):=[(44,cPut),(78,zo7)]
theorem zeh:HsOk zb gmH hLf:=.cons zrh<|.cons zoC .nil
def kLf:Kn:={ gmK with C:=[(79,zsU)] }
theorem zaT:KnOk zb gmH kLf:=zaj.with (.cons zqS .nil)
theorem zcW(n:Int):(zcl n).length<=10:=by
 unfold zcl;split
 .decide
 .decide
theorem cat3(a b c:List UInt8):(a++b++c:List UInt8)=a++(b++c):=zz a b c
@[reducible] def zs0:HCtr:=hW [nd] (λx xs=>[zi x.2.1+10000<=1000000000,zmM xs.1,1<=ndK xs.1,ndK xs.1<=7\/ndK xs.1=18]) λx xs=>zd0 xs.1
theorem zuy:zaD zb gmH 47 zs0:=by
 refine zb9 zaT Tryz.func47 (zcy rfl) Tryz.call47 (zeb prT [66]) ?_;rintro w0 O fix B ty hX x1 ⟨(b:Bool),(bf:List UInt8),(r:List Nd),⟨⟩⟩ ⟨(n:Nd),⟨⟩⟩ hp;have hI:=λw R hR hw=>(⟨zaL (ty:=ty) hX rfl x1.1 (ty':=ty) w R hR hw,x1.2⟩:bInv prT [66] w R ty);obtain⟨hlen,⟨⟨hC,hN,hM⟩,x2,xi,xf,xe,-⟩,xg,xh⟩:bf.length+10000<=1000000000/\zmM n/\1<=ndK n/\(ndK n<=7\/ndK n=18):=hp;change AWP _ _ _ _ _ ⟨[(0,⟨.hptr,((0:Nat),(0:Nat))⟩),(1,⟨nd,n⟩)],wE ty b bf r,2⟩ (wQ _ zs0 ty (.ok ((),(true,((bf++zd0 n:List UInt8),(r,()))))));unfold zd0
 iterate 2 (refine za (za (zaa zaT ?_)))
 apply zay;refine zak (Y':=⟨[(0,⟨.hptr,((0:Nat),(0:Nat))⟩),(3,⟨.optr nd,⟨2,nd,.here⟩⟩),(5,⟨i64,ndK n⟩)],(2,some (.box nd n))::wE ty b bf r,3⟩) ⟨⟨rfl,rfl,rfl,t_⟩,⟨rfl,rfl,rfl,t_⟩,rfl,by cases b<;>rfl⟩ ?_;refine za (za (zaa zaT ?_));refine zaf rfl (λhb=>?_) (λhb=>?_)
 .have hb:(ndK n==1)=true:=hb;have hk:=beq_iff_eq.1 hb;rw[if_pos hk];cases b
  all_goals
   refine za (za (zae ?_));refine yZ 6 hX zaT zeh rfl t_ rfl rfl ⟨(by show zi bf+zi zlC+19*2<=1000000000;have:zi zlC<=20:=d_;omega),(zzd hN hM)⟩ hI ?_;exact yQ ⟨.inl rfl,⟨_,rfl,u8,1,_,rfl,rfl,rfl⟩,D2 rfl⟩
 have hb:(ndK n==1)=false:=hb;have xa:ndK n≠1:=λe=>by rw[beq_iff_eq.2 e]at hb;cases hb
 rw[if_neg xa];refine za (za (zaa zaT ?_));refine zaf rfl (λhb=>?_) (λhb=>?_)
 .have hb:(ndK n==2)=true:=hb;have hk:=beq_iff_eq.1 hb;rw[if_pos hk];cases b
  all_goals
   refine za (za (zae ?_));refine yZ 8 hX zaT zeh rfl t_ rfl rfl ⟨(by show zi bf+zi zho+19*3<=1000000000;have:zi zho<=20:=d_;omega),(zw4 hC hN hM)⟩ hI ?_;exact yQ ⟨.inl rfl,⟨_,rfl,u8,1,_,rfl,rfl,rfl⟩,D2 rfl⟩
 have hb:(ndK n==2)=false:=hb;have x7:ndK n≠2:=λe=>by rw[beq_iff_eq.2 e]at hb;cases hb
 rw[if_neg x7];refine za (za (zaa zaT ?_));refine zaf rfl (λhb=>?_) (λhb=>?_)
 .have hb:(ndK n==3)=true:=hb;have hk:=beq_iff_eq.1 hb;rw[if_pos hk];refine za8 (Y':=⟨[(0,⟨.hptr,((0:Nat),(0:Nat))⟩),(3,⟨.optr nd,⟨2,nd,.here⟩⟩)],(2,some (.box nd n))::wE ty true ((bf++putS zct [ndC n]:List UInt8)) r,3⟩) ?_ ?_
  .cases b
   all_goals
    refine za (za (zae ?_));refine yZ 4 hX zaT zeh rfl t_ rfl rfl ⟨(by show zi bf+zi zct+19*1<=1000000000;have:zi zct<=20:=d_;omega),(zf4 hC)⟩ hI ?_;exact yQ ⟨⟨rfl,rfl,t_⟩,⟨rfl,rfl,rfl,t_⟩,rfl,rfl⟩
  have x0:zi (bf++putS zct [ndC n]:List UInt8)+20*zi (ndI n)+1<=1000000000:=by
   have:=zbM (zf4 hC);have hw:zi zct<=20:=d_;simp only[putS,zg,zv,yC]at this ⊢;omega
  rw[show(bf++(putS zct [ndC n]++zb8 (ndI n)):List UInt8)=bf++putS zct [ndC n]++zb8 (ndI n) from(cat3 _ _ _).symm];refine za (za (zae ?_));refine yZ 3 hX zaT zeh rfl t_ rfl rfl ⟨x0,x2⟩ hI ?_;exact yQ ⟨.inl rfl,⟨_,rfl,u8,1,_,rfl,rfl,rfl⟩,D2 rfl⟩
 have hb:(ndK n==3)=false:=hb;have xb:ndK n≠3:=λe=>by rw[beq_iff_eq.2 e]at hb;cases hb
 rw[if_neg xb];refine za (za (zaa zaT ?_));refine zaf rfl (λhb=>?_) (λhb=>?_)
 .have hb:(ndK n==4)=true:=hb;have hk:=beq_iff_eq.1 hb;rw[if_pos hk];refine za8 (Y':=⟨[(0,⟨.hptr,((0:Nat),(0:Nat))⟩),(3,⟨.optr nd,⟨2,nd,.here⟩⟩)],(2,some (.box nd n))::wE ty true ((bf++putS zbe [ndC n]:List UInt8)) r,3⟩) ?_ ?_
  .cases b
   all_goals
    refine za (za (zae ?_));refine yZ 4 hX zaT zeh rfl t_ rfl rfl ⟨(by show zi bf+zi zbe+19*1<=1000000000;have:zi zbe<=20:=d_;omega),(zf4 hC)⟩ hI ?_;exact yQ ⟨⟨rfl,rfl,t_⟩,⟨rfl,rfl,rfl,t_⟩,rfl,rfl⟩
  have x0:zi (bf++putS zbe [ndC n]:List UInt8)+20*zi (ndI n)+1<=1000000000:=by
   have:=zbM (zf4 hC);have hw:zi zbe<=20:=d_;simp only[putS,zg,zv,yC]at this ⊢;omega
  rw[show(bf++(putS zbe [ndC n]++zb8 (ndI n)):List UInt8)=bf++putS zbe [ndC n]++zb8 (ndI n) from(cat3 _ _ _).symm];refine za (za (zae ?_));refine yZ 3 hX zaT zeh rfl t_ rfl rfl ⟨x0,x2⟩ hI ?_;exact yQ ⟨.inl rfl,⟨_,rfl,u8,1,_,rfl,rfl,rfl⟩,D2 rfl⟩
 have hb:(ndK n==4)=false:=hb;have xd:ndK n≠4:=λe=>by rw[beq_iff_eq.2 e]at hb;cases hb
 rw[if_neg xd];refine za (za (zaa zaT ?_));refine zaf rfl (λhb=>?_) (λhb=>?_)
 .have hb:(ndK n==5)=true:=hb;have hk:=beq_iff_eq.1 hb;rw[if_pos hk];refine za8 (Y':=⟨[(0,⟨.hptr,((0:Nat),(0:Nat))⟩),(3,⟨.optr nd,⟨2,nd,.here⟩⟩)],(2,some (.box nd n))::wE ty true ((bf++putS zbo []:List UInt8)) r,3⟩) ?_ ?_
  .cases b
   all_goals
    refine za (za (zae ?_));refine yZ 1 hX zaT zeh rfl t_ rfl rfl ⟨(by show zi bf+zi zbo+19*0<=1000000000;have:zi zbo<=20:=d_;omega),(λx hx=>by cases hx)⟩ hI ?_;exact yQ ⟨⟨rfl,rfl,t_⟩,⟨rfl,rfl,rfl,t_⟩,rfl,rfl⟩
  have x0:zi (bf++putS zbo []:List UInt8)+20*zi (ndI n)+1<=1000000000:=by
   have:=zbM (l:=[]) (λx hx=>by cases hx);have hw:zi zbo<=20:=d_;simp only[putS,zg,zv,yC]at this ⊢;omega
  rw[show(bf++(putS zbo []++zb8 (ndI n)):List UInt8)=bf++putS zbo []++zb8 (ndI n) from(cat3 _ _ _).symm];refine za (za (zae ?_));refine yZ 3 hX zaT zeh rfl t_ rfl rfl ⟨x0,x2⟩ hI ?_;exact yQ ⟨.inl rfl,⟨_,rfl,u8,1,_,rfl,rfl,rfl⟩,D2 rfl⟩
 have hb:(ndK n==5)=false:=hb;have x6:ndK n≠5:=λe=>by rw[beq_iff_eq.2 e]at hb;cases hb
 rw[if_neg x6];refine za (za (zaa zaT ?_));refine zaf rfl (λhb=>?_) (λhb=>?_)
 .have hb:(ndK n==6)=true:=hb;have hk:=beq_iff_eq.1 hb;rw[if_pos hk];refine za8 (Y':=⟨[(0,⟨.hptr,((0:Nat),(0:Nat))⟩),(3,⟨.optr nd,⟨2,nd,.here⟩⟩)],(2,some (.box nd n))::wE ty true ((bf++putS zdA [ndC n]:List UInt8)) r,3⟩) ?_ ?_
  .cases b
   all_goals
    refine za (za (zae ?_));refine yZ 4 hX zaT zeh rfl t_ rfl rfl ⟨(by show zi bf+zi zdA+19*1<=1000000000;have:zi zdA<=20:=d_;omega),(zf4 hC)⟩ hI ?_;exact yQ ⟨⟨rfl,rfl,t_⟩,⟨rfl,rfl,rfl,t_⟩,rfl,rfl⟩
  have x0:zi (bf++putS zdA [ndC n]:List UInt8)+20*zi (ndI n)+1<=1000000000:=by
   have:=zbM (zf4 hC);have hw:zi zdA<=20:=d_;simp only[putS,zg,zv,yC]at this ⊢;omega
  rw[show(bf++(putS zdA [ndC n]++zb8 (ndI n)):List UInt8)=bf++putS zdA [ndC n]++zb8 (ndI n) from(cat3 _ _ _).symm];refine za (za (zae ?_));refine yZ 3 hX zaT zeh rfl t_ rfl rfl ⟨x0,x2⟩ hI ?_;exact yQ ⟨.inl rfl,⟨_,rfl,u8,1,_,rfl,rfl,rfl⟩,D2 rfl⟩
 have hb:(ndK n==6)=false:=hb;have x5:ndK n≠6:=λe=>by rw[beq_iff_eq.2 e]at hb;cases hb
 rw[if_neg x5];refine za (za (zaa zaT ?_));refine zaf rfl (λhb=>?_) (λhb=>?_)
 .have hb:(ndK n==7)=true:=hb;have hk:=beq_iff_eq.1 hb;rw[if_pos hk];obtain⟨x9,xc⟩:=xe hk;refine za8 (Y':=⟨[(0,⟨.hptr,((0:Nat),(0:Nat))⟩),(3,⟨.optr nd,⟨2,nd,.here⟩⟩)],(2,some (.box nd n))::wE ty true ((bf++putS wNth [ndC n,ndN n,ndM n]:List UInt8)) r,3⟩) ?_ ?_
  .cases b
   all_goals
    refine za (za (zae ?_));refine yZ 8 hX zaT zeh rfl t_ rfl rfl ⟨(by show zi bf+zi wNth+19*3<=1000000000;have:zi wNth<=20:=d_;omega),(zw4 hC hN hM)⟩ hI ?_;exact yQ ⟨⟨rfl,rfl,t_⟩,⟨rfl,rfl,rfl,t_⟩,rfl,rfl⟩
  have x0:zi (bf++putS wNth [ndC n,ndN n,ndM n]:List UInt8)+zi (zcl (ndL n))+19*0<=1000000000:=by
   have:=zbM (zw4 hC hN hM);have hw:zi wNth<=20:=d_;have hs:=zcW (ndL n);simp only[putS,zg,zv,yC]at this ⊢;omega
  rw[show(bf++(putS wNth [ndC n,ndN n,ndM n]++putS (zcl (ndL n)) []):List UInt8)=bf++putS wNth [ndC n,ndN n,ndM n]++putS (zcl (ndL n)) [] from(cat3 _ _ _).symm];refine za (za (zae ?_));refine yZ 4 hX zaT zeh rfl ⟨x9,xc⟩ rfl rfl ⟨x0,λx hx=>by cases hx⟩ hI ?_;exact yQ ⟨.inl rfl,⟨_,rfl,u8,1,_,rfl,rfl,rfl⟩,D2 rfl⟩
 have hb:(ndK n==7)=false:=hb;have x8:ndK n≠7:=λe=>by rw[beq_iff_eq.2 e]at hb;cases hb
 rw[if_neg x8];refine za (za (zaa zaT ?_));refine zaf rfl (λhb=>?_) (λhb=>?_)
 .have hb:(ndK n==18)=true:=hb;have hk:=beq_iff_eq.1 hb;rw[if_pos hk];have x4:1+zi (ndS n)<=maxLen:=by unfold maxLen;omega
  have x0:zi bf+zi (wAt++ndS n:List UInt8)+19*0<=1000000000:=by
   rw[zg];show _+(1+_)+_<=_;omega
  cases b
  all_goals
   refine za (za (zae ?_));refine yZ 4 hX zaT zeh rfl x4 rfl rfl ⟨x0,λx hx=>by cases hx⟩ hI ?_;exact yQ ⟨.inl rfl,⟨_,rfl,u8,1,_,rfl,rfl,rfl⟩,D2 rfl⟩
 have hb:(ndK n==18)=false:=hb;have x3:ndK n≠18:=λe=>by rw[beq_iff_eq.2 e]at hb;cases hb
 rw[if_neg x3];exfalso;omega
def WfP(r:List Nd):Prop:=r.length<=1000/\∀j:Nat,j<r.length->zmM (zar r j)/\(1<=ndK (zar r j)/\ndK (zar r j)<=18)/\(8<=ndK (zar r j)->ndK (zar r j)<=17->0<=ndL (zar r j)/\ndL (zar r j)<j)/\(8<=ndK (zar r j)->ndK (zar r j)<=10\/ndK (zar r j)=17->0<=ndR (zar r j)/\ndR (zar r j)<j)
@[reducible] def cOpd(k:Nat):HCtr:=hW [i64,i64] (λx xs=>[WfP x.2.2.1,0<=xs.1,xs.1.toNat<k,xs.1.toNat<zi x.2.2.1,zi x.2.1+zi (opdF k x.2.2.1 xs.1 xs.2.1)+10000<=1000000000]) λx xs=>opdF k x.2.2.1 xs.1 xs.2.1
@[reducible] def zu7(k:Nat):HCtr:=hW [nd] (λx xs=>[WfP x.2.2.1,zmM xs.1,11<=ndK xs.1,ndK xs.1<=17,ndK xs.1=17->0<=ndR xs.1/\(ndR xs.1).toNat<k/\(ndR xs.1).toNat<zi x.2.2.1,zi x.2.1+zi (zb6 (opdF k x.2.2.1 (ndR xs.1) 5) xs.1)+10000<=1000000000]) λx xs=>zb6 (opdF k x.2.2.1 (ndR xs.1) 5) xs.1
def hSf(k:Nat):List (zV×HCtr):=[(44,cPut),(78,zo7),(43,cOpd k)]
theorem cat4(a b c d:List UInt8):(a++b++c++d:List UInt8)=a++(b++(c++d)):=by rw[zz,zz]
theorem zpq(k:Nat)(hO:zaD zb gmH 43 (cOpd k)):zaD zb gmH 46 (zu7 k):=by
 have x0:HsOk zb gmH (hSf k):=.cons zrh<|.cons zoC<|.cons hO .nil;refine zb9 zaT Tryz.func46 (zcy rfl) Tryz.call46 (zeb prT [66]) ?_;rintro w0 O fix B ty hX x6 ⟨(b:Bool),(bf:List UInt8),(r:List Nd),⟨⟩⟩ ⟨(n:Nd),⟨⟩⟩ hp;have hI:=λw R hR hw=>(⟨zaL (ty:=ty) hX rfl x6.1 (ty':=ty) w R hR hw,x6.2⟩:bInv prT [66] w R ty);obtain⟨xc,⟨⟨hC,hN,hM⟩,xb,xq,xn,-,xm⟩,xo,xp,xh,hT⟩:WfP r/\zmM n/\11<=ndK n/\ndK n<=17/\(ndK n=17->0<=ndR n/\(ndR n).toNat<k/\(ndR n).toNat<r.length)/\bf.length+(zb6 (opdF k r (ndR n) 5) n).length+10000<=1000000000:=hp;have hlen:=o_;change AWP _ _ _ _ _ ⟨[(0,⟨.hptr,((0:Nat),(0:Nat))⟩),(1,⟨nd,n⟩)],wE ty b bf r,2⟩ (wQ _ (zu7 k) ty (.ok ((),(true,((bf++zb6 (opdF k r (ndR n) 5) n:List UInt8),(r,()))))));unfold zb6 at hT ⊢
 iterate 2 (refine za (za (zaa zaT ?_)))
 apply zay;refine za (za (zaa zaT ?_));refine zaf rfl (λhb=>?_) (λhb=>?_)
 .have hb:(ndK n==11)=true:=hb;have hk:=beq_iff_eq.1 hb;rw[if_pos hk];cases b
  all_goals
   refine za (za (zae ?_));refine yZ 4 hX zaT x0 rfl t_ rfl rfl ⟨(by show zi bf+zi (spW zfK)+19*1<=1000000000;have:zi (spW zfK)<=20:=d_;omega),(zf4 hN)⟩ hI ?_;exact yQ ⟨.inl rfl,⟨_,rfl,u8,1,_,rfl,rfl,rfl⟩,D2 rfl⟩
 have hb:(ndK n==11)=false:=hb;have x2:ndK n≠11:=λe=>by rw[beq_iff_eq.2 e]at hb;cases hb
 rw[if_neg x2];refine za (za (zaa zaT ?_));refine zaf rfl (λhb=>?_) (λhb=>?_)
 .have hb:(ndK n==12)=true:=hb;have hk:=beq_iff_eq.1 hb;rw[if_pos hk];cases b
  all_goals
   refine za (za (zae ?_));refine yZ 4 hX zaT x0 rfl t_ rfl rfl ⟨(by show zi bf+zi (spW zjj)+19*1<=1000000000;have:zi (spW zjj)<=20:=d_;omega),(zf4 hN)⟩ hI ?_;exact yQ ⟨.inl rfl,⟨_,rfl,u8,1,_,rfl,rfl,rfl⟩,D2 rfl⟩
 have hb:(ndK n==12)=false:=hb;have x7:ndK n≠12:=λe=>by rw[beq_iff_eq.2 e]at hb;cases hb
 rw[if_neg x7];refine za (za (zaa zaT ?_));refine zaf rfl (λhb=>?_) (λhb=>?_)
 .have hb:(ndK n==13)=true:=hb;have hk:=beq_iff_eq.1 hb;rw[if_pos hk];cases b
  all_goals
   refine za (za (zae ?_));refine yZ 4 hX zaT x0 rfl t_ rfl rfl ⟨(by show zi bf+zi (spW zfJ)+19*1<=1000000000;have:zi (spW zfJ)<=20:=d_;omega),(zf4 hN)⟩ hI ?_;exact yQ ⟨.inl rfl,⟨_,rfl,u8,1,_,rfl,rfl,rfl⟩,D2 rfl⟩
 have hb:(ndK n==13)=false:=hb;have x3:ndK n≠13:=λe=>by rw[beq_iff_eq.2 e]at hb;cases hb
 rw[if_neg x3];refine za (za (zaa zaT ?_));refine zaf rfl (λhb=>?_) (λhb=>?_)
 .have hb:(ndK n==14)=true:=hb;have hk:=beq_iff_eq.1 hb;rw[if_pos hk];refine za8 (Y':=⟨[(0,⟨.hptr,((0:Nat),(0:Nat))⟩),(3,⟨.optr nd,⟨2,nd,.here⟩⟩)],(2,some (.box nd n))::wE ty true ((bf++putS (spW zfY) []:List UInt8)) r,3⟩) ?_ ?_
  .cases b
   all_goals
    refine za (za (zae ?_));refine yZ 1 hX zaT x0 rfl t_ rfl rfl ⟨(by show zi bf+zi (spW zfY)+19*0<=1000000000;have:zi (spW zfY)<=20:=d_;omega),(λx hx=>by cases hx)⟩ hI ?_;exact yQ ⟨⟨rfl,rfl,t_⟩,⟨rfl,rfl,rfl,t_⟩,rfl,rfl⟩
  have x1:zi (bf++putS (spW zfY) []:List UInt8)+20*zi (ndI n)+1<=1000000000:=by
   have:=zbM (l:=[]) (λx hx=>by cases hx);have hw:zi (spW zfY)<=20:=d_;simp only[putS,zg,zv,yC]at this ⊢;omega
  rw[show(bf++(putS (spW zfY) []++zb8 (ndI n)):List UInt8)=bf++putS (spW zfY) []++zb8 (ndI n) from(cat3 _ _ _).symm];refine za (za (zae ?_));refine yZ 3 hX zaT x0 rfl t_ rfl rfl ⟨x1,xb⟩ hI ?_;exact yQ ⟨.inl rfl,⟨_,rfl,u8,1,_,rfl,rfl,rfl⟩,D2 rfl⟩
 have hb:(ndK n==14)=false:=hb;have x5:ndK n≠14:=λe=>by rw[beq_iff_eq.2 e]at hb;cases hb
 rw[if_neg x5];refine za (za (zaa zaT ?_));refine zaf rfl (λhb=>?_) (λhb=>?_)
 .have hb:(ndK n==15)=true:=hb;have hk:=beq_iff_eq.1 hb;rw[if_pos hk];refine za8 (Y':=⟨[(0,⟨.hptr,((0:Nat),(0:Nat))⟩),(3,⟨.optr nd,⟨2,nd,.here⟩⟩)],(2,some (.box nd n))::wE ty true ((bf++putS (spW zcu) []:List UInt8)) r,3⟩) ?_ ?_
  .cases b
   all_goals
    refine za (za (zae ?_));refine yZ 1 hX zaT x0 rfl t_ rfl rfl ⟨(by show zi bf+zi (spW zcu)+19*0<=1000000000;have:zi (spW zcu)<=20:=d_;omega),(λx hx=>by cases hx)⟩ hI ?_;exact yQ ⟨⟨rfl,rfl,t_⟩,⟨rfl,rfl,rfl,t_⟩,rfl,rfl⟩
  have x1:zi (bf++putS (spW zcu) []:List UInt8)+20*zi (ndI n)+1<=1000000000:=by
   have:=zbM (l:=[]) (λx hx=>by cases hx);have hw:zi (spW zcu)<=20:=d_;simp only[putS,zg,zv,yC]at this ⊢;omega
  rw[show(bf++(putS (spW zcu) []++zb8 (ndI n)):List UInt8)=bf++putS (spW zcu) []++zb8 (ndI n) from(cat3 _ _ _).symm];refine za (za (zae ?_));refine yZ 3 hX zaT x0 rfl t_ rfl rfl ⟨x1,xb⟩ hI ?_;exact yQ ⟨.inl rfl,⟨_,rfl,u8,1,_,rfl,rfl,rfl⟩,D2 rfl⟩
 have hb:(ndK n==15)=false:=hb;have x8:ndK n≠15:=λe=>by rw[beq_iff_eq.2 e]at hb;cases hb
 rw[if_neg x8];refine za (za (zaa zaT ?_));refine zaf rfl (λhb=>?_) (λhb=>?_)
 .have hb:(ndK n==16)=true:=hb;have hk:=beq_iff_eq.1 hb;rw[if_pos hk];obtain⟨xi,xk⟩:=xm hk;refine za8 (Y':=⟨[(0,⟨.hptr,((0:Nat),(0:Nat))⟩),(3,⟨.optr nd,⟨2,nd,.here⟩⟩)],(2,some (.box nd n))::wE ty true ((bf++putS (spW wPos) [ndC n]:List UInt8)) r,3⟩) ?_ ?_
  .cases b
   all_goals
    refine za (za (zae ?_));refine yZ 4 hX zaT x0 rfl t_ rfl rfl ⟨(by show zi bf+zi (spW wPos)+19*1<=1000000000;have:zi (spW wPos)<=20:=d_;omega),(zf4 hC)⟩ hI ?_;exact yQ ⟨⟨rfl,rfl,t_⟩,⟨rfl,rfl,rfl,t_⟩,rfl,rfl⟩
  have x1:zi (bf++putS (spW wPos) [ndC n]:List UInt8)+zi (zcl (ndM n))+19*0<=1000000000:=by
   have:=zbM (zf4 hC);have hw:zi (spW wPos)<=20:=d_;have hs:=zcW (ndM n);simp only[putS,zg,zv,yC]at this ⊢;omega
  refine za8 (Y':=⟨[(0,⟨.hptr,((0:Nat),(0:Nat))⟩),(3,⟨.optr nd,⟨2,nd,.here⟩⟩)],(2,some (.box nd n))::wE ty true ((bf++putS (spW wPos) [ndC n]++putS (zcl (ndM n)) []:List UInt8)) r,3⟩) ?_ ?_
  .cases b
   all_goals
    refine za (za (zae ?_));refine yZ 4 hX zaT x0 rfl ⟨xi,xk⟩ rfl rfl ⟨x1,λx hx=>by cases hx⟩ hI ?_;exact yQ ⟨⟨rfl,rfl,t_⟩,⟨rfl,rfl,rfl,t_⟩,rfl,rfl⟩
  have xa:zi (bf++putS (spW wPos) [ndC n]++putS (zcl (ndM n)) []:List UInt8)+20*zi (ndI n)+1<=1000000000:=by
   have:=zbM (zf4 hC);have hw:zi (spW wPos)<=20:=d_;have hs:=zcW (ndM n);have h0:zi (zeu [])=0:=rfl;simp only[putS,zg,zv,yC]at this h0 ⊢;omega
  rw[show(bf++(putS (spW wPos) [ndC n]++(putS (zcl (ndM n)) []++zb8 (ndI n))):List UInt8)=bf++putS (spW wPos) [ndC n]++putS (zcl (ndM n)) []++zb8 (ndI n) from(cat4 _ _ _ _).symm];refine za (za (zae ?_));refine yZ 3 hX zaT x0 rfl t_ rfl rfl ⟨xa,xb⟩ hI ?_;exact yQ ⟨.inl rfl,⟨_,rfl,u8,1,_,rfl,rfl,rfl⟩,D2 rfl⟩
 have hb:(ndK n==16)=false:=hb;have x4:ndK n≠16:=λe=>by rw[beq_iff_eq.2 e]at hb;cases hb
 rw[if_neg x4];refine za (za (zaa zaT ?_));refine zaf rfl (λhb=>?_) (λhb=>?_)
 .have hb:(ndK n==17)=true:=hb;have hk:=beq_iff_eq.1 hb;rw[if_pos hk];refine za8 (Y':=⟨[(0,⟨.hptr,((0:Nat),(0:Nat))⟩),(3,⟨.optr nd,⟨2,nd,.here⟩⟩)],(2,some (.box nd n))::wE ty true ((bf++putS (spW zbY) [ndN n]:List UInt8)) r,3⟩) ?_ ?_
  .cases b
   all_goals
    refine za (za (zae ?_));refine yZ 4 hX zaT x0 rfl t_ rfl rfl ⟨(by show zi bf+zi (spW zbY)+19*1<=1000000000;have:zi (spW zbY)<=20:=d_;omega),(zf4 hN)⟩ hI ?_;exact yQ ⟨⟨rfl,rfl,t_⟩,⟨rfl,rfl,rfl,t_⟩,rfl,rfl⟩
  obtain⟨xj,xg,xe⟩:=xh hk;have x1:zi (bf++putS (spW zbY) [ndN n]:List UInt8)+zi (spW wOf++[32]:List UInt8)+19*0<=1000000000:=by
   have:=zbM (zf4 hN);have hw:zi (spW zbY)<=20:=d_;have xf:zi (spW wOf++[32]:List UInt8)<=20:=d_;rw[zg];simp only[putS,zg,zv,yC]at this xf ⊢;omega
  refine za8 (Y':=⟨[(0,⟨.hptr,((0:Nat),(0:Nat))⟩),(3,⟨.optr nd,⟨2,nd,.here⟩⟩)],(2,some (.box nd n))::wE ty true ((bf++putS (spW zbY) [ndN n]++putS (spW wOf++[32]) []:List UInt8)) r,3⟩) ?_ ?_
  .cases b
   all_goals
    refine za (za (zae ?_));refine yZ 1 hX zaT x0 rfl t_ rfl rfl ⟨x1,λx hx=>by cases hx⟩ hI ?_;exact yQ ⟨⟨rfl,rfl,t_⟩,⟨rfl,rfl,rfl,t_⟩,rfl,rfl⟩
  have xd:zi (bf++putS (spW zbY) [ndN n]++putS (spW wOf++[32]) []:List UInt8)+zi (opdF k r (ndR n) 5)+10000<=1000000000:=by
   rw[if_neg x2,if_neg x7,if_neg x3,if_neg x5,if_neg x8,if_neg x4,if_pos hk]at hT;rw[zg,zg]at hT ⊢;omega
  rw[show(bf++(putS (spW zbY) [ndN n]++(putS (spW wOf++[32]) []++opdF k r (ndR n) 5)):List UInt8)=bf++putS (spW zbY) [ndN n]++putS (spW wOf++[32]) []++opdF k r (ndR n) 5 from(cat4 _ _ _ _).symm];refine za (za (zae ?_));refine yZ 3 hX zaT x0 rfl t_ rfl rfl ⟨xc,xj,xg,xe,xd⟩ hI ?_;exact yQ ⟨.inl rfl,⟨_,rfl,u8,1,_,rfl,rfl,rfl⟩,D2 rfl⟩
 have hb:(ndK n==17)=false:=hb;have x9:ndK n≠17:=λe=>by rw[beq_iff_eq.2 e]at hb;cases hb
 rw[if_neg x9];exfalso;omega
@[reducible] def zmC(k:Nat):HCtr:=hW [i64] (λx xs=>[WfP x.2.2.1,0<=xs.1,xs.1.toNat<k,xs.1.toNat<zi x.2.2.1,zi x.2.1+zi (zdC k x.2.2.1 xs.1)+10000<=1000000000]) λx xs=>zdC k x.2.2.1 xs.1
def kOd:Kn:={ gmK with C:=[(42,zwe),(45,cOps)] }
theorem zbV:KnOk zb gmH kOd:=zaj.with (.cons zuv<|.cons zhx .nil)
def hOd(k:Nat):List (zV×HCtr):=[(35,cWSP),(19,zmC k)]
theorem zpN(k:Nat)(x7:zaD zb gmH 19 (zmC k)):zaD zb gmH 43 (cOpd k):=by
 have x1:HsOk zb gmH (hOd k):=.cons zjF<|.cons x7 .nil;refine zb9 zbV Tryz.func43 (zcy rfl) Tryz.call43 (zeb prT [66]) ?_;rintro w0 O fix B ty hX x0 ⟨(b:Bool),(bf:List UInt8),(r:List Nd),⟨⟩⟩ ⟨(i:Int),(q:Int),⟨⟩⟩ hp;have hI:=λw R hR hw=>(⟨zaL (ty:=ty) hX rfl x0.1 (ty':=ty) w R hR hw,x0.2⟩:bInv prT [66] w R ty);obtain⟨x2,h0,hk,hr,hT⟩:WfP r/\0<=i/\i.toNat<k/\i.toNat<r.length/\bf.length+(opdF k r i q).length+10000<=1000000000:=hp;have x3:i<((r.length:Nat):Int):=o_;change AWP _ _ _ _ _ ⟨[(0,⟨.hptr,((0:Nat),(0:Nat))⟩),(1,⟨i64,i⟩),(2,⟨i64,q⟩)],wE ty b bf r,2⟩ (wQ _ (cOpd k) ty (.ok ((),(true,((bf++opdF k r i q:List UInt8),(r,()))))));unfold opdF at hT ⊢;apply zaq;refine za8 (Y':=⟨[(0,⟨.hptr,((0:Nat),(0:Nat))⟩),(1,⟨i64,i⟩),(16,⟨.bool,decide (levS (ndK (zar r i))>=q)⟩)],wE ty b bf r,2⟩) ?_ ?_
 .cases b
  all_goals
   refine zae ?_;refine za4 2 zbV ?_;refine kD (eqP1 _ _ rfl) hX zbV rfl t_ ?_;refine AL.all hX zbV rfl ⟨h0,x3⟩ ?_;exact⟨⟨rfl,rfl,rfl,t_⟩,⟨rfl,rfl,t_⟩,rfl,rfl⟩
 refine zaf rfl (λhb=>?_) (λhb=>?_)
 .
  rw[hb]at hT ⊢;cases b
  all_goals
   refine za (za (zae ?_));refine yZ 2 hX zbV x1 rfl t_ rfl rfl ⟨x2,h0,hk,hr,hT⟩ hI ?_;refine yQ ?_;exact zp ⟨.inr rfl,⟨_,rfl,u8,1,_,rfl,rfl,rfl⟩,D2 rfl⟩
 .
  rw[hb]at hT ⊢;have hT:bf.length+([40]++(zdC k r i++[41]):List UInt8).length+10000<=1000000000:=hT;rw[zg,zg]at hT;have x4:bf.length+zi ([40]:List UInt8)<=1000000000:=o_;have x6:zi (bf++[40]:List UInt8)+(zdC k r i).length+10000<=1000000000:=by rw[zg];omega
  have x5:zi (bf++[40]++zdC k r i:List UInt8)+zi ([41]:List UInt8)<=1000000000:=by rw[zg,zg];omega
  apply zah;rw[show(bf++parS false (zdC k r i):List UInt8)=bf++[40]++zdC k r i++[41] from(cat4 _ _ _ _).symm];refine za8 (Y':=⟨[(0,⟨.hptr,((0:Nat),(0:Nat))⟩),(1,⟨i64,i⟩)],wE ty true ((bf++[40]:List UInt8)) r,2⟩) ?_ ?_
  .cases b
   all_goals
    refine zae ?_;refine za4 2 zbV ?_;refine kD (eqP0 _ _ rfl) hX zbV rfl t_ ?_;refine yZ 0 hX zbV x1 rfl t_ rfl rfl x4 hI ?_;exact yQ ⟨⟨rfl,rfl,t_⟩,⟨rfl,rfl,t_⟩,rfl,rfl⟩
  refine za (za (zae ?_));refine yZ 2 hX zbV x1 rfl t_ rfl rfl ⟨x2,h0,hk,hr,x6⟩ hI ?_;refine yQ ?_;refine zak (Y':=⟨[(0,⟨.hptr,((0:Nat),(0:Nat))⟩)],wE ty true ((bf++[40]++zdC k r i:List UInt8)) r,2⟩) ⟨⟨rfl,t_⟩,⟨rfl,rfl,t_⟩,rfl,rfl⟩ ?_;refine zae ?_;refine za4 2 zbV ?_;refine kD (eqP0 _ _ rfl) hX zbV rfl t_ ?_;refine yZ 0 hX zbV x1 rfl t_ rfl rfl x5 hI ?_;refine yQ ?_;exact⟨.inl rfl,⟨_,rfl,u8,1,_,rfl,rfl,rfl⟩,D2 rfl⟩
theorem zxo{k:Int}(h:levS k<4):(8<=k/\k<=10)/\1<=levS k:=by
 unfold levS at *;split at h
 .rename_i e;subst e;decide
 .split at h
  .rename_i e;subst e;decide
  .split at h
   .rename_i e;subst e;decide
   .split at h<;>omega
theorem zzo{k:Int}(h:levS k=4):11<=k/\k<=17:=by
 unfold levS at h;split at h
 .omega
 .split at h
  .omega
  .split at h
   .omega
   .split at h
    .assumption
    .omega
theorem zzn{k:Int}(h4:¬levS k<4)(h5:levS k≠4):¬(8<=k/\k<=17):=by
 intro hk;unfold levS at *;split at h4
 .omega
 .split at h4
  .omega
  .split at h4
   .omega
   .split at h4
    .rename_i a b c d;rw[if_neg a,if_neg b,if_neg c,if_pos d]at h5;exact h5 rfl
    .omega
def hNo(k:Nat):List (zV×HCtr):=[(43,cOpd k),(44,cPut),(46,zu7 k),(47,zs0)]
theorem zw6(k:Nat)(xh:zaD zb gmH 43 (cOpd k))(xu:zaD zb gmH 46 (zu7 k)):zaD zb gmH 19 (zmC (k+1)):=by
 have x1:HsOk zb gmH (hNo k):=.cons xh<|.cons zrh<|.cons xu<|.cons zuy .nil;refine zb9 zbV Tryz.func19 (zcy rfl) Tryz.call19 (zeb prT [66]) ?_;rintro w0 O fix B ty hX x4 ⟨(b:Bool),(bf:List UInt8),(r:List Nd),⟨⟩⟩ ⟨(i:Int),⟨⟩⟩ hp;have hI:=λw R hR hw=>(⟨zaL (ty:=ty) hX rfl x4.1 (ty':=ty) w R hR hw,x4.2⟩:bInv prT [66] w R ty);obtain⟨x2,h0,hk,hr,hT⟩:WfP r/\0<=i/\i.toNat<k+1/\i.toNat<r.length/\bf.length+(zdC (k+1) r i).length+10000<=1000000000:=hp;have xo:i<((r.length:Nat):Int):=o_;obtain⟨x0,⟨xe,xa⟩,hL,hR⟩:=x2.2 i.toNat hr;have hi:((i.toNat:Nat):Int)=i:=Int.toNat_of_nonneg h0;rw[hi]at x0 xe xa hL hR;change AWP _ _ _ _ _ ⟨[(0,⟨.hptr,((0:Nat),(0:Nat))⟩),(1,⟨i64,i⟩)],wE ty b bf r,2⟩ (wQ _ (zmC (k+1)) ty (.ok ((),(true,((bf++zdC (k+1) r i:List UInt8),(r,()))))));unfold zdC at hT ⊢;generalize hn:zar r i=n at *;refine za8 (Y':=⟨[(0,⟨.hptr,((0:Nat),(0:Nat))⟩),(4,⟨.optr nd,⟨2,nd,.here⟩⟩)],(2,some (.box nd n))::wE ty b bf r,3⟩) ?_ ?_
 .subst hn;cases b
  all_goals
   refine zae ?_;refine za4 2 zbV ?_;refine kD (eqP1 _ _ rfl) hX zbV rfl t_ ?_;refine AL.all hX zbV rfl ⟨h0,xo⟩ ?_;exact⟨⟨rfl,rfl,t_⟩,⟨rfl,rfl,rfl,t_⟩,rfl,rfl⟩
 refine za8 (Y':=⟨[(0,⟨.hptr,((0:Nat),(0:Nat))⟩),(4,⟨.optr nd,⟨2,nd,.here⟩⟩),(5,⟨i64,levS (ndK n)⟩)],(2,some (.box nd n))::wE ty b bf r,3⟩) ?_ ?_
 .refine zae ?_;refine zaI zbV ?_;exact⟨⟨rfl,rfl,rfl,t_⟩,⟨rfl,rfl,rfl,t_⟩,rfl,by cases b<;>rfl⟩
 apply zay;refine za (za (zaa zbV ?_));refine zaU rfl (λhb=>?_) (λhb=>?_)
 .have hb:levS (ndK n)<4:=hb;rw[if_pos hb]at hT ⊢;obtain⟨⟨xd,xb⟩,xk⟩:=zxo hb;obtain⟨x9,xg⟩:=hL xd o_;obtain⟨x8,xf⟩:=hR xd (.inl xb);generalize levS (ndK n)=x at hb hT xk;change bf.length+(opdF k r (ndL n) x++(putS ([32]++opWd x++[32]) []++opdF k r (ndR n) (x+1))).length+10000<=1000000000 at hT;have xq:x=1\/x=2\/x=3:=o_;have hw:zi (opWd x)<=5:=by rcases xq with rfl|rfl|rfl<;>decide
  have xx:=hT;rw[zg,zg]at hT;have x6:(ndL n).toNat<k:=o_;have xc:(ndL n).toNat<r.length:=o_;have xr:(ndR n).toNat<k:=o_;have xt:(ndR n).toNat<r.length:=o_;have x7:bf.length+(opdF k r (ndL n) x).length+10000<=1000000000:=o_;have xv:zi (putS ([32]++opWd x++[32]) [])=zi ([32]++opWd x++[32]:List UInt8):=by
   show zi (([32]++opWd x++[32])++[]:List UInt8)=_;rw[zW]
  have xw:zi ([32]++opWd x++[32]:List UInt8)<=7:=by
   rw[zg,zg];show 1+_+1<=7;omega
  have xm:zi (bf++opdF k r (ndL n) x:List UInt8)+zi ([32]++opWd x++[32]:List UInt8)+19*0<=1000000000:=by rw[zg];omega
  have xj:zi (bf++opdF k r (ndL n) x++putS ([32]++opWd x++[32]) []:List UInt8)+(opdF k r (ndR n) (x+1)).length+10000<=1000000000:=by rw[zg,zg];omega
  have q0:inR .i64 (x-1):=zad o_ o_;have q1:inR .i64 (x+1):=zad o_ o_;have q2:(0:Int)<=x-1:=o_;have q3:x-1<((opsL.length:Nat):Int):=by show x-1<((3:Nat):Int);omega
  have q4:1+zi (opWd x)<=maxLen:=by unfold maxLen;omega
  have q5:zi ([32]++opWd x:List UInt8)+1<=maxLen:=by rw[zg];show 1+_+1<=_;unfold maxLen;omega
  change AWP _ _ _ _ _ _ (zi8 0 (wQ _ (zmC (k+1)) ty (.ok ((),(true,((bf++(opdF k r (ndL n) x++(putS ([32]++opWd x++[32]) []++opdF k r (ndR n) (x+1))):List UInt8),(r,())))))));rw[show(bf++(opdF k r (ndL n) x++(putS ([32]++opWd x++[32]) []++opdF k r (ndR n) (x+1))):List UInt8)=bf++opdF k r (ndL n) x++putS ([32]++opWd x++[32]) []++opdF k r (ndR n) (x+1) from(cat4 _ _ _ _).symm];refine za8 (Y':=⟨[(0,⟨.hptr,((0:Nat),(0:Nat))⟩),(4,⟨.optr nd,⟨2,nd,.here⟩⟩),(5,⟨i64,x⟩)],(2,some (.box nd n))::wE ty true ((bf++opdF k r (ndL n) x:List UInt8)) r,3⟩) ?_ ?_
  .cases b
   all_goals
    refine zae ?_;refine yZ 4 hX zbV x1 rfl t_ rfl rfl ⟨x2,x9,x6,xc,x7⟩ hI ?_;exact yQ ⟨⟨rfl,rfl,rfl,t_⟩,⟨rfl,rfl,rfl,t_⟩,rfl,rfl⟩
  refine za8 (Y':=⟨[(0,⟨.hptr,((0:Nat),(0:Nat))⟩),(4,⟨.optr nd,⟨2,nd,.here⟩⟩),(5,⟨i64,x⟩)],(2,some (.box nd n))::wE ty true ((bf++opdF k r (ndL n) x++putS ([32]++opWd x++[32]) []:List UInt8)) r,3⟩) ?_ ?_
  .refine zae ?_;refine yZ 9 hX zbV x1 rfl ⟨q0,q2,q3,q4,q5⟩ rfl rfl ⟨xm,λy hy=>by cases hy⟩ hI ?_;exact yQ ⟨⟨rfl,rfl,rfl,t_⟩,⟨rfl,rfl,rfl,t_⟩,rfl,rfl⟩
  refine zae ?_;refine yZ 5 hX zbV x1 rfl q1 rfl rfl ⟨x2,x8,xr,xt,xj⟩ hI ?_;exact yQ ⟨.inl rfl,⟨_,rfl,u8,1,_,rfl,rfl,rfl⟩,D2 rfl⟩
 .
  rw[if_neg hb]at hT ⊢;apply zaq;refine za (za (zaa zbV ?_));refine zaf rfl (λhc=>?_) (λhc=>?_)
  .have hc:(levS (ndK n)==4)=true:=hc;have hc:=beq_iff_eq.1 hc;rw[if_pos hc]at hT ⊢;obtain⟨x5,x3⟩:=zzo hc;obtain⟨x9,xg⟩:=hL o_ x3;have x6:(ndL n).toNat<k:=o_;have xc:(ndL n).toNat<r.length:=o_;have hB:ndK n=17->0<=ndR n/\(ndR n).toNat<k/\(ndR n).toNat<r.length:=λe=>by
    obtain⟨x8,xf⟩:=hR o_ (.inr e);exact⟨x8,by omega,by omega⟩
   change bf.length+(opdF k r (ndL n) 4++zb6 (opdF k r (ndR n) 5) n).length+10000<=1000000000 at hT;rw[zg]at hT;have x7:bf.length+(opdF k r (ndL n) 4).length+10000<=1000000000:=o_;have xp:zi (bf++opdF k r (ndL n) 4:List UInt8)+(zb6 (opdF k r (ndR n) 5) n).length+10000<=1000000000:=by rw[zg];omega
   change AWP _ _ _ _ _ _ (zi8 0 (wQ _ (zmC (k+1)) ty (.ok ((),(true,((bf++(opdF k r (ndL n) 4++zb6 (opdF k r (ndR n) 5) n):List UInt8),(r,())))))));rw[show(bf++(opdF k r (ndL n) 4++zb6 (opdF k r (ndR n) 5) n):List UInt8)=bf++opdF k r (ndL n) 4++zb6 (opdF k r (ndR n) 5) n from(cat3 _ _ _).symm];refine za8 (Y':=⟨[(0,⟨.hptr,((0:Nat),(0:Nat))⟩),(4,⟨.optr nd,⟨2,nd,.here⟩⟩)],(2,some (.box nd n))::wE ty true ((bf++opdF k r (ndL n) 4:List UInt8)) r,3⟩) ?_ ?_
   .cases b
    all_goals
     refine zae ?_;refine yZ 3 hX zbV x1 rfl t_ rfl rfl ⟨x2,x9,x6,xc,x7⟩ hI ?_;exact yQ ⟨⟨rfl,rfl,t_⟩,⟨rfl,rfl,rfl,t_⟩,rfl,rfl⟩
   refine zae ?_;refine yZ 2 hX zbV x1 rfl t_ rfl rfl ⟨x2,x0,x5,x3,hB,xp⟩ hI ?_;exact yQ ⟨.inl rfl,⟨_,rfl,u8,1,_,rfl,rfl,rfl⟩,D2 rfl⟩
  .
   have hc:levS (ndK n)≠4:=λe=>by rw[beq_iff_eq.2 e]at hc;cases hc
   rw[if_neg hc]at hT ⊢;have h5:=zzn hb hc;have xn:ndK n<=7\/ndK n=18:=o_;have hT:bf.length+(zd0 n).length+10000<=1000000000:=hT;have xi:bf.length+10000<=1000000000:=o_;cases b
   all_goals
    refine zae ?_;refine yZ 2 hX zbV x1 rfl t_ rfl rfl ⟨xi,x0,xe,xn⟩ hI ?_;exact yQ ⟨.inl rfl,⟨_,rfl,u8,1,_,rfl,rfl,rfl⟩,D2 rfl⟩
theorem zvI:∀k,zaD zb gmH 19 (zmC k)/\zaD zb gmH 43 (cOpd k)
 |0=>⟨ze9 (zcy rfl) Tryz.call19 λx xs h=>absurd h.2.2.1 (yH _),ze9 (zcy rfl) Tryz.call43 λx xs h=>absurd h.2.2.1 (yH _)⟩
 |k+1=>by
  obtain⟨h1,h2⟩:=zvI k;have h3:=zw6 k h2 (zpq k h2);exact⟨h3,zpN (k+1) h3⟩
set_option maxRecDepth 10000
theorem zos{n:Nd}(h:zaW n=true):zmM n:=by
 obtain⟨⟨k1,k2⟩,hl,_⟩:=zaC h;have hs:=zoV h;have key:(zb7 (ndC n)/\zb7 (ndN n)/\zb7 (ndM n))/\(∀x∈ndI n,zb7 x)/\(ndK n=7->0<=ndL n/\ndL n<=1)/\(ndK n=16->0<=ndM n/\ndM n<=1):=by
  rcases (show ndK n=1\/ndK n=2\/ndK n=3\/ndK n=4\/ndK n=5\/ndK n=6\/ndK n=7\/ndK n=8\/ndK n=9\/ndK n=10\/ndK n=11\/ndK n=12\/ndK n=13\/ndK n=14\/ndK n=15\/ndK n=16\/ndK n=17\/ndK n=18 by omega) with k|k|k|k|k|k|k|k|k|k|k|k|k|k|k|k|k|k
  .obtain⟨e,b1,b2⟩:=fld1 h k;have eC:=congrArg ndC e;have eN:=congrArg ndN e;have eM:=congrArg ndM e;have eI:=congrArg ndI e;have eC:ndC n=0:=eC;have eN:ndN n=ndN n:=eN;have eM:ndM n=ndM n:=eM;have eI:ndI n=[]:=eI;refine⟨⟨⟨by omega,by omega⟩,⟨by omega,by omega⟩,⟨by omega,by omega⟩⟩,?_,λe=>by omega,λe=>by omega⟩;rw[eI];exact λx hx=>by cases hx
  .obtain⟨e,bc,b1,b2⟩:=fld2 h k;have eC:=congrArg ndC e;have eN:=congrArg ndN e;have eM:=congrArg ndM e;have eI:=congrArg ndI e;refine⟨⟨⟨by omega,by omega⟩,⟨by omega,by omega⟩,⟨by omega,by omega⟩⟩,?_,λe=>by omega,λe=>by omega⟩;rw[eI];exact λx hx=>by cases hx
  .obtain⟨e,bc,⟨l1,l2,l3⟩⟩:=fld3 h k;have eC:=congrArg ndC e;have eN:=congrArg ndN e;have eM:=congrArg ndM e;have eI:=congrArg ndI e;have eN:ndN n=0:=eN;have eM:ndM n=0:=eM;have eI:ndI n=ndI n:=eI;refine⟨⟨⟨by omega,by omega⟩,⟨by omega,by omega⟩,⟨by omega,by omega⟩⟩,?_,λe=>by omega,λe=>by omega⟩;exact λx hx=>by have:=zcv d_ d_ l3 x hx;exact⟨by have:=this.1;omega,by have:=this.2;omega⟩
  .obtain⟨e,bc,⟨l1,l2,l3⟩⟩:=fld4 h k;have eC:=congrArg ndC e;have eN:=congrArg ndN e;have eM:=congrArg ndM e;have eI:=congrArg ndI e;have eN:ndN n=0:=eN;have eM:ndM n=0:=eM;have eI:ndI n=ndI n:=eI;refine⟨⟨⟨by omega,by omega⟩,⟨by omega,by omega⟩,⟨by omega,by omega⟩⟩,?_,λe=>by omega,λe=>by omega⟩;exact λx hx=>by have:=zcv d_ d_ l3 x hx;exact⟨by have:=this.1;omega,by have:=this.2;omega⟩
  .obtain⟨e,⟨l1,l2,l3⟩⟩:=fld5 h k;have eC:=congrArg ndC e;have eN:=congrArg ndN e;have eM:=congrArg ndM e;have eI:=congrArg ndI e;have eC:ndC n=0:=eC;have eN:ndN n=0:=eN;have eM:ndM n=0:=eM;have eI:ndI n=ndI n:=eI;refine⟨⟨⟨by omega,by omega⟩,⟨by omega,by omega⟩,⟨by omega,by omega⟩⟩,?_,λe=>by omega,λe=>by omega⟩;exact λx hx=>by have:=zcv d_ d_ l3 x hx;exact⟨by have:=this.1;omega,by have:=this.2;omega⟩
  .obtain⟨e,bc,⟨l1,l2,l3⟩⟩:=fld6 h k;have eC:=congrArg ndC e;have eN:=congrArg ndN e;have eM:=congrArg ndM e;have eI:=congrArg ndI e;have eN:ndN n=0:=eN;have eM:ndM n=0:=eM;have eI:ndI n=ndI n:=eI;refine⟨⟨⟨by omega,by omega⟩,⟨by omega,by omega⟩,⟨by omega,by omega⟩⟩,?_,λe=>by omega,λe=>by omega⟩;exact λx hx=>by have:=zcv d_ d_ l3 x hx;exact⟨by have:=this.1;omega,by have:=this.2;omega⟩
  .obtain⟨e,bc,b1,bz,b2,b3⟩:=fld7 h k;have eC:=congrArg ndC e;have eN:=congrArg ndN e;have eM:=congrArg ndM e;have eI:=congrArg ndI e;refine⟨⟨⟨by omega,by omega⟩,⟨by omega,by omega⟩,⟨by omega,by omega⟩⟩,?_,λe=>by omega,λe=>by omega⟩;rw[eI];exact λx hx=>by cases hx
  .have e:=fld8 h k;have eC:=congrArg ndC e;have eN:=congrArg ndN e;have eM:=congrArg ndM e;have eI:=congrArg ndI e;have eC:ndC n=0:=eC;have eN:ndN n=0:=eN;have eM:ndM n=0:=eM;have eI:ndI n=[]:=eI;refine⟨⟨⟨by omega,by omega⟩,⟨by omega,by omega⟩,⟨by omega,by omega⟩⟩,?_,λe=>by omega,λe=>by omega⟩;rw[eI];exact λx hx=>by cases hx
  .have e:=fld9 h k;have eC:=congrArg ndC e;have eN:=congrArg ndN e;have eM:=congrArg ndM e;have eI:=congrArg ndI e;have eC:ndC n=0:=eC;have eN:ndN n=0:=eN;have eM:ndM n=0:=eM;have eI:ndI n=[]:=eI;refine⟨⟨⟨by omega,by omega⟩,⟨by omega,by omega⟩,⟨by omega,by omega⟩⟩,?_,λe=>by omega,λe=>by omega⟩;rw[eI];exact λx hx=>by cases hx
  .have e:=zzF h k;have eC:=congrArg ndC e;have eN:=congrArg ndN e;have eM:=congrArg ndM e;have eI:=congrArg ndI e;have eC:ndC n=0:=eC;have eN:ndN n=0:=eN;have eM:ndM n=0:=eM;have eI:ndI n=[]:=eI;refine⟨⟨⟨by omega,by omega⟩,⟨by omega,by omega⟩,⟨by omega,by omega⟩⟩,?_,λe=>by omega,λe=>by omega⟩;rw[eI];exact λx hx=>by cases hx
  .obtain⟨e,b1⟩:=zxW h k;have eC:=congrArg ndC e;have eN:=congrArg ndN e;have eM:=congrArg ndM e;have eI:=congrArg ndI e;have eC:ndC n=0:=eC;have eN:ndN n=ndN n:=eN;have eM:ndM n=0:=eM;have eI:ndI n=[]:=eI;refine⟨⟨⟨by omega,by omega⟩,⟨by omega,by omega⟩,⟨by omega,by omega⟩⟩,?_,λe=>by omega,λe=>by omega⟩;rw[eI];exact λx hx=>by cases hx
  .obtain⟨e,b1⟩:=zxV h k;have eC:=congrArg ndC e;have eN:=congrArg ndN e;have eM:=congrArg ndM e;have eI:=congrArg ndI e;have eC:ndC n=0:=eC;have eN:ndN n=ndN n:=eN;have eM:ndM n=0:=eM;have eI:ndI n=[]:=eI;refine⟨⟨⟨by omega,by omega⟩,⟨by omega,by omega⟩,⟨by omega,by omega⟩⟩,?_,λe=>by omega,λe=>by omega⟩;rw[eI];exact λx hx=>by cases hx
  .obtain⟨e,b1⟩:=zxU h k;have eC:=congrArg ndC e;have eN:=congrArg ndN e;have eM:=congrArg ndM e;have eI:=congrArg ndI e;have eC:ndC n=0:=eC;have eN:ndN n=ndN n:=eN;have eM:ndM n=0:=eM;have eI:ndI n=[]:=eI;refine⟨⟨⟨by omega,by omega⟩,⟨by omega,by omega⟩,⟨by omega,by omega⟩⟩,?_,λe=>by omega,λe=>by omega⟩;rw[eI];exact λx hx=>by cases hx
  .obtain⟨e,⟨l1,l2,l3⟩⟩:=zxT h k;have eC:=congrArg ndC e;have eN:=congrArg ndN e;have eM:=congrArg ndM e;have eI:=congrArg ndI e;have eC:ndC n=0:=eC;have eN:ndN n=0:=eN;have eM:ndM n=0:=eM;have eI:ndI n=ndI n:=eI;refine⟨⟨⟨by omega,by omega⟩,⟨by omega,by omega⟩,⟨by omega,by omega⟩⟩,?_,λe=>by omega,λe=>by omega⟩;exact λx hx=>by have:=zcv d_ d_ l3 x hx;exact⟨by have:=this.1;omega,by have:=this.2;omega⟩
  .obtain⟨e,⟨l1,l2,l3⟩⟩:=zxS h k;have eC:=congrArg ndC e;have eN:=congrArg ndN e;have eM:=congrArg ndM e;have eI:=congrArg ndI e;have eC:ndC n=0:=eC;have eN:ndN n=0:=eN;have eM:ndM n=0:=eM;have eI:ndI n=ndI n:=eI;refine⟨⟨⟨by omega,by omega⟩,⟨by omega,by omega⟩,⟨by omega,by omega⟩⟩,?_,λe=>by omega,λe=>by omega⟩;exact λx hx=>by have:=zcv d_ d_ l3 x hx;exact⟨by have:=this.1;omega,by have:=this.2;omega⟩
  .obtain⟨e,bc,⟨l1,l2,l3⟩,b1⟩:=zxR h k;have eC:=congrArg ndC e;have eN:=congrArg ndN e;have eM:=congrArg ndM e;have eI:=congrArg ndI e;have eN:ndN n=0:=eN;have eM:ndM n=ndM n:=eM;have eI:ndI n=ndI n:=eI;refine⟨⟨⟨by omega,by omega⟩,⟨by omega,by omega⟩,⟨by omega,by omega⟩⟩,?_,λe=>by omega,λe=>by omega⟩;exact λx hx=>by have:=zcv d_ d_ l3 x hx;exact⟨by have:=this.1;omega,by have:=this.2;omega⟩
  .obtain⟨e,b1⟩:=zxQ h k;have eC:=congrArg ndC e;have eN:=congrArg ndN e;have eM:=congrArg ndM e;have eI:=congrArg ndI e;have eC:ndC n=0:=eC;have eN:ndN n=ndN n:=eN;have eM:ndM n=0:=eM;have eI:ndI n=[]:=eI;refine⟨⟨⟨by omega,by omega⟩,⟨by omega,by omega⟩,⟨by omega,by omega⟩⟩,?_,λe=>by omega,λe=>by omega⟩;rw[eI];exact λx hx=>by cases hx
  .obtain⟨e,bn⟩:=zxP h k;have eC:=congrArg ndC e;have eN:=congrArg ndN e;have eM:=congrArg ndM e;have eI:=congrArg ndI e;have eC:ndC n=0:=eC;have eN:ndN n=0:=eN;have eM:ndM n=0:=eM;have eI:ndI n=[]:=eI;refine⟨⟨⟨by omega,by omega⟩,⟨by omega,by omega⟩,⟨by omega,by omega⟩⟩,?_,λe=>by omega,λe=>by omega⟩;rw[eI];exact λx hx=>by cases hx
 exact⟨key.1,key.2.1,by omega,by omega,key.2.2⟩
theorem zyP{r:List Nd}(h:wfS r=true):WfP r:=by
 obtain⟨⟨h1,h2⟩,h3,h4⟩:=zdq h;refine⟨by omega,λj hj=>?_⟩;obtain⟨f1,f2⟩:=zcc h3 hj;obtain⟨l1,l2⟩:=zoz h3 j hj;exact⟨zos f1,(zaC f1).1,l1,l2⟩
theorem zc4(c:Bool)(t:List UInt8):(parS c t).length<=t.length+2:=by
 cases c with
 |true=>show t.length<=_;omega
 |false=>show([40]++(t++[41]):List UInt8).length<=_;simp
theorem zux{n:Nd}(h:zmM n):(zd0 n).length<=2100:=by
 obtain⟨⟨hC,hN,hM⟩,hI,hl,hs,_⟩:=h;have l1:∀w:List UInt8,w.length<=10->∀l:List Int,l.length<=3->(∀x∈l,zb7 x)->(putS w l).length<=67:=λw hw l hl hx=>by
  have:=zbM hx;unfold putS;rw[zg];omega
 have l2:(zb8 (ndI n)).length<=2001:=by
  have:=zgv (ndI n) 0 hI;unfold zb8;rw[zg,xI];omega
 have p0:∀x∈([]:List Int),zb7 x:=λx hx=>by cases hx
 have p1:∀x∈ [ndC n],zb7 x:=λx hx=>by rw[zt.1 hx];exact hC
 have p2:∀x∈ [ndN n,ndM n],zb7 x:=λx hx=>by
  rcases zs.1 hx with rfl|hx
  .exact hN
  .rw[zt.1 hx];exact hM
 have p3:∀x∈ [ndC n,ndN n,ndM n],zb7 x:=λx hx=>by
  rcases zs.1 hx with rfl|hx
  .exact hC
  .exact p2 x hx
 unfold zd0;split
 .exact zJ (l1 _ d_ _ (by simp) p2) d_
 split
 .exact zJ (l1 _ d_ _ (by simp) p3) d_
 split
 .rw[zg];have:=l1 zct d_ _ (by simp) p1;omega
 split
 .rw[zg];have:=l1 zbe d_ _ (by simp) p1;omega
 split
 .rw[zg];have:=l1 zbo d_ _ (by simp) p0;omega
 split
 .rw[zg];have:=l1 zdA d_ _ (by simp) p1;omega
 split
 .rw[zg];have:=l1 wNth d_ _ (by simp) p3;have:=l1 (zcl (ndL n)) (zcW _) [] d_ p0;omega
 split
 .show(64::ndS n++[]).length<=_;rw[zW,zv];omega
 .exact zk _
theorem zqz{n:Nd}(b:List UInt8)(h:zmM n):(zb6 b n).length<=2200+b.length:=by
 obtain⟨⟨hC,hN,hM⟩,hI,hl,hs,_⟩:=h;have l1:∀w:List UInt8,w.length<=10->∀l:List Int,l.length<=3->(∀x∈l,zb7 x)->(putS w l).length<=67:=λw hw l hl hx=>by
  have:=zbM hx;unfold putS;rw[zg];omega
 have l2:(zb8 (ndI n)).length<=2001:=by
  have:=zgv (ndI n) 0 hI;unfold zb8;rw[zg,xI];omega
 have p0:∀x∈([]:List Int),zb7 x:=λx hx=>by cases hx
 have p1:∀x∈ [ndC n],zb7 x:=λx hx=>by rw[zt.1 hx];exact hC
 have p2:∀x∈ [ndN n],zb7 x:=λx hx=>by rw[zt.1 hx];exact hN
 unfold zb6;split
 .have:=l1 (spW zfK) d_ _ (by simp) p2;omega
 split
 .have:=l1 (spW zjj) d_ _ (by simp) p2;omega
 split
 .have:=l1 (spW zfJ) d_ _ (by simp) p2;omega
 split
 .rw[zg];have:=l1 (spW zfY) d_ _ (by simp) p0;omega
 split
 .rw[zg];have:=l1 (spW zcu) d_ _ (by simp) p0;omega
 split
 .rw[zg,zg];have:=l1 (spW wPos) d_ _ (by simp) p1;have:=l1 (zcl (ndM n)) (zcW _) [] d_ p0;omega
 split
 .rw[zg,zg];have:=l1 (spW zbY) d_ _ (by simp) p2;have:=l1 (spW wOf++[32]) d_ [] d_ p0;omega
 .exact zk _
theorem zhQ:∀t:Tr,TrOk t->t.text.length<=3000*t.size
 |.leaf n,h=>by
  have:=zux (zos h.1);show(zd0 n).length<=3000*1;omega
 |.un n a,h=>by
  have h1:=zqz [] (zos h.1);have h2:=zhQ a h.2.2.2;have h3:=zc4 (decide (a.lev>=4)) a.text;show(parS _ a.text++zb6 [] n).length<=3000*(a.size+1);rw[zg];rw[yC]at h1;omega
 |.bin n a b,h=>by
  have h1:=zhQ a h.2.2.2.1;have h2:=zhQ b h.2.2.2.2;show _<=3000*(a.size+b.size+1);rw[zkh];split
  .have h3:=zc4 (decide (a.lev>=4)) a.text;have h4:=zc4 (decide (b.lev>=5)) b.text;have h5:=zqz (parS (decide (b.lev>=5)) b.text) (zos h.1);rw[zg];omega
  .have h3:=zc4 (decide (a.lev>=levS (ndK n))) a.text;have h4:=zc4 (decide (b.lev>=levS (ndK n)+1)) b.text;have h5:(putS ([32]++opWd (levS (ndK n))++[32]) []).length<=20:=by
    have h6:=zkQ (ndK n);show(([32]++opWd (levS (ndK n))++[32])++[]:List UInt8).length<=20;rcases (show levS (ndK n)=1\/levS (ndK n)=2\/levS (ndK n)=3\/levS (ndK n)=4\/levS (ndK n)=5 by omega) with e|e|e|e|e<;>rw[e]<;>decide
   rw[zg,zg];omega
theorem zwC{t:Tr}(h:TrOk t)(hs:t.size<=64):t.text≠ []:=λe=>by
 have h1:=zjW h hs;rw[e]at h1;have h2:(match zeL [] with |.ok _=>true|.error _=>false)=false:=by kernel_rfl
 rw[h1]at h2;cases h2
def zvA:List Int:=[31,28,31,30,31,30,31,31,30,31,30,31]
def ziD:List Int:=[30,29,30,29,30,29,30,29,30,29,30,29]
def ziq:List Int:=[2,5,7,10,13,16,18,21,24,26,29]
def zoH(k:Int):Cal:=
 if k=0 then(7,zvA,1,[(4,0,true,()),(100,0,false,()),(400,0,true,())],())
 else if k=1 then(5,zvA,1,[(4,0,true,())],())
 else(227021,ziD,11,ziq.map λx=>(30,x,true,()),())
def zs1:Ctr:={ args:=[i64],pre:=λx=>[0<=x.1,x.1<=2],res:=.tup cal (.tup i64 .unit),own:=none,out:=λx=>(zoH x.1,(0:Int),()) }
def kKw:Kn:={ gmK with H:=[25] }
theorem zcS:KnOk zb gmH kKw:=⟨zeK,zdm,CsOk.nil,zcb,vp⟩
def zzl:zd:=.agg #[.int .i64 227021,.slice none 0 0,.int .i64 11,.slice none 0 0]
theorem zrM:zb.built 25 [(0,.int .i64 227021),(2,.int .i64 11)]=some #[.int .i64 227021,.slice none 0 0,.int .i64 11,.slice none 0 0]:=by kernel_rfl
theorem bufL{te:zo}{x y:List Lr}(h:x=y):some (OObj.buf te lru x)=some (OObj.buf te lru y):=by rw[h]
set_option maxHeartbeats 1000000 in
theorem zuA:yT zb gmH 17 zs1:=by
 refine ctr2 zcS Tryz.func17 Tryz.call17 ?_;rintro w0 X hX ⟨(k:Int),_⟩ hp;obtain⟨h0,h1⟩:0<=k/\k<=2:=by
  simp only[zs1,allP]at hp
  simpa using hp
 change AWP _ _ _ _ _ ⟨[(0,⟨i64,k⟩)],[],0⟩ _
 iterate 2 (refine za (za (zaa zcS ?_)))
 refine AWP.frz hX 4 ?_
 iterate 3 (refine za (za (zaa zcS ?_)))
 refine zaf rfl (λhb=>?_) (λhb=>?_)
 .have hb:(k==0)=true:=hb;obtain rfl:=beq_iff_eq.1 hb;refine za (za (zaa zcS ?_));refine AWP.frz hX 6 ?_;refine za (za (zaa zcS ?_));refine zp ⟨.inr rfl,D2 ?_⟩;rfl
 have hb:(k==0)=false:=hb;have x4:k≠0:=λe=>by rw[e]at hb;cases hb
 refine za (za (zaa zcS ?_));refine zaf rfl (λhb=>?_) (λhb=>?_)
 .have hb:(k==1)=true:=hb;obtain rfl:=beq_iff_eq.1 hb;refine za (za (zaa zcS ?_));refine zp ⟨.inr rfl,D2 ?_⟩;rfl
 have hb:(k==1)=false:=hb;have x3:k≠1:=λe=>by rw[e]at hb;cases hb
 refine za (za (zaa zcS ?_));refine zaf rfl (λhb=>?_) (λhb=>?_)
 .have hb:(k==2)=true:=hb;obtain rfl:=beq_iff_eq.1 hb;refine za (za (zae ?_));refine zfl rfl (by intro c e;cases e) rfl rfl zzl (λU a w hs=>by
   unfold execOp;refine zbz ?_;rw[show(#[(0,bh (qc .i64 227021)),(2,bh (qc .i64 11))]:Array (Nat×zB)).map (λp=>(p.1,a.eval p.2))= #[(0,qc .i64 227021),(2,qc .i64 11)] from by simp;exact⟨rfl,rfl⟩];exact run_build w _ _ _ zrM) ?_
  refine zaI zcS ?_;refine AWP.nilLeaf 3 1 3 i64 rfl rfl rfl ?_;refine AWP.nilLeaf 3 3 56 lru rfl rfl rfl ?_;refine za (za (zaa zcS ?_));refine za (za ?_);refine xP (ι:=Nat) (λi=>⟨[(2,⟨.hptr,((0:Nat),(0:Nat))⟩),(7,⟨.hptr,((3:Nat),(0:Nat))⟩),(32,⟨i64,(i:Int)⟩)],[(0,some (.hbox 25 [⟨i64,(0:Int)⟩,⟨.lit,.slice none 0 0⟩,⟨i64,(0:Int)⟩,⟨.lit,.slice none 0 0⟩])),(3,some (.hbox 25 [⟨i64,(227021:Int)⟩,⟨.obuf i64,(4:Nat)⟩,⟨i64,(11:Int)⟩,⟨.obuf lru,(5:Nat)⟩])),(4,some (.buf 3 i64 (ziD.take i))),(5,some (.buf 56 lru []))],6⟩) (λi=>i<=12) (λi=>12-i) 0 (zk _) ⟨⟨rfl,rfl,rfl,t_⟩,⟨rfl,rfl,rfl,rfl,t_⟩,rfl,rfl⟩ ?_
  .intro i hi;refine za (za (zaa zcS ?_));apply zaq;refine zaU rfl (λhb=>?_) (λhb=>?_)
   .have hb:(i:Int)<12:=hb;obtain⟨hv,x1,x2⟩:(inR .i64 ((30:Int)-(i:Int).tmod 2))/\ziD.take i++[(30:Int)-(i:Int).tmod 2]=ziD.take (i+1)/\(ziD.take i).length<=12:=by
     rcases (show i=0\/i=1\/i=2\/i=3\/i=4\/i=5\/i=6\/i=7\/i=8\/i=9\/i=10\/i=11 by omega) with rfl|rfl|rfl|rfl|rfl|rfl|rfl|rfl|rfl|rfl|rfl|rfl<;>exact⟨zad d_ d_,by decide,by decide⟩
    have q1:(ziD.take i).length+1<=1000000000:=o_
    iterate 2 (refine za (za (zaa zcS ?_)))
    refine za (za ?_);refine zac hX zcS rfl ?_ ?_
    .exact zbb o_
    exact⟨i+1,by omega,by omega,⟨rfl,rfl,zdU _,t_⟩,⟨rfl,rfl,bufI x1,rfl,t_⟩,rfl,rfl⟩
   .have hb:¬((i:Int)<12):=hb;obtain rfl:i=12:=o_;apply zaw;refine za (za (zaa zcS ?_));refine AWP.frz hX 44 ?_;refine za (za ?_);refine xP (ι:=Nat) (λj=>⟨[(2,⟨.hptr,((0:Nat),(0:Nat))⟩),(7,⟨.hptr,((3:Nat),(0:Nat))⟩),(44,⟨ints,ziq⟩),(45,⟨i64,(11:Int)⟩),(46,⟨i64,(j:Int)⟩)],[(0,some (.hbox 25 [⟨i64,(0:Int)⟩,⟨.lit,.slice none 0 0⟩,⟨i64,(0:Int)⟩,⟨.lit,.slice none 0 0⟩])),(3,some (.hbox 25 [⟨i64,(227021:Int)⟩,⟨.obuf i64,(4:Nat)⟩,⟨i64,(11:Int)⟩,⟨.obuf lru,(5:Nat)⟩])),(4,some (.buf 3 i64 ziD)),(5,some (.buf 56 lru ((ziq.take j).map λx=>(30,x,true,()))))],6⟩) (λj=>j<=11) (λj=>11-j) 0 (zk _) ⟨⟨rfl,rfl,rfl,rfl,rfl,t_⟩,⟨rfl,rfl,rfl,rfl,t_⟩,rfl,rfl⟩ ?_;intro j hj;refine za (za (zaa zcS ?_));apply zaq;refine zaU rfl (λhb=>?_) (λhb=>?_)
    .have hb:(j:Int)<11:=hb;have x0:j<ziq.length:=by show j<11;omega
     have z0:(0:Int)<=(j:Int):=o_;have z1:(j:Int)<((ziq.length:Nat):Int):=o_;have hl:((ziq.take j).map λx=>((30,x,true,()):Lr)).length+1<=1000000000:=by rw[List.length_map,List.length_take];omega
     iterate 2 (refine za (za (zaa zcS ?_)))
     refine za (za ?_);refine zac hX zcS rfl ?_ ?_
     .exact zbb o_
     refine⟨j+1,by omega,by omega,⟨rfl,rfl,rfl,rfl,zdU _,t_⟩,⟨rfl,rfl,rfl,bufL ?_,t_⟩,rfl,rfl⟩;rw[List.take_succ_eq_append_getElem x0,List.map_append];show _++[((30:Int),ziq.getD (j:Int).toNat (0:Int),true,())]=_;rw[zaY x0];rfl
    .have hb:¬((j:Int)<11):=hb;obtain rfl:j=11:=o_;apply zaw;refine AWP.frzL hX 3 1 ?_;refine AWP.frzL hX 3 3 ?_;refine za (za (zaa zcS ?_));refine zp ⟨.inr rfl,D2 ?_⟩;rfl
 .have hb:(k==2)=false:=hb;exact absurd (beq_iff_eq.2 (by omega:k=2)) (by rw[hb];decide)
theorem zt6(A:Option Addr)(n c:Nat):zb.built 66 [(1,.slice A n c)]=some #[.pointer none,.slice none 0 0,.slice A n c]:=by kernel_rfl
abbrev prV:Ty:=.hcons .lit (.hcons .lit (.hcons (.slice nd) .unit))
def prX(r:List Nd):prV.T:=(.pointer none,(.slice none 0 0,(r,())))
section
variable {w0:zh}{X:Ownr}{n:Nat}{Q:Exit->AS->Prop}{ops:Array Oper}{F:zN}{E:Owns}{nx:Nat}
theorem zvs{o:Oper}{rest:List Oper}{x:zB}(ho:o.op=.build 66 #[(1,x)])(x2:o.guard=none){d:Nat}(hd:o.dst=some d)(x3:zM d n=true){r:List Nd}(hx:evO F x=⟨.slice nd,r⟩)
  (h:AL zb w0 X n ops rest ⟨(d,⟨prV,prX r⟩)::F,E,nx⟩ Q):AL zb w0 X n ops (o::rest) ⟨F,E,nx⟩ Q:=by
 refine AL.hand x2 (λc e=>by rw[ho]at e;cases e) λU a w hs=>?_;have x1:=hs.ops x;rw[show evO (AS.mk F E nx).F x=_ from hx]at x1;have x0:=x1;obtain⟨v,e,hS⟩:=x1;obtain⟨A,m,c,hv⟩:∃A m c,a.eval x=.slice A m c:=by
  rw[List.singleton_inj.1 e];rcases hS with ⟨_,A,c,rfl,_⟩|⟨g,off,c,vs,rfl,_⟩
  .exact⟨_,_,_,rfl⟩
  .exact⟨_,_,_,rfl⟩
 rw[hv]at x0;refine zgS hd x3 (v:=⟨prV,prX r⟩) (zk _) (N:=λY'=>AL zb w0 X n ops rest Y' Q) h hs (u:=.agg #[.pointer none,.slice none 0 0,.slice A m c]) ?_ ?_
 .unfold execOp;simp only[ho];refine zbz ?_;rw[show(#[(1,x)]:Array (Nat×zB)).map (λp=>(p.1,a.eval p.2))= #[(1,wW A m c)] from by simp[hv]];exact run_build w _ _ _ (zt6 A m c)
 .exact⟨_,[_,_],rfl,rfl,rfl,_,[_],rfl,rfl,rfl,_,[],rfl,rfl,x0,[],rfl,rfl⟩
theorem zyK(hX:X.Ok w0){o:Oper}{rest:List Oper}{t:zo}{x:zB}(ho:o.op=.box t x)(x4:o.guard=none){d:Nat}(hd:o.dst=some d)(x5:zM d n=true){A:Ty}{q1 q2:zd}{p:A.T}(hx:evO F x=⟨.hcons .lit (.hcons .lit (.hcons A .unit)),(q1,(q2,(p,())))⟩)
  (hA:A.plainL=true) (x8:(⟨A,p⟩:V).bound=0) (h:AL zb w0 X n ops rest ⟨(d,⟨.hptr,(nx,(0:Nat))⟩)::F,(nx,some (.hbox t [⟨.lit,q1⟩,⟨.lit,q2⟩,⟨A,p⟩]))::E,nx+1⟩ Q):AL zb w0 X n ops (o::rest) ⟨F,E,nx⟩ Q:=by
 refine AL.hand x4 (λc e=>by rw[ho]at e;cases e) λU a w hs=>?_;have x0:d<n:=by simpa using x5
 have h1:=hs.ops x;rw[show evO (AS.mk F E nx).F x=_ from hx]at h1;obtain⟨c1,s1,e1,x2,r1,h2⟩:=h1;obtain⟨c2,s2,e2,x3,r2,h3⟩:=h2;obtain⟨c3,s3,e3,x6,r3,h4⟩:=h3;obtain⟨cs,e4,h4⟩:∃cs:List zd,(bk s3.toArray)=.agg cs.toArray/\RepC w (OSet X E U) .unit () cs:=(qr rfl).1 h4;have h4:cs=[]:=h4;subst h4;have e4:s3=[]:=by
  have:=w7 e4
  simpa using congrArg uf this
 subst e4;have e3:s2=[c3]:=by
  have:=w7 e3
  simpa using congrArg uf this
 subst e3;have e2:s1=[c2,c3]:=by
  have:=w7 e2
  simpa using congrArg uf this
 subst e2;refine za5 (u:=.pointer (some ⟨w.heap.size,0,none⟩)) (w':=w.alloc (.cells #[c1,c2,c3] t (0,0))) ?_ ?_
 .unfold execOp;simp only[ho];refine zbz ?_;rw[e1];simp[fc,newVar,newRow,vI,go_sem]
 .rw[hd];have hk:xG w.heap.size w (w.alloc (.cells #[c1,c2,c3] t (0,0))):=(zR _ w).alloc (zj _) (.cells #[c1,c2,c3] t (0,0));obtain⟨U',h4⟩:=hs.make hX hk (bv:=.pointer (some ⟨w.heap.size,0,none⟩)) (o:=.hbox t [⟨.lit,q1⟩,⟨.lit,q2⟩,⟨A,p⟩])
   (λO U' hO=>by
     have x7:Keeps w (w.alloc (.cells #[c1,c2,c3] t (0,0))) (OSet X E U) O:=.of_below hk λg hg x1=>by
      rcases hO g x1 with h5|h5
      .exact h5
      .simp[zag]at h5;omega
     exact⟨w.heap.size,[c1,c2,c3],rfl,zk _,qa w _,⟨c1,[c2,c3],rfl,x2,r1,⟨c2,[c3],rfl,x3,r2,⟨c3,[],rfl,x6,RepV.plainL x7 hA r3,rfl⟩⟩⟩⟩) (λg hg=>by cases hg;exact zj _) (v:=⟨.hptr,(nx,(0:Nat))⟩) (u:=.pointer (some ⟨w.heap.size,0,none⟩))
   (λO U' hb=>⟨w.heap.size,by show zag (U' nx)=_;rw[show U' nx=_ from hb];rfl,rfl⟩) (zj _) x0 (λvs e v hv=>by
     cases e;rcases zs.1 hv with rfl|hv
     .exact zk _
     .rcases zs.1 hv with rfl|hv
      .exact zk _
      .rw[zt.1 hv,x8];exact zk _)
  exact⟨_,U',h4,h⟩
end
theorem zj6{w0:zh}{O:Nat->Prop}(hX:(jj gmH O).Ok w0){ty:zo}:ginv w0 (jj gmH O).R ty:=⟨ji _ _ _,ji _ _ _⟩
theorem zAV(k:Int)(h:0<=k/\k<=2):zbv (zoH k):=by
 have key:∀k:Fin 3,zbv (zoH ((k.val:Nat):Int)):=by
  intro k;unfold zbv;revert k;decide+kernel
 have:=key ⟨k.toNat,by omega⟩;rwa[show(((⟨k.toNat,by omega⟩:Fin 3).val:Nat):Int)=k by show((k.toNat:Nat):Int)=k;omega]at this
def zu4(k:Nat):List Cal:=(qB 3).map λj=>if j<k then zoH ((j:Nat):Int) else zCal
theorem bufC{te:zo}{x y:List Cal}(h:x=y):some (OObj.buf te cal x)=some (OObj.buf te cal y):=by rw[h]
theorem zye:∀c∈zu4 3,zbv c:=λc hc=>by
 obtain⟨j,hj,rfl⟩:=jK.1 hc;have hj:=List.mem_range.1 hj;rw[if_pos hj];exact zAV _ ⟨by omega,by omega⟩
def cFmt:Ctr:={ args:=[.slice nd],pre:=λ_=>[],res:=.tup .str (.tup i64 .unit),own:=none,out:=λx=>((fmtS x.1).1,(fmtS x.1).2,()) }
def kFm:Kn:={ gmK with C:=[(17,zs1),(18,zu6)] }
theorem zcM:KnOk zb gmH kFm:=zaj.with (.cons zuA<|.cons zql .nil)
def hFm:List (zV×HCtr):=[(19,zmC 65),(20,zqe prT [66])]
theorem zvY:HsOk zb gmH hFm:=.cons (zvI 65).1<|.cons zxq .nil
set_option maxHeartbeats 1000000 in
theorem ziT:yT zb gmH 7 cFmt:=by
 refine ctr2 zcM Tryz.func7 Tryz.call7 ?_;rintro w0 X hX ⟨r,_⟩ hp;refine AWP.len 0 rfl λhl=>?_;unfold maxLen at hl;have hI:∀w R,(∀g,R g->w0.heap.size<=g\/(jj gmH X).R g)->(jj gmH X).G w->bInv prT [66] w R 66:=λw R hR hw=>⟨zaL (ty:=66) hX rfl (zj6 hX) (ty':=66) w R hR hw,zt.2 rfl⟩
 iterate 3 (refine za (za (zaa zcM ?_)))
 refine za (za ?_);refine xP (ι:=Nat) (λk=>⟨[(0,⟨.slice nd,r⟩),(4,⟨.obuf cal,(0:Nat)⟩),(10,⟨i64,(3:Int)⟩),(11,⟨i64,(k:Int)⟩)],[(0,some (.buf 25 cal (zu4 k)))],1⟩) (λk=>k<=3) (λk=>3-k) 0 (zk _) ⟨⟨rfl,rfl,rfl,rfl,t_⟩,⟨rfl,t_⟩,rfl,rfl⟩ ?_;intro k hk;refine za (za (zaa zcM ?_));apply zaq;refine zaU rfl (λhb=>?_) (λhb=>?_)
 .
  have z0:=o_;have z1:(k:Int)<=2:=o_;have z2:(k:Int)<(((zu4 k).length:Nat):Int):=by show(k:Int)<((3:Nat):Int);omega
  have z3:((k:Int)).toNat<(zu4 k).length:=by show _<3;omega
  iterate 2 (refine za (za (zaa zcM ?_)))
  refine za (za (zac hX zcM rfl ?_ ?_))
  .exact zbb o_
  refine⟨k+1,by omega,by omega,⟨rfl,rfl,rfl,zdU _,t_⟩,⟨bufC ?_,t_⟩,rfl,rfl⟩;rcases (show k=0\/k=1\/k=2 by omega) with rfl|rfl|rfl<;>rfl
 obtain rfl:k=3:=o_;apply zaw;refine AWP.frz hX 4 ?_;refine za (za (zac hX zcM rfl ?_ ?_))
 .exact⟨rfl,zye⟩
 refine za (za (zaa zcM ?_));refine zaf rfl (λhb=>?_) (λhb=>?_)
 .have hb:(zcG r != 0)=true:=hb;have hb:=bne_iff_ne.1 hb;(repeat refine za (za (zaa zcM ?_)));refine za ?_;refine zp ⟨.inr rfl,D2 ?_⟩;show(([]:List UInt8),zcG r,())=((fmtS r).1,(fmtS r).2,());unfold fmtS;rw[if_neg hb]
 have hv:zcG r=0:=by
  have:=bne_eq_false_iff_eq.1 hb;exact this
 have x1:=zmT hv;have x4:=zwA x1;have x7:=zqu x1;have x5:=zqt x1;have x6:=zhQ _ x4;obtain⟨⟨w1,w2⟩,_⟩:=zdq x1;have x2:=zwC x4 o_;apply zah;refine zak (Y':=⟨[(0,⟨.slice nd,r⟩)],[],1⟩) ⟨⟨rfl,t_⟩,t_,rfl,rfl⟩ ?_;apply zaq;refine zae ?_;refine za4 1 zcM ?_;refine zvs rfl rfl rfl rfl rfl ?_;refine zyK hX rfl rfl rfl rfl rfl rfl rfl ?_;refine AL.nilLeaf 1 1 5 u8 rfl rfl rfl ?_;refine zaI zcM ?_;have p0:(0:Int)<=((r.length:Nat):Int)-1:=o_;have p1:(((r.length:Nat):Int)-1).toNat<65:=o_;have p2:(((r.length:Nat):Int)-1).toNat<r.length:=o_;have x3:zdC 65 r (((r.length:Nat):Int)-1)=(zdj r).text:=by
  rw[<-x5];have x0:=zoz (zdq x1).2.1;rw[show(((r.length:Nat):Int)-1)=((r.length-1:Nat):Int) by omega,zhW x0 _ _ o_ o_,zhW x0 _ _ o_ o_,zkf x0 65 (r.length+1) _ o_ o_ o_]
 have p3:zi ([]:List UInt8)+zi (zdC 65 r (((r.length:Nat):Int)-1))+10000<=1000000000:=by
  rw[x3,yC];omega
 have p4:inR .i64 (((r.length:Nat):Int)-1):=zad o_ o_;refine zak (Y':=⟨[(0,⟨.slice nd,r⟩),(7,⟨.hptr,((1:Nat),(0:Nat))⟩)],[(1,some (.hbox 66 [adV 1 false,⟨.obuf u8,(2:Nat)⟩,⟨.slice nd,r⟩])),(2,some (.buf 5 u8 []))],3⟩) ⟨⟨rfl,rfl,t_⟩,⟨rfl,rfl,t_⟩,rfl,rfl⟩ ?_;refine za8 (Y':=⟨[(7,⟨.hptr,((1:Nat),(0:Nat))⟩)],[(1,some (.hbox 66 [adV 1 true,⟨.obuf u8,(2:Nat)⟩,⟨.slice nd,r⟩])),(2,some (.buf 5 u8 (zdj r).text))],3⟩) ?_ ?_
 .refine zae ?_;refine yZ 4 hX zcM zvY rfl p4 rfl rfl ⟨zyP x1,p0,p1,p2,p3⟩ hI ?_;refine yQ ?_;exact⟨⟨rfl,t_⟩,⟨rfl,(by show some (OObj.buf _ u8 ([]++zdC 65 r _))=_;rw[xH,x3]),t_⟩,rfl,rfl⟩
 have hf:fmtS r=if 4000<(zdj r).text.length then([],2) else((zdj r).text,0):=by unfold fmtS;rw[if_pos hv]
 generalize (zdj r).text=T at hf x2;refine za (za (zae ?_));refine za4 2 zcM ?_;refine kD (eqP0 _ _ rfl) hX zcM rfl t_ ?_;refine yZ 0 hX zcM zvY rfl t_ rfl rfl t_ hI ?_;refine zaI zcM ?_;refine zak (Y':=⟨[(7,⟨.hptr,((1:Nat),(0:Nat))⟩),(41,⟨.bool,decide (((T.length:Nat):Int)>4000)⟩)],[(1,some (.hbox 66 [adV 1 true,⟨.obuf u8,(2:Nat)⟩,⟨.slice nd,r⟩])),(2,some (.buf 5 u8 T))],3⟩) ⟨⟨rfl,rfl,t_⟩,⟨rfl,rfl,t_⟩,rfl,rfl⟩ ?_;refine zaf rfl (λhb=>?_) (λhb=>?_)
 .have hb:=of_decide_eq_true hb;(repeat refine za (za (zaa zcM ?_)));refine za ?_;refine zp ⟨.inr rfl,D2 ?_⟩;show(([]:List UInt8),(2:Int),())=((fmtS r).1,(fmtS r).2,());rw[hf,if_pos o_]
 .have hb:=of_decide_eq_false hb;apply zah;refine za (za (zae ?_));refine za4 2 zcM ?_;refine kD (eqP0 _ _ rfl) hX zcM rfl t_ ?_;refine AL.give hX (zlI prT rfl [66]) rfl rfl rfl rfl rfl rfl rfl rfl rfl rfl rfl rfl t_ x2 hI rfl rfl ?_;show AL _ _ _ _ _ _ _ _;refine zaI zcM ?_;refine zp ⟨.inr rfl,D2 ?_⟩;show(T,(0:Int),())=((fmtS r).1,(fmtS r).2,());rw[hf,if_neg o_]
end
section
attribute [local go_sem] Oper.semAt_some
set_option maxHeartbeats 1000000 in
theorem zjt(s:ByteArray)(c:Int)(w:zh):
  Calls zb 153 #[.string s,.int .u8 c] w λe w'=>e=.returned (.int .i64 (qQ s.data.toList c.toNat.toUInt8))/\w'=w:=by
 go_enter Tryz.func153,Tryz.ntmps153
 go_wp2
 rw[run_callFunc_extern Tryz.func179 (by kernel_rfl) (by kernel_rfl) (by kernel_rfl) (e:=fL) (by kernel_rfl),Lib.run_indexByteString];simp only[jr];rw[Oper.upon_value]
 go_wp2
 go_ret
 exact⟨rfl,rfl⟩
theorem zxw(l:List UInt8)(c:UInt8):(qQ l c= -1/\∀x∈l,x≠c)\/∃n:Nat,qQ l c=(n:Int)/\n<l.length/\(∀x∈l.take n,x≠c)/\l.drop n=c::l.drop (n+1):=by
 induction l with
 |nil=>exact .inl ⟨rfl,by simp⟩
 |cons b l ih=>
  unfold qQ;by_cases h:b=c
  .refine .inr ⟨0,by rw[if_pos (by simp[h])];rfl,by simp,by simp,by simp[h]⟩
  .rw[if_neg (by simp[h])];rcases ih with ⟨h1,h2⟩|⟨n,h1,h2,h3,h4⟩
   .refine .inl ⟨by rw[h1];rfl,λx hx=>?_⟩;rcases zs.1 hx with rfl|hx
    .exact h
    .exact h2 x hx
   .refine .inr ⟨n+1,?_,by simp;omega,λx hx=>?_,by simpa using h4⟩
    .rw[h1,if_neg (by simp)];omega
    .rw[List.take_succ_cons]at hx;rcases zs.1 hx with rfl|hx
     .exact h
     .exact h3 x hx
def segF:List UInt8->List UInt8->List (List UInt8)
 |c,[]=>[c]
 |c,x::r=>if x=10 then c::segF [] r else segF (c++[x]) r
def segs(s:List UInt8):List (List UInt8):=segF [] s
set_option maxHeartbeats 1000000 in
theorem zm2(s:ByteArray)(c:UInt8)(w:zh):
  Calls zb 127 #[.string s,.string ⟨#[c]⟩] w λe w'=>e=.returned (.int .i64 (qQ s.data.toList c))/\w'=w:=by
 go_enter Tryz.func127,Tryz.ntmps127
 go_wp2_with (go_at_call 153;refine(zjt s _ _).mono ?_;rintro e w' ⟨rfl,rfl⟩)
 .rename_i hs
  go_ret
  rw[ByteArray.toList_eq]at hs;have hs:=eq_of_beq hs;refine⟨?_,rfl⟩;rw[<-hs];show pY (.int .i64 0)=pY (.int .i64 (qQ [c] c));unfold qQ;rw[if_pos (by simp)]
 .go_ret
  exact⟨rfl,rfl⟩
set_option maxHeartbeats 1000000 in
theorem zkj(s:ByteArray)(c:UInt8)(w:zh):
  Calls zb 110 #[.string s,.string ⟨#[c]⟩] w λe w'=>e=.returned (.int .i64 (qQ s.data.toList c))/\w'=w:=by
 go_enter Tryz.func110,Tryz.ntmps110
 go_wp2_with (go_at_call 127;refine(zm2 s c _).mono ?_;rintro e w' ⟨rfl,rfl⟩)
 go_ret
 exact⟨rfl,rfl⟩
def itV(w:zh):zd:=.func (.func 108) #[] #[.pointer (some ⟨w.heap.size+1,0,none⟩),.pointer (some ⟨w.heap.size,0,none⟩),.pointer (some ⟨w.heap.size+1+1,0,none⟩)]
def itW(w:zh)(s p:ByteArray):zh:=((w.alloc (.cells #[.string s] 9)).alloc (.cells #[.string p] 9)).alloc (.cells #[.int .i64 0] 3)
set_option maxHeartbeats 1000000 in
theorem zjq(s p:ByteArray)(w:zh):Calls zb 61 #[.string s,.string p,.int .i64 0] w λe w'=>e=.returned (itV w)/\w'=itW w s p:=by
 go_enter Tryz.func61,Tryz.ntmps61
 go_wp2
 go_ret
 refine⟨?_,rfl⟩;unfold itV;simp
set_option maxHeartbeats 1000000 in
theorem zkk(s p:ByteArray)(w:zh):Calls zb 28 #[.string s,.string p] w λe w'=>e=.returned (itV w)/\w'=itW w s p:=by
 go_enter Tryz.func28,Tryz.ntmps28
 go_wp2_with (go_at_call 61;refine(zjq s p _).mono ?_;rintro e w' ⟨rfl,rfl⟩)
 go_ret
 exact⟨rfl,rfl⟩
theorem zlM(p:List UInt8)(hp:∀x∈p,x≠10)(r:List UInt8):∀(c:List UInt8),segF c (p++r)=segF (c++p) r:=by
 induction p with
 |nil=>intro c;rw[zW];rfl
 |cons x p ih=>
  intro c;rw[ja];show(if x=10 then _ else _)=_;rw[if_neg (hp x (zC ..)),ih (λy hy=>hp y (zE _ hy)),zz];rfl
theorem zqO{l:List UInt8}(h:∀x∈l,x≠10):segs l=[l]:=by
 have:=zlM l h [] [];rw[zW,xH]at this;exact this
theorem zqN{l:List UInt8}{n:Nat}(h:∀x∈l.take n,x≠10)(hd:l.drop n=10::l.drop (n+1)):segs l=l.take n::segs (l.drop (n+1)):=by
 have:=zlM (l.take n) h (l.drop n) [];rw[List.take_append_drop,xH,hd]at this;exact this.trans (if_pos rfl)
theorem zyu(l:List UInt8)(n:Nat):(pw l.toArray).extract 0 n=⟨(l.take n).toArray⟩:=by
 apply bi;rw[uj];simp
theorem zyv(l:List UInt8)(n:Nat):(pw l.toArray).extract n l.length=⟨(l.drop n).toArray⟩:=by
 apply bi;rw[uj];simp;exact List.take_of_length_le (by rw[qC];exact zj _)
def itI(gs gp gv:Nat)(g:Nat):Prop:=g=gs\/g=gp\/g=gv
noncomputable def zvU(gs:Nat)(W:zh):Nat:=match W.cell? ⟨gs,0,none⟩ with |some (.string s)=>s.size|_=>0
set_option maxHeartbeats 2000000 in
theorem zps(l gs gp gv:Nat)(s:List UInt8)(J:Nat->zh->Prop)(Jr:zh->Prop)(W:zh)(x4:gs≠gp/\gs≠gv)(hlen:s.length<=2000000)
  (hs:W.heap[gs]? =some (.cells #[.string ⟨s.toArray⟩] 9 (0,0))) (hp:W.heap[gp]? =some (.cells #[.string ⟨#[10]⟩] 9 (0,0))) (hv:W.heap[gv]? =some (.cells #[.int .i64 0] 3 (0,0)))
  (hJ:∀k A C,J k A->Kept (itI gs gp gv) A C->J k C)
  (hY:∀k y W1,J k W1->(segs s)[k]? =some y->W.heap.size<=W1.heap.size->YieldAt yD 0 zb l #[.string ⟨y.toArray⟩] W1 λe W'=>(e=.returned (.bool true)/\J (k+1) W'/\SameOn (itI gs gp gv) W.heap.size W1 W')\/(e=.returned (.bool false)/\Jr W'))
  (h0:J 0 W):
  CallsIn yD 1 zb 108 #[.func (.yield l) #[] #[],.pointer (some ⟨gp,0,none⟩),.pointer (some ⟨gs,0,none⟩),.pointer (some ⟨gv,0,none⟩)] W λe W'=>(∃v,e=.returned v)/\(J (segs s).length W'\/Jr W'):=by
 refine callsIn_of_wp Tryz.func108 rfl t_ ?_ rfl;have c1:=(za1 hp).1;have c2:=za1 hs;simp only[Tryz.ntmps108,List.size_toArray,zv,yC,Nat.reduceAdd,Nat.reduceSub,Array.replicate_succ,Array.replicate_zero,List.push_toArray,List.append_toArray,xH,ja]
 gi_wp2
 gi_loopw [7] (λp wr=>∃(pre:List (List UInt8))(rest:List UInt8),segs s=pre++segs rest/\rest.length<=s.length/\wr.heap[gs]? =some (.cells #[.string ⟨rest.toArray⟩] 9 (0,0))/\wr.heap[gp]? =some (.cells #[.string ⟨#[10]⟩] 9 (0,0))/\wr.heap[gv]? =some (.cells #[.int .i64 0] 3 (0,0))/\J pre.length wr/\W.heap.size<=wr.heap.size)
  (λp wr=>zvU gs wr)
 case atStart=>exact⟨[],s,rfl,zj _,hs,hp,hv,h0,zj _⟩
 case round=>
  obtain⟨pre,rest,x1,xd,x7,x8,x5,hj,x6⟩:=hrel;have d1:=(za1 x8).1;have d2:=za1 x7;have d3:=(za1 x5).1
  gi_wp2
  refine⟨t_,(callsIn_wide.2 (zkj _ _ _)).mono ?_⟩;rintro e w' ⟨rfl,rfl⟩;have x9:qQ (pw rest.toArray).data.toList 10=qQ rest 10:=rfl;rw[x9];rcases zxw rest 10 with ⟨h1,h2⟩|⟨n,h1,h2,h3,h4⟩
  .rw[h1];have x0:=zqO h2;rw[x0]at x1;obtain⟨fn,tmps,assign,body,hy,hR⟩:=hY pre.length rest _ hj (by rw[x1];simp) x6
   gi_wp2
   refine hR.mono ?_;rintro e W3 (⟨rfl,x3,x2⟩|⟨rfl,hp3⟩)
   .gi_wp2
    go_end0
    refine⟨⟨_,rfl⟩,.inl ?_⟩;rw[x1,zg];exact x3
   .gi_wp2
    go_end0
    exact⟨⟨_,rfl⟩,.inr hp3⟩
  .rw[h1];have x0:=zqN h3 h4;rw[x0]at x1;have xc:=o_;have hex:=zyu rest n;have xa:=zyv rest (n+1);have xb:=h2;obtain⟨fn,tmps,assign,body,hy,hR⟩:=hY pre.length (rest.take n) _ hj (by rw[x1];simp) x6
   gi_wp2
   refine hR.mono ?_;rintro e W3 (⟨rfl,x3,x2⟩|⟨rfl,hp3⟩)
   .have e1:=(x2.block gs (.inl rfl)).trans x7;have e2:=(x2.block gp (.inr (.inl rfl))).trans x8;have e3:=(x2.block gv (.inr (.inr rfl))).trans x5;have f1:=(za1 e2).1;have f2:=za1 e1
    gi_wp2
    have g1:=zfZ (.string ⟨(rest.drop (n+1)).toArray⟩) e1;refine⟨⟨pre++[rest.take n],rest.drop (n+1),by rw[x1,zz];rfl,by rw[qC];omega,g1,(qW W3 ⟨gs,0,none⟩ _ gp λe=>x4.1 e.symm).trans e2,(qW W3 ⟨gs,0,none⟩ _ gv λe=>x4.2 e.symm).trans e3,?_,?_⟩,?_⟩
    .rw[zg,xI];exact hJ _ _ _ x3 (zd1 W3 gs _ (.inl rfl))
    .exact zJ x2.size (zd1 (R:=itI gs gp gv) W3 gs _ (.inl rfl)).size
    .unfold zvU;rw[(za1 g1).1,d2.1];show(rest.drop (n+1)).toArray.size<rest.toArray.size;simp;omega
   .gi_wp2
    exact⟨rfl,_,results_none rfl _ _ _,⟨_,rfl⟩,.inr hp3⟩
theorem zhH{P:zw}{f:zV}{Q:Exit->Act->zh->Prop}{a:Act}{w:zh}{g:zB}{ps:Array Tmp}{assign body:Code}{m:Nat}
  (h:∃(l:Nat)(mark:List Deferred)(w1:zh)(d:Deferred)(x7:zh)(gf:zV)(args:Array zd)(w2:zh),
    (Instr.enterLoop f a.tmps ps assign body none).run P w=.ok (l,mark) w1/\(resolve a.eval (rangeCall g l) 0).run P w1=.ok d x7/\(invoke d.target d.args).run P x7=.ok (.enter gf args) w2/\
    CallsIn yD m P gf args w2 (λe w3=>(∃v,e=.returned v)/\∃x0 w4,(Instr.endLoop l).run P w3=.ok x0 w4/\(match x0 with
     |none=>Q .normal { a with defers:=mark++a.defers } w4
     |some c=>zgQ P f c Q { a with defers:=mark++a.defers } w4))):
  zgQ P f (.rangeFunc g ps assign body) Q a w:=by
 intro b k cs hb xb;obtain⟨l,mark,w1,d,x7,gf,args,w2,he,xa,x6,_,x5⟩:=h;rw[<-xb, <-hb]at he;have x4:=stepR_rangeFunc (P:=P) (b:=b) (a:=a) (k:=k) (cs:=cs) (w:=w) he xa x6;obtain⟨e,w3,fr,⟨⟨v,rfl⟩,x0,w4,x8,hj⟩,x2,xd,x3⟩:=x5 (b.atR { a with defers:=mark++a.defers } (.inRangeFunc l::k)::cs) (room_wide _);have x1:StepsIn (Machine.fenced P yD) P (lone (b.atR a (.code (.rangeFunc g ps assign body)::k)) cs w) (lone (b.atR { a with defers:=mark++a.defers } ((x0.map Item.code).toList++k)) cs w4):=by
  refine .head (fenced_wide P _) x4 (StepsIn.trans x2 (.head (fenced_wide P _) ?_ (.one (fenced_wide P _) (stepR_endRangeFunc x8))));rw[<-finish_atR_inRangeFunc l v];exact step_leave_returned x3
 cases x0 with
 |none=>exact⟨.normal,_,w4,hj,x1⟩
 |some c=>
  obtain⟨e',xc,w5,hq,x9⟩:=hj b k cs hb xb;exact⟨e',xc,w5,hq,.of_steps x1 x9⟩
def zwk(P:zw)(m:Nat)(gf:Nat)(lb:Array zd)(I:Nat->Prop)(ts:List (List UInt8))(w:zh):Prop:=
 ∀(l:Nat)(J:Nat->zh->Prop)(Jr:zh->Prop)(W:zh),xG w.heap.size w W->(∀k A C,J k A->Kept I A C->J k C)->
  (∀k y W1,J k W1->ts[k]? =some y->W.heap.size<=W1.heap.size->YieldAt yD (m-1) P l #[.string ⟨List.toArray y⟩] W1 λe W'=>(e=.returned (.bool true)/\J (k+1) W'/\SameOn I W.heap.size W1 W')\/(e=.returned (.bool false)/\Jr W'))->
  J 0 W->
  CallsIn yD m P gf (#[.func (.yield l) #[] #[]]++lb) W λe W'=>(∃v,e=.returned v)/\(J ts.length W'\/Jr W')
theorem zji{P:zw}{f:zV}{m:Nat}{g:zB}{p:Tmp}{assign body:Code}{Q:Exit->Act->zh->Prop}{a:Act}{w:zh}{gf:Nat}{lb:Array zd}(hg:a.eval g=.func (.func gf) #[] lb)(eg:∀args w,(callFunc gf args).run P w=.ok (.enter gf args) w)
  {I:Nat->Prop}{ts:List (List UInt8)}{w0:zh} (xb:zwk P m gf lb I ts w0) (xi:xG w0.heap.size w0 w) (hI:∀k,I k->k<w.heap.size)
  (J:Nat->zh->Prop) (Jr:zh->Prop) (N:Nat->List UInt8->Act->zh->Prop) (hJ:∀k A C,J k A->Kept (λg=>I g\/g=w.heap.size\/g=w.heap.size+1) A C->J k C) (xe:∀A C,Jr A->Kept (λg=>I g\/g=w.heap.size\/g=w.heap.size+1) A C->Jr C)
  (hN:∀k y a' A C,N k y a' A->Kept (λg=>I g\/g=w.heap.size\/g=w.heap.size+1) A C->N k y a' C) (h0:∀W1:zh,xG w.heap.size w W1->W1.heap.size=w.heap.size+2->J 0 W1)
  (x2:∀(l k:Nat)(y:List UInt8)(W:zh),J k W->ts[k]? =some y->w.heap.size+2<=W.heap.size->assign.wpIn (yD.inRound l) (m-1) P (λe a' W'=>e=.normal/\N k y a' W'/\SameOn (λg=>I g\/g=w.heap.size\/g=w.heap.size+1) (w.heap.size+2) W W') { tmps:=((#[p]:Array Tmp).zip #[(.string ⟨y.toArray⟩:zd)]).foldl (λt(p,v)=>t.setIfInBounds p v) a.tmps,defers:=[] } W)
  (x7:∀(l k:Nat)(y:List UInt8)(W:zh)(a':Act),ts[k]? =some y->w.heap.size+2<=W.heap.size->N k y a' W->
    body.wpIn (yD.inRound l) (m-1) P (λe _ W3=>((e=.normal/\J (k+1) W3)\/(e=.ret/\Jr W3))/\SameOn (λg=>I g\/g=w.heap.size\/g=w.heap.size+1) (w.heap.size+2) W W3) a' W)
  (x6:∀W:zh,J ts.length W->W.heap[w.heap.size]? =some (.deferred (some []))->Q .normal { a with defers:={ target:=.collected w.heap.size,args:=#[] }::a.defers } W)
  (xc:∀(W:zh),Jr W->W.heap[w.heap.size]? =some (.deferred (some []))->Q .ret { a with defers:={ target:=.collected w.heap.size,args:=#[] }::a.defers } W):
  zgQ P f (.rangeFunc g #[p] assign body) Q a w:=by
 obtain⟨x1,x0⟩:∃x1:LoopState->Option Code->Loop,x1=λst pe=>{ state:=st,pending:=pe,fn:=f,tmps:=a.tmps,params:=#[p],assign,body,defers:=w.heap.size }:=⟨_,rfl⟩;obtain⟨W1,x8⟩:∃W1,(w.alloc (.deferred (some []))).alloc (.loop (x1 .ready none))=W1:=⟨_,rfl⟩;have xj:W1.heap.size=w.heap.size+2:=by rw[<-x8];simp
 have xn:W1.heap[w.heap.size+1]? =some (.loop (x1 .ready none)):=by
  rw[<-x8];have:=qa (w.alloc (.deferred (some []))) (.loop (x1 .ready none));rwa[World.size_alloc]at this
 have xq:W1.heap[w.heap.size]? =some (.deferred (some [])):=by
  rw[<-x8];exact(Below.heap_alloc _ _ _ (by simp)).trans (qa w _)
 have x5:xG w.heap.size w W1:=by rw[<-x8];exact((zR _ w).alloc (zj _) _).alloc (by simp) _
 have xt:J 0 W1:=h0 _ x5 xj;have xr:xG w0.heap.size w0 W1:=xi.trans (x5.mono xi.size);refine zhH (m:=m) ⟨w.heap.size+1,[{ target:=.collected w.heap.size,args:=#[] }],W1,{ target:=.fn (.func gf) lb,args:=#[.func (.yield (w.heap.size+1)) #[] #[]] },W1,gf,
  #[.func (.yield (w.heap.size+1)) #[] #[]]++lb,W1,?_,?_,?_,?_⟩
 .rw[<-x8,x0];exact run_enterLoop_outer _ _ _ _ _
 .simp only[resolve,hg];simp[go_sem]
 .simp[invoke,go_sem,eg]
 refine(xb (w.heap.size+1) (λk W=>J k W/\W.heap[w.heap.size+1]? =some (.loop (x1 .ready none))/\W.heap[w.heap.size]? =some (.deferred (some []))) (λW=>Jr W/\W.heap[w.heap.size+1]? =some (.loop (x1 .done (some .ret)))/\W.heap[w.heap.size]? =some (.deferred (some []))) W1 xr ?_ ?_ ⟨xt,xn,xq⟩).mono ?_
 .intro k A C hs hb;have hl:=(zl.1 hs.2.1).1;have hd:=(zl.1 hs.2.2).1;exact⟨hJ k _ _ hs.1 (hb.mono λg h=>.inl h),(hb.block _ hl λh=>by have:=hI _ h;omega).trans hs.2.1,(hb.block _ hd λh=>by have:=hI _ h;omega).trans hs.2.2⟩
 .rintro k y W ⟨hj,hl,hk⟩ xh xw;have xv:w.heap.size+1<W.heap.size:=(zl.1 hl).1;have hy:=run_yield (P:=P) (args:=#[.string ⟨y.toArray⟩]) hl (by rw[x0];rfl);rw[x0]at hy;refine⟨f,_,assign,body,hy,roundIn_of_wpIn trivial ?_⟩;refine zT (x2 _ k y W hj xh o_) ?_;rintro e a2 W2 ⟨rfl,xo,x4⟩;have xg:W2.heap[w.heap.size+1]? =some (.loop (x1 .ready none)):=(x4.block _ (.inr (.inr rfl))).trans hl;have xk:W2.heap[w.heap.size]? =some (.deferred (some [])):=(x4.block _ (.inr (.inl rfl))).trans hk;have xd:=(zl.1 xg).1;refine⟨_,run_beginRound xg (by rw[x0]),?_⟩;have xp:(W2.putObj (w.heap.size+1) (.loop { x1 .ready none with state:=.busy })).heap[w.heap.size+1]? =some (.loop { x1 .ready none with state:=.busy }):=qL xd;have xm:(W2.putObj (w.heap.size+1) (.loop { x1 .ready none with state:=.busy })).heap[w.heap.size]? =some (.deferred (some [])):=(yA o_).trans xk;have xu:N k y a2 (W2.putObj (w.heap.size+1) (.loop { x1 .ready none with state:=.busy })):=hN k y a2 _ _ xo (zbq _ (.inr (.inr rfl)));have x9:=grownBy_putObj' W2 (w.heap.size+1) (.loop { x1 .ready none with state:=.busy });refine zT (x7 _ k y _ a2 xh (zJ o_ x9.size) xu) ?_;rintro e a3 W3 ⟨he,x3⟩;have xa:W3.heap[w.heap.size+1]? =some (.loop { x1 .ready none with state:=.busy }):=(x3.block _ (.inr (.inr rfl))).trans xp;have xf:=(x3.block _ (.inr (.inl rfl))).trans xm;rcases he with ⟨rfl,hj3⟩|⟨rfl,hr3⟩
  .have hr:=run_endRound (P:=P) none xa;refine⟨_,_,hr,.inl ⟨rfl,⟨hJ _ _ _ hj3 (zbq _ (.inr (.inr rfl))),?_,(yA o_).trans xf⟩,?_⟩⟩
   .rw[qL (zl.1 xa).1,x0];rfl
   .refine⟨?_,?_,?_,?_,λj hj=>?_⟩
    .exact(grownBy_putObj' W3 _ _).os.trans (x3.os.trans (x9.os.trans x4.os))
    .exact(grownBy_putObj' W3 _ _).tape.trans (x3.tape.trans (x9.tape.trans x4.tape))
    .exact(grownBy_putObj' W3 _ _).output.trans (x3.output.trans (x9.output.trans x4.output))
    .exact zJ (by rw[xj];exact x3.size) (grownBy_putObj' W3 _ _).size
    .have xx:=hI j hj;exact(yA o_).trans ((x3.block j (.inl hj)).trans ((yA o_).trans (x4.block j (.inl hj))))
  .have hr:=run_endRound (P:=P) (some .ret) xa;refine⟨_,_,hr,.inr ⟨rfl,xe _ _ hr3 (zbq _ (.inr (.inr rfl))),?_,(yA o_).trans xf⟩⟩;rw[qL (zl.1 xa).1,x0];rfl
 .rintro e W2 ⟨hv,⟨hj,hl,hk⟩|⟨hj,hl,hk⟩⟩
  .refine⟨hv,none,_,by have:=run_endLoop (P:=P) hl (by rw[x0];simp);rw[x0]at this;exact this,x6 _ (hJ _ _ _ hj (zbq _ (.inr (.inr rfl)))) ((yA o_).trans hk)⟩
  .refine⟨hv,some .ret,_,by have:=run_endLoop (P:=P) hl (by rw[x0];simp);rw[x0]at this;exact this,?_⟩;exact zco (m:=0) (wpIn_ret (xc _ (xe _ _ hj (zbq _ (.inr (.inr rfl)))) ((yA o_).trans hk)))
theorem zm0(gs gp gv:Nat)(s:List UInt8)(w:zh)(x0:gs≠gp/\gs≠gv)(hlen:s.length<=2000000)
  (hs:w.heap[gs]? =some (.cells #[.string ⟨s.toArray⟩] 9 (0,0))) (hp:w.heap[gp]? =some (.cells #[.string ⟨#[10]⟩] 9 (0,0))) (hv:w.heap[gv]? =some (.cells #[.int .i64 0] 3 (0,0))):
  zwk zb 1 108 #[.pointer (some ⟨gp,0,none⟩),.pointer (some ⟨gs,0,none⟩),.pointer (some ⟨gv,0,none⟩)] (itI gs gp gv) (segs s) w:=λl J Jr W hW hJ hY h0=>
 zps l gs gp gv s J Jr W x0 hlen ((hW.block _ (zl.1 hs).1).trans hs) ((hW.block _ (zl.1 hp).1).trans hp) ((hW.block _ (zl.1 hv).1).trans hv) hJ hY h0
end
noncomputable def zmi(s p:List UInt8):Bool:=decide (p.length<=s.length)&&eqb .str (s.take p.length) p
noncomputable def cPre:Ctr:={ args:=[.str,.str],pre:=λx=>[zi x.1<=2000000,zi x.2.1<=2000000],res:=.bool,own:=none,out:=λx=>zmi x.1 x.2.1 }
theorem zpY:yT zb gmH 62 cPre:=by
 refine ctr2 zaj Tryz.func62 Tryz.call62 ?_;rintro w0 X hX ⟨(s:List UInt8),(p:List UInt8),⟨⟩⟩ hp;obtain⟨hs,x0⟩:s.length<=2000000/\p.length<=2000000:=hp;change AWP _ _ _ _ _ ⟨[(0,⟨.str,s⟩),(1,⟨.str,p⟩)],[],0⟩ _;refine za (za (zaa zaj ?_));refine za (za ?_);refine zac hX zaj rfl ?_ ?_
 .have hd:decide (((p.length:Nat):Int)<=((s.length:Nat):Int))=true->((p.length:Nat):Int)<=((s.length:Nat):Int):=of_decide_eq_true;exact⟨λh=>h,λh=>⟨h,h,yM _,hd h⟩,λh=>⟨h,h⟩,λh=>h⟩
 refine zp ⟨.inr rfl,D1 ?_⟩;show(bif decide (((p.length:Nat):Int)<=((s.length:Nat):Int)) then eqb .str (List.take (((p.length:Nat):Int)).toNat s) p else false)=(decide (p.length<=s.length)&&eqb .str (s.take p.length) p);rw[zcA,dNat,zH]
noncomputable def kPx:Kn:={ gmK with C:=[(62,cPre)] }
theorem zvR:KnOk zb gmH kPx:=zaj.with (.cons zpY .nil)
theorem zso:yT zb gmH 29 cPre:=by
 refine ctr2 zvR Tryz.func29 Tryz.call29 ?_;rintro w0 X hX ⟨s,p,⟨⟩⟩ hp;obtain⟨hs,x0⟩:=hp
 iterate 2 (refine za (za (zaa zvR ?_)))
 exact zp ⟨.inr rfl,D1 rfl⟩
abbrev De:=List UInt8×List Nd×Unit
abbrev zq3(j:Nat):OObj:=.hbox 47 [⟨.obuf de,j⟩]
abbrev tD:zo:=47
def libE(l:List UInt8)(fr:Int)(acc:List De):Owns:=[(0,some (.hbox tD [⟨.lit,.slice none 0 0⟩])),(1,some (.box i64 (0:Int))),(2,some (.box i64 (0:Int))),(3,some (zq3 6)),(4,some (.box i64 fr)),(5,some (.box .str l)),(6,some (.buf 53 de acc))]
def kLb:Kn:={ gmK with H:=[tD] }
theorem zsc:KnOk zb gmH kLb:=⟨zeK,zdm,CsOk.nil,zcb,vp⟩
def zhK(l:List UInt8)(k:Int):Except (Int×Int) De:=(gDef l (zbL l,0) k).map λr=>(r.1,r.2.flat 0,())
theorem zp7(l:List UInt8)(k:Int):zp8 l (zbL l,0) [] k=toX id (zhK l k):=by
 unfold zp8 zhK;cases gDef l (zbL l,0) k<;>rfl
def NLib(l:List UInt8)(fr:Int)(acc:List De)(r:Except (Int×Int) Unit)(Y:AS):Prop:=(∃d,zhK l ((acc.length:Nat):Int)=.ok d/\r=.ok ()/\Fit Y ⟨[],libE l fr (acc++[d]),7⟩)\/∃er,zhK l ((acc.length:Nat):Int)=.error er/\r=.error er/\Fit Y ⟨[],libE l fr acc,7⟩
set_option maxHeartbeats 4000000 in
theorem zut{w1:zh}{X:Ownr}{l:List UInt8}{fr:Int}{acc:List De}(hl:l.length<=4000)(ha:acc.length<=1000000)(hX:X.Ok w1)(hG:X.G=gmH)(hK:X.K=6)(x5:X.ρ=none)(hD:X.D=[])(x1:∀ty,ginv w1 X.R ty):
  AWP zb w1 X Tryz.f32.ntmps (Tryz.f32.body.getD .skip) ⟨[(0,⟨.hptr,((3:Nat),(0:Nat))⟩),(1,⟨.optr .str,⟨5,.str,.here⟩⟩)],libE l fr acc,7⟩ (λe Y=>((e=.normal\/e=.ret)/\NLib l fr acc (.ok ()) Y)\/∃er,e=.panic [{ v:=pvS er,recovered:=false }]/\NLib l fr acc (.error er) Y):=by
 obtain⟨G,O,K,fix,D,ρ,B⟩:=X;obtain rfl:G=gmH:=hG;obtain rfl:=hK;obtain rfl:=x5;obtain rfl:=hD;have hI:=λty=>zaL (ty:=ty) hX rfl (x1 ty) (ty':=ty);have x2:l.length<=100000:=o_;have x3:acc.length+1<=1000000000:=o_;have x6:GOk l (zbL l,0):=by
  have:=zhY (s:=l);unfold zjx at this;rwa[zod]at this
 have x4:pOk (l,zbL l,[],0,()):=⟨x6,x2⟩;have x0:few (l,zbL l,[],0,()):=yS 0;have hx:=zp7 l ((acc.length:Nat):Int);unfold libE;refine zbF dM 9 rfl (by kernel_rfl) ?_;cases hr:zhK l ((acc.length:Nat):Int) with
 |ok d=>
  rw[hr]at hx;have hx:zp8 l (zbL l,0) [] ((acc.length:Nat):Int)=.ok d:=hx
  repeat'(first
   |exact AllN.nil
   |refine AllN.cons ⟨_,rfl,?_⟩ ?_
   |refine zX hX zsc rfl t_ ?_
   |refine StepA.fresh hX ze0 rfl rfl rfl rfl rfl rfl (by exact t_) (by exact x2) (by exact⟨rfl,rfl⟩) rfl rfl ?_
   |refine zX hX zsc rfl x3 ?_
   |refine StepA.conv (Sim.nilLeaf 7 6 46 nd rfl rfl rfl) (znZ hX zgJ rfl rfl rfl rfl rfl rfl rfl rfl rfl rfl rfl rfl (by exact t_) (by exact⟨x4,x0⟩) (by exact hI 129) rfl rfl (by exact hx) ?_)
   |(refine OrdA.last ?_;exact .inl ⟨.inl rfl,.inl ⟨d,hr,rfl,t_,⟨rfl,rfl,rfl,rfl,rfl,rfl,rfl,t_⟩,rfl,rfl⟩⟩))
 |error er=>
  rw[hr]at hx
  repeat'(first
   |exact AllN.nil
   |refine AllN.cons ⟨_,rfl,?_⟩ ?_
   |refine zX hX zsc rfl t_ ?_
   |refine StepA.fresh hX ze0 rfl rfl rfl rfl rfl rfl (by exact t_) (by exact x2) (by exact⟨rfl,rfl⟩) rfl rfl ?_
   |refine StepA.conv (Sim.nilLeaf 7 6 46 nd rfl rfl rfl) (zn0 hX zgJ rfl rfl rfl rfl rfl rfl rfl rfl rfl rfl rfl rfl (by exact t_) (by exact⟨x4,x0⟩) (by exact hI 129) rfl rfl (by exact hx) ?_)
   |exact .inr ⟨er,rfl,.inr ⟨er,hr,rfl,t_,⟨rfl,rfl,rfl,rfl,rfl,rfl,rfl,t_⟩,rfl,rfl⟩⟩)
def zmr:List De->List UInt8->List UInt8×Int
 | [],acc=>if 1048576<acc.length then([],2) else(acc,0)
 |d::r,acc=>
  if 32<d.1.length then([],2)
  else if zau d.1=0\/zau d.1<d.1.length then([],1)
  else if(fmtS d.2.1).2≠0 then([],(fmtS d.2.1).2)
  else if 4000<(d.1++[32,61,32]++(fmtS d.2.1).1).length then([],2)
  else zmr r (acc++(d.1++[32,61,32]++(fmtS d.2.1).1++[10]))
def zbr(l:List De):List UInt8×Int:=if 4096<l.length then([],2) else zmr l []
theorem zuL(r:List Nd):(fmtS r).1.length<=4000:=by
 unfold fmtS;split
 .split
  .exact zk _
  .show(zdj r).text.length<=4000;omega
 .exact zk _
section
variable {w0:zh}{X:Ownr}{n:Nat}{Q:Exit->AS->Prop}{ops:Array Oper}{F:zN}{E:Owns}{nx:Nat}
theorem zvq(hX:X.Ok w0){o:Oper}{rest:List Oper}(ho:o.op=.alloc 64)(x1:o.guard=none){d:Nat}(hd:o.dst=some d)(x2:zM d n=true)
  (h:AL zb w0 X n ops rest ⟨(d,⟨.hptr,(nx,(0:Nat))⟩)::F,(nx,some (.hbox 64 [⟨.lit,.pointer none⟩,⟨.lit,.slice none 0 0⟩]))::E,nx+1⟩ Q):AL zb w0 X n ops (o::rest) ⟨F,E,nx⟩ Q:=by
 refine AL.hand x1 (λc e=>by rw[ho]at e;cases e) λU a w hs=>?_;have x0:d<n:=by simpa using x2
 refine za5 (u:=.pointer (some ⟨w.heap.size,0,none⟩)) (w':=w.alloc (.cells #[.pointer none,.slice none 0 0] 64 (0,0))) ?_ ?_
 .unfold execOp;simp[ho,Instr.alloc,Tryz.zeroValue64,newVar,newRow,vI,go_sem]
 .rw[hd];obtain⟨U',h1⟩:=hs.make hX ((zR _ w).alloc (zj _) (.cells #[.pointer none,.slice none 0 0] 64 (0,0))) (bv:=.pointer (some ⟨w.heap.size,0,none⟩)) (o:=.hbox 64 [⟨.lit,.pointer none⟩,⟨.lit,.slice none 0 0⟩])
   (λO U' _=>⟨w.heap.size,[.pointer none,.slice none 0 0],rfl,zk _,qa w _,⟨.pointer none,[.slice none 0 0],rfl,rfl,rfl,⟨.slice none 0 0,[],rfl,rfl,rfl,rfl⟩⟩⟩) (λg hg=>by cases hg;exact zj _) (v:=⟨.hptr,(nx,(0:Nat))⟩) (u:=.pointer (some ⟨w.heap.size,0,none⟩))
   (λO U' hb=>⟨w.heap.size,by show zag (U' nx)=_;rw[show U' nx=_ from hb];rfl,rfl⟩) (zj _) x0 (λvs e v hv=>by
     cases e;rcases zs.1 hv with rfl|hv
     .exact zk _
     .rw[zt.1 hv];exact zk _)
  exact⟨_,U',h1,h⟩
end
@[reducible] def zzR:HCtr:=hBl .unit [64] [] .str (λ_ _=>[]) λx _=>.ok (x.2.1,x)
theorem zp3{R:Nat->Prop}{w w':zh}(h:xG w.heap.size w w'):Kept R w w':=⟨h.os,h.tape,h.output,h.size,λk hk _=>h.block k hk⟩
theorem zpr:zfV zb gmH 21 zzR (λx _=>.ok x.2.1):=by
 refine⟨Tryz.call21,zcy rfl,λw O g cs ty x xs vs b hO x4 hg hx x1 x2 x5 x0 hG=>?_⟩;by_cases h0:x.2.1=[]
 .obtain⟨xb,xl,⟨⟩⟩:=x;obtain rfl:=h0;have hvs:=x2;subst hvs;obtain rfl:=zt.1 x0.2;rw[zrL]at hx;obtain⟨u,r,rfl,x6,hu,hr⟩:=hx;obtain⟨v,r,rfl,x7,hv,hr⟩:=hr;subst hv;subst hr;obtain⟨cells,k1,k2,k3⟩:=x1;have k1:=zgZ k1;subst k1;have fin:∀{e:Ending}{w':zh},(e=.returned (.string ⟨#[]⟩)/\xG w.heap.size w w')->Kept (λh=>h=g\/zag v=some h) w w'/\LEnd zzR w w' O e (.ok ([]:List UInt8)):=λ{e w'}h=>⟨zp3 h.2,_,h.1,.inr λU=>⟨rfl,zk _⟩⟩;rcases k2.2 with ⟨rfl,_⟩|⟨g',cap,cur,rfl,_,hg',hnc,hcm,hcs,htake⟩
  .refine(Any.Builder_String_nil Tryz.lays169 Tryz.Builder_Extra_169 w.heap.size g u w hg).mono ?_;exact λe w' h=>fin h
  .by_cases x3:cap=0
   .subst x3;refine(Any.Builder_String_noroom Tryz.lays169 Tryz.Builder_Extra_169 w.heap.size g g' u cur w (zj _) hg hg').mono ?_;exact λe w' h=>fin h
   .refine(Any.Builder_String_room Tryz.lays169 Tryz.Builder_Extra_169 w.heap.size g g' cap u w x3 hg).mono ?_;exact λe w' h=>fin h
 .exact(zlI .unit rfl [64]).2.2 w O g cs ty x xs vs b hO x4 hg hx x1 x2 h0 x0 hG
def zDe:De:=([],[],())
def zz8:Ctr:={ args:=[.slice de],pre:=λ_=>[],res:=.tup .str (.tup i64 .unit),own:=none,out:=λx=>((zbr x.1).1,(zbr x.1).2,()) }
def kFb:Kn:={ gmK with C:=[(34,zli),(7,cFmt)] }
theorem zch:KnOk zb gmH kFb:=zaj.with (.cons zjG.lift<|.cons ziT .nil)
def hFb:List (zV×HCtr):=[(35,cWSB),(20,zqe .unit [64])]
theorem zvZ:HsOk zb gmH hFb:=.cons zpj<|.cons zxr .nil
def bdE(b:Bool)(acc:List UInt8):Owns:=[(0,some (.hbox 64 [adV 0 b,⟨.obuf u8,(1:Nat)⟩])),(1,some (.buf 5 u8 acc))]
set_option maxHeartbeats 1000000 in
theorem zst:yT zb gmH 14 zz8:=by
 refine ctr2 zch Tryz.func14 Tryz.call14 ?_;rintro w0 X hX ⟨l,_⟩ hp;refine AWP.len 0 rfl λhl=>?_;unfold maxLen at hl;have hI:∀w R,(∀g,R g->w0.heap.size<=g\/(jj gmH X).R g)->(jj gmH X).G w->bInv .unit [64] w R 64:=λw R hR hw=>⟨zaL (ty:=64) hX rfl (zj6 hX) (ty':=64) w R hR hw,zt.2 rfl⟩
 iterate 2 (refine za (za (zaa zch ?_)))
 refine zaU rfl (λhb=>?_) (λhb=>?_)
 .have hb:((l.length:Nat):Int)>4096:=hb;(repeat refine za (za (zaa zch ?_)));refine za ?_;refine zp ⟨.inr rfl,D2 ?_⟩;show(([]:List UInt8),(2:Int),())=((zbr l).1,(zbr l).2,());unfold zbr;rw[if_pos o_]
 have hb:¬(((l.length:Nat):Int)>4096):=hb;have hS:zbr l=zmr l []:=by unfold zbr;rw[if_neg o_]
 apply zah;apply zaq;refine zae ?_;refine zvq hX rfl rfl rfl rfl ?_;refine AL.nilLeaf 0 1 5 u8 rfl rfl rfl ?_;refine yQ ?_;refine za (za (zaa zch ?_));refine za (za ?_);refine xP (ι:=Nat×List UInt8) (λp=>⟨[(0,⟨.slice de,l⟩),(4,⟨.hptr,((0:Nat),(0:Nat))⟩),(14,⟨.slice de,l⟩),(15,⟨i64,((l.length:Nat):Int)⟩),(16,⟨i64,(p.1:Int)⟩)],bdE (decide (0<p.1)) p.2,2⟩) (λp=>p.1<=l.length/\zbr l=zmr (l.drop p.1) p.2/\p.2.length<=4001*p.1) (λp=>l.length-p.1) (0,[]) ⟨zk _,hS,zk _⟩ ⟨⟨rfl,rfl,rfl,rfl,rfl,t_⟩,⟨rfl,rfl,t_⟩,rfl,rfl⟩ ?_;rintro ⟨i,acc⟩ ⟨hi,hR,x2⟩;have hR:zbr l=zmr (l.drop i) acc:=hR;have x2:acc.length<=4001*i:=x2;unfold bdE;refine za (za (zaa zch ?_));apply zaq;refine zaf rfl (λhb=>?_) (λhb=>?_)
 .have x0:decide ((i:Int)<(l.length:Nat))=true:=hb;have x0:=of_decide_eq_true x0;have x1:i<l.length:=o_;have z0:(0:Int)<=(i:Int):=o_;have x3:l.getD (i:Int).toNat zDe=l[i]:=zaY x1;rw[List.drop_eq_getElem_cons x1,zmr, <-x3]at hR;generalize x5:decide (0<i)=b;refine za (za (zaa zch ?_));generalize hD:l.getD (i:Int).toNat zDe=D at *;obtain⟨(nm:List UInt8),(rl:List Nd),⟨⟩⟩:=D;refine zak (Y':=⟨[(0,⟨.slice de,l⟩),(4,⟨.hptr,((0:Nat),(0:Nat))⟩),(14,⟨.slice de,l⟩),(15,⟨i64,((l.length:Nat):Int)⟩),(16,⟨i64,(i:Int)⟩),(6,⟨.optr de,⟨2,de,.here⟩⟩)],(2,some (.box de (nm,rl,())))::bdE b acc,3⟩) ⟨⟨rfl,rfl,rfl,rfl,rfl,rfl,t_⟩,⟨zgM hD,rfl,rfl,t_⟩,rfl,by cases b<;>rfl⟩ ?_;have hR:zbr l=if 32<nm.length then([],2) else if zau nm=0\/zau nm<nm.length then([],1) else if(fmtS rl).2≠0 then([],(fmtS rl).2) else if 4000<(nm++[32,61,32]++(fmtS rl).1).length then([],2) else zmr (l.drop (i+1)) (acc++(nm++[32,61,32]++(fmtS rl).1++[10])):=hR
  unfold bdE
  iterate 2 (refine za (za (zaa zch ?_)))
  refine zaU rfl (λhc=>?_) (λhc=>?_)
  .have hc:((nm.length:Nat):Int)>32:=hc;(repeat refine za (za (zaa zch ?_)));refine za ?_;refine zp ⟨.inr rfl,D2 ?_⟩;show(([]:List UInt8),(2:Int),())=((zbr l).1,(zbr l).2,());rw[hR,if_pos o_]
  have hc:¬(((nm.length:Nat):Int)>32):=hc;refine za (za (zaa zch ?_));have hq:(bif ((zau nm:Nat):Int)==0 then true else decide (((zau nm:Nat):Int)<((nm.length:Nat):Int)))=decide (zau nm=0\/zau nm<nm.length):=by
   rw[b_or,zY,Bool.or_eq_true,decide_eq_true_iff,decide_eq_true_iff,beq_iff_eq];omega
  refine zaf rfl (λhd=>?_) (λhd=>?_)
  .have hd:=hq.symm.trans hd;have hd:=of_decide_eq_true hd;(repeat refine za (za (zaa zch ?_)));refine za ?_;refine zp ⟨.inr rfl,D2 ?_⟩;show(([]:List UInt8),(1:Int),())=((zbr l).1,(zbr l).2,());rw[hR,if_neg o_,if_pos hd]
  have hd:=hq.symm.trans hd;have hd:=of_decide_eq_false hd;apply zah;refine za (za (zaa zch ?_));refine zak (Y':=⟨[(0,⟨.slice de,l⟩),(4,⟨.hptr,((0:Nat),(0:Nat))⟩),(14,⟨.slice de,l⟩),(15,⟨i64,((l.length:Nat):Int)⟩),(16,⟨i64,(i:Int)⟩),(6,⟨.optr de,⟨2,de,.here⟩⟩),(8,⟨.str,(fmtS rl).1⟩),(9,⟨i64,(fmtS rl).2⟩)],(2,some (.box de (nm,rl,())))::bdE b acc,3⟩) ⟨⟨rfl,rfl,rfl,rfl,rfl,rfl,rfl,rfl,t_⟩,⟨rfl,rfl,rfl,t_⟩,rfl,by cases b<;>rfl⟩ ?_;have x4:=zuL rl;generalize (fmtS rl).1=T at *;generalize (fmtS rl).2=ec at *;unfold bdE;refine za (za (zaa zch ?_));refine zaf rfl (λhe=>?_) (λhe=>?_)
  .have he:(ec != 0)=true:=he;have he:=bne_iff_ne.1 he;(repeat refine za (za (zaa zch ?_)));refine za ?_;refine zp ⟨.inr rfl,D2 ?_⟩;show(([]:List UInt8),ec,())=((zbr l).1,(zbr l).2,());rw[hR,if_neg o_,if_neg hd,if_pos he]
  have he:(ec != 0)=false:=he;have he:¬ec≠0:=λh=>by rw[bne_iff_ne.2 h]at he;cases he
  apply zah;have t1:nm.length+3<=maxLen:=by unfold maxLen;omega
  have t2:zi (nm++[32,61,32]:List UInt8)+T.length<=maxLen:=by rw[zg];show nm.length+3+_<=_;unfold maxLen;omega
  have t3:(nm++[32,61,32]++T:List UInt8).length=nm.length+3+T.length:=by rw[zg,zg];rfl
  refine za (za (zaa zch ?_));refine zak (Y':=⟨[(0,⟨.slice de,l⟩),(4,⟨.hptr,((0:Nat),(0:Nat))⟩),(14,⟨.slice de,l⟩),(15,⟨i64,((l.length:Nat):Int)⟩),(16,⟨i64,(i:Int)⟩),(10,⟨.str,nm++[32,61,32]++T⟩)],bdE b acc,3⟩) ⟨⟨rfl,rfl,rfl,rfl,rfl,rfl,t_⟩,⟨rfl,rfl,t_⟩,rfl,by cases b<;>rfl⟩ ?_;generalize (nm++[32,61,32]++T:List UInt8)=L at hR t3;unfold bdE;refine za (za (zaa zch ?_));refine zaU rfl (λhf=>?_) (λhf=>?_)
  .have hf:((L.length:Nat):Int)>4000:=hf;(repeat refine za (za (zaa zch ?_)));refine za ?_;refine zp ⟨.inr rfl,D2 ?_⟩;show(([]:List UInt8),(2:Int),())=((zbr l).1,(zbr l).2,());rw[hR,if_neg o_,if_neg hd,if_neg he,if_pos o_]
  have hf:¬(((L.length:Nat):Int)>4000):=hf;rw[if_neg o_,if_neg hd,if_neg he,if_neg o_]at hR;apply zah;have x6:(L++[10]:List UInt8).length=L.length+1:=by rw[zg];rfl
  have t4:L.length+1<=maxLen:=by unfold maxLen;omega
  have t5:acc.length+zi (L++[10]:List UInt8)<=1000000000:=o_;cases b
  all_goals
   refine za (za (zae ?_));refine yZ 2 hX zch zvZ rfl t4 rfl rfl t5 hI ?_;refine yQ ?_;refine zak (Y':=⟨[(0,⟨.slice de,l⟩),(4,⟨.hptr,((0:Nat),(0:Nat))⟩),(14,⟨.slice de,l⟩),(15,⟨i64,((l.length:Nat):Int)⟩),(16,⟨i64,(i:Int)⟩)],[(0,some (.hbox 64 [adV 0 true,⟨.obuf u8,(1:Nat)⟩])),(1,some (.buf 5 u8 (acc++(L++[10]))))],3⟩) ⟨⟨rfl,rfl,rfl,rfl,rfl,t_⟩,⟨rfl,rfl,t_⟩,rfl,rfl⟩ ?_;refine za (za ?_);refine zac hX zch rfl ?_ ?_
   .exact zbb o_
   refine⟨(i+1,acc++(L++[10])),⟨x1,hR,?_⟩,by show l.length-(i+1)<l.length-i;omega,⟨rfl,rfl,rfl,rfl,zdU _,t_⟩,⟨?_,rfl,t_⟩,rfl,?_⟩
   .show zi (acc++(L++[10]):List UInt8)<=4001*(i+1);rw[zg];omega
   .rw[show decide (0<(i+1,acc++(L++[10])).1)=true from decide_eq_true (Nat.succ_pos _)];rfl
   .rw[show decide (0<(i+1,acc++(L++[10])).1)=true from decide_eq_true (Nat.succ_pos _)];rfl
 .have x0:decide ((i:Int)<(l.length:Nat))=false:=hb;have x0:=of_decide_eq_false x0;obtain rfl:i=l.length:=o_;rw[List.drop_length,zmr]at hR;generalize decide (0<l.length)=b;apply zaw;refine zak (Y':=⟨[(4,⟨.hptr,((0:Nat),(0:Nat))⟩)],bdE b acc,2⟩) ⟨⟨rfl,t_⟩,⟨rfl,rfl,t_⟩,rfl,by cases b<;>rfl⟩ ?_;unfold bdE;cases b
  all_goals
   refine za (za (zae ?_));refine yZ 0 hX zch zvZ rfl t_ rfl rfl t_ hI ?_;refine zaI zch ?_;refine zaU rfl (λhc=>?_) (λhc=>?_)
   .have hc:((acc.length:Nat):Int)>1048576:=hc;(repeat refine za (za (zaa zch ?_)));refine za ?_;refine zp ⟨.inr rfl,D2 ?_⟩;show(([]:List UInt8),(2:Int),())=((zbr l).1,(zbr l).2,());rw[hR,if_pos o_]
   .have hc:¬(((acc.length:Nat):Int)>1048576):=hc;apply zah;refine za (za (zae ?_));refine AL.give hX zpr rfl rfl rfl rfl rfl rfl rfl rfl rfl rfl rfl rfl t_ trivial hI rfl rfl ?_;show AL _ _ _ _ _ _ _ _;refine zaI zch ?_;refine zp ⟨.inr rfl,D2 ?_⟩;show(acc,(0:Int),())=((zbr l).1,(zbr l).2,());rw[hR,if_neg o_]
noncomputable def eqN(a b:Nd):Bool:=eqb nd a b
theorem znE{a b:Nd}:eqN a b=true↔a=b:=zbs
theorem ziX{a b:Nd}:eqN a b=false↔a≠b:=by rw[<-Bool.not_eq_true,znE]
noncomputable def zv8:Ctr:={ args:=[nd,nd],pre:=λ_=>[],res:=.bool,own:=none,out:=λx=>eqN x.1 x.2.1 }
theorem zzM(x y:List UInt8):(!eqb .str x y)= !decide (x=y):=by rw[zek]
end Go.Proofs.YthbecdbmifchiaaGreatDoor
