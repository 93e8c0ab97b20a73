/-
  Texts of this claim, joined: what the statement's proof uses.
-/
import Derived.WalkKit
import Derived.WalkSpells
import Derived.WalkLawsBesides
import Derived.Lib.Hide
import Derived.Laws.OwnMore
import Derived.Laws.Rows
import Derived.RegionTactic
import Derived.OwnWalk
import Derived.Orders
import Derived.StillTail
import Derived.Laws.AppendOwn
import Derived.Deep.MidRow
import Derived.Laws.BytesArg
import Derived.Laws.IdiomStrings
import Derived.Laws.StructEq
import Derived.ChangeKeysEq
import Derived.Laws.IdiomCopy
import Derived.Great.BuildSlice
import Derived.Laws.AppendOwnNone
import Derived.Laws.MakeOwn
import Derived.Scope
import Derived.RangeFuncKeeps
import Derived.RangeFuncCalls
import Derived.LoopNIn
import Derived.OrdersIn
import Derived.OwnWalkIn
import Derived.RangeFuncLeaves
import Derived.Laws.CopyOwn
import Derived.ProofKit
import Derived.OpenShut
import Derived.Carry
import Derived.ChangeSame
import Derived.Deep.DeepHandedRow
import Derived.Lib.LaidTab
import Derived.Lib.AppendStr
import Derived.RangeFuncBound
import Derived.KernelRfl
import Derived.Test.YtdjjmoenpjlfeaaGreatDoorProg
import Derived.Test.YtdjjmoenpjlfeaaGreatDoorCards
import Derived.Test.YtdjjmoenpjlfeaaGreatDoorTie
import Derived.LaidSub
import Derived.Lib.LaidIn
import Derived.Shelf.Strings.BuilderK
import Derived.Shelf.Strconv.Itoa4
import Derived.Shelf.Strings.Search3
import Derived.Laws.RangeAny
import Derived.LoopTactic
import Derived.StillTailTactics
import Derived.RecoverIn
set_option linter.unusedSimpArgs false
set_option linter.unusedVariables false
set_option maxRecDepth 100000
open Array renaming getD_eq_getD_getElem? -> yA,getElem?_eq_some_iff -> zv,getElem?_modify -> ve,getElem?_setIfInBounds -> qz,length_toList -> jz,range -> gp,replicate -> zG,toList_inj -> vj,toList_map -> kr
open BitVec renaming eq_of_toNat_eq -> vd,ofInt -> zV,ofInt_natCast -> jH,ofNat -> zW,toNat -> qv,toNat_inj -> wT,toNat_ofNat -> xA
open Bool renaming and_eq_true -> zh,and_eq_true_iff -> gr,false_eq_true -> xZ,not_eq_true' -> xJ,not_false -> wo,not_true -> kO
open ByteArray renaming extract -> fi,size -> vL
open Decidable renaming not_not -> fp
open Go renaming BinOp -> kT,Field -> uV,FuncId -> yR,IntKind -> qo,Operand -> zK,Program -> zA,TypeId -> zy,Value -> zi,World -> zj,binOp -> xS,convert -> uL,sizeOf -> vU
open Go.Addr renaming add_mid -> qe
open Go.Builtin renaming append_ -> vW,firstCells -> wu,lenOf -> gU,len_ -> uD,max_ -> fk,min_ -> fj
open Go.ByteArray renaming toList_eq -> kl
open Go.Call renaming operands -> wN
open Go.Conv renaming stringToBytes -> gZ
open Go.Instr renaming buildSlice -> uM,field -> fL,fieldAt -> gS,fill -> wr,index -> wJ,indexAt -> kP,loadAt -> qL,slice -> fM,sliceAt -> jP,sliceBound -> fC,sliceBounds -> vw,storeAt -> qO,sureAddr -> qa
open Go.IntKind renaming bits -> qM,i64 -> qV,max -> uW,min -> wG,signed -> jA,wrap -> v8
open Go.Next renaming value -> uN
open Go.Obj renaming cells -> jh
open Go.Op renaming bytesLess -> gd,eqFields -> wI,equal -> fh,intArith -> vG,intBits -> vA,intDiv -> wm,maxDepth -> go,operands -> xT,shift -> wS,stringOp -> uA,unary -> fg
open Go.Oper renaming wp -> jV
open Go.Program renaming built -> gT,fieldsOf -> fB
open Go.Question renaming cut -> f8
open Go.Region renaming wanted -> zX
open Go.Result renaming andThen_ok -> zD
open Go.RowKit renaming Below -> xW
open Go.RowKit.Below renaming refl -> zY
open Go.Sem renaming run_bind -> zJ,run_pure -> zI
open Go.Value renaming bool -> kh,int -> qD,oneCell' -> je
open Go.World renaming cell? -> qd,freeze -> gg,ownsRow_nil -> fq
open Int renaming ediv_eq_zero_of_lt -> kx,emod_eq_of_lt -> jR,fdiv_eq_ediv_of_nonneg -> kZ,le_of_lt -> gc,mul_emod_left -> ff,mul_emod_right -> gY,natCast_ediv -> wR,natCast_inj -> wb,not_lt -> kw,pow_pos -> wH,tdiv_eq_ediv_of_nonneg -> wn,toNat_natCast -> zS
open List renaming append_assoc -> zB,append_nil -> yE,drop_drop -> jq,drop_eq_getElem_cons -> xR,drop_eq_nil_of_le -> qp,drop_left -> jC,drop_length_add_append -> jj,drop_take -> ko,eq_nil_of_length_eq_zero -> xC,extract_eq_take_drop -> wF,flatten_append -> qb,flatten_nil -> fD,foldlM_cons -> fE,getD -> zx,getElem?_append -> ka,getElem?_eq_getElem -> zR,getElem?_eq_some_iff -> xB,getElem?_map -> yB,getElem?_take -> yM,length -> zp,length_append -> zl,length_cons -> yT,length_take -> zP,mem_append -> yJ,mem_cons -> zE,mem_cons_self -> yN,mem_map -> jo,mem_of_getElem? -> ja,mem_of_mem_drop -> gq,mem_singleton -> zQ,range -> xQ,replicate -> zg,set -> wq,size_toArray -> jS,take -> jK,take_append -> uO,take_append_drop -> qx,take_left -> qQ,take_length_add_append -> kS,take_of_length_le -> qS,take_take -> qZ,toArray -> xU
open List.cons renaming inj -> kg,injEq -> gk
open Nat renaming add_assoc -> vk,add_mul -> jE,add_zero -> jT,beq -> yG,beq_eq -> qE,ble -> xM,ble_eq -> vz,blt -> zO,eq_of_beq_eq_true -> xL,le_mul_of_pos_right -> wU,le_refl -> zu,le_total -> gb,le_trans -> zL,lt_of_le_of_lt -> gX,lt_of_lt_of_le -> zF,min_eq_left -> qm,min_eq_right -> jI,mod_eq_of_lt -> qg,mul_le_mul -> wt,mul_le_mul_right -> jJ,one_mul -> wK,pow_le_pow_right -> jG,shiftRight_eq_div_pow -> jb,zero_add -> xV,zero_le -> zk
open Ne renaming symm -> xI
open Option renaming bind_eq_some_iff -> vy,isSome_none -> jp,map_eq_some_iff -> yC,map_some -> fS
open Option.some renaming injEq -> qI
open Prod.mk renaming injEq -> yL
open UInt8 renaming ofNat -> zM,toNat -> vZ,toNat_lt -> vK,toNat_ofNat' -> jd
open UInt8.toNat renaming inj -> fR
open Go Go.RowKit
namespace Go.Proofs.YtdjjmoenpjlfeaaGreatDoor
theorem o_{P:Prop}(h:P:=by omega):P:=h
theorem d_{P:Prop}(h:P:=by decide):P:=h
theorem t_:True:=True.intro
theorem k_{P:Prop}(h:P:=by exact⟨_,rfl,λF=>⟨_,rfl,trivial,rfl,λ_=>rfl,rfl⟩⟩):P:=h
@[reducible] def IntT:qo->Type
 |.u8=>UInt8
 |.u16=>BitVec 16
 |.u32=>BitVec 32
 |.u64=>BitVec 64
 |_=>Int
def encI:(k:qo)->IntT k->Int
 |.u8,x=>((vZ x:Nat):Int)
 |.u16,x=>((qv (w:=16) x:Nat):Int)
 |.u32,x=>((qv (w:=32) x:Nat):Int)
 |.u64,x=>((qv (w:=64) x:Nat):Int)
 |.i8,x=>x
 |.i16,x=>x
 |.i32,x=>x
 |.i64,x=>x
def decI:(k:qo)->Int->IntT k
 |.u8,n=>zM n.toNat
 |.u16,n=>zV 16 n
 |.u32,n=>zV 32 n
 |.u64,n=>zV 64 n
 |.i8,n=>n
 |.i16,n=>n
 |.i32,n=>n
 |.i64,n=>n
inductive Ty where
 |bool
 |int (k:qo)
 |str
 |unit
 |pair (a b:Ty)
 |arr (n:Nat) (t:Ty)
 |slice (t:Ty)
 |junk
 |lit
 |vptr (t:Ty)
 |optr (t:Ty)
 |obuf (t:Ty)
 |tup (a b:Ty)
 |cond (t:Ty)
 |clo (f:Nat) (t:Ty)
 |mapL
 |hptr
 |hcons (a b:Ty)
 |cptr (g off:Nat) (t:Ty)
 |nils
inductive Path:Ty->Ty->Type where
 |here {r:Ty}:Path r r
 |fst {r a b:Ty} (p:Path r (.pair a b)):Path r a
 |snd {r a b:Ty} (p:Path r (.pair a b)):Path r b
 |idx {r t:Ty}{n:Nat} (p:Path r (.arr n t)) (k:Nat):Path r t
 |elm {t:Ty} (k:Nat):Path (.slice t) t
structure OPtr(t:Ty)where
 i:Nat
 root:Ty
 p:Path root t
@[reducible] def Ty.T:Ty->Type
 |.bool=>Bool
 |.int k=>IntT k
 |.str=>List UInt8
 |.unit=>Unit
 |.pair a b=>a.T×b.T
 |.arr _ t=>List t.T
 |.slice t=>List t.T
 |.junk=>Unit
 |.lit=>zi
 |.vptr t=>t.T
 |.optr t=>OPtr t
 |.obuf _=>Nat
 |.tup a b=>a.T×b.T
 |.cond t=>Bool×t.T
 |.clo _ t=>t.T
 |.mapL=>List (zi×zi)
 |.hptr=>Nat×Nat
 |.hcons a b=>a.T×b.T
 |.cptr _ _ t=>t.T
 |.nils=>Unit
def Ty.size:Ty->Nat
 |.bool|.int _|.str|.slice _|.nils=>1
 |.pair a b=>a.size+b.size
 |.arr n t=>n*t.size
 |_=>0
def Ty.isAgg:Ty->Bool
 |.unit|.pair _ _|.arr _ _=>true
 |_=>false
def Ty.beq:Ty->Ty->Bool
 |.bool,.bool=>true
 |.int k,.int l=>decide (k=l)
 |.str,.str=>true
 |.nils,.nils=>true
 |.unit,.unit=>true
 |.pair a b,.pair c d=>a.beq c&&b.beq d
 |.arr n a,.arr m b=>yG n m&&a.beq b
 |.slice a,.slice b=>a.beq b
 |.vptr a,.vptr b=>a.beq b
 |.tup a b,.tup c d=>a.beq c&&b.beq d
 |.clo f a,.clo g b=>yG f g&&a.beq b
 |.mapL,.mapL=>true
 |.lit,.lit=>true
 |_,_=>false
theorem Ty.beq_eq:∀{a b:Ty},a.beq b=true->a=b:=by
 intro a
 induction a with
 |pair a b x0 x1=>intro c h;cases c<;>simp_all [Ty.beq];exact⟨x0 h.1,x1 h.2⟩
 |arr n a ih=>intro c h;cases c<;>simp_all [Ty.beq];exact ih h.2
 |slice a ih=>intro c h;cases c<;>simp_all [Ty.beq];exact ih h
 |vptr a ih=>intro c h;cases c<;>simp_all [Ty.beq];exact ih h
 |tup a b x0 x1=>intro c h;cases c<;>simp_all [Ty.beq];exact⟨x0 h.1,x1 h.2⟩
 |clo f a ih=>intro c h;cases c<;>simp_all [Ty.beq];exact ih h.2
 |_=>intro c h;cases c<;>simp_all [Ty.beq]
structure V where
 t:Ty
 x:t.T
def RepL{α:Type}(R:α->List zi->Prop):List α->List zi->Prop
 | [],cs=>cs=[]
 |x::xs,cs=>∃c1 c2,cs=c1++c2/\R x c1/\RepL R xs c2
def CellsAt(w:zj)(g off:Nat)(vs:List zi):Prop:=∀j u,vs[j]? =some u->w.cell? ⟨g,off+j,none⟩=some u
def RepS{α:Type}(w:zj)(O:Nat->Prop)(R:α->List zi->Prop)(xs:List α)(v:zi):Prop:=
 (xs=[]/\∃A c,v=.slice A 0 c/\c<=maxLen)\/
 (∃g off c vs,v=.slice (some ⟨g,off,none⟩) xs.length c/\xs≠ []/\xs.length<=c/\c<=maxLen/\g<w.heap.size/\¬O g/\RepL R xs vs/\CellsAt w g off vs)
def RepC(w:zj)(O:Nat->Prop):(t:Ty)->t.T->List zi->Prop
 |.bool,b,cs=>cs=[.bool b]
 |.int k,x,cs=>cs=[.int k (encI k x)]
 |.str,l,cs=>cs=[.string ⟨xU l⟩]/\zp l<=maxLen
 |.unit,_,cs=>cs=[]
 |.pair a b,x,cs=>∃c1 c2,cs=c1++c2/\RepC w O a x.1 c1/\RepC w O b x.2 c2
 |.arr n t,xs,cs=>zp xs=n/\RepL (RepC w O t) xs cs
 |.slice t,xs,cs=>∃v,cs=[v]/\RepS w O (RepC w O t) xs v
 |.nils,_,cs=>cs=[.slice none 0 0]
 |_,_,_=>False
def RepD(w:zj)(O:Nat->Prop)(t:Ty)(x:t.T)(v:zi):Prop:=
 if t.isAgg then ∃cs,v=.agg cs.toArray/\RepC w O t x cs else RepC w O t x [v]
def RepTup(w:zj)(O:Nat->Prop):(t:Ty)->t.T->List zi->Prop
 |.tup a b,x,vs=>∃v r,vs=v::r/\RepD w O a x.1 v/\RepTup w O b x.2 r
 |.unit,_,vs=>vs=[]
 |_,_,_=>False
def zai:zi->Option Nat
 |.pointer (some a)=>some a.block
 |.slice (some a) _ _=>some a.block
 |_=>none
def Path.off:{r t:Ty}->Path r t->Nat
 |_,_,.here=>0
 |_,_,.fst p=>p.off
 |_,_,.snd (a:=a) p=>p.off+a.size
 |_,_,.idx (t:=t) p k=>p.off+k*t.size
 |_,_,.elm (t:=t) k=>k*t.size
def RepP(w:zj)(O:Nat->Prop):(t:Ty)->t.T->zi->Prop
 |.vptr t,x,v=>∃g off cs,v=.pointer (some ⟨g,off,none⟩)/\g<w.heap.size/\¬O g/\RepC w O t x cs/\CellsAt w g off cs
 |_,_,_=>False
def RepCap(w:zj)(O:Nat->Prop):(t:Ty)->t.T->List zi->Prop
 |.tup a b,x,vs=>∃v r,vs=v::r/\RepP w O a x.1 v/\RepCap w O b x.2 r
 |.unit,_,vs=>vs=[]
 |_,_,_=>False
def RepV(w:zj)(O:Nat->Prop)(U:Nat->zi):(t:Ty)->t.T->zi->Prop
 |.junk,_,_=>True
 |.lit,x,v=>v=x
 |.vptr t,x,v=>∃g off cs,v=.pointer (some ⟨g,off,none⟩)/\g<w.heap.size/\¬O g/\RepC w O t x cs/\CellsAt w g off cs
 |.optr _,p,v=>∃g,zai (U p.i)=some g/\v=.pointer (some ⟨g,p.p.off,none⟩)
 |.obuf _,i,v=>v=U i
 |.tup a b,x,v=>∃vs,v=.tuple vs.toArray/\RepTup w O (.tup a b) x vs
 |.cond t,x,v=>(x.1=true->RepV w O U t x.2 v)/\(x.1=false->v=undef)
 |.clo f t,x,v=>∃vs,v=.func (.func f) #[] (xU vs)/\RepCap w O t x vs
 |.mapL,es,v=>∃r ms clock,v=.map (some r)/\r<w.heap.size/\¬O r/\w.heap[r]? =some (.map ms clock)/\(Array.toList ms).map (λe=>(e.key,e.val))=es
 |.hptr,x,v=>∃g,zai (U x.1)=some g/\v=.pointer (some ⟨g,x.2,none⟩)
 |.hcons a b,x,v=>∃u s,v=.agg (xU (u::s))/\u.oneCell'=true/\RepV w O U a x.1 u/\RepV w O U b x.2 (.agg (xU s))
 |.cptr g off t,x,v=>∃cs,v=.pointer (some ⟨g,off,none⟩)/\g<w.heap.size/\¬O g/\RepC w O t x cs/\CellsAt w g off cs
 |.bool,x,v=>RepD w O .bool x v
 |.int k,x,v=>RepD w O (.int k) x v
 |.str,x,v=>RepD w O .str x v
 |.unit,x,v=>RepD w O .unit x v
 |.pair a b,x,v=>RepD w O (.pair a b) x v
 |.arr n t,x,v=>RepD w O (.arr n t) x v
 |.slice t,x,v=>RepD w O (.slice t) x v
 |.nils,x,v=>RepD w O .nils x v
section repl
variable {α:Type}{R R':α->List zi->Prop}{xs ys:List α}{cs ds:List zi}
theorem RepL.mono(h:RepL R xs cs)(hr:∀x,x∈xs->∀c,R x c->R' x c):RepL R' xs cs:=by
 induction xs generalizing cs with
 |nil=>exact h
 |cons x xs ih=>
  obtain⟨c1,c2,h1,h2,h3⟩:=h;exact⟨c1,c2,h1,hr _ (by simp) _ h2,ih h3 λy hy=>hr y (by simp[hy])⟩
theorem RepL.len{s:Nat}(h:RepL R xs cs)(hs:∀x c,R x c->c.length=s):cs.length=xs.length*s:=by
 induction xs generalizing cs with
 |nil=>cases h;simp
 |cons x xs ih=>
  obtain⟨c1,c2,rfl,h2,h3⟩:=h;simp[hs _ _ h2,ih h3,jE,Nat.add_comm]
theorem RepL.all{p:zi->Prop}(h:RepL R xs cs)(hs:∀x c,R x c->∀u∈c,p u):∀u∈cs,p u:=by
 induction xs generalizing cs with
 |nil=>cases h;simp
 |cons x xs ih=>
  obtain⟨c1,c2,rfl,h2,h3⟩:=h;intro u hu;rcases yJ.1 hu with hu|hu
  .exact hs _ _ h2 u hu
  .exact ih h3 u hu
theorem RepL.append(h:RepL R xs cs)(h':RepL R ys ds):RepL R (xs++ys) (cs++ds):=by
 induction xs generalizing cs with
 |nil=>cases h;simpa using h'
 |cons x xs ih=>
  obtain⟨c1,c2,rfl,h2,h3⟩:=h;exact⟨c1,c2++ds,by simp,h2,ih h3⟩
theorem RepL.nth{s i:Nat}{x:α}(h:RepL R xs cs)(hs:∀x c,R x c->c.length=s)(hx:xs[i]? =some x):R x ((cs.drop (i*s)).take s):=by
 induction xs generalizing cs i with
 |nil=>simp at hx
 |cons y ys ih=>
  obtain⟨c1,c2,rfl,h2,h3⟩:=h;have hl:=hs _ _ h2;cases i with
  |zero=>
   simp at hx;subst hx;simp[<-hl,h2]
  |succ i=>
   have:=ih h3 (by simpa using hx);rw[show(i+1)*s=c1.length+i*s by rw[hl,jE];omega];rw[jj];exact this
theorem RepL.drop{s:Nat}(h:RepL R xs cs)(hs:∀x c,R x c->c.length=s)(i:Nat):RepL R (xs.drop i) (cs.drop (i*s)):=by
 induction xs generalizing cs i with
 |nil=>cases h;simp[RepL]
 |cons y ys ih=>
  cases i with
  |zero=>simpa using h
  |succ i=>
   obtain⟨c1,c2,rfl,h2,h3⟩:=h;have hl:=hs _ _ h2;rw[show(i+1)*s=c1.length+i*s by rw[hl,jE];omega];rw[jj];exact ih h3 i
theorem RepL.take{s:Nat}(h:RepL R xs cs)(hs:∀x c,R x c->c.length=s)(i:Nat):RepL R (xs.take i) (cs.take (i*s)):=by
 induction xs generalizing cs i with
 |nil=>cases h;simp[RepL]
 |cons y ys ih=>
  cases i with
  |zero=>simp[RepL]
  |succ i=>
   obtain⟨c1,c2,rfl,h2,h3⟩:=h;have hl:=hs _ _ h2;rw[show(i+1)*s=c1.length+i*s by rw[hl,jE];omega,kS];exact⟨c1,_,rfl,h2,ih h3 i⟩
theorem RepL.set{s i:Nat}{x:α}{c:List zi}(h:RepL R xs cs)(hs:∀x c,R x c->c.length=s)(hi:i<xs.length)(hx:R x c):RepL R (xs.set i x) (cs.take (i*s)++c++cs.drop (i*s+s)):=by
 induction xs generalizing cs i with
 |nil=>simp at hi
 |cons y ys ih=>
  obtain⟨c1,c2,rfl,h2,h3⟩:=h;have hl:=hs _ _ h2;cases i with
  |zero=>exact⟨c,c2,by simp[<-hl],hx,h3⟩
  |succ i=>
   refine⟨c1,_,?_,h2,ih h3 (by simpa using hi)⟩;rw[show(i+1)*s=c1.length+i*s by rw[hl,jE];omega,kS,vk,jj];simp
end repl
section
variable {w w':zj}{O O':Nat->Prop}{U:Nat->zi}
theorem CellsAt.keep{g off:Nat}{vs:List zi}(h:CellsAt w g off vs)(hk:w'.heap[g]? =w.heap[g]?):CellsAt w' g off vs:=
 λj u hu=>(World.cell?_of_block (w:=w) hk).trans (h j u hu)
theorem CellsAt.drop{g off:Nat}{vs:List zi}(h:CellsAt w g off vs)(i:Nat):CellsAt w g (off+i) (vs.drop i):=
 λj u hu=>by have:=h (i+j) u (by simpa using hu);rwa[<-vk]at this
theorem CellsAt.take{g off:Nat}{vs:List zi}(h:CellsAt w g off vs)(i:Nat):CellsAt w g off (vs.take i):=
 λj u hu=>h j u (by
  rw[yM]at hu;split at hu
  .exact hu
  .cases hu)
theorem RepC.len:∀(t:Ty)(x:t.T)(cs:List zi),RepC w O t x cs->cs.length=t.size:=by
 intro t
 induction t with
 |bool=>intro x cs h;cases h;rfl
 |int k=>intro x cs h;cases h;rfl
 |str=>intro x cs h;cases h.1;rfl
 |unit=>intro x cs h;cases h;rfl
 |pair a b x0 x1=>rintro x cs ⟨c1,c2,rfl,h1,h2⟩;simp[x0 _ _ h1,x1 _ _ h2,Ty.size]
 |arr n t ih=>rintro x cs ⟨h1,h2⟩;simp only[Ty.size, <-h1];exact h2.len ih
 |slice t ih=>rintro x cs ⟨v,rfl,_⟩;rfl
 |nils=>intro x cs h;cases h;rfl
 |_=>intro x cs h;exact absurd h (by simp[RepC])
theorem RepC.oneCell:∀(t:Ty)(x:t.T)(cs:List zi),RepC w O t x cs->∀u∈cs,u.oneCell'=true:=by
 intro t
 induction t with
 |bool=>intro x cs h;cases h;simp[je]
 |int k=>intro x cs h;cases h;simp[je]
 |str=>intro x cs h;cases h.1;simp[je]
 |nils=>intro x cs h;cases h;simp[je]
 |unit=>intro x cs h;cases h;simp
 |pair a b iha ihb=>
  rintro x cs ⟨c1,c2,rfl,h1,h2⟩ u hu;rcases yJ.1 hu with hu|hu
  .exact iha _ _ h1 u hu
  .exact ihb _ _ h2 u hu
 |arr n t ih=>rintro x cs ⟨h1,h2⟩;exact h2.all ih
 |slice t ih=>
  rintro x cs ⟨v,rfl,h⟩;rcases h with ⟨_,A,c,rfl,_⟩|⟨g,off,c,vs,rfl,_⟩<;>simp[je]
 |_=>intro x cs h;exact absurd h (by simp[RepC])
structure Keeps(w w':zj)(O O':Nat->Prop):Prop where
 size:w.heap.size<=w'.heap.size
 block:∀g,g<w.heap.size->¬O g->w'.heap[g]? =w.heap[g]?
 own:∀g,g<w.heap.size->O' g->O g
theorem Keeps.refl(w:zj)(O:Nat->Prop):Keeps w w O O:=⟨zu _,λ_ _ _=>rfl,λ_ _ h=>h⟩
theorem Keeps.of_below(h:xW w.heap.size w w')(hO:∀g,g<w.heap.size->O' g->O g):Keeps w w' O O':=⟨h.size,λg hg _=>h.block g hg,hO⟩
theorem RepS.keep{α:Type}{R R':α->List zi->Prop}{xs:List α}{v:zi}(h:RepS w O R xs v)(hk:Keeps w w' O O')(hr:∀x c,R x c->R' x c):RepS w' O' R' xs v:=by
 rcases h with h|⟨g,off,c,vs,h1,h2,h3,h4,h5,h6,h7,h8⟩
 .exact .inl h
 .exact .inr ⟨g,off,c,vs,h1,h2,h3,h4,zF h5 hk.size,λh=>h6 (hk.own g h5 h),h7.mono λx _ c=>hr x c,h8.keep (hk.block g h5 h6)⟩
theorem RepC.keep(hk:Keeps w w' O O'):∀(t:Ty)(x:t.T)(cs:List zi),RepC w O t x cs->RepC w' O' t x cs:=by
 intro t
 induction t with
 |pair a b x0 x1=>rintro x cs ⟨c1,c2,h,h1,h2⟩;exact⟨c1,c2,h,x0 _ _ h1,x1 _ _ h2⟩
 |arr n t ih=>rintro x cs ⟨h1,h2⟩;exact⟨h1,h2.mono λx _ c=>ih x c⟩
 |slice t ih=>rintro x cs ⟨v,h,h2⟩;exact⟨v,h,h2.keep hk ih⟩
 |_=>intro x cs h;exact h
theorem RepD.keep(hk:Keeps w w' O O'){t:Ty}{x:t.T}{v:zi}(h:RepD w O t x v):RepD w' O' t x v:=by
 unfold RepD at *;split at h
 .rename_i ht;obtain⟨cs,h1,h2⟩:=h;rw[if_pos ht];exact⟨cs,h1,RepC.keep hk _ _ _ h2⟩
 .rename_i ht;rw[if_neg ht];exact RepC.keep hk _ _ _ h
theorem RepTup.keep(hk:Keeps w w' O O'):∀(t:Ty)(x:t.T)(vs:List zi),RepTup w O t x vs->RepTup w' O' t x vs:=by
 intro t
 induction t with
 |tup a b iha x0=>rintro x vs ⟨v,r,h,h1,h2⟩;exact⟨v,r,h,h1.keep hk,x0 _ _ h2⟩
 |unit=>intro x vs h;exact h
 |_=>intro x vs h;exact absurd h (by simp[RepTup])
theorem RepP.keep(hk:Keeps w w' O O'){t:Ty}{x:t.T}{v:zi}(h:RepP w O t x v):RepP w' O' t x v:=by
 cases t<;>first|exact h.elim|skip
 obtain⟨g,off,cs,h1,h2,h3,h4,h5⟩:=h;exact⟨g,off,cs,h1,zF h2 hk.size,λh=>h3 (hk.own g h2 h),RepC.keep hk _ _ _ h4,h5.keep (hk.block g h2 h3)⟩
theorem RepCap.keep(hk:Keeps w w' O O'):∀(t:Ty)(x:t.T)(vs:List zi),RepCap w O t x vs->RepCap w' O' t x vs:=by
 intro t
 induction t with
 |tup a b iha x0=>rintro x vs ⟨v,r,h,h1,h2⟩;exact⟨v,r,h,h1.keep hk,x0 _ _ h2⟩
 |unit=>intro x vs h;exact h
 |_=>intro x vs h;exact absurd h (by simp[RepCap])
theorem RepV.keep(hk:Keeps w w' O O'):∀(t:Ty)(x:t.T)(v:zi),RepV w O U t x v->RepV w' O' U t x v:=by
 intro t
 induction t with
 |junk=>intro x v h;exact h
 |lit=>intro x v h;exact h
 |vptr t _=>
  rintro x v ⟨g,off,cs,h1,h2,h3,h4,h5⟩;exact⟨g,off,cs,h1,zF h2 hk.size,λh=>h3 (hk.own g h2 h),RepC.keep hk _ _ _ h4,h5.keep (hk.block g h2 h3)⟩
 |cptr g off t _=>
  rintro x v ⟨cs,h1,h2,h3,h4,h5⟩;exact⟨cs,h1,zF h2 hk.size,λh=>h3 (hk.own g h2 h),RepC.keep hk _ _ _ h4,h5.keep (hk.block g h2 h3)⟩
 |optr t _=>intro x v h;exact h
 |obuf t _=>intro x v h;exact h
 |hptr=>intro x v h;exact h
 |hcons a b x0 x1=>rintro x v ⟨u,s,h1,h2,h3,h4⟩;exact⟨u,s,h1,h2,x0 _ _ h3,x1 _ _ h4⟩
 |tup a b _ _=>rintro x v ⟨vs,h1,h2⟩;exact⟨vs,h1,RepTup.keep hk _ _ _ h2⟩
 |cond t ih=>intro x v h;exact⟨λhc=>ih _ _ (h.1 hc),h.2⟩
 |clo f t _=>rintro x v ⟨vs,h1,h2⟩;exact⟨vs,h1,RepCap.keep hk _ _ _ h2⟩
 |mapL=>rintro x v ⟨r,ms,ck,h1,h2,h3,h4,h5⟩;exact⟨r,ms,ck,h1,zF h2 hk.size,λh=>h3 (hk.own r h2 h),(hk.block r h2 h3).trans h4,h5⟩
 |_=>intro x v h;exact RepD.keep hk h
end
theorem RepD.scalar{w:zj}{O:Nat->Prop}{t:Ty}(ht:t.isAgg=false){x:t.T}{v:zi}:RepD w O t x v↔RepC w O t x [v]:=by simp[RepD,ht]
theorem RepD.agg{w:zj}{O:Nat->Prop}{t:Ty}(ht:t.isAgg=true){x:t.T}{v:zi}:RepD w O t x v↔∃cs,v=.agg cs.toArray/\RepC w O t x cs:=by simp[RepD,ht]
abbrev Frame:=List (Nat×V)
def Frame.get:List (Nat×V)->Nat->V
 | [],_=>⟨.junk,()⟩
 |(s,v)::r,t=>bif yG s t then v else Frame.get r t
inductive OObj where
 |box (t:Ty) (x:t.T)
 |buf (te:zy) (t:Ty) (xs:List t.T)
 |hbox (ty:zy) (vs:List V)
 |mp (m:Nat) (I:List (zi×zi)->Prop)
def OObj.isBuf:OObj->Bool
 |.box _ _=>false
 |.buf _ _ _=>true
 |.hbox _ _=>false
 |.mp _ _=>false
abbrev Owns:=List (Nat×Option OObj)
def Owns.get:List (Nat×Option OObj)->Nat->Option OObj
 | [],_=>none
 |(i,o)::r,j=>bif yG i j then o else Owns.get r j
structure AS where
 F:Frame
 E:Owns
 nx:Nat
def bnd:(t:Ty)->t.T->Nat
 |.optr _,p=>p.i+1
 |.obuf _,i=>i+1
 |.cond t,x=>bnd t x.2
 |.hptr,x=>x.1+1
 |.hcons a b,x=>max (bnd a x.1) (bnd b x.2)
 |_,_=>0
def V.bound(v:V):Nat:=bnd v.t v.x
structure Ownr where
 G:zj->Prop
 X:Nat->Prop
 K:Nat
 fix:Nat->Nat
 D:List Deferred:=[]
 ρ:Option Nat:=none
 B:Nat->Prop:=λ_=>False
def Ownr.R(X:Ownr)(g:Nat):Prop:=(∃i,i<X.K/\X.fix i=g)\/X.B g
def Ownr.plain(G:zj->Prop)(O:Nat->Prop):Ownr:=⟨G,O,0,λ_=>0,[],none,λ_=>False⟩
def Ownr.one(G:zj->Prop)(O:Nat->Prop)(g:Nat):Ownr:=⟨G,O,1,λ_=>g,[],none,λ_=>False⟩
theorem Ownr.plain_noR(G:zj->Prop)(O:Nat->Prop):∀g,¬(Ownr.plain G O).R g:=λg h=>h.elim (λ⟨i,h,_⟩=>absurd h (Nat.not_lt_zero _)) id
theorem Ownr.one_R(G:zj->Prop)(O:Nat->Prop)(g:Nat):∀h,(Ownr.one G O g).R h↔h=g:=λh=>⟨λhh=>hh.elim (λ⟨i,_,e⟩=>e.symm) False.elim,λe=>.inl ⟨0,Nat.lt_succ_self 0,e.symm⟩⟩
instance:CoeFun Ownr (λ_=>Nat->Prop):=⟨Ownr.X⟩
structure Kept(R:Nat->Prop)(w w':zj):Prop where
 os:w'.os=w.os
 tape:w'.tape=w.tape
 output:w'.output=w.output
 size:w.heap.size<=w'.heap.size
 block:∀k,k<w.heap.size->¬R k->w'.heap[k]? =w.heap[k]?
def Ownr.Ok(X:Ownr)(w0:zj):Prop:=(∀g,X g->g<w0.heap.size/\¬X.R g)/\(∀g,X.R g->g<w0.heap.size)/\∀w,Kept X.R w0 w->X.G w
theorem Kept.then{R:Nat->Prop}{a b c:zj}(h:Kept R a b)(k:xW b.heap.size b c):Kept R a c:=
 ⟨k.os.trans h.os,k.tape.trans h.tape,k.output.trans h.output,zL h.size k.size,λi hi hr=>(k.block i (zF hi h.size)).trans (h.block i hi hr)⟩
theorem Kept.below{R:Nat->Prop}{a b:zj}(h:Kept R a b)(hR:∀g,¬R g):xW a.heap.size a b:=⟨h.os,h.tape,h.output,h.size,λk hk=>h.block k hk (hR k)⟩
theorem Kept.grown{R:Nat->Prop}{a b c:zj}{o:Option Nat}(h:Kept R a b)(hg:b.grownBy c o)(hn:∀g,o=some g->a.heap.size<=g\/R g):Kept R a c:=
 ⟨hg.os.trans h.os,hg.tape.trans h.tape,hg.output.trans h.output,zL h.size hg.size,λk hk hr=>(hg.block k (zF hk h.size) λe=>by
   rcases hn k e.symm with h1|h1
   .omega
   .exact hr h1).trans (h.block k hk hr)⟩
theorem Kept.refl(R:Nat->Prop)(w:zj):Kept R w w:=⟨rfl,rfl,rfl,zu _,λ_ _ _=>rfl⟩
def OSet(X:Ownr)(E:Owns)(U:Nat->zi)(g:Nat):Prop:=X g\/∃i o,Owns.get E i=some o/\zai (U i)=some g
def RepH(w:zj)(O:Nat->Prop)(U:Nat->zi):List V->List zi->Prop
 | [],cs=>cs=[]
 |v::r,cs=>∃u s,cs=u::s/\u.oneCell'=true/\RepV w O U v.t v.x u/\RepH w O U r s
def OObj.hvs:OObj->Option (List V)
 |.hbox _ vs=>some vs
 |_=>none
def OObj.under(o:OObj)(k:Nat):Prop:=∀vs,o.hvs=some vs->∀v,v∈vs->v.bound<=k
def OwnRep(w:zj)(O:Nat->Prop)(U:Nat->zi)(B:Nat)(bv:zi):OObj->Prop
 |.box t x=>∃g cs ty,bv=.pointer (some ⟨g,0,none⟩)/\B<=g/\w.heap[g]? =some (.cells (xU cs) ty (0,0))/\RepC w O t x cs
 |.buf te t xs=>∃cs,RepL (RepC w O t) xs cs/\w.ownsRow B te t.size bv xs.length cs/\0<t.size
 |.hbox ty vs=>∃g cs,bv=.pointer (some ⟨g,0,none⟩)/\B<=g/\w.heap[g]? =some (.cells (xU cs) ty (0,0))/\RepH w O U vs cs
 |.mp m I=>∃ms ck,bv=.pointer (some ⟨m,0,none⟩)/\B<=m/\w.heap[m]? =some (.map ms ck)/\I (ms.toList.map λe=>(e.key,e.val))
structure Sim(w0:zj)(X:Ownr)(n:Nat)(Y:AS)(U:Nat->zi)(a:Act)(w:zj):Prop where
 sz:a.tmps.size=n
 df:a.defers=X.D
 bel:Kept X.R w0 w
 fr:∀s,RepV w (OSet X Y.E U) U (Frame.get Y.F s).t (Frame.get Y.F s).x (a.tmps.getD s undef)
 own:∀i o,Owns.get Y.E i=some o->OwnRep w (OSet X Y.E U) U 0 (U i) o
 new:∀i o g,Owns.get Y.E i=some o->zai (U i)=some g->w0.heap.size<=g\/X.R g
 inj:∀i j oi oj,Owns.get Y.E i=some oi->Owns.get Y.E j=some oj->i≠j->∀g,zai (U i)=some g->zai (U j)≠some g
 lt:∀i o,Owns.get Y.E i=some o->i<Y.nx
 fix:X.K<=Y.nx/\∀i,i<X.K->zai (U i)=some (X.fix i)/\∀o,Owns.get Y.E i=some o->o.isBuf=false
 hb:∀s,(Frame.get Y.F s).bound<=Y.nx
 hE:∀i o,Owns.get Y.E i=some o->o.under Y.nx
theorem zal(s:Nat)(v:V)(r:Frame)(t:Nat):Frame.get ((s,v)::r) t=if s=t then v else Frame.get r t:=by
 simp only[Frame.get,cond_eq_ite,qE]
theorem zag(i:Nat)(o:Option OObj)(r:Owns)(j:Nat):Owns.get ((i,o)::r) j=if i=j then o else Owns.get r j:=by
 simp only[Owns.get,cond_eq_ite,qE]
section
variable {w w':zj}{O O':Nat->Prop}{U:Nat->zi}
theorem RepH.keep(hk:Keeps w w' O O'):∀{vs:List V}{cs:List zi},RepH w O U vs cs->RepH w' O' U vs cs
 | [],_,h=>h
 |v::r,_,⟨u,s,h1,h2,h3,h4⟩=>⟨u,s,h1,h2,RepV.keep hk _ _ _ h3,RepH.keep hk h4⟩
theorem OwnRep.block_lt{B:Nat}{bv:zi}{o:OObj}(h:OwnRep w O U B bv o){g:Nat}(hg:zai bv=some g):B<=g/\g<w.heap.size:=by
 cases o with
 |box t x=>
  obtain⟨g',cs,ty,rfl,h1,h2,_⟩:=h;simp[zai]at hg;subst hg;exact⟨h1,(zv.1 h2).1⟩
 |buf te t xs=>
  obtain⟨cs,_,h2,_⟩:=h;rcases h2.2 with ⟨rfl,_⟩|⟨g',cap,cur,rfl,h1,h2,_⟩
  .simp[zai]at hg
  .simp[zai]at hg;subst hg;exact⟨h1,(zv.1 h2).1⟩
 |hbox ty vs=>
  obtain⟨g',cs,rfl,h1,h2,_⟩:=h;simp[zai]at hg;subst hg;exact⟨h1,(zv.1 h2).1⟩
 |mp m I=>
  obtain⟨ms,ck,rfl,h1,h2,_⟩:=h;simp[zai]at hg;subst hg;exact⟨h1,(zv.1 h2).1⟩
theorem OwnRep.keep{B:Nat}{bv:zi}{o:OObj}(h:OwnRep w O U B bv o)(hk:Keeps w w' O O')(hb:∀g,zai bv=some g->w'.heap[g]? =w.heap[g]?):OwnRep w' O' U B bv o:=by
 cases o with
 |box t x=>
  obtain⟨g',cs,ty,rfl,h1,h2,h3⟩:=h;exact⟨g',cs,ty,rfl,h1,(hb g' rfl).trans h2,RepC.keep hk _ _ _ h3⟩
 |buf te t xs=>
  obtain⟨cs,h1,h2,h3⟩:=h;refine⟨cs,h1.mono λx _ c=>RepC.keep hk _ _ _,⟨h2.1,?_⟩,h3⟩;rcases h2.2 with h4|⟨g',cap,cur,rfl,h4,h5,h6⟩
  .exact .inl h4
  .exact .inr ⟨g',cap,cur,rfl,h4,(hb g' rfl).trans h5,h6⟩
 |hbox ty vs=>
  obtain⟨g',cs,rfl,h1,h2,h3⟩:=h;exact⟨g',cs,rfl,h1,(hb g' rfl).trans h2,h3.keep hk⟩
 |mp m I=>
  obtain⟨ms,ck,rfl,h1,h2,h3⟩:=h;exact⟨ms,ck,rfl,h1,(hb m rfl).trans h2,h3⟩
end
section
variable {w0:zj}{X:Ownr}{n:Nat}{Y:AS}{U:Nat->zi}{a:Act}{w w':zj}
theorem Act.put_size(a:Act)(d:Option Tmp)(v:zi):(a.put d v).tmps.size=a.tmps.size:=by
 cases d<;>simp[Act.put]
theorem Act.put_defers(a:Act)(d:Option Tmp)(v:zi):(a.put d v).defers=a.defers:=by
 cases d<;>rfl
theorem Act.put_get{a:Act}{d s:Nat}{v:zi}(hd:d<a.tmps.size):(a.put (some d) v).tmps.getD s undef=if d=s then v else a.tmps.getD s undef:=by
 by_cases h:d=s
 .subst h;rw[if_pos rfl];unfold Act.put;simp[yA,qz,hd]
 .rw[if_neg h];unfold Act.put;simp[yA,qz,h]
theorem Sim.put(h:Sim w0 X n Y U a w)(hk:xW w.heap.size w w'){v:V}{u:zi}(hr:RepV w' (OSet X Y.E U) U v.t v.x u)(hb:v.bound<=Y.nx){d:Nat}(hd:d<n):
  Sim w0 X n { Y with F:=(d,v)::Y.F } U (a.put (some d) u) w' where
 sz:=by rw[Act.put_size];exact h.sz
 df:=by rw[Act.put_defers];exact h.df
 bel:=h.bel.then hk
 new:=h.new
 fr:=λs=>by
  rw[Act.put_get (by rw[h.sz];exact hd),zal];by_cases hs:d=s
  .rw[if_pos hs,if_pos hs];exact hr
  .rw[if_neg hs,if_neg hs];exact RepV.keep (.of_below hk λ_ _ h=>h) _ _ _ (h.fr s)
 own:=λi o ho=>(h.own i o ho).keep (.of_below hk λ_ _ h=>h) λg hg=>hk.block g ((h.own i o ho).block_lt hg).2
 inj:=h.inj
 lt:=h.lt
 fix:=h.fix
 hb:=λs=>by
  rw[zal];by_cases hs:d=s
  .rw[if_pos hs];exact hb
  .rw[if_neg hs];exact h.hb s
 hE:=h.hE
theorem zji{U:Nat->zi}{k i:Nat}{v:zi}(h:i≠k):(λj=>if j=k then v else U j) i=U i:=by simp[h]
theorem RepV.update{w:zj}{O:Nat->Prop}{U:Nat->zi}{k:Nat}{bv:zi}:∀(t:Ty)(x:t.T)(v:zi),bnd t x<=k->RepV w O U t x v->RepV w O (λj=>if j=k then bv else U j) t x v:=by
 intro t
 induction t with
 |optr t _=>
  rintro x v hb ⟨g,h1,h2⟩;have:x.i≠k:=by simp[bnd]at hb;omega
  exact⟨g,by simp[this,h1],h2⟩
 |obuf t _=>
  intro x v;change Nat at x;intro hb h;have x0:x+1<=k:=hb;have:x≠k:=o_;have h':=h;show v=if x=k then bv else U x
  rw[if_neg this,h']
 |cond t ih=>intro x v hb h;exact⟨λhc=>ih _ _ hb (h.1 hc),h.2⟩
 |hptr=>
  rintro x v hb ⟨g,h1,h2⟩;have:x.1≠k:=by simp[bnd]at hb;omega
  exact⟨g,by simp[this,h1],h2⟩
 |hcons a b iha ihb=>
  rintro x v hb ⟨u,s,h1,h2,h3,h4⟩;have x0:max (bnd a x.1) (bnd b x.2)<=k:=hb;exact⟨u,s,h1,h2,iha _ _ o_ h3,ihb _ _ o_ h4⟩
 |_=>intro x v hb h;exact h
theorem RepH.update{w:zj}{O:Nat->Prop}{U:Nat->zi}{k:Nat}{bv:zi}:∀{vs:List V}{cs:List zi},(∀v,v∈vs->v.bound<=k)->RepH w O U vs cs->RepH w O (λj=>if j=k then bv else U j) vs cs
 | [],_,_,h=>h
 |v::r,_,hb,⟨u,s,h1,h2,h3,h4⟩=>⟨u,s,h1,h2,RepV.update _ _ _ (hb v (by simp)) h3,RepH.update (λy hy=>hb y (by simp[hy])) h4⟩
theorem OwnRep.update{w:zj}{O:Nat->Prop}{U:Nat->zi}{k B:Nat}{bv b':zi}{o:OObj}(hb:o.under k)(h:OwnRep w O U B b' o):OwnRep w O (λj=>if j=k then bv else U j) B b' o:=by
 cases o with
 |box t x=>exact h
 |buf te t xs=>exact h
 |hbox ty vs=>
  obtain⟨g',cs,e,h1,h2,h3⟩:=h;exact⟨g',cs,e,h1,h2,h3.update (hb vs rfl)⟩
 |mp m I=>exact h
theorem OSet.new{E:Owns}{k:Nat}{o:OObj}{bv:zi}(x0:∀i o,Owns.get E i=some o->i<k)(g:Nat):
  OSet X ((k,some o)::E) (λj=>if j=k then bv else U j) g↔OSet X E U g\/zai bv=some g:=by
 unfold OSet;constructor
 .rintro (h|⟨i,oi,h1,h2⟩)
  .exact .inl (.inl h)
  .rw[zag]at h1;by_cases hi:k=i
   .subst hi;simp at h2;exact .inr h2
   .rw[if_neg hi]at h1;rw[zji (xI hi)]at h2;exact .inl (.inr ⟨i,oi,h1,h2⟩)
 .rintro ((h|⟨i,oi,h1,h2⟩)|h)
  .exact .inl h
  .have:=x0 _ _ h1;exact .inr ⟨i,oi,by rw[zag,if_neg o_];exact h1,by rw[zji o_];exact h2⟩
  .exact .inr ⟨k,o,by rw[zag,if_pos rfl],by simp[h]⟩
theorem Sim.make(h:Sim w0 X n Y U a w)(hX:X.Ok w0)(hk:xW w.heap.size w w'){bv:zi}{o:OObj}
  (hr:∀O U',(∀g,O g->OSet X Y.E U g\/zai bv=some g)->OwnRep w' O U' 0 bv o) (x0:∀g,zai bv=some g->w.heap.size<=g) {v:V}{u:zi}
  (hv:∀O U',U' Y.nx=bv->RepV w' O U' v.t v.x u) (hb:v.bound<=Y.nx+1) {d:Nat} (hd:d<n) (hu:o.under (Y.nx+1):=by exact λ_ e=>by cases e):
  ∃U',Sim w0 X n { F:=(d,v)::Y.F,E:=(Y.nx,some o)::Y.E,nx:=Y.nx+1 } U' (a.put (some d) u) w':=by
 refine⟨λj=>if j=Y.nx then bv else U j,?_⟩;have hO:=λg=>OSet.new (X:=X) (U:=U) (bv:=bv) (o:=o) h.lt g;have x1:Keeps w w' (OSet X Y.E U) (OSet X ((Y.nx,some o)::Y.E) (λj=>if j=Y.nx then bv else U j)):=
  .of_below hk λg hg x2=>by
   rcases (hO g).1 x2 with h1|h1
   .exact h1
   .have:=x0 g h1;omega
 refine⟨?_,?_,h.bel.then hk,?_,?_,?_,?_,?_,?_,?_,?_⟩
 .rw[Act.put_size];exact h.sz
 .rw[Act.put_defers];exact h.df
 .intro s;rw[Act.put_get (by rw[h.sz];exact hd)];rw[zal];by_cases hs:d=s
  .rw[if_pos hs,if_pos hs];exact hv _ _ (by simp)
  .rw[if_neg hs,if_neg hs];exact RepV.update _ _ _ (h.hb s) (RepV.keep x1 _ _ _ (h.fr s))
 .intro i oi hi;rw[show Owns.get ((Y.nx,some o)::Y.E) i=_ from zag ..]at hi;by_cases hs:Y.nx=i
  .subst hs;rw[if_pos rfl]at hi;cases hi;rw[if_pos rfl];exact hr _ _ λg x2=>(hO g).1 x2
  .rw[if_neg hs]at hi;rw[if_neg (xI hs)];exact((h.own i oi hi).keep x1 λg hg=>hk.block g ((h.own i oi hi).block_lt hg).2).update (h.hE i oi hi)
 .intro i oi g hi;rw[show Owns.get ((Y.nx,some o)::Y.E) i=_ from zag ..]at hi;by_cases hs:Y.nx=i
  .rw[if_pos hs.symm];intro hg;exact .inl (zL h.bel.size (x0 g hg))
  .rw[if_neg hs]at hi;rw[if_neg (xI hs)];exact h.new i oi g hi
 .intro i j oi oj hi hj x3 g;rw[show Owns.get ((Y.nx,some o)::Y.E) i=_ from zag ..]at hi;rw[show Owns.get ((Y.nx,some o)::Y.E) j=_ from zag ..]at hj;show zai (if i=Y.nx then bv else U i)=some g->zai (if j=Y.nx then bv else U j)≠some g;by_cases h1:Y.nx=i
  .by_cases h2:Y.nx=j
   .omega
   .rw[if_neg h2]at hj;rw[if_pos h1.symm,if_neg (xI h2)];intro hg x2;have:=x0 g hg;have:=((h.own j oj hj).block_lt x2).2;omega
  .rw[if_neg h1]at hi;rw[if_neg (xI h1)];by_cases h2:Y.nx=j
   .rw[if_pos h2.symm];intro hg x2;have:=x0 g x2;have:=((h.own i oi hi).block_lt hg).2;omega
   .rw[if_neg h2]at hj;rw[if_neg (xI h2)];exact h.inj i j oi oj hi hj x3 g
 .intro i oi hi;rw[show Owns.get ((Y.nx,some o)::Y.E) i=_ from zag ..]at hi;show i<Y.nx+1;by_cases hs:Y.nx=i
  .omega
  .rw[if_neg hs]at hi;have:=h.lt i oi hi;omega
 .obtain⟨hn,hf⟩:=h.fix;refine⟨Nat.le_succ_of_le hn,λi hi=>?_⟩;obtain⟨h2,h3⟩:=hf i hi;refine⟨?_,λoi ho=>?_⟩
  .
   rw[if_neg o_];exact h2
  .rw[show Owns.get ((Y.nx,some o)::Y.E) i=_ from zag ..,if_neg o_]at ho;exact h3 oi ho
 .intro s;show(Frame.get ((d,v)::Y.F) s).bound<=Y.nx+1;rw[zal];by_cases hs:d=s
  .rw[if_pos hs];exact hb
  .rw[if_neg hs];have:=h.hb s;omega
 .intro i oi hi;rw[show Owns.get ((Y.nx,some o)::Y.E) i=_ from zag ..]at hi;by_cases hs:Y.nx=i
  .rw[if_pos hs]at hi;cases hi;exact hu
  .rw[if_neg hs]at hi;intro vs e v hv;have:=h.hE i oi hi vs e v hv;show v.bound<=Y.nx+1;omega
theorem Sim.write(h:Sim w0 X n Y U a w){i:Nat}{o o':OObj}(hi:Owns.get Y.E i=some o)(hg:w.grownBy w' (zai (U i)))
  (hr:Keeps w w' (OSet X Y.E U) (OSet X Y.E U)->OwnRep w' (OSet X Y.E U) U 0 (U i) o') (x1:o'.isBuf=o.isBuf) (hu:o'.under Y.nx:=by exact λ_ e=>by cases e):
  Sim w0 X n { Y with E:=(i,some o')::Y.E } U a w':=by
 have hO:∀g,OSet X ((i,some o')::Y.E) U g↔OSet X Y.E U g:=λg=>by
  unfold OSet;constructor
  .rintro (h1|⟨j,oj,h1,h2⟩)
   .exact .inl h1
   .rw[zag]at h1;by_cases hj:i=j
    .subst hj;exact .inr ⟨i,o,hi,h2⟩
    .rw[if_neg hj]at h1;exact .inr ⟨j,oj,h1,h2⟩
  .rintro (h1|⟨j,oj,h1,h2⟩)
   .exact .inl h1
   .by_cases hj:i=j
    .subst hj;exact .inr ⟨i,o',by rw[zag,if_pos rfl],h2⟩
    .exact .inr ⟨j,oj,by rw[zag,if_neg hj];exact h1,h2⟩
 have x3:OSet X ((i,some o')::Y.E) U=OSet X Y.E U:=funext λg=>propext (hO g);have x0:Keeps w w' (OSet X Y.E U) (OSet X Y.E U):=⟨hg.size,λg x7 x6=>hg.block g x7 λe=>x6 (.inr ⟨i,o,hi,e.symm⟩),λ_ _ h=>h⟩;refine⟨h.sz,h.df,h.bel.grown hg (λg e=>h.new i o g hi e),?_,?_,?_,?_,?_,⟨h.fix.1,λj hj=>?_⟩,h.hb,?_⟩
 .intro s;rw[x3];exact RepV.keep x0 _ _ _ (h.fr s)
 .intro j oj hj;rw[x3];rw[show Owns.get ((i,some o')::Y.E) j=_ from zag ..]at hj;by_cases hs:i=j
  .subst hs;rw[if_pos rfl]at hj;cases hj;exact hr x0
  .rw[if_neg hs]at hj;refine(h.own j oj hj).keep x0 λg x2=>hg.block g ((h.own j oj hj).block_lt x2).2 λe=>?_;exact h.inj i j o oj hi hj hs g e.symm x2
 .intro j oj g hj;rw[show Owns.get ((i,some o')::Y.E) j=_ from zag ..]at hj;by_cases hs:i=j
  .subst hs;exact h.new i o g hi
  .rw[if_neg hs]at hj;exact h.new j oj g hj
 .intro j k oj ok hj hk;rw[show Owns.get ((i,some o')::Y.E) j=_ from zag ..]at hj;rw[show Owns.get ((i,some o')::Y.E) k=_ from zag ..]at hk;have x5:∃p,Owns.get Y.E j=some p:=by
   by_cases hs:i=j
   .subst hs;exact⟨o,hi⟩
   .rw[if_neg hs]at hj;exact⟨_,hj⟩
  have x4:∃p,Owns.get Y.E k=some p:=by
   by_cases hs:i=k
   .subst hs;exact⟨o,hi⟩
   .rw[if_neg hs]at hk;exact⟨_,hk⟩
  obtain⟨p,hp⟩:=x5;obtain⟨q,hq⟩:=x4;exact h.inj j k p q hp hq
 .intro j oj hj;rw[show Owns.get ((i,some o')::Y.E) j=_ from zag ..]at hj;by_cases hs:i=j
  .subst hs;exact h.lt i o hi
  .rw[if_neg hs]at hj;exact h.lt j oj hj
 .obtain⟨h2,h3⟩:=h.fix.2 j hj;refine⟨h2,λoj ho=>?_⟩;rw[show Owns.get ((i,some o')::Y.E) j=_ from zag ..]at ho;by_cases hs:i=j
  .subst hs;rw[if_pos rfl]at ho;cases ho;rw[x1];exact h3 o hi
  .rw[if_neg hs]at ho;exact h3 oj ho
 .intro j oj hj;rw[show Owns.get ((i,some o')::Y.E) j=_ from zag ..]at hj;by_cases hs:i=j
  .rw[if_pos hs]at hj;cases hj;exact hu
  .rw[if_neg hs]at hj;exact h.hE j oj hj
theorem Sim.forget(h:Sim w0 X n Y U a w)(i:Nat):Sim w0 X n { Y with E:=(i,none)::Y.E } U a w:=by
 have hget:∀j oj,Owns.get ((i,none)::Y.E) j=some oj->i≠j/\Owns.get Y.E j=some oj:=λj oj hj=>by
  rw[zag]at hj;by_cases hs:i=j
  .rw[if_pos hs]at hj;cases hj
  .rw[if_neg hs]at hj;exact⟨hs,hj⟩
 have x0:Keeps w w (OSet X Y.E U) (OSet X ((i,none)::Y.E) U):=⟨zu _,λ_ _ _=>rfl,λg _ hg=>by
  rcases hg with hg|⟨j,oj,h1,h2⟩
  .exact .inl hg
  .exact .inr ⟨j,oj,(hget j oj h1).2,h2⟩⟩
 exact⟨h.sz,h.df,h.bel,λs=>RepV.keep x0 _ _ _ (h.fr s),λj oj hj=>(h.own j oj (hget j oj hj).2).keep x0 λ_ _=>rfl,λj oj g hj=>h.new j oj g (hget j oj hj).2,
  λj k oj ok hj hk=>h.inj j k oj ok (hget j oj hj).2 (hget k ok hk).2,λj oj hj=>h.lt j oj (hget j oj hj).2,⟨h.fix.1,λj hj=>⟨(h.fix.2 j hj).1,λoj ho=>(h.fix.2 j hj).2 oj (hget j oj ho).2⟩⟩,h.hb,λj oj hj=>h.hE j oj (hget j oj hj).2⟩
theorem Sim.weaken(h:Sim w0 X n Y U a w){F':Frame}(hF:∀s,Frame.get F' s=Frame.get Y.F s\/Frame.get F' s=⟨.junk,()⟩):Sim w0 X n { Y with F:=F' } U a w:=
 ⟨h.sz,h.df,h.bel,λs=>by
   rcases hF s with e|e
   .show RepV _ _ _ (Frame.get F' s).t _ _;rw[e];exact h.fr s
   .show RepV _ _ _ (Frame.get F' s).t _ _;rw[e];trivial,h.own,h.new,h.inj,h.lt,h.fix,λs=>by
   rcases hF s with e|e
   .show(Frame.get F' s).bound<=_;rw[e];exact h.hb s
   .show(Frame.get F' s).bound<=_;rw[e];exact zk _,h.hE⟩
theorem OwnRep.view{B:Nat}{bv:zi}{te:zy}{t:Ty}{xs:List t.T}{O O':Nat->Prop}(h:OwnRep w O U B bv (.buf te t xs))(hO:∀g,g<w.heap.size->O' g->O g)(hn:∀g,zai bv=some g->¬O' g):
  RepD w O' (.slice t) xs bv:=by
 rw[RepD.scalar rfl];refine⟨bv,rfl,?_⟩;obtain⟨cs,h1,h2,h3⟩:=h;have x0:=h1.mono λx _ c=>RepC.keep ⟨zu _,λ_ _ _=>rfl,hO⟩ _ _ _;rcases h2.2 with ⟨rfl,h4⟩|⟨g,cap,cur,rfl,h5,h6,h7,h8,h9,h10⟩
 .have:xs=[]:=xC h4;subst this;exact .inl ⟨rfl,none,0,rfl,by simp[maxLen]⟩
 .by_cases hx:xs=[]
  .subst hx;exact .inl ⟨rfl,some ⟨g,0,none⟩,cap,rfl,h8⟩
  .refine .inr ⟨g,0,cap,cs,rfl,hx,h7,h8,(zv.1 h6).1,hn g rfl,x0,λj u hu=>?_⟩;rw[xV];unfold qd;rw[h6];simp only[jp,xZ,if_false];rw[<-h10,yM]at hu;split at hu
   .simpa using hu
   .cases hu
def thaw(i:Nat)(t:Ty)(xs:List t.T)(v:V):V:=
 match v with
 |⟨.obuf _,j⟩=>bif yG i j then ⟨.slice t,xs⟩ else v
 |v=>v
def Frame.thaw(i:Nat)(t:Ty)(xs:List t.T):List (Nat×V)->List (Nat×V)
 | []=>[]
 |(s,v)::r=>(s,Go.Proofs.YtdjjmoenpjlfeaaGreatDoor.thaw i t xs v)::Frame.thaw i t xs r
theorem Frame.get_thaw(i:Nat)(t:Ty)(xs:List t.T)(F:Frame)(s:Nat):Frame.get (Frame.thaw i t xs F) s=Go.Proofs.YtdjjmoenpjlfeaaGreatDoor.thaw i t xs (Frame.get F s):=by
 induction F with
 |nil=>rfl
 |cons p F ih=>
  obtain⟨d,v⟩:=p;simp only[Frame.thaw,zal,ih];split<;>rfl
theorem Sim.freeze(h:Sim w0 X n Y U a w)(hX:X.Ok w0){i:Nat}{te:zy}{t:Ty}{xs:List t.T}(hi:Owns.get Y.E i=some (.buf te t xs)):
  Sim w0 X n { F:=Frame.thaw i t xs Y.F,E:=(i,none)::Y.E,nx:=Y.nx } U a w:=by
 have h':=h.forget i;have hv:RepD w (OSet X ((i,none)::Y.E) U) (.slice t) xs (U i):=(h.own i _ hi).view (λg _ hg=>by
  rcases hg with hg|⟨j,oj,h1,h2⟩
  .exact .inl hg
  .rw[zag]at h1;by_cases hs:i=j
   .rw[if_pos hs]at h1;cases h1
   .rw[if_neg hs]at h1;exact .inr ⟨j,oj,h1,h2⟩) λg hg x0=>by
  rcases x0 with x0|⟨j,oj,h1,h2⟩
  .have h3:=hX.1 g x0;rcases h.new i _ g hi hg with h4|h4
   .omega
   .exact h3.2 h4
  .rw[zag]at h1;by_cases hs:i=j
   .rw[if_pos hs]at h1;cases h1
   .rw[if_neg hs]at h1;exact h.inj i j _ _ hi h1 hs g hg h2
 refine⟨h'.sz,h'.df,h'.bel,λs=>?_,h'.own,h'.new,h'.inj,h'.lt,h'.fix,λs=>?_,h'.hE⟩
 .have h1:=h'.fr s;rw[Frame.get_thaw];revert h1;generalize Frame.get Y.F s=v;obtain⟨vt,vx⟩:=v;cases vt<;>first|exact id|skip
  rename_i t';intro h1;have x1:=h1;simp only[Go.Proofs.YtdjjmoenpjlfeaaGreatDoor.thaw];cases e:yG i vx with
  |true=>
   have e':=xL e;simp only[cond_true];rw[x1, <-e'];exact hv
  |false=>exact h1
 .have h1:=h'.hb s;rw[Frame.get_thaw];revert h1;generalize Frame.get Y.F s=v;obtain⟨vt,vx⟩:=v;cases vt<;>first|exact id|skip
  intro h1;simp only[Go.Proofs.YtdjjmoenpjlfeaaGreatDoor.thaw];cases e:yG i vx with
  |true=>exact zk _
  |false=>exact h1
end
def zbD:Ty->List zi
 |.bool=>[.bool false]
 |.int k=>[.int k 0]
 |.str=>[.string ⟨#[]⟩]
 |.slice _=>[.slice none 0 0]
 |.nils=>[.slice none 0 0]
 |.pair a b=>zbD a++zbD b
 |.arr n t=>(zg n (zbD t)).flatten
 |_=>[]
def zr1:(k:qo)->IntT k
 |.u8=>(0:UInt8)
 |.u16=>(0:BitVec 16)
 |.u32=>(0:BitVec 32)
 |.u64=>(0:BitVec 64)
 |.i8=>(0:Int)
 |.i16=>(0:Int)
 |.i32=>(0:Int)
 |.i64=>(0:Int)
def zaD:(t:Ty)->t.T
 |.bool=>false
 |.int k=>zr1 k
 |.str=>[]
 |.unit=>()
 |.pair a b=>(zaD a,zaD b)
 |.arr n t=>zg n (zaD t)
 |.slice _=>[]
 |.nils=>()
 |.junk=>()
 |.lit=>.nilFunc
 |.vptr t=>zaD t
 |.cptr _ _ t=>zaD t
 |.optr t=>⟨0,t,.here⟩
 |.obuf _=>(0:Nat)
 |.tup a b=>(zaD a,zaD b)
 |.cond t=>(false,zaD t)
 |.clo _ t=>zaD t
 |.mapL=>([]:List (zi×zi))
 |.hptr=>((0:Nat),(0:Nat))
 |.hcons a b=>(zaD a,zaD b)
def Ty.data:Ty->Bool
 |.bool|.int _|.str|.unit|.nils=>true
 |.pair a b=>a.data&&b.data
 |.arr _ t=>t.data
 |.slice t=>t.data
 |_=>false
theorem zoT(k:qo):encI k (zr1 k)=0:=by cases k<;>rfl
theorem ze6(w:zj)(O:Nat->Prop):∀t:Ty,t.data=true->RepC w O t (zaD t) (zbD t):=by
 intro t
 induction t with
 |bool=>intro _;rfl
 |int k=>intro _;show _=_;rw[show zaD (.int k)=zr1 k from rfl,zoT];rfl
 |str=>intro _;exact⟨rfl,by simp[zaD]⟩
 |nils=>intro _;rfl
 |unit=>intro _;rfl
 |pair a b x0 x1=>intro h;simp[Ty.data]at h;exact⟨_,_,rfl,x0 h.1,x1 h.2⟩
 |arr n t ih=>
  intro h;refine⟨by simp[zaD],?_⟩;simp only[zaD,zbD]
  induction n with
  |zero=>rfl
  |succ n ihn=>exact⟨_,_,rfl,ih h,ihn h⟩
 |slice t ih=>intro _;exact⟨_,rfl,.inl ⟨rfl,none,0,rfl,by simp⟩⟩
 |_=>intro h;simp[Ty.data]at h
def Info(P:zA)(t:zy)(Z:Ty):Prop:=∃i z,P.info? t=some i/\i.size=Z.size/\i.zero=some z/\z.cells=(zbD Z).toArray/\i.bytes<=24*Z.size
def Lay(P:zA):Ty->zy ⊕ (List uV×Nat)->Prop
 |.bool,.inl t=>P.underlying t=some .bool/\Info P t .bool
 |.int k,.inl t=>P.underlying t=some (.int k)/\Info P t (.int k)
 |.str,.inl t=>P.underlying t=some .string/\Info P t .str
 |.unit,.inl t=>∃fs,P.underlying t=some (.struct fs)/\Info P t .unit/\fs.toList=[]
 |.unit,.inr m=>m.1=[]
 |.pair a b,.inl t=>∃fs,P.underlying t=some (.struct fs)/\Info P t (.pair a b)/\∃f r,fs.toList=f::r/\f.offset=0/\Lay P a (.inl f.type)/\Lay P b (.inr (r,a.size))
 |.pair a b,.inr m=>∃f r,m.1=f::r/\f.offset=m.2/\Lay P a (.inl f.type)/\Lay P b (.inr (r,m.2+a.size))
 |.arr n e,.inl t=>∃te,P.underlying t=some (.array n te)/\Info P t (.arr n e)/\Lay P e (.inl te)
 |.slice e,.inl t=>∃te,P.underlying t=some (.slice te)/\Info P t (.slice e)/\Lay P e (.inl te)
 |.nils,.inl t=>(∃te,P.underlying t=some (.slice te))/\Info P t .nils
 |_,_=>False
def zp0:zi->zi->Bool
 |.bool a,.bool b=>a==b
 |.int k a,.int l b=>decide (k=l)&&decide (a=b)
 |.string a,.string b=>a.data.toList==b.data.toList
 |.slice none n c,.slice none m d=>yG n m&&yG c d
 |_,_=>false
theorem zpZ{a b:zi}(h:zp0 a b=true):a=b:=by
 cases a<;>cases b<;>simp_all [zp0]
 .rename_i x y;cases x;cases y;simp_all
 .rename_i x n c y m d;cases x<;>cases y<;>simp_all [zp0]
def zhS:List zi->List zi->Bool
 | [],[]=>true
 |a::r,b::s=>zp0 a b&&zhS r s
 |_,_=>false
theorem zjp:∀{a b:List zi},zhS a b=true->a=b
 | [],[],_=>rfl
 |a::r,b::s,h=>by
  simp[zhS]at h;rw[zpZ h.1,zjp h.2]
 | [],_::_,h=>by simp[zhS]at h
 |_::_,[],h=>by simp[zhS]at h
def zhA(P:zA)(t:zy)(Z:Ty):Bool:=
 match P.info? t with
 |some i=>yG i.size Z.size&&xM i.bytes (24*Z.size)&&(match i.zero with |some z=>zhS z.cells.toList (zbD Z)|none=>false)
 |none=>false
theorem zc6{P:zA}{t:zy}{Z:Ty}(h:zhA P t Z=true):Info P t Z:=by
 unfold zhA at h;split at h
 .rename_i i hi;simp only[zh,qE,vz]at h;obtain⟨⟨h1,h2⟩,h3⟩:=h;split at h3
  .rename_i z hz;exact⟨i,z,hi,h1,hz,by rw[<-zjp h3],h2⟩
  .cases h3
 .cases h
def layB(P:zA):Ty->zy ⊕ (List uV×Nat)->Bool
 |.bool,.inl t=>(match P.underlying t with |some .bool=>true|_=>false)&&zhA P t .bool
 |.int k,.inl t=>(match P.underlying t with |some (.int l)=>decide (k=l)|_=>false)&&zhA P t (.int k)
 |.str,.inl t=>(match P.underlying t with |some .string=>true|_=>false)&&zhA P t .str
 |.unit,.inl t=>(match P.underlying t with |some (.struct fs)=>(match fs.toList with | []=>true|_=>false)|_=>false)&&zhA P t .unit
 |.unit,.inr m=>(match m.1 with | []=>true|_=>false)
 |.pair a b,.inl t=>(match P.underlying t with |some (.struct fs)=>(match fs.toList with |f::r=>yG f.offset 0&&layB P a (.inl f.type)&&layB P b (.inr (r,a.size))|_=>false)|_=>false)&&zhA P t (.pair a b)
 |.pair a b,.inr m=>(match m.1 with |f::r=>yG f.offset m.2&&layB P a (.inl f.type)&&layB P b (.inr (r,m.2+a.size))|_=>false)
 |.arr n e,.inl t=>(match P.underlying t with |some (.array k te)=>yG n k&&layB P e (.inl te)|_=>false)&&zhA P t (.arr n e)
 |.slice e,.inl t=>(match P.underlying t with |some (.slice te)=>layB P e (.inl te)|_=>false)&&zhA P t (.slice e)
 |.nils,.inl t=>(match P.underlying t with |some (.slice _)=>true|_=>false)&&zhA P t .nils
 |_,_=>false
theorem zsV{P:zA}:∀(Z:Ty)(m:zy ⊕ (List uV×Nat)),layB P Z m=true->Lay P Z m:=by
 intro Z
 induction Z with
 |bool=>
  rintro (t|m) h
  .simp only[layB,zh]at h;refine⟨?_,zc6 h.2⟩;have h1:=h.1;split at h1
   .assumption
   .cases h1
  .cases h
 |int k=>
  rintro (t|m) h
  .simp only[layB,zh]at h;refine⟨?_,zc6 h.2⟩;have h1:=h.1;split at h1
   .rename_i l hl;simp at h1;rw[h1];exact hl
   .cases h1
  .cases h
 |str=>
  rintro (t|m) h
  .simp only[layB,zh]at h;refine⟨?_,zc6 h.2⟩;have h1:=h.1;split at h1
   .assumption
   .cases h1
  .cases h
 |nils=>
  rintro (t|m) h
  .simp only[layB,zh]at h;refine⟨?_,zc6 h.2⟩;have h1:=h.1;split at h1
   .rename_i te hte;exact⟨te,hte⟩
   .cases h1
  .cases h
 |unit=>
  rintro (t|m) h
  .simp only[layB,zh]at h;have h1:=h.1;split at h1
   .rename_i fs x1;refine⟨fs,x1,zc6 h.2,?_⟩;split at h1
    .assumption
    .cases h1
   .cases h1
  .simp only[layB]at h;split at h
   .assumption
   .cases h
 |pair a b iha ihb=>
  rintro (t|m) h
  .simp only[layB,zh]at h;have h1:=h.1;split at h1
   .rename_i fs x1;split at h1
    .rename_i f r x0;simp only[zh,qE]at h1;exact⟨fs,x1,zc6 h.2,f,r,x0,h1.1.1,iha _ h1.1.2,ihb _ h1.2⟩
    .cases h1
   .cases h1
  .simp only[layB]at h;split at h
   .rename_i f r x0;simp only[zh,qE]at h;exact⟨f,r,x0,h.1.1,iha _ h.1.2,ihb _ h.2⟩
   .cases h
 |arr n e ih=>
  rintro (t|m) h
  .simp only[layB,zh]at h;have h1:=h.1;split at h1
   .rename_i k te hk;simp only[zh,qE]at h1;rw[<-h1.1]at hk;exact⟨te,hk,zc6 h.2,ih _ h1.2⟩
   .cases h1
  .cases h
 |slice e ih=>
  rintro (t|m) h
  .simp only[layB,zh]at h;have h1:=h.1;split at h1
   .rename_i te hk;exact⟨te,hk,zc6 h.2,ih _ h1⟩
   .cases h1
  .cases h
 |_=>intro m h;cases m<;>cases h
section
variable {P:zA}{w:zj}{O:Nat->Prop}
theorem Lay.info{Z:Ty}{t:zy}(h:Lay P Z (.inl t)):Info P t Z:=by
 cases Z<;>first
  |exact h.2
  |(obtain⟨_,_,h,_⟩:=h;exact h)
  |exact absurd h (by simp[Lay])
theorem Lay.data:∀{Z:Ty}{m:zy ⊕ (List uV×Nat)},Lay P Z m->Z.data=true:=by
 intro Z
 induction Z with
 |pair a b iha ihb=>
  rintro (t|m) h
  .obtain⟨_,_,_,f,r,_,_,h1,h2⟩:=h;simp[Ty.data,iha h1,ihb h2]
  .obtain⟨f,r,_,_,h1,h2⟩:=h;simp[Ty.data,iha h1,ihb h2]
 |arr n e ih=>
  rintro (t|m) h
  .obtain⟨_,_,_,h1⟩:=h;simp[Ty.data,ih h1]
  .exact absurd h (by simp[Lay])
 |slice e ih=>
  rintro (t|m) h
  .obtain⟨_,_,_,h1⟩:=h;simp[Ty.data,ih h1]
  .exact absurd h (by simp[Lay])
 |bool=>intro _ _;rfl
 |int=>intro _ _;rfl
 |str=>intro _ _;rfl
 |nils=>intro _ _;rfl
 |unit=>intro _ _;rfl
 |_=>intro m h;cases m<;>exact absurd h (by simp[Lay])
theorem Lay.sizeOf{Z:Ty}{t:zy}(h:Lay P Z (.inl t)):(vU t).run P w=.ok Z.size w:=by
 obtain⟨i,z,h1,h2,_⟩:=h.info;simp[vU,typeInfo,h1,h2]
theorem Lay.cellSize{Z:Ty}{t:zy}(h:Lay P Z (.inl t)):(P.info? t).map (·.size)=some Z.size:=by
 obtain⟨i,z,h1,h2,_⟩:=h.info;simp[h1,h2]
theorem Lay.isAgg{Z:Ty}{t:zy}(h:Lay P Z (.inl t)):(Go.isAgg t).run P w=.ok Z.isAgg w:=by
 unfold Go.isAgg;cases Z with
 |bool=>rw[zJ,run_underlying h.1];rfl
 |int=>rw[zJ,run_underlying h.1];rfl
 |str=>rw[zJ,run_underlying h.1];rfl
 |nils=>obtain⟨⟨_,h1⟩,_⟩:=h;rw[zJ,run_underlying h1];rfl
 |unit=>obtain⟨_,h1,_⟩:=h;rw[zJ,run_underlying h1];rfl
 |pair=>obtain⟨_,h1,_⟩:=h;rw[zJ,run_underlying h1];rfl
 |arr=>obtain⟨_,h1,_⟩:=h;rw[zJ,run_underlying h1];rfl
 |slice=>obtain⟨_,h1,_⟩:=h;rw[zJ,run_underlying h1];rfl
 |_=>exact absurd h (by simp[Lay])
theorem RepC.single{Z:Ty}(hd:Z.isAgg=false){x:Z.T}{cs:List zi}(h:RepC w O Z x cs):∃u,cs=[u]:=by
 have hl:=RepC.len _ _ _ h;have:Z.size=1:=by cases Z<;>first|rfl|(cases hd;done)|(simp[RepC]at h;done)
 rw[this]at hl;exact List.length_eq_one_iff.1 hl
theorem Lay.part{Z:Ty}{t:zy}(h:Lay P Z (.inl t)){x:Z.T}{cs:List zi}{k:Nat}(hr:RepC w O Z x ((cs.drop k).take Z.size)):
  ∃u,(Go.part t cs.toArray k).run P w=.ok u w/\RepD w O Z x u:=by
 unfold Go.part;simp only[zJ,h.isAgg,zD];cases hd:Z.isAgg with
 |true=>
  simp only[if_true,zJ,h.sizeOf,zD,zI];refine⟨_,rfl,(RepD.agg hd).2 ⟨_,?_,hr⟩⟩;simp only[List.extract_toArray,Value.agg.injEq,wF]
  congr 1
  simp
 |false=>
  obtain⟨u,hu⟩:=RepC.single hd hr;have hk:cs[k]? =some u:=by
   have h1:((cs.drop k).take Z.size)[0]? =some u:=by rw[hu];rfl
   rw[yM]at h1;split at h1
   .simpa using h1
   .cases h1
  refine⟨u,?_,(RepD.scalar hd).2 (hu▸hr)⟩;simp[hk]
theorem Lay.loadVar{Z:Ty}{t:zy}(h:Lay P Z (.inl t)){x:Z.T}{cs:List zi}{g off:Nat}(hr:RepC w O Z x cs)(hc:CellsAt w g off cs):
  ∃u,(Go.loadVar t ⟨g,off,none⟩).run P w=.ok u w/\RepD w O Z x u:=by
 unfold Go.loadVar;simp only[zJ,h.isAgg,zD];have hl:=RepC.len _ _ _ hr;cases hd:Z.isAgg with
 |true=>
  have h2:=run_loadCells_list (P:=P) w ⟨g,off,none⟩ cs (λj v hv=>by rw[qe];exact hc j v hv);rw[hl]at h2;simp only[if_true,zJ,h.sizeOf,zD,h2,zI];exact⟨_,rfl,(RepD.agg hd).2 ⟨_,rfl,hr⟩⟩
 |false=>
  obtain⟨u,rfl⟩:=RepC.single hd hr;refine⟨u,?_,(RepD.scalar hd).2 hr⟩;have:=hc 0 u rfl;simp[load,Sem.run,show w.cell? ⟨g,off,none⟩=some u from this]
theorem Lay.loadAt{Z:Ty}{t:zy}(h:Lay P Z (.inl t)){x:Z.T}{cs:List zi}{g off:Nat}(hr:RepC w O Z x cs)(hc:CellsAt w g off cs):
  ∃u,(qL t (.pointer (some ⟨g,off,none⟩))).run P w=.ok u w/\RepD w O Z x u:=by
 obtain⟨u,h1,h2⟩:=h.loadVar hr hc;exact⟨u,by simp[qL,qa,h1],h2⟩
def zge:Nat->(t:Ty)->t.T->Option V
 |0,.pair a _,x=>some ⟨a,x.1⟩
 |n+1,.pair _ b,x=>zge n b x.2
 |_,_,_=>none
def zaV:Nat->Ty->Nat
 |n+1,.pair a b=>a.size+zaV n b
 |_,_=>0
theorem zcW:∀(n:Nat)(Z:Ty)(x:Z.T)(v:V)(fs:List uV)(off:Nat)(cs:List zi),zge n Z x=some v->Lay P Z (.inr (fs,off))->RepC w O Z x cs->
  ∃f,fs[n]? =some f/\f.offset=off+zaV n Z/\Lay P v.t (.inl f.type)/\RepC w O v.t v.x ((cs.drop (zaV n Z)).take v.t.size)
 |0,.pair a b,x,v,fs,off,cs,h,hl,hr=>by
  cases h;obtain⟨f,r,h1,h2,h3,h4⟩:=hl;obtain⟨c1,c2,rfl,h5,h6⟩:=hr;simp only at h1 h2;subst h1;refine⟨f,rfl,by simp[zaV,h2],h3,?_⟩;have:=RepC.len _ _ _ h5;simp[zaV, <-this,h5]
 |n+1,.pair a b,x,v,fs,off,cs,h,hl,hr=>by
  obtain⟨f,r,h1,h2,h3,h4⟩:=hl;obtain⟨c1,c2,rfl,h5,h6⟩:=hr;simp only at h1 h2;subst h1;obtain⟨f',h7,h8,h9,x0⟩:=zcW n b x.2 v r _ c2 h h4 h6;have:=RepC.len _ _ _ h5;refine⟨f',by simpa using h7,by rw[h8];simp[zaV,vk],h9,?_⟩;rw[show zaV (n+1) (.pair a b)=c1.length+zaV n b by simp[zaV,this],jj];exact x0
 |0,.unit,_,_,_,_,_,h,_,_=>by cases h
 |_+1,.unit,_,_,_,_,_,h,_,_=>by cases h
 |n,.bool,_,_,_,_,_,h,_,_=>by cases n<;>cases h
 |n,.int _,_,_,_,_,_,h,_,_=>by cases n<;>cases h
 |n,.str,_,_,_,_,_,h,_,_=>by cases n<;>cases h
 |n,.arr _ _,_,_,_,_,_,h,_,_=>by cases n<;>cases h
 |n,.slice _,_,_,_,_,_,h,_,_=>by cases n<;>cases h
 |n,.junk,_,_,_,_,_,h,_,_=>by cases n<;>cases h
 |n,.lit,_,_,_,_,_,h,_,_=>by cases n<;>cases h
 |n,.vptr _,_,_,_,_,_,h,_,_=>by cases n<;>cases h
 |n,.cptr _ _ _,_,_,_,_,_,h,_,_=>by cases n<;>cases h
 |n,.optr _,_,_,_,_,_,h,_,_=>by cases n<;>cases h
 |n,.obuf _,_,_,_,_,_,h,_,_=>by cases n<;>cases h
 |n,.tup _ _,_,_,_,_,_,h,_,_=>by cases n<;>cases h
 |n,.cond _,_,_,_,_,_,h,_,_=>by cases n<;>cases h
theorem Lay.struct{n:Nat}{Z:Ty}{t:zy}(h:Lay P Z (.inl t)){x:Z.T}{v:V}(hv:zge n Z x=some v):
  ∃fs,P.underlying t=some (.struct fs)/\Lay P Z (.inr (fs.toList,0)):=by
 cases Z with
 |pair a b=>
  obtain⟨fs,h1,_,f,r,h2,h3,h4,h5⟩:=h;exact⟨fs,h1,f,r,h2,h3,h4,by simpa using h5⟩
 |_=>cases n<;>cases hv
theorem Lay.field{n:Nat}{Z:Ty}{t:zy}(h:Lay P Z (.inl t)){x:Z.T}{v:V}(hv:zge n Z x=some v){u:zi}(hr:RepD w O Z x u):
  ∃y,(fL t u n).run P w=.ok y w/\RepD w O v.t v.x y:=by
 obtain⟨fs,h1,h2⟩:=h.struct hv;have x0:Z.isAgg=true:=by cases Z<;>first|rfl|(cases n<;>cases hv)
 obtain⟨cs,rfl,hc⟩:=(RepD.agg x0).1 hr;obtain⟨f,h3,h4,h5,h6⟩:=zcW n Z x v _ _ cs hv h2 hc;rw[xV]at h4;obtain⟨y,h7,h8⟩:=h5.part h6;refine⟨y,?_,h8⟩;unfold fL;simp only[zJ,run_underlying h1,zD];rw[show fs[n]? =some f by simpa using h3];simp only[asAgg,zJ,zI,zD,h4];exact h7
end
def allP:List Prop->Prop
 | []=>True
 | [p]=>p
 |p::q::r=>p/\allP (q::r)
theorem zho{p:Prop}{r:List Prop}:allP (p::r)↔p/\allP r:=by
 cases r<;>simp[allP]
theorem zav{a b:List Prop}:allP (a++b)↔allP a/\allP b:=by
 induction a with
 |nil=>simp[allP]
 |cons p a ih=>rw[List.cons_append,zho,zho,ih,and_assoc]
theorem zq8{a:List Prop}:allP a↔∀p∈a,p:=by
 induction a with
 |nil=>simp[allP]
 |cons p a ih=>
  rw[zho,ih];constructor
  .rintro ⟨h1,h2⟩ q hq;rcases zE.1 hq with rfl|hq
   .exact h1
   .exact h2 q hq
  .exact λh=>⟨h p (yN ..),λq hq=>h q (List.mem_cons_of_mem _ hq)⟩
def inR(k:qo)(n:Int):Prop:=k.min<=n/\n<=k.max
theorem zc2{n:Int}:inR .i64 n↔ -9223372036854775808<=n/\n<=9223372036854775807:=by
 simp[inR,wG,uW,jA,qM]
theorem zbV{k:qo}{n:Int}(h:inR k n):k.wrap n=n:=by
 unfold inR wG uW at h;cases k<;>simp[v8,jA,qM]at h ⊢<;>omega
theorem zdz(n:Int):IntKind.u8.wrap n=n%256:=by simp[v8,qM,jA]
theorem zpM(n:Int):IntKind.u16.wrap n=n%65536:=by simp[v8,qM,jA]
theorem zpL(n:Int):IntKind.u32.wrap n=n%4294967296:=by simp[v8,qM,jA]
theorem zpK(n:Int):IntKind.u64.wrap n=n%18446744073709551616:=by simp[v8,qM,jA]
abbrev arS(k:qo)(op:kT)(x y:Int):Option (List Prop×Int):=
 match op with
 |.add=>some ([inR k (x+y)],x+y)
 |.sub=>some ([inR k (x-y)],x-y)
 |.mul=>some ([inR k (x*y)],x*y)
 |.quo=>some ([y≠0,inR k (x.tdiv y)],x.tdiv y)
 |.rem=>some ([y≠0],x.tmod y)
 |.or=>some ([0<=x,0<=y,x.toNat<2^(k.bits-1),y.toNat<2^(k.bits-1)],((x.toNat|||y.toNat:Nat):Int))
 |.and=>some ([0<=x,0<=y,x.toNat<2^(k.bits-1),y.toNat<2^(k.bits-1)],((x.toNat&&& y.toNat:Nat):Int))
 |_=>none
abbrev ar8(op:kT)(x y:UInt8):Option (List Prop×UInt8):=
 match op with
 |.add=>some ([],x+y)
 |.sub=>some ([],x-y)
 |.mul=>some ([],x*y)
 |.quo=>some ([y≠0],x/y)
 |.rem=>some ([y≠0],x%y)
 |.and=>some ([],x&&& y)
 |.or=>some ([],x|||y)
 |.xor=>some ([],x ^^^ y)
 |_=>none
abbrev arB(w:Nat)(op:kT)(x y:BitVec w):Option (List Prop×BitVec w):=
 match op with
 |.add=>some ([],x+y)
 |.sub=>some ([],x-y)
 |.mul=>some ([],x*y)
 |.quo=>some ([y≠0],x/y)
 |.rem=>some ([y≠0],x%y)
 |.and=>some ([],x&&& y)
 |.or=>some ([],x|||y)
 |.xor=>some ([],x ^^^ y)
 |_=>none
def arI(op:kT):(k:qo)->IntT k->IntT k->Option (List Prop×IntT k)
 |.u8,x,y=>ar8 op x y
 |.u16,x,y=>arB 16 op x y
 |.u32,x,y=>arB 32 op x y
 |.u64,x,y=>arB 64 op x y
 |.i8,x,y=>arS .i8 op x y
 |.i16,x,y=>arS .i16 op x y
 |.i32,x,y=>arS .i32 op x y
 |.i64,x,y=>arS .i64 op x y
def cmpI(op:kT)(a b:Int):Option Bool:=
 match op with
 |.eql=>some (a==b)
 |.neq=>some (a != b)
 |.lss=>some (decide (a<b))
 |.leq=>some (decide (a<=b))
 |.gtr=>some (decide (a>b))
 |.geq=>some (decide (a>=b))
 |_=>none
def shI(op:kT):(k:qo)->IntT k->Int->Option (List Prop×IntT k)
 |.u8,x,n=>match op with
  |.shl=>some ([0<=n],(zM (vZ x <<< n.toNat):UInt8))
  |.shr=>some ([0<=n],(zM (vZ x >>> n.toNat):UInt8))
  |_=>none
 |.u16,x,n=>shB 16 op x n
 |.u32,x,n=>shB 32 op x n
 |.u64,x,n=>shB 64 op x n
 |.i8,_,_=>none
 |.i16,_,_=>none
 |.i32,_,_=>none
 |.i64,x,n=>match op with
  |.shl=>some ([0<=n,n<=63,inR .i64 ((x:Int)*2^n.toNat)],((x:Int)*2^n.toNat:Int))
  |.shr=>some ([0<=n,n<=63],((x:Int)/2^n.toNat:Int))
  |_=>none
where
 shB (w:Nat) (op:kT) (x:BitVec w) (n:Int):Option (List Prop×BitVec w):=
  match op with
  |.shl=>some ([0<=n],x <<< n.toNat)
  |.shr=>some ([0<=n],x >>> n.toNat)
  |_=>none
def cvI:(k l:qo)->IntT k->Option (List Prop×IntT l)
 |.u8,.u8,x=>some ([],(x:UInt8))
 |.u16,.u8,x=>some ([],(zM (qv (w:=16) x):UInt8))
 |.u32,.u8,x=>some ([],(zM (qv (w:=32) x):UInt8))
 |.u64,.u8,x=>some ([],(zM (qv (w:=64) x):UInt8))
 |.i64,.u8,x=>some ([],(zM ((x:Int)%256).toNat:UInt8))
 |.u8,.u16,x=>some ([],zW 16 (vZ x))
 |.u8,.u32,x=>some ([],zW 32 (vZ x))
 |.u8,.u64,x=>some ([],zW 64 (vZ x))
 |.u32,.u64,x=>some ([],zW 64 (qv (w:=32) x))
 |.u64,.u32,x=>some ([],zW 32 (qv (w:=64) x))
 |.u32,.u32,x=>some ([],(x:BitVec 32))
 |.u64,.u64,x=>some ([],(x:BitVec 64))
 |.i64,.u64,x=>some ([],zV 64 (x:Int))
 |.i64,.u32,x=>some ([],zV 32 (x:Int))
 |.u8,.i64,x=>some ([],((vZ x:Nat):Int))
 |.u16,.i64,x=>some ([],((qv (w:=16) x:Nat):Int))
 |.u32,.i64,x=>some ([],((qv (w:=32) x:Nat):Int))
 |.u64,.i64,x=>some ([inR .i64 ((qv (w:=64) x:Nat):Int)],((qv (w:=64) x:Nat):Int))
 |.i64,.i64,x=>some ([inR .i64 (x:Int)],(x:Int))
 |_,_,_=>none
def unI(op:UnOp):(k:qo)->IntT k->Option (List Prop×IntT k)
 |.u8,x=>match op with |.xor=>some ([],(~~~ (x:UInt8):UInt8))|_=>none
 |.u16,x=>match op with |.xor=>some ([], ~~~ (x:BitVec 16))|_=>none
 |.u32,x=>match op with |.xor=>some ([], ~~~ (x:BitVec 32))|_=>none
 |.u64,x=>match op with |.xor=>some ([], ~~~ (x:BitVec 64))|_=>none
 |.i64,x=>match op with |.neg=>some ([inR .i64 (-(x:Int))],(-(x:Int):Int))|_=>none
 |_,_=>none
section
variable {P:zA}{w:zj}
def zbv(op:kT)(k:qo)(a b:Int):Sem zi:=
 match op with
 |.add|.sub|.mul=>vG op k a b
 |.quo|.rem=>wm op k a b
 |.and|.or|.xor|.andNot=>vA op k a b
 |_=>Op.intCmp op a b
theorem zpo{op:kT}{t:zy}{k:qo}{a b:Int}(h1:op≠ .shl)(h2:op≠ .shr):xS op t (.int k a) (.int k b)=zbv op k a b:=by
 cases op<;>simp_all [xS,zbv]
theorem zuq{k:qo}{x y:Int}(h1:0<=x)(h2:0<=y)(h3:x.toNat<2^(k.bits-1))(h4:y.toNat<2^(k.bits-1)):(vA .or k x y).run P w=.ok (.int k ((x.toNat|||y.toNat:Nat):Int)) w:=by
 have h5:x.toNat|||y.toNat<2^(k.bits-1):=Nat.or_lt_two_pow h3 h4
 have hb:k.bits-1+1=k.bits:=by cases k<;>rfl
 have h6:2^(k.bits-1)<=2^k.bits:=jG o_ o_;have ex:(zV k.bits x).toNat=x.toNat:=by rw[show x=((x.toNat:Nat):Int) by omega,jH,xA,zS,qg o_]
 have ey:(zV k.bits y).toNat=y.toNat:=by rw[show y=((y.toNat:Nat):Int) by omega,jH,xA,zS,qg o_]
 have hw:k.wrap ((x.toNat|||y.toNat:Nat):Int)=((x.toNat|||y.toNat:Nat):Int):=by
  refine zbV ?_;unfold inR wG uW;cases k<;>simp[jA,qM]at h5 ⊢<;>omega
 simp only[vA,zI,BitVec.toNat_or,ex,ey,hw]
theorem ztF{k:qo}{x y:Int}(h1:0<=x)(h2:0<=y)(h3:x.toNat<2^(k.bits-1))(h4:y.toNat<2^(k.bits-1)):(vA .and k x y).run P w=.ok (.int k ((x.toNat&&& y.toNat:Nat):Int)) w:=by
 have h5:x.toNat&&& y.toNat<2^(k.bits-1):=Nat.and_lt_two_pow _ h4;have hb:k.bits-1+1=k.bits:=by cases k<;>rfl
 have h6:2^(k.bits-1)<=2^k.bits:=jG o_ o_;have ex:(zV k.bits x).toNat=x.toNat:=by rw[show x=((x.toNat:Nat):Int) by omega,jH,xA,zS,qg o_]
 have ey:(zV k.bits y).toNat=y.toNat:=by rw[show y=((y.toNat:Nat):Int) by omega,jH,xA,zS,qg o_]
 have hw:k.wrap ((x.toNat&&& y.toNat:Nat):Int)=((x.toNat&&& y.toNat:Nat):Int):=by
  refine zbV ?_;unfold inR wG uW;cases k<;>simp[jA,qM]at h5 ⊢<;>omega
 simp only[vA,zI,BitVec.toNat_and,ex,ey,hw]
theorem zi6{k:qo}{op:kT}{x y:Int}{vc:List Prop}{z:Int}(h:arS k op x y=some (vc,z))(hv:allP vc):(zbv op k x y).run P w=.ok (.int k z) w:=by
 cases op<;>simp only[arS,qI,yL,reduceCtorEq]at h<;>obtain⟨rfl,rfl⟩:=h<;>simp only[allP]at hv
 .simp[zbv,vG,zbV hv]
 .simp[zbv,vG,zbV hv]
 .simp[zbv,vG,zbV hv]
 .simp[zbv,wm,hv.1,zbV hv.2]
 .simp[zbv,wm,hv]
 .exact ztF hv.1 hv.2.1 hv.2.2.1 hv.2.2.2
 .exact zuq hv.1 hv.2.1 hv.2.2.1 hv.2.2.2
theorem zfb(w n:Nat):zV w (n:Int)=zW w n:=by simp
theorem zvv(x y:UInt8):(zV 8 (x.toNat:Int))=x.toBitVec:=by rw[zfb, <-UInt8.toNat_toBitVec,BitVec.ofNat_toNat,BitVec.setWidth_eq]
theorem ztC{op:kT}{x y:UInt8}{vc:List Prop}{z:UInt8}(h:ar8 op x y=some (vc,z))(hv:allP vc):(zbv op .u8 (x.toNat:Int) (y.toNat:Int)).run P w=.ok (.int .u8 (z.toNat:Int)) w:=by
 have hx:=x.toNat_lt;have hy:=y.toNat_lt;have ex:=zvv x x;have ey:=zvv y y;cases op<;>simp only[ar8,qI,yL,reduceCtorEq]at h<;>obtain⟨rfl,rfl⟩:=h<;>simp only[allP]at hv
 .simp only[zbv,vG,zI,zdz,UInt8.toNat_add];congr 2
 .simp only[zbv,vG,zI,zdz,UInt8.toNat_sub];congr 2;omega
 .simp only[zbv,vG,zI,zdz,UInt8.toNat_mul];congr 2
 .have:(y.toNat:Int)≠0:=by intro e;apply hv;apply fR;simpa using e
  simp only[zbv,wm,this,if_false,zI,zdz,UInt8.toNat_div]
  congr 2
  rw[wn o_];have h1:x.toNat/y.toNat<256:=gX (Nat.div_le_self _ _) hx;rw[<-wR];generalize x.toNat/y.toNat=q at *;omega
 .have:(y.toNat:Int)≠0:=by intro e;apply hv;apply fR;simpa using e
  simp only[zbv,wm,this,if_false,zI,UInt8.toNat_mod]
  congr 2
 .simp only[zbv,vA,qM,ex,ey,zI,zdz]
  congr 2
  have:=(x&&& y).toNat_lt;rw[jR o_ (by have:=(x.toBitVec&&& y.toBitVec).isLt;omega)];rfl
 .simp only[zbv,vA,qM,ex,ey,zI,zdz]
  congr 2
  rw[jR o_ (by have:=(x.toBitVec|||y.toBitVec).isLt;omega)];rfl
 .simp only[zbv,vA,qM,ex,ey,zI,zdz]
  congr 2
  rw[jR o_ (by have:=(x.toBitVec ^^^ y.toBitVec).isLt;omega)];rfl
theorem zf1{m:Nat}(x:BitVec m):((x.toNat:Int))%(2^m:Int)=x.toNat:=by
 have:=x.isLt;rw[jR o_ (by exact_mod_cast this)]
theorem zln{k:qo}(hk:k.signed=false){op:kT}{x y:BitVec k.bits}{vc:List Prop}{z:BitVec k.bits}(h:arB k.bits op x y=some (vc,z))(hv:allP vc):
  (zbv op k (x.toNat:Int) (y.toNat:Int)).run P w=.ok (.int k (z.toNat:Int)) w:=by
 have hw:∀n,k.wrap n=n%(2^k.bits:Int):=λn=>by simp[v8,hk]
 have ex:zV k.bits (x.toNat:Int)=x:=by rw[zfb];simp
 have ey:zV k.bits (y.toNat:Int)=y:=by rw[zfb];simp
 cases op<;>simp only[arB,qI,yL,reduceCtorEq]at h<;>obtain⟨rfl,rfl⟩:=h<;>simp only[allP]at hv
 .simp only[zbv,vG,zI,hw,BitVec.toNat_add];norm_cast
 .simp only[zbv,vG,zI,hw,BitVec.toNat_sub]
  congr 2
  have:=y.isLt
  push_cast
  rw[Int.natCast_sub o_]
  push_cast
  rw[show((2:Int)^k.bits-(y.toNat:Int)+x.toNat)=(x.toNat-y.toNat)+(2:Int)^k.bits by omega,Int.add_emod_right]
 .simp only[zbv,vG,zI,hw,BitVec.toNat_mul];norm_cast
 .have:(y.toNat:Int)≠0:=by intro e;apply hv;apply vd;simpa using e
  simp only[zbv,wm,this,if_false,zI,hw]
  congr 2
  rw[wn o_, <-wR, <-BitVec.toNat_udiv];exact zf1 _
 .have:(y.toNat:Int)≠0:=by intro e;apply hv;apply vd;simpa using e
  simp only[zbv,wm,this,if_false,zI]
  congr 2
 .simp only[zbv,vA,ex,ey,zI,hw,zf1]
 .simp only[zbv,vA,ex,ey,zI,hw,zf1]
 .simp only[zbv,vA,ex,ey,zI,hw,zf1]
theorem zrU{op:kT}{k:qo}{x y:IntT k}{r:List Prop×IntT k}(h:arI op k x y=some r):op≠ .shl/\op≠ .shr:=by
 constructor<;>(rintro rfl;cases k<;>cases h)
theorem ztB{op:kT}{k:qo}{t:zy}{x y:IntT k}{vc:List Prop}{z:IntT k}(h:arI op k x y=some (vc,z))(hv:allP vc):
  (xS op t (.int k (encI k x)) (.int k (encI k y))).run P w=.ok (.int k (encI k z)) w:=by
 rw[zpo (zrU h).1 (zrU h).2];cases k with
 |u8=>exact ztC h hv
 |u16=>exact zln (k:=.u16) rfl h hv
 |u32=>exact zln (k:=.u32) rfl h hv
 |u64=>exact zln (k:=.u64) rfl h hv
 |i8=>exact zi6 h hv
 |i16=>exact zi6 h hv
 |i32=>exact zi6 h hv
 |i64=>exact zi6 h hv
theorem zqS{op:kT}{k:qo}{t:zy}{a b:Int}{r:Bool}(h:cmpI op a b=some r):(xS op t (.int k a) (.int k b)).run P w=.ok (.bool r) w:=by
 cases op<;>simp only[cmpI,qI,reduceCtorEq]at h<;>subst h<;>simp[xS,Op.intCmp]
theorem znt{op:kT}{k l:qo}{t:zy}{x:IntT k}{n:Int}{vc:List Prop}{z:IntT k}(h:shI op k x n=some (vc,z))(hv:allP vc):
  (xS op t (.int k (encI k x)) (.int l n)).run P w=.ok (.int k (encI k z)) w:=by
 have key:∀(k:qo)(hk:k.signed=false)(x:BitVec k.bits)(vc:List Prop)(z:BitVec k.bits),shI.shB k.bits op x n=some (vc,z)->allP vc->
   (xS op t (.int k (x.toNat:Int)) (.int l n)).run P w=.ok (.int k (z.toNat:Int)) w:=by
  intro k hk x vc z h hv;have hw:∀n,k.wrap n=n%(2^k.bits:Int):=λn=>by simp[v8,hk]
  cases op<;>simp only[shI.shB,qI,yL,reduceCtorEq]at h<;>obtain⟨rfl,rfl⟩:=h<;>simp only[allP]at hv
  .simp only[xS,wS,kw.mpr hv,if_false,hw,zI]
   congr 2
   rw[BitVec.toNat_shiftLeft,Nat.shiftLeft_eq]
   push_cast
   rcases gb n.toNat k.bits with h1|h1
   .rw[qm h1]
   .rw[jI h1];have e1:(2:Int)^n.toNat=2^k.bits*2^(n.toNat-k.bits):=by rw[<-Int.pow_add];congr 1;omega
    rw[e1,ff, <-Int.mul_assoc,Int.mul_comm (x.toNat:Int),Int.mul_assoc,gY]
  .simp only[xS,wS,kw.mpr hv,if_false,zI]
   congr 2
   rw[BitVec.toNat_ushiftRight,jb,kZ _ (gc (wH d_))]
   push_cast
   rcases gb n.toNat k.bits with h1|h1
   .rw[qm h1]
   .rw[jI h1];have:=x.isLt;have e0:(x.toNat:Int)<2^k.bits:=by exact_mod_cast this
    have e1:(2:Int)^k.bits<=2^n.toNat:=by exact_mod_cast jG d_ h1
    rw[kx o_ e0,kx o_ o_]
 cases k with
 |u16=>exact key .u16 rfl x vc z h hv
 |u32=>exact key .u32 rfl x vc z h hv
 |u64=>exact key .u64 rfl x vc z h hv
 |u8=>
  have hx:=vK x;cases op<;>simp only[shI,qI,yL,reduceCtorEq]at h<;>obtain⟨rfl,rfl⟩:=h<;>simp only[allP]at hv
  .simp only[xS,wS,kw.mpr hv,if_false,zdz,zI,encI]
   congr 2
   simp only[jd,Nat.shiftLeft_eq,qM];rw[Int.natCast_emod,Int.natCast_mul,Int.natCast_pow,show((2:Nat):Int)=2 from rfl,show((2^8:Nat):Int)=256 from rfl];rcases gb n.toNat 8 with h1|h1
   .rw[qm h1]
   .rw[jI h1];have e1:(2:Int)^n.toNat=256*2^(n.toNat-8):=by rw[show(256:Int)=2^8 by rfl, <-Int.pow_add];congr 1;omega
    rw[e1,Int.mul_left_comm,gY,show(2:Int)^8=256 from rfl,ff]
  .simp only[xS,wS,kw.mpr hv,if_false,zI,encI]
   congr 2
   rw[kZ _ (gc (wH d_))];simp only[jd,jb,qM];have h3:vZ x/2^n.toNat<256:=gX (Nat.div_le_self _ _) hx;rw[show 2^8=256 from rfl,qg h3,wR,Int.natCast_pow,show((2:Nat):Int)=2 from rfl];rcases gb n.toNat 8 with h1|h1
   .rw[qm h1]
   .rw[jI h1];have e1:(2:Int)^8<=2^n.toNat:=by exact_mod_cast jG d_ h1
    rw[kx o_ o_,kx o_ o_]
 |i64=>
  cases op<;>simp only[shI,qI,yL,reduceCtorEq]at h<;>obtain⟨rfl,rfl⟩:=h<;>simp only[allP]at hv
  .have:min n.toNat qV.bits=n.toNat:=by simp only[qM];omega
   simp only[xS,wS,kw.mpr hv.1,if_false,this,encI,zbV hv.2.2,zI]
  .have:min n.toNat qV.bits=n.toNat:=by simp only[qM];omega
   simp only[xS,wS,kw.mpr hv.1,if_false,this,encI,zI];rw[kZ _ (gc (wH d_))]
 |i8=>cases h
 |i16=>cases h
 |i32=>cases h
theorem zqP{k l:qo}{x:IntT k}{vc:List Prop}{z:IntT l}(h:cvI k l x=some (vc,z))(hv:allP vc):l.wrap (encI k x)=encI l z:=by
 have bv:∀(m:Nat)(x:BitVec m)(c:Int),c=2^m->(qv x:Int)%c=x.toNat:=λm x c hc=>by rw[hc];exact zf1 x
 cases k<;>cases l<;>simp only[cvI,qI,yL,reduceCtorEq]at h<;>obtain⟨rfl,rfl⟩:=h<;>simp only[allP]at hv<;>
  simp only[encI,zdz,zpM,zpL,zpK]<;>first
  |exact zbV hv
  |exact bv _ _ _ d_
  |(have:=vK x;rw[zbV];rw[zc2];omega)
  |(have:=BitVec.isLt (w:=16) x;rw[zbV];rw[zc2];omega)
  |(have:=BitVec.isLt (w:=32) x;rw[zbV];rw[zc2];omega)
  |(have:=vK x;omega)
  |(simp only[jd,xA,BitVec.toNat_ofInt];omega)
theorem zsf{op:UnOp}{k:qo}{x:IntT k}{vc:List Prop}{z:IntT k}(h:unI op k x=some (vc,z))(hv:allP vc):(fg op (.int k (encI k x))).run P w=.ok (.int k (encI k z)) w:=by
 have key:∀(k:qo)(hk:k.signed=false)(x:BitVec k.bits),(fg .xor (.int k (x.toNat:Int))).run P w=.ok (.int k ((~~~ x).toNat:Int)) w:=by
  intro k hk x;have ex:zV k.bits (x.toNat:Int)=x:=by rw[zfb];simp
  have em:zV k.bits k.max=BitVec.allOnes k.bits:=by cases k<;>first|rfl|cases hk
  have hw:∀n,k.wrap n=n%(2^k.bits:Int):=λn=>by simp[v8,hk]
  simp only[fg,hk,xZ,if_false,vA,ex,em,zI,hw];rw[BitVec.allOnes_xor,zf1]
 cases k with
 |u8=>
  cases op<;>simp only[unI,qI,yL,reduceCtorEq]at h;obtain⟨rfl,rfl⟩:=h;exact key .u8 rfl (UInt8.toBitVec x)
 |u16=>cases op<;>simp only[unI,qI,yL,reduceCtorEq]at h;obtain⟨rfl,rfl⟩:=h;exact key .u16 rfl x
 |u32=>cases op<;>simp only[unI,qI,yL,reduceCtorEq]at h;obtain⟨rfl,rfl⟩:=h;exact key .u32 rfl x
 |u64=>cases op<;>simp only[unI,qI,yL,reduceCtorEq]at h;obtain⟨rfl,rfl⟩:=h;exact key .u64 rfl x
 |i64=>
  cases op<;>simp only[unI,qI,yL,reduceCtorEq]at h;obtain⟨rfl,rfl⟩:=h;simp only[allP]at hv;simp[fg,vG,encI,zbV hv]
 |_=>cases op<;>cases h
end
open Classical in
noncomputable def eqb(t:Ty)(x y:t.T):Bool:=decide (x=y)
theorem zbt{t:Ty}{x y:t.T}:eqb t x y=true↔x=y:=by unfold eqb;simp
theorem zfn{t:Ty}{x y:t.T}{b:Bool}(h:b=true↔x=y):b=eqb t x y:=by
 rw[Bool.eq_iff_iff,h,zbt]
theorem zia{t:Ty}{x y:t.T}[Decidable (x=y)]:eqb t x y=decide (x=y):=by
 rw[Bool.eq_iff_iff,zbt,decide_eq_true_iff]
theorem zdR{t:Ty}(x:t.T):eqb t x x=true:=zbt.2 rfl
def Cmp(P:zA):Ty->zy ⊕ List uV->Bool
 |.bool,_|.int _,_|.str,_=>true
 |.unit,.inl t=>!P.stoodInHeld t
 |.unit,.inr _=>true
 |.pair a b,.inl t=>!P.stoodInHeld t&&(match P.underlying t with |some (.struct fs)=>(match fs.toList with |f::r=>decide (f.name≠ "_")&&Cmp P a (.inl f.type)&&Cmp P b (.inr r)|_=>false)|_=>false)
 |.pair a b,.inr m=>(match m with |f::r=>decide (f.name≠ "_")&&Cmp P a (.inl f.type)&&Cmp P b (.inr r)|_=>false)
 |.arr _ e,.inl t=>(match P.underlying t with |some (.array _ te)=>Cmp P e (.inl te)|_=>false)
 |_,_=>false
def Ty.depth:Ty->Nat
 |.pair a b=>max a.depth b.depth+1
 |.arr _ e=>e.depth+1
 |_=>1
theorem zqH{k:qo}{x y:IntT k}:encI k x=encI k y↔x=y:=by
 cases k<;>simp only[encI]
 .rw[wb];exact UInt8.toNat_inj
 .rw[wb];exact wT
 .rw[wb];exact wT
 .rw[wb];exact wT
section
variable {P:zA}{w:zj}{O O':Nat->Prop}
theorem zk2:∀(Z:Ty)(d:Nat),Z.depth<=d->
  (∀(t:zy)(x y:Z.T)(u v:zi),Lay P Z (.inl t)->Cmp P Z (.inl t)=true->RepD w O Z x u->RepD w O' Z y v->(Op.equalIn d t u v).run P w=.ok (eqb Z x y) w)/\
  (∀(fs:List uV)(off:Nat)(x y:Z.T)(pre x0 cs ds:List zi),Lay P Z (.inr (fs,off))->Cmp P Z (.inr fs)=true->RepC w O Z x cs->RepC w O' Z y ds->pre.length=off->x0.length=off->
    (wI d (pre++cs).toArray (x0++ds).toArray fs).run P w=.ok (eqb Z x y) w):=by
 intro Z
 induction Z with
 |bool=>
  intro d hd;obtain⟨d,rfl⟩:∃e,d=e+1:=⟨d-1,by simp[Ty.depth]at hd;omega⟩;refine⟨λt x y u v hl hc hx hy=>?_,λfs off x y pre x0 cs ds hl=>absurd hl (by simp[Lay])⟩;have h1:=(RepD.scalar rfl).1 hx;have h2:=(RepD.scalar rfl).1 hy;simp only[RepC,gk,and_true]at h1 h2;subst h1;subst h2;rw[run_equalIn_bool' w d t _ _ hl.1]
  congr 1
  exact zfn (by simp)
 |int k=>
  intro d hd;obtain⟨d,rfl⟩:∃e,d=e+1:=⟨d-1,by simp[Ty.depth]at hd;omega⟩;refine⟨λt x y u v hl hc hx hy=>?_,λfs off x y pre x0 cs ds hl=>absurd hl (by simp[Lay])⟩;have h1:=(RepD.scalar rfl).1 hx;have h2:=(RepD.scalar rfl).1 hy;simp only[RepC,gk,and_true]at h1 h2;subst h1;subst h2;rw[run_equalIn_int w d t _ k _ _ hl.1]
  congr 1
  exact zfn (by rw[beq_iff_eq];exact zqH)
 |str=>
  intro d hd;obtain⟨d,rfl⟩:∃e,d=e+1:=⟨d-1,by simp[Ty.depth]at hd;omega⟩;refine⟨λt x y u v hl hc hx hy=>?_,λfs off x y pre x0 cs ds hl=>absurd hl (by simp[Lay])⟩;have h1:=((RepD.scalar rfl).1 hx).1;have h2:=((RepD.scalar rfl).1 hy).1;simp only[gk,and_true]at h1 h2;subst h1;subst h2;rw[run_equalIn_string w d t _ _ hl.1]
  congr 1
  rw[kl,kl];exact zfn (by simp)
 |unit=>
  intro d hd;obtain⟨d,rfl⟩:∃e,d=e+1:=⟨d-1,by simp[Ty.depth]at hd;omega⟩;refine⟨λt x y u v hl hc hx hy=>?_,λfs off x y pre x0 cs ds hl hc hx hy hp hq=>?_⟩
  .obtain⟨fs,hu,hi,hf⟩:=hl;obtain⟨cs,rfl,hx⟩:=(RepD.agg rfl).1 hx;obtain⟨ds,rfl,hy⟩:=(RepD.agg rfl).1 hy;simp only[Cmp,xJ]at hc;have x1:P.fieldsOf t=fs:=by simp[fB,hu]
   rw[run_equalIn_struct w d t _ _ (x1▸hu) hc,x1,hf];simp only[wI,zI]
   congr 1
   exact(zbt.2 rfl).symm
  .have:fs=[]:=hl;subst this;simp only[wI,zI]
   congr 1
   exact(zbt.2 rfl).symm
 |pair a b iha ihb=>
  have key:∀d,(Ty.pair a b).depth<=d+1->∀(fs:List uV)(off:Nat)(x y:(Ty.pair a b).T)(pre x0 cs ds:List zi),Lay P (.pair a b) (.inr (fs,off))->Cmp P (.pair a b) (.inr fs)=true->RepC w O (.pair a b) x cs->RepC w O' (.pair a b) y ds->pre.length=off->x0.length=off->
   (wI d (pre++cs).toArray (x0++ds).toArray fs).run P w=.ok (eqb (.pair a b) x y) w:=by
   intro d hd fs off x y pre x0 cs ds hl hc hx hy hp hq;simp only[Ty.depth]at hd;obtain⟨f,r,h1,h2,h3,h4⟩:=hl;simp only at h1 h2 h4;subst h1;simp only[Cmp,zh,decide_eq_true_eq]at hc;obtain⟨c1,c2,rfl,x6,xd⟩:=hx;obtain⟨d1,d2,rfl,x7,xc⟩:=hy;have lc:=RepC.len _ _ _ x6;have ld:=RepC.len _ _ _ x7;have e1:RepC w O a x.1 (((pre++(c1++c2)).drop f.offset).take a.size):=by
    rw[h2, <-hp,jC, <-lc,qQ];exact x6
   have e2:RepC w O' a y.1 (((x0++(d1++d2)).drop f.offset).take a.size):=by
    rw[h2, <-hq,jC, <-ld,qQ];exact x7
   obtain⟨u1,p1,q1⟩:=h3.part e1;obtain⟨v1,p2,q2⟩:=h3.part e2;have:=(iha d o_).1 _ _ _ _ _ h3 hc.1.2 q1 q2;have i2:=(ihb d o_).2 r (off+a.size) x.2 y.2 (pre++c1) (x0++d1) c2 d2 h4 hc.2 xd xc (by simp[hp,lc]) (by simp[hq,ld]);simp only[zB]at i2;simp only[wI,ne_eq,hc.1.1,not_false_eq_true,if_true,zJ,p1,p2,this,zD];cases he:eqb a x.1 y.1 with
   |true=>
    simp only[kO,xZ,if_false,i2]
    congr 1
    refine zfn ?_;rw[zbt];have:=zbt.1 he;constructor
    .intro h;exact Prod.ext this h
    .intro h;rw[h]
   |false=>
    simp only[wo,if_true,zI]
    congr 1
    refine zfn ?_;constructor
    .intro h;cases h
    .intro h;rw[h,zdR]at he;cases he
  intro d hd;obtain⟨d,rfl⟩:∃e,d=e+1:=⟨d-1,by simp[Ty.depth]at hd;omega⟩;refine⟨λt x y u v hl hc hx hy=>?_,λfs off x y pre x0 cs ds hl hc hx hy hp hq=>key (d+1) o_ fs off x y pre x0 cs ds hl hc hx hy hp hq⟩;obtain⟨fs,hu,hi,f,r,h1,h2,h3,h4⟩:=hl;obtain⟨cs,rfl,xb⟩:=(RepD.agg rfl).1 hx;obtain⟨ds,rfl,x8⟩:=(RepD.agg rfl).1 hy;simp only[Cmp,zh,xJ,hu,h1]at hc;have x1:P.fieldsOf t=fs:=by simp[fB,hu]
  rw[run_equalIn_struct w d t _ _ (x1▸hu) hc.1,x1];exact key d hd fs.toList 0 x y [] [] cs ds ⟨f,r,h1,h2,h3,by simpa using h4⟩ (by simp only[Cmp,h1,zh];exact hc.2) xb x8 rfl rfl
 |arr n e ih=>
  intro d hd;obtain⟨d,rfl⟩:∃e,d=e+1:=⟨d-1,by simp[Ty.depth]at hd;omega⟩;refine⟨λt x y u v hl hc hx hy=>?_,λfs off x y pre x0 cs ds hl=>absurd hl (by simp[Lay])⟩;obtain⟨te,hu,hi,x3⟩:=hl;obtain⟨cs,rfl,xf,hx⟩:=(RepD.agg rfl).1 hx;obtain⟨ds,rfl,xe,hy⟩:=(RepD.agg rfl).1 hy;simp only[Cmp,hu]at hc;obtain⟨i,z,x2,xa,_⟩:=x3.info;have x9:P.cellsOf te=e.size:=by simp[Program.cellsOf,x2,xa]
  rw[run_equalIn_array w d _ _ hu x2,x9];have key:∀(m k:Nat),k+m=n->(Op.eqItems d te e.size cs.toArray ds.toArray (List.range' k m)).run P w=.ok (eqb (.arr m e) (List.drop k x) (List.drop k y)) w:=by
   intro m
   induction m with
   |zero=>
    intro k hk;simp only[List.range'_zero,Op.eqItems,zI]
    congr 1
    refine(zbt.2 ?_).symm;rw[qp o_,qp o_]
   |succ m ihm=>
    intro k hk;have x4:k<zp x:=o_;have x5:k<zp y:=o_;have nx:=hx.nth (λx c=>RepC.len e x c) (zR x4);have ny:=hy.nth (λx c=>RepC.len e x c) (zR x5);obtain⟨u1,p1,q1⟩:=x3.part nx;obtain⟨v1,p2,q2⟩:=x3.part ny;have he:=(ih d (by simp[Ty.depth]at hd;omega)).1 _ _ _ _ _ x3 hc q1 q2;rw[List.range'_succ];simp only[Op.eqItems,zJ,p1,p2,he,zD];have dx:=xR x4;have dy:=xR x5;cases hb:eqb e (x[k]'x4) (y[k]'x5) with
    |true=>
     simp only[kO,xZ,if_false,ihm (k+1) o_]
     congr 1
     refine zfn ?_;rw[zbt,dx,dy,zbt.1 hb];constructor
     .intro h;rw[h]
     .intro h;exact(kg h).2
    |false=>
     simp only[wo,if_true,zI]
     congr 1
     refine zfn ?_;constructor
     .intro h;cases h
     .intro h;rw[dx,dy]at h;rw[(kg h).1,zdR]at hb;cases hb
  have:=key n 0 o_;rw[List.range_eq_range'];exact this
 |_=>intro d hd;exact⟨λt x y u v hl hc=>absurd hc (by simp[Cmp]),λfs off x y pre x0 cs ds hl=>absurd hl (by simp[Lay])⟩
end
abbrev Tbl:=List (zy×Ty)
def tget:List (zy×Ty)->zy->Option Ty
 | [],_=>none
 |(s,Z)::r,t=>bif yG s t then some Z else tget r t
def tis(T:Tbl)(t:zy)(Z:Ty):Bool:=
 match tget T t with
 |some Y=>Y.beq Z
 |none=>false
structure TOk(P:zA)(T:Tbl)(Q:List zy):Prop where
 lay:∀t Z,tget T t=some Z->Lay P Z (.inl t)
 cmp:∀t,Q.any (yG t)=true->P.eqGuardType P.depth t=false/\∀Z,tget T t=some Z->Cmp P Z (.inl t)=true/\Z.depth<=10000
theorem TOk.is{P:zA}{T:Tbl}{Q:List zy}(h:TOk P T Q){t:zy}{Z:Ty}(ht:tis T t Z=true):Lay P Z (.inl t):=by
 unfold tis at ht;split at ht
 .rename_i Y x0;rw[<-Ty.beq_eq ht];exact h.lay _ _ x0
 .cases ht
theorem zik{T:Tbl}{t:zy}{Z:Ty}(ht:tis T t Z=true):tget T t=some Z:=by
 unfold tis at ht;split at ht
 .rename_i Y x0;rw[x0,Ty.beq_eq ht]
 .cases ht
def evI:(k:qo)->Int->V
 |.u8,n=>if encI .u8 (zM n.toNat)=n then ⟨.int .u8,zM n.toNat⟩ else ⟨.lit,.int .u8 n⟩
 |.u16,n=>if encI .u16 (zW 16 n.toNat)=n then ⟨.int .u16,zW 16 n.toNat⟩ else ⟨.lit,.int .u16 n⟩
 |.u32,n=>if encI .u32 (zW 32 n.toNat)=n then ⟨.int .u32,zW 32 n.toNat⟩ else ⟨.lit,.int .u32 n⟩
 |.u64,n=>if encI .u64 (zW 64 n.toNat)=n then ⟨.int .u64,zW 64 n.toNat⟩ else ⟨.lit,.int .u64 n⟩
 |.i8,n=>⟨.int .i8,n⟩
 |.i16,n=>⟨.int .i16,n⟩
 |.i32,n=>⟨.int .i32,n⟩
 |.i64,n=>⟨.int .i64,n⟩
def evC:zi->V
 |.bool b=>⟨.bool,b⟩
 |.int k n=>evI k n
 |.string s=>bif xM s.data.toList.length 1000000 then ⟨.str,s.data.toList⟩ else ⟨.lit,.string s⟩
 |v=>⟨.lit,v⟩
def evO(F:Frame):zK->V
 |.tmp s=>Frame.get F s
 |.const v=>evC v
 |.global g=>⟨.lit,.pointer (some ⟨g,0,none⟩)⟩
 |.func f=>⟨.lit,.func (.func f) #[] #[]⟩
def zaK:V->List Prop×V
 |⟨.cond t,(c,y)⟩=>([c=true],⟨t,y⟩)
 |v=>([],v)
def dat(E:Owns):V->V
 |⟨.obuf _,i⟩=>match Owns.get E i with
  |some (.buf _ t xs)=>⟨.slice t,xs⟩
  |_=>⟨.junk,()⟩
 |v=>v
def impP(c:Bool):List Prop->List Prop
 | []=>[]
 |p::r=>[c=true->allP (p::r)]
def zeC(s t:Ty):Option (PLift (s=t)):=if h:s.beq t=true then some ⟨Ty.beq_eq h⟩ else none
def zuw:(t:Ty)->V->Option t.T
 |.slice _,⟨.lit,.slice none 0 0⟩=>some []
 |_,_=>none
def zqU:(s t:Ty)->s.T->Option (PLift (s=t))->Option t.T
 |_,_,x,some ⟨rfl⟩=>some x
 |_,_,_,none=>none
def coeA:(s t:Ty)->s.T->Option (PLift (s=t))->Option t.T
 |_,_,x,some ⟨rfl⟩=>some x
 |s,t,x,none=>zuw t ⟨s,x⟩
def coe(t:Ty)(v:V):Option t.T:=
 match v with
 |⟨s,x⟩=>coeA s t x (zeC s t)
abbrev Res:=Option (List Prop×V)
def pre:List Prop->Option (List Prop×V)->Res
 | [],o=>o
 |a::A,o=>match pre A o with
  |some (p,v)=>some (a::p,v)
  |none=>none
def asI(k:qo)(o:Option (List Prop×IntT k)):Res:=
 match o with
 |some (p,z)=>some (p,⟨.int k,z⟩)
 |none=>none
def asT(t:Ty)(o:Option (List Prop×t.T)):Res:=
 match o with
 |some (p,z)=>some (p,⟨t,z⟩)
 |none=>none
def zpq(o:Option Bool):Res:=
 match o with
 |some b=>some ([],⟨.bool,b⟩)
 |none=>none
def zr3(p:List Prop)(o:Option V):Res:=
 match o with
 |some v=>some (p,v)
 |none=>none
def zvI(cb:Bool):(s t:Ty)->s.T->t.T->Option (PLift (t=s))->Res
 |s,_,x,y,some ⟨rfl⟩=>some ([],⟨s,bif cb then x else y⟩)
 |_,_,_,_,none=>none
def znW(cb:Bool)(a b:V):Res:=
 match zaK a,zaK b with
 |(p,⟨s,x⟩),(q,⟨t,y⟩)=>pre (impP cb p) (pre (impP (!cb) q) (zvI cb s t x y (zeC t s)))
def zum(c a b:V):Res:=
 match c with
 |⟨.bool,cb⟩=>znW cb a b
 |⟨.cond .bool,(k,cb)⟩=>pre [k=true] (znW cb a b)
 |_=>none
def zvU:kT->Bool
 |.eql|.neq|.lss|.leq|.gtr|.geq=>true
 |_=>false
def encS:(k:qo)->IntT k->Option Int
 |.u8,x=>some ((vZ x:Nat):Int)
 |.u16,x=>some ((qv (w:=16) x:Nat):Int)
 |.u32,x=>some ((qv (w:=32) x:Nat):Int)
 |.u64,x=>some ((qv (w:=64) x:Nat):Int)
 |.i8,x=>some x
 |.i16,x=>some x
 |.i32,x=>some x
 |.i64,x=>some x
theorem zhf(k:qo)(x:IntT k):encS k x=some (encI k x):=by cases k<;>rfl
def numV:V->Option Int
 |⟨.int k,x⟩=>encS k x
 |_=>none
def kEq?(l k:qo):Option (PLift (l=k)):=if h:l=k then some ⟨h⟩ else none
def binI(op:kT):(k l:qo)->IntT k->IntT l->Option (PLift (l=k))->Res
 |k,_,x,y,some ⟨rfl⟩=>if zvU op then(match encS k x,encS k y with |some a,some b=>zpq (cmpI op a b)|_,_=>none) else asI k (arI op k x y)
 |_,_,_,_,none=>none
noncomputable def binE(op:kT):(t s:Ty)->t.T->s.T->Option (PLift (s=t))->Res
 |t,_,x,y,some ⟨rfl⟩=>match op with
  |.eql=>some ([],⟨.bool,eqb t x y⟩)
  |.neq=>some ([],⟨.bool,!eqb t x y⟩)
  |_=>none
 |_,_,_,_,none=>none
noncomputable def binV(T:Tbl)(Q:List zy)(op:kT)(xt:zy)(a b:V):Res:=
 match a,b with
 |⟨.int k,x⟩,⟨.int l,y⟩=>
  match op with
  |.shl=>match encS l y with
   |some m=>asI k (shI .shl k x m)
   |none=>none
  |.shr=>match encS l y with
   |some m=>asI k (shI .shr k x m)
   |none=>none
  |op=>binI op k l x y (kEq? l k)
 |⟨.str,x⟩,⟨.str,y⟩=>
  match op with
  |.add=>some ([zp x+zp y<=maxLen],⟨.str,(x:List UInt8)++y⟩)
  |.eql=>some ([],⟨.bool,eqb .str x y⟩)
  |.neq=>some ([],⟨.bool,!eqb .str x y⟩)
  |.lss=>some ([],⟨.bool,gd x y⟩)
  |.leq=>some ([],⟨.bool,gd x y||eqb .str x y⟩)
  |.gtr=>some ([],⟨.bool,!(gd x y||eqb .str x y)⟩)
  |.geq=>some ([],⟨.bool,!gd x y⟩)
  |_=>none
 |⟨.bool,x⟩,⟨.bool,y⟩=>
  match op with
  |.eql=>if tis T xt .bool then some ([],⟨.bool,eqb .bool x y⟩) else none
  |.neq=>if tis T xt .bool then some ([],⟨.bool,!eqb .bool x y⟩) else none
  |_=>none
 |⟨t,x⟩,⟨s,y⟩=>if(t.isAgg&&tis T xt t&&Q.any (yG xt))=true then binE op t s x y (zeC s t) else none
def unV(op:UnOp)(a:V):Res:=
 match a with
 |⟨.bool,b⟩=>match op with |.not=>some ([],⟨.bool,!b⟩)|_=>none
 |⟨.int k,x⟩=>asI k (unI op k x)
 |_=>none
def cvV(T:Tbl)(x0 dst:zy)(a:V):Res:=
 match a,tget T dst with
 |⟨.int k,x⟩,some (.int l)=>if tis T x0 (.int k) then asI l (cvI k l x) else none
 |⟨.str,x⟩,some .str=>if tis T x0 .str then some ([],⟨.str,x⟩) else none
 |⟨.str,x⟩,some (.slice (.int .u8))=>if tis T x0 .str then some ([],⟨.slice (.int .u8),x⟩) else none
 |⟨.slice (.int .u8),x⟩,some .str=>if tis T x0 (.slice (.int .u8)) then some ([],⟨.str,x⟩) else none
 |_,_=>none
def zoH(T:Tbl)(xt:zy)(a i:V):Res:=
 match a,numV i with
 |⟨.arr n t,xs⟩,some i=>if tis T xt (.arr n t) then some ([0<=i,i<n],⟨t,zx xs i.toNat (zaD t)⟩) else none
 |⟨.str,l⟩,some i=>if tis T xt .str then some ([0<=i,i<(zp l:Nat)],⟨.int .u8,zx l i.toNat 0⟩) else none
 |_,_=>none
def zev(T:Tbl)(E:Owns)(xt:zy)(a i:V):Res:=
 match a,numV i with
 |⟨.slice t,xs⟩,some i=>if tis T xt (.slice t) then some ([0<=i,i<(zp xs:Nat)],⟨.vptr t,zx xs i.toNat (zaD t)⟩) else none
 |⟨.vptr (.arr n t),xs⟩,some i=>if tis T xt (.arr n t) then some ([0<=i,i<n],⟨.vptr t,zx xs i.toNat (zaD t)⟩) else none
 |⟨.optr (.arr n t),⟨o,r,p⟩⟩,some i=>if tis T xt (.arr n t) then some ([0<=i,i<n],⟨.optr t,⟨o,r,.idx p i.toNat⟩⟩) else none
 |⟨.obuf _,j⟩,some i=>
  match Owns.get E j with
  |some (.buf _ t xs)=>if tis T xt (.slice t) then some ([0<=i,i<(zp xs:Nat)],⟨.optr t,⟨j,.slice t,.elm i.toNat⟩⟩) else none
  |_=>none
 |_,_=>none
def Path.get:{r t:Ty}->Path r t->r.T->t.T
 |_,_,.here,x=>x
 |_,_,.fst p,x=>(p.get x).1
 |_,_,.snd p,x=>(p.get x).2
 |_,_,.idx (t:=t) p k,x=>zx (p.get x) k (zaD t)
 |_,_,.elm (t:=t) k,x=>zx x k (zaD t)
def Path.vcs:{r t:Ty}->Path r t->r.T->List Prop
 |_,_,.here,_=>[]
 |_,_,.fst p,x=>p.vcs x
 |_,_,.snd p,x=>p.vcs x
 |_,_,.idx (n:=n) p k,x=>p.vcs x++[k<n]
 |_,_,.elm k,x=>[k<zp x]
def Path.set:{r t:Ty}->Path r t->r.T->t.T->r.T
 |_,_,.here,_,y=>y
 |_,_,.fst p,x,y=>p.set x (y,(p.get x).2)
 |_,_,.snd p,x,y=>p.set x ((p.get x).1,y)
 |_,_,.idx p k,x,y=>p.set x (wq (p.get x) k y)
 |_,_,.elm k,x,y=>wq x k y
def Path.getO:{r t:Ty}->Path r t->r.T->Option t.T
 |_,_,.here,x=>some x
 |_,_,.fst p,x=>match p.getO x with
  |some z=>some z.1
  |none=>none
 |_,_,.snd p,x=>match p.getO x with
  |some z=>some z.2
  |none=>none
 |_,_,.idx (t:=t) p k,x=>match p.getO x with
  |some z=>some (zx z k (zaD t))
  |none=>none
 |_,_,.elm (t:=t) k,x=>some (zx x k (zaD t))
theorem Path.getO_eq:∀{r t:Ty}(p:Path r t)(x:r.T),p.getO x=some (p.get x):=by
 intro r t p
 induction p with
 |here=>intro x;rfl
 |fst p ih=>intro x;simp only[Path.getO,ih,Path.get]
 |snd p ih=>intro x;simp only[Path.getO,ih,Path.get]
 |idx p k ih=>intro x;simp only[Path.getO,ih,Path.get]
 |elm k=>intro x;rfl
def Path.setO:{r t:Ty}->Path r t->r.T->t.T->Option r.T
 |_,_,.here,_,y=>some y
 |_,_,.fst p,x,y=>match p.getO x with
  |some z=>p.setO x (y,z.2)
  |none=>none
 |_,_,.snd p,x,y=>match p.getO x with
  |some z=>p.setO x (z.1,y)
  |none=>none
 |_,_,.idx p k,x,y=>match p.getO x with
  |some z=>p.setO x (wq z k y)
  |none=>none
 |_,_,.elm k,x,y=>some (wq x k y)
theorem Path.setO_eq:∀{r t:Ty}(p:Path r t)(x:r.T)(y:t.T),p.setO x y=some (p.set x y):=by
 intro r t p
 induction p with
 |here=>intro x y;rfl
 |fst p ih=>intro x y;simp only[Path.setO,Path.getO_eq,ih,Path.set]
 |snd p ih=>intro x y;simp only[Path.setO,Path.getO_eq,ih,Path.set]
 |idx p k ih=>intro x y;simp only[Path.setO,Path.getO_eq,ih,Path.set]
 |elm k=>intro x y;rfl
def Path.isElm:{r t:Ty}->Path r t->Bool
 |_,_,.here=>false
 |_,_,.fst p=>p.isElm
 |_,_,.snd p=>p.isElm
 |_,_,.idx p _=>p.isElm
 |_,_,.elm _=>true
def Ty.noArr:Ty->Bool
 |.arr _ _=>false
 |.pair a b=>a.noArr&&b.noArr
 |_=>true
def Ty.leafy:Ty->Bool
 |.optr _|.hptr|.vptr _|.clo _ _|.mapL=>true
 |.hcons _ b=>b.leafy
 |t=>t.data&&t.noArr
def zaU:(t:Ty)->t.T->List V
 |.pair a b,x=>zaU a x.1++zaU b x.2
 |.unit,_=>[]
 |.hcons a b,x=>⟨a,x.1⟩::zaU b x.2
 |t,x=>[⟨t,x⟩]
def zg0:zi->Option (List V)
 |.agg cs=>if cs.toList.all je then some (cs.toList.map evC) else none
 |.tuple _=>none
 |y=>some [⟨.lit,y⟩]
def zgY(E:Owns):V->Option (List V)
 |⟨.lit,y⟩=>zg0 y
 |⟨.obuf t,j⟩=>match Owns.get E j with
  |some (.buf _ _ _)=>some [⟨.obuf t,j⟩]
  |_=>none
 |⟨t,x⟩=>if t.leafy=true then some (zaU t x) else none
def unD:(t:Ty)->List V->Option (t.T×List V)
 |.pair a b,vs=>match unD a vs with
  |some (x,r)=>match unD b r with
   |some (y,r')=>some ((x,y),r')
   |none=>none
  |none=>none
 |.unit,vs=>some ((),vs)
 |.arr _ _,_=>none
 |t,v::r=>match coe t v with
  |some x=>some (x,r)
  |none=>none
 |_,[]=>none
def putH(E:Owns)(size k:Nat)(vs:List V)(v:V):Option (List V):=
 match zgY E v with
 |some ls=>if yG ls.length size&&xM (k+size) vs.length then some (vs.take k++ls++vs.drop (k+size)) else none
 |none=>none
def OObj.v:OObj->V
 |.box t x=>⟨t,x⟩
 |.buf _ t xs=>⟨.slice t,xs⟩
 |.hbox _ _=>⟨.junk,()⟩
 |.mp _ _=>⟨.junk,()⟩
def OObj.noH:OObj->Bool
 |.box _ _=>true
 |.buf _ _ _=>true
 |.hbox _ _=>false
 |.mp _ _=>false
def zp1(r:Ty)(o:OObj):Option r.T:=
 match o.v with
 |⟨s,x⟩=>zqU s r x (zeC s r)
def zjK(T:Tbl)(E:Owns)(t:zy)(a:V):Res:=
 match a with
 |⟨.vptr Z,x⟩=>if tis T t Z then some ([],⟨Z,x⟩) else none
 |⟨.cptr _ _ Z,x⟩=>if tis T t Z then some ([],⟨Z,x⟩) else none
 |⟨.optr Z,⟨i,r,p⟩⟩=>
  match Owns.get E i with
  |some o=>if tis T t Z&&(Path.isElm p==o.isBuf) then(match zp1 r o with |some y=>(match Path.getO p y with |some z=>some (Path.vcs p y,⟨Z,z⟩)|none=>none)|none=>none) else none
  |none=>none
 |⟨.hptr,(i,k)⟩=>
  match Owns.get E i with
  |some (.hbox _ vs)=>match tget T t with
   |some Z=>if Z.isAgg=true then(match unD Z (vs.drop k) with |some (x,_)=>some ([],⟨Z,x⟩)|none=>none) else(match vs.drop k with |v::_=>if yG Z.size 1 then some ([],⟨v.t,v.x⟩) else none| []=>none)
   |none=>none
  |_=>none
 |_=>none
def zk0(T:Tbl)(xt:zy)(a:V)(n:Nat):Res:=
 if tis T xt a.t then zr3 [] (zge n a.t a.x) else none
def zj1:Nat->(r Z:Ty)->Path r Z->Option ((t:Ty)×Path r t)
 |0,_,.pair a _,p=>some ⟨a,.fst p⟩
 |n+1,r,.pair _ b,p=>zj1 n r b (.snd p)
 |_,_,_,_=>none
def zew(T:Tbl)(s:zy)(a:V)(n:Nat):Res:=
 match a with
 |⟨.vptr Z,x⟩=>if tis T s Z then(match zge n Z x with |some v=>if zO 0 v.t.size then some ([],⟨.vptr v.t,v.x⟩) else none|none=>none) else none
 |⟨.cptr _ _ Z,x⟩=>if tis T s Z then(match zge n Z x with |some v=>if zO 0 v.t.size then some ([],⟨.vptr v.t,v.x⟩) else none|none=>none) else none
 |⟨.optr Z,⟨i,r,p⟩⟩=>if tis T s Z then(match zj1 n r Z p with |some ⟨t,q⟩=>if zO 0 t.size then some ([],⟨.optr t,⟨i,r,q⟩⟩) else none|none=>none) else none
 |⟨.hptr,(i,k)⟩=>match tget T s with
  |some Z=>(match zj1 n Z Z .here with |some ⟨t,q⟩=>if zO 0 t.size then some ([],⟨.hptr,(i,k+q.off)⟩) else none|none=>none)
  |none=>none
 |_=>none
def tupV:Nat->(t:Ty)->t.T->Option V
 |0,.tup a _,x=>some ⟨a,x.1⟩
 |n+1,.tup _ b,x=>tupV n b x.2
 |_,_,_=>none
def lenV(T:Tbl)(xt:zy)(a:V):Res:=
 match a with
 |⟨.str,l⟩=>if tis T xt .str then some ([],⟨.int .i64,((zp l:Nat):Int)⟩) else none
 |⟨.slice t,l⟩=>if tis T xt (.slice t) then some ([],⟨.int .i64,((zp l:Nat):Int)⟩) else none
 |⟨.arr n t,_⟩=>if tis T xt (.arr n t) then some ([],⟨.int .i64,((n:Nat):Int)⟩) else none
 |_=>none
def cutL{α:Type}(xs:List α):Option V->Option V->Option (List Prop×List α)
 |none,none=>some ([],xs)
 |some v,none=>match numV v with
  |some i=>some ([0<=i,i<=(xs.length:Nat)],xs.drop i.toNat)
  |none=>none
 |none,some v=>match numV v with
  |some j=>some ([0<=j,j<=(xs.length:Nat)],xs.take j.toNat)
  |none=>none
 |some v,some u=>match numV v,numV u with
  |some i,some j=>some ([0<=i,i<=j,j<=(xs.length:Nat)],(xs.take j.toNat).drop i.toNat)
  |_,_=>none
def znr(T:Tbl)(xt:zy)(a:V)(lo hi:Option V):Res:=
 match a with
 |⟨.str,l⟩=>if tis T xt .str then asT .str (cutL l lo hi) else none
 |⟨.slice t,xs⟩=>if tis T xt (.slice t) then asT (.slice t) (cutL xs lo hi) else none
 |⟨.vptr (.arr n t),xs⟩=>if tis T xt (.arr n t)&&xM n 1000000000 then asT (.slice t) (cutL xs lo hi) else none
 |_=>none
def optP(F:Frame):Option zK->List Prop
 |none=>[]
 |some y=>(zaK (evO F y)).1
def zeY:Nat->(t:Ty)->t.T->V->Option t.T
 |0,.pair a _,x,v=>match coe a v with |some y=>some (y,x.2)|none=>none
 |n+1,.pair _ b,x,v=>match zeY n b x.2 v with |some y=>some (x.1,y)|none=>none
 |_,_,_,_=>none
def ziq(t:Ty):t.T->List (Nat×V)->Option t.T
 |x,[]=>some x
 |x,(i,v)::r=>(zeY i t x v).bind λy=>ziq t y r
def zeZ(t:Ty):List t.T->List (Nat×V)->Option (List t.T)
 |xs,[]=>some xs
 |xs,(i,v)::r=>if zO i xs.length then(coe t v).bind λy=>zeZ t (xs.set i y) r else none
def zd3:List (Nat×V)->List Prop×List (Nat×V)
 | []=>([],[])
 |(i,v)::r=>((zaK v).1++(zd3 r).1,(i,(zaK v).2)::(zd3 r).2)
def zpk(T:Tbl)(t:zy)(x0:List (Nat×V)):Res:=
 match tget T t with
 |some (.pair a b)=>(match ziq (.pair a b) (zaD (.pair a b)) (zd3 x0).2 with |some x=>some ((zd3 x0).1,⟨.pair a b,x⟩)|none=>none)
 |some (.arr n e)=>(match zeZ e (zg n (zaD e)) (zd3 x0).2 with |some x=>some ((zd3 x0).1,⟨.arr n e,x⟩)|none=>none)
 |_=>none
def zb3(T:Tbl)(t:zy)(len:Nat)(x0:List (Nat×V)):Option (List Prop×(t:Ty)×List t.T):=
 match tget T t with
 |some (.slice e)=>if xM (len*e.size) 16777216&&zO 0 e.size then(match zeZ e (zg len (zaD e)) (zd3 x0).2 with |some x=>some ((zd3 x0).1,⟨e,x⟩)|none=>none) else none
 |_=>none
def minV(op:Builtin):List V->Res
 | [⟨.int .i64,x⟩,⟨.int .i64,y⟩]=>match op with
  |.min=>some ([],⟨.int .i64,min (x:Int) y⟩)
  |.max=>some ([],⟨.int .i64,max (x:Int) y⟩)
  |_=>none
 |_=>none
def cloV:List V->Option ((t:Ty)×t.T)
 | []=>some ⟨.unit,()⟩
 |⟨.vptr a,x⟩::r=>match cloV r with
  |some ⟨t,y⟩=>some ⟨.tup (.vptr a) t,(x,y)⟩
  |none=>none
 |_::_=>none
noncomputable def pOp(T:Tbl)(Q:List zy)(E:Owns)(F:Frame):Op->Res
 |.move x=>match evO F x with
  |⟨t,y⟩=>some ([],⟨t,y⟩)
 |.assign x=>match evO F x with
  |⟨t,y⟩=>some ([],⟨t,y⟩)
 |.pick c a b=>zum (evO F c) (evO F a) (evO F b)
 |.binOp op xt x y _=>pre ((zaK (evO F x)).1++(zaK (evO F y)).1) (binV T Q op xt (zaK (evO F x)).2 (zaK (evO F y)).2)
 |.unOp op _ x=>pre ((zaK (evO F x)).1) (unV op (zaK (evO F x)).2)
 |.convert s d x=>pre ((zaK (evO F x)).1) (cvV T s d (dat E (zaK (evO F x)).2))
 |.index xt x i=>pre ((zaK (evO F x)).1++(zaK (evO F i)).1) (zoH T xt (zaK (evO F x)).2 (zaK (evO F i)).2)
 |.indexAddr xt x i=>pre ((zaK (evO F x)).1++(zaK (evO F i)).1) (zev T E xt (zaK (evO F x)).2 (zaK (evO F i)).2)
 |.load t x=>pre ((zaK (evO F x)).1) (zjK T E t (zaK (evO F x)).2)
 |.field xt x n=>pre ((zaK (evO F x)).1) (zk0 T xt (zaK (evO F x)).2 n)
 |.fieldAddr s x n=>pre ((zaK (evO F x)).1) (zew T s (zaK (evO F x)).2 n)
 |.extract x n=>match zaK (evO F x) with
  |(p,v)=>zr3 p (tupV n v.t v.x)
 |.slice xt x lo hi none=>pre ((zaK (evO F x)).1++(optP F lo++optP F hi)) (znr T xt (zaK (evO F x)).2 (lo.map λy=>(zaK (evO F y)).2) (hi.map λy=>(zaK (evO F y)).2))
 |.build t parts=>zpk T t (parts.toList.map λp=>(p.1,evO F p.2))
 |.buildSlice t len parts=>match zb3 T t len (parts.toList.map λp=>(p.1,evO F p.2)) with
  |some (p,⟨e,xs⟩)=>some (p,⟨.slice e,xs⟩)
  |none=>none
 |.makeFunc (.func f) first caps=>match first.toList,cloV (caps.toList.map (evO F)) with
  | [],some ⟨t,x⟩=>some ([],⟨.clo f t,x⟩)
  |_,_=>none
 |.nilCheck x=>match zaK (evO F x) with
  |(p,⟨.vptr t,y⟩)=>some (p,⟨.vptr t,y⟩)
  |(p,⟨.optr t,y⟩)=>some (p,⟨.optr t,y⟩)
  |(p,⟨.hptr,y⟩)=>some (p,⟨.hptr,y⟩)
  |_=>none
 |.call c=>match c.callee with
  |.builtin .len=>match c.args.toList,c.argTypes.toList with
   | [x],[t]=>pre ((zaK (evO F x)).1) (lenV T t (dat E (zaK (evO F x)).2))
   |_,_=>none
  |.builtin .min=>pre ((c.args.toList.map λx=>(zaK (evO F x)).1).flatten) (minV .min (c.args.toList.map λx=>(zaK (evO F x)).2))
  |.builtin .max=>pre ((c.args.toList.map λx=>(zaK (evO F x)).1).flatten) (minV .max (c.args.toList.map λx=>(zaK (evO F x)).2))
  |_=>none
 |_=>none
def Yields(P:zA)(s:Sem zi)(w:zj)(O:Nat->Prop)(U:Nat->zi)(r:V):Prop:=
 ∃u w',s.run P w=.ok u w'/\xW w.heap.size w w'/\RepV w' O U r.t r.x u
section
variable {P:zA}{w:zj}{O O':Nat->Prop}{U:Nat->zi}{T:Tbl}{Q:List zy}{E:Owns}{F:Frame}{B:Nat}{a:Act}
theorem Yields.still{s:Sem zi}{r:V}{u:zi}(h:s.run P w=.ok u w)(hr:RepV w O U r.t r.x u):Yields P s w O U r:=⟨u,w,h,zY _ _,hr⟩
theorem za5{t:Ty}(ht:t.data=true){x:t.T}{u:zi}:RepV w O U t x u↔RepD w O t x u:=by
 cases t<;>first|exact Iff.rfl|cases ht
theorem zk1(v:zi):RepV w O U (evC v).t (evC v).x v:=by
 cases v with
 |bool b=>exact rfl
 |int k n=>
  have key:∀(k:qo)(x:IntT k),RepV w O U (if encI k x=n then(⟨.int k,x⟩:V) else ⟨.lit,.int k n⟩).t (if encI k x=n then(⟨.int k,x⟩:V) else ⟨.lit,.int k n⟩).x (.int k n):=by
   intro k x;by_cases h:encI k x=n
   .rw[show(if encI k x=n then(⟨.int k,x⟩:V) else ⟨.lit,.int k n⟩)=⟨.int k,x⟩ from if_pos h];show [qD k n]=[qD k (encI k x)];rw[h]
   .rw[show(if encI k x=n then(⟨.int k,x⟩:V) else ⟨.lit,.int k n⟩)=⟨.lit,.int k n⟩ from if_neg h];exact rfl
  cases k with
  |u8=>exact key .u8 _
  |u16=>exact key .u16 _
  |u32=>exact key .u32 _
  |u64=>exact key .u64 _
  |i8=>exact(rfl: [qD .i8 n]=[qD .i8 n])
  |i16=>exact(rfl: [qD .i16 n]=[qD .i16 n])
  |i32=>exact(rfl: [qD .i32 n]=[qD .i32 n])
  |i64=>exact(rfl: [qD .i64 n]=[qD .i64 n])
 |string s=>
  simp only[evC];cases h:xM s.data.toList.length 1000000 with
  |true=>
   have:=Nat.le_of_ble_eq_true h;exact⟨by simp,zL this (by simp[maxLen])⟩
  |false=>exact rfl
 |_=>exact rfl
theorem zoR{x:zK}(hx:∀s,x=.tmp s->RepV w O U (Frame.get F s).t (Frame.get F s).x (a.tmps.getD s undef)):RepV w O U (evO F x).t (evO F x).x (a.eval x):=by
 cases x with
 |tmp s=>exact hx s rfl
 |global g=>exact rfl
 |func f=>exact rfl
 |const v=>exact zk1 v
theorem zbb{v:V}{u:zi}(h:RepV w O U v.t v.x u)(hp:allP (zaK v).1):RepV w O U (zaK v).2.t (zaK v).2.x u:=by
 obtain⟨t,x⟩:=v;cases t<;>first|exact h|exact h.1 hp
theorem zk5(x0:∀i o,Owns.get E i=some o->OwnRep w O U B (U i) o){v:V}{u:zi}(h:RepV w O U v.t v.x u):RepV w (λ_=>False) U (dat E v).t (dat E v).x u:=by
 have hk:Keeps w w O (λ_=>False):=⟨zu _,λ_ _ _=>rfl,λ_ _ h=>h.elim⟩;obtain⟨t,x⟩:=v;cases t with
 |obuf t=>
  have h':u=U x:=h;subst h';cases he:Owns.get E x with
  |none=>
   have e:dat E ⟨.obuf t,x⟩=⟨.junk,()⟩:=by simp only[dat,he]
   rw[e];trivial
  |some o=>
   cases o with
   |box t' x'=>
    have e:dat E ⟨.obuf t,x⟩=⟨.junk,()⟩:=by simp only[dat,he]
    rw[e];trivial
   |hbox ty vs=>
    have e:dat E ⟨.obuf t,x⟩=⟨.junk,()⟩:=by simp only[dat,he]
    rw[e];trivial
   |mp m I=>
    have e:dat E ⟨.obuf t,x⟩=⟨.junk,()⟩:=by simp only[dat,he]
    rw[e];trivial
   |buf te t' xs=>
    have e:dat E ⟨.obuf t,x⟩=⟨.slice t',xs⟩:=by simp only[dat,he]
    rw[e];exact(x0 x _ he).view (λ_ _ h=>h.elim) (λ_ _ h=>h.elim)
 |_=>exact RepV.keep hk _ _ _ h
theorem RepV.bool{b:Bool}{u:zi}(h:RepV w O U .bool b u):u=.bool b:=by
 have h': [u]=[kh b]:=h
 simpa using h'
theorem RepV.int{k:qo}{x:IntT k}{u:zi}(h:RepV w O U (.int k) x u):u=.int k (encI k x):=by
 have h': [u]=[qD k (encI k x)]:=h
 simpa using h'
theorem RepV.str{l:List UInt8}{u:zi}(h:RepV w O U .str l u):u=.string ⟨l.toArray⟩/\l.length<=maxLen:=by
 have h':=h;exact⟨by simpa using h'.1,h'.2⟩
theorem RepV.ofBool{b:Bool}:RepV w O U .bool b (.bool b):=(rfl: [kh b]=[kh b])
theorem RepV.ofInt{k:qo}{x:IntT k}:RepV w O U (.int k) x (.int k (encI k x)):=(rfl: [qD k (encI k x)]=[qD k (encI k x)])
theorem RepV.ofStr{l:List UInt8}(h:l.length<=maxLen):RepV w O U .str l (.string ⟨l.toArray⟩):=(⟨rfl,h⟩: [Value.string ⟨l.toArray⟩]=[Value.string ⟨l.toArray⟩]/\l.length<=maxLen)
theorem zic{s t:Ty}{x:s.T}{e:Option (PLift (s=t))}{y:t.T}(h:zqU s t x e=some y):(⟨s,x⟩:V)=⟨t,y⟩:=by
 cases e with
 |none=>cases h
 |some e=>obtain⟨e⟩:=e;subst e;cases h;rfl
theorem zmZ{t:Ty}{v:V}{y:t.T}(h:zuw t v=some y):v=⟨.lit,.slice none 0 0⟩/\∃Z,(⟨t,y⟩:V)=⟨.slice Z,[]⟩:=by
 obtain⟨s,x⟩:=v;cases t<;>first|(cases h;done)|skip
 rename_i Z;cases s<;>first|(cases h;done)|skip
 cases x<;>first|(cases h;done)|skip
 rename_i A m c;cases A<;>first|(cases h;done)|skip
 cases m<;>first|(cases h;done)|skip
 cases c<;>first|(cases h;done)|skip
 cases h;exact⟨rfl,Z,rfl⟩
theorem zey{t:Ty}{v:V}{y:t.T}(h:coe t v=some y):v=⟨t,y⟩\/(v=⟨.lit,.slice none 0 0⟩/\∃Z,(⟨t,y⟩:V)=⟨.slice Z,[]⟩):=by
 obtain⟨s,x⟩:=v;simp only[coe]at h;generalize zeC s t=e at h;cases e with
 |some e=>
  obtain⟨e⟩:=e;subst e;cases h;exact .inl rfl
 |none=>
  refine .inr ?_;exact zmZ h
theorem zfW{t:Ty}(ht:t.data=true){v:V}{y:t.T}(h:coe t v=some y){u:zi}(hr:RepV w O U v.t v.x u):RepD w O t y u:=by
 rcases zey h with rfl|⟨rfl,Z,he⟩
 .exact(za5 ht).1 hr
 .cases he;have:u=.slice none 0 0:=hr;subst this;exact(RepD.scalar rfl).2 ⟨_,rfl,.inl ⟨rfl,none,0,rfl,by simp⟩⟩
theorem zbm{A:List Prop}{o:Option (List Prop×V)}{r:List Prop×V}(h:pre A o=some r):∃q,o=some q/\(A++q.1,q.2)=r:=by
 induction A generalizing r with
 |nil=>exact⟨r,h,rfl⟩
 |cons a A ih=>
  simp only[pre]at h;split at h<;>first|(cases h;done)|skip
  rename_i p v hp;cases h;obtain⟨q,h1,h2⟩:=ih hp;cases h2;exact⟨q,h1,rfl⟩
theorem zfz{k:qo}{o:Option (List Prop×IntT k)}{r:List Prop×V}(h:asI k o=some r):∃q,o=some q/\(q.1,(⟨.int k,q.2⟩:V))=r:=by
 cases o with
 |none=>cases h
 |some q=>obtain⟨p,v⟩:=q;cases h;exact⟨(p,v),rfl,rfl⟩
theorem zi5{t:Ty}{o:Option (List Prop×t.T)}{r:List Prop×V}(h:asT t o=some r):∃q,o=some q/\(q.1,(⟨t,q.2⟩:V))=r:=by
 cases o with
 |none=>cases h
 |some q=>obtain⟨p,v⟩:=q;cases h;exact⟨(p,v),rfl,rfl⟩
theorem zkc{o:Option Bool}{r:List Prop×V}(h:zpq o=some r):∃b,o=some b/\(([]:List Prop),(⟨.bool,b⟩:V))=r:=by
 cases o with
 |none=>cases h
 |some b=>cases h;exact⟨b,rfl,rfl⟩
theorem zhK{p:List Prop}{o:Option V}{r:List Prop×V}(h:zr3 p o=some r):∃v,o=some v/\(p,v)=r:=by
 cases o with
 |none=>cases h
 |some b=>cases h;exact⟨b,rfl,rfl⟩
theorem zb7{v:V}{i:Int}(h:numV v=some i){u:zi}(hr:RepV w O U v.t v.x u):∃k,u=.int k i:=by
 obtain⟨t,x⟩:=v;cases t<;>simp only[numV,reduceCtorEq]at h;rw[zhf]at h;cases h;exact⟨_,RepV.int hr⟩
theorem zhn{c:Bool}{l:List Prop}(h:allP (impP c l))(hc:c=true):allP l:=by
 cases l with
 |nil=>trivial
 |cons p r=>exact h hc
theorem zjB{cb:Bool}{va vb:V}{r:List Prop×V}(h:znW cb va vb=some r)(hp:allP r.1){ua ub:zi}
  (ha:RepV w O U va.t va.x ua) (hb:RepV w O U vb.t vb.x ub):RepV w O U r.2.t r.2.x (if cb then ua else ub):=by
 unfold znW at h;have h1:∀p a',zaK va=(p,a')->allP (impP cb p)->(cb=true->RepV w O U a'.t a'.x ua):=λp a' he hi x0=>by
  have:=zbb ha (by rw[he];exact zhn hi x0);rwa[he]at this
 have h2:∀p b',zaK vb=(p,b')->allP (impP (!cb) p)->(cb=false->RepV w O U b'.t b'.x ub):=λp b' he hi x0=>by
  have:=zbb hb (by rw[he];exact zhn hi (by simp[x0]));rwa[he]at this
 generalize hx:zaK va=sa at h;generalize hy:zaK vb=sb at h;obtain⟨p,s,x⟩:=sa;obtain⟨q,t,y⟩:=sb;obtain⟨r1,g1,rfl⟩:=zbm h;obtain⟨r2,g2,rfl⟩:=zbm g1;simp only[zav]at hp;generalize zeC t s=e at g2;cases e with
 |none=>cases g2
 |some e=>
  obtain⟨e⟩:=e;subst e;cases g2;cases x0:cb with
  |true=>exact h1 _ _ hx hp.1 x0
  |false=>exact h2 _ _ hy hp.2.1 x0
theorem znV{c va vb:V}{r:List Prop×V}(h:zum c va vb=some r)(hp:allP r.1){uc ua ub:zi}(hc:RepV w O U c.t c.x uc)
  (ha:RepV w O U va.t va.x ua) (hb:RepV w O U vb.t vb.x ub):
  ∃b:Bool,uc=.bool b/\RepV w O U r.2.t r.2.x (if b then ua else ub):=by
 obtain⟨tc,cb⟩:=c;cases tc with
 |bool=>exact⟨cb,RepV.bool hc,zjB h hp ha hb⟩
 |cond t=>
  cases t with
  |bool=>
   obtain⟨k,cb⟩:=cb;obtain⟨r1,g1,rfl⟩:=zbm (A:=[k=true]) (o:=znW cb va vb) h;simp only[zav]at hp;exact⟨cb,RepV.bool (hc.1 hp.1),zjB g1 hp.2 ha hb⟩
  |_=>cases h
 |_=>cases h
theorem ziR{op:kT}{t:zy}{x y:zK}{u v:zi}(h1:∀cs,u≠ .agg cs)(h2:u≠ .nilIface):(eqGuard op t x y u v).run P w=.ok () w:=by
 unfold eqGuard;cases op<;>simp only[wo,kO,if_true,xZ,if_false]<;>first
  |rfl
  |(cases u<;>first|rfl|exact absurd rfl (h1 _)|exact absurd rfl h2)
theorem zbn{op:kT}{t:zy}{x y:zK}{u v z:zi}(h1:∀cs,u≠ .agg cs)(h2:u≠ .nilIface)(h:(xS op t u v).run P w=.ok z w):
  (do eqGuard op t x y u v;xS op t u v:Sem zi).run P w=.ok z w:=by
 rw[zJ,ziR h1 h2];exact h
theorem zfu(x y:List UInt8):((⟨x.toArray⟩:ByteArray).toList==(⟨y.toArray⟩:ByteArray).toList)=eqb .str x y:=by
 rw[kl,kl];exact zfn (t:=.str) (by simp)
theorem zc8(x:List UInt8):(⟨x.toArray⟩:ByteArray).toList=x:=by rw[kl]
theorem zll(hT:TOk P T Q){op:kT}{xt:zy}{x y:zK}{va vb:V}{r:List Prop×V}(h:binV T Q op xt va vb=some r)(hp:allP r.1){ua ub:zi}
  (ha:RepV w O U va.t va.x ua) (hb:RepV w O U vb.t vb.x ub):Yields P (do eqGuard op xt x y ua ub;xS op xt ua ub) w O U r.2:=by
 have agg:∀(t s:Ty)(xa:t.T)(xb:s.T),RepV w O U t xa ua->RepV w O U s xb ub->(h0:(t.isAgg&&tis T xt t&&Q.any (yG xt))=true)->
   ∀(he:s=t),(op=.eql->Yields P (do eqGuard op xt x y ua ub;xS op xt ua ub) w O U ⟨.bool,eqb t xa (he▸xb)⟩)/\
    (op=.neq->Yields P (do eqGuard op xt x y ua ub;xS op xt ua ub) w O U ⟨.bool,!eqb t xa (he▸xb)⟩):=by
  intro t s xa xb ha hb h0 he;subst he;simp only[zh]at h0;obtain⟨⟨h1,h3⟩,h4⟩:=h0;have hl:=hT.is h3;obtain⟨hg,hc⟩:=hT.cmp _ h4;obtain⟨hc,hd⟩:=hc _ (zik h3);have x4:=(za5 hl.data).1 ha;have x3:=(za5 hl.data).1 hb;have x2:=((zk2 (P:=P) (w:=w) (O:=O) (O':=O) s 10000 hd).1 xt xa xb ua ub hl hc x4 x3);obtain⟨cs,rfl,_⟩:=(RepD.agg h1).1 x4;obtain⟨ds,rfl,_⟩:=(RepD.agg h1).1 x3;constructor
  .rintro rfl;refine .still (u:=.bool (eqb s xa xb)) ?_ RepV.ofBool;rw[zJ,run_eqGuard_agg _ _ _ _ _ _ _ hg,zD];simp only[xS,fh,go,zJ,x2,zD,zI]
  .rintro rfl;refine .still (u:=.bool (!eqb s xa xb)) ?_ RepV.ofBool;rw[zJ,run_eqGuard_agg _ _ _ _ _ _ _ hg,zD];simp only[xS,fh,go,zJ,x2,zD,zI]
 obtain⟨ta,xa⟩:=va;obtain⟨tb,xb⟩:=vb;unfold binV at h;split at h
 .rename_i k xa l xb x0 x1;obtain⟨rfl,x0⟩:=V.mk.inj x0;obtain⟨rfl,x1⟩:=V.mk.inj x1;cases x0;cases x1;have eu:=RepV.int ha;have ev:=RepV.int hb;subst eu;subst ev;split at h
  .rw[zhf]at h;obtain⟨q,h1,rfl⟩:=zfz h;exact .still (zbn (by simp) (by simp) (znt (vc:=q.1) (z:=q.2) h1 hp)) RepV.ofInt
  .rw[zhf]at h;obtain⟨q,h1,rfl⟩:=zfz h;exact .still (zbn (by simp) (by simp) (znt (vc:=q.1) (z:=q.2) h1 hp)) RepV.ofInt
  .generalize kEq? l k=e at h;cases e with
   |none=>cases h
   |some e=>
    obtain⟨e⟩:=e;subst e;simp only[binI]at h;split at h
    .rw[zhf,zhf]at h;obtain⟨q,h1,rfl⟩:=zkc h;exact .still (zbn (by simp) (by simp) (zqS h1)) RepV.ofBool
    .obtain⟨q,h1,rfl⟩:=zfz h;exact .still (zbn (by simp) (by simp) (ztB (vc:=q.1) (z:=q.2) h1 hp)) RepV.ofInt
 .rename_i xa xb x0 x1;obtain⟨rfl,x0⟩:=V.mk.inj x0;obtain⟨rfl,x1⟩:=V.mk.inj x1;cases x0;cases x1;obtain⟨eu,_⟩:=RepV.str ha;obtain⟨ev,_⟩:=RepV.str hb;subst eu;subst ev;split at h<;>first|(cases h;done)|(cases h)
  .have x5:zp xa+zp xb<=maxLen:=hp;refine .still (zbn (by simp) (by simp) (?_:_=Result.ok (.string ⟨(xa++xb:List UInt8).toArray⟩) w)) (RepV.ofStr (by simpa using x5));have hs:∀l:List UInt8,(⟨l.toArray⟩:ByteArray).size=l.length:=λl=>by simp[vL]
   have:¬(((zp xa+zp xb:Nat):Int)>qV.max):=by
    simp only[maxLen,uW,jA,qM]at *;simp;omega
   simp only[xS,uA,hs,this,if_false,zI]
   congr 2
  .exact .still (zbn (by simp) (by simp) (by simp only[xS,uA,zfu,zI])) RepV.ofBool
  .exact .still (zbn (by simp) (by simp) (by simp only[xS,uA,zfu,zI])) RepV.ofBool
  .exact .still (zbn (by simp) (by simp) (by simp only[xS,uA,zc8,zI])) RepV.ofBool
  .exact .still (zbn (by simp) (by simp) (by simp only[xS,uA,zfu,zI];simp only[zc8])) RepV.ofBool
  .exact .still (zbn (by simp) (by simp) (by simp only[xS,uA,zfu,zI];simp only[zc8])) RepV.ofBool
  .exact .still (zbn (by simp) (by simp) (by simp only[xS,uA,zc8,zI])) RepV.ofBool
 .rename_i xa xb x0 x1;obtain⟨rfl,x0⟩:=V.mk.inj x0;obtain⟨rfl,x1⟩:=V.mk.inj x1;cases x0;cases x1;have eu:=RepV.bool ha;have ev:=RepV.bool hb;subst eu;subst ev;have hq:tis T xt .bool=true->(fh xt (.bool xa) (.bool xb)).run P w=.ok (eqb .bool xa xb) w:=λht=>by
   have:=run_equalIn_bool' w 9999 xt xa xb (hT.is ht).1;simp only[fh,go];rw[this]
   congr 1
   exact zfn (t:=.bool) (by simp)
  split at h
  .split at h
   .rename_i ht;cases h;refine .still (zbn (by simp) (by simp) ?_) RepV.ofBool;simp only[xS,zJ,hq ht,zD,zI]
   .cases h
  .split at h
   .rename_i ht;cases h;refine .still (zbn (by simp) (by simp) ?_) RepV.ofBool;simp only[xS,zJ,hq ht,zD,zI]
   .cases h
  .cases h
 .rename_i t xa s xb x7 x6 x8 x0 x1;obtain⟨rfl,x0⟩:=V.mk.inj x0;obtain⟨rfl,x1⟩:=V.mk.inj x1;cases x0;cases x1;split at h
  .rename_i h0;generalize zeC tb ta=e at h;cases e with
   |none=>cases h
   |some e=>
    obtain⟨e⟩:=e;subst e;have:=agg _ _ _ _ ha hb h0 rfl;simp only[binE]at h;split at h
    .cases h;exact this.1 rfl
    .cases h;exact this.2 rfl
    .cases h
  .cases h
theorem zmE{op:UnOp}{va:V}{r:List Prop×V}(h:unV op va=some r)(hp:allP r.1){ua:zi}(ha:RepV w O U va.t va.x ua):Yields P (fg op ua) w O U r.2:=by
 obtain⟨ta,xa⟩:=va;cases ta<;>simp only[unV,reduceCtorEq]at h
 .have:=RepV.bool ha;subst this;cases op<;>simp only[reduceCtorEq]at h;cases h;exact .still rfl RepV.ofBool
 .have:=RepV.int ha;subst this;obtain⟨q,h1,rfl⟩:=zfz h;exact .still (zsf (vc:=q.1) (z:=q.2) h1 hp) RepV.ofInt
end
section
variable {P:zA}{w:zj}{O O':Nat->Prop}{U:Nat->zi}{T:Tbl}{Q:List zy}{E:Owns}{F:Frame}{B:Nat}{a:Act}
theorem Keeps.of_false:Keeps w w O (λ_=>False):=⟨zu _,λ_ _ _=>rfl,λ_ _ h=>h.elim⟩
theorem zdm{xs:List UInt8}{vs:List zi}(h:RepL (RepC w O (.int .u8)) xs vs):vs=xs.map λb=>.int .u8 (b.toNat:Int):=by
 induction xs generalizing vs with
 |nil=>cases h;rfl
 |cons x xs ih=>
  obtain⟨c1,c2,rfl,h2,h3⟩:=h;rw[ih h3];cases h2;rfl
theorem zf8(xs:List UInt8):RepL (RepC w O (.int .u8)) xs (xs.map λb=>.int .u8 (b.toNat:Int)):=by
 induction xs with
 |nil=>rfl
 |cons x xs ih=>exact⟨[_],_,rfl,rfl,ih⟩
theorem RepV.slice{t:Ty}{xs:List t.T}{u:zi}(h:RepV w O U (.slice t) xs u):RepS w O (RepC w O t) xs u:=by
 obtain⟨v,hv,h'⟩:=((RepD.scalar rfl).1 h:RepC w O (.slice t) xs [u]);cases hv;exact h'
theorem RepV.ofSlice{t:Ty}{xs:List t.T}{u:zi}(h:RepS w O (RepC w O t) xs u):RepV w O U (.slice t) xs u:=
 ((RepD.scalar rfl).2 ⟨u,rfl,h⟩:RepD w O (.slice t) xs u)
theorem RepS.nlen{α:Type}{R:α->List zi->Prop}{xs:List α}{u:zi}(h:RepS w O R xs u):∃A c,u=.slice A xs.length c/\xs.length<=c/\c<=maxLen:=by
 rcases h with ⟨rfl,A,c,rfl,h⟩|⟨g,off,c,vs,rfl,_,h1,h2,_⟩
 .exact⟨A,c,rfl,zk _,h⟩
 .exact⟨_,c,rfl,h1,h2⟩
theorem za8(w:zj)(o:Obj):xW w.heap.size w (w.alloc o):=(zY _ _).alloc (zu _) _
theorem zlJ{t:Ty}{xs:List t.T}{vs:List zi}(hO:∀g,O g->g<w.heap.size)(h:RepL (RepC w O t) xs vs){cap:Nat}(hc:xs.length<=cap)(hm:cap<=maxLen){cells:Array zi}{te:zy}{fz:Nat×Nat}
  {w':zj} (hk:xW w.heap.size w w') (x0:w'.heap[w.heap.size]? =some (.cells cells te fz)) (x1:∀(j:Nat)(u:zi),vs[j]? =some u->cells[j]? =some u):
  RepS w' O (RepC w' O t) xs (.slice (some ⟨w.heap.size,0,none⟩) xs.length cap):=by
 by_cases hx:xs=[]
 .subst hx;exact .inl ⟨rfl,_,cap,rfl,hm⟩
 .refine .inr ⟨w.heap.size,0,cap,vs,rfl,hx,hc,hm,(zv.1 x0).1,λh=>Nat.lt_irrefl _ (hO _ h),h.mono λx _ c=>RepC.keep (.of_below hk λ_ _ h=>h) _ _ _,λj u hu=>?_⟩;rw[xV];unfold qd;rw[x0];simp only[jp,xZ,if_false];exact x1 j u hu
def zbo(l:List UInt8):List zi:=l.map λb=>.int .u8 (b.toNat:Int)
theorem zkb(w:zj)(o:Obj)(k n:Nat):xW w.heap.size w ((w.alloc o).freeze ⟨w.heap.size,k,none⟩ n):=by
 unfold gg;split
 .exact za8 w o
 .refine⟨rfl,rfl,rfl,?_,λg hg=>?_⟩
  .
   simp
  show(Array.modify (w.heap.push o) _ _)[g]? =_;simp only[ve];rw[if_neg o_,Array.getElem?_push,if_neg o_]
theorem zm4(w:zj)(cs:Array zi)(e:zy)(fz:Nat×Nat)(k n:Nat):∃fz',((w.alloc (.cells cs e fz)).freeze ⟨w.heap.size,k,none⟩ n).heap[w.heap.size]? =some (.cells cs e fz'):=by
 unfold gg;split
 .exact⟨fz,heap_alloc_new w _⟩
 .simp only[World.alloc,ve,if_true];rw[show(w.heap.push (jh cs e fz))[w.heap.size]? =some (jh cs e fz) by simp];exact⟨_,rfl⟩
theorem zfC(e:zy)(l:List UInt8)(w:zj):
  ∃cap w',(gZ e ⟨l.toArray⟩).run P w=.ok (.slice (some ⟨w.heap.size,0,none⟩) l.length cap) w'/\l.length<=cap/\(l.length<=maxLen->cap<=maxLen)/\xW w.heap.size w w'/\
   ∃fz,w'.heap[w.heap.size]? =some (.cells ((zbo l).toArray++zG (cap-l.length) (qD .u8 0)) e fz):=by
 have hs:(⟨l.toArray⟩:ByteArray).size=l.length:=by simp[vL]
 have x1:((⟨l.toArray⟩:ByteArray).data.map λb=>qD .u8 (b.toNat:Int))=(zbo l).toArray:=by simp[zbo]
 generalize x0:(Question.appendCap l.length 0 e).cut (w.tape w.drawn (.appendCap l.length 0 e))=cap;have h1:l.length<=cap:=by rw[<-x0];simp only[f8];omega
 have h2:l.length<=maxLen->cap<=maxLen:=λhm=>by
  rw[<-x0];simp only[f8,maxLen]at *;have:=Nat.mod_lt (w.tape w.drawn (.appendCap l.length 0 e)) (show 0<2^63-l.length by omega);omega
 have hb:xW w.heap.size w w.drew:=(zY _ _).drew;refine⟨cap,(w.drew.alloc (.cells ((zbo l).toArray++zG (cap-l.length) (qD .u8 0)) e)).freeze ⟨w.drew.heap.size,((zbo l).toArray++zG (cap-l.length) (qD .u8 0)).size,none⟩ 1,?_,h1,h2,hb.trans (zkb w.drew _ _ _),zm4 w.drew _ _ _ _ _⟩;have x2:(w.drew.alloc (.cells ((zbo l).toArray++zG (cap-l.length) (qD .u8 0)) e)).shape? w.drew.heap.size=some (e,((zbo l).toArray++zG (cap-l.length) (qD .u8 0)).size):=by
  simp only[World.shape?,heap_alloc_new]
 unfold gZ;rw[hs];simp only[zJ,run_choose_drew,Question.forced,xZ,if_false,zD,x0,newRow,newObj,Sem.run,zI,markStringish,x1];rw[show({ w.drew with heap:=w.drew.heap.push (jh ((zbo l).toArray++zG (cap-l.length) (qD .u8 0)) e) }:zj)=w.drew.alloc (jh ((zbo l).toArray++zG (cap-l.length) (qD .u8 0)) e) from rfl];simp only[run_shape,x2,zD,run_freeze];rfl
theorem zm6(hT:TOk P T Q)(hO:∀g,O g->g<w.heap.size){x3 dst:zy}{va:V}{r:List Prop×V}(h:cvV T x3 dst va=some r)(hp:allP r.1){ua:zi}(ha:RepV w (λ_=>False) U va.t va.x ua):
  Yields P (uL x3 dst ua) w O U r.2:=by
 obtain⟨ta,xa⟩:=va;unfold cvV at h;split at h
 .rename_i k x l hv ht;obtain⟨rfl,hv⟩:=V.mk.inj hv;cases hv;split at h
  .rename_i hs;obtain⟨q,h1,rfl⟩:=zfz h;have:=RepV.int ha;subst this;have x0:=(hT.is hs).1;have x1:=(hT.lay _ _ ht).1;refine .still (u:=.int l (encI l q.2)) ?_ RepV.ofInt;unfold uL;simp only[zJ,run_underlying x0,run_underlying x1,zD,Conv.intToInt,zI];rw[zqP (vc:=q.1) (z:=q.2) h1 hp]
  .cases h
 .rename_i x hv ht;obtain⟨rfl,hv⟩:=V.mk.inj hv;cases hv;split at h
  .rename_i hs;cases h;obtain⟨e,hl⟩:=RepV.str ha;subst e;have x0:=(hT.is hs).1;have x1:=(hT.lay _ _ ht).1;refine .still ?_ (RepV.ofStr hl);unfold uL;simp only[zJ,run_underlying x0,run_underlying x1,zD,zI]
  .cases h
 .rename_i x hv ht;obtain⟨rfl,hv⟩:=V.mk.inj hv;cases hv;split at h
  .rename_i hs;cases h;obtain⟨e,hl⟩:=RepV.str ha;subst e;have x0:=(hT.is hs).1;obtain⟨te,x1,_,x2⟩:=hT.lay _ _ ht;obtain⟨cap,w',h1,h2,h3,h4,fz,h5⟩:=zfC (P:=P) te x w;refine⟨_,w',?_,h4,RepV.ofSlice (zlJ hO (zf8 x) h2 (h3 hl) h4 h5 λj u hj=>?_)⟩
   .unfold uL;simp only[zJ,run_underlying x0,run_underlying x1,zD,run_underlying x2.1,h1]
   .rw[Array.getElem?_append_left]
    .simpa [zbo] using hj
    .have:=(xB.1 hj).1
     simpa [zbo] using this
  .cases h
 .rename_i x hv ht;obtain⟨rfl,hv⟩:=V.mk.inj hv;cases hv;split at h
  .rename_i hs;cases h;have x4:=RepV.slice ha;obtain⟨te,x0,_,x2⟩:=hT.is hs;have x1:=(hT.lay _ _ ht).1;rcases x4 with ⟨rfl,A,c,rfl,hc⟩|⟨g,off,c,vs,rfl,hx,h1,h2,h3,_,h5,h6⟩
   .refine .still (u:=.string ⟨#[]⟩) ?_ (RepV.ofStr (l:=[]) (by simp));cases A with
    |none=>exact run_convert_bytes_nil (P:=P) w x3 te x0 x2.1 0 c dst x1
    |some A=>
     have:=run_convert_bytes_back (P:=P) w x3 dst te A c [] x0 x2.1 x1 (λj hj=>by simp at hj);exact this
   .have hvs:=zdm h5;subst hvs;refine .still (run_convert_bytes_back (P:=P) w x3 dst te ⟨g,off,none⟩ c x x0 x2.1 x1 λj hj=>?_) (RepV.ofStr (zL h1 h2));rw[qe];exact h6 j _ (by simp[hj])
  .cases h
 .cases h
theorem zcY(k:qo)(n:Int):(asIntOf (.int k n)).run P w=.ok (k,n) w:=rfl
theorem zlm{n i:Nat}{t:Ty}{xs:List t.T}{cs:List zi}(h:RepC w O (.arr n t) xs cs)(hi:i<n):
  RepC w O t (xs.getD i (zaD t)) ((cs.drop (i*t.size)).take t.size):=by
 obtain⟨h1,h2⟩:=h;have x0:i<xs.length:=by have x1:xs.length=n:=h1;omega
 refine h2.nth (λx c=>RepC.len t x c) ?_;simp[zx,zR x0]
theorem ziN(hT:TOk P T Q){xt:zy}{va vi:V}{r:List Prop×V}(h:zoH T xt va vi=some r)(hp:allP r.1){ua ui:zi}(ha:RepV w O U va.t va.x ua)(hi:RepV w O U vi.t vi.x ui):
  Yields P (wJ xt ua ui) w O U r.2:=by
 obtain⟨ta,xa⟩:=va;unfold zoH at h;split at h
 .rename_i n t xs i hv x1;obtain⟨rfl,hv⟩:=V.mk.inj hv;cases hv;obtain⟨k,rfl⟩:=zb7 x1 hi;split at h
  .rename_i hs;cases h;obtain⟨te,hu,_,x0⟩:=hT.is hs;obtain⟨cs,rfl,hc⟩:=(RepD.agg rfl).1 ha;obtain⟨h0,h1⟩:=hp;have h1:i<(n:Int):=h1;obtain⟨u,h2,h3⟩:=x0.part (zlm hc (i:=i.toNat) o_);refine .still (u:=u) ?_ ((za5 x0.data).2 h3);unfold wJ;simp only[zJ,zcY,zD,run_underlying hu,h0,h1,and_self,if_true,x0.sizeOf,h2]
  .cases h
 .rename_i l i hv x1;obtain⟨rfl,hv⟩:=V.mk.inj hv;cases hv;obtain⟨k,rfl⟩:=zb7 x1 hi;split at h
  .rename_i hs;cases h;have hu:=(hT.is hs).1;obtain⟨e,hl⟩:=RepV.str ha;subst e;obtain⟨h0,h1⟩:=hp;have h1:i<(zp l:Nat):=h1;have x2:i.toNat<zp l:=o_;refine .still (u:=.int .u8 ((zx l i.toNat 0).toNat:Int)) ?_ (RepV.ofInt (k:=.u8));unfold wJ;have hget:(⟨xU l⟩:ByteArray)[i.toNat]? =some (zx l i.toNat 0):=by
    have x3:i.toNat<(⟨xU l⟩:ByteArray).size:=by simpa [vL] using x2
    rw[getElem?_pos (⟨xU l⟩:ByteArray) i.toNat x3];simp[zx,zR x2];rfl
   simp only[zJ,zcY,zD,run_underlying hu,h0,if_true,hget,zI]
  .cases h
 .cases h
end
section
variable {P:zA}{w:zj}{O O':Nat->Prop}{U:Nat->zi}{T:Tbl}{Q:List zy}{E:Owns}{F:Frame}{B:Nat}{a:Act}
theorem zgC{t:Ty}{i:Nat}{xs:List t.T}{vs:List zi}(h:RepL (RepC w O t) xs vs)(hi:i<xs.length):RepC w O t (xs.getD i (zaD t)) ((vs.drop (i*t.size)).take t.size):=by
 refine h.nth (λx c=>RepC.len t x c) ?_;simp[zx,zR hi]
theorem zbL{xt te:zy}{s:Nat}(hu:P.underlying xt=some (.slice te))(hs:(vU te).run P w=.ok s w){A:Addr}{n c:Nat}{k:qo}{i:Int}(h0:0<=i)(h1:i<n):
  (kP xt (.slice (some A) n c) (.int k i)).run P w=.ok (.pointer (some (A.add (i.toNat*s)))) w:=by
 unfold kP;simp[zJ,zcY,run_underlying hu,hs,h0,h1]
theorem zg6{xt te:zy}{n s:Nat}(hu:P.underlying xt=some (.array n te))(hs:(vU te).run P w=.ok s w){A:Addr}{k:qo}{i:Int}(h0:0<=i)(h1:i<n):
  (kP xt (.pointer (some A)) (.int k i)).run P w=.ok (.pointer (some (A.add (i.toNat*s)))) w:=by
 unfold kP;simp[zJ,zcY,run_underlying hu,hs,h0,h1,qa]
theorem zfP(hT:TOk P T Q)(x2:∀i o,Owns.get E i=some o->OwnRep w O U B (U i) o){xt:zy}{va vi:V}{r:List Prop×V}(h:zev T E xt va vi=some r)(hp:allP r.1){ua ui:zi}
  (ha:RepV w O U va.t va.x ua) (hi:RepV w O U vi.t vi.x ui):Yields P (kP xt ua ui) w O U r.2:=by
 obtain⟨ta,xa⟩:=va;unfold zev at h;split at h
 .rename_i t xs i hv x1;obtain⟨rfl,hv⟩:=V.mk.inj hv;cases hv;obtain⟨k,rfl⟩:=zb7 x1 hi;split at h
  .rename_i hs;cases h;obtain⟨h0,h1⟩:=hp;have h1:i<(zp xs:Nat):=h1;have x3:i.toNat<zp xs:=o_;obtain⟨te,hu,_,x0⟩:=hT.is hs;rcases RepV.slice ha with ⟨rfl,_⟩|⟨g,off,c,vs,rfl,_,_,_,h5,h6,h7,h8⟩
   .simp at x3
   .refine .still (zbL hu x0.sizeOf h0 h1) ⟨g,off+i.toNat*t.size,_,by rw[qe],h5,h6,zgC h7 x3,(h8.drop _).take _⟩
  .cases h
 .rename_i n t xs i hv x1;obtain⟨rfl,hv⟩:=V.mk.inj hv;cases hv;obtain⟨k,rfl⟩:=zb7 x1 hi;split at h
  .rename_i hs;cases h;obtain⟨h0,h1⟩:=hp;have h1:i<(n:Int):=h1;obtain⟨te,hu,_,x0⟩:=hT.is hs;obtain⟨g,off,cs,rfl,h5,h6,h7,h8⟩:=ha;exact .still (zg6 hu x0.sizeOf h0 h1) ⟨g,off+i.toNat*t.size,_,by rw[qe],h5,h6,zlm h7 o_,(h8.drop _).take _⟩
  .cases h
 .rename_i n t o rt p i hv x1;obtain⟨rfl,hv⟩:=V.mk.inj hv;cases hv;obtain⟨k,rfl⟩:=zb7 x1 hi;split at h
  .rename_i hs;cases h;obtain⟨h0,h1⟩:=hp;have h1:i<(n:Int):=h1;obtain⟨te,hu,_,x0⟩:=hT.is hs;obtain⟨g,h2,rfl⟩:=ha;exact .still (zg6 hu x0.sizeOf h0 h1) ⟨g,h2,by rw[qe];rfl⟩
  .cases h
 .rename_i t' j i hv x1;obtain⟨rfl,hv⟩:=V.mk.inj hv;cases hv;obtain⟨k,rfl⟩:=zb7 x1 hi;split at h
  .rename_i x5 t xs he;split at h
   .rename_i hs;cases h;obtain⟨h0,h1⟩:=hp;have h1:i<(zp xs:Nat):=h1;obtain⟨te,hu,_,x0⟩:=hT.is hs;have x4:ua=U j:=ha;obtain⟨cs,h2,h3,h4⟩:=x2 j _ he;rcases h3.2 with ⟨h5,h6⟩|⟨g,cap,cur,h5,_⟩
    .have:zp xs=0:=h6;omega
    .rw[x4,h5];exact .still (zbL hu x0.sizeOf h0 h1) ⟨g,by rw[h5];rfl,by rw[qe,xV];rfl⟩
   .cases h
  .cases h
 .cases h
def zcC(w:zj)(O:Nat->Prop):(e:Bool)->(r:Ty)->r.T->List zi->Prop
 |true,.slice s,xs,cs=>RepL (RepC w O s) xs cs
 |true,_,_,_=>False
 |false,r,x,cs=>RepC w O r x cs
theorem Path.rep:∀{r t:Ty}(p:Path r t)(x:r.T)(cs:List zi),zcC w O p.isElm r x cs->allP (p.vcs x)->RepC w O t (p.get x) ((cs.drop p.off).take t.size)/\p.off+t.size<=cs.length:=by
 intro r t p
 induction p with
 |here=>
  intro x cs h _;have hl:=RepC.len _ _ _ h;refine⟨?_,by simp[Path.off,hl]⟩;simp only[Path.off,List.drop_zero, <-hl,List.take_length];exact h
 | @fst r a b p ih=>
  intro x cs h hv;obtain⟨⟨c1,c2,h1,h2,h3⟩,h4⟩:=ih x cs h hv;have l1:=RepC.len _ _ _ h2;simp only[Ty.size]at h4 h1;refine⟨?_,by simp only[Path.off];omega⟩;have:(cs.drop p.off).take a.size=c1:=by
   have h5:((cs.drop p.off).take (a.size+b.size)).take a.size=c1:=by rw[h1, <-l1,qQ]
   rwa[qZ,qm o_]at h5
  simp only[Path.off,Path.get,this];exact h2
 | @snd r a b p ih=>
  intro x cs h hv;obtain⟨⟨c1,c2,h1,h2,h3⟩,h4⟩:=ih x cs h hv;have l1:=RepC.len _ _ _ h2;simp only[Ty.size]at h4 h1;refine⟨?_,by simp only[Path.off];omega⟩;have:(cs.drop (p.off+a.size)).take b.size=c2:=by
   have h5:((cs.drop p.off).take (a.size+b.size)).drop a.size=c2:=by rw[h1, <-l1,jC]
   rw[ko,jq]at h5;rwa[show a.size+b.size-a.size=b.size by omega]at h5
  simp only[Path.off,Path.get,this];exact h3
 | @idx r t n p k ih=>
  intro x cs h hv;rw[Path.vcs,zav]at hv;have hk:k<n:=hv.2;obtain⟨h1,h4⟩:=ih x cs h hv.1;simp only[Ty.size]at h1 h4;have h2:=zlm h1 hk;have x0:k*t.size+t.size<=n*t.size:=by
   have:=jJ t.size (show k+1<=n by omega);rwa[jE,wK]at this
  refine⟨?_,by simp only[Path.off];omega⟩;simp only[Path.off,Path.get];rw[ko,jq,qZ,qm o_]at h2;exact h2
 | @elm t k=>
  intro x cs h hv;have hk:k<zp x:=hv;have h':RepL (RepC w O t) x cs:=h;refine⟨zgC h' hk,?_⟩;have hl:=h'.len (λx c=>RepC.len t x c);have:=jJ t.size (show k+1<=zp x by omega);rw[jE,wK]at this;simp only[Path.off];omega
theorem OwnRep.cells{bv:zi}{o:OObj}(h:OwnRep w O U B bv o)(hH:o.noH=true){g:Nat}(hg:zai bv=some g):∃cs,zcC w O o.isBuf o.v.t o.v.x cs/\CellsAt w g 0 cs:=by
 cases o with
 |box t x=>
  obtain⟨g',cs,ty,rfl,h1,h2,h3⟩:=h;cases hg;refine⟨cs,h3,λj u hu=>?_⟩;rw[xV];unfold qd;rw[h2]
  simpa using hu
 |buf te t xs=>
  obtain⟨cs,h1,h2,h3⟩:=h;rcases h2.2 with ⟨rfl,_⟩|⟨g',cap,cur,rfl,h4,h5,h6,h7,h8,h9⟩
  .cases hg
  .cases hg;refine⟨cs,h1,λj u hu=>?_⟩;rw[xV];unfold qd;rw[h5];simp only[jp,xZ,if_false];rw[<-h9,yM]at hu;split at hu
   .simpa using hu
   .cases hu
 |hbox ty vs=>cases hH
 |mp m I=>cases hH
theorem zhT{r:Ty}{o:OObj}{y:r.T}(h:zp1 r o=some y):o.v=⟨r,y⟩:=by
 unfold zp1 at h;generalize o.v=ov at h ⊢;obtain⟨s,x⟩:=ov;exact zic h
theorem zmL{r:Ty}{o:OObj}{y:r.T}(h:zp1 r o=some y):o.noH=true:=by
 have:=zhT h;cases o with
 |box t x=>rfl
 |buf te t xs=>rfl
 |hbox ty vs=>
  obtain⟨rfl,_⟩:=V.mk.inj this;cases h
 |mp m I=>
  obtain⟨rfl,_⟩:=V.mk.inj this;cases h
theorem RepH.append:∀{vs ws:List V}{cs ds:List zi},RepH w O U vs cs->RepH w O U ws ds->RepH w O U (vs++ws) (cs++ds)
 | [],_,_,_,h,h'=>by
  subst h;exact h'
 |v::r,_,_,_,⟨u,s,e,h2,h3,h4⟩,h'=>by subst e;exact⟨u,s++_,rfl,h2,h3,RepH.append h4 h'⟩
theorem RepH.len:∀{vs:List V}{cs:List zi},RepH w O U vs cs->vs.length=cs.length
 | [],_,h=>by
  subst h;rfl
 |v::r,_,⟨u,s,e,_,_,h4⟩=>by subst e;simp[RepH.len h4]
theorem RepH.take:∀(k:Nat){vs:List V}{cs:List zi},RepH w O U vs cs->RepH w O U (vs.take k) (cs.take k)
 |0,_,_,_=>rfl
 |k+1,[],_,h=>by
  subst h;exact rfl
 |k+1,v::r,_,⟨u,s,e,h2,h3,h4⟩=>by subst e;exact⟨u,s.take k,rfl,h2,h3,RepH.take k h4⟩
theorem RepH.drop:∀(k:Nat){vs:List V}{cs:List zi},RepH w O U vs cs->RepH w O U (vs.drop k) (cs.drop k)
 |0,_,_,h=>h
 |k+1,[],_,h=>by
  subst h;exact rfl
 |k+1,v::r,_,⟨u,s,e,h2,h3,h4⟩=>by subst e;exact RepH.drop k h4
theorem zaz:∀(t:Ty)(x:t.T)(cs:List zi),t.data=true->t.noArr=true->RepC w O t x cs->RepH w O U (zaU t x) cs:=by
 intro t
 induction t with
 |pair a b iha ihb=>
  rintro x cs hd hn ⟨c1,c2,rfl,h1,h2⟩;simp only[Ty.data,zh]at hd;simp only[Ty.noArr,zh]at hn;exact(iha _ _ hd.1 hn.1 h1).append (ihb _ _ hd.2 hn.2 h2)
 |unit=>intro x cs _ _ h;exact h
 |arr n t ih=>intro x cs _ hn;cases hn
 |bool=>intro x cs _ _ h;cases h;exact⟨_,_,rfl,rfl,rfl,rfl⟩
 |int k=>intro x cs _ _ h;cases h;exact⟨_,_,rfl,rfl,rfl,rfl⟩
 |str=>rintro x cs _ _ ⟨h,h'⟩;subst h;exact⟨_,_,rfl,rfl,⟨rfl,h'⟩,rfl⟩
 |nils=>intro x cs _ _ h;cases h;exact⟨_,[],rfl,rfl,(RepD.scalar rfl).2 rfl,rfl⟩
 |slice t ih=>
  rintro x cs _ _ ⟨v,rfl,h⟩;refine⟨v,[],rfl,?_,RepV.ofSlice h,rfl⟩;rcases h with ⟨_,A,c,rfl,_⟩|⟨g,off,c,vs,rfl,_⟩<;>rfl
 |_=>intro x cs hd;cases hd
theorem zgZ:∀(t:Ty)(x:t.T)(u:zi),t.leafy=true->RepV w O U t x u->RepH w O U (zaU t x) u.cells.toList:=by
 intro t
 induction t with
 |optr t _=>rintro x u _ h;have h':=h;obtain⟨g,_,rfl⟩:=h';exact⟨_,_,rfl,rfl,h,rfl⟩
 |hptr=>rintro x u _ h;have h':=h;obtain⟨g,_,rfl⟩:=h';exact⟨_,_,rfl,rfl,h,rfl⟩
 |vptr t _=>rintro x u _ h;have h':=h;obtain⟨g,off,cs,rfl,_⟩:=h';exact⟨_,_,rfl,rfl,h,rfl⟩
 |clo f t _=>rintro x u _ h;have h':=h;obtain⟨vs,rfl,_⟩:=h';exact⟨_,_,rfl,rfl,h,rfl⟩
 |mapL=>rintro x u _ h;have h':=h;obtain⟨r,ms,ck,rfl,_⟩:=h';exact⟨_,_,rfl,rfl,h,rfl⟩
 |hcons a b _ ihb=>
  rintro x u hl ⟨y,s,rfl,h2,h3,h4⟩;exact⟨y,s,rfl,h2,h3,ihb _ _ hl h4⟩
 |pair a b _ _=>
  intro x u hl h;have hd:(Ty.pair a b).data=true/\(Ty.pair a b).noArr=true:=by
   have hl:((Ty.pair a b).data&&(Ty.pair a b).noArr)=true:=hl
   simpa using hl
  obtain⟨cs,rfl,h1⟩:=(RepD.agg rfl).1 h;exact zaz _ _ _ hd.1 hd.2 h1
 |unit=>
  intro x u hl h;obtain⟨cs,rfl,h1⟩:=(RepD.agg rfl).1 h;exact zaz _ _ _ rfl rfl h1
 |bool=>intro x u _ h;have:=RepV.bool h;subst this;exact⟨_,_,rfl,rfl,rfl,rfl⟩
 |int k=>intro x u _ h;have:=RepV.int h;subst this;exact⟨_,_,rfl,rfl,rfl,rfl⟩
 |str=>intro x u _ h;have:=RepV.str h;obtain⟨rfl,h'⟩:=this;exact⟨_,_,rfl,rfl,⟨rfl,h'⟩,rfl⟩
 |nils=>intro x u _ h;have h1: [u]=[.slice none 0 0]:=(RepD.scalar rfl).1 h;cases h1;exact⟨_,[],rfl,rfl,(RepD.scalar rfl).2 rfl,rfl⟩
 |slice t _=>
  intro x u hl h;have hd:(Ty.slice t).data=true:=by
   have hl:((Ty.slice t).data&&(Ty.slice t).noArr)=true:=hl;simp only[zh]at hl;exact hl.1
  have h1:=(RepD.scalar rfl).1 h;have h2:u.cells.toList=[u]:=by
   obtain⟨v,e,h2⟩:=h1;cases e;rcases h2 with ⟨_,A,c,rfl,_⟩|⟨g,off,c,vs,rfl,_⟩<;>rfl
  rw[h2];exact zaz _ _ _ hd rfl h1
 |arr n t _=>
  intro x u hl;have hl:((Ty.arr n t).data&&(Ty.arr n t).noArr)=true:=hl;simp[Ty.noArr]at hl
 |_=>intro x u hl;cases hl
theorem zkL(x1:∀i o,Owns.get E i=some o->OwnRep w O U B (U i) o){v:V}{ls:List V}(h:zgY E v=some ls){u:zi}(hu:RepV w O U v.t v.x u):RepH w O U ls u.cells.toList:=by
 obtain⟨t,x⟩:=v;unfold zgY at h;split at h
 .rename_i y he;obtain⟨rfl,he⟩:=V.mk.inj he;cases he;subst hu;unfold zg0 at h;split at h
  .rename_i cs;split at h
   .rename_i x0;cases h;have key:∀l:List zi,l.all je=true->RepH w O U (l.map evC) l:=by
     intro l
     induction l with
     |nil=>intro _;exact rfl
     |cons c l ih=>
      intro hl;simp only[List.all_cons,zh]at hl;exact⟨c,l,rfl,hl.1,zk1 c,ih hl.2⟩
    exact key _ x0
   .cases h
  .cases h
  .rename_i h1 h2;cases h;have hc:u.cells.toList=[u]/\u.oneCell'=true:=by
    cases u<;>first|exact⟨rfl,rfl⟩|exact absurd rfl (h1 _)|exact absurd rfl (h2 _)
   rw[hc.1];exact⟨u,[],rfl,hc.2,rfl,rfl⟩
 .rename_i t' j he;obtain⟨rfl,he⟩:=V.mk.inj he;cases he;split at h
  .rename_i te Z xs hb;cases h;have x2:=hu;have hc:u.cells.toList=[u]/\u.oneCell'=true:=by
    obtain⟨cs,h1,h2,h3⟩:=x1 _ _ hb;rw[x2];rcases h2.2 with ⟨e,_⟩|⟨g,cap,cur,e,_⟩<;>rw[e]<;>exact⟨rfl,rfl⟩
   rw[hc.1];exact⟨u,[],rfl,hc.2,hu,rfl⟩
  .cases h
 .rename_i h1 h2 he;obtain⟨rfl,he⟩:=V.mk.inj he;cases he;split at h
  .rename_i hl;cases h;exact zgZ _ _ _ hl hu
  .cases h
theorem znj:∀(t:Ty)(vs:List V)(x:t.T)(r:List V)(cs:List zi),t.data=true->unD t vs=some (x,r)->RepH w O U vs cs->∃c1 c2,cs=c1++c2/\RepC w O t x c1/\RepH w O U r c2:=by
 have one:∀(t:Ty)(vs:List V)(x:t.T)(r:List V)(cs:List zi),t.data=true->t.isAgg=false->(match vs with |v::r=>(match coe t v with |some x=>some (x,r)|none=>none)| []=>none)=some (x,r)->RepH w O U vs cs->∃c1 c2,cs=c1++c2/\RepC w O t x c1/\RepH w O U r c2:=by
  intro t vs x r cs hd ha h hr;cases vs with
  |nil=>cases h
  |cons v vs=>
   simp only at h;split at h
   .rename_i y hy;cases h;obtain⟨u,s,rfl,h2,h3,h4⟩:=hr;exact⟨[u],s,rfl,(RepD.scalar ha).1 (zfW hd hy h3),h4⟩
   .cases h
 intro t
 induction t with
 |pair a b iha ihb=>
  intro vs x r cs hd h hr;simp only[Ty.data,zh]at hd;simp only[unD]at h;split at h
  .rename_i y r1 h1;split at h
   .rename_i z r2 h2;cases h;obtain⟨c1,c2,rfl,g1,g2⟩:=iha _ _ _ _ hd.1 h1 hr;obtain⟨c3,c4,rfl,g3,g4⟩:=ihb _ _ _ _ hd.2 h2 g2;exact⟨c1++c3,c4,by simp,⟨c1,c3,rfl,g1,g3⟩,g4⟩
   .cases h
  .cases h
 |unit=>
  intro vs x r cs _ h hr;cases h;exact⟨[],cs,rfl,rfl,hr⟩
 |arr n t _=>intro vs x r cs _ h;cases h
 |bool=>intro vs x r cs hd h hr;exact one .bool vs x r cs hd rfl (by cases vs<;>exact h) hr
 |int k=>intro vs x r cs hd h hr;exact one (.int k) vs x r cs hd rfl (by cases vs<;>exact h) hr
 |str=>intro vs x r cs hd h hr;exact one .str vs x r cs hd rfl (by cases vs<;>exact h) hr
 |nils=>intro vs x r cs hd h hr;exact one .nils vs x r cs hd rfl (by cases vs<;>exact h) hr
 |slice t _=>intro vs x r cs hd h hr;exact one (.slice t) vs x r cs hd rfl (by cases vs<;>exact h) hr
 |_=>intro vs x r cs hd;cases hd
theorem zop{Z:Ty}{t:zy}(ht:Lay P Z (.inl t))(ha:Z.isAgg=false){g off:Nat}{u:zi}(hc:w.cell? ⟨g,off,none⟩=some u):
  (qL t (.pointer (some ⟨g,off,none⟩))).run P w=.ok u w:=by
 unfold qL qa Go.loadVar;simp[zJ,ht.isAgg,ha,load,Sem.run,hc]
theorem OwnRep.hcells{bv:zi}{ty:zy}{vs:List V}(h:OwnRep w O U B bv (.hbox ty vs)){g:Nat}(hg:zai bv=some g):∃cs,RepH w O U vs cs/\CellsAt w g 0 cs:=by
 obtain⟨g',cs,rfl,h1,h2,h3⟩:=h;cases hg;refine⟨cs,h3,λj u hu=>?_⟩;rw[xV];unfold qd;rw[h2]
 simpa using hu
theorem zjJ(hT:TOk P T Q)(x0:∀i o,Owns.get E i=some o->OwnRep w O U B (U i) o){t:zy}{va:V}{r:List Prop×V}(h:zjK T E t va=some r)(hp:allP r.1){ua:zi}
  (ha:RepV w O U va.t va.x ua):∃u,(qL t ua).run P w=.ok u w/\RepV w O U r.2.t r.2.x u:=by
 obtain⟨ta,xa⟩:=va;unfold zjK at h;split at h
 .rename_i Z x hv;obtain⟨rfl,hv⟩:=V.mk.inj hv;cases hv;split at h
  .rename_i hs;cases h;obtain⟨g,off,cs,rfl,_,_,h4,h5⟩:=ha;obtain⟨u,h6,h7⟩:=(hT.is hs).loadAt h4 h5;exact⟨_,h6,(za5 (hT.is hs).data).2 h7⟩
  .cases h
 .rename_i g off Z x hv;obtain⟨rfl,hv⟩:=V.mk.inj hv;cases hv;split at h
  .rename_i hs;cases h;obtain⟨cs,rfl,_,_,h4,h5⟩:=ha;obtain⟨u,h6,h7⟩:=(hT.is hs).loadAt h4 h5;exact⟨_,h6,(za5 (hT.is hs).data).2 h7⟩
  .cases h
 .rename_i Z i rt p hv;obtain⟨rfl,hv⟩:=V.mk.inj hv;cases hv;split at h
  .rename_i o he;split at h
   .rename_i hs;split at h
    .rename_i y hy;rw[Path.getO_eq]at h;cases h;simp only[zh,beq_iff_eq]at hs;obtain⟨g,h1,rfl⟩:=ha;obtain⟨cs,h2,h3⟩:=(x0 _ _ he).cells (zmL hy) h1;have h4:zcC w O o.isBuf rt y cs:=by
      rw[zhT hy]at h2;exact h2
     rw[<-hs.2]at h4;obtain⟨h5,h6⟩:=Path.rep p _ _ h4 hp;have h7:=(h3.drop (Path.off p)).take Z.size;rw[xV]at h7;obtain⟨u,h8,h9⟩:=(hT.is hs.1).loadAt h5 h7;exact⟨_,h8,(za5 (hT.is hs.1).data).2 h9⟩
    .cases h
   .cases h
  .cases h
 .rename_i i k hv;obtain⟨rfl,hv⟩:=V.mk.inj hv;cases hv;split at h
  .rename_i vs he;split at h
   .rename_i Z x3;obtain⟨g,h1,rfl⟩:=ha;obtain⟨cs,h2,h3⟩:=(x0 _ _ he).hcells h1;have hl:=hT.lay _ _ x3;have h4:=h2.drop k;have h5:=h3.drop k;rw[xV]at h5;split at h
    .split at h
     .rename_i x r hx;cases h;obtain⟨c1,c2,h6,h7,_⟩:=znj _ _ _ _ _ hl.data hx h4;have h8:CellsAt w g k c1:=λj u hu=>h5 j u (by rw[h6,List.getElem?_append_left (xB.1 hu).1];exact hu);obtain⟨u,h9,x2⟩:=hl.loadAt h7 h8;exact⟨u,h9,(za5 hl.data).2 x2⟩
     .cases h
    .rename_i x1;split at h
     .rename_i v r hv;split at h
      .cases h;rw[hv]at h4;obtain⟨u,s,h6,h7,h8,_⟩:=h4;have h9:w.cell? ⟨g,k,none⟩=some u:=by
        have:=h5 0 u (by rw[h6];rfl)
        simpa using this
       exact⟨u,zop hl (by simpa using x1) h9,h8⟩
      .cases h
     .cases h
   .cases h
  .cases h
 .cases h
theorem zjI(hT:TOk P T Q)(x0:∀i o,Owns.get E i=some o->OwnRep w O U B (U i) o){t:zy}{va:V}{r:List Prop×V}(h:zjK T E t va=some r)(hp:allP r.1){ua:zi}
  (ha:RepV w O U va.t va.x ua):Yields P (qL t ua) w O U r.2:=by
 obtain⟨u,h1,h2⟩:=zjJ hT x0 h hp ha;exact .still h1 h2
theorem zhB(hT:TOk P T Q){xt:zy}{va:V}{n:Nat}{r:List Prop×V}(h:zk0 T xt va n=some r){ua:zi}(ha:RepV w O U va.t va.x ua):Yields P (fL xt ua n) w O U r.2:=by
 unfold zk0 at h;split at h
 .rename_i hs;obtain⟨v,h1,rfl⟩:=zhK h;have hl:=hT.is hs;obtain⟨y,h2,h3⟩:=hl.field h1 ((za5 hl.data).1 ha);have hd:v.t.data=true:=by
   obtain⟨fs,_,h5⟩:=hl.struct h1;have x1:=(za5 hl.data).1 ha;have x0:va.t.isAgg=true:=by
    obtain⟨t,x⟩:=va;cases t<;>first|rfl|(cases n<;>cases h1)
   obtain⟨cs,_,hc⟩:=(RepD.agg x0).1 x1;obtain⟨_,_,_,h6,_⟩:=zcW n _ _ v _ _ cs h1 h5 hc;exact h6.data
  exact .still h2 ((za5 hd).2 h3)
 .cases h
theorem zeN:∀(n:Nat)(r Z:Ty)(p:Path r Z)(t:Ty)(q:Path r t)(fs:List uV)(off:Nat),zj1 n r Z p=some ⟨t,q⟩->Lay P Z (.inr (fs,off))->
  ∃f,fs[n]? =some f/\f.offset+p.off=off+q.off/\Lay P t (.inl f.type)
 |0,r,.pair a b,p,t,q,fs,off,h,hl=>by
  cases h;obtain⟨f,rest,h1,h2,h3,h4⟩:=hl;simp only at h1 h2;subst h1;exact⟨f,rfl,by simp[Path.off,h2],h3⟩
 |n+1,r,.pair a b,p,t,q,fs,off,h,hl=>by
  obtain⟨f,rest,h1,h2,h3,h4⟩:=hl;simp only at h1 h2;subst h1;obtain⟨f',h5,h6,h7⟩:=zeN n r b (.snd p) t q rest _ h h4;refine⟨f',by simpa using h5,?_,h7⟩;simp only[Path.off]at h6;omega
 |0,_,.unit,_,_,_,_,_,h,_=>by cases h
 |_+1,_,.unit,_,_,_,_,_,h,_=>by cases h
 |n,_,.bool,_,_,_,_,_,h,_=>by cases n<;>cases h
 |n,_,.int _,_,_,_,_,_,h,_=>by cases n<;>cases h
 |n,_,.str,_,_,_,_,_,h,_=>by cases n<;>cases h
 |n,_,.arr _ _,_,_,_,_,_,h,_=>by cases n<;>cases h
 |n,_,.slice _,_,_,_,_,_,h,_=>by cases n<;>cases h
 |n,_,.junk,_,_,_,_,_,h,_=>by cases n<;>cases h
 |n,_,.lit,_,_,_,_,_,h,_=>by cases n<;>cases h
 |n,_,.vptr _,_,_,_,_,_,h,_=>by cases n<;>cases h
 |n,_,.cptr _ _ _,_,_,_,_,_,h,_=>by cases n<;>cases h
 |n,_,.optr _,_,_,_,_,_,h,_=>by cases n<;>cases h
 |n,_,.obuf _,_,_,_,_,_,h,_=>by cases n<;>cases h
 |n,_,.tup _ _,_,_,_,_,_,h,_=>by cases n<;>cases h
 |n,_,.cond _,_,_,_,_,_,h,_=>by cases n<;>cases h
theorem Lay.struct'{n:Nat}{r Z:Ty}{s:zy}(h:Lay P Z (.inl s)){p:Path r Z}{q:(t:Ty)×Path r t}(hv:zj1 n r Z p=some q):∃fs,P.underlying s=some (.struct fs)/\Lay P Z (.inr (fs.toList,0)):=by
 cases Z with
 |pair a b=>
  obtain⟨fs,h1,_,f,r,h2,h3,h4,h5⟩:=h;exact⟨fs,h1,f,r,h2,h3,h4,by simpa using h5⟩
 |_=>cases n<;>cases hv
theorem zdQ{s:zy}{fs:Array uV}(hu:P.underlying s=some (.struct fs)){n:Nat}{f:uV}(hf:fs[n]? =some f){t:Ty}(ht:Lay P t (.inl f.type))(hz:0<t.size)(A:Addr):
  (gS s (.pointer (some A)) n).run P w=.ok (.pointer (some (A.add f.offset))) w:=by
 unfold gS;simp only[zJ,run_underlying hu,zD,hf,qa,zI,fieldPlace,ht.sizeOf];rw[if_neg o_];rfl
theorem zfT(hT:TOk P T Q){s:zy}{va:V}{n:Nat}{r:List Prop×V}(h:zew T s va n=some r){ua:zi}(ha:RepV w O U va.t va.x ua):Yields P (gS s ua n) w O U r.2:=by
 obtain⟨ta,xa⟩:=va;unfold zew at h;split at h
 .rename_i Z x hv;obtain⟨rfl,hv⟩:=V.mk.inj hv;cases hv;split at h
  .rename_i hs;split at h
   .rename_i v hf;split at h
    .rename_i hz;cases h;have hl:=hT.is hs;obtain⟨fs,h1,h2⟩:=hl.struct hf;obtain⟨g,off,cs,rfl,h3,h4,h5,h6⟩:=ha;obtain⟨f,h7,h8,h9,x0⟩:=zcW n _ _ v _ _ cs hf h2 h5;refine .still (zdQ h1 (by simpa using h7) h9 (by simpa using hz) _) ⟨g,off+zaV n Z,_,?_,h3,h4,x0,(h6.drop _).take _⟩;rw[qe,h8,xV]
    .cases h
   .cases h
  .cases h
 .rename_i g off Z x hv;obtain⟨rfl,hv⟩:=V.mk.inj hv;cases hv;split at h
  .rename_i hs;split at h
   .rename_i v hf;split at h
    .rename_i hz;cases h;have hl:=hT.is hs;obtain⟨fs,h1,h2⟩:=hl.struct hf;obtain⟨cs,rfl,h3,h4,h5,h6⟩:=ha;obtain⟨f,h7,h8,h9,x0⟩:=zcW n _ _ v _ _ cs hf h2 h5;refine .still (zdQ h1 (by simpa using h7) h9 (by simpa using hz) _) ⟨g,off+zaV n Z,_,?_,h3,h4,x0,(h6.drop _).take _⟩;rw[qe,h8,xV]
    .cases h
   .cases h
  .cases h
 .rename_i Z i rt p hv;obtain⟨rfl,hv⟩:=V.mk.inj hv;cases hv;split at h
  .rename_i hs;split at h
   .rename_i t q hf;split at h
    .rename_i hz;cases h;have hl:=hT.is hs;obtain⟨fs,h1,h2⟩:=hl.struct' hf;obtain⟨g,h3,rfl⟩:=ha;obtain⟨f,h7,h8,h9⟩:=zeN n _ _ _ t q _ _ hf h2;refine .still (zdQ h1 (by simpa using h7) h9 (by simpa using hz) _) ⟨g,h3,?_⟩;rw[qe,show Path.off p+f.offset=q.off by omega]
    .cases h
   .cases h
  .cases h
 .rename_i i k hv;obtain⟨rfl,hv⟩:=V.mk.inj hv;cases hv;split at h
  .rename_i Z hs;split at h
   .rename_i t q hf;split at h
    .rename_i hz;cases h;have hl:=hT.lay _ _ hs;obtain⟨fs,h1,h2⟩:=hl.struct' hf;obtain⟨g,h3,rfl⟩:=ha;obtain⟨f,h7,h8,h9⟩:=zeN n _ _ _ t q _ _ hf h2;refine .still (zdQ h1 (by simpa using h7) h9 (by simpa using hz) _) ⟨g,h3,?_⟩;have x1:f.offset+0=0+q.off:=h8;rw[qe,show k+f.offset=k+q.off by omega]
    .cases h
   .cases h
  .cases h
 .cases h
theorem zjk:∀(n:Nat)(Z:Ty)(x:Z.T)(v:V)(vs:List zi),tupV n Z x=some v->RepTup w O Z x vs->∃u,vs[n]? =some u/\RepD w O v.t v.x u
 |0,.tup a b,x,v,vs,h,hr=>by
  cases h;obtain⟨u,r,rfl,h1,h2⟩:=hr;exact⟨u,rfl,h1⟩
 |n+1,.tup a b,x,v,vs,h,hr=>by
  obtain⟨u,r,rfl,h1,h2⟩:=hr;obtain⟨u',h3,h4⟩:=zjk n b x.2 v r h h2;exact⟨u',by simpa using h3,h4⟩
 |0,.unit,_,_,_,h,_=>by cases h
 |_+1,.unit,_,_,_,h,_=>by cases h
 |n,.bool,_,_,_,h,_=>by cases n<;>cases h
 |n,.int _,_,_,_,h,_=>by cases n<;>cases h
 |n,.str,_,_,_,h,_=>by cases n<;>cases h
 |n,.arr _ _,_,_,_,h,_=>by cases n<;>cases h
 |n,.slice _,_,_,_,h,_=>by cases n<;>cases h
 |n,.junk,_,_,_,h,_=>by cases n<;>cases h
 |n,.lit,_,_,_,h,_=>by cases n<;>cases h
 |n,.vptr _,_,_,_,h,_=>by cases n<;>cases h
 |n,.cptr _ _ _,_,_,_,h,_=>by cases n<;>cases h
 |n,.optr _,_,_,_,h,_=>by cases n<;>cases h
 |n,.obuf _,_,_,_,h,_=>by cases n<;>cases h
 |n,.pair _ _,_,_,_,h,_=>by cases n<;>cases h
 |n,.cond _,_,_,_,h,_=>by cases n<;>cases h
end
section
variable {P:zA}{w:zj}{O O':Nat->Prop}{U:Nat->zi}{T:Tbl}{Q:List zy}{E:Owns}{F:Frame}{B:Nat}{a:Act}
theorem zbG{t:Ty}{x:t.T}{u:zi}(h:RepD w O t x u):RepV w O U t x u:=by
 cases t<;>first|exact h|exact absurd ((RepD.scalar rfl).1 h) (by simp[RepC])
theorem zhC{va:V}{n:Nat}{v:V}(h:tupV n va.t va.x=some v){ua:zi}(ha:RepV w O U va.t va.x ua):Yields P (Instr.extract ua n) w O U v:=by
 obtain⟨ta,xa⟩:=va;cases ta<;>first|(cases n<;>cases h;done)|skip
 obtain⟨vs,rfl,h1⟩:=ha;obtain⟨u,h2,h3⟩:=zjk n _ _ v vs h h1;refine .still (u:=u) ?_ (zbG h3);unfold Instr.extract;simp[h2]
theorem zkJ(hT:TOk P T Q){xt:zy}{va:V}{r:List Prop×V}(h:lenV T xt va=some r){ua:zi}(ha:RepV w O' U va.t va.x ua)(ty:zy):Yields P (uD #[xt] ty #[ua]) w O U r.2:=by
 obtain⟨ta,xa⟩:=va;unfold lenV at h;split at h
 .rename_i l hv;obtain⟨rfl,hv⟩:=V.mk.inj hv;cases hv;split at h
  .rename_i hs;cases h;obtain⟨e,_⟩:=RepV.str ha;subst e;have x0:(⟨xU l⟩:ByteArray).size=zp l:=by simp[vL]
   refine .still (u:=.int .i64 ((zp l:Nat):Int)) ?_ (RepV.ofInt (k:=.i64));unfold uD;simp[zJ,run_underlying (hT.is hs).1,goInt,x0]
  .cases h
 .rename_i t l hv;obtain⟨rfl,hv⟩:=V.mk.inj hv;cases hv;split at h
  .rename_i hs;cases h;obtain⟨te,hu,_⟩:=hT.is hs;obtain⟨A,c,e,_⟩:=(RepV.slice ha).nlen;subst e;refine .still (u:=.int .i64 ((zp l:Nat):Int)) ?_ (RepV.ofInt (k:=.i64));unfold uD;simp[zJ,run_underlying hu,goInt]
  .cases h
 .rename_i n t l hv;obtain⟨rfl,hv⟩:=V.mk.inj hv;cases hv;split at h
  .rename_i hs;cases h;obtain⟨te,hu,_⟩:=hT.is hs;refine .still (u:=.int .i64 ((n:Nat):Int)) ?_ (RepV.ofInt (k:=.i64));unfold uD;simp[zJ,run_underlying hu,goInt]
  .cases h
 .cases h
theorem zbQ{k:qo}{i:Int}{y:Nat}{c:BoundsCode}(h0:0<=i)(h1:i<=y):(fC (.int k i) y c).run P w=.ok i.toNat w:=by
 unfold fC;simp[zJ,zcY,h0,h1]
theorem zfV{α:Type}{xs:List α}{lo hi:Option V}{r:List Prop×List α}(h:cutL xs lo hi=some r)(hp:allP r.1){ul uh:Option zi}(hl:∀v,lo=some v->∃u,ul=some u/\RepV w O U v.t v.x u)(x3:lo=none->ul=none)
  (hh:∀v,hi=some v->∃u,uh=some u/\RepV w O U v.t v.x u) (x0:hi=none->uh=none) (b:Bool) {cap:Nat} (hc:xs.length<=cap):
  ∃i j,i<=j/\j<=xs.length/\r.2=(xs.take j).drop i/\(vw b xs.length cap ul uh none).run P w=.ok (i,j,cap) w:=by
 cases lo with
 |none=>
  have:=x3 rfl;subst this;cases hi with
  |none=>
   have:=x0 rfl;subst this;cases h;exact⟨0,xs.length,by omega,by omega,by simp,by simp[vw]⟩
  |some v=>
   obtain⟨u,rfl,hu⟩:=hh v rfl;simp only[cutL]at h;split at h
   .rename_i x hx;cases h;obtain⟨k,rfl⟩:=zb7 hx hu;obtain⟨h0,h1⟩:=hp;have h1:x<=(xs.length:Int):=h1;refine⟨0,x.toNat,by omega,by omega,by simp,?_⟩;have hb:=zbQ (P:=P) (w:=w) (k:=k) (y:=cap) (c:=if b then .sliceAcap else .sliceAlen) h0 o_;simp only[vw,zJ,zI,zD,hb]
   .cases h
 |some v=>
  obtain⟨u,rfl,hu⟩:=hl v rfl;cases hi with
  |none=>
   have:=x0 rfl;subst this;simp only[cutL]at h;split at h
   .rename_i x hx;cases h;obtain⟨k,rfl⟩:=zb7 hx hu;obtain⟨h0,h1⟩:=hp;have h1:x<=(xs.length:Int):=h1;refine⟨x.toNat,xs.length,by omega,by omega,by simp,?_⟩;have hb:=zbQ (P:=P) (w:=w) (k:=k) (y:=xs.length) (c:=.sliceB) h0 o_;simp only[vw,zJ,zI,zD,jp,xZ,if_false,hb]
   .cases h
  |some v'=>
   obtain⟨u',rfl,x4⟩:=hh v' rfl;simp only[cutL]at h;split at h
   .rename_i x x' hx x1;cases h;obtain⟨k,rfl⟩:=zb7 hx hu;obtain⟨l,rfl⟩:=zb7 x1 x4;obtain⟨h0,h1,h2⟩:=hp;have h2:x'<=(xs.length:Int):=h2;refine⟨x.toNat,x'.toNat,by omega,by omega,by simp,?_⟩;have hb:=zbQ (P:=P) (w:=w) (k:=l) (y:=cap) (c:=if b then .sliceAcap else .sliceAlen) (show 0<=x' by omega) o_;have x2:=zbQ (P:=P) (w:=w) (k:=k) (y:=x'.toNat) (c:=.sliceB) h0 o_;simp only[vw,zJ,zI,zD,jp,xZ,if_false,hb,x2]
   .cases h
theorem zio(hT:TOk P T Q){xt:zy}{va:V}{lo hi:Option V}{r:List Prop×V}(h:znr T xt va lo hi=some r)(hp:allP r.1){ua:zi}(ha:RepV w O U va.t va.x ua){ul uh:Option zi}
  (hl:∀v,lo=some v->∃u,ul=some u/\RepV w O U v.t v.x u) (x6:lo=none->ul=none)
  (hh:∀v,hi=some v->∃u,uh=some u/\RepV w O U v.t v.x u) (x3:hi=none->uh=none):Yields P (jP xt ua ul uh none) w O U r.2:=by
 obtain⟨ta,xa⟩:=va;unfold znr at h;split at h
 .rename_i l hv;obtain⟨rfl,hv⟩:=V.mk.inj hv;cases hv;split at h
  .rename_i hs;obtain⟨q,h1,rfl⟩:=zi5 h;have ha:RepV w O U .str l ua:=ha;obtain⟨e,hlen⟩:=RepV.str ha;subst e;have x7:(⟨xU l⟩:ByteArray).size=zp l:=by simp[vL]
   obtain⟨i,j,h2,h3,h4,h5⟩:=zfV (P:=P) h1 hp hl x6 hh x3 false (cap:=zp l) (zu _);refine .still (u:=.string ⟨(q.2:List UInt8).toArray⟩) ?_ (RepV.ofStr (by rw[h4];simp;omega));have hu:=(hT.is hs).1;unfold jP fM;simp only[zJ,run_underlying hu,zD,jp,xZ,if_false,zI,x7,h5]
   congr 2
   have e2:fi ⟨xU l⟩ i j=⟨(xU l).extract i j⟩:=by
    have:=ByteArray.data_extract (a:=⟨xU l⟩) (b:=i) (e:=j);cases hE:fi ⟨xU l⟩ i j with
    |mk d=>rw[hE]at this;simp only at this;rw[this]
   rw[e2,h4]
   congr 1
   simp[wF,ko]
  .cases h
 .rename_i t xs hv;obtain⟨rfl,hv⟩:=V.mk.inj hv;cases hv;split at h
  .rename_i hs;obtain⟨q,h1,rfl⟩:=zi5 h;obtain⟨te,hu,_,x5⟩:=hT.is hs;show Yields P _ w O U ⟨.slice t,q.2⟩;have key:∀A c,xs.length<=c->∃i j,i<=j/\j<=xs.length/\q.2=(xs.take j).drop i/\(jP xt (.slice A xs.length c) ul uh none).run P w=.ok (.slice (if c=i then A else A.map (·.add (i*t.size))) (j-i) (c-i)) w:=by
    intro A c hc;obtain⟨i,j,h2,h3,h4,h5⟩:=zfV (P:=P) h1 hp hl x6 hh x3 true (cap:=c) hc;refine⟨i,j,h2,h3,h4,?_⟩;unfold jP fM;simp only[zJ,run_underlying hu,zD,h5,x5.sizeOf,zI]
   have ha:RepV w O U (.slice t) xs ua:=ha;rcases RepV.slice ha with ⟨rfl,A,c,rfl,hc⟩|⟨g,off,c,vs,rfl,hx,h5,h6,h7,h8,h9,x4⟩
   .obtain⟨i,j,h2,h3,h4,x0⟩:=key A c (by simp);have hj:j=0:=by simpa using h3
    subst hj;refine .still x0 (RepV.ofSlice (.inl ⟨by rw[h4];simp,(if c=i then A else A.map (·.add (i*t.size))),c-i,?_,by omega⟩));rw[show 0-i=0 by omega]
   .obtain⟨i,j,h2,h3,h4,x0⟩:=key _ c h5;refine .still x0 (RepV.ofSlice ?_);show RepS w O (RepC w O t) q.2 _;have hq:(q.2:List t.T).length=j-i:=by rw[h4];simp;omega
    by_cases x2:i=j
    .subst x2;exact .inl ⟨by rw[h4];simp,(if c=i then some ⟨g,off,none⟩ else(some (⟨g,off,none⟩:Addr)).map (·.add (i*t.size))),c-i,by rw[show i-i=0 by omega],by omega⟩
    .refine .inr ⟨g,off+i*t.size,c-i,(vs.take (j*t.size)).drop (i*t.size),?_,?_,by omega,by omega,h7,h8,?_,?_⟩
     .rw[if_neg o_,fS,qe,hq]
     .intro he;rw[he]at hq;simp at hq;omega
     .rw[h4];exact(h9.take (λx c=>RepC.len t x c) j).drop (λx c=>RepC.len t x c) i
     .exact(x4.take _).drop _
  .cases h
 .rename_i n t xs hv;obtain⟨rfl,hv⟩:=V.mk.inj hv;cases hv;split at h
  .rename_i hs;simp only[zh,vz]at hs;obtain⟨q,h1,rfl⟩:=zi5 h;obtain⟨te,hu,_,x5⟩:=hT.is hs.1;show Yields P _ w O U ⟨.slice t,q.2⟩;obtain⟨g,off,vs,rfl,h7,h8,hc,x4⟩:RepV w O U (.vptr (.arr n t)) xs ua:=ha;obtain⟨x1,h9⟩:=hc;have x1:zp xs=n:=x1;obtain⟨i,j,h2,h3,h4,h5⟩:=zfV (P:=P) h1 hp hl x6 hh x3 false (cap:=zp xs) (zu _);have x0:(jP xt (.pointer (some ⟨g,off,none⟩)) ul uh none).run P w=.ok (.slice (some (if zp xs=i then ⟨g,off,none⟩ else(⟨g,off,none⟩:Addr).add (i*t.size))) (j-i) (zp xs-i)) w:=by
    rw[x1]at h5 ⊢;unfold jP;simp only[zJ,run_underlying hu,zD,h5,x5.sizeOf,zI,qa]
   refine .still x0 (RepV.ofSlice ?_);show RepS w O (RepC w O t) q.2 _;have hq:(q.2:List t.T).length=j-i:=by rw[h4];simp;omega
   have x8:zp xs<=maxLen:=by rw[x1];exact zL hs.2 (by unfold maxLen;omega)
   by_cases x2:i=j
   .subst x2;exact .inl ⟨by rw[h4];simp,_,zp xs-i,by rw[show i-i=0 by omega],by omega⟩
   .refine .inr ⟨g,off+i*t.size,zp xs-i,(vs.take (j*t.size)).drop (i*t.size),?_,?_,by omega,by omega,h7,h8,?_,?_⟩
    .rw[if_neg o_,qe,hq]
    .intro he;rw[he]at hq;simp at hq;omega
    .rw[h4];exact(h9.take (λx c=>RepC.len t x c) j).drop (λx c=>RepC.len t x c) i
    .exact(x4.take _).drop _
  .cases h
 .cases h
end
def over(cs:List zi)(off:Nat)(vs:List zi):List zi:=cs.take off++vs++cs.drop (off+vs.length)
theorem zh8:∀(vs:List zi)(k off:Nat)(cs:List zi),off+k+vs.length<=cs.length->
  ((vs.zipIdx k).foldl (λ(c:Array zi)(p:zi×Nat)=>c.setIfInBounds (off+p.2) p.1) cs.toArray)=(over cs (off+k) vs).toArray
 | [],k,off,cs,_=>by simp[over]
 |v::vs,k,off,cs,h=>by
  simp only[yT]at h;simp only[List.zipIdx_cons,List.foldl_cons,List.setIfInBounds_toArray];rw[zh8 vs (k+1) off (cs.set (off+k) v) (by simp;omega)]
  congr 1
  unfold over;rw[show off+(k+1)=off+k+1 by omega,List.take_set,List.drop_set];rw[if_pos o_];simp only[yT];rw[show off+k+1+vs.length=off+k+(vs.length+1) by omega]
  congr 1
  rw[show((jK (off+k+1) cs).set (off+k) v)=jK (off+k) cs++[v] by
   rw[List.take_succ_eq_append_getElem o_];rw[List.set_append_right _ _ (by simp;omega)];simp;rw[show off+k-min (off+k) cs.length=0 by omega];rfl]
  simp
theorem zgM{cs vs:List zi}{off:Nat}(h:off+vs.length<=cs.length):(over cs off vs).length=cs.length:=by
 simp[over];omega
section
variable {P:zA}{w:zj}{O O':Nat->Prop}{U:Nat->zi}{T:Tbl}{Q:List zy}{E:Owns}{F:Frame}{B:Nat}{a:Act}
theorem RepD.cells{t:Ty}{x:t.T}{u:zi}(h:RepD w O t x u):RepC w O t x u.cells.toList:=by
 unfold RepD at h;split at h
 .obtain⟨cs,rfl,h⟩:=h
  simpa [Value.cells] using h
 .have h1:=RepC.oneCell _ _ _ h u (by simp);have:u.cells= #[u]:=by cases u<;>first|rfl|(simp[je]at h1)
  rw[this];exact h
theorem zj0{place:Nat->Option (Nat×Nat)}{cs:List zi}{i off size:Nat}{u:zi}{rest:List (Nat×zi)}(hp:place i=some (off,size))(hs:u.cells.toList.length=size)(hl:off+size<=cs.length):
  wr place cs.toArray ((i,u)::rest)=wr place (over cs off u.cells.toList).toArray rest:=by
 have x0:u.cells.size=size:=by simpa using hs
 simp only[wr,hp];rw[if_neg (by
  simp only[Bool.or_eq_true,decide_eq_true_eq,not_or,x0,jS];exact⟨λh=>h rfl,by omega⟩)]
 congr 1
 have:=zh8 u.cells.toList 0 off cs o_;rw[jT]at this;rw[<-this, <-Array.foldl_toList]
 congr 1
 simp
theorem zf5:∀(n:Nat)(Z:Ty)(x y:Z.T)(v:V)(u:zi)(fs:List uV)(off:Nat)(cs:List zi),zeY n Z x v=some y->Lay P Z (.inr (fs,off))->RepC w O Z x cs->RepV w O U v.t v.x u->
  ∃f i,fs[n]? =some f/\P.info? f.type=some i/\f.offset=off+zaV n Z/\u.cells.toList.length=i.size/\zaV n Z+i.size<=cs.length/\RepC w O Z y (over cs (zaV n Z) u.cells.toList)
 |0,.pair a b,x,y,v,u,fs,off,cs,h,hl,hr,hv=>by
  simp only[zeY]at h;split at h<;>first|(cases h;done)|skip
  rename_i z h0;cases h;obtain⟨f,r,h1,h2,h3,h4⟩:=hl;simp only at h1 h2;subst h1;obtain⟨c1,c2,rfl,h5,h6⟩:=hr;obtain⟨i,z',hi,x0,_⟩:=h3.info;have hc:=(zfW h3.data h0 hv).cells;have l1:=RepC.len _ _ _ h5;have l2:=RepC.len _ _ _ hc;refine⟨f,i,rfl,hi,by simp[zaV,h2],by rw[l2,x0],by simp[zaV,x0,l1],u.cells.toList,c2,?_,hc,h6⟩;simp only[over,zaV,List.take_zero,List.nil_append,xV,l2, <-l1,jC]
 |n+1,.pair a b,x,y,v,u,fs,off,cs,h,hl,hr,hv=>by
  simp only[zeY]at h;split at h<;>first|(cases h;done)|skip
  rename_i z h0;cases h;obtain⟨f,r,h1,h2,h3,h4⟩:=hl;simp only at h1 h2;subst h1;obtain⟨c1,c2,rfl,h5,h6⟩:=hr;obtain⟨f',i,g1,g2,g3,g4,g5,g6⟩:=zf5 n b x.2 z v u r _ c2 h0 h4 h6 hv;have l1:=RepC.len _ _ _ h5;refine⟨f',i,by simpa using g1,g2,by rw[g3];simp[zaV,vk],g4,by simp[zaV,l1];omega,c1,_,?_,h5,g6⟩;simp only[over,zaV, <-l1,vk];rw[kS,jj];simp
 |0,.unit,_,_,_,_,_,_,_,h,_,_,_=>by cases h
 |_+1,.unit,_,_,_,_,_,_,_,h,_,_,_=>by cases h
 |n,.bool,_,_,_,_,_,_,_,h,_,_,_=>by cases n<;>cases h
 |n,.int _,_,_,_,_,_,_,_,h,_,_,_=>by cases n<;>cases h
 |n,.str,_,_,_,_,_,_,_,h,_,_,_=>by cases n<;>cases h
 |n,.arr _ _,_,_,_,_,_,_,_,h,_,_,_=>by cases n<;>cases h
 |n,.slice _,_,_,_,_,_,_,_,h,_,_,_=>by cases n<;>cases h
 |n,.junk,_,_,_,_,_,_,_,h,_,_,_=>by cases n<;>cases h
 |n,.lit,_,_,_,_,_,_,_,h,_,_,_=>by cases n<;>cases h
 |n,.vptr _,_,_,_,_,_,_,_,h,_,_,_=>by cases n<;>cases h
 |n,.cptr _ _ _,_,_,_,_,_,_,_,h,_,_,_=>by cases n<;>cases h
 |n,.optr _,_,_,_,_,_,_,_,h,_,_,_=>by cases n<;>cases h
 |n,.obuf _,_,_,_,_,_,_,_,h,_,_,_=>by cases n<;>cases h
 |n,.tup _ _,_,_,_,_,_,_,_,h,_,_,_=>by cases n<;>cases h
 |n,.cond _,_,_,_,_,_,_,_,h,_,_,_=>by cases n<;>cases h
def zgj(w:zj)(O:Nat->Prop)(U:Nat->zi):List (Nat×V)->List (Nat×zi)->Prop
 | [],us=>us=[]
 |(i,v)::r,us=>∃u s,us=(i,u)::s/\RepV w O U v.t v.x u/\zgj w O U r s
theorem zeo:∀{ps:List (Nat×V)}{us:List (Nat×zi)},zgj w O U ps us->allP (zd3 ps).1->zgj w O U (zd3 ps).2 us
 | [],us,h,_=>h
 |(i,v)::r,us,h,hp=>by
  obtain⟨u,s,rfl,h1,h2⟩:=h;simp only[zd3,zav]at hp;exact⟨u,s,rfl,zbb h1 hp.1,zeo h2 hp.2⟩
theorem zgI{ps:List (Nat×zK)}(x0:∀p∈ps,RepV w O U (evO F p.2).t (evO F p.2).x (a.eval p.2)):zgj w O U (ps.map λp=>(p.1,evO F p.2)) (ps.map λp=>(p.1,a.eval p.2)):=by
 induction ps with
 |nil=>rfl
 |cons p ps ih=>exact⟨_,_,rfl,x0 p (by simp),ih λq hq=>x0 q (by simp[hq])⟩
theorem zeX{Z:Ty}{fs:List uV}(hl:Lay P Z (.inr (fs,0))){place:Nat->Option (Nat×Nat)}(x0:∀(n:Nat)(f:uV)(i:TypeInfo),fs[n]? =some f->P.info? f.type=some i->place n=some (f.offset,i.size)):
  ∀(ps:List (Nat×V))(us:List (Nat×zi))(x y:Z.T)(cs:List zi),zgj w O U ps us->ziq Z x ps=some y->RepC w O Z x cs->∃ds:List zi,wr place cs.toArray us=some ds.toArray/\RepC w O Z y ds
 | [],us,x,y,cs,h,hs,hr=>by
  cases h;cases hs;exact⟨cs,rfl,hr⟩
 |(i,v)::r,us,x,y,cs,h,hs,hr=>by
  obtain⟨u,s,rfl,h1,h2⟩:=h;obtain⟨z,h3,h4⟩:=vy.1 hs;obtain⟨f,x1,g1,g2,g3,g4,g5,g6⟩:=zf5 i Z x z v u fs 0 cs h3 hl hr h1;rw[xV]at g3;rw[zj0 (x0 i f x1 g1 g2) g4 o_,g3];exact zeX hl x0 r s z y _ h2 h4 g6
theorem zjA:∀(Z:Ty)(fs:List uV)(off:Nat),Lay P Z (.inr (fs,off))->∃places,fs.mapM (λf=>(P.info? f.type).map λi=>(f.offset,i.size))=some places/\
  ∀(n:Nat)(f:uV)(i:TypeInfo),fs[n]? =some f->P.info? f.type=some i->places[n]? =some (f.offset,i.size):=by
 intro Z
 induction Z with
 |unit=>
  intro fs off h;have:fs=[]:=h;subst this;exact⟨[],rfl,λn f i h=>by simp at h⟩
 |pair a b _ ihb=>
  rintro fs off ⟨f,r,h1,h2,h3,h4⟩;simp only at h1 h4;subst h1;obtain⟨pl,h5,h6⟩:=ihb r _ h4;obtain⟨i,z,hi,_⟩:=h3.info;refine⟨(f.offset,i.size)::pl,by simp[List.mapM_cons,hi,h5],λn f' i' hn x0=>?_⟩;cases n with
  |zero=>simp at hn;subst hn;rw[hi]at x0;cases x0;rfl
  |succ n=>exact h6 n f' i' (by simpa using hn) x0
 |_=>intro fs off h;exact absurd h (by simp[Lay])
theorem zdE{e:Ty}(he:e.data=true){place:Nat->Option (Nat×Nat)}(x1:∀n,place n=some (n*e.size,e.size)):
  ∀(ps:List (Nat×V))(us:List (Nat×zi))(x y:List e.T)(cs:List zi),zgj w O U ps us->zeZ e x ps=some y->RepL (RepC w O e) x cs->∃ds:List zi,wr place cs.toArray us=some ds.toArray/\RepL (RepC w O e) y ds/\y.length=x.length
 | [],us,x,y,cs,h,hs,hr=>by
  cases h;cases hs;exact⟨cs,rfl,hr,rfl⟩
 |(i,v)::r,us,x,y,cs,h,hs,hr=>by
  obtain⟨u,s,rfl,h1,h2⟩:=h;simp only[zeZ]at hs;split at hs
  .rename_i hb;have x2:i<x.length:=by simpa using hb
   obtain⟨z,h3,h4⟩:=vy.1 hs;have hc:=(zfW he h3 h1).cells;have hlen:=RepC.len _ _ _ hc;have hl:=hr.len (λx c=>RepC.len e x c);have x3:i*e.size+e.size<=cs.length:=by
    have:=jJ e.size (show i+1<=x.length by omega);rw[jE,wK]at this;omega
   rw[zj0 (x1 i) hlen x3];have x0:=hr.set (λx c=>RepC.len e x c) x2 hc;rw[show over cs (i*e.size) u.cells.toList=cs.take (i*e.size)++u.cells.toList++cs.drop (i*e.size+e.size) by simp only[over,hlen]];obtain⟨ds,g1,g2,g3⟩:=zdE he x1 r s (x.set i z) y _ h2 h4 x0;exact⟨ds,g1,g2,by rw[g3];simp⟩
  .cases hs
theorem zcF:∀(t:Ty),t.data=true->(zbD t).length=t.size:=λt h=>RepC.len (w:=default) (O:=λ_=>False) _ _ _ (ze6 _ _ t h)
theorem zfE{e:Ty}(he:e.data=true)(n:Nat):RepL (RepC w O e) (zg n (zaD e)) (zg n (zbD e)).flatten:=by
 induction n with
 |zero=>rfl
 |succ n ih=>exact⟨_,_,rfl,ze6 _ _ e he,ih⟩
theorem zgu(zc:Array zi)(hz:0<zc.size)(n:Nat):(gp (n*zc.size)).map (λi=>zc[i%zc.size]!)=(zg n zc.toList).flatten.toArray:=by
 apply vj.1;simp only[kr,Array.toList_range]
 induction n with
 |zero=>simp
 |succ n ih=>
  rw[jE,wK,List.range_add,List.map_append,ih,List.replicate_succ',qb]
  congr 1
  simp only[List.flatten_cons,fD,yE,List.map_map];apply List.ext_getElem
  .simp
  .intro i h1 h2;simp at h1;simp[Nat.mul_add_mod_of_lt h1,h1]
theorem zi1(hT:TOk P T Q){t:zy}{ps:List (Nat×V)}{r:List Prop×V}(h:zpk T t ps=some r)(hp:allP r.1){us:Array (Nat×zi)}(hu:zgj w O U ps us.toList):Yields P (Instr.build t us) w O U r.2:=by
 unfold zpk at h;split at h
 .rename_i a b ht;split at h<;>first|(cases h;done)|skip
  rename_i x h1;cases h;have hl:=hT.lay _ _ ht;have x5:=hl;obtain⟨fs,h2,x0,f,rr,h3,h4,h5,h6⟩:=hl;obtain⟨i,z,hi,hs,hz,x3,_⟩:=x0;have x4:Lay P (.pair a b) (.inr (fs.toList,0)):=⟨f,rr,h3,h4,h5,by simpa using h6⟩;obtain⟨x1,h7,h8⟩:=zjA _ _ _ x4;obtain⟨ds,g1,g2⟩:=zeX x4 (place:=(x1.toArray[·]?)) (λn f i hn hi=>by simpa using h8 n f i hn hi) _ us.toList _ x (zbD (.pair a b)) (zeo hu hp) h1 (ze6 _ _ _ x5.data);refine .still (u:=.agg ds.toArray) (run_build w t us _ ?_) (zbG ((RepD.agg rfl).2 ⟨ds,rfl,g2⟩));unfold gT;rw[hi,h2];simp only[hz,h7,x3];exact g1
 .rename_i n e ht;split at h<;>first|(cases h;done)|skip
  rename_i x h1;cases h;obtain⟨te,h2,x0,x2⟩:=hT.lay _ _ ht;obtain⟨i,z,hi,hs,hz,x3,_⟩:=x0;obtain⟨ie,ze,x7,x6,_⟩:=x2.info;obtain⟨ds,g1,g2,g3⟩:=zdE x2.data (place:=λi=>some (i*ie.size,ie.size)) (λn=>by rw[x6]) _ us.toList _ x _ (zeo hu hp) h1 (zfE x2.data n);refine .still (u:=.agg ds.toArray) (run_build w t us _ ?_) (zbG ((RepD.agg rfl).2 ⟨ds,rfl,by rw[g3];simp,g2⟩));unfold gT;rw[hi,h2];simp only[hz,x7,x3];exact g1
 .cases h
theorem zei(hT:TOk P T Q){t:zy}{len:Nat}{ps:List (Nat×V)}{r:List Prop×(t:Ty)×List t.T}(h:zb3 T t len ps=some r)(hp:allP r.1){us:Array (Nat×zi)}(hu:zgj w O U ps us.toList):
  ∃ds te,P.underlying t=some (.slice te)/\Lay P r.2.1 (.inl te)/\0<r.2.1.size/\RepL (RepC w O r.2.1) r.2.2 ds/\r.2.2.length=len/\(uM t len us).run P w=.ok (.slice (some ⟨w.heap.size,0,none⟩) len len) (w.alloc (.cells ds.toArray te)):=by
 unfold zb3 at h;split at h
 .rename_i e ht;split at h
  .rename_i hb;split at h<;>first|(cases h;done)|skip
   rename_i x h1;cases h;simp only[zh,vz]at hb;have x2:0<e.size:=by simpa using hb.2
   obtain⟨te,h2,_,x0⟩:=hT.lay _ _ ht;obtain⟨ie,ze,x6,x1,x4,x3,_⟩:=x0.info;have x5:ze.cells.size=e.size:=by rw[x3];simp[zcF e x0.data]
   obtain⟨ds,g1,g2,g3⟩:=zdE x0.data (place:=λi=>some (i*ie.size,ie.size)) (λn=>by rw[x1]) _ us.toList _ x _ (zeo hu hp) h1 (zfE x0.data len);refine⟨ds,te,h2,x0,x2,g2,by rw[g3];simp,?_⟩;have x7:(gp (len*ie.size)).map (ze.cells[· % ze.cells.size]!)=(zg len (zbD e)).flatten.toArray:=by
    have:=zgu ze.cells o_ len;rw[x5]at this;rw[x1,x5,this,x3]
   by_cases h0:len=0
   .subst h0;simp only[List.replicate_zero,fD]at g1;simp[uM,run_underlying h2,vU,typeInfo,zeroValue,x6,x4,g1,newRow,show gp 0= #[] from rfl]
   .refine run_buildSlice w t te len us _ ie ze h2 x6 x4 (by rw[x1];omega) (by rw[x1];exact Nat.mul_ne_zero h0 o_) ?_;rw[x7];exact g1
  .cases h
 .cases h
theorem zfw(hT:TOk P T Q)(hO:∀g,O g->g<w.heap.size){t:zy}{len:Nat}(hlen:len<=maxLen){ps:List (Nat×V)}{r:List Prop×(t:Ty)×List t.T}(h:zb3 T t len ps=some r)(hp:allP r.1){us:Array (Nat×zi)}
  (hu:zgj w O U ps us.toList):Yields P (uM t len us) w O U ⟨.slice r.2.1,r.2.2⟩:=by
 obtain⟨ds,te,_,_,_,h1,h2,h3⟩:=zei hT h hp hu;refine⟨_,_,h3,za8 _ _,RepV.ofSlice ?_⟩;have:=zlJ hO h1 (cap:=len) o_ hlen (za8 w (.cells ds.toArray te)) (heap_alloc_new w _) (λj u hj=>by simpa using hj);rw[h2]at this;exact this
theorem zgQ{op:Builtin}(x0:op=.min\/op=.max){vs:List V}{r:List Prop×V}(h:minV op vs=some r){us:List zi}(hu:∀(i:Nat)(v:V),vs[i]? =some v->∃u,us[i]? =some u/\RepV w O' U v.t v.x u)(hl:us.length=vs.length)(ts:Array zy)(ty:zy):
  (op=.min->Yields P (fj ts ty us.toArray) w O U r.2)/\(op=.max->Yields P (fk ts ty us.toArray) w O U r.2):=by
 unfold minV at h;split at h
 .rename_i x y;obtain⟨u0,h0,e0⟩:=hu 0 _ rfl;obtain⟨u1,h1,e1⟩:=hu 1 _ rfl;have e0:=RepV.int e0;have e1:=RepV.int e1
  match us,hl with
  | [a,b],_=>
   simp at h0 h1;subst h0;subst h1;subst e0;subst e1;constructor
   .rintro rfl;cases h;refine .still (u:=.int .i64 (min (x:Int) y)) ?_ (RepV.ofInt (k:=.i64));simp only[fj,fE,List.foldlM_nil,Builtin.min2,zJ,zI,zD,encI]
    congr 2
    simp only[Int.min_def];split<;>split<;>omega
   .rintro rfl;cases h;refine .still (u:=.int .i64 (max (x:Int) y)) ?_ (RepV.ofInt (k:=.i64));simp only[fk,fE,List.foldlM_nil,Builtin.max2,zJ,zI,zD,encI]
    congr 2
    simp only[Int.max_def];split<;>split<;>omega
 .cases h
end
def NYields(P:zA)(s:Sem Next)(w:zj)(O:Nat->Prop)(U:Nat->zi)(r:V):Prop:=
 ∃u w',s.run P w=.ok (.value u) w'/\xW w.heap.size w w'/\RepV w' O U r.t r.x u
section
variable {P:zA}{w:zj}{O O':Nat->Prop}{U:Nat->zi}{T:Tbl}{Q:List zy}{E:Owns}{F:Frame}{B:Nat}{a:Act}
theorem Yields.next{s:Sem zi}{r:V}(h:Yields P s w O U r):NYields P (do pure (.value (<-s))) w O U r:=by
 obtain⟨u,w',h1,h2,h3⟩:=h;exact⟨u,w',by simp[h1],h2,h3⟩
theorem NYields.still{s:Sem Next}{r:V}{u:zi}(h:s.run P w=.ok (.value u) w)(hr:RepV w O U r.t r.x u):NYields P s w O U r:=⟨u,w,h,zY _ _,hr⟩
theorem zbS{α γ:Type}(f:α->γ)(xs:Array α):(xs.toList.map f).toArray=xs.map f:=by rw[<-kr,Array.toArray_toList]
theorem zhZ(hT:TOk P T Q)(hO:∀g,O g->g<w.heap.size)(x3:∀i o,Owns.get E i=some o->OwnRep w O U B (U i) o){o:Oper}{r:List Prop×V}(h:pOp T Q E F o.op=some r)(hp:allP r.1)
  (x0:∀x∈o.op.operands,RepV w O U (evO F x).t (evO F x).x (a.eval x)):NYields P (execOp a.eval o) w O U r.2:=by
 obtain⟨dst,op,ty,pos,after,guard⟩:=o;simp only at h x0;have x1:∀{b:Builtin}{args:Array zK}{x2:Array zy},(∀x∈(Op.call ⟨.builtin b,args,x2⟩).operands,RepV w O U (evO F x).t (evO F x).x (a.eval x))->allP (args.toList.map λx=>(zaK (evO F x)).1).flatten->
   ∀(i:Nat)(v:V),(args.toList.map λx=>(zaK (evO F x)).2)[i]? =some v->∃u,(args.toList.map a.eval)[i]? =some u/\RepV w O U v.t v.x u:=by
  intro b args x2 x0 hp i v hv;rw[yB]at hv;obtain⟨x,hx,rfl⟩:=yC.1 hv;have hm:x∈args.toList:=ja hx;refine⟨a.eval x,by rw[yB,hx];rfl,zbb (x0 x (by simp[xT,wN];simpa using hm)) ?_⟩;rw[zq8]at hp ⊢;exact λp x5=>hp p (List.mem_flatten.2 ⟨_,jo.2 ⟨x,hm,rfl⟩,x5⟩)
 have one:∀(x:zK),RepV w O U (evO F x).t (evO F x).x (a.eval x)->allP (zaK (evO F x)).1->RepV w O U (zaK (evO F x)).2.t (zaK (evO F x)).2.x (a.eval x):=λx hx hp=>zbb hx hp;cases op with
 |move x=>cases h;exact .still rfl (x0 x (by simp[xT]))
 |assign x=>cases h;exact .still rfl (x0 x (by simp[xT]))
 |pick c x y=>
  have hc:=x0 c (by simp[xT]);have hx:=x0 x (by simp[xT]);have hy:=x0 y (by simp[xT]);obtain⟨b,h1,h2⟩:=znV h hp hc hx hy;refine .still (u:=if b then a.eval x else a.eval y) ?_ h2;unfold execOp;simp[h1,asBool]
 |binOp op xt x y yt=>
  obtain⟨q,h1,rfl⟩:=zbm h;simp only[zav]at hp;have hx:=one x (x0 x (by simp[xT])) hp.1.1;have hy:=one y (x0 y (by simp[xT])) hp.1.2;exact(zll hT h1 hp.2 hx hy (x:=x) (y:=y)).next
 |unOp op t x=>
  obtain⟨q,h1,rfl⟩:=zbm h;simp only[zav]at hp;exact(zmE h1 hp.2 (one x (x0 x (by simp[xT])) hp.1)).next
 |convert s d x=>
  obtain⟨q,h1,rfl⟩:=zbm h;simp only[zav]at hp;exact(zm6 hT hO h1 hp.2 (zk5 x3 (one x (x0 x (by simp[xT])) hp.1))).next
 |index xt x i=>
  obtain⟨q,h1,rfl⟩:=zbm h;simp only[zav]at hp;exact(ziN hT h1 hp.2 (one x (x0 x (by simp[xT])) hp.1.1) (one i (x0 i (by simp[xT])) hp.1.2)).next
 |indexAddr xt x i=>
  obtain⟨q,h1,rfl⟩:=zbm h;simp only[zav]at hp;exact(zfP hT x3 h1 hp.2 (one x (x0 x (by simp[xT])) hp.1.1) (one i (x0 i (by simp[xT])) hp.1.2)).next
 |load t x=>
  obtain⟨q,h1,rfl⟩:=zbm h;simp only[zav]at hp;exact(zjI hT x3 h1 hp.2 (one x (x0 x (by simp[xT])) hp.1)).next
 |field xt x n=>
  obtain⟨q,h1,rfl⟩:=zbm h;simp only[zav]at hp;exact(zhB hT h1 (one x (x0 x (by simp[xT])) hp.1)).next
 |fieldAddr s x n=>
  obtain⟨q,h1,rfl⟩:=zbm h;simp only[zav]at hp;exact(zfT hT h1 (one x (x0 x (by simp[xT])) hp.1)).next
 |extract x n=>
  simp only[pOp]at h;obtain⟨v,h1,rfl⟩:=zhK h;exact(zhC h1 (one x (x0 x (by simp[xT])) hp)).next
 |slice xt x lo hi mx=>
  cases mx with
  |some m=>cases h
  |none=>
   obtain⟨q,h1,rfl⟩:=zbm h;simp only[zav]at hp;refine(zio hT h1 hp.2 (one x (x0 x (by simp[xT])) hp.1.1) (ul:=lo.map a.eval) (uh:=hi.map a.eval) ?_ (by intro h;cases lo<;>simp_all) ?_ (by intro h;cases hi<;>simp_all)).next
   .intro v hv;obtain⟨y,rfl,rfl⟩:=yC.1 hv;exact⟨_,rfl,one y (x0 y (by simp[xT])) hp.1.2.1⟩
   .intro v hv;obtain⟨y,rfl,rfl⟩:=yC.1 hv;exact⟨_,rfl,one y (x0 y (by simp[xT])) hp.1.2.2⟩
 |build t parts=>
  have x6:zgj w O U (parts.toList.map λp=>(p.1,evO F p.2)) (parts.map λp=>(p.1,a.eval p.2)).toList:=by
   rw[kr];exact zgI λp x5=>x0 p.2 (by simp only[xT];simp;exact⟨p.1,by simpa using x5⟩)
  exact(zi1 hT h hp x6).next
 |buildSlice t len parts=>
  simp only[pOp]at h;split at h<;>first|(cases h;done)|skip
  rename_i pq eq xq h1;cases h;have x6:zgj w O U (parts.toList.map λp=>(p.1,evO F p.2)) (parts.map λp=>(p.1,a.eval p.2)).toList:=by
   rw[kr];exact zgI λp x5=>x0 p.2 (by simp only[xT];simp;exact⟨p.1,by simpa using x5⟩)
  have hlen:len<=maxLen:=by
   unfold zb3 at h1;split at h1
   .split at h1
    .rename_i e _ hb;simp only[zh,vz]at hb;have x7:0<e.size:=by simpa using hb.2
     have:=wU len x7;simp only[maxLen];omega
    .cases h1
   .cases h1
  exact(zfw hT hO hlen h1 hp x6).next
 |makeFunc fn first caps=>
  cases fn with
  |func f=>
   simp only[pOp]at h;split at h<;>first|(cases h;done)|skip
   rename_i t x hf hc;cases h;have ef:first= #[]:=by rw[<-vj,hf]
   subst ef;refine .still (u:=.func (.func f) #[] (caps.toList.map a.eval).toArray) ?_ ⟨_,rfl,?_⟩
   .unfold execOp;rw[zbS];simp[Instr.makeFunc]
   .have key:∀(l:List zK)(y:(t:Ty)×t.T),(∀z∈l,RepV w O U (evO F z).t (evO F z).x (a.eval z))->cloV (l.map (evO F))=some y->RepCap w O y.1 y.2 (l.map a.eval):=by
     intro l
     induction l with
     |nil=>intro y _ hy;cases hy;exact rfl
     |cons z l ih=>
      intro y hz hy;simp only[List.map_cons]at hy;unfold cloV at hy;split at hy
      .rename_i he;cases he
      .rename_i q a' x' r' he;split at hy<;>first|(cases hy;done)|skip
       rename_i t y' hr;cases hy;obtain⟨e1,e2⟩:=kg he;have h0:=hz z (by simp);rw[e1]at h0;rw[<-e2]at hr;exact⟨_,_,rfl,h0,ih _ (λz x8=>hz z (by simp[x8])) hr⟩
      .cases hy
    exact key caps.toList ⟨t,x⟩ (λz hz=>x0 z (by simp only[xT];simp;simpa using hz)) hc
  |_=>cases h
 |nilCheck x=>
  have hx:=x0 x (by simp[xT]);simp only[pOp]at h;split at h
  .rename_i p t y he;cases h;have h1:=one x hx (by rw[he];exact hp);rw[he]at h1;have x4:=h1;obtain⟨g,off,cs,h2,_⟩:=h1;refine .still (u:=a.eval x) ?_ x4;unfold execOp;simp[h2]
  .rename_i p t y he;cases h;have h1:=one x hx (by rw[he];exact hp);rw[he]at h1;have x4:=h1;obtain⟨g,h0,h2⟩:=h1;refine .still (u:=a.eval x) ?_ x4;unfold execOp;simp[h2]
  .rename_i p y he;cases h;have h1:=one x hx (by rw[he];exact hp);rw[he]at h1;have x4:=h1;obtain⟨g,h0,h2⟩:=h1;refine .still (u:=a.eval x) ?_ x4;unfold execOp;simp[h2]
  .cases h
 |call c=>
  obtain⟨callee,args,x2⟩:=c;simp only[pOp]at h;split at h
  .split at h
   .rename_i x t ha ht;obtain⟨q,h1,rfl⟩:=zbm h;simp only[zav]at hp;have ea:args= #[x]:=by rw[<-vj,ha]
    have et:x2= #[t]:=by rw[<-vj,ht]
    subst ea;subst et;have hx:=one x (x0 x (by simp[xT,wN])) hp.1;have e:(execOp a.eval ⟨dst,.call ⟨.builtin .len,#[x],#[t]⟩,ty,pos,after,guard⟩).run P w=((do pure (uN (<-uD #[t] ty #[a.eval x])):Sem Next)).run P w:=by
     unfold execOp;simp[resolve,invoke,builtin]
    have:=(zkJ (P:=P) (O:=O) hT h1 (zk5 x3 hx) ty).next
    unfold NYields at *;rw[e];exact this
   .cases h
  .obtain⟨q,h1,rfl⟩:=zbm h;simp only[zav]at hp;have e:(execOp a.eval ⟨dst,.call ⟨.builtin .min,args,x2⟩,ty,pos,after,guard⟩).run P w=((do pure (uN (<-fj x2 ty (args.toList.map a.eval).toArray)):Sem Next)).run P w:=by
    unfold execOp;rw[zbS];simp[resolve,invoke,builtin]
   have:=(zgQ (P:=P) (O:=O) (O':=O) (w:=w) (U:=U) (Or.inl rfl) h1 (us:=args.toList.map a.eval) (x1 x0 hp.1) (by simp) x2 ty).1 rfl |>.next
   unfold NYields at *;rw[e];exact this
  .obtain⟨q,h1,rfl⟩:=zbm h;simp only[zav]at hp;have e:(execOp a.eval ⟨dst,.call ⟨.builtin .max,args,x2⟩,ty,pos,after,guard⟩).run P w=((do pure (uN (<-fk x2 ty (args.toList.map a.eval).toArray)):Sem Next)).run P w:=by
    unfold execOp;rw[zbS];simp[resolve,invoke,builtin]
   have:=(zgQ (P:=P) (O:=O) (O':=O) (w:=w) (U:=U) (Or.inr rfl) h1 (us:=args.toList.map a.eval) (x1 x0 hp.1) (by simp) x2 ty).2 rfl |>.next
   unfold NYields at *;rw[e];exact this
  .cases h
 |_=>cases h
end
def uses(i:Nat):(t:Ty)->t.T->Bool
 |.obuf _,j=>yG i j
 |.optr _,p=>yG i p.i
 |.cond t,x=>uses i t x.2
 |.hptr,x=>yG i x.1
 |.hcons a b,x=>uses i a x.1||uses i b x.2
 |_,_=>false
def V.kill(i:Nat)(v:V):V:=bif uses i v.t v.x then ⟨.junk,()⟩ else v
def Frame.kill(i:Nat):List (Nat×V)->List (Nat×V)
 | []=>[]
 |(s,v)::r=>(s,v.kill i)::Frame.kill i r
theorem Frame.get_kill(i:Nat)(F:Frame)(s:Nat):Frame.get (Frame.kill i F) s=(Frame.get F s).kill i:=by
 induction F with
 |nil=>rfl
 |cons p F ih=>
  obtain⟨d,v⟩:=p;simp only[Frame.kill,zal,ih];split<;>rfl
theorem RepV.other{w:zj}{O:Nat->Prop}{U:Nat->zi}{i:Nat}{bv:zi}:∀(t:Ty)(x:t.T)(v:zi),uses i t x=false->RepV w O U t x v->RepV w O (λj=>if j=i then bv else U j) t x v:=by
 intro t
 induction t with
 |optr t _=>
  rintro x v hb ⟨g,h1,h2⟩;have x0:yG i x.i=false:=hb;have:x.i≠i:=λe=>by rw[e]at x0;simp at x0
  exact⟨g,by simp[this,h1],h2⟩
 |obuf t _=>
  intro x v;intro hb h;have x0:yG i x=false:=hb;have:x≠i:=λe=>by rw[e]at x0;simp at x0
  have h':=h;show v=if x=i then bv else U x
  rw[if_neg this,h']
 |cond t ih=>intro x v hb h;exact⟨λhc=>ih _ _ hb (h.1 hc),h.2⟩
 |hptr=>
  rintro x v hb ⟨g,h1,h2⟩;have x0:yG i x.1=false:=hb;have:x.1≠i:=λe=>by rw[e]at x0;simp at x0
  exact⟨g,by simp[this,h1],h2⟩
 |hcons a b iha ihb=>
  rintro x v hb ⟨u,s,h1,h2,h3,h4⟩;have x0:(uses i a x.1||uses i b x.2)=false:=hb;rw[Bool.or_eq_false_iff]at x0;exact⟨u,s,h1,h2,iha _ _ x0.1 h3,ihb _ _ x0.2 h4⟩
 |_=>intro x v hb h;exact h
def OObj.kill(i:Nat):OObj->OObj
 |.hbox ty vs=>.hbox ty (vs.map (V.kill i))
 |o=>o
def Owns.kill(i:Nat):List (Nat×Option OObj)->List (Nat×Option OObj)
 | []=>[]
 |(j,some (.hbox ty vs))::r=>(j,some (.hbox ty (vs.map (V.kill i))))::Owns.kill i r
 |p::r=>p::Owns.kill i r
theorem Owns.get_kill(i:Nat)(E:Owns)(j:Nat):Owns.get (Owns.kill i E) j=(Owns.get E j).map (OObj.kill i):=by
 induction E with
 |nil=>rfl
 |cons p E ih=>
  obtain⟨k,o⟩:=p;have x0:Owns.kill i ((k,o)::E)=(k,o.map (OObj.kill i))::Owns.kill i E:=by
   cases o with
   |none=>rfl
   |some o=>cases o<;>rfl
  rw[x0,zag,zag,ih];split<;>rfl
theorem OObj.kill_isBuf(i:Nat)(o:OObj):(o.kill i).isBuf=o.isBuf:=by cases o<;>rfl
theorem V.kill_bound(i:Nat)(v:V):(v.kill i).bound<=v.bound:=by
 unfold V.kill;cases uses i v.t v.x with
 |true=>exact zk _
 |false=>exact zu _
theorem OObj.kill_under{i k:Nat}{o:OObj}(h:o.under k):(o.kill i).under k:=by
 cases o with
 |hbox ty vs=>
  intro ws e v hv;cases e;obtain⟨u,hu,rfl⟩:=jo.1 hv;exact zL (V.kill_bound i u) (h vs rfl u hu)
 |_=>intro ws e;cases e
theorem RepH.kill{w:zj}{O:Nat->Prop}{U:Nat->zi}{i:Nat}{bv:zi}:∀{vs:List V}{cs:List zi},RepH w O U vs cs->RepH w O (λj=>if j=i then bv else U j) (vs.map (V.kill i)) cs
 | [],_,h=>h
 |v::r,_,⟨u,s,h1,h2,h3,h4⟩=>by
  refine⟨u,s,h1,h2,?_,RepH.kill h4⟩;unfold V.kill;cases hu:uses i v.t v.x with
  |true=>trivial
  |false=>exact RepV.other _ _ _ hu h3
theorem OwnRep.kill{w:zj}{O:Nat->Prop}{U:Nat->zi}{i B:Nat}{bv b':zi}{o:OObj}(h:OwnRep w O U B b' o):OwnRep w O (λj=>if j=i then bv else U j) B b' (o.kill i):=by
 cases o with
 |box t x=>exact h
 |buf te t xs=>exact h
 |hbox ty vs=>
  obtain⟨g',cs,e,h1,h2,h3⟩:=h;exact⟨g',cs,e,h1,h2,h3.kill⟩
 |mp m I=>exact h
section
variable {w0:zj}{X:Ownr}{n:Nat}{Y:AS}{U:Nat->zi}{a:Act}{w w':zj}
theorem Sim.redo(h:Sim w0 X n Y U a w){i:Nat}{o o':OObj}(hi:Owns.get Y.E i=some o)(x7:o.isBuf=true)(hg:w.grownBy w' (zai (U i))){bv:zi}
  (x8:∀g,zai bv=some g->zai (U i)=some g\/w.heap.size<=g)
  (hr:∀O U',(∀g,g<w.heap.size->O g->OSet X Y.E U g)->OwnRep w' O U' 0 bv o') {t:Ty}{d:Nat} (hd:d<n) (hu:o'.under Y.nx:=by exact λ_ e=>by cases e):
  ∃U',Sim w0 X n { F:=(d,⟨.obuf t,i⟩)::Frame.kill i Y.F,E:=(i,some o')::Owns.kill i Y.E,nx:=Y.nx } U' (a.put (some d) bv) w':=by
 refine⟨λj=>if j=i then bv else U j,?_⟩;have hO:∀g,g<w.heap.size->OSet X ((i,some o')::Owns.kill i Y.E) (λj=>if j=i then bv else U j) g->OSet X Y.E U g:=λg xb xd=>by
  rcases xd with h1|⟨j,oj,h1,h2⟩
  .exact .inl h1
  .rw[zag]at h1;by_cases hj:i=j
   .subst hj;simp at h2;rcases x8 g h2 with h3|h3
    .exact .inr ⟨i,o,hi,h3⟩
    .omega
   .rw[if_neg hj,Owns.get_kill]at h1;obtain⟨pj,xg,xh⟩:=yC.1 h1;simp[xI hj]at h2;exact .inr ⟨j,pj,xg,h2⟩
 have x2:Keeps w w' (OSet X Y.E U) (OSet X ((i,some o')::Owns.kill i Y.E) (λj=>if j=i then bv else U j)):=
  ⟨hg.size,λg xb xf=>hg.block g xb λe=>xf (.inr ⟨i,o,hi,e.symm⟩),hO⟩
 have x0:∀{j:Nat}{oj:OObj},i≠j->(if i=j then some o' else Owns.get (Owns.kill i Y.E) j)=some oj->∃pj,Owns.get Y.E j=some pj/\pj.kill i=oj:=λhs hj=>by
  rw[if_neg hs,Owns.get_kill]at hj;exact yC.1 hj
 have x5:=h.bel.grown hg λg e=>h.new i o g hi e;have xe:=h.lt i o hi;refine⟨?_,?_,x5,?_,?_,?_,?_,?_,?_,?_,?_⟩
 .rw[Act.put_size];exact h.sz
 .rw[Act.put_defers];exact h.df
 .intro s;rw[Act.put_get (by rw[h.sz];exact hd)];rw[zal];by_cases hs:d=s
  .rw[if_pos hs,if_pos hs];show bv=if i=i then bv else U i
   rw[if_pos rfl]
  .rw[if_neg hs,if_neg hs,Frame.get_kill];unfold V.kill;cases hu:uses i (Frame.get Y.F s).t (Frame.get Y.F s).x with
   |true=>trivial
   |false=>exact RepV.other _ _ _ hu (RepV.keep x2 _ _ _ (h.fr s))
 .intro j oj hj;rw[show Owns.get ((i,some o')::Owns.kill i Y.E) j=_ from zag ..]at hj;by_cases hs:i=j
  .subst hs;rw[if_pos rfl]at hj;cases hj;rw[if_pos rfl];exact hr _ _ hO
  .obtain⟨pj,x1,rfl⟩:=x0 hs hj;rw[if_neg (xI hs)];refine((h.own j pj x1).keep x2 λg x9=>hg.block g ((h.own j pj x1).block_lt x9).2 λe=>?_).kill;exact h.inj i j o pj hi x1 hs g e.symm x9
 .intro j oj g hj;rw[show Owns.get ((i,some o')::Owns.kill i Y.E) j=_ from zag ..]at hj;by_cases hs:i=j
  .rw[if_pos hs.symm];intro x3;rcases x8 g x3 with h3|h3
   .exact h.new i o g hi h3
   .exact .inl (zL h.bel.size h3)
  .obtain⟨pj,x1,rfl⟩:=x0 hs hj;rw[if_neg (xI hs)];exact h.new j pj g x1
 .intro j k oj ok hj hk xc g;rw[show Owns.get ((i,some o')::Owns.kill i Y.E) j=_ from zag ..]at hj;rw[show Owns.get ((i,some o')::Owns.kill i Y.E) k=_ from zag ..]at hk;have fresh:∀m om,i≠m->Owns.get Y.E m=some om->zai bv=some g->zai (U m)≠some g:=λm om hm xa x3 x4=>by
   rcases x8 g x3 with h3|h3
   .exact h.inj i m o om hi xa hm g h3 x4
   .have:=((h.own m om xa).block_lt x4).2;omega
  by_cases h1:i=j
  .by_cases h2:i=k
   .omega
   .obtain⟨pk,x6,rfl⟩:=x0 h2 hk;rw[if_pos h1.symm,if_neg (xI h2)];exact fresh k pk h2 x6
  .obtain⟨pj,x1,rfl⟩:=x0 h1 hj;rw[if_neg (xI h1)];by_cases h2:i=k
   .rw[if_pos h2.symm];exact λx3 x4=>fresh j pj h1 x1 x4 x3
   .obtain⟨pk,x6,rfl⟩:=x0 h2 hk;rw[if_neg (xI h2)];exact h.inj j k pj pk x1 x6 xc g
 .intro j oj hj;rw[show Owns.get ((i,some o')::Owns.kill i Y.E) j=_ from zag ..]at hj;by_cases hs:i=j
  .exact hs▸xe
  .obtain⟨pj,x1,rfl⟩:=x0 hs hj;exact h.lt j pj x1
 .refine⟨h.fix.1,λj hj=>?_⟩;obtain⟨h2,h3⟩:=h.fix.2 j hj;have hs:i≠j:=λe=>by subst e;have:=h3 o hi;rw[x7]at this;cases this
  refine⟨?_,λoj ho=>?_⟩
  .
   rw[if_neg (xI hs)];exact h2
  .rw[show Owns.get ((i,some o')::Owns.kill i Y.E) j=_ from zag ..]at ho;obtain⟨pj,x1,rfl⟩:=x0 hs ho;rw[OObj.kill_isBuf];exact h3 pj x1
 .intro s;rw[zal];by_cases hs:d=s
  .rw[if_pos hs];show i+1<=Y.nx;omega
  .rw[if_neg hs,Frame.get_kill];unfold V.kill;cases uses i (Frame.get Y.F s).t (Frame.get Y.F s).x with
   |true=>exact zk _
   |false=>exact h.hb s
 .intro j oj hj;rw[show Owns.get ((i,some o')::Owns.kill i Y.E) j=_ from zag ..]at hj;by_cases hs:i=j
  .rw[if_pos hs]at hj;cases hj;exact hu
  .obtain⟨pj,x1,rfl⟩:=x0 hs hj;exact OObj.kill_under (h.hE j pj x1)
end
section
variable {P:zA}{w:zj}{O O':Nat->Prop}{U:Nat->zi}
theorem zdZ{bv:zi}{w:zj}{B e s n:Nat}{cs:List zi}(h:w.ownsRow B e s bv n cs):bv.ownBlock=zai bv:=by
 rcases h.2 with ⟨rfl,_⟩|⟨g,cap,cur,rfl,_⟩<;>rfl
theorem znq{E:Owns}{B:Nat}(x0:∀i o,Owns.get E i=some o->OwnRep w O U B (U i) o){v:V}{Z:Ty}{ys:List Z.T}(hd:dat E v=⟨.slice Z,ys⟩){u:zi}(h:RepV w O U v.t v.x u):RepS w (λ_=>False) (RepC w O Z) ys u:=by
 obtain⟨t,x⟩:=v;cases t<;>simp only[dat]at hd<;>first|(cases hd;done)|skip
 .cases hd;exact(RepV.slice h).keep .of_false λ_ _ h=>h
 .split at hd
  .rename_i te t' xs he;cases hd;have h':=h;subst h';obtain⟨cs,h1,h2,h3⟩:=x0 x _ he;rcases h2.2 with ⟨e,h4⟩|⟨g,cap,cur,e,h5,h6,h7,h8,h9,h10⟩
   .have:ys=[]:=xC h4;subst this;exact .inl ⟨rfl,none,0,e,by simp[maxLen]⟩
   .by_cases hx:ys=[]
    .subst hx;exact .inl ⟨rfl,some ⟨g,0,none⟩,cap,e,h8⟩
    .refine .inr ⟨g,0,cap,cs,e,hx,h7,h8,(zv.1 h6).1,λh=>h.elim,h1,λj u hu=>?_⟩;rw[xV];unfold qd;rw[h6];simp only[jp,xZ,if_false];rw[<-h10,yM]at hu;split at hu
     .simpa using hu
     .cases hu
  .cases hd
theorem zf2{t e:zy}{Z:Ty}(ht:P.underlying t=some (.slice e))(he:Lay P Z (.inl e))(xc:24*Z.size<=100000)(ty:zy){B:Nat}(hB:B<=w.heap.size){bv:zi}{xs ys:List Z.T}(x6:OwnRep w O U B bv (.buf e Z xs))
  (xf:∀g,zai bv=some g->O g) {u:zi} (hu:RepS w (λ_=>False) (RepC w O Z) ys u) (hlen:xs.length+ys.length<=1000000000):
  ∃v' w',(vW #[t,t] ty #[bv,u]).run P w=.ok v' w'/\w.grownBy w' (zai bv)/\(∀g,zai v'=some g->zai bv=some g\/w.heap.size<=g)/\
   ∀O2,(∀g,g<w.heap.size->O2 g->O g)->OwnRep w' O2 U B v' (.buf e Z (xs++ys)):=by
 obtain⟨cs,h1,h2,h3⟩:=x6;obtain⟨i,z,hi,hs,hz,xe,xi⟩:=he.info;have xd:z.cells.size=Z.size:=by rw[xe];simp[zcF Z he.data]
 have x7:xs.length+ys.length<=maxLen:=by simp only[maxLen];omega
 have x1:(xs.length+ys.length)*i.bytes<=140737488355328:=by
  have h4:i.bytes<=100000:=o_;have h5:=wt hlen h4;omega
 have xb:=zdZ h2;have fin:∀(ad:Addr)(c:Nat)(x0:List zi),u=.slice (some ad) ys.length c->RepL (RepC w O Z) ys x0->(∀(j:Nat)(x:zi),x0[j]? =some x->w.cell? (ad.add j)=some x)->∃v' w',(vW #[t,t] ty #[bv,u]).run P w=.ok v' w'/\w.grownBy w' (zai bv)/\(∀g,zai v'=some g->zai bv=some g\/w.heap.size<=g)/\
   ∀O2,(∀g,g<w.heap.size->O2 g->O g)->OwnRep w' O2 U B v' (.buf e Z (xs++ys)):=by
  intro ad c x0 hu hr hc;subst hu;have hl:=hr.len (λx c=>RepC.len Z x c);have xa:=hr.all (p:=λu=>u.oneCell'=true) (λx c=>RepC.oneCell Z x c);obtain⟨v',w',k1,k2,k3,k4⟩:=run_append_own (P:=P) w B t ty e i z Z.size i.bytes ht hi hz hs rfl xd h3 bv xs.length cs h2 ad ys.length c x0 hl hc xa x7 x1 hB;refine⟨v',w',k1,xb▸k3,?_,λO2 x5=>⟨cs++x0,?_,by rw[zl];exact k2,h3⟩⟩
  .intro g hg;rcases h2.2 with ⟨rfl,hn⟩|⟨g',cap,cur,rfl,hbg,hg',hnc,hcm,hcs,htake⟩
   .by_cases hm:ys.length=0
    .have:=k4.2 ⟨rfl,hm⟩;rw[this]at hg;cases hg
    .have x3:=run_append_nil (P:=P) w t ty e i z ht hi hz ad ys.length c x0 (by rw[hl,hs]) hc o_ (by simp only[maxLen]at x7;omega) (by have h8:=wt (show ys.length<=xs.length+ys.length by omega) (zu i.bytes);omega);rw[x3]at k1;cases k1;cases hg;exact .inr (zu _)
   .by_cases x2:xs.length+ys.length<=cap
    .have x8:xs.length*i.size+x0.length<=cur.size:=by rw[hl,hcs,hs, <-jE];exact jJ _ x2
     have x3:=run_append_room (P:=P) w t ty e i ht hi g' xs.length cap cur hg' ad ys.length c x0 (by rw[hl,hs]) hc xa x2 x8;rw[x3]at k1;cases k1;exact .inl hg
    .have x4:∀j u,cs[j]? =some u->w.cell? ((⟨g',0,none⟩:Addr).add j)=some u:=h2.cells (g:=g') rfl;have x3:=run_append_grow (P:=P) w t ty e i z ht hi hz ⟨g',0,none⟩ xs.length cap cs (by rw[h2.1,hs]) x4 ad ys.length c x0 (by rw[hl,hs]) hc o_ (by simp only[maxLen]at x7;omega) (growslice_fits o_ x1);rw[x3]at k1;cases k1;cases hg;exact .inr (zu _)
  .have hk:Keeps w w' O O2:=⟨k3.size,λg xh xg=>k3.block g xh λe=>xg (xf g (by rw[<-xb];exact e.symm)),x5⟩;exact(h1.append hr).mono λx _ c=>RepC.keep hk _ _ _
 rcases hu with ⟨rfl,A,c,rfl,hc⟩|⟨g,off,c,vs,rfl,hx,h5,h6,h7,_,h9,h10⟩
 .cases A with
  |some ad=>exact fin ad c [] rfl rfl (λj x hj=>by simp at hj)
  |none=>
   have x9:(vW #[t,t] ty #[bv,.slice none 0 c]).run P w=.ok bv w:=by
    rcases h2.2 with ⟨rfl,_⟩|⟨g',cap,cur,rfl,hbg,hg',hnc,hcm,hcs,htake⟩
    .simp[vW,run_underlying ht,vU,typeInfo,hi,gU,wu]
    .simp[vW,run_underlying ht,vU,typeInfo,hi,gU,wu,hnc,storeCells]
   refine⟨bv,w,x9,⟨rfl,rfl,rfl,zu _,λ_ _ _=>rfl⟩,λg hg=>.inl hg,λO2 x5=>⟨cs,?_,by simpa using h2,h3⟩⟩;rw[yE];exact h1.mono λx _ c=>RepC.keep ⟨zu _,λ_ _ _=>rfl,x5⟩ _ _ _
 .exact fin ⟨g,off,none⟩ c vs rfl h9 (λj x hj=>by rw[qe];exact h10 j x hj)
end
@[reducible] def Args:List Ty->Type
 | []=>Unit
 |t::r=>t.T×Args r
def RepA(w:zj)(O:Nat->Prop):(ts:List Ty)->Args ts->List zi->Prop
 | [],_,vs=>vs=[]
 |t::r,x,vs=>∃v s,vs=v::s/\RepV w O (λ_=>undef) t x.1 v/\RepA w O r x.2 s
def zcd(w:zj)(O:Nat->Prop)(B:Nat)(own:Option zy):(t:Ty)->t.T->zi->Prop
 |.slice Z,xs,v=>match own with
  |some te=>OwnRep w (λg=>O g\/zai v=some g) (λ_=>undef) B v (.buf te Z xs)
  |none=>RepD w O (.slice Z) xs v
 |t,x,v=>∀U,RepV w O U t x v
structure Ctr where
 args:List Ty
 pre:Args args->List Prop
 res:Ty
 own:Option zy
 out:Args args->res.T
def CtrOk(P:zA)(G:zj->Prop)(f:yR)(c:Ctr):Prop:=
 (∀(zas:Array zi)(w:zj),(callFunc f zas).run P w=.ok (.enter f zas) w)/\
 ∀(w:zj)(O:Nat->Prop)(xs:Args c.args)(vs:List zi),(∀g,O g->g<w.heap.size)->RepA w O c.args xs vs->allP (c.pre xs)->G w->
  Calls P f vs.toArray w λe w'=>∃v,e=.returned v/\xW w.heap.size w w'/\zcd w' O w.heap.size c.own c.res (c.out xs) v
abbrev Ctrs:=List (yR×Ctr)
def cget:List (yR×Ctr)->yR->Option Ctr
 | [],_=>none
 |(g,c)::r,f=>bif yG g f then some c else cget r f
def CsOk(P:zA)(G:zj->Prop)(C:Ctrs):Prop:=∀f c,cget C f=some c->CtrOk P G f c
def Ty.flat:Ty->Bool
 |.bool|.int _|.str|.unit=>true
 |.pair a b=>a.flat&&b.flat
 |.arr _ t=>t.flat
 |.tup a b=>a.flat&&b.flat
 |_=>false
def zgi(E:Owns)(fl:Bool):List V->(ts:List Ty)->Option (List Prop×Args ts)
 | [],[]=>some ([],())
 |v::vs,t::ts=>
  match coe t (bif fl then dat E (zaK v).2 else(zaK v).2),zgi E fl vs ts with
  |some x,some (p,xs)=>some ((zaK v).1++p,(x,xs))
  |_,_=>none
 |_,_=>none
def Ctr.fl(c:Ctr):Bool:=c.res.flat
def Ty.argOk:Ty->Bool
 |.vptr t=>t.data
 |.clo _ _=>true
 |.mapL=>true
 |.lit=>true
 |t=>t.data
def zbf:List Ty->Bool
 | []=>true
 |t::r=>t.argOk&&zbf r
def zm8:(t:Ty)->t.T->List V
 |.tup a b,x=>⟨a,x.1⟩::zm8 b x.2
 |_,_=>[]
def zsU:zi->Option (yR×List V)
 |.func (.func f) a b=>match a.toList,b.toList with
  | [],[]=>some (f,[])
  |_,_=>none
 |_=>none
def zfY(F:Frame)(x:zK):Option (yR×List V):=
 match evO F x with
 |⟨.lit,y⟩=>zsU y
 |⟨.clo f t,y⟩=>some (f,zm8 t y)
 |⟨.cond .lit,(true,y)⟩=>zsU y
 |_=>none
def callV(C:Ctrs)(E:Owns)(f:yR)(vs:List V):Option (List Prop×(c:Ctr)×Args c.args):=
 match cget C f with
 |some c=>if zbf c.args then(match zgi E c.fl vs c.args with |some ([],xs)=>some (c.pre xs,⟨c,xs⟩)|some (p::q,xs)=>some (p::q++c.pre xs,⟨c,xs⟩)|none=>none) else none
 |none=>none
noncomputable def cOp(T:Tbl)(Q:List zy)(C:Ctrs)(E:Owns)(F:Frame)(op:Op):Res:=
 match op with
 |.call ⟨.value x,args,_⟩=>match zfY F x with
  |some (f,cs)=>match callV C E f (args.toList.map (evO F)++cs) with
   |some (p,⟨c,xs⟩)=>match c.own with
    |none=>some (p,⟨c.res,c.out xs⟩)
    |some _=>match c.res,c.out xs with
     |.slice Z,ys=>some (p,⟨.slice Z,ys⟩)
     |_,_=>none
   |none=>none
  |none=>none
 |op=>pOp T Q E F op
section
variable {P:zA}{w w':zj}{O O':Nat->Prop}{U:Nat->zi}{T:Tbl}{Q:List zy}{C:Ctrs}{E:Owns}{F:Frame}{B:Nat}{a:Act}
theorem zbB:∀(t:Ty),t.flat=true->∀(x:t.T)(cs:List zi),RepC w O t x cs->RepC w' O' t x cs:=by
 intro t
 induction t with
 |pair a b iha ihb=>
  intro h x cs;simp only[Ty.flat,zh]at h;rintro ⟨c1,c2,h0,h1,h2⟩;exact⟨c1,c2,h0,iha h.1 _ _ h1,ihb h.2 _ _ h2⟩
 |arr n t ih=>
  intro h x cs;rintro ⟨h1,h2⟩;exact⟨h1,h2.mono λx _ c=>ih h x c⟩
 |bool=>intro _ x cs h;exact h
 |int=>intro _ x cs h;exact h
 |str=>intro _ x cs h;exact h
 |unit=>intro _ x cs h;exact h
 |tup=>intro _ x cs h;exact absurd h (by simp[RepC])
 |_=>intro h;cases h
theorem zjx{t:Ty}(ht:t.flat=true){x:t.T}{v:zi}(h:RepD w O t x v):RepD w' O' t x v:=by
 unfold RepD at *;split at h
 .rename_i hd;rw[if_pos hd];obtain⟨cs,h1,h2⟩:=h;exact⟨cs,h1,zbB t ht _ _ h2⟩
 .rename_i hd;rw[if_neg hd];exact zbB t ht _ _ h
theorem zkx:∀(t:Ty),t.flat=true->∀(x:t.T)(vs:List zi),RepTup w O t x vs->RepTup w' O' t x vs:=by
 intro t
 induction t with
 |tup a b iha ihb=>
  intro h x vs;simp only[Ty.flat,zh]at h;rintro ⟨v,r,h0,h1,h2⟩;exact⟨v,r,h0,zjx h.1 h1,ihb h.2 _ _ h2⟩
 |unit=>intro _ x vs h;exact h
 |_=>intro _ x vs h;exact absurd h (by simp[RepTup])
theorem ze3{t:Ty}(ht:t.flat=true){x:t.T}{v:zi}(h:RepV w O U t x v):RepV w' O' U t x v:=by
 cases t<;>first
  |exact zjx ht h
  |(cases ht;done)
  |(obtain⟨vs,h1,h2⟩:=h;exact⟨vs,h1,zkx _ ht _ _ h2⟩)
theorem zgn{t:Ty}{v:V}{y:t.T}(h:coe t v=some y){u:zi}(hr:RepV w O U v.t v.x u):RepV w O U t y u:=by
 rcases zey h with rfl|⟨rfl,Z,he⟩
 .exact hr
 .cases he;have:u=.slice none 0 0:=hr;subst this;exact RepV.ofSlice (.inl ⟨rfl,none,0,rfl,by simp⟩)
theorem ze4{t:Ty}(ht:t.argOk=true){U':Nat->zi}{x:t.T}{u:zi}(h:RepV w O U t x u):RepV w O U' t x u:=by
 cases t<;>first|exact h|(cases ht;done)
theorem zek(x0:∀i o,Owns.get E i=some o->OwnRep w O U B (U i) o){fl:Bool}:∀{vs:List V}{ts:List Ty}{r:List Prop×Args ts}{us:List zi},zbf ts=true->zgi E fl vs ts=some r->allP r.1->
  (∀(i:Nat)(v:V),vs[i]? =some v->∃u,us[i]? =some u/\RepV w O U v.t v.x u)->us.length=vs.length->RepA w (λg=>fl=false/\O g) ts r.2 us
 | [],[],r,us,_,h,_,_,hl=>xC hl
 |v::vs,t::ts,r,us,hd,h,hp,hu,hl=>by
  simp only[zgi]at h;split at h
  .rename_i x p' x3 hc hr;cases h;simp only[zav]at hp;simp only[zbf,zh]at hd
   match us,hl with
   |u::us,hl=>
    refine⟨u,us,rfl,?_,zek x0 hd.2 hr hp.2 (λi v hv=>hu (i+1) v hv) (by simpa using hl)⟩;obtain⟨u',x2,x1⟩:=hu 0 v rfl;cases x2;have h1:=zbb x1 hp.1;cases fl with
    |true=>
     have:=ze4 (U':=λ_=>undef) hd.1 (zgn hc (zk5 x0 h1));exact RepV.keep ⟨zu _,λ_ _ _=>rfl,λg _ h=>by simp at h⟩ _ _ _ this
    |false=>
     have:=ze4 (U':=λ_=>undef) hd.1 (zgn hc h1);exact RepV.keep ⟨zu _,λ_ _ _=>rfl,λg _ h=>h.2⟩ _ _ _ this
  .cases h
 | [],_::_,_,_,_,h,_,_,_=>by cases h
 |_::_,[],_,_,_,h,_,_,_=>by cases h
theorem zgH:∀(t:Ty)(x:t.T)(v:zi),zcd w O B none t x v->RepV w O U t x v:=by
 intro t;cases t<;>intro x v h<;>first|exact h U|exact zbG h
theorem zjd{o:Oper}{x:zK}{f:yR}{us:List zi}{args:Array zK}{ts:Array zy}{K:Act->zj->Prop}{R:Exit->Act->zj->Prop}(ho:o.op=.call ⟨.value x,args,ts⟩)(hx:a.eval x=.func (.func f) #[] us.toArray)(x0:∀(zas:Array zi)(w:zj),(callFunc f zas).run P w=.ok (.enter f zas) w)
  (h:Calls P f (args.toList.map a.eval++us).toArray w λe w'=>∃v,e=.returned v/\K (a.put o.dst v) w'):o.wp P a w K R:=by
 unfold jV;have em:(args.toList.map a.eval++us).toArray=args.map a.eval++us.toArray:=by
  rw[<-zbS];simp
 rw[em]at h;have e:(execOp a.eval o).run P w=.ok (.enter f (args.map a.eval++us.toArray)) w:=by
  unfold execOp;simp[ho,resolve,invoke,Deferred.ofValue,hx,x0]
 rw[e];refine h.mono λe w'⟨v,he,hk⟩=>?_;subst he;exact hk
theorem zel{o:Oper}{f:yR}{args:Array zK}{ts:Array zy}{K:Act->zj->Prop}{R:Exit->Act->zj->Prop}(ho:o.op=.call ⟨.value (.func f),args,ts⟩)(x0:∀(zas:Array zi)(w:zj),(callFunc f zas).run P w=.ok (.enter f zas) w)
  (h:Calls P f (args.toList.map a.eval).toArray w λe w'=>∃v,e=.returned v/\K (a.put o.dst v) w'):o.wp P a w K R:=
 zjd (us:=[]) ho rfl x0 (by rw[yE];exact h)
def RepVs(w:zj)(O:Nat->Prop)(U:Nat->zi)(vs:List V)(us:List zi):Prop:=us.length=vs.length/\∀(i:Nat)(v:V),vs[i]? =some v->∃u,us[i]? =some u/\RepV w O U v.t v.x u
theorem RepVs.append{vs ws:List V}{us ys:List zi}(h:RepVs w O U vs us)(h':RepVs w O U ws ys):RepVs w O U (vs++ws) (us++ys):=by
 refine⟨by simp[h.1,h'.1],λi v hv=>?_⟩;rw[ka]at hv;split at hv
 .rename_i x0;obtain⟨u,h1,h2⟩:=h.2 i v hv;exact⟨u,by rw[ka,if_pos (by rw[h.1];exact x0)];exact h1,h2⟩
 .rename_i x1;obtain⟨u,h1,h2⟩:=h'.2 _ v hv;exact⟨u,by rw[ka,if_neg (by rw[h.1];exact x1),h.1];exact h1,h2⟩
theorem zmR:∀(t:Ty)(x:t.T)(us:List zi),RepCap w O t x us->RepVs w O U (zm8 t x) us:=by
 intro t
 induction t with
 |tup a b iha ihb=>
  rintro x us ⟨v,r,rfl,h1,h2⟩;obtain⟨i1,i2⟩:=ihb _ _ h2;refine⟨by simp[zm8,i1],λi y hy=>?_⟩;cases i with
  |zero=>
   cases hy;refine⟨v,rfl,?_⟩;cases a<;>first|exact h1.elim|exact h1
  |succ i=>
   obtain⟨u,h3,h4⟩:=i2 i y (by simpa [zm8] using hy);exact⟨u,by simpa using h3,h4⟩
 |unit=>
  intro x us h;have:us=[]:=h;subst this;exact⟨rfl,λi v hv=>by simp[zm8]at hv⟩
 |_=>intro x us h;exact absurd h (by simp[RepCap])
theorem zh6{y:zi}{f:yR}{cs:List V}(h:zsU y=some (f,cs)):y=.func (.func f) #[] #[]/\cs=[]:=by
 cases y<;>first|(cases h;done)|skip
 rename_i fn p q;cases fn<;>first|(cases h;done)|skip
 rename_i g;obtain⟨p⟩:=p;obtain⟨q⟩:=q;cases p<;>cases q<;>first|(cases h;done)|skip
 cases h;exact⟨rfl,rfl⟩
theorem zld{x:zK}{f:yR}{cs:List V}(h:zfY F x=some (f,cs))(hx:RepV w O U (evO F x).t (evO F x).x (a.eval x)):∃us,a.eval x=.func (.func f) #[] (xU us)/\RepVs w O U cs us:=by
 unfold zfY at h;split at h
 .rename_i y he;rw[he]at hx;obtain⟨rfl,rfl⟩:=zh6 h;exact⟨[],hx,rfl,λi v hv=>by simp at hv⟩
 .rename_i g t y he;cases h;rw[he]at hx;obtain⟨us,h1,h2⟩:=hx;exact⟨us,h1,zmR _ _ _ h2⟩
 .rename_i y he;rw[he]at hx;have hx:=hx.1 rfl;obtain⟨rfl,rfl⟩:=zh6 h;exact⟨[],hx,rfl,λi v hv=>by simp at hv⟩
 .cases h
theorem zus{x:zK}{args:Array zK}{ts:Array zy}(x0:∀y∈(Op.call ⟨.value x,args,ts⟩).operands,RepV w O U (evO F y).t (evO F y).x (a.eval y)):
  RepVs w O U (args.toList.map (evO F)) (args.toList.map a.eval):=by
 refine⟨by simp,λi v hv=>?_⟩;rw[yB]at hv;obtain⟨y,hy,rfl⟩:=yC.1 hv;have hm:=ja hy;exact⟨a.eval y,by rw[yB,hy];rfl,x0 y (by simp[xT,wN];exact .inr (by simpa using hm))⟩
theorem zgp{G:zj->Prop}(hC:CsOk P G C)(hG:G w)(hO:∀g,O g->g<w.heap.size)(x3:∀i o,Owns.get E i=some o->OwnRep w O U B (U i) o){o:Oper}{x:zK}{f:yR}{cs:List V}{args:Array zK}{ts:Array zy}(ho:o.op=.call ⟨.value x,args,ts⟩)(x2:zfY F x=some (f,cs))
  {r:List Prop×(c:Ctr)×Args c.args} (h:callV C E f (args.toList.map (evO F)++cs)=some r) (hp:allP r.1) (x0:∀x∈o.op.operands,RepV w O U (evO F x).t (evO F x).x (a.eval x)) {K:Act->zj->Prop}{R:Exit->Act->zj->Prop}
  (hK:∀v w',xW w.heap.size w w'->zcd w' (λg=>r.2.1.fl=false/\O g) w.heap.size r.2.1.own r.2.1.res (r.2.1.out r.2.2) v->K (a.put o.dst v) w'):o.wp P a w K R:=by
 unfold callV at h;split at h
 .rename_i c hc;split at h
  .rename_i hd;obtain⟨p,xs,h1,h⟩:∃p xs,zgi E c.fl (args.toList.map (evO F)++cs) c.args=some (p,xs)/\(p++c.pre xs,(⟨c,xs⟩:(c:Ctr)×Args c.args))=r:=by
    split at h<;>first|(cases h;done)|skip
    .rename_i xs h1;cases h;exact⟨_,_,h1,rfl⟩
    .rename_i p q xs h1;cases h;exact⟨_,_,h1,rfl⟩
   subst h;simp only[zav]at hp;rw[ho]at x0;obtain⟨us,hx,x4⟩:=zld x2 (x0 x (by simp[xT,wN]));obtain⟨q1,q2⟩:=(zus x0).append x4;have ha:=zek x3 hd h1 hp.1 q2 q1;obtain⟨x5,x1⟩:=hC f c hc;refine zjd ho hx x5 ((x1 w (λg=>c.fl=false/\O g) xs _ (λg h=>hO g h.2) ha hp.2 hG).mono λe w'⟨v,he,hb,hr⟩=>⟨v,he,hK v w' hb hr⟩)
  .cases h
 .cases h
theorem OwnRep.toView{bv:zi}{te:zy}{Z:Ty}{xs:List Z.T}{O2:Nat->Prop}(h:OwnRep w' O' U B bv (.buf te Z xs))(x1:∀g,g<w'.heap.size->O2 g->O' g)(x0:∀g,O2 g->g<B):RepD w' O2 (.slice Z) xs bv:=
 h.view x1 λg hg x2=>by
  have:=(h.block_lt hg).1;have:=x0 g x2;omega
theorem zrM(hT:TOk P T Q){G:zj->Prop}(hC:CsOk P G C)(hG:G w)(hO:∀g,O g->g<w.heap.size)(x2:∀i o,Owns.get E i=some o->OwnRep w O U B (U i) o){o:Oper}{r:List Prop×V}(h:cOp T Q C E F o.op=some r)(hp:allP r.1)
  (x1:∀x∈o.op.operands,RepV w O U (evO F x).t (evO F x).x (a.eval x)) {K:Act->zj->Prop}{R:Exit->Act->zj->Prop}
  (hK:∀u w',xW w.heap.size w w'->RepV w' O U r.2.t r.2.x u->K (a.put o.dst u) w'):o.wp P a w K R:=by
 have plain:pOp T Q E F o.op=some r->o.wp P a w K R:=λh=>by
  obtain⟨u,w',h1,h2,h3⟩:=zhZ hT hO x2 h hp x1;unfold jV;rw[h1];exact hK u w' h2 h3
 generalize x7:o.op=op at h;unfold cOp at h;split at h
 .rename_i x args ts;split at h<;>first|(cases h;done)|skip
  rename_i f cs x4;split at h<;>first|(cases h;done)|skip
  rename_i p c xs h1;have h2:=h;split at h2
  .rename_i x0;cases h2;refine zgp hC hG hO x2 x7 x4 h1 hp x1 λv w' hb hr=>hK v w' hb ?_;simp only[x0]at hr;have x3:RepV w' (λg=>c.fl=false/\O g) U c.res (c.out xs) v:=zgH _ _ _ hr;cases hfl:c.fl with
   |true=>exact ze3 hfl x3
   |false=>
    rw[hfl]at x3;exact RepV.keep ⟨zu _,λ_ _ _=>rfl,λg _ h=>⟨rfl,h⟩⟩ _ _ _ x3
  .rename_i te x0;split at h2
   .rename_i Z ys x5 x6;cases h2;have x8:c.fl=false:=by unfold Ctr.fl;rw[x5];rfl
    refine zgp hC hG hO x2 x7 x4 h1 hp x1 λv w' hb hr=>hK v w' hb ?_;simp only[x0]at hr;have x3:OwnRep w' (λg=>(c.fl=false/\O g)\/zai v=some g) U w.heap.size v (.buf te Z ys):=by
     revert hr;generalize c.out xs=x at x6 ⊢;revert x;rw[x5];intro x hx hr;cases hx;exact hr
    exact zbG (x3.toView (λg _ h=>.inl ⟨x8,h⟩) λg h=>hO g h)
   .cases h2
 .exact plain (by rw[x7];exact h)
end
abbrev UTbl:=List (zy×zy)
def uget:List (zy×zy)->zy->Option zy
 | [],_=>none
 |(s,e)::r,t=>bif yG s t then some e else uget r t
def UOk(P:zA)(U0:UTbl):Prop:=∀t e,uget U0 t=some e->P.underlying t=some (.slice e)
structure RCtr where
 self:Ty
 args:List Ty
 inv:zj->Nat->Prop
 pre:self.T->Args args->List Prop
 res:Ty
 out:self.T->Args args->res.T
 post:self.T->Args args->self.T
def RCtrOk(P:zA)(G:zj->Prop)(f:yR)(c:RCtr):Prop:=
 (∀(zas:Array zi)(w:zj),(callFunc f zas).run P w=.ok (.enter f zas) w)/\
 ∀(w:zj)(O:Nat->Prop)(g:Nat)(cs:List zi)(ty:zy)(x:c.self.T)(xs:Args c.args)(vs:List zi),(∀h,O h->h<w.heap.size/\h≠g)->w.heap[g]? =some (.cells cs.toArray ty (0,0))->
  RepC w (λh=>O h\/h=g) c.self x cs->RepA w (λh=>O h\/h=g) c.args xs vs->allP (c.pre x xs)->c.inv w g->G w->
  Calls P f (Value.pointer (some ⟨g,0,none⟩)::vs).toArray w λe w'=>∃v cs' ty',e=.returned v/\Kept (λh=>h=g) w w'/\w'.heap[g]? =some (.cells cs'.toArray ty' (0,0))/\
   RepC w' (λh=>O h\/h=g) c.self (c.post x xs) cs'/\(c.res=.unit\/zcd w' (λh=>O h\/h=g) w.heap.size none c.res (c.out x xs) v)
def rget:List (yR×RCtr)->yR->Option RCtr
 | [],_=>none
 |(g,c)::r,f=>bif yG g f then some c else rget r f
def RsOk(P:zA)(G:zj->Prop)(C:List (yR×RCtr)):Prop:=∀f c,rget C f=some c->RCtrOk P G f c/\∀w g,c.inv w g
theorem RsOk.nil{P:zA}{G:zj->Prop}:RsOk P G []:=λ_ _ h=>by cases h
theorem RsOk.cons{P:zA}{G:zj->Prop}{f:yR}{c:RCtr}{C:List (yR×RCtr)}(h:RCtrOk P G f c)(hi:∀w g,c.inv w g)(hC:RsOk P G C):RsOk P G ((f,c)::C):=by
 intro g d hg;simp only[rget,cond_eq_ite,qE]at hg;split at hg
 .rename_i e;cases hg;exact e▸⟨h,hi⟩
 .exact hC g d hg
structure Kn where
 T:Tbl
 Q:List zy
 U0:UTbl
 C:Ctrs
 cut:Bool:=false
 H:List zy:=[]
 R:List (yR×RCtr):=[]
structure KnOk(P:zA)(G:zj->Prop)(K:Kn):Prop where
 t:TOk P K.T K.Q
 u:UOk P K.U0
 c:CsOk P G K.C
 st:∀w w',G w->xW w.heap.size w w'->G w'
 r:RsOk P G K.R
def frz(Y:AS)(x:zK):AS:=
 match evO Y.F x with
 |⟨.obuf _,i⟩=>match Owns.get Y.E i with
  |some (.buf _ t xs)=>{ F:=Frame.thaw i t xs Y.F,E:=(i,none)::Y.E,nx:=Y.nx }
  |_=>Y
 |_=>Y
def frzs:AS->List zK->AS
 |Y,[]=>Y
 |Y,x::r=>frzs (frz Y x) r
def zvL(F:Frame)(C:Ctrs):Op->List zK
 |.box _ x=>[x]
 |.store _ _ x=>[x]
 |.build _ ps=>ps.toList.map (·.2)
 |.buildSlice _ _ ps=>ps.toList.map (·.2)
 |.slice _ x _ _ _=>[x]
 |.call ⟨.value x,args,_⟩=>match zfY F x with
  |some (f,_)=>match cget C f with
   |some c=>bif c.fl then [] else args.toList
   |none=>[]
  |none=>[]
 |_=>[]
def znu(te:zy)(s:Ty)(xs:List s.T){t:Ty}:(r:Ty)->Path r t->t.T->Option (PLift (.slice s=r))->Option (List Prop×OObj)
 |_,p,y,some ⟨rfl⟩=>match p.setO xs y with
  |some z=>some (p.vcs xs,.buf te s z)
  |none=>none
 |_,_,_,none=>none
def OObj.set{r t:Ty}(o:OObj)(p:Path r t)(y:t.T):Option (List Prop×OObj):=
 match o with
 |.box s x=>if p.isElm=false then(match zqU s r x (zeC s r) with |some z=>(match p.setO z y with |some z'=>some (p.vcs z,.box r z')|none=>none)|none=>none) else none
 |.buf te s xs=>if p.isElm=true then znu te s xs r p y (zeC (.slice s) r) else none
 |.hbox _ _=>none
 |.mp _ _=>none
def AS.put(Y:AS)(d:Nat)(v:V):AS:={ Y with F:=(d,v)::Y.F }
def zuP:V->Bool
 |⟨.lit,.slice none 0 0⟩=>true
 |_=>false
def Ty.hand:Ty->Bool
 |.optr _|.obuf _=>true
 |.cond t=>t.hand
 |.hptr=>true
 |.hcons _ _=>true
 |_=>false
def zfQ:Op->Bool
 |.move _|.assign _|.nilCheck _|.indexAddr _ _ _|.fieldAddr _ _ _|.load _ _=>true
 |_=>false
def appV(K:Kn)(F:Frame)(E:Owns)(nx:Nat)(d:Nat)(t:zy)(s x:V):Option (List Prop×AS):=
 match uget K.U0 t with
 |some te=>
  match s with
  |⟨.obuf _,i⟩=>match Owns.get E i with
   |some (.buf te' Z xs)=>
    if tis K.T t (.slice Z)&&yG te te'&&xM (24*Z.size) 100000 then(match coe (.slice Z) (dat E x) with
     |some ys=>some ([zp xs+zp ys<=1000000000],⟨(d,⟨.obuf Z,i⟩)::Frame.kill i F,(i,some (.buf te Z (xs++ys)))::Owns.kill i E,nx⟩)
     |none=>none) else none
   |_=>none
  |s=>if zuP s then(match tget K.T t with
   |some (.slice Z)=>if xM (24*Z.size) 100000&&zO 0 Z.size then(match coe (.slice Z) (dat E x) with
    |some ys=>some ([zp ys<=1000000000],⟨(d,⟨.obuf Z,nx⟩)::F,(nx,some (.buf te Z ys))::E,nx+1⟩)
    |none=>none) else none
   |_=>none) else none
 |none=>none
def preS:List Prop->Option (List Prop×AS)->Option (List Prop×AS)
 | [],o=>o
 |a::A,o=>match preS A o with
  |some (p,Y)=>some (a::p,Y)
  |none=>none
noncomputable def zoY(K:Kn)(n:Nat)(dst:Option Nat)(op:Op)(Y:AS):Option (List Prop×AS):=
 match Y with
 |⟨F,E,nx⟩=>match dst with
  |none=>match op with
   |.store t p x=>match (zaK (evO F p)).2 with
    |⟨.optr Z,⟨i,r,q⟩⟩=>match Owns.get E i with
     |some o=>if tis K.T t Z then(match coe Z (zaK (evO F x)).2 with
      |some y=>(match OObj.set (r:=r) o q y with
       |some (vc,o')=>some ((zaK (evO F p)).1++(zaK (evO F x)).1++vc,⟨F,(i,some o')::E,nx⟩)
       |none=>none)
      |none=>none) else none
     |none=>none
    |_=>none
   |_=>none
  |some d=>if zO d n then(match op with
   |.alloc t=>match tget K.T t with
    |some Z=>some ([],⟨(d,⟨.optr Z,⟨nx,Z,.here⟩⟩)::F,(nx,some (.box Z (zaD Z)))::E,nx+1⟩)
    |none=>none
   |.box t x=>match tget K.T t with
    |some Z=>(match coe Z (zaK (evO F x)).2 with
     |some y=>some ((zaK (evO F x)).1,⟨(d,⟨.optr Z,⟨nx,Z,.here⟩⟩)::F,(nx,some (.box Z y))::E,nx+1⟩)
     |none=>none)
    |none=>none
   |.buildSlice t len parts=>match uget K.U0 t,zb3 K.T t len (parts.toList.map λp=>(p.1,evO F p.2)) with
    |some te,some (p,⟨e,xs⟩)=>some (p,⟨(d,⟨.obuf e,nx⟩)::F,(nx,some (.buf te e xs))::E,nx+1⟩)
    |_,_=>none
   |.makeSlice t l c=>match uget K.U0 t,tget K.T t,(zaK (evO F l)).2,(zaK (evO F c)).2 with
    |some te,some (.slice Z),⟨.int .i64,x⟩,⟨.int .i64,y⟩=>if xM (24*Z.size) 100000&&zO 0 Z.size then some ((zaK (evO F l)).1++(zaK (evO F c)).1++[0<=(x:Int),(x:Int)<=y,(y:Int)<=1000000000],⟨(d,⟨.obuf Z,nx⟩)::F,(nx,some (.buf te Z (zg (x:Int).toNat (zaD Z))))::E,nx+1⟩) else none
    |_,_,_,_=>none
   |.call ⟨.builtin .append,args,ts⟩=>match args.toList,ts.toList with
    | [s,x],[t,u]=>if yG t u then preS ((zaK (evO F s)).1++(zaK (evO F x)).1) (appV K F E nx d t (zaK (evO F s)).2 (zaK (evO F x)).2) else none
    |_,_=>none
   |.call ⟨.value x,args,ts⟩=>match zfY F x with
    |some (f,cs)=>match callV K.C E f (args.toList.map (evO F)++cs) with
     |some (p,⟨c,xs⟩)=>match c.own with
      |none=>if c.res.hand then none else some (p,⟨(d,⟨c.res,c.out xs⟩)::F,E,nx⟩)
      |some te=>match c.res,c.out xs with
       |.slice Z,ys=>some (p,⟨(d,⟨.obuf Z,nx⟩)::F,(nx,some (.buf te Z ys))::E,nx+1⟩)
       |_,_=>none
     |none=>none
    |none=>none
   |op=>match pOp K.T K.Q E F op with
    |some (p,⟨t,x⟩)=>if !t.hand||zfQ op then some (p,⟨(d,⟨t,x⟩)::F,E,nx⟩) else none
    |none=>none) else none
def zk9(c:Bool):V->V
 |⟨.cond t,x⟩=>⟨.cond t,(c&&x.1,x.2)⟩
 |⟨t,x⟩=>⟨.cond t,(c,x)⟩
def ztc:V->Bool->Option Bool
 |⟨.bool,b⟩,true=>some b
 |⟨.bool,b⟩,false=>some (!b)
 |⟨.cond .bool,(c,b)⟩,true=>some (c&&b)
 |⟨.cond .bool,(c,b)⟩,false=>some (c&& !b)
 |_,_=>none
def impV(c:Bool):List Prop->V->Res
 | [],v=>some ([],zk9 c v)
 |p::r,v=>some ([c=true->allP (p::r)],zk9 c v)
theorem zjR{c:Bool}{l:List Prop}{v:V}{r:List Prop×V}(h:impV c l v=some r):(impP c l,zk9 c v)=r:=by
 cases l<;>(cases h;rfl)
noncomputable def gOp(K:Kn)(n:Nat)(ops:Array Oper)(E:Owns)(F:Frame)(o:Oper):Res:=
 match o.guard with
 |none=>match cOp K.T K.Q K.C E F o.op with
  |some (p,⟨t,x⟩)=>if !t.hand||zfQ o.op then some (p,⟨t,x⟩) else none
  |none=>none
 |some (j,want)=>
  match (ops[j]?).bind (·.dst) with
  |some dj=>if zO dj n then(match ztc (Frame.get F dj) want,cOp K.T K.Q K.C E F o.op with
   |some c,some (p,v)=>if !v.t.hand||zfQ o.op then impV c p v else none
   |_,_=>none) else none
  |none=>none
def zsO(K:Kn)(n:Nat)(o:Oper):AS->Option (List Prop×AS)
 |⟨F,E,nx⟩=>match o.op,o.dst with
  |.convert s t x,some d=>match (zaK (evO F x)).2 with
   |⟨.obuf _,i⟩=>match Owns.get E i with
    |some (.buf _ (.int .u8) xs)=>if yG s t&&tis K.T s (.slice (.int .u8))&&zO d n then some ((zaK (evO F x)).1++[0<zp xs],⟨(d,⟨.slice (.int .u8),xs⟩)::Frame.thaw i (.int .u8) xs F,(i,none)::E,nx⟩) else none
    |_=>none
   |_=>none
  |_,_=>none
def cutS(K:Kn)(n:Nat)(o:Oper):AS->Option (List Prop×AS)
 |⟨F,E,nx⟩=>if K.cut=true then(match o.op,o.dst with
  |.slice s x none (some h) none,some d=>match (zaK (evO F x)).2,numV (evO F h) with
   |⟨.obuf _,i⟩,some j=>match Owns.get E i with
    |some (.buf te Z xs)=>if tis K.T s (.slice Z)&&zO d n then some ((zaK (evO F x)).1++[0<=j,j<=((zp xs:Nat):Int)],⟨(d,⟨.obuf Z,i⟩)::Frame.kill i F,(i,some (.buf te Z (jK j.toNat xs)))::Owns.kill i E,nx⟩) else none
    |_=>none
   |_,_=>none
  |_,_=>none) else none
def zs9(K:Kn)(n:Nat)(o:Oper):AS->Option (List Prop×AS)
 |⟨F,E,nx⟩=>match o.op,o.dst with
  |.store t p x,none=>match (zaK (evO F p)).2 with
   |⟨.hptr,(i,k)⟩=>match Owns.get E i,tget K.T t with
    |some (.hbox ty vs),some Z=>match putH E Z.size k vs (zaK (evO F x)).2 with
     |some ws=>some ((zaK (evO F p)).1++(zaK (evO F x)).1,⟨F,(i,some (.hbox ty ws))::E,nx⟩)
     |none=>none
    |_,_=>none
   |_=>none
  |.alloc t,some d=>if K.H.any (yG t)&&zO d n then(match tget K.T t with
   |some Z=>if(zbD Z).all je=true then some ([],⟨(d,⟨.hptr,(nx,0)⟩)::F,(nx,some (.hbox t ((zbD Z).map evC)))::E,nx+1⟩) else none
   |none=>none) else none
  |.build t parts,some d=>if K.H.any (yG t)&&zO d n&&parts.toList.isEmpty then(match tget K.T t with
   |some (.pair a b)=>some ([],⟨(d,⟨.lit,.agg (xU (zbD (.pair a b)))⟩)::F,E,nx⟩)
   |_=>none) else none
  |_,_=>none
def Ty.resOk:Ty->Bool
 |.tup a b=>a.data&&b.resOk
 |t=>t.data
def resV:(t:Ty)->t.T->V
 |.unit,_=>⟨.junk,()⟩
 |t,x=>⟨t,x⟩
def putD(n:Nat)(d:Option Nat)(v:V)(F:Frame):Option Frame:=
 match d with
 |some d=>if zO d n then some ((d,v)::F) else none
 |none=>some F
def zsE(C:List (yR×RCtr))(n:Nat)(o:Oper)(Y:AS):Option (List Prop×AS):=
 match o.op with
 |.call ⟨.value (.func f),args,_⟩=>match args.toList,rget C f with
  |a0::zas,some c=>match frzs Y zas with
   |⟨F,E,nx⟩=>match evO F a0 with
    |⟨.optr _,p⟩=>match Owns.get E p.i with
     |some (.box s x)=>if yG p.p.off 0&&zbf c.args&&c.res.resOk&&c.self.data then
      (match coe c.self ⟨s,x⟩,zgi E false (zas.map (evO F)) c.args with
       |some y,some (q,xs)=>(match putD n o.dst (resV c.res (c.out y xs)) F with
        |some F'=>some (q++c.pre y xs,⟨F',(p.i,some (.box c.self (c.post y xs)))::E,nx⟩)
        |none=>none)
       |_,_=>none) else none
     |_=>none
    |_=>none
  |_,_=>none
 |_=>none
noncomputable def zhH(K:Kn)(n:Nat)(ops:Array Oper)(o:Oper)(Y:AS):Option (List Prop×AS):=
 match o.guard with
 |none=>match zsO K n o Y with
  |some r=>some r
  |none=>match cutS K n o Y with
   |some r=>some r
   |none=>match zs9 K n o Y with
    |some r=>some r
    |none=>match zsE K.R n o Y with
     |some r=>some r
     |none=>zoY K n o.dst o.op (frzs Y (zvL Y.F K.C o.op))
 |some _=>
  match o.dst,Y with
  |some d,⟨F,E,nx⟩=>if zO d n then(match gOp K n ops E F o with
   |some (p,⟨t,x⟩)=>some (p,⟨(d,⟨t,x⟩)::F,E,nx⟩)
   |none=>none) else none
  |none,_=>none
noncomputable def aSeq(K:Kn)(n:Nat)(ops:Array Oper):List Oper->AS->Option (List Prop×AS)
 | [],Y=>some ([],Y)
 |o::r,Y=>match zhH K n ops o Y with
  |some (p,Y')=>preS p (aSeq K n ops r Y')
  |none=>none
noncomputable def zi7(K:Kn)(n:Nat)(ops:Array Oper):List Oper->AS->Option (List Prop×AS)
 | [],Y=>some ([],Y)
 |o::r,⟨F,E,nx⟩=>match o.dst with
  |some d=>if zO d n then(match gOp K n ops E F o with
   |some (p,⟨t,x⟩)=>preS p (zi7 K n ops r ⟨(d,⟨t,x⟩)::F,E,nx⟩)
   |none=>none) else none
  |none=>none
def znw(ops:Array Oper)(o:Oper):List Nat:=
 (o.op.operands.toList.filterMap λx=>match x with |.tmp t=>some t|_=>none)++(match o.guard with |some (j,_)=>((ops[j]?).bind (·.dst)).toList|none=>[])
def zvY(ops:Array Oper)(m:Nat):Bool:=
 (xQ m).all λj=>match ops[j]? with
   |some oj=>(xQ m).all λi=>match ops[i]? with
    |some oi=>(yG i j|| !(oi.dst==oj.dst))&&((znw ops oj).all λt=>!(oi.dst==some t)||(zO i j&&oj.after.any λe=>yG e.on i&&Region.binds .any e))
    |none=>false
   |none=>false
def zeQ(ops:Array Oper):Bool:=(xQ ops.size).all λi=>match ops[i]? with |some o=>o.after.all λe=>zO e.on i|| !Region.binds .any e|none=>false
def zkV(ops:Array Oper)(m:Nat):Bool:=
 xM m ops.size&&zvY ops m&&zeQ ops&&(yG m ops.size||(Region.sinkB .any ops m&&Region.chainB .any ops m))&&
  Region.seqB .any ops (ops.size-m) m (zg m true++zg (ops.size-m) false).toArray
section
variable {P:zA}{K:Kn}{w0:zj}{X:Ownr}{n:Nat}{Y:AS}{U:Nat->zi}{a:Act}{w:zj}
theorem Sim.hO(h:Sim w0 X n Y U a w)(hX:X.Ok w0):∀g,OSet X Y.E U g->g<w.heap.size:=by
 rintro g (hg|⟨i,o,h1,h2⟩)
 .exact zF (hX.1 g hg).1 h.bel.size
 .exact((h.own i o h1).block_lt h2).2
theorem Sim.ops(h:Sim w0 X n Y U a w)(x:zK):RepV w (OSet X Y.E U) U (evO Y.F x).t (evO Y.F x).x (a.eval x):=
 zoR λs _=>h.fr s
theorem Sim.frz(h:Sim w0 X n Y U a w)(hX:X.Ok w0)(x:zK):Sim w0 X n (frz Y x) U a w:=by
 unfold Go.Proofs.YtdjjmoenpjlfeaaGreatDoor.frz;split
 .split
  .rename_i he;exact h.freeze hX he
  .exact h
 .exact h
theorem Sim.frzs(h:Sim w0 X n Y U a w)(hX:X.Ok w0)(l:List zK):Sim w0 X n (frzs Y l) U a w:=by
 induction l generalizing Y with
 |nil=>exact h
 |cons x l ih=>exact ih (h.frz hX x)
theorem zfx:∀(t:Ty)(x:t.T),t.data=true->bnd t x=0:=by
 intro t x h;cases t<;>first|rfl|cases h
theorem zgB(v:V):(zaK v).2.bound<=v.bound:=by
 obtain⟨t,x⟩:=v;cases t<;>exact zu _
theorem zdt{F:Frame}{m:Nat}(h:∀s,(Frame.get F s).bound<=m)(x:zK):(evO F x).bound<=m:=by
 cases x with
 |tmp s=>exact h s
 |const v=>
  show(evC v).bound<=m;have:(evC v).bound=0:=by
   cases v with
   |int k n=>
    have key:∀(k:qo)(x:IntT k),(if encI k x=n then(⟨.int k,x⟩:V) else ⟨.lit,.int k n⟩).bound=0:=by
     intro k x;split<;>rfl
    cases k<;>first|exact key _ _|rfl
   |string s=>
    simp only[evC];cases xM s.data.toList.length 1000000<;>rfl
   |_=>rfl
  omega
 |global g=>exact zk _
 |func f=>exact zk _
theorem zi2:∀(t:Ty)(x:t.T),t.hand=false->bnd t x=0:=by
 intro t
 induction t with
 |cond t ih=>intro x h;exact ih _ h
 |optr=>intro x h;cases h
 |obuf=>intro x h;cases h
 |hptr=>intro x h;cases h
 |hcons=>intro x h;cases h
 |_=>intro x h;rfl
theorem zjC{T:Tbl}{Q:List zy}{E:Owns}{F:Frame}{op:Op}{r:List Prop×V}(h:pOp T Q E F op=some r)(hh:(!r.2.t.hand||zfQ op)=true){m:Nat}(hF:∀s,(Frame.get F s).bound<=m)(hE:∀i o,Owns.get E i=some o->i<m/\o.under m)(hT:∀t Z,tget T t=some Z->Z.data=true):r.2.bound<=m:=by
 cases hr:r.2.t.hand with
 |false=>show bnd _ _<=m;rw[zi2 _ _ hr];exact zk _
 |true=>
  rw[hr]at hh;have sb:∀x,(zaK (evO F x)).2.bound<=m:=λx=>zL (zgB _) (zdt hF x);cases op<;>first|(cases hh;done)|skip
  .cases h;exact zdt hF _
  .cases h;exact zdt hF _
  .rename_i t x;obtain⟨q,h1,rfl⟩:=zbm h;have x0:∀(Z:Ty)(y:Z.T),tget T t=some Z->bnd Z y<=m:=λZ y x1=>by rw[zfx _ _ (hT _ _ x1)];exact zk _
   unfold zjK at h1;split at h1
   .split at h1<;>first|(cases h1;done)|skip
    rename_i hs;cases h1;exact x0 _ _ (zik hs)
   .split at h1<;>first|(cases h1;done)|skip
    rename_i hs;cases h1;exact x0 _ _ (zik hs)
   .split at h1<;>first|(cases h1;done)|skip
    split at h1<;>first|(cases h1;done)|skip
    rename_i hs;split at h1<;>first|(cases h1;done)|skip
    split at h1<;>first|(cases h1;done)|skip
    cases h1;simp only[zh]at hs;exact x0 _ _ (zik hs.1)
   .split at h1<;>first|(cases h1;done)|skip
    rename_i vs he;split at h1<;>first|(cases h1;done)|skip
    rename_i Z x1;split at h1
    .split at h1<;>first|(cases h1;done)|skip
     cases h1;exact x0 _ _ x1
    .split at h1<;>first|(cases h1;done)|skip
     rename_i v r hv;split at h1<;>first|(cases h1;done)|skip
     cases h1;have hm:=gq (by rw[hv];exact yN);exact(hE _ _ he).2 vs rfl v hm
   .cases h1
  .rename_i x;have:=sb x;simp only[pOp]at h;split at h<;>first|(cases h;done)|skip
   .rename_i he;cases h;rw[he]at this;exact this
   .rename_i he;cases h;rw[he]at this;exact this
   .rename_i he;cases h;rw[he]at this;exact this
  .rename_i s x f;obtain⟨q,h1,rfl⟩:=zbm h;have:=sb x;unfold zew at h1;split at h1
   .split at h1<;>first|(cases h1;done)|skip
    split at h1<;>first|(cases h1;done)|skip
    split at h1<;>first|(cases h1;done)|skip
    cases h1;exact zk _
   .split at h1<;>first|(cases h1;done)|skip
    split at h1<;>first|(cases h1;done)|skip
    split at h1<;>first|(cases h1;done)|skip
    cases h1;exact zk _
   .rename_i he;split at h1<;>first|(cases h1;done)|skip
    split at h1<;>first|(cases h1;done)|skip
    split at h1<;>first|(cases h1;done)|skip
    cases h1;rw[he]at this;exact this
   .rename_i he;split at h1<;>first|(cases h1;done)|skip
    split at h1<;>first|(cases h1;done)|skip
    split at h1<;>first|(cases h1;done)|skip
    cases h1;rw[he]at this;exact this
   .cases h1
  .rename_i t x i;obtain⟨q,h1,rfl⟩:=zbm h;have:=sb x;unfold zev at h1;split at h1
   .split at h1<;>first|(cases h1;done)|skip
    cases h1;exact zk _
   .split at h1<;>first|(cases h1;done)|skip
    cases h1;exact zk _
   .rename_i he _;split at h1<;>first|(cases h1;done)|skip
    cases h1;rw[he]at this;exact this
   .rename_i he _;split at h1<;>first|(cases h1;done)|skip
    split at h1<;>first|(cases h1;done)|skip
    cases h1;rw[he]at this;exact this
   .cases h1
theorem Sim.puts(h:Sim w0 X n Y U a w){w':zj}(hk:xW w.heap.size w w'){v:V}{u:zi}(hr:RepV w' (OSet X Y.E U) U v.t v.x u)(hb:v.bound<=Y.nx){d:Nat}(hd:d<n):Sim w0 X n (Y.put d v) U (a.put (some d) u) w':=
 h.put hk hr hb hd
theorem Path.set_rep:∀{r t:Ty}(p:Path r t)(x:r.T)(y:t.T)(cs c:List zi){O:Nat->Prop},zcC w O p.isElm r x cs->allP (p.vcs x)->RepC w O t y c->zcC w O p.isElm r (p.set x y) (over cs p.off c):=by
 intro r t p
 induction p with
 |here=>
  intro x y cs c O h _ hc;have l1:=RepC.len _ _ _ h;have l2:=RepC.len _ _ _ hc;have:over cs 0 c=c:=by simp[over,l1,l2]
  simp only[Path.off,this];exact hc
 | @fst r a b p ih=>
  intro x y cs c O h hv hc;obtain⟨⟨c1,c2,h1,h2,h3⟩,h4⟩:=Path.rep p x cs h hv;have l0:=RepC.len _ _ _ hc;have l1:=RepC.len _ _ _ h2;have l2:=RepC.len _ _ _ h3;simp only[Ty.size]at h1 h4;have:=ih x (y,(p.get x).2) cs (c++c2) h hv ⟨c,c2,rfl,hc,h3⟩;have e:over cs p.off (c++c2)=over cs p.off c:=by
   have hd:cs.drop (p.off+a.size)=c2++cs.drop (p.off+a.size+b.size):=by
    have h5:cs.drop p.off=c1++c2++(cs.drop p.off).drop (a.size+b.size):=by
     rw[<-h1,qx]
    rw[<-jq,h5,zB, <-l1,jC,jq,vk]
   simp only[over,zl,l0,l2];rw[<-vk,hd];simp
  rw[e]at this;exact this
 | @snd r a b p ih=>
  intro x y cs c O h hv hc;obtain⟨⟨c1,c2,h1,h2,h3⟩,h4⟩:=Path.rep p x cs h hv;have l0:=RepC.len _ _ _ hc;have l1:=RepC.len _ _ _ h2;simp only[Ty.size]at h1 h4;have:=ih x ((p.get x).1,y) cs (c1++c) h hv ⟨c1,c,rfl,h2,hc⟩;have e:over cs p.off (c1++c)=over cs (p.off+a.size) c:=by
   have hd:cs.take (p.off+a.size)=cs.take p.off++c1:=by
    have h5:(cs.drop p.off).take a.size=c1:=by
     have h6:((cs.drop p.off).take (a.size+b.size)).take a.size=c1:=by rw[h1, <-l1,qQ]
     rwa[qZ,qm o_]at h6
    rw[<-h5,List.take_add]
   simp only[over,zl,l0,l1,hd];simp[vk]
  rw[e]at this;exact this
 | @idx r t n p k ih=>
  intro x y cs c O h hv hc;rw[Path.vcs,zav]at hv;have hk:k<n:=hv.2;obtain⟨⟨h1,h2⟩,h4⟩:=Path.rep p x cs h hv.1;simp only[Ty.size]at h2 h4;have l0:=RepC.len _ _ _ hc;have hlen:zp (p.get x)=n:=h1;have x0:=h2.set (λx c=>RepC.len t x c) (show k<zp (p.get x) by omega) hc;have:=ih x (wq (p.get x) k y) cs _ h hv.1 ⟨by simp[hlen],x0⟩;have e:over cs p.off (((cs.drop p.off).take (n*t.size)).take (k*t.size)++c++((cs.drop p.off).take (n*t.size)).drop (k*t.size+t.size))=over cs (p.off+k*t.size) c:=by
   have x1:k*t.size+t.size<=n*t.size:=by
    have:=jJ t.size (show k+1<=n by omega);rwa[jE,wK]at this
   have hl:(((cs.drop p.off).take (n*t.size)).take (k*t.size)++c++((cs.drop p.off).take (n*t.size)).drop (k*t.size+t.size)).length=n*t.size:=by
    simp[l0];omega
   simp only[over,hl,l0];rw[List.take_add (i:=p.off) (j:=k*t.size),qZ,qm o_,ko,jq];have e3:cs.drop (p.off+k*t.size+t.size)=((cs.drop (p.off+(k*t.size+t.size))).take (n*t.size-(k*t.size+t.size)))++cs.drop (p.off+n*t.size):=by
    have h7:=(qx (n*t.size-(k*t.size+t.size)) (cs.drop (p.off+(k*t.size+t.size)))).symm;rw[jq,show p.off+(k*t.size+t.size)+(n*t.size-(k*t.size+t.size))=p.off+n*t.size by omega]at h7;rw[vk];exact h7
   rw[e3];simp
  rw[e]at this;exact this
 | @elm t k=>
  intro x y cs c O h hv hc;have hk:=hv;have h':=h;have l0:=RepC.len _ _ _ hc;have:=h'.set (λx c=>RepC.len t x c) hk hc;simp only[over,l0];exact this
theorem zbJ(w:zj)(g:Nat)(cs:Array zi):w.grownBy (w.setRow g cs) (some g):=
 ⟨rfl,rfl,rfl,by simp,λk _ x0=>setRow_other w g k cs (λe=>x0 (by rw[e]))⟩
theorem zjs{w w':zj}{O O':Nat->Prop}(hk:Keeps w w' O O'):∀(e:Bool)(r:Ty)(x:r.T)(cs:List zi),zcC w O e r x cs->zcC w' O' e r x cs
 |false,r,x,cs,h=>RepC.keep hk _ _ _ h
 |true,.slice s,x,cs,h=>RepL.mono h λy _ c=>RepC.keep hk _ _ _
 |true,.bool,_,_,h=>h.elim
 |true,.int _,_,_,h=>h.elim
 |true,.str,_,_,h=>h.elim
 |true,.unit,_,_,h=>h.elim
 |true,.pair _ _,_,_,h=>h.elim
 |true,.arr _ _,_,_,h=>h.elim
 |true,.junk,_,_,h=>h.elim
 |true,.lit,_,_,h=>h.elim
 |true,.vptr _,_,_,h=>h.elim
 |true,.cptr _ _ _,_,_,h=>h.elim
 |true,.optr _,_,_,h=>h.elim
 |true,.obuf _,_,_,h=>h.elim
 |true,.tup _ _,_,_,h=>h.elim
 |true,.cond _,_,_,h=>h.elim
theorem OwnRep.anew{O:Nat->Prop}{B:Nat}{bv:zi}{o:OObj}(h:OwnRep w O U B bv o)(hH:o.noH=true){g:Nat}(hg:zai bv=some g):
  ∃cs cur ty,zcC w O o.isBuf o.v.t o.v.x cs/\w.heap[g]? =some (.cells cur ty (0,0))/\cs.length<=cur.size/\cur.toList.take cs.length=cs/\
   ∀(w':zj)(O':Nat->Prop)(o':OObj)(x1:List zi)(x0:Array zi),o'.isBuf=o.isBuf->(∀te t xs,o=.buf te t xs->∃ys:List t.T,o'=.buf te t ys/\ys.length=xs.length)->zcC w' O' o'.isBuf o'.v.t o'.v.x x1->x1.length=cs.length->x0.size=cur.size->x0.toList.take cs.length=x1->w'.heap[g]? =some (.cells x0 ty (0,0))->OwnRep w' O' U B bv o':=by
 cases o with
 |box t x=>
  obtain⟨g',cs,ty,rfl,h1,h2,h3⟩:=h;cases hg;refine⟨cs,cs.toArray,ty,h3,h2,by simp,by simp,λw' O' o' x1 x0 hb _ hr hl hs ht hh=>?_⟩;cases o' with
  |buf te t ys=>cases hb
  |hbox ty' vs=>
   have x3:=hr;exact x3.elim
  |mp m I=>
   have x3:=hr;exact x3.elim
  |box t' x'=>
   refine⟨g',x0.toList,ty,rfl,h1,by simpa using hh,?_⟩;have:x0.toList=x1:=by rw[<-ht,qS (by simp[hs])]
   rw[this];exact hr
 |hbox ty vs=>cases hH
 |mp m I=>cases hH
 |buf te t xs=>
  obtain⟨cs,h1,h2,h3⟩:=h;rcases h2.2 with ⟨rfl,_⟩|⟨g',cap,cur,rfl,h4,h5,h6,h7,h8,h9⟩
  .cases hg
  .cases hg;have x2:=h2.1;have x5:cs.length<=cur.size:=by rw[x2,h8];exact jJ _ h6
   refine⟨cs,cur,te,h1,h5,x5,by rw[x2];exact h9,λw' O' o' x1 x0 hb x4 hr hl hs ht hh=>?_⟩;obtain⟨ys,rfl,hy⟩:=x4 te t xs rfl;refine⟨x1,hr,⟨by rw[hl,x2,hy],.inr ⟨g',cap,x0,by rw[hy],h4,hh,by rw[hy];exact h6,h7,by rw[hs];exact h8,by rw[hy, <-x2];exact ht⟩⟩,h3⟩
theorem zth:∀{r t:Ty}(p:Path r t)(s:Ty)(h:r=.slice s)(x:r.T)(y:t.T),p.isElm=true->zp (h▸p.set x y:(Ty.slice s).T)=zp (h▸x:(Ty.slice s).T):=by
 intro r t p
 induction p with
 |here=>intro s h x y he;cases he
 |fst p ih=>intro s h x y he;exact ih s h x _ he
 |snd p ih=>intro s h x y he;exact ih s h x _ he
 |idx p k ih=>intro s h x y he;exact ih s h x _ he
 |elm k=>intro s h x y he;cases h;exact List.length_set
theorem zkq{B:Nat}{O:Nat->Prop}{bv:zi}{o o':OObj}(x8:OwnRep w O U B bv o){g:Nat}(hg:zai bv=some g)(xh:O g){Z:Ty}{t:zy}(ht:Lay P Z (.inl t)){root:Ty}{p:Path root Z}{y:Z.T}{vc:List Prop}(x0:o.set p y=some (vc,o'))(hp:allP vc){u:zi}(hu:RepD w O Z y u):
  ∃w',(qO t (.pointer (some ⟨g,p.off,none⟩)) u).run P w=.ok () w'/\w.grownBy w' (some g)/\(Keeps w w' O O->OwnRep w' O U B bv o')/\o'.isBuf=o.isBuf:=by
 obtain⟨cs,cur,ty,h1,h2,h3,h4,h5⟩:=x8.anew (by cases o<;>first|rfl|(cases x0)) hg;have hc:=hu.cells;have x2:=RepC.len _ _ _ hc;have x1:∃x:root.T,zcC w O p.isElm root x cs/\allP (p.vcs x)/\o'.isBuf=o.isBuf/\(∀te t xs,o=.buf te t xs->∃ys:List t.T,o'=.buf te t ys/\(ys.length=xs.length))/\(∀w' O' x5,zcC w' O' p.isElm root (p.set x y) x5->zcC w' O' o'.isBuf o'.v.t o'.v.x x5):=by
  cases o with
  |box s x=>
   simp only[OObj.set]at x0;split at x0
   .rename_i he;split at x0
    .rename_i z hz;rw[Path.setO_eq]at x0;cases x0;have xf:=zic hz;refine⟨z,?_,hp,rfl,?_,?_⟩
     .rw[he];have xb:=h1;rw[show(OObj.box s x).v=⟨root,z⟩ from xf]at xb;exact xb
     .intro xd t' xe h;cases h
     .intro w' O' x5 h;rw[he]at h;exact h
    .cases x0
   .cases x0
  |buf te s xs=>
   simp only[OObj.set]at x0;split at x0
   .rename_i he;generalize zeC (.slice s) root=e at x0;cases e with
    |none=>cases x0
    |some e=>
     obtain⟨e⟩:=e;subst e;simp only[znu,Path.setO_eq]at x0;cases x0;refine⟨xs,?_,hp,rfl,?_,?_⟩
     .rw[he];exact h1
     .intro xd t' xe h;cases h;exact⟨_,rfl,zth p s rfl xs y he⟩
     .intro w' O' x5 h;rw[he]at h;exact h
   .cases x0
  |hbox ty vs=>cases x0
  |mp m I=>cases x0
 obtain⟨x,hx,xa,hb,x7,x3⟩:=x1;obtain⟨_,xc⟩:=Path.rep p x cs hx xa;have x9:p.off+0+u.cells.toList.length<=cur.size:=by rw[x2];omega
 have x4:=run_storeCells_at P g p.off ty u.cells.toList 0 cur w h2 x9 (RepC.oneCell _ _ _ hc);simp only[jT]at x4;refine⟨w.setRow g (over cur.toList p.off u.cells.toList).toArray,?_,zbJ w g _,λhk=>?_,hb⟩
 .unfold qO qa storeVar;simp only[zJ,zI,zD,ht.sizeOf];rw[if_neg (by simp only[ne_eq,fp];rw[<-x2];simp)];exact x4
 .have x6:=x3 _ _ _ (zjs hk _ _ _ _ (Path.set_rep p x y cs u.cells.toList hx xa hc));have xg:(over cs p.off u.cells.toList).length=cs.length:=zgM (by rw[x2];exact xc);refine h5 _ _ o' _ _ hb x7 x6 xg ?_ ?_ (setRow_heap w g cur _ ty _ h2)
  .rw[jS,zgM (by rw[x2,jz];omega),jz]
  .have e1:over (cur.toList.take cs.length) p.off u.cells.toList=(over cur.toList p.off u.cells.toList).take cs.length:=by
    simp only[over];rw[uO,uO,qZ,ko];simp only[zP,jz,zl,x2];rw[qm (show p.off<=cs.length by omega),qm (show p.off<=cur.size by omega),qZ,jI (show p.off<=cs.length by omega),qS (show u.cells.toList.length<=cs.length-p.off by omega)]
   rw[h4]at e1;rw[e1]
end
section
variable {P:zA}{K:Kn}{w0:zj}{X:Ownr}{n:Nat}{Y:AS}{U:Nat->zi}{a:Act}{w:zj}{N:Act->zj->Prop}{R:Exit->Act->zj->Prop}
theorem zba{o:Oper}{u:zi}{w':zj}(h:(execOp a.eval o).run P w=.ok (.value u) w')(hN:N (a.put o.dst u) w'):o.wp P a w N R:=by
 unfold jV;rw[h];exact hN
theorem za7{s:Sem zi}{u:zi}{w':zj}(h:s.run P w=.ok u w'):(do pure (.value (<-s)):Sem Next).run P w=.ok (.value u) w':=by simp[h]
theorem OwnRep.base{w:zj}{O:Nat->Prop}{B B':Nat}{bv:zi}{o:OObj}(h:OwnRep w O U B bv o)(hB:B'<=B):OwnRep w O U B' bv o:=by
 cases o with
 |box t x=>
  obtain⟨g,cs,ty,e,h1,h2⟩:=h;exact⟨g,cs,ty,e,zL hB h1,h2⟩
 |buf te t xs=>
  obtain⟨cs,h1,h2,h3⟩:=h;refine⟨cs,h1,⟨h2.1,?_⟩,h3⟩;rcases h2.2 with h4|⟨g,cap,cur,e,h5,h6⟩
  .exact .inl h4
  .exact .inr ⟨g,cap,cur,e,zL hB h5,h6⟩
 |hbox ty vs=>
  obtain⟨g,cs,e,h1,h2⟩:=h;exact⟨g,cs,e,zL hB h1,h2⟩
 |mp m I=>
  obtain⟨ms,ck,e,h1,h2⟩:=h;exact⟨ms,ck,e,zL hB h1,h2⟩
theorem OObj.set_under{r t:Ty}{o o':OObj}{p:Path r t}{y:t.T}{vc:List Prop}{k:Nat}(h:o.set p y=some (vc,o')):o'.under k:=by
 cases o with
 |box s x=>
  simp only[OObj.set]at h;split at h
  .split at h
   .split at h
    .cases h;intro _ e;cases e
    .cases h
   .cases h
  .cases h
 |buf te s xs=>
  simp only[OObj.set]at h;split at h
  .generalize zeC (.slice s) r=e at h;cases e with
   |none=>cases h
   |some e=>
    obtain⟨e⟩:=e;subst e;simp only[znu]at h;split at h
    .cases h;intro _ e;cases e
    .cases h
  .cases h
 |hbox ty vs=>cases h
 |mp m I=>cases h
theorem Sim.var(h:Sim w0 X n Y U a w)(hX:X.Ok w0){Z:Ty}{x:Z.T}{cs:List zi}(hr:RepC w (OSet X Y.E U) Z x cs){ty:zy}{d:Nat}(hd:d<n):
  ∃U',Sim w0 X n ⟨(d,⟨.optr Z,⟨Y.nx,Z,.here⟩⟩)::Y.F,(Y.nx,some (.box Z x))::Y.E,Y.nx+1⟩ U' (a.put (some d) (.pointer (some ⟨w.heap.size,0,none⟩))) (w.alloc (.cells cs.toArray ty)):=by
 refine h.make hX (za8 w _) (bv:=.pointer (some ⟨w.heap.size,0,none⟩)) (o:=.box Z x) (v:=⟨.optr Z,⟨Y.nx,Z,.here⟩⟩) ?_ ?_ ?_ ?_ hd
 .intro O U' hO;refine⟨w.heap.size,cs,ty,rfl,zk _,heap_alloc_new w _,RepC.keep (.of_below (za8 w _) λg hg x0=>?_) _ _ _ hr⟩;rcases hO g x0 with h1|h1
  .exact h1
  .have:w.heap.size=g:=by simpa [zai] using h1
   omega
 .intro g hg;cases hg;exact zu _
 .intro O U' x1;exact⟨w.heap.size,by show zai (U' Y.nx)=_;rw[x1];rfl,rfl⟩
 .exact zu _
theorem Sim.buf(h:Sim w0 X n Y U a w)(hX:X.Ok w0){w':zj}(hk:xW w.heap.size w w'){Z:Ty}{te:zy}{xs:List Z.T}{u:zi}
  (hr:OwnRep w' (λg=>OSet X Y.E U g\/zai u=some g) U w.heap.size u (.buf te Z xs)) {d:Nat} (hd:d<n):
  ∃U',Sim w0 X n ⟨(d,⟨.obuf Z,Y.nx⟩)::Y.F,(Y.nx,some (.buf te Z xs))::Y.E,Y.nx+1⟩ U' (a.put (some d) u) w':=by
 refine h.make hX hk (bv:=u) (o:=.buf te Z xs) (v:=⟨.obuf Z,Y.nx⟩) ?_ ?_ ?_ ?_ hd
 .intro O U' hO;have h1:=hr.keep (O':=O) ⟨zu _,λ_ _ _=>rfl,λg _ hg=>hO g hg⟩ λ_ _=>rfl;exact h1.base (zk _)
 .exact λg hg=>(hr.block_lt hg).1
 .intro O U' x0;exact x0.symm
 .exact zu _
theorem zh0{w:zj}{O:Nat->Prop}(hO:∀g,O g->g<w.heap.size){Z:Ty}(hz:0<Z.size){xs:List Z.T}{ds:List zi}{te:zy}(h:RepL (RepC w O Z) xs ds){len cap:Nat}(hl:xs.length=len)(hc:len<=cap)(hm:cap<=maxLen){cur:Array zi}(x0:cur.size=cap*Z.size)(ht:cur.toList.take ds.length=ds):
  OwnRep (w.alloc (.cells cur te)) (λg=>O g\/zai (.slice (some ⟨w.heap.size,0,none⟩) len cap)=some g) U w.heap.size (.slice (some ⟨w.heap.size,0,none⟩) len cap) (.buf te Z xs):=by
 have hd:=h.len (λx c=>RepC.len Z x c);refine⟨ds,h.mono λx _ c=>RepC.keep (.of_below (za8 w _) λg hg x1=>?_) _ _ _,⟨hd,.inr ⟨w.heap.size,cap,cur,by rw[hl],zu _,heap_alloc_new w _,by rw[hl];exact hc,hm,x0,by rw[<-hd];exact ht⟩⟩,hz⟩;rcases x1 with h1|h1
 .exact h1
 .have:w.heap.size=g:=by simpa [zai] using h1
  omega
theorem zo4{Z:Ty}{v:V}{ys:List Z.T}(h:coe (.slice Z) v=some ys):v=⟨.slice Z,ys⟩\/(v=⟨.lit,.slice none 0 0⟩/\ys=[]):=by
 rcases zey h with h1|⟨h1,Z',h2⟩
 .exact .inl h1
 .cases h2;exact .inr ⟨h1,rfl⟩
theorem ze9{A:List Prop}{o:Option (List Prop×AS)}{r:List Prop×AS}(h:preS A o=some r):∃q,o=some q/\(A++q.1,q.2)=r:=by
 induction A generalizing r with
 |nil=>exact⟨r,h,rfl⟩
 |cons a A ih=>
  simp only[preS]at h;split at h<;>first|(cases h;done)|skip
  rename_i p v hp;cases h;obtain⟨q,h1,h2⟩:=ih hp;cases h2;exact⟨q,h1,rfl⟩
theorem zoX(hK:KnOk P X.G K)(hX:X.Ok w0)(h:Sim w0 X n Y U a w){o:Oper}{r:List Prop×AS}(hs:zoY K n o.dst o.op Y=some r)(hp:allP r.1)
  (hN:∀U' a' w',Sim w0 X n r.2 U' a' w'->N a' w'):o.wp P a w N R:=by
 have hO:=h.hO hX;generalize x1:o.dst=dst at hs;generalize x8:o.op=op at hs;obtain⟨F,E,nx⟩:=Y;simp only[zoY]at hs;split at hs
 .
  split at hs
  .rename_i t p x;split at hs
   .rename_i Z i rt q hq;split at hs
    .rename_i ob xc;split at hs
     .rename_i xg;split at hs
      .rename_i y hy;split at hs<;>first|(cases hs;done)|skip
       rename_i vc o' h1;cases hs;simp only[zav]at hp;have xw:=zbb (h.ops p) hp.1.1;rw[hq]at xw;obtain⟨g,h2,h3⟩:=xw;have hl:=hK.t.is xg;have hx:=zfW hl.data hy (zbb (h.ops x) hp.1.2);obtain⟨w',h4,h5,h6,h7⟩:=zkq (h.own _ _ xc) h2 (.inr ⟨_,_,xc,h2⟩) hl h1 hp.2 hx;unfold jV;have e:(execOp a.eval o).run P w=.ok .skip w':=by
        unfold execOp;simp only[x8];rw[h3];simp[h4]
       rw[e];show N (a.put o.dst undef) w';rw[x1];exact hN U a w' (h.write xc (by rw[h2];exact h5) h6 h7 (OObj.set_under ‹_›))
      .cases hs
     .cases hs
    .cases hs
   .cases hs
  .cases hs
 .rename_i d;split at hs
  .rename_i y8;have hd:d<n:=by simpa using y8
   split at hs
   .
    rename_i t;split at hs
    .rename_i Z ht;cases hs;have hl:=hK.t.lay _ _ ht;obtain⟨i,z,hi,_,hz,xm,_⟩:=hl.info;obtain⟨U',x3⟩:=h.var hX (ze6 w (OSet X E U) Z hl.data) (ty:=t) hd;refine zba (u:=.pointer (some ⟨w.heap.size,0,none⟩)) (w':=w.alloc (.cells (zbD Z).toArray t)) ?_ (by rw[x1];exact hN U' _ _ x3);unfold execOp;simp[x8,Instr.alloc,zeroValue,typeInfo,hi,hz,newVar,newRow,xm]
    .cases hs
   .
    rename_i t x;split at hs
    .rename_i Z ht;split at hs<;>first|(cases hs;done)|skip
     rename_i y h1;cases hs;have hl:=hK.t.lay _ _ ht;have hx:=zfW hl.data h1 (zbb (h.ops x) hp);obtain⟨U',x3⟩:=h.var hX hx.cells (ty:=t) hd;refine zba (u:=.pointer (some ⟨w.heap.size,0,none⟩)) (w':=w.alloc (.cells (a.eval x).cells t)) ?_ (by rw[x1];exact hN U' _ _ (by simpa using x3));unfold execOp;simp[x8,Instr.box,newVar,newRow]
    .cases hs
   .
    rename_i t len xa;split at hs
    .rename_i te p e xs xd hq;cases hs;have y2:zgj w (OSet X E U) U (xa.toList.map λp=>(p.1,evO F p.2)) (xa.map λp=>(p.1,a.eval p.2)).toList:=by
      rw[kr];exact zgI λp ye=>h.ops p.2
     obtain⟨ds,xf,hu,hl,hz,h1,h2,h3⟩:=zei hK.t hq hp y2;have:te=xf:=by have:=hK.u _ _ xd;rw[hu]at this;cases this;rfl
     subst this;have y7:=h1.len (λx c=>RepC.len _ x c);have hlen:len<=maxLen:=by
      unfold zb3 at hq;split at hq
      .split at hq
       .rename_i e _ hb;simp only[zh,vz]at hb;have xr:0<e.size:=by simpa using hb.2
        have:=wU len xr;simp only[maxLen];omega
       .cases hq
      .cases hq
     have x5:=zh0 (U:=U) (te:=te) hO hz h1 h2 (zu _) hlen (cur:=ds.toArray) (by rw[jS,y7,h2]) (by simp);obtain⟨U',x3⟩:=h.buf hX (za8 w _) x5 hd;refine zba (u:=.slice (some ⟨w.heap.size,0,none⟩) len len) (w':=w.alloc (.cells ds.toArray te)) ?_ (by rw[x1];exact hN U' _ _ x3);unfold execOp;simp only[x8];exact za7 h3
    .cases hs
   .
    rename_i t l c;split at hs
    .rename_i te Z x0 y0 xd xg hl hc;obtain⟨x,rfl⟩:∃x:Int,x=x0:=⟨x0,rfl⟩;obtain⟨y,rfl⟩:∃y:Int,y=y0:=⟨y0,rfl⟩;split at hs
     .rename_i hb;cases hs;simp only[zav]at hp;obtain⟨⟨yc,y3⟩,h0,xn,hy⟩:=hp;have hy:y<=1000000000:=hy;have h0:0<=x:=h0;have xn:x<=y:=xn;simp only[zh,vz]at hb;have hz:0<Z.size:=by simpa using hb.2
      have hL:=zbb (h.ops l) yc;have hC:=zbb (h.ops c) y3;rw[hl]at hL;rw[hc]at hC;have hL:=RepV.int hL;have hC:=RepV.int hC;obtain⟨xf,hu,_,x2⟩:=hK.t.lay _ _ xg;have:te=xf:=by have:=hK.u _ _ xd;rw[hu]at this;cases this;rfl
      subst this;obtain⟨i,z,hi,yb,y5,xm,yg⟩:=x2.info;have ya:z.cells.size=Z.size:=by rw[xm];simp[zcF Z x2.data]
      have xb:(i.bytes:Int)*y<=281474976710656:=by
       have xt:i.bytes<=100000:=o_;have xy:i.bytes*(y:Int).toNat<=100000*1000000000:=wt xt o_;have xx:((i.bytes*(y:Int).toNat:Nat):Int)=(i.bytes:Int)*y:=by
        rw[Int.natCast_mul,Int.toNat_of_nonneg o_]
       omega
      have xj:=run_make (P:=P) w t te i z hu hi y5 .i64 .i64 x y h0 xn xb o_;have hcells:madeCells z.cells ((y:Int).toNat*i.size)=(zg (y:Int).toNat (zbD Z)).flatten.toArray:=by
       have:=zgu z.cells o_ (y:Int).toNat;unfold madeCells;rw[yb, <-ya,this,xm]
      rw[hcells]at xj;have xu:=zfE (w:=w) (O:=OSet X E U) x2.data (x:Int).toNat;have yd:=xu.len (λx c=>RepC.len _ x c);have x5:=zh0 (U:=U) (te:=te) hO hz xu (len:=(x:Int).toNat) (cap:=(y:Int).toNat) (by simp) o_ (by simp only[maxLen];omega) (cur:=(zg (y:Int).toNat (zbD Z)).flatten.toArray)
       (by simp[zcF Z x2.data]) (by
         have e1:(y:Int).toNat=(x:Int).toNat+((y:Int).toNat-(x:Int).toNat):=o_;rw[e1, <-List.replicate_append_replicate,qb];simp only[List.toList_toArray];rw[qQ])
      obtain⟨U',x3⟩:=h.buf hX (za8 w _) x5 hd;refine zba (u:=.slice (some ⟨w.heap.size,0,none⟩) (x:Int).toNat (y:Int).toNat) ?_ (by rw[x1];exact hN U' _ _ x3);unfold execOp;simp only[x8,hL,hC];exact za7 xj
     .cases hs
    .cases hs
   .
    rename_i args ts;split at hs
    .rename_i s x t u ha ht;split at hs
     .rename_i y4;have:t=u:=xL y4;subst this;have ea:args= #[s,x]:=by rw[<-vj,ha]
      have et:ts= #[t,t]:=by rw[<-vj,ht]
      subst ea;subst et;obtain⟨q,h1,rfl⟩:=ze9 hs;simp only[zav]at hp;have hS:=zbb (h.ops s) hp.1.1;have xz:=zbb (h.ops x) hp.1.2;have xe:∀v' w',(vW #[t,t] o.type #[a.eval s,a.eval x]).run P w=.ok v' w'->(execOp a.eval o).run P w=.ok (.value v') w':=by
       intro v' w' hr;unfold execOp;simp[x8,resolve,invoke,builtin,hr]
      have xv:∀{Z:Ty}{ys:List Z.T}{y:V},coe (.slice Z) (dat E y)=some ys->RepV w (OSet X E U) U y.t y.x (a.eval x)->RepS w (λ_=>False) (RepC w (OSet X E U) Z) ys (a.eval x):=by
       intro Z ys y hy hr;rcases zo4 hy with hd0|⟨hd0,rfl⟩
       .exact znq h.own hd0 hr
       .have:y=⟨.lit,.slice none 0 0⟩:=by
         obtain⟨yt,yx⟩:=y;cases yt<;>simp only[dat]at hd0<;>first|exact hd0|(cases hd0;done)|(split at hd0<;>cases hd0)
        rw[this]at hr;have e:=hr;exact .inl ⟨rfl,none,0,e,by simp⟩
      unfold appV at h1;split at h1
      .rename_i te xd;split at h1
       .rename_i yf i y1;split at h1
        .rename_i xf Z xs xc;split at h1
         .rename_i hb;split at h1<;>first|(cases h1;done)|skip
          rename_i ys h2;cases h1;simp only[zh,vz]at hb;obtain⟨⟨xt,xy⟩,xx⟩:=hb;have:te=xf:=xL xy;subst this;rw[y1]at hS;have eS:a.eval s=U i:=hS;obtain⟨xq,hu,_,x2⟩:=hK.t.is xt;have:te=xq:=by have:=hK.u _ _ xd;rw[hu]at this;cases this;rfl
          subst this;obtain⟨v',w',k1,k2,k3,k4⟩:=zf2 (P:=P) hu x2 xx o.type (zk _) (h.own i _ xc) (λg hg=>.inr ⟨i,_,xc,hg⟩) (xv h2 xz) hp.2;obtain⟨U',x3⟩:=h.redo xc rfl k2 (bv:=v') k3 (t:=Z) (o':=.buf te Z _) (λO _ hO=>k4 O hO) hd;refine zba (xe v' w' (by rw[eS];exact k1)) (by rw[x1];exact hN U' _ _ x3)
         .cases h1
        .cases h1
       .split at h1
        .rename_i x4;split at h1
         .rename_i Z xg;split at h1
          .rename_i hb;split at h1<;>first|(cases h1;done)|skip
           rename_i ys h2;cases h1;simp only[zh,vz]at hb;have hz:0<Z.size:=by simpa using hb.2
           have eS:a.eval s=.slice none 0 0:=by
            revert hS x4;generalize (zaK (evO F s)).2=sv;intro hS x4;unfold zuP at x4;split at x4
            .exact hS
            .cases x4
           obtain⟨xq,hu,_,x2⟩:=hK.t.lay _ _ xg;have:te=xq:=by have:=hK.u _ _ xd;rw[hu]at this;cases this;rfl
           subst this;have x7:OwnRep w (OSet X E U) U w.heap.size (.slice none 0 0) (.buf te Z []):=⟨[],rfl,fq w _ te Z.size,hz⟩;obtain⟨v',w',k1,k2,k3,k4⟩:=zf2 (P:=P) hu x2 hb.1 o.type (zu _) x7 (λg hg=>by cases hg) (xv h2 xz) (by have hq:ys.length<=1000000000:=hp.2;simpa using hq);have hk:xW w.heap.size w w':=⟨k2.os,k2.tape,k2.output,k2.size,λg hg=>k2.block g hg (by simp[zai])⟩;have x5:=k4 (λg=>OSet X E U g\/zai v'=some g) λg hg y6=>by
            rcases y6 with h3|h3
            .exact h3
            .rcases k3 g h3 with h4|h4
             .cases h4
             .omega
           obtain⟨U',x3⟩:=h.buf hX hk x5 hd;refine zba (xe v' w' (by rw[eS];exact k1)) (by rw[x1];exact hN U' _ _ x3)
          .cases h1
         .cases h1
        .cases h1
      .cases h1
     .cases hs
    .cases hs
   .
    rename_i x args ts;split at hs<;>first|(cases hs;done)|skip
    rename_i f cs xh;split at hs<;>first|(cases hs;done)|skip
    rename_i p c xs h1;have h2:=hs;have x9:∀x∈o.op.operands,RepV w (OSet X E U) U (evO F x).t (evO F x).x (a.eval x):=λx _=>h.ops x;split at h2
    .rename_i x6;split at h2
     .cases h2
     .rename_i hh;cases h2;refine zgp hK.c (hX.2.2 w h.bel) hO h.own x8 xh h1 hp x9 λv w' hb hr=>?_;rw[x1];simp only[x6]at hr;have xk:RepV w' (λg=>c.fl=false/\OSet X E U g) U c.res (c.out xs) v:=zgH _ _ _ hr;have xp:RepV w' (OSet X E U) U c.res (c.out xs) v:=by
       cases hfl:c.fl with
       |true=>exact ze3 hfl xk
       |false=>
        rw[hfl]at xk;exact RepV.keep ⟨zu _,λ_ _ _=>rfl,λg _ h=>⟨rfl,h⟩⟩ _ _ _ xk
      refine hN U _ _ (h.puts hb xp ?_ hd);show bnd _ _<=_;rw[zi2 _ _ (by simpa using hh)];exact zk _
    .rename_i te x6;split at h2
     .rename_i Z ys xi xo;cases h2;have y9:c.fl=false:=by unfold Ctr.fl;rw[xi];rfl
      refine zgp hK.c (hX.2.2 w h.bel) hO h.own x8 xh h1 hp x9 λv w' hb hr=>?_;rw[x1];simp only[x6]at hr;have xk:OwnRep w' (λg=>(c.fl=false/\OSet X E U g)\/zai v=some g) U w.heap.size v (.buf te Z ys):=by
       revert hr;generalize c.out xs=x at xo ⊢;revert x;rw[xi];intro x hx hr;cases hx;exact hr
      have xp:OwnRep w' (λg=>OSet X E U g\/zai v=some g) U w.heap.size v (.buf te Z ys):=xk.keep ⟨zu _,λ_ _ _=>rfl,λg _ h=>h.imp (λh=>⟨y9,h⟩) id⟩ λ_ _=>rfl;obtain⟨U',x3⟩:=h.buf hX hb xp hd;exact hN U' _ _ x3
     .cases h2
   .
    split at hs<;>first|(cases hs;done)|skip
    rename_i p t x h1;have h2:=hs;split at h2
    .rename_i hh;cases h2;have x9:∀x∈o.op.operands,RepV w (OSet X E U) U (evO F x).t (evO F x).x (a.eval x):=λx _=>h.ops x;obtain⟨u,w',k1,k2,k3⟩:=zhZ (P:=P) (o:=o) hK.t hO h.own (by rw[x8];exact h1) hp x9;refine zba k1 ?_;rw[x1];exact hN U _ _ (h.puts k2 k3 (zjC h1 hh h.hb (λi o ho=>⟨h.lt i o ho,h.hE i o ho⟩) λt Z ht=>(hK.t.lay t Z ht).data) hd)
    .cases h2
  .cases hs
end
structure KeepsM(w w':zj):Prop where
 size:w.heap.size<=w'.heap.size
 block:∀(g:Nat)cs ty fz,w.heap[g]? =some (.cells cs ty fz)->∃fz',w'.heap[g]? =some (.cells cs ty fz')
 maps:∀(g:Nat)ms ck,w.heap[g]? =some (.map ms ck)->w'.heap[g]? =some (.map ms ck)
section
variable {w w':zj}{O:Nat->Prop}{U:Nat->zi}
theorem CellsAt.keepM{g off:Nat}{vs:List zi}(h:CellsAt w g off vs)(hk:KeepsM w w'):CellsAt w' g off vs:=λj u hu=>by
 have h1:=h j u hu;unfold qd at h1 ⊢;simp only at h1 ⊢;cases ho:w.heap[g]? with
 |none=>simp[ho]at h1
 |some o=>
  cases o<;>first|(simp[ho]at h1;done)|skip
  rename_i cs ty fz;obtain⟨x0,h2⟩:=hk.block g cs ty fz ho;rw[h2];rw[ho]at h1;exact h1
theorem RepS.keepM{α:Type}{R R':α->List zi->Prop}{xs:List α}{v:zi}(h:RepS w O R xs v)(hk:KeepsM w w')(hr:∀x c,R x c->R' x c):RepS w' O R' xs v:=by
 rcases h with h|⟨g,off,c,vs,h1,h2,h3,h4,h5,h6,h7,h8⟩
 .exact .inl h
 .exact .inr ⟨g,off,c,vs,h1,h2,h3,h4,zF h5 hk.size,h6,h7.mono λx _ c=>hr x c,h8.keepM hk⟩
theorem RepC.keepM(hk:KeepsM w w'):∀(t:Ty)(x:t.T)(cs:List zi),RepC w O t x cs->RepC w' O t x cs:=by
 intro t
 induction t with
 |pair a b x0 x1=>rintro x cs ⟨c1,c2,h,h1,h2⟩;exact⟨c1,c2,h,x0 _ _ h1,x1 _ _ h2⟩
 |arr n t ih=>rintro x cs ⟨h1,h2⟩;exact⟨h1,h2.mono λx _ c=>ih x c⟩
 |slice t ih=>rintro x cs ⟨v,h,h2⟩;exact⟨v,h,h2.keepM hk ih⟩
 |_=>intro x cs h;exact h
theorem RepD.keepM(hk:KeepsM w w'){t:Ty}{x:t.T}{v:zi}(h:RepD w O t x v):RepD w' O t x v:=by
 unfold RepD at *;split at h
 .rename_i ht;obtain⟨cs,h1,h2⟩:=h;rw[if_pos ht];exact⟨cs,h1,RepC.keepM hk _ _ _ h2⟩
 .rename_i ht;rw[if_neg ht];exact RepC.keepM hk _ _ _ h
theorem RepTup.keepM(hk:KeepsM w w'):∀(t:Ty)(x:t.T)(vs:List zi),RepTup w O t x vs->RepTup w' O t x vs:=by
 intro t
 induction t with
 |tup a b iha x0=>rintro x vs ⟨v,r,h,h1,h2⟩;exact⟨v,r,h,h1.keepM hk,x0 _ _ h2⟩
 |unit=>intro x vs h;exact h
 |_=>intro x vs h;exact absurd h (by simp[RepTup])
theorem RepP.keepM(hk:KeepsM w w'){t:Ty}{x:t.T}{v:zi}(h:RepP w O t x v):RepP w' O t x v:=by
 cases t<;>first|exact h.elim|skip
 obtain⟨g,off,cs,h1,h2,h3,h4,h5⟩:=h;exact⟨g,off,cs,h1,zF h2 hk.size,h3,RepC.keepM hk _ _ _ h4,h5.keepM hk⟩
theorem RepCap.keepM(hk:KeepsM w w'):∀(t:Ty)(x:t.T)(vs:List zi),RepCap w O t x vs->RepCap w' O t x vs:=by
 intro t
 induction t with
 |tup a b iha x0=>rintro x vs ⟨v,r,h,h1,h2⟩;exact⟨v,r,h,h1.keepM hk,x0 _ _ h2⟩
 |unit=>intro x vs h;exact h
 |_=>intro x vs h;exact absurd h (by simp[RepCap])
theorem RepV.keepM(hk:KeepsM w w'):∀(t:Ty)(x:t.T)(v:zi),RepV w O U t x v->RepV w' O U t x v:=by
 intro t
 induction t with
 |junk=>intro x v h;exact h
 |lit=>intro x v h;exact h
 |vptr t _=>
  rintro x v ⟨g,off,cs,h1,h2,h3,h4,h5⟩;exact⟨g,off,cs,h1,zF h2 hk.size,h3,RepC.keepM hk _ _ _ h4,h5.keepM hk⟩
 |cptr g off t _=>
  rintro x v ⟨cs,h1,h2,h3,h4,h5⟩;exact⟨cs,h1,zF h2 hk.size,h3,RepC.keepM hk _ _ _ h4,h5.keepM hk⟩
 |optr t _=>intro x v h;exact h
 |obuf t _=>intro x v h;exact h
 |tup a b _ _=>rintro x v ⟨vs,h1,h2⟩;exact⟨vs,h1,RepTup.keepM hk _ _ _ h2⟩
 |cond t ih=>intro x v h;exact⟨λhc=>ih _ _ (h.1 hc),h.2⟩
 |clo f t _=>rintro x v ⟨vs,h1,h2⟩;exact⟨vs,h1,RepCap.keepM hk _ _ _ h2⟩
 |mapL=>rintro x v ⟨r,ms,ck,h1,h2,h3,h4,h5⟩;exact⟨r,ms,ck,h1,zF h2 hk.size,h3,hk.maps r ms ck h4,h5⟩
 |hptr=>intro x v h;exact h
 |hcons a b x0 x1=>rintro x v ⟨u,s,h1,h2,h3,h4⟩;exact⟨u,s,h1,h2,x0 _ _ h3,x1 _ _ h4⟩
 |_=>intro x v h;exact RepD.keepM hk h
theorem RepH.keepM(hk:KeepsM w w'):∀{vs:List V}{cs:List zi},RepH w O U vs cs->RepH w' O U vs cs
 | [],_,h=>h
 |v::r,_,⟨u,s,h1,h2,h3,h4⟩=>⟨u,s,h1,h2,RepV.keepM hk _ _ _ h3,RepH.keepM hk h4⟩
end
section
variable {P:zA}{K:Kn}{w0:zj}{X:Ownr}{n:Nat}{Y:AS}{U:Nat->zi}{a:Act}{w:zj}{R:Exit->Act->zj->Prop}{N:Act->zj->Prop}
theorem zqj{s e g k c:Nat}{cs:Array zi}{te:zy}{fz:Nat×Nat}(hs:P.underlying s=some (.slice e))(he:P.underlying e=some (.int .u8))(hg:w.heap[g]? =some (.cells cs te fz)):
  ∃w2,(convert s s (.slice (some ⟨g,0,none⟩) k c)).run P w=.ok (.slice (some ⟨g,0,none⟩) k c) w2/\w.grownBy w2 (some g)/\KeepsM w w2:=by
 have x2:w.shape? g=some (te,cs.size):=by unfold World.shape?;rw[hg]
 refine⟨w.freeze ⟨g,cs.size,none⟩ 1,by simp[convert,run_underlying hs,run_underlying he,markStringish,x2],?_,?_⟩
 .unfold gg;rw[if_neg d_];refine⟨rfl,rfl,rfl,by simp,λj _ hj=>?_⟩;show(w.heap.modify g _)[j]? =_;rw[ve,if_neg (λe=>hj (by rw[e]))]
 .unfold gg;rw[if_neg d_];refine⟨by simp,λj x3 ty' x1 hj=>?_,?_⟩;rw[ve];by_cases x0:g=j
  .subst x0;rw[if_pos rfl,hj];exact⟨_,rfl⟩
  .rw[if_neg x0];exact⟨x1,hj⟩
  .intro j ms ck hj;rw[ve,if_neg (λe=>by subst e;rw[hg]at hj;cases hj)];exact hj
theorem Sim.mark{w2:zj}(h:Sim w0 X n Y U a w){g:Nat}(hk:KeepsM w w2)(hm:w.grownBy w2 (some g))(x0:w0.heap.size<=g\/X.R g)(x2:∀i o,Owns.get Y.E i=some o->zai (U i)≠some g):Sim w0 X n Y U a w2:=
 ⟨h.sz,h.df,h.bel.grown hm (λg' e=>by cases e;exact x0),λs=>RepV.keepM hk _ _ _ (h.fr s),λi o hi=>by
   have hb:∀g',zai (U i)=some g'->w2.heap[g']? =w.heap[g']? :=λg' x1=>hm.block g' ((h.own i o hi).block_lt x1).2 λe=>x2 i o hi (by rw[x1,e]);have h1:=h.own i o hi;cases o with
   |box t x=>
    obtain⟨g',cs,ty,e,h2,h3,h4⟩:=h1;exact⟨g',cs,ty,e,h2,(hb g' (by rw[e];rfl)).trans h3,RepC.keepM hk _ _ _ h4⟩
   |buf te t xs=>
    obtain⟨cs,h2,h3,h4⟩:=h1;refine⟨cs,h2.mono λx _ c=>RepC.keepM hk _ _ _,⟨h3.1,?_⟩,h4⟩;rcases h3.2 with h5|⟨g',cap,cur,e,h5,h6,h7⟩
    .exact .inl h5
    .exact .inr ⟨g',cap,cur,e,h5,(hb g' (by rw[e];rfl)).trans h6,h7⟩
   |hbox ty vs=>
    obtain⟨g',cs,e,h2,h3,h4⟩:=h1;exact⟨g',cs,e,h2,(hb g' (by rw[e];rfl)).trans h3,h4.keepM hk⟩
   |mp m I=>
    obtain⟨ms,ck,e,h2,h3,h4⟩:=h1;exact⟨ms,ck,e,h2,(hb m (by rw[e];rfl)).trans h3,h4⟩,h.new,h.inj,h.lt,h.fix,h.hb,h.hE⟩
theorem zqk(hK:KnOk P X.G K)(hX:X.Ok w0)(h:Sim w0 X n Y U a w){o:Oper}{r:List Prop×AS}(hs:zsO K n o Y=some r)(hp:allP r.1)
  (hN:∀U' a' w',Sim w0 X n r.2 U' a' w'->N a' w'):o.wp P a w N R:=by
 obtain⟨F,E,nx⟩:=Y;simp only[zsO]at hs;split at hs<;>first|(cases hs;done)|skip
 rename_i s t x d x7 x4;split at hs<;>first|(cases hs;done)|skip
 rename_i xb i hx;split at hs<;>first|(cases hs;done)|skip
 rename_i te xs hi;split at hs<;>first|(cases hs;done)|skip
 rename_i hc;cases hs;simp only[zh]at hc;have e:=xL hc.1.1;subst e;have hd:d<n:=by simpa using hc.2
 rw[zav]at hp;have xc:0<zp xs:=hp.2;have hu:=zbb (h.ops x) hp.1;rw[hx]at hu;have hu:a.eval x=U i:=hu;have x3:=h.own i _ hi;obtain⟨cs,h1,h2,h3⟩:=x3;obtain⟨e,x9,_,he⟩:=hK.t.is hc.1.2;rcases h2.2 with ⟨_,h4⟩|⟨g,cap,cur,hb,h5,h6,h7⟩
 .exact absurd h4 o_
 .have x6:zai (U i)=some g:=by rw[hb];rfl
  obtain⟨w2,k1,k2,k3⟩:=zqj (P:=P) (k:=xs.length) (c:=cap) x9 he.1 h6;have hf:=h.freeze hX hi;have xa:=hf.mark k3 k2 (h.new i _ g hi x6) λj oj hj hg=>by
   rw[show Owns.get ((i,none)::E) j=_ from zag ..]at hj;by_cases x1:i=j
   .rw[if_pos x1]at hj;cases hj
   .rw[if_neg x1]at hj;exact h.inj i j _ _ hi hj x1 g x6 hg
  have hv:RepV w2 (OSet X ((i,none)::E) U) U (.slice (.int .u8)) xs (U i):=by
   have x8:∀g,zai (U i)=some g->¬OSet X ((i,none)::E) U g:=λg hg x2=>by
    rcases x2 with x2|⟨j,oj,h1,h2⟩
    .have h3:=hX.1 g x2;rcases h.new i _ g hi hg with h4|h4
     .omega
     .exact h3.2 h4
    .rw[zag]at h1;by_cases hs:i=j
     .rw[if_pos hs]at h1;cases h1
     .rw[if_neg hs]at h1;exact h.inj i j _ _ hi h1 hs g hg h2
   have x0:RepD w (OSet X ((i,none)::E) U) (.slice (.int .u8)) xs (U i):=(h.own i _ hi).view (λg _ hg=>by
    rcases hg with hg|⟨j,oj,h1,h2⟩
    .exact .inl hg
    .rw[zag]at h1;by_cases hs:i=j
     .rw[if_pos hs]at h1;cases h1
     .rw[if_neg hs]at h1;exact .inr ⟨j,oj,h1,h2⟩) x8
   exact RepV.keepM k3 _ _ _ (zbG x0)
  have x5:=xa.put (zY _ _) (v:=⟨.slice (.int .u8),xs⟩) hv (zk _) hd;refine zba (u:=U i) (w':=w2) ?_ ?_
  .unfold execOp;rw[x7];rw[<-hb]at k1;rw[<-hu]at k1 ⊢;exact za7 k1
  .rw[x4];exact hN U _ _ x5
theorem ztm(hK:KnOk P X.G K)(h:Sim w0 X n Y U a w){o:Oper}{r:List Prop×AS}(hs:cutS K n o Y=some r)(hp:allP r.1)
  (hN:∀U' a' w',Sim w0 X n r.2 U' a' w'->N a' w'):o.wp P a w N R:=by
 obtain⟨F,E,nx⟩:=Y;simp only[cutS]at hs;split at hs<;>first|(cases hs;done)|skip
 split at hs<;>first|(cases hs;done)|skip
 rename_i s x hi d xe x1;split at hs<;>first|(cases hs;done)|skip
 rename_i xg i j hx hj;split at hs<;>first|(cases hs;done)|skip
 rename_i te Z xs hE;split at hs<;>first|(cases hs;done)|skip
 rename_i hc;cases hs;simp only[zh]at hc;have hd:d<n:=by simpa using hc.2
 rw[zav]at hp;obtain⟨xf,xa,x4⟩:=hp;have x4:j<=((zp xs:Nat):Int):=x4;have hu:=zbb (h.ops x) xf;rw[hx]at hu;have hu:a.eval x=U i:=hu;obtain⟨k,hk⟩:=zb7 hj (h.ops hi);obtain⟨cs,h1,h2,h3⟩:=h.own i _ hE;obtain⟨xh,xd,_,x8⟩:=hK.t.is hc.1;have x2:∀A c,xs.length<=c->(jP s (.slice A xs.length c) none (some (.int k j)) none).run P w=.ok (.slice (if c=0 then A else A.map (·.add (0*Z.size))) j.toNat c) w:=by
  intro A c hc;have hb:=zbQ (P:=P) (w:=w) (k:=k) (i:=j) (y:=c) (c:=.sliceAcap) xa o_;unfold jP fM;simp only[zJ,run_underlying xd,zD,x8.sizeOf,zI,vw,jp,xZ,if_false,if_true,hb,Nat.sub_zero]
 have hlen:∀(y:List zi),RepL (RepC w (OSet X E U) Z) xs y->RepL (RepC w (OSet X E U) Z) (jK j.toNat xs) (y.take (j.toNat*Z.size)):=λy hy=>hy.take (λx c=>RepC.len Z x c) j.toNat;have x0:∀v,(jP s (U i) none (some (.int k j)) none).run P w=.ok v w->(execOp a.eval o).run P w=.ok (.value v) w:=by
  intro v hv;unfold execOp;rw[xe];simp only[hu,hk,fS,Option.map_none];exact za7 hv
 rcases h2.2 with ⟨h4,h5⟩|⟨g,cap,cur,hb,h5,h6,h7,h8,h9,h10⟩
 .have xb:xs=[]:=xC h5;subst xb;have xc:j=0:=by have:j<=((0:Nat):Int):=x4;omega
  subst xc;obtain⟨U',x6⟩:=h.redo hE rfl (w':=w) ⟨rfl,rfl,rfl,zu _,λ_ _ _=>rfl⟩ (bv:=.slice none 0 0) (o':=.buf te Z []) (λg hg=>by cases hg) (t:=Z) (λO _ hO=>⟨[],rfl,fq w _ te Z.size,h3⟩) hd;refine zba (u:=.slice none 0 0) (x0 _ (by rw[h4];exact x2 none 0 (zu _))) ?_;rw[x1];exact hN U' _ _ x6
 .have x7:xs.length<=cap:=h7;have hm:(jK j.toNat xs).length=j.toNat:=by rw[zP];omega
  have x3:j.toNat*Z.size<=xs.length*Z.size:=jJ _ o_;have x5:w.ownsRow 0 te Z.size (.slice (some ⟨g,0,none⟩) j.toNat cap) (jK j.toNat xs).length (cs.take (j.toNat*Z.size)):=by
   refine⟨?_,.inr ⟨g,cap,cur,by rw[hm],zk _,h6,by omega,h8,h9,?_⟩⟩
   .rw[hm,zP,h2.1];omega
   .rw[hm, <-h10,qZ,qm x3]
  obtain⟨U',x6⟩:=h.redo hE rfl (w':=w) ⟨rfl,rfl,rfl,zu _,λ_ _ _=>rfl⟩ (bv:=.slice (some ⟨g,0,none⟩) j.toNat cap) (o':=.buf te Z (jK j.toNat xs)) (λg' hg=>.inl (by rw[hb];exact hg)) (t:=Z)
   (λO _ hO=>⟨cs.take (j.toNat*Z.size),(hlen cs h1).mono λx _ c hc=>RepC.keep ⟨zu _,λ_ _ _=>rfl,λg hg x9=>hO g hg x9⟩ _ _ _ hc,x5,h3⟩) hd
  refine zba (u:=.slice (some ⟨g,0,none⟩) j.toNat cap) (x0 _ ?_) ?_
  .rw[hb,x2 _ _ x7]
   congr 2
   split
   .rfl
   .simp[Addr.add]
  .rw[x1];exact hN U' _ _ x6
end
section
variable {P:zA}{K:Kn}{w0:zj}{X:Ownr}{n:Nat}{Y:AS}{U:Nat->zi}{a:Act}{w:zj}{N:Act->zj->Prop}{R:Exit->Act->zj->Prop}{ops:Array Oper}
def asB:zi->Option Bool
 |.bool b=>some b
 |_=>none
theorem zmy{j dj:Nat}(hj:(ops[j]?).bind (·.dst)=some dj)(hd:dj<a.tmps.size):yielded ops a.tmps j=asB (a.tmps.getD dj undef):=by
 unfold yielded;rw[hj];simp only[Option.bind_some];have:a.tmps[dj]? =some (a.tmps.getD dj undef):=by simp[Array.getD,hd]
 rw[this];cases a.tmps.getD dj undef<;>rfl
theorem zjX{O:Nat->Prop}{v:V}{x0 c:Bool}(h:ztc v x0=some c){u:zi}(hr:RepV w O U v.t v.x u):(asB u==some x0)=c:=by
 obtain⟨t,x⟩:=v;unfold ztc at h;split at h
 .rename_i b hb;obtain⟨rfl,hb⟩:=V.mk.inj hb;cases hb;cases h;have:=RepV.bool hr;subst this;cases c<;>rfl
 .rename_i b hb;obtain⟨rfl,hb⟩:=V.mk.inj hb;cases hb;cases h;have:=RepV.bool hr;subst this;cases b<;>rfl
 .rename_i x1 x2 hb;obtain⟨rfl,hb⟩:=V.mk.inj hb;cases hb;cases h;cases x1 with
  |true=>
   have:=RepV.bool (hr.1 rfl);subst this;cases x2<;>rfl
  |false=>
   have:=hr.2 rfl;subst this;rfl
 .rename_i x1 x2 hb;obtain⟨rfl,hb⟩:=V.mk.inj hb;cases hb;cases h;cases x1 with
  |true=>
   have:=RepV.bool (hr.1 rfl);subst this;cases x2<;>rfl
  |false=>
   have:=hr.2 rfl;subst this;rfl
 .cases h
theorem zj6{O:Nat->Prop}{c:Bool}{v:V}{u:zi}(h:c=true->RepV w O U v.t v.x u)(h':c=false->u=undef):RepV w O U (zk9 c v).t (zk9 c v).x u:=by
 obtain⟨t,x⟩:=v;cases t<;>first
  |exact⟨h,h'⟩
  |skip
 rename_i t;have e:zk9 c ⟨.cond t,x⟩=⟨.cond t,(c&&x.1,x.2)⟩:=rfl;rw[e];refine⟨λhc=>?_,λhc=>?_⟩
 .
  simp only[zh]at hc;exact(h hc.1).1 hc.2
 .
  cases hcc:c with
  |false=>exact h' hcc
  |true=>rw[hcc,Bool.true_and]at hc;exact(h hcc).2 hc
theorem zrG{G:zj->Prop}(hK:KnOk P G K)(hG:G w){O:Nat->Prop}{B:Nat}(hO:∀g,O g->g<w.heap.size){E:Owns}(x2:∀i o,Owns.get E i=some o->OwnRep w O U B (U i) o){F:Frame}{o:Oper}{r:List Prop×V}(h:gOp K n ops E F o=some r)(hp:allP r.1)(x7:a.tmps.size=n)
  (x0:∀t∈znw ops o,RepV w O U (Frame.get F t).t (Frame.get F t).x (a.tmps.getD t undef))
  (hN:∀u w',xW w.heap.size w w'->RepV w' O U r.2.t r.2.x u->N (a.put o.dst u) w'):
  if zX o (yielded ops a.tmps) then o.wp P a w N R\/(o.asks P a w/\LetsOut R) else N (a.put o.dst undef) w:=by
 have x1:∀x∈o.op.operands,RepV w O U (evO F x).t (evO F x).x (a.eval x):=λx hx=>zoR λs hs=>x0 s (by
  unfold znw;refine yJ.2 (.inl (List.mem_filterMap.2 ⟨x,by simpa using hx,?_⟩));rw[hs])
 unfold gOp at h;cases hg:o.guard with
 |none=>
  rw[hg]at h;simp only at h;split at h<;>first|(cases h;done)|skip
  rename_i p t x h1;have h2:=h;split at h2
  .cases h2;simp only[zX,hg,if_true];exact .inl (zrM hK.t hK.c hG hO x2 h1 hp x1 hN)
  .cases h2
 |some g=>
  obtain⟨j,x8⟩:=g;rw[hg]at h;simp only at h;split at h
  .rename_i dj x5;split at h
   .rename_i x6;split at h<;>first|(cases h;done)|skip
    rename_i c p v h1 h3;have h4:=h;split at h4<;>first|(cases h4;done)|skip
    .have h4:=zjR h4;subst h4;have x3:dj<n:=by simpa using x6
     have x4:=x0 dj (by unfold znw;rw[hg];simp[x5]);have hw:zX o (yielded ops a.tmps)=c:=by
      unfold zX;rw[hg];simp only;rw[zmy x5 (by rw[x7];exact x3)];exact zjX h1 x4
     rw[hw];cases hc:c with
     |true=>
      rw[if_pos rfl];refine .inl (zrM hK.t hK.c hG hO x2 h3 (zhn hp hc) x1 λu w' hb hr=>hN u w' hb (zj6 (λ_=>hr) (λh0=>?_)));rw[hc]at h0;cases h0
     |false=>
      rw[if_neg (by simp)];exact hN undef w (zY _ _) (zj6 (λh0=>by rw[hc]at h0;cases h0) λ_=>rfl)
   .cases h
  .cases h
theorem zk8{c:Bool}{v:V}:(zk9 c v).bound=v.bound:=by
 obtain⟨t,x⟩:=v;cases t<;>rfl
theorem zj8{E:Owns}{F:Frame}{op:Op}{p:List Prop}{t:Ty}{x:t.T}(h1:cOp K.T K.Q K.C E F op=some (p,⟨t,x⟩))(hh:(!t.hand||zfQ op)=true){m:Nat}(hF:∀s,(Frame.get F s).bound<=m)(hE:∀i o,Owns.get E i=some o->i<m/\o.under m)(hT:∀t Z,tget K.T t=some Z->Z.data=true):bnd t x<=m:=by
 cases hr:t.hand with
 |false=>rw[zi2 _ _ hr];exact zk _
 |true=>
  rw[hr]at hh;have hp:pOp K.T K.Q E F op=some (p,⟨t,x⟩):=by
   unfold cOp at h1;split at h1
   .cases hh
   .exact h1
  exact zjC hp (by show(!t.hand||zfQ op)=true;rw[hr];exact hh) hF hE hT
theorem zjY{E:Owns}{F:Frame}{o:Oper}{r:List Prop×V}(h:gOp K n ops E F o=some r){m:Nat}(hF:∀s,(Frame.get F s).bound<=m)(hE:∀i o,Owns.get E i=some o->i<m/\o.under m)(hT:∀t Z,tget K.T t=some Z->Z.data=true):r.2.bound<=m:=by
 unfold gOp at h;split at h
 .split at h<;>first|(cases h;done)|skip
  rename_i p t x h1;have h2:=h;split at h2
  .rename_i hh;cases h2;exact zj8 h1 hh hF hE hT
  .cases h2
 .split at h
  .split at h
   .split at h<;>first|(cases h;done)|skip
    rename_i c p v h1 h3;have h4:=h;split at h4<;>first|(cases h4;done)|skip
    rename_i hh;have h4:=zjR h4;subst h4;rw[zk8];obtain⟨t,x⟩:=v;exact zj8 h3 hh hF hE hT
   .cases h
  .cases h
theorem zjm{t:zy}{Z:Ty}(ht:Lay P Z (.inl t)){g off:Nat}{u:zi}{cur:List zi}{ty:zy}{w:zj}(hg:w.heap[g]? =some (.cells cur.toArray ty (0,0)))(hl:u.cells.toList.length=Z.size)(hf:off+Z.size<=cur.length)(h1:∀y∈u.cells.toList,y.oneCell'=true):
  (qO t (.pointer (some ⟨g,off,none⟩)) u).run P w=.ok () (w.setRow g (over cur off u.cells.toList).toArray):=by
 have x0:=run_storeCells_at P g off ty u.cells.toList 0 cur.toArray w hg (by rw[hl];simpa using hf) h1;simp only[jT]at x0;unfold qO qa storeVar;simp only[zJ,zI,zD,ht.sizeOf];rw[if_neg (by simp only[ne_eq,fp];rw[<-hl];simp)];exact x0
theorem RepH.one{O:Nat->Prop}{U:Nat->zi}{w:zj}:∀{vs:List V}{cs:List zi},RepH w O U vs cs->∀y∈cs,y.oneCell'=true
 | [],_,h,y,hy=>by
  subst h;cases hy
 |v::r,_,⟨u,s,e,h2,h3,h4⟩,y,hy=>by
  subst e;rcases zE.1 hy with rfl|hy
  .exact h2
  .exact RepH.one h4 y hy
theorem ziL:∀(t:Ty)(x:t.T),t.leafy=true->∀v,v∈zaU t x->v.bound<=bnd t x:=by
 intro t
 induction t with
 |pair a b iha ihb=>
  intro x hl v hv;have hl:((Ty.pair a b).data&&(Ty.pair a b).noArr)=true:=hl;simp only[Ty.data,Ty.noArr,zh]at hl;rcases yJ.1 hv with hv|hv
  .have:=iha x.1 (by cases a<;>first|exact gr.2 ⟨hl.1.1,hl.2.1⟩|(cases hl.1.1;done)) v hv;rwa[zfx _ _ hl.1.1]at this
  .have:=ihb x.2 (by cases b<;>first|exact gr.2 ⟨hl.1.2,hl.2.2⟩|(cases hl.1.2;done)) v hv;rwa[zfx _ _ hl.1.2]at this
 |unit=>intro x _ v hv;cases hv
 |hcons a b _ ihb=>
  intro x hl v hv;rcases zE.1 hv with rfl|hv
  .exact Nat.le_max_left _ _
  .exact zL (ihb x.2 hl v hv) (Nat.le_max_right _ _)
 |arr n t _=>
  intro x hl;have hl:((Ty.arr n t).data&&(Ty.arr n t).noArr)=true:=hl;simp[Ty.noArr]at hl
 |_=>
  intro x _ v hv;have hv:=zQ.1 hv;subst hv;exact zu _
theorem zj2(v:zi):(evC v).bound=0:=by
 have:=zdt (F:=[]) (m:=0) (λs=>zu _) (.const v);exact Nat.eq_zero_of_le_zero this
theorem ziK{E:Owns}{v:V}{ls:List V}(h:zgY E v=some ls):∀l,l∈ls->l.bound<=v.bound:=by
 obtain⟨t,x⟩:=v;unfold zgY at h;split at h
 .rename_i y he;unfold zg0 at h;split at h
  .split at h
   .cases h;intro l hl;obtain⟨c,_,rfl⟩:=jo.1 hl;rw[zj2];exact zk _
   .cases h
  .cases h
  .cases h;intro l hl;rw[zQ.1 hl];exact zk _
 .rename_i t' j he;obtain⟨rfl,he⟩:=V.mk.inj he;cases he;split at h
  .cases h;intro l hl;rw[zQ.1 hl];exact zu _
  .cases h
 .rename_i h1 h2 he;obtain⟨rfl,he⟩:=V.mk.inj he;cases he;split at h
  .rename_i hl;cases h;exact ziL _ _ hl
  .cases h
theorem zqC(hK:KnOk P X.G K)(hX:X.Ok w0)(h:Sim w0 X n Y U a w){o:Oper}{r:List Prop×AS}(hs:zs9 K n o Y=some r)(hp:allP r.1)
  (hN:∀U' a' w',Sim w0 X n r.2 U' a' w'->N a' w'):o.wp P a w N R:=by
 obtain⟨F,E,nx⟩:=Y;simp only[zs9]at hs;split at hs
 .rename_i t p x x3 x0;split at hs<;>first|(cases hs;done)|skip
  rename_i i k hq;split at hs<;>first|(cases hs;done)|skip
  rename_i vs Z x7 x6;split at hs<;>first|(cases hs;done)|skip
  rename_i ws hw;cases hs;simp only[zav]at hp;have xg:=zbb (h.ops p) hp.1;rw[hq]at xg;obtain⟨g,h2,h3⟩:=xg;have hl:=hK.t.lay _ _ x6;have hx:=zbb (h.ops x) hp.2;unfold putH at hw;split at hw<;>first|(cases hw;done)|skip
  rename_i ls xd;split at hw<;>first|(cases hw;done)|skip
  rename_i hc;cases hw;simp only[zh,qE,vz]at hc;have x4:=zkL (B:=0) h.own xd hx;obtain⟨g',cs,e1,e2,e3,e4⟩:=h.own _ _ x7;have xh:g'=g:=by rw[e1]at h2;simpa [zai] using h2
  subst xh;have xi:=e4.len;have xe:=x4.len;have x2:=zjm (P:=P) hl (off:=k) e3 (by rw[<-xe];exact hc.1) (by rw[<-xi];exact hc.2) x4.one;unfold jV;have e:(execOp a.eval o).run P w=.ok .skip (w.setRow g' (over cs k (a.eval x).cells.toList).toArray):=by
   unfold execOp;simp only[x3];rw[h3];simp[x2]
  rw[e];show N (a.put o.dst undef) _;rw[x0];refine hN U a _ (h.write x7 (by rw[h2];exact zbJ w g' _) (λhk=>?_) rfl ?_)
  .refine⟨g',over cs k (a.eval x).cells.toList,e1,e2,setRow_heap w g' cs.toArray _ _ _ e3,?_⟩;have h5:RepH w (OSet X E U) U (vs.take k++ls++vs.drop (k+Z.size)) (over cs k (a.eval x).cells.toList):=by
    unfold over;rw[<-xe,hc.1];exact((e4.take k).append x4).append (e4.drop _)
   exact h5.keep hk
  .intro us e v hv;cases e;rcases yJ.1 hv with hv|hv
   .rcases yJ.1 hv with hv|hv
    .exact h.hE _ _ x7 vs rfl v (List.mem_of_mem_take hv)
    .exact zL (ziK xd v hv) (zL (zgB _) (zdt h.hb x))
   .exact h.hE _ _ x7 vs rfl v (gq hv)
 .rename_i t d x3 x0;split at hs<;>first|(cases hs;done)|skip
  rename_i hc;split at hs<;>first|(cases hs;done)|skip
  rename_i Z x6;split at hs<;>first|(cases hs;done)|skip
  rename_i x8;cases hs;simp only[zh]at hc;have hd:d<n:=by simpa using hc.2
  have hl:=hK.t.lay _ _ x6;obtain⟨i,z,hi,_,hz,xc,_⟩:=hl.info;have xa:∀(w':zj)(O:Nat->Prop)(U':Nat->zi)(l:List zi),l.all je=true->RepH w' O U' (l.map evC) l:=by
   intro w' O U' l
   induction l with
   |nil=>intro _;exact rfl
   |cons c l ih=>
    intro hl;simp only[List.all_cons,zh]at hl;exact⟨c,l,rfl,hl.1,zk1 c,ih hl.2⟩
  obtain⟨U',xf⟩:=h.make hX (za8 w (.cells (zbD Z).toArray t)) (bv:=.pointer (some ⟨w.heap.size,0,none⟩)) (o:=.hbox t ((zbD Z).map evC)) (v:=⟨.hptr,(nx,0)⟩) (u:=.pointer (some ⟨w.heap.size,0,none⟩)) (d:=d)
   (λO U' _=>⟨w.heap.size,zbD Z,rfl,zk _,heap_alloc_new w _,xa _ _ _ _ x8⟩) (λg hg=>by cases hg;exact zu _)
   (λO U' xj=>⟨w.heap.size,by show zai (U' nx)=_;rw[xj];rfl,rfl⟩) (zu _) hd (by
     intro us e v hv;cases e;obtain⟨c,_,rfl⟩:=jo.1 hv;rw[zj2];exact zk _)
  refine zba (u:=.pointer (some ⟨w.heap.size,0,none⟩)) (w':=w.alloc (.cells (zbD Z).toArray t)) ?_ (by rw[x0];exact hN U' _ _ xf);unfold execOp;simp[x3,Instr.alloc,zeroValue,typeInfo,hi,hz,newVar,newRow,xc]
 .rename_i t x5 d x3 x0;split at hs<;>first|(cases hs;done)|skip
  rename_i hc;split at hs<;>first|(cases hs;done)|skip
  rename_i ta tb x6;cases hs;simp only[zh]at hc;have hd:d<n:=by simpa using hc.1.2
  have x1:x5= #[]:=by
   have:=hc.2;rw[List.isEmpty_iff]at this;rw[<-vj,this]
  subst x1;have hl:=hK.t.lay _ _ x6;obtain⟨fs,h2,xb,f,rr,h3,h4,h5,h6⟩:=hl;obtain⟨i,z,hi,xf,hz,xc,_⟩:=xb;have x4:Lay P (.pair ta tb) (.inr (fs.toList,0)):=⟨f,rr,h3,h4,h5,by simpa using h6⟩;obtain⟨x9,h7,h8⟩:=zjA _ _ _ x4;have x2:(Instr.build t #[]).run P w=.ok (.agg (zbD (.pair ta tb)).toArray) w:=by
   refine run_build w t #[] _ ?_;unfold gT;rw[hi,h2];simp only[hz,h7,xc];rfl
  refine zba (u:=.agg (zbD (.pair ta tb)).toArray) (w':=w) ?_ ?_
  .unfold execOp;simp only[x3];exact za7 (by simpa using x2)
  .rw[x0];exact hN U _ _ (h.put (zY _ _) (v:=⟨.lit,.agg (xU (zbD (.pair ta tb)))⟩) rfl (zk _) hd)
 .cases hs
theorem zju{O:Nat->Prop}{B:Nat}{v:zi}:∀{t:Ty}(z:t.T),t.resOk=true->(t=.unit\/zcd w O B none t z v)->RepV w O U (resV t z).t (resV t z).x v:=by
 intro t;cases t with
 |unit=>intro z _ _;exact t_
 |slice Z=>rintro z _ (e|h2);cases e;exact zbG h2
 |bool=>rintro z h (e|h2);cases e;exact h2 U
 |int k=>rintro z h (e|h2);cases e;exact h2 U
 |str=>rintro z h (e|h2);cases e;exact h2 U
 |pair a b=>rintro z h (e|h2);cases e;exact h2 U
 |arr n e=>rintro z h (e|h2);cases e;exact h2 U
 |tup a b=>rintro z h (e|h2);cases e;exact h2 U
 |nils=>rintro z h (e|h2);cases e;exact h2 U
 |_=>intro z h;cases h
theorem zgG{t:Ty}(z:t.T)(h:t.resOk=true)(m:Nat):(resV t z).bound<=m:=by
 cases t<;>first|exact zk _|cases h
theorem zp3{C:List (yR×RCtr)}(hC:RsOk P X.G C)(hX:X.Ok w0)(h:Sim w0 X n Y U a w){o:Oper}{r:List Prop×AS}(hs:zsE C n o Y=some r)(hp:allP r.1)
  (hN:∀U' a' w',Sim w0 X n r.2 U' a' w'->N a' w'):o.wp P a w N R:=by
 unfold zsE at hs;split at hs<;>first|(cases hs;done)|skip
 rename_i f args ts hop;split at hs<;>first|(cases hs;done)|skip
 rename_i a0 zas c hargs hc;have h1:=h.frzs hX zas;split at hs;rename_i F E nx hσ;rw[hσ]at h1;split at hs<;>first|(cases hs;done)|skip
 rename_i t0 p hev;split at hs<;>first|(cases hs;done)|skip
 rename_i s x hbox;split at hs<;>first|(cases hs;done)|skip
 rename_i hcond;simp only[zh,qE]at hcond;obtain⟨⟨⟨hoff,hd⟩,hfl⟩,hself⟩:=hcond;split at hs<;>first|(cases hs;done)|skip
 rename_i y q xs hcoe hav;split at hs<;>first|(cases hs;done)|skip
 rename_i F' hput;cases hs;simp only[zav]at hp;obtain⟨hq,hpre⟩:=hp;obtain⟨⟨hen,hcall⟩,hinv⟩:=hC f c hc;have hv:=h1.ops a0;rw[show evO (AS.mk F E nx).F a0=_ from hev]at hv;obtain⟨g,hg1,hg2⟩:=hv;rw[hoff]at hg2;obtain⟨g',cs,ty,e1,_,e3,e4⟩:=h1.own _ _ hbox;have hgg:g'=g:=by rw[e1]at hg1;simpa [zai] using hg1
 subst hgg;rcases zey hcoe with hcs|⟨hcs,_⟩
 case inr=>cases hcs;exact absurd e4 id
 cases hcs;have hOg:OSet X E U g':=.inr ⟨_,_,hbox,by rw[e1];rfl⟩;have hset:(λk=>false=false/\OSet X E U k)=λk=>(OSet X E U k/\k≠g')\/k=g':=by
  funext k
  apply propext;constructor
  .rintro ⟨_,hk⟩;by_cases e:k=g'
   .exact .inr e
   .exact .inl ⟨hk,e⟩
  .rintro (⟨hk,_⟩|rfl)
   .exact⟨rfl,hk⟩
   .exact⟨rfl,hOg⟩
 have hset2:OSet X E U=λk=>(OSet X E U k/\k≠g')\/k=g':=by
  rw[<-hset]
  funext k
  simp
 have hvs:RepVs w (OSet X E U) U (zas.map (evO F)) (zas.map a.eval):=by
  refine⟨by simp,λi v hv=>?_⟩;rw[yB]at hv;obtain⟨z,hz,rfl⟩:=yC.1 hv;exact⟨a.eval z,by rw[yB,hz];rfl,h1.ops z⟩
 have ha:=zek (B:=0) h1.own hd hav hq hvs.2 hvs.1;rw[hset]at ha;rw[hset2]at e4;have hO:∀k,(OSet X E U k/\k≠g')->k<w.heap.size/\k≠g':=λk hk=>⟨h1.hO hX k hk.1,hk.2⟩;refine zel hop hen ?_;rw[hargs,List.map_cons,hg2];refine(hcall w _ g' cs ty _ xs _ hO e3 e4 ha hpre (hinv w g') (hX.2.2 w h.bel)).mono λe w' hr=>?_;obtain⟨v,cs',ty',he,hk,hc',hrep,hres⟩:=hr;refine⟨v,he,?_⟩;have h2:=h1.write (w':=w') (o':=.box c.self (c.post y xs)) hbox ⟨hk.os,hk.tape,hk.output,hk.size,λk hkl hne=>hk.block k hkl λe=>hne (by rw[e1,e];rfl)⟩ (λ_=>⟨g',cs',ty',e1,zk _,hc',by rw[hset2];exact hrep⟩) rfl;unfold putD at hput;split at hput
 .rename_i d hdst;split at hput<;>first|(cases hput;done)|skip
  rename_i hlt;cases hput;rw[hdst];have hkp:Keeps w' w' (λk=>(OSet X E U k/\k≠g')\/k=g') (OSet X ((p.i,some (.box c.self (c.post y xs)))::E) U):=⟨zu _,λ_ _ _=>rfl,λk _ hk=>by
   suffices h0:OSet X E U k by rw[hset2]at h0;exact h0
   rcases hk with hk|⟨m,om,hm,hbm⟩
   .exact .inl hk
   .rw[zag]at hm;by_cases hpm:p.i=m
    .subst hpm;exact .inr ⟨_,_,hbox,hbm⟩
    .rw[if_neg hpm]at hm;exact .inr ⟨m,om,hm,hbm⟩⟩
  have h3:=h2.put (zY _ _) (RepV.keep hkp _ _ _ (zju (U:=U) _ hfl hres)) (zgG _ hfl _) (by simpa using hlt:d<n);exact hN _ _ _ h3
 .rename_i hdst;cases hput;rw[hdst];exact hN _ _ _ h2
theorem zgq(hK:KnOk P X.G K)(hX:X.Ok w0)(h:Sim w0 X n Y U a w){o:Oper}{r:List Prop×AS}(hs:zhH K n ops o Y=some r)(hp:allP r.1)
  (hN:∀U' a' w',Sim w0 X n r.2 U' a' w'->N a' w'):if zX o (yielded ops a.tmps) then o.wp P a w N R\/(o.asks P a w/\LetsOut R) else N (a.put o.dst undef) w:=by
 unfold zhH at hs;split at hs
 .rename_i hg;simp only[zX,hg,if_true];split at hs
  .rename_i r' hm;cases hs;exact .inl (zqk hK hX h hm hp hN)
  .split at hs
   .rename_i r' hm;cases hs;exact .inl (ztm hK h hm hp hN)
   .split at hs
    .rename_i r' hm;cases hs;exact .inl (zqC hK hX h hm hp hN)
    .split at hs
     .rename_i r' hm;cases hs;exact .inl (zp3 hK.r hX h hm hp hN)
     .exact .inl (zoX hK hX (h.frzs hX _) hs hp hN)
 .split at hs
  .rename_i d F E nx hd;split at hs
   .rename_i x1;split at hs<;>first|(cases hs;done)|skip
    rename_i p t x h1;cases hs;have x0:d<n:=by simpa using x1
    refine zrG hK (hX.2.2 w h.bel) (h.hO hX) h.own h1 hp h.sz (λt _=>h.fr t) λu w' hb hr=>?_;rw[hd];exact hN U _ _ (h.puts hb hr (zjY h1 h.hb (λi o ho=>⟨h.lt i o ho,h.hE i o ho⟩) λt Z ht=>(hK.t.lay t Z ht).data) x0)
   .cases hs
  .cases hs
theorem zdg(hK:KnOk P X.G K)(hX:X.Ok w0):∀(l:List Oper){Y:AS}{U:Nat->zi}{a:Act}{w:zj}{r:List Prop×AS},Sim w0 X n Y U a w->aSeq K n ops l Y=some r->allP r.1->
  (∀U' a' w',Sim w0 X n r.2 U' a' w'->R .normal a' w')->wpList P ops R l a w
 | [],Y,U,a,w,r,h,hs,_,hR=>by
  cases hs;exact hR U a w h
 |o::l,Y,U,a,w,r,h,hs,hp,hR=>by
  simp only[aSeq]at hs;split at hs<;>first|(cases hs;done)|skip
  rename_i p Y' h1;obtain⟨q,h3,rfl⟩:=ze9 hs;simp only[zav]at hp;exact zgq hK hX h h1 hp.1 λU' a' w' x0=>zdg hK hX l x0 h3 hp.2 hR
end
end Go.Proofs.YtdjjmoenpjlfeaaGreatDoor
