/-
  Texts of this claim, joined: what the statement's proof uses.
-/
import Derived.Test.YtdjjmoenpjlfeaaGreatDoorKD
set_option linter.unusedSimpArgs false
set_option linter.unusedVariables false
set_option maxRecDepth 100000
open And renaming intro -> vI
open Array renaming getElem?_eq_getElem -> xG,replicate -> zG
open BitVec renaming eq_of_toNat_eq -> vd,ofInt -> zV,toInt_eq_toNat_cond -> vP,toNat_ofNat -> xA
open Bool renaming and_eq_true -> zh,eq_iff_iff -> qA,not_eq_true' -> xJ,or_eq_true -> xO
open Go renaming Operand -> zK,Program -> zA,TypeId -> zy,Value -> zi,World -> zj,binOp -> xS
open Go.Deferred renaming ofValue -> jv
open Go.IntKind renaming i64 -> qV
open Go.Lib renaming decDigits -> qH
open Go.Proofs.Tryz renaming call33 -> jO,call65 -> uB,call86 -> gJ,f65 -> fW,prog -> zf
open Go.Proofs.YtdjjmoenpjlfeaaGreatDoor renaming CtrOk -> yQ,Frame -> yF,StepN -> ud
open Go.Proofs.YtdjjmoenpjlfeaaGreatDoor.AL renaming fit -> j0,guardF -> ut,guardT -> ji,handV -> ku,nil -> qu,step -> xY,subF -> kn,subV -> kW,take -> kU
open Go.Proofs.YtdjjmoenpjlfeaaGreatDoor.AWP renaming frz -> vo,frzB -> xN,frzL -> ug,loop -> yK,renameK -> gI,ret -> zC
open Go.Proofs.YtdjjmoenpjlfeaaGreatDoor.AWPD renaming block -> fX,of -> kF,seq -> vT
open Go.Proofs.YtdjjmoenpjlfeaaGreatDoor.AWPM renaming block -> g9,of -> kE,rangeM -> wM,seq -> vQ
open Go.Proofs.YtdjjmoenpjlfeaaGreatDoor.AllI renaming s -> zZ
open Go.Proofs.YtdjjmoenpjlfeaaGreatDoor.AllN renaming cons -> kv,nil -> uf
open Go.Proofs.YtdjjmoenpjlfeaaGreatDoor.Frame renaming get -> zr
open Go.Proofs.YtdjjmoenpjlfeaaGreatDoor.IWP renaming mono -> wA,of -> gj,seq -> wl
open Go.Proofs.YtdjjmoenpjlfeaaGreatDoor.OrdA renaming last -> vY
open Go.Proofs.YtdjjmoenpjlfeaaGreatDoor.Owns renaming get -> zq
open Go.Proofs.YtdjjmoenpjlfeaaGreatDoor.RepV renaming int -> jn,ofBool -> qR,ofInt -> qF
open Go.Proofs.YtdjjmoenpjlfeaaGreatDoor.StepA renaming eval -> yD,guardF -> vp,guardT -> qT,hand -> uQ,step -> vR
open Go.Proofs.YtdjjmoenpjlfeaaGreatDoor.StepK renaming eval -> yI,step -> yW
open Go.Proofs.YtdjjmoenpjlfeaaGreatDoor.Tr renaming flat -> kc,len_flat -> jY,size -> wk
open Go.Region renaming wanted -> zX
open Go.Result renaming andThen_ok -> zD
open Go.RowKit.Below renaming refl -> zY
open Go.Sem renaming run_bind -> zJ
open Go.Value renaming cells -> jL,pointer -> zz
open Int renaming add_mul_emod_self_left -> wE,emod_eq_of_lt -> jR,emod_lt_of_pos -> fe,le_refl -> qs,lt_of_le_of_lt -> fa,natCast_nonneg -> qh,tmod_lt_of_pos -> fd,toNat_natCast -> zS
open List renaming all_eq_true -> yH,append_assoc -> zB,append_nil -> yE,drop_eq_getElem_cons -> xR,drop_eq_nil_of_le -> qp,drop_left -> jC,drop_zero -> k9,eq_of_mem_replicate -> uw,foldl_append -> kV,getD -> zx,getD_eq_getElem?_getD -> zH,getElem?_eq_getElem -> zR,getElem?_map -> yB,getElem_map -> fK,getElem_mem -> qc,getElem_of_mem -> wc,getElem_range -> fb,length -> zp,length_append -> zl,length_cons -> yT,length_drop -> yY,length_eq_zero_iff -> ks,length_map -> qY,length_replicate -> qf,length_singleton -> qy,length_take -> zP,map_append -> xX,mem_append -> yJ,mem_cons -> zE,mem_map_of_mem -> uu,mem_singleton -> zQ,nil_append -> qn,not_mem_nil -> zU,range -> xQ,replicate -> zg,replicate_append_replicate -> kj,set_append_right -> qW,take_left -> qQ,take_length -> yX,take_succ_eq_append_getElem -> zN
open Nat renaming add_sub_cancel -> fc,ble -> xM,blt -> zO,le_of_ble_eq_true -> zb,le_refl -> zu,le_succ -> uZ,le_trans -> zL,lt_of_lt_of_le -> zF,lt_succ_self -> qw,mod_eq_of_lt -> qg,sub_self -> vD,zero_add -> xV,zero_le -> zk
open Option.some renaming inj -> yP
open Prod.mk renaming injEq -> yL
open True renaming intro -> kf
open UInt8 renaming ofNat -> zM,toNat_lt -> vK
open Go Go.RowKit
namespace Go.Proofs.YtdjjmoenpjlfeaaGreatDoor
section
def lvA(x0:Int)(x1:Int)(x2:Int)(x3:Int)(x4:Int)(x5:Int)(x6:Int)(x7:Int)(x8:Int)(x9:Int)(xf:Int)(xe:Int)(m1:Int)(m2:Bool)(m3:Int)(m4:Int)(m5:Int)(s1:List nd.T)(s2:Int)(s3:Int)(s4:List UInt8)(s5:Int)(s6:Int)(s7:List mv.T)(xd:Int)(xc:Int)(xb:Int)(w1:Int)(w2:Int)(xg:List Int)(xa:List UInt8):List V:=[⟨i64,x0⟩,⟨i64,x1⟩,⟨i64,x2⟩,⟨i64,x3⟩,⟨i64,x4⟩,⟨i64,x5⟩,⟨i64,x6⟩,⟨i64,x7⟩,⟨i64,x8⟩,⟨i64,x9⟩,⟨i64,xf⟩,⟨i64,xe⟩,⟨i64,m1⟩,⟨.bool,m2⟩,⟨i64,m3⟩,⟨i64,m4⟩,⟨i64,m5⟩,⟨.slice nd,s1⟩,⟨i64,s2⟩,⟨i64,s3⟩,⟨.str,s4⟩,⟨i64,s5⟩,⟨i64,s6⟩,⟨.slice mv,s7⟩,⟨i64,xd⟩,⟨i64,xc⟩,⟨i64,xb⟩,⟨i64,w1⟩,⟨i64,w2⟩,⟨.lit,.slice none 0 0⟩,⟨u8,zx (α:=UInt8) xa 0 0⟩,⟨u8,zx (α:=UInt8) xa 1 0⟩,⟨u8,zx (α:=UInt8) xa 2 0⟩,⟨u8,zx (α:=UInt8) xa 3 0⟩,⟨u8,zx (α:=UInt8) xa 4 0⟩,⟨u8,zx (α:=UInt8) xa 5 0⟩,⟨u8,zx (α:=UInt8) xa 6 0⟩,⟨u8,zx (α:=UInt8) xa 7 0⟩,⟨u8,zx (α:=UInt8) xa 8 0⟩,⟨u8,zx (α:=UInt8) xa 9 0⟩,⟨u8,zx (α:=UInt8) xa 10 0⟩,⟨u8,zx (α:=UInt8) xa 11 0⟩,⟨u8,zx (α:=UInt8) xa 12 0⟩,⟨u8,zx (α:=UInt8) xa 13 0⟩,⟨u8,zx (α:=UInt8) xa 14 0⟩,⟨u8,zx (α:=UInt8) xa 15 0⟩,⟨u8,zx (α:=UInt8) xa 16 0⟩,⟨u8,zx (α:=UInt8) xa 17 0⟩,⟨u8,zx (α:=UInt8) xa 18 0⟩,⟨u8,zx (α:=UInt8) xa 19 0⟩,⟨u8,zx (α:=UInt8) xa 20 0⟩,⟨u8,zx (α:=UInt8) xa 21 0⟩,⟨u8,zx (α:=UInt8) xa 22 0⟩,⟨u8,zx (α:=UInt8) xa 23 0⟩,⟨u8,zx (α:=UInt8) xa 24 0⟩,⟨u8,zx (α:=UInt8) xa 25 0⟩,⟨u8,zx (α:=UInt8) xa 26 0⟩,⟨u8,zx (α:=UInt8) xa 27 0⟩,⟨u8,zx (α:=UInt8) xa 28 0⟩,⟨u8,zx (α:=UInt8) xa 29 0⟩,⟨u8,zx (α:=UInt8) xa 30 0⟩,⟨u8,zx (α:=UInt8) xa 31 0⟩]
def lvB(x0:Int)(x1:Int)(x2:Int)(x3:Int)(x4:Int)(x5:Int)(x6:Int)(x7:Int)(x8:Int)(x9:Int)(xg:Int)(xf:Int)(m1:Int)(m2:Bool)(m3:Int)(m4:Int)(m5:Int)(s1:List nd.T)(s2:Int)(s3:Int)(s4:List UInt8)(s5:Int)(s6:Int)(s7:List mv.T)(xe:Int)(xc:Int)(xb:Int)(w1:Int)(w2:Int)(xd:List Int)(xa:List UInt8):List V:=[⟨i64,x0⟩,⟨i64,x1⟩,⟨i64,x2⟩,⟨i64,x3⟩,⟨i64,x4⟩,⟨i64,x5⟩,⟨i64,x6⟩,⟨i64,x7⟩,⟨i64,x8⟩,⟨i64,x9⟩,⟨i64,xg⟩,⟨i64,xf⟩,⟨i64,m1⟩,⟨.bool,m2⟩,⟨i64,m3⟩,⟨i64,m4⟩,⟨i64,m5⟩,⟨.slice nd,s1⟩,⟨i64,s2⟩,⟨i64,s3⟩,⟨.str,s4⟩,⟨i64,s5⟩,⟨i64,s6⟩,⟨.slice mv,s7⟩,⟨i64,xe⟩,⟨i64,xc⟩,⟨i64,xb⟩,⟨i64,w1⟩,⟨i64,w2⟩,⟨ints,xd⟩,⟨u8,zx (α:=UInt8) xa 0 0⟩,⟨u8,zx (α:=UInt8) xa 1 0⟩,⟨u8,zx (α:=UInt8) xa 2 0⟩,⟨u8,zx (α:=UInt8) xa 3 0⟩,⟨u8,zx (α:=UInt8) xa 4 0⟩,⟨u8,zx (α:=UInt8) xa 5 0⟩,⟨u8,zx (α:=UInt8) xa 6 0⟩,⟨u8,zx (α:=UInt8) xa 7 0⟩,⟨u8,zx (α:=UInt8) xa 8 0⟩,⟨u8,zx (α:=UInt8) xa 9 0⟩,⟨u8,zx (α:=UInt8) xa 10 0⟩,⟨u8,zx (α:=UInt8) xa 11 0⟩,⟨u8,zx (α:=UInt8) xa 12 0⟩,⟨u8,zx (α:=UInt8) xa 13 0⟩,⟨u8,zx (α:=UInt8) xa 14 0⟩,⟨u8,zx (α:=UInt8) xa 15 0⟩,⟨u8,zx (α:=UInt8) xa 16 0⟩,⟨u8,zx (α:=UInt8) xa 17 0⟩,⟨u8,zx (α:=UInt8) xa 18 0⟩,⟨u8,zx (α:=UInt8) xa 19 0⟩,⟨u8,zx (α:=UInt8) xa 20 0⟩,⟨u8,zx (α:=UInt8) xa 21 0⟩,⟨u8,zx (α:=UInt8) xa 22 0⟩,⟨u8,zx (α:=UInt8) xa 23 0⟩,⟨u8,zx (α:=UInt8) xa 24 0⟩,⟨u8,zx (α:=UInt8) xa 25 0⟩,⟨u8,zx (α:=UInt8) xa 26 0⟩,⟨u8,zx (α:=UInt8) xa 27 0⟩,⟨u8,zx (α:=UInt8) xa 28 0⟩,⟨u8,zx (α:=UInt8) xa 29 0⟩,⟨u8,zx (α:=UInt8) xa 30 0⟩,⟨u8,zx (α:=UInt8) xa 31 0⟩]
def lvs(l:lt.T):List V:=lvA l.1 l.2.1 l.2.2.1 l.2.2.2.1 l.2.2.2.2.1 l.2.2.2.2.2.1 l.2.2.2.2.2.2.1 l.2.2.2.2.2.2.2.1 l.2.2.2.2.2.2.2.2.1 l.2.2.2.2.2.2.2.2.2.1 l.2.2.2.2.2.2.2.2.2.2.1 l.2.2.2.2.2.2.2.2.2.2.2.1 l.2.2.2.2.2.2.2.2.2.2.2.2.1.1 l.2.2.2.2.2.2.2.2.2.2.2.2.1.2.1 l.2.2.2.2.2.2.2.2.2.2.2.2.1.2.2.1 l.2.2.2.2.2.2.2.2.2.2.2.2.1.2.2.2.1 l.2.2.2.2.2.2.2.2.2.2.2.2.1.2.2.2.2.1 l.2.2.2.2.2.2.2.2.2.2.2.2.2.1.1 l.2.2.2.2.2.2.2.2.2.2.2.2.2.1.2.1 l.2.2.2.2.2.2.2.2.2.2.2.2.2.1.2.2.1 l.2.2.2.2.2.2.2.2.2.2.2.2.2.1.2.2.2.1 l.2.2.2.2.2.2.2.2.2.2.2.2.2.1.2.2.2.2.1 l.2.2.2.2.2.2.2.2.2.2.2.2.2.1.2.2.2.2.2.1 l.2.2.2.2.2.2.2.2.2.2.2.2.2.1.2.2.2.2.2.2.1 l.2.2.2.2.2.2.2.2.2.2.2.2.2.2.1 l.2.2.2.2.2.2.2.2.2.2.2.2.2.2.2.1 l.2.2.2.2.2.2.2.2.2.2.2.2.2.2.2.2.1 l.2.2.2.2.2.2.2.2.2.2.2.2.2.2.2.2.2.1.1 l.2.2.2.2.2.2.2.2.2.2.2.2.2.2.2.2.2.1.2.1 l.2.2.2.2.2.2.2.2.2.2.2.2.2.2.2.2.2.2.1 l.2.2.2.2.2.2.2.2.2.2.2.2.2.2.2.2.2.2.2.1
def rdL(fx:Nat->Nat)(ls:List V)(b:List UInt8):Owns:=[(0,some (.box lt ltZ)),(1,some (.hbox 42 ls)),(2,some (.box bs b)),(3,some (.hbox 132 [⟨.hptr,((1:Nat),(0:Nat))⟩,⟨.lit,zc1 fx⟩,⟨.bool,false⟩])),(4,some (.hbox 96 [⟨.hptr,((3:Nat),(0:Nat))⟩]))]
def rdE(fx:Nat->Nat)(l:lt.T)(b:List UInt8):Owns:=rdL fx (lvs l) b
def rdF(fx:Nat->Nat)(l:lt.T)(b:List UInt8):Owns:=rdL fx (lvB l.1 l.2.1 l.2.2.1 l.2.2.2.1 l.2.2.2.2.1 l.2.2.2.2.2.1 l.2.2.2.2.2.2.1 l.2.2.2.2.2.2.2.1 l.2.2.2.2.2.2.2.2.1 l.2.2.2.2.2.2.2.2.2.1 l.2.2.2.2.2.2.2.2.2.2.1 l.2.2.2.2.2.2.2.2.2.2.2.1 l.2.2.2.2.2.2.2.2.2.2.2.2.1.1 l.2.2.2.2.2.2.2.2.2.2.2.2.1.2.1 l.2.2.2.2.2.2.2.2.2.2.2.2.1.2.2.1 l.2.2.2.2.2.2.2.2.2.2.2.2.1.2.2.2.1 l.2.2.2.2.2.2.2.2.2.2.2.2.1.2.2.2.2.1 l.2.2.2.2.2.2.2.2.2.2.2.2.2.1.1 l.2.2.2.2.2.2.2.2.2.2.2.2.2.1.2.1 l.2.2.2.2.2.2.2.2.2.2.2.2.2.1.2.2.1 l.2.2.2.2.2.2.2.2.2.2.2.2.2.1.2.2.2.1 l.2.2.2.2.2.2.2.2.2.2.2.2.2.1.2.2.2.2.1 l.2.2.2.2.2.2.2.2.2.2.2.2.2.1.2.2.2.2.2.1 l.2.2.2.2.2.2.2.2.2.2.2.2.2.1.2.2.2.2.2.2.1 l.2.2.2.2.2.2.2.2.2.2.2.2.2.2.1 l.2.2.2.2.2.2.2.2.2.2.2.2.2.2.2.1 l.2.2.2.2.2.2.2.2.2.2.2.2.2.2.2.2.1 l.2.2.2.2.2.2.2.2.2.2.2.2.2.2.2.2.2.1.1 l.2.2.2.2.2.2.2.2.2.2.2.2.2.2.2.2.2.1.2.1 l.2.2.2.2.2.2.2.2.2.2.2.2.2.2.2.2.2.2.1 l.2.2.2.2.2.2.2.2.2.2.2.2.2.2.2.2.2.2.2.1) b
def kL:Kn:={ dK with H:=[42,132,96] }
theorem zaI:KnOk zf dG kL:=⟨zd2,zdu,.nil,zfr,.nil⟩
set_option maxHeartbeats 4000000 in
theorem zpR{w1:zj}{X:Ownr}(hX:X.Ok w1)(hG:X.G=dG)(hK:X.K=5)(fx:Nat->Nat)(l:lt.T)(b:List UInt8)(n:Nat)(hn:n<=b.length)(nx:Nat)(x1:nx=5\/nx=6\/nx=7\/nx=8):
  AWP zf w1 X 30 (fW.body.get rfl) ⟨[(0,⟨i64,(n:Int)⟩),(1,⟨.hptr,((4:Nat),(0:Nat))⟩),(2,⟨.optr bs,⟨2,bs,.here⟩⟩)],rdE fx l b,nx⟩
   (λe' Y=>(e'=.normal\/e'=.ret)/\(λv E x2=>v=⟨bs,b.take n⟩/\E=rdE fx l (b.drop n)/\x2=nx) (rvOf fW.results.toList Y) Y.E Y.nx):=by
 have x0:KnOk zf X.G kL:=by rw[hG];exact zaI
 have c1:¬((n:Int)>((b.length:Nat):Int)):=o_;rcases x1 with rfl|rfl|rfl|rfl
 .change AWP _ _ _ _ _ _ _;refine zaa (zaa (zab x0 ?_));refine zaa (zaa ?_);refine zdx (.cons (zeE _ _ rfl)<|.cons (zeE _ _ rfl)<|.cons (.refl _)<|.cons (eqR2 _ _ rfl)<|.cons (.refl _)<|.cons (.refl _)<|.cons (.refl _)<|.cons (.refl _)<|.cons (.refl _)<|.cons (.refl _)<|.cons (.refl _)<|.cons (.refl _)<|.cons (eqR2 _ _ rfl)<|.cons (.refl _) .nil) dM hX x0 11 (by kernel_rfl) rfl rfl ?_ ?_ ?_
  .exact⟨λh=>h,λh=>⟨h,h⟩,λh=>h⟩
  .trivial
  refine zak (Y':=⟨[(0,⟨i64,(n:Int)⟩),(1,⟨.hptr,((4:Nat),(0:Nat))⟩),(2,⟨.optr bs,⟨2,bs,.here⟩⟩)],rdE fx l b,5⟩) ⟨⟨rfl,rfl,rfl,t_⟩,⟨rfl,rfl,rfl,?_,rfl,t_⟩,rfl,rfl⟩ ?_ (hk:=by rw[hK];exact zb rfl)
  .refine congrArg (λz=>some (OObj.hbox 132 [⟨.hptr,((1:Nat),(0:Nat))⟩,⟨.lit,zc1 fx⟩,⟨.bool,z⟩])) ?_;exact decide_eq_false c1
  refine zaa (zaa (zaj ?_));refine xY (zeE _ _ rfl) hX x0 rfl t_ ?_;refine zat 1 x0 ?_;refine xY (eqR2 _ _ rfl) hX x0 rfl t_ ?_;refine zau x0 ?_;refine zae rfl (λhb=>?_) (λ_=>?_)
  .cases (show false=true from hb)
  apply zaf;have z1:(0:Int)<=(n:Int):=o_;have z2:(n:Int)<=((b.length:Nat):Int):=o_;have z3:((b.length:Nat):Int)<=((b.length:Nat):Int):=qs _
  iterate 2 (refine zaa (zaa (zab x0 ?_ (hp:=by exact⟨z1,z2⟩))))
  refine zaa (zaa (zab x0 ?_));refine zak (Y':=⟨[(4,⟨bs,b.take n⟩)],rdE fx l (b.drop n),5⟩) ⟨⟨rfl,t_⟩,⟨rfl,rfl,rfl,rfl,rfl,t_⟩,rfl,rfl⟩ ?_ (hk:=by rw[hK];exact zb rfl);exact zC ⟨.inr rfl,rfl,rfl,rfl⟩
 .change AWP _ _ _ _ _ _ _;refine zaa (zaa (zab x0 ?_));refine zaa (zaa ?_);refine zdx (.cons (zeE _ _ rfl)<|.cons (zeE _ _ rfl)<|.cons (.refl _)<|.cons (eqR2 _ _ rfl)<|.cons (.refl _)<|.cons (.refl _)<|.cons (.refl _)<|.cons (.refl _)<|.cons (.refl _)<|.cons (.refl _)<|.cons (.refl _)<|.cons (.refl _)<|.cons (eqR2 _ _ rfl)<|.cons (.refl _) .nil) dM hX x0 11 (by kernel_rfl) rfl rfl ?_ ?_ ?_
  .exact⟨λh=>h,λh=>⟨h,h⟩,λh=>h⟩
  .trivial
  refine zak (Y':=⟨[(0,⟨i64,(n:Int)⟩),(1,⟨.hptr,((4:Nat),(0:Nat))⟩),(2,⟨.optr bs,⟨2,bs,.here⟩⟩)],rdE fx l b,6⟩) ⟨⟨rfl,rfl,rfl,t_⟩,⟨rfl,rfl,rfl,?_,rfl,t_⟩,rfl,rfl⟩ ?_ (hk:=by rw[hK];exact zb rfl)
  .refine congrArg (λz=>some (OObj.hbox 132 [⟨.hptr,((1:Nat),(0:Nat))⟩,⟨.lit,zc1 fx⟩,⟨.bool,z⟩])) ?_;exact decide_eq_false c1
  refine zaa (zaa (zaj ?_));refine xY (zeE _ _ rfl) hX x0 rfl t_ ?_;refine zat 1 x0 ?_;refine xY (eqR2 _ _ rfl) hX x0 rfl t_ ?_;refine zau x0 ?_;refine zae rfl (λhb=>?_) (λ_=>?_)
  .cases (show false=true from hb)
  apply zaf;have z1:(0:Int)<=(n:Int):=o_;have z2:(n:Int)<=((b.length:Nat):Int):=o_;have z3:((b.length:Nat):Int)<=((b.length:Nat):Int):=qs _
  iterate 2 (refine zaa (zaa (zab x0 ?_ (hp:=by exact⟨z1,z2⟩))))
  refine zaa (zaa (zab x0 ?_));refine zak (Y':=⟨[(4,⟨bs,b.take n⟩)],rdE fx l (b.drop n),6⟩) ⟨⟨rfl,t_⟩,⟨rfl,rfl,rfl,rfl,rfl,t_⟩,rfl,rfl⟩ ?_ (hk:=by rw[hK];exact zb rfl);exact zC ⟨.inr rfl,rfl,rfl,rfl⟩
 .change AWP _ _ _ _ _ _ _;refine zaa (zaa (zab x0 ?_));refine zaa (zaa ?_);refine zdx (.cons (zeE _ _ rfl)<|.cons (zeE _ _ rfl)<|.cons (.refl _)<|.cons (eqR2 _ _ rfl)<|.cons (.refl _)<|.cons (.refl _)<|.cons (.refl _)<|.cons (.refl _)<|.cons (.refl _)<|.cons (.refl _)<|.cons (.refl _)<|.cons (.refl _)<|.cons (eqR2 _ _ rfl)<|.cons (.refl _) .nil) dM hX x0 11 (by kernel_rfl) rfl rfl ?_ ?_ ?_
  .exact⟨λh=>h,λh=>⟨h,h⟩,λh=>h⟩
  .trivial
  refine zak (Y':=⟨[(0,⟨i64,(n:Int)⟩),(1,⟨.hptr,((4:Nat),(0:Nat))⟩),(2,⟨.optr bs,⟨2,bs,.here⟩⟩)],rdE fx l b,7⟩) ⟨⟨rfl,rfl,rfl,t_⟩,⟨rfl,rfl,rfl,?_,rfl,t_⟩,rfl,rfl⟩ ?_ (hk:=by rw[hK];exact zb rfl)
  .refine congrArg (λz=>some (OObj.hbox 132 [⟨.hptr,((1:Nat),(0:Nat))⟩,⟨.lit,zc1 fx⟩,⟨.bool,z⟩])) ?_;exact decide_eq_false c1
  refine zaa (zaa (zaj ?_));refine xY (zeE _ _ rfl) hX x0 rfl t_ ?_;refine zat 1 x0 ?_;refine xY (eqR2 _ _ rfl) hX x0 rfl t_ ?_;refine zau x0 ?_;refine zae rfl (λhb=>?_) (λ_=>?_)
  .cases (show false=true from hb)
  apply zaf;have z1:(0:Int)<=(n:Int):=o_;have z2:(n:Int)<=((b.length:Nat):Int):=o_;have z3:((b.length:Nat):Int)<=((b.length:Nat):Int):=qs _
  iterate 2 (refine zaa (zaa (zab x0 ?_ (hp:=by exact⟨z1,z2⟩))))
  refine zaa (zaa (zab x0 ?_));refine zak (Y':=⟨[(4,⟨bs,b.take n⟩)],rdE fx l (b.drop n),7⟩) ⟨⟨rfl,t_⟩,⟨rfl,rfl,rfl,rfl,rfl,t_⟩,rfl,rfl⟩ ?_ (hk:=by rw[hK];exact zb rfl);exact zC ⟨.inr rfl,rfl,rfl,rfl⟩
 .change AWP _ _ _ _ _ _ _;refine zaa (zaa (zab x0 ?_));refine zaa (zaa ?_);refine zdx (.cons (zeE _ _ rfl)<|.cons (zeE _ _ rfl)<|.cons (.refl _)<|.cons (eqR2 _ _ rfl)<|.cons (.refl _)<|.cons (.refl _)<|.cons (.refl _)<|.cons (.refl _)<|.cons (.refl _)<|.cons (.refl _)<|.cons (.refl _)<|.cons (.refl _)<|.cons (eqR2 _ _ rfl)<|.cons (.refl _) .nil) dM hX x0 11 (by kernel_rfl) rfl rfl ?_ ?_ ?_
  .exact⟨λh=>h,λh=>⟨h,h⟩,λh=>h⟩
  .trivial
  refine zak (Y':=⟨[(0,⟨i64,(n:Int)⟩),(1,⟨.hptr,((4:Nat),(0:Nat))⟩),(2,⟨.optr bs,⟨2,bs,.here⟩⟩)],rdE fx l b,8⟩) ⟨⟨rfl,rfl,rfl,t_⟩,⟨rfl,rfl,rfl,?_,rfl,t_⟩,rfl,rfl⟩ ?_ (hk:=by rw[hK];exact zb rfl)
  .refine congrArg (λz=>some (OObj.hbox 132 [⟨.hptr,((1:Nat),(0:Nat))⟩,⟨.lit,zc1 fx⟩,⟨.bool,z⟩])) ?_;exact decide_eq_false c1
  refine zaa (zaa (zaj ?_));refine xY (zeE _ _ rfl) hX x0 rfl t_ ?_;refine zat 1 x0 ?_;refine xY (eqR2 _ _ rfl) hX x0 rfl t_ ?_;refine zau x0 ?_;refine zae rfl (λhb=>?_) (λ_=>?_)
  .cases (show false=true from hb)
  apply zaf;have z1:(0:Int)<=(n:Int):=o_;have z2:(n:Int)<=((b.length:Nat):Int):=o_;have z3:((b.length:Nat):Int)<=((b.length:Nat):Int):=qs _
  iterate 2 (refine zaa (zaa (zab x0 ?_ (hp:=by exact⟨z1,z2⟩))))
  refine zaa (zaa (zab x0 ?_));refine zak (Y':=⟨[(4,⟨bs,b.take n⟩)],rdE fx l (b.drop n),8⟩) ⟨⟨rfl,t_⟩,⟨rfl,rfl,rfl,rfl,rfl,t_⟩,rfl,rfl⟩ ?_ (hk:=by rw[hK];exact zb rfl);exact zC ⟨.inr rfl,rfl,rfl,rfl⟩
def zls(fx:Nat->Nat)(l:lt.T)(b:List UInt8)(n nx:Nat)(v:V)(E:Owns)(x0:Nat):Prop:=v=⟨bs,b.take n⟩/\E=rdE fx l (b.drop n)/\x0=nx
theorem zhM{w1:zj}{X:Ownr}(hX:X.Ok w1)(hG:X.G=dG)(hK:X.K=5)(x1:X.ρ=none)(hD:X.D=[])(fx:Nat->Nat)(l:lt.T)(b:List UInt8)(n:Nat)(hn:n<=b.length)(nx:Nat)(x0:nx=5\/nx=6\/nx=7\/nx=8):
  zc3 zf w1 X 65 30 (frV 0 [⟨i64,(n:Int)⟩,⟨.hptr,((4:Nat),(0:Nat))⟩,⟨.optr bs,⟨2,bs,.here⟩⟩]) (rdE fx l b) nx (zls fx l b n nx):=
 zbP Tryz.func65 rfl rfl (.inr ⟨_,rfl⟩) hD x1 (zpR hX hG hK fx l b n hn nx x0)
set_option maxHeartbeats 4000000 in
theorem zno{w1:zj}{X:Ownr}(hX:X.Ok w1)(hG:X.G=dG)(hK:X.K=5)(fx:Nat->Nat)(l:lt.T)(b:List UInt8)(n:Nat)(hn:n<=b.length):
  AWP zf w1 X 30 (fW.body.get rfl) ⟨[(0,⟨i64,(n:Int)⟩),(1,⟨.hptr,((4:Nat),(0:Nat))⟩),(2,⟨.optr bs,⟨2,bs,.here⟩⟩)],rdF fx l b,6⟩
   (λe' Y=>(e'=.normal\/e'=.ret)/\(λv E x1=>v=⟨bs,b.take n⟩/\E=rdF fx l (b.drop n)/\x1=6) (rvOf fW.results.toList Y) Y.E Y.nx):=by
 have x0:KnOk zf X.G kL:=by rw[hG];exact zaI
 have c1:¬((n:Int)>((b.length:Nat):Int)):=o_;change AWP _ _ _ _ _ _ _;refine zaa (zaa (zab x0 ?_));refine zaa (zaa ?_);refine zdx (.cons (zeE _ _ rfl)<|.cons (zeE _ _ rfl)<|.cons (.refl _)<|.cons (eqR2 _ _ rfl)<|.cons (.refl _)<|.cons (.refl _)<|.cons (.refl _)<|.cons (.refl _)<|.cons (.refl _)<|.cons (.refl _)<|.cons (.refl _)<|.cons (.refl _)<|.cons (eqR2 _ _ rfl)<|.cons (.refl _) .nil) dM hX x0 11 (by kernel_rfl) rfl rfl ?_ ?_ ?_
 .exact⟨λh=>h,λh=>⟨h,h⟩,λh=>h⟩
 .trivial
 refine zak (Y':=⟨[(0,⟨i64,(n:Int)⟩),(1,⟨.hptr,((4:Nat),(0:Nat))⟩),(2,⟨.optr bs,⟨2,bs,.here⟩⟩)],rdF fx l b,6⟩) ⟨⟨rfl,rfl,rfl,t_⟩,⟨rfl,rfl,rfl,?_,rfl,t_⟩,rfl,rfl⟩ ?_ (hk:=by rw[hK];exact zb rfl)
 .refine congrArg (λz=>some (OObj.hbox 132 [⟨.hptr,((1:Nat),(0:Nat))⟩,⟨.lit,zc1 fx⟩,⟨.bool,z⟩])) ?_;exact decide_eq_false c1
 refine zaa (zaa (zaj ?_));refine xY (zeE _ _ rfl) hX x0 rfl t_ ?_;refine zat 1 x0 ?_;refine xY (eqR2 _ _ rfl) hX x0 rfl t_ ?_;refine zau x0 ?_;refine zae rfl (λhb=>?_) (λ_=>?_)
 .cases (show false=true from hb)
 apply zaf;have z1:(0:Int)<=(n:Int):=o_;have z2:(n:Int)<=((b.length:Nat):Int):=o_;have z3:((b.length:Nat):Int)<=((b.length:Nat):Int):=qs _
 iterate 2 (refine zaa (zaa (zab x0 ?_ (hp:=by exact⟨z1,z2⟩))))
 refine zaa (zaa (zab x0 ?_));refine zak (Y':=⟨[(4,⟨bs,b.take n⟩)],rdF fx l (b.drop n),6⟩) ⟨⟨rfl,t_⟩,⟨rfl,rfl,rfl,rfl,rfl,t_⟩,rfl,rfl⟩ ?_ (hk:=by rw[hK];exact zb rfl);exact zC ⟨.inr rfl,rfl,rfl,rfl⟩
def zrZ(fx:Nat->Nat)(l:lt.T)(b:List UInt8)(n:Nat)(v:V)(E:Owns)(x0:Nat):Prop:=v=⟨bs,b.take n⟩/\E=rdF fx l (b.drop n)/\x0=6
theorem zsl{w1:zj}{X:Ownr}(hX:X.Ok w1)(hG:X.G=dG)(hK:X.K=5)(x0:X.ρ=none)(hD:X.D=[])(fx:Nat->Nat)(l:lt.T)(b:List UInt8)(n:Nat)(hn:n<=b.length):
  zc3 zf w1 X 65 30 (frV 0 [⟨i64,(n:Int)⟩,⟨.hptr,((4:Nat),(0:Nat))⟩,⟨.optr bs,⟨2,bs,.here⟩⟩]) (rdF fx l b) 6 (zrZ fx l b n):=
 zbP Tryz.func65 rfl rfl (.inr ⟨_,rfl⟩) hD x0 (zno hX hG hK fx l b n hn)
theorem zp9(y:Int)(h0:0<=y)(h1:y<18446744073709551616):zV 64 (qV.wrap y)=BitVec.ofNat 64 y.toNat:=by
 apply vd;rw[BitVec.toNat_ofInt,xA,zlv];have h4:((2^64:Nat):Int)=18446744073709551616:=rfl;have h5:(2:Nat)^64=18446744073709551616:=rfl;rw[h4,h5];split<;>omega
theorem zkC{v b:Nat}(hv:v<2^56)(hb:b<256):qV.wrap (((zV 64 (qV.wrap (sI v*2^8))|||zV 64 (b:Int)).toNat:Nat):Int)=sI (b+256*v):=by
 have e0:sI v=(v:Int):=by
  unfold sI;have h4:(2:Nat)^64=18446744073709551616:=rfl;have h5:(2:Nat)^56=72057594037927936:=rfl;rw[h5]at hv;rw[vP,xA,h4,qg o_,if_pos o_]
 have h5:(2:Nat)^56=72057594037927936:=rfl;have h8:(2:Int)^8=256:=rfl;have e1:zV 64 (qV.wrap (sI v*2^8))=BitVec.ofNat 64 v <<< 8:=by
  rw[e0,h8,zp9 _ o_ o_];apply vd;rw[BitVec.toNat_shiftLeft,xA,xA,Nat.shiftLeft_eq];have h4:(2:Nat)^64=18446744073709551616:=rfl;rw[h4,qg (show v<18446744073709551616 by omega)];have:((v:Int)*256).toNat=v*2^8:=o_;rw[this]
 have e2:=BitVec.ofInt_natCast 64 b;rw[e1,e2,zug hv hb, <-znm];rfl
theorem zir(x:Int)(w:zj):(xS .shl 3 (.int .i64 x) (.int .u64 8)).run zf w=.ok (.int .i64 (qV.wrap (x*2^8))) w:=by
 simp[xS,Op.shift,IntKind.bits]
theorem zkv(x y:Int)(w:zj):(xS .or 3 (.int .i64 x) (.int .i64 y)).run zf w=.ok (.int .i64 (qV.wrap (((zV 64 x|||zV 64 y).toNat:Nat):Int))) w:=by
 have e:xS .or 3 (.int .i64 x) (.int .i64 y)=Op.intBits .or .i64 x y:=by simp[xS]
 rw[e];rfl
noncomputable def kLN:Kn:={ kL with C:=[(67,ztw)] }
theorem zbg:KnOk zf dG kLN:=⟨zd2,zdu,.cons zpj.up .nil,zfr,.nil⟩
def nuV(b:List UInt8)(n:Nat):Int:=sI (leD (b.take n))
def NNum(fx:Nat->Nat)(l:lt.T)(b:List UInt8)(n nx:Nat)(v:V)(E:Owns)(x0:Nat):Prop:=v=⟨i64,nuV b n⟩/\E=rdE fx l (b.drop n)/\x0=nx
set_option maxHeartbeats 4000000 in
theorem zfc{w1:zj}{X:Ownr}(hX:X.Ok w1)(hG:X.G=dG)(hK:X.K=5)(xa:X.ρ=none)(hD:X.D=[])(fx:Nat->Nat)(x8:∀i,i<5->X.fix i=fx i)(l:lt.T)(b:List UInt8)(n:Nat)(h8:n<=8)(hn:n<=b.length)(nx:Nat)(x9:nx=5\/nx=6\/nx=7):
  zc3 zf w1 X 33 23 (frV 0 [⟨.hptr,((3:Nat),(0:Nat))⟩,⟨i64,(n:Int)⟩]) (rdE fx l b) nx (NNum fx l b n nx):=by
 obtain⟨G',O',K',fix,D',xb,B'⟩:=X;obtain rfl:G'=dG:=hG;obtain rfl:K'=5:=hK;obtain rfl:xb=none:=xa;obtain rfl:D'=[]:=hD;have f2:fx 2=fix 2:=(x8 2 d_).symm;have f4:fx 4=fix 4:=(x8 4 d_).symm;have ht:zc1 fx=Value.func (.func 65) #[] #[.pointer (some ⟨fix 4,0,none⟩),.pointer (some ⟨fix 2,0,none⟩)]:=by unfold zc1 clT pB;rw[f2,f4]
 obtain⟨xs,x3⟩:∃xs,xs=b.take n:=⟨_,rfl⟩;have x7:xs.length=n:=by rw[x3,zP];omega
 have x6:∀k,k<n->leD (xs.drop (n-k))<2^56:=λk hk=>by
  have h1:=zox (xs.drop (n-k));have h2:(xs.drop (n-k)).length<=7:=by rw[yY];omega
  exact zF h1 (zL (Nat.pow_le_pow_right d_ h2) d_)
 have x5:∀k,k<n->leD (xs.drop (n-(k+1)))=(xs.getD (xs.length-1-k) 0).toNat+256*leD (xs.drop (n-k)):=λk hk=>by
  rw[zl8 (show n-(k+1)<xs.length by omega),zH,zR (show xs.length-1-k<xs.length by omega)];have e1:xs.length-1-k=n-(k+1):=o_;simp only[e1,Option.getD_some];rw[show n-(k+1)+1=n-k by omega]
 refine zo9 Tryz.func33 rfl (.inr ⟨_,rfl⟩) rfl rfl ?_;rcases x9 with rfl|rfl|rfl
 .
  iterate 2 (refine vQ (kE hX λW1 x2 Bf1 x0=>?_);refine zab zbg ?_)
  refine vQ (vQ (kE hX λW1 x2 Bf1 x0=>?_));refine zaj ?_;refine zat 2 zbg ?_;refine xY (eqR1 _ _ rfl) x0 zbg rfl t_ ?_;refine xY (zhe _ _ rfl) x0 zbg rfl t_ ?_;refine zat 1 zbg ?_;refine kW (m:=30) 5 x0 rfl rfl uB rfl rfl (rc:=[]) (cp:=[4,2]) (congrArg (λz=>(⟨.lit,z⟩:V)) ht) rfl [] [⟨.hptr,((4:Nat),(0:Nat))⟩,⟨.optr bs,⟨2,bs,.here⟩⟩] rfl rfl rfl (N:=zls fx l b n 6) (E1:=rdE fx l b)
   (λw3 X3 c1 c2 c3 c4 c5 _ _ _=>zhM c1 c2 c3 c4 c5 fx l b n hn 6 d_) (λv E nx h=>?_) (λv E nx h=>?_)
  .obtain⟨rfl,rfl,rfl⟩:=h;rfl
  obtain⟨rfl,rfl,rfl⟩:=h;refine zau zbg ?_;show AWPM _ _ _ _ _ ⟨(14,⟨.clo _ zhh,(b.take n,())⟩)::_,_,_⟩ _;rw[<-x3];refine g9 ?_;refine wM hX rfl gJ [15,16] rfl rfl rfl n (znb xs) (λ_=>rfl) (by have:=zfv xs;rw[x7]at this;exact this) 6 (λi hi=>?_) [(0,⟨.hptr,((3:Nat),(0:Nat))⟩),(5,⟨.optr i64,⟨5,i64,.here⟩⟩)] ⟨rfl,rfl,t_⟩ rfl (λk=>(5,some (.box i64 (sI (leD (xs.drop (n-k))))))::rdE fx l (b.drop n)) 6 (zu _) (by show 5<=6;decide) ⟨⟨rfl,rfl,t_⟩,⟨?_,rfl,rfl,rfl,rfl,rfl,t_⟩,rfl,rfl⟩ (λk=>rfl)
   (λ_=>True) (λ_=>False) trivial
   (λk=>⟨[(7,⟨u8,xs.getD (xs.length-1-k) 0⟩),(0,⟨.hptr,((3:Nat),(0:Nat))⟩),(5,⟨.optr i64,⟨5,i64,.here⟩⟩)],(5,some (.box i64 (sI (leD (xs.drop (n-k))))))::rdE fx l (b.drop n),6⟩) (λk=>zb rfl) (λk=>[]) (λW O' Bf fix l x4 _ k hk hA=>?_) (λW O' Bf fix l x4 _ k hk hA=>?_) (λhA=>?_) (λk hk hA hR=>hR.elim)
  .match i,hi with
   |0,_=>exact⟨_,rfl,rfl⟩
   |1,_=>exact⟨_,rfl,rfl⟩
   |2,_=>exact⟨_,rfl,rfl⟩
   |3,_=>exact⟨_,rfl,rfl⟩
   |4,_=>exact⟨_,rfl,rfl⟩
   |5,_=>exact⟨_,rfl,rfl⟩
  .show some (OObj.box i64 _)=some (OObj.box i64 (sI (leD (xs.drop (n-0)))));rw[show xs.drop (n-0)=[] from qp o_];rfl
  .refine zab zbg ?_;exact⟨rfl,⟨rfl,rfl,rfl,t_⟩,⟨rfl,rfl,rfl,rfl,rfl,rfl,t_⟩,rfl,rfl⟩
  .apply zaq;have x1:=zkC (x6 k hk) (vK (xs.getD (xs.length-1-k) 0));rw[<-x5 k hk]at x1;generalize sI (leD (xs.drop (n-(k+1))))=y1 at x1;generalize sI (leD (xs.drop (n-k)))=y0 at x1;generalize xs.getD (xs.length-1-k) 0=by0 at x1;refine zaj ?_;refine zat 1 zbg ?_;refine ku rfl (by intro c e;cases e) rfl rfl ⟨i64,qV.wrap (y0*2^8)⟩ rfl (λU a w hs=>?_) ?_
   .have h1:=jn (k:=.i64) (hs.ops (.tmp 17));refine⟨_,?_,qF (k:=.i64)⟩;show(do pure (.value (<-xS .shl _ (a.eval (.tmp 17)) _)):Sem Next).run _ _=_;rw[h1];exact za7 (zir _ w)
   refine zat 2 zbg ?_;refine ku rfl (by intro c e;cases e) rfl rfl ⟨i64,y1⟩ rfl (λU a w hs=>?_) ?_
   .have h1:a.eval (.tmp 18)=.int .i64 (qV.wrap (y0*2^8)):=jn (k:=.i64) (hs.ops (.tmp 18));have h2:a.eval (.tmp 20)=.int .i64 ((by0.toNat:Nat):Int):=jn (k:=.i64) (hs.ops (.tmp 20));refine⟨.int .i64 y1,?_,qF (k:=.i64)⟩;show(do pure (.value (<-xS .or _ (a.eval (.tmp 18)) (a.eval (.tmp 20)))):Sem Next).run _ _=_;rw[h1,h2];refine za7 ?_;rw[zkv,x1]
   refine zau zbg ?_;exact .inl ⟨rfl,t_,⟨t_,⟨rfl,rfl,rfl,rfl,rfl,rfl,t_⟩,rfl,rfl⟩⟩
  .refine vQ (kE hX λW1 x2 Bf1 x0=>?_);refine zab zbg ?_;rw[vD,k9,x3];refine kE hX λW1 x2 Bf1 x0=>?_;refine zak (Y':=⟨[(4,⟨i64,nuV b n⟩)],rdE fx l (b.drop n),5⟩) ⟨⟨rfl,t_⟩,⟨rfl,rfl,rfl,rfl,rfl,t_⟩,rfl,rfl⟩ ?_;exact zC ⟨.inr rfl,rfl,rfl,rfl⟩
 .
  iterate 2 (refine vQ (kE hX λW1 x2 Bf1 x0=>?_);refine zab zbg ?_)
  refine vQ (vQ (kE hX λW1 x2 Bf1 x0=>?_));refine gI [(0,0),(1,1),(2,2),(3,3),(4,4),(6,5)] 6 ?_ rfl (zb rfl);refine zaj ?_;refine zat 2 zbg ?_;refine xY (eqR1 _ _ rfl) x0 zbg rfl t_ ?_;refine xY (zhe _ _ rfl) x0 zbg rfl t_ ?_;refine zat 1 zbg ?_;refine kW (m:=30) 5 x0 rfl rfl uB rfl rfl (rc:=[]) (cp:=[4,2]) (congrArg (λz=>(⟨.lit,z⟩:V)) ht) rfl [] [⟨.hptr,((4:Nat),(0:Nat))⟩,⟨.optr bs,⟨2,bs,.here⟩⟩] rfl rfl rfl (N:=zls fx l b n 6) (E1:=rdE fx l b)
   (λw3 X3 c1 c2 c3 c4 c5 _ _ _=>zhM c1 c2 c3 c4 c5 fx l b n hn 6 d_) (λv E nx h=>?_) (λv E nx h=>?_)
  .obtain⟨rfl,rfl,rfl⟩:=h;rfl
  obtain⟨rfl,rfl,rfl⟩:=h;refine zau zbg ?_;show AWPM _ _ _ _ _ ⟨(14,⟨.clo _ zhh,(b.take n,())⟩)::_,_,_⟩ _;rw[<-x3];refine g9 ?_;refine wM hX rfl gJ [15,16] rfl rfl rfl n (znb xs) (λ_=>rfl) (by have:=zfv xs;rw[x7]at this;exact this) 6 (λi hi=>?_) [(0,⟨.hptr,((3:Nat),(0:Nat))⟩),(5,⟨.optr i64,⟨5,i64,.here⟩⟩)] ⟨rfl,rfl,t_⟩ rfl (λk=>(5,some (.box i64 (sI (leD (xs.drop (n-k))))))::rdE fx l (b.drop n)) 6 (zu _) (by show 5<=6;decide) ⟨⟨rfl,rfl,t_⟩,⟨?_,rfl,rfl,rfl,rfl,rfl,t_⟩,rfl,rfl⟩ (λk=>rfl)
   (λ_=>True) (λ_=>False) trivial
   (λk=>⟨[(7,⟨u8,xs.getD (xs.length-1-k) 0⟩),(0,⟨.hptr,((3:Nat),(0:Nat))⟩),(5,⟨.optr i64,⟨5,i64,.here⟩⟩)],(5,some (.box i64 (sI (leD (xs.drop (n-k))))))::rdE fx l (b.drop n),6⟩) (λk=>zb rfl) (λk=>[]) (λW O' Bf fix l x4 _ k hk hA=>?_) (λW O' Bf fix l x4 _ k hk hA=>?_) (λhA=>?_) (λk hk hA hR=>hR.elim)
  .match i,hi with
   |0,_=>exact⟨_,rfl,rfl⟩
   |1,_=>exact⟨_,rfl,rfl⟩
   |2,_=>exact⟨_,rfl,rfl⟩
   |3,_=>exact⟨_,rfl,rfl⟩
   |4,_=>exact⟨_,rfl,rfl⟩
   |5,_=>exact⟨_,rfl,rfl⟩
  .show some (OObj.box i64 _)=some (OObj.box i64 (sI (leD (xs.drop (n-0)))));rw[show xs.drop (n-0)=[] from qp o_];rfl
  .refine zab zbg ?_;exact⟨rfl,⟨rfl,rfl,rfl,t_⟩,⟨rfl,rfl,rfl,rfl,rfl,rfl,t_⟩,rfl,rfl⟩
  .apply zaq;have x1:=zkC (x6 k hk) (vK (xs.getD (xs.length-1-k) 0));rw[<-x5 k hk]at x1;generalize sI (leD (xs.drop (n-(k+1))))=y1 at x1;generalize sI (leD (xs.drop (n-k)))=y0 at x1;generalize xs.getD (xs.length-1-k) 0=by0 at x1;refine zaj ?_;refine zat 1 zbg ?_;refine ku rfl (by intro c e;cases e) rfl rfl ⟨i64,qV.wrap (y0*2^8)⟩ rfl (λU a w hs=>?_) ?_
   .have h1:=jn (k:=.i64) (hs.ops (.tmp 17));refine⟨_,?_,qF (k:=.i64)⟩;show(do pure (.value (<-xS .shl _ (a.eval (.tmp 17)) _)):Sem Next).run _ _=_;rw[h1];exact za7 (zir _ w)
   refine zat 2 zbg ?_;refine ku rfl (by intro c e;cases e) rfl rfl ⟨i64,y1⟩ rfl (λU a w hs=>?_) ?_
   .have h1:a.eval (.tmp 18)=.int .i64 (qV.wrap (y0*2^8)):=jn (k:=.i64) (hs.ops (.tmp 18));have h2:a.eval (.tmp 20)=.int .i64 ((by0.toNat:Nat):Int):=jn (k:=.i64) (hs.ops (.tmp 20));refine⟨.int .i64 y1,?_,qF (k:=.i64)⟩;show(do pure (.value (<-xS .or _ (a.eval (.tmp 18)) (a.eval (.tmp 20)))):Sem Next).run _ _=_;rw[h1,h2];refine za7 ?_;rw[zkv,x1]
   refine zau zbg ?_;exact .inl ⟨rfl,t_,⟨t_,⟨rfl,rfl,rfl,rfl,rfl,rfl,t_⟩,rfl,rfl⟩⟩
  .refine vQ (kE hX λW1 x2 Bf1 x0=>?_);refine zab zbg ?_;rw[vD,k9,x3];refine kE hX λW1 x2 Bf1 x0=>?_;refine zak (Y':=⟨[(4,⟨i64,nuV b n⟩)],rdE fx l (b.drop n),6⟩) ⟨⟨rfl,t_⟩,⟨rfl,rfl,rfl,rfl,rfl,t_⟩,rfl,rfl⟩ ?_;exact zC ⟨.inr rfl,rfl,rfl,rfl⟩
 .
  iterate 2 (refine vQ (kE hX λW1 x2 Bf1 x0=>?_);refine zab zbg ?_)
  refine vQ (vQ (kE hX λW1 x2 Bf1 x0=>?_));refine gI [(0,0),(1,1),(2,2),(3,3),(4,4),(7,5)] 6 ?_ rfl (zb rfl);refine zaj ?_;refine zat 2 zbg ?_;refine xY (eqR1 _ _ rfl) x0 zbg rfl t_ ?_;refine xY (zhe _ _ rfl) x0 zbg rfl t_ ?_;refine zat 1 zbg ?_;refine kW (m:=30) 5 x0 rfl rfl uB rfl rfl (rc:=[]) (cp:=[4,2]) (congrArg (λz=>(⟨.lit,z⟩:V)) ht) rfl [] [⟨.hptr,((4:Nat),(0:Nat))⟩,⟨.optr bs,⟨2,bs,.here⟩⟩] rfl rfl rfl (N:=zls fx l b n 6) (E1:=rdE fx l b)
   (λw3 X3 c1 c2 c3 c4 c5 _ _ _=>zhM c1 c2 c3 c4 c5 fx l b n hn 6 d_) (λv E nx h=>?_) (λv E nx h=>?_)
  .obtain⟨rfl,rfl,rfl⟩:=h;rfl
  obtain⟨rfl,rfl,rfl⟩:=h;refine zau zbg ?_;show AWPM _ _ _ _ _ ⟨(14,⟨.clo _ zhh,(b.take n,())⟩)::_,_,_⟩ _;rw[<-x3];refine g9 ?_;refine wM hX rfl gJ [15,16] rfl rfl rfl n (znb xs) (λ_=>rfl) (by have:=zfv xs;rw[x7]at this;exact this) 6 (λi hi=>?_) [(0,⟨.hptr,((3:Nat),(0:Nat))⟩),(5,⟨.optr i64,⟨5,i64,.here⟩⟩)] ⟨rfl,rfl,t_⟩ rfl (λk=>(5,some (.box i64 (sI (leD (xs.drop (n-k))))))::rdE fx l (b.drop n)) 6 (zu _) (by show 5<=6;decide) ⟨⟨rfl,rfl,t_⟩,⟨?_,rfl,rfl,rfl,rfl,rfl,t_⟩,rfl,rfl⟩ (λk=>rfl)
   (λ_=>True) (λ_=>False) trivial
   (λk=>⟨[(7,⟨u8,xs.getD (xs.length-1-k) 0⟩),(0,⟨.hptr,((3:Nat),(0:Nat))⟩),(5,⟨.optr i64,⟨5,i64,.here⟩⟩)],(5,some (.box i64 (sI (leD (xs.drop (n-k))))))::rdE fx l (b.drop n),6⟩) (λk=>zb rfl) (λk=>[]) (λW O' Bf fix l x4 _ k hk hA=>?_) (λW O' Bf fix l x4 _ k hk hA=>?_) (λhA=>?_) (λk hk hA hR=>hR.elim)
  .match i,hi with
   |0,_=>exact⟨_,rfl,rfl⟩
   |1,_=>exact⟨_,rfl,rfl⟩
   |2,_=>exact⟨_,rfl,rfl⟩
   |3,_=>exact⟨_,rfl,rfl⟩
   |4,_=>exact⟨_,rfl,rfl⟩
   |5,_=>exact⟨_,rfl,rfl⟩
  .show some (OObj.box i64 _)=some (OObj.box i64 (sI (leD (xs.drop (n-0)))));rw[show xs.drop (n-0)=[] from qp o_];rfl
  .refine zab zbg ?_;exact⟨rfl,⟨rfl,rfl,rfl,t_⟩,⟨rfl,rfl,rfl,rfl,rfl,rfl,t_⟩,rfl,rfl⟩
  .apply zaq;have x1:=zkC (x6 k hk) (vK (xs.getD (xs.length-1-k) 0));rw[<-x5 k hk]at x1;generalize sI (leD (xs.drop (n-(k+1))))=y1 at x1;generalize sI (leD (xs.drop (n-k)))=y0 at x1;generalize xs.getD (xs.length-1-k) 0=by0 at x1;refine zaj ?_;refine zat 1 zbg ?_;refine ku rfl (by intro c e;cases e) rfl rfl ⟨i64,qV.wrap (y0*2^8)⟩ rfl (λU a w hs=>?_) ?_
   .have h1:=jn (k:=.i64) (hs.ops (.tmp 17));refine⟨_,?_,qF (k:=.i64)⟩;show(do pure (.value (<-xS .shl _ (a.eval (.tmp 17)) _)):Sem Next).run _ _=_;rw[h1];exact za7 (zir _ w)
   refine zat 2 zbg ?_;refine ku rfl (by intro c e;cases e) rfl rfl ⟨i64,y1⟩ rfl (λU a w hs=>?_) ?_
   .have h1:a.eval (.tmp 18)=.int .i64 (qV.wrap (y0*2^8)):=jn (k:=.i64) (hs.ops (.tmp 18));have h2:a.eval (.tmp 20)=.int .i64 ((by0.toNat:Nat):Int):=jn (k:=.i64) (hs.ops (.tmp 20));refine⟨.int .i64 y1,?_,qF (k:=.i64)⟩;show(do pure (.value (<-xS .or _ (a.eval (.tmp 18)) (a.eval (.tmp 20)))):Sem Next).run _ _=_;rw[h1,h2];refine za7 ?_;rw[zkv,x1]
   refine zau zbg ?_;exact .inl ⟨rfl,t_,⟨t_,⟨rfl,rfl,rfl,rfl,rfl,rfl,t_⟩,rfl,rfl⟩⟩
  .refine vQ (kE hX λW1 x2 Bf1 x0=>?_);refine zab zbg ?_;rw[vD,k9,x3];refine kE hX λW1 x2 Bf1 x0=>?_;refine zak (Y':=⟨[(4,⟨i64,nuV b n⟩)],rdE fx l (b.drop n),7⟩) ⟨⟨rfl,t_⟩,⟨rfl,rfl,rfl,rfl,rfl,t_⟩,rfl,rfl⟩ ?_;exact zC ⟨.inr rfl,rfl,rfl,rfl⟩
theorem zt8(x:Int)(k:Nat)(r:List UInt8):(leB x k++r).take k=leB x k:=by rw[List.take_append_of_le_length (by rw[za0];omega),List.take_of_length_le (by rw[za0];omega)]
theorem zfo(x:Int)(k:Nat)(r:List UInt8):(leB x k++r).drop k=r:=by
 have:=za0 k x;rw[List.drop_append_of_le_length o_,qp o_];rfl
theorem lenB(x:Int)(k:Nat)(r:List UInt8):k<=(leB x k++r).length:=by rw[zl,za0];omega
theorem nu8{x:Int}(h:inR .i64 x)(r:List UInt8):nuV (leB x 8++r) 8=x:=by unfold nuV;rw[zt8];exact znR h
theorem nuk{x:Int}(k:Nat)(hk:k<=4)(h0:0<=x)(h1:x<256^k)(r:List UInt8):nuV (leB x k++r) k=x:=by
 unfold nuV sI;rw[zt8,vP,xA];have h2:=zkN k x;rw[jR h0 h1]at h2;have h3:(256:Int)^k<=4294967296:=by rcases (show k=0\/k=1\/k=2\/k=3\/k=4 by omega) with rfl|rfl|rfl|rfl|rfl<;>decide
 have h4:(2:Nat)^64=18446744073709551616:=rfl;rw[h4];split<;>omega
def upM(m:mv.T)(l:lt.T):lt.T:=(l.1,l.2.1,l.2.2.1,l.2.2.2.1,l.2.2.2.2.1,l.2.2.2.2.2.1,l.2.2.2.2.2.2.1,l.2.2.2.2.2.2.2.1,l.2.2.2.2.2.2.2.2.1,l.2.2.2.2.2.2.2.2.2.1,l.2.2.2.2.2.2.2.2.2.2.1,l.2.2.2.2.2.2.2.2.2.2.2.1,m,l.2.2.2.2.2.2.2.2.2.2.2.2.2.1,l.2.2.2.2.2.2.2.2.2.2.2.2.2.2.1,l.2.2.2.2.2.2.2.2.2.2.2.2.2.2.2.1,l.2.2.2.2.2.2.2.2.2.2.2.2.2.2.2.2.1,l.2.2.2.2.2.2.2.2.2.2.2.2.2.2.2.2.2.1,l.2.2.2.2.2.2.2.2.2.2.2.2.2.2.2.2.2.2.1,l.2.2.2.2.2.2.2.2.2.2.2.2.2.2.2.2.2.2.2.1,())
def upS(s:se.T)(l:lt.T):lt.T:=(l.1,l.2.1,l.2.2.1,l.2.2.2.1,l.2.2.2.2.1,l.2.2.2.2.2.1,l.2.2.2.2.2.2.1,l.2.2.2.2.2.2.2.1,l.2.2.2.2.2.2.2.2.1,l.2.2.2.2.2.2.2.2.2.1,l.2.2.2.2.2.2.2.2.2.2.1,l.2.2.2.2.2.2.2.2.2.2.2.1,l.2.2.2.2.2.2.2.2.2.2.2.2.1,s,l.2.2.2.2.2.2.2.2.2.2.2.2.2.2.1,l.2.2.2.2.2.2.2.2.2.2.2.2.2.2.2.1,l.2.2.2.2.2.2.2.2.2.2.2.2.2.2.2.2.1,l.2.2.2.2.2.2.2.2.2.2.2.2.2.2.2.2.2.1,l.2.2.2.2.2.2.2.2.2.2.2.2.2.2.2.2.2.2.1,l.2.2.2.2.2.2.2.2.2.2.2.2.2.2.2.2.2.2.2.1,())
def upW(w:sp.T)(l:lt.T):lt.T:=(l.1,l.2.1,l.2.2.1,l.2.2.2.1,l.2.2.2.2.1,l.2.2.2.2.2.1,l.2.2.2.2.2.2.1,l.2.2.2.2.2.2.2.1,l.2.2.2.2.2.2.2.2.1,l.2.2.2.2.2.2.2.2.2.1,l.2.2.2.2.2.2.2.2.2.2.1,l.2.2.2.2.2.2.2.2.2.2.2.1,l.2.2.2.2.2.2.2.2.2.2.2.2.1,l.2.2.2.2.2.2.2.2.2.2.2.2.2.1,l.2.2.2.2.2.2.2.2.2.2.2.2.2.2.1,l.2.2.2.2.2.2.2.2.2.2.2.2.2.2.2.1,l.2.2.2.2.2.2.2.2.2.2.2.2.2.2.2.2.1,w,l.2.2.2.2.2.2.2.2.2.2.2.2.2.2.2.2.2.2.1,l.2.2.2.2.2.2.2.2.2.2.2.2.2.2.2.2.2.2.2.1,())
def upC(c:List Int)(l:lt.T):lt.T:=(l.1,l.2.1,l.2.2.1,l.2.2.2.1,l.2.2.2.2.1,l.2.2.2.2.2.1,l.2.2.2.2.2.2.1,l.2.2.2.2.2.2.2.1,l.2.2.2.2.2.2.2.2.1,l.2.2.2.2.2.2.2.2.2.1,l.2.2.2.2.2.2.2.2.2.2.1,l.2.2.2.2.2.2.2.2.2.2.2.1,l.2.2.2.2.2.2.2.2.2.2.2.2.1,l.2.2.2.2.2.2.2.2.2.2.2.2.2.1,l.2.2.2.2.2.2.2.2.2.2.2.2.2.2.1,l.2.2.2.2.2.2.2.2.2.2.2.2.2.2.2.1,l.2.2.2.2.2.2.2.2.2.2.2.2.2.2.2.2.1,l.2.2.2.2.2.2.2.2.2.2.2.2.2.2.2.2.2.1,c,l.2.2.2.2.2.2.2.2.2.2.2.2.2.2.2.2.2.2.2.1,())
def upD(d:List UInt8)(l:lt.T):lt.T:=(l.1,l.2.1,l.2.2.1,l.2.2.2.1,l.2.2.2.2.1,l.2.2.2.2.2.1,l.2.2.2.2.2.2.1,l.2.2.2.2.2.2.2.1,l.2.2.2.2.2.2.2.2.1,l.2.2.2.2.2.2.2.2.2.1,l.2.2.2.2.2.2.2.2.2.2.1,l.2.2.2.2.2.2.2.2.2.2.2.1,l.2.2.2.2.2.2.2.2.2.2.2.2.1,l.2.2.2.2.2.2.2.2.2.2.2.2.2.1,l.2.2.2.2.2.2.2.2.2.2.2.2.2.2.1,l.2.2.2.2.2.2.2.2.2.2.2.2.2.2.2.1,l.2.2.2.2.2.2.2.2.2.2.2.2.2.2.2.2.1,l.2.2.2.2.2.2.2.2.2.2.2.2.2.2.2.2.2.1,l.2.2.2.2.2.2.2.2.2.2.2.2.2.2.2.2.2.2.1,d,())
def NMt(fx:Nat->Nat)(l:lt.T)(b:List UInt8)(nx:Nat)(v:V)(E:Owns)(x0:Nat):Prop:=v=⟨.junk,()⟩/\E=rdE fx l b/\x0=nx
set_option maxHeartbeats 8000000 in
theorem zvM{w1:zj}{X:Ownr}(hX:X.Ok w1)(hG:X.G=dG)(hK:X.K=5)(xm:X.ρ=none)(hD:X.D=[])(fx:Nat->Nat)(xl:∀i,i<5->X.fix i=fx i)(l:lt.T)(m:mv.T)(hm:mvG m)(b xk:List UInt8)(hb:b=movB m++xk):
  zc3 zf w1 X 34 35 (frV 0 [⟨.hptr,((3:Nat),(0:Nat))⟩]) (rdE fx l b) 6 (NMt fx (upM m l) xk 6):=by
 obtain⟨G',O',K',fix,D',xo,B'⟩:=X;obtain rfl:=hG;obtain rfl:=hK;obtain rfl:=xm;obtain rfl:=hD;have hE:∀l b,rdE fx l b=rdE fix l b:=λl b=>by
  have f2:fix 2=fx 2:=xl 2 d_;have f4:fix 4=fx 4:=xl 4 d_;unfold rdE rdL zc1;rw[f2,f4]
 unfold NMt;simp only[hE];obtain⟨x0,x1,x2,x3,x4,x5,x6,x7,x8,x9,xf,xi,xb,xa,xe,xd,xj,xc,xg,xh,⟨⟩⟩:=l;obtain⟨a,dr,c,d,e,⟨⟩⟩:=m;obtain⟨n1,n2,n3,n4⟩:=hm;have n1:inR .i64 a:=n1;have n2:inR .i64 c:=n2;have n3:inR .i64 d:=n3;have n4:inR .i64 e:=n4;have n5:0<=drI dr/\drI dr<256^1:=by cases dr<;>exact⟨by decide,by decide⟩
 obtain⟨b4,h4⟩:∃y,y=leB e 8++xk:=⟨_,rfl⟩;obtain⟨b3,h3⟩:∃y,y=leB d 8++b4:=⟨_,rfl⟩;obtain⟨b2,h2⟩:∃y,y=leB c 8++b3:=⟨_,rfl⟩;obtain⟨b1,h1⟩:∃y,y=leB (drI dr) 1++b2:=⟨_,rfl⟩;have h0:b=leB a 8++b1:=by
  rw[hb,h1,h2,h3,h4];unfold movB;simp only[zB]
 have xn:(drI dr==1)=dr:=by cases dr<;>rfl
 have u0:nuV b 8=a:=by rw[h0];exact nu8 n1 _
 have v0:b.drop 8=b1:=by rw[h0];exact zfo _ _ _
 have w0:8<=b.length:=by rw[h0];exact lenB _ _ _
 have u1:nuV b1 1=drI dr:=by rw[h1];exact nuk 1 d_ n5.1 n5.2 _
 have v1:b1.drop 1=b2:=by rw[h1];exact zfo _ _ _
 have w1:1<=b1.length:=by rw[h1];exact lenB _ _ _
 have u2:nuV b2 8=c:=by rw[h2];exact nu8 n2 _
 have v2:b2.drop 8=b3:=by rw[h2];exact zfo _ _ _
 have w2:8<=b2.length:=by rw[h2];exact lenB _ _ _
 have u3:nuV b3 8=d:=by rw[h3];exact nu8 n3 _
 have v3:b3.drop 8=b4:=by rw[h3];exact zfo _ _ _
 have w3:8<=b3.length:=by rw[h3];exact lenB _ _ _
 have u4:nuV b4 8=e:=by rw[h4];exact nu8 n4 _
 have v4:b4.drop 8=xk:=by rw[h4];exact zfo _ _ _
 have w4:8<=b4.length:=by rw[h4];exact lenB _ _ _
 refine zbP Tryz.func34 rfl rfl (.inl rfl) rfl rfl ?_;change AWP _ _ _ _ _ ⟨[(0,⟨.hptr,((3:Nat),(0:Nat))⟩)],rdL fix (lvA x0 x1 x2 x3 x4 x5 x6 x7 x8 x9 xf xi xb.1 xb.2.1 xb.2.2.1 xb.2.2.2.1 xb.2.2.2.2.1 xa.1 xa.2.1 xa.2.2.1 xa.2.2.2.1 xa.2.2.2.2.1 xa.2.2.2.2.2.1 xa.2.2.2.2.2.2.1 xe xd xj xc.1 xc.2.1 xg xh) b,6⟩ _;refine zaa (zaa (zaj ?_));refine zat 2 zaI ?_;refine xY (eqR0 _ _ rfl) hX zaI rfl t_ ?_;refine xY (eqLd _ _ rfl) hX zaI rfl t_ ?_;refine zau zaI ?_;refine zak (Y':=⟨[(0,⟨.hptr,((3:Nat),(0:Nat))⟩),(2,⟨.hptr,((1:Nat),(12:Nat))⟩)],rdL fix (lvA x0 x1 x2 x3 x4 x5 x6 x7 x8 x9 xf xi xb.1 xb.2.1 xb.2.2.1 xb.2.2.2.1 xb.2.2.2.2.1 xa.1 xa.2.1 xa.2.2.1 xa.2.2.2.1 xa.2.2.2.2.1 xa.2.2.2.2.2.1 xa.2.2.2.2.2.2.1 xe xd xj xc.1 xc.2.1 xg xh) b,6⟩) ⟨⟨rfl,rfl,t_⟩,⟨rfl,rfl,rfl,rfl,rfl,t_⟩,rfl,rfl⟩ ?_;refine zaa (zaa (zaj ?_));refine zat 2 zaI ?_;refine kn (m:=23) 5 hX rfl rfl jO rfl rfl rfl (N:=NNum fix (x0,x1,x2,x3,x4,x5,x6,x7,x8,x9,xf,xi,xb,xa,xe,xd,xj,xc,xg,xh,()) b 8 6) (E1:=rdL fix (lvA x0 x1 x2 x3 x4 x5 x6 x7 x8 x9 xf xi xb.1 xb.2.1 xb.2.2.1 xb.2.2.2.1 xb.2.2.2.2.1 xa.1 xa.2.1 xa.2.2.1 xa.2.2.2.1 xa.2.2.2.2.1 xa.2.2.2.2.2.1 xa.2.2.2.2.2.2.1 xe xd xj xc.1 xc.2.1 xg xh) b)
  (λwz Xz c1 c2 c3 c4 c5 _ c7 _=>zfc c1 c2 c3 c4 c5 fix (λi hi=>c7 i hi) (x0,x1,x2,x3,x4,x5,x6,x7,x8,x9,xf,xi,xb,xa,xe,xd,xj,xc,xg,xh,()) b 8 d_ w0 6 d_) (λv E nx h=>?_) (λv E nx h=>?_)
 .obtain⟨rfl,rfl,rfl⟩:=h;rfl
 obtain⟨rfl,rfl,rfl⟩:=h;refine j0 (Y':=⟨[(11,⟨i64,a⟩),(9,⟨.hptr,((1:Nat),(12:Nat))⟩),(0,⟨.hptr,((3:Nat),(0:Nat))⟩),(2,⟨.hptr,((1:Nat),(12:Nat))⟩)],rdL fix (lvA x0 x1 x2 x3 x4 x5 x6 x7 x8 x9 xf xi xb.1 xb.2.1 xb.2.2.1 xb.2.2.2.1 xb.2.2.2.2.1 xa.1 xa.2.1 xa.2.2.1 xa.2.2.2.1 xa.2.2.2.2.1 xa.2.2.2.2.2.1 xa.2.2.2.2.2.2.1 xe xd xj xc.1 xc.2.1 xg xh) b1,6⟩) ⟨⟨vI64 u0,rfl,rfl,rfl,t_⟩,⟨rfl,rfl,zaT v0,rfl,rfl,t_⟩,rfl,rfl⟩ ?_;refine zau zaI ?_;refine zak (Y':=⟨[(0,⟨.hptr,((3:Nat),(0:Nat))⟩),(2,⟨.hptr,((1:Nat),(12:Nat))⟩)],rdL fix (lvA x0 x1 x2 x3 x4 x5 x6 x7 x8 x9 xf xi a xb.2.1 xb.2.2.1 xb.2.2.2.1 xb.2.2.2.2.1 xa.1 xa.2.1 xa.2.2.1 xa.2.2.2.1 xa.2.2.2.2.1 xa.2.2.2.2.2.1 xa.2.2.2.2.2.2.1 xe xd xj xc.1 xc.2.1 xg xh) b1,6⟩) ⟨⟨rfl,rfl,t_⟩,⟨rfl,rfl,rfl,rfl,rfl,t_⟩,rfl,rfl⟩ ?_;refine zaa (zaa (zaj ?_));refine zat 2 zaI ?_;refine kn (m:=23) 5 hX rfl rfl jO rfl rfl rfl (N:=NNum fix (x0,x1,x2,x3,x4,x5,x6,x7,x8,x9,xf,xi,(a,xb.2.1,xb.2.2.1,xb.2.2.2.1,xb.2.2.2.2.1,()),xa,xe,xd,xj,xc,xg,xh,()) b1 1 6) (E1:=rdL fix (lvA x0 x1 x2 x3 x4 x5 x6 x7 x8 x9 xf xi a xb.2.1 xb.2.2.1 xb.2.2.2.1 xb.2.2.2.2.1 xa.1 xa.2.1 xa.2.2.1 xa.2.2.2.1 xa.2.2.2.2.1 xa.2.2.2.2.2.1 xa.2.2.2.2.2.2.1 xe xd xj xc.1 xc.2.1 xg xh) b1)
  (λwz Xz c1 c2 c3 c4 c5 _ c7 _=>zfc c1 c2 c3 c4 c5 fix (λi hi=>c7 i hi) (x0,x1,x2,x3,x4,x5,x6,x7,x8,x9,xf,xi,(a,xb.2.1,xb.2.2.1,xb.2.2.2.1,xb.2.2.2.2.1,()),xa,xe,xd,xj,xc,xg,xh,()) b1 1 d_ w1 6 d_) (λv E nx h=>?_) (λv E nx h=>?_)
 .obtain⟨rfl,rfl,rfl⟩:=h;rfl
 obtain⟨rfl,rfl,rfl⟩:=h;refine j0 (Y':=⟨[(16,⟨i64,drI dr⟩),(14,⟨.hptr,((1:Nat),(12:Nat))⟩),(0,⟨.hptr,((3:Nat),(0:Nat))⟩),(2,⟨.hptr,((1:Nat),(12:Nat))⟩)],rdL fix (lvA x0 x1 x2 x3 x4 x5 x6 x7 x8 x9 xf xi a xb.2.1 xb.2.2.1 xb.2.2.2.1 xb.2.2.2.2.1 xa.1 xa.2.1 xa.2.2.1 xa.2.2.2.1 xa.2.2.2.2.1 xa.2.2.2.2.2.1 xa.2.2.2.2.2.2.1 xe xd xj xc.1 xc.2.1 xg xh) b2,6⟩) ⟨⟨vI64 u1,rfl,rfl,rfl,t_⟩,⟨rfl,rfl,zaT v1,rfl,rfl,t_⟩,rfl,rfl⟩ ?_;refine zau zaI ?_;refine zak (Y':=⟨[(0,⟨.hptr,((3:Nat),(0:Nat))⟩),(2,⟨.hptr,((1:Nat),(12:Nat))⟩)],rdL fix (lvA x0 x1 x2 x3 x4 x5 x6 x7 x8 x9 xf xi a dr xb.2.2.1 xb.2.2.2.1 xb.2.2.2.2.1 xa.1 xa.2.1 xa.2.2.1 xa.2.2.2.1 xa.2.2.2.2.1 xa.2.2.2.2.2.1 xa.2.2.2.2.2.2.1 xe xd xj xc.1 xc.2.1 xg xh) b2,6⟩) ⟨⟨rfl,rfl,t_⟩,⟨rfl,congrArg (λz=>some (OObj.hbox 42 (lvA x0 x1 x2 x3 x4 x5 x6 x7 x8 x9 xf xi a z xb.2.2.1 xb.2.2.2.1 xb.2.2.2.2.1 xa.1 xa.2.1 xa.2.2.1 xa.2.2.2.1 xa.2.2.2.2.1 xa.2.2.2.2.2.1 xa.2.2.2.2.2.2.1 xe xd xj xc.1 xc.2.1 xg xh))) xn,rfl,rfl,rfl,t_⟩,rfl,rfl⟩ ?_;refine zaa (zaa (zaj ?_));refine zat 2 zaI ?_;refine kn (m:=23) 5 hX rfl rfl jO rfl rfl rfl (N:=NNum fix (x0,x1,x2,x3,x4,x5,x6,x7,x8,x9,xf,xi,(a,dr,xb.2.2.1,xb.2.2.2.1,xb.2.2.2.2.1,()),xa,xe,xd,xj,xc,xg,xh,()) b2 8 6) (E1:=rdL fix (lvA x0 x1 x2 x3 x4 x5 x6 x7 x8 x9 xf xi a dr xb.2.2.1 xb.2.2.2.1 xb.2.2.2.2.1 xa.1 xa.2.1 xa.2.2.1 xa.2.2.2.1 xa.2.2.2.2.1 xa.2.2.2.2.2.1 xa.2.2.2.2.2.2.1 xe xd xj xc.1 xc.2.1 xg xh) b2)
  (λwz Xz c1 c2 c3 c4 c5 _ c7 _=>zfc c1 c2 c3 c4 c5 fix (λi hi=>c7 i hi) (x0,x1,x2,x3,x4,x5,x6,x7,x8,x9,xf,xi,(a,dr,xb.2.2.1,xb.2.2.2.1,xb.2.2.2.2.1,()),xa,xe,xd,xj,xc,xg,xh,()) b2 8 d_ w2 6 d_) (λv E nx h=>?_) (λv E nx h=>?_)
 .obtain⟨rfl,rfl,rfl⟩:=h;rfl
 obtain⟨rfl,rfl,rfl⟩:=h;refine j0 (Y':=⟨[(22,⟨i64,c⟩),(20,⟨.hptr,((1:Nat),(12:Nat))⟩),(0,⟨.hptr,((3:Nat),(0:Nat))⟩),(2,⟨.hptr,((1:Nat),(12:Nat))⟩)],rdL fix (lvA x0 x1 x2 x3 x4 x5 x6 x7 x8 x9 xf xi a dr xb.2.2.1 xb.2.2.2.1 xb.2.2.2.2.1 xa.1 xa.2.1 xa.2.2.1 xa.2.2.2.1 xa.2.2.2.2.1 xa.2.2.2.2.2.1 xa.2.2.2.2.2.2.1 xe xd xj xc.1 xc.2.1 xg xh) b3,6⟩) ⟨⟨vI64 u2,rfl,rfl,rfl,t_⟩,⟨rfl,rfl,zaT v2,rfl,rfl,t_⟩,rfl,rfl⟩ ?_;refine zau zaI ?_;refine zak (Y':=⟨[(0,⟨.hptr,((3:Nat),(0:Nat))⟩),(2,⟨.hptr,((1:Nat),(12:Nat))⟩)],rdL fix (lvA x0 x1 x2 x3 x4 x5 x6 x7 x8 x9 xf xi a dr c xb.2.2.2.1 xb.2.2.2.2.1 xa.1 xa.2.1 xa.2.2.1 xa.2.2.2.1 xa.2.2.2.2.1 xa.2.2.2.2.2.1 xa.2.2.2.2.2.2.1 xe xd xj xc.1 xc.2.1 xg xh) b3,6⟩) ⟨⟨rfl,rfl,t_⟩,⟨rfl,rfl,rfl,rfl,rfl,t_⟩,rfl,rfl⟩ ?_;refine zaa (zaa (zaj ?_));refine zat 2 zaI ?_;refine kn (m:=23) 5 hX rfl rfl jO rfl rfl rfl (N:=NNum fix (x0,x1,x2,x3,x4,x5,x6,x7,x8,x9,xf,xi,(a,dr,c,xb.2.2.2.1,xb.2.2.2.2.1,()),xa,xe,xd,xj,xc,xg,xh,()) b3 8 6) (E1:=rdL fix (lvA x0 x1 x2 x3 x4 x5 x6 x7 x8 x9 xf xi a dr c xb.2.2.2.1 xb.2.2.2.2.1 xa.1 xa.2.1 xa.2.2.1 xa.2.2.2.1 xa.2.2.2.2.1 xa.2.2.2.2.2.1 xa.2.2.2.2.2.2.1 xe xd xj xc.1 xc.2.1 xg xh) b3)
  (λwz Xz c1 c2 c3 c4 c5 _ c7 _=>zfc c1 c2 c3 c4 c5 fix (λi hi=>c7 i hi) (x0,x1,x2,x3,x4,x5,x6,x7,x8,x9,xf,xi,(a,dr,c,xb.2.2.2.1,xb.2.2.2.2.1,()),xa,xe,xd,xj,xc,xg,xh,()) b3 8 d_ w3 6 d_) (λv E nx h=>?_) (λv E nx h=>?_)
 .obtain⟨rfl,rfl,rfl⟩:=h;rfl
 obtain⟨rfl,rfl,rfl⟩:=h;refine j0 (Y':=⟨[(27,⟨i64,d⟩),(25,⟨.hptr,((1:Nat),(12:Nat))⟩),(0,⟨.hptr,((3:Nat),(0:Nat))⟩),(2,⟨.hptr,((1:Nat),(12:Nat))⟩)],rdL fix (lvA x0 x1 x2 x3 x4 x5 x6 x7 x8 x9 xf xi a dr c xb.2.2.2.1 xb.2.2.2.2.1 xa.1 xa.2.1 xa.2.2.1 xa.2.2.2.1 xa.2.2.2.2.1 xa.2.2.2.2.2.1 xa.2.2.2.2.2.2.1 xe xd xj xc.1 xc.2.1 xg xh) b4,6⟩) ⟨⟨vI64 u3,rfl,rfl,rfl,t_⟩,⟨rfl,rfl,zaT v3,rfl,rfl,t_⟩,rfl,rfl⟩ ?_;refine zau zaI ?_;refine zak (Y':=⟨[(0,⟨.hptr,((3:Nat),(0:Nat))⟩),(2,⟨.hptr,((1:Nat),(12:Nat))⟩)],rdL fix (lvA x0 x1 x2 x3 x4 x5 x6 x7 x8 x9 xf xi a dr c d xb.2.2.2.2.1 xa.1 xa.2.1 xa.2.2.1 xa.2.2.2.1 xa.2.2.2.2.1 xa.2.2.2.2.2.1 xa.2.2.2.2.2.2.1 xe xd xj xc.1 xc.2.1 xg xh) b4,6⟩) ⟨⟨rfl,rfl,t_⟩,⟨rfl,rfl,rfl,rfl,rfl,t_⟩,rfl,rfl⟩ ?_;refine zaa (zaa (zaj ?_));refine zat 2 zaI ?_;refine kn (m:=23) 5 hX rfl rfl jO rfl rfl rfl (N:=NNum fix (x0,x1,x2,x3,x4,x5,x6,x7,x8,x9,xf,xi,(a,dr,c,d,xb.2.2.2.2.1,()),xa,xe,xd,xj,xc,xg,xh,()) b4 8 6) (E1:=rdL fix (lvA x0 x1 x2 x3 x4 x5 x6 x7 x8 x9 xf xi a dr c d xb.2.2.2.2.1 xa.1 xa.2.1 xa.2.2.1 xa.2.2.2.1 xa.2.2.2.2.1 xa.2.2.2.2.2.1 xa.2.2.2.2.2.2.1 xe xd xj xc.1 xc.2.1 xg xh) b4)
  (λwz Xz c1 c2 c3 c4 c5 _ c7 _=>zfc c1 c2 c3 c4 c5 fix (λi hi=>c7 i hi) (x0,x1,x2,x3,x4,x5,x6,x7,x8,x9,xf,xi,(a,dr,c,d,xb.2.2.2.2.1,()),xa,xe,xd,xj,xc,xg,xh,()) b4 8 d_ w4 6 d_) (λv E nx h=>?_) (λv E nx h=>?_)
 .obtain⟨rfl,rfl,rfl⟩:=h;rfl
 obtain⟨rfl,rfl,rfl⟩:=h;refine j0 (Y':=⟨[(32,⟨i64,e⟩),(30,⟨.hptr,((1:Nat),(12:Nat))⟩),(0,⟨.hptr,((3:Nat),(0:Nat))⟩),(2,⟨.hptr,((1:Nat),(12:Nat))⟩)],rdL fix (lvA x0 x1 x2 x3 x4 x5 x6 x7 x8 x9 xf xi a dr c d xb.2.2.2.2.1 xa.1 xa.2.1 xa.2.2.1 xa.2.2.2.1 xa.2.2.2.2.1 xa.2.2.2.2.2.1 xa.2.2.2.2.2.2.1 xe xd xj xc.1 xc.2.1 xg xh) xk,6⟩) ⟨⟨vI64 u4,rfl,rfl,rfl,t_⟩,⟨rfl,rfl,zaT v4,rfl,rfl,t_⟩,rfl,rfl⟩ ?_;refine zat 3 zaI ?_;refine j0 (Y':=⟨[],rdE fix (upM (a,dr,c,d,e,()) (x0,x1,x2,x3,x4,x5,x6,x7,x8,x9,xf,xi,xb,xa,xe,xd,xj,xc,xg,xh,())) xk,6⟩) ⟨t_,⟨rfl,rfl,rfl,rfl,rfl,t_⟩,rfl,rfl⟩ ?_;exact qu ⟨.inl rfl,rfl,rfl,rfl⟩
section
variable {P:zA}{w0:zj}{X:Ownr}{n m:Nat}{Q:Exit->AS->Prop}{ops:Array Oper}{F:yF}{E:Owns}{nx:Nat}
theorem StepA.subG(K:Nat)(hX:X.Ok w0){o:Oper}{M:AS->Prop}{f:FuncId}(x4:o.guard=none){d:Nat}(hd:o.dst=some d)(x9:zO d n=true){vs:List V}
  (x1:∀U a w,Sim w0 X n ⟨F,E,nx⟩ U a w->∃us:List zi,(execOp a.eval o).run P w=.ok (.enter f us.toArray) w/\RepVs w (OSet X E U) U vs us)
  {N:V->Owns->Nat->Prop}{E1:Owns}
  (hw:∀(w1:zj)(X':Ownr),X'.Ok w1->X'.G=X.G->X'.K=K->X'.ρ=none->X'.D=[]->(∀g,X'.R g->w0.heap.size<=g\/X.R g)->(∀i,i<X.K->X'.fix i=X.fix i)->w0.heap.size<=w1.heap.size->zc3 P w1 X' f m (frV 0 vs) E1 nx N)
  (x7:∀r E' x0,N r E' x0->zim K nx x0 E' r=true) (h:∀r E' x0,N r E' x0->M ⟨(d,r)::F,E'++E,x0⟩)
  (xd:zdC K E=E1:=by rfl) (hb:zcX E K=true:=by rfl) (x6:xM K nx=true:=by rfl) (hK:xM X.K K=true:=by rfl) (hF:okF (qOut K) F=true:=by rfl) (xb:okE (λ_=>true) (qOut K) E=true:=by rfl) (x2:xM vs.length m=true:=by rfl) (xc:bndB nx (frV 0 vs)=true:=by rfl):StepA P w0 X n ops o ⟨F,E,nx⟩ M Q:=by
 subst xd;have xa:d<n:=by simpa using x9
 refine uQ x4 λU a w hs=>?_;obtain⟨us,hr,hv⟩:=x1 U a w hs;have x2:us.length<=m:=by rw[hv.1];exact zb x2
 have x8:∀s,RepV w (OSet X E U) U (zr (frV 0 vs) s).t (zr (frV 0 vs) s).x ((us.toArray++zG (m-us.toArray.size) undef).getD s undef):=λs=>by
  have:=zkY vs us [] (zg (m-us.length) undef) hv s;have e:us.toArray++zG (m-us.toArray.size) undef=([]++us++zg (m-us.length) undef).toArray:=by simp
  rw[e];exact this
 have x3:=Sim.sub (K:=K) (m:=m) hs hX hb (zb x6) (zb hK) hF xb (caps:=us.toArray) (by simpa using x2) x8 xc (N:=N) (λX' h1 h2 h3 h4 h5 h6 h7=>hw w X' h1 h2 h3 h4 h5 h6 h7 hs.bel.size) x7;unfold Oper.wp;rw[hr];show Calls P f us.toArray w _;refine x3.mono λe w'⟨u,r,E',x0,U',he,hN,xe,hu,x5⟩=>?_;subst he;rw[hd];exact⟨_,U',xe.put (zY _ _) hu x5 xa,h _ _ _ hN⟩
theorem StepA.subF(K:Nat)(hX:X.Ok w0){o:Oper}{M:AS->Prop}{f:FuncId}{args:Array zK}{ts:Array zy}(ho:o.op=.call ⟨.value (.func f),args,ts⟩)(x1:o.guard=none)(x7:∀(zas:Array zi)(w:zj),(callFunc f zas).run P w=.ok (.enter f zas) w){d:Nat}(hd:o.dst=some d)(x0:zO d n=true){vs:List V}(x3:args.toList.map (evO F)=vs)
  {N:V->Owns->Nat->Prop}{E1:Owns}
  (hw:∀(w1:zj)(X':Ownr),X'.Ok w1->X'.G=X.G->X'.K=K->X'.ρ=none->X'.D=[]->(∀g,X'.R g->w0.heap.size<=g\/X.R g)->(∀i,i<X.K->X'.fix i=X.fix i)->w0.heap.size<=w1.heap.size->zc3 P w1 X' f m (frV 0 vs) E1 nx N)
  (x8:∀r E' nx',N r E' nx'->zim K nx nx' E' r=true) (h:∀r E' nx',N r E' nx'->M ⟨(d,r)::F,E'++E,nx'⟩)
  (x9:zdC K E=E1:=by rfl) (hb:zcX E K=true:=by rfl) (x6:xM K nx=true:=by rfl) (hK:xM X.K K=true:=by rfl) (hF:okF (qOut K) F=true:=by rfl) (x4:okE (λ_=>true) (qOut K) E=true:=by rfl) (x2:xM vs.length m=true:=by rfl) (x5:bndB nx (frV 0 vs)=true:=by rfl):StepA P w0 X n ops o ⟨F,E,nx⟩ M Q:=
 StepA.subG K hX x1 hd x0 (λU a w hs=>⟨args.toList.map a.eval,by
  unfold execOp;have em:(args.toList.map a.eval).toArray=args.map a.eval:=by rw[<-zbS]
  simp[ho,resolve,invoke,jv,Act.eval,x7,em],x3▸ze2 hs _⟩) hw x8 h x9 hb x6 hK hF x4 x2 x5
theorem StepA.subV(K:Nat)(hX:X.Ok w0){o:Oper}{M:AS->Prop}{f:FuncId}{x:zK}{args:Array zK}{ts:Array zy}{rc cp:List Nat}(ho:o.op=.call ⟨.value x,args,ts⟩)(x2:o.guard=none)(x6:∀(zas:Array zi)(w:zj),(callFunc f zas).run P w=.ok (.enter f zas) w){d:Nat}(hd:o.dst=some d)(x9:zO d n=true)
  (hx:evO F x=⟨.lit,.func (.func f) (fixP X rc) (fixP X cp)⟩) (x4:(rc++cp).all (λi=>zO i X.K)=true) (vr vc:List V) (x8:vr.map zdn=rc.map some) (x3:vc.map zdn=cp.map some) {vs:List V} (xc:vr++args.toList.map (evO F)++vc=vs)
  {N:V->Owns->Nat->Prop}{E1:Owns}
  (hw:∀(w1:zj)(X':Ownr),X'.Ok w1->X'.G=X.G->X'.K=K->X'.ρ=none->X'.D=[]->(∀g,X'.R g->w0.heap.size<=g\/X.R g)->(∀i,i<X.K->X'.fix i=X.fix i)->w0.heap.size<=w1.heap.size->zc3 P w1 X' f m (frV 0 vs) E1 nx N)
  (x7:∀r E' nx',N r E' nx'->zim K nx nx' E' r=true) (h:∀r E' nx',N r E' nx'->M ⟨(d,r)::F,E'++E,nx'⟩)
  (xe:zdC K E=E1:=by rfl) (hb:zcX E K=true:=by rfl) (x5:xM K nx=true:=by rfl) (hK:xM X.K K=true:=by rfl) (hF:okF (qOut K) F=true:=by rfl) (xd:okE (λ_=>true) (qOut K) E=true:=by rfl) (xa:xM vs.length m=true:=by rfl) (xb:bndB nx (frV 0 vs)=true:=by rfl):StepA P w0 X n ops o ⟨F,E,nx⟩ M Q:=by
 have hp:∀(l:List Nat)(v:List V),v.map zdn=l.map some->(∀i∈l,i<X.K)->∀U a w,Sim w0 X n ⟨F,E,nx⟩ U a w->RepVs w (OSet X E U) U v (l.map λi=>zz (some ⟨X.fix i,0,none⟩)):=λl v hv hl U a w hs=>by
  refine⟨by have:=congrArg zp hv;simpa using this.symm,λi y hy=>?_⟩;have h1:(v.map zdn)[i]? =some (zdn y):=by rw[yB,hy];rfl
  rw[hv,yB,Option.map_eq_some_iff]at h1;obtain⟨j,hj,x1⟩:=h1;exact⟨_,by rw[yB,hj];rfl,zjz x1.symm (hs.fix.2 j (hl j (List.mem_of_getElem? hj))).1⟩
 have x0:∀i∈rc++cp,i<X.K:=λi hi=>by simpa using yH.1 x4 i hi
 refine StepA.subG K hX x2 hd x9 (λU a w hs=>⟨_,?_,xc▸((hp rc vr x8 (λi hi=>x0 i (by simp[hi])) U a w hs).append (ze2 hs args.toList)).append (hp cp vc x3 (λi hi=>x0 i (by simp[hi])) U a w hs)⟩) hw x7 h xe hb x5 hK hF xd xa xb;have h1:=zaR hs hx;unfold execOp;have em:(args.toList.map a.eval).toArray=args.map a.eval:=by rw[<-zbS]
 simp[ho,resolve,invoke,jv,h1,x6, <-em,fixP]
end
set_option maxHeartbeats 8000000 in
theorem zvE{w1:zj}{X:Ownr}(hX:X.Ok w1)(hG:X.G=dG)(hK:X.K=5)(xm:X.ρ=none)(hD:X.D=[])(fx:Nat->Nat)(xl:∀i,i<5->X.fix i=fx i)(l:lt.T)(a e:Int)(ha:inR .i64 a)(he:inR .i64 e)(b xh:List UInt8)(hb:b=winB (a,e,())++xh):
  zc3 zf w1 X 36 20 (frV 0 [⟨.hptr,((3:Nat),(0:Nat))⟩]) (rdE fx l b) 6 (NMt fx (upW (a,e,()) l) xh 6):=by
 obtain⟨G',O',K',fix,D',xn,B'⟩:=X;obtain rfl:G'=dG:=hG;obtain rfl:K'=5:=hK;obtain rfl:xn=none:=xm;obtain rfl:=hD;have hE:∀l b,rdE fx l b=rdE fix l b:=λl b=>by
  have f2:fix 2=fx 2:=xl 2 d_;have f4:fix 4=fx 4:=xl 4 d_;unfold rdE rdL zc1;rw[f2,f4]
 unfold NMt;simp only[hE];obtain⟨x0,x1,x2,x3,x4,x5,x6,x7,x8,x9,xe,xk,xb,xa,xg,xf,xd,xc,xj,xi,⟨⟩⟩:=l;obtain⟨b1,h1⟩:∃y,y=leB e 8++xh:=⟨_,rfl⟩;have h0:b=leB a 8++b1:=by
  rw[hb,h1];unfold winB;simp only[zB]
 have u0:nuV b 8=a:=by rw[h0];exact nu8 ha _
 have v0:b.drop 8=b1:=by rw[h0];exact zfo _ _ _
 have w0:8<=b.length:=by rw[h0];exact lenB _ _ _
 have u1:nuV b1 8=e:=by rw[h1];exact nu8 he _
 have v1:b1.drop 8=xh:=by rw[h1];exact zfo _ _ _
 have w1:8<=b1.length:=by rw[h1];exact lenB _ _ _
 refine zbP Tryz.func36 rfl rfl (.inl rfl) rfl rfl ?_;change AWP _ _ _ _ _ ⟨[(0,⟨.hptr,((3:Nat),(0:Nat))⟩)],rdL fix (lvA x0 x1 x2 x3 x4 x5 x6 x7 x8 x9 xe xk xb.1 xb.2.1 xb.2.2.1 xb.2.2.2.1 xb.2.2.2.2.1 xa.1 xa.2.1 xa.2.2.1 xa.2.2.2.1 xa.2.2.2.2.1 xa.2.2.2.2.2.1 xa.2.2.2.2.2.2.1 xg xf xd xc.1 xc.2.1 xj xi) b,6⟩ _;refine zaa (zaa ?_);refine zco (Y':=⟨[(0,⟨.hptr,((3:Nat),(0:Nat))⟩)],rdL fix (lvA x0 x1 x2 x3 x4 x5 x6 x7 x8 x9 xe xk xb.1 xb.2.1 xb.2.2.1 xb.2.2.2.1 xb.2.2.2.2.1 xa.1 xa.2.1 xa.2.2.1 xa.2.2.2.1 xa.2.2.2.2.1 xa.2.2.2.2.2.1 xa.2.2.2.2.2.2.1 xg xf xd (nuV b 8) xc.2.1 xj xi) (b.drop 8),6⟩) dM 10 rfl (by kernel_rfl) ?_ ?_
 .repeat'(first|exact uf|refine kv ⟨_,rfl,?_⟩ ?_|refine yD hX zaI rfl t_ ?_|refine vR (eqR0 _ _ rfl) hX zaI rfl t_ ?_|refine vR (eqLd _ _ rfl) hX zaI rfl t_ ?_|(refine StepA.subF (m:=23) 5 hX rfl rfl jO rfl rfl rfl (N:=NNum fix (x0,x1,x2,x3,x4,x5,x6,x7,x8,x9,xe,xk,xb,xa,xg,xf,xd,xc,xj,xi,()) b 8 6) (E1:=rdL fix (lvA x0 x1 x2 x3 x4 x5 x6 x7 x8 x9 xe xk xb.1 xb.2.1 xb.2.2.1 xb.2.2.2.1 xb.2.2.2.2.1 xa.1 xa.2.1 xa.2.2.1 xa.2.2.2.1 xa.2.2.2.2.1 xa.2.2.2.2.2.1 xa.2.2.2.2.2.2.1 xg xf xd xc.1 xc.2.1 xj xi) b) (λwz Xz c1 c2 c3 c4 c5 _ c7 _=>zfc c1 c2 c3 c4 c5 fix (λi hi=>c7 i hi) (x0,x1,x2,x3,x4,x5,x6,x7,x8,x9,xe,xk,xb,xa,xg,xf,xd,xc,xj,xi,()) b 8 d_ w0 6 d_) (λv E nx h=>by obtain⟨rfl,rfl,rfl⟩:=h;rfl) (λv E nx h=>?_);obtain⟨rfl,rfl,rfl⟩:=h)|(refine vY ?_;exact⟨rfl,⟨rfl,t_⟩,⟨rfl,rfl,rfl,rfl,rfl,t_⟩,rfl,rfl⟩))
 rw[u0,v0];refine zaa ?_;refine zco (Y':=⟨[(0,⟨.hptr,((3:Nat),(0:Nat))⟩)],rdL fix (lvA x0 x1 x2 x3 x4 x5 x6 x7 x8 x9 xe xk xb.1 xb.2.1 xb.2.2.1 xb.2.2.2.1 xb.2.2.2.2.1 xa.1 xa.2.1 xa.2.2.1 xa.2.2.2.1 xa.2.2.2.2.1 xa.2.2.2.2.2.1 xa.2.2.2.2.2.2.1 xg xf xd a (nuV b1 8) xj xi) (b1.drop 8),6⟩) dM 10 rfl (by kernel_rfl) ?_ ?_
 .repeat'(first|exact uf|refine kv ⟨_,rfl,?_⟩ ?_|refine yD hX zaI rfl t_ ?_|refine vR (eqR0 _ _ rfl) hX zaI rfl t_ ?_|refine vR (eqLd _ _ rfl) hX zaI rfl t_ ?_|(refine StepA.subF (m:=23) 5 hX rfl rfl jO rfl rfl rfl (N:=NNum fix (x0,x1,x2,x3,x4,x5,x6,x7,x8,x9,xe,xk,xb,xa,xg,xf,xd,(a,xc.2.1,()),xj,xi,()) b1 8 6) (E1:=rdL fix (lvA x0 x1 x2 x3 x4 x5 x6 x7 x8 x9 xe xk xb.1 xb.2.1 xb.2.2.1 xb.2.2.2.1 xb.2.2.2.2.1 xa.1 xa.2.1 xa.2.2.1 xa.2.2.2.1 xa.2.2.2.2.1 xa.2.2.2.2.2.1 xa.2.2.2.2.2.2.1 xg xf xd a xc.2.1 xj xi) b1) (λwz Xz c1 c2 c3 c4 c5 _ c7 _=>zfc c1 c2 c3 c4 c5 fix (λi hi=>c7 i hi) (x0,x1,x2,x3,x4,x5,x6,x7,x8,x9,xe,xk,xb,xa,xg,xf,xd,(a,xc.2.1,()),xj,xi,()) b1 8 d_ w1 6 d_) (λv E nx h=>by obtain⟨rfl,rfl,rfl⟩:=h;rfl) (λv E nx h=>?_);obtain⟨rfl,rfl,rfl⟩:=h)|(refine vY ?_;exact⟨rfl,⟨rfl,t_⟩,⟨rfl,rfl,rfl,rfl,rfl,t_⟩,rfl,rfl⟩))
 rw[u1,v1];exact⟨.inl rfl,rfl,rfl,rfl⟩
noncomputable def kLS(s:se.T):Kn:={ kL with C:=[(68,cSeR s)] }
theorem zuM(s:se.T):KnOk zf dG (kLS s):=⟨zd2,zdu,.cons (znx s) .nil,zfr,.nil⟩
set_option maxHeartbeats 8000000 in
theorem zue{w1:zj}{X:Ownr}(hX:X.Ok w1)(hG:X.G=dG)(hK:X.K=5)(xo:X.ρ=none)(hD:X.D=[])(fx:Nat->Nat)(xm:∀i,i<5->X.fix i=fx i)(l:lt.T)(b xd:List UInt8)(hb:b=leB 0 4++xd):
  zc3 zf w1 X 35 40 (frV 0 [⟨.hptr,((3:Nat),(0:Nat))⟩]) (rdE fx l b) 6 (NMt fx l xd 6):=by
 obtain⟨G',O',K',fix,D',xn,B'⟩:=X;obtain rfl:G'=dG:=hG;obtain rfl:K'=5:=hK;obtain rfl:xn=none:=xo;obtain rfl:D'=[]:=hD;have hE:∀l b,rdE fx l b=rdE fix l b:=λl b=>by
  have f2:fix 2=fx 2:=xm 2 d_;have f4:fix 4=fx 4:=xm 4 d_;unfold rdE rdL zc1;rw[f2,f4]
 unfold NMt;simp only[hE];obtain⟨(x0:Int),(x1:Int),(x2:Int),(x3:Int),(x4:Int),(x5:Int),(x6:Int),(x7:Int),(x8:Int),(x9:Int),(xh:Int),(xi:Int),(xb:mv.T),(xa:se.T),(xf:Int),(xg:Int),(xk:Int),(xc:sp.T),(xe:List Int),(xj:List UInt8),⟨⟩⟩:=l;have e0:((0:Nat):Int)=0:=rfl;obtain⟨b1,xl⟩:∃y,y=xd:=⟨_,rfl⟩;have u0:nuV b 4=((0:Nat):Int):=by rw[hb];exact nuk 4 d_ d_ d_ _
 have v0:b.drop 4=b1:=by rw[hb,xl];exact zfo _ _ _
 have w0:4<=b.length:=by rw[hb];exact lenB _ _ _
 have hn:0<=b1.length:=zk _;have ht:b1.take 0=[]:=rfl;have hd:b1.drop 0=xd:=by rw[xl];rfl
 refine zbP Tryz.func35 rfl rfl (.inl rfl) rfl rfl ?_;change AWP _ _ _ _ _ ⟨[(0,⟨.hptr,((3:Nat),(0:Nat))⟩)],rdL fix (lvA x0 x1 x2 x3 x4 x5 x6 x7 x8 x9 xh xi xb.1 xb.2.1 xb.2.2.1 xb.2.2.2.1 xb.2.2.2.2.1 xa.1 xa.2.1 xa.2.2.1 xa.2.2.2.1 xa.2.2.2.2.1 xa.2.2.2.2.2.1 xa.2.2.2.2.2.2.1 xf xg xk xc.1 xc.2.1 xe xj) b,6⟩ _;refine zaa (zaa (zaj ?_));refine zat 1 zaI ?_;refine kn (m:=23) 5 hX rfl rfl jO rfl rfl rfl (N:=NNum fix (x0,x1,x2,x3,x4,x5,x6,x7,x8,x9,xh,xi,xb,xa,xf,xg,xk,xc,xe,xj,()) b 4 6) (E1:=rdL fix (lvA x0 x1 x2 x3 x4 x5 x6 x7 x8 x9 xh xi xb.1 xb.2.1 xb.2.2.1 xb.2.2.2.1 xb.2.2.2.2.1 xa.1 xa.2.1 xa.2.2.1 xa.2.2.2.1 xa.2.2.2.2.1 xa.2.2.2.2.2.1 xa.2.2.2.2.2.2.1 xf xg xk xc.1 xc.2.1 xe xj) b)
  (λwz Xz c1 c2 c3 c4 c5 _ c7 _=>zfc c1 c2 c3 c4 c5 fix (λi hi=>c7 i hi) (x0,x1,x2,x3,x4,x5,x6,x7,x8,x9,xh,xi,xb,xa,xf,xg,xk,xc,xe,xj,()) b 4 d_ w0 6 d_) (λv E nx h=>?_) (λv E nx h=>?_)
 .obtain⟨rfl,rfl,rfl⟩:=h;rfl
 obtain⟨rfl,rfl,rfl⟩:=h;refine j0 (Y':=⟨[(7,⟨i64,((0:Nat):Int)⟩),(0,⟨.hptr,((3:Nat),(0:Nat))⟩)],rdL fix (lvA x0 x1 x2 x3 x4 x5 x6 x7 x8 x9 xh xi xb.1 xb.2.1 xb.2.2.1 xb.2.2.2.1 xb.2.2.2.2.1 xa.1 xa.2.1 xa.2.2.1 xa.2.2.2.1 xa.2.2.2.2.1 xa.2.2.2.2.2.1 xa.2.2.2.2.2.2.1 xf xg xk xc.1 xc.2.1 xe xj) b1,6⟩) ⟨⟨vI64 u0,rfl,t_⟩,⟨rfl,rfl,zaT v0,rfl,rfl,t_⟩,rfl,rfl⟩ ?_;refine zau zaI ?_;refine zaa (zaa (zaj ?_));refine zat 2 zaI ?_;refine xY (eqR1 _ _ rfl) hX zaI rfl t_ ?_;refine xY (zhe _ _ rfl) hX zaI rfl t_ ?_;refine zat 1 zaI ?_;refine j0 (Y':=⟨[(0,⟨.hptr,((3:Nat),(0:Nat))⟩),(11,⟨.lit,zc1 fix⟩),(12,⟨i64,((0:Nat):Int)⟩)],rdL fix (lvA x0 x1 x2 x3 x4 x5 x6 x7 x8 x9 xh xi xb.1 xb.2.1 xb.2.2.1 xb.2.2.2.1 xb.2.2.2.2.1 xa.1 xa.2.1 xa.2.2.1 xa.2.2.2.1 xa.2.2.2.2.1 xa.2.2.2.2.2.1 xa.2.2.2.2.2.2.1 xf xg xk xc.1 xc.2.1 xe xj) b1,6⟩) ⟨⟨rfl,rfl,rfl,t_⟩,⟨rfl,rfl,rfl,rfl,rfl,t_⟩,rfl,rfl⟩ ?_;refine kW (m:=30) 5 hX rfl rfl uB rfl rfl (rc:=[]) (cp:=[4,2]) rfl rfl [] [⟨.hptr,((4:Nat),(0:Nat))⟩,⟨.optr bs,⟨2,bs,.here⟩⟩] rfl rfl rfl (N:=zls fix (x0,x1,x2,x3,x4,x5,x6,x7,x8,x9,xh,xi,xb,xa,xf,xg,xk,xc,xe,xj,()) b1 (0) 6) (E1:=rdL fix (lvA x0 x1 x2 x3 x4 x5 x6 x7 x8 x9 xh xi xb.1 xb.2.1 xb.2.2.1 xb.2.2.2.1 xb.2.2.2.2.1 xa.1 xa.2.1 xa.2.2.1 xa.2.2.2.1 xa.2.2.2.2.1 xa.2.2.2.2.2.1 xa.2.2.2.2.2.2.1 xf xg xk xc.1 xc.2.1 xe xj) b1)
  (λwz Xz c1 c2 c3 c4 c5 _ _ _=>zhM c1 c2 c3 c4 c5 fix (x0,x1,x2,x3,x4,x5,x6,x7,x8,x9,xh,xi,xb,xa,xf,xg,xk,xc,xe,xj,()) b1 (0) hn 6 d_) (λv E nx h=>?_) (λv E nx h=>?_)
 .obtain⟨rfl,rfl,rfl⟩:=h;rfl
 obtain⟨rfl,rfl,rfl⟩:=h;refine j0 (Y':=⟨[(13,⟨bs,[]⟩),(0,⟨.hptr,((3:Nat),(0:Nat))⟩)],rdL fix (lvA x0 x1 x2 x3 x4 x5 x6 x7 x8 x9 xh xi xb.1 xb.2.1 xb.2.2.1 xb.2.2.2.1 xb.2.2.2.2.1 xa.1 xa.2.1 xa.2.2.1 xa.2.2.2.1 xa.2.2.2.2.1 xa.2.2.2.2.2.1 xa.2.2.2.2.2.2.1 xf xg xk xc.1 xc.2.1 xe xj) xd,6⟩) ⟨⟨congrArg (λz=>(⟨bs,z⟩:V)) ht,rfl,t_⟩,⟨rfl,rfl,zaT hd,rfl,rfl,t_⟩,rfl,rfl⟩ ?_;refine zau zaI ?_;refine zaa (zaa (zab zaI ?_));refine zae rfl (λhb=>?_) (λ_=>?_)
 .cases (show false=true from hb)
 apply zaf;exact⟨.inl rfl,rfl,rfl,rfl⟩
set_option maxHeartbeats 8000000 in
theorem zvG{w1:zj}{X:Ownr}(hX:X.Ok w1)(hG:X.G=dG)(hK:X.K=5)(xn:X.ρ=none)(hD:X.D=[])(fx:Nat->Nat)(xm:∀i,i<5->X.fix i=fx i)(l:lt.T)(s:se.T)(hs:sndG s)(hr:seR s)(b xd:List UInt8)(hb:b=leB ((zp (serB s):Nat):Int) 4++(serB s++xd)):
  zc3 zf w1 X 35 40 (frV 0 [⟨.hptr,((3:Nat),(0:Nat))⟩]) (rdE fx l b) 6 (NMt fx (upS s l) xd 6):=by
 obtain⟨G',O',K',fix,D',xo,B'⟩:=X;obtain rfl:=hG;obtain rfl:=hK;obtain rfl:=xn;obtain rfl:=hD;have hE:∀l b,rdE fx l b=rdE fix l b:=λl b=>by
  have f2:fix 2=fx 2:=xm 2 d_;have f4:fix 4=fx 4:=xm 4 d_;unfold rdE rdL zc1;rw[f2,f4]
 unfold NMt;simp only[hE];obtain⟨(x0:Int),(x1:Int),(x2:Int),(x3:Int),(x4:Int),(x5:Int),(x6:Int),(x7:Int),(x8:Int),(x9:Int),(xi:Int),(xh:Int),(xb:mv.T),(xa:se.T),(xf:Int),(xg:Int),(xk:Int),(xc:sp.T),(xe:List Int),(xj:List UInt8),⟨⟩⟩:=l;have xq:=ze0 hs;have xp:8<=(serB s).length:=by
  unfold serB;rw[zl,zbC];show 8<=8*1+_;omega
 obtain⟨b1,xl⟩:∃y,y=serB s++xd:=⟨_,rfl⟩;have u0:nuV b 4=(((serB s).length:Nat):Int):=by rw[hb];exact nuk 4 d_ o_ (fa (show((zp (serB s):Nat):Int)<=60000 by omega) d_) _
 have v0:b.drop 4=b1:=by rw[hb,xl];exact zfo _ _ _
 have w0:4<=b.length:=by rw[hb];exact lenB _ _ _
 have hn:(serB s).length<=b1.length:=by rw[xl,zl];omega
 have ht:b1.take (serB s).length=serB s:=by rw[xl,qQ]
 have hd:b1.drop (serB s).length=xd:=by rw[xl,jC]
 refine zbP Tryz.func35 rfl rfl (.inl rfl) rfl rfl ?_;change AWP _ _ _ _ _ ⟨[(0,⟨.hptr,((3:Nat),(0:Nat))⟩)],rdL fix (lvA x0 x1 x2 x3 x4 x5 x6 x7 x8 x9 xi xh xb.1 xb.2.1 xb.2.2.1 xb.2.2.2.1 xb.2.2.2.2.1 xa.1 xa.2.1 xa.2.2.1 xa.2.2.2.1 xa.2.2.2.2.1 xa.2.2.2.2.2.1 xa.2.2.2.2.2.2.1 xf xg xk xc.1 xc.2.1 xe xj) b,6⟩ _;refine zaa (zaa (zaj ?_));refine zat 1 zaI ?_;refine kn (m:=23) 5 hX rfl rfl jO rfl rfl rfl (N:=NNum fix (x0,x1,x2,x3,x4,x5,x6,x7,x8,x9,xi,xh,xb,xa,xf,xg,xk,xc,xe,xj,()) b 4 6) (E1:=rdL fix (lvA x0 x1 x2 x3 x4 x5 x6 x7 x8 x9 xi xh xb.1 xb.2.1 xb.2.2.1 xb.2.2.2.1 xb.2.2.2.2.1 xa.1 xa.2.1 xa.2.2.1 xa.2.2.2.1 xa.2.2.2.2.1 xa.2.2.2.2.2.1 xa.2.2.2.2.2.2.1 xf xg xk xc.1 xc.2.1 xe xj) b)
  (λwz Xz c1 c2 c3 c4 c5 _ c7 _=>zfc c1 c2 c3 c4 c5 fix (λi hi=>c7 i hi) (x0,x1,x2,x3,x4,x5,x6,x7,x8,x9,xi,xh,xb,xa,xf,xg,xk,xc,xe,xj,()) b 4 d_ w0 6 d_) (λv E nx h=>?_) (λv E nx h=>?_)
 .obtain⟨rfl,rfl,rfl⟩:=h;rfl
 obtain⟨rfl,rfl,rfl⟩:=h;refine j0 (Y':=⟨[(7,⟨i64,(((serB s).length:Nat):Int)⟩),(0,⟨.hptr,((3:Nat),(0:Nat))⟩)],rdL fix (lvA x0 x1 x2 x3 x4 x5 x6 x7 x8 x9 xi xh xb.1 xb.2.1 xb.2.2.1 xb.2.2.2.1 xb.2.2.2.2.1 xa.1 xa.2.1 xa.2.2.1 xa.2.2.2.1 xa.2.2.2.2.1 xa.2.2.2.2.2.1 xa.2.2.2.2.2.2.1 xf xg xk xc.1 xc.2.1 xe xj) b1,6⟩) ⟨⟨vI64 u0,rfl,t_⟩,⟨rfl,rfl,zaT v0,rfl,rfl,t_⟩,rfl,rfl⟩ ?_;refine zau zaI ?_;refine zaa (zaa (zaj ?_));refine zat 2 zaI ?_;refine xY (eqR1 _ _ rfl) hX zaI rfl t_ ?_;refine xY (zhe _ _ rfl) hX zaI rfl t_ ?_;refine zat 1 zaI ?_;refine j0 (Y':=⟨[(0,⟨.hptr,((3:Nat),(0:Nat))⟩),(11,⟨.lit,zc1 fix⟩),(12,⟨i64,(((serB s).length:Nat):Int)⟩)],rdL fix (lvA x0 x1 x2 x3 x4 x5 x6 x7 x8 x9 xi xh xb.1 xb.2.1 xb.2.2.1 xb.2.2.2.1 xb.2.2.2.2.1 xa.1 xa.2.1 xa.2.2.1 xa.2.2.2.1 xa.2.2.2.2.1 xa.2.2.2.2.2.1 xa.2.2.2.2.2.2.1 xf xg xk xc.1 xc.2.1 xe xj) b1,6⟩) ⟨⟨rfl,rfl,rfl,t_⟩,⟨rfl,rfl,rfl,rfl,rfl,t_⟩,rfl,rfl⟩ ?_;refine kW (m:=30) 5 hX rfl rfl uB rfl rfl (rc:=[]) (cp:=[4,2]) rfl rfl [] [⟨.hptr,((4:Nat),(0:Nat))⟩,⟨.optr bs,⟨2,bs,.here⟩⟩] rfl rfl rfl (N:=zls fix (x0,x1,x2,x3,x4,x5,x6,x7,x8,x9,xi,xh,xb,xa,xf,xg,xk,xc,xe,xj,()) b1 ((serB s).length) 6) (E1:=rdL fix (lvA x0 x1 x2 x3 x4 x5 x6 x7 x8 x9 xi xh xb.1 xb.2.1 xb.2.2.1 xb.2.2.2.1 xb.2.2.2.2.1 xa.1 xa.2.1 xa.2.2.1 xa.2.2.2.1 xa.2.2.2.2.1 xa.2.2.2.2.2.1 xa.2.2.2.2.2.2.1 xf xg xk xc.1 xc.2.1 xe xj) b1)
  (λwz Xz c1 c2 c3 c4 c5 _ _ _=>zhM c1 c2 c3 c4 c5 fix (x0,x1,x2,x3,x4,x5,x6,x7,x8,x9,xi,xh,xb,xa,xf,xg,xk,xc,xe,xj,()) b1 ((serB s).length) hn 6 d_) (λv E nx h=>?_) (λv E nx h=>?_)
 .obtain⟨rfl,rfl,rfl⟩:=h;rfl
 obtain⟨rfl,rfl,rfl⟩:=h;refine j0 (Y':=⟨[(13,⟨bs,serB s⟩),(0,⟨.hptr,((3:Nat),(0:Nat))⟩)],rdL fix (lvA x0 x1 x2 x3 x4 x5 x6 x7 x8 x9 xi xh xb.1 xb.2.1 xb.2.2.1 xb.2.2.2.1 xb.2.2.2.2.1 xa.1 xa.2.1 xa.2.2.1 xa.2.2.2.1 xa.2.2.2.2.1 xa.2.2.2.2.2.1 xa.2.2.2.2.2.2.1 xf xg xk xc.1 xc.2.1 xe xj) xd,6⟩) ⟨⟨congrArg (λz=>(⟨bs,z⟩:V)) ht,rfl,t_⟩,⟨rfl,rfl,zaT hd,rfl,rfl,t_⟩,rfl,rfl⟩ ?_;refine zau zaI ?_;refine zaa (zaa (zab zaI ?_));refine zae rfl (λ_=>?_) (λhb=>?_)
 rotate_left
 .exfalso;have hb:decide ((((serB s).length:Nat):Int)>0)=false:=hb;have:=of_decide_eq_false hb;omega
 refine zaa (zaa (zab (zuM s) ?_ (hp:=by exact⟨rfl,hs,hr⟩)));obtain⟨s1,s2,s3,s4,s5,s6,s7,⟨⟩⟩:=s;refine zaa ?_;refine zdx (.cons (.refl _)<|.cons (.refl _)<|.cons (eqR0 _ _ rfl)<|.cons (eqLd _ _ rfl)<|.cons (.refl _)<|.cons (.refl _)<|.cons (.refl _)<|.cons (.refl _) .nil) dM hX zaI 5 (by kernel_rfl) rfl rfl ?_ ?_ ?_
 .trivial
 .trivial
 refine zaj ?_;refine zat 3 zaI ?_;refine xY (eqR2 _ _ rfl) hX zaI rfl t_ ?_;refine zat 6 zaI ?_ (hp:=by first|exact λh=>h|exact⟨λh=>h,λh=>h⟩|exact⟨λh=>h,λh=>h,λh=>h⟩);refine xY (eqR2 _ _ rfl) hX zaI rfl t_ ?_;refine zat 1 zaI ?_;refine j0 (Y':=⟨[],rdE fix (upS (s1,s2,s3,s4,s5,s6,s7,()) (x0,x1,x2,x3,x4,x5,x6,x7,x8,x9,xi,xh,xb,xa,xf,xg,xk,xc,xe,xj,())) xd,6⟩) ⟨t_,⟨rfl,rfl,rfl,rfl,rfl,t_⟩,rfl,rfl⟩ ?_;exact qu ⟨.inl rfl,rfl,rfl,rfl⟩
section
variable {P:zA}{K:Kn}{w0 w w':zj}{X:Ownr}{n:Nat}{Y:AS}{Q:Exit->AS->Prop}{ops:Array Oper}{U:Nat->zi}{a:Act}
theorem Sim.redoN(h:Sim w0 X n Y U a w){i:Nat}{o o':OObj}(hi:zq Y.E i=some o)(xb:o.isBuf=true)(xa:o'.isBuf=true)(hg:w.grownBy w' (zai (U i))){bv:zi}
  (x4:∀g,zai bv=some g->zai (U i)=some g\/w.heap.size<=g)
  (hr:∀O U',(∀g,g<w.heap.size->O g->OSet X Y.E U g)->OwnRep w' O U' 0 bv o') {t:Ty}{d:Nat} (hd:d<n) (hu:o'.under (Y.nx+1):=by exact λ_ e=>by cases e):
  ∃U',Sim w0 X n { F:=(d,⟨.obuf t,Y.nx⟩)::Y.F,E:=(Y.nx,some o')::(i,none)::Y.E,nx:=Y.nx+1 } U' (a.put (some d) bv) w':=by
 refine⟨λj=>if j=Y.nx then bv else U j,?_⟩;have xf:=h.lt i o hi;have x0:∀{j:Nat}{oj:OObj},zq ((Y.nx,some o')::(i,none)::Y.E) j=some oj->(j=Y.nx/\oj=o')\/(j≠Y.nx/\j≠i/\j<Y.nx/\zq Y.E j=some oj):=λ{j oj}hj=>by
  rw[zag]at hj;split at hj
  .rename_i e;cases hj;exact .inl ⟨e.symm,rfl⟩
  rename_i e1;rw[zag]at hj;split at hj
  .cases hj
  rename_i e2;exact .inr ⟨Ne.symm e1,Ne.symm e2,h.lt j oj hj,hj⟩
 have hO:∀g,g<w.heap.size->OSet X ((Y.nx,some o')::(i,none)::Y.E) (λj=>if j=Y.nx then bv else U j) g->OSet X Y.E U g:=λg x8 xc=>by
  rcases xc with h1|⟨j,oj,h1,h2⟩
  .exact .inl h1
  .rcases x0 h1 with ⟨rfl,rfl⟩|⟨e1,e2,e3,e4⟩
   .have h2:zai (if Y.nx=Y.nx then bv else U Y.nx)=some g:=h2;rw[if_pos rfl]at h2;rcases x4 g h2 with h3|h3
    .exact .inr ⟨i,o,hi,h3⟩
    .omega
   .have h2:zai (if j=Y.nx then bv else U j)=some g:=h2;rw[if_neg e1]at h2;exact .inr ⟨j,oj,e4,h2⟩
 have x1:Keeps w w' (OSet X Y.E U) (OSet X ((Y.nx,some o')::(i,none)::Y.E) (λj=>if j=Y.nx then bv else U j)):=
  ⟨hg.size,λg x8 xd=>hg.block g x8 λe=>xd (.inr ⟨i,o,hi,e.symm⟩),hO⟩
 have x5:=h.bel.grown hg λg e=>h.new i o g hi e;have fresh:∀g m om,m≠i->zq Y.E m=some om->zai bv=some g->zai (U m)≠some g:=λg m om hm x6 x2 x3=>by
  rcases x4 g x2 with h3|h3
  .exact h.inj i m o om hi x6 (Ne.symm hm) g h3 x3
  .have:=((h.own m om x6).block_lt x3).2;omega
 refine⟨?_,?_,x5,?_,?_,?_,?_,?_,⟨zL h.fix.1 (uZ _),λj hj=>?_⟩,?_,?_⟩
 .rw[Act.put_size];exact h.sz
 .rw[Act.put_defers];exact h.df
 .intro s;rw[Act.put_get (by rw[h.sz];exact hd)];rw[zal];by_cases hs:d=s
  .rw[if_pos hs,if_pos hs];show bv=if Y.nx=Y.nx then bv else U Y.nx
   rw[if_pos rfl]
  .rw[if_neg hs,if_neg hs];exact RepV.update _ _ _ (h.hb s) (RepV.keep x1 _ _ _ (h.fr s))
 .intro j oj hj;rcases x0 hj with ⟨rfl,rfl⟩|⟨e1,e2,e3,e4⟩
  .rw[if_pos rfl];exact hr _ _ hO
  .rw[if_neg e1];refine((h.own j oj e4).keep x1 λg x7=>hg.block g ((h.own j oj e4).block_lt x7).2 λe=>?_).update (h.hE j oj e4);exact h.inj i j o oj hi e4 (Ne.symm e2) g e.symm x7
 .intro j oj g hj;rcases x0 hj with ⟨rfl,rfl⟩|⟨e1,e2,e3,e4⟩
  .rw[if_pos rfl];intro x2;rcases x4 g x2 with h3|h3
   .exact h.new i o g hi h3
   .exact .inl (zL h.bel.size h3)
  .rw[if_neg e1];exact h.new j oj g e4
 .intro j k oj ok hj hk x9 g;rcases x0 hj with ⟨rfl,rfl⟩|⟨e1,e2,e3,e4⟩
  .rcases x0 hk with ⟨rfl,_⟩|⟨f1,f2,f3,f4⟩
   .exact absurd rfl x9
   .rw[if_pos rfl,if_neg f1];exact fresh g k ok f2 f4
  .rw[if_neg e1];rcases x0 hk with ⟨rfl,_⟩|⟨f1,f2,f3,f4⟩
   .rw[if_pos rfl];exact λx2 x3=>fresh g j oj e2 e4 x3 x2
   .rw[if_neg f1];exact h.inj j k oj ok e4 f4 x9 g
 .intro j oj hj;rcases x0 hj with ⟨rfl,rfl⟩|⟨e1,e2,e3,e4⟩
  .exact qw _
  .exact Nat.lt_succ_of_lt e3
 .have h1:=h.fix.2 j hj;have xg:=zF hj h.fix.1;refine⟨?_,λoj xe=>?_⟩
  .
   rw[if_neg o_];exact h1.1
  .rcases x0 xe with ⟨rfl,rfl⟩|⟨e1,e2,e3,e4⟩
   .omega
   .exact h1.2 oj e4
 .intro s;rw[zal];split
  .exact zu _
  .exact zL (h.hb s) (uZ _)
 .intro j oj hj;rcases x0 hj with ⟨rfl,rfl⟩|⟨e1,e2,e3,e4⟩
  .exact hu
  .exact λvs e v hv=>zL (h.hE j oj e4 vs e v hv) (uZ _)
theorem zpy(hX:X.Ok w0)(hK:KnOk P X.G K){B:yF}{L:List (Nat×Nat×V)}{done:List Nat}{E0 E1:Owns}{x0 i:Nat}(o:Oper)(ho:ops.toList[i]? =some o)(x4:o.guard=none){t te:zy}{sx y:zK}(x7:o.op=.call ⟨.builtin .append,#[sx,y],#[t,t]⟩){d:Nat}(x3:o.dst=some d)(x1:zO d n=true){Z:Ty}{j:Nat}{xs ys:List Z.T}
  (hu:P.underlying t=some (.slice te)) (x2:Lay P Z (.inl te)) (x5:24*Z.size<=100000) (x6:∀F,evO (zdd B L o++F) sx=⟨.obuf Z,j⟩) (hy:∀F,dat E0 (evO (zdd B L o++F) y)=⟨.slice Z,ys⟩) (hj:zq E0 j=some (.buf te Z xs)) (hlen:xs.length+ys.length<=1000000000)
  (hL:∀G,resJ L i G=(d,⟨.obuf Z,x0⟩)::G) (hE:∀k,zq ((x0,some (OObj.buf te Z (xs++ys)))::(j,none)::E0) k=zq E1 k):ud P w0 X n ops Q B L done E0 E1 x0 (x0+1) i:=by
 refine⟨o,ho,λF N _ _ hN=>uQ x4 λU a w hs=>?_⟩;have x1:d<n:=by simpa using x1
 have e1:a.eval sx=U j:=by
  have h1:=hs.ops sx;rw[show evO _ sx=_ from x6 F]at h1;exact h1
 have h2:=znq hs.own (hy F) (hs.ops y);obtain⟨v',w',k1,k2,k3,k4⟩:=zf2 (P:=P) hu x2 x5 o.type (zk _) (hs.own j _ hj) (λg hg=>.inr ⟨j,_,hj,hg⟩) h2 hlen;obtain⟨U',x8⟩:=hs.redoN hj rfl rfl k2 (bv:=v') k3 (t:=Z) (o':=.buf te Z (xs++ys)) (λO _ hO=>k4 O hO) x1;refine zba (u:=v') (w':=w') ?_ (by rw[x3];exact⟨_,U',x8,hN _ (hL _).symm hE rfl⟩);unfold execOp;rw[<-e1]at k1;simp[x7,resolve,invoke,builtin,k1]
theorem zkf(m p1 p2:Nat)(E1 E2:Owns)(x1 x0:Nat)(B:yF)(L:List (Nat×Nat×V))(xb:P.follows .mixedOrders=true)(hX:X.Ok w0){id:Nat}(f:Nat)(hf:ops.toList.length=f)(x9:xM m f=true)(hb:zeQ ops=true)(ht:zgA ops.toList m f=true)
  (hd:disB ((L.map (·.2.1))++(B.map (·.1)))=true) (hB:Sub Y.F B) (x4:hasN (zbN ops.toList p2) p1=true) (x7:p1≠p2) (x3:AllI (λi=>(i≠p1->i≠p2->∀E nx,(E,nx)∈ [(Y.E,Y.nx),(E1,x1),(E2,x0)]->StepK P w0 X n ops (QC w0 X n Q) B L E nx i)/\(i=p1->∀done,ud P w0 X n ops (QC w0 X n Q) B L done Y.E E1 Y.nx x1 i)/\(i=p2->∀done,ud P w0 X n ops (QC w0 X n Q) B L done E1 E2 x1 x0 i)) m) (xa:bndB x0 (L.map (·.2)++B)=true) (x2:SubE E2 E2) (x8:bndE x0 E2=true) (xd:zO p2 m=true)
  (hlen:L.all (λp=>zO p.1 m)=true) (hq:TailA P w0 X n ops (QC w0 X n Q) (ops.toList.drop m) ⟨L.map (·.2)++B,E2,x0⟩) (hk:X.K<=x0:=by exact zb rfl) (xe:zaE ops.toList=true:=by rfl) (x5:zO p1 m=true:=by rfl):AWP P w0 X n (.region id ops true) Y Q:=by
 refine zrc m p1 p2 E1 E1 E2 x1 x1 x0 B L xb hX f hf x9 hb ht hd hB x7 (AllI.of λi hi=>⟨λh1 h2 E nx hE=>(x3.get i hi).1 h1 h2 E nx (by
  rcases zE.1 hE with h|hE
  .exact zE.2 (.inl h)
  rcases zE.1 hE with h|hE
  .exact zE.2 (.inr (zE.2 (.inl h)))
  .exact zE.2 (.inr hE)),λe done h1 xc=>⟨λ_=>(x3.get i hi).2.1 e done,λh2=>?_⟩,λe done h2 x6=>⟨λh1=>?_,λ_=>(x3.get i hi).2.2 e done⟩⟩) xa x2 x8 x5 xd hlen hq hk xe
 .rw[zax.2 (xc p2 (zax.1 h2) p1 x4)]at h1;cases h1
 .subst e;rw[zax.2 (x6 p1 x4)]at h1;cases h1
theorem StepR.of{B:yF}{L:List (Nat×Nat×V)}{E0 E1 E2:Owns}{x2 x0 x1 i p1 p2:Nat}(h1:i≠p1)(h2:i≠p2)(h:∀E nx,(E,nx)∈ [(E0,x2),(E1,x0),(E2,x1)]->StepK P w0 X n ops Q B L E nx i):
 (i≠p1->i≠p2->∀E nx,(E,nx)∈ [(E0,x2),(E1,x0),(E2,x1)]->StepK P w0 X n ops Q B L E nx i)/\(i=p1->∀done,ud P w0 X n ops Q B L done E0 E1 x2 x0 i)/\(i=p2->∀done,ud P w0 X n ops Q B L done E1 E2 x0 x1 i):=⟨λ_ _=>h,λe=>absurd e h1,λe=>absurd e h2⟩
theorem StepR.new{B:yF}{L:List (Nat×Nat×V)}{E0 E1 E2:Owns}{x1 x0 x2 p1 p2:Nat}(x3:p1≠p2)(h:∀done,ud P w0 X n ops Q B L done E0 E1 x1 x0 p1):
 (p1≠p1->p1≠p2->∀E nx,(E,nx)∈ [(E0,x1),(E1,x0),(E2,x2)]->StepK P w0 X n ops Q B L E nx p1)/\(p1=p1->∀done,ud P w0 X n ops Q B L done E0 E1 x1 x0 p1)/\(p1=p2->∀done,ud P w0 X n ops Q B L done E1 E2 x0 x2 p1):=⟨λh=>absurd rfl h,λ_=>h,λe=>absurd e x3⟩
theorem StepR.set{B:yF}{L:List (Nat×Nat×V)}{E0 E1 E2:Owns}{x2 x0 x1 p1 p2:Nat}(x3:p2≠p1)(h:∀done,ud P w0 X n ops Q B L done E1 E2 x0 x1 p2):
 (p2≠p1->p2≠p2->∀E nx,(E,nx)∈ [(E0,x2),(E1,x0),(E2,x1)]->StepK P w0 X n ops Q B L E nx p2)/\(p2=p1->∀done,ud P w0 X n ops Q B L done E0 E1 x2 x0 p2)/\(p2=p2->∀done,ud P w0 X n ops Q B L done E1 E2 x0 x1 p2):=⟨λ_ h=>absurd rfl h,λe=>absurd e x3,λ_=>h⟩
end
def lvO(q:Nat)(x0:Int)(x1:Int)(x2:Int)(x3:Int)(x4:Int)(x5:Int)(x6:Int)(x7:Int)(x8:Int)(x9:Int)(xb:Int)(xc:Int)(m1:Int)(m2:Bool)(m3:Int)(m4:Int)(m5:Int)(s1:List nd.T)(s2:Int)(s3:Int)(s4:List UInt8)(s5:Int)(s6:Int)(s7:List mv.T)(xe:Int)(xf:Int)(xd:Int)(w1:Int)(w2:Int)(xg:List Int)(xa:List UInt8):List V:=[⟨i64,x0⟩,⟨i64,x1⟩,⟨i64,x2⟩,⟨i64,x3⟩,⟨i64,x4⟩,⟨i64,x5⟩,⟨i64,x6⟩,⟨i64,x7⟩,⟨i64,x8⟩,⟨i64,x9⟩,⟨i64,xb⟩,⟨i64,xc⟩,⟨i64,m1⟩,⟨.bool,m2⟩,⟨i64,m3⟩,⟨i64,m4⟩,⟨i64,m5⟩,⟨.slice nd,s1⟩,⟨i64,s2⟩,⟨i64,s3⟩,⟨.str,s4⟩,⟨i64,s5⟩,⟨i64,s6⟩,⟨.slice mv,s7⟩,⟨i64,xe⟩,⟨i64,xf⟩,⟨i64,xd⟩,⟨i64,w1⟩,⟨i64,w2⟩,⟨.obuf i64,q⟩,⟨u8,zx (α:=UInt8) xa 0 0⟩,⟨u8,zx (α:=UInt8) xa 1 0⟩,⟨u8,zx (α:=UInt8) xa 2 0⟩,⟨u8,zx (α:=UInt8) xa 3 0⟩,⟨u8,zx (α:=UInt8) xa 4 0⟩,⟨u8,zx (α:=UInt8) xa 5 0⟩,⟨u8,zx (α:=UInt8) xa 6 0⟩,⟨u8,zx (α:=UInt8) xa 7 0⟩,⟨u8,zx (α:=UInt8) xa 8 0⟩,⟨u8,zx (α:=UInt8) xa 9 0⟩,⟨u8,zx (α:=UInt8) xa 10 0⟩,⟨u8,zx (α:=UInt8) xa 11 0⟩,⟨u8,zx (α:=UInt8) xa 12 0⟩,⟨u8,zx (α:=UInt8) xa 13 0⟩,⟨u8,zx (α:=UInt8) xa 14 0⟩,⟨u8,zx (α:=UInt8) xa 15 0⟩,⟨u8,zx (α:=UInt8) xa 16 0⟩,⟨u8,zx (α:=UInt8) xa 17 0⟩,⟨u8,zx (α:=UInt8) xa 18 0⟩,⟨u8,zx (α:=UInt8) xa 19 0⟩,⟨u8,zx (α:=UInt8) xa 20 0⟩,⟨u8,zx (α:=UInt8) xa 21 0⟩,⟨u8,zx (α:=UInt8) xa 22 0⟩,⟨u8,zx (α:=UInt8) xa 23 0⟩,⟨u8,zx (α:=UInt8) xa 24 0⟩,⟨u8,zx (α:=UInt8) xa 25 0⟩,⟨u8,zx (α:=UInt8) xa 26 0⟩,⟨u8,zx (α:=UInt8) xa 27 0⟩,⟨u8,zx (α:=UInt8) xa 28 0⟩,⟨u8,zx (α:=UInt8) xa 29 0⟩,⟨u8,zx (α:=UInt8) xa 30 0⟩,⟨u8,zx (α:=UInt8) xa 31 0⟩]
theorem zna{c:List Int}(hc:∀x∈c,0<=x/\x<=255){k:Nat}(hk:k<c.length):(((((c.map λx=>leB x 1).flatten).getD k 0).toNat:Nat):Int)=c[k]:=by
 induction c generalizing k with
 |nil=>exact absurd hk (Nat.not_lt_zero _)
 |cons x c ih=>
  have e:((x::c).map λx=>leB x 1).flatten=zM (x%256).toNat::((c.map λx=>leB x 1).flatten):=rfl;rw[e];cases k with
  |zero=>
   have h:=hc x (by simp);show(((zM (x%256).toNat).toNat:Nat):Int)=x;rw[UInt8.toNat_ofNat'];omega
  |succ k=>
   have:=ih (λy hy=>hc y (by simp[hy])) (k:=k) (by simpa using hk)
   simpa using this
theorem zm9(c:List Int):((c.map λx=>leB x 1).flatten).length=c.length:=by
 induction c with
 |nil=>rfl
 |cons x c ih=>
  show(zM (x%256).toNat::((c.map λx=>leB x 1).flatten)).length=c.length+1;rw[yT,ih]
set_option maxHeartbeats 8000000 in
theorem zv4{w1:zj}{X:Ownr}(hX:X.Ok w1)(hG:X.G=dG)(hK:X.K=5)(xt:X.ρ=none)(hD:X.D=[])(fx:Nat->Nat)(xn:∀i,i<5->X.fix i=fx i)(l:lt.T)(c:List Int)(hc:∀x∈c,0<=x/\x<=255)(xv:c.length<=65536)(b xd:List UInt8)(hb:b=celB c++xd):
  zc3 zf w1 X 37 36 (frV 0 [⟨.hptr,((3:Nat),(0:Nat))⟩]) (rdE fx l b) 6 (λv E nx=>v=⟨.junk,()⟩/\E=rdF fx (upC c l) xd/\nx=6):=by
 obtain⟨G',O',K',fix,D',xu,B'⟩:=X;obtain rfl:G'=dG:=hG;obtain rfl:K'=5:=hK;obtain rfl:xu=none:=xt;obtain rfl:D'=[]:=hD;have hE:∀l b,rdE fx l b=rdE fix l b:=λl b=>by
  have f2:fix 2=fx 2:=xn 2 d_;have f4:fix 4=fx 4:=xn 4 d_;unfold rdE rdL zc1;rw[f2,f4]
 have hF:∀l b,rdF fx l b=rdF fix l b:=λl b=>by
  have f2:fix 2=fx 2:=xn 2 d_;have f4:fix 4=fx 4:=xn 4 d_;unfold rdF rdL zc1;rw[f2,f4]
 simp only[hE,hF];obtain⟨(x0:Int),(x1:Int),(x2:Int),(x3:Int),(x4:Int),(x5:Int),(x6:Int),(x7:Int),(x8:Int),(x9:Int),(xj:Int),(xi:Int),(xb:mv.T),(xa:se.T),(xg:Int),(xk:Int),(xh:Int),(xc:sp.T),(xe:List Int),(xf:List UInt8),⟨⟩⟩:=l;obtain⟨cs,xq⟩:∃y,y=(c.map λx=>leB x 1).flatten:=⟨_,rfl⟩;have xl:cs.length=c.length:=by rw[xq,zm9]
 obtain⟨b1,xm⟩:∃y,y=cs++xd:=⟨_,rfl⟩;have xo:b=leB ((c.length:Nat):Int) 4++b1:=by
  rw[hb,xm,xq];unfold celB;rw[zB]
 have u0:nuV b 4=((c.length:Nat):Int):=by rw[xo];exact nuk 4 d_ o_ (fa (show((c.length:Nat):Int)<=65536 by omega) d_) _
 have v0:b.drop 4=b1:=by rw[xo];exact zfo _ _ _
 have w0:4<=b.length:=by rw[xo];exact lenB _ _ _
 have hn:c.length<=b1.length:=by rw[xm,zl];omega
 have ht:b1.take c.length=cs:=by rw[xm, <-xl,qQ]
 have hd:b1.drop c.length=xd:=by rw[xm, <-xl,jC]
 refine zbP Tryz.func37 rfl rfl (.inl rfl) rfl rfl ?_;change AWP _ _ _ _ _ ⟨[(0,⟨.hptr,((3:Nat),(0:Nat))⟩)],rdL fix (lvA x0 x1 x2 x3 x4 x5 x6 x7 x8 x9 xj xi xb.1 xb.2.1 xb.2.2.1 xb.2.2.2.1 xb.2.2.2.2.1 xa.1 xa.2.1 xa.2.2.1 xa.2.2.2.1 xa.2.2.2.2.1 xa.2.2.2.2.2.1 xa.2.2.2.2.2.2.1 xg xk xh xc.1 xc.2.1 xe xf) b,6⟩ _;refine zaa (zaa (zaj ?_));refine zat 1 zaI ?_;refine kn (m:=23) 5 hX rfl rfl jO rfl rfl rfl (N:=NNum fix (x0,x1,x2,x3,x4,x5,x6,x7,x8,x9,xj,xi,xb,xa,xg,xk,xh,xc,xe,xf,()) b 4 6) (E1:=rdL fix (lvA x0 x1 x2 x3 x4 x5 x6 x7 x8 x9 xj xi xb.1 xb.2.1 xb.2.2.1 xb.2.2.2.1 xb.2.2.2.2.1 xa.1 xa.2.1 xa.2.2.1 xa.2.2.2.1 xa.2.2.2.2.1 xa.2.2.2.2.2.1 xa.2.2.2.2.2.2.1 xg xk xh xc.1 xc.2.1 xe xf) b)
  (λwz Xz c1 c2 c3 c4 c5 _ c7 _=>zfc c1 c2 c3 c4 c5 fix (λi hi=>c7 i hi) (x0,x1,x2,x3,x4,x5,x6,x7,x8,x9,xj,xi,xb,xa,xg,xk,xh,xc,xe,xf,()) b 4 d_ w0 6 d_) (λv E nx h=>?_) (λv E nx h=>?_)
 .obtain⟨rfl,rfl,rfl⟩:=h;rfl
 obtain⟨rfl,rfl,rfl⟩:=h;refine j0 (Y':=⟨[(6,⟨i64,((c.length:Nat):Int)⟩),(0,⟨.hptr,((3:Nat),(0:Nat))⟩)],rdL fix (lvA x0 x1 x2 x3 x4 x5 x6 x7 x8 x9 xj xi xb.1 xb.2.1 xb.2.2.1 xb.2.2.2.1 xb.2.2.2.2.1 xa.1 xa.2.1 xa.2.2.1 xa.2.2.2.1 xa.2.2.2.2.1 xa.2.2.2.2.2.1 xa.2.2.2.2.2.2.1 xg xk xh xc.1 xc.2.1 xe xf) b1,6⟩) ⟨⟨vI64 u0,rfl,t_⟩,⟨rfl,rfl,zaT v0,rfl,rfl,t_⟩,rfl,rfl⟩ ?_;refine zau zaI ?_;refine zaa (zaa (zaj ?_));refine zat 2 zaI ?_;refine xY (eqR1 _ _ rfl) hX zaI rfl t_ ?_;refine xY (zhe _ _ rfl) hX zaI rfl t_ ?_;refine zat 1 zaI ?_;refine j0 (Y':=⟨[(0,⟨.hptr,((3:Nat),(0:Nat))⟩),(10,⟨.lit,zc1 fix⟩),(11,⟨i64,((c.length:Nat):Int)⟩)],rdL fix (lvA x0 x1 x2 x3 x4 x5 x6 x7 x8 x9 xj xi xb.1 xb.2.1 xb.2.2.1 xb.2.2.2.1 xb.2.2.2.2.1 xa.1 xa.2.1 xa.2.2.1 xa.2.2.2.1 xa.2.2.2.2.1 xa.2.2.2.2.2.1 xa.2.2.2.2.2.2.1 xg xk xh xc.1 xc.2.1 xe xf) b1,6⟩) ⟨⟨rfl,rfl,rfl,t_⟩,⟨rfl,rfl,rfl,rfl,rfl,t_⟩,rfl,rfl⟩ ?_;refine kW (m:=30) 5 hX rfl rfl uB rfl rfl (rc:=[]) (cp:=[4,2]) rfl rfl [] [⟨.hptr,((4:Nat),(0:Nat))⟩,⟨.optr bs,⟨2,bs,.here⟩⟩] rfl rfl rfl (N:=zls fix (x0,x1,x2,x3,x4,x5,x6,x7,x8,x9,xj,xi,xb,xa,xg,xk,xh,xc,xe,xf,()) b1 c.length 6) (E1:=rdL fix (lvA x0 x1 x2 x3 x4 x5 x6 x7 x8 x9 xj xi xb.1 xb.2.1 xb.2.2.1 xb.2.2.2.1 xb.2.2.2.2.1 xa.1 xa.2.1 xa.2.2.1 xa.2.2.2.1 xa.2.2.2.2.1 xa.2.2.2.2.2.1 xa.2.2.2.2.2.2.1 xg xk xh xc.1 xc.2.1 xe xf) b1)
  (λwz Xz c1 c2 c3 c4 c5 _ _ _=>zhM c1 c2 c3 c4 c5 fix (x0,x1,x2,x3,x4,x5,x6,x7,x8,x9,xj,xi,xb,xa,xg,xk,xh,xc,xe,xf,()) b1 c.length hn 6 d_) (λv E nx h=>?_) (λv E nx h=>?_)
 .obtain⟨rfl,rfl,rfl⟩:=h;rfl
 obtain⟨rfl,rfl,rfl⟩:=h;refine j0 (Y':=⟨[(12,⟨bs,cs⟩),(0,⟨.hptr,((3:Nat),(0:Nat))⟩)],rdL fix (lvA x0 x1 x2 x3 x4 x5 x6 x7 x8 x9 xj xi xb.1 xb.2.1 xb.2.2.1 xb.2.2.2.1 xb.2.2.2.2.1 xa.1 xa.2.1 xa.2.2.1 xa.2.2.2.1 xa.2.2.2.2.1 xa.2.2.2.2.2.1 xa.2.2.2.2.2.2.1 xg xk xh xc.1 xc.2.1 xe xf) xd,6⟩) ⟨⟨congrArg (λz=>(⟨bs,z⟩:V)) ht,rfl,t_⟩,⟨rfl,rfl,zaT hd,rfl,rfl,t_⟩,rfl,rfl⟩ ?_;refine zau zaI ?_;refine za9 1 29 3 i64 rfl rfl rfl ?_;refine zaa ?_;refine yK (ι:=Nat) (λk=>⟨[(0,⟨.hptr,((3:Nat),(0:Nat))⟩),(12,⟨bs,cs⟩),(13,⟨i64,((cs.length:Nat):Int)⟩),(14,⟨i64,(k:Int)⟩)],(6,some (.buf 3 i64 (c.take k)))::rdL fix (lvO 6 x0 x1 x2 x3 x4 x5 x6 x7 x8 x9 xj xi xb.1 xb.2.1 xb.2.2.1 xb.2.2.2.1 xb.2.2.2.2.1 xa.1 xa.2.1 xa.2.2.1 xa.2.2.2.1 xa.2.2.2.2.1 xa.2.2.2.2.2.1 xa.2.2.2.2.2.2.1 xg xk xh xc.1 xc.2.1 xe xf) xd,7⟩) (λk=>k<=c.length) (λk=>c.length-k) 0 (zk _) ⟨⟨rfl,rfl,rfl,rfl,t_⟩,⟨rfl,rfl,rfl,rfl,rfl,rfl,t_⟩,rfl,rfl⟩ ?_;intro k hk;refine zaa (zaa (zab zaI ?_));refine zaa ?_;refine zaN rfl (λhb=>?_) (λhb=>?_)
 .have hb:(k:Int)<((cs.length:Nat):Int):=hb;have xr:k<c.length:=o_;have n0:(0:Int)<=(k:Int):=o_;have q1:inR .i64 ((k:Int)+1):=zah o_ o_;have xp:(((cs.getD k 0).toNat:Nat):Int)=c[k]:=by rw[xq];exact zna hc xr
  have p3:(c.take k).length+1<=1000000000:=by rw[zP];omega
  apply zaf;refine zaa (zaa (zab zaI ?_ (hp:=by exact⟨n0,hb⟩)));obtain⟨x,hx⟩:∃x,x=cs.getD (k:Int).toNat 0:=⟨_,rfl⟩;have xs:((x.toNat:Nat):Int)=c[k]:=by rw[hx,zS];exact xp
  refine zak (Y':=⟨[(0,⟨.hptr,((3:Nat),(0:Nat))⟩),(4,⟨u8,x⟩),(12,⟨bs,cs⟩),(13,⟨i64,((cs.length:Nat):Int)⟩),(14,⟨i64,(k:Int)⟩)],(6,some (.buf 3 i64 (c.take k)))::rdL fix (lvO 6 x0 x1 x2 x3 x4 x5 x6 x7 x8 x9 xj xi xb.1 xb.2.1 xb.2.2.1 xb.2.2.2.1 xb.2.2.2.2.1 xa.1 xa.2.1 xa.2.2.1 xa.2.2.2.1 xa.2.2.2.2.1 xa.2.2.2.2.2.1 xa.2.2.2.2.2.2.1 xg xk xh xc.1 xc.2.1 xe xf) xd,7⟩) ⟨⟨rfl,congrArg (λz=>(⟨u8,z⟩:V)) hx.symm,rfl,rfl,rfl,t_⟩,⟨rfl,rfl,rfl,rfl,rfl,rfl,t_⟩,rfl,rfl⟩ ?_;refine zaa ?_;refine zkf 15 13 14 ((7,some (.buf 3 i64 [((x.toNat:Nat):Int)]))::(6,some (.buf 3 i64 (c.take k)))::rdL fix (lvO 6 x0 x1 x2 x3 x4 x5 x6 x7 x8 x9 xj xi xb.1 xb.2.1 xb.2.2.1 xb.2.2.2.1 xb.2.2.2.2.1 xa.1 xa.2.1 xa.2.2.1 xa.2.2.2.1 xa.2.2.2.2.1 xa.2.2.2.2.2.1 xa.2.2.2.2.2.2.1 xg xk xh xc.1 xc.2.1 xe xf) xd) ((8,some (.buf 3 i64 (c.take k++[((x.toNat:Nat):Int)])))::(6,none)::(7,some (.buf 3 i64 [((x.toNat:Nat):Int)]))::rdL fix (lvO 6 x0 x1 x2 x3 x4 x5 x6 x7 x8 x9 xj xi xb.1 xb.2.1 xb.2.2.1 xb.2.2.2.1 xb.2.2.2.2.1 xa.1 xa.2.1 xa.2.2.1 xa.2.2.2.1 xa.2.2.2.2.1 xa.2.2.2.2.2.1 xa.2.2.2.2.2.2.1 xg xk xh xc.1 xc.2.1 xe xf) xd) 8 9 [(0,⟨.hptr,((3:Nat),(0:Nat))⟩),(4,⟨u8,x⟩),(12,⟨bs,cs⟩),(13,⟨i64,((cs.length:Nat):Int)⟩),(14,⟨i64,(k:Int)⟩)] [(0,18,⟨.hptr,((3:Nat),(0:Nat))⟩),(1,19,⟨.hptr,((3:Nat),(0:Nat))⟩),(2,20,⟨.hptr,((3:Nat),(0:Nat))⟩),(3,21,⟨.hptr,((1:Nat),(0:Nat))⟩),(4,22,⟨.hptr,((3:Nat),(0:Nat))⟩),(5,23,⟨.hptr,((3:Nat),(0:Nat))⟩),(6,24,⟨.hptr,((3:Nat),(0:Nat))⟩),(7,25,⟨.hptr,((1:Nat),(0:Nat))⟩),(8,26,⟨.hptr,((1:Nat),(0:Nat))⟩),(9,27,⟨.hptr,((1:Nat),(29:Nat))⟩),(10,28,⟨.obuf i64,(6:Nat)⟩),(11,29,⟨u8,x⟩),(12,30,⟨i64,((x.toNat:Nat):Int)⟩),(13,31,⟨.obuf i64,(7:Nat)⟩),(14,32,⟨.obuf i64,(8:Nat)⟩)] dM hX 18 rfl rfl (by kernel_rfl) (by kernel_rfl) rfl ⟨rfl,rfl,rfl,rfl,rfl,t_⟩ rfl d_ ?_ rfl ⟨rfl,rfl,rfl,rfl,rfl,rfl,rfl,t_⟩ rfl rfl rfl ?_
  .refine(zZ (zZ (zZ (zZ (zZ (zZ (zZ (zZ (zZ (zZ (zZ (zZ (zZ (zZ (zZ kf ?_) ?_) ?_) ?_) ?_) ?_) ?_) ?_) ?_) ?_) ?_) ?_) ?_) ?_) ?_)
   .exact StepR.of d_ d_ λE nx hE=>by simp only[zE,zU,or_false,yL]at hE;rcases hE with ⟨rfl,rfl⟩|⟨rfl,rfl⟩|⟨rfl,rfl⟩<;>exact yI hX zaI k_
   .exact StepR.of d_ d_ λE nx hE=>by simp only[zE,zU,or_false,yL]at hE;rcases hE with ⟨rfl,rfl⟩|⟨rfl,rfl⟩|⟨rfl,rfl⟩<;>exact yI hX zaI k_
   .exact StepR.of d_ d_ λE nx hE=>by simp only[zE,zU,or_false,yL]at hE;rcases hE with ⟨rfl,rfl⟩|⟨rfl,rfl⟩|⟨rfl,rfl⟩<;>exact yW _ rfl _ (λ_=>rfl) λF N hN=>vR (eqR0 _ _ rfl) hX zaI rfl t_ hN
   .exact StepR.of d_ d_ λE nx hE=>by simp only[zE,zU,or_false,yL]at hE;rcases hE with ⟨rfl,rfl⟩|⟨rfl,rfl⟩|⟨rfl,rfl⟩<;>exact yW _ rfl _ (λ_=>rfl) λF N hN=>vR (eqLd _ _ rfl) hX zaI rfl t_ hN
   .exact StepR.of d_ d_ λE nx hE=>by simp only[zE,zU,or_false,yL]at hE;rcases hE with ⟨rfl,rfl⟩|⟨rfl,rfl⟩|⟨rfl,rfl⟩<;>exact yI hX zaI k_
   .exact StepR.of d_ d_ λE nx hE=>by simp only[zE,zU,or_false,yL]at hE;rcases hE with ⟨rfl,rfl⟩|⟨rfl,rfl⟩|⟨rfl,rfl⟩<;>exact yI hX zaI k_
   .exact StepR.of d_ d_ λE nx hE=>by simp only[zE,zU,or_false,yL]at hE;rcases hE with ⟨rfl,rfl⟩|⟨rfl,rfl⟩|⟨rfl,rfl⟩<;>exact yW _ rfl _ (λ_=>rfl) λF N hN=>vR (eqR0 _ _ rfl) hX zaI rfl t_ hN
   .exact StepR.of d_ d_ λE nx hE=>by simp only[zE,zU,or_false,yL]at hE;rcases hE with ⟨rfl,rfl⟩|⟨rfl,rfl⟩|⟨rfl,rfl⟩<;>exact yW _ rfl _ (λ_=>rfl) λF N hN=>vR (eqLd _ _ rfl) hX zaI rfl t_ hN
   .exact StepR.of d_ d_ λE nx hE=>by simp only[zE,zU,or_false,yL]at hE;rcases hE with ⟨rfl,rfl⟩|⟨rfl,rfl⟩|⟨rfl,rfl⟩<;>exact yI hX zaI k_
   .exact StepR.of d_ d_ λE nx hE=>by simp only[zE,zU,or_false,yL]at hE;rcases hE with ⟨rfl,rfl⟩|⟨rfl,rfl⟩|⟨rfl,rfl⟩<;>exact yI hX zaI k_
   .exact StepR.of d_ d_ λE nx hE=>by simp only[zE,zU,or_false,yL]at hE;rcases hE with ⟨rfl,rfl⟩|⟨rfl,rfl⟩|⟨rfl,rfl⟩<;>exact yI hX zaI k_
   .exact StepR.of d_ d_ λE nx hE=>by simp only[zE,zU,or_false,yL]at hE;rcases hE with ⟨rfl,rfl⟩|⟨rfl,rfl⟩|⟨rfl,rfl⟩<;>exact yI hX zaI k_
   .exact StepR.of d_ d_ λE nx hE=>by simp only[zE,zU,or_false,yL]at hE;rcases hE with ⟨rfl,rfl⟩|⟨rfl,rfl⟩|⟨rfl,rfl⟩<;>exact yI hX zaI k_
   .exact StepR.new d_ (λ_=>StepN.eval hX zaI ⟨_,rfl,λF=>⟨_,rfl,t_,rfl,λj=>(match j with |0=>rfl|1=>rfl|2=>rfl|3=>rfl|4=>rfl|5=>rfl|6=>rfl|7=>rfl|_+8=>rfl),rfl⟩⟩)
   .exact StepR.set d_ (λ_=>zpy hX zaI _ rfl rfl rfl rfl rfl Tryz.underlying38 (zfi.is (t:=3) rfl) d_ (λ_=>rfl) (λ_=>rfl) rfl p3 (λ_=>rfl) (λj=>(match j with |0=>rfl|1=>rfl|2=>rfl|3=>rfl|4=>rfl|5=>rfl|6=>rfl|7=>rfl|8=>rfl|_+9=>rfl)))
  iterate 3 (refine yD hX zaI rfl t_ ?_)
  refine QC.of ?_;refine zak (Y':=⟨[(0,⟨.hptr,((3:Nat),(0:Nat))⟩),(12,⟨bs,cs⟩),(13,⟨i64,((cs.length:Nat):Int)⟩),(14,⟨i64,(k:Int)⟩)],(8,some (.buf 3 i64 (c.take k++[((x.toNat:Nat):Int)])))::rdL fix (lvO 8 x0 x1 x2 x3 x4 x5 x6 x7 x8 x9 xj xi xb.1 xb.2.1 xb.2.2.1 xb.2.2.2.1 xb.2.2.2.2.1 xa.1 xa.2.1 xa.2.2.1 xa.2.2.2.1 xa.2.2.2.2.1 xa.2.2.2.2.2.1 xa.2.2.2.2.2.2.1 xg xk xh xc.1 xc.2.1 xe xf) xd,9⟩) ⟨⟨rfl,rfl,rfl,rfl,t_⟩,⟨rfl,rfl,rfl,rfl,rfl,rfl,t_⟩,rfl,rfl⟩ ?_;refine gI [(0,0),(1,1),(2,2),(3,3),(4,4),(8,6)] 7 ?_ rfl (zb rfl);rw[xs, <-zN xr];refine zaa (zab zaI ?_);exact⟨k+1,by omega,by omega,⟨rfl,rfl,rfl,rfl,t_⟩,⟨rfl,rfl,rfl,rfl,rfl,rfl,t_⟩,rfl,rfl⟩
 have hb:¬((k:Int)<((cs.length:Nat):Int)):=hb;obtain rfl:k=c.length:=o_;rw[yX];refine ug hX 1 29 ?_;refine zak (Y':=⟨[],rdF fix (upC c (x0,x1,x2,x3,x4,x5,x6,x7,x8,x9,xj,xi,xb,xa,xg,xk,xh,xc,xe,xf,())) xd,6⟩) ⟨t_,⟨rfl,rfl,rfl,rfl,rfl,t_⟩,rfl,rfl⟩ ?_;apply zan;exact⟨.inl rfl,rfl,rfl,rfl⟩
section
variable {P:zA}{K:Kn}{w0 w:zj}{X:Ownr}{n m:Nat}{Q:Exit->AS->Prop}{ops:Array Oper}{F:yF}{E:Owns}{nx:Nat}{U:Nat->zi}{O:Nat->Prop}
theorem RepH.cut:∀{a b:List V}{cs:List zi},RepH w O U (a++b) cs->∃c1 c2,cs=c1++c2/\RepH w O U a c1/\RepH w O U b c2
 | [],b,cs,h=>⟨[],cs,rfl,rfl,h⟩
 |v::a,b,cs,⟨u,s,h1,h2,h3,h4⟩=>by
  obtain⟨c1,c2,rfl,h5,h6⟩:=RepH.cut (a:=a) (b:=b) h4;exact⟨u::c1,c2,h1,⟨u,c1,rfl,h2,h3,h5⟩,h6⟩
theorem zhW:∀y:List UInt8,RepH w O U (y.map λu=>(⟨.int .u8,u⟩:V)) (y.map λb=>Value.int .u8 ((b.toNat:Nat):Int))
 | []=>rfl
 |u::y=>⟨_,_,rfl,rfl,rfl,zhW y⟩
theorem zlr(hX:X.Ok w0)(hK:KnOk P X.G K){o:Oper}{M:AS->Prop}(xg:o.guard=none){sl:zy}{x yv:zK}(ho:o.op=.call ⟨.builtin .copy,#[x,yv],#[sl,sl]⟩)(xb:tis K.T sl (.slice (.int .u8))=true){d:Nat}(hd:o.dst=some d)(xe:zO d n=true){i N:Nat}{ty:zy}{pre mid post:List V}{y:List UInt8}
  (hi:i<X.K) (hE:zq E i=some (.hbox ty (pre++(mid++post)))) (hx:evO F x=⟨.lit,.slice (some ⟨X.fix i,pre.length,none⟩) N N⟩) (hy:evO F yv=⟨.slice (.int .u8),y⟩) (x4:y.length=N) (hm:mid.length=N) (hN:0<N)
  (xc:(OObj.hbox ty (pre++((y.map λu=>(⟨.int .u8,u⟩:V))++post))).under nx) (h:M ⟨(d,⟨.junk,()⟩)::F,(i,some (.hbox ty (pre++((y.map λu=>(⟨.int .u8,u⟩:V))++post))))::E,nx⟩):StepA P w0 X n ops o ⟨F,E,nx⟩ M Q:=by
 refine uQ xg λU a w hs=>?_;have xd:d<n:=by simpa using xe
 obtain⟨g,cs,x3,_,hg,hr⟩:=hs.own i _ hE;have x6:=(hs.fix.2 i hi).1;rw[x3]at x6;have xa:g=X.fix i:=yP x6;have e1:a.eval x=.slice (some ⟨g,pre.length,none⟩) N N:=by rw[xa];exact zaR hs hx
 have h2:=hs.ops yv;rw[show evO (AS.mk F E nx).F yv=_ from hy]at h2;have h2:RepC w (OSet X E U) (.slice (.int .u8)) y [a.eval yv]:=h2;obtain⟨v,ev,hS⟩:=h2;have ev:a.eval yv=v:=by simpa using ev
 rcases hS with ⟨rfl,_⟩|⟨g2,off2,c2,vs,hv,hne,_,_,_,_,hL,hC⟩
 .rw[<-x4]at hN;exact absurd hN (Nat.lt_irrefl _)
 rw[hv]at ev;have x5:=zdm hL;obtain⟨te,x8,_,x9⟩:=hK.t.is xb;obtain⟨c1,cr,rfl,r1,xf⟩:=RepH.cut hr;obtain⟨cm,c3,rfl,r2,r3⟩:=RepH.cut xf;have l1:=r1.len;have l2:=r2.len;have x7:vs.length=N:=by rw[x5,qY,x4]
 have x2:=run_copy_row (P:=P) w sl sl o.type te g pre.length N N ⟨g2,off2,none⟩ y.length c2 (c1++(cm++c3)).toArray ty vs x8 (by rw[x9.cellSize];rfl) hg (by rw[x7,x4];exact(Nat.min_self N).symm)
  (λj v hv=>by rw[Addr.add_mid];exact hC j v hv) (by simp only[List.size_toArray,zl];omega) (λv hv=>by rw[x5]at hv;obtain⟨u,_,rfl⟩:=List.mem_map.1 hv;rfl)
 generalize x1:((c1++(cm++c3)).toArray.toList.take pre.length++vs++(c1++(cm++c3)).toArray.toList.drop (pre.length+vs.length))=cells at x2;have x0:cells=c1++(vs++c3):=by
  rw[<-x1,x7,l1, <-hm,l2,zB]
  congr 1
  .simp
  .congr 1
   rw[<-zB, <-zl];show((c1++cm)++c3).drop (c1++cm).length=c3;exact jC
 have s1:=hs.write (i:=i) (w':=w.setRow g cells.toArray) (o':=.hbox ty (pre++((y.map λu=>(⟨.int .u8,u⟩:V))++post))) hE
  ⟨rfl,rfl,rfl,by simp[World.setRow],λk _ hk=>setRow_other w g k _ (λe=>hk (by rw[x3,e];rfl))⟩
  (λhk=>⟨g,cells,x3,zk _,setRow_heap w g _ _ ty _ hg,(congrArg (λz=>RepH (w.setRow g cells.toArray) (OSet X E U) U (pre++((y.map λu=>(⟨.int .u8,u⟩:V))++post)) z) (x0.trans (by rw[x5]))).mpr (RepH.append (r1.keep hk) (RepH.append (zhW y) (r3.keep hk)))⟩) rfl xc
 have s2:=s1.put (zY _ _) (v:=⟨.junk,()⟩) (u:=goInt vs.length) t_ (zk _) xd;refine zba (u:=goInt vs.length) (w':=w.setRow g cells.toArray) (zj5 ho e1 ev x2) ?_;rw[hd];exact⟨_,U,s2,h⟩
theorem zn1{q:Nat->Bool}:∀{F:List (Nat×V)},(∀p∈F,okV (λ_=>true) q p.2=true)->okF q F=true
 | [],_=>rfl
 |(s,v)::r,h=>by
  show(okV (λ_=>true) q v&&okF q r)=true;rw[h (s,v) (List.mem_cons_self ..),zn1 λp hp=>h p (List.mem_cons_of_mem _ hp)];rfl
theorem zog{q:Nat->Bool}:∀{F:List (Nat×V)},okF q F=true->∀p∈F,okV (λ_=>true) q p.2=true
 |(s,v)::r,h,p,hp=>by
  have h:(okV (λ_=>true) q v&&okF q r)=true:=h;rw[zh]at h;rcases zE.1 hp with rfl|hp
  .exact h.1
  .exact zog h.2 p hp
theorem StepN.subV(K:Nat)(hX:X.Ok w0){B:yF}{L:List (Nat×Nat×V)}{done:List Nat}{E1 E2:Owns}{x5 i:Nat}{f:FuncId}{x:zK}{args:Array zK}{ts:Array zy}{rc cp:List Nat}(o:Oper)(xi:ops.toList[i]? =some o)(ho:o.op=.call ⟨.value x,args,ts⟩)(xa:o.guard=none)(xh:∀(zas:Array zi)(w:zj),(callFunc f zas).run P w=.ok (.enter f zas) w){d:Nat}(hd:o.dst=some d)(xc:zO d n=true)
  (hx:∀F,evO (zdd B L o++F) x=⟨.lit,.func (.func f) (fixP X rc) (fixP X cp)⟩) (x8:(rc++cp).all (λi=>zO i X.K)=true) (vr vc:List V) (xf:vr.map zdn=rc.map some) (xj:vc.map zdn=cp.map some) {vs:List V} (xg:∀F,vr++args.toList.map (evO (zdd B L o++F))++vc=vs)
  {N:V->Owns->Nat->Prop}
  (hw:∀(w1:zj)(X':Ownr),X'.Ok w1->X'.G=X.G->X'.K=K->X'.ρ=none->X'.D=[]->(∀g,X'.R g->w0.heap.size<=g\/X.R g)->(∀i,i<X.K->X'.fix i=X.fix i)->w0.heap.size<=w1.heap.size->zc3 P w1 X' f m (frV 0 vs) E1 nx N)
  (xd:∀r E' x0,N r E' x0->zim K nx x0 E' r=true) (hN:∀r E' x0,N r E' x0->(∀G,resJ L i G=(d,r)::G)/\(∀j,zq (E'++E) j=zq E2 j)/\x0=x5)
  (xk:okF (qOut K) (B++L.map (·.2))=true) (x7:zdC K E=E1:=by rfl) (hb:zcX E K=true:=by rfl) (x9:xM K nx=true:=by rfl) (hK:xM X.K K=true:=by rfl) (xb:okE (λ_=>true) (qOut K) E=true:=by rfl) (xe:xM vs.length m=true:=by rfl) (x6:bndB nx (frV 0 vs)=true:=by rfl):ud P w0 X n ops Q B L done E E2 nx x5 i:=by
 refine⟨o,xi,λF M hF _ hM=>?_⟩;have x1:=zog xk;have x4:∀p:Nat×V,(p∈B\/∃q∈L,q.1∈done/\q.2=p)->okV (λ_=>true) (qOut K) p.2=true:=λp hp=>x1 p (by
  rcases hp with hp|⟨q,hq,_,rfl⟩
  .exact yJ.2 (.inl hp)
  .exact yJ.2 (.inr (uu hq)))
 have x2:∀p∈zdd B L o,okV (λ_=>true) (qOut K) p.2=true:=λp hp=>x1 p (by
  rcases yJ.1 hp with hp|hp
  .exact yJ.2 (.inl hp)
  .obtain⟨q,xl,x3⟩:=List.mem_filterMap.1 hp;rw[cond_eq_ite]at x3;split at x3
   .cases x3;exact yJ.2 (.inr (uu xl))
   .cases x3)
 refine StepA.subV K hX ho xa xh hd xc (hx F) x8 vr vc xf xj (xg F) hw xd (λr E' x0 h=>?_) x7 hb x9 hK (zn1 λp hp=>?_) xb xe x6
 .obtain⟨q1,q2,q3⟩:=hN r E' x0 h;exact hM _ (q1 _).symm q2 q3
 .rcases yJ.1 hp with hp|hp
  .exact x2 p hp
  .exact x4 p (hF p hp)
end
theorem zqN{d:List UInt8}(h:d.length=32):(d.map λu=>(⟨u8,u⟩:V))=[⟨u8,d.getD 0 0⟩,⟨u8,d.getD 1 0⟩,⟨u8,d.getD 2 0⟩,⟨u8,d.getD 3 0⟩,⟨u8,d.getD 4 0⟩,⟨u8,d.getD 5 0⟩,⟨u8,d.getD 6 0⟩,⟨u8,d.getD 7 0⟩,⟨u8,d.getD 8 0⟩,⟨u8,d.getD 9 0⟩,⟨u8,d.getD 10 0⟩,⟨u8,d.getD 11 0⟩,⟨u8,d.getD 12 0⟩,⟨u8,d.getD 13 0⟩,⟨u8,d.getD 14 0⟩,⟨u8,d.getD 15 0⟩,⟨u8,d.getD 16 0⟩,⟨u8,d.getD 17 0⟩,⟨u8,d.getD 18 0⟩,⟨u8,d.getD 19 0⟩,⟨u8,d.getD 20 0⟩,⟨u8,d.getD 21 0⟩,⟨u8,d.getD 22 0⟩,⟨u8,d.getD 23 0⟩,⟨u8,d.getD 24 0⟩,⟨u8,d.getD 25 0⟩,⟨u8,d.getD 26 0⟩,⟨u8,d.getD 27 0⟩,⟨u8,d.getD 28 0⟩,⟨u8,d.getD 29 0⟩,⟨u8,d.getD 30 0⟩,⟨u8,d.getD 31 0⟩]:=by
 have e:(xQ 32).map (λk=>(⟨u8,d.getD k 0⟩:V))=[⟨u8,d.getD 0 0⟩,⟨u8,d.getD 1 0⟩,⟨u8,d.getD 2 0⟩,⟨u8,d.getD 3 0⟩,⟨u8,d.getD 4 0⟩,⟨u8,d.getD 5 0⟩,⟨u8,d.getD 6 0⟩,⟨u8,d.getD 7 0⟩,⟨u8,d.getD 8 0⟩,⟨u8,d.getD 9 0⟩,⟨u8,d.getD 10 0⟩,⟨u8,d.getD 11 0⟩,⟨u8,d.getD 12 0⟩,⟨u8,d.getD 13 0⟩,⟨u8,d.getD 14 0⟩,⟨u8,d.getD 15 0⟩,⟨u8,d.getD 16 0⟩,⟨u8,d.getD 17 0⟩,⟨u8,d.getD 18 0⟩,⟨u8,d.getD 19 0⟩,⟨u8,d.getD 20 0⟩,⟨u8,d.getD 21 0⟩,⟨u8,d.getD 22 0⟩,⟨u8,d.getD 23 0⟩,⟨u8,d.getD 24 0⟩,⟨u8,d.getD 25 0⟩,⟨u8,d.getD 26 0⟩,⟨u8,d.getD 27 0⟩,⟨u8,d.getD 28 0⟩,⟨u8,d.getD 29 0⟩,⟨u8,d.getD 30 0⟩,⟨u8,d.getD 31 0⟩]:=rfl;rw[<-e];apply List.ext_getElem
 .simp[h]
 .intro i h1 h2;have hi:i<d.length:=by simpa using h1
  rw[fK,fK,fb,zH,zR hi];rfl
theorem slD{a:Act}{o:Oper}{g:Nat}(ho:o.op=.slice 40 (.tmp 7) none none none)(h:a.eval (.tmp 7)=.pointer (some ⟨g,30,none⟩))(w:zj):(execOp a.eval o).run zf w=.ok (.value (.slice (some ⟨g,30,none⟩) 32 32)) w:=by
 unfold execOp;simp only[ho];refine za7 ?_;rw[h];have x0:Lay zf u8 (.inl 5):=zfi.is (t:=5) rfl;exact zd4 (by kernel_rfl) (λw=>x0.sizeOf) g 30 w
set_option maxHeartbeats 8000000 in
theorem zvH{w1:zj}{X:Ownr}(hX:X.Ok w1)(hG:X.G=dG)(hK:X.K=5)(xn:X.ρ=none)(hD:X.D=[])(fx:Nat->Nat)(xl:∀i,i<5->X.fix i=fx i)(l:lt.T)(d:List UInt8)(hd:d.length=32)(b xk:List UInt8)(hb:b=d++xk):
  zc3 zf w1 X 38 15 (frV 0 [⟨.hptr,((3:Nat),(0:Nat))⟩]) (rdF fx l b) 6 (λv E nx=>v=⟨.junk,()⟩/\E=rdF fx (upD d l) xk/\nx=6):=by
 obtain⟨G',O',K',fix,D',xp,B'⟩:=X;obtain rfl:=hG;obtain rfl:=hK;obtain rfl:=xn;obtain rfl:=hD;have hE:∀l b,rdE fx l b=rdE fix l b:=λl b=>by
  have f2:fix 2=fx 2:=xl 2 d_;have f4:fix 4=fx 4:=xl 4 d_;unfold rdE rdL zc1;rw[f2,f4]
 have hF:∀l b,rdF fx l b=rdF fix l b:=λl b=>by
  have f2:fix 2=fx 2:=xl 2 d_;have f4:fix 4=fx 4:=xl 4 d_;unfold rdF rdL zc1;rw[f2,f4]
 simp only[hF];obtain⟨(x0:Int),(x1:Int),(x2:Int),(x3:Int),(x4:Int),(x5:Int),(x6:Int),(x7:Int),(x8:Int),(x9:Int),(xg:Int),(xh:Int),(xb:mv.T),(xa:se.T),(xi:Int),(xd:Int),(xe:Int),(xc:sp.T),(xf:List Int),(xj:List UInt8),⟨⟩⟩:=l;have u0:b.take 32=d:=by rw[hb, <-hd,qQ]
 have v0:b.drop 32=xk:=by rw[hb, <-hd,jC]
 have w0:32<=b.length:=by rw[hb,zl];omega
 refine zbP Tryz.func38 rfl rfl (.inl rfl) rfl rfl ?_;change AWP _ _ _ _ _ ⟨[(0,⟨.hptr,((3:Nat),(0:Nat))⟩)],rdL fix (lvB x0 x1 x2 x3 x4 x5 x6 x7 x8 x9 xg xh xb.1 xb.2.1 xb.2.2.1 xb.2.2.2.1 xb.2.2.2.2.1 xa.1 xa.2.1 xa.2.2.1 xa.2.2.2.1 xa.2.2.2.2.1 xa.2.2.2.2.2.1 xa.2.2.2.2.2.2.1 xi xd xe xc.1 xc.2.1 xf xj) b,6⟩ _;refine zkf 12 10 11 (rdL fix (lvB x0 x1 x2 x3 x4 x5 x6 x7 x8 x9 xg xh xb.1 xb.2.1 xb.2.2.1 xb.2.2.2.1 xb.2.2.2.2.1 xa.1 xa.2.1 xa.2.2.1 xa.2.2.2.1 xa.2.2.2.2.1 xa.2.2.2.2.2.1 xa.2.2.2.2.2.2.1 xi xd xe xc.1 xc.2.1 xf xj) b) (rdL fix (lvB x0 x1 x2 x3 x4 x5 x6 x7 x8 x9 xg xh xb.1 xb.2.1 xb.2.2.1 xb.2.2.2.1 xb.2.2.2.2.1 xa.1 xa.2.1 xa.2.2.1 xa.2.2.2.1 xa.2.2.2.2.1 xa.2.2.2.2.2.1 xa.2.2.2.2.2.2.1 xi xd xe xc.1 xc.2.1 xf xj) (b.drop 32)) 6 6 [(0,⟨.hptr,((3:Nat),(0:Nat))⟩)] [(0,2,⟨.hptr,((3:Nat),(0:Nat))⟩),(1,3,⟨.hptr,((3:Nat),(0:Nat))⟩),(2,4,⟨.hptr,((3:Nat),(0:Nat))⟩),(3,5,⟨.hptr,((1:Nat),(0:Nat))⟩),(4,6,⟨.hptr,((1:Nat),(0:Nat))⟩),(5,7,⟨.hptr,((1:Nat),(30:Nat))⟩),(6,8,⟨.lit,Value.slice (some ⟨fix 1,30,none⟩) 32 32⟩),(7,9,⟨.hptr,((3:Nat),(0:Nat))⟩),(8,10,⟨.hptr,((3:Nat),(0:Nat))⟩),(9,11,⟨.hptr,((3:Nat),(1:Nat))⟩),(10,12,⟨.lit,zc1 fix⟩),(11,13,⟨bs,b.take 32⟩)] dM hX 13 rfl rfl (by kernel_rfl) (by kernel_rfl) rfl ⟨rfl,t_⟩ rfl d_ ?_ rfl ⟨rfl,rfl,rfl,rfl,rfl,t_⟩ rfl rfl rfl ?_
 .refine(zZ (zZ (zZ (zZ (zZ (zZ (zZ (zZ (zZ (zZ (zZ (zZ kf ?_) ?_) ?_) ?_) ?_) ?_) ?_) ?_) ?_) ?_) ?_) ?_)
  .exact StepR.of d_ d_ λE nx hE=>by simp only[zE,zU,or_false,yL]at hE;rcases hE with ⟨rfl,rfl⟩|⟨rfl,rfl⟩|⟨rfl,rfl⟩<;>exact yI hX zaI k_
  .exact StepR.of d_ d_ λE nx hE=>by simp only[zE,zU,or_false,yL]at hE;rcases hE with ⟨rfl,rfl⟩|⟨rfl,rfl⟩|⟨rfl,rfl⟩<;>exact yI hX zaI k_
  .exact StepR.of d_ d_ λE nx hE=>by simp only[zE,zU,or_false,yL]at hE;rcases hE with ⟨rfl,rfl⟩|⟨rfl,rfl⟩|⟨rfl,rfl⟩<;>exact yW _ rfl _ (λ_=>rfl) λF N hN=>vR (eqR0 _ _ rfl) hX zaI rfl t_ hN
  .exact StepR.of d_ d_ λE nx hE=>by simp only[zE,zU,or_false,yL]at hE;rcases hE with ⟨rfl,rfl⟩|⟨rfl,rfl⟩|⟨rfl,rfl⟩<;>exact yW _ rfl _ (λ_=>rfl) λF N hN=>vR (eqLd _ _ rfl) hX zaI rfl t_ hN
  .exact StepR.of d_ d_ λE nx hE=>by simp only[zE,zU,or_false,yL]at hE;rcases hE with ⟨rfl,rfl⟩|⟨rfl,rfl⟩|⟨rfl,rfl⟩<;>exact yI hX zaI k_
  .exact StepR.of d_ d_ λE nx hE=>by simp only[zE,zU,or_false,yL]at hE;rcases hE with ⟨rfl,rfl⟩|⟨rfl,rfl⟩|⟨rfl,rfl⟩<;>exact yI hX zaI k_
  .exact StepR.of d_ d_ λE nx hE=>by simp only[zE,zU,or_false,yL]at hE;rcases hE with ⟨rfl,rfl⟩|⟨rfl,rfl⟩|⟨rfl,rfl⟩<;>exact StepK.val _ rfl rfl rfl rfl ⟨.lit,Value.slice (some ⟨fix 1,30,none⟩) 32 32⟩ rfl (λ_=>rfl) (λF U a w hs=>⟨_,slD rfl (zcD hs (x:=.tmp 7) rfl (by show 1<5;decide)) w,rfl⟩)
  .exact StepR.of d_ d_ λE nx hE=>by simp only[zE,zU,or_false,yL]at hE;rcases hE with ⟨rfl,rfl⟩|⟨rfl,rfl⟩|⟨rfl,rfl⟩<;>exact yI hX zaI k_
  .exact StepR.of d_ d_ λE nx hE=>by simp only[zE,zU,or_false,yL]at hE;rcases hE with ⟨rfl,rfl⟩|⟨rfl,rfl⟩|⟨rfl,rfl⟩<;>exact yI hX zaI k_
  .exact StepR.of d_ d_ λE nx hE=>by simp only[zE,zU,or_false,yL]at hE;rcases hE with ⟨rfl,rfl⟩|⟨rfl,rfl⟩|⟨rfl,rfl⟩<;>exact yW _ rfl _ (λ_=>rfl) λF N hN=>vR (eqR1 _ _ rfl) hX zaI rfl t_ hN
  .exact StepR.new d_ (λ_=>StepN.of (yW _ rfl _ (λ_=>rfl) λF N hN=>vR (zhe _ _ rfl) hX zaI rfl t_ hN))
  .exact StepR.set d_ (λ_=>StepN.subV (m:=30) 5 hX _ rfl rfl rfl uB rfl rfl (rc:=[]) (cp:=[4,2]) (λ_=>rfl) rfl [] [⟨.hptr,((4:Nat),(0:Nat))⟩,⟨.optr bs,⟨2,bs,.here⟩⟩] rfl rfl (λ_=>rfl) (N:=zrZ fix (x0,x1,x2,x3,x4,x5,x6,x7,x8,x9,xg,xh,xb,xa,xi,xd,xe,xc,xf,xj,()) b 32) (E1:=rdL fix (lvB x0 x1 x2 x3 x4 x5 x6 x7 x8 x9 xg xh xb.1 xb.2.1 xb.2.2.1 xb.2.2.2.1 xb.2.2.2.2.1 xa.1 xa.2.1 xa.2.2.1 xa.2.2.2.1 xa.2.2.2.2.1 xa.2.2.2.2.2.1 xa.2.2.2.2.2.2.1 xi xd xe xc.1 xc.2.1 xf xj) b)
    (λwz Xz c1 c2 c3 c4 c5 _ _ _=>zsl c1 c2 c3 c4 c5 fix (x0,x1,x2,x3,x4,x5,x6,x7,x8,x9,xg,xh,xb,xa,xi,xd,xe,xc,xf,xj,()) b 32 w0) (λv E nx h=>by obtain⟨rfl,rfl,rfl⟩:=h;rfl) (λv E nx h=>by
      obtain⟨rfl,rfl,rfl⟩:=h;exact⟨λ_=>rfl,λj=>(match j with |0=>rfl|1=>rfl|2=>rfl|3=>rfl|4=>rfl|_+5=>rfl),rfl⟩) rfl)
 refine zlr hX zaI rfl rfl rfl rfl rfl (i:=1) (N:=32) (ty:=42) (pre:=List.take 30 (lvB x0 x1 x2 x3 x4 x5 x6 x7 x8 x9 xg xh xb.1 xb.2.1 xb.2.2.1 xb.2.2.2.1 xb.2.2.2.2.1 xa.1 xa.2.1 xa.2.2.1 xa.2.2.2.1 xa.2.2.2.2.1 xa.2.2.2.2.2.1 xa.2.2.2.2.2.2.1 xi xd xe xc.1 xc.2.1 xf xj)) (mid:=List.drop 30 (lvB x0 x1 x2 x3 x4 x5 x6 x7 x8 x9 xg xh xb.1 xb.2.1 xb.2.2.1 xb.2.2.2.1 xb.2.2.2.2.1 xa.1 xa.2.1 xa.2.2.1 xa.2.2.2.1 xa.2.2.2.2.1 xa.2.2.2.2.2.1 xa.2.2.2.2.2.2.1 xi xd xe xc.1 xc.2.1 xf xj)) (post:=[]) (y:=b.take 32) (by show 1<5;decide) rfl rfl rfl (by rw[u0];exact hd) rfl d_ (λvs e v hv=>?_) ?_
 .cases e;rw[u0,zqN hd]at hv;have xm:∀v∈(lvB x0 x1 x2 x3 x4 x5 x6 x7 x8 x9 xg xh xb.1 xb.2.1 xb.2.2.1 xb.2.2.2.1 xb.2.2.2.2.1 xa.1 xa.2.1 xa.2.2.1 xa.2.2.2.1 xa.2.2.2.2.1 xa.2.2.2.2.2.1 xa.2.2.2.2.2.2.1 xi xd xe xc.1 xc.2.1 xf d),v.bound<=6:=by
   intro v hv;simp only[lvB,zE,zU,or_false]at hv;rcases hv with rfl|rfl|rfl|rfl|rfl|rfl|rfl|rfl|rfl|rfl|rfl|rfl|rfl|rfl|rfl|rfl|rfl|rfl|rfl|rfl|rfl|rfl|rfl|rfl|rfl|rfl|rfl|rfl|rfl|rfl|rfl|rfl|rfl|rfl|rfl|rfl|rfl|rfl|rfl|rfl|rfl|rfl|rfl|rfl|rfl|rfl|rfl|rfl|rfl|rfl|rfl|rfl|rfl|rfl|rfl|rfl|rfl|rfl|rfl|rfl|rfl|rfl<;>exact zk _
  exact xm v hv
 have xo:some (OObj.hbox 42 (List.take 30 (lvB x0 x1 x2 x3 x4 x5 x6 x7 x8 x9 xg xh xb.1 xb.2.1 xb.2.2.1 xb.2.2.2.1 xb.2.2.2.2.1 xa.1 xa.2.1 xa.2.2.1 xa.2.2.2.1 xa.2.2.2.2.1 xa.2.2.2.2.2.1 xa.2.2.2.2.2.2.1 xi xd xe xc.1 xc.2.1 xf xj)++(((b.take 32).map λu=>(⟨u8,u⟩:V))++[])))=some (OObj.hbox 42 (lvB x0 x1 x2 x3 x4 x5 x6 x7 x8 x9 xg xh xb.1 xb.2.1 xb.2.2.1 xb.2.2.2.1 xb.2.2.2.2.1 xa.1 xa.2.1 xa.2.2.1 xa.2.2.2.1 xa.2.2.2.2.1 xa.2.2.2.2.2.1 xa.2.2.2.2.2.2.1 xi xd xe xc.1 xc.2.1 xf d)):=by
  rw[u0,zqN hd];rfl
 refine⟨⟨[],rdF fix (upD d (x0,x1,x2,x3,x4,x5,x6,x7,x8,x9,xg,xh,xb,xa,xi,xd,xe,xc,xf,xj,())) xk,6⟩,λU a w hs=>⟨U,hs.fit ⟨t_,⟨rfl,xo,zaT v0,rfl,rfl,t_⟩,rfl,rfl⟩ (by show 5<=6;decide)⟩,.inl rfl,rfl,rfl,rfl⟩
abbrev nhT:Ty:=.hcons .hptr (.hcons .hptr (.hcons .hptr (.hcons .hptr (.hcons .hptr (.hcons .hptr (.hcons .hptr (.hcons .hptr (.hcons .hptr (.hcons .lit (.hcons .lit (.hcons .hptr (.hcons .hptr (.hcons .hptr (.hcons .lit (.hcons .lit (.hcons .lit (.unit)))))))))))))))))
def nhX:nhT.T:=(((1:Nat),(3:Nat)),(((1:Nat),(4:Nat)),(((1:Nat),(5:Nat)),(((1:Nat),(6:Nat)),(((1:Nat),(7:Nat)),(((1:Nat),(8:Nat)),(((1:Nat),(9:Nat)),(((1:Nat),(10:Nat)),(((1:Nat),(11:Nat)),(zz none,(zz none,(((1:Nat),(24:Nat)),(((1:Nat),(25:Nat)),(((1:Nat),(26:Nat)),(zz none,(zz none,(zz none,())))))))))))))))))
theorem zqa{w0:zj}{X:Ownr}{n:Nat}{F:List (Nat×V)}{E:Owns}{nx:Nat}{s:Nat}(hs:zr F s=⟨.hptr,((1:Nat),(0:Nat))⟩)(U:Nat->zi)(a:Act)(w:zj)(h:Sim w0 X n ⟨F,E,nx⟩ U a w):
  Calls zf 26 ((#[Operand.tmp s]:Array zK).toList.map a.eval).toArray w λe w'=>∃u,e=.returned u/\Below w.heap.size w w'/\RepV w' (OSet X E U) U nhT nhX u:=by
 have h1:=h.fr s;rw[show zr (AS.mk F E nx).F s=_ from hs]at h1;obtain⟨g,hg,e1⟩:=h1;have hg:zai (U 1)=some g:=hg;have e1:a.eval (.tmp s)=.pointer (some ⟨g,0,none⟩):=e1;show Calls _ _ #[a.eval (.tmp s)] w _;rw[e1];refine(zf9 g 0 w).mono ?_;rintro e w' ⟨rfl,hb⟩;refine⟨_,rfl,hb,?_⟩;exact⟨_,_,rfl,rfl,⟨g,hg,rfl⟩,⟨_,_,rfl,rfl,⟨g,hg,rfl⟩,⟨_,_,rfl,rfl,⟨g,hg,rfl⟩,⟨_,_,rfl,rfl,⟨g,hg,rfl⟩,⟨_,_,rfl,rfl,⟨g,hg,rfl⟩,⟨_,_,rfl,rfl,⟨g,hg,rfl⟩,⟨_,_,rfl,rfl,⟨g,hg,rfl⟩,⟨_,_,rfl,rfl,⟨g,hg,rfl⟩,⟨_,_,rfl,rfl,⟨g,hg,rfl⟩,⟨_,_,rfl,rfl,rfl,⟨_,_,rfl,rfl,rfl,⟨_,_,rfl,rfl,⟨g,hg,rfl⟩,⟨_,_,rfl,rfl,⟨g,hg,rfl⟩,⟨_,_,rfl,rfl,⟨g,hg,rfl⟩,⟨_,_,rfl,rfl,rfl,⟨_,_,rfl,rfl,rfl,⟨_,_,rfl,rfl,rfl,(RepD.agg (t:=.unit) rfl).2 ⟨[],rfl,rfl⟩⟩⟩⟩⟩⟩⟩⟩⟩⟩⟩⟩⟩⟩⟩⟩⟩⟩
set_option maxHeartbeats 4000000 in
theorem zuW{w1:zj}{X:Ownr}(hX:X.Ok w1)(hG:X.G=dG)(hK:X.K=5)(x1:X.ρ=none)(hD:X.D=[])(fx:Nat->Nat)(l:lt.T):
  zc3 zf w1 X 66 13 (frV 0 [⟨.hptr,((4:Nat),(0:Nat))⟩,⟨.optr bs,⟨2,bs,.here⟩⟩]) (rdF fx l []) 6 (λv E nx=>v=⟨.bool,true⟩/\E=rdF fx l []/\nx=6):=by
 refine zbP Tryz.func66 rfl rfl (.inr ⟨_,rfl⟩) hD x1 ?_;have x0:KnOk zf X.G kL:=by rw[hG];exact zaI
 change AWP _ _ _ _ _ ⟨[(0,⟨.hptr,((4:Nat),(0:Nat))⟩),(1,⟨.optr bs,⟨2,bs,.here⟩⟩)],rdF fx l [],6⟩ _;refine zaa (zaa (zab x0 ?_));refine zaa (zaa (zaj ?_));refine xY (zeE _ _ rfl) hX x0 rfl t_ ?_;refine zat 1 x0 ?_;refine xY (eqR2 _ _ rfl) hX x0 rfl t_ ?_;refine zat 3 x0 ?_;refine zau x0 ?_ (hp:=by first|exact⟨λh=>h,λh=>h,λh=>h⟩|exact⟨λh=>h,λh=>⟨h,h⟩,λh=>h⟩|exact λh=>h);refine zak (Y':=⟨[(2,⟨.bool,true⟩)],rdF fx l [],6⟩) ⟨⟨rfl,t_⟩,⟨rfl,rfl,rfl,rfl,rfl,t_⟩,rfl,rfl⟩ ?_ (hk:=by rw[hK];exact zb rfl);exact zC ⟨.inr rfl,rfl,rfl,rfl⟩
theorem zgJ{w:zj}{O:Nat->Prop}{U:Nat->zi}:∀{y:List UInt8}{cs:List zi},RepH w O U (y.map λu=>(⟨u8,u⟩:V)) cs->RepL (RepC w O u8) y cs
 | [],cs,h=>h
 |u::y,cs,⟨v,s,h1,h2,h3,h4⟩=>⟨[v],s,h1,h3,zgJ h4⟩
abbrev lt19:Ty:=.pair i64 (.pair i64 (.pair i64 (.pair i64 (.pair i64 (.pair i64 (.pair i64 (.pair i64 (.pair i64 (.pair i64 (.pair i64 (.pair i64 (.pair mv (.pair se (.pair i64 (.pair i64 (.pair i64 (.pair sp (.pair ints (.unit)))))))))))))))))))
set_option maxHeartbeats 2000000 in
theorem zhq{P:zA}{w0:zj}{X:Ownr}{n:Nat}{F:List (Nat×V)}{E:Owns}{nx:Nat}{Q:Exit->AS->Prop}{ops:Array Oper}{o:Oper}{xf:List Oper}{x:zK}(hl:Lay P lt (.inl 42))(ho:o.op=.load 42 x)(xx:o.guard=none){d:Nat}(hd:o.dst=some d)(y5:zO d n=true)(hx:evO F x=⟨.hptr,((1:Nat),(0:Nat))⟩)
  (x0:Int) (x1:Int) (x2:Int) (x3:Int) (x4:Int) (x5:Int) (x6:Int) (x7:Int) (x8:Int) (x9:Int) (xe:Int) (xi:Int) (xc:mv.T) (xb:se.T) (xk:Int) (xg:Int) (xm:Int) (xd:sp.T) (xh:List Int) (xa:List UInt8) (xj:xa.length=32) (hE:zq E 1=some (.hbox 42 (lvB x0 x1 x2 x3 x4 x5 x6 x7 x8 x9 xe xi xc.1 xc.2.1 xc.2.2.1 xc.2.2.2.1 xc.2.2.2.2.1 xb.1 xb.2.1 xb.2.2.1 xb.2.2.2.1 xb.2.2.2.2.1 xb.2.2.2.2.2.1 xb.2.2.2.2.2.2.1 xk xg xm xd.1 xd.2.1 xh xa))) (h:AL P w0 X n ops xf ⟨(d,⟨lt,(x0,x1,x2,x3,x4,x5,x6,x7,x8,x9,xe,xi,xc,xb,xk,xg,xm,xd,xh,xa,())⟩)::F,E,nx⟩ Q):AL P w0 X n ops (o::xf) ⟨F,E,nx⟩ Q:=by
 refine ku xx (λc e=>by rw[ho]at e;cases e) hd y5 ⟨lt,(x0,x1,x2,x3,x4,x5,x6,x7,x8,x9,xe,xi,xc,xb,xk,xg,xm,xd,xh,xa,())⟩ rfl (λU a w hs=>?_) h;obtain⟨g,cs,y1,_,hg,hr⟩:=hs.own 1 _ hE;obtain⟨g',hb,he⟩:=zkB hs hx;rw[y1]at hb;cases hb;obtain⟨c1,c2,e,h1,h2⟩:=znj lt19 _ ((x0,x1,x2,x3,x4,x5,x6,x7,x8,x9,xe,xi,xc,xb,xk,xg,xm,xd,xh,())) _ cs rfl rfl hr;have h2:RepH w (OSet X E U) U [⟨u8,zx (α:=UInt8) xa 0 0⟩,⟨u8,zx (α:=UInt8) xa 1 0⟩,⟨u8,zx (α:=UInt8) xa 2 0⟩,⟨u8,zx (α:=UInt8) xa 3 0⟩,⟨u8,zx (α:=UInt8) xa 4 0⟩,⟨u8,zx (α:=UInt8) xa 5 0⟩,⟨u8,zx (α:=UInt8) xa 6 0⟩,⟨u8,zx (α:=UInt8) xa 7 0⟩,⟨u8,zx (α:=UInt8) xa 8 0⟩,⟨u8,zx (α:=UInt8) xa 9 0⟩,⟨u8,zx (α:=UInt8) xa 10 0⟩,⟨u8,zx (α:=UInt8) xa 11 0⟩,⟨u8,zx (α:=UInt8) xa 12 0⟩,⟨u8,zx (α:=UInt8) xa 13 0⟩,⟨u8,zx (α:=UInt8) xa 14 0⟩,⟨u8,zx (α:=UInt8) xa 15 0⟩,⟨u8,zx (α:=UInt8) xa 16 0⟩,⟨u8,zx (α:=UInt8) xa 17 0⟩,⟨u8,zx (α:=UInt8) xa 18 0⟩,⟨u8,zx (α:=UInt8) xa 19 0⟩,⟨u8,zx (α:=UInt8) xa 20 0⟩,⟨u8,zx (α:=UInt8) xa 21 0⟩,⟨u8,zx (α:=UInt8) xa 22 0⟩,⟨u8,zx (α:=UInt8) xa 23 0⟩,⟨u8,zx (α:=UInt8) xa 24 0⟩,⟨u8,zx (α:=UInt8) xa 25 0⟩,⟨u8,zx (α:=UInt8) xa 26 0⟩,⟨u8,zx (α:=UInt8) xa 27 0⟩,⟨u8,zx (α:=UInt8) xa 28 0⟩,⟨u8,zx (α:=UInt8) xa 29 0⟩,⟨u8,zx (α:=UInt8) xa 30 0⟩,⟨u8,zx (α:=UInt8) xa 31 0⟩] c2:=h2;rw[<-zqN xj]at h2;have xp:RepC w (OSet X E U) dg xa c2:=⟨xj,zgJ h2⟩;have hC:RepC w (OSet X E U) lt (x0,x1,x2,x3,x4,x5,x6,x7,x8,x9,xe,xi,xc,xb,xk,xg,xm,xd,xh,xa,()) cs:=by
  rw[e];obtain⟨a0,r0,e0,h0,⟨a1,r1,e1,h1,⟨a2,r2,e2,h2,⟨a3,r3,e3,h3,⟨a4,r4,e4,h4,⟨a5,r5,e5,h5,⟨a6,r6,e6,h6,⟨a7,r7,e7,h7,⟨a8,r8,e8,h8,⟨a9,r9,e9,h9,⟨xz,yn,y0,xn,⟨xt,yo,xu,y9,⟨y4,yr,y8,yg,⟨y3,yp,y2,xr,⟨ye,yl,xv,xy,⟨yb,yq,yd,yi,⟨xs,yk,yf,xq,⟨yc,ys,ya,xo,⟨y7,ym,yh,y6,xw⟩⟩⟩⟩⟩⟩⟩⟩⟩⟩⟩⟩⟩⟩⟩⟩⟩⟩⟩:=h1;subst xw;subst yh ya yf yd xv y2 y8 xu y0 e9 e8 e7 e6 e5 e4 e3 e2 e1 e0;simp only[zB,qn];exact⟨a0,_,rfl,h0,⟨a1,_,rfl,h1,⟨a2,_,rfl,h2,⟨a3,_,rfl,h3,⟨a4,_,rfl,h4,⟨a5,_,rfl,h5,⟨a6,_,rfl,h6,⟨a7,_,rfl,h7,⟨a8,_,rfl,h8,⟨a9,_,rfl,h9,⟨xz,_,rfl,xn,⟨xt,_,rfl,y9,⟨y4,_,rfl,yg,⟨y3,_,rfl,xr,⟨ye,_,rfl,xy,⟨yb,_,rfl,yi,⟨xs,_,rfl,xq,⟨yc,_,rfl,xo,⟨y7,_,rfl,y6,⟨c2,[],(yE _).symm,xp,rfl⟩⟩⟩⟩⟩⟩⟩⟩⟩⟩⟩⟩⟩⟩⟩⟩⟩⟩⟩⟩
 have xl:CellsAt w g 0 cs:=λj u hu=>by
  have yj:=(List.getElem?_eq_some_iff.1 hu).1;simp[World.cell?,hg,hu]
 obtain⟨u,h9,xn⟩:=hl.loadAt hC xl;refine⟨u,?_,(za5 hl.data).2 xn⟩;unfold execOp;simp only[ho];rw[he];exact za7 h9
theorem zrj{P:zA}{w0:zj}{X:Ownr}{n:Nat}{F:List (Nat×V)}{E:Owns}{nx:Nat}{Q:Exit->AS->Prop}{ops:Array Oper}{o:Oper}{x1:List Oper}{f:FuncId}{args:Array zK}{ts:Array zy}(ho:o.op=.call ⟨.value (.func f),args,ts⟩)(x5:o.guard=none)(x4:∀(us:Array zi)(w:zj),(callFunc f us).run P w=.ok (.enter f us) w){d:Nat}(hd:o.dst=some d)(x3:zO d n=true){v:V}(hb:xM v.bound nx=true)
  (x0:∀U a w,Sim w0 X n ⟨F,E,nx⟩ U a w->Calls P f (args.toList.map a.eval).toArray w λe w'=>∃u,e=.returned u/\Below w.heap.size w w'/\RepV w' (OSet X E U) U v.t v.x u)
  (h:AL P w0 X n ops x1 ⟨(d,v)::F,E,nx⟩ Q):AL P w0 X n ops (o::x1) ⟨F,E,nx⟩ Q:=by
 have x2:d<n:=by simpa using x3
 refine AL.hand x5 (λc e=>by rw[ho]at e;cases e) λU a w hs=>zel ho x4 ((x0 U a w hs).mono λe w'⟨u,h1,h2,h3⟩=>⟨u,h1,?_⟩);rw[hd];exact⟨_,U,hs.put h2 h3 (zb hb) x2,h⟩
theorem ztP{P:zA}{w0:zj}{X:Ownr}{n:Nat}{F:List (Nat×V)}{E:Owns}{nx:Nat}{Q:Exit->AS->Prop}{ops:Array Oper}{t:zy}(ht:zra P t){o:Oper}{x0:List Oper}{x:zK}{t2:zy}(ho:o.op=.binOp .neq t x (.const (.pointer none)) t2)(x2:o.guard=none){d:Nat}(hd:o.dst=some d)(x1:zO d n=true){i k:Nat}(hx:evO F x=⟨.hptr,(i,k)⟩)
  (h:AL P w0 X n ops x0 ⟨(d,⟨.bool,true⟩)::F,E,nx⟩ Q):AL P w0 X n ops (o::x0) ⟨F,E,nx⟩ Q:=by
 refine AL.hand x2 (λc e=>by rw[ho]at e;cases e) λU a w hs=>?_;obtain⟨g,_,h1⟩:=zkB hs hx;obtain⟨r1,r2⟩:=ht w a.eval o x .neq t2 false (.inr ⟨rfl,rfl⟩) ho λ_=>rfl;exact zbX hd x1 (v:=⟨.bool,true⟩) (zk _) (N:=λY'=>AL P w0 X n ops x0 Y' Q) h hs (r2 _ h1) qR
def cEqS:Ctr:={ args:=[bs,bs],pre:=λx=>[x.1=x.2.1],res:=.bool,own:=none,out:=λ_=>true }
theorem zuV:yQ zf gmG 39 cEqS:=by
 refine ctr2 zar Tryz.func39 Tryz.call39 ?_;rintro w0 X hX ⟨l,m,_⟩ hp;obtain rfl:l=m:=hp;refine AWP.len 0 rfl λhl=>?_;unfold maxLen at hl
 iterate 2 (refine zaa (zaa (zab zar ?_)))
 exact zC ⟨.inr rfl,D1 (zdR (t:=.str) l)⟩
def zSe:se.T:=([],0,0,[],0,0,[],())
def ltR(l:lt.T):Prop:=(∀x∈hd3 l,0<=x/\x<256)/\(∀k,inR .i64 (nAt l k))/\mvG (ltM l)/\seR (ltS l)/\inR .i64 (ltW l).1/\inR .i64 (ltW l).2.1/\∀x∈ltC l,0<=x/\x<=255
def clnL(l:lt.T):Prop:=(∀k,zaM k->za3 l.1 (k:Int)=false->nAt l k=0)/\(za3 l.1 9=false->ltM l=zMv')/\(za3 l.1 10=false\/zdc (ltS l)=true->ltS l=zSe)/\(za3 l.1 14=false->ltW l=(0,0,()))/\(za3 l.1 15=false->ltC l=[])/\(za3 l.1 16=false->ltD l=zg 32 0)
noncomputable def zvc(l:lt.T):Ctr:={ args:=[bs],pre:=λx=>[x.1=zc9 l,zdr l,ltR l,clnL l],res:=.tup lt (.tup i64 .unit),own:=none,out:=λ_=>(l,(0:Int),()) }
def tlL(l:lt.T)(k:Nat):List UInt8:=(((xQ 17).drop k).map (zdI l)).flatten
theorem zen(l:lt.T){k:Nat}(hk:k<17):tlL l k=zdI l k++tlL l (k+1):=by
 unfold tlL;rw[xR (by simpa using hk),fb];rfl
theorem zpi(l:lt.T):zc9 l=leB l.1 1++(leB l.2.1 1++(leB l.2.2.1 1++tlL l 0)):=by
 show((leB l.1 1++(leB l.2.1 1++(leB l.2.2.1 1++[])))++tlL l 0)=_;simp only[zB,yE,qn]
abbrev lvN(x0 x1 x2 x3 x4 x5 x6 x7 x8 x9 xb xa:Int):List V:=lvA x0 x1 x2 x3 x4 x5 x6 x7 x8 x9 xb xa 0 false 0 0 0 [] 0 0 [] 0 0 [] 0 0 0 0 0 [] (zg 32 0)
abbrev lvM(x0 x1 x2 x3 x4 x5 x6 x7 x8 x9 xc xd:Int)(m:mv.T)(s:se.T)(xb xa xe u v:Int)(c:List Int)(d:List UInt8):List V:=lvA x0 x1 x2 x3 x4 x5 x6 x7 x8 x9 xc xd m.1 m.2.1 m.2.2.1 m.2.2.2.1 m.2.2.2.2.1 s.1 s.2.1 s.2.2.1 s.2.2.2.1 s.2.2.2.2.1 s.2.2.2.2.2.1 s.2.2.2.2.2.2.1 xb xa xe u v c d
noncomputable def kRE:Kn:={ kL with C:=[(6,cBy),(39,cEqS)] }
theorem zoB:KnOk zf dG kRE:=⟨zd2,zdu,.cons ziZ<|.cons zuV.up .nil,zfr,.nil⟩
noncomputable def kLR:Kn:={ kL with C:=[(27,cUs)] }
theorem zaw:KnOk zf dG kLR:=⟨zd2,zdu,.cons zgw .nil,zfr,.nil⟩
set_option maxHeartbeats 16000000 in
theorem zsD(l:lt.T):yQ zf dG 11 (zvc l):=by
 refine ctr2 zaw Tryz.func11 Tryz.call11 ?_ (hlen:=zb rfl);rintro w0 O xs ⟨(b:List UInt8),⟨⟩⟩ ⟨xz,y5,y0,y4⟩;have hb:b=zc9 l:=xz;have hg:zdr l:=y5;have hr:ltR l:=y0;have hc:clnL l:=y4;have y7:b=zc9 l:=xz;clear xz y5 y0 y4;show AWP _ _ _ _ _ _ (λe Y=>(e=.normal\/e=.ret)/\Done _ _ Y none (.tup lt (.tup i64 .unit)) ((l,(0:Int),()):(Ty.tup lt (.tup i64 .unit)).T));obtain⟨L,hL⟩:∃L,l=L:=⟨_,rfl⟩;rw[hL]at hb hg hr hc y7 ⊢;obtain⟨(x0:Int),(x1:Int),(x2:Int),(x3:Int),(x4:Int),(x5:Int),(x6:Int),(x7:Int),(x8:Int),(x9:Int),(xd:Int),(xe:Int),(xc:mv.T),(xb:se.T),(xi:Int),(xn:Int),(xp:Int),(xh:sp.T),(xk:List Int),(xo:List UInt8),⟨⟩⟩:=l;rw[zpi]at hb;obtain⟨rh,rn,rm,rs,xt,xv,rc⟩:=hr;obtain⟨zn,zm,zs,zw,zc,zd⟩:=hc;obtain⟨y3,y6⟩:∃y,y=tlL L 0:=⟨_,rfl⟩;rw[<-y6]at hb;change AWP _ _ _ _ _ ⟨[(0,⟨bs,b⟩)],[],0⟩ _;refine zaa (zaa (zab zam ?_ (hX:=xs)));refine zaa (zaa (zab zaw ?_ (hX:=xs)));refine za9 1 17 104 nd rfl rfl rfl ?_;refine ug xs 1 17 ?_;refine za9 1 23 30 mv rfl rfl rfl ?_;refine ug xs 1 23 ?_;refine zak (Y':=⟨[(0,⟨bs,b⟩),(2,⟨.optr lt,⟨0,lt,.here⟩⟩),(4,⟨.hptr,((1:Nat),(0:Nat))⟩)],[(0,some (.box lt ltZ)),(1,some (.hbox 42 (lvA 0 0 0 0 0 0 0 0 0 0 0 0 0 false 0 0 0 [] 0 0 [] 0 0 [] 0 0 0 0 0 [] (zg 32 0))))],2⟩) ⟨⟨rfl,rfl,rfl,t_⟩,⟨rfl,rfl,t_⟩,rfl,rfl⟩ ?_;refine zn8 xs rfl rfl rfl rfl rfl rfl rfl rfl rfl rfl rfl rfl rfl rfl rfl rfl rfl rfl rfl rfl rfl rfl rfl rfl rfl rfl λw1 X' hX hG hK yc hD=>?_;obtain⟨G',O',K',fix,D',yh,B'⟩:=X';obtain rfl:G'=dG:=hG;obtain rfl:K'=5:=hK;obtain rfl:yh=none:=yc;obtain rfl:D'=[]:=hD;have e0:L.1=x0:=by rw[<-hL]
 have e1:L.2.1=x1:=by rw[<-hL]
 have e2:L.2.2.1=x2:=by rw[<-hL]
 have r0:0<=x0/\x0<256:=by rw[<-e0];exact rh _ (by simp[hd3])
 have r1:0<=x1/\x1<256:=by rw[<-e1];exact rh _ (by simp[hd3])
 have r2:0<=x2/\x2<256:=by rw[<-e2];exact rh _ (by simp[hd3])
 rw[e0,e1,e2]at hb;obtain⟨y2,xx⟩:∃y,y=leB x2 1++y3:=⟨_,rfl⟩;obtain⟨y1,xu⟩:∃y,y=leB x1 1++y2:=⟨_,rfl⟩;have xy:b=leB x0 1++y1:=by rw[hb,xu,xx]
 have u0:nuV b 1=x0:=by rw[xy];exact nuk 1 d_ r0.1 r0.2 _
 have v0:b.drop 1=y1:=by rw[xy];exact zfo _ _ _
 have w0:1<=b.length:=by rw[xy];exact lenB _ _ _
 have u1:nuV y1 1=x1:=by rw[xu];exact nuk 1 d_ r1.1 r1.2 _
 have v1:y1.drop 1=y2:=by rw[xu];exact zfo _ _ _
 have w1:1<=y1.length:=by rw[xu];exact lenB _ _ _
 have u2:nuV y2 1=x2:=by rw[xx];exact nuk 1 d_ r2.1 r2.2 _
 have v2:y2.drop 1=y3:=by rw[xx];exact zfo _ _ _
 have w2:1<=y2.length:=by rw[xx];exact lenB _ _ _
 let F:List (Nat×V):=[(0,⟨bs,b⟩),(2,⟨.optr lt,⟨0,lt,.here⟩⟩),(4,⟨.hptr,((1:Nat),(0:Nat))⟩),(5,⟨.hptr,((3:Nat),(0:Nat))⟩),(6,⟨.lit,zqL fix⟩)]
 let a0:=(lvA 0 0 0 0 0 0 0 0 0 0 0 0 0 false 0 0 0 [] 0 0 [] 0 0 [] 0 0 0 0 0 [] (zg 32 0))
 let t0:lt.T:=(0,0,0,0,0,0,0,0,0,0,0,0,(0,false,0,0,0,()),([],0,0,[],0,0,[],()),0,0,0,(0,0,()),[],(zg 32 0),())
 refine zak (Y':=⟨F,rdL fix a0 b,5⟩) ⟨⟨rfl,rfl,rfl,rfl,rfl,t_⟩,⟨rfl,rfl,rfl,rfl,rfl,t_⟩,rfl,rfl⟩ ?_;refine zaa (zaa (zaj ?_));refine zat 1 zaw ?_;refine kn (m:=23) 5 hX rfl rfl jO rfl rfl rfl (N:=NNum fix t0 b 1 5) (E1:=rdL fix a0 b)
  (λwz Xz c1 c2 c3 c4 c5 _ c7 _=>zfc c1 c2 c3 c4 c5 fix (λi hi=>c7 i hi) t0 b 1 d_ w0 5 d_) (λv E nx h=>?_) (λv E nx h=>?_)
 .obtain⟨rfl,rfl,rfl⟩:=h;rfl
 obtain⟨rfl,rfl,rfl⟩:=h;refine j0 (Y':=⟨(18,⟨i64,x0⟩)::F,rdL fix a0 y1,5⟩) ⟨⟨vI64 u0,rfl,rfl,rfl,rfl,rfl,t_⟩,⟨rfl,rfl,zaT v0,rfl,rfl,t_⟩,rfl,rfl⟩ ?_;refine zau zaw ?_
 let a1:=(lvA x0 0 0 0 0 0 0 0 0 0 0 0 0 false 0 0 0 [] 0 0 [] 0 0 [] 0 0 0 0 0 [] (zg 32 0))
 let t1:lt.T:=(x0,0,0,0,0,0,0,0,0,0,0,0,(0,false,0,0,0,()),([],0,0,[],0,0,[],()),0,0,0,(0,0,()),[],(zg 32 0),())
 refine zak (Y':=⟨F,rdL fix a1 y1,5⟩) ⟨⟨rfl,rfl,rfl,rfl,rfl,t_⟩,⟨rfl,rfl,rfl,rfl,rfl,t_⟩,rfl,rfl⟩ ?_;refine zaa (zaa (zaj ?_));refine zat 1 zaw ?_;refine kn (m:=23) 5 hX rfl rfl jO rfl rfl rfl (N:=NNum fix t1 y1 1 5) (E1:=rdL fix a1 y1)
  (λwz Xz c1 c2 c3 c4 c5 _ c7 _=>zfc c1 c2 c3 c4 c5 fix (λi hi=>c7 i hi) t1 y1 1 d_ w1 5 d_) (λv E nx h=>?_) (λv E nx h=>?_)
 .obtain⟨rfl,rfl,rfl⟩:=h;rfl
 obtain⟨rfl,rfl,rfl⟩:=h;refine j0 (Y':=⟨(21,⟨i64,x1⟩)::F,rdL fix a1 y2,5⟩) ⟨⟨vI64 u1,rfl,rfl,rfl,rfl,rfl,t_⟩,⟨rfl,rfl,zaT v1,rfl,rfl,t_⟩,rfl,rfl⟩ ?_;refine zau zaw ?_
 let a2:=(lvA x0 x1 0 0 0 0 0 0 0 0 0 0 0 false 0 0 0 [] 0 0 [] 0 0 [] 0 0 0 0 0 [] (zg 32 0))
 let t2:lt.T:=(x0,x1,0,0,0,0,0,0,0,0,0,0,(0,false,0,0,0,()),([],0,0,[],0,0,[],()),0,0,0,(0,0,()),[],(zg 32 0),())
 refine zak (Y':=⟨F,rdL fix a2 y2,5⟩) ⟨⟨rfl,rfl,rfl,rfl,rfl,t_⟩,⟨rfl,rfl,rfl,rfl,rfl,t_⟩,rfl,rfl⟩ ?_;refine zaa (zaa (zaj ?_));refine zat 1 zaw ?_;refine kn (m:=23) 5 hX rfl rfl jO rfl rfl rfl (N:=NNum fix t2 y2 1 5) (E1:=rdL fix a2 y2)
  (λwz Xz c1 c2 c3 c4 c5 _ c7 _=>zfc c1 c2 c3 c4 c5 fix (λi hi=>c7 i hi) t2 y2 1 d_ w2 5 d_) (λv E nx h=>?_) (λv E nx h=>?_)
 .obtain⟨rfl,rfl,rfl⟩:=h;rfl
 obtain⟨rfl,rfl,rfl⟩:=h;refine j0 (Y':=⟨(24,⟨i64,x2⟩)::F,rdL fix a2 y3,5⟩) ⟨⟨vI64 u2,rfl,rfl,rfl,rfl,rfl,t_⟩,⟨rfl,rfl,zaT v2,rfl,rfl,t_⟩,rfl,rfl⟩ ?_;refine zau zaw ?_;refine zak (Y':=⟨F,rdL fix (lvA x0 x1 x2 0 0 0 0 0 0 0 0 0 0 false 0 0 0 [] 0 0 [] 0 0 [] 0 0 0 0 0 [] (zg 32 0)) y3,5⟩) ⟨⟨rfl,rfl,rfl,rfl,rfl,t_⟩,⟨rfl,rfl,rfl,rfl,rfl,t_⟩,rfl,rfl⟩ ?_;refine zaa (zaa (zaj ?_))
 iterate 5 (refine zat 1 zaw ?_;refine zpG rfl rfl rfl rfl (rc:=[3]) (cp:=[]) rfl rfl rfl ?_)
 let U0:=fnA 34 35 36 37 38 (fix 3)
 refine zdT rfl (by intro c e;cases e) rfl rfl (.agg (U0).toArray) (λU a w hs=>zrW w a.eval _ rfl (zaR hs rfl) (zaR hs rfl) (zaR hs rfl) (zaR hs rfl) (zaR hs rfl)) ?_;refine zpF zfk hX rfl rfl rfl rfl ?_;refine zpC zfk rfl rfl rfl rfl rfl (by rw[show ∀u:List zi,(lits u).length=u.length from λu=>qY ..];rfl) (us:=U0) rfl zoO rfl ?_;refine qu ?_;refine zaa (zaa (zaj ?_));refine zrj rfl rfl Tryz.call26 rfl rfl (v:=⟨nhT,nhX⟩) rfl (zqa rfl) ?_;refine zau zaw ?_
 let st:Nat->List V:=pk [] [(lvN x0 x1 x2 0 0 0 0 0 0 0 0 0),(lvN x0 x1 x2 x3 0 0 0 0 0 0 0 0),(lvN x0 x1 x2 x3 x4 0 0 0 0 0 0 0),(lvN x0 x1 x2 x3 x4 x5 0 0 0 0 0 0),(lvN x0 x1 x2 x3 x4 x5 x6 0 0 0 0 0),(lvN x0 x1 x2 x3 x4 x5 x6 x7 0 0 0 0),(lvN x0 x1 x2 x3 x4 x5 x6 x7 x8 0 0 0),(lvN x0 x1 x2 x3 x4 x5 x6 x7 x8 x9 0 0),(lvN x0 x1 x2 x3 x4 x5 x6 x7 x8 x9 xd 0),(lvN x0 x1 x2 x3 x4 x5 x6 x7 x8 x9 xd xe),(lvA x0 x1 x2 x3 x4 x5 x6 x7 x8 x9 xd xe xc.1 xc.2.1 xc.2.2.1 xc.2.2.2.1 xc.2.2.2.2.1 [] 0 0 [] 0 0 [] 0 0 0 0 0 [] (zg 32 0)),(lvM x0 x1 x2 x3 x4 x5 x6 x7 x8 x9 xd xe xc xb 0 0 0 0 0 [] (zg 32 0)),(lvM x0 x1 x2 x3 x4 x5 x6 x7 x8 x9 xd xe xc xb xi 0 0 0 0 [] (zg 32 0)),(lvM x0 x1 x2 x3 x4 x5 x6 x7 x8 x9 xd xe xc xb xi xn 0 0 0 [] (zg 32 0)),(lvM x0 x1 x2 x3 x4 x5 x6 x7 x8 x9 xd xe xc xb xi xn xp 0 0 [] (zg 32 0)),(lvM x0 x1 x2 x3 x4 x5 x6 x7 x8 x9 xd xe xc xb xi xn xp xh.1 xh.2.1 [] (zg 32 0)),(lvB x0 x1 x2 x3 x4 x5 x6 x7 x8 x9 xd xe xc.1 xc.2.1 xc.2.2.1 xc.2.2.2.1 xc.2.2.2.2.1 xb.1 xb.2.1 xb.2.2.1 xb.2.2.2.1 xb.2.2.2.2.1 xb.2.2.2.2.2.1 xb.2.2.2.2.2.2.1 xi xn xp xh.1 xh.2.1 xk (zg 32 0)),(lvB x0 x1 x2 x3 x4 x5 x6 x7 x8 x9 xd xe xc.1 xc.2.1 xc.2.2.1 xc.2.2.2.1 xc.2.2.2.2.1 xb.1 xb.2.1 xb.2.2.1 xb.2.2.2.1 xb.2.2.2.2.1 xb.2.2.2.2.2.1 xb.2.2.2.2.2.2.1 xi xn xp xh.1 xh.2.1 xk xo)]
 let F:List (Nat×V):=[(0,⟨bs,b⟩),(2,⟨.optr lt,⟨0,lt,.here⟩⟩),(4,⟨.hptr,((1:Nat),(0:Nat))⟩),(5,⟨.hptr,((3:Nat),(0:Nat))⟩),(6,⟨.lit,zqL fix⟩),(7,⟨.hptr,((5:Nat),(0:Nat))⟩),(37,⟨nhT,nhX⟩)]
 let O:List V->List UInt8->Owns:=λa y=>(5,some (.hbox 83 (lits U0)))::rdL fix a y
 refine zaa ?_;refine yK (ι:=Nat) (λk=>⟨(38,⟨i64,(k:Int)⟩)::F,O (st k) (tlL L k),6⟩) (λk=>k<=17) (λk=>17-k) 0 (zk _) ⟨⟨rfl,rfl,rfl,rfl,rfl,rfl,rfl,rfl,t_⟩,⟨rfl,rfl,rfl,zaT y6,rfl,rfl,t_⟩,rfl,rfl⟩ ?_;intro k hk;refine zaa (zaa (zab zaw ?_));refine zaa ?_;refine zae rfl (λhb=>?_) (λhb=>?_)
 rotate_left
 .
  have hb:=of_decide_eq_false hb;obtain rfl:k=17:=o_;have xw:xo.length=32:=by
   have h9:ltD L=xo:=by rw[<-hL];rfl
   rw[<-h9];exact hg.2.2.2.2.2
  have yg:zdr (x0,x1,x2,x3,x4,x5,x6,x7,x8,x9,xd,xe,xc,xb,xi,xn,xp,xh,xk,xo,()):=by rw[hL];exact hg
  have yf:zc9 (x0,x1,x2,x3,x4,x5,x6,x7,x8,x9,xd,xe,xc,xb,xi,xn,xp,xh,xk,xo,())=b:=by rw[hL];exact y7.symm
  let e:=(lvB x0 x1 x2 x3 x4 x5 x6 x7 x8 x9 xd xe xc.1 xc.2.1 xc.2.2.1 xc.2.2.2.1 xc.2.2.2.2.1 xb.1 xb.2.1 xb.2.2.1 xb.2.2.2.1 xb.2.2.2.2.1 xb.2.2.2.2.2.1 xb.2.2.2.2.2.2.1 xi xn xp xh.1 xh.2.1 xk xo)
  let t:lt.T:=(x0,x1,x2,x3,x4,x5,x6,x7,x8,x9,xd,xe,xc,xb,xi,xn,xp,xh,xk,xo,())
  apply zan;refine zak (Y':=⟨F,O e [],6⟩) ⟨⟨rfl,rfl,rfl,rfl,rfl,rfl,rfl,t_⟩,⟨rfl,rfl,rfl,rfl,rfl,rfl,t_⟩,rfl,rfl⟩ ?_;refine zaa (zaa (zaj ?_));refine zat 1 zaw ?_;refine kW (m:=13) 5 hX rfl rfl Tryz.call66 rfl rfl (rc:=[]) (cp:=[4,2]) rfl rfl [] [⟨.hptr,((4:Nat),(0:Nat))⟩,⟨.optr bs,⟨2,bs,.here⟩⟩] rfl rfl rfl (N:=λv E nx=>v=⟨.bool,true⟩/\E=rdF fix t []/\nx=6) (E1:=rdL fix e [])
   (λwz Xz c1 c2 c3 c4 c5 _ c7 _=>zuW c1 c2 c3 c4 c5 fix t) (λv E nx h=>?_) (λv E nx h=>?_)
  .obtain⟨rfl,rfl,rfl⟩:=h;rfl
  obtain⟨rfl,rfl,rfl⟩:=h;refine zau zaw ?_;refine zaL rfl ?_;apply zaf;refine zak (Y':=⟨F,rdL fix e [],6⟩) ⟨⟨rfl,rfl,rfl,rfl,rfl,rfl,rfl,t_⟩,⟨rfl,rfl,rfl,rfl,rfl,t_⟩,rfl,rfl⟩ ?_;have xq:Lay zf lt (.inl 42):=zfi.is (t:=42) rfl;refine zaa (zaa (zaj ?_));refine zhq xq rfl rfl rfl rfl rfl x0 x1 x2 x3 x4 x5 x6 x7 x8 x9 xd xe xc xb xi xn xp xh xk xo xw rfl ?_;refine zau zoB ?_ (hp:=by exact yg);refine zak (Y':=⟨[(10,⟨bs,b⟩),(11,⟨i64,(0:Int)⟩),(0,⟨bs,b⟩),(2,⟨.optr lt,⟨0,lt,.here⟩⟩),(4,⟨.hptr,((1:Nat),(0:Nat))⟩)],rdL fix e [],6⟩) ⟨⟨congrArg (λz=>(⟨bs,z⟩:V)) yf,rfl,rfl,rfl,rfl,t_⟩,⟨rfl,rfl,rfl,rfl,rfl,t_⟩,rfl,rfl⟩ ?_;refine zaa (zaa (zab zoB ?_ (hp:=by exact⟨λ_=>by first|exact⟨rfl,rfl⟩|exact⟨rfl,rfl,rfl⟩|exact⟨rfl,rfl,rfl,rfl⟩,λh=>h,λh=>h⟩)));refine zaL rfl ?_;apply zaf;refine zaa (zaa (zaj ?_));refine zhq xq rfl rfl rfl rfl rfl x0 x1 x2 x3 x4 x5 x6 x7 x8 x9 xd xe xc xb xi xn xp xh xk xo xw rfl ?_;refine zau zoB ?_;subst hL;exact zC ⟨.inr rfl,D2 rfl⟩
 have hb:decide ((k:Int)<17)=true:=hb;have hb:=of_decide_eq_true hb;have xf:1<=x0/\x0<=18:=by rw[<-e0];exact hg.1.1
 have yd:k=0\/k=1\/k=2\/k=3\/k=4\/k=5\/k=6\/k=7\/k=8\/k=9\/k=10\/k=11\/k=12\/k=13\/k=14\/k=15\/k=16:=o_;apply zaf;refine zaa ?_;rcases yd with rfl|rfl|rfl|rfl|rfl|rfl|rfl|rfl|rfl|rfl|rfl|rfl|rfl|rfl|rfl|rfl|rfl
 let kk:=0;let of:=3;let X:=x3;let t:lt.T:=(x0,x1,x2,0,0,0,0,0,0,0,0,0,(0,false,0,0,0,()),([],0,0,[],0,0,[],()),0,0,0,(0,0,()),[],(zg 32 0),());rotate_left
 let kk:=1;let of:=4;let X:=x4;let t:lt.T:=(x0,x1,x2,x3,0,0,0,0,0,0,0,0,(0,false,0,0,0,()),([],0,0,[],0,0,[],()),0,0,0,(0,0,()),[],(zg 32 0),());rotate_left
 let kk:=2;let of:=5;let X:=x5;let t:lt.T:=(x0,x1,x2,x3,x4,0,0,0,0,0,0,0,(0,false,0,0,0,()),([],0,0,[],0,0,[],()),0,0,0,(0,0,()),[],(zg 32 0),());rotate_left
 let kk:=3;let of:=6;let X:=x6;let t:lt.T:=(x0,x1,x2,x3,x4,x5,0,0,0,0,0,0,(0,false,0,0,0,()),([],0,0,[],0,0,[],()),0,0,0,(0,0,()),[],(zg 32 0),());rotate_left
 let kk:=4;let of:=7;let X:=x7;let t:lt.T:=(x0,x1,x2,x3,x4,x5,x6,0,0,0,0,0,(0,false,0,0,0,()),([],0,0,[],0,0,[],()),0,0,0,(0,0,()),[],(zg 32 0),());rotate_left
 let kk:=5;let of:=8;let X:=x8;let t:lt.T:=(x0,x1,x2,x3,x4,x5,x6,x7,0,0,0,0,(0,false,0,0,0,()),([],0,0,[],0,0,[],()),0,0,0,(0,0,()),[],(zg 32 0),());rotate_left
 let kk:=6;let of:=9;let X:=x9;let t:lt.T:=(x0,x1,x2,x3,x4,x5,x6,x7,x8,0,0,0,(0,false,0,0,0,()),([],0,0,[],0,0,[],()),0,0,0,(0,0,()),[],(zg 32 0),());rotate_left
 let kk:=7;let of:=10;let X:=xd;let t:lt.T:=(x0,x1,x2,x3,x4,x5,x6,x7,x8,x9,0,0,(0,false,0,0,0,()),([],0,0,[],0,0,[],()),0,0,0,(0,0,()),[],(zg 32 0),());rotate_left
 let kk:=8;let of:=11;let X:=xe;let t:lt.T:=(x0,x1,x2,x3,x4,x5,x6,x7,x8,x9,xd,0,(0,false,0,0,0,()),([],0,0,[],0,0,[],()),0,0,0,(0,0,()),[],(zg 32 0),());rotate_left
 .let kk:=9
  let t:lt.T:=(x0,x1,x2,x3,x4,x5,x6,x7,x8,x9,xd,xe,(0,false,0,0,0,()),([],0,0,[],0,0,[],()),0,0,0,(0,0,()),[],(zg 32 0),())
  have pu:(0:Int)<=(kk:Int)/\(kk:Int)<17:=⟨qh _,of_decide_eq_true rfl⟩;have xr:inR .i64 ((kk:Int)+1):=zah o_ o_;have xa:=zen L (k:=kk) (zb rfl);obtain⟨tk,xm⟩:∃y,y=tlL L kk:=⟨_,rfl⟩;obtain⟨tn,xg⟩:∃y,y=tlL L (kk+1):=⟨_,rfl⟩;rw[<-xm, <-xg]at xa;have hv:ltM L=xc:=by rw[<-hL];rfl
  have xl:zdI L kk=bif za3 x0 (kk:Int) then movB xc else []:=by
   unfold zdI;rw[e0, <-hv];rfl
  refine zak (Y':=⟨(38,⟨i64,(kk:Int)⟩)::F,O (st kk) tk,6⟩) ⟨⟨rfl,rfl,rfl,rfl,rfl,rfl,rfl,rfl,t_⟩,⟨rfl,rfl,rfl,zaT xm.symm,rfl,rfl,t_⟩,rfl,rfl⟩ ?_;refine zaa (zaj ?_);refine zat 1 zaw ?_;refine zaJ zaX rfl rfl rfl rfl kk rfl rfl rfl rfl rfl ?_;refine zau zaw ?_;refine zak (Y':=⟨(8,⟨i64,(kk:Int)⟩)::(9,⟨.lit,zz none⟩)::(38,⟨i64,(kk:Int)⟩)::F,O (st kk) tk,6⟩) ⟨⟨rfl,rfl,rfl,rfl,rfl,rfl,rfl,rfl,rfl,rfl,t_⟩,⟨rfl,rfl,rfl,rfl,rfl,rfl,t_⟩,rfl,rfl⟩ ?_;cases hu:za3 x0 (kk:Int) with
  |false=>
   have ht:tk=tn:=by rw[xa,xl,hu];rfl
   have hz:xc=zMv':=by rw[<-hv];exact zm (by rw[e0];exact hu)
   subst hz;refine zaa (zaa (zab zaw ?_ (hp:=by exact⟨xf.1,xf.2,pu.1,pu.2⟩)));refine zae rfl (λ_=>?_) (λhb=>?_)
   rotate_left
   .have hb:(!za3 x0 (kk:Int))=false:=hb;rw[hu]at hb;cases hb
   refine zaa ?_;refine zaa (zab zaw ?_);exact⟨kk+1,zb rfl,zb rfl,⟨rfl,rfl,rfl,rfl,rfl,rfl,rfl,rfl,t_⟩,⟨rfl,rfl,rfl,zaT (ht.trans xg),rfl,rfl,t_⟩,rfl,rfl⟩
  |true=>
   refine zaa (zaa (zab zaw ?_ (hp:=by exact⟨xf.1,xf.2,pu.1,pu.2⟩)));refine zae rfl (λhb=>?_) (λ_=>?_)
   .have hb:(!za3 x0 (kk:Int))=true:=hb;rw[hu]at hb;cases hb
   have xj:tk=movB xc++tn:=by rw[xa,xl,hu,cond_true]
   refine zaa (zaa (zaj ?_));refine zat 1 zaw ?_;refine zdS zgL (.inr ⟨rfl,rfl⟩) rfl rfl rfl rfl rfl rfl ?_;refine zau zaw ?_;refine zaL rfl ?_;refine zak (Y':=⟨(8,⟨i64,(kk:Int)⟩)::(38,⟨i64,(kk:Int)⟩)::F,O (st kk) tk,6⟩) ⟨⟨rfl,rfl,rfl,rfl,rfl,rfl,rfl,rfl,rfl,t_⟩,⟨rfl,rfl,rfl,rfl,rfl,rfl,t_⟩,rfl,rfl⟩ ?_;refine zaa (zaj ?_);refine zat 1 zaw ?_;refine zdh zfk fnV rfl rfl rfl rfl rfl rfl rfl rfl rfl rfl rfl kk (zb rfl) rfl rfl rfl ?_;refine kW (m:=35) 5 hX rfl rfl Tryz.call34 rfl rfl (rc:=[3]) (cp:=[]) rfl rfl [⟨.hptr,((3:Nat),(0:Nat))⟩] [] rfl rfl rfl (N:=NMt fix (upM xc t) tn 6) (E1:=rdL fix (st kk) tk)
    (λwz Xz c1 c2 c3 c4 c5 _ c7 _=>zvM c1 c2 c3 c4 c5 fix (λi hi=>c7 i hi) t xc (hv▸rm) tk tn xj) (λv E nx h=>?_) (λv E nx h=>?_)
   .obtain⟨rfl,rfl,rfl⟩:=h;rfl
   obtain⟨rfl,rfl,rfl⟩:=h;refine qu ?_;refine zaa (zab zaw ?_);exact⟨kk+1,zb rfl,zb rfl,⟨rfl,rfl,rfl,rfl,rfl,rfl,rfl,rfl,t_⟩,⟨rfl,rfl,rfl,zaT xg,rfl,rfl,t_⟩,rfl,rfl⟩
 .let kk:=10
  let t:lt.T:=(x0,x1,x2,x3,x4,x5,x6,x7,x8,x9,xd,xe,xc,([],0,0,[],0,0,[],()),0,0,0,(0,0,()),[],(zg 32 0),())
  have pu:(0:Int)<=(kk:Int)/\(kk:Int)<17:=⟨qh _,of_decide_eq_true rfl⟩;have xr:inR .i64 ((kk:Int)+1):=zah o_ o_;have xa:=zen L (k:=kk) (zb rfl);obtain⟨tk,xm⟩:∃y,y=tlL L kk:=⟨_,rfl⟩;obtain⟨tn,xg⟩:∃y,y=tlL L (kk+1):=⟨_,rfl⟩;rw[<-xm, <-xg]at xa;have hv:ltS L=xb:=by rw[<-hL];rfl
  have xl:zdI L kk=bif za3 x0 (kk:Int) then serF xb else []:=by
   unfold zdI;rw[e0, <-hv];rfl
  refine zak (Y':=⟨(38,⟨i64,(kk:Int)⟩)::F,O (st kk) tk,6⟩) ⟨⟨rfl,rfl,rfl,rfl,rfl,rfl,rfl,rfl,t_⟩,⟨rfl,rfl,rfl,zaT xm.symm,rfl,rfl,t_⟩,rfl,rfl⟩ ?_;refine zaa (zaj ?_);refine zat 1 zaw ?_;refine zaJ zaX rfl rfl rfl rfl kk rfl rfl rfl rfl rfl ?_;refine zau zaw ?_;refine zak (Y':=⟨(8,⟨i64,(kk:Int)⟩)::(9,⟨.lit,zz none⟩)::(38,⟨i64,(kk:Int)⟩)::F,O (st kk) tk,6⟩) ⟨⟨rfl,rfl,rfl,rfl,rfl,rfl,rfl,rfl,rfl,rfl,t_⟩,⟨rfl,rfl,rfl,rfl,rfl,rfl,t_⟩,rfl,rfl⟩ ?_;cases hu:za3 x0 (kk:Int) with
  |false=>
   have ht:tk=tn:=by rw[xa,xl,hu];rfl
   have hz:xb=zSe:=by rw[<-hv];exact zs (.inl (by rw[e0];exact hu))
   subst hz;refine zaa (zaa (zab zaw ?_ (hp:=by exact⟨xf.1,xf.2,pu.1,pu.2⟩)));refine zae rfl (λ_=>?_) (λhb=>?_)
   rotate_left
   .have hb:(!za3 x0 (kk:Int))=false:=hb;rw[hu]at hb;cases hb
   refine zaa ?_;refine zaa (zab zaw ?_);exact⟨kk+1,zb rfl,zb rfl,⟨rfl,rfl,rfl,rfl,rfl,rfl,rfl,rfl,t_⟩,⟨rfl,rfl,rfl,zaT (ht.trans xg),rfl,rfl,t_⟩,rfl,rfl⟩
  |true=>
   refine zaa (zaa (zab zaw ?_ (hp:=by exact⟨xf.1,xf.2,pu.1,pu.2⟩)));refine zae rfl (λhb=>?_) (λ_=>?_)
   .have hb:(!za3 x0 (kk:Int))=true:=hb;rw[hu]at hb;cases hb
   have xj:tk=serF xb++tn:=by rw[xa,xl,hu,cond_true]
   refine zaa (zaa (zaj ?_));refine zat 1 zaw ?_;refine zdS zgL (.inr ⟨rfl,rfl⟩) rfl rfl rfl rfl rfl rfl ?_;refine zau zaw ?_;refine zaL rfl ?_;refine zak (Y':=⟨(8,⟨i64,(kk:Int)⟩)::(38,⟨i64,(kk:Int)⟩)::F,O (st kk) tk,6⟩) ⟨⟨rfl,rfl,rfl,rfl,rfl,rfl,rfl,rfl,rfl,t_⟩,⟨rfl,rfl,rfl,rfl,rfl,rfl,t_⟩,rfl,rfl⟩ ?_;refine zaa (zaj ?_);refine zat 1 zaw ?_;refine zdh zfk fnV rfl rfl rfl rfl rfl rfl rfl rfl rfl rfl rfl kk (zb rfl) rfl rfl rfl ?_;unfold serF at xj;cases hno:zdc xb with
   |true=>
    rw[hno,cond_true]at xj;have hz:xb=zSe:=by rw[<-hv];exact zs (.inr (by rw[hv];exact hno))
    subst hz;refine kW (m:=40) 5 hX rfl rfl Tryz.call35 rfl rfl (rc:=[3]) (cp:=[]) rfl rfl [⟨.hptr,((3:Nat),(0:Nat))⟩] [] rfl rfl rfl (N:=NMt fix t tn 6) (E1:=rdL fix (st kk) tk)
     (λwz Xz c1 c2 c3 c4 c5 _ c7 _=>zue c1 c2 c3 c4 c5 fix (λi hi=>c7 i hi) t tk tn xj) (λv E nx h=>?_) (λv E nx h=>?_)
    .obtain⟨rfl,rfl,rfl⟩:=h;rfl
    obtain⟨rfl,rfl,rfl⟩:=h;refine qu ?_;refine zaa (zab zaw ?_);exact⟨kk+1,zb rfl,zb rfl,⟨rfl,rfl,rfl,rfl,rfl,rfl,rfl,rfl,t_⟩,⟨rfl,rfl,rfl,zaT xg,rfl,rfl,t_⟩,rfl,rfl⟩
   |false=>
    rw[hno,cond_false,zB]at xj;have yb:sndG xb:=by rw[<-hv];exact(zg8 hg (by rw[e0];exact hu)).2 (by rw[hv];exact hno)
    have y8:seR xb:=by rw[<-hv];exact rs
    refine kW (m:=40) 5 hX rfl rfl Tryz.call35 rfl rfl (rc:=[3]) (cp:=[]) rfl rfl [⟨.hptr,((3:Nat),(0:Nat))⟩] [] rfl rfl rfl (N:=NMt fix (upS xb t) tn 6) (E1:=rdL fix (st kk) tk)
     (λwz Xz c1 c2 c3 c4 c5 _ c7 _=>zvG c1 c2 c3 c4 c5 fix (λi hi=>c7 i hi) t xb yb y8 tk tn xj) (λv E nx h=>?_) (λv E nx h=>?_)
    .obtain⟨rfl,rfl,rfl⟩:=h;rfl
    obtain⟨rfl,rfl,rfl⟩:=h;refine qu ?_;refine zaa (zab zaw ?_);exact⟨kk+1,zb rfl,zb rfl,⟨rfl,rfl,rfl,rfl,rfl,rfl,rfl,rfl,t_⟩,⟨rfl,rfl,rfl,zaT xg,rfl,rfl,t_⟩,rfl,rfl⟩
 let kk:=11;let of:=24;let X:=xi;let t:lt.T:=(x0,x1,x2,x3,x4,x5,x6,x7,x8,x9,xd,xe,xc,xb,0,0,0,(0,0,()),[],(zg 32 0),());rotate_left
 let kk:=12;let of:=25;let X:=xn;let t:lt.T:=(x0,x1,x2,x3,x4,x5,x6,x7,x8,x9,xd,xe,xc,xb,xi,0,0,(0,0,()),[],(zg 32 0),());rotate_left
 let kk:=13;let of:=26;let X:=xp;let t:lt.T:=(x0,x1,x2,x3,x4,x5,x6,x7,x8,x9,xd,xe,xc,xb,xi,xn,0,(0,0,()),[],(zg 32 0),());rotate_left
 .let kk:=14
  let t:lt.T:=(x0,x1,x2,x3,x4,x5,x6,x7,x8,x9,xd,xe,xc,xb,xi,xn,xp,(0,0,()),[],(zg 32 0),())
  have pu:(0:Int)<=(kk:Int)/\(kk:Int)<17:=⟨qh _,of_decide_eq_true rfl⟩;have xr:inR .i64 ((kk:Int)+1):=zah o_ o_;have xa:=zen L (k:=kk) (zb rfl);obtain⟨tk,xm⟩:∃y,y=tlL L kk:=⟨_,rfl⟩;obtain⟨tn,xg⟩:∃y,y=tlL L (kk+1):=⟨_,rfl⟩;rw[<-xm, <-xg]at xa;have hv:ltW L=xh:=by rw[<-hL];rfl
  have xl:zdI L kk=bif za3 x0 (kk:Int) then winB xh else []:=by
   unfold zdI;rw[e0, <-hv];rfl
  refine zak (Y':=⟨(38,⟨i64,(kk:Int)⟩)::F,O (st kk) tk,6⟩) ⟨⟨rfl,rfl,rfl,rfl,rfl,rfl,rfl,rfl,t_⟩,⟨rfl,rfl,rfl,zaT xm.symm,rfl,rfl,t_⟩,rfl,rfl⟩ ?_;refine zaa (zaj ?_);refine zat 1 zaw ?_;refine zaJ zaX rfl rfl rfl rfl kk rfl rfl rfl rfl rfl ?_;refine zau zaw ?_;refine zak (Y':=⟨(8,⟨i64,(kk:Int)⟩)::(9,⟨.lit,zz none⟩)::(38,⟨i64,(kk:Int)⟩)::F,O (st kk) tk,6⟩) ⟨⟨rfl,rfl,rfl,rfl,rfl,rfl,rfl,rfl,rfl,rfl,t_⟩,⟨rfl,rfl,rfl,rfl,rfl,rfl,t_⟩,rfl,rfl⟩ ?_;cases hu:za3 x0 (kk:Int) with
  |false=>
   have ht:tk=tn:=by rw[xa,xl,hu];rfl
   have hz:xh=(0,0,()):=by rw[<-hv];exact zw (by rw[e0];exact hu)
   subst hz;refine zaa (zaa (zab zaw ?_ (hp:=by exact⟨xf.1,xf.2,pu.1,pu.2⟩)));refine zae rfl (λ_=>?_) (λhb=>?_)
   rotate_left
   .have hb:(!za3 x0 (kk:Int))=false:=hb;rw[hu]at hb;cases hb
   refine zaa ?_;refine zaa (zab zaw ?_);exact⟨kk+1,zb rfl,zb rfl,⟨rfl,rfl,rfl,rfl,rfl,rfl,rfl,rfl,t_⟩,⟨rfl,rfl,rfl,zaT (ht.trans xg),rfl,rfl,t_⟩,rfl,rfl⟩
  |true=>
   refine zaa (zaa (zab zaw ?_ (hp:=by exact⟨xf.1,xf.2,pu.1,pu.2⟩)));refine zae rfl (λhb=>?_) (λ_=>?_)
   .have hb:(!za3 x0 (kk:Int))=true:=hb;rw[hu]at hb;cases hb
   have xj:tk=winB xh++tn:=by rw[xa,xl,hu,cond_true]
   refine zaa (zaa (zaj ?_));refine zat 1 zaw ?_;refine zdS zgL (.inr ⟨rfl,rfl⟩) rfl rfl rfl rfl rfl rfl ?_;refine zau zaw ?_;refine zaL rfl ?_;refine zak (Y':=⟨(8,⟨i64,(kk:Int)⟩)::(38,⟨i64,(kk:Int)⟩)::F,O (st kk) tk,6⟩) ⟨⟨rfl,rfl,rfl,rfl,rfl,rfl,rfl,rfl,rfl,t_⟩,⟨rfl,rfl,rfl,rfl,rfl,rfl,t_⟩,rfl,rfl⟩ ?_;refine zaa (zaj ?_);refine zat 1 zaw ?_;refine zdh zfk fnV rfl rfl rfl rfl rfl rfl rfl rfl rfl rfl rfl kk (zb rfl) rfl rfl rfl ?_;rw[hv]at xt xv;obtain⟨(wa:Int),(we:Int),⟨⟩⟩:=xh;have xt:inR .i64 wa:=xt;have xv:inR .i64 we:=xv;refine kW (m:=20) 5 hX rfl rfl Tryz.call36 rfl rfl (rc:=[3]) (cp:=[]) rfl rfl [⟨.hptr,((3:Nat),(0:Nat))⟩] [] rfl rfl rfl (N:=NMt fix (upW (wa,we,()) t) tn 6) (E1:=rdL fix (st kk) tk)
    (λwz Xz c1 c2 c3 c4 c5 _ c7 _=>zvE c1 c2 c3 c4 c5 fix (λi hi=>c7 i hi) t wa we xt xv tk tn xj) (λv E nx h=>?_) (λv E nx h=>?_)
   .obtain⟨rfl,rfl,rfl⟩:=h;rfl
   obtain⟨rfl,rfl,rfl⟩:=h;refine qu ?_;refine zaa (zab zaw ?_);exact⟨kk+1,zb rfl,zb rfl,⟨rfl,rfl,rfl,rfl,rfl,rfl,rfl,rfl,t_⟩,⟨rfl,rfl,rfl,zaT xg,rfl,rfl,t_⟩,rfl,rfl⟩
 .let kk:=15
  let t:lt.T:=(x0,x1,x2,x3,x4,x5,x6,x7,x8,x9,xd,xe,xc,xb,xi,xn,xp,xh,[],(zg 32 0),())
  have pu:(0:Int)<=(kk:Int)/\(kk:Int)<17:=⟨qh _,of_decide_eq_true rfl⟩;have xr:inR .i64 ((kk:Int)+1):=zah o_ o_;have xa:=zen L (k:=kk) (zb rfl);obtain⟨tk,xm⟩:∃y,y=tlL L kk:=⟨_,rfl⟩;obtain⟨tn,xg⟩:∃y,y=tlL L (kk+1):=⟨_,rfl⟩;rw[<-xm, <-xg]at xa;have hv:ltC L=xk:=by rw[<-hL];rfl
  have xl:zdI L kk=bif za3 x0 (kk:Int) then celB xk else []:=by
   unfold zdI;rw[e0, <-hv];rfl
  refine zak (Y':=⟨(38,⟨i64,(kk:Int)⟩)::F,O (st kk) tk,6⟩) ⟨⟨rfl,rfl,rfl,rfl,rfl,rfl,rfl,rfl,t_⟩,⟨rfl,rfl,rfl,zaT xm.symm,rfl,rfl,t_⟩,rfl,rfl⟩ ?_;refine zaa (zaj ?_);refine zat 1 zaw ?_;refine zaJ zaX rfl rfl rfl rfl kk rfl rfl rfl rfl rfl ?_;refine zau zaw ?_;refine zak (Y':=⟨(8,⟨i64,(kk:Int)⟩)::(9,⟨.lit,zz none⟩)::(38,⟨i64,(kk:Int)⟩)::F,O (st kk) tk,6⟩) ⟨⟨rfl,rfl,rfl,rfl,rfl,rfl,rfl,rfl,rfl,rfl,t_⟩,⟨rfl,rfl,rfl,rfl,rfl,rfl,t_⟩,rfl,rfl⟩ ?_;cases hu:za3 x0 (kk:Int) with
  |false=>
   have ht:tk=tn:=by rw[xa,xl,hu];rfl
   have hz:xk=[]:=by rw[<-hv];exact zc (by rw[e0];exact hu)
   subst hz;refine zaa (zaa (zab zaw ?_ (hp:=by exact⟨xf.1,xf.2,pu.1,pu.2⟩)));refine zae rfl (λ_=>?_) (λhb=>?_)
   rotate_left
   .have hb:(!za3 x0 (kk:Int))=false:=hb;rw[hu]at hb;cases hb
   refine zaa ?_;refine za9 1 29 3 i64 rfl rfl rfl ?_;refine ug hX 1 29 ?_;refine zaa (zab zaw ?_);exact⟨kk+1,zb rfl,zb rfl,⟨rfl,rfl,rfl,rfl,rfl,rfl,rfl,rfl,t_⟩,⟨rfl,rfl,rfl,zaT (ht.trans xg),rfl,rfl,t_⟩,rfl,rfl⟩
  |true=>
   refine zaa (zaa (zab zaw ?_ (hp:=by exact⟨xf.1,xf.2,pu.1,pu.2⟩)));refine zae rfl (λhb=>?_) (λ_=>?_)
   .have hb:(!za3 x0 (kk:Int))=true:=hb;rw[hu]at hb;cases hb
   have xj:tk=celB xk++tn:=by rw[xa,xl,hu,cond_true]
   refine zaa (zaa (zaj ?_));refine zat 1 zaw ?_;refine zdS zgL (.inr ⟨rfl,rfl⟩) rfl rfl rfl rfl rfl rfl ?_;refine zau zaw ?_;refine zaL rfl ?_;refine zak (Y':=⟨(8,⟨i64,(kk:Int)⟩)::(38,⟨i64,(kk:Int)⟩)::F,O (st kk) tk,6⟩) ⟨⟨rfl,rfl,rfl,rfl,rfl,rfl,rfl,rfl,rfl,t_⟩,⟨rfl,rfl,rfl,rfl,rfl,rfl,t_⟩,rfl,rfl⟩ ?_;refine zaa (zaj ?_);refine zat 1 zaw ?_;refine zdh zfk fnV rfl rfl rfl rfl rfl rfl rfl rfl rfl rfl rfl kk (zb rfl) rfl rfl rfl ?_;have ya:∀x∈xk,0<=x/\x<=255:=by rw[<-hv];exact rc
   have ye:xk.length<=65536:=by rw[<-hv];exact hg.2.2.2.1
   refine kW (m:=36) 5 hX rfl rfl Tryz.call37 rfl rfl (rc:=[3]) (cp:=[]) rfl rfl [⟨.hptr,((3:Nat),(0:Nat))⟩] [] rfl rfl rfl (N:=λv E nx=>v=⟨.junk,()⟩/\E=rdF fix (upC xk t) tn/\nx=6) (E1:=rdL fix (st kk) tk)
    (λwz Xz c1 c2 c3 c4 c5 _ c7 _=>zv4 c1 c2 c3 c4 c5 fix (λi hi=>c7 i hi) t xk ya ye tk tn xj) (λv E nx h=>?_) (λv E nx h=>?_)
   .obtain⟨rfl,rfl,rfl⟩:=h;rfl
   obtain⟨rfl,rfl,rfl⟩:=h;refine qu ?_;refine zaa (zab zaw ?_);exact⟨kk+1,zb rfl,zb rfl,⟨rfl,rfl,rfl,rfl,rfl,rfl,rfl,rfl,t_⟩,⟨rfl,rfl,rfl,zaT xg,rfl,rfl,t_⟩,rfl,rfl⟩
 .let kk:=16
  let t:lt.T:=(x0,x1,x2,x3,x4,x5,x6,x7,x8,x9,xd,xe,xc,xb,xi,xn,xp,xh,xk,(zg 32 0),())
  have pu:(0:Int)<=(kk:Int)/\(kk:Int)<17:=⟨qh _,of_decide_eq_true rfl⟩;have xr:inR .i64 ((kk:Int)+1):=zah o_ o_;have xa:=zen L (k:=kk) (zb rfl);obtain⟨tk,xm⟩:∃y,y=tlL L kk:=⟨_,rfl⟩;obtain⟨tn,xg⟩:∃y,y=tlL L (kk+1):=⟨_,rfl⟩;rw[<-xm, <-xg]at xa;have hv:ltD L=xo:=by rw[<-hL];rfl
  have xl:zdI L kk=bif za3 x0 (kk:Int) then xo else []:=by
   unfold zdI;rw[e0, <-hv];rfl
  refine zak (Y':=⟨(38,⟨i64,(kk:Int)⟩)::F,O (st kk) tk,6⟩) ⟨⟨rfl,rfl,rfl,rfl,rfl,rfl,rfl,rfl,t_⟩,⟨rfl,rfl,rfl,zaT xm.symm,rfl,rfl,t_⟩,rfl,rfl⟩ ?_;refine zaa (zaj ?_);refine zat 1 zaw ?_;refine zaJ zaX rfl rfl rfl rfl kk rfl rfl rfl rfl rfl ?_;refine zau zaw ?_;refine zak (Y':=⟨(8,⟨i64,(kk:Int)⟩)::(9,⟨.lit,zz none⟩)::(38,⟨i64,(kk:Int)⟩)::F,O (st kk) tk,6⟩) ⟨⟨rfl,rfl,rfl,rfl,rfl,rfl,rfl,rfl,rfl,rfl,t_⟩,⟨rfl,rfl,rfl,rfl,rfl,rfl,t_⟩,rfl,rfl⟩ ?_;cases hu:za3 x0 (kk:Int) with
  |false=>
   have ht:tk=tn:=by rw[xa,xl,hu];rfl
   have hz:xo=zg 32 0:=by rw[<-hv];exact zd (by rw[e0];exact hu)
   subst hz;refine zaa (zaa (zab zaw ?_ (hp:=by exact⟨xf.1,xf.2,pu.1,pu.2⟩)));refine zae rfl (λ_=>?_) (λhb=>?_)
   rotate_left
   .have hb:(!za3 x0 (kk:Int))=false:=hb;rw[hu]at hb;cases hb
   refine zaa ?_;refine zaa (zab zaw ?_);exact⟨kk+1,zb rfl,zb rfl,⟨rfl,rfl,rfl,rfl,rfl,rfl,rfl,rfl,t_⟩,⟨rfl,rfl,rfl,zaT (ht.trans xg),rfl,rfl,t_⟩,rfl,rfl⟩
  |true=>
   refine zaa (zaa (zab zaw ?_ (hp:=by exact⟨xf.1,xf.2,pu.1,pu.2⟩)));refine zae rfl (λhb=>?_) (λ_=>?_)
   .have hb:(!za3 x0 (kk:Int))=true:=hb;rw[hu]at hb;cases hb
   have xj:tk=xo++tn:=by rw[xa,xl,hu,cond_true]
   refine zaa (zaa (zaj ?_));refine zat 1 zaw ?_;refine zdS zgL (.inr ⟨rfl,rfl⟩) rfl rfl rfl rfl rfl rfl ?_;refine zau zaw ?_;refine zaL rfl ?_;refine zak (Y':=⟨(8,⟨i64,(kk:Int)⟩)::(38,⟨i64,(kk:Int)⟩)::F,O (st kk) tk,6⟩) ⟨⟨rfl,rfl,rfl,rfl,rfl,rfl,rfl,rfl,rfl,t_⟩,⟨rfl,rfl,rfl,rfl,rfl,rfl,t_⟩,rfl,rfl⟩ ?_;refine zaa (zaj ?_);refine zat 1 zaw ?_;refine zdh zfk fnV rfl rfl rfl rfl rfl rfl rfl rfl rfl rfl rfl kk (zb rfl) rfl rfl rfl ?_;have xw:xo.length=32:=by rw[<-hv];exact hg.2.2.2.2.2
   refine kW (m:=15) 5 hX rfl rfl Tryz.call38 rfl rfl (rc:=[3]) (cp:=[]) rfl rfl [⟨.hptr,((3:Nat),(0:Nat))⟩] [] rfl rfl rfl (N:=λv E nx=>v=⟨.junk,()⟩/\E=rdF fix (upD xo t) tn/\nx=6) (E1:=rdL fix (st kk) tk)
    (λwz Xz c1 c2 c3 c4 c5 _ c7 _=>zvH c1 c2 c3 c4 c5 fix (λi hi=>c7 i hi) t xo xw tk tn xj) (λv E nx h=>?_) (λv E nx h=>?_)
   .obtain⟨rfl,rfl,rfl⟩:=h;rfl
   obtain⟨rfl,rfl,rfl⟩:=h;refine qu ?_;refine zaa (zab zaw ?_);exact⟨kk+1,zb rfl,zb rfl,⟨rfl,rfl,rfl,rfl,rfl,rfl,rfl,rfl,t_⟩,⟨rfl,rfl,rfl,zaT xg,rfl,rfl,t_⟩,rfl,rfl⟩
 all_goals
  have pu:(0:Int)<=(kk:Int)/\(kk:Int)<17:=⟨qh _,of_decide_eq_true rfl⟩;have xr:inR .i64 ((kk:Int)+1):=zah o_ o_;have xa:=zen L (k:=kk) (zb rfl);obtain⟨tk,xm⟩:∃y,y=tlL L kk:=⟨_,rfl⟩;obtain⟨tn,xg⟩:∃y,y=tlL L (kk+1):=⟨_,rfl⟩;rw[<-xm, <-xg]at xa;have hv:nAt L kk=X:=by rw[<-hL];rfl
  have y9:inR .i64 X:=by rw[<-hv];exact rn kk
  have xl:zdI L kk=bif za3 x0 (kk:Int) then leB X 8 else []:=by
   unfold zdI;rw[e0,show fldB L kk=leB (nAt L kk) 8 from rfl,hv]
  refine zak (Y':=⟨(38,⟨i64,(kk:Int)⟩)::F,O (st kk) tk,6⟩) ⟨⟨rfl,rfl,rfl,rfl,rfl,rfl,rfl,rfl,t_⟩,⟨rfl,rfl,rfl,zaT xm.symm,rfl,rfl,t_⟩,rfl,rfl⟩ ?_;refine zaa (zaj ?_);refine zat 1 zaw ?_;refine zaJ zaX rfl rfl rfl rfl kk rfl rfl rfl rfl rfl ?_;refine zau zaw ?_;refine zak (Y':=⟨(8,⟨i64,(kk:Int)⟩)::(9,⟨.hptr,((1:Nat),of)⟩)::(38,⟨i64,(kk:Int)⟩)::F,O (st kk) tk,6⟩) ⟨⟨rfl,rfl,rfl,rfl,rfl,rfl,rfl,rfl,rfl,rfl,t_⟩,⟨rfl,rfl,rfl,rfl,rfl,rfl,t_⟩,rfl,rfl⟩ ?_;cases hu:za3 x0 (kk:Int) with
  |false=>
   have ht:tk=tn:=by rw[xa,xl,hu];rfl
   have hz:X=0:=by rw[<-hv];exact zn kk (of_decide_eq_true (p:=_\/_) rfl) (by rw[e0];exact hu)
   refine zaa (zaa (zab zaw ?_ (hp:=by exact⟨xf.1,xf.2,pu.1,pu.2⟩)));refine zae rfl (λ_=>?_) (λhb=>?_)
   rotate_left
   .have hb:(!za3 x0 (kk:Int))=false:=hb;rw[hu]at hb;cases hb
   refine zaa ?_;have HB:some (OObj.hbox 42 (st kk))=some (OObj.hbox 42 (st (kk+1))):=by
    show some (OObj.hbox 42 ((st kk).set of ⟨i64,0⟩))=some (OObj.hbox 42 ((st kk).set of ⟨i64,X⟩));rw[hz]
   refine zaa (zab zaw ?_);exact⟨kk+1,zb rfl,zb rfl,⟨rfl,rfl,rfl,rfl,rfl,rfl,rfl,rfl,t_⟩,⟨rfl,rfl,HB,zaT (ht.trans xg),rfl,rfl,t_⟩,rfl,rfl⟩
  |true=>
   refine zaa (zaa (zab zaw ?_ (hp:=by exact⟨xf.1,xf.2,pu.1,pu.2⟩)));refine zae rfl (λhb=>?_) (λ_=>?_)
   .have hb:(!za3 x0 (kk:Int))=true:=hb;rw[hu]at hb;cases hb
   have xj:tk=leB X 8++tn:=by rw[xa,xl,hu,cond_true]
   have u9:nuV tk 8=X:=by rw[xj];exact nu8 y9 _
   have v9:tk.drop 8=tn:=by rw[xj];exact zfo _ _ _
   have w9:8<=tk.length:=by rw[xj];exact lenB _ _ _
   refine zaa (zaa (zaj ?_));refine zat 1 zaw ?_;refine ztP zgL rfl rfl rfl rfl rfl ?_;refine zau zaw ?_;refine zbu rfl ?_;refine zak (Y':=⟨(9,⟨.hptr,((1:Nat),of)⟩)::(38,⟨i64,(kk:Int)⟩)::F,O (st kk) tk,6⟩) ⟨⟨rfl,rfl,rfl,rfl,rfl,rfl,rfl,rfl,rfl,t_⟩,⟨rfl,rfl,rfl,rfl,rfl,rfl,t_⟩,rfl,rfl⟩ ?_;refine zaa (zaj ?_);refine zat 2 zaw ?_;refine kn (m:=23) 5 hX rfl rfl jO rfl rfl rfl (N:=NNum fix t tk 8 6) (E1:=rdL fix (st kk) tk)
    (λwz Xz c1 c2 c3 c4 c5 _ c7 _=>zfc c1 c2 c3 c4 c5 fix (λi hi=>c7 i hi) t tk 8 d_ w9 6 d_) (λv E nx h=>?_) (λv E nx h=>?_)
   .obtain⟨rfl,rfl,rfl⟩:=h;rfl
   obtain⟨rfl,rfl,rfl⟩:=h;refine j0 (Y':=⟨(57,⟨i64,X⟩)::(55,⟨.hptr,((1:Nat),of)⟩)::(38,⟨i64,(kk:Int)⟩)::F,O (st kk) tn,6⟩) ⟨⟨vI64 u9,rfl,rfl,rfl,rfl,rfl,rfl,rfl,rfl,rfl,t_⟩,⟨rfl,rfl,rfl,zaT v9,rfl,rfl,t_⟩,rfl,rfl⟩ ?_;refine zau zaw ?_;refine zaa ?_;refine zaa (zab zaw ?_);exact⟨kk+1,zb rfl,zb rfl,⟨rfl,rfl,rfl,rfl,rfl,rfl,rfl,rfl,t_⟩,⟨rfl,rfl,rfl,zaT xg,rfl,rfl,t_⟩,rfl,rfl⟩
def cEqM:Ctr:={ args:=[(.slice mv),(.slice mv)],pre:=λx=>[x.1=x.2.1],res:=.bool,own:=none,out:=λ_=>true }
set_option maxHeartbeats 8000000 in
theorem zvB:yQ zf gmG 41 cEqM:=by
 refine ctr2 zar Tryz.func41 Tryz.call41 ?_;rintro w0 X hX ⟨(l:List mv.T),(m:List mv.T),_⟩ hp;obtain rfl:l=m:=hp;change AWP _ _ _ _ _ ⟨[(0,⟨(.slice mv),l⟩),(1,⟨(.slice mv),l⟩)],[],0⟩ _;refine AWP.len 0 rfl λhl=>?_;unfold maxLen at hl
 iterate 2 (refine zaa (zaa (zab zar ?_)))
 refine zae rfl (λhb=>?_) (λ_=>?_)
 .have hb:(((l.length:Nat):Int) != ((l.length:Nat):Int))=true:=hb;simp at hb
 apply zaf;refine zaa (zaa (zab zar ?_));refine zaa ?_;refine yK (ι:=Nat) (λk=>⟨[(0,⟨(.slice mv),l⟩),(1,⟨(.slice mv),l⟩),(12,⟨i64,((l.length:Nat):Int)⟩),(13,⟨i64,(k:Int)⟩)],[],0⟩) (λk=>k<=l.length) (λk=>l.length-k) 0 (zk _) ⟨⟨rfl,rfl,rfl,rfl,t_⟩,t_,rfl,rfl⟩ ?_;intro k hk;refine zaa (zaa (zab zar ?_));refine zaa ?_;refine zae rfl (λhb=>?_) (λhb=>?_)
 .have hb:decide ((k:Int)<(l.length:Nat))=true:=hb;have hb:=of_decide_eq_true hb;have q1:inR .i64 ((k:Int)+1):=zah o_ o_;refine zaa (zaa (zab zar ?_));refine zaa ?_;refine zaa (zaa (zcE 8 dM zar rfl ?_));refine zae rfl (λhc=>?_) (λ_=>?_)
  .exfalso;have hc:(!eqb mv (l.getD (k:Int).toNat (zaD mv)) (l.getD (k:Int).toNat (zaD mv)))=true:=hc;rw[zdR]at hc;cases hc
  .refine zaa ?_;refine zaa (zab zar ?_);exact⟨k+1,by omega,by omega,⟨rfl,rfl,rfl,rfl,t_⟩,t_,rfl,rfl⟩
 .apply zan;refine zaa (zaa (zab zar ?_));exact zC ⟨.inr rfl,D1 rfl⟩
def NTr(v:V)(E:Owns)(nx:Nat):Prop:=v=⟨.bool,true⟩/\E=[]/\nx=0
noncomputable def kSN:Kn:={ dK with C:=[(40,cEqI),(41,cEqM)] }
theorem zaY:KnOk zf dG kSN:=zam.with (.cons zvC.up<|.cons zvB.up .nil)
theorem zmJ{w1:zj}{X:Ownr}(hX:X.Ok w1)(hG:X.G=dG)(hK:X.K=0)(x0:X.ρ=none)(hD:X.D=[])(n:nd.T):zc3 zf w1 X 43 59 (frV 0 [⟨nd,n⟩,⟨nd,n⟩]) [] 0 NTr:=by
 obtain⟨G',O',K',fix,D',x1,B'⟩:=X;obtain rfl:=hG;obtain rfl:=hK;obtain rfl:=x0;obtain rfl:=hD;refine zbP Tryz.func43 rfl rfl (.inr ⟨_,rfl⟩) rfl rfl ?_;obtain⟨a,b,c,d,e,f,li,na,⟨⟩⟩:=n;change AWP _ _ _ _ _ ⟨[(0,⟨nd,(a,b,c,d,e,f,li,na,())⟩),(1,⟨nd,(a,b,c,d,e,f,li,na,())⟩)],[],0⟩ _;refine zaa (zaa (zab zaY ?_));refine xN hX 2 ?_;refine xN hX 3 ?_;refine zaa (zaa (zab zaY ?_ (hp:=?_)))
 .have hv:(bif (bif (bif (bif (bif (bif (bif a==a then b==b else false) then c==c else false) then d==d else false) then e==e else false) then f==f else false) then eqb .str na na else false) then true else false)=true:=by simp[zdR (t:=.str) na]
  refine zak (Y':=⟨[(4,⟨.bool,true⟩)],[],0⟩) ⟨⟨zcp hv,t_⟩,t_,rfl,rfl⟩ ?_;exact zC ⟨.inr rfl,rfl,rfl,rfl⟩
 .repeat'(first|exact λh=>h|exact λh=>⟨h,h⟩|exact λh=>⟨h,rfl⟩|exact λh=>⟨h,h,h⟩|exact λh=>⟨h,h,rfl⟩|exact λh=>⟨h,h,h,rfl⟩|refine vI ?_ ?_)
theorem zv1{w1:zj}{X:Ownr}(hX:X.Ok w1)(hG:X.G=dG)(hK:X.K=0)(x0:X.ρ=none)(hD:X.D=[])(l:List nd.T):zc3 zf w1 X 42 32 (frV 0 [⟨.slice nd,l⟩,⟨.slice nd,l⟩,⟨.lit,.func (.func 43) #[] #[]⟩]) [] 0 NTr:=by
 obtain⟨G',O',K',fix,D',x1,B'⟩:=X;obtain rfl:=hG;obtain rfl:=hK;obtain rfl:=x0;obtain rfl:=hD;refine zbP Tryz.func42 rfl rfl (.inr ⟨_,rfl⟩) rfl rfl ?_;refine AWP.len 0 rfl λhl=>?_;unfold maxLen at hl
 iterate 2 (refine zaa (zaa (zab zaY ?_)))
 refine zae rfl (λhb=>?_) (λ_=>?_)
 .
  simp at hb
 apply zaf;refine zaa (zaa (zab zaY ?_));refine zaa ?_;refine yK (ι:=Nat) (λk=>⟨[(1,⟨.slice nd,l⟩),(2,⟨.lit,.func (.func 43) #[] #[]⟩),(15,⟨.slice nd,l⟩),(16,⟨i64,((l.length:Nat):Int)⟩),(17,⟨i64,(k:Int)⟩)],[],0⟩) (λk=>k<=l.length) (λk=>l.length-k) 0 (zk _) ⟨⟨rfl,rfl,rfl,rfl,rfl,t_⟩,t_,rfl,rfl⟩ ?_;intro k hk;refine zaa (zaa (zab zaY ?_));refine zaa ?_;refine zae rfl (λhb=>?_) (λhb=>?_)
 .
  have hb:=of_decide_eq_true hb;have n0:(0:Int)<=(k:Int):=o_;have q1:inR .i64 ((k:Int)+1):=zah o_ o_;apply zaf
  iterate 2 (refine zaa (zaa (zab zaY ?_ (hp:=by exact⟨n0,hb⟩))))
  refine zaa (zaa (zaj ?_));refine zat 3 zaY ?_;obtain⟨x,hx⟩:∃x,x=l.getD (k:Int).toNat (zaD nd):=⟨_,rfl⟩;refine j0 (Y':=⟨[(26,⟨.lit,.func (.func 43) #[] #[]⟩),(27,⟨nd,x⟩),(28,⟨nd,x⟩),(1,⟨.slice nd,l⟩),(2,⟨.lit,.func (.func 43) #[] #[]⟩),(15,⟨.slice nd,l⟩),(16,⟨i64,((l.length:Nat):Int)⟩),(17,⟨i64,(k:Int)⟩)],[],0⟩) ⟨⟨rfl,congrArg (λz=>(⟨nd,z⟩:V)) hx.symm,congrArg (λz=>(⟨nd,z⟩:V)) hx.symm,rfl,rfl,rfl,rfl,rfl,t_⟩,t_,rfl,rfl⟩ ?_;refine kW (m:=59) 0 hX rfl rfl Tryz.call43 rfl rfl (rc:=[]) (cp:=[]) rfl rfl [] [] rfl rfl rfl (N:=NTr) (E1:=[])
   (λwz Xz c1 c2 c3 c4 c5 _ c7 _=>zmJ c1 c2 c3 c4 c5 x) (λv E nx h=>?_) (λv E nx h=>?_)
  .obtain⟨rfl,rfl,rfl⟩:=h;rfl
  obtain⟨rfl,rfl,rfl⟩:=h;refine zau zaY ?_;refine zaL rfl ?_;refine zaa ?_;refine zaa (zab zaY ?_);exact⟨k+1,by omega,by omega,⟨rfl,rfl,rfl,rfl,rfl,t_⟩,t_,rfl,rfl⟩
 .apply zan;refine zaa (zaa (zab zaY ?_));exact zC ⟨.inr rfl,rfl,rfl,rfl⟩
structure PArr(P:zA)(t et:zy)(m:Nat):Prop where
 size:∀w,(sizeOf t).run P w=.ok m w
 alloc:∀(w:zj)(ev:zK->zi)(o:Oper),o.op=.alloc t->(execOp ev o).run P w=.ok (.value (.pointer (some ⟨w.heap.size,0,none⟩))) (w.alloc (.cells (zg m (zz none)).toArray t (0,0)))
 at_:∀(w:zj)(ev:zK->zi)(o:Oper)(p i:zK)(g k:Nat),k<m->o.op=.indexAddr t p i->ev p=.pointer (some ⟨g,0,none⟩)->ev i=.int .i64 (k:Int)->(execOp ev o).run P w=.ok (.value (.pointer (some ⟨g,k,none⟩))) w
 agg:∀w,(Go.isAgg et).run P w=.ok false w
 eq:zra P et
section
variable {P:zA}{K:Kn}{w0:zj}{X:Ownr}{n:Nat}{F:List (Nat×V)}{E:Owns}{nx:Nat}{Q:Exit->AS->Prop}{ops:Array Oper}{t et:zy}{m:Nat}
theorem ztQ(ht:PArr P t et m)(hX:X.Ok w0){o:Oper}{x0:List Oper}(ho:o.op=.alloc t)(x3:o.guard=none){d:Nat}(hd:o.dst=some d)(x1:zO d n=true)
  (h:AL P w0 X n ops x0 ⟨(d,⟨.hptr,(nx,(0:Nat))⟩)::F,(nx,some (.hbox t (lits (zg m (.pointer none)))))::E,nx+1⟩ Q):AL P w0 X n ops (o::x0) ⟨F,E,nx⟩ Q:=by
 refine AL.hand x3 (λc e=>by rw[ho]at e;cases e) λU a w hs=>?_;have x2:d<n:=by simpa using x1
 refine zba (u:=.pointer (some ⟨w.heap.size,0,none⟩)) (w':=w.alloc (.cells (zg m (zz none)).toArray t (0,0))) ?_ ?_
 .exact ht.alloc w a.eval o ho
 .rw[hd];obtain⟨U',h1⟩:=hs.make hX ((zY _ w).alloc (zu _) (.cells (zg m (zz none)).toArray t (0,0))) (bv:=.pointer (some ⟨w.heap.size,0,none⟩)) (o:=.hbox t (lits (zg m (.pointer none))))
   (λO U' _=>⟨w.heap.size,zg m (.pointer none),rfl,zk _,World.alloc_heap_new w _,ze5 λu hu=>by rw[uw hu];rfl⟩) (λg hg=>by cases hg;exact zu _) (v:=⟨.hptr,(nx,(0:Nat))⟩) (u:=.pointer (some ⟨w.heap.size,0,none⟩))
   (λO U' hb=>⟨w.heap.size,by show zai (U' nx)=_;rw[show U' nx=_ from hb];rfl,rfl⟩) (zu _) x2 (λvs e v hv=>by cases e;exact zfJ v hv)
  exact⟨_,U',h1,h⟩
theorem ztO(ht:PArr P t et m){o:Oper}{x1:List Oper}{p x:zK}(ho:o.op=.store t p x)(xc:o.guard=none)(hd:o.dst=none){i:Nat}(hp:evO F p=⟨.hptr,(i,(0:Nat))⟩){vs:List V}{ty:zy}(hE:zq E i=some (.hbox ty vs))(x8:vs.length=m){Z:Ty}{y:Z.T}(hx:evO F x=⟨Z,y⟩)(x9:Z.leafy=true)(x7:∀w O U u,RepV w O U Z y u->∃us:List zi,u=.agg us.toArray)(hlen:(zaU Z y).length=m)(hb:(zaU Z y).all (λv=>Nat.beq v.bound 0)=true)
  (h:AL P w0 X n ops x1 ⟨F,(i,some (.hbox ty (zaU Z y)))::E,nx⟩ Q):AL P w0 X n ops (o::x1) ⟨F,E,nx⟩ Q:=by
 refine AL.hand xc (λc e=>by rw[ho]at e;cases e) λU a w hs=>?_;have h1:=hs.ops p;rw[show evO (AS.mk F E nx).F p=_ from hp]at h1;obtain⟨g,x2,xa⟩:=h1;obtain⟨g',cs,e1,_,e3,e4⟩:=hs.own _ _ hE;have xd:g'=g:=by
  have x2:zai (U i)=some g:=x2;rw[e1]at x2
  simpa [zai] using x2
 subst xd;have x5:cs.length=m:=by rw[<-e4.len];exact x8
 have h2:=hs.ops x;rw[show evO (AS.mk F E nx).F x=_ from hx]at h2;obtain⟨us,x4⟩:=x7 _ _ _ _ h2;have h3:=zgZ Z y _ x9 h2;rw[x4]at h3;have h3:RepH w (OSet X E U) U (zaU Z y) us:=by simpa [jL] using h3
 have x3:us.length=m:=h3.len.symm.trans hlen;have x0:(Instr.storeAt t (.pointer (some ⟨g',0,none⟩)) (a.eval x)).run P w=.ok () (w.setRow g' us.toArray):=by
  have x0:=run_storeCells_at P g' 0 ty us 0 (List.toArray cs) w e3 (by simp[x3,x5]) h3.one;simp only[Nat.add_zero]at x0;unfold Instr.storeAt Instr.sureAddr storeVar;simp only[zJ,Sem.run_pure,zD,ht.size,x4];have x6:(Value.agg us.toArray).cells.size=m:=by simp[jL,x3]
  rw[if_neg (by rw[x6];simp)];have xb:(Value.agg us.toArray).cells.toList=us:=by simp[jL]
  rw[xb,x0]
  congr 2
  simp[qp,x3,x5]
 unfold Oper.wp;have e:(execOp a.eval o).run P w=.ok .skip (w.setRow g' us.toArray):=by
  unfold execOp;simp only[ho];rw[xa];simp[x0]
 rw[e];show ∃Y' U',Sim w0 X n Y' U' (a.put o.dst undef) _/\_;rw[hd];refine⟨_,U,hs.write (o':=.hbox ty (zaU Z y)) hE (by rw[e1];exact zbJ w g' _) (λhk=>⟨g',us,e1,zk _,setRow_heap w g' cs.toArray _ ty _ e3,RepH.keep hk h3⟩) rfl (λws e v hv=>?_),h⟩;cases e;rw[Nat.eq_of_beq_eq_true (yH.1 hb v hv)];exact zk _
theorem zeA(ht:PArr P t et m){o:Oper}{N:AS->Prop}{p i:zK}(ho:o.op=.indexAddr t p i)(x2:o.guard=none){d:Nat}(hd:o.dst=some d)(x0:zO d n=true){j:Nat}(hp:evO F p=⟨.hptr,(j,(0:Nat))⟩)(k:Nat)(hk:k<m)(hi:evO F i=⟨.int .i64,((k:Nat):Int)⟩)(hj:zO j nx=true)(h:N ⟨(d,⟨.hptr,(j,k)⟩)::F,E,nx⟩):StepA P w0 X n ops o ⟨F,E,nx⟩ N Q:=
 uQ x2 λU a w hs=>by
  have h1:=hs.ops p;rw[show evO (AS.mk F E nx).F p=_ from hp]at h1;obtain⟨g,x3,x1⟩:=h1;have h2:=hs.ops i;rw[show evO (AS.mk F E nx).F i=_ from hi]at h2;have h3:=(RepD.scalar (t:=.int .i64) rfl).1 h2;have x4:j<nx:=by simpa using hj
  exact zbX hd x0 (v:=⟨.hptr,(j,k)⟩) (show j+1<=nx from x4) (N:=N) h hs (ht.at_ w a.eval o p i g k hk ho x1 (List.head_eq_of_cons_eq h3)) ⟨g,x3,rfl⟩
theorem zfA(ht:PArr P t et m){o:Oper}{N:AS->Prop}{x:zK}(ho:o.op=.load et x)(x4:o.guard=none){d:Nat}(hd:o.dst=some d)(x3:zO d n=true){j k:Nat}(hx:evO F x=⟨.hptr,(j,k)⟩){vs:List V}{ty:zy}(hE:zq E j=some (.hbox ty vs)){v:V}(hv:vs[k]? =some v)(hb:v.bound=0)(h:N ⟨(d,v)::F,E,nx⟩):StepA P w0 X n ops o ⟨F,E,nx⟩ N Q:=
 StepA.handV x4 hd x3 v hb (λU a w hs=>by
  have h1:=hs.ops x;rw[show evO (AS.mk F E nx).F x=_ from hx]at h1;obtain⟨g,x5,x1⟩:=h1;have x1:a.eval x=.pointer (some ⟨g,k,none⟩):=x1;obtain⟨g',cs,e1,_,e3,e4⟩:=hs.own _ _ hE;have x6:g'=g:=by
   have x2:=x5;rw[e1]at x2
   simpa [zai] using x2
  subst x6;obtain⟨c,hc,hr⟩:=ziw e4 hv;have x0:w.cell? ⟨g',k,none⟩=some c:=by simp[World.cell?,e3,hc]
  refine⟨c,?_,hr⟩;unfold execOp;simp only[ho];refine za7 ?_;rw[x1];simp only[Instr.loadAt,Instr.sureAddr,zJ,Sem.run_pure,zD];unfold Go.loadVar;simp only[zJ,ht.agg,zD];simp[load,Sem.run,x0]) h
theorem zkd(ht:PArr P t et m){o:Oper}{N:AS->Prop}{x:zK}{t2:zy}(ho:o.op=.binOp .neq et x (.const (.pointer none)) t2)(x1:o.guard=none){d:Nat}(hd:o.dst=some d)(x0:zO d n=true){hv:V}(hx:evO F x=hv){q:Bool}(hq:zmc hv=some q)(h:N ⟨(d,⟨.bool,!q⟩)::F,E,nx⟩):StepA P w0 X n ops o ⟨F,E,nx⟩ N Q:=
 StepA.handV x1 hd x0 ⟨.bool,!q⟩ rfl (λU a w hs=>by
  have h1:=hs.ops x;rw[show evO (AS.mk F E nx).F x=_ from hx]at h1;obtain⟨r1,r2⟩:=ht.eq w a.eval o x .neq t2 false (.inr ⟨rfl,rfl⟩) ho λ_=>rfl;revert h1 hq;unfold zmc;split
  .intro hq h1;cases hq;exact⟨_,r1 h1,qR⟩
  .rename_i Z y;intro hq h1;cases hq;obtain⟨g,off,cs,e,_⟩:=h1;exact⟨_,r2 _ e,qR⟩
  .intro hq;cases hq) h
end
theorem pArr:PArr zf 85 84 17 where
 size:=λw=>by simp[go_sem]
 alloc:=λw ev o ho=>by
  unfold execOp;simp[ho,Instr.alloc,Tryz.zeroValue85,newVar,newRow,go_sem]
 at_:=λw ev o p i g k hk ho hp hi=>by
  unfold execOp;simp only[ho,hp,hi];refine za7 ?_;simp[asIntOf,hk,go_sem];intro h;exact absurd h o_
 agg:=λw=>by simp[go_sem]
 eq:=zgL
def smV(y0 y1 y2 y3 y4 y5 y6 y7 y8 x1 x2 x0:Int):List V:=[⟨.vptr i64,y0⟩,⟨.vptr i64,y1⟩,⟨.vptr i64,y2⟩,⟨.vptr i64,y3⟩,⟨.vptr i64,y4⟩,⟨.vptr i64,y5⟩,⟨.vptr i64,y6⟩,⟨.vptr i64,y7⟩,⟨.vptr i64,y8⟩,⟨.lit,.pointer none⟩,⟨.lit,.pointer none⟩,⟨.vptr i64,x1⟩,⟨.vptr i64,x2⟩,⟨.vptr i64,x0⟩,⟨.lit,.pointer none⟩,⟨.lit,.pointer none⟩,⟨.lit,.pointer none⟩]
theorem zsJ(y0 y1 y2 y3 y4 y5 y6 y7 y8 x1 x2 x0:Int){k:Nat}(hk:k<17):(∃y:Int,(smV y0 y1 y2 y3 y4 y5 y6 y7 y8 x1 x2 x0)[k]? =some ⟨.vptr i64,y⟩)\/(smV y0 y1 y2 y3 y4 y5 y6 y7 y8 x1 x2 x0)[k]? =some ⟨.lit,.pointer none⟩:=by
 rcases (show k=0\/k=1\/k=2\/k=3\/k=4\/k=5\/k=6\/k=7\/k=8\/k=9\/k=10\/k=11\/k=12\/k=13\/k=14\/k=15\/k=16 by omega) with rfl|rfl|rfl|rfl|rfl|rfl|rfl|rfl|rfl|rfl|rfl|rfl|rfl|rfl|rfl|rfl|rfl<;>first|exact .inl ⟨_,rfl⟩|exact .inr rfl
def cSm:Ctr:={ args:=[lt,lt],pre:=λx=>[x.1=x.2.1],res:=.bool,own:=none,out:=λ_=>true }
abbrev smF(l:lt.T)(F:yF):yF:=(2,⟨.vptr lt,l⟩)::(3,⟨.vptr lt,l⟩)::(5,⟨.hptr,((2:Nat),(0:Nat))⟩)::(6,⟨.hptr,((3:Nat),(0:Nat))⟩)::F
abbrev smE(vs:List V):Owns:=[(2,some (.hbox 85 vs)),(3,some (.hbox 85 vs))]
set_option maxHeartbeats 8000000 in
theorem zny:yQ zf dG 12 cSm:=by
 refine ctr2 zaY Tryz.func12 Tryz.call12 ?_;rintro w0 O hX ⟨(l:lt.T),(l':lt.T),⟨⟩⟩ hp;obtain rfl:l=l':=hp;change AWP _ _ _ _ _ ⟨[(0,⟨lt,l⟩),(1,⟨lt,l⟩)],[],0⟩ _;refine zaa (zaa (zab zaY ?_));refine xN hX 2 ?_;refine xN hX 3 ?_;refine zak (Y':=⟨[(2,⟨.vptr lt,l⟩),(3,⟨.vptr lt,l⟩)],[],2⟩) ⟨⟨rfl,rfl,t_⟩,t_,rfl,rfl⟩ ?_;refine zaa (zaa (zaj ?_))
 iterate 2 (refine zjb rfl rfl Tryz.call26 rfl rfl (v:=⟨nvT,nvX l⟩) rfl (zea rfl) ?_)
 iterate 2 (refine ztQ pArr hX rfl rfl rfl rfl ?_)
 iterate 2 (refine ztO pArr rfl rfl rfl rfl rfl rfl (Z:=nvT) (y:=nvX l) rfl rfl (λ_ _ _ _⟨_,_,e,_⟩=>⟨_,e⟩) rfl rfl ?_)
 refine qu ?_;obtain⟨y0,h0⟩:∃y:Int,y=l.2.2.2.1:=⟨_,rfl⟩;obtain⟨y1,h1⟩:∃y:Int,y=l.2.2.2.2.1:=⟨_,rfl⟩;obtain⟨y2,h2⟩:∃y:Int,y=l.2.2.2.2.2.1:=⟨_,rfl⟩;obtain⟨y3,h3⟩:∃y:Int,y=l.2.2.2.2.2.2.1:=⟨_,rfl⟩;obtain⟨y4,h4⟩:∃y:Int,y=l.2.2.2.2.2.2.2.1:=⟨_,rfl⟩;obtain⟨y5,h5⟩:∃y:Int,y=l.2.2.2.2.2.2.2.2.1:=⟨_,rfl⟩;obtain⟨y6,h6⟩:∃y:Int,y=l.2.2.2.2.2.2.2.2.2.1:=⟨_,rfl⟩;obtain⟨y7,h7⟩:∃y:Int,y=l.2.2.2.2.2.2.2.2.2.2.1:=⟨_,rfl⟩;obtain⟨y8,h8⟩:∃y:Int,y=l.2.2.2.2.2.2.2.2.2.2.2.1:=⟨_,rfl⟩;obtain⟨x4,x6⟩:∃y:Int,y=l.2.2.2.2.2.2.2.2.2.2.2.2.2.2.1:=⟨_,rfl⟩;obtain⟨x2,x7⟩:∃y:Int,y=l.2.2.2.2.2.2.2.2.2.2.2.2.2.2.2.1:=⟨_,rfl⟩;obtain⟨x0,x5⟩:∃y:Int,y=l.2.2.2.2.2.2.2.2.2.2.2.2.2.2.2.2.1:=⟨_,rfl⟩;have x1:=λk(hk:k<17)=>zsJ y0 y1 y2 y3 y4 y5 y6 y7 y8 x4 x2 x0 hk;refine zak (Y':=⟨smF l [],smE (smV y0 y1 y2 y3 y4 y5 y6 y7 y8 x4 x2 x0),4⟩) ⟨⟨rfl,rfl,rfl,rfl,t_⟩,⟨?_,?_,t_⟩,rfl,rfl⟩ ?_
 .rw[h0,h1,h2,h3,h4,h5,h6,h7,h8,x6,x7,x5];rfl
 .rw[h0,h1,h2,h3,h4,h5,h6,h7,h8,x6,x7,x5];rfl
 clear h0 h1 h2 h3 h4 h5 h6 h7 h8 x6 x7 x5;refine zaa (zaa (zab zaY ?_));refine zaa ?_;refine yK (ι:=Nat) (λk=>⟨smF l [(12,⟨i64,(k:Int)⟩)],smE (smV y0 y1 y2 y3 y4 y5 y6 y7 y8 x4 x2 x0),4⟩) (λk=>k<=17) (λk=>17-k) 0 (zk _) ⟨⟨rfl,rfl,rfl,rfl,rfl,t_⟩,⟨rfl,rfl,t_⟩,rfl,rfl⟩ ?_;intro k hk;refine zaa (zaa (zab zaY ?_));refine zaa ?_;refine zae rfl (λhb=>?_) (λhb=>?_)
 .have hb:decide ((k:Int)<17)=true:=hb;have hb:=of_decide_eq_true hb;have x3:k<17:=o_;have q1:inR .i64 ((k:Int)+1):=zah o_ o_;apply zaf;refine zaa (zaa (zab zaY ?_));refine zak (Y':=⟨smF l [(7,⟨i64,(k:Int)⟩),(12,⟨i64,(k:Int)⟩)],smE (smV y0 y1 y2 y3 y4 y5 y6 y7 y8 x4 x2 x0),4⟩) ⟨⟨rfl,rfl,rfl,rfl,rfl,rfl,t_⟩,⟨rfl,rfl,t_⟩,rfl,rfl⟩ ?_;apply zap;refine za1 (Y':=⟨smF l [(12,⟨i64,(k:Int)⟩),(31,⟨.bool,false⟩)],smE (smV y0 y1 y2 y3 y4 y5 y6 y7 y8 x4 x2 x0),4⟩) ?_ ?_
  .rcases x1 k x3 with ⟨y,hy⟩|hy
   .refine zgt 15 (smF l [(7,⟨i64,(k:Int)⟩),(12,⟨i64,(k:Int)⟩)]) [(0,15,⟨i64,(k:Int)⟩),(1,16,⟨.hptr,((2:Nat),k)⟩),(2,17,⟨.vptr i64,y⟩),(3,18,⟨.bool,true⟩),(4,19,⟨.bool,true⟩),(5,20,⟨i64,(k:Int)⟩),(6,21,⟨.hptr,((2:Nat),k)⟩),(7,22,⟨.vptr i64,y⟩),(8,23,⟨.vptr i64,y⟩),(9,24,⟨i64,y⟩),(10,25,⟨i64,(k:Int)⟩),(11,26,⟨.hptr,((3:Nat),k)⟩),(12,27,⟨.vptr i64,y⟩),(13,28,⟨.vptr i64,y⟩),(14,29,⟨i64,y⟩)] dM hX 17 rfl rfl (by kernel_rfl) (by kernel_rfl) rfl ⟨rfl,rfl,rfl,rfl,rfl,rfl,t_⟩ ?_ rfl ?_ ?_ rfl ?_
    .refine(zZ (zZ (zZ (zZ (zZ (zZ (zZ (zZ (zZ (zZ (zZ (zZ (zZ (zZ (zZ kf ?_) ?_) ?_) ?_) ?_) ?_) ?_) ?_) ?_) ?_) ?_) ?_) ?_) ?_) ?_)
     .exact yI hX zaY k_
     .exact yW _ rfl _ (λ_=>rfl) λF N hN=>zeA pArr rfl rfl rfl rfl rfl k x3 rfl rfl hN
     .exact yW _ rfl _ (λ_=>rfl) λF N hN=>zfA pArr rfl rfl rfl rfl rfl rfl hy rfl hN
     .exact yW _ rfl _ (λ_=>rfl) λF N hN=>zkd pArr rfl rfl rfl rfl rfl (q:=false) rfl hN
     .exact yI hX zaY k_
     .exact yW _ rfl _ (λ_=>rfl) λF N hN=>qT 4 19 true rfl rfl rfl rfl (yD hX zaY rfl t_ hN)
     .exact yW _ rfl _ (λ_=>rfl) λF N hN=>qT 4 19 true rfl rfl rfl rfl (zeA pArr rfl rfl rfl rfl rfl k x3 rfl rfl hN)
     .exact yW _ rfl _ (λ_=>rfl) λF N hN=>qT 4 19 true rfl rfl rfl rfl (zfA pArr rfl rfl rfl rfl rfl rfl hy rfl hN)
     .exact yW _ rfl _ (λ_=>rfl) λF N hN=>qT 4 19 true rfl rfl rfl rfl (yD hX zaY rfl t_ hN)
     .exact yW _ rfl _ (λ_=>rfl) λF N hN=>qT 4 19 true rfl rfl rfl rfl (yD hX zaY rfl t_ hN)
     .exact yW _ rfl _ (λ_=>rfl) λF N hN=>qT 4 19 true rfl rfl rfl rfl (yD hX zaY rfl t_ hN)
     .exact yW _ rfl _ (λ_=>rfl) λF N hN=>qT 4 19 true rfl rfl rfl rfl (zeA pArr rfl rfl rfl rfl rfl k x3 rfl rfl hN)
     .exact yW _ rfl _ (λ_=>rfl) λF N hN=>qT 4 19 true rfl rfl rfl rfl (zfA pArr rfl rfl rfl rfl rfl rfl hy rfl hN)
     .exact yW _ rfl _ (λ_=>rfl) λF N hN=>qT 4 19 true rfl rfl rfl rfl (yD hX zaY rfl t_ hN)
     .exact yW _ rfl _ (λ_=>rfl) λF N hN=>qT 4 19 true rfl rfl rfl rfl (yD hX zaY rfl t_ hN)
    .exact⟨rfl,rfl,t_⟩
    .rfl
    .refine qT 4 19 true rfl rfl rfl rfl (yD hX zaY rfl t_ ?_);refine yD hX zaY rfl t_ ?_;refine QC.of ?_;exact⟨⟨rfl,rfl,rfl,rfl,rfl,zcp (by simp),t_⟩,⟨rfl,rfl,t_⟩,rfl,rfl⟩
   .refine zgt 15 (smF l [(7,⟨i64,(k:Int)⟩),(12,⟨i64,(k:Int)⟩)]) [(0,15,⟨i64,(k:Int)⟩),(1,16,⟨.hptr,((2:Nat),k)⟩),(2,17,⟨.lit,.pointer none⟩),(3,18,⟨.bool,false⟩),(4,19,⟨.bool,false⟩),(5,20,⟨.cond .bool,(false,true)⟩),(6,21,⟨.cond .bool,(false,true)⟩),(7,22,⟨.cond .bool,(false,true)⟩),(8,23,⟨.cond .bool,(false,true)⟩),(9,24,⟨.cond .bool,(false,true)⟩),(10,25,⟨.cond .bool,(false,true)⟩),(11,26,⟨.cond .bool,(false,true)⟩),(12,27,⟨.cond .bool,(false,true)⟩),(13,28,⟨.cond .bool,(false,true)⟩),(14,29,⟨.cond .bool,(false,true)⟩)] dM hX 17 rfl rfl (by kernel_rfl) (by kernel_rfl) rfl ⟨rfl,rfl,rfl,rfl,rfl,rfl,t_⟩ ?_ rfl ?_ ?_ rfl ?_
    .refine(zZ (zZ (zZ (zZ (zZ (zZ (zZ (zZ (zZ (zZ (zZ (zZ (zZ (zZ (zZ kf ?_) ?_) ?_) ?_) ?_) ?_) ?_) ?_) ?_) ?_) ?_) ?_) ?_) ?_) ?_)
     .exact yI hX zaY k_
     .exact yW _ rfl _ (λ_=>rfl) λF N hN=>zeA pArr rfl rfl rfl rfl rfl k x3 rfl rfl hN
     .exact yW _ rfl _ (λ_=>rfl) λF N hN=>zfA pArr rfl rfl rfl rfl rfl rfl hy rfl hN
     .exact yW _ rfl _ (λ_=>rfl) λF N hN=>zkd pArr rfl rfl rfl rfl rfl (q:=true) rfl hN
     .exact yI hX zaY k_
     .exact yW _ rfl _ (λ_=>rfl) λF N hN=>vp 4 19 true .bool true rfl rfl rfl rfl rfl rfl hN
     .exact yW _ rfl _ (λ_=>rfl) λF N hN=>vp 4 19 true .bool true rfl rfl rfl rfl rfl rfl hN
     .exact yW _ rfl _ (λ_=>rfl) λF N hN=>vp 4 19 true .bool true rfl rfl rfl rfl rfl rfl hN
     .exact yW _ rfl _ (λ_=>rfl) λF N hN=>vp 4 19 true .bool true rfl rfl rfl rfl rfl rfl hN
     .exact yW _ rfl _ (λ_=>rfl) λF N hN=>vp 4 19 true .bool true rfl rfl rfl rfl rfl rfl hN
     .exact yW _ rfl _ (λ_=>rfl) λF N hN=>vp 4 19 true .bool true rfl rfl rfl rfl rfl rfl hN
     .exact yW _ rfl _ (λ_=>rfl) λF N hN=>vp 4 19 true .bool true rfl rfl rfl rfl rfl rfl hN
     .exact yW _ rfl _ (λ_=>rfl) λF N hN=>vp 4 19 true .bool true rfl rfl rfl rfl rfl rfl hN
     .exact yW _ rfl _ (λ_=>rfl) λF N hN=>vp 4 19 true .bool true rfl rfl rfl rfl rfl rfl hN
     .exact yW _ rfl _ (λ_=>rfl) λF N hN=>vp 4 19 true .bool true rfl rfl rfl rfl rfl rfl hN
    .exact⟨rfl,rfl,t_⟩
    .rfl
    .refine vp 4 19 true .bool true rfl rfl rfl rfl rfl rfl ?_;refine yD hX zaY rfl (λh=>(by cases h)) ?_;refine QC.of ?_;exact⟨⟨rfl,rfl,rfl,rfl,rfl,rfl,t_⟩,⟨rfl,rfl,t_⟩,rfl,rfl⟩
  refine zaL rfl ?_;apply zaf;refine zaa (zab zaY ?_ (hp:=by exact q1));exact⟨k+1,by omega,by omega,⟨rfl,rfl,rfl,rfl,rfl,t_⟩,⟨rfl,rfl,t_⟩,rfl,rfl⟩
 apply zan;refine zak (Y':=⟨[(2,⟨.vptr lt,l⟩),(3,⟨.vptr lt,l⟩)],[],0⟩) ⟨⟨rfl,rfl,t_⟩,t_,rfl,rfl⟩ ?_;obtain⟨s,hs⟩:∃s,s=ltS l:=⟨_,rfl⟩;refine zaa ?_;refine(λhq=>zkg (Y1:=⟨[(2,⟨.vptr lt,l⟩),(3,⟨.vptr lt,l⟩),(8,⟨.optr se,⟨0,se,.here⟩⟩),(9,⟨.optr se,⟨1,se,.here⟩⟩)],[(0,some (.box se (ltS l))),(1,some (.box se (ltS l)))],2⟩) (Y2:=⟨[(2,⟨.vptr lt,l⟩),(3,⟨.vptr lt,l⟩),(8,⟨.optr se,⟨1,se,.here⟩⟩),(9,⟨.optr se,⟨0,se,.here⟩⟩)],[(0,some (.box se (ltS l))),(1,some (.box se (ltS l)))],2⟩) dM 8 rfl (by kernel_rfl) ?ho (xN hX 8 (xN hX 9 (zak (Y':=⟨[(2,⟨.vptr lt,l⟩),(3,⟨.vptr lt,l⟩),(8,⟨.vptr se,ltS l⟩),(9,⟨.vptr se,ltS l⟩)],[],0⟩) ⟨⟨rfl,rfl,rfl,rfl,t_⟩,t_,rfl,rfl⟩ hq))) (xN hX 8 (xN hX 9 (zak (Y':=⟨[(2,⟨.vptr lt,l⟩),(3,⟨.vptr lt,l⟩),(8,⟨.vptr se,ltS l⟩),(9,⟨.vptr se,ltS l⟩)],[],0⟩) ⟨⟨rfl,rfl,rfl,rfl,t_⟩,t_,rfl,rfl⟩ hq)))) ?_
 case ho=>
  repeat'(first|exact uf|refine kv ⟨_,rfl,?_⟩ ?_|refine yD hX zaY rfl t_ ?_|(refine vY ?_;first|exact⟨rfl,.inl ⟨⟨rfl,rfl,rfl,rfl,t_⟩,⟨rfl,rfl,t_⟩,rfl,rfl⟩⟩|exact⟨rfl,.inr ⟨⟨rfl,rfl,rfl,rfl,t_⟩,⟨rfl,rfl,t_⟩,rfl,rfl⟩⟩))
 have nI:∀x:Int,¬((!(x==x))=true):=λx=>by simp
 have nE:∀(t:Ty)(x:t.T),¬((!(eqb t x x))=true):=λt x=>by rw[zdR];decide
 iterate 6 (refine zaa (zaa (zab zaY ?_));refine zae rfl (λhb=>absurd hb (by first|exact nI _|exact nE _ _)) (λ_=>?_))
 iterate 5 (refine zaa (zaa (zab zaY ?_));refine zae rfl (λhb=>absurd hb (by first|exact nI _|exact nE _ _)) (λ_=>?_))
 refine zaa (zaa (zaj ?_));refine zat 4 zaY ?_;refine kU 1 hX zaY rfl (by exact rfl) ?_;refine zat 1 zaY ?_
 iterate 4 (refine ji 5 99 true rfl rfl rfl rfl ?_;refine zat 1 zaY ?_)
 refine ji 5 99 true rfl rfl rfl rfl ?_;refine kU 1 hX zaY rfl (by exact rfl) ?_;refine zat 2 zaY ?_
 iterate 4 (refine ji 12 106 true rfl rfl rfl rfl ?_;refine zat 1 zaY ?_)
 refine ji 12 106 true rfl rfl rfl rfl ?_;refine kn (m:=32) 0 hX rfl rfl Tryz.call42 rfl rfl rfl (N:=NTr) (E1:=[])
  (λwz Xz c1 c2 c3 c4 c5 _ c7 _=>zv1 c1 c2 c3 c4 c5 (ltS l).1) (λv E nx h=>?_) (λv E nx h=>?_)
 .obtain⟨rfl,rfl,rfl⟩:=h;rfl
 obtain⟨rfl,rfl,rfl⟩:=h;refine zau zaY ?_;exact zC ⟨.inr rfl,D1 rfl⟩
abbrev vwM:mark.T:=((30,60,()),2,())
abbrev vwW:sp.T:=(0,90,())
def cVwW:Ctr:={ args:=[sp],pre:=λ_=>[],res:=.bool,own:=none,out:=λx=>bif (bif decide (-2251799813685248<=x.1.1) then decide (x.1.1<=x.1.2.1) else false) then decide (x.1.2.1<=2251799813685248) else false }
theorem zrk:yQ zf dG 71 cVwW:=by
 refine ctr2 zam Tryz.func71 Tryz.call71 ?_;rintro w0 X hX ⟨⟨a,b,⟨⟩⟩,⟨⟩⟩ hp
 iterate 2 (refine zaa (zaa (zab zam ?_)))
 exact zC ⟨.inr rfl,D1 rfl⟩
def kVw1:Kn:={ dK with C:=[(71,cVwW)] }
theorem zoA:KnOk zf dG kVw1:=zam.with (.cons zrk .nil)
def cVwB:Ctr:={ args:=[mark],pre:=λx=>[x.1=vwM],res:=.bool,own:=none,out:=λ_=>false }
theorem zt1:yQ zf dG 70 cVwB:=by
 refine ctr2 zoA Tryz.func70 Tryz.call70 ?_;rintro w0 X hX ⟨m,⟨⟩⟩ hp;obtain rfl:=hp
 iterate 2 (refine zaa (zaa (zab zoA ?_)))
 exact zC ⟨.inr rfl,D1 rfl⟩
def vwL:zi:=.func (.func 70) #[] #[]
def cVwI(r:Ty)(o:r.T):Ctr:={ args:=[.slice mark,.lit],pre:=λx=>[x.1=[vwM],x.2.1=vwL],res:=r,own:=none,out:=λ_=>o }
def kVw2:Kn:={ dK with C:=[(70,cVwB)] }
theorem zeK:KnOk zf dG kVw2:=zam.with (.cons zt1 .nil)
theorem ztZ:yQ zf dG 95 (cVwI i64 (-1:Int)):=by
 refine ctr2 zeK Tryz.func95 Tryz.call95 ?_;rintro w0 X hX ⟨l,f,⟨⟩⟩ ⟨h1,h2⟩;obtain rfl:=h1;obtain rfl:=h2
 iterate 2 (refine zaa (zaa (zab zeK ?_)))
 apply zaq;refine yK (ι:=Nat) (λk=>⟨[(0,⟨.slice mark,[vwM]⟩),(1,⟨.lit,vwL⟩),(7,⟨i64,(1:Int)⟩),(8,⟨i64,(k:Int)⟩)],[],0⟩) (· <=1) (λk=>1-k) 0 (zk _) (Fit.r rfl) ?_;intro k hk
 match k,hk with
 |0,_=>
  refine zaa (zaa (zab zeK ?_));refine zaa (zbu rfl ?_)
  iterate 2 (refine zaa (zaa (zab zeK ?_)))
  refine zaL rfl ?_;refine zaa (zaa (zab zeK ?_));exact⟨1,zu _,qw _,Fit.r rfl⟩
 |1,_=>
  refine zaa (zaa (zab zeK ?_));refine zaa (zaL rfl ?_);refine zaa (zaa (zab zeK ?_));exact zC ⟨.inr rfl,D1 rfl⟩
def kVw3:Kn:={ dK with C:=[(95,cVwI i64 (-1:Int))] }
theorem zkP:KnOk zf dG kVw3:=zam.with (.cons ztZ .nil)
theorem zt2:yQ zf dG 69 (cVwI .bool false):=by
 refine ctr2 zkP Tryz.func69 Tryz.call69 ?_;rintro w0 X hX ⟨l,f,⟨⟩⟩ ⟨h1,h2⟩;obtain rfl:=h1;obtain rfl:=h2;refine zaa (zaa (zab zkP ?_));refine zaa (zaa (zab zkP ?_ (hp:=by exact⟨rfl,rfl⟩)));exact zC ⟨.inr rfl,D1 rfl⟩
def kVw4:Kn:={ dK with C:=[(69,cVwI .bool false)] }
theorem zkO:KnOk zf dG kVw4:=zam.with (.cons zt2 .nil)
def cVwV:Ctr:={ args:=[.slice mark],pre:=λx=>[x.1=[vwM]],res:=.bool,own:=none,out:=λ_=>true }
theorem ztX:yQ zf dG 44 cVwV:=by
 refine ctr2 zkO Tryz.func44 Tryz.call44 ?_;rintro w0 X hX ⟨l,⟨⟩⟩ h;obtain rfl:=h;refine zaa (zaa (zab zkO ?_));refine zaa (zaa (zab zkO ?_ (hp:=by exact⟨rfl,rfl⟩)));exact zC ⟨.inr rfl,D1 rfl⟩
def cVwS:Ctr:={ args:=[i64],pre:=λx=>[x.1=(3:Int)],res:=i64,own:=none,out:=λ_=>(30:Int) }
theorem zrl:yQ zf dG 47 cVwS:=by
 refine ctr2 zam Tryz.func47 Tryz.call47 ?_;rintro w0 X hX ⟨g,⟨⟩⟩ h;obtain rfl:=h;refine zaa (zaa (zab zam ?_));refine zaa (zaa (zab zam ?_ (hp:=by exact⟨(by decide:(0:Int)<=3),(by decide:(3:Int)<5)⟩)));exact zC ⟨.inr rfl,D1 rfl⟩
def kVw5:Kn:={ dK with C:=[(71,cVwW),(47,cVwS)] }
theorem zeJ:KnOk zf dG kVw5:=zam.with (.cons zrk<|.cons zrl .nil)
def cVwC:Ctr:={ args:=[i64,sp],pre:=λx=>[x.1=(3:Int),x.2.1=vwW],res:=.tup i64 (.tup i64 .unit),own:=none,out:=λ_=>((3:Int),(0:Int),()) }
theorem zt0:yQ zf dG 45 cVwC:=by
 refine ctr2 zeJ Tryz.func45 Tryz.call45 ?_;rintro w0 X hX ⟨g,w,⟨⟩⟩ ⟨h1,h2⟩;obtain rfl:=h1;obtain rfl:=h2
 iterate 2 (refine zaa (zaa (zab zeJ ?_)))
 refine zaa (zaL rfl ?_);refine zaa (zaa (zab zeJ ?_));refine zaa (zaL rfl ?_);have z0:=(by decide:(30:Int)≠0);refine zaa (zaa (zcE 14 dM zeJ rfl ?_));refine zaa (zaL rfl ?_);refine zaa (zaa (zcE 8 dM zeJ rfl ?_));refine zaa (zaa (zab zeJ ?_));refine zaa (zaL rfl ?_);refine zaa (zaa (zab zeJ ?_));exact zC ⟨.inr rfl,D2 rfl⟩
abbrev vwT:Ty:=.tup (.vptr sp) (.tup (.vptr sp) (.tup (.vptr i64) .unit))
def cVwT:Ctr:={ args:=[sp,sp,i64],pre:=λ_=>[],res:=.clo 72 vwT,own:=none,out:=λx=>(x.1,x.2.1,x.2.2.1,()) }
theorem ztY:yQ zf dG 46 cVwT:=by
 refine ctr2 zam Tryz.func46 Tryz.call46 ?_;rintro w0 X hX ⟨s,w,c,⟨⟩⟩ hp;refine zaa (zaa (zab zam ?_));refine xN hX 3 ?_;refine xN hX 4 ?_;refine xN hX 5 ?_;refine zaa (zaa (zab zam ?_));exact zC ⟨.inr rfl,D1 rfl⟩
section
variable {P:zA}{G:zj->Prop}{n:Nat}{W0:zj}{C:Nat->Prop}{B:Nat}{J:Option Nat->zj->Prop}{F:yF}{κ:Option Nat}{Q:Exit->yF->Option Nat->Prop}
theorem IWP.asC{c:Code}{i g o:Nat}{t:Ty}{x:t.T}{cs:List zi}{O:Nat->Prop}(hi:zr F i=⟨.lit,.pointer (some ⟨g,o,none⟩)⟩)(hC:C g)(ht:t.flat=true)(hg:g<W0.heap.size)(hB:W0.heap.size<=B)(hr:RepC W0 O t x cs)(hc:CellsAt W0 g o cs)
  (h:IWP P G n W0 C B J c ((i,⟨.cptr g o t,x⟩)::F) κ Q) (hb:bndB 0 ((i,(⟨.cptr g o t,x⟩:V))::F)=true:=by rfl):IWP P G n W0 C B J c F κ Q:=by
 intro a w hs hj;obtain⟨U,hm⟩:=hs.sim;refine h a w ⟨hs.big,hs.same,U,Sim.fresh rfl hm.sz hm.df (λs=>?_) hb⟩ hj;have h3:=hm.fr s;rw[zal];by_cases e:i=s
 .subst e;rw[show(AS.mk F [] 0).F=F from rfl,hi]at h3;rw[if_pos rfl];exact⟨cs,h3,by have:=hs.big;omega,λh=>h,zbB t ht x cs hr,hc.keep (hs.same g hC)⟩
 .rw[OSet.nil]at h3;rw[if_neg e];exact h3
end
theorem zsb:Iter zf 72 vwT (((30,60,()),vwW,(30:Int),()):vwT.T) 1 (λ_=>[⟨i64,(1:Int)⟩]):=by
 rintro W0 us O' ⟨u1,r1,rfl,⟨g1,o1,xk,rfl,x5,xj,xd,xi⟩,u2,r2,rfl,⟨g2,o2,xm,rfl,x7,xc,x9,xa⟩,u3,r3,rfl,⟨g3,o3,xl,rfl,x8,xh,xb,xe⟩,rfl⟩;obtain⟨C,x6⟩:∃C:Nat->Prop,C=λq=>q<W0.heap.size/\¬O' q:=⟨_,rfl⟩;have x4:∀g,C g->g<W0.heap.size/\¬O' g:=λg h=>by rw[x6]at h;exact h
 have x0:∀g,C g->g<W0.heap.size:=λg h=>(x4 g h).1;have x3:∀g,g<W0.heap.size->¬O' g->C g:=λg h1 h2=>by rw[x6];exact⟨h1,h2⟩
 have k1:=x3 g1 x5 xj;have k2:=x3 g2 x7 xc;have k3:=x3 g3 x8 xh;refine⟨C,x4,zlG (G:=gmG) (n:=43) x0 Tryz.func72 rfl rfl rfl (zb rfl) ?_⟩;intro l J B hB hJ hY;have hG:∀w,gmG w:=λ_=>trivial;refine IWP.asC (i:=1) rfl k1 rfl x5 hB xd xi ?_;refine IWP.asC (i:=2) rfl k2 rfl x7 hB x9 xa ?_;refine IWP.asC (i:=3) rfl k3 rfl x8 hB xb xe ?_
 let F (z:Int):List (Nat×V):=[(0,⟨.lit,.func (.yield l) #[] #[]⟩),(1,⟨.cptr g1 o1 sp,(30,60,())⟩),(2,⟨.cptr g2 o2 sp,vwW⟩),(3,⟨.cptr g3 o3 i64,(30:Int)⟩),(5,⟨i64,(30:Int)⟩),(6,⟨i64,(60:Int)⟩),(7,⟨i64,z⟩)]
 refine wl (wA (gj (Q:=λe F' κ=>e=.normal/\F'=(F 0).take 6/\κ=some 0) hB x0 hG hJ λW hX x1 hw=>?_) ?_)
 .refine zcE 12 dM zar rfl ?_;exact⟨rfl,(F 0).take 6,⟨rfl,rfl,rfl,rfl,rfl,rfl,t_⟩,rfl,rfl,rfl,rfl⟩
 rintro e F' κ ⟨rfl,rfl,rfl⟩;refine wl (wA (gj (Q:=λe F' κ=>e=.normal/\F'=F 1/\κ=some 0) hB x0 hG hJ λW hX x1 hw=>?_) ?_)
 .refine zab zar ?_;exact⟨rfl,F 1,⟨rfl,rfl,rfl,rfl,rfl,rfl,rfl,t_⟩,rfl,rfl,rfl,rfl⟩
 rintro e F' κ ⟨rfl,rfl,rfl⟩;refine IWP.block ?_;refine IWP.loop (ι:=Nat) (λk=>F (1+k)) some (· <=1) (λk=>1-k) 0 (zk _) ⟨rfl,rfl,rfl,rfl,rfl,rfl,rfl,t_⟩ rfl (λk=>rfl) (λk hk=>?_)
 match k,hk with
 |1,_=>
  refine wl (wA (gj (Q:=λe F' κ=>e=.exit 0/\κ=some 1) hB x0 hG hJ λW hX x1 hw=>?_) ?_)
  .refine zaa (zaa (zab zar ?_));exact zaL rfl (zan ⟨rfl,F 2,⟨rfl,rfl,rfl,rfl,rfl,rfl,rfl,t_⟩,rfl,rfl,rfl⟩)
  rintro e F' κ ⟨rfl,rfl⟩;exact⟨.inl rfl,.inl rfl⟩
 |0,_=>
  refine wl (wA (gj (Q:=λe F' κ=>e=.normal/\F'=F 1/\κ=some 0) hB x0 hG hJ λW hX x1 hw=>?_) ?_)
  .refine zaa (zaa (zab zar ?_));exact zbu rfl (zaf ⟨rfl,F 1,⟨rfl,rfl,rfl,rfl,rfl,rfl,rfl,t_⟩,rfl,rfl,rfl,rfl⟩)
  rintro e F' κ ⟨rfl,rfl,rfl⟩;refine wl (IWP.block (wl (IWP.list ?_)));refine IL.of 2 ((40,⟨i64,(1:Int)⟩)::(39,⟨.lit,.func (.yield l) #[] #[]⟩)::F 1) hB x0 hG hJ rfl (λW hX x1 hw=>AL.all hX zar rfl t_ ⟨rfl,rfl,⟨rfl,rfl,rfl,rfl,rfl,rfl,rfl,rfl,rfl,t_⟩⟩) ?_;refine IL.yield (y:=#[.int .i64 1]) rfl rfl rfl rfl rfl (λU a w x2=>?_) (λw hj hw=>?_) ⟨rfl,t_,t_,⟨k1,rfl⟩,⟨k2,rfl⟩,⟨k3,rfl⟩,rfl,rfl,rfl,t_⟩ rfl
  .have e1:a.eval (.tmp 40)=.int .i64 1:=jn (x2.ops (.tmp 40));simp[e1]
  refine YieldAt.mono (hY 0 _ w hj d_ ⟨[.int .i64 1],rfl,rfl,λw' O'' U' h1 h2=>⟨rfl,λj v hv=>?_⟩⟩ hw) ?_
  .match j,hv with
   |0,hv=>
    obtain rfl:=yP hv;exact⟨_,rfl,qF (k:=.i64)⟩
  rintro e W' ⟨b,rfl,xf,xg⟩;refine⟨b,_,rfl,xf,xg,?_⟩;refine IL.of 1 ((42,⟨.bool,!b⟩)::F 1) hB x0 hG hJ rfl (λW hX x1 hw=>AL.all hX zar rfl t_ ⟨rfl,rfl,⟨rfl,rfl,rfl,rfl,rfl,rfl,rfl,rfl,t_⟩⟩) (IL.nil ?_);refine wA (gj (Q:=λe F' κ=>(e=.ret/\κ=none)\/(e=.normal/\F'=F 1/\κ=some 1)) hB x0 hG hJ λW hX x1 hw=>?_) ?_
  .cases b
   .exact zbu rfl (zC ⟨rfl,F 1,⟨rfl,rfl,rfl,rfl,rfl,rfl,rfl,t_⟩,rfl,.inl ⟨rfl,rfl⟩⟩)
   .exact zaL rfl (zaf ⟨rfl,F 1,⟨rfl,rfl,rfl,rfl,rfl,rfl,rfl,t_⟩,rfl,.inr ⟨rfl,rfl,rfl⟩⟩)
  rintro e F' κ (⟨rfl,rfl⟩|⟨rfl,rfl,rfl⟩)
  .exact⟨.inr rfl,.inr rfl⟩
  refine gj hB x0 hG hJ λW hX x1 hw=>?_;refine zab zar ?_;exact⟨rfl,F 2,⟨rfl,rfl,rfl,rfl,rfl,rfl,rfl,t_⟩,rfl,1,zu _,qw _,⟨rfl,rfl,rfl,rfl,rfl,rfl,rfl,t_⟩,rfl⟩
def kVw6:Kn:={ dK with H:=[38],C:=[(44,cVwV),(45,cVwC),(47,cVwS),(46,cVwT)] }
theorem zbH:KnOk zf dG kVw6:=⟨zd2,zdu,.cons ztX<|.cons zt0<|.cons zrl<|.cons ztY .nil,zfr,RsOk.nil⟩
def zu7:Ctr:={ args:=[.slice mark,i64,sp],pre:=λx=>[x.1=[vwM],x.2.1=(3:Int),x.2.2.1=vwW],res:=.tup (.slice i64) (.tup i64 .unit),own:=none,out:=λ_=>([0,2,0],(0:Int),()) }
theorem zsc:yQ zf dG 13 zu7:=by
 refine zk6 (K:=kVw6) zbH Tryz.func13 rfl rfl Tryz.call13 rfl d_ (by intro h;cases h) rfl ?_;rintro w0 O hX ⟨l,g,w,⟨⟩⟩ ⟨h1,h2,h3⟩;obtain rfl:=h1;obtain rfl:=h2;obtain rfl:=h3;refine vT (kF hX λW1 x1 Bf1 x0=>zab zbH ?_);refine vT (kF hX λW1 x1 Bf1 x0=>xN x0 5 (zaa (zaa (zab zbH (zaL rfl (zaf ?_))))));refine vT (kF hX λW1 x1 Bf1 x0=>zab zbH ?_);refine vT (kF hX λW1 x1 Bf1 x0=>zaa (zaa (zab zbH (zaL rfl (zaf ?_)))));refine vT (kF hX λW1 x1 Bf1 x0=>zab zbH ?_);refine AWPD.rename [(2,0),(1,1)] 102 ?_
 let E (o:List Int):Owns:=[(0,some (.hbox 38 [⟨.obuf i64,(1:Nat)⟩])),(1,some (.buf 3 i64 o))]
 let F (k:Nat):yF:=[(1,⟨i64,(3:Int)⟩),(5,⟨.vptr sp,vwW⟩),(10,⟨.hptr,((0:Nat),(0:Nat))⟩),(29,⟨.slice mark,[vwM]⟩),(30,⟨i64,(1:Int)⟩),(31,⟨i64,(k:Int)⟩)]
 refine AWPD.fit (Y2:=⟨(0,⟨.slice mark,[vwM]⟩)::(F 0).take 3,E [0,0,0],2⟩) ⟨⟨rfl,rfl,rfl,rfl,t_⟩,⟨rfl,rfl,t_⟩,rfl,rfl⟩ ?_;refine vT (vT (kF hX λW1 x1 Bf1 x0=>zab zbH ?_));refine fX ?_;refine AWPD.loop (ι:=Nat) (λk=>⟨F k,E [0,bif Nat.beq k 0 then 0 else 2,0],2⟩) (· <=1) (λk=>1-k) 0 (zk _) ⟨⟨rfl,rfl,rfl,rfl,rfl,rfl,t_⟩,⟨rfl,rfl,t_⟩,rfl,rfl⟩ ?_;intro k hk
 match k,hk with
 |1,_=>
  refine vT (kF hX λW1 x1 Bf1 x0=>zab zbH ?_);refine vT (kF hX λW1 x1 Bf1 x0=>zaL rfl (zan ?_));refine vT (kF hX λW1 x1 Bf1 x0=>ug x0 0 0 (zab zbH ?_));exact kF hX λW1 x1 Bf1 x0=>zC ⟨.inr rfl,D2 rfl⟩
 |0,_=>
  refine vT (kF hX λW1 x1 Bf1 x0=>zab zbH ?_);refine vT (kF hX λW1 x1 Bf1 x0=>zbu rfl (zaf ?_));refine vT (fX ?_)
  iterate 2 (refine vT (kF hX λW1 x1 Bf1 x0=>zab zbH ?_))
  refine vT (kF hX λW1 x1 Bf1 x0=>zaa (zaa (zab zbH (zbu rfl ?_))));refine zab zbH ?_;refine AWPD.fit (Y2:=⟨(12,⟨.optr mark,⟨2,mark,.here⟩⟩)::(13,⟨.optr i64,⟨3,i64,.here⟩⟩)::F 0,(2,some (.box mark vwM))::(3,some (.box i64 (2:Int)))::E [0,0,0],4⟩) ⟨⟨rfl,rfl,rfl,rfl,rfl,rfl,rfl,rfl,t_⟩,⟨rfl,rfl,rfl,rfl,t_⟩,rfl,rfl⟩ ?_;refine vT (kF hX λW1 x1 Bf1 x0=>xN x0 13 ?_);refine zcE 6 dM zbH rfl ?_;refine fX ?_;refine wM (X:=Ownr.marked dG O [] noB) (hX []) rfl Tryz.call72 [47] rfl rfl rfl 1 (λ_=>[⟨i64,(1:Int)⟩]) (λ_=>rfl) zsb 1 (λi hi=>?_) ((13,⟨.vptr i64,(2:Int)⟩)::F 0) ⟨rfl,rfl,rfl,rfl,rfl,rfl,rfl,t_⟩ rfl (λk=>E [0,bif Nat.beq k 0 then 0 else 2,0]) 2 d_ (zk _) ⟨⟨rfl,rfl,rfl,rfl,rfl,rfl,rfl,t_⟩,⟨rfl,rfl,t_⟩,rfl,rfl⟩ (λ_=>rfl)
   (λ_=>True) (λ_=>False) t_ (λk=>⟨(14,⟨i64,(1:Int)⟩)::(13,⟨.vptr i64,(2:Int)⟩)::F 0,E [0,bif Nat.beq k 0 then 0 else 2,0],2⟩) (λ_=>zb rfl) (λ_=>[]) (λW O' Bf fix l x2 _ k hk hA=>?_) (λW O' Bf fix l x2 _ k hk hA=>?_) (λhA=>?_) (λk hk hA hR=>hR.elim)
  .obtain rfl:i=0:=o_;exact⟨_,rfl,rfl⟩
  .refine zab zbH ?_;exact⟨rfl,⟨rfl,rfl,rfl,rfl,rfl,rfl,rfl,rfl,t_⟩,⟨rfl,rfl,t_⟩,rfl,rfl⟩
  .obtain rfl:k=0:=o_;refine zaq (zcE 7 dM zbH rfl ?_);exact .inl ⟨rfl,t_,t_,⟨rfl,rfl,t_⟩,rfl,rfl⟩
  .refine kF hX λW1 x1 Bf1 x0=>zab zbH ?_;exact⟨1,zu _,qw _,⟨rfl,rfl,rfl,rfl,rfl,rfl,t_⟩,⟨rfl,rfl,t_⟩,rfl,rfl⟩
def zod(n:Int)(i:Int):UInt8:=zM (zV 64 n >>> (8*i).toNat).toNat
def numE(n:Int):List UInt8:=(xQ 8).map λ(i:Nat)=>zod n (i:Int)
theorem zn5{n:Int}{k:Nat}(hk:k<8):((((xQ k).map λ(i:Nat)=>zod n (i:Int))++zg (8-k) 0).set k (zod n k))=((xQ (k+1)).map λ(i:Nat)=>zod n (i:Int))++zg (8-(k+1)) 0:=by
 rw[qW _ _ (by simp),List.range_succ,xX,zB]
 congr 1
 obtain⟨m,hm⟩:∃m,8-k=m+1:=⟨8-k-1,by omega⟩;have x0:8-(k+1)=m:=o_;simp[hm,x0,List.replicate_succ]
def zvn:Ctr:={ args:=[i64],pre:=λ_=>[],res:=bs,own:=none,out:=λx=>numE x.1 }
theorem ztj:yQ zf dG 96 zvn:=by
 refine ctr2 zam Tryz.func96 Tryz.call96 ?_;rintro w0 X hX ⟨n,⟨⟩⟩ hp
 iterate 3 (refine zaa (zaa (zab zam ?_)))
 refine zaa ?_;refine yK (ι:=Nat) (λk=>⟨[(0,⟨i64,n⟩),(3,⟨.optr (.arr 8 u8),⟨0,.arr 8 u8,.here⟩⟩),(5,⟨i64,(k:Int)⟩)],[(0,some (.box (.arr 8 u8) (((xQ k).map λi=>zod n (i:Nat))++zg (8-k) 0)))],1⟩) (λk=>k<=8) (λk=>8-k) 0 o_ ⟨⟨rfl,rfl,rfl,t_⟩,⟨rfl,t_⟩,rfl,rfl⟩ ?_;intro k hk;refine zaa (zaa (zab zam ?_));apply zap;refine zaN rfl (λhb=>?_) (λhb=>?_)
 .
  refine zaa (zaa (zab zam ?_));have n0:(0:Int)<=(k:Int):=o_;have c1:inR .i64 (8*(k:Int)):=zah o_ o_;refine zaa (zaa ?_);refine zac hX zam rfl ?_ ?_
  .exact⟨c1,(show(0:Int)<=8*(k:Int) by omega),n0,hb,(show((k:Int)).toNat<8 by omega)⟩
  refine zaa (zaa (zac hX zam rfl ?_ ?_))
  .exact zaP o_
  refine⟨k+1,by omega,by omega,⟨rfl,rfl,zce _,t_⟩,⟨zeP ?_,t_⟩,rfl,rfl⟩;have x0:k<8:=o_;rw[zS];exact zn5 x0
 .
  have x1:k=8:=o_;subst x1;apply zan;refine xN hX 3 ?_;refine zaa (zaa (zab zam ?_));refine zC ⟨.inr rfl,D1 ?_⟩;rfl
theorem zlU(n:Int):(numE n).length=8:=by simp[numE]
def hdr3(e:ev.T):List Int:=[e.1,e.2.1,e.2.2.1]
def hdrE(e:ev.T):List UInt8:=((hdr3 e).map numE).flatten
theorem zlS(l:List Int):((l.map numE).flatten).length=8*l.length:=by
 induction l with
 |nil=>rfl
 |cons a l ih=>rw[List.map_cons,List.flatten_cons,zl,zlU,ih,yT];omega
theorem zmg(e:ev.T):(hdrE e).length=24:=zlS _
def kEH:Kn:={ dK with C:=[(96,zvn)] }
theorem zgc:KnOk zf dG kEH:=zam.with (.cons ztj .nil)
def zvo:Ctr:={ args:=[ev],pre:=λ_=>[],res:=.slice u8,own:=some 5,out:=λx=>hdrE x.1 }
theorem ztk:yQ zf dG 74 zvo:=by
 refine ctr2 zgc Tryz.func74 Tryz.call74 ?_;rintro w0 X hX ⟨e,⟨⟩⟩ hp;refine zaa (zaa (zab zgc ?_));refine xN hX 1 ?_
 iterate 2 (refine zaa (zaa (zab zgc ?_)))
 refine zaa ?_;refine yK (ι:=Nat) (λk=>⟨[(3,⟨.obuf u8,(1:Nat)⟩),(13,⟨.arr 3 i64,hdr3 e⟩),(14,⟨i64,(k:Int)⟩)],[(1,some (.buf 5 u8 ((((hdr3 e).take k).map numE).flatten)))],2⟩) (λk=>k<=3) (λk=>3-k) 0 o_ ⟨⟨rfl,rfl,rfl,t_⟩,⟨rfl,t_⟩,rfl,rfl⟩ ?_;intro k hk;refine zaa (zaa (zab zgc ?_));apply zap;refine zaN rfl (λhb=>?_) (λhb=>?_)
 .
  have x0:k<(hdr3 e).length:=by show k<3;omega
  have n0:=o_;have eg:(hdr3 e).getD (k:Int).toNat 0=(hdr3 e)[k]:=za4 x0;refine zaa (zaa (zab zgc ?_));have c1:((((hdr3 e).take k).map numE).flatten).length+(numE ((hdr3 e).getD (k:Int).toNat 0)).length<=1000000000:=by
   rw[zlS,zlU,zP];omega
  refine zaa (zaa (zab zgc ?_));refine zaa (zaa (zac hX zgc rfl ?_ ?_))
  .exact zaP o_
  refine⟨k+1,by omega,by omega,⟨rfl,rfl,zce _,t_⟩,⟨zbp ?_,t_⟩,rfl,rfl⟩;rw[zN x0,xX,List.flatten_append, <-eg];simp;rfl
 .
  have x1:k=3:=o_;subst x1;apply zan;refine zaa (zaa (zab zgc ?_));exact zC ⟨.inr rfl,zuX rfl rfl rfl⟩
def kER:Kn:={ dK with C:=[(74,zvo),(73,zrP)] }
theorem zjQ:KnOk zf dG kER:=zam.with (.cons ztk<|.cons zqv .nil)
def zss(k:List UInt8)(e:ev.T):List UInt8:=hmac k (hdrE e++e.2.2.2.1)
def zpf:Ctr:={ args:=[dg,ev],pre:=λx=>[zp x.2.1.2.2.2.1<=900000],res:=dg,own:=none,out:=λx=>zss x.1 x.2.1 }
set_option maxHeartbeats 4000000 in
theorem zoV:yQ zf dG 48 zpf:=by
 refine ctr2 zjQ Tryz.func48 Tryz.call48 ?_;rintro w0 X hX ⟨(key:List UInt8),(e:ev.T),⟨⟩⟩ hp;have hl:zp e.2.2.2.1<=900000:=hp;change AWP _ _ _ _ _ ⟨[(0,⟨dg,key⟩),(1,⟨ev,e⟩)],[],0⟩ _;refine zaa (zaa (zab zjQ ?_));refine xN hX 2 ?_;refine xN hX 3 ?_;have c1:(hdrE e).length+zp e.2.2.2.1<=1000000000:=by rw[zmg];omega
 have c2:zp (hdrE e++e.2.2.2.1)<=1000000:=by rw[zl,zmg];omega
 apply zap;refine zco (Y':=⟨[(4,⟨.optr dg,⟨2,dg,.here⟩⟩)],[(2,some (.box dg (zss key e)))],4⟩) dM 8 rfl (by kernel_rfl) ?_ ?_
 .repeat'(first|exact uf|refine kv ⟨_,rfl,?_⟩ ?_|refine yD hX zjQ rfl t_ ?_|refine yD hX zjQ rfl c1 ?_|refine yD hX zjQ rfl c2 ?_|(refine vY ?_;exact⟨rfl,⟨rfl,t_⟩,⟨rfl,t_⟩,rfl,rfl⟩))
 exact zC ⟨.inr rfl,D1 rfl⟩
noncomputable def kES:Kn:={ dK with C:=[(6,cBy),(48,zpf)] }
theorem zff:KnOk zf dG kES:=zam.with (.cons ziZ<|.cons zoV .nil)
def zEv:ev.T:=(0,0,0,[],zDg,())
noncomputable def envE(x0:List (List UInt8))(seq:Int)(l:lt.T):ev.T:=(l.2.1,l.2.2.1,seq,zc9 l,zss (x0.getD l.2.1.toNat zDg) (l.2.1,l.2.2.1,seq,zc9 l,zDg,()),())
noncomputable def zrR:Ctr:={ args:=[.slice dg,i64,lt],pre:=λx=>[zdr x.2.2.1,zp x.1<=16,1<=x.2.1/\x.2.1<=1099511627776,0<=x.2.2.1.2.1/\x.2.2.1.2.1<((zp x.1:Nat):Int),0<=x.2.2.1.2.2.1/\x.2.2.1.2.2.1<((zp x.1:Nat):Int)],res:=.tup ev (.tup i64 .unit),own:=none,out:=λx=>(envE x.1 x.2.1 x.2.2.1,0,()) }
set_option maxHeartbeats 4000000 in
theorem zqJ:yQ zf dG 14 zrR:=by
 refine ctr2 zff Tryz.func14 Tryz.call14 ?_;rintro w0 X hX ⟨(x0:List (List UInt8)),(seq:Int),(l:lt.T),⟨⟩⟩ ⟨h1,h2,⟨h3,h4⟩,⟨h5,h6⟩,h7,h8⟩;have h1:zdr l:=h1;have h2:x0.length<=16:=h2;have h3:1<=seq:=h3;have h4:seq<=1099511627776:=h4;obtain⟨a,ha⟩:∃a:Int,a=l.2.1:=⟨_,rfl⟩;obtain⟨b,hb⟩:∃b:Int,b=l.2.2.1:=⟨_,rfl⟩;have h5:0<=a:=by rw[ha];exact h5
 have h6:a<((x0.length:Nat):Int):=by rw[ha];exact h6
 have h7:0<=b:=by rw[hb];exact h7
 have h8:b<((x0.length:Nat):Int):=by rw[hb];exact h8
 change AWP _ _ _ _ _ ⟨[(0,⟨.slice dg,x0⟩),(1,⟨i64,seq⟩),(2,⟨lt,l⟩)],[],0⟩ _;refine zaa (zaa (zab zff ?_));refine xN hX 5 ?_;refine zaa (zaa (zab zff ?_ (hp:=by repeat'(first|exact t_|exact id|exact λh=>h|exact λh=>⟨h,h⟩|(refine vI ?_ ?_)))));refine zae rfl (λhc=>?_) (λ_=>?_)
 .exfalso;have hc:(bif (bif decide (((x0.length:Nat):Int)>16) then true else decide (seq<1)) then true else decide (seq>1099511627776))=true:=hc;rw[decide_eq_false o_,decide_eq_false o_,decide_eq_false o_]at hc;cases hc
 apply zaf;refine zak (Y':=⟨[(0,⟨.slice dg,x0⟩),(1,⟨i64,seq⟩),(5,⟨.vptr lt,l⟩),(6,⟨.optr ev,⟨1,ev,.here⟩⟩)],[(1,some (.box ev zEv))],2⟩) ⟨⟨rfl,rfl,rfl,rfl,t_⟩,⟨rfl,t_⟩,rfl,rfl⟩ ?_;refine zaa (zaa (zab zff ?_ (hp:=by exact h1)));have x2:(zc9 l).length<=130000:=zf0 h1;obtain⟨B,hB⟩:∃B,B=zc9 l:=⟨_,rfl⟩;rw[<-hB]at x2;refine zak (Y':=⟨[(0,⟨.slice dg,x0⟩),(1,⟨i64,seq⟩),(5,⟨.vptr lt,l⟩),(6,⟨.optr ev,⟨1,ev,.here⟩⟩),(8,⟨bs,B⟩),(9,⟨i64,(0:Int)⟩)],[(1,some (.box ev zEv))],2⟩) ⟨⟨rfl,rfl,rfl,rfl,congrArg (λz=>(⟨bs,z⟩:V)) hB.symm,rfl,t_⟩,⟨rfl,t_⟩,rfl,rfl⟩ ?_;refine zaa (zaa (zab zff ?_));refine zaL rfl ?_;apply zaf;have x1:∀x y n:Int,x<n->y<n->¬(max x y>=n):=λx y n h1 h2=>by omega
 refine zaa (zaa (zab zff ?_));refine zae rfl (λhc=>?_) (λ_=>?_)
 .exfalso;have hc:decide (max l.2.1 l.2.2.1>=((x0.length:Nat):Int))=true:=hc;have hc:=of_decide_eq_true hc;exact x1 _ _ _ (by rw[<-ha];exact h6) (by rw[<-hb];exact h8) hc
 apply zaf;refine zaa (zaa (zab zff ?_));refine zak (Y':=⟨[(0,⟨.slice dg,x0⟩),(5,⟨.vptr lt,l⟩),(6,⟨.optr ev,⟨1,ev,.here⟩⟩),(10,⟨.optr ev,⟨2,ev,.here⟩⟩)],[(1,some (.box ev zEv)),(2,some (.box ev (l.2.1,l.2.2.1,seq,B,zDg,())))],3⟩) ⟨⟨rfl,rfl,rfl,rfl,t_⟩,⟨rfl,rfl,t_⟩,rfl,rfl⟩ ?_;have x3:B.length<=900000:=o_;refine zaa ?_;refine zaa (zaa (zcE 8 dM zff rfl ?_));refine zaa (zaa (zab zff ?_));refine zC ⟨.inr rfl,D2 ?_⟩;rw[hB];rfl
def ansL(v:List Int)(g:Int)(w:sp.T):lt.T:=(16,1,0,0,0,0,0,2,3,0,0,0,zMv',zSe,0,0,g,w,v,zDg,())
def cAns:Ctr:={ args:=[ints,i64,sp],pre:=λ_=>[],res:=lt,own:=none,out:=λx=>ansL x.1 x.2.1 x.2.2.1 }
theorem zvx:yQ zf dG 15 cAns:=by
 refine ctr2 zam Tryz.func15 Tryz.call15 ?_;rintro w0 X hX ⟨v,g,w,⟨⟩⟩ hp
 iterate 2 (refine zaa (zaa (zab zam ?_)))
 exact zC ⟨.inr rfl,D1 rfl⟩
theorem zq7:zdr (ansL [0,2,0] 3 (0,90,())):=by
 have hs:serS (ansL [0,2,0] 3 (0,90,())):=⟨zk _,zk _,zk _⟩;refine⟨⟨by decide,by decide,by decide,by decide⟩,⟨by decide,hs,λk hk=>?_,λh=>absurd h d_⟩,⟨by decide,hs,λf hf hu=>?_,λh=>absurd h d_,λh=>absurd h d_,by decide,⟨by decide,λx hx=>?_,λh=>absurd h d_,λh=>absurd h d_⟩⟩,by decide,λhc=>absurd hc.1 d_,by decide⟩
 .rcases hk with rfl|rfl|rfl|rfl|rfl|rfl|rfl|rfl|rfl|rfl|rfl|rfl<;>decide
 .rcases hf with rfl|rfl|rfl|rfl|rfl
  .exact zbt.2 rfl
  .rfl
  .exact absurd hu d_
  .exact absurd hu d_
  .exact absurd hu d_
 .have hx:x∈ [(0:Int),2,0]:=hx;simp only[zE,zU,or_false]at hx;omega
noncomputable def kSan:Kn:={ dK with C:=[(13,zu7),(14,zrR),(15,cAns)] }
theorem zfM:KnOk zf dG kSan:=zam.with (.cons zsc<|.cons zqJ<|.cons zvx .nil)
def cSan:Ctr:={ args:=[],pre:=λ_=>[],res:=.bool,own:=none,out:=λ_=>true }
theorem zuf:yQ zf dG 4 cSan:=by
 refine ctr2 zfM Tryz.func4 Tryz.call4 ?_;rintro w0 X hX ⟨⟩ hp;change AWP _ _ _ _ _ ⟨[],[],0⟩ _;refine zaa (zaa (zab zfM ?_));refine zaa (zaa (zab zfM ?_ (hp:=by exact⟨rfl,rfl,rfl⟩)));refine zak (Y':=⟨[(1,⟨ints,[0,2,0]⟩),(2,⟨i64,(0:Int)⟩)],[],1⟩) ⟨⟨rfl,rfl,t_⟩,t_,rfl,rfl⟩ ?_;refine zaa (zaa (zab zfM ?_));refine zaL rfl ?_;apply zaf;refine zaa (zaa (zab zfM ?_ (hp:=by exact⟨zq7,d_,⟨d_,d_⟩,⟨d_,d_⟩,d_,d_⟩)));refine zak (Y':=⟨[(1,⟨ints,[0,2,0]⟩),(2,⟨i64,(0:Int)⟩),(4,⟨i64,(0:Int)⟩)],[],3⟩) ⟨⟨rfl,rfl,rfl,t_⟩,t_,rfl,rfl⟩ ?_;have q0:(0:Int)<=0/\(0:Int)<((3:Nat):Int):=d_;have q1:(0:Int)<=1/\(1:Int)<((3:Nat):Int):=d_;have q2:(0:Int)<=2/\(2:Int)<((3:Nat):Int):=d_;refine zaa (zaa (zab zfM ?_ (hp:=by repeat'(first|exact t_|exact id|exact λh=>⟨h,q0⟩|exact λh=>⟨h,q1⟩|exact λh=>⟨h,q2⟩|exact λh=>⟨h,h⟩|refine vI ?_ ?_))));exact zC ⟨.inr rfl,D1 rfl⟩
theorem zn7{s:se.T}(h:zdc s=true):s=zSe:=by
 obtain⟨r,mi,le,zo,ga,fo,mo,⟨⟩⟩:=s;unfold zdc at h;simp only[Bool.cond_false_right,zh,decide_eq_true_iff]at h;obtain⟨⟨⟨⟨h1,h2⟩,h3⟩,h4⟩,h5⟩:=h;have a1:r.length=0:=o_;have a2:mo.length=0:=o_;have a3:zo.length=0:=o_;rw[ks]at a1 a2 a3;subst a1 a2 a3 h2 h3 h4 h5;rfl
theorem zu4{l:lt.T}(h:zdr l):clnL l:=by
 obtain⟨_,⟨_,_,hn,_⟩,⟨_,_,ho,_⟩,_⟩:=h;refine⟨λk hk hu=>(hn k hk).1 (by unfold offF;rw[hu];rfl),λhu=>?_,λhu=>?_,λhu=>?_,λhu=>?_,λhu=>?_⟩
 .have h9:=ho 9 o_ hu;exact zbt.1 h9
 .rcases hu with hu|hu
  .exact zn7 (ho 10 o_ hu)
  .exact zn7 hu
 .have h9:eqb sp (ltW l) (0,0,())=true:=ho 14 o_ hu;exact zbt.1 h9
 .have h9:(((zp (ltC l):Nat):Int)==0)=true:=ho 15 o_ hu;have h9:((zp (ltC l):Nat):Int)=0:=by simpa using h9
  exact ks.1 o_
 .have h9:=ho 16 o_ hu;exact zbt.1 h9
def fldT:List (List Int):=[[],[0,1,4,10],[0,1,4],[0,1,4],[0,1,4,9],[0,1,4,5],[0,1,7,8,9,10],[0,1],[0,4,5,6,10,11,12,15],[0,6,11,15,16],[0,6,12,15,16],[0,12,15,16],[0,12,15,16],[0,15],[0,12,15,16],[4,5,13,14],[4,5,13,14,15,16],[2,3,15,16],[0,16]]
def cFld:Ctr:={ args:=[i64],pre:=λx=>[1<=x.1,x.1<=18],res:=ints,own:=none,out:=λx=>fldT.getD x.1.toNat [] }
set_option maxHeartbeats 4000000 in
theorem zoQ:yQ zf gmG 50 cFld:=by
 refine ctr2 zar Tryz.func50 Tryz.call50 ?_;rintro w0 X hX ⟨(k:Int),⟨⟩⟩ ⟨h1,h2⟩;have h1:1<=k:=h1;have h2:k<=18:=h2;change AWP _ _ _ _ _ ⟨[(0,⟨i64,k⟩)],[],0⟩ _;have hk:k=1\/k=2\/k=3\/k=4\/k=5\/k=6\/k=7\/k=8\/k=9\/k=10\/k=11\/k=12\/k=13\/k=14\/k=15\/k=16\/k=17\/k=18:=o_;rcases hk with rfl|rfl|rfl|rfl|rfl|rfl|rfl|rfl|rfl|rfl|rfl|rfl|rfl|rfl|rfl|rfl|rfl|rfl
 all_goals
  iterate 2 (refine zaa (zaa (zab zar ?_)))
  repeat(first|refine zae rfl (λh=>absurd (show false=true from h) d_) (λ_=>?_)|refine zae rfl (λ_=>?_) (λh=>absurd (show true=false from h) d_)|apply zaf|refine zaa (zab zar ?_))
  refine vo hX 2 ?_;exact zC ⟨.inr rfl,D1 rfl⟩
def zhu(k f:Int):Bool:=decide (f∈fldT.getD k.toNat [])
def cUse:Ctr:={ args:=[i64,i64],pre:=λx=>[1<=x.1,x.1<=18],res:=.bool,own:=none,out:=λx=>zhu x.1 x.2.1 }
def kUse:Kn:={ gmK with C:=[(50,cFld)] }
theorem zdL:KnOk zf gmG kUse:=zar.with (.cons zoQ .nil)
theorem zlA:yQ zf gmG 17 cUse:=by
 refine ctr2 zdL Tryz.func17 Tryz.call17 ?_;rintro w0 X hX ⟨k,f,⟨⟩⟩ ⟨h1,h2⟩;refine zaa (zaa (zab zdL ?_));refine zaa (zaa (zab zdL ?_ (hp:=by exact⟨h1,h2⟩)));refine zaa (zaa (zab zdL ?_));obtain⟨l,hl⟩:∃l:List Int,l=fldT.getD k.toNat []:=⟨_,rfl⟩;refine zaa ?_;refine yK (ι:=Nat) (λj=>⟨[(1,⟨i64,f⟩),(5,⟨ints,l⟩),(6,⟨i64,(j:Int)⟩)],[],0⟩) (λj=>j<=l.length/\∀i(hi:i<l.length),i<j->l[i]≠f) (λj=>l.length-j) 0 ⟨zk _,λi _ h=>absurd h (Nat.not_lt_zero _)⟩ ⟨⟨rfl,congrArg (λz=>(⟨ints,z⟩:V)) hl.symm,rfl,t_⟩,t_,rfl,rfl⟩ ?_;rintro j ⟨hj,he⟩;refine AWP.len 5 rfl λx1=>?_;unfold maxLen at x1;refine zaa (zaa (zab zdL ?_));refine zaa ?_;refine zaN rfl (λhb=>?_) (λhb=>?_)
 .
  have x0:j<l.length:=o_;have n0:(0:Int)<=(j:Int):=o_;have q1:inR .i64 ((j:Int)+1):=zah o_ o_;apply zaf;refine zaa (zaa (zab zdL ?_ (hp:=by exact⟨n0,hb⟩)));refine zae rfl (λhc=>?_) (λhc=>?_)
  .have hc:(l.getD (j:Int).toNat 0==f)=true:=hc;rw[za4 x0]at hc;refine zaa (zaa (zab zdL ?_));refine zC ⟨.inr rfl,D1 ?_⟩;show true=decide (f∈fldT.getD k.toNat []);rw[<-hl];exact(decide_eq_true (by rw[<-show l[j]=f by simpa using hc];exact qc x0)).symm
  .have hc:(l.getD (j:Int).toNat 0==f)=false:=hc;rw[za4 x0]at hc;refine zaa ?_;refine zaa (zab zdL ?_);exact⟨j+1,⟨by omega,λi hi x2=>by
    by_cases e:i=j
    .subst e;simpa using hc
    .exact he i hi o_⟩,by omega,⟨rfl,rfl,rfl,t_⟩,t_,rfl,rfl⟩
 .
  apply zan;refine zaa (zaa (zab zdL ?_));refine zC ⟨.inr rfl,D1 ?_⟩;show false=decide (f∈fldT.getD k.toNat []);rw[<-hl];exact(decide_eq_false λhm=>by
   obtain⟨i,hi,e⟩:=wc hm;exact he i hi o_ e).symm
def numR(f:Int):Bool:=bif (bif (bif decide (f<=8) then true else f==11) then true else f==12) then true else f==13
def ztu:Ctr:={ args:=[i64],pre:=λ_=>[],res:=.bool,own:=none,out:=λx=>numR x.1 }
theorem zh1:yQ zf gmG 51 ztu:=by
 refine ctr2 zar Tryz.func51 Tryz.call51 ?_;rintro w0 X hX ⟨f,⟨⟩⟩ hp;refine zaa (zaa (zab zar ?_));refine zaa (zaa (zab zar ?_ (hp:=?_)))
 .exact zC ⟨.inr rfl,D1 rfl⟩
 .repeat'(first|exact λh=>h|exact λh=>⟨h,h⟩|exact λh=>⟨h,rfl⟩|exact λh=>⟨h,h,h⟩|refine vI ?_ ?_)
abbrev ltN:Ty:=.pair i64 (.pair i64 (.pair i64 (.pair i64 (.pair i64 (.pair i64 (.pair i64 (.pair i64 (.pair i64 (.pair i64 (.pair i64 (.pair i64 (.pair mv (.pair se (.pair i64 (.pair i64 (.pair i64 (.pair sp (.pair .nils (.pair dg .unit)))))))))))))))))))
def dTN:Tbl:=(42,ltN)::dT
theorem zmr:TOk zf dTN dQ:=znl (by kernel_rfl) (by kernel_rfl)
def kN:Kn:={ gmK with T:=dTN }
theorem zsZ:KnOk zf gmG kN:=⟨zmr,zdu,CsOk.nil,λ_ _ _ _=>trivial,RsOk.nil⟩
def zd5(l:ltN.T)(f v:Int):ltN.T:=match f.toNat with
 |0=>(l.1,l.2.1,l.2.2.1,v,l.2.2.2.2.1,l.2.2.2.2.2.1,l.2.2.2.2.2.2.1,l.2.2.2.2.2.2.2.1,l.2.2.2.2.2.2.2.2.1,l.2.2.2.2.2.2.2.2.2.1,l.2.2.2.2.2.2.2.2.2.2.1,l.2.2.2.2.2.2.2.2.2.2.2.1,l.2.2.2.2.2.2.2.2.2.2.2.2.1,l.2.2.2.2.2.2.2.2.2.2.2.2.2.1,l.2.2.2.2.2.2.2.2.2.2.2.2.2.2.1,l.2.2.2.2.2.2.2.2.2.2.2.2.2.2.2.1,l.2.2.2.2.2.2.2.2.2.2.2.2.2.2.2.2.1,l.2.2.2.2.2.2.2.2.2.2.2.2.2.2.2.2.2.1,l.2.2.2.2.2.2.2.2.2.2.2.2.2.2.2.2.2.2.1,l.2.2.2.2.2.2.2.2.2.2.2.2.2.2.2.2.2.2.2.1,())
 |1=>(l.1,l.2.1,l.2.2.1,l.2.2.2.1,v,l.2.2.2.2.2.1,l.2.2.2.2.2.2.1,l.2.2.2.2.2.2.2.1,l.2.2.2.2.2.2.2.2.1,l.2.2.2.2.2.2.2.2.2.1,l.2.2.2.2.2.2.2.2.2.2.1,l.2.2.2.2.2.2.2.2.2.2.2.1,l.2.2.2.2.2.2.2.2.2.2.2.2.1,l.2.2.2.2.2.2.2.2.2.2.2.2.2.1,l.2.2.2.2.2.2.2.2.2.2.2.2.2.2.1,l.2.2.2.2.2.2.2.2.2.2.2.2.2.2.2.1,l.2.2.2.2.2.2.2.2.2.2.2.2.2.2.2.2.1,l.2.2.2.2.2.2.2.2.2.2.2.2.2.2.2.2.2.1,l.2.2.2.2.2.2.2.2.2.2.2.2.2.2.2.2.2.2.1,l.2.2.2.2.2.2.2.2.2.2.2.2.2.2.2.2.2.2.2.1,())
 |2=>(l.1,l.2.1,l.2.2.1,l.2.2.2.1,l.2.2.2.2.1,v,l.2.2.2.2.2.2.1,l.2.2.2.2.2.2.2.1,l.2.2.2.2.2.2.2.2.1,l.2.2.2.2.2.2.2.2.2.1,l.2.2.2.2.2.2.2.2.2.2.1,l.2.2.2.2.2.2.2.2.2.2.2.1,l.2.2.2.2.2.2.2.2.2.2.2.2.1,l.2.2.2.2.2.2.2.2.2.2.2.2.2.1,l.2.2.2.2.2.2.2.2.2.2.2.2.2.2.1,l.2.2.2.2.2.2.2.2.2.2.2.2.2.2.2.1,l.2.2.2.2.2.2.2.2.2.2.2.2.2.2.2.2.1,l.2.2.2.2.2.2.2.2.2.2.2.2.2.2.2.2.2.1,l.2.2.2.2.2.2.2.2.2.2.2.2.2.2.2.2.2.2.1,l.2.2.2.2.2.2.2.2.2.2.2.2.2.2.2.2.2.2.2.1,())
 |3=>(l.1,l.2.1,l.2.2.1,l.2.2.2.1,l.2.2.2.2.1,l.2.2.2.2.2.1,v,l.2.2.2.2.2.2.2.1,l.2.2.2.2.2.2.2.2.1,l.2.2.2.2.2.2.2.2.2.1,l.2.2.2.2.2.2.2.2.2.2.1,l.2.2.2.2.2.2.2.2.2.2.2.1,l.2.2.2.2.2.2.2.2.2.2.2.2.1,l.2.2.2.2.2.2.2.2.2.2.2.2.2.1,l.2.2.2.2.2.2.2.2.2.2.2.2.2.2.1,l.2.2.2.2.2.2.2.2.2.2.2.2.2.2.2.1,l.2.2.2.2.2.2.2.2.2.2.2.2.2.2.2.2.1,l.2.2.2.2.2.2.2.2.2.2.2.2.2.2.2.2.2.1,l.2.2.2.2.2.2.2.2.2.2.2.2.2.2.2.2.2.2.1,l.2.2.2.2.2.2.2.2.2.2.2.2.2.2.2.2.2.2.2.1,())
 |4=>(l.1,l.2.1,l.2.2.1,l.2.2.2.1,l.2.2.2.2.1,l.2.2.2.2.2.1,l.2.2.2.2.2.2.1,v,l.2.2.2.2.2.2.2.2.1,l.2.2.2.2.2.2.2.2.2.1,l.2.2.2.2.2.2.2.2.2.2.1,l.2.2.2.2.2.2.2.2.2.2.2.1,l.2.2.2.2.2.2.2.2.2.2.2.2.1,l.2.2.2.2.2.2.2.2.2.2.2.2.2.1,l.2.2.2.2.2.2.2.2.2.2.2.2.2.2.1,l.2.2.2.2.2.2.2.2.2.2.2.2.2.2.2.1,l.2.2.2.2.2.2.2.2.2.2.2.2.2.2.2.2.1,l.2.2.2.2.2.2.2.2.2.2.2.2.2.2.2.2.2.1,l.2.2.2.2.2.2.2.2.2.2.2.2.2.2.2.2.2.2.1,l.2.2.2.2.2.2.2.2.2.2.2.2.2.2.2.2.2.2.2.1,())
 |5=>(l.1,l.2.1,l.2.2.1,l.2.2.2.1,l.2.2.2.2.1,l.2.2.2.2.2.1,l.2.2.2.2.2.2.1,l.2.2.2.2.2.2.2.1,v,l.2.2.2.2.2.2.2.2.2.1,l.2.2.2.2.2.2.2.2.2.2.1,l.2.2.2.2.2.2.2.2.2.2.2.1,l.2.2.2.2.2.2.2.2.2.2.2.2.1,l.2.2.2.2.2.2.2.2.2.2.2.2.2.1,l.2.2.2.2.2.2.2.2.2.2.2.2.2.2.1,l.2.2.2.2.2.2.2.2.2.2.2.2.2.2.2.1,l.2.2.2.2.2.2.2.2.2.2.2.2.2.2.2.2.1,l.2.2.2.2.2.2.2.2.2.2.2.2.2.2.2.2.2.1,l.2.2.2.2.2.2.2.2.2.2.2.2.2.2.2.2.2.2.1,l.2.2.2.2.2.2.2.2.2.2.2.2.2.2.2.2.2.2.2.1,())
 |6=>(l.1,l.2.1,l.2.2.1,l.2.2.2.1,l.2.2.2.2.1,l.2.2.2.2.2.1,l.2.2.2.2.2.2.1,l.2.2.2.2.2.2.2.1,l.2.2.2.2.2.2.2.2.1,v,l.2.2.2.2.2.2.2.2.2.2.1,l.2.2.2.2.2.2.2.2.2.2.2.1,l.2.2.2.2.2.2.2.2.2.2.2.2.1,l.2.2.2.2.2.2.2.2.2.2.2.2.2.1,l.2.2.2.2.2.2.2.2.2.2.2.2.2.2.1,l.2.2.2.2.2.2.2.2.2.2.2.2.2.2.2.1,l.2.2.2.2.2.2.2.2.2.2.2.2.2.2.2.2.1,l.2.2.2.2.2.2.2.2.2.2.2.2.2.2.2.2.2.1,l.2.2.2.2.2.2.2.2.2.2.2.2.2.2.2.2.2.2.1,l.2.2.2.2.2.2.2.2.2.2.2.2.2.2.2.2.2.2.2.1,())
 |7=>(l.1,l.2.1,l.2.2.1,l.2.2.2.1,l.2.2.2.2.1,l.2.2.2.2.2.1,l.2.2.2.2.2.2.1,l.2.2.2.2.2.2.2.1,l.2.2.2.2.2.2.2.2.1,l.2.2.2.2.2.2.2.2.2.1,v,l.2.2.2.2.2.2.2.2.2.2.2.1,l.2.2.2.2.2.2.2.2.2.2.2.2.1,l.2.2.2.2.2.2.2.2.2.2.2.2.2.1,l.2.2.2.2.2.2.2.2.2.2.2.2.2.2.1,l.2.2.2.2.2.2.2.2.2.2.2.2.2.2.2.1,l.2.2.2.2.2.2.2.2.2.2.2.2.2.2.2.2.1,l.2.2.2.2.2.2.2.2.2.2.2.2.2.2.2.2.2.1,l.2.2.2.2.2.2.2.2.2.2.2.2.2.2.2.2.2.2.1,l.2.2.2.2.2.2.2.2.2.2.2.2.2.2.2.2.2.2.2.1,())
 |8=>(l.1,l.2.1,l.2.2.1,l.2.2.2.1,l.2.2.2.2.1,l.2.2.2.2.2.1,l.2.2.2.2.2.2.1,l.2.2.2.2.2.2.2.1,l.2.2.2.2.2.2.2.2.1,l.2.2.2.2.2.2.2.2.2.1,l.2.2.2.2.2.2.2.2.2.2.1,v,l.2.2.2.2.2.2.2.2.2.2.2.2.1,l.2.2.2.2.2.2.2.2.2.2.2.2.2.1,l.2.2.2.2.2.2.2.2.2.2.2.2.2.2.1,l.2.2.2.2.2.2.2.2.2.2.2.2.2.2.2.1,l.2.2.2.2.2.2.2.2.2.2.2.2.2.2.2.2.1,l.2.2.2.2.2.2.2.2.2.2.2.2.2.2.2.2.2.1,l.2.2.2.2.2.2.2.2.2.2.2.2.2.2.2.2.2.2.1,l.2.2.2.2.2.2.2.2.2.2.2.2.2.2.2.2.2.2.2.1,())
 |11=>(l.1,l.2.1,l.2.2.1,l.2.2.2.1,l.2.2.2.2.1,l.2.2.2.2.2.1,l.2.2.2.2.2.2.1,l.2.2.2.2.2.2.2.1,l.2.2.2.2.2.2.2.2.1,l.2.2.2.2.2.2.2.2.2.1,l.2.2.2.2.2.2.2.2.2.2.1,l.2.2.2.2.2.2.2.2.2.2.2.1,l.2.2.2.2.2.2.2.2.2.2.2.2.1,l.2.2.2.2.2.2.2.2.2.2.2.2.2.1,v,l.2.2.2.2.2.2.2.2.2.2.2.2.2.2.2.1,l.2.2.2.2.2.2.2.2.2.2.2.2.2.2.2.2.1,l.2.2.2.2.2.2.2.2.2.2.2.2.2.2.2.2.2.1,l.2.2.2.2.2.2.2.2.2.2.2.2.2.2.2.2.2.2.1,l.2.2.2.2.2.2.2.2.2.2.2.2.2.2.2.2.2.2.2.1,())
 |12=>(l.1,l.2.1,l.2.2.1,l.2.2.2.1,l.2.2.2.2.1,l.2.2.2.2.2.1,l.2.2.2.2.2.2.1,l.2.2.2.2.2.2.2.1,l.2.2.2.2.2.2.2.2.1,l.2.2.2.2.2.2.2.2.2.1,l.2.2.2.2.2.2.2.2.2.2.1,l.2.2.2.2.2.2.2.2.2.2.2.1,l.2.2.2.2.2.2.2.2.2.2.2.2.1,l.2.2.2.2.2.2.2.2.2.2.2.2.2.1,l.2.2.2.2.2.2.2.2.2.2.2.2.2.2.1,v,l.2.2.2.2.2.2.2.2.2.2.2.2.2.2.2.2.1,l.2.2.2.2.2.2.2.2.2.2.2.2.2.2.2.2.2.1,l.2.2.2.2.2.2.2.2.2.2.2.2.2.2.2.2.2.2.1,l.2.2.2.2.2.2.2.2.2.2.2.2.2.2.2.2.2.2.2.1,())
 |13=>(l.1,l.2.1,l.2.2.1,l.2.2.2.1,l.2.2.2.2.1,l.2.2.2.2.2.1,l.2.2.2.2.2.2.1,l.2.2.2.2.2.2.2.1,l.2.2.2.2.2.2.2.2.1,l.2.2.2.2.2.2.2.2.2.1,l.2.2.2.2.2.2.2.2.2.2.1,l.2.2.2.2.2.2.2.2.2.2.2.1,l.2.2.2.2.2.2.2.2.2.2.2.2.1,l.2.2.2.2.2.2.2.2.2.2.2.2.2.1,l.2.2.2.2.2.2.2.2.2.2.2.2.2.2.1,l.2.2.2.2.2.2.2.2.2.2.2.2.2.2.2.1,v,l.2.2.2.2.2.2.2.2.2.2.2.2.2.2.2.2.2.1,l.2.2.2.2.2.2.2.2.2.2.2.2.2.2.2.2.2.2.1,l.2.2.2.2.2.2.2.2.2.2.2.2.2.2.2.2.2.2.2.1,())
 |_=>l
def zva:Ctr:={ args:=[ltN,i64,i64],pre:=λx=>[zaM x.2.1.toNat,0<=x.2.1],res:=ltN,own:=none,out:=λx=>zd5 x.1 x.2.1 x.2.2.1 }
set_option maxHeartbeats 8000000 in
theorem zjo:yQ zf gmG 53 zva:=by
 refine ctr2 zsZ Tryz.func53 Tryz.call53 ?_;rintro w0 X hX ⟨(l:ltN.T),(f:Int),(v:Int),⟨⟩⟩ ⟨h1,h2⟩;have h1:zaM f.toNat:=h1;have h2:0<=f:=h2;change AWP _ _ _ _ _ ⟨[(0,⟨ltN,l⟩),(1,⟨i64,f⟩),(2,⟨i64,v⟩)],[],0⟩ _;have hk:f=0\/f=1\/f=2\/f=3\/f=4\/f=5\/f=6\/f=7\/f=8\/f=11\/f=12\/f=13:=by unfold zaM at h1;omega
 rcases hk with rfl|rfl|rfl|rfl|rfl|rfl|rfl|rfl|rfl|rfl|rfl|rfl
 all_goals
  iterate 2 (refine zaa (zaa (zab zsZ ?_)))
  repeat(first|refine zae rfl (λh=>absurd (show false=true from h) d_) (λ_=>?_)|refine zae rfl (λ_=>?_) (λh=>absurd (show true=false from h) d_)|apply zaf|refine zaa (zab zsZ ?_))
  exact zC ⟨.inr rfl,D1 rfl⟩
def bndR(k f:Int):Int×Int:=
 if f=0 then(1,1099511627776) else if f=1 then(if k=1 then(1,1) else if k=6\/k=7 then(2,1099511627776) else(1,1099511627776)) else if f=2 then(0,15) else if f=3 then(1,64) else if f=4 then(0,511)
 else if f=5 then(if k=8 then(0,63) else(0,511)) else if f=6 then(0,255) else if f=7 then(1,3) else if f=8 then(0,1099511627776) else if f=11 then(0,2251799813685248) else if f=13 then(1,4)
 else if k=8 then(1,512) else if k=14 then(0,5) else(0,18)
def cBnd:Ctr:={ args:=[i64,i64],pre:=λx=>[1<=x.1,x.1<=18,zaM x.2.1.toNat,0<=x.2.1],res:=.tup i64 (.tup i64 .unit),own:=none,out:=λx=>((bndR x.1 x.2.1).1,(bndR x.1 x.2.1).2,()) }
set_option maxHeartbeats 8000000 in
theorem zpl:yQ zf gmG 52 cBnd:=by
 refine ctr2 zar Tryz.func52 Tryz.call52 ?_;rintro w0 X hX ⟨(k:Int),(f:Int),⟨⟩⟩ ⟨h1,h2,h3,h4⟩;have h1:1<=k:=h1;have h2:k<=18:=h2;have h3:zaM f.toNat:=h3;have h4:0<=f:=h4;change AWP _ _ _ _ _ ⟨[(0,⟨i64,k⟩),(1,⟨i64,f⟩)],[],0⟩ _;have hf:f=0\/f=2\/f=3\/f=4\/f=6\/f=7\/f=8\/f=11\/f=13\/f=1\/f=5\/f=12:=by unfold zaM at h3;omega
 have hk:k=1\/k=2\/k=3\/k=4\/k=5\/k=6\/k=7\/k=8\/k=9\/k=10\/k=11\/k=12\/k=13\/k=14\/k=15\/k=16\/k=17\/k=18:=o_;rcases hf with rfl|rfl|rfl|rfl|rfl|rfl|rfl|rfl|rfl|rfl|rfl|rfl
 iterate 9 (refine zaa (zaa (zab zar ?_));refine zaa (zaa (zab zar ?_));(repeat(first|refine zae rfl (λh=>absurd (show false=true from h) d_) (λ_=>?_)|refine zae rfl (λ_=>?_) (λh=>absurd (show true=false from h) d_)|apply zaf|refine zaa (zab zar ?_)));exact zC ⟨.inr rfl,D2 rfl⟩)
 all_goals
  rcases hk with rfl|rfl|rfl|rfl|rfl|rfl|rfl|rfl|rfl|rfl|rfl|rfl|rfl|rfl|rfl|rfl|rfl|rfl
 all_goals
  iterate 2 (refine zaa (zaa (zab zar ?_)))
  repeat(first|refine zae rfl (λh=>absurd (show false=true from h) d_) (λ_=>?_)|refine zae rfl (λ_=>?_) (λh=>absurd (show true=false from h) d_)|apply zaf|refine zaa (zab zar ?_)|refine zaa (zab zar ?_ (hp:=by first|exact λh=>h|exact⟨λh=>h,λh=>⟨h,h⟩⟩|exact⟨λh=>h,λh=>h⟩)))
  exact zC ⟨.inr rfl,D2 rfl⟩
def rn(l:List UInt8):Nat:=l.foldl (λn c=>min (10*n+(c.toNat-48)) zvW) 0
def two(k:Int):Bool:=(k==8)||(k==9)||(k==10)||(k==17)
def zb8(by_:Int)(n:Nd):Nd:=(n.1,n.2.1,(if 8<=n.1/\n.1<=17 then n.2.2.1+by_ else n.2.2.1),(if two n.1 then n.2.2.2.1+by_ else n.2.2.2.1),n.2.2.2.2)
def zec(r:List Nd)(by_:Int):List Nd:=r.map (zb8 by_)
def zp6(r:List Nd)(n:Nd):List Nd:=r++[setL n ((r.length:Nat)-1)]
def zqZ(r s:List Nd)(n:Nd):List Nd:=r++zec s (r.length:Nat)++[zd6 n ((r.length:Nat)-1) ((r.length:Nat)+(s.length:Nat)-1)]
set_option maxRecDepth 10000
theorem zck{α:Type}{l m:List α}{z:α}{j:Nat}(h:j<l.length):(l++m).getD j z=l.getD j z:=by
 rw[zH,zH,List.getElem?_append_left h]
theorem zb5{α:Type}{l m:List α}{z:α}{j:Nat}:(l++m).getD (l.length+j) z=m.getD j z:=by
 rw[zH,zH,List.getElem?_append_right (Nat.le_add_right ..),Nat.add_sub_cancel_left]
theorem zqY(x y:List Int):bump (x++(0::y)) ((x.length:Nat):Int)=x++(1::y):=by
 unfold bump;rw[zS];have:(x++(0::y)).getD x.length 0=0:=by
  have:=zb5 (l:=x) (m:=0::y) (z:=(0:Int)) (j:=0);rw[Nat.add_zero]at this;rw[this];rfl
 rw[this,qW _ _ (zu _),vD];rfl
theorem zhi{x y z w:List Int}{i:Int}(hz:z=x++(0::y))(hi:i=((x.length:Nat):Int))(hw:w=x++(1::y)):bump z i=w:=by rw[hz,hi,hw,zqY]
theorem zit(n:Nat)(x:Int)(q:List Int):zg n x++(x::q)=zg (n+1) x++q:=by
 rw[List.replicate_succ',zB];rfl
theorem ziu{n:Nat}(h:1<=n)(q:List Int):zg (n-1) (1:Int)++(1::q)=zg n 1++q:=by
 rw[zit,show n-1+1=n by omega]
theorem zeU:∀(t:Tr)(b:Nat)(p q:List Int),TrOk t->p.length=b->(t.flat b).foldl zbE (p++(zg t.size 0++q))=p++(zg (t.size-1) 1++(0::q))
 |.leaf n,b,p,q,h,hp=>by
  obtain⟨h1,h2,hR,hL⟩:=h;obtain⟨hk,_⟩:=zcc h1;show zbE _ n=_;unfold zbE;rw[zlR hk h2];rfl
 |.un n a,b,p,q,h,hp=>by
  obtain⟨h1,h2,x1,ha⟩:=h;have hs:=a.size_pos;show(a.flat b++[_]).foldl zbE (p++(zg (a.size+1) 0++q))=p++(zg (a.size+1-1) 1++(0::q));rw[kV, <-zit,zeU a b p (0::q) ha hp];show zbE _ (setL n ((b+a.size:Nat)-1))=_;unfold zbE;have ho:opsN (setL n ((b+a.size:Nat)-1))=1:=zry (n:=setL n ((b+a.size:Nat)-1)) h2;rw[ho,decide_eq_false d_,decide_eq_true d_,cond_false,cond_true];refine zhi (x:=p++zg (a.size-1) 1) (y:=0::q) (by rw[zB]) ?_ ?_
  .rw[zl,qf,hp];show((b+a.size:Nat):Int)-1=_;omega
  .rw[zB,ziu hs,fc]
 |.bin n a c,b,p,q,h,hp=>by
  obtain⟨h1,h2,x1,ha,hc⟩:=h;have hs:=a.size_pos;have x0:=c.size_pos;show(a.flat b++c.flat (b+a.size)++[_]).foldl zbE (p++(zg (a.size+c.size+1) 0++q))=p++(zg (a.size+c.size+1-1) 1++(0::q));have e1:p++(zg (a.size+c.size+1) (0:Int)++q)=p++(zg a.size 0++(zg c.size 0++(0::q))):=by
   rw[<-zit, <-kj,zB]
  rw[kV,kV,e1,zeU a b p _ ha hp];have e2:p++(zg (a.size-1) (1:Int)++(0::(zg c.size 0++(0::q))))=(p++(zg (a.size-1) 1++[0]))++(zg c.size 0++(0::q)):=by simp
  rw[e2,zeU c (b+a.size) _ _ hc (by rw[zl,zl,qf,hp,qy];omega)];show zbE _ (zd6 n ((b+a.size:Nat)-1) ((b+a.size+c.size:Nat)-1))=_;unfold zbE;have ho:opsN (zd6 n ((b+a.size:Nat)-1) ((b+a.size+c.size:Nat)-1))=2:=zn0 (n:=zd6 n ((b+a.size:Nat)-1) ((b+a.size+c.size:Nat)-1)) h2;rw[ho,decide_eq_true d_,cond_true];have eL:bump ((p++(zg (a.size-1) 1++[0]))++(zg (c.size-1) 1++(0::(0::q)))) (ndL (zd6 n ((b+a.size:Nat)-1) ((b+a.size+c.size:Nat)-1)))=p++zg (a.size-1) 1++(1::(zg (c.size-1) 1++(0::0::q))):=by
   refine zhi (x:=p++zg (a.size-1) 1) (y:=zg (c.size-1) 1++(0::0::q)) (by simp) ?_ rfl;rw[zl,qf,hp];show((b+a.size:Nat):Int)-1=_;omega
  rw[eL];refine zhi (x:=p++zg (a.size-1) 1++(1::zg (c.size-1) 1)) (y:=0::q) (by simp) ?_ ?_
  .rw[zl,zl,yT,qf,qf,hp];show((b+a.size+c.size:Nat):Int)-1=_;omega
  .rw[fc,zB,zB,List.cons_append,ziu hs,ziu x0, <-zB (zg a.size 1),kj]
theorem zes:∀(t:Tr)(b:Nat),TrOk t->∀j,j<t.size->zbR ((t.flat b).getD j zNd) ((b+j:Nat):Int)=true
 |.leaf n,b,h,j,hj=>by
  obtain⟨h1,h2,hR,hL⟩:=h;have hj:j<1:=hj;obtain rfl:j=0:=o_;obtain⟨hk,_⟩:=zcc h1;show zbR n _=true;unfold zbR;rw[h1,(zp8 hk h2).2 ⟨by by_cases e:ndK n=7;exact .inr e;exact .inl (hL e),hR⟩];rfl
 |.un n a,b,h,j,hj=>by
  obtain⟨h1,h2,x0,ha⟩:=h;have hs:=a.size_pos;have x1:=jY a b;have hj:j<a.size+1:=hj;show zbR ((a.flat b++[setL n ((b+a.size:Nat)-1)]).getD j zNd) _=true;by_cases e:j<a.size
  .rw[zck o_];exact zes a b ha j e
  .obtain rfl:j=(a.flat b).length+0:=o_;rw[zb5];show zbR (setL n ((b+a.size:Nat)-1)) _=true;have e1:zcl (setL n ((b+a.size:Nat)-1))=true:=by
    have:=zml (n:=n) o_ ((b+a.size:Nat)-1) (ndR n);rw[h1]at this;exact this
   unfold zbR;rw[e1,(zur (n:=setL n ((b+a.size:Nat)-1)) h2).2 ⟨⟨by show(0:Int)<=((b+a.size:Nat):Int)-1;omega,by show((b+a.size:Nat):Int)-1<=_;omega⟩,x0.2⟩];rfl
 |.bin n a c,b,h,j,hj=>by
  obtain⟨h1,h2,x0,ha,hc⟩:=h;have hs:=a.size_pos;have x2:=c.size_pos;have x1:=jY a b;have x3:=jY c (b+a.size);have hj:j<a.size+c.size+1:=hj;show zbR ((a.flat b++c.flat (b+a.size)++[zd6 n ((b+a.size:Nat)-1) ((b+a.size+c.size:Nat)-1)]).getD j zNd) _=true;by_cases e:j<a.size
  .rw[zB,zck o_];exact zes a b ha j e
  .by_cases e2:j<a.size+c.size
   .obtain⟨i,rfl⟩:∃i,j=(a.flat b).length+i:=⟨j-a.size,by omega⟩;rw[zB,zb5,zck o_];have:=zes c (b+a.size) hc i o_;rwa[show b+((a.flat b).length+i)=b+a.size+i by omega]
   .obtain rfl:j=(a.flat b++c.flat (b+a.size)).length+0:=by rw[zl];omega
    rw[zb5];show zbR (zd6 n ((b+a.size:Nat)-1) ((b+a.size+c.size:Nat)-1)) _=true;have e1:=zml (n:=n) o_ ((b+a.size:Nat)-1) ((b+a.size+c.size:Nat)-1);rw[h1]at e1;unfold zbR;rw[e1,(zsI (n:=zd6 n ((b+a.size:Nat)-1) ((b+a.size+c.size:Nat)-1)) h2).2 ⟨⟨by show(0:Int)<=((b+a.size:Nat):Int)-1;omega,by show((b+a.size:Nat):Int)-1<=_;omega⟩,⟨by show(0:Int)<=((b+a.size+c.size:Nat):Int)-1;omega,by show((b+a.size+c.size:Nat):Int)-1<=_;omega⟩⟩];rfl
theorem zqF{n:Nd}(h:zcl n=true):(ndS n).length<=32:=by
 obtain⟨_,_,_,h,_⟩:=zcc h;unfold zhy at h;cases hk:(ndK n==18) with
 |true=>
  rw[hk]at h;have h:zfH (ndS n)=true:=h;unfold zfH at h;simp only[zh,decide_eq_true_iff]at h;exact h.1.2
 |false=>
  rw[hk]at h;have h:=of_decide_eq_true h;rw[h];decide
theorem zkn{r:List Nd}(h:wfS r=true):zdi r=0:=by
 obtain⟨⟨h1,h2⟩,h3,_⟩:=zlx h;unfold zdi;rw[if_neg,if_pos h];rintro (h4|h4)
 .omega
 .obtain⟨x,hx,hb⟩:=List.any_eq_true.1 h4;obtain⟨j,hj,rfl⟩:=wc hx;have hf:=(zgd h3 hj).1;rw[zh2,zH,zR hj]at hf;have hf:zcl r[j]=true:=hf;have h5:=(zcc hf).2.1;have h6:=zqF hf;unfold bigN at hb;rw[xO,decide_eq_true_iff,decide_eq_true_iff]at hb;unfold ndI at h5;unfold ndS at h6;omega
theorem zr4{t:Tr}(h:TrOk t)(hs:t.size<=64):wfS (t.flat 0)=true:=by
 have hl:=jY t 0;have hp:=t.size_pos;unfold wfS;have hu:zdj (t.flat 0) (t.flat 0).length=zg (t.size-1) 1++[0]:=by
  unfold zdj;rw[yX,hl];have:=zeU t 0 [] [] h rfl;rw[qn,qn,yE]at this;exact this
 rw[hu,hl,decide_eq_true hp,decide_eq_true hs,zcj.2 (λj hj=>by have:=zes t 0 h j hj;rwa[xV]at this)];have:(zg (t.size-1) (1:Int)++[0]).take (t.size-1)=zg (t.size-1) 1:=by
  have:=qQ (l₁:=zg (t.size-1) (1:Int)) (l₂:=[0]);rwa[qf]at this
 rw[this];have:(zg (t.size-1) (1:Int)).any not1=false:=by
  rw[List.any_eq_false];intro x hx;rw[uw hx];decide
 rw[this];rfl
def cMod:Ctr:={ args:=[i64,i64],pre:=λx=>[0<x.2.1,x.2.1<=1000000000],res:=i64,own:=none,out:=λx=>x.1%x.2.1 }
theorem zuy:yQ zf gmG 49 cMod:=by
 refine ctr2 zar Tryz.func49 Tryz.call49 ?_;rintro w0 X hX ⟨(a:Int),(b:Int),_⟩ hp;obtain⟨h0,h1⟩:0<b/\b<=1000000000:=by
  simp only[cMod,allP]at hp
  simpa using hp
 change AWP _ _ _ _ _ ⟨[(0,⟨i64,a⟩),(1,⟨i64,b⟩)],[],0⟩ _;have hn:b≠0:=o_
 iterate 3 (refine zaa (zaa (zab zar ?_)))
 have x2:=fd a h0;have x3: -b<a.tmod b:=by
  have h2:=Int.natAbs_tmod a b;have h3:a.natAbs%b.natAbs<b.natAbs:=Nat.mod_lt _ o_;omega
 have x0:a%b=if a.tmod b<0 then a.tmod b+b else a.tmod b:=by
  have e1:=Int.emod_nonneg a hn;have e2:=fe a h0;have e3:a=b*a.tdiv b+a.tmod b:=(Int.mul_tdiv_add_tmod a b).symm;split
  .rename_i x1;have:a=(a.tmod b+b)+b*(a.tdiv b-1):=by rw[Int.mul_sub];omega
   conv=>lhs;rw[this]
   rw[wE];exact jR o_ o_
  .conv=>lhs;rw[e3]
   rw[Int.add_comm,wE];exact jR o_ o_
 refine zaN rfl (λhb=>?_) (λhb=>?_)
 .have hb:a.tmod b<0:=hb;have q0:inR .i64 (a.tmod b+b):=zah o_ o_;refine zaa (zaa (zab zar ?_));(repeat refine zaa (zaa (zab zar ?_)));refine zaa ?_;refine zC ⟨.inr rfl,D1 ?_⟩;show a.tmod b+b=a%b;rw[x0,if_pos hb]
 .
  apply zaf;(repeat refine zaa (zaa (zab zar ?_)));refine zaa ?_;refine zC ⟨.inr rfl,D1 ?_⟩;show a.tmod b=a%b;rw[x0,if_neg hb]
def cTwo:Ctr:={ args:=[i64],pre:=λ_=>[],res:=.bool,own:=none,out:=λx=>two x.1 }
theorem zrm:yQ zf gmG 98 cTwo:=by
 refine ctr2 zar Tryz.func98 Tryz.call98 ?_;rintro w0 X hX ⟨k,_⟩ hp
 iterate 2 (refine zaa (zaa (zab zar ?_)))
 refine zC ⟨.inr rfl,D1 ?_⟩;rw[b_or,b_or,b_or];rfl
theorem zmo{n:Nat}(h:10<=n):qH n=qH (n/10)++[zM (48+n%10)]:=by
 conv=>lhs;rw[qH]
 rw[dif_neg o_]
theorem zmp{n:Nat}(h:n<10):qH n=[zM (48+n)]:=by rw[qH,dif_pos h]
theorem zrH(n:Nat):zM ((48+((n:Int)).tmod 10)%256).toNat=zM (48+n%10):=by
 have:((n:Int)).tmod 10=((n%10:Nat):Int):=rfl;rw[this]
 congr 1
 omega
theorem vS{x y:List UInt8}(h:x=y):(⟨.str,x⟩:V)=⟨.str,y⟩:=by rw[h]
def ztv:Ctr:={ args:=[i64],pre:=λx=>[0<=x.1,x.1<100000000000000000],res:=.str,own:=none,out:=λx=>deI x.1 }
theorem zk3:yQ zf gmG 115 ztv:=by
 refine ctr2 zar Tryz.func115 Tryz.call115 ?_;rintro w0 X hX ⟨(n:Int),_⟩ hp;obtain⟨h0,h1⟩:0<=n/\n<100000000000000000:=by
  simp only[ztv,allP]at hp
  simpa using hp
 change AWP _ _ _ _ _ ⟨[(0,⟨i64,n⟩)],[],0⟩ _
 iterate 2 (refine zaa (zaa (zab zar ?_)))
 refine zae rfl (λhb=>?_) (λ_=>?_)
 .have hb:decide (n<0)=true:=hb;have:=of_decide_eq_true hb;omega
 apply zaf;have tm:∀x:Int,0<=x->0<=x.tmod 10/\x.tmod 10<10:=λx hx=>⟨Int.tmod_nonneg _ hx,fd _ d_⟩;have hm:=tm n h0;have i1:inR .i64 (48+n.tmod 10):=zah o_ o_;refine zaa (zaa (zab zar ?_));have td:∀x:Nat,((x:Int)).tdiv 10=((x/10:Nat):Int):=λx=>(Int.ofNat_tdiv ..);obtain⟨N,rfl⟩:∃N:Nat,n=(N:Int):=⟨n.toNat,by omega⟩;have hlen:=zk4 o_ h1;have x2:deI (N:Int)=qH N:=by
  unfold deI Lib.itoa;rw[if_neg o_,zS]
 have i2:inR .i64 (((N:Int)).tdiv 10):=by rw[td];exact zah o_ o_
 refine zaa (zaa (zab zar ?_));refine zaa (zaa ?_);refine yK (ι:=Nat×List UInt8) (λp=>⟨[(0,⟨i64,(p.1:Int)⟩),(3,⟨.str,p.2⟩)],[],1⟩) (λp=>p.1<=N/10/\deI (N:Int)=if p.1=0 then p.2 else qH p.1++p.2) (λp=>p.1) (N/10,[zM (48+N%10)]) ⟨zu _,?_⟩ ⟨⟨vI64 (td N),vS ?_,t_⟩,t_,rfl,rfl⟩ ?_
 .rw[x2];by_cases x0:N<10
  .rw[if_pos o_,zmp x0,qg x0]
  .rw[if_neg o_,zmo o_]
 .show [zM ((48+((N:Int)).tmod 10)%256).toNat]=_;rw[zrH]
 rintro ⟨m,s⟩ ⟨x1,hd⟩;have hd:deI (N:Int)=if m=0 then s else qH m++s:=hd
 refine zaa (zaa (zab zar ?_));refine zaN rfl (λhb=>?_) (λhb=>?_)
 .have hb:(m:Int)>0:=hb;rw[if_neg o_]at hd;have x4:s.length<=18:=by rw[hd,zl]at hlen;omega
  have x3:=tm (m:Int) o_;have j1:inR .i64 (48+((m:Int)).tmod 10):=zah o_ o_;have j2:1+s.length<=maxLen:=by unfold maxLen;omega
  have j3:inR .i64 (((m:Int)).tdiv 10):=by rw[td];exact zah o_ o_
  iterate 2 (refine zaa (zaa (zab zar ?_)))
  refine⟨(m/10,[zM (48+m%10)]++s),⟨by show m/10<=N/10;omega,?_⟩,by show m/10<m;omega,⟨vI64 (td m),vS ?_,t_⟩,t_,rfl,rfl⟩
  .rw[hd];by_cases x0:m<10
   .rw[if_pos o_,zmp x0,qg x0]
   .rw[if_neg o_,zmo o_,zB]
  .show [zM ((48+((m:Int)).tmod 10)%256).toNat]++s=_;rw[zrH]
 .
  rw[if_pos o_]at hd;(repeat refine zaa (zaa (zab zar ?_)));refine zaa ?_;refine zC ⟨.inr rfl,D1 ?_⟩;exact hd.symm
def cDec:Ctr:={ args:=[i64],pre:=λx=>[zvJ x.1],res:=.str,own:=none,out:=λx=>deI x.1 }
def kDec:Kn:={ gmK with C:=[(115,ztv)] }
theorem zkS:KnOk zf gmG kDec:=zar.with (.cons zk3 .nil)
theorem zuY:yQ zf gmG 115 cDec:=by
 refine⟨zk3.1,λw O xs vs hO hr hp hG=>?_⟩;obtain⟨(n:Int),_⟩:=xs;obtain⟨h0,h1⟩: -100000000000000000<n/\n<100000000000000000:=hp;by_cases hn:0<=n
 .exact zk3.2 w O _ vs hO hr ⟨hn,h1⟩ hG
 .have key:yQ zf gmG 115 { cDec with pre:=λx=>[-100000000000000000<x.1,x.1<0] }:=by
   refine ctr2 zkS Tryz.func115 Tryz.call115 ?_;rintro w0 X hX ⟨(n:Int),_⟩ hp;obtain⟨h0,h1⟩: -100000000000000000<n/\n<0:=hp;change AWP _ _ _ _ _ ⟨[(0,⟨i64,n⟩)],[],0⟩ _
   iterate 2 (refine zaa (zaa (zab zkS ?_)))
   refine zae rfl (λ_=>?_) (λhb=>?_)
   .have i1:inR .i64 (-n):=zah o_ o_;have i2:0<= -n:=o_;have i3: -n<100000000000000000:=o_;have hl:(deI (-n)).length<=18:=zk4 o_ o_;have i4:1+(deI (-n)).length<=maxLen:=by unfold maxLen;omega
    refine zaa (zaa (zab zkS ?_));refine zC ⟨.inr rfl,D1 ?_⟩;show [45]++deI (-n)=deI n;unfold deI Lib.itoa;rw[if_neg o_,if_pos o_,show n.natAbs=(-n).toNat by omega];rfl
   .have hb:decide (n<0)=false:=hb;have:=of_decide_eq_false hb;omega
  have x0:n<0:=o_;exact key.2 w O _ vs hO hr ⟨h0,x0⟩ hG
theorem bufN{te:zy}{x y:List Nd}(h:x=y):some (OObj.buf te nd x)=some (OObj.buf te nd y):=by rw[h]
def zvf:Ctr:={ args:=[.slice nd,nd],pre:=λx=>[zp x.1<=1000000],res:=.slice nd,own:=none,out:=λx=>zp6 x.1 x.2.1 }
theorem zsH:yQ zf gmG 101 zvf:=by
 refine ctr2 zar Tryz.func101 Tryz.call101 ?_;rintro w0 X hX ⟨(r:List Nd),(n:Nd),_⟩ hp;have hl:r.length<=1000000:=hp;change AWP _ _ _ _ _ ⟨[(0,⟨.slice nd,r⟩),(1,⟨nd,n⟩)],[],0⟩ _;have i1:inR .i64 (((r.length:Nat):Int)-1):=zah o_ o_;have i2:0+r.length<=1000000000:=o_;have i3:zp ([]++r)+1<=1000000000:=by rw[qn];omega
 iterate 4 (refine zaa (zaa (zab zar ?_)))
 refine vo hX 4 ?_;refine zC ⟨.inr rfl,D1 ?_⟩;rfl
def zrN:Ctr:={ args:=[.slice nd,i64],pre:=λx=>[zp x.1<=1000000,0<=x.2.1,x.2.1<=1000000,∀n∈(x.1:List Nd),(-1000000<=ndL n/\ndL n<=1000000)/\(-1000000<=ndR n/\ndR n<=1000000)],res:=.slice nd,own:=none,out:=λx=>zec x.1 x.2.1 }
def kMvd:Kn:={ gmK with C:=[(98,cTwo)] }
theorem zde:KnOk zf gmG kMvd:=zar.with (.cons zrm .nil)
theorem zqf:yQ zf gmG 116 zrN:=by
 refine ctr2 zde Tryz.func116 Tryz.call116 ?_;rintro w0 X hX ⟨(r:List Nd),(b:Int),_⟩ hp;obtain⟨hl,b0,b1,hn⟩:r.length<=1000000/\0<=b/\b<=1000000/\∀n∈r,(-1000000<=ndL n/\ndL n<=1000000)/\(-1000000<=ndR n/\ndR n<=1000000):=hp;change AWP _ _ _ _ _ ⟨[(0,⟨.slice nd,r⟩),(1,⟨i64,b⟩)],[],0⟩ _;have i2:0+r.length<=1000000000:=o_
 iterate 3 (refine zaa (zaa (zab zde ?_)))
 refine zaa (zaa ?_);refine yK (ι:=Nat) (λi=>⟨[(1,⟨i64,b⟩),(5,⟨.obuf nd,(0:Nat)⟩),(6,⟨i64,(i:Int)⟩)],[(0,some (.buf 104 nd ((r.take i).map (zb8 b)++r.drop i)))],1⟩) (λi=>i<=r.length) (λi=>r.length-i) 0 (zk _) ⟨⟨rfl,rfl,rfl,t_⟩,⟨bufN ?_,t_⟩,rfl,rfl⟩ ?_
 .rfl
 intro i hi;have hlen:((r.take i).map (zb8 b)++r.drop i).length=r.length:=by rw[zl,qY,zP,yY];omega
 refine zaa (zaa (zab zde ?_));refine zaN rfl (λhb=>?_) (λhb=>?_)
 .have hb:(i:Int)<((((r.take i).map (zb8 b)++r.drop i).length:Nat):Int):=hb;rw[hlen]at hb;have x2:i<r.length:=o_;have z0:(0:Int)<=(i:Int):=o_;have x9:r.drop i=r[i]::r.drop (i+1):=xR x2;have xb:((r.take i).map (zb8 b)).length=i:=by rw[qY,zP];omega
  obtain⟨⟨q1,q2⟩,⟨q3,q4⟩⟩:=hn r[i] (qc x2);rw[x9]at hlen ⊢;have x8:(r.take (i+1)).map (zb8 b)=(r.take i).map (zb8 b)++[zb8 b r[i]]:=by rw[zN x2,xX];rfl
  generalize (r.take i).map (zb8 b)=p at *;generalize x6:r.drop (i+1)=q at *;generalize r[i]=n at *;have z1:(i:Int)<(((p++n::q).length:Nat):Int):=by rw[hlen];omega
  have hget:(p++n::q).getD ((i:Int)).toNat zNd=n:=by
   have:=zb5 (l:=p) (m:=n::q) (z:=zNd) (j:=0);rw[zS,show i=p.length+0 by omega,this];rfl
  have x5:∀x,(p++n::q).set ((i:Int)).toNat x=p++x::q:=λx=>by
   rw[zS,qW _ _ o_,show i-p.length=0 by omega];rfl
  have i3:inR .i64 (ndL n+b):=zah o_ o_;have i4:inR .i64 (ndR n+b):=zah o_ o_;have xa:inR .i64 (ndL ((p++n::q).getD ((i:Int)).toNat zNd)+b):=by rw[hget];exact i3
  refine zaa (zaa (zab zde ?_));refine za1 (Y':=⟨[(1,⟨i64,b⟩),(5,⟨.obuf nd,(0:Nat)⟩),(6,⟨i64,(i:Int)⟩)],[(0,some (.buf 104 nd (p++(if 8<=ndK n/\ndK n<=17 then setL n (ndL n+b) else n)::q)))],1⟩) ?_ ?_
  .have hq:(bif decide (ndK ((p++n::q).getD ((i:Int)).toNat zNd)>=8) then decide (ndK ((p++n::q).getD ((i:Int)).toNat zNd)<=17) else false)=decide (8<=ndK n/\ndK n<=17):=by
    rw[hget,zq6,qA,zh,decide_eq_true_iff,decide_eq_true_iff,decide_eq_true_iff]
   refine zae rfl (λhc=>?_) (λhc=>?_)
   .have hc:=of_decide_eq_true (hq.symm.trans hc);refine zaa (zaa (zab zde ?_));refine⟨⟨rfl,rfl,rfl,t_⟩,⟨bufN ?_,t_⟩,rfl,rfl⟩;refine(x5 _).trans ?_;rw[if_pos hc];show p++(setL ((p++n::q).getD ((i:Int)).toNat zNd) (ndL ((p++n::q).getD ((i:Int)).toNat zNd)+b))::q=_;rw[hget]
   .have hc:=of_decide_eq_false (hq.symm.trans hc);apply zaf;rw[if_neg hc];exact⟨⟨rfl,rfl,rfl,t_⟩,⟨rfl,t_⟩,rfl,rfl⟩
  generalize x4:(if 8<=ndK n/\ndK n<=17 then setL n (ndL n+b) else n)=n1;have hK:ndK n1=ndK n:=by rw[<-x4];split<;>rfl
  have hR:ndR n1=ndR n:=by rw[<-x4];split<;>rfl
  have x1:(p++n1::q).length=r.length:=by rw[<-hlen];simp
  have y1:(i:Int)<(((p++n1::q).length:Nat):Int):=by rw[x1];omega
  have y2:((i:Int)).toNat<(p++n1::q).length:=by rw[x1];omega
  have x0:(p++n1::q).getD ((i:Int)).toNat zNd=n1:=by
   have:=zb5 (l:=p) (m:=n1::q) (z:=zNd) (j:=0);rw[zS,show i=p.length+0 by omega,this];rfl
  have x3:∀x,(p++n1::q).set ((i:Int)).toNat x=p++x::q:=λx=>by
   rw[zS,qW _ _ o_,show i-p.length=0 by omega];rfl
  have xc:inR .i64 (ndR ((p++n1::q).getD ((i:Int)).toNat zNd)+b):=by rw[x0,hR];exact i4
  refine zaa (zaa (zab zde ?_));have x7:zb8 b n=if two (ndK n)=true then zd6 n1 (ndL n1) (ndR n1+b) else n1:=by
   rw[<-x4];unfold zb8;obtain⟨k,c,L,R,rest⟩:=n;by_cases h8:8<=k/\k<=17
   .rw[if_pos h8,if_pos (c:=8<=ndK (k,c,L,R,rest)/\ndK (k,c,L,R,rest)<=17) h8];cases ht:two k with
    |true=>rw[if_pos (c:=two (ndK (k,c,L,R,rest))=true) ht];rfl
    |false=>rw[if_neg (c:=two (ndK (k,c,L,R,rest))=true) (by show ¬two k=true;rw[ht];decide)];rfl
   .rw[if_neg h8,if_neg (c:=8<=ndK (k,c,L,R,rest)/\ndK (k,c,L,R,rest)<=17) h8];cases ht:two k with
    |true=>rw[if_pos (c:=two (ndK (k,c,L,R,rest))=true) ht];rfl
    |false=>rw[if_neg (c:=two (ndK (k,c,L,R,rest))=true) (by show ¬two k=true;rw[ht];decide)];rfl
  have hq:two (ndK ((p++n1::q).getD ((i:Int)).toNat zNd))=two (ndK n):=by rw[x0,hK]
  refine zae rfl (λhc=>?_) (λhc=>?_)
  .have hc:=hq.symm.trans hc;refine zaa (zaa (zab zde ?_));refine zaa (zaa (zac hX zde rfl ?_ ?_))
   .exact zaP o_
   refine⟨i+1,x2,by omega,⟨rfl,rfl,zce _,t_⟩,⟨bufN ?_,t_⟩,rfl,rfl⟩;refine(x3 _).trans ?_;rw[x8,x7,if_pos hc,zB,x6];show p++(zd6 ((p++n1::q).getD ((i:Int)).toNat zNd) (ndL ((p++n1::q).getD ((i:Int)).toNat zNd)) (ndR ((p++n1::q).getD ((i:Int)).toNat zNd)+b))::q=_;rw[x0];rfl
  .have hc:=hq.symm.trans hc;apply zaf;refine zaa (zaa ?_);refine zac hX zde rfl ?_ ?_
   .exact zaP o_
   refine⟨i+1,x2,by omega,⟨rfl,rfl,zce _,t_⟩,⟨bufN ?_,t_⟩,rfl,rfl⟩;rw[x8,x7,if_neg (by rw[hc];decide),zB,x6];rfl
 .have hb:¬((i:Int)<((((r.take i).map (zb8 b)++r.drop i).length:Nat):Int)):=hb;rw[hlen]at hb;obtain rfl:i=r.length:=o_;apply zan;refine vo hX 5 ?_;refine zaa (zaa (zab zde ?_));refine zC ⟨.inr rfl,D1 ?_⟩;rw[yX,List.drop_length,yE];rfl
def zvr:Ctr:={ args:=[.slice nd,.slice nd,nd],pre:=λx=>[1<=zp x.1,zp x.1<=100000,zp x.2.1<=100000,∀n∈(x.2.1:List Nd),(-1000000<=ndL n/\ndL n<=1000000)/\(-1000000<=ndR n/\ndR n<=1000000)],res:=.slice nd,own:=none,out:=λx=>zqZ x.1 x.2.1 x.2.2.1 }
def kBth:Kn:={ gmK with C:=[(116,zrN)] }
theorem zoF:KnOk zf gmG kBth:=zar.with (.cons zqf .nil)
theorem ztx:yQ zf gmG 99 zvr:=by
 refine ctr2 zoF Tryz.func99 Tryz.call99 ?_;rintro w0 X hX ⟨(a:List Nd),(c:List Nd),(n:Nd),_⟩ hp;obtain⟨h1,hl,x1,hn⟩:1<=a.length/\a.length<=100000/\c.length<=100000/\∀n∈c,(-1000000<=ndL n/\ndL n<=1000000)/\(-1000000<=ndR n/\ndR n<=1000000):=hp;change AWP _ _ _ _ _ ⟨[(0,⟨.slice nd,a⟩),(1,⟨.slice nd,c⟩),(2,⟨nd,n⟩)],[],0⟩ _;have i1:inR .i64 (((a.length:Nat):Int)-1):=zah o_ o_;have i2:inR .i64 (((a.length:Nat):Int)+((c.length:Nat):Int)):=zah o_ o_;have i3:inR .i64 (((a.length:Nat):Int)+((c.length:Nat):Int)-1):=zah o_ o_;have i4:0+a.length<=1000000000:=o_;have i5:c.length<=1000000:=o_;have i6:(0:Int)<=((a.length:Nat):Int):=o_;have i7:((a.length:Nat):Int)<=1000000:=o_;have x0:(zec c ((a.length:Nat):Int)).length=c.length:=by unfold zec;rw[qY]
 have i8:zp ([]++a)+(zec c ((a.length:Nat):Int)).length<=1000000000:=by rw[qn];omega
 have i9:zp ([]++a++zec c ((a.length:Nat):Int))+1<=1000000000:=by rw[qn,zl];omega
 iterate 6 (refine zaa (zaa (zab zoF ?_)))
 refine vo hX 6 ?_;refine zC ⟨.inr rfl,D1 ?_⟩;rfl
abbrev Mk:=List Int×Int×Int×Int×Unit
def mkD(m:Mk):List Int:=m.1
def mkU(m:Mk):Int:=m.2.1
def mkN(m:Mk):Int:=m.2.2.1
def mkS(m:Mk):Int:=m.2.2.2.1
def mkUp(m:Mk):Mk:=(mkD m,mkU m+1,mkN m,mkS m,())
def zad(m:Mk)(n:Int):Int×Mk:=(if mkU m+1>(((mkD m).length:Nat):Int) then 0 else(mkD m).getD (mkU m).toNat 0%n,mkUp m)
def ziY:RCtr:={ self:=mkr,args:=[i64],inv:=λ_ _=>True,pre:=λm xs=>[0<=mkU m,mkU m<=1000000,0<xs.1,xs.1<=1000000000],res:=i64,out:=λm xs=>(zad m xs.1).1,post:=λm xs=>(zad m xs.1).2 }
def kMd:Kn:={ gmK with C:=[(49,cMod)] }
theorem zjP:KnOk zf gmG kMd:=zar.with (.cons zuy .nil)
set_option maxHeartbeats 8000000 in
theorem zd9:RCtrOk zf gmG 16 ziY:=by
 refine zaW (K:=kMd) zjP Tryz.func16 rfl rfl Tryz.call16 rfl d_ (λw w' g hg h hk=>trivial) ?_;rintro w0 O g hX x0 ⟨(d:List Int),(u:Int),(nm:Int),(sz:Int),_⟩ ⟨(n:Int),_⟩ hp;obtain⟨h0,h1,h2,h3⟩:0<=u/\u<=1000000/\0<n/\n<=1000000000:=hp;change AWP _ _ _ _ _ ⟨[(0,⟨.optr mkr,⟨0,mkr,.here⟩⟩),(1,⟨i64,n⟩)],[(0,some (.box mkr (d,u,nm,sz,())))],1⟩ _;have i1:inR .i64 (u+1):=zah o_ o_;have i2:inR .i64 (u+1-1):=zah o_ o_;have i3:(0:Int)<=u+1-1:=o_
 iterate 2 (refine zaa (zaa (zab zjP ?_)))
 refine zaa (zaa (zcE 9 dM zjP rfl ?_));refine zaN rfl (λhb=>?_) (λhb=>?_)
 .have hb:u+1>((d.length:Nat):Int):=hb;refine zaa (zaa (zab zjP ?_));refine zC ⟨.inr rfl,rfl,D1 ?_⟩;exact(if_pos (show mkU (d,u,nm,sz,())+1>(((mkD (d,u,nm,sz,())).length:Nat):Int) from hb)).symm
 .have hb:¬(u+1>((d.length:Nat):Int)):=hb;apply zaf;have i4:u+1-1<((d.length:Nat):Int):=o_;have i5:(u+1-1).toNat<d.length:=o_;refine zaa (zaa (zcE 12 dM zjP rfl ?_));refine zC ⟨.inr rfl,rfl,D1 ?_⟩;show d.getD (u+1-1).toNat 0%n=_;refine Eq.trans ?_ (if_neg (show ¬mkU (d,u,nm,sz,())+1>(((mkD (d,u,nm,sz,())).length:Nat):Int) from hb)).symm;rw[show u+1-1=u by omega];rfl
theorem zao(m:Mk){n:Int}(h:0<n):0<=(zad m n).1/\(zad m n).1<n:=by
 unfold zad;split
 .exact⟨qs _,h⟩
 .exact⟨Int.emod_nonneg _ o_,fe _ h⟩
theorem zaC(m:Mk)(n:Int):mkU (zad m n).2=mkU m+1:=rfl
theorem zsR(m:Mk)(n:Int):mkN (zad m n).2=mkN m:=rfl
def mRis(lo hi:Int):Nat->Mk->Int->List Int->List Int×Mk
 |0,m,_,acc=>(acc,m)
 |k+1,m,v,acc=>if v<=hi then mRis lo hi k (zad m 3).2 (v+1+(zad m 3).1) (if v≠0\/0<=lo then acc++[v] else acc) else(acc,m)
def orHi(hi:Int)(p:List Int×Mk):List Int×Mk:=(if p.1.length=0 then [hi] else p.1,p.2)
def zaF(m:Mk)(lo hi:Int):List Int×Mk:=
 let p:=zad m 4
 let q:=zad p.2 (hi-lo+1)
 orHi hi (mRis lo hi (1+p.1).toNat q.2 (lo+q.1) [])
def zlf:RCtr:={ self:=mkr,args:=[i64,i64],inv:=λ_ _=>True,pre:=λm xs=>[0<=mkU m,mkU m<=900000,-1000<=xs.1,xs.1<=xs.2.1,xs.2.1<=1000],res:=ints,out:=λm xs=>(zaF m xs.1 xs.2.1).1,post:=λm xs=>(zaF m xs.1 xs.2.1).2 }
def kRi:Kn:={ gmK with R:=[(16,ziY)] }
theorem zdp:KnOk zf gmG kRi:=zar.withR (.cons zd9 (λ_ _=>trivial) .nil)
theorem zjt:RCtrOk zf gmG 100 zlf:=by
 refine zaW (K:=kRi) zdp Tryz.func100 rfl rfl Tryz.call100 rfl d_ (λw w' g hg h hk=>trivial) ?_;rintro w0 O g hX xb ⟨(d:List Int),(u:Int),(nm:Int),(sz:Int),_⟩ ⟨(lo:Int),(hi:Int),_⟩ hp;obtain⟨h0,h1,h2,h3,h4⟩:0<=u/\u<=900000/\ -1000<=lo/\lo<=hi/\hi<=1000:=hp;obtain⟨m,hm⟩:∃m:Mk,m=(d,u,nm,sz,()):=⟨_,rfl⟩;rw[<-hm];have h0:0<=mkU m:=by rw[hm];exact h0
 have h1:mkU m<=900000:=by rw[hm];exact h1
 change AWP _ _ _ _ _ ⟨[(0,⟨.optr mkr,⟨0,mkr,.here⟩⟩),(1,⟨i64,lo⟩),(2,⟨i64,hi⟩)],[(0,some (.box mkr m))],1⟩ _;clear hm;have hc:=zao m (n:=4) d_;have xc:=zaC m 4;obtain⟨c,xa⟩:∃k:Nat,(zad m 4).1=(k:Int):=⟨(zad m 4).1.toNat,by omega⟩;have xg:mkU m<=1000000:=o_;have i1:inR .i64 (1+(zad m 4).1):=zah o_ o_
 iterate 2 (refine zaa (zaa (zab zdp ?_)))
 have x4:1+(zad m 4).1=((c+1:Nat):Int):=o_;have e0:orHi hi (mRis lo hi (c+1) (zad (zad m 4).2 (hi-lo+1)).2 (lo+(zad (zad m 4).2 (hi-lo+1)).1) [])=zaF m lo hi:=by
  unfold zaF;simp only[x4,zS]
 have xe:=zao (zad m 4).2 (n:=hi-lo+1) o_;have xd:=zaC (zad m 4).2 (hi-lo+1);have j1:inR .i64 (hi-lo):=zah o_ o_;have j2:inR .i64 (hi-lo+1):=zah o_ o_;have j3:0<=mkU (zad m 4).2:=o_;have j4:mkU (zad m 4).2<=1000000:=o_;have j5:0<hi-lo+1:=o_;have j6:hi-lo+1<=1000000000:=o_;have j7:inR .i64 (lo+(zad (zad m 4).2 (hi-lo+1)).1):=zah o_ o_;refine zaa (zaa (zab zdp ?_));have u2:mkU (zad (zad m 4).2 (hi-lo+1)).2=mkU m+2:=o_;have v2:lo<=lo+(zad (zad m 4).2 (hi-lo+1)).1/\lo+(zad (zad m 4).2 (hi-lo+1)).1<=hi:=o_;refine zaa (zaa (zab zdp ?_));refine zeB hX 9 3 i64 rfl rfl rfl ?_;refine zaa (zaa (zab zdp ?_));have xi:c+1<=4:=o_;refine zak (Y':=⟨[(0,⟨.optr mkr,⟨0,mkr,.here⟩⟩),(1,⟨i64,lo⟩),(2,⟨i64,hi⟩),(7,⟨i64,((c+1:Nat):Int)⟩),(8,⟨i64,lo+(zad (zad m 4).2 (hi-lo+1)).1⟩),(9,⟨.obuf i64,(1:Nat)⟩),(10,⟨i64,(0:Int)⟩)],[(0,some (.box mkr (zad (zad m 4).2 (hi-lo+1)).2)),(1,some (.buf 3 i64 []))],2⟩) ⟨⟨rfl,rfl,rfl,vI64 x4,rfl,rfl,rfl,t_⟩,⟨rfl,rfl,t_⟩,rfl,rfl⟩ ?_;obtain⟨R,x1⟩:∃R,R=zaF m lo hi:=⟨_,rfl⟩;rw[<-x1]at e0;generalize (zad (zad m 4).2 (hi-lo+1)).2=m2 at *;generalize lo+(zad (zad m 4).2 (hi-lo+1)).1=v at *;clear hc xc xa xg i1 x4 xe xd j1 j2 j3 j4 j5 j6 j7;apply zaq;refine yK (ι:=Nat×Mk×Int×List Int) (λx=>⟨[(0,⟨.optr mkr,⟨0,mkr,.here⟩⟩),(1,⟨i64,lo⟩),(2,⟨i64,hi⟩),(7,⟨i64,((c+1:Nat):Int)⟩),(8,⟨i64,x.2.2.1⟩),(9,⟨.obuf i64,(1:Nat)⟩),(10,⟨i64,(((c+1)-x.1:Nat):Int)⟩)],[(0,some (.box mkr x.2.1)),(1,some (.buf 3 i64 x.2.2.2))],2⟩) (λx=>orHi hi (mRis lo hi x.1 x.2.1 x.2.2.1 x.2.2.2)=R/\x.1<=c+1/\mkU x.2.1=mkU m+2+((c+1-x.1:Nat):Int)/\(lo<=x.2.2.1/\x.2.2.1<=hi+3)/\x.2.2.2.length<=4-x.1) (λx=>x.1) (c+1,m2,v,[]) ⟨e0,zu _,?_,⟨v2.1,?_⟩,zk _⟩ ⟨⟨rfl,rfl,rfl,rfl,rfl,rfl,vI64 ?_,t_⟩,⟨rfl,rfl,t_⟩,rfl,rfl⟩ ?_
 .show mkU m2=mkU m+2+((c+1-(c+1):Nat):Int);omega
 .show v<=hi+3;omega
 .show(0:Int)=((c+1-(c+1):Nat):Int);omega
 rintro ⟨k,mk,w,acc⟩ ⟨hR,hk,hu,⟨x7,x5⟩,x2⟩;have hR:orHi hi (mRis lo hi k mk w acc)=R:=hR;have hk:k<=c+1:=hk;have hu:mkU mk=mkU m+2+((c+1-k:Nat):Int):=hu;have x7:lo<=w:=x7;have x5:w<=hi+3:=x5;have x2:acc.length<=4-k:=x2;clear e0 u2 v2;change AWP _ _ _ _ _ ⟨[(0,⟨.optr mkr,⟨0,mkr,.here⟩⟩),(1,⟨i64,lo⟩),(2,⟨i64,hi⟩),(7,⟨i64,((c+1:Nat):Int)⟩),(8,⟨i64,w⟩),(9,⟨.obuf i64,(1:Nat)⟩),(10,⟨i64,(((c+1)-k:Nat):Int)⟩)],[(0,some (.box mkr mk)),(1,some (.buf 3 i64 acc))],2⟩ _;have hq:(bif decide ((((c+1)-k:Nat):Int)<((c+1:Nat):Int)) then decide (w<=hi) else false)=decide (0<k/\w<=hi):=by
  rw[zq6,qA,zh,decide_eq_true_iff,decide_eq_true_iff,decide_eq_true_iff];omega
 refine zaa (zaa (zab zdp ?_));refine zae rfl (λhb=>?_) (λhb=>?_)
 .have hb:=of_decide_eq_true (hq.symm.trans hb);obtain⟨xj,x9⟩:=hb;obtain⟨k,rfl⟩:∃j,k=j+1:=⟨k-1,by omega⟩;have x3:orHi hi (mRis lo hi k (zad mk 3).2 (w+1+(zad mk 3).1) (if w≠0\/0<=lo then acc++[w] else acc))=R:=by
   rw[<-hR]
   conv=>rhs;rw[mRis,if_pos x9]
  have xh:=zao mk (n:=3) d_;have xk:=zaC mk 3;have q2:mkU mk<=1000000:=o_;have q3:inR .i64 (w+1):=zah o_ o_;have q4:inR .i64 (w+1+(zad mk 3).1):=zah o_ o_;have q5:inR .i64 ((((c+1)-(k+1):Nat):Int)+1):=zah o_ o_;have q6:acc.length+1<=1000000000:=o_;have x0:((((c+1)-(k+1):Nat):Int)+1)=(((c+1)-k:Nat):Int):=o_;have x8:(bif (!(w==0)) then true else decide (lo>=0))=decide (w≠0\/0<=lo):=by
   rw[b_or,qA,xO,decide_eq_true_iff,decide_eq_true_iff,xJ,beq_eq_false_iff_ne]
  refine zaa (zaa (zab zdp ?_));refine zae rfl (λhc=>?_) (λhc=>?_)
  .have hc:=of_decide_eq_true (x8.symm.trans hc);rw[if_pos hc]at x3
   iterate 3 (refine zaa (zaa (zab zdp ?_)))
   refine⟨(k,(zad mk 3).2,w+1+(zad mk 3).1,acc++[w]),⟨x3,by show k<=c+1;omega,?_,⟨?_,?_⟩,?_⟩,by show k<k+1;omega,⟨rfl,rfl,rfl,rfl,rfl,rfl,vI64 x0,t_⟩,⟨rfl,rfl,t_⟩,rfl,rfl⟩
   .show mkU (zad mk 3).2=mkU m+2+((c+1-k:Nat):Int);omega
   .show lo<=w+1+(zad mk 3).1;omega
   .show w+1+(zad mk 3).1<=hi+3;omega
   .show(acc++[w]).length<=4-k;rw[zl,qy];omega
  .have hc:=of_decide_eq_false (x8.symm.trans hc);rw[if_neg hc]at x3;apply zaf
   iterate 2 (refine zaa (zaa (zab zdp ?_)))
   refine⟨(k,(zad mk 3).2,w+1+(zad mk 3).1,acc),⟨x3,by show k<=c+1;omega,?_,⟨?_,?_⟩,?_⟩,by show k<k+1;omega,⟨rfl,rfl,rfl,rfl,rfl,rfl,vI64 x0,t_⟩,⟨rfl,rfl,t_⟩,rfl,rfl⟩
   .show mkU (zad mk 3).2=mkU m+2+((c+1-k:Nat):Int);omega
   .show lo<=w+1+(zad mk 3).1;omega
   .show w+1+(zad mk 3).1<=hi+3;omega
   .show acc.length<=4-k;omega
 .have hb:=of_decide_eq_false (hq.symm.trans hb);have xf:(mRis lo hi k mk w acc)=(acc,mk):=by
   cases k with
   |zero=>rfl
   |succ k=>rw[mRis,if_neg o_]
  rw[xf]at hR;apply zan;have x6:(((acc.length:Nat):Int)==0)=decide (acc.length=0):=by
   rw[qA,beq_iff_eq,decide_eq_true_iff];omega
  refine zaa (zaa (zab zdp ?_));refine zae rfl (λhc=>?_) (λhc=>?_)
  .have hc:=of_decide_eq_true (x6.symm.trans hc);refine zaa (zaa (zab zdp ?_));refine vo hX 9 ?_;refine zaa (zaa (zab zdp ?_));refine zC ⟨.inr rfl,?_,D1 ?_⟩
   .show some (OObj.box mkr mk)=some (OObj.box mkr (zaF m lo hi).2);rw[<-x1, <-hR];rfl
   .show acc++[hi]=(zaF m lo hi).1;rw[<-x1, <-hR];unfold orHi;rw[if_pos hc,ks.1 hc];rfl
  .have hc:=of_decide_eq_false (x6.symm.trans hc);apply zaf;refine vo hX 9 ?_;refine zaa (zaa (zab zdp ?_));refine zC ⟨.inr rfl,?_,D1 ?_⟩
   .show some (OObj.box mkr mk)=some (OObj.box mkr (zaF m lo hi).2);rw[<-x1, <-hR];rfl
   .show acc=(zaF m lo hi).1;rw[<-x1, <-hR];unfold orHi;rw[if_neg hc]
def zbx(m:Mk)(t:Int):mv.T×Mk:=
 if(zad m 3).1=1 then((t,true,0,0,0,()),(zad m 3).2)
 else((t,false,(zad (zad m 3).2 60).1,(zad (zad (zad m 3).2 60).2 1440).1,1+(zad (zad (zad (zad m 3).2 60).2 1440).2 300).1,()),(zad (zad (zad (zad m 3).2 60).2 1440).2 300).2)
def cMMv:RCtr:={ self:=mkr,args:=[i64],inv:=λ_ _=>True,pre:=λm xs=>[0<=mkU m,mkU m<=100000],res:=mv,out:=λm xs=>(zbx m xs.1).1,post:=λm xs=>(zbx m xs.1).2 }
def kMMv:Kn:={ gmK with R:=[(16,ziY)] }
theorem zee:KnOk zf gmG kMMv:=zar.withR (.cons zd9 (λ_ _=>trivial) .nil)
theorem zgS:RCtrOk zf gmG 54 cMMv:=by
 refine zaW (K:=kMMv) zee Tryz.func54 rfl rfl Tryz.call54 rfl d_ (λw w' g hg h hk=>trivial) ?_;rintro w0 O g hX x0 ⟨(D:List Int),(U0:Int),(N:Int),(S:Int),⟨⟩⟩ ⟨(t:Int),⟨⟩⟩ ⟨h1,h2⟩;have h1:0<=U0:=h1;have h2:U0<=100000:=h2;change AWP _ _ _ _ _ ⟨[(0,⟨.optr mkr,⟨0,mkr,.here⟩⟩),(1,⟨i64,t⟩)],[(0,some (.box mkr (D,U0,N,S,())))],1⟩ _;refine zaa (zaa (zab zee ?_));refine zaa (zaa (zab zee ?_ (hp:=by exact⟨h1,(by show U0<=1000000;omega),(by show(0:Int)<3;decide),(by show(3:Int)<=1000000000;decide)⟩)));refine zae rfl (λhb=>?_) (λhb=>?_)
 .have e:zbx (D,U0,N,S,()) t=((t,true,0,0,0,()),(zad (D,U0,N,S,()) 3).2):=if_pos (eq_of_beq hb);refine zaa (zaa (zab zee ?_));refine zC ⟨.inr rfl,?_,D1 ?_⟩
  .show some (OObj.box mkr _)=some (OObj.box mkr (zbx (D,U0,N,S,()) t).2);rw[e];rfl
  .show _=(zbx (D,U0,N,S,()) t).1;rw[e];rfl
 .have e:zbx (D,U0,N,S,()) t=((t,false,(zad (zad (D,U0,N,S,()) 3).2 60).1,(zad (zad (zad (D,U0,N,S,()) 3).2 60).2 1440).1,1+(zad (zad (zad (zad (D,U0,N,S,()) 3).2 60).2 1440).2 300).1,()),(zad (zad (zad (zad (D,U0,N,S,()) 3).2 60).2 1440).2 300).2):=if_neg (by exact ne_of_beq_false hb);have u1:0<=mkU (zad (D,U0,N,S,()) 3).2:=by show 0<=U0+1;omega
  have u2:mkU (zad (D,U0,N,S,()) 3).2<=1000000:=by show U0+1<=_;omega
  have u3:0<=mkU (zad (zad (D,U0,N,S,()) 3).2 60).2:=by show 0<=U0+1+1;omega
  have u4:mkU (zad (zad (D,U0,N,S,()) 3).2 60).2<=1000000:=by show U0+1+1<=_;omega
  have u5:0<=mkU (zad (zad (zad (D,U0,N,S,()) 3).2 60).2 1440).2:=by show 0<=U0+1+1+1;omega
  have u6:mkU (zad (zad (zad (D,U0,N,S,()) 3).2 60).2 1440).2<=1000000:=by show U0+1+1+1<=_;omega
  have u7:=zao (zad (zad (zad (D,U0,N,S,()) 3).2 60).2 1440).2 (n:=300) d_;have z1:inR .i64 (1+(zad (zad (zad (zad (D,U0,N,S,()) 3).2 60).2 1440).2 300).1):=zah o_ o_;refine zaa (zaa (zab zee ?_ (hp:=by exact⟨u1,u2,(by show(0:Int)<60;decide),(by show(60:Int)<=1000000000;decide)⟩)));refine zaa (zaa (zab zee ?_ (hp:=by exact⟨u3,u4,(by show(0:Int)<1440;decide),(by show(1440:Int)<=1000000000;decide)⟩)));refine zaa (zaa (zab zee ?_ (hp:=by exact⟨u5,u6,(by show(0:Int)<300;decide),(by show(300:Int)<=1000000000;decide),z1⟩)));refine zaa (zaa (zab zee ?_));refine zC ⟨.inr rfl,?_,D1 ?_⟩
  .show some (OObj.box mkr _)=some (OObj.box mkr (zbx (D,U0,N,S,()) t).2);rw[e];rfl
  .show _=(zbx (D,U0,N,S,()) t).1;rw[e];rfl
section
variable {P:zA}{w0:zj}{X:Ownr}{n:Nat}{Y:AS}{Q:Exit->AS->Prop}{ops:Array Oper}
theorem zkj(j s:Nat)(b:Bool)(t:Ty)(y:t.T){z:Bool}{o:Oper}{rest:List Oper}(hg:o.guard=some (j,b))(hd:(ops[j]?).bind (·.dst)=some s)(hs:zr Y.F s=⟨.cond .bool,(false,z)⟩)(x3:zO s n=true){d:Nat}(x1:o.dst=some d)(x4:zO d n=true)(h:AL P w0 X n ops rest ⟨(d,⟨.cond t,(false,y)⟩)::Y.F,Y.E,Y.nx⟩ Q)(hb:bnd t y=0:=by rfl):AL P w0 X n ops (o::rest) Y Q:=by
 intro U a w x0;have hv:a.tmps.getD s undef=undef:=by
  have h2:=x0.fr s;rw[hs]at h2;exact h2.2 rfl
 have x2:s<a.tmps.size:=by rw[x0.sz];simpa using x3
 have hy:yielded ops a.tmps j=none:=by
  unfold yielded;rw[hd];have:a.tmps[s]? =some undef:=by
   rw[Array.getD_eq_getD_getElem?,xG x2]at hv;rw[xG x2];exact congrArg some hv
  show(match (a.tmps[s]?) with
   |some (.bool b)=>some b
   |_=>none)=none
  rw[this];rfl
 have hw:¬zX o (yielded ops a.tmps)=true:=by simp[zX,hg,hy]
 show if zX o (yielded ops a.tmps)=true then _ else _
 rw[if_neg hw];refine⟨λf _=>zem _ f,?_⟩;rw[x1];exact h _ _ _ (x0.put (zY _ _) (v:=⟨.cond t,(false,y)⟩) ⟨λh=>(by cases h),λ_=>rfl⟩ (by rw[show V.bound ⟨.cond t,(false,y)⟩=bnd t y from rfl,hb];exact zk _) (by simpa using x4))
end
def zcy(k:Int)(m:Mk):Bool×Mk:=if k=8 then(mkN m==0,m) else if k=6 then((zad m 2).1==0,(zad m 2).2) else(false,m)
def zd0(k:Int)(m:Mk)(ids:Int):Int×Mk:=if k≠1/\k≠5 then zad m ids else(0,m)
def zga(k c:Int)(m:Mk):Nd×Mk:=
 if k=1 then let p:=zad m 12;let q:=zad p.2 20;((1,c,0,0,1+p.1,q.1,[],[],()),q.2)
 else if k=2 then let p:=zad m 4;let q:=zad p.2 (1+p.1);((2,c,0,0,1+p.1,q.1,[],[],()),q.2)
 else if k=3 then let p:=zaF m 1 4;((3,c,0,0,0,0,p.1,[],()),p.2)
 else if k=4 then let p:=zaF m (-4) 7;((4,c,0,0,0,0,p.1,[],()),p.2)
 else if k=5 then let p:=zaF m 0 6;((5,c,0,0,0,0,p.1,[],()),p.2)
 else if k=6 then let p:=zaF m 1 4;((6,c,0,0,0,0,p.1,[],()),p.2)
 else let p:=zad m 3;let q:=zad p.2 2;let r:=zad q.2 7;let s:=zad r.2 2;((k,c,s.1,0,(if q.1=1 then -(1+p.1) else 1+p.1),r.1,[],[],()),s.2)
def lfK(k:Int)(b:Bool):Int:=bif b then 1 else k
def zh4(k:Int)(m:Mk)(ids:Int):Nd×Mk:=
 let q:=zcy k m
 if k=8/\mkN q.2>0 then let r:=zad q.2 (mkN q.2);((18,0,0,0,0,0,[],[110]++deI r.1,()),r.2)
 else zga (lfK k q.1) (zd0 (lfK k q.1) q.2 ids).1 (zd0 (lfK k q.1) q.2 ids).2
def zcJ(m:Mk)(ids:Int):Nd×Mk:=zh4 (1+(zad m 8).1) (zad m 8).2 ids
def zrO:RCtr:={ self:=mkr,args:=[i64],inv:=λ_ _=>True,pre:=λm xs=>[0<=mkU m,mkU m<=800000,0<=mkN m,mkN m<=1000000,0<xs.1,xs.1<=1000000],res:=nd,out:=λm xs=>(zcJ m xs.1).1,post:=λm xs=>(zcJ m xs.1).2 }
def kMl:Kn:={ gmK with C:=[(115,cDec)],R:=[(16,ziY),(100,zlf)] }
theorem zaS:KnOk zf gmG kMl:={ zar.with (.cons zuY .nil) with r:=.cons zd9 (λ_ _=>trivial) (.cons zjt (λ_ _=>trivial) .nil) }
abbrev sLf(m:Mk)(ids k:Int)(n:Nd):AS:=⟨[(0,⟨.optr mkr,⟨0,mkr,.here⟩⟩),(1,⟨i64,ids⟩),(4,⟨.optr nd,⟨1,nd,.here⟩⟩),(5,⟨i64,k⟩),(6,⟨.optr nd,⟨2,nd,.here⟩⟩)],[(0,some (.box mkr m)),(1,some (.box nd zNd)),(2,some (.box nd n))],3⟩
theorem zqg:RCtrOk zf gmG 97 zrO:=by
 refine zaW (K:=kMl) zaS Tryz.func97 rfl rfl Tryz.call97 rfl d_ (λw w' g hg h hk=>trivial) ?_;rintro w0 O g hX x5 (m:Mk) ⟨(ids:Int),_⟩ hp;obtain⟨h0,h1,h2,h3,h4,h5⟩:0<=mkU m/\mkU m<=800000/\0<=mkN m/\mkN m<=1000000/\0<ids/\ids<=1000000:=hp;change AWP _ _ _ _ _ ⟨[(0,⟨.optr mkr,⟨0,mkr,.here⟩⟩),(1,⟨i64,ids⟩)],[(0,some (.box mkr m))],1⟩ _;have a1:mkU m<=1000000:=o_;have hk:=zao m (n:=8) d_;have xc:=zaC m 8;have x1:=zsR m 8;have a2:inR .i64 (1+(zad m 8).1):=zah o_ o_
 iterate 3 (refine zaa (zaa (zab zaS ?_)))
 obtain⟨R,x0⟩:∃R,R=zcJ m ids:=⟨_,rfl⟩;have hR:R=zh4 (1+(zad m 8).1) (zad m 8).2 ids:=x0;refine zak (Y':=sLf (zad m 8).2 ids (1+(zad m 8).1) (1+(zad m 8).1,0,0,0,0,0,[],[],())) ⟨⟨rfl,rfl,rfl,rfl,rfl,t_⟩,⟨rfl,rfl,rfl,t_⟩,rfl,rfl⟩ ?_;generalize x6:1+(zad m 8).1=k at *;have x8:1<=k/\k<=8:=o_;generalize (zad m 8).2=m1 at *;have b1:0<=mkU m1:=o_;have b2:mkU m1<=1000000:=o_;clear hk x6 a1 a2;apply zap;refine za1 (Y':=sLf (zcy k m1).2 ids k (lfK k (zcy k m1).1,0,0,0,0,0,[],[],())) ?_ ?_
 .apply zap;refine zaj ?_;refine zat 3 zaS ?_;by_cases h8:k=8
  .subst h8;have e:zcy 8 m1=(mkN m1==0,m1):=rfl;rw[e]
   iterate 4 (refine ji 2 14 true rfl rfl rfl rfl ?_;refine kU 1 hX zaS rfl t_ ?_)
   refine ji 2 14 true rfl rfl rfl rfl ?_;refine zat 3 zaS ?_;by_cases hN:(mkN m1==0)=true
   .rw[hN];refine ut 9 21 false i64 0 rfl rfl (zcp hN) rfl rfl rfl ?_
    iterate 2 (refine ut 9 21 false .bool false rfl rfl (zcp hN) rfl rfl rfl ?_)
    iterate 2 (refine zkj 12 24 true i64 0 rfl rfl rfl rfl rfl rfl ?_)
    refine zkj 12 24 true .bool false rfl rfl rfl rfl rfl rfl ?_;refine ut 9 21 false .bool false rfl rfl (zcp hN) rfl rfl rfl ?_;refine AL.all hX zaS rfl (λhc=>absurd (show(!(mkN m1==0))=true from hc) (by rw[hN];decide)) ?_;refine zae rfl (λ_=>?_) (λhb=>?_)
    .refine zaa (zaa (zab zaS ?_));exact⟨⟨rfl,rfl,rfl,rfl,rfl,t_⟩,⟨rfl,rfl,rfl,t_⟩,rfl,rfl⟩
    .have hb:(bif (mkN m1==0) then true else false)=false:=hb;rw[hN]at hb;cases hb
   .have hN:(mkN m1==0)=false:=by simpa using hN
    rw[hN];refine j0 (Y':=⟨(21,⟨.bool,false⟩)::(sLf m1 ids 8 (8,0,0,0,0,0,[],[],())).F,(sLf m1 ids 8 (8,0,0,0,0,0,[],[],())).E,3⟩) ⟨⟨zcp hN,rfl,rfl,rfl,rfl,rfl,t_⟩,⟨rfl,rfl,rfl,t_⟩,rfl,rfl⟩ ?_
    iterate 3 (refine ji 9 21 false rfl rfl rfl rfl ?_;refine kU 1 hX zaS rfl t_ ?_)
    iterate 2 (refine ut 12 24 true i64 0 rfl rfl rfl rfl rfl rfl ?_)
    refine ut 12 24 true .bool false rfl rfl rfl rfl rfl rfl ?_;refine ji 9 21 false rfl rfl rfl rfl ?_;refine zau zaS ?_;refine zae rfl (λhb=>?_) (λ_=>?_)
    .have hb:false=true:=hb;cases hb
    apply zaf;exact⟨⟨rfl,rfl,rfl,rfl,rfl,t_⟩,⟨rfl,rfl,rfl,t_⟩,rfl,rfl⟩
  .have x3:(k==8)=false:=beq_false_of_ne h8;refine j0 (Y':=⟨(14,⟨.bool,false⟩)::(sLf m1 ids k (k,0,0,0,0,0,[],[],())).F,(sLf m1 ids k (k,0,0,0,0,0,[],[],())).E,3⟩) ⟨⟨zcp x3,rfl,rfl,rfl,rfl,rfl,t_⟩,⟨rfl,rfl,rfl,t_⟩,rfl,rfl⟩ ?_
   iterate 4 (refine ut 2 14 true i64 0 rfl rfl rfl rfl rfl rfl ?_)
   refine ut 2 14 true .bool false rfl rfl rfl rfl rfl rfl ?_;refine zat 2 zaS ?_;refine j0 (Y':=⟨(21,⟨.bool,false⟩)::(sLf m1 ids k (k,0,0,0,0,0,[],[],())).F,(sLf m1 ids k (k,0,0,0,0,0,[],[],())).E,3⟩) ⟨⟨rfl,rfl,rfl,rfl,rfl,rfl,t_⟩,⟨rfl,rfl,rfl,t_⟩,rfl,rfl⟩ ?_
   iterate 3 (refine ji 9 21 false rfl rfl rfl rfl ?_;refine kU 1 hX zaS rfl t_ ?_)
   by_cases h6:k=6
   .subst h6;have e:zcy 6 m1=((zad m1 2).1==0,(zad m1 2).2):=rfl;rw[e];refine ji 12 24 true rfl rfl rfl rfl ?_;refine zat 1 zaS ?_;refine ji 12 24 true rfl rfl rfl rfl ?_;refine zat 1 zaS ?_;refine ji 12 24 true rfl rfl rfl rfl ?_;refine zat 1 zaS ?_;refine ji 9 21 false rfl rfl rfl rfl ?_;refine zau zaS ?_;refine zae rfl (λhb=>?_) (λhb=>?_)
    .have hb:((zad m1 2).1==0)=true:=hb;rw[hb];refine zaa (zaa (zab zaS ?_));exact⟨⟨rfl,rfl,rfl,rfl,rfl,t_⟩,⟨rfl,rfl,rfl,t_⟩,rfl,rfl⟩
    .have hb:((zad m1 2).1==0)=false:=hb;rw[hb];apply zaf;exact⟨⟨rfl,rfl,rfl,rfl,rfl,t_⟩,⟨rfl,rfl,rfl,t_⟩,rfl,rfl⟩
   .have x4:(k==6)=false:=beq_false_of_ne h6;have e:zcy k m1=(false,m1):=by unfold zcy;rw[if_neg h8,if_neg h6]
    rw[e];refine j0 (Y':=⟨(21,⟨.bool,false⟩)::(24,⟨.bool,false⟩)::(sLf m1 ids k (k,0,0,0,0,0,[],[],())).F,(sLf m1 ids k (k,0,0,0,0,0,[],[],())).E,3⟩) ⟨⟨rfl,zcp x4,rfl,rfl,rfl,rfl,rfl,t_⟩,⟨rfl,rfl,rfl,t_⟩,rfl,rfl⟩ ?_
    iterate 2 (refine ut 12 24 true i64 0 rfl rfl rfl rfl rfl rfl ?_)
    refine ut 12 24 true .bool false rfl rfl rfl rfl rfl rfl ?_;refine ji 9 21 false rfl rfl rfl rfl ?_;refine zau zaS ?_;refine zae rfl (λhb=>?_) (λ_=>?_)
    .have hb:false=true:=hb;cases hb
    apply zaf;exact⟨⟨rfl,rfl,rfl,rfl,rfl,t_⟩,⟨rfl,rfl,rfl,t_⟩,rfl,rfl⟩
 have x7:mkN (zcy k m1).2=mkN m/\0<=mkU (zcy k m1).2/\mkU (zcy k m1).2<=mkU m+2:=by
  unfold zcy;split
  .exact⟨x1,b1,by show mkU m1<=_;omega⟩
  .split
   .exact⟨x1,by show 0<=mkU (zad m1 2).2;rw[zaC];omega,by show mkU (zad m1 2).2<=_;rw[zaC];omega⟩
   .exact⟨x1,b1,by show mkU m1<=_;omega⟩
 have x2:k=8->(zcy k m1).1=(mkN m==0):=λh=>by
  rw[h];show(mkN m1==0)=(mkN m==0);rw[x1]
 unfold zh4 at hR;generalize zcy k m1=q at *;obtain⟨b,m2⟩:=q;obtain⟨n2,u2,u3⟩:mkN m2=mkN m/\0<=mkU m2/\mkU m2<=mkU m+2:=x7;have x2:k=8->b=(mkN m==0):=x2;have hR:R=if k=8/\mkN m2>0 then((18,0,0,0,0,0,[],[110]++deI (zad m2 (mkN m2)).1,()),(zad m2 (mkN m2)).2) else zga (lfK k b) (zd0 (lfK k b) m2 ids).1 (zd0 (lfK k b) m2 ids).2:=hR
 show AWP _ _ _ _ _ (sLf m2 ids k (lfK k b,0,0,0,0,0,[],[],())) _;have g2:mkN m2<=1000000000:=o_;have hq:(bif (k==8) then decide (mkN m2>0) else false)=decide (k=8/\mkN m2>0):=by
  rw[zq6,qA,zh,decide_eq_true_iff,decide_eq_true_iff,beq_iff_eq]
 refine zaa (zaa (zab zaS ?_));refine zae rfl (λhc=>?_) (λhc=>?_)
 .have hc:=of_decide_eq_true (hq.symm.trans hc);rw[if_pos hc]at hR;have xa:=zao m2 (n:=mkN m2) o_;have g3:=hc.2;have g4: -100000000000000000<(zad m2 (mkN m2)).1:=o_;have g5:(zad m2 (mkN m2)).1<100000000000000000:=o_;have hl:(deI (zad m2 (mkN m2)).1).length<=18:=zk4 o_ o_;have g6:1+(deI (zad m2 (mkN m2)).1).length<=maxLen:=by unfold maxLen;omega
  iterate 3 (refine zaa (zaa (zab zaS ?_)))
  refine zC ⟨.inr rfl,?_,D1 ?_⟩
  .show some (OObj.box mkr (zad m2 (mkN m2)).2)=some (OObj.box mkr (zcJ m ids).2);rw[<-x0,hR]
  .show(((18:Int),(0:Int),(0:Int),(0:Int),(0:Int),(0:Int),([]:List Int),[110]++deI (zad m2 (mkN m2)).1,()):Nd)=(zcJ m ids).1;rw[<-x0,hR]
 have hc:=of_decide_eq_false (hq.symm.trans hc);rw[if_neg hc]at hR;apply zaf;have xb:1<=lfK k b/\lfK k b<=7:=by
  unfold lfK;cases b with
  |true=>exact⟨by show(1:Int)<=1;omega,by show(1:Int)<=7;omega⟩
  |false=>
   show 1<=k/\k<=7;refine⟨x8.1,?_⟩;by_cases h8:k=8
   .have hz:=x2 h8;have:mkN m≠0:=λh=>by rw[h]at hz;cases hz
    exact absurd ⟨h8,by omega⟩ hc
   .omega
 generalize lfK k b=c at *;apply zap;refine za1 (Y':=sLf (zd0 c m2 ids).2 ids k (c,(zd0 c m2 ids).1,0,0,0,0,[],[],())) ?_ ?_
 .have hq:(bif (!(c==1)) then(!(c==5)) else false)=decide (c≠1/\c≠5):=by
   rw[zq6,qA,zh,decide_eq_true_iff,xJ,xJ,beq_eq_false_iff_ne,beq_eq_false_iff_ne]
  refine zaa (zaa (zab zaS ?_));refine zae rfl (λhc=>?_) (λhc=>?_)
  .have hc:=of_decide_eq_true (hq.symm.trans hc);have e:zd0 c m2 ids=zad m2 ids:=if_pos hc;have h6:ids<=1000000000:=o_;refine zaa (zaa (zab zaS ?_));rw[e];exact⟨⟨rfl,rfl,rfl,rfl,rfl,t_⟩,⟨rfl,rfl,rfl,t_⟩,rfl,rfl⟩
  .have hc:=of_decide_eq_false (hq.symm.trans hc);have e:zd0 c m2 ids=(0,m2):=if_neg hc;apply zaf;rw[e];exact⟨⟨rfl,rfl,rfl,rfl,rfl,t_⟩,⟨rfl,rfl,rfl,t_⟩,rfl,rfl⟩
 have x9:0<=mkU (zd0 c m2 ids).2/\mkU (zd0 c m2 ids).2<=mkU m+3:=by
  unfold zd0;split
  .rw[zaC];omega
  .exact⟨u2,by show mkU m2<=_;omega⟩
 generalize zd0 c m2 ids=q at *;obtain⟨(cy:Int),(m3:Mk)⟩:=q;obtain⟨w1,w2⟩:0<=mkU m3/\mkU m3<=mkU m+3:=x9;have hR:R=zga c cy m3:=hR;show AWP _ _ _ _ _ (sLf m3 ids k (c,cy,0,0,0,0,[],[],())) _;have w4:mkU m3<=900000:=o_;refine zaa (zaa (zab zaS ?_));refine za1 (Y':=sLf R.2 ids k R.1) ?_ ?_
 .apply zaq;rcases (show c=1\/c=2\/c=3\/c=4\/c=5\/c=6\/c=7 by omega) with rfl|rfl|rfl|rfl|rfl|rfl|rfl
  .
   refine zaa (zaa (zab zaS ?_));refine zbu rfl ?_;have hp:=zao m3 (n:=12) d_;have z1:inR .i64 (1+(zad m3 12).1):=zah o_ o_;have z2:0<=mkU (zad m3 12).2:=by rw[zaC];omega
   have z3:mkU (zad m3 12).2<=1000000:=by rw[zaC];omega
   iterate 2 (refine zaa (zaa (zab zaS ?_)))
   rw[hR];exact⟨⟨rfl,rfl,rfl,rfl,rfl,t_⟩,⟨rfl,rfl,rfl,t_⟩,rfl,rfl⟩
  .have xd:=zao m3 (n:=4) d_;refine zaa (zaa (zab zaS ?_));refine zaL rfl ?_;refine zaa (zaa (zab zaS ?_));refine zbu rfl ?_;have z1:inR .i64 (1+(zad m3 4).1):=zah o_ o_;have z2:0<=mkU (zad m3 4).2:=by rw[zaC];omega
   have z3:mkU (zad m3 4).2<=1000000:=by rw[zaC];omega
   have z4:0<1+(zad m3 4).1:=o_;have z5:1+(zad m3 4).1<=1000000000:=o_
   iterate 2 (refine zaa (zaa (zab zaS ?_)))
   rw[hR];exact⟨⟨rfl,rfl,rfl,rfl,rfl,t_⟩,⟨rfl,rfl,rfl,t_⟩,rfl,rfl⟩
  .
   iterate 2 (refine zaa (zaa (zab zaS ?_));refine zaL rfl ?_)
   refine zaa (zaa (zab zaS ?_));refine zbu rfl ?_;refine zaa (zaa (zab zaS ?_));rw[hR];exact⟨⟨rfl,rfl,rfl,rfl,rfl,t_⟩,⟨rfl,rfl,rfl,t_⟩,rfl,rfl⟩
  .
   iterate 3 (refine zaa (zaa (zab zaS ?_));refine zaL rfl ?_)
   refine zaa (zaa (zab zaS ?_));refine zbu rfl ?_;refine zaa (zaa (zab zaS ?_));rw[hR];exact⟨⟨rfl,rfl,rfl,rfl,rfl,t_⟩,⟨rfl,rfl,rfl,t_⟩,rfl,rfl⟩
  .
   iterate 4 (refine zaa (zaa (zab zaS ?_));refine zaL rfl ?_)
   refine zaa (zaa (zab zaS ?_));refine zbu rfl ?_;refine zaa (zaa (zab zaS ?_));rw[hR];exact⟨⟨rfl,rfl,rfl,rfl,rfl,t_⟩,⟨rfl,rfl,rfl,t_⟩,rfl,rfl⟩
  .
   iterate 5 (refine zaa (zaa (zab zaS ?_));refine zaL rfl ?_)
   refine zaa (zaa (zab zaS ?_));refine zbu rfl ?_;refine zaa (zaa (zab zaS ?_));rw[hR];exact⟨⟨rfl,rfl,rfl,rfl,rfl,t_⟩,⟨rfl,rfl,rfl,t_⟩,rfl,rfl⟩
  .
   iterate 6 (refine zaa (zaa (zab zaS ?_));refine zaL rfl ?_)
   have hp:=zao m3 (n:=3) d_;have z1:inR .i64 (1+(zad m3 3).1):=zah o_ o_;have z2:0<=mkU (zad m3 3).2:=by rw[zaC];omega
   have z3:mkU (zad m3 3).2<=1000000:=by rw[zaC];omega
   refine zaa (zaa (zab zaS ?_));have z4:0<=mkU (zad (zad m3 3).2 2).2:=by rw[zaC,zaC];omega
   have z5:mkU (zad (zad m3 3).2 2).2<=1000000:=by rw[zaC,zaC];omega
   have z6:0<=mkU (zad (zad (zad m3 3).2 2).2 7).2:=by rw[zaC,zaC,zaC];omega
   have z7:mkU (zad (zad (zad m3 3).2 2).2 7).2<=1000000:=by rw[zaC,zaC,zaC];omega
   have z8:inR .i64 (-(1+(zad m3 3).1)):=zah o_ o_;have hR:R=((7,cy,(zad (zad (zad (zad m3 3).2 2).2 7).2 2).1,0,(if(zad (zad m3 3).2 2).1=1 then -(1+(zad m3 3).1) else 1+(zad m3 3).1),(zad (zad (zad m3 3).2 2).2 7).1,[],[],()),(zad (zad (zad (zad m3 3).2 2).2 7).2 2).2):=hR;refine zaa (zaa (zab zaS ?_));refine zae rfl (λhb=>?_) (λhb=>?_)
   .have hb:((zad (zad m3 3).2 2).1==1)=true:=hb;rw[if_pos (eq_of_beq hb)]at hR
    iterate 3 (refine zaa (zaa (zab zaS ?_)))
    rw[hR];exact⟨⟨rfl,rfl,rfl,rfl,rfl,t_⟩,⟨rfl,rfl,rfl,t_⟩,rfl,rfl⟩
   .have hb:((zad (zad m3 3).2 2).1==1)=false:=hb;rw[if_neg (by simpa using hb)]at hR;apply zaf
    iterate 2 (refine zaa (zaa (zab zaS ?_)))
    rw[hR];exact⟨⟨rfl,rfl,rfl,rfl,rfl,t_⟩,⟨rfl,rfl,rfl,t_⟩,rfl,rfl⟩
 refine zaa (zaa (zab zaS ?_));refine zC ⟨.inr rfl,?_,D1 ?_⟩
 .show some (OObj.box mkr R.2)=some (OObj.box mkr (zcJ m ids).2);rw[<-x0]
 .show R.1=(zcJ m ids).1;rw[<-x0]
def TrSh:Tr->Prop
 |.leaf n=>¬(8<=ndK n/\ndK n<=17)/\(0<=ndL n/\ndL n<=1)/\ndR n=0
 |.un n a=>(11<=ndK n/\ndK n<=16)/\ndR n=0/\TrSh a
 |.bin n a b=>((8<=ndK n/\ndK n<=10)\/ndK n=17)/\TrSh a/\TrSh b
theorem zdD:∀t:Tr,1<=t.size
 |.leaf _=>zu _
 |.un _ a=>by have:=zdD a;rw[wk];omega
 |.bin _ a b=>by have:=zdD a;rw[wk];omega
theorem zeV{k:Int}:two k=true↔(8<=k/\k<=10)\/k=17:=by
 unfold two;rw[xO,xO,xO,beq_iff_eq,beq_iff_eq,beq_iff_eq,beq_iff_eq];omega
theorem zkF{n:Nd}{b:Int}(h:¬(8<=ndK n/\ndK n<=17)):zb8 b n=n:=by
 obtain⟨k,c,L,R,rest⟩:=n;have h:¬(8<=k/\k<=17):=h;have h2:¬two k=true:=by rw[zeV];omega
 unfold zb8;rw[if_neg h,if_neg h2]
theorem zoe{n:Nd}{b x:Int}(h:11<=ndK n/\ndK n<=16):zb8 b (setL n x)=setL n (x+b):=by
 obtain⟨k,c,L,R,rest⟩:=n;have h:11<=k/\k<=16:=h;have h1:8<=k/\k<=17:=o_;have h2:¬two k=true:=by rw[zeV];omega
 show(k,c,(if 8<=k/\k<=17 then x+b else x),(if two k then R+b else R),rest)=(k,c,x+b,R,rest);rw[if_pos h1,if_neg h2]
theorem zm1{n:Nd}{b x y:Int}(h:(8<=ndK n/\ndK n<=10)\/ndK n=17):zb8 b (zd6 n x y)=zd6 n (x+b) (y+b):=by
 obtain⟨k,c,L,R,rest⟩:=n;have h:(8<=k/\k<=10)\/k=17:=h;have h1:8<=k/\k<=17:=o_;have h2:two k=true:=zeV.2 h;show(k,c,(if 8<=k/\k<=17 then x+b else x),(if two k then y+b else y),rest)=(k,c,x+b,y+b,rest);rw[if_pos h1,if_pos h2]
theorem zet:∀(t:Tr)(i j:Nat),TrSh t->zec (t.flat i) (j:Int)=t.flat (i+j)
 |.leaf n,i,j,h=>by
  rw[kc,kc];show [zb8 _ n]=_;rw[zkF h.1]
 |.un n a,i,j,h=>by
  rw[kc,kc];unfold zec;rw[xX];have:=zet a i j h.2.2;unfold zec at this;rw[this];show _++[zb8 _ _]=_;rw[zoe h.1]
  congr 3
  have:=zdD a;omega
 |.bin n a b,i,j,h=>by
  rw[kc,kc];unfold zec;rw[xX,xX];have ha:=zet a i j h.2.1;have hb:=zet b (i+a.size) j h.2.2;unfold zec at ha hb;rw[ha,hb,show i+a.size+j=i+j+a.size by omega];show _++[zb8 _ _]=_;rw[zm1 h.1];have:=zdD a;have:=zdD b;rw[show((i+a.size:Nat):Int)-1+(j:Int)=((i+j+a.size:Nat):Int)-1 by omega,show((i+a.size+b.size:Nat):Int)-1+(j:Int)=((i+j+a.size+b.size:Nat):Int)-1 by omega]
theorem znZ(a:Tr)(n:Nd):zp6 (a.flat 0) n=(Tr.un n a).flat 0:=by
 rw[kc];unfold zp6;rw[jY,xV]
theorem zpm(a b:Tr)(n:Nd)(h:TrSh b):zqZ (a.flat 0) (b.flat 0) n=(Tr.bin n a b).flat 0:=by
 rw[kc];unfold zqZ;rw[jY,jY,zet b 0 a.size h,xV]
 congr 3
theorem zhb:∀(t:Tr)(i:Nat),TrSh t->∀n∈t.flat i,(0<=ndL n/\ndL n<=i+t.size)/\(0<=ndR n/\ndR n<=i+t.size)
 |.leaf n,i,h,x,hx=>by
  obtain rfl:=zQ.1 hx;obtain⟨_,⟨h1,h2⟩,h3⟩:=h;rw[wk];exact⟨⟨h1,by omega⟩,⟨by omega,by omega⟩⟩
 |.un n a,i,h,x,hx=>by
  rw[kc]at hx;rw[wk];have hs:=zdD a;rcases yJ.1 hx with hx|hx
  .have:=zhb a i h.2.2 x hx;omega
  .obtain rfl:=zQ.1 hx;have hr:=h.2.1;show(0<=((i+a.size:Nat):Int)-1/\((i+a.size:Nat):Int)-1<=_)/\(0<=ndR n/\ndR n<=_);omega
 |.bin n a b,i,h,x,hx=>by
  rw[kc]at hx;rw[wk];have hs:=zdD a;have ht:=zdD b;rcases yJ.1 hx with hx|hx
  .rcases yJ.1 hx with hx|hx
   .have:=zhb a i h.2.1 x hx;omega
   .have:=zhb b (i+a.size) h.2.2 x hx;omega
  .obtain rfl:=zQ.1 hx;show(0<=((i+a.size:Nat):Int)-1/\((i+a.size:Nat):Int)-1<=_)/\(0<=((i+a.size+b.size:Nat):Int)-1/\((i+a.size+b.size:Nat):Int)-1<=_);omega
def zaG(m:Mk):Mk:=(mkD m,mkU m,mkN m,mkS m+1,())
def zfI(d:Nat)(p:Int×Mk):Bool:=decide (d=0)||decide (mkU p.2>(((mkD p.2).length:Nat):Int))||decide (mkS p.2>30)||decide (10<=p.1)
def mOne(k ids:Int)(m:Mk):Nd×Mk:=
 if k=11 then((k,0,0,0,(zad m 15).1-7,0,[],[],()),(zad m 15).2)
 else if k=12\/k=13 then((k,0,0,0,(zad m 60).1,0,[],[],()),(zad m 60).2)
 else if k=14\/k=15 then((k,0,0,0,0,0,(zaF m 0 60).1,[],()),(zaF m 0 60).2)
 else let p:=zad m ids;let q:=zad p.2 2;let r:=zaF q.2 (-3) 3;((k,p.1,0,0,0,q.1,r.1,[],()),r.2)
def mCnt(k:Int)(m:Mk):Int×Mk:=if k=17 then(1+(zad m 3).1,(zad m 3).2) else(0,m)
def mTr(ids:Int):Nat->Mk->Tr×Mk
 |0,m=>(.leaf (zcJ (zad (zaG m) 14).2 ids).1,(zcJ (zad (zaG m) 14).2 ids).2)
 |d+1,m=>
  let p:=zad (zaG m) 14
  if zfI (d+1) p=true then(.leaf (zcJ p.2 ids).1,(zcJ p.2 ids).2)
  else
   let a:=mTr ids d p.2
   if two (8+p.1)=true then
    let c:=mCnt (8+p.1) a.2
    let b:=mTr ids d c.2
    (.bin (8+p.1,0,0,0,c.1,0,[],[],()) a.1 b.1,b.2)
   else(.un (mOne (8+p.1) ids a.2).1 a.1,(mOne (8+p.1) ids a.2).2)
def MkLe(c:Nat)(m r:Mk):Prop:=mkN r=mkN m/\mkS r=mkS m/\mkD r=mkD m/\mkU m<=mkU r/\mkU r<=mkU m+(c:Int)
theorem MkLe.trans{a b:Nat}{m r s:Mk}(h1:MkLe a m r)(h2:MkLe b r s):MkLe (a+b) m s:=by
 obtain⟨x1,x2,x3,x4,x5⟩:=h1;obtain⟨y1,y2,y3,y4,y5⟩:=h2;exact⟨y1.trans x1,y2.trans x2,y3.trans x3,by omega,by omega⟩
theorem MkLe.mono{a b:Nat}{m r:Mk}(h:MkLe a m r)(x0:a<=b):MkLe b m r:=by
 obtain⟨x1,x2,x3,x4,x5⟩:=h;exact⟨x1,x2,x3,x4,by omega⟩
theorem MkLe.refl(m:Mk):MkLe 0 m m:=⟨rfl,rfl,rfl,qs _,by omega⟩
theorem zbj(m:Mk)(n:Int):MkLe 1 m (zad m n).2:=⟨rfl,rfl,rfl,by rw[zaC];omega,by rw[zaC];omega⟩
theorem zrs(lo hi:Int):∀(k:Nat)(m:Mk)(v:Int)(acc:List Int),MkLe k m (mRis lo hi k m v acc).2
 |0,m,_,_=>MkLe.refl m
 |k+1,m,v,acc=>by
  rw[mRis];split
  .exact((zbj m 3).trans (zrs lo hi k _ _ _)).mono o_
  .exact(MkLe.refl m).mono o_
theorem zdl(m:Mk)(lo hi:Int):MkLe 6 m (zaF m lo hi).2:=by
 have h:=zao m (n:=4) d_;have h3:=zrs lo hi (1+(zad m 4).1).toNat (zad (zad m 4).2 (hi-lo+1)).2 (lo+(zad (zad m 4).2 (hi-lo+1)).1) [];exact(((zbj m 4).trans (zbj _ _)).trans h3).mono o_
theorem zsB(k c:Int)(m:Mk):MkLe 6 m (zga k c m).2:=by
 unfold zga;split
 .exact((zbj m 12).trans (zbj _ 20)).mono o_
 split
 .exact((zbj m 4).trans (zbj _ (1+(zad m 4).1))).mono o_
 split
 .exact zdl _ _ _
 split
 .exact zdl _ _ _
 split
 .exact zdl _ _ _
 split
 .exact zdl _ _ _
 .exact((((zbj m 3).trans (zbj _ 2)).trans (zbj _ 7)).trans (zbj _ 2)).mono o_
theorem zrn(k:Int)(m:Mk):MkLe 1 m (zcy k m).2:=by
 unfold zcy;split
 .exact(MkLe.refl m).mono o_
 split
 .exact zbj m 2
 .exact(MkLe.refl m).mono o_
theorem zu1(k:Int)(m:Mk)(ids:Int):MkLe 1 m (zd0 k m ids).2:=by
 unfold zd0;split
 .exact zbj m ids
 .exact(MkLe.refl m).mono o_
theorem zow(m:Mk)(ids:Int):MkLe 9 m (zcJ m ids).2:=by
 unfold zcJ zh4;have h1:=(zbj m 8).trans (zrn (1+(zad m 8).1) (zad m 8).2);dsimp only;split
 .exact(h1.trans (zbj _ (mkN (zcy (1+(zad m 8).1) (zad m 8).2).2))).mono o_
 .exact((h1.trans (zu1 _ _ _)).trans (zsB _ _ _)).mono o_
theorem zuu(k ids:Int)(m:Mk):MkLe 8 m (mOne k ids m).2:=by
 unfold mOne;split
 .exact(zbj m 15).mono o_
 split
 .exact(zbj m 60).mono o_
 split
 .exact(zdl m 0 60).mono o_
 .exact(((zbj m ids).trans (zbj _ 2)).trans (zdl _ _ _)).mono o_
theorem zmt(k:Int)(m:Mk):MkLe 1 m (mCnt k m).2:=by
 unfold mCnt;split
 .exact zbj m 3
 .exact(MkLe.refl m).mono o_
def MkGe(c e:Nat)(m r:Mk):Prop:=mkN r=mkN m/\mkD r=mkD m/\(mkS m<=mkS r/\mkS r<=mkS m+(e:Int))/\mkU m<=mkU r/\mkU r<=mkU m+(c:Int)
theorem MkGe.trans{a b e f:Nat}{m r s:Mk}(h1:MkGe a e m r)(h2:MkGe b f r s):MkGe (a+b) (e+f) m s:=by
 obtain⟨x1,x2,⟨x3,x6⟩,x4,x5⟩:=h1;obtain⟨y1,y2,⟨y3,y6⟩,y4,y5⟩:=h2;exact⟨y1.trans x1,y2.trans x2,⟨by omega,by omega⟩,by omega,by omega⟩
theorem MkLe.ge{a:Nat}{m r:Mk}(h:MkLe a m r):MkGe a 0 m r:=by
 obtain⟨x1,x2,x3,x4,x5⟩:=h;exact⟨x1,x3,⟨by omega,by omega⟩,x4,x5⟩
theorem MkGe.mono{a b e f:Nat}{m r:Mk}(h:MkGe a e m r)(x7:a<=b)(x0:e<=f):MkGe b f m r:=by
 obtain⟨x1,x2,⟨x3,x6⟩,x4,x5⟩:=h;exact⟨x1,x2,⟨by omega,by omega⟩,x4,by omega⟩
theorem zkX(m:Mk):MkGe 0 1 m (zaG m):=⟨rfl,rfl,⟨by show mkS m<=mkS m+1;omega,by show mkS m+1<=_;omega⟩,qs _,by show mkU m<=_;omega⟩
def mMax:Nat->Nat
 |0=>1
 |d+1=>2*mMax d+1
theorem zgT(ids:Int):∀(d:Nat)(m:Mk),MkGe (20*mMax d) (mMax d) m (mTr ids d m).2
 |0,m=>(((zkX m).trans (zbj _ 14).ge).trans (zow _ _).ge).mono d_ d_
 |d+1,m=>by
  have h0:=(zkX m).trans (zbj (zaG m) 14).ge;have hM:mMax (d+1)=2*mMax d+1:=rfl;rw[mTr];dsimp only;split
  .exact(h0.trans (zow _ _).ge).mono o_ o_
  have ha:=zgT ids d (zad (zaG m) 14).2;split
  .exact(((h0.trans ha).trans (zmt _ _).ge).trans (zgT ids d _)).mono o_ o_
  .exact((h0.trans ha).trans (zuu _ _ _).ge).mono o_ o_
theorem zfe(ids:Int):∀(d:Nat)(m:Mk),(mTr ids d m).1.size<=mMax d
 |0,m=>zu _
 |d+1,m=>by
  have hM:mMax (d+1)=2*mMax d+1:=rfl;rw[mTr];dsimp only;split
  .rw[wk];omega
  have ha:=zfe ids d (zad (zaG m) 14).2;split
  .rw[wk];have hb:=zfe ids d (mCnt (8+(zad (zaG m) 14).1) (mTr ids d (zad (zaG m) 14).2).2).2;omega
  .rw[wk];omega
theorem zrD{k:Int}{m:Mk}(hn:0<=mkN m)(hk:1<=k/\k<=8)(hc:¬(k=8/\mkN (zcy k m).2>0)):1<=lfK k (zcy k m).1/\lfK k (zcy k m).1<=7:=by
 unfold zcy at hc ⊢;by_cases h8:k=8
 .rw[if_pos h8]at hc ⊢;have hz:mkN m=0:=by
   by_cases hz:mkN m=0
   .exact hz
   .exact absurd ⟨h8,by show mkN m>0;omega⟩ hc
  rw[hz];show(1:Int)<=1/\(1:Int)<=7;omega
 .rw[if_neg h8];have:∀b:Bool,1<=lfK k b/\lfK k b<=7:=λb=>by
   cases b with
   |true=>show(1:Int)<=1/\(1:Int)<=7;omega
   |false=>show 1<=k/\k<=7;omega
  exact this _
theorem zf4{n:Nd}(k L:Int)(h:ndK n=k)(hk:¬(8<=k/\k<=17))(hL:ndL n=L)(h0:0<=L/\L<=1)(hR:ndR n=0):TrSh (.leaf n):=⟨by rw[h];exact hk,by rw[hL];exact h0,hR⟩
theorem zsz{k c:Int}{m:Mk}(hk:1<=k/\k<=7):TrSh (.leaf (zga k c m).1):=by
 rcases (show k=1\/k=2\/k=3\/k=4\/k=5\/k=6\/k=7 by omega) with rfl|rfl|rfl|rfl|rfl|rfl|rfl
 .exact zf4 1 0 rfl d_ rfl d_ rfl
 .exact zf4 2 0 rfl d_ rfl d_ rfl
 .exact zf4 3 0 rfl d_ rfl d_ rfl
 .exact zf4 4 0 rfl d_ rfl d_ rfl
 .exact zf4 5 0 rfl d_ rfl d_ rfl
 .exact zf4 6 0 rfl d_ rfl d_ rfl
 .have:=zao (zad (zad (zad m 3).2 2).2 7).2 (n:=2) d_;exact zf4 7 (zad (zad (zad (zad m 3).2 2).2 7).2 2).1 rfl d_ rfl o_ rfl
theorem zov(m:Mk)(ids:Int)(hn:0<=mkN m):TrSh (.leaf (zcJ m ids).1):=by
 have hk:=zao m (n:=8) d_;unfold zcJ zh4;dsimp only;split
 .exact zf4 18 0 rfl d_ rfl d_ rfl
 .rename_i hc;exact zsz (zrD (m:=(zad m 8).2) hn o_ hc)
theorem zrB{k ids:Int}{m:Mk}:ndK (mOne k ids m).1=k/\ndL (mOne k ids m).1=0/\ndR (mOne k ids m).1=0:=by
 unfold mOne;split
 .exact⟨rfl,rfl,rfl⟩
 split
 .exact⟨rfl,rfl,rfl⟩
 split
 .exact⟨rfl,rfl,rfl⟩
 .exact⟨rfl,rfl,rfl⟩
theorem zjG(ids:Int):∀(d:Nat)(m:Mk),0<=mkN m->TrSh (mTr ids d m).1
 |0,m,h=>zov _ _ h
 |d+1,m,h=>by
  have hp:=zao (zaG m) (n:=14) d_;rw[mTr];dsimp only;split
  .exact zov _ _ h
  rename_i x0;have hs:(zad (zaG m) 14).1<10:=by
   have:¬zfI (d+1) (zad (zaG m) 14)=true:=x0;unfold zfI at this;simp only[xO,decide_eq_true_iff,not_or]at this;omega
  have h0:=h;have ha:=zjG ids d (zad (zaG m) 14).2 h0;have hg:=(zgT ids d (zad (zaG m) 14).2).1;split
  .rename_i ht;have hc:=(zmt (8+(zad (zaG m) 14).1) (mTr ids d (zad (zaG m) 14).2).2).1;exact⟨zeV.1 ht,ha,zjG ids d _ (by rw[hc,hg];exact h0)⟩
  .rename_i ht;obtain⟨e1,_,e3⟩:=zrB (k:=8+(zad (zaG m) 14).1) (ids:=ids) (m:=(mTr ids d (zad (zaG m) 14).2).2);refine⟨?_,e3,ha⟩;rw[e1];rw[zeV]at ht;omega
def zgf(D:Nat):RCtr:={ self:=mkr,args:=[i64,i64],inv:=λ_ _=>True,pre:=λm xs=>[0<=xs.1,xs.1<(D:Int),mMax xs.1.toNat<=10000,0<=mkU m/\mkU m+20*((mMax xs.1.toNat:Nat):Int)<=500000,0<=mkN m/\mkN m<=1000000,0<=mkS m/\mkS m+((mMax xs.1.toNat:Nat):Int)<=500000,0<xs.2.1/\xs.2.1<=1000000],res:=.slice nd,out:=λm xs=>(mTr xs.2.1 xs.1.toNat m).1.flat 0,post:=λm xs=>(mTr xs.2.1 xs.1.toNat m).2 }
theorem zok:∀d:Nat,d<=mMax d
 |0=>zk _
 |d+1=>by have:=zok d;show d+1<=2*mMax d+1;omega
theorem zqp{ids:Int}{d:Nat}{m:Mk}(h:zfI d (zad (zaG m) 14)=true):mTr ids d m=(.leaf (zcJ (zad (zaG m) 14).2 ids).1,(zcJ (zad (zaG m) 14).2 ids).2):=by
 cases d with
 |zero=>rfl
 |succ d=>rw[mTr];exact if_pos h
theorem zuB{ids:Int}{d:Nat}{m:Mk}(h:¬zfI (d+1) (zad (zaG m) 14)=true):mTr ids (d+1) m=if two (8+(zad (zaG m) 14).1)=true then
  (.bin (8+(zad (zaG m) 14).1,0,0,0,(mCnt (8+(zad (zaG m) 14).1) (mTr ids d (zad (zaG m) 14).2).2).1,0,[],[],()) (mTr ids d (zad (zaG m) 14).2).1 (mTr ids d (mCnt (8+(zad (zaG m) 14).1) (mTr ids d (zad (zaG m) 14).2).2).2).1,(mTr ids d (mCnt (8+(zad (zaG m) 14).1) (mTr ids d (zad (zaG m) 14).2).2).2).2)
  else(.un (mOne (8+(zad (zaG m) 14).1) ids (mTr ids d (zad (zaG m) 14).2).2).1 (mTr ids d (zad (zaG m) 14).2).1,(mOne (8+(zad (zaG m) 14).1) ids (mTr ids d (zad (zaG m) 14).2).2).2):=by
 rw[mTr];exact if_neg h
def kRu(D:Nat):Kn:={ gmK with C:=[(98,cTwo),(101,zvf),(99,zvr)],R:=[(16,ziY),(100,zlf),(97,zrO),(75,zgf D)] }
theorem zuK{D:Nat}(ih:RCtrOk zf gmG 75 (zgf D)):KnOk zf gmG (kRu D):=
 { zar.with (.cons zrm (.cons zsH (.cons ztx .nil))) with r:=.cons zd9 (λ_ _=>trivial) (.cons zjt (λ_ _=>trivial) (.cons zqg (λ_ _=>trivial) (.cons ih (λ_ _=>trivial) .nil))) }
theorem zct{x y:Mk}(h:x=y):some (OObj.box mkr x)=some (OObj.box mkr y):=by rw[h]
end
end Go.Proofs.YtdjjmoenpjlfeaaGreatDoor
