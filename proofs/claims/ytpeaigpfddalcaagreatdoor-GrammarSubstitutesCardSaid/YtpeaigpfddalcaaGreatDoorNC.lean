/-
  Texts of this claim, joined: what the statement's proof uses.
-/
import Derived.Test.YtpeaigpfddalcaaGreatDoorNB
set_option linter.unusedSimpArgs false
set_option linter.unusedVariables false
set_option maxRecDepth 100000
open Array renaming getD_eq_getD_getElem? -> zJ,getElem?_append -> qJ,getElem?_eq_getElem -> yj,getElem?_eq_some_iff -> zo,getElem_modify_self -> vR,replicate -> zz,size_modify -> vX
open Bool renaming and_eq_true -> zf,eq_false_iff -> qX,eq_iff_iff -> yq,false_eq_true -> yw,false_ne_true -> yO,false_or -> xK,or_false -> qg,or_true -> qh,true_or -> qz
open Go renaming FuncId -> zP,Operand -> zE,Program -> zx,ResultVar -> qd,TypeId -> zn,Value -> zh,World -> zj
open Go.ByteArray renaming toList_eq -> xD
open Go.Calls renaming mono -> kw
open Go.Exit renaming thenS -> vh
open Go.Fence renaming wide -> yA
open Go.Instr renaming makeInterface -> kO
open Go.Lib renaming byteCells -> kU,decDigits -> yo,indexByte -> xm,parseUintM -> kI
open Go.Operand renaming tmp -> uM
open Go.Proofs.YtpeaigpfddalcaaGreatDoor renaming CtrOk -> yK
open Go.Proofs.YtpeaigpfddalcaaGreatDoor.AL renaming all -> zT,fit -> xn,guardF -> zS,guardT -> yv,hand -> qq,nil -> yg,own -> yn,step -> jH,take -> zN
open Go.Proofs.YtpeaigpfddalcaaGreatDoor.AWP renaming go -> za,loop -> yR,ordersA -> jB,ret -> zr,via -> xz,viaQ -> qY
open Go.Proofs.YtpeaigpfddalcaaGreatDoor.Frame renaming get -> zq
open Go.Proofs.YtpeaigpfddalcaaGreatDoor.OpEq renaming refl -> xA
open Go.Proofs.YtpeaigpfddalcaaGreatDoor.Owns renaming get -> zm
open Go.Proofs.YtpeaigpfddalcaaGreatDoor.StepA renaming eval -> xg,hand -> jT
open Go.Proofs.YtpeaigpfddalcaaGreatDoor.Tok renaming cls -> zQ,n -> qe,text -> zR
open Go.RowKit renaming Below -> yV
open Go.RowKit.Below renaming heap_setCell -> xw,refl -> zV
open Go.Value renaming int -> yF,string -> jg
open Go.World renaming alloc_heap_new -> xv,cell? -> xo,freeze -> qT
open Int renaming le_refl -> xF,natCast_nonneg -> zi,toNat_natCast -> zD
open List renaming all_eq_true -> zZ,append_assoc -> zp,append_nil -> zL,drop -> jC,findIdx_getElem -> kK,getElem_mem -> xS,length -> zg,length_append -> zd,length_cons -> zt,length_drop -> yS,length_take -> yB,mem_cons_of_mem -> yy,mem_cons_self -> yf,mem_of_mem_take -> jz,mem_singleton -> zw,range -> xE,singleton_inj -> vM,takeWhile_prefix -> jq,take_length -> xd,take_succ_eq_append_getElem -> zO
open Nat renaming ble -> qI,blt -> zW,le_of_ble_eq_true -> zb,le_refl -> zl,le_trans -> zH,lt_succ_self -> y9,not_lt_zero -> y8,zero_le -> zk
open Option.some renaming inj -> ya
open UInt8 renaming le_iff_toNat_le -> yX,toNat_inj -> qL
open Go Go.RowKit
namespace Go.Proofs.YtpeaigpfddalcaaGreatDoor
theorem znU:yK Tryz.prog gmG 52 (zlw 113 isDg):=by
 refine zaq (K:=kSpDg) zbZ Tryz.func52 rfl rfl Tryz.call52 rfl (by decide) (by intro h;cases h) ?_;rintro w0 X hX ⟨(s:List UInt8),(g:zh),_⟩ hp;obtain rfl:g= .func (.func 113) #[] #[]:=hp;change AWP _ _ _ _ _ ⟨[(0,⟨.str,s⟩),(1,⟨.lit,.func (.func 113) #[] #[]⟩)],[],0⟩ _;refine AWP.slen 0 rfl fun hl=>?_;unfold maxLen at hl;(repeat(first|apply zae|apply zab|apply zal|apply zad|apply zac|refine zaa hX zbZ rfl trivial ?_|refine zaa hX zbZ rfl id ?_|refine zaa hX zbZ rfl ⟨id,id⟩ ?_));refine yR (ι:=Nat) (fun k=>⟨[(0,⟨.str,s⟩),(1,⟨.lit,.func (.func 113) #[] #[]⟩),(5,⟨i64,(k:Int)⟩)],[],0⟩) (fun k=>k≤s.length∧∀ j (hj:j < s.length),j < k->isDg s[j]=true) (fun k=>s.length - k) 0 ⟨by omega,fun j _ h=>by omega⟩ ⟨⟨rfl,rfl,rfl,trivial⟩,trivial,rfl,rfl⟩ ?_;rintro k ⟨hk,hall⟩;(repeat(first|apply zae|apply zab|apply zac|apply zad));refine zai ?_;refine zN 5 hX zbZ rfl trivial ?_;by_cases hlt:k < s.length
 ·refine xn (σ':=⟨[(0,⟨.str,s⟩),(1,⟨.lit,.func (.func 113) #[] #[]⟩),(5,⟨i64,(k:Int)⟩),(10,⟨.bool,true⟩)],[],0⟩) ⟨⟨rfl,rfl,rfl,zbo (decide_eq_true (by omega)),trivial⟩,trivial,rfl,rfl⟩ ?_;have n0:(0:Int)≤(k:Int):=by omega
  have n1:(k:Int) < ((s.length:Nat):Int):=by omega
  refine zT hX zbZ rfl ?_ ?_
  ·exact⟨fun _=>⟨rfl,rfl,n0,n1⟩,fun _=>rfl,fun _=>rfl⟩
  refine zaf rfl (fun hb=>?_) (fun hb=>?_)
  ·have hb:isDg (s.getD (k:Int).toNat 0)=true:=hb;rw[za6 hlt]at hb;apply zab;refine za (za ?_);refine zaa hX zbZ rfl ?_ ?_
   ·exact za0 (by omega)
   refine⟨k+1,⟨by omega,fun j hj hjk=>?_⟩,by omega,⟨rfl,rfl,zdT _,trivial⟩,trivial,rfl,rfl⟩;by_cases e:j=k
   ·subst e;exact hb
   ·exact hall j hj (by omega)
  ·have hb:isDg (s.getD (k:Int).toNat 0)=false:=hb;rw[za6 hlt]at hb;(repeat(first|apply zae|apply zab|apply zal|apply zad|apply zac|refine zaa hX zbZ rfl trivial ?_|refine zaa hX zbZ rfl id ?_|refine zaa hX zbZ rfl ⟨id,id⟩ ?_));refine zr ⟨.inr rfl,zaw rfl trivial rfl rfl ?_⟩;show (k:Int)=((zbF isDg s:Nat):Int);rw[zeA hk hall fun _=>hb]
 ·refine xn (σ':=⟨[(0,⟨.str,s⟩),(1,⟨.lit,.func (.func 113) #[] #[]⟩),(5,⟨i64,(k:Int)⟩),(10,⟨.bool,false⟩)],[],0⟩) ⟨⟨rfl,rfl,rfl,zbo (decide_eq_false (by omega)),trivial⟩,trivial,rfl,rfl⟩ ?_;refine zS 4 10 true .bool false rfl rfl rfl rfl rfl rfl ?_;refine zS 4 10 true .bool false rfl rfl rfl rfl rfl rfl ?_;refine zS 4 10 true .bool false rfl rfl rfl rfl rfl rfl ?_;refine zS 4 10 true .bool false rfl rfl rfl rfl rfl rfl ?_;refine zS 4 10 true .bool false rfl rfl rfl rfl rfl rfl ?_;refine zT hX zbZ rfl id ?_;refine zaf rfl (fun hb=>absurd (show false=true from hb) (by decide)) (fun _=>?_);(repeat(first|apply zae|apply zab|apply zal|apply zad|apply zac|refine zaa hX zbZ rfl trivial ?_|refine zaa hX zbZ rfl id ?_|refine zaa hX zbZ rfl ⟨id,id⟩ ?_));refine zr ⟨.inr rfl,zaw rfl trivial rfl rfl ?_⟩;show (k:Int)=((zbF isDg s:Nat):Int);rw[zeA hk hall fun h=>absurd h hlt]
def kSpPt:Kn:={ gmK with C:=[(112,ztW isPt)] }
theorem zbY:KnOk Tryz.prog gmG kSpPt:=zaC.with (.cons zte .nil)
theorem znT:yK Tryz.prog gmG 52 (zlw 112 isPt):=by
 refine zaq (K:=kSpPt) zbY Tryz.func52 rfl rfl Tryz.call52 rfl (by decide) (by intro h;cases h) ?_;rintro w0 X hX ⟨(s:List UInt8),(g:zh),_⟩ hp;obtain rfl:g= .func (.func 112) #[] #[]:=hp;change AWP _ _ _ _ _ ⟨[(0,⟨.str,s⟩),(1,⟨.lit,.func (.func 112) #[] #[]⟩)],[],0⟩ _;refine AWP.slen 0 rfl fun hl=>?_;unfold maxLen at hl;(repeat(first|apply zae|apply zab|apply zal|apply zad|apply zac|refine zaa hX zbY rfl trivial ?_|refine zaa hX zbY rfl id ?_|refine zaa hX zbY rfl ⟨id,id⟩ ?_));refine yR (ι:=Nat) (fun k=>⟨[(0,⟨.str,s⟩),(1,⟨.lit,.func (.func 112) #[] #[]⟩),(5,⟨i64,(k:Int)⟩)],[],0⟩) (fun k=>k≤s.length∧∀ j (hj:j < s.length),j < k->isPt s[j]=true) (fun k=>s.length - k) 0 ⟨by omega,fun j _ h=>by omega⟩ ⟨⟨rfl,rfl,rfl,trivial⟩,trivial,rfl,rfl⟩ ?_;rintro k ⟨hk,hall⟩;(repeat(first|apply zae|apply zab|apply zac|apply zad));refine zai ?_;refine zN 5 hX zbY rfl trivial ?_;by_cases hlt:k < s.length
 ·refine xn (σ':=⟨[(0,⟨.str,s⟩),(1,⟨.lit,.func (.func 112) #[] #[]⟩),(5,⟨i64,(k:Int)⟩),(10,⟨.bool,true⟩)],[],0⟩) ⟨⟨rfl,rfl,rfl,zbo (decide_eq_true (by omega)),trivial⟩,trivial,rfl,rfl⟩ ?_;have n0:(0:Int)≤(k:Int):=by omega
  have n1:(k:Int) < ((s.length:Nat):Int):=by omega
  refine zT hX zbY rfl ?_ ?_
  ·exact⟨fun _=>⟨rfl,rfl,n0,n1⟩,fun _=>rfl,fun _=>rfl⟩
  refine zaf rfl (fun hb=>?_) (fun hb=>?_)
  ·have hb:isPt (s.getD (k:Int).toNat 0)=true:=hb;rw[za6 hlt]at hb;apply zab;refine za (za ?_);refine zaa hX zbY rfl ?_ ?_
   ·exact za0 (by omega)
   refine⟨k+1,⟨by omega,fun j hj hjk=>?_⟩,by omega,⟨rfl,rfl,zdT _,trivial⟩,trivial,rfl,rfl⟩;by_cases e:j=k
   ·subst e;exact hb
   ·exact hall j hj (by omega)
  ·have hb:isPt (s.getD (k:Int).toNat 0)=false:=hb;rw[za6 hlt]at hb;(repeat(first|apply zae|apply zab|apply zal|apply zad|apply zac|refine zaa hX zbY rfl trivial ?_|refine zaa hX zbY rfl id ?_|refine zaa hX zbY rfl ⟨id,id⟩ ?_));refine zr ⟨.inr rfl,zaw rfl trivial rfl rfl ?_⟩;show (k:Int)=((zbF isPt s:Nat):Int);rw[zeA hk hall fun _=>hb]
 ·refine xn (σ':=⟨[(0,⟨.str,s⟩),(1,⟨.lit,.func (.func 112) #[] #[]⟩),(5,⟨i64,(k:Int)⟩),(10,⟨.bool,false⟩)],[],0⟩) ⟨⟨rfl,rfl,rfl,zbo (decide_eq_false (by omega)),trivial⟩,trivial,rfl,rfl⟩ ?_;refine zS 4 10 true .bool false rfl rfl rfl rfl rfl rfl ?_;refine zS 4 10 true .bool false rfl rfl rfl rfl rfl rfl ?_;refine zS 4 10 true .bool false rfl rfl rfl rfl rfl rfl ?_;refine zS 4 10 true .bool false rfl rfl rfl rfl rfl rfl ?_;refine zS 4 10 true .bool false rfl rfl rfl rfl rfl rfl ?_;refine zT hX zbY rfl id ?_;refine zaf rfl (fun hb=>absurd (show false=true from hb) (by decide)) (fun _=>?_);(repeat(first|apply zae|apply zab|apply zal|apply zad|apply zac|refine zaa hX zbY rfl trivial ?_|refine zaa hX zbY rfl id ?_|refine zaa hX zbY rfl ⟨id,id⟩ ?_));refine zr ⟨.inr rfl,zaw rfl trivial rfl rfl ?_⟩;show (k:Int)=((zbF isPt s:Nat):Int);rw[zeA hk hall fun h=>absurd h hlt]
theorem zgf (c:UInt8) (r:List UInt8):zay (c::r)=if isLt c=true then zbF isPt (c::r) else 0:=rfl
def zjp:Ctr:={ args:=[.str],pre:=fun _=>[],res:=i64,own:=none,out:=fun x=>((zay x.1:Nat):Int) }
def kWl:Kn:={ gmK with C:=[(111,cLt),(52,zlw 112 isPt)] }
theorem zdz:KnOk Tryz.prog gmG kWl:=zaC.with (.cons zpf <| .cons znT .nil)
theorem zie:yK Tryz.prog gmG 65 zjp:=by
 refine zaq (K:=kWl) zdz Tryz.func65 rfl rfl Tryz.call65 rfl (by decide) (by intro h;cases h) ?_;rintro w0 X hX ⟨(s:List UInt8),_⟩ hp;change AWP _ _ _ _ _ ⟨[(0,⟨.str,s⟩)],[],0⟩ _;(repeat(first|apply zae|apply zab|apply zal|apply zad|apply zac|refine zaa hX zdz rfl trivial ?_|refine zaa hX zdz rfl id ?_|refine zaa hX zdz rfl ⟨id,id⟩ ?_));(repeat(first|apply zae|apply zab|apply zac|apply zad));refine zai ?_;refine zN 3 hX zdz rfl trivial ?_;cases s with
 |nil=>
  refine xn (σ':=⟨[(0,⟨.str,([]:List UInt8)⟩),(5,⟨.bool,true⟩)],[],0⟩) ⟨⟨rfl,zbo (zbx.2 rfl),trivial⟩,trivial,rfl,rfl⟩ ?_;refine zS 2 5 false .bool false rfl rfl rfl rfl rfl rfl ?_;refine zS 2 5 false .bool false rfl rfl rfl rfl rfl rfl ?_;refine zS 2 5 false .bool false rfl rfl rfl rfl rfl rfl ?_;refine zS 2 5 false .bool false rfl rfl rfl rfl rfl rfl ?_;refine zT hX zdz rfl id ?_;refine zaf rfl (fun _=>?_) (fun hb=>absurd (show true=false from hb) (by decide));(repeat(first|apply zae|apply zab|apply zal|apply zad|apply zac|refine zaa hX zdz rfl trivial ?_|refine zaa hX zdz rfl id ?_|refine zaa hX zdz rfl ⟨id,id⟩ ?_));exact zr ⟨.inr rfl,zaw rfl trivial rfl rfl rfl⟩
 |cons c r=>
  refine xn (σ':=⟨[(0,⟨.str,(c::r:List UInt8)⟩),(5,⟨.bool,false⟩)],[],0⟩) ⟨⟨rfl,zbo (qX.2 fun h=>by cases zbx.1 h),trivial⟩,trivial,rfl,rfl⟩ ?_;have n1:(0:Int) < (((c::r).length:Nat):Int):=by rw[zt];omega
  refine zT hX zdz rfl ⟨fun _=>⟨rfl,xF 0,n1⟩,fun _=>rfl,fun _=>rfl,fun _=>rfl⟩ ?_;refine zaf rfl (fun hb=>?_) (fun hb=>?_)
  ·have hb:(!isLt c)=true:=hb;(repeat(first|apply zae|apply zab|apply zal|apply zad|apply zac|refine zaa hX zdz rfl trivial ?_|refine zaa hX zdz rfl id ?_|refine zaa hX zdz rfl ⟨id,id⟩ ?_));refine zr ⟨.inr rfl,zaw rfl trivial rfl rfl ?_⟩;show (0:Int)=((zay (c::r):Nat):Int);rw[zgf,if_neg (by simpa using hb)];rfl
  ·have hb:(!isLt c)=false:=hb;apply zab;refine za (za ?_);refine zaa hX zdz rfl ?_ ?_
   ·exact rfl
   refine zr ⟨.inr rfl,zaw rfl trivial rfl rfl ?_⟩;show ((zbF isPt (c::r):Nat):Int)=((zay (c::r):Nat):Int);rw[zgf,if_pos (by simpa using hb)]
def numA (acc:Nat) (l:List UInt8):Nat:=l.foldl (fun n c=>10 * n+(c.toNat - 48)) acc
theorem zoG:∀ (l:List UInt8) (acc:Nat),acc≤numA acc l
 | [],_=>zl _
 |c::r,acc=>by
  have:=zoG r (10 * acc+(c.toNat - 48));show acc≤numA (10 * acc+(c.toNat - 48)) r;omega
theorem zma (c:UInt8):isDg c=true↔48≤c.toNat∧c.toNat≤57:=by
 unfold isDg;rw[zf,decide_eq_true_iff,decide_eq_true_iff,yX,yX];exact Iff.rfl
theorem ziq:∀ (l:List UInt8) (acc:Nat),(∀ c∈l,isDg c=true)->acc < 18446744073709551616->(kI (2 ^ 64 - 1) acc l= .ok (numA acc l)∧numA acc l < 18446744073709551616)∨(kI (2 ^ 64 - 1) acc l= .range∧18446744073709551616≤numA acc l)
 | [],acc,_,ha=>.inl ⟨rfl,ha⟩
 |c::r,acc,h,ha=>by
  obtain⟨h1,h2⟩:=(zma c).1 (h c (yf ..));have hge:=zoG r (10 * acc+(c.toNat - 48));have e:numA acc (c::r)=numA (10 * acc+(c.toNat - 48)) r:=rfl;rw[kI,if_pos ⟨h1,h2⟩,e];by_cases h3:1844674407370955162≤acc
  ·rw[if_pos h3];exact .inr ⟨rfl,by omega⟩
  ·rw[if_neg h3];have e2:acc * 10+(c.toNat - 48)=10 * acc+(c.toNat - 48):=by omega
   rw[e2];by_cases h4:2 ^ 64 - 1 < 10 * acc+(c.toNat - 48)
   ·rw[if_pos h4];exact .inr ⟨rfl,by omega⟩
   ·rw[if_neg h4];exact ziq r _ (fun x hx=>h x (yy _ hx)) (by omega)
theorem zm7 {l:List UInt8} (hl:l≠ []) (h:∀ c∈l,isDg c=true):(Lib.parseIntB 64 l= .ok ((numv l:Nat):Int))∨(Lib.parseIntB 64 l= .range∧zdd≤numv l):=by
 cases l with
 |nil=>exact absurd rfl hl
 |cons c r=>
  obtain⟨h1,h2⟩:=(zma c).1 (h c (yf ..));rw[Lib.parseIntB_plain 64 c r (by omega) (by omega)];unfold Lib.parseUintB;rw[if_neg (by simp)];have e:numv (c::r)=numA 0 (c::r):=rfl;rw[e];unfold zdd;rcases ziq (c::r) 0 h (by omega) with ⟨h3,h4⟩|⟨h3,h4⟩
  ·rw[h3];unfold Lib.signlessC;by_cases h5:2 ^ (64 - 1)≤numA 0 (c::r)
   ·exact .inr ⟨if_pos h5,by omega⟩
   ·exact .inl (if_neg h5)
  ·rw[h3];exact .inr ⟨rfl,by omega⟩
def zp1 (s:List UInt8) (v:Int) (ev:zh):Prop:=(ev= .nilIface∧v=((numv s:Nat):Int))∨((∃ t p,ev= .iface t p)∧zdd≤numv s)
theorem zi4 {s:List UInt8} (hs:s≠ []) (hd:∀ c∈s,isDg c=true) (hl:s.length≤100000) (w:zj) (hG:gmH w):
  Calls Tryz.prog 177 #[.string ⟨s.toArray⟩,.int .i64 10,.int .i64 64] w fun e w'=>∃ v ev,e= .returned (.tuple #[.int .i64 v,ev])∧yV w.heap.size w w'∧zp1 s v ev:=by
 rcases zm7 hs hd with h1|⟨h1,h2⟩
 ·refine kw (Any.strconv_ParseInt_10_at64_ok Tryz.laysC174 ⟨s.toArray⟩ (by show s.length≤9223372036854775806;omega) _ h1 w) ?_;rintro e w' ⟨rfl,hw⟩;refine⟨_,_,rfl,?_,.inl ⟨rfl,rfl⟩⟩;rcases hw with rfl|⟨t,rfl⟩
  ·exact zV _ _
  ·exact Lib.bytesWorld_below _ _ _
 ·obtain⟨ev,hv,hev⟩:=hG.2;refine kw (Any.strconv_ParseInt_10_at64_range Tryz.laysC174 ⟨s.toArray⟩ (by show s.length≤281474976710656;omega) h1 ev w hv hev) ?_;rintro e w' ⟨N,rfl,_,_,hb⟩;exact⟨_,_,rfl,hb,.inr ⟨⟨_,_,rfl⟩,h2⟩⟩
theorem zfr {α:Type} {p:α->Bool} {c:α}:∀ {l:List α},c∈l.takeWhile p->p c=true
 |x::l,h=>by
  rw[List.takeWhile_cons]at h;split at h
  ·rename_i hx;rcases List.mem_cons.1 h with rfl|h
   ·exact hx
   ·exact zfr h
  ·cases h
theorem errT:Tryz.prog.underlying 114=some (.interface (Tryz.prog.methodsAt 114)):=by kernel_rfl
def zkl:zh->Bool
 | .nilIface=>true
 |_=>false
theorem eqlNil {a:Act} {w:zj} {x:zE} {d:Nat} {ty:zn} {pos:String} {af:Array Edge} {ev:zh} (hx:a.eval x=ev) (he:ev= .nilIface∨∃ t p,ev= .iface t p):
  (execOp a.eval { dst:=some d,op:=Op.binOp .eql 114 x (.const .nilIface) 114,type:=ty,pos:=pos,after:=af,guard:=none }).run Tryz.prog w= .ok (.value (.bool (zkl ev))) w:=by
 have hn:a.eval (.const .nilIface)= .nilIface:=rfl;unfold execOp;rcases he with rfl|⟨t,p,rfl⟩
 ·simp[hx,hn,eqGuard,run_eql_nil_nil _ _ errT,zkl]
 ·simp[hx,hn,eqGuard,run_eql_held_nil _ _ _ _ errT,zkl]
theorem ztk:(1125899906842624:Int)=((zdd:Nat):Int):=by decide
theorem zm5 (M:Int) (hM:M=((zdd:Nat):Int)) {s:List UInt8} {v:Int} {ev:zh} {b:Bool} (hend:zp1 s v ev) (hb:b=zkl ev):(bif b then decide (v < M) else false)=true↔(b=true∧v=((numv s:Nat):Int)∧numv s < zdd):=by
 rcases hend with ⟨rfl,rfl⟩|⟨⟨t,p,rfl⟩,hn⟩
 ·rw[hb];show decide (((numv s:Nat):Int) < M)=true↔_;rw[decide_eq_true_iff];exact⟨fun h=>⟨rfl,rfl,by omega⟩,fun h=>by omega⟩
 ·rw[hb];exact⟨fun h=>(by cases h),fun h=>(by cases h.1)⟩
abbrev zTk:TokT:=(0,0,0,[],0,())
def zeS (s:List UInt8):TokT×Bool×Unit:=match zcV s with
 |some (k,n,t,x)=>((k,0,(n:Nat),t,x,()),true,())
 |none=>(zTk,false,())
def zmz:Ctr:={ args:=[.str],pre:=fun x=>[x.1≠ [],zg x.1≤100000],res:=.tup tk (.tup .bool .unit),own:=none,out:=fun x=>zeS x.1 }
def kNu:Kn:={ gmK with C:=[(52,zlw 113 isDg)] }
theorem zbJ:KnOk Tryz.prog gmH kNu:=zaj.with (.cons znU.lift .nil)
theorem znc:yK Tryz.prog gmH 131 zmz:=by
 refine zaq (K:=kNu) zbJ Tryz.func131 rfl rfl Tryz.call131 rfl (by decide) (by intro h;cases h) ?_;rintro w0 X hX ⟨(s:List UInt8),_⟩ hp;obtain⟨hne,hlen⟩:s≠ []∧s.length≤100000:=hp;change AWP _ _ _ _ _ ⟨[(0,⟨.str,s⟩)],[],0⟩ _;have hpos:0 < s.length:=List.length_pos_iff.2 hne;(repeat(first|apply zae|apply zab|apply zal|apply zad|apply zac|refine zaa hX zbJ rfl trivial ?_|refine zaa hX zbJ rfl id ?_|refine zaa hX zbJ rfl ⟨id,id⟩ ?_));have n0:(0:Int) < ((s.length:Nat):Int):=by omega
 refine za (za ?_);refine zaa hX zbJ rfl ?_ ?_
 ·exact⟨xF 0,n0⟩
 have hsg:zaQ s≤1∧zaQ s≤s.length:=by
  unfold zaQ;split<;>omega
 obtain⟨c,r,rfl⟩:∃ c r,s=c::r:=by
  cases s with
  |nil=>exact absurd rfl hne
  |cons c r=>exact⟨c,r,rfl⟩
 refine qY (σ':=⟨[(0,⟨.str,(c::r:List UInt8)⟩),(2,⟨.optr tk,⟨0,tk,.here⟩⟩),(3,⟨.bool,false⟩),(4,⟨i64,((zaQ (c::r):Nat):Int)⟩)],[(0,some (.box tk zTk))],1⟩) ?_ ?_
 ·refine zaf rfl (fun hb=>?_) (fun hb=>?_)
  ·have hb:(((c.toNat:Nat):Int)==(((45:UInt8).toNat:Nat):Int))=true:=hb;rw[u8eq,beq_iff_eq]at hb;subst hb;refine za (za ?_);refine zaa hX zbJ rfl ?_ ?_
   ·trivial
   exact⟨⟨rfl,rfl,rfl,rfl,trivial⟩,⟨rfl,trivial⟩,rfl,rfl⟩
  ·have hb:(((c.toNat:Nat):Int)==(((45:UInt8).toNat:Nat):Int))=false:=hb;rw[u8eq]at hb;have hs0:zaQ (c::r)=0:=by
    unfold zaQ;rw[if_neg];intro h;rw[ya h]at hb;cases hb
   apply zab;exact⟨⟨rfl,rfl,rfl,vI64 (by rw[hs0];rfl),trivial⟩,⟨rfl,trivial⟩,rfl,rfl⟩
 generalize hs:(c::r:List UInt8)=s at *;have p0:(0:Int)≤((zaQ s:Nat):Int):=by omega
 have p1:((zaQ s:Nat):Int)≤((s.length:Nat):Int):=by omega
 refine za (za ?_);refine zaa hX zbJ rfl ?_ ?_
 ·exact⟨p0,p1,rfl⟩
 have hdl:(zaN s).length≤s.length - zaQ s:=by
  have:(zaN s).length≤(s.drop (zaQ s)).length:=(jq _).length_le;rwa[yS]at this
 have hd5:((zbF isDg (jC (((zaQ s:Nat):Int)).toNat s):Nat):Int)=(((zaN s).length:Nat):Int):=by
  rw[zD];rfl
 refine zap (σ':=⟨[(0,⟨.str,s⟩),(2,⟨.optr tk,⟨0,tk,.here⟩⟩),(3,⟨.bool,false⟩),(4,⟨i64,((zaQ s:Nat):Int)⟩),(5,⟨i64,(((zaN s).length:Nat):Int)⟩)],[(0,some (.box tk zTk))],1⟩) ⟨⟨rfl,rfl,rfl,rfl,vI64 hd5,trivial⟩,⟨rfl,trivial⟩,rfl,rfl⟩ ?_;refine za (za ?_);refine zaa hX zbJ rfl ?_ ?_
 ·trivial
 refine zaf rfl (fun hb=>?_) (fun hb=>?_)
 ·have hb:decide ((((zaN s).length:Nat):Int)=0)=true:=hb;have hb:=of_decide_eq_true hb;(repeat(first|apply zae|apply zab|apply zal|apply zad|apply zac|refine zaa hX zbJ rfl trivial ?_|refine zaa hX zbJ rfl id ?_|refine zaa hX zbJ rfl ⟨id,id⟩ ?_));refine zr ⟨.inr rfl,zbd (by decide) rfl rfl trivial ?_⟩;show (zTk,(false,()))=zeS s;unfold zeS zcV;rw[if_pos (by omega)]
 have hb:decide ((((zaN s).length:Nat):Int)=0)=false:=hb;have hd0:(zaN s).length≠0:=fun h=>of_decide_eq_false hb (by omega);apply zab;have q0:inR .i64 (((zaQ s:Nat):Int)+(((zaN s).length:Nat):Int)):=zam (by omega) (by omega);have q1:(0:Int)≤((zaQ s:Nat):Int)+(((zaN s).length:Nat):Int):=by omega
 have q2:((zaQ s:Nat):Int)+(((zaN s).length:Nat):Int)≤((s.length:Nat):Int):=by omega
 have q3:((zaQ s:Nat):Int) < ((s.length:Nat):Int):=by omega
 refine za (za ?_);refine zaa hX zbJ rfl ?_ ?_
 ·exact⟨q0,q0,q1,q2⟩
 have hm:((zaQ s:Nat):Int)+(((zaN s).length:Nat):Int)=((zaQ s+(zaN s).length:Nat):Int):=by omega
 refine zap (σ':=⟨[(0,⟨.str,s⟩),(2,⟨.optr tk,⟨0,tk,.here⟩⟩),(3,⟨.bool,false⟩),(4,⟨i64,((zaQ s:Nat):Int)⟩),(5,⟨i64,(((zaN s).length:Nat):Int)⟩),(6,⟨.optr tk,⟨1,tk,.here⟩⟩)],[(0,some (.box tk zTk)),(1,some (.box tk (3,0,((zaQ s+(zaN s).length:Nat):Int),s.take (zaQ s+(zaN s).length),1125899906842624,())))],2⟩) ⟨⟨rfl,rfl,rfl,rfl,rfl,rfl,trivial⟩,⟨rfl,zfH ?_,trivial⟩,rfl,rfl⟩ ?_
 ·show ((3:Int),(0:Int),((zaQ s:Nat):Int)+(((zaN s).length:Nat):Int),List.take (((zaQ s:Nat):Int)+(((zaN s).length:Nat):Int)).toNat s,(1125899906842624:Int),())=_;rw[hm,zD]
 have hds:zaN s=(s.drop (zaQ s)).takeWhile isDg:=rfl;have hhd:(zaN s).head? =some (s.getD (zaQ s) 0):=by
  rw[hds];have hne2:(s.drop (zaQ s)).takeWhile isDg≠ []:=fun h=>hd0 (by rw[hds,h];rfl);rw[List.head?_eq_some_head hne2,List.head_takeWhile]
  congr 1
  rw[List.head_drop,List.getD_eq_getElem?_getD,List.getElem?_eq_getElem (by omega)];rfl
 refine za (za ?_);refine zaa hX zbJ rfl ?_ ?_
 ·exact⟨p0,q3,fun h=>⟨h,h,q0⟩,fun h=>h,fun h=>h⟩
 have htest:(bif ((((s.getD (((zaQ s:Nat):Int)).toNat 0).toNat:Nat):Int)==(((48:UInt8).toNat:Nat):Int)) then decide (((zaQ s:Nat):Int)+(((zaN s).length:Nat):Int) > 1) else false)=decide ((zaN s).head? =some 48∧1 < zaQ s+(zaN s).length):=by
  rw[u8eq,zcs,zD,hhd,yq,zf,beq_iff_eq,decide_eq_true_iff,decide_eq_true_iff,Option.some_inj];constructor
  ·rintro ⟨h1,h2⟩;exact⟨h1,by omega⟩
  ·rintro ⟨h1,h2⟩;exact⟨h1,by omega⟩
 have hno:zcV s=if (zaN s).head? =some 48∧1 < zaQ s+(zaN s).length then some (5,zaQ s+(zaN s).length,s.take (zaQ s+(zaN s).length),(zdd:Int)) else some (3,zaQ s+(zaN s).length,s.take (zaQ s+(zaN s).length),valN s):=by
  rw[zcV,if_neg hd0]
 refine zaf rfl (fun hb=>?_) (fun hb=>?_)
 ·have hb:=htest.symm.trans hb;have hb:=of_decide_eq_true hb;(repeat(first|apply zae|apply zab|apply zal|apply zad|apply zac|refine zaa hX zbJ rfl trivial ?_|refine zaa hX zbJ rfl id ?_|refine zaa hX zbJ rfl ⟨id,id⟩ ?_));refine zr ⟨.inr rfl,zbd (by decide) rfl rfl trivial ?_⟩;show (((5:Int),(0:Int),((zaQ s+(zaN s).length:Nat):Int),s.take (zaQ s+(zaN s).length),(1125899906842624:Int),()),(true,()))=zeS s;unfold zeS;rw[hno,if_pos hb];rfl
 have hb:=htest.symm.trans hb;have hb:=of_decide_eq_false hb;rw[if_neg hb]at hno;apply zab;have hlist:((s.take ((((zaQ s:Nat):Int)+(((zaN s).length:Nat):Int))).toNat).drop (((zaQ s:Nat):Int)).toNat)=zaN s:=by
  rw[hm,zD,zD,List.drop_take,Nat.add_sub_cancel_left,hds];exact List.prefix_iff_eq_take.1 (jq isDg) |>.symm
 have hdig:∀ c∈zaN s,isDg c=true:=fun c hc=>by
  rw[hds]at hc;exact zfr hc
 have hdne:zaN s≠ []:=fun h=>hd0 (by rw[h];rfl);(repeat(first|apply zae|apply zab|apply zac|apply zad));refine zai ?_;refine zN 6 hX zbJ rfl ⟨q0,p0,(by omega:((zaQ s:Nat):Int)≤((zaQ s:Nat):Int)+(((zaN s).length:Nat):Int)),q2⟩ ?_;refine qq rfl (fun c e=>by cases e) fun β a w hsim=>?_;have h46:a.eval (.tmp 46)= .string ⟨(zaN s).toArray⟩:=by
  have:=(RepV.str (hsim.ops (.tmp 46))).1;rwa[hlist]at this
 refine zgB (f:=177) rfl Tryz.call177 ?_;show Calls _ _ ((#[uM 46,.const (.int .i64 10),.const (.int .i64 64)].toList.map a.eval).toArray) _ _;rw[show ((#[uM 46,.const (.int .i64 10),.const (.int .i64 64)].toList.map a.eval).toArray:Array zh)= #[.string ⟨(zaN s).toArray⟩,.int .i64 10,.int .i64 64] by show #[a.eval (.tmp 46),_,_]=_;rw[h46];rfl];refine (zi4 hdne hdig (by omega) w (hX.2.2 w hsim.bel)).mono ?_;rintro e w'' ⟨v,ev,rfl,hb2,hend⟩;refine⟨_,rfl,⟨(47,⟨.lit,.tuple #[.int .i64 v,ev]⟩)::_,_,_⟩,β,hsim.put hb2 (v:=⟨.lit,.tuple #[.int .i64 v,ev]⟩) rfl (zk _) (by show 47 < 65;omega),?_⟩;refine zN 1 hX zbJ rfl trivial ?_;refine qq rfl (fun c e=>by cases e) fun β a w' hs'=>?_;have h33:a.eval (.tmp 40)= .tuple #[.int .i64 v,ev]:=hs'.ops (.tmp 40);refine zbz (u:=.int .i64 v) (w':=w') ?_ ⟨⟨(48,⟨i64,v⟩)::_,_,_⟩,β,hs'.put (zV _ _) (v:=⟨i64,v⟩) (RepV.ofInt (k:=.i64)) (zk _) (by show 48 < 65;omega),?_⟩
 ·show (execOp a.eval { dst:=some 48,op:=Op.extract (.tmp 40) 0,type:=_,pos:=_,after:=_,guard:=none }).run _ _=_;unfold execOp;simp[h33,Instr.extract]
 refine qq rfl (fun c e=>by cases e) fun β a w' hs'=>?_;have h33:a.eval (.tmp 40)= .tuple #[.int .i64 v,ev]:=hs'.ops (.tmp 40);refine zbz (u:=ev) (w':=w') ?_ ⟨⟨(49,⟨.lit,ev⟩)::_,_,_⟩,β,hs'.put (zV _ _) (v:=⟨.lit,ev⟩) rfl (zk _) (by show 49 < 65;omega),?_⟩
 ·show (execOp a.eval { dst:=some 49,op:=Op.extract (.tmp 40) 1,type:=_,pos:=_,after:=_,guard:=none }).run _ _=_;unfold execOp;simp[h33,Instr.extract]
 refine zT hX zbJ rfl trivial ?_;refine zap (σ':=⟨[(0,⟨.str,s⟩),(2,⟨.optr tk,⟨0,tk,.here⟩⟩),(4,⟨i64,((zaQ s:Nat):Int)⟩),(6,⟨.optr tk,⟨1,tk,.here⟩⟩),(7,⟨i64,v⟩),(8,⟨.lit,ev⟩)],[(0,some (.box tk zTk)),(1,some (.box tk (3,0,((zaQ s+(zaN s).length:Nat):Int),s.take (zaQ s+(zaN s).length),1125899906842624,())))],2⟩) ⟨⟨rfl,rfl,rfl,rfl,rfl,rfl,trivial⟩,⟨rfl,rfl,trivial⟩,rfl,rfl⟩ ?_;(repeat(first|apply zae|apply zab|apply zac|apply zad));refine zai ?_;refine zN 1 hX zbJ rfl trivial ?_;refine qq rfl (fun c e=>by cases e) fun β a w' hs'=>?_;have h38:a.eval (.tmp 50)=ev:=hs'.ops (.tmp 50);obtain⟨b,hbv⟩:∃ b,b=zkl ev:=⟨_,rfl⟩;refine zbz (u:=.bool b) (w':=w') (by rw[hbv];exact eqlNil h38 (hend.imp (fun h=>h.1) (fun h=>h.1))) ⟨⟨(51,⟨.bool,b⟩)::_,_,_⟩,β,hs'.put (zV _ _) (v:=⟨.bool,b⟩) RepV.ofBool (zk _) (by show 51 < 65;omega),?_⟩;have hsmall:(bif b then decide (v < 1125899906842624) else false)=true↔(b=true∧v=((numv (zaN s):Nat):Int)∧numv (zaN s) < zdd):=zm5 _ ztk hend hbv;have hbig:¬ (bif b then decide (v < 1125899906842624) else false)=true->zdd≤numv (zaN s):=fun h=>by
  rcases hend with ⟨rfl,rfl⟩|⟨⟨t,p,rfl⟩,hn⟩
  ·rcases Nat.lt_or_ge (numv (zaN s)) zdd with h1|h1
   ·exact absurd (hsmall.2 ⟨hbv,rfl,h1⟩) h
   ·exact h1
  ·exact hn
 refine zT hX zbJ rfl ?_ ?_
 ·exact⟨fun h=>h,fun h=>h⟩
 have hfin:valN s=if zaQ s=1 then -((min (numv (zaN s)) zdd:Nat):Int) else ((min (numv (zaN s)) zdd:Nat):Int):=rfl
 refine qY (σ':=⟨[(2,⟨.optr tk,⟨0,tk,.here⟩⟩),(4,⟨i64,((zaQ s:Nat):Int)⟩),(6,⟨.optr tk,⟨1,tk,.here⟩⟩)],[(0,some (.box tk zTk)),(1,some (.box tk (3,0,((zaQ s+(zaN s).length:Nat):Int),s.take (zaQ s+(zaN s).length),((min (numv (zaN s)) zdd:Nat):Int),())))],2⟩) ?_ ?_
 ·refine zaf rfl (fun hb=>?_) (fun hb=>?_)
  ·have hb:(bif b then decide (v < 1125899906842624) else false)=true:=hb;obtain⟨_,h2,h3⟩:=hsmall.1 hb;refine za (za ?_);refine zaa hX zbJ rfl ?_ ?_
   ·trivial
   refine⟨⟨rfl,rfl,rfl,trivial⟩,⟨rfl,zfH ?_,trivial⟩,rfl,rfl⟩;rw[Nat.min_eq_left (Nat.le_of_lt h3), <-h2]
  ·have hb:¬ (bif b then decide (v < 1125899906842624) else false)=true:=by
    intro h;have hb:(bif b then decide (v < 1125899906842624) else false)=false:=hb;rw[hb]at h;cases h
   refine zab ⟨⟨rfl,rfl,rfl,trivial⟩,⟨rfl,zfH ?_,trivial⟩,rfl,rfl⟩;rw[Nat.min_eq_right (hbig hb)];rfl
 have hbnd:((min (numv (zaN s)) zdd:Nat):Int)≤1125899906842624:=by
  have:=Nat.min_le_right (numv (zaN s)) zdd;unfold zdd at *;omega
 refine za (za ?_);refine zaa hX zbJ rfl ?_ ?_
 ·trivial
 refine qY (σ':=⟨[(2,⟨.optr tk,⟨0,tk,.here⟩⟩),(6,⟨.optr tk,⟨1,tk,.here⟩⟩)],[(0,some (.box tk zTk)),(1,some (.box tk (3,0,((zaQ s+(zaN s).length:Nat):Int),s.take (zaQ s+(zaN s).length),valN s,())))],2⟩) ?_ ?_
 ·refine zaf rfl (fun hb=>?_) (fun hb=>?_)
  ·have hb:decide (((zaQ s:Nat):Int)=1)=true:=hb;have hb:=of_decide_eq_true hb;refine za (za ?_);refine zaa hX zbJ rfl ?_ ?_
   ·show inR .i64 (-((min (numv (zaN s)) zdd:Nat):Int));exact zam (by omega) (by omega)
   refine⟨⟨rfl,rfl,trivial⟩,⟨rfl,zfH ?_,trivial⟩,rfl,rfl⟩;rw[hfin,if_pos (by omega)]
  ·have hb:decide (((zaQ s:Nat):Int)=1)=false:=hb;have hb:=of_decide_eq_false hb;refine zab ⟨⟨rfl,rfl,trivial⟩,⟨rfl,zfH ?_,trivial⟩,rfl,rfl⟩;rw[hfin,if_neg (by omega)]
 (repeat(first|apply zae|apply zab|apply zal|apply zad|apply zac|refine zaa hX zbJ rfl trivial ?_|refine zaa hX zbJ rfl id ?_|refine zaa hX zbJ rfl ⟨id,id⟩ ?_));refine zr ⟨.inr rfl,zbd (by decide) rfl rfl trivial ?_⟩;show (((3:Int),(0:Int),((zaQ s+(zaN s).length:Nat):Int),s.take (zaQ s+(zaN s).length),valN s,()),(true,()))=zeS s;unfold zeS;rw[hno]
section
open Go Go.RowKit Go.ChangeShapes Go.WideShapes Go.ChangeAt
theorem own:ownKnob Tryz.prog.godebug=none:=by kernel_rfl
theorem zta:laidOutB Tryz.prog=true:=by kernel_rfl
abbrev zo8:List (String×DataW Unit):=Rows.grammarParseMatchesReferenceRow.laid
theorem tab_eq:(zo8.filter fun x=>x.1=="internal/strconv.uint64pow10")=[("internal/strconv.uint64pow10",Lib.tabData .u64 Lib.pow10Tab)]:=by kernel_rfl
theorem err_eq:(zo8.filter fun x=>x.1=="strconv.ErrRange")=[("strconv.ErrRange",Rows.laid_strconv_ErrRange)]:=by kernel_rfl
theorem znd:(zo8.filter fun x=>x.2.handleName?.isSome)=[]:=by kernel_rfl
theorem zrc:(Tryz.prog.globals[5]?).map (·.type)=some 267:=by kernel_rfl
theorem zrr:Tryz.prog.cellsOf 267=20:=by kernel_rfl
theorem zrq:Tryz.prog.cellsOf 236=1:=by kernel_rfl
theorem gErr:Tryz.prog.globalNamed "strconv.ErrRange"=some 4:=by kernel_rfl
theorem zrd:(Tryz.prog.globals[4]?).map (·.type)=some 114:=by kernel_rfl
theorem ztK {W:zj} (h:laidMetH Tryz.prog zo8 W):gmH W:=by
 have h1:laidMet Tryz.prog zo8 W:=by
  have:=(laidMetH_iff.1 h).1;rwa[List.filter_eq_self.2 (fun x hx=>by
   have hn:=(List.filter_eq_nil_iff.1 znd) x hx;cases he:x.2.handleName? with
   |none=>rfl
   |some s=>rw[he]at hn;exact absurd rfl hn)]at this
 have ht:=h1.filter fun x=>x.1=="internal/strconv.uint64pow10";have he:=h1.filter fun x=>x.1=="strconv.ErrRange";rw[tab_eq]at ht;rw[err_eq]at he;refine⟨Lib.tabIs_of_head (rest:=[]) ztp zrc Tryz.underlying267 Tryz.underlying236 zrq zrr ht,?_⟩;obtain⟨ps,⟨g',t',cs,fuel,p,q,hg',ht',hvar,hd,_,_⟩,_⟩:=he;obtain rfl:=ya (gErr.symm.trans hg');obtain rfl:=ya (zrd.symm.trans ht');obtain⟨_,u,v,hcs,_,_⟩:=iface_of_trod errT hd;refine⟨.iface u v,?_,.inr ⟨u,v,rfl⟩⟩;unfold World.var? at hvar;rw[gErr]at hvar;simp only[Option.bind_some]at hvar;unfold xo;cases ho:W.heap[4]? with
 |none=>rw[ho]at hvar;cases hvar
 |some o=>
  rw[ho]at hvar;cases o<;>simp at hvar;rename_i c t fz;subst hvar;simp;rw[<-Array.getElem?_toList,hcs];rfl
def numD:DataW Unit->Int
 | .lit (.int _ z)=>z
 |_=>0
def zpr:DataW Unit->List Int
 | .agg ds=>ds.flatMap fun d=>match d with
  | .agg es=>es.map numD
  |d=>[numD d]
 |_=>[]
def setG (g:Nat) (cs:List zh) (h:Array Obj):Array Obj:=h.modify g fun
 | .cells _ t frozen=>.cells cs.toArray t frozen
 |o=>o
noncomputable def heapW (os:Os):Array Obj:=
 let h:=(World.holding Tryz.prog os ⟨#[],#[],[]⟩).heap
 let n:=h.size
 ((setG 6 ((zpr Rows.laid_math_bits_deBruijn32tab).map (.int .u8 ·)) <|
   setG 7 ((zpr Rows.laid_math_bits_deBruijn64tab).map (.int .u8 ·)) <|
   setG 5 ((zpr Rows.laid_internal_strconv_uint64pow10).map (.int .u64 ·)) <|
   setG 1 ((zpr Rows.laid_unicode_utf8_acceptRanges).map (.int .u8 ·)) <|
   setG 0 ((zpr Rows.laid_unicode_utf8_first).map (.int .u8 ·)) <|
   setG 4 [.iface 273 (.pointer (some ⟨n,0,none⟩))] <|
   setG 3 [.iface 273 (.pointer (some ⟨n+1,0,none⟩))] h).push
    (.cells #[.string ⟨#[118,97,108,117,101,32,111,117,116,32,111,102,32,114,97,110,103,101]⟩] 275)).push
    (.cells #[.string ⟨#[105,110,118,97,108,105,100,32,115,121,110,116,97,120]⟩] 275)
noncomputable def zht (os:Os):zj:={ World.holding Tryz.prog os ⟨#[],#[],[]⟩ with heap:=heapW os }
end
def cSym:Ctr:={ args:=[.str,.str],pre:=fun x=>[x.1=[40,41,61],∃ c,x.2.1=[c]],res:=.bool,own:=none,out:=fun x=>decide (0≤xm x.1 (x.2.1.getD 0 0)) }
theorem sym_ok:yK Tryz.prog gmG 132 cSym:=by
 refine⟨Tryz.call132,fun w O xs vs hO hr hp hG=>?_⟩;obtain⟨(s:List UInt8),(d:List UInt8),_⟩:=xs;obtain⟨h1,c,h2⟩:s=[40,41,61]∧∃ c,d=[c]:=hp;subst h1;subst h2;obtain⟨v1,r1,rfl,e1,v2,r2,rfl,e2,rfl⟩:=hr;have e1: [v1]=[jg ⟨#[40,41,61]⟩]∧_:=e1;have e2: [v2]=[jg ⟨#[c]⟩]∧_:=e2;obtain⟨e1,_⟩:=e1;obtain⟨e2,_⟩:=e2;cases e1;cases e2;refine kw (Any.strings_Contains_one Tryz.lays144 ⟨#[40,41,61]⟩ c w) ?_;rintro e w' ⟨rfl,rfl⟩;refine⟨_,rfl,zV _ _,fun β=>?_⟩;rfl
def zh0 (sk:Nat):List UInt8->TokT
 | []=>(0,(sk:Int),0,[],0,())
 |c::r=>
  if 0 < zay (c::r) then (1,(sk:Int),(zay (c::r):Nat),(c::r).take (zay (c::r)),0,())
  else if c=64∧0 < zay r then (2,(sk:Int),(zay r:Nat)+1,r.take (zay r),0,())
  else match zcV (c::r) with
   |some (k,n,t,x)=>(k,(sk:Int),(n:Nat),t,x,())
   |none=>if c=40∨c=41∨c=61 then (4,(sk:Int),1,[c],0,()) else (5,(sk:Int),1,[c],0,())
theorem zn5 (sk:Nat) (c:UInt8) (r:List UInt8) (h:¬ 0 < zay (c::r)):zh0 sk (c::r)=(if c=64∧0 < zay r then (2,(sk:Int),((zay r:Nat):Int)+1,r.take (zay r),0,())
 else match zcV (c::r) with
  |some (k,n,t,x)=>(k,(sk:Int),((n:Nat):Int),t,x,())
  |none=>if c=40∨c=41∨c=61 then (4,(sk:Int),1,[c],0,()) else (5,(sk:Int),1,[c],0,()):TokT):=if_neg h
theorem zsI (s:List UInt8):zbi s=zh0 (zbF isWh s) (s.drop (zbF isWh s)):=by
 rw[zbi];cases s.drop (zbF isWh s)<;>rfl
theorem znL (c:UInt8):decide (0≤xm [40,41,61] c)=true↔(c=40∨c=41∨c=61):=by
 have key:∀ n:Fin 256,decide (0≤xm [40,41,61] (UInt8.ofNat n.val))=decide (n.val=40∨n.val=41∨n.val=61):=by decide+kernel
 have h:=key ⟨c.toNat,UInt8.toNat_lt c⟩;simp only[UInt8.ofNat_toNat]at h;rw[h,decide_eq_true_iff];constructor
 ·rintro (h|h|h)
  ·exact .inl (qL.1 h)
  ·exact .inr (.inl (qL.1 h))
  ·exact .inr (.inr (qL.1 h))
 ·rintro (rfl|rfl|rfl)<;>decide
def cScan:Ctr:={ args:=[.str],pre:=fun x=>[zg x.1≤100000],res:=tk,own:=none,out:=fun x=>zbi x.1 }
def kSc:Kn:={ gmK with C:=[(52,zlw 53 isWh),(65,zjp),(131,zmz),(132,cSym)] }
theorem zbe:KnOk Tryz.prog gmH kSc:=zaj.with (.cons zjP.lift <| .cons zie.lift <| .cons znc <| .cons sym_ok.lift .nil)
theorem zsH:yK Tryz.prog gmH 79 cScan:=by
 refine zaq (K:=kSc) zbe Tryz.func79 rfl rfl Tryz.call79 rfl (by decide) (by intro h;cases h) ?_;rintro w0 X hX ⟨(s:List UInt8),_⟩ hp;have hlen:s.length≤100000:=hp;change AWP _ _ _ _ _ ⟨[(0,⟨.str,s⟩)],[],0⟩ _;refine za (za ?_);refine zaa hX zbe rfl ?_ ?_
 ·trivial
 refine za (za ?_);refine zaa hX zbe rfl ?_ ?_
 ·exact rfl
 have hsk:=ziQ isWh s;have q0:(0:Int)≤((zbF isWh s:Nat):Int):=by omega
 have q1:((zbF isWh s:Nat):Int)≤((s.length:Nat):Int):=by omega
 refine za (za ?_);refine zaa hX zbe rfl ?_ ?_
 ·exact⟨q0,q1⟩
 obtain⟨u,hu⟩:∃ u,u=s.drop (zbF isWh s):=⟨_,rfl⟩;have hul:u.length≤100000:=by rw[hu,yS];omega
 refine zap (σ':=⟨[(0,⟨.str,u⟩),(2,⟨.optr tk,⟨0,tk,.here⟩⟩),(3,⟨i64,((zbF isWh s:Nat):Int)⟩)],[(0,some (.box tk zTk))],1⟩) ⟨⟨?_,rfl,rfl,trivial⟩,⟨rfl,trivial⟩,rfl,rfl⟩ ?_
 ·show (⟨.str,jC (((zbF isWh s:Nat):Int)).toNat s⟩:V)=⟨.str,u⟩;rw[zD,hu]
 show AWP _ _ _ _ _ _ (fun e σ=>(e= .normal∨e= .ret)∧Done _ _ σ none tk (zbi s));rw[zsI, <-hu];generalize zbF isWh s=sk at q0 q1 ⊢;clear hu hsk hlen q1 hp;cases u with
 |nil=>
  refine za (za ?_);refine zaa hX zbe rfl ?_ ?_
  ·trivial
  refine zaf rfl (fun _=>?_) (fun hb=>?_)
  ·(repeat(first|apply zae|apply zab|apply zal|apply zad|apply zac|refine zaa hX zbe rfl trivial ?_|refine zaa hX zbe rfl id ?_|refine zaa hX zbe rfl ⟨id,id⟩ ?_));exact zr ⟨.inr rfl,zaw rfl trivial rfl rfl rfl⟩
  ·have hb:eqb .str ([]:List UInt8) []=false:=hb;rw[zbx.2 rfl]at hb;cases hb
 |cons c r=>
  have hrl:r.length≤100000:=by rw[zt]at hul;omega
  have n1:(1:Int)≤(((c::r).length:Nat):Int):=by rw[zt];omega
  have n2:(0:Int) < (((c::r).length:Nat):Int):=by rw[zt];omega
  refine za (za ?_);refine zaa hX zbe rfl ?_ ?_
  ·trivial
  refine zaf rfl (fun hb=>?_) (fun _=>?_)
  ·have hb:eqb .str (c::r:List UInt8) []=true:=hb;cases zbx.1 hb
  apply zab;refine za (za ?_);refine zaa hX zbe rfl ?_ ?_
  ·exact⟨(by decide:(0:Int)≤1),n1⟩
  refine zap (σ':=⟨[(0,⟨.str,(c::r:List UInt8)⟩),(2,⟨.optr tk,⟨0,tk,.here⟩⟩),(3,⟨i64,(sk:Int)⟩),(4,⟨.optr tk,⟨1,tk,.here⟩⟩)],[(0,some (.box tk zTk)),(1,some (.box tk (5,0,1,[c],0,())))],2⟩) ⟨⟨rfl,rfl,rfl,rfl,trivial⟩,⟨rfl,rfl,trivial⟩,rfl,rfl⟩ ?_;have hwl:=zev (c::r);refine xz (σ':=⟨[(2,⟨.optr tk,⟨0,tk,.here⟩⟩),(3,⟨i64,(sk:Int)⟩),(4,⟨.optr tk,⟨1,tk,.here⟩⟩)],[(0,some (.box tk zTk)),(1,some (.box tk ((zh0 sk (c::r)).1,0,(zh0 sk (c::r)).2.2)))],2⟩) ?_ ?_
  ·refine za (za ?_);refine zaa hX zbe rfl ?_ ?_
   ·trivial
   have w0':(0:Int)≤((zay (c::r):Nat):Int):=by omega
   have w1':((zay (c::r):Nat):Int)≤(((c::r).length:Nat):Int):=by omega
   refine za (za ?_);refine zaa hX zbe rfl ?_ ?_
   ·trivial
   refine zaf rfl (fun hb=>?_) (fun hb=>?_)
   ·have hb:decide (((zay (c::r):Nat):Int) > 0)=true:=hb;have hb:=of_decide_eq_true hb;refine za (za ?_);refine zaa hX zbe rfl ?_ ?_
    ·exact⟨w0',w1'⟩
    refine⟨⟨rfl,rfl,rfl,trivial⟩,⟨rfl,zfH ?_,trivial⟩,rfl,rfl⟩;rw[zh0,if_pos (by omega)];show ((1:Int),(0:Int),((zay (c::r):Nat):Int),List.take (((zay (c::r):Nat):Int)).toNat (c::r),(0:Int),())=_;rw[zD]
   ·have hb:decide (((zay (c::r):Nat):Int) > 0)=false:=hb;have hb0:=of_decide_eq_false hb;have e0:=zn5 sk c r (by omega);rw[e0];have hwr:=zev r;have v0:(0:Int)≤1:=by decide
    refine za (za ?_);refine zaa hX zbe rfl ?_ ?_
    ·exact⟨v0,n1⟩
    refine zap (σ':=⟨[(0,⟨.str,(c::r:List UInt8)⟩),(2,⟨.optr tk,⟨0,tk,.here⟩⟩),(3,⟨i64,(sk:Int)⟩),(4,⟨.optr tk,⟨1,tk,.here⟩⟩),(6,⟨i64,((zay r:Nat):Int)⟩)],[(0,some (.box tk zTk)),(1,some (.box tk (5,0,1,[c],0,())))],2⟩) ⟨⟨rfl,rfl,rfl,rfl,rfl,trivial⟩,⟨rfl,rfl,trivial⟩,rfl,rfl⟩ ?_;refine za (za ?_);refine zaa hX zbe rfl ?_ ?_
    ·exact⟨xF 0,n2,fun h=>h,fun h=>h⟩
    have ht:(bif (((c.toNat:Nat):Int)==(((64:UInt8).toNat:Nat):Int)) then decide (((zay r:Nat):Int) > 0) else false)=decide (c=64∧0 < zay r):=by
     rw[u8eq,zcs,yq,zf,beq_iff_eq,decide_eq_true_iff,decide_eq_true_iff];constructor
     ·rintro ⟨h1,h2⟩;exact⟨h1,by omega⟩
     ·rintro ⟨h1,h2⟩;exact⟨h1,by omega⟩
    refine zaf rfl (fun hb=>?_) (fun hb=>?_)
    ·have hb:=of_decide_eq_true (ht.symm.trans hb);have g1:inR .i64 (((zay r:Nat):Int)+1):=zam (by omega) (by omega);have g2:(1:Int)≤((zay r:Nat):Int)+1:=by omega
     have g3:((zay r:Nat):Int)+1≤(((c::r).length:Nat):Int):=by rw[zt];omega
     refine za (za ?_);refine zaa hX zbe rfl ?_ ?_
     ·exact⟨g1,g1,v0,g2,g3⟩
     refine⟨⟨rfl,rfl,rfl,trivial⟩,⟨rfl,zfH ?_,trivial⟩,rfl,rfl⟩;rw[if_pos hb];have e1:(((zay r:Nat):Int)+1).toNat=zay r+1:=by omega
     show ((2:Int),(0:Int),((zay r:Nat):Int)+1,jC (1:Int).toNat (List.take (((zay r:Nat):Int)+1).toNat (c::r)),(0:Int),())=_;rw[e1];rfl
    ·have hb:=of_decide_eq_false (ht.symm.trans hb);rw[if_neg hb];refine za (za ?_);refine zaa hX zbe rfl ?_ ?_
     ·exact⟨(by intro h;cases h),hul⟩
     refine zap (σ':=⟨[(0,⟨.str,(c::r:List UInt8)⟩),(2,⟨.optr tk,⟨0,tk,.here⟩⟩),(3,⟨i64,(sk:Int)⟩),(4,⟨.optr tk,⟨1,tk,.here⟩⟩),(7,⟨.optr tk,⟨2,tk,.here⟩⟩),(8,⟨.bool,(zeS (c::r)).2.1⟩)],[(0,some (.box tk zTk)),(1,some (.box tk (5,0,1,[c],0,()))),(2,some (.box tk (zeS (c::r)).1))],3⟩) ⟨⟨rfl,rfl,rfl,rfl,rfl,rfl,trivial⟩,⟨rfl,rfl,rfl,trivial⟩,rfl,rfl⟩ ?_;unfold zeS;cases zcV (c::r) with
     |some q=>
      obtain⟨k,n,t,x⟩:=q;(repeat(first|apply zae|apply zab|apply zal|apply zad|apply zac|refine zaa hX zbe rfl trivial ?_|refine zaa hX zbe rfl id ?_|refine zaa hX zbe rfl ⟨id,id⟩ ?_));refine zaf rfl (fun _=>?_) (fun hb=>absurd (show true=false from hb) (by decide));(repeat(first|apply zae|apply zab|apply zal|apply zad|apply zac|refine zaa hX zbe rfl trivial ?_|refine zaa hX zbe rfl id ?_|refine zaa hX zbe rfl ⟨id,id⟩ ?_));exact⟨⟨rfl,rfl,rfl,trivial⟩,⟨rfl,rfl,trivial⟩,rfl,rfl⟩
     |none=>
      (repeat(first|apply zae|apply zab|apply zal|apply zad|apply zac|refine zaa hX zbe rfl trivial ?_|refine zaa hX zbe rfl id ?_|refine zaa hX zbe rfl ⟨id,id⟩ ?_));refine zaf rfl (fun hb=>absurd (show false=true from hb) (by decide)) (fun _=>?_);refine za (za ?_);refine zaa hX zbe rfl ?_ ?_
      ·exact⟨v0,n1,rfl,⟨c,rfl⟩⟩
      refine zaf rfl (fun hb=>?_) (fun hb=>?_)
      ·have hb:=(znL c).1 hb;(repeat(first|apply zae|apply zab|apply zal|apply zad|apply zac|refine zaa hX zbe rfl trivial ?_|refine zaa hX zbe rfl id ?_|refine zaa hX zbe rfl ⟨id,id⟩ ?_));refine⟨⟨rfl,rfl,rfl,trivial⟩,⟨rfl,zfH ?_,trivial⟩,rfl,rfl⟩;simp only[if_pos hb]
      ·have hn:¬ (c=40∨c=41∨c=61):=fun h=>by
        have:=(znL c).2 h;have hb:decide (0≤xm [40,41,61] c)=false:=hb;rw[hb]at this;cases this
       apply zab;refine⟨⟨rfl,rfl,rfl,trivial⟩,⟨rfl,zfH ?_,trivial⟩,rfl,rfl⟩;simp only[if_neg hn]
  ·have hat:(zh0 sk (c::r)).2.1=(sk:Int):=by
    rw[zh0];split
    ·rfl
    ·split
     ·rfl
     ·split
      ·rfl
      ·split<;>rfl
   (repeat(first|apply zae|apply zab|apply zal|apply zad|apply zac|refine zaa hX zbe rfl trivial ?_|refine zaa hX zbe rfl id ?_|refine zaa hX zbe rfl ⟨id,id⟩ ?_));refine zr ⟨.inr rfl,zaw rfl trivial rfl rfl ?_⟩;show ((zh0 sk (c::r)).1,(sk:Int),(zh0 sk (c::r)).2.2)=zh0 sk (c::r);rw[<-hat]
abbrev PsT:=List UInt8×TokT×List Nd×Int×Unit
def stOf (x:PsT):GSt:=(x.2.1,x.2.2.2.1)
abbrev psX (s:List UInt8) (st:GSt) (l:List Nd):PsT:=(s,st.1,l,st.2,())
def pOk (x:PsT):Prop:=GOk x.1 (stOf x)∧x.1.length≤100000
def pvS (e:Int×Int):zh:=.iface 133 (.agg #[.int .i64 e.1,.int .i64 e.2])
def toX {α β:Type} (f:α->β):Except (Int×Int) α->Except zh β
 | .ok a=>.ok (f a)
 | .error e=>.error (pvS e)
@[reducible] def hP (args:List Ty) (res:Ty) (pre:PsT->Args args->List Prop) (out:PsT->Args args->Except zh (res.T×PsT)):HCtr:=
 { self:=ps,k:=6,te:=73,et:=nd,sl:=fun x=>x.2.2.1,args:=args,inv:=ginv,pre:=fun x xs=>pOk x::pre x xs,res:=res,out:=out }
theorem zbf {args:List Ty} {res:Ty} {pre:PsT->Args args->List Prop} {out:PsT->Args args->Except zh (res.T×PsT)}:(hP args res pre out).law:=⟨rfl,fun _=>rfl,fun a h=>by cases h⟩
@[reducible] def pBox (ty:zn) (s:List UInt8) (st:GSt):OObj:=.hbox ty [⟨.str,s⟩,⟨i64,st.1.1⟩,⟨i64,st.1.2.1⟩,⟨i64,st.1.2.2.1⟩,⟨.str,st.1.2.2.2.1⟩,⟨i64,st.1.2.2.2.2.1⟩,⟨.obuf nd,(1:Nat)⟩,⟨i64,st.2⟩]
@[reducible] def pE (ty:zn) (s:List UInt8) (st:GSt) (l:List Nd):Owns:=[(0,some (pBox ty s st)),(1,some (.buf 73 nd l))]
@[reducible] def pSelf:V:=⟨.hptr,((0:Nat),(0:Nat))⟩
def pQ (rs:List qd) (c:HCtr) (ty:zn) (r:Except zh (c.res.T×c.self.T)) (e:Exit) (σ:AS):Prop:=zp4 gmT rs c ty e σ r
theorem zgo {rs:List qd} {c:HCtr} {ty:zn} {pv:zh} {σ:AS}:pQ rs c ty (.error pv) (.panic [{ v:=pv,recovered:=false }]) σ:=rfl
theorem zan {α β γ:Type} {f:β->γ} {e:Except (Int×Int) α} {k:α->Except (Int×Int) β} {er:Int×Int} (h:e= .error er):toX f (e >>= k)= .error (pvS er):=by rw[h];rfl
theorem zar {α β γ:Type} {f:β->γ} {e:Except (Int×Int) α} {k:α->Except (Int×Int) β} {a:α} (h:e= .ok a):toX f (e >>= k)=toX f (k a):=by rw[h];rfl
section
variable {P:zx} {K:Kn} {w0:zj} {X:Ownr} {n:Nat} {σ:AS} {Q:Exit->AS->Prop} {ops:Array Oper}
theorem zaz (m:Nat) (hX:X.Ok w0) (hK:KnOk P X.G K) {C:List (zP×HCtr)} (hC:HsOk P X.G C) {l rest:List Oper} {o:Oper} {r:List Prop×AS} (hs:aSeq K n ops (l.take m) σ=some r) (hp:allP r.1) (hl:l.drop m=o::rest) {s:HSite} (hsite:znm C n o r.2=some s)
  (hq:allP s.q) (hinv:∀ w R,(∀ g,R g->w0.heap.size≤g∨X.R g)->X.G w->s.c.inv w R s.ty) {α:Type} {f:α->s.c.res.T×s.c.self.T} {e:Except (Int×Int) α} (hout:s.c.out s.x s.xs=toX f e)
  (herr:∀ er,e= .error er->Q (.panic [{ v:=pvS er,recovered:=false }]) s.lost) (h:∀ a,e= .ok a->AL P w0 X n ops rest (s.next (f a).1 (f a).2) Q)
  (hgd:o.guard=none:=by rfl) (hnd:∀ c,o.op≠ .defer c:=by intro c e;cases e) (hd:zba (l.take m)=true:=by rfl):AL P w0 X n ops l σ Q:=by
 refine yn m hX hK hC hs hp hl hsite hq hinv ?_ hgd hnd hd;rw[hout];cases e with
 |error er=>exact herr er rfl
 |ok a=>exact h a rfl
end
section
variable {P:zx} {K:Kn} {w0:zj} {X:Ownr} {n:Nat} {Q:Exit->AS->Prop} {ops:Array Oper}
theorem AL.ownVM (hX:X.Ok w0) {o:Oper} {rest:List Oper} {f:zP} {c:HCtr} (hc:zaD P X.G f c) {y a0:zE} {args:Array zE} {ts:Array zn} (ho:o.op= .call ⟨.value y,args,ts⟩) (hargs:args= #[a0]) (hgd:o.guard=none)
  {F:Frame} {E:Owns} {nx:Nat} (hy:evO F y=⟨.lit,.func (.func f) #[] #[]⟩)
  {i:Nat} (hev:evO F a0=⟨.hptr,(i,(0:Nat))⟩) {ty:zn} {vs:List V} (hbox:zm E i=some (.hbox ty vs)) {et:Ty} {j:Nat} (hk:vs[c.k]? =some ⟨.obuf et,j⟩) {xsl:List c.et.T} (hbuf:zm E j=some (.buf c.te c.et xsl))
  {x:c.self.T} (hun:unD c.self ((c.back i vs).set c.k ⟨.slice c.et,xsl⟩)=some (x,[])) (hd:zaY c.args=true) (hfl:c.res.resOk=true)
  {q:List Prop} {xs:Args c.args} (hav:zd6 E false [] c.args=some (q,xs)) (hq:allP q) (hpre:allP (c.pre x xs)) (hinv:∀ w R,(∀ g,R g->w0.heap.size≤g∨X.R g)->X.G w->c.inv w R ty) {F':c.res.T->Frame} (hput:∀ y,putD n o.dst (resV c.res y) (Frame.kill j F)=some (F' y))
  {α:Type} {g:α->c.res.T×c.self.T} {e:Except (Int×Int) α} (hout:c.out x xs=toX g e) (herr:∀ er,e= .error er->Q (.panic [{ v:=pvS er,recovered:=false }]) ⟨F,(i,none)::(j,none)::E,nx⟩)
  (h:∀ a,e= .ok a->AL P w0 X n ops rest ⟨F' (g a).1,(i,some (.hbox ty (c.lv i j (g a).2)))::(j,some (.buf c.te c.et (c.sl (g a).2)))::Owns.kill j E,nx⟩ Q):AL P w0 X n ops (o::rest) ⟨F,E,nx⟩ Q:=by
 refine AL.ownV hX hc ho hargs hgd hy hev hbox hk hbuf hun hd hfl hav hq hpre hinv hput ?_;rw[hout];cases e with
 |error er=>exact herr er rfl
 |ok a=>exact h a rfl
end
theorem zk2 {P:zx} {w:zj} {t:zn} {fs:Array Field} (h:P.underlying t=some (.struct fs)) (x:zh):(kO t x).run P w= .ok (.iface t x) w:=by
 unfold kO;simp[run_underlying h]
theorem zg2 {P:zx} {w:zj} (t:zn) (x:zh):(Instr.panic (.iface t x)).run P w= .halt (.panic (.iface t x)) w:=by
 simp[Instr.panic,Sem.run]
@[reducible] def ztU:HCtr:=hP [i64] .unit (fun _ _=>[]) fun x xs=>.error (pvS (Tok.at x.2.1,xs.1))
theorem ztD:zaD Tryz.prog gmH 137 ztU:=by
 refine zau (K:=gmK) zaj Tryz.func137 rfl rfl zbf Tryz.call137 rfl (by decide) zaU ?_;rintro w0 ⟨G,O,K,fix,D,ρ,B⟩ ty hX hG hK hρ hD hinv x ⟨(e:Int),⟨⟩⟩ hp;obtain rfl:G=gmH:=hG;obtain rfl:K=1:=hK;obtain rfl:ρ=none:=hρ;obtain rfl:D=[]:=hD;obtain⟨s,t,l,b,⟨⟩⟩:=x;change AWP _ _ _ _ _ ⟨[(0,pSelf),(1,⟨i64,e⟩)],pE ty s (t,b) l,2⟩ (pQ _ ztU ty (.error (pvS (Tok.at t,e))));(repeat(first|apply zae|apply zab|apply zac|apply zad));refine zai ?_;refine zN 7 hX zaj rfl trivial ?_;refine qq rfl (fun c e=>by cases e) fun β a w' hs=>?_;have h12:RepD w' _ sto (Tok.at t,e,()) (a.eval (.tmp 10)):=hs.ops (.tmp 10);obtain⟨cs,h1,c1,c2,rfl,h2,c3,c4,rfl,h3,h4⟩:=(RepD.agg rfl).1 h12;have h2:c1=[yF .i64 (Tok.at t)]:=h2;have h3:c3=[yF .i64 e]:=h3;have h4:c4=[]:=h4;subst h2;subst h3;subst h4;have h1:a.eval (.tmp 10)= .agg #[.int .i64 (Tok.at t),.int .i64 e]:=h1;refine zbz (u:=pvS (Tok.at t,e)) (w':=w') ?_ ⟨⟨(11,⟨.lit,pvS (Tok.at t,e)⟩)::_,_,_⟩,β,hs.put (zV _ _) (v:=⟨.lit,pvS (Tok.at t,e)⟩) rfl (zk _) (by show 11 < 12;omega),?_⟩
 ·show (execOp a.eval { dst:=some 11,op:=Op.makeInterface 133 (.tmp 10),type:=_,pos:=_,after:=_,guard:=none }).run _ _=_;unfold execOp;simp only[h1];exact zdH (zk2 Tryz.underlying133 _)
 refine qq rfl (fun c e=>by cases e) fun β a w' hs=>?_;have h13:a.eval (.tmp 11)=pvS (Tok.at t,e):=hs.ops (.tmp 11);have hrun:(execOp a.eval { dst:=none,op:=Op.panic (.tmp 11),type:=0,pos:="",after:=#[],guard:=none }).run Tryz.prog w'= .halt (.panic (pvS (Tok.at t,e))) w':=by
  unfold execOp;simp only[h13];simp[pvS,zg2]
 unfold Oper.wp
 erw [hrun]
 exact⟨fun e=>(by cases e),_,β,hs,rfl⟩
@[reducible] def zgv:HCtr:=hP [.bool,i64] .unit (fun _ _=>[]) fun x xs=>toX (fun _=>((),x)) (zaF (stOf x) xs.1 xs.2.1)
def hFail:List (zP×HCtr):=[(137,ztU)]
theorem zq9:HsOk Tryz.prog gmH hFail:=.cons ztD .nil
theorem zeJ:zaD Tryz.prog gmH 81 zgv:=by
 refine zau (K:=_) zaj Tryz.func81 rfl rfl zbf Tryz.call81 rfl (zb rfl) zaU ?_;rintro w0 ⟨G,O,K,fix,D,ρ,B⟩ ty hX hG hK hρ hD hinv ⟨(s:List UInt8),(t:TokT),(l:List Nd),(b:Int),⟨⟩⟩ ⟨(c:Bool),(e:Int),⟨⟩⟩ hp;obtain rfl:G=gmH:=hG;obtain rfl:K=1:=hK;obtain rfl:ρ=none:=hρ;obtain rfl:D=[]:=hD;have hI:=zaJ (ty:=ty) (ty':=ty) hX rfl hinv;have hok:pOk (s,t,l,b,()):=hp;change AWP _ _ _ _ _ ⟨[(0,pSelf),(1,⟨.bool,c⟩),(2,⟨i64,e⟩)],pE ty s (t,b) l,2⟩ (pQ _ zgv ty (toX (fun _=>((),(s,t,l,b,()))) (zaF (t,b) c e)));refine za (za ?_);refine zaa hX zaj rfl ?_ ?_
 ·trivial
 cases c with
 |true=>
  refine zaf rfl (fun hb=>absurd (show false=true from hb) (by decide)) (fun _=>?_);apply zab;exact⟨.inl rfl,⟨_,rfl,nd,1,_,rfl,rfl,rfl⟩,zbd (by decide) rfl rfl trivial rfl⟩
 |false=>
  refine zaf rfl (fun _=>?_) (fun hb=>absurd (show true=false from hb) (by decide));(repeat(first|apply zae|apply zab|apply zac|apply zad));refine zai ?_;exact yn 2 hX zaj zq9 rfl trivial rfl rfl hok hI rfl
@[reducible] def cIs:HCtr:=hP [.str] .bool (fun _ _=>[]) fun x xs=>.ok (gIs (stOf x) xs.1,x)
theorem zq5:zaD Tryz.prog gmH 134 cIs:=by
 refine zau (K:=_) zaj Tryz.func134 rfl rfl zbf Tryz.call134 rfl (zb rfl) zaU ?_;rintro w0 ⟨G,O,K,fix,D,ρ,B⟩ ty hX hG hK hρ hD hinv ⟨(s:List UInt8),(t:TokT),(l:List Nd),(b:Int),⟨⟩⟩ ⟨(u:List UInt8),⟨⟩⟩ hp;obtain rfl:G=gmH:=hG;obtain rfl:K=1:=hK;obtain rfl:ρ=none:=hρ;obtain rfl:D=[]:=hD;have hI:=zaJ (ty:=ty) (ty':=ty) hX rfl hinv;change AWP _ _ _ _ _ ⟨[(0,pSelf),(1,⟨.str,u⟩)],pE ty s (t,b) l,2⟩ (pQ _ cIs ty (.ok (gIs (t,b) u,(s,t,l,b,()))));refine za (za ?_);refine zaa hX zaj rfl ?_ ?_
 ·trivial
 refine za (za ?_);refine zaa hX zaj rfl ?_ ?_
 ·repeat'(first|exact trivial|assumption|(refine⟨?_,?_⟩)|(intro _)|exact zb rfl|exact zi _|(simp_all [allP];done))
 refine zr ⟨.inr rfl,⟨_,rfl,nd,1,_,rfl,rfl,rfl⟩,zaw rfl trivial rfl rfl ?_⟩;show (bif (bif (t.1==1) then true else (t.1==4)) then eqb .str t.2.2.2.1 u else false)=gIs (t,b) u;rw[zcs,zhN,zcy];rfl
@[reducible] def cAdv:HCtr:=hP [] tk (fun x _=>[]) fun x _=>.ok (x.2.1,psX x.1 (gAdv x.1 (stOf x)) x.2.2.1)
def kAd:Kn:={ gmK with C:=[(79,cScan)] }
theorem zcX:KnOk Tryz.prog gmH kAd:=zaj.with (.cons zsH .nil)
theorem zgc:zaD Tryz.prog gmH 87 cAdv:=by
 refine zau (K:=_) zcX Tryz.func87 rfl rfl zbf Tryz.call87 rfl (zb rfl) zaU ?_;rintro w0 ⟨G,O,K,fix,D,ρ,B⟩ ty hX hG hK hρ hD hinv ⟨(s:List UInt8),(t:TokT),(l:List Nd),(b:Int),⟨⟩⟩ ⟨⟩ hp;obtain rfl:G=gmH:=hG;obtain rfl:K=1:=hK;obtain rfl:ρ=none:=hρ;obtain rfl:D=[]:=hD;have hI:=zaJ (ty:=ty) (ty':=ty) hX rfl hinv;have hok:pOk (s,t,l,b,()):=hp;change AWP _ _ _ _ _ ⟨[(0,pSelf)],pE ty s (t,b) l,2⟩ (pQ _ cAdv ty (.ok (t,psX s (gAdv s (t,b)) l)));refine za (za ?_);refine zaa hX zcX rfl ?_ ?_
 ·trivial
 obtain⟨⟨⟨⟨a1,a2,a3⟩,-⟩,-⟩,hlen⟩:=hok;have a1:(0:Int)≤t.2.1:=a1;have a2:(0:Int)≤t.2.2.1:=a2;have a3:t.2.1+t.2.2.1≤((s.length:Nat):Int):=a3;have hlen:s.length≤100000:=hlen;have q0:inR .i64 (t.2.1+t.2.2.1):=zam (by omega) (by omega);have q1:(0:Int)≤t.2.1+t.2.2.1:=by omega
 refine za (za ?_);refine zaa hX zcX rfl ?_ ?_
 ·trivial
 refine za (za ?_);refine zaa hX zcX rfl ?_ ?_
 ·exact q0
 have hdr:zg (jC (t.2.1+t.2.2.1).toNat s)≤100000:=by rw[yS];omega
 refine za (za ?_);refine zaa hX zcX rfl ?_ ?_
 ·exact⟨q1,a3,hdr⟩
 obtain⟨⟨⟨b1,b2,b3⟩,-⟩,b4⟩:=ziV (s:=s) q1 a3;have hsc:=(zlI (s.drop (t.2.1+t.2.2.1).toNat)).1;have hsl:Tok.at (zbi (s.drop (t.2.1+t.2.2.1).toNat))≤100000:=by
  have:=hsc.2.2;have:=hsc.2.1;rw[yS]at *;omega
 have hsl0:=hsc.1;have q2:inR .i64 (Tok.at (zbi (s.drop (t.2.1+t.2.2.1).toNat))+(t.2.1+t.2.2.1)):=zam (by omega) (by omega);refine za (za ?_);refine zaa hX zcX rfl ?_ ?_
 ·exact q2
 (repeat(first|apply zae|apply zab|apply zal|apply zad|apply zac|refine zaa hX zcX rfl trivial ?_|refine zaa hX zcX rfl id ?_|refine zaa hX zcX rfl ⟨id,id⟩ ?_));exact zr ⟨.inr rfl,⟨_,rfl,nd,1,_,rfl,rfl,rfl⟩,zaw rfl trivial rfl rfl rfl⟩
def hEx:List (zP×HCtr):=[(134,cIs),(81,zgv),(87,cAdv)]
theorem zdA:HsOk Tryz.prog gmH hEx:=.cons zq5 <| .cons zeJ <| .cons zgc .nil
@[reducible] def zga:HCtr:=hP [.str] .unit (fun _ _=>[]) fun x xs=>toX (fun st=>((),psX x.1 st x.2.2.1)) (zaX x.1 (stOf x) xs.1)
theorem zfB:zaD Tryz.prog gmH 88 zga:=by
 refine zau (K:=_) zaj Tryz.func88 rfl rfl zbf Tryz.call88 rfl (zb rfl) zaU ?_;rintro w0 ⟨G,O,K,fix,D,ρ,B⟩ ty hX hG hK hρ hD hinv ⟨(s:List UInt8),(t:TokT),(l:List Nd),(b:Int),⟨⟩⟩ ⟨(u:List UInt8),⟨⟩⟩ hp;obtain rfl:G=gmH:=hG;obtain rfl:K=1:=hK;obtain rfl:ρ=none:=hρ;obtain rfl:D=[]:=hD;have hI:=zaJ (ty:=ty) (ty':=ty) hX rfl hinv;have hok:pOk (s,t,l,b,()):=hp;change AWP _ _ _ _ _ ⟨[(0,pSelf),(1,⟨.str,u⟩)],pE ty s (t,b) l,2⟩ (pQ _ zga ty (toX (fun st=>((),psX s st l)) (zaX s (t,b) u)));(repeat(first|apply zae|apply zab|apply zac|apply zad));refine zai ?_;refine yn 3 hX zaj zdA rfl trivial rfl rfl hok hI ?_;refine zaz 0 hX zaj zdA rfl trivial rfl rfl hok hI (e:=zaF (t,b) (gIs (t,b) u) 3) rfl (fun er h=>?_) (fun a h=>?_)
 ·unfold zaX;rw[zan h];exact zgo
 unfold zaX;rw[zar h];refine yg ?_;(repeat(first|apply zae|apply zab|apply zac|apply zad));refine zai ?_;refine yn 1 hX zaj zdA rfl trivial rfl rfl hok hI ?_;refine yg ?_;exact⟨.inl rfl,⟨_,rfl,nd,1,_,rfl,rfl,rfl⟩,zbd (by decide) rfl rfl trivial rfl⟩
@[reducible] def zkJ:HCtr:=hP [] .unit (fun _ _=>[]) fun x _=>toX (fun st=>((),psX x.1 st x.2.2.1)) (zbU x.1 (stOf x))
theorem zjv:zaD Tryz.prog gmH 135 zkJ:=by
 refine zau (K:=_) zaj Tryz.func135 rfl rfl zbf Tryz.call135 rfl (zb rfl) zaU ?_;rintro w0 ⟨G,O,K,fix,D,ρ,B⟩ ty hX hG hK hρ hD hinv ⟨(s:List UInt8),(t:TokT),(l:List Nd),(b:Int),⟨⟩⟩ ⟨⟩ hp;obtain rfl:G=gmH:=hG;obtain rfl:K=1:=hK;obtain rfl:ρ=none:=hρ;obtain rfl:D=[]:=hD;have hI:=zaJ (ty:=ty) (ty':=ty) hX rfl hinv;have hok:pOk (s,t,l,b,()):=hp;change AWP _ _ _ _ _ ⟨[(0,pSelf)],pE ty s (t,b) l,2⟩ (pQ _ zkJ ty (toX (fun st=>((),psX s st l)) (zbU s (t,b))));(repeat(first|apply zae|apply zab|apply zac|apply zad));refine zai ?_;refine zaz 6 hX zaj zdA rfl trivial rfl rfl hok hI (e:=zaF (t,b) (decide (b < 64)) 2) rfl (fun er h=>?_) (fun a h=>?_)
 ·unfold zbU;rw[zan h];exact zgo
 unfold zbU;rw[zar h];have hb:=of_decide_eq_true (zbK h);obtain⟨⟨g1,g2,g3⟩,hlen⟩:=id hok;have g2:(0:Int)≤b:=g2;have q0:inR .i64 (b+1):=zam (by omega) (by omega);have hok2:pOk (s,t,l,b+1,()):=⟨⟨g1,(by omega:(0:Int)≤b+1),(by omega:b+1≤64)⟩,hlen⟩;refine yg ?_;refine za (za ?_);refine zaa hX zaj rfl ?_ ?_
 ·exact q0
 (repeat(first|apply zae|apply zab|apply zac|apply zad));refine zai ?_;refine yn 1 hX zaj zdA rfl trivial rfl rfl hok2 hI ?_;refine yg ?_;exact⟨.inl rfl,⟨_,rfl,nd,1,_,rfl,rfl,rfl⟩,zbd (by decide) rfl rfl trivial rfl⟩
@[reducible] def zf9:HCtr:=hP [i64,i64] i64 (fun _ _=>[]) fun x xs=>toX (fun r=>(r.1,psX x.1 r.2 x.2.2.1)) (zaO x.1 (stOf x) xs.1 xs.2.1)
theorem zfq:zaD Tryz.prog gmH 202 zf9:=by
 refine zau (K:=_) zaj Tryz.func202 rfl rfl zbf Tryz.call202 rfl (zb rfl) zaU ?_;rintro w0 ⟨G,O,K,fix,D,ρ,B⟩ ty hX hG hK hρ hD hinv ⟨(s:List UInt8),(t:TokT),(l:List Nd),(b:Int),⟨⟩⟩ ⟨(lo:Int),(hi:Int),⟨⟩⟩ hp;obtain rfl:G=gmH:=hG;obtain rfl:K=1:=hK;obtain rfl:ρ=none:=hρ;obtain rfl:D=[]:=hD;have hI:=zaJ (ty:=ty) (ty':=ty) hX rfl hinv;have hok:pOk (s,t,l,b,()):=hp;change AWP _ _ _ _ _ ⟨[(0,pSelf),(1,⟨i64,lo⟩),(2,⟨i64,hi⟩)],pE ty s (t,b) l,2⟩ (pQ _ zf9 ty (toX (fun r=>(r.1,psX s r.2 l)) (zaO s (t,b) lo hi)));unfold zaO;refine za (za ?_);refine zaa hX zaj rfl ?_ ?_
 ·trivial
 (repeat(first|apply zae|apply zab|apply zac|apply zad));refine zai ?_;refine zaz 7 hX zaj zdA rfl trivial rfl rfl hok hI (e:=zaF (t,b) (zQ t==3) 3) rfl (fun er h=>?_) (fun a h=>?_)
 ·rw[zan h];exact zgo
 rw[zar h];refine yg ?_;(repeat(first|apply zae|apply zab|apply zac|apply zad));refine zai ?_;refine xn (σ':=⟨[(0,pSelf),(1,⟨i64,lo⟩),(2,⟨i64,hi⟩)],pE ty s (t,b) l,2⟩) ⟨⟨rfl,rfl,rfl,trivial⟩,⟨rfl,rfl,trivial⟩,rfl,rfl⟩ ?_;refine zaz 17 hX zaj zdA rfl ?_ rfl rfl hok hI (e:=zaF (t,b) (bif decide (lo≤qe t) then decide (qe t≤hi) else false) 1) rfl (fun er h=>?_) (fun a h=>?_)
 ·repeat'(first|exact trivial|assumption|(refine⟨?_,?_⟩)|(intro _)|exact zb rfl|exact zi _|(simp_all [allP];done))
 ·rw[zcs]at h;rw[zan h];exact zgo
 rw[zcs]at h;rw[zar h];refine yg ?_;refine zap (σ':=⟨[(0,pSelf),(1,⟨i64,lo⟩),(2,⟨i64,hi⟩)],pE ty s (t,b) l,2⟩) ⟨⟨rfl,rfl,rfl,trivial⟩,⟨rfl,rfl,trivial⟩,rfl,rfl⟩ ?_;(repeat(first|apply zae|apply zab|apply zac|apply zad));refine zai ?_;refine yn 1 hX zaj zdA rfl trivial rfl rfl hok hI ?_;refine zT hX zaj rfl trivial ?_;exact zr ⟨.inr rfl,⟨_,rfl,nd,1,_,rfl,rfl,rfl⟩,zaw rfl trivial rfl rfl rfl⟩
@[reducible] def zhK:HCtr:=hP [] i64 (fun _ _=>[]) fun x _=>toX (fun r=>(r.1,psX x.1 r.2 x.2.2.1)) (gCal x.1 (stOf x))
def hCal:List (zP×HCtr):=[(202,zf9)]
theorem zto:HsOk Tryz.prog gmH hCal:=.cons zfq .nil
theorem zlv:zaD Tryz.prog gmH 209 zhK:=by
 refine zau (K:=_) zaj Tryz.func209 rfl rfl zbf Tryz.call209 rfl (zb rfl) zaU ?_;rintro w0 ⟨G,O,K,fix,D,ρ,B⟩ ty hX hG hK hρ hD hinv ⟨(s:List UInt8),(t:TokT),(l:List Nd),(b:Int),⟨⟩⟩ ⟨⟩ hp;obtain rfl:G=gmH:=hG;obtain rfl:K=1:=hK;obtain rfl:ρ=none:=hρ;obtain rfl:D=[]:=hD;have hI:=zaJ (ty:=ty) (ty':=ty) hX rfl hinv;have hok:pOk (s,t,l,b,()):=hp;change AWP _ _ _ _ _ ⟨[(0,pSelf)],pE ty s (t,b) l,2⟩ (pQ _ zhK ty (toX (fun r=>(r.1,psX s r.2 l)) (zaO s (t,b) 0 2)));refine za (za ?_);refine zaa hX zaj rfl ?_ ?_
 ·trivial
 (repeat(first|apply zae|apply zab|apply zac|apply zad));refine zai ?_;refine zaz 1 hX zaj zto rfl trivial rfl rfl hok hI (e:=zaO s (t,b) 0 2) rfl (fun er h=>?_) (fun a h=>?_)
 ·rw[h];exact zgo
 rw[h];refine zT hX zaj rfl trivial ?_;exact zr ⟨.inr rfl,⟨_,rfl,nd,1,_,rfl,rfl,rfl⟩,zaw rfl trivial rfl rfl rfl⟩
@[reducible] def zpJ:HCtr:=hP [] i64 (fun _ _=>[]) fun x _=>toX (fun r=>(r.1,psX x.1 r.2 x.2.2.1)) (zdP x.1 (stOf x))
theorem zqn:zaD Tryz.prog gmH 210 zpJ:=by
 refine zau (K:=_) zaj Tryz.func210 rfl rfl zbf Tryz.call210 rfl (zb rfl) zaU ?_;rintro w0 ⟨G,O,K,fix,D,ρ,B⟩ ty hX hG hK hρ hD hinv ⟨(s:List UInt8),(t:TokT),(l:List Nd),(b:Int),⟨⟩⟩ ⟨⟩ hp;obtain rfl:G=gmH:=hG;obtain rfl:K=1:=hK;obtain rfl:ρ=none:=hρ;obtain rfl:D=[]:=hD;have hI:=zaJ (ty:=ty) (ty':=ty) hX rfl hinv;have hok:pOk (s,t,l,b,()):=hp;change AWP _ _ _ _ _ ⟨[(0,pSelf)],pE ty s (t,b) l,2⟩ (pQ _ zpJ ty (toX (fun r=>(r.1,psX s r.2 l)) (zdP s (t,b))));unfold zdP;refine za (za ?_);refine zaa hX zaj rfl ?_ ?_
 ·trivial
 (repeat(first|apply zae|apply zab|apply zac|apply zad));refine zai ?_;refine yn 2 hX zaj zdA rfl trivial rfl rfl hok hI ?_;cases hm:gIs (t,b) zjF with
 |true=>
  rw[qz];refine xn (σ':=⟨[(0,pSelf),(3,pSelf),(5,⟨.bool,true⟩)],pE ty s (t,b) l,2⟩) ⟨⟨rfl,rfl,zbo hm,trivial⟩,⟨rfl,rfl,trivial⟩,rfl,rfl⟩ ?_;refine zN 1 hX zaj rfl trivial ?_;refine zS 3 6 false .bool false rfl rfl rfl rfl rfl rfl ?_;refine zS 3 6 false .bool false rfl rfl rfl rfl rfl rfl ?_;refine yn 1 hX zaj zdA rfl id rfl rfl hok hI ?_;refine yg ?_;refine zap (σ':=⟨[(0,pSelf)],pE ty s (t,b) l,2⟩) ⟨⟨rfl,trivial⟩,⟨rfl,rfl,trivial⟩,rfl,rfl⟩ ?_;(repeat(first|apply zae|apply zab|apply zac|apply zad));refine zai ?_;refine yn 1 hX zaj zdA rfl trivial rfl rfl hok hI ?_;refine zT hX zaj rfl trivial ?_;refine zaf rfl (fun hb=>?_) (fun hb=>?_)
  ·have hb:eqb .str t.2.2.2.1 zea=true:=hb;have hb:zR t=zea:=zbx.1 hb;(repeat(first|apply zae|apply zab|apply zal|apply zad|apply zac|refine zaa hX zaj rfl trivial ?_|refine zaa hX zaj rfl id ?_|refine zaa hX zaj rfl ⟨id,id⟩ ?_));refine zr ⟨.inr rfl,⟨_,rfl,nd,1,_,rfl,rfl,rfl⟩,zaw rfl trivial rfl rfl ?_⟩;show (1:Int)=if zR t=zea then 1 else 0
   rw[if_pos hb]
  ·have hb:eqb .str t.2.2.2.1 zea=false:=hb;have hb:¬ zR t=zea:=fun h=>by rw[zbx.2 h]at hb;cases hb
   (repeat(first|apply zae|apply zab|apply zal|apply zad|apply zac|refine zaa hX zaj rfl trivial ?_|refine zaa hX zaj rfl id ?_|refine zaa hX zaj rfl ⟨id,id⟩ ?_));refine zr ⟨.inr rfl,⟨_,rfl,nd,1,_,rfl,rfl,rfl⟩,zaw rfl trivial rfl rfl ?_⟩;show (0:Int)=if zR t=zea then 1 else 0
   rw[if_neg hb]
 |false=>
  rw[xK];refine xn (σ':=⟨[(0,pSelf),(3,pSelf),(5,⟨.bool,false⟩)],pE ty s (t,b) l,2⟩) ⟨⟨rfl,rfl,zbo hm,trivial⟩,⟨rfl,rfl,trivial⟩,rfl,rfl⟩ ?_;refine zN 1 hX zaj rfl trivial ?_;refine yv 3 6 false rfl rfl rfl rfl ?_;refine zN 1 hX zaj rfl trivial ?_;refine yv 3 6 false rfl rfl rfl rfl ?_;refine yn 0 hX zaj zdA rfl trivial rfl rfl hok hI ?_;refine zaz 1 hX zaj zdA rfl trivial rfl rfl hok hI (e:=zaF (t,b) (gIs (t,b) zea) 3) rfl (fun er h=>?_) (fun a h=>?_)
  ·rw[zan h];exact zgo
  rw[zar h];refine yg ?_;refine zap (σ':=⟨[(0,pSelf)],pE ty s (t,b) l,2⟩) ⟨⟨rfl,trivial⟩,⟨rfl,rfl,trivial⟩,rfl,rfl⟩ ?_;(repeat(first|apply zae|apply zab|apply zac|apply zad));refine zai ?_;refine yn 1 hX zaj zdA rfl trivial rfl rfl hok hI ?_;refine zT hX zaj rfl trivial ?_;refine zaf rfl (fun hb=>?_) (fun hb=>?_)
  ·have hb:eqb .str t.2.2.2.1 zea=true:=hb;have hb:zR t=zea:=zbx.1 hb;(repeat(first|apply zae|apply zab|apply zal|apply zad|apply zac|refine zaa hX zaj rfl trivial ?_|refine zaa hX zaj rfl id ?_|refine zaa hX zaj rfl ⟨id,id⟩ ?_));refine zr ⟨.inr rfl,⟨_,rfl,nd,1,_,rfl,rfl,rfl⟩,zaw rfl trivial rfl rfl ?_⟩;show (1:Int)=if zR t=zea then 1 else 0
   rw[if_pos hb]
  ·have hb:eqb .str t.2.2.2.1 zea=false:=hb;have hb:¬ zR t=zea:=fun h=>by rw[zbx.2 h]at hb;cases hb
   (repeat(first|apply zae|apply zab|apply zal|apply zad|apply zac|refine zaa hX zaj rfl trivial ?_|refine zaa hX zaj rfl id ?_|refine zaa hX zaj rfl ⟨id,id⟩ ?_));refine zr ⟨.inr rfl,⟨_,rfl,nd,1,_,rfl,rfl,rfl⟩,zaw rfl trivial rfl rfl ?_⟩;show (0:Int)=if zR t=zea then 1 else 0
   rw[if_neg hb]
@[reducible] def cAdd:HCtr:=hP [nd] i64 (fun x _=>[zg x.2.2.1≤100000]) fun x xs=>.ok (((x.2.2.1.length:Nat):Int),psX x.1 (stOf x) (x.2.2.1++ [xs.1]))
theorem zpY:zaD Tryz.prog gmH 136 cAdd:=by
 refine zau (K:=_) zaj Tryz.func136 rfl rfl zbf Tryz.call136 rfl (zb rfl) zaU ?_;rintro w0 ⟨G,O,K,fix,D,ρ,B⟩ ty hX hG hK hρ hD hinv ⟨(s:List UInt8),(t:TokT),(l:List Nd),(b:Int),⟨⟩⟩ ⟨(m:Nd),⟨⟩⟩ hp;obtain rfl:G=gmH:=hG;obtain rfl:K=1:=hK;obtain rfl:ρ=none:=hρ;obtain rfl:D=[]:=hD;have hI:=zaJ (ty:=ty) (ty':=ty) hX rfl hinv;obtain⟨hok,hl⟩:pOk (s,t,l,b,())∧l.length≤100000:=hp;change AWP _ _ _ _ _ ⟨[(0,pSelf),(1,⟨nd,m⟩)],pE ty s (t,b) l,2⟩ (pQ _ cAdd ty (.ok (((l.length:Nat):Int),psX s (t,b) (l++ [m]))));refine za (za ?_);refine zaa hX zaj rfl ?_ ?_
 ·trivial
 have hcap:l.length+1≤1000000000:=by omega
 apply zae;refine AWP.drawF (d:=5) (src:=.tmp 0) rfl (.cons (.of_eq (xA _) rfl (by intro h;cases h) (by intro t h;cases h;intro h;cases h) (.inr (by intro ev ev' h;simp[execOp,resolve,h]))) <| .cons (.of_eq (xA _) rfl (by intro h;cases h) (by intro t h;cases h;intro h;cases h) (.inr (by intro ev ev' h;simp[execOp,resolve,h]))) <| .cons (.of_eq (xA _) rfl (by intro h;cases h) (by intro t h;cases h;intro h;cases h) (.inr (by intro ev ev' h;simp[execOp,resolve,h]))) <| .cons (.of_eq (xA _) rfl (by intro h;cases h) (by intro t h;cases h;intro h;cases h) (.inr (by intro ev ev' h;simp[execOp,resolve,h]))) <| .cons (.of_eq (xA _) rfl (by intro h;cases h) (by intro t h;cases h;intro h;cases h) (.inr (by intro ev ev' h;simp[execOp,resolve,h]))) <| .cons (.of_eq (xA _) rfl (by intro h;cases h) (by intro t h;cases h;intro h;cases h) (.inr (by intro ev ev' h;simp[execOp,resolve,h]))) <| .cons (.edge 0 rfl (by intro h;cases h) (by intro t h;cases h;intro h;cases h) (.inr (by intro ev ev' h;simp[execOp,resolve,h]))) <| .cons (.of_eq (xA _) rfl (by intro h;cases h) (by intro t h;cases h;intro h;cases h) (.inl ⟨_,Array.mem_of_getElem? (i:=0) rfl,by decide,rfl⟩)) <| .cons (.of_eq (xA _) rfl (by intro h;cases h) (by intro t h;cases h;intro h;cases h) (.inr (by intro ev ev' h;simp[execOp,resolve,h]))) <| .cons (.of_eq (xA _) rfl (by intro h;cases h) (by intro t h;cases h;intro h;cases h) (.inr (by intro ev ev' h;simp[execOp,resolve,h]))) <| .nil) rfl rfl rfl rfl (by intro h;cases h) dM hX zaj 7 (by kernel_rfl) rfl rfl ?_ ?_ ?_
 ·trivial
 ·exact hcap
 have q0:inR .i64 ((((l++ [m]).length:Nat):Int) - 1):=by rw[show (l++ [m]).length=l.length+1 by simp];exact zam (by omega) (by omega)
 refine za (za ?_);refine zaa hX zaj rfl ?_ ?_
 ·exact q0
 refine zr ⟨.inr rfl,⟨_,rfl,nd,1,_,rfl,rfl,rfl⟩,zaw rfl trivial rfl rfl ?_⟩;show (((l++ [m]).length:Nat):Int) - 1=((l.length:Nat):Int);rw[zd];simp
@[reducible] def ztT:HCtr:=hP [i64,i64,.bool] ints (fun _ xs=>[-1000≤xs.1,xs.1≤1000]) fun x xs=>toX (fun r=>(r.1,psX x.1 r.2 x.2.2.1)) (zdo x.1 (stOf x) xs.1 xs.2.1 xs.2.2.1)
def hLi:List (zP×HCtr):=[(134,cIs),(81,zgv),(88,zga),(202,zf9)]
theorem zgs:HsOk Tryz.prog gmH hLi:=.cons zq5 <| .cons zeJ <| .cons zfB <| .cons zfq .nil
@[reducible] def lS (ty:zn) (s:List UInt8) (l:List Nd) (lo hi:Int) (z:Bool) (st:GSt) (acc:List Int):AS:=
 ⟨[(0,pSelf),(1,⟨i64,lo⟩),(2,⟨i64,hi⟩),(3,⟨.bool,z⟩),(9,⟨.obuf i64,(2:Nat)⟩),(10,⟨i64,acc.getLast?.getD (lo - 1)⟩)],[(0,some (pBox ty s st)),(1,some (.buf 73 nd l)),(2,some (.buf 3 i64 acc))],3⟩
theorem lt64 (n:Nat):decide (((n:Nat):Int) < 64)=decide (n < 64):=by
 rw[yq,decide_eq_true_iff,decide_eq_true_iff];omega
theorem ztr {s:List UInt8} {lo hi:Int} {z:Bool} {j:Nat} {st:GSt} {acc:List Int} (h:(!acc.isEmpty&&gIs st zc7)=false):zcw s lo hi z (j+1) st acc=(zaF st (zQ st.1==3) 3 >>= fun _=>zaF st (decide (acc.length < 64)) 2 >>= fun _=>zaF st (decide (qe st.1 > acc.getLast?.getD (lo - 1))&&(z||(qe st.1 != 0))) 1 >>= fun _=>zaO s st lo hi >>= fun p=>zcw s lo hi z j p.2 (acc++ [p.1])):=by
 rw[zcw,if_neg (by rw[h];decide)]
theorem zs4:zaD Tryz.prog gmH 206 ztT:=by
 refine zau (K:=_) zaj Tryz.func206 rfl rfl zbf Tryz.call206 rfl (zb rfl) zaU ?_;rintro w0 ⟨G,O,K,fix,D,ρ,B⟩ ty hX hG hK hρ hD hinv ⟨(s:List UInt8),(t:TokT),(l:List Nd),(b:Int),⟨⟩⟩ ⟨(lo:Int),(hi:Int),(z:Bool),⟨⟩⟩ hp;obtain rfl:G=gmH:=hG;obtain rfl:K=1:=hK;obtain rfl:ρ=none:=hρ;obtain rfl:D=[]:=hD;have hI:=zaJ (ty:=ty) (ty':=ty) hX rfl hinv;obtain⟨hok,hlo1,hlo2⟩:pOk (s,t,l,b,())∧ -1000≤lo∧lo≤1000:=hp;change AWP _ _ _ _ _ ⟨[(0,pSelf),(1,⟨i64,lo⟩),(2,⟨i64,hi⟩),(3,⟨.bool,z⟩)],pE ty s (t,b) l,2⟩ (pQ _ ztT ty (toX (fun r=>(r.1,psX s r.2 l)) (zdo s (t,b) lo hi z)));unfold zdo;(repeat(first|apply zae|apply zab|apply zal|apply zad|apply zac|refine zaa hX zaj rfl trivial ?_|refine zaa hX zaj rfl id ?_|refine zaa hX zaj rfl ⟨id,id⟩ ?_));(repeat(first|apply zae|apply zab|apply zac|apply zad));refine zai ?_;refine zaz 1 hX zaj zgs rfl trivial rfl rfl hok hI (e:=zaX s (t,b) ze9) rfl (fun er h=>?_) (fun st1 h=>?_)
 ·rw[zan h];exact zgo
 rw[zar h];have hok1:GOk s st1:=(zbq hok.1 h).1;have hsl:s.length≤100000:=hok.2;refine yg ?_;refine za (za ?_);refine zaa hX zaj rfl ?_ ?_
 ·exact zam (by omega) (by omega)
 refine AWP.nilBuf hX 9 3 i64 rfl rfl rfl ?_;apply zac;refine yR (ι:=Nat×GSt×List Int) (fun i=>lS ty s l lo hi z i.2.1 i.2.2) (fun i=>zcw s lo hi z 66 st1 []=zcw s lo hi z i.1 i.2.1 i.2.2∧i.2.2.length+i.1=66∧GOk s i.2.1∧i.2.2.length≤64) (fun i=>i.1) (66,st1,[]) ⟨rfl,rfl,hok1,zk _⟩ ⟨⟨rfl,rfl,rfl,rfl,rfl,rfl,trivial⟩,⟨rfl,rfl,rfl,trivial⟩,rfl,rfl⟩ ?_;rintro ⟨k,st,acc⟩ ⟨heq,hk,hst,hacc⟩;have hst2:pOk (s,st.1,l,st.2,()):=⟨hst,hsl⟩;have heq:zcw s lo hi z 66 st1 []=zcw s lo hi z k st acc:=heq;have hk:acc.length+k=66:=hk;have hacc:acc.length≤64:=hacc;obtain⟨j,rfl⟩:∃ j,k=j+1:=⟨k - 1,by omega⟩;rw[heq];obtain⟨R,hR⟩:∃ R,R=zcw s lo hi z (j+1) st acc:=⟨_,rfl⟩;rw[<-hR];have hR0:=hR;apply zae;by_cases htest:(!acc.isEmpty&&gIs st zc7)=true
 ·obtain⟨hne,hcl⟩:=(zf _ _).mp htest;have hR2:R= .ok (acc,st):=hR.trans (if_pos htest);have hlen:(((acc.length:Nat):Int)==0)=false:=by
   cases acc with
   |nil=>cases hne
   |cons a r=>rw[zt];exact beq_false_of_ne (by omega)
  apply zae;refine zai ?_;refine zN 4 hX zaj rfl trivial ?_;refine xn (σ':=⟨[(0,pSelf),(9,⟨.obuf i64,(2:Nat)⟩),(18,⟨.bool,false⟩)],[(0,some (pBox ty s st)),(1,some (.buf 73 nd l)),(2,some (.buf 3 i64 acc))],3⟩) ⟨⟨rfl,rfl,zbo hlen,trivial⟩,⟨rfl,rfl,rfl,trivial⟩,rfl,rfl⟩ ?_;refine yv 3 18 false rfl rfl rfl rfl ?_;refine zN 1 hX zaj rfl trivial ?_;refine yv 3 18 false rfl rfl rfl rfl ?_;refine yn 0 hX zaj zgs rfl trivial rfl rfl hst2 hI ?_;refine yv 3 18 false rfl rfl rfl rfl ?_;refine zT hX zaj rfl trivial ?_;refine zaf rfl (fun hb=>?_) (fun _=>?_)
  ·have hb:(!gIs st zc7)=true:=hb;rw[hcl]at hb;cases hb
  apply zad;rw[zar hR2];refine zap (σ':=⟨[(0,pSelf),(9,⟨.obuf i64,(2:Nat)⟩)],[(0,some (pBox ty s st)),(1,some (.buf 73 nd l)),(2,some (.buf 3 i64 acc))],3⟩) ⟨⟨rfl,rfl,trivial⟩,⟨rfl,rfl,rfl,trivial⟩,rfl,rfl⟩ ?_;(repeat(first|apply zae|apply zab|apply zac|apply zad));refine zai ?_;refine zaz 1 hX zaj zgs rfl trivial rfl rfl hst2 hI (e:=zaX s st zc7) rfl (fun er h=>?_) (fun st2 h=>?_)
  ·rw[zan h];exact zgo
  rw[zar h];refine yg ?_;refine AWP.frz hX 9 ?_;(repeat(first|apply zae|apply zab|apply zal|apply zad|apply zac|refine zaa hX zaj rfl trivial ?_|refine zaa hX zaj rfl id ?_|refine zaa hX zaj rfl ⟨id,id⟩ ?_));exact zr ⟨.inr rfl,⟨_,rfl,nd,1,_,rfl,rfl,rfl⟩,zaw rfl trivial rfl rfl rfl⟩
 have htest:(!acc.isEmpty&&gIs st zc7)=false:=by simpa using htest
 refine qY (σ':=lS ty s l lo hi z st acc) ?_ ?_
 ·apply zae;refine zai ?_;refine zN 4 hX zaj rfl trivial ?_;cases acc with
  |nil=>
   refine xn (σ':=⟨[(0,pSelf),(1,⟨i64,lo⟩),(2,⟨i64,hi⟩),(3,⟨.bool,z⟩),(9,⟨.obuf i64,(2:Nat)⟩),(10,⟨i64,([]:List Int).getLast?.getD (lo - 1)⟩),(18,⟨.bool,true⟩)],[(0,some (pBox ty s st)),(1,some (.buf 73 nd l)),(2,some (.buf 3 i64 []))],3⟩) ⟨⟨rfl,rfl,rfl,rfl,rfl,rfl,rfl,trivial⟩,⟨rfl,rfl,rfl,trivial⟩,rfl,rfl⟩ ?_;refine zS 3 18 false .bool false rfl rfl rfl rfl rfl rfl ?_;refine zS 3 18 false .bool false rfl rfl rfl rfl rfl rfl ?_;refine zS 3 18 false .bool false rfl rfl rfl rfl rfl rfl ?_;refine zT hX zaj rfl id ?_;refine zaf rfl (fun _=>?_) (fun hb=>absurd (show true=false from hb) (by decide));apply zab;exact⟨⟨rfl,rfl,rfl,rfl,rfl,rfl,trivial⟩,⟨rfl,rfl,rfl,trivial⟩,rfl,rfl⟩
  |cons a r=>
   have hcl:gIs st zc7=false:=htest;have hlen:(((((a::r:List Int)).length:Nat):Int)==0)=false:=by
    rw[zt];exact beq_false_of_ne (by omega)
   refine xn (σ':=⟨[(0,pSelf),(1,⟨i64,lo⟩),(2,⟨i64,hi⟩),(3,⟨.bool,z⟩),(9,⟨.obuf i64,(2:Nat)⟩),(10,⟨i64,(a::r:List Int).getLast?.getD (lo - 1)⟩),(18,⟨.bool,false⟩)],[(0,some (pBox ty s st)),(1,some (.buf 73 nd l)),(2,some (.buf 3 i64 (a::r)))],3⟩) ⟨⟨rfl,rfl,rfl,rfl,rfl,rfl,zbo hlen,trivial⟩,⟨rfl,rfl,rfl,trivial⟩,rfl,rfl⟩ ?_;refine yv 3 18 false rfl rfl rfl rfl ?_;refine zN 1 hX zaj rfl trivial ?_;refine yv 3 18 false rfl rfl rfl rfl ?_;refine yn 0 hX zaj zgs rfl trivial rfl rfl hst2 hI ?_;refine yv 3 18 false rfl rfl rfl rfl ?_;refine zT hX zaj rfl trivial ?_;refine zaf rfl (fun _=>?_) (fun hb=>?_)
   ·apply zab;exact⟨⟨rfl,rfl,rfl,rfl,rfl,rfl,trivial⟩,⟨rfl,rfl,rfl,trivial⟩,rfl,rfl⟩
   ·have hb:(!gIs st zc7)=false:=hb;rw[hcl]at hb;cases hb
 have hR:=hR.trans (ztr htest);apply zae;apply zac;(repeat(first|apply zae|apply zab|apply zac|apply zad));refine zai ?_;refine zaz 7 hX zaj zgs rfl trivial rfl rfl hst2 hI (e:=zaF st (zQ st.1==3) 3) rfl (fun er h=>?_) (fun u1 h1=>?_)
 ·rw[zan (hR.trans (by first|(rw[h];done)|(rw[h];rfl)))];exact rfl
 replace hR:=hR.trans (show _=_ by rw[h1])
 refine yg ?_;refine zap (σ':=lS ty s l lo hi z st acc) ⟨⟨rfl,rfl,rfl,rfl,rfl,rfl,trivial⟩,⟨rfl,rfl,rfl,trivial⟩,rfl,rfl⟩ ?_;(repeat(first|apply zae|apply zab|apply zac|apply zad));refine zai ?_;refine zaz 4 hX zaj zgs rfl trivial rfl rfl hst2 hI (e:=zaF st (decide (((acc.length:Nat):Int) < 64)) 2) rfl (fun er h=>?_) (fun u2 h2=>?_)
 ·rw[lt64]at h;rw[zan (hR.trans (by first|(rw[h];done)|(rw[h];rfl)))];exact rfl
 rw[lt64]at h2;have hacc64:=of_decide_eq_true (zbK h2)
 replace hR:=hR.trans (show _=_ by rw[h2])
 refine yg ?_;refine zap (σ':=lS ty s l lo hi z st acc) ⟨⟨rfl,rfl,rfl,rfl,rfl,rfl,trivial⟩,⟨rfl,rfl,rfl,trivial⟩,rfl,rfl⟩ ?_;(repeat(first|apply zae|apply zab|apply zac|apply zad));refine zai ?_;refine zaz 19 hX zaj zgs rfl ?_ rfl rfl hst2 hI (e:=zaF st (bif decide (qe st.1 > acc.getLast?.getD (lo - 1)) then (bif z then true else !(qe st.1==0)) else false) 1) rfl (fun er h=>?_) (fun u3 h3=>?_)
 ·repeat'(first|exact trivial|assumption|(refine⟨?_,?_⟩)|(intro _)|exact zb rfl|exact zi _|(simp_all [allP];done))
 ·rw[zcs,zhN]at h;rw[zan (hR.trans (by rw[show (qe st.1 != 0)= !(qe st.1==0) from rfl,h];first|done|rfl))];exact rfl
 rw[zcs,zhN]at h3
 replace hR:=hR.trans (show _=_ by rw[show (qe st.1 != 0)= !(qe st.1==0) from rfl,h3])
 refine yg ?_;refine zap (σ':=lS ty s l lo hi z st acc) ⟨⟨rfl,rfl,rfl,rfl,rfl,rfl,trivial⟩,⟨rfl,rfl,rfl,trivial⟩,rfl,rfl⟩ ?_;(repeat(first|apply zae|apply zab|apply zac|apply zad));refine zai ?_;refine zaz 4 hX zaj zgs rfl trivial rfl rfl hst2 hI (e:=zaO s st lo hi) rfl (fun er h=>?_) (fun p h4=>?_)
 ·rw[zan (hR.trans (by first|(rw[h];done)|(rw[h];rfl)))];exact rfl
 obtain⟨x,st2⟩:=p
 replace hR:=hR.trans (show _=zcw s lo hi z j st2 (acc++ [x]) by rw[h4];rfl)
 have hst3:=(zas hst h4).1.1;have hcap:acc.length+1≤1000000000:=by omega
 refine zT hX zaj rfl hcap ?_;have hla:(acc++ [x]).length=acc.length+1:=by simp
 have q0:inR .i64 ((((acc++ [x]).length:Nat):Int) - 1):=zam (by omega) (by omega);have q1:(0:Int)≤(((acc++ [x]).length:Nat):Int) - 1:=by omega
 have q2:(((acc++ [x]).length:Nat):Int) - 1 < (((acc++ [x]).length:Nat):Int):=by omega
 have q3:((((acc++ [x]).length:Nat):Int) - 1).toNat < (acc++ [x]).length:=by omega
 refine zap (σ':=⟨[(0,pSelf),(1,⟨i64,lo⟩),(2,⟨i64,hi⟩),(3,⟨.bool,z⟩),(9,⟨.obuf i64,(2:Nat)⟩)],[(0,some (pBox ty s st2)),(1,some (.buf 73 nd l)),(2,some (.buf 3 i64 (acc++ [x])))],3⟩) ⟨⟨rfl,rfl,rfl,rfl,rfl,trivial⟩,⟨rfl,rfl,rfl,trivial⟩,rfl,rfl⟩ ?_;refine za (za ?_);refine zaa hX zaj rfl ?_ ?_
 ·exact⟨q0,q1,q2,q3⟩
 refine⟨(j,st2,acc++ [x]),⟨hR0▸hR,by show (acc++ [x]).length+j=66;omega,hst3,by show (acc++ [x]).length≤64;omega⟩,y9 j,⟨rfl,rfl,rfl,rfl,rfl,vI64 ?_,trivial⟩,⟨rfl,rfl,rfl,trivial⟩,rfl,rfl⟩;show (acc++ [x]).getD ((((acc++ [x]).length:Nat):Int) - 1).toNat 0=(acc++ [x]).getLast?.getD (lo - 1);rw[show ((((acc++ [x]).length:Nat):Int) - 1).toNat=acc.length by omega];simp
def hFd:List (zP×HCtr):=[(202,zf9),(209,zhK),(210,zpJ),(206,ztT),(81,zgv)]
theorem zbT:HsOk Tryz.prog gmH hFd:=.cons zfq <| .cons zlv <| .cons zqn <| .cons zs4 <| .cons zeJ .nil
theorem nthT (a b:Bool):(bif !a then true else !b)=((!a)||(!b)):=by cases a<;>rfl
@[reducible] def zdr (w:LeafW):HCtr:=hP [] nd (fun _ _=>[]) fun x _=>toX (fun r=>(r.1,psX x.1 r.2 x.2.2.1)) (zdp x.1 (stOf x) w)
@[reducible] def zf8 (w:SufW):HCtr:=hP [] nd (fun _ _=>[]) fun x _=>toX (fun r=>(r.1,psX x.1 r.2 x.2.2.1)) (gSuf x.1 (stOf x) w)
theorem zrg:zaD Tryz.prog gmH 237 (zdr .days):=by
 refine zau (K:=_) zaj Tryz.func237 rfl rfl zbf Tryz.call237 rfl (zb rfl) zaU ?_;rintro w0 ⟨G,O,K,fix,D,ρ,B⟩ ty hX hG hK hρ hD hinv ⟨(s:List UInt8),(t:TokT),(l:List Nd),(b:Int),⟨⟩⟩ ⟨⟩ hp;obtain rfl:G=gmH:=hG;obtain rfl:K=1:=hK;obtain rfl:ρ=none:=hρ;obtain rfl:D=[]:=hD;have hI:=zaJ (ty:=ty) (ty':=ty) hX rfl hinv;have hok0:pOk (s,t,l,b,()):=hp;change AWP _ _ _ _ _ ⟨[(0,pSelf)],pE ty s (t,b) l,2⟩ (pQ _ (zdr .days) ty (toX (fun r=>(r.1,psX s r.2 l)) (zdp s (t,b) .days)));unfold zdp;refine za (za ?_);refine zaa hX zaj rfl ?_ ?_
 ·trivial
 (repeat(first|apply zae|apply zab|apply zac|apply zad));refine zai ?_;refine zaz 1 hX zaj zbT rfl trivial rfl rfl hok0 hI (e:=zaO s (t,b) 1 zdv) rfl (fun er h=>?_) (fun a0 h0=>?_)
 ·rw[zan h];exact rfl
 rw[zar h0];obtain⟨x0,st0⟩:=a0;have hok1:pOk (s,st0.1,l,st0.2,()):=⟨((zas hok0.1 h0).1).1,hok0.2⟩;refine zT hX zaj rfl trivial ?_;refine zap (σ':=⟨[(0,pSelf),(2,⟨.optr nd,⟨2,nd,.here⟩⟩),(3,⟨i64,x0⟩)],[(0,some (pBox ty s st0)),(1,some (.buf 73 nd l)),(2,some (.box nd zNd))],3⟩) ⟨⟨rfl,rfl,rfl,trivial⟩,⟨rfl,rfl,rfl,trivial⟩,rfl,rfl⟩ ?_;(repeat(first|apply zae|apply zab|apply zac|apply zad));refine zai ?_;refine zaz 2 hX zaj zbT rfl trivial rfl rfl hok1 hI (e:=zaO s st0 0 zdv) rfl (fun er h=>?_) (fun a1 h1=>?_)
 ·rw[zan h];exact rfl
 rw[zar h1];obtain⟨x1,st1⟩:=a1;have hok2:pOk (s,st1.1,l,st1.2,()):=⟨((zas hok1.1 h1).1).1,hok1.2⟩;refine zT hX zaj rfl trivial ?_;exact zr ⟨.inr rfl,⟨_,rfl,nd,1,_,rfl,rfl,rfl⟩,zaw rfl trivial rfl rfl rfl⟩
theorem zpt:zaD Tryz.prog gmH 238 (zdr .years):=by
 refine zau (K:=_) zaj Tryz.func238 rfl rfl zbf Tryz.call238 rfl (zb rfl) zaU ?_;rintro w0 ⟨G,O,K,fix,D,ρ,B⟩ ty hX hG hK hρ hD hinv ⟨(s:List UInt8),(t:TokT),(l:List Nd),(b:Int),⟨⟩⟩ ⟨⟩ hp;obtain rfl:G=gmH:=hG;obtain rfl:K=1:=hK;obtain rfl:ρ=none:=hρ;obtain rfl:D=[]:=hD;have hI:=zaJ (ty:=ty) (ty':=ty) hX rfl hinv;have hok0:pOk (s,t,l,b,()):=hp;change AWP _ _ _ _ _ ⟨[(0,pSelf)],pE ty s (t,b) l,2⟩ (pQ _ (zdr .years) ty (toX (fun r=>(r.1,psX s r.2 l)) (zdp s (t,b) .years)));unfold zdp;refine za (za ?_);refine zaa hX zaj rfl ?_ ?_
 ·trivial
 (repeat(first|apply zae|apply zab|apply zac|apply zad));refine zai ?_;refine zaz 1 hX zaj zbT rfl trivial rfl rfl hok0 hI (e:=gCal s (t,b)) rfl (fun er h=>?_) (fun a0 h0=>?_)
 ·rw[zan h];exact rfl
 rw[zar h0];obtain⟨x0,st0⟩:=a0;have hok1:pOk (s,st0.1,l,st0.2,()):=⟨((zas hok0.1 h0).1).1,hok0.2⟩;refine zT hX zaj rfl trivial ?_;refine zap (σ':=⟨[(0,pSelf),(2,⟨.optr nd,⟨2,nd,.here⟩⟩),(3,⟨.optr nd,⟨3,nd,.here⟩⟩)],[(0,some (pBox ty s st0)),(1,some (.buf 73 nd l)),(2,some (.box nd zNd)),(3,some (.box nd (2,x0,0,0,0,0,[],[],())))],4⟩) ⟨⟨rfl,rfl,rfl,trivial⟩,⟨rfl,rfl,rfl,rfl,trivial⟩,rfl,rfl⟩ ?_;(repeat(first|apply zae|apply zab|apply zac|apply zad));refine zai ?_;refine zaz 1 hX zaj zbT rfl trivial rfl rfl hok1 hI (e:=zaO s st0 1 400) rfl (fun er h=>?_) (fun a1 h1=>?_)
 ·rw[zan h];exact rfl
 rw[zar h1];obtain⟨x1,st1⟩:=a1;have hok2:pOk (s,st1.1,l,st1.2,()):=⟨((zas hok1.1 h1).1).1,hok1.2⟩;refine zT hX zaj rfl trivial ?_;refine zap (σ':=⟨[(0,pSelf),(2,⟨.optr nd,⟨2,nd,.here⟩⟩),(3,⟨.optr nd,⟨3,nd,.here⟩⟩)],[(0,some (pBox ty s st1)),(1,some (.buf 73 nd l)),(2,some (.box nd zNd)),(3,some (.box nd (2,x0,0,0,x1,0,[],[],())))],4⟩) ⟨⟨rfl,rfl,rfl,trivial⟩,⟨rfl,rfl,rfl,rfl,trivial⟩,rfl,rfl⟩ ?_;(repeat(first|apply zae|apply zab|apply zac|apply zad));refine zai ?_;have hyb:=(zas hok1.1 h1).2;have hyc:inR .i64 (x1 - 1):=zam (by omega) (by omega);refine zaz 4 hX zaj zbT rfl hyc rfl rfl hok2 hI (e:=zaO s st1 0 (x1 - 1)) rfl (fun er h=>?_) (fun a2 h2=>?_)
 ·rw[zan h];exact rfl
 rw[zar h2];obtain⟨x2,st2⟩:=a2;have hok3:pOk (s,st2.1,l,st2.2,()):=⟨((zas hok2.1 h2).1).1,hok2.2⟩;refine zT hX zaj rfl trivial ?_;refine zap (σ':=⟨[(0,pSelf),(2,⟨.optr nd,⟨2,nd,.here⟩⟩),(3,⟨.optr nd,⟨3,nd,.here⟩⟩)],[(0,some (pBox ty s st2)),(1,some (.buf 73 nd l)),(2,some (.box nd zNd)),(3,some (.box nd (2,x0,0,0,x1,x2,[],[],())))],4⟩) ⟨⟨rfl,rfl,rfl,trivial⟩,⟨rfl,rfl,rfl,rfl,trivial⟩,rfl,rfl⟩ ?_;(repeat(first|apply zae|apply zab|apply zal|apply zad|apply zac|refine zaa hX zaj rfl trivial ?_|refine zaa hX zaj rfl id ?_|refine zaa hX zaj rfl ⟨id,id⟩ ?_));exact zr ⟨.inr rfl,⟨_,rfl,nd,1,_,rfl,rfl,rfl⟩,zaw rfl trivial rfl rfl rfl⟩
theorem znp:zaD Tryz.prog gmH 239 (zdr .months):=by
 refine zau (K:=_) zaj Tryz.func239 rfl rfl zbf Tryz.call239 rfl (zb rfl) zaU ?_;rintro w0 ⟨G,O,K,fix,D,ρ,B⟩ ty hX hG hK hρ hD hinv ⟨(s:List UInt8),(t:TokT),(l:List Nd),(b:Int),⟨⟩⟩ ⟨⟩ hp;obtain rfl:G=gmH:=hG;obtain rfl:K=1:=hK;obtain rfl:ρ=none:=hρ;obtain rfl:D=[]:=hD;have hI:=zaJ (ty:=ty) (ty':=ty) hX rfl hinv;have hok0:pOk (s,t,l,b,()):=hp;change AWP _ _ _ _ _ ⟨[(0,pSelf)],pE ty s (t,b) l,2⟩ (pQ _ (zdr .months) ty (toX (fun r=>(r.1,psX s r.2 l)) (zdp s (t,b) .months)));unfold zdp;refine za (za ?_);refine zaa hX zaj rfl ?_ ?_
 ·trivial
 (repeat(first|apply zae|apply zab|apply zac|apply zad));refine zai ?_;refine zaz 1 hX zaj zbT rfl trivial rfl rfl hok0 hI (e:=gCal s (t,b)) rfl (fun er h=>?_) (fun a0 h0=>?_)
 ·rw[zan h];exact rfl
 rw[zar h0];obtain⟨x0,st0⟩:=a0;have hok1:pOk (s,st0.1,l,st0.2,()):=⟨((zas hok0.1 h0).1).1,hok0.2⟩;refine zT hX zaj rfl trivial ?_;refine zap (σ':=⟨[(0,pSelf),(2,⟨.optr nd,⟨2,nd,.here⟩⟩),(3,⟨i64,x0⟩)],[(0,some (pBox ty s st0)),(1,some (.buf 73 nd l)),(2,some (.box nd zNd))],3⟩) ⟨⟨rfl,rfl,rfl,trivial⟩,⟨rfl,rfl,rfl,trivial⟩,rfl,rfl⟩ ?_;(repeat(first|apply zae|apply zab|apply zac|apply zad));refine zai ?_;refine zaz 2 hX zaj zbT rfl trivial rfl rfl ⟨hok1,(by decide:(-1000:Int)≤1),(by decide:(1:Int)≤1000)⟩ hI (e:=zdo s st0 1 16 true) rfl (fun er h=>?_) (fun a1 h1=>?_)
 ·rw[zan h];exact rfl
 rw[zar h1];obtain⟨x1,st1⟩:=a1;have hok2:pOk (s,st1.1,l,st1.2,()):=⟨(zb2 hok1.1 h1).1,hok1.2⟩;refine zT hX zaj rfl trivial ?_;exact zr ⟨.inr rfl,⟨_,rfl,nd,1,_,rfl,rfl,rfl⟩,zaw rfl trivial rfl rfl rfl⟩
theorem zjl:zaD Tryz.prog gmH 240 (zdr .monthdays):=by
 refine zau (K:=_) zaj Tryz.func240 rfl rfl zbf Tryz.call240 rfl (zb rfl) zaU ?_;rintro w0 ⟨G,O,K,fix,D,ρ,B⟩ ty hX hG hK hρ hD hinv ⟨(s:List UInt8),(t:TokT),(l:List Nd),(b:Int),⟨⟩⟩ ⟨⟩ hp;obtain rfl:G=gmH:=hG;obtain rfl:K=1:=hK;obtain rfl:ρ=none:=hρ;obtain rfl:D=[]:=hD;have hI:=zaJ (ty:=ty) (ty':=ty) hX rfl hinv;have hok0:pOk (s,t,l,b,()):=hp;change AWP _ _ _ _ _ ⟨[(0,pSelf)],pE ty s (t,b) l,2⟩ (pQ _ (zdr .monthdays) ty (toX (fun r=>(r.1,psX s r.2 l)) (zdp s (t,b) .monthdays)));unfold zdp;refine za (za ?_);refine zaa hX zaj rfl ?_ ?_
 ·trivial
 (repeat(first|apply zae|apply zab|apply zac|apply zad));refine zai ?_;refine zaz 1 hX zaj zbT rfl trivial rfl rfl hok0 hI (e:=gCal s (t,b)) rfl (fun er h=>?_) (fun a0 h0=>?_)
 ·rw[zan h];exact rfl
 rw[zar h0];obtain⟨x0,st0⟩:=a0;have hok1:pOk (s,st0.1,l,st0.2,()):=⟨((zas hok0.1 h0).1).1,hok0.2⟩;refine zT hX zaj rfl trivial ?_;refine zap (σ':=⟨[(0,pSelf),(2,⟨.optr nd,⟨2,nd,.here⟩⟩),(3,⟨i64,x0⟩)],[(0,some (pBox ty s st0)),(1,some (.buf 73 nd l)),(2,some (.box nd zNd))],3⟩) ⟨⟨rfl,rfl,rfl,trivial⟩,⟨rfl,rfl,rfl,trivial⟩,rfl,rfl⟩ ?_;(repeat(first|apply zae|apply zab|apply zac|apply zad));refine zai ?_;refine zaz 2 hX zaj zbT rfl trivial rfl rfl ⟨hok1,(by decide:(-1000:Int)≤(-40)),(by decide:((-40):Int)≤1000)⟩ hI (e:=zdo s st0 (-40) 40 false) rfl (fun er h=>?_) (fun a1 h1=>?_)
 ·rw[zan h];exact rfl
 rw[zar h1];obtain⟨x1,st1⟩:=a1;have hok2:pOk (s,st1.1,l,st1.2,()):=⟨(zb2 hok1.1 h1).1,hok1.2⟩;refine zT hX zaj rfl trivial ?_;exact zr ⟨.inr rfl,⟨_,rfl,nd,1,_,rfl,rfl,rfl⟩,zaw rfl trivial rfl rfl rfl⟩
theorem zpu:zaD Tryz.prog gmH 242 (zdr .weeks):=by
 refine zau (K:=_) zaj Tryz.func242 rfl rfl zbf Tryz.call242 rfl (zb rfl) zaU ?_;rintro w0 ⟨G,O,K,fix,D,ρ,B⟩ ty hX hG hK hρ hD hinv ⟨(s:List UInt8),(t:TokT),(l:List Nd),(b:Int),⟨⟩⟩ ⟨⟩ hp;obtain rfl:G=gmH:=hG;obtain rfl:K=1:=hK;obtain rfl:ρ=none:=hρ;obtain rfl:D=[]:=hD;have hI:=zaJ (ty:=ty) (ty':=ty) hX rfl hinv;have hok0:pOk (s,t,l,b,()):=hp;change AWP _ _ _ _ _ ⟨[(0,pSelf)],pE ty s (t,b) l,2⟩ (pQ _ (zdr .weeks) ty (toX (fun r=>(r.1,psX s r.2 l)) (zdp s (t,b) .weeks)));unfold zdp;refine za (za ?_);refine zaa hX zaj rfl ?_ ?_
 ·trivial
 (repeat(first|apply zae|apply zab|apply zac|apply zad));refine zai ?_;refine zaz 1 hX zaj zbT rfl trivial rfl rfl hok0 hI (e:=gCal s (t,b)) rfl (fun er h=>?_) (fun a0 h0=>?_)
 ·rw[zan h];exact rfl
 rw[zar h0];obtain⟨x0,st0⟩:=a0;have hok1:pOk (s,st0.1,l,st0.2,()):=⟨((zas hok0.1 h0).1).1,hok0.2⟩;refine zT hX zaj rfl trivial ?_;refine zap (σ':=⟨[(0,pSelf),(2,⟨.optr nd,⟨2,nd,.here⟩⟩),(3,⟨i64,x0⟩)],[(0,some (pBox ty s st0)),(1,some (.buf 73 nd l)),(2,some (.box nd zNd))],3⟩) ⟨⟨rfl,rfl,rfl,trivial⟩,⟨rfl,rfl,rfl,trivial⟩,rfl,rfl⟩ ?_;(repeat(first|apply zae|apply zab|apply zac|apply zad));refine zai ?_;refine zaz 2 hX zaj zbT rfl trivial rfl rfl ⟨hok1,(by decide:(-1000:Int)≤1),(by decide:(1:Int)≤1000)⟩ hI (e:=zdo s st0 1 54 true) rfl (fun er h=>?_) (fun a1 h1=>?_)
 ·rw[zan h];exact rfl
 rw[zar h1];obtain⟨x1,st1⟩:=a1;have hok2:pOk (s,st1.1,l,st1.2,()):=⟨(zb2 hok1.1 h1).1,hok1.2⟩;refine zT hX zaj rfl trivial ?_;exact zr ⟨.inr rfl,⟨_,rfl,nd,1,_,rfl,rfl,rfl⟩,zaw rfl trivial rfl rfl rfl⟩
theorem zkz:zaD Tryz.prog gmH 241 (zdr .weekdays):=by
 refine zau (K:=_) zaj Tryz.func241 rfl rfl zbf Tryz.call241 rfl (zb rfl) zaU ?_;rintro w0 ⟨G,O,K,fix,D,ρ,B⟩ ty hX hG hK hρ hD hinv ⟨(s:List UInt8),(t:TokT),(l:List Nd),(b:Int),⟨⟩⟩ ⟨⟩ hp;obtain rfl:G=gmH:=hG;obtain rfl:K=1:=hK;obtain rfl:ρ=none:=hρ;obtain rfl:D=[]:=hD;have hI:=zaJ (ty:=ty) (ty':=ty) hX rfl hinv;have hok0:pOk (s,t,l,b,()):=hp;change AWP _ _ _ _ _ ⟨[(0,pSelf)],pE ty s (t,b) l,2⟩ (pQ _ (zdr .weekdays) ty (toX (fun r=>(r.1,psX s r.2 l)) (zdp s (t,b) .weekdays)));unfold zdp;refine za (za ?_);refine zaa hX zaj rfl ?_ ?_
 ·trivial
 (repeat(first|apply zae|apply zab|apply zac|apply zad));refine zai ?_;refine zaz 1 hX zaj zbT rfl trivial rfl rfl ⟨hok0,(by decide:(-1000:Int)≤0),(by decide:(0:Int)≤1000)⟩ hI (e:=zdo s (t,b) 0 6 true) rfl (fun er h=>?_) (fun a0 h0=>?_)
 ·rw[zan h];exact rfl
 rw[zar h0];obtain⟨x0,st0⟩:=a0;have hok1:pOk (s,st0.1,l,st0.2,()):=⟨(zb2 hok0.1 h0).1,hok0.2⟩;refine zT hX zaj rfl trivial ?_;exact zr ⟨.inr rfl,⟨_,rfl,nd,1,_,rfl,rfl,rfl⟩,zaw rfl trivial rfl rfl rfl⟩
theorem ztF:zaD Tryz.prog gmH 243 (zdr .nth):=by
 refine zau (K:=_) zaj Tryz.func243 rfl rfl zbf Tryz.call243 rfl (zb rfl) zaU ?_;rintro w0 ⟨G,O,K,fix,D,ρ,B⟩ ty hX hG hK hρ hD hinv ⟨(s:List UInt8),(t:TokT),(l:List Nd),(b:Int),⟨⟩⟩ ⟨⟩ hp;obtain rfl:G=gmH:=hG;obtain rfl:K=1:=hK;obtain rfl:ρ=none:=hρ;obtain rfl:D=[]:=hD;have hI:=zaJ (ty:=ty) (ty':=ty) hX rfl hinv;have hok0:pOk (s,t,l,b,()):=hp;change AWP _ _ _ _ _ ⟨[(0,pSelf)],pE ty s (t,b) l,2⟩ (pQ _ (zdr .nth) ty (toX (fun r=>(r.1,psX s r.2 l)) (zdp s (t,b) .nth)));unfold zdp;refine za (za ?_);refine zaa hX zaj rfl ?_ ?_
 ·trivial
 (repeat(first|apply zae|apply zab|apply zac|apply zad));refine zai ?_;refine zaz 1 hX zaj zbT rfl trivial rfl rfl hok0 hI (e:=gCal s (t,b)) rfl (fun er h=>?_) (fun a0 h0=>?_)
 ·rw[zan h];exact rfl
 rw[zar h0];obtain⟨x0,st0⟩:=a0;have hok1:pOk (s,st0.1,l,st0.2,()):=⟨((zas hok0.1 h0).1).1,hok0.2⟩;refine zT hX zaj rfl trivial ?_;refine zap (σ':=⟨[(0,pSelf),(2,⟨.optr nd,⟨2,nd,.here⟩⟩),(3,⟨.optr nd,⟨3,nd,.here⟩⟩)],[(0,some (pBox ty s st0)),(1,some (.buf 73 nd l)),(2,some (.box nd zNd)),(3,some (.box nd (7,x0,0,0,0,0,[],[],())))],4⟩) ⟨⟨rfl,rfl,rfl,trivial⟩,⟨rfl,rfl,rfl,rfl,trivial⟩,rfl,rfl⟩ ?_;(repeat(first|apply zae|apply zab|apply zac|apply zad));refine zai ?_;refine zaz 15 hX zaj zbT rfl ?_ rfl rfl hok1 hI (e:=zaF st0 (bif !(zQ st0.1==3) then true else !(qe st0.1==0)) 1) rfl (fun er h=>?_) (fun u1 h1=>?_)
 ·repeat'(first|exact trivial|assumption|(refine⟨?_,?_⟩)|(intro _)|exact zb rfl|exact zi _|(simp_all [allP];done))
 ·rw[nthT]at h;rw[zan (show zaF st0 ((zQ st0.1 != 3)||(qe st0.1 != 0)) 1=_ from h)];exact rfl
 rw[nthT]at h1;rw[zar (show zaF st0 ((zQ st0.1 != 3)||(qe st0.1 != 0)) 1=_ from h1)];refine yg ?_;refine zap (σ':=⟨[(0,pSelf),(2,⟨.optr nd,⟨2,nd,.here⟩⟩),(3,⟨.optr nd,⟨3,nd,.here⟩⟩)],[(0,some (pBox ty s st0)),(1,some (.buf 73 nd l)),(2,some (.box nd zNd)),(3,some (.box nd (7,x0,0,0,0,0,[],[],())))],4⟩) ⟨⟨rfl,rfl,rfl,trivial⟩,⟨rfl,rfl,rfl,rfl,trivial⟩,rfl,rfl⟩ ?_;(repeat(first|apply zae|apply zab|apply zac|apply zad));refine zai ?_;refine zaz 1 hX zaj zbT rfl trivial rfl rfl hok1 hI (e:=zaO s st0 (-60) 60) rfl (fun er h=>?_) (fun a2 h2=>?_)
 ·rw[zan h];exact rfl
 rw[zar h2];obtain⟨x2,st2⟩:=a2;have hok2:pOk (s,st2.1,l,st2.2,()):=⟨((zas hok1.1 h2).1).1,hok1.2⟩;refine zT hX zaj rfl trivial ?_;refine zap (σ':=⟨[(0,pSelf),(2,⟨.optr nd,⟨2,nd,.here⟩⟩),(3,⟨.optr nd,⟨3,nd,.here⟩⟩)],[(0,some (pBox ty s st2)),(1,some (.buf 73 nd l)),(2,some (.box nd zNd)),(3,some (.box nd (7,x0,0,0,x2,0,[],[],())))],4⟩) ⟨⟨rfl,rfl,rfl,trivial⟩,⟨rfl,rfl,rfl,rfl,trivial⟩,rfl,rfl⟩ ?_;(repeat(first|apply zae|apply zab|apply zac|apply zad));refine zai ?_;refine zaz 1 hX zaj zbT rfl trivial rfl rfl hok2 hI (e:=zaO s st2 0 6) rfl (fun er h=>?_) (fun a3 h3=>?_)
 ·rw[zan h];exact rfl
 rw[zar h3];obtain⟨x3,st3⟩:=a3;have hok3:pOk (s,st3.1,l,st3.2,()):=⟨((zas hok2.1 h3).1).1,hok2.2⟩;refine zT hX zaj rfl trivial ?_;refine zap (σ':=⟨[(0,pSelf),(2,⟨.optr nd,⟨2,nd,.here⟩⟩),(3,⟨.optr nd,⟨3,nd,.here⟩⟩)],[(0,some (pBox ty s st3)),(1,some (.buf 73 nd l)),(2,some (.box nd zNd)),(3,some (.box nd (7,x0,0,0,x2,x3,[],[],())))],4⟩) ⟨⟨rfl,rfl,rfl,trivial⟩,⟨rfl,rfl,rfl,rfl,trivial⟩,rfl,rfl⟩ ?_;(repeat(first|apply zae|apply zab|apply zac|apply zad));refine zai ?_;refine zaz 1 hX zaj zbT rfl trivial rfl rfl hok3 hI (e:=zdP s st3) rfl (fun er h=>?_) (fun a4 h4=>?_)
 ·rw[zan h];exact rfl
 rw[zar h4];obtain⟨x4,st4⟩:=a4;have hok4:pOk (s,st4.1,l,st4.2,()):=⟨(zem hok3.1 h4).1,hok3.2⟩;refine zT hX zaj rfl trivial ?_;refine zap (σ':=⟨[(0,pSelf),(2,⟨.optr nd,⟨2,nd,.here⟩⟩),(3,⟨.optr nd,⟨3,nd,.here⟩⟩)],[(0,some (pBox ty s st4)),(1,some (.buf 73 nd l)),(2,some (.box nd zNd)),(3,some (.box nd (7,x0,x4,0,x2,x3,[],[],())))],4⟩) ⟨⟨rfl,rfl,rfl,trivial⟩,⟨rfl,rfl,rfl,rfl,trivial⟩,rfl,rfl⟩ ?_;(repeat(first|apply zae|apply zab|apply zal|apply zad|apply zac|refine zaa hX zaj rfl trivial ?_|refine zaa hX zaj rfl id ?_|refine zaa hX zaj rfl ⟨id,id⟩ ?_));exact zr ⟨.inr rfl,⟨_,rfl,nd,1,_,rfl,rfl,rfl⟩,zaw rfl trivial rfl rfl rfl⟩
theorem zpw:zaD Tryz.prog gmH 201 (zf8 .shift):=by
 refine zau (K:=_) zaj Tryz.func201 rfl rfl zbf Tryz.call201 rfl (zb rfl) zaU ?_;rintro w0 ⟨G,O,K,fix,D,ρ,B⟩ ty hX hG hK hρ hD hinv ⟨(s:List UInt8),(t:TokT),(l:List Nd),(b:Int),⟨⟩⟩ ⟨⟩ hp;obtain rfl:G=gmH:=hG;obtain rfl:K=1:=hK;obtain rfl:ρ=none:=hρ;obtain rfl:D=[]:=hD;have hI:=zaJ (ty:=ty) (ty':=ty) hX rfl hinv;have hok0:pOk (s,t,l,b,()):=hp;change AWP _ _ _ _ _ ⟨[(0,pSelf)],pE ty s (t,b) l,2⟩ (pQ _ (zf8 .shift) ty (toX (fun r=>(r.1,psX s r.2 l)) (gSuf s (t,b) .shift)));unfold gSuf;refine za (za ?_);refine zaa hX zaj rfl ?_ ?_
 ·trivial
 (repeat(first|apply zae|apply zab|apply zac|apply zad));refine zai ?_;refine zaz 1 hX zaj zbT rfl trivial rfl rfl hok0 hI (e:=zaO s (t,b) (-zdv) zdv) rfl (fun er h=>?_) (fun a0 h0=>?_)
 ·rw[zan h];exact rfl
 rw[zar h0];obtain⟨x0,st0⟩:=a0;have hok1:pOk (s,st0.1,l,st0.2,()):=⟨((zas hok0.1 h0).1).1,hok0.2⟩;refine zT hX zaj rfl trivial ?_;exact zr ⟨.inr rfl,⟨_,rfl,nd,1,_,rfl,rfl,rfl⟩,zaw rfl trivial rfl rfl rfl⟩
theorem zrf:zaD Tryz.prog gmH 203 (zf8 .from_):=by
 refine zau (K:=_) zaj Tryz.func203 rfl rfl zbf Tryz.call203 rfl (zb rfl) zaU ?_;rintro w0 ⟨G,O,K,fix,D,ρ,B⟩ ty hX hG hK hρ hD hinv ⟨(s:List UInt8),(t:TokT),(l:List Nd),(b:Int),⟨⟩⟩ ⟨⟩ hp;obtain rfl:G=gmH:=hG;obtain rfl:K=1:=hK;obtain rfl:ρ=none:=hρ;obtain rfl:D=[]:=hD;have hI:=zaJ (ty:=ty) (ty':=ty) hX rfl hinv;have hok0:pOk (s,t,l,b,()):=hp;change AWP _ _ _ _ _ ⟨[(0,pSelf)],pE ty s (t,b) l,2⟩ (pQ _ (zf8 .from_) ty (toX (fun r=>(r.1,psX s r.2 l)) (gSuf s (t,b) .from_)));unfold gSuf;refine za (za ?_);refine zaa hX zaj rfl ?_ ?_
 ·trivial
 (repeat(first|apply zae|apply zab|apply zac|apply zad));refine zai ?_;refine zaz 1 hX zaj zbT rfl trivial rfl rfl hok0 hI (e:=zaO s (t,b) 0 zdv) rfl (fun er h=>?_) (fun a0 h0=>?_)
 ·rw[zan h];exact rfl
 rw[zar h0];obtain⟨x0,st0⟩:=a0;have hok1:pOk (s,st0.1,l,st0.2,()):=⟨((zas hok0.1 h0).1).1,hok0.2⟩;refine zT hX zaj rfl trivial ?_;exact zr ⟨.inr rfl,⟨_,rfl,nd,1,_,rfl,rfl,rfl⟩,zaw rfl trivial rfl rfl rfl⟩
theorem zpv:zaD Tryz.prog gmH 204 (zf8 .until_):=by
 refine zau (K:=_) zaj Tryz.func204 rfl rfl zbf Tryz.call204 rfl (zb rfl) zaU ?_;rintro w0 ⟨G,O,K,fix,D,ρ,B⟩ ty hX hG hK hρ hD hinv ⟨(s:List UInt8),(t:TokT),(l:List Nd),(b:Int),⟨⟩⟩ ⟨⟩ hp;obtain rfl:G=gmH:=hG;obtain rfl:K=1:=hK;obtain rfl:ρ=none:=hρ;obtain rfl:D=[]:=hD;have hI:=zaJ (ty:=ty) (ty':=ty) hX rfl hinv;have hok0:pOk (s,t,l,b,()):=hp;change AWP _ _ _ _ _ ⟨[(0,pSelf)],pE ty s (t,b) l,2⟩ (pQ _ (zf8 .until_) ty (toX (fun r=>(r.1,psX s r.2 l)) (gSuf s (t,b) .until_)));unfold gSuf;refine za (za ?_);refine zaa hX zaj rfl ?_ ?_
 ·trivial
 (repeat(first|apply zae|apply zab|apply zac|apply zad));refine zai ?_;refine zaz 1 hX zaj zbT rfl trivial rfl rfl hok0 hI (e:=zaO s (t,b) 0 zdv) rfl (fun er h=>?_) (fun a0 h0=>?_)
 ·rw[zan h];exact rfl
 rw[zar h0];obtain⟨x0,st0⟩:=a0;have hok1:pOk (s,st0.1,l,st0.2,()):=⟨((zas hok0.1 h0).1).1,hok0.2⟩;refine zT hX zaj rfl trivial ?_;exact zr ⟨.inr rfl,⟨_,rfl,nd,1,_,rfl,rfl,rfl⟩,zaw rfl trivial rfl rfl rfl⟩
theorem zrh:zaD Tryz.prog gmH 205 (zf8 .also):=by
 refine zau (K:=_) zaj Tryz.func205 rfl rfl zbf Tryz.call205 rfl (zb rfl) zaU ?_;rintro w0 ⟨G,O,K,fix,D,ρ,B⟩ ty hX hG hK hρ hD hinv ⟨(s:List UInt8),(t:TokT),(l:List Nd),(b:Int),⟨⟩⟩ ⟨⟩ hp;obtain rfl:G=gmH:=hG;obtain rfl:K=1:=hK;obtain rfl:ρ=none:=hρ;obtain rfl:D=[]:=hD;have hI:=zaJ (ty:=ty) (ty':=ty) hX rfl hinv;have hok0:pOk (s,t,l,b,()):=hp;change AWP _ _ _ _ _ ⟨[(0,pSelf)],pE ty s (t,b) l,2⟩ (pQ _ (zf8 .also) ty (toX (fun r=>(r.1,psX s r.2 l)) (gSuf s (t,b) .also)));unfold gSuf;refine za (za ?_);refine zaa hX zaj rfl ?_ ?_
 ·trivial
 (repeat(first|apply zae|apply zab|apply zac|apply zad));refine zai ?_;refine zaz 1 hX zaj zbT rfl trivial rfl rfl ⟨hok0,(by decide:(-1000:Int)≤0),(by decide:(0:Int)≤1000)⟩ hI (e:=zdo s (t,b) 0 zdv true) rfl (fun er h=>?_) (fun a0 h0=>?_)
 ·rw[zan h];exact rfl
 rw[zar h0];obtain⟨x0,st0⟩:=a0;have hok1:pOk (s,st0.1,l,st0.2,()):=⟨(zb2 hok0.1 h0).1,hok0.2⟩;refine zT hX zaj rfl trivial ?_;exact zr ⟨.inr rfl,⟨_,rfl,nd,1,_,rfl,rfl,rfl⟩,zaw rfl trivial rfl rfl rfl⟩
theorem znq:zaD Tryz.prog gmH 207 (zf8 .except_):=by
 refine zau (K:=_) zaj Tryz.func207 rfl rfl zbf Tryz.call207 rfl (zb rfl) zaU ?_;rintro w0 ⟨G,O,K,fix,D,ρ,B⟩ ty hX hG hK hρ hD hinv ⟨(s:List UInt8),(t:TokT),(l:List Nd),(b:Int),⟨⟩⟩ ⟨⟩ hp;obtain rfl:G=gmH:=hG;obtain rfl:K=1:=hK;obtain rfl:ρ=none:=hρ;obtain rfl:D=[]:=hD;have hI:=zaJ (ty:=ty) (ty':=ty) hX rfl hinv;have hok0:pOk (s,t,l,b,()):=hp;change AWP _ _ _ _ _ ⟨[(0,pSelf)],pE ty s (t,b) l,2⟩ (pQ _ (zf8 .except_) ty (toX (fun r=>(r.1,psX s r.2 l)) (gSuf s (t,b) .except_)));unfold gSuf;refine za (za ?_);refine zaa hX zaj rfl ?_ ?_
 ·trivial
 (repeat(first|apply zae|apply zab|apply zac|apply zad));refine zai ?_;refine zaz 1 hX zaj zbT rfl trivial rfl rfl ⟨hok0,(by decide:(-1000:Int)≤0),(by decide:(0:Int)≤1000)⟩ hI (e:=zdo s (t,b) 0 zdv true) rfl (fun er h=>?_) (fun a0 h0=>?_)
 ·rw[zan h];exact rfl
 rw[zar h0];obtain⟨x0,st0⟩:=a0;have hok1:pOk (s,st0.1,l,st0.2,()):=⟨(zb2 hok0.1 h0).1,hok0.2⟩;refine zT hX zaj rfl trivial ?_;exact zr ⟨.inr rfl,⟨_,rfl,nd,1,_,rfl,rfl,rfl⟩,zaw rfl trivial rfl rfl rfl⟩
theorem ztE:zaD Tryz.prog gmH 208 (zf8 .pos):=by
 refine zau (K:=_) zaj Tryz.func208 rfl rfl zbf Tryz.call208 rfl (zb rfl) zaU ?_;rintro w0 ⟨G,O,K,fix,D,ρ,B⟩ ty hX hG hK hρ hD hinv ⟨(s:List UInt8),(t:TokT),(l:List Nd),(b:Int),⟨⟩⟩ ⟨⟩ hp;obtain rfl:G=gmH:=hG;obtain rfl:K=1:=hK;obtain rfl:ρ=none:=hρ;obtain rfl:D=[]:=hD;have hI:=zaJ (ty:=ty) (ty':=ty) hX rfl hinv;have hok0:pOk (s,t,l,b,()):=hp;change AWP _ _ _ _ _ ⟨[(0,pSelf)],pE ty s (t,b) l,2⟩ (pQ _ (zf8 .pos) ty (toX (fun r=>(r.1,psX s r.2 l)) (gSuf s (t,b) .pos)));unfold gSuf;refine za (za ?_);refine zaa hX zaj rfl ?_ ?_
 ·trivial
 (repeat(first|apply zae|apply zab|apply zac|apply zad));refine zai ?_;refine zaz 1 hX zaj zbT rfl trivial rfl rfl hok0 hI (e:=gCal s (t,b)) rfl (fun er h=>?_) (fun a0 h0=>?_)
 ·rw[zan h];exact rfl
 rw[zar h0];obtain⟨x0,st0⟩:=a0;have hok1:pOk (s,st0.1,l,st0.2,()):=⟨((zas hok0.1 h0).1).1,hok0.2⟩;refine zT hX zaj rfl trivial ?_;refine zap (σ':=⟨[(0,pSelf),(2,⟨.optr nd,⟨2,nd,.here⟩⟩),(3,⟨.optr nd,⟨3,nd,.here⟩⟩)],[(0,some (pBox ty s st0)),(1,some (.buf 73 nd l)),(2,some (.box nd zNd)),(3,some (.box nd (16,x0,0,0,0,0,[],[],())))],4⟩) ⟨⟨rfl,rfl,rfl,trivial⟩,⟨rfl,rfl,rfl,rfl,trivial⟩,rfl,rfl⟩ ?_;(repeat(first|apply zae|apply zab|apply zac|apply zad));refine zai ?_;refine zaz 1 hX zaj zbT rfl trivial rfl rfl hok1 hI (e:=zdP s st0) rfl (fun er h=>?_) (fun a1 h1=>?_)
 ·rw[zan h];exact rfl
 rw[zar h1];obtain⟨x1,st1⟩:=a1;have hok2:pOk (s,st1.1,l,st1.2,()):=⟨(zem hok1.1 h1).1,hok1.2⟩;refine zT hX zaj rfl trivial ?_;refine zap (σ':=⟨[(0,pSelf),(2,⟨.optr nd,⟨2,nd,.here⟩⟩),(3,⟨.optr nd,⟨3,nd,.here⟩⟩)],[(0,some (pBox ty s st1)),(1,some (.buf 73 nd l)),(2,some (.box nd zNd)),(3,some (.box nd (16,x0,0,0,0,x1,[],[],())))],4⟩) ⟨⟨rfl,rfl,rfl,trivial⟩,⟨rfl,rfl,rfl,rfl,trivial⟩,rfl,rfl⟩ ?_;(repeat(first|apply zae|apply zab|apply zac|apply zad));refine zai ?_;refine zaz 1 hX zaj zbT rfl trivial rfl rfl ⟨hok2,(by decide:(-1000:Int)≤(-400)),(by decide:((-400):Int)≤1000)⟩ hI (e:=zdo s st1 (-400) 400 false) rfl (fun er h=>?_) (fun a2 h2=>?_)
 ·rw[zan h];exact rfl
 rw[zar h2];obtain⟨x2,st2⟩:=a2;have hok3:pOk (s,st2.1,l,st2.2,()):=⟨(zb2 hok2.1 h2).1,hok2.2⟩;refine zT hX zaj rfl trivial ?_;refine zap (σ':=⟨[(0,pSelf),(2,⟨.optr nd,⟨2,nd,.here⟩⟩),(3,⟨.optr nd,⟨3,nd,.here⟩⟩)],[(0,some (pBox ty s st2)),(1,some (.buf 73 nd l)),(2,some (.box nd zNd)),(3,some (.box nd (16,x0,0,0,0,x1,x2,[],())))],4⟩) ⟨⟨rfl,rfl,rfl,trivial⟩,⟨rfl,rfl,rfl,rfl,trivial⟩,rfl,rfl⟩ ?_;(repeat(first|apply zae|apply zab|apply zal|apply zad|apply zac|refine zaa hX zaj rfl trivial ?_|refine zaa hX zaj rfl id ?_|refine zaa hX zaj rfl ⟨id,id⟩ ?_));exact zr ⟨.inr rfl,⟨_,rfl,nd,1,_,rfl,rfl,rfl⟩,zaw rfl trivial rfl rfl rfl⟩
def fnV (f:zP):zh:=.func (.func f) #[] #[]
def zda:LeafW->zh
 | .days=>fnV 237
 | .years=>fnV 238
 | .months=>fnV 239
 | .monthdays=>fnV 240
 | .weekdays=>fnV 241
 | .weeks=>fnV 242
 | .nth=>fnV 243
def zeL:SufW->zh
 | .shift=>fnV 201
 | .from_=>fnV 203
 | .until_=>fnV 204
 | .also=>fnV 205
 | .except_=>fnV 207
 | .pos=>fnV 208
 | .behind=>fnV 211
def strV (w:List UInt8):zh:=.string ⟨w.toArray⟩
def zkf:List (zh×zh):=[(strV zjH,zda .days),(strV zgg,zda .years),(strV zcn,zda .months),(strV za3,zda .monthdays),(strV zbj,zda .weekdays),(strV zdh,zda .weeks),(strV wNth,zda .nth)]
def zgY:List (zh×zh):=[(strV zeP,zeL .shift),(strV zhU,zeL .from_),(strV zeO,zeL .until_),(strV zeX,zeL .also),(strV zco,zeL .except_),(strV wPos,zeL .pos),(strV zbD,zeL .behind)]
theorem zpW (a b:ByteArray):(a==b)=(a.toList==b.toList):=by
 rw[xD,xD];show (a.data==b.data)=(a.data.toList==b.data.toList);rw[yq,beq_iff_eq,beq_iff_eq];exact⟨fun h=>by rw[h],fun h=>Array.toList_inj.1 h⟩
theorem ziE (w k:List UInt8) (v:zh) (es:List (zh×zh)):zfz .string (strV w) ((strV k,v)::es)=if w=k then some (some v) else zfz .string (strV w) es:=by
 rw[zfz];have e:Instr.sameNow .string (strV w) (strV k)=some (decide (w=k)):=by
  show some ((⟨w.toArray⟩:ByteArray)==⟨k.toArray⟩)=_
  congr 1
  rw[zpW,zet,zcy]
 rw[show (strV k,v).1=strV k from rfl,e];by_cases h:w=k
 ·rw[if_pos h,decide_eq_true h]
 ·rw[if_neg h,decide_eq_false h]
theorem zo4 (w:List UInt8):zfz .string (strV w) zkf=some ((zgz w).map zda):=by
 unfold zkf zgz
 iterate 7 (rw[ziE];split; · rfl)
 rfl
theorem zqf (w:List UInt8):zfz .string (strV w) zgY=some ((sufW w).map zeL):=by
 unfold zgY sufW
 iterate 7 (rw[ziE];split; · rfl)
 rfl
def zpN:Ctr:={ args:=[],pre:=fun _=>[],res:=.mapL,own:=none,out:=fun _=>zkf }
def zkF:Ctr:={ args:=[],pre:=fun _=>[],res:=.mapL,own:=none,out:=fun _=>zgY }
theorem zo1:yK Tryz.prog gmH 200 zpN:=by
 refine zaq (K:=gmK) zaj Tryz.func200 rfl rfl Tryz.call200 rfl (by decide) (by intro h;cases h) ?_;rintro w0 X hX _ hp;change AWP _ _ _ _ _ ⟨[],[],0⟩ _;apply zae;refine za (za ?_);refine zaa hX zaj rfl ?_ ?_
 ·trivial
 (repeat(first|apply zae|apply zab|apply zac|apply zad));refine zai ?_;refine AL.mapLit hX Tryz.underlying204 Tryz.underlying9 rfl zkf (ins:=[_,_,_,_,_,_,_]) rfl rfl rfl rfl (.cons rfl (fun _=>rfl) (fun _=>rfl) rfl rfl <| .cons rfl (fun _=>rfl) (fun _=>rfl) rfl rfl <| .cons rfl (fun _=>rfl) (fun _=>rfl) rfl rfl <| .cons rfl (fun _=>rfl) (fun _=>rfl) rfl rfl <| .cons rfl (fun _=>rfl) (fun _=>rfl) rfl rfl <| .cons rfl (fun _=>rfl) (fun _=>rfl) rfl rfl <| .cons rfl (fun _=>rfl) (fun _=>rfl) rfl rfl rfl) ⟨rfl,rfl,rfl,rfl,rfl,rfl,rfl,trivial⟩ ?_;refine zT hX zaj rfl trivial ?_;(repeat(first|apply zae|apply zab|apply zac|apply zad));exact zr ⟨.inr rfl,zaw rfl trivial rfl rfl rfl⟩
theorem zkX:yK Tryz.prog gmH 179 zkF:=by
 refine zaq (K:=gmK) zaj Tryz.func179 rfl rfl Tryz.call179 rfl (by decide) (by intro h;cases h) ?_;rintro w0 X hX _ hp;change AWP _ _ _ _ _ ⟨[],[],0⟩ _;apply zae;refine za (za ?_);refine zaa hX zaj rfl ?_ ?_
 ·trivial
 (repeat(first|apply zae|apply zab|apply zac|apply zad));refine zai ?_;refine AL.mapLit hX Tryz.underlying204 Tryz.underlying9 rfl zgY (ins:=[_,_,_,_,_,_,_]) rfl rfl rfl rfl (.cons rfl (fun _=>rfl) (fun _=>rfl) rfl rfl <| .cons rfl (fun _=>rfl) (fun _=>rfl) rfl rfl <| .cons rfl (fun _=>rfl) (fun _=>rfl) rfl rfl <| .cons rfl (fun _=>rfl) (fun _=>rfl) rfl rfl <| .cons rfl (fun _=>rfl) (fun _=>rfl) rfl rfl <| .cons rfl (fun _=>rfl) (fun _=>rfl) rfl rfl <| .cons rfl (fun _=>rfl) (fun _=>rfl) rfl rfl rfl) ⟨rfl,rfl,rfl,rfl,rfl,rfl,rfl,trivial⟩ ?_;refine zT hX zaj rfl trivial ?_;(repeat(first|apply zae|apply zab|apply zac|apply zad));exact zr ⟨.inr rfl,zaw rfl trivial rfl rfl rfl⟩
abbrev Gop:=List UInt8×Int×Unit
def opsL:List Gop:=[(wOr,9,()),(zjG,10,()),(wAnd,8,())]
def cOps:Ctr:={ args:=[],pre:=fun _=>[],res:=.slice gop,own:=none,out:=fun _=>opsL }
theorem zgp:yK Tryz.prog gmH 101 cOps:=by
 refine zaq (K:=gmK) zaj Tryz.func101 rfl rfl Tryz.call101 rfl (by decide) (by intro h;cases h) ?_;rintro w0 X hX _ hp;change AWP _ _ _ _ _ ⟨[],[],0⟩ _;(repeat(first|apply zae|apply zab|apply zal|apply zad|apply zac|refine zaa hX zaj rfl trivial ?_|refine zaa hX zaj rfl id ?_|refine zaa hX zaj rfl ⟨id,id⟩ ?_));refine AWP.frz hX 0 ?_;exact zr ⟨.inr rfl,zaw rfl trivial rfl rfl rfl⟩
section
variable {s:List UInt8}
theorem zdQ {st st':GSt} {w:List UInt8} (he:zaX s st w= .ok st'):st'.2=st.2:=by
 obtain⟨u,_,h2⟩:=zao he;cases h2;rfl
theorem zde {st st':GSt} (he:zbU s st= .ok st'):st'.2=st.2+1:=by
 obtain⟨u,_,h2⟩:=zao he;cases h2;rfl
theorem zbw {st st':GSt} {lo hi x:Int} (he:zaO s st lo hi= .ok (x,st')):st'.2=st.2:=by
 obtain⟨_,_,he⟩:=zao he;obtain⟨_,_,he⟩:=zao he;cases he;rfl
theorem zmk {lo hi:Int} {z:Bool}:∀ (k:Nat) {st st':GSt} {l l':List Int},zcw s lo hi z k st l= .ok (l',st')->st'.2=st.2
 |0,_,_,_,_,he=>by cases he
 |k+1,st,st',l,l',he=>by
  unfold zcw at he;split at he
  ·cases he;rfl
  ·obtain⟨_,_,he⟩:=zao he;obtain⟨_,_,he⟩:=zao he;obtain⟨_,_,he⟩:=zao he;obtain⟨⟨x,st1⟩,h1,he⟩:=zao he;rw[zmk k he,zbw h1]
theorem zjj {st st':GSt} {lo hi:Int} {z:Bool} {l:List Int} (he:zdo s st lo hi z= .ok (l,st')):st'.2=st.2:=by
 obtain⟨st1,h1,he⟩:=zao he;obtain⟨⟨l1,st2⟩,h2,he⟩:=zao he;obtain⟨st3,h3,he⟩:=zao he;cases he;rw[zdQ h3,zmk _ h2,zdQ h1]
theorem zmj {st st':GSt} {x:Int} (he:zdP s st= .ok (x,st')):st'.2=st.2:=by
 obtain⟨_,_,he⟩:=zao he;cases he;rfl
theorem ztq {st st':GSt} {n:Nd}:∀ (w:LeafW),zdp s st w= .ok (n,st')->st'.2=st.2
 | .days,he=>by
  obtain⟨⟨x,a⟩,h1,he⟩:=zao he;obtain⟨⟨y,b⟩,h2,he⟩:=zao he;cases he;rw[zbw h2,zbw h1]
 | .years,he=>by
  obtain⟨⟨x,a⟩,h1,he⟩:=zao he;obtain⟨⟨y,b⟩,h2,he⟩:=zao he;obtain⟨⟨z,c⟩,h3,he⟩:=zao he;cases he;rw[zbw h3,zbw h2,zbw h1]
 | .months,he| .monthdays,he| .weeks,he=>by
  obtain⟨⟨x,a⟩,h1,he⟩:=zao he;obtain⟨⟨y,b⟩,h2,he⟩:=zao he;cases he;rw[zjj h2,zbw h1]
 | .weekdays,he=>by
  obtain⟨⟨y,b⟩,h2,he⟩:=zao he;cases he;exact zjj h2
 | .nth,he=>by
  obtain⟨⟨x,a⟩,h1,he⟩:=zao he;obtain⟨_,_,he⟩:=zao he;obtain⟨⟨y,b⟩,h2,he⟩:=zao he;obtain⟨⟨z,c⟩,h3,he⟩:=zao he;obtain⟨⟨u,d⟩,h4,he⟩:=zao he;cases he;rw[zmj h4,zbw h3,zbw h2,zbw h1]
theorem zmi {st st':GSt} {n:Nd}:∀ (w:SufW),gSuf s st w= .ok (n,st')->st'.2=st.2
 | .shift,he| .from_,he| .until_,he=>by
  obtain⟨⟨x,a⟩,h1,he⟩:=zao he;cases he;exact zbw h1
 | .also,he| .except_,he=>by
  obtain⟨⟨x,a⟩,h1,he⟩:=zao he;cases he;exact zjj h1
 | .pos,he=>by
  obtain⟨⟨x,a⟩,h1,he⟩:=zao he;obtain⟨⟨y,b⟩,h2,he⟩:=zao he;obtain⟨⟨z,c⟩,h3,he⟩:=zao he;cases he;rw[zjj h3,zmj h2,zbw h1]
 | .behind,he=>by
  obtain⟨⟨x,a⟩,h1,he⟩:=zao he;obtain⟨b,h2,he⟩:=zao he;cases he;rw[zdQ h2,zbw h1]
def SzOk (st:GSt) (t:Tr) (st':GSt):Md->Prop
 | .binL _ t0=>st'.2+(t0.size:Int)=st.2+(t.size:Int)
 | .chainL t0=>st'.2+(t0.size:Int)=st.2+(t.size:Int)
 |_=>st'.2=st.2+(t.size:Int)
theorem zqJ {r:Md->GSt->GE (Tr×GSt)} (hr:∀ md st t st',r md st= .ok (t,st')->SzOk st t st' md):∀ md st t st',zbp s r md st= .ok (t,st')->SzOk st t st' md
 | .bin i,st,t,st',he=>by
  rw[zbp]at he;split at he
  ·exact hr .chain _ _ _ he
  ·obtain⟨⟨u,a⟩,h1,he⟩:=zao he;have k1:a.2=st.2+(u.size:Int):=hr _ _ _ _ h1;have k2:st'.2+(u.size:Int)=a.2+(t.size:Int):=hr _ _ _ _ he;show st'.2=st.2+(t.size:Int);omega
 | .binL i t0,st,t,st',he=>by
  rw[zbp]at he;split at he
  ·obtain⟨a,h1,he⟩:=zao he;obtain⟨⟨u,b⟩,h2,he⟩:=zao he;have k1:=zde h1;have k2:b.2=a.2+(u.size:Int):=hr _ _ _ _ h2;have k3:st'.2+((t0.size+u.size+1:Nat):Int)=b.2+(t.size:Int):=hr _ _ _ _ he;show st'.2+(t0.size:Int)=st.2+(t.size:Int);omega
  ·cases he;rfl
 | .chain,st,t,st',he=>by
  rw[zbp]at he;obtain⟨⟨u,a⟩,h1,he⟩:=zao he;have k1:a.2=st.2+(u.size:Int):=hr _ _ _ _ h1;have k2:st'.2+(u.size:Int)=a.2+(t.size:Int):=hr _ _ _ _ he;show st'.2=st.2+(t.size:Int);omega
 | .chainL t0,st,t,st',he=>by
  show st'.2+(t0.size:Int)=st.2+(t.size:Int);rw[zbp]at he;split at he
  ·split at he
   ·cases he;rfl
   ·obtain⟨a,h1,he⟩:=zao he;obtain⟨⟨n,b⟩,h2,he⟩:=zao he;obtain⟨⟨u,c⟩,h3,he⟩:=zao he;have k1:=zde h1;have k2:=zmi _ h2;have k3:c.2=b.2+(u.size:Int):=hr _ _ _ _ h3;have k4:st'.2+((t0.size+u.size+1:Nat):Int)=c.2+(t.size:Int):=hr _ _ _ _ he;omega
   ·obtain⟨a,h1,he⟩:=zao he;obtain⟨⟨n,b⟩,h2,he⟩:=zao he;have k1:=zde h1;have k2:=zmi _ h2;have k4:st'.2+((t0.size+1:Nat):Int)=b.2+(t.size:Int):=hr _ _ _ _ he;omega
  ·cases he;rfl
 | .prim,st,t,st',he=>by
  show st'.2=st.2+(t.size:Int);rw[zbp]at he;split at he
  ·obtain⟨⟨u,a⟩,h1,he⟩:=zao he;obtain⟨b,h2,he⟩:=zao he;cases he;have k1:a.2=(gAdv s st).2+(t.size:Int):=hr _ _ _ _ h1;have k2:=zdQ h2;have k3:(gAdv s st).2=st.2:=rfl;omega
  ·split at he
   ·obtain⟨_,_,he⟩:=zao he;obtain⟨a,h1,he⟩:=zao he;cases he;exact zde h1
   ·obtain⟨_,h0,he⟩:=zao he;split at he
    ·cases he
    ·obtain⟨a,h1,he⟩:=zao he;obtain⟨⟨n,b⟩,h2,he⟩:=zao he;cases he;rw[ztq _ h2];exact zde h1
theorem zrQ:∀ (k:Nat) md st t st',prs s k md st= .ok (t,st')->SzOk st t st' md
 |0,_,_,_,_,he=>by cases he
 |k+1,md,st,t,st',he=>zqJ (zrQ k) md st t st' he
theorem zi2 {md:Md} {st st':GSt} {t:Tr} (he:prsT s md st= .ok (t,st')):SzOk st t st' md:=zrQ _ _ _ _ _ he
theorem Tr.size_pos:∀ t:Tr,1≤t.size
 | .leaf _=>zl _
 | .un _ a=>Nat.le_add_left _ _
 | .bin _ a b=>Nat.le_add_left _ _
theorem zhe {i:Nat} {st:GSt} (h:GOk s st) (hi:3≤i):prsT s (.bin i) st=prsT s .chain st:=by
 rw[zcB h,zbp,if_pos hi]
theorem zgH {i:Nat} {st:GSt} (h:GOk s st) (hi:¬ 3≤i):prsT s (.bin i) st=(prsT s (.bin (i+1)) st >>= fun p=>prsT s (.binL i p.1) p.2):=by
 rw[zcB h,zbp,if_neg hi]
theorem zio {i:Nat} {t:Tr} {st:GSt} (h:GOk s st) (hi:gIs st (opW i)=false):prsT s (.binL i t) st= .ok (t,st):=by
 rw[zcB h,zbp,if_neg (by rw[hi];decide)]
theorem zin {i:Nat} {t:Tr} {st:GSt} (h:GOk s st) (hi:gIs st (opW i)=true):prsT s (.binL i t) st=(zbU s st >>= fun st=>prsT s (.bin (i+1)) st >>= fun p=>prsT s (.binL i (.bin (opK i,zNd.2) t p.1)) p.2):=by
 rw[zcB h,zbp,if_pos hi]
theorem zim {st:GSt} (h:GOk s st):prsT s .chain st=(prsT s .prim st >>= fun p=>prsT s (.chainL p.1) p.2):=by
 rw[zcB h,zbp]
theorem zeg {t:Tr} {st:GSt} (h:GOk s st) (hc:zQ st.1≠1):prsT s (.chainL t) st= .ok (t,st):=by
 rw[zcB h,zbp,if_neg hc]
theorem zgl {t:Tr} {st:GSt} (h:GOk s st) (hc:zQ st.1=1) (hw:sufW (zR st.1)=none):prsT s (.chainL t) st= .ok (t,st):=by
 rw[zcB h,zbp,if_pos hc,hw]
def sufT (t:Tr) (st:GSt):SufW->GE (Tr×GSt)
 | .behind=>gSuf s st .behind >>= fun p=>prsT s .prim p.2 >>= fun u=>.ok (.bin p.1 t u.1,u.2)
 |w=>gSuf s st w >>= fun p=>.ok (.un p.1 t,p.2)
theorem zgm {t:Tr} {st:GSt} {w:SufW} (h:GOk s st) (hc:zQ st.1=1) (hw:sufW (zR st.1)=some w):prsT s (.chainL t) st=(zbU s st >>= fun st=>sufT (s:=s) t st w >>= fun p=>prsT s (.chainL p.1) p.2):=by
 rw[zcB h,zbp,if_pos hc,hw];cases w<;>(
  simp only[sufT];cases zbU s st with
  |error e=>rfl
  |ok a=>
   show (gSuf s a _ >>= _)=((gSuf s a _ >>= _) >>= _);cases gSuf s a _ with
   |error e=>rfl
   |ok p=>
    first
    |rfl
    |(show (prsT s .prim p.2 >>= _)=((prsT s .prim p.2 >>= _) >>= _)
      cases prsT s .prim p.2<;>rfl))
end
@[reducible] def trX (s:List UInt8) (l:List Nd) (r:Tr×GSt):Int×PsT:=(((l.length+r.1.size:Nat):Int) - 1,psX s r.2 (l++r.1.flat l.length))
def few (x:PsT):Prop:=((x.2.2.1.length:Nat):Int)≤x.2.2.2.1
@[reducible] def cBin (k:Nat):HCtr:=hP [i64] i64 (fun x xs=>[0≤xs.1,xs.1≤3,few x,meas x.1 (.bin xs.1.toNat) (stOf x) < k]) fun x xs=>toX (trX x.1 x.2.2.1) (prsT x.1 (.bin xs.1.toNat) (stOf x))
@[reducible] def zkI (k:Nat):HCtr:=hP [] i64 (fun x _=>[few x,meas x.1 .chain (stOf x) < k]) fun x _=>toX (trX x.1 x.2.2.1) (prsT x.1 .chain (stOf x))
@[reducible] def zjq (k:Nat):HCtr:=hP [] i64 (fun x _=>[few x,meas x.1 .prim (stOf x) < k]) fun x _=>toX (trX x.1 x.2.2.1) (prsT x.1 .prim (stOf x))
def gBeh (s:List UInt8) (st:GSt):GE (Nd×Tr×GSt):=gSuf s st .behind >>= fun p=>prsT s .prim p.2 >>= fun u=>.ok (p.1,u.1,u.2)
def setR (n:Nd) (r:Int):Nd:=(n.1,n.2.1,n.2.2.1,r,n.2.2.2.2)
@[reducible] def cBeh (k:Nat):HCtr:=hP [] nd (fun x _=>[few x,meas x.1 .prim (stOf x) < k]) fun x _=>toX (fun r=>(setR r.1 (((x.2.2.1.length+r.2.1.size:Nat):Int) - 1),psX x.1 r.2.2 (x.2.2.1++r.2.1.flat x.2.2.1.length))) (gBeh x.1 (stOf x))
def kBi:Kn:={ gmK with C:=[(101,cOps)] }
theorem zbh:KnOk Tryz.prog gmH kBi:=zaj.with (.cons zgp .nil)
def hBi (k:Nat):List (zP×HCtr):=[(80,cBin k),(133,zkI k),(134,cIs),(135,zkJ),(136,cAdd)]
theorem zsR {i:Nat} (h:i < 3):opsL.getD ((i:Int)).toNat ([],0,())=(opW i,opK i,()):=by
 rw[zD];rcases (show i=0∨i=1∨i=2 by omega) with rfl|rfl|rfl<;>rfl
theorem ztX {te:zn} {t:Ty} {x y:List t.T} (h:x=y):some (OObj.buf te t x)=some (OObj.buf te t y):=by rw[h]
theorem zpU (k:Nat) (hB:zaD Tryz.prog gmH 80 (cBin k)) (hC:zaD Tryz.prog gmH 133 (zkI k)):zaD Tryz.prog gmH 80 (cBin (k+1)):=by
 have hbi:HsOk Tryz.prog gmH (hBi k):=.cons hB <| .cons hC <| .cons zq5 <| .cons zjv <| .cons zpY .nil;refine zau (K:=_) zbh Tryz.func80 rfl rfl zbf Tryz.call80 rfl (zb rfl) zaU ?_;rintro w0 ⟨G,O,K,fix,D,ρ,B⟩ ty hX hG hK hρ hD hinv ⟨(s:List UInt8),(t:TokT),(l:List Nd),(b:Int),⟨⟩⟩ ⟨(j:Int),⟨⟩⟩ hp;obtain rfl:G=gmH:=hG;obtain rfl:K=1:=hK;obtain rfl:ρ=none:=hρ;obtain rfl:D=[]:=hD;have hI:=zaJ (ty:=ty) (ty':=ty) hX rfl hinv;obtain⟨hok,hj0,hj1,hfew,hme⟩:pOk (s,t,l,b,())∧0≤j∧j≤3∧few (s,t,l,b,())∧meas s (.bin j.toNat) (t,b) < k+1:=hp;obtain⟨i,rfl⟩:∃ i:Nat,j=(i:Int):=⟨j.toNat,by omega⟩;rw[zD]at hme;have hg:GOk s (t,b):=hok.1;change AWP _ _ _ _ _ ⟨[(0,pSelf),(1,⟨i64,(i:Int)⟩)],pE ty s (t,b) l,2⟩ (pQ _ (cBin (k+1)) ty (toX (trX s l) (prsT s (.bin ((i:Int)).toNat) (t,b))));rw[zD];refine za (za ?_);refine zaa hX zbh rfl ?_ ?_
 ·trivial
 refine za (za ?_);refine zaa hX zbh rfl ?_ ?_
 ·trivial
 refine za (za ?_);refine zaa hX zbh rfl ?_ ?_
 ·trivial
 refine zaf rfl (fun hb=>?_) (fun hb=>?_)
 ·have hb:decide ((i:Int)=((3:Nat):Int))=true:=hb;have hb:=of_decide_eq_true hb;obtain rfl:i=3:=by omega
  rw[zhe hg (zl 3)];have hmc:meas s .chain (t,b) < k:=by simp only[meas,mdF]at hme ⊢;omega
  (repeat(first|apply zae|apply zab|apply zac|apply zad));refine zai ?_;refine zaz 1 hX zbh hbi rfl trivial rfl rfl ⟨hok,hfew,hmc⟩ hI (e:=prsT s .chain (t,b)) rfl (fun er h=>?_) (fun a h=>?_)
  ·rw[h];exact rfl
  rw[h];refine zT hX zbh rfl trivial ?_;exact zr ⟨.inr rfl,⟨_,rfl,nd,1,_,rfl,rfl,rfl⟩,zaw rfl trivial rfl rfl rfl⟩
 have hb:decide ((i:Int)=((3:Nat):Int))=false:=hb;have hi3:i < 3:=by
  have:=of_decide_eq_false hb;omega
 apply zab;rw[zgH hg (by omega)];have hq:inR .i64 ((i:Int)+1):=zam (by omega) (by omega);have htn:((i:Int)+1).toNat=i+1:=by omega
 have hm1:meas s (.bin ((i:Int)+1).toNat) (t,b) < k:=by
  rw[htn];simp only[meas,mdF]at hme ⊢;omega
 (repeat(first|apply zae|apply zab|apply zac|apply zad));refine zai ?_;refine zaz 3 hX zbh hbi rfl hq rfl rfl ⟨hok,(by omega:(0:Int)≤(i:Int)+1),(by omega:(i:Int)+1≤3),hfew,hm1⟩ hI (f:=trX s l) (e:=prsT s (.bin (i+1)) (t,b)) (congrArg (fun i=>toX (trX s l) (prsT s (.bin i) (t,b))) htn) (fun er h=>?_) (fun a h=>?_)
 ·rw[zan h];exact rfl
 rw[zar h];obtain⟨t1,st1⟩:=a;refine zT hX zbh rfl trivial ?_;have hc1:Onw s (t,b) st1:=zdJ hg h;have hz1:st1.2=b+(t1.size:Int):=zi2 h;have hsl:s.length≤100000:=hok.2;have hfew:((l.length:Nat):Int)≤b:=hfew;apply zae;apply zac;refine yR (ι:=Tr×GSt) (fun i'=>⟨[(0,pSelf),(1,⟨i64,(i:Int)⟩),(5,⟨.slice gop,opsL⟩),(6,⟨i64,(((l.length+i'.1.size:Nat):Int) - 1)⟩)],pE ty s i'.2 (l++i'.1.flat l.length),2⟩) (fun i'=>prsT s (.binL i t1) st1=prsT s (.binL i i'.1) i'.2∧Onw s (t,b) i'.2∧i'.2.2=b+(i'.1.size:Int)) (fun i'=>rem s i'.2) (t1,st1) ⟨rfl,hc1,hz1⟩ ⟨⟨rfl,rfl,rfl,rfl,trivial⟩,⟨rfl,rfl,trivial⟩,rfl,rfl⟩ ?_;rintro ⟨t2,st⟩ ⟨heq,hon,hsz⟩;have heq:prsT s (.binL i t1) st1=prsT s (.binL i t2) st:=heq;have hsz:st.2=b+(t2.size:Int):=hsz;have hon:Onw s (t,b) st:=hon;have hst:GOk s st:=hon.1;have hst2:pOk (s,st.1,l++t2.flat l.length,st.2,()):=⟨hst,hsl⟩;have hgo:(i:Int) < ((opsL.length:Nat):Int):=by show (i:Int) < ((3:Nat):Int);omega
 have hgo0:(0:Int)≤(i:Int):=by omega
 rw[heq];apply zae;apply zae;refine zai ?_;refine yn 6 hX zbh hbi rfl ⟨hgo0,hgo⟩ rfl rfl hst2 hI ?_;refine yg ?_;have hat:=zsR hi3;have hw1:(opsL.getD ((i:Int)).toNat ([],0,())).1=opW i:=by rw[hat]
 have hk1:(opsL.getD ((i:Int)).toNat ([],0,())).2.1=opK i:=by rw[hat]
 refine zaf rfl (fun hb=>?_) (fun hb=>?_)
 ·have hb:gIs st (opsL.getD ((i:Int)).toNat ([],0,())).1=true:=hb;rw[hw1]at hb;apply zab;rw[zin hst hb]at heq ⊢;refine zap (σ':=⟨[(0,pSelf),(1,⟨i64,(i:Int)⟩),(5,⟨.slice gop,opsL⟩),(6,⟨i64,(((l.length+t2.size:Nat):Int) - 1)⟩)],pE ty s st (l++t2.flat l.length),2⟩) ⟨⟨rfl,rfl,rfl,rfl,trivial⟩,⟨rfl,rfl,trivial⟩,rfl,rfl⟩ ?_;apply zac;(repeat(first|apply zae|apply zab|apply zac|apply zad));refine zai ?_;refine zaz 1 hX zbh hbi rfl trivial rfl rfl hst2 hI (e:=zbU s st) rfl (fun er h=>?_) (fun st3 h3=>?_)
  ·rw[zan h];exact rfl
  rw[zar h3];have hc3:=zbg hst (zdF hb) h3;have hz3:=zde h3;have hfl:=t2.len_flat l.length;have hst3:pOk (s,st3.1,l++t2.flat l.length,st3.2,()):=⟨hc3.1,hsl⟩;have hfew3:few (s,st3.1,l++t2.flat l.length,st3.2,()):=by
   show (((l++t2.flat l.length).length:Nat):Int)≤st3.2;rw[zd];omega
  have hr1:=hon.rem hg;have hr2:=hc3.rem hst;have hm3:meas s (.bin ((i:Int)+1).toNat) st3 < k:=by
   rw[htn];simp only[meas,mdF]at hme ⊢;omega
  refine yg ?_;refine zap (σ':=⟨[(0,pSelf),(1,⟨i64,(i:Int)⟩),(5,⟨.slice gop,opsL⟩),(6,⟨i64,(((l.length+t2.size:Nat):Int) - 1)⟩)],pE ty s st3 (l++t2.flat l.length),2⟩) ⟨⟨rfl,rfl,rfl,rfl,trivial⟩,⟨rfl,rfl,trivial⟩,rfl,rfl⟩ ?_;(repeat(first|apply zae|apply zab|apply zac|apply zad));refine zai ?_;refine zaz 3 hX zbh hbi rfl hq rfl rfl ⟨hst3,(by omega:(0:Int)≤(i:Int)+1),(by omega:(i:Int)+1≤3),hfew3,hm3⟩ hI (f:=trX s (l++t2.flat l.length)) (e:=prsT s (.bin (i+1)) st3) (congrArg (fun i=>toX (trX s (l++t2.flat l.length)) (prsT s (.bin i) st3)) htn) (fun er h=>?_) (fun a h4=>?_)
  ·rw[zan h];exact rfl
  rw[zar h4];obtain⟨u,st4⟩:=a;have hc4:Onw s st3 st4:=zdJ hc3.1 h4;have hz4:st4.2=st3.2+(u.size:Int):=zi2 h4;have hst4:pOk (s,st4.1,l++t2.flat l.length++u.flat (l.length+t2.size),st4.2,()):=⟨hc4.1,hsl⟩;have hlen1:(l++t2.flat l.length).length=l.length+t2.size:=by rw[zd,hfl]
  have hlen2:(l++t2.flat l.length++u.flat (l.length+t2.size)).length=l.length+t2.size+u.size:=by rw[zd,hlen1,u.len_flat]
  refine zT hX zbh rfl trivial ?_;refine zap (σ':=⟨[(0,pSelf),(1,⟨i64,(i:Int)⟩),(5,⟨.slice gop,opsL⟩),(6,⟨i64,(((l.length+t2.size:Nat):Int) - 1)⟩),(7,⟨i64,(((l.length+t2.size+u.size:Nat):Int) - 1)⟩)],pE ty s st4 (l++t2.flat l.length++u.flat (l.length+t2.size)),2⟩) ⟨⟨rfl,rfl,rfl,rfl,vI64 ?_,trivial⟩,⟨rfl,ztX ?_,trivial⟩,rfl,rfl⟩ ?_
  ·show ((((l++t2.flat l.length).length+u.size:Nat):Int) - 1)=_;rw[hlen1]
  ·show l++t2.flat l.length++u.flat (l++t2.flat l.length).length=_;rw[hlen1]
  have hg4:=hc4.1.2.2;have hadd:(l++t2.flat l.length++u.flat (l.length+t2.size)).length≤100000:=by
   rw[hlen2];omega
  (repeat(first|apply zae|apply zab|apply zac|apply zad));refine zai ?_;refine yn 9 hX zbh hbi rfl ⟨hgo0,hgo⟩ rfl rfl ⟨hst4,hadd⟩ hI ?_;refine zT hX zbh rfl trivial ?_;refine⟨(.bin (opK i,zNd.2) t2 u,st4),⟨?_,?_,?_⟩,?_,⟨rfl,rfl,rfl,vI64 ?_,trivial⟩,⟨rfl,ztX ?_,trivial⟩,rfl,rfl⟩
  ·rw[h3];show (prsT s (.bin (i+1)) st3 >>= _)=_;rw[h4];rfl
  ·exact (hon.trans hc3).trans hc4
  ·show st4.2=b+((t2.size+u.size+1:Nat):Int);omega
  ·have hr4:=hc4.rem hc3.1;show rem s st4 < rem s st;omega
  ·show (((l++t2.flat l.length++u.flat (l.length+t2.size)).length:Nat):Int)=((l.length+(t2.size+u.size+1):Nat):Int) - 1;rw[hlen2];omega
  ·show l++t2.flat l.length++u.flat (l.length+t2.size)++ [((opsL.getD ((i:Int)).toNat ([],0,())).2.1,(0:Int),(((l.length+t2.size:Nat):Int) - 1),(((l.length+t2.size+u.size:Nat):Int) - 1),(0:Int),(0:Int),([]:List Int),([]:List UInt8),())]=l++(t2.flat l.length++u.flat (l.length+t2.size)++ [zbs (opK i,zNd.2) (((l.length+t2.size:Nat):Int) - 1) (((l.length+t2.size+u.size:Nat):Int) - 1)]);rw[hk1, <-zp, <-zp];rfl
 ·have hb:gIs st (opsL.getD ((i:Int)).toNat ([],0,())).1=false:=hb;rw[hw1]at hb;rw[zio hst hb];apply zad;(repeat(first|apply zae|apply zab|apply zal|apply zad|apply zac|refine zaa hX zbh rfl trivial ?_|refine zaa hX zbh rfl id ?_|refine zaa hX zbh rfl ⟨id,id⟩ ?_));exact zr ⟨.inr rfl,⟨_,rfl,nd,1,_,rfl,rfl,rfl⟩,zaw rfl trivial rfl rfl rfl⟩
def hBe (k:Nat):List (zP×HCtr):=[(202,zf9),(88,zga),(178,zjq k)]
theorem beh_ok (k:Nat) (hP:zaD Tryz.prog gmH 178 (zjq k)):zaD Tryz.prog gmH 211 (cBeh k):=by
 have hbe:HsOk Tryz.prog gmH (hBe k):=.cons zfq <| .cons zfB <| .cons hP .nil;refine zau (K:=_) zaj Tryz.func211 rfl rfl zbf Tryz.call211 rfl (zb rfl) zaU ?_;rintro w0 ⟨G,O,K,fix,D,ρ,B⟩ ty hX hG hK hρ hD hinv ⟨(s:List UInt8),(t:TokT),(l:List Nd),(b:Int),⟨⟩⟩ ⟨⟩ hp;obtain rfl:G=gmH:=hG;obtain rfl:K=1:=hK;obtain rfl:ρ=none:=hρ;obtain rfl:D=[]:=hD;have hI:=zaJ (ty:=ty) (ty':=ty) hX rfl hinv;obtain⟨hok,hfew,hme⟩:pOk (s,t,l,b,())∧few (s,t,l,b,())∧meas s .prim (t,b) < k:=hp;have hg:GOk s (t,b):=hok.1;have hsl:s.length≤100000:=hok.2;have hfew:((l.length:Nat):Int)≤b:=hfew;change AWP _ _ _ _ _ ⟨[(0,pSelf)],pE ty s (t,b) l,2⟩ (pQ _ (cBeh k) ty (toX (fun r=>(setR r.1 (((l.length+r.2.1.size:Nat):Int) - 1),psX s r.2.2 (l++r.2.1.flat l.length))) (gBeh s (t,b))));obtain⟨R,hR⟩:∃ R,R=gBeh s (t,b):=⟨_,rfl⟩;rw[<-hR];rw[show gBeh s (t,b)=(zaO s (t,b) 1 400 >>= fun p=>zaX s p.2 wOf >>= fun st=>prsT s .prim st >>= fun u=>.ok ((17,0,0,0,p.1,0,[],[],()),u.1,u.2)) by
  unfold gBeh gSuf;cases zaO s (t,b) 1 400 with
  |error e=>rfl
  |ok p=>
   show ((zaX s p.2 wOf >>= _) >>= _)=(zaX s p.2 wOf >>= _);cases zaX s p.2 wOf<;>rfl]at hR
 refine za (za ?_);refine zaa hX zaj rfl ?_ ?_
 ·trivial
 (repeat(first|apply zae|apply zab|apply zac|apply zad));refine zai ?_;refine zaz 1 hX zaj hbe rfl trivial rfl rfl hok hI (e:=zaO s (t,b) 1 400) rfl (fun er h=>?_) (fun p h1=>?_)
 ·rw[show R= .error er by rw[hR,h];rfl];exact rfl
 obtain⟨x,st1⟩:=p;rw[h1]at hR;have hc1:=(zas hg h1).1;have hst1:pOk (s,st1.1,l,st1.2,()):=⟨hc1.1,hsl⟩;refine zT hX zaj rfl trivial ?_;refine zap (σ':=⟨[(0,pSelf),(2,⟨.optr nd,⟨2,nd,.here⟩⟩),(3,⟨.optr nd,⟨3,nd,.here⟩⟩)],[(0,some (pBox ty s st1)),(1,some (.buf 73 nd l)),(2,some (.box nd zNd)),(3,some (.box nd (17,0,0,0,x,0,[],[],())))],4⟩) ⟨⟨rfl,rfl,rfl,trivial⟩,⟨rfl,rfl,rfl,rfl,trivial⟩,rfl,rfl⟩ ?_;(repeat(first|apply zae|apply zab|apply zac|apply zad));refine zai ?_;refine zaz 1 hX zaj hbe rfl trivial rfl rfl hst1 hI (e:=zaX s st1 wOf) rfl (fun er h=>?_) (fun st2 h2=>?_)
 ·rw[show R= .error er by rw[hR];show (zaX s st1 wOf >>= _)=_;rw[h];rfl];exact rfl
 have hc2:=zbq hc1.1 h2;have hst2:pOk (s,st2.1,l,st2.2,()):=⟨hc2.1,hsl⟩;refine yg ?_;refine zap (σ':=⟨[(0,pSelf),(2,⟨.optr nd,⟨2,nd,.here⟩⟩),(3,⟨.optr nd,⟨3,nd,.here⟩⟩)],[(0,some (pBox ty s st2)),(1,some (.buf 73 nd l)),(2,some (.box nd zNd)),(3,some (.box nd (17,0,0,0,x,0,[],[],())))],4⟩) ⟨⟨rfl,rfl,rfl,trivial⟩,⟨rfl,rfl,rfl,rfl,trivial⟩,rfl,rfl⟩ ?_;have hr1:=hc1.rem hg;have hr2:=hc2.rem hc1.1;have hm2:meas s .prim st2 < k:=by
  simp only[meas,mdF]at hme ⊢;omega
 have hz1:=zbw h1;have hz2:=zdQ h2;have hfew2:few (s,st2.1,l,st2.2,()):=by
  show ((l.length:Nat):Int)≤st2.2;rw[hz2,hz1];exact hfew
 (repeat(first|apply zae|apply zab|apply zac|apply zad));refine zai ?_;refine zaz 1 hX zaj hbe rfl trivial rfl rfl ⟨hst2,hfew2,hm2⟩ hI (e:=prsT s .prim st2) rfl (fun er h=>?_) (fun p h3=>?_)
 ·rw[show R= .error er by rw[hR];show (zaX s st1 wOf >>= _)=_;rw[h2];show (prsT s .prim st2 >>= _)=_;rw[h];rfl];exact rfl
 obtain⟨u,st3⟩:=p;rw[show R= .ok ((17,0,0,0,x,0,[],[],()),u,st3) by rw[hR];show (zaX s st1 wOf >>= _)=_;rw[h2];show (prsT s .prim st2 >>= _)=_;rw[h3];rfl];refine zT hX zaj rfl trivial ?_;(repeat(first|apply zae|apply zab|apply zal|apply zad|apply zac|refine zaa hX zaj rfl trivial ?_|refine zaa hX zaj rfl id ?_|refine zaa hX zaj rfl ⟨id,id⟩ ?_));exact zr ⟨.inr rfl,⟨_,rfl,nd,1,_,rfl,rfl,rfl⟩,zaw rfl trivial rfl rfl rfl⟩
def kCh:Kn:={ gmK with C:=[(179,zkF)] }
theorem zci:KnOk Tryz.prog gmH kCh:=zaj.with (.cons zkX .nil)
def hCh (k:Nat):List (zP×HCtr):=[(178,zjq k),(135,zkJ),(136,cAdd)]
theorem zsB {w:SufW} (hw:w≠ .behind):∃ f,zeL w= .func (.func f) #[] #[]∧zaD Tryz.prog gmH f (zf8 w):=by
 cases w with
 |shift=>exact⟨_,rfl,zpw⟩
 |from_=>exact⟨_,rfl,zrf⟩
 |until_=>exact⟨_,rfl,zpv⟩
 |also=>exact⟨_,rfl,zrh⟩
 |except_=>exact⟨_,rfl,znq⟩
 |pos=>exact⟨_,rfl,ztE⟩
 |behind=>exact absurd rfl hw
deriving instance DecidableEq for SufW
def zji (s:List UInt8) (st:GSt) (len:Nat) (w:SufW):GE (Nd×List Nd×(Tr->Tr)×GSt):=
 if w= .behind then gBeh s st >>= fun r=>.ok (setR r.1 (((len+r.2.1.size:Nat):Int) - 1),r.2.1.flat len,fun t=>.bin r.1 t r.2.1,r.2.2)
 else gSuf s st w >>= fun p=>.ok (p.1,[],fun t=>.un p.1 t,p.2)
theorem znN {s:List UInt8} {t:Tr} {st:GSt} (len:Nat):∀ w:SufW,sufT (s:=s) t st w=(zji s st len w >>= fun r=>.ok (r.2.2.1 t,r.2.2.2))
 | .behind=>by
  unfold sufT zji gBeh;rw[if_pos rfl];cases gSuf s st .behind with
  |error e=>rfl
  |ok p=>
   show (prsT s .prim p.2 >>= _)=(((prsT s .prim p.2 >>= _) >>= _) >>= _);cases prsT s .prim p.2<;>rfl
 | .shift| .from_| .until_| .also| .except_| .pos=>by
  unfold sufT zji;rw[if_neg (by intro h;cases h)];simp only[];cases gSuf s st _<;>rfl
theorem zrb {s:List UInt8} {st:GSt} {len:Nat} {w:SufW} {r:Nd×List Nd×(Tr->Tr)×GSt} (h:GOk s st) (he:zji s st len w= .ok r):Onw s st r.2.2.2∧r.2.2.2.2=st.2+(r.2.1.length:Int)∧∀ t:Tr,(r.2.2.1 t).size=t.size+r.2.1.length+1∧∀ b,len=b+t.size->(r.2.2.1 t).flat b=t.flat b++r.2.1++ [setL r.1 (((b+t.size:Nat):Int) - 1)]:=by
 unfold zji at he;split at he
 ·obtain⟨⟨n,u,st'⟩,h1,h2⟩:=zao he;cases h2;obtain⟨⟨n',st1⟩,h3,h4⟩:=zao h1;obtain⟨⟨u',st2⟩,h5,h6⟩:=zao h4;cases h6;have k1:=zel h _ h3;have k2:Onw s st1 st2:=zdJ k1.1 h5;have k3:=zmi _ h3;have k4:st2.2=st1.2+(u'.size:Int):=zi2 h5;refine⟨k1.trans k2,?_,fun t=>⟨?_,fun b hb=>?_⟩⟩
  ·show st2.2=st.2+(((u'.flat len).length:Nat):Int);rw[u'.len_flat];omega
  ·show t.size+u'.size+1=t.size+(u'.flat len).length+1;rw[u'.len_flat]
  ·subst hb;rfl
 ·obtain⟨⟨n,st'⟩,h1,h2⟩:=zao he;cases h2;refine⟨zel h _ h1,?_,fun t=>⟨rfl,fun b hb=>?_⟩⟩
  ·show st'.2=st.2+0;rw[zmi _ h1];omega
  ·show t.flat b++ [_]=t.flat b++ []++ [_];rw[zL]
@[reducible] def cSufK (w:SufW) (k:Nat):HCtr:=hP [] nd (fun x _=>[few x,meas x.1 .prim (stOf x) < k]) fun x _=>toX (fun r=>(r.1,psX x.1 r.2.2.2 (x.2.2.1++r.2.1))) (zji x.1 (stOf x) x.2.2.1.length w)
theorem zqa {args:List Ty} {x:PsT} {xs:Args args} {pre pre':PsT->Args args->List Prop} (hp:∀ x xs,allP (pre' x xs)->allP (pre x xs)) (h7:allP (pOk x::pre' x xs)):allP (pOk x::pre x xs):=by
 have h8:pOk x∧allP (pre' x xs):=by
  cases hq:pre' x xs with
  |nil=>rw[hq]at h7;exact⟨h7,trivial⟩
  |cons a l=>rw[hq]at h7;exact h7
 have h9:=hp x xs h8.2;cases hr:pre x xs with
 |nil=>exact h8.1
 |cons a l=>rw[hr]at h9;exact⟨h8.1,h9⟩
theorem zkp {P:zx} {G:zj->Prop} {f:zP} {args:List Ty} {res:Ty} {pre pre':PsT->Args args->List Prop} {out out':PsT->Args args->Except zh (res.T×PsT)} (h:zaD P G f (hP args res pre out)) (hp:∀ x xs,allP (pre' x xs)->allP (pre x xs)) (ho:∀ x xs,out' x xs=out x xs):zaD P G f (hP args res pre' out'):=by
 obtain rfl:out'=out:=funext fun x=>funext fun xs=>ho x xs;refine⟨h.1,h.2.1,fun w O g cs ty x xs vs b h1 h2 h3 h4 h5 h6 h7 h8 h9=>?_⟩;refine (h.2.2 w O g cs ty x xs vs b h1 h2 h3 h4 h5 h6 ?_ h8 h9).mono fun e w' hr=>⟨hr.1,?_⟩
 ·exact zqa hp h7
 ·have hr:=hr.2;revert hr;show HEnd (hP args res pre out') ty w w' O g b e (out' x xs)->HEnd (hP args res pre' out') ty w w' O g b e (out' x xs);cases out' x xs<;>exact id
theorem zsA (k:Nat) (hP:zaD Tryz.prog gmH 178 (zjq k)) (w:SufW):∃ f,zeL w= .func (.func f) #[] #[]∧zaD Tryz.prog gmH f (cSufK w k):=by
 by_cases hw:w= .behind
 ·subst hw;refine⟨_,rfl,zkp (beh_ok k hP) (fun x xs h=>h) fun x xs=>?_⟩;unfold zji;rw[if_pos rfl];cases gBeh x.1 (stOf x)<;>rfl
 ·obtain⟨f,h1,h2⟩:=zsB hw;refine⟨f,h1,zkp h2 (fun x xs h=>trivial) fun x xs=>?_⟩;unfold zji;rw[if_neg hw];cases gSuf x.1 (stOf x) w with
  |error e=>rfl
  |ok p=>
   show Except.ok (p.1,psX x.1 p.2 (x.2.2.1++ []))=Except.ok (p.1,psX x.1 p.2 x.2.2.1);rw[zL]
theorem zrp (k:Nat) (hP:zaD Tryz.prog gmH 178 (zjq k)):zaD Tryz.prog gmH 133 (zkI (k+1)):=by
 have hch:HsOk Tryz.prog gmH (hCh k):=.cons hP <| .cons zjv <| .cons zpY .nil;refine zau (K:=_) zci Tryz.func133 rfl rfl zbf Tryz.call133 rfl (zb rfl) zaU ?_;rintro w0 ⟨G,O,K,fix,D,ρ,B⟩ ty hX hG hK hρ hD hinv ⟨(s:List UInt8),(t:TokT),(l:List Nd),(b:Int),⟨⟩⟩ ⟨⟩ hp;obtain rfl:G=gmH:=hG;obtain rfl:K=1:=hK;obtain rfl:ρ=none:=hρ;obtain rfl:D=[]:=hD;have hI:=zaJ (ty:=ty) (ty':=ty) hX rfl hinv;obtain⟨hok,hfew,hme⟩:pOk (s,t,l,b,())∧few (s,t,l,b,())∧meas s .chain (t,b) < k+1:=hp;have hg:GOk s (t,b):=hok.1;have hsl:s.length≤100000:=hok.2;change AWP _ _ _ _ _ ⟨[(0,pSelf)],pE ty s (t,b) l,2⟩ (pQ _ (zkI (k+1)) ty (toX (trX s l) (prsT s .chain (t,b))));rw[zim hg];refine za (za ?_);refine zaa hX zci rfl ?_ ?_
 ·trivial
 have hm0:meas s .prim (t,b) < k:=by simp only[meas,mdF]at hme ⊢;omega
 (repeat(first|apply zae|apply zab|apply zac|apply zad));refine zai ?_;refine zaz 1 hX zci hch rfl trivial rfl rfl ⟨hok,hfew,hm0⟩ hI (e:=prsT s .prim (t,b)) rfl (fun er h=>?_) (fun a h=>?_)
 ·rw[zan h];exact rfl
 rw[zar h];obtain⟨t1,st1⟩:=a;have hc1:Onw s (t,b) st1:=zdJ hg h;have hz1:st1.2=b+(t1.size:Int):=zi2 h;have hfew:((l.length:Nat):Int)≤b:=hfew;refine zT hX zci rfl trivial ?_;apply zae;apply zac;refine yR (ι:=Tr×GSt) (fun i'=>⟨[(0,pSelf),(3,⟨i64,(((l.length+i'.1.size:Nat):Int) - 1)⟩),(4,⟨.mapL,zgY⟩)],pE ty s i'.2 (l++i'.1.flat l.length),2⟩) (fun i'=>prsT s (.chainL t1) st1=prsT s (.chainL i'.1) i'.2∧Onw s (t,b) i'.2∧i'.2.2=b+(i'.1.size:Int)) (fun i'=>rem s i'.2) (t1,st1) ⟨rfl,hc1,hz1⟩ ⟨⟨rfl,rfl,rfl,trivial⟩,⟨rfl,rfl,trivial⟩,rfl,rfl⟩ ?_;rintro ⟨t2,st⟩ ⟨heq,hon,hsz⟩;have heq:prsT s (.chainL t1) st1=prsT s (.chainL t2) st:=heq;have hsz:st.2=b+(t2.size:Int):=hsz;have hon:Onw s (t,b) st:=hon;have hst:GOk s st:=hon.1;have hst2:pOk (s,st.1,l++t2.flat l.length,st.2,()):=⟨hst,hsl⟩;have hfl:=t2.len_flat l.length;have hlen1:(l++t2.flat l.length).length=l.length+t2.size:=by rw[zd,hfl]
 rw[heq];apply zae;refine za (za ?_);refine zaa hX zci rfl ?_ ?_
 ·trivial
 refine zaf rfl (fun hb=>?_) (fun hb=>?_)
 rotate_left
 ·have hb:(st.1.1==1)=false:=hb;have hb:zQ st.1≠1:=fun h=>by
   have:(st.1.1==1)=true:=beq_iff_eq.2 h;rw[this]at hb;cases hb
  rw[zeg hst hb];apply zad;(repeat(first|apply zae|apply zab|apply zal|apply zad|apply zac|refine zaa hX zci rfl trivial ?_|refine zaa hX zci rfl id ?_|refine zaa hX zci rfl ⟨id,id⟩ ?_));exact zr ⟨.inr rfl,⟨_,rfl,nd,1,_,rfl,rfl,rfl⟩,zaw rfl trivial rfl rfl rfl⟩
 have hb:(st.1.1==1)=true:=hb;have hcls:zQ st.1=1:=beq_iff_eq.1 hb;apply zab;refine zap (σ':=⟨[(0,pSelf),(3,⟨i64,(((l.length+t2.size:Nat):Int) - 1)⟩),(4,⟨.mapL,zgY⟩)],pE ty s st (l++t2.flat l.length),2⟩) ⟨⟨rfl,rfl,rfl,trivial⟩,⟨rfl,rfl,trivial⟩,rfl,rfl⟩ ?_;apply zac;(repeat(first|apply zae|apply zab|apply zac|apply zad));refine zai ?_;refine zN 6 hX zci rfl trivial ?_;refine AL.look2 Tryz.underlying204 Tryz.underlying9 rfl (key:=strV (zR st.1)) (z:=.nilFunc) (es:=zgY) (r:=(sufW (zR st.1)).map zeL) rfl rfl rfl rfl rfl (zpb rfl) Tryz.zeroValue206 (zqf _) ?_;refine zN 1 hX zci rfl trivial ?_;refine AL.ext0 rfl rfl rfl rfl rfl ?_;refine AL.ext1 rfl rfl rfl rfl rfl ?_;refine zT hX zci rfl trivial ?_;refine za (za ?_);refine zaa hX zci rfl ?_ ?_
 ·trivial
 cases hw:sufW (zR st.1) with
 |none=>
  rw[zgl hst hcls hw];refine zaf rfl (fun _=>?_) (fun hb=>?_)
  rotate_left
  ·have hb:(!((none:Option SufW).map zeL).isSome)=false:=hb;cases hb
  apply zad;refine zap (σ':=⟨[(0,pSelf),(3,⟨i64,(((l.length+t2.size:Nat):Int) - 1)⟩),(4,⟨.mapL,zgY⟩)],pE ty s st (l++t2.flat l.length),2⟩) ⟨⟨rfl,rfl,rfl,trivial⟩,⟨rfl,rfl,trivial⟩,rfl,rfl⟩ ?_;(repeat(first|apply zae|apply zab|apply zal|apply zad|apply zac|refine zaa hX zci rfl trivial ?_|refine zaa hX zci rfl id ?_|refine zaa hX zci rfl ⟨id,id⟩ ?_));exact zr ⟨.inr rfl,⟨_,rfl,nd,1,_,rfl,rfl,rfl⟩,zaw rfl trivial rfl rfl rfl⟩
 |some w=>
  rw[zgm hst hcls hw]at heq ⊢;refine zaf rfl (fun hb=>?_) (fun _=>?_)
  ·have hb:(!((some w:Option SufW).map zeL).isSome)=true:=hb;cases hb
  apply zab;refine zap (σ':=⟨[(0,pSelf),(3,⟨i64,(((l.length+t2.size:Nat):Int) - 1)⟩),(4,⟨.mapL,zgY⟩),(5,⟨.lit,zeL w⟩)],pE ty s st (l++t2.flat l.length),2⟩) ⟨⟨rfl,rfl,rfl,rfl,trivial⟩,⟨rfl,rfl,trivial⟩,rfl,rfl⟩ ?_;(repeat(first|apply zae|apply zab|apply zac|apply zad));refine zai ?_;refine zaz 1 hX zci hch rfl trivial rfl rfl hst2 hI (e:=zbU s st) rfl (fun er h=>?_) (fun st3 h3=>?_)
  ·rw[zan h];exact rfl
  rw[zar h3];have hc3:=zbg hst (by rw[hcls];decide) h3;have hz3:=zde h3;have hst3:pOk (s,st3.1,l++t2.flat l.length,st3.2,()):=⟨hc3.1,hsl⟩;have hfew3:few (s,st3.1,l++t2.flat l.length,st3.2,()):=by
   show (((l++t2.flat l.length).length:Nat):Int)≤st3.2;rw[hlen1];omega
  have hr1:=hon.rem hg;have hr2:=hc3.rem hst;have hm3:meas s .prim st3 < k:=by
   simp only[meas,mdF]at hme ⊢;omega
  refine yg ?_;refine zap (σ':=⟨[(0,pSelf),(3,⟨i64,(((l.length+t2.size:Nat):Int) - 1)⟩),(4,⟨.mapL,zgY⟩),(5,⟨.lit,zeL w⟩)],pE ty s st3 (l++t2.flat l.length),2⟩) ⟨⟨rfl,rfl,rfl,rfl,trivial⟩,⟨rfl,rfl,trivial⟩,rfl,rfl⟩ ?_;obtain⟨f,hf,hfo⟩:=zsA k hP w;(repeat(first|apply zae|apply zab|apply zac|apply zad));refine zai ?_;refine zN 2 hX zci rfl trivial ?_;refine AL.ownVM hX hfo rfl rfl rfl (by show (⟨.lit,zeL w⟩:V)=_;rw[hf]) rfl rfl rfl rfl rfl rfl rfl rfl trivial ⟨hst3,hfew3,hm3⟩ hI (fun _=>rfl) (e:=zji s st3 (l++t2.flat l.length).length w) rfl (fun er h=>?_) (fun r h4=>?_)
  ·rw[znN (l++t2.flat l.length).length w];rw[h];exact rfl
  rw[znN (l++t2.flat l.length).length w];rw[h4];obtain⟨n0,ex,tf,st4⟩:=r;obtain⟨hc4,hz4,hT⟩:=zrb hc3.1 h4;obtain⟨hT1,hT2⟩:=hT t2;have hT2:=hT2 l.length hlen1;have hT1:(tf t2).size=t2.size+ex.length+1:=hT1;have hT2:(tf t2).flat l.length=t2.flat l.length++ex++ [setL n0 (((l.length+t2.size:Nat):Int) - 1)]:=hT2;have hc4:Onw s st3 st4:=hc4;have hz4:st4.2=st3.2+(ex.length:Int):=hz4;have hlen2:(l++t2.flat l.length++ex).length=l.length+t2.size+ex.length:=by rw[zd,hlen1]
  have hst4:pOk (s,st4.1,l++t2.flat l.length++ex,st4.2,()):=⟨hc4.1,hsl⟩;refine zT hX zci rfl trivial ?_;refine zap (σ':=⟨[(0,pSelf),(3,⟨i64,(((l.length+t2.size:Nat):Int) - 1)⟩),(4,⟨.mapL,zgY⟩),(7,⟨.optr nd,⟨2,nd,.here⟩⟩)],[(0,some (pBox ty s st4)),(1,some (.buf 73 nd (l++t2.flat l.length++ex))),(2,some (.box nd n0))],3⟩) ⟨⟨rfl,rfl,rfl,rfl,trivial⟩,⟨rfl,rfl,rfl,trivial⟩,rfl,rfl⟩ ?_;refine za (za ?_);refine zaa hX zci rfl ?_ ?_
  ·trivial
  have hg4:=hc4.1.2.2;have hadd:(l++t2.flat l.length++ex).length≤100000:=by
   rw[hlen2];omega
  (repeat(first|apply zae|apply zab|apply zac|apply zad));refine zai ?_;refine yn 2 hX zci hch rfl trivial rfl rfl ⟨hst4,hadd⟩ hI ?_;refine zT hX zci rfl trivial ?_;refine⟨(tf t2,st4),⟨?_,?_,?_⟩,?_,⟨rfl,vI64 ?_,rfl,trivial⟩,⟨rfl,ztX ?_,trivial⟩,rfl,rfl⟩
  ·rw[h3];show (sufT t2 st3 w >>= _)=_;rw[znN (l++t2.flat l.length).length w,h4];rfl
  ·exact (hon.trans hc3).trans hc4
  ·show st4.2=b+((tf t2).size:Int);rw[hT1];omega
  ·have hr4:=hc4.rem hc3.1;show rem s st4 < rem s st;omega
  ·show (((l++t2.flat l.length++ex).length:Nat):Int)=((l.length+(tf t2).size:Nat):Int) - 1;rw[hlen2,hT1];omega
  ·show l++t2.flat l.length++ex++ [setL n0 (((l.length+t2.size:Nat):Int) - 1)]=l++(tf t2).flat l.length;rw[hT2, <-zp, <-zp]
section
variable {s:List UInt8}
theorem zm1 {st:GSt} (h:GOk s st) (ho:gIs st ze9=true):prsT s .prim st=(prsT s (.bin 0) (gAdv s st) >>= fun p=>zaX s p.2 zc7 >>= fun st=>.ok (p.1,st)):=by
 rw[zcB h,zbp,if_pos ho];rfl
theorem zm2 {st:GSt} (h:GOk s st) (ho:gIs st ze9=false) (hc:zQ st.1=2):prsT s .prim st=(zaF st (decide ((zR st.1).length≤32)) 2 >>= fun _=>zbU s st >>= fun st'=>.ok (.leaf (18,0,0,0,0,0,[],zR st.1,()),st')):=by
 rw[zcB h,zbp,if_neg (by rw[ho];decide),if_pos hc];rfl
def leafT (s:List UInt8) (st:GSt):Option LeafW->GE (Tr×GSt)
 |none=>.error (Tok.at st.1,3)
 |some w=>zbU s st >>= fun st=>zdp s st w >>= fun p=>.ok (.leaf p.1,p.2)
theorem zm3 {st:GSt} (h:GOk s st) (ho:gIs st ze9=false) (hc:zQ st.1≠2):prsT s .prim st=(zaF st (zQ st.1==3 - 2) 3 >>= fun _=>leafT s st (zgz (zR st.1))):=by
 rw[zcB h,zbp,if_neg (by rw[ho];decide),if_neg hc];show (zaF st (zQ st.1==1) 3 >>= _)=(zaF st (zQ st.1==1) 3 >>= _);cases zgz (zR st.1)<;>rfl
end
theorem zq2 (w:LeafW):∃ f,zda w= .func (.func f) #[] #[]∧zaD Tryz.prog gmH f (zdr w):=by
 cases w with
 |days=>exact⟨_,rfl,zrg⟩
 |years=>exact⟨_,rfl,zpt⟩
 |months=>exact⟨_,rfl,znp⟩
 |monthdays=>exact⟨_,rfl,zjl⟩
 |weekdays=>exact⟨_,rfl,zkz⟩
 |weeks=>exact⟨_,rfl,zpu⟩
 |nth=>exact⟨_,rfl,ztF⟩
theorem dNat (a b:Nat):decide (((a:Nat):Int)≤((b:Nat):Int))=decide (a≤b):=decide_eq_decide.2 Int.ofNat_le
def kPm:Kn:={ gmK with C:=[(200,zpN)] }
theorem zb8:KnOk Tryz.prog gmH kPm:=zaj.with (.cons zo1 .nil)
def hPm (k:Nat):List (zP×HCtr):=[(80,cBin k),(134,cIs),(87,cAdv),(88,zga),(81,zgv),(135,zkJ),(136,cAdd)]
theorem zm4 (k:Nat) (hB:zaD Tryz.prog gmH 80 (cBin k)):zaD Tryz.prog gmH 178 (zjq (k+1)):=by
 have hpm:HsOk Tryz.prog gmH (hPm k):=.cons hB <| .cons zq5 <| .cons zgc <| .cons zfB <| .cons zeJ <| .cons zjv <| .cons zpY .nil;refine zau (K:=_) zb8 Tryz.func178 rfl rfl zbf Tryz.call178 rfl (zb rfl) zaU ?_;rintro w0 ⟨G,O,K,fix,D,ρ,B⟩ ty hX hG hK hρ hD hinv ⟨(s:List UInt8),(t:TokT),(l:List Nd),(b:Int),⟨⟩⟩ ⟨⟩ hp;obtain rfl:G=gmH:=hG;obtain rfl:K=1:=hK;obtain rfl:ρ=none:=hρ;obtain rfl:D=[]:=hD;have hI:=zaJ (ty:=ty) (ty':=ty) hX rfl hinv;obtain⟨hok,hfew,hme⟩:pOk (s,t,l,b,())∧few (s,t,l,b,())∧meas s .prim (t,b) < k+1:=hp;have hg:GOk s (t,b):=hok.1;have hsl:s.length≤100000:=hok.2;have hfew:((l.length:Nat):Int)≤b:=hfew;change AWP _ _ _ _ _ ⟨[(0,pSelf)],pE ty s (t,b) l,2⟩ (pQ _ (zjq (k+1)) ty (toX (trX s l) (prsT s .prim (t,b))));refine za (za ?_);refine zaa hX zb8 rfl ?_ ?_
 ·trivial
 (repeat(first|apply zae|apply zab|apply zac|apply zad));refine zai ?_;refine yn 1 hX zb8 hpm rfl trivial rfl rfl hok hI ?_;refine yg ?_;refine zaf rfl (fun hb=>?_) (fun hb=>?_)
 ·have hb:gIs (t,b) ze9=true:=hb;rw[zm1 hg hb];have hc1:=zcm hg (zdF hb);have hst1:pOk (s,(gAdv s (t,b)).1,l,(gAdv s (t,b)).2,()):=⟨hc1.1,hsl⟩;have hr1:=hc1.rem hg;have hm1:meas s (.bin ((0:Int)).toNat) (gAdv s (t,b)) < k:=by
   show meas s (.bin 0) (gAdv s (t,b)) < k;simp only[meas,mdF]at hme ⊢;omega
  (repeat(first|apply zae|apply zab|apply zac|apply zad));refine zai ?_;refine yn 1 hX zb8 hpm rfl trivial rfl rfl hok hI ?_;refine yg ?_;(repeat(first|apply zae|apply zab|apply zac|apply zad));refine zai ?_;refine zaz 1 hX zb8 hpm rfl trivial rfl rfl ⟨hst1,(by decide:(0:Int)≤0),(by decide:(0:Int)≤3),hfew,hm1⟩ hI (f:=trX s l) (e:=prsT s (.bin 0) (gAdv s (t,b))) rfl (fun er h=>?_) (fun a h=>?_)
  ·rw[zan h];exact rfl
  rw[zar h];obtain⟨u,st2⟩:=a;have hc2:Onw s (gAdv s (t,b)) st2:=zdJ hc1.1 h;have hst2:pOk (s,st2.1,l++u.flat l.length,st2.2,()):=⟨hc2.1,hsl⟩;refine zT hX zb8 rfl trivial ?_;refine zap (σ':=⟨[(0,pSelf),(3,⟨i64,(((l.length+u.size:Nat):Int) - 1)⟩)],pE ty s st2 (l++u.flat l.length),2⟩) ⟨⟨rfl,rfl,trivial⟩,⟨rfl,rfl,trivial⟩,rfl,rfl⟩ ?_;(repeat(first|apply zae|apply zab|apply zac|apply zad));refine zai ?_;refine zaz 1 hX zb8 hpm rfl trivial rfl rfl hst2 hI (e:=zaX s st2 zc7) rfl (fun er h=>?_) (fun st3 h3=>?_)
  ·rw[zan h];exact rfl
  rw[zar h3];refine yg ?_;(repeat(first|apply zae|apply zab|apply zal|apply zad|apply zac|refine zaa hX zb8 rfl trivial ?_|refine zaa hX zb8 rfl id ?_|refine zaa hX zb8 rfl ⟨id,id⟩ ?_));exact zr ⟨.inr rfl,⟨_,rfl,nd,1,_,rfl,rfl,rfl⟩,zaw rfl trivial rfl rfl rfl⟩
 have hb:gIs (t,b) ze9=false:=hb;apply zab;refine za (za ?_);refine zaa hX zb8 rfl ?_ ?_
 ·trivial
 refine za (za ?_);refine zaa hX zb8 rfl ?_ ?_
 ·trivial
 refine zap (σ':=⟨[(0,pSelf),(4,⟨.optr tk,⟨2,tk,.here⟩⟩),(22,⟨.bool,zQ t==2⟩)],[(0,some (pBox ty s (t,b))),(1,some (.buf 73 nd l)),(2,some (.box tk t))],3⟩) ⟨⟨rfl,rfl,zbo rfl,trivial⟩,⟨rfl,rfl,rfl,trivial⟩,rfl,rfl⟩ ?_;refine zaf rfl (fun hc=>?_) (fun hc=>?_)
 ·have hc:zQ t=2:=beq_iff_eq.1 hc;rw[zm2 hg hb hc];have hls:(zR t).length≤100000:=by
   have:=hg.1.2.2.2.2.1;have this:(zR t).length≤s.length:=this;omega
  (repeat(first|apply zae|apply zab|apply zac|apply zad));refine zai ?_;refine zaz 5 hX zb8 hpm rfl trivial rfl rfl hok hI (e:=zaF (t,b) (decide ((zR t).length≤32)) 2) (congrArg (fun c=>toX (fun _=>((),(s,t,l,b,()))) (zaF (t,b) c 2)) (dNat (zR t).length 32)) (fun er h=>?_) (fun a h=>?_)
  ·rw[zan h];exact rfl
  rw[zar h];refine yg ?_;refine zap (σ':=⟨[(0,pSelf),(4,⟨.optr tk,⟨2,tk,.here⟩⟩)],[(0,some (pBox ty s (t,b))),(1,some (.buf 73 nd l)),(2,some (.box tk t))],3⟩) ⟨⟨rfl,rfl,trivial⟩,⟨rfl,rfl,rfl,trivial⟩,rfl,rfl⟩ ?_;(repeat(first|apply zae|apply zab|apply zac|apply zad));refine zai ?_;refine zaz 1 hX zb8 hpm rfl trivial rfl rfl hok hI (e:=zbU s (t,b)) rfl (fun er h=>?_) (fun st1 h1=>?_)
  ·rw[zan h];exact rfl
  rw[zar h1];have hc1:=zbg hg (by show zQ t≠0;rw[hc];decide) h1;have hg1:=hc1.1.2.2;have hz1:=zde h1;have hz1:st1.2=b+1:=hz1;have hst1:pOk (s,st1.1,l,st1.2,()):=⟨hc1.1,hsl⟩;have hadd:l.length≤100000:=by omega
  refine yg ?_;refine zap (σ':=⟨[(0,pSelf),(4,⟨.optr tk,⟨2,tk,.here⟩⟩)],[(0,some (pBox ty s st1)),(1,some (.buf 73 nd l)),(2,some (.box tk t))],3⟩) ⟨⟨rfl,rfl,trivial⟩,⟨rfl,rfl,rfl,trivial⟩,rfl,rfl⟩ ?_;(repeat(first|apply zae|apply zab|apply zac|apply zad));refine zai ?_;refine yn 4 hX zb8 hpm rfl trivial rfl rfl ⟨hst1,hadd⟩ hI ?_;refine zT hX zb8 rfl trivial ?_;refine zr ⟨.inr rfl,⟨_,rfl,nd,1,_,rfl,rfl,rfl⟩,zaw rfl trivial rfl rfl ?_⟩;show ((l.length:Nat):Int)=((l.length+1:Nat):Int) - 1;omega
 ·have hc:zQ t≠2:=fun h=>by
   have h2:(zQ t==2)=true:=beq_iff_eq.2 h;have hc:(zQ t==2)=false:=hc;rw[h2]at hc;cases hc
  rw[zm3 hg hb hc];apply zab;refine zap (σ':=⟨[(0,pSelf)],pE ty s (t,b) l,2⟩) ⟨⟨rfl,trivial⟩,⟨rfl,rfl,trivial⟩,rfl,rfl⟩ ?_;(repeat(first|apply zae|apply zab|apply zac|apply zad));refine zai ?_;refine zaz 7 hX zb8 hpm rfl trivial rfl rfl hok hI (e:=zaF (t,b) (zQ t==1) 3) rfl (fun er h=>?_) (fun a h=>?_)
  ·rw[zan (by exact h)];exact rfl
  rw[zar (by exact h)];have hcls:zQ t=1:=beq_iff_eq.1 (zbK h);refine yg ?_;refine xz (σ':=⟨[(0,pSelf),(5,⟨.lit,((zgz (zR t)).map zda).getD .nilFunc⟩),(6,⟨.bool,((zgz (zR t)).map zda).isSome⟩)],pE ty s (t,b) l,2⟩) ?_ ?_
  ·refine jB dM 12 rfl (by kernel_rfl) ?_
   repeat'(first
    |exact AllN.nil
    |refine AllN.cons ⟨_,rfl,?_⟩ ?_
    |refine xg hX zb8 rfl trivial ?_
    |refine jT rfl (zoS Tryz.underlying204 Tryz.underlying9 rfl (key:=strV (zR t)) (z:=.nilFunc) (es:=zkf) (r:=(zgz (zR t)).map zda) rfl rfl rfl rfl (zpb rfl) Tryz.zeroValue206 (zo4 _) ?_)
    |refine jT rfl (zpy rfl rfl rfl rfl ?_)
    |refine jT rfl (zpx rfl rfl rfl rfl ?_)
    |(refine OrdA.last ?_;exact⟨⟨rfl,rfl,rfl,trivial⟩,⟨rfl,rfl,trivial⟩,rfl,rfl⟩))
  (repeat(first|apply zae|apply zab|apply zac|apply zad));refine zai ?_;refine zaz 2 hX zb8 hpm rfl trivial rfl rfl hok hI (e:=zaF (t,b) ((zgz (zR t)).map zda).isSome 3) rfl (fun er h=>?_) (fun a h2=>?_)
  ·cases hw:zgz (zR t) with
   |some w=>rw[hw]at h;cases h
   |none=>
    rw[hw]at h;cases h;exact rfl
  cases hw:zgz (zR t) with
  |none=>rw[hw]at h2;cases h2
  |some w=>
   refine yg ?_;refine zap (σ':=⟨[(0,pSelf),(5,⟨.lit,zda w⟩)],pE ty s (t,b) l,2⟩) ⟨⟨rfl,rfl,trivial⟩,⟨rfl,rfl,trivial⟩,rfl,rfl⟩ ?_;change AWP _ _ _ _ _ _ (pQ _ (zjq (k+1)) ty (toX (trX s l) (zbU s (t,b) >>= fun st=>zdp s st w >>= fun p=>.ok (.leaf p.1,p.2))));(repeat(first|apply zae|apply zab|apply zac|apply zad));refine zai ?_;refine zaz 1 hX zb8 hpm rfl trivial rfl rfl hok hI (e:=zbU s (t,b)) rfl (fun er h=>?_) (fun st1 h1=>?_)
   ·rw[zan h];exact rfl
   rw[zar h1];have hc1:=zbg hg (by show zQ t≠0;rw[hcls];decide) h1;have hg1:=hc1.1.2.2;have hz1:=zde h1;have hz1:st1.2=b+1:=hz1;have hst1:pOk (s,st1.1,l,st1.2,()):=⟨hc1.1,hsl⟩;have hadd:l.length≤100000:=by omega
   refine yg ?_;refine zap (σ':=⟨[(0,pSelf),(5,⟨.lit,zda w⟩)],pE ty s st1 l,2⟩) ⟨⟨rfl,rfl,trivial⟩,⟨rfl,rfl,trivial⟩,rfl,rfl⟩ ?_;obtain⟨f,hf,hfo⟩:=zq2 w;(repeat(first|apply zae|apply zab|apply zac|apply zad));refine zai ?_;refine zN 3 hX zb8 rfl trivial ?_;refine AL.ownVM hX hfo rfl rfl rfl (by show (⟨.lit,zda w⟩:V)=_;rw[hf]) rfl rfl rfl rfl rfl rfl rfl rfl trivial hst1 hI (fun _=>rfl) (e:=zdp s st1 w) rfl (fun er h=>?_) (fun r h4=>?_)
   ·rw[zan h];exact rfl
   rw[zar h4];obtain⟨n0,st2⟩:=r;have hc2:Onw s st1 st2:=zml hc1.1 w h4;have hst2:pOk (s,st2.1,l,st2.2,()):=⟨hc2.1,hsl⟩;refine yn 0 hX zb8 hpm rfl trivial rfl rfl ⟨hst2,hadd⟩ hI ?_;refine zT hX zb8 rfl trivial ?_;refine zr ⟨.inr rfl,⟨_,rfl,nd,1,_,rfl,rfl,rfl⟩,zaw rfl trivial rfl rfl ?_⟩;show ((l.length:Nat):Int)=((l.length+1:Nat):Int) - 1;omega
def Rec3 (k:Nat):Prop:=zaD Tryz.prog gmH 80 (cBin k)∧zaD Tryz.prog gmH 133 (zkI k)∧zaD Tryz.prog gmH 178 (zjq k)
theorem zek {P:zx} {G:zj->Prop} {f:zP} {c:HCtr} (hl:c.law) (hen:∀ (vs:Array zh) (w:zj),(callFunc f vs).run P w= .ok (.enter f vs) w) (h:∀ x xs,¬ allP (c.pre x xs)):zaD P G f c:=
 ⟨hen,hl,fun _ _ _ _ _ x xs _ _ _ _ _ _ _ _ hp=>(h x xs hp).elim⟩
theorem zlO:∀ k,Rec3 k
 |0=>by
  refine⟨zek zbf Tryz.call80 fun x xs h=>?_,zek zbf Tryz.call133 fun x xs h=>?_,zek zbf Tryz.call178 fun x xs h=>?_⟩
  ·exact absurd h.2.2.2.2 (y8 _)
  ·exact absurd h.2.2 (y8 _)
  ·exact absurd h.2.2 (y8 _)
 |k+1=>by
  obtain⟨h1,h2,h3⟩:=zlO k;exact⟨zpU k h1 h2,zrp k h3,zm4 k h1⟩
@[reducible] def nBox (s:List UInt8) (t:TokT) (b:Int):OObj:=.hbox 139 [⟨.str,s⟩,⟨i64,t.1⟩,⟨i64,t.2.1⟩,⟨i64,t.2.2.1⟩,⟨.str,t.2.2.2.1⟩,⟨i64,t.2.2.2.2.1⟩,⟨.lit,.slice none 0 0⟩,⟨i64,b⟩]
@[reducible] def cNewP:FCtr:={ args:=[.str],pre:=fun xs=>[zg xs.1≤100000],obj:=fun xs=>nBox xs.1 (zbi xs.1) 0 }
def zj2 (s:List UInt8):zh:=.agg #[.string ⟨s.toArray⟩,.int .i64 0,.int .i64 0,.int .i64 0,.string ⟨#[]⟩,.int .i64 0,.slice none 0 0,.int .i64 0]
theorem zqH (s:List UInt8):Tryz.prog.built 139 [(0,.string ⟨s.toArray⟩)]=some #[.string ⟨s.toArray⟩,.int .i64 0,.int .i64 0,.int .i64 0,.string ⟨#[]⟩,.int .i64 0,.slice none 0 0,.int .i64 0]:=by kernel_rfl
section
variable {w0:zj} {X:Ownr} {n:Nat} {Q:Exit->AS->Prop} {ops:Array Oper}
theorem AL.newPs (hX:X.Ok w0) {o1 o2:Oper} {rest:List Oper} {d1 d2:Nat} {x:zE} (ho1:o1.op= .build 139 #[(0,x)]) (ho2:o2.op= .box 139 (.tmp d1)) (hg1:o1.guard=none) (hg2:o2.guard=none) (hd1:o1.dst=some d1) (hd2:o2.dst=some d2) (hn1:zW d1 n=true) (hn2:zW d2 n=true) {F:Frame} {E:Owns} {nx:Nat} {s:List UInt8} (hx:evO F x=⟨.str,s⟩)
  (h:AL Tryz.prog w0 X n ops rest ⟨(d2,⟨.hptr,(nx,(0:Nat))⟩)::(d1,⟨.lit,zj2 s⟩)::F,(nx,some (nBox s zTk 0))::E,nx+1⟩ Q):AL Tryz.prog w0 X n ops (o1::o2::rest) ⟨F,E,nx⟩ Q:=by
 refine qq hg1 (fun c e=>by rw[ho1]at e;cases e) fun β a w hs=>?_;have hl1:d1 < n:=by simpa using hn1
 have hl2:d2 < n:=by simpa using hn2
 have hsx:=hs.ops x;rw[show evO (AS.mk F E nx).F x=_ from hx]at hsx;obtain⟨hsx,hle⟩:=hsx;have hsx:a.eval x= .string ⟨s.toArray⟩:=vM.1 hsx;refine zbz (u:=zj2 s) (w':=w) ?_ ?_
 ·unfold execOp;simp only[ho1];refine zdH ?_;rw[show (#[(0,x)]:Array (Nat×zE)).map (fun p=>(p.1,a.eval p.2))= #[(0,jg ⟨s.toArray⟩)] from by simp[hsx]];exact run_build w _ _ _ (zqH s)
 rw[hd1];refine⟨_,β,hs.put (zV _ _) (v:=⟨.lit,zj2 s⟩) rfl (zk _) hl1,?_⟩;refine qq hg2 (fun c e=>by rw[ho2]at e;cases e) fun β a w hs=>?_;have hv:a.eval (.tmp d1)=zj2 s:=by
  have h1:=hs.ops (.tmp d1);have e:evO ((d1,⟨.lit,zj2 s⟩)::F) (.tmp d1)=⟨.lit,zj2 s⟩:=by
   show zq ((d1,_)::F) d1=_;rw[zat,if_pos rfl]
  rw[show evO (AS.mk ((d1,⟨.lit,zj2 s⟩)::F) E nx).F (.tmp d1)=_ from e]at h1;exact h1
 refine zbz (u:=.pointer (some ⟨w.heap.size,0,none⟩)) (w':=w.alloc (.cells #[.string ⟨s.toArray⟩,.int .i64 0,.int .i64 0,.int .i64 0,.string ⟨#[]⟩,.int .i64 0,.slice none 0 0,.int .i64 0] 139 (0,0))) ?_ ?_
 ·unfold execOp;simp only[ho2];refine zdH ?_;rw[hv];simp[Instr.box,newVar,newRow,Value.cells,go_sem,zj2]
 ·rw[hd2];obtain⟨β',h4⟩:=hs.make hX ((zV _ w).alloc (zl _) (.cells #[.string ⟨s.toArray⟩,.int .i64 0,.int .i64 0,.int .i64 0,.string ⟨#[]⟩,.int .i64 0,.slice none 0 0,.int .i64 0] 139 (0,0))) (bv:=.pointer (some ⟨w.heap.size,0,none⟩)) (o:=nBox s zTk 0)
   (fun O β' hO=>⟨w.heap.size,[_,_,_,_,_,_,_,_],rfl,zk _,xv w _,_,_,rfl,rfl,⟨rfl,hle⟩,_,_,rfl,rfl,rfl,_,_,rfl,rfl,rfl,_,_,rfl,rfl,rfl,_,_,rfl,rfl,⟨rfl,zk _⟩,_,_,rfl,rfl,rfl,_,_,rfl,rfl,rfl,_,_,rfl,rfl,rfl,rfl⟩)
   (fun g hg=>by cases hg;exact zl _) (v:=⟨.hptr,(nx,(0:Nat))⟩) (u:=.pointer (some ⟨w.heap.size,0,none⟩))
   (fun O β' hb=>⟨w.heap.size,by show zag (β' nx)=_;rw[show β' nx=_ from hb];rfl,rfl⟩) (zl _) hl2 (fun vs e v hv=>by
     cases e;have:((nBox s zTk 0).bare)=true:=rfl;exact OObj.bare_under this _ _ rfl _ hv)
  exact⟨_,β',h4,h⟩
end
theorem zeh:zmE Tryz.prog gmH 45 cNewP:=by
 refine zln zcX Tryz.func45 rfl rfl Tryz.call45 rfl (zb rfl) (fun xs=>⟨rfl,rfl⟩) ?_;rintro w0 O hX ⟨(s:List UInt8),⟨⟩⟩ hp;have hlen:s.length≤100000:=hp;change AWP _ _ _ _ _ ⟨[(0,⟨.str,s⟩)],[],0⟩ _;refine za (za ?_);refine zaa hX zcX rfl ?_ ?_
 ·trivial
 (repeat(first|apply zae|apply zab|apply zac|apply zad));refine zai ?_;refine zN 1 hX zcX rfl trivial ?_;refine AL.newPs hX rfl rfl rfl rfl rfl rfl rfl rfl rfl ?_;refine zT hX zcX rfl trivial ?_;refine za (za ?_);refine zaa hX zcX rfl ?_ ?_
 ·exact hlen
 (repeat(first|apply zae|apply zab|apply zal|apply zad|apply zac|refine zaa hX zcX rfl trivial ?_|refine zaa hX zcX rfl id ?_|refine zaa hX zcX rfl ⟨id,id⟩ ?_));exact zr ⟨.inr rfl,_,_,rfl,rfl,rfl⟩
def lQ (rs:List qd) (t:Ty) (r:Except zh t.T) (e:Exit) (σ:AS):Prop:=LDone gmT rs t e σ r
def zen (s:List UInt8) (st:GSt) (l:List Nd):Except zh (List Nd):=toX (fun r=>l++r.1.flat l.length) (zfy s st)
@[reducible] def cRule:HCtr:=hP [] (.slice nd) (fun x _=>[few x]) fun x _=>.ok ([],x)
def hRu (k:Nat):List (zP×HCtr):=[(80,cBin k),(81,zgv)]
theorem zoh:zfK Tryz.prog gmH 46 cRule (fun x _=>zen x.1 (stOf x) x.2.2.1):=by
 refine zhs (K:=gmK) zaj Tryz.func46 rfl rfl zbf Tryz.call46 rfl (zb rfl) zaU ?_;rintro w0 ⟨G,O,K,fix,D,ρ,B⟩ ty hX hG hK hρ hD hinv x ⟨⟩ hp;obtain rfl:G=gmH:=hG;obtain rfl:K=1:=hK;obtain rfl:ρ=none:=hρ;obtain rfl:D=[]:=hD;have hI:=zaJ (ty:=ty) hX rfl hinv (ty':=ty);obtain⟨s,t,l,b,⟨⟩⟩:=x;obtain⟨hok,hfew⟩:pOk (s,t,l,b,())∧few (s,t,l,b,()):=hp;have hg:GOk s (t,b):=hok.1;have hsl:s.length≤100000:=hok.2;have hru:HsOk Tryz.prog gmH (hRu (meas s (.bin 0) (t,b)+1)):=.cons (zlO _).1 <| .cons zeJ .nil;change AWP _ _ _ _ _ ⟨[(0,pSelf)],pE ty s (t,b) l,2⟩ (lQ _ (.slice nd) (zen s (t,b) l));unfold zen;obtain⟨R,hR⟩:∃ R,R=zfy s (t,b):=⟨_,rfl⟩;rw[<-hR];unfold zfy at hR;refine za (za ?_);refine zaa hX zaj rfl ?_ ?_
 ·trivial
 (repeat(first|apply zae|apply zab|apply zac|apply zad));refine zai ?_;refine zaz 1 hX zaj hru rfl trivial rfl rfl ⟨hok,(by decide:(0:Int)≤0),(by decide:(0:Int)≤3),hfew,y9 _⟩ hI (f:=trX s l) (e:=prsT s (.bin 0) (t,b)) rfl (fun er h=>?_) (fun a h=>?_)
 ·rw[hR,zan h];exact rfl
 rw[h]at hR;obtain⟨u,st⟩:=a;have hc:Onw s (t,b) st:=zdJ hg h;have hst:pOk (s,st.1,l++u.flat l.length,st.2,()):=⟨hc.1,hsl⟩;refine zT hX zaj rfl trivial ?_;refine zap (σ':=⟨[(0,pSelf)],pE ty s st (l++u.flat l.length),2⟩) ⟨⟨rfl,trivial⟩,⟨rfl,rfl,trivial⟩,rfl,rfl⟩ ?_;(repeat(first|apply zae|apply zab|apply zac|apply zad));refine zai ?_;refine zaz 7 hX zaj hru rfl trivial rfl rfl hst hI (e:=zaF st (zQ st.1==0) 3) rfl (fun er h=>?_) (fun a h=>?_)
 ·rw[show R= .error er by rw[hR];show (zaF st _ 3 >>= _)=_;rw[h];rfl];exact rfl
 rw[show R= .ok (u,st) by rw[hR];show (zaF st _ 3 >>= _)=_;rw[h];rfl];refine yg ?_;(repeat(first|apply zae|apply zab|apply zal|apply zad|apply zac|refine zaa hX zaj rfl trivial ?_|refine zaa hX zaj rfl id ?_|refine zaa hX zaj rfl ⟨id,id⟩ ?_));refine AWP.frz hX 2 ?_;exact zr ⟨.inr rfl,zaw rfl trivial rfl rfl rfl⟩
def gDef (s:List UInt8) (st:GSt) (n:Int):Except (Int×Int) (List UInt8×Tr):=do
 zaF st (zQ st.1==1) 3
 zaF st (decide ((zR st.1).length≤32)&&decide (n < 4096)) 2
 let st'<-zaX s (gAdv s st) wEq
 let p<-zfy s st'
 return (zR st.1,p.1)
def zlk (s:List UInt8) (st:GSt) (l:List Nd) (n:Int):Except zh (List UInt8×List Nd×Unit):=toX (fun r=>(r.1,l++r.2.flat l.length,())) (gDef s st n)
@[reducible] def cDef:HCtr:=hP [i64] de (fun x _=>[few x]) fun x _=>.ok (([],[],()),x)
def hDf:List (zP×HCtr):=[(81,zgv),(87,cAdv),(88,zga)]
theorem zmf:HsOk Tryz.prog gmH hDf:=.cons zeJ <| .cons zgc <| .cons zfB .nil
theorem zfE:zfK Tryz.prog gmH 55 cDef (fun x xs=>zlk x.1 (stOf x) x.2.2.1 xs.1):=by
 refine zhs (K:=gmK) zaj Tryz.func55 rfl rfl zbf Tryz.call55 rfl (zb rfl) zaU ?_;rintro w0 ⟨G,O,K,fix,D,ρ,B⟩ ty hX hG hK hρ hD hinv x ⟨(k:Int),⟨⟩⟩ hp;obtain rfl:G=gmH:=hG;obtain rfl:K=1:=hK;obtain rfl:ρ=none:=hρ;obtain rfl:D=[]:=hD;have hI:=zaJ (ty:=ty) hX rfl hinv (ty':=ty);obtain⟨s,t,l,b,⟨⟩⟩:=x;obtain⟨hok,hfew⟩:pOk (s,t,l,b,())∧few (s,t,l,b,()):=hp;have hg:GOk s (t,b):=hok.1;have hsl:s.length≤100000:=hok.2;change AWP _ _ _ _ _ ⟨[(0,pSelf),(1,⟨i64,k⟩)],pE ty s (t,b) l,2⟩ (lQ _ de (zlk s (t,b) l k));unfold zlk;obtain⟨R,hR⟩:∃ R,R=gDef s (t,b) k:=⟨_,rfl⟩;rw[<-hR];unfold gDef at hR;have hls:(zR t).length≤100000:=by
  have:=hg.1.2.2.2.2.1;have this:(zR t).length≤s.length:=this;omega
 refine za (za ?_);refine zaa hX zaj rfl ?_ ?_
 ·trivial
 (repeat(first|apply zae|apply zab|apply zac|apply zad));refine zai ?_;refine zaz 7 hX zaj zmf rfl trivial rfl rfl hok hI (e:=zaF (t,b) (zQ t==1) 3) rfl (fun er h=>?_) (fun a h=>?_)
 ·rw[hR,zan (by exact h)];exact rfl
 have hcls:zQ t=1:=beq_iff_eq.1 (zbK h);rw[show (zaF (t,b) (zQ (t,b).1==1) 3)= .ok a from h]at hR;have hR:R=(zaF (t,b) (decide ((zR t).length≤32)&&decide (k < 4096)) 2 >>= fun _=>zaX s (gAdv s (t,b)) wEq >>= fun st'=>zfy s st' >>= fun p=>.ok (zR t,p.1)):=hR;refine yg ?_;refine zap (σ':=⟨[(0,pSelf),(1,⟨i64,k⟩),(4,⟨.optr de,⟨2,de,.here⟩⟩)],[(0,some (pBox ty s (t,b))),(1,some (.buf 73 nd l)),(2,some (.box de ([],[],())))],3⟩) ⟨⟨rfl,rfl,rfl,trivial⟩,⟨rfl,rfl,rfl,trivial⟩,rfl,rfl⟩ ?_;(repeat(first|apply zae|apply zab|apply zac|apply zad));refine zai ?_;refine zaz 12 hX zaj zmf rfl ?_ rfl rfl hok hI (e:=zaF (t,b) (bif decide (((zR t).length:Int)≤((32:Nat):Int)) then decide (k < 4096) else false) 2) rfl (fun er h=>?_) (fun a h=>?_)
 ·repeat'(first|exact trivial|assumption|(refine⟨?_,?_⟩)|(intro _)|exact zb rfl|exact zi _|(simp_all [allP];done))
 ·rw[zcs,dNat]at h;rw[hR,zan h];exact rfl
 rw[zcs,dNat]at h;rw[h]at hR;have hR:R=(zaX s (gAdv s (t,b)) wEq >>= fun st'=>zfy s st' >>= fun p=>.ok (zR t,p.1)):=hR;refine yg ?_;refine zap (σ':=⟨[(0,pSelf),(4,⟨.optr de,⟨2,de,.here⟩⟩)],[(0,some (pBox ty s (t,b))),(1,some (.buf 73 nd l)),(2,some (.box de ([],[],())))],3⟩) ⟨⟨rfl,rfl,trivial⟩,⟨rfl,rfl,rfl,trivial⟩,rfl,rfl⟩ ?_;have hc1:=zcm hg (by show zQ t≠0;rw[hcls];decide);obtain⟨st1,hst1⟩:∃ st1,st1=gAdv s (t,b):=⟨_,rfl⟩;have hz1:st1.2=b:=by rw[hst1];rfl
 (repeat(first|apply zae|apply zab|apply zac|apply zad));refine zai ?_;refine yn 1 hX zaj zmf rfl trivial rfl rfl hok hI ?_;rw[<-hst1]at hR hc1;refine xn (σ':=⟨[(0,pSelf),(4,⟨.optr de,⟨2,de,.here⟩⟩),(28,⟨tk,t⟩)],[(0,some (pBox ty s st1)),(1,some (.buf 73 nd l)),(2,some (.box de ([],[],())))],3⟩) ⟨⟨rfl,rfl,rfl,trivial⟩,⟨by rw[hst1];rfl,rfl,rfl,trivial⟩,rfl,rfl⟩ ?_;refine zT hX zaj rfl trivial ?_;refine zap (σ':=⟨[(0,pSelf),(4,⟨.optr de,⟨2,de,.here⟩⟩),(5,⟨.optr de,⟨3,de,.here⟩⟩)],[(0,some (pBox ty s st1)),(1,some (.buf 73 nd l)),(2,some (.box de ([],[],()))),(3,some (.box de (zR t,[],())))],4⟩) ⟨⟨rfl,rfl,rfl,trivial⟩,⟨rfl,rfl,rfl,rfl,trivial⟩,rfl,rfl⟩ ?_;have hok1:pOk (s,st1.1,l,st1.2,()):=⟨hc1.1,hsl⟩;(repeat(first|apply zae|apply zab|apply zac|apply zad));refine zai ?_;refine zaz 1 hX zaj zmf rfl trivial rfl rfl hok1 hI (e:=zaX s st1 wEq) rfl (fun er h=>?_) (fun st2 h2=>?_)
 ·rw[hR,zan (by exact h)];exact rfl
 rw[h2]at hR;have hR:R=(zfy s st2 >>= fun p=>.ok (zR t,p.1)):=hR;have hc2:=zbq hc1.1 h2;have hz2:=zdQ h2;have hok2:pOk (s,st2.1,l,st2.2,()):=⟨hc2.1,hsl⟩;have hfew2:few (s,st2.1,l,st2.2,()):=by
  show ((l.length:Nat):Int)≤st2.2;rw[hz2,hz1];exact hfew
 refine yg ?_;refine zap (σ':=⟨[(0,pSelf),(4,⟨.optr de,⟨2,de,.here⟩⟩),(5,⟨.optr de,⟨3,de,.here⟩⟩)],[(0,some (pBox ty s st2)),(1,some (.buf 73 nd l)),(2,some (.box de ([],[],()))),(3,some (.box de (zR t,[],())))],4⟩) ⟨⟨rfl,rfl,rfl,trivial⟩,⟨rfl,rfl,rfl,rfl,trivial⟩,rfl,rfl⟩ ?_;(repeat(first|apply zae|apply zab|apply zac|apply zad));refine zai ?_;refine zN 1 hX zaj rfl trivial ?_;refine AL.give hX zoh rfl rfl rfl rfl rfl rfl rfl rfl rfl rfl rfl rfl trivial ⟨hok2,hfew2⟩ hI rfl rfl ?_;cases h3:zfy s st2 with
 |error er=>
  rw[h3]at hR;rw[show zen s (stOf (s,st2.1,l,st2.2,())) l= .error (pvS er) by unfold zen;rw[show stOf (s,st2.1,l,st2.2,())=st2 from rfl,h3];rfl];rw[show R= .error er from hR];exact rfl
 |ok p=>
  rw[h3]at hR;rw[show zen s (stOf (s,st2.1,l,st2.2,())) l= .ok (l++p.1.flat l.length) by unfold zen;rw[show stOf (s,st2.1,l,st2.2,())=st2 from rfl,h3];rfl];rw[show R= .ok (zR t,p.1) from hR];show AL _ _ _ _ _ _ _ _;refine zT hX zaj rfl trivial ?_;(repeat(first|apply zae|apply zab|apply zal|apply zad|apply zac|refine zaa hX zaj rfl trivial ?_|refine zaa hX zaj rfl id ?_|refine zaa hX zaj rfl ⟨id,id⟩ ?_));exact zr ⟨.inr rfl,zaw rfl trivial rfl rfl rfl⟩
def zp3 (c:HCtr) (ty:zn) (e:Exit) (σ:AS):Except zh (c.res.T×c.self.T)->Prop
 | .ok (_,x')=>(e= .normal∨e= .ret)∧∃ vs,zm σ.E 0=some (.hbox ty vs)∧unH c 0 vs σ.E x'
 | .error pv=>e= .panic [{ v:=pv,recovered:=false }]
section
variable {P:zx} {K:Kn} {n:Nat}
theorem zgr {G:zj->Prop} (hK:KnOk P G K) {f:zP} {fn:Func} {c:Code} {ctr:HCtr} (hf:P.funcs[f]? =some fn) (hb:fn.body=some c) (hn:fn.ntmps=n) (hlaw:ctr.law)
  (hen:∀ (us:Array zh) (w:zj),(callFunc f us).run P w= .ok (.enter f us) w) (hunit:ctr.res= .unit) (hrs:∀ tmps w,∃ v,(results fn tmps).run P w= .ok v w) (hd:zaY ctr.args=true) (hlen:ctr.args.length+1≤n) (hst:∀ w w' R ty,ctr.inv w R ty->G w->Kept R w w'->G w')
  (h:∀ (w0:zj) (X:Ownr) (ty:zn),X.Ok w0->X.G=G->X.K=1->X.ρ=none->X.D=[]->ctr.inv w0 X.R ty->∀ (x:ctr.self.T) (xs:Args ctr.args),allP (ctr.pre x xs)->
    AWP P w0 X n c (zkm ctr ty x xs) (fun e σ=>zp3 ctr ty e σ (ctr.out x xs))):zaD P G f ctr:=by
 refine⟨hen,hlaw,fun w O g cs ty x xs vs b hO hgb hg hx hbuf hrep hp hinv hG=>calls_of_wp hf hb ?_⟩;obtain⟨X,hXd,hX,hXR,hsim⟩:=ztl (ctr:=ctr) (G:=G) hn hlaw hd hlen hst hO hgb hg hx hbuf hrep hinv hG;have hXX:X.X=O:=by rw[hXd]
 have hXG:X.G=G:=by rw[hXd]
 have hinv':ctr.inv w X.R ty:=by
  rw[show X.R=fun h=>h=g∨zag b=some h from funext fun h=>propext (hXR h)];exact hinv
 have hw:=h w X ty hX hXG (by rw[hXd]) (by rw[hXd]) (by rw[hXd]) hinv' x xs hp _ _ _ hsim;rw[show X.ρ=none by rw[hXd]]at hw;refine wp_mono (wpIn_wide.1 hw) fun e a' w' ⟨σ',β',h1,h2⟩=>?_;have hbk:Kept (fun h=>h=g∨zag b=some h) w w':=⟨h1.bel.os,h1.bel.tape,h1.bel.output,h1.bel.size,fun k hk hr=>h1.bel.block k hk fun hr'=>hr ((hXR k).1 hr')⟩;have hdf:a'.defers=[]:=by rw[h1.df,hXd]
 revert h2;cases ho:ctr.out x xs with
 |error pv=>
  rintro rfl;exact⟨hdf,hbk,rfl⟩
 |ok p=>
  obtain⟨y,x'⟩:=p;rintro ⟨h2,ws,h6,h7⟩;obtain⟨et',j,k1,k2,_,_⟩:=zfc hlaw h7;obtain⟨g',cs',hb1,_,hb3,hb4⟩:=h1.own 0 _ h6;have hb5:=(h1.fix.2 0 (by rw[hXd];exact y9 0)).1;rw[hb1]at hb5;have hgg:g'=g:=by
   have h:some g'=some (X.fix 0):=hb5;rw[hXd]at h;exact ya h
  subst hgg;have hj:=h1.own j _ k2;have hne:(0:Nat)≠j:=fun e=>by rw[<-e,h6]at k2;cases k2
  have hsub:∀ k,zbO O g' (β' j) k->OSet X σ'.E β' k:=fun k hk=>by
   rcases hk with (hk|hk)|hk
   ·exact .inl (by rw[hXX];exact hk)
   ·exact .inr ⟨0,_,h6,by rw[hb1,hk];rfl⟩
   ·exact .inr ⟨j,_,k2,hk⟩
  have hkp:Keeps w' w' (OSet X σ'.E β') (zbO O g' (β' j)):=⟨zl _,fun _ _ _=>rfl,fun k _ hk=>hsub k hk⟩;have hlvr:RepH w' (zbO O g' (β' j)) (zc5 g' (β' j)) (ctr.lv 0 1 x') cs':=RepH.toLv hlaw hkp h7 hb4 (fun j' et'' hj'=>by
   rw[k1]at hj';cases hj';rfl) (by rw[hb1];rfl)
  have hbr:OwnRep w' (zbO O g' (β' j)) (zc5 g' (β' j)) 0 (β' j) (.buf ctr.te ctr.et (ctr.sl x')):=hj.keep hkp fun _ _=>rfl;have hnew:∀ h,zag (β' j)=some h->zag b=some h∨w.heap.size≤h:=fun h hh=>by
   rcases h1.new j _ h k2 hh with h8|h8
   ·exact .inr h8
   ·rcases (hXR h).1 h8 with rfl|h8
    ·exact absurd hh (h1.inj 0 j _ _ h6 k2 hne h (by rw[hb1];rfl))
    ·exact .inl h8
  have hng:zag (β' j)≠some g':=h1.inj 0 j _ _ h6 k2 hne g' (by rw[hb1];rfl);obtain⟨v,h4⟩:=hrs a'.tmps w';rcases h2 with rfl|rfl
  ·exact⟨hdf,v,h4,hbk,v,cs',_,rfl,hb3,hlvr,hbr,hng,hnew,.inl hunit⟩
  ·exact⟨hdf,v,h4,hbk,v,cs',_,rfl,hb3,hlvr,hbr,hng,hnew,.inl hunit⟩
end
abbrev prT:Ty:=.pair (.slice nd) .unit
@[reducible] def bTy (T:Ty):Ty:=.pair .bool (.pair bs T)
def bInv (T:Ty) (tys:List zn) (w:zj) (R:Nat->Prop) (ty:zn):Prop:=ginv w R ty∧ty∈tys
theorem zdG (T:Ty) (tys:List zn):∀ w w' R (ty:zn),bInv T tys w R ty->gmH w->Kept R w w'->gmH w':=fun _ _ _ ty h hg hk=>zaU _ _ _ ty h.1 hg hk
@[reducible] def hBl (T:Ty) (tys:List zn) (args:List Ty) (res:Ty) (pre:(bTy T).T->Args args->List Prop) (out:(bTy T).T->Args args->Except zh (res.T×(bTy T).T)):HCtr:=
 { self:=bTy T,k:=1,ad:=some 0,on:=fun x=>x.1,te:=5,et:=u8,sl:=fun x=>x.2.1,args:=args,inv:=bInv T tys,pre:=pre,res:=res,out:=out }
theorem zcq {T:Ty} (hT:T.leafD=true) {tys:List zn} {args:List Ty} {res:Ty} {pre:(bTy T).T->Args args->List Prop} {out:(bTy T).T->Args args->Except zh (res.T×(bTy T).T)}:(hBl T tys args res pre out).law:=
 ⟨hT,fun _=>rfl,fun a h=>by cases h;exact⟨Nat.zero_ne_one,fun _=>rfl⟩⟩
def tyOk (T:Ty):List zn->Prop:=fun tys=>∀ ty∈tys,(ty=107∨ty=105)∧∀ x:T.T,(zaW T x).length=if ty=105 then 0 else 1
@[reducible] def cCC (T:Ty) (tys:List zn):HCtr:=hBl T tys [] .unit (fun _ _=>[]) fun x _=>.ok ((),(true,x.2))
theorem zoP (T:Ty) (tys:List zn) {args:List Ty} {res:Ty} {pre:(bTy T).T->Args args->List Prop} {out:(bTy T).T->Args args->Except zh (res.T×(bTy T).T)} (i j:Nat) (x:(bTy T).T):(hBl T tys args res pre out).lv i j x=adV i x.1::⟨.obuf u8,j⟩::zaW T x.2.2:=rfl
theorem zlN {w:zj} {O:Nat->Prop} {β:Nat->zh}:∀ {vs:List V} {cs:List zh},RepH w O β vs cs->cs.length=vs.length
 | [],_,h=>by rw[show _=[] from h];rfl
 |v::r,_,⟨u,s,rfl,_,_,h⟩=>by rw[zt,zt,zlN h]
theorem zgt (T:Ty) (hT:T.leafD=true) (tys:List zn) (ht:tyOk T tys):zaD Tryz.prog gmH 114 (cCC T tys):=by
 refine⟨Tryz.call114,zcq hT,fun w O g cs ty x xs vs b hO hgb hg hx hbuf hrep hpre hinv hG=>?_⟩;have hvs:vs=[]:=hrep;subst hvs;rw[zoP]at hx;obtain⟨u,r,rfl,hu1,hu,hr⟩:=hx;obtain⟨hty,hlen⟩:=ht ty hinv.2;have hrl:=zlN hr;rw[zt,hlen]at hrl;have hgl:=(zo.1 hg).1;cases hx1:x.1 with
 |true=>
  rw[hx1]at hu;obtain⟨g',e1,e2⟩:∃ g',zag (zc5 g b 0)=some g'∧u= .pointer (some ⟨g',0,none⟩):=hu;have e1:some g=some g':=e1;cases e1;subst e2;have hc:w.cell? ⟨g,0,none⟩=some (.pointer (some ⟨g,0,none⟩)):=by simp[xo,hg]
  refine (Go.Proofs.Any.Builder_copyCheck_used Tryz.lays240 Tryz.Builder_X72_240 g w hc).mono ?_;rintro e w' ⟨rfl,rfl⟩;refine⟨Kept.refl _ _,_,_,b,rfl,hg,?_,hbuf,hgb,fun h hh=>.inl hh,.inl rfl⟩;rw[zoP];exact⟨_,_,rfl,rfl,⟨g,rfl,rfl⟩,hr⟩
 |false=>
  rw[hx1]at hu;have hu:u= .pointer none:=hu;subst hu;refine (zia ty hty g w r (by rw[hrl];split<;>rfl) hg).mono ?_;rintro e w' ⟨rfl,rfl⟩;have hk:Kept (fun h=>h=g∨zag b=some h) w (w.setCell ⟨g,0,none⟩ (.pointer (some ⟨g,0,none⟩))):=⟨rfl,rfl,rfl,by simp[World.setCell],fun k _ hn=>xw w ⟨g,0,none⟩ _ k fun e=>hn (.inl e)⟩;have hkk:Keeps w (w.setCell ⟨g,0,none⟩ (.pointer (some ⟨g,0,none⟩))) (zbO O g b) (zbO O g b):=⟨hk.size,fun k _ hn=>xw w ⟨g,0,none⟩ _ k fun e=>hn (.inl (.inr e)),fun _ _ h=>h⟩;refine⟨hk,_,.pointer (some ⟨g,0,none⟩)::r,b,rfl,?_,?_,hbuf.keep hkk fun k hk=>xw w ⟨g,0,none⟩ _ k fun e=>hgb (by rw[hk,e]),hgb,fun h hh=>.inl hh,.inl rfl⟩
  ·show (w.heap.modify g _)[g]? =_;rw[yj (by rw[vX];exact hgl),vR,(zo.1 hg).2];simp
  ·rw[zoP];exact⟨_,_,rfl,rfl,⟨g,rfl,rfl⟩,hr.keep hkk⟩
def Ty.noB:Ty->Bool
 | .obuf _=>false
 | .cond t=>t.noB
 | .hcons a b=>a.noB&&b.noB
 |_=>true
theorem RepV.fixβ {w:zj} {O:Nat->Prop} {β β':Nat->zh} {K:Nat} (hβ:∀ i,i < K->zag (β' i)=zag (β i)):∀ (t:Ty) (x:t.T) (v:zh),t.noB=true->bnd t x≤K->RepV w O β t x v->RepV w O β' t x v:=by
 intro t
 induction t with
 |optr t _=>
  rintro x v _ hb ⟨g,h1,h2⟩;have hb:x.i+1≤K:=hb;exact⟨g,(hβ _ (by omega)).trans h1,h2⟩
 |obuf t _=>intro x v hn;cases hn
 |cond t ih=>intro x v hn hb h;exact⟨fun hc=>ih _ _ hn hb (h.1 hc),h.2⟩
 |hptr=>
  rintro x v _ hb ⟨g,h1,h2⟩;have hb:x.1+1≤K:=hb;exact⟨g,(hβ _ (by omega)).trans h1,h2⟩
 |hcons a b iha ihb=>
  rintro x v hn hb ⟨u,s,h1,h2,h3,h4⟩;have hb':max (bnd a x.1) (bnd b x.2)≤K:=hb;have hn:(a.noB&&b.noB)=true:=hn;rw[zf]at hn;exact⟨u,s,h1,h2,iha _ _ hn.1 (by omega) h3,ihb _ _ hn.2 (by omega) h4⟩
 |_=>intro x v _ hb h;exact h
def zkh (K:Nat) (v:V):V:=bif v.t.noB&&qI v.bound K then v else ⟨.junk,()⟩
def zhv (K:Nat):List (Nat×V)->List (Nat×V)
 | []=>[]
 |(s,v)::r=>(s,zkh K v)::zhv K r
theorem zhu (K:Nat):∀ (F:Frame) (s:Nat),zq (zhv K F) s=zkh K (zq F s)
 | [],s=>rfl
 |(d,v)::r,s=>by
  show zq ((d,zkh K v)::zhv K r) s=_;rw[zat,zat];by_cases h:d=s
  ·rw[if_pos h,if_pos h]
  ·rw[if_neg h,if_neg h,zhu K r s]
theorem zpc {w w':zj} {O O':Nat->Prop} {β β':Nat->zh} {K:Nat} (hk:Keeps w w' O O') (hβ:∀ i,i < K->zag (β' i)=zag (β i)) {v:V} {u:zh} (h:RepV w O β v.t v.x u):RepV w' O' β' (zkh K v).t (zkh K v).x u:=by
 unfold zkh;cases hc:v.t.noB&&qI v.bound K with
 |false=>trivial
 |true=>
  rw[zf]at hc;exact RepV.fixβ hβ _ _ _ hc.1 (zb hc.2) (RepV.keep hk _ _ _ h)
theorem zli {K:Nat} (v:V):(zkh K v).bound≤K:=by
 unfold zkh;cases hc:v.t.noB&&qI v.bound K with
 |false=>exact zk _
 |true=>
  rw[zf]at hc;exact zb hc.2
def zeV (E:Owns):Nat->Bool
 |0=>true
 |k+1=>(match zm E k with
  |some o=>!o.isBuf
  |none=>false)&&zeV E k
theorem ziG {E:Owns}:∀ {K:Nat},zeV E K=true->∀ i,i < K->∃ o,zm E i=some o∧o.isBuf=false
 |0,_,i,hi=>absurd hi (y8 _)
 |k+1,h,i,hi=>by
  have h:((match zm E k with
   |some o=>!o.isBuf
   |none=>false)&&zeV E k)=true:=h
  rw[zf]at h;by_cases hk:i=k
  ·subst hk;have h1:=h.1;cases ho:zm E i with
   |none=>rw[ho]at h1;cases h1
   |some o=>rw[ho]at h1;exact⟨o,rfl,by simpa using h1⟩
  ·exact ziG h.2 i (by omega)
def ztC (β:Nat->zh) (i:Nat):Nat:=(zag (β i)).getD 0
def inX (X:Ownr) (E:Owns) (β:Nat->zh) (K:Nat) (ex:Nat->Prop):Ownr:={ G:=X.G,X:=fun g=>X.X g∨ex g,K:=K,fix:=ztC β,D:=[],ρ:=none,B:=fun g=>∃ i o,zm E i=some o∧zag (β i)=some g }
section
variable {w0 w w1:zj} {X:Ownr} {n m K:Nat} {F F':Frame} {E:Owns} {nx:Nat} {β:Nat->zh} {a a1:Act} {ex:Nat->Prop}
theorem zhM (h:Sim w0 X n ⟨F,E,nx⟩ β a w) (hb:zeV E K=true) {i:Nat} (hi:i < K):∃ o,zm E i=some o∧o.isBuf=false∧zag (β i)=some (ztC β i):=by
 obtain⟨o,ho,hob⟩:=ziG hb i hi;refine⟨o,ho,hob,?_⟩;have h1:=h.own i o ho;unfold ztC;cases o with
 |box t x=>obtain⟨g,_,_,e,_⟩:=h1;rw[e];rfl
 |buf te t xs=>cases hob
 |hbox ty vs=>obtain⟨g,_,e,_⟩:=h1;rw[e];rfl
theorem zh5 (h:Sim w0 X n ⟨F,E,nx⟩ β a w) (hb:zeV E K=true) {g:Nat}:(inX X E β K ex).R g↔∃ i o,zm E i=some o∧zag (β i)=some g:=by
 constructor
 ·rintro (⟨i,hi,rfl⟩|h1)
  ·obtain⟨o,ho,_,hf⟩:=zhM h hb hi;exact⟨i,o,ho,hf⟩
  ·exact h1
 ·exact fun h1=>.inr h1
theorem zgJ (h:Sim w0 X n ⟨F,E,nx⟩ β a w) {g:Nat} (hg:∃ i o,zm E i=some o∧zag (β i)=some g):g < w.heap.size:=by
 obtain⟨i,o,ho,hf⟩:=hg;exact ((h.own i o ho).block_lt hf).2
theorem zrZ (h:Sim w0 X n ⟨F,E,nx⟩ β a w) (hX:X.Ok w0) (hbl:yV w.heap.size w w1) (hex:∀ g,ex g->w.heap.size≤g∧g < w1.heap.size) (hb:zeV E K=true):(inX X E β K ex).Ok w1:=by
 have hs0:=h.bel.size;have hs1:=hbl.size;refine⟨fun g hg=>?_,fun g hg=>?_,fun w' hk=>?_⟩
 ·rcases hg with hg|hg
  ·have:=hX.1 g hg;refine⟨by omega,fun hr=>?_⟩;obtain⟨i,o,ho,hf⟩:=(zh5 h hb).1 hr;rcases h.new i o g ho hf with h1|h1
   ·omega
   ·exact this.2 h1
  ·have:=hex g hg;refine⟨this.2,fun hr=>?_⟩;have:=zgJ h ((zh5 h hb).1 hr);omega
 ·have:=zgJ h ((zh5 h hb).1 hg);omega
 ·refine hX.2.2 w' ⟨hk.os.trans (hbl.os.trans h.bel.os),hk.tape.trans (hbl.tape.trans h.bel.tape),hk.output.trans (hbl.output.trans h.bel.output),zH hs0 (zH hs1 hk.size),fun k hkl hr=>?_⟩;rw[hk.block k (by omega) fun hr'=>?_,hbl.block k (by omega),h.bel.block k hkl hr];obtain⟨i,o,ho,hf⟩:=(zh5 h hb).1 hr';rcases h.new i o k ho hf with h1|h1
  ·omega
  ·exact hr h1
theorem Sim.goIn (h:Sim w0 X n ⟨F,E,nx⟩ β a w) (hbl:yV w.heap.size w w1) (hex:∀ g,ex g->w.heap.size≤g∧g < w1.heap.size) (hb:zeV E K=true) (hKn:K≤nx) (hsz:a1.tmps.size=m) (hdf:a1.defers=[]) (hfr:∀ s,RepV w (OSet X E β) β (zq F' s).t (zq F' s).x (a1.tmps.getD s undef)) (hbd:bndB nx F'=true):
  Sim w1 (inX X E β K ex) m ⟨F',E,nx⟩ β a1 w1:=by
 have hk:Keeps w w1 (OSet X E β) (OSet (inX X E β K ex) E β):=.of_below hbl fun g hg hg'=>by
  rcases hg' with (h1|h1)|h1
  ·exact .inl h1
  ·have:=hex g h1;omega
  ·exact .inr h1
 refine⟨hsz,hdf,Kept.refl _ _,fun s=>RepV.keep hk _ _ _ (hfr s),fun i o ho=>(h.own i o ho).keep hk fun g hg=>hbl.block g ((h.own i o ho).block_lt hg).2,fun i o g ho hg=>.inr ((zh5 h hb).2 ⟨i,o,ho,hg⟩),h.inj,h.lt,⟨hKn,fun i hi=>?_⟩,fun s=>zfI hbd s,h.hE⟩;obtain⟨o,ho,hob,hf⟩:=zhM h hb hi;exact⟨hf,fun o' ho'=>by
  have ho':zm E i=some o':=ho';rw[ho]at ho';cases ho';exact hob⟩
theorem Sim.goOut (h:Sim w0 X n ⟨F,E,nx⟩ β a w) (hX:X.Ok w0) (hbl:yV w.heap.size w w1) (hex:∀ g,ex g->w.heap.size≤g∧g < w1.heap.size) (hb:zeV E K=true) (hK:X.K≤K) {σ:AS} {β':Nat->zh} {w' w'':zj} (h':Sim w1 (inX X E β K ex) m σ β' a1 w') (hk:Kept ex w' w''):
  Sim w0 X n ⟨zhv K F,σ.E,σ.nx⟩ β' a w'':=by
 have hok:=zrZ h hX hbl hex hb;have hs0:=h.bel.size;have hs1:=hbl.size;have hs2:=h'.bel.size;have hs3:=hk.size;have hown:∀ i o g,zm σ.E i=some o->zag (β' i)=some g->w1.heap.size≤g∨∃ i o,zm E i=some o∧zag (β i)=some g:=fun i o g ho hg=>(h'.new i o g ho hg).imp id (zh5 h hb).1;have hexo:∀ i o g,zm σ.E i=some o->zag (β' i)=some g->¬ ex g:=fun i o g ho hg he=>by
  have h1:=hex g he;rcases hown i o g ho hg with h2|h2
  ·omega
  ·have:=zgJ h h2;omega
 have hβ:∀ i,i < K->zag (β' i)=zag (β i):=fun i hi=>by
  obtain⟨o,ho,_,hf⟩:=zhM h hb hi;exact ((h'.fix.2 i hi).1).trans hf.symm
 have hk1:Keeps w w'' (OSet X E β) (OSet X σ.E β'):=by
  refine⟨by omega,fun g hg hn=>?_,fun g hg hg'=>?_⟩
  ·rw[hk.block g (by omega) fun he=>?_,h'.bel.block g (by omega) fun hr=>?_,hbl.block g hg]
   ·exact hn (.inr ((zh5 h hb).1 hr))
   ·have:=hex g he;omega
  ·rcases hg' with h1|⟨i,o,ho,hg'⟩
   ·exact .inl h1
   ·rcases hown i o g ho hg' with h2|h2
    ·omega
    ·exact .inr h2
 have hk2:Keeps w' w'' (OSet (inX X E β K ex) σ.E β') (OSet X σ.E β'):=by
  refine⟨hs3,fun g hg hn=>hk.block g hg fun he=>hn (.inl (.inr he)),fun g hg hg'=>?_⟩;rcases hg' with h1|h1
  ·exact .inl (.inl h1)
  ·exact .inr h1
 refine⟨h.sz,h.df,?_,fun s=>?_,fun i o ho=>(h'.own i o ho).keep hk2 fun g hg=>hk.block g ((h'.own i o ho).block_lt hg).2 (hexo i o g ho hg),fun i o g ho hg=>?_,h'.inj,h'.lt,⟨zH hK h'.fix.1,fun i hi=>?_⟩,fun s=>?_,h'.hE⟩
 ·refine⟨hk.os.trans (h'.bel.os.trans (hbl.os.trans h.bel.os)),hk.tape.trans (h'.bel.tape.trans (hbl.tape.trans h.bel.tape)),hk.output.trans (h'.bel.output.trans (hbl.output.trans h.bel.output)),by omega,fun k hkl hr=>?_⟩;rw[hk.block k (by omega) fun he=>?_,h'.bel.block k (by omega) fun hr'=>?_,hbl.block k (by omega),h.bel.block k hkl hr]
  ·obtain⟨i,o,ho,hf⟩:=(zh5 h hb).1 hr';rcases h.new i o k ho hf with h1|h1
   ·omega
   ·exact hr h1
  ·have:=hex k he;omega
 ·show RepV w'' (OSet X σ.E β') β' (zq (zhv K F) s).t (zq (zhv K F) s).x _;rw[zhu];exact zpc hk1 hβ (h.fr s)
 ·rcases hown i o g ho hg with h2|⟨i',o',ho',hg'⟩
  ·exact .inl (by omega)
  ·exact h.new i' o' g ho' hg'
 ·have hi:i < X.K:=hi;exact⟨(hβ i (by omega)).trans (h.fix.2 i hi).1,(h'.fix.2 i (by show i < K;omega)).2⟩
 ·show (zq (zhv K F) s).bound≤σ.nx;rw[zhu];exact zH (zli _) h'.fix.1
def Ends (e:Exit) (en:Ending):Prop:=((e= .normal∨e= .ret)∧∃ v,en= .returned v)∨∃ ch,e= .panic ch∧en= .panicked ch
theorem Sim.inl {P:zx} (h:Sim w0 X n ⟨F,E,nx⟩ β a w) (hX:X.Ok w0) (hbl:yV w.heap.size w w1) (hex:∀ g,ex g->w.heap.size≤g∧g < w1.heap.size) (hb:zeV E K=true) (hKn:K≤nx) (hK:X.K≤K) {f:zP} {fn:Func} {c:Code} (hf:P.funcs[f]? =some fn) (hbd:fn.body=some c) (hn:fn.ntmps=m) (hres:fn.results= #[])
  {caps:Array zh} (hcl:caps.size≤m) (hfr:∀ s,RepV w (OSet X E β) β (zq F' s).t (zq F' s).x ((caps++zz (m - caps.size) undef).getD s undef)) (hbF:bndB nx F'=true) {Q:Exit->AS->Prop} (hq:∀ e σ,Q e σ->e= .normal∨e= .ret∨∃ ch,e= .panic ch)
  (hw:∀ X':Ownr,X'.Ok w1->X'.G=X.G->X'.K=K->X'.ρ=none->X'.D=[]->(∀ g,X'.R g->w0.heap.size≤g∨X.R g)->AWP P w1 X' m c ⟨F',E,nx⟩ Q):
  Calls P f caps w1 fun en w'=>w1.heap.size≤w'.heap.size∧(∀ g,ex g->w'.heap[g]? =w1.heap[g]?)∧∃ e σ,Ends e en∧Q e σ∧∀ w'',Kept ex w' w''->∃ β',Sim w0 X n ⟨zhv K F,σ.E,σ.nx⟩ β' a w'':=by
 refine calls_of_wp hf hbd ?_;have hok:=zrZ h hX hbl hex hb;have hsim:=h.goIn (a1:={ tmps:=caps++zz (fn.ntmps - caps.size) undef,defers:=[] }) (m:=m) hbl hex hb hKn (by simp[hn];omega) rfl (by rw[hn];exact hfr) hbF;have hR:∀ g,(inX X E β K ex).R g->w0.heap.size≤g∨X.R g:=fun g hg=>by
  obtain⟨i,o,ho,hf⟩:=(zh5 h hb).1 hg;exact h.new i o g ho hf
 refine wp_mono (wpIn_wide.1 (hw _ hok rfl rfl rfl rfl hR β _ w1 hsim)) fun e a' w' ⟨σ,β',h',hQ⟩=>?_;have hkx:∀ g,ex g->w'.heap[g]? =w1.heap[g]? :=fun g he=>by
  have h1:=hex g he;refine h'.bel.block g h1.2 fun hr=>?_;have:=zgJ h ((zh5 h hb).1 hr);omega
 have hfin:∀ en,Ends e en->w1.heap.size≤w'.heap.size∧(∀ g,ex g->w'.heap[g]? =w1.heap[g]?)∧∃ e σ,Ends e en∧Q e σ∧∀ w'',Kept ex w' w''->∃ β',Sim w0 X n ⟨zhv K F,σ.E,σ.nx⟩ β' a w'':=fun en he=>⟨h'.bel.size,hkx,e,σ,he,hQ,fun w'' hk=>⟨β',h.goOut hX hbl hex hb hK h' hk⟩⟩;have hdf:a'.defers=[]:=h'.df;rcases hq e σ hQ with rfl|rfl|⟨ch,rfl⟩
 ·exact⟨hdf,_,results_none hres _ _ _,hfin _ (.inl ⟨.inl rfl,_,rfl⟩)⟩
 ·exact⟨hdf,_,results_none hres _ _ _,hfin _ (.inl ⟨.inr rfl,_,rfl⟩)⟩
 ·exact⟨hdf,hfin _ (.inr ⟨ch,rfl,rfl⟩)⟩
end
section
variable {P:zx} {K:Kn} {w0:zj} {X:Ownr} {n:Nat} {σ:AS} {Q:Exit->AS->Prop} {ops:Array Oper}
theorem StepA.giveO (hX:X.Ok w0) {o:Oper} {f:zP} {c:HCtr} {out:c.self.T->Args c.args->Except zh c.res.T} (hc:zfK P X.G f c out) {args:Array zE} {ts:Array zn} {a0:zE} {zas:List zE} (ho:o.op= .call ⟨.value (.func f),args,ts⟩) (hargs:args.toList=a0::zas) (hgd:o.guard=none)
  {F:Frame} {E:Owns} {nx:Nat} (hσ:frzs σ zas=⟨F,E,nx⟩) {i:Nat} (hev:evO F a0=⟨.hptr,(i,(0:Nat))⟩) {ty:zn} {vs:List V} (hbox:zm E i=some (.hbox ty vs)) {et:Ty} {j:Nat} (hk:vs[c.k]? =some ⟨.obuf et,j⟩) {xsl:List c.et.T} (hbuf:zm E j=some (.buf c.te c.et xsl))
  {x:c.self.T} (hun:unD c.self ((c.back i vs).set c.k ⟨.slice c.et,xsl⟩)=some (x,[])) (hd:zaY c.args=true) (hfl:c.res.resOk=true)
  {q:List Prop} {xs:Args c.args} (hav:zd6 E false (zas.map (evO F)) c.args=some (q,xs)) (hq:allP q) (hpre:allP (c.pre x xs)) (hinv:∀ w R,(∀ g,R g->w0.heap.size≤g∨X.R g)->X.G w->c.inv w R ty) {d:Nat} (hdst:o.dst=some d) (hdn:zW d n=true)
  {N:AS->Prop} {y:c.res.T} (hout:out x xs= .ok y) (h:N ⟨(d,resV c.res y)::F,(i,none)::(j,none)::E,nx⟩):StepA P w0 X n ops o σ N Q:=
 StepA.give hX hc ho hargs hgd hσ hev hbox hk hbuf hun hd hfl hav hq hpre hinv hdst hdn (by rw[hout];exact h)
theorem StepA.giveE (hX:X.Ok w0) {o:Oper} {f:zP} {c:HCtr} {out:c.self.T->Args c.args->Except zh c.res.T} (hc:zfK P X.G f c out) {args:Array zE} {ts:Array zn} {a0:zE} {zas:List zE} (ho:o.op= .call ⟨.value (.func f),args,ts⟩) (hargs:args.toList=a0::zas) (hgd:o.guard=none)
  {F:Frame} {E:Owns} {nx:Nat} (hσ:frzs σ zas=⟨F,E,nx⟩) {i:Nat} (hev:evO F a0=⟨.hptr,(i,(0:Nat))⟩) {ty:zn} {vs:List V} (hbox:zm E i=some (.hbox ty vs)) {et:Ty} {j:Nat} (hk:vs[c.k]? =some ⟨.obuf et,j⟩) {xsl:List c.et.T} (hbuf:zm E j=some (.buf c.te c.et xsl))
  {x:c.self.T} (hun:unD c.self ((c.back i vs).set c.k ⟨.slice c.et,xsl⟩)=some (x,[])) (hd:zaY c.args=true) (hfl:c.res.resOk=true)
  {q:List Prop} {xs:Args c.args} (hav:zd6 E false (zas.map (evO F)) c.args=some (q,xs)) (hq:allP q) (hpre:allP (c.pre x xs)) (hinv:∀ w R,(∀ g,R g->w0.heap.size≤g∨X.R g)->X.G w->c.inv w R ty) {d:Nat} (hdst:o.dst=some d) (hdn:zW d n=true)
  {N:AS->Prop} {pv:zh} (hout:out x xs= .error pv) (h:Q (.panic [{ v:=pv,recovered:=false }]) ⟨F,(i,none)::(j,none)::E,nx⟩):StepA P w0 X n ops o σ N Q:=
 StepA.give hX hc ho hargs hgd hσ hev hbox hk hbuf hun hd hfl hav hq hpre hinv hdst hdn (by rw[hout];exact h)
theorem StepA.conv {o:Oper} {σ':AS} {N:AS->Prop} (hs:∀ β a w,Sim w0 X n σ β a w->∃ β',Sim w0 X n σ' β' a w) (h:StepA P w0 X n ops o σ' N Q):StepA P w0 X n ops o σ N Q:=
 fun β a w I R hsim hI hR=>by
  obtain⟨β',h'⟩:=hs β a w hsim;exact h β' a w I R h' hI hR
theorem Sim.nilLeaf (i k:Nat) (te:zn) (τ:Ty) {ty:zn} {vs:List V} (hi:zm σ.E i=some (.hbox ty vs)) (hk:vs[k]? =some ⟨.lit,.slice none 0 0⟩) (hτ:zW 0 τ.size=true):
  ∀ β a w,Sim w0 X n σ β a w->∃ β',Sim w0 X n { σ with E:=(i,some (.hbox ty (vs.set k ⟨.obuf τ,σ.nx⟩)))::(σ.nx,some (.buf te τ []))::σ.E,nx:=σ.nx+1 } β' a w:=by
 intro β a w hs;obtain⟨β',h1,h2,h3⟩:=hs.growNil te τ (by simpa using hτ);have hlt:=hs.lt i _ hi;have hi':zm ((σ.nx,some (.buf te τ []))::σ.E) i=some (.hbox ty vs):=by rw[zah,if_neg (by omega)];exact hi
 exact⟨β',h3.leaf hi' hk (v':=⟨.obuf τ,σ.nx⟩) (fun u hu=>by
  have hu:u= .slice none 0 0:=hu;show u=β' σ.nx;rw[hu,h2]) (zl _)⟩
theorem AL.nilLeaf (i k:Nat) (te:zn) (τ:Ty) {ty:zn} {vs:List V} {l:List Oper} (hi:zm σ.E i=some (.hbox ty vs)) (hk:vs[k]? =some ⟨.lit,.slice none 0 0⟩) (hτ:zW 0 τ.size=true)
  (h:AL P w0 X n ops l { σ with E:=(i,some (.hbox ty (vs.set k ⟨.obuf τ,σ.nx⟩)))::(σ.nx,some (.buf te τ []))::σ.E,nx:=σ.nx+1 } Q):AL P w0 X n ops l σ Q:=fun β a w hs=>by
 obtain⟨β',h'⟩:=Sim.nilLeaf i k te τ hi hk hτ β a w hs;exact h β' a w h'
def rnK (L:List (Nat×Nat)):Nat->Bool
 |0=>true
 |k+1=>Nat.beq (rnF L k) k&&rnK L k
theorem zok {L:List (Nat×Nat)}:∀ {k:Nat},rnK L k=true->∀ i,i < k->rnF L i=i
 |0,_,i,hi=>absurd hi (y8 _)
 |k+1,h,i,hi=>by
  have h:(Nat.beq (rnF L k) k&&rnK L k)=true:=h;rw[zf]at h;by_cases e:i=k
  ·subst e;exact Nat.eq_of_beq_eq_true h.1
  ·exact zok h.2 i (by omega)
theorem Sim.renameK {w:zj} {β:Nat->zh} {a:Act} {L:List (Nat×Nat)} (h:Sim w0 X n σ β a w) (hL:rnOk L=true) {m:Nat} (hKL:rnK L X.K=true) (hKm:X.K≤m) (hF:bndB m (rnFr L σ.F)=true) (hE:bndE m (rnE L σ.E)=true):Sim w0 X n ⟨rnFr L σ.F,rnE L σ.E,m⟩ (fun j=>β (rnB L j)) a w:=by
 have hO:∀ g,OSet X (rnE L σ.E) (fun j=>β (rnB L j)) g->OSet X σ.E β g:=by
  rintro g (hg|⟨j,o',h1,h2⟩)
  ·exact .inl hg
  ·obtain⟨o,_,h4,_⟩:=zeZ hL _ _ _ h1;exact .inr ⟨_,o,h4,h2⟩
 have hk:Keeps w w (OSet X σ.E β) (OSet X (rnE L σ.E) (fun j=>β (rnB L j))):=⟨zl _,fun _ _ _=>rfl,fun g _ hg=>hO g hg⟩;have hb:∀ i,i < X.K->rnB L i=i:=fun i hi=>by
  have:=zmV L i hL;rwa[zok hKL i hi]at this
 refine⟨h.sz,h.df,h.bel,fun s=>?_,fun j o' hj=>?_,fun j o' g hj hg=>?_,fun i j oi oj hi hj hij g=>?_,fun j o' hj=>zmD hE hj,⟨hKm,fun i hi=>?_⟩,fun s=>zfI hF s,fun j o' hj=>(zhO hE hj).2⟩
 ·show RepV w _ _ (zq (rnFr L σ.F) s).t (zq (rnFr L σ.F) s).x _;rw[zqw];exact zoi hL _ (RepV.keep hk _ _ _ (h.fr s))
 ·obtain⟨o,_,h2,rfl⟩:=zeZ hL _ _ _ hj;have h3:=(h.own _ o h2).keep hk fun _ _=>rfl;cases o with
  |hbox ty vs=>
   obtain⟨g,cs,e,k1,k2,k3⟩:=h3;exact⟨g,cs,e,k1,k2,zlK hL k3⟩
  |box t x=>exact h3
  |buf te t xs=>exact h3
 ·obtain⟨o,_,h2,_⟩:=zeZ hL _ _ _ hj;exact h.new _ o g h2 hg
 ·obtain⟨p,e1,h1,_⟩:=zeZ hL _ _ _ hi;obtain⟨q,e2,h2,_⟩:=zeZ hL _ _ _ hj;exact h.inj _ _ p q h1 h2 (fun e=>hij (by rw[e1,e2,e])) g
 ·obtain⟨k1,k2⟩:=h.fix.2 i hi;refine⟨by show zag (β (rnB L i))=_;rw[hb i hi];exact k1,fun o' ho'=>?_⟩;obtain⟨o,_,h2,rfl⟩:=zeZ hL _ _ _ ho';rw[hb i hi]at h2;rw[zoj];exact k2 o h2
end
section
open Go Go.RowKit Go.Lib
section
variable {P:zx} {w:zj} {O:Nat->Prop} {β:Nat->zh}
theorem zhW (s:List UInt8):strCells ⟨s.toArray⟩=byteCells s:=by
 simp[strCells,byteCells]
theorem zlC {t u e:zn} {i:TypeInfo} (ht:P.underlying t=some (.slice e)) (hu:P.underlying u=some .string) (hi:P.info? e=some i) (hz:i.zero=some (.int .u8 0)) (hsize:i.size=1) (hby:i.bytes=1) (ty:zn) {B:Nat} (hB:B≤w.heap.size) {bv:zh} {xs:List UInt8} (hown:OwnRep w O β B bv (.buf e (.int .u8) xs))
  (hOb:∀ g,zag bv=some g->O g) (s:List UInt8) (hlen:xs.length+s.length≤1000000000):
  ∃ v' w',(Builtin.append_ #[t,u] ty #[bv,.string ⟨s.toArray⟩]).run P w= .ok v' w'∧w.grownBy w' (zag bv)∧(∀ g,zag v'=some g->zag bv=some g∨w.heap.size≤g)∧
   ∀ O2,(∀ g,g < w.heap.size->O2 g->O g)->OwnRep w' O2 β B v' (.buf e (.int .u8) ((xs++s:List UInt8))):=by
 obtain⟨cs,h1,h2,h3⟩:=hown;have hss:(⟨s.toArray⟩:ByteArray).size=s.length:=by simp[ByteArray.size]
 have hob:=zd9 h2;have h2:w.ownsRow B e 1 bv xs.length cs:=h2;obtain⟨v',w',k1,k2,k3,k4⟩:=run_append_own_string (P:=P) w B t u ty e i ht hu hi hz hsize hby bv xs.length cs h2 ⟨s.toArray⟩ (by rw[hss];simp only[Go.maxLen];omega) (by rw[hss];omega) hB;rw[hss]at k2;refine⟨v',w',k1,hob▸k3,?_,fun O2 hO2=>⟨cs++byteCells s,?_,by rw[show zg (xs++s:List UInt8)=xs.length+s.length from zd, <-zhW];exact k2,h3⟩⟩
 ·intro g hg;rcases h2.2 with ⟨rfl,hn⟩|⟨g',cap,cur,rfl,hbg,hg',hnc,hcm,hcs,htake⟩
  ·by_cases hm:(⟨s.toArray⟩:ByteArray).size=0
   ·have:=k4.2 ⟨rfl,hm⟩;rw[this]at hg;cases hg
   ·have hr2:=run_append_nil_string (P:=P) w t u ty e i _ ht hu hi hz ⟨s.toArray⟩ (by omega) (by omega) (by rw[hby];omega);rw[hr2]at k1;cases k1;cases hg;exact .inr (zl _)
  ·by_cases hroom:xs.length+(⟨s.toArray⟩:ByteArray).size≤cap
   ·have hcs':cur.size=cap:=by simpa using hcs
    have hr2:=run_append_room_string (P:=P) w t u ty e i ht hu hi hsize g' xs.length cap cur hg' ⟨s.toArray⟩ hroom (by omega);rw[hr2]at k1;cases k1;exact .inl hg
   ·have holds:∀ j u,cs[j]? =some u->w.cell? ((⟨g',0,none⟩:Addr).add j)=some u:=h2.cells (g:=g') rfl;have hr2:=run_append_grow_string (P:=P) w t u ty e i (.int .u8 0) ht hu hi hz ⟨g',0,none⟩ xs.length cap cs (by rw[h2.1,hsize]) holds ⟨s.toArray⟩ (by omega) (by omega) (by rw[hby];exact growslice_fits (by omega) (by omega));rw[hr2]at k1;cases k1;cases hg;exact .inr (zl _)
 ·have hk:Keeps w w' O O2:=⟨k3.size,fun g hgl hgo=>k3.block g hgl fun e=>hgo (hOb g (by rw[<-hob];exact e.symm)),hO2⟩;exact (h1.append (zgk s)).mono fun x _ c=>RepC.keep hk _ _ _
end
section
variable {P:zx} {K:Kn} {w0:zj} {X:Ownr} {n:Nat} {σ:AS} {Q:Exit->AS->Prop} {ops:Array Oper}
theorem AL.appStr {t u e:zn} {ti:TypeInfo} (ht:P.underlying t=some (.slice e)) (hu:P.underlying u=some .string) (hi:P.info? e=some ti) (hz:ti.zero=some (.int .u8 0)) (hsize:ti.size=1) (hby:ti.bytes=1) {o:Oper} {rest:List Oper} {sl x:zE} (ho:o.op= .call ⟨.builtin .append,#[sl,x],#[t,u]⟩) (hgd:o.guard=none) {d:Nat} (hd:o.dst=some d) (hdn:zW d n=true)
  {F:Frame} {E:Owns} {nx i:Nat} (hs:evO F sl=⟨.obuf (.int .u8),i⟩) {xs:List UInt8} (hb:zm E i=some (.buf e (.int .u8) xs)) {s:List UInt8} (hx:evO F x=⟨.str,s⟩) (hlen:xs.length+s.length≤1000000000)
  (h:AL P w0 X n ops rest ⟨(d,⟨.obuf (.int .u8),i⟩)::Frame.kill i F,(i,some (.buf e (.int .u8) ((xs++s:List UInt8))))::Owns.kill i E,nx⟩ Q):AL P w0 X n ops (o::rest) ⟨F,E,nx⟩ Q:=by
 refine qq hgd (fun c e=>by rw[ho]at e;cases e) fun β a w hsim=>?_;have hlt:d < n:=by simpa using hdn
 have eS:a.eval sl=β i:=by
  have h1:=hsim.ops sl;rw[show evO (AS.mk F E nx).F sl=_ from hs]at h1;exact h1
 have eX:a.eval x= .string ⟨s.toArray⟩:=by
  have h1:=hsim.ops x;rw[show evO (AS.mk F E nx).F x=_ from hx]at h1;exact vM.1 h1.1
 obtain⟨v',w',k1,k2,k3,k4⟩:=zlC (P:=P) ht hu hi hz hsize hby o.type (zk _) (hsim.own i _ hb) (fun g hg=>.inr ⟨i,_,hb,hg⟩) s hlen;obtain⟨β',hs'⟩:=hsim.redo hb rfl k2 (bv:=v') k3 (t:=.int .u8) (o':=.buf e (.int .u8) ((xs++s:List UInt8))) (fun O _ hO=>k4 O hO) hlt;refine zbz (u:=v') (w':=w') ?_ (by rw[hd];exact⟨_,β',hs',h⟩);unfold execOp;simp only[ho,resolve,invoke,builtin,Sem.run_bind,Sem.run_pure,Result.andThen_ok,List.map_toArray,List.map_cons,List.map_nil,eS,eX,k1]
theorem StepA.step {o o':Oper} {N:AS->Prop} (heq:OpEq P o o') (hX:X.Ok w0) (hK:KnOk P X.G K) {r:List Prop×AS} (hs:znx K n ops o' σ=some r) (hp:allP r.1) (h:N r.2) (hgd:o.guard=none:=by rfl):StepA P w0 X n ops o σ N Q:=by
 refine jT hgd fun β a w hsim=>heq.wp ?_;have h1:=zgT (ops:=ops) (N:=fun a' w'=>∃ σ' β',Sim w0 X n σ' β' a' w'∧N σ') (R:=fun e a' w'=>e≠ .outgrown∧∃ σ' β',Sim w0 X n σ' β' a' w'∧Q e σ') hK hX hsim hs hp fun β' a' w' h2=>⟨r.2,β',h2,h⟩;have hg':o'.guard=none:=by rw[<-heq.guard];exact hgd
 simp only[Region.wanted,hg',if_true]at h1;rcases h1 with h1|⟨_,h1⟩
 ·exact h1
 ·obtain⟨_,_,h2,_⟩:=h1;exact absurd rfl h2
end
end
theorem u8isS:(Tryz.prog.info? 5).isSome=true:=by kernel_rfl
noncomputable def u8i:TypeInfo:=(Tryz.prog.info? 5).get u8isS
theorem zrE:Tryz.prog.info? 5=some u8i:=(Option.some_get _).symm
theorem zrC:u8i.zero=some (.int .u8 0):=by kernel_rfl
theorem zrD:u8i.size=1:=by kernel_rfl
theorem znE:u8i.bytes=1:=by kernel_rfl
theorem eqB1 (o:Oper) (x:zE) (h:o.op= .fieldAddr 105 x 1):OpEq Tryz.prog o { o with op:=.fieldAddr 133 x 1 }:=by
 refine⟨rfl,rfl,rfl,fun ev w=>?_⟩;unfold execOp;simp only[h];cases ev x<;>simp[go_sem]
@[reducible] def cWSP:HCtr:=hBl prT [107] [.str] .unit (fun x xs=>[zg x.2.1+zg xs.1≤1000000000]) fun x xs=>.ok ((),(true,((x.2.1++xs.1:List UInt8),x.2.2)))
def hCCP:List (zP×HCtr):=[(114,cCC prT [107])]
theorem tyOkP:tyOk prT [107]:=fun t h=>by
 rw[zw]at h;subst h;exact⟨by first|exact .inl rfl|exact .inr rfl,fun x=>rfl⟩
theorem zpn:HsOk Tryz.prog gmH hCCP:=.cons (zgt prT rfl [107] tyOkP) .nil
theorem zic:zaD Tryz.prog gmH 66 cWSP:=by
 refine zgr (K:=gmK) zaj Tryz.func66 rfl rfl (zcq rfl) Tryz.call66 rfl (fun tmps w=>⟨_,by simp[results,Tryz.f66,go_sem];rfl⟩) rfl (zb rfl) (zdG prT [107]) ?_;rintro w0 ⟨G,O,K,fix,D,ρ,B⟩ ty hX hG hK hρ hD hinv ⟨b,bf,r,⟨⟩⟩ ⟨(u:List UInt8),⟨⟩⟩ hp;obtain rfl:G=gmH:=hG;obtain rfl:K=1:=hK;obtain rfl:ρ=none:=hρ;obtain rfl:D=[]:=hD;have hI:=fun w R hR hw=>(⟨zaJ (ty:=ty) hX rfl hinv.1 (ty':=ty) w R hR hw,hinv.2⟩:bInv prT [107] w R ty);have hp:zg bf+u.length≤1000000000:=hp;have key:∀ b',AWP Tryz.prog w0 { G:=gmH,X:=O,K:=1,fix:=fix,D:=[],ρ:=none,B:=B } Tryz.f66.ntmps (Tryz.f66.body.getD .skip) ⟨[(0,⟨.hptr,((0:Nat),(0:Nat))⟩),(1,⟨.str,u⟩)],[(0,some (.hbox ty (adV 0 b'::⟨.obuf u8,(1:Nat)⟩:: [⟨.slice nd,r⟩]))),(1,some (.buf 5 u8 bf))],2⟩ (fun e σ=>zp3 cWSP ty e σ (.ok ((),(true,((bf++u:List UInt8),r,⟨⟩))))):=by
  intro b';apply zae;refine za (za ?_);refine zaa hX zaj rfl ?_ ?_
  ·trivial
  refine xz (σ':=⟨[(0,⟨.hptr,((0:Nat),(0:Nat))⟩),(1,⟨.str,u⟩),(5,⟨.lit,.nilIface⟩)],[(0,some (.hbox ty (⟨.hptr,((0:Nat),(0:Nat))⟩::⟨.obuf u8,(1:Nat)⟩:: [⟨.slice nd,r⟩]))),(1,some (.buf 5 u8 bf))],2⟩) ?_ ?_
  ·cases b' with
   |true=>
    (repeat(first|apply zae|apply zab|apply zac|apply zad));refine zai ?_;refine yn 1 hX zaj zpn rfl trivial rfl rfl trivial hI ?_;exact yg ⟨⟨rfl,rfl,rfl,trivial⟩,⟨rfl,rfl,trivial⟩,rfl,rfl⟩
   |false=>
    (repeat(first|apply zae|apply zab|apply zac|apply zad));refine zai ?_;refine yn 1 hX zaj zpn rfl trivial rfl rfl trivial hI ?_;exact yg ⟨⟨rfl,rfl,rfl,trivial⟩,⟨rfl,rfl,trivial⟩,rfl,rfl⟩
  (repeat(first|apply zae|apply zab|apply zac|apply zad));refine zai ?_;refine zN 3 hX zaj rfl trivial ?_;refine jH (eqB1 _ _ rfl) hX zaj rfl trivial ?_;refine zN 2 hX zaj rfl trivial ?_;refine AL.appStr Tryz.underlying103 Tryz.underlying9 zrE zrC zrD znE rfl rfl rfl rfl rfl rfl rfl hp ?_;refine zN 1 hX zaj rfl trivial ?_;refine jH (eqB1 _ _ rfl) hX zaj rfl trivial ?_;refine zT hX zaj rfl trivial ?_;(repeat(first|apply zae|apply zab|apply zal|apply zad|apply zac|refine zaa hX zaj rfl trivial ?_|refine zaa hX zaj rfl id ?_|refine zaa hX zaj rfl ⟨id,id⟩ ?_));exact zr ⟨.inr rfl,_,rfl,u8,1,_,rfl,rfl,rfl⟩
 exact key b
@[reducible] def cWSB:HCtr:=hBl .unit [105] [.str] .unit (fun x xs=>[zg x.2.1+zg xs.1≤1000000000]) fun x xs=>.ok ((),(true,((x.2.1++xs.1:List UInt8),x.2.2)))
def hCCB:List (zP×HCtr):=[(114,cCC .unit [105])]
theorem tyOkB:tyOk .unit [105]:=fun t h=>by
 rw[zw]at h;subst h;exact⟨by first|exact .inl rfl|exact .inr rfl,fun x=>rfl⟩
theorem zpo:HsOk Tryz.prog gmH hCCB:=.cons (zgt .unit rfl [105] tyOkB) .nil
theorem zmG:zaD Tryz.prog gmH 66 cWSB:=by
 refine zgr (K:=gmK) zaj Tryz.func66 rfl rfl (zcq rfl) Tryz.call66 rfl (fun tmps w=>⟨_,by simp[results,Tryz.f66,go_sem];rfl⟩) rfl (zb rfl) (zdG .unit [105]) ?_;rintro w0 ⟨G,O,K,fix,D,ρ,B⟩ ty hX hG hK hρ hD hinv ⟨b,bf,⟨⟩⟩ ⟨(u:List UInt8),⟨⟩⟩ hp;obtain rfl:G=gmH:=hG;obtain rfl:K=1:=hK;obtain rfl:ρ=none:=hρ;obtain rfl:D=[]:=hD;have hI:=fun w R hR hw=>(⟨zaJ (ty:=ty) hX rfl hinv.1 (ty':=ty) w R hR hw,hinv.2⟩:bInv .unit [105] w R ty);have hp:zg bf+u.length≤1000000000:=hp;have key:∀ b',AWP Tryz.prog w0 { G:=gmH,X:=O,K:=1,fix:=fix,D:=[],ρ:=none,B:=B } Tryz.f66.ntmps (Tryz.f66.body.getD .skip) ⟨[(0,⟨.hptr,((0:Nat),(0:Nat))⟩),(1,⟨.str,u⟩)],[(0,some (.hbox ty (adV 0 b'::⟨.obuf u8,(1:Nat)⟩:: []))),(1,some (.buf 5 u8 bf))],2⟩ (fun e σ=>zp3 cWSB ty e σ (.ok ((),(true,((bf++u:List UInt8),⟨⟩))))):=by
  intro b';apply zae;refine za (za ?_);refine zaa hX zaj rfl ?_ ?_
  ·trivial
  refine xz (σ':=⟨[(0,⟨.hptr,((0:Nat),(0:Nat))⟩),(1,⟨.str,u⟩),(5,⟨.lit,.nilIface⟩)],[(0,some (.hbox ty (⟨.hptr,((0:Nat),(0:Nat))⟩::⟨.obuf u8,(1:Nat)⟩:: []))),(1,some (.buf 5 u8 bf))],2⟩) ?_ ?_
  ·cases b' with
   |true=>
    (repeat(first|apply zae|apply zab|apply zac|apply zad));refine zai ?_;refine yn 1 hX zaj zpo rfl trivial rfl rfl trivial hI ?_;exact yg ⟨⟨rfl,rfl,rfl,trivial⟩,⟨rfl,rfl,trivial⟩,rfl,rfl⟩
   |false=>
    (repeat(first|apply zae|apply zab|apply zac|apply zad));refine zai ?_;refine yn 1 hX zaj zpo rfl trivial rfl rfl trivial hI ?_;exact yg ⟨⟨rfl,rfl,rfl,trivial⟩,⟨rfl,rfl,trivial⟩,rfl,rfl⟩
  (repeat(first|apply zae|apply zab|apply zac|apply zad));refine zai ?_;refine zN 3 hX zaj rfl trivial ?_;refine jH (eqB1 _ _ rfl) hX zaj rfl trivial ?_;refine zN 2 hX zaj rfl trivial ?_;refine AL.appStr Tryz.underlying103 Tryz.underlying9 zrE zrC zrD znE rfl rfl rfl rfl rfl rfl rfl hp ?_;refine zN 1 hX zaj rfl trivial ?_;refine jH (eqB1 _ _ rfl) hX zaj rfl trivial ?_;refine zT hX zaj rfl trivial ?_;(repeat(first|apply zae|apply zab|apply zal|apply zad|apply zac|refine zaa hX zaj rfl trivial ?_|refine zaa hX zaj rfl id ?_|refine zaa hX zaj rfl ⟨id,id⟩ ?_));exact zr ⟨.inr rfl,_,rfl,u8,1,_,rfl,rfl,rfl⟩
 exact key b
@[reducible] def znt (T:Ty) (tys:List zn):HCtr:=hBl T tys [] i64 (fun _ _=>[]) fun x _=>.ok (((x.2.1.length:Nat):Int),x)
theorem zs7:zaD Tryz.prog gmH 61 (znt prT [107]):=by
 refine zau (K:=gmK) zaj Tryz.func61 rfl rfl (zcq rfl) Tryz.call61 rfl (zb rfl) (zdG prT [107]) ?_;rintro w0 ⟨G,O,K,fix,D,ρ,B⟩ ty hX hG hK hρ hD hinv ⟨b,bf,r,⟨⟩⟩ ⟨⟩ hp;obtain rfl:G=gmH:=hG;obtain rfl:K=1:=hK;obtain rfl:ρ=none:=hρ;obtain rfl:D=[]:=hD;have key:∀ b',AWP Tryz.prog w0 { G:=gmH,X:=O,K:=1,fix:=fix,D:=[],ρ:=none,B:=B } Tryz.f61.ntmps (Tryz.f61.body.getD .skip) ⟨[(0,⟨.hptr,((0:Nat),(0:Nat))⟩)],[(0,some (.hbox ty (adV 0 b'::⟨.obuf u8,(1:Nat)⟩:: [⟨.slice nd,r⟩]))),(1,some (.buf 5 u8 bf))],2⟩ (fun e σ=>zp4 gmT Tryz.f61.results.toList (znt prT [107]) ty e σ (.ok (((bf.length:Nat):Int),(b',bf,r,())))):=by
  intro b';apply zae;refine za (za ?_);refine zaa hX zaj rfl ?_ ?_
  ·trivial
  (repeat(first|apply zae|apply zab|apply zac|apply zad));refine zai ?_;refine zN 2 hX zaj rfl trivial ?_;refine jH (eqB1 _ _ rfl) hX zaj rfl trivial ?_;refine zT hX zaj rfl trivial ?_;cases b' with
  |true=>exact zr ⟨.inr rfl,⟨_,rfl,u8,1,_,rfl,rfl,rfl⟩,zaw rfl trivial rfl rfl rfl⟩
  |false=>exact zr ⟨.inr rfl,⟨_,rfl,u8,1,_,rfl,rfl,rfl⟩,zaw rfl trivial rfl rfl rfl⟩
 exact key b
theorem zs8:zaD Tryz.prog gmH 61 (znt .unit [105]):=by
 refine zau (K:=gmK) zaj Tryz.func61 rfl rfl (zcq rfl) Tryz.call61 rfl (zb rfl) (zdG .unit [105]) ?_;rintro w0 ⟨G,O,K,fix,D,ρ,B⟩ ty hX hG hK hρ hD hinv ⟨b,bf,⟨⟩⟩ ⟨⟩ hp;obtain rfl:G=gmH:=hG;obtain rfl:K=1:=hK;obtain rfl:ρ=none:=hρ;obtain rfl:D=[]:=hD;have key:∀ b',AWP Tryz.prog w0 { G:=gmH,X:=O,K:=1,fix:=fix,D:=[],ρ:=none,B:=B } Tryz.f61.ntmps (Tryz.f61.body.getD .skip) ⟨[(0,⟨.hptr,((0:Nat),(0:Nat))⟩)],[(0,some (.hbox ty (adV 0 b'::⟨.obuf u8,(1:Nat)⟩:: []))),(1,some (.buf 5 u8 bf))],2⟩ (fun e σ=>zp4 gmT Tryz.f61.results.toList (znt .unit [105]) ty e σ (.ok (((bf.length:Nat):Int),(b',bf,())))):=by
  intro b';apply zae;refine za (za ?_);refine zaa hX zaj rfl ?_ ?_
  ·trivial
  (repeat(first|apply zae|apply zab|apply zac|apply zad));refine zai ?_;refine zN 2 hX zaj rfl trivial ?_;refine jH (eqB1 _ _ rfl) hX zaj rfl trivial ?_;refine zT hX zaj rfl trivial ?_;cases b' with
  |true=>exact zr ⟨.inr rfl,⟨_,rfl,u8,1,_,rfl,rfl,rfl⟩,zaw rfl trivial rfl rfl rfl⟩
  |false=>exact zr ⟨.inr rfl,⟨_,rfl,u8,1,_,rfl,rfl,rfl⟩,zaw rfl trivial rfl rfl rfl⟩
 exact key b
section
open Go.Shelf
set_option linter.unusedSimpArgs false
set_option linter.unusedVariables false
set_option maxHeartbeats 1000000 in
theorem znQ {P:zx} {ρ:Ren} (L:Lays.n169 P ρ) (X:Builder.Extra P ρ) (b g cap:Nat) (cs cur:Array zh) (ty:zn) (l:List UInt8) (w:zj) (hbk:w.heap[b]? =some (.cells cs ty (0,0))) (h1:cs[1]? =some (.slice (some ⟨g,0,none⟩) l.length cap)) (hg:w.heap[g]? =some (.cells cur (ρ.t 5) (0,0))) (hnc:l.length≤cap) (hcm:cap≤maxLen) (hcs:cur.size=cap) (htake:cur.toList.take l.length=kU l) (h0:l≠ []):
  Calls P (ρ.f 169) #[.pointer (some ⟨b,0,none⟩)] w fun e w'=>e= .returned (.string ⟨l.toArray⟩)∧w'=w.drew.freeze ⟨g,0,none⟩ l.length:=by
 have hl0:l.length≠0:=by simpa using h0
 have c1:w.drew.cell? ⟨b,1,none⟩=some (.slice (some ⟨g,0,none⟩) l.length cap):=by
  have:w.drew.heap[b]? =some (.cells cs ty (0,0)):=hbk;rw[Lib.cell_of_heap this];exact h1
 have hSD:(Builtin.unsafeSliceData_ #[(ρ.t 37)] (ρ.t 127) #[.slice (some ⟨g,0,none⟩) l.length cap]).run P w.drew= .ok (.pointer (some ⟨g,0,none⟩)) w.drew:=
  Lib.run_unsafeSliceData_row _ _ _ _ _ _ (by omega)
 have hUS:(Builtin.unsafeString_ #[(ρ.t 127),(ρ.t 3)] (ρ.t 9) #[.pointer (some ⟨g,0,none⟩),.int .i64 l.length]).run P w.drew= .ok (.string ⟨l.toArray⟩) (w.drew.freeze ⟨g,0,none⟩ l.length):=by
  refine Lib.run_unsafeString_row w.drew (ρ.t 127) (ρ.t 3) (ρ.t 9) (ρ.t 5) L.t127 X.cellsByte g cur.size (by have hg':w.drew.heap[g]? =some (.cells cur (ρ.t 5) (0,0)):=hg;simp[World.shape?,hg']) l h0 (by omega) (by unfold maxLen at hcm;omega) ?_;intro j x hx;have hg':w.drew.heap[g]? =some (.cells cur (ρ.t 5) (0,0)):=hg;rw[show ((⟨g,0,none⟩:Addr).add j)=⟨g,j,none⟩ from by simp[Addr.add_lit],Lib.cell_of_heap hg'];have h2:(cur.toList.take l.length)[j]? =some (.int .u8 x.toNat):=by rw[htake];simp[kU,hx]
  rw[List.getElem?_take]at h2;split at h2
  ·simpa using h2
  ·cases h2
 have mixed:=L.mixed;have t72:=L.t72;have a72:=L.a72;have z72:=L.z72;have v72:=L.v72;have u72:=run_underlying L.t72;have t70:=L.t70;have a70:=L.a70;have z70:=L.z70;have v70:=L.v70;have u70:=run_underlying L.t70;have t37:=L.t37;have a37:=L.a37;have z37:=L.z37;have v37:=L.v37;have u37:=run_underlying L.t37;have t127:=L.t127;have a127:=L.a127;have z127:=L.z127;have v127:=L.v127;have u127:=run_underlying L.t127;have t3:=L.t3;have a3:=L.a3;have z3:=L.z3;have v3:=L.v3;have u3:=run_underlying L.t3;have t9:=L.t9;have a9:=L.a9;have z9:=L.z9;have v9:=L.v9;have u9:=run_underlying L.t9;have t5:=X.t5;have a5:=X.a5;have z5:=X.z5;have v5:=X.v5;have u5:=run_underlying X.t5
 go_enter L.f169,Body.n169_ntmps ρ
 go_wp2
 go_region_o
 all_goals (go_wp2;go_ret;exact⟨rfl,rfl⟩)
end
theorem zku (w:zj) (g n k:Nat) (hk:k≠g):(w.freeze ⟨g,0,none⟩ n).heap[k]? =w.heap[k]? :=by
 unfold qT;split
 ·rfl
 ·simp only[Array.getElem?_modify];rw[if_neg (fun e=>hk e.symm)]
theorem zll {R:Nat->Prop} (w:zj) (g n:Nat) (hR:R g):Kept R w (w.drew.freeze ⟨g,0,none⟩ n):=by
 refine⟨?_,?_,?_,?_,fun k _ hn=>zku w.drew g n k fun e=>hn (e▸hR)⟩
 ·unfold qT;split<;>rfl
 ·unfold qT;split<;>rfl
 ·unfold qT;split<;>rfl
 ·unfold qT;split
  ·exact zl _
  ·show w.heap.size≤(Array.modify _ _ _).size;rw[vX];exact zl _
@[reducible] def cStrB (T:Ty) (tys:List zn):HCtr:=hBl T tys [] .str (fun x _=>[x.2.1≠ []]) fun x _=>.ok (x.2.1,x)
theorem zjN (T:Ty) (hT:T.leafD=true) (tys:List zn):zfK Tryz.prog gmH 62 (cStrB T tys) (fun x _=>.ok x.2.1):=by
 refine⟨Tryz.call62,zcq hT,fun w O g cs ty x xs vs b hO hgb hg hx hbuf hrep hpre hinv hG=>?_⟩;have hvs:vs=[]:=hrep;subst hvs;have h0:x.2.1≠ []:=hpre;rw[zoP]at hx;obtain⟨u,r,rfl,hu1,hu,hr⟩:=hx;obtain⟨v,r,rfl,hv1,hv,hr⟩:=hr;have hv:v=b:=hv;subst hv;obtain⟨cells,k1,k2,k3⟩:=hbuf;have k1:=zfU k1;subst k1;have hl0:x.2.1.length≠0:=by simpa using h0
 rcases k2.2 with ⟨_,hz⟩|⟨g',cap,cur,rfl,_,hg',hnc,hcm,hcs,htake⟩
 ·exact absurd hz hl0
 rw[show Ty.size u8=1 from rfl,Nat.mul_one]at hcs htake;refine (znQ Tryz.lays169 Tryz.Builder_Extra_169 g g' cap _ cur ty x.2.1 w hg rfl hg' hnc hcm hcs (by simpa [kU] using htake) h0).mono ?_;rintro e w' ⟨rfl,rfl⟩;have hnc':zg x.2.1≤cap:=hnc;exact⟨zll w g' _ (.inr rfl),_,rfl,.inr fun β=>⟨rfl,by unfold maxLen at *;omega⟩⟩
section
attribute [local go_sem] Oper.semAt_some
theorem zoc (e:Int×Int) (w:zj):(Instr.typeAssert (.iface 133 (.agg #[.int .i64 e.1,.int .i64 e.2])) 20 133 true).run Tryz.prog w= .ok (.tuple #[.agg #[.int .i64 e.1,.int .i64 e.2],.bool true]) w:=by kernel_rfl
set_option maxHeartbeats 2000000 in
theorem zoe (g2 g3:Nat) (w:zj):CallsDIn yA 0 Tryz.prog 78 #[.pointer (some ⟨g2,0,none⟩),.pointer (some ⟨g3,0,none⟩)] .returning w fun e u' w'=>
  (∃ v,e= .returned v)∧u'= .returning∧yV w.heap.size w w':=by
 refine callsDIn_of_wpSIn Tryz.func78 rfl trivial fun c₀ cs hu=>?_;apply wpSIn_seq;apply wpSIn_region;simp[wpOpsSIn,go_sem,recoverD,hu,Tryz.ntmps78,vh];apply wpSIn_seq;apply wpSIn_region;simp[wpOpsSIn,go_sem,vh];refine wpSIn_cond (t:=false) (by simp[Act.eval]) ?_;simp only[yw,if_false];refine wpSIn_of_wpIn rfl (wpIn_skip ?_);cases c₀
 simp_all [bodyPostS,results,Tryz.f78]
 exact zV _ _
def fixR (g2 g3 g5:Nat) (i:Nat):Nat:=if i=0 then g2 else if i=1 then g3 else g5
def sR1 (x2 x3:Int) (e:Int×Int):AS:=⟨[(0,⟨.optr i64,⟨0,i64,.here⟩⟩),(1,⟨.optr i64,⟨1,i64,.here⟩⟩),(3,⟨.optr sto,⟨2,sto,.here⟩⟩)],[(0,some (.box i64 x2)),(1,some (.box i64 x3)),(2,some (.box sto (e.1,e.2,())))],3⟩
def sR2 (e:Int×Int):AS:=⟨[],[(0,some (.box i64 e.1)),(1,some (.box i64 e.2))],3⟩
noncomputable def zqu:Code:=match Tryz.f78.body.getD .skip with
 | .seq _ (.seq _ (.cond _ c _))=>(match c with
  | .seq _ (.seq _ t)=>t
  |c=>c)
 |c=>c
theorem zqt {w1:zj} {X:Ownr} (hX:X.Ok w1) (hG:∀ w w',X.G w->yV w.heap.size w w'->X.G w') (hK:X.K=3) (x2 x3:Int) (e:Int×Int):AWP Tryz.prog w1 X 20 zqu (sR1 x2 x3 e) (fun en σ=>en= .normal∧Fit σ (sR2 e)):=by
 have kok:KnOk Tryz.prog X.G gmK:=⟨zhz,zhy,CsOk.nil,hG,RsOk.nil⟩;unfold sR1 sR2;refine jB dM 6 rfl (by kernel_rfl) ?_
 repeat'(first
  |exact AllN.nil
  |refine AllN.cons ⟨_,rfl,?_⟩ ?_
  |refine xg hX kok rfl trivial ?_
  |(refine OrdA.last ?_;exact⟨rfl,trivial,⟨rfl,rfl,trivial⟩,rfl,rfl⟩))
set_option maxHeartbeats 600000 in
theorem zqs (g2 g3:Nat) (e:Int×Int) (x2 x3:Int) (t2 t3:zn) (w:zj) (h2:w.heap[g2]? =some (.cells #[.int .i64 x2] t2 (0,0))) (h3:w.heap[g3]? =some (.cells #[.int .i64 x3] t3 (0,0))) (hne:g2≠g3):
  CallsDIn yA 0 Tryz.prog 78 #[.pointer (some ⟨g2,0,none⟩),.pointer (some ⟨g3,0,none⟩)] (.panicking [{ v:=pvS e,recovered:=false }]) w fun en u' w'=>
  (∃ v,en= .returned v)∧u'= .panicking [{ v:=pvS e,recovered:=true }]∧Kept (fun g=>g=g2∨g=g3) w w'∧∃ t2 t3,w'.heap[g2]? =some (.cells #[.int .i64 e.1] t2 (0,0))∧w'.heap[g3]? =some (.cells #[.int .i64 e.2] t3 (0,0)):=by
 refine callsDIn_of_wpSIn Tryz.func78 rfl trivial fun c₀ cs hu=>?_;apply wpSIn_seq;apply wpSIn_region;simp[wpOpsSIn,go_sem,recoverD,hu,Tryz.ntmps78,vh,pvS];apply wpSIn_seq;apply wpSIn_region;simp[wpOpsSIn,go_sem,vh];refine wpSIn_cond (t:=true) (by simp[Act.eval]) ?_;simp only[if_true];apply wpSIn_seq;apply wpSIn_region;simp[wpOpsSIn,go_sem,vh,zoc];apply wpSIn_seq;apply wpSIn_seq;apply wpSIn_region;simp[wpOpsSIn,go_sem,vh];refine wpSIn_cond (t:=false) (by simp[Act.eval]) ?_;simp only[yw,if_false];refine wpSIn_of_wpIn rfl (wpIn_skip ?_);simp only[vh];refine wpSIn_of_wpIn rfl ?_;have hl2:=(zo.1 h2).1;have hl3:=(zo.1 h3).1;have hbA:yV w.heap.size w (w.alloc (.cells #[.int .i64 e.1,.int .i64 e.2] 133)):=za4 _ _;have h5:(w.alloc (.cells #[.int .i64 e.1,.int .i64 e.2] 133)).heap[w.heap.size]? =some (.cells #[.int .i64 e.1,.int .i64 e.2] 133 (0,0)):=xv _ _
 replace h2:=(hbA.block _ hl2).trans h2
 replace h3:=(hbA.block _ hl3).trans h3
 generalize w.alloc (.cells #[.int .i64 e.1,.int .i64 e.2] 133)=w1 at *
 let X:Ownr:={ G:=fun _=>True,X:=fun _=>False,K:=3,fix:=fixR g2 g3 w.heap.size }
 have hR:∀ g,X.R g->g=g2∨g=g3∨g=w.heap.size:=by
  rintro g (⟨i,hi,rfl⟩|h)
  rotate_left
  ·exact False.elim h
  have hi:i < 3:=hi;rcases (show i=0∨i=1∨i=2 by omega) with rfl|rfl|rfl
  ·exact .inl rfl
  ·exact .inr (.inl rfl)
  ·exact .inr (.inr rfl)
 have hX:X.Ok w1:=by
  refine⟨fun g h=>h.elim,fun g h=>?_,fun _ _=>trivial⟩;have:=(zo.1 h5).1;have:=hbA.size;rcases hR g h with rfl|rfl|rfl<;>omega
 let β:Nat->zh:=fun i=>.pointer (some ⟨X.fix i,0,none⟩)
 have hsim:∀ a:Act,a.tmps.size=20->a.defers=[]->a.tmps.getD 0 undef= .pointer (some ⟨g2,0,none⟩)->a.tmps.getD 1 undef= .pointer (some ⟨g3,0,none⟩)->a.tmps.getD 3 undef= .pointer (some ⟨w.heap.size,0,none⟩)->
   Sim w1 X 20 (sR1 x2 x3 e) β a w1:=fun a hsz hdf e0 e1 e3=>by
  refine Sim.boxes (X:=X) hsz hdf (fun i _=>rfl) ?_ ?_ ?_ rfl
  ·intro i j hi hj hij;have hi:i < 3:=hi;have hj:j < 3:=hj;have hij:fixR g2 g3 w.heap.size i=fixR g2 g3 w.heap.size j:=hij;unfold fixR at hij;rcases (show i=0∨i=1∨i=2 by omega) with rfl|rfl|rfl<;>rcases (show j=0∨j=1∨j=2 by omega) with rfl|rfl|rfl<;>first|rfl|(exfalso;simp at hij;omega)
  ·intro i o h;rw[zah]at h;split at h
   ·rename_i hi;subst hi;cases h;exact⟨by show 0 < 3;omega,rfl,⟨g2,[_],_,rfl,zk _,h2,rfl⟩,fun vs e=>by cases e⟩
   rw[zah]at h;split at h
   ·rename_i _ hi;subst hi;cases h;exact⟨by show 1 < 3;omega,rfl,⟨g3,[_],_,rfl,zk _,h3,rfl⟩,fun vs e=>by cases e⟩
   rw[zah]at h;split at h
   ·rename_i _ _ hi;subst hi;cases h;exact⟨by show 2 < 3;omega,rfl,⟨w.heap.size,[.int .i64 e.1,.int .i64 e.2],_,rfl,zk _,h5,[.int .i64 e.1],[.int .i64 e.2],rfl,rfl,[.int .i64 e.2],[],rfl,rfl,rfl⟩,fun vs e=>by cases e⟩
   ·cases h
  ·refine zbB ⟨g2,rfl,e0⟩ (zbB ⟨g3,rfl,e1⟩ (zbB ⟨w.heap.size,rfl,e3⟩ zfS))
 refine Go.wpIn_mono (zqt hX (fun _ _ _ _=>trivial) rfl x2 x3 e β _ w1 (hsim _ ?_ ?_ ?_ ?_ ?_)) ?_
 ·simp
 ·rfl
 ·simp[zJ,qJ]
 ·simp[zJ,qJ]
 ·simp[zJ,qJ]
 ·rintro en a' w' ⟨σ',β',h1,rfl,hf⟩;have h6:=h1.fit hf (zl _);have hblk:∀ i,i < 3->zag (β' i)=some (fixR g2 g3 w.heap.size i):=fun i hi=>(h6.fix.2 i hi).1;obtain⟨k3,c3,y3,q4,_,q5,q6⟩:=h6.own 0 _ rfl;obtain⟨k4,c4,y4,q7,_,q8,q9⟩:=h6.own 1 _ rfl;have e0:=hblk 0 (by omega);have e1:=hblk 1 (by omega);rw[q4]at e0;rw[q7]at e1;have f0:k3=g2:=by simpa [zag,fixR] using e0
  have f1:k4=g3:=by simpa [zag,fixR] using e1
  subst f0;subst f1;have q6:c3=[.int .i64 e.1]:=q6;have q9:c4=[.int .i64 e.2]:=q9;subst q6;subst q9;refine⟨h6.df,_,rfl,_,results_none rfl _ _ _,⟨_,rfl⟩,rfl,⟨h6.bel.os.trans hbA.os,h6.bel.tape.trans hbA.tape,h6.bel.output.trans hbA.output,zH hbA.size h6.bel.size,fun k hk hn=>(h6.bel.block k (Nat.lt_of_lt_of_le hk hbA.size) fun hr=>?_).trans (hbA.block k hk)⟩,⟨_,q5⟩,⟨_,q8⟩⟩;rcases hR k hr with h|h|h
  ·exact hn (.inl h)
  ·exact hn (.inr h)
  ·omega
theorem zaV {W:zj} {B:Nat} {v:zh} {t:zn} (h:W.heap[B]? =some (.cells #[v] t (0,0))):W.cell? ⟨B,0,none⟩=some v∧W.frozen? ⟨B,0,none⟩=false:=by
 constructor<;>simp[xo,World.frozen?,h]
theorem zeY {W:zj} {B:Nat} {v:zh} {t:zn} (v':zh) (h:W.heap[B]? =some (.cells #[v] t (0,0))):(W.setCell ⟨B,0,none⟩ v').heap[B]? =some (.cells #[v'] t (0,0)):=by
 obtain⟨hlt,hk⟩:=zo.1 h;show (W.heap.modify B _)[B]? =_;rw[yj (by rw[vX];exact hlt),vR,hk];rfl
theorem zdy {R:Nat->Prop} (W:zj) (g:Nat) (v:zh) (hR:R g):Kept R W (W.setCell ⟨g,0,none⟩ v):=
 ⟨rfl,rfl,rfl,by simp[World.setCell],fun k _ hn=>xw W ⟨g,0,none⟩ v k fun e=>hn (by rw[e];exact hR)⟩
theorem mkF (fn:Fn) (first cap:Array zh) (w:zj):(Instr.makeFunc fn first cap).run Tryz.prog w= .ok (.func fn first cap) w:=rfl
theorem zaR {w:zj} (o:Obj) {k:Nat} {x:Obj} (h:w.heap[k]? =some x):(w.alloc o).heap[k]? =some x:=((za4 w o).block _ (zo.1 h).1).trans h
theorem zbP {w:zj} (o:Obj) {k:Nat} (h:w.heap.size=k):(w.alloc o).heap[k]? =some o:=by subst h;exact xv _ _
def rdfn (N:Nat):Deferred:={ target:=.fn (.func 78) #[.pointer (some ⟨N,0,none⟩),.pointer (some ⟨N+1,0,none⟩)],args:=#[] }
theorem zg5 (N:Nat) (w:zj):(invoke (rdfn N).target (rdfn N).args).run Tryz.prog w= .ok (.enter 78 #[.pointer (some ⟨N,0,none⟩),.pointer (some ⟨N+1,0,none⟩)]) w:=by
 have eg:=Tryz.call78;simp[invoke,rdfn,go_sem,eg]
def runW (w:zj):zj:=(w.alloc (.cells #[.int .i64 0] 3)).alloc (.cells #[.int .i64 0] 25)
theorem zod (w:zj):(runW w).heap.size=w.heap.size+2:=by simp[runW]
theorem zmT (w:zj):yV w.heap.size w (runW w):=((zV _ w).alloc (zl _) _).alloc (by simp) _
def runE:Except (Int×Int) Unit->Int×Int
 | .ok _=>(0,0)
 | .error e=>e
theorem zoa {tmps:Array zh} {g2 g3:Nat} {W:zj} {x y:Int} {t2 t3:zn} (h2:tmps.getD 2 undef= .pointer (some ⟨g2,0,none⟩)) (h3:tmps.getD 3 undef= .pointer (some ⟨g3,0,none⟩))
  (c2:W.heap[g2]? =some (.cells #[.int .i64 x] t2 (0,0))) (c3:W.heap[g3]? =some (.cells #[.int .i64 y] t3 (0,0))):
  (results Tryz.f43 tmps).run Tryz.prog W= .ok (.tuple #[.int .i64 x,.int .i64 y]) W:=by
 have d2:=(zaV c2).1;have d3:=(zaV c3).1;rw[zJ]at h2 h3;simp[results,Tryz.f43,go_sem,h2,h3,d2,d3]
section
variable {W:zj} {tmps:Array zh} {N:Nat} {x y:Int} {t2 t3:zn} {R:Ending->zj->Prop}
theorem zqx (h2:tmps.getD 2 undef= .pointer (some ⟨N,0,none⟩)) (h3:tmps.getD 3 undef= .pointer (some ⟨N+1,0,none⟩)) (c2:W.heap[N]? =some (.cells #[.int .i64 x] t2 (0,0))) (c3:W.heap[N+1]? =some (.cells #[.int .i64 y] t3 (0,0)))
  (hr:∀ w3,Kept (fun g=>g=N∨g=N+1) W w3->R (.returned (.tuple #[.int .i64 x,.int .i64 y])) w3):LeavesInM yA 1 Tryz.prog Tryz.f43 tmps R [rdfn N] .returning W:=by
 refine⟨(by intro h;cases h),.inr ⟨fun _=>zl _,_,_,_,_,rfl,zg5 N _,fun _ _=>trivial,?_⟩⟩;refine (zoe N (N+1) _).mono ?_;rintro e u' w3 ⟨⟨v,rfl⟩,rfl,hb3⟩;have hl:∀ g (o:Obj),W.heap[g]? =some o->w3.heap[g]? =some o:=fun g o hg=>(hb3.block g (zo.1 hg).1).trans hg;exact⟨_,zoa h2 h3 (hl _ _ c2) (hl _ _ c3),hr _ ⟨hb3.os,hb3.tape,hb3.output,hb3.size,fun k hk _=>hb3.block k hk⟩⟩
theorem zqy {er:Int×Int} (h2:tmps.getD 2 undef= .pointer (some ⟨N,0,none⟩)) (h3:tmps.getD 3 undef= .pointer (some ⟨N+1,0,none⟩)) (c2:W.heap[N]? =some (.cells #[.int .i64 x] t2 (0,0))) (c3:W.heap[N+1]? =some (.cells #[.int .i64 y] t3 (0,0)))
  (hr:∀ w3,Kept (fun g=>g=N∨g=N+1) W w3->R (.returned (.tuple #[.int .i64 er.1,.int .i64 er.2])) w3):LeavesInM yA 1 Tryz.prog Tryz.f43 tmps R [rdfn N] (.panicking [{ v:=pvS er,recovered:=false }]) W:=by
 refine⟨(by intro h;cases h),.inr ⟨fun _=>zl _,_,_,_,_,rfl,zg5 N _,fun _ _=>trivial,?_⟩⟩;refine (zqs N (N+1) er x y t2 t3 _ c2 c3 (by omega)).mono ?_;rintro en u' w3 ⟨⟨v,rfl⟩,rfl,hk3,s2,s3,d2,d3⟩;exact⟨_,zoa h2 h3 d2 d3,hr _ hk3⟩
end
set_option maxHeartbeats 1000000 in
theorem zob {w:zj} {f:zP} {caps:Array zh} {R:Except (Int×Int) Unit->zj->Prop} (hen:∀ w,(callFunc f caps).run Tryz.prog w= .ok (.enter f caps) w)
  (hcall:Calls Tryz.prog f caps (runW w) fun e w'=>(runW w).heap.size≤w'.heap.size∧w'.heap[w.heap.size]? =(runW w).heap[w.heap.size]? ∧w'.heap[w.heap.size+1]? =(runW w).heap[w.heap.size+1]? ∧((∃ v,e= .returned v∧R (.ok ()) w')∨∃ er,e= .panicked [{ v:=pvS er,recovered:=false }]∧R (.error er) w')):
  Calls Tryz.prog 43 #[.func (.func f) #[] caps] w fun e w''=>∃ r w',R r w'∧(runW w).heap.size≤w'.heap.size∧Kept (fun g=>g=w.heap.size∨g=w.heap.size+1) w' w''∧e= .returned (.tuple #[.int .i64 (runE r).1,.int .i64 (runE r).2]):=by
 refine callsIn_wide.1 (zeT (m:=1) Tryz.func43 rfl ?_);simp only[Tryz.ntmps43,List.size_toArray,zt,List.length_nil,Nat.reduceAdd,Nat.reduceSub,Array.replicate_succ,Array.replicate_zero,List.push_toArray,List.append_toArray,List.nil_append,List.cons_append];generalize hQ:bodyPostM yA 1 Tryz.prog Tryz.f43 _=Q;have hmf:=mkF;refine zcf (zck (m:=1) ?_)
 gi_wp2
 refine zcf (zck (m:=1) ?_)
 gi_wp2
 refine zcf (zck (m:=1) ?_)
 gi_wp2
 refine⟨trivial,(callsIn_wide.2 hcall).mono ?_⟩;rintro e w' ⟨hsz,hb0,hb1,⟨v,rfl,hR⟩|⟨er,rfl,hR⟩⟩
 ·have c0:w'.heap[w.heap.size]? =some (.cells #[.int .i64 0] 3 (0,0)):=hb0.trans (zaR _ (zbP _ rfl));have c1:w'.heap[w.heap.size+1]? =some (.cells #[.int .i64 0] 25 (0,0)):=hb1.trans (zbP _ (by simp));have d0:=zaV c0;have d1:=zaV ((xw w' ⟨w.heap.size,0,none⟩ (.int .i64 0) (w.heap.size+1) (by show w.heap.size+1≠w.heap.size;omega)).trans c1)
  gi_wp2
  refine zcf (zck (m:=1) ?_)
  gi_wp2
  have f0:=zeY (.int .i64 0) c0;have f1:=(xw w' ⟨w.heap.size,0,none⟩ (.int .i64 0) (w.heap.size+1) (by show w.heap.size+1≠w.heap.size;omega)).trans c1;have f2:=zeY (.int .i64 0) f1;have f3:=(xw (w'.setCell ⟨w.heap.size,0,none⟩ (.int .i64 0)) ⟨w.heap.size+1,0,none⟩ (.int .i64 0) w.heap.size (by show w.heap.size≠w.heap.size+1;omega)).trans f0;have k1:=zdy (R:=fun g=>g=w.heap.size∨g=w.heap.size+1) w' w.heap.size (.int .i64 0) (.inl rfl);have k2:=zdy (R:=fun g=>g=w.heap.size∨g=w.heap.size+1) (w'.setCell ⟨w.heap.size,0,none⟩ (.int .i64 0)) (w.heap.size+1) (.int .i64 0) (.inr rfl);refine zck (m:=1) (wpIn_ret ?_);rw[<-hQ];refine zqx rfl rfl f3 f2 fun w3 hk=>⟨.ok (),w',hR,hsz,?_,rfl⟩;exact (k1.trans k2).trans hk
 ·have c0:w'.heap[w.heap.size]? =some (.cells #[.int .i64 0] 3 (0,0)):=hb0.trans (zaR _ (zbP _ rfl));have c1:w'.heap[w.heap.size+1]? =some (.cells #[.int .i64 0] 25 (0,0)):=hb1.trans (zbP _ (by simp));rw[<-hQ];exact zqy rfl rfl c0 c1 fun w3 hk=>⟨.error er,w',hR,hsz,hk,rfl⟩
end
abbrev tupI:Ty:=.tup i64 (.tup i64 .unit)
section
variable {w0:zj} {X:Ownr} {n m K:Nat} {Q:Exit->AS->Prop} {ops:Array Oper} {F:Frame} {E:Owns} {nx:Nat}
theorem AL.runClo (hX:X.Ok w0) (K:Nat) {o1 o2:Oper} {rest:List Oper} {f:zP} {fn:Func} {c:Code} {x0 x1:zE} {d1 d2:Nat} {ts:Array zn} (ho1:o1.op= .makeFunc (.func f) #[] #[x0,x1]) (ho2:o2.op= .call ⟨.value (.func 43),#[.tmp d1],ts⟩)
  (hg1:o1.guard=none) (hg2:o2.guard=none) (hd1:o1.dst=some d1) (hd2:o2.dst=some d2) (hn1:zW d1 n=true) (hn2:zW d2 n=true) (hb:zeV E K=true) (hKn:qI K nx=true) (hK:X.K≤K)
  (hf:Tryz.prog.funcs[f]? =some fn) (hbd:fn.body=some c) (hn:fn.ntmps=m) (hres:fn.results= #[]) (hm:qI 2 m=true) (hen:∀ (vs:Array zh) (w:zj),(callFunc f vs).run Tryz.prog w= .ok (.enter f vs) w) {v0 v1:V} (hv0:evO F x0=v0) (hv1:evO F x1=v1) (hbF:bndB nx [(0,v0),(1,v1)]=true) {N:Except (Int×Int) Unit->AS->Prop}
  (hw:∀ (w1:zj) (X':Ownr),X'.Ok w1->X'.G=X.G->X'.K=K->X'.ρ=none->X'.D=[]->(∀ g,X'.R g->w0.heap.size≤g∨X.R g)->AWP Tryz.prog w1 X' m c ⟨[(0,v0),(1,v1)],E,nx⟩ (fun e σ=>((e= .normal∨e= .ret)∧N (.ok ()) σ)∨∃ er,e= .panic [{ v:=pvS er,recovered:=false }]∧N (.error er) σ))
  (h:∀ r σ,N r σ->AL Tryz.prog w0 X n ops rest ⟨(d2,⟨tupI,((runE r).1,(runE r).2,())⟩)::(d1,⟨.junk,()⟩)::zhv K F,σ.E,σ.nx⟩ Q):AL Tryz.prog w0 X n ops (o1::o2::rest) ⟨F,E,nx⟩ Q:=by
 intro β a w hs;have hl1:d1 < n:=by simpa using hn1
 have hl2:d2 < n:=by simpa using hn2
 have hsz:=hs.sz;refine wpListIn_plain hg1 fun K1 hK1=>zct (fun c e=>by rw[ho1]at e;cases e) ?_;have hr1:(execOp a.eval o1).run Tryz.prog w= .ok (.value (.func (.func f) #[] #[a.eval x0,a.eval x1])) w:=by
  unfold execOp;simp only[ho1];refine zdH ?_;simp[Instr.makeFunc]
 refine zbz hr1 (hK1 _ _ ?_);rw[hd1];refine wpListIn_plain hg2 fun K2 hK2=>zct (fun c e=>by rw[ho2]at e;cases e) ?_;refine zgB ho2 Tryz.call43 ?_;have hc:((#[uM d1]:Array zE).toList.map (a.put (some d1) (.func (.func f) #[] #[a.eval x0,a.eval x1])).eval).toArray= #[.func (.func f) #[] #[a.eval x0,a.eval x1]]:=by
  have:(a.put (some d1) (.func (.func f) #[] #[a.eval x0,a.eval x1])).eval (.tmp d1)= .func (.func f) #[] #[a.eval x0,a.eval x1]:=by
   show (a.put (some d1) _).tmps.getD d1 undef=_;rw[Act.put_get (by rw[hsz];exact hl1),if_pos rfl]
  rw[List.map_cons,this];rfl
 rw[hc];have hws:=zod w;have hfr:∀ s,RepV w (OSet X E β) β (zq [(0,v0),(1,v1)] s).t (zq [(0,v0),(1,v1)] s).x (((#[a.eval x0,a.eval x1]:Array zh)++zz (m - (#[a.eval x0,a.eval x1]:Array zh).size) undef).getD s undef):=by
  refine zbB ?_ (zbB ?_ zfS)
  ·have:=hs.ops x0;rw[show evO (AS.mk F E nx).F x0=_ from hv0]at this
   simpa [zJ,qJ] using this
  ·have:=hs.ops x1;rw[show evO (AS.mk F E nx).F x1=_ from hv1]at this
   simpa [zJ,qJ] using this
 have hin:=Sim.inl (K:=K) (m:=m) (w1:=runW w) (ex:=fun g=>g=w.heap.size∨g=w.heap.size+1) hs hX (zmT w) (fun g hg=>by omega) hb (zb hKn) hK hf hbd hn hres (caps:=#[a.eval x0,a.eval x1]) (by show 2≤m;exact zb hm) hfr hbF (Q:=fun e σ=>((e= .normal∨e= .ret)∧N (.ok ()) σ)∨∃ er,e= .panic [{ v:=pvS er,recovered:=false }]∧N (.error er) σ)
  (fun e σ hq=>by
    rcases hq with ⟨rfl|rfl,_⟩|⟨er,rfl,_⟩
    ·exact .inl rfl
    ·exact .inr (.inl rfl)
    ·exact .inr (.inr ⟨_,rfl⟩)) (fun X' h1 h2 h3 h4 h5 h6=>hw _ X' h1 h2 h3 h4 h5 h6)
 let R:Except (Int×Int) Unit->zj->Prop:=fun r w'=>∃ σ,N r σ∧∀ w'',Kept (fun g=>g=w.heap.size∨g=w.heap.size+1) w' w''->∃ β',Sim w0 X n ⟨zhv K F,σ.E,σ.nx⟩ β' a w''
 refine (zob (R:=R) (hen _) (hin.mono fun en w' hr=>?_)).mono fun en w'' hr=>?_
 ·obtain⟨h1,h2,e,σ,he,hq,hfin⟩:=hr;refine⟨h1,h2 _ (.inl rfl),h2 _ (.inr rfl),?_⟩;rcases hq with ⟨hq,hN⟩|⟨er,rfl,hN⟩
  ·rcases he with ⟨_,v,rfl⟩|⟨ch,rfl,_⟩
   ·exact .inl ⟨v,rfl,σ,hN,hfin⟩
   ·rcases hq with hq|hq<;>cases hq
  ·rcases he with ⟨hq|hq,_⟩|⟨ch,hq,rfl⟩
   ·cases hq
   ·cases hq
   ·cases hq;exact .inr ⟨er,rfl,σ,hN,hfin⟩
 ·obtain⟨r,w',⟨σ,hN,hfin⟩,hsz2,hk,rfl⟩:=hr;obtain⟨β',h'⟩:=hfin w'' hk;refine⟨_,rfl,hK2 _ _ ?_⟩;rw[hd2];have h2:=h'.put (zV _ _) (d:=d1) (v:=⟨.junk,()⟩) (u:=.func (.func f) #[] #[a.eval x0,a.eval x1]) trivial (zk _) hl1;have h3:=h2.put (zV _ _) (d:=d2) (v:=⟨tupI,((runE r).1,(runE r).2,())⟩) (u:=.tuple #[.int .i64 (runE r).1,.int .i64 (runE r).2]) ⟨[_,_],rfl,_,_,rfl,rfl,_,_,rfl,rfl,rfl⟩ (zk _) hl2;exact h r σ hN β' _ w'' h3
end
theorem zlJ (s:List UInt8):zee s 0=zbi s:=by
 unfold zee;rw[show ((0:Int)).toNat=0 from rfl,List.drop_zero];show (zQ (zbi s),Tok.at (zbi s)+0,Tok.size (zbi s),zR (zbi s),qe (zbi s),())=zbi s;rw[Int.add_zero];rfl
def zbu (s:List UInt8):List Nd×Int×Int:=if 4000 < s.length then ([],0,2) else match zeo s with
 | .ok t=>(t.flat 0,0,0)
 | .error e=>([],e.1,e.2)
def zmy:Ctr:={ args:=[.str],pre:=fun _=>[],res:=.tup (.slice nd) (.tup i64 (.tup i64 .unit)),own:=none,out:=fun x=>((zbu x.1).1,(zbu x.1).2.1,(zbu x.1).2.2,()) }
def zp2 (s:List UInt8) (r:Except (Int×Int) Unit) (σ:AS):Prop:=(∃ t,zeo s= .ok t∧r= .ok ()∧Fit σ ⟨[],[(0,some (.box .str s)),(1,some (.box (.slice nd) (t.flat 0)))],2⟩)∨∃ er,zeo s= .error er∧r= .error er∧Fit σ ⟨[],[(0,some (.box .str s)),(1,some (.box (.slice nd) []))],2⟩
theorem zhA (s:List UInt8):zeo s=(zfy s (zbi s,0)).map (·.1):=by
 unfold zeo zh6;rw[zlJ]
theorem zm8 {w1:zj} {X:Ownr} {s:List UInt8} (hs:s.length≤4000) (hX:X.Ok w1) (hG:X.G=gmH) (hK:X.K=2) (hρ:X.ρ=none) (hD:X.D=[]) (hinv:∀ ty,ginv w1 X.R ty):
  AWP Tryz.prog w1 X Tryz.f44.ntmps (Tryz.f44.body.getD .skip) ⟨[(0,⟨.optr .str,⟨0,.str,.here⟩⟩),(1,⟨.optr (.slice nd),⟨1,.slice nd,.here⟩⟩)],[(0,some (.box .str s)),(1,some (.box (.slice nd) []))],2⟩ (fun e σ=>((e= .normal∨e= .ret)∧zp2 s (.ok ()) σ)∨∃ er,e= .panic [{ v:=pvS er,recovered:=false }]∧zp2 s (.error er) σ):=by
 obtain⟨G,O,K,fix,D,ρ,B⟩:=X;obtain rfl:G=gmH:=hG;obtain rfl:K=2:=hK;obtain rfl:ρ=none:=hρ;obtain rfl:D=[]:=hD;have hI:=fun ty=>zaJ (ty:=ty) hX rfl (hinv ty) (ty':=ty);have hl:s.length≤100000:=by omega
 (repeat(first|apply zae|apply zab|apply zac|apply zad));refine zai ?_;refine zN 1 hX zaj rfl trivial ?_;refine AL.fresh hX zeh rfl rfl rfl rfl rfl rfl trivial hl ⟨rfl,rfl⟩ rfl rfl ?_;refine AL.nilLeaf 2 6 73 nd rfl rfl rfl ?_;refine xn (σ':=⟨[(0,⟨.optr .str,⟨0,.str,.here⟩⟩),(1,⟨.optr (.slice nd),⟨1,.slice nd,.here⟩⟩),(3,⟨.hptr,((2:Nat),(0:Nat))⟩)],[(0,some (.box .str s)),(1,some (.box (.slice nd) [])),(2,some (.hbox 139 [⟨.str,s⟩,⟨i64,(zbi s).1⟩,⟨i64,(zbi s).2.1⟩,⟨i64,(zbi s).2.2.1⟩,⟨.str,(zbi s).2.2.2.1⟩,⟨i64,(zbi s).2.2.2.2.1⟩,⟨.obuf nd,(3:Nat)⟩,⟨i64,(0:Int)⟩])),(3,some (.buf 73 nd []))],4⟩) ⟨⟨rfl,rfl,rfl,trivial⟩,⟨rfl,rfl,rfl,rfl,trivial⟩,rfl,rfl⟩ ?_;have hg0:GOk s (zbi s,0):=by
  have:=zgO (s:=s);unfold zh6 at this;rwa[zlJ]at this
 have hok:pOk (s,zbi s,[],0,()):=⟨hg0,hl⟩;have hfew:few (s,zbi s,[],0,()):=xF 0;refine AL.give hX zoh rfl rfl rfl rfl rfl rfl rfl rfl rfl rfl rfl rfl trivial ⟨hok,hfew⟩ (hI 139) rfl rfl ?_;cases h3:zfy s (zbi s,0) with
 |error er=>
  rw[show zen s (stOf (s,zbi s,[],0,())) []= .error (pvS er) by unfold zen;rw[show stOf (s,zbi s,([]:List Nd),(0:Int),())=(zbi s,0) from rfl,h3];rfl];refine .inr ⟨er,rfl,.inr ⟨er,?_,rfl,trivial,⟨rfl,rfl,trivial⟩,rfl,rfl⟩⟩;rw[zhA,h3];rfl
 |ok p=>
  rw[show zen s (stOf (s,zbi s,[],0,())) []= .ok (p.1.flat 0) by unfold zen;rw[show stOf (s,zbi s,([]:List Nd),(0:Int),())=(zbi s,0) from rfl,h3];rfl];show AL _ _ _ _ _ _ _ _;refine zT hX zaj rfl trivial ?_;refine .inl ⟨.inl rfl,.inl ⟨p.1,?_,rfl,trivial,⟨rfl,rfl,trivial⟩,rfl,rfl⟩⟩;rw[zhA,h3];rfl
theorem zi3:yK Tryz.prog gmH 16 zmy:=by
 refine zaq (K:=gmK) zaj Tryz.func16 rfl rfl Tryz.call16 rfl (by decide) (by intro h;cases h) ?_;rintro w0 O hX ⟨(s:List UInt8),⟨⟩⟩ hp;have hg0:gmH w0:=hX.2.2 w0 (Kept.refl _ _);change AWP _ _ _ _ _ ⟨[(0,⟨.str,s⟩)],[],0⟩ _;refine za (za ?_);refine zaa hX zaj rfl ?_ ?_
 ·trivial
 refine za (za ?_);refine zaa hX zaj rfl ?_ ?_
 ·trivial
 refine zaf rfl (fun hb=>?_) (fun hb=>?_)
 ·have hb:decide (((4000:Nat):Int) < ((s.length:Nat):Int))=true:=hb;have hb:=of_decide_eq_true hb;have hP:zbu s=([],0,2):=if_pos (by omega);(repeat(first|apply zae|apply zab|apply zal|apply zad|apply zac|refine zaa hX zaj rfl trivial ?_|refine zaa hX zaj rfl id ?_|refine zaa hX zaj rfl ⟨id,id⟩ ?_));refine zr ⟨.inr rfl,zbd (by decide) rfl rfl trivial ?_⟩;show _=((zbu s).1,(zbu s).2.1,(zbu s).2.2,());rw[hP]
 have hb:decide (((4000:Nat):Int) < ((s.length:Nat):Int))=false:=hb;have hb:=of_decide_eq_false hb;have hP:zbu s=match zeo s with
  | .ok t=>(t.flat 0,0,0)
  | .error e=>([],e.1,e.2):=if_neg (by omega)
 apply zab;refine za (za ?_);refine zaa hX zaj rfl ?_ ?_
 ·trivial
 refine zap (σ':=⟨[(1,⟨.optr .str,⟨0,.str,.here⟩⟩),(5,⟨.optr (.slice nd),⟨1,.slice nd,.here⟩⟩)],[(0,some (.box .str s)),(1,some (.box (.slice nd) []))],2⟩) ⟨⟨rfl,rfl,trivial⟩,⟨rfl,rfl,trivial⟩,rfl,rfl⟩ ?_;(repeat(first|apply zae|apply zab|apply zac|apply zad));refine zai ?_;refine AL.runClo hX 2 rfl rfl rfl rfl rfl rfl rfl rfl rfl rfl (zk _) Tryz.func44 rfl rfl rfl rfl Tryz.call44 rfl rfl rfl (N:=zp2 s) (fun w1 X' h1 h2 h3 h4 h5 h6=>?_) (fun r σ hN=>?_)
 ·refine zm8 (by omega) h1 h2 h3 h4 h5 fun ty=>?_;obtain⟨l1,l2⟩:=zmg hg0;refine⟨fun h=>?_,fun h=>?_⟩
  ·rcases h6 _ h with h7|h7
   ·omega
   ·exact Ownr.plain_noR _ _ _ h7
  ·rcases h6 _ h with h7|h7
   ·omega
   ·exact Ownr.plain_noR _ _ _ h7
 rcases hN with ⟨t,hN,rfl,hf⟩|⟨er,hN,rfl,hf⟩
 ·skip
  refine xn (σ':=⟨[(13,⟨tupI,((0:Int),(0:Int),())⟩),(1,⟨.optr .str,⟨0,.str,.here⟩⟩),(5,⟨.optr (.slice nd),⟨1,.slice nd,.here⟩⟩)],[(0,some (.box .str s)),(1,some (.box (.slice nd) (t.flat 0)))],2⟩) ⟨⟨rfl,rfl,rfl,trivial⟩,hf.e,rfl,rfl⟩ ?_;refine zT hX zaj rfl trivial ?_;(repeat(first|apply zae|apply zab|apply zal|apply zad|apply zac|refine zaa hX zaj rfl trivial ?_|refine zaa hX zaj rfl id ?_|refine zaa hX zaj rfl ⟨id,id⟩ ?_));refine zr ⟨.inr rfl,zbd (by decide) rfl rfl trivial ?_⟩;show _=((zbu s).1,(zbu s).2.1,(zbu s).2.2,());rw[hP,hN]
 ·skip
  refine xn (σ':=⟨[(13,⟨tupI,(er.1,er.2,())⟩),(1,⟨.optr .str,⟨0,.str,.here⟩⟩),(5,⟨.optr (.slice nd),⟨1,.slice nd,.here⟩⟩)],[(0,some (.box .str s)),(1,some (.box (.slice nd) []))],2⟩) ⟨⟨rfl,rfl,rfl,trivial⟩,hf.e,rfl,rfl⟩ ?_;refine zT hX zaj rfl trivial ?_;(repeat(first|apply zae|apply zab|apply zal|apply zad|apply zac|refine zaa hX zaj rfl trivial ?_|refine zaa hX zaj rfl id ?_|refine zaa hX zaj rfl ⟨id,id⟩ ?_));refine zr ⟨.inr rfl,zbd (by decide) rfl rfl trivial ?_⟩;show _=((zbu s).1,(zbu s).2.1,(zbu s).2.2,());rw[hP,hN]
theorem znv (w:zj) (q:Nat) (os:Array Obj):yV w.heap.size w (Sort.grow (w.drewN q) os):=
 ⟨rfl,rfl,rfl,by show w.heap.size≤(w.heap++os).size;rw[Array.size_append];omega,fun i hi=>by
   show (w.heap++os)[i]? =_;rw[Array.getElem?_append_left hi]⟩
abbrev deI (n:Int):List UInt8:=Lib.itoa n
theorem zfF (k:Nat):∀ n,n < 10 ^ (k+1)->(yo n).length≤k+1:=by
 induction k with
 |zero=>
  intro n h;rw[yo];by_cases hn:n < 10
  ·rw[dif_pos hn];exact zl _
  ·exact absurd (by simpa using h) hn
 |succ k ih=>
  intro n h;rw[yo];by_cases hn:n < 10
  ·rw[dif_pos hn];simp
  ·rw[dif_neg hn,zd];have:=ih (n / 10) (by rw[Nat.pow_succ]at h;omega);simp only[List.length_singleton];omega
theorem zes {n:Int} (h0: -100000000000000000 < n) (h1:n < 100000000000000000):(deI n).length≤18:=by
 unfold deI Lib.itoa;have e:(10:Nat) ^ (16+1)=100000000000000000:=by decide
 split
 ·rw[zt];have:=zfF 16 n.natAbs (by rw[e];omega);omega
 ·have:=zfF 16 n.toNat (by rw[e];omega);omega
def zb4 (n:Int):Prop:=-100000000000000000 < n∧n < 100000000000000000
def cItoa:Ctr:={ args:=[i64],pre:=fun x=>[zb4 x.1],res:=.str,own:=none,out:=fun x=>deI x.1 }
theorem ztc:yK Tryz.prog gmH 149 cItoa:=by
 refine⟨Tryz.call149,fun w O xs vs hO hr hp hG=>?_⟩;obtain⟨(n:Int),_⟩:=xs;obtain⟨v1,r1,rfl,e1,rfl⟩:=hr;have e1: [v1]=[yF .i64 n]:=e1;cases e1;obtain⟨h0,h1⟩: -100000000000000000 < n∧n < 100000000000000000:=hp;refine (Any.strconv_Itoa Tryz.laysM171 n (by omega) (by omega) w hG.1).mono ?_;rintro e w' ⟨rfl,k,os,rfl⟩;refine⟨_,rfl,znv w k os,fun β=>⟨rfl,?_⟩⟩;have:=zes h0 h1;show (deI n).length≤maxLen;unfold maxLen;omega
def levS (k:Int):Int:=if k=9 then 1 else if k=10 then 2 else if k=8 then 3 else if 11≤k∧k≤17 then 4 else 5
def zsd:Ctr:={ args:=[i64],pre:=fun _=>[],res:=i64,own:=none,out:=fun x=>levS x.1 }
def opKd (i:Nat):Int:=(opsL.getD i ([],0,())).2.1
theorem zqY:yK Tryz.prog gmH 98 zsd:=by
 refine zaq (K:=kBi) zbh Tryz.func98 rfl rfl Tryz.call98 rfl (by decide) (by intro h;cases h) ?_;rintro w0 X hX ⟨(kd:Int),⟨⟩⟩ hp;change AWP _ _ _ _ _ ⟨[(0,⟨i64,kd⟩)],[],0⟩ _;refine za (za ?_);refine zaa hX zbh rfl ?_ ?_
 ·trivial
 refine za (za ?_);refine zaa hX zbh rfl ?_ ?_
 ·trivial
 apply zac;refine yR (ι:=Nat) (fun i=>⟨[(0,⟨i64,kd⟩),(5,⟨.slice gop,opsL⟩),(6,⟨i64,(3:Int)⟩),(7,⟨i64,(i:Int)⟩)],[],0⟩) (fun i=>i≤3∧∀ j < i,opKd j≠kd) (fun i=>3 - i) 0 ⟨by omega,fun j h=>by omega⟩ ⟨⟨rfl,rfl,rfl,rfl,trivial⟩,trivial,rfl,rfl⟩ ?_;rintro i ⟨hi,hall⟩;refine za (za ?_);refine zaa hX zbh rfl ?_ ?_
 ·trivial
 apply zae;refine zaf rfl (fun hb=>?_) (fun hb=>?_)
 ·have hb:decide ((i:Int) < (3:Int))=true:=hb;have hb:=of_decide_eq_true hb;have hi3:i < 3:=by omega
  have n0:(0:Int)≤(i:Int):=by omega
  have n1:(i:Int) < ((opsL.length:Nat):Int):=by show (i:Int) < ((3:Nat):Int);omega
  apply zab;apply zae;apply zac;refine za (za ?_);refine zaa hX zbh rfl ?_ ?_
  ·exact⟨n0,n1⟩
  refine za (za ?_);refine zaa hX zbh rfl ?_ ?_
  ·trivial
  refine zaf rfl (fun hk=>?_) (fun hk=>?_)
  ·have hk:((opsL.getD ((i:Int)).toNat ([],0,())).2.1==kd)=true:=hk;have hk:=beq_iff_eq.1 hk;rw[zD]at hk;have q0:inR .i64 ((i:Int)+1):=zam (by omega) (by omega);refine za (za ?_);refine zaa hX zbh rfl ?_ ?_
   ·exact q0
   refine zr ⟨.inr rfl,zaw rfl trivial rfl rfl ?_⟩;show (i:Int)+1=levS kd;rcases (show i=0∨i=1∨i=2 by omega) with rfl|rfl|rfl
   ·subst hk;rfl
   ·subst hk;rfl
   ·subst hk;rfl
  ·have hk:((opsL.getD ((i:Int)).toNat ([],0,())).2.1==kd)=false:=hk;have hk:(opsL.getD i ([],0,())).2.1≠kd:=fun e=>by
    rw[zD]at hk;rw[beq_iff_eq.2 e]at hk;cases hk
   apply zab;have q0:inR .i64 ((i:Int)+1):=zam (by omega) (by omega);refine za (za ?_);refine zaa hX zbh rfl ?_ ?_
   ·exact q0
   refine⟨i+1,⟨by omega,fun j hj=>?_⟩,by omega,⟨rfl,rfl,rfl,vI64 (by omega),trivial⟩,trivial,rfl,rfl⟩;by_cases e:j=i
   ·subst e;exact hk
   ·exact hall j (by omega)
 ·have hb:decide ((i:Int) < (3:Int))=false:=hb;have hb:=of_decide_eq_false hb;have h9:kd≠9:=fun e=>hall 0 (by omega) e.symm;have h10:kd≠10:=fun e=>hall 1 (by omega) e.symm;have h8:kd≠8:=fun e=>hall 2 (by omega) e.symm;apply zad;refine za (za ?_);refine zaa hX zbh rfl ?_ ?_
  ·repeat'(first|exact trivial|assumption|(refine⟨?_,?_⟩)|(intro _)|exact zb rfl|exact zi _|(simp_all [allP];done))
  refine zaf rfl (fun hb=>?_) (fun hb=>?_)
  ·have hb:(bif decide ((11:Int)≤kd) then decide (kd≤17) else false)=true:=hb;rw[zcs,zf,decide_eq_true_iff,decide_eq_true_iff]at hb;(repeat(first|apply zae|apply zab|apply zal|apply zad|apply zac|refine zaa hX zbh rfl trivial ?_|refine zaa hX zbh rfl id ?_|refine zaa hX zbh rfl ⟨id,id⟩ ?_));refine zr ⟨.inr rfl,zaw rfl trivial rfl rfl ?_⟩;show (4:Int)=levS kd;unfold levS;rw[if_neg h9,if_neg h10,if_neg h8,if_pos hb]
  ·have hb:(bif decide ((11:Int)≤kd) then decide (kd≤17) else false)=false:=hb;have hb:¬ (11≤kd∧kd≤17):=fun h=>by
    rw[zcs,decide_eq_true h.1,decide_eq_true h.2]at hb;cases hb
   apply zab;(repeat(first|apply zae|apply zab|apply zal|apply zad|apply zac|refine zaa hX zbh rfl trivial ?_|refine zaa hX zbh rfl id ?_|refine zaa hX zbh rfl ⟨id,id⟩ ?_));refine zr ⟨.inr rfl,zaw rfl trivial rfl rfl ?_⟩;show (5:Int)=levS kd;unfold levS;rw[if_neg h9,if_neg h10,if_neg h8,if_neg hb]
def zb5 (n:Int):List UInt8:=if n=1 then 32::zea else 32::zjF
def zpI:Ctr:={ args:=[i64],pre:=fun x=>[0≤x.1,x.1≤1],res:=.str,own:=none,out:=fun x=>zb5 x.1 }
theorem zn4:yK Tryz.prog gmH 151 zpI:=by
 refine zaq (K:=gmK) zaj Tryz.func151 rfl rfl Tryz.call151 rfl (by decide) (by intro h;cases h) ?_;rintro w0 X hX ⟨(n:Int),⟨⟩⟩ hp;obtain⟨h0,h1⟩:0≤n∧n≤1:=hp;change AWP _ _ _ _ _ ⟨[(0,⟨i64,n⟩)],[],0⟩ _;have hlt:n < ((2:Nat):Int):=by omega
 have hlt2:n.toNat < 2:=by omega
 refine za (za ?_);refine zaa hX zaj rfl ?_ ?_
 ·trivial
 refine za (za ?_);refine zaa hX zaj rfl ?_ ?_
 ·exact⟨h0,hlt,hlt2⟩
 refine zr ⟨.inr rfl,zaw rfl trivial rfl rfl ?_⟩;rcases (show n=0∨n=1 by omega) with rfl|rfl
 ·rfl
 ·rfl
theorem eqP0 (o:Oper) (x:zE) (h:o.op= .fieldAddr 107 x 0):OpEq Tryz.prog o { o with op:=.fieldAddr 133 x 0 }:=by
 refine⟨rfl,rfl,rfl,fun ev w=>?_⟩;unfold execOp;simp only[h];cases ev x<;>simp[go_sem]
theorem eqP1 (o:Oper) (x:zE) (h:o.op= .fieldAddr 107 x 1):OpEq Tryz.prog o { o with op:=.fieldAddr 73 x 2 }:=by
 refine⟨rfl,rfl,rfl,fun ev w=>?_⟩;unfold execOp;simp only[h];cases ev x<;>simp[go_sem]
@[reducible] def hW (args:List Ty) (pre:(bTy prT).T->Args args->List Prop) (out:(bTy prT).T->Args args->List UInt8):HCtr:=hBl prT [107] args .unit pre fun x xs=>.ok ((),(true,((x.2.1++out x xs:List UInt8),x.2.2)))
@[reducible] def wE (ty:zn) (b:Bool) (bf:List UInt8) (r:List Nd):Owns:=[(0,some (.hbox ty [adV 0 b,⟨.obuf u8,(1:Nat)⟩,⟨.slice nd,r⟩])),(1,some (.buf 5 u8 bf))]
def wQ (rs:List qd) (c:HCtr) (ty:zn) (r:Except zh (c.res.T×c.self.T)) (e:Exit) (σ:AS):Prop:=zp4 gmT rs c ty e σ r
def zdE (l:List Int):List UInt8:=(l.map fun n=>32::deI n).flatten
def putS (s:List UInt8) (l:List Int):List UInt8:=s++zdE l
theorem znb (l:List Int) (n:Int):zdE (l++ [n])=zdE l++32::deI n:=by
 unfold zdE;rw[List.map_append,List.flatten_append];simp
theorem zbH {l:List Int} (h:∀ n∈l,zb4 n):(zdE l).length≤19 * l.length:=by
 induction l with
 |nil=>exact zl _
 |cons n l ih=>
  have h1:=zes (h n (yf ..)).1 (h n (yf ..)).2;have h2:=ih fun m hm=>h m (yy _ hm);show ((32::deI n)++zdE l).length≤_;rw[zd,zt,zt];omega
def kPt:Kn:={ gmK with C:=[(149,cItoa)] }
theorem zch:KnOk Tryz.prog gmH kPt:=zaj.with (.cons ztc .nil)
def hPt:List (zP×HCtr):=[(66,cWSP)]
theorem zme:HsOk Tryz.prog gmH hPt:=.cons zic .nil
@[reducible] def cPut:HCtr:=hW [.str,ints] (fun x xs=>[zg x.2.1+zg xs.1+19 * zg xs.2.1≤1000000000,∀ n∈xs.2.1,zb4 n]) fun x xs=>putS xs.1 xs.2.1
theorem bufU {te:zn} {x y:List UInt8} (h:x=y):some (OObj.buf te u8 x)=some (OObj.buf te u8 y):=by rw[h]
theorem zov:zaD Tryz.prog gmH 100 cPut:=by
 refine zau (K:=_) zch Tryz.func100 rfl rfl (zcq rfl) Tryz.call100 rfl (zb rfl) (zdG prT [107]) ?_;rintro w0 ⟨G,O,K,fix,D,ρ,B⟩ ty hX hG hK hρ hD hinv ⟨(b:Bool),(bf:List UInt8),(r:List Nd),⟨⟩⟩ ⟨(s:List UInt8),(l:List Int),⟨⟩⟩ hp;obtain rfl:G=gmH:=hG;obtain rfl:K=1:=hK;obtain rfl:ρ=none:=hρ;obtain rfl:D=[]:=hD;have hI:=fun w R hR hw=>(⟨zaJ (ty:=ty) hX rfl hinv.1 (ty':=ty) w R hR hw,hinv.2⟩:bInv prT [107] w R ty);obtain⟨hlen,hnum⟩:bf.length+s.length+19 * l.length≤1000000000∧∀ n∈l,zb4 n:=hp;change AWP _ _ _ _ _ ⟨[(0,⟨.hptr,((0:Nat),(0:Nat))⟩),(1,⟨.str,s⟩),(2,⟨.slice i64,l⟩)],wE ty b bf r,2⟩ (wQ _ cPut ty (.ok ((),(true,((bf++(s++zdE l):List UInt8),(r,()))))));have hl0:bf.length+s.length≤1000000000:=by omega
 refine xz (σ':=⟨[(0,⟨.hptr,((0:Nat),(0:Nat))⟩),(2,⟨.slice i64,l⟩)],wE ty true ((bf++s:List UInt8)) r,2⟩) ?_ ?_
 ·cases b
  all_goals
   refine zai ?_;refine zN 2 hX zch rfl trivial ?_;refine jH (eqP0 _ _ rfl) hX zch rfl trivial ?_;refine yn 1 hX zch zme rfl trivial rfl rfl hl0 hI ?_;exact yg ⟨⟨rfl,rfl,trivial⟩,⟨rfl,rfl,trivial⟩,rfl,rfl⟩
 refine za (za ?_);refine zaa hX zch rfl ?_ ?_
 ·trivial
 apply zac;refine yR (ι:=Nat) (fun i=>⟨[(0,⟨.hptr,((0:Nat),(0:Nat))⟩),(13,⟨.slice i64,l⟩),(14,⟨i64,((l.length:Nat):Int)⟩),(15,⟨i64,(i:Int)⟩)],wE ty true ((bf++s++zdE (l.take i):List UInt8)) r,2⟩) (fun i=>i≤l.length) (fun i=>l.length - i) 0 (zk _) ⟨⟨rfl,rfl,rfl,rfl,trivial⟩,⟨rfl,bufU (by show bf++s=bf++s++ [];rw[zL]),trivial⟩,rfl,rfl⟩ ?_;intro i hi;refine za (za ?_);refine zaa hX zch rfl ?_ ?_
 ·trivial
 apply zae;refine zaf rfl (fun hb=>?_) (fun hb=>?_)
 ·have hb:decide ((i:Int) < ((l.length:Nat):Int))=true:=hb;have hb:=of_decide_eq_true hb;have hil:i < l.length:=by omega
  have n0:(0:Int)≤(i:Int):=by omega
  have hat:l.getD ((i:Int)).toNat 0=l[i]:=za6 hil;have hn:zb4 (l.getD ((i:Int)).toNat 0):=by rw[hat];exact hnum _ (xS hil)
  have hd:=zes hn.1 hn.2;have ht:zg (l.take i)≤i:=by rw[yB];omega
  have hnt:=zbH (l:=l.take i) fun n hm=>hnum n (jz hm);have hbl:zg (bf++s++zdE (l.take i):List UInt8)+zg (32::deI (l.getD ((i:Int)).toNat 0):List UInt8)≤1000000000:=by
   rw[zd,zd,zt];omega
  have hcat:1+zg (deI (l.getD ((i:Int)).toNat 0))≤maxLen:=by unfold maxLen;omega
  apply zab;apply zae;apply zac;refine za (za ?_);refine zaa hX zch rfl ?_ ?_
  ·exact⟨n0,hb⟩
  refine AWP.mono (Q:=fun e sg=>e= .normal∧Fit sg ⟨[(0,⟨.hptr,((0:Nat),(0:Nat))⟩),(13,⟨.slice i64,l⟩),(14,⟨i64,((l.length:Nat):Int)⟩),(15,⟨i64,(i:Int)⟩)],wE ty true ((bf++s++zdE (l.take i)++(32::deI (l.getD ((i:Int)).toNat 0)):List UInt8)) r,2⟩) ?_ ?_
  ·refine jB dM 7 rfl (by kernel_rfl) ?_
   repeat'(first
    |exact AllN.nil
    |refine AllN.cons ⟨_,rfl,?_⟩ ?_
    |refine xg hX zch rfl trivial ?_
    |refine xg hX zch rfl (by exact hn) ?_
    |refine xg hX zch rfl (by exact hcat) ?_
    |refine StepA.step (eqP0 _ _ rfl) hX zch rfl trivial ?_
    |refine StepA.own hX zme rfl (by exact hbl) hI ?_
    |(refine OrdA.last ?_;exact⟨rfl,⟨rfl,rfl,rfl,rfl,trivial⟩,⟨rfl,rfl,trivial⟩,rfl,rfl⟩))
  ·rintro e s' ⟨rfl,hf⟩;have q0:inR .i64 ((i:Int)+1):=zam (by omega) (by omega);refine zap hf ?_ (by exact zb rfl);refine za (za ?_);refine zaa hX zch rfl ?_ ?_
   ·exact q0
   refine⟨i+1,hil,by omega,⟨rfl,rfl,rfl,vI64 (by omega),trivial⟩,⟨rfl,bufU ?_,trivial⟩,rfl,rfl⟩;rw[hat,zO hil,znb, <-zp]
 ·have hb:decide ((i:Int) < ((l.length:Nat):Int))=false:=hb;have hb:=of_decide_eq_false hb;obtain rfl:i=l.length:=by omega
  rw[show (bf++(s++zdE l):List UInt8)=bf++s++zdE (l.take l.length) from by rw[xd,zp]];apply zad;exact⟨.inl rfl,⟨_,rfl,u8,1,_,rfl,rfl,rfl⟩,zbd (by decide) rfl rfl trivial rfl⟩
section
variable {P:zx} {K:Kn} {w0:zj} {X:Ownr} {n:Nat} {σ:AS} {Q:Exit->AS->Prop} {ops:Array Oper}
theorem AWP.drawT {l':List Oper} (heq':OpsI P ops.toList l') (hm:P.follows .mixedOrders=true) (hX:X.Ok w0) (hK:KnOk P X.G K) {id:Nat} (m:Nat) (hB:zko l'.toArray m=true) {r1:List Prop×AS} (h1:zib K n l'.toArray (l'.take m) σ=some r1) (hp1:allP r1.1) {o:Oper} (ho:l'.drop m=[o]) (hgd:o.guard=none)
  (hstep:∀ β a w,Sim w0 X n r1.2 β a w->o.wp P a w (fun a' w'=>∃ σ' β',Sim w0 X n σ' β' a' w'∧Q .normal σ') (fun e a' w'=>e≠ .outgrown∧∃ σ' β',Sim w0 X n σ' β' a' w'∧Q e σ')) (hd:zba ops.toList=true:=by rfl):AWP P w0 X n (.region id ops true) σ Q:=fun β a w h=>by
 have heq:OpsEq P ops.toList l'.toArray.toList:=heq'.eq;have hnl:¬ LetsOut (fun e a' w'=>e≠ .outgrown∧∃ σ' β',Sim w0 X n σ' β' a' w'∧Q e σ'):=fun⟨_,_,h,_⟩=>h rfl;exact Go.wpIn_mono (wpIn_region_any hm (zbQ (R:=fun e a' w'=>e≠ .outgrown∧∃ σ' β',Sim w0 X n σ' β' a' w'∧Q e σ') hnl hd _ (by
  rw[(zi6 heq).1];exact zmH heq hnl _ (zkB hK hX h hB h1 hp1 fun a' w' hs=>by
   rw[show (l'.toArray.toList).drop m=[o] from ho];refine wpList_plain hgd fun K' hK'=>Oper.wp_mono (fun a2 w2 ⟨σ',β',h3,h4⟩=>hK' a2 w2 ⟨(fun h=>by cases h),σ',β',h3,h4⟩) (hstep β a' w' hs))))) fun e a w h=>h.2
theorem AWP.drawOwn {C:List (zP×HCtr)} {l':List Oper} (heq':OpsI P ops.toList l') (hm:P.follows .mixedOrders=true) (hX:X.Ok w0) (hK:KnOk P X.G K) (hC:HsOk P X.G C) {id:Nat} (m:Nat) (hB:zko l'.toArray m=true) {r1:List Prop×AS} (h1:zib K n l'.toArray (l'.take m) σ=some r1) (hp1:allP r1.1) {o:Oper} (ho:l'.drop m=[o]) (hgd:o.guard=none)
  {s:HSite} (hsite:znm C n o r1.2=some s) (hq:allP s.q) (hinv:∀ w R,(∀ g,R g->w0.heap.size≤g∨X.R g)->X.G w->s.c.inv w R s.ty) (h:zlD (fun y x'=>Q .normal (s.next y x')) (fun pv=>Q (.panic [{ v:=pv,recovered:=false }]) s.lost) (s.c.out s.x s.xs)) (hd:zba ops.toList=true:=by rfl):AWP P w0 X n (.region id ops true) σ Q:=
 AWP.drawT heq' hm hX hK m hB h1 hp1 ho hgd (fun β a w hsim=>zjh (N:=fun σ'=>Q .normal σ') hX hC hsite hq hinv h β a w hsim) hd
end
def sepS (i:Nat):List UInt8:=if i=0 then [32,40] else [32]
def litS:Nat->List Int->List UInt8
 |_,[]=>[]
 |i,n::r=>sepS i++deI n++litS (i+1) r
def zbV (l:List Int):List UInt8:=litS 0 l++ [41]
theorem zkd (n:Int):∀ (l:List Int) (i:Nat),litS i (l++ [n])=litS i l++(sepS (i+l.length)++deI n)
 | [],i=>by
  show sepS i++deI n++ []=[]++(sepS (i+0)++deI n);rw[zL];rfl
 |m::l,i=>by
  show sepS i++deI m++litS (i+1) (l++ [n])=sepS i++deI m++litS (i+1) l++_;rw[zkd n l (i+1),zp (sepS i++deI m),zt,show i+1+l.length=i+(l.length+1) by omega]
theorem ziU (i:Nat):(sepS i).length≤2:=by
 unfold sepS;split
 ·exact zl _
 ·exact Nat.le_succ _
theorem zft:∀ (l:List Int) (i:Nat),(∀ n∈l,zb4 n)->(litS i l).length≤20 * l.length
 | [],i,_=>zl _
 |n::l,i,h=>by
  have h1:=zes (h n (yf ..)).1 (h n (yf ..)).2;have h2:=zft l (i+1) fun m hm=>h m (yy _ hm);have h3:=ziU i;show (sepS i++deI n++litS (i+1) l).length≤_;rw[zd,zd,zt];omega
@[reducible] def zmA:HCtr:=hW [ints] (fun x xs=>[zg x.2.1+20 * zg xs.1+1≤1000000000,∀ n∈xs.1,zb4 n]) fun x xs=>zbV xs.1
theorem zl2:zaD Tryz.prog gmH 150 zmA:=by
 refine zau (K:=_) zch Tryz.func150 rfl rfl (zcq rfl) Tryz.call150 rfl (zb rfl) (zdG prT [107]) ?_;rintro w0 ⟨G,O,K,fix,D,ρ,B⟩ ty hX hG hK hρ hD hinv ⟨(b:Bool),(bf:List UInt8),(r:List Nd),⟨⟩⟩ ⟨(l:List Int),⟨⟩⟩ hp;obtain rfl:G=gmH:=hG;obtain rfl:K=1:=hK;obtain rfl:ρ=none:=hρ;obtain rfl:D=[]:=hD;have hI:=fun w R hR hw=>(⟨zaJ (ty:=ty) hX rfl hinv.1 (ty':=ty) w R hR hw,hinv.2⟩:bInv prT [107] w R ty);obtain⟨hlen,hnum⟩:bf.length+20 * l.length+1≤1000000000∧∀ n∈l,zb4 n:=hp;change AWP _ _ _ _ _ ⟨[(0,⟨.hptr,((0:Nat),(0:Nat))⟩),(1,⟨.slice i64,l⟩)],wE ty b bf r,2⟩ (wQ _ zmA ty (.ok ((),(true,((bf++zbV l:List UInt8),(r,()))))));refine za (za ?_);refine zaa hX zch rfl ?_ ?_
 ·trivial
 apply zac;refine yR (ι:=Nat) (fun i=>⟨[(0,⟨.hptr,((0:Nat),(0:Nat))⟩),(6,⟨.slice i64,l⟩),(7,⟨i64,((l.length:Nat):Int)⟩),(8,⟨i64,(i:Int)⟩)],wE ty (b||decide (0 < i)) ((bf++litS 0 (l.take i):List UInt8)) r,2⟩) (fun i=>i≤l.length) (fun i=>l.length - i) 0 (zk _) ⟨⟨rfl,rfl,rfl,rfl,trivial⟩,⟨by cases b<;>rfl,bufU (by show bf=bf++ [];rw[zL]),trivial⟩,rfl,by cases b<;>rfl⟩ ?_;intro i hi;obtain⟨b',hb'⟩:∃ b',b'=(b||decide (0 < i)):=⟨_,rfl⟩;rw[<-hb'];refine za (za ?_);refine zaa hX zch rfl ?_ ?_
 ·trivial
 apply zae;refine zaf rfl (fun hb=>?_) (fun hb=>?_)
 ·have hb:decide ((i:Int) < ((l.length:Nat):Int))=true:=hb;have hb:=of_decide_eq_true hb;have hil:i < l.length:=by omega
  have n0:(0:Int)≤(i:Int):=by omega
  have hat:l.getD ((i:Int)).toNat 0=l[i]:=za6 hil;have hn:zb4 (l.getD ((i:Int)).toNat 0):=by rw[hat];exact hnum _ (xS hil)
  have hd:=zes hn.1 hn.2;have ht:zg (l.take i)=i:=by rw[yB];omega
  have hnt:=zft (l.take i) 0 fun n hm=>hnum n (jz hm);have hs:=ziU i;have hbl:zg (bf++litS 0 (l.take i):List UInt8)+zg (sepS i++deI (l.getD ((i:Int)).toNat 0):List UInt8)≤1000000000:=by
   rw[zd,zd];omega
  apply zab;apply zae;apply zac;refine za (za ?_);refine zaa hX zch rfl ?_ ?_
  ·exact⟨n0,hb⟩
  refine AWP.mono (Q:=fun e sg=>e= .normal∧Fit sg ⟨[(0,⟨.hptr,((0:Nat),(0:Nat))⟩),(6,⟨.slice i64,l⟩),(7,⟨i64,((l.length:Nat):Int)⟩),(8,⟨i64,(i:Int)⟩)],wE ty true ((bf++litS 0 (l.take i)++(sepS i++deI (l.getD ((i:Int)).toNat 0)):List UInt8)) r,2⟩) ?_ ?_
  ·have hsep:([[32,40],[32]]:List (List UInt8)).getD (min (i:Int) 1).toNat []=sepS i:=by
    cases i with
    |zero=>rfl
    |succ k=>
     rw[show min (((k+1:Nat)):Int) 1=1 by omega];rfl
   have m0:(0:Int)≤min (i:Int) 1:=by omega
   have m1:min (i:Int) 1 < ((2:Nat):Int):=by omega
   have m2:(min (i:Int) 1).toNat < 2:=by omega
   have hcat:zg (([[32,40],[32]]:List (List UInt8)).getD (min (i:Int) 1).toNat [])+zg (deI (l.getD ((i:Int)).toNat 0))≤maxLen:=by rw[hsep];unfold maxLen;omega
   have hbl2:zg (bf++litS 0 (l.take i):List UInt8)+zg (([[32,40],[32]]:List (List UInt8)).getD (min (i:Int) 1).toNat []++deI (l.getD ((i:Int)).toNat 0):List UInt8)≤1000000000:=by rw[hsep];exact hbl
   rw[<-hsep];cases b'
   all_goals
    refine AWP.drawOwn (.cons (xA _) <| .cons (xA _) <| .cons (eqP0 _ _ rfl) <| .cons (xA _) <| .cons (xA _) <| .cons (xA _) <| .cons (xA _) <| .cons (xA _) <| .cons (xA _) <| .cons (xA _) <| .cons (xA _) <| .cons (xA _) .nil) dM hX zch zme 11 (by kernel_rfl) rfl ?_ rfl rfl rfl ?_ hI ?_
    ·exact⟨m0,m1,hn,hcat⟩
    ·exact hbl2
    ·exact⟨rfl,⟨rfl,rfl,rfl,rfl,trivial⟩,⟨rfl,rfl,trivial⟩,rfl,rfl⟩
  ·rintro e s' ⟨rfl,hf⟩;have q0:inR .i64 ((i:Int)+1):=zam (by omega) (by omega);have ht1:(b||decide (0 < i+1))=true:=by simp
   refine zap hf ?_ (by exact zb rfl);refine za (za ?_);refine zaa hX zch rfl ?_ ?_
   ·exact q0
   refine⟨i+1,hil,by omega,?_⟩;rw[ht1];refine⟨⟨rfl,rfl,rfl,vI64 (by omega),trivial⟩,⟨rfl,bufU ?_,trivial⟩,rfl,rfl⟩;rw[hat,zO hil,zkd,ht,Nat.zero_add,zp]
 ·have hb:decide ((i:Int) < ((l.length:Nat):Int))=false:=hb;have hb:=of_decide_eq_false hb;obtain rfl:i=l.length:=by omega
  have hnt:=zft (l.take l.length) 0 fun n hm=>hnum n (jz hm);have hlt:=xd (l:=l);rw[hlt]at hnt;have hbl:zg (bf++litS 0 (l.take l.length):List UInt8)+zg ([41]:List UInt8)≤1000000000:=by
   rw[hlt,zd];show bf.length+_+1≤_;omega
  rw[show (bf++zbV l:List UInt8)=bf++litS 0 (l.take l.length)++ [41] from by rw[hlt,zp];rfl];apply zad;cases b'
  all_goals
   show AWP _ _ _ _ _ _ _;refine zai ?_;refine zN 2 hX zch rfl trivial ?_;refine jH (eqP0 _ _ rfl) hX zch rfl trivial ?_;refine yn 0 hX zch zme rfl trivial rfl rfl hbl hI ?_;refine yg ?_;exact⟨.inl rfl,⟨_,rfl,u8,1,_,rfl,rfl,rfl⟩,zbd (by decide) rfl rfl trivial rfl⟩
def wAt:List UInt8:=[64]
def spW (w:List UInt8):List UInt8:=32::w
def ndK (n:Nd):Int:=n.1
def ndC (n:Nd):Int:=n.2.1
def ndL (n:Nd):Int:=n.2.2.1
def ndR (n:Nd):Int:=n.2.2.2.1
def ndN (n:Nd):Int:=n.2.2.2.2.1
def ndM (n:Nd):Int:=n.2.2.2.2.2.1
def ndI (n:Nd):List Int:=n.2.2.2.2.2.2.1
def ndS (n:Nd):List UInt8:=n.2.2.2.2.2.2.2.1
def zcc (n:Nd):List UInt8:=
 if ndK n=1 then putS zjH [ndN n,ndM n]
 else if ndK n=2 then putS zgg [ndC n,ndN n,ndM n]
 else if ndK n=3 then putS zcn [ndC n]++zbV (ndI n)
 else if ndK n=4 then putS za3 [ndC n]++zbV (ndI n)
 else if ndK n=5 then putS zbj []++zbV (ndI n)
 else if ndK n=6 then putS zdh [ndC n]++zbV (ndI n)
 else if ndK n=7 then putS wNth [ndC n,ndN n,ndM n]++putS (zb5 (ndL n)) []
 else if ndK n=18 then putS (wAt++ndS n) []
 else []
def zbA (b:List UInt8) (n:Nd):List UInt8:=
 if ndK n=11 then putS (spW zeP) [ndN n]
 else if ndK n=12 then putS (spW zhU) [ndN n]
 else if ndK n=13 then putS (spW zeO) [ndN n]
 else if ndK n=14 then putS (spW zeX) []++zbV (ndI n)
 else if ndK n=15 then putS (spW zco) []++zbV (ndI n)
 else if ndK n=16 then putS (spW wPos) [ndC n]++(putS (zb5 (ndM n)) []++zbV (ndI n))
 else if ndK n=17 then putS (spW zbD) [ndN n]++(putS (spW wOf++ [32]) []++b)
 else []
def opWd (x:Int):List UInt8:=(opsL.getD (x - 1).toNat ([],0,())).1
def zav (r:List Nd) (i:Int):Nd:=r.getD i.toNat zNd
def parS (c:Bool) (t:List UInt8):List UInt8:=if c then t else [40]++(t++ [41])
def zc0:Nat->List Nd->Int->List UInt8
 |0,_,_=>[]
 |k+1,r,i=>
  if levS (ndK (zav r i)) < 4 then
   parS (decide (levS (ndK (zav r (ndL (zav r i))))≥levS (ndK (zav r i)))) (zc0 k r (ndL (zav r i)))++(putS ([32]++opWd (levS (ndK (zav r i)))++ [32]) []++parS (decide (levS (ndK (zav r (ndR (zav r i))))≥levS (ndK (zav r i))+1)) (zc0 k r (ndR (zav r i))))
  else if levS (ndK (zav r i))=4 then
   parS (decide (levS (ndK (zav r (ndL (zav r i))))≥4)) (zc0 k r (ndL (zav r i)))++zbA (parS (decide (levS (ndK (zav r (ndR (zav r i))))≥5)) (zc0 k r (ndR (zav r i)))) (zav r i)
  else zcc (zav r i)
def opdF (k:Nat) (r:List Nd) (i req:Int):List UInt8:=parS (decide (levS (ndK (zav r i))≥req)) (zc0 k r i)
def zkN (n:Nd):Prop:=(zb4 (ndC n)∧zb4 (ndN n)∧zb4 (ndM n))∧(∀ x∈ndI n,zb4 x)∧(ndI n).length≤100∧(ndS n).length≤100∧(ndK n=7->0≤ndL n∧ndL n≤1)∧(ndK n=16->0≤ndM n∧ndM n≤1)
def idx {α:Type} (f:α->Bool) (l:List α):Int:=if l.findIdx f < l.length then (l.findIdx f:Int) else -1
theorem zmc {α:Type} {f:α->Bool} {l:List α} (h:∀ k (hk:k < l.length),f l[k]=false):idx f l= -1:=by
 unfold idx;rw[if_neg];intro hl;have:=kK (w:=hl);rw[h _ hl]at this;cases this
theorem zmb {α:Type} {f:α->Bool} {l:List α} {k:Nat} (hk:k < l.length) (h:f l[k]=true) (hb:∀ j (hj:j < k),f (l[j]'(Nat.lt_trans hj hk))=false):idx f l=(k:Int):=by
 have:l.findIdx f=k:=by
  rw[List.findIdx_eq hk];exact⟨h,fun j hj=>hb j hj⟩
 unfold idx;rw[this,if_pos hk]
theorem zpj {α:Type} (f:α->Bool) (l:List α):decide (idx f l≥0)=l.any f:=by
 rw[yq,decide_eq_true_iff,List.any_eq_true];unfold idx;constructor
 ·intro h;split at h
  ·rename_i hl;exact⟨l[l.findIdx f],xS hl,kK (w:=hl)⟩
  ·omega
 ·rintro ⟨x,hx,hf⟩;rw[if_pos (List.findIdx_lt_length_of_exists ⟨x,hx,hf⟩)];omega
def inB (n lo hi:Int):Bool:=decide (lo≤n)&&decide (n≤hi)
def zbm:Ctr:={ args:=[i64,i64,i64],pre:=fun _=>[],res:=.bool,own:=none,out:=fun x=>inB x.1 x.2.1 x.2.2.1 }
theorem zjC:yK Tryz.prog gmH 119 zbm:=by
 refine zaq (K:=gmK) zaj Tryz.func119 rfl rfl Tryz.call119 rfl (by decide) (by intro h;cases h) ?_;rintro w0 X hX ⟨(n:Int),(lo:Int),(hi:Int),_⟩ hp;change AWP _ _ _ _ _ ⟨[(0,⟨i64,n⟩),(1,⟨i64,lo⟩),(2,⟨i64,hi⟩)],[],0⟩ _;refine za (za ?_);refine zaa hX zaj rfl ?_ ?_
 ·trivial
 refine za (za ?_);refine zaa hX zaj rfl ?_ ?_
 ·repeat'(first|exact trivial|assumption|(refine⟨?_,?_⟩)|(intro _))
 refine zr ⟨.inr rfl,zaw rfl trivial rfl rfl ?_⟩;show (bif decide (lo≤n) then decide (n≤hi) else false)=inB n lo hi;unfold inB;cases decide (lo≤n)<;>rfl
def not1 (n:Int):Bool:=!(n==1)
def cNot1:Ctr:={ args:=[i64],pre:=fun _=>[],res:=.bool,own:=none,out:=fun x=>not1 x.1 }
theorem zsV:yK Tryz.prog gmH 124 cNot1:=by
 refine zaq (K:=gmK) zaj Tryz.func124 rfl rfl Tryz.call124 rfl (by decide) (by intro h;cases h) ?_;rintro w0 X hX ⟨(n:Int),_⟩ hp;change AWP _ _ _ _ _ ⟨[(0,⟨i64,n⟩)],[],0⟩ _;(repeat(first|apply zae|apply zab|apply zal|apply zad|apply zac|refine zaa hX zaj rfl trivial ?_|refine zaa hX zaj rfl id ?_|refine zaa hX zaj rfl ⟨id,id⟩ ?_));refine zr ⟨.inr rfl,zaw rfl trivial rfl rfl ?_⟩;rfl
def bigN (n:Nd):Bool:=decide (((n.2.2.2.2.2.2.1.length:Nat):Int) > 64)||decide (((n.2.2.2.2.2.2.2.1.length:Nat):Int) > 32)
def cBigN:Ctr:={ args:=[nd],pre:=fun _=>[],res:=.bool,own:=none,out:=fun x=>bigN x.1 }
theorem zt1:yK Tryz.prog gmH 70 cBigN:=by
 refine zaq (K:=gmK) zaj Tryz.func70 rfl rfl Tryz.call70 rfl (by decide) (by intro h;cases h) ?_;rintro w0 X hX ⟨(n:Nd),_⟩ hp;change AWP _ _ _ _ _ ⟨[(0,⟨nd,n⟩)],[],0⟩ _;refine za (za ?_);refine zaa hX zaj rfl ?_ ?_
 ·trivial
 refine za (za ?_);refine zaa hX zaj rfl ?_ ?_
 ·repeat'(first|exact trivial|assumption|(refine⟨?_,?_⟩)|(intro _))
 refine zr ⟨.inr rfl,zaw rfl trivial rfl rfl ?_⟩;show (bif decide (((n.2.2.2.2.2.2.1.length:Nat):Int) > 64) then true else decide (((n.2.2.2.2.2.2.2.1.length:Nat):Int) > 32))=bigN n;unfold bigN;cases decide (((n.2.2.2.2.2.2.1.length:Nat):Int) > 64)<;>rfl
def litN:zh:=.func (.func 70) #[] #[]
def litU:zh:=.func (.func 124) #[] #[]
def cIdxR:Ctr:={ args:=[.slice nd,.lit],pre:=fun x=>[x.2.1=litN],res:=i64,own:=none,out:=fun x=>idx bigN x.1 }
def kIdxR:Kn:={ gmK with C:=[(70,cBigN)] }
theorem zb1:KnOk Tryz.prog gmH kIdxR:=zaj.with (.cons zt1 .nil)
theorem ztj:yK Tryz.prog gmH 118 cIdxR:=by
 refine zaq (K:=kIdxR) zb1 Tryz.func118 rfl rfl Tryz.call118 rfl (by decide) (by intro h;cases h) ?_;rintro w0 X hX ⟨(l:List Nd),(f:zh),_⟩ hp;obtain rfl:f=litN:=hp;change AWP _ _ _ _ _ ⟨[(0,⟨.slice nd,l⟩),(1,⟨.lit,litN⟩)],[],0⟩ _;refine AWP.len 0 rfl fun hl=>?_;unfold maxLen at hl;(repeat(first|apply zae|apply zab|apply zal|apply zad|apply zac|refine zaa hX zb1 rfl trivial ?_|refine zaa hX zb1 rfl id ?_|refine zaa hX zb1 rfl ⟨id,id⟩ ?_));refine yR (ι:=Nat) (fun k=>⟨[(0,⟨.slice nd,l⟩),(1,⟨.lit,litN⟩),(7,⟨i64,((l.length:Nat):Int)⟩),(8,⟨i64,(k:Int)⟩)],[],0⟩) (fun k=>k≤l.length∧∀ j (hj:j < l.length),j < k->bigN l[j]=false) (fun k=>l.length - k) 0 ⟨by omega,by omega⟩ ⟨⟨rfl,rfl,rfl,rfl,trivial⟩,trivial,rfl,rfl⟩ ?_;rintro k ⟨hk,hn⟩;refine za (za ?_);refine zaa hX zb1 rfl ?_ ?_
 ·trivial
 apply zae;refine zaf rfl (fun hb=>?_) (fun hb=>?_)
 ·have hb:decide ((k:Int) < (l.length:Nat))=true:=hb;have hb:=of_decide_eq_true hb;have hlt:k < l.length:=by omega
  have n0:(0:Int)≤(k:Int):=by omega
  refine za (za ?_);refine zaa hX zb1 rfl ?_ ?_
  ·trivial
  refine za (za ?_);refine zaa hX zb1 rfl ?_ ?_
  ·exact⟨n0,hb⟩
  refine zaf rfl (fun hb=>?_) (fun hb=>?_)
  ·have hc:bigN (l.getD (k:Int).toNat zNd)=true:=hb;rw[za6 hlt]at hc;(repeat(first|apply zae|apply zab|apply zal|apply zad|apply zac|refine zaa hX zb1 rfl trivial ?_|refine zaa hX zb1 rfl id ?_|refine zaa hX zb1 rfl ⟨id,id⟩ ?_));refine zr ⟨.inr rfl,zaw rfl trivial rfl rfl ?_⟩;show (k:Int)=idx _ l;exact (zmb hlt hc fun j hj=>hn j _ hj).symm
  ·have hc:bigN (l.getD (k:Int).toNat zNd)=false:=hb;rw[za6 hlt]at hc;refine za (za ?_);refine zaa hX zb1 rfl ?_ ?_
   ·exact za0 (by omega)
   exact⟨k+1,⟨by omega,fun j hj hlt=>by
    by_cases e:j=k
    ·subst e;exact hc
    ·exact hn j hj (by omega)⟩,by omega,⟨rfl,rfl,rfl,zdT _,trivial⟩,trivial,rfl,rfl⟩
 ·have hb:decide ((k:Int) < (l.length:Nat))=false:=hb;have hb:=of_decide_eq_false hb;have:k=l.length:=by omega
  subst this;(repeat(first|apply zae|apply zab|apply zal|apply zad|apply zac|refine zaa hX zb1 rfl trivial ?_|refine zaa hX zb1 rfl id ?_|refine zaa hX zb1 rfl ⟨id,id⟩ ?_));refine zr ⟨.inr rfl,zaw rfl trivial rfl rfl ?_⟩;show (-1:Int)=idx _ l;exact (zmc fun j hj=>hn j hj hj).symm
def cAnyR:Ctr:={ args:=[.slice nd,.lit],pre:=fun x=>[x.2.1=litN],res:=.bool,own:=none,out:=fun x=>List.any x.1 bigN }
def kAnyR:Kn:={ gmK with C:=[(118,cIdxR)] }
theorem zfw:KnOk Tryz.prog gmH kAnyR:=zaj.with (.cons ztj .nil)
theorem zt7:yK Tryz.prog gmH 71 cAnyR:=by
 refine zaq (K:=kAnyR) zfw Tryz.func71 rfl rfl Tryz.call71 rfl (by decide) (by intro h;cases h) ?_;rintro w0 X hX ⟨(l:List Nd),(f:zh),_⟩ hp;obtain rfl:f=litN:=hp;change AWP _ _ _ _ _ ⟨[(0,⟨.slice nd,l⟩),(1,⟨.lit,litN⟩)],[],0⟩ _;(repeat(first|apply zae|apply zab|apply zal|apply zad|apply zac|refine zaa hX zfw rfl trivial ?_|refine zaa hX zfw rfl id ?_|refine zaa hX zfw rfl ⟨id,id⟩ ?_));refine za (za ?_);refine zaa hX zfw rfl ?_ ?_
 ·exact rfl
 refine zr ⟨.inr rfl,zaw rfl trivial rfl rfl ?_⟩;exact zpj _ l
def cIdxU:Ctr:={ args:=[.slice i64,.lit],pre:=fun x=>[x.2.1=litU],res:=i64,own:=none,out:=fun x=>idx not1 x.1 }
def kIdxU:Kn:={ gmK with C:=[(124,cNot1)] }
theorem zb0:KnOk Tryz.prog gmH kIdxU:=zaj.with (.cons zsV .nil)
theorem zti:yK Tryz.prog gmH 157 cIdxU:=by
 refine zaq (K:=kIdxU) zb0 Tryz.func157 rfl rfl Tryz.call157 rfl (by decide) (by intro h;cases h) ?_;rintro w0 X hX ⟨(l:List Int),(f:zh),_⟩ hp;obtain rfl:f=litU:=hp;change AWP _ _ _ _ _ ⟨[(0,⟨.slice i64,l⟩),(1,⟨.lit,litU⟩)],[],0⟩ _;refine AWP.len 0 rfl fun hl=>?_;unfold maxLen at hl;(repeat(first|apply zae|apply zab|apply zal|apply zad|apply zac|refine zaa hX zb0 rfl trivial ?_|refine zaa hX zb0 rfl id ?_|refine zaa hX zb0 rfl ⟨id,id⟩ ?_));refine yR (ι:=Nat) (fun k=>⟨[(0,⟨.slice i64,l⟩),(1,⟨.lit,litU⟩),(7,⟨i64,((l.length:Nat):Int)⟩),(8,⟨i64,(k:Int)⟩)],[],0⟩) (fun k=>k≤l.length∧∀ j (hj:j < l.length),j < k->not1 l[j]=false) (fun k=>l.length - k) 0 ⟨by omega,by omega⟩ ⟨⟨rfl,rfl,rfl,rfl,trivial⟩,trivial,rfl,rfl⟩ ?_;rintro k ⟨hk,hn⟩;refine za (za ?_);refine zaa hX zb0 rfl ?_ ?_
 ·trivial
 apply zae;refine zaf rfl (fun hb=>?_) (fun hb=>?_)
 ·have hb:decide ((k:Int) < (l.length:Nat))=true:=hb;have hb:=of_decide_eq_true hb;have hlt:k < l.length:=by omega
  have n0:(0:Int)≤(k:Int):=by omega
  refine za (za ?_);refine zaa hX zb0 rfl ?_ ?_
  ·trivial
  refine za (za ?_);refine zaa hX zb0 rfl ?_ ?_
  ·exact⟨n0,hb⟩
  refine zaf rfl (fun hb=>?_) (fun hb=>?_)
  ·have hc:not1 (l.getD (k:Int).toNat (0:Int))=true:=hb;rw[za6 hlt]at hc;(repeat(first|apply zae|apply zab|apply zal|apply zad|apply zac|refine zaa hX zb0 rfl trivial ?_|refine zaa hX zb0 rfl id ?_|refine zaa hX zb0 rfl ⟨id,id⟩ ?_));refine zr ⟨.inr rfl,zaw rfl trivial rfl rfl ?_⟩;show (k:Int)=idx _ l;exact (zmb hlt hc fun j hj=>hn j _ hj).symm
  ·have hc:not1 (l.getD (k:Int).toNat (0:Int))=false:=hb;rw[za6 hlt]at hc;refine za (za ?_);refine zaa hX zb0 rfl ?_ ?_
   ·exact za0 (by omega)
   exact⟨k+1,⟨by omega,fun j hj hlt=>by
    by_cases e:j=k
    ·subst e;exact hc
    ·exact hn j hj (by omega)⟩,by omega,⟨rfl,rfl,rfl,zdT _,trivial⟩,trivial,rfl,rfl⟩
 ·have hb:decide ((k:Int) < (l.length:Nat))=false:=hb;have hb:=of_decide_eq_false hb;have:k=l.length:=by omega
  subst this;(repeat(first|apply zae|apply zab|apply zal|apply zad|apply zac|refine zaa hX zb0 rfl trivial ?_|refine zaa hX zb0 rfl id ?_|refine zaa hX zb0 rfl ⟨id,id⟩ ?_));refine zr ⟨.inr rfl,zaw rfl trivial rfl rfl ?_⟩;show (-1:Int)=idx _ l;exact (zmc fun j hj=>hn j hj hj).symm
def cAnyU:Ctr:={ args:=[.slice i64,.lit],pre:=fun x=>[x.2.1=litU],res:=.bool,own:=none,out:=fun x=>List.any x.1 not1 }
def kAnyU:Kn:={ gmK with C:=[(157,cIdxU)] }
theorem zfv:KnOk Tryz.prog gmH kAnyU:=zaj.with (.cons zti .nil)
theorem zt6:yK Tryz.prog gmH 123 cAnyU:=by
 refine zaq (K:=kAnyU) zfv Tryz.func123 rfl rfl Tryz.call123 rfl (by decide) (by intro h;cases h) ?_;rintro w0 X hX ⟨(l:List Int),(f:zh),_⟩ hp;obtain rfl:f=litU:=hp;change AWP _ _ _ _ _ ⟨[(0,⟨.slice i64,l⟩),(1,⟨.lit,litU⟩)],[],0⟩ _;(repeat(first|apply zae|apply zab|apply zal|apply zad|apply zac|refine zaa hX zfv rfl trivial ?_|refine zaa hX zfv rfl id ?_|refine zaa hX zfv rfl ⟨id,id⟩ ?_));refine za (za ?_);refine zaa hX zfv rfl ?_ ?_
 ·exact rfl
 refine zr ⟨.inr rfl,zaw rfl trivial rfl rfl ?_⟩;exact zpj _ l
def zhj (b:Int×Int×Unit):Bool:=b.1==0&&b.2.1==0
def zhP (l:List Int) (b:Int×Int×Unit) (i:Nat):Bool:=!inB (l.getD i 0) b.1 b.2.1||(decide (0 < i)&&decide (l.getD i 0≤l.getD (i - 1) 0))||(l.getD i 0==0&&decide (b.1 < 0))
def zaS (l:List Int) (b:Int×Int×Unit):Bool:=bif zhj b then ((l.length:Nat):Int)==0 else (xE l.length).all (fun i=>!zhP l b i)&&decide (((l.length:Nat):Int) > 0)
theorem zlY (b:Int×Int×Unit):eqb lims b (0,0,())=zhj b:=by
 obtain⟨x,y,⟨⟩⟩:=b;unfold zhj;rw[yq,zbx,zf,beq_iff_eq,beq_iff_eq];exact⟨fun h=>⟨congrArg (fun z=>z.1) h,congrArg (fun z=>z.2.1) h⟩,fun⟨h1,h2⟩=>by
  have h1:x=0:=h1;have h2:y=0:=h2;rw[h1,h2]⟩
def zpM:Ctr:={ args:=[ints,lims],pre:=fun _=>[],res:=.bool,own:=none,out:=fun x=>zaS x.1 x.2.1 }
def kVl:Kn:={ gmK with C:=[(119,zbm)] }
theorem za1:KnOk Tryz.prog gmH kVl:=zaj.with (.cons zjC .nil)
theorem zoT:yK Tryz.prog gmH 121 zpM:=by
 refine zaq (K:=kVl) za1 Tryz.func121 rfl rfl Tryz.call121 rfl (by decide) (by intro h;cases h) ?_;rintro w0 X hX ⟨(l:List Int),(b:Int×Int×Unit),_⟩ hp;change AWP _ _ _ _ _ ⟨[(0,⟨ints,l⟩),(1,⟨lims,b⟩)],[],0⟩ _;refine AWP.len 0 rfl fun hl=>?_;unfold maxLen at hl;apply zae;refine za (za ?_);refine zaa hX za1 rfl ?_ ?_
 ·trivial
 refine za (za ?_);refine zaa hX za1 rfl ?_ ?_
 ·trivial
 refine zaf rfl (fun hb=>?_) (fun hb=>?_)
 ·have hb:zhj b=true:=by rw[<-zlY];exact hb
  (repeat(first|apply zae|apply zab|apply zal|apply zad|apply zac|refine zaa hX za1 rfl trivial ?_|refine zaa hX za1 rfl id ?_|refine zaa hX za1 rfl ⟨id,id⟩ ?_));refine zr ⟨.inr rfl,zaw rfl trivial rfl rfl ?_⟩;show _=zaS l b;unfold zaS;rw[hb];rfl
 have hb:zhj b=false:=by rw[<-zlY];exact hb
 (repeat(first|apply zae|apply zab|apply zal|apply zad|apply zac|refine zaa hX za1 rfl trivial ?_|refine zaa hX za1 rfl id ?_|refine zaa hX za1 rfl ⟨id,id⟩ ?_));refine yR (ι:=Nat) (fun k=>⟨[(0,⟨ints,l⟩),(3,⟨.optr lims,⟨0,lims,.here⟩⟩),(13,⟨ints,l⟩),(14,⟨i64,((l.length:Nat):Int)⟩),(15,⟨i64,(k:Int)⟩)],[(0,some (.box lims b))],1⟩) (fun k=>k≤l.length∧∀ j,j < k->zhP l b j=false) (fun k=>l.length - k) 0 ⟨by omega,by omega⟩ ⟨⟨rfl,rfl,rfl,rfl,rfl,trivial⟩,⟨rfl,trivial⟩,rfl,rfl⟩ ?_;rintro k ⟨hk,hn⟩;refine za (za ?_);refine zaa hX za1 rfl ?_ ?_
 ·trivial
 apply zae;refine zaf rfl (fun hb=>?_) (fun hb=>?_)
 ·have hb:decide ((k:Int) < (l.length:Nat))=true:=hb;have hb:=of_decide_eq_true hb;have hlt:k < l.length:=by omega
  have n0:(0:Int)≤(k:Int):=by omega
  refine za (za ?_);refine zaa hX za1 rfl ?_ ?_
  ·exact⟨n0,hb⟩
  refine za (za ?_);refine zaa hX za1 rfl ?_ ?_
  ·have i1:inR .i64 ((k:Int) - 1):=zam (by omega) (by omega);have i2:(k:Int) - 1 < (l.length:Nat):=by omega
   have i3:decide ((k:Int) > 0)=true->0≤(k:Int) - 1:=fun h=>by have:=of_decide_eq_true h;omega
   cases zbm.out (l.getD ((k:Int)).toNat (za8 i64),b.fst,b.snd.fst,())<;>cases hD:decide ((k:Int) > 0)<;>cases (l.getD ((k:Int)).toNat (za8 i64)==0)<;>cases decide (l.getD ((k:Int)).toNat (za8 i64)≤l.getD ((k:Int) - 1).toNat (za8 i64))
   all_goals
    repeat'(first|exact trivial|assumption|exact i3 hD|rfl|(intro h;exact absurd h yO)|(refine⟨?_,?_⟩)|(intro _))
  have hq:decide ((k:Int) > 0)=decide (0 < k):=by rw[yq,decide_eq_true_iff,decide_eq_true_iff];omega
  have hq':((k:Int) - 1).toNat=k - 1:=by omega
  refine zaf rfl (fun hb=>?_) (fun hb=>?_)
  ·have hc:zhP l b k=true:=by
    rw[<-hb];unfold zhP;rw[<-hq, <-hq'];show (!zbm.out (l.getD ((k:Int)).toNat (za8 i64),b.fst,b.snd.fst,())||(decide ((k:Int) > 0)&&decide (l.getD ((k:Int)).toNat (za8 i64)≤l.getD ((k:Int) - 1).toNat (za8 i64)))||((l.getD ((k:Int)).toNat (za8 i64)==0)&&decide (b.1 < 0)))=_;cases zbm.out (l.getD ((k:Int)).toNat (za8 i64),b.fst,b.snd.fst,())<;>cases hD:decide ((k:Int) > 0)<;>cases (l.getD ((k:Int)).toNat (za8 i64)==0)<;>cases decide (l.getD ((k:Int)).toNat (za8 i64)≤l.getD ((k:Int) - 1).toNat (za8 i64))<;>cases decide (b.1 < 0)<;>rfl
   (repeat(first|apply zae|apply zab|apply zal|apply zad|apply zac|refine zaa hX za1 rfl trivial ?_|refine zaa hX za1 rfl id ?_|refine zaa hX za1 rfl ⟨id,id⟩ ?_));refine zr ⟨.inr rfl,zaw rfl trivial rfl rfl ?_⟩;show false=zaS l b;unfold zaS;rw[‹zhj b=false›,show (xE l.length).all (fun i=>!zhP l b i)=false from ?_]
   ·rfl
   ·rw[qX];intro ha;have:=zZ.1 ha k (List.mem_range.2 hlt);rw[hc]at this;cases this
  ·have hc:zhP l b k=false:=by
    rw[<-hb];unfold zhP;rw[<-hq, <-hq'];show (!zbm.out (l.getD ((k:Int)).toNat (za8 i64),b.fst,b.snd.fst,())||(decide ((k:Int) > 0)&&decide (l.getD ((k:Int)).toNat (za8 i64)≤l.getD ((k:Int) - 1).toNat (za8 i64)))||((l.getD ((k:Int)).toNat (za8 i64)==0)&&decide (b.1 < 0)))=_;cases zbm.out (l.getD ((k:Int)).toNat (za8 i64),b.fst,b.snd.fst,())<;>cases hD:decide ((k:Int) > 0)<;>cases (l.getD ((k:Int)).toNat (za8 i64)==0)<;>cases decide (l.getD ((k:Int)).toNat (za8 i64)≤l.getD ((k:Int) - 1).toNat (za8 i64))<;>cases decide (b.1 < 0)<;>rfl
   refine za (za ?_);refine zaa hX za1 rfl ?_ ?_
   ·exact za0 (by omega)
   exact⟨k+1,⟨by omega,fun j hj=>by
    by_cases e:j=k
    ·subst e;exact hc
    ·exact hn j (by omega)⟩,by omega,⟨rfl,rfl,rfl,rfl,zdT _,trivial⟩,⟨rfl,trivial⟩,rfl,rfl⟩
 ·have hb:decide ((k:Int) < (l.length:Nat))=false:=hb;have hb:=of_decide_eq_false hb;have:k=l.length:=by omega
  subst this;(repeat(first|apply zae|apply zab|apply zal|apply zad|apply zac|refine zaa hX za1 rfl trivial ?_|refine zaa hX za1 rfl id ?_|refine zaa hX za1 rfl ⟨id,id⟩ ?_));refine zr ⟨.inr rfl,zaw rfl trivial rfl rfl ?_⟩;show _=zaS l b;unfold zaS;rw[‹zhj b=false›,show (xE l.length).all (fun i=>!zhP l b i)=true from zZ.2 fun i hi=>by rw[hn i (List.mem_range.1 hi)];rfl];rfl
def zcY (n:Nd):Bool:=
 bif n.1==1 then bif inB n.2.2.2.2.1 1 1099511627776 then inB n.2.2.2.2.2.1 0 1099511627776 else false
 else bif n.1==2 then bif inB n.2.2.2.2.1 1 400 then inB n.2.2.2.2.2.1 0 (n.2.2.2.2.1 - 1) else false
 else bif n.1==7 then bif (bif (bif inB n.2.2.2.2.1 (-60) 60 then !(n.2.2.2.2.1==0) else false) then inB n.2.2.2.2.2.1 0 6 else false) then inB n.2.2.1 0 1 else false
 else bif n.1==11 then bif inB n.2.2.2.2.1 (-1099511627776) 1099511627776 then n.2.2.2.2.2.1==0 else false
 else bif (n.1==12)||(n.1==13) then bif inB n.2.2.2.2.1 0 1099511627776 then n.2.2.2.2.2.1==0 else false
 else bif n.1==16 then bif n.2.2.2.2.1==0 then inB n.2.2.2.2.2.1 0 1 else false
 else bif n.1==17 then bif inB n.2.2.2.2.1 1 400 then n.2.2.2.2.2.1==0 else false
 else bif n.2.2.2.2.1==0 then n.2.2.2.2.2.1==0 else false
def cNumb:Ctr:={ args:=[nd],pre:=fun _=>[],res:=.bool,own:=none,out:=fun x=>zcY x.1 }
theorem zsT:yK Tryz.prog gmH 122 cNumb:=by
 refine zaq (K:=kVl) za1 Tryz.func122 rfl rfl Tryz.call122 rfl (by decide) (by intro h;cases h) ?_;rintro w0 X hX ⟨(n:Nd),_⟩ hp;change AWP _ _ _ _ _ ⟨[(0,⟨nd,n⟩)],[],0⟩ _;apply zae;refine za (za ?_);refine zaa hX za1 rfl ?_ ?_
 ·trivial
 refine za (za ?_);refine zaa hX za1 rfl ?_ ?_
 ·trivial
 refine za (za ?_);refine zaa hX za1 rfl ?_ ?_
 ·trivial
 refine zaf rfl (fun h1=>?_) (fun h1=>?_)
 ·have h1:(n.1==1)=true:=h1;refine za (za ?_);refine zaa hX za1 rfl ?_ ?_
  ·have i0:zbm.out (n.2.2.2.2.1,(1:Int),(400:Int),())=true->inR .i64 (n.2.2.2.2.1 - 1):=fun h=>by
    have h:inB n.2.2.2.2.1 1 400=true:=h;unfold inB at h;rw[zf,decide_eq_true_iff,decide_eq_true_iff]at h;exact zam (by omega) (by omega)
   cases hA:zbm.out (n.2.2.2.2.1,(1:Int),(1099511627776:Int),())
   all_goals
    repeat'(first|exact trivial|assumption|rfl|exact i0 rfl|exact i0 hA|(intro h;exact absurd h yO)|(refine⟨?_,?_⟩)|(intro _))
  refine zr ⟨.inr rfl,zaw rfl trivial rfl rfl ?_⟩;show _=zcY n;simp only[zcY,h1,cond_true,cond_false,qh,qz,qg,xK]
  all_goals (first|rfl|(simp;done))
 have h1:(n.1==1)=false:=h1;refine za (za ?_);refine zaa hX za1 rfl ?_ ?_
 ·trivial
 refine zaf rfl (fun h2=>?_) (fun h2=>?_)
 ·have h2:(n.1==2)=true:=h2;refine za (za ?_);refine zaa hX za1 rfl ?_ ?_
  ·have i0:zbm.out (n.2.2.2.2.1,(1:Int),(400:Int),())=true->inR .i64 (n.2.2.2.2.1 - 1):=fun h=>by
    have h:inB n.2.2.2.2.1 1 400=true:=h;unfold inB at h;rw[zf,decide_eq_true_iff,decide_eq_true_iff]at h;exact zam (by omega) (by omega)
   cases hA:zbm.out (n.2.2.2.2.1,(1:Int),(400:Int),())
   all_goals
    repeat'(first|exact trivial|assumption|rfl|exact i0 rfl|exact i0 hA|(intro h;exact absurd h yO)|(refine⟨?_,?_⟩)|(intro _))
  refine zr ⟨.inr rfl,zaw rfl trivial rfl rfl ?_⟩;show _=zcY n;simp only[zcY,h1,h2,cond_true,cond_false,qh,qz,qg,xK]
  all_goals (first|rfl|(simp;done))
 have h2:(n.1==2)=false:=h2;refine za (za ?_);refine zaa hX za1 rfl ?_ ?_
 ·trivial
 refine zaf rfl (fun h7=>?_) (fun h7=>?_)
 ·have h7:(n.1==7)=true:=h7;refine za (za ?_);refine zaa hX za1 rfl ?_ ?_
  ·have i0:zbm.out (n.2.2.2.2.1,(1:Int),(400:Int),())=true->inR .i64 (n.2.2.2.2.1 - 1):=fun h=>by
    have h:inB n.2.2.2.2.1 1 400=true:=h;unfold inB at h;rw[zf,decide_eq_true_iff,decide_eq_true_iff]at h;exact zam (by omega) (by omega)
   cases hA:zbm.out (n.2.2.2.2.1,(-60:Int),(60:Int),())<;>cases (n.2.2.2.2.1==0)<;>cases zbm.out (n.2.2.2.2.2.1,(0:Int),(6:Int),())
   all_goals
    repeat'(first|exact trivial|assumption|rfl|exact i0 rfl|exact i0 hA|(intro h;exact absurd h yO)|(refine⟨?_,?_⟩)|(intro _))
  refine zr ⟨.inr rfl,zaw rfl trivial rfl rfl ?_⟩;show _=zcY n;simp only[zcY,h1,h2,h7,cond_true,cond_false,qh,qz,qg,xK]
  all_goals (first|rfl|(simp;done))
 have h7:(n.1==7)=false:=h7;refine za (za ?_);refine zaa hX za1 rfl ?_ ?_
 ·trivial
 refine zaf rfl (fun h11=>?_) (fun h11=>?_)
 ·have h11:(n.1==11)=true:=h11;refine za (za ?_);refine zaa hX za1 rfl ?_ ?_
  ·have i0:zbm.out (n.2.2.2.2.1,(1:Int),(400:Int),())=true->inR .i64 (n.2.2.2.2.1 - 1):=fun h=>by
    have h:inB n.2.2.2.2.1 1 400=true:=h;unfold inB at h;rw[zf,decide_eq_true_iff,decide_eq_true_iff]at h;exact zam (by omega) (by omega)
   cases hA:zbm.out (n.2.2.2.2.1,(-1099511627776:Int),(1099511627776:Int),())
   all_goals
    repeat'(first|exact trivial|assumption|rfl|exact i0 rfl|exact i0 hA|(intro h;exact absurd h yO)|(refine⟨?_,?_⟩)|(intro _))
  refine zr ⟨.inr rfl,zaw rfl trivial rfl rfl ?_⟩;show _=zcY n;simp only[zcY,h1,h2,h7,h11,cond_true,cond_false,qh,qz,qg,xK]
  all_goals (first|rfl|(simp;done))
 have h11:(n.1==11)=false:=h11;refine za (za ?_);refine zaa hX za1 rfl ?_ ?_
 ·trivial
 refine qY (σ':=⟨[(1,⟨.optr nd,⟨0,nd,.here⟩⟩),(4,⟨i64,n.1⟩),(58,⟨.bool,(n.1==12)||(n.1==13)⟩)],[(0,some (.box nd n))],1⟩) ?_ ?_
 ·refine zaf rfl (fun h=>?_) (fun h=>?_)
  ·have h:(n.1==12)=true:=h;apply zab;rw[h];exact⟨⟨rfl,rfl,rfl,trivial⟩,⟨rfl,trivial⟩,rfl,rfl⟩
  ·have h:(n.1==12)=false:=h;refine za (za ?_);refine zaa hX za1 rfl ?_ ?_
   ·trivial
   rw[h];exact⟨⟨rfl,rfl,rfl,trivial⟩,⟨rfl,trivial⟩,rfl,rfl⟩
 refine zaf rfl (fun h12=>?_) (fun h12=>?_)
 ·have h12:((n.1==12)||(n.1==13))=true:=h12;refine za (za ?_);refine zaa hX za1 rfl ?_ ?_
  ·have i0:zbm.out (n.2.2.2.2.1,(1:Int),(400:Int),())=true->inR .i64 (n.2.2.2.2.1 - 1):=fun h=>by
    have h:inB n.2.2.2.2.1 1 400=true:=h;unfold inB at h;rw[zf,decide_eq_true_iff,decide_eq_true_iff]at h;exact zam (by omega) (by omega)
   cases hA:zbm.out (n.2.2.2.2.1,(0:Int),(1099511627776:Int),())
   all_goals
    repeat'(first|exact trivial|assumption|rfl|exact i0 rfl|exact i0 hA|(intro h;exact absurd h yO)|(refine⟨?_,?_⟩)|(intro _))
  refine zr ⟨.inr rfl,zaw rfl trivial rfl rfl ?_⟩;show _=zcY n;simp only[zcY,h1,h2,h7,h11,h12,cond_true,cond_false,qh,qz,qg,xK]
  all_goals (first|rfl|(simp;done))
 have h12:((n.1==12)||(n.1==13))=false:=h12;refine za (za ?_);refine zaa hX za1 rfl ?_ ?_
 ·trivial
 refine zaf rfl (fun h16=>?_) (fun h16=>?_)
 ·have h16:(n.1==16)=true:=h16;refine za (za ?_);refine zaa hX za1 rfl ?_ ?_
  ·have i0:zbm.out (n.2.2.2.2.1,(1:Int),(400:Int),())=true->inR .i64 (n.2.2.2.2.1 - 1):=fun h=>by
    have h:inB n.2.2.2.2.1 1 400=true:=h;unfold inB at h;rw[zf,decide_eq_true_iff,decide_eq_true_iff]at h;exact zam (by omega) (by omega)
   cases hA:(n.2.2.2.2.1==0)
   all_goals
    repeat'(first|exact trivial|assumption|rfl|exact i0 rfl|exact i0 hA|(intro h;exact absurd h yO)|(refine⟨?_,?_⟩)|(intro _))
  refine zr ⟨.inr rfl,zaw rfl trivial rfl rfl ?_⟩;show _=zcY n;simp only[zcY,h1,h2,h7,h11,h12,h16,cond_true,cond_false,qh,qz,qg,xK]
  all_goals (first|rfl|(simp;done))
 have h16:(n.1==16)=false:=h16;refine za (za ?_);refine zaa hX za1 rfl ?_ ?_
 ·trivial
 refine zaf rfl (fun h17=>?_) (fun h17=>?_)
 ·have h17:(n.1==17)=true:=h17;refine za (za ?_);refine zaa hX za1 rfl ?_ ?_
  ·have i0:zbm.out (n.2.2.2.2.1,(1:Int),(400:Int),())=true->inR .i64 (n.2.2.2.2.1 - 1):=fun h=>by
    have h:inB n.2.2.2.2.1 1 400=true:=h;unfold inB at h;rw[zf,decide_eq_true_iff,decide_eq_true_iff]at h;exact zam (by omega) (by omega)
   cases hA:zbm.out (n.2.2.2.2.1,(1:Int),(400:Int),())
   all_goals
    repeat'(first|exact trivial|assumption|rfl|exact i0 rfl|exact i0 hA|(intro h;exact absurd h yO)|(refine⟨?_,?_⟩)|(intro _))
  refine zr ⟨.inr rfl,zaw rfl trivial rfl rfl ?_⟩;show _=zcY n;simp only[zcY,h1,h2,h7,h11,h12,h16,h17,cond_true,cond_false,qh,qz,qg,xK]
  all_goals (first|rfl|(simp;done))
 have h17:(n.1==17)=false:=h17;apply zab;refine za (za ?_);refine zaa hX za1 rfl ?_ ?_
 ·have i0:zbm.out (n.2.2.2.2.1,(1:Int),(400:Int),())=true->inR .i64 (n.2.2.2.2.1 - 1):=fun h=>by
   have h:inB n.2.2.2.2.1 1 400=true:=h;unfold inB at h;rw[zf,decide_eq_true_iff,decide_eq_true_iff]at h;exact zam (by omega) (by omega)
  cases hA:(n.2.2.2.2.1==0)
  all_goals
   repeat'(first|exact trivial|assumption|rfl|exact i0 rfl|exact i0 hA|(intro h;exact absurd h yO)|(refine⟨?_,?_⟩)|(intro _))
 refine zr ⟨.inr rfl,zaw rfl trivial rfl rfl ?_⟩;show _=zcY n;simp only[zcY,h1,h2,h7,h11,h12,h16,h17,cond_true,cond_false,qh,qz,qg,xK]
 all_goals (first|rfl|(simp;done))
abbrev Shp:=Int×Bool×(Int×Int×Unit)×Unit
def zce:List Shp:=[(0,false,(0,0,()),()),(0,false,(0,0,()),()),(0,true,(0,0,()),()),(0,true,(1,16,()),()),(0,true,(-40,40,()),()),(0,false,(0,6,()),()),(0,true,(1,54,()),()),(0,true,(0,0,()),()),(2,false,(0,0,()),()),(2,false,(0,0,()),()),(2,false,(0,0,()),()),(1,false,(0,0,()),()),(1,false,(0,0,()),()),(1,false,(0,0,()),()),(1,false,(0,1099511627776,()),()),(1,false,(0,1099511627776,()),()),(1,true,(-400,400,()),()),(2,false,(0,0,()),()),(0,false,(0,0,()),())]
def zhJ:Ctr:={ args:=[],pre:=fun _=>[],res:=.arr 19 shp,own:=none,out:=fun _=>zce }
set_option maxHeartbeats 400000 in
theorem zjR:yK Tryz.prog gmH 74 zhJ:=by
 refine zaq (K:=gmK) zaj Tryz.func74 rfl rfl Tryz.call74 rfl (by decide) (by intro h;cases h) ?_;rintro w0 X hX _ hp;change AWP _ _ _ _ _ ⟨[],[],0⟩ _;apply zae;refine za (za ?_);refine zaa hX zaj rfl ?_ ?_
 ·trivial
 refine za (za ?_);refine zaa hX zaj rfl ?_ ?_
 ·trivial
 refine zap (σ':=⟨[(0,⟨.optr (.arr 19 shp),⟨0,.arr 19 shp,.here⟩⟩)],[(0,some (.box (.arr 19 shp) zce))],1⟩) ⟨⟨by kernel_rfl,trivial⟩,⟨by kernel_rfl,trivial⟩,rfl,rfl⟩ ?_;exact zr ⟨.inr rfl,zaw rfl trivial rfl rfl rfl⟩
structure TCtr where
 te:zn
 et:Ty
 args:List Ty
 le:zn
 lt:Ty
 pre:List et.T->Args args->List lt.T->List Prop
 out:List et.T->Args args->List lt.T->List et.T
end Go.Proofs.YtpeaigpfddalcaaGreatDoor
