/-
  Texts of this claim, joined: what the statement's proof uses.
-/
import Derived.Test.YtpeaigpfddalcaaGreatDoorMB
set_option linter.unusedSimpArgs false
set_option linter.unusedVariables false
set_option maxRecDepth 100000
open Array renaming getD_eq_getD_getElem? -> zL,getElem?_append -> qG,getElem?_eq_getElem -> yi,getElem?_eq_some_iff -> zo,getElem_modify_self -> vG,replicate -> zA,size_modify -> vL
open Bool renaming and_eq_true -> zd,eq_false_iff -> qg,eq_iff_iff -> yb,false_eq_true -> yv,false_ne_true -> yM,false_or -> xi,or_false -> xK,or_true -> xX,true_or -> qR
open Go renaming FuncId -> zO,Operand -> zG,Program -> zv,ResultVar -> xT,TypeId -> zp,Value -> zg,World -> zi
open Go.ByteArray renaming toList_eq -> xy
open Go.Calls renaming mono -> kh
open Go.Exit renaming thenS -> jZ
open Go.Fence renaming wide -> yz
open Go.Instr renaming makeInterface -> kB
open Go.Lib renaming byteCells -> kH,decDigits -> xr,indexByte -> xj,parseUintM -> kw
open Go.Operand renaming tmp -> uy
open Go.Proofs.YtpeaigpfddalcaaGreatDoor renaming CtrOk -> yB
open Go.Proofs.YtpeaigpfddalcaaGreatDoor.AL renaming all -> zY,fit -> qC,guardF -> yU,guardT -> qY,hand -> qF,nil -> yf,own -> yl,step -> jz,take -> yy
open Go.Proofs.YtpeaigpfddalcaaGreatDoor.AWP renaming go -> za,loop -> yD,ordersA -> ju,ret -> zm,via -> yO,viaQ -> xM
open Go.Proofs.YtpeaigpfddalcaaGreatDoor.Frame renaming get -> zq
open Go.Proofs.YtpeaigpfddalcaaGreatDoor.OpEq renaming refl -> xv
open Go.Proofs.YtpeaigpfddalcaaGreatDoor.Owns renaming get -> zl
open Go.Proofs.YtpeaigpfddalcaaGreatDoor.StepA renaming eval -> yZ,hand -> jY
open Go.Proofs.YtpeaigpfddalcaaGreatDoor.Tok renaming cls -> zF,n -> xH,text -> zD
open Go.RowKit renaming Below -> y7
open Go.RowKit.Below renaming heap_setCell -> xp,refl -> zU
open Go.Value renaming int -> yJ,string -> jc
open Go.World renaming alloc_heap_new -> xo,cell? -> xA,freeze -> qN
open Int renaming le_refl -> yN,natCast_nonneg -> zn,toNat_natCast -> zy
open List renaming all_eq_true -> zW,append_assoc -> zz,append_nil -> z7,drop -> jv,findIdx_getElem -> kx,getElem_mem -> xU,length -> zf,length_append -> zh,length_cons -> zr,length_drop -> ya,length_take -> yW,mem_cons_of_mem -> yk,mem_cons_self -> zS,mem_of_mem_take -> js,mem_singleton -> zw,range -> xz,singleton_inj -> vA,takeWhile_prefix -> yq,take_length -> xe,take_succ_eq_append_getElem -> zE
open Nat renaming ble -> qD,blt -> z6,le_of_ble_eq_true -> zb,le_refl -> zj,le_trans -> zV,lt_succ_self -> xd,not_lt_zero -> yg,zero_le -> zk
open Option.some renaming inj -> zx
open UInt8 renaming le_iff_toNat_le -> yK,toNat_inj -> ql
open Go Go.RowKit
namespace Go.Proofs.YtpeaigpfddalcaaGreatDoor
theorem zoY:yB Tryz.prog gmG 52 (zmv 112 isPt):=by
 refine zap (K:=kSpPt) zcd Tryz.func52 rfl rfl Tryz.call52 rfl (by decide) (by intro h;cases h) ?_;rintro w0 X hX ⟨(s:List UInt8),(g:zg),_⟩ hp;obtain rfl:g= .func (.func 112) #[] #[]:=hp;change AWP _ _ _ _ _ ⟨[(0,⟨.str,s⟩),(1,⟨.lit,.func (.func 112) #[] #[]⟩)],[],0⟩ _;refine AWP.slen 0 rfl fun hl=>?_;unfold maxLen at hl;(repeat(first|apply zae|apply zab|apply zal|apply zad|apply zac|refine zaa hX zcd rfl trivial ?_|refine zaa hX zcd rfl id ?_|refine zaa hX zcd rfl ⟨id,id⟩ ?_));refine yD (ι:=Nat) (fun k=>⟨[(0,⟨.str,s⟩),(1,⟨.lit,.func (.func 112) #[] #[]⟩),(5,⟨i64,(k:Int)⟩)],[],0⟩) (fun k=>k≤s.length∧∀ j (hj:j < s.length),j < k->isPt s[j]=true) (fun k=>s.length - k) 0 ⟨by omega,fun j _ h=>by omega⟩ ⟨⟨rfl,rfl,rfl,trivial⟩,trivial,rfl,rfl⟩ ?_;rintro k ⟨hk,hall⟩;(repeat(first|apply zae|apply zab|apply zac|apply zad));refine zah ?_;refine yy 5 hX zcd rfl trivial ?_;by_cases hlt:k < s.length
 ·refine qC (σ':=⟨[(0,⟨.str,s⟩),(1,⟨.lit,.func (.func 112) #[] #[]⟩),(5,⟨i64,(k:Int)⟩),(10,⟨.bool,true⟩)],[],0⟩) ⟨⟨rfl,rfl,rfl,zbz (decide_eq_true (by omega)),trivial⟩,trivial,rfl,rfl⟩ ?_;have n0:(0:Int)≤(k:Int):=by omega
  have n1:(k:Int) < ((s.length:Nat):Int):=by omega
  refine zY hX zcd rfl ?_ ?_
  ·exact⟨fun _=>⟨rfl,rfl,n0,n1⟩,fun _=>rfl,fun _=>rfl⟩
  refine zaf rfl (fun hb=>?_) (fun hb=>?_)
  ·have hb:isPt (s.getD (k:Int).toNat 0)=true:=hb;rw[zaM hlt]at hb;apply zab;refine za (za ?_);refine zaa hX zcd rfl ?_ ?_
   ·exact zaZ (by omega)
   refine⟨k+1,⟨by omega,fun j hj hjk=>?_⟩,by omega,⟨rfl,rfl,zdM _,trivial⟩,trivial,rfl,rfl⟩;by_cases e:j=k
   ·subst e;exact hb
   ·exact hall j hj (by omega)
  ·have hb:isPt (s.getD (k:Int).toNat 0)=false:=hb;rw[zaM hlt]at hb;(repeat(first|apply zae|apply zab|apply zal|apply zad|apply zac|refine zaa hX zcd rfl trivial ?_|refine zaa hX zcd rfl id ?_|refine zaa hX zcd rfl ⟨id,id⟩ ?_));refine zm ⟨.inr rfl,zas rfl trivial rfl rfl ?_⟩;show (k:Int)=((zaD isPt s:Nat):Int);rw[ze4 hk hall fun _=>hb]
 ·refine qC (σ':=⟨[(0,⟨.str,s⟩),(1,⟨.lit,.func (.func 112) #[] #[]⟩),(5,⟨i64,(k:Int)⟩),(10,⟨.bool,false⟩)],[],0⟩) ⟨⟨rfl,rfl,rfl,zbz (decide_eq_false (by omega)),trivial⟩,trivial,rfl,rfl⟩ ?_;refine yU 4 10 true .bool false rfl rfl rfl rfl rfl rfl ?_;refine yU 4 10 true .bool false rfl rfl rfl rfl rfl rfl ?_;refine yU 4 10 true .bool false rfl rfl rfl rfl rfl rfl ?_;refine yU 4 10 true .bool false rfl rfl rfl rfl rfl rfl ?_;refine yU 4 10 true .bool false rfl rfl rfl rfl rfl rfl ?_;refine zY hX zcd rfl id ?_;refine zaf rfl (fun hb=>absurd (show false=true from hb) (by decide)) (fun _=>?_);(repeat(first|apply zae|apply zab|apply zal|apply zad|apply zac|refine zaa hX zcd rfl trivial ?_|refine zaa hX zcd rfl id ?_|refine zaa hX zcd rfl ⟨id,id⟩ ?_));refine zm ⟨.inr rfl,zas rfl trivial rfl rfl ?_⟩;show (k:Int)=((zaD isPt s:Nat):Int);rw[ze4 hk hall fun h=>absurd h hlt]
theorem zgT (c:UInt8) (r:List UInt8):zaw (c::r)=if isLt c=true then zaD isPt (c::r) else 0:=rfl
def zj7:Ctr:={ args:=[.str],pre:=fun _=>[],res:=i64,own:=none,out:=fun x=>((zaw x.1:Nat):Int) }
def kWl:Kn:={ gmK with C:=[(111,cLt),(52,zmv 112 isPt)] }
theorem zdV:KnOk Tryz.prog gmG kWl:=zaC.with (.cons zqg <| .cons zoY .nil)
theorem ziX:yB Tryz.prog gmG 65 zj7:=by
 refine zap (K:=kWl) zdV Tryz.func65 rfl rfl Tryz.call65 rfl (by decide) (by intro h;cases h) ?_;rintro w0 X hX ⟨(s:List UInt8),_⟩ hp;change AWP _ _ _ _ _ ⟨[(0,⟨.str,s⟩)],[],0⟩ _;(repeat(first|apply zae|apply zab|apply zal|apply zad|apply zac|refine zaa hX zdV rfl trivial ?_|refine zaa hX zdV rfl id ?_|refine zaa hX zdV rfl ⟨id,id⟩ ?_));(repeat(first|apply zae|apply zab|apply zac|apply zad));refine zah ?_;refine yy 3 hX zdV rfl trivial ?_;cases s with
 |nil=>
  refine qC (σ':=⟨[(0,⟨.str,([]:List UInt8)⟩),(5,⟨.bool,true⟩)],[],0⟩) ⟨⟨rfl,zbz (zay.2 rfl),trivial⟩,trivial,rfl,rfl⟩ ?_;refine yU 2 5 false .bool false rfl rfl rfl rfl rfl rfl ?_;refine yU 2 5 false .bool false rfl rfl rfl rfl rfl rfl ?_;refine yU 2 5 false .bool false rfl rfl rfl rfl rfl rfl ?_;refine yU 2 5 false .bool false rfl rfl rfl rfl rfl rfl ?_;refine zY hX zdV rfl id ?_;refine zaf rfl (fun _=>?_) (fun hb=>absurd (show true=false from hb) (by decide));(repeat(first|apply zae|apply zab|apply zal|apply zad|apply zac|refine zaa hX zdV rfl trivial ?_|refine zaa hX zdV rfl id ?_|refine zaa hX zdV rfl ⟨id,id⟩ ?_));exact zm ⟨.inr rfl,zas rfl trivial rfl rfl rfl⟩
 |cons c r=>
  refine qC (σ':=⟨[(0,⟨.str,(c::r:List UInt8)⟩),(5,⟨.bool,false⟩)],[],0⟩) ⟨⟨rfl,zbz (qg.2 fun h=>by cases zay.1 h),trivial⟩,trivial,rfl,rfl⟩ ?_;have n1:(0:Int) < (((c::r).length:Nat):Int):=by rw[zr];omega
  refine zY hX zdV rfl ⟨fun _=>⟨rfl,yN 0,n1⟩,fun _=>rfl,fun _=>rfl,fun _=>rfl⟩ ?_;refine zaf rfl (fun hb=>?_) (fun hb=>?_)
  ·have hb:(!isLt c)=true:=hb;(repeat(first|apply zae|apply zab|apply zal|apply zad|apply zac|refine zaa hX zdV rfl trivial ?_|refine zaa hX zdV rfl id ?_|refine zaa hX zdV rfl ⟨id,id⟩ ?_));refine zm ⟨.inr rfl,zas rfl trivial rfl rfl ?_⟩;show (0:Int)=((zaw (c::r):Nat):Int);rw[zgT,if_neg (by simpa using hb)];rfl
  ·have hb:(!isLt c)=false:=hb;apply zab;refine za (za ?_);refine zaa hX zdV rfl ?_ ?_
   ·exact rfl
   refine zm ⟨.inr rfl,zas rfl trivial rfl rfl ?_⟩;show ((zaD isPt (c::r):Nat):Int)=((zaw (c::r):Nat):Int);rw[zgT,if_pos (by simpa using hb)]
def numA (acc:Nat) (l:List UInt8):Nat:=l.foldl (fun n c=>10 * n+(c.toNat - 48)) acc
theorem zpL:∀ (l:List UInt8) (acc:Nat),acc≤numA acc l
 | [],_=>zj _
 |c::r,acc=>by
  have:=zpL r (10 * acc+(c.toNat - 48));show acc≤numA (10 * acc+(c.toNat - 48)) r;omega
theorem znf (c:UInt8):isDg c=true↔48≤c.toNat∧c.toNat≤57:=by
 unfold isDg;rw[zd,decide_eq_true_iff,decide_eq_true_iff,yK,yK];exact Iff.rfl
theorem zja:∀ (l:List UInt8) (acc:Nat),(∀ c∈l,isDg c=true)->acc < 18446744073709551616->(kw (2 ^ 64 - 1) acc l= .ok (numA acc l)∧numA acc l < 18446744073709551616)∨(kw (2 ^ 64 - 1) acc l= .range∧18446744073709551616≤numA acc l)
 | [],acc,_,ha=>.inl ⟨rfl,ha⟩
 |c::r,acc,h,ha=>by
  obtain⟨h1,h2⟩:=(znf c).1 (h c (zS ..));have hge:=zpL r (10 * acc+(c.toNat - 48));have e:numA acc (c::r)=numA (10 * acc+(c.toNat - 48)) r:=rfl;rw[kw,if_pos ⟨h1,h2⟩,e];by_cases h3:1844674407370955162≤acc
  ·rw[if_pos h3];exact .inr ⟨rfl,by omega⟩
  ·rw[if_neg h3];have e2:acc * 10+(c.toNat - 48)=10 * acc+(c.toNat - 48):=by omega
   rw[e2];by_cases h4:2 ^ 64 - 1 < 10 * acc+(c.toNat - 48)
   ·rw[if_pos h4];exact .inr ⟨rfl,by omega⟩
   ·rw[if_neg h4];exact zja r _ (fun x hx=>h x (yk _ hx)) (by omega)
theorem zob {l:List UInt8} (hl:l≠ []) (h:∀ c∈l,isDg c=true):(Lib.parseIntB 64 l= .ok ((numv l:Nat):Int))∨(Lib.parseIntB 64 l= .range∧zcv≤numv l):=by
 cases l with
 |nil=>exact absurd rfl hl
 |cons c r=>
  obtain⟨h1,h2⟩:=(znf c).1 (h c (zS ..));rw[Lib.parseIntB_plain 64 c r (by omega) (by omega)];unfold Lib.parseUintB;rw[if_neg (by simp)];have e:numv (c::r)=numA 0 (c::r):=rfl;rw[e];unfold zcv;rcases zja (c::r) 0 h (by omega) with ⟨h3,h4⟩|⟨h3,h4⟩
  ·rw[h3];unfold Lib.signlessC;by_cases h5:2 ^ (64 - 1)≤numA 0 (c::r)
   ·exact .inr ⟨if_pos h5,by omega⟩
   ·exact .inl (if_neg h5)
  ·rw[h3];exact .inr ⟨rfl,by omega⟩
def zq0 (s:List UInt8) (v:Int) (ev:zg):Prop:=(ev= .nilIface∧v=((numv s:Nat):Int))∨((∃ t p,ev= .iface t p)∧zcv≤numv s)
theorem zjM {s:List UInt8} (hs:s≠ []) (hd:∀ c∈s,isDg c=true) (hl:s.length≤100000) (w:zi) (hG:gmH w):
  Calls Tryz.prog 177 #[.string ⟨s.toArray⟩,.int .i64 10,.int .i64 64] w fun e w'=>∃ v ev,e= .returned (.tuple #[.int .i64 v,ev])∧y7 w.heap.size w w'∧zq0 s v ev:=by
 rcases zob hs hd with h1|⟨h1,h2⟩
 ·refine kh (Any.strconv_ParseInt_10_at64_ok Tryz.laysC174 ⟨s.toArray⟩ (by show s.length≤9223372036854775806;omega) _ h1 w) ?_;rintro e w' ⟨rfl,hw⟩;refine⟨_,_,rfl,?_,.inl ⟨rfl,rfl⟩⟩;rcases hw with rfl|⟨t,rfl⟩
  ·exact zU _ _
  ·exact Lib.bytesWorld_below _ _ _
 ·obtain⟨ev,hv,hev⟩:=hG.2;refine kh (Any.strconv_ParseInt_10_at64_range Tryz.laysC174 ⟨s.toArray⟩ (by show s.length≤281474976710656;omega) h1 ev w hv hev) ?_;rintro e w' ⟨N,rfl,_,_,hb⟩;exact⟨_,_,rfl,hb,.inr ⟨⟨_,_,rfl⟩,h2⟩⟩
theorem zf5 {α:Type} {p:α->Bool} {c:α}:∀ {l:List α},c∈l.takeWhile p->p c=true
 |x::l,h=>by
  rw[List.takeWhile_cons]at h;split at h
  ·rename_i hx;rcases List.mem_cons.1 h with rfl|h
   ·exact hx
   ·exact zf5 h
  ·cases h
theorem errT:Tryz.prog.underlying 114=some (.interface (Tryz.prog.methodsAt 114)):=by kernel_rfl
def zlb:zg->Bool
 | .nilIface=>true
 |_=>false
theorem eqlNil {a:Act} {w:zi} {x:zG} {d:Nat} {ty:zp} {pos:String} {af:Array Edge} {ev:zg} (hx:a.eval x=ev) (he:ev= .nilIface∨∃ t p,ev= .iface t p):
  (execOp a.eval { dst:=some d,op:=Op.binOp .eql 114 x (.const .nilIface) 114,type:=ty,pos:=pos,after:=af,guard:=none }).run Tryz.prog w= .ok (.value (.bool (zlb ev))) w:=by
 have hn:a.eval (.const .nilIface)= .nilIface:=rfl;unfold execOp;rcases he with rfl|⟨t,p,rfl⟩
 ·simp[hx,hn,eqGuard,run_eql_nil_nil _ _ errT,zlb]
 ·simp[hx,hn,eqGuard,run_eql_held_nil _ _ _ _ errT,zlb]
theorem zuk:(1125899906842624:Int)=((zcv:Nat):Int):=by decide
theorem zn9 (M:Int) (hM:M=((zcv:Nat):Int)) {s:List UInt8} {v:Int} {ev:zg} {b:Bool} (hend:zq0 s v ev) (hb:b=zlb ev):(bif b then decide (v < M) else false)=true↔(b=true∧v=((numv s:Nat):Int)∧numv s < zcv):=by
 rcases hend with ⟨rfl,rfl⟩|⟨⟨t,p,rfl⟩,hn⟩
 ·rw[hb];show decide (((numv s:Nat):Int) < M)=true↔_;rw[decide_eq_true_iff];exact⟨fun h=>⟨rfl,rfl,by omega⟩,fun h=>by omega⟩
 ·rw[hb];exact⟨fun h=>(by cases h),fun h=>(by cases h.1)⟩
abbrev zTk:TokT:=(0,0,0,[],0,())
def zfm (s:List UInt8):TokT×Bool×Unit:=match zcQ s with
 |some (k,n,t,x)=>((k,0,(n:Nat),t,x,()),true,())
 |none=>(zTk,false,())
def znC:Ctr:={ args:=[.str],pre:=fun x=>[x.1≠ [],zf x.1≤100000],res:=.tup tk (.tup .bool .unit),own:=none,out:=fun x=>zfm x.1 }
def kNu:Kn:={ gmK with C:=[(52,zmv 113 isDg)] }
theorem zbS:KnOk Tryz.prog gmH kNu:=zak.with (.cons zoZ.lift .nil)
theorem zog:yB Tryz.prog gmH 131 znC:=by
 refine zap (K:=kNu) zbS Tryz.func131 rfl rfl Tryz.call131 rfl (by decide) (by intro h;cases h) ?_;rintro w0 X hX ⟨(s:List UInt8),_⟩ hp;obtain⟨hne,hlen⟩:s≠ []∧s.length≤100000:=hp;change AWP _ _ _ _ _ ⟨[(0,⟨.str,s⟩)],[],0⟩ _;have hpos:0 < s.length:=List.length_pos_iff.2 hne;(repeat(first|apply zae|apply zab|apply zal|apply zad|apply zac|refine zaa hX zbS rfl trivial ?_|refine zaa hX zbS rfl id ?_|refine zaa hX zbS rfl ⟨id,id⟩ ?_));have n0:(0:Int) < ((s.length:Nat):Int):=by omega
 refine za (za ?_);refine zaa hX zbS rfl ?_ ?_
 ·exact⟨yN 0,n0⟩
 have hsg:zaV s≤1∧zaV s≤s.length:=by
  unfold zaV;split<;>omega
 obtain⟨c,r,rfl⟩:∃ c r,s=c::r:=by
  cases s with
  |nil=>exact absurd rfl hne
  |cons c r=>exact⟨c,r,rfl⟩
 refine xM (σ':=⟨[(0,⟨.str,(c::r:List UInt8)⟩),(2,⟨.optr tk,⟨0,tk,.here⟩⟩),(3,⟨.bool,false⟩),(4,⟨i64,((zaV (c::r):Nat):Int)⟩)],[(0,some (.box tk zTk))],1⟩) ?_ ?_
 ·refine zaf rfl (fun hb=>?_) (fun hb=>?_)
  ·have hb:(((c.toNat:Nat):Int)==(((45:UInt8).toNat:Nat):Int))=true:=hb;rw[u8eq,beq_iff_eq]at hb;subst hb;refine za (za ?_);refine zaa hX zbS rfl ?_ ?_
   ·trivial
   exact⟨⟨rfl,rfl,rfl,rfl,trivial⟩,⟨rfl,trivial⟩,rfl,rfl⟩
  ·have hb:(((c.toNat:Nat):Int)==(((45:UInt8).toNat:Nat):Int))=false:=hb;rw[u8eq]at hb;have hs0:zaV (c::r)=0:=by
    unfold zaV;rw[if_neg];intro h;rw[zx h]at hb;cases hb
   apply zab;exact⟨⟨rfl,rfl,rfl,vI64 (by rw[hs0];rfl),trivial⟩,⟨rfl,trivial⟩,rfl,rfl⟩
 generalize hs:(c::r:List UInt8)=s at *;have p0:(0:Int)≤((zaV s:Nat):Int):=by omega
 have p1:((zaV s:Nat):Int)≤((s.length:Nat):Int):=by omega
 refine za (za ?_);refine zaa hX zbS rfl ?_ ?_
 ·exact⟨p0,p1,rfl⟩
 have hdl:(zaP s).length≤s.length - zaV s:=by
  have:(zaP s).length≤(s.drop (zaV s)).length:=(yq _).length_le;rwa[ya]at this
 have hd5:((zaD isDg (jv (((zaV s:Nat):Int)).toNat s):Nat):Int)=(((zaP s).length:Nat):Int):=by
  rw[zy];rfl
 refine zam (σ':=⟨[(0,⟨.str,s⟩),(2,⟨.optr tk,⟨0,tk,.here⟩⟩),(3,⟨.bool,false⟩),(4,⟨i64,((zaV s:Nat):Int)⟩),(5,⟨i64,(((zaP s).length:Nat):Int)⟩)],[(0,some (.box tk zTk))],1⟩) ⟨⟨rfl,rfl,rfl,rfl,vI64 hd5,trivial⟩,⟨rfl,trivial⟩,rfl,rfl⟩ ?_;refine za (za ?_);refine zaa hX zbS rfl ?_ ?_
 ·trivial
 refine zaf rfl (fun hb=>?_) (fun hb=>?_)
 ·have hb:decide ((((zaP s).length:Nat):Int)=0)=true:=hb;have hb:=of_decide_eq_true hb;(repeat(first|apply zae|apply zab|apply zal|apply zad|apply zac|refine zaa hX zbS rfl trivial ?_|refine zaa hX zbS rfl id ?_|refine zaa hX zbS rfl ⟨id,id⟩ ?_));refine zm ⟨.inr rfl,za9 (by decide) rfl rfl trivial ?_⟩;show (zTk,(false,()))=zfm s;unfold zfm zcQ;rw[if_pos (by omega)]
 have hb:decide ((((zaP s).length:Nat):Int)=0)=false:=hb;have hd0:(zaP s).length≠0:=fun h=>of_decide_eq_false hb (by omega);apply zab;have q0:inR .i64 (((zaV s:Nat):Int)+(((zaP s).length:Nat):Int)):=zaq (by omega) (by omega);have q1:(0:Int)≤((zaV s:Nat):Int)+(((zaP s).length:Nat):Int):=by omega
 have q2:((zaV s:Nat):Int)+(((zaP s).length:Nat):Int)≤((s.length:Nat):Int):=by omega
 have q3:((zaV s:Nat):Int) < ((s.length:Nat):Int):=by omega
 refine za (za ?_);refine zaa hX zbS rfl ?_ ?_
 ·exact⟨q0,q0,q1,q2⟩
 have hm:((zaV s:Nat):Int)+(((zaP s).length:Nat):Int)=((zaV s+(zaP s).length:Nat):Int):=by omega
 refine zam (σ':=⟨[(0,⟨.str,s⟩),(2,⟨.optr tk,⟨0,tk,.here⟩⟩),(3,⟨.bool,false⟩),(4,⟨i64,((zaV s:Nat):Int)⟩),(5,⟨i64,(((zaP s).length:Nat):Int)⟩),(6,⟨.optr tk,⟨1,tk,.here⟩⟩)],[(0,some (.box tk zTk)),(1,some (.box tk (3,0,((zaV s+(zaP s).length:Nat):Int),s.take (zaV s+(zaP s).length),1125899906842624,())))],2⟩) ⟨⟨rfl,rfl,rfl,rfl,rfl,rfl,trivial⟩,⟨rfl,zgo ?_,trivial⟩,rfl,rfl⟩ ?_
 ·show ((3:Int),(0:Int),((zaV s:Nat):Int)+(((zaP s).length:Nat):Int),List.take (((zaV s:Nat):Int)+(((zaP s).length:Nat):Int)).toNat s,(1125899906842624:Int),())=_;rw[hm,zy]
 have hds:zaP s=(s.drop (zaV s)).takeWhile isDg:=rfl;have hhd:(zaP s).head? =some (s.getD (zaV s) 0):=by
  rw[hds];have hne2:(s.drop (zaV s)).takeWhile isDg≠ []:=fun h=>hd0 (by rw[hds,h];rfl);rw[List.head?_eq_some_head hne2,List.head_takeWhile]
  congr 1
  rw[List.head_drop,List.getD_eq_getElem?_getD,List.getElem?_eq_getElem (by omega)];rfl
 refine za (za ?_);refine zaa hX zbS rfl ?_ ?_
 ·exact⟨p0,q3,fun h=>⟨h,h,q0⟩,fun h=>h,fun h=>h⟩
 have htest:(bif ((((s.getD (((zaV s:Nat):Int)).toNat 0).toNat:Nat):Int)==(((48:UInt8).toNat:Nat):Int)) then decide (((zaV s:Nat):Int)+(((zaP s).length:Nat):Int) > 1) else false)=decide ((zaP s).head? =some 48∧1 < zaV s+(zaP s).length):=by
  rw[u8eq,zct,zy,hhd,yb,zd,beq_iff_eq,decide_eq_true_iff,decide_eq_true_iff,Option.some_inj];constructor
  ·rintro ⟨h1,h2⟩;exact⟨h1,by omega⟩
  ·rintro ⟨h1,h2⟩;exact⟨h1,by omega⟩
 have hno:zcQ s=if (zaP s).head? =some 48∧1 < zaV s+(zaP s).length then some (5,zaV s+(zaP s).length,s.take (zaV s+(zaP s).length),(zcv:Int)) else some (3,zaV s+(zaP s).length,s.take (zaV s+(zaP s).length),valN s):=by
  rw[zcQ,if_neg hd0]
 refine zaf rfl (fun hb=>?_) (fun hb=>?_)
 ·have hb:=htest.symm.trans hb;have hb:=of_decide_eq_true hb;(repeat(first|apply zae|apply zab|apply zal|apply zad|apply zac|refine zaa hX zbS rfl trivial ?_|refine zaa hX zbS rfl id ?_|refine zaa hX zbS rfl ⟨id,id⟩ ?_));refine zm ⟨.inr rfl,za9 (by decide) rfl rfl trivial ?_⟩;show (((5:Int),(0:Int),((zaV s+(zaP s).length:Nat):Int),s.take (zaV s+(zaP s).length),(1125899906842624:Int),()),(true,()))=zfm s;unfold zfm;rw[hno,if_pos hb];rfl
 have hb:=htest.symm.trans hb;have hb:=of_decide_eq_false hb;rw[if_neg hb]at hno;apply zab;have hlist:((s.take ((((zaV s:Nat):Int)+(((zaP s).length:Nat):Int))).toNat).drop (((zaV s:Nat):Int)).toNat)=zaP s:=by
  rw[hm,zy,zy,List.drop_take,Nat.add_sub_cancel_left,hds];exact List.prefix_iff_eq_take.1 (yq isDg) |>.symm
 have hdig:∀ c∈zaP s,isDg c=true:=fun c hc=>by
  rw[hds]at hc;exact zf5 hc
 have hdne:zaP s≠ []:=fun h=>hd0 (by rw[h];rfl);(repeat(first|apply zae|apply zab|apply zac|apply zad));refine zah ?_;refine yy 6 hX zbS rfl ⟨q0,p0,(by omega:((zaV s:Nat):Int)≤((zaV s:Nat):Int)+(((zaP s).length:Nat):Int)),q2⟩ ?_;refine qF rfl (fun c e=>by cases e) fun β a w hsim=>?_;have h46:a.eval (.tmp 46)= .string ⟨(zaP s).toArray⟩:=by
  have:=(RepV.str (hsim.ops (.tmp 46))).1;rwa[hlist]at this
 refine zhd (f:=177) rfl Tryz.call177 ?_;show Calls _ _ ((#[uy 46,.const (.int .i64 10),.const (.int .i64 64)].toList.map a.eval).toArray) _ _;rw[show ((#[uy 46,.const (.int .i64 10),.const (.int .i64 64)].toList.map a.eval).toArray:Array zg)= #[.string ⟨(zaP s).toArray⟩,.int .i64 10,.int .i64 64] by show #[a.eval (.tmp 46),_,_]=_;rw[h46];rfl];refine (zjM hdne hdig (by omega) w (hX.2.2 w hsim.bel)).mono ?_;rintro e w'' ⟨v,ev,rfl,hb2,hend⟩;refine⟨_,rfl,⟨(47,⟨.lit,.tuple #[.int .i64 v,ev]⟩)::_,_,_⟩,β,hsim.put hb2 (v:=⟨.lit,.tuple #[.int .i64 v,ev]⟩) rfl (zk _) (by show 47 < 65;omega),?_⟩;refine yy 1 hX zbS rfl trivial ?_;refine qF rfl (fun c e=>by cases e) fun β a w' hs'=>?_;have h33:a.eval (.tmp 40)= .tuple #[.int .i64 v,ev]:=hs'.ops (.tmp 40);refine zbL (u:=.int .i64 v) (w':=w') ?_ ⟨⟨(48,⟨i64,v⟩)::_,_,_⟩,β,hs'.put (zU _ _) (v:=⟨i64,v⟩) (RepV.ofInt (k:=.i64)) (zk _) (by show 48 < 65;omega),?_⟩
 ·show (execOp a.eval { dst:=some 48,op:=Op.extract (.tmp 40) 0,type:=_,pos:=_,after:=_,guard:=none }).run _ _=_;unfold execOp;simp[h33,Instr.extract]
 refine qF rfl (fun c e=>by cases e) fun β a w' hs'=>?_;have h33:a.eval (.tmp 40)= .tuple #[.int .i64 v,ev]:=hs'.ops (.tmp 40);refine zbL (u:=ev) (w':=w') ?_ ⟨⟨(49,⟨.lit,ev⟩)::_,_,_⟩,β,hs'.put (zU _ _) (v:=⟨.lit,ev⟩) rfl (zk _) (by show 49 < 65;omega),?_⟩
 ·show (execOp a.eval { dst:=some 49,op:=Op.extract (.tmp 40) 1,type:=_,pos:=_,after:=_,guard:=none }).run _ _=_;unfold execOp;simp[h33,Instr.extract]
 refine zY hX zbS rfl trivial ?_;refine zam (σ':=⟨[(0,⟨.str,s⟩),(2,⟨.optr tk,⟨0,tk,.here⟩⟩),(4,⟨i64,((zaV s:Nat):Int)⟩),(6,⟨.optr tk,⟨1,tk,.here⟩⟩),(7,⟨i64,v⟩),(8,⟨.lit,ev⟩)],[(0,some (.box tk zTk)),(1,some (.box tk (3,0,((zaV s+(zaP s).length:Nat):Int),s.take (zaV s+(zaP s).length),1125899906842624,())))],2⟩) ⟨⟨rfl,rfl,rfl,rfl,rfl,rfl,trivial⟩,⟨rfl,rfl,trivial⟩,rfl,rfl⟩ ?_;(repeat(first|apply zae|apply zab|apply zac|apply zad));refine zah ?_;refine yy 1 hX zbS rfl trivial ?_;refine qF rfl (fun c e=>by cases e) fun β a w' hs'=>?_;have h38:a.eval (.tmp 50)=ev:=hs'.ops (.tmp 50);obtain⟨b,hbv⟩:∃ b,b=zlb ev:=⟨_,rfl⟩;refine zbL (u:=.bool b) (w':=w') (by rw[hbv];exact eqlNil h38 (hend.imp (fun h=>h.1) (fun h=>h.1))) ⟨⟨(51,⟨.bool,b⟩)::_,_,_⟩,β,hs'.put (zU _ _) (v:=⟨.bool,b⟩) RepV.ofBool (zk _) (by show 51 < 65;omega),?_⟩;have hsmall:(bif b then decide (v < 1125899906842624) else false)=true↔(b=true∧v=((numv (zaP s):Nat):Int)∧numv (zaP s) < zcv):=zn9 _ zuk hend hbv;have hbig:¬ (bif b then decide (v < 1125899906842624) else false)=true->zcv≤numv (zaP s):=fun h=>by
  rcases hend with ⟨rfl,rfl⟩|⟨⟨t,p,rfl⟩,hn⟩
  ·rcases Nat.lt_or_ge (numv (zaP s)) zcv with h1|h1
   ·exact absurd (hsmall.2 ⟨hbv,rfl,h1⟩) h
   ·exact h1
  ·exact hn
 refine zY hX zbS rfl ?_ ?_
 ·exact⟨fun h=>h,fun h=>h⟩
 have hfin:valN s=if zaV s=1 then -((min (numv (zaP s)) zcv:Nat):Int) else ((min (numv (zaP s)) zcv:Nat):Int):=rfl
 refine xM (σ':=⟨[(2,⟨.optr tk,⟨0,tk,.here⟩⟩),(4,⟨i64,((zaV s:Nat):Int)⟩),(6,⟨.optr tk,⟨1,tk,.here⟩⟩)],[(0,some (.box tk zTk)),(1,some (.box tk (3,0,((zaV s+(zaP s).length:Nat):Int),s.take (zaV s+(zaP s).length),((min (numv (zaP s)) zcv:Nat):Int),())))],2⟩) ?_ ?_
 ·refine zaf rfl (fun hb=>?_) (fun hb=>?_)
  ·have hb:(bif b then decide (v < 1125899906842624) else false)=true:=hb;obtain⟨_,h2,h3⟩:=hsmall.1 hb;refine za (za ?_);refine zaa hX zbS rfl ?_ ?_
   ·trivial
   refine⟨⟨rfl,rfl,rfl,trivial⟩,⟨rfl,zgo ?_,trivial⟩,rfl,rfl⟩;rw[Nat.min_eq_left (Nat.le_of_lt h3), <-h2]
  ·have hb:¬ (bif b then decide (v < 1125899906842624) else false)=true:=by
    intro h;have hb:(bif b then decide (v < 1125899906842624) else false)=false:=hb;rw[hb]at h;cases h
   refine zab ⟨⟨rfl,rfl,rfl,trivial⟩,⟨rfl,zgo ?_,trivial⟩,rfl,rfl⟩;rw[Nat.min_eq_right (hbig hb)];rfl
 have hbnd:((min (numv (zaP s)) zcv:Nat):Int)≤1125899906842624:=by
  have:=Nat.min_le_right (numv (zaP s)) zcv;unfold zcv at *;omega
 refine za (za ?_);refine zaa hX zbS rfl ?_ ?_
 ·trivial
 refine xM (σ':=⟨[(2,⟨.optr tk,⟨0,tk,.here⟩⟩),(6,⟨.optr tk,⟨1,tk,.here⟩⟩)],[(0,some (.box tk zTk)),(1,some (.box tk (3,0,((zaV s+(zaP s).length:Nat):Int),s.take (zaV s+(zaP s).length),valN s,())))],2⟩) ?_ ?_
 ·refine zaf rfl (fun hb=>?_) (fun hb=>?_)
  ·have hb:decide (((zaV s:Nat):Int)=1)=true:=hb;have hb:=of_decide_eq_true hb;refine za (za ?_);refine zaa hX zbS rfl ?_ ?_
   ·show inR .i64 (-((min (numv (zaP s)) zcv:Nat):Int));exact zaq (by omega) (by omega)
   refine⟨⟨rfl,rfl,trivial⟩,⟨rfl,zgo ?_,trivial⟩,rfl,rfl⟩;rw[hfin,if_pos (by omega)]
  ·have hb:decide (((zaV s:Nat):Int)=1)=false:=hb;have hb:=of_decide_eq_false hb;refine zab ⟨⟨rfl,rfl,trivial⟩,⟨rfl,zgo ?_,trivial⟩,rfl,rfl⟩;rw[hfin,if_neg (by omega)]
 (repeat(first|apply zae|apply zab|apply zal|apply zad|apply zac|refine zaa hX zbS rfl trivial ?_|refine zaa hX zbS rfl id ?_|refine zaa hX zbS rfl ⟨id,id⟩ ?_));refine zm ⟨.inr rfl,za9 (by decide) rfl rfl trivial ?_⟩;show (((3:Int),(0:Int),((zaV s+(zaP s).length:Nat):Int),s.take (zaV s+(zaP s).length),valN s,()),(true,()))=zfm s;unfold zfm;rw[hno]
section
open Go Go.RowKit Go.ChangeShapes Go.WideShapes Go.ChangeAt
theorem own:ownKnob Tryz.prog.godebug=none:=by kernel_rfl
theorem zuc:laidOutB Tryz.prog=true:=by kernel_rfl
abbrev zp9:List (String×DataW Unit):=Rows.grammarParseMatchesReferenceRow.laid
theorem tab_eq:(zp9.filter fun x=>x.1=="internal/strconv.uint64pow10")=[("internal/strconv.uint64pow10",Lib.tabData .u64 Lib.pow10Tab)]:=by kernel_rfl
theorem err_eq:(zp9.filter fun x=>x.1=="strconv.ErrRange")=[("strconv.ErrRange",Rows.laid_strconv_ErrRange)]:=by kernel_rfl
theorem zoi:(zp9.filter fun x=>x.2.handleName?.isSome)=[]:=by kernel_rfl
theorem zsg:(Tryz.prog.globals[5]?).map (·.type)=some 267:=by kernel_rfl
theorem zsx:Tryz.prog.cellsOf 267=20:=by kernel_rfl
theorem zsw:Tryz.prog.cellsOf 236=1:=by kernel_rfl
theorem gErr:Tryz.prog.globalNamed "strconv.ErrRange"=some 4:=by kernel_rfl
theorem zsi:(Tryz.prog.globals[4]?).map (·.type)=some 114:=by kernel_rfl
theorem zuK {W:zi} (h:laidMetH Tryz.prog zp9 W):gmH W:=by
 have h1:laidMet Tryz.prog zp9 W:=by
  have:=(laidMetH_iff.1 h).1;rwa[List.filter_eq_self.2 (fun x hx=>by
   have hn:=(List.filter_eq_nil_iff.1 zoi) x hx;cases he:x.2.handleName? with
   |none=>rfl
   |some s=>rw[he]at hn;exact absurd rfl hn)]at this
 have ht:=h1.filter fun x=>x.1=="internal/strconv.uint64pow10";have he:=h1.filter fun x=>x.1=="strconv.ErrRange";rw[tab_eq]at ht;rw[err_eq]at he;refine⟨Lib.tabIs_of_head (rest:=[]) zuo zsg Tryz.underlying267 Tryz.underlying236 zsw zsx ht,?_⟩;obtain⟨ps,⟨g',t',cs,fuel,p,q,hg',ht',hvar,hd,_,_⟩,_⟩:=he;obtain rfl:=zx (gErr.symm.trans hg');obtain rfl:=zx (zsi.symm.trans ht');obtain⟨_,u,v,hcs,_,_⟩:=iface_of_trod errT hd;refine⟨.iface u v,?_,.inr ⟨u,v,rfl⟩⟩;unfold World.var? at hvar;rw[gErr]at hvar;simp only[Option.bind_some]at hvar;unfold xA;cases ho:W.heap[4]? with
 |none=>rw[ho]at hvar;cases hvar
 |some o=>
  rw[ho]at hvar;cases o<;>simp at hvar;rename_i c t fz;subst hvar;simp;rw[<-Array.getElem?_toList,hcs];rfl
def numD:DataW Unit->Int
 | .lit (.int _ z)=>z
 |_=>0
def zqr:DataW Unit->List Int
 | .agg ds=>ds.flatMap fun d=>match d with
  | .agg es=>es.map numD
  |d=>[numD d]
 |_=>[]
def setG (g:Nat) (cs:List zg) (h:Array Obj):Array Obj:=h.modify g fun
 | .cells _ t frozen=>.cells cs.toArray t frozen
 |o=>o
noncomputable def heapW (os:Os):Array Obj:=
 let h:=(World.holding Tryz.prog os ⟨#[],#[],[]⟩).heap
 let n:=h.size
 ((setG 6 ((zqr Rows.laid_math_bits_deBruijn32tab).map (.int .u8 ·)) <|
   setG 7 ((zqr Rows.laid_math_bits_deBruijn64tab).map (.int .u8 ·)) <|
   setG 5 ((zqr Rows.laid_internal_strconv_uint64pow10).map (.int .u64 ·)) <|
   setG 1 ((zqr Rows.laid_unicode_utf8_acceptRanges).map (.int .u8 ·)) <|
   setG 0 ((zqr Rows.laid_unicode_utf8_first).map (.int .u8 ·)) <|
   setG 4 [.iface 273 (.pointer (some ⟨n,0,none⟩))] <|
   setG 3 [.iface 273 (.pointer (some ⟨n+1,0,none⟩))] h).push
    (.cells #[.string ⟨#[118,97,108,117,101,32,111,117,116,32,111,102,32,114,97,110,103,101]⟩] 275)).push
    (.cells #[.string ⟨#[105,110,118,97,108,105,100,32,115,121,110,116,97,120]⟩] 275)
noncomputable def zib (os:Os):zi:={ World.holding Tryz.prog os ⟨#[],#[],[]⟩ with heap:=heapW os }
end
def cSym:Ctr:={ args:=[.str,.str],pre:=fun x=>[x.1=[40,41,61],∃ c,x.2.1=[c]],res:=.bool,own:=none,out:=fun x=>decide (0≤xj x.1 (x.2.1.getD 0 0)) }
theorem sym_ok:yB Tryz.prog gmG 132 cSym:=by
 refine⟨Tryz.call132,fun w O xs vs hO hr hp hG=>?_⟩;obtain⟨(s:List UInt8),(d:List UInt8),_⟩:=xs;obtain⟨h1,c,h2⟩:s=[40,41,61]∧∃ c,d=[c]:=hp;subst h1;subst h2;obtain⟨v1,r1,rfl,e1,v2,r2,rfl,e2,rfl⟩:=hr;have e1: [v1]=[jc ⟨#[40,41,61]⟩]∧_:=e1;have e2: [v2]=[jc ⟨#[c]⟩]∧_:=e2;obtain⟨e1,_⟩:=e1;obtain⟨e2,_⟩:=e2;cases e1;cases e2;refine kh (Any.strings_Contains_one Tryz.lays144 ⟨#[40,41,61]⟩ c w) ?_;rintro e w' ⟨rfl,rfl⟩;refine⟨_,rfl,zU _ _,fun β=>?_⟩;rfl
def ziK (sk:Nat):List UInt8->TokT
 | []=>(0,(sk:Int),0,[],0,())
 |c::r=>
  if 0 < zaw (c::r) then (1,(sk:Int),(zaw (c::r):Nat),(c::r).take (zaw (c::r)),0,())
  else if c=64∧0 < zaw r then (2,(sk:Int),(zaw r:Nat)+1,r.take (zaw r),0,())
  else match zcQ (c::r) with
   |some (k,n,t,x)=>(k,(sk:Int),(n:Nat),t,x,())
   |none=>if c=40∨c=41∨c=61 then (4,(sk:Int),1,[c],0,()) else (5,(sk:Int),1,[c],0,())
theorem zo7 (sk:Nat) (c:UInt8) (r:List UInt8) (h:¬ 0 < zaw (c::r)):ziK sk (c::r)=(if c=64∧0 < zaw r then (2,(sk:Int),((zaw r:Nat):Int)+1,r.take (zaw r),0,())
 else match zcQ (c::r) with
  |some (k,n,t,x)=>(k,(sk:Int),((n:Nat):Int),t,x,())
  |none=>if c=40∨c=41∨c=61 then (4,(sk:Int),1,[c],0,()) else (5,(sk:Int),1,[c],0,()):TokT):=if_neg h
theorem ztK (s:List UInt8):za2 s=ziK (zaD isWh s) (s.drop (zaD isWh s)):=by
 rw[za2];cases s.drop (zaD isWh s)<;>rfl
theorem zoQ (c:UInt8):decide (0≤xj [40,41,61] c)=true↔(c=40∨c=41∨c=61):=by
 have key:∀ n:Fin 256,decide (0≤xj [40,41,61] (UInt8.ofNat n.val))=decide (n.val=40∨n.val=41∨n.val=61):=by decide+kernel
 have h:=key ⟨c.toNat,UInt8.toNat_lt c⟩;simp only[UInt8.ofNat_toNat]at h;rw[h,decide_eq_true_iff];constructor
 ·rintro (h|h|h)
  ·exact .inl (ql.1 h)
  ·exact .inr (.inl (ql.1 h))
  ·exact .inr (.inr (ql.1 h))
 ·rintro (rfl|rfl|rfl)<;>decide
def cScan:Ctr:={ args:=[.str],pre:=fun x=>[zf x.1≤100000],res:=tk,own:=none,out:=fun x=>za2 x.1 }
def kSc:Kn:={ gmK with C:=[(52,zmv 53 isWh),(65,zj7),(131,znC),(132,cSym)] }
theorem zbp:KnOk Tryz.prog gmH kSc:=zak.with (.cons zkz.lift <| .cons ziX.lift <| .cons zog <| .cons sym_ok.lift .nil)
theorem ztJ:yB Tryz.prog gmH 79 cScan:=by
 refine zap (K:=kSc) zbp Tryz.func79 rfl rfl Tryz.call79 rfl (by decide) (by intro h;cases h) ?_;rintro w0 X hX ⟨(s:List UInt8),_⟩ hp;have hlen:s.length≤100000:=hp;change AWP _ _ _ _ _ ⟨[(0,⟨.str,s⟩)],[],0⟩ _;refine za (za ?_);refine zaa hX zbp rfl ?_ ?_
 ·trivial
 refine za (za ?_);refine zaa hX zbp rfl ?_ ?_
 ·exact rfl
 have hsk:=zdS isWh s;have q0:(0:Int)≤((zaD isWh s:Nat):Int):=by omega
 have q1:((zaD isWh s:Nat):Int)≤((s.length:Nat):Int):=by omega
 refine za (za ?_);refine zaa hX zbp rfl ?_ ?_
 ·exact⟨q0,q1⟩
 obtain⟨u,hu⟩:∃ u,u=s.drop (zaD isWh s):=⟨_,rfl⟩;have hul:u.length≤100000:=by rw[hu,ya];omega
 refine zam (σ':=⟨[(0,⟨.str,u⟩),(2,⟨.optr tk,⟨0,tk,.here⟩⟩),(3,⟨i64,((zaD isWh s:Nat):Int)⟩)],[(0,some (.box tk zTk))],1⟩) ⟨⟨?_,rfl,rfl,trivial⟩,⟨rfl,trivial⟩,rfl,rfl⟩ ?_
 ·show (⟨.str,jv (((zaD isWh s:Nat):Int)).toNat s⟩:V)=⟨.str,u⟩;rw[zy,hu]
 show AWP _ _ _ _ _ _ (fun e σ=>(e= .normal∨e= .ret)∧Done _ _ σ none tk (za2 s));rw[ztK, <-hu];generalize zaD isWh s=sk at q0 q1 ⊢;clear hu hsk hlen q1 hp;cases u with
 |nil=>
  refine za (za ?_);refine zaa hX zbp rfl ?_ ?_
  ·trivial
  refine zaf rfl (fun _=>?_) (fun hb=>?_)
  ·(repeat(first|apply zae|apply zab|apply zal|apply zad|apply zac|refine zaa hX zbp rfl trivial ?_|refine zaa hX zbp rfl id ?_|refine zaa hX zbp rfl ⟨id,id⟩ ?_));exact zm ⟨.inr rfl,zas rfl trivial rfl rfl rfl⟩
  ·have hb:eqb .str ([]:List UInt8) []=false:=hb;rw[zay.2 rfl]at hb;cases hb
 |cons c r=>
  have hrl:r.length≤100000:=by rw[zr]at hul;omega
  have n1:(1:Int)≤(((c::r).length:Nat):Int):=by rw[zr];omega
  have n2:(0:Int) < (((c::r).length:Nat):Int):=by rw[zr];omega
  refine za (za ?_);refine zaa hX zbp rfl ?_ ?_
  ·trivial
  refine zaf rfl (fun hb=>?_) (fun _=>?_)
  ·have hb:eqb .str (c::r:List UInt8) []=true:=hb;cases zay.1 hb
  apply zab;refine za (za ?_);refine zaa hX zbp rfl ?_ ?_
  ·exact⟨(by decide:(0:Int)≤1),n1⟩
  refine zam (σ':=⟨[(0,⟨.str,(c::r:List UInt8)⟩),(2,⟨.optr tk,⟨0,tk,.here⟩⟩),(3,⟨i64,(sk:Int)⟩),(4,⟨.optr tk,⟨1,tk,.here⟩⟩)],[(0,some (.box tk zTk)),(1,some (.box tk (5,0,1,[c],0,())))],2⟩) ⟨⟨rfl,rfl,rfl,rfl,trivial⟩,⟨rfl,rfl,trivial⟩,rfl,rfl⟩ ?_;have hwl:=zeZ (c::r);refine yO (σ':=⟨[(2,⟨.optr tk,⟨0,tk,.here⟩⟩),(3,⟨i64,(sk:Int)⟩),(4,⟨.optr tk,⟨1,tk,.here⟩⟩)],[(0,some (.box tk zTk)),(1,some (.box tk ((ziK sk (c::r)).1,0,(ziK sk (c::r)).2.2)))],2⟩) ?_ ?_
  ·refine za (za ?_);refine zaa hX zbp rfl ?_ ?_
   ·trivial
   have w0':(0:Int)≤((zaw (c::r):Nat):Int):=by omega
   have w1':((zaw (c::r):Nat):Int)≤(((c::r).length:Nat):Int):=by omega
   refine za (za ?_);refine zaa hX zbp rfl ?_ ?_
   ·trivial
   refine zaf rfl (fun hb=>?_) (fun hb=>?_)
   ·have hb:decide (((zaw (c::r):Nat):Int) > 0)=true:=hb;have hb:=of_decide_eq_true hb;refine za (za ?_);refine zaa hX zbp rfl ?_ ?_
    ·exact⟨w0',w1'⟩
    refine⟨⟨rfl,rfl,rfl,trivial⟩,⟨rfl,zgo ?_,trivial⟩,rfl,rfl⟩;rw[ziK,if_pos (by omega)];show ((1:Int),(0:Int),((zaw (c::r):Nat):Int),List.take (((zaw (c::r):Nat):Int)).toNat (c::r),(0:Int),())=_;rw[zy]
   ·have hb:decide (((zaw (c::r):Nat):Int) > 0)=false:=hb;have hb0:=of_decide_eq_false hb;have e0:=zo7 sk c r (by omega);rw[e0];have hwr:=zeZ r;have v0:(0:Int)≤1:=by decide
    refine za (za ?_);refine zaa hX zbp rfl ?_ ?_
    ·exact⟨v0,n1⟩
    refine zam (σ':=⟨[(0,⟨.str,(c::r:List UInt8)⟩),(2,⟨.optr tk,⟨0,tk,.here⟩⟩),(3,⟨i64,(sk:Int)⟩),(4,⟨.optr tk,⟨1,tk,.here⟩⟩),(6,⟨i64,((zaw r:Nat):Int)⟩)],[(0,some (.box tk zTk)),(1,some (.box tk (5,0,1,[c],0,())))],2⟩) ⟨⟨rfl,rfl,rfl,rfl,rfl,trivial⟩,⟨rfl,rfl,trivial⟩,rfl,rfl⟩ ?_;refine za (za ?_);refine zaa hX zbp rfl ?_ ?_
    ·exact⟨yN 0,n2,fun h=>h,fun h=>h⟩
    have ht:(bif (((c.toNat:Nat):Int)==(((64:UInt8).toNat:Nat):Int)) then decide (((zaw r:Nat):Int) > 0) else false)=decide (c=64∧0 < zaw r):=by
     rw[u8eq,zct,yb,zd,beq_iff_eq,decide_eq_true_iff,decide_eq_true_iff];constructor
     ·rintro ⟨h1,h2⟩;exact⟨h1,by omega⟩
     ·rintro ⟨h1,h2⟩;exact⟨h1,by omega⟩
    refine zaf rfl (fun hb=>?_) (fun hb=>?_)
    ·have hb:=of_decide_eq_true (ht.symm.trans hb);have g1:inR .i64 (((zaw r:Nat):Int)+1):=zaq (by omega) (by omega);have g2:(1:Int)≤((zaw r:Nat):Int)+1:=by omega
     have g3:((zaw r:Nat):Int)+1≤(((c::r).length:Nat):Int):=by rw[zr];omega
     refine za (za ?_);refine zaa hX zbp rfl ?_ ?_
     ·exact⟨g1,g1,v0,g2,g3⟩
     refine⟨⟨rfl,rfl,rfl,trivial⟩,⟨rfl,zgo ?_,trivial⟩,rfl,rfl⟩;rw[if_pos hb];have e1:(((zaw r:Nat):Int)+1).toNat=zaw r+1:=by omega
     show ((2:Int),(0:Int),((zaw r:Nat):Int)+1,jv (1:Int).toNat (List.take (((zaw r:Nat):Int)+1).toNat (c::r)),(0:Int),())=_;rw[e1];rfl
    ·have hb:=of_decide_eq_false (ht.symm.trans hb);rw[if_neg hb];refine za (za ?_);refine zaa hX zbp rfl ?_ ?_
     ·exact⟨(by intro h;cases h),hul⟩
     refine zam (σ':=⟨[(0,⟨.str,(c::r:List UInt8)⟩),(2,⟨.optr tk,⟨0,tk,.here⟩⟩),(3,⟨i64,(sk:Int)⟩),(4,⟨.optr tk,⟨1,tk,.here⟩⟩),(7,⟨.optr tk,⟨2,tk,.here⟩⟩),(8,⟨.bool,(zfm (c::r)).2.1⟩)],[(0,some (.box tk zTk)),(1,some (.box tk (5,0,1,[c],0,()))),(2,some (.box tk (zfm (c::r)).1))],3⟩) ⟨⟨rfl,rfl,rfl,rfl,rfl,rfl,trivial⟩,⟨rfl,rfl,rfl,trivial⟩,rfl,rfl⟩ ?_;unfold zfm;cases zcQ (c::r) with
     |some q=>
      obtain⟨k,n,t,x⟩:=q;(repeat(first|apply zae|apply zab|apply zal|apply zad|apply zac|refine zaa hX zbp rfl trivial ?_|refine zaa hX zbp rfl id ?_|refine zaa hX zbp rfl ⟨id,id⟩ ?_));refine zaf rfl (fun _=>?_) (fun hb=>absurd (show true=false from hb) (by decide));(repeat(first|apply zae|apply zab|apply zal|apply zad|apply zac|refine zaa hX zbp rfl trivial ?_|refine zaa hX zbp rfl id ?_|refine zaa hX zbp rfl ⟨id,id⟩ ?_));exact⟨⟨rfl,rfl,rfl,trivial⟩,⟨rfl,rfl,trivial⟩,rfl,rfl⟩
     |none=>
      (repeat(first|apply zae|apply zab|apply zal|apply zad|apply zac|refine zaa hX zbp rfl trivial ?_|refine zaa hX zbp rfl id ?_|refine zaa hX zbp rfl ⟨id,id⟩ ?_));refine zaf rfl (fun hb=>absurd (show false=true from hb) (by decide)) (fun _=>?_);refine za (za ?_);refine zaa hX zbp rfl ?_ ?_
      ·exact⟨v0,n1,rfl,⟨c,rfl⟩⟩
      refine zaf rfl (fun hb=>?_) (fun hb=>?_)
      ·have hb:=(zoQ c).1 hb;(repeat(first|apply zae|apply zab|apply zal|apply zad|apply zac|refine zaa hX zbp rfl trivial ?_|refine zaa hX zbp rfl id ?_|refine zaa hX zbp rfl ⟨id,id⟩ ?_));refine⟨⟨rfl,rfl,rfl,trivial⟩,⟨rfl,zgo ?_,trivial⟩,rfl,rfl⟩;simp only[if_pos hb]
      ·have hn:¬ (c=40∨c=41∨c=61):=fun h=>by
        have:=(zoQ c).2 h;have hb:decide (0≤xj [40,41,61] c)=false:=hb;rw[hb]at this;cases this
       apply zab;refine⟨⟨rfl,rfl,rfl,trivial⟩,⟨rfl,zgo ?_,trivial⟩,rfl,rfl⟩;simp only[if_neg hn]
  ·have hat:(ziK sk (c::r)).2.1=(sk:Int):=by
    rw[ziK];split
    ·rfl
    ·split
     ·rfl
     ·split
      ·rfl
      ·split<;>rfl
   (repeat(first|apply zae|apply zab|apply zal|apply zad|apply zac|refine zaa hX zbp rfl trivial ?_|refine zaa hX zbp rfl id ?_|refine zaa hX zbp rfl ⟨id,id⟩ ?_));refine zm ⟨.inr rfl,zas rfl trivial rfl rfl ?_⟩;show ((ziK sk (c::r)).1,(sk:Int),(ziK sk (c::r)).2.2)=ziK sk (c::r);rw[<-hat]
abbrev PsT:=List UInt8×TokT×List Nd×Int×Unit
def stOf (x:PsT):GSt:=(x.2.1,x.2.2.2.1)
abbrev psX (s:List UInt8) (st:GSt) (l:List Nd):PsT:=(s,st.1,l,st.2,())
def pOk (x:PsT):Prop:=GOk x.1 (stOf x)∧x.1.length≤100000
def pvS (e:Int×Int):zg:=.iface 133 (.agg #[.int .i64 e.1,.int .i64 e.2])
def toX {α β:Type} (f:α->β):Except (Int×Int) α->Except zg β
 | .ok a=>.ok (f a)
 | .error e=>.error (pvS e)
@[reducible] def hP (args:List Ty) (res:Ty) (pre:PsT->Args args->List Prop) (out:PsT->Args args->Except zg (res.T×PsT)):HCtr:=
 { self:=ps,k:=6,te:=73,et:=nd,sl:=fun x=>x.2.2.1,args:=args,inv:=ginv,pre:=fun x xs=>pOk x::pre x xs,res:=res,out:=out }
theorem zbr {args:List Ty} {res:Ty} {pre:PsT->Args args->List Prop} {out:PsT->Args args->Except zg (res.T×PsT)}:(hP args res pre out).law:=⟨rfl,fun _=>rfl,fun a h=>by cases h⟩
@[reducible] def pBox (ty:zp) (s:List UInt8) (st:GSt):OObj:=.hbox ty [⟨.str,s⟩,⟨i64,st.1.1⟩,⟨i64,st.1.2.1⟩,⟨i64,st.1.2.2.1⟩,⟨.str,st.1.2.2.2.1⟩,⟨i64,st.1.2.2.2.2.1⟩,⟨.obuf nd,(1:Nat)⟩,⟨i64,st.2⟩]
@[reducible] def pE (ty:zp) (s:List UInt8) (st:GSt) (l:List Nd):Owns:=[(0,some (pBox ty s st)),(1,some (.buf 73 nd l))]
@[reducible] def pSelf:V:=⟨.hptr,((0:Nat),(0:Nat))⟩
def pQ (rs:List xT) (c:HCtr) (ty:zp) (r:Except zg (c.res.T×c.self.T)) (e:Exit) (σ:AS):Prop:=zq3 gmT rs c ty e σ r
theorem zg0 {rs:List xT} {c:HCtr} {ty:zp} {pv:zg} {σ:AS}:pQ rs c ty (.error pv) (.panic [{ v:=pv,recovered:=false }]) σ:=rfl
theorem zao {α β γ:Type} {f:β->γ} {e:Except (Int×Int) α} {k:α->Except (Int×Int) β} {er:Int×Int} (h:e= .error er):toX f (e >>= k)= .error (pvS er):=by rw[h];rfl
theorem zar {α β γ:Type} {f:β->γ} {e:Except (Int×Int) α} {k:α->Except (Int×Int) β} {a:α} (h:e= .ok a):toX f (e >>= k)=toX f (k a):=by rw[h];rfl
section
variable {P:zv} {K:Kn} {w0:zi} {X:Ownr} {n:Nat} {σ:AS} {Q:Exit->AS->Prop} {ops:Array Oper}
theorem zaB (m:Nat) (hX:X.Ok w0) (hK:KnOk P X.G K) {C:List (zO×HCtr)} (hC:HsOk P X.G C) {l rest:List Oper} {o:Oper} {r:List Prop×AS} (hs:aSeq K n ops (l.take m) σ=some r) (hp:allP r.1) (hl:l.drop m=o::rest) {s:HSite} (hsite:zop C n o r.2=some s)
  (hq:allP s.q) (hinv:∀ w R,(∀ g,R g->w0.heap.size≤g∨X.R g)->X.G w->s.c.inv w R s.ty) {α:Type} {f:α->s.c.res.T×s.c.self.T} {e:Except (Int×Int) α} (hout:s.c.out s.x s.xs=toX f e)
  (herr:∀ er,e= .error er->Q (.panic [{ v:=pvS er,recovered:=false }]) s.lost) (h:∀ a,e= .ok a->AL P w0 X n ops rest (s.next (f a).1 (f a).2) Q)
  (hgd:o.guard=none:=by rfl) (hnd:∀ c,o.op≠ .defer c:=by intro c e;cases e) (hd:zbA (l.take m)=true:=by rfl):AL P w0 X n ops l σ Q:=by
 refine yl m hX hK hC hs hp hl hsite hq hinv ?_ hgd hnd hd;rw[hout];cases e with
 |error er=>exact herr er rfl
 |ok a=>exact h a rfl
end
section
variable {P:zv} {K:Kn} {w0:zi} {X:Ownr} {n:Nat} {Q:Exit->AS->Prop} {ops:Array Oper}
theorem AL.ownVM (hX:X.Ok w0) {o:Oper} {rest:List Oper} {f:zO} {c:HCtr} (hc:zaH P X.G f c) {y a0:zG} {args:Array zG} {ts:Array zp} (ho:o.op= .call ⟨.value y,args,ts⟩) (hargs:args= #[a0]) (hgd:o.guard=none)
  {F:Frame} {E:Owns} {nx:Nat} (hy:evO F y=⟨.lit,.func (.func f) #[] #[]⟩)
  {i:Nat} (hev:evO F a0=⟨.hptr,(i,(0:Nat))⟩) {ty:zp} {vs:List V} (hbox:zl E i=some (.hbox ty vs)) {et:Ty} {j:Nat} (hk:vs[c.k]? =some ⟨.obuf et,j⟩) {xsl:List c.et.T} (hbuf:zl E j=some (.buf c.te c.et xsl))
  {x:c.self.T} (hun:unD c.self ((c.back i vs).set c.k ⟨.slice c.et,xsl⟩)=some (x,[])) (hd:zbg c.args=true) (hfl:c.res.resOk=true)
  {q:List Prop} {xs:Args c.args} (hav:zeY E false [] c.args=some (q,xs)) (hq:allP q) (hpre:allP (c.pre x xs)) (hinv:∀ w R,(∀ g,R g->w0.heap.size≤g∨X.R g)->X.G w->c.inv w R ty) {F':c.res.T->Frame} (hput:∀ y,putD n o.dst (resV c.res y) (Frame.kill j F)=some (F' y))
  {α:Type} {g:α->c.res.T×c.self.T} {e:Except (Int×Int) α} (hout:c.out x xs=toX g e) (herr:∀ er,e= .error er->Q (.panic [{ v:=pvS er,recovered:=false }]) ⟨F,(i,none)::(j,none)::E,nx⟩)
  (h:∀ a,e= .ok a->AL P w0 X n ops rest ⟨F' (g a).1,(i,some (.hbox ty (c.lv i j (g a).2)))::(j,some (.buf c.te c.et (c.sl (g a).2)))::Owns.kill j E,nx⟩ Q):AL P w0 X n ops (o::rest) ⟨F,E,nx⟩ Q:=by
 refine AL.ownV hX hc ho hargs hgd hy hev hbox hk hbuf hun hd hfl hav hq hpre hinv hput ?_;rw[hout];cases e with
 |error er=>exact herr er rfl
 |ok a=>exact h a rfl
end
theorem zlX {P:zv} {w:zi} {t:zp} {fs:Array Field} (h:P.underlying t=some (.struct fs)) (x:zg):(kB t x).run P w= .ok (.iface t x) w:=by
 unfold kB;simp[run_underlying h]
theorem zhG {P:zv} {w:zi} (t:zp) (x:zg):(Instr.panic (.iface t x)).run P w= .halt (.panic (.iface t x)) w:=by
 simp[Instr.panic,Sem.run]
@[reducible] def zuW:HCtr:=hP [i64] .unit (fun _ _=>[]) fun x xs=>.error (pvS (Tok.at x.2.1,xs.1))
theorem zuC:zaH Tryz.prog gmH 137 zuW:=by
 refine zav (K:=gmK) zak Tryz.func137 rfl rfl zbr Tryz.call137 rfl (by decide) za5 ?_;rintro w0 ⟨G,O,K,fix,D,ρ,B⟩ ty hX hG hK hρ hD hinv x ⟨(e:Int),⟨⟩⟩ hp;obtain rfl:G=gmH:=hG;obtain rfl:K=1:=hK;obtain rfl:ρ=none:=hρ;obtain rfl:D=[]:=hD;obtain⟨s,t,l,b,⟨⟩⟩:=x;change AWP _ _ _ _ _ ⟨[(0,pSelf),(1,⟨i64,e⟩)],pE ty s (t,b) l,2⟩ (pQ _ zuW ty (.error (pvS (Tok.at t,e))));(repeat(first|apply zae|apply zab|apply zac|apply zad));refine zah ?_;refine yy 7 hX zak rfl trivial ?_;refine qF rfl (fun c e=>by cases e) fun β a w' hs=>?_;have h12:RepD w' _ sto (Tok.at t,e,()) (a.eval (.tmp 10)):=hs.ops (.tmp 10);obtain⟨cs,h1,c1,c2,rfl,h2,c3,c4,rfl,h3,h4⟩:=(RepD.agg rfl).1 h12;have h2:c1=[yJ .i64 (Tok.at t)]:=h2;have h3:c3=[yJ .i64 e]:=h3;have h4:c4=[]:=h4;subst h2;subst h3;subst h4;have h1:a.eval (.tmp 10)= .agg #[.int .i64 (Tok.at t),.int .i64 e]:=h1;refine zbL (u:=pvS (Tok.at t,e)) (w':=w') ?_ ⟨⟨(11,⟨.lit,pvS (Tok.at t,e)⟩)::_,_,_⟩,β,hs.put (zU _ _) (v:=⟨.lit,pvS (Tok.at t,e)⟩) rfl (zk _) (by show 11 < 12;omega),?_⟩
 ·show (execOp a.eval { dst:=some 11,op:=Op.makeInterface 133 (.tmp 10),type:=_,pos:=_,after:=_,guard:=none }).run _ _=_;unfold execOp;simp only[h1];exact zeG (zlX Tryz.underlying133 _)
 refine qF rfl (fun c e=>by cases e) fun β a w' hs=>?_;have h13:a.eval (.tmp 11)=pvS (Tok.at t,e):=hs.ops (.tmp 11);have hrun:(execOp a.eval { dst:=none,op:=Op.panic (.tmp 11),type:=0,pos:="",after:=#[],guard:=none }).run Tryz.prog w'= .halt (.panic (pvS (Tok.at t,e))) w':=by
  unfold execOp;simp only[h13];simp[pvS,zhG]
 unfold Oper.wp
 erw [hrun]
 exact⟨fun e=>(by cases e),_,β,hs,rfl⟩
@[reducible] def zg9:HCtr:=hP [.bool,i64] .unit (fun _ _=>[]) fun x xs=>toX (fun _=>((),x)) (zaG (stOf x) xs.1 xs.2.1)
def hFail:List (zO×HCtr):=[(137,zuW)]
theorem zsd:HsOk Tryz.prog gmH hFail:=.cons zuC .nil
theorem zfe:zaH Tryz.prog gmH 81 zg9:=by
 refine zav (K:=_) zak Tryz.func81 rfl rfl zbr Tryz.call81 rfl (zb rfl) za5 ?_;rintro w0 ⟨G,O,K,fix,D,ρ,B⟩ ty hX hG hK hρ hD hinv ⟨(s:List UInt8),(t:TokT),(l:List Nd),(b:Int),⟨⟩⟩ ⟨(c:Bool),(e:Int),⟨⟩⟩ hp;obtain rfl:G=gmH:=hG;obtain rfl:K=1:=hK;obtain rfl:ρ=none:=hρ;obtain rfl:D=[]:=hD;have hI:=zaN (ty:=ty) (ty':=ty) hX rfl hinv;have hok:pOk (s,t,l,b,()):=hp;change AWP _ _ _ _ _ ⟨[(0,pSelf),(1,⟨.bool,c⟩),(2,⟨i64,e⟩)],pE ty s (t,b) l,2⟩ (pQ _ zg9 ty (toX (fun _=>((),(s,t,l,b,()))) (zaG (t,b) c e)));refine za (za ?_);refine zaa hX zak rfl ?_ ?_
 ·trivial
 cases c with
 |true=>
  refine zaf rfl (fun hb=>absurd (show false=true from hb) (by decide)) (fun _=>?_);apply zab;exact⟨.inl rfl,⟨_,rfl,nd,1,_,rfl,rfl,rfl⟩,za9 (by decide) rfl rfl trivial rfl⟩
 |false=>
  refine zaf rfl (fun _=>?_) (fun hb=>absurd (show true=false from hb) (by decide));(repeat(first|apply zae|apply zab|apply zac|apply zad));refine zah ?_;exact yl 2 hX zak zsd rfl trivial rfl rfl hok hI rfl
@[reducible] def cIs:HCtr:=hP [.str] .bool (fun _ _=>[]) fun x xs=>.ok (gIs (stOf x) xs.1,x)
theorem zr9:zaH Tryz.prog gmH 134 cIs:=by
 refine zav (K:=_) zak Tryz.func134 rfl rfl zbr Tryz.call134 rfl (zb rfl) za5 ?_;rintro w0 ⟨G,O,K,fix,D,ρ,B⟩ ty hX hG hK hρ hD hinv ⟨(s:List UInt8),(t:TokT),(l:List Nd),(b:Int),⟨⟩⟩ ⟨(u:List UInt8),⟨⟩⟩ hp;obtain rfl:G=gmH:=hG;obtain rfl:K=1:=hK;obtain rfl:ρ=none:=hρ;obtain rfl:D=[]:=hD;have hI:=zaN (ty:=ty) (ty':=ty) hX rfl hinv;change AWP _ _ _ _ _ ⟨[(0,pSelf),(1,⟨.str,u⟩)],pE ty s (t,b) l,2⟩ (pQ _ cIs ty (.ok (gIs (t,b) u,(s,t,l,b,()))));refine za (za ?_);refine zaa hX zak rfl ?_ ?_
 ·trivial
 refine za (za ?_);refine zaa hX zak rfl ?_ ?_
 ·repeat'(first|exact trivial|assumption|(refine⟨?_,?_⟩)|(intro _)|exact zb rfl|exact zn _|(simp_all [allP];done))
 refine zm ⟨.inr rfl,⟨_,rfl,nd,1,_,rfl,rfl,rfl⟩,zas rfl trivial rfl rfl ?_⟩;show (bif (bif (t.1==1) then true else (t.1==4)) then eqb .str t.2.2.2.1 u else false)=gIs (t,b) u;rw[zct,zev,zcw];rfl
@[reducible] def cAdv:HCtr:=hP [] tk (fun x _=>[]) fun x _=>.ok (x.2.1,psX x.1 (gAdv x.1 (stOf x)) x.2.2.1)
def kAd:Kn:={ gmK with C:=[(79,cScan)] }
theorem zdg:KnOk Tryz.prog gmH kAd:=zak.with (.cons ztJ .nil)
theorem zgR:zaH Tryz.prog gmH 87 cAdv:=by
 refine zav (K:=_) zdg Tryz.func87 rfl rfl zbr Tryz.call87 rfl (zb rfl) za5 ?_;rintro w0 ⟨G,O,K,fix,D,ρ,B⟩ ty hX hG hK hρ hD hinv ⟨(s:List UInt8),(t:TokT),(l:List Nd),(b:Int),⟨⟩⟩ ⟨⟩ hp;obtain rfl:G=gmH:=hG;obtain rfl:K=1:=hK;obtain rfl:ρ=none:=hρ;obtain rfl:D=[]:=hD;have hI:=zaN (ty:=ty) (ty':=ty) hX rfl hinv;have hok:pOk (s,t,l,b,()):=hp;change AWP _ _ _ _ _ ⟨[(0,pSelf)],pE ty s (t,b) l,2⟩ (pQ _ cAdv ty (.ok (t,psX s (gAdv s (t,b)) l)));refine za (za ?_);refine zaa hX zdg rfl ?_ ?_
 ·trivial
 obtain⟨⟨⟨⟨a1,a2,a3⟩,-⟩,-⟩,hlen⟩:=hok;have a1:(0:Int)≤t.2.1:=a1;have a2:(0:Int)≤t.2.2.1:=a2;have a3:t.2.1+t.2.2.1≤((s.length:Nat):Int):=a3;have hlen:s.length≤100000:=hlen;have q0:inR .i64 (t.2.1+t.2.2.1):=zaq (by omega) (by omega);have q1:(0:Int)≤t.2.1+t.2.2.1:=by omega
 refine za (za ?_);refine zaa hX zdg rfl ?_ ?_
 ·trivial
 refine za (za ?_);refine zaa hX zdg rfl ?_ ?_
 ·exact q0
 have hdr:zf (jv (t.2.1+t.2.2.1).toNat s)≤100000:=by rw[ya];omega
 refine za (za ?_);refine zaa hX zdg rfl ?_ ?_
 ·exact⟨q1,a3,hdr⟩
 obtain⟨⟨⟨b1,b2,b3⟩,-⟩,b4⟩:=zjC (s:=s) q1 a3;have hsc:=(zmS (s.drop (t.2.1+t.2.2.1).toNat)).1;have hsl:Tok.at (za2 (s.drop (t.2.1+t.2.2.1).toNat))≤100000:=by
  have:=hsc.2.2;have:=hsc.2.1;rw[ya]at *;omega
 have hsl0:=hsc.1;have q2:inR .i64 (Tok.at (za2 (s.drop (t.2.1+t.2.2.1).toNat))+(t.2.1+t.2.2.1)):=zaq (by omega) (by omega);refine za (za ?_);refine zaa hX zdg rfl ?_ ?_
 ·exact q2
 (repeat(first|apply zae|apply zab|apply zal|apply zad|apply zac|refine zaa hX zdg rfl trivial ?_|refine zaa hX zdg rfl id ?_|refine zaa hX zdg rfl ⟨id,id⟩ ?_));exact zm ⟨.inr rfl,⟨_,rfl,nd,1,_,rfl,rfl,rfl⟩,zas rfl trivial rfl rfl rfl⟩
def hEx:List (zO×HCtr):=[(134,cIs),(81,zg9),(87,cAdv)]
theorem zdW:HsOk Tryz.prog gmH hEx:=.cons zr9 <| .cons zfe <| .cons zgR .nil
@[reducible] def zgP:HCtr:=hP [.str] .unit (fun _ _=>[]) fun x xs=>toX (fun st=>((),psX x.1 st x.2.2.1)) (za0 x.1 (stOf x) xs.1)
theorem zgh:zaH Tryz.prog gmH 88 zgP:=by
 refine zav (K:=_) zak Tryz.func88 rfl rfl zbr Tryz.call88 rfl (zb rfl) za5 ?_;rintro w0 ⟨G,O,K,fix,D,ρ,B⟩ ty hX hG hK hρ hD hinv ⟨(s:List UInt8),(t:TokT),(l:List Nd),(b:Int),⟨⟩⟩ ⟨(u:List UInt8),⟨⟩⟩ hp;obtain rfl:G=gmH:=hG;obtain rfl:K=1:=hK;obtain rfl:ρ=none:=hρ;obtain rfl:D=[]:=hD;have hI:=zaN (ty:=ty) (ty':=ty) hX rfl hinv;have hok:pOk (s,t,l,b,()):=hp;change AWP _ _ _ _ _ ⟨[(0,pSelf),(1,⟨.str,u⟩)],pE ty s (t,b) l,2⟩ (pQ _ zgP ty (toX (fun st=>((),psX s st l)) (za0 s (t,b) u)));(repeat(first|apply zae|apply zab|apply zac|apply zad));refine zah ?_;refine yl 3 hX zak zdW rfl trivial rfl rfl hok hI ?_;refine zaB 0 hX zak zdW rfl trivial rfl rfl hok hI (e:=zaG (t,b) (gIs (t,b) u) 3) rfl (fun er h=>?_) (fun a h=>?_)
 ·unfold za0;rw[zao h];exact zg0
 unfold za0;rw[zar h];refine yf ?_;(repeat(first|apply zae|apply zab|apply zac|apply zad));refine zah ?_;refine yl 1 hX zak zdW rfl trivial rfl rfl hok hI ?_;refine yf ?_;exact⟨.inl rfl,⟨_,rfl,nd,1,_,rfl,rfl,rfl⟩,za9 (by decide) rfl rfl trivial rfl⟩
@[reducible] def zlD:HCtr:=hP [] .unit (fun _ _=>[]) fun x _=>toX (fun st=>((),psX x.1 st x.2.2.1)) (zbj x.1 (stOf x))
theorem zke:zaH Tryz.prog gmH 135 zlD:=by
 refine zav (K:=_) zak Tryz.func135 rfl rfl zbr Tryz.call135 rfl (zb rfl) za5 ?_;rintro w0 ⟨G,O,K,fix,D,ρ,B⟩ ty hX hG hK hρ hD hinv ⟨(s:List UInt8),(t:TokT),(l:List Nd),(b:Int),⟨⟩⟩ ⟨⟩ hp;obtain rfl:G=gmH:=hG;obtain rfl:K=1:=hK;obtain rfl:ρ=none:=hρ;obtain rfl:D=[]:=hD;have hI:=zaN (ty:=ty) (ty':=ty) hX rfl hinv;have hok:pOk (s,t,l,b,()):=hp;change AWP _ _ _ _ _ ⟨[(0,pSelf)],pE ty s (t,b) l,2⟩ (pQ _ zlD ty (toX (fun st=>((),psX s st l)) (zbj s (t,b))));(repeat(first|apply zae|apply zab|apply zac|apply zad));refine zah ?_;refine zaB 6 hX zak zdW rfl trivial rfl rfl hok hI (e:=zaG (t,b) (decide (b < 64)) 2) rfl (fun er h=>?_) (fun a h=>?_)
 ·unfold zbj;rw[zao h];exact zg0
 unfold zbj;rw[zar h];have hb:=of_decide_eq_true (zbb h);obtain⟨⟨g1,g2,g3⟩,hlen⟩:=id hok;have g2:(0:Int)≤b:=g2;have q0:inR .i64 (b+1):=zaq (by omega) (by omega);have hok2:pOk (s,t,l,b+1,()):=⟨⟨g1,(by omega:(0:Int)≤b+1),(by omega:b+1≤64)⟩,hlen⟩;refine yf ?_;refine za (za ?_);refine zaa hX zak rfl ?_ ?_
 ·exact q0
 (repeat(first|apply zae|apply zab|apply zac|apply zad));refine zah ?_;refine yl 1 hX zak zdW rfl trivial rfl rfl hok2 hI ?_;refine yf ?_;exact⟨.inl rfl,⟨_,rfl,nd,1,_,rfl,rfl,rfl⟩,za9 (by decide) rfl rfl trivial rfl⟩
@[reducible] def zgO:HCtr:=hP [i64,i64] i64 (fun _ _=>[]) fun x xs=>toX (fun r=>(r.1,psX x.1 r.2 x.2.2.1)) (zaR x.1 (stOf x) xs.1 xs.2.1)
theorem zf2:zaH Tryz.prog gmH 202 zgO:=by
 refine zav (K:=_) zak Tryz.func202 rfl rfl zbr Tryz.call202 rfl (zb rfl) za5 ?_;rintro w0 ⟨G,O,K,fix,D,ρ,B⟩ ty hX hG hK hρ hD hinv ⟨(s:List UInt8),(t:TokT),(l:List Nd),(b:Int),⟨⟩⟩ ⟨(lo:Int),(hi:Int),⟨⟩⟩ hp;obtain rfl:G=gmH:=hG;obtain rfl:K=1:=hK;obtain rfl:ρ=none:=hρ;obtain rfl:D=[]:=hD;have hI:=zaN (ty:=ty) (ty':=ty) hX rfl hinv;have hok:pOk (s,t,l,b,()):=hp;change AWP _ _ _ _ _ ⟨[(0,pSelf),(1,⟨i64,lo⟩),(2,⟨i64,hi⟩)],pE ty s (t,b) l,2⟩ (pQ _ zgO ty (toX (fun r=>(r.1,psX s r.2 l)) (zaR s (t,b) lo hi)));unfold zaR;refine za (za ?_);refine zaa hX zak rfl ?_ ?_
 ·trivial
 (repeat(first|apply zae|apply zab|apply zac|apply zad));refine zah ?_;refine zaB 7 hX zak zdW rfl trivial rfl rfl hok hI (e:=zaG (t,b) (zF t==3) 3) rfl (fun er h=>?_) (fun a h=>?_)
 ·rw[zao h];exact zg0
 rw[zar h];refine yf ?_;(repeat(first|apply zae|apply zab|apply zac|apply zad));refine zah ?_;refine qC (σ':=⟨[(0,pSelf),(1,⟨i64,lo⟩),(2,⟨i64,hi⟩)],pE ty s (t,b) l,2⟩) ⟨⟨rfl,rfl,rfl,trivial⟩,⟨rfl,rfl,trivial⟩,rfl,rfl⟩ ?_;refine zaB 17 hX zak zdW rfl ?_ rfl rfl hok hI (e:=zaG (t,b) (bif decide (lo≤xH t) then decide (xH t≤hi) else false) 1) rfl (fun er h=>?_) (fun a h=>?_)
 ·repeat'(first|exact trivial|assumption|(refine⟨?_,?_⟩)|(intro _)|exact zb rfl|exact zn _|(simp_all [allP];done))
 ·rw[zct]at h;rw[zao h];exact zg0
 rw[zct]at h;rw[zar h];refine yf ?_;refine zam (σ':=⟨[(0,pSelf),(1,⟨i64,lo⟩),(2,⟨i64,hi⟩)],pE ty s (t,b) l,2⟩) ⟨⟨rfl,rfl,rfl,trivial⟩,⟨rfl,rfl,trivial⟩,rfl,rfl⟩ ?_;(repeat(first|apply zae|apply zab|apply zac|apply zad));refine zah ?_;refine yl 1 hX zak zdW rfl trivial rfl rfl hok hI ?_;refine zY hX zak rfl trivial ?_;exact zm ⟨.inr rfl,⟨_,rfl,nd,1,_,rfl,rfl,rfl⟩,zas rfl trivial rfl rfl rfl⟩
@[reducible] def ziw:HCtr:=hP [] i64 (fun _ _=>[]) fun x _=>toX (fun r=>(r.1,psX x.1 r.2 x.2.2.1)) (gCal x.1 (stOf x))
def hCal:List (zO×HCtr):=[(202,zgO)]
theorem zun:HsOk Tryz.prog gmH hCal:=.cons zf2 .nil
theorem zmu:zaH Tryz.prog gmH 209 ziw:=by
 refine zav (K:=_) zak Tryz.func209 rfl rfl zbr Tryz.call209 rfl (zb rfl) za5 ?_;rintro w0 ⟨G,O,K,fix,D,ρ,B⟩ ty hX hG hK hρ hD hinv ⟨(s:List UInt8),(t:TokT),(l:List Nd),(b:Int),⟨⟩⟩ ⟨⟩ hp;obtain rfl:G=gmH:=hG;obtain rfl:K=1:=hK;obtain rfl:ρ=none:=hρ;obtain rfl:D=[]:=hD;have hI:=zaN (ty:=ty) (ty':=ty) hX rfl hinv;have hok:pOk (s,t,l,b,()):=hp;change AWP _ _ _ _ _ ⟨[(0,pSelf)],pE ty s (t,b) l,2⟩ (pQ _ ziw ty (toX (fun r=>(r.1,psX s r.2 l)) (zaR s (t,b) 0 2)));refine za (za ?_);refine zaa hX zak rfl ?_ ?_
 ·trivial
 (repeat(first|apply zae|apply zab|apply zac|apply zad));refine zah ?_;refine zaB 1 hX zak zun rfl trivial rfl rfl hok hI (e:=zaR s (t,b) 0 2) rfl (fun er h=>?_) (fun a h=>?_)
 ·rw[h];exact zg0
 rw[h];refine zY hX zak rfl trivial ?_;exact zm ⟨.inr rfl,⟨_,rfl,nd,1,_,rfl,rfl,rfl⟩,zas rfl trivial rfl rfl rfl⟩
@[reducible] def zqJ:HCtr:=hP [] i64 (fun _ _=>[]) fun x _=>toX (fun r=>(r.1,psX x.1 r.2 x.2.2.1)) (zdt x.1 (stOf x))
theorem zrm:zaH Tryz.prog gmH 210 zqJ:=by
 refine zav (K:=_) zak Tryz.func210 rfl rfl zbr Tryz.call210 rfl (zb rfl) za5 ?_;rintro w0 ⟨G,O,K,fix,D,ρ,B⟩ ty hX hG hK hρ hD hinv ⟨(s:List UInt8),(t:TokT),(l:List Nd),(b:Int),⟨⟩⟩ ⟨⟩ hp;obtain rfl:G=gmH:=hG;obtain rfl:K=1:=hK;obtain rfl:ρ=none:=hρ;obtain rfl:D=[]:=hD;have hI:=zaN (ty:=ty) (ty':=ty) hX rfl hinv;have hok:pOk (s,t,l,b,()):=hp;change AWP _ _ _ _ _ ⟨[(0,pSelf)],pE ty s (t,b) l,2⟩ (pQ _ zqJ ty (toX (fun r=>(r.1,psX s r.2 l)) (zdt s (t,b))));unfold zdt;refine za (za ?_);refine zaa hX zak rfl ?_ ?_
 ·trivial
 (repeat(first|apply zae|apply zab|apply zac|apply zad));refine zah ?_;refine yl 2 hX zak zdW rfl trivial rfl rfl hok hI ?_;cases hm:gIs (t,b) zfj with
 |true=>
  rw[qR];refine qC (σ':=⟨[(0,pSelf),(3,pSelf),(5,⟨.bool,true⟩)],pE ty s (t,b) l,2⟩) ⟨⟨rfl,rfl,zbz hm,trivial⟩,⟨rfl,rfl,trivial⟩,rfl,rfl⟩ ?_;refine yy 1 hX zak rfl trivial ?_;refine yU 3 6 false .bool false rfl rfl rfl rfl rfl rfl ?_;refine yU 3 6 false .bool false rfl rfl rfl rfl rfl rfl ?_;refine yl 1 hX zak zdW rfl id rfl rfl hok hI ?_;refine yf ?_;refine zam (σ':=⟨[(0,pSelf)],pE ty s (t,b) l,2⟩) ⟨⟨rfl,trivial⟩,⟨rfl,rfl,trivial⟩,rfl,rfl⟩ ?_;(repeat(first|apply zae|apply zab|apply zac|apply zad));refine zah ?_;refine yl 1 hX zak zdW rfl trivial rfl rfl hok hI ?_;refine zY hX zak rfl trivial ?_;refine zaf rfl (fun hb=>?_) (fun hb=>?_)
  ·have hb:eqb .str t.2.2.2.1 zdv=true:=hb;have hb:zD t=zdv:=zay.1 hb;(repeat(first|apply zae|apply zab|apply zal|apply zad|apply zac|refine zaa hX zak rfl trivial ?_|refine zaa hX zak rfl id ?_|refine zaa hX zak rfl ⟨id,id⟩ ?_));refine zm ⟨.inr rfl,⟨_,rfl,nd,1,_,rfl,rfl,rfl⟩,zas rfl trivial rfl rfl ?_⟩;show (1:Int)=if zD t=zdv then 1 else 0
   rw[if_pos hb]
  ·have hb:eqb .str t.2.2.2.1 zdv=false:=hb;have hb:¬ zD t=zdv:=fun h=>by rw[zay.2 h]at hb;cases hb
   (repeat(first|apply zae|apply zab|apply zal|apply zad|apply zac|refine zaa hX zak rfl trivial ?_|refine zaa hX zak rfl id ?_|refine zaa hX zak rfl ⟨id,id⟩ ?_));refine zm ⟨.inr rfl,⟨_,rfl,nd,1,_,rfl,rfl,rfl⟩,zas rfl trivial rfl rfl ?_⟩;show (0:Int)=if zD t=zdv then 1 else 0
   rw[if_neg hb]
 |false=>
  rw[xi];refine qC (σ':=⟨[(0,pSelf),(3,pSelf),(5,⟨.bool,false⟩)],pE ty s (t,b) l,2⟩) ⟨⟨rfl,rfl,zbz hm,trivial⟩,⟨rfl,rfl,trivial⟩,rfl,rfl⟩ ?_;refine yy 1 hX zak rfl trivial ?_;refine qY 3 6 false rfl rfl rfl rfl ?_;refine yy 1 hX zak rfl trivial ?_;refine qY 3 6 false rfl rfl rfl rfl ?_;refine yl 0 hX zak zdW rfl trivial rfl rfl hok hI ?_;refine zaB 1 hX zak zdW rfl trivial rfl rfl hok hI (e:=zaG (t,b) (gIs (t,b) zdv) 3) rfl (fun er h=>?_) (fun a h=>?_)
  ·rw[zao h];exact zg0
  rw[zar h];refine yf ?_;refine zam (σ':=⟨[(0,pSelf)],pE ty s (t,b) l,2⟩) ⟨⟨rfl,trivial⟩,⟨rfl,rfl,trivial⟩,rfl,rfl⟩ ?_;(repeat(first|apply zae|apply zab|apply zac|apply zad));refine zah ?_;refine yl 1 hX zak zdW rfl trivial rfl rfl hok hI ?_;refine zY hX zak rfl trivial ?_;refine zaf rfl (fun hb=>?_) (fun hb=>?_)
  ·have hb:eqb .str t.2.2.2.1 zdv=true:=hb;have hb:zD t=zdv:=zay.1 hb;(repeat(first|apply zae|apply zab|apply zal|apply zad|apply zac|refine zaa hX zak rfl trivial ?_|refine zaa hX zak rfl id ?_|refine zaa hX zak rfl ⟨id,id⟩ ?_));refine zm ⟨.inr rfl,⟨_,rfl,nd,1,_,rfl,rfl,rfl⟩,zas rfl trivial rfl rfl ?_⟩;show (1:Int)=if zD t=zdv then 1 else 0
   rw[if_pos hb]
  ·have hb:eqb .str t.2.2.2.1 zdv=false:=hb;have hb:¬ zD t=zdv:=fun h=>by rw[zay.2 h]at hb;cases hb
   (repeat(first|apply zae|apply zab|apply zal|apply zad|apply zac|refine zaa hX zak rfl trivial ?_|refine zaa hX zak rfl id ?_|refine zaa hX zak rfl ⟨id,id⟩ ?_));refine zm ⟨.inr rfl,⟨_,rfl,nd,1,_,rfl,rfl,rfl⟩,zas rfl trivial rfl rfl ?_⟩;show (0:Int)=if zD t=zdv then 1 else 0
   rw[if_neg hb]
@[reducible] def cAdd:HCtr:=hP [nd] i64 (fun x _=>[zf x.2.2.1≤100000]) fun x xs=>.ok (((x.2.2.1.length:Nat):Int),psX x.1 (stOf x) (x.2.2.1++ [xs.1]))
theorem zqY:zaH Tryz.prog gmH 136 cAdd:=by
 refine zav (K:=_) zak Tryz.func136 rfl rfl zbr Tryz.call136 rfl (zb rfl) za5 ?_;rintro w0 ⟨G,O,K,fix,D,ρ,B⟩ ty hX hG hK hρ hD hinv ⟨(s:List UInt8),(t:TokT),(l:List Nd),(b:Int),⟨⟩⟩ ⟨(m:Nd),⟨⟩⟩ hp;obtain rfl:G=gmH:=hG;obtain rfl:K=1:=hK;obtain rfl:ρ=none:=hρ;obtain rfl:D=[]:=hD;have hI:=zaN (ty:=ty) (ty':=ty) hX rfl hinv;obtain⟨hok,hl⟩:pOk (s,t,l,b,())∧l.length≤100000:=hp;change AWP _ _ _ _ _ ⟨[(0,pSelf),(1,⟨nd,m⟩)],pE ty s (t,b) l,2⟩ (pQ _ cAdd ty (.ok (((l.length:Nat):Int),psX s (t,b) (l++ [m]))));refine za (za ?_);refine zaa hX zak rfl ?_ ?_
 ·trivial
 have hcap:l.length+1≤1000000000:=by omega
 apply zae;refine AWP.drawF (d:=5) (src:=.tmp 0) rfl (.cons (.of_eq (xv _) rfl (by intro h;cases h) (by intro t h;cases h;intro h;cases h) (.inr (by intro ev ev' h;simp[execOp,resolve,h]))) <| .cons (.of_eq (xv _) rfl (by intro h;cases h) (by intro t h;cases h;intro h;cases h) (.inr (by intro ev ev' h;simp[execOp,resolve,h]))) <| .cons (.of_eq (xv _) rfl (by intro h;cases h) (by intro t h;cases h;intro h;cases h) (.inr (by intro ev ev' h;simp[execOp,resolve,h]))) <| .cons (.of_eq (xv _) rfl (by intro h;cases h) (by intro t h;cases h;intro h;cases h) (.inr (by intro ev ev' h;simp[execOp,resolve,h]))) <| .cons (.of_eq (xv _) rfl (by intro h;cases h) (by intro t h;cases h;intro h;cases h) (.inr (by intro ev ev' h;simp[execOp,resolve,h]))) <| .cons (.of_eq (xv _) rfl (by intro h;cases h) (by intro t h;cases h;intro h;cases h) (.inr (by intro ev ev' h;simp[execOp,resolve,h]))) <| .cons (.edge 0 rfl (by intro h;cases h) (by intro t h;cases h;intro h;cases h) (.inr (by intro ev ev' h;simp[execOp,resolve,h]))) <| .cons (.of_eq (xv _) rfl (by intro h;cases h) (by intro t h;cases h;intro h;cases h) (.inl ⟨_,Array.mem_of_getElem? (i:=0) rfl,by decide,rfl⟩)) <| .cons (.of_eq (xv _) rfl (by intro h;cases h) (by intro t h;cases h;intro h;cases h) (.inr (by intro ev ev' h;simp[execOp,resolve,h]))) <| .cons (.of_eq (xv _) rfl (by intro h;cases h) (by intro t h;cases h;intro h;cases h) (.inr (by intro ev ev' h;simp[execOp,resolve,h]))) <| .nil) rfl rfl rfl rfl (by intro h;cases h) dM hX zak 7 (by kernel_rfl) rfl rfl ?_ ?_ ?_
 ·trivial
 ·exact hcap
 have q0:inR .i64 ((((l++ [m]).length:Nat):Int) - 1):=by rw[show (l++ [m]).length=l.length+1 by simp];exact zaq (by omega) (by omega)
 refine za (za ?_);refine zaa hX zak rfl ?_ ?_
 ·exact q0
 refine zm ⟨.inr rfl,⟨_,rfl,nd,1,_,rfl,rfl,rfl⟩,zas rfl trivial rfl rfl ?_⟩;show (((l++ [m]).length:Nat):Int) - 1=((l.length:Nat):Int);rw[zh];simp
@[reducible] def zuV:HCtr:=hP [i64,i64,.bool] ints (fun _ xs=>[-1000≤xs.1,xs.1≤1000]) fun x xs=>toX (fun r=>(r.1,psX x.1 r.2 x.2.2.1)) (zdc x.1 (stOf x) xs.1 xs.2.1 xs.2.2.1)
def hLi:List (zO×HCtr):=[(134,cIs),(81,zg9),(88,zgP),(202,zgO)]
theorem zg4:HsOk Tryz.prog gmH hLi:=.cons zr9 <| .cons zfe <| .cons zgh <| .cons zf2 .nil
@[reducible] def lS (ty:zp) (s:List UInt8) (l:List Nd) (lo hi:Int) (z:Bool) (st:GSt) (acc:List Int):AS:=
 ⟨[(0,pSelf),(1,⟨i64,lo⟩),(2,⟨i64,hi⟩),(3,⟨.bool,z⟩),(9,⟨.obuf i64,(2:Nat)⟩),(10,⟨i64,acc.getLast?.getD (lo - 1)⟩)],[(0,some (pBox ty s st)),(1,some (.buf 73 nd l)),(2,some (.buf 3 i64 acc))],3⟩
theorem lt64 (n:Nat):decide (((n:Nat):Int) < 64)=decide (n < 64):=by
 rw[yb,decide_eq_true_iff,decide_eq_true_iff];omega
theorem zuq {s:List UInt8} {lo hi:Int} {z:Bool} {j:Nat} {st:GSt} {acc:List Int} (h:(!acc.isEmpty&&gIs st zbu)=false):zci s lo hi z (j+1) st acc=(zaG st (zF st.1==3) 3 >>= fun _=>zaG st (decide (acc.length < 64)) 2 >>= fun _=>zaG st (decide (xH st.1 > acc.getLast?.getD (lo - 1))&&(z||(xH st.1 != 0))) 1 >>= fun _=>zaR s st lo hi >>= fun p=>zci s lo hi z j p.2 (acc++ [p.1])):=by
 rw[zci,if_neg (by rw[h];decide)]
theorem zt4:zaH Tryz.prog gmH 206 zuV:=by
 refine zav (K:=_) zak Tryz.func206 rfl rfl zbr Tryz.call206 rfl (zb rfl) za5 ?_;rintro w0 ⟨G,O,K,fix,D,ρ,B⟩ ty hX hG hK hρ hD hinv ⟨(s:List UInt8),(t:TokT),(l:List Nd),(b:Int),⟨⟩⟩ ⟨(lo:Int),(hi:Int),(z:Bool),⟨⟩⟩ hp;obtain rfl:G=gmH:=hG;obtain rfl:K=1:=hK;obtain rfl:ρ=none:=hρ;obtain rfl:D=[]:=hD;have hI:=zaN (ty:=ty) (ty':=ty) hX rfl hinv;obtain⟨hok,hlo1,hlo2⟩:pOk (s,t,l,b,())∧ -1000≤lo∧lo≤1000:=hp;change AWP _ _ _ _ _ ⟨[(0,pSelf),(1,⟨i64,lo⟩),(2,⟨i64,hi⟩),(3,⟨.bool,z⟩)],pE ty s (t,b) l,2⟩ (pQ _ zuV ty (toX (fun r=>(r.1,psX s r.2 l)) (zdc s (t,b) lo hi z)));unfold zdc;(repeat(first|apply zae|apply zab|apply zal|apply zad|apply zac|refine zaa hX zak rfl trivial ?_|refine zaa hX zak rfl id ?_|refine zaa hX zak rfl ⟨id,id⟩ ?_));(repeat(first|apply zae|apply zab|apply zac|apply zad));refine zah ?_;refine zaB 1 hX zak zg4 rfl trivial rfl rfl hok hI (e:=za0 s (t,b) zc6) rfl (fun er h=>?_) (fun st1 h=>?_)
 ·rw[zao h];exact zg0
 rw[zar h];have hok1:GOk s st1:=(zbm hok.1 h).1;have hsl:s.length≤100000:=hok.2;refine yf ?_;refine za (za ?_);refine zaa hX zak rfl ?_ ?_
 ·exact zaq (by omega) (by omega)
 refine AWP.nilBuf hX 9 3 i64 rfl rfl rfl ?_;apply zac;refine yD (ι:=Nat×GSt×List Int) (fun i=>lS ty s l lo hi z i.2.1 i.2.2) (fun i=>zci s lo hi z 66 st1 []=zci s lo hi z i.1 i.2.1 i.2.2∧i.2.2.length+i.1=66∧GOk s i.2.1∧i.2.2.length≤64) (fun i=>i.1) (66,st1,[]) ⟨rfl,rfl,hok1,zk _⟩ ⟨⟨rfl,rfl,rfl,rfl,rfl,rfl,trivial⟩,⟨rfl,rfl,rfl,trivial⟩,rfl,rfl⟩ ?_;rintro ⟨k,st,acc⟩ ⟨heq,hk,hst,hacc⟩;have hst2:pOk (s,st.1,l,st.2,()):=⟨hst,hsl⟩;have heq:zci s lo hi z 66 st1 []=zci s lo hi z k st acc:=heq;have hk:acc.length+k=66:=hk;have hacc:acc.length≤64:=hacc;obtain⟨j,rfl⟩:∃ j,k=j+1:=⟨k - 1,by omega⟩;rw[heq];obtain⟨R,hR⟩:∃ R,R=zci s lo hi z (j+1) st acc:=⟨_,rfl⟩;rw[<-hR];have hR0:=hR;apply zae;by_cases htest:(!acc.isEmpty&&gIs st zbu)=true
 ·obtain⟨hne,hcl⟩:=(zd _ _).mp htest;have hR2:R= .ok (acc,st):=hR.trans (if_pos htest);have hlen:(((acc.length:Nat):Int)==0)=false:=by
   cases acc with
   |nil=>cases hne
   |cons a r=>rw[zr];exact beq_false_of_ne (by omega)
  apply zae;refine zah ?_;refine yy 4 hX zak rfl trivial ?_;refine qC (σ':=⟨[(0,pSelf),(9,⟨.obuf i64,(2:Nat)⟩),(18,⟨.bool,false⟩)],[(0,some (pBox ty s st)),(1,some (.buf 73 nd l)),(2,some (.buf 3 i64 acc))],3⟩) ⟨⟨rfl,rfl,zbz hlen,trivial⟩,⟨rfl,rfl,rfl,trivial⟩,rfl,rfl⟩ ?_;refine qY 3 18 false rfl rfl rfl rfl ?_;refine yy 1 hX zak rfl trivial ?_;refine qY 3 18 false rfl rfl rfl rfl ?_;refine yl 0 hX zak zg4 rfl trivial rfl rfl hst2 hI ?_;refine qY 3 18 false rfl rfl rfl rfl ?_;refine zY hX zak rfl trivial ?_;refine zaf rfl (fun hb=>?_) (fun _=>?_)
  ·have hb:(!gIs st zbu)=true:=hb;rw[hcl]at hb;cases hb
  apply zad;rw[zar hR2];refine zam (σ':=⟨[(0,pSelf),(9,⟨.obuf i64,(2:Nat)⟩)],[(0,some (pBox ty s st)),(1,some (.buf 73 nd l)),(2,some (.buf 3 i64 acc))],3⟩) ⟨⟨rfl,rfl,trivial⟩,⟨rfl,rfl,rfl,trivial⟩,rfl,rfl⟩ ?_;(repeat(first|apply zae|apply zab|apply zac|apply zad));refine zah ?_;refine zaB 1 hX zak zg4 rfl trivial rfl rfl hst2 hI (e:=za0 s st zbu) rfl (fun er h=>?_) (fun st2 h=>?_)
  ·rw[zao h];exact zg0
  rw[zar h];refine yf ?_;refine AWP.frz hX 9 ?_;(repeat(first|apply zae|apply zab|apply zal|apply zad|apply zac|refine zaa hX zak rfl trivial ?_|refine zaa hX zak rfl id ?_|refine zaa hX zak rfl ⟨id,id⟩ ?_));exact zm ⟨.inr rfl,⟨_,rfl,nd,1,_,rfl,rfl,rfl⟩,zas rfl trivial rfl rfl rfl⟩
 have htest:(!acc.isEmpty&&gIs st zbu)=false:=by simpa using htest
 refine xM (σ':=lS ty s l lo hi z st acc) ?_ ?_
 ·apply zae;refine zah ?_;refine yy 4 hX zak rfl trivial ?_;cases acc with
  |nil=>
   refine qC (σ':=⟨[(0,pSelf),(1,⟨i64,lo⟩),(2,⟨i64,hi⟩),(3,⟨.bool,z⟩),(9,⟨.obuf i64,(2:Nat)⟩),(10,⟨i64,([]:List Int).getLast?.getD (lo - 1)⟩),(18,⟨.bool,true⟩)],[(0,some (pBox ty s st)),(1,some (.buf 73 nd l)),(2,some (.buf 3 i64 []))],3⟩) ⟨⟨rfl,rfl,rfl,rfl,rfl,rfl,rfl,trivial⟩,⟨rfl,rfl,rfl,trivial⟩,rfl,rfl⟩ ?_;refine yU 3 18 false .bool false rfl rfl rfl rfl rfl rfl ?_;refine yU 3 18 false .bool false rfl rfl rfl rfl rfl rfl ?_;refine yU 3 18 false .bool false rfl rfl rfl rfl rfl rfl ?_;refine zY hX zak rfl id ?_;refine zaf rfl (fun _=>?_) (fun hb=>absurd (show true=false from hb) (by decide));apply zab;exact⟨⟨rfl,rfl,rfl,rfl,rfl,rfl,trivial⟩,⟨rfl,rfl,rfl,trivial⟩,rfl,rfl⟩
  |cons a r=>
   have hcl:gIs st zbu=false:=htest;have hlen:(((((a::r:List Int)).length:Nat):Int)==0)=false:=by
    rw[zr];exact beq_false_of_ne (by omega)
   refine qC (σ':=⟨[(0,pSelf),(1,⟨i64,lo⟩),(2,⟨i64,hi⟩),(3,⟨.bool,z⟩),(9,⟨.obuf i64,(2:Nat)⟩),(10,⟨i64,(a::r:List Int).getLast?.getD (lo - 1)⟩),(18,⟨.bool,false⟩)],[(0,some (pBox ty s st)),(1,some (.buf 73 nd l)),(2,some (.buf 3 i64 (a::r)))],3⟩) ⟨⟨rfl,rfl,rfl,rfl,rfl,rfl,zbz hlen,trivial⟩,⟨rfl,rfl,rfl,trivial⟩,rfl,rfl⟩ ?_;refine qY 3 18 false rfl rfl rfl rfl ?_;refine yy 1 hX zak rfl trivial ?_;refine qY 3 18 false rfl rfl rfl rfl ?_;refine yl 0 hX zak zg4 rfl trivial rfl rfl hst2 hI ?_;refine qY 3 18 false rfl rfl rfl rfl ?_;refine zY hX zak rfl trivial ?_;refine zaf rfl (fun _=>?_) (fun hb=>?_)
   ·apply zab;exact⟨⟨rfl,rfl,rfl,rfl,rfl,rfl,trivial⟩,⟨rfl,rfl,rfl,trivial⟩,rfl,rfl⟩
   ·have hb:(!gIs st zbu)=false:=hb;rw[hcl]at hb;cases hb
 have hR:=hR.trans (zuq htest);apply zae;apply zac;(repeat(first|apply zae|apply zab|apply zac|apply zad));refine zah ?_;refine zaB 7 hX zak zg4 rfl trivial rfl rfl hst2 hI (e:=zaG st (zF st.1==3) 3) rfl (fun er h=>?_) (fun u1 h1=>?_)
 ·rw[zao (hR.trans (by first|(rw[h];done)|(rw[h];rfl)))];exact rfl
 replace hR:=hR.trans (show _=_ by rw[h1])
 refine yf ?_;refine zam (σ':=lS ty s l lo hi z st acc) ⟨⟨rfl,rfl,rfl,rfl,rfl,rfl,trivial⟩,⟨rfl,rfl,rfl,trivial⟩,rfl,rfl⟩ ?_;(repeat(first|apply zae|apply zab|apply zac|apply zad));refine zah ?_;refine zaB 4 hX zak zg4 rfl trivial rfl rfl hst2 hI (e:=zaG st (decide (((acc.length:Nat):Int) < 64)) 2) rfl (fun er h=>?_) (fun u2 h2=>?_)
 ·rw[lt64]at h;rw[zao (hR.trans (by first|(rw[h];done)|(rw[h];rfl)))];exact rfl
 rw[lt64]at h2;have hacc64:=of_decide_eq_true (zbb h2)
 replace hR:=hR.trans (show _=_ by rw[h2])
 refine yf ?_;refine zam (σ':=lS ty s l lo hi z st acc) ⟨⟨rfl,rfl,rfl,rfl,rfl,rfl,trivial⟩,⟨rfl,rfl,rfl,trivial⟩,rfl,rfl⟩ ?_;(repeat(first|apply zae|apply zab|apply zac|apply zad));refine zah ?_;refine zaB 19 hX zak zg4 rfl ?_ rfl rfl hst2 hI (e:=zaG st (bif decide (xH st.1 > acc.getLast?.getD (lo - 1)) then (bif z then true else !(xH st.1==0)) else false) 1) rfl (fun er h=>?_) (fun u3 h3=>?_)
 ·repeat'(first|exact trivial|assumption|(refine⟨?_,?_⟩)|(intro _)|exact zb rfl|exact zn _|(simp_all [allP];done))
 ·rw[zct,zev]at h;rw[zao (hR.trans (by rw[show (xH st.1 != 0)= !(xH st.1==0) from rfl,h];first|done|rfl))];exact rfl
 rw[zct,zev]at h3
 replace hR:=hR.trans (show _=_ by rw[show (xH st.1 != 0)= !(xH st.1==0) from rfl,h3])
 refine yf ?_;refine zam (σ':=lS ty s l lo hi z st acc) ⟨⟨rfl,rfl,rfl,rfl,rfl,rfl,trivial⟩,⟨rfl,rfl,rfl,trivial⟩,rfl,rfl⟩ ?_;(repeat(first|apply zae|apply zab|apply zac|apply zad));refine zah ?_;refine zaB 4 hX zak zg4 rfl trivial rfl rfl hst2 hI (e:=zaR s st lo hi) rfl (fun er h=>?_) (fun p h4=>?_)
 ·rw[zao (hR.trans (by first|(rw[h];done)|(rw[h];rfl)))];exact rfl
 obtain⟨x,st2⟩:=p
 replace hR:=hR.trans (show _=zci s lo hi z j st2 (acc++ [x]) by rw[h4];rfl)
 have hst3:=(zan hst h4).1.1;have hcap:acc.length+1≤1000000000:=by omega
 refine zY hX zak rfl hcap ?_;have hla:(acc++ [x]).length=acc.length+1:=by simp
 have q0:inR .i64 ((((acc++ [x]).length:Nat):Int) - 1):=zaq (by omega) (by omega);have q1:(0:Int)≤(((acc++ [x]).length:Nat):Int) - 1:=by omega
 have q2:(((acc++ [x]).length:Nat):Int) - 1 < (((acc++ [x]).length:Nat):Int):=by omega
 have q3:((((acc++ [x]).length:Nat):Int) - 1).toNat < (acc++ [x]).length:=by omega
 refine zam (σ':=⟨[(0,pSelf),(1,⟨i64,lo⟩),(2,⟨i64,hi⟩),(3,⟨.bool,z⟩),(9,⟨.obuf i64,(2:Nat)⟩)],[(0,some (pBox ty s st2)),(1,some (.buf 73 nd l)),(2,some (.buf 3 i64 (acc++ [x])))],3⟩) ⟨⟨rfl,rfl,rfl,rfl,rfl,trivial⟩,⟨rfl,rfl,rfl,trivial⟩,rfl,rfl⟩ ?_;refine za (za ?_);refine zaa hX zak rfl ?_ ?_
 ·exact⟨q0,q1,q2,q3⟩
 refine⟨(j,st2,acc++ [x]),⟨hR0▸hR,by show (acc++ [x]).length+j=66;omega,hst3,by show (acc++ [x]).length≤64;omega⟩,xd j,⟨rfl,rfl,rfl,rfl,rfl,vI64 ?_,trivial⟩,⟨rfl,rfl,rfl,trivial⟩,rfl,rfl⟩;show (acc++ [x]).getD ((((acc++ [x]).length:Nat):Int) - 1).toNat 0=(acc++ [x]).getLast?.getD (lo - 1);rw[show ((((acc++ [x]).length:Nat):Int) - 1).toNat=acc.length by omega];simp
def hFd:List (zO×HCtr):=[(202,zgO),(209,ziw),(210,zqJ),(206,zuV),(81,zg9)]
theorem zb8:HsOk Tryz.prog gmH hFd:=.cons zf2 <| .cons zmu <| .cons zrm <| .cons zt4 <| .cons zfe .nil
theorem nthT (a b:Bool):(bif !a then true else !b)=((!a)||(!b)):=by cases a<;>rfl
@[reducible] def zdJ (w:LeafW):HCtr:=hP [] nd (fun _ _=>[]) fun x _=>toX (fun r=>(r.1,psX x.1 r.2 x.2.2.1)) (zcl x.1 (stOf x) w)
@[reducible] def zgN (w:SufW):HCtr:=hP [] nd (fun _ _=>[]) fun x _=>toX (fun r=>(r.1,psX x.1 r.2 x.2.2.1)) (gSuf x.1 (stOf x) w)
theorem zsm:zaH Tryz.prog gmH 237 (zdJ .days):=by
 refine zav (K:=_) zak Tryz.func237 rfl rfl zbr Tryz.call237 rfl (zb rfl) za5 ?_;rintro w0 ⟨G,O,K,fix,D,ρ,B⟩ ty hX hG hK hρ hD hinv ⟨(s:List UInt8),(t:TokT),(l:List Nd),(b:Int),⟨⟩⟩ ⟨⟩ hp;obtain rfl:G=gmH:=hG;obtain rfl:K=1:=hK;obtain rfl:ρ=none:=hρ;obtain rfl:D=[]:=hD;have hI:=zaN (ty:=ty) (ty':=ty) hX rfl hinv;have hok0:pOk (s,t,l,b,()):=hp;change AWP _ _ _ _ _ ⟨[(0,pSelf)],pE ty s (t,b) l,2⟩ (pQ _ (zdJ .days) ty (toX (fun r=>(r.1,psX s r.2 l)) (zcl s (t,b) .days)));unfold zcl;refine za (za ?_);refine zaa hX zak rfl ?_ ?_
 ·trivial
 (repeat(first|apply zae|apply zab|apply zac|apply zad));refine zah ?_;refine zaB 1 hX zak zb8 rfl trivial rfl rfl hok0 hI (e:=zaR s (t,b) 1 zbt) rfl (fun er h=>?_) (fun a0 h0=>?_)
 ·rw[zao h];exact rfl
 rw[zar h0];obtain⟨x0,st0⟩:=a0;have hok1:pOk (s,st0.1,l,st0.2,()):=⟨((zan hok0.1 h0).1).1,hok0.2⟩;refine zY hX zak rfl trivial ?_;refine zam (σ':=⟨[(0,pSelf),(2,⟨.optr nd,⟨2,nd,.here⟩⟩),(3,⟨i64,x0⟩)],[(0,some (pBox ty s st0)),(1,some (.buf 73 nd l)),(2,some (.box nd zNd))],3⟩) ⟨⟨rfl,rfl,rfl,trivial⟩,⟨rfl,rfl,rfl,trivial⟩,rfl,rfl⟩ ?_;(repeat(first|apply zae|apply zab|apply zac|apply zad));refine zah ?_;refine zaB 2 hX zak zb8 rfl trivial rfl rfl hok1 hI (e:=zaR s st0 0 zbt) rfl (fun er h=>?_) (fun a1 h1=>?_)
 ·rw[zao h];exact rfl
 rw[zar h1];obtain⟨x1,st1⟩:=a1;have hok2:pOk (s,st1.1,l,st1.2,()):=⟨((zan hok1.1 h1).1).1,hok1.2⟩;refine zY hX zak rfl trivial ?_;exact zm ⟨.inr rfl,⟨_,rfl,nd,1,_,rfl,rfl,rfl⟩,zas rfl trivial rfl rfl rfl⟩
theorem zqt:zaH Tryz.prog gmH 238 (zdJ .years):=by
 refine zav (K:=_) zak Tryz.func238 rfl rfl zbr Tryz.call238 rfl (zb rfl) za5 ?_;rintro w0 ⟨G,O,K,fix,D,ρ,B⟩ ty hX hG hK hρ hD hinv ⟨(s:List UInt8),(t:TokT),(l:List Nd),(b:Int),⟨⟩⟩ ⟨⟩ hp;obtain rfl:G=gmH:=hG;obtain rfl:K=1:=hK;obtain rfl:ρ=none:=hρ;obtain rfl:D=[]:=hD;have hI:=zaN (ty:=ty) (ty':=ty) hX rfl hinv;have hok0:pOk (s,t,l,b,()):=hp;change AWP _ _ _ _ _ ⟨[(0,pSelf)],pE ty s (t,b) l,2⟩ (pQ _ (zdJ .years) ty (toX (fun r=>(r.1,psX s r.2 l)) (zcl s (t,b) .years)));unfold zcl;refine za (za ?_);refine zaa hX zak rfl ?_ ?_
 ·trivial
 (repeat(first|apply zae|apply zab|apply zac|apply zad));refine zah ?_;refine zaB 1 hX zak zb8 rfl trivial rfl rfl hok0 hI (e:=gCal s (t,b)) rfl (fun er h=>?_) (fun a0 h0=>?_)
 ·rw[zao h];exact rfl
 rw[zar h0];obtain⟨x0,st0⟩:=a0;have hok1:pOk (s,st0.1,l,st0.2,()):=⟨((zan hok0.1 h0).1).1,hok0.2⟩;refine zY hX zak rfl trivial ?_;refine zam (σ':=⟨[(0,pSelf),(2,⟨.optr nd,⟨2,nd,.here⟩⟩),(3,⟨.optr nd,⟨3,nd,.here⟩⟩)],[(0,some (pBox ty s st0)),(1,some (.buf 73 nd l)),(2,some (.box nd zNd)),(3,some (.box nd (2,x0,0,0,0,0,[],[],())))],4⟩) ⟨⟨rfl,rfl,rfl,trivial⟩,⟨rfl,rfl,rfl,rfl,trivial⟩,rfl,rfl⟩ ?_;(repeat(first|apply zae|apply zab|apply zac|apply zad));refine zah ?_;refine zaB 1 hX zak zb8 rfl trivial rfl rfl hok1 hI (e:=zaR s st0 1 400) rfl (fun er h=>?_) (fun a1 h1=>?_)
 ·rw[zao h];exact rfl
 rw[zar h1];obtain⟨x1,st1⟩:=a1;have hok2:pOk (s,st1.1,l,st1.2,()):=⟨((zan hok1.1 h1).1).1,hok1.2⟩;refine zY hX zak rfl trivial ?_;refine zam (σ':=⟨[(0,pSelf),(2,⟨.optr nd,⟨2,nd,.here⟩⟩),(3,⟨.optr nd,⟨3,nd,.here⟩⟩)],[(0,some (pBox ty s st1)),(1,some (.buf 73 nd l)),(2,some (.box nd zNd)),(3,some (.box nd (2,x0,0,0,x1,0,[],[],())))],4⟩) ⟨⟨rfl,rfl,rfl,trivial⟩,⟨rfl,rfl,rfl,rfl,trivial⟩,rfl,rfl⟩ ?_;(repeat(first|apply zae|apply zab|apply zac|apply zad));refine zah ?_;have hyb:=(zan hok1.1 h1).2;have hyc:inR .i64 (x1 - 1):=zaq (by omega) (by omega);refine zaB 4 hX zak zb8 rfl hyc rfl rfl hok2 hI (e:=zaR s st1 0 (x1 - 1)) rfl (fun er h=>?_) (fun a2 h2=>?_)
 ·rw[zao h];exact rfl
 rw[zar h2];obtain⟨x2,st2⟩:=a2;have hok3:pOk (s,st2.1,l,st2.2,()):=⟨((zan hok2.1 h2).1).1,hok2.2⟩;refine zY hX zak rfl trivial ?_;refine zam (σ':=⟨[(0,pSelf),(2,⟨.optr nd,⟨2,nd,.here⟩⟩),(3,⟨.optr nd,⟨3,nd,.here⟩⟩)],[(0,some (pBox ty s st2)),(1,some (.buf 73 nd l)),(2,some (.box nd zNd)),(3,some (.box nd (2,x0,0,0,x1,x2,[],[],())))],4⟩) ⟨⟨rfl,rfl,rfl,trivial⟩,⟨rfl,rfl,rfl,rfl,trivial⟩,rfl,rfl⟩ ?_;(repeat(first|apply zae|apply zab|apply zal|apply zad|apply zac|refine zaa hX zak rfl trivial ?_|refine zaa hX zak rfl id ?_|refine zaa hX zak rfl ⟨id,id⟩ ?_));exact zm ⟨.inr rfl,⟨_,rfl,nd,1,_,rfl,rfl,rfl⟩,zas rfl trivial rfl rfl rfl⟩
theorem zos:zaH Tryz.prog gmH 239 (zdJ .months):=by
 refine zav (K:=_) zak Tryz.func239 rfl rfl zbr Tryz.call239 rfl (zb rfl) za5 ?_;rintro w0 ⟨G,O,K,fix,D,ρ,B⟩ ty hX hG hK hρ hD hinv ⟨(s:List UInt8),(t:TokT),(l:List Nd),(b:Int),⟨⟩⟩ ⟨⟩ hp;obtain rfl:G=gmH:=hG;obtain rfl:K=1:=hK;obtain rfl:ρ=none:=hρ;obtain rfl:D=[]:=hD;have hI:=zaN (ty:=ty) (ty':=ty) hX rfl hinv;have hok0:pOk (s,t,l,b,()):=hp;change AWP _ _ _ _ _ ⟨[(0,pSelf)],pE ty s (t,b) l,2⟩ (pQ _ (zdJ .months) ty (toX (fun r=>(r.1,psX s r.2 l)) (zcl s (t,b) .months)));unfold zcl;refine za (za ?_);refine zaa hX zak rfl ?_ ?_
 ·trivial
 (repeat(first|apply zae|apply zab|apply zac|apply zad));refine zah ?_;refine zaB 1 hX zak zb8 rfl trivial rfl rfl hok0 hI (e:=gCal s (t,b)) rfl (fun er h=>?_) (fun a0 h0=>?_)
 ·rw[zao h];exact rfl
 rw[zar h0];obtain⟨x0,st0⟩:=a0;have hok1:pOk (s,st0.1,l,st0.2,()):=⟨((zan hok0.1 h0).1).1,hok0.2⟩;refine zY hX zak rfl trivial ?_;refine zam (σ':=⟨[(0,pSelf),(2,⟨.optr nd,⟨2,nd,.here⟩⟩),(3,⟨i64,x0⟩)],[(0,some (pBox ty s st0)),(1,some (.buf 73 nd l)),(2,some (.box nd zNd))],3⟩) ⟨⟨rfl,rfl,rfl,trivial⟩,⟨rfl,rfl,rfl,trivial⟩,rfl,rfl⟩ ?_;(repeat(first|apply zae|apply zab|apply zac|apply zad));refine zah ?_;refine zaB 2 hX zak zb8 rfl trivial rfl rfl ⟨hok1,(by decide:(-1000:Int)≤1),(by decide:(1:Int)≤1000)⟩ hI (e:=zdc s st0 1 16 true) rfl (fun er h=>?_) (fun a1 h1=>?_)
 ·rw[zao h];exact rfl
 rw[zar h1];obtain⟨x1,st1⟩:=a1;have hok2:pOk (s,st1.1,l,st1.2,()):=⟨(zch hok1.1 h1).1,hok1.2⟩;refine zY hX zak rfl trivial ?_;exact zm ⟨.inr rfl,⟨_,rfl,nd,1,_,rfl,rfl,rfl⟩,zas rfl trivial rfl rfl rfl⟩
theorem zj2:zaH Tryz.prog gmH 240 (zdJ .monthdays):=by
 refine zav (K:=_) zak Tryz.func240 rfl rfl zbr Tryz.call240 rfl (zb rfl) za5 ?_;rintro w0 ⟨G,O,K,fix,D,ρ,B⟩ ty hX hG hK hρ hD hinv ⟨(s:List UInt8),(t:TokT),(l:List Nd),(b:Int),⟨⟩⟩ ⟨⟩ hp;obtain rfl:G=gmH:=hG;obtain rfl:K=1:=hK;obtain rfl:ρ=none:=hρ;obtain rfl:D=[]:=hD;have hI:=zaN (ty:=ty) (ty':=ty) hX rfl hinv;have hok0:pOk (s,t,l,b,()):=hp;change AWP _ _ _ _ _ ⟨[(0,pSelf)],pE ty s (t,b) l,2⟩ (pQ _ (zdJ .monthdays) ty (toX (fun r=>(r.1,psX s r.2 l)) (zcl s (t,b) .monthdays)));unfold zcl;refine za (za ?_);refine zaa hX zak rfl ?_ ?_
 ·trivial
 (repeat(first|apply zae|apply zab|apply zac|apply zad));refine zah ?_;refine zaB 1 hX zak zb8 rfl trivial rfl rfl hok0 hI (e:=gCal s (t,b)) rfl (fun er h=>?_) (fun a0 h0=>?_)
 ·rw[zao h];exact rfl
 rw[zar h0];obtain⟨x0,st0⟩:=a0;have hok1:pOk (s,st0.1,l,st0.2,()):=⟨((zan hok0.1 h0).1).1,hok0.2⟩;refine zY hX zak rfl trivial ?_;refine zam (σ':=⟨[(0,pSelf),(2,⟨.optr nd,⟨2,nd,.here⟩⟩),(3,⟨i64,x0⟩)],[(0,some (pBox ty s st0)),(1,some (.buf 73 nd l)),(2,some (.box nd zNd))],3⟩) ⟨⟨rfl,rfl,rfl,trivial⟩,⟨rfl,rfl,rfl,trivial⟩,rfl,rfl⟩ ?_;(repeat(first|apply zae|apply zab|apply zac|apply zad));refine zah ?_;refine zaB 2 hX zak zb8 rfl trivial rfl rfl ⟨hok1,(by decide:(-1000:Int)≤(-40)),(by decide:((-40):Int)≤1000)⟩ hI (e:=zdc s st0 (-40) 40 false) rfl (fun er h=>?_) (fun a1 h1=>?_)
 ·rw[zao h];exact rfl
 rw[zar h1];obtain⟨x1,st1⟩:=a1;have hok2:pOk (s,st1.1,l,st1.2,()):=⟨(zch hok1.1 h1).1,hok1.2⟩;refine zY hX zak rfl trivial ?_;exact zm ⟨.inr rfl,⟨_,rfl,nd,1,_,rfl,rfl,rfl⟩,zas rfl trivial rfl rfl rfl⟩
theorem zqu:zaH Tryz.prog gmH 242 (zdJ .weeks):=by
 refine zav (K:=_) zak Tryz.func242 rfl rfl zbr Tryz.call242 rfl (zb rfl) za5 ?_;rintro w0 ⟨G,O,K,fix,D,ρ,B⟩ ty hX hG hK hρ hD hinv ⟨(s:List UInt8),(t:TokT),(l:List Nd),(b:Int),⟨⟩⟩ ⟨⟩ hp;obtain rfl:G=gmH:=hG;obtain rfl:K=1:=hK;obtain rfl:ρ=none:=hρ;obtain rfl:D=[]:=hD;have hI:=zaN (ty:=ty) (ty':=ty) hX rfl hinv;have hok0:pOk (s,t,l,b,()):=hp;change AWP _ _ _ _ _ ⟨[(0,pSelf)],pE ty s (t,b) l,2⟩ (pQ _ (zdJ .weeks) ty (toX (fun r=>(r.1,psX s r.2 l)) (zcl s (t,b) .weeks)));unfold zcl;refine za (za ?_);refine zaa hX zak rfl ?_ ?_
 ·trivial
 (repeat(first|apply zae|apply zab|apply zac|apply zad));refine zah ?_;refine zaB 1 hX zak zb8 rfl trivial rfl rfl hok0 hI (e:=gCal s (t,b)) rfl (fun er h=>?_) (fun a0 h0=>?_)
 ·rw[zao h];exact rfl
 rw[zar h0];obtain⟨x0,st0⟩:=a0;have hok1:pOk (s,st0.1,l,st0.2,()):=⟨((zan hok0.1 h0).1).1,hok0.2⟩;refine zY hX zak rfl trivial ?_;refine zam (σ':=⟨[(0,pSelf),(2,⟨.optr nd,⟨2,nd,.here⟩⟩),(3,⟨i64,x0⟩)],[(0,some (pBox ty s st0)),(1,some (.buf 73 nd l)),(2,some (.box nd zNd))],3⟩) ⟨⟨rfl,rfl,rfl,trivial⟩,⟨rfl,rfl,rfl,trivial⟩,rfl,rfl⟩ ?_;(repeat(first|apply zae|apply zab|apply zac|apply zad));refine zah ?_;refine zaB 2 hX zak zb8 rfl trivial rfl rfl ⟨hok1,(by decide:(-1000:Int)≤1),(by decide:(1:Int)≤1000)⟩ hI (e:=zdc s st0 1 54 true) rfl (fun er h=>?_) (fun a1 h1=>?_)
 ·rw[zao h];exact rfl
 rw[zar h1];obtain⟨x1,st1⟩:=a1;have hok2:pOk (s,st1.1,l,st1.2,()):=⟨(zch hok1.1 h1).1,hok1.2⟩;refine zY hX zak rfl trivial ?_;exact zm ⟨.inr rfl,⟨_,rfl,nd,1,_,rfl,rfl,rfl⟩,zas rfl trivial rfl rfl rfl⟩
theorem zlp:zaH Tryz.prog gmH 241 (zdJ .weekdays):=by
 refine zav (K:=_) zak Tryz.func241 rfl rfl zbr Tryz.call241 rfl (zb rfl) za5 ?_;rintro w0 ⟨G,O,K,fix,D,ρ,B⟩ ty hX hG hK hρ hD hinv ⟨(s:List UInt8),(t:TokT),(l:List Nd),(b:Int),⟨⟩⟩ ⟨⟩ hp;obtain rfl:G=gmH:=hG;obtain rfl:K=1:=hK;obtain rfl:ρ=none:=hρ;obtain rfl:D=[]:=hD;have hI:=zaN (ty:=ty) (ty':=ty) hX rfl hinv;have hok0:pOk (s,t,l,b,()):=hp;change AWP _ _ _ _ _ ⟨[(0,pSelf)],pE ty s (t,b) l,2⟩ (pQ _ (zdJ .weekdays) ty (toX (fun r=>(r.1,psX s r.2 l)) (zcl s (t,b) .weekdays)));unfold zcl;refine za (za ?_);refine zaa hX zak rfl ?_ ?_
 ·trivial
 (repeat(first|apply zae|apply zab|apply zac|apply zad));refine zah ?_;refine zaB 1 hX zak zb8 rfl trivial rfl rfl ⟨hok0,(by decide:(-1000:Int)≤0),(by decide:(0:Int)≤1000)⟩ hI (e:=zdc s (t,b) 0 6 true) rfl (fun er h=>?_) (fun a0 h0=>?_)
 ·rw[zao h];exact rfl
 rw[zar h0];obtain⟨x0,st0⟩:=a0;have hok1:pOk (s,st0.1,l,st0.2,()):=⟨(zch hok0.1 h0).1,hok0.2⟩;refine zY hX zak rfl trivial ?_;exact zm ⟨.inr rfl,⟨_,rfl,nd,1,_,rfl,rfl,rfl⟩,zas rfl trivial rfl rfl rfl⟩
theorem zuE:zaH Tryz.prog gmH 243 (zdJ .nth):=by
 refine zav (K:=_) zak Tryz.func243 rfl rfl zbr Tryz.call243 rfl (zb rfl) za5 ?_;rintro w0 ⟨G,O,K,fix,D,ρ,B⟩ ty hX hG hK hρ hD hinv ⟨(s:List UInt8),(t:TokT),(l:List Nd),(b:Int),⟨⟩⟩ ⟨⟩ hp;obtain rfl:G=gmH:=hG;obtain rfl:K=1:=hK;obtain rfl:ρ=none:=hρ;obtain rfl:D=[]:=hD;have hI:=zaN (ty:=ty) (ty':=ty) hX rfl hinv;have hok0:pOk (s,t,l,b,()):=hp;change AWP _ _ _ _ _ ⟨[(0,pSelf)],pE ty s (t,b) l,2⟩ (pQ _ (zdJ .nth) ty (toX (fun r=>(r.1,psX s r.2 l)) (zcl s (t,b) .nth)));unfold zcl;refine za (za ?_);refine zaa hX zak rfl ?_ ?_
 ·trivial
 (repeat(first|apply zae|apply zab|apply zac|apply zad));refine zah ?_;refine zaB 1 hX zak zb8 rfl trivial rfl rfl hok0 hI (e:=gCal s (t,b)) rfl (fun er h=>?_) (fun a0 h0=>?_)
 ·rw[zao h];exact rfl
 rw[zar h0];obtain⟨x0,st0⟩:=a0;have hok1:pOk (s,st0.1,l,st0.2,()):=⟨((zan hok0.1 h0).1).1,hok0.2⟩;refine zY hX zak rfl trivial ?_;refine zam (σ':=⟨[(0,pSelf),(2,⟨.optr nd,⟨2,nd,.here⟩⟩),(3,⟨.optr nd,⟨3,nd,.here⟩⟩)],[(0,some (pBox ty s st0)),(1,some (.buf 73 nd l)),(2,some (.box nd zNd)),(3,some (.box nd (7,x0,0,0,0,0,[],[],())))],4⟩) ⟨⟨rfl,rfl,rfl,trivial⟩,⟨rfl,rfl,rfl,rfl,trivial⟩,rfl,rfl⟩ ?_;(repeat(first|apply zae|apply zab|apply zac|apply zad));refine zah ?_;refine zaB 15 hX zak zb8 rfl ?_ rfl rfl hok1 hI (e:=zaG st0 (bif !(zF st0.1==3) then true else !(xH st0.1==0)) 1) rfl (fun er h=>?_) (fun u1 h1=>?_)
 ·repeat'(first|exact trivial|assumption|(refine⟨?_,?_⟩)|(intro _)|exact zb rfl|exact zn _|(simp_all [allP];done))
 ·rw[nthT]at h;rw[zao (show zaG st0 ((zF st0.1 != 3)||(xH st0.1 != 0)) 1=_ from h)];exact rfl
 rw[nthT]at h1;rw[zar (show zaG st0 ((zF st0.1 != 3)||(xH st0.1 != 0)) 1=_ from h1)];refine yf ?_;refine zam (σ':=⟨[(0,pSelf),(2,⟨.optr nd,⟨2,nd,.here⟩⟩),(3,⟨.optr nd,⟨3,nd,.here⟩⟩)],[(0,some (pBox ty s st0)),(1,some (.buf 73 nd l)),(2,some (.box nd zNd)),(3,some (.box nd (7,x0,0,0,0,0,[],[],())))],4⟩) ⟨⟨rfl,rfl,rfl,trivial⟩,⟨rfl,rfl,rfl,rfl,trivial⟩,rfl,rfl⟩ ?_;(repeat(first|apply zae|apply zab|apply zac|apply zad));refine zah ?_;refine zaB 1 hX zak zb8 rfl trivial rfl rfl hok1 hI (e:=zaR s st0 (-60) 60) rfl (fun er h=>?_) (fun a2 h2=>?_)
 ·rw[zao h];exact rfl
 rw[zar h2];obtain⟨x2,st2⟩:=a2;have hok2:pOk (s,st2.1,l,st2.2,()):=⟨((zan hok1.1 h2).1).1,hok1.2⟩;refine zY hX zak rfl trivial ?_;refine zam (σ':=⟨[(0,pSelf),(2,⟨.optr nd,⟨2,nd,.here⟩⟩),(3,⟨.optr nd,⟨3,nd,.here⟩⟩)],[(0,some (pBox ty s st2)),(1,some (.buf 73 nd l)),(2,some (.box nd zNd)),(3,some (.box nd (7,x0,0,0,x2,0,[],[],())))],4⟩) ⟨⟨rfl,rfl,rfl,trivial⟩,⟨rfl,rfl,rfl,rfl,trivial⟩,rfl,rfl⟩ ?_;(repeat(first|apply zae|apply zab|apply zac|apply zad));refine zah ?_;refine zaB 1 hX zak zb8 rfl trivial rfl rfl hok2 hI (e:=zaR s st2 0 6) rfl (fun er h=>?_) (fun a3 h3=>?_)
 ·rw[zao h];exact rfl
 rw[zar h3];obtain⟨x3,st3⟩:=a3;have hok3:pOk (s,st3.1,l,st3.2,()):=⟨((zan hok2.1 h3).1).1,hok2.2⟩;refine zY hX zak rfl trivial ?_;refine zam (σ':=⟨[(0,pSelf),(2,⟨.optr nd,⟨2,nd,.here⟩⟩),(3,⟨.optr nd,⟨3,nd,.here⟩⟩)],[(0,some (pBox ty s st3)),(1,some (.buf 73 nd l)),(2,some (.box nd zNd)),(3,some (.box nd (7,x0,0,0,x2,x3,[],[],())))],4⟩) ⟨⟨rfl,rfl,rfl,trivial⟩,⟨rfl,rfl,rfl,rfl,trivial⟩,rfl,rfl⟩ ?_;(repeat(first|apply zae|apply zab|apply zac|apply zad));refine zah ?_;refine zaB 1 hX zak zb8 rfl trivial rfl rfl hok3 hI (e:=zdt s st3) rfl (fun er h=>?_) (fun a4 h4=>?_)
 ·rw[zao h];exact rfl
 rw[zar h4];obtain⟨x4,st4⟩:=a4;have hok4:pOk (s,st4.1,l,st4.2,()):=⟨(zeb hok3.1 h4).1,hok3.2⟩;refine zY hX zak rfl trivial ?_;refine zam (σ':=⟨[(0,pSelf),(2,⟨.optr nd,⟨2,nd,.here⟩⟩),(3,⟨.optr nd,⟨3,nd,.here⟩⟩)],[(0,some (pBox ty s st4)),(1,some (.buf 73 nd l)),(2,some (.box nd zNd)),(3,some (.box nd (7,x0,x4,0,x2,x3,[],[],())))],4⟩) ⟨⟨rfl,rfl,rfl,trivial⟩,⟨rfl,rfl,rfl,rfl,trivial⟩,rfl,rfl⟩ ?_;(repeat(first|apply zae|apply zab|apply zal|apply zad|apply zac|refine zaa hX zak rfl trivial ?_|refine zaa hX zak rfl id ?_|refine zaa hX zak rfl ⟨id,id⟩ ?_));exact zm ⟨.inr rfl,⟨_,rfl,nd,1,_,rfl,rfl,rfl⟩,zas rfl trivial rfl rfl rfl⟩
theorem zqw:zaH Tryz.prog gmH 201 (zgN .shift):=by
 refine zav (K:=_) zak Tryz.func201 rfl rfl zbr Tryz.call201 rfl (zb rfl) za5 ?_;rintro w0 ⟨G,O,K,fix,D,ρ,B⟩ ty hX hG hK hρ hD hinv ⟨(s:List UInt8),(t:TokT),(l:List Nd),(b:Int),⟨⟩⟩ ⟨⟩ hp;obtain rfl:G=gmH:=hG;obtain rfl:K=1:=hK;obtain rfl:ρ=none:=hρ;obtain rfl:D=[]:=hD;have hI:=zaN (ty:=ty) (ty':=ty) hX rfl hinv;have hok0:pOk (s,t,l,b,()):=hp;change AWP _ _ _ _ _ ⟨[(0,pSelf)],pE ty s (t,b) l,2⟩ (pQ _ (zgN .shift) ty (toX (fun r=>(r.1,psX s r.2 l)) (gSuf s (t,b) .shift)));unfold gSuf;refine za (za ?_);refine zaa hX zak rfl ?_ ?_
 ·trivial
 (repeat(first|apply zae|apply zab|apply zac|apply zad));refine zah ?_;refine zaB 1 hX zak zb8 rfl trivial rfl rfl hok0 hI (e:=zaR s (t,b) (-zbt) zbt) rfl (fun er h=>?_) (fun a0 h0=>?_)
 ·rw[zao h];exact rfl
 rw[zar h0];obtain⟨x0,st0⟩:=a0;have hok1:pOk (s,st0.1,l,st0.2,()):=⟨((zan hok0.1 h0).1).1,hok0.2⟩;refine zY hX zak rfl trivial ?_;exact zm ⟨.inr rfl,⟨_,rfl,nd,1,_,rfl,rfl,rfl⟩,zas rfl trivial rfl rfl rfl⟩
theorem zsl:zaH Tryz.prog gmH 203 (zgN .from_):=by
 refine zav (K:=_) zak Tryz.func203 rfl rfl zbr Tryz.call203 rfl (zb rfl) za5 ?_;rintro w0 ⟨G,O,K,fix,D,ρ,B⟩ ty hX hG hK hρ hD hinv ⟨(s:List UInt8),(t:TokT),(l:List Nd),(b:Int),⟨⟩⟩ ⟨⟩ hp;obtain rfl:G=gmH:=hG;obtain rfl:K=1:=hK;obtain rfl:ρ=none:=hρ;obtain rfl:D=[]:=hD;have hI:=zaN (ty:=ty) (ty':=ty) hX rfl hinv;have hok0:pOk (s,t,l,b,()):=hp;change AWP _ _ _ _ _ ⟨[(0,pSelf)],pE ty s (t,b) l,2⟩ (pQ _ (zgN .from_) ty (toX (fun r=>(r.1,psX s r.2 l)) (gSuf s (t,b) .from_)));unfold gSuf;refine za (za ?_);refine zaa hX zak rfl ?_ ?_
 ·trivial
 (repeat(first|apply zae|apply zab|apply zac|apply zad));refine zah ?_;refine zaB 1 hX zak zb8 rfl trivial rfl rfl hok0 hI (e:=zaR s (t,b) 0 zbt) rfl (fun er h=>?_) (fun a0 h0=>?_)
 ·rw[zao h];exact rfl
 rw[zar h0];obtain⟨x0,st0⟩:=a0;have hok1:pOk (s,st0.1,l,st0.2,()):=⟨((zan hok0.1 h0).1).1,hok0.2⟩;refine zY hX zak rfl trivial ?_;exact zm ⟨.inr rfl,⟨_,rfl,nd,1,_,rfl,rfl,rfl⟩,zas rfl trivial rfl rfl rfl⟩
theorem zqv:zaH Tryz.prog gmH 204 (zgN .until_):=by
 refine zav (K:=_) zak Tryz.func204 rfl rfl zbr Tryz.call204 rfl (zb rfl) za5 ?_;rintro w0 ⟨G,O,K,fix,D,ρ,B⟩ ty hX hG hK hρ hD hinv ⟨(s:List UInt8),(t:TokT),(l:List Nd),(b:Int),⟨⟩⟩ ⟨⟩ hp;obtain rfl:G=gmH:=hG;obtain rfl:K=1:=hK;obtain rfl:ρ=none:=hρ;obtain rfl:D=[]:=hD;have hI:=zaN (ty:=ty) (ty':=ty) hX rfl hinv;have hok0:pOk (s,t,l,b,()):=hp;change AWP _ _ _ _ _ ⟨[(0,pSelf)],pE ty s (t,b) l,2⟩ (pQ _ (zgN .until_) ty (toX (fun r=>(r.1,psX s r.2 l)) (gSuf s (t,b) .until_)));unfold gSuf;refine za (za ?_);refine zaa hX zak rfl ?_ ?_
 ·trivial
 (repeat(first|apply zae|apply zab|apply zac|apply zad));refine zah ?_;refine zaB 1 hX zak zb8 rfl trivial rfl rfl hok0 hI (e:=zaR s (t,b) 0 zbt) rfl (fun er h=>?_) (fun a0 h0=>?_)
 ·rw[zao h];exact rfl
 rw[zar h0];obtain⟨x0,st0⟩:=a0;have hok1:pOk (s,st0.1,l,st0.2,()):=⟨((zan hok0.1 h0).1).1,hok0.2⟩;refine zY hX zak rfl trivial ?_;exact zm ⟨.inr rfl,⟨_,rfl,nd,1,_,rfl,rfl,rfl⟩,zas rfl trivial rfl rfl rfl⟩
theorem zsn:zaH Tryz.prog gmH 205 (zgN .also):=by
 refine zav (K:=_) zak Tryz.func205 rfl rfl zbr Tryz.call205 rfl (zb rfl) za5 ?_;rintro w0 ⟨G,O,K,fix,D,ρ,B⟩ ty hX hG hK hρ hD hinv ⟨(s:List UInt8),(t:TokT),(l:List Nd),(b:Int),⟨⟩⟩ ⟨⟩ hp;obtain rfl:G=gmH:=hG;obtain rfl:K=1:=hK;obtain rfl:ρ=none:=hρ;obtain rfl:D=[]:=hD;have hI:=zaN (ty:=ty) (ty':=ty) hX rfl hinv;have hok0:pOk (s,t,l,b,()):=hp;change AWP _ _ _ _ _ ⟨[(0,pSelf)],pE ty s (t,b) l,2⟩ (pQ _ (zgN .also) ty (toX (fun r=>(r.1,psX s r.2 l)) (gSuf s (t,b) .also)));unfold gSuf;refine za (za ?_);refine zaa hX zak rfl ?_ ?_
 ·trivial
 (repeat(first|apply zae|apply zab|apply zac|apply zad));refine zah ?_;refine zaB 1 hX zak zb8 rfl trivial rfl rfl ⟨hok0,(by decide:(-1000:Int)≤0),(by decide:(0:Int)≤1000)⟩ hI (e:=zdc s (t,b) 0 zbt true) rfl (fun er h=>?_) (fun a0 h0=>?_)
 ·rw[zao h];exact rfl
 rw[zar h0];obtain⟨x0,st0⟩:=a0;have hok1:pOk (s,st0.1,l,st0.2,()):=⟨(zch hok0.1 h0).1,hok0.2⟩;refine zY hX zak rfl trivial ?_;exact zm ⟨.inr rfl,⟨_,rfl,nd,1,_,rfl,rfl,rfl⟩,zas rfl trivial rfl rfl rfl⟩
theorem zot:zaH Tryz.prog gmH 207 (zgN .except_):=by
 refine zav (K:=_) zak Tryz.func207 rfl rfl zbr Tryz.call207 rfl (zb rfl) za5 ?_;rintro w0 ⟨G,O,K,fix,D,ρ,B⟩ ty hX hG hK hρ hD hinv ⟨(s:List UInt8),(t:TokT),(l:List Nd),(b:Int),⟨⟩⟩ ⟨⟩ hp;obtain rfl:G=gmH:=hG;obtain rfl:K=1:=hK;obtain rfl:ρ=none:=hρ;obtain rfl:D=[]:=hD;have hI:=zaN (ty:=ty) (ty':=ty) hX rfl hinv;have hok0:pOk (s,t,l,b,()):=hp;change AWP _ _ _ _ _ ⟨[(0,pSelf)],pE ty s (t,b) l,2⟩ (pQ _ (zgN .except_) ty (toX (fun r=>(r.1,psX s r.2 l)) (gSuf s (t,b) .except_)));unfold gSuf;refine za (za ?_);refine zaa hX zak rfl ?_ ?_
 ·trivial
 (repeat(first|apply zae|apply zab|apply zac|apply zad));refine zah ?_;refine zaB 1 hX zak zb8 rfl trivial rfl rfl ⟨hok0,(by decide:(-1000:Int)≤0),(by decide:(0:Int)≤1000)⟩ hI (e:=zdc s (t,b) 0 zbt true) rfl (fun er h=>?_) (fun a0 h0=>?_)
 ·rw[zao h];exact rfl
 rw[zar h0];obtain⟨x0,st0⟩:=a0;have hok1:pOk (s,st0.1,l,st0.2,()):=⟨(zch hok0.1 h0).1,hok0.2⟩;refine zY hX zak rfl trivial ?_;exact zm ⟨.inr rfl,⟨_,rfl,nd,1,_,rfl,rfl,rfl⟩,zas rfl trivial rfl rfl rfl⟩
theorem zuD:zaH Tryz.prog gmH 208 (zgN .pos):=by
 refine zav (K:=_) zak Tryz.func208 rfl rfl zbr Tryz.call208 rfl (zb rfl) za5 ?_;rintro w0 ⟨G,O,K,fix,D,ρ,B⟩ ty hX hG hK hρ hD hinv ⟨(s:List UInt8),(t:TokT),(l:List Nd),(b:Int),⟨⟩⟩ ⟨⟩ hp;obtain rfl:G=gmH:=hG;obtain rfl:K=1:=hK;obtain rfl:ρ=none:=hρ;obtain rfl:D=[]:=hD;have hI:=zaN (ty:=ty) (ty':=ty) hX rfl hinv;have hok0:pOk (s,t,l,b,()):=hp;change AWP _ _ _ _ _ ⟨[(0,pSelf)],pE ty s (t,b) l,2⟩ (pQ _ (zgN .pos) ty (toX (fun r=>(r.1,psX s r.2 l)) (gSuf s (t,b) .pos)));unfold gSuf;refine za (za ?_);refine zaa hX zak rfl ?_ ?_
 ·trivial
 (repeat(first|apply zae|apply zab|apply zac|apply zad));refine zah ?_;refine zaB 1 hX zak zb8 rfl trivial rfl rfl hok0 hI (e:=gCal s (t,b)) rfl (fun er h=>?_) (fun a0 h0=>?_)
 ·rw[zao h];exact rfl
 rw[zar h0];obtain⟨x0,st0⟩:=a0;have hok1:pOk (s,st0.1,l,st0.2,()):=⟨((zan hok0.1 h0).1).1,hok0.2⟩;refine zY hX zak rfl trivial ?_;refine zam (σ':=⟨[(0,pSelf),(2,⟨.optr nd,⟨2,nd,.here⟩⟩),(3,⟨.optr nd,⟨3,nd,.here⟩⟩)],[(0,some (pBox ty s st0)),(1,some (.buf 73 nd l)),(2,some (.box nd zNd)),(3,some (.box nd (16,x0,0,0,0,0,[],[],())))],4⟩) ⟨⟨rfl,rfl,rfl,trivial⟩,⟨rfl,rfl,rfl,rfl,trivial⟩,rfl,rfl⟩ ?_;(repeat(first|apply zae|apply zab|apply zac|apply zad));refine zah ?_;refine zaB 1 hX zak zb8 rfl trivial rfl rfl hok1 hI (e:=zdt s st0) rfl (fun er h=>?_) (fun a1 h1=>?_)
 ·rw[zao h];exact rfl
 rw[zar h1];obtain⟨x1,st1⟩:=a1;have hok2:pOk (s,st1.1,l,st1.2,()):=⟨(zeb hok1.1 h1).1,hok1.2⟩;refine zY hX zak rfl trivial ?_;refine zam (σ':=⟨[(0,pSelf),(2,⟨.optr nd,⟨2,nd,.here⟩⟩),(3,⟨.optr nd,⟨3,nd,.here⟩⟩)],[(0,some (pBox ty s st1)),(1,some (.buf 73 nd l)),(2,some (.box nd zNd)),(3,some (.box nd (16,x0,0,0,0,x1,[],[],())))],4⟩) ⟨⟨rfl,rfl,rfl,trivial⟩,⟨rfl,rfl,rfl,rfl,trivial⟩,rfl,rfl⟩ ?_;(repeat(first|apply zae|apply zab|apply zac|apply zad));refine zah ?_;refine zaB 1 hX zak zb8 rfl trivial rfl rfl ⟨hok2,(by decide:(-1000:Int)≤(-400)),(by decide:((-400):Int)≤1000)⟩ hI (e:=zdc s st1 (-400) 400 false) rfl (fun er h=>?_) (fun a2 h2=>?_)
 ·rw[zao h];exact rfl
 rw[zar h2];obtain⟨x2,st2⟩:=a2;have hok3:pOk (s,st2.1,l,st2.2,()):=⟨(zch hok2.1 h2).1,hok2.2⟩;refine zY hX zak rfl trivial ?_;refine zam (σ':=⟨[(0,pSelf),(2,⟨.optr nd,⟨2,nd,.here⟩⟩),(3,⟨.optr nd,⟨3,nd,.here⟩⟩)],[(0,some (pBox ty s st2)),(1,some (.buf 73 nd l)),(2,some (.box nd zNd)),(3,some (.box nd (16,x0,0,0,0,x1,x2,[],())))],4⟩) ⟨⟨rfl,rfl,rfl,trivial⟩,⟨rfl,rfl,rfl,rfl,trivial⟩,rfl,rfl⟩ ?_;(repeat(first|apply zae|apply zab|apply zal|apply zad|apply zac|refine zaa hX zak rfl trivial ?_|refine zaa hX zak rfl id ?_|refine zaa hX zak rfl ⟨id,id⟩ ?_));exact zm ⟨.inr rfl,⟨_,rfl,nd,1,_,rfl,rfl,rfl⟩,zas rfl trivial rfl rfl rfl⟩
def fnV (f:zO):zg:=.func (.func f) #[] #[]
def zds:LeafW->zg
 | .days=>fnV 237
 | .years=>fnV 238
 | .months=>fnV 239
 | .monthdays=>fnV 240
 | .weekdays=>fnV 241
 | .weeks=>fnV 242
 | .nth=>fnV 243
def zfg:SufW->zg
 | .shift=>fnV 201
 | .from_=>fnV 203
 | .until_=>fnV 204
 | .also=>fnV 205
 | .except_=>fnV 207
 | .pos=>fnV 208
 | .behind=>fnV 211
def strV (w:List UInt8):zg:=.string ⟨w.toArray⟩
def zk6:List (zg×zg):=[(strV zfN,zds .days),(strV zdO,zds .years),(strV zbM,zds .months),(strV zaW,zds .monthdays),(strV za7,zds .weekdays),(strV zcP,zds .weeks),(strV wNth,zds .nth)]
def zhA:List (zg×zg):=[(strV zdQ,zfg .shift),(strV zfM,zfg .from_),(strV zdP,zfg .until_),(strV zek,zfg .also),(strV zbX,zfg .except_),(strV wPos,zfg .pos),(strV zbG,zfg .behind)]
theorem zqW (a b:ByteArray):(a==b)=(a.toList==b.toList):=by
 rw[xy,xy];show (a.data==b.data)=(a.data.toList==b.data.toList);rw[yb,beq_iff_eq,beq_iff_eq];exact⟨fun h=>by rw[h],fun h=>Array.toList_inj.1 h⟩
theorem zjm (w k:List UInt8) (v:zg) (es:List (zg×zg)):zgf .string (strV w) ((strV k,v)::es)=if w=k then some (some v) else zgf .string (strV w) es:=by
 rw[zgf];have e:Instr.sameNow .string (strV w) (strV k)=some (decide (w=k)):=by
  show some ((⟨w.toArray⟩:ByteArray)==⟨k.toArray⟩)=_
  congr 1
  rw[zqW,zeW,zcw]
 rw[show (strV k,v).1=strV k from rfl,e];by_cases h:w=k
 ·rw[if_pos h,decide_eq_true h]
 ·rw[if_neg h,decide_eq_false h]
theorem zp6 (w:List UInt8):zgf .string (strV w) zk6=some ((zdw w).map zds):=by
 unfold zk6 zdw
 iterate 7 (rw[zjm];split; · rfl)
 rfl
theorem zrg (w:List UInt8):zgf .string (strV w) zhA=some ((sufW w).map zfg):=by
 unfold zhA sufW
 iterate 7 (rw[zjm];split; · rfl)
 rfl
def zqM:Ctr:={ args:=[],pre:=fun _=>[],res:=.mapL,own:=none,out:=fun _=>zk6 }
def zlw:Ctr:={ args:=[],pre:=fun _=>[],res:=.mapL,own:=none,out:=fun _=>zhA }
theorem zp5:yB Tryz.prog gmH 200 zqM:=by
 refine zap (K:=gmK) zak Tryz.func200 rfl rfl Tryz.call200 rfl (by decide) (by intro h;cases h) ?_;rintro w0 X hX _ hp;change AWP _ _ _ _ _ ⟨[],[],0⟩ _;apply zae;refine za (za ?_);refine zaa hX zak rfl ?_ ?_
 ·trivial
 (repeat(first|apply zae|apply zab|apply zac|apply zad));refine zah ?_;refine AL.mapLit hX Tryz.underlying204 Tryz.underlying9 rfl zk6 (ins:=[_,_,_,_,_,_,_]) rfl rfl rfl rfl (.cons rfl (fun _=>rfl) (fun _=>rfl) rfl rfl <| .cons rfl (fun _=>rfl) (fun _=>rfl) rfl rfl <| .cons rfl (fun _=>rfl) (fun _=>rfl) rfl rfl <| .cons rfl (fun _=>rfl) (fun _=>rfl) rfl rfl <| .cons rfl (fun _=>rfl) (fun _=>rfl) rfl rfl <| .cons rfl (fun _=>rfl) (fun _=>rfl) rfl rfl <| .cons rfl (fun _=>rfl) (fun _=>rfl) rfl rfl rfl) ⟨rfl,rfl,rfl,rfl,rfl,rfl,rfl,trivial⟩ ?_;refine zY hX zak rfl trivial ?_;(repeat(first|apply zae|apply zab|apply zac|apply zad));exact zm ⟨.inr rfl,zas rfl trivial rfl rfl rfl⟩
theorem zlQ:yB Tryz.prog gmH 179 zlw:=by
 refine zap (K:=gmK) zak Tryz.func179 rfl rfl Tryz.call179 rfl (by decide) (by intro h;cases h) ?_;rintro w0 X hX _ hp;change AWP _ _ _ _ _ ⟨[],[],0⟩ _;apply zae;refine za (za ?_);refine zaa hX zak rfl ?_ ?_
 ·trivial
 (repeat(first|apply zae|apply zab|apply zac|apply zad));refine zah ?_;refine AL.mapLit hX Tryz.underlying204 Tryz.underlying9 rfl zhA (ins:=[_,_,_,_,_,_,_]) rfl rfl rfl rfl (.cons rfl (fun _=>rfl) (fun _=>rfl) rfl rfl <| .cons rfl (fun _=>rfl) (fun _=>rfl) rfl rfl <| .cons rfl (fun _=>rfl) (fun _=>rfl) rfl rfl <| .cons rfl (fun _=>rfl) (fun _=>rfl) rfl rfl <| .cons rfl (fun _=>rfl) (fun _=>rfl) rfl rfl <| .cons rfl (fun _=>rfl) (fun _=>rfl) rfl rfl <| .cons rfl (fun _=>rfl) (fun _=>rfl) rfl rfl rfl) ⟨rfl,rfl,rfl,rfl,rfl,rfl,rfl,trivial⟩ ?_;refine zY hX zak rfl trivial ?_;(repeat(first|apply zae|apply zab|apply zac|apply zad));exact zm ⟨.inr rfl,zas rfl trivial rfl rfl rfl⟩
abbrev Gop:=List UInt8×Int×Unit
def opsL:List Gop:=[(wOr,9,()),(zmK,10,()),(wAnd,8,())]
def cOps:Ctr:={ args:=[],pre:=fun _=>[],res:=.slice gop,own:=none,out:=fun _=>opsL }
theorem zg1:yB Tryz.prog gmH 101 cOps:=by
 refine zap (K:=gmK) zak Tryz.func101 rfl rfl Tryz.call101 rfl (by decide) (by intro h;cases h) ?_;rintro w0 X hX _ hp;change AWP _ _ _ _ _ ⟨[],[],0⟩ _;(repeat(first|apply zae|apply zab|apply zal|apply zad|apply zac|refine zaa hX zak rfl trivial ?_|refine zaa hX zak rfl id ?_|refine zaa hX zak rfl ⟨id,id⟩ ?_));refine AWP.frz hX 0 ?_;exact zm ⟨.inr rfl,zas rfl trivial rfl rfl rfl⟩
section
variable {s:List UInt8}
theorem zec {st st':GSt} {w:List UInt8} (he:za0 s st w= .ok st'):st'.2=st.2:=by
 obtain⟨u,_,h2⟩:=zaj he;cases h2;rfl
theorem zdx {st st':GSt} (he:zbj s st= .ok st'):st'.2=st.2+1:=by
 obtain⟨u,_,h2⟩:=zaj he;cases h2;rfl
theorem zbE {st st':GSt} {lo hi x:Int} (he:zaR s st lo hi= .ok (x,st')):st'.2=st.2:=by
 obtain⟨_,_,he⟩:=zaj he;obtain⟨_,_,he⟩:=zaj he;cases he;rfl
theorem znp {lo hi:Int} {z:Bool}:∀ (k:Nat) {st st':GSt} {l l':List Int},zci s lo hi z k st l= .ok (l',st')->st'.2=st.2
 |0,_,_,_,_,he=>by cases he
 |k+1,st,st',l,l',he=>by
  unfold zci at he;split at he
  ·cases he;rfl
  ·obtain⟨_,_,he⟩:=zaj he;obtain⟨_,_,he⟩:=zaj he;obtain⟨_,_,he⟩:=zaj he;obtain⟨⟨x,st1⟩,h1,he⟩:=zaj he;rw[znp k he,zbE h1]
theorem zj1 {st st':GSt} {lo hi:Int} {z:Bool} {l:List Int} (he:zdc s st lo hi z= .ok (l,st')):st'.2=st.2:=by
 obtain⟨st1,h1,he⟩:=zaj he;obtain⟨⟨l1,st2⟩,h2,he⟩:=zaj he;obtain⟨st3,h3,he⟩:=zaj he;cases he;rw[zec h3,znp _ h2,zec h1]
theorem zno {st st':GSt} {x:Int} (he:zdt s st= .ok (x,st')):st'.2=st.2:=by
 obtain⟨_,_,he⟩:=zaj he;cases he;rfl
theorem zup {st st':GSt} {n:Nd}:∀ (w:LeafW),zcl s st w= .ok (n,st')->st'.2=st.2
 | .days,he=>by
  obtain⟨⟨x,a⟩,h1,he⟩:=zaj he;obtain⟨⟨y,b⟩,h2,he⟩:=zaj he;cases he;rw[zbE h2,zbE h1]
 | .years,he=>by
  obtain⟨⟨x,a⟩,h1,he⟩:=zaj he;obtain⟨⟨y,b⟩,h2,he⟩:=zaj he;obtain⟨⟨z,c⟩,h3,he⟩:=zaj he;cases he;rw[zbE h3,zbE h2,zbE h1]
 | .months,he| .monthdays,he| .weeks,he=>by
  obtain⟨⟨x,a⟩,h1,he⟩:=zaj he;obtain⟨⟨y,b⟩,h2,he⟩:=zaj he;cases he;rw[zj1 h2,zbE h1]
 | .weekdays,he=>by
  obtain⟨⟨y,b⟩,h2,he⟩:=zaj he;cases he;exact zj1 h2
 | .nth,he=>by
  obtain⟨⟨x,a⟩,h1,he⟩:=zaj he;obtain⟨_,_,he⟩:=zaj he;obtain⟨⟨y,b⟩,h2,he⟩:=zaj he;obtain⟨⟨z,c⟩,h3,he⟩:=zaj he;obtain⟨⟨u,d⟩,h4,he⟩:=zaj he;cases he;rw[zno h4,zbE h3,zbE h2,zbE h1]
theorem znn {st st':GSt} {n:Nd}:∀ (w:SufW),gSuf s st w= .ok (n,st')->st'.2=st.2
 | .shift,he| .from_,he| .until_,he=>by
  obtain⟨⟨x,a⟩,h1,he⟩:=zaj he;cases he;exact zbE h1
 | .also,he| .except_,he=>by
  obtain⟨⟨x,a⟩,h1,he⟩:=zaj he;cases he;exact zj1 h1
 | .pos,he=>by
  obtain⟨⟨x,a⟩,h1,he⟩:=zaj he;obtain⟨⟨y,b⟩,h2,he⟩:=zaj he;obtain⟨⟨z,c⟩,h3,he⟩:=zaj he;cases he;rw[zj1 h3,zno h2,zbE h1]
 | .behind,he=>by
  obtain⟨⟨x,a⟩,h1,he⟩:=zaj he;obtain⟨b,h2,he⟩:=zaj he;cases he;rw[zec h2,zbE h1]
def SzOk (st:GSt) (t:Tr) (st':GSt):Md->Prop
 | .binL _ t0=>st'.2+(t0.size:Int)=st.2+(t.size:Int)
 | .chainL t0=>st'.2+(t0.size:Int)=st.2+(t.size:Int)
 |_=>st'.2=st.2+(t.size:Int)
theorem zrN {r:Md->GSt->GE (Tr×GSt)} (hr:∀ md st t st',r md st= .ok (t,st')->SzOk st t st' md):∀ md st t st',zbe s r md st= .ok (t,st')->SzOk st t st' md
 | .bin i,st,t,st',he=>by
  rw[zbe]at he;split at he
  ·exact hr .chain _ _ _ he
  ·obtain⟨⟨u,a⟩,h1,he⟩:=zaj he;have k1:a.2=st.2+(u.size:Int):=hr _ _ _ _ h1;have k2:st'.2+(u.size:Int)=a.2+(t.size:Int):=hr _ _ _ _ he;show st'.2=st.2+(t.size:Int);omega
 | .binL i t0,st,t,st',he=>by
  rw[zbe]at he;split at he
  ·obtain⟨a,h1,he⟩:=zaj he;obtain⟨⟨u,b⟩,h2,he⟩:=zaj he;have k1:=zdx h1;have k2:b.2=a.2+(u.size:Int):=hr _ _ _ _ h2;have k3:st'.2+((t0.size+u.size+1:Nat):Int)=b.2+(t.size:Int):=hr _ _ _ _ he;show st'.2+(t0.size:Int)=st.2+(t.size:Int);omega
  ·cases he;rfl
 | .chain,st,t,st',he=>by
  rw[zbe]at he;obtain⟨⟨u,a⟩,h1,he⟩:=zaj he;have k1:a.2=st.2+(u.size:Int):=hr _ _ _ _ h1;have k2:st'.2+(u.size:Int)=a.2+(t.size:Int):=hr _ _ _ _ he;show st'.2=st.2+(t.size:Int);omega
 | .chainL t0,st,t,st',he=>by
  show st'.2+(t0.size:Int)=st.2+(t.size:Int);rw[zbe]at he;split at he
  ·split at he
   ·cases he;rfl
   ·obtain⟨a,h1,he⟩:=zaj he;obtain⟨⟨n,b⟩,h2,he⟩:=zaj he;obtain⟨⟨u,c⟩,h3,he⟩:=zaj he;have k1:=zdx h1;have k2:=znn _ h2;have k3:c.2=b.2+(u.size:Int):=hr _ _ _ _ h3;have k4:st'.2+((t0.size+u.size+1:Nat):Int)=c.2+(t.size:Int):=hr _ _ _ _ he;omega
   ·obtain⟨a,h1,he⟩:=zaj he;obtain⟨⟨n,b⟩,h2,he⟩:=zaj he;have k1:=zdx h1;have k2:=znn _ h2;have k4:st'.2+((t0.size+1:Nat):Int)=b.2+(t.size:Int):=hr _ _ _ _ he;omega
  ·cases he;rfl
 | .prim,st,t,st',he=>by
  show st'.2=st.2+(t.size:Int);rw[zbe]at he;split at he
  ·obtain⟨⟨u,a⟩,h1,he⟩:=zaj he;obtain⟨b,h2,he⟩:=zaj he;cases he;have k1:a.2=(gAdv s st).2+(t.size:Int):=hr _ _ _ _ h1;have k2:=zec h2;have k3:(gAdv s st).2=st.2:=rfl;omega
  ·split at he
   ·obtain⟨_,_,he⟩:=zaj he;obtain⟨a,h1,he⟩:=zaj he;cases he;exact zdx h1
   ·obtain⟨_,h0,he⟩:=zaj he;split at he
    ·cases he
    ·obtain⟨a,h1,he⟩:=zaj he;obtain⟨⟨n,b⟩,h2,he⟩:=zaj he;cases he;rw[zup _ h2];exact zdx h1
theorem zsV:∀ (k:Nat) md st t st',prs s k md st= .ok (t,st')->SzOk st t st' md
 |0,_,_,_,_,he=>by cases he
 |k+1,md,st,t,st',he=>zrN (zsV k) md st t st' he
theorem zjK {md:Md} {st st':GSt} {t:Tr} (he:prsT s md st= .ok (t,st')):SzOk st t st' md:=zsV _ _ _ _ _ he
theorem zhU {i:Nat} {st:GSt} (h:GOk s st) (hi:3≤i):prsT s (.bin i) st=prsT s .chain st:=by
 rw[zb0 h,zbe,if_pos hi]
theorem zhj {i:Nat} {st:GSt} (h:GOk s st) (hi:¬ 3≤i):prsT s (.bin i) st=(prsT s (.bin (i+1)) st >>= fun p=>prsT s (.binL i p.1) p.2):=by
 rw[zb0 h,zbe,if_neg hi]
theorem zi9 {i:Nat} {t:Tr} {st:GSt} (h:GOk s st) (hi:gIs st (opW i)=false):prsT s (.binL i t) st= .ok (t,st):=by
 rw[zb0 h,zbe,if_neg (by rw[hi];decide)]
theorem zi8 {i:Nat} {t:Tr} {st:GSt} (h:GOk s st) (hi:gIs st (opW i)=true):prsT s (.binL i t) st=(zbj s st >>= fun st=>prsT s (.bin (i+1)) st >>= fun p=>prsT s (.binL i (.bin (opK i,zNd.2) t p.1)) p.2):=by
 rw[zb0 h,zbe,if_pos hi]
theorem zi7 {st:GSt} (h:GOk s st):prsT s .chain st=(prsT s .prim st >>= fun p=>prsT s (.chainL p.1) p.2):=by
 rw[zb0 h,zbe]
theorem zeJ {t:Tr} {st:GSt} (h:GOk s st) (hc:zF st.1≠1):prsT s (.chainL t) st= .ok (t,st):=by
 rw[zb0 h,zbe,if_neg hc]
theorem zgX {t:Tr} {st:GSt} (h:GOk s st) (hc:zF st.1=1) (hw:sufW (zD st.1)=none):prsT s (.chainL t) st= .ok (t,st):=by
 rw[zb0 h,zbe,if_pos hc,hw]
def sufT (t:Tr) (st:GSt):SufW->GE (Tr×GSt)
 | .behind=>gSuf s st .behind >>= fun p=>prsT s .prim p.2 >>= fun u=>.ok (.bin p.1 t u.1,u.2)
 |w=>gSuf s st w >>= fun p=>.ok (.un p.1 t,p.2)
theorem zgY {t:Tr} {st:GSt} {w:SufW} (h:GOk s st) (hc:zF st.1=1) (hw:sufW (zD st.1)=some w):prsT s (.chainL t) st=(zbj s st >>= fun st=>sufT (s:=s) t st w >>= fun p=>prsT s (.chainL p.1) p.2):=by
 rw[zb0 h,zbe,if_pos hc,hw];cases w<;>(
  simp only[sufT];cases zbj s st with
  |error e=>rfl
  |ok a=>
   show (gSuf s a _ >>= _)=((gSuf s a _ >>= _) >>= _);cases gSuf s a _ with
   |error e=>rfl
   |ok p=>
    first
    |rfl
    |(show (prsT s .prim p.2 >>= _)=((prsT s .prim p.2 >>= _) >>= _)
      cases prsT s .prim p.2<;>rfl))
end
@[reducible] def trX (s:List UInt8) (l:List Nd) (r:Tr×GSt):Int×PsT:=(((l.length+r.1.size:Nat):Int) - 1,psX s r.2 (l++r.1.flat l.length))
def few (x:PsT):Prop:=((x.2.2.1.length:Nat):Int)≤x.2.2.2.1
@[reducible] def cBin (k:Nat):HCtr:=hP [i64] i64 (fun x xs=>[0≤xs.1,xs.1≤3,few x,meas x.1 (.bin xs.1.toNat) (stOf x) < k]) fun x xs=>toX (trX x.1 x.2.2.1) (prsT x.1 (.bin xs.1.toNat) (stOf x))
@[reducible] def zlC (k:Nat):HCtr:=hP [] i64 (fun x _=>[few x,meas x.1 .chain (stOf x) < k]) fun x _=>toX (trX x.1 x.2.2.1) (prsT x.1 .chain (stOf x))
@[reducible] def zj8 (k:Nat):HCtr:=hP [] i64 (fun x _=>[few x,meas x.1 .prim (stOf x) < k]) fun x _=>toX (trX x.1 x.2.2.1) (prsT x.1 .prim (stOf x))
def gBeh (s:List UInt8) (st:GSt):GE (Nd×Tr×GSt):=gSuf s st .behind >>= fun p=>prsT s .prim p.2 >>= fun u=>.ok (p.1,u.1,u.2)
def setR (n:Nd) (r:Int):Nd:=(n.1,n.2.1,n.2.2.1,r,n.2.2.2.2)
@[reducible] def cBeh (k:Nat):HCtr:=hP [] nd (fun x _=>[few x,meas x.1 .prim (stOf x) < k]) fun x _=>toX (fun r=>(setR r.1 (((x.2.2.1.length+r.2.1.size:Nat):Int) - 1),psX x.1 r.2.2 (x.2.2.1++r.2.1.flat x.2.2.1.length))) (gBeh x.1 (stOf x))
def kBi:Kn:={ gmK with C:=[(101,cOps)] }
theorem zbv:KnOk Tryz.prog gmH kBi:=zak.with (.cons zg1 .nil)
def hBi (k:Nat):List (zO×HCtr):=[(80,cBin k),(133,zlC k),(134,cIs),(135,zlD),(136,cAdd)]
theorem ztV {i:Nat} (h:i < 3):opsL.getD ((i:Int)).toNat ([],0,())=(opW i,opK i,()):=by
 rw[zy];rcases (show i=0∨i=1∨i=2 by omega) with rfl|rfl|rfl<;>rfl
theorem zu0 {te:zp} {t:Ty} {x y:List t.T} (h:x=y):some (OObj.buf te t x)=some (OObj.buf te t y):=by rw[h]
theorem zqU (k:Nat) (hB:zaH Tryz.prog gmH 80 (cBin k)) (hC:zaH Tryz.prog gmH 133 (zlC k)):zaH Tryz.prog gmH 80 (cBin (k+1)):=by
 have hbi:HsOk Tryz.prog gmH (hBi k):=.cons hB <| .cons hC <| .cons zr9 <| .cons zke <| .cons zqY .nil;refine zav (K:=_) zbv Tryz.func80 rfl rfl zbr Tryz.call80 rfl (zb rfl) za5 ?_;rintro w0 ⟨G,O,K,fix,D,ρ,B⟩ ty hX hG hK hρ hD hinv ⟨(s:List UInt8),(t:TokT),(l:List Nd),(b:Int),⟨⟩⟩ ⟨(j:Int),⟨⟩⟩ hp;obtain rfl:G=gmH:=hG;obtain rfl:K=1:=hK;obtain rfl:ρ=none:=hρ;obtain rfl:D=[]:=hD;have hI:=zaN (ty:=ty) (ty':=ty) hX rfl hinv;obtain⟨hok,hj0,hj1,hfew,hme⟩:pOk (s,t,l,b,())∧0≤j∧j≤3∧few (s,t,l,b,())∧meas s (.bin j.toNat) (t,b) < k+1:=hp;obtain⟨i,rfl⟩:∃ i:Nat,j=(i:Int):=⟨j.toNat,by omega⟩;rw[zy]at hme;have hg:GOk s (t,b):=hok.1;change AWP _ _ _ _ _ ⟨[(0,pSelf),(1,⟨i64,(i:Int)⟩)],pE ty s (t,b) l,2⟩ (pQ _ (cBin (k+1)) ty (toX (trX s l) (prsT s (.bin ((i:Int)).toNat) (t,b))));rw[zy];refine za (za ?_);refine zaa hX zbv rfl ?_ ?_
 ·trivial
 refine za (za ?_);refine zaa hX zbv rfl ?_ ?_
 ·trivial
 refine za (za ?_);refine zaa hX zbv rfl ?_ ?_
 ·trivial
 refine zaf rfl (fun hb=>?_) (fun hb=>?_)
 ·have hb:decide ((i:Int)=((3:Nat):Int))=true:=hb;have hb:=of_decide_eq_true hb;obtain rfl:i=3:=by omega
  rw[zhU hg (zj 3)];have hmc:meas s .chain (t,b) < k:=by simp only[meas,mdF]at hme ⊢;omega
  (repeat(first|apply zae|apply zab|apply zac|apply zad));refine zah ?_;refine zaB 1 hX zbv hbi rfl trivial rfl rfl ⟨hok,hfew,hmc⟩ hI (e:=prsT s .chain (t,b)) rfl (fun er h=>?_) (fun a h=>?_)
  ·rw[h];exact rfl
  rw[h];refine zY hX zbv rfl trivial ?_;exact zm ⟨.inr rfl,⟨_,rfl,nd,1,_,rfl,rfl,rfl⟩,zas rfl trivial rfl rfl rfl⟩
 have hb:decide ((i:Int)=((3:Nat):Int))=false:=hb;have hi3:i < 3:=by
  have:=of_decide_eq_false hb;omega
 apply zab;rw[zhj hg (by omega)];have hq:inR .i64 ((i:Int)+1):=zaq (by omega) (by omega);have htn:((i:Int)+1).toNat=i+1:=by omega
 have hm1:meas s (.bin ((i:Int)+1).toNat) (t,b) < k:=by
  rw[htn];simp only[meas,mdF]at hme ⊢;omega
 (repeat(first|apply zae|apply zab|apply zac|apply zad));refine zah ?_;refine zaB 3 hX zbv hbi rfl hq rfl rfl ⟨hok,(by omega:(0:Int)≤(i:Int)+1),(by omega:(i:Int)+1≤3),hfew,hm1⟩ hI (f:=trX s l) (e:=prsT s (.bin (i+1)) (t,b)) (congrArg (fun i=>toX (trX s l) (prsT s (.bin i) (t,b))) htn) (fun er h=>?_) (fun a h=>?_)
 ·rw[zao h];exact rfl
 rw[zar h];obtain⟨t1,st1⟩:=a;refine zY hX zbv rfl trivial ?_;have hc1:Onw s (t,b) st1:=zcm hg h;have hz1:st1.2=b+(t1.size:Int):=zjK h;have hsl:s.length≤100000:=hok.2;have hfew:((l.length:Nat):Int)≤b:=hfew;apply zae;apply zac;refine yD (ι:=Tr×GSt) (fun i'=>⟨[(0,pSelf),(1,⟨i64,(i:Int)⟩),(5,⟨.slice gop,opsL⟩),(6,⟨i64,(((l.length+i'.1.size:Nat):Int) - 1)⟩)],pE ty s i'.2 (l++i'.1.flat l.length),2⟩) (fun i'=>prsT s (.binL i t1) st1=prsT s (.binL i i'.1) i'.2∧Onw s (t,b) i'.2∧i'.2.2=b+(i'.1.size:Int)) (fun i'=>rem s i'.2) (t1,st1) ⟨rfl,hc1,hz1⟩ ⟨⟨rfl,rfl,rfl,rfl,trivial⟩,⟨rfl,rfl,trivial⟩,rfl,rfl⟩ ?_;rintro ⟨t2,st⟩ ⟨heq,hon,hsz⟩;have heq:prsT s (.binL i t1) st1=prsT s (.binL i t2) st:=heq;have hsz:st.2=b+(t2.size:Int):=hsz;have hon:Onw s (t,b) st:=hon;have hst:GOk s st:=hon.1;have hst2:pOk (s,st.1,l++t2.flat l.length,st.2,()):=⟨hst,hsl⟩;have hgo:(i:Int) < ((opsL.length:Nat):Int):=by show (i:Int) < ((3:Nat):Int);omega
 have hgo0:(0:Int)≤(i:Int):=by omega
 rw[heq];apply zae;apply zae;refine zah ?_;refine yl 6 hX zbv hbi rfl ⟨hgo0,hgo⟩ rfl rfl hst2 hI ?_;refine yf ?_;have hat:=ztV hi3;have hw1:(opsL.getD ((i:Int)).toNat ([],0,())).1=opW i:=by rw[hat]
 have hk1:(opsL.getD ((i:Int)).toNat ([],0,())).2.1=opK i:=by rw[hat]
 refine zaf rfl (fun hb=>?_) (fun hb=>?_)
 ·have hb:gIs st (opsL.getD ((i:Int)).toNat ([],0,())).1=true:=hb;rw[hw1]at hb;apply zab;rw[zi8 hst hb]at heq ⊢;refine zam (σ':=⟨[(0,pSelf),(1,⟨i64,(i:Int)⟩),(5,⟨.slice gop,opsL⟩),(6,⟨i64,(((l.length+t2.size:Nat):Int) - 1)⟩)],pE ty s st (l++t2.flat l.length),2⟩) ⟨⟨rfl,rfl,rfl,rfl,trivial⟩,⟨rfl,rfl,trivial⟩,rfl,rfl⟩ ?_;apply zac;(repeat(first|apply zae|apply zab|apply zac|apply zad));refine zah ?_;refine zaB 1 hX zbv hbi rfl trivial rfl rfl hst2 hI (e:=zbj s st) rfl (fun er h=>?_) (fun st3 h3=>?_)
  ·rw[zao h];exact rfl
  rw[zar h3];have hc3:=zaY hst (zcY hb) h3;have hz3:=zdx h3;have hfl:=t2.len_flat l.length;have hst3:pOk (s,st3.1,l++t2.flat l.length,st3.2,()):=⟨hc3.1,hsl⟩;have hfew3:few (s,st3.1,l++t2.flat l.length,st3.2,()):=by
   show (((l++t2.flat l.length).length:Nat):Int)≤st3.2;rw[zh];omega
  have hr1:=hon.rem hg;have hr2:=hc3.rem hst;have hm3:meas s (.bin ((i:Int)+1).toNat) st3 < k:=by
   rw[htn];simp only[meas,mdF]at hme ⊢;omega
  refine yf ?_;refine zam (σ':=⟨[(0,pSelf),(1,⟨i64,(i:Int)⟩),(5,⟨.slice gop,opsL⟩),(6,⟨i64,(((l.length+t2.size:Nat):Int) - 1)⟩)],pE ty s st3 (l++t2.flat l.length),2⟩) ⟨⟨rfl,rfl,rfl,rfl,trivial⟩,⟨rfl,rfl,trivial⟩,rfl,rfl⟩ ?_;(repeat(first|apply zae|apply zab|apply zac|apply zad));refine zah ?_;refine zaB 3 hX zbv hbi rfl hq rfl rfl ⟨hst3,(by omega:(0:Int)≤(i:Int)+1),(by omega:(i:Int)+1≤3),hfew3,hm3⟩ hI (f:=trX s (l++t2.flat l.length)) (e:=prsT s (.bin (i+1)) st3) (congrArg (fun i=>toX (trX s (l++t2.flat l.length)) (prsT s (.bin i) st3)) htn) (fun er h=>?_) (fun a h4=>?_)
  ·rw[zao h];exact rfl
  rw[zar h4];obtain⟨u,st4⟩:=a;have hc4:Onw s st3 st4:=zcm hc3.1 h4;have hz4:st4.2=st3.2+(u.size:Int):=zjK h4;have hst4:pOk (s,st4.1,l++t2.flat l.length++u.flat (l.length+t2.size),st4.2,()):=⟨hc4.1,hsl⟩;have hlen1:(l++t2.flat l.length).length=l.length+t2.size:=by rw[zh,hfl]
  have hlen2:(l++t2.flat l.length++u.flat (l.length+t2.size)).length=l.length+t2.size+u.size:=by rw[zh,hlen1,u.len_flat]
  refine zY hX zbv rfl trivial ?_;refine zam (σ':=⟨[(0,pSelf),(1,⟨i64,(i:Int)⟩),(5,⟨.slice gop,opsL⟩),(6,⟨i64,(((l.length+t2.size:Nat):Int) - 1)⟩),(7,⟨i64,(((l.length+t2.size+u.size:Nat):Int) - 1)⟩)],pE ty s st4 (l++t2.flat l.length++u.flat (l.length+t2.size)),2⟩) ⟨⟨rfl,rfl,rfl,rfl,vI64 ?_,trivial⟩,⟨rfl,zu0 ?_,trivial⟩,rfl,rfl⟩ ?_
  ·show ((((l++t2.flat l.length).length+u.size:Nat):Int) - 1)=_;rw[hlen1]
  ·show l++t2.flat l.length++u.flat (l++t2.flat l.length).length=_;rw[hlen1]
  have hg4:=hc4.1.2.2;have hadd:(l++t2.flat l.length++u.flat (l.length+t2.size)).length≤100000:=by
   rw[hlen2];omega
  (repeat(first|apply zae|apply zab|apply zac|apply zad));refine zah ?_;refine yl 9 hX zbv hbi rfl ⟨hgo0,hgo⟩ rfl rfl ⟨hst4,hadd⟩ hI ?_;refine zY hX zbv rfl trivial ?_;refine⟨(.bin (opK i,zNd.2) t2 u,st4),⟨?_,?_,?_⟩,?_,⟨rfl,rfl,rfl,vI64 ?_,trivial⟩,⟨rfl,zu0 ?_,trivial⟩,rfl,rfl⟩
  ·rw[h3];show (prsT s (.bin (i+1)) st3 >>= _)=_;rw[h4];rfl
  ·exact (hon.trans hc3).trans hc4
  ·show st4.2=b+((t2.size+u.size+1:Nat):Int);omega
  ·have hr4:=hc4.rem hc3.1;show rem s st4 < rem s st;omega
  ·show (((l++t2.flat l.length++u.flat (l.length+t2.size)).length:Nat):Int)=((l.length+(t2.size+u.size+1):Nat):Int) - 1;rw[hlen2];omega
  ·show l++t2.flat l.length++u.flat (l.length+t2.size)++ [((opsL.getD ((i:Int)).toNat ([],0,())).2.1,(0:Int),(((l.length+t2.size:Nat):Int) - 1),(((l.length+t2.size+u.size:Nat):Int) - 1),(0:Int),(0:Int),([]:List Int),([]:List UInt8),())]=l++(t2.flat l.length++u.flat (l.length+t2.size)++ [zel (opK i,zNd.2) (((l.length+t2.size:Nat):Int) - 1) (((l.length+t2.size+u.size:Nat):Int) - 1)]);rw[hk1, <-zz, <-zz];rfl
 ·have hb:gIs st (opsL.getD ((i:Int)).toNat ([],0,())).1=false:=hb;rw[hw1]at hb;rw[zi9 hst hb];apply zad;(repeat(first|apply zae|apply zab|apply zal|apply zad|apply zac|refine zaa hX zbv rfl trivial ?_|refine zaa hX zbv rfl id ?_|refine zaa hX zbv rfl ⟨id,id⟩ ?_));exact zm ⟨.inr rfl,⟨_,rfl,nd,1,_,rfl,rfl,rfl⟩,zas rfl trivial rfl rfl rfl⟩
def hBe (k:Nat):List (zO×HCtr):=[(202,zgO),(88,zgP),(178,zj8 k)]
theorem beh_ok (k:Nat) (hP:zaH Tryz.prog gmH 178 (zj8 k)):zaH Tryz.prog gmH 211 (cBeh k):=by
 have hbe:HsOk Tryz.prog gmH (hBe k):=.cons zf2 <| .cons zgh <| .cons hP .nil;refine zav (K:=_) zak Tryz.func211 rfl rfl zbr Tryz.call211 rfl (zb rfl) za5 ?_;rintro w0 ⟨G,O,K,fix,D,ρ,B⟩ ty hX hG hK hρ hD hinv ⟨(s:List UInt8),(t:TokT),(l:List Nd),(b:Int),⟨⟩⟩ ⟨⟩ hp;obtain rfl:G=gmH:=hG;obtain rfl:K=1:=hK;obtain rfl:ρ=none:=hρ;obtain rfl:D=[]:=hD;have hI:=zaN (ty:=ty) (ty':=ty) hX rfl hinv;obtain⟨hok,hfew,hme⟩:pOk (s,t,l,b,())∧few (s,t,l,b,())∧meas s .prim (t,b) < k:=hp;have hg:GOk s (t,b):=hok.1;have hsl:s.length≤100000:=hok.2;have hfew:((l.length:Nat):Int)≤b:=hfew;change AWP _ _ _ _ _ ⟨[(0,pSelf)],pE ty s (t,b) l,2⟩ (pQ _ (cBeh k) ty (toX (fun r=>(setR r.1 (((l.length+r.2.1.size:Nat):Int) - 1),psX s r.2.2 (l++r.2.1.flat l.length))) (gBeh s (t,b))));obtain⟨R,hR⟩:∃ R,R=gBeh s (t,b):=⟨_,rfl⟩;rw[<-hR];rw[show gBeh s (t,b)=(zaR s (t,b) 1 400 >>= fun p=>za0 s p.2 wOf >>= fun st=>prsT s .prim st >>= fun u=>.ok ((17,0,0,0,p.1,0,[],[],()),u.1,u.2)) by
  unfold gBeh gSuf;cases zaR s (t,b) 1 400 with
  |error e=>rfl
  |ok p=>
   show ((za0 s p.2 wOf >>= _) >>= _)=(za0 s p.2 wOf >>= _);cases za0 s p.2 wOf<;>rfl]at hR
 refine za (za ?_);refine zaa hX zak rfl ?_ ?_
 ·trivial
 (repeat(first|apply zae|apply zab|apply zac|apply zad));refine zah ?_;refine zaB 1 hX zak hbe rfl trivial rfl rfl hok hI (e:=zaR s (t,b) 1 400) rfl (fun er h=>?_) (fun p h1=>?_)
 ·rw[show R= .error er by rw[hR,h];rfl];exact rfl
 obtain⟨x,st1⟩:=p;rw[h1]at hR;have hc1:=(zan hg h1).1;have hst1:pOk (s,st1.1,l,st1.2,()):=⟨hc1.1,hsl⟩;refine zY hX zak rfl trivial ?_;refine zam (σ':=⟨[(0,pSelf),(2,⟨.optr nd,⟨2,nd,.here⟩⟩),(3,⟨.optr nd,⟨3,nd,.here⟩⟩)],[(0,some (pBox ty s st1)),(1,some (.buf 73 nd l)),(2,some (.box nd zNd)),(3,some (.box nd (17,0,0,0,x,0,[],[],())))],4⟩) ⟨⟨rfl,rfl,rfl,trivial⟩,⟨rfl,rfl,rfl,rfl,trivial⟩,rfl,rfl⟩ ?_;(repeat(first|apply zae|apply zab|apply zac|apply zad));refine zah ?_;refine zaB 1 hX zak hbe rfl trivial rfl rfl hst1 hI (e:=za0 s st1 wOf) rfl (fun er h=>?_) (fun st2 h2=>?_)
 ·rw[show R= .error er by rw[hR];show (za0 s st1 wOf >>= _)=_;rw[h];rfl];exact rfl
 have hc2:=zbm hc1.1 h2;have hst2:pOk (s,st2.1,l,st2.2,()):=⟨hc2.1,hsl⟩;refine yf ?_;refine zam (σ':=⟨[(0,pSelf),(2,⟨.optr nd,⟨2,nd,.here⟩⟩),(3,⟨.optr nd,⟨3,nd,.here⟩⟩)],[(0,some (pBox ty s st2)),(1,some (.buf 73 nd l)),(2,some (.box nd zNd)),(3,some (.box nd (17,0,0,0,x,0,[],[],())))],4⟩) ⟨⟨rfl,rfl,rfl,trivial⟩,⟨rfl,rfl,rfl,rfl,trivial⟩,rfl,rfl⟩ ?_;have hr1:=hc1.rem hg;have hr2:=hc2.rem hc1.1;have hm2:meas s .prim st2 < k:=by
  simp only[meas,mdF]at hme ⊢;omega
 have hz1:=zbE h1;have hz2:=zec h2;have hfew2:few (s,st2.1,l,st2.2,()):=by
  show ((l.length:Nat):Int)≤st2.2;rw[hz2,hz1];exact hfew
 (repeat(first|apply zae|apply zab|apply zac|apply zad));refine zah ?_;refine zaB 1 hX zak hbe rfl trivial rfl rfl ⟨hst2,hfew2,hm2⟩ hI (e:=prsT s .prim st2) rfl (fun er h=>?_) (fun p h3=>?_)
 ·rw[show R= .error er by rw[hR];show (za0 s st1 wOf >>= _)=_;rw[h2];show (prsT s .prim st2 >>= _)=_;rw[h];rfl];exact rfl
 obtain⟨u,st3⟩:=p;rw[show R= .ok ((17,0,0,0,x,0,[],[],()),u,st3) by rw[hR];show (za0 s st1 wOf >>= _)=_;rw[h2];show (prsT s .prim st2 >>= _)=_;rw[h3];rfl];refine zY hX zak rfl trivial ?_;(repeat(first|apply zae|apply zab|apply zal|apply zad|apply zac|refine zaa hX zak rfl trivial ?_|refine zaa hX zak rfl id ?_|refine zaa hX zak rfl ⟨id,id⟩ ?_));exact zm ⟨.inr rfl,⟨_,rfl,nd,1,_,rfl,rfl,rfl⟩,zas rfl trivial rfl rfl rfl⟩
def kCh:Kn:={ gmK with C:=[(179,zlw)] }
theorem zcF:KnOk Tryz.prog gmH kCh:=zak.with (.cons zlQ .nil)
def hCh (k:Nat):List (zO×HCtr):=[(178,zj8 k),(135,zlD),(136,cAdd)]
theorem ztD {w:SufW} (hw:w≠ .behind):∃ f,zfg w= .func (.func f) #[] #[]∧zaH Tryz.prog gmH f (zgN w):=by
 cases w with
 |shift=>exact⟨_,rfl,zqw⟩
 |from_=>exact⟨_,rfl,zsl⟩
 |until_=>exact⟨_,rfl,zqv⟩
 |also=>exact⟨_,rfl,zsn⟩
 |except_=>exact⟨_,rfl,zot⟩
 |pos=>exact⟨_,rfl,zuD⟩
 |behind=>exact absurd rfl hw
deriving instance DecidableEq for SufW
def zj0 (s:List UInt8) (st:GSt) (len:Nat) (w:SufW):GE (Nd×List Nd×(Tr->Tr)×GSt):=
 if w= .behind then gBeh s st >>= fun r=>.ok (setR r.1 (((len+r.2.1.size:Nat):Int) - 1),r.2.1.flat len,fun t=>.bin r.1 t r.2.1,r.2.2)
 else gSuf s st w >>= fun p=>.ok (p.1,[],fun t=>.un p.1 t,p.2)
theorem zoS {s:List UInt8} {t:Tr} {st:GSt} (len:Nat):∀ w:SufW,sufT (s:=s) t st w=(zj0 s st len w >>= fun r=>.ok (r.2.2.1 t,r.2.2.2))
 | .behind=>by
  unfold sufT zj0 gBeh;rw[if_pos rfl];cases gSuf s st .behind with
  |error e=>rfl
  |ok p=>
   show (prsT s .prim p.2 >>= _)=(((prsT s .prim p.2 >>= _) >>= _) >>= _);cases prsT s .prim p.2<;>rfl
 | .shift| .from_| .until_| .also| .except_| .pos=>by
  unfold sufT zj0;rw[if_neg (by intro h;cases h)];simp only[];cases gSuf s st _<;>rfl
theorem zsf {s:List UInt8} {st:GSt} {len:Nat} {w:SufW} {r:Nd×List Nd×(Tr->Tr)×GSt} (h:GOk s st) (he:zj0 s st len w= .ok r):Onw s st r.2.2.2∧r.2.2.2.2=st.2+(r.2.1.length:Int)∧∀ t:Tr,(r.2.2.1 t).size=t.size+r.2.1.length+1∧∀ b,len=b+t.size->(r.2.2.1 t).flat b=t.flat b++r.2.1++ [setL r.1 (((b+t.size:Nat):Int) - 1)]:=by
 unfold zj0 at he;split at he
 ·obtain⟨⟨n,u,st'⟩,h1,h2⟩:=zaj he;cases h2;obtain⟨⟨n',st1⟩,h3,h4⟩:=zaj h1;obtain⟨⟨u',st2⟩,h5,h6⟩:=zaj h4;cases h6;have k1:=zdo h _ h3;have k2:Onw s st1 st2:=zcm k1.1 h5;have k3:=znn _ h3;have k4:st2.2=st1.2+(u'.size:Int):=zjK h5;refine⟨k1.trans k2,?_,fun t=>⟨?_,fun b hb=>?_⟩⟩
  ·show st2.2=st.2+(((u'.flat len).length:Nat):Int);rw[u'.len_flat];omega
  ·show t.size+u'.size+1=t.size+(u'.flat len).length+1;rw[u'.len_flat]
  ·subst hb;rfl
 ·obtain⟨⟨n,st'⟩,h1,h2⟩:=zaj he;cases h2;refine⟨zdo h _ h1,?_,fun t=>⟨rfl,fun b hb=>?_⟩⟩
  ·show st'.2=st.2+0;rw[znn _ h1];omega
  ·show t.flat b++ [_]=t.flat b++ []++ [_];rw[z7]
@[reducible] def cSufK (w:SufW) (k:Nat):HCtr:=hP [] nd (fun x _=>[few x,meas x.1 .prim (stOf x) < k]) fun x _=>toX (fun r=>(r.1,psX x.1 r.2.2.2 (x.2.2.1++r.2.1))) (zj0 x.1 (stOf x) x.2.2.1.length w)
theorem zra {args:List Ty} {x:PsT} {xs:Args args} {pre pre':PsT->Args args->List Prop} (hp:∀ x xs,allP (pre' x xs)->allP (pre x xs)) (h7:allP (pOk x::pre' x xs)):allP (pOk x::pre x xs):=by
 have h8:pOk x∧allP (pre' x xs):=by
  cases hq:pre' x xs with
  |nil=>rw[hq]at h7;exact⟨h7,trivial⟩
  |cons a l=>rw[hq]at h7;exact h7
 have h9:=hp x xs h8.2;cases hr:pre x xs with
 |nil=>exact h8.1
 |cons a l=>rw[hr]at h9;exact⟨h8.1,h9⟩
theorem zlf {P:zv} {G:zi->Prop} {f:zO} {args:List Ty} {res:Ty} {pre pre':PsT->Args args->List Prop} {out out':PsT->Args args->Except zg (res.T×PsT)} (h:zaH P G f (hP args res pre out)) (hp:∀ x xs,allP (pre' x xs)->allP (pre x xs)) (ho:∀ x xs,out' x xs=out x xs):zaH P G f (hP args res pre' out'):=by
 obtain rfl:out'=out:=funext fun x=>funext fun xs=>ho x xs;refine⟨h.1,h.2.1,fun w O g cs ty x xs vs b h1 h2 h3 h4 h5 h6 h7 h8 h9=>?_⟩;refine (h.2.2 w O g cs ty x xs vs b h1 h2 h3 h4 h5 h6 ?_ h8 h9).mono fun e w' hr=>⟨hr.1,?_⟩
 ·exact zra hp h7
 ·have hr:=hr.2;revert hr;show HEnd (hP args res pre out') ty w w' O g b e (out' x xs)->HEnd (hP args res pre' out') ty w w' O g b e (out' x xs);cases out' x xs<;>exact id
theorem ztC (k:Nat) (hP:zaH Tryz.prog gmH 178 (zj8 k)) (w:SufW):∃ f,zfg w= .func (.func f) #[] #[]∧zaH Tryz.prog gmH f (cSufK w k):=by
 by_cases hw:w= .behind
 ·subst hw;refine⟨_,rfl,zlf (beh_ok k hP) (fun x xs h=>h) fun x xs=>?_⟩;unfold zj0;rw[if_pos rfl];cases gBeh x.1 (stOf x)<;>rfl
 ·obtain⟨f,h1,h2⟩:=ztD hw;refine⟨f,h1,zlf h2 (fun x xs h=>trivial) fun x xs=>?_⟩;unfold zj0;rw[if_neg hw];cases gSuf x.1 (stOf x) w with
  |error e=>rfl
  |ok p=>
   show Except.ok (p.1,psX x.1 p.2 (x.2.2.1++ []))=Except.ok (p.1,psX x.1 p.2 x.2.2.1);rw[z7]
theorem zsv (k:Nat) (hP:zaH Tryz.prog gmH 178 (zj8 k)):zaH Tryz.prog gmH 133 (zlC (k+1)):=by
 have hch:HsOk Tryz.prog gmH (hCh k):=.cons hP <| .cons zke <| .cons zqY .nil;refine zav (K:=_) zcF Tryz.func133 rfl rfl zbr Tryz.call133 rfl (zb rfl) za5 ?_;rintro w0 ⟨G,O,K,fix,D,ρ,B⟩ ty hX hG hK hρ hD hinv ⟨(s:List UInt8),(t:TokT),(l:List Nd),(b:Int),⟨⟩⟩ ⟨⟩ hp;obtain rfl:G=gmH:=hG;obtain rfl:K=1:=hK;obtain rfl:ρ=none:=hρ;obtain rfl:D=[]:=hD;have hI:=zaN (ty:=ty) (ty':=ty) hX rfl hinv;obtain⟨hok,hfew,hme⟩:pOk (s,t,l,b,())∧few (s,t,l,b,())∧meas s .chain (t,b) < k+1:=hp;have hg:GOk s (t,b):=hok.1;have hsl:s.length≤100000:=hok.2;change AWP _ _ _ _ _ ⟨[(0,pSelf)],pE ty s (t,b) l,2⟩ (pQ _ (zlC (k+1)) ty (toX (trX s l) (prsT s .chain (t,b))));rw[zi7 hg];refine za (za ?_);refine zaa hX zcF rfl ?_ ?_
 ·trivial
 have hm0:meas s .prim (t,b) < k:=by simp only[meas,mdF]at hme ⊢;omega
 (repeat(first|apply zae|apply zab|apply zac|apply zad));refine zah ?_;refine zaB 1 hX zcF hch rfl trivial rfl rfl ⟨hok,hfew,hm0⟩ hI (e:=prsT s .prim (t,b)) rfl (fun er h=>?_) (fun a h=>?_)
 ·rw[zao h];exact rfl
 rw[zar h];obtain⟨t1,st1⟩:=a;have hc1:Onw s (t,b) st1:=zcm hg h;have hz1:st1.2=b+(t1.size:Int):=zjK h;have hfew:((l.length:Nat):Int)≤b:=hfew;refine zY hX zcF rfl trivial ?_;apply zae;apply zac;refine yD (ι:=Tr×GSt) (fun i'=>⟨[(0,pSelf),(3,⟨i64,(((l.length+i'.1.size:Nat):Int) - 1)⟩),(4,⟨.mapL,zhA⟩)],pE ty s i'.2 (l++i'.1.flat l.length),2⟩) (fun i'=>prsT s (.chainL t1) st1=prsT s (.chainL i'.1) i'.2∧Onw s (t,b) i'.2∧i'.2.2=b+(i'.1.size:Int)) (fun i'=>rem s i'.2) (t1,st1) ⟨rfl,hc1,hz1⟩ ⟨⟨rfl,rfl,rfl,trivial⟩,⟨rfl,rfl,trivial⟩,rfl,rfl⟩ ?_;rintro ⟨t2,st⟩ ⟨heq,hon,hsz⟩;have heq:prsT s (.chainL t1) st1=prsT s (.chainL t2) st:=heq;have hsz:st.2=b+(t2.size:Int):=hsz;have hon:Onw s (t,b) st:=hon;have hst:GOk s st:=hon.1;have hst2:pOk (s,st.1,l++t2.flat l.length,st.2,()):=⟨hst,hsl⟩;have hfl:=t2.len_flat l.length;have hlen1:(l++t2.flat l.length).length=l.length+t2.size:=by rw[zh,hfl]
 rw[heq];apply zae;refine za (za ?_);refine zaa hX zcF rfl ?_ ?_
 ·trivial
 refine zaf rfl (fun hb=>?_) (fun hb=>?_)
 rotate_left
 ·have hb:(st.1.1==1)=false:=hb;have hb:zF st.1≠1:=fun h=>by
   have:(st.1.1==1)=true:=beq_iff_eq.2 h;rw[this]at hb;cases hb
  rw[zeJ hst hb];apply zad;(repeat(first|apply zae|apply zab|apply zal|apply zad|apply zac|refine zaa hX zcF rfl trivial ?_|refine zaa hX zcF rfl id ?_|refine zaa hX zcF rfl ⟨id,id⟩ ?_));exact zm ⟨.inr rfl,⟨_,rfl,nd,1,_,rfl,rfl,rfl⟩,zas rfl trivial rfl rfl rfl⟩
 have hb:(st.1.1==1)=true:=hb;have hcls:zF st.1=1:=beq_iff_eq.1 hb;apply zab;refine zam (σ':=⟨[(0,pSelf),(3,⟨i64,(((l.length+t2.size:Nat):Int) - 1)⟩),(4,⟨.mapL,zhA⟩)],pE ty s st (l++t2.flat l.length),2⟩) ⟨⟨rfl,rfl,rfl,trivial⟩,⟨rfl,rfl,trivial⟩,rfl,rfl⟩ ?_;apply zac;(repeat(first|apply zae|apply zab|apply zac|apply zad));refine zah ?_;refine yy 6 hX zcF rfl trivial ?_;refine AL.look2 Tryz.underlying204 Tryz.underlying9 rfl (key:=strV (zD st.1)) (z:=.nilFunc) (es:=zhA) (r:=(sufW (zD st.1)).map zfg) rfl rfl rfl rfl rfl (zqc rfl) Tryz.zeroValue206 (zrg _) ?_;refine yy 1 hX zcF rfl trivial ?_;refine AL.ext0 rfl rfl rfl rfl rfl ?_;refine AL.ext1 rfl rfl rfl rfl rfl ?_;refine zY hX zcF rfl trivial ?_;refine za (za ?_);refine zaa hX zcF rfl ?_ ?_
 ·trivial
 cases hw:sufW (zD st.1) with
 |none=>
  rw[zgX hst hcls hw];refine zaf rfl (fun _=>?_) (fun hb=>?_)
  rotate_left
  ·have hb:(!((none:Option SufW).map zfg).isSome)=false:=hb;cases hb
  apply zad;refine zam (σ':=⟨[(0,pSelf),(3,⟨i64,(((l.length+t2.size:Nat):Int) - 1)⟩),(4,⟨.mapL,zhA⟩)],pE ty s st (l++t2.flat l.length),2⟩) ⟨⟨rfl,rfl,rfl,trivial⟩,⟨rfl,rfl,trivial⟩,rfl,rfl⟩ ?_;(repeat(first|apply zae|apply zab|apply zal|apply zad|apply zac|refine zaa hX zcF rfl trivial ?_|refine zaa hX zcF rfl id ?_|refine zaa hX zcF rfl ⟨id,id⟩ ?_));exact zm ⟨.inr rfl,⟨_,rfl,nd,1,_,rfl,rfl,rfl⟩,zas rfl trivial rfl rfl rfl⟩
 |some w=>
  rw[zgY hst hcls hw]at heq ⊢;refine zaf rfl (fun hb=>?_) (fun _=>?_)
  ·have hb:(!((some w:Option SufW).map zfg).isSome)=true:=hb;cases hb
  apply zab;refine zam (σ':=⟨[(0,pSelf),(3,⟨i64,(((l.length+t2.size:Nat):Int) - 1)⟩),(4,⟨.mapL,zhA⟩),(5,⟨.lit,zfg w⟩)],pE ty s st (l++t2.flat l.length),2⟩) ⟨⟨rfl,rfl,rfl,rfl,trivial⟩,⟨rfl,rfl,trivial⟩,rfl,rfl⟩ ?_;(repeat(first|apply zae|apply zab|apply zac|apply zad));refine zah ?_;refine zaB 1 hX zcF hch rfl trivial rfl rfl hst2 hI (e:=zbj s st) rfl (fun er h=>?_) (fun st3 h3=>?_)
  ·rw[zao h];exact rfl
  rw[zar h3];have hc3:=zaY hst (by rw[hcls];decide) h3;have hz3:=zdx h3;have hst3:pOk (s,st3.1,l++t2.flat l.length,st3.2,()):=⟨hc3.1,hsl⟩;have hfew3:few (s,st3.1,l++t2.flat l.length,st3.2,()):=by
   show (((l++t2.flat l.length).length:Nat):Int)≤st3.2;rw[hlen1];omega
  have hr1:=hon.rem hg;have hr2:=hc3.rem hst;have hm3:meas s .prim st3 < k:=by
   simp only[meas,mdF]at hme ⊢;omega
  refine yf ?_;refine zam (σ':=⟨[(0,pSelf),(3,⟨i64,(((l.length+t2.size:Nat):Int) - 1)⟩),(4,⟨.mapL,zhA⟩),(5,⟨.lit,zfg w⟩)],pE ty s st3 (l++t2.flat l.length),2⟩) ⟨⟨rfl,rfl,rfl,rfl,trivial⟩,⟨rfl,rfl,trivial⟩,rfl,rfl⟩ ?_;obtain⟨f,hf,hfo⟩:=ztC k hP w;(repeat(first|apply zae|apply zab|apply zac|apply zad));refine zah ?_;refine yy 2 hX zcF rfl trivial ?_;refine AL.ownVM hX hfo rfl rfl rfl (by show (⟨.lit,zfg w⟩:V)=_;rw[hf]) rfl rfl rfl rfl rfl rfl rfl rfl trivial ⟨hst3,hfew3,hm3⟩ hI (fun _=>rfl) (e:=zj0 s st3 (l++t2.flat l.length).length w) rfl (fun er h=>?_) (fun r h4=>?_)
  ·rw[zoS (l++t2.flat l.length).length w];rw[h];exact rfl
  rw[zoS (l++t2.flat l.length).length w];rw[h4];obtain⟨n0,ex,tf,st4⟩:=r;obtain⟨hc4,hz4,hT⟩:=zsf hc3.1 h4;obtain⟨hT1,hT2⟩:=hT t2;have hT2:=hT2 l.length hlen1;have hT1:(tf t2).size=t2.size+ex.length+1:=hT1;have hT2:(tf t2).flat l.length=t2.flat l.length++ex++ [setL n0 (((l.length+t2.size:Nat):Int) - 1)]:=hT2;have hc4:Onw s st3 st4:=hc4;have hz4:st4.2=st3.2+(ex.length:Int):=hz4;have hlen2:(l++t2.flat l.length++ex).length=l.length+t2.size+ex.length:=by rw[zh,hlen1]
  have hst4:pOk (s,st4.1,l++t2.flat l.length++ex,st4.2,()):=⟨hc4.1,hsl⟩;refine zY hX zcF rfl trivial ?_;refine zam (σ':=⟨[(0,pSelf),(3,⟨i64,(((l.length+t2.size:Nat):Int) - 1)⟩),(4,⟨.mapL,zhA⟩),(7,⟨.optr nd,⟨2,nd,.here⟩⟩)],[(0,some (pBox ty s st4)),(1,some (.buf 73 nd (l++t2.flat l.length++ex))),(2,some (.box nd n0))],3⟩) ⟨⟨rfl,rfl,rfl,rfl,trivial⟩,⟨rfl,rfl,rfl,trivial⟩,rfl,rfl⟩ ?_;refine za (za ?_);refine zaa hX zcF rfl ?_ ?_
  ·trivial
  have hg4:=hc4.1.2.2;have hadd:(l++t2.flat l.length++ex).length≤100000:=by
   rw[hlen2];omega
  (repeat(first|apply zae|apply zab|apply zac|apply zad));refine zah ?_;refine yl 2 hX zcF hch rfl trivial rfl rfl ⟨hst4,hadd⟩ hI ?_;refine zY hX zcF rfl trivial ?_;refine⟨(tf t2,st4),⟨?_,?_,?_⟩,?_,⟨rfl,vI64 ?_,rfl,trivial⟩,⟨rfl,zu0 ?_,trivial⟩,rfl,rfl⟩
  ·rw[h3];show (sufT t2 st3 w >>= _)=_;rw[zoS (l++t2.flat l.length).length w,h4];rfl
  ·exact (hon.trans hc3).trans hc4
  ·show st4.2=b+((tf t2).size:Int);rw[hT1];omega
  ·have hr4:=hc4.rem hc3.1;show rem s st4 < rem s st;omega
  ·show (((l++t2.flat l.length++ex).length:Nat):Int)=((l.length+(tf t2).size:Nat):Int) - 1;rw[hlen2,hT1];omega
  ·show l++t2.flat l.length++ex++ [setL n0 (((l.length+t2.size:Nat):Int) - 1)]=l++(tf t2).flat l.length;rw[hT2, <-zz, <-zz]
section
variable {s:List UInt8}
theorem zn5 {st:GSt} (h:GOk s st) (ho:gIs st zc6=true):prsT s .prim st=(prsT s (.bin 0) (gAdv s st) >>= fun p=>za0 s p.2 zbu >>= fun st=>.ok (p.1,st)):=by
 rw[zb0 h,zbe,if_pos ho];rfl
theorem zn6 {st:GSt} (h:GOk s st) (ho:gIs st zc6=false) (hc:zF st.1=2):prsT s .prim st=(zaG st (decide ((zD st.1).length≤32)) 2 >>= fun _=>zbj s st >>= fun st'=>.ok (.leaf (18,0,0,0,0,0,[],zD st.1,()),st')):=by
 rw[zb0 h,zbe,if_neg (by rw[ho];decide),if_pos hc];rfl
def leafT (s:List UInt8) (st:GSt):Option LeafW->GE (Tr×GSt)
 |none=>.error (Tok.at st.1,3)
 |some w=>zbj s st >>= fun st=>zcl s st w >>= fun p=>.ok (.leaf p.1,p.2)
theorem zn7 {st:GSt} (h:GOk s st) (ho:gIs st zc6=false) (hc:zF st.1≠2):prsT s .prim st=(zaG st (zF st.1==3 - 2) 3 >>= fun _=>leafT s st (zdw (zD st.1))):=by
 rw[zb0 h,zbe,if_neg (by rw[ho];decide),if_neg hc];show (zaG st (zF st.1==1) 3 >>= _)=(zaG st (zF st.1==1) 3 >>= _);cases zdw (zD st.1)<;>rfl
end
theorem zr6 (w:LeafW):∃ f,zds w= .func (.func f) #[] #[]∧zaH Tryz.prog gmH f (zdJ w):=by
 cases w with
 |days=>exact⟨_,rfl,zsm⟩
 |years=>exact⟨_,rfl,zqt⟩
 |months=>exact⟨_,rfl,zos⟩
 |monthdays=>exact⟨_,rfl,zj2⟩
 |weekdays=>exact⟨_,rfl,zlp⟩
 |weeks=>exact⟨_,rfl,zqu⟩
 |nth=>exact⟨_,rfl,zuE⟩
theorem dNat (a b:Nat):decide (((a:Nat):Int)≤((b:Nat):Int))=decide (a≤b):=decide_eq_decide.2 Int.ofNat_le
def kPm:Kn:={ gmK with C:=[(200,zqM)] }
theorem zcp:KnOk Tryz.prog gmH kPm:=zak.with (.cons zp5 .nil)
def hPm (k:Nat):List (zO×HCtr):=[(80,cBin k),(134,cIs),(87,cAdv),(88,zgP),(81,zg9),(135,zlD),(136,cAdd)]
theorem zn8 (k:Nat) (hB:zaH Tryz.prog gmH 80 (cBin k)):zaH Tryz.prog gmH 178 (zj8 (k+1)):=by
 have hpm:HsOk Tryz.prog gmH (hPm k):=.cons hB <| .cons zr9 <| .cons zgR <| .cons zgh <| .cons zfe <| .cons zke <| .cons zqY .nil;refine zav (K:=_) zcp Tryz.func178 rfl rfl zbr Tryz.call178 rfl (zb rfl) za5 ?_;rintro w0 ⟨G,O,K,fix,D,ρ,B⟩ ty hX hG hK hρ hD hinv ⟨(s:List UInt8),(t:TokT),(l:List Nd),(b:Int),⟨⟩⟩ ⟨⟩ hp;obtain rfl:G=gmH:=hG;obtain rfl:K=1:=hK;obtain rfl:ρ=none:=hρ;obtain rfl:D=[]:=hD;have hI:=zaN (ty:=ty) (ty':=ty) hX rfl hinv;obtain⟨hok,hfew,hme⟩:pOk (s,t,l,b,())∧few (s,t,l,b,())∧meas s .prim (t,b) < k+1:=hp;have hg:GOk s (t,b):=hok.1;have hsl:s.length≤100000:=hok.2;have hfew:((l.length:Nat):Int)≤b:=hfew;change AWP _ _ _ _ _ ⟨[(0,pSelf)],pE ty s (t,b) l,2⟩ (pQ _ (zj8 (k+1)) ty (toX (trX s l) (prsT s .prim (t,b))));refine za (za ?_);refine zaa hX zcp rfl ?_ ?_
 ·trivial
 (repeat(first|apply zae|apply zab|apply zac|apply zad));refine zah ?_;refine yl 1 hX zcp hpm rfl trivial rfl rfl hok hI ?_;refine yf ?_;refine zaf rfl (fun hb=>?_) (fun hb=>?_)
 ·have hb:gIs (t,b) zc6=true:=hb;rw[zn5 hg hb];have hc1:=zb2 hg (zcY hb);have hst1:pOk (s,(gAdv s (t,b)).1,l,(gAdv s (t,b)).2,()):=⟨hc1.1,hsl⟩;have hr1:=hc1.rem hg;have hm1:meas s (.bin ((0:Int)).toNat) (gAdv s (t,b)) < k:=by
   show meas s (.bin 0) (gAdv s (t,b)) < k;simp only[meas,mdF]at hme ⊢;omega
  (repeat(first|apply zae|apply zab|apply zac|apply zad));refine zah ?_;refine yl 1 hX zcp hpm rfl trivial rfl rfl hok hI ?_;refine yf ?_;(repeat(first|apply zae|apply zab|apply zac|apply zad));refine zah ?_;refine zaB 1 hX zcp hpm rfl trivial rfl rfl ⟨hst1,(by decide:(0:Int)≤0),(by decide:(0:Int)≤3),hfew,hm1⟩ hI (f:=trX s l) (e:=prsT s (.bin 0) (gAdv s (t,b))) rfl (fun er h=>?_) (fun a h=>?_)
  ·rw[zao h];exact rfl
  rw[zar h];obtain⟨u,st2⟩:=a;have hc2:Onw s (gAdv s (t,b)) st2:=zcm hc1.1 h;have hst2:pOk (s,st2.1,l++u.flat l.length,st2.2,()):=⟨hc2.1,hsl⟩;refine zY hX zcp rfl trivial ?_;refine zam (σ':=⟨[(0,pSelf),(3,⟨i64,(((l.length+u.size:Nat):Int) - 1)⟩)],pE ty s st2 (l++u.flat l.length),2⟩) ⟨⟨rfl,rfl,trivial⟩,⟨rfl,rfl,trivial⟩,rfl,rfl⟩ ?_;(repeat(first|apply zae|apply zab|apply zac|apply zad));refine zah ?_;refine zaB 1 hX zcp hpm rfl trivial rfl rfl hst2 hI (e:=za0 s st2 zbu) rfl (fun er h=>?_) (fun st3 h3=>?_)
  ·rw[zao h];exact rfl
  rw[zar h3];refine yf ?_;(repeat(first|apply zae|apply zab|apply zal|apply zad|apply zac|refine zaa hX zcp rfl trivial ?_|refine zaa hX zcp rfl id ?_|refine zaa hX zcp rfl ⟨id,id⟩ ?_));exact zm ⟨.inr rfl,⟨_,rfl,nd,1,_,rfl,rfl,rfl⟩,zas rfl trivial rfl rfl rfl⟩
 have hb:gIs (t,b) zc6=false:=hb;apply zab;refine za (za ?_);refine zaa hX zcp rfl ?_ ?_
 ·trivial
 refine za (za ?_);refine zaa hX zcp rfl ?_ ?_
 ·trivial
 refine zam (σ':=⟨[(0,pSelf),(4,⟨.optr tk,⟨2,tk,.here⟩⟩),(22,⟨.bool,zF t==2⟩)],[(0,some (pBox ty s (t,b))),(1,some (.buf 73 nd l)),(2,some (.box tk t))],3⟩) ⟨⟨rfl,rfl,zbz rfl,trivial⟩,⟨rfl,rfl,rfl,trivial⟩,rfl,rfl⟩ ?_;refine zaf rfl (fun hc=>?_) (fun hc=>?_)
 ·have hc:zF t=2:=beq_iff_eq.1 hc;rw[zn6 hg hb hc];have hls:(zD t).length≤100000:=by
   have:=hg.1.2.2.2.2.1;have this:(zD t).length≤s.length:=this;omega
  (repeat(first|apply zae|apply zab|apply zac|apply zad));refine zah ?_;refine zaB 5 hX zcp hpm rfl trivial rfl rfl hok hI (e:=zaG (t,b) (decide ((zD t).length≤32)) 2) (congrArg (fun c=>toX (fun _=>((),(s,t,l,b,()))) (zaG (t,b) c 2)) (dNat (zD t).length 32)) (fun er h=>?_) (fun a h=>?_)
  ·rw[zao h];exact rfl
  rw[zar h];refine yf ?_;refine zam (σ':=⟨[(0,pSelf),(4,⟨.optr tk,⟨2,tk,.here⟩⟩)],[(0,some (pBox ty s (t,b))),(1,some (.buf 73 nd l)),(2,some (.box tk t))],3⟩) ⟨⟨rfl,rfl,trivial⟩,⟨rfl,rfl,rfl,trivial⟩,rfl,rfl⟩ ?_;(repeat(first|apply zae|apply zab|apply zac|apply zad));refine zah ?_;refine zaB 1 hX zcp hpm rfl trivial rfl rfl hok hI (e:=zbj s (t,b)) rfl (fun er h=>?_) (fun st1 h1=>?_)
  ·rw[zao h];exact rfl
  rw[zar h1];have hc1:=zaY hg (by show zF t≠0;rw[hc];decide) h1;have hg1:=hc1.1.2.2;have hz1:=zdx h1;have hz1:st1.2=b+1:=hz1;have hst1:pOk (s,st1.1,l,st1.2,()):=⟨hc1.1,hsl⟩;have hadd:l.length≤100000:=by omega
  refine yf ?_;refine zam (σ':=⟨[(0,pSelf),(4,⟨.optr tk,⟨2,tk,.here⟩⟩)],[(0,some (pBox ty s st1)),(1,some (.buf 73 nd l)),(2,some (.box tk t))],3⟩) ⟨⟨rfl,rfl,trivial⟩,⟨rfl,rfl,rfl,trivial⟩,rfl,rfl⟩ ?_;(repeat(first|apply zae|apply zab|apply zac|apply zad));refine zah ?_;refine yl 4 hX zcp hpm rfl trivial rfl rfl ⟨hst1,hadd⟩ hI ?_;refine zY hX zcp rfl trivial ?_;refine zm ⟨.inr rfl,⟨_,rfl,nd,1,_,rfl,rfl,rfl⟩,zas rfl trivial rfl rfl ?_⟩;show ((l.length:Nat):Int)=((l.length+1:Nat):Int) - 1;omega
 ·have hc:zF t≠2:=fun h=>by
   have h2:(zF t==2)=true:=beq_iff_eq.2 h;have hc:(zF t==2)=false:=hc;rw[h2]at hc;cases hc
  rw[zn7 hg hb hc];apply zab;refine zam (σ':=⟨[(0,pSelf)],pE ty s (t,b) l,2⟩) ⟨⟨rfl,trivial⟩,⟨rfl,rfl,trivial⟩,rfl,rfl⟩ ?_;(repeat(first|apply zae|apply zab|apply zac|apply zad));refine zah ?_;refine zaB 7 hX zcp hpm rfl trivial rfl rfl hok hI (e:=zaG (t,b) (zF t==1) 3) rfl (fun er h=>?_) (fun a h=>?_)
  ·rw[zao (by exact h)];exact rfl
  rw[zar (by exact h)];have hcls:zF t=1:=beq_iff_eq.1 (zbb h);refine yf ?_;refine yO (σ':=⟨[(0,pSelf),(5,⟨.lit,((zdw (zD t)).map zds).getD .nilFunc⟩),(6,⟨.bool,((zdw (zD t)).map zds).isSome⟩)],pE ty s (t,b) l,2⟩) ?_ ?_
  ·refine ju dM 12 rfl (by kernel_rfl) ?_
   repeat'(first
    |exact AllN.nil
    |refine AllN.cons ⟨_,rfl,?_⟩ ?_
    |refine yZ hX zcp rfl trivial ?_
    |refine jY rfl (zpU Tryz.underlying204 Tryz.underlying9 rfl (key:=strV (zD t)) (z:=.nilFunc) (es:=zk6) (r:=(zdw (zD t)).map zds) rfl rfl rfl rfl (zqc rfl) Tryz.zeroValue206 (zp6 _) ?_)
    |refine jY rfl (zqy rfl rfl rfl rfl ?_)
    |refine jY rfl (zqx rfl rfl rfl rfl ?_)
    |(refine OrdA.last ?_;exact⟨⟨rfl,rfl,rfl,trivial⟩,⟨rfl,rfl,trivial⟩,rfl,rfl⟩))
  (repeat(first|apply zae|apply zab|apply zac|apply zad));refine zah ?_;refine zaB 2 hX zcp hpm rfl trivial rfl rfl hok hI (e:=zaG (t,b) ((zdw (zD t)).map zds).isSome 3) rfl (fun er h=>?_) (fun a h2=>?_)
  ·cases hw:zdw (zD t) with
   |some w=>rw[hw]at h;cases h
   |none=>
    rw[hw]at h;cases h;exact rfl
  cases hw:zdw (zD t) with
  |none=>rw[hw]at h2;cases h2
  |some w=>
   refine yf ?_;refine zam (σ':=⟨[(0,pSelf),(5,⟨.lit,zds w⟩)],pE ty s (t,b) l,2⟩) ⟨⟨rfl,rfl,trivial⟩,⟨rfl,rfl,trivial⟩,rfl,rfl⟩ ?_;change AWP _ _ _ _ _ _ (pQ _ (zj8 (k+1)) ty (toX (trX s l) (zbj s (t,b) >>= fun st=>zcl s st w >>= fun p=>.ok (.leaf p.1,p.2))));(repeat(first|apply zae|apply zab|apply zac|apply zad));refine zah ?_;refine zaB 1 hX zcp hpm rfl trivial rfl rfl hok hI (e:=zbj s (t,b)) rfl (fun er h=>?_) (fun st1 h1=>?_)
   ·rw[zao h];exact rfl
   rw[zar h1];have hc1:=zaY hg (by show zF t≠0;rw[hcls];decide) h1;have hg1:=hc1.1.2.2;have hz1:=zdx h1;have hz1:st1.2=b+1:=hz1;have hst1:pOk (s,st1.1,l,st1.2,()):=⟨hc1.1,hsl⟩;have hadd:l.length≤100000:=by omega
   refine yf ?_;refine zam (σ':=⟨[(0,pSelf),(5,⟨.lit,zds w⟩)],pE ty s st1 l,2⟩) ⟨⟨rfl,rfl,trivial⟩,⟨rfl,rfl,trivial⟩,rfl,rfl⟩ ?_;obtain⟨f,hf,hfo⟩:=zr6 w;(repeat(first|apply zae|apply zab|apply zac|apply zad));refine zah ?_;refine yy 3 hX zcp rfl trivial ?_;refine AL.ownVM hX hfo rfl rfl rfl (by show (⟨.lit,zds w⟩:V)=_;rw[hf]) rfl rfl rfl rfl rfl rfl rfl rfl trivial hst1 hI (fun _=>rfl) (e:=zcl s st1 w) rfl (fun er h=>?_) (fun r h4=>?_)
   ·rw[zao h];exact rfl
   rw[zar h4];obtain⟨n0,st2⟩:=r;have hc2:Onw s st1 st2:=znq hc1.1 w h4;have hst2:pOk (s,st2.1,l,st2.2,()):=⟨hc2.1,hsl⟩;refine yl 0 hX zcp hpm rfl trivial rfl rfl ⟨hst2,hadd⟩ hI ?_;refine zY hX zcp rfl trivial ?_;refine zm ⟨.inr rfl,⟨_,rfl,nd,1,_,rfl,rfl,rfl⟩,zas rfl trivial rfl rfl ?_⟩;show ((l.length:Nat):Int)=((l.length+1:Nat):Int) - 1;omega
def Rec3 (k:Nat):Prop:=zaH Tryz.prog gmH 80 (cBin k)∧zaH Tryz.prog gmH 133 (zlC k)∧zaH Tryz.prog gmH 178 (zj8 k)
theorem zeQ {P:zv} {G:zi->Prop} {f:zO} {c:HCtr} (hl:c.law) (hen:∀ (vs:Array zg) (w:zi),(callFunc f vs).run P w= .ok (.enter f vs) w) (h:∀ x xs,¬ allP (c.pre x xs)):zaH P G f c:=
 ⟨hen,hl,fun _ _ _ _ _ x xs _ _ _ _ _ _ _ _ hp=>(h x xs hp).elim⟩
theorem zmY:∀ k,Rec3 k
 |0=>by
  refine⟨zeQ zbr Tryz.call80 fun x xs h=>?_,zeQ zbr Tryz.call133 fun x xs h=>?_,zeQ zbr Tryz.call178 fun x xs h=>?_⟩
  ·exact absurd h.2.2.2.2 (yg _)
  ·exact absurd h.2.2 (yg _)
  ·exact absurd h.2.2 (yg _)
 |k+1=>by
  obtain⟨h1,h2,h3⟩:=zmY k;exact⟨zqU k h1 h2,zsv k h3,zn8 k h1⟩
@[reducible] def nBox (s:List UInt8) (t:TokT) (b:Int):OObj:=.hbox 139 [⟨.str,s⟩,⟨i64,t.1⟩,⟨i64,t.2.1⟩,⟨i64,t.2.2.1⟩,⟨.str,t.2.2.2.1⟩,⟨i64,t.2.2.2.2.1⟩,⟨.lit,.slice none 0 0⟩,⟨i64,b⟩]
@[reducible] def cNewP:FCtr:={ args:=[.str],pre:=fun xs=>[zf xs.1≤100000],obj:=fun xs=>nBox xs.1 (za2 xs.1) 0 }
def zkQ (s:List UInt8):zg:=.agg #[.string ⟨s.toArray⟩,.int .i64 0,.int .i64 0,.int .i64 0,.string ⟨#[]⟩,.int .i64 0,.slice none 0 0,.int .i64 0]
theorem zrH (s:List UInt8):Tryz.prog.built 139 [(0,.string ⟨s.toArray⟩)]=some #[.string ⟨s.toArray⟩,.int .i64 0,.int .i64 0,.int .i64 0,.string ⟨#[]⟩,.int .i64 0,.slice none 0 0,.int .i64 0]:=by kernel_rfl
section
variable {w0:zi} {X:Ownr} {n:Nat} {Q:Exit->AS->Prop} {ops:Array Oper}
theorem AL.newPs (hX:X.Ok w0) {o1 o2:Oper} {rest:List Oper} {d1 d2:Nat} {x:zG} (ho1:o1.op= .build 139 #[(0,x)]) (ho2:o2.op= .box 139 (.tmp d1)) (hg1:o1.guard=none) (hg2:o2.guard=none) (hd1:o1.dst=some d1) (hd2:o2.dst=some d2) (hn1:z6 d1 n=true) (hn2:z6 d2 n=true) {F:Frame} {E:Owns} {nx:Nat} {s:List UInt8} (hx:evO F x=⟨.str,s⟩)
  (h:AL Tryz.prog w0 X n ops rest ⟨(d2,⟨.hptr,(nx,(0:Nat))⟩)::(d1,⟨.lit,zkQ s⟩)::F,(nx,some (nBox s zTk 0))::E,nx+1⟩ Q):AL Tryz.prog w0 X n ops (o1::o2::rest) ⟨F,E,nx⟩ Q:=by
 refine qF hg1 (fun c e=>by rw[ho1]at e;cases e) fun β a w hs=>?_;have hl1:d1 < n:=by simpa using hn1
 have hl2:d2 < n:=by simpa using hn2
 have hsx:=hs.ops x;rw[show evO (AS.mk F E nx).F x=_ from hx]at hsx;obtain⟨hsx,hle⟩:=hsx;have hsx:a.eval x= .string ⟨s.toArray⟩:=vA.1 hsx;refine zbL (u:=zkQ s) (w':=w) ?_ ?_
 ·unfold execOp;simp only[ho1];refine zeG ?_;rw[show (#[(0,x)]:Array (Nat×zG)).map (fun p=>(p.1,a.eval p.2))= #[(0,jc ⟨s.toArray⟩)] from by simp[hsx]];exact run_build w _ _ _ (zrH s)
 rw[hd1];refine⟨_,β,hs.put (zU _ _) (v:=⟨.lit,zkQ s⟩) rfl (zk _) hl1,?_⟩;refine qF hg2 (fun c e=>by rw[ho2]at e;cases e) fun β a w hs=>?_;have hv:a.eval (.tmp d1)=zkQ s:=by
  have h1:=hs.ops (.tmp d1);have e:evO ((d1,⟨.lit,zkQ s⟩)::F) (.tmp d1)=⟨.lit,zkQ s⟩:=by
   show zq ((d1,_)::F) d1=_;rw[zau,if_pos rfl]
  rw[show evO (AS.mk ((d1,⟨.lit,zkQ s⟩)::F) E nx).F (.tmp d1)=_ from e]at h1;exact h1
 refine zbL (u:=.pointer (some ⟨w.heap.size,0,none⟩)) (w':=w.alloc (.cells #[.string ⟨s.toArray⟩,.int .i64 0,.int .i64 0,.int .i64 0,.string ⟨#[]⟩,.int .i64 0,.slice none 0 0,.int .i64 0] 139 (0,0))) ?_ ?_
 ·unfold execOp;simp only[ho2];refine zeG ?_;rw[hv];simp[Instr.box,newVar,newRow,Value.cells,go_sem,zkQ]
 ·rw[hd2];obtain⟨β',h4⟩:=hs.make hX ((zU _ w).alloc (zj _) (.cells #[.string ⟨s.toArray⟩,.int .i64 0,.int .i64 0,.int .i64 0,.string ⟨#[]⟩,.int .i64 0,.slice none 0 0,.int .i64 0] 139 (0,0))) (bv:=.pointer (some ⟨w.heap.size,0,none⟩)) (o:=nBox s zTk 0)
   (fun O β' hO=>⟨w.heap.size,[_,_,_,_,_,_,_,_],rfl,zk _,xo w _,_,_,rfl,rfl,⟨rfl,hle⟩,_,_,rfl,rfl,rfl,_,_,rfl,rfl,rfl,_,_,rfl,rfl,rfl,_,_,rfl,rfl,⟨rfl,zk _⟩,_,_,rfl,rfl,rfl,_,_,rfl,rfl,rfl,_,_,rfl,rfl,rfl,rfl⟩)
   (fun g hg=>by cases hg;exact zj _) (v:=⟨.hptr,(nx,(0:Nat))⟩) (u:=.pointer (some ⟨w.heap.size,0,none⟩))
   (fun O β' hb=>⟨w.heap.size,by show zai (β' nx)=_;rw[show β' nx=_ from hb];rfl,rfl⟩) (zj _) hl2 (fun vs e v hv=>by
     cases e;have:((nBox s zTk 0).bare)=true:=rfl;exact OObj.bare_under this _ _ rfl _ hv)
  exact⟨_,β',h4,h⟩
end
theorem zeL:zlK Tryz.prog gmH 45 cNewP:=by
 refine zin zdg Tryz.func45 rfl rfl Tryz.call45 rfl (zb rfl) (fun xs=>⟨rfl,rfl⟩) ?_;rintro w0 O hX ⟨(s:List UInt8),⟨⟩⟩ hp;have hlen:s.length≤100000:=hp;change AWP _ _ _ _ _ ⟨[(0,⟨.str,s⟩)],[],0⟩ _;refine za (za ?_);refine zaa hX zdg rfl ?_ ?_
 ·trivial
 (repeat(first|apply zae|apply zab|apply zac|apply zad));refine zah ?_;refine yy 1 hX zdg rfl trivial ?_;refine AL.newPs hX rfl rfl rfl rfl rfl rfl rfl rfl rfl ?_;refine zY hX zdg rfl trivial ?_;refine za (za ?_);refine zaa hX zdg rfl ?_ ?_
 ·exact hlen
 (repeat(first|apply zae|apply zab|apply zal|apply zad|apply zac|refine zaa hX zdg rfl trivial ?_|refine zaa hX zdg rfl id ?_|refine zaa hX zdg rfl ⟨id,id⟩ ?_));exact zm ⟨.inr rfl,_,_,rfl,rfl,rfl⟩
def lQ (rs:List xT) (t:Ty) (r:Except zg t.T) (e:Exit) (σ:AS):Prop:=LDone gmT rs t e σ r
def zeS (s:List UInt8) (st:GSt) (l:List Nd):Except zg (List Nd):=toX (fun r=>l++r.1.flat l.length) (zeC s st)
@[reducible] def cRule:HCtr:=hP [] (.slice nd) (fun x _=>[few x]) fun x _=>.ok ([],x)
def hRu (k:Nat):List (zO×HCtr):=[(80,cBin k),(81,zg9)]
theorem zpg:zgs Tryz.prog gmH 46 cRule (fun x _=>zeS x.1 (stOf x) x.2.2.1):=by
 refine zia (K:=gmK) zak Tryz.func46 rfl rfl zbr Tryz.call46 rfl (zb rfl) za5 ?_;rintro w0 ⟨G,O,K,fix,D,ρ,B⟩ ty hX hG hK hρ hD hinv x ⟨⟩ hp;obtain rfl:G=gmH:=hG;obtain rfl:K=1:=hK;obtain rfl:ρ=none:=hρ;obtain rfl:D=[]:=hD;have hI:=zaN (ty:=ty) hX rfl hinv (ty':=ty);obtain⟨s,t,l,b,⟨⟩⟩:=x;obtain⟨hok,hfew⟩:pOk (s,t,l,b,())∧few (s,t,l,b,()):=hp;have hg:GOk s (t,b):=hok.1;have hsl:s.length≤100000:=hok.2;have hru:HsOk Tryz.prog gmH (hRu (meas s (.bin 0) (t,b)+1)):=.cons (zmY _).1 <| .cons zfe .nil;change AWP _ _ _ _ _ ⟨[(0,pSelf)],pE ty s (t,b) l,2⟩ (lQ _ (.slice nd) (zeS s (t,b) l));unfold zeS;obtain⟨R,hR⟩:∃ R,R=zeC s (t,b):=⟨_,rfl⟩;rw[<-hR];unfold zeC at hR;refine za (za ?_);refine zaa hX zak rfl ?_ ?_
 ·trivial
 (repeat(first|apply zae|apply zab|apply zac|apply zad));refine zah ?_;refine zaB 1 hX zak hru rfl trivial rfl rfl ⟨hok,(by decide:(0:Int)≤0),(by decide:(0:Int)≤3),hfew,xd _⟩ hI (f:=trX s l) (e:=prsT s (.bin 0) (t,b)) rfl (fun er h=>?_) (fun a h=>?_)
 ·rw[hR,zao h];exact rfl
 rw[h]at hR;obtain⟨u,st⟩:=a;have hc:Onw s (t,b) st:=zcm hg h;have hst:pOk (s,st.1,l++u.flat l.length,st.2,()):=⟨hc.1,hsl⟩;refine zY hX zak rfl trivial ?_;refine zam (σ':=⟨[(0,pSelf)],pE ty s st (l++u.flat l.length),2⟩) ⟨⟨rfl,trivial⟩,⟨rfl,rfl,trivial⟩,rfl,rfl⟩ ?_;(repeat(first|apply zae|apply zab|apply zac|apply zad));refine zah ?_;refine zaB 7 hX zak hru rfl trivial rfl rfl hst hI (e:=zaG st (zF st.1==0) 3) rfl (fun er h=>?_) (fun a h=>?_)
 ·rw[show R= .error er by rw[hR];show (zaG st _ 3 >>= _)=_;rw[h];rfl];exact rfl
 rw[show R= .ok (u,st) by rw[hR];show (zaG st _ 3 >>= _)=_;rw[h];rfl];refine yf ?_;(repeat(first|apply zae|apply zab|apply zal|apply zad|apply zac|refine zaa hX zak rfl trivial ?_|refine zaa hX zak rfl id ?_|refine zaa hX zak rfl ⟨id,id⟩ ?_));refine AWP.frz hX 2 ?_;exact zm ⟨.inr rfl,zas rfl trivial rfl rfl rfl⟩
def gDef (s:List UInt8) (st:GSt) (n:Int):Except (Int×Int) (List UInt8×Tr):=do
 zaG st (zF st.1==1) 3
 zaG st (decide ((zD st.1).length≤32)&&decide (n < 4096)) 2
 let st'<-za0 s (gAdv s st) wEq
 let p<-zeC s st'
 return (zD st.1,p.1)
def zmk (s:List UInt8) (st:GSt) (l:List Nd) (n:Int):Except zg (List UInt8×List Nd×Unit):=toX (fun r=>(r.1,l++r.2.flat l.length,())) (gDef s st n)
@[reducible] def cDef:HCtr:=hP [i64] de (fun x _=>[few x]) fun x _=>.ok (([],[],()),x)
def hDf:List (zO×HCtr):=[(81,zg9),(87,cAdv),(88,zgP)]
theorem znk:HsOk Tryz.prog gmH hDf:=.cons zfe <| .cons zgR <| .cons zgh .nil
theorem zgm:zgs Tryz.prog gmH 55 cDef (fun x xs=>zmk x.1 (stOf x) x.2.2.1 xs.1):=by
 refine zia (K:=gmK) zak Tryz.func55 rfl rfl zbr Tryz.call55 rfl (zb rfl) za5 ?_;rintro w0 ⟨G,O,K,fix,D,ρ,B⟩ ty hX hG hK hρ hD hinv x ⟨(k:Int),⟨⟩⟩ hp;obtain rfl:G=gmH:=hG;obtain rfl:K=1:=hK;obtain rfl:ρ=none:=hρ;obtain rfl:D=[]:=hD;have hI:=zaN (ty:=ty) hX rfl hinv (ty':=ty);obtain⟨s,t,l,b,⟨⟩⟩:=x;obtain⟨hok,hfew⟩:pOk (s,t,l,b,())∧few (s,t,l,b,()):=hp;have hg:GOk s (t,b):=hok.1;have hsl:s.length≤100000:=hok.2;change AWP _ _ _ _ _ ⟨[(0,pSelf),(1,⟨i64,k⟩)],pE ty s (t,b) l,2⟩ (lQ _ de (zmk s (t,b) l k));unfold zmk;obtain⟨R,hR⟩:∃ R,R=gDef s (t,b) k:=⟨_,rfl⟩;rw[<-hR];unfold gDef at hR;have hls:(zD t).length≤100000:=by
  have:=hg.1.2.2.2.2.1;have this:(zD t).length≤s.length:=this;omega
 refine za (za ?_);refine zaa hX zak rfl ?_ ?_
 ·trivial
 (repeat(first|apply zae|apply zab|apply zac|apply zad));refine zah ?_;refine zaB 7 hX zak znk rfl trivial rfl rfl hok hI (e:=zaG (t,b) (zF t==1) 3) rfl (fun er h=>?_) (fun a h=>?_)
 ·rw[hR,zao (by exact h)];exact rfl
 have hcls:zF t=1:=beq_iff_eq.1 (zbb h);rw[show (zaG (t,b) (zF (t,b).1==1) 3)= .ok a from h]at hR;have hR:R=(zaG (t,b) (decide ((zD t).length≤32)&&decide (k < 4096)) 2 >>= fun _=>za0 s (gAdv s (t,b)) wEq >>= fun st'=>zeC s st' >>= fun p=>.ok (zD t,p.1)):=hR;refine yf ?_;refine zam (σ':=⟨[(0,pSelf),(1,⟨i64,k⟩),(4,⟨.optr de,⟨2,de,.here⟩⟩)],[(0,some (pBox ty s (t,b))),(1,some (.buf 73 nd l)),(2,some (.box de ([],[],())))],3⟩) ⟨⟨rfl,rfl,rfl,trivial⟩,⟨rfl,rfl,rfl,trivial⟩,rfl,rfl⟩ ?_;(repeat(first|apply zae|apply zab|apply zac|apply zad));refine zah ?_;refine zaB 12 hX zak znk rfl ?_ rfl rfl hok hI (e:=zaG (t,b) (bif decide (((zD t).length:Int)≤((32:Nat):Int)) then decide (k < 4096) else false) 2) rfl (fun er h=>?_) (fun a h=>?_)
 ·repeat'(first|exact trivial|assumption|(refine⟨?_,?_⟩)|(intro _)|exact zb rfl|exact zn _|(simp_all [allP];done))
 ·rw[zct,dNat]at h;rw[hR,zao h];exact rfl
 rw[zct,dNat]at h;rw[h]at hR;have hR:R=(za0 s (gAdv s (t,b)) wEq >>= fun st'=>zeC s st' >>= fun p=>.ok (zD t,p.1)):=hR;refine yf ?_;refine zam (σ':=⟨[(0,pSelf),(4,⟨.optr de,⟨2,de,.here⟩⟩)],[(0,some (pBox ty s (t,b))),(1,some (.buf 73 nd l)),(2,some (.box de ([],[],())))],3⟩) ⟨⟨rfl,rfl,trivial⟩,⟨rfl,rfl,rfl,trivial⟩,rfl,rfl⟩ ?_;have hc1:=zb2 hg (by show zF t≠0;rw[hcls];decide);obtain⟨st1,hst1⟩:∃ st1,st1=gAdv s (t,b):=⟨_,rfl⟩;have hz1:st1.2=b:=by rw[hst1];rfl
 (repeat(first|apply zae|apply zab|apply zac|apply zad));refine zah ?_;refine yl 1 hX zak znk rfl trivial rfl rfl hok hI ?_;rw[<-hst1]at hR hc1;refine qC (σ':=⟨[(0,pSelf),(4,⟨.optr de,⟨2,de,.here⟩⟩),(28,⟨tk,t⟩)],[(0,some (pBox ty s st1)),(1,some (.buf 73 nd l)),(2,some (.box de ([],[],())))],3⟩) ⟨⟨rfl,rfl,rfl,trivial⟩,⟨by rw[hst1];rfl,rfl,rfl,trivial⟩,rfl,rfl⟩ ?_;refine zY hX zak rfl trivial ?_;refine zam (σ':=⟨[(0,pSelf),(4,⟨.optr de,⟨2,de,.here⟩⟩),(5,⟨.optr de,⟨3,de,.here⟩⟩)],[(0,some (pBox ty s st1)),(1,some (.buf 73 nd l)),(2,some (.box de ([],[],()))),(3,some (.box de (zD t,[],())))],4⟩) ⟨⟨rfl,rfl,rfl,trivial⟩,⟨rfl,rfl,rfl,rfl,trivial⟩,rfl,rfl⟩ ?_;have hok1:pOk (s,st1.1,l,st1.2,()):=⟨hc1.1,hsl⟩;(repeat(first|apply zae|apply zab|apply zac|apply zad));refine zah ?_;refine zaB 1 hX zak znk rfl trivial rfl rfl hok1 hI (e:=za0 s st1 wEq) rfl (fun er h=>?_) (fun st2 h2=>?_)
 ·rw[hR,zao (by exact h)];exact rfl
 rw[h2]at hR;have hR:R=(zeC s st2 >>= fun p=>.ok (zD t,p.1)):=hR;have hc2:=zbm hc1.1 h2;have hz2:=zec h2;have hok2:pOk (s,st2.1,l,st2.2,()):=⟨hc2.1,hsl⟩;have hfew2:few (s,st2.1,l,st2.2,()):=by
  show ((l.length:Nat):Int)≤st2.2;rw[hz2,hz1];exact hfew
 refine yf ?_;refine zam (σ':=⟨[(0,pSelf),(4,⟨.optr de,⟨2,de,.here⟩⟩),(5,⟨.optr de,⟨3,de,.here⟩⟩)],[(0,some (pBox ty s st2)),(1,some (.buf 73 nd l)),(2,some (.box de ([],[],()))),(3,some (.box de (zD t,[],())))],4⟩) ⟨⟨rfl,rfl,rfl,trivial⟩,⟨rfl,rfl,rfl,rfl,trivial⟩,rfl,rfl⟩ ?_;(repeat(first|apply zae|apply zab|apply zac|apply zad));refine zah ?_;refine yy 1 hX zak rfl trivial ?_;refine AL.give hX zpg rfl rfl rfl rfl rfl rfl rfl rfl rfl rfl rfl rfl trivial ⟨hok2,hfew2⟩ hI rfl rfl ?_;cases h3:zeC s st2 with
 |error er=>
  rw[h3]at hR;rw[show zeS s (stOf (s,st2.1,l,st2.2,())) l= .error (pvS er) by unfold zeS;rw[show stOf (s,st2.1,l,st2.2,())=st2 from rfl,h3];rfl];rw[show R= .error er from hR];exact rfl
 |ok p=>
  rw[h3]at hR;rw[show zeS s (stOf (s,st2.1,l,st2.2,())) l= .ok (l++p.1.flat l.length) by unfold zeS;rw[show stOf (s,st2.1,l,st2.2,())=st2 from rfl,h3];rfl];rw[show R= .ok (zD t,p.1) from hR];show AL _ _ _ _ _ _ _ _;refine zY hX zak rfl trivial ?_;(repeat(first|apply zae|apply zab|apply zal|apply zad|apply zac|refine zaa hX zak rfl trivial ?_|refine zaa hX zak rfl id ?_|refine zaa hX zak rfl ⟨id,id⟩ ?_));exact zm ⟨.inr rfl,zas rfl trivial rfl rfl rfl⟩
def zq2 (c:HCtr) (ty:zp) (e:Exit) (σ:AS):Except zg (c.res.T×c.self.T)->Prop
 | .ok (_,x')=>(e= .normal∨e= .ret)∧∃ vs,zl σ.E 0=some (.hbox ty vs)∧unH c 0 vs σ.E x'
 | .error pv=>e= .panic [{ v:=pv,recovered:=false }]
section
variable {P:zv} {K:Kn} {n:Nat}
theorem zg3 {G:zi->Prop} (hK:KnOk P G K) {f:zO} {fn:Func} {c:Code} {ctr:HCtr} (hf:P.funcs[f]? =some fn) (hb:fn.body=some c) (hn:fn.ntmps=n) (hlaw:ctr.law)
  (hen:∀ (us:Array zg) (w:zi),(callFunc f us).run P w= .ok (.enter f us) w) (hunit:ctr.res= .unit) (hrs:∀ tmps w,∃ v,(results fn tmps).run P w= .ok v w) (hd:zbg ctr.args=true) (hlen:ctr.args.length+1≤n) (hst:∀ w w' R ty,ctr.inv w R ty->G w->Kept R w w'->G w')
  (h:∀ (w0:zi) (X:Ownr) (ty:zp),X.Ok w0->X.G=G->X.K=1->X.ρ=none->X.D=[]->ctr.inv w0 X.R ty->∀ (x:ctr.self.T) (xs:Args ctr.args),allP (ctr.pre x xs)->
    AWP P w0 X n c (zlc ctr ty x xs) (fun e σ=>zq2 ctr ty e σ (ctr.out x xs))):zaH P G f ctr:=by
 refine⟨hen,hlaw,fun w O g cs ty x xs vs b hO hgb hg hx hbuf hrep hp hinv hG=>calls_of_wp hf hb ?_⟩;obtain⟨X,hXd,hX,hXR,hsim⟩:=zul (ctr:=ctr) (G:=G) hn hlaw hd hlen hst hO hgb hg hx hbuf hrep hinv hG;have hXX:X.X=O:=by rw[hXd]
 have hXG:X.G=G:=by rw[hXd]
 have hinv':ctr.inv w X.R ty:=by
  rw[show X.R=fun h=>h=g∨zai b=some h from funext fun h=>propext (hXR h)];exact hinv
 have hw:=h w X ty hX hXG (by rw[hXd]) (by rw[hXd]) (by rw[hXd]) hinv' x xs hp _ _ _ hsim;rw[show X.ρ=none by rw[hXd]]at hw;refine wp_mono (wpIn_wide.1 hw) fun e a' w' ⟨σ',β',h1,h2⟩=>?_;have hbk:Kept (fun h=>h=g∨zai b=some h) w w':=⟨h1.bel.os,h1.bel.tape,h1.bel.output,h1.bel.size,fun k hk hr=>h1.bel.block k hk fun hr'=>hr ((hXR k).1 hr')⟩;have hdf:a'.defers=[]:=by rw[h1.df,hXd]
 revert h2;cases ho:ctr.out x xs with
 |error pv=>
  rintro rfl;exact⟨hdf,hbk,rfl⟩
 |ok p=>
  obtain⟨y,x'⟩:=p;rintro ⟨h2,ws,h6,h7⟩;obtain⟨et',j,k1,k2,_,_⟩:=zfP hlaw h7;obtain⟨g',cs',hb1,_,hb3,hb4⟩:=h1.own 0 _ h6;have hb5:=(h1.fix.2 0 (by rw[hXd];exact xd 0)).1;rw[hb1]at hb5;have hgg:g'=g:=by
   have h:some g'=some (X.fix 0):=hb5;rw[hXd]at h;exact zx h
  subst hgg;have hj:=h1.own j _ k2;have hne:(0:Nat)≠j:=fun e=>by rw[<-e,h6]at k2;cases k2
  have hsub:∀ k,zb1 O g' (β' j) k->OSet X σ'.E β' k:=fun k hk=>by
   rcases hk with (hk|hk)|hk
   ·exact .inl (by rw[hXX];exact hk)
   ·exact .inr ⟨0,_,h6,by rw[hb1,hk];rfl⟩
   ·exact .inr ⟨j,_,k2,hk⟩
  have hkp:Keeps w' w' (OSet X σ'.E β') (zb1 O g' (β' j)):=⟨zj _,fun _ _ _=>rfl,fun k _ hk=>hsub k hk⟩;have hlvr:RepH w' (zb1 O g' (β' j)) (zdp g' (β' j)) (ctr.lv 0 1 x') cs':=RepH.toLv hlaw hkp h7 hb4 (fun j' et'' hj'=>by
   rw[k1]at hj';cases hj';rfl) (by rw[hb1];rfl)
  have hbr:OwnRep w' (zb1 O g' (β' j)) (zdp g' (β' j)) 0 (β' j) (.buf ctr.te ctr.et (ctr.sl x')):=hj.keep hkp fun _ _=>rfl;have hnew:∀ h,zai (β' j)=some h->zai b=some h∨w.heap.size≤h:=fun h hh=>by
   rcases h1.new j _ h k2 hh with h8|h8
   ·exact .inr h8
   ·rcases (hXR h).1 h8 with rfl|h8
    ·exact absurd hh (h1.inj 0 j _ _ h6 k2 hne h (by rw[hb1];rfl))
    ·exact .inl h8
  have hng:zai (β' j)≠some g':=h1.inj 0 j _ _ h6 k2 hne g' (by rw[hb1];rfl);obtain⟨v,h4⟩:=hrs a'.tmps w';rcases h2 with rfl|rfl
  ·exact⟨hdf,v,h4,hbk,v,cs',_,rfl,hb3,hlvr,hbr,hng,hnew,.inl hunit⟩
  ·exact⟨hdf,v,h4,hbk,v,cs',_,rfl,hb3,hlvr,hbr,hng,hnew,.inl hunit⟩
end
abbrev prT:Ty:=.pair (.slice nd) .unit
@[reducible] def bTy (T:Ty):Ty:=.pair .bool (.pair bs T)
def bInv (T:Ty) (tys:List zp) (w:zi) (R:Nat->Prop) (ty:zp):Prop:=ginv w R ty∧ty∈tys
theorem zd1 (T:Ty) (tys:List zp):∀ w w' R (ty:zp),bInv T tys w R ty->gmH w->Kept R w w'->gmH w':=fun _ _ _ ty h hg hk=>za5 _ _ _ ty h.1 hg hk
@[reducible] def hBl (T:Ty) (tys:List zp) (args:List Ty) (res:Ty) (pre:(bTy T).T->Args args->List Prop) (out:(bTy T).T->Args args->Except zg (res.T×(bTy T).T)):HCtr:=
 { self:=bTy T,k:=1,ad:=some 0,on:=fun x=>x.1,te:=5,et:=u8,sl:=fun x=>x.2.1,args:=args,inv:=bInv T tys,pre:=pre,res:=res,out:=out }
theorem zcL {T:Ty} (hT:T.leafD=true) {tys:List zp} {args:List Ty} {res:Ty} {pre:(bTy T).T->Args args->List Prop} {out:(bTy T).T->Args args->Except zg (res.T×(bTy T).T)}:(hBl T tys args res pre out).law:=
 ⟨hT,fun _=>rfl,fun a h=>by cases h;exact⟨Nat.zero_ne_one,fun _=>rfl⟩⟩
def tyOk (T:Ty):List zp->Prop:=fun tys=>∀ ty∈tys,(ty=107∨ty=105)∧∀ x:T.T,(za8 T x).length=if ty=105 then 0 else 1
@[reducible] def cCC (T:Ty) (tys:List zp):HCtr:=hBl T tys [] .unit (fun _ _=>[]) fun x _=>.ok ((),(true,x.2))
theorem zpR (T:Ty) (tys:List zp) {args:List Ty} {res:Ty} {pre:(bTy T).T->Args args->List Prop} {out:(bTy T).T->Args args->Except zg (res.T×(bTy T).T)} (i j:Nat) (x:(bTy T).T):(hBl T tys args res pre out).lv i j x=adV i x.1::⟨.obuf u8,j⟩::za8 T x.2.2:=rfl
theorem zmX {w:zi} {O:Nat->Prop} {β:Nat->zg}:∀ {vs:List V} {cs:List zg},RepH w O β vs cs->cs.length=vs.length
 | [],_,h=>by rw[show _=[] from h];rfl
 |v::r,_,⟨u,s,rfl,_,_,h⟩=>by rw[zr,zr,zmX h]
theorem zg6 (T:Ty) (hT:T.leafD=true) (tys:List zp) (ht:tyOk T tys):zaH Tryz.prog gmH 114 (cCC T tys):=by
 refine⟨Tryz.call114,zcL hT,fun w O g cs ty x xs vs b hO hgb hg hx hbuf hrep hpre hinv hG=>?_⟩;have hvs:vs=[]:=hrep;subst hvs;rw[zpR]at hx;obtain⟨u,r,rfl,hu1,hu,hr⟩:=hx;obtain⟨hty,hlen⟩:=ht ty hinv.2;have hrl:=zmX hr;rw[zr,hlen]at hrl;have hgl:=(zo.1 hg).1;cases hx1:x.1 with
 |true=>
  rw[hx1]at hu;obtain⟨g',e1,e2⟩:∃ g',zai (zdp g b 0)=some g'∧u= .pointer (some ⟨g',0,none⟩):=hu;have e1:some g=some g':=e1;cases e1;subst e2;have hc:w.cell? ⟨g,0,none⟩=some (.pointer (some ⟨g,0,none⟩)):=by simp[xA,hg]
  refine (Go.Proofs.Any.Builder_copyCheck_used Tryz.lays240 Tryz.Builder_X72_240 g w hc).mono ?_;rintro e w' ⟨rfl,rfl⟩;refine⟨Kept.refl _ _,_,_,b,rfl,hg,?_,hbuf,hgb,fun h hh=>.inl hh,.inl rfl⟩;rw[zpR];exact⟨_,_,rfl,rfl,⟨g,rfl,rfl⟩,hr⟩
 |false=>
  rw[hx1]at hu;have hu:u= .pointer none:=hu;subst hu;refine (ziT ty hty g w r (by rw[hrl];split<;>rfl) hg).mono ?_;rintro e w' ⟨rfl,rfl⟩;have hk:Kept (fun h=>h=g∨zai b=some h) w (w.setCell ⟨g,0,none⟩ (.pointer (some ⟨g,0,none⟩))):=⟨rfl,rfl,rfl,by simp[World.setCell],fun k _ hn=>xp w ⟨g,0,none⟩ _ k fun e=>hn (.inl e)⟩;have hkk:Keeps w (w.setCell ⟨g,0,none⟩ (.pointer (some ⟨g,0,none⟩))) (zb1 O g b) (zb1 O g b):=⟨hk.size,fun k _ hn=>xp w ⟨g,0,none⟩ _ k fun e=>hn (.inl (.inr e)),fun _ _ h=>h⟩;refine⟨hk,_,.pointer (some ⟨g,0,none⟩)::r,b,rfl,?_,?_,hbuf.keep hkk fun k hk=>xp w ⟨g,0,none⟩ _ k fun e=>hgb (by rw[hk,e]),hgb,fun h hh=>.inl hh,.inl rfl⟩
  ·show (w.heap.modify g _)[g]? =_;rw[yi (by rw[vL];exact hgl),vG,(zo.1 hg).2];simp
  ·rw[zpR];exact⟨_,_,rfl,rfl,⟨g,rfl,rfl⟩,hr.keep hkk⟩
def Ty.noB:Ty->Bool
 | .obuf _=>false
 | .cond t=>t.noB
 | .hcons a b=>a.noB&&b.noB
 |_=>true
theorem RepV.fixβ {w:zi} {O:Nat->Prop} {β β':Nat->zg} {K:Nat} (hβ:∀ i,i < K->zai (β' i)=zai (β i)):∀ (t:Ty) (x:t.T) (v:zg),t.noB=true->bnd t x≤K->RepV w O β t x v->RepV w O β' t x v:=by
 intro t
 induction t with
 |optr t _=>
  rintro x v _ hb ⟨g,h1,h2⟩;have hb:x.i+1≤K:=hb;exact⟨g,(hβ _ (by omega)).trans h1,h2⟩
 |obuf t _=>intro x v hn;cases hn
 |cond t ih=>intro x v hn hb h;exact⟨fun hc=>ih _ _ hn hb (h.1 hc),h.2⟩
 |hptr=>
  rintro x v _ hb ⟨g,h1,h2⟩;have hb:x.1+1≤K:=hb;exact⟨g,(hβ _ (by omega)).trans h1,h2⟩
 |hcons a b iha ihb=>
  rintro x v hn hb ⟨u,s,h1,h2,h3,h4⟩;have hb':max (bnd a x.1) (bnd b x.2)≤K:=hb;have hn:(a.noB&&b.noB)=true:=hn;rw[zd]at hn;exact⟨u,s,h1,h2,iha _ _ hn.1 (by omega) h3,ihb _ _ hn.2 (by omega) h4⟩
 |_=>intro x v _ hb h;exact h
def zk8 (K:Nat) (v:V):V:=bif v.t.noB&&qD v.bound K then v else ⟨.junk,()⟩
def zid (K:Nat):List (Nat×V)->List (Nat×V)
 | []=>[]
 |(s,v)::r=>(s,zk8 K v)::zid K r
theorem zic (K:Nat):∀ (F:Frame) (s:Nat),zq (zid K F) s=zk8 K (zq F s)
 | [],s=>rfl
 |(d,v)::r,s=>by
  show zq ((d,zk8 K v)::zid K r) s=_;rw[zau,zau];by_cases h:d=s
  ·rw[if_pos h,if_pos h]
  ·rw[if_neg h,if_neg h,zic K r s]
theorem zqd {w w':zi} {O O':Nat->Prop} {β β':Nat->zg} {K:Nat} (hk:Keeps w w' O O') (hβ:∀ i,i < K->zai (β' i)=zai (β i)) {v:V} {u:zg} (h:RepV w O β v.t v.x u):RepV w' O' β' (zk8 K v).t (zk8 K v).x u:=by
 unfold zk8;cases hc:v.t.noB&&qD v.bound K with
 |false=>trivial
 |true=>
  rw[zd]at hc;exact RepV.fixβ hβ _ _ _ hc.1 (zb hc.2) (RepV.keep hk _ _ _ h)
theorem zmh {K:Nat} (v:V):(zk8 K v).bound≤K:=by
 unfold zk8;cases hc:v.t.noB&&qD v.bound K with
 |false=>exact zk _
 |true=>
  rw[zd]at hc;exact zb hc.2
def zfr (E:Owns):Nat->Bool
 |0=>true
 |k+1=>(match zl E k with
  |some o=>!o.isBuf
  |none=>false)&&zfr E k
theorem zjo {E:Owns}:∀ {K:Nat},zfr E K=true->∀ i,i < K->∃ o,zl E i=some o∧o.isBuf=false
 |0,_,i,hi=>absurd hi (yg _)
 |k+1,h,i,hi=>by
  have h:((match zl E k with
   |some o=>!o.isBuf
   |none=>false)&&zfr E k)=true:=h
  rw[zd]at h;by_cases hk:i=k
  ·subst hk;have h1:=h.1;cases ho:zl E i with
   |none=>rw[ho]at h1;cases h1
   |some o=>rw[ho]at h1;exact⟨o,rfl,by simpa using h1⟩
  ·exact zjo h.2 i (by omega)
def zuB (β:Nat->zg) (i:Nat):Nat:=(zai (β i)).getD 0
def inX (X:Ownr) (E:Owns) (β:Nat->zg) (K:Nat) (ex:Nat->Prop):Ownr:={ G:=X.G,X:=fun g=>X.X g∨ex g,K:=K,fix:=zuB β,D:=[],ρ:=none,B:=fun g=>∃ i o,zl E i=some o∧zai (β i)=some g }
section
variable {w0 w w1:zi} {X:Ownr} {n m K:Nat} {F F':Frame} {E:Owns} {nx:Nat} {β:Nat->zg} {a a1:Act} {ex:Nat->Prop}
theorem ziy (h:Sim w0 X n ⟨F,E,nx⟩ β a w) (hb:zfr E K=true) {i:Nat} (hi:i < K):∃ o,zl E i=some o∧o.isBuf=false∧zai (β i)=some (zuB β i):=by
 obtain⟨o,ho,hob⟩:=zjo hb i hi;refine⟨o,ho,hob,?_⟩;have h1:=h.own i o ho;unfold zuB;cases o with
 |box t x=>obtain⟨g,_,_,e,_⟩:=h1;rw[e];rfl
 |buf te t xs=>cases hob
 |hbox ty vs=>obtain⟨g,_,e,_⟩:=h1;rw[e];rfl
theorem ziP (h:Sim w0 X n ⟨F,E,nx⟩ β a w) (hb:zfr E K=true) {g:Nat}:(inX X E β K ex).R g↔∃ i o,zl E i=some o∧zai (β i)=some g:=by
 constructor
 ·rintro (⟨i,hi,rfl⟩|h1)
  ·obtain⟨o,ho,_,hf⟩:=ziy h hb hi;exact⟨i,o,ho,hf⟩
  ·exact h1
 ·exact fun h1=>.inr h1
theorem zhl (h:Sim w0 X n ⟨F,E,nx⟩ β a w) {g:Nat} (hg:∃ i o,zl E i=some o∧zai (β i)=some g):g < w.heap.size:=by
 obtain⟨i,o,ho,hf⟩:=hg;exact ((h.own i o ho).block_lt hf).2
theorem zs0 (h:Sim w0 X n ⟨F,E,nx⟩ β a w) (hX:X.Ok w0) (hbl:y7 w.heap.size w w1) (hex:∀ g,ex g->w.heap.size≤g∧g < w1.heap.size) (hb:zfr E K=true):(inX X E β K ex).Ok w1:=by
 have hs0:=h.bel.size;have hs1:=hbl.size;refine⟨fun g hg=>?_,fun g hg=>?_,fun w' hk=>?_⟩
 ·rcases hg with hg|hg
  ·have:=hX.1 g hg;refine⟨by omega,fun hr=>?_⟩;obtain⟨i,o,ho,hf⟩:=(ziP h hb).1 hr;rcases h.new i o g ho hf with h1|h1
   ·omega
   ·exact this.2 h1
  ·have:=hex g hg;refine⟨this.2,fun hr=>?_⟩;have:=zhl h ((ziP h hb).1 hr);omega
 ·have:=zhl h ((ziP h hb).1 hg);omega
 ·refine hX.2.2 w' ⟨hk.os.trans (hbl.os.trans h.bel.os),hk.tape.trans (hbl.tape.trans h.bel.tape),hk.output.trans (hbl.output.trans h.bel.output),zV hs0 (zV hs1 hk.size),fun k hkl hr=>?_⟩;rw[hk.block k (by omega) fun hr'=>?_,hbl.block k (by omega),h.bel.block k hkl hr];obtain⟨i,o,ho,hf⟩:=(ziP h hb).1 hr';rcases h.new i o k ho hf with h1|h1
  ·omega
  ·exact hr h1
theorem Sim.goIn (h:Sim w0 X n ⟨F,E,nx⟩ β a w) (hbl:y7 w.heap.size w w1) (hex:∀ g,ex g->w.heap.size≤g∧g < w1.heap.size) (hb:zfr E K=true) (hKn:K≤nx) (hsz:a1.tmps.size=m) (hdf:a1.defers=[]) (hfr:∀ s,RepV w (OSet X E β) β (zq F' s).t (zq F' s).x (a1.tmps.getD s undef)) (hbd:bndB nx F'=true):
  Sim w1 (inX X E β K ex) m ⟨F',E,nx⟩ β a1 w1:=by
 have hk:Keeps w w1 (OSet X E β) (OSet (inX X E β K ex) E β):=.of_below hbl fun g hg hg'=>by
  rcases hg' with (h1|h1)|h1
  ·exact .inl h1
  ·have:=hex g h1;omega
  ·exact .inr h1
 refine⟨hsz,hdf,Kept.refl _ _,fun s=>RepV.keep hk _ _ _ (hfr s),fun i o ho=>(h.own i o ho).keep hk fun g hg=>hbl.block g ((h.own i o ho).block_lt hg).2,fun i o g ho hg=>.inr ((ziP h hb).2 ⟨i,o,ho,hg⟩),h.inj,h.lt,⟨hKn,fun i hi=>?_⟩,fun s=>zgp hbd s,h.hE⟩;obtain⟨o,ho,hob,hf⟩:=ziy h hb hi;exact⟨hf,fun o' ho'=>by
  have ho':zl E i=some o':=ho';rw[ho]at ho';cases ho';exact hob⟩
theorem Sim.goOut (h:Sim w0 X n ⟨F,E,nx⟩ β a w) (hX:X.Ok w0) (hbl:y7 w.heap.size w w1) (hex:∀ g,ex g->w.heap.size≤g∧g < w1.heap.size) (hb:zfr E K=true) (hK:X.K≤K) {σ:AS} {β':Nat->zg} {w' w'':zi} (h':Sim w1 (inX X E β K ex) m σ β' a1 w') (hk:Kept ex w' w''):
  Sim w0 X n ⟨zid K F,σ.E,σ.nx⟩ β' a w'':=by
 have hok:=zs0 h hX hbl hex hb;have hs0:=h.bel.size;have hs1:=hbl.size;have hs2:=h'.bel.size;have hs3:=hk.size;have hown:∀ i o g,zl σ.E i=some o->zai (β' i)=some g->w1.heap.size≤g∨∃ i o,zl E i=some o∧zai (β i)=some g:=fun i o g ho hg=>(h'.new i o g ho hg).imp id (ziP h hb).1;have hexo:∀ i o g,zl σ.E i=some o->zai (β' i)=some g->¬ ex g:=fun i o g ho hg he=>by
  have h1:=hex g he;rcases hown i o g ho hg with h2|h2
  ·omega
  ·have:=zhl h h2;omega
 have hβ:∀ i,i < K->zai (β' i)=zai (β i):=fun i hi=>by
  obtain⟨o,ho,_,hf⟩:=ziy h hb hi;exact ((h'.fix.2 i hi).1).trans hf.symm
 have hk1:Keeps w w'' (OSet X E β) (OSet X σ.E β'):=by
  refine⟨by omega,fun g hg hn=>?_,fun g hg hg'=>?_⟩
  ·rw[hk.block g (by omega) fun he=>?_,h'.bel.block g (by omega) fun hr=>?_,hbl.block g hg]
   ·exact hn (.inr ((ziP h hb).1 hr))
   ·have:=hex g he;omega
  ·rcases hg' with h1|⟨i,o,ho,hg'⟩
   ·exact .inl h1
   ·rcases hown i o g ho hg' with h2|h2
    ·omega
    ·exact .inr h2
 have hk2:Keeps w' w'' (OSet (inX X E β K ex) σ.E β') (OSet X σ.E β'):=by
  refine⟨hs3,fun g hg hn=>hk.block g hg fun he=>hn (.inl (.inr he)),fun g hg hg'=>?_⟩;rcases hg' with h1|h1
  ·exact .inl (.inl h1)
  ·exact .inr h1
 refine⟨h.sz,h.df,?_,fun s=>?_,fun i o ho=>(h'.own i o ho).keep hk2 fun g hg=>hk.block g ((h'.own i o ho).block_lt hg).2 (hexo i o g ho hg),fun i o g ho hg=>?_,h'.inj,h'.lt,⟨zV hK h'.fix.1,fun i hi=>?_⟩,fun s=>?_,h'.hE⟩
 ·refine⟨hk.os.trans (h'.bel.os.trans (hbl.os.trans h.bel.os)),hk.tape.trans (h'.bel.tape.trans (hbl.tape.trans h.bel.tape)),hk.output.trans (h'.bel.output.trans (hbl.output.trans h.bel.output)),by omega,fun k hkl hr=>?_⟩;rw[hk.block k (by omega) fun he=>?_,h'.bel.block k (by omega) fun hr'=>?_,hbl.block k (by omega),h.bel.block k hkl hr]
  ·obtain⟨i,o,ho,hf⟩:=(ziP h hb).1 hr';rcases h.new i o k ho hf with h1|h1
   ·omega
   ·exact hr h1
  ·have:=hex k he;omega
 ·show RepV w'' (OSet X σ.E β') β' (zq (zid K F) s).t (zq (zid K F) s).x _;rw[zic];exact zqd hk1 hβ (h.fr s)
 ·rcases hown i o g ho hg with h2|⟨i',o',ho',hg'⟩
  ·exact .inl (by omega)
  ·exact h.new i' o' g ho' hg'
 ·have hi:i < X.K:=hi;exact⟨(hβ i (by omega)).trans (h.fix.2 i hi).1,(h'.fix.2 i (by show i < K;omega)).2⟩
 ·show (zq (zid K F) s).bound≤σ.nx;rw[zic];exact zV (zmh _) h'.fix.1
def Ends (e:Exit) (en:Ending):Prop:=((e= .normal∨e= .ret)∧∃ v,en= .returned v)∨∃ ch,e= .panic ch∧en= .panicked ch
theorem Sim.inl {P:zv} (h:Sim w0 X n ⟨F,E,nx⟩ β a w) (hX:X.Ok w0) (hbl:y7 w.heap.size w w1) (hex:∀ g,ex g->w.heap.size≤g∧g < w1.heap.size) (hb:zfr E K=true) (hKn:K≤nx) (hK:X.K≤K) {f:zO} {fn:Func} {c:Code} (hf:P.funcs[f]? =some fn) (hbd:fn.body=some c) (hn:fn.ntmps=m) (hres:fn.results= #[])
  {caps:Array zg} (hcl:caps.size≤m) (hfr:∀ s,RepV w (OSet X E β) β (zq F' s).t (zq F' s).x ((caps++zA (m - caps.size) undef).getD s undef)) (hbF:bndB nx F'=true) {Q:Exit->AS->Prop} (hq:∀ e σ,Q e σ->e= .normal∨e= .ret∨∃ ch,e= .panic ch)
  (hw:∀ X':Ownr,X'.Ok w1->X'.G=X.G->X'.K=K->X'.ρ=none->X'.D=[]->(∀ g,X'.R g->w0.heap.size≤g∨X.R g)->AWP P w1 X' m c ⟨F',E,nx⟩ Q):
  Calls P f caps w1 fun en w'=>w1.heap.size≤w'.heap.size∧(∀ g,ex g->w'.heap[g]? =w1.heap[g]?)∧∃ e σ,Ends e en∧Q e σ∧∀ w'',Kept ex w' w''->∃ β',Sim w0 X n ⟨zid K F,σ.E,σ.nx⟩ β' a w'':=by
 refine calls_of_wp hf hbd ?_;have hok:=zs0 h hX hbl hex hb;have hsim:=h.goIn (a1:={ tmps:=caps++zA (fn.ntmps - caps.size) undef,defers:=[] }) (m:=m) hbl hex hb hKn (by simp[hn];omega) rfl (by rw[hn];exact hfr) hbF;have hR:∀ g,(inX X E β K ex).R g->w0.heap.size≤g∨X.R g:=fun g hg=>by
  obtain⟨i,o,ho,hf⟩:=(ziP h hb).1 hg;exact h.new i o g ho hf
 refine wp_mono (wpIn_wide.1 (hw _ hok rfl rfl rfl rfl hR β _ w1 hsim)) fun e a' w' ⟨σ,β',h',hQ⟩=>?_;have hkx:∀ g,ex g->w'.heap[g]? =w1.heap[g]? :=fun g he=>by
  have h1:=hex g he;refine h'.bel.block g h1.2 fun hr=>?_;have:=zhl h ((ziP h hb).1 hr);omega
 have hfin:∀ en,Ends e en->w1.heap.size≤w'.heap.size∧(∀ g,ex g->w'.heap[g]? =w1.heap[g]?)∧∃ e σ,Ends e en∧Q e σ∧∀ w'',Kept ex w' w''->∃ β',Sim w0 X n ⟨zid K F,σ.E,σ.nx⟩ β' a w'':=fun en he=>⟨h'.bel.size,hkx,e,σ,he,hQ,fun w'' hk=>⟨β',h.goOut hX hbl hex hb hK h' hk⟩⟩;have hdf:a'.defers=[]:=h'.df;rcases hq e σ hQ with rfl|rfl|⟨ch,rfl⟩
 ·exact⟨hdf,_,results_none hres _ _ _,hfin _ (.inl ⟨.inl rfl,_,rfl⟩)⟩
 ·exact⟨hdf,_,results_none hres _ _ _,hfin _ (.inl ⟨.inr rfl,_,rfl⟩)⟩
 ·exact⟨hdf,hfin _ (.inr ⟨ch,rfl,rfl⟩)⟩
end
section
variable {P:zv} {K:Kn} {w0:zi} {X:Ownr} {n:Nat} {σ:AS} {Q:Exit->AS->Prop} {ops:Array Oper}
theorem StepA.giveO (hX:X.Ok w0) {o:Oper} {f:zO} {c:HCtr} {out:c.self.T->Args c.args->Except zg c.res.T} (hc:zgs P X.G f c out) {args:Array zG} {ts:Array zp} {a0:zG} {zas:List zG} (ho:o.op= .call ⟨.value (.func f),args,ts⟩) (hargs:args.toList=a0::zas) (hgd:o.guard=none)
  {F:Frame} {E:Owns} {nx:Nat} (hσ:frzs σ zas=⟨F,E,nx⟩) {i:Nat} (hev:evO F a0=⟨.hptr,(i,(0:Nat))⟩) {ty:zp} {vs:List V} (hbox:zl E i=some (.hbox ty vs)) {et:Ty} {j:Nat} (hk:vs[c.k]? =some ⟨.obuf et,j⟩) {xsl:List c.et.T} (hbuf:zl E j=some (.buf c.te c.et xsl))
  {x:c.self.T} (hun:unD c.self ((c.back i vs).set c.k ⟨.slice c.et,xsl⟩)=some (x,[])) (hd:zbg c.args=true) (hfl:c.res.resOk=true)
  {q:List Prop} {xs:Args c.args} (hav:zeY E false (zas.map (evO F)) c.args=some (q,xs)) (hq:allP q) (hpre:allP (c.pre x xs)) (hinv:∀ w R,(∀ g,R g->w0.heap.size≤g∨X.R g)->X.G w->c.inv w R ty) {d:Nat} (hdst:o.dst=some d) (hdn:z6 d n=true)
  {N:AS->Prop} {y:c.res.T} (hout:out x xs= .ok y) (h:N ⟨(d,resV c.res y)::F,(i,none)::(j,none)::E,nx⟩):StepA P w0 X n ops o σ N Q:=
 StepA.give hX hc ho hargs hgd hσ hev hbox hk hbuf hun hd hfl hav hq hpre hinv hdst hdn (by rw[hout];exact h)
theorem StepA.giveE (hX:X.Ok w0) {o:Oper} {f:zO} {c:HCtr} {out:c.self.T->Args c.args->Except zg c.res.T} (hc:zgs P X.G f c out) {args:Array zG} {ts:Array zp} {a0:zG} {zas:List zG} (ho:o.op= .call ⟨.value (.func f),args,ts⟩) (hargs:args.toList=a0::zas) (hgd:o.guard=none)
  {F:Frame} {E:Owns} {nx:Nat} (hσ:frzs σ zas=⟨F,E,nx⟩) {i:Nat} (hev:evO F a0=⟨.hptr,(i,(0:Nat))⟩) {ty:zp} {vs:List V} (hbox:zl E i=some (.hbox ty vs)) {et:Ty} {j:Nat} (hk:vs[c.k]? =some ⟨.obuf et,j⟩) {xsl:List c.et.T} (hbuf:zl E j=some (.buf c.te c.et xsl))
  {x:c.self.T} (hun:unD c.self ((c.back i vs).set c.k ⟨.slice c.et,xsl⟩)=some (x,[])) (hd:zbg c.args=true) (hfl:c.res.resOk=true)
  {q:List Prop} {xs:Args c.args} (hav:zeY E false (zas.map (evO F)) c.args=some (q,xs)) (hq:allP q) (hpre:allP (c.pre x xs)) (hinv:∀ w R,(∀ g,R g->w0.heap.size≤g∨X.R g)->X.G w->c.inv w R ty) {d:Nat} (hdst:o.dst=some d) (hdn:z6 d n=true)
  {N:AS->Prop} {pv:zg} (hout:out x xs= .error pv) (h:Q (.panic [{ v:=pv,recovered:=false }]) ⟨F,(i,none)::(j,none)::E,nx⟩):StepA P w0 X n ops o σ N Q:=
 StepA.give hX hc ho hargs hgd hσ hev hbox hk hbuf hun hd hfl hav hq hpre hinv hdst hdn (by rw[hout];exact h)
theorem StepA.conv {o:Oper} {σ':AS} {N:AS->Prop} (hs:∀ β a w,Sim w0 X n σ β a w->∃ β',Sim w0 X n σ' β' a w) (h:StepA P w0 X n ops o σ' N Q):StepA P w0 X n ops o σ N Q:=
 fun β a w I R hsim hI hR=>by
  obtain⟨β',h'⟩:=hs β a w hsim;exact h β' a w I R h' hI hR
theorem Sim.nilLeaf (i k:Nat) (te:zp) (τ:Ty) {ty:zp} {vs:List V} (hi:zl σ.E i=some (.hbox ty vs)) (hk:vs[k]? =some ⟨.lit,.slice none 0 0⟩) (hτ:z6 0 τ.size=true):
  ∀ β a w,Sim w0 X n σ β a w->∃ β',Sim w0 X n { σ with E:=(i,some (.hbox ty (vs.set k ⟨.obuf τ,σ.nx⟩)))::(σ.nx,some (.buf te τ []))::σ.E,nx:=σ.nx+1 } β' a w:=by
 intro β a w hs;obtain⟨β',h1,h2,h3⟩:=hs.growNil te τ (by simpa using hτ);have hlt:=hs.lt i _ hi;have hi':zl ((σ.nx,some (.buf te τ []))::σ.E) i=some (.hbox ty vs):=by rw[zag,if_neg (by omega)];exact hi
 exact⟨β',h3.leaf hi' hk (v':=⟨.obuf τ,σ.nx⟩) (fun u hu=>by
  have hu:u= .slice none 0 0:=hu;show u=β' σ.nx;rw[hu,h2]) (zj _)⟩
theorem AL.nilLeaf (i k:Nat) (te:zp) (τ:Ty) {ty:zp} {vs:List V} {l:List Oper} (hi:zl σ.E i=some (.hbox ty vs)) (hk:vs[k]? =some ⟨.lit,.slice none 0 0⟩) (hτ:z6 0 τ.size=true)
  (h:AL P w0 X n ops l { σ with E:=(i,some (.hbox ty (vs.set k ⟨.obuf τ,σ.nx⟩)))::(σ.nx,some (.buf te τ []))::σ.E,nx:=σ.nx+1 } Q):AL P w0 X n ops l σ Q:=fun β a w hs=>by
 obtain⟨β',h'⟩:=Sim.nilLeaf i k te τ hi hk hτ β a w hs;exact h β' a w h'
def rnK (L:List (Nat×Nat)):Nat->Bool
 |0=>true
 |k+1=>Nat.beq (rnF L k) k&&rnK L k
theorem zpk {L:List (Nat×Nat)}:∀ {k:Nat},rnK L k=true->∀ i,i < k->rnF L i=i
 |0,_,i,hi=>absurd hi (yg _)
 |k+1,h,i,hi=>by
  have h:(Nat.beq (rnF L k) k&&rnK L k)=true:=h;rw[zd]at h;by_cases e:i=k
  ·subst e;exact Nat.eq_of_beq_eq_true h.1
  ·exact zpk h.2 i (by omega)
theorem Sim.renameK {w:zi} {β:Nat->zg} {a:Act} {L:List (Nat×Nat)} (h:Sim w0 X n σ β a w) (hL:rnOk L=true) {m:Nat} (hKL:rnK L X.K=true) (hKm:X.K≤m) (hF:bndB m (rnFr L σ.F)=true) (hE:bndE m (rnE L σ.E)=true):Sim w0 X n ⟨rnFr L σ.F,rnE L σ.E,m⟩ (fun j=>β (rnB L j)) a w:=by
 have hO:∀ g,OSet X (rnE L σ.E) (fun j=>β (rnB L j)) g->OSet X σ.E β g:=by
  rintro g (hg|⟨j,o',h1,h2⟩)
  ·exact .inl hg
  ·obtain⟨o,_,h4,_⟩:=zfv hL _ _ _ h1;exact .inr ⟨_,o,h4,h2⟩
 have hk:Keeps w w (OSet X σ.E β) (OSet X (rnE L σ.E) (fun j=>β (rnB L j))):=⟨zj _,fun _ _ _=>rfl,fun g _ hg=>hO g hg⟩;have hb:∀ i,i < X.K->rnB L i=i:=fun i hi=>by
  have:=znY L i hL;rwa[zpk hKL i hi]at this
 refine⟨h.sz,h.df,h.bel,fun s=>?_,fun j o' hj=>?_,fun j o' g hj hg=>?_,fun i j oi oj hi hj hij g=>?_,fun j o' hj=>znF hE hj,⟨hKm,fun i hi=>?_⟩,fun s=>zgp hF s,fun j o' hj=>(ziz hE hj).2⟩
 ·show RepV w _ _ (zq (rnFr L σ.F) s).t (zq (rnFr L σ.F) s).x _;rw[zrx];exact zpi hL _ (RepV.keep hk _ _ _ (h.fr s))
 ·obtain⟨o,_,h2,rfl⟩:=zfv hL _ _ _ hj;have h3:=(h.own _ o h2).keep hk fun _ _=>rfl;cases o with
  |hbox ty vs=>
   obtain⟨g,cs,e,k1,k2,k3⟩:=h3;exact⟨g,cs,e,k1,k2,zmU hL k3⟩
  |box t x=>exact h3
  |buf te t xs=>exact h3
 ·obtain⟨o,_,h2,_⟩:=zfv hL _ _ _ hj;exact h.new _ o g h2 hg
 ·obtain⟨p,e1,h1,_⟩:=zfv hL _ _ _ hi;obtain⟨q,e2,h2,_⟩:=zfv hL _ _ _ hj;exact h.inj _ _ p q h1 h2 (fun e=>hij (by rw[e1,e2,e])) g
 ·obtain⟨k1,k2⟩:=h.fix.2 i hi;refine⟨by show zai (β (rnB L i))=_;rw[hb i hi];exact k1,fun o' ho'=>?_⟩;obtain⟨o,_,h2,rfl⟩:=zfv hL _ _ _ ho';rw[hb i hi]at h2;rw[zpj];exact k2 o h2
end
section
open Go Go.RowKit Go.Lib
section
variable {P:zv} {w:zi} {O:Nat->Prop} {β:Nat->zg}
theorem ziH (s:List UInt8):strCells ⟨s.toArray⟩=byteCells s:=by
 simp[strCells,byteCells]
theorem zmE {t u e:zp} {i:TypeInfo} (ht:P.underlying t=some (.slice e)) (hu:P.underlying u=some .string) (hi:P.info? e=some i) (hz:i.zero=some (.int .u8 0)) (hsize:i.size=1) (hby:i.bytes=1) (ty:zp) {B:Nat} (hB:B≤w.heap.size) {bv:zg} {xs:List UInt8} (hown:OwnRep w O β B bv (.buf e (.int .u8) xs))
  (hOb:∀ g,zai bv=some g->O g) (s:List UInt8) (hlen:xs.length+s.length≤1000000000):
  ∃ v' w',(Builtin.append_ #[t,u] ty #[bv,.string ⟨s.toArray⟩]).run P w= .ok v' w'∧w.grownBy w' (zai bv)∧(∀ g,zai v'=some g->zai bv=some g∨w.heap.size≤g)∧
   ∀ O2,(∀ g,g < w.heap.size->O2 g->O g)->OwnRep w' O2 β B v' (.buf e (.int .u8) ((xs++s:List UInt8))):=by
 obtain⟨cs,h1,h2,h3⟩:=hown;have hss:(⟨s.toArray⟩:ByteArray).size=s.length:=by simp[ByteArray.size]
 have hob:=zeA h2;have h2:w.ownsRow B e 1 bv xs.length cs:=h2;obtain⟨v',w',k1,k2,k3,k4⟩:=run_append_own_string (P:=P) w B t u ty e i ht hu hi hz hsize hby bv xs.length cs h2 ⟨s.toArray⟩ (by rw[hss];simp only[Go.maxLen];omega) (by rw[hss];omega) hB;rw[hss]at k2;refine⟨v',w',k1,hob▸k3,?_,fun O2 hO2=>⟨cs++byteCells s,?_,by rw[show zf (xs++s:List UInt8)=xs.length+s.length from zh, <-ziH];exact k2,h3⟩⟩
 ·intro g hg;rcases h2.2 with ⟨rfl,hn⟩|⟨g',cap,cur,rfl,hbg,hg',hnc,hcm,hcs,htake⟩
  ·by_cases hm:(⟨s.toArray⟩:ByteArray).size=0
   ·have:=k4.2 ⟨rfl,hm⟩;rw[this]at hg;cases hg
   ·have hr2:=run_append_nil_string (P:=P) w t u ty e i _ ht hu hi hz ⟨s.toArray⟩ (by omega) (by omega) (by rw[hby];omega);rw[hr2]at k1;cases k1;cases hg;exact .inr (zj _)
  ·by_cases hroom:xs.length+(⟨s.toArray⟩:ByteArray).size≤cap
   ·have hcs':cur.size=cap:=by simpa using hcs
    have hr2:=run_append_room_string (P:=P) w t u ty e i ht hu hi hsize g' xs.length cap cur hg' ⟨s.toArray⟩ hroom (by omega);rw[hr2]at k1;cases k1;exact .inl hg
   ·have holds:∀ j u,cs[j]? =some u->w.cell? ((⟨g',0,none⟩:Addr).add j)=some u:=h2.cells (g:=g') rfl;have hr2:=run_append_grow_string (P:=P) w t u ty e i (.int .u8 0) ht hu hi hz ⟨g',0,none⟩ xs.length cap cs (by rw[h2.1,hsize]) holds ⟨s.toArray⟩ (by omega) (by omega) (by rw[hby];exact growslice_fits (by omega) (by omega));rw[hr2]at k1;cases k1;cases hg;exact .inr (zj _)
 ·have hk:Keeps w w' O O2:=⟨k3.size,fun g hgl hgo=>k3.block g hgl fun e=>hgo (hOb g (by rw[<-hob];exact e.symm)),hO2⟩;exact (h1.append (zgW s)).mono fun x _ c=>RepC.keep hk _ _ _
end
section
variable {P:zv} {K:Kn} {w0:zi} {X:Ownr} {n:Nat} {σ:AS} {Q:Exit->AS->Prop} {ops:Array Oper}
theorem AL.appStr {t u e:zp} {ti:TypeInfo} (ht:P.underlying t=some (.slice e)) (hu:P.underlying u=some .string) (hi:P.info? e=some ti) (hz:ti.zero=some (.int .u8 0)) (hsize:ti.size=1) (hby:ti.bytes=1) {o:Oper} {rest:List Oper} {sl x:zG} (ho:o.op= .call ⟨.builtin .append,#[sl,x],#[t,u]⟩) (hgd:o.guard=none) {d:Nat} (hd:o.dst=some d) (hdn:z6 d n=true)
  {F:Frame} {E:Owns} {nx i:Nat} (hs:evO F sl=⟨.obuf (.int .u8),i⟩) {xs:List UInt8} (hb:zl E i=some (.buf e (.int .u8) xs)) {s:List UInt8} (hx:evO F x=⟨.str,s⟩) (hlen:xs.length+s.length≤1000000000)
  (h:AL P w0 X n ops rest ⟨(d,⟨.obuf (.int .u8),i⟩)::Frame.kill i F,(i,some (.buf e (.int .u8) ((xs++s:List UInt8))))::Owns.kill i E,nx⟩ Q):AL P w0 X n ops (o::rest) ⟨F,E,nx⟩ Q:=by
 refine qF hgd (fun c e=>by rw[ho]at e;cases e) fun β a w hsim=>?_;have hlt:d < n:=by simpa using hdn
 have eS:a.eval sl=β i:=by
  have h1:=hsim.ops sl;rw[show evO (AS.mk F E nx).F sl=_ from hs]at h1;exact h1
 have eX:a.eval x= .string ⟨s.toArray⟩:=by
  have h1:=hsim.ops x;rw[show evO (AS.mk F E nx).F x=_ from hx]at h1;exact vA.1 h1.1
 obtain⟨v',w',k1,k2,k3,k4⟩:=zmE (P:=P) ht hu hi hz hsize hby o.type (zk _) (hsim.own i _ hb) (fun g hg=>.inr ⟨i,_,hb,hg⟩) s hlen;obtain⟨β',hs'⟩:=hsim.redo hb rfl k2 (bv:=v') k3 (t:=.int .u8) (o':=.buf e (.int .u8) ((xs++s:List UInt8))) (fun O _ hO=>k4 O hO) hlt;refine zbL (u:=v') (w':=w') ?_ (by rw[hd];exact⟨_,β',hs',h⟩);unfold execOp;simp only[ho,resolve,invoke,builtin,Sem.run_bind,Sem.run_pure,Result.andThen_ok,List.map_toArray,List.map_cons,List.map_nil,eS,eX,k1]
theorem StepA.step {o o':Oper} {N:AS->Prop} (heq:OpEq P o o') (hX:X.Ok w0) (hK:KnOk P X.G K) {r:List Prop×AS} (hs:zmF K n ops o' σ=some r) (hp:allP r.1) (h:N r.2) (hgd:o.guard=none:=by rfl):StepA P w0 X n ops o σ N Q:=by
 refine jY hgd fun β a w hsim=>heq.wp ?_;have h1:=zht (ops:=ops) (N:=fun a' w'=>∃ σ' β',Sim w0 X n σ' β' a' w'∧N σ') (R:=fun e a' w'=>e≠ .outgrown∧∃ σ' β',Sim w0 X n σ' β' a' w'∧Q e σ') hK hX hsim hs hp fun β' a' w' h2=>⟨r.2,β',h2,h⟩;have hg':o'.guard=none:=by rw[<-heq.guard];exact hgd
 simp only[Region.wanted,hg',if_true]at h1;rcases h1 with h1|⟨_,h1⟩
 ·exact h1
 ·obtain⟨_,_,h2,_⟩:=h1;exact absurd rfl h2
end
end
theorem u8isS:(Tryz.prog.info? 5).isSome=true:=by kernel_rfl
noncomputable def u8i:TypeInfo:=(Tryz.prog.info? 5).get u8isS
theorem zsK:Tryz.prog.info? 5=some u8i:=(Option.some_get _).symm
theorem zsI:u8i.zero=some (.int .u8 0):=by kernel_rfl
theorem zsJ:u8i.size=1:=by kernel_rfl
theorem zoI:u8i.bytes=1:=by kernel_rfl
theorem eqB1 (o:Oper) (x:zG) (h:o.op= .fieldAddr 105 x 1):OpEq Tryz.prog o { o with op:=.fieldAddr 133 x 1 }:=by
 refine⟨rfl,rfl,rfl,fun ev w=>?_⟩;unfold execOp;simp only[h];cases ev x<;>simp[go_sem]
@[reducible] def cWSP:HCtr:=hBl prT [107] [.str] .unit (fun x xs=>[zf x.2.1+zf xs.1≤1000000000]) fun x xs=>.ok ((),(true,((x.2.1++xs.1:List UInt8),x.2.2)))
def hCCP:List (zO×HCtr):=[(114,cCC prT [107])]
theorem tyOkP:tyOk prT [107]:=fun t h=>by
 rw[zw]at h;subst h;exact⟨by first|exact .inl rfl|exact .inr rfl,fun x=>rfl⟩
theorem zqo:HsOk Tryz.prog gmH hCCP:=.cons (zg6 prT rfl [107] tyOkP) .nil
theorem ziV:zaH Tryz.prog gmH 66 cWSP:=by
 refine zg3 (K:=gmK) zak Tryz.func66 rfl rfl (zcL rfl) Tryz.call66 rfl (fun tmps w=>⟨_,by simp[results,Tryz.f66,go_sem];rfl⟩) rfl (zb rfl) (zd1 prT [107]) ?_;rintro w0 ⟨G,O,K,fix,D,ρ,B⟩ ty hX hG hK hρ hD hinv ⟨b,bf,r,⟨⟩⟩ ⟨(u:List UInt8),⟨⟩⟩ hp;obtain rfl:G=gmH:=hG;obtain rfl:K=1:=hK;obtain rfl:ρ=none:=hρ;obtain rfl:D=[]:=hD;have hI:=fun w R hR hw=>(⟨zaN (ty:=ty) hX rfl hinv.1 (ty':=ty) w R hR hw,hinv.2⟩:bInv prT [107] w R ty);have hp:zf bf+u.length≤1000000000:=hp;have key:∀ b',AWP Tryz.prog w0 { G:=gmH,X:=O,K:=1,fix:=fix,D:=[],ρ:=none,B:=B } Tryz.f66.ntmps (Tryz.f66.body.getD .skip) ⟨[(0,⟨.hptr,((0:Nat),(0:Nat))⟩),(1,⟨.str,u⟩)],[(0,some (.hbox ty (adV 0 b'::⟨.obuf u8,(1:Nat)⟩:: [⟨.slice nd,r⟩]))),(1,some (.buf 5 u8 bf))],2⟩ (fun e σ=>zq2 cWSP ty e σ (.ok ((),(true,((bf++u:List UInt8),r,⟨⟩))))):=by
  intro b';apply zae;refine za (za ?_);refine zaa hX zak rfl ?_ ?_
  ·trivial
  refine yO (σ':=⟨[(0,⟨.hptr,((0:Nat),(0:Nat))⟩),(1,⟨.str,u⟩),(5,⟨.lit,.nilIface⟩)],[(0,some (.hbox ty (⟨.hptr,((0:Nat),(0:Nat))⟩::⟨.obuf u8,(1:Nat)⟩:: [⟨.slice nd,r⟩]))),(1,some (.buf 5 u8 bf))],2⟩) ?_ ?_
  ·cases b' with
   |true=>
    (repeat(first|apply zae|apply zab|apply zac|apply zad));refine zah ?_;refine yl 1 hX zak zqo rfl trivial rfl rfl trivial hI ?_;exact yf ⟨⟨rfl,rfl,rfl,trivial⟩,⟨rfl,rfl,trivial⟩,rfl,rfl⟩
   |false=>
    (repeat(first|apply zae|apply zab|apply zac|apply zad));refine zah ?_;refine yl 1 hX zak zqo rfl trivial rfl rfl trivial hI ?_;exact yf ⟨⟨rfl,rfl,rfl,trivial⟩,⟨rfl,rfl,trivial⟩,rfl,rfl⟩
  (repeat(first|apply zae|apply zab|apply zac|apply zad));refine zah ?_;refine yy 3 hX zak rfl trivial ?_;refine jz (eqB1 _ _ rfl) hX zak rfl trivial ?_;refine yy 2 hX zak rfl trivial ?_;refine AL.appStr Tryz.underlying103 Tryz.underlying9 zsK zsI zsJ zoI rfl rfl rfl rfl rfl rfl rfl hp ?_;refine yy 1 hX zak rfl trivial ?_;refine jz (eqB1 _ _ rfl) hX zak rfl trivial ?_;refine zY hX zak rfl trivial ?_;(repeat(first|apply zae|apply zab|apply zal|apply zad|apply zac|refine zaa hX zak rfl trivial ?_|refine zaa hX zak rfl id ?_|refine zaa hX zak rfl ⟨id,id⟩ ?_));exact zm ⟨.inr rfl,_,rfl,u8,1,_,rfl,rfl,rfl⟩
 exact key b
@[reducible] def cWSB:HCtr:=hBl .unit [105] [.str] .unit (fun x xs=>[zf x.2.1+zf xs.1≤1000000000]) fun x xs=>.ok ((),(true,((x.2.1++xs.1:List UInt8),x.2.2)))
def hCCB:List (zO×HCtr):=[(114,cCC .unit [105])]
theorem tyOkB:tyOk .unit [105]:=fun t h=>by
 rw[zw]at h;subst h;exact⟨by first|exact .inl rfl|exact .inr rfl,fun x=>rfl⟩
theorem zqp:HsOk Tryz.prog gmH hCCB:=.cons (zg6 .unit rfl [105] tyOkB) .nil
theorem znK:zaH Tryz.prog gmH 66 cWSB:=by
 refine zg3 (K:=gmK) zak Tryz.func66 rfl rfl (zcL rfl) Tryz.call66 rfl (fun tmps w=>⟨_,by simp[results,Tryz.f66,go_sem];rfl⟩) rfl (zb rfl) (zd1 .unit [105]) ?_;rintro w0 ⟨G,O,K,fix,D,ρ,B⟩ ty hX hG hK hρ hD hinv ⟨b,bf,⟨⟩⟩ ⟨(u:List UInt8),⟨⟩⟩ hp;obtain rfl:G=gmH:=hG;obtain rfl:K=1:=hK;obtain rfl:ρ=none:=hρ;obtain rfl:D=[]:=hD;have hI:=fun w R hR hw=>(⟨zaN (ty:=ty) hX rfl hinv.1 (ty':=ty) w R hR hw,hinv.2⟩:bInv .unit [105] w R ty);have hp:zf bf+u.length≤1000000000:=hp;have key:∀ b',AWP Tryz.prog w0 { G:=gmH,X:=O,K:=1,fix:=fix,D:=[],ρ:=none,B:=B } Tryz.f66.ntmps (Tryz.f66.body.getD .skip) ⟨[(0,⟨.hptr,((0:Nat),(0:Nat))⟩),(1,⟨.str,u⟩)],[(0,some (.hbox ty (adV 0 b'::⟨.obuf u8,(1:Nat)⟩:: []))),(1,some (.buf 5 u8 bf))],2⟩ (fun e σ=>zq2 cWSB ty e σ (.ok ((),(true,((bf++u:List UInt8),⟨⟩))))):=by
  intro b';apply zae;refine za (za ?_);refine zaa hX zak rfl ?_ ?_
  ·trivial
  refine yO (σ':=⟨[(0,⟨.hptr,((0:Nat),(0:Nat))⟩),(1,⟨.str,u⟩),(5,⟨.lit,.nilIface⟩)],[(0,some (.hbox ty (⟨.hptr,((0:Nat),(0:Nat))⟩::⟨.obuf u8,(1:Nat)⟩:: []))),(1,some (.buf 5 u8 bf))],2⟩) ?_ ?_
  ·cases b' with
   |true=>
    (repeat(first|apply zae|apply zab|apply zac|apply zad));refine zah ?_;refine yl 1 hX zak zqp rfl trivial rfl rfl trivial hI ?_;exact yf ⟨⟨rfl,rfl,rfl,trivial⟩,⟨rfl,rfl,trivial⟩,rfl,rfl⟩
   |false=>
    (repeat(first|apply zae|apply zab|apply zac|apply zad));refine zah ?_;refine yl 1 hX zak zqp rfl trivial rfl rfl trivial hI ?_;exact yf ⟨⟨rfl,rfl,rfl,trivial⟩,⟨rfl,rfl,trivial⟩,rfl,rfl⟩
  (repeat(first|apply zae|apply zab|apply zac|apply zad));refine zah ?_;refine yy 3 hX zak rfl trivial ?_;refine jz (eqB1 _ _ rfl) hX zak rfl trivial ?_;refine yy 2 hX zak rfl trivial ?_;refine AL.appStr Tryz.underlying103 Tryz.underlying9 zsK zsI zsJ zoI rfl rfl rfl rfl rfl rfl rfl hp ?_;refine yy 1 hX zak rfl trivial ?_;refine jz (eqB1 _ _ rfl) hX zak rfl trivial ?_;refine zY hX zak rfl trivial ?_;(repeat(first|apply zae|apply zab|apply zal|apply zad|apply zac|refine zaa hX zak rfl trivial ?_|refine zaa hX zak rfl id ?_|refine zaa hX zak rfl ⟨id,id⟩ ?_));exact zm ⟨.inr rfl,_,rfl,u8,1,_,rfl,rfl,rfl⟩
 exact key b
@[reducible] def zoz (T:Ty) (tys:List zp):HCtr:=hBl T tys [] i64 (fun _ _=>[]) fun x _=>.ok (((x.2.1.length:Nat):Int),x)
theorem zt7:zaH Tryz.prog gmH 61 (zoz prT [107]):=by
 refine zav (K:=gmK) zak Tryz.func61 rfl rfl (zcL rfl) Tryz.call61 rfl (zb rfl) (zd1 prT [107]) ?_;rintro w0 ⟨G,O,K,fix,D,ρ,B⟩ ty hX hG hK hρ hD hinv ⟨b,bf,r,⟨⟩⟩ ⟨⟩ hp;obtain rfl:G=gmH:=hG;obtain rfl:K=1:=hK;obtain rfl:ρ=none:=hρ;obtain rfl:D=[]:=hD;have key:∀ b',AWP Tryz.prog w0 { G:=gmH,X:=O,K:=1,fix:=fix,D:=[],ρ:=none,B:=B } Tryz.f61.ntmps (Tryz.f61.body.getD .skip) ⟨[(0,⟨.hptr,((0:Nat),(0:Nat))⟩)],[(0,some (.hbox ty (adV 0 b'::⟨.obuf u8,(1:Nat)⟩:: [⟨.slice nd,r⟩]))),(1,some (.buf 5 u8 bf))],2⟩ (fun e σ=>zq3 gmT Tryz.f61.results.toList (zoz prT [107]) ty e σ (.ok (((bf.length:Nat):Int),(b',bf,r,())))):=by
  intro b';apply zae;refine za (za ?_);refine zaa hX zak rfl ?_ ?_
  ·trivial
  (repeat(first|apply zae|apply zab|apply zac|apply zad));refine zah ?_;refine yy 2 hX zak rfl trivial ?_;refine jz (eqB1 _ _ rfl) hX zak rfl trivial ?_;refine zY hX zak rfl trivial ?_;cases b' with
  |true=>exact zm ⟨.inr rfl,⟨_,rfl,u8,1,_,rfl,rfl,rfl⟩,zas rfl trivial rfl rfl rfl⟩
  |false=>exact zm ⟨.inr rfl,⟨_,rfl,u8,1,_,rfl,rfl,rfl⟩,zas rfl trivial rfl rfl rfl⟩
 exact key b
theorem zt8:zaH Tryz.prog gmH 61 (zoz .unit [105]):=by
 refine zav (K:=gmK) zak Tryz.func61 rfl rfl (zcL rfl) Tryz.call61 rfl (zb rfl) (zd1 .unit [105]) ?_;rintro w0 ⟨G,O,K,fix,D,ρ,B⟩ ty hX hG hK hρ hD hinv ⟨b,bf,⟨⟩⟩ ⟨⟩ hp;obtain rfl:G=gmH:=hG;obtain rfl:K=1:=hK;obtain rfl:ρ=none:=hρ;obtain rfl:D=[]:=hD;have key:∀ b',AWP Tryz.prog w0 { G:=gmH,X:=O,K:=1,fix:=fix,D:=[],ρ:=none,B:=B } Tryz.f61.ntmps (Tryz.f61.body.getD .skip) ⟨[(0,⟨.hptr,((0:Nat),(0:Nat))⟩)],[(0,some (.hbox ty (adV 0 b'::⟨.obuf u8,(1:Nat)⟩:: []))),(1,some (.buf 5 u8 bf))],2⟩ (fun e σ=>zq3 gmT Tryz.f61.results.toList (zoz .unit [105]) ty e σ (.ok (((bf.length:Nat):Int),(b',bf,())))):=by
  intro b';apply zae;refine za (za ?_);refine zaa hX zak rfl ?_ ?_
  ·trivial
  (repeat(first|apply zae|apply zab|apply zac|apply zad));refine zah ?_;refine yy 2 hX zak rfl trivial ?_;refine jz (eqB1 _ _ rfl) hX zak rfl trivial ?_;refine zY hX zak rfl trivial ?_;cases b' with
  |true=>exact zm ⟨.inr rfl,⟨_,rfl,u8,1,_,rfl,rfl,rfl⟩,zas rfl trivial rfl rfl rfl⟩
  |false=>exact zm ⟨.inr rfl,⟨_,rfl,u8,1,_,rfl,rfl,rfl⟩,zas rfl trivial rfl rfl rfl⟩
 exact key b
section
open Go.Shelf
set_option linter.unusedSimpArgs false
set_option linter.unusedVariables false
set_option maxHeartbeats 1000000 in
theorem zoT {P:zv} {ρ:Ren} (L:Lays.n169 P ρ) (X:Builder.Extra P ρ) (b g cap:Nat) (cs cur:Array zg) (ty:zp) (l:List UInt8) (w:zi) (hbk:w.heap[b]? =some (.cells cs ty (0,0))) (h1:cs[1]? =some (.slice (some ⟨g,0,none⟩) l.length cap)) (hg:w.heap[g]? =some (.cells cur (ρ.t 5) (0,0))) (hnc:l.length≤cap) (hcm:cap≤maxLen) (hcs:cur.size=cap) (htake:cur.toList.take l.length=kH l) (h0:l≠ []):
  Calls P (ρ.f 169) #[.pointer (some ⟨b,0,none⟩)] w fun e w'=>e= .returned (.string ⟨l.toArray⟩)∧w'=w.drew.freeze ⟨g,0,none⟩ l.length:=by
 have hl0:l.length≠0:=by simpa using h0
 have c1:w.drew.cell? ⟨b,1,none⟩=some (.slice (some ⟨g,0,none⟩) l.length cap):=by
  have:w.drew.heap[b]? =some (.cells cs ty (0,0)):=hbk;rw[Lib.cell_of_heap this];exact h1
 have hSD:(Builtin.unsafeSliceData_ #[(ρ.t 37)] (ρ.t 127) #[.slice (some ⟨g,0,none⟩) l.length cap]).run P w.drew= .ok (.pointer (some ⟨g,0,none⟩)) w.drew:=
  Lib.run_unsafeSliceData_row _ _ _ _ _ _ (by omega)
 have hUS:(Builtin.unsafeString_ #[(ρ.t 127),(ρ.t 3)] (ρ.t 9) #[.pointer (some ⟨g,0,none⟩),.int .i64 l.length]).run P w.drew= .ok (.string ⟨l.toArray⟩) (w.drew.freeze ⟨g,0,none⟩ l.length):=by
  refine Lib.run_unsafeString_row w.drew (ρ.t 127) (ρ.t 3) (ρ.t 9) (ρ.t 5) L.t127 X.cellsByte g cur.size (by have hg':w.drew.heap[g]? =some (.cells cur (ρ.t 5) (0,0)):=hg;simp[World.shape?,hg']) l h0 (by omega) (by unfold maxLen at hcm;omega) ?_;intro j x hx;have hg':w.drew.heap[g]? =some (.cells cur (ρ.t 5) (0,0)):=hg;rw[show ((⟨g,0,none⟩:Addr).add j)=⟨g,j,none⟩ from by simp[Addr.add_lit],Lib.cell_of_heap hg'];have h2:(cur.toList.take l.length)[j]? =some (.int .u8 x.toNat):=by rw[htake];simp[kH,hx]
  rw[List.getElem?_take]at h2;split at h2
  ·simpa using h2
  ·cases h2
 have mixed:=L.mixed;have t72:=L.t72;have a72:=L.a72;have z72:=L.z72;have v72:=L.v72;have u72:=run_underlying L.t72;have t70:=L.t70;have a70:=L.a70;have z70:=L.z70;have v70:=L.v70;have u70:=run_underlying L.t70;have t37:=L.t37;have a37:=L.a37;have z37:=L.z37;have v37:=L.v37;have u37:=run_underlying L.t37;have t127:=L.t127;have a127:=L.a127;have z127:=L.z127;have v127:=L.v127;have u127:=run_underlying L.t127;have t3:=L.t3;have a3:=L.a3;have z3:=L.z3;have v3:=L.v3;have u3:=run_underlying L.t3;have t9:=L.t9;have a9:=L.a9;have z9:=L.z9;have v9:=L.v9;have u9:=run_underlying L.t9;have t5:=X.t5;have a5:=X.a5;have z5:=X.z5;have v5:=X.v5;have u5:=run_underlying X.t5
 go_enter L.f169,Body.n169_ntmps ρ
 go_wp2
 go_region_o
 all_goals (go_wp2;go_ret;exact⟨rfl,rfl⟩)
end
theorem zlk (w:zi) (g n k:Nat) (hk:k≠g):(w.freeze ⟨g,0,none⟩ n).heap[k]? =w.heap[k]? :=by
 unfold qN;split
 ·rfl
 ·simp only[Array.getElem?_modify];rw[if_neg (fun e=>hk e.symm)]
theorem zml {R:Nat->Prop} (w:zi) (g n:Nat) (hR:R g):Kept R w (w.drew.freeze ⟨g,0,none⟩ n):=by
 refine⟨?_,?_,?_,?_,fun k _ hn=>zlk w.drew g n k fun e=>hn (e▸hR)⟩
 ·unfold qN;split<;>rfl
 ·unfold qN;split<;>rfl
 ·unfold qN;split<;>rfl
 ·unfold qN;split
  ·exact zj _
  ·show w.heap.size≤(Array.modify _ _ _).size;rw[vL];exact zj _
@[reducible] def cStrB (T:Ty) (tys:List zp):HCtr:=hBl T tys [] .str (fun x _=>[x.2.1≠ []]) fun x _=>.ok (x.2.1,x)
theorem zkw (T:Ty) (hT:T.leafD=true) (tys:List zp):zgs Tryz.prog gmH 62 (cStrB T tys) (fun x _=>.ok x.2.1):=by
 refine⟨Tryz.call62,zcL hT,fun w O g cs ty x xs vs b hO hgb hg hx hbuf hrep hpre hinv hG=>?_⟩;have hvs:vs=[]:=hrep;subst hvs;have h0:x.2.1≠ []:=hpre;rw[zpR]at hx;obtain⟨u,r,rfl,hu1,hu,hr⟩:=hx;obtain⟨v,r,rfl,hv1,hv,hr⟩:=hr;have hv:v=b:=hv;subst hv;obtain⟨cells,k1,k2,k3⟩:=hbuf;have k1:=zgD k1;subst k1;have hl0:x.2.1.length≠0:=by simpa using h0
 rcases k2.2 with ⟨_,hz⟩|⟨g',cap,cur,rfl,_,hg',hnc,hcm,hcs,htake⟩
 ·exact absurd hz hl0
 rw[show Ty.size u8=1 from rfl,Nat.mul_one]at hcs htake;refine (zoT Tryz.lays169 Tryz.Builder_Extra_169 g g' cap _ cur ty x.2.1 w hg rfl hg' hnc hcm hcs (by simpa [kH] using htake) h0).mono ?_;rintro e w' ⟨rfl,rfl⟩;have hnc':zf x.2.1≤cap:=hnc;exact⟨zml w g' _ (.inr rfl),_,rfl,.inr fun β=>⟨rfl,by unfold maxLen at *;omega⟩⟩
section
attribute [local go_sem] Oper.semAt_some
theorem zpc (e:Int×Int) (w:zi):(Instr.typeAssert (.iface 133 (.agg #[.int .i64 e.1,.int .i64 e.2])) 20 133 true).run Tryz.prog w= .ok (.tuple #[.agg #[.int .i64 e.1,.int .i64 e.2],.bool true]) w:=by kernel_rfl
set_option maxHeartbeats 2000000 in
theorem zpe (g2 g3:Nat) (w:zi):CallsDIn yz 0 Tryz.prog 78 #[.pointer (some ⟨g2,0,none⟩),.pointer (some ⟨g3,0,none⟩)] .returning w fun e u' w'=>
  (∃ v,e= .returned v)∧u'= .returning∧y7 w.heap.size w w':=by
 refine callsDIn_of_wpSIn Tryz.func78 rfl trivial fun c₀ cs hu=>?_;apply wpSIn_seq;apply wpSIn_region;simp[wpOpsSIn,go_sem,recoverD,hu,Tryz.ntmps78,jZ];apply wpSIn_seq;apply wpSIn_region;simp[wpOpsSIn,go_sem,jZ];refine wpSIn_cond (t:=false) (by simp[Act.eval]) ?_;simp only[yv,if_false];refine wpSIn_of_wpIn rfl (wpIn_skip ?_);cases c₀
 simp_all [bodyPostS,results,Tryz.f78]
 exact zU _ _
def fixR (g2 g3 g5:Nat) (i:Nat):Nat:=if i=0 then g2 else if i=1 then g3 else g5
def sR1 (x2 x3:Int) (e:Int×Int):AS:=⟨[(0,⟨.optr i64,⟨0,i64,.here⟩⟩),(1,⟨.optr i64,⟨1,i64,.here⟩⟩),(3,⟨.optr sto,⟨2,sto,.here⟩⟩)],[(0,some (.box i64 x2)),(1,some (.box i64 x3)),(2,some (.box sto (e.1,e.2,())))],3⟩
def sR2 (e:Int×Int):AS:=⟨[],[(0,some (.box i64 e.1)),(1,some (.box i64 e.2))],3⟩
noncomputable def zrv:Code:=match Tryz.f78.body.getD .skip with
 | .seq _ (.seq _ (.cond _ c _))=>(match c with
  | .seq _ (.seq _ t)=>t
  |c=>c)
 |c=>c
theorem zru {w1:zi} {X:Ownr} (hX:X.Ok w1) (hG:∀ w w',X.G w->y7 w.heap.size w w'->X.G w') (hK:X.K=3) (x2 x3:Int) (e:Int×Int):AWP Tryz.prog w1 X 20 zrv (sR1 x2 x3 e) (fun en σ=>en= .normal∧Fit σ (sR2 e)):=by
 have kok:KnOk Tryz.prog X.G gmK:=⟨zih,zig,CsOk.nil,hG,RsOk.nil⟩;unfold sR1 sR2;refine ju dM 6 rfl (by kernel_rfl) ?_
 repeat'(first
  |exact AllN.nil
  |refine AllN.cons ⟨_,rfl,?_⟩ ?_
  |refine yZ hX kok rfl trivial ?_
  |(refine OrdA.last ?_;exact⟨rfl,trivial,⟨rfl,rfl,trivial⟩,rfl,rfl⟩))
set_option maxHeartbeats 600000 in
theorem zrt (g2 g3:Nat) (e:Int×Int) (x2 x3:Int) (t2 t3:zp) (w:zi) (h2:w.heap[g2]? =some (.cells #[.int .i64 x2] t2 (0,0))) (h3:w.heap[g3]? =some (.cells #[.int .i64 x3] t3 (0,0))) (hne:g2≠g3):
  CallsDIn yz 0 Tryz.prog 78 #[.pointer (some ⟨g2,0,none⟩),.pointer (some ⟨g3,0,none⟩)] (.panicking [{ v:=pvS e,recovered:=false }]) w fun en u' w'=>
  (∃ v,en= .returned v)∧u'= .panicking [{ v:=pvS e,recovered:=true }]∧Kept (fun g=>g=g2∨g=g3) w w'∧∃ t2 t3,w'.heap[g2]? =some (.cells #[.int .i64 e.1] t2 (0,0))∧w'.heap[g3]? =some (.cells #[.int .i64 e.2] t3 (0,0)):=by
 refine callsDIn_of_wpSIn Tryz.func78 rfl trivial fun c₀ cs hu=>?_;apply wpSIn_seq;apply wpSIn_region;simp[wpOpsSIn,go_sem,recoverD,hu,Tryz.ntmps78,jZ,pvS];apply wpSIn_seq;apply wpSIn_region;simp[wpOpsSIn,go_sem,jZ];refine wpSIn_cond (t:=true) (by simp[Act.eval]) ?_;simp only[if_true];apply wpSIn_seq;apply wpSIn_region;simp[wpOpsSIn,go_sem,jZ,zpc];apply wpSIn_seq;apply wpSIn_seq;apply wpSIn_region;simp[wpOpsSIn,go_sem,jZ];refine wpSIn_cond (t:=false) (by simp[Act.eval]) ?_;simp only[yv,if_false];refine wpSIn_of_wpIn rfl (wpIn_skip ?_);simp only[jZ];refine wpSIn_of_wpIn rfl ?_;have hl2:=(zo.1 h2).1;have hl3:=(zo.1 h3).1;have hbA:y7 w.heap.size w (w.alloc (.cells #[.int .i64 e.1,.int .i64 e.2] 133)):=zbf _ _;have h5:(w.alloc (.cells #[.int .i64 e.1,.int .i64 e.2] 133)).heap[w.heap.size]? =some (.cells #[.int .i64 e.1,.int .i64 e.2] 133 (0,0)):=xo _ _
 replace h2:=(hbA.block _ hl2).trans h2
 replace h3:=(hbA.block _ hl3).trans h3
 generalize w.alloc (.cells #[.int .i64 e.1,.int .i64 e.2] 133)=w1 at *
 let X:Ownr:={ G:=fun _=>True,X:=fun _=>False,K:=3,fix:=fixR g2 g3 w.heap.size }
 have hR:∀ g,X.R g->g=g2∨g=g3∨g=w.heap.size:=by
  rintro g (⟨i,hi,rfl⟩|h)
  rotate_left
  ·exact False.elim h
  have hi:i < 3:=hi;rcases (show i=0∨i=1∨i=2 by omega) with rfl|rfl|rfl
  ·exact .inl rfl
  ·exact .inr (.inl rfl)
  ·exact .inr (.inr rfl)
 have hX:X.Ok w1:=by
  refine⟨fun g h=>h.elim,fun g h=>?_,fun _ _=>trivial⟩;have:=(zo.1 h5).1;have:=hbA.size;rcases hR g h with rfl|rfl|rfl<;>omega
 let β:Nat->zg:=fun i=>.pointer (some ⟨X.fix i,0,none⟩)
 have hsim:∀ a:Act,a.tmps.size=20->a.defers=[]->a.tmps.getD 0 undef= .pointer (some ⟨g2,0,none⟩)->a.tmps.getD 1 undef= .pointer (some ⟨g3,0,none⟩)->a.tmps.getD 3 undef= .pointer (some ⟨w.heap.size,0,none⟩)->
   Sim w1 X 20 (sR1 x2 x3 e) β a w1:=fun a hsz hdf e0 e1 e3=>by
  refine Sim.boxes (X:=X) hsz hdf (fun i _=>rfl) ?_ ?_ ?_ rfl
  ·intro i j hi hj hij;have hi:i < 3:=hi;have hj:j < 3:=hj;have hij:fixR g2 g3 w.heap.size i=fixR g2 g3 w.heap.size j:=hij;unfold fixR at hij;rcases (show i=0∨i=1∨i=2 by omega) with rfl|rfl|rfl<;>rcases (show j=0∨j=1∨j=2 by omega) with rfl|rfl|rfl<;>first|rfl|(exfalso;simp at hij;omega)
  ·intro i o h;rw[zag]at h;split at h
   ·rename_i hi;subst hi;cases h;exact⟨by show 0 < 3;omega,rfl,⟨g2,[_],_,rfl,zk _,h2,rfl⟩,fun vs e=>by cases e⟩
   rw[zag]at h;split at h
   ·rename_i _ hi;subst hi;cases h;exact⟨by show 1 < 3;omega,rfl,⟨g3,[_],_,rfl,zk _,h3,rfl⟩,fun vs e=>by cases e⟩
   rw[zag]at h;split at h
   ·rename_i _ _ hi;subst hi;cases h;exact⟨by show 2 < 3;omega,rfl,⟨w.heap.size,[.int .i64 e.1,.int .i64 e.2],_,rfl,zk _,h5,[.int .i64 e.1],[.int .i64 e.2],rfl,rfl,[.int .i64 e.2],[],rfl,rfl,rfl⟩,fun vs e=>by cases e⟩
   ·cases h
  ·refine zbJ ⟨g2,rfl,e0⟩ (zbJ ⟨g3,rfl,e1⟩ (zbJ ⟨w.heap.size,rfl,e3⟩ zgB))
 refine Go.wpIn_mono (zru hX (fun _ _ _ _=>trivial) rfl x2 x3 e β _ w1 (hsim _ ?_ ?_ ?_ ?_ ?_)) ?_
 ·simp
 ·rfl
 ·simp[zL,qG]
 ·simp[zL,qG]
 ·simp[zL,qG]
 ·rintro en a' w' ⟨σ',β',h1,rfl,hf⟩;have h6:=h1.fit hf (zj _);have hblk:∀ i,i < 3->zai (β' i)=some (fixR g2 g3 w.heap.size i):=fun i hi=>(h6.fix.2 i hi).1;obtain⟨k3,c3,y3,q4,_,q5,q6⟩:=h6.own 0 _ rfl;obtain⟨k4,c4,y4,q7,_,q8,q9⟩:=h6.own 1 _ rfl;have e0:=hblk 0 (by omega);have e1:=hblk 1 (by omega);rw[q4]at e0;rw[q7]at e1;have f0:k3=g2:=by simpa [zai,fixR] using e0
  have f1:k4=g3:=by simpa [zai,fixR] using e1
  subst f0;subst f1;have q6:c3=[.int .i64 e.1]:=q6;have q9:c4=[.int .i64 e.2]:=q9;subst q6;subst q9;refine⟨h6.df,_,rfl,_,results_none rfl _ _ _,⟨_,rfl⟩,rfl,⟨h6.bel.os.trans hbA.os,h6.bel.tape.trans hbA.tape,h6.bel.output.trans hbA.output,zV hbA.size h6.bel.size,fun k hk hn=>(h6.bel.block k (Nat.lt_of_lt_of_le hk hbA.size) fun hr=>?_).trans (hbA.block k hk)⟩,⟨_,q5⟩,⟨_,q8⟩⟩;rcases hR k hr with h|h|h
  ·exact hn (.inl h)
  ·exact hn (.inr h)
  ·omega
theorem za6 {W:zi} {B:Nat} {v:zg} {t:zp} (h:W.heap[B]? =some (.cells #[v] t (0,0))):W.cell? ⟨B,0,none⟩=some v∧W.frozen? ⟨B,0,none⟩=false:=by
 constructor<;>simp[xA,World.frozen?,h]
theorem zfs {W:zi} {B:Nat} {v:zg} {t:zp} (v':zg) (h:W.heap[B]? =some (.cells #[v] t (0,0))):(W.setCell ⟨B,0,none⟩ v').heap[B]? =some (.cells #[v'] t (0,0)):=by
 obtain⟨hlt,hk⟩:=zo.1 h;show (W.heap.modify B _)[B]? =_;rw[yi (by rw[vL];exact hlt),vG,hk];rfl
theorem zdU {R:Nat->Prop} (W:zi) (g:Nat) (v:zg) (hR:R g):Kept R W (W.setCell ⟨g,0,none⟩ v):=
 ⟨rfl,rfl,rfl,by simp[World.setCell],fun k _ hn=>xp W ⟨g,0,none⟩ v k fun e=>hn (by rw[e];exact hR)⟩
theorem mkF (fn:Fn) (first cap:Array zg) (w:zi):(Instr.makeFunc fn first cap).run Tryz.prog w= .ok (.func fn first cap) w:=rfl
theorem za1 {w:zi} (o:Obj) {k:Nat} {x:Obj} (h:w.heap[k]? =some x):(w.alloc o).heap[k]? =some x:=((zbf w o).block _ (zo.1 h).1).trans h
theorem zb3 {w:zi} (o:Obj) {k:Nat} (h:w.heap.size=k):(w.alloc o).heap[k]? =some o:=by subst h;exact xo _ _
def rdfn (N:Nat):Deferred:={ target:=.fn (.func 78) #[.pointer (some ⟨N,0,none⟩),.pointer (some ⟨N+1,0,none⟩)],args:=#[] }
theorem zhJ (N:Nat) (w:zi):(invoke (rdfn N).target (rdfn N).args).run Tryz.prog w= .ok (.enter 78 #[.pointer (some ⟨N,0,none⟩),.pointer (some ⟨N+1,0,none⟩)]) w:=by
 have eg:=Tryz.call78;simp[invoke,rdfn,go_sem,eg]
def runW (w:zi):zi:=(w.alloc (.cells #[.int .i64 0] 3)).alloc (.cells #[.int .i64 0] 25)
theorem zpd (w:zi):(runW w).heap.size=w.heap.size+2:=by simp[runW]
theorem znW (w:zi):y7 w.heap.size w (runW w):=((zU _ w).alloc (zj _) _).alloc (by simp) _
def runE:Except (Int×Int) Unit->Int×Int
 | .ok _=>(0,0)
 | .error e=>e
theorem zpa {tmps:Array zg} {g2 g3:Nat} {W:zi} {x y:Int} {t2 t3:zp} (h2:tmps.getD 2 undef= .pointer (some ⟨g2,0,none⟩)) (h3:tmps.getD 3 undef= .pointer (some ⟨g3,0,none⟩))
  (c2:W.heap[g2]? =some (.cells #[.int .i64 x] t2 (0,0))) (c3:W.heap[g3]? =some (.cells #[.int .i64 y] t3 (0,0))):
  (results Tryz.f43 tmps).run Tryz.prog W= .ok (.tuple #[.int .i64 x,.int .i64 y]) W:=by
 have d2:=(za6 c2).1;have d3:=(za6 c3).1;rw[zL]at h2 h3;simp[results,Tryz.f43,go_sem,h2,h3,d2,d3]
section
variable {W:zi} {tmps:Array zg} {N:Nat} {x y:Int} {t2 t3:zp} {R:Ending->zi->Prop}
theorem zry (h2:tmps.getD 2 undef= .pointer (some ⟨N,0,none⟩)) (h3:tmps.getD 3 undef= .pointer (some ⟨N+1,0,none⟩)) (c2:W.heap[N]? =some (.cells #[.int .i64 x] t2 (0,0))) (c3:W.heap[N+1]? =some (.cells #[.int .i64 y] t3 (0,0)))
  (hr:∀ w3,Kept (fun g=>g=N∨g=N+1) W w3->R (.returned (.tuple #[.int .i64 x,.int .i64 y])) w3):LeavesInM yz 1 Tryz.prog Tryz.f43 tmps R [rdfn N] .returning W:=by
 refine⟨(by intro h;cases h),.inr ⟨fun _=>zj _,_,_,_,_,rfl,zhJ N _,fun _ _=>trivial,?_⟩⟩;refine (zpe N (N+1) _).mono ?_;rintro e u' w3 ⟨⟨v,rfl⟩,rfl,hb3⟩;have hl:∀ g (o:Obj),W.heap[g]? =some o->w3.heap[g]? =some o:=fun g o hg=>(hb3.block g (zo.1 hg).1).trans hg;exact⟨_,zpa h2 h3 (hl _ _ c2) (hl _ _ c3),hr _ ⟨hb3.os,hb3.tape,hb3.output,hb3.size,fun k hk _=>hb3.block k hk⟩⟩
theorem zrz {er:Int×Int} (h2:tmps.getD 2 undef= .pointer (some ⟨N,0,none⟩)) (h3:tmps.getD 3 undef= .pointer (some ⟨N+1,0,none⟩)) (c2:W.heap[N]? =some (.cells #[.int .i64 x] t2 (0,0))) (c3:W.heap[N+1]? =some (.cells #[.int .i64 y] t3 (0,0)))
  (hr:∀ w3,Kept (fun g=>g=N∨g=N+1) W w3->R (.returned (.tuple #[.int .i64 er.1,.int .i64 er.2])) w3):LeavesInM yz 1 Tryz.prog Tryz.f43 tmps R [rdfn N] (.panicking [{ v:=pvS er,recovered:=false }]) W:=by
 refine⟨(by intro h;cases h),.inr ⟨fun _=>zj _,_,_,_,_,rfl,zhJ N _,fun _ _=>trivial,?_⟩⟩;refine (zrt N (N+1) er x y t2 t3 _ c2 c3 (by omega)).mono ?_;rintro en u' w3 ⟨⟨v,rfl⟩,rfl,hk3,s2,s3,d2,d3⟩;exact⟨_,zpa h2 h3 d2 d3,hr _ hk3⟩
end
set_option maxHeartbeats 1000000 in
theorem zpb {w:zi} {f:zO} {caps:Array zg} {R:Except (Int×Int) Unit->zi->Prop} (hen:∀ w,(callFunc f caps).run Tryz.prog w= .ok (.enter f caps) w)
  (hcall:Calls Tryz.prog f caps (runW w) fun e w'=>(runW w).heap.size≤w'.heap.size∧w'.heap[w.heap.size]? =(runW w).heap[w.heap.size]? ∧w'.heap[w.heap.size+1]? =(runW w).heap[w.heap.size+1]? ∧((∃ v,e= .returned v∧R (.ok ()) w')∨∃ er,e= .panicked [{ v:=pvS er,recovered:=false }]∧R (.error er) w')):
  Calls Tryz.prog 43 #[.func (.func f) #[] caps] w fun e w''=>∃ r w',R r w'∧(runW w).heap.size≤w'.heap.size∧Kept (fun g=>g=w.heap.size∨g=w.heap.size+1) w' w''∧e= .returned (.tuple #[.int .i64 (runE r).1,.int .i64 (runE r).2]):=by
 refine callsIn_wide.1 (zfp (m:=1) Tryz.func43 rfl ?_);simp only[Tryz.ntmps43,List.size_toArray,zr,List.length_nil,Nat.reduceAdd,Nat.reduceSub,Array.replicate_succ,Array.replicate_zero,List.push_toArray,List.append_toArray,List.nil_append,List.cons_append];generalize hQ:bodyPostM yz 1 Tryz.prog Tryz.f43 _=Q;have hmf:=mkF;refine zcA (zcH (m:=1) ?_)
 gi_wp2
 refine zcA (zcH (m:=1) ?_)
 gi_wp2
 refine zcA (zcH (m:=1) ?_)
 gi_wp2
 refine⟨trivial,(callsIn_wide.2 hcall).mono ?_⟩;rintro e w' ⟨hsz,hb0,hb1,⟨v,rfl,hR⟩|⟨er,rfl,hR⟩⟩
 ·have c0:w'.heap[w.heap.size]? =some (.cells #[.int .i64 0] 3 (0,0)):=hb0.trans (za1 _ (zb3 _ rfl));have c1:w'.heap[w.heap.size+1]? =some (.cells #[.int .i64 0] 25 (0,0)):=hb1.trans (zb3 _ (by simp));have d0:=za6 c0;have d1:=za6 ((xp w' ⟨w.heap.size,0,none⟩ (.int .i64 0) (w.heap.size+1) (by show w.heap.size+1≠w.heap.size;omega)).trans c1)
  gi_wp2
  refine zcA (zcH (m:=1) ?_)
  gi_wp2
  have f0:=zfs (.int .i64 0) c0;have f1:=(xp w' ⟨w.heap.size,0,none⟩ (.int .i64 0) (w.heap.size+1) (by show w.heap.size+1≠w.heap.size;omega)).trans c1;have f2:=zfs (.int .i64 0) f1;have f3:=(xp (w'.setCell ⟨w.heap.size,0,none⟩ (.int .i64 0)) ⟨w.heap.size+1,0,none⟩ (.int .i64 0) w.heap.size (by show w.heap.size≠w.heap.size+1;omega)).trans f0;have k1:=zdU (R:=fun g=>g=w.heap.size∨g=w.heap.size+1) w' w.heap.size (.int .i64 0) (.inl rfl);have k2:=zdU (R:=fun g=>g=w.heap.size∨g=w.heap.size+1) (w'.setCell ⟨w.heap.size,0,none⟩ (.int .i64 0)) (w.heap.size+1) (.int .i64 0) (.inr rfl);refine zcH (m:=1) (wpIn_ret ?_);rw[<-hQ];refine zry rfl rfl f3 f2 fun w3 hk=>⟨.ok (),w',hR,hsz,?_,rfl⟩;exact (k1.trans k2).trans hk
 ·have c0:w'.heap[w.heap.size]? =some (.cells #[.int .i64 0] 3 (0,0)):=hb0.trans (za1 _ (zb3 _ rfl));have c1:w'.heap[w.heap.size+1]? =some (.cells #[.int .i64 0] 25 (0,0)):=hb1.trans (zb3 _ (by simp));rw[<-hQ];exact zrz rfl rfl c0 c1 fun w3 hk=>⟨.error er,w',hR,hsz,hk,rfl⟩
end
abbrev tupI:Ty:=.tup i64 (.tup i64 .unit)
section
variable {w0:zi} {X:Ownr} {n m K:Nat} {Q:Exit->AS->Prop} {ops:Array Oper} {F:Frame} {E:Owns} {nx:Nat}
theorem AL.runClo (hX:X.Ok w0) (K:Nat) {o1 o2:Oper} {rest:List Oper} {f:zO} {fn:Func} {c:Code} {x0 x1:zG} {d1 d2:Nat} {ts:Array zp} (ho1:o1.op= .makeFunc (.func f) #[] #[x0,x1]) (ho2:o2.op= .call ⟨.value (.func 43),#[.tmp d1],ts⟩)
  (hg1:o1.guard=none) (hg2:o2.guard=none) (hd1:o1.dst=some d1) (hd2:o2.dst=some d2) (hn1:z6 d1 n=true) (hn2:z6 d2 n=true) (hb:zfr E K=true) (hKn:qD K nx=true) (hK:X.K≤K)
  (hf:Tryz.prog.funcs[f]? =some fn) (hbd:fn.body=some c) (hn:fn.ntmps=m) (hres:fn.results= #[]) (hm:qD 2 m=true) (hen:∀ (vs:Array zg) (w:zi),(callFunc f vs).run Tryz.prog w= .ok (.enter f vs) w) {v0 v1:V} (hv0:evO F x0=v0) (hv1:evO F x1=v1) (hbF:bndB nx [(0,v0),(1,v1)]=true) {N:Except (Int×Int) Unit->AS->Prop}
  (hw:∀ (w1:zi) (X':Ownr),X'.Ok w1->X'.G=X.G->X'.K=K->X'.ρ=none->X'.D=[]->(∀ g,X'.R g->w0.heap.size≤g∨X.R g)->AWP Tryz.prog w1 X' m c ⟨[(0,v0),(1,v1)],E,nx⟩ (fun e σ=>((e= .normal∨e= .ret)∧N (.ok ()) σ)∨∃ er,e= .panic [{ v:=pvS er,recovered:=false }]∧N (.error er) σ))
  (h:∀ r σ,N r σ->AL Tryz.prog w0 X n ops rest ⟨(d2,⟨tupI,((runE r).1,(runE r).2,())⟩)::(d1,⟨.junk,()⟩)::zid K F,σ.E,σ.nx⟩ Q):AL Tryz.prog w0 X n ops (o1::o2::rest) ⟨F,E,nx⟩ Q:=by
 intro β a w hs;have hl1:d1 < n:=by simpa using hn1
 have hl2:d2 < n:=by simpa using hn2
 have hsz:=hs.sz;refine wpListIn_plain hg1 fun K1 hK1=>zcN (fun c e=>by rw[ho1]at e;cases e) ?_;have hr1:(execOp a.eval o1).run Tryz.prog w= .ok (.value (.func (.func f) #[] #[a.eval x0,a.eval x1])) w:=by
  unfold execOp;simp only[ho1];refine zeG ?_;simp[Instr.makeFunc]
 refine zbL hr1 (hK1 _ _ ?_);rw[hd1];refine wpListIn_plain hg2 fun K2 hK2=>zcN (fun c e=>by rw[ho2]at e;cases e) ?_;refine zhd ho2 Tryz.call43 ?_;have hc:((#[uy d1]:Array zG).toList.map (a.put (some d1) (.func (.func f) #[] #[a.eval x0,a.eval x1])).eval).toArray= #[.func (.func f) #[] #[a.eval x0,a.eval x1]]:=by
  have:(a.put (some d1) (.func (.func f) #[] #[a.eval x0,a.eval x1])).eval (.tmp d1)= .func (.func f) #[] #[a.eval x0,a.eval x1]:=by
   show (a.put (some d1) _).tmps.getD d1 undef=_;rw[Act.put_get (by rw[hsz];exact hl1),if_pos rfl]
  rw[List.map_cons,this];rfl
 rw[hc];have hws:=zpd w;have hfr:∀ s,RepV w (OSet X E β) β (zq [(0,v0),(1,v1)] s).t (zq [(0,v0),(1,v1)] s).x (((#[a.eval x0,a.eval x1]:Array zg)++zA (m - (#[a.eval x0,a.eval x1]:Array zg).size) undef).getD s undef):=by
  refine zbJ ?_ (zbJ ?_ zgB)
  ·have:=hs.ops x0;rw[show evO (AS.mk F E nx).F x0=_ from hv0]at this
   simpa [zL,qG] using this
  ·have:=hs.ops x1;rw[show evO (AS.mk F E nx).F x1=_ from hv1]at this
   simpa [zL,qG] using this
 have hin:=Sim.inl (K:=K) (m:=m) (w1:=runW w) (ex:=fun g=>g=w.heap.size∨g=w.heap.size+1) hs hX (znW w) (fun g hg=>by omega) hb (zb hKn) hK hf hbd hn hres (caps:=#[a.eval x0,a.eval x1]) (by show 2≤m;exact zb hm) hfr hbF (Q:=fun e σ=>((e= .normal∨e= .ret)∧N (.ok ()) σ)∨∃ er,e= .panic [{ v:=pvS er,recovered:=false }]∧N (.error er) σ)
  (fun e σ hq=>by
    rcases hq with ⟨rfl|rfl,_⟩|⟨er,rfl,_⟩
    ·exact .inl rfl
    ·exact .inr (.inl rfl)
    ·exact .inr (.inr ⟨_,rfl⟩)) (fun X' h1 h2 h3 h4 h5 h6=>hw _ X' h1 h2 h3 h4 h5 h6)
 let R:Except (Int×Int) Unit->zi->Prop:=fun r w'=>∃ σ,N r σ∧∀ w'',Kept (fun g=>g=w.heap.size∨g=w.heap.size+1) w' w''->∃ β',Sim w0 X n ⟨zid K F,σ.E,σ.nx⟩ β' a w''
 refine (zpb (R:=R) (hen _) (hin.mono fun en w' hr=>?_)).mono fun en w'' hr=>?_
 ·obtain⟨h1,h2,e,σ,he,hq,hfin⟩:=hr;refine⟨h1,h2 _ (.inl rfl),h2 _ (.inr rfl),?_⟩;rcases hq with ⟨hq,hN⟩|⟨er,rfl,hN⟩
  ·rcases he with ⟨_,v,rfl⟩|⟨ch,rfl,_⟩
   ·exact .inl ⟨v,rfl,σ,hN,hfin⟩
   ·rcases hq with hq|hq<;>cases hq
  ·rcases he with ⟨hq|hq,_⟩|⟨ch,hq,rfl⟩
   ·cases hq
   ·cases hq
   ·cases hq;exact .inr ⟨er,rfl,σ,hN,hfin⟩
 ·obtain⟨r,w',⟨σ,hN,hfin⟩,hsz2,hk,rfl⟩:=hr;obtain⟨β',h'⟩:=hfin w'' hk;refine⟨_,rfl,hK2 _ _ ?_⟩;rw[hd2];have h2:=h'.put (zU _ _) (d:=d1) (v:=⟨.junk,()⟩) (u:=.func (.func f) #[] #[a.eval x0,a.eval x1]) trivial (zk _) hl1;have h3:=h2.put (zU _ _) (d:=d2) (v:=⟨tupI,((runE r).1,(runE r).2,())⟩) (u:=.tuple #[.int .i64 (runE r).1,.int .i64 (runE r).2]) ⟨[_,_],rfl,_,_,rfl,rfl,_,_,rfl,rfl,rfl⟩ (zk _) hl2;exact h r σ hN β' _ w'' h3
end
theorem zhF (s:List UInt8):zc1 s 0=za2 s:=by
 unfold zc1;rw[show ((0:Int)).toNat=0 from rfl,List.drop_zero];show (zF (za2 s),Tok.at (za2 s)+0,Tok.size (za2 s),zD (za2 s),xH (za2 s),())=za2 s;rw[Int.add_zero];rfl
def zbc (s:List UInt8):List Nd×Int×Int:=if 4000 < s.length then ([],0,2) else match zfo s with
 | .ok t=>(t.flat 0,0,0)
 | .error e=>([],e.1,e.2)
def zg8:Ctr:={ args:=[.str],pre:=fun _=>[],res:=.tup (.slice nd) (.tup i64 (.tup i64 .unit)),own:=none,out:=fun x=>((zbc x.1).1,(zbc x.1).2.1,(zbc x.1).2.2,()) }
def zq1 (s:List UInt8) (r:Except (Int×Int) Unit) (σ:AS):Prop:=(∃ t,zfo s= .ok t∧r= .ok ()∧Fit σ ⟨[],[(0,some (.box .str s)),(1,some (.box (.slice nd) (t.flat 0)))],2⟩)∨∃ er,zfo s= .error er∧r= .error er∧Fit σ ⟨[],[(0,some (.box .str s)),(1,some (.box (.slice nd) []))],2⟩
theorem zfH (s:List UInt8):zfo s=(zeC s (za2 s,0)).map (·.1):=by
 unfold zfo zik;rw[zhF]
theorem zoc {w1:zi} {X:Ownr} {s:List UInt8} (hs:s.length≤4000) (hX:X.Ok w1) (hG:X.G=gmH) (hK:X.K=2) (hρ:X.ρ=none) (hD:X.D=[]) (hinv:∀ ty,ginv w1 X.R ty):
  AWP Tryz.prog w1 X Tryz.f44.ntmps (Tryz.f44.body.getD .skip) ⟨[(0,⟨.optr .str,⟨0,.str,.here⟩⟩),(1,⟨.optr (.slice nd),⟨1,.slice nd,.here⟩⟩)],[(0,some (.box .str s)),(1,some (.box (.slice nd) []))],2⟩ (fun e σ=>((e= .normal∨e= .ret)∧zq1 s (.ok ()) σ)∨∃ er,e= .panic [{ v:=pvS er,recovered:=false }]∧zq1 s (.error er) σ):=by
 obtain⟨G,O,K,fix,D,ρ,B⟩:=X;obtain rfl:G=gmH:=hG;obtain rfl:K=2:=hK;obtain rfl:ρ=none:=hρ;obtain rfl:D=[]:=hD;have hI:=fun ty=>zaN (ty:=ty) hX rfl (hinv ty) (ty':=ty);have hl:s.length≤100000:=by omega
 (repeat(first|apply zae|apply zab|apply zac|apply zad));refine zah ?_;refine yy 1 hX zak rfl trivial ?_;refine AL.fresh hX zeL rfl rfl rfl rfl rfl rfl trivial hl ⟨rfl,rfl⟩ rfl rfl ?_;refine AL.nilLeaf 2 6 73 nd rfl rfl rfl ?_;refine qC (σ':=⟨[(0,⟨.optr .str,⟨0,.str,.here⟩⟩),(1,⟨.optr (.slice nd),⟨1,.slice nd,.here⟩⟩),(3,⟨.hptr,((2:Nat),(0:Nat))⟩)],[(0,some (.box .str s)),(1,some (.box (.slice nd) [])),(2,some (.hbox 139 [⟨.str,s⟩,⟨i64,(za2 s).1⟩,⟨i64,(za2 s).2.1⟩,⟨i64,(za2 s).2.2.1⟩,⟨.str,(za2 s).2.2.2.1⟩,⟨i64,(za2 s).2.2.2.2.1⟩,⟨.obuf nd,(3:Nat)⟩,⟨i64,(0:Int)⟩])),(3,some (.buf 73 nd []))],4⟩) ⟨⟨rfl,rfl,rfl,trivial⟩,⟨rfl,rfl,rfl,rfl,trivial⟩,rfl,rfl⟩ ?_;have hg0:GOk s (za2 s,0):=by
  have:=zge (s:=s);unfold zik at this;rwa[zhF]at this
 have hok:pOk (s,za2 s,[],0,()):=⟨hg0,hl⟩;have hfew:few (s,za2 s,[],0,()):=yN 0;refine AL.give hX zpg rfl rfl rfl rfl rfl rfl rfl rfl rfl rfl rfl rfl trivial ⟨hok,hfew⟩ (hI 139) rfl rfl ?_;cases h3:zeC s (za2 s,0) with
 |error er=>
  rw[show zeS s (stOf (s,za2 s,[],0,())) []= .error (pvS er) by unfold zeS;rw[show stOf (s,za2 s,([]:List Nd),(0:Int),())=(za2 s,0) from rfl,h3];rfl];refine .inr ⟨er,rfl,.inr ⟨er,?_,rfl,trivial,⟨rfl,rfl,trivial⟩,rfl,rfl⟩⟩;rw[zfH,h3];rfl
 |ok p=>
  rw[show zeS s (stOf (s,za2 s,[],0,())) []= .ok (p.1.flat 0) by unfold zeS;rw[show stOf (s,za2 s,([]:List Nd),(0:Int),())=(za2 s,0) from rfl,h3];rfl];show AL _ _ _ _ _ _ _ _;refine zY hX zak rfl trivial ?_;refine .inl ⟨.inl rfl,.inl ⟨p.1,?_,rfl,trivial,⟨rfl,rfl,trivial⟩,rfl,rfl⟩⟩;rw[zfH,h3];rfl
theorem zjL:yB Tryz.prog gmH 16 zg8:=by
 refine zap (K:=gmK) zak Tryz.func16 rfl rfl Tryz.call16 rfl (by decide) (by intro h;cases h) ?_;rintro w0 O hX ⟨(s:List UInt8),⟨⟩⟩ hp;have hg0:gmH w0:=hX.2.2 w0 (Kept.refl _ _);change AWP _ _ _ _ _ ⟨[(0,⟨.str,s⟩)],[],0⟩ _;refine za (za ?_);refine zaa hX zak rfl ?_ ?_
 ·trivial
 refine za (za ?_);refine zaa hX zak rfl ?_ ?_
 ·trivial
 refine zaf rfl (fun hb=>?_) (fun hb=>?_)
 ·have hb:decide (((4000:Nat):Int) < ((s.length:Nat):Int))=true:=hb;have hb:=of_decide_eq_true hb;have hP:zbc s=([],0,2):=if_pos (by omega);(repeat(first|apply zae|apply zab|apply zal|apply zad|apply zac|refine zaa hX zak rfl trivial ?_|refine zaa hX zak rfl id ?_|refine zaa hX zak rfl ⟨id,id⟩ ?_));refine zm ⟨.inr rfl,za9 (by decide) rfl rfl trivial ?_⟩;show _=((zbc s).1,(zbc s).2.1,(zbc s).2.2,());rw[hP]
 have hb:decide (((4000:Nat):Int) < ((s.length:Nat):Int))=false:=hb;have hb:=of_decide_eq_false hb;have hP:zbc s=match zfo s with
  | .ok t=>(t.flat 0,0,0)
  | .error e=>([],e.1,e.2):=if_neg (by omega)
 apply zab;refine za (za ?_);refine zaa hX zak rfl ?_ ?_
 ·trivial
 refine zam (σ':=⟨[(1,⟨.optr .str,⟨0,.str,.here⟩⟩),(5,⟨.optr (.slice nd),⟨1,.slice nd,.here⟩⟩)],[(0,some (.box .str s)),(1,some (.box (.slice nd) []))],2⟩) ⟨⟨rfl,rfl,trivial⟩,⟨rfl,rfl,trivial⟩,rfl,rfl⟩ ?_;(repeat(first|apply zae|apply zab|apply zac|apply zad));refine zah ?_;refine AL.runClo hX 2 rfl rfl rfl rfl rfl rfl rfl rfl rfl rfl (zk _) Tryz.func44 rfl rfl rfl rfl Tryz.call44 rfl rfl rfl (N:=zq1 s) (fun w1 X' h1 h2 h3 h4 h5 h6=>?_) (fun r σ hN=>?_)
 ·refine zoc (by omega) h1 h2 h3 h4 h5 fun ty=>?_;obtain⟨l1,l2⟩:=znl hg0;refine⟨fun h=>?_,fun h=>?_⟩
  ·rcases h6 _ h with h7|h7
   ·omega
   ·exact Ownr.plain_noR _ _ _ h7
  ·rcases h6 _ h with h7|h7
   ·omega
   ·exact Ownr.plain_noR _ _ _ h7
 rcases hN with ⟨t,hN,rfl,hf⟩|⟨er,hN,rfl,hf⟩
 ·skip
  refine qC (σ':=⟨[(13,⟨tupI,((0:Int),(0:Int),())⟩),(1,⟨.optr .str,⟨0,.str,.here⟩⟩),(5,⟨.optr (.slice nd),⟨1,.slice nd,.here⟩⟩)],[(0,some (.box .str s)),(1,some (.box (.slice nd) (t.flat 0)))],2⟩) ⟨⟨rfl,rfl,rfl,trivial⟩,hf.e,rfl,rfl⟩ ?_;refine zY hX zak rfl trivial ?_;(repeat(first|apply zae|apply zab|apply zal|apply zad|apply zac|refine zaa hX zak rfl trivial ?_|refine zaa hX zak rfl id ?_|refine zaa hX zak rfl ⟨id,id⟩ ?_));refine zm ⟨.inr rfl,za9 (by decide) rfl rfl trivial ?_⟩;show _=((zbc s).1,(zbc s).2.1,(zbc s).2.2,());rw[hP,hN]
 ·skip
  refine qC (σ':=⟨[(13,⟨tupI,(er.1,er.2,())⟩),(1,⟨.optr .str,⟨0,.str,.here⟩⟩),(5,⟨.optr (.slice nd),⟨1,.slice nd,.here⟩⟩)],[(0,some (.box .str s)),(1,some (.box (.slice nd) []))],2⟩) ⟨⟨rfl,rfl,rfl,trivial⟩,hf.e,rfl,rfl⟩ ?_;refine zY hX zak rfl trivial ?_;(repeat(first|apply zae|apply zab|apply zal|apply zad|apply zac|refine zaa hX zak rfl trivial ?_|refine zaa hX zak rfl id ?_|refine zaa hX zak rfl ⟨id,id⟩ ?_));refine zm ⟨.inr rfl,za9 (by decide) rfl rfl trivial ?_⟩;show _=((zbc s).1,(zbc s).2.1,(zbc s).2.2,());rw[hP,hN]
theorem zoB (w:zi) (q:Nat) (os:Array Obj):y7 w.heap.size w (Sort.grow (w.drewN q) os):=
 ⟨rfl,rfl,rfl,by show w.heap.size≤(w.heap++os).size;rw[Array.size_append];omega,fun i hi=>by
   show (w.heap++os)[i]? =_;rw[Array.getElem?_append_left hi]⟩
abbrev deI (n:Int):List UInt8:=Lib.itoa n
theorem znz (k:Nat):∀ n,n < 10 ^ (k+1)->(xr n).length≤k+1:=by
 induction k with
 |zero=>
  intro n h;rw[xr];by_cases hn:n < 10
  ·rw[dif_pos hn];exact zj _
  ·exact absurd (by simpa using h) hn
 |succ k ih=>
  intro n h;rw[xr];by_cases hn:n < 10
  ·rw[dif_pos hn];simp
  ·rw[dif_neg hn,zh];have:=ih (n / 10) (by rw[Nat.pow_succ]at h;omega);simp only[List.length_singleton];omega
theorem ziu {n:Int} (h0: -100000000000000000 < n) (h1:n < 100000000000000000):(deI n).length≤18:=by
 unfold deI Lib.itoa;have e:(10:Nat) ^ (16+1)=100000000000000000:=by decide
 split
 ·rw[zr];have:=znz 16 n.natAbs (by rw[e];omega);omega
 ·have:=znz 16 n.toNat (by rw[e];omega);omega
def zcn (n:Int):Prop:=-100000000000000000 < n∧n < 100000000000000000
def cItoa:Ctr:={ args:=[i64],pre:=fun x=>[zcn x.1],res:=.str,own:=none,out:=fun x=>deI x.1 }
theorem zue:yB Tryz.prog gmH 149 cItoa:=by
 refine⟨Tryz.call149,fun w O xs vs hO hr hp hG=>?_⟩;obtain⟨(n:Int),_⟩:=xs;obtain⟨v1,r1,rfl,e1,rfl⟩:=hr;have e1: [v1]=[yJ .i64 n]:=e1;cases e1;obtain⟨h0,h1⟩: -100000000000000000 < n∧n < 100000000000000000:=hp;refine (Any.strconv_Itoa Tryz.laysM171 n (by omega) (by omega) w hG.1).mono ?_;rintro e w' ⟨rfl,k,os,rfl⟩;refine⟨_,rfl,zoB w k os,fun β=>⟨rfl,?_⟩⟩;have:=ziu h0 h1;show (deI n).length≤maxLen;unfold maxLen;omega
def levS (k:Int):Int:=if k=9 then 1 else if k=10 then 2 else if k=8 then 3 else if 11≤k∧k≤17 then 4 else 5
def zte:Ctr:={ args:=[i64],pre:=fun _=>[],res:=i64,own:=none,out:=fun x=>levS x.1 }
def opKd (i:Nat):Int:=(opsL.getD i ([],0,())).2.1
theorem zr2:yB Tryz.prog gmH 98 zte:=by
 refine zap (K:=kBi) zbv Tryz.func98 rfl rfl Tryz.call98 rfl (by decide) (by intro h;cases h) ?_;rintro w0 X hX ⟨(kd:Int),⟨⟩⟩ hp;change AWP _ _ _ _ _ ⟨[(0,⟨i64,kd⟩)],[],0⟩ _;refine za (za ?_);refine zaa hX zbv rfl ?_ ?_
 ·trivial
 refine za (za ?_);refine zaa hX zbv rfl ?_ ?_
 ·trivial
 apply zac;refine yD (ι:=Nat) (fun i=>⟨[(0,⟨i64,kd⟩),(5,⟨.slice gop,opsL⟩),(6,⟨i64,(3:Int)⟩),(7,⟨i64,(i:Int)⟩)],[],0⟩) (fun i=>i≤3∧∀ j < i,opKd j≠kd) (fun i=>3 - i) 0 ⟨by omega,fun j h=>by omega⟩ ⟨⟨rfl,rfl,rfl,rfl,trivial⟩,trivial,rfl,rfl⟩ ?_;rintro i ⟨hi,hall⟩;refine za (za ?_);refine zaa hX zbv rfl ?_ ?_
 ·trivial
 apply zae;refine zaf rfl (fun hb=>?_) (fun hb=>?_)
 ·have hb:decide ((i:Int) < (3:Int))=true:=hb;have hb:=of_decide_eq_true hb;have hi3:i < 3:=by omega
  have n0:(0:Int)≤(i:Int):=by omega
  have n1:(i:Int) < ((opsL.length:Nat):Int):=by show (i:Int) < ((3:Nat):Int);omega
  apply zab;apply zae;apply zac;refine za (za ?_);refine zaa hX zbv rfl ?_ ?_
  ·exact⟨n0,n1⟩
  refine za (za ?_);refine zaa hX zbv rfl ?_ ?_
  ·trivial
  refine zaf rfl (fun hk=>?_) (fun hk=>?_)
  ·have hk:((opsL.getD ((i:Int)).toNat ([],0,())).2.1==kd)=true:=hk;have hk:=beq_iff_eq.1 hk;rw[zy]at hk;have q0:inR .i64 ((i:Int)+1):=zaq (by omega) (by omega);refine za (za ?_);refine zaa hX zbv rfl ?_ ?_
   ·exact q0
   refine zm ⟨.inr rfl,zas rfl trivial rfl rfl ?_⟩;show (i:Int)+1=levS kd;rcases (show i=0∨i=1∨i=2 by omega) with rfl|rfl|rfl
   ·subst hk;rfl
   ·subst hk;rfl
   ·subst hk;rfl
  ·have hk:((opsL.getD ((i:Int)).toNat ([],0,())).2.1==kd)=false:=hk;have hk:(opsL.getD i ([],0,())).2.1≠kd:=fun e=>by
    rw[zy]at hk;rw[beq_iff_eq.2 e]at hk;cases hk
   apply zab;have q0:inR .i64 ((i:Int)+1):=zaq (by omega) (by omega);refine za (za ?_);refine zaa hX zbv rfl ?_ ?_
   ·exact q0
   refine⟨i+1,⟨by omega,fun j hj=>?_⟩,by omega,⟨rfl,rfl,rfl,vI64 (by omega),trivial⟩,trivial,rfl,rfl⟩;by_cases e:j=i
   ·subst e;exact hk
   ·exact hall j (by omega)
 ·have hb:decide ((i:Int) < (3:Int))=false:=hb;have hb:=of_decide_eq_false hb;have h9:kd≠9:=fun e=>hall 0 (by omega) e.symm;have h10:kd≠10:=fun e=>hall 1 (by omega) e.symm;have h8:kd≠8:=fun e=>hall 2 (by omega) e.symm;apply zad;refine za (za ?_);refine zaa hX zbv rfl ?_ ?_
  ·repeat'(first|exact trivial|assumption|(refine⟨?_,?_⟩)|(intro _)|exact zb rfl|exact zn _|(simp_all [allP];done))
  refine zaf rfl (fun hb=>?_) (fun hb=>?_)
  ·have hb:(bif decide ((11:Int)≤kd) then decide (kd≤17) else false)=true:=hb;rw[zct,zd,decide_eq_true_iff,decide_eq_true_iff]at hb;(repeat(first|apply zae|apply zab|apply zal|apply zad|apply zac|refine zaa hX zbv rfl trivial ?_|refine zaa hX zbv rfl id ?_|refine zaa hX zbv rfl ⟨id,id⟩ ?_));refine zm ⟨.inr rfl,zas rfl trivial rfl rfl ?_⟩;show (4:Int)=levS kd;unfold levS;rw[if_neg h9,if_neg h10,if_neg h8,if_pos hb]
  ·have hb:(bif decide ((11:Int)≤kd) then decide (kd≤17) else false)=false:=hb;have hb:¬ (11≤kd∧kd≤17):=fun h=>by
    rw[zct,decide_eq_true h.1,decide_eq_true h.2]at hb;cases hb
   apply zab;(repeat(first|apply zae|apply zab|apply zal|apply zad|apply zac|refine zaa hX zbv rfl trivial ?_|refine zaa hX zbv rfl id ?_|refine zaa hX zbv rfl ⟨id,id⟩ ?_));refine zm ⟨.inr rfl,zas rfl trivial rfl rfl ?_⟩;show (5:Int)=levS kd;unfold levS;rw[if_neg h9,if_neg h10,if_neg h8,if_neg hb]
def zcS (n:Int):List UInt8:=if n=1 then 32::zdv else 32::zfj
def zqI:Ctr:={ args:=[i64],pre:=fun x=>[0≤x.1,x.1≤1],res:=.str,own:=none,out:=fun x=>zcS x.1 }
theorem zo6:yB Tryz.prog gmH 151 zqI:=by
 refine zap (K:=gmK) zak Tryz.func151 rfl rfl Tryz.call151 rfl (by decide) (by intro h;cases h) ?_;rintro w0 X hX ⟨(n:Int),⟨⟩⟩ hp;obtain⟨h0,h1⟩:0≤n∧n≤1:=hp;change AWP _ _ _ _ _ ⟨[(0,⟨i64,n⟩)],[],0⟩ _;have hlt:n < ((2:Nat):Int):=by omega
 have hlt2:n.toNat < 2:=by omega
 refine za (za ?_);refine zaa hX zak rfl ?_ ?_
 ·trivial
 refine za (za ?_);refine zaa hX zak rfl ?_ ?_
 ·exact⟨h0,hlt,hlt2⟩
 refine zm ⟨.inr rfl,zas rfl trivial rfl rfl ?_⟩;rcases (show n=0∨n=1 by omega) with rfl|rfl
 ·rfl
 ·rfl
theorem eqP0 (o:Oper) (x:zG) (h:o.op= .fieldAddr 107 x 0):OpEq Tryz.prog o { o with op:=.fieldAddr 133 x 0 }:=by
 refine⟨rfl,rfl,rfl,fun ev w=>?_⟩;unfold execOp;simp only[h];cases ev x<;>simp[go_sem]
theorem eqP1 (o:Oper) (x:zG) (h:o.op= .fieldAddr 107 x 1):OpEq Tryz.prog o { o with op:=.fieldAddr 73 x 2 }:=by
 refine⟨rfl,rfl,rfl,fun ev w=>?_⟩;unfold execOp;simp only[h];cases ev x<;>simp[go_sem]
@[reducible] def hW (args:List Ty) (pre:(bTy prT).T->Args args->List Prop) (out:(bTy prT).T->Args args->List UInt8):HCtr:=hBl prT [107] args .unit pre fun x xs=>.ok ((),(true,((x.2.1++out x xs:List UInt8),x.2.2)))
@[reducible] def wE (ty:zp) (b:Bool) (bf:List UInt8) (r:List Nd):Owns:=[(0,some (.hbox ty [adV 0 b,⟨.obuf u8,(1:Nat)⟩,⟨.slice nd,r⟩])),(1,some (.buf 5 u8 bf))]
def wQ (rs:List xT) (c:HCtr) (ty:zp) (r:Except zg (c.res.T×c.self.T)) (e:Exit) (σ:AS):Prop:=zq3 gmT rs c ty e σ r
def zeB (l:List Int):List UInt8:=(l.map fun n=>32::deI n).flatten
def putS (s:List UInt8) (l:List Int):List UInt8:=s++zeB l
theorem zof (l:List Int) (n:Int):zeB (l++ [n])=zeB l++32::deI n:=by
 unfold zeB;rw[List.map_append,List.flatten_append];simp
theorem zbP {l:List Int} (h:∀ n∈l,zcn n):(zeB l).length≤19 * l.length:=by
 induction l with
 |nil=>exact zj _
 |cons n l ih=>
  have h1:=ziu (h n (zS ..)).1 (h n (zS ..)).2;have h2:=ih fun m hm=>h m (yk _ hm);show ((32::deI n)++zeB l).length≤_;rw[zh,zr,zr];omega
def kPt:Kn:={ gmK with C:=[(149,cItoa)] }
theorem zcE:KnOk Tryz.prog gmH kPt:=zak.with (.cons zue .nil)
def hPt:List (zO×HCtr):=[(66,cWSP)]
theorem znj:HsOk Tryz.prog gmH hPt:=.cons ziV .nil
@[reducible] def cPut:HCtr:=hW [.str,ints] (fun x xs=>[zf x.2.1+zf xs.1+19 * zf xs.2.1≤1000000000,∀ n∈xs.2.1,zcn n]) fun x xs=>putS xs.1 xs.2.1
theorem bufU {te:zp} {x y:List UInt8} (h:x=y):some (OObj.buf te u8 x)=some (OObj.buf te u8 y):=by rw[h]
theorem zpD:zaH Tryz.prog gmH 100 cPut:=by
 refine zav (K:=_) zcE Tryz.func100 rfl rfl (zcL rfl) Tryz.call100 rfl (zb rfl) (zd1 prT [107]) ?_;rintro w0 ⟨G,O,K,fix,D,ρ,B⟩ ty hX hG hK hρ hD hinv ⟨(b:Bool),(bf:List UInt8),(r:List Nd),⟨⟩⟩ ⟨(s:List UInt8),(l:List Int),⟨⟩⟩ hp;obtain rfl:G=gmH:=hG;obtain rfl:K=1:=hK;obtain rfl:ρ=none:=hρ;obtain rfl:D=[]:=hD;have hI:=fun w R hR hw=>(⟨zaN (ty:=ty) hX rfl hinv.1 (ty':=ty) w R hR hw,hinv.2⟩:bInv prT [107] w R ty);obtain⟨hlen,hnum⟩:bf.length+s.length+19 * l.length≤1000000000∧∀ n∈l,zcn n:=hp;change AWP _ _ _ _ _ ⟨[(0,⟨.hptr,((0:Nat),(0:Nat))⟩),(1,⟨.str,s⟩),(2,⟨.slice i64,l⟩)],wE ty b bf r,2⟩ (wQ _ cPut ty (.ok ((),(true,((bf++(s++zeB l):List UInt8),(r,()))))));have hl0:bf.length+s.length≤1000000000:=by omega
 refine yO (σ':=⟨[(0,⟨.hptr,((0:Nat),(0:Nat))⟩),(2,⟨.slice i64,l⟩)],wE ty true ((bf++s:List UInt8)) r,2⟩) ?_ ?_
 ·cases b
  all_goals
   refine zah ?_;refine yy 2 hX zcE rfl trivial ?_;refine jz (eqP0 _ _ rfl) hX zcE rfl trivial ?_;refine yl 1 hX zcE znj rfl trivial rfl rfl hl0 hI ?_;exact yf ⟨⟨rfl,rfl,trivial⟩,⟨rfl,rfl,trivial⟩,rfl,rfl⟩
 refine za (za ?_);refine zaa hX zcE rfl ?_ ?_
 ·trivial
 apply zac;refine yD (ι:=Nat) (fun i=>⟨[(0,⟨.hptr,((0:Nat),(0:Nat))⟩),(13,⟨.slice i64,l⟩),(14,⟨i64,((l.length:Nat):Int)⟩),(15,⟨i64,(i:Int)⟩)],wE ty true ((bf++s++zeB (l.take i):List UInt8)) r,2⟩) (fun i=>i≤l.length) (fun i=>l.length - i) 0 (zk _) ⟨⟨rfl,rfl,rfl,rfl,trivial⟩,⟨rfl,bufU (by show bf++s=bf++s++ [];rw[z7]),trivial⟩,rfl,rfl⟩ ?_;intro i hi;refine za (za ?_);refine zaa hX zcE rfl ?_ ?_
 ·trivial
 apply zae;refine zaf rfl (fun hb=>?_) (fun hb=>?_)
 ·have hb:decide ((i:Int) < ((l.length:Nat):Int))=true:=hb;have hb:=of_decide_eq_true hb;have hil:i < l.length:=by omega
  have n0:(0:Int)≤(i:Int):=by omega
  have hat:l.getD ((i:Int)).toNat 0=l[i]:=zaM hil;have hn:zcn (l.getD ((i:Int)).toNat 0):=by rw[hat];exact hnum _ (xU hil)
  have hd:=ziu hn.1 hn.2;have ht:zf (l.take i)≤i:=by rw[yW];omega
  have hnt:=zbP (l:=l.take i) fun n hm=>hnum n (js hm);have hbl:zf (bf++s++zeB (l.take i):List UInt8)+zf (32::deI (l.getD ((i:Int)).toNat 0):List UInt8)≤1000000000:=by
   rw[zh,zh,zr];omega
  have hcat:1+zf (deI (l.getD ((i:Int)).toNat 0))≤maxLen:=by unfold maxLen;omega
  apply zab;apply zae;apply zac;refine za (za ?_);refine zaa hX zcE rfl ?_ ?_
  ·exact⟨n0,hb⟩
  refine AWP.mono (Q:=fun e sg=>e= .normal∧Fit sg ⟨[(0,⟨.hptr,((0:Nat),(0:Nat))⟩),(13,⟨.slice i64,l⟩),(14,⟨i64,((l.length:Nat):Int)⟩),(15,⟨i64,(i:Int)⟩)],wE ty true ((bf++s++zeB (l.take i)++(32::deI (l.getD ((i:Int)).toNat 0)):List UInt8)) r,2⟩) ?_ ?_
  ·refine ju dM 7 rfl (by kernel_rfl) ?_
   repeat'(first
    |exact AllN.nil
    |refine AllN.cons ⟨_,rfl,?_⟩ ?_
    |refine yZ hX zcE rfl trivial ?_
    |refine yZ hX zcE rfl (by exact hn) ?_
    |refine yZ hX zcE rfl (by exact hcat) ?_
    |refine StepA.step (eqP0 _ _ rfl) hX zcE rfl trivial ?_
    |refine StepA.own hX znj rfl (by exact hbl) hI ?_
    |(refine OrdA.last ?_;exact⟨rfl,⟨rfl,rfl,rfl,rfl,trivial⟩,⟨rfl,rfl,trivial⟩,rfl,rfl⟩))
  ·rintro e s' ⟨rfl,hf⟩;have q0:inR .i64 ((i:Int)+1):=zaq (by omega) (by omega);refine zam hf ?_ (by exact zb rfl);refine za (za ?_);refine zaa hX zcE rfl ?_ ?_
   ·exact q0
   refine⟨i+1,hil,by omega,⟨rfl,rfl,rfl,vI64 (by omega),trivial⟩,⟨rfl,bufU ?_,trivial⟩,rfl,rfl⟩;rw[hat,zE hil,zof, <-zz]
 ·have hb:decide ((i:Int) < ((l.length:Nat):Int))=false:=hb;have hb:=of_decide_eq_false hb;obtain rfl:i=l.length:=by omega
  rw[show (bf++(s++zeB l):List UInt8)=bf++s++zeB (l.take l.length) from by rw[xe,zz]];apply zad;exact⟨.inl rfl,⟨_,rfl,u8,1,_,rfl,rfl,rfl⟩,za9 (by decide) rfl rfl trivial rfl⟩
section
variable {P:zv} {K:Kn} {w0:zi} {X:Ownr} {n:Nat} {σ:AS} {Q:Exit->AS->Prop} {ops:Array Oper}
theorem AWP.drawT {l':List Oper} (heq':OpsI P ops.toList l') (hm:P.follows .mixedOrders=true) (hX:X.Ok w0) (hK:KnOk P X.G K) {id:Nat} (m:Nat) (hB:zle l'.toArray m=true) {r1:List Prop×AS} (h1:ziU K n l'.toArray (l'.take m) σ=some r1) (hp1:allP r1.1) {o:Oper} (ho:l'.drop m=[o]) (hgd:o.guard=none)
  (hstep:∀ β a w,Sim w0 X n r1.2 β a w->o.wp P a w (fun a' w'=>∃ σ' β',Sim w0 X n σ' β' a' w'∧Q .normal σ') (fun e a' w'=>e≠ .outgrown∧∃ σ' β',Sim w0 X n σ' β' a' w'∧Q e σ')) (hd:zbA ops.toList=true:=by rfl):AWP P w0 X n (.region id ops true) σ Q:=fun β a w h=>by
 have heq:OpsEq P ops.toList l'.toArray.toList:=heq'.eq;have hnl:¬ LetsOut (fun e a' w'=>e≠ .outgrown∧∃ σ' β',Sim w0 X n σ' β' a' w'∧Q e σ'):=fun⟨_,_,h,_⟩=>h rfl;exact Go.wpIn_mono (wpIn_region_any hm (zb4 (R:=fun e a' w'=>e≠ .outgrown∧∃ σ' β',Sim w0 X n σ' β' a' w'∧Q e σ') hnl hd _ (by
  rw[(zjO heq).1];exact znL heq hnl _ (zlr hK hX h hB h1 hp1 fun a' w' hs=>by
   rw[show (l'.toArray.toList).drop m=[o] from ho];refine wpList_plain hgd fun K' hK'=>Oper.wp_mono (fun a2 w2 ⟨σ',β',h3,h4⟩=>hK' a2 w2 ⟨(fun h=>by cases h),σ',β',h3,h4⟩) (hstep β a' w' hs))))) fun e a w h=>h.2
theorem AWP.drawOwn {C:List (zO×HCtr)} {l':List Oper} (heq':OpsI P ops.toList l') (hm:P.follows .mixedOrders=true) (hX:X.Ok w0) (hK:KnOk P X.G K) (hC:HsOk P X.G C) {id:Nat} (m:Nat) (hB:zle l'.toArray m=true) {r1:List Prop×AS} (h1:ziU K n l'.toArray (l'.take m) σ=some r1) (hp1:allP r1.1) {o:Oper} (ho:l'.drop m=[o]) (hgd:o.guard=none)
  {s:HSite} (hsite:zop C n o r1.2=some s) (hq:allP s.q) (hinv:∀ w R,(∀ g,R g->w0.heap.size≤g∨X.R g)->X.G w->s.c.inv w R s.ty) (h:zmG (fun y x'=>Q .normal (s.next y x')) (fun pv=>Q (.panic [{ v:=pv,recovered:=false }]) s.lost) (s.c.out s.x s.xs)) (hd:zbA ops.toList=true:=by rfl):AWP P w0 X n (.region id ops true) σ Q:=
 AWP.drawT heq' hm hX hK m hB h1 hp1 ho hgd (fun β a w hsim=>zjY (N:=fun σ'=>Q .normal σ') hX hC hsite hq hinv h β a w hsim) hd
end
def sepS (i:Nat):List UInt8:=if i=0 then [32,40] else [32]
def litS:Nat->List Int->List UInt8
 |_,[]=>[]
 |i,n::r=>sepS i++deI n++litS (i+1) r
def zcD (l:List Int):List UInt8:=litS 0 l++ [41]
theorem zk2 (n:Int):∀ (l:List Int) (i:Nat),litS i (l++ [n])=litS i l++(sepS (i+l.length)++deI n)
 | [],i=>by
  show sepS i++deI n++ []=[]++(sepS (i+0)++deI n);rw[z7];rfl
 |m::l,i=>by
  show sepS i++deI m++litS (i+1) (l++ [n])=sepS i++deI m++litS (i+1) l++_;rw[zk2 n l (i+1),zz (sepS i++deI m),zr,show i+1+l.length=i+(l.length+1) by omega]
theorem zmQ (i:Nat):(sepS i).length≤2:=by
 unfold sepS;split
 ·exact zj _
 ·exact Nat.le_succ _
theorem zf7:∀ (l:List Int) (i:Nat),(∀ n∈l,zcn n)->(litS i l).length≤20 * l.length
 | [],i,_=>zj _
 |n::l,i,h=>by
  have h1:=ziu (h n (zS ..)).1 (h n (zS ..)).2;have h2:=zf7 l (i+1) fun m hm=>h m (yk _ hm);have h3:=zmQ i;show (sepS i++deI n++litS (i+1) l).length≤_;rw[zh,zh,zr];omega
@[reducible] def znD:HCtr:=hW [ints] (fun x xs=>[zf x.2.1+20 * zf xs.1+1≤1000000000,∀ n∈xs.1,zcn n]) fun x xs=>zcD xs.1
theorem zm8:zaH Tryz.prog gmH 150 znD:=by
 refine zav (K:=_) zcE Tryz.func150 rfl rfl (zcL rfl) Tryz.call150 rfl (zb rfl) (zd1 prT [107]) ?_;rintro w0 ⟨G,O,K,fix,D,ρ,B⟩ ty hX hG hK hρ hD hinv ⟨(b:Bool),(bf:List UInt8),(r:List Nd),⟨⟩⟩ ⟨(l:List Int),⟨⟩⟩ hp;obtain rfl:G=gmH:=hG;obtain rfl:K=1:=hK;obtain rfl:ρ=none:=hρ;obtain rfl:D=[]:=hD;have hI:=fun w R hR hw=>(⟨zaN (ty:=ty) hX rfl hinv.1 (ty':=ty) w R hR hw,hinv.2⟩:bInv prT [107] w R ty);obtain⟨hlen,hnum⟩:bf.length+20 * l.length+1≤1000000000∧∀ n∈l,zcn n:=hp;change AWP _ _ _ _ _ ⟨[(0,⟨.hptr,((0:Nat),(0:Nat))⟩),(1,⟨.slice i64,l⟩)],wE ty b bf r,2⟩ (wQ _ znD ty (.ok ((),(true,((bf++zcD l:List UInt8),(r,()))))));refine za (za ?_);refine zaa hX zcE rfl ?_ ?_
 ·trivial
 apply zac;refine yD (ι:=Nat) (fun i=>⟨[(0,⟨.hptr,((0:Nat),(0:Nat))⟩),(6,⟨.slice i64,l⟩),(7,⟨i64,((l.length:Nat):Int)⟩),(8,⟨i64,(i:Int)⟩)],wE ty (b||decide (0 < i)) ((bf++litS 0 (l.take i):List UInt8)) r,2⟩) (fun i=>i≤l.length) (fun i=>l.length - i) 0 (zk _) ⟨⟨rfl,rfl,rfl,rfl,trivial⟩,⟨by cases b<;>rfl,bufU (by show bf=bf++ [];rw[z7]),trivial⟩,rfl,by cases b<;>rfl⟩ ?_;intro i hi;obtain⟨b',hb'⟩:∃ b',b'=(b||decide (0 < i)):=⟨_,rfl⟩;rw[<-hb'];refine za (za ?_);refine zaa hX zcE rfl ?_ ?_
 ·trivial
 apply zae;refine zaf rfl (fun hb=>?_) (fun hb=>?_)
 ·have hb:decide ((i:Int) < ((l.length:Nat):Int))=true:=hb;have hb:=of_decide_eq_true hb;have hil:i < l.length:=by omega
  have n0:(0:Int)≤(i:Int):=by omega
  have hat:l.getD ((i:Int)).toNat 0=l[i]:=zaM hil;have hn:zcn (l.getD ((i:Int)).toNat 0):=by rw[hat];exact hnum _ (xU hil)
  have hd:=ziu hn.1 hn.2;have ht:zf (l.take i)=i:=by rw[yW];omega
  have hnt:=zf7 (l.take i) 0 fun n hm=>hnum n (js hm);have hs:=zmQ i;have hbl:zf (bf++litS 0 (l.take i):List UInt8)+zf (sepS i++deI (l.getD ((i:Int)).toNat 0):List UInt8)≤1000000000:=by
   rw[zh,zh];omega
  apply zab;apply zae;apply zac;refine za (za ?_);refine zaa hX zcE rfl ?_ ?_
  ·exact⟨n0,hb⟩
  refine AWP.mono (Q:=fun e sg=>e= .normal∧Fit sg ⟨[(0,⟨.hptr,((0:Nat),(0:Nat))⟩),(6,⟨.slice i64,l⟩),(7,⟨i64,((l.length:Nat):Int)⟩),(8,⟨i64,(i:Int)⟩)],wE ty true ((bf++litS 0 (l.take i)++(sepS i++deI (l.getD ((i:Int)).toNat 0)):List UInt8)) r,2⟩) ?_ ?_
  ·have hsep:([[32,40],[32]]:List (List UInt8)).getD (min (i:Int) 1).toNat []=sepS i:=by
    cases i with
    |zero=>rfl
    |succ k=>
     rw[show min (((k+1:Nat)):Int) 1=1 by omega];rfl
   have m0:(0:Int)≤min (i:Int) 1:=by omega
   have m1:min (i:Int) 1 < ((2:Nat):Int):=by omega
   have m2:(min (i:Int) 1).toNat < 2:=by omega
   have hcat:zf (([[32,40],[32]]:List (List UInt8)).getD (min (i:Int) 1).toNat [])+zf (deI (l.getD ((i:Int)).toNat 0))≤maxLen:=by rw[hsep];unfold maxLen;omega
   have hbl2:zf (bf++litS 0 (l.take i):List UInt8)+zf (([[32,40],[32]]:List (List UInt8)).getD (min (i:Int) 1).toNat []++deI (l.getD ((i:Int)).toNat 0):List UInt8)≤1000000000:=by rw[hsep];exact hbl
   rw[<-hsep];cases b'
   all_goals
    refine AWP.drawOwn (.cons (xv _) <| .cons (xv _) <| .cons (eqP0 _ _ rfl) <| .cons (xv _) <| .cons (xv _) <| .cons (xv _) <| .cons (xv _) <| .cons (xv _) <| .cons (xv _) <| .cons (xv _) <| .cons (xv _) <| .cons (xv _) .nil) dM hX zcE znj 11 (by kernel_rfl) rfl ?_ rfl rfl rfl ?_ hI ?_
    ·exact⟨m0,m1,hn,hcat⟩
    ·exact hbl2
    ·exact⟨rfl,⟨rfl,rfl,rfl,rfl,trivial⟩,⟨rfl,rfl,trivial⟩,rfl,rfl⟩
  ·rintro e s' ⟨rfl,hf⟩;have q0:inR .i64 ((i:Int)+1):=zaq (by omega) (by omega);have ht1:(b||decide (0 < i+1))=true:=by simp
   refine zam hf ?_ (by exact zb rfl);refine za (za ?_);refine zaa hX zcE rfl ?_ ?_
   ·exact q0
   refine⟨i+1,hil,by omega,?_⟩;rw[ht1];refine⟨⟨rfl,rfl,rfl,vI64 (by omega),trivial⟩,⟨rfl,bufU ?_,trivial⟩,rfl,rfl⟩;rw[hat,zE hil,zk2,ht,Nat.zero_add,zz]
 ·have hb:decide ((i:Int) < ((l.length:Nat):Int))=false:=hb;have hb:=of_decide_eq_false hb;obtain rfl:i=l.length:=by omega
  have hnt:=zf7 (l.take l.length) 0 fun n hm=>hnum n (js hm);have hlt:=xe (l:=l);rw[hlt]at hnt;have hbl:zf (bf++litS 0 (l.take l.length):List UInt8)+zf ([41]:List UInt8)≤1000000000:=by
   rw[hlt,zh];show bf.length+_+1≤_;omega
  rw[show (bf++zcD l:List UInt8)=bf++litS 0 (l.take l.length)++ [41] from by rw[hlt,zz];rfl];apply zad;cases b'
  all_goals
   show AWP _ _ _ _ _ _ _;refine zah ?_;refine yy 2 hX zcE rfl trivial ?_;refine jz (eqP0 _ _ rfl) hX zcE rfl trivial ?_;refine yl 0 hX zcE znj rfl trivial rfl rfl hbl hI ?_;refine yf ?_;exact⟨.inl rfl,⟨_,rfl,u8,1,_,rfl,rfl,rfl⟩,za9 (by decide) rfl rfl trivial rfl⟩
def wAt:List UInt8:=[64]
def spW (w:List UInt8):List UInt8:=32::w
def ndK (n:Nd):Int:=n.1
def ndC (n:Nd):Int:=n.2.1
def ndL (n:Nd):Int:=n.2.2.1
def ndR (n:Nd):Int:=n.2.2.2.1
def ndN (n:Nd):Int:=n.2.2.2.2.1
def ndM (n:Nd):Int:=n.2.2.2.2.2.1
def ndI (n:Nd):List Int:=n.2.2.2.2.2.2.1
def ndS (n:Nd):List UInt8:=n.2.2.2.2.2.2.2.1
def zeN (n:Nd):List UInt8:=
 if ndK n=1 then putS zfN [ndN n,ndM n]
 else if ndK n=2 then putS zdO [ndC n,ndN n,ndM n]
 else if ndK n=3 then putS zbM [ndC n]++zcD (ndI n)
 else if ndK n=4 then putS zaW [ndC n]++zcD (ndI n)
 else if ndK n=5 then putS za7 []++zcD (ndI n)
 else if ndK n=6 then putS zcP [ndC n]++zcD (ndI n)
 else if ndK n=7 then putS wNth [ndC n,ndN n,ndM n]++putS (zcS (ndL n)) []
 else if ndK n=18 then putS (wAt++ndS n) []
 else []
def zc8 (b:List UInt8) (n:Nd):List UInt8:=
 if ndK n=11 then putS (spW zdQ) [ndN n]
 else if ndK n=12 then putS (spW zfM) [ndN n]
 else if ndK n=13 then putS (spW zdP) [ndN n]
 else if ndK n=14 then putS (spW zek) []++zcD (ndI n)
 else if ndK n=15 then putS (spW zbX) []++zcD (ndI n)
 else if ndK n=16 then putS (spW wPos) [ndC n]++(putS (zcS (ndM n)) []++zcD (ndI n))
 else if ndK n=17 then putS (spW zbG) [ndN n]++(putS (spW wOf++ [32]) []++b)
 else []
def opWd (x:Int):List UInt8:=(opsL.getD (x - 1).toNat ([],0,())).1
def zax (r:List Nd) (i:Int):Nd:=r.getD i.toNat zNd
def parS (c:Bool) (t:List UInt8):List UInt8:=if c then t else [40]++(t++ [41])
def zdl:Nat->List Nd->Int->List UInt8
 |0,_,_=>[]
 |k+1,r,i=>
  if levS (ndK (zax r i)) < 4 then
   parS (decide (levS (ndK (zax r (ndL (zax r i))))≥levS (ndK (zax r i)))) (zdl k r (ndL (zax r i)))++(putS ([32]++opWd (levS (ndK (zax r i)))++ [32]) []++parS (decide (levS (ndK (zax r (ndR (zax r i))))≥levS (ndK (zax r i))+1)) (zdl k r (ndR (zax r i))))
  else if levS (ndK (zax r i))=4 then
   parS (decide (levS (ndK (zax r (ndL (zax r i))))≥4)) (zdl k r (ndL (zax r i)))++zc8 (parS (decide (levS (ndK (zax r (ndR (zax r i))))≥5)) (zdl k r (ndR (zax r i)))) (zax r i)
  else zeN (zax r i)
def opdF (k:Nat) (r:List Nd) (i req:Int):List UInt8:=parS (decide (levS (ndK (zax r i))≥req)) (zdl k r i)
def zlI (n:Nd):Prop:=(zcn (ndC n)∧zcn (ndN n)∧zcn (ndM n))∧(∀ x∈ndI n,zcn x)∧(ndI n).length≤100∧(ndS n).length≤100∧(ndK n=7->0≤ndL n∧ndL n≤1)∧(ndK n=16->0≤ndM n∧ndM n≤1)
def idx {α:Type} (f:α->Bool) (l:List α):Int:=if l.findIdx f < l.length then (l.findIdx f:Int) else -1
theorem zni {α:Type} {f:α->Bool} {l:List α} (h:∀ k (hk:k < l.length),f l[k]=false):idx f l= -1:=by
 unfold idx;rw[if_neg];intro hl;have:=kx (w:=hl);rw[h _ hl]at this;cases this
theorem znh {α:Type} {f:α->Bool} {l:List α} {k:Nat} (hk:k < l.length) (h:f l[k]=true) (hb:∀ j (hj:j < k),f (l[j]'(Nat.lt_trans hj hk))=false):idx f l=(k:Int):=by
 have:l.findIdx f=k:=by
  rw[List.findIdx_eq hk];exact⟨h,fun j hj=>hb j hj⟩
 unfold idx;rw[this,if_pos hk]
theorem zqk {α:Type} (f:α->Bool) (l:List α):decide (idx f l≥0)=l.any f:=by
 rw[yb,decide_eq_true_iff,List.any_eq_true];unfold idx;constructor
 ·intro h;split at h
  ·rename_i hl;exact⟨l[l.findIdx f],xU hl,kx (w:=hl)⟩
  ·omega
 ·rintro ⟨x,hx,hf⟩;rw[if_pos (List.findIdx_lt_length_of_exists ⟨x,hx,hf⟩)];omega
def inB (n lo hi:Int):Bool:=decide (lo≤n)&&decide (n≤hi)
def zbx:Ctr:={ args:=[i64,i64,i64],pre:=fun _=>[],res:=.bool,own:=none,out:=fun x=>inB x.1 x.2.1 x.2.2.1 }
theorem zkn:yB Tryz.prog gmH 119 zbx:=by
 refine zap (K:=gmK) zak Tryz.func119 rfl rfl Tryz.call119 rfl (by decide) (by intro h;cases h) ?_;rintro w0 X hX ⟨(n:Int),(lo:Int),(hi:Int),_⟩ hp;change AWP _ _ _ _ _ ⟨[(0,⟨i64,n⟩),(1,⟨i64,lo⟩),(2,⟨i64,hi⟩)],[],0⟩ _;refine za (za ?_);refine zaa hX zak rfl ?_ ?_
 ·trivial
 refine za (za ?_);refine zaa hX zak rfl ?_ ?_
 ·repeat'(first|exact trivial|assumption|(refine⟨?_,?_⟩)|(intro _))
 refine zm ⟨.inr rfl,zas rfl trivial rfl rfl ?_⟩;show (bif decide (lo≤n) then decide (n≤hi) else false)=inB n lo hi;unfold inB;cases decide (lo≤n)<;>rfl
def not1 (n:Int):Bool:=!(n==1)
def cNot1:Ctr:={ args:=[i64],pre:=fun _=>[],res:=.bool,own:=none,out:=fun x=>not1 x.1 }
theorem ztY:yB Tryz.prog gmH 124 cNot1:=by
 refine zap (K:=gmK) zak Tryz.func124 rfl rfl Tryz.call124 rfl (by decide) (by intro h;cases h) ?_;rintro w0 X hX ⟨(n:Int),_⟩ hp;change AWP _ _ _ _ _ ⟨[(0,⟨i64,n⟩)],[],0⟩ _;(repeat(first|apply zae|apply zab|apply zal|apply zad|apply zac|refine zaa hX zak rfl trivial ?_|refine zaa hX zak rfl id ?_|refine zaa hX zak rfl ⟨id,id⟩ ?_));refine zm ⟨.inr rfl,zas rfl trivial rfl rfl ?_⟩;rfl
def bigN (n:Nd):Bool:=decide (((n.2.2.2.2.2.2.1.length:Nat):Int) > 64)||decide (((n.2.2.2.2.2.2.2.1.length:Nat):Int) > 32)
def cBigN:Ctr:={ args:=[nd],pre:=fun _=>[],res:=.bool,own:=none,out:=fun x=>bigN x.1 }
theorem zu3:yB Tryz.prog gmH 70 cBigN:=by
 refine zap (K:=gmK) zak Tryz.func70 rfl rfl Tryz.call70 rfl (by decide) (by intro h;cases h) ?_;rintro w0 X hX ⟨(n:Nd),_⟩ hp;change AWP _ _ _ _ _ ⟨[(0,⟨nd,n⟩)],[],0⟩ _;refine za (za ?_);refine zaa hX zak rfl ?_ ?_
 ·trivial
 refine za (za ?_);refine zaa hX zak rfl ?_ ?_
 ·repeat'(first|exact trivial|assumption|(refine⟨?_,?_⟩)|(intro _))
 refine zm ⟨.inr rfl,zas rfl trivial rfl rfl ?_⟩;show (bif decide (((n.2.2.2.2.2.2.1.length:Nat):Int) > 64) then true else decide (((n.2.2.2.2.2.2.2.1.length:Nat):Int) > 32))=bigN n;unfold bigN;cases decide (((n.2.2.2.2.2.2.1.length:Nat):Int) > 64)<;>rfl
def litN:zg:=.func (.func 70) #[] #[]
def litU:zg:=.func (.func 124) #[] #[]
def cIdxR:Ctr:={ args:=[.slice nd,.lit],pre:=fun x=>[x.2.1=litN],res:=i64,own:=none,out:=fun x=>idx bigN x.1 }
def kIdxR:Kn:={ gmK with C:=[(70,cBigN)] }
theorem zcg:KnOk Tryz.prog gmH kIdxR:=zak.with (.cons zu3 .nil)
theorem zuj:yB Tryz.prog gmH 118 cIdxR:=by
 refine zap (K:=kIdxR) zcg Tryz.func118 rfl rfl Tryz.call118 rfl (by decide) (by intro h;cases h) ?_;rintro w0 X hX ⟨(l:List Nd),(f:zg),_⟩ hp;obtain rfl:f=litN:=hp;change AWP _ _ _ _ _ ⟨[(0,⟨.slice nd,l⟩),(1,⟨.lit,litN⟩)],[],0⟩ _;refine AWP.len 0 rfl fun hl=>?_;unfold maxLen at hl;(repeat(first|apply zae|apply zab|apply zal|apply zad|apply zac|refine zaa hX zcg rfl trivial ?_|refine zaa hX zcg rfl id ?_|refine zaa hX zcg rfl ⟨id,id⟩ ?_));refine yD (ι:=Nat) (fun k=>⟨[(0,⟨.slice nd,l⟩),(1,⟨.lit,litN⟩),(7,⟨i64,((l.length:Nat):Int)⟩),(8,⟨i64,(k:Int)⟩)],[],0⟩) (fun k=>k≤l.length∧∀ j (hj:j < l.length),j < k->bigN l[j]=false) (fun k=>l.length - k) 0 ⟨by omega,by omega⟩ ⟨⟨rfl,rfl,rfl,rfl,trivial⟩,trivial,rfl,rfl⟩ ?_;rintro k ⟨hk,hn⟩;refine za (za ?_);refine zaa hX zcg rfl ?_ ?_
 ·trivial
 apply zae;refine zaf rfl (fun hb=>?_) (fun hb=>?_)
 ·have hb:decide ((k:Int) < (l.length:Nat))=true:=hb;have hb:=of_decide_eq_true hb;have hlt:k < l.length:=by omega
  have n0:(0:Int)≤(k:Int):=by omega
  refine za (za ?_);refine zaa hX zcg rfl ?_ ?_
  ·trivial
  refine za (za ?_);refine zaa hX zcg rfl ?_ ?_
  ·exact⟨n0,hb⟩
  refine zaf rfl (fun hb=>?_) (fun hb=>?_)
  ·have hc:bigN (l.getD (k:Int).toNat zNd)=true:=hb;rw[zaM hlt]at hc;(repeat(first|apply zae|apply zab|apply zal|apply zad|apply zac|refine zaa hX zcg rfl trivial ?_|refine zaa hX zcg rfl id ?_|refine zaa hX zcg rfl ⟨id,id⟩ ?_));refine zm ⟨.inr rfl,zas rfl trivial rfl rfl ?_⟩;show (k:Int)=idx _ l;exact (znh hlt hc fun j hj=>hn j _ hj).symm
  ·have hc:bigN (l.getD (k:Int).toNat zNd)=false:=hb;rw[zaM hlt]at hc;refine za (za ?_);refine zaa hX zcg rfl ?_ ?_
   ·exact zaZ (by omega)
   exact⟨k+1,⟨by omega,fun j hj hlt=>by
    by_cases e:j=k
    ·subst e;exact hc
    ·exact hn j hj (by omega)⟩,by omega,⟨rfl,rfl,rfl,zdM _,trivial⟩,trivial,rfl,rfl⟩
 ·have hb:decide ((k:Int) < (l.length:Nat))=false:=hb;have hb:=of_decide_eq_false hb;have:k=l.length:=by omega
  subst this;(repeat(first|apply zae|apply zab|apply zal|apply zad|apply zac|refine zaa hX zcg rfl trivial ?_|refine zaa hX zcg rfl id ?_|refine zaa hX zcg rfl ⟨id,id⟩ ?_));refine zm ⟨.inr rfl,zas rfl trivial rfl rfl ?_⟩;show (-1:Int)=idx _ l;exact (zni fun j hj=>hn j hj hj).symm
def cAnyR:Ctr:={ args:=[.slice nd,.lit],pre:=fun x=>[x.2.1=litN],res:=.bool,own:=none,out:=fun x=>List.any x.1 bigN }
def kAnyR:Kn:={ gmK with C:=[(118,cIdxR)] }
theorem zga:KnOk Tryz.prog gmH kAnyR:=zak.with (.cons zuj .nil)
theorem zva:yB Tryz.prog gmH 71 cAnyR:=by
 refine zap (K:=kAnyR) zga Tryz.func71 rfl rfl Tryz.call71 rfl (by decide) (by intro h;cases h) ?_;rintro w0 X hX ⟨(l:List Nd),(f:zg),_⟩ hp;obtain rfl:f=litN:=hp;change AWP _ _ _ _ _ ⟨[(0,⟨.slice nd,l⟩),(1,⟨.lit,litN⟩)],[],0⟩ _;(repeat(first|apply zae|apply zab|apply zal|apply zad|apply zac|refine zaa hX zga rfl trivial ?_|refine zaa hX zga rfl id ?_|refine zaa hX zga rfl ⟨id,id⟩ ?_));refine za (za ?_);refine zaa hX zga rfl ?_ ?_
 ·exact rfl
 refine zm ⟨.inr rfl,zas rfl trivial rfl rfl ?_⟩;exact zqk _ l
def cIdxU:Ctr:={ args:=[.slice i64,.lit],pre:=fun x=>[x.2.1=litU],res:=i64,own:=none,out:=fun x=>idx not1 x.1 }
def kIdxU:Kn:={ gmK with C:=[(124,cNot1)] }
theorem zcf:KnOk Tryz.prog gmH kIdxU:=zak.with (.cons ztY .nil)
theorem zui:yB Tryz.prog gmH 157 cIdxU:=by
 refine zap (K:=kIdxU) zcf Tryz.func157 rfl rfl Tryz.call157 rfl (by decide) (by intro h;cases h) ?_;rintro w0 X hX ⟨(l:List Int),(f:zg),_⟩ hp;obtain rfl:f=litU:=hp;change AWP _ _ _ _ _ ⟨[(0,⟨.slice i64,l⟩),(1,⟨.lit,litU⟩)],[],0⟩ _;refine AWP.len 0 rfl fun hl=>?_;unfold maxLen at hl;(repeat(first|apply zae|apply zab|apply zal|apply zad|apply zac|refine zaa hX zcf rfl trivial ?_|refine zaa hX zcf rfl id ?_|refine zaa hX zcf rfl ⟨id,id⟩ ?_));refine yD (ι:=Nat) (fun k=>⟨[(0,⟨.slice i64,l⟩),(1,⟨.lit,litU⟩),(7,⟨i64,((l.length:Nat):Int)⟩),(8,⟨i64,(k:Int)⟩)],[],0⟩) (fun k=>k≤l.length∧∀ j (hj:j < l.length),j < k->not1 l[j]=false) (fun k=>l.length - k) 0 ⟨by omega,by omega⟩ ⟨⟨rfl,rfl,rfl,rfl,trivial⟩,trivial,rfl,rfl⟩ ?_;rintro k ⟨hk,hn⟩;refine za (za ?_);refine zaa hX zcf rfl ?_ ?_
 ·trivial
 apply zae;refine zaf rfl (fun hb=>?_) (fun hb=>?_)
 ·have hb:decide ((k:Int) < (l.length:Nat))=true:=hb;have hb:=of_decide_eq_true hb;have hlt:k < l.length:=by omega
  have n0:(0:Int)≤(k:Int):=by omega
  refine za (za ?_);refine zaa hX zcf rfl ?_ ?_
  ·trivial
  refine za (za ?_);refine zaa hX zcf rfl ?_ ?_
  ·exact⟨n0,hb⟩
  refine zaf rfl (fun hb=>?_) (fun hb=>?_)
  ·have hc:not1 (l.getD (k:Int).toNat (0:Int))=true:=hb;rw[zaM hlt]at hc;(repeat(first|apply zae|apply zab|apply zal|apply zad|apply zac|refine zaa hX zcf rfl trivial ?_|refine zaa hX zcf rfl id ?_|refine zaa hX zcf rfl ⟨id,id⟩ ?_));refine zm ⟨.inr rfl,zas rfl trivial rfl rfl ?_⟩;show (k:Int)=idx _ l;exact (znh hlt hc fun j hj=>hn j _ hj).symm
  ·have hc:not1 (l.getD (k:Int).toNat (0:Int))=false:=hb;rw[zaM hlt]at hc;refine za (za ?_);refine zaa hX zcf rfl ?_ ?_
   ·exact zaZ (by omega)
   exact⟨k+1,⟨by omega,fun j hj hlt=>by
    by_cases e:j=k
    ·subst e;exact hc
    ·exact hn j hj (by omega)⟩,by omega,⟨rfl,rfl,rfl,zdM _,trivial⟩,trivial,rfl,rfl⟩
 ·have hb:decide ((k:Int) < (l.length:Nat))=false:=hb;have hb:=of_decide_eq_false hb;have:k=l.length:=by omega
  subst this;(repeat(first|apply zae|apply zab|apply zal|apply zad|apply zac|refine zaa hX zcf rfl trivial ?_|refine zaa hX zcf rfl id ?_|refine zaa hX zcf rfl ⟨id,id⟩ ?_));refine zm ⟨.inr rfl,zas rfl trivial rfl rfl ?_⟩;show (-1:Int)=idx _ l;exact (zni fun j hj=>hn j hj hj).symm
def cAnyU:Ctr:={ args:=[.slice i64,.lit],pre:=fun x=>[x.2.1=litU],res:=.bool,own:=none,out:=fun x=>List.any x.1 not1 }
def kAnyU:Kn:={ gmK with C:=[(157,cIdxU)] }
theorem zf9:KnOk Tryz.prog gmH kAnyU:=zak.with (.cons zui .nil)
theorem zu9:yB Tryz.prog gmH 123 cAnyU:=by
 refine zap (K:=kAnyU) zf9 Tryz.func123 rfl rfl Tryz.call123 rfl (by decide) (by intro h;cases h) ?_;rintro w0 X hX ⟨(l:List Int),(f:zg),_⟩ hp;obtain rfl:f=litU:=hp;change AWP _ _ _ _ _ ⟨[(0,⟨.slice i64,l⟩),(1,⟨.lit,litU⟩)],[],0⟩ _;(repeat(first|apply zae|apply zab|apply zal|apply zad|apply zac|refine zaa hX zf9 rfl trivial ?_|refine zaa hX zf9 rfl id ?_|refine zaa hX zf9 rfl ⟨id,id⟩ ?_));refine za (za ?_);refine zaa hX zf9 rfl ?_ ?_
 ·exact rfl
 refine zm ⟨.inr rfl,zas rfl trivial rfl rfl ?_⟩;exact zqk _ l
def zh2 (b:Int×Int×Unit):Bool:=b.1==0&&b.2.1==0
def ziB (l:List Int) (b:Int×Int×Unit) (i:Nat):Bool:=!inB (l.getD i 0) b.1 b.2.1||(decide (0 < i)&&decide (l.getD i 0≤l.getD (i - 1) 0))||(l.getD i 0==0&&decide (b.1 < 0))
def za3 (l:List Int) (b:Int×Int×Unit):Bool:=bif zh2 b then ((l.length:Nat):Int)==0 else (xz l.length).all (fun i=>!ziB l b i)&&decide (((l.length:Nat):Int) > 0)
theorem zm5 (b:Int×Int×Unit):eqb lims b (0,0,())=zh2 b:=by
 obtain⟨x,y,⟨⟩⟩:=b;unfold zh2;rw[yb,zay,zd,beq_iff_eq,beq_iff_eq];exact⟨fun h=>⟨congrArg (fun z=>z.1) h,congrArg (fun z=>z.2.1) h⟩,fun⟨h1,h2⟩=>by
  have h1:x=0:=h1;have h2:y=0:=h2;rw[h1,h2]⟩
def zqL:Ctr:={ args:=[ints,lims],pre:=fun _=>[],res:=.bool,own:=none,out:=fun x=>za3 x.1 x.2.1 }
def kVl:Kn:={ gmK with C:=[(119,zbx)] }
theorem zbd:KnOk Tryz.prog gmH kVl:=zak.with (.cons zkn .nil)
theorem zpV:yB Tryz.prog gmH 121 zqL:=by
 refine zap (K:=kVl) zbd Tryz.func121 rfl rfl Tryz.call121 rfl (by decide) (by intro h;cases h) ?_;rintro w0 X hX ⟨(l:List Int),(b:Int×Int×Unit),_⟩ hp;change AWP _ _ _ _ _ ⟨[(0,⟨ints,l⟩),(1,⟨lims,b⟩)],[],0⟩ _;refine AWP.len 0 rfl fun hl=>?_;unfold maxLen at hl;apply zae;refine za (za ?_);refine zaa hX zbd rfl ?_ ?_
 ·trivial
 refine za (za ?_);refine zaa hX zbd rfl ?_ ?_
 ·trivial
 refine zaf rfl (fun hb=>?_) (fun hb=>?_)
 ·have hb:zh2 b=true:=by rw[<-zm5];exact hb
  (repeat(first|apply zae|apply zab|apply zal|apply zad|apply zac|refine zaa hX zbd rfl trivial ?_|refine zaa hX zbd rfl id ?_|refine zaa hX zbd rfl ⟨id,id⟩ ?_));refine zm ⟨.inr rfl,zas rfl trivial rfl rfl ?_⟩;show _=za3 l b;unfold za3;rw[hb];rfl
 have hb:zh2 b=false:=by rw[<-zm5];exact hb
 (repeat(first|apply zae|apply zab|apply zal|apply zad|apply zac|refine zaa hX zbd rfl trivial ?_|refine zaa hX zbd rfl id ?_|refine zaa hX zbd rfl ⟨id,id⟩ ?_));refine yD (ι:=Nat) (fun k=>⟨[(0,⟨ints,l⟩),(3,⟨.optr lims,⟨0,lims,.here⟩⟩),(13,⟨ints,l⟩),(14,⟨i64,((l.length:Nat):Int)⟩),(15,⟨i64,(k:Int)⟩)],[(0,some (.box lims b))],1⟩) (fun k=>k≤l.length∧∀ j,j < k->ziB l b j=false) (fun k=>l.length - k) 0 ⟨by omega,by omega⟩ ⟨⟨rfl,rfl,rfl,rfl,rfl,trivial⟩,⟨rfl,trivial⟩,rfl,rfl⟩ ?_;rintro k ⟨hk,hn⟩;refine za (za ?_);refine zaa hX zbd rfl ?_ ?_
 ·trivial
 apply zae;refine zaf rfl (fun hb=>?_) (fun hb=>?_)
 ·have hb:decide ((k:Int) < (l.length:Nat))=true:=hb;have hb:=of_decide_eq_true hb;have hlt:k < l.length:=by omega
  have n0:(0:Int)≤(k:Int):=by omega
  refine za (za ?_);refine zaa hX zbd rfl ?_ ?_
  ·exact⟨n0,hb⟩
  refine za (za ?_);refine zaa hX zbd rfl ?_ ?_
  ·have i1:inR .i64 ((k:Int) - 1):=zaq (by omega) (by omega);have i2:(k:Int) - 1 < (l.length:Nat):=by omega
   have i3:decide ((k:Int) > 0)=true->0≤(k:Int) - 1:=fun h=>by have:=of_decide_eq_true h;omega
   cases zbx.out (l.getD ((k:Int)).toNat (zbk i64),b.fst,b.snd.fst,())<;>cases hD:decide ((k:Int) > 0)<;>cases (l.getD ((k:Int)).toNat (zbk i64)==0)<;>cases decide (l.getD ((k:Int)).toNat (zbk i64)≤l.getD ((k:Int) - 1).toNat (zbk i64))
   all_goals
    repeat'(first|exact trivial|assumption|exact i3 hD|rfl|(intro h;exact absurd h yM)|(refine⟨?_,?_⟩)|(intro _))
  have hq:decide ((k:Int) > 0)=decide (0 < k):=by rw[yb,decide_eq_true_iff,decide_eq_true_iff];omega
  have hq':((k:Int) - 1).toNat=k - 1:=by omega
  refine zaf rfl (fun hb=>?_) (fun hb=>?_)
  ·have hc:ziB l b k=true:=by
    rw[<-hb];unfold ziB;rw[<-hq, <-hq'];show (!zbx.out (l.getD ((k:Int)).toNat (zbk i64),b.fst,b.snd.fst,())||(decide ((k:Int) > 0)&&decide (l.getD ((k:Int)).toNat (zbk i64)≤l.getD ((k:Int) - 1).toNat (zbk i64)))||((l.getD ((k:Int)).toNat (zbk i64)==0)&&decide (b.1 < 0)))=_;cases zbx.out (l.getD ((k:Int)).toNat (zbk i64),b.fst,b.snd.fst,())<;>cases hD:decide ((k:Int) > 0)<;>cases (l.getD ((k:Int)).toNat (zbk i64)==0)<;>cases decide (l.getD ((k:Int)).toNat (zbk i64)≤l.getD ((k:Int) - 1).toNat (zbk i64))<;>cases decide (b.1 < 0)<;>rfl
   (repeat(first|apply zae|apply zab|apply zal|apply zad|apply zac|refine zaa hX zbd rfl trivial ?_|refine zaa hX zbd rfl id ?_|refine zaa hX zbd rfl ⟨id,id⟩ ?_));refine zm ⟨.inr rfl,zas rfl trivial rfl rfl ?_⟩;show false=za3 l b;unfold za3;rw[‹zh2 b=false›,show (xz l.length).all (fun i=>!ziB l b i)=false from ?_]
   ·rfl
   ·rw[qg];intro ha;have:=zW.1 ha k (List.mem_range.2 hlt);rw[hc]at this;cases this
  ·have hc:ziB l b k=false:=by
    rw[<-hb];unfold ziB;rw[<-hq, <-hq'];show (!zbx.out (l.getD ((k:Int)).toNat (zbk i64),b.fst,b.snd.fst,())||(decide ((k:Int) > 0)&&decide (l.getD ((k:Int)).toNat (zbk i64)≤l.getD ((k:Int) - 1).toNat (zbk i64)))||((l.getD ((k:Int)).toNat (zbk i64)==0)&&decide (b.1 < 0)))=_;cases zbx.out (l.getD ((k:Int)).toNat (zbk i64),b.fst,b.snd.fst,())<;>cases hD:decide ((k:Int) > 0)<;>cases (l.getD ((k:Int)).toNat (zbk i64)==0)<;>cases decide (l.getD ((k:Int)).toNat (zbk i64)≤l.getD ((k:Int) - 1).toNat (zbk i64))<;>cases decide (b.1 < 0)<;>rfl
   refine za (za ?_);refine zaa hX zbd rfl ?_ ?_
   ·exact zaZ (by omega)
   exact⟨k+1,⟨by omega,fun j hj=>by
    by_cases e:j=k
    ·subst e;exact hc
    ·exact hn j (by omega)⟩,by omega,⟨rfl,rfl,rfl,rfl,zdM _,trivial⟩,⟨rfl,trivial⟩,rfl,rfl⟩
 ·have hb:decide ((k:Int) < (l.length:Nat))=false:=hb;have hb:=of_decide_eq_false hb;have:k=l.length:=by omega
  subst this;(repeat(first|apply zae|apply zab|apply zal|apply zad|apply zac|refine zaa hX zbd rfl trivial ?_|refine zaa hX zbd rfl id ?_|refine zaa hX zbd rfl ⟨id,id⟩ ?_));refine zm ⟨.inr rfl,zas rfl trivial rfl rfl ?_⟩;show _=za3 l b;unfold za3;rw[‹zh2 b=false›,show (xz l.length).all (fun i=>!ziB l b i)=true from zW.2 fun i hi=>by rw[hn i (List.mem_range.1 hi)];rfl];rfl
def zdj (n:Nd):Bool:=
 bif n.1==1 then bif inB n.2.2.2.2.1 1 1099511627776 then inB n.2.2.2.2.2.1 0 1099511627776 else false
 else bif n.1==2 then bif inB n.2.2.2.2.1 1 400 then inB n.2.2.2.2.2.1 0 (n.2.2.2.2.1 - 1) else false
 else bif n.1==7 then bif (bif (bif inB n.2.2.2.2.1 (-60) 60 then !(n.2.2.2.2.1==0) else false) then inB n.2.2.2.2.2.1 0 6 else false) then inB n.2.2.1 0 1 else false
 else bif n.1==11 then bif inB n.2.2.2.2.1 (-1099511627776) 1099511627776 then n.2.2.2.2.2.1==0 else false
 else bif (n.1==12)||(n.1==13) then bif inB n.2.2.2.2.1 0 1099511627776 then n.2.2.2.2.2.1==0 else false
 else bif n.1==16 then bif n.2.2.2.2.1==0 then inB n.2.2.2.2.2.1 0 1 else false
 else bif n.1==17 then bif inB n.2.2.2.2.1 1 400 then n.2.2.2.2.2.1==0 else false
 else bif n.2.2.2.2.1==0 then n.2.2.2.2.2.1==0 else false
def cNumb:Ctr:={ args:=[nd],pre:=fun _=>[],res:=.bool,own:=none,out:=fun x=>zdj x.1 }
theorem ztW:yB Tryz.prog gmH 122 cNumb:=by
 refine zap (K:=kVl) zbd Tryz.func122 rfl rfl Tryz.call122 rfl (by decide) (by intro h;cases h) ?_;rintro w0 X hX ⟨(n:Nd),_⟩ hp;change AWP _ _ _ _ _ ⟨[(0,⟨nd,n⟩)],[],0⟩ _;apply zae;refine za (za ?_);refine zaa hX zbd rfl ?_ ?_
 ·trivial
 refine za (za ?_);refine zaa hX zbd rfl ?_ ?_
 ·trivial
 refine za (za ?_);refine zaa hX zbd rfl ?_ ?_
 ·trivial
 refine zaf rfl (fun h1=>?_) (fun h1=>?_)
 ·have h1:(n.1==1)=true:=h1;refine za (za ?_);refine zaa hX zbd rfl ?_ ?_
  ·have i0:zbx.out (n.2.2.2.2.1,(1:Int),(400:Int),())=true->inR .i64 (n.2.2.2.2.1 - 1):=fun h=>by
    have h:inB n.2.2.2.2.1 1 400=true:=h;unfold inB at h;rw[zd,decide_eq_true_iff,decide_eq_true_iff]at h;exact zaq (by omega) (by omega)
   cases hA:zbx.out (n.2.2.2.2.1,(1:Int),(1099511627776:Int),())
   all_goals
    repeat'(first|exact trivial|assumption|rfl|exact i0 rfl|exact i0 hA|(intro h;exact absurd h yM)|(refine⟨?_,?_⟩)|(intro _))
  refine zm ⟨.inr rfl,zas rfl trivial rfl rfl ?_⟩;show _=zdj n;simp only[zdj,h1,cond_true,cond_false,xX,qR,xK,xi]
  all_goals (first|rfl|(simp;done))
 have h1:(n.1==1)=false:=h1;refine za (za ?_);refine zaa hX zbd rfl ?_ ?_
 ·trivial
 refine zaf rfl (fun h2=>?_) (fun h2=>?_)
 ·have h2:(n.1==2)=true:=h2;refine za (za ?_);refine zaa hX zbd rfl ?_ ?_
  ·have i0:zbx.out (n.2.2.2.2.1,(1:Int),(400:Int),())=true->inR .i64 (n.2.2.2.2.1 - 1):=fun h=>by
    have h:inB n.2.2.2.2.1 1 400=true:=h;unfold inB at h;rw[zd,decide_eq_true_iff,decide_eq_true_iff]at h;exact zaq (by omega) (by omega)
   cases hA:zbx.out (n.2.2.2.2.1,(1:Int),(400:Int),())
   all_goals
    repeat'(first|exact trivial|assumption|rfl|exact i0 rfl|exact i0 hA|(intro h;exact absurd h yM)|(refine⟨?_,?_⟩)|(intro _))
  refine zm ⟨.inr rfl,zas rfl trivial rfl rfl ?_⟩;show _=zdj n;simp only[zdj,h1,h2,cond_true,cond_false,xX,qR,xK,xi]
  all_goals (first|rfl|(simp;done))
 have h2:(n.1==2)=false:=h2;refine za (za ?_);refine zaa hX zbd rfl ?_ ?_
 ·trivial
 refine zaf rfl (fun h7=>?_) (fun h7=>?_)
 ·have h7:(n.1==7)=true:=h7;refine za (za ?_);refine zaa hX zbd rfl ?_ ?_
  ·have i0:zbx.out (n.2.2.2.2.1,(1:Int),(400:Int),())=true->inR .i64 (n.2.2.2.2.1 - 1):=fun h=>by
    have h:inB n.2.2.2.2.1 1 400=true:=h;unfold inB at h;rw[zd,decide_eq_true_iff,decide_eq_true_iff]at h;exact zaq (by omega) (by omega)
   cases hA:zbx.out (n.2.2.2.2.1,(-60:Int),(60:Int),())<;>cases (n.2.2.2.2.1==0)<;>cases zbx.out (n.2.2.2.2.2.1,(0:Int),(6:Int),())
   all_goals
    repeat'(first|exact trivial|assumption|rfl|exact i0 rfl|exact i0 hA|(intro h;exact absurd h yM)|(refine⟨?_,?_⟩)|(intro _))
  refine zm ⟨.inr rfl,zas rfl trivial rfl rfl ?_⟩;show _=zdj n;simp only[zdj,h1,h2,h7,cond_true,cond_false,xX,qR,xK,xi]
  all_goals (first|rfl|(simp;done))
 have h7:(n.1==7)=false:=h7;refine za (za ?_);refine zaa hX zbd rfl ?_ ?_
 ·trivial
 refine zaf rfl (fun h11=>?_) (fun h11=>?_)
 ·have h11:(n.1==11)=true:=h11;refine za (za ?_);refine zaa hX zbd rfl ?_ ?_
  ·have i0:zbx.out (n.2.2.2.2.1,(1:Int),(400:Int),())=true->inR .i64 (n.2.2.2.2.1 - 1):=fun h=>by
    have h:inB n.2.2.2.2.1 1 400=true:=h;unfold inB at h;rw[zd,decide_eq_true_iff,decide_eq_true_iff]at h;exact zaq (by omega) (by omega)
   cases hA:zbx.out (n.2.2.2.2.1,(-1099511627776:Int),(1099511627776:Int),())
   all_goals
    repeat'(first|exact trivial|assumption|rfl|exact i0 rfl|exact i0 hA|(intro h;exact absurd h yM)|(refine⟨?_,?_⟩)|(intro _))
  refine zm ⟨.inr rfl,zas rfl trivial rfl rfl ?_⟩;show _=zdj n;simp only[zdj,h1,h2,h7,h11,cond_true,cond_false,xX,qR,xK,xi]
  all_goals (first|rfl|(simp;done))
 have h11:(n.1==11)=false:=h11;refine za (za ?_);refine zaa hX zbd rfl ?_ ?_
 ·trivial
 refine xM (σ':=⟨[(1,⟨.optr nd,⟨0,nd,.here⟩⟩),(4,⟨i64,n.1⟩),(58,⟨.bool,(n.1==12)||(n.1==13)⟩)],[(0,some (.box nd n))],1⟩) ?_ ?_
 ·refine zaf rfl (fun h=>?_) (fun h=>?_)
  ·have h:(n.1==12)=true:=h;apply zab;rw[h];exact⟨⟨rfl,rfl,rfl,trivial⟩,⟨rfl,trivial⟩,rfl,rfl⟩
  ·have h:(n.1==12)=false:=h;refine za (za ?_);refine zaa hX zbd rfl ?_ ?_
   ·trivial
   rw[h];exact⟨⟨rfl,rfl,rfl,trivial⟩,⟨rfl,trivial⟩,rfl,rfl⟩
 refine zaf rfl (fun h12=>?_) (fun h12=>?_)
 ·have h12:((n.1==12)||(n.1==13))=true:=h12;refine za (za ?_);refine zaa hX zbd rfl ?_ ?_
  ·have i0:zbx.out (n.2.2.2.2.1,(1:Int),(400:Int),())=true->inR .i64 (n.2.2.2.2.1 - 1):=fun h=>by
    have h:inB n.2.2.2.2.1 1 400=true:=h;unfold inB at h;rw[zd,decide_eq_true_iff,decide_eq_true_iff]at h;exact zaq (by omega) (by omega)
   cases hA:zbx.out (n.2.2.2.2.1,(0:Int),(1099511627776:Int),())
   all_goals
    repeat'(first|exact trivial|assumption|rfl|exact i0 rfl|exact i0 hA|(intro h;exact absurd h yM)|(refine⟨?_,?_⟩)|(intro _))
  refine zm ⟨.inr rfl,zas rfl trivial rfl rfl ?_⟩;show _=zdj n;simp only[zdj,h1,h2,h7,h11,h12,cond_true,cond_false,xX,qR,xK,xi]
  all_goals (first|rfl|(simp;done))
 have h12:((n.1==12)||(n.1==13))=false:=h12;refine za (za ?_);refine zaa hX zbd rfl ?_ ?_
 ·trivial
 refine zaf rfl (fun h16=>?_) (fun h16=>?_)
 ·have h16:(n.1==16)=true:=h16;refine za (za ?_);refine zaa hX zbd rfl ?_ ?_
  ·have i0:zbx.out (n.2.2.2.2.1,(1:Int),(400:Int),())=true->inR .i64 (n.2.2.2.2.1 - 1):=fun h=>by
    have h:inB n.2.2.2.2.1 1 400=true:=h;unfold inB at h;rw[zd,decide_eq_true_iff,decide_eq_true_iff]at h;exact zaq (by omega) (by omega)
   cases hA:(n.2.2.2.2.1==0)
   all_goals
    repeat'(first|exact trivial|assumption|rfl|exact i0 rfl|exact i0 hA|(intro h;exact absurd h yM)|(refine⟨?_,?_⟩)|(intro _))
  refine zm ⟨.inr rfl,zas rfl trivial rfl rfl ?_⟩;show _=zdj n;simp only[zdj,h1,h2,h7,h11,h12,h16,cond_true,cond_false,xX,qR,xK,xi]
  all_goals (first|rfl|(simp;done))
 have h16:(n.1==16)=false:=h16;refine za (za ?_);refine zaa hX zbd rfl ?_ ?_
 ·trivial
 refine zaf rfl (fun h17=>?_) (fun h17=>?_)
 ·have h17:(n.1==17)=true:=h17;refine za (za ?_);refine zaa hX zbd rfl ?_ ?_
  ·have i0:zbx.out (n.2.2.2.2.1,(1:Int),(400:Int),())=true->inR .i64 (n.2.2.2.2.1 - 1):=fun h=>by
    have h:inB n.2.2.2.2.1 1 400=true:=h;unfold inB at h;rw[zd,decide_eq_true_iff,decide_eq_true_iff]at h;exact zaq (by omega) (by omega)
   cases hA:zbx.out (n.2.2.2.2.1,(1:Int),(400:Int),())
   all_goals
    repeat'(first|exact trivial|assumption|rfl|exact i0 rfl|exact i0 hA|(intro h;exact absurd h yM)|(refine⟨?_,?_⟩)|(intro _))
  refine zm ⟨.inr rfl,zas rfl trivial rfl rfl ?_⟩;show _=zdj n;simp only[zdj,h1,h2,h7,h11,h12,h16,h17,cond_true,cond_false,xX,qR,xK,xi]
  all_goals (first|rfl|(simp;done))
 have h17:(n.1==17)=false:=h17;apply zab;refine za (za ?_);refine zaa hX zbd rfl ?_ ?_
 ·have i0:zbx.out (n.2.2.2.2.1,(1:Int),(400:Int),())=true->inR .i64 (n.2.2.2.2.1 - 1):=fun h=>by
   have h:inB n.2.2.2.2.1 1 400=true:=h;unfold inB at h;rw[zd,decide_eq_true_iff,decide_eq_true_iff]at h;exact zaq (by omega) (by omega)
  cases hA:(n.2.2.2.2.1==0)
  all_goals
   repeat'(first|exact trivial|assumption|rfl|exact i0 rfl|exact i0 hA|(intro h;exact absurd h yM)|(refine⟨?_,?_⟩)|(intro _))
 refine zm ⟨.inr rfl,zas rfl trivial rfl rfl ?_⟩;show _=zdj n;simp only[zdj,h1,h2,h7,h11,h12,h16,h17,cond_true,cond_false,xX,qR,xK,xi]
 all_goals (first|rfl|(simp;done))
section
variable {s:List UInt8}
def Er {α:Type} (s:List UInt8) (m:Except (Int×Int) α):Prop:=∀ er,m= .error er->0≤er.1∧er.1≤((s.length:Nat):Int)
theorem zaE {α β:Type} {m:Except (Int×Int) α} {f:α->Except (Int×Int) β} (h1:Er s m) (h2:∀ x,m= .ok x->Er s (f x)):Er s (m >>= f):=by
 intro er he;cases hm:m with
 |error e=>
  rw[hm]at he;have he:(.error e:Except (Int×Int) β)= .error er:=he;cases he;exact h1 _ hm
 |ok x=>
  rw[hm]at he;exact h2 x hm er he
theorem zdy {α:Type} {x:α}:Er s (.ok x:Except (Int×Int) α):=fun _ h=>by cases h
theorem zso {α:Type} {st:GSt} {e:Int} (h:GOk s st):Er s (.error (Tok.at st.1,e):Except (Int×Int) α):=fun er he=>by
 cases he;obtain⟨⟨⟨a1,a2,a3⟩,_⟩,_⟩:=h;exact⟨a1,by show Tok.at st.1≤_;omega⟩
theorem zcj {st:GSt} {b:Bool} {e:Int} (h:GOk s st):Er s (zaG st b e):=by
 unfold zaG;split
 ·exact zdy
 ·exact zso h
theorem zeV {st:GSt} {w:List UInt8} (h:GOk s st):Er s (za0 s st w):=zaE (zcj h) fun _ _=>zdy
theorem zgj {st:GSt} (h:GOk s st):Er s (zbj s st):=zaE (zcj h) fun _ _=>zdy
theorem zbU {st:GSt} {lo hi:Int} (h:GOk s st):Er s (zaR s st lo hi):=zaE (zcj h) fun _ _=>zaE (zcj h) fun _ _=>zdy
theorem znu {lo hi:Int} {z:Bool}:∀ (k:Nat) {st:GSt} {l:List Int},GOk s st->Er s (zci s lo hi z k st l)
 |0,_,_,h=>zso h
 |k+1,st,l,h=>by
  unfold zci;split
  ·exact zdy
  ·exact zaE (zcj h) fun _ _=>zaE (zcj h) fun _ _=>zaE (zcj h) fun _ _=>zaE (zbU h) fun p hp=>znu k (zan h hp).1.1
theorem zj3 {st:GSt} {lo hi:Int} {z:Bool} (h:GOk s st):Er s (zdc s st lo hi z):=
 zaE (zeV h) fun a ha=>zaE (znu _ (zbm h ha).1) fun p hp=>zaE (zeV (by
  rcases zii _ (zbm h ha).1 hp with e|k
  ·rw[e];exact (zbm h ha).1
  ·exact k.1)) fun _ _=>zdy
theorem znt {st:GSt} (h:GOk s st):Er s (zdt s st):=zaE (zcj h) fun _ _=>zdy
theorem zuG {st:GSt} (h:GOk s st):∀ w:LeafW,Er s (zcl s st w)
 | .days=>zaE (zbU h) fun p hp=>zaE (zbU (zan h hp).1.1) fun _ _=>zdy
 | .years=>zaE (zbU h) fun p hp=>zaE (zbU (zan h hp).1.1) fun q hq=>zaE (zbU (zan (zan h hp).1.1 hq).1.1) fun _ _=>zdy
 | .months| .monthdays| .weeks=>zaE (zbU h) fun p hp=>zaE (zj3 (zan h hp).1.1) fun _ _=>zdy
 | .weekdays=>zaE (zj3 h) fun _ _=>zdy
 | .nth=>zaE (zbU h) fun p hp=>zaE (zcj (zan h hp).1.1) fun _ _=>zaE (zbU (zan h hp).1.1) fun q hq=>zaE (zbU (zan (zan h hp).1.1 hq).1.1) fun r hr=>zaE (znt (zan (zan (zan h hp).1.1 hq).1.1 hr).1.1) fun _ _=>zdy
theorem zs5 {st:GSt} (h:GOk s st):∀ w:SufW,Er s (gSuf s st w)
 | .shift| .from_| .until_=>zaE (zbU h) fun _ _=>zdy
 | .also| .except_=>zaE (zj3 h) fun _ _=>zdy
 | .pos=>zaE (zbU h) fun p hp=>zaE (znt (zan h hp).1.1) fun q hq=>zaE (zj3 (zeb (zan h hp).1.1 hq).1) fun _ _=>zdy
 | .behind=>zaE (zbU h) fun p hp=>zaE (zeV (zan h hp).1.1) fun _ _=>zdy
theorem zdI {md:Md} {st st':GSt} (h:GOk s st) (k:Cons s st st' md):GOk s st':=by
 cases md with
 |bin i=>exact k.1
 |chain=>exact k.1
 |prim=>exact k.1
 |binL i t=>
  rcases k with rfl|k
  ·exact h
  ·exact k.1
 |chainL t=>
  rcases k with rfl|k
  ·exact h
  ·exact k.1
theorem zez:∀ (k:Nat) (md:Md) (st:GSt),GOk s st->Er s (prs s k md st)
 |0,_,_,h=>zso h
 |k+1,.bin i,st,h=>by
  unfold prs;rw[zbe];split
  ·exact zez k _ _ h
  ·exact zaE (zez k _ _ h) fun p hp=>zez k _ _ (zdI h (zcb k _ _ _ _ h hp))
 |k+1,.binL i t,st,h=>by
  unfold prs;rw[zbe];split
  ·rename_i hi;refine zaE (zgj h) fun a ha=>?_;have k1:=zaY h (zcY hi) ha;exact zaE (zez k _ _ k1.1) fun p hp=>zez k _ _ (zdI k1.1 (zcb k _ _ _ _ k1.1 hp))
  ·exact zdy
 |k+1,.chain,st,h=>by
  unfold prs;rw[zbe];exact zaE (zez k _ _ h) fun p hp=>zez k _ _ (zdI h (zcb k _ _ _ _ h hp))
 |k+1,.chainL t,st,h=>by
  unfold prs;rw[zbe];split
  ·rename_i hc;split
   ·exact zdy
   ·refine zaE (zgj h) fun a ha=>?_;have k1:=zaY h (by rw[hc];decide) ha;refine zaE (zs5 k1.1 _) fun p hp=>?_;have k2:=zdo k1.1 _ hp;exact zaE (zez k _ _ k2.1) fun q hq=>zez k _ _ (zdI k2.1 (zcb k _ _ _ _ k2.1 hq))
   ·refine zaE (zgj h) fun a ha=>?_;have k1:=zaY h (by rw[hc];decide) ha;refine zaE (zs5 k1.1 _) fun p hp=>?_;have k2:=zdo k1.1 _ hp;exact zez k _ _ k2.1
  ·exact zdy
 |k+1,.prim,st,h=>by
  unfold prs;rw[zbe];split
  ·rename_i hi;have k0:=zb2 h (zcY hi);exact zaE (zez k _ _ k0.1) fun p hp=>zaE (zeV (zdI k0.1 (zcb k _ _ _ _ k0.1 hp))) fun _ _=>zdy
  ·split
   ·exact zaE (zcj h) fun _ _=>zaE (zgj h) fun _ _=>zdy
   ·refine zaE (zcj h) fun u hu=>?_;have hc:=zbb hu;rw[beq_iff_eq]at hc;split
    ·exact zso h
    ·refine zaE (zgj h) fun a ha=>?_;have k1:=zaY h (by rw[hc];decide) ha;exact zaE (zuG k1.1 _) fun _ _=>zdy
theorem zuF {st:GSt} (h:GOk s st):Er s (zeC s st):=
 zaE (zez _ _ _ h) fun p hp=>zaE (zcj (zdI h (zcb _ _ _ _ _ h hp))) fun _ _=>zdy
end
abbrev Shp:=Int×Bool×(Int×Int×Unit)×Unit
end Go.Proofs.YtpeaigpfddalcaaGreatDoor
