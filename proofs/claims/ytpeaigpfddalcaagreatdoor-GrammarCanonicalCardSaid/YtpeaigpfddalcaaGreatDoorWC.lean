/-
  Texts of this claim, joined: what the statement's proof uses.
-/
import Derived.Test.YtpeaigpfddalcaaGreatDoorWB
namespace Go.Proofs.YtpeaigpfddalcaaGreatDoor
open Go Go.RowKit
set_option linter.unusedSimpArgs false
set_option linter.unusedVariables false
theorem AWP.via {P:Program} {w0:World} {X:Ownr} {n:Nat} {σ:AS} {Q:Exit->AS->Prop} {c d:Code} {σ':AS} (h1:AWP P w0 X n c σ (zkW (fun s=>Fit s σ') Q)) (h2:AWP P w0 X n d σ' Q) (hk:X.K≤σ'.nx:=by exact Nat.le_of_ble_eq_true rfl):AWP P w0 X n (.seq c d) σ Q:=
 zae <| AWP.mono h1 fun e s h=>by
  cases e with
  |normal=>exact zaq h h2 hk
  |_=>exact h
theorem AWP.viaQ {P:Program} {w0:World} {X:Ownr} {n:Nat} {σ:AS} {Q:Exit->AS->Prop} {c d:Code} {σ':AS} (h1:AWP P w0 X n c σ (zkW (fun s=>Fit s σ') Q)) (h2:AWP P w0 X n d σ' Q) (hk:X.K≤σ'.nx:=by exact Nat.le_of_ble_eq_true rfl):AWP P w0 X n c σ (zkW (fun s=>AWP P w0 X n d s Q) Q):=
 AWP.mono h1 fun e s h=>by
  cases e with
  |normal=>exact zaq h h2 hk
  |_=>exact h
set_option maxRecDepth 100000
theorem ztg:Tryz.prog.globalNamed "internal/strconv.uint64pow10"=some 5:=by kernel_rfl
def gmH (w:World):Prop:=Lib.TabIs Tryz.prog w "internal/strconv.uint64pow10" .u64 Lib.pow10Tab∧∃ ev,w.cell? ⟨4,0,none⟩=some ev∧(ev= .nilIface∨∃ te pe,ev= .iface te pe)
theorem zmf {w:World} (h:gmH w):5 < w.heap.size∧4 < w.heap.size:=by
 obtain⟨ht,ev,hc,_⟩:=h;have hl:∀ g:Nat,(∃ o:Obj,w.heap[g]? =some o)->g < w.heap.size:=fun g ⟨o,ho⟩=>(Array.getElem?_eq_some_iff.1 ho).1;refine⟨hl _ ?_,hl _ ?_⟩
 ·unfold Lib.TabIs World.var? at ht;rw[ztg]at ht;simp only[Option.bind_some]at ht;cases ho:w.heap[5]? with
  |none=>rw[ho]at ht;cases ht
  |some o=>exact⟨o,rfl⟩
 ·unfold World.cell? at hc;cases ho:w.heap[4]? with
  |none=>simp[ho]at hc
  |some o=>exact⟨o,rfl⟩
theorem zmg {R:Nat->Prop} {w w':World} (h1:¬ R 5) (h2:¬ R 4) (h:gmH w) (hk:Kept R w w'):gmH w':=by
 obtain⟨l1,l2⟩:=zmf h;obtain⟨ht,ev,hc,hev⟩:=h;refine⟨?_,ev,?_,hev⟩
 ·unfold Lib.TabIs World.var? at *;rw[ztg]at *;simp only[Option.bind_some]at *;rw[hk.block _ l1 h1];exact ht
 ·unfold World.cell? at *;rw[hk.block _ l2 h2];exact hc
theorem zhD (w w':World) (h:gmH w) (hb:Below w.heap.size w w'):gmH w':=zmg (R:=fun _=>False) (fun h=>h) (fun h=>h) h ⟨hb.os,hb.tape,hb.output,hb.size,fun k hk _=>hb.block k hk⟩
theorem zai:KnOk Tryz.prog gmH gmK:=⟨zgE,zgD,CsOk.nil,zhD,RsOk.nil⟩
def ginv (_:World) (R:Nat->Prop) (_:TypeId):Prop:=¬ R 5∧¬ R 4
theorem zaU:∀ w w' R (ty:TypeId),ginv w R ty->gmH w->Kept R w w'->gmH w':=fun _ _ _ _ h hg hk=>zmg h.1 h.2 hg hk
theorem zaH {w0:World} {X:Ownr} {ty:TypeId} (hX:X.Ok w0) (hG:X.G=gmH) (hi:ginv w0 X.R ty) {ty':TypeId}:∀ w R,(∀ g,R g->w0.heap.size≤g∨X.R g)->X.G w->ginv w R ty':=fun w R hR _=>by
 have h0:gmH w0:=by have:=hX.2.2 w0 (Kept.refl _ _);rwa[hG]at this
 obtain⟨l1,l2⟩:=zmf h0;refine⟨fun h=>?_,fun h=>?_⟩
 ·rcases hR _ h with h1|h1
  ·omega
  ·exact hi.1 h1
 ·rcases hR _ h with h1|h1
  ·omega
  ·exact hi.2 h1
theorem CtrOk.lift {f:FuncId} {c:Ctr} (h:CtrOk Tryz.prog gmG f c):CtrOk Tryz.prog gmH f c:=⟨h.1,fun w O xs vs hO hr hp _=>h.2 w O xs vs hO hr hp trivial⟩
theorem zcn (a b:Bool):(bif a then b else false)=(a&&b):=by cases a<;>rfl
theorem zgm (a b:Bool):(bif a then true else b)=(a||b):=by cases a<;>rfl
theorem u8eq (a b:UInt8):(((a.toNat:Nat):Int)==((b.toNat:Nat):Int))=(a==b):=by
 rw[Bool.eq_iff_iff,beq_iff_eq,beq_iff_eq, <-UInt8.toNat_inj];omega
theorem u8le (a b:UInt8):decide (((a.toNat:Nat):Int)≤((b.toNat:Nat):Int))=decide (a≤b):=by
 rw[Bool.eq_iff_iff,decide_eq_true_iff,decide_eq_true_iff,UInt8.le_iff_toNat_le];omega
def cLt:Ctr:={ args:=[u8],pre:=fun _=>[],res:=.bool,own:=none,out:=fun x=>isLt x.1 }
theorem zpg:CtrOk Tryz.prog gmG 111 cLt:=by
 refine zan (K:=gmK) zaM Tryz.func111 rfl rfl Tryz.call111 rfl (by decide) (by intro h;cases h) ?_;rintro w0 X hX ⟨(c:UInt8),_⟩ hp;change AWP _ _ _ _ _ ⟨[(0,⟨u8,c⟩)],[],0⟩ _;(repeat(first|apply zae|apply zac|apply zak|apply zad|apply zab|refine zaa hX zaM rfl trivial ?_|refine zaa hX zaM rfl id ?_|refine zaa hX zaM rfl ⟨id,id⟩ ?_));(repeat(first|apply zae|apply zac|apply zab|apply zad));refine zaa hX zaM rfl ?_ ?_
 ·repeat'(first|exact trivial|assumption|(refine⟨?_,?_⟩)|(intro _)|exact Nat.le_of_ble_eq_true rfl|exact Int.natCast_nonneg _|(simp_all [allP];done))
 refine AWP.ret ⟨.inr rfl,zat rfl trivial rfl rfl ?_⟩;show (bif decide ((((97:UInt8).toNat:Nat):Int)≤(((c|||32:UInt8).toNat:Nat):Int)) then decide ((((c|||32:UInt8).toNat:Nat):Int)≤(((122:UInt8).toNat:Nat):Int)) else false)=isLt c;simp only[zcn,u8le];rfl
def cDg:Ctr:={ args:=[u8],pre:=fun _=>[],res:=.bool,own:=none,out:=fun x=>isDg x.1 }
theorem zph:CtrOk Tryz.prog gmG 113 cDg:=by
 refine zan (K:=gmK) zaM Tryz.func113 rfl rfl Tryz.call113 rfl (by decide) (by intro h;cases h) ?_;rintro w0 X hX ⟨(c:UInt8),_⟩ hp;change AWP _ _ _ _ _ ⟨[(0,⟨u8,c⟩)],[],0⟩ _;(repeat(first|apply zae|apply zac|apply zak|apply zad|apply zab|refine zaa hX zaM rfl trivial ?_|refine zaa hX zaM rfl id ?_|refine zaa hX zaM rfl ⟨id,id⟩ ?_));refine AWP.ret ⟨.inr rfl,zat rfl trivial rfl rfl ?_⟩;show (bif decide ((((48:UInt8).toNat:Nat):Int)≤(((c:UInt8).toNat:Nat):Int)) then decide ((((c:UInt8).toNat:Nat):Int)≤(((57:UInt8).toNat:Nat):Int)) else false)=isDg c;simp only[zcn,u8le];rfl
def cWh:Ctr:={ args:=[u8],pre:=fun _=>[],res:=.bool,own:=none,out:=fun x=>isWh x.1 }
theorem zs7:CtrOk Tryz.prog gmG 53 cWh:=by
 refine zan (K:=gmK) zaM Tryz.func53 rfl rfl Tryz.call53 rfl (by decide) (by intro h;cases h) ?_;rintro w0 X hX ⟨(c:UInt8),_⟩ hp;change AWP _ _ _ _ _ ⟨[(0,⟨u8,c⟩)],[],0⟩ _;(repeat(first|apply zae|apply zac|apply zak|apply zad|apply zab|refine zaa hX zaM rfl trivial ?_|refine zaa hX zaM rfl id ?_|refine zaa hX zaM rfl ⟨id,id⟩ ?_));(repeat(first|apply zae|apply zac|apply zab|apply zad));refine zaa hX zaM rfl ?_ ?_
 ·repeat'(first|exact trivial|assumption|(refine⟨?_,?_⟩)|(intro _)|exact Nat.le_of_ble_eq_true rfl|exact Int.natCast_nonneg _|(simp_all [allP];done))
 refine AWP.ret ⟨.inr rfl,zat rfl trivial rfl rfl ?_⟩;show (bif (bif (bif (((c.toNat:Nat):Int)==(((32:UInt8).toNat:Nat):Int)) then true else (((c.toNat:Nat):Int)==(((9:UInt8).toNat:Nat):Int))) then true else (((c.toNat:Nat):Int)==(((10:UInt8).toNat:Nat):Int))) then true else (((c.toNat:Nat):Int)==(((13:UInt8).toNat:Nat):Int)))=isWh c;simp only[zgm,u8eq];rfl
def kTok1:Kn:={ gmK with C:=[(111,cLt),(113,cDg)] }
theorem zfD:KnOk Tryz.prog gmG kTok1:=zaM.with (.cons zpg <| .cons zph .nil)
def cPt:Ctr:={ args:=[u8],pre:=fun _=>[],res:=.bool,own:=none,out:=fun x=>isPt x.1 }
theorem zs8:CtrOk Tryz.prog gmG 112 cPt:=by
 refine zan (K:=kTok1) zfD Tryz.func112 rfl rfl Tryz.call112 rfl (by decide) (by intro h;cases h) ?_;rintro w0 X hX ⟨(c:UInt8),_⟩ hp;change AWP _ _ _ _ _ ⟨[(0,⟨u8,c⟩)],[],0⟩ _;(repeat(first|apply zae|apply zac|apply zak|apply zad|apply zab|refine zaa hX zfD rfl trivial ?_|refine zaa hX zfD rfl id ?_|refine zaa hX zfD rfl ⟨id,id⟩ ?_));(repeat(first|apply zae|apply zac|apply zab|apply zad));refine zaa hX zfD rfl ?_ ?_
 ·repeat'(first|exact trivial|assumption|(refine⟨?_,?_⟩)|(intro _)|exact Nat.le_of_ble_eq_true rfl|exact Int.natCast_nonneg _|(simp_all [allP];done))
 refine AWP.ret ⟨.inr rfl,zat rfl trivial rfl rfl ?_⟩;show (bif (bif isLt c then true else isDg c) then true else (((c.toNat:Nat):Int)==(((45:UInt8).toNat:Nat):Int)))=isPt c;simp only[zgm,u8eq];rfl
def ztN (p:UInt8->Bool):Ctr:={ args:=[u8],pre:=fun _=>[],res:=.bool,own:=none,out:=fun x=>p x.1 }
def zlC (f:FuncId) (p:UInt8->Bool):Ctr:={ args:=[.str,.lit],pre:=fun x=>[x.2.1= .func (.func f) #[] #[]],res:=i64,own:=none,out:=fun x=>((zbu p x.1:Nat):Int) }
theorem zeG {p:UInt8->Bool} {s:List UInt8} {k:Nat} (hk:k≤s.length) (h1:∀ j (hj:j < s.length),j < k->p s[j]=true) (h2:∀ h:k < s.length,p s[k]=false):zbu p s=k:=by
 unfold zbu;have e:s=s.take k++s.drop k:=(List.take_append_drop k s).symm;rw[e,List.takeWhile_append_of_pos]
 ·have:(s.drop k).takeWhile p=[]:=by
   by_cases h:k < s.length
   ·rw[List.drop_eq_getElem_cons h,List.takeWhile_cons,h2 h];rfl
   ·rw[List.drop_of_length_le (by omega)];rfl
  rw[this,List.append_nil,List.length_take];omega
 ·intro x hx;obtain⟨j,hj,rfl⟩:=List.mem_iff_getElem.1 hx;rw[List.length_take]at hj;rw[List.getElem_take];exact h1 j (by omega) (by omega)
def kSpWh:Kn:={ gmK with C:=[(53,ztN isWh)] }
theorem zb2:KnOk Tryz.prog gmG kSpWh:=zaM.with (.cons zs7 .nil)
theorem zjM:CtrOk Tryz.prog gmG 52 (zlC 53 isWh):=by
 refine zan (K:=kSpWh) zb2 Tryz.func52 rfl rfl Tryz.call52 rfl (by decide) (by intro h;cases h) ?_;rintro w0 X hX ⟨(s:List UInt8),(g:Value),_⟩ hp;obtain rfl:g= .func (.func 53) #[] #[]:=hp;change AWP _ _ _ _ _ ⟨[(0,⟨.str,s⟩),(1,⟨.lit,.func (.func 53) #[] #[]⟩)],[],0⟩ _;refine AWP.slen 0 rfl fun hl=>?_;unfold maxLen at hl;(repeat(first|apply zae|apply zac|apply zak|apply zad|apply zab|refine zaa hX zb2 rfl trivial ?_|refine zaa hX zb2 rfl id ?_|refine zaa hX zb2 rfl ⟨id,id⟩ ?_));refine AWP.loop (ι:=Nat) (fun k=>⟨[(0,⟨.str,s⟩),(1,⟨.lit,.func (.func 53) #[] #[]⟩),(5,⟨i64,(k:Int)⟩)],[],0⟩) (fun k=>k≤s.length∧∀ j (hj:j < s.length),j < k->isWh s[j]=true) (fun k=>s.length - k) 0 ⟨by omega,fun j _ h=>by omega⟩ ⟨⟨rfl,rfl,rfl,trivial⟩,trivial,rfl,rfl⟩ ?_;rintro k ⟨hk,hall⟩;(repeat(first|apply zae|apply zac|apply zab|apply zad));refine zaj ?_;refine AL.take 5 hX zb2 rfl trivial ?_;by_cases hlt:k < s.length
 ·refine AL.fit (σ':=⟨[(0,⟨.str,s⟩),(1,⟨.lit,.func (.func 53) #[] #[]⟩),(5,⟨i64,(k:Int)⟩),(10,⟨.bool,true⟩)],[],0⟩) ⟨⟨rfl,rfl,rfl,zc6 (decide_eq_true (by omega)),trivial⟩,trivial,rfl,rfl⟩ ?_;have n0:(0:Int)≤(k:Int):=by omega
  have n1:(k:Int) < ((s.length:Nat):Int):=by omega
  refine AL.all hX zb2 rfl ?_ ?_
  ·exact⟨fun _=>⟨rfl,rfl,n0,n1⟩,fun _=>rfl,fun _=>rfl⟩
  refine zaf rfl (fun hb=>?_) (fun hb=>?_)
  ·have hb:isWh (s.getD (k:Int).toNat 0)=true:=hb;rw[za0 hlt]at hb;apply zac;(repeat(first|apply zae|apply zac|apply zab|apply zad));refine zaa hX zb2 rfl ?_ ?_
   ·exact zaF (by omega)
   refine⟨k+1,⟨by omega,fun j hj hjk=>?_⟩,by omega,⟨rfl,rfl,zcg _,trivial⟩,trivial,rfl,rfl⟩;by_cases e:j=k
   ·subst e;exact hb
   ·exact hall j hj (by omega)
  ·have hb:isWh (s.getD (k:Int).toNat 0)=false:=hb;rw[za0 hlt]at hb;(repeat(first|apply zae|apply zac|apply zak|apply zad|apply zab|refine zaa hX zb2 rfl trivial ?_|refine zaa hX zb2 rfl id ?_|refine zaa hX zb2 rfl ⟨id,id⟩ ?_));refine AWP.ret ⟨.inr rfl,zat rfl trivial rfl rfl ?_⟩;show (k:Int)=((zbu isWh s:Nat):Int);rw[zeG hk hall fun _=>hb]
 ·refine AL.fit (σ':=⟨[(0,⟨.str,s⟩),(1,⟨.lit,.func (.func 53) #[] #[]⟩),(5,⟨i64,(k:Int)⟩),(10,⟨.bool,false⟩)],[],0⟩) ⟨⟨rfl,rfl,rfl,zc6 (decide_eq_false (by omega)),trivial⟩,trivial,rfl,rfl⟩ ?_;refine AL.guardF 4 10 true .bool false rfl rfl rfl rfl rfl rfl ?_;refine AL.guardF 4 10 true .bool false rfl rfl rfl rfl rfl rfl ?_;refine AL.guardF 4 10 true .bool false rfl rfl rfl rfl rfl rfl ?_;refine AL.guardF 4 10 true .bool false rfl rfl rfl rfl rfl rfl ?_;refine AL.guardF 4 10 true .bool false rfl rfl rfl rfl rfl rfl ?_;refine AL.all hX zb2 rfl id ?_;refine zaf rfl (fun hb=>absurd (show false=true from hb) (by decide)) (fun _=>?_);(repeat(first|apply zae|apply zac|apply zak|apply zad|apply zab|refine zaa hX zb2 rfl trivial ?_|refine zaa hX zb2 rfl id ?_|refine zaa hX zb2 rfl ⟨id,id⟩ ?_));refine AWP.ret ⟨.inr rfl,zat rfl trivial rfl rfl ?_⟩;show (k:Int)=((zbu isWh s:Nat):Int);rw[zeG hk hall fun h=>absurd h hlt]
def kSpDg:Kn:={ gmK with C:=[(113,ztN isDg)] }
theorem zb4:KnOk Tryz.prog gmG kSpDg:=zaM.with (.cons zph .nil)
theorem znW:CtrOk Tryz.prog gmG 52 (zlC 113 isDg):=by
 refine zan (K:=kSpDg) zb4 Tryz.func52 rfl rfl Tryz.call52 rfl (by decide) (by intro h;cases h) ?_;rintro w0 X hX ⟨(s:List UInt8),(g:Value),_⟩ hp;obtain rfl:g= .func (.func 113) #[] #[]:=hp;change AWP _ _ _ _ _ ⟨[(0,⟨.str,s⟩),(1,⟨.lit,.func (.func 113) #[] #[]⟩)],[],0⟩ _;refine AWP.slen 0 rfl fun hl=>?_;unfold maxLen at hl;(repeat(first|apply zae|apply zac|apply zak|apply zad|apply zab|refine zaa hX zb4 rfl trivial ?_|refine zaa hX zb4 rfl id ?_|refine zaa hX zb4 rfl ⟨id,id⟩ ?_));refine AWP.loop (ι:=Nat) (fun k=>⟨[(0,⟨.str,s⟩),(1,⟨.lit,.func (.func 113) #[] #[]⟩),(5,⟨i64,(k:Int)⟩)],[],0⟩) (fun k=>k≤s.length∧∀ j (hj:j < s.length),j < k->isDg s[j]=true) (fun k=>s.length - k) 0 ⟨by omega,fun j _ h=>by omega⟩ ⟨⟨rfl,rfl,rfl,trivial⟩,trivial,rfl,rfl⟩ ?_;rintro k ⟨hk,hall⟩;(repeat(first|apply zae|apply zac|apply zab|apply zad));refine zaj ?_;refine AL.take 5 hX zb4 rfl trivial ?_;by_cases hlt:k < s.length
 ·refine AL.fit (σ':=⟨[(0,⟨.str,s⟩),(1,⟨.lit,.func (.func 113) #[] #[]⟩),(5,⟨i64,(k:Int)⟩),(10,⟨.bool,true⟩)],[],0⟩) ⟨⟨rfl,rfl,rfl,zc6 (decide_eq_true (by omega)),trivial⟩,trivial,rfl,rfl⟩ ?_;have n0:(0:Int)≤(k:Int):=by omega
  have n1:(k:Int) < ((s.length:Nat):Int):=by omega
  refine AL.all hX zb4 rfl ?_ ?_
  ·exact⟨fun _=>⟨rfl,rfl,n0,n1⟩,fun _=>rfl,fun _=>rfl⟩
  refine zaf rfl (fun hb=>?_) (fun hb=>?_)
  ·have hb:isDg (s.getD (k:Int).toNat 0)=true:=hb;rw[za0 hlt]at hb;apply zac;(repeat(first|apply zae|apply zac|apply zab|apply zad));refine zaa hX zb4 rfl ?_ ?_
   ·exact zaF (by omega)
   refine⟨k+1,⟨by omega,fun j hj hjk=>?_⟩,by omega,⟨rfl,rfl,zcg _,trivial⟩,trivial,rfl,rfl⟩;by_cases e:j=k
   ·subst e;exact hb
   ·exact hall j hj (by omega)
  ·have hb:isDg (s.getD (k:Int).toNat 0)=false:=hb;rw[za0 hlt]at hb;(repeat(first|apply zae|apply zac|apply zak|apply zad|apply zab|refine zaa hX zb4 rfl trivial ?_|refine zaa hX zb4 rfl id ?_|refine zaa hX zb4 rfl ⟨id,id⟩ ?_));refine AWP.ret ⟨.inr rfl,zat rfl trivial rfl rfl ?_⟩;show (k:Int)=((zbu isDg s:Nat):Int);rw[zeG hk hall fun _=>hb]
 ·refine AL.fit (σ':=⟨[(0,⟨.str,s⟩),(1,⟨.lit,.func (.func 113) #[] #[]⟩),(5,⟨i64,(k:Int)⟩),(10,⟨.bool,false⟩)],[],0⟩) ⟨⟨rfl,rfl,rfl,zc6 (decide_eq_false (by omega)),trivial⟩,trivial,rfl,rfl⟩ ?_;refine AL.guardF 4 10 true .bool false rfl rfl rfl rfl rfl rfl ?_;refine AL.guardF 4 10 true .bool false rfl rfl rfl rfl rfl rfl ?_;refine AL.guardF 4 10 true .bool false rfl rfl rfl rfl rfl rfl ?_;refine AL.guardF 4 10 true .bool false rfl rfl rfl rfl rfl rfl ?_;refine AL.guardF 4 10 true .bool false rfl rfl rfl rfl rfl rfl ?_;refine AL.all hX zb4 rfl id ?_;refine zaf rfl (fun hb=>absurd (show false=true from hb) (by decide)) (fun _=>?_);(repeat(first|apply zae|apply zac|apply zak|apply zad|apply zab|refine zaa hX zb4 rfl trivial ?_|refine zaa hX zb4 rfl id ?_|refine zaa hX zb4 rfl ⟨id,id⟩ ?_));refine AWP.ret ⟨.inr rfl,zat rfl trivial rfl rfl ?_⟩;show (k:Int)=((zbu isDg s:Nat):Int);rw[zeG hk hall fun h=>absurd h hlt]
def kSpPt:Kn:={ gmK with C:=[(112,ztN isPt)] }
theorem zb3:KnOk Tryz.prog gmG kSpPt:=zaM.with (.cons zs8 .nil)
theorem znV:CtrOk Tryz.prog gmG 52 (zlC 112 isPt):=by
 refine zan (K:=kSpPt) zb3 Tryz.func52 rfl rfl Tryz.call52 rfl (by decide) (by intro h;cases h) ?_;rintro w0 X hX ⟨(s:List UInt8),(g:Value),_⟩ hp;obtain rfl:g= .func (.func 112) #[] #[]:=hp;change AWP _ _ _ _ _ ⟨[(0,⟨.str,s⟩),(1,⟨.lit,.func (.func 112) #[] #[]⟩)],[],0⟩ _;refine AWP.slen 0 rfl fun hl=>?_;unfold maxLen at hl;(repeat(first|apply zae|apply zac|apply zak|apply zad|apply zab|refine zaa hX zb3 rfl trivial ?_|refine zaa hX zb3 rfl id ?_|refine zaa hX zb3 rfl ⟨id,id⟩ ?_));refine AWP.loop (ι:=Nat) (fun k=>⟨[(0,⟨.str,s⟩),(1,⟨.lit,.func (.func 112) #[] #[]⟩),(5,⟨i64,(k:Int)⟩)],[],0⟩) (fun k=>k≤s.length∧∀ j (hj:j < s.length),j < k->isPt s[j]=true) (fun k=>s.length - k) 0 ⟨by omega,fun j _ h=>by omega⟩ ⟨⟨rfl,rfl,rfl,trivial⟩,trivial,rfl,rfl⟩ ?_;rintro k ⟨hk,hall⟩;(repeat(first|apply zae|apply zac|apply zab|apply zad));refine zaj ?_;refine AL.take 5 hX zb3 rfl trivial ?_;by_cases hlt:k < s.length
 ·refine AL.fit (σ':=⟨[(0,⟨.str,s⟩),(1,⟨.lit,.func (.func 112) #[] #[]⟩),(5,⟨i64,(k:Int)⟩),(10,⟨.bool,true⟩)],[],0⟩) ⟨⟨rfl,rfl,rfl,zc6 (decide_eq_true (by omega)),trivial⟩,trivial,rfl,rfl⟩ ?_;have n0:(0:Int)≤(k:Int):=by omega
  have n1:(k:Int) < ((s.length:Nat):Int):=by omega
  refine AL.all hX zb3 rfl ?_ ?_
  ·exact⟨fun _=>⟨rfl,rfl,n0,n1⟩,fun _=>rfl,fun _=>rfl⟩
  refine zaf rfl (fun hb=>?_) (fun hb=>?_)
  ·have hb:isPt (s.getD (k:Int).toNat 0)=true:=hb;rw[za0 hlt]at hb;apply zac;(repeat(first|apply zae|apply zac|apply zab|apply zad));refine zaa hX zb3 rfl ?_ ?_
   ·exact zaF (by omega)
   refine⟨k+1,⟨by omega,fun j hj hjk=>?_⟩,by omega,⟨rfl,rfl,zcg _,trivial⟩,trivial,rfl,rfl⟩;by_cases e:j=k
   ·subst e;exact hb
   ·exact hall j hj (by omega)
  ·have hb:isPt (s.getD (k:Int).toNat 0)=false:=hb;rw[za0 hlt]at hb;(repeat(first|apply zae|apply zac|apply zak|apply zad|apply zab|refine zaa hX zb3 rfl trivial ?_|refine zaa hX zb3 rfl id ?_|refine zaa hX zb3 rfl ⟨id,id⟩ ?_));refine AWP.ret ⟨.inr rfl,zat rfl trivial rfl rfl ?_⟩;show (k:Int)=((zbu isPt s:Nat):Int);rw[zeG hk hall fun _=>hb]
 ·refine AL.fit (σ':=⟨[(0,⟨.str,s⟩),(1,⟨.lit,.func (.func 112) #[] #[]⟩),(5,⟨i64,(k:Int)⟩),(10,⟨.bool,false⟩)],[],0⟩) ⟨⟨rfl,rfl,rfl,zc6 (decide_eq_false (by omega)),trivial⟩,trivial,rfl,rfl⟩ ?_;refine AL.guardF 4 10 true .bool false rfl rfl rfl rfl rfl rfl ?_;refine AL.guardF 4 10 true .bool false rfl rfl rfl rfl rfl rfl ?_;refine AL.guardF 4 10 true .bool false rfl rfl rfl rfl rfl rfl ?_;refine AL.guardF 4 10 true .bool false rfl rfl rfl rfl rfl rfl ?_;refine AL.guardF 4 10 true .bool false rfl rfl rfl rfl rfl rfl ?_;refine AL.all hX zb3 rfl id ?_;refine zaf rfl (fun hb=>absurd (show false=true from hb) (by decide)) (fun _=>?_);(repeat(first|apply zae|apply zac|apply zak|apply zad|apply zab|refine zaa hX zb3 rfl trivial ?_|refine zaa hX zb3 rfl id ?_|refine zaa hX zb3 rfl ⟨id,id⟩ ?_));refine AWP.ret ⟨.inr rfl,zat rfl trivial rfl rfl ?_⟩;show (k:Int)=((zbu isPt s:Nat):Int);rw[zeG hk hall fun h=>absurd h hlt]
theorem zgq (c:UInt8) (r:List UInt8):zax (c::r)=if isLt c=true then zbu isPt (c::r) else 0:=rfl
def zjq:Ctr:={ args:=[.str],pre:=fun _=>[],res:=i64,own:=none,out:=fun x=>((zax x.1:Nat):Int) }
def kWl:Kn:={ gmK with C:=[(111,cLt),(52,zlC 112 isPt)] }
theorem zdK:KnOk Tryz.prog gmG kWl:=zaM.with (.cons zpg <| .cons znV .nil)
theorem zie:CtrOk Tryz.prog gmG 65 zjq:=by
 refine zan (K:=kWl) zdK Tryz.func65 rfl rfl Tryz.call65 rfl (by decide) (by intro h;cases h) ?_;rintro w0 X hX ⟨(s:List UInt8),_⟩ hp;change AWP _ _ _ _ _ ⟨[(0,⟨.str,s⟩)],[],0⟩ _;(repeat(first|apply zae|apply zac|apply zak|apply zad|apply zab|refine zaa hX zdK rfl trivial ?_|refine zaa hX zdK rfl id ?_|refine zaa hX zdK rfl ⟨id,id⟩ ?_));(repeat(first|apply zae|apply zac|apply zab|apply zad));refine zaj ?_;refine AL.take 3 hX zdK rfl trivial ?_;cases s with
 |nil=>
  refine AL.fit (σ':=⟨[(0,⟨.str,([]:List UInt8)⟩),(5,⟨.bool,true⟩)],[],0⟩) ⟨⟨rfl,zc6 (zbv.2 rfl),trivial⟩,trivial,rfl,rfl⟩ ?_;refine AL.guardF 2 5 false .bool false rfl rfl rfl rfl rfl rfl ?_;refine AL.guardF 2 5 false .bool false rfl rfl rfl rfl rfl rfl ?_;refine AL.guardF 2 5 false .bool false rfl rfl rfl rfl rfl rfl ?_;refine AL.guardF 2 5 false .bool false rfl rfl rfl rfl rfl rfl ?_;refine AL.all hX zdK rfl id ?_;refine zaf rfl (fun _=>?_) (fun hb=>absurd (show true=false from hb) (by decide));(repeat(first|apply zae|apply zac|apply zak|apply zad|apply zab|refine zaa hX zdK rfl trivial ?_|refine zaa hX zdK rfl id ?_|refine zaa hX zdK rfl ⟨id,id⟩ ?_));exact AWP.ret ⟨.inr rfl,zat rfl trivial rfl rfl rfl⟩
 |cons c r=>
  refine AL.fit (σ':=⟨[(0,⟨.str,(c::r:List UInt8)⟩),(5,⟨.bool,false⟩)],[],0⟩) ⟨⟨rfl,zc6 (Bool.eq_false_iff.2 fun h=>by cases zbv.1 h),trivial⟩,trivial,rfl,rfl⟩ ?_;have n1:(0:Int) < (((c::r).length:Nat):Int):=by rw[List.length_cons];omega
  refine AL.all hX zdK rfl ⟨fun _=>⟨rfl,Int.le_refl 0,n1⟩,fun _=>rfl,fun _=>rfl,fun _=>rfl⟩ ?_;refine zaf rfl (fun hb=>?_) (fun hb=>?_)
  ·have hb:(!isLt c)=true:=hb;(repeat(first|apply zae|apply zac|apply zak|apply zad|apply zab|refine zaa hX zdK rfl trivial ?_|refine zaa hX zdK rfl id ?_|refine zaa hX zdK rfl ⟨id,id⟩ ?_));refine AWP.ret ⟨.inr rfl,zat rfl trivial rfl rfl ?_⟩;show (0:Int)=((zax (c::r):Nat):Int);rw[zgq,if_neg (by simpa using hb)];rfl
  ·have hb:(!isLt c)=false:=hb;apply zac;(repeat(first|apply zae|apply zac|apply zab|apply zad));refine zaa hX zdK rfl ?_ ?_
   ·exact rfl
   refine AWP.ret ⟨.inr rfl,zat rfl trivial rfl rfl ?_⟩;show ((zbu isPt (c::r):Nat):Int)=((zax (c::r):Nat):Int);rw[zgq,if_pos (by simpa using hb)]
def numA (acc:Nat) (l:List UInt8):Nat:=l.foldl (fun n c=>10 * n+(c.toNat - 48)) acc
theorem zoG:∀ (l:List UInt8) (acc:Nat),acc≤numA acc l
 | [],_=>Nat.le_refl _
 |c::r,acc=>by
  have:=zoG r (10 * acc+(c.toNat - 48));show acc≤numA (10 * acc+(c.toNat - 48)) r;omega
theorem zma (c:UInt8):isDg c=true↔48≤c.toNat∧c.toNat≤57:=by
 unfold isDg;rw[Bool.and_eq_true,decide_eq_true_iff,decide_eq_true_iff,UInt8.le_iff_toNat_le,UInt8.le_iff_toNat_le];exact Iff.rfl
theorem zit:∀ (l:List UInt8) (acc:Nat),(∀ c∈l,isDg c=true)->acc < 18446744073709551616->(Lib.parseUintM (2 ^ 64 - 1) acc l= .ok (numA acc l)∧numA acc l < 18446744073709551616)∨(Lib.parseUintM (2 ^ 64 - 1) acc l= .range∧18446744073709551616≤numA acc l)
 | [],acc,_,ha=>.inl ⟨rfl,ha⟩
 |c::r,acc,h,ha=>by
  obtain⟨h1,h2⟩:=(zma c).1 (h c (List.mem_cons_self ..));have hge:=zoG r (10 * acc+(c.toNat - 48));have e:numA acc (c::r)=numA (10 * acc+(c.toNat - 48)) r:=rfl;rw[Lib.parseUintM,if_pos ⟨h1,h2⟩,e];by_cases h3:1844674407370955162≤acc
  ·rw[if_pos h3];exact .inr ⟨rfl,by omega⟩
  ·rw[if_neg h3];have e2:acc * 10+(c.toNat - 48)=10 * acc+(c.toNat - 48):=by omega
   rw[e2];by_cases h4:2 ^ 64 - 1 < 10 * acc+(c.toNat - 48)
   ·rw[if_pos h4];exact .inr ⟨rfl,by omega⟩
   ·rw[if_neg h4];exact zit r _ (fun x hx=>h x (List.mem_cons_of_mem _ hx)) (by omega)
theorem znb {l:List UInt8} (hl:l≠ []) (h:∀ c∈l,isDg c=true):(Lib.parseIntB 64 l= .ok ((numv l:Nat):Int))∨(Lib.parseIntB 64 l= .range∧zdl≤numv l):=by
 cases l with
 |nil=>exact absurd rfl hl
 |cons c r=>
  obtain⟨h1,h2⟩:=(zma c).1 (h c (List.mem_cons_self ..));rw[Lib.parseIntB_plain 64 c r (by omega) (by omega)];unfold Lib.parseUintB;rw[if_neg (by simp)];have e:numv (c::r)=numA 0 (c::r):=rfl;rw[e];unfold zdl;rcases zit (c::r) 0 h (by omega) with ⟨h3,h4⟩|⟨h3,h4⟩
  ·rw[h3];unfold Lib.signlessC;by_cases h5:2 ^ (64 - 1)≤numA 0 (c::r)
   ·exact .inr ⟨if_pos h5,by omega⟩
   ·exact .inl (if_neg h5)
  ·rw[h3];exact .inr ⟨rfl,by omega⟩
def zp3 (s:List UInt8) (v:Int) (ev:Value):Prop:=(ev= .nilIface∧v=((numv s:Nat):Int))∨((∃ t p,ev= .iface t p)∧zdl≤numv s)
theorem zi2 {s:List UInt8} (hs:s≠ []) (hd:∀ c∈s,isDg c=true) (hl:s.length≤100000) (w:World) (hG:gmH w):
 Calls Tryz.prog 177 #[.string ⟨s.toArray⟩,.int .i64 10,.int .i64 64] w fun e w'=>∃ v ev,e= .returned (.tuple #[.int .i64 v,ev])∧Below w.heap.size w w'∧zp3 s v ev:=by
 rcases znb hs hd with h1|⟨h1,h2⟩
 ·refine Calls.mono (Any.strconv_ParseInt_10_at64_ok Tryz.laysC174 ⟨s.toArray⟩ (by show s.length≤9223372036854775806;omega) _ h1 w) ?_;rintro e w' ⟨rfl,hw⟩;refine⟨_,_,rfl,?_,.inl ⟨rfl,rfl⟩⟩;rcases hw with rfl|⟨t,rfl⟩
  ·exact Below.refl _ _
  ·exact Lib.bytesWorld_below _ _ _
 ·obtain⟨ev,hv,hev⟩:=hG.2;refine Calls.mono (Any.strconv_ParseInt_10_at64_range Tryz.laysC174 ⟨s.toArray⟩ (by show s.length≤281474976710656;omega) h1 ev w hv hev) ?_;rintro e w' ⟨N,rfl,_,_,hb⟩;exact⟨_,_,rfl,hb,.inr ⟨⟨_,_,rfl⟩,h2⟩⟩
theorem zfB {α:Type} {p:α->Bool} {c:α}:∀ {l:List α},c∈l.takeWhile p->p c=true
 |x::l,h=>by
  rw[List.takeWhile_cons]at h;split at h
  ·rename_i hx;rcases List.mem_cons.1 h with rfl|h
   ·exact hx
   ·exact zfB h
  ·cases h
theorem errT:Tryz.prog.underlying 114=some (.interface (Tryz.prog.methodsAt 114)):=by kernel_rfl
def zkk:Value->Bool
 | .nilIface=>true
 |_=>false
theorem eqlNil {a:Act} {w:World} {x:Operand} {d:Nat} {ty:TypeId} {pos:String} {af:Array Edge} {ev:Value} (hx:a.eval x=ev) (he:ev= .nilIface∨∃ t p,ev= .iface t p):
 (execOp a.eval { dst:=some d,op:=Op.binOp .eql 114 x (.const .nilIface) 114,type:=ty,pos:=pos,after:=af,guard:=none }).run Tryz.prog w= .ok (.value (.bool (zkk ev))) w:=by
 have hn:a.eval (.const .nilIface)= .nilIface:=rfl;unfold execOp;rcases he with rfl|⟨t,p,rfl⟩
 ·simp[hx,hn,eqGuard,run_eql_nil_nil _ _ errT,zkk]
 ·simp[hx,hn,eqGuard,run_eql_held_nil _ _ _ _ errT,zkk]
theorem ztc:(1125899906842624:Int)=((zdl:Nat):Int):=by decide
theorem zm7 (M:Int) (hM:M=((zdl:Nat):Int)) {s:List UInt8} {v:Int} {ev:Value} {b:Bool} (hend:zp3 s v ev) (hb:b=zkk ev):(bif b then decide (v < M) else false)=true↔(b=true∧v=((numv s:Nat):Int)∧numv s < zdl):=by
 rcases hend with ⟨rfl,rfl⟩|⟨⟨t,p,rfl⟩,hn⟩
 ·rw[hb];show decide (((numv s:Nat):Int) < M)=true↔_;rw[decide_eq_true_iff];exact⟨fun h=>⟨rfl,rfl,by omega⟩,fun h=>by omega⟩
 ·rw[hb];exact⟨fun h=>(by cases h),fun h=>(by cases h.1)⟩
abbrev zTk:TokT:=(0,0,0,[],0,())
def zeX (s:List UInt8):TokT×Bool×Unit:=match zc1 s with
 |some (k,n,t,x)=>((k,0,(n:Nat),t,x,()),true,())
 |none=>(zTk,false,())
def zmA:Ctr:={ args:=[.str],pre:=fun x=>[x.1≠ [],List.length x.1≤100000],res:=.tup tk (.tup .bool .unit),own:=none,out:=fun x=>zeX x.1 }
def kNu:Kn:={ gmK with C:=[(52,zlC 113 isDg)] }
theorem zbL:KnOk Tryz.prog gmH kNu:=zai.with (.cons znW.lift .nil)
theorem znh:CtrOk Tryz.prog gmH 131 zmA:=by
 refine zan (K:=kNu) zbL Tryz.func131 rfl rfl Tryz.call131 rfl (by decide) (by intro h;cases h) ?_;rintro w0 X hX ⟨(s:List UInt8),_⟩ hp;obtain⟨hne,hlen⟩:s≠ []∧s.length≤100000:=hp;change AWP _ _ _ _ _ ⟨[(0,⟨.str,s⟩)],[],0⟩ _;have hpos:0 < s.length:=List.length_pos_iff.2 hne;(repeat(first|apply zae|apply zac|apply zak|apply zad|apply zab|refine zaa hX zbL rfl trivial ?_|refine zaa hX zbL rfl id ?_|refine zaa hX zbL rfl ⟨id,id⟩ ?_));have n0:(0:Int) < ((s.length:Nat):Int):=by omega
 (repeat(first|apply zae|apply zac|apply zab|apply zad));refine zaa hX zbL rfl ?_ ?_
 ·exact⟨Int.le_refl 0,n0⟩
 have hsg:zaR s≤1∧zaR s≤s.length:=by
  unfold zaR;split<;>omega
 obtain⟨c,r,rfl⟩:∃ c r,s=c::r:=by
  cases s with
  |nil=>exact absurd rfl hne
  |cons c r=>exact⟨c,r,rfl⟩
 refine AWP.viaQ (σ':=⟨[(0,⟨.str,(c::r:List UInt8)⟩),(2,⟨.optr tk,⟨0,tk,.here⟩⟩),(3,⟨.bool,false⟩),(4,⟨i64,((zaR (c::r):Nat):Int)⟩)],[(0,some (.box tk zTk))],1⟩) ?_ ?_
 ·refine zaf rfl (fun hb=>?_) (fun hb=>?_)
  ·have hb:(((c.toNat:Nat):Int)==(((45:UInt8).toNat:Nat):Int))=true:=hb;rw[u8eq,beq_iff_eq]at hb;subst hb;(repeat(first|apply zae|apply zac|apply zab|apply zad));refine zaa hX zbL rfl ?_ ?_
   ·trivial
   exact⟨⟨rfl,rfl,rfl,rfl,trivial⟩,⟨rfl,trivial⟩,rfl,rfl⟩
  ·have hb:(((c.toNat:Nat):Int)==(((45:UInt8).toNat:Nat):Int))=false:=hb;rw[u8eq]at hb;have hs0:zaR (c::r)=0:=by
    unfold zaR;rw[if_neg];intro h;rw[Option.some.inj h]at hb;cases hb
   apply zac;exact⟨⟨rfl,rfl,rfl,vI64 (by rw[hs0];rfl),trivial⟩,⟨rfl,trivial⟩,rfl,rfl⟩
 generalize hs:(c::r:List UInt8)=s at *;have p0:(0:Int)≤((zaR s:Nat):Int):=by omega
 have p1:((zaR s:Nat):Int)≤((s.length:Nat):Int):=by omega
 (repeat(first|apply zae|apply zac|apply zab|apply zad));refine zaa hX zbL rfl ?_ ?_
 ·exact⟨p0,p1,rfl⟩
 have hdl:(zaN s).length≤s.length - zaR s:=by
  have:(zaN s).length≤(s.drop (zaR s)).length:=(List.takeWhile_prefix _).length_le;rwa[List.length_drop]at this
 have hd5:((zbu isDg (List.drop (((zaR s:Nat):Int)).toNat s):Nat):Int)=(((zaN s).length:Nat):Int):=by
  rw[Int.toNat_natCast];rfl
 refine zaq (σ':=⟨[(0,⟨.str,s⟩),(2,⟨.optr tk,⟨0,tk,.here⟩⟩),(3,⟨.bool,false⟩),(4,⟨i64,((zaR s:Nat):Int)⟩),(5,⟨i64,(((zaN s).length:Nat):Int)⟩)],[(0,some (.box tk zTk))],1⟩) ⟨⟨rfl,rfl,rfl,rfl,vI64 hd5,trivial⟩,⟨rfl,trivial⟩,rfl,rfl⟩ ?_;(repeat(first|apply zae|apply zac|apply zab|apply zad));refine zaa hX zbL rfl ?_ ?_
 ·trivial
 refine zaf rfl (fun hb=>?_) (fun hb=>?_)
 ·have hb:decide ((((zaN s).length:Nat):Int)=0)=true:=hb;have hb:=of_decide_eq_true hb;(repeat(first|apply zae|apply zac|apply zak|apply zad|apply zab|refine zaa hX zbL rfl trivial ?_|refine zaa hX zbL rfl id ?_|refine zaa hX zbL rfl ⟨id,id⟩ ?_));refine AWP.ret ⟨.inr rfl,za7 (by decide) rfl rfl trivial ?_⟩;show (zTk,(false,()))=zeX s;unfold zeX zc1;rw[if_pos (by omega)]
 have hb:decide ((((zaN s).length:Nat):Int)=0)=false:=hb;have hd0:(zaN s).length≠0:=fun h=>of_decide_eq_false hb (by omega);apply zac;have q0:inR .i64 (((zaR s:Nat):Int)+(((zaN s).length:Nat):Int)):=zar (by omega) (by omega);have q1:(0:Int)≤((zaR s:Nat):Int)+(((zaN s).length:Nat):Int):=by omega
 have q2:((zaR s:Nat):Int)+(((zaN s).length:Nat):Int)≤((s.length:Nat):Int):=by omega
 have q3:((zaR s:Nat):Int) < ((s.length:Nat):Int):=by omega
 (repeat(first|apply zae|apply zac|apply zab|apply zad));refine zaa hX zbL rfl ?_ ?_
 ·exact⟨q0,q0,q1,q2⟩
 have hm:((zaR s:Nat):Int)+(((zaN s).length:Nat):Int)=((zaR s+(zaN s).length:Nat):Int):=by omega
 refine zaq (σ':=⟨[(0,⟨.str,s⟩),(2,⟨.optr tk,⟨0,tk,.here⟩⟩),(3,⟨.bool,false⟩),(4,⟨i64,((zaR s:Nat):Int)⟩),(5,⟨i64,(((zaN s).length:Nat):Int)⟩),(6,⟨.optr tk,⟨1,tk,.here⟩⟩)],[(0,some (.box tk zTk)),(1,some (.box tk (3,0,((zaR s+(zaN s).length:Nat):Int),s.take (zaR s+(zaN s).length),1125899906842624,())))],2⟩) ⟨⟨rfl,rfl,rfl,rfl,rfl,rfl,trivial⟩,⟨rfl,zfT ?_,trivial⟩,rfl,rfl⟩ ?_
 ·show ((3:Int),(0:Int),((zaR s:Nat):Int)+(((zaN s).length:Nat):Int),List.take (((zaR s:Nat):Int)+(((zaN s).length:Nat):Int)).toNat s,(1125899906842624:Int),())=_;rw[hm,Int.toNat_natCast]
 have hds:zaN s=(s.drop (zaR s)).takeWhile isDg:=rfl;have hhd:(zaN s).head? =some (s.getD (zaR s) 0):=by
  rw[hds];have hne2:(s.drop (zaR s)).takeWhile isDg≠ []:=fun h=>hd0 (by rw[hds,h];rfl);rw[List.head?_eq_some_head hne2,List.head_takeWhile]
  congr 1
  rw[List.head_drop,List.getD_eq_getElem?_getD,List.getElem?_eq_getElem (by omega)];rfl
 (repeat(first|apply zae|apply zac|apply zab|apply zad));refine zaa hX zbL rfl ?_ ?_
 ·exact⟨p0,q3,fun h=>⟨h,h,q0⟩,fun h=>h,fun h=>h⟩
 have htest:(bif ((((s.getD (((zaR s:Nat):Int)).toNat 0).toNat:Nat):Int)==(((48:UInt8).toNat:Nat):Int)) then decide (((zaR s:Nat):Int)+(((zaN s).length:Nat):Int) > 1) else false)=decide ((zaN s).head? =some 48∧1 < zaR s+(zaN s).length):=by
  rw[u8eq,zcn,Int.toNat_natCast,hhd,Bool.eq_iff_iff,Bool.and_eq_true,beq_iff_eq,decide_eq_true_iff,decide_eq_true_iff,Option.some_inj];constructor
  ·rintro ⟨h1,h2⟩;exact⟨h1,by omega⟩
  ·rintro ⟨h1,h2⟩;exact⟨h1,by omega⟩
 have hno:zc1 s=if (zaN s).head? =some 48∧1 < zaR s+(zaN s).length then some (5,zaR s+(zaN s).length,s.take (zaR s+(zaN s).length),(zdl:Int)) else some (3,zaR s+(zaN s).length,s.take (zaR s+(zaN s).length),valN s):=by
  rw[zc1,if_neg hd0]
 refine zaf rfl (fun hb=>?_) (fun hb=>?_)
 ·have hb:=htest.symm.trans hb;have hb:=of_decide_eq_true hb;(repeat(first|apply zae|apply zac|apply zak|apply zad|apply zab|refine zaa hX zbL rfl trivial ?_|refine zaa hX zbL rfl id ?_|refine zaa hX zbL rfl ⟨id,id⟩ ?_));refine AWP.ret ⟨.inr rfl,za7 (by decide) rfl rfl trivial ?_⟩;show (((5:Int),(0:Int),((zaR s+(zaN s).length:Nat):Int),s.take (zaR s+(zaN s).length),(1125899906842624:Int),()),(true,()))=zeX s;unfold zeX;rw[hno,if_pos hb];rfl
 have hb:=htest.symm.trans hb;have hb:=of_decide_eq_false hb;rw[if_neg hb]at hno;apply zac;have hlist:((s.take ((((zaR s:Nat):Int)+(((zaN s).length:Nat):Int))).toNat).drop (((zaR s:Nat):Int)).toNat)=zaN s:=by
  rw[hm,Int.toNat_natCast,Int.toNat_natCast,List.drop_take,Nat.add_sub_cancel_left,hds];exact List.prefix_iff_eq_take.1 (List.takeWhile_prefix isDg) |>.symm
 have hdig:∀ c∈zaN s,isDg c=true:=fun c hc=>by
  rw[hds]at hc;exact zfB hc
 have hdne:zaN s≠ []:=fun h=>hd0 (by rw[h];rfl);(repeat(first|apply zae|apply zac|apply zab|apply zad));refine zaj ?_;refine AL.take 6 hX zbL rfl ⟨q0,p0,(by omega:((zaR s:Nat):Int)≤((zaR s:Nat):Int)+(((zaN s).length:Nat):Int)),q2⟩ ?_;refine AL.hand rfl (fun c e=>by cases e) fun β a w hsim=>?_;have h46:a.eval (.tmp 46)= .string ⟨(zaN s).toArray⟩:=by
  have:=(RepV.str (hsim.ops (.tmp 46))).1;rwa[hlist]at this
 refine zfh (f:=177) rfl Tryz.call177 ?_;show Calls _ _ ((#[Operand.tmp 46,.const (.int .i64 10),.const (.int .i64 64)].toList.map a.eval).toArray) _ _;rw[show ((#[Operand.tmp 46,.const (.int .i64 10),.const (.int .i64 64)].toList.map a.eval).toArray:Array Value)= #[.string ⟨(zaN s).toArray⟩,.int .i64 10,.int .i64 64] by show #[a.eval (.tmp 46),_,_]=_;rw[h46];rfl];refine (zi2 hdne hdig (by omega) w (hX.2.2 w hsim.bel)).mono ?_;rintro e w'' ⟨v,ev,rfl,hb2,hend⟩;refine⟨_,rfl,⟨(47,⟨.lit,.tuple #[.int .i64 v,ev]⟩)::_,_,_⟩,β,hsim.put hb2 (v:=⟨.lit,.tuple #[.int .i64 v,ev]⟩) rfl (Nat.zero_le _) (by show 47 < 65;omega),?_⟩;refine AL.take 1 hX zbL rfl trivial ?_;refine AL.hand rfl (fun c e=>by cases e) fun β a w' hs'=>?_;have h33:a.eval (.tmp 40)= .tuple #[.int .i64 v,ev]:=hs'.ops (.tmp 40);refine zbE (u:=.int .i64 v) (w':=w') ?_ ⟨⟨(48,⟨i64,v⟩)::_,_,_⟩,β,hs'.put (Below.refl _ _) (v:=⟨i64,v⟩) (RepV.ofInt (k:=.i64)) (Nat.zero_le _) (by show 48 < 65;omega),?_⟩
 ·show (execOp a.eval { dst:=some 48,op:=Op.extract (.tmp 40) 0,type:=_,pos:=_,after:=_,guard:=none }).run _ _=_;unfold execOp;simp[h33,Instr.extract]
 refine AL.hand rfl (fun c e=>by cases e) fun β a w' hs'=>?_;have h33:a.eval (.tmp 40)= .tuple #[.int .i64 v,ev]:=hs'.ops (.tmp 40);refine zbE (u:=ev) (w':=w') ?_ ⟨⟨(49,⟨.lit,ev⟩)::_,_,_⟩,β,hs'.put (Below.refl _ _) (v:=⟨.lit,ev⟩) rfl (Nat.zero_le _) (by show 49 < 65;omega),?_⟩
 ·show (execOp a.eval { dst:=some 49,op:=Op.extract (.tmp 40) 1,type:=_,pos:=_,after:=_,guard:=none }).run _ _=_;unfold execOp;simp[h33,Instr.extract]
 refine AL.all hX zbL rfl trivial ?_;refine zaq (σ':=⟨[(0,⟨.str,s⟩),(2,⟨.optr tk,⟨0,tk,.here⟩⟩),(4,⟨i64,((zaR s:Nat):Int)⟩),(6,⟨.optr tk,⟨1,tk,.here⟩⟩),(7,⟨i64,v⟩),(8,⟨.lit,ev⟩)],[(0,some (.box tk zTk)),(1,some (.box tk (3,0,((zaR s+(zaN s).length:Nat):Int),s.take (zaR s+(zaN s).length),1125899906842624,())))],2⟩) ⟨⟨rfl,rfl,rfl,rfl,rfl,rfl,trivial⟩,⟨rfl,rfl,trivial⟩,rfl,rfl⟩ ?_;(repeat(first|apply zae|apply zac|apply zab|apply zad));refine zaj ?_;refine AL.take 1 hX zbL rfl trivial ?_;refine AL.hand rfl (fun c e=>by cases e) fun β a w' hs'=>?_;have h38:a.eval (.tmp 50)=ev:=hs'.ops (.tmp 50);obtain⟨b,hbv⟩:∃ b,b=zkk ev:=⟨_,rfl⟩;refine zbE (u:=.bool b) (w':=w') (by rw[hbv];exact eqlNil h38 (hend.imp (fun h=>h.1) (fun h=>h.1))) ⟨⟨(51,⟨.bool,b⟩)::_,_,_⟩,β,hs'.put (Below.refl _ _) (v:=⟨.bool,b⟩) RepV.ofBool (Nat.zero_le _) (by show 51 < 65;omega),?_⟩;have hsmall:(bif b then decide (v < 1125899906842624) else false)=true↔(b=true∧v=((numv (zaN s):Nat):Int)∧numv (zaN s) < zdl):=zm7 _ ztc hend hbv;have hbig:¬ (bif b then decide (v < 1125899906842624) else false)=true->zdl≤numv (zaN s):=fun h=>by
  rcases hend with ⟨rfl,rfl⟩|⟨⟨t,p,rfl⟩,hn⟩
  ·rcases Nat.lt_or_ge (numv (zaN s)) zdl with h1|h1
   ·exact absurd (hsmall.2 ⟨hbv,rfl,h1⟩) h
   ·exact h1
  ·exact hn
 refine AL.all hX zbL rfl ?_ ?_
 ·exact⟨fun h=>h,fun h=>h⟩
 have hfin:valN s=if zaR s=1 then -((min (numv (zaN s)) zdl:Nat):Int) else ((min (numv (zaN s)) zdl:Nat):Int):=rfl
 refine AWP.viaQ (σ':=⟨[(2,⟨.optr tk,⟨0,tk,.here⟩⟩),(4,⟨i64,((zaR s:Nat):Int)⟩),(6,⟨.optr tk,⟨1,tk,.here⟩⟩)],[(0,some (.box tk zTk)),(1,some (.box tk (3,0,((zaR s+(zaN s).length:Nat):Int),s.take (zaR s+(zaN s).length),((min (numv (zaN s)) zdl:Nat):Int),())))],2⟩) ?_ ?_
 ·refine zaf rfl (fun hb=>?_) (fun hb=>?_)
  ·have hb:(bif b then decide (v < 1125899906842624) else false)=true:=hb;obtain⟨_,h2,h3⟩:=hsmall.1 hb;(repeat(first|apply zae|apply zac|apply zab|apply zad));refine zaa hX zbL rfl ?_ ?_
   ·trivial
   refine⟨⟨rfl,rfl,rfl,trivial⟩,⟨rfl,zfT ?_,trivial⟩,rfl,rfl⟩;rw[Nat.min_eq_left (Nat.le_of_lt h3), <-h2]
  ·have hb:¬ (bif b then decide (v < 1125899906842624) else false)=true:=by
    intro h;have hb:(bif b then decide (v < 1125899906842624) else false)=false:=hb;rw[hb]at h;cases h
   refine zac ⟨⟨rfl,rfl,rfl,trivial⟩,⟨rfl,zfT ?_,trivial⟩,rfl,rfl⟩;rw[Nat.min_eq_right (hbig hb)];rfl
 have hbnd:((min (numv (zaN s)) zdl:Nat):Int)≤1125899906842624:=by
  have:=Nat.min_le_right (numv (zaN s)) zdl;unfold zdl at *;omega
 (repeat(first|apply zae|apply zac|apply zab|apply zad));refine zaa hX zbL rfl ?_ ?_
 ·trivial
 refine AWP.viaQ (σ':=⟨[(2,⟨.optr tk,⟨0,tk,.here⟩⟩),(6,⟨.optr tk,⟨1,tk,.here⟩⟩)],[(0,some (.box tk zTk)),(1,some (.box tk (3,0,((zaR s+(zaN s).length:Nat):Int),s.take (zaR s+(zaN s).length),valN s,())))],2⟩) ?_ ?_
 ·refine zaf rfl (fun hb=>?_) (fun hb=>?_)
  ·have hb:decide (((zaR s:Nat):Int)=1)=true:=hb;have hb:=of_decide_eq_true hb;(repeat(first|apply zae|apply zac|apply zab|apply zad));refine zaa hX zbL rfl ?_ ?_
   ·show inR .i64 (-((min (numv (zaN s)) zdl:Nat):Int));exact zar (by omega) (by omega)
   refine⟨⟨rfl,rfl,trivial⟩,⟨rfl,zfT ?_,trivial⟩,rfl,rfl⟩;rw[hfin,if_pos (by omega)]
  ·have hb:decide (((zaR s:Nat):Int)=1)=false:=hb;have hb:=of_decide_eq_false hb;refine zac ⟨⟨rfl,rfl,trivial⟩,⟨rfl,zfT ?_,trivial⟩,rfl,rfl⟩;rw[hfin,if_neg (by omega)]
 (repeat(first|apply zae|apply zac|apply zak|apply zad|apply zab|refine zaa hX zbL rfl trivial ?_|refine zaa hX zbL rfl id ?_|refine zaa hX zbL rfl ⟨id,id⟩ ?_));refine AWP.ret ⟨.inr rfl,za7 (by decide) rfl rfl trivial ?_⟩;show (((3:Int),(0:Int),((zaR s+(zaN s).length:Nat):Int),s.take (zaR s+(zaN s).length),valN s,()),(true,()))=zeX s;unfold zeX;rw[hno]
end Go.Proofs.YtpeaigpfddalcaaGreatDoor
namespace Go.Proofs.YtpeaigpfddalcaaGreatDoor
open Go Go.RowKit Go.ChangeShapes Go.WideShapes Go.ChangeAt
set_option linter.unusedSimpArgs false
set_option linter.unusedVariables false
set_option maxRecDepth 100000
theorem own:ownKnob Tryz.prog.godebug=none:=by kernel_rfl
theorem zs4:laidOutB Tryz.prog=true:=by kernel_rfl
abbrev zo7:List (String×DataW Unit):=Rows.grammarParseMatchesReferenceRow.laid
theorem tab_eq:(zo7.filter fun x=>x.1=="internal/strconv.uint64pow10")=[("internal/strconv.uint64pow10",Lib.tabData .u64 Lib.pow10Tab)]:=by kernel_rfl
theorem err_eq:(zo7.filter fun x=>x.1=="strconv.ErrRange")=[("strconv.ErrRange",Rows.laid_strconv_ErrRange)]:=by kernel_rfl
theorem znk:(zo7.filter fun x=>x.2.handleName?.isSome)=[]:=by kernel_rfl
theorem zre:(Tryz.prog.globals[5]?).map (·.type)=some 267:=by kernel_rfl
theorem zry:Tryz.prog.cellsOf 267=20:=by kernel_rfl
theorem zrx:Tryz.prog.cellsOf 236=1:=by kernel_rfl
theorem gErr:Tryz.prog.globalNamed "strconv.ErrRange"=some 4:=by kernel_rfl
theorem zrg:(Tryz.prog.globals[4]?).map (·.type)=some 114:=by kernel_rfl
theorem ztz {W:World} (h:laidMetH Tryz.prog zo7 W):gmH W:=by
 have h1:laidMet Tryz.prog zo7 W:=by
  have:=(laidMetH_iff.1 h).1;rwa[List.filter_eq_self.2 (fun x hx=>by
   have hn:=(List.filter_eq_nil_iff.1 znk) x hx;cases he:x.2.handleName? with
   |none=>rfl
   |some s=>rw[he]at hn;exact absurd rfl hn)]at this
 have ht:=h1.filter fun x=>x.1=="internal/strconv.uint64pow10";have he:=h1.filter fun x=>x.1=="strconv.ErrRange";rw[tab_eq]at ht;rw[err_eq]at he;refine⟨Lib.tabIs_of_head (rest:=[]) ztg zre Tryz.underlying267 Tryz.underlying236 zrx zry ht,?_⟩;obtain⟨ps,⟨g',t',cs,fuel,p,q,hg',ht',hvar,hd,_,_⟩,_⟩:=he;obtain rfl:=Option.some.inj (gErr.symm.trans hg');obtain rfl:=Option.some.inj (zrg.symm.trans ht');obtain⟨_,u,v,hcs,_,_⟩:=iface_of_trod errT hd;refine⟨.iface u v,?_,.inr ⟨u,v,rfl⟩⟩;unfold World.var? at hvar;rw[gErr]at hvar;simp only[Option.bind_some]at hvar;unfold World.cell?;cases ho:W.heap[4]? with
 |none=>rw[ho]at hvar;cases hvar
 |some o=>
  rw[ho]at hvar;cases o<;>simp at hvar;rename_i c t fz;subst hvar;simp;rw[<-Array.getElem?_toList,hcs];rfl
def numD:DataW Unit->Int
 | .lit (.int _ z)=>z
 |_=>0
def zpr:DataW Unit->List Int
 | .agg ds=>ds.flatMap fun d=>match d with
  | .agg es=>es.map numD
  |d=>[numD d]
 |_=>[]
def setG (g:Nat) (cs:List Value) (h:Array Obj):Array Obj:=h.modify g fun
 | .cells _ t frozen=>.cells cs.toArray t frozen
 |o=>o
noncomputable def heapW (os:Os):Array Obj:=
 let h:=(World.holding Tryz.prog os ⟨#[],#[],[]⟩).heap
 let n:=h.size
 ((setG 6 ((zpr Rows.laid_math_bits_deBruijn32tab).map (.int .u8 ·)) <|
   setG 7 ((zpr Rows.laid_math_bits_deBruijn64tab).map (.int .u8 ·)) <|
   setG 5 ((zpr Rows.laid_internal_strconv_uint64pow10).map (.int .u64 ·)) <|
   setG 1 ((zpr Rows.laid_unicode_utf8_acceptRanges).map (.int .u8 ·)) <|
   setG 0 ((zpr Rows.laid_unicode_utf8_first).map (.int .u8 ·)) <|
   setG 4 [.iface 273 (.pointer (some ⟨n,0,none⟩))] <|
   setG 3 [.iface 273 (.pointer (some ⟨n+1,0,none⟩))] h).push
    (.cells #[.string ⟨#[118,97,108,117,101,32,111,117,116,32,111,102,32,114,97,110,103,101]⟩] 275)).push
    (.cells #[.string ⟨#[105,110,118,97,108,105,100,32,115,121,110,116,97,120]⟩] 275)
noncomputable def zhz (os:Os):World:={ World.holding Tryz.prog os ⟨#[],#[],[]⟩ with heap:=heapW os }
end Go.Proofs.YtpeaigpfddalcaaGreatDoor
namespace Go.Proofs.YtpeaigpfddalcaaGreatDoor
open Go Go.RowKit
set_option linter.unusedSimpArgs false
set_option linter.unusedVariables false
set_option maxRecDepth 100000
def cSym:Ctr:={ args:=[.str,.str],pre:=fun x=>[x.1=[40,41,61],∃ c,x.2.1=[c]],res:=.bool,own:=none,out:=fun x=>decide (0≤Lib.indexByte x.1 (x.2.1.getD 0 0)) }
theorem sym_ok:CtrOk Tryz.prog gmG 132 cSym:=by
 refine⟨Tryz.call132,fun w O xs vs hO hr hp hG=>?_⟩;obtain⟨(s:List UInt8),(d:List UInt8),_⟩:=xs;obtain⟨h1,c,h2⟩:s=[40,41,61]∧∃ c,d=[c]:=hp;subst h1;subst h2;obtain⟨v1,r1,rfl,e1,v2,r2,rfl,e2,rfl⟩:=hr;have e1: [v1]=[Value.string ⟨#[40,41,61]⟩]∧_:=e1;have e2: [v2]=[Value.string ⟨#[c]⟩]∧_:=e2;obtain⟨e1,_⟩:=e1;obtain⟨e2,_⟩:=e2;cases e1;cases e2;refine Calls.mono (Any.strings_Contains_one Tryz.lays144 ⟨#[40,41,61]⟩ c w) ?_;rintro e w' ⟨rfl,rfl⟩;refine⟨_,rfl,Below.refl _ _,fun β=>?_⟩;rfl
def zh4 (sk:Nat):List UInt8->TokT
 | []=>(0,(sk:Int),0,[],0,())
 |c::r=>
  if 0 < zax (c::r) then (1,(sk:Int),(zax (c::r):Nat),(c::r).take (zax (c::r)),0,())
  else if c=64∧0 < zax r then (2,(sk:Int),(zax r:Nat)+1,r.take (zax r),0,())
  else match zc1 (c::r) with
   |some (k,n,t,x)=>(k,(sk:Int),(n:Nat),t,x,())
   |none=>if c=40∨c=41∨c=61 then (4,(sk:Int),1,[c],0,()) else (5,(sk:Int),1,[c],0,())
theorem zn9 (sk:Nat) (c:UInt8) (r:List UInt8) (h:¬ 0 < zax (c::r)):zh4 sk (c::r)=(if c=64∧0 < zax r then (2,(sk:Int),((zax r:Nat):Int)+1,r.take (zax r),0,())
 else match zc1 (c::r) with
  |some (k,n,t,x)=>(k,(sk:Int),((n:Nat):Int),t,x,())
  |none=>if c=40∨c=41∨c=61 then (4,(sk:Int),1,[c],0,()) else (5,(sk:Int),1,[c],0,()):TokT):=if_neg h
theorem zsE (s:List UInt8):zbd s=zh4 (zbu isWh s) (s.drop (zbu isWh s)):=by
 rw[zbd];cases s.drop (zbu isWh s)<;>rfl
theorem znP (c:UInt8):decide (0≤Lib.indexByte [40,41,61] c)=true↔(c=40∨c=41∨c=61):=by
 have key:∀ n:Fin 256,decide (0≤Lib.indexByte [40,41,61] (UInt8.ofNat n.val))=decide (n.val=40∨n.val=41∨n.val=61):=by decide+kernel
 have h:=key ⟨c.toNat,UInt8.toNat_lt c⟩;simp only[UInt8.ofNat_toNat]at h;rw[h,decide_eq_true_iff];constructor
 ·rintro (h|h|h)
  ·exact .inl (UInt8.toNat_inj.1 h)
  ·exact .inr (.inl (UInt8.toNat_inj.1 h))
  ·exact .inr (.inr (UInt8.toNat_inj.1 h))
 ·rintro (rfl|rfl|rfl)<;>decide
def cScan:Ctr:={ args:=[.str],pre:=fun x=>[List.length x.1≤100000],res:=tk,own:=none,out:=fun x=>zbd x.1 }
def kSc:Kn:={ gmK with C:=[(52,zlC 53 isWh),(65,zjq),(131,zmA),(132,cSym)] }
theorem zbe:KnOk Tryz.prog gmH kSc:=zai.with (.cons zjM.lift <| .cons zie.lift <| .cons znh <| .cons sym_ok.lift .nil)
theorem zsD:CtrOk Tryz.prog gmH 79 cScan:=by
 refine zan (K:=kSc) zbe Tryz.func79 rfl rfl Tryz.call79 rfl (by decide) (by intro h;cases h) ?_;rintro w0 X hX ⟨(s:List UInt8),_⟩ hp;have hlen:s.length≤100000:=hp;change AWP _ _ _ _ _ ⟨[(0,⟨.str,s⟩)],[],0⟩ _;(repeat(first|apply zae|apply zac|apply zab|apply zad));refine zaa hX zbe rfl ?_ ?_
 ·trivial
 (repeat(first|apply zae|apply zac|apply zab|apply zad));refine zaa hX zbe rfl ?_ ?_
 ·exact rfl
 have hsk:=ziR isWh s;have q0:(0:Int)≤((zbu isWh s:Nat):Int):=by omega
 have q1:((zbu isWh s:Nat):Int)≤((s.length:Nat):Int):=by omega
 (repeat(first|apply zae|apply zac|apply zab|apply zad));refine zaa hX zbe rfl ?_ ?_
 ·exact⟨q0,q1⟩
 obtain⟨u,hu⟩:∃ u,u=s.drop (zbu isWh s):=⟨_,rfl⟩;have hul:u.length≤100000:=by rw[hu,List.length_drop];omega
 refine zaq (σ':=⟨[(0,⟨.str,u⟩),(2,⟨.optr tk,⟨0,tk,.here⟩⟩),(3,⟨i64,((zbu isWh s:Nat):Int)⟩)],[(0,some (.box tk zTk))],1⟩) ⟨⟨?_,rfl,rfl,trivial⟩,⟨rfl,trivial⟩,rfl,rfl⟩ ?_
 ·show (⟨.str,List.drop (((zbu isWh s:Nat):Int)).toNat s⟩:V)=⟨.str,u⟩;rw[Int.toNat_natCast,hu]
 show AWP _ _ _ _ _ _ (fun e σ=>(e= .normal∨e= .ret)∧Done _ _ σ none tk (zbd s));rw[zsE, <-hu];generalize zbu isWh s=sk at q0 q1 ⊢;clear hu hsk hlen q1 hp;cases u with
 |nil=>
  (repeat(first|apply zae|apply zac|apply zab|apply zad));refine zaa hX zbe rfl ?_ ?_
  ·trivial
  refine zaf rfl (fun _=>?_) (fun hb=>?_)
  ·(repeat(first|apply zae|apply zac|apply zak|apply zad|apply zab|refine zaa hX zbe rfl trivial ?_|refine zaa hX zbe rfl id ?_|refine zaa hX zbe rfl ⟨id,id⟩ ?_));exact AWP.ret ⟨.inr rfl,zat rfl trivial rfl rfl rfl⟩
  ·have hb:eqb .str ([]:List UInt8) []=false:=hb;rw[zbv.2 rfl]at hb;cases hb
 |cons c r=>
  have hrl:r.length≤100000:=by rw[List.length_cons]at hul;omega
  have n1:(1:Int)≤(((c::r).length:Nat):Int):=by rw[List.length_cons];omega
  have n2:(0:Int) < (((c::r).length:Nat):Int):=by rw[List.length_cons];omega
  (repeat(first|apply zae|apply zac|apply zab|apply zad));refine zaa hX zbe rfl ?_ ?_
  ·trivial
  refine zaf rfl (fun hb=>?_) (fun _=>?_)
  ·have hb:eqb .str (c::r:List UInt8) []=true:=hb;cases zbv.1 hb
  apply zac;(repeat(first|apply zae|apply zac|apply zab|apply zad));refine zaa hX zbe rfl ?_ ?_
  ·exact⟨(by decide:(0:Int)≤1),n1⟩
  refine zaq (σ':=⟨[(0,⟨.str,(c::r:List UInt8)⟩),(2,⟨.optr tk,⟨0,tk,.here⟩⟩),(3,⟨i64,(sk:Int)⟩),(4,⟨.optr tk,⟨1,tk,.here⟩⟩)],[(0,some (.box tk zTk)),(1,some (.box tk (5,0,1,[c],0,())))],2⟩) ⟨⟨rfl,rfl,rfl,rfl,trivial⟩,⟨rfl,rfl,trivial⟩,rfl,rfl⟩ ?_;have hwl:=zeC (c::r);refine AWP.via (σ':=⟨[(2,⟨.optr tk,⟨0,tk,.here⟩⟩),(3,⟨i64,(sk:Int)⟩),(4,⟨.optr tk,⟨1,tk,.here⟩⟩)],[(0,some (.box tk zTk)),(1,some (.box tk ((zh4 sk (c::r)).1,0,(zh4 sk (c::r)).2.2)))],2⟩) ?_ ?_
  ·(repeat(first|apply zae|apply zac|apply zab|apply zad));refine zaa hX zbe rfl ?_ ?_
   ·trivial
   have w0':(0:Int)≤((zax (c::r):Nat):Int):=by omega
   have w1':((zax (c::r):Nat):Int)≤(((c::r).length:Nat):Int):=by omega
   (repeat(first|apply zae|apply zac|apply zab|apply zad));refine zaa hX zbe rfl ?_ ?_
   ·trivial
   refine zaf rfl (fun hb=>?_) (fun hb=>?_)
   ·have hb:decide (((zax (c::r):Nat):Int) > 0)=true:=hb;have hb:=of_decide_eq_true hb;(repeat(first|apply zae|apply zac|apply zab|apply zad));refine zaa hX zbe rfl ?_ ?_
    ·exact⟨w0',w1'⟩
    refine⟨⟨rfl,rfl,rfl,trivial⟩,⟨rfl,zfT ?_,trivial⟩,rfl,rfl⟩;rw[zh4,if_pos (by omega)];show ((1:Int),(0:Int),((zax (c::r):Nat):Int),List.take (((zax (c::r):Nat):Int)).toNat (c::r),(0:Int),())=_;rw[Int.toNat_natCast]
   ·have hb:decide (((zax (c::r):Nat):Int) > 0)=false:=hb;have hb0:=of_decide_eq_false hb;have e0:=zn9 sk c r (by omega);rw[e0];have hwr:=zeC r;have v0:(0:Int)≤1:=by decide
    (repeat(first|apply zae|apply zac|apply zab|apply zad));refine zaa hX zbe rfl ?_ ?_
    ·exact⟨v0,n1⟩
    refine zaq (σ':=⟨[(0,⟨.str,(c::r:List UInt8)⟩),(2,⟨.optr tk,⟨0,tk,.here⟩⟩),(3,⟨i64,(sk:Int)⟩),(4,⟨.optr tk,⟨1,tk,.here⟩⟩),(6,⟨i64,((zax r:Nat):Int)⟩)],[(0,some (.box tk zTk)),(1,some (.box tk (5,0,1,[c],0,())))],2⟩) ⟨⟨rfl,rfl,rfl,rfl,rfl,trivial⟩,⟨rfl,rfl,trivial⟩,rfl,rfl⟩ ?_;(repeat(first|apply zae|apply zac|apply zab|apply zad));refine zaa hX zbe rfl ?_ ?_
    ·exact⟨Int.le_refl 0,n2,fun h=>h,fun h=>h⟩
    have ht:(bif (((c.toNat:Nat):Int)==(((64:UInt8).toNat:Nat):Int)) then decide (((zax r:Nat):Int) > 0) else false)=decide (c=64∧0 < zax r):=by
     rw[u8eq,zcn,Bool.eq_iff_iff,Bool.and_eq_true,beq_iff_eq,decide_eq_true_iff,decide_eq_true_iff];constructor
     ·rintro ⟨h1,h2⟩;exact⟨h1,by omega⟩
     ·rintro ⟨h1,h2⟩;exact⟨h1,by omega⟩
    refine zaf rfl (fun hb=>?_) (fun hb=>?_)
    ·have hb:=of_decide_eq_true (ht.symm.trans hb);have g1:inR .i64 (((zax r:Nat):Int)+1):=zar (by omega) (by omega);have g2:(1:Int)≤((zax r:Nat):Int)+1:=by omega
     have g3:((zax r:Nat):Int)+1≤(((c::r).length:Nat):Int):=by rw[List.length_cons];omega
     (repeat(first|apply zae|apply zac|apply zab|apply zad));refine zaa hX zbe rfl ?_ ?_
     ·exact⟨g1,g1,v0,g2,g3⟩
     refine⟨⟨rfl,rfl,rfl,trivial⟩,⟨rfl,zfT ?_,trivial⟩,rfl,rfl⟩;rw[if_pos hb];have e1:(((zax r:Nat):Int)+1).toNat=zax r+1:=by omega
     show ((2:Int),(0:Int),((zax r:Nat):Int)+1,List.drop (1:Int).toNat (List.take (((zax r:Nat):Int)+1).toNat (c::r)),(0:Int),())=_;rw[e1];rfl
    ·have hb:=of_decide_eq_false (ht.symm.trans hb);rw[if_neg hb];(repeat(first|apply zae|apply zac|apply zab|apply zad));refine zaa hX zbe rfl ?_ ?_
     ·exact⟨(by intro h;cases h),hul⟩
     refine zaq (σ':=⟨[(0,⟨.str,(c::r:List UInt8)⟩),(2,⟨.optr tk,⟨0,tk,.here⟩⟩),(3,⟨i64,(sk:Int)⟩),(4,⟨.optr tk,⟨1,tk,.here⟩⟩),(7,⟨.optr tk,⟨2,tk,.here⟩⟩),(8,⟨.bool,(zeX (c::r)).2.1⟩)],[(0,some (.box tk zTk)),(1,some (.box tk (5,0,1,[c],0,()))),(2,some (.box tk (zeX (c::r)).1))],3⟩) ⟨⟨rfl,rfl,rfl,rfl,rfl,rfl,trivial⟩,⟨rfl,rfl,rfl,trivial⟩,rfl,rfl⟩ ?_;unfold zeX;cases zc1 (c::r) with
     |some q=>
      obtain⟨k,n,t,x⟩:=q;(repeat(first|apply zae|apply zac|apply zak|apply zad|apply zab|refine zaa hX zbe rfl trivial ?_|refine zaa hX zbe rfl id ?_|refine zaa hX zbe rfl ⟨id,id⟩ ?_));refine zaf rfl (fun _=>?_) (fun hb=>absurd (show true=false from hb) (by decide));(repeat(first|apply zae|apply zac|apply zak|apply zad|apply zab|refine zaa hX zbe rfl trivial ?_|refine zaa hX zbe rfl id ?_|refine zaa hX zbe rfl ⟨id,id⟩ ?_));exact⟨⟨rfl,rfl,rfl,trivial⟩,⟨rfl,rfl,trivial⟩,rfl,rfl⟩
     |none=>
      (repeat(first|apply zae|apply zac|apply zak|apply zad|apply zab|refine zaa hX zbe rfl trivial ?_|refine zaa hX zbe rfl id ?_|refine zaa hX zbe rfl ⟨id,id⟩ ?_));refine zaf rfl (fun hb=>absurd (show false=true from hb) (by decide)) (fun _=>?_);(repeat(first|apply zae|apply zac|apply zab|apply zad));refine zaa hX zbe rfl ?_ ?_
      ·exact⟨v0,n1,rfl,⟨c,rfl⟩⟩
      refine zaf rfl (fun hb=>?_) (fun hb=>?_)
      ·have hb:=(znP c).1 hb;(repeat(first|apply zae|apply zac|apply zak|apply zad|apply zab|refine zaa hX zbe rfl trivial ?_|refine zaa hX zbe rfl id ?_|refine zaa hX zbe rfl ⟨id,id⟩ ?_));refine⟨⟨rfl,rfl,rfl,trivial⟩,⟨rfl,zfT ?_,trivial⟩,rfl,rfl⟩;simp only[if_pos hb]
      ·have hn:¬ (c=40∨c=41∨c=61):=fun h=>by
        have:=(znP c).2 h;have hb:decide (0≤Lib.indexByte [40,41,61] c)=false:=hb;rw[hb]at this;cases this
       apply zac;refine⟨⟨rfl,rfl,rfl,trivial⟩,⟨rfl,zfT ?_,trivial⟩,rfl,rfl⟩;simp only[if_neg hn]
  ·have hat:(zh4 sk (c::r)).2.1=(sk:Int):=by
    rw[zh4];split
    ·rfl
    ·split
     ·rfl
     ·split
      ·rfl
      ·split<;>rfl
   (repeat(first|apply zae|apply zac|apply zak|apply zad|apply zab|refine zaa hX zbe rfl trivial ?_|refine zaa hX zbe rfl id ?_|refine zaa hX zbe rfl ⟨id,id⟩ ?_));refine AWP.ret ⟨.inr rfl,zat rfl trivial rfl rfl ?_⟩;show ((zh4 sk (c::r)).1,(sk:Int),(zh4 sk (c::r)).2.2)=zh4 sk (c::r);rw[<-hat]
abbrev PsT:=List UInt8×TokT×List Nd×Int×Unit
def stOf (x:PsT):GSt:=(x.2.1,x.2.2.2.1)
abbrev psX (s:List UInt8) (st:GSt) (l:List Nd):PsT:=(s,st.1,l,st.2,())
def pOk (x:PsT):Prop:=GOk x.1 (stOf x)∧x.1.length≤100000
def pvS (e:Int×Int):Value:=.iface 133 (.agg #[.int .i64 e.1,.int .i64 e.2])
def toX {α β:Type} (f:α->β):Except (Int×Int) α->Except Value β
 | .ok a=>.ok (f a)
 | .error e=>.error (pvS e)
@[reducible] def hP (args:List Ty) (res:Ty) (pre:PsT->Args args->List Prop) (out:PsT->Args args->Except Value (res.T×PsT)):HCtr:=
 { self:=ps,k:=6,te:=73,et:=nd,sl:=fun x=>x.2.2.1,args:=args,inv:=ginv,pre:=fun x xs=>pOk x::pre x xs,res:=res,out:=out }
theorem zbg {args:List Ty} {res:Ty} {pre:PsT->Args args->List Prop} {out:PsT->Args args->Except Value (res.T×PsT)}:(hP args res pre out).law:=⟨rfl,fun _=>rfl,fun a h=>by cases h⟩
@[reducible] def pBox (ty:TypeId) (s:List UInt8) (st:GSt):OObj:=.hbox ty [⟨.str,s⟩,⟨i64,st.1.1⟩,⟨i64,st.1.2.1⟩,⟨i64,st.1.2.2.1⟩,⟨.str,st.1.2.2.2.1⟩,⟨i64,st.1.2.2.2.2.1⟩,⟨.obuf nd,(1:Nat)⟩,⟨i64,st.2⟩]
@[reducible] def pE (ty:TypeId) (s:List UInt8) (st:GSt) (l:List Nd):Owns:=[(0,some (pBox ty s st)),(1,some (.buf 73 nd l))]
@[reducible] def pSelf:V:=⟨.hptr,((0:Nat),(0:Nat))⟩
def pQ (rs:List ResultVar) (c:HCtr) (ty:TypeId) (r:Except Value (c.res.T×c.self.T)) (e:Exit) (σ:AS):Prop:=zp6 gmT rs c ty e σ r
theorem zgw {rs:List ResultVar} {c:HCtr} {ty:TypeId} {pv:Value} {σ:AS}:pQ rs c ty (.error pv) (.panic [{ v:=pv,recovered:=false }]) σ:=rfl
theorem zap {α β γ:Type} {f:β->γ} {e:Except (Int×Int) α} {k:α->Except (Int×Int) β} {er:Int×Int} (h:e= .error er):toX f (e >>= k)= .error (pvS er):=by rw[h];rfl
theorem zau {α β γ:Type} {f:β->γ} {e:Except (Int×Int) α} {k:α->Except (Int×Int) β} {a:α} (h:e= .ok a):toX f (e >>= k)=toX f (k a):=by rw[h];rfl
section
variable {P:Program} {K:Kn} {w0:World} {X:Ownr} {n:Nat} {σ:AS} {Q:Exit->AS->Prop} {ops:Array Oper}
theorem zay (m:Nat) (hX:X.Ok w0) (hK:KnOk P X.G K) {C:List (FuncId×HCtr)} (hC:HsOk P X.G C) {l rest:List Oper} {o:Oper} {r:List Prop×AS} (hs:aSeq K n ops (l.take m) σ=some r) (hp:allP r.1) (hl:l.drop m=o::rest) {s:HSite} (hsite:znt C n o r.2=some s)
 (hq:allP s.q) (hinv:∀ w R,(∀ g,R g->w0.heap.size≤g∨X.R g)->X.G w->s.c.inv w R s.ty) {α:Type} {f:α->s.c.res.T×s.c.self.T} {e:Except (Int×Int) α} (hout:s.c.out s.x s.xs=toX f e)
 (herr:∀ er,e= .error er->Q (.panic [{ v:=pvS er,recovered:=false }]) s.lost) (h:∀ a,e= .ok a->AL P w0 X n ops rest (s.next (f a).1 (f a).2) Q)
 (hgd:o.guard=none:=by rfl) (hnd:∀ c,o.op≠ .defer c:=by intro c e;cases e) (hd:zbo (l.take m)=true:=by rfl):AL P w0 X n ops l σ Q:=by
 refine AL.own m hX hK hC hs hp hl hsite hq hinv ?_ hgd hnd hd;rw[hout];cases e with
 |error er=>exact herr er rfl
 |ok a=>exact h a rfl
end
section
variable {P:Program} {K:Kn} {w0:World} {X:Ownr} {n:Nat} {Q:Exit->AS->Prop} {ops:Array Oper}
theorem AL.ownVM (hX:X.Ok w0) {o:Oper} {rest:List Oper} {f:FuncId} {c:HCtr} (hc:zaB P X.G f c) {y a0:Operand} {args:Array Operand} {ts:Array TypeId} (ho:o.op= .call ⟨.value y,args,ts⟩) (hargs:args= #[a0]) (hgd:o.guard=none)
 {F:Frame} {E:Owns} {nx:Nat} (hy:evO F y=⟨.lit,.func (.func f) #[] #[]⟩)
 {i:Nat} (hev:evO F a0=⟨.hptr,(i,(0:Nat))⟩) {ty:TypeId} {vs:List V} (hbox:Owns.get E i=some (.hbox ty vs)) {et:Ty} {j:Nat} (hk:vs[c.k]? =some ⟨.obuf et,j⟩) {xsl:List c.et.T} (hbuf:Owns.get E j=some (.buf c.te c.et xsl))
 {x:c.self.T} (hun:unD c.self ((c.back i vs).set c.k ⟨.slice c.et,xsl⟩)=some (x,[])) (hd:za8 c.args=true) (hfl:c.res.resOk=true)
 {q:List Prop} {xs:Args c.args} (hav:zeB E false [] c.args=some (q,xs)) (hq:allP q) (hpre:allP (c.pre x xs)) (hinv:∀ w R,(∀ g,R g->w0.heap.size≤g∨X.R g)->X.G w->c.inv w R ty) {F':c.res.T->Frame} (hput:∀ y,putD n o.dst (resV c.res y) (Frame.kill j F)=some (F' y))
 {α:Type} {g:α->c.res.T×c.self.T} {e:Except (Int×Int) α} (hout:c.out x xs=toX g e) (herr:∀ er,e= .error er->Q (.panic [{ v:=pvS er,recovered:=false }]) ⟨F,(i,none)::(j,none)::E,nx⟩)
 (h:∀ a,e= .ok a->AL P w0 X n ops rest ⟨F' (g a).1,(i,some (.hbox ty (c.lv i j (g a).2)))::(j,some (.buf c.te c.et (c.sl (g a).2)))::Owns.kill j E,nx⟩ Q):AL P w0 X n ops (o::rest) ⟨F,E,nx⟩ Q:=by
 refine AL.ownV hX hc ho hargs hgd hy hev hbox hk hbuf hun hd hfl hav hq hpre hinv hput ?_;rw[hout];cases e with
 |error er=>exact herr er rfl
 |ok a=>exact h a rfl
end
theorem zk4 {P:Program} {w:World} {t:TypeId} {fs:Array Field} (h:P.underlying t=some (.struct fs)) (x:Value):(Instr.makeInterface t x).run P w= .ok (.iface t x) w:=by
 unfold Instr.makeInterface;simp[run_underlying h]
theorem zhe {P:Program} {w:World} (t:TypeId) (x:Value):(Instr.panic (.iface t x)).run P w= .halt (.panic (.iface t x)) w:=by
 simp[Instr.panic,Sem.run]
@[reducible] def ztL:HCtr:=hP [i64] .unit (fun _ _=>[]) fun x xs=>.error (pvS (Tok.at x.2.1,xs.1))
theorem ztt:zaB Tryz.prog gmH 137 ztL:=by
 refine zav (K:=gmK) zai Tryz.func137 rfl rfl zbg Tryz.call137 rfl (by decide) zaU ?_;rintro w0 ⟨G,O,K,fix,D,ρ,B⟩ ty hX hG hK hρ hD hinv x ⟨(e:Int),⟨⟩⟩ hp;obtain rfl:G=gmH:=hG;obtain rfl:K=1:=hK;obtain rfl:ρ=none:=hρ;obtain rfl:D=[]:=hD;obtain⟨s,t,l,b,⟨⟩⟩:=x;change AWP _ _ _ _ _ ⟨[(0,pSelf),(1,⟨i64,e⟩)],pE ty s (t,b) l,2⟩ (pQ _ ztL ty (.error (pvS (Tok.at t,e))));(repeat(first|apply zae|apply zac|apply zab|apply zad));refine zaj ?_;refine AL.take 7 hX zai rfl trivial ?_;refine AL.hand rfl (fun c e=>by cases e) fun β a w' hs=>?_;have h12:RepD w' _ sto (Tok.at t,e,()) (a.eval (.tmp 10)):=hs.ops (.tmp 10);obtain⟨cs,h1,c1,c2,rfl,h2,c3,c4,rfl,h3,h4⟩:=(RepD.agg rfl).1 h12;have h2:c1=[Value.int .i64 (Tok.at t)]:=h2;have h3:c3=[Value.int .i64 e]:=h3;have h4:c4=[]:=h4;subst h2;subst h3;subst h4;have h1:a.eval (.tmp 10)= .agg #[.int .i64 (Tok.at t),.int .i64 e]:=h1;refine zbE (u:=pvS (Tok.at t,e)) (w':=w') ?_ ⟨⟨(11,⟨.lit,pvS (Tok.at t,e)⟩)::_,_,_⟩,β,hs.put (Below.refl _ _) (v:=⟨.lit,pvS (Tok.at t,e)⟩) rfl (Nat.zero_le _) (by show 11 < 12;omega),?_⟩
 ·show (execOp a.eval { dst:=some 11,op:=Op.makeInterface 133 (.tmp 10),type:=_,pos:=_,after:=_,guard:=none }).run _ _=_;unfold execOp;simp only[h1];exact zel (zk4 Tryz.underlying133 _)
 refine AL.hand rfl (fun c e=>by cases e) fun β a w' hs=>?_;have h13:a.eval (.tmp 11)=pvS (Tok.at t,e):=hs.ops (.tmp 11);have hrun:(execOp a.eval { dst:=none,op:=Op.panic (.tmp 11),type:=0,pos:="",after:=#[],guard:=none }).run Tryz.prog w'= .halt (.panic (pvS (Tok.at t,e))) w':=by
  unfold execOp;simp only[h13];simp[pvS,zhe]
 unfold Oper.wp
 erw [hrun]
 exact⟨fun e=>(by cases e),_,β,hs,rfl⟩
@[reducible] def zgH:HCtr:=hP [.bool,i64] .unit (fun _ _=>[]) fun x xs=>toX (fun _=>((),x)) (zaE (stOf x) xs.1 xs.2.1)
def hFail:List (FuncId×HCtr):=[(137,ztL)]
theorem zra:HsOk Tryz.prog gmH hFail:=.cons ztt .nil
theorem zeQ:zaB Tryz.prog gmH 81 zgH:=by
 refine zav (K:=_) zai Tryz.func81 rfl rfl zbg Tryz.call81 rfl (Nat.le_of_ble_eq_true rfl) zaU ?_;rintro w0 ⟨G,O,K,fix,D,ρ,B⟩ ty hX hG hK hρ hD hinv ⟨(s:List UInt8),(t:TokT),(l:List Nd),(b:Int),⟨⟩⟩ ⟨(c:Bool),(e:Int),⟨⟩⟩ hp;obtain rfl:G=gmH:=hG;obtain rfl:K=1:=hK;obtain rfl:ρ=none:=hρ;obtain rfl:D=[]:=hD;have hI:=zaH (ty:=ty) (ty':=ty) hX rfl hinv;have hok:pOk (s,t,l,b,()):=hp;change AWP _ _ _ _ _ ⟨[(0,pSelf),(1,⟨.bool,c⟩),(2,⟨i64,e⟩)],pE ty s (t,b) l,2⟩ (pQ _ zgH ty (toX (fun _=>((),(s,t,l,b,()))) (zaE (t,b) c e)));(repeat(first|apply zae|apply zac|apply zab|apply zad));refine zaa hX zai rfl ?_ ?_
 ·trivial
 cases c with
 |true=>
  refine zaf rfl (fun hb=>absurd (show false=true from hb) (by decide)) (fun _=>?_);apply zac;exact⟨.inl rfl,⟨_,rfl,nd,1,_,rfl,rfl,rfl⟩,za7 (by decide) rfl rfl trivial rfl⟩
 |false=>
  refine zaf rfl (fun _=>?_) (fun hb=>absurd (show true=false from hb) (by decide));(repeat(first|apply zae|apply zac|apply zab|apply zad));refine zaj ?_;exact AL.own 2 hX zai zra rfl trivial rfl rfl hok hI rfl
@[reducible] def cIs:HCtr:=hP [.str] .bool (fun _ _=>[]) fun x xs=>.ok (gIs (stOf x) xs.1,x)
theorem zq6:zaB Tryz.prog gmH 134 cIs:=by
 refine zav (K:=_) zai Tryz.func134 rfl rfl zbg Tryz.call134 rfl (Nat.le_of_ble_eq_true rfl) zaU ?_;rintro w0 ⟨G,O,K,fix,D,ρ,B⟩ ty hX hG hK hρ hD hinv ⟨(s:List UInt8),(t:TokT),(l:List Nd),(b:Int),⟨⟩⟩ ⟨(u:List UInt8),⟨⟩⟩ hp;obtain rfl:G=gmH:=hG;obtain rfl:K=1:=hK;obtain rfl:ρ=none:=hρ;obtain rfl:D=[]:=hD;have hI:=zaH (ty:=ty) (ty':=ty) hX rfl hinv;change AWP _ _ _ _ _ ⟨[(0,pSelf),(1,⟨.str,u⟩)],pE ty s (t,b) l,2⟩ (pQ _ cIs ty (.ok (gIs (t,b) u,(s,t,l,b,()))));(repeat(first|apply zae|apply zac|apply zab|apply zad));refine zaa hX zai rfl ?_ ?_
 ·trivial
 (repeat(first|apply zae|apply zac|apply zab|apply zad));refine zaa hX zai rfl ?_ ?_
 ·repeat'(first|exact trivial|assumption|(refine⟨?_,?_⟩)|(intro _)|exact Nat.le_of_ble_eq_true rfl|exact Int.natCast_nonneg _|(simp_all [allP];done))
 refine AWP.ret ⟨.inr rfl,⟨_,rfl,nd,1,_,rfl,rfl,rfl⟩,zat rfl trivial rfl rfl ?_⟩;show (bif (bif (t.1==1) then true else (t.1==4)) then eqb .str t.2.2.2.1 u else false)=gIs (t,b) u;rw[zcn,zgm,zdp];rfl
@[reducible] def cAdv:HCtr:=hP [] tk (fun x _=>[]) fun x _=>.ok (x.2.1,psX x.1 (gAdv x.1 (stOf x)) x.2.2.1)
def kAd:Kn:={ gmK with C:=[(79,cScan)] }
theorem zc2:KnOk Tryz.prog gmH kAd:=zai.with (.cons zsD .nil)
theorem zgn:zaB Tryz.prog gmH 87 cAdv:=by
 refine zav (K:=_) zc2 Tryz.func87 rfl rfl zbg Tryz.call87 rfl (Nat.le_of_ble_eq_true rfl) zaU ?_;rintro w0 ⟨G,O,K,fix,D,ρ,B⟩ ty hX hG hK hρ hD hinv ⟨(s:List UInt8),(t:TokT),(l:List Nd),(b:Int),⟨⟩⟩ ⟨⟩ hp;obtain rfl:G=gmH:=hG;obtain rfl:K=1:=hK;obtain rfl:ρ=none:=hρ;obtain rfl:D=[]:=hD;have hI:=zaH (ty:=ty) (ty':=ty) hX rfl hinv;have hok:pOk (s,t,l,b,()):=hp;change AWP _ _ _ _ _ ⟨[(0,pSelf)],pE ty s (t,b) l,2⟩ (pQ _ cAdv ty (.ok (t,psX s (gAdv s (t,b)) l)));(repeat(first|apply zae|apply zac|apply zab|apply zad));refine zaa hX zc2 rfl ?_ ?_
 ·trivial
 obtain⟨⟨⟨⟨a1,a2,a3⟩,-⟩,-⟩,hlen⟩:=hok;have a1:(0:Int)≤t.2.1:=a1;have a2:(0:Int)≤t.2.2.1:=a2;have a3:t.2.1+t.2.2.1≤((s.length:Nat):Int):=a3;have hlen:s.length≤100000:=hlen;have q0:inR .i64 (t.2.1+t.2.2.1):=zar (by omega) (by omega);have q1:(0:Int)≤t.2.1+t.2.2.1:=by omega
 (repeat(first|apply zae|apply zac|apply zab|apply zad));refine zaa hX zc2 rfl ?_ ?_
 ·trivial
 (repeat(first|apply zae|apply zac|apply zab|apply zad));refine zaa hX zc2 rfl ?_ ?_
 ·exact q0
 have hdr:List.length (List.drop (t.2.1+t.2.2.1).toNat s)≤100000:=by rw[List.length_drop];omega
 (repeat(first|apply zae|apply zac|apply zab|apply zad));refine zaa hX zc2 rfl ?_ ?_
 ·exact⟨q1,a3,hdr⟩
 obtain⟨⟨⟨b1,b2,b3⟩,-⟩,b4⟩:=ziV (s:=s) q1 a3;have hsc:=(zlR (s.drop (t.2.1+t.2.2.1).toNat)).1;have hsl:Tok.at (zbd (s.drop (t.2.1+t.2.2.1).toNat))≤100000:=by
  have:=hsc.2.2;have:=hsc.2.1;rw[List.length_drop]at *;omega
 have hsl0:=hsc.1;have q2:inR .i64 (Tok.at (zbd (s.drop (t.2.1+t.2.2.1).toNat))+(t.2.1+t.2.2.1)):=zar (by omega) (by omega);(repeat(first|apply zae|apply zac|apply zab|apply zad));refine zaa hX zc2 rfl ?_ ?_
 ·exact q2
 (repeat(first|apply zae|apply zac|apply zak|apply zad|apply zab|refine zaa hX zc2 rfl trivial ?_|refine zaa hX zc2 rfl id ?_|refine zaa hX zc2 rfl ⟨id,id⟩ ?_));exact AWP.ret ⟨.inr rfl,⟨_,rfl,nd,1,_,rfl,rfl,rfl⟩,zat rfl trivial rfl rfl rfl⟩
def hEx:List (FuncId×HCtr):=[(134,cIs),(81,zgH),(87,cAdv)]
theorem zdL:HsOk Tryz.prog gmH hEx:=.cons zq6 <| .cons zeQ <| .cons zgn .nil
@[reducible] def zgk:HCtr:=hP [.str] .unit (fun _ _=>[]) fun x xs=>toX (fun st=>((),psX x.1 st x.2.2.1)) (zaS x.1 (stOf x) xs.1)
theorem zfM:zaB Tryz.prog gmH 88 zgk:=by
 refine zav (K:=_) zai Tryz.func88 rfl rfl zbg Tryz.call88 rfl (Nat.le_of_ble_eq_true rfl) zaU ?_;rintro w0 ⟨G,O,K,fix,D,ρ,B⟩ ty hX hG hK hρ hD hinv ⟨(s:List UInt8),(t:TokT),(l:List Nd),(b:Int),⟨⟩⟩ ⟨(u:List UInt8),⟨⟩⟩ hp;obtain rfl:G=gmH:=hG;obtain rfl:K=1:=hK;obtain rfl:ρ=none:=hρ;obtain rfl:D=[]:=hD;have hI:=zaH (ty:=ty) (ty':=ty) hX rfl hinv;have hok:pOk (s,t,l,b,()):=hp;change AWP _ _ _ _ _ ⟨[(0,pSelf),(1,⟨.str,u⟩)],pE ty s (t,b) l,2⟩ (pQ _ zgk ty (toX (fun st=>((),psX s st l)) (zaS s (t,b) u)));(repeat(first|apply zae|apply zac|apply zab|apply zad));refine zaj ?_;refine AL.own 3 hX zai zdL rfl trivial rfl rfl hok hI ?_;refine zay 0 hX zai zdL rfl trivial rfl rfl hok hI (e:=zaE (t,b) (gIs (t,b) u) 3) rfl (fun er h=>?_) (fun a h=>?_)
 ·unfold zaS;rw[zap h];exact zgw
 unfold zaS;rw[zau h];refine AL.nil ?_;(repeat(first|apply zae|apply zac|apply zab|apply zad));refine zaj ?_;refine AL.own 1 hX zai zdL rfl trivial rfl rfl hok hI ?_;refine AL.nil ?_;exact⟨.inl rfl,⟨_,rfl,nd,1,_,rfl,rfl,rfl⟩,za7 (by decide) rfl rfl trivial rfl⟩
@[reducible] def zkJ:HCtr:=hP [] .unit (fun _ _=>[]) fun x _=>toX (fun st=>((),psX x.1 st x.2.2.1)) (zbN x.1 (stOf x))
theorem zjv:zaB Tryz.prog gmH 135 zkJ:=by
 refine zav (K:=_) zai Tryz.func135 rfl rfl zbg Tryz.call135 rfl (Nat.le_of_ble_eq_true rfl) zaU ?_;rintro w0 ⟨G,O,K,fix,D,ρ,B⟩ ty hX hG hK hρ hD hinv ⟨(s:List UInt8),(t:TokT),(l:List Nd),(b:Int),⟨⟩⟩ ⟨⟩ hp;obtain rfl:G=gmH:=hG;obtain rfl:K=1:=hK;obtain rfl:ρ=none:=hρ;obtain rfl:D=[]:=hD;have hI:=zaH (ty:=ty) (ty':=ty) hX rfl hinv;have hok:pOk (s,t,l,b,()):=hp;change AWP _ _ _ _ _ ⟨[(0,pSelf)],pE ty s (t,b) l,2⟩ (pQ _ zkJ ty (toX (fun st=>((),psX s st l)) (zbN s (t,b))));(repeat(first|apply zae|apply zac|apply zab|apply zad));refine zaj ?_;refine zay 6 hX zai zdL rfl trivial rfl rfl hok hI (e:=zaE (t,b) (decide (b < 64)) 2) rfl (fun er h=>?_) (fun a h=>?_)
 ·unfold zbN;rw[zap h];exact zgw
 unfold zbN;rw[zau h];have hb:=of_decide_eq_true (zaW h);obtain⟨⟨g1,g2,g3⟩,hlen⟩:=id hok;have g2:(0:Int)≤b:=g2;have q0:inR .i64 (b+1):=zar (by omega) (by omega);have hok2:pOk (s,t,l,b+1,()):=⟨⟨g1,(by omega:(0:Int)≤b+1),(by omega:b+1≤64)⟩,hlen⟩;refine AL.nil ?_;(repeat(first|apply zae|apply zac|apply zab|apply zad));refine zaa hX zai rfl ?_ ?_
 ·exact q0
 (repeat(first|apply zae|apply zac|apply zab|apply zad));refine zaj ?_;refine AL.own 1 hX zai zdL rfl trivial rfl rfl hok2 hI ?_;refine AL.nil ?_;exact⟨.inl rfl,⟨_,rfl,nd,1,_,rfl,rfl,rfl⟩,za7 (by decide) rfl rfl trivial rfl⟩
@[reducible] def zgj:HCtr:=hP [i64,i64] i64 (fun _ _=>[]) fun x xs=>toX (fun r=>(r.1,psX x.1 r.2 x.2.2.1)) (zaL x.1 (stOf x) xs.1 xs.2.1)
theorem zfz:zaB Tryz.prog gmH 202 zgj:=by
 refine zav (K:=_) zai Tryz.func202 rfl rfl zbg Tryz.call202 rfl (Nat.le_of_ble_eq_true rfl) zaU ?_;rintro w0 ⟨G,O,K,fix,D,ρ,B⟩ ty hX hG hK hρ hD hinv ⟨(s:List UInt8),(t:TokT),(l:List Nd),(b:Int),⟨⟩⟩ ⟨(lo:Int),(hi:Int),⟨⟩⟩ hp;obtain rfl:G=gmH:=hG;obtain rfl:K=1:=hK;obtain rfl:ρ=none:=hρ;obtain rfl:D=[]:=hD;have hI:=zaH (ty:=ty) (ty':=ty) hX rfl hinv;have hok:pOk (s,t,l,b,()):=hp;change AWP _ _ _ _ _ ⟨[(0,pSelf),(1,⟨i64,lo⟩),(2,⟨i64,hi⟩)],pE ty s (t,b) l,2⟩ (pQ _ zgj ty (toX (fun r=>(r.1,psX s r.2 l)) (zaL s (t,b) lo hi)));unfold zaL;(repeat(first|apply zae|apply zac|apply zab|apply zad));refine zaa hX zai rfl ?_ ?_
 ·trivial
 (repeat(first|apply zae|apply zac|apply zab|apply zad));refine zaj ?_;refine zay 7 hX zai zdL rfl trivial rfl rfl hok hI (e:=zaE (t,b) (Tok.cls t==3) 3) rfl (fun er h=>?_) (fun a h=>?_)
 ·rw[zap h];exact zgw
 rw[zau h];refine AL.nil ?_;(repeat(first|apply zae|apply zac|apply zab|apply zad));refine zaj ?_;refine AL.fit (σ':=⟨[(0,pSelf),(1,⟨i64,lo⟩),(2,⟨i64,hi⟩)],pE ty s (t,b) l,2⟩) ⟨⟨rfl,rfl,rfl,trivial⟩,⟨rfl,rfl,trivial⟩,rfl,rfl⟩ ?_;refine zay 17 hX zai zdL rfl ?_ rfl rfl hok hI (e:=zaE (t,b) (bif decide (lo≤Tok.n t) then decide (Tok.n t≤hi) else false) 1) rfl (fun er h=>?_) (fun a h=>?_)
 ·repeat'(first|exact trivial|assumption|(refine⟨?_,?_⟩)|(intro _)|exact Nat.le_of_ble_eq_true rfl|exact Int.natCast_nonneg _|(simp_all [allP];done))
 ·rw[zcn]at h;rw[zap h];exact zgw
 rw[zcn]at h;rw[zau h];refine AL.nil ?_;refine zaq (σ':=⟨[(0,pSelf),(1,⟨i64,lo⟩),(2,⟨i64,hi⟩)],pE ty s (t,b) l,2⟩) ⟨⟨rfl,rfl,rfl,trivial⟩,⟨rfl,rfl,trivial⟩,rfl,rfl⟩ ?_;(repeat(first|apply zae|apply zac|apply zab|apply zad));refine zaj ?_;refine AL.own 1 hX zai zdL rfl trivial rfl rfl hok hI ?_;refine AL.all hX zai rfl trivial ?_;exact AWP.ret ⟨.inr rfl,⟨_,rfl,nd,1,_,rfl,rfl,rfl⟩,zat rfl trivial rfl rfl rfl⟩
@[reducible] def zhO:HCtr:=hP [] i64 (fun _ _=>[]) fun x _=>toX (fun r=>(r.1,psX x.1 r.2 x.2.2.1)) (gCal x.1 (stOf x))
def hCal:List (FuncId×HCtr):=[(202,zgj)]
theorem ztf:HsOk Tryz.prog gmH hCal:=.cons zfz .nil
theorem zlB:zaB Tryz.prog gmH 209 zhO:=by
 refine zav (K:=_) zai Tryz.func209 rfl rfl zbg Tryz.call209 rfl (Nat.le_of_ble_eq_true rfl) zaU ?_;rintro w0 ⟨G,O,K,fix,D,ρ,B⟩ ty hX hG hK hρ hD hinv ⟨(s:List UInt8),(t:TokT),(l:List Nd),(b:Int),⟨⟩⟩ ⟨⟩ hp;obtain rfl:G=gmH:=hG;obtain rfl:K=1:=hK;obtain rfl:ρ=none:=hρ;obtain rfl:D=[]:=hD;have hI:=zaH (ty:=ty) (ty':=ty) hX rfl hinv;have hok:pOk (s,t,l,b,()):=hp;change AWP _ _ _ _ _ ⟨[(0,pSelf)],pE ty s (t,b) l,2⟩ (pQ _ zhO ty (toX (fun r=>(r.1,psX s r.2 l)) (zaL s (t,b) 0 2)));(repeat(first|apply zae|apply zac|apply zab|apply zad));refine zaa hX zai rfl ?_ ?_
 ·trivial
 (repeat(first|apply zae|apply zac|apply zab|apply zad));refine zaj ?_;refine zay 1 hX zai ztf rfl trivial rfl rfl hok hI (e:=zaL s (t,b) 0 2) rfl (fun er h=>?_) (fun a h=>?_)
 ·rw[h];exact zgw
 rw[h];refine AL.all hX zai rfl trivial ?_;exact AWP.ret ⟨.inr rfl,⟨_,rfl,nd,1,_,rfl,rfl,rfl⟩,zat rfl trivial rfl rfl rfl⟩
@[reducible] def zpM:HCtr:=hP [] i64 (fun _ _=>[]) fun x _=>toX (fun r=>(r.1,psX x.1 r.2 x.2.2.1)) (zdy x.1 (stOf x))
theorem zqn:zaB Tryz.prog gmH 210 zpM:=by
 refine zav (K:=_) zai Tryz.func210 rfl rfl zbg Tryz.call210 rfl (Nat.le_of_ble_eq_true rfl) zaU ?_;rintro w0 ⟨G,O,K,fix,D,ρ,B⟩ ty hX hG hK hρ hD hinv ⟨(s:List UInt8),(t:TokT),(l:List Nd),(b:Int),⟨⟩⟩ ⟨⟩ hp;obtain rfl:G=gmH:=hG;obtain rfl:K=1:=hK;obtain rfl:ρ=none:=hρ;obtain rfl:D=[]:=hD;have hI:=zaH (ty:=ty) (ty':=ty) hX rfl hinv;have hok:pOk (s,t,l,b,()):=hp;change AWP _ _ _ _ _ ⟨[(0,pSelf)],pE ty s (t,b) l,2⟩ (pQ _ zpM ty (toX (fun r=>(r.1,psX s r.2 l)) (zdy s (t,b))));unfold zdy;(repeat(first|apply zae|apply zac|apply zab|apply zad));refine zaa hX zai rfl ?_ ?_
 ·trivial
 (repeat(first|apply zae|apply zac|apply zab|apply zad));refine zaj ?_;refine AL.own 2 hX zai zdL rfl trivial rfl rfl hok hI ?_;cases hm:gIs (t,b) zig with
 |true=>
  rw[Bool.true_or];refine AL.fit (σ':=⟨[(0,pSelf),(3,pSelf),(5,⟨.bool,true⟩)],pE ty s (t,b) l,2⟩) ⟨⟨rfl,rfl,zc6 hm,trivial⟩,⟨rfl,rfl,trivial⟩,rfl,rfl⟩ ?_;refine AL.take 1 hX zai rfl trivial ?_;refine AL.guardF 3 6 false .bool false rfl rfl rfl rfl rfl rfl ?_;refine AL.guardF 3 6 false .bool false rfl rfl rfl rfl rfl rfl ?_;refine AL.own 1 hX zai zdL rfl id rfl rfl hok hI ?_;refine AL.nil ?_;refine zaq (σ':=⟨[(0,pSelf)],pE ty s (t,b) l,2⟩) ⟨⟨rfl,trivial⟩,⟨rfl,rfl,trivial⟩,rfl,rfl⟩ ?_;(repeat(first|apply zae|apply zac|apply zab|apply zad));refine zaj ?_;refine AL.own 1 hX zai zdL rfl trivial rfl rfl hok hI ?_;refine AL.all hX zai rfl trivial ?_;refine zaf rfl (fun hb=>?_) (fun hb=>?_)
  ·have hb:eqb .str t.2.2.2.1 zd1=true:=hb;have hb:Tok.text t=zd1:=zbv.1 hb;(repeat(first|apply zae|apply zac|apply zak|apply zad|apply zab|refine zaa hX zai rfl trivial ?_|refine zaa hX zai rfl id ?_|refine zaa hX zai rfl ⟨id,id⟩ ?_));refine AWP.ret ⟨.inr rfl,⟨_,rfl,nd,1,_,rfl,rfl,rfl⟩,zat rfl trivial rfl rfl ?_⟩;show (1:Int)=if Tok.text t=zd1 then 1 else 0
   rw[if_pos hb]
  ·have hb:eqb .str t.2.2.2.1 zd1=false:=hb;have hb:¬ Tok.text t=zd1:=fun h=>by rw[zbv.2 h]at hb;cases hb
   (repeat(first|apply zae|apply zac|apply zak|apply zad|apply zab|refine zaa hX zai rfl trivial ?_|refine zaa hX zai rfl id ?_|refine zaa hX zai rfl ⟨id,id⟩ ?_));refine AWP.ret ⟨.inr rfl,⟨_,rfl,nd,1,_,rfl,rfl,rfl⟩,zat rfl trivial rfl rfl ?_⟩;show (0:Int)=if Tok.text t=zd1 then 1 else 0
   rw[if_neg hb]
 |false=>
  rw[Bool.false_or];refine AL.fit (σ':=⟨[(0,pSelf),(3,pSelf),(5,⟨.bool,false⟩)],pE ty s (t,b) l,2⟩) ⟨⟨rfl,rfl,zc6 hm,trivial⟩,⟨rfl,rfl,trivial⟩,rfl,rfl⟩ ?_;refine AL.take 1 hX zai rfl trivial ?_;refine AL.guardT 3 6 false rfl rfl rfl rfl ?_;refine AL.take 1 hX zai rfl trivial ?_;refine AL.guardT 3 6 false rfl rfl rfl rfl ?_;refine AL.own 0 hX zai zdL rfl trivial rfl rfl hok hI ?_;refine zay 1 hX zai zdL rfl trivial rfl rfl hok hI (e:=zaE (t,b) (gIs (t,b) zd1) 3) rfl (fun er h=>?_) (fun a h=>?_)
  ·rw[zap h];exact zgw
  rw[zau h];refine AL.nil ?_;refine zaq (σ':=⟨[(0,pSelf)],pE ty s (t,b) l,2⟩) ⟨⟨rfl,trivial⟩,⟨rfl,rfl,trivial⟩,rfl,rfl⟩ ?_;(repeat(first|apply zae|apply zac|apply zab|apply zad));refine zaj ?_;refine AL.own 1 hX zai zdL rfl trivial rfl rfl hok hI ?_;refine AL.all hX zai rfl trivial ?_;refine zaf rfl (fun hb=>?_) (fun hb=>?_)
  ·have hb:eqb .str t.2.2.2.1 zd1=true:=hb;have hb:Tok.text t=zd1:=zbv.1 hb;(repeat(first|apply zae|apply zac|apply zak|apply zad|apply zab|refine zaa hX zai rfl trivial ?_|refine zaa hX zai rfl id ?_|refine zaa hX zai rfl ⟨id,id⟩ ?_));refine AWP.ret ⟨.inr rfl,⟨_,rfl,nd,1,_,rfl,rfl,rfl⟩,zat rfl trivial rfl rfl ?_⟩;show (1:Int)=if Tok.text t=zd1 then 1 else 0
   rw[if_pos hb]
  ·have hb:eqb .str t.2.2.2.1 zd1=false:=hb;have hb:¬ Tok.text t=zd1:=fun h=>by rw[zbv.2 h]at hb;cases hb
   (repeat(first|apply zae|apply zac|apply zak|apply zad|apply zab|refine zaa hX zai rfl trivial ?_|refine zaa hX zai rfl id ?_|refine zaa hX zai rfl ⟨id,id⟩ ?_));refine AWP.ret ⟨.inr rfl,⟨_,rfl,nd,1,_,rfl,rfl,rfl⟩,zat rfl trivial rfl rfl ?_⟩;show (0:Int)=if Tok.text t=zd1 then 1 else 0
   rw[if_neg hb]
@[reducible] def cAdd:HCtr:=hP [nd] i64 (fun x _=>[List.length x.2.2.1≤100000]) fun x xs=>.ok (((x.2.2.1.length:Nat):Int),psX x.1 (stOf x) (x.2.2.1++ [xs.1]))
theorem zp1:zaB Tryz.prog gmH 136 cAdd:=by
 refine zav (K:=_) zai Tryz.func136 rfl rfl zbg Tryz.call136 rfl (Nat.le_of_ble_eq_true rfl) zaU ?_;rintro w0 ⟨G,O,K,fix,D,ρ,B⟩ ty hX hG hK hρ hD hinv ⟨(s:List UInt8),(t:TokT),(l:List Nd),(b:Int),⟨⟩⟩ ⟨(m:Nd),⟨⟩⟩ hp;obtain rfl:G=gmH:=hG;obtain rfl:K=1:=hK;obtain rfl:ρ=none:=hρ;obtain rfl:D=[]:=hD;have hI:=zaH (ty:=ty) (ty':=ty) hX rfl hinv;obtain⟨hok,hl⟩:pOk (s,t,l,b,())∧l.length≤100000:=hp;change AWP _ _ _ _ _ ⟨[(0,pSelf),(1,⟨nd,m⟩)],pE ty s (t,b) l,2⟩ (pQ _ cAdd ty (.ok (((l.length:Nat):Int),psX s (t,b) (l++ [m]))));(repeat(first|apply zae|apply zac|apply zab|apply zad));refine zaa hX zai rfl ?_ ?_
 ·trivial
 have hcap:l.length+1≤1000000000:=by omega
 apply zae;refine AWP.drawF (d:=5) (src:=.tmp 0) rfl (.cons (.of_eq (OpEq.refl _) rfl (by intro h;cases h) (by intro t h;cases h;intro h;cases h) (.inr (by intro ev ev' h;simp[execOp,resolve,h]))) <| .cons (.of_eq (OpEq.refl _) rfl (by intro h;cases h) (by intro t h;cases h;intro h;cases h) (.inr (by intro ev ev' h;simp[execOp,resolve,h]))) <| .cons (.of_eq (OpEq.refl _) rfl (by intro h;cases h) (by intro t h;cases h;intro h;cases h) (.inr (by intro ev ev' h;simp[execOp,resolve,h]))) <| .cons (.of_eq (OpEq.refl _) rfl (by intro h;cases h) (by intro t h;cases h;intro h;cases h) (.inr (by intro ev ev' h;simp[execOp,resolve,h]))) <| .cons (.of_eq (OpEq.refl _) rfl (by intro h;cases h) (by intro t h;cases h;intro h;cases h) (.inr (by intro ev ev' h;simp[execOp,resolve,h]))) <| .cons (.of_eq (OpEq.refl _) rfl (by intro h;cases h) (by intro t h;cases h;intro h;cases h) (.inr (by intro ev ev' h;simp[execOp,resolve,h]))) <| .cons (.edge 0 rfl (by intro h;cases h) (by intro t h;cases h;intro h;cases h) (.inr (by intro ev ev' h;simp[execOp,resolve,h]))) <| .cons (.of_eq (OpEq.refl _) rfl (by intro h;cases h) (by intro t h;cases h;intro h;cases h) (.inl ⟨_,Array.mem_of_getElem? (i:=0) rfl,by decide,rfl⟩)) <| .cons (.of_eq (OpEq.refl _) rfl (by intro h;cases h) (by intro t h;cases h;intro h;cases h) (.inr (by intro ev ev' h;simp[execOp,resolve,h]))) <| .cons (.of_eq (OpEq.refl _) rfl (by intro h;cases h) (by intro t h;cases h;intro h;cases h) (.inr (by intro ev ev' h;simp[execOp,resolve,h]))) <| .nil) rfl rfl rfl rfl (by intro h;cases h) dM hX zai 7 (by kernel_rfl) rfl rfl ?_ ?_ ?_
 ·trivial
 ·exact hcap
 have q0:inR .i64 ((((l++ [m]).length:Nat):Int) - 1):=by rw[show (l++ [m]).length=l.length+1 by simp];exact zar (by omega) (by omega)
 (repeat(first|apply zae|apply zac|apply zab|apply zad));refine zaa hX zai rfl ?_ ?_
 ·exact q0
 refine AWP.ret ⟨.inr rfl,⟨_,rfl,nd,1,_,rfl,rfl,rfl⟩,zat rfl trivial rfl rfl ?_⟩;show (((l++ [m]).length:Nat):Int) - 1=((l.length:Nat):Int);rw[List.length_append];simp
@[reducible] def ztK:HCtr:=hP [i64,i64,.bool] ints (fun _ xs=>[-1000≤xs.1,xs.1≤1000]) fun x xs=>toX (fun r=>(r.1,psX x.1 r.2 x.2.2.1)) (zc4 x.1 (stOf x) xs.1 xs.2.1 xs.2.2.1)
def hLi:List (FuncId×HCtr):=[(134,cIs),(81,zgH),(88,zgk),(202,zgj)]
theorem zgC:HsOk Tryz.prog gmH hLi:=.cons zq6 <| .cons zeQ <| .cons zfM <| .cons zfz .nil
@[reducible] def lS (ty:TypeId) (s:List UInt8) (l:List Nd) (lo hi:Int) (z:Bool) (st:GSt) (acc:List Int):AS:=
 ⟨[(0,pSelf),(1,⟨i64,lo⟩),(2,⟨i64,hi⟩),(3,⟨.bool,z⟩),(9,⟨.obuf i64,(2:Nat)⟩),(10,⟨i64,acc.getLast?.getD (lo - 1)⟩)],[(0,some (pBox ty s st)),(1,some (.buf 73 nd l)),(2,some (.buf 3 i64 acc))],3⟩
theorem lt64 (n:Nat):decide (((n:Nat):Int) < 64)=decide (n < 64):=by
 rw[Bool.eq_iff_iff,decide_eq_true_iff,decide_eq_true_iff];omega
theorem ztj {s:List UInt8} {lo hi:Int} {z:Bool} {j:Nat} {st:GSt} {acc:List Int} (h:(!acc.isEmpty&&gIs st zdg)=false):zb9 s lo hi z (j+1) st acc=(zaE st (Tok.cls st.1==3) 3 >>= fun _=>zaE st (decide (acc.length < 64)) 2 >>= fun _=>zaE st (decide (Tok.n st.1 > acc.getLast?.getD (lo - 1))&&(z||(Tok.n st.1 != 0))) 1 >>= fun _=>zaL s st lo hi >>= fun p=>zb9 s lo hi z j p.2 (acc++ [p.1])):=by
 rw[zb9,if_neg (by rw[h];decide)]
theorem zsY:zaB Tryz.prog gmH 206 ztK:=by
 refine zav (K:=_) zai Tryz.func206 rfl rfl zbg Tryz.call206 rfl (Nat.le_of_ble_eq_true rfl) zaU ?_;rintro w0 ⟨G,O,K,fix,D,ρ,B⟩ ty hX hG hK hρ hD hinv ⟨(s:List UInt8),(t:TokT),(l:List Nd),(b:Int),⟨⟩⟩ ⟨(lo:Int),(hi:Int),(z:Bool),⟨⟩⟩ hp;obtain rfl:G=gmH:=hG;obtain rfl:K=1:=hK;obtain rfl:ρ=none:=hρ;obtain rfl:D=[]:=hD;have hI:=zaH (ty:=ty) (ty':=ty) hX rfl hinv;obtain⟨hok,hlo1,hlo2⟩:pOk (s,t,l,b,())∧ -1000≤lo∧lo≤1000:=hp;change AWP _ _ _ _ _ ⟨[(0,pSelf),(1,⟨i64,lo⟩),(2,⟨i64,hi⟩),(3,⟨.bool,z⟩)],pE ty s (t,b) l,2⟩ (pQ _ ztK ty (toX (fun r=>(r.1,psX s r.2 l)) (zc4 s (t,b) lo hi z)));unfold zc4;(repeat(first|apply zae|apply zac|apply zak|apply zad|apply zab|refine zaa hX zai rfl trivial ?_|refine zaa hX zai rfl id ?_|refine zaa hX zai rfl ⟨id,id⟩ ?_));(repeat(first|apply zae|apply zac|apply zab|apply zad));refine zaj ?_;refine zay 1 hX zai zgC rfl trivial rfl rfl hok hI (e:=zaS s (t,b) zfj) rfl (fun er h=>?_) (fun st1 h=>?_)
 ·rw[zap h];exact zgw
 rw[zau h];have hok1:GOk s st1:=(zbk hok.1 h).1;have hsl:s.length≤100000:=hok.2;refine AL.nil ?_;(repeat(first|apply zae|apply zac|apply zab|apply zad));refine zaa hX zai rfl ?_ ?_
 ·exact zar (by omega) (by omega)
 refine AWP.nilBuf hX 9 3 i64 rfl rfl rfl ?_;apply zab;refine AWP.loop (ι:=Nat×GSt×List Int) (fun i=>lS ty s l lo hi z i.2.1 i.2.2) (fun i=>zb9 s lo hi z 66 st1 []=zb9 s lo hi z i.1 i.2.1 i.2.2∧i.2.2.length+i.1=66∧GOk s i.2.1∧i.2.2.length≤64) (fun i=>i.1) (66,st1,[]) ⟨rfl,rfl,hok1,Nat.zero_le _⟩ ⟨⟨rfl,rfl,rfl,rfl,rfl,rfl,trivial⟩,⟨rfl,rfl,rfl,trivial⟩,rfl,rfl⟩ ?_;rintro ⟨k,st,acc⟩ ⟨heq,hk,hst,hacc⟩;have hst2:pOk (s,st.1,l,st.2,()):=⟨hst,hsl⟩;have heq:zb9 s lo hi z 66 st1 []=zb9 s lo hi z k st acc:=heq;have hk:acc.length+k=66:=hk;have hacc:acc.length≤64:=hacc;obtain⟨j,rfl⟩:∃ j,k=j+1:=⟨k - 1,by omega⟩;rw[heq];obtain⟨R,hR⟩:∃ R,R=zb9 s lo hi z (j+1) st acc:=⟨_,rfl⟩;rw[<-hR];have hR0:=hR;apply zae;by_cases htest:(!acc.isEmpty&&gIs st zdg)=true
 ·obtain⟨hne,hcl⟩:=(Bool.and_eq_true _ _).mp htest;have hR2:R= .ok (acc,st):=hR.trans (if_pos htest);have hlen:(((acc.length:Nat):Int)==0)=false:=by
   cases acc with
   |nil=>cases hne
   |cons a r=>rw[List.length_cons];exact beq_false_of_ne (by omega)
  apply zae;refine zaj ?_;refine AL.take 4 hX zai rfl trivial ?_;refine AL.fit (σ':=⟨[(0,pSelf),(9,⟨.obuf i64,(2:Nat)⟩),(18,⟨.bool,false⟩)],[(0,some (pBox ty s st)),(1,some (.buf 73 nd l)),(2,some (.buf 3 i64 acc))],3⟩) ⟨⟨rfl,rfl,zc6 hlen,trivial⟩,⟨rfl,rfl,rfl,trivial⟩,rfl,rfl⟩ ?_;refine AL.guardT 3 18 false rfl rfl rfl rfl ?_;refine AL.take 1 hX zai rfl trivial ?_;refine AL.guardT 3 18 false rfl rfl rfl rfl ?_;refine AL.own 0 hX zai zgC rfl trivial rfl rfl hst2 hI ?_;refine AL.guardT 3 18 false rfl rfl rfl rfl ?_;refine AL.all hX zai rfl trivial ?_;refine zaf rfl (fun hb=>?_) (fun _=>?_)
  ·have hb:(!gIs st zdg)=true:=hb;rw[hcl]at hb;cases hb
  apply zad;rw[zau hR2];refine zaq (σ':=⟨[(0,pSelf),(9,⟨.obuf i64,(2:Nat)⟩)],[(0,some (pBox ty s st)),(1,some (.buf 73 nd l)),(2,some (.buf 3 i64 acc))],3⟩) ⟨⟨rfl,rfl,trivial⟩,⟨rfl,rfl,rfl,trivial⟩,rfl,rfl⟩ ?_;(repeat(first|apply zae|apply zac|apply zab|apply zad));refine zaj ?_;refine zay 1 hX zai zgC rfl trivial rfl rfl hst2 hI (e:=zaS s st zdg) rfl (fun er h=>?_) (fun st2 h=>?_)
  ·rw[zap h];exact zgw
  rw[zau h];refine AL.nil ?_;refine AWP.frz hX 9 ?_;(repeat(first|apply zae|apply zac|apply zak|apply zad|apply zab|refine zaa hX zai rfl trivial ?_|refine zaa hX zai rfl id ?_|refine zaa hX zai rfl ⟨id,id⟩ ?_));exact AWP.ret ⟨.inr rfl,⟨_,rfl,nd,1,_,rfl,rfl,rfl⟩,zat rfl trivial rfl rfl rfl⟩
 have htest:(!acc.isEmpty&&gIs st zdg)=false:=by simpa using htest
 refine AWP.viaQ (σ':=lS ty s l lo hi z st acc) ?_ ?_
 ·apply zae;refine zaj ?_;refine AL.take 4 hX zai rfl trivial ?_;cases acc with
  |nil=>
   refine AL.fit (σ':=⟨[(0,pSelf),(1,⟨i64,lo⟩),(2,⟨i64,hi⟩),(3,⟨.bool,z⟩),(9,⟨.obuf i64,(2:Nat)⟩),(10,⟨i64,([]:List Int).getLast?.getD (lo - 1)⟩),(18,⟨.bool,true⟩)],[(0,some (pBox ty s st)),(1,some (.buf 73 nd l)),(2,some (.buf 3 i64 []))],3⟩) ⟨⟨rfl,rfl,rfl,rfl,rfl,rfl,rfl,trivial⟩,⟨rfl,rfl,rfl,trivial⟩,rfl,rfl⟩ ?_;refine AL.guardF 3 18 false .bool false rfl rfl rfl rfl rfl rfl ?_;refine AL.guardF 3 18 false .bool false rfl rfl rfl rfl rfl rfl ?_;refine AL.guardF 3 18 false .bool false rfl rfl rfl rfl rfl rfl ?_;refine AL.all hX zai rfl id ?_;refine zaf rfl (fun _=>?_) (fun hb=>absurd (show true=false from hb) (by decide));apply zac;exact⟨⟨rfl,rfl,rfl,rfl,rfl,rfl,trivial⟩,⟨rfl,rfl,rfl,trivial⟩,rfl,rfl⟩
  |cons a r=>
   have hcl:gIs st zdg=false:=htest;have hlen:(((((a::r:List Int)).length:Nat):Int)==0)=false:=by
    rw[List.length_cons];exact beq_false_of_ne (by omega)
   refine AL.fit (σ':=⟨[(0,pSelf),(1,⟨i64,lo⟩),(2,⟨i64,hi⟩),(3,⟨.bool,z⟩),(9,⟨.obuf i64,(2:Nat)⟩),(10,⟨i64,(a::r:List Int).getLast?.getD (lo - 1)⟩),(18,⟨.bool,false⟩)],[(0,some (pBox ty s st)),(1,some (.buf 73 nd l)),(2,some (.buf 3 i64 (a::r)))],3⟩) ⟨⟨rfl,rfl,rfl,rfl,rfl,rfl,zc6 hlen,trivial⟩,⟨rfl,rfl,rfl,trivial⟩,rfl,rfl⟩ ?_;refine AL.guardT 3 18 false rfl rfl rfl rfl ?_;refine AL.take 1 hX zai rfl trivial ?_;refine AL.guardT 3 18 false rfl rfl rfl rfl ?_;refine AL.own 0 hX zai zgC rfl trivial rfl rfl hst2 hI ?_;refine AL.guardT 3 18 false rfl rfl rfl rfl ?_;refine AL.all hX zai rfl trivial ?_;refine zaf rfl (fun _=>?_) (fun hb=>?_)
   ·apply zac;exact⟨⟨rfl,rfl,rfl,rfl,rfl,rfl,trivial⟩,⟨rfl,rfl,rfl,trivial⟩,rfl,rfl⟩
   ·have hb:(!gIs st zdg)=false:=hb;rw[hcl]at hb;cases hb
 have hR:=hR.trans (ztj htest);apply zae;apply zab;(repeat(first|apply zae|apply zac|apply zab|apply zad));refine zaj ?_;refine zay 7 hX zai zgC rfl trivial rfl rfl hst2 hI (e:=zaE st (Tok.cls st.1==3) 3) rfl (fun er h=>?_) (fun u1 h1=>?_)
 ·rw[zap (hR.trans (by first|(rw[h];done)|(rw[h];rfl)))];exact rfl
 replace hR:=hR.trans (show _=_ by rw[h1])
 refine AL.nil ?_;refine zaq (σ':=lS ty s l lo hi z st acc) ⟨⟨rfl,rfl,rfl,rfl,rfl,rfl,trivial⟩,⟨rfl,rfl,rfl,trivial⟩,rfl,rfl⟩ ?_;(repeat(first|apply zae|apply zac|apply zab|apply zad));refine zaj ?_;refine zay 4 hX zai zgC rfl trivial rfl rfl hst2 hI (e:=zaE st (decide (((acc.length:Nat):Int) < 64)) 2) rfl (fun er h=>?_) (fun u2 h2=>?_)
 ·rw[lt64]at h;rw[zap (hR.trans (by first|(rw[h];done)|(rw[h];rfl)))];exact rfl
 rw[lt64]at h2;have hacc64:=of_decide_eq_true (zaW h2)
 replace hR:=hR.trans (show _=_ by rw[h2])
 refine AL.nil ?_;refine zaq (σ':=lS ty s l lo hi z st acc) ⟨⟨rfl,rfl,rfl,rfl,rfl,rfl,trivial⟩,⟨rfl,rfl,rfl,trivial⟩,rfl,rfl⟩ ?_;(repeat(first|apply zae|apply zac|apply zab|apply zad));refine zaj ?_;refine zay 19 hX zai zgC rfl ?_ rfl rfl hst2 hI (e:=zaE st (bif decide (Tok.n st.1 > acc.getLast?.getD (lo - 1)) then (bif z then true else !(Tok.n st.1==0)) else false) 1) rfl (fun er h=>?_) (fun u3 h3=>?_)
 ·repeat'(first|exact trivial|assumption|(refine⟨?_,?_⟩)|(intro _)|exact Nat.le_of_ble_eq_true rfl|exact Int.natCast_nonneg _|(simp_all [allP];done))
 ·rw[zcn,zgm]at h;rw[zap (hR.trans (by rw[show (Tok.n st.1 != 0)= !(Tok.n st.1==0) from rfl,h];first|done|rfl))];exact rfl
 rw[zcn,zgm]at h3
 replace hR:=hR.trans (show _=_ by rw[show (Tok.n st.1 != 0)= !(Tok.n st.1==0) from rfl,h3])
 refine AL.nil ?_;refine zaq (σ':=lS ty s l lo hi z st acc) ⟨⟨rfl,rfl,rfl,rfl,rfl,rfl,trivial⟩,⟨rfl,rfl,rfl,trivial⟩,rfl,rfl⟩ ?_;(repeat(first|apply zae|apply zac|apply zab|apply zad));refine zaj ?_;refine zay 4 hX zai zgC rfl trivial rfl rfl hst2 hI (e:=zaL s st lo hi) rfl (fun er h=>?_) (fun p h4=>?_)
 ·rw[zap (hR.trans (by first|(rw[h];done)|(rw[h];rfl)))];exact rfl
 obtain⟨x,st2⟩:=p
 replace hR:=hR.trans (show _=zb9 s lo hi z j st2 (acc++ [x]) by rw[h4];rfl)
 have hst3:=(zao hst h4).1.1;have hcap:acc.length+1≤1000000000:=by omega
 refine AL.all hX zai rfl hcap ?_;have hla:(acc++ [x]).length=acc.length+1:=by simp
 have q0:inR .i64 ((((acc++ [x]).length:Nat):Int) - 1):=zar (by omega) (by omega);have q1:(0:Int)≤(((acc++ [x]).length:Nat):Int) - 1:=by omega
 have q2:(((acc++ [x]).length:Nat):Int) - 1 < (((acc++ [x]).length:Nat):Int):=by omega
 have q3:((((acc++ [x]).length:Nat):Int) - 1).toNat < (acc++ [x]).length:=by omega
 refine zaq (σ':=⟨[(0,pSelf),(1,⟨i64,lo⟩),(2,⟨i64,hi⟩),(3,⟨.bool,z⟩),(9,⟨.obuf i64,(2:Nat)⟩)],[(0,some (pBox ty s st2)),(1,some (.buf 73 nd l)),(2,some (.buf 3 i64 (acc++ [x])))],3⟩) ⟨⟨rfl,rfl,rfl,rfl,rfl,trivial⟩,⟨rfl,rfl,rfl,trivial⟩,rfl,rfl⟩ ?_;(repeat(first|apply zae|apply zac|apply zab|apply zad));refine zaa hX zai rfl ?_ ?_
 ·exact⟨q0,q1,q2,q3⟩
 refine⟨(j,st2,acc++ [x]),⟨hR0▸hR,by show (acc++ [x]).length+j=66;omega,hst3,by show (acc++ [x]).length≤64;omega⟩,Nat.lt_succ_self j,⟨rfl,rfl,rfl,rfl,rfl,vI64 ?_,trivial⟩,⟨rfl,rfl,rfl,trivial⟩,rfl,rfl⟩;show (acc++ [x]).getD ((((acc++ [x]).length:Nat):Int) - 1).toNat 0=(acc++ [x]).getLast?.getD (lo - 1);rw[show ((((acc++ [x]).length:Nat):Int) - 1).toNat=acc.length by omega];simp
def hFd:List (FuncId×HCtr):=[(202,zgj),(209,zhO),(210,zpM),(206,ztK),(81,zgH)]
theorem zbZ:HsOk Tryz.prog gmH hFd:=.cons zfz <| .cons zlB <| .cons zqn <| .cons zsY <| .cons zeQ .nil
theorem nthT (a b:Bool):(bif !a then true else !b)=((!a)||(!b)):=by cases a<;>rfl
@[reducible] def zdF (w:LeafW):HCtr:=hP [] nd (fun _ _=>[]) fun x _=>toX (fun r=>(r.1,psX x.1 r.2 x.2.2.1)) (zde x.1 (stOf x) w)
@[reducible] def zgi (w:SufW):HCtr:=hP [] nd (fun _ _=>[]) fun x _=>toX (fun r=>(r.1,psX x.1 r.2 x.2.2.1)) (gSuf x.1 (stOf x) w)
theorem zro:zaB Tryz.prog gmH 237 (zdF .days):=by
 refine zav (K:=_) zai Tryz.func237 rfl rfl zbg Tryz.call237 rfl (Nat.le_of_ble_eq_true rfl) zaU ?_;rintro w0 ⟨G,O,K,fix,D,ρ,B⟩ ty hX hG hK hρ hD hinv ⟨(s:List UInt8),(t:TokT),(l:List Nd),(b:Int),⟨⟩⟩ ⟨⟩ hp;obtain rfl:G=gmH:=hG;obtain rfl:K=1:=hK;obtain rfl:ρ=none:=hρ;obtain rfl:D=[]:=hD;have hI:=zaH (ty:=ty) (ty':=ty) hX rfl hinv;have hok0:pOk (s,t,l,b,()):=hp;change AWP _ _ _ _ _ ⟨[(0,pSelf)],pE ty s (t,b) l,2⟩ (pQ _ (zdF .days) ty (toX (fun r=>(r.1,psX s r.2 l)) (zde s (t,b) .days)));unfold zde;(repeat(first|apply zae|apply zac|apply zab|apply zad));refine zaa hX zai rfl ?_ ?_
 ·trivial
 (repeat(first|apply zae|apply zac|apply zab|apply zad));refine zaj ?_;refine zay 1 hX zai zbZ rfl trivial rfl rfl hok0 hI (e:=zaL s (t,b) 1 zdI) rfl (fun er h=>?_) (fun a0 h0=>?_)
 ·rw[zap h];exact rfl
 rw[zau h0];obtain⟨x0,st0⟩:=a0;have hok1:pOk (s,st0.1,l,st0.2,()):=⟨((zao hok0.1 h0).1).1,hok0.2⟩;refine AL.all hX zai rfl trivial ?_;refine zaq (σ':=⟨[(0,pSelf),(2,⟨.optr nd,⟨2,nd,.here⟩⟩),(3,⟨i64,x0⟩)],[(0,some (pBox ty s st0)),(1,some (.buf 73 nd l)),(2,some (.box nd zNd))],3⟩) ⟨⟨rfl,rfl,rfl,trivial⟩,⟨rfl,rfl,rfl,trivial⟩,rfl,rfl⟩ ?_;(repeat(first|apply zae|apply zac|apply zab|apply zad));refine zaj ?_;refine zay 2 hX zai zbZ rfl trivial rfl rfl hok1 hI (e:=zaL s st0 0 zdI) rfl (fun er h=>?_) (fun a1 h1=>?_)
 ·rw[zap h];exact rfl
 rw[zau h1];obtain⟨x1,st1⟩:=a1;have hok2:pOk (s,st1.1,l,st1.2,()):=⟨((zao hok1.1 h1).1).1,hok1.2⟩;refine AL.all hX zai rfl trivial ?_;exact AWP.ret ⟨.inr rfl,⟨_,rfl,nd,1,_,rfl,rfl,rfl⟩,zat rfl trivial rfl rfl rfl⟩
theorem zpt:zaB Tryz.prog gmH 238 (zdF .years):=by
 refine zav (K:=_) zai Tryz.func238 rfl rfl zbg Tryz.call238 rfl (Nat.le_of_ble_eq_true rfl) zaU ?_;rintro w0 ⟨G,O,K,fix,D,ρ,B⟩ ty hX hG hK hρ hD hinv ⟨(s:List UInt8),(t:TokT),(l:List Nd),(b:Int),⟨⟩⟩ ⟨⟩ hp;obtain rfl:G=gmH:=hG;obtain rfl:K=1:=hK;obtain rfl:ρ=none:=hρ;obtain rfl:D=[]:=hD;have hI:=zaH (ty:=ty) (ty':=ty) hX rfl hinv;have hok0:pOk (s,t,l,b,()):=hp;change AWP _ _ _ _ _ ⟨[(0,pSelf)],pE ty s (t,b) l,2⟩ (pQ _ (zdF .years) ty (toX (fun r=>(r.1,psX s r.2 l)) (zde s (t,b) .years)));unfold zde;(repeat(first|apply zae|apply zac|apply zab|apply zad));refine zaa hX zai rfl ?_ ?_
 ·trivial
 (repeat(first|apply zae|apply zac|apply zab|apply zad));refine zaj ?_;refine zay 1 hX zai zbZ rfl trivial rfl rfl hok0 hI (e:=gCal s (t,b)) rfl (fun er h=>?_) (fun a0 h0=>?_)
 ·rw[zap h];exact rfl
 rw[zau h0];obtain⟨x0,st0⟩:=a0;have hok1:pOk (s,st0.1,l,st0.2,()):=⟨((zao hok0.1 h0).1).1,hok0.2⟩;refine AL.all hX zai rfl trivial ?_;refine zaq (σ':=⟨[(0,pSelf),(2,⟨.optr nd,⟨2,nd,.here⟩⟩),(3,⟨.optr nd,⟨3,nd,.here⟩⟩)],[(0,some (pBox ty s st0)),(1,some (.buf 73 nd l)),(2,some (.box nd zNd)),(3,some (.box nd (2,x0,0,0,0,0,[],[],())))],4⟩) ⟨⟨rfl,rfl,rfl,trivial⟩,⟨rfl,rfl,rfl,rfl,trivial⟩,rfl,rfl⟩ ?_;(repeat(first|apply zae|apply zac|apply zab|apply zad));refine zaj ?_;refine zay 1 hX zai zbZ rfl trivial rfl rfl hok1 hI (e:=zaL s st0 1 400) rfl (fun er h=>?_) (fun a1 h1=>?_)
 ·rw[zap h];exact rfl
 rw[zau h1];obtain⟨x1,st1⟩:=a1;have hok2:pOk (s,st1.1,l,st1.2,()):=⟨((zao hok1.1 h1).1).1,hok1.2⟩;refine AL.all hX zai rfl trivial ?_;refine zaq (σ':=⟨[(0,pSelf),(2,⟨.optr nd,⟨2,nd,.here⟩⟩),(3,⟨.optr nd,⟨3,nd,.here⟩⟩)],[(0,some (pBox ty s st1)),(1,some (.buf 73 nd l)),(2,some (.box nd zNd)),(3,some (.box nd (2,x0,0,0,x1,0,[],[],())))],4⟩) ⟨⟨rfl,rfl,rfl,trivial⟩,⟨rfl,rfl,rfl,rfl,trivial⟩,rfl,rfl⟩ ?_;(repeat(first|apply zae|apply zac|apply zab|apply zad));refine zaj ?_;have hyb:=(zao hok1.1 h1).2;have hyc:inR .i64 (x1 - 1):=zar (by omega) (by omega);refine zay 4 hX zai zbZ rfl hyc rfl rfl hok2 hI (e:=zaL s st1 0 (x1 - 1)) rfl (fun er h=>?_) (fun a2 h2=>?_)
 ·rw[zap h];exact rfl
 rw[zau h2];obtain⟨x2,st2⟩:=a2;have hok3:pOk (s,st2.1,l,st2.2,()):=⟨((zao hok2.1 h2).1).1,hok2.2⟩;refine AL.all hX zai rfl trivial ?_;refine zaq (σ':=⟨[(0,pSelf),(2,⟨.optr nd,⟨2,nd,.here⟩⟩),(3,⟨.optr nd,⟨3,nd,.here⟩⟩)],[(0,some (pBox ty s st2)),(1,some (.buf 73 nd l)),(2,some (.box nd zNd)),(3,some (.box nd (2,x0,0,0,x1,x2,[],[],())))],4⟩) ⟨⟨rfl,rfl,rfl,trivial⟩,⟨rfl,rfl,rfl,rfl,trivial⟩,rfl,rfl⟩ ?_;(repeat(first|apply zae|apply zac|apply zak|apply zad|apply zab|refine zaa hX zai rfl trivial ?_|refine zaa hX zai rfl id ?_|refine zaa hX zai rfl ⟨id,id⟩ ?_));exact AWP.ret ⟨.inr rfl,⟨_,rfl,nd,1,_,rfl,rfl,rfl⟩,zat rfl trivial rfl rfl rfl⟩
theorem znw:zaB Tryz.prog gmH 239 (zdF .months):=by
 refine zav (K:=_) zai Tryz.func239 rfl rfl zbg Tryz.call239 rfl (Nat.le_of_ble_eq_true rfl) zaU ?_;rintro w0 ⟨G,O,K,fix,D,ρ,B⟩ ty hX hG hK hρ hD hinv ⟨(s:List UInt8),(t:TokT),(l:List Nd),(b:Int),⟨⟩⟩ ⟨⟩ hp;obtain rfl:G=gmH:=hG;obtain rfl:K=1:=hK;obtain rfl:ρ=none:=hρ;obtain rfl:D=[]:=hD;have hI:=zaH (ty:=ty) (ty':=ty) hX rfl hinv;have hok0:pOk (s,t,l,b,()):=hp;change AWP _ _ _ _ _ ⟨[(0,pSelf)],pE ty s (t,b) l,2⟩ (pQ _ (zdF .months) ty (toX (fun r=>(r.1,psX s r.2 l)) (zde s (t,b) .months)));unfold zde;(repeat(first|apply zae|apply zac|apply zab|apply zad));refine zaa hX zai rfl ?_ ?_
 ·trivial
 (repeat(first|apply zae|apply zac|apply zab|apply zad));refine zaj ?_;refine zay 1 hX zai zbZ rfl trivial rfl rfl hok0 hI (e:=gCal s (t,b)) rfl (fun er h=>?_) (fun a0 h0=>?_)
 ·rw[zap h];exact rfl
 rw[zau h0];obtain⟨x0,st0⟩:=a0;have hok1:pOk (s,st0.1,l,st0.2,()):=⟨((zao hok0.1 h0).1).1,hok0.2⟩;refine AL.all hX zai rfl trivial ?_;refine zaq (σ':=⟨[(0,pSelf),(2,⟨.optr nd,⟨2,nd,.here⟩⟩),(3,⟨i64,x0⟩)],[(0,some (pBox ty s st0)),(1,some (.buf 73 nd l)),(2,some (.box nd zNd))],3⟩) ⟨⟨rfl,rfl,rfl,trivial⟩,⟨rfl,rfl,rfl,trivial⟩,rfl,rfl⟩ ?_;(repeat(first|apply zae|apply zac|apply zab|apply zad));refine zaj ?_;refine zay 2 hX zai zbZ rfl trivial rfl rfl ⟨hok1,(by decide:(-1000:Int)≤1),(by decide:(1:Int)≤1000)⟩ hI (e:=zc4 s st0 1 16 true) rfl (fun er h=>?_) (fun a1 h1=>?_)
 ·rw[zap h];exact rfl
 rw[zau h1];obtain⟨x1,st1⟩:=a1;have hok2:pOk (s,st1.1,l,st1.2,()):=⟨(zb8 hok1.1 h1).1,hok1.2⟩;refine AL.all hX zai rfl trivial ?_;exact AWP.ret ⟨.inr rfl,⟨_,rfl,nd,1,_,rfl,rfl,rfl⟩,zat rfl trivial rfl rfl rfl⟩
theorem zjk:zaB Tryz.prog gmH 240 (zdF .monthdays):=by
 refine zav (K:=_) zai Tryz.func240 rfl rfl zbg Tryz.call240 rfl (Nat.le_of_ble_eq_true rfl) zaU ?_;rintro w0 ⟨G,O,K,fix,D,ρ,B⟩ ty hX hG hK hρ hD hinv ⟨(s:List UInt8),(t:TokT),(l:List Nd),(b:Int),⟨⟩⟩ ⟨⟩ hp;obtain rfl:G=gmH:=hG;obtain rfl:K=1:=hK;obtain rfl:ρ=none:=hρ;obtain rfl:D=[]:=hD;have hI:=zaH (ty:=ty) (ty':=ty) hX rfl hinv;have hok0:pOk (s,t,l,b,()):=hp;change AWP _ _ _ _ _ ⟨[(0,pSelf)],pE ty s (t,b) l,2⟩ (pQ _ (zdF .monthdays) ty (toX (fun r=>(r.1,psX s r.2 l)) (zde s (t,b) .monthdays)));unfold zde;(repeat(first|apply zae|apply zac|apply zab|apply zad));refine zaa hX zai rfl ?_ ?_
 ·trivial
 (repeat(first|apply zae|apply zac|apply zab|apply zad));refine zaj ?_;refine zay 1 hX zai zbZ rfl trivial rfl rfl hok0 hI (e:=gCal s (t,b)) rfl (fun er h=>?_) (fun a0 h0=>?_)
 ·rw[zap h];exact rfl
 rw[zau h0];obtain⟨x0,st0⟩:=a0;have hok1:pOk (s,st0.1,l,st0.2,()):=⟨((zao hok0.1 h0).1).1,hok0.2⟩;refine AL.all hX zai rfl trivial ?_;refine zaq (σ':=⟨[(0,pSelf),(2,⟨.optr nd,⟨2,nd,.here⟩⟩),(3,⟨i64,x0⟩)],[(0,some (pBox ty s st0)),(1,some (.buf 73 nd l)),(2,some (.box nd zNd))],3⟩) ⟨⟨rfl,rfl,rfl,trivial⟩,⟨rfl,rfl,rfl,trivial⟩,rfl,rfl⟩ ?_;(repeat(first|apply zae|apply zac|apply zab|apply zad));refine zaj ?_;refine zay 2 hX zai zbZ rfl trivial rfl rfl ⟨hok1,(by decide:(-1000:Int)≤(-40)),(by decide:((-40):Int)≤1000)⟩ hI (e:=zc4 s st0 (-40) 40 false) rfl (fun er h=>?_) (fun a1 h1=>?_)
 ·rw[zap h];exact rfl
 rw[zau h1];obtain⟨x1,st1⟩:=a1;have hok2:pOk (s,st1.1,l,st1.2,()):=⟨(zb8 hok1.1 h1).1,hok1.2⟩;refine AL.all hX zai rfl trivial ?_;exact AWP.ret ⟨.inr rfl,⟨_,rfl,nd,1,_,rfl,rfl,rfl⟩,zat rfl trivial rfl rfl rfl⟩
theorem zpu:zaB Tryz.prog gmH 242 (zdF .weeks):=by
 refine zav (K:=_) zai Tryz.func242 rfl rfl zbg Tryz.call242 rfl (Nat.le_of_ble_eq_true rfl) zaU ?_;rintro w0 ⟨G,O,K,fix,D,ρ,B⟩ ty hX hG hK hρ hD hinv ⟨(s:List UInt8),(t:TokT),(l:List Nd),(b:Int),⟨⟩⟩ ⟨⟩ hp;obtain rfl:G=gmH:=hG;obtain rfl:K=1:=hK;obtain rfl:ρ=none:=hρ;obtain rfl:D=[]:=hD;have hI:=zaH (ty:=ty) (ty':=ty) hX rfl hinv;have hok0:pOk (s,t,l,b,()):=hp;change AWP _ _ _ _ _ ⟨[(0,pSelf)],pE ty s (t,b) l,2⟩ (pQ _ (zdF .weeks) ty (toX (fun r=>(r.1,psX s r.2 l)) (zde s (t,b) .weeks)));unfold zde;(repeat(first|apply zae|apply zac|apply zab|apply zad));refine zaa hX zai rfl ?_ ?_
 ·trivial
 (repeat(first|apply zae|apply zac|apply zab|apply zad));refine zaj ?_;refine zay 1 hX zai zbZ rfl trivial rfl rfl hok0 hI (e:=gCal s (t,b)) rfl (fun er h=>?_) (fun a0 h0=>?_)
 ·rw[zap h];exact rfl
 rw[zau h0];obtain⟨x0,st0⟩:=a0;have hok1:pOk (s,st0.1,l,st0.2,()):=⟨((zao hok0.1 h0).1).1,hok0.2⟩;refine AL.all hX zai rfl trivial ?_;refine zaq (σ':=⟨[(0,pSelf),(2,⟨.optr nd,⟨2,nd,.here⟩⟩),(3,⟨i64,x0⟩)],[(0,some (pBox ty s st0)),(1,some (.buf 73 nd l)),(2,some (.box nd zNd))],3⟩) ⟨⟨rfl,rfl,rfl,trivial⟩,⟨rfl,rfl,rfl,trivial⟩,rfl,rfl⟩ ?_;(repeat(first|apply zae|apply zac|apply zab|apply zad));refine zaj ?_;refine zay 2 hX zai zbZ rfl trivial rfl rfl ⟨hok1,(by decide:(-1000:Int)≤1),(by decide:(1:Int)≤1000)⟩ hI (e:=zc4 s st0 1 54 true) rfl (fun er h=>?_) (fun a1 h1=>?_)
 ·rw[zap h];exact rfl
 rw[zau h1];obtain⟨x1,st1⟩:=a1;have hok2:pOk (s,st1.1,l,st1.2,()):=⟨(zb8 hok1.1 h1).1,hok1.2⟩;refine AL.all hX zai rfl trivial ?_;exact AWP.ret ⟨.inr rfl,⟨_,rfl,nd,1,_,rfl,rfl,rfl⟩,zat rfl trivial rfl rfl rfl⟩
theorem zkx:zaB Tryz.prog gmH 241 (zdF .weekdays):=by
 refine zav (K:=_) zai Tryz.func241 rfl rfl zbg Tryz.call241 rfl (Nat.le_of_ble_eq_true rfl) zaU ?_;rintro w0 ⟨G,O,K,fix,D,ρ,B⟩ ty hX hG hK hρ hD hinv ⟨(s:List UInt8),(t:TokT),(l:List Nd),(b:Int),⟨⟩⟩ ⟨⟩ hp;obtain rfl:G=gmH:=hG;obtain rfl:K=1:=hK;obtain rfl:ρ=none:=hρ;obtain rfl:D=[]:=hD;have hI:=zaH (ty:=ty) (ty':=ty) hX rfl hinv;have hok0:pOk (s,t,l,b,()):=hp;change AWP _ _ _ _ _ ⟨[(0,pSelf)],pE ty s (t,b) l,2⟩ (pQ _ (zdF .weekdays) ty (toX (fun r=>(r.1,psX s r.2 l)) (zde s (t,b) .weekdays)));unfold zde;(repeat(first|apply zae|apply zac|apply zab|apply zad));refine zaa hX zai rfl ?_ ?_
 ·trivial
 (repeat(first|apply zae|apply zac|apply zab|apply zad));refine zaj ?_;refine zay 1 hX zai zbZ rfl trivial rfl rfl ⟨hok0,(by decide:(-1000:Int)≤0),(by decide:(0:Int)≤1000)⟩ hI (e:=zc4 s (t,b) 0 6 true) rfl (fun er h=>?_) (fun a0 h0=>?_)
 ·rw[zap h];exact rfl
 rw[zau h0];obtain⟨x0,st0⟩:=a0;have hok1:pOk (s,st0.1,l,st0.2,()):=⟨(zb8 hok0.1 h0).1,hok0.2⟩;refine AL.all hX zai rfl trivial ?_;exact AWP.ret ⟨.inr rfl,⟨_,rfl,nd,1,_,rfl,rfl,rfl⟩,zat rfl trivial rfl rfl rfl⟩
theorem ztv:zaB Tryz.prog gmH 243 (zdF .nth):=by
 refine zav (K:=_) zai Tryz.func243 rfl rfl zbg Tryz.call243 rfl (Nat.le_of_ble_eq_true rfl) zaU ?_;rintro w0 ⟨G,O,K,fix,D,ρ,B⟩ ty hX hG hK hρ hD hinv ⟨(s:List UInt8),(t:TokT),(l:List Nd),(b:Int),⟨⟩⟩ ⟨⟩ hp;obtain rfl:G=gmH:=hG;obtain rfl:K=1:=hK;obtain rfl:ρ=none:=hρ;obtain rfl:D=[]:=hD;have hI:=zaH (ty:=ty) (ty':=ty) hX rfl hinv;have hok0:pOk (s,t,l,b,()):=hp;change AWP _ _ _ _ _ ⟨[(0,pSelf)],pE ty s (t,b) l,2⟩ (pQ _ (zdF .nth) ty (toX (fun r=>(r.1,psX s r.2 l)) (zde s (t,b) .nth)));unfold zde;(repeat(first|apply zae|apply zac|apply zab|apply zad));refine zaa hX zai rfl ?_ ?_
 ·trivial
 (repeat(first|apply zae|apply zac|apply zab|apply zad));refine zaj ?_;refine zay 1 hX zai zbZ rfl trivial rfl rfl hok0 hI (e:=gCal s (t,b)) rfl (fun er h=>?_) (fun a0 h0=>?_)
 ·rw[zap h];exact rfl
 rw[zau h0];obtain⟨x0,st0⟩:=a0;have hok1:pOk (s,st0.1,l,st0.2,()):=⟨((zao hok0.1 h0).1).1,hok0.2⟩;refine AL.all hX zai rfl trivial ?_;refine zaq (σ':=⟨[(0,pSelf),(2,⟨.optr nd,⟨2,nd,.here⟩⟩),(3,⟨.optr nd,⟨3,nd,.here⟩⟩)],[(0,some (pBox ty s st0)),(1,some (.buf 73 nd l)),(2,some (.box nd zNd)),(3,some (.box nd (7,x0,0,0,0,0,[],[],())))],4⟩) ⟨⟨rfl,rfl,rfl,trivial⟩,⟨rfl,rfl,rfl,rfl,trivial⟩,rfl,rfl⟩ ?_;(repeat(first|apply zae|apply zac|apply zab|apply zad));refine zaj ?_;refine zay 15 hX zai zbZ rfl ?_ rfl rfl hok1 hI (e:=zaE st0 (bif !(Tok.cls st0.1==3) then true else !(Tok.n st0.1==0)) 1) rfl (fun er h=>?_) (fun u1 h1=>?_)
 ·repeat'(first|exact trivial|assumption|(refine⟨?_,?_⟩)|(intro _)|exact Nat.le_of_ble_eq_true rfl|exact Int.natCast_nonneg _|(simp_all [allP];done))
 ·rw[nthT]at h;rw[zap (show zaE st0 ((Tok.cls st0.1 != 3)||(Tok.n st0.1 != 0)) 1=_ from h)];exact rfl
 rw[nthT]at h1;rw[zau (show zaE st0 ((Tok.cls st0.1 != 3)||(Tok.n st0.1 != 0)) 1=_ from h1)];refine AL.nil ?_;refine zaq (σ':=⟨[(0,pSelf),(2,⟨.optr nd,⟨2,nd,.here⟩⟩),(3,⟨.optr nd,⟨3,nd,.here⟩⟩)],[(0,some (pBox ty s st0)),(1,some (.buf 73 nd l)),(2,some (.box nd zNd)),(3,some (.box nd (7,x0,0,0,0,0,[],[],())))],4⟩) ⟨⟨rfl,rfl,rfl,trivial⟩,⟨rfl,rfl,rfl,rfl,trivial⟩,rfl,rfl⟩ ?_;(repeat(first|apply zae|apply zac|apply zab|apply zad));refine zaj ?_;refine zay 1 hX zai zbZ rfl trivial rfl rfl hok1 hI (e:=zaL s st0 (-60) 60) rfl (fun er h=>?_) (fun a2 h2=>?_)
 ·rw[zap h];exact rfl
 rw[zau h2];obtain⟨x2,st2⟩:=a2;have hok2:pOk (s,st2.1,l,st2.2,()):=⟨((zao hok1.1 h2).1).1,hok1.2⟩;refine AL.all hX zai rfl trivial ?_;refine zaq (σ':=⟨[(0,pSelf),(2,⟨.optr nd,⟨2,nd,.here⟩⟩),(3,⟨.optr nd,⟨3,nd,.here⟩⟩)],[(0,some (pBox ty s st2)),(1,some (.buf 73 nd l)),(2,some (.box nd zNd)),(3,some (.box nd (7,x0,0,0,x2,0,[],[],())))],4⟩) ⟨⟨rfl,rfl,rfl,trivial⟩,⟨rfl,rfl,rfl,rfl,trivial⟩,rfl,rfl⟩ ?_;(repeat(first|apply zae|apply zac|apply zab|apply zad));refine zaj ?_;refine zay 1 hX zai zbZ rfl trivial rfl rfl hok2 hI (e:=zaL s st2 0 6) rfl (fun er h=>?_) (fun a3 h3=>?_)
 ·rw[zap h];exact rfl
 rw[zau h3];obtain⟨x3,st3⟩:=a3;have hok3:pOk (s,st3.1,l,st3.2,()):=⟨((zao hok2.1 h3).1).1,hok2.2⟩;refine AL.all hX zai rfl trivial ?_;refine zaq (σ':=⟨[(0,pSelf),(2,⟨.optr nd,⟨2,nd,.here⟩⟩),(3,⟨.optr nd,⟨3,nd,.here⟩⟩)],[(0,some (pBox ty s st3)),(1,some (.buf 73 nd l)),(2,some (.box nd zNd)),(3,some (.box nd (7,x0,0,0,x2,x3,[],[],())))],4⟩) ⟨⟨rfl,rfl,rfl,trivial⟩,⟨rfl,rfl,rfl,rfl,trivial⟩,rfl,rfl⟩ ?_;(repeat(first|apply zae|apply zac|apply zab|apply zad));refine zaj ?_;refine zay 1 hX zai zbZ rfl trivial rfl rfl hok3 hI (e:=zdy s st3) rfl (fun er h=>?_) (fun a4 h4=>?_)
 ·rw[zap h];exact rfl
 rw[zau h4];obtain⟨x4,st4⟩:=a4;have hok4:pOk (s,st4.1,l,st4.2,()):=⟨(zdX hok3.1 h4).1,hok3.2⟩;refine AL.all hX zai rfl trivial ?_;refine zaq (σ':=⟨[(0,pSelf),(2,⟨.optr nd,⟨2,nd,.here⟩⟩),(3,⟨.optr nd,⟨3,nd,.here⟩⟩)],[(0,some (pBox ty s st4)),(1,some (.buf 73 nd l)),(2,some (.box nd zNd)),(3,some (.box nd (7,x0,x4,0,x2,x3,[],[],())))],4⟩) ⟨⟨rfl,rfl,rfl,trivial⟩,⟨rfl,rfl,rfl,rfl,trivial⟩,rfl,rfl⟩ ?_;(repeat(first|apply zae|apply zac|apply zak|apply zad|apply zab|refine zaa hX zai rfl trivial ?_|refine zaa hX zai rfl id ?_|refine zaa hX zai rfl ⟨id,id⟩ ?_));exact AWP.ret ⟨.inr rfl,⟨_,rfl,nd,1,_,rfl,rfl,rfl⟩,zat rfl trivial rfl rfl rfl⟩
theorem zpw:zaB Tryz.prog gmH 201 (zgi .shift):=by
 refine zav (K:=_) zai Tryz.func201 rfl rfl zbg Tryz.call201 rfl (Nat.le_of_ble_eq_true rfl) zaU ?_;rintro w0 ⟨G,O,K,fix,D,ρ,B⟩ ty hX hG hK hρ hD hinv ⟨(s:List UInt8),(t:TokT),(l:List Nd),(b:Int),⟨⟩⟩ ⟨⟩ hp;obtain rfl:G=gmH:=hG;obtain rfl:K=1:=hK;obtain rfl:ρ=none:=hρ;obtain rfl:D=[]:=hD;have hI:=zaH (ty:=ty) (ty':=ty) hX rfl hinv;have hok0:pOk (s,t,l,b,()):=hp;change AWP _ _ _ _ _ ⟨[(0,pSelf)],pE ty s (t,b) l,2⟩ (pQ _ (zgi .shift) ty (toX (fun r=>(r.1,psX s r.2 l)) (gSuf s (t,b) .shift)));unfold gSuf;(repeat(first|apply zae|apply zac|apply zab|apply zad));refine zaa hX zai rfl ?_ ?_
 ·trivial
 (repeat(first|apply zae|apply zac|apply zab|apply zad));refine zaj ?_;refine zay 1 hX zai zbZ rfl trivial rfl rfl hok0 hI (e:=zaL s (t,b) (-zdI) zdI) rfl (fun er h=>?_) (fun a0 h0=>?_)
 ·rw[zap h];exact rfl
 rw[zau h0];obtain⟨x0,st0⟩:=a0;have hok1:pOk (s,st0.1,l,st0.2,()):=⟨((zao hok0.1 h0).1).1,hok0.2⟩;refine AL.all hX zai rfl trivial ?_;exact AWP.ret ⟨.inr rfl,⟨_,rfl,nd,1,_,rfl,rfl,rfl⟩,zat rfl trivial rfl rfl rfl⟩
theorem zrn:zaB Tryz.prog gmH 203 (zgi .from_):=by
 refine zav (K:=_) zai Tryz.func203 rfl rfl zbg Tryz.call203 rfl (Nat.le_of_ble_eq_true rfl) zaU ?_;rintro w0 ⟨G,O,K,fix,D,ρ,B⟩ ty hX hG hK hρ hD hinv ⟨(s:List UInt8),(t:TokT),(l:List Nd),(b:Int),⟨⟩⟩ ⟨⟩ hp;obtain rfl:G=gmH:=hG;obtain rfl:K=1:=hK;obtain rfl:ρ=none:=hρ;obtain rfl:D=[]:=hD;have hI:=zaH (ty:=ty) (ty':=ty) hX rfl hinv;have hok0:pOk (s,t,l,b,()):=hp;change AWP _ _ _ _ _ ⟨[(0,pSelf)],pE ty s (t,b) l,2⟩ (pQ _ (zgi .from_) ty (toX (fun r=>(r.1,psX s r.2 l)) (gSuf s (t,b) .from_)));unfold gSuf;(repeat(first|apply zae|apply zac|apply zab|apply zad));refine zaa hX zai rfl ?_ ?_
 ·trivial
 (repeat(first|apply zae|apply zac|apply zab|apply zad));refine zaj ?_;refine zay 1 hX zai zbZ rfl trivial rfl rfl hok0 hI (e:=zaL s (t,b) 0 zdI) rfl (fun er h=>?_) (fun a0 h0=>?_)
 ·rw[zap h];exact rfl
 rw[zau h0];obtain⟨x0,st0⟩:=a0;have hok1:pOk (s,st0.1,l,st0.2,()):=⟨((zao hok0.1 h0).1).1,hok0.2⟩;refine AL.all hX zai rfl trivial ?_;exact AWP.ret ⟨.inr rfl,⟨_,rfl,nd,1,_,rfl,rfl,rfl⟩,zat rfl trivial rfl rfl rfl⟩
theorem zpv:zaB Tryz.prog gmH 204 (zgi .until_):=by
 refine zav (K:=_) zai Tryz.func204 rfl rfl zbg Tryz.call204 rfl (Nat.le_of_ble_eq_true rfl) zaU ?_;rintro w0 ⟨G,O,K,fix,D,ρ,B⟩ ty hX hG hK hρ hD hinv ⟨(s:List UInt8),(t:TokT),(l:List Nd),(b:Int),⟨⟩⟩ ⟨⟩ hp;obtain rfl:G=gmH:=hG;obtain rfl:K=1:=hK;obtain rfl:ρ=none:=hρ;obtain rfl:D=[]:=hD;have hI:=zaH (ty:=ty) (ty':=ty) hX rfl hinv;have hok0:pOk (s,t,l,b,()):=hp;change AWP _ _ _ _ _ ⟨[(0,pSelf)],pE ty s (t,b) l,2⟩ (pQ _ (zgi .until_) ty (toX (fun r=>(r.1,psX s r.2 l)) (gSuf s (t,b) .until_)));unfold gSuf;(repeat(first|apply zae|apply zac|apply zab|apply zad));refine zaa hX zai rfl ?_ ?_
 ·trivial
 (repeat(first|apply zae|apply zac|apply zab|apply zad));refine zaj ?_;refine zay 1 hX zai zbZ rfl trivial rfl rfl hok0 hI (e:=zaL s (t,b) 0 zdI) rfl (fun er h=>?_) (fun a0 h0=>?_)
 ·rw[zap h];exact rfl
 rw[zau h0];obtain⟨x0,st0⟩:=a0;have hok1:pOk (s,st0.1,l,st0.2,()):=⟨((zao hok0.1 h0).1).1,hok0.2⟩;refine AL.all hX zai rfl trivial ?_;exact AWP.ret ⟨.inr rfl,⟨_,rfl,nd,1,_,rfl,rfl,rfl⟩,zat rfl trivial rfl rfl rfl⟩
theorem zrp:zaB Tryz.prog gmH 205 (zgi .also):=by
 refine zav (K:=_) zai Tryz.func205 rfl rfl zbg Tryz.call205 rfl (Nat.le_of_ble_eq_true rfl) zaU ?_;rintro w0 ⟨G,O,K,fix,D,ρ,B⟩ ty hX hG hK hρ hD hinv ⟨(s:List UInt8),(t:TokT),(l:List Nd),(b:Int),⟨⟩⟩ ⟨⟩ hp;obtain rfl:G=gmH:=hG;obtain rfl:K=1:=hK;obtain rfl:ρ=none:=hρ;obtain rfl:D=[]:=hD;have hI:=zaH (ty:=ty) (ty':=ty) hX rfl hinv;have hok0:pOk (s,t,l,b,()):=hp;change AWP _ _ _ _ _ ⟨[(0,pSelf)],pE ty s (t,b) l,2⟩ (pQ _ (zgi .also) ty (toX (fun r=>(r.1,psX s r.2 l)) (gSuf s (t,b) .also)));unfold gSuf;(repeat(first|apply zae|apply zac|apply zab|apply zad));refine zaa hX zai rfl ?_ ?_
 ·trivial
 (repeat(first|apply zae|apply zac|apply zab|apply zad));refine zaj ?_;refine zay 1 hX zai zbZ rfl trivial rfl rfl ⟨hok0,(by decide:(-1000:Int)≤0),(by decide:(0:Int)≤1000)⟩ hI (e:=zc4 s (t,b) 0 zdI true) rfl (fun er h=>?_) (fun a0 h0=>?_)
 ·rw[zap h];exact rfl
 rw[zau h0];obtain⟨x0,st0⟩:=a0;have hok1:pOk (s,st0.1,l,st0.2,()):=⟨(zb8 hok0.1 h0).1,hok0.2⟩;refine AL.all hX zai rfl trivial ?_;exact AWP.ret ⟨.inr rfl,⟨_,rfl,nd,1,_,rfl,rfl,rfl⟩,zat rfl trivial rfl rfl rfl⟩
theorem znx:zaB Tryz.prog gmH 207 (zgi .except_):=by
 refine zav (K:=_) zai Tryz.func207 rfl rfl zbg Tryz.call207 rfl (Nat.le_of_ble_eq_true rfl) zaU ?_;rintro w0 ⟨G,O,K,fix,D,ρ,B⟩ ty hX hG hK hρ hD hinv ⟨(s:List UInt8),(t:TokT),(l:List Nd),(b:Int),⟨⟩⟩ ⟨⟩ hp;obtain rfl:G=gmH:=hG;obtain rfl:K=1:=hK;obtain rfl:ρ=none:=hρ;obtain rfl:D=[]:=hD;have hI:=zaH (ty:=ty) (ty':=ty) hX rfl hinv;have hok0:pOk (s,t,l,b,()):=hp;change AWP _ _ _ _ _ ⟨[(0,pSelf)],pE ty s (t,b) l,2⟩ (pQ _ (zgi .except_) ty (toX (fun r=>(r.1,psX s r.2 l)) (gSuf s (t,b) .except_)));unfold gSuf;(repeat(first|apply zae|apply zac|apply zab|apply zad));refine zaa hX zai rfl ?_ ?_
 ·trivial
 (repeat(first|apply zae|apply zac|apply zab|apply zad));refine zaj ?_;refine zay 1 hX zai zbZ rfl trivial rfl rfl ⟨hok0,(by decide:(-1000:Int)≤0),(by decide:(0:Int)≤1000)⟩ hI (e:=zc4 s (t,b) 0 zdI true) rfl (fun er h=>?_) (fun a0 h0=>?_)
 ·rw[zap h];exact rfl
 rw[zau h0];obtain⟨x0,st0⟩:=a0;have hok1:pOk (s,st0.1,l,st0.2,()):=⟨(zb8 hok0.1 h0).1,hok0.2⟩;refine AL.all hX zai rfl trivial ?_;exact AWP.ret ⟨.inr rfl,⟨_,rfl,nd,1,_,rfl,rfl,rfl⟩,zat rfl trivial rfl rfl rfl⟩
theorem ztu:zaB Tryz.prog gmH 208 (zgi .pos):=by
 refine zav (K:=_) zai Tryz.func208 rfl rfl zbg Tryz.call208 rfl (Nat.le_of_ble_eq_true rfl) zaU ?_;rintro w0 ⟨G,O,K,fix,D,ρ,B⟩ ty hX hG hK hρ hD hinv ⟨(s:List UInt8),(t:TokT),(l:List Nd),(b:Int),⟨⟩⟩ ⟨⟩ hp;obtain rfl:G=gmH:=hG;obtain rfl:K=1:=hK;obtain rfl:ρ=none:=hρ;obtain rfl:D=[]:=hD;have hI:=zaH (ty:=ty) (ty':=ty) hX rfl hinv;have hok0:pOk (s,t,l,b,()):=hp;change AWP _ _ _ _ _ ⟨[(0,pSelf)],pE ty s (t,b) l,2⟩ (pQ _ (zgi .pos) ty (toX (fun r=>(r.1,psX s r.2 l)) (gSuf s (t,b) .pos)));unfold gSuf;(repeat(first|apply zae|apply zac|apply zab|apply zad));refine zaa hX zai rfl ?_ ?_
 ·trivial
 (repeat(first|apply zae|apply zac|apply zab|apply zad));refine zaj ?_;refine zay 1 hX zai zbZ rfl trivial rfl rfl hok0 hI (e:=gCal s (t,b)) rfl (fun er h=>?_) (fun a0 h0=>?_)
 ·rw[zap h];exact rfl
 rw[zau h0];obtain⟨x0,st0⟩:=a0;have hok1:pOk (s,st0.1,l,st0.2,()):=⟨((zao hok0.1 h0).1).1,hok0.2⟩;refine AL.all hX zai rfl trivial ?_;refine zaq (σ':=⟨[(0,pSelf),(2,⟨.optr nd,⟨2,nd,.here⟩⟩),(3,⟨.optr nd,⟨3,nd,.here⟩⟩)],[(0,some (pBox ty s st0)),(1,some (.buf 73 nd l)),(2,some (.box nd zNd)),(3,some (.box nd (16,x0,0,0,0,0,[],[],())))],4⟩) ⟨⟨rfl,rfl,rfl,trivial⟩,⟨rfl,rfl,rfl,rfl,trivial⟩,rfl,rfl⟩ ?_;(repeat(first|apply zae|apply zac|apply zab|apply zad));refine zaj ?_;refine zay 1 hX zai zbZ rfl trivial rfl rfl hok1 hI (e:=zdy s st0) rfl (fun er h=>?_) (fun a1 h1=>?_)
 ·rw[zap h];exact rfl
 rw[zau h1];obtain⟨x1,st1⟩:=a1;have hok2:pOk (s,st1.1,l,st1.2,()):=⟨(zdX hok1.1 h1).1,hok1.2⟩;refine AL.all hX zai rfl trivial ?_;refine zaq (σ':=⟨[(0,pSelf),(2,⟨.optr nd,⟨2,nd,.here⟩⟩),(3,⟨.optr nd,⟨3,nd,.here⟩⟩)],[(0,some (pBox ty s st1)),(1,some (.buf 73 nd l)),(2,some (.box nd zNd)),(3,some (.box nd (16,x0,0,0,0,x1,[],[],())))],4⟩) ⟨⟨rfl,rfl,rfl,trivial⟩,⟨rfl,rfl,rfl,rfl,trivial⟩,rfl,rfl⟩ ?_;(repeat(first|apply zae|apply zac|apply zab|apply zad));refine zaj ?_;refine zay 1 hX zai zbZ rfl trivial rfl rfl ⟨hok2,(by decide:(-1000:Int)≤(-400)),(by decide:((-400):Int)≤1000)⟩ hI (e:=zc4 s st1 (-400) 400 false) rfl (fun er h=>?_) (fun a2 h2=>?_)
 ·rw[zap h];exact rfl
 rw[zau h2];obtain⟨x2,st2⟩:=a2;have hok3:pOk (s,st2.1,l,st2.2,()):=⟨(zb8 hok2.1 h2).1,hok2.2⟩;refine AL.all hX zai rfl trivial ?_;refine zaq (σ':=⟨[(0,pSelf),(2,⟨.optr nd,⟨2,nd,.here⟩⟩),(3,⟨.optr nd,⟨3,nd,.here⟩⟩)],[(0,some (pBox ty s st2)),(1,some (.buf 73 nd l)),(2,some (.box nd zNd)),(3,some (.box nd (16,x0,0,0,0,x1,x2,[],())))],4⟩) ⟨⟨rfl,rfl,rfl,trivial⟩,⟨rfl,rfl,rfl,rfl,trivial⟩,rfl,rfl⟩ ?_;(repeat(first|apply zae|apply zac|apply zak|apply zad|apply zab|refine zaa hX zai rfl trivial ?_|refine zaa hX zai rfl id ?_|refine zaa hX zai rfl ⟨id,id⟩ ?_));exact AWP.ret ⟨.inr rfl,⟨_,rfl,nd,1,_,rfl,rfl,rfl⟩,zat rfl trivial rfl rfl rfl⟩
def fnV (f:FuncId):Value:=.func (.func f) #[] #[]
def zdi:LeafW->Value
 | .days=>fnV 237
 | .years=>fnV 238
 | .months=>fnV 239
 | .monthdays=>fnV 240
 | .weekdays=>fnV 241
 | .weeks=>fnV 242
 | .nth=>fnV 243
def zeS:SufW->Value
 | .shift=>fnV 201
 | .from_=>fnV 203
 | .until_=>fnV 204
 | .also=>fnV 205
 | .except_=>fnV 207
 | .pos=>fnV 208
 | .behind=>fnV 211
def strV (w:List UInt8):Value:=.string ⟨w.toArray⟩
def zke:List (Value×Value):=[(strV ziK,zdi .days),(strV zfi,zdi .years),(strV zcy,zdi .months),(strV za3,zdi .monthdays),(strV zbl,zdi .weekdays),(strV zdr,zdi .weeks),(strV wNth,zdi .nth)]
def zhb:List (Value×Value):=[(strV zeU,zeS .shift),(strV zhY,zeS .from_),(strV zeT,zeS .until_),(strV ze2,zeS .also),(strV zcz,zeS .except_),(strV wPos,zeS .pos),(strV zbT,zeS .behind)]
theorem zpZ (a b:ByteArray):(a==b)=(a.toList==b.toList):=by
 rw[ByteArray.toList_eq,ByteArray.toList_eq];show (a.data==b.data)=(a.data.toList==b.data.toList);rw[Bool.eq_iff_iff,beq_iff_eq,beq_iff_eq];exact⟨fun h=>by rw[h],fun h=>Array.toList_inj.1 h⟩
theorem ziE (w k:List UInt8) (v:Value) (es:List (Value×Value)):zfK .string (strV w) ((strV k,v)::es)=if w=k then some (some v) else zfK .string (strV w) es:=by
 rw[zfK];have e:Instr.sameNow .string (strV w) (strV k)=some (decide (w=k)):=by
  show some ((⟨w.toArray⟩:ByteArray)==⟨k.toArray⟩)=_
  congr 1
  rw[zpZ,zez,zdp]
 rw[show (strV k,v).1=strV k from rfl,e];by_cases h:w=k
 ·rw[if_pos h,decide_eq_true h]
 ·rw[if_neg h,decide_eq_false h]
theorem zo5 (w:List UInt8):zfK .string (strV w) zke=some ((zgL w).map zdi):=by
 unfold zke zgL
 iterate 7 (rw[ziE];split; · rfl)
 rfl
theorem zqh (w:List UInt8):zfK .string (strV w) zhb=some ((sufW w).map zeS):=by
 unfold zhb sufW
 iterate 7 (rw[ziE];split; · rfl)
 rfl
def zpQ:Ctr:={ args:=[],pre:=fun _=>[],res:=.mapL,own:=none,out:=fun _=>zke }
def zkE:Ctr:={ args:=[],pre:=fun _=>[],res:=.mapL,own:=none,out:=fun _=>zhb }
theorem zo4:CtrOk Tryz.prog gmH 200 zpQ:=by
 refine zan (K:=gmK) zai Tryz.func200 rfl rfl Tryz.call200 rfl (by decide) (by intro h;cases h) ?_;rintro w0 X hX _ hp;change AWP _ _ _ _ _ ⟨[],[],0⟩ _;apply zae;(repeat(first|apply zae|apply zac|apply zab|apply zad));refine zaa hX zai rfl ?_ ?_
 ·trivial
 (repeat(first|apply zae|apply zac|apply zab|apply zad));refine zaj ?_;refine AL.mapLit hX Tryz.underlying204 Tryz.underlying9 rfl zke (ins:=[_,_,_,_,_,_,_]) rfl rfl rfl rfl (.cons rfl (fun _=>rfl) (fun _=>rfl) rfl rfl <| .cons rfl (fun _=>rfl) (fun _=>rfl) rfl rfl <| .cons rfl (fun _=>rfl) (fun _=>rfl) rfl rfl <| .cons rfl (fun _=>rfl) (fun _=>rfl) rfl rfl <| .cons rfl (fun _=>rfl) (fun _=>rfl) rfl rfl <| .cons rfl (fun _=>rfl) (fun _=>rfl) rfl rfl <| .cons rfl (fun _=>rfl) (fun _=>rfl) rfl rfl rfl) ⟨rfl,rfl,rfl,rfl,rfl,rfl,rfl,trivial⟩ ?_;refine AL.all hX zai rfl trivial ?_;(repeat(first|apply zae|apply zac|apply zab|apply zad));exact AWP.ret ⟨.inr rfl,zat rfl trivial rfl rfl rfl⟩
theorem zkX:CtrOk Tryz.prog gmH 179 zkE:=by
 refine zan (K:=gmK) zai Tryz.func179 rfl rfl Tryz.call179 rfl (by decide) (by intro h;cases h) ?_;rintro w0 X hX _ hp;change AWP _ _ _ _ _ ⟨[],[],0⟩ _;apply zae;(repeat(first|apply zae|apply zac|apply zab|apply zad));refine zaa hX zai rfl ?_ ?_
 ·trivial
 (repeat(first|apply zae|apply zac|apply zab|apply zad));refine zaj ?_;refine AL.mapLit hX Tryz.underlying204 Tryz.underlying9 rfl zhb (ins:=[_,_,_,_,_,_,_]) rfl rfl rfl rfl (.cons rfl (fun _=>rfl) (fun _=>rfl) rfl rfl <| .cons rfl (fun _=>rfl) (fun _=>rfl) rfl rfl <| .cons rfl (fun _=>rfl) (fun _=>rfl) rfl rfl <| .cons rfl (fun _=>rfl) (fun _=>rfl) rfl rfl <| .cons rfl (fun _=>rfl) (fun _=>rfl) rfl rfl <| .cons rfl (fun _=>rfl) (fun _=>rfl) rfl rfl <| .cons rfl (fun _=>rfl) (fun _=>rfl) rfl rfl rfl) ⟨rfl,rfl,rfl,rfl,rfl,rfl,rfl,trivial⟩ ?_;refine AL.all hX zai rfl trivial ?_;(repeat(first|apply zae|apply zac|apply zab|apply zad));exact AWP.ret ⟨.inr rfl,zat rfl trivial rfl rfl rfl⟩
abbrev Gop:=List UInt8×Int×Unit
def opsL:List Gop:=[(wOr,9,()),(zlJ,10,()),(wAnd,8,())]
def cOps:Ctr:={ args:=[],pre:=fun _=>[],res:=.slice gop,own:=none,out:=fun _=>opsL }
theorem zgx:CtrOk Tryz.prog gmH 101 cOps:=by
 refine zan (K:=gmK) zai Tryz.func101 rfl rfl Tryz.call101 rfl (by decide) (by intro h;cases h) ?_;rintro w0 X hX _ hp;change AWP _ _ _ _ _ ⟨[],[],0⟩ _;(repeat(first|apply zae|apply zac|apply zak|apply zad|apply zab|refine zaa hX zai rfl trivial ?_|refine zaa hX zai rfl id ?_|refine zaa hX zai rfl ⟨id,id⟩ ?_));refine AWP.frz hX 0 ?_;exact AWP.ret ⟨.inr rfl,zat rfl trivial rfl rfl rfl⟩
section
variable {s:List UInt8}
theorem zdY {st st':GSt} {w:List UInt8} (he:zaS s st w= .ok st'):st'.2=st.2:=by
 obtain⟨u,_,h2⟩:=zal he;cases h2;rfl
theorem zdm {st st':GSt} (he:zbN s st= .ok st'):st'.2=st.2+1:=by
 obtain⟨u,_,h2⟩:=zal he;cases h2;rfl
theorem zbz {st st':GSt} {lo hi x:Int} (he:zaL s st lo hi= .ok (x,st')):st'.2=st.2:=by
 obtain⟨_,_,he⟩:=zal he;obtain⟨_,_,he⟩:=zal he;cases he;rfl
theorem zmk {lo hi:Int} {z:Bool}:∀ (k:Nat) {st st':GSt} {l l':List Int},zb9 s lo hi z k st l= .ok (l',st')->st'.2=st.2
 |0,_,_,_,_,he=>by cases he
 |k+1,st,st',l,l',he=>by
  unfold zb9 at he;split at he
  ·cases he;rfl
  ·obtain⟨_,_,he⟩:=zal he;obtain⟨_,_,he⟩:=zal he;obtain⟨_,_,he⟩:=zal he;obtain⟨⟨x,st1⟩,h1,he⟩:=zal he;rw[zmk k he,zbz h1]
theorem zji {st st':GSt} {lo hi:Int} {z:Bool} {l:List Int} (he:zc4 s st lo hi z= .ok (l,st')):st'.2=st.2:=by
 obtain⟨st1,h1,he⟩:=zal he;obtain⟨⟨l1,st2⟩,h2,he⟩:=zal he;obtain⟨st3,h3,he⟩:=zal he;cases he;rw[zdY h3,zmk _ h2,zdY h1]
theorem zmi {st st':GSt} {x:Int} (he:zdy s st= .ok (x,st')):st'.2=st.2:=by
 obtain⟨_,_,he⟩:=zal he;cases he;rfl
theorem zti {st st':GSt} {n:Nd}:∀ (w:LeafW),zde s st w= .ok (n,st')->st'.2=st.2
 | .days,he=>by
  obtain⟨⟨x,a⟩,h1,he⟩:=zal he;obtain⟨⟨y,b⟩,h2,he⟩:=zal he;cases he;rw[zbz h2,zbz h1]
 | .years,he=>by
  obtain⟨⟨x,a⟩,h1,he⟩:=zal he;obtain⟨⟨y,b⟩,h2,he⟩:=zal he;obtain⟨⟨z,c⟩,h3,he⟩:=zal he;cases he;rw[zbz h3,zbz h2,zbz h1]
 | .months,he| .monthdays,he| .weeks,he=>by
  obtain⟨⟨x,a⟩,h1,he⟩:=zal he;obtain⟨⟨y,b⟩,h2,he⟩:=zal he;cases he;rw[zji h2,zbz h1]
 | .weekdays,he=>by
  obtain⟨⟨y,b⟩,h2,he⟩:=zal he;cases he;exact zji h2
 | .nth,he=>by
  obtain⟨⟨x,a⟩,h1,he⟩:=zal he;obtain⟨_,_,he⟩:=zal he;obtain⟨⟨y,b⟩,h2,he⟩:=zal he;obtain⟨⟨z,c⟩,h3,he⟩:=zal he;obtain⟨⟨u,d⟩,h4,he⟩:=zal he;cases he;rw[zmi h4,zbz h3,zbz h2,zbz h1]
theorem zmh {st st':GSt} {n:Nd}:∀ (w:SufW),gSuf s st w= .ok (n,st')->st'.2=st.2
 | .shift,he| .from_,he| .until_,he=>by
  obtain⟨⟨x,a⟩,h1,he⟩:=zal he;cases he;exact zbz h1
 | .also,he| .except_,he=>by
  obtain⟨⟨x,a⟩,h1,he⟩:=zal he;cases he;exact zji h1
 | .pos,he=>by
  obtain⟨⟨x,a⟩,h1,he⟩:=zal he;obtain⟨⟨y,b⟩,h2,he⟩:=zal he;obtain⟨⟨z,c⟩,h3,he⟩:=zal he;cases he;rw[zji h3,zmi h2,zbz h1]
 | .behind,he=>by
  obtain⟨⟨x,a⟩,h1,he⟩:=zal he;obtain⟨b,h2,he⟩:=zal he;cases he;rw[zdY h2,zbz h1]
def SzOk (st:GSt) (t:Tr) (st':GSt):Md->Prop
 | .binL _ t0=>st'.2+(t0.size:Int)=st.2+(t.size:Int)
 | .chainL t0=>st'.2+(t0.size:Int)=st.2+(t.size:Int)
 |_=>st'.2=st.2+(t.size:Int)
theorem zqI {r:Md->GSt->GE (Tr×GSt)} (hr:∀ md st t st',r md st= .ok (t,st')->SzOk st t st' md):∀ md st t st',za4 s r md st= .ok (t,st')->SzOk st t st' md
 | .bin i,st,t,st',he=>by
  rw[za4]at he;split at he
  ·exact hr .chain _ _ _ he
  ·obtain⟨⟨u,a⟩,h1,he⟩:=zal he;have k1:a.2=st.2+(u.size:Int):=hr _ _ _ _ h1;have k2:st'.2+(u.size:Int)=a.2+(t.size:Int):=hr _ _ _ _ he;show st'.2=st.2+(t.size:Int);omega
 | .binL i t0,st,t,st',he=>by
  rw[za4]at he;split at he
  ·obtain⟨a,h1,he⟩:=zal he;obtain⟨⟨u,b⟩,h2,he⟩:=zal he;have k1:=zdm h1;have k2:b.2=a.2+(u.size:Int):=hr _ _ _ _ h2;have k3:st'.2+((t0.size+u.size+1:Nat):Int)=b.2+(t.size:Int):=hr _ _ _ _ he;show st'.2+(t0.size:Int)=st.2+(t.size:Int);omega
  ·cases he;rfl
 | .chain,st,t,st',he=>by
  rw[za4]at he;obtain⟨⟨u,a⟩,h1,he⟩:=zal he;have k1:a.2=st.2+(u.size:Int):=hr _ _ _ _ h1;have k2:st'.2+(u.size:Int)=a.2+(t.size:Int):=hr _ _ _ _ he;show st'.2=st.2+(t.size:Int);omega
 | .chainL t0,st,t,st',he=>by
  show st'.2+(t0.size:Int)=st.2+(t.size:Int);rw[za4]at he;split at he
  ·split at he
   ·cases he;rfl
   ·obtain⟨a,h1,he⟩:=zal he;obtain⟨⟨n,b⟩,h2,he⟩:=zal he;obtain⟨⟨u,c⟩,h3,he⟩:=zal he;have k1:=zdm h1;have k2:=zmh _ h2;have k3:c.2=b.2+(u.size:Int):=hr _ _ _ _ h3;have k4:st'.2+((t0.size+u.size+1:Nat):Int)=c.2+(t.size:Int):=hr _ _ _ _ he;omega
   ·obtain⟨a,h1,he⟩:=zal he;obtain⟨⟨n,b⟩,h2,he⟩:=zal he;have k1:=zdm h1;have k2:=zmh _ h2;have k4:st'.2+((t0.size+1:Nat):Int)=b.2+(t.size:Int):=hr _ _ _ _ he;omega
  ·cases he;rfl
 | .prim,st,t,st',he=>by
  show st'.2=st.2+(t.size:Int);rw[za4]at he;split at he
  ·obtain⟨⟨u,a⟩,h1,he⟩:=zal he;obtain⟨b,h2,he⟩:=zal he;cases he;have k1:a.2=(gAdv s st).2+(t.size:Int):=hr _ _ _ _ h1;have k2:=zdY h2;have k3:(gAdv s st).2=st.2:=rfl;omega
  ·split at he
   ·obtain⟨_,_,he⟩:=zal he;obtain⟨a,h1,he⟩:=zal he;cases he;exact zdm h1
   ·obtain⟨_,h0,he⟩:=zal he;split at he
    ·cases he
    ·obtain⟨a,h1,he⟩:=zal he;obtain⟨⟨n,b⟩,h2,he⟩:=zal he;cases he;rw[zti _ h2];exact zdm h1
theorem zrU:∀ (k:Nat) md st t st',prs s k md st= .ok (t,st')->SzOk st t st' md
 |0,_,_,_,_,he=>by cases he
 |k+1,md,st,t,st',he=>zqI (zrU k) md st t st' he
theorem zhm {md:Md} {st st':GSt} {t:Tr} (he:prsT s md st= .ok (t,st')):SzOk st t st' md:=zrU _ _ _ _ _ he
theorem Tr.size_pos:∀ t:Tr,1≤t.size
 | .leaf _=>Nat.le_refl _
 | .un _ a=>Nat.le_add_left _ _
 | .bin _ a b=>Nat.le_add_left _ _
theorem zhn {i:Nat} {st:GSt} (h:GOk s st) (hi:3≤i):prsT s (.bin i) st=prsT s .chain st:=by
 rw[zcL h,za4,if_pos hi]
theorem zgU {i:Nat} {st:GSt} (h:GOk s st) (hi:¬ 3≤i):prsT s (.bin i) st=(prsT s (.bin (i+1)) st >>= fun p=>prsT s (.binL i p.1) p.2):=by
 rw[zcL h,za4,if_neg hi]
theorem zir {i:Nat} {t:Tr} {st:GSt} (h:GOk s st) (hi:gIs st (opW i)=false):prsT s (.binL i t) st= .ok (t,st):=by
 rw[zcL h,za4,if_neg (by rw[hi];decide)]
theorem ziq {i:Nat} {t:Tr} {st:GSt} (h:GOk s st) (hi:gIs st (opW i)=true):prsT s (.binL i t) st=(zbN s st >>= fun st=>prsT s (.bin (i+1)) st >>= fun p=>prsT s (.binL i (.bin (opK i,zNd.2) t p.1)) p.2):=by
 rw[zcL h,za4,if_pos hi]
theorem zio {st:GSt} (h:GOk s st):prsT s .chain st=(prsT s .prim st >>= fun p=>prsT s (.chainL p.1) p.2):=by
 rw[zcL h,za4]
theorem zes {t:Tr} {st:GSt} (h:GOk s st) (hc:Tok.cls st.1≠1):prsT s (.chainL t) st= .ok (t,st):=by
 rw[zcL h,za4,if_neg hc]
theorem zgt {t:Tr} {st:GSt} (h:GOk s st) (hc:Tok.cls st.1=1) (hw:sufW (Tok.text st.1)=none):prsT s (.chainL t) st= .ok (t,st):=by
 rw[zcL h,za4,if_pos hc,hw]
def sufT (t:Tr) (st:GSt):SufW->GE (Tr×GSt)
 | .behind=>gSuf s st .behind >>= fun p=>prsT s .prim p.2 >>= fun u=>.ok (.bin p.1 t u.1,u.2)
 |w=>gSuf s st w >>= fun p=>.ok (.un p.1 t,p.2)
theorem zgu {t:Tr} {st:GSt} {w:SufW} (h:GOk s st) (hc:Tok.cls st.1=1) (hw:sufW (Tok.text st.1)=some w):prsT s (.chainL t) st=(zbN s st >>= fun st=>sufT (s:=s) t st w >>= fun p=>prsT s (.chainL p.1) p.2):=by
 rw[zcL h,za4,if_pos hc,hw];cases w<;>(
  simp only[sufT];cases zbN s st with
  |error e=>rfl
  |ok a=>
   show (gSuf s a _ >>= _)=((gSuf s a _ >>= _) >>= _);cases gSuf s a _ with
   |error e=>rfl
   |ok p=>
    first
    |rfl
    |(show (prsT s .prim p.2 >>= _)=((prsT s .prim p.2 >>= _) >>= _)
      cases prsT s .prim p.2<;>rfl))
end
@[reducible] def trX (s:List UInt8) (l:List Nd) (r:Tr×GSt):Int×PsT:=(((l.length+r.1.size:Nat):Int) - 1,psX s r.2 (l++r.1.flat l.length))
def few (x:PsT):Prop:=((x.2.2.1.length:Nat):Int)≤x.2.2.2.1
@[reducible] def cBin (k:Nat):HCtr:=hP [i64] i64 (fun x xs=>[0≤xs.1,xs.1≤3,few x,meas x.1 (.bin xs.1.toNat) (stOf x) < k]) fun x xs=>toX (trX x.1 x.2.2.1) (prsT x.1 (.bin xs.1.toNat) (stOf x))
@[reducible] def zkH (k:Nat):HCtr:=hP [] i64 (fun x _=>[few x,meas x.1 .chain (stOf x) < k]) fun x _=>toX (trX x.1 x.2.2.1) (prsT x.1 .chain (stOf x))
@[reducible] def zjr (k:Nat):HCtr:=hP [] i64 (fun x _=>[few x,meas x.1 .prim (stOf x) < k]) fun x _=>toX (trX x.1 x.2.2.1) (prsT x.1 .prim (stOf x))
def gBeh (s:List UInt8) (st:GSt):GE (Nd×Tr×GSt):=gSuf s st .behind >>= fun p=>prsT s .prim p.2 >>= fun u=>.ok (p.1,u.1,u.2)
def setR (n:Nd) (r:Int):Nd:=(n.1,n.2.1,n.2.2.1,r,n.2.2.2.2)
@[reducible] def cBeh (k:Nat):HCtr:=hP [] nd (fun x _=>[few x,meas x.1 .prim (stOf x) < k]) fun x _=>toX (fun r=>(setR r.1 (((x.2.2.1.length+r.2.1.size:Nat):Int) - 1),psX x.1 r.2.2 (x.2.2.1++r.2.1.flat x.2.2.1.length))) (gBeh x.1 (stOf x))
def kBi:Kn:={ gmK with C:=[(101,cOps)] }
theorem zbj:KnOk Tryz.prog gmH kBi:=zai.with (.cons zgx .nil)
def hBi (k:Nat):List (FuncId×HCtr):=[(80,cBin k),(133,zkH k),(134,cIs),(135,zkJ),(136,cAdd)]
theorem zsL {i:Nat} (h:i < 3):opsL.getD ((i:Int)).toNat ([],0,())=(opW i,opK i,()):=by
 rw[Int.toNat_natCast];rcases (show i=0∨i=1∨i=2 by omega) with rfl|rfl|rfl<;>rfl
theorem ztO {te:TypeId} {t:Ty} {x y:List t.T} (h:x=y):some (OObj.buf te t x)=some (OObj.buf te t y):=by rw[h]
theorem zpX (k:Nat) (hB:zaB Tryz.prog gmH 80 (cBin k)) (hC:zaB Tryz.prog gmH 133 (zkH k)):zaB Tryz.prog gmH 80 (cBin (k+1)):=by
 have hbi:HsOk Tryz.prog gmH (hBi k):=.cons hB <| .cons hC <| .cons zq6 <| .cons zjv <| .cons zp1 .nil;refine zav (K:=_) zbj Tryz.func80 rfl rfl zbg Tryz.call80 rfl (Nat.le_of_ble_eq_true rfl) zaU ?_;rintro w0 ⟨G,O,K,fix,D,ρ,B⟩ ty hX hG hK hρ hD hinv ⟨(s:List UInt8),(t:TokT),(l:List Nd),(b:Int),⟨⟩⟩ ⟨(j:Int),⟨⟩⟩ hp;obtain rfl:G=gmH:=hG;obtain rfl:K=1:=hK;obtain rfl:ρ=none:=hρ;obtain rfl:D=[]:=hD;have hI:=zaH (ty:=ty) (ty':=ty) hX rfl hinv;obtain⟨hok,hj0,hj1,hfew,hme⟩:pOk (s,t,l,b,())∧0≤j∧j≤3∧few (s,t,l,b,())∧meas s (.bin j.toNat) (t,b) < k+1:=hp;obtain⟨i,rfl⟩:∃ i:Nat,j=(i:Int):=⟨j.toNat,by omega⟩;rw[Int.toNat_natCast]at hme;have hg:GOk s (t,b):=hok.1;change AWP _ _ _ _ _ ⟨[(0,pSelf),(1,⟨i64,(i:Int)⟩)],pE ty s (t,b) l,2⟩ (pQ _ (cBin (k+1)) ty (toX (trX s l) (prsT s (.bin ((i:Int)).toNat) (t,b))));rw[Int.toNat_natCast];(repeat(first|apply zae|apply zac|apply zab|apply zad));refine zaa hX zbj rfl ?_ ?_
 ·trivial
 (repeat(first|apply zae|apply zac|apply zab|apply zad));refine zaa hX zbj rfl ?_ ?_
 ·trivial
 (repeat(first|apply zae|apply zac|apply zab|apply zad));refine zaa hX zbj rfl ?_ ?_
 ·trivial
 refine zaf rfl (fun hb=>?_) (fun hb=>?_)
 ·have hb:decide ((i:Int)=((3:Nat):Int))=true:=hb;have hb:=of_decide_eq_true hb;obtain rfl:i=3:=by omega
  rw[zhn hg (Nat.le_refl 3)];have hmc:meas s .chain (t,b) < k:=by simp only[meas,mdF]at hme ⊢;omega
  (repeat(first|apply zae|apply zac|apply zab|apply zad));refine zaj ?_;refine zay 1 hX zbj hbi rfl trivial rfl rfl ⟨hok,hfew,hmc⟩ hI (e:=prsT s .chain (t,b)) rfl (fun er h=>?_) (fun a h=>?_)
  ·rw[h];exact rfl
  rw[h];refine AL.all hX zbj rfl trivial ?_;exact AWP.ret ⟨.inr rfl,⟨_,rfl,nd,1,_,rfl,rfl,rfl⟩,zat rfl trivial rfl rfl rfl⟩
 have hb:decide ((i:Int)=((3:Nat):Int))=false:=hb;have hi3:i < 3:=by
  have:=of_decide_eq_false hb;omega
 apply zac;rw[zgU hg (by omega)];have hq:inR .i64 ((i:Int)+1):=zar (by omega) (by omega);have htn:((i:Int)+1).toNat=i+1:=by omega
 have hm1:meas s (.bin ((i:Int)+1).toNat) (t,b) < k:=by
  rw[htn];simp only[meas,mdF]at hme ⊢;omega
 (repeat(first|apply zae|apply zac|apply zab|apply zad));refine zaj ?_;refine zay 3 hX zbj hbi rfl hq rfl rfl ⟨hok,(by omega:(0:Int)≤(i:Int)+1),(by omega:(i:Int)+1≤3),hfew,hm1⟩ hI (f:=trX s l) (e:=prsT s (.bin (i+1)) (t,b)) (congrArg (fun i=>toX (trX s l) (prsT s (.bin i) (t,b))) htn) (fun er h=>?_) (fun a h=>?_)
 ·rw[zap h];exact rfl
 rw[zau h];obtain⟨t1,st1⟩:=a;refine AL.all hX zbj rfl trivial ?_;have hc1:Onw s (t,b) st1:=zds hg h;have hz1:st1.2=b+(t1.size:Int):=zhm h;have hsl:s.length≤100000:=hok.2;have hfew:((l.length:Nat):Int)≤b:=hfew;apply zae;apply zab;refine AWP.loop (ι:=Tr×GSt) (fun i'=>⟨[(0,pSelf),(1,⟨i64,(i:Int)⟩),(5,⟨.slice gop,opsL⟩),(6,⟨i64,(((l.length+i'.1.size:Nat):Int) - 1)⟩)],pE ty s i'.2 (l++i'.1.flat l.length),2⟩) (fun i'=>prsT s (.binL i t1) st1=prsT s (.binL i i'.1) i'.2∧Onw s (t,b) i'.2∧i'.2.2=b+(i'.1.size:Int)) (fun i'=>rem s i'.2) (t1,st1) ⟨rfl,hc1,hz1⟩ ⟨⟨rfl,rfl,rfl,rfl,trivial⟩,⟨rfl,rfl,trivial⟩,rfl,rfl⟩ ?_;rintro ⟨t2,st⟩ ⟨heq,hon,hsz⟩;have heq:prsT s (.binL i t1) st1=prsT s (.binL i t2) st:=heq;have hsz:st.2=b+(t2.size:Int):=hsz;have hon:Onw s (t,b) st:=hon;have hst:GOk s st:=hon.1;have hst2:pOk (s,st.1,l++t2.flat l.length,st.2,()):=⟨hst,hsl⟩;have hgo:(i:Int) < ((opsL.length:Nat):Int):=by show (i:Int) < ((3:Nat):Int);omega
 have hgo0:(0:Int)≤(i:Int):=by omega
 rw[heq];apply zae;apply zae;refine zaj ?_;refine AL.own 6 hX zbj hbi rfl ⟨hgo0,hgo⟩ rfl rfl hst2 hI ?_;refine AL.nil ?_;have hat:=zsL hi3;have hw1:(opsL.getD ((i:Int)).toNat ([],0,())).1=opW i:=by rw[hat]
 have hk1:(opsL.getD ((i:Int)).toNat ([],0,())).2.1=opK i:=by rw[hat]
 refine zaf rfl (fun hb=>?_) (fun hb=>?_)
 ·have hb:gIs st (opsL.getD ((i:Int)).toNat ([],0,())).1=true:=hb;rw[hw1]at hb;apply zac;rw[ziq hst hb]at heq ⊢;refine zaq (σ':=⟨[(0,pSelf),(1,⟨i64,(i:Int)⟩),(5,⟨.slice gop,opsL⟩),(6,⟨i64,(((l.length+t2.size:Nat):Int) - 1)⟩)],pE ty s st (l++t2.flat l.length),2⟩) ⟨⟨rfl,rfl,rfl,rfl,trivial⟩,⟨rfl,rfl,trivial⟩,rfl,rfl⟩ ?_;apply zab;(repeat(first|apply zae|apply zac|apply zab|apply zad));refine zaj ?_;refine zay 1 hX zbj hbi rfl trivial rfl rfl hst2 hI (e:=zbN s st) rfl (fun er h=>?_) (fun st3 h3=>?_)
  ·rw[zap h];exact rfl
  rw[zau h3];have hc3:=zaQ hst (zcO hb) h3;have hz3:=zdm h3;have hfl:=t2.len_flat l.length;have hst3:pOk (s,st3.1,l++t2.flat l.length,st3.2,()):=⟨hc3.1,hsl⟩;have hfew3:few (s,st3.1,l++t2.flat l.length,st3.2,()):=by
   show (((l++t2.flat l.length).length:Nat):Int)≤st3.2;rw[List.length_append];omega
  have hr1:=hon.rem hg;have hr2:=hc3.rem hst;have hm3:meas s (.bin ((i:Int)+1).toNat) st3 < k:=by
   rw[htn];simp only[meas,mdF]at hme ⊢;omega
  refine AL.nil ?_;refine zaq (σ':=⟨[(0,pSelf),(1,⟨i64,(i:Int)⟩),(5,⟨.slice gop,opsL⟩),(6,⟨i64,(((l.length+t2.size:Nat):Int) - 1)⟩)],pE ty s st3 (l++t2.flat l.length),2⟩) ⟨⟨rfl,rfl,rfl,rfl,trivial⟩,⟨rfl,rfl,trivial⟩,rfl,rfl⟩ ?_;(repeat(first|apply zae|apply zac|apply zab|apply zad));refine zaj ?_;refine zay 3 hX zbj hbi rfl hq rfl rfl ⟨hst3,(by omega:(0:Int)≤(i:Int)+1),(by omega:(i:Int)+1≤3),hfew3,hm3⟩ hI (f:=trX s (l++t2.flat l.length)) (e:=prsT s (.bin (i+1)) st3) (congrArg (fun i=>toX (trX s (l++t2.flat l.length)) (prsT s (.bin i) st3)) htn) (fun er h=>?_) (fun a h4=>?_)
  ·rw[zap h];exact rfl
  rw[zau h4];obtain⟨u,st4⟩:=a;have hc4:Onw s st3 st4:=zds hc3.1 h4;have hz4:st4.2=st3.2+(u.size:Int):=zhm h4;have hst4:pOk (s,st4.1,l++t2.flat l.length++u.flat (l.length+t2.size),st4.2,()):=⟨hc4.1,hsl⟩;have hlen1:(l++t2.flat l.length).length=l.length+t2.size:=by rw[List.length_append,hfl]
  have hlen2:(l++t2.flat l.length++u.flat (l.length+t2.size)).length=l.length+t2.size+u.size:=by rw[List.length_append,hlen1,u.len_flat]
  refine AL.all hX zbj rfl trivial ?_;refine zaq (σ':=⟨[(0,pSelf),(1,⟨i64,(i:Int)⟩),(5,⟨.slice gop,opsL⟩),(6,⟨i64,(((l.length+t2.size:Nat):Int) - 1)⟩),(7,⟨i64,(((l.length+t2.size+u.size:Nat):Int) - 1)⟩)],pE ty s st4 (l++t2.flat l.length++u.flat (l.length+t2.size)),2⟩) ⟨⟨rfl,rfl,rfl,rfl,vI64 ?_,trivial⟩,⟨rfl,ztO ?_,trivial⟩,rfl,rfl⟩ ?_
  ·show ((((l++t2.flat l.length).length+u.size:Nat):Int) - 1)=_;rw[hlen1]
  ·show l++t2.flat l.length++u.flat (l++t2.flat l.length).length=_;rw[hlen1]
  have hg4:=hc4.1.2.2;have hadd:(l++t2.flat l.length++u.flat (l.length+t2.size)).length≤100000:=by
   rw[hlen2];omega
  (repeat(first|apply zae|apply zac|apply zab|apply zad));refine zaj ?_;refine AL.own 9 hX zbj hbi rfl ⟨hgo0,hgo⟩ rfl rfl ⟨hst4,hadd⟩ hI ?_;refine AL.all hX zbj rfl trivial ?_;refine⟨(.bin (opK i,zNd.2) t2 u,st4),⟨?_,?_,?_⟩,?_,⟨rfl,rfl,rfl,vI64 ?_,trivial⟩,⟨rfl,ztO ?_,trivial⟩,rfl,rfl⟩
  ·rw[h3];show (prsT s (.bin (i+1)) st3 >>= _)=_;rw[h4];rfl
  ·exact (hon.trans hc3).trans hc4
  ·show st4.2=b+((t2.size+u.size+1:Nat):Int);omega
  ·have hr4:=hc4.rem hc3.1;show rem s st4 < rem s st;omega
  ·show (((l++t2.flat l.length++u.flat (l.length+t2.size)).length:Nat):Int)=((l.length+(t2.size+u.size+1):Nat):Int) - 1;rw[hlen2];omega
  ·show l++t2.flat l.length++u.flat (l.length+t2.size)++ [((opsL.getD ((i:Int)).toNat ([],0,())).2.1,(0:Int),(((l.length+t2.size:Nat):Int) - 1),(((l.length+t2.size+u.size:Nat):Int) - 1),(0:Int),(0:Int),([]:List Int),([]:List UInt8),())]=l++(t2.flat l.length++u.flat (l.length+t2.size)++ [zck (opK i,zNd.2) (((l.length+t2.size:Nat):Int) - 1) (((l.length+t2.size+u.size:Nat):Int) - 1)]);rw[hk1, <-List.append_assoc, <-List.append_assoc];rfl
 ·have hb:gIs st (opsL.getD ((i:Int)).toNat ([],0,())).1=false:=hb;rw[hw1]at hb;rw[zir hst hb];apply zad;(repeat(first|apply zae|apply zac|apply zak|apply zad|apply zab|refine zaa hX zbj rfl trivial ?_|refine zaa hX zbj rfl id ?_|refine zaa hX zbj rfl ⟨id,id⟩ ?_));exact AWP.ret ⟨.inr rfl,⟨_,rfl,nd,1,_,rfl,rfl,rfl⟩,zat rfl trivial rfl rfl rfl⟩
def hBe (k:Nat):List (FuncId×HCtr):=[(202,zgj),(88,zgk),(178,zjr k)]
theorem beh_ok (k:Nat) (hP:zaB Tryz.prog gmH 178 (zjr k)):zaB Tryz.prog gmH 211 (cBeh k):=by
 have hbe:HsOk Tryz.prog gmH (hBe k):=.cons zfz <| .cons zfM <| .cons hP .nil;refine zav (K:=_) zai Tryz.func211 rfl rfl zbg Tryz.call211 rfl (Nat.le_of_ble_eq_true rfl) zaU ?_;rintro w0 ⟨G,O,K,fix,D,ρ,B⟩ ty hX hG hK hρ hD hinv ⟨(s:List UInt8),(t:TokT),(l:List Nd),(b:Int),⟨⟩⟩ ⟨⟩ hp;obtain rfl:G=gmH:=hG;obtain rfl:K=1:=hK;obtain rfl:ρ=none:=hρ;obtain rfl:D=[]:=hD;have hI:=zaH (ty:=ty) (ty':=ty) hX rfl hinv;obtain⟨hok,hfew,hme⟩:pOk (s,t,l,b,())∧few (s,t,l,b,())∧meas s .prim (t,b) < k:=hp;have hg:GOk s (t,b):=hok.1;have hsl:s.length≤100000:=hok.2;have hfew:((l.length:Nat):Int)≤b:=hfew;change AWP _ _ _ _ _ ⟨[(0,pSelf)],pE ty s (t,b) l,2⟩ (pQ _ (cBeh k) ty (toX (fun r=>(setR r.1 (((l.length+r.2.1.size:Nat):Int) - 1),psX s r.2.2 (l++r.2.1.flat l.length))) (gBeh s (t,b))));obtain⟨R,hR⟩:∃ R,R=gBeh s (t,b):=⟨_,rfl⟩;rw[<-hR];rw[show gBeh s (t,b)=(zaL s (t,b) 1 400 >>= fun p=>zaS s p.2 wOf >>= fun st=>prsT s .prim st >>= fun u=>.ok ((17,0,0,0,p.1,0,[],[],()),u.1,u.2)) by
  unfold gBeh gSuf;cases zaL s (t,b) 1 400 with
  |error e=>rfl
  |ok p=>
   show ((zaS s p.2 wOf >>= _) >>= _)=(zaS s p.2 wOf >>= _);cases zaS s p.2 wOf<;>rfl]at hR
 (repeat(first|apply zae|apply zac|apply zab|apply zad));refine zaa hX zai rfl ?_ ?_
 ·trivial
 (repeat(first|apply zae|apply zac|apply zab|apply zad));refine zaj ?_;refine zay 1 hX zai hbe rfl trivial rfl rfl hok hI (e:=zaL s (t,b) 1 400) rfl (fun er h=>?_) (fun p h1=>?_)
 ·rw[show R= .error er by rw[hR,h];rfl];exact rfl
 obtain⟨x,st1⟩:=p;rw[h1]at hR;have hc1:=(zao hg h1).1;have hst1:pOk (s,st1.1,l,st1.2,()):=⟨hc1.1,hsl⟩;refine AL.all hX zai rfl trivial ?_;refine zaq (σ':=⟨[(0,pSelf),(2,⟨.optr nd,⟨2,nd,.here⟩⟩),(3,⟨.optr nd,⟨3,nd,.here⟩⟩)],[(0,some (pBox ty s st1)),(1,some (.buf 73 nd l)),(2,some (.box nd zNd)),(3,some (.box nd (17,0,0,0,x,0,[],[],())))],4⟩) ⟨⟨rfl,rfl,rfl,trivial⟩,⟨rfl,rfl,rfl,rfl,trivial⟩,rfl,rfl⟩ ?_;(repeat(first|apply zae|apply zac|apply zab|apply zad));refine zaj ?_;refine zay 1 hX zai hbe rfl trivial rfl rfl hst1 hI (e:=zaS s st1 wOf) rfl (fun er h=>?_) (fun st2 h2=>?_)
 ·rw[show R= .error er by rw[hR];show (zaS s st1 wOf >>= _)=_;rw[h];rfl];exact rfl
 have hc2:=zbk hc1.1 h2;have hst2:pOk (s,st2.1,l,st2.2,()):=⟨hc2.1,hsl⟩;refine AL.nil ?_;refine zaq (σ':=⟨[(0,pSelf),(2,⟨.optr nd,⟨2,nd,.here⟩⟩),(3,⟨.optr nd,⟨3,nd,.here⟩⟩)],[(0,some (pBox ty s st2)),(1,some (.buf 73 nd l)),(2,some (.box nd zNd)),(3,some (.box nd (17,0,0,0,x,0,[],[],())))],4⟩) ⟨⟨rfl,rfl,rfl,trivial⟩,⟨rfl,rfl,rfl,rfl,trivial⟩,rfl,rfl⟩ ?_;have hr1:=hc1.rem hg;have hr2:=hc2.rem hc1.1;have hm2:meas s .prim st2 < k:=by
  simp only[meas,mdF]at hme ⊢;omega
 have hz1:=zbz h1;have hz2:=zdY h2;have hfew2:few (s,st2.1,l,st2.2,()):=by
  show ((l.length:Nat):Int)≤st2.2;rw[hz2,hz1];exact hfew
 (repeat(first|apply zae|apply zac|apply zab|apply zad));refine zaj ?_;refine zay 1 hX zai hbe rfl trivial rfl rfl ⟨hst2,hfew2,hm2⟩ hI (e:=prsT s .prim st2) rfl (fun er h=>?_) (fun p h3=>?_)
 ·rw[show R= .error er by rw[hR];show (zaS s st1 wOf >>= _)=_;rw[h2];show (prsT s .prim st2 >>= _)=_;rw[h];rfl];exact rfl
 obtain⟨u,st3⟩:=p;rw[show R= .ok ((17,0,0,0,x,0,[],[],()),u,st3) by rw[hR];show (zaS s st1 wOf >>= _)=_;rw[h2];show (prsT s .prim st2 >>= _)=_;rw[h3];rfl];refine AL.all hX zai rfl trivial ?_;(repeat(first|apply zae|apply zac|apply zak|apply zad|apply zab|refine zaa hX zai rfl trivial ?_|refine zaa hX zai rfl id ?_|refine zaa hX zai rfl ⟨id,id⟩ ?_));exact AWP.ret ⟨.inr rfl,⟨_,rfl,nd,1,_,rfl,rfl,rfl⟩,zat rfl trivial rfl rfl rfl⟩
def kCh:Kn:={ gmK with C:=[(179,zkE)] }
theorem zct:KnOk Tryz.prog gmH kCh:=zai.with (.cons zkX .nil)
def hCh (k:Nat):List (FuncId×HCtr):=[(178,zjr k),(135,zkJ),(136,cAdd)]
theorem zsy {w:SufW} (hw:w≠ .behind):∃ f,zeS w= .func (.func f) #[] #[]∧zaB Tryz.prog gmH f (zgi w):=by
 cases w with
 |shift=>exact⟨_,rfl,zpw⟩
 |from_=>exact⟨_,rfl,zrn⟩
 |until_=>exact⟨_,rfl,zpv⟩
 |also=>exact⟨_,rfl,zrp⟩
 |except_=>exact⟨_,rfl,znx⟩
 |pos=>exact⟨_,rfl,ztu⟩
 |behind=>exact absurd rfl hw
deriving instance DecidableEq for SufW
def zjh (s:List UInt8) (st:GSt) (len:Nat) (w:SufW):GE (Nd×List Nd×(Tr->Tr)×GSt):=
 if w= .behind then gBeh s st >>= fun r=>.ok (setR r.1 (((len+r.2.1.size:Nat):Int) - 1),r.2.1.flat len,fun t=>.bin r.1 t r.2.1,r.2.2)
 else gSuf s st w >>= fun p=>.ok (p.1,[],fun t=>.un p.1 t,p.2)
theorem znR {s:List UInt8} {t:Tr} {st:GSt} (len:Nat):∀ w:SufW,sufT (s:=s) t st w=(zjh s st len w >>= fun r=>.ok (r.2.2.1 t,r.2.2.2))
 | .behind=>by
  unfold sufT zjh gBeh;rw[if_pos rfl];cases gSuf s st .behind with
  |error e=>rfl
  |ok p=>
   show (prsT s .prim p.2 >>= _)=(((prsT s .prim p.2 >>= _) >>= _) >>= _);cases prsT s .prim p.2<;>rfl
 | .shift| .from_| .until_| .also| .except_| .pos=>by
  unfold sufT zjh;rw[if_neg (by intro h;cases h)];simp only[];cases gSuf s st _<;>rfl
theorem zrc {s:List UInt8} {st:GSt} {len:Nat} {w:SufW} {r:Nd×List Nd×(Tr->Tr)×GSt} (h:GOk s st) (he:zjh s st len w= .ok r):Onw s st r.2.2.2∧r.2.2.2.2=st.2+(r.2.1.length:Int)∧∀ t:Tr,(r.2.2.1 t).size=t.size+r.2.1.length+1∧∀ b,len=b+t.size->(r.2.2.1 t).flat b=t.flat b++r.2.1++ [setL r.1 (((b+t.size:Nat):Int) - 1)]:=by
 unfold zjh at he;split at he
 ·obtain⟨⟨n,u,st'⟩,h1,h2⟩:=zal he;cases h2;obtain⟨⟨n',st1⟩,h3,h4⟩:=zal h1;obtain⟨⟨u',st2⟩,h5,h6⟩:=zal h4;cases h6;have k1:=zdd h _ h3;have k2:Onw s st1 st2:=zds k1.1 h5;have k3:=zmh _ h3;have k4:st2.2=st1.2+(u'.size:Int):=zhm h5;refine⟨k1.trans k2,?_,fun t=>⟨?_,fun b hb=>?_⟩⟩
  ·show st2.2=st.2+(((u'.flat len).length:Nat):Int);rw[u'.len_flat];omega
  ·show t.size+u'.size+1=t.size+(u'.flat len).length+1;rw[u'.len_flat]
  ·subst hb;rfl
 ·obtain⟨⟨n,st'⟩,h1,h2⟩:=zal he;cases h2;refine⟨zdd h _ h1,?_,fun t=>⟨rfl,fun b hb=>?_⟩⟩
  ·show st'.2=st.2+0;rw[zmh _ h1];omega
  ·show t.flat b++ [_]=t.flat b++ []++ [_];rw[List.append_nil]
@[reducible] def cSufK (w:SufW) (k:Nat):HCtr:=hP [] nd (fun x _=>[few x,meas x.1 .prim (stOf x) < k]) fun x _=>toX (fun r=>(r.1,psX x.1 r.2.2.2 (x.2.2.1++r.2.1))) (zjh x.1 (stOf x) x.2.2.1.length w)
theorem zqc {args:List Ty} {x:PsT} {xs:Args args} {pre pre':PsT->Args args->List Prop} (hp:∀ x xs,allP (pre' x xs)->allP (pre x xs)) (h7:allP (pOk x::pre' x xs)):allP (pOk x::pre x xs):=by
 have h8:pOk x∧allP (pre' x xs):=by
  cases hq:pre' x xs with
  |nil=>rw[hq]at h7;exact⟨h7,trivial⟩
  |cons a l=>rw[hq]at h7;exact h7
 have h9:=hp x xs h8.2;cases hr:pre x xs with
 |nil=>exact h8.1
 |cons a l=>rw[hr]at h9;exact⟨h8.1,h9⟩
theorem zko {P:Program} {G:World->Prop} {f:FuncId} {args:List Ty} {res:Ty} {pre pre':PsT->Args args->List Prop} {out out':PsT->Args args->Except Value (res.T×PsT)} (h:zaB P G f (hP args res pre out)) (hp:∀ x xs,allP (pre' x xs)->allP (pre x xs)) (ho:∀ x xs,out' x xs=out x xs):zaB P G f (hP args res pre' out'):=by
 obtain rfl:out'=out:=funext fun x=>funext fun xs=>ho x xs;refine⟨h.1,h.2.1,fun w O g cs ty x xs vs b h1 h2 h3 h4 h5 h6 h7 h8 h9=>?_⟩;refine (h.2.2 w O g cs ty x xs vs b h1 h2 h3 h4 h5 h6 ?_ h8 h9).mono fun e w' hr=>⟨hr.1,?_⟩
 ·exact zqc hp h7
 ·have hr:=hr.2;revert hr;show HEnd (hP args res pre out') ty w w' O g b e (out' x xs)->HEnd (hP args res pre' out') ty w w' O g b e (out' x xs);cases out' x xs<;>exact id
theorem zsx (k:Nat) (hP:zaB Tryz.prog gmH 178 (zjr k)) (w:SufW):∃ f,zeS w= .func (.func f) #[] #[]∧zaB Tryz.prog gmH f (cSufK w k):=by
 by_cases hw:w= .behind
 ·subst hw;refine⟨_,rfl,zko (beh_ok k hP) (fun x xs h=>h) fun x xs=>?_⟩;unfold zjh;rw[if_pos rfl];cases gBeh x.1 (stOf x)<;>rfl
 ·obtain⟨f,h1,h2⟩:=zsy hw;refine⟨f,h1,zko h2 (fun x xs h=>trivial) fun x xs=>?_⟩;unfold zjh;rw[if_neg hw];cases gSuf x.1 (stOf x) w with
  |error e=>rfl
  |ok p=>
   show Except.ok (p.1,psX x.1 p.2 (x.2.2.1++ []))=Except.ok (p.1,psX x.1 p.2 x.2.2.1);rw[List.append_nil]
theorem zrw (k:Nat) (hP:zaB Tryz.prog gmH 178 (zjr k)):zaB Tryz.prog gmH 133 (zkH (k+1)):=by
 have hch:HsOk Tryz.prog gmH (hCh k):=.cons hP <| .cons zjv <| .cons zp1 .nil;refine zav (K:=_) zct Tryz.func133 rfl rfl zbg Tryz.call133 rfl (Nat.le_of_ble_eq_true rfl) zaU ?_;rintro w0 ⟨G,O,K,fix,D,ρ,B⟩ ty hX hG hK hρ hD hinv ⟨(s:List UInt8),(t:TokT),(l:List Nd),(b:Int),⟨⟩⟩ ⟨⟩ hp;obtain rfl:G=gmH:=hG;obtain rfl:K=1:=hK;obtain rfl:ρ=none:=hρ;obtain rfl:D=[]:=hD;have hI:=zaH (ty:=ty) (ty':=ty) hX rfl hinv;obtain⟨hok,hfew,hme⟩:pOk (s,t,l,b,())∧few (s,t,l,b,())∧meas s .chain (t,b) < k+1:=hp;have hg:GOk s (t,b):=hok.1;have hsl:s.length≤100000:=hok.2;change AWP _ _ _ _ _ ⟨[(0,pSelf)],pE ty s (t,b) l,2⟩ (pQ _ (zkH (k+1)) ty (toX (trX s l) (prsT s .chain (t,b))));rw[zio hg];(repeat(first|apply zae|apply zac|apply zab|apply zad));refine zaa hX zct rfl ?_ ?_
 ·trivial
 have hm0:meas s .prim (t,b) < k:=by simp only[meas,mdF]at hme ⊢;omega
 (repeat(first|apply zae|apply zac|apply zab|apply zad));refine zaj ?_;refine zay 1 hX zct hch rfl trivial rfl rfl ⟨hok,hfew,hm0⟩ hI (e:=prsT s .prim (t,b)) rfl (fun er h=>?_) (fun a h=>?_)
 ·rw[zap h];exact rfl
 rw[zau h];obtain⟨t1,st1⟩:=a;have hc1:Onw s (t,b) st1:=zds hg h;have hz1:st1.2=b+(t1.size:Int):=zhm h;have hfew:((l.length:Nat):Int)≤b:=hfew;refine AL.all hX zct rfl trivial ?_;apply zae;apply zab;refine AWP.loop (ι:=Tr×GSt) (fun i'=>⟨[(0,pSelf),(3,⟨i64,(((l.length+i'.1.size:Nat):Int) - 1)⟩),(4,⟨.mapL,zhb⟩)],pE ty s i'.2 (l++i'.1.flat l.length),2⟩) (fun i'=>prsT s (.chainL t1) st1=prsT s (.chainL i'.1) i'.2∧Onw s (t,b) i'.2∧i'.2.2=b+(i'.1.size:Int)) (fun i'=>rem s i'.2) (t1,st1) ⟨rfl,hc1,hz1⟩ ⟨⟨rfl,rfl,rfl,trivial⟩,⟨rfl,rfl,trivial⟩,rfl,rfl⟩ ?_;rintro ⟨t2,st⟩ ⟨heq,hon,hsz⟩;have heq:prsT s (.chainL t1) st1=prsT s (.chainL t2) st:=heq;have hsz:st.2=b+(t2.size:Int):=hsz;have hon:Onw s (t,b) st:=hon;have hst:GOk s st:=hon.1;have hst2:pOk (s,st.1,l++t2.flat l.length,st.2,()):=⟨hst,hsl⟩;have hfl:=t2.len_flat l.length;have hlen1:(l++t2.flat l.length).length=l.length+t2.size:=by rw[List.length_append,hfl]
 rw[heq];apply zae;(repeat(first|apply zae|apply zac|apply zab|apply zad));refine zaa hX zct rfl ?_ ?_
 ·trivial
 refine zaf rfl (fun hb=>?_) (fun hb=>?_)
 rotate_left
 ·have hb:(st.1.1==1)=false:=hb;have hb:Tok.cls st.1≠1:=fun h=>by
   have:(st.1.1==1)=true:=beq_iff_eq.2 h;rw[this]at hb;cases hb
  rw[zes hst hb];apply zad;(repeat(first|apply zae|apply zac|apply zak|apply zad|apply zab|refine zaa hX zct rfl trivial ?_|refine zaa hX zct rfl id ?_|refine zaa hX zct rfl ⟨id,id⟩ ?_));exact AWP.ret ⟨.inr rfl,⟨_,rfl,nd,1,_,rfl,rfl,rfl⟩,zat rfl trivial rfl rfl rfl⟩
 have hb:(st.1.1==1)=true:=hb;have hcls:Tok.cls st.1=1:=beq_iff_eq.1 hb;apply zac;refine zaq (σ':=⟨[(0,pSelf),(3,⟨i64,(((l.length+t2.size:Nat):Int) - 1)⟩),(4,⟨.mapL,zhb⟩)],pE ty s st (l++t2.flat l.length),2⟩) ⟨⟨rfl,rfl,rfl,trivial⟩,⟨rfl,rfl,trivial⟩,rfl,rfl⟩ ?_;apply zab;(repeat(first|apply zae|apply zac|apply zab|apply zad));refine zaj ?_;refine AL.take 6 hX zct rfl trivial ?_;refine AL.look2 Tryz.underlying204 Tryz.underlying9 rfl (key:=strV (Tok.text st.1)) (z:=.nilFunc) (es:=zhb) (r:=(sufW (Tok.text st.1)).map zeS) rfl rfl rfl rfl rfl (zpb rfl) Tryz.zeroValue206 (zqh _) ?_;refine AL.take 1 hX zct rfl trivial ?_;refine AL.ext0 rfl rfl rfl rfl rfl ?_;refine AL.ext1 rfl rfl rfl rfl rfl ?_;refine AL.all hX zct rfl trivial ?_;(repeat(first|apply zae|apply zac|apply zab|apply zad));refine zaa hX zct rfl ?_ ?_
 ·trivial
 cases hw:sufW (Tok.text st.1) with
 |none=>
  rw[zgt hst hcls hw];refine zaf rfl (fun _=>?_) (fun hb=>?_)
  rotate_left
  ·have hb:(!((none:Option SufW).map zeS).isSome)=false:=hb;cases hb
  apply zad;refine zaq (σ':=⟨[(0,pSelf),(3,⟨i64,(((l.length+t2.size:Nat):Int) - 1)⟩),(4,⟨.mapL,zhb⟩)],pE ty s st (l++t2.flat l.length),2⟩) ⟨⟨rfl,rfl,rfl,trivial⟩,⟨rfl,rfl,trivial⟩,rfl,rfl⟩ ?_;(repeat(first|apply zae|apply zac|apply zak|apply zad|apply zab|refine zaa hX zct rfl trivial ?_|refine zaa hX zct rfl id ?_|refine zaa hX zct rfl ⟨id,id⟩ ?_));exact AWP.ret ⟨.inr rfl,⟨_,rfl,nd,1,_,rfl,rfl,rfl⟩,zat rfl trivial rfl rfl rfl⟩
 |some w=>
  rw[zgu hst hcls hw]at heq ⊢;refine zaf rfl (fun hb=>?_) (fun _=>?_)
  ·have hb:(!((some w:Option SufW).map zeS).isSome)=true:=hb;cases hb
  apply zac;refine zaq (σ':=⟨[(0,pSelf),(3,⟨i64,(((l.length+t2.size:Nat):Int) - 1)⟩),(4,⟨.mapL,zhb⟩),(5,⟨.lit,zeS w⟩)],pE ty s st (l++t2.flat l.length),2⟩) ⟨⟨rfl,rfl,rfl,rfl,trivial⟩,⟨rfl,rfl,trivial⟩,rfl,rfl⟩ ?_;(repeat(first|apply zae|apply zac|apply zab|apply zad));refine zaj ?_;refine zay 1 hX zct hch rfl trivial rfl rfl hst2 hI (e:=zbN s st) rfl (fun er h=>?_) (fun st3 h3=>?_)
  ·rw[zap h];exact rfl
  rw[zau h3];have hc3:=zaQ hst (by rw[hcls];decide) h3;have hz3:=zdm h3;have hst3:pOk (s,st3.1,l++t2.flat l.length,st3.2,()):=⟨hc3.1,hsl⟩;have hfew3:few (s,st3.1,l++t2.flat l.length,st3.2,()):=by
   show (((l++t2.flat l.length).length:Nat):Int)≤st3.2;rw[hlen1];omega
  have hr1:=hon.rem hg;have hr2:=hc3.rem hst;have hm3:meas s .prim st3 < k:=by
   simp only[meas,mdF]at hme ⊢;omega
  refine AL.nil ?_;refine zaq (σ':=⟨[(0,pSelf),(3,⟨i64,(((l.length+t2.size:Nat):Int) - 1)⟩),(4,⟨.mapL,zhb⟩),(5,⟨.lit,zeS w⟩)],pE ty s st3 (l++t2.flat l.length),2⟩) ⟨⟨rfl,rfl,rfl,rfl,trivial⟩,⟨rfl,rfl,trivial⟩,rfl,rfl⟩ ?_;obtain⟨f,hf,hfo⟩:=zsx k hP w;(repeat(first|apply zae|apply zac|apply zab|apply zad));refine zaj ?_;refine AL.take 2 hX zct rfl trivial ?_;refine AL.ownVM hX hfo rfl rfl rfl (by show (⟨.lit,zeS w⟩:V)=_;rw[hf]) rfl rfl rfl rfl rfl rfl rfl rfl trivial ⟨hst3,hfew3,hm3⟩ hI (fun _=>rfl) (e:=zjh s st3 (l++t2.flat l.length).length w) rfl (fun er h=>?_) (fun r h4=>?_)
  ·rw[znR (l++t2.flat l.length).length w];rw[h];exact rfl
  rw[znR (l++t2.flat l.length).length w];rw[h4];obtain⟨n0,ex,tf,st4⟩:=r;obtain⟨hc4,hz4,hT⟩:=zrc hc3.1 h4;obtain⟨hT1,hT2⟩:=hT t2;have hT2:=hT2 l.length hlen1;have hT1:(tf t2).size=t2.size+ex.length+1:=hT1;have hT2:(tf t2).flat l.length=t2.flat l.length++ex++ [setL n0 (((l.length+t2.size:Nat):Int) - 1)]:=hT2;have hc4:Onw s st3 st4:=hc4;have hz4:st4.2=st3.2+(ex.length:Int):=hz4;have hlen2:(l++t2.flat l.length++ex).length=l.length+t2.size+ex.length:=by rw[List.length_append,hlen1]
  have hst4:pOk (s,st4.1,l++t2.flat l.length++ex,st4.2,()):=⟨hc4.1,hsl⟩;refine AL.all hX zct rfl trivial ?_;refine zaq (σ':=⟨[(0,pSelf),(3,⟨i64,(((l.length+t2.size:Nat):Int) - 1)⟩),(4,⟨.mapL,zhb⟩),(7,⟨.optr nd,⟨2,nd,.here⟩⟩)],[(0,some (pBox ty s st4)),(1,some (.buf 73 nd (l++t2.flat l.length++ex))),(2,some (.box nd n0))],3⟩) ⟨⟨rfl,rfl,rfl,rfl,trivial⟩,⟨rfl,rfl,rfl,trivial⟩,rfl,rfl⟩ ?_;(repeat(first|apply zae|apply zac|apply zab|apply zad));refine zaa hX zct rfl ?_ ?_
  ·trivial
  have hg4:=hc4.1.2.2;have hadd:(l++t2.flat l.length++ex).length≤100000:=by
   rw[hlen2];omega
  (repeat(first|apply zae|apply zac|apply zab|apply zad));refine zaj ?_;refine AL.own 2 hX zct hch rfl trivial rfl rfl ⟨hst4,hadd⟩ hI ?_;refine AL.all hX zct rfl trivial ?_;refine⟨(tf t2,st4),⟨?_,?_,?_⟩,?_,⟨rfl,vI64 ?_,rfl,trivial⟩,⟨rfl,ztO ?_,trivial⟩,rfl,rfl⟩
  ·rw[h3];show (sufT t2 st3 w >>= _)=_;rw[znR (l++t2.flat l.length).length w,h4];rfl
  ·exact (hon.trans hc3).trans hc4
  ·show st4.2=b+((tf t2).size:Int);rw[hT1];omega
  ·have hr4:=hc4.rem hc3.1;show rem s st4 < rem s st;omega
  ·show (((l++t2.flat l.length++ex).length:Nat):Int)=((l.length+(tf t2).size:Nat):Int) - 1;rw[hlen2,hT1];omega
  ·show l++t2.flat l.length++ex++ [setL n0 (((l.length+t2.size:Nat):Int) - 1)]=l++(tf t2).flat l.length;rw[hT2, <-List.append_assoc, <-List.append_assoc]
section
variable {s:List UInt8}
theorem zm3 {st:GSt} (h:GOk s st) (ho:gIs st zfj=true):prsT s .prim st=(prsT s (.bin 0) (gAdv s st) >>= fun p=>zaS s p.2 zdg >>= fun st=>.ok (p.1,st)):=by
 rw[zcL h,za4,if_pos ho];rfl
theorem zm4 {st:GSt} (h:GOk s st) (ho:gIs st zfj=false) (hc:Tok.cls st.1=2):prsT s .prim st=(zaE st (decide ((Tok.text st.1).length≤32)) 2 >>= fun _=>zbN s st >>= fun st'=>.ok (.leaf (18,0,0,0,0,0,[],Tok.text st.1,()),st')):=by
 rw[zcL h,za4,if_neg (by rw[ho];decide),if_pos hc];rfl
def leafT (s:List UInt8) (st:GSt):Option LeafW->GE (Tr×GSt)
 |none=>.error (Tok.at st.1,3)
 |some w=>zbN s st >>= fun st=>zde s st w >>= fun p=>.ok (.leaf p.1,p.2)
theorem zm5 {st:GSt} (h:GOk s st) (ho:gIs st zfj=false) (hc:Tok.cls st.1≠2):prsT s .prim st=(zaE st (Tok.cls st.1==3 - 2) 3 >>= fun _=>leafT s st (zgL (Tok.text st.1))):=by
 rw[zcL h,za4,if_neg (by rw[ho];decide),if_neg hc];show (zaE st (Tok.cls st.1==1) 3 >>= _)=(zaE st (Tok.cls st.1==1) 3 >>= _);cases zgL (Tok.text st.1)<;>rfl
end
theorem zq4 (w:LeafW):∃ f,zdi w= .func (.func f) #[] #[]∧zaB Tryz.prog gmH f (zdF w):=by
 cases w with
 |days=>exact⟨_,rfl,zro⟩
 |years=>exact⟨_,rfl,zpt⟩
 |months=>exact⟨_,rfl,znw⟩
 |monthdays=>exact⟨_,rfl,zjk⟩
 |weekdays=>exact⟨_,rfl,zkx⟩
 |weeks=>exact⟨_,rfl,zpu⟩
 |nth=>exact⟨_,rfl,ztv⟩
theorem dNat (a b:Nat):decide (((a:Nat):Int)≤((b:Nat):Int))=decide (a≤b):=decide_eq_decide.2 Int.ofNat_le
def kPm:Kn:={ gmK with C:=[(200,zpQ)] }
theorem zce:KnOk Tryz.prog gmH kPm:=zai.with (.cons zo4 .nil)
def hPm (k:Nat):List (FuncId×HCtr):=[(80,cBin k),(134,cIs),(87,cAdv),(88,zgk),(81,zgH),(135,zkJ),(136,cAdd)]
theorem zm6 (k:Nat) (hB:zaB Tryz.prog gmH 80 (cBin k)):zaB Tryz.prog gmH 178 (zjr (k+1)):=by
 have hpm:HsOk Tryz.prog gmH (hPm k):=.cons hB <| .cons zq6 <| .cons zgn <| .cons zfM <| .cons zeQ <| .cons zjv <| .cons zp1 .nil;refine zav (K:=_) zce Tryz.func178 rfl rfl zbg Tryz.call178 rfl (Nat.le_of_ble_eq_true rfl) zaU ?_;rintro w0 ⟨G,O,K,fix,D,ρ,B⟩ ty hX hG hK hρ hD hinv ⟨(s:List UInt8),(t:TokT),(l:List Nd),(b:Int),⟨⟩⟩ ⟨⟩ hp;obtain rfl:G=gmH:=hG;obtain rfl:K=1:=hK;obtain rfl:ρ=none:=hρ;obtain rfl:D=[]:=hD;have hI:=zaH (ty:=ty) (ty':=ty) hX rfl hinv;obtain⟨hok,hfew,hme⟩:pOk (s,t,l,b,())∧few (s,t,l,b,())∧meas s .prim (t,b) < k+1:=hp;have hg:GOk s (t,b):=hok.1;have hsl:s.length≤100000:=hok.2;have hfew:((l.length:Nat):Int)≤b:=hfew;change AWP _ _ _ _ _ ⟨[(0,pSelf)],pE ty s (t,b) l,2⟩ (pQ _ (zjr (k+1)) ty (toX (trX s l) (prsT s .prim (t,b))));(repeat(first|apply zae|apply zac|apply zab|apply zad));refine zaa hX zce rfl ?_ ?_
 ·trivial
 (repeat(first|apply zae|apply zac|apply zab|apply zad));refine zaj ?_;refine AL.own 1 hX zce hpm rfl trivial rfl rfl hok hI ?_;refine AL.nil ?_;refine zaf rfl (fun hb=>?_) (fun hb=>?_)
 ·have hb:gIs (t,b) zfj=true:=hb;rw[zm3 hg hb];have hc1:=zca hg (zcO hb);have hst1:pOk (s,(gAdv s (t,b)).1,l,(gAdv s (t,b)).2,()):=⟨hc1.1,hsl⟩;have hr1:=hc1.rem hg;have hm1:meas s (.bin ((0:Int)).toNat) (gAdv s (t,b)) < k:=by
   show meas s (.bin 0) (gAdv s (t,b)) < k;simp only[meas,mdF]at hme ⊢;omega
  (repeat(first|apply zae|apply zac|apply zab|apply zad));refine zaj ?_;refine AL.own 1 hX zce hpm rfl trivial rfl rfl hok hI ?_;refine AL.nil ?_;(repeat(first|apply zae|apply zac|apply zab|apply zad));refine zaj ?_;refine zay 1 hX zce hpm rfl trivial rfl rfl ⟨hst1,(by decide:(0:Int)≤0),(by decide:(0:Int)≤3),hfew,hm1⟩ hI (f:=trX s l) (e:=prsT s (.bin 0) (gAdv s (t,b))) rfl (fun er h=>?_) (fun a h=>?_)
  ·rw[zap h];exact rfl
  rw[zau h];obtain⟨u,st2⟩:=a;have hc2:Onw s (gAdv s (t,b)) st2:=zds hc1.1 h;have hst2:pOk (s,st2.1,l++u.flat l.length,st2.2,()):=⟨hc2.1,hsl⟩;refine AL.all hX zce rfl trivial ?_;refine zaq (σ':=⟨[(0,pSelf),(3,⟨i64,(((l.length+u.size:Nat):Int) - 1)⟩)],pE ty s st2 (l++u.flat l.length),2⟩) ⟨⟨rfl,rfl,trivial⟩,⟨rfl,rfl,trivial⟩,rfl,rfl⟩ ?_;(repeat(first|apply zae|apply zac|apply zab|apply zad));refine zaj ?_;refine zay 1 hX zce hpm rfl trivial rfl rfl hst2 hI (e:=zaS s st2 zdg) rfl (fun er h=>?_) (fun st3 h3=>?_)
  ·rw[zap h];exact rfl
  rw[zau h3];refine AL.nil ?_;(repeat(first|apply zae|apply zac|apply zak|apply zad|apply zab|refine zaa hX zce rfl trivial ?_|refine zaa hX zce rfl id ?_|refine zaa hX zce rfl ⟨id,id⟩ ?_));exact AWP.ret ⟨.inr rfl,⟨_,rfl,nd,1,_,rfl,rfl,rfl⟩,zat rfl trivial rfl rfl rfl⟩
 have hb:gIs (t,b) zfj=false:=hb;apply zac;(repeat(first|apply zae|apply zac|apply zab|apply zad));refine zaa hX zce rfl ?_ ?_
 ·trivial
 (repeat(first|apply zae|apply zac|apply zab|apply zad));refine zaa hX zce rfl ?_ ?_
 ·trivial
 refine zaq (σ':=⟨[(0,pSelf),(4,⟨.optr tk,⟨2,tk,.here⟩⟩),(22,⟨.bool,Tok.cls t==2⟩)],[(0,some (pBox ty s (t,b))),(1,some (.buf 73 nd l)),(2,some (.box tk t))],3⟩) ⟨⟨rfl,rfl,zc6 rfl,trivial⟩,⟨rfl,rfl,rfl,trivial⟩,rfl,rfl⟩ ?_;refine zaf rfl (fun hc=>?_) (fun hc=>?_)
 ·have hc:Tok.cls t=2:=beq_iff_eq.1 hc;rw[zm4 hg hb hc];have hls:(Tok.text t).length≤100000:=by
   have:=hg.1.2.2.2.2.1;have this:(Tok.text t).length≤s.length:=this;omega
  (repeat(first|apply zae|apply zac|apply zab|apply zad));refine zaj ?_;refine zay 5 hX zce hpm rfl trivial rfl rfl hok hI (e:=zaE (t,b) (decide ((Tok.text t).length≤32)) 2) (congrArg (fun c=>toX (fun _=>((),(s,t,l,b,()))) (zaE (t,b) c 2)) (dNat (Tok.text t).length 32)) (fun er h=>?_) (fun a h=>?_)
  ·rw[zap h];exact rfl
  rw[zau h];refine AL.nil ?_;refine zaq (σ':=⟨[(0,pSelf),(4,⟨.optr tk,⟨2,tk,.here⟩⟩)],[(0,some (pBox ty s (t,b))),(1,some (.buf 73 nd l)),(2,some (.box tk t))],3⟩) ⟨⟨rfl,rfl,trivial⟩,⟨rfl,rfl,rfl,trivial⟩,rfl,rfl⟩ ?_;(repeat(first|apply zae|apply zac|apply zab|apply zad));refine zaj ?_;refine zay 1 hX zce hpm rfl trivial rfl rfl hok hI (e:=zbN s (t,b)) rfl (fun er h=>?_) (fun st1 h1=>?_)
  ·rw[zap h];exact rfl
  rw[zau h1];have hc1:=zaQ hg (by show Tok.cls t≠0;rw[hc];decide) h1;have hg1:=hc1.1.2.2;have hz1:=zdm h1;have hz1:st1.2=b+1:=hz1;have hst1:pOk (s,st1.1,l,st1.2,()):=⟨hc1.1,hsl⟩;have hadd:l.length≤100000:=by omega
  refine AL.nil ?_;refine zaq (σ':=⟨[(0,pSelf),(4,⟨.optr tk,⟨2,tk,.here⟩⟩)],[(0,some (pBox ty s st1)),(1,some (.buf 73 nd l)),(2,some (.box tk t))],3⟩) ⟨⟨rfl,rfl,trivial⟩,⟨rfl,rfl,rfl,trivial⟩,rfl,rfl⟩ ?_;(repeat(first|apply zae|apply zac|apply zab|apply zad));refine zaj ?_;refine AL.own 4 hX zce hpm rfl trivial rfl rfl ⟨hst1,hadd⟩ hI ?_;refine AL.all hX zce rfl trivial ?_;refine AWP.ret ⟨.inr rfl,⟨_,rfl,nd,1,_,rfl,rfl,rfl⟩,zat rfl trivial rfl rfl ?_⟩;show ((l.length:Nat):Int)=((l.length+1:Nat):Int) - 1;omega
 ·have hc:Tok.cls t≠2:=fun h=>by
   have h2:(Tok.cls t==2)=true:=beq_iff_eq.2 h;have hc:(Tok.cls t==2)=false:=hc;rw[h2]at hc;cases hc
  rw[zm5 hg hb hc];apply zac;refine zaq (σ':=⟨[(0,pSelf)],pE ty s (t,b) l,2⟩) ⟨⟨rfl,trivial⟩,⟨rfl,rfl,trivial⟩,rfl,rfl⟩ ?_;(repeat(first|apply zae|apply zac|apply zab|apply zad));refine zaj ?_;refine zay 7 hX zce hpm rfl trivial rfl rfl hok hI (e:=zaE (t,b) (Tok.cls t==1) 3) rfl (fun er h=>?_) (fun a h=>?_)
  ·rw[zap (by exact h)];exact rfl
  rw[zau (by exact h)];have hcls:Tok.cls t=1:=beq_iff_eq.1 (zaW h);refine AL.nil ?_;refine AWP.via (σ':=⟨[(0,pSelf),(5,⟨.lit,((zgL (Tok.text t)).map zdi).getD .nilFunc⟩),(6,⟨.bool,((zgL (Tok.text t)).map zdi).isSome⟩)],pE ty s (t,b) l,2⟩) ?_ ?_
  ·refine AWP.ordersA dM 12 rfl (by kernel_rfl) ?_
   repeat'(first
    |exact AllN.nil
    |refine AllN.cons ⟨_,rfl,?_⟩ ?_
    |refine StepA.eval hX zce rfl trivial ?_
    |refine StepA.hand rfl (zoT Tryz.underlying204 Tryz.underlying9 rfl (key:=strV (Tok.text t)) (z:=.nilFunc) (es:=zke) (r:=(zgL (Tok.text t)).map zdi) rfl rfl rfl rfl (zpb rfl) Tryz.zeroValue206 (zo5 _) ?_)
    |refine StepA.hand rfl (zpz rfl rfl rfl rfl ?_)
    |refine StepA.hand rfl (zpy rfl rfl rfl rfl ?_)
    |(refine OrdA.last ?_;exact⟨⟨rfl,rfl,rfl,trivial⟩,⟨rfl,rfl,trivial⟩,rfl,rfl⟩))
  (repeat(first|apply zae|apply zac|apply zab|apply zad));refine zaj ?_;refine zay 2 hX zce hpm rfl trivial rfl rfl hok hI (e:=zaE (t,b) ((zgL (Tok.text t)).map zdi).isSome 3) rfl (fun er h=>?_) (fun a h2=>?_)
  ·cases hw:zgL (Tok.text t) with
   |some w=>rw[hw]at h;cases h
   |none=>
    rw[hw]at h;cases h;exact rfl
  cases hw:zgL (Tok.text t) with
  |none=>rw[hw]at h2;cases h2
  |some w=>
   refine AL.nil ?_;refine zaq (σ':=⟨[(0,pSelf),(5,⟨.lit,zdi w⟩)],pE ty s (t,b) l,2⟩) ⟨⟨rfl,rfl,trivial⟩,⟨rfl,rfl,trivial⟩,rfl,rfl⟩ ?_;change AWP _ _ _ _ _ _ (pQ _ (zjr (k+1)) ty (toX (trX s l) (zbN s (t,b) >>= fun st=>zde s st w >>= fun p=>.ok (.leaf p.1,p.2))));(repeat(first|apply zae|apply zac|apply zab|apply zad));refine zaj ?_;refine zay 1 hX zce hpm rfl trivial rfl rfl hok hI (e:=zbN s (t,b)) rfl (fun er h=>?_) (fun st1 h1=>?_)
   ·rw[zap h];exact rfl
   rw[zau h1];have hc1:=zaQ hg (by show Tok.cls t≠0;rw[hcls];decide) h1;have hg1:=hc1.1.2.2;have hz1:=zdm h1;have hz1:st1.2=b+1:=hz1;have hst1:pOk (s,st1.1,l,st1.2,()):=⟨hc1.1,hsl⟩;have hadd:l.length≤100000:=by omega
   refine AL.nil ?_;refine zaq (σ':=⟨[(0,pSelf),(5,⟨.lit,zdi w⟩)],pE ty s st1 l,2⟩) ⟨⟨rfl,rfl,trivial⟩,⟨rfl,rfl,trivial⟩,rfl,rfl⟩ ?_;obtain⟨f,hf,hfo⟩:=zq4 w;(repeat(first|apply zae|apply zac|apply zab|apply zad));refine zaj ?_;refine AL.take 3 hX zce rfl trivial ?_;refine AL.ownVM hX hfo rfl rfl rfl (by show (⟨.lit,zdi w⟩:V)=_;rw[hf]) rfl rfl rfl rfl rfl rfl rfl rfl trivial hst1 hI (fun _=>rfl) (e:=zde s st1 w) rfl (fun er h=>?_) (fun r h4=>?_)
   ·rw[zap h];exact rfl
   rw[zau h4];obtain⟨n0,st2⟩:=r;have hc2:Onw s st1 st2:=zml hc1.1 w h4;have hst2:pOk (s,st2.1,l,st2.2,()):=⟨hc2.1,hsl⟩;refine AL.own 0 hX zce hpm rfl trivial rfl rfl ⟨hst2,hadd⟩ hI ?_;refine AL.all hX zce rfl trivial ?_;refine AWP.ret ⟨.inr rfl,⟨_,rfl,nd,1,_,rfl,rfl,rfl⟩,zat rfl trivial rfl rfl ?_⟩;show ((l.length:Nat):Int)=((l.length+1:Nat):Int) - 1;omega
def Rec3 (k:Nat):Prop:=zaB Tryz.prog gmH 80 (cBin k)∧zaB Tryz.prog gmH 133 (zkH k)∧zaB Tryz.prog gmH 178 (zjr k)
theorem zev {P:Program} {G:World->Prop} {f:FuncId} {c:HCtr} (hl:c.law) (hen:∀ (vs:Array Value) (w:World),(callFunc f vs).run P w= .ok (.enter f vs) w) (h:∀ x xs,¬ allP (c.pre x xs)):zaB P G f c:=
 ⟨hen,hl,fun _ _ _ _ _ x xs _ _ _ _ _ _ _ _ hp=>(h x xs hp).elim⟩
theorem zlX:∀ k,Rec3 k
 |0=>by
  refine⟨zev zbg Tryz.call80 fun x xs h=>?_,zev zbg Tryz.call133 fun x xs h=>?_,zev zbg Tryz.call178 fun x xs h=>?_⟩
  ·exact absurd h.2.2.2.2 (Nat.not_lt_zero _)
  ·exact absurd h.2.2 (Nat.not_lt_zero _)
  ·exact absurd h.2.2 (Nat.not_lt_zero _)
 |k+1=>by
  obtain⟨h1,h2,h3⟩:=zlX k;exact⟨zpX k h1 h2,zrw k h3,zm6 k h1⟩
@[reducible] def nBox (s:List UInt8) (t:TokT) (b:Int):OObj:=.hbox 139 [⟨.str,s⟩,⟨i64,t.1⟩,⟨i64,t.2.1⟩,⟨i64,t.2.2.1⟩,⟨.str,t.2.2.2.1⟩,⟨i64,t.2.2.2.2.1⟩,⟨.lit,.slice none 0 0⟩,⟨i64,b⟩]
@[reducible] def cNewP:FCtr:={ args:=[.str],pre:=fun xs=>[List.length xs.1≤100000],obj:=fun xs=>nBox xs.1 (zbd xs.1) 0 }
def zj0 (s:List UInt8):Value:=.agg #[.string ⟨s.toArray⟩,.int .i64 0,.int .i64 0,.int .i64 0,.string ⟨#[]⟩,.int .i64 0,.slice none 0 0,.int .i64 0]
theorem zqF (s:List UInt8):Tryz.prog.built 139 [(0,.string ⟨s.toArray⟩)]=some #[.string ⟨s.toArray⟩,.int .i64 0,.int .i64 0,.int .i64 0,.string ⟨#[]⟩,.int .i64 0,.slice none 0 0,.int .i64 0]:=by kernel_rfl
section
variable {w0:World} {X:Ownr} {n:Nat} {Q:Exit->AS->Prop} {ops:Array Oper}
theorem AL.newPs (hX:X.Ok w0) {o1 o2:Oper} {rest:List Oper} {d1 d2:Nat} {x:Operand} (ho1:o1.op= .build 139 #[(0,x)]) (ho2:o2.op= .box 139 (.tmp d1)) (hg1:o1.guard=none) (hg2:o2.guard=none) (hd1:o1.dst=some d1) (hd2:o2.dst=some d2) (hn1:Nat.blt d1 n=true) (hn2:Nat.blt d2 n=true) {F:Frame} {E:Owns} {nx:Nat} {s:List UInt8} (hx:evO F x=⟨.str,s⟩)
 (h:AL Tryz.prog w0 X n ops rest ⟨(d2,⟨.hptr,(nx,(0:Nat))⟩)::(d1,⟨.lit,zj0 s⟩)::F,(nx,some (nBox s zTk 0))::E,nx+1⟩ Q):AL Tryz.prog w0 X n ops (o1::o2::rest) ⟨F,E,nx⟩ Q:=by
 refine AL.hand hg1 (fun c e=>by rw[ho1]at e;cases e) fun β a w hs=>?_;have hl1:d1 < n:=by simpa using hn1
 have hl2:d2 < n:=by simpa using hn2
 have hsx:=hs.ops x;rw[show evO (AS.mk F E nx).F x=_ from hx]at hsx;obtain⟨hsx,hle⟩:=hsx;have hsx:a.eval x= .string ⟨s.toArray⟩:=List.singleton_inj.1 hsx;refine zbE (u:=zj0 s) (w':=w) ?_ ?_
 ·unfold execOp;simp only[ho1];refine zel ?_;rw[show (#[(0,x)]:Array (Nat×Operand)).map (fun p=>(p.1,a.eval p.2))= #[(0,Value.string ⟨s.toArray⟩)] from by simp[hsx]];exact run_build w _ _ _ (zqF s)
 rw[hd1];refine⟨_,β,hs.put (Below.refl _ _) (v:=⟨.lit,zj0 s⟩) rfl (Nat.zero_le _) hl1,?_⟩;refine AL.hand hg2 (fun c e=>by rw[ho2]at e;cases e) fun β a w hs=>?_;have hv:a.eval (.tmp d1)=zj0 s:=by
  have h1:=hs.ops (.tmp d1);have e:evO ((d1,⟨.lit,zj0 s⟩)::F) (.tmp d1)=⟨.lit,zj0 s⟩:=by
   show Frame.get ((d1,_)::F) d1=_;rw[zas,if_pos rfl]
  rw[show evO (AS.mk ((d1,⟨.lit,zj0 s⟩)::F) E nx).F (.tmp d1)=_ from e]at h1;exact h1
 refine zbE (u:=.pointer (some ⟨w.heap.size,0,none⟩)) (w':=w.alloc (.cells #[.string ⟨s.toArray⟩,.int .i64 0,.int .i64 0,.int .i64 0,.string ⟨#[]⟩,.int .i64 0,.slice none 0 0,.int .i64 0] 139 (0,0))) ?_ ?_
 ·unfold execOp;simp only[ho2];refine zel ?_;rw[hv];simp[Instr.box,newVar,newRow,Value.cells,go_sem,zj0]
 ·rw[hd2];obtain⟨β',h4⟩:=hs.make hX ((Below.refl _ w).alloc (Nat.le_refl _) (.cells #[.string ⟨s.toArray⟩,.int .i64 0,.int .i64 0,.int .i64 0,.string ⟨#[]⟩,.int .i64 0,.slice none 0 0,.int .i64 0] 139 (0,0))) (bv:=.pointer (some ⟨w.heap.size,0,none⟩)) (o:=nBox s zTk 0)
   (fun O β' hO=>⟨w.heap.size,[_,_,_,_,_,_,_,_],rfl,Nat.zero_le _,World.alloc_heap_new w _,_,_,rfl,rfl,⟨rfl,hle⟩,_,_,rfl,rfl,rfl,_,_,rfl,rfl,rfl,_,_,rfl,rfl,rfl,_,_,rfl,rfl,⟨rfl,Nat.zero_le _⟩,_,_,rfl,rfl,rfl,_,_,rfl,rfl,rfl,_,_,rfl,rfl,rfl,rfl⟩)
   (fun g hg=>by cases hg;exact Nat.le_refl _) (v:=⟨.hptr,(nx,(0:Nat))⟩) (u:=.pointer (some ⟨w.heap.size,0,none⟩))
   (fun O β' hb=>⟨w.heap.size,by show zah (β' nx)=_;rw[show β' nx=_ from hb];rfl,rfl⟩) (Nat.le_refl _) hl2 (fun vs e v hv=>by
     cases e;have:((nBox s zTk 0).bare)=true:=rfl;exact OObj.bare_under this _ _ rfl _ hv)
  exact⟨_,β',h4,h⟩
end
theorem zet:zmH Tryz.prog gmH 45 cNewP:=by
 refine zls zc2 Tryz.func45 rfl rfl Tryz.call45 rfl (Nat.le_of_ble_eq_true rfl) (fun xs=>⟨rfl,rfl⟩) ?_;rintro w0 O hX ⟨(s:List UInt8),⟨⟩⟩ hp;have hlen:s.length≤100000:=hp;change AWP _ _ _ _ _ ⟨[(0,⟨.str,s⟩)],[],0⟩ _;(repeat(first|apply zae|apply zac|apply zab|apply zad));refine zaa hX zc2 rfl ?_ ?_
 ·trivial
 (repeat(first|apply zae|apply zac|apply zab|apply zad));refine zaj ?_;refine AL.take 1 hX zc2 rfl trivial ?_;refine AL.newPs hX rfl rfl rfl rfl rfl rfl rfl rfl rfl ?_;refine AL.all hX zc2 rfl trivial ?_;(repeat(first|apply zae|apply zac|apply zab|apply zad));refine zaa hX zc2 rfl ?_ ?_
 ·exact hlen
 (repeat(first|apply zae|apply zac|apply zak|apply zad|apply zab|refine zaa hX zc2 rfl trivial ?_|refine zaa hX zc2 rfl id ?_|refine zaa hX zc2 rfl ⟨id,id⟩ ?_));exact AWP.ret ⟨.inr rfl,_,_,rfl,rfl,rfl⟩
def lQ (rs:List ResultVar) (t:Ty) (r:Except Value t.T) (e:Exit) (σ:AS):Prop:=LDone gmT rs t e σ r
def zew (s:List UInt8) (st:GSt) (l:List Nd):Except Value (List Nd):=toX (fun r=>l++r.1.flat l.length) (zeb s st)
@[reducible] def cRule:HCtr:=hP [] (.slice nd) (fun x _=>[few x]) fun x _=>.ok ([],x)
def hRu (k:Nat):List (FuncId×HCtr):=[(80,cBin k),(81,zgH)]
theorem zok:zfX Tryz.prog gmH 46 cRule (fun x _=>zew x.1 (stOf x) x.2.2.1):=by
 refine zhy (K:=gmK) zai Tryz.func46 rfl rfl zbg Tryz.call46 rfl (Nat.le_of_ble_eq_true rfl) zaU ?_;rintro w0 ⟨G,O,K,fix,D,ρ,B⟩ ty hX hG hK hρ hD hinv x ⟨⟩ hp;obtain rfl:G=gmH:=hG;obtain rfl:K=1:=hK;obtain rfl:ρ=none:=hρ;obtain rfl:D=[]:=hD;have hI:=zaH (ty:=ty) hX rfl hinv (ty':=ty);obtain⟨s,t,l,b,⟨⟩⟩:=x;obtain⟨hok,hfew⟩:pOk (s,t,l,b,())∧few (s,t,l,b,()):=hp;have hg:GOk s (t,b):=hok.1;have hsl:s.length≤100000:=hok.2;have hru:HsOk Tryz.prog gmH (hRu (meas s (.bin 0) (t,b)+1)):=.cons (zlX _).1 <| .cons zeQ .nil;change AWP _ _ _ _ _ ⟨[(0,pSelf)],pE ty s (t,b) l,2⟩ (lQ _ (.slice nd) (zew s (t,b) l));unfold zew;obtain⟨R,hR⟩:∃ R,R=zeb s (t,b):=⟨_,rfl⟩;rw[<-hR];unfold zeb at hR;(repeat(first|apply zae|apply zac|apply zab|apply zad));refine zaa hX zai rfl ?_ ?_
 ·trivial
 (repeat(first|apply zae|apply zac|apply zab|apply zad));refine zaj ?_;refine zay 1 hX zai hru rfl trivial rfl rfl ⟨hok,(by decide:(0:Int)≤0),(by decide:(0:Int)≤3),hfew,Nat.lt_succ_self _⟩ hI (f:=trX s l) (e:=prsT s (.bin 0) (t,b)) rfl (fun er h=>?_) (fun a h=>?_)
 ·rw[hR,zap h];exact rfl
 rw[h]at hR;obtain⟨u,st⟩:=a;have hc:Onw s (t,b) st:=zds hg h;have hst:pOk (s,st.1,l++u.flat l.length,st.2,()):=⟨hc.1,hsl⟩;refine AL.all hX zai rfl trivial ?_;refine zaq (σ':=⟨[(0,pSelf)],pE ty s st (l++u.flat l.length),2⟩) ⟨⟨rfl,trivial⟩,⟨rfl,rfl,trivial⟩,rfl,rfl⟩ ?_;(repeat(first|apply zae|apply zac|apply zab|apply zad));refine zaj ?_;refine zay 7 hX zai hru rfl trivial rfl rfl hst hI (e:=zaE st (Tok.cls st.1==0) 3) rfl (fun er h=>?_) (fun a h=>?_)
 ·rw[show R= .error er by rw[hR];show (zaE st _ 3 >>= _)=_;rw[h];rfl];exact rfl
 rw[show R= .ok (u,st) by rw[hR];show (zaE st _ 3 >>= _)=_;rw[h];rfl];refine AL.nil ?_;(repeat(first|apply zae|apply zac|apply zak|apply zad|apply zab|refine zaa hX zai rfl trivial ?_|refine zaa hX zai rfl id ?_|refine zaa hX zai rfl ⟨id,id⟩ ?_));refine AWP.frz hX 2 ?_;exact AWP.ret ⟨.inr rfl,zat rfl trivial rfl rfl rfl⟩
def gDef (s:List UInt8) (st:GSt) (n:Int):Except (Int×Int) (List UInt8×Tr):=do
 zaE st (Tok.cls st.1==1) 3
 zaE st (decide ((Tok.text st.1).length≤32)&&decide (n < 4096)) 2
 let st'<-zaS s (gAdv s st) wEq
 let p<-zeb s st'
 return (Tok.text st.1,p.1)
def zlp (s:List UInt8) (st:GSt) (l:List Nd) (n:Int):Except Value (List UInt8×List Nd×Unit):=toX (fun r=>(r.1,l++r.2.flat l.length,())) (gDef s st n)
@[reducible] def cDef:HCtr:=hP [i64] de (fun x _=>[few x]) fun x _=>.ok (([],[],()),x)
def hDf:List (FuncId×HCtr):=[(81,zgH),(87,cAdv),(88,zgk)]
theorem zme:HsOk Tryz.prog gmH hDf:=.cons zeQ <| .cons zgn <| .cons zfM .nil
theorem zfP:zfX Tryz.prog gmH 55 cDef (fun x xs=>zlp x.1 (stOf x) x.2.2.1 xs.1):=by
 refine zhy (K:=gmK) zai Tryz.func55 rfl rfl zbg Tryz.call55 rfl (Nat.le_of_ble_eq_true rfl) zaU ?_;rintro w0 ⟨G,O,K,fix,D,ρ,B⟩ ty hX hG hK hρ hD hinv x ⟨(k:Int),⟨⟩⟩ hp;obtain rfl:G=gmH:=hG;obtain rfl:K=1:=hK;obtain rfl:ρ=none:=hρ;obtain rfl:D=[]:=hD;have hI:=zaH (ty:=ty) hX rfl hinv (ty':=ty);obtain⟨s,t,l,b,⟨⟩⟩:=x;obtain⟨hok,hfew⟩:pOk (s,t,l,b,())∧few (s,t,l,b,()):=hp;have hg:GOk s (t,b):=hok.1;have hsl:s.length≤100000:=hok.2;change AWP _ _ _ _ _ ⟨[(0,pSelf),(1,⟨i64,k⟩)],pE ty s (t,b) l,2⟩ (lQ _ de (zlp s (t,b) l k));unfold zlp;obtain⟨R,hR⟩:∃ R,R=gDef s (t,b) k:=⟨_,rfl⟩;rw[<-hR];unfold gDef at hR;have hls:(Tok.text t).length≤100000:=by
  have:=hg.1.2.2.2.2.1;have this:(Tok.text t).length≤s.length:=this;omega
 (repeat(first|apply zae|apply zac|apply zab|apply zad));refine zaa hX zai rfl ?_ ?_
 ·trivial
 (repeat(first|apply zae|apply zac|apply zab|apply zad));refine zaj ?_;refine zay 7 hX zai zme rfl trivial rfl rfl hok hI (e:=zaE (t,b) (Tok.cls t==1) 3) rfl (fun er h=>?_) (fun a h=>?_)
 ·rw[hR,zap (by exact h)];exact rfl
 have hcls:Tok.cls t=1:=beq_iff_eq.1 (zaW h);rw[show (zaE (t,b) (Tok.cls (t,b).1==1) 3)= .ok a from h]at hR;have hR:R=(zaE (t,b) (decide ((Tok.text t).length≤32)&&decide (k < 4096)) 2 >>= fun _=>zaS s (gAdv s (t,b)) wEq >>= fun st'=>zeb s st' >>= fun p=>.ok (Tok.text t,p.1)):=hR;refine AL.nil ?_;refine zaq (σ':=⟨[(0,pSelf),(1,⟨i64,k⟩),(4,⟨.optr de,⟨2,de,.here⟩⟩)],[(0,some (pBox ty s (t,b))),(1,some (.buf 73 nd l)),(2,some (.box de ([],[],())))],3⟩) ⟨⟨rfl,rfl,rfl,trivial⟩,⟨rfl,rfl,rfl,trivial⟩,rfl,rfl⟩ ?_;(repeat(first|apply zae|apply zac|apply zab|apply zad));refine zaj ?_;refine zay 12 hX zai zme rfl ?_ rfl rfl hok hI (e:=zaE (t,b) (bif decide (((Tok.text t).length:Int)≤((32:Nat):Int)) then decide (k < 4096) else false) 2) rfl (fun er h=>?_) (fun a h=>?_)
 ·repeat'(first|exact trivial|assumption|(refine⟨?_,?_⟩)|(intro _)|exact Nat.le_of_ble_eq_true rfl|exact Int.natCast_nonneg _|(simp_all [allP];done))
 ·rw[zcn,dNat]at h;rw[hR,zap h];exact rfl
 rw[zcn,dNat]at h;rw[h]at hR;have hR:R=(zaS s (gAdv s (t,b)) wEq >>= fun st'=>zeb s st' >>= fun p=>.ok (Tok.text t,p.1)):=hR;refine AL.nil ?_;refine zaq (σ':=⟨[(0,pSelf),(4,⟨.optr de,⟨2,de,.here⟩⟩)],[(0,some (pBox ty s (t,b))),(1,some (.buf 73 nd l)),(2,some (.box de ([],[],())))],3⟩) ⟨⟨rfl,rfl,trivial⟩,⟨rfl,rfl,rfl,trivial⟩,rfl,rfl⟩ ?_;have hc1:=zca hg (by show Tok.cls t≠0;rw[hcls];decide);obtain⟨st1,hst1⟩:∃ st1,st1=gAdv s (t,b):=⟨_,rfl⟩;have hz1:st1.2=b:=by rw[hst1];rfl
 (repeat(first|apply zae|apply zac|apply zab|apply zad));refine zaj ?_;refine AL.own 1 hX zai zme rfl trivial rfl rfl hok hI ?_;rw[<-hst1]at hR hc1;refine AL.fit (σ':=⟨[(0,pSelf),(4,⟨.optr de,⟨2,de,.here⟩⟩),(28,⟨tk,t⟩)],[(0,some (pBox ty s st1)),(1,some (.buf 73 nd l)),(2,some (.box de ([],[],())))],3⟩) ⟨⟨rfl,rfl,rfl,trivial⟩,⟨by rw[hst1];rfl,rfl,rfl,trivial⟩,rfl,rfl⟩ ?_;refine AL.all hX zai rfl trivial ?_;refine zaq (σ':=⟨[(0,pSelf),(4,⟨.optr de,⟨2,de,.here⟩⟩),(5,⟨.optr de,⟨3,de,.here⟩⟩)],[(0,some (pBox ty s st1)),(1,some (.buf 73 nd l)),(2,some (.box de ([],[],()))),(3,some (.box de (Tok.text t,[],())))],4⟩) ⟨⟨rfl,rfl,rfl,trivial⟩,⟨rfl,rfl,rfl,rfl,trivial⟩,rfl,rfl⟩ ?_;have hok1:pOk (s,st1.1,l,st1.2,()):=⟨hc1.1,hsl⟩;(repeat(first|apply zae|apply zac|apply zab|apply zad));refine zaj ?_;refine zay 1 hX zai zme rfl trivial rfl rfl hok1 hI (e:=zaS s st1 wEq) rfl (fun er h=>?_) (fun st2 h2=>?_)
 ·rw[hR,zap (by exact h)];exact rfl
 rw[h2]at hR;have hR:R=(zeb s st2 >>= fun p=>.ok (Tok.text t,p.1)):=hR;have hc2:=zbk hc1.1 h2;have hz2:=zdY h2;have hok2:pOk (s,st2.1,l,st2.2,()):=⟨hc2.1,hsl⟩;have hfew2:few (s,st2.1,l,st2.2,()):=by
  show ((l.length:Nat):Int)≤st2.2;rw[hz2,hz1];exact hfew
 refine AL.nil ?_;refine zaq (σ':=⟨[(0,pSelf),(4,⟨.optr de,⟨2,de,.here⟩⟩),(5,⟨.optr de,⟨3,de,.here⟩⟩)],[(0,some (pBox ty s st2)),(1,some (.buf 73 nd l)),(2,some (.box de ([],[],()))),(3,some (.box de (Tok.text t,[],())))],4⟩) ⟨⟨rfl,rfl,rfl,trivial⟩,⟨rfl,rfl,rfl,rfl,trivial⟩,rfl,rfl⟩ ?_;(repeat(first|apply zae|apply zac|apply zab|apply zad));refine zaj ?_;refine AL.take 1 hX zai rfl trivial ?_;refine AL.give hX zok rfl rfl rfl rfl rfl rfl rfl rfl rfl rfl rfl rfl trivial ⟨hok2,hfew2⟩ hI rfl rfl ?_;cases h3:zeb s st2 with
 |error er=>
  rw[h3]at hR;rw[show zew s (stOf (s,st2.1,l,st2.2,())) l= .error (pvS er) by unfold zew;rw[show stOf (s,st2.1,l,st2.2,())=st2 from rfl,h3];rfl];rw[show R= .error er from hR];exact rfl
 |ok p=>
  rw[h3]at hR;rw[show zew s (stOf (s,st2.1,l,st2.2,())) l= .ok (l++p.1.flat l.length) by unfold zew;rw[show stOf (s,st2.1,l,st2.2,())=st2 from rfl,h3];rfl];rw[show R= .ok (Tok.text t,p.1) from hR];show AL _ _ _ _ _ _ _ _;refine AL.all hX zai rfl trivial ?_;(repeat(first|apply zae|apply zac|apply zak|apply zad|apply zab|refine zaa hX zai rfl trivial ?_|refine zaa hX zai rfl id ?_|refine zaa hX zai rfl ⟨id,id⟩ ?_));exact AWP.ret ⟨.inr rfl,zat rfl trivial rfl rfl rfl⟩
def zp5 (c:HCtr) (ty:TypeId) (e:Exit) (σ:AS):Except Value (c.res.T×c.self.T)->Prop
 | .ok (_,x')=>(e= .normal∨e= .ret)∧∃ vs,Owns.get σ.E 0=some (.hbox ty vs)∧unH c 0 vs σ.E x'
 | .error pv=>e= .panic [{ v:=pv,recovered:=false }]
section
variable {P:Program} {K:Kn} {n:Nat}
theorem zgB {G:World->Prop} (hK:KnOk P G K) {f:FuncId} {fn:Func} {c:Code} {ctr:HCtr} (hf:P.funcs[f]? =some fn) (hb:fn.body=some c) (hn:fn.ntmps=n) (hlaw:ctr.law)
 (hen:∀ (us:Array Value) (w:World),(callFunc f us).run P w= .ok (.enter f us) w) (hunit:ctr.res= .unit) (hrs:∀ tmps w,∃ v,(results fn tmps).run P w= .ok v w) (hd:za8 ctr.args=true) (hlen:ctr.args.length+1≤n) (hst:∀ w w' R ty,ctr.inv w R ty->G w->Kept R w w'->G w')
 (h:∀ (w0:World) (X:Ownr) (ty:TypeId),X.Ok w0->X.G=G->X.K=1->X.ρ=none->X.D=[]->ctr.inv w0 X.R ty->∀ (x:ctr.self.T) (xs:Args ctr.args),allP (ctr.pre x xs)->
   AWP P w0 X n c (zkm ctr ty x xs) (fun e σ=>zp5 ctr ty e σ (ctr.out x xs))):zaB P G f ctr:=by
 refine⟨hen,hlaw,fun w O g cs ty x xs vs b hO hgb hg hx hbuf hrep hp hinv hG=>calls_of_wp hf hb ?_⟩;obtain⟨X,hXd,hX,hXR,hsim⟩:=ztd (ctr:=ctr) (G:=G) hn hlaw hd hlen hst hO hgb hg hx hbuf hrep hinv hG;have hXX:X.X=O:=by rw[hXd]
 have hXG:X.G=G:=by rw[hXd]
 have hinv':ctr.inv w X.R ty:=by
  rw[show X.R=fun h=>h=g∨zah b=some h from funext fun h=>propext (hXR h)];exact hinv
 have hw:=h w X ty hX hXG (by rw[hXd]) (by rw[hXd]) (by rw[hXd]) hinv' x xs hp _ _ _ hsim;rw[show X.ρ=none by rw[hXd]]at hw;refine wp_mono (wpIn_wide.1 hw) fun e a' w' ⟨σ',β',h1,h2⟩=>?_;have hbk:Kept (fun h=>h=g∨zah b=some h) w w':=⟨h1.bel.os,h1.bel.tape,h1.bel.output,h1.bel.size,fun k hk hr=>h1.bel.block k hk fun hr'=>hr ((hXR k).1 hr')⟩;have hdf:a'.defers=[]:=by rw[h1.df,hXd]
 revert h2;cases ho:ctr.out x xs with
 |error pv=>
  rintro rfl;exact⟨hdf,hbk,rfl⟩
 |ok p=>
  obtain⟨y,x'⟩:=p;rintro ⟨h2,ws,h6,h7⟩;obtain⟨et',j,k1,k2,_,_⟩:=zeE hlaw h7;obtain⟨g',cs',hb1,_,hb3,hb4⟩:=h1.own 0 _ h6;have hb5:=(h1.fix.2 0 (by rw[hXd];exact Nat.lt_succ_self 0)).1;rw[hb1]at hb5;have hgg:g'=g:=by
   have h:some g'=some (X.fix 0):=hb5;rw[hXd]at h;exact Option.some.inj h
  subst hgg;have hj:=h1.own j _ k2;have hne:(0:Nat)≠j:=fun e=>by rw[<-e,h6]at k2;cases k2
  have hsub:∀ k,zby O g' (β' j) k->OSet X σ'.E β' k:=fun k hk=>by
   rcases hk with (hk|hk)|hk
   ·exact .inl (by rw[hXX];exact hk)
   ·exact .inr ⟨0,_,h6,by rw[hb1,hk];rfl⟩
   ·exact .inr ⟨j,_,k2,hk⟩
  have hkp:Keeps w' w' (OSet X σ'.E β') (zby O g' (β' j)):=⟨Nat.le_refl _,fun _ _ _=>rfl,fun k _ hk=>hsub k hk⟩;have hlvr:RepH w' (zby O g' (β' j)) (zcY g' (β' j)) (ctr.lv 0 1 x') cs':=RepH.toLv hlaw hkp h7 hb4 (fun j' et'' hj'=>by
   rw[k1]at hj';cases hj';rfl) (by rw[hb1];rfl)
  have hbr:OwnRep w' (zby O g' (β' j)) (zcY g' (β' j)) 0 (β' j) (.buf ctr.te ctr.et (ctr.sl x')):=hj.keep hkp fun _ _=>rfl;have hnew:∀ h,zah (β' j)=some h->zah b=some h∨w.heap.size≤h:=fun h hh=>by
   rcases h1.new j _ h k2 hh with h8|h8
   ·exact .inr h8
   ·rcases (hXR h).1 h8 with rfl|h8
    ·exact absurd hh (h1.inj 0 j _ _ h6 k2 hne h (by rw[hb1];rfl))
    ·exact .inl h8
  have hng:zah (β' j)≠some g':=h1.inj 0 j _ _ h6 k2 hne g' (by rw[hb1];rfl);obtain⟨v,h4⟩:=hrs a'.tmps w';rcases h2 with rfl|rfl
  ·exact⟨hdf,v,h4,hbk,v,cs',_,rfl,hb3,hlvr,hbr,hng,hnew,.inl hunit⟩
  ·exact⟨hdf,v,h4,hbk,v,cs',_,rfl,hb3,hlvr,hbr,hng,hnew,.inl hunit⟩
end
abbrev prT:Ty:=.pair (.slice nd) .unit
@[reducible] def bTy (T:Ty):Ty:=.pair .bool (.pair bs T)
def bInv (T:Ty) (tys:List TypeId) (w:World) (R:Nat->Prop) (ty:TypeId):Prop:=ginv w R ty∧ty∈tys
theorem zdQ (T:Ty) (tys:List TypeId):∀ w w' R (ty:TypeId),bInv T tys w R ty->gmH w->Kept R w w'->gmH w':=fun _ _ _ ty h hg hk=>zaU _ _ _ ty h.1 hg hk
@[reducible] def hBl (T:Ty) (tys:List TypeId) (args:List Ty) (res:Ty) (pre:(bTy T).T->Args args->List Prop) (out:(bTy T).T->Args args->Except Value (res.T×(bTy T).T)):HCtr:=
 { self:=bTy T,k:=1,ad:=some 0,on:=fun x=>x.1,te:=5,et:=u8,sl:=fun x=>x.2.1,args:=args,inv:=bInv T tys,pre:=pre,res:=res,out:=out }
theorem zcD {T:Ty} (hT:T.leafD=true) {tys:List TypeId} {args:List Ty} {res:Ty} {pre:(bTy T).T->Args args->List Prop} {out:(bTy T).T->Args args->Except Value (res.T×(bTy T).T)}:(hBl T tys args res pre out).law:=
 ⟨hT,fun _=>rfl,fun a h=>by cases h;exact⟨Nat.zero_ne_one,fun _=>rfl⟩⟩
def tyOk (T:Ty):List TypeId->Prop:=fun tys=>∀ ty∈tys,(ty=107∨ty=105)∧∀ x:T.T,(zaX T x).length=if ty=105 then 0 else 1
@[reducible] def cCC (T:Ty) (tys:List TypeId):HCtr:=hBl T tys [] .unit (fun _ _=>[]) fun x _=>.ok ((),(true,x.2))
theorem zoO (T:Ty) (tys:List TypeId) {args:List Ty} {res:Ty} {pre:(bTy T).T->Args args->List Prop} {out:(bTy T).T->Args args->Except Value (res.T×(bTy T).T)} (i j:Nat) (x:(bTy T).T):(hBl T tys args res pre out).lv i j x=adV i x.1::⟨.obuf u8,j⟩::zaX T x.2.2:=rfl
theorem zlW {w:World} {O:Nat->Prop} {β:Nat->Value}:∀ {vs:List V} {cs:List Value},RepH w O β vs cs->cs.length=vs.length
 | [],_,h=>by rw[show _=[] from h];rfl
 |v::r,_,⟨u,s,rfl,_,_,h⟩=>by rw[List.length_cons,List.length_cons,zlW h]
theorem zgF (T:Ty) (hT:T.leafD=true) (tys:List TypeId) (ht:tyOk T tys):zaB Tryz.prog gmH 114 (cCC T tys):=by
 refine⟨Tryz.call114,zcD hT,fun w O g cs ty x xs vs b hO hgb hg hx hbuf hrep hpre hinv hG=>?_⟩;have hvs:vs=[]:=hrep;subst hvs;rw[zoO]at hx;obtain⟨u,r,rfl,hu1,hu,hr⟩:=hx;obtain⟨hty,hlen⟩:=ht ty hinv.2;have hrl:=zlW hr;rw[List.length_cons,hlen]at hrl;have hgl:=(Array.getElem?_eq_some_iff.1 hg).1;cases hx1:x.1 with
 |true=>
  rw[hx1]at hu;obtain⟨g',e1,e2⟩:∃ g',zah (zcY g b 0)=some g'∧u= .pointer (some ⟨g',0,none⟩):=hu;have e1:some g=some g':=e1;cases e1;subst e2;have hc:w.cell? ⟨g,0,none⟩=some (.pointer (some ⟨g,0,none⟩)):=by simp[World.cell?,hg]
  refine (Go.Proofs.Any.Builder_copyCheck_used Tryz.lays240 Tryz.Builder_X72_240 g w hc).mono ?_;rintro e w' ⟨rfl,rfl⟩;refine⟨Kept.refl _ _,_,_,b,rfl,hg,?_,hbuf,hgb,fun h hh=>.inl hh,.inl rfl⟩;rw[zoO];exact⟨_,_,rfl,rfl,⟨g,rfl,rfl⟩,hr⟩
 |false=>
  rw[hx1]at hu;have hu:u= .pointer none:=hu;subst hu;refine (zib ty hty g w r (by rw[hrl];split<;>rfl) hg).mono ?_;rintro e w' ⟨rfl,rfl⟩;have hk:Kept (fun h=>h=g∨zah b=some h) w (w.setCell ⟨g,0,none⟩ (.pointer (some ⟨g,0,none⟩))):=⟨rfl,rfl,rfl,by simp[World.setCell],fun k _ hn=>Below.heap_setCell w ⟨g,0,none⟩ _ k fun e=>hn (.inl e)⟩;have hkk:Keeps w (w.setCell ⟨g,0,none⟩ (.pointer (some ⟨g,0,none⟩))) (zby O g b) (zby O g b):=⟨hk.size,fun k _ hn=>Below.heap_setCell w ⟨g,0,none⟩ _ k fun e=>hn (.inl (.inr e)),fun _ _ h=>h⟩;refine⟨hk,_,.pointer (some ⟨g,0,none⟩)::r,b,rfl,?_,?_,hbuf.keep hkk fun k hk=>Below.heap_setCell w ⟨g,0,none⟩ _ k fun e=>hgb (by rw[hk,e]),hgb,fun h hh=>.inl hh,.inl rfl⟩
  ·show (w.heap.modify g _)[g]? =_;rw[Array.getElem?_eq_getElem (by rw[Array.size_modify];exact hgl),Array.getElem_modify_self,(Array.getElem?_eq_some_iff.1 hg).2];simp
  ·rw[zoO];exact⟨_,_,rfl,rfl,⟨g,rfl,rfl⟩,hr.keep hkk⟩
def Ty.noB:Ty->Bool
 | .obuf _=>false
 | .cond t=>t.noB
 | .hcons a b=>a.noB&&b.noB
 |_=>true
theorem RepV.fixβ {w:World} {O:Nat->Prop} {β β':Nat->Value} {K:Nat} (hβ:∀ i,i < K->zah (β' i)=zah (β i)):∀ (t:Ty) (x:t.T) (v:Value),t.noB=true->bnd t x≤K->RepV w O β t x v->RepV w O β' t x v:=by
 intro t
 induction t with
 |optr t _=>
  rintro x v _ hb ⟨g,h1,h2⟩;have hb:x.i+1≤K:=hb;exact⟨g,(hβ _ (by omega)).trans h1,h2⟩
 |obuf t _=>intro x v hn;cases hn
 |cond t ih=>intro x v hn hb h;exact⟨fun hc=>ih _ _ hn hb (h.1 hc),h.2⟩
 |hptr=>
  rintro x v _ hb ⟨g,h1,h2⟩;have hb:x.1+1≤K:=hb;exact⟨g,(hβ _ (by omega)).trans h1,h2⟩
 |hcons a b iha ihb=>
  rintro x v hn hb ⟨u,s,h1,h2,h3,h4⟩;have hb':max (bnd a x.1) (bnd b x.2)≤K:=hb;have hn:(a.noB&&b.noB)=true:=hn;rw[Bool.and_eq_true]at hn;exact⟨u,s,h1,h2,iha _ _ hn.1 (by omega) h3,ihb _ _ hn.2 (by omega) h4⟩
 |_=>intro x v _ hb h;exact h
def zkg (K:Nat) (v:V):V:=bif v.t.noB&&Nat.ble v.bound K then v else ⟨.junk,()⟩
def zhB (K:Nat):List (Nat×V)->List (Nat×V)
 | []=>[]
 |(s,v)::r=>(s,zkg K v)::zhB K r
theorem zhA (K:Nat):∀ (F:Frame) (s:Nat),Frame.get (zhB K F) s=zkg K (Frame.get F s)
 | [],s=>rfl
 |(d,v)::r,s=>by
  show Frame.get ((d,zkg K v)::zhB K r) s=_;rw[zas,zas];by_cases h:d=s
  ·rw[if_pos h,if_pos h]
  ·rw[if_neg h,if_neg h,zhA K r s]
theorem zpc {w w':World} {O O':Nat->Prop} {β β':Nat->Value} {K:Nat} (hk:Keeps w w' O O') (hβ:∀ i,i < K->zah (β' i)=zah (β i)) {v:V} {u:Value} (h:RepV w O β v.t v.x u):RepV w' O' β' (zkg K v).t (zkg K v).x u:=by
 unfold zkg;cases hc:v.t.noB&&Nat.ble v.bound K with
 |false=>trivial
 |true=>
  rw[Bool.and_eq_true]at hc;exact RepV.fixβ hβ _ _ _ hc.1 (Nat.le_of_ble_eq_true hc.2) (RepV.keep hk _ _ _ h)
theorem zlo {K:Nat} (v:V):(zkg K v).bound≤K:=by
 unfold zkg;cases hc:v.t.noB&&Nat.ble v.bound K with
 |false=>exact Nat.zero_le _
 |true=>
  rw[Bool.and_eq_true]at hc;exact Nat.le_of_ble_eq_true hc.2
def ze0 (E:Owns):Nat->Bool
 |0=>true
 |k+1=>(match Owns.get E k with
  |some o=>!o.isBuf
  |none=>false)&&ze0 E k
theorem ziH {E:Owns}:∀ {K:Nat},ze0 E K=true->∀ i,i < K->∃ o,Owns.get E i=some o∧o.isBuf=false
 |0,_,i,hi=>absurd hi (Nat.not_lt_zero _)
 |k+1,h,i,hi=>by
  have h:((match Owns.get E k with
   |some o=>!o.isBuf
   |none=>false)&&ze0 E k)=true:=h
  rw[Bool.and_eq_true]at h;by_cases hk:i=k
  ·subst hk;have h1:=h.1;cases ho:Owns.get E i with
   |none=>rw[ho]at h1;cases h1
   |some o=>rw[ho]at h1;exact⟨o,rfl,by simpa using h1⟩
  ·exact ziH h.2 i (by omega)
def zts (β:Nat->Value) (i:Nat):Nat:=(zah (β i)).getD 0
def inX (X:Ownr) (E:Owns) (β:Nat->Value) (K:Nat) (ex:Nat->Prop):Ownr:={ G:=X.G,X:=fun g=>X.X g∨ex g,K:=K,fix:=zts β,D:=[],ρ:=none,B:=fun g=>∃ i o,Owns.get E i=some o∧zah (β i)=some g }
section
variable {w0 w w1:World} {X:Ownr} {n m K:Nat} {F F':Frame} {E:Owns} {nx:Nat} {β:Nat->Value} {a a1:Act} {ex:Nat->Prop}
theorem zhR (h:Sim w0 X n ⟨F,E,nx⟩ β a w) (hb:ze0 E K=true) {i:Nat} (hi:i < K):∃ o,Owns.get E i=some o∧o.isBuf=false∧zah (β i)=some (zts β i):=by
 obtain⟨o,ho,hob⟩:=ziH hb i hi;refine⟨o,ho,hob,?_⟩;have h1:=h.own i o ho;unfold zts;cases o with
 |box t x=>obtain⟨g,_,_,e,_⟩:=h1;rw[e];rfl
 |buf te t xs=>cases hob
 |hbox ty vs=>obtain⟨g,_,e,_⟩:=h1;rw[e];rfl
theorem zh7 (h:Sim w0 X n ⟨F,E,nx⟩ β a w) (hb:ze0 E K=true) {g:Nat}:(inX X E β K ex).R g↔∃ i o,Owns.get E i=some o∧zah (β i)=some g:=by
 constructor
 ·rintro (⟨i,hi,rfl⟩|h1)
  ·obtain⟨o,ho,_,hf⟩:=zhR h hb hi;exact⟨i,o,ho,hf⟩
  ·exact h1
 ·exact fun h1=>.inr h1
theorem zgW (h:Sim w0 X n ⟨F,E,nx⟩ β a w) {g:Nat} (hg:∃ i o,Owns.get E i=some o∧zah (β i)=some g):g < w.heap.size:=by
 obtain⟨i,o,ho,hf⟩:=hg;exact ((h.own i o ho).block_lt hf).2
theorem zrX (h:Sim w0 X n ⟨F,E,nx⟩ β a w) (hX:X.Ok w0) (hbl:Below w.heap.size w w1) (hex:∀ g,ex g->w.heap.size≤g∧g < w1.heap.size) (hb:ze0 E K=true):(inX X E β K ex).Ok w1:=by
 have hs0:=h.bel.size;have hs1:=hbl.size;refine⟨fun g hg=>?_,fun g hg=>?_,fun w' hk=>?_⟩
 ·rcases hg with hg|hg
  ·have:=hX.1 g hg;refine⟨by omega,fun hr=>?_⟩;obtain⟨i,o,ho,hf⟩:=(zh7 h hb).1 hr;rcases h.new i o g ho hf with h1|h1
   ·omega
   ·exact this.2 h1
  ·have:=hex g hg;refine⟨this.2,fun hr=>?_⟩;have:=zgW h ((zh7 h hb).1 hr);omega
 ·have:=zgW h ((zh7 h hb).1 hg);omega
 ·refine hX.2.2 w' ⟨hk.os.trans (hbl.os.trans h.bel.os),hk.tape.trans (hbl.tape.trans h.bel.tape),hk.output.trans (hbl.output.trans h.bel.output),Nat.le_trans hs0 (Nat.le_trans hs1 hk.size),fun k hkl hr=>?_⟩;rw[hk.block k (by omega) fun hr'=>?_,hbl.block k (by omega),h.bel.block k hkl hr];obtain⟨i,o,ho,hf⟩:=(zh7 h hb).1 hr';rcases h.new i o k ho hf with h1|h1
  ·omega
  ·exact hr h1
theorem Sim.goIn (h:Sim w0 X n ⟨F,E,nx⟩ β a w) (hbl:Below w.heap.size w w1) (hex:∀ g,ex g->w.heap.size≤g∧g < w1.heap.size) (hb:ze0 E K=true) (hKn:K≤nx) (hsz:a1.tmps.size=m) (hdf:a1.defers=[]) (hfr:∀ s,RepV w (OSet X E β) β (Frame.get F' s).t (Frame.get F' s).x (a1.tmps.getD s undef)) (hbd:bndB nx F'=true):
 Sim w1 (inX X E β K ex) m ⟨F',E,nx⟩ β a1 w1:=by
 have hk:Keeps w w1 (OSet X E β) (OSet (inX X E β K ex) E β):=.of_below hbl fun g hg hg'=>by
  rcases hg' with (h1|h1)|h1
  ·exact .inl h1
  ·have:=hex g h1;omega
  ·exact .inr h1
 refine⟨hsz,hdf,Kept.refl _ _,fun s=>RepV.keep hk _ _ _ (hfr s),fun i o ho=>(h.own i o ho).keep hk fun g hg=>hbl.block g ((h.own i o ho).block_lt hg).2,fun i o g ho hg=>.inr ((zh7 h hb).2 ⟨i,o,ho,hg⟩),h.inj,h.lt,⟨hKn,fun i hi=>?_⟩,fun s=>zfU hbd s,h.hE⟩;obtain⟨o,ho,hob,hf⟩:=zhR h hb hi;exact⟨hf,fun o' ho'=>by
  have ho':Owns.get E i=some o':=ho';rw[ho]at ho';cases ho';exact hob⟩
theorem Sim.goOut (h:Sim w0 X n ⟨F,E,nx⟩ β a w) (hX:X.Ok w0) (hbl:Below w.heap.size w w1) (hex:∀ g,ex g->w.heap.size≤g∧g < w1.heap.size) (hb:ze0 E K=true) (hK:X.K≤K) {σ:AS} {β':Nat->Value} {w' w'':World} (h':Sim w1 (inX X E β K ex) m σ β' a1 w') (hk:Kept ex w' w''):
 Sim w0 X n ⟨zhB K F,σ.E,σ.nx⟩ β' a w'':=by
 have hok:=zrX h hX hbl hex hb;have hs0:=h.bel.size;have hs1:=hbl.size;have hs2:=h'.bel.size;have hs3:=hk.size;have hown:∀ i o g,Owns.get σ.E i=some o->zah (β' i)=some g->w1.heap.size≤g∨∃ i o,Owns.get E i=some o∧zah (β i)=some g:=fun i o g ho hg=>(h'.new i o g ho hg).imp id (zh7 h hb).1;have hexo:∀ i o g,Owns.get σ.E i=some o->zah (β' i)=some g->¬ ex g:=fun i o g ho hg he=>by
  have h1:=hex g he;rcases hown i o g ho hg with h2|h2
  ·omega
  ·have:=zgW h h2;omega
 have hβ:∀ i,i < K->zah (β' i)=zah (β i):=fun i hi=>by
  obtain⟨o,ho,_,hf⟩:=zhR h hb hi;exact ((h'.fix.2 i hi).1).trans hf.symm
 have hk1:Keeps w w'' (OSet X E β) (OSet X σ.E β'):=by
  refine⟨by omega,fun g hg hn=>?_,fun g hg hg'=>?_⟩
  ·rw[hk.block g (by omega) fun he=>?_,h'.bel.block g (by omega) fun hr=>?_,hbl.block g hg]
   ·exact hn (.inr ((zh7 h hb).1 hr))
   ·have:=hex g he;omega
  ·rcases hg' with h1|⟨i,o,ho,hg'⟩
   ·exact .inl h1
   ·rcases hown i o g ho hg' with h2|h2
    ·omega
    ·exact .inr h2
 have hk2:Keeps w' w'' (OSet (inX X E β K ex) σ.E β') (OSet X σ.E β'):=by
  refine⟨hs3,fun g hg hn=>hk.block g hg fun he=>hn (.inl (.inr he)),fun g hg hg'=>?_⟩;rcases hg' with h1|h1
  ·exact .inl (.inl h1)
  ·exact .inr h1
 refine⟨h.sz,h.df,?_,fun s=>?_,fun i o ho=>(h'.own i o ho).keep hk2 fun g hg=>hk.block g ((h'.own i o ho).block_lt hg).2 (hexo i o g ho hg),fun i o g ho hg=>?_,h'.inj,h'.lt,⟨Nat.le_trans hK h'.fix.1,fun i hi=>?_⟩,fun s=>?_,h'.hE⟩
 ·refine⟨hk.os.trans (h'.bel.os.trans (hbl.os.trans h.bel.os)),hk.tape.trans (h'.bel.tape.trans (hbl.tape.trans h.bel.tape)),hk.output.trans (h'.bel.output.trans (hbl.output.trans h.bel.output)),by omega,fun k hkl hr=>?_⟩;rw[hk.block k (by omega) fun he=>?_,h'.bel.block k (by omega) fun hr'=>?_,hbl.block k (by omega),h.bel.block k hkl hr]
  ·obtain⟨i,o,ho,hf⟩:=(zh7 h hb).1 hr';rcases h.new i o k ho hf with h1|h1
   ·omega
   ·exact hr h1
  ·have:=hex k he;omega
 ·show RepV w'' (OSet X σ.E β') β' (Frame.get (zhB K F) s).t (Frame.get (zhB K F) s).x _;rw[zhA];exact zpc hk1 hβ (h.fr s)
 ·rcases hown i o g ho hg with h2|⟨i',o',ho',hg'⟩
  ·exact .inl (by omega)
  ·exact h.new i' o' g ho' hg'
 ·have hi:i < X.K:=hi;exact⟨(hβ i (by omega)).trans (h.fix.2 i hi).1,(h'.fix.2 i (by show i < K;omega)).2⟩
 ·show (Frame.get (zhB K F) s).bound≤σ.nx;rw[zhA];exact Nat.le_trans (zlo _) h'.fix.1
def Ends (e:Exit) (en:Ending):Prop:=((e= .normal∨e= .ret)∧∃ v,en= .returned v)∨∃ ch,e= .panic ch∧en= .panicked ch
theorem Sim.inl {P:Program} (h:Sim w0 X n ⟨F,E,nx⟩ β a w) (hX:X.Ok w0) (hbl:Below w.heap.size w w1) (hex:∀ g,ex g->w.heap.size≤g∧g < w1.heap.size) (hb:ze0 E K=true) (hKn:K≤nx) (hK:X.K≤K) {f:FuncId} {fn:Func} {c:Code} (hf:P.funcs[f]? =some fn) (hbd:fn.body=some c) (hn:fn.ntmps=m) (hres:fn.results= #[])
 {caps:Array Value} (hcl:caps.size≤m) (hfr:∀ s,RepV w (OSet X E β) β (Frame.get F' s).t (Frame.get F' s).x ((caps++Array.replicate (m - caps.size) undef).getD s undef)) (hbF:bndB nx F'=true) {Q:Exit->AS->Prop} (hq:∀ e σ,Q e σ->e= .normal∨e= .ret∨∃ ch,e= .panic ch)
 (hw:∀ X':Ownr,X'.Ok w1->X'.G=X.G->X'.K=K->X'.ρ=none->X'.D=[]->(∀ g,X'.R g->w0.heap.size≤g∨X.R g)->AWP P w1 X' m c ⟨F',E,nx⟩ Q):
 Calls P f caps w1 fun en w'=>w1.heap.size≤w'.heap.size∧(∀ g,ex g->w'.heap[g]? =w1.heap[g]?)∧∃ e σ,Ends e en∧Q e σ∧∀ w'',Kept ex w' w''->∃ β',Sim w0 X n ⟨zhB K F,σ.E,σ.nx⟩ β' a w'':=by
 refine calls_of_wp hf hbd ?_;have hok:=zrX h hX hbl hex hb;have hsim:=h.goIn (a1:={ tmps:=caps++Array.replicate (fn.ntmps - caps.size) undef,defers:=[] }) (m:=m) hbl hex hb hKn (by simp[hn];omega) rfl (by rw[hn];exact hfr) hbF;have hR:∀ g,(inX X E β K ex).R g->w0.heap.size≤g∨X.R g:=fun g hg=>by
  obtain⟨i,o,ho,hf⟩:=(zh7 h hb).1 hg;exact h.new i o g ho hf
 refine wp_mono (wpIn_wide.1 (hw _ hok rfl rfl rfl rfl hR β _ w1 hsim)) fun e a' w' ⟨σ,β',h',hQ⟩=>?_;have hkx:∀ g,ex g->w'.heap[g]? =w1.heap[g]? :=fun g he=>by
  have h1:=hex g he;refine h'.bel.block g h1.2 fun hr=>?_;have:=zgW h ((zh7 h hb).1 hr);omega
 have hfin:∀ en,Ends e en->w1.heap.size≤w'.heap.size∧(∀ g,ex g->w'.heap[g]? =w1.heap[g]?)∧∃ e σ,Ends e en∧Q e σ∧∀ w'',Kept ex w' w''->∃ β',Sim w0 X n ⟨zhB K F,σ.E,σ.nx⟩ β' a w'':=fun en he=>⟨h'.bel.size,hkx,e,σ,he,hQ,fun w'' hk=>⟨β',h.goOut hX hbl hex hb hK h' hk⟩⟩;have hdf:a'.defers=[]:=h'.df;rcases hq e σ hQ with rfl|rfl|⟨ch,rfl⟩
 ·exact⟨hdf,_,results_none hres _ _ _,hfin _ (.inl ⟨.inl rfl,_,rfl⟩)⟩
 ·exact⟨hdf,_,results_none hres _ _ _,hfin _ (.inl ⟨.inr rfl,_,rfl⟩)⟩
 ·exact⟨hdf,hfin _ (.inr ⟨ch,rfl,rfl⟩)⟩
end
section
variable {P:Program} {K:Kn} {w0:World} {X:Ownr} {n:Nat} {σ:AS} {Q:Exit->AS->Prop} {ops:Array Oper}
theorem StepA.fresh (hX:X.Ok w0) {o:Oper} {f:FuncId} {c:FCtr} (hc:zmH P X.G f c) {args:Array Operand} {ts:Array TypeId} (ho:o.op= .call ⟨.value (.func f),args,ts⟩) {zas:List Operand} (hargs:args.toList=zas) (hgd:o.guard=none)
 {F:Frame} {E:Owns} {nx:Nat} (hσ:frzs σ zas=⟨F,E,nx⟩) (hd:za8 c.args=true) {q:List Prop} {xs:Args c.args} (hav:zeB E false (zas.map (evO F)) c.args=some (q,xs)) (hq:allP q) (hpre:allP (c.pre xs))
 (hbare:(c.obj xs).bare=true∧(c.obj xs).isBuf=false) {d:Nat} (hdst:o.dst=some d) (hdn:Nat.blt d n=true) {N:AS->Prop} (h:N ⟨(d,zox nx (c.obj xs))::F,(nx,some (c.obj xs))::E,nx+1⟩):StepA P w0 X n ops o σ N Q:=by
 refine StepA.hand hgd fun β a w hs=>?_;have h1:=hs.frzs hX zas;rw[hσ]at h1;obtain⟨hen,hcall⟩:=hc;have hvs:RepVs w (OSet X E β) β (zas.map (evO F)) (zas.map a.eval):=by
  refine⟨by simp,fun i v hv=>?_⟩;rw[List.getElem?_map]at hv;obtain⟨z,hz,rfl⟩:=Option.map_eq_some_iff.1 hv;exact⟨a.eval z,by rw[List.getElem?_map,hz];rfl,h1.ops z⟩
 have ha:=zc5 (B:=0) h1.own hd hav hq hvs.2 hvs.1;have ha:RepA w (OSet X E β) c.args xs (zas.map a.eval):=by
  have e:(fun k=>false=false∧OSet X E β k)=OSet X E β:=by funext k;simp
  rwa[e]at ha
 refine zfh ho hen ?_;rw[hargs];refine (hcall w _ xs _ (fun k hk=>h1.hO hX k hk) ha hpre (hX.2.2 w h1.bel)).mono fun e w' ⟨g,he,hb,hng,hown⟩=>?_;refine⟨_,he,?_⟩;have hlt:d < n:=by simpa using hdn
 rw[hdst];obtain⟨β',h2⟩:=h1.make hX hb (bv:=.pointer (some ⟨g,0,none⟩)) (o:=c.obj xs) (fun O β' hO=>hown O β' fun k hk=>(hO k hk).imp id fun e=>(Option.some.inj e).symm) (fun k hk=>by
  have:g=k:=by simpa [zah] using hk
  omega) (v:=zox nx (c.obj xs)) (u:=.pointer (some ⟨g,0,none⟩)) (fun O β' hβ=>by
   have hbg:zah (β' nx)=some g:=by rw[show β' nx=_ from hβ];rfl
   cases ho:c.obj xs with
   |buf te t ys=>have:=hbare.2;rw[ho]at this;cases this
   |box t x=>exact⟨g,hbg,rfl⟩
   |hbox ty ys=>exact⟨g,hbg,rfl⟩) (by
   cases ho:c.obj xs with
   |buf te t ys=>have:=hbare.2;rw[ho]at this;cases this
   |box t x=>exact Nat.le_refl _
   |hbox ty ys=>exact Nat.le_refl _) hlt (OObj.bare_under hbare.1 _)
 exact⟨_,β',h2,h⟩
theorem StepA.give (hX:X.Ok w0) {o:Oper} {f:FuncId} {c:HCtr} {out:c.self.T->Args c.args->Except Value c.res.T} (hc:zfX P X.G f c out) {args:Array Operand} {ts:Array TypeId} {a0:Operand} {zas:List Operand} (ho:o.op= .call ⟨.value (.func f),args,ts⟩) (hargs:args.toList=a0::zas) (hgd:o.guard=none)
 {F:Frame} {E:Owns} {nx:Nat} (hσ:frzs σ zas=⟨F,E,nx⟩) {i:Nat} (hev:evO F a0=⟨.hptr,(i,(0:Nat))⟩) {ty:TypeId} {vs:List V} (hbox:Owns.get E i=some (.hbox ty vs)) {et:Ty} {j:Nat} (hk:vs[c.k]? =some ⟨.obuf et,j⟩) {xsl:List c.et.T} (hbuf:Owns.get E j=some (.buf c.te c.et xsl))
 {x:c.self.T} (hun:unD c.self ((c.back i vs).set c.k ⟨.slice c.et,xsl⟩)=some (x,[])) (hd:za8 c.args=true) (hfl:c.res.resOk=true)
 {q:List Prop} {xs:Args c.args} (hav:zeB E false (zas.map (evO F)) c.args=some (q,xs)) (hq:allP q) (hpre:allP (c.pre x xs)) (hinv:∀ w R,(∀ g,R g->w0.heap.size≤g∨X.R g)->X.G w->c.inv w R ty) {d:Nat} (hdst:o.dst=some d) (hdn:Nat.blt d n=true)
 {N:AS->Prop} (h:match out x xs with
  | .ok y=>N ⟨(d,resV c.res y)::F,(i,none)::(j,none)::E,nx⟩
  | .error pv=>Q (.panic [{ v:=pv,recovered:=false }]) ⟨F,(i,none)::(j,none)::E,nx⟩):StepA P w0 X n ops o σ N Q:=by
 refine StepA.hand hgd fun β a w hs=>?_;have h1:=hs.frzs hX zas;rw[hσ]at h1;obtain⟨hen,hlaw,hcall⟩:=hc;have hunH:unH c i vs E x:=⟨et,j,xsl,hk,hbuf,hun⟩;have hsl:xsl=c.sl x:=by
  obtain⟨et',j',k1,k2,_,_⟩:=zeE hlaw hunH;rw[hk]at k1;cases k1;rw[hbuf]at k2;cases k2;rfl
 subst hsl;have hv:=h1.ops a0;rw[show evO (AS.mk F E nx).F a0=_ from hev]at hv;obtain⟨g,hg1,hg2⟩:=hv;obtain⟨g',cs,e1,_,e3,e4⟩:=h1.own _ _ hbox;have hgg:g'=g:=by
  have hg1:zah (β i)=some g:=hg1;rw[e1]at hg1
  simpa [zah] using hg1
 subst hgg;have hij:i≠j:=fun e=>by rw[e,hbuf]at hbox;cases hbox
 have hbj:=h1.own _ _ hbuf;have hOg:OSet X E β g':=.inr ⟨_,_,hbox,by rw[e1];rfl⟩;have hgb:zah (β j)≠some g':=h1.inj i j _ _ hbox hbuf hij g' (by rw[e1];rfl);obtain⟨O,hO⟩:∃ O:Nat->Prop,O=fun k=>OSet X E β k∧k≠g'∧zah (β j)≠some k:=⟨_,rfl⟩;have hset:zby O g' (β j)=OSet X E β:=by
  funext k
  apply propext;rw[hO];constructor
  ·rintro ((hk|rfl)|hk)
   ·exact hk.1
   ·exact hOg
   ·exact .inr ⟨j,_,hbuf,hk⟩
  ·intro hk;by_cases e:k=g'
   ·exact .inl (.inr e)
   ·by_cases e':zah (β j)=some k
    ·exact .inr e'
    ·exact .inl (.inl ⟨hk,e,e'⟩)
 have hvs:RepVs w (OSet X E β) β (zas.map (evO F)) (zas.map a.eval):=by
  refine⟨by simp,fun i v hv=>?_⟩;rw[List.getElem?_map]at hv;obtain⟨z,hz,rfl⟩:=Option.map_eq_some_iff.1 hv;exact⟨a.eval z,by rw[List.getElem?_map,hz];rfl,h1.ops z⟩
 have ha:=zc5 (B:=0) h1.own hd hav hq hvs.2 hvs.1;have ha:RepA w (zby O g' (β j)) c.args xs (zas.map a.eval):=by
  rw[hset];have e:(fun k=>false=false∧OSet X E β k)=OSet X E β:=by funext k;simp
  rwa[e]at ha
 have hK0:Keeps w w (OSet X E β) (zby O g' (β j)):=by rw[hset];exact Keeps.refl _ _
 have hlv:RepH w (zby O g' (β j)) (zcY g' (β j)) (c.lv 0 1 x) cs:=RepH.toLv hlaw hK0 hunH e4 (fun j' et' hj'=>by
  rw[hk]at hj';cases hj';rfl) (by rw[e1];rfl)
 have hbuf2:OwnRep w (zby O g' (β j)) (zcY g' (β j)) 0 (β j) (.buf c.te c.et (c.sl x)):=hbj.keep hK0 fun _ _=>rfl;have hOk:∀ k,O k->k < w.heap.size∧k≠g'∧zah (β j)≠some k:=fun k hk=>by
  rw[hO]at hk;exact⟨h1.hO hX k hk.1,hk.2⟩
 have hR:∀ k,(k=g'∨zah (β j)=some k)->w0.heap.size≤k∨X.R k:=fun k hk=>by
  rcases hk with rfl|hk
  ·exact h1.new _ _ k hbox (by rw[e1];rfl)
  ·exact h1.new _ _ k hbuf hk
 have hcl:=hcall w O g' cs ty x xs _ (β j) hOk hgb e3 hlv hbuf2 ha hpre (hinv w _ hR (hX.2.2 w h1.bel)) (hX.2.2 w h1.bel);have hrun:(execOp a.eval o).run P w= .ok (.enter f (Value.pointer (some ⟨g',0,none⟩)::zas.map a.eval).toArray) w:=by
  have em:args.map a.eval++ #[]=(Value.pointer (some ⟨g',0,none⟩)::zas.map a.eval).toArray:=by
   rw[<-zdu,hargs,List.map_cons,hg2];simp
  have hx:a.eval (.func f)= .func (.func f) #[] #[]:=rfl;rw[<-em];unfold execOp;simp[ho,resolve,invoke,Deferred.ofValue,hx,hen]
 unfold Oper.wp;rw[hrun];refine hcl.mono fun e w' hr=>?_;obtain⟨hkp,hr⟩:=hr;have hl2:=h1.lose2 (w':=w') hbox hbuf ⟨hkp.os,hkp.tape,hkp.output,hkp.size,fun k hkl hn=>hkp.block k hkl fun hk=>hn (hk.elim (fun e=>.inl (by rw[e1,e];rfl)) .inr)⟩;revert hr h;cases out x xs with
 |error pv=>
  intro h;rintro rfl;exact⟨fun e=>(by cases e),_,β,hl2,h⟩
 |ok y=>
  intro h;rintro ⟨v,rfl,hres⟩;have hlt:d < n:=by simpa using hdn
  have hkp2:Keeps w' w' O (OSet X ((i,none)::(j,none)::E) β):=⟨Nat.le_refl _,fun _ _ _=>rfl,fun k _ hk2=>by
   rw[hO];rcases hk2 with hk2|⟨m,om,hm,hbm⟩
   ·have h3:=hX.1 k hk2;refine⟨.inl hk2,fun e=>?_,fun e=>?_⟩
    ·rcases hR k (.inl e) with h4|h4
     ·omega
     ·exact h3.2 h4
    ·rcases hR k (.inr e) with h4|h4
     ·omega
     ·exact h3.2 h4
   ·rw[zag,zag]at hm;by_cases him:i=m
    ·rw[if_pos him]at hm;cases hm
    ·rw[if_neg him]at hm;by_cases hjm:j=m
     ·rw[if_pos hjm]at hm;cases hm
     ·rw[if_neg hjm]at hm;refine⟨.inr ⟨m,om,hm,hbm⟩,fun e=>?_,fun e=>?_⟩
      ·exact h1.inj i m _ om hbox hm him k (by rw[e1,e];rfl) hbm
      ·exact h1.inj j m _ om hbuf hm hjm k e hbm⟩
  show ∃ σ' β',Sim w0 X n σ' β' (a.put o.dst v) w'∧_;rw[hdst];exact⟨_,β,hl2.put (Below.refl _ _) (RepV.keep hkp2 _ _ _ (zfu (β:=β) _ hfl hres)) (zd5 _ hfl _) hlt,h⟩
theorem StepA.giveO (hX:X.Ok w0) {o:Oper} {f:FuncId} {c:HCtr} {out:c.self.T->Args c.args->Except Value c.res.T} (hc:zfX P X.G f c out) {args:Array Operand} {ts:Array TypeId} {a0:Operand} {zas:List Operand} (ho:o.op= .call ⟨.value (.func f),args,ts⟩) (hargs:args.toList=a0::zas) (hgd:o.guard=none)
 {F:Frame} {E:Owns} {nx:Nat} (hσ:frzs σ zas=⟨F,E,nx⟩) {i:Nat} (hev:evO F a0=⟨.hptr,(i,(0:Nat))⟩) {ty:TypeId} {vs:List V} (hbox:Owns.get E i=some (.hbox ty vs)) {et:Ty} {j:Nat} (hk:vs[c.k]? =some ⟨.obuf et,j⟩) {xsl:List c.et.T} (hbuf:Owns.get E j=some (.buf c.te c.et xsl))
 {x:c.self.T} (hun:unD c.self ((c.back i vs).set c.k ⟨.slice c.et,xsl⟩)=some (x,[])) (hd:za8 c.args=true) (hfl:c.res.resOk=true)
 {q:List Prop} {xs:Args c.args} (hav:zeB E false (zas.map (evO F)) c.args=some (q,xs)) (hq:allP q) (hpre:allP (c.pre x xs)) (hinv:∀ w R,(∀ g,R g->w0.heap.size≤g∨X.R g)->X.G w->c.inv w R ty) {d:Nat} (hdst:o.dst=some d) (hdn:Nat.blt d n=true)
 {N:AS->Prop} {y:c.res.T} (hout:out x xs= .ok y) (h:N ⟨(d,resV c.res y)::F,(i,none)::(j,none)::E,nx⟩):StepA P w0 X n ops o σ N Q:=
 StepA.give hX hc ho hargs hgd hσ hev hbox hk hbuf hun hd hfl hav hq hpre hinv hdst hdn (by rw[hout];exact h)
theorem StepA.giveE (hX:X.Ok w0) {o:Oper} {f:FuncId} {c:HCtr} {out:c.self.T->Args c.args->Except Value c.res.T} (hc:zfX P X.G f c out) {args:Array Operand} {ts:Array TypeId} {a0:Operand} {zas:List Operand} (ho:o.op= .call ⟨.value (.func f),args,ts⟩) (hargs:args.toList=a0::zas) (hgd:o.guard=none)
 {F:Frame} {E:Owns} {nx:Nat} (hσ:frzs σ zas=⟨F,E,nx⟩) {i:Nat} (hev:evO F a0=⟨.hptr,(i,(0:Nat))⟩) {ty:TypeId} {vs:List V} (hbox:Owns.get E i=some (.hbox ty vs)) {et:Ty} {j:Nat} (hk:vs[c.k]? =some ⟨.obuf et,j⟩) {xsl:List c.et.T} (hbuf:Owns.get E j=some (.buf c.te c.et xsl))
 {x:c.self.T} (hun:unD c.self ((c.back i vs).set c.k ⟨.slice c.et,xsl⟩)=some (x,[])) (hd:za8 c.args=true) (hfl:c.res.resOk=true)
 {q:List Prop} {xs:Args c.args} (hav:zeB E false (zas.map (evO F)) c.args=some (q,xs)) (hq:allP q) (hpre:allP (c.pre x xs)) (hinv:∀ w R,(∀ g,R g->w0.heap.size≤g∨X.R g)->X.G w->c.inv w R ty) {d:Nat} (hdst:o.dst=some d) (hdn:Nat.blt d n=true)
 {N:AS->Prop} {pv:Value} (hout:out x xs= .error pv) (h:Q (.panic [{ v:=pv,recovered:=false }]) ⟨F,(i,none)::(j,none)::E,nx⟩):StepA P w0 X n ops o σ N Q:=
 StepA.give hX hc ho hargs hgd hσ hev hbox hk hbuf hun hd hfl hav hq hpre hinv hdst hdn (by rw[hout];exact h)
theorem StepA.conv {o:Oper} {σ':AS} {N:AS->Prop} (hs:∀ β a w,Sim w0 X n σ β a w->∃ β',Sim w0 X n σ' β' a w) (h:StepA P w0 X n ops o σ' N Q):StepA P w0 X n ops o σ N Q:=
 fun β a w I R hsim hI hR=>by
  obtain⟨β',h'⟩:=hs β a w hsim;exact h β' a w I R h' hI hR
theorem Sim.nilLeaf (i k:Nat) (te:TypeId) (τ:Ty) {ty:TypeId} {vs:List V} (hi:Owns.get σ.E i=some (.hbox ty vs)) (hk:vs[k]? =some ⟨.lit,.slice none 0 0⟩) (hτ:Nat.blt 0 τ.size=true):
 ∀ β a w,Sim w0 X n σ β a w->∃ β',Sim w0 X n { σ with E:=(i,some (.hbox ty (vs.set k ⟨.obuf τ,σ.nx⟩)))::(σ.nx,some (.buf te τ []))::σ.E,nx:=σ.nx+1 } β' a w:=by
 intro β a w hs;obtain⟨β',h1,h2,h3⟩:=hs.growNil te τ (by simpa using hτ);have hlt:=hs.lt i _ hi;have hi':Owns.get ((σ.nx,some (.buf te τ []))::σ.E) i=some (.hbox ty vs):=by rw[zag,if_neg (by omega)];exact hi
 exact⟨β',h3.leaf hi' hk (v':=⟨.obuf τ,σ.nx⟩) (fun u hu=>by
  have hu:u= .slice none 0 0:=hu;show u=β' σ.nx;rw[hu,h2]) (Nat.le_refl _)⟩
theorem AL.nilLeaf (i k:Nat) (te:TypeId) (τ:Ty) {ty:TypeId} {vs:List V} {l:List Oper} (hi:Owns.get σ.E i=some (.hbox ty vs)) (hk:vs[k]? =some ⟨.lit,.slice none 0 0⟩) (hτ:Nat.blt 0 τ.size=true)
 (h:AL P w0 X n ops l { σ with E:=(i,some (.hbox ty (vs.set k ⟨.obuf τ,σ.nx⟩)))::(σ.nx,some (.buf te τ []))::σ.E,nx:=σ.nx+1 } Q):AL P w0 X n ops l σ Q:=fun β a w hs=>by
 obtain⟨β',h'⟩:=Sim.nilLeaf i k te τ hi hk hτ β a w hs;exact h β' a w h'
theorem StepA.guardT (j s:Nat) (b:Bool) {o:Oper} {N:AS->Prop} (hg:o.guard=some (j,b)) (hd:(ops[j]?).bind (·.dst)=some s) (hs:Frame.get σ.F s=⟨.bool,b⟩) (hsn:Nat.blt s n=true) (h:StepA P w0 X n ops { o with guard:=none } σ N Q):StepA P w0 X n ops o σ N Q:=by
 intro β a w I R hsim hI hR;have h1:=h β a w I R hsim hI hR;have hv:a.tmps.getD s undef= .bool b:=by
  have h2:=hsim.fr s;rw[hs]at h2;exact RepV.bool h2
 have hsz:s < a.tmps.size:=by rw[hsim.sz];simpa using hsn
 have hy:yielded ops a.tmps j=some b:=by
  unfold yielded;rw[hd];have:a.tmps[s]? =some (.bool b):=by
   rw[Array.getD_eq_getD_getElem?,Array.getElem?_eq_getElem hsz]at hv;rw[Array.getElem?_eq_getElem hsz];exact congrArg some hv
  simp[this]
 have hw:Region.wanted o (yielded ops a.tmps)=true:=by simp[Region.wanted,hg,hy]
 have hw':Region.wanted { o with guard:=none } (yielded ops a.tmps)=true:=by simp[Region.wanted]
 show if Region.wanted o (yielded ops a.tmps)=true then _ else _
 have h1:if Region.wanted { o with guard:=none } (yielded ops a.tmps)=true then _ else _:=h1
 rw[if_pos hw']at h1;rw[if_pos hw];exact h1
theorem StepA.guardF (j s:Nat) (b:Bool) (t:Ty) (y:t.T) {o:Oper} {N:AS->Prop} (hg:o.guard=some (j,b)) (hd:(ops[j]?).bind (·.dst)=some s) (hs:Frame.get σ.F s=⟨.bool,!b⟩) (hsn:Nat.blt s n=true) {d:Nat} (hdst:o.dst=some d) (hdn:Nat.blt d n=true) (h:N ⟨(d,⟨.cond t,(false,y)⟩)::σ.F,σ.E,σ.nx⟩) (hb:bnd t y=0:=by rfl):StepA P w0 X n ops o σ N Q:=by
 intro β a w I R hsim hI hR;have hv:a.tmps.getD s undef= .bool (!b):=by
  have h2:=hsim.fr s;rw[hs]at h2;exact RepV.bool h2
 have hsz:s < a.tmps.size:=by rw[hsim.sz];simpa using hsn
 have hy:yielded ops a.tmps j=some (!b):=by
  unfold yielded;rw[hd];have:a.tmps[s]? =some (.bool (!b)):=by
   rw[Array.getD_eq_getD_getElem?,Array.getElem?_eq_getElem hsz]at hv;rw[Array.getElem?_eq_getElem hsz];exact congrArg some hv
  simp[this]
 have hw:¬ Region.wanted o (yielded ops a.tmps)=true:=by simp[Region.wanted,hg,hy]
 show if Region.wanted o (yielded ops a.tmps)=true then _ else _
 rw[if_neg hw,hdst];exact hI _ β _ _ (hsim.put (Below.refl _ _) (v:=⟨.cond t,(false,y)⟩) ⟨fun h=>(by cases h),fun _=>rfl⟩ (by rw[show V.bound ⟨.cond t,(false,y)⟩=bnd t y from rfl,hb];exact Nat.zero_le _) (by simpa using hdn)) h
def rnK (L:List (Nat×Nat)):Nat->Bool
 |0=>true
 |k+1=>Nat.beq (rnF L k) k&&rnK L k
theorem zon {L:List (Nat×Nat)}:∀ {k:Nat},rnK L k=true->∀ i,i < k->rnF L i=i
 |0,_,i,hi=>absurd hi (Nat.not_lt_zero _)
 |k+1,h,i,hi=>by
  have h:(Nat.beq (rnF L k) k&&rnK L k)=true:=h;rw[Bool.and_eq_true]at h;by_cases e:i=k
  ·subst e;exact Nat.eq_of_beq_eq_true h.1
  ·exact zon h.2 i (by omega)
theorem Sim.renameK {w:World} {β:Nat->Value} {a:Act} {L:List (Nat×Nat)} (h:Sim w0 X n σ β a w) (hL:rnOk L=true) {m:Nat} (hKL:rnK L X.K=true) (hKm:X.K≤m) (hF:bndB m (rnFr L σ.F)=true) (hE:bndE m (rnE L σ.E)=true):Sim w0 X n ⟨rnFr L σ.F,rnE L σ.E,m⟩ (fun j=>β (rnB L j)) a w:=by
 have hO:∀ g,OSet X (rnE L σ.E) (fun j=>β (rnB L j)) g->OSet X σ.E β g:=by
  rintro g (hg|⟨j,o',h1,h2⟩)
  ·exact .inl hg
  ·obtain⟨o,_,h4,_⟩:=ze6 hL _ _ _ h1;exact .inr ⟨_,o,h4,h2⟩
 have hk:Keeps w w (OSet X σ.E β) (OSet X (rnE L σ.E) (fun j=>β (rnB L j))):=⟨Nat.le_refl _,fun _ _ _=>rfl,fun g _ hg=>hO g hg⟩;have hb:∀ i,i < X.K->rnB L i=i:=fun i hi=>by
  have:=zmX L i hL;rwa[zon hKL i hi]at this
 refine⟨h.sz,h.df,h.bel,fun s=>?_,fun j o' hj=>?_,fun j o' g hj hg=>?_,fun i j oi oj hi hj hij g=>?_,fun j o' hj=>zmE hE hj,⟨hKm,fun i hi=>?_⟩,fun s=>zfU hF s,fun j o' hj=>(zhS hE hj).2⟩
 ·show RepV w _ _ (Frame.get (rnFr L σ.F) s).t (Frame.get (rnFr L σ.F) s).x _;rw[zqx];exact zol hL _ (RepV.keep hk _ _ _ (h.fr s))
 ·obtain⟨o,_,h2,rfl⟩:=ze6 hL _ _ _ hj;have h3:=(h.own _ o h2).keep hk fun _ _=>rfl;cases o with
  |hbox ty vs=>
   obtain⟨g,cs,e,k1,k2,k3⟩:=h3;exact⟨g,cs,e,k1,k2,zlT hL k3⟩
  |box t x=>exact h3
  |buf te t xs=>exact h3
 ·obtain⟨o,_,h2,_⟩:=ze6 hL _ _ _ hj;exact h.new _ o g h2 hg
 ·obtain⟨p,e1,h1,_⟩:=ze6 hL _ _ _ hi;obtain⟨q,e2,h2,_⟩:=ze6 hL _ _ _ hj;exact h.inj _ _ p q h1 h2 (fun e=>hij (by rw[e1,e2,e])) g
 ·obtain⟨k1,k2⟩:=h.fix.2 i hi;refine⟨by show zah (β (rnB L i))=_;rw[hb i hi];exact k1,fun o' ho'=>?_⟩;obtain⟨o,_,h2,rfl⟩:=ze6 hL _ _ _ ho';rw[hb i hi]at h2;rw[zom];exact k2 o h2
end
end Go.Proofs.YtpeaigpfddalcaaGreatDoor
namespace Go.Proofs.YtpeaigpfddalcaaGreatDoor
open Go Go.RowKit Go.Lib
set_option linter.unusedSimpArgs false
set_option linter.unusedVariables false
section
variable {P:Program} {w:World} {O:Nat->Prop} {β:Nat->Value}
theorem zh0 (s:List UInt8):strCells ⟨s.toArray⟩=byteCells s:=by
 simp[strCells,byteCells]
theorem zlH {t u e:TypeId} {i:TypeInfo} (ht:P.underlying t=some (.slice e)) (hu:P.underlying u=some .string) (hi:P.info? e=some i) (hz:i.zero=some (.int .u8 0)) (hsize:i.size=1) (hby:i.bytes=1) (ty:TypeId) {B:Nat} (hB:B≤w.heap.size) {bv:Value} {xs:List UInt8} (hown:OwnRep w O β B bv (.buf e (.int .u8) xs))
 (hOb:∀ g,zah bv=some g->O g) (s:List UInt8) (hlen:xs.length+s.length≤1000000000):
 ∃ v' w',(Builtin.append_ #[t,u] ty #[bv,.string ⟨s.toArray⟩]).run P w= .ok v' w'∧w.grownBy w' (zah bv)∧(∀ g,zah v'=some g->zah bv=some g∨w.heap.size≤g)∧
  ∀ O2,(∀ g,g < w.heap.size->O2 g->O g)->OwnRep w' O2 β B v' (.buf e (.int .u8) ((xs++s:List UInt8))):=by
 obtain⟨cs,h1,h2,h3⟩:=hown;have hss:(⟨s.toArray⟩:ByteArray).size=s.length:=by simp[ByteArray.size]
 have hob:=zek h2;have h2:w.ownsRow B e 1 bv xs.length cs:=h2;obtain⟨v',w',k1,k2,k3,k4⟩:=run_append_own_string (P:=P) w B t u ty e i ht hu hi hz hsize hby bv xs.length cs h2 ⟨s.toArray⟩ (by rw[hss];simp only[Go.maxLen];omega) (by rw[hss];omega) hB;rw[hss]at k2;refine⟨v',w',k1,hob▸k3,?_,fun O2 hO2=>⟨cs++byteCells s,?_,by rw[show List.length (xs++s:List UInt8)=xs.length+s.length from List.length_append, <-zh0];exact k2,h3⟩⟩
 ·intro g hg;rcases h2.2 with ⟨rfl,hn⟩|⟨g',cap,cur,rfl,hbg,hg',hnc,hcm,hcs,htake⟩
  ·by_cases hm:(⟨s.toArray⟩:ByteArray).size=0
   ·have:=k4.2 ⟨rfl,hm⟩;rw[this]at hg;cases hg
   ·have hr2:=run_append_nil_string (P:=P) w t u ty e i _ ht hu hi hz ⟨s.toArray⟩ (by omega) (by omega) (by rw[hby];omega);rw[hr2]at k1;cases k1;cases hg;exact .inr (Nat.le_refl _)
  ·by_cases hroom:xs.length+(⟨s.toArray⟩:ByteArray).size≤cap
   ·have hcs':cur.size=cap:=by simpa using hcs
    have hr2:=run_append_room_string (P:=P) w t u ty e i ht hu hi hsize g' xs.length cap cur hg' ⟨s.toArray⟩ hroom (by omega);rw[hr2]at k1;cases k1;exact .inl hg
   ·have holds:∀ j u,cs[j]? =some u->w.cell? ((⟨g',0,none⟩:Addr).add j)=some u:=h2.cells (g:=g') rfl;have hr2:=run_append_grow_string (P:=P) w t u ty e i (.int .u8 0) ht hu hi hz ⟨g',0,none⟩ xs.length cap cs (by rw[h2.1,hsize]) holds ⟨s.toArray⟩ (by omega) (by omega) (by rw[hby];exact growslice_fits (by omega) (by omega));rw[hr2]at k1;cases k1;cases hg;exact .inr (Nat.le_refl _)
 ·have hk:Keeps w w' O O2:=⟨k3.size,fun g hgl hgo=>k3.block g hgl fun e=>hgo (hOb g (by rw[<-hob];exact e.symm)),hO2⟩;exact (h1.append (zgs s)).mono fun x _ c=>RepC.keep hk _ _ _
end
section
variable {P:Program} {K:Kn} {w0:World} {X:Ownr} {n:Nat} {σ:AS} {Q:Exit->AS->Prop} {ops:Array Oper}
theorem AL.appStr {t u e:TypeId} {ti:TypeInfo} (ht:P.underlying t=some (.slice e)) (hu:P.underlying u=some .string) (hi:P.info? e=some ti) (hz:ti.zero=some (.int .u8 0)) (hsize:ti.size=1) (hby:ti.bytes=1) {o:Oper} {rest:List Oper} {sl x:Operand} (ho:o.op= .call ⟨.builtin .append,#[sl,x],#[t,u]⟩) (hgd:o.guard=none) {d:Nat} (hd:o.dst=some d) (hdn:Nat.blt d n=true)
 {F:Frame} {E:Owns} {nx i:Nat} (hs:evO F sl=⟨.obuf (.int .u8),i⟩) {xs:List UInt8} (hb:Owns.get E i=some (.buf e (.int .u8) xs)) {s:List UInt8} (hx:evO F x=⟨.str,s⟩) (hlen:xs.length+s.length≤1000000000)
 (h:AL P w0 X n ops rest ⟨(d,⟨.obuf (.int .u8),i⟩)::Frame.kill i F,(i,some (.buf e (.int .u8) ((xs++s:List UInt8))))::Owns.kill i E,nx⟩ Q):AL P w0 X n ops (o::rest) ⟨F,E,nx⟩ Q:=by
 refine AL.hand hgd (fun c e=>by rw[ho]at e;cases e) fun β a w hsim=>?_;have hlt:d < n:=by simpa using hdn
 have eS:a.eval sl=β i:=by
  have h1:=hsim.ops sl;rw[show evO (AS.mk F E nx).F sl=_ from hs]at h1;exact h1
 have eX:a.eval x= .string ⟨s.toArray⟩:=by
  have h1:=hsim.ops x;rw[show evO (AS.mk F E nx).F x=_ from hx]at h1;exact List.singleton_inj.1 h1.1
 obtain⟨v',w',k1,k2,k3,k4⟩:=zlH (P:=P) ht hu hi hz hsize hby o.type (Nat.zero_le _) (hsim.own i _ hb) (fun g hg=>.inr ⟨i,_,hb,hg⟩) s hlen;obtain⟨β',hs'⟩:=hsim.redo hb rfl k2 (bv:=v') k3 (t:=.int .u8) (o':=.buf e (.int .u8) ((xs++s:List UInt8))) (fun O _ hO=>k4 O hO) hlt;refine zbE (u:=v') (w':=w') ?_ (by rw[hd];exact⟨_,β',hs',h⟩);unfold execOp;simp only[ho,resolve,invoke,builtin,Sem.run_bind,Sem.run_pure,Result.andThen_ok,List.map_toArray,List.map_cons,List.map_nil,eS,eX,k1]
theorem StepA.step {o o':Oper} {N:AS->Prop} (heq:OpEq P o o') (hX:X.Ok w0) (hK:KnOk P X.G K) {r:List Prop×AS} (hs:zkN K n ops o' σ=some r) (hp:allP r.1) (h:N r.2) (hgd:o.guard=none:=by rfl):StepA P w0 X n ops o σ N Q:=by
 refine StepA.hand hgd fun β a w hsim=>heq.wp ?_;have h1:=zfW (ops:=ops) (N:=fun a' w'=>∃ σ' β',Sim w0 X n σ' β' a' w'∧N σ') (R:=fun e a' w'=>e≠ .outgrown∧∃ σ' β',Sim w0 X n σ' β' a' w'∧Q e σ') hK hX hsim hs hp fun β' a' w' h2=>⟨r.2,β',h2,h⟩;have hg':o'.guard=none:=by rw[<-heq.guard];exact hgd
 simp only[Region.wanted,hg',if_true]at h1;rcases h1 with h1|⟨_,h1⟩
 ·exact h1
 ·obtain⟨_,_,h2,_⟩:=h1;exact absurd rfl h2
end
end Go.Proofs.YtpeaigpfddalcaaGreatDoor
namespace Go.Proofs.YtpeaigpfddalcaaGreatDoor
open Go Go.RowKit
set_option linter.unusedSimpArgs false
set_option linter.unusedVariables false
set_option maxRecDepth 100000
theorem u8isS:(Tryz.prog.info? 5).isSome=true:=by kernel_rfl
noncomputable def u8i:TypeInfo:=(Tryz.prog.info? 5).get u8isS
theorem zrO:Tryz.prog.info? 5=some u8i:=(Option.some_get _).symm
theorem zrM:u8i.zero=some (.int .u8 0):=by kernel_rfl
theorem zrN:u8i.size=1:=by kernel_rfl
theorem znJ:u8i.bytes=1:=by kernel_rfl
theorem eqB1 (o:Oper) (x:Operand) (h:o.op= .fieldAddr 105 x 1):OpEq Tryz.prog o { o with op:=.fieldAddr 133 x 1 }:=by
 refine⟨rfl,rfl,rfl,fun ev w=>?_⟩;unfold execOp;simp only[h];cases ev x<;>simp[go_sem]
@[reducible] def cWSP:HCtr:=hBl prT [107] [.str] .unit (fun x xs=>[List.length x.2.1+List.length xs.1≤1000000000]) fun x xs=>.ok ((),(true,((x.2.1++xs.1:List UInt8),x.2.2)))
def hCCP:List (FuncId×HCtr):=[(114,cCC prT [107])]
theorem tyOkP:tyOk prT [107]:=fun t h=>by
 rw[List.mem_singleton]at h;subst h;exact⟨by first|exact .inl rfl|exact .inr rfl,fun x=>rfl⟩
theorem zpn:HsOk Tryz.prog gmH hCCP:=.cons (zgF prT rfl [107] tyOkP) .nil
theorem zid:zaB Tryz.prog gmH 66 cWSP:=by
 refine zgB (K:=gmK) zai Tryz.func66 rfl rfl (zcD rfl) Tryz.call66 rfl (fun tmps w=>⟨_,by simp[results,Tryz.f66,go_sem];rfl⟩) rfl (Nat.le_of_ble_eq_true rfl) (zdQ prT [107]) ?_;rintro w0 ⟨G,O,K,fix,D,ρ,B⟩ ty hX hG hK hρ hD hinv ⟨b,bf,r,⟨⟩⟩ ⟨(u:List UInt8),⟨⟩⟩ hp;obtain rfl:G=gmH:=hG;obtain rfl:K=1:=hK;obtain rfl:ρ=none:=hρ;obtain rfl:D=[]:=hD;have hI:=fun w R hR hw=>(⟨zaH (ty:=ty) hX rfl hinv.1 (ty':=ty) w R hR hw,hinv.2⟩:bInv prT [107] w R ty);have hp:List.length bf+u.length≤1000000000:=hp;have key:∀ b',AWP Tryz.prog w0 { G:=gmH,X:=O,K:=1,fix:=fix,D:=[],ρ:=none,B:=B } Tryz.f66.ntmps (Tryz.f66.body.getD .skip) ⟨[(0,⟨.hptr,((0:Nat),(0:Nat))⟩),(1,⟨.str,u⟩)],[(0,some (.hbox ty (adV 0 b'::⟨.obuf u8,(1:Nat)⟩:: [⟨.slice nd,r⟩]))),(1,some (.buf 5 u8 bf))],2⟩ (fun e σ=>zp5 cWSP ty e σ (.ok ((),(true,((bf++u:List UInt8),r,⟨⟩))))):=by
  intro b';apply zae;(repeat(first|apply zae|apply zac|apply zab|apply zad));refine zaa hX zai rfl ?_ ?_
  ·trivial
  refine AWP.via (σ':=⟨[(0,⟨.hptr,((0:Nat),(0:Nat))⟩),(1,⟨.str,u⟩),(5,⟨.lit,.nilIface⟩)],[(0,some (.hbox ty (⟨.hptr,((0:Nat),(0:Nat))⟩::⟨.obuf u8,(1:Nat)⟩:: [⟨.slice nd,r⟩]))),(1,some (.buf 5 u8 bf))],2⟩) ?_ ?_
  ·cases b' with
   |true=>
    (repeat(first|apply zae|apply zac|apply zab|apply zad));refine zaj ?_;refine AL.own 1 hX zai zpn rfl trivial rfl rfl trivial hI ?_;exact AL.nil ⟨⟨rfl,rfl,rfl,trivial⟩,⟨rfl,rfl,trivial⟩,rfl,rfl⟩
   |false=>
    (repeat(first|apply zae|apply zac|apply zab|apply zad));refine zaj ?_;refine AL.own 1 hX zai zpn rfl trivial rfl rfl trivial hI ?_;exact AL.nil ⟨⟨rfl,rfl,rfl,trivial⟩,⟨rfl,rfl,trivial⟩,rfl,rfl⟩
  (repeat(first|apply zae|apply zac|apply zab|apply zad));refine zaj ?_;refine AL.take 3 hX zai rfl trivial ?_;refine AL.step (eqB1 _ _ rfl) hX zai rfl trivial ?_;refine AL.take 2 hX zai rfl trivial ?_;refine AL.appStr Tryz.underlying103 Tryz.underlying9 zrO zrM zrN znJ rfl rfl rfl rfl rfl rfl rfl hp ?_;refine AL.take 1 hX zai rfl trivial ?_;refine AL.step (eqB1 _ _ rfl) hX zai rfl trivial ?_;refine AL.all hX zai rfl trivial ?_;(repeat(first|apply zae|apply zac|apply zak|apply zad|apply zab|refine zaa hX zai rfl trivial ?_|refine zaa hX zai rfl id ?_|refine zaa hX zai rfl ⟨id,id⟩ ?_));exact AWP.ret ⟨.inr rfl,_,rfl,u8,1,_,rfl,rfl,rfl⟩
 exact key b
@[reducible] def cWSB:HCtr:=hBl .unit [105] [.str] .unit (fun x xs=>[List.length x.2.1+List.length xs.1≤1000000000]) fun x xs=>.ok ((),(true,((x.2.1++xs.1:List UInt8),x.2.2)))
def hCCB:List (FuncId×HCtr):=[(114,cCC .unit [105])]
theorem tyOkB:tyOk .unit [105]:=fun t h=>by
 rw[List.mem_singleton]at h;subst h;exact⟨by first|exact .inl rfl|exact .inr rfl,fun x=>rfl⟩
theorem zpo:HsOk Tryz.prog gmH hCCB:=.cons (zgF .unit rfl [105] tyOkB) .nil
theorem zmJ:zaB Tryz.prog gmH 66 cWSB:=by
 refine zgB (K:=gmK) zai Tryz.func66 rfl rfl (zcD rfl) Tryz.call66 rfl (fun tmps w=>⟨_,by simp[results,Tryz.f66,go_sem];rfl⟩) rfl (Nat.le_of_ble_eq_true rfl) (zdQ .unit [105]) ?_;rintro w0 ⟨G,O,K,fix,D,ρ,B⟩ ty hX hG hK hρ hD hinv ⟨b,bf,⟨⟩⟩ ⟨(u:List UInt8),⟨⟩⟩ hp;obtain rfl:G=gmH:=hG;obtain rfl:K=1:=hK;obtain rfl:ρ=none:=hρ;obtain rfl:D=[]:=hD;have hI:=fun w R hR hw=>(⟨zaH (ty:=ty) hX rfl hinv.1 (ty':=ty) w R hR hw,hinv.2⟩:bInv .unit [105] w R ty);have hp:List.length bf+u.length≤1000000000:=hp;have key:∀ b',AWP Tryz.prog w0 { G:=gmH,X:=O,K:=1,fix:=fix,D:=[],ρ:=none,B:=B } Tryz.f66.ntmps (Tryz.f66.body.getD .skip) ⟨[(0,⟨.hptr,((0:Nat),(0:Nat))⟩),(1,⟨.str,u⟩)],[(0,some (.hbox ty (adV 0 b'::⟨.obuf u8,(1:Nat)⟩:: []))),(1,some (.buf 5 u8 bf))],2⟩ (fun e σ=>zp5 cWSB ty e σ (.ok ((),(true,((bf++u:List UInt8),⟨⟩))))):=by
  intro b';apply zae;(repeat(first|apply zae|apply zac|apply zab|apply zad));refine zaa hX zai rfl ?_ ?_
  ·trivial
  refine AWP.via (σ':=⟨[(0,⟨.hptr,((0:Nat),(0:Nat))⟩),(1,⟨.str,u⟩),(5,⟨.lit,.nilIface⟩)],[(0,some (.hbox ty (⟨.hptr,((0:Nat),(0:Nat))⟩::⟨.obuf u8,(1:Nat)⟩:: []))),(1,some (.buf 5 u8 bf))],2⟩) ?_ ?_
  ·cases b' with
   |true=>
    (repeat(first|apply zae|apply zac|apply zab|apply zad));refine zaj ?_;refine AL.own 1 hX zai zpo rfl trivial rfl rfl trivial hI ?_;exact AL.nil ⟨⟨rfl,rfl,rfl,trivial⟩,⟨rfl,rfl,trivial⟩,rfl,rfl⟩
   |false=>
    (repeat(first|apply zae|apply zac|apply zab|apply zad));refine zaj ?_;refine AL.own 1 hX zai zpo rfl trivial rfl rfl trivial hI ?_;exact AL.nil ⟨⟨rfl,rfl,rfl,trivial⟩,⟨rfl,rfl,trivial⟩,rfl,rfl⟩
  (repeat(first|apply zae|apply zac|apply zab|apply zad));refine zaj ?_;refine AL.take 3 hX zai rfl trivial ?_;refine AL.step (eqB1 _ _ rfl) hX zai rfl trivial ?_;refine AL.take 2 hX zai rfl trivial ?_;refine AL.appStr Tryz.underlying103 Tryz.underlying9 zrO zrM zrN znJ rfl rfl rfl rfl rfl rfl rfl hp ?_;refine AL.take 1 hX zai rfl trivial ?_;refine AL.step (eqB1 _ _ rfl) hX zai rfl trivial ?_;refine AL.all hX zai rfl trivial ?_;(repeat(first|apply zae|apply zac|apply zak|apply zad|apply zab|refine zaa hX zai rfl trivial ?_|refine zaa hX zai rfl id ?_|refine zaa hX zai rfl ⟨id,id⟩ ?_));exact AWP.ret ⟨.inr rfl,_,rfl,u8,1,_,rfl,rfl,rfl⟩
 exact key b
end Go.Proofs.YtpeaigpfddalcaaGreatDoor
namespace Go.Proofs.YtpeaigpfddalcaaGreatDoor
open Go Go.RowKit
set_option linter.unusedSimpArgs false
set_option linter.unusedVariables false
set_option maxRecDepth 100000
@[reducible] def znA (T:Ty) (tys:List TypeId):HCtr:=hBl T tys [] i64 (fun _ _=>[]) fun x _=>.ok (((x.2.1.length:Nat):Int),x)
theorem zs1:zaB Tryz.prog gmH 61 (znA prT [107]):=by
 refine zav (K:=gmK) zai Tryz.func61 rfl rfl (zcD rfl) Tryz.call61 rfl (Nat.le_of_ble_eq_true rfl) (zdQ prT [107]) ?_;rintro w0 ⟨G,O,K,fix,D,ρ,B⟩ ty hX hG hK hρ hD hinv ⟨b,bf,r,⟨⟩⟩ ⟨⟩ hp;obtain rfl:G=gmH:=hG;obtain rfl:K=1:=hK;obtain rfl:ρ=none:=hρ;obtain rfl:D=[]:=hD;have key:∀ b',AWP Tryz.prog w0 { G:=gmH,X:=O,K:=1,fix:=fix,D:=[],ρ:=none,B:=B } Tryz.f61.ntmps (Tryz.f61.body.getD .skip) ⟨[(0,⟨.hptr,((0:Nat),(0:Nat))⟩)],[(0,some (.hbox ty (adV 0 b'::⟨.obuf u8,(1:Nat)⟩:: [⟨.slice nd,r⟩]))),(1,some (.buf 5 u8 bf))],2⟩ (fun e σ=>zp6 gmT Tryz.f61.results.toList (znA prT [107]) ty e σ (.ok (((bf.length:Nat):Int),(b',bf,r,())))):=by
  intro b';apply zae;(repeat(first|apply zae|apply zac|apply zab|apply zad));refine zaa hX zai rfl ?_ ?_
  ·trivial
  (repeat(first|apply zae|apply zac|apply zab|apply zad));refine zaj ?_;refine AL.take 2 hX zai rfl trivial ?_;refine AL.step (eqB1 _ _ rfl) hX zai rfl trivial ?_;refine AL.all hX zai rfl trivial ?_;cases b' with
  |true=>exact AWP.ret ⟨.inr rfl,⟨_,rfl,u8,1,_,rfl,rfl,rfl⟩,zat rfl trivial rfl rfl rfl⟩
  |false=>exact AWP.ret ⟨.inr rfl,⟨_,rfl,u8,1,_,rfl,rfl,rfl⟩,zat rfl trivial rfl rfl rfl⟩
 exact key b
theorem zs2:zaB Tryz.prog gmH 61 (znA .unit [105]):=by
 refine zav (K:=gmK) zai Tryz.func61 rfl rfl (zcD rfl) Tryz.call61 rfl (Nat.le_of_ble_eq_true rfl) (zdQ .unit [105]) ?_;rintro w0 ⟨G,O,K,fix,D,ρ,B⟩ ty hX hG hK hρ hD hinv ⟨b,bf,⟨⟩⟩ ⟨⟩ hp;obtain rfl:G=gmH:=hG;obtain rfl:K=1:=hK;obtain rfl:ρ=none:=hρ;obtain rfl:D=[]:=hD;have key:∀ b',AWP Tryz.prog w0 { G:=gmH,X:=O,K:=1,fix:=fix,D:=[],ρ:=none,B:=B } Tryz.f61.ntmps (Tryz.f61.body.getD .skip) ⟨[(0,⟨.hptr,((0:Nat),(0:Nat))⟩)],[(0,some (.hbox ty (adV 0 b'::⟨.obuf u8,(1:Nat)⟩:: []))),(1,some (.buf 5 u8 bf))],2⟩ (fun e σ=>zp6 gmT Tryz.f61.results.toList (znA .unit [105]) ty e σ (.ok (((bf.length:Nat):Int),(b',bf,())))):=by
  intro b';apply zae;(repeat(first|apply zae|apply zac|apply zab|apply zad));refine zaa hX zai rfl ?_ ?_
  ·trivial
  (repeat(first|apply zae|apply zac|apply zab|apply zad));refine zaj ?_;refine AL.take 2 hX zai rfl trivial ?_;refine AL.step (eqB1 _ _ rfl) hX zai rfl trivial ?_;refine AL.all hX zai rfl trivial ?_;cases b' with
  |true=>exact AWP.ret ⟨.inr rfl,⟨_,rfl,u8,1,_,rfl,rfl,rfl⟩,zat rfl trivial rfl rfl rfl⟩
  |false=>exact AWP.ret ⟨.inr rfl,⟨_,rfl,u8,1,_,rfl,rfl,rfl⟩,zat rfl trivial rfl rfl rfl⟩
 exact key b
section
open Go.Shelf
set_option linter.unusedSimpArgs false
set_option linter.unusedVariables false
set_option maxHeartbeats 1000000 in
theorem znS {P:Program} {ρ:Ren} (L:Lays.n169 P ρ) (X:Builder.Extra P ρ) (b g cap:Nat) (cs cur:Array Value) (ty:TypeId) (l:List UInt8) (w:World) (hbk:w.heap[b]? =some (.cells cs ty (0,0))) (h1:cs[1]? =some (.slice (some ⟨g,0,none⟩) l.length cap)) (hg:w.heap[g]? =some (.cells cur (ρ.t 5) (0,0))) (hnc:l.length≤cap) (hcm:cap≤maxLen) (hcs:cur.size=cap) (htake:cur.toList.take l.length=Lib.byteCells l) (h0:l≠ []):
 Calls P (ρ.f 169) #[.pointer (some ⟨b,0,none⟩)] w fun e w'=>e= .returned (.string ⟨l.toArray⟩)∧w'=w.drew.freeze ⟨g,0,none⟩ l.length:=by
 have hl0:l.length≠0:=by simpa using h0
 have c1:w.drew.cell? ⟨b,1,none⟩=some (.slice (some ⟨g,0,none⟩) l.length cap):=by
  have:w.drew.heap[b]? =some (.cells cs ty (0,0)):=hbk;rw[Lib.cell_of_heap this];exact h1
 have hSD:(Builtin.unsafeSliceData_ #[(ρ.t 37)] (ρ.t 127) #[.slice (some ⟨g,0,none⟩) l.length cap]).run P w.drew= .ok (.pointer (some ⟨g,0,none⟩)) w.drew:=
  Lib.run_unsafeSliceData_row _ _ _ _ _ _ (by omega)
 have hUS:(Builtin.unsafeString_ #[(ρ.t 127),(ρ.t 3)] (ρ.t 9) #[.pointer (some ⟨g,0,none⟩),.int .i64 l.length]).run P w.drew= .ok (.string ⟨l.toArray⟩) (w.drew.freeze ⟨g,0,none⟩ l.length):=by
  refine Lib.run_unsafeString_row w.drew (ρ.t 127) (ρ.t 3) (ρ.t 9) (ρ.t 5) L.t127 X.cellsByte g cur.size (by have hg':w.drew.heap[g]? =some (.cells cur (ρ.t 5) (0,0)):=hg;simp[World.shape?,hg']) l h0 (by omega) (by unfold maxLen at hcm;omega) ?_;intro j x hx;have hg':w.drew.heap[g]? =some (.cells cur (ρ.t 5) (0,0)):=hg;rw[show ((⟨g,0,none⟩:Addr).add j)=⟨g,j,none⟩ from by simp[Addr.add_lit],Lib.cell_of_heap hg'];have h2:(cur.toList.take l.length)[j]? =some (.int .u8 x.toNat):=by rw[htake];simp[Lib.byteCells,hx]
  rw[List.getElem?_take]at h2;split at h2
  ·simpa using h2
  ·cases h2
 have mixed:=L.mixed;have t72:=L.t72;have a72:=L.a72;have z72:=L.z72;have v72:=L.v72;have u72:=run_underlying L.t72;have t70:=L.t70;have a70:=L.a70;have z70:=L.z70;have v70:=L.v70;have u70:=run_underlying L.t70;have t37:=L.t37;have a37:=L.a37;have z37:=L.z37;have v37:=L.v37;have u37:=run_underlying L.t37;have t127:=L.t127;have a127:=L.a127;have z127:=L.z127;have v127:=L.v127;have u127:=run_underlying L.t127;have t3:=L.t3;have a3:=L.a3;have z3:=L.z3;have v3:=L.v3;have u3:=run_underlying L.t3;have t9:=L.t9;have a9:=L.a9;have z9:=L.z9;have v9:=L.v9;have u9:=run_underlying L.t9;have t5:=X.t5;have a5:=X.a5;have z5:=X.z5;have v5:=X.v5;have u5:=run_underlying X.t5
 go_enter L.f169,Body.n169_ntmps ρ
 go_wp2
 go_region_o
 all_goals (go_wp2;go_ret;exact⟨rfl,rfl⟩)
end
theorem zks (w:World) (g n k:Nat) (hk:k≠g):(w.freeze ⟨g,0,none⟩ n).heap[k]? =w.heap[k]? :=by
 unfold World.freeze;split
 ·rfl
 ·simp only[Array.getElem?_modify];rw[if_neg (fun e=>hk e.symm)]
theorem zlq {R:Nat->Prop} (w:World) (g n:Nat) (hR:R g):Kept R w (w.drew.freeze ⟨g,0,none⟩ n):=by
 refine⟨?_,?_,?_,?_,fun k _ hn=>zks w.drew g n k fun e=>hn (e▸hR)⟩
 ·unfold World.freeze;split<;>rfl
 ·unfold World.freeze;split<;>rfl
 ·unfold World.freeze;split<;>rfl
 ·unfold World.freeze;split
  ·exact Nat.le_refl _
  ·show w.heap.size≤(Array.modify _ _ _).size;rw[Array.size_modify];exact Nat.le_refl _
@[reducible] def cStrB (T:Ty) (tys:List TypeId):HCtr:=hBl T tys [] .str (fun x _=>[x.2.1≠ []]) fun x _=>.ok (x.2.1,x)
theorem zjK (T:Ty) (hT:T.leafD=true) (tys:List TypeId):zfX Tryz.prog gmH 62 (cStrB T tys) (fun x _=>.ok x.2.1):=by
 refine⟨Tryz.call62,zcD hT,fun w O g cs ty x xs vs b hO hgb hg hx hbuf hrep hpre hinv hG=>?_⟩;have hvs:vs=[]:=hrep;subst hvs;have h0:x.2.1≠ []:=hpre;rw[zoO]at hx;obtain⟨u,r,rfl,hu1,hu,hr⟩:=hx;obtain⟨v,r,rfl,hv1,hv,hr⟩:=hr;have hv:v=b:=hv;subst hv;obtain⟨cells,k1,k2,k3⟩:=hbuf;have k1:=zf6 k1;subst k1;have hl0:x.2.1.length≠0:=by simpa using h0
 rcases k2.2 with ⟨_,hz⟩|⟨g',cap,cur,rfl,_,hg',hnc,hcm,hcs,htake⟩
 ·exact absurd hz hl0
 rw[show Ty.size u8=1 from rfl,Nat.mul_one]at hcs htake;refine (znS Tryz.lays169 Tryz.Builder_Extra_169 g g' cap _ cur ty x.2.1 w hg rfl hg' hnc hcm hcs (by simpa [Lib.byteCells] using htake) h0).mono ?_;rintro e w' ⟨rfl,rfl⟩;have hnc':List.length x.2.1≤cap:=hnc;exact⟨zlq w g' _ (.inr rfl),_,rfl,.inr fun β=>⟨rfl,by unfold maxLen at *;omega⟩⟩
end Go.Proofs.YtpeaigpfddalcaaGreatDoor
namespace Go.Proofs.YtpeaigpfddalcaaGreatDoor
open Go Go.RowKit
set_option linter.unusedSimpArgs false
set_option linter.unusedVariables false
attribute [local go_sem] Oper.semAt_some
set_option maxRecDepth 100000
theorem zog (e:Int×Int) (w:World):(Instr.typeAssert (.iface 133 (.agg #[.int .i64 e.1,.int .i64 e.2])) 20 133 true).run Tryz.prog w= .ok (.tuple #[.agg #[.int .i64 e.1,.int .i64 e.2],.bool true]) w:=by kernel_rfl
set_option maxHeartbeats 2000000 in
theorem zoi (g2 g3:Nat) (w:World):CallsDIn Fence.wide 0 Tryz.prog 78 #[.pointer (some ⟨g2,0,none⟩),.pointer (some ⟨g3,0,none⟩)] .returning w fun e u' w'=>
 (∃ v,e= .returned v)∧u'= .returning∧Below w.heap.size w w':=by
 refine callsDIn_of_wpSIn Tryz.func78 rfl trivial fun c₀ cs hu=>?_;apply wpSIn_seq;apply wpSIn_region;simp[wpOpsSIn,go_sem,recoverD,hu,Tryz.ntmps78,Exit.thenS];apply wpSIn_seq;apply wpSIn_region;simp[wpOpsSIn,go_sem,Exit.thenS];refine wpSIn_cond (t:=false) (by simp[Act.eval]) ?_;simp only[Bool.false_eq_true,if_false];refine wpSIn_of_wpIn rfl (wpIn_skip ?_);cases c₀
 simp_all [bodyPostS,results,Tryz.f78]
 exact Below.refl _ _
def fixR (g2 g3 g5:Nat) (i:Nat):Nat:=if i=0 then g2 else if i=1 then g3 else g5
def sR1 (x2 x3:Int) (e:Int×Int):AS:=⟨[(0,⟨.optr i64,⟨0,i64,.here⟩⟩),(1,⟨.optr i64,⟨1,i64,.here⟩⟩),(3,⟨.optr sto,⟨2,sto,.here⟩⟩)],[(0,some (.box i64 x2)),(1,some (.box i64 x3)),(2,some (.box sto (e.1,e.2,())))],3⟩
def sR2 (e:Int×Int):AS:=⟨[],[(0,some (.box i64 e.1)),(1,some (.box i64 e.2))],3⟩
noncomputable def zqv:Code:=match Tryz.f78.body.getD .skip with
 | .seq _ (.seq _ (.cond _ c _))=>(match c with
  | .seq _ (.seq _ t)=>t
  |c=>c)
 |c=>c
theorem zqu {w1:World} {X:Ownr} (hX:X.Ok w1) (hG:∀ w w',X.G w->Below w.heap.size w w'->X.G w') (hK:X.K=3) (x2 x3:Int) (e:Int×Int):AWP Tryz.prog w1 X 20 zqv (sR1 x2 x3 e) (fun en σ=>en= .normal∧Fit σ (sR2 e)):=by
 have kok:KnOk Tryz.prog X.G gmK:=⟨zgE,zgD,CsOk.nil,hG,RsOk.nil⟩;unfold sR1 sR2;refine AWP.ordersA dM 6 rfl (by kernel_rfl) ?_
 repeat'(first
  |exact AllN.nil
  |refine AllN.cons ⟨_,rfl,?_⟩ ?_
  |refine StepA.eval hX kok rfl trivial ?_
  |(refine OrdA.last ?_;exact⟨rfl,trivial,⟨rfl,rfl,trivial⟩,rfl,rfl⟩))
set_option maxHeartbeats 600000 in
theorem zqt (g2 g3:Nat) (e:Int×Int) (x2 x3:Int) (t2 t3:TypeId) (w:World) (h2:w.heap[g2]? =some (.cells #[.int .i64 x2] t2 (0,0))) (h3:w.heap[g3]? =some (.cells #[.int .i64 x3] t3 (0,0))) (hne:g2≠g3):
 CallsDIn Fence.wide 0 Tryz.prog 78 #[.pointer (some ⟨g2,0,none⟩),.pointer (some ⟨g3,0,none⟩)] (.panicking [{ v:=pvS e,recovered:=false }]) w fun en u' w'=>
 (∃ v,en= .returned v)∧u'= .panicking [{ v:=pvS e,recovered:=true }]∧Kept (fun g=>g=g2∨g=g3) w w'∧∃ t2 t3,w'.heap[g2]? =some (.cells #[.int .i64 e.1] t2 (0,0))∧w'.heap[g3]? =some (.cells #[.int .i64 e.2] t3 (0,0)):=by
 refine callsDIn_of_wpSIn Tryz.func78 rfl trivial fun c₀ cs hu=>?_;apply wpSIn_seq;apply wpSIn_region;simp[wpOpsSIn,go_sem,recoverD,hu,Tryz.ntmps78,Exit.thenS,pvS];apply wpSIn_seq;apply wpSIn_region;simp[wpOpsSIn,go_sem,Exit.thenS];refine wpSIn_cond (t:=true) (by simp[Act.eval]) ?_;simp only[if_true];apply wpSIn_seq;apply wpSIn_region;simp[wpOpsSIn,go_sem,Exit.thenS,zog];apply wpSIn_seq;apply wpSIn_seq;apply wpSIn_region;simp[wpOpsSIn,go_sem,Exit.thenS];refine wpSIn_cond (t:=false) (by simp[Act.eval]) ?_;simp only[Bool.false_eq_true,if_false];refine wpSIn_of_wpIn rfl (wpIn_skip ?_);simp only[Exit.thenS];refine wpSIn_of_wpIn rfl ?_;have hl2:=(Array.getElem?_eq_some_iff.1 h2).1;have hl3:=(Array.getElem?_eq_some_iff.1 h3).1;have hbA:Below w.heap.size w (w.alloc (.cells #[.int .i64 e.1,.int .i64 e.2] 133)):=zaY _ _;have h5:(w.alloc (.cells #[.int .i64 e.1,.int .i64 e.2] 133)).heap[w.heap.size]? =some (.cells #[.int .i64 e.1,.int .i64 e.2] 133 (0,0)):=World.alloc_heap_new _ _
 replace h2:=(hbA.block _ hl2).trans h2
 replace h3:=(hbA.block _ hl3).trans h3
 generalize w.alloc (.cells #[.int .i64 e.1,.int .i64 e.2] 133)=w1 at *
 let X:Ownr:={ G:=fun _=>True,X:=fun _=>False,K:=3,fix:=fixR g2 g3 w.heap.size }
 have hR:∀ g,X.R g->g=g2∨g=g3∨g=w.heap.size:=by
  rintro g (⟨i,hi,rfl⟩|h)
  rotate_left
  ·exact False.elim h
  have hi:i < 3:=hi;rcases (show i=0∨i=1∨i=2 by omega) with rfl|rfl|rfl
  ·exact .inl rfl
  ·exact .inr (.inl rfl)
  ·exact .inr (.inr rfl)
 have hX:X.Ok w1:=by
  refine⟨fun g h=>h.elim,fun g h=>?_,fun _ _=>trivial⟩;have:=(Array.getElem?_eq_some_iff.1 h5).1;have:=hbA.size;rcases hR g h with rfl|rfl|rfl<;>omega
 let β:Nat->Value:=fun i=>.pointer (some ⟨X.fix i,0,none⟩)
 have hsim:∀ a:Act,a.tmps.size=20->a.defers=[]->a.tmps.getD 0 undef= .pointer (some ⟨g2,0,none⟩)->a.tmps.getD 1 undef= .pointer (some ⟨g3,0,none⟩)->a.tmps.getD 3 undef= .pointer (some ⟨w.heap.size,0,none⟩)->
  Sim w1 X 20 (sR1 x2 x3 e) β a w1:=fun a hsz hdf e0 e1 e3=>by
  refine Sim.boxes (X:=X) hsz hdf (fun i _=>rfl) ?_ ?_ ?_ rfl
  ·intro i j hi hj hij;have hi:i < 3:=hi;have hj:j < 3:=hj;have hij:fixR g2 g3 w.heap.size i=fixR g2 g3 w.heap.size j:=hij;unfold fixR at hij;rcases (show i=0∨i=1∨i=2 by omega) with rfl|rfl|rfl<;>rcases (show j=0∨j=1∨j=2 by omega) with rfl|rfl|rfl<;>first|rfl|(exfalso;simp at hij;omega)
  ·intro i o h;rw[zag]at h;split at h
   ·rename_i hi;subst hi;cases h;exact⟨by show 0 < 3;omega,rfl,⟨g2,[_],_,rfl,Nat.zero_le _,h2,rfl⟩,fun vs e=>by cases e⟩
   rw[zag]at h;split at h
   ·rename_i _ hi;subst hi;cases h;exact⟨by show 1 < 3;omega,rfl,⟨g3,[_],_,rfl,Nat.zero_le _,h3,rfl⟩,fun vs e=>by cases e⟩
   rw[zag]at h;split at h
   ·rename_i _ _ hi;subst hi;cases h;exact⟨by show 2 < 3;omega,rfl,⟨w.heap.size,[.int .i64 e.1,.int .i64 e.2],_,rfl,Nat.zero_le _,h5,[.int .i64 e.1],[.int .i64 e.2],rfl,rfl,[.int .i64 e.2],[],rfl,rfl,rfl⟩,fun vs e=>by cases e⟩
   ·cases h
  ·refine zbF ⟨g2,rfl,e0⟩ (zbF ⟨g3,rfl,e1⟩ (zbF ⟨w.heap.size,rfl,e3⟩ zf4))
 refine Go.wpIn_mono (zqu hX (fun _ _ _ _=>trivial) rfl x2 x3 e β _ w1 (hsim _ ?_ ?_ ?_ ?_ ?_)) ?_
 ·simp
 ·rfl
 ·simp[Array.getD_eq_getD_getElem?,Array.getElem?_append]
 ·simp[Array.getD_eq_getD_getElem?,Array.getElem?_append]
 ·simp[Array.getD_eq_getD_getElem?,Array.getElem?_append]
 ·rintro en a' w' ⟨σ',β',h1,rfl,hf⟩;have h6:=h1.fit hf (Nat.le_refl _);have hblk:∀ i,i < 3->zah (β' i)=some (fixR g2 g3 w.heap.size i):=fun i hi=>(h6.fix.2 i hi).1;obtain⟨k3,c3,y3,q4,_,q5,q6⟩:=h6.own 0 _ rfl;obtain⟨k4,c4,y4,q7,_,q8,q9⟩:=h6.own 1 _ rfl;have e0:=hblk 0 (by omega);have e1:=hblk 1 (by omega);rw[q4]at e0;rw[q7]at e1;have f0:k3=g2:=by simpa [zah,fixR] using e0
  have f1:k4=g3:=by simpa [zah,fixR] using e1
  subst f0;subst f1;have q6:c3=[.int .i64 e.1]:=q6;have q9:c4=[.int .i64 e.2]:=q9;subst q6;subst q9;refine⟨h6.df,_,rfl,_,results_none rfl _ _ _,⟨_,rfl⟩,rfl,⟨h6.bel.os.trans hbA.os,h6.bel.tape.trans hbA.tape,h6.bel.output.trans hbA.output,Nat.le_trans hbA.size h6.bel.size,fun k hk hn=>(h6.bel.block k (Nat.lt_of_lt_of_le hk hbA.size) fun hr=>?_).trans (hbA.block k hk)⟩,⟨_,q5⟩,⟨_,q8⟩⟩;rcases hR k hr with h|h|h
  ·exact hn (.inl h)
  ·exact hn (.inr h)
  ·omega
theorem zaV {W:World} {B:Nat} {v:Value} {t:TypeId} (h:W.heap[B]? =some (.cells #[v] t (0,0))):W.cell? ⟨B,0,none⟩=some v∧W.frozen? ⟨B,0,none⟩=false:=by
 constructor<;>simp[World.cell?,World.frozen?,h]
theorem ze4 {W:World} {B:Nat} {v:Value} {t:TypeId} (v':Value) (h:W.heap[B]? =some (.cells #[v] t (0,0))):(W.setCell ⟨B,0,none⟩ v').heap[B]? =some (.cells #[v'] t (0,0)):=by
 obtain⟨hlt,hk⟩:=Array.getElem?_eq_some_iff.1 h;show (W.heap.modify B _)[B]? =_;rw[Array.getElem?_eq_getElem (by rw[Array.size_modify];exact hlt),Array.getElem_modify_self,hk];rfl
theorem zdJ {R:Nat->Prop} (W:World) (g:Nat) (v:Value) (hR:R g):Kept R W (W.setCell ⟨g,0,none⟩ v):=
 ⟨rfl,rfl,rfl,by simp[World.setCell],fun k _ hn=>Below.heap_setCell W ⟨g,0,none⟩ v k fun e=>hn (by rw[e];exact hR)⟩
theorem mkF (fn:Fn) (first cap:Array Value) (w:World):(Instr.makeFunc fn first cap).run Tryz.prog w= .ok (.func fn first cap) w:=rfl
theorem zaT {w:World} (o:Obj) {k:Nat} {x:Obj} (h:w.heap[k]? =some x):(w.alloc o).heap[k]? =some x:=((zaY w o).block _ (Array.getElem?_eq_some_iff.1 h).1).trans h
theorem zbV {w:World} (o:Obj) {k:Nat} (h:w.heap.size=k):(w.alloc o).heap[k]? =some o:=by subst h;exact World.alloc_heap_new _ _
def rdfn (N:Nat):Deferred:={ target:=.fn (.func 78) #[.pointer (some ⟨N,0,none⟩),.pointer (some ⟨N+1,0,none⟩)],args:=#[] }
theorem zhh (N:Nat) (w:World):(invoke (rdfn N).target (rdfn N).args).run Tryz.prog w= .ok (.enter 78 #[.pointer (some ⟨N,0,none⟩),.pointer (some ⟨N+1,0,none⟩)]) w:=by
 have eg:=Tryz.call78;simp[invoke,rdfn,go_sem,eg]
def runW (w:World):World:=(w.alloc (.cells #[.int .i64 0] 3)).alloc (.cells #[.int .i64 0] 25)
theorem zoh (w:World):(runW w).heap.size=w.heap.size+2:=by simp[runW]
theorem zmV (w:World):Below w.heap.size w (runW w):=((Below.refl _ w).alloc (Nat.le_refl _) _).alloc (by simp) _
def runE:Except (Int×Int) Unit->Int×Int
 | .ok _=>(0,0)
 | .error e=>e
theorem zoe {tmps:Array Value} {g2 g3:Nat} {W:World} {x y:Int} {t2 t3:TypeId} (h2:tmps.getD 2 undef= .pointer (some ⟨g2,0,none⟩)) (h3:tmps.getD 3 undef= .pointer (some ⟨g3,0,none⟩))
 (c2:W.heap[g2]? =some (.cells #[.int .i64 x] t2 (0,0))) (c3:W.heap[g3]? =some (.cells #[.int .i64 y] t3 (0,0))):
 (results Tryz.f43 tmps).run Tryz.prog W= .ok (.tuple #[.int .i64 x,.int .i64 y]) W:=by
 have d2:=(zaV c2).1;have d3:=(zaV c3).1;rw[Array.getD_eq_getD_getElem?]at h2 h3;simp[results,Tryz.f43,go_sem,h2,h3,d2,d3]
section
variable {W:World} {tmps:Array Value} {N:Nat} {x y:Int} {t2 t3:TypeId} {R:Ending->World->Prop}
theorem zqy (h2:tmps.getD 2 undef= .pointer (some ⟨N,0,none⟩)) (h3:tmps.getD 3 undef= .pointer (some ⟨N+1,0,none⟩)) (c2:W.heap[N]? =some (.cells #[.int .i64 x] t2 (0,0))) (c3:W.heap[N+1]? =some (.cells #[.int .i64 y] t3 (0,0)))
 (hr:∀ w3,Kept (fun g=>g=N∨g=N+1) W w3->R (.returned (.tuple #[.int .i64 x,.int .i64 y])) w3):LeavesInM Fence.wide 1 Tryz.prog Tryz.f43 tmps R [rdfn N] .returning W:=by
 refine⟨(by intro h;cases h),.inr ⟨fun _=>Nat.le_refl _,_,_,_,_,rfl,zhh N _,fun _ _=>trivial,?_⟩⟩;refine (zoi N (N+1) _).mono ?_;rintro e u' w3 ⟨⟨v,rfl⟩,rfl,hb3⟩;have hl:∀ g (o:Obj),W.heap[g]? =some o->w3.heap[g]? =some o:=fun g o hg=>(hb3.block g (Array.getElem?_eq_some_iff.1 hg).1).trans hg;exact⟨_,zoe h2 h3 (hl _ _ c2) (hl _ _ c3),hr _ ⟨hb3.os,hb3.tape,hb3.output,hb3.size,fun k hk _=>hb3.block k hk⟩⟩
theorem zqz {er:Int×Int} (h2:tmps.getD 2 undef= .pointer (some ⟨N,0,none⟩)) (h3:tmps.getD 3 undef= .pointer (some ⟨N+1,0,none⟩)) (c2:W.heap[N]? =some (.cells #[.int .i64 x] t2 (0,0))) (c3:W.heap[N+1]? =some (.cells #[.int .i64 y] t3 (0,0)))
 (hr:∀ w3,Kept (fun g=>g=N∨g=N+1) W w3->R (.returned (.tuple #[.int .i64 er.1,.int .i64 er.2])) w3):LeavesInM Fence.wide 1 Tryz.prog Tryz.f43 tmps R [rdfn N] (.panicking [{ v:=pvS er,recovered:=false }]) W:=by
 refine⟨(by intro h;cases h),.inr ⟨fun _=>Nat.le_refl _,_,_,_,_,rfl,zhh N _,fun _ _=>trivial,?_⟩⟩;refine (zqt N (N+1) er x y t2 t3 _ c2 c3 (by omega)).mono ?_;rintro en u' w3 ⟨⟨v,rfl⟩,rfl,hk3,s2,s3,d2,d3⟩;exact⟨_,zoe h2 h3 d2 d3,hr _ hk3⟩
end
set_option maxHeartbeats 1000000 in
theorem zof {w:World} {f:FuncId} {caps:Array Value} {R:Except (Int×Int) Unit->World->Prop} (hen:∀ w,(callFunc f caps).run Tryz.prog w= .ok (.enter f caps) w)
 (hcall:Calls Tryz.prog f caps (runW w) fun e w'=>(runW w).heap.size≤w'.heap.size∧w'.heap[w.heap.size]? =(runW w).heap[w.heap.size]? ∧w'.heap[w.heap.size+1]? =(runW w).heap[w.heap.size+1]? ∧((∃ v,e= .returned v∧R (.ok ()) w')∨∃ er,e= .panicked [{ v:=pvS er,recovered:=false }]∧R (.error er) w')):
 Calls Tryz.prog 43 #[.func (.func f) #[] caps] w fun e w''=>∃ r w',R r w'∧(runW w).heap.size≤w'.heap.size∧Kept (fun g=>g=w.heap.size∨g=w.heap.size+1) w' w''∧e= .returned (.tuple #[.int .i64 (runE r).1,.int .i64 (runE r).2]):=by
 refine callsIn_wide.1 (zeZ (m:=1) Tryz.func43 rfl ?_);simp only[Tryz.ntmps43,List.size_toArray,List.length_cons,List.length_nil,Nat.reduceAdd,Nat.reduceSub,Array.replicate_succ,Array.replicate_zero,List.push_toArray,List.append_toArray,List.nil_append,List.cons_append];generalize hQ:bodyPostM Fence.wide 1 Tryz.prog Tryz.f43 _=Q;have hmf:=mkF;refine zco (zcv (m:=1) ?_)
 gi_wp2
 refine zco (zcv (m:=1) ?_)
 gi_wp2
 refine zco (zcv (m:=1) ?_)
 gi_wp2
 refine⟨trivial,(callsIn_wide.2 hcall).mono ?_⟩;rintro e w' ⟨hsz,hb0,hb1,⟨v,rfl,hR⟩|⟨er,rfl,hR⟩⟩
 ·have c0:w'.heap[w.heap.size]? =some (.cells #[.int .i64 0] 3 (0,0)):=hb0.trans (zaT _ (zbV _ rfl));have c1:w'.heap[w.heap.size+1]? =some (.cells #[.int .i64 0] 25 (0,0)):=hb1.trans (zbV _ (by simp));have d0:=zaV c0;have d1:=zaV ((Below.heap_setCell w' ⟨w.heap.size,0,none⟩ (.int .i64 0) (w.heap.size+1) (by show w.heap.size+1≠w.heap.size;omega)).trans c1)
  gi_wp2
  refine zco (zcv (m:=1) ?_)
  gi_wp2
  have f0:=ze4 (.int .i64 0) c0;have f1:=(Below.heap_setCell w' ⟨w.heap.size,0,none⟩ (.int .i64 0) (w.heap.size+1) (by show w.heap.size+1≠w.heap.size;omega)).trans c1;have f2:=ze4 (.int .i64 0) f1;have f3:=(Below.heap_setCell (w'.setCell ⟨w.heap.size,0,none⟩ (.int .i64 0)) ⟨w.heap.size+1,0,none⟩ (.int .i64 0) w.heap.size (by show w.heap.size≠w.heap.size+1;omega)).trans f0;have k1:=zdJ (R:=fun g=>g=w.heap.size∨g=w.heap.size+1) w' w.heap.size (.int .i64 0) (.inl rfl);have k2:=zdJ (R:=fun g=>g=w.heap.size∨g=w.heap.size+1) (w'.setCell ⟨w.heap.size,0,none⟩ (.int .i64 0)) (w.heap.size+1) (.int .i64 0) (.inr rfl);refine zcv (m:=1) (wpIn_ret ?_);rw[<-hQ];refine zqy rfl rfl f3 f2 fun w3 hk=>⟨.ok (),w',hR,hsz,?_,rfl⟩;exact (k1.trans k2).trans hk
 ·have c0:w'.heap[w.heap.size]? =some (.cells #[.int .i64 0] 3 (0,0)):=hb0.trans (zaT _ (zbV _ rfl));have c1:w'.heap[w.heap.size+1]? =some (.cells #[.int .i64 0] 25 (0,0)):=hb1.trans (zbV _ (by simp));rw[<-hQ];exact zqz rfl rfl c0 c1 fun w3 hk=>⟨.error er,w',hR,hsz,hk,rfl⟩
end Go.Proofs.YtpeaigpfddalcaaGreatDoor
namespace Go.Proofs.YtpeaigpfddalcaaGreatDoor
open Go Go.RowKit
set_option linter.unusedSimpArgs false
set_option linter.unusedVariables false
set_option maxRecDepth 100000
abbrev tupI:Ty:=.tup i64 (.tup i64 .unit)
section
variable {w0:World} {X:Ownr} {n m K:Nat} {Q:Exit->AS->Prop} {ops:Array Oper} {F:Frame} {E:Owns} {nx:Nat}
theorem AL.runClo (hX:X.Ok w0) (K:Nat) {o1 o2:Oper} {rest:List Oper} {f:FuncId} {fn:Func} {c:Code} {x0 x1:Operand} {d1 d2:Nat} {ts:Array TypeId} (ho1:o1.op= .makeFunc (.func f) #[] #[x0,x1]) (ho2:o2.op= .call ⟨.value (.func 43),#[.tmp d1],ts⟩)
 (hg1:o1.guard=none) (hg2:o2.guard=none) (hd1:o1.dst=some d1) (hd2:o2.dst=some d2) (hn1:Nat.blt d1 n=true) (hn2:Nat.blt d2 n=true) (hb:ze0 E K=true) (hKn:Nat.ble K nx=true) (hK:X.K≤K)
 (hf:Tryz.prog.funcs[f]? =some fn) (hbd:fn.body=some c) (hn:fn.ntmps=m) (hres:fn.results= #[]) (hm:Nat.ble 2 m=true) (hen:∀ (vs:Array Value) (w:World),(callFunc f vs).run Tryz.prog w= .ok (.enter f vs) w) {v0 v1:V} (hv0:evO F x0=v0) (hv1:evO F x1=v1) (hbF:bndB nx [(0,v0),(1,v1)]=true) {N:Except (Int×Int) Unit->AS->Prop}
 (hw:∀ (w1:World) (X':Ownr),X'.Ok w1->X'.G=X.G->X'.K=K->X'.ρ=none->X'.D=[]->(∀ g,X'.R g->w0.heap.size≤g∨X.R g)->AWP Tryz.prog w1 X' m c ⟨[(0,v0),(1,v1)],E,nx⟩ (fun e σ=>((e= .normal∨e= .ret)∧N (.ok ()) σ)∨∃ er,e= .panic [{ v:=pvS er,recovered:=false }]∧N (.error er) σ))
 (h:∀ r σ,N r σ->AL Tryz.prog w0 X n ops rest ⟨(d2,⟨tupI,((runE r).1,(runE r).2,())⟩)::(d1,⟨.junk,()⟩)::zhB K F,σ.E,σ.nx⟩ Q):AL Tryz.prog w0 X n ops (o1::o2::rest) ⟨F,E,nx⟩ Q:=by
 intro β a w hs;have hl1:d1 < n:=by simpa using hn1
 have hl2:d2 < n:=by simpa using hn2
 have hsz:=hs.sz;refine wpListIn_plain hg1 fun K1 hK1=>zcT (fun c e=>by rw[ho1]at e;cases e) ?_;have hr1:(execOp a.eval o1).run Tryz.prog w= .ok (.value (.func (.func f) #[] #[a.eval x0,a.eval x1])) w:=by
  unfold execOp;simp only[ho1];refine zel ?_;simp[Instr.makeFunc]
 refine zbE hr1 (hK1 _ _ ?_);rw[hd1];refine wpListIn_plain hg2 fun K2 hK2=>zcT (fun c e=>by rw[ho2]at e;cases e) ?_;refine zfh ho2 Tryz.call43 ?_;have hc:((#[Operand.tmp d1]:Array Operand).toList.map (a.put (some d1) (.func (.func f) #[] #[a.eval x0,a.eval x1])).eval).toArray= #[.func (.func f) #[] #[a.eval x0,a.eval x1]]:=by
  have:(a.put (some d1) (.func (.func f) #[] #[a.eval x0,a.eval x1])).eval (.tmp d1)= .func (.func f) #[] #[a.eval x0,a.eval x1]:=by
   show (a.put (some d1) _).tmps.getD d1 undef=_;rw[Act.put_get (by rw[hsz];exact hl1),if_pos rfl]
  rw[List.map_cons,this];rfl
 rw[hc];have hws:=zoh w;have hfr:∀ s,RepV w (OSet X E β) β (Frame.get [(0,v0),(1,v1)] s).t (Frame.get [(0,v0),(1,v1)] s).x (((#[a.eval x0,a.eval x1]:Array Value)++Array.replicate (m - (#[a.eval x0,a.eval x1]:Array Value).size) undef).getD s undef):=by
  refine zbF ?_ (zbF ?_ zf4)
  ·have:=hs.ops x0;rw[show evO (AS.mk F E nx).F x0=_ from hv0]at this
   simpa [Array.getD_eq_getD_getElem?,Array.getElem?_append] using this
  ·have:=hs.ops x1;rw[show evO (AS.mk F E nx).F x1=_ from hv1]at this
   simpa [Array.getD_eq_getD_getElem?,Array.getElem?_append] using this
 have hin:=Sim.inl (K:=K) (m:=m) (w1:=runW w) (ex:=fun g=>g=w.heap.size∨g=w.heap.size+1) hs hX (zmV w) (fun g hg=>by omega) hb (Nat.le_of_ble_eq_true hKn) hK hf hbd hn hres (caps:=#[a.eval x0,a.eval x1]) (by show 2≤m;exact Nat.le_of_ble_eq_true hm) hfr hbF (Q:=fun e σ=>((e= .normal∨e= .ret)∧N (.ok ()) σ)∨∃ er,e= .panic [{ v:=pvS er,recovered:=false }]∧N (.error er) σ)
  (fun e σ hq=>by
    rcases hq with ⟨rfl|rfl,_⟩|⟨er,rfl,_⟩
    ·exact .inl rfl
    ·exact .inr (.inl rfl)
    ·exact .inr (.inr ⟨_,rfl⟩)) (fun X' h1 h2 h3 h4 h5 h6=>hw _ X' h1 h2 h3 h4 h5 h6)
 let R:Except (Int×Int) Unit->World->Prop:=fun r w'=>∃ σ,N r σ∧∀ w'',Kept (fun g=>g=w.heap.size∨g=w.heap.size+1) w' w''->∃ β',Sim w0 X n ⟨zhB K F,σ.E,σ.nx⟩ β' a w''
 refine (zof (R:=R) (hen _) (hin.mono fun en w' hr=>?_)).mono fun en w'' hr=>?_
 ·obtain⟨h1,h2,e,σ,he,hq,hfin⟩:=hr;refine⟨h1,h2 _ (.inl rfl),h2 _ (.inr rfl),?_⟩;rcases hq with ⟨hq,hN⟩|⟨er,rfl,hN⟩
  ·rcases he with ⟨_,v,rfl⟩|⟨ch,rfl,_⟩
   ·exact .inl ⟨v,rfl,σ,hN,hfin⟩
   ·rcases hq with hq|hq<;>cases hq
  ·rcases he with ⟨hq|hq,_⟩|⟨ch,hq,rfl⟩
   ·cases hq
   ·cases hq
   ·cases hq;exact .inr ⟨er,rfl,σ,hN,hfin⟩
 ·obtain⟨r,w',⟨σ,hN,hfin⟩,hsz2,hk,rfl⟩:=hr;obtain⟨β',h'⟩:=hfin w'' hk;refine⟨_,rfl,hK2 _ _ ?_⟩;rw[hd2];have h2:=h'.put (Below.refl _ _) (d:=d1) (v:=⟨.junk,()⟩) (u:=.func (.func f) #[] #[a.eval x0,a.eval x1]) trivial (Nat.zero_le _) hl1;have h3:=h2.put (Below.refl _ _) (d:=d2) (v:=⟨tupI,((runE r).1,(runE r).2,())⟩) (u:=.tuple #[.int .i64 (runE r).1,.int .i64 (runE r).2]) ⟨[_,_],rfl,_,_,rfl,rfl,_,_,rfl,rfl,rfl⟩ (Nat.zero_le _) hl2;exact h r σ hN β' _ w'' h3
end
theorem zlS (s:List UInt8):zc7 s 0=zbd s:=by
 unfold zc7;rw[show ((0:Int)).toNat=0 from rfl,List.drop_zero];show (Tok.cls (zbd s),Tok.at (zbd s)+0,Tok.size (zbd s),Tok.text (zbd s),Tok.n (zbd s),())=zbd s;rw[Int.add_zero];rfl
def zbi (s:List UInt8):List Nd×Int×Int:=if 4000 < s.length then ([],0,2) else match zc3 s with
 | .ok t=>(t.flat 0,0,0)
 | .error e=>([],e.1,e.2)
def zmz:Ctr:={ args:=[.str],pre:=fun _=>[],res:=.tup (.slice nd) (.tup i64 (.tup i64 .unit)),own:=none,out:=fun x=>((zbi x.1).1,(zbi x.1).2.1,(zbi x.1).2.2,()) }
def zp4 (s:List UInt8) (r:Except (Int×Int) Unit) (σ:AS):Prop:=(∃ t,zc3 s= .ok t∧r= .ok ()∧Fit σ ⟨[],[(0,some (.box .str s)),(1,some (.box (.slice nd) (t.flat 0)))],2⟩)∨∃ er,zc3 s= .error er∧r= .error er∧Fit σ ⟨[],[(0,some (.box .str s)),(1,some (.box (.slice nd) []))],2⟩
theorem zhE (s:List UInt8):zc3 s=(zeb s (zbd s,0)).map (·.1):=by
 unfold zc3 zgN;rw[zlS]
theorem znc {w1:World} {X:Ownr} {s:List UInt8} (hs:s.length≤4000) (hX:X.Ok w1) (hG:X.G=gmH) (hK:X.K=2) (hρ:X.ρ=none) (hD:X.D=[]) (hinv:∀ ty,ginv w1 X.R ty):
 AWP Tryz.prog w1 X Tryz.f44.ntmps (Tryz.f44.body.getD .skip) ⟨[(0,⟨.optr .str,⟨0,.str,.here⟩⟩),(1,⟨.optr (.slice nd),⟨1,.slice nd,.here⟩⟩)],[(0,some (.box .str s)),(1,some (.box (.slice nd) []))],2⟩ (fun e σ=>((e= .normal∨e= .ret)∧zp4 s (.ok ()) σ)∨∃ er,e= .panic [{ v:=pvS er,recovered:=false }]∧zp4 s (.error er) σ):=by
 obtain⟨G,O,K,fix,D,ρ,B⟩:=X;obtain rfl:G=gmH:=hG;obtain rfl:K=2:=hK;obtain rfl:ρ=none:=hρ;obtain rfl:D=[]:=hD;have hI:=fun ty=>zaH (ty:=ty) hX rfl (hinv ty) (ty':=ty);have hl:s.length≤100000:=by omega
 (repeat(first|apply zae|apply zac|apply zab|apply zad));refine zaj ?_;refine AL.take 1 hX zai rfl trivial ?_;refine AL.fresh hX zet rfl rfl rfl rfl rfl rfl trivial hl ⟨rfl,rfl⟩ rfl rfl ?_;refine AL.nilLeaf 2 6 73 nd rfl rfl rfl ?_;refine AL.fit (σ':=⟨[(0,⟨.optr .str,⟨0,.str,.here⟩⟩),(1,⟨.optr (.slice nd),⟨1,.slice nd,.here⟩⟩),(3,⟨.hptr,((2:Nat),(0:Nat))⟩)],[(0,some (.box .str s)),(1,some (.box (.slice nd) [])),(2,some (.hbox 139 [⟨.str,s⟩,⟨i64,(zbd s).1⟩,⟨i64,(zbd s).2.1⟩,⟨i64,(zbd s).2.2.1⟩,⟨.str,(zbd s).2.2.2.1⟩,⟨i64,(zbd s).2.2.2.2.1⟩,⟨.obuf nd,(3:Nat)⟩,⟨i64,(0:Int)⟩])),(3,some (.buf 73 nd []))],4⟩) ⟨⟨rfl,rfl,rfl,trivial⟩,⟨rfl,rfl,rfl,rfl,trivial⟩,rfl,rfl⟩ ?_;have hg0:GOk s (zbd s,0):=by
  have:=zec (s:=s);unfold zgN at this;rwa[zlS]at this
 have hok:pOk (s,zbd s,[],0,()):=⟨hg0,hl⟩;have hfew:few (s,zbd s,[],0,()):=Int.le_refl 0;refine AL.give hX zok rfl rfl rfl rfl rfl rfl rfl rfl rfl rfl rfl rfl trivial ⟨hok,hfew⟩ (hI 139) rfl rfl ?_;cases h3:zeb s (zbd s,0) with
 |error er=>
  rw[show zew s (stOf (s,zbd s,[],0,())) []= .error (pvS er) by unfold zew;rw[show stOf (s,zbd s,([]:List Nd),(0:Int),())=(zbd s,0) from rfl,h3];rfl];refine .inr ⟨er,rfl,.inr ⟨er,?_,rfl,trivial,⟨rfl,rfl,trivial⟩,rfl,rfl⟩⟩;rw[zhE,h3];rfl
 |ok p=>
  rw[show zew s (stOf (s,zbd s,[],0,())) []= .ok (p.1.flat 0) by unfold zew;rw[show stOf (s,zbd s,([]:List Nd),(0:Int),())=(zbd s,0) from rfl,h3];rfl];show AL _ _ _ _ _ _ _ _;refine AL.all hX zai rfl trivial ?_;refine .inl ⟨.inl rfl,.inl ⟨p.1,?_,rfl,trivial,⟨rfl,rfl,trivial⟩,rfl,rfl⟩⟩;rw[zhE,h3];rfl
theorem zi1:CtrOk Tryz.prog gmH 16 zmz:=by
 refine zan (K:=gmK) zai Tryz.func16 rfl rfl Tryz.call16 rfl (by decide) (by intro h;cases h) ?_;rintro w0 O hX ⟨(s:List UInt8),⟨⟩⟩ hp;have hg0:gmH w0:=hX.2.2 w0 (Kept.refl _ _);change AWP _ _ _ _ _ ⟨[(0,⟨.str,s⟩)],[],0⟩ _;(repeat(first|apply zae|apply zac|apply zab|apply zad));refine zaa hX zai rfl ?_ ?_
 ·trivial
 (repeat(first|apply zae|apply zac|apply zab|apply zad));refine zaa hX zai rfl ?_ ?_
 ·trivial
 refine zaf rfl (fun hb=>?_) (fun hb=>?_)
 ·have hb:decide (((4000:Nat):Int) < ((s.length:Nat):Int))=true:=hb;have hb:=of_decide_eq_true hb;have hP:zbi s=([],0,2):=if_pos (by omega);(repeat(first|apply zae|apply zac|apply zak|apply zad|apply zab|refine zaa hX zai rfl trivial ?_|refine zaa hX zai rfl id ?_|refine zaa hX zai rfl ⟨id,id⟩ ?_));refine AWP.ret ⟨.inr rfl,za7 (by decide) rfl rfl trivial ?_⟩;show _=((zbi s).1,(zbi s).2.1,(zbi s).2.2,());rw[hP]
 have hb:decide (((4000:Nat):Int) < ((s.length:Nat):Int))=false:=hb;have hb:=of_decide_eq_false hb;have hP:zbi s=match zc3 s with
  | .ok t=>(t.flat 0,0,0)
  | .error e=>([],e.1,e.2):=if_neg (by omega)
 apply zac;(repeat(first|apply zae|apply zac|apply zab|apply zad));refine zaa hX zai rfl ?_ ?_
 ·trivial
 refine zaq (σ':=⟨[(1,⟨.optr .str,⟨0,.str,.here⟩⟩),(5,⟨.optr (.slice nd),⟨1,.slice nd,.here⟩⟩)],[(0,some (.box .str s)),(1,some (.box (.slice nd) []))],2⟩) ⟨⟨rfl,rfl,trivial⟩,⟨rfl,rfl,trivial⟩,rfl,rfl⟩ ?_;(repeat(first|apply zae|apply zac|apply zab|apply zad));refine zaj ?_;refine AL.runClo hX 2 rfl rfl rfl rfl rfl rfl rfl rfl rfl rfl (Nat.zero_le _) Tryz.func44 rfl rfl rfl rfl Tryz.call44 rfl rfl rfl (N:=zp4 s) (fun w1 X' h1 h2 h3 h4 h5 h6=>?_) (fun r σ hN=>?_)
 ·refine znc (by omega) h1 h2 h3 h4 h5 fun ty=>?_;obtain⟨l1,l2⟩:=zmf hg0;refine⟨fun h=>?_,fun h=>?_⟩
  ·rcases h6 _ h with h7|h7
   ·omega
   ·exact Ownr.plain_noR _ _ _ h7
  ·rcases h6 _ h with h7|h7
   ·omega
   ·exact Ownr.plain_noR _ _ _ h7
 rcases hN with ⟨t,hN,rfl,hf⟩|⟨er,hN,rfl,hf⟩
 ·skip
  refine AL.fit (σ':=⟨[(13,⟨tupI,((0:Int),(0:Int),())⟩),(1,⟨.optr .str,⟨0,.str,.here⟩⟩),(5,⟨.optr (.slice nd),⟨1,.slice nd,.here⟩⟩)],[(0,some (.box .str s)),(1,some (.box (.slice nd) (t.flat 0)))],2⟩) ⟨⟨rfl,rfl,rfl,trivial⟩,hf.e,rfl,rfl⟩ ?_;refine AL.all hX zai rfl trivial ?_;(repeat(first|apply zae|apply zac|apply zak|apply zad|apply zab|refine zaa hX zai rfl trivial ?_|refine zaa hX zai rfl id ?_|refine zaa hX zai rfl ⟨id,id⟩ ?_));refine AWP.ret ⟨.inr rfl,za7 (by decide) rfl rfl trivial ?_⟩;show _=((zbi s).1,(zbi s).2.1,(zbi s).2.2,());rw[hP,hN]
 ·skip
  refine AL.fit (σ':=⟨[(13,⟨tupI,(er.1,er.2,())⟩),(1,⟨.optr .str,⟨0,.str,.here⟩⟩),(5,⟨.optr (.slice nd),⟨1,.slice nd,.here⟩⟩)],[(0,some (.box .str s)),(1,some (.box (.slice nd) []))],2⟩) ⟨⟨rfl,rfl,rfl,trivial⟩,hf.e,rfl,rfl⟩ ?_;refine AL.all hX zai rfl trivial ?_;(repeat(first|apply zae|apply zac|apply zak|apply zad|apply zab|refine zaa hX zai rfl trivial ?_|refine zaa hX zai rfl id ?_|refine zaa hX zai rfl ⟨id,id⟩ ?_));refine AWP.ret ⟨.inr rfl,za7 (by decide) rfl rfl trivial ?_⟩;show _=((zbi s).1,(zbi s).2.1,(zbi s).2.2,());rw[hP,hN]
theorem znC (w:World) (q:Nat) (os:Array Obj):Below w.heap.size w (Sort.grow (w.drewN q) os):=
 ⟨rfl,rfl,rfl,by show w.heap.size≤(w.heap++os).size;rw[Array.size_append];omega,fun i hi=>by
   show (w.heap++os)[i]? =_;rw[Array.getElem?_append_left hi]⟩
abbrev deI (n:Int):List UInt8:=Lib.itoa n
theorem zmv (k:Nat):∀ n,n < 10 ^ (k+1)->(Lib.decDigits n).length≤k+1:=by
 induction k with
 |zero=>
  intro n h;rw[Lib.decDigits];by_cases hn:n < 10
  ·rw[dif_pos hn];exact Nat.le_refl _
  ·exact absurd (by simpa using h) hn
 |succ k ih=>
  intro n h;rw[Lib.decDigits];by_cases hn:n < 10
  ·rw[dif_pos hn];simp
  ·rw[dif_neg hn,List.length_append];have:=ih (n / 10) (by rw[Nat.pow_succ]at h;omega);simp only[List.length_singleton];omega
theorem zdB {n:Int} (h0: -100000000000000000 < n) (h1:n < 100000000000000000):(deI n).length≤18:=by
 unfold deI Lib.itoa;have e:(10:Nat) ^ (16+1)=100000000000000000:=by decide
 split
 ·rw[List.length_cons];have:=zmv 16 n.natAbs (by rw[e];omega);omega
 ·have:=zmv 16 n.toNat (by rw[e];omega);omega
def zbQ (n:Int):Prop:=-100000000000000000 < n∧n < 100000000000000000
def cItoa:Ctr:={ args:=[i64],pre:=fun x=>[zbQ x.1],res:=.str,own:=none,out:=fun x=>deI x.1 }
theorem zs6:CtrOk Tryz.prog gmH 149 cItoa:=by
 refine⟨Tryz.call149,fun w O xs vs hO hr hp hG=>?_⟩;obtain⟨(n:Int),_⟩:=xs;obtain⟨v1,r1,rfl,e1,rfl⟩:=hr;have e1: [v1]=[Value.int .i64 n]:=e1;cases e1;obtain⟨h0,h1⟩: -100000000000000000 < n∧n < 100000000000000000:=hp;refine (Any.strconv_Itoa Tryz.laysM171 n (by omega) (by omega) w hG.1).mono ?_;rintro e w' ⟨rfl,k,os,rfl⟩;refine⟨_,rfl,znC w k os,fun β=>⟨rfl,?_⟩⟩;have:=zdB h0 h1;show (deI n).length≤maxLen;unfold maxLen;omega
def levS (k:Int):Int:=if k=9 then 1 else if k=10 then 2 else if k=8 then 3 else if 11≤k∧k≤17 then 4 else 5
def zmC:Ctr:={ args:=[i64],pre:=fun _=>[],res:=i64,own:=none,out:=fun x=>levS x.1 }
def opKd (i:Nat):Int:=(opsL.getD i ([],0,())).2.1
theorem zq0:CtrOk Tryz.prog gmH 98 zmC:=by
 refine zan (K:=kBi) zbj Tryz.func98 rfl rfl Tryz.call98 rfl (by decide) (by intro h;cases h) ?_;rintro w0 X hX ⟨(kd:Int),⟨⟩⟩ hp;change AWP _ _ _ _ _ ⟨[(0,⟨i64,kd⟩)],[],0⟩ _;(repeat(first|apply zae|apply zac|apply zab|apply zad));refine zaa hX zbj rfl ?_ ?_
 ·trivial
 (repeat(first|apply zae|apply zac|apply zab|apply zad));refine zaa hX zbj rfl ?_ ?_
 ·trivial
 apply zab;refine AWP.loop (ι:=Nat) (fun i=>⟨[(0,⟨i64,kd⟩),(5,⟨.slice gop,opsL⟩),(6,⟨i64,(3:Int)⟩),(7,⟨i64,(i:Int)⟩)],[],0⟩) (fun i=>i≤3∧∀ j < i,opKd j≠kd) (fun i=>3 - i) 0 ⟨by omega,fun j h=>by omega⟩ ⟨⟨rfl,rfl,rfl,rfl,trivial⟩,trivial,rfl,rfl⟩ ?_;rintro i ⟨hi,hall⟩;(repeat(first|apply zae|apply zac|apply zab|apply zad));refine zaa hX zbj rfl ?_ ?_
 ·trivial
 apply zae;refine zaf rfl (fun hb=>?_) (fun hb=>?_)
 ·have hb:decide ((i:Int) < (3:Int))=true:=hb;have hb:=of_decide_eq_true hb;have hi3:i < 3:=by omega
  have n0:(0:Int)≤(i:Int):=by omega
  have n1:(i:Int) < ((opsL.length:Nat):Int):=by show (i:Int) < ((3:Nat):Int);omega
  apply zac;apply zae;apply zab;(repeat(first|apply zae|apply zac|apply zab|apply zad));refine zaa hX zbj rfl ?_ ?_
  ·exact⟨n0,n1⟩
  (repeat(first|apply zae|apply zac|apply zab|apply zad));refine zaa hX zbj rfl ?_ ?_
  ·trivial
  refine zaf rfl (fun hk=>?_) (fun hk=>?_)
  ·have hk:((opsL.getD ((i:Int)).toNat ([],0,())).2.1==kd)=true:=hk;have hk:=beq_iff_eq.1 hk;rw[Int.toNat_natCast]at hk;have q0:inR .i64 ((i:Int)+1):=zar (by omega) (by omega);(repeat(first|apply zae|apply zac|apply zab|apply zad));refine zaa hX zbj rfl ?_ ?_
   ·exact q0
   refine AWP.ret ⟨.inr rfl,zat rfl trivial rfl rfl ?_⟩;show (i:Int)+1=levS kd;rcases (show i=0∨i=1∨i=2 by omega) with rfl|rfl|rfl
   ·subst hk;rfl
   ·subst hk;rfl
   ·subst hk;rfl
  ·have hk:((opsL.getD ((i:Int)).toNat ([],0,())).2.1==kd)=false:=hk;have hk:(opsL.getD i ([],0,())).2.1≠kd:=fun e=>by
    rw[Int.toNat_natCast]at hk;rw[beq_iff_eq.2 e]at hk;cases hk
   apply zac;have q0:inR .i64 ((i:Int)+1):=zar (by omega) (by omega);(repeat(first|apply zae|apply zac|apply zab|apply zad));refine zaa hX zbj rfl ?_ ?_
   ·exact q0
   refine⟨i+1,⟨by omega,fun j hj=>?_⟩,by omega,⟨rfl,rfl,rfl,vI64 (by omega),trivial⟩,trivial,rfl,rfl⟩;by_cases e:j=i
   ·subst e;exact hk
   ·exact hall j (by omega)
 ·have hb:decide ((i:Int) < (3:Int))=false:=hb;have hb:=of_decide_eq_false hb;have h9:kd≠9:=fun e=>hall 0 (by omega) e.symm;have h10:kd≠10:=fun e=>hall 1 (by omega) e.symm;have h8:kd≠8:=fun e=>hall 2 (by omega) e.symm;apply zad;(repeat(first|apply zae|apply zac|apply zab|apply zad));refine zaa hX zbj rfl ?_ ?_
  ·repeat'(first|exact trivial|assumption|(refine⟨?_,?_⟩)|(intro _)|exact Nat.le_of_ble_eq_true rfl|exact Int.natCast_nonneg _|(simp_all [allP];done))
  refine zaf rfl (fun hb=>?_) (fun hb=>?_)
  ·have hb:(bif decide ((11:Int)≤kd) then decide (kd≤17) else false)=true:=hb;rw[zcn,Bool.and_eq_true,decide_eq_true_iff,decide_eq_true_iff]at hb;(repeat(first|apply zae|apply zac|apply zak|apply zad|apply zab|refine zaa hX zbj rfl trivial ?_|refine zaa hX zbj rfl id ?_|refine zaa hX zbj rfl ⟨id,id⟩ ?_));refine AWP.ret ⟨.inr rfl,zat rfl trivial rfl rfl ?_⟩;show (4:Int)=levS kd;unfold levS;rw[if_neg h9,if_neg h10,if_neg h8,if_pos hb]
  ·have hb:(bif decide ((11:Int)≤kd) then decide (kd≤17) else false)=false:=hb;have hb:¬ (11≤kd∧kd≤17):=fun h=>by
    rw[zcn,decide_eq_true h.1,decide_eq_true h.2]at hb;cases hb
   apply zac;(repeat(first|apply zae|apply zac|apply zak|apply zad|apply zab|refine zaa hX zbj rfl trivial ?_|refine zaa hX zbj rfl id ?_|refine zaa hX zbj rfl ⟨id,id⟩ ?_));refine AWP.ret ⟨.inr rfl,zat rfl trivial rfl rfl ?_⟩;show (5:Int)=levS kd;unfold levS;rw[if_neg h9,if_neg h10,if_neg h8,if_neg hb]
def zcr (n:Int):List UInt8:=if n=1 then 32::zd1 else 32::zig
def zpK:Ctr:={ args:=[i64],pre:=fun x=>[0≤x.1,x.1≤1],res:=.str,own:=none,out:=fun x=>zcr x.1 }
theorem zn7:CtrOk Tryz.prog gmH 151 zpK:=by
 refine zan (K:=gmK) zai Tryz.func151 rfl rfl Tryz.call151 rfl (by decide) (by intro h;cases h) ?_;rintro w0 X hX ⟨(n:Int),⟨⟩⟩ hp;obtain⟨h0,h1⟩:0≤n∧n≤1:=hp;change AWP _ _ _ _ _ ⟨[(0,⟨i64,n⟩)],[],0⟩ _;have hlt:n < ((2:Nat):Int):=by omega
 have hlt2:n.toNat < 2:=by omega
 (repeat(first|apply zae|apply zac|apply zab|apply zad));refine zaa hX zai rfl ?_ ?_
 ·trivial
 (repeat(first|apply zae|apply zac|apply zab|apply zad));refine zaa hX zai rfl ?_ ?_
 ·exact⟨h0,hlt,hlt2⟩
 refine AWP.ret ⟨.inr rfl,zat rfl trivial rfl rfl ?_⟩;rcases (show n=0∨n=1 by omega) with rfl|rfl
 ·rfl
 ·rfl
theorem eqP0 (o:Oper) (x:Operand) (h:o.op= .fieldAddr 107 x 0):OpEq Tryz.prog o { o with op:=.fieldAddr 133 x 0 }:=by
 refine⟨rfl,rfl,rfl,fun ev w=>?_⟩;unfold execOp;simp only[h];cases ev x<;>simp[go_sem]
theorem eqP1 (o:Oper) (x:Operand) (h:o.op= .fieldAddr 107 x 1):OpEq Tryz.prog o { o with op:=.fieldAddr 73 x 2 }:=by
 refine⟨rfl,rfl,rfl,fun ev w=>?_⟩;unfold execOp;simp only[h];cases ev x<;>simp[go_sem]
@[reducible] def hW (args:List Ty) (pre:(bTy prT).T->Args args->List Prop) (out:(bTy prT).T->Args args->List UInt8):HCtr:=hBl prT [107] args .unit pre fun x xs=>.ok ((),(true,((x.2.1++out x xs:List UInt8),x.2.2)))
@[reducible] def wE (ty:TypeId) (b:Bool) (bf:List UInt8) (r:List Nd):Owns:=[(0,some (.hbox ty [adV 0 b,⟨.obuf u8,(1:Nat)⟩,⟨.slice nd,r⟩])),(1,some (.buf 5 u8 bf))]
def wQ (rs:List ResultVar) (c:HCtr) (ty:TypeId) (r:Except Value (c.res.T×c.self.T)) (e:Exit) (σ:AS):Prop:=zp6 gmT rs c ty e σ r
def zcl (l:List Int):List UInt8:=(l.map fun n=>32::deI n).flatten
def putS (s:List UInt8) (l:List Int):List UInt8:=s++zcl l
theorem zng (l:List Int) (n:Int):zcl (l++ [n])=zcl l++32::deI n:=by
 unfold zcl;rw[List.map_append,List.flatten_append];simp
theorem zbJ {l:List Int} (h:∀ n∈l,zbQ n):(zcl l).length≤19 * l.length:=by
 induction l with
 |nil=>exact Nat.le_refl _
 |cons n l ih=>
  have h1:=zdB (h n (List.mem_cons_self ..)).1 (h n (List.mem_cons_self ..)).2;have h2:=ih fun m hm=>h m (List.mem_cons_of_mem _ hm);show ((32::deI n)++zcl l).length≤_;rw[List.length_append,List.length_cons,List.length_cons];omega
def kPt:Kn:={ gmK with C:=[(149,cItoa)] }
theorem zcs:KnOk Tryz.prog gmH kPt:=zai.with (.cons zs6 .nil)
def hPt:List (FuncId×HCtr):=[(66,cWSP)]
theorem zmd:HsOk Tryz.prog gmH hPt:=.cons zid .nil
@[reducible] def cPut:HCtr:=hW [.str,ints] (fun x xs=>[List.length x.2.1+List.length xs.1+19 * List.length xs.2.1≤1000000000,∀ n∈xs.2.1,zbQ n]) fun x xs=>putS xs.1 xs.2.1
theorem bufU {te:TypeId} {x y:List UInt8} (h:x=y):some (OObj.buf te u8 x)=some (OObj.buf te u8 y):=by rw[h]
theorem zov:zaB Tryz.prog gmH 100 cPut:=by
 refine zav (K:=_) zcs Tryz.func100 rfl rfl (zcD rfl) Tryz.call100 rfl (Nat.le_of_ble_eq_true rfl) (zdQ prT [107]) ?_;rintro w0 ⟨G,O,K,fix,D,ρ,B⟩ ty hX hG hK hρ hD hinv ⟨(b:Bool),(bf:List UInt8),(r:List Nd),⟨⟩⟩ ⟨(s:List UInt8),(l:List Int),⟨⟩⟩ hp;obtain rfl:G=gmH:=hG;obtain rfl:K=1:=hK;obtain rfl:ρ=none:=hρ;obtain rfl:D=[]:=hD;have hI:=fun w R hR hw=>(⟨zaH (ty:=ty) hX rfl hinv.1 (ty':=ty) w R hR hw,hinv.2⟩:bInv prT [107] w R ty);obtain⟨hlen,hnum⟩:bf.length+s.length+19 * l.length≤1000000000∧∀ n∈l,zbQ n:=hp;change AWP _ _ _ _ _ ⟨[(0,⟨.hptr,((0:Nat),(0:Nat))⟩),(1,⟨.str,s⟩),(2,⟨.slice i64,l⟩)],wE ty b bf r,2⟩ (wQ _ cPut ty (.ok ((),(true,((bf++(s++zcl l):List UInt8),(r,()))))));have hl0:bf.length+s.length≤1000000000:=by omega
 refine AWP.via (σ':=⟨[(0,⟨.hptr,((0:Nat),(0:Nat))⟩),(2,⟨.slice i64,l⟩)],wE ty true ((bf++s:List UInt8)) r,2⟩) ?_ ?_
 ·cases b
  all_goals
   refine zaj ?_;refine AL.take 2 hX zcs rfl trivial ?_;refine AL.step (eqP0 _ _ rfl) hX zcs rfl trivial ?_;refine AL.own 1 hX zcs zmd rfl trivial rfl rfl hl0 hI ?_;exact AL.nil ⟨⟨rfl,rfl,trivial⟩,⟨rfl,rfl,trivial⟩,rfl,rfl⟩
 (repeat(first|apply zae|apply zac|apply zab|apply zad));refine zaa hX zcs rfl ?_ ?_
 ·trivial
 apply zab;refine AWP.loop (ι:=Nat) (fun i=>⟨[(0,⟨.hptr,((0:Nat),(0:Nat))⟩),(13,⟨.slice i64,l⟩),(14,⟨i64,((l.length:Nat):Int)⟩),(15,⟨i64,(i:Int)⟩)],wE ty true ((bf++s++zcl (l.take i):List UInt8)) r,2⟩) (fun i=>i≤l.length) (fun i=>l.length - i) 0 (Nat.zero_le _) ⟨⟨rfl,rfl,rfl,rfl,trivial⟩,⟨rfl,bufU (by show bf++s=bf++s++ [];rw[List.append_nil]),trivial⟩,rfl,rfl⟩ ?_;intro i hi;(repeat(first|apply zae|apply zac|apply zab|apply zad));refine zaa hX zcs rfl ?_ ?_
 ·trivial
 apply zae;refine zaf rfl (fun hb=>?_) (fun hb=>?_)
 ·have hb:decide ((i:Int) < ((l.length:Nat):Int))=true:=hb;have hb:=of_decide_eq_true hb;have hil:i < l.length:=by omega
  have n0:(0:Int)≤(i:Int):=by omega
  have hat:l.getD ((i:Int)).toNat 0=l[i]:=za0 hil;have hn:zbQ (l.getD ((i:Int)).toNat 0):=by rw[hat];exact hnum _ (List.getElem_mem hil)
  have hd:=zdB hn.1 hn.2;have ht:List.length (l.take i)≤i:=by rw[List.length_take];omega
  have hnt:=zbJ (l:=l.take i) fun n hm=>hnum n (List.mem_of_mem_take hm);have hbl:List.length (bf++s++zcl (l.take i):List UInt8)+List.length (32::deI (l.getD ((i:Int)).toNat 0):List UInt8)≤1000000000:=by
   rw[List.length_append,List.length_append,List.length_cons];omega
  have hcat:1+List.length (deI (l.getD ((i:Int)).toNat 0))≤maxLen:=by unfold maxLen;omega
  apply zac;apply zae;apply zab;(repeat(first|apply zae|apply zac|apply zab|apply zad));refine zaa hX zcs rfl ?_ ?_
  ·exact⟨n0,hb⟩
  refine AWP.mono (Q:=fun e sg=>e= .normal∧Fit sg ⟨[(0,⟨.hptr,((0:Nat),(0:Nat))⟩),(13,⟨.slice i64,l⟩),(14,⟨i64,((l.length:Nat):Int)⟩),(15,⟨i64,(i:Int)⟩)],wE ty true ((bf++s++zcl (l.take i)++(32::deI (l.getD ((i:Int)).toNat 0)):List UInt8)) r,2⟩) ?_ ?_
  ·refine AWP.ordersA dM 7 rfl (by kernel_rfl) ?_
   repeat'(first
    |exact AllN.nil
    |refine AllN.cons ⟨_,rfl,?_⟩ ?_
    |refine StepA.eval hX zcs rfl trivial ?_
    |refine StepA.eval hX zcs rfl (by exact hn) ?_
    |refine StepA.eval hX zcs rfl (by exact hcat) ?_
    |refine StepA.step (eqP0 _ _ rfl) hX zcs rfl trivial ?_
    |refine StepA.own hX zmd rfl (by exact hbl) hI ?_
    |(refine OrdA.last ?_;exact⟨rfl,⟨rfl,rfl,rfl,rfl,trivial⟩,⟨rfl,rfl,trivial⟩,rfl,rfl⟩))
  ·rintro e s' ⟨rfl,hf⟩;have q0:inR .i64 ((i:Int)+1):=zar (by omega) (by omega);refine zaq hf ?_ (by exact Nat.le_of_ble_eq_true rfl);(repeat(first|apply zae|apply zac|apply zab|apply zad));refine zaa hX zcs rfl ?_ ?_
   ·exact q0
   refine⟨i+1,hil,by omega,⟨rfl,rfl,rfl,vI64 (by omega),trivial⟩,⟨rfl,bufU ?_,trivial⟩,rfl,rfl⟩;rw[hat,List.take_succ_eq_append_getElem hil,zng, <-List.append_assoc]
 ·have hb:decide ((i:Int) < ((l.length:Nat):Int))=false:=hb;have hb:=of_decide_eq_false hb;obtain rfl:i=l.length:=by omega
  rw[show (bf++(s++zcl l):List UInt8)=bf++s++zcl (l.take l.length) from by rw[List.take_length,List.append_assoc]];apply zad;exact⟨.inl rfl,⟨_,rfl,u8,1,_,rfl,rfl,rfl⟩,za7 (by decide) rfl rfl trivial rfl⟩
section
variable {P:Program} {K:Kn} {w0:World} {X:Ownr} {n:Nat} {σ:AS} {β:Nat->Value} {a:Act} {w:World} {R:Exit->Act->World->Prop} {ops:Array Oper}
theorem zpD (hK:KnOk P X.G K) (hX:X.Ok w0) (h:Sim w0 X n σ β a w) {m:Nat} (hB:zjg ops m=true) {r1:List Prop×AS} (h1:zic K n ops (ops.toList.take m) σ=some r1)
 (hp1:allP r1.1) (hT:∀ a' w',Sim w0 X n r1.2 β a' w'->wpList P ops R (ops.toList.drop m) a' w'):wpAny P .any ops R ops.size (Array.replicate ops.size false) a { w with drawn:=w.drawn+1 }:=by
 simp only[zjg,Bool.and_eq_true,Nat.ble_eq]at hB;obtain⟨⟨⟨⟨hms,hflow⟩,hback⟩,htl0⟩,hseq⟩:=hB;have htl:m=ops.size∨(Region.sinkB .any ops m=true∧Region.chainB .any ops m=true):=by
  simp only[Bool.or_eq_true,Bool.and_eq_true,Nat.beq_eq]at htl0;exact htl0
 obtain⟨rs,hl,hps,hr1,hspec⟩:=zgo _ _ _ h1;have hlen:(ops.toList.take m).length=m:=by simp;omega
 rw[hlen]at hl;have hget:∀ i,i < m->∃ o d q,ops[i]? =some o∧o.dst=some d∧d < n∧rs[i]? =some q∧gOp K n ops σ.E (zc8 σ.F (ops.toList.take i) ((rs.map (·.2)).take i)) o=some q:=by
  intro i hi;have hlt:i < ops.size:=by omega
  obtain⟨d,q,e1,e2,e3,e4⟩:=hspec i ops[i] (by rw[List.getElem?_take,if_pos hi];simp[hlt]);rw[List.take_take,Nat.min_eq_left (by omega)]at e4;exact⟨ops[i],d,q,by simp[hlt],e1,e2,e3,e4⟩
 have hsome:∀ k,k≤m->∀ o∈ops.toList.take k,o.dst.isSome=true:=by
  intro k hk o ho;obtain⟨i,hi⟩:=List.mem_iff_getElem?.1 ho;rw[List.getElem?_take]at hi;split at hi
  ·obtain⟨o',d,q,e1,e2,_⟩:=hget i (by omega);have:o'=o:=by
    have:ops.toList[i]? =some o':=by simpa using e1
    rw[this]at hi;cases hi;rfl
   rw[<-this,e2];rfl
  ·cases hi
 have hdist:∀ i j oi oj,i < m->j < m->ops[i]? =some oi->ops[j]? =some oj->i≠j->oi.dst≠oj.dst:=by
  intro i j oi oj hi hj hoi hoj hij;have h3:=List.all_eq_true.1 hflow j (List.mem_range.2 hj);rw[hoj]at h3;have h4:=List.all_eq_true.1 h3 i (List.mem_range.2 hi);rw[hoi]at h4;simp only[Bool.and_eq_true,Bool.or_eq_true,Nat.beq_eq,Bool.not_eq_true']at h4;rcases h4.1 with h5|h5
  ·exact absurd h5 hij
  ·intro e;rw[e]at h5;simp at h5
 have hdep:∀ i j oi oj t,i < m->j < m->ops[i]? =some oi->ops[j]? =some oj->t∈ze5 ops oj->oi.dst=some t->i < j∧∃ e∈oj.after,e.on=i∧Region.binds .any e=true:=by
  intro i j oi oj t hi hj hoi hoj ht hd;have h3:=List.all_eq_true.1 hflow j (List.mem_range.2 hj);rw[hoj]at h3;have h4:=List.all_eq_true.1 h3 i (List.mem_range.2 hi);rw[hoi]at h4;simp only[Bool.and_eq_true]at h4;have h5:=List.all_eq_true.1 h4.2 t ht;rw[hd]at h5;simp only[beq_self_eq_true,Bool.not_true,Bool.false_or,Bool.and_eq_true]at h5;refine⟨by simpa using h5.1,?_⟩;obtain⟨e,he,h6⟩:=Array.any_eq_true'.1 h5.2;simp only[Bool.and_eq_true,Nat.beq_eq]at h6;exact⟨e,he,h6.1,h6.2⟩
 let W:=w.drew
 have hsim:Sim w0 X n σ β a W:=⟨h.sz,h.df,h.bel.then ((Below.refl _ _).drew),fun s=>RepV.keep (.of_below ((Below.refl _ _).drew) fun _ _ h=>h) _ _ _ (h.fr s),fun i o ho=>(h.own i o ho).keep (.of_below ((Below.refl _ _).drew) fun _ _ h=>h) fun _ _=>rfl,h.new,h.inj,h.lt,h.fix,h.hb,h.hE⟩
 let I:Array Bool->Act->World->Prop:=fun listed a' w'=>
  a'.tmps.size=n∧a'.defers=X.D∧Below W.heap.size W w'∧(∀ s,(∀ i o,i < m->ops[i]? =some o->o.dst≠some s)->a'.tmps.getD s undef=a.tmps.getD s undef)∧
  (∀ i o d q,i < m->ops[i]? =some o->o.dst=some d->rs[i]? =some q->listed.getD i false=true->RepV w' (OSet X σ.E β) β q.2.t q.2.x (a'.tmps.getD d undef))
 have hsum:ops.size=left (Array.replicate ops.size false) m+(ops.size - m):=by
  have:left (Array.replicate ops.size false) m=m:=by
   unfold left;have:(List.range m).filter (fun i=>!(Array.replicate ops.size false).getD i false)=List.range m:=by
    rw[List.filter_eq_self];intro i _;rw[getD_replicate_false];rfl
   rw[this,List.length_range]
  omega
 have hown:∀ w',Below W.heap.size W w'->∀ i o,Owns.get σ.E i=some o->OwnRep w' (OSet X σ.E β) β 0 (β i) o:=fun w' hb i o ho=>
  (hsim.own i o ho).keep (.of_below hb fun _ _ h=>h) fun g hg=>hb.block g ((hsim.own i o ho).block_lt hg).2
 have hO:∀ w',Below W.heap.size W w'->∀ g,OSet X σ.E β g->g < w'.heap.size:=fun w' hb g hg=>Nat.lt_of_lt_of_le (hsim.hO hX g hg) hb.size
 suffices hkey:wpAny P .any ops R (left (Array.replicate ops.size false) m+(ops.size - m)) (Array.replicate ops.size false) a W by
  rw[<-hsum]at hkey;exact hkey
 refine zdR hms hback htl I ?_ ?_ _ _ a W rfl ⟨by simp,fun j oj _ hlj=>(by rw[getD_replicate_false]at hlj;cases hlj),fun t _ ht=>getD_in (by simpa using ht) (getD_replicate_false _ _)⟩ ⟨h.sz,h.df,Below.refl _ _,fun _ _=>rfl,fun i o d q _ _ _ _ hli=>by rw[getD_replicate_false]at hli;cases hli⟩
 ·
  rintro listed a' w' ⟨i1,i2,i3,i4,i5⟩ i him hir;obtain⟨hun,o',ho',hdone⟩:=mem_ready.1 hir;obtain⟨o,d,q,ho,hd,hdn,hq,hg⟩:=hget i him;have:o'=o:=by rw[ho]at ho';cases ho';rfl
  subst this;unfold wpOp;rw[ho];simp only;have hqp:allP q.1:=hps hp1 q (List.mem_of_getElem? hq);refine zmj hK (hX.2.2 w' (hsim.bel.then i3)) (hO w' i3) (hown w' i3) hg hqp i1 (fun t ht=>?_) fun u w2 hb2 hr2=>?_
  ·by_cases hex:∃ k ok,k < m∧ops[k]? =some ok∧ok.dst=some t
   ·obtain⟨k,ok,hkm,hok,hkd⟩:=hex;obtain⟨hki,e,he,heon,heb⟩:=hdep k i ok o' t hkm him hok ho ht hkd;have hlk:=hdone e he heb;rw[heon]at hlk;obtain⟨ok',dk,qk,g1,g2,g3,g4,g5⟩:=hget k hkm;have:ok'=ok:=by rw[hok]at g1;cases g1;rfl
    subst this;have hv:=zdk (ops.toList.take i) ((rs.map (·.2)).take i) σ.F t k ok' qk.2 (hsome i (by omega)) (by rw[List.getElem?_take,if_pos hki];simpa using hok) hkd
     (by rw[List.getElem?_take,if_pos hki,List.getElem?_map,g4];rfl) (fun k' o'' hkk hk'=>by
       rw[List.getElem?_take]at hk';split at hk'
       ·have:=hdist k' k o'' ok' (by omega) hkm (by simpa using hk') hok (by omega);rw[hkd]at this;exact this
       ·cases hk')
    rw[hv];exact i5 k ok' t qk hkm hok hkd g4 hlk
   ·have hno:∀ o∈ops.toList.take i,o.dst≠some t:=by
     intro o2 ho2 hd2;obtain⟨k,hk⟩:=List.mem_iff_getElem?.1 ho2;rw[List.getElem?_take]at hk;split at hk
     ·exact hex ⟨k,o2,by omega,by simpa using hk,hd2⟩
     ·cases hk
    rw[zcd _ _ _ _ (hsome i (by omega)) hno,i4 t fun k ok hk hok hdk=>hex ⟨k,ok,hk,hok,hdk⟩];exact RepV.keep (.of_below i3 fun _ _ h=>h) _ _ _ (hsim.fr t)
  ·have hb:Below W.heap.size W w2:=i3.trans (hb2.mono i3.size);rw[hd];refine⟨by rw[Act.put_size];exact i1,by rw[Act.put_defers];exact i2,hb,fun s hs=>?_,fun j oj dj qj hj hoj hdj hqj hlj=>?_⟩
   ·rw[Act.put_get (by rw[i1];exact hdn),if_neg (fun e=>hs i o' him ho (by rw[hd,e]))];exact i4 s hs
   ·rw[Act.put_get (by rw[i1];exact hdn)];by_cases hji:i=j
    ·subst hji;have:oj=o':=by rw[ho]at hoj;cases hoj;rfl
     subst this;have:dj=d:=by rw[hd]at hdj;cases hdj;rfl
     subst this;have:qj=q:=by rw[hq]at hqj;cases hqj;rfl
     subst this;rw[if_pos rfl];exact hr2
    ·have hne:d≠dj:=fun e=>hdist i j o' oj him hj ho hoj hji (by rw[hd,hdj,e]);rw[if_neg hne];rw[getD_set_ne false hji]at hlj;exact RepV.keep (.of_below hb2 fun _ _ h=>h) _ _ _ (i5 j oj dj qj hj hoj hdj hqj hlj)
 ·
  rintro listed a' w' inv hall ⟨i1,i2,i3,i4,i5⟩;have hlist:listed=(List.replicate m true++List.replicate (ops.size - m) false).toArray:=by
   apply Array.ext
   ·rw[inv.size];simp;omega
   ·intro i h1 h2;rw[inv.size]at h1;by_cases him:i < m
    ·have:=hall i him;simp only[Array.getD,show i < listed.size by rw[inv.size];exact h1,dif_pos]at this;have e:listed[i]=true:=this;rw[e];simp[List.getElem_append,him]
    ·have:=inv.tail i (by omega) h1;have:=getD_both this;simp only[Array.getD,show i < listed.size by rw[inv.size];exact h1,dif_pos]at this;have e:listed[i]=false:=this;rw[e];simp[List.getElem_append,him]
  subst hlist;have hfin:Sim w0 X n r1.2 β a' w':=by
   rw[hr1];refine⟨i1,i2,hsim.bel.then i3,fun s=>?_,hown w' i3,hsim.new,hsim.inj,hsim.lt,hsim.fix,fun s=>?_,hsim.hE⟩
   ·show RepV w' (OSet X σ.E β) β (Frame.get (zc8 σ.F (ops.toList.take m) (rs.map (·.2))) s).t _ _;by_cases hex:∃ k ok,k < m∧ops[k]? =some ok∧ok.dst=some s
    ·obtain⟨k,ok,hkm,hok,hkd⟩:=hex;obtain⟨ok',dk,qk,g1,g2,g3,g4,g5⟩:=hget k hkm;have:ok'=ok:=by rw[hok]at g1;cases g1;rfl
     subst this;have hv:=zdk (ops.toList.take m) (rs.map (·.2)) σ.F s k ok' qk.2 (hsome m (Nat.le_refl _)) (by rw[List.getElem?_take,if_pos hkm];simpa using hok) hkd
      (by rw[List.getElem?_map,g4];rfl) (fun k' o'' hkk hk'=>by
        rw[List.getElem?_take]at hk';split at hk'
        ·have:=hdist k' k o'' ok' (by omega) hkm (by simpa using hk') hok (by omega);rw[hkd]at this;exact this
        ·cases hk')
     rw[hv];exact i5 k ok' s qk hkm hok hkd g4 (hall k hkm)
    ·have hno:∀ o∈ops.toList.take m,o.dst≠some s:=by
      intro o2 ho2 hd2;obtain⟨k,hk⟩:=List.mem_iff_getElem?.1 ho2;rw[List.getElem?_take]at hk;split at hk
      ·exact hex ⟨k,o2,by omega,by simpa using hk,hd2⟩
      ·cases hk
     rw[zcd _ _ _ _ (hsome m (Nat.le_refl _)) hno,i4 s fun k ok hk hok hdk=>hex ⟨k,ok,hk,hok,hdk⟩];exact RepV.keep (.of_below i3 fun _ _ h=>h) _ _ _ (hsim.fr s)
   ·show (Frame.get (zc8 σ.F (ops.toList.take m) (rs.map (·.2))) s).bound≤σ.nx;have hbd:∀ k,k≤m->∀ s,(Frame.get (zc8 σ.F (ops.toList.take k) ((rs.map (·.2)).take k)) s).bound≤σ.nx:=by
     intro k
     induction k with
     |zero=>intro _ s;simpa [zc8] using hsim.hb s
     |succ k ih=>
      intro hk s;obtain⟨o,d,q,e1,e2,e3,e4,e5⟩:=hget k (by omega);have hb:=zfJ e5 (ih (by omega)) (fun i o ho=>⟨hsim.lt i o ho,hsim.hE i o ho⟩) fun t τ ht=>(hK.t.lay t τ ht).data;by_cases hsd:o.dst=some s
      ·have hv:=zdk (ops.toList.take (k+1)) ((rs.map (·.2)).take (k+1)) σ.F s k o q.2 (hsome (k+1) hk) (by rw[List.getElem?_take,if_pos (by omega)];simpa using e1) hsd
        (by rw[List.getElem?_take,if_pos (by omega),List.getElem?_map,e4];rfl) (fun k' o'' hkk hk'=>by
          rw[List.getElem?_take]at hk';split at hk'
          ·omega
          ·cases hk')
       rw[hv];exact hb
      ·by_cases hex:∃ k' ok,k' < k∧ops[k']? =some ok∧ok.dst=some s
       ·obtain⟨k',ok,hk',hok,hkd⟩:=hex;obtain⟨ok',dk,qk,g1,g2,g3,g4,g5⟩:=hget k' (by omega);have:ok'=ok:=by rw[hok]at g1;cases g1;rfl
        subst this;have both:∀ j,k' < j->j≤m->Frame.get (zc8 σ.F (ops.toList.take j) ((rs.map (·.2)).take j)) s=qk.2:=fun j hj hjm=>
         zdk _ _ σ.F s k' ok' qk.2 (hsome j hjm) (by rw[List.getElem?_take,if_pos hj];simpa using hok) hkd
          (by rw[List.getElem?_take,if_pos hj,List.getElem?_map,g4];rfl) (fun k2 o'' hkk hk2=>by
            rw[List.getElem?_take]at hk2;split at hk2
            ·have:=hdist k2 k' o'' ok' (by omega) (by omega) (by simpa using hk2) hok (by omega);rw[hkd]at this;exact this
            ·cases hk2)
        rw[both (k+1) (by omega) hk, <-both k hk' (by omega)];exact ih (by omega) s
       ·have hno:∀ o∈ops.toList.take (k+1),o.dst≠some s:=by
         intro o2 ho2 hd2;obtain⟨k2,hk2⟩:=List.mem_iff_getElem?.1 ho2;rw[List.getElem?_take]at hk2;split at hk2
         ·have hk2':ops[k2]? =some o2:=by simpa using hk2
          by_cases hkk:k2=k
          ·subst hkk;rw[e1]at hk2';cases hk2';exact hsd hd2
          ·exact hex ⟨k2,o2,by omega,hk2',hd2⟩
         ·cases hk2
        rw[zcd _ _ _ _ (hsome (k+1) hk) hno];exact hsim.hb s
    have:=hbd m (Nat.le_refl _) s;rwa[List.take_of_length_le (l:=rs.map (·.2)) (by simp[hl])]at this
  have hlt:(ops.toList.drop m).length=ops.size - m:=by simp
  have:=wpAny_of_seq (P:=P) (md:=.any) (Q':=R) (ops:=ops) (ops.toList.drop m) m (List.replicate m true++List.replicate (ops.size - m) false).toArray a' w' (fun j=>by simp[List.getElem?_drop]) (by rw[hlt];exact hseq) (hT a' w' hfin);rwa[hlt]at this
end
section
variable {P:Program} {K:Kn} {w0:World} {X:Ownr} {n:Nat} {σ:AS} {Q:Exit->AS->Prop} {ops:Array Oper}
theorem AWP.drawT {l':List Oper} (heq':OpsI P ops.toList l') (hm:P.follows .mixedOrders=true) (hX:X.Ok w0) (hK:KnOk P X.G K) {id:Nat} (m:Nat) (hB:zjg l'.toArray m=true) {r1:List Prop×AS} (h1:zic K n l'.toArray (l'.take m) σ=some r1) (hp1:allP r1.1) {o:Oper} (ho:l'.drop m=[o]) (hgd:o.guard=none)
 (hstep:∀ β a w,Sim w0 X n r1.2 β a w->o.wp P a w (fun a' w'=>∃ σ' β',Sim w0 X n σ' β' a' w'∧Q .normal σ') (fun e a' w'=>e≠ .outgrown∧∃ σ' β',Sim w0 X n σ' β' a' w'∧Q e σ')) (hd:zbo ops.toList=true:=by rfl):AWP P w0 X n (.region id ops true) σ Q:=fun β a w h=>by
 have heq:OpsEq P ops.toList l'.toArray.toList:=heq'.eq;have hnl:¬ LetsOut (fun e a' w'=>e≠ .outgrown∧∃ σ' β',Sim w0 X n σ' β' a' w'∧Q e σ'):=fun⟨_,_,h,_⟩=>h rfl;exact Go.wpIn_mono (wpIn_region_any hm (zbc (R:=fun e a' w'=>e≠ .outgrown∧∃ σ' β',Sim w0 X n σ' β' a' w'∧Q e σ') hnl hd _ (by
  rw[(zi3 heq).1];exact zmK heq hnl _ (zpD hK hX h hB h1 hp1 fun a' w' hs=>by
   rw[show (l'.toArray.toList).drop m=[o] from ho];refine wpList_plain hgd fun K' hK'=>Oper.wp_mono (fun a2 w2 ⟨σ',β',h3,h4⟩=>hK' a2 w2 ⟨(fun h=>by cases h),σ',β',h3,h4⟩) (hstep β a' w' hs))))) fun e a w h=>h.2
theorem AWP.drawOwn {C:List (FuncId×HCtr)} {l':List Oper} (heq':OpsI P ops.toList l') (hm:P.follows .mixedOrders=true) (hX:X.Ok w0) (hK:KnOk P X.G K) (hC:HsOk P X.G C) {id:Nat} (m:Nat) (hB:zjg l'.toArray m=true) {r1:List Prop×AS} (h1:zic K n l'.toArray (l'.take m) σ=some r1) (hp1:allP r1.1) {o:Oper} (ho:l'.drop m=[o]) (hgd:o.guard=none)
 {s:HSite} (hsite:znt C n o r1.2=some s) (hq:allP s.q) (hinv:∀ w R,(∀ g,R g->w0.heap.size≤g∨X.R g)->X.G w->s.c.inv w R s.ty) (h:zlI (fun y x'=>Q .normal (s.next y x')) (fun pv=>Q (.panic [{ v:=pv,recovered:=false }]) s.lost) (s.c.out s.x s.xs)) (hd:zbo ops.toList=true:=by rfl):AWP P w0 X n (.region id ops true) σ Q:=
 AWP.drawT heq' hm hX hK m hB h1 hp1 ho hgd (fun β a w hsim=>zjf (N:=fun σ'=>Q .normal σ') hX hC hsite hq hinv h β a w hsim) hd
end
def sepS (i:Nat):List UInt8:=if i=0 then [32,40] else [32]
def litS:Nat->List Int->List UInt8
 |_,[]=>[]
 |i,n::r=>sepS i++deI n++litS (i+1) r
def zch (l:List Int):List UInt8:=litS 0 l++ [41]
theorem zht (n:Int):∀ (l:List Int) (i:Nat),litS i (l++ [n])=litS i l++(sepS (i+l.length)++deI n)
 | [],i=>by
  show sepS i++deI n++ []=[]++(sepS (i+0)++deI n);rw[List.append_nil];rfl
 |m::l,i=>by
  show sepS i++deI m++litS (i+1) (l++ [n])=sepS i++deI m++litS (i+1) l++_;rw[zht n l (i+1),List.append_assoc (sepS i++deI m),List.length_cons,show i+1+l.length=i+(l.length+1) by omega]
theorem zlQ (i:Nat):(sepS i).length≤2:=by
 unfold sepS;split
 ·exact Nat.le_refl _
 ·exact Nat.le_succ _
theorem zeK:∀ (l:List Int) (i:Nat),(∀ n∈l,zbQ n)->(litS i l).length≤20 * l.length
 | [],i,_=>Nat.le_refl _
 |n::l,i,h=>by
  have h1:=zdB (h n (List.mem_cons_self ..)).1 (h n (List.mem_cons_self ..)).2;have h2:=zeK l (i+1) fun m hm=>h m (List.mem_cons_of_mem _ hm);have h3:=zlQ i;show (sepS i++deI n++litS (i+1) l).length≤_;rw[List.length_append,List.length_append,List.length_cons];omega
@[reducible] def zmB:HCtr:=hW [ints] (fun x xs=>[List.length x.2.1+20 * List.length xs.1+1≤1000000000,∀ n∈xs.1,zbQ n]) fun x xs=>zch xs.1
theorem zl7:zaB Tryz.prog gmH 150 zmB:=by
 refine zav (K:=_) zcs Tryz.func150 rfl rfl (zcD rfl) Tryz.call150 rfl (Nat.le_of_ble_eq_true rfl) (zdQ prT [107]) ?_;rintro w0 ⟨G,O,K,fix,D,ρ,B⟩ ty hX hG hK hρ hD hinv ⟨(b:Bool),(bf:List UInt8),(r:List Nd),⟨⟩⟩ ⟨(l:List Int),⟨⟩⟩ hp;obtain rfl:G=gmH:=hG;obtain rfl:K=1:=hK;obtain rfl:ρ=none:=hρ;obtain rfl:D=[]:=hD;have hI:=fun w R hR hw=>(⟨zaH (ty:=ty) hX rfl hinv.1 (ty':=ty) w R hR hw,hinv.2⟩:bInv prT [107] w R ty);obtain⟨hlen,hnum⟩:bf.length+20 * l.length+1≤1000000000∧∀ n∈l,zbQ n:=hp;change AWP _ _ _ _ _ ⟨[(0,⟨.hptr,((0:Nat),(0:Nat))⟩),(1,⟨.slice i64,l⟩)],wE ty b bf r,2⟩ (wQ _ zmB ty (.ok ((),(true,((bf++zch l:List UInt8),(r,()))))));(repeat(first|apply zae|apply zac|apply zab|apply zad));refine zaa hX zcs rfl ?_ ?_
 ·trivial
 apply zab;refine AWP.loop (ι:=Nat) (fun i=>⟨[(0,⟨.hptr,((0:Nat),(0:Nat))⟩),(6,⟨.slice i64,l⟩),(7,⟨i64,((l.length:Nat):Int)⟩),(8,⟨i64,(i:Int)⟩)],wE ty (b||decide (0 < i)) ((bf++litS 0 (l.take i):List UInt8)) r,2⟩) (fun i=>i≤l.length) (fun i=>l.length - i) 0 (Nat.zero_le _) ⟨⟨rfl,rfl,rfl,rfl,trivial⟩,⟨by cases b<;>rfl,bufU (by show bf=bf++ [];rw[List.append_nil]),trivial⟩,rfl,by cases b<;>rfl⟩ ?_;intro i hi;obtain⟨b',hb'⟩:∃ b',b'=(b||decide (0 < i)):=⟨_,rfl⟩;rw[<-hb'];(repeat(first|apply zae|apply zac|apply zab|apply zad));refine zaa hX zcs rfl ?_ ?_
 ·trivial
 apply zae;refine zaf rfl (fun hb=>?_) (fun hb=>?_)
 ·have hb:decide ((i:Int) < ((l.length:Nat):Int))=true:=hb;have hb:=of_decide_eq_true hb;have hil:i < l.length:=by omega
  have n0:(0:Int)≤(i:Int):=by omega
  have hat:l.getD ((i:Int)).toNat 0=l[i]:=za0 hil;have hn:zbQ (l.getD ((i:Int)).toNat 0):=by rw[hat];exact hnum _ (List.getElem_mem hil)
  have hd:=zdB hn.1 hn.2;have ht:List.length (l.take i)=i:=by rw[List.length_take];omega
  have hnt:=zeK (l.take i) 0 fun n hm=>hnum n (List.mem_of_mem_take hm);have hs:=zlQ i;have hbl:List.length (bf++litS 0 (l.take i):List UInt8)+List.length (sepS i++deI (l.getD ((i:Int)).toNat 0):List UInt8)≤1000000000:=by
   rw[List.length_append,List.length_append];omega
  apply zac;apply zae;apply zab;(repeat(first|apply zae|apply zac|apply zab|apply zad));refine zaa hX zcs rfl ?_ ?_
  ·exact⟨n0,hb⟩
  refine AWP.mono (Q:=fun e sg=>e= .normal∧Fit sg ⟨[(0,⟨.hptr,((0:Nat),(0:Nat))⟩),(6,⟨.slice i64,l⟩),(7,⟨i64,((l.length:Nat):Int)⟩),(8,⟨i64,(i:Int)⟩)],wE ty true ((bf++litS 0 (l.take i)++(sepS i++deI (l.getD ((i:Int)).toNat 0)):List UInt8)) r,2⟩) ?_ ?_
  ·have hsep:([[32,40],[32]]:List (List UInt8)).getD (min (i:Int) 1).toNat []=sepS i:=by
    cases i with
    |zero=>rfl
    |succ k=>
     rw[show min (((k+1:Nat)):Int) 1=1 by omega];rfl
   have m0:(0:Int)≤min (i:Int) 1:=by omega
   have m1:min (i:Int) 1 < ((2:Nat):Int):=by omega
   have m2:(min (i:Int) 1).toNat < 2:=by omega
   have hcat:List.length (([[32,40],[32]]:List (List UInt8)).getD (min (i:Int) 1).toNat [])+List.length (deI (l.getD ((i:Int)).toNat 0))≤maxLen:=by rw[hsep];unfold maxLen;omega
   have hbl2:List.length (bf++litS 0 (l.take i):List UInt8)+List.length (([[32,40],[32]]:List (List UInt8)).getD (min (i:Int) 1).toNat []++deI (l.getD ((i:Int)).toNat 0):List UInt8)≤1000000000:=by rw[hsep];exact hbl
   rw[<-hsep];cases b'
   all_goals
    refine AWP.drawOwn (.cons (OpEq.refl _) <| .cons (OpEq.refl _) <| .cons (eqP0 _ _ rfl) <| .cons (OpEq.refl _) <| .cons (OpEq.refl _) <| .cons (OpEq.refl _) <| .cons (OpEq.refl _) <| .cons (OpEq.refl _) <| .cons (OpEq.refl _) <| .cons (OpEq.refl _) <| .cons (OpEq.refl _) <| .cons (OpEq.refl _) .nil) dM hX zcs zmd 11 (by kernel_rfl) rfl ?_ rfl rfl rfl ?_ hI ?_
    ·exact⟨m0,m1,hn,hcat⟩
    ·exact hbl2
    ·exact⟨rfl,⟨rfl,rfl,rfl,rfl,trivial⟩,⟨rfl,rfl,trivial⟩,rfl,rfl⟩
  ·rintro e s' ⟨rfl,hf⟩;have q0:inR .i64 ((i:Int)+1):=zar (by omega) (by omega);have ht1:(b||decide (0 < i+1))=true:=by simp
   refine zaq hf ?_ (by exact Nat.le_of_ble_eq_true rfl);(repeat(first|apply zae|apply zac|apply zab|apply zad));refine zaa hX zcs rfl ?_ ?_
   ·exact q0
   refine⟨i+1,hil,by omega,?_⟩;rw[ht1];refine⟨⟨rfl,rfl,rfl,vI64 (by omega),trivial⟩,⟨rfl,bufU ?_,trivial⟩,rfl,rfl⟩;rw[hat,List.take_succ_eq_append_getElem hil,zht,ht,Nat.zero_add,List.append_assoc]
 ·have hb:decide ((i:Int) < ((l.length:Nat):Int))=false:=hb;have hb:=of_decide_eq_false hb;obtain rfl:i=l.length:=by omega
  have hnt:=zeK (l.take l.length) 0 fun n hm=>hnum n (List.mem_of_mem_take hm);have hlt:=List.take_length (l:=l);rw[hlt]at hnt;have hbl:List.length (bf++litS 0 (l.take l.length):List UInt8)+List.length ([41]:List UInt8)≤1000000000:=by
   rw[hlt,List.length_append];show bf.length+_+1≤_;omega
  rw[show (bf++zch l:List UInt8)=bf++litS 0 (l.take l.length)++ [41] from by rw[hlt,List.append_assoc];rfl];apply zad;cases b'
  all_goals
   show AWP _ _ _ _ _ _ _;refine zaj ?_;refine AL.take 2 hX zcs rfl trivial ?_;refine AL.step (eqP0 _ _ rfl) hX zcs rfl trivial ?_;refine AL.own 0 hX zcs zmd rfl trivial rfl rfl hbl hI ?_;refine AL.nil ?_;exact⟨.inl rfl,⟨_,rfl,u8,1,_,rfl,rfl,rfl⟩,za7 (by decide) rfl rfl trivial rfl⟩
def wAt:List UInt8:=[64]
def spW (w:List UInt8):List UInt8:=32::w
def ndK (n:Nd):Int:=n.1
def ndC (n:Nd):Int:=n.2.1
def ndL (n:Nd):Int:=n.2.2.1
def ndR (n:Nd):Int:=n.2.2.2.1
def ndN (n:Nd):Int:=n.2.2.2.2.1
def ndM (n:Nd):Int:=n.2.2.2.2.2.1
def ndI (n:Nd):List Int:=n.2.2.2.2.2.2.1
def ndS (n:Nd):List UInt8:=n.2.2.2.2.2.2.2.1
def zcI (n:Nd):List UInt8:=
 if ndK n=1 then putS ziK [ndN n,ndM n]
 else if ndK n=2 then putS zfi [ndC n,ndN n,ndM n]
 else if ndK n=3 then putS zcy [ndC n]++zch (ndI n)
 else if ndK n=4 then putS za3 [ndC n]++zch (ndI n)
 else if ndK n=5 then putS zbl []++zch (ndI n)
 else if ndK n=6 then putS zdr [ndC n]++zch (ndI n)
 else if ndK n=7 then putS wNth [ndC n,ndN n,ndM n]++putS (zcr (ndL n)) []
 else if ndK n=18 then putS (wAt++ndS n) []
 else []
end Go.Proofs.YtpeaigpfddalcaaGreatDoor
