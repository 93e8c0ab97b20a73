/-
  Texts of this claim, joined: what the statement's proof uses.
-/
import Derived.Test.YtpeaigpfddalcaaGreatDoorWC
namespace Go.Proofs.YtpeaigpfddalcaaGreatDoor
open Go Go.RowKit
set_option linter.unusedSimpArgs false
set_option linter.unusedVariables false
set_option maxRecDepth 100000
def zcc (b:List UInt8) (n:Nd):List UInt8:=
 if ndK n=11 then putS (spW zeU) [ndN n]
 else if ndK n=12 then putS (spW zhY) [ndN n]
 else if ndK n=13 then putS (spW zeT) [ndN n]
 else if ndK n=14 then putS (spW ze2) []++zch (ndI n)
 else if ndK n=15 then putS (spW zcz) []++zch (ndI n)
 else if ndK n=16 then putS (spW wPos) [ndC n]++(putS (zcr (ndM n)) []++zch (ndI n))
 else if ndK n=17 then putS (spW zbT) [ndN n]++(putS (spW wOf++ [32]) []++b)
 else []
def opWd (x:Int):List UInt8:=(opsL.getD (x - 1).toNat ([],0,())).1
def zam (r:List Nd) (i:Int):Nd:=r.getD i.toNat zNd
def parS (c:Bool) (t:List UInt8):List UInt8:=if c then t else [40]++(t++ [41])
def zaO:Nat->List Nd->Int->List UInt8
 |0,_,_=>[]
 |k+1,r,i=>
  if levS (ndK (zam r i)) < 4 then
   parS (decide (levS (ndK (zam r (ndL (zam r i))))≥levS (ndK (zam r i)))) (zaO k r (ndL (zam r i)))++(putS ([32]++opWd (levS (ndK (zam r i)))++ [32]) []++parS (decide (levS (ndK (zam r (ndR (zam r i))))≥levS (ndK (zam r i))+1)) (zaO k r (ndR (zam r i))))
  else if levS (ndK (zam r i))=4 then
   parS (decide (levS (ndK (zam r (ndL (zam r i))))≥4)) (zaO k r (ndL (zam r i)))++zcc (parS (decide (levS (ndK (zam r (ndR (zam r i))))≥5)) (zaO k r (ndR (zam r i)))) (zam r i)
  else zcI (zam r i)
def opdF (k:Nat) (r:List Nd) (i req:Int):List UInt8:=parS (decide (levS (ndK (zam r i))≥req)) (zaO k r i)
def zkO (n:Nd):Prop:=(zbQ (ndC n)∧zbQ (ndN n)∧zbQ (ndM n))∧(∀ x∈ndI n,zbQ x)∧(ndI n).length≤100∧(ndS n).length≤100∧(ndK n=7->0≤ndL n∧ndL n≤1)∧(ndK n=16->0≤ndM n∧ndM n≤1)
def idx {α:Type} (f:α->Bool) (l:List α):Int:=if l.findIdx f < l.length then (l.findIdx f:Int) else -1
theorem zmc {α:Type} {f:α->Bool} {l:List α} (h:∀ k (hk:k < l.length),f l[k]=false):idx f l= -1:=by
 unfold idx;rw[if_neg];intro hl;have:=List.findIdx_getElem (w:=hl);rw[h _ hl]at this;cases this
theorem zmb {α:Type} {f:α->Bool} {l:List α} {k:Nat} (hk:k < l.length) (h:f l[k]=true) (hb:∀ j (hj:j < k),f (l[j]'(Nat.lt_trans hj hk))=false):idx f l=(k:Int):=by
 have:l.findIdx f=k:=by
  rw[List.findIdx_eq hk];exact⟨h,fun j hj=>hb j hj⟩
 unfold idx;rw[this,if_pos hk]
theorem zpj {α:Type} (f:α->Bool) (l:List α):decide (idx f l≥0)=l.any f:=by
 rw[Bool.eq_iff_iff,decide_eq_true_iff,List.any_eq_true];unfold idx;constructor
 ·intro h;split at h
  ·rename_i hl;exact⟨l[l.findIdx f],List.getElem_mem hl,List.findIdx_getElem (w:=hl)⟩
  ·omega
 ·rintro ⟨x,hx,hf⟩;rw[if_pos (List.findIdx_lt_length_of_exists ⟨x,hx,hf⟩)];omega
def inB (n lo hi:Int):Bool:=decide (lo≤n)&&decide (n≤hi)
def zbr:Ctr:={ args:=[i64,i64,i64],pre:=fun _=>[],res:=.bool,own:=none,out:=fun x=>inB x.1 x.2.1 x.2.2.1 }
theorem zjC:CtrOk Tryz.prog gmH 119 zbr:=by
 refine zan (K:=gmK) zai Tryz.func119 rfl rfl Tryz.call119 rfl (by decide) (by intro h;cases h) ?_;rintro w0 X hX ⟨(n:Int),(lo:Int),(hi:Int),_⟩ hp;change AWP _ _ _ _ _ ⟨[(0,⟨i64,n⟩),(1,⟨i64,lo⟩),(2,⟨i64,hi⟩)],[],0⟩ _;(repeat(first|apply zae|apply zac|apply zab|apply zad));refine zaa hX zai rfl ?_ ?_
 ·trivial
 (repeat(first|apply zae|apply zac|apply zab|apply zad));refine zaa hX zai rfl ?_ ?_
 ·repeat'(first|exact trivial|assumption|(refine⟨?_,?_⟩)|(intro _))
 refine AWP.ret ⟨.inr rfl,zat rfl trivial rfl rfl ?_⟩;show (bif decide (lo≤n) then decide (n≤hi) else false)=inB n lo hi;unfold inB;cases decide (lo≤n)<;>rfl
def not1 (n:Int):Bool:=!(n==1)
def cNot1:Ctr:={ args:=[i64],pre:=fun _=>[],res:=.bool,own:=none,out:=fun x=>not1 x.1 }
theorem zsP:CtrOk Tryz.prog gmH 124 cNot1:=by
 refine zan (K:=gmK) zai Tryz.func124 rfl rfl Tryz.call124 rfl (by decide) (by intro h;cases h) ?_;rintro w0 X hX ⟨(n:Int),_⟩ hp;change AWP _ _ _ _ _ ⟨[(0,⟨i64,n⟩)],[],0⟩ _;(repeat(first|apply zae|apply zac|apply zak|apply zad|apply zab|refine zaa hX zai rfl trivial ?_|refine zaa hX zai rfl id ?_|refine zaa hX zai rfl ⟨id,id⟩ ?_));refine AWP.ret ⟨.inr rfl,zat rfl trivial rfl rfl ?_⟩;rfl
def bigN (n:Nd):Bool:=decide (((n.2.2.2.2.2.2.1.length:Nat):Int) > 64)||decide (((n.2.2.2.2.2.2.2.1.length:Nat):Int) > 32)
def cBigN:Ctr:={ args:=[nd],pre:=fun _=>[],res:=.bool,own:=none,out:=fun x=>bigN x.1 }
theorem ztR:CtrOk Tryz.prog gmH 70 cBigN:=by
 refine zan (K:=gmK) zai Tryz.func70 rfl rfl Tryz.call70 rfl (by decide) (by intro h;cases h) ?_;rintro w0 X hX ⟨(n:Nd),_⟩ hp;change AWP _ _ _ _ _ ⟨[(0,⟨nd,n⟩)],[],0⟩ _;(repeat(first|apply zae|apply zac|apply zab|apply zad));refine zaa hX zai rfl ?_ ?_
 ·trivial
 (repeat(first|apply zae|apply zac|apply zab|apply zad));refine zaa hX zai rfl ?_ ?_
 ·repeat'(first|exact trivial|assumption|(refine⟨?_,?_⟩)|(intro _))
 refine AWP.ret ⟨.inr rfl,zat rfl trivial rfl rfl ?_⟩;show (bif decide (((n.2.2.2.2.2.2.1.length:Nat):Int) > 64) then true else decide (((n.2.2.2.2.2.2.2.1.length:Nat):Int) > 32))=bigN n;unfold bigN;cases decide (((n.2.2.2.2.2.2.1.length:Nat):Int) > 64)<;>rfl
def litN:Value:=.func (.func 70) #[] #[]
def litU:Value:=.func (.func 124) #[] #[]
def cIdxR:Ctr:={ args:=[.slice nd,.lit],pre:=fun x=>[x.2.1=litN],res:=i64,own:=none,out:=fun x=>idx bigN x.1 }
def kIdxR:Kn:={ gmK with C:=[(70,cBigN)] }
theorem zb6:KnOk Tryz.prog gmH kIdxR:=zai.with (.cons ztR .nil)
theorem ztb:CtrOk Tryz.prog gmH 118 cIdxR:=by
 refine zan (K:=kIdxR) zb6 Tryz.func118 rfl rfl Tryz.call118 rfl (by decide) (by intro h;cases h) ?_;rintro w0 X hX ⟨(l:List Nd),(f:Value),_⟩ hp;obtain rfl:f=litN:=hp;change AWP _ _ _ _ _ ⟨[(0,⟨.slice nd,l⟩),(1,⟨.lit,litN⟩)],[],0⟩ _;refine AWP.len 0 rfl fun hl=>?_;unfold maxLen at hl;(repeat(first|apply zae|apply zac|apply zak|apply zad|apply zab|refine zaa hX zb6 rfl trivial ?_|refine zaa hX zb6 rfl id ?_|refine zaa hX zb6 rfl ⟨id,id⟩ ?_));refine AWP.loop (ι:=Nat) (fun k=>⟨[(0,⟨.slice nd,l⟩),(1,⟨.lit,litN⟩),(7,⟨i64,((l.length:Nat):Int)⟩),(8,⟨i64,(k:Int)⟩)],[],0⟩) (fun k=>k≤l.length∧∀ j (hj:j < l.length),j < k->bigN l[j]=false) (fun k=>l.length - k) 0 ⟨by omega,by omega⟩ ⟨⟨rfl,rfl,rfl,rfl,trivial⟩,trivial,rfl,rfl⟩ ?_;rintro k ⟨hk,hn⟩;(repeat(first|apply zae|apply zac|apply zab|apply zad));refine zaa hX zb6 rfl ?_ ?_
 ·trivial
 apply zae;refine zaf rfl (fun hb=>?_) (fun hb=>?_)
 ·have hb:decide ((k:Int) < (l.length:Nat))=true:=hb;have hb:=of_decide_eq_true hb;have hlt:k < l.length:=by omega
  have n0:(0:Int)≤(k:Int):=by omega
  (repeat(first|apply zae|apply zac|apply zab|apply zad));refine zaa hX zb6 rfl ?_ ?_
  ·trivial
  (repeat(first|apply zae|apply zac|apply zab|apply zad));refine zaa hX zb6 rfl ?_ ?_
  ·exact⟨n0,hb⟩
  refine zaf rfl (fun hb=>?_) (fun hb=>?_)
  ·have hc:bigN (l.getD (k:Int).toNat zNd)=true:=hb;rw[za0 hlt]at hc;(repeat(first|apply zae|apply zac|apply zak|apply zad|apply zab|refine zaa hX zb6 rfl trivial ?_|refine zaa hX zb6 rfl id ?_|refine zaa hX zb6 rfl ⟨id,id⟩ ?_));refine AWP.ret ⟨.inr rfl,zat rfl trivial rfl rfl ?_⟩;show (k:Int)=idx _ l;exact (zmb hlt hc fun j hj=>hn j _ hj).symm
  ·have hc:bigN (l.getD (k:Int).toNat zNd)=false:=hb;rw[za0 hlt]at hc;(repeat(first|apply zae|apply zac|apply zab|apply zad));refine zaa hX zb6 rfl ?_ ?_
   ·exact zaF (by omega)
   exact⟨k+1,⟨by omega,fun j hj hlt=>by
    by_cases e:j=k
    ·subst e;exact hc
    ·exact hn j hj (by omega)⟩,by omega,⟨rfl,rfl,rfl,zcg _,trivial⟩,trivial,rfl,rfl⟩
 ·have hb:decide ((k:Int) < (l.length:Nat))=false:=hb;have hb:=of_decide_eq_false hb;have:k=l.length:=by omega
  subst this;(repeat(first|apply zae|apply zac|apply zak|apply zad|apply zab|refine zaa hX zb6 rfl trivial ?_|refine zaa hX zb6 rfl id ?_|refine zaa hX zb6 rfl ⟨id,id⟩ ?_));refine AWP.ret ⟨.inr rfl,zat rfl trivial rfl rfl ?_⟩;show (-1:Int)=idx _ l;exact (zmc fun j hj=>hn j hj hj).symm
def cAnyR:Ctr:={ args:=[.slice nd,.lit],pre:=fun x=>[x.2.1=litN],res:=.bool,own:=none,out:=fun x=>List.any x.1 bigN }
def kAnyR:Kn:={ gmK with C:=[(118,cIdxR)] }
theorem zfF:KnOk Tryz.prog gmH kAnyR:=zai.with (.cons ztb .nil)
theorem ztY:CtrOk Tryz.prog gmH 71 cAnyR:=by
 refine zan (K:=kAnyR) zfF Tryz.func71 rfl rfl Tryz.call71 rfl (by decide) (by intro h;cases h) ?_;rintro w0 X hX ⟨(l:List Nd),(f:Value),_⟩ hp;obtain rfl:f=litN:=hp;change AWP _ _ _ _ _ ⟨[(0,⟨.slice nd,l⟩),(1,⟨.lit,litN⟩)],[],0⟩ _;(repeat(first|apply zae|apply zac|apply zak|apply zad|apply zab|refine zaa hX zfF rfl trivial ?_|refine zaa hX zfF rfl id ?_|refine zaa hX zfF rfl ⟨id,id⟩ ?_));(repeat(first|apply zae|apply zac|apply zab|apply zad));refine zaa hX zfF rfl ?_ ?_
 ·exact rfl
 refine AWP.ret ⟨.inr rfl,zat rfl trivial rfl rfl ?_⟩;exact zpj _ l
def cIdxU:Ctr:={ args:=[.slice i64,.lit],pre:=fun x=>[x.2.1=litU],res:=i64,own:=none,out:=fun x=>idx not1 x.1 }
def kIdxU:Kn:={ gmK with C:=[(124,cNot1)] }
theorem zb5:KnOk Tryz.prog gmH kIdxU:=zai.with (.cons zsP .nil)
theorem zta:CtrOk Tryz.prog gmH 157 cIdxU:=by
 refine zan (K:=kIdxU) zb5 Tryz.func157 rfl rfl Tryz.call157 rfl (by decide) (by intro h;cases h) ?_;rintro w0 X hX ⟨(l:List Int),(f:Value),_⟩ hp;obtain rfl:f=litU:=hp;change AWP _ _ _ _ _ ⟨[(0,⟨.slice i64,l⟩),(1,⟨.lit,litU⟩)],[],0⟩ _;refine AWP.len 0 rfl fun hl=>?_;unfold maxLen at hl;(repeat(first|apply zae|apply zac|apply zak|apply zad|apply zab|refine zaa hX zb5 rfl trivial ?_|refine zaa hX zb5 rfl id ?_|refine zaa hX zb5 rfl ⟨id,id⟩ ?_));refine AWP.loop (ι:=Nat) (fun k=>⟨[(0,⟨.slice i64,l⟩),(1,⟨.lit,litU⟩),(7,⟨i64,((l.length:Nat):Int)⟩),(8,⟨i64,(k:Int)⟩)],[],0⟩) (fun k=>k≤l.length∧∀ j (hj:j < l.length),j < k->not1 l[j]=false) (fun k=>l.length - k) 0 ⟨by omega,by omega⟩ ⟨⟨rfl,rfl,rfl,rfl,trivial⟩,trivial,rfl,rfl⟩ ?_;rintro k ⟨hk,hn⟩;(repeat(first|apply zae|apply zac|apply zab|apply zad));refine zaa hX zb5 rfl ?_ ?_
 ·trivial
 apply zae;refine zaf rfl (fun hb=>?_) (fun hb=>?_)
 ·have hb:decide ((k:Int) < (l.length:Nat))=true:=hb;have hb:=of_decide_eq_true hb;have hlt:k < l.length:=by omega
  have n0:(0:Int)≤(k:Int):=by omega
  (repeat(first|apply zae|apply zac|apply zab|apply zad));refine zaa hX zb5 rfl ?_ ?_
  ·trivial
  (repeat(first|apply zae|apply zac|apply zab|apply zad));refine zaa hX zb5 rfl ?_ ?_
  ·exact⟨n0,hb⟩
  refine zaf rfl (fun hb=>?_) (fun hb=>?_)
  ·have hc:not1 (l.getD (k:Int).toNat (0:Int))=true:=hb;rw[za0 hlt]at hc;(repeat(first|apply zae|apply zac|apply zak|apply zad|apply zab|refine zaa hX zb5 rfl trivial ?_|refine zaa hX zb5 rfl id ?_|refine zaa hX zb5 rfl ⟨id,id⟩ ?_));refine AWP.ret ⟨.inr rfl,zat rfl trivial rfl rfl ?_⟩;show (k:Int)=idx _ l;exact (zmb hlt hc fun j hj=>hn j _ hj).symm
  ·have hc:not1 (l.getD (k:Int).toNat (0:Int))=false:=hb;rw[za0 hlt]at hc;(repeat(first|apply zae|apply zac|apply zab|apply zad));refine zaa hX zb5 rfl ?_ ?_
   ·exact zaF (by omega)
   exact⟨k+1,⟨by omega,fun j hj hlt=>by
    by_cases e:j=k
    ·subst e;exact hc
    ·exact hn j hj (by omega)⟩,by omega,⟨rfl,rfl,rfl,zcg _,trivial⟩,trivial,rfl,rfl⟩
 ·have hb:decide ((k:Int) < (l.length:Nat))=false:=hb;have hb:=of_decide_eq_false hb;have:k=l.length:=by omega
  subst this;(repeat(first|apply zae|apply zac|apply zak|apply zad|apply zab|refine zaa hX zb5 rfl trivial ?_|refine zaa hX zb5 rfl id ?_|refine zaa hX zb5 rfl ⟨id,id⟩ ?_));refine AWP.ret ⟨.inr rfl,zat rfl trivial rfl rfl ?_⟩;show (-1:Int)=idx _ l;exact (zmc fun j hj=>hn j hj hj).symm
def cAnyU:Ctr:={ args:=[.slice i64,.lit],pre:=fun x=>[x.2.1=litU],res:=.bool,own:=none,out:=fun x=>List.any x.1 not1 }
def kAnyU:Kn:={ gmK with C:=[(157,cIdxU)] }
theorem zfE:KnOk Tryz.prog gmH kAnyU:=zai.with (.cons zta .nil)
theorem ztX:CtrOk Tryz.prog gmH 123 cAnyU:=by
 refine zan (K:=kAnyU) zfE Tryz.func123 rfl rfl Tryz.call123 rfl (by decide) (by intro h;cases h) ?_;rintro w0 X hX ⟨(l:List Int),(f:Value),_⟩ hp;obtain rfl:f=litU:=hp;change AWP _ _ _ _ _ ⟨[(0,⟨.slice i64,l⟩),(1,⟨.lit,litU⟩)],[],0⟩ _;(repeat(first|apply zae|apply zac|apply zak|apply zad|apply zab|refine zaa hX zfE rfl trivial ?_|refine zaa hX zfE rfl id ?_|refine zaa hX zfE rfl ⟨id,id⟩ ?_));(repeat(first|apply zae|apply zac|apply zab|apply zad));refine zaa hX zfE rfl ?_ ?_
 ·exact rfl
 refine AWP.ret ⟨.inr rfl,zat rfl trivial rfl rfl ?_⟩;exact zpj _ l
def zgJ (b:Int×Int×Unit):Bool:=b.1==0&&b.2.1==0
def zee (l:List Int) (b:Int×Int×Unit) (i:Nat):Bool:=!inB (l.getD i 0) b.1 b.2.1||(decide (0 < i)&&decide (l.getD i 0≤l.getD (i - 1) 0))||(l.getD i 0==0&&decide (b.1 < 0))
def zaI (l:List Int) (b:Int×Int×Unit):Bool:=bif zgJ b then ((l.length:Nat):Int)==0 else (List.range l.length).all (fun i=>!zee l b i)&&decide (((l.length:Nat):Int) > 0)
theorem zl4 (b:Int×Int×Unit):eqb lims b (0,0,())=zgJ b:=by
 obtain⟨x,y,⟨⟩⟩:=b;unfold zgJ;rw[Bool.eq_iff_iff,zbv,Bool.and_eq_true,beq_iff_eq,beq_iff_eq];exact⟨fun h=>⟨congrArg (fun z=>z.1) h,congrArg (fun z=>z.2.1) h⟩,fun⟨h1,h2⟩=>by
  have h1:x=0:=h1;have h2:y=0:=h2;rw[h1,h2]⟩
def zpP:Ctr:={ args:=[ints,lims],pre:=fun _=>[],res:=.bool,own:=none,out:=fun x=>zaI x.1 x.2.1 }
def kVl:Kn:={ gmK with C:=[(119,zbr)] }
theorem zaZ:KnOk Tryz.prog gmH kVl:=zai.with (.cons zjC .nil)
theorem zoU:CtrOk Tryz.prog gmH 121 zpP:=by
 refine zan (K:=kVl) zaZ Tryz.func121 rfl rfl Tryz.call121 rfl (by decide) (by intro h;cases h) ?_;rintro w0 X hX ⟨(l:List Int),(b:Int×Int×Unit),_⟩ hp;change AWP _ _ _ _ _ ⟨[(0,⟨ints,l⟩),(1,⟨lims,b⟩)],[],0⟩ _;refine AWP.len 0 rfl fun hl=>?_;unfold maxLen at hl;apply zae;(repeat(first|apply zae|apply zac|apply zab|apply zad));refine zaa hX zaZ rfl ?_ ?_
 ·trivial
 (repeat(first|apply zae|apply zac|apply zab|apply zad));refine zaa hX zaZ rfl ?_ ?_
 ·trivial
 refine zaf rfl (fun hb=>?_) (fun hb=>?_)
 ·have hb:zgJ b=true:=by rw[<-zl4];exact hb
  (repeat(first|apply zae|apply zac|apply zak|apply zad|apply zab|refine zaa hX zaZ rfl trivial ?_|refine zaa hX zaZ rfl id ?_|refine zaa hX zaZ rfl ⟨id,id⟩ ?_));refine AWP.ret ⟨.inr rfl,zat rfl trivial rfl rfl ?_⟩;show _=zaI l b;unfold zaI;rw[hb];rfl
 have hb:zgJ b=false:=by rw[<-zl4];exact hb
 (repeat(first|apply zae|apply zac|apply zak|apply zad|apply zab|refine zaa hX zaZ rfl trivial ?_|refine zaa hX zaZ rfl id ?_|refine zaa hX zaZ rfl ⟨id,id⟩ ?_));refine AWP.loop (ι:=Nat) (fun k=>⟨[(0,⟨ints,l⟩),(3,⟨.optr lims,⟨0,lims,.here⟩⟩),(13,⟨ints,l⟩),(14,⟨i64,((l.length:Nat):Int)⟩),(15,⟨i64,(k:Int)⟩)],[(0,some (.box lims b))],1⟩) (fun k=>k≤l.length∧∀ j,j < k->zee l b j=false) (fun k=>l.length - k) 0 ⟨by omega,by omega⟩ ⟨⟨rfl,rfl,rfl,rfl,rfl,trivial⟩,⟨rfl,trivial⟩,rfl,rfl⟩ ?_;rintro k ⟨hk,hn⟩;(repeat(first|apply zae|apply zac|apply zab|apply zad));refine zaa hX zaZ rfl ?_ ?_
 ·trivial
 apply zae;refine zaf rfl (fun hb=>?_) (fun hb=>?_)
 ·have hb:decide ((k:Int) < (l.length:Nat))=true:=hb;have hb:=of_decide_eq_true hb;have hlt:k < l.length:=by omega
  have n0:(0:Int)≤(k:Int):=by omega
  (repeat(first|apply zae|apply zac|apply zab|apply zad));refine zaa hX zaZ rfl ?_ ?_
  ·exact⟨n0,hb⟩
  (repeat(first|apply zae|apply zac|apply zab|apply zad));refine zaa hX zaZ rfl ?_ ?_
  ·have i1:inR .i64 ((k:Int) - 1):=zar (by omega) (by omega);have i2:(k:Int) - 1 < (l.length:Nat):=by omega
   have i3:decide ((k:Int) > 0)=true->0≤(k:Int) - 1:=fun h=>by have:=of_decide_eq_true h;omega
   cases zbr.out (l.getD ((k:Int)).toNat (zaA i64),b.fst,b.snd.fst,())<;>cases hD:decide ((k:Int) > 0)<;>cases (l.getD ((k:Int)).toNat (zaA i64)==0)<;>cases decide (l.getD ((k:Int)).toNat (zaA i64)≤l.getD ((k:Int) - 1).toNat (zaA i64))
   all_goals
    repeat'(first|exact trivial|assumption|exact i3 hD|rfl|(intro h;exact absurd h Bool.false_ne_true)|(refine⟨?_,?_⟩)|(intro _))
  have hq:decide ((k:Int) > 0)=decide (0 < k):=by rw[Bool.eq_iff_iff,decide_eq_true_iff,decide_eq_true_iff];omega
  have hq':((k:Int) - 1).toNat=k - 1:=by omega
  refine zaf rfl (fun hb=>?_) (fun hb=>?_)
  ·have hc:zee l b k=true:=by
    rw[<-hb];unfold zee;rw[<-hq, <-hq'];show (!zbr.out (l.getD ((k:Int)).toNat (zaA i64),b.fst,b.snd.fst,())||(decide ((k:Int) > 0)&&decide (l.getD ((k:Int)).toNat (zaA i64)≤l.getD ((k:Int) - 1).toNat (zaA i64)))||((l.getD ((k:Int)).toNat (zaA i64)==0)&&decide (b.1 < 0)))=_;cases zbr.out (l.getD ((k:Int)).toNat (zaA i64),b.fst,b.snd.fst,())<;>cases hD:decide ((k:Int) > 0)<;>cases (l.getD ((k:Int)).toNat (zaA i64)==0)<;>cases decide (l.getD ((k:Int)).toNat (zaA i64)≤l.getD ((k:Int) - 1).toNat (zaA i64))<;>cases decide (b.1 < 0)<;>rfl
   (repeat(first|apply zae|apply zac|apply zak|apply zad|apply zab|refine zaa hX zaZ rfl trivial ?_|refine zaa hX zaZ rfl id ?_|refine zaa hX zaZ rfl ⟨id,id⟩ ?_));refine AWP.ret ⟨.inr rfl,zat rfl trivial rfl rfl ?_⟩;show false=zaI l b;unfold zaI;rw[‹zgJ b=false›,show (List.range l.length).all (fun i=>!zee l b i)=false from ?_]
   ·rfl
   ·rw[Bool.eq_false_iff];intro ha;have:=List.all_eq_true.1 ha k (List.mem_range.2 hlt);rw[hc]at this;cases this
  ·have hc:zee l b k=false:=by
    rw[<-hb];unfold zee;rw[<-hq, <-hq'];show (!zbr.out (l.getD ((k:Int)).toNat (zaA i64),b.fst,b.snd.fst,())||(decide ((k:Int) > 0)&&decide (l.getD ((k:Int)).toNat (zaA i64)≤l.getD ((k:Int) - 1).toNat (zaA i64)))||((l.getD ((k:Int)).toNat (zaA i64)==0)&&decide (b.1 < 0)))=_;cases zbr.out (l.getD ((k:Int)).toNat (zaA i64),b.fst,b.snd.fst,())<;>cases hD:decide ((k:Int) > 0)<;>cases (l.getD ((k:Int)).toNat (zaA i64)==0)<;>cases decide (l.getD ((k:Int)).toNat (zaA i64)≤l.getD ((k:Int) - 1).toNat (zaA i64))<;>cases decide (b.1 < 0)<;>rfl
   (repeat(first|apply zae|apply zac|apply zab|apply zad));refine zaa hX zaZ rfl ?_ ?_
   ·exact zaF (by omega)
   exact⟨k+1,⟨by omega,fun j hj=>by
    by_cases e:j=k
    ·subst e;exact hc
    ·exact hn j (by omega)⟩,by omega,⟨rfl,rfl,rfl,rfl,zcg _,trivial⟩,⟨rfl,trivial⟩,rfl,rfl⟩
 ·have hb:decide ((k:Int) < (l.length:Nat))=false:=hb;have hb:=of_decide_eq_false hb;have:k=l.length:=by omega
  subst this;(repeat(first|apply zae|apply zac|apply zak|apply zad|apply zab|refine zaa hX zaZ rfl trivial ?_|refine zaa hX zaZ rfl id ?_|refine zaa hX zaZ rfl ⟨id,id⟩ ?_));refine AWP.ret ⟨.inr rfl,zat rfl trivial rfl rfl ?_⟩;show _=zaI l b;unfold zaI;rw[‹zgJ b=false›,show (List.range l.length).all (fun i=>!zee l b i)=true from List.all_eq_true.2 fun i hi=>by rw[hn i (List.mem_range.1 hi)];rfl];rfl
def zbB (n:Nd):Bool:=
 bif n.1==1 then bif inB n.2.2.2.2.1 1 1099511627776 then inB n.2.2.2.2.2.1 0 1099511627776 else false
 else bif n.1==2 then bif inB n.2.2.2.2.1 1 400 then inB n.2.2.2.2.2.1 0 (n.2.2.2.2.1 - 1) else false
 else bif n.1==7 then bif (bif (bif inB n.2.2.2.2.1 (-60) 60 then !(n.2.2.2.2.1==0) else false) then inB n.2.2.2.2.2.1 0 6 else false) then inB n.2.2.1 0 1 else false
 else bif n.1==11 then bif inB n.2.2.2.2.1 (-1099511627776) 1099511627776 then n.2.2.2.2.2.1==0 else false
 else bif (n.1==12)||(n.1==13) then bif inB n.2.2.2.2.1 0 1099511627776 then n.2.2.2.2.2.1==0 else false
 else bif n.1==16 then bif n.2.2.2.2.1==0 then inB n.2.2.2.2.2.1 0 1 else false
 else bif n.1==17 then bif inB n.2.2.2.2.1 1 400 then n.2.2.2.2.2.1==0 else false
 else bif n.2.2.2.2.1==0 then n.2.2.2.2.2.1==0 else false
def zrG:Ctr:={ args:=[nd],pre:=fun _=>[],res:=.bool,own:=none,out:=fun x=>zbB x.1 }
theorem zsN:CtrOk Tryz.prog gmH 122 zrG:=by
 refine zan (K:=kVl) zaZ Tryz.func122 rfl rfl Tryz.call122 rfl (by decide) (by intro h;cases h) ?_;rintro w0 X hX ⟨(n:Nd),_⟩ hp;change AWP _ _ _ _ _ ⟨[(0,⟨nd,n⟩)],[],0⟩ _;apply zae;(repeat(first|apply zae|apply zac|apply zab|apply zad));refine zaa hX zaZ rfl ?_ ?_
 ·trivial
 (repeat(first|apply zae|apply zac|apply zab|apply zad));refine zaa hX zaZ rfl ?_ ?_
 ·trivial
 (repeat(first|apply zae|apply zac|apply zab|apply zad));refine zaa hX zaZ rfl ?_ ?_
 ·trivial
 refine zaf rfl (fun h1=>?_) (fun h1=>?_)
 ·have h1:(n.1==1)=true:=h1;(repeat(first|apply zae|apply zac|apply zab|apply zad));refine zaa hX zaZ rfl ?_ ?_
  ·have i0:zbr.out (n.2.2.2.2.1,(1:Int),(400:Int),())=true->inR .i64 (n.2.2.2.2.1 - 1):=fun h=>by
    have h:inB n.2.2.2.2.1 1 400=true:=h;unfold inB at h;rw[Bool.and_eq_true,decide_eq_true_iff,decide_eq_true_iff]at h;exact zar (by omega) (by omega)
   cases hA:zbr.out (n.2.2.2.2.1,(1:Int),(1099511627776:Int),())
   all_goals
    repeat'(first|exact trivial|assumption|rfl|exact i0 rfl|exact i0 hA|(intro h;exact absurd h Bool.false_ne_true)|(refine⟨?_,?_⟩)|(intro _))
  refine AWP.ret ⟨.inr rfl,zat rfl trivial rfl rfl ?_⟩;show _=zbB n;simp only[zbB,h1,cond_true,cond_false,Bool.or_true,Bool.true_or,Bool.or_false,Bool.false_or]
  all_goals (first|rfl|(simp;done))
 have h1:(n.1==1)=false:=h1;(repeat(first|apply zae|apply zac|apply zab|apply zad));refine zaa hX zaZ rfl ?_ ?_
 ·trivial
 refine zaf rfl (fun h2=>?_) (fun h2=>?_)
 ·have h2:(n.1==2)=true:=h2;(repeat(first|apply zae|apply zac|apply zab|apply zad));refine zaa hX zaZ rfl ?_ ?_
  ·have i0:zbr.out (n.2.2.2.2.1,(1:Int),(400:Int),())=true->inR .i64 (n.2.2.2.2.1 - 1):=fun h=>by
    have h:inB n.2.2.2.2.1 1 400=true:=h;unfold inB at h;rw[Bool.and_eq_true,decide_eq_true_iff,decide_eq_true_iff]at h;exact zar (by omega) (by omega)
   cases hA:zbr.out (n.2.2.2.2.1,(1:Int),(400:Int),())
   all_goals
    repeat'(first|exact trivial|assumption|rfl|exact i0 rfl|exact i0 hA|(intro h;exact absurd h Bool.false_ne_true)|(refine⟨?_,?_⟩)|(intro _))
  refine AWP.ret ⟨.inr rfl,zat rfl trivial rfl rfl ?_⟩;show _=zbB n;simp only[zbB,h1,h2,cond_true,cond_false,Bool.or_true,Bool.true_or,Bool.or_false,Bool.false_or]
  all_goals (first|rfl|(simp;done))
 have h2:(n.1==2)=false:=h2;(repeat(first|apply zae|apply zac|apply zab|apply zad));refine zaa hX zaZ rfl ?_ ?_
 ·trivial
 refine zaf rfl (fun h7=>?_) (fun h7=>?_)
 ·have h7:(n.1==7)=true:=h7;(repeat(first|apply zae|apply zac|apply zab|apply zad));refine zaa hX zaZ rfl ?_ ?_
  ·have i0:zbr.out (n.2.2.2.2.1,(1:Int),(400:Int),())=true->inR .i64 (n.2.2.2.2.1 - 1):=fun h=>by
    have h:inB n.2.2.2.2.1 1 400=true:=h;unfold inB at h;rw[Bool.and_eq_true,decide_eq_true_iff,decide_eq_true_iff]at h;exact zar (by omega) (by omega)
   cases hA:zbr.out (n.2.2.2.2.1,(-60:Int),(60:Int),())<;>cases (n.2.2.2.2.1==0)<;>cases zbr.out (n.2.2.2.2.2.1,(0:Int),(6:Int),())
   all_goals
    repeat'(first|exact trivial|assumption|rfl|exact i0 rfl|exact i0 hA|(intro h;exact absurd h Bool.false_ne_true)|(refine⟨?_,?_⟩)|(intro _))
  refine AWP.ret ⟨.inr rfl,zat rfl trivial rfl rfl ?_⟩;show _=zbB n;simp only[zbB,h1,h2,h7,cond_true,cond_false,Bool.or_true,Bool.true_or,Bool.or_false,Bool.false_or]
  all_goals (first|rfl|(simp;done))
 have h7:(n.1==7)=false:=h7;(repeat(first|apply zae|apply zac|apply zab|apply zad));refine zaa hX zaZ rfl ?_ ?_
 ·trivial
 refine zaf rfl (fun h11=>?_) (fun h11=>?_)
 ·have h11:(n.1==11)=true:=h11;(repeat(first|apply zae|apply zac|apply zab|apply zad));refine zaa hX zaZ rfl ?_ ?_
  ·have i0:zbr.out (n.2.2.2.2.1,(1:Int),(400:Int),())=true->inR .i64 (n.2.2.2.2.1 - 1):=fun h=>by
    have h:inB n.2.2.2.2.1 1 400=true:=h;unfold inB at h;rw[Bool.and_eq_true,decide_eq_true_iff,decide_eq_true_iff]at h;exact zar (by omega) (by omega)
   cases hA:zbr.out (n.2.2.2.2.1,(-1099511627776:Int),(1099511627776:Int),())
   all_goals
    repeat'(first|exact trivial|assumption|rfl|exact i0 rfl|exact i0 hA|(intro h;exact absurd h Bool.false_ne_true)|(refine⟨?_,?_⟩)|(intro _))
  refine AWP.ret ⟨.inr rfl,zat rfl trivial rfl rfl ?_⟩;show _=zbB n;simp only[zbB,h1,h2,h7,h11,cond_true,cond_false,Bool.or_true,Bool.true_or,Bool.or_false,Bool.false_or]
  all_goals (first|rfl|(simp;done))
 have h11:(n.1==11)=false:=h11;(repeat(first|apply zae|apply zac|apply zab|apply zad));refine zaa hX zaZ rfl ?_ ?_
 ·trivial
 refine AWP.viaQ (σ':=⟨[(1,⟨.optr nd,⟨0,nd,.here⟩⟩),(4,⟨i64,n.1⟩),(58,⟨.bool,(n.1==12)||(n.1==13)⟩)],[(0,some (.box nd n))],1⟩) ?_ ?_
 ·refine zaf rfl (fun h=>?_) (fun h=>?_)
  ·have h:(n.1==12)=true:=h;apply zac;rw[h];exact⟨⟨rfl,rfl,rfl,trivial⟩,⟨rfl,trivial⟩,rfl,rfl⟩
  ·have h:(n.1==12)=false:=h;(repeat(first|apply zae|apply zac|apply zab|apply zad));refine zaa hX zaZ rfl ?_ ?_
   ·trivial
   rw[h];exact⟨⟨rfl,rfl,rfl,trivial⟩,⟨rfl,trivial⟩,rfl,rfl⟩
 refine zaf rfl (fun h12=>?_) (fun h12=>?_)
 ·have h12:((n.1==12)||(n.1==13))=true:=h12;(repeat(first|apply zae|apply zac|apply zab|apply zad));refine zaa hX zaZ rfl ?_ ?_
  ·have i0:zbr.out (n.2.2.2.2.1,(1:Int),(400:Int),())=true->inR .i64 (n.2.2.2.2.1 - 1):=fun h=>by
    have h:inB n.2.2.2.2.1 1 400=true:=h;unfold inB at h;rw[Bool.and_eq_true,decide_eq_true_iff,decide_eq_true_iff]at h;exact zar (by omega) (by omega)
   cases hA:zbr.out (n.2.2.2.2.1,(0:Int),(1099511627776:Int),())
   all_goals
    repeat'(first|exact trivial|assumption|rfl|exact i0 rfl|exact i0 hA|(intro h;exact absurd h Bool.false_ne_true)|(refine⟨?_,?_⟩)|(intro _))
  refine AWP.ret ⟨.inr rfl,zat rfl trivial rfl rfl ?_⟩;show _=zbB n;simp only[zbB,h1,h2,h7,h11,h12,cond_true,cond_false,Bool.or_true,Bool.true_or,Bool.or_false,Bool.false_or]
  all_goals (first|rfl|(simp;done))
 have h12:((n.1==12)||(n.1==13))=false:=h12;(repeat(first|apply zae|apply zac|apply zab|apply zad));refine zaa hX zaZ rfl ?_ ?_
 ·trivial
 refine zaf rfl (fun h16=>?_) (fun h16=>?_)
 ·have h16:(n.1==16)=true:=h16;(repeat(first|apply zae|apply zac|apply zab|apply zad));refine zaa hX zaZ rfl ?_ ?_
  ·have i0:zbr.out (n.2.2.2.2.1,(1:Int),(400:Int),())=true->inR .i64 (n.2.2.2.2.1 - 1):=fun h=>by
    have h:inB n.2.2.2.2.1 1 400=true:=h;unfold inB at h;rw[Bool.and_eq_true,decide_eq_true_iff,decide_eq_true_iff]at h;exact zar (by omega) (by omega)
   cases hA:(n.2.2.2.2.1==0)
   all_goals
    repeat'(first|exact trivial|assumption|rfl|exact i0 rfl|exact i0 hA|(intro h;exact absurd h Bool.false_ne_true)|(refine⟨?_,?_⟩)|(intro _))
  refine AWP.ret ⟨.inr rfl,zat rfl trivial rfl rfl ?_⟩;show _=zbB n;simp only[zbB,h1,h2,h7,h11,h12,h16,cond_true,cond_false,Bool.or_true,Bool.true_or,Bool.or_false,Bool.false_or]
  all_goals (first|rfl|(simp;done))
 have h16:(n.1==16)=false:=h16;(repeat(first|apply zae|apply zac|apply zab|apply zad));refine zaa hX zaZ rfl ?_ ?_
 ·trivial
 refine zaf rfl (fun h17=>?_) (fun h17=>?_)
 ·have h17:(n.1==17)=true:=h17;(repeat(first|apply zae|apply zac|apply zab|apply zad));refine zaa hX zaZ rfl ?_ ?_
  ·have i0:zbr.out (n.2.2.2.2.1,(1:Int),(400:Int),())=true->inR .i64 (n.2.2.2.2.1 - 1):=fun h=>by
    have h:inB n.2.2.2.2.1 1 400=true:=h;unfold inB at h;rw[Bool.and_eq_true,decide_eq_true_iff,decide_eq_true_iff]at h;exact zar (by omega) (by omega)
   cases hA:zbr.out (n.2.2.2.2.1,(1:Int),(400:Int),())
   all_goals
    repeat'(first|exact trivial|assumption|rfl|exact i0 rfl|exact i0 hA|(intro h;exact absurd h Bool.false_ne_true)|(refine⟨?_,?_⟩)|(intro _))
  refine AWP.ret ⟨.inr rfl,zat rfl trivial rfl rfl ?_⟩;show _=zbB n;simp only[zbB,h1,h2,h7,h11,h12,h16,h17,cond_true,cond_false,Bool.or_true,Bool.true_or,Bool.or_false,Bool.false_or]
  all_goals (first|rfl|(simp;done))
 have h17:(n.1==17)=false:=h17;apply zac;(repeat(first|apply zae|apply zac|apply zab|apply zad));refine zaa hX zaZ rfl ?_ ?_
 ·have i0:zbr.out (n.2.2.2.2.1,(1:Int),(400:Int),())=true->inR .i64 (n.2.2.2.2.1 - 1):=fun h=>by
   have h:inB n.2.2.2.2.1 1 400=true:=h;unfold inB at h;rw[Bool.and_eq_true,decide_eq_true_iff,decide_eq_true_iff]at h;exact zar (by omega) (by omega)
  cases hA:(n.2.2.2.2.1==0)
  all_goals
   repeat'(first|exact trivial|assumption|rfl|exact i0 rfl|exact i0 hA|(intro h;exact absurd h Bool.false_ne_true)|(refine⟨?_,?_⟩)|(intro _))
 refine AWP.ret ⟨.inr rfl,zat rfl trivial rfl rfl ?_⟩;show _=zbB n;simp only[zbB,h1,h2,h7,h11,h12,h16,h17,cond_true,cond_false,Bool.or_true,Bool.true_or,Bool.or_false,Bool.false_or]
 all_goals (first|rfl|(simp;done))
section
variable {s:List UInt8}
def Er {α:Type} (s:List UInt8) (m:Except (Int×Int) α):Prop:=∀ er,m= .error er->0≤er.1∧er.1≤((s.length:Nat):Int)
theorem zaz {α β:Type} {m:Except (Int×Int) α} {f:α->Except (Int×Int) β} (h1:Er s m) (h2:∀ x,m= .ok x->Er s (f x)):Er s (m >>= f):=by
 intro er he;cases hm:m with
 |error e=>
  rw[hm]at he;have he:(.error e:Except (Int×Int) β)= .error er:=he;cases he;exact h1 _ hm
 |ok x=>
  rw[hm]at he;exact h2 x hm er he
theorem zdn {α:Type} {x:α}:Er s (.ok x:Except (Int×Int) α):=fun _ h=>by cases h
theorem zrq {α:Type} {st:GSt} {e:Int} (h:GOk s st):Er s (.error (Tok.at st.1,e):Except (Int×Int) α):=fun er he=>by
 cases he;obtain⟨⟨⟨a1,a2,a3⟩,_⟩,_⟩:=h;exact⟨a1,by show Tok.at st.1≤_;omega⟩
theorem zcb {st:GSt} {b:Bool} {e:Int} (h:GOk s st):Er s (zaE st b e):=by
 unfold zaE;split
 ·exact zdn
 ·exact zrq h
theorem zey {st:GSt} {w:List UInt8} (h:GOk s st):Er s (zaS s st w):=zaz (zcb h) fun _ _=>zdn
theorem zfN {st:GSt} (h:GOk s st):Er s (zbN s st):=zaz (zcb h) fun _ _=>zdn
theorem zbO {st:GSt} {lo hi:Int} (h:GOk s st):Er s (zaL s st lo hi):=zaz (zcb h) fun _ _=>zaz (zcb h) fun _ _=>zdn
theorem zmo {lo hi:Int} {z:Bool}:∀ (k:Nat) {st:GSt} {l:List Int},GOk s st->Er s (zb9 s lo hi z k st l)
 |0,_,_,h=>zrq h
 |k+1,st,l,h=>by
  unfold zb9;split
  ·exact zdn
  ·exact zaz (zcb h) fun _ _=>zaz (zcb h) fun _ _=>zaz (zcb h) fun _ _=>zaz (zbO h) fun p hp=>zmo k (zao h hp).1.1
theorem zjl {st:GSt} {lo hi:Int} {z:Bool} (h:GOk s st):Er s (zc4 s st lo hi z):=
 zaz (zey h) fun a ha=>zaz (zmo _ (zbk h ha).1) fun p hp=>zaz (zey (by
  rcases zhF _ (zbk h ha).1 hp with e|k
  ·rw[e];exact (zbk h ha).1
  ·exact k.1)) fun _ _=>zdn
theorem zmn {st:GSt} (h:GOk s st):Er s (zdy s st):=zaz (zcb h) fun _ _=>zdn
theorem ztw {st:GSt} (h:GOk s st):∀ w:LeafW,Er s (zde s st w)
 | .days=>zaz (zbO h) fun p hp=>zaz (zbO (zao h hp).1.1) fun _ _=>zdn
 | .years=>zaz (zbO h) fun p hp=>zaz (zbO (zao h hp).1.1) fun q hq=>zaz (zbO (zao (zao h hp).1.1 hq).1.1) fun _ _=>zdn
 | .months| .monthdays| .weeks=>zaz (zbO h) fun p hp=>zaz (zjl (zao h hp).1.1) fun _ _=>zdn
 | .weekdays=>zaz (zjl h) fun _ _=>zdn
 | .nth=>zaz (zbO h) fun p hp=>zaz (zcb (zao h hp).1.1) fun _ _=>zaz (zbO (zao h hp).1.1) fun q hq=>zaz (zbO (zao (zao h hp).1.1 hq).1.1) fun r hr=>zaz (zmn (zao (zao (zao h hp).1.1 hq).1.1 hr).1.1) fun _ _=>zdn
theorem zr1 {st:GSt} (h:GOk s st):∀ w:SufW,Er s (gSuf s st w)
 | .shift| .from_| .until_=>zaz (zbO h) fun _ _=>zdn
 | .also| .except_=>zaz (zjl h) fun _ _=>zdn
 | .pos=>zaz (zbO h) fun p hp=>zaz (zmn (zao h hp).1.1) fun q hq=>zaz (zjl (zdX (zao h hp).1.1 hq).1) fun _ _=>zdn
 | .behind=>zaz (zbO h) fun p hp=>zaz (zey (zao h hp).1.1) fun _ _=>zdn
theorem zdO {md:Md} {st st':GSt} (h:GOk s st) (k:Cons s st st' md):GOk s st':=by
 cases md with
 |bin i=>exact k.1
 |chain=>exact k.1
 |prim=>exact k.1
 |binL i t=>
  rcases k with rfl|k
  ·exact h
  ·exact k.1
 |chainL t=>
  rcases k with rfl|k
  ·exact h
  ·exact k.1
theorem zei:∀ (k:Nat) (md:Md) (st:GSt),GOk s st->Er s (prs s k md st)
 |0,_,_,h=>zrq h
 |k+1,.bin i,st,h=>by
  unfold prs;rw[za4];split
  ·exact zei k _ _ h
  ·exact zaz (zei k _ _ h) fun p hp=>zei k _ _ (zdO h (zbs k _ _ _ _ h hp))
 |k+1,.binL i t,st,h=>by
  unfold prs;rw[za4];split
  ·rename_i hi;refine zaz (zfN h) fun a ha=>?_;have k1:=zaQ h (zcO hi) ha;exact zaz (zei k _ _ k1.1) fun p hp=>zei k _ _ (zdO k1.1 (zbs k _ _ _ _ k1.1 hp))
  ·exact zdn
 |k+1,.chain,st,h=>by
  unfold prs;rw[za4];exact zaz (zei k _ _ h) fun p hp=>zei k _ _ (zdO h (zbs k _ _ _ _ h hp))
 |k+1,.chainL t,st,h=>by
  unfold prs;rw[za4];split
  ·rename_i hc;split
   ·exact zdn
   ·refine zaz (zfN h) fun a ha=>?_;have k1:=zaQ h (by rw[hc];decide) ha;refine zaz (zr1 k1.1 _) fun p hp=>?_;have k2:=zdd k1.1 _ hp;exact zaz (zei k _ _ k2.1) fun q hq=>zei k _ _ (zdO k2.1 (zbs k _ _ _ _ k2.1 hq))
   ·refine zaz (zfN h) fun a ha=>?_;have k1:=zaQ h (by rw[hc];decide) ha;refine zaz (zr1 k1.1 _) fun p hp=>?_;have k2:=zdd k1.1 _ hp;exact zei k _ _ k2.1
  ·exact zdn
 |k+1,.prim,st,h=>by
  unfold prs;rw[za4];split
  ·rename_i hi;have k0:=zca h (zcO hi);exact zaz (zei k _ _ k0.1) fun p hp=>zaz (zey (zdO k0.1 (zbs k _ _ _ _ k0.1 hp))) fun _ _=>zdn
  ·split
   ·exact zaz (zcb h) fun _ _=>zaz (zfN h) fun _ _=>zdn
   ·refine zaz (zcb h) fun u hu=>?_;have hc:=zaW hu;rw[beq_iff_eq]at hc;split
    ·exact zrq h
    ·refine zaz (zfN h) fun a ha=>?_;have k1:=zaQ h (by rw[hc];decide) ha;exact zaz (ztw k1.1 _) fun _ _=>zdn
theorem zpA {st:GSt} (h:GOk s st):Er s (zeb s st):=
 zaz (zei _ _ _ h) fun p hp=>zaz (zcb (zdO h (zbs _ _ _ _ _ h hp))) fun _ _=>zdn
end
abbrev Shp:=Int×Bool×(Int×Int×Unit)×Unit
def zcU:List Shp:=[(0,false,(0,0,()),()),(0,false,(0,0,()),()),(0,true,(0,0,()),()),(0,true,(1,16,()),()),(0,true,(-40,40,()),()),(0,false,(0,6,()),()),(0,true,(1,54,()),()),(0,true,(0,0,()),()),(2,false,(0,0,()),()),(2,false,(0,0,()),()),(2,false,(0,0,()),()),(1,false,(0,0,()),()),(1,false,(0,0,()),()),(1,false,(0,0,()),()),(1,false,(0,1099511627776,()),()),(1,false,(0,1099511627776,()),()),(1,true,(-400,400,()),()),(2,false,(0,0,()),()),(0,false,(0,0,()),())]
def zlD:Ctr:={ args:=[],pre:=fun _=>[],res:=.arr 19 shp,own:=none,out:=fun _=>zcU }
set_option maxHeartbeats 400000 in
theorem zjO:CtrOk Tryz.prog gmH 74 zlD:=by
 refine zan (K:=gmK) zai Tryz.func74 rfl rfl Tryz.call74 rfl (by decide) (by intro h;cases h) ?_;rintro w0 X hX _ hp;change AWP _ _ _ _ _ ⟨[],[],0⟩ _;apply zae;(repeat(first|apply zae|apply zac|apply zab|apply zad));refine zaa hX zai rfl ?_ ?_
 ·trivial
 (repeat(first|apply zae|apply zac|apply zab|apply zad));refine zaa hX zai rfl ?_ ?_
 ·trivial
 refine zaq (σ':=⟨[(0,⟨.optr (.arr 19 shp),⟨0,.arr 19 shp,.here⟩⟩)],[(0,some (.box (.arr 19 shp) zcU))],1⟩) ⟨⟨by kernel_rfl,trivial⟩,⟨by kernel_rfl,trivial⟩,rfl,rfl⟩ ?_;exact AWP.ret ⟨.inr rfl,zat rfl trivial rfl rfl rfl⟩
set_option maxRecDepth 10000
abbrev Tk:=Int×List UInt8×Int
def tkOf (t:TokT):Tk:=(Tok.cls t,Tok.text t,Tok.n t)
def Toks (s:List UInt8):Int->List Tk->Prop
 |o,[]=>Tok.cls (zc7 s o)=0
 |o,a::l=>Tok.cls (zc7 s o)≠0∧tkOf (zc7 s o)=a∧Toks s (Tok.at (zc7 s o)+Tok.size (zc7 s o)) l
def Sq (s:List UInt8) (t:TokT):List Tk->Prop
 | []=>Tok.cls t=0
 |a::l=>Tok.cls t≠0∧tkOf t=a∧Toks s (Tok.at t+Tok.size t) l
def tkIs (w:List UInt8):List Tk->Bool
 | []=>false
 |a::_=>((a.1==1)||(a.1==4))&&decide (a.2.1=w)
theorem okb {ε α β:Type} {e:Except ε α} {x:α} (h:e= .ok x) (f:α->Except ε β):(e >>= f)=f x:=by
 subst h;rfl
section
variable {s:List UInt8}
theorem zkZ {o:Int} {l:List Tk} (h:Toks s o l):Sq s (zc7 s o) l:=by
 cases l with
 |nil=>exact h
 |cons a l=>exact h
theorem zh2 {st:GSt} {l:List Tk} (h:Sq s st.1 l) (w:List UInt8):gIs st w=tkIs w l:=by
 cases l with
 |nil=>
  have h:Tok.cls st.1=0:=h;unfold gIs tkIs;rw[h];rfl
 |cons a l=>
  obtain⟨_,h2,_⟩:=h;unfold gIs tkIs;rw[<-h2];rfl
structure Got (s:List UInt8) (st:GSt) (k:Int) (l:List Tk) (st':GSt):Prop where
 ok:GOk s st'
 sq:Sq s st'.1 l
 n:st'.2=st.2+k
theorem Got.trans {a b c:GSt} {j k:Int} {l l':List Tk} (h:Got s a j l b) (h':Got s b k l' c):Got s a (j+k) l' c:=⟨h'.ok,h'.sq,by rw[h'.n,h.n];omega⟩
theorem Got.trans0 {a b c:GSt} {j:Int} {l l':List Tk} (h:Got s a j l b) (h':Got s b 0 l' c):Got s a j l' c:=⟨h'.ok,h'.sq,by rw[h'.n,h.n];omega⟩
theorem zqD {st:GSt} {a:Tk} {l:List Tk} (hg:GOk s st) (h:Sq s st.1 (a::l)):Got s st 0 l (gAdv s st):=
 ⟨(zca hg h.1).1,zkZ h.2.2,by show st.2=st.2+0;omega⟩
theorem zgT {st:GSt} {a:Tk} {l:List Tk} {w:List UInt8} (hg:GOk s st) (h:Sq s st.1 (a::l)) (hw:tkIs w (a::l)=true):zaS s st w= .ok (gAdv s st)∧Got s st 0 l (gAdv s st):=by
 refine⟨?_,zqD hg h⟩;unfold zaS zaE;rw[zh2 h,hw];rfl
theorem zi0 {st:GSt} {a:Tk} {l:List Tk} (hg:GOk s st) (h:Sq s st.1 (a::l)) (hn:st.2 < 64):zbN s st= .ok (gAdv s (st.1,st.2+1))∧Got s st 1 l (gAdv s (st.1,st.2+1)):=by
 refine⟨?_,?_,?_,rfl⟩
 ·unfold zbN zaE;rw[decide_eq_true hn];rfl
 ·exact (zca (st:=(st.1,st.2+1)) ⟨hg.1,by have:=hg.2;constructor<;>simp only[]<;>omega⟩ h.1).1
 ·exact zkZ h.2.2
def tkW (w:List UInt8):Tk:=(1,w,0)
def tkR (w:List UInt8):Tk:=(2,w,0)
def tkN (n:Int):Tk:=(3,deI n,n)
def tkS (c:UInt8):Tk:=(4,[c],0)
theorem zbx {st:GSt} {x lo hi:Int} {l:List Tk} (hg:GOk s st) (h:Sq s st.1 (tkN x::l)) (h1:lo≤x) (h2:x≤hi):zaL s st lo hi= .ok (x,gAdv s st)∧Got s st 0 l (gAdv s st):=by
 refine⟨?_,zqD hg h⟩;obtain⟨_,e,_⟩:=h;have e1:Tok.cls st.1=3:=congrArg (fun a=>a.1) e;have e2:Tok.n st.1=x:=congrArg (fun a=>a.2.2) e;unfold zaL zaE;rw[e1,e2,decide_eq_true h1,decide_eq_true h2];rfl
def Ris (lo hi:Int) (z:Bool):Int->List Int->Prop
 |_,[]=>True
 |last,x::r=>last < x∧lo≤x∧x≤hi∧(z=true∨x≠0)∧Ris lo hi z x r
theorem zou {lo hi:Int} {z:Bool} {l:List Tk}:∀ (xs:List Int) (k:Nat) (acc:List Int) (st:GSt),xs.length < k->(acc=[]->xs≠ [])->acc.length+xs.length≤64->Ris lo hi z (acc.getLast?.getD (lo - 1)) xs->GOk s st->Sq s st.1 (xs.map tkN++tkS 41::l)->
 ∃ st',zb9 s lo hi z k st acc= .ok (acc++xs,st')∧Got s st 0 (tkS 41::l) st'
 |_,0,_,_,hk,_,_,_,_,_=>by omega
 | [],k+1,acc,st,_,hne,_,_,hg,h=>by
  refine⟨st,?_,hg,h,by omega⟩;have hacc:acc≠ []:=fun e=>hne e rfl;have hc:gIs st zdg=true:=by rw[zh2 h];rfl
  unfold zb9;rw[hc,List.append_nil,if_pos (by cases acc with |nil=>exact absurd rfl hacc|cons _ _=>rfl)]
 |x::r,k+1,acc,st,hk,hne,hlen,hr,hg,h=>by
  obtain⟨r1,r2,r3,r4,r5⟩:=hr;simp only[List.length_cons]at hk hlen;have h:Sq s st.1 (tkN x::(r.map tkN++tkS 41::l)):=h;obtain⟨hn,hgot⟩:=zbx hg h r2 r3;obtain⟨_,e,_⟩:=id h;have e1:Tok.cls st.1=3:=congrArg (fun a=>a.1) e;have e2:Tok.n st.1=x:=congrArg (fun a=>a.2.2) e;have hc:gIs st zdg=false:=by rw[zh2 h];rfl
  have hl:(acc++ [x]).getLast?.getD (lo - 1)=x:=by rw[List.getLast?_append];rfl
  obtain⟨st',h1,h2⟩:=zou r k (acc++ [x]) (gAdv s st) (by omega) (fun e=>by simp at e) (by rw[List.length_append,List.length_singleton];omega) (by rw[hl];exact r5) hgot.ok hgot.sq;refine⟨st',?_,hgot.trans0 h2⟩;rw[List.append_assoc]at h1;unfold zb9;rw[hc,Bool.and_false,if_neg Bool.false_ne_true];have c1:zaE st (Tok.cls st.1==3) 3= .ok ():=by rw[e1];rfl
  have c2:zaE st (decide (acc.length < 64)) 2= .ok ():=by rw[decide_eq_true (by omega)];rfl
  have c3:zaE st (decide (Tok.n st.1 > acc.getLast?.getD (lo - 1))&&(z||(Tok.n st.1 != 0))) 1= .ok ():=by
   rw[e2,decide_eq_true r1];have:(z||(x != 0))=true:=by
    rcases r4 with rfl|r4
    ·rfl
    ·rw[Bool.or_eq_true];exact .inr (bne_iff_ne.2 r4)
   rw[this];rfl
  refine (okb c1 _).trans ((okb c2 _).trans ((okb c3 _).trans ((okb hn _).trans ?_)));exact h1
def zdh (l:List Int):List Tk:=tkS 40::(l.map tkN++ [tkS 41])
theorem zhl {lo hi:Int} {z:Bool} {xs:List Int} {l:List Tk} {st:GSt} (hne:xs≠ []) (hlen:xs.length≤64) (hr:Ris lo hi z (lo - 1) xs) (hg:GOk s st) (h:Sq s st.1 (zdh xs++l)):
 ∃ st',zc4 s st lo hi z= .ok (xs,st')∧Got s st 0 l st':=by
 have h:Sq s st.1 (tkS 40::(xs.map tkN++ [tkS 41]++l)):=h;obtain⟨e1,g1⟩:=zgT (w:=zfj) hg h rfl;obtain⟨s2,e2,g2⟩:=zou (lo:=lo) (hi:=hi) (z:=z) (l:=l) xs 66 [] (gAdv s st) (by omega) (fun _=>hne) (by simpa using hlen) hr g1.ok (by have:=g1.sq;rwa[List.append_assoc]at this);obtain⟨e3,g3⟩:=zgT (w:=zdg) g2.ok g2.sq rfl;refine⟨gAdv s s2,?_,(g1.trans0 g2).trans0 g3⟩;unfold zc4;exact (okb e1 _).trans ((okb e2 _).trans ((okb e3 _).trans rfl))
def zeo (n:Int):Tk:=tkW (if n=1 then zd1 else zig)
theorem zos {st:GSt} {x:Int} {l:List Tk} (hx:x=0∨x=1) (hg:GOk s st) (h:Sq s st.1 (zeo x::l)):zdy s st= .ok (x,gAdv s st)∧Got s st 0 l (gAdv s st):=by
 refine⟨?_,zqD hg h⟩;have i1:=zh2 h zig;have i2:=zh2 h zd1;obtain⟨_,e,_⟩:=h;have e1:Tok.text st.1=(zeo x).2.1:=congrArg (fun a=>a.2.1) e;unfold zdy zaE;rw[i1,i2,e1];rcases hx with rfl|rfl<;>rfl
end
def zkd (n:Nd):List Tk:=
 if ndK n=1 then [tkW ziK,tkN (ndN n),tkN (ndM n)]
 else if ndK n=2 then [tkW zfi,tkN (ndC n),tkN (ndN n),tkN (ndM n)]
 else if ndK n=3 then tkW zcy::tkN (ndC n)::zdh (ndI n)
 else if ndK n=4 then tkW za3::tkN (ndC n)::zdh (ndI n)
 else if ndK n=5 then tkW zbl::zdh (ndI n)
 else if ndK n=6 then tkW zdr::tkN (ndC n)::zdh (ndI n)
 else if ndK n=7 then [tkW wNth,tkN (ndC n),tkN (ndN n),tkN (ndM n),zeo (ndL n)]
 else if ndK n=18 then [tkR (ndS n)]
 else []
def ziN (b:List Tk) (n:Nd):List Tk:=
 if ndK n=11 then [tkW zeU,tkN (ndN n)]
 else if ndK n=12 then [tkW zhY,tkN (ndN n)]
 else if ndK n=13 then [tkW zeT,tkN (ndN n)]
 else if ndK n=14 then tkW ze2::zdh (ndI n)
 else if ndK n=15 then tkW zcz::zdh (ndI n)
 else if ndK n=16 then tkW wPos::tkN (ndC n)::zeo (ndM n)::zdh (ndI n)
 else if ndK n=17 then tkW zbT::tkN (ndN n)::tkW wOf::b
 else []
def Tr.root:Tr->Nd
 | .leaf n=>n
 | .un n _=>n
 | .bin n _ _=>n
def Tr.lev (t:Tr):Int:=levS (ndK t.root)
def parT (c:Bool) (l:List Tk):List Tk:=if c then l else tkS 40::(l++ [tkS 41])
def Tr.toks:Tr->List Tk
 | .leaf n=>zkd n
 | .un n a=>parT (decide (a.lev≥4)) a.toks++ziN [] n
 | .bin n a b=>if ndK n=17 then parT (decide (a.lev≥4)) a.toks++ziN (parT (decide (b.lev≥5)) b.toks) n
  else parT (decide (a.lev≥levS (ndK n))) a.toks++(tkW (opWd (levS (ndK n)))::parT (decide (b.lev≥levS (ndK n)+1)) b.toks)
def zbH (k:Int):Shp:=zcU.getD k.toNat (0,false,(0,0,()),())
def zdE (n:Nd):Bool:=bif (zbH (ndK n)).2.1 then inB (ndC n) 0 2 else ndC n==0
def zc9 (w:List UInt8):Bool:=decide (w≠ [])&&decide (w.length≤32)&&(w.head?.all isLt&&w.all isPt)
def zgb (n:Nd):Bool:=bif ndK n==18 then zc9 (ndS n) else decide (ndS n=[])
def zbq (n:Nd):Bool:=inB (ndK n) 1 18&&decide ((ndI n).length≤64)&&(zdE n&&(zgb n&&(zaI (ndI n) (zbH (ndK n)).2.2.1&&zbB n)))
def TrOk:Tr->Prop
 | .leaf n=>zbq n=true∧¬ (8≤ndK n∧ndK n≤17)∧ndR n=0∧(ndK n≠7->ndL n=0)
 | .un n a=>zbq n=true∧(11≤ndK n∧ndK n≤16)∧(ndL n=0∧ndR n=0)∧TrOk a
 | .bin n a b=>zbq n=true∧((8≤ndK n∧ndK n≤10)∨ndK n=17)∧(ndL n=0∧ndR n=0)∧TrOk a∧TrOk b
theorem zaG {n lo hi:Int}:inB n lo hi=true↔lo≤n∧n≤hi:=by
 unfold inB;rw[Bool.and_eq_true,decide_eq_true_iff,decide_eq_true_iff]
theorem zaC {n:Nd} (h:zbq n=true):(1≤ndK n∧ndK n≤18)∧(ndI n).length≤64∧zdE n=true∧zgb n=true∧zaI (ndI n) (zbH (ndK n)).2.2.1=true∧zbB n=true:=by
 unfold zbq at h;simp only[Bool.and_eq_true,zaG,decide_eq_true_iff]at h;exact⟨h.1.1,h.1.2,h.2.1,h.2.2.1,h.2.2.2.1,h.2.2.2.2⟩
theorem ris_of {l:List Int} {lo hi:Int} (h:∀ i,i < l.length->zee l (lo,hi,()) i=false):Ris lo hi (decide (¬ lo < 0)) (lo - 1) l:=by
 have key:∀ (r p:List Int) (last:Int),l=p++r->(p≠ []->last=l.getD (p.length - 1) 0)->(p=[]->last=lo - 1)->Ris lo hi (decide (¬ lo < 0)) last r:=by
  intro r
  induction r with
  |nil=>intro p last _ _ _;trivial
  |cons x r ih=>
   intro p last hl hp hp0;have hlen:p.length < l.length:=by rw[hl,List.length_append,List.length_cons];omega
   have hx:l.getD p.length 0=x:=by
    rw[hl,List.getD_eq_getElem?_getD,List.getElem?_append_right (Nat.le_refl _),Nat.sub_self];rfl
   have hb:=h p.length hlen;unfold zee at hb;rw[hx]at hb;simp only[Bool.or_eq_false_iff,Bool.not_eq_false',zaG,Bool.and_eq_false_iff,decide_eq_false_iff_not,beq_eq_false_iff_ne]at hb;obtain⟨⟨⟨b1,b2⟩,b3⟩,b4⟩:=hb;refine⟨?_,b1,b2,?_,ih (p++ [x]) x (by rw[hl];simp) (fun _=>?_) (fun e=>by simp at e)⟩
   ·cases p with
    |nil=>rw[hp0 rfl];omega
    |cons y p=>
     rw[hp (by simp)];rcases b3 with b3|b3
     ·exact absurd (by simp:0 < (y::p).length) b3
     ·omega
   ·rcases b4 with b4|b4
    ·exact .inr b4
    ·exact .inl (decide_eq_true b4)
   ·rw[show (p++ [x]).length - 1=p.length by simp,hx]
 exact key l [] (lo - 1) rfl (fun h=>absurd rfl h) fun _=>rfl
theorem ze9 {l:List Int} {lo hi:Int} (h0:¬ (lo=0∧hi=0)) (h:zaI l (lo,hi,())=true):l≠ []∧Ris lo hi (decide (¬ lo < 0)) (lo - 1) l:=by
 have hz:zgJ (lo,hi,())=false:=by
  rw[Bool.eq_false_iff];intro e;unfold zgJ at e;rw[Bool.and_eq_true,beq_iff_eq,beq_iff_eq]at e;exact h0 e
 unfold zaI at h;rw[hz,cond_false,Bool.and_eq_true,decide_eq_true_iff,List.all_eq_true]at h;refine⟨fun e=>by rw[e]at h;exact absurd h.2 (by decide),ris_of fun i hi=>?_⟩;have:=h.1 i (List.mem_range.2 hi);rwa[Bool.not_eq_true']at this
theorem zdv {l:List Int} (h:zaI l (0,0,())=true):l=[]:=by
 have h:(((l.length:Nat):Int)==0)=true:=h;have:=beq_iff_eq.1 h;exact List.eq_nil_of_length_eq_zero (by omega)
theorem fld1 {n:Nd} (h:zbq n=true) (k:ndK n=1):n=(1,0,ndL n,ndR n,ndN n,ndM n,[],[],())∧(1≤ndN n∧ndN n≤1099511627776)∧(0≤ndM n∧ndM n≤1099511627776):=by
 obtain⟨_,hlen,hc,hm,hl,hn⟩:=zaC h;obtain⟨k',c,L,R,N,M,I,S,⟨⟩⟩:=n;obtain rfl:k'=1:=k;have hc2:(c==0)=true:=hc;obtain rfl:=beq_iff_eq.1 hc2;have hm2:decide (S=[])=true:=hm;obtain rfl:=of_decide_eq_true hm2;obtain rfl:=zdv (show zaI I (0,0,())=true from hl);have hn2:(bif inB N 1 1099511627776 then inB M 0 1099511627776 else false)=true:=hn;simp only[zdf,Bool.and_eq_true,zaG,beq_iff_eq,Bool.not_eq_true',beq_eq_false_iff_ne]at hn2;exact⟨rfl,hn2.1,hn2.2⟩
theorem fld2 {n:Nd} (h:zbq n=true) (k:ndK n=2):n=(2,ndC n,ndL n,ndR n,ndN n,ndM n,[],[],())∧(0≤ndC n∧ndC n≤2)∧(1≤ndN n∧ndN n≤400)∧(0≤ndM n∧ndM n≤ndN n - 1):=by
 obtain⟨_,hlen,hc,hm,hl,hn⟩:=zaC h;obtain⟨k',c,L,R,N,M,I,S,⟨⟩⟩:=n;obtain rfl:k'=2:=k;have hc2:inB c 0 2=true:=hc;rw[zaG]at hc2;have hm2:decide (S=[])=true:=hm;obtain rfl:=of_decide_eq_true hm2;obtain rfl:=zdv (show zaI I (0,0,())=true from hl);have hn2:(bif inB N 1 400 then inB M 0 (N - 1) else false)=true:=hn;simp only[zdf,Bool.and_eq_true,zaG,beq_iff_eq,Bool.not_eq_true',beq_eq_false_iff_ne]at hn2;exact⟨rfl,hc2,hn2.1,hn2.2⟩
theorem fld3 {n:Nd} (h:zbq n=true) (k:ndK n=3):n=(3,ndC n,ndL n,ndR n,0,0,ndI n,[],())∧(0≤ndC n∧ndC n≤2)∧(ndI n≠ []∧(ndI n).length≤64∧Ris (1) 16 true (0) (ndI n)):=by
 obtain⟨_,hlen,hc,hm,hl,hn⟩:=zaC h;obtain⟨k',c,L,R,N,M,I,S,⟨⟩⟩:=n;obtain rfl:k'=3:=k;have hc2:inB c 0 2=true:=hc;rw[zaG]at hc2;have hm2:decide (S=[])=true:=hm;obtain rfl:=of_decide_eq_true hm2;have hl2:=ze9 (by decide) (show zaI I (1,16,())=true from hl);have hn2:(bif N==0 then M==0 else false)=true:=hn;simp only[zdf,Bool.and_eq_true,zaG,beq_iff_eq,Bool.not_eq_true',beq_eq_false_iff_ne]at hn2;obtain⟨rfl,rfl⟩:=hn2;exact⟨rfl,hc2,⟨hl2.1,hlen,hl2.2⟩⟩
theorem fld4 {n:Nd} (h:zbq n=true) (k:ndK n=4):n=(4,ndC n,ndL n,ndR n,0,0,ndI n,[],())∧(0≤ndC n∧ndC n≤2)∧(ndI n≠ []∧(ndI n).length≤64∧Ris (-40) 40 false (-41) (ndI n)):=by
 obtain⟨_,hlen,hc,hm,hl,hn⟩:=zaC h;obtain⟨k',c,L,R,N,M,I,S,⟨⟩⟩:=n;obtain rfl:k'=4:=k;have hc2:inB c 0 2=true:=hc;rw[zaG]at hc2;have hm2:decide (S=[])=true:=hm;obtain rfl:=of_decide_eq_true hm2;have hl2:=ze9 (by decide) (show zaI I (-40,40,())=true from hl);have hn2:(bif N==0 then M==0 else false)=true:=hn;simp only[zdf,Bool.and_eq_true,zaG,beq_iff_eq,Bool.not_eq_true',beq_eq_false_iff_ne]at hn2;obtain⟨rfl,rfl⟩:=hn2;exact⟨rfl,hc2,⟨hl2.1,hlen,hl2.2⟩⟩
theorem fld5 {n:Nd} (h:zbq n=true) (k:ndK n=5):n=(5,0,ndL n,ndR n,0,0,ndI n,[],())∧(ndI n≠ []∧(ndI n).length≤64∧Ris (0) 6 true (-1) (ndI n)):=by
 obtain⟨_,hlen,hc,hm,hl,hn⟩:=zaC h;obtain⟨k',c,L,R,N,M,I,S,⟨⟩⟩:=n;obtain rfl:k'=5:=k;have hc2:(c==0)=true:=hc;obtain rfl:=beq_iff_eq.1 hc2;have hm2:decide (S=[])=true:=hm;obtain rfl:=of_decide_eq_true hm2;have hl2:=ze9 (by decide) (show zaI I (0,6,())=true from hl);have hn2:(bif N==0 then M==0 else false)=true:=hn;simp only[zdf,Bool.and_eq_true,zaG,beq_iff_eq,Bool.not_eq_true',beq_eq_false_iff_ne]at hn2;obtain⟨rfl,rfl⟩:=hn2;exact⟨rfl,⟨hl2.1,hlen,hl2.2⟩⟩
theorem fld6 {n:Nd} (h:zbq n=true) (k:ndK n=6):n=(6,ndC n,ndL n,ndR n,0,0,ndI n,[],())∧(0≤ndC n∧ndC n≤2)∧(ndI n≠ []∧(ndI n).length≤64∧Ris (1) 54 true (0) (ndI n)):=by
 obtain⟨_,hlen,hc,hm,hl,hn⟩:=zaC h;obtain⟨k',c,L,R,N,M,I,S,⟨⟩⟩:=n;obtain rfl:k'=6:=k;have hc2:inB c 0 2=true:=hc;rw[zaG]at hc2;have hm2:decide (S=[])=true:=hm;obtain rfl:=of_decide_eq_true hm2;have hl2:=ze9 (by decide) (show zaI I (1,54,())=true from hl);have hn2:(bif N==0 then M==0 else false)=true:=hn;simp only[zdf,Bool.and_eq_true,zaG,beq_iff_eq,Bool.not_eq_true',beq_eq_false_iff_ne]at hn2;obtain⟨rfl,rfl⟩:=hn2;exact⟨rfl,hc2,⟨hl2.1,hlen,hl2.2⟩⟩
theorem fld7 {n:Nd} (h:zbq n=true) (k:ndK n=7):n=(7,ndC n,ndL n,ndR n,ndN n,ndM n,[],[],())∧(0≤ndC n∧ndC n≤2)∧(-60≤ndN n∧ndN n≤60)∧ndN n≠0∧(0≤ndM n∧ndM n≤6)∧(0≤ndL n∧ndL n≤1):=by
 obtain⟨_,hlen,hc,hm,hl,hn⟩:=zaC h;obtain⟨k',c,L,R,N,M,I,S,⟨⟩⟩:=n;obtain rfl:k'=7:=k;have hc2:inB c 0 2=true:=hc;rw[zaG]at hc2;have hm2:decide (S=[])=true:=hm;obtain rfl:=of_decide_eq_true hm2;obtain rfl:=zdv (show zaI I (0,0,())=true from hl);have hn2:(bif (bif (bif inB N (-60) 60 then !(N==0) else false) then inB M 0 6 else false) then inB L 0 1 else false)=true:=hn;simp only[zdf,Bool.and_eq_true,zaG,beq_iff_eq,Bool.not_eq_true',beq_eq_false_iff_ne]at hn2;exact⟨rfl,hc2,hn2.1.1.1,hn2.1.1.2,hn2.1.2,hn2.2⟩
theorem fld8 {n:Nd} (h:zbq n=true) (k:ndK n=8):n=(8,0,ndL n,ndR n,0,0,[],[],()):=by
 obtain⟨_,hlen,hc,hm,hl,hn⟩:=zaC h;obtain⟨k',c,L,R,N,M,I,S,⟨⟩⟩:=n;obtain rfl:k'=8:=k;have hc2:(c==0)=true:=hc;obtain rfl:=beq_iff_eq.1 hc2;have hm2:decide (S=[])=true:=hm;obtain rfl:=of_decide_eq_true hm2;obtain rfl:=zdv (show zaI I (0,0,())=true from hl);have hn2:(bif N==0 then M==0 else false)=true:=hn;simp only[zdf,Bool.and_eq_true,zaG,beq_iff_eq,Bool.not_eq_true',beq_eq_false_iff_ne]at hn2;obtain⟨rfl,rfl⟩:=hn2;exact rfl
theorem fld9 {n:Nd} (h:zbq n=true) (k:ndK n=9):n=(9,0,ndL n,ndR n,0,0,[],[],()):=by
 obtain⟨_,hlen,hc,hm,hl,hn⟩:=zaC h;obtain⟨k',c,L,R,N,M,I,S,⟨⟩⟩:=n;obtain rfl:k'=9:=k;have hc2:(c==0)=true:=hc;obtain rfl:=beq_iff_eq.1 hc2;have hm2:decide (S=[])=true:=hm;obtain rfl:=of_decide_eq_true hm2;obtain rfl:=zdv (show zaI I (0,0,())=true from hl);have hn2:(bif N==0 then M==0 else false)=true:=hn;simp only[zdf,Bool.and_eq_true,zaG,beq_iff_eq,Bool.not_eq_true',beq_eq_false_iff_ne]at hn2;obtain⟨rfl,rfl⟩:=hn2;exact rfl
theorem fld10 {n:Nd} (h:zbq n=true) (k:ndK n=10):n=(10,0,ndL n,ndR n,0,0,[],[],()):=by
 obtain⟨_,hlen,hc,hm,hl,hn⟩:=zaC h;obtain⟨k',c,L,R,N,M,I,S,⟨⟩⟩:=n;obtain rfl:k'=10:=k;have hc2:(c==0)=true:=hc;obtain rfl:=beq_iff_eq.1 hc2;have hm2:decide (S=[])=true:=hm;obtain rfl:=of_decide_eq_true hm2;obtain rfl:=zdv (show zaI I (0,0,())=true from hl);have hn2:(bif N==0 then M==0 else false)=true:=hn;simp only[zdf,Bool.and_eq_true,zaG,beq_iff_eq,Bool.not_eq_true',beq_eq_false_iff_ne]at hn2;obtain⟨rfl,rfl⟩:=hn2;exact rfl
theorem ztr {n:Nd} (h:zbq n=true) (k:ndK n=11):n=(11,0,ndL n,ndR n,ndN n,0,[],[],())∧(-1099511627776≤ndN n∧ndN n≤1099511627776):=by
 obtain⟨_,hlen,hc,hm,hl,hn⟩:=zaC h;obtain⟨k',c,L,R,N,M,I,S,⟨⟩⟩:=n;obtain rfl:k'=11:=k;have hc2:(c==0)=true:=hc;obtain rfl:=beq_iff_eq.1 hc2;have hm2:decide (S=[])=true:=hm;obtain rfl:=of_decide_eq_true hm2;obtain rfl:=zdv (show zaI I (0,0,())=true from hl);have hn2:(bif inB N (-1099511627776) 1099511627776 then M==0 else false)=true:=hn;simp only[zdf,Bool.and_eq_true,zaG,beq_iff_eq,Bool.not_eq_true',beq_eq_false_iff_ne]at hn2;obtain rfl:=hn2.2;exact⟨rfl,hn2.1⟩
theorem ztq {n:Nd} (h:zbq n=true) (k:ndK n=12):n=(12,0,ndL n,ndR n,ndN n,0,[],[],())∧(0≤ndN n∧ndN n≤1099511627776):=by
 obtain⟨_,hlen,hc,hm,hl,hn⟩:=zaC h;obtain⟨k',c,L,R,N,M,I,S,⟨⟩⟩:=n;obtain rfl:k'=12:=k;have hc2:(c==0)=true:=hc;obtain rfl:=beq_iff_eq.1 hc2;have hm2:decide (S=[])=true:=hm;obtain rfl:=of_decide_eq_true hm2;obtain rfl:=zdv (show zaI I (0,0,())=true from hl);have hn2:(bif inB N 0 1099511627776 then M==0 else false)=true:=hn;simp only[zdf,Bool.and_eq_true,zaG,beq_iff_eq,Bool.not_eq_true',beq_eq_false_iff_ne]at hn2;obtain rfl:=hn2.2;exact⟨rfl,hn2.1⟩
theorem ztp {n:Nd} (h:zbq n=true) (k:ndK n=13):n=(13,0,ndL n,ndR n,ndN n,0,[],[],())∧(0≤ndN n∧ndN n≤1099511627776):=by
 obtain⟨_,hlen,hc,hm,hl,hn⟩:=zaC h;obtain⟨k',c,L,R,N,M,I,S,⟨⟩⟩:=n;obtain rfl:k'=13:=k;have hc2:(c==0)=true:=hc;obtain rfl:=beq_iff_eq.1 hc2;have hm2:decide (S=[])=true:=hm;obtain rfl:=of_decide_eq_true hm2;obtain rfl:=zdv (show zaI I (0,0,())=true from hl);have hn2:(bif inB N 0 1099511627776 then M==0 else false)=true:=hn;simp only[zdf,Bool.and_eq_true,zaG,beq_iff_eq,Bool.not_eq_true',beq_eq_false_iff_ne]at hn2;obtain rfl:=hn2.2;exact⟨rfl,hn2.1⟩
theorem zrm {n:Nd} (h:zbq n=true) (k:ndK n=14):n=(14,0,ndL n,ndR n,0,0,ndI n,[],())∧(ndI n≠ []∧(ndI n).length≤64∧Ris (0) 1099511627776 true (-1) (ndI n)):=by
 obtain⟨_,hlen,hc,hm,hl,hn⟩:=zaC h;obtain⟨k',c,L,R,N,M,I,S,⟨⟩⟩:=n;obtain rfl:k'=14:=k;have hc2:(c==0)=true:=hc;obtain rfl:=beq_iff_eq.1 hc2;have hm2:decide (S=[])=true:=hm;obtain rfl:=of_decide_eq_true hm2;have hl2:=ze9 (by decide) (show zaI I (0,1099511627776,())=true from hl);have hn2:(bif N==0 then M==0 else false)=true:=hn;simp only[zdf,Bool.and_eq_true,zaG,beq_iff_eq,Bool.not_eq_true',beq_eq_false_iff_ne]at hn2;obtain⟨rfl,rfl⟩:=hn2;exact⟨rfl,⟨hl2.1,hlen,hl2.2⟩⟩
theorem zrl {n:Nd} (h:zbq n=true) (k:ndK n=15):n=(15,0,ndL n,ndR n,0,0,ndI n,[],())∧(ndI n≠ []∧(ndI n).length≤64∧Ris (0) 1099511627776 true (-1) (ndI n)):=by
 obtain⟨_,hlen,hc,hm,hl,hn⟩:=zaC h;obtain⟨k',c,L,R,N,M,I,S,⟨⟩⟩:=n;obtain rfl:k'=15:=k;have hc2:(c==0)=true:=hc;obtain rfl:=beq_iff_eq.1 hc2;have hm2:decide (S=[])=true:=hm;obtain rfl:=of_decide_eq_true hm2;have hl2:=ze9 (by decide) (show zaI I (0,1099511627776,())=true from hl);have hn2:(bif N==0 then M==0 else false)=true:=hn;simp only[zdf,Bool.and_eq_true,zaG,beq_iff_eq,Bool.not_eq_true',beq_eq_false_iff_ne]at hn2;obtain⟨rfl,rfl⟩:=hn2;exact⟨rfl,⟨hl2.1,hlen,hl2.2⟩⟩
theorem zrk {n:Nd} (h:zbq n=true) (k:ndK n=16):n=(16,ndC n,ndL n,ndR n,0,ndM n,ndI n,[],())∧(0≤ndC n∧ndC n≤2)∧(ndI n≠ []∧(ndI n).length≤64∧Ris (-400) 400 false (-401) (ndI n))∧(0≤ndM n∧ndM n≤1):=by
 obtain⟨_,hlen,hc,hm,hl,hn⟩:=zaC h;obtain⟨k',c,L,R,N,M,I,S,⟨⟩⟩:=n;obtain rfl:k'=16:=k;have hc2:inB c 0 2=true:=hc;rw[zaG]at hc2;have hm2:decide (S=[])=true:=hm;obtain rfl:=of_decide_eq_true hm2;have hl2:=ze9 (by decide) (show zaI I (-400,400,())=true from hl);have hn2:(bif N==0 then inB M 0 1 else false)=true:=hn;simp only[zdf,Bool.and_eq_true,zaG,beq_iff_eq,Bool.not_eq_true',beq_eq_false_iff_ne]at hn2;obtain rfl:=hn2.1;exact⟨rfl,hc2,⟨hl2.1,hlen,hl2.2⟩,hn2.2⟩
theorem zto {n:Nd} (h:zbq n=true) (k:ndK n=17):n=(17,0,ndL n,ndR n,ndN n,0,[],[],())∧(1≤ndN n∧ndN n≤400):=by
 obtain⟨_,hlen,hc,hm,hl,hn⟩:=zaC h;obtain⟨k',c,L,R,N,M,I,S,⟨⟩⟩:=n;obtain rfl:k'=17:=k;have hc2:(c==0)=true:=hc;obtain rfl:=beq_iff_eq.1 hc2;have hm2:decide (S=[])=true:=hm;obtain rfl:=of_decide_eq_true hm2;obtain rfl:=zdv (show zaI I (0,0,())=true from hl);have hn2:(bif inB N 1 400 then M==0 else false)=true:=hn;simp only[zdf,Bool.and_eq_true,zaG,beq_iff_eq,Bool.not_eq_true',beq_eq_false_iff_ne]at hn2;obtain rfl:=hn2.2;exact⟨rfl,hn2.1⟩
theorem ztn {n:Nd} (h:zbq n=true) (k:ndK n=18):n=(18,0,ndL n,ndR n,0,0,[],ndS n,())∧zc9 (ndS n)=true:=by
 obtain⟨_,hlen,hc,hm,hl,hn⟩:=zaC h;obtain⟨k',c,L,R,N,M,I,S,⟨⟩⟩:=n;obtain rfl:k'=18:=k;have hc2:(c==0)=true:=hc;obtain rfl:=beq_iff_eq.1 hc2;have hm2:zc9 S=true:=hm;obtain rfl:=zdv (show zaI I (0,0,())=true from hl);have hn2:(bif N==0 then M==0 else false)=true:=hn;simp only[zdf,Bool.and_eq_true,zaG,beq_iff_eq,Bool.not_eq_true',beq_eq_false_iff_ne]at hn2;obtain⟨rfl,rfl⟩:=hn2;exact⟨rfl,hm2⟩
def resQ (s:List UInt8):Nat->GSt->GE (Tr×GSt)
 |0,st=>prsT s (.bin 0) st
 |1,st=>prsT s (.bin 1) st
 |2,st=>prsT s (.bin 2) st
 |3,st=>prsT s .chain st
 |_,st=>prsT s .prim st
def contQ (s:List UInt8):Nat->Tr->GSt->GE (Tr×GSt)
 |0,t,st=>prsT s (.binL 0 t) st
 |1,t,st=>prsT s (.binL 1 t) st
 |2,t,st=>prsT s (.binL 2 t) st
 |3,t,st=>prsT s (.chainL t) st
 |_,t,st=>.ok (t,st)
def zqM:List Tk->Prop
 | []=>True
 |a::_=>a.1=1->sufW a.2.1=none
def ztl:Nat->List Tk->Prop
 |0,l=>tkIs zlJ l=false∧tkIs wAnd l=false∧zqM l
 |1,l=>tkIs wAnd l=false∧zqM l
 |2,l=>zqM l
 |_,_=>True
def Qt (i:Nat) (T:List Tk) (t:Tr):Prop:=∀ (s:List UInt8) (st:GSt) (l:List Tk),GOk s st->Sq s st.1 (T++l)->st.2+(t.size:Int)≤64->ztl i l->∃ st',resQ s i st=contQ s i t st'∧Got s st t.size l st'
section
variable {s:List UInt8}
theorem zot {st:GSt} {l:List Tk} {t:Tr} (hg:GOk s st) (h:Sq s st.1 l) (hf:zqM l):prsT s (.chainL t) st= .ok (t,st):=by
 cases l with
 |nil=>
  have h:Tok.cls st.1=0:=h;exact zes hg (by rw[h];decide)
 |cons a l=>
  have hf:a.1=1->sufW a.2.1=none:=hf;obtain⟨_,e,_⟩:=h;have e1:Tok.cls st.1=a.1:=congrArg (fun a=>a.1) e;have e2:Tok.text st.1=a.2.1:=congrArg (fun a=>a.2.1) e;by_cases hc:a.1=1
  ·exact zgt hg (by rw[e1,hc]) (by rw[e2];exact hf hc)
  ·exact zes hg (by rw[e1];exact hc)
theorem zin {i:Nat} {st:GSt} {l:List Tk} {t:Tr} (hg:GOk s st) (h:Sq s st.1 l) (hf:tkIs (opW i) l=false):prsT s (.binL i t) st= .ok (t,st):=zir hg (by rw[zh2 h];exact hf)
theorem Qt.chain {T:List Tk} {t:Tr} (h:Qt 4 T t):Qt 3 T t:=fun s st l hg hq hn hf=>by
 obtain⟨st',e,g⟩:=h s st l hg hq hn trivial;have e:prsT s .prim st= .ok (t,st'):=e;exact⟨st',by show prsT s .chain st=prsT s (.chainL t) st';rw[zio hg];exact okb e _,g⟩
theorem Qt.up3 {T:List Tk} {t:Tr} (h:Qt 3 T t):Qt 2 T t:=fun s st l hg hq hn hf=>by
 obtain⟨st',e,g⟩:=h s st l hg hq hn trivial;have e:prsT s .chain st=prsT s (.chainL t) st':=e;rw[zot g.ok g.sq hf]at e;refine⟨st',?_,g⟩;show prsT s (.bin 2) st=prsT s (.binL 2 t) st';rw[zgU hg (by decide),zhn hg (by decide)];exact okb e _
theorem Qt.up2 {T:List Tk} {t:Tr} (h:Qt 2 T t):Qt 1 T t:=fun s st l hg hq hn hf=>by
 obtain⟨st',e,g⟩:=h s st l hg hq hn hf.2;have e:prsT s (.bin 2) st=prsT s (.binL 2 t) st':=e;rw[zin (i:=2) g.ok g.sq hf.1]at e;refine⟨st',?_,g⟩;show prsT s (.bin 1) st=prsT s (.binL 1 t) st';rw[zgU hg (by decide)];exact okb e _
theorem Qt.up1 {T:List Tk} {t:Tr} (h:Qt 1 T t):Qt 0 T t:=fun s st l hg hq hn hf=>by
 obtain⟨st',e,g⟩:=h s st l hg hq hn hf.2;have e:prsT s (.bin 1) st=prsT s (.binL 1 t) st':=e;rw[zin (i:=1) g.ok g.sq hf.1]at e;refine⟨st',?_,g⟩;show prsT s (.bin 0) st=prsT s (.binL 0 t) st';rw[zgU hg (by decide)];exact okb e _
theorem Qt.up {T:List Tk} {t:Tr}:∀ {j i:Nat},Qt j T t->i≤j->j≤4->Qt i T t:=by
 intro j i h hij hj;have h4:j=4->∀ i,i≤4->Qt i T t:=by
  rintro rfl i hi;rcases (show i=0∨i=1∨i=2∨i=3∨i=4 by omega) with rfl|rfl|rfl|rfl|rfl
  ·exact h.chain.up3.up2.up1
  ·exact h.chain.up3.up2
  ·exact h.chain.up3
  ·exact h.chain
  ·exact h
 rcases (show j=0∨j=1∨j=2∨j=3∨j=4 by omega) with rfl|rfl|rfl|rfl|rfl
 ·obtain rfl:i=0:=by omega
  exact h
 ·rcases (show i=0∨i=1 by omega) with rfl|rfl
  ·exact h.up1
  ·exact h
 ·rcases (show i=0∨i=1∨i=2 by omega) with rfl|rfl|rfl
  ·exact h.up2.up1
  ·exact h.up2
  ·exact h
 ·rcases (show i=0∨i=1∨i=2∨i=3 by omega) with rfl|rfl|rfl|rfl
  ·exact h.up3.up2.up1
  ·exact h.up3.up2
  ·exact h.up3
  ·exact h
 ·exact h4 rfl i hij
theorem Qt.par {T:List Tk} {t:Tr} (h:Qt 0 T t):Qt 4 (tkS 40::(T++ [tkS 41])) t:=fun s st l hg hq hn hf=>by
 have hq:Sq s st.1 (tkS 40::(T++ [tkS 41]++l)):=hq;have i1:gIs st zfj=true:=by rw[zh2 hq];rfl
 have g1:=zqD hg hq;have q1:=g1.sq;rw[List.append_assoc]at q1;obtain⟨st',e,g2⟩:=h s (gAdv s st) (tkS 41::l) g1.ok q1 hn ⟨rfl,rfl,fun e=>by cases e⟩;have e:prsT s (.bin 0) (gAdv s st)=prsT s (.binL 0 t) st':=e;rw[zin g2.ok g2.sq rfl]at e;obtain⟨e3,g3⟩:=zgT (w:=zdg) g2.ok g2.sq rfl;refine⟨gAdv s st',?_,?_⟩
 ·show prsT s .prim st= .ok (t,gAdv s st');rw[zcL hg,za4,if_pos i1];exact (okb e _).trans ((okb e3 _).trans rfl)
 ·have:=(g1.trans g2).trans0 g3;rwa[Int.zero_add]at this
theorem zhk {st:GSt} {w:List UInt8} {lw:LeafW} {T l:List Tk} {n:Nd} (hw:zgL w=some lw) (hw1:w≠zfj) (hg:GOk s st) (h:Sq s st.1 (tkW w::(T++l))) (hn:st.2+1≤64)
 (hl:∀ st1,GOk s st1->Sq s st1.1 (T++l)->∃ st2,zde s st1 lw= .ok (n,st2)∧Got s st1 0 l st2):∃ st',prsT s .prim st= .ok (.leaf n,st')∧Got s st 1 l st':=by
 have i1:gIs st zfj=false:=by
  rw[zh2 h];show (true&&decide (w=zfj))=false;rw[decide_eq_false hw1];rfl
 obtain⟨e0,g0⟩:=zi0 hg h (by omega);obtain⟨_,e,_⟩:=id h;have e1:Tok.cls st.1=1:=congrArg (fun a=>a.1) e;have e2:Tok.text st.1=w:=congrArg (fun a=>a.2.1) e;obtain⟨st2,e3,g3⟩:=hl _ g0.ok g0.sq;refine⟨st2,?_,g0.trans0 g3⟩;rw[zcL hg,za4,if_neg (by rw[i1];exact Bool.false_ne_true),if_neg (by rw[e1];decide)];have c0:zaE st (Tok.cls st.1==1) 3= .ok ():=by rw[e1];rfl
 refine (okb c0 _).trans ?_;rw[e2,hw];exact (okb e0 _).trans ((okb e3 _).trans rfl)
theorem q_ref {st:GSt} {w:List UInt8} {l:List Tk} (hw:w.length≤32) (hg:GOk s st) (h:Sq s st.1 (tkR w::l)) (hn:st.2+1≤64):∃ st',prsT s .prim st= .ok (.leaf (18,0,0,0,0,0,[],w,()),st')∧Got s st 1 l st':=by
 have i1:gIs st zfj=false:=by rw[zh2 h];rfl
 obtain⟨e0,g0⟩:=zi0 hg h (by omega);obtain⟨_,e,_⟩:=id h;have e1:Tok.cls st.1=2:=congrArg (fun a=>a.1) e;have e2:Tok.text st.1=w:=congrArg (fun a=>a.2.1) e;refine⟨_,?_,g0⟩;rw[zcL hg,za4,if_neg (by rw[i1];exact Bool.false_ne_true),if_pos e1];have c0:zaE st (decide ((Tok.text st.1).length≤32)) 2= .ok ():=by rw[e2,decide_eq_true hw];rfl
 refine (okb c0 _).trans ((okb e0 _).trans ?_);rw[e2];rfl
theorem setN {n:Nd} {k c L R N M:Int} {I:List Int} {S:List UInt8} (e:n=(k,c,ndL n,ndR n,N,M,I,S,())) (hL:ndL n=L) (hR:ndR n=R):n=(k,c,L,R,N,M,I,S,()):=by rw[<-hL, <-hR];exact e
theorem zsI {n:Nd} (h:TrOk (.leaf n)):Qt 4 (zkd n) (.leaf n):=fun s st l hg hq hn hf=>by
 obtain⟨h1,h2,hR,hL⟩:=h;have hn:st.2+1≤64:=hn;obtain⟨⟨k1,k2⟩,_⟩:=zaC h1;show ∃ st',prsT s .prim st= .ok (.leaf n,st')∧Got s st 1 l st';unfold zkd at hq;rcases (show ndK n=1∨ndK n=2∨ndK n=3∨ndK n=4∨ndK n=5∨ndK n=6∨ndK n=7∨ndK n=18 by omega) with k|k|k|k|k|k|k|k<;>rw[k]at hq hL
 ·obtain⟨e,b1,b2⟩:=fld1 h1 k;have e:=setN e (hL (by decide)) hR;refine zhk (w:=ziK) (lw:=.days) (T:=[tkN (ndN n),tkN (ndM n)]) rfl (by decide) hg hq hn fun st1 g1 q1=>?_;obtain⟨a1,c1⟩:=zbx (lo:=1) (hi:=zdI) g1 q1 b1.1 b1.2;obtain⟨a2,c2⟩:=zbx (lo:=0) (hi:=zdI) c1.ok c1.sq b2.1 b2.2;refine⟨_,(okb a1 _).trans ((okb a2 _).trans ?_),c1.trans0 c2⟩
  conv=>rhs;rw[e]
  rfl
 ·obtain⟨e,b0,b1,b2⟩:=fld2 h1 k;have e:=setN e (hL (by decide)) hR;refine zhk (w:=zfi) (lw:=.years) (T:=[tkN (ndC n),tkN (ndN n),tkN (ndM n)]) rfl (by decide) hg hq hn fun st1 g1 q1=>?_;obtain⟨a0,c0⟩:=zbx (lo:=0) (hi:=2) g1 q1 b0.1 b0.2;obtain⟨a1,c1⟩:=zbx (lo:=1) (hi:=400) c0.ok c0.sq b1.1 b1.2;obtain⟨a2,c2⟩:=zbx (lo:=0) (hi:=ndN n - 1) c1.ok c1.sq b2.1 b2.2;refine⟨_,(okb a0 _).trans ((okb a1 _).trans ((okb a2 _).trans ?_)),(c0.trans0 c1).trans0 c2⟩
  conv=>rhs;rw[e]
  rfl
 ·obtain⟨e,b0,b1,b2,b3⟩:=fld3 h1 k;have e:=setN e (hL (by decide)) hR;refine zhk (w:=zcy) (lw:=.months) (T:=tkN (ndC n)::zdh (ndI n)) rfl (by decide) hg hq hn fun st1 g1 q1=>?_;obtain⟨a0,c0⟩:=zbx (lo:=0) (hi:=2) g1 q1 b0.1 b0.2;obtain⟨st2,a1,c1⟩:=zhl b1 b2 b3 c0.ok c0.sq;refine⟨_,(okb a0 _).trans ((okb a1 _).trans ?_),c0.trans0 c1⟩
  conv=>rhs;rw[e]
  rfl
 ·obtain⟨e,b0,b1,b2,b3⟩:=fld4 h1 k;have e:=setN e (hL (by decide)) hR;refine zhk (w:=za3) (lw:=.monthdays) (T:=tkN (ndC n)::zdh (ndI n)) rfl (by decide) hg hq hn fun st1 g1 q1=>?_;obtain⟨a0,c0⟩:=zbx (lo:=0) (hi:=2) g1 q1 b0.1 b0.2;obtain⟨st2,a1,c1⟩:=zhl b1 b2 b3 c0.ok c0.sq;refine⟨_,(okb a0 _).trans ((okb a1 _).trans ?_),c0.trans0 c1⟩
  conv=>rhs;rw[e]
  rfl
 ·obtain⟨e,b1,b2,b3⟩:=fld5 h1 k;have e:=setN e (hL (by decide)) hR;refine zhk (w:=zbl) (lw:=.weekdays) (T:=zdh (ndI n)) rfl (by decide) hg hq hn fun st1 g1 q1=>?_;obtain⟨st2,a1,c1⟩:=zhl b1 b2 b3 g1 q1;refine⟨_,(okb a1 _).trans ?_,c1⟩
  conv=>rhs;rw[e]
  rfl
 ·obtain⟨e,b0,b1,b2,b3⟩:=fld6 h1 k;have e:=setN e (hL (by decide)) hR;refine zhk (w:=zdr) (lw:=.weeks) (T:=tkN (ndC n)::zdh (ndI n)) rfl (by decide) hg hq hn fun st1 g1 q1=>?_;obtain⟨a0,c0⟩:=zbx (lo:=0) (hi:=2) g1 q1 b0.1 b0.2;obtain⟨st2,a1,c1⟩:=zhl b1 b2 b3 c0.ok c0.sq;refine⟨_,(okb a0 _).trans ((okb a1 _).trans ?_),c0.trans0 c1⟩
  conv=>rhs;rw[e]
  rfl
 ·obtain⟨e,b0,b1,bz,b2,b3⟩:=fld7 h1 k;have e:=setN e rfl hR;refine zhk (w:=wNth) (lw:=.nth) (T:=[tkN (ndC n),tkN (ndN n),tkN (ndM n),zeo (ndL n)]) rfl (by decide) hg hq hn fun st1 g1 q1=>?_;obtain⟨a0,c0⟩:=zbx (lo:=0) (hi:=2) g1 q1 b0.1 b0.2;obtain⟨a1,c1⟩:=zbx (lo:=-60) (hi:=60) c0.ok c0.sq b1.1 b1.2;obtain⟨a2,c2⟩:=zbx (lo:=0) (hi:=6) c1.ok c1.sq b2.1 b2.2;obtain⟨a3,c3⟩:=zos (x:=ndL n) (by omega) c2.ok c2.sq;have cz:zaE (gAdv s st1) ((Tok.cls (gAdv s st1).1 != 3)||(Tok.n (gAdv s st1).1 != 0)) 1= .ok ():=by
   have hq:=c0.sq;obtain⟨_,e,_⟩:=hq;have e2:Tok.n (gAdv s st1).1=ndN n:=congrArg (fun a=>a.2.2) e;rw[e2,bne_iff_ne.2 bz,Bool.or_true];rfl
  refine⟨_,(okb a0 _).trans ((okb cz _).trans ((okb a1 _).trans ((okb a2 _).trans ((okb a3 _).trans ?_)))),((c0.trans0 c1).trans0 c2).trans0 c3⟩
  conv=>rhs;rw[e]
  rfl
 ·obtain⟨e,b0⟩:=ztn h1 k;have e:=setN e (hL (by decide)) hR;have hl:(ndS n).length≤32:=by
   unfold zc9 at b0;simp only[Bool.and_eq_true,decide_eq_true_iff]at b0;exact b0.1.2
  obtain⟨st',e1,g1⟩:=q_ref hl hg hq hn;refine⟨st',e1.trans ?_,g1⟩
  conv=>rhs;rw[e]
theorem zk6 {st:GSt} {w:List UInt8} {sw:SufW} {T l:List Tk} {t t':Tr} {k:Int} (hw:sufW w=some sw) (hg:GOk s st) (h:Sq s st.1 (tkW w::(T++l))) (hn:st.2+1≤64)
 (hl:∀ st1,GOk s st1->st1.2=st.2+1->Sq s st1.1 (T++l)->∃ st2,sufT (s:=s) t st1 sw= .ok (t',st2)∧Got s st1 k l st2):∃ st',prsT s (.chainL t) st=prsT s (.chainL t') st'∧Got s st (1+k) l st':=by
 obtain⟨e0,g0⟩:=zi0 hg h (by omega);obtain⟨_,e,_⟩:=id h;have e1:Tok.cls st.1=1:=congrArg (fun a=>a.1) e;have e2:Tok.text st.1=w:=congrArg (fun a=>a.2.1) e;obtain⟨st2,e3,g3⟩:=hl _ g0.ok rfl g0.sq;refine⟨st2,?_,g0.trans g3⟩;rw[zgu hg e1 (by rw[e2];exact hw)];exact (okb e0 _).trans ((okb e3 _).trans rfl)
theorem q_un {n:Nd} {a:Tr} {st:GSt} {l:List Tk} (h1:zbq n=true) (hk:11≤ndK n∧ndK n≤16) (hLR:ndL n=0∧ndR n=0) (hg:GOk s st) (hq:Sq s st.1 (ziN [] n++l)) (hn:st.2+1≤64):
 ∃ st',prsT s (.chainL a) st=prsT s (.chainL (.un n a)) st'∧Got s st 1 l st':=by
 unfold ziN at hq;rcases (show ndK n=11∨ndK n=12∨ndK n=13∨ndK n=14∨ndK n=15∨ndK n=16 by omega) with k|k|k|k|k|k<;>rw[k]at hq
 ·obtain⟨e,b1⟩:=ztr h1 k;have e:=setN e hLR.1 hLR.2;refine zk6 (k:=0) (w:=zeU) (sw:=.shift) (T:=[tkN (ndN n)]) rfl hg hq hn fun st1 g1 _ q1=>?_;obtain⟨a1,c1⟩:=zbx (lo:=-zdI) (hi:=zdI) g1 q1 b1.1 b1.2;have hs:gSuf s st1 .shift= .ok ((11,0,0,0,ndN n,0,[],[],()),gAdv s st1):=(okb a1 _).trans rfl;refine⟨_,(okb hs _).trans ?_,c1⟩
  conv=>rhs;rw[e]
 ·obtain⟨e,b1⟩:=ztq h1 k;have e:=setN e hLR.1 hLR.2;refine zk6 (k:=0) (w:=zhY) (sw:=.from_) (T:=[tkN (ndN n)]) rfl hg hq hn fun st1 g1 _ q1=>?_;obtain⟨a1,c1⟩:=zbx (lo:=0) (hi:=zdI) g1 q1 b1.1 b1.2;have hs:gSuf s st1 .from_= .ok ((12,0,0,0,ndN n,0,[],[],()),gAdv s st1):=(okb a1 _).trans rfl;refine⟨_,(okb hs _).trans ?_,c1⟩
  conv=>rhs;rw[e]
 ·obtain⟨e,b1⟩:=ztp h1 k;have e:=setN e hLR.1 hLR.2;refine zk6 (k:=0) (w:=zeT) (sw:=.until_) (T:=[tkN (ndN n)]) rfl hg hq hn fun st1 g1 _ q1=>?_;obtain⟨a1,c1⟩:=zbx (lo:=0) (hi:=zdI) g1 q1 b1.1 b1.2;have hs:gSuf s st1 .until_= .ok ((13,0,0,0,ndN n,0,[],[],()),gAdv s st1):=(okb a1 _).trans rfl;refine⟨_,(okb hs _).trans ?_,c1⟩
  conv=>rhs;rw[e]
 ·obtain⟨e,b1,b2,b3⟩:=zrm h1 k;have e:=setN e hLR.1 hLR.2;refine zk6 (k:=0) (w:=ze2) (sw:=.also) (T:=zdh (ndI n)) rfl hg hq hn fun st1 g1 _ q1=>?_;obtain⟨st2,a1,c1⟩:=zhl b1 b2 b3 g1 q1;have hs:gSuf s st1 .also= .ok ((14,0,0,0,0,0,ndI n,[],()),st2):=(okb a1 _).trans rfl;refine⟨_,(okb hs _).trans ?_,c1⟩
  conv=>rhs;rw[e]
 ·obtain⟨e,b1,b2,b3⟩:=zrl h1 k;have e:=setN e hLR.1 hLR.2;refine zk6 (k:=0) (w:=zcz) (sw:=.except_) (T:=zdh (ndI n)) rfl hg hq hn fun st1 g1 _ q1=>?_;obtain⟨st2,a1,c1⟩:=zhl b1 b2 b3 g1 q1;have hs:gSuf s st1 .except_= .ok ((15,0,0,0,0,0,ndI n,[],()),st2):=(okb a1 _).trans rfl;refine⟨_,(okb hs _).trans ?_,c1⟩
  conv=>rhs;rw[e]
 ·obtain⟨e,b0,⟨b1,b2,b3⟩,b4⟩:=zrk h1 k;have e:=setN e hLR.1 hLR.2;refine zk6 (k:=0) (w:=wPos) (sw:=.pos) (T:=tkN (ndC n)::zeo (ndM n)::zdh (ndI n)) rfl hg hq hn fun st1 g1 _ q1=>?_;obtain⟨a0,c0⟩:=zbx (lo:=0) (hi:=2) g1 q1 b0.1 b0.2;obtain⟨a2,c2⟩:=zos (x:=ndM n) (by omega) c0.ok c0.sq;obtain⟨st2,a1,c1⟩:=zhl b1 b2 b3 c2.ok c2.sq;have hs:gSuf s st1 .pos= .ok ((16,ndC n,0,0,0,ndM n,ndI n,[],()),st2):=(okb a0 _).trans ((okb a2 _).trans ((okb a1 _).trans rfl));refine⟨_,(okb hs _).trans ?_,(c0.trans0 c2).trans0 c1⟩
  conv=>rhs;rw[e]
theorem zqC {n:Nd} {a b:Tr} {B:List Tk} {st:GSt} {l:List Tk} (h1:zbq n=true) (hk:ndK n=17) (hLR:ndL n=0∧ndR n=0) (hB:Qt 4 B b) (hg:GOk s st) (hq:Sq s st.1 (ziN B n++l)) (hn:st.2+1+(b.size:Int)≤64):
 ∃ st',prsT s (.chainL a) st=prsT s (.chainL (.bin n a b)) st'∧Got s st (1+b.size) l st':=by
 unfold ziN at hq;rw[hk]at hq;obtain⟨e,b1⟩:=zto h1 hk;have e:=setN e hLR.1 hLR.2;refine zk6 (k:=b.size) (w:=zbT) (sw:=.behind) (T:=tkN (ndN n)::tkW wOf::B) rfl hg hq (by omega) fun st1 g1 hn1 q1=>?_;obtain⟨a1,c1⟩:=zbx (lo:=1) (hi:=400) g1 q1 b1.1 b1.2;obtain⟨a2,c2⟩:=zgT (w:=wOf) c1.ok c1.sq rfl;obtain⟨st',a3,c3⟩:=hB s _ l c2.ok c2.sq (by rw[c2.n,c1.n];omega) trivial;have a3:prsT s .prim (gAdv s (gAdv s st1))= .ok (b,st'):=a3;refine⟨st',?_,?_⟩
 ·have hs:gSuf s st1 .behind= .ok ((17,0,0,0,ndN n,0,[],[],()),gAdv s (gAdv s st1)):=(okb a1 _).trans ((okb a2 _).trans rfl);refine (okb hs _).trans ((okb a3 _).trans ?_)
  conv=>rhs;rw[e]
 ·have:=(c1.trans c2).trans c3;rwa[Int.zero_add,Int.zero_add]at this
def levI (t:Tr):Nat:=(t.lev - 1).toNat
theorem zlh (k:Int):1≤levS k∧levS k≤5:=by
 unfold levS
 repeat' split
 all_goals omega
theorem zi7 {k:Int} (h:¬ (8≤k∧k≤17)):levS k=5:=by
 unfold levS;rw[if_neg (by omega),if_neg (by omega),if_neg (by omega),if_neg (by omega)]
theorem zi6 {k:Int} (h:11≤k∧k≤17):levS k=4:=by
 unfold levS;rw[if_neg (by omega),if_neg (by omega),if_neg (by omega),if_pos h]
theorem ziZ {a:Tr} (h:Qt (levI a) a.toks a) {r:Int} {i:Nat} (hr:r=(i:Int)+1) (hi:i≤4):Qt i (parT (decide (a.lev≥r)) a.toks) a:=by
 obtain⟨l1,l5⟩:=zlh (ndK a.root);have hl:levI a≤4:=by unfold levI Tr.lev;omega
 by_cases hc:a.lev≥r
 ·rw[decide_eq_true hc];refine h.up ?_ hl;unfold levI Tr.lev at *;omega
 ·rw[decide_eq_false hc];exact (Qt.par (h.up (Nat.zero_le _) hl)).up hi (Nat.le_refl _)
theorem zk7 {i:Nat} {n:Nd} {a b:Tr} {A B:List Tk} (hi:i≤2) (hA:Qt i A a) (hB:Qt (i+1) B b) (hn0:n=(opK i,zNd.2)):Qt i (A++(tkW (opW i)::B)) (.bin n a b):=fun s st l hg hq hn hf=>by
 have hn:st.2+((a.size+b.size+1:Nat):Int)≤64:=hn;rw[List.append_assoc]at hq;have hfa:ztl i (tkW (opW i)::B++l):=by
  rcases (show i=0∨i=1∨i=2 by omega) with rfl|rfl|rfl
  ·exact⟨rfl,rfl,fun _=>rfl⟩
  ·exact⟨rfl,fun _=>rfl⟩
  ·exact fun _=>rfl
 obtain⟨st1,e1,g1⟩:=hA s st _ hg hq (by omega) hfa;have q1:Sq s st1.1 (tkW (opW i)::(B++l)):=g1.sq;have n1:=g1.n;have hop:gIs st1 (opW i)=true:=by
  rw[zh2 q1];show (true&&decide (opW i=opW i))=true;rw[decide_eq_true rfl];rfl
 obtain⟨e2,g2⟩:=zi0 g1.ok q1 (by omega);have n2:=g2.n;have hfb:ztl (i+1) l:=by
  rcases (show i=0∨i=1∨i=2 by omega) with rfl|rfl|rfl
  ·exact hf.2
  ·exact hf.2
  ·trivial
 obtain⟨st3,e3,g3⟩:=hB s _ l g2.ok g2.sq (by rw[n2,n1];omega) hfb;have e4:prsT s (.bin (i+1)) (gAdv s (st1.1,st1.2+1))= .ok (b,st3):=by
  rcases (show i=0∨i=1∨i=2 by omega) with rfl|rfl|rfl
  ·have e3:prsT s (.bin 1) _=prsT s (.binL 1 b) st3:=e3;rw[zin (i:=1) g3.ok g3.sq hf.1]at e3;exact e3
  ·have e3:prsT s (.bin 2) _=prsT s (.binL 2 b) st3:=e3;rw[zin (i:=2) g3.ok g3.sq hf.1]at e3;exact e3
  ·have e3:prsT s .chain _=prsT s (.chainL b) st3:=e3;rw[zot g3.ok g3.sq hf]at e3;rw[zhn g2.ok (by decide)];exact e3
 have e5:prsT s (.binL i a) st1=prsT s (.binL i (.bin n a b)) st3:=by
  rw[ziq g1.ok hop,hn0];exact (okb e2 _).trans ((okb e4 _).trans rfl)
 refine⟨st3,?_,?_⟩
 ·rw[e1];rcases (show i=0∨i=1∨i=2 by omega) with rfl|rfl|rfl
  ·exact e5
  ·exact e5
  ·exact e5
 ·have:=(g1.trans g2).trans g3;rwa[show (a.size:Int)+1+(b.size:Int)=((Tr.bin n a b).size:Int) by show _=((a.size+b.size+1:Nat):Int);omega]at this
theorem fld_op {n:Nd} (h:zbq n=true) (hk:8≤ndK n∧ndK n≤10) (hLR:ndL n=0∧ndR n=0):n=(ndK n,zNd.2):=by
 rcases (show ndK n=8∨ndK n=9∨ndK n=10 by omega) with k|k|k
 ·rw[k];exact setN (fld8 h k) hLR.1 hLR.2
 ·rw[k];exact setN (fld9 h k) hLR.1 hLR.2
 ·rw[k];exact setN (fld10 h k) hLR.1 hLR.2
theorem zeW:∀ t:Tr,TrOk t->Qt (levI t) t.toks t
 | .leaf n,h=>by
  have:levI (.leaf n)=4:=by
   show (levS (ndK n) - 1).toNat=4;rw[zi7 h.2.1];rfl
  rw[this];exact zsI h
 | .un n a,h=>by
  obtain⟨h1,hk,hLR,ha⟩:=h;have:levI (.un n a)=3:=by
   show (levS (ndK n) - 1).toNat=3;rw[zi6 (by omega)];rfl
  rw[this];intro s st l hg hq hn hf;have hn:st.2+((a.size+1:Nat):Int)≤64:=hn;have hq:Sq s st.1 (parT (decide (a.lev≥4)) a.toks++ziN [] n++l):=hq;rw[List.append_assoc]at hq;obtain⟨st1,e1,g1⟩:=ziZ (zeW a ha) (i:=3) rfl (by decide) s st _ hg hq (by omega) trivial;have n1:=g1.n;obtain⟨st2,e2,g2⟩:=q_un (a:=a) h1 hk hLR g1.ok g1.sq (by omega);exact⟨st2,Eq.trans e1 e2,g1.trans g2⟩
 | .bin n a b,h=>by
  obtain⟨h1,hk,hLR,ha,hb⟩:=h;by_cases h17:ndK n=17
  ·have:levI (.bin n a b)=3:=by
    show (levS (ndK n) - 1).toNat=3;rw[zi6 (by omega)];rfl
   rw[this];intro s st l hg hq hn hf;have hn:st.2+((a.size+b.size+1:Nat):Int)≤64:=hn;unfold Tr.toks at hq;rw[if_pos h17,List.append_assoc]at hq;obtain⟨st1,e1,g1⟩:=ziZ (zeW a ha) (i:=3) rfl (by decide) s st _ hg hq (by omega) trivial;have n1:=g1.n;obtain⟨st2,e2,g2⟩:=zqC (a:=a) h1 h17 hLR (ziZ (zeW b hb) (r:=5) (i:=4) rfl (by decide)) g1.ok g1.sq (by omega);have:=g1.trans g2;rw[show (a.size:Int)+(1+(b.size:Int))=((Tr.bin n a b).size:Int) by show _=((a.size+b.size+1:Nat):Int);omega]at this;exact⟨st2,Eq.trans e1 e2,this⟩
  ·have hk:8≤ndK n∧ndK n≤10:=by omega
   have hn0:=fld_op h1 hk hLR;unfold Tr.toks;rw[if_neg h17];have hl:levI (.bin n a b)=(levS (ndK n) - 1).toNat:=rfl;rw[hl];rcases (show ndK n=8∨ndK n=9∨ndK n=10 by omega) with k|k|k<;>rw[k]at hn0 ⊢
   ·exact zk7 (i:=2) (by decide) (ziZ (zeW a ha) rfl (by decide)) (ziZ (zeW b hb) (r:=4) rfl (by decide)) hn0
   ·exact zk7 (i:=0) (by decide) (ziZ (zeW a ha) rfl (by decide)) (ziZ (zeW b hb) (r:=2) rfl (by decide)) hn0
   ·exact zk7 (i:=1) (by decide) (ziZ (zeW a ha) rfl (by decide)) (ziZ (zeW b hb) (r:=3) rfl (by decide)) hn0
theorem q_rule {T:List Tk} {t:Tr} (hT:Qt 0 T t) (hs:t.size≤64) (h:Toks s 0 T):zc3 s= .ok t:=by
 have hg:GOk s (zgN s):=zec;obtain⟨st',e,g⟩:=hT s (zgN s) [] hg (by rw[List.append_nil];exact zkZ h) (by show (0:Int)+_≤64;omega) ⟨rfl,rfl,trivial⟩;have e:prsT s (.bin 0) (zgN s)=prsT s (.binL 0 t) st':=e;rw[zin g.ok g.sq rfl]at e;have hc:Tok.cls st'.1=0:=g.sq;have hr:zeb s (zgN s)= .ok (t,st'):=by
  unfold zeb;refine (okb e _).trans ?_;have c0:zaE st' (Tok.cls st'.1==0) 3= .ok ():=by rw[hc];rfl
  exact (okb c0 _).trans rfl
 unfold zc3;rw[hr];rfl
end
def Bd:List UInt8->Prop
 | []=>True
 |c::_=>isPt c=false
theorem Bd.app {r v:List UInt8} (h:Bd r) (hv:Bd v):Bd (r++v):=by
 cases r with
 |nil=>exact hv
 |cons c r=>exact h
def zep (k:Int) (u:List UInt8):TokT:=
 match u with
 | []=>(0,k,0,[],0,())
 |c::r=>
  if 0 < zax (c::r) then (1,k,(zax (c::r):Nat),(c::r).take (zax (c::r)),0,())
  else if c=64∧0 < zax r then (2,k,(zax r:Nat)+1,r.take (zax r),0,())
  else match zc1 (c::r) with
   |some (q,n,t,x)=>(q,k,(n:Nat),t,x,())
   |none=>if c=40∨c=41∨c=61 then (4,k,1,[c],0,()) else (5,k,1,[c],0,())
theorem zk1 (s:List UInt8):zbd s=zep ((zbu isWh s:Nat):Int) (s.drop (zbu isWh s)):=rfl
theorem zqp (k:Int) (u:List UInt8):zep k u=((zep 0 u).1,k,(zep 0 u).2.2):=by
 cases u with
 |nil=>rfl
 |cons c r=>
  unfold zep;simp only[];split
  ·rfl
  ·split
   ·rfl
   ·split
    ·rfl
    ·split<;>rfl
theorem ziQ {p:UInt8->Bool} {w u:List UInt8} (h:∀ c∈w,p c=true):zbu p (w++u)=w.length+zbu p u:=by
 unfold zbu;rw[List.takeWhile_append_of_pos h,List.length_append]
theorem zrR {p:UInt8->Bool} {c:UInt8} {u:List UInt8} (h:p c=false):zbu p (c::u)=0:=by
 unfold zbu;rw[List.takeWhile_cons,h];rfl
theorem zsA {u:List UInt8} (h:Bd u):zbu isPt u=0:=by
 cases u with
 |nil=>rfl
 |cons c r=>exact zrR h
structure Sp (a:Tk) (w:List UInt8):Prop where
 ne:w≠ []
 nw:∀ c∈w,isWh c=false
 cls:a.1≠0
 sc:∀ r,(a.1=4∨Bd r)->zep 0 (w++r)=(a.1,0,((w.length:Nat):Int),a.2.1,a.2.2,())
inductive Lex:List UInt8->List Tk->Prop
 |nil {ws:List UInt8} (h:∀ c∈ws,isWh c=true):Lex ws []
 |tok {ws w r:List UInt8} {a:Tk} {l:List Tk} (h:∀ c∈ws,isWh c=true) (hw:Sp a w) (hb:a.1=4∨Bd r) (hr:Lex r l):Lex (ws++(w++r)) (a::l)
theorem Lex.ws {ws u:List UInt8} {l:List Tk} (h:∀ c∈ws,isWh c=true) (hu:Lex u l):Lex (ws++u) l:=by
 cases hu with
 |nil h2=>exact .nil fun c hc=>(List.mem_append.1 hc).elim (h c) (h2 c)
 |tok h2 hw hb hr=>
  rw[<-List.append_assoc];exact .tok (fun c hc=>(List.mem_append.1 hc).elim (h c) (h2 c)) hw hb hr
theorem Lex.sp {u:List UInt8} {l:List Tk} (hu:Lex u l):Lex (32::u) l:=Lex.ws (ws:=[32]) (fun c hc=>by rw[List.mem_singleton.1 hc];rfl) hu
theorem Lex.app {u:List UInt8} {l:List Tk} (hu:Lex u l) {v:List UInt8} {m:List Tk} (hv:Lex v m) (hb:Bd v):Lex (u++v) (l++m):=by
 induction hu with
 |nil h=>exact hv.ws h
 |tok h hw hb' _ ih=>
  rw[List.append_assoc,List.append_assoc];refine .tok h hw ?_ ih;rcases hb' with h4|hb'
  ·exact .inl h4
  ·exact .inr (hb'.app hb)
theorem Sp.lex {a:Tk} {w:List UInt8} (h:Sp a w):Lex w [a]:=by
 have:=Lex.tok (ws:=[]) (r:=[]) (l:=[]) (fun c hc=>by cases hc) h (.inr trivial) (.nil fun c hc=>by cases hc);rwa[List.nil_append,List.append_nil]at this
theorem Sp.lexR {a:Tk} {w:List UInt8} (h:Sp a w) {r:List UInt8} {l:List Tk} (hb:a.1=4∨Bd r) (hr:Lex r l):Lex (w++r) (a::l):=by
 have:=Lex.tok (ws:=[]) (fun c hc=>by cases hc) h hb hr;rwa[List.nil_append]at this
theorem zqY {u:List UInt8} {l:List Tk} (h:Lex u l):∀ (s p:List UInt8),s=p++u->Toks s ((p.length:Nat):Int) l:=by
 induction h with
 | @nil ws h=>
  intro s p hs;show Tok.cls (zc7 s _)=0;unfold zc7;rw[hs,Int.toNat_natCast,List.drop_left,zk1];have e:zbu isWh ws=ws.length:=by
   have:=ziQ (u:=[]) h;rw[List.append_nil]at this;rw[this];rfl
  rw[e,List.drop_length];rfl
 | @tok ws w r a l h hw hb hr ih=>
  intro s p hs;have hd:s.drop p.length=ws++(w++r):=by rw[hs,List.drop_left]
  have e:zbu isWh (ws++(w++r))=ws.length:=by
   rw[ziQ h];cases w with
   |nil=>exact absurd rfl hw.ne
   |cons c q=>
    rw[List.cons_append,zrR (hw.nw c (List.mem_cons_self ..))];rfl
  have hsc:zc7 s ((p.length:Nat):Int)=(a.1,((ws.length:Nat):Int)+((p.length:Nat):Int),((w.length:Nat):Int),a.2.1,a.2.2,()):=by
   unfold zc7;rw[Int.toNat_natCast,hd,zk1,e,List.drop_left,zqp,hw.sc r hb];rfl
  refine⟨?_,?_,?_⟩
  ·rw[hsc];exact hw.cls
  ·rw[hsc];rfl
  ·rw[hsc];have:=ih s (p++ws++w) (by rw[hs];simp);rw[List.length_append,List.length_append]at this;show Toks s (((ws.length:Nat):Int)+((p.length:Nat):Int)+((w.length:Nat):Int)) l;rwa[show ((ws.length:Nat):Int)+((p.length:Nat):Int)+((w.length:Nat):Int)=((p.length+ws.length+w.length:Nat):Int) by omega]
theorem zg4 {p:UInt8->Bool} (h:∀ n:Fin 256,p (UInt8.ofNat n.val)=true) (c:UInt8):p c=true:=by
 have:=h ⟨c.toNat,c.toNat_lt⟩;rwa[UInt8.ofNat_toNat]at this
theorem zqS (c:UInt8) (h:isLt c=true):isPt c=true∧isWh c=false∧isDg c=false∧c≠64∧c≠45:=by
 have:=zg4 (p:=fun c=>!isLt c||(isPt c&& !isWh c&& !isDg c&&(c != 64)&&(c != 45))) (by decide+kernel) c;rw[h]at this;simp only[Bool.not_true,Bool.false_or,Bool.and_eq_true,Bool.not_eq_true',bne_iff_ne]at this;exact⟨this.1.1.1.1,this.1.1.1.2,this.1.1.2,this.1.2,this.2⟩
theorem pt_wh (c:UInt8) (h:isPt c=true):isWh c=false:=by
 have:=zg4 (p:=fun c=>!isPt c|| !isWh c) (by decide+kernel) c;rw[h]at this
 simpa using this
theorem zg1 (c:UInt8) (h:isDg c=true):isPt c=true∧isLt c=false∧isWh c=false∧c≠64∧c≠45∧c≠40∧c≠41∧c≠61:=by
 have:=zg4 (p:=fun c=>!isDg c||(isPt c&& !isLt c&& !isWh c&&(c != 64)&&(c != 45)&&(c != 40)&&(c != 41)&&(c != 61))) (by decide+kernel) c;rw[h]at this;simp only[Bool.not_true,Bool.false_or,Bool.and_eq_true,Bool.not_eq_true',bne_iff_ne]at this;exact⟨this.1.1.1.1.1.1.1,this.1.1.1.1.1.1.2,this.1.1.1.1.1.2,this.1.1.1.1.2,this.1.1.1.2,this.1.1.2,this.1.2,this.2⟩
theorem zgp {w r:List UInt8} (hne:w≠ []) (h1:w.head?.all isLt=true) (h2:∀ c∈w,isPt c=true) (hb:Bd r):zax (w++r)=w.length:=by
 cases w with
 |nil=>exact absurd rfl hne
 |cons c q=>
  have hc:isLt c=true:=h1;show (if isLt c then zbu isPt (c::q++r) else 0)=_;rw[if_pos hc,ziQ h2,zsA hb];rfl
theorem zsB {w:List UInt8} (hne:w≠ []) (h1:w.head?.all isLt=true) (h2:∀ c∈w,isPt c=true):Sp (tkW w) w:=by
 refine⟨hne,fun c hc=>pt_wh c (h2 c hc),by show (1:Int)≠0;decide,fun r hb=>?_⟩;have hb:Bd r:=hb.resolve_left (by show (1:Int)≠4;decide);have hl:=zgp hne h1 h2 hb;have hp:0 < w.length:=List.length_pos_iff.2 hne;cases w with
 |nil=>exact absurd rfl hne
 |cons c q=>
  show zep 0 (c::(q++r))=_;unfold zep;have hl:zax (c::(q++r))=(c::q).length:=hl;simp only[];rw[hl,if_pos hp];show (1,0,_,(c::q++r).take (c::q).length,0,())=_;rw[List.take_left];rfl
theorem sp_ref {w:List UInt8} (h:zc9 w=true):Sp (tkR w) (64::w):=by
 unfold zc9 at h;simp only[Bool.and_eq_true,decide_eq_true_iff,List.all_eq_true]at h;obtain⟨⟨hne,_⟩,h1,h2⟩:=h;refine⟨by simp,fun c hc=>?_,by show (2:Int)≠0;decide,fun r hb=>?_⟩
 ·rcases List.mem_cons.1 hc with rfl|hc
  ·rfl
  ·exact pt_wh c (h2 c hc)
 have hb:Bd r:=hb.resolve_left (by show (2:Int)≠4;decide);have hl:=zgp hne h1 h2 hb;have hp:0 < w.length:=List.length_pos_iff.2 hne;show zep 0 (64::(w++r))=_;unfold zep;have h64:zax (64::(w++r))=0:=rfl;simp only[];rw[h64,if_neg (by decide),hl,if_pos ⟨trivial,hp⟩,List.take_left];show (2,0,((w.length:Nat):Int)+1,w,0,())=(2,0,(((64::w).length:Nat):Int),w,0,());rw[List.length_cons];rfl
theorem zlP {c:UInt8} (hc:c=40∨c=41∨c=61):Sp (tkS c) [c]:=by
 have hn:∀ r,zc1 (c::r)=none:=fun r=>by
  unfold zc1;have:(zaN (c::r)).length=0:=by
   unfold zaN zaR;rcases hc with rfl|rfl|rfl<;>rfl
  rw[if_pos this]
 refine⟨by simp,fun d hd=>?_,by show (4:Int)≠0;decide,fun r _=>?_⟩
 ·rw[List.mem_singleton.1 hd];rcases hc with rfl|rfl|rfl<;>rfl
 show zep 0 (c::r)=_;unfold zep;have h0:zax (c::r)=0:=by rcases hc with rfl|rfl|rfl<;>rfl
 have h64:c≠64:=by rcases hc with rfl|rfl|rfl<;>decide
 simp only[];rw[h0,if_neg (by decide),if_neg (fun h=>h64 h.1),hn,if_pos hc];rfl
theorem zoF (l:List UInt8) (c:UInt8):numv (l++ [c])=10 * numv l+(c.toNat - 48):=by unfold numv;rw[List.foldl_append];rfl
theorem zmr {d:Nat} (h:d < 10):isDg (UInt8.ofNat (48+d))=true∧(UInt8.ofNat (48+d)).toNat=48+d:=by
 have e:(UInt8.ofNat (48+d)).toNat=48+d:=by rw[UInt8.toNat_ofNat'];exact Nat.mod_eq_of_lt (by omega)
 refine⟨?_,e⟩;unfold isDg;rw[Bool.and_eq_true,decide_eq_true_iff,decide_eq_true_iff,UInt8.le_iff_toNat_le,UInt8.le_iff_toNat_le,e];exact⟨by show 48≤_;omega,by show _≤57;omega⟩
theorem zkA (u:Nat):(∀ c∈Lib.decDigits u,isDg c=true)∧numv (Lib.decDigits u)=u∧(1≤u->(Lib.decDigits u).head? ≠some 48)∧Lib.decDigits u≠ []:=by
 induction u using Nat.strongRecOn with
 |_ u ih=>
  rw[Lib.decDigits];by_cases hu:u < 10
  ·rw[dif_pos hu];obtain⟨h1,h2⟩:=zmr hu;refine⟨fun c hc=>by rw[List.mem_singleton.1 hc];exact h1,?_,fun h0 e=>?_,by simp⟩
   ·show 10 * 0+((UInt8.ofNat (48+u)).toNat - 48)=u;rw[h2];omega
   ·have e:some (UInt8.ofNat (48+u))=some 48:=e;have:=congrArg UInt8.toNat (Option.some.inj e);rw[h2]at this;have:48+u=48:=this;omega
  ·rw[dif_neg hu];obtain⟨i1,i2,i3,i4⟩:=ih (u / 10) (by omega);obtain⟨h1,h2⟩:=zmr (d:=u % 10) (by omega);refine⟨fun c hc=>?_,?_,fun _ e=>?_,by simp⟩
   ·rcases List.mem_append.1 hc with hc|hc
    ·exact i1 c hc
    ·rw[List.mem_singleton.1 hc];exact h1
   ·rw[zoF,i2,h2];omega
   ·refine i3 (by omega) ?_;cases hd:Lib.decDigits (u / 10) with
    |nil=>exact absurd hd i4
    |cons c q=>rw[hd]at e;exact e
theorem znU {w r:List UInt8} (h:∀ c∈w,isDg c=true) (hb:Bd r):(w++r).takeWhile isDg=w:=by
 rw[List.takeWhile_append_of_pos h];have:r.takeWhile isDg=[]:=by
  cases r with
  |nil=>rfl
  |cons c q=>
   have hb:isPt c=false:=hb;rw[List.takeWhile_cons];have:isDg c=false:=by
    cases hd:isDg c with
    |false=>rfl
    |true=>rw[(zg1 c hd).1]at hb;cases hb
   rw[this];rfl
 rw[this,List.append_nil]
def ze7 (n:Int):Prop:=-1125899906842624 < n∧n < 1125899906842624
theorem znX {n:Int} (h:ze7 n):Sp (tkN n) (deI n):=by
 obtain⟨h1,h2⟩:=h;unfold deI Lib.itoa;by_cases hn:n < 0
 ·obtain⟨d1,d2,d3,d4⟩:=zkA n.natAbs;have d3:=d3 (by omega);generalize hD:Lib.decDigits n.natAbs=D at *;have hde:deI n=45::D:=by unfold deI Lib.itoa;rw[if_pos hn,hD]
  rw[if_pos hn];refine⟨by simp,fun c hc=>?_,by show (3:Int)≠0;decide,fun r hb=>?_⟩
  ·rcases List.mem_cons.1 hc with rfl|hc
   ·rfl
   ·exact (zg1 c (d1 c hc)).2.2.1
  have hb:Bd r:=hb.resolve_left (by show (3:Int)≠4;decide);have hlen:0 < D.length:=List.length_pos_iff.2 d4;have hs:zaR (45::(D++r))=1:=rfl;have hg:zaN (45::(D++r))=D:=by
   unfold zaN;rw[hs];exact znU d1 hb
  have hv:valN (45::(D++r))=n:=by
   unfold valN;rw[hs,if_pos rfl,hg,d2,Nat.min_eq_left (by unfold zdl;omega)];omega
  show zep 0 (45::(D++r))=_;unfold zep;simp only[];rw[show zax (45::(D++r))=0 from rfl,if_neg (by decide),if_neg (fun h=>absurd h.1 (by decide))];have hnt:zc1 (45::(D++r))=some (3,1+D.length,(45::(D++r)).take (1+D.length),n):=by
   unfold zc1;rw[hg,hs,hv,if_neg (by omega),if_neg (fun h=>d3 h.1)]
  rw[hnt];have ht:(45::(D++r)).take (1+D.length)=45::D:=by
   rw[Nat.add_comm,List.take_succ_cons,List.take_left]
  show (3,0,((1+D.length:Nat):Int),(45::(D++r)).take (1+D.length),n,())=(3,0,(((45::D).length:Nat):Int),deI n,n,());rw[ht,hde,List.length_cons,Nat.add_comm]
 ·obtain⟨d1,d2,d3,d4⟩:=zkA n.toNat;have hz:n.toNat=0->Lib.decDigits n.toNat=[48]:=fun e=>by rw[e,Lib.decDigits];rfl
  generalize hD:Lib.decDigits n.toNat=D at *;have hde:deI n=D:=by unfold deI Lib.itoa;rw[if_neg hn,hD]
  rw[if_neg hn];refine⟨d4,fun c hc=>(zg1 c (d1 c hc)).2.2.1,by show (3:Int)≠0;decide,fun r hb=>?_⟩;have hb:Bd r:=hb.resolve_left (by show (3:Int)≠4;decide);have hlen:0 < D.length:=List.length_pos_iff.2 d4;cases D with
  |nil=>exact absurd rfl d4
  |cons c q=>
   have hdg:=d1 c (List.mem_cons_self ..);obtain⟨_,f1,_,f2,f3,_⟩:=zg1 c hdg;have hs:zaR (c::(q++r))=0:=by
    unfold zaR;exact if_neg (fun e=>f3 (Option.some.inj e))
   have hg:zaN (c::(q++r))=c::q:=by
    unfold zaN;rw[hs];exact znU (w:=c::q) d1 hb
   have hv:valN (c::(q++r))=n:=by
    unfold valN;rw[hs,if_neg (by decide),hg,d2,Nat.min_eq_left (by unfold zdl;omega)];omega
   show zep 0 (c::(q++r))=_;unfold zep;simp only[];rw[show zax (c::(q++r))=0 by show (if isLt c then zbu isPt (c::(q++r)) else 0)=0;rw[f1];rfl,if_neg (by decide),if_neg (fun h=>f2 h.1)];have hnt:zc1 (c::(q++r))=some (3,0+(c::q).length,(c::(q++r)).take (0+(c::q).length),n):=by
    unfold zc1;rw[hg,hs,hv,if_neg (by omega),if_neg];rintro ⟨e1,e2⟩;by_cases h0:n.toNat=0
    ·have e3:q=[]:=by have:=hz h0;exact (List.cons.inj this).2
     rw[e3]at e2;have e2:1 < 0+1:=e2;omega
    ·exact d3 (by omega) e1
   rw[hnt];have ht:(c::(q++r)).take (0+(c::q).length)=c::q:=by
    rw[Nat.zero_add];exact List.take_left (l₁:=c::q)
   show (3,0,((0+(c::q).length:Nat):Int),(c::(q++r)).take (0+(c::q).length),n,())=(3,0,(((c::q).length:Nat):Int),deI n,n,());rw[ht,hde,Nat.zero_add]
theorem zcw:∀ l:List Int,(∀ x∈l,ze7 x)->Lex (zcl l) (l.map tkN)∧Bd (zcl l)
 | [],_=>⟨.nil (fun c hc=>(by cases hc)),trivial⟩
 |x::r,h=>by
  obtain⟨h1,h2⟩:=zcw r fun y hy=>h y (List.mem_cons_of_mem _ hy);refine⟨?_,rfl⟩;show Lex (32::deI x++zcl r) (tkN x::r.map tkN);exact ((znX (h x (List.mem_cons_self ..))).lexR (.inr h2) h1).sp
theorem zo1:∀ (l:List Int) (i:Nat),(∀ x∈l,ze7 x)->Lex (litS (i+1) l++ [41]) (l.map tkN++ [tkS 41])∧Bd (litS (i+1) l++ [41])
 | [],_,_=>⟨(zlP (.inr (.inl rfl))).lex,rfl⟩
 |x::r,i,h=>by
  obtain⟨h1,h2⟩:=zo1 r (i+1) fun y hy=>h y (List.mem_cons_of_mem _ hy);have e:litS (i+1) (x::r)++ [41]=32::(deI x++(litS (i+1+1) r++ [41])):=by
   show (sepS (i+1)++deI x++litS (i+1+1) r)++ [41]=_;simp[sepS]
  rw[e];exact⟨((znX (h x (List.mem_cons_self ..))).lexR (.inr h2) h1).sp,rfl⟩
theorem zd8 {l:List Int} (hne:l≠ []) (h:∀ x∈l,ze7 x):Lex (zch l) (zdh l)∧Bd (zch l):=by
 cases l with
 |nil=>exact absurd rfl hne
 |cons x r=>
  obtain⟨h1,h2⟩:=zo1 r 0 fun y hy=>h y (List.mem_cons_of_mem _ hy);have e:zch (x::r)=32::([40]++(deI x++(litS (0+1) r++ [41]))):=by
   show (sepS 0++deI x++litS (0+1) r)++ [41]=_;simp[sepS]
  rw[e];exact⟨((zlP (.inl rfl)).lexR (.inl rfl) ((znX (h x (List.mem_cons_self ..))).lexR (.inr h2) h1)).sp,rfl⟩
theorem za9 {w:List UInt8} (hne:w≠ []) (h1:w.head?.all isLt=true) (h2:w.all isPt=true) {r:List UInt8} {l:List Tk} (hr:Lex r l) (hb:Bd r):Lex (w++r) (tkW w::l):=
 (zsB hne h1 (List.all_eq_true.1 h2)).lexR (.inr hb) hr
theorem zkc (n:Int) {r:List UInt8} {l:List Tk} (hr:Lex r l) (hb:Bd r):Lex (zcr n++r) (zeo n::l)∧Bd (zcr n++r):=by
 unfold zcr zeo;split
 ·exact⟨(za9 (by decide) rfl (by decide) hr hb).sp,rfl⟩
 ·exact⟨(za9 (by decide) rfl (by decide) hr hb).sp,rfl⟩
theorem zsZ:Lex [] []:=.nil fun c hc=>by cases hc
theorem zhu {c:Bool} {u:List UInt8} {l:List Tk} (h:Lex u l):Lex (parS c u) (parT c l):=by
 cases c with
 |true=>exact h
 |false=>exact (zlP (.inl rfl)).lexR (.inl rfl) (h.app (zlP (.inr (.inl rfl))).lex rfl)
def Tr.text:Tr->List UInt8
 | .leaf n=>zcI n
 | .un n a=>parS (decide (a.lev≥4)) a.text++zcc [] n
 | .bin n a b=>if ndK n=17 then parS (decide (a.lev≥4)) a.text++zcc (parS (decide (b.lev≥5)) b.text) n
  else parS (decide (a.lev≥levS (ndK n))) a.text++(putS ([32]++opWd (levS (ndK n))++ [32]) []++parS (decide (b.lev≥levS (ndK n)+1)) b.text)
theorem zcA {lo hi:Int} {z:Bool} (h1: -1125899906842624 < lo) (h2:hi < 1125899906842624):∀ {l:List Int} {last:Int},Ris lo hi z last l->∀ x∈l,ze7 x
 | [],_,_,x,hx=>by cases hx
 |y::r,_,h,x,hx=>by
  obtain⟨_,a,b,_,h⟩:=h;rcases List.mem_cons.1 hx with rfl|hx
  ·exact⟨by omega,by omega⟩
  ·exact zcA h1 h2 h x hx
theorem num1 {a:Int} (h:ze7 a):∀ x∈ [a],ze7 x:=fun x hx=>by rw[List.mem_singleton.1 hx];exact h
theorem num2 {a b:Int} (h:ze7 a) (h':ze7 b):∀ x∈ [a,b],ze7 x:=fun x hx=>by
 rcases List.mem_cons.1 hx with rfl|hx
 ·exact h
 ·exact num1 h' x hx
theorem num3 {a b c:Int} (h:ze7 a) (h':ze7 b) (h'':ze7 c):∀ x∈ [a,b,c],ze7 x:=fun x hx=>by
 rcases List.mem_cons.1 hx with rfl|hx
 ·exact h
 ·exact num2 h' h'' x hx
theorem nt {a lo hi:Int} (h:lo≤a∧a≤hi) (h1: -1125899906842624 < lo:=by decide) (h2:hi < 1125899906842624:=by decide):ze7 a:=⟨by omega,by omega⟩
theorem zqZ {n:Nd} (h1:zbq n=true) (h2:¬ (8≤ndK n∧ndK n≤17)):Lex (zcI n) (zkd n):=by
 obtain⟨⟨k1,k2⟩,_⟩:=zaC h1;unfold zcI zkd;rcases (show ndK n=1∨ndK n=2∨ndK n=3∨ndK n=4∨ndK n=5∨ndK n=6∨ndK n=7∨ndK n=18 by omega) with k|k|k|k|k|k|k|k<;>rw[k]
 ·obtain⟨e,b1,b2⟩:=fld1 h1 k;obtain⟨x,y⟩:=zcw [ndN n,ndM n] (num2 (nt b1) (nt b2));exact za9 (w:=ziK) (by decide) rfl (by decide) x y
 ·obtain⟨e,b0,b1,b2⟩:=fld2 h1 k;obtain⟨x,y⟩:=zcw [ndC n,ndN n,ndM n] (num3 (nt b0) (nt b1) ⟨by omega,by omega⟩);exact za9 (w:=zfi) (by decide) rfl (by decide) x y
 ·obtain⟨e,b0,b1,b2,b3⟩:=fld3 h1 k;obtain⟨x,y⟩:=zcw [ndC n] (num1 (nt b0));obtain⟨x2,y2⟩:=zd8 b1 (zcA (by decide) (by decide) b3);have:=za9 (w:=zcy) (by decide) rfl (by decide) (x.app x2 y2) (y.app y2);rwa[<-List.append_assoc]at this
 ·obtain⟨e,b0,b1,b2,b3⟩:=fld4 h1 k;obtain⟨x,y⟩:=zcw [ndC n] (num1 (nt b0));obtain⟨x2,y2⟩:=zd8 b1 (zcA (by decide) (by decide) b3);have:=za9 (w:=za3) (by decide) rfl (by decide) (x.app x2 y2) (y.app y2);rwa[<-List.append_assoc]at this
 ·obtain⟨e,b1,b2,b3⟩:=fld5 h1 k;obtain⟨x2,y2⟩:=zd8 b1 (zcA (by decide) (by decide) b3);exact za9 (w:=zbl) (by decide) rfl (by decide) x2 y2
 ·obtain⟨e,b0,b1,b2,b3⟩:=fld6 h1 k;obtain⟨x,y⟩:=zcw [ndC n] (num1 (nt b0));obtain⟨x2,y2⟩:=zd8 b1 (zcA (by decide) (by decide) b3);have:=za9 (w:=zdr) (by decide) rfl (by decide) (x.app x2 y2) (y.app y2);rwa[<-List.append_assoc]at this
 ·obtain⟨e,b0,b1,bz,b2,b3⟩:=fld7 h1 k;obtain⟨x,y⟩:=zcw [ndC n,ndN n,ndM n] (num3 (nt b0) (nt b1) (nt b2));obtain⟨x2,y2⟩:=zkc (ndL n) zsZ trivial;have:=za9 (w:=wNth) (by decide) rfl (by decide) (x.app x2 y2) (y.app y2);rw[<-List.append_assoc]at this;exact this
 ·obtain⟨e,b0⟩:=ztn h1 k;show Lex ((64::ndS n)++ []) [tkR (ndS n)];rw[List.append_nil];exact (sp_ref b0).lex
theorem zo0 {n:Nd} {b:List UInt8} {B:List Tk} (h1:zbq n=true) (h2:11≤ndK n∧ndK n≤17) (hB:ndK n=17->Lex b B):Lex (zcc b n) (ziN B n)∧Bd (zcc b n):=by
 unfold zcc ziN;rcases (show ndK n=11∨ndK n=12∨ndK n=13∨ndK n=14∨ndK n=15∨ndK n=16∨ndK n=17 by omega) with k|k|k|k|k|k|k<;>rw[k]
 ·obtain⟨e,b1⟩:=ztr h1 k;obtain⟨x,y⟩:=zcw [ndN n] (num1 (nt b1));exact⟨(za9 (w:=zeU) (by decide) rfl (by decide) x y).sp,rfl⟩
 ·obtain⟨e,b1⟩:=ztq h1 k;obtain⟨x,y⟩:=zcw [ndN n] (num1 (nt b1));exact⟨(za9 (w:=zhY) (by decide) rfl (by decide) x y).sp,rfl⟩
 ·obtain⟨e,b1⟩:=ztp h1 k;obtain⟨x,y⟩:=zcw [ndN n] (num1 (nt b1));exact⟨(za9 (w:=zeT) (by decide) rfl (by decide) x y).sp,rfl⟩
 ·obtain⟨e,b1,b2,b3⟩:=zrm h1 k;obtain⟨x2,y2⟩:=zd8 b1 (zcA (by decide) (by decide) b3);exact⟨(za9 (w:=ze2) (by decide) rfl (by decide) x2 y2).sp,rfl⟩
 ·obtain⟨e,b1,b2,b3⟩:=zrl h1 k;obtain⟨x2,y2⟩:=zd8 b1 (zcA (by decide) (by decide) b3);exact⟨(za9 (w:=zcz) (by decide) rfl (by decide) x2 y2).sp,rfl⟩
 ·obtain⟨e,b0,⟨b1,b2,b3⟩,b4⟩:=zrk h1 k;obtain⟨x,y⟩:=zcw [ndC n] (num1 (nt b0));obtain⟨x2,y2⟩:=zd8 b1 (zcA (by decide) (by decide) b3);obtain⟨x3,y3⟩:=zkc (ndM n) x2 y2;refine⟨?_,rfl⟩;show Lex ((32::wPos)++zcl [ndC n]++((zcr (ndM n)++ [])++zch (ndI n))) _;rw[List.append_nil,List.append_assoc];exact (za9 (w:=wPos) (by decide) rfl (by decide) (x.app x3 y3) (y.app y3)).sp
 ·obtain⟨e,b1⟩:=zto h1 k;obtain⟨x,y⟩:=zcw [ndN n] (num1 (nt b1));refine⟨?_,rfl⟩;show Lex ((32::zbT)++zcl [ndN n]++(((32::wOf)++ [32]++ [])++b)) _;rw[List.append_nil,List.append_assoc,List.append_assoc];have x3:Lex (32::(wOf++([32]++b))) (tkW wOf::B):=(za9 (w:=wOf) (by decide) rfl (by decide) (hB k).sp rfl).sp;exact (za9 (w:=zbT) (by decide) rfl (by decide) (x.app x3 rfl) (y.app rfl)).sp
theorem zeL:∀ t:Tr,TrOk t->Lex t.text t.toks
 | .leaf n,h=>zqZ h.1 h.2.1
 | .un n a,h=>by
  obtain⟨h1,hk,_,ha⟩:=h;obtain⟨x,y⟩:=zo0 (b:=[]) (B:=[]) h1 (by omega) (fun e=>by omega);exact (zhu (zeL a ha)).app x y
 | .bin n a b,h=>by
  obtain⟨h1,hk,_,ha,hb⟩:=h;unfold Tr.text Tr.toks;split
  ·rename_i h17;obtain⟨x,y⟩:=zo0 (n:=n) h1 (by omega) (fun _=>zhu (c:=decide (b.lev≥5)) (zeL b hb));exact (zhu (zeL a ha)).app x y
  ·rename_i h17;have hl:levS (ndK n)=1∨levS (ndK n)=2∨levS (ndK n)=3:=by
    rcases (show ndK n=8∨ndK n=9∨ndK n=10 by omega) with k|k|k<;>rw[k]
    ·exact .inr (.inr rfl)
    ·exact .inl rfl
    ·exact .inr (.inl rfl)
   have hB:=zhu (c:=decide (b.lev≥levS (ndK n)+1)) (zeL b hb);generalize parS (decide (b.lev≥levS (ndK n)+1)) b.text=v at hB ⊢;generalize parT (decide (b.lev≥levS (ndK n)+1)) b.toks=m at hB ⊢;have hw:Lex (putS ([32]++opWd (levS (ndK n))++ [32]) []++v) (tkW (opWd (levS (ndK n)))::m)∧Bd (putS ([32]++opWd (levS (ndK n))++ [32]) []++v):=by
    have e:putS ([32]++opWd (levS (ndK n))++ [32]) []++v=32::(opWd (levS (ndK n))++(32::v)):=by
     show (([32]++opWd (levS (ndK n))++ [32])++ [])++v=_;simp
    rw[e];refine⟨?_,rfl⟩;rcases hl with hl|hl|hl<;>rw[hl]
    ·exact (za9 (w:=wOr) (by decide) rfl (by decide) hB.sp rfl).sp
    ·exact (za9 (w:=zlJ) (by decide) rfl (by decide) hB.sp rfl).sp
    ·exact (za9 (w:=wAnd) (by decide) rfl (by decide) hB.sp rfl).sp
   exact (zhu (zeL a ha)).app hw.1 hw.2
theorem zsH {t:Tr} (h:TrOk t):Qt 0 t.toks t:=(zeW t h).up (Nat.zero_le _) (by have:=zlh (ndK t.root);unfold levI Tr.lev;omega)
theorem zis {t:Tr} (h:TrOk t) (hs:t.size≤64):zc3 t.text= .ok t:=q_rule (zsH h) hs (zqY (zeL t h) _ [] rfl)
def opsN (n:Nd):Int:=(zbH (ndK n)).1
def zdU (n:Nd) (i:Int):Bool:=
 (bif decide (0 < opsN n) then inB (ndL n) 0 (i - 1) else (ndL n==0)||(ndK n==7))&&(bif decide (1 < opsN n) then inB (ndR n) 0 (i - 1) else ndR n==0)
def bump (u:List Int) (j:Int):List Int:=u.set j.toNat (u.getD j.toNat 0+1)
def zbm (u:List Int) (n:Nd):List Int:=
 bif decide (1 < opsN n) then bump (bump u (ndL n)) (ndR n) else bif decide (0 < opsN n) then bump u (ndL n) else u
def za6 (r:List Nd) (k:Nat):List Int:=(r.take k).foldl zbm (List.replicate r.length 0)
def zbn (n:Nd) (i:Int):Bool:=zbq n&&zdU n i
def zb0 (r:List Nd):Nat->Bool
 |0=>true
 |k+1=>zb0 r k&&zbn (r.getD k zNd) (k:Int)
def wfS (r:List Nd):Bool:=decide (1≤r.length)&&decide (r.length≤64)&&zb0 r r.length&& !((za6 r r.length).take (r.length - 1)).any not1
def zbh (r:List Nd):Int:=if 64 < r.length∨r.any bigN=true then 2 else if wfS r=true then 0 else 1
theorem zdt {r:List Nd}:∀ {k:Nat},zb0 r k=true↔∀ j,j < k->zbn (r.getD j zNd) (j:Int)=true
 |0=>⟨fun _ j h=>by omega,fun _=>rfl⟩
 |k+1=>by
  unfold zb0;rw[Bool.and_eq_true,zdt (k:=k)];constructor
  ·rintro ⟨h1,h2⟩ j hj;by_cases e:j=k
   ·rw[e];exact h2
   ·exact h1 j (by omega)
  ·exact fun h=>⟨fun j hj=>h j (by omega),h k (by omega)⟩
theorem zeI (r:List Nd) (j:Nat):zam r (j:Int)=r.getD j zNd:=rfl
theorem zl0 {n:Nd} (h:11≤ndK n∧ndK n≤16):opsN n=1:=by
 unfold opsN;rcases (show ndK n=11∨ndK n=12∨ndK n=13∨ndK n=14∨ndK n=15∨ndK n=16 by omega) with k|k|k|k|k|k<;>rw[k]<;>rfl
theorem zi4 {n:Nd} (h:(8≤ndK n∧ndK n≤10)∨ndK n=17):opsN n=2:=by
 unfold opsN;rcases (show ndK n=8∨ndK n=9∨ndK n=10∨ndK n=17 by omega) with k|k|k|k<;>rw[k]<;>rfl
theorem zgX {n:Nd} (h1:1≤ndK n∧ndK n≤18) (h:¬ (8≤ndK n∧ndK n≤17)):opsN n=0:=by
 unfold opsN;rcases (show ndK n=1∨ndK n=2∨ndK n=3∨ndK n=4∨ndK n=5∨ndK n=6∨ndK n=7∨ndK n=18 by omega) with k|k|k|k|k|k|k|k<;>rw[k]<;>rfl
theorem zoE {n:Nd} {i:Int} (h:11≤ndK n∧ndK n≤16):zdU n i=true↔(0≤ndL n∧ndL n≤i - 1)∧ndR n=0:=by
 unfold zdU;rw[zl0 h,decide_eq_true (by decide),decide_eq_false (by decide),cond_true,cond_false,Bool.and_eq_true,zaG,beq_iff_eq]
theorem zi5 {n:Nd} {i:Int} (h:(8≤ndK n∧ndK n≤10)∨ndK n=17):zdU n i=true↔(0≤ndL n∧ndL n≤i - 1)∧(0≤ndR n∧ndR n≤i - 1):=by
 unfold zdU;rw[zi4 h,decide_eq_true (by decide),decide_eq_true (by decide),cond_true,cond_true,Bool.and_eq_true,zaG,zaG]
theorem zl2 {n:Nd} {i:Int} (h1:1≤ndK n∧ndK n≤18) (h:¬ (8≤ndK n∧ndK n≤17)):zdU n i=true↔(ndL n=0∨ndK n=7)∧ndR n=0:=by
 unfold zdU;rw[zgX h1 h,decide_eq_false (by decide),decide_eq_false (by decide),cond_false,cond_false,Bool.and_eq_true,Bool.or_eq_true,beq_iff_eq,beq_iff_eq,beq_iff_eq]
theorem zrV (n:Nd):n=(ndK n,ndC n,ndL n,ndR n,ndN n,ndM n,ndI n,ndS n,()):=rfl
theorem zg0 {n:Nd} (h:8≤ndK n∧ndK n≤17) (l r:Int):zbq (zck n l r)=zbq n:=by
 have h7:zbB (zck n l r)=zbB n:=by
  unfold zbB;have hk:(zck n l r).1=n.1:=rfl;have h7:(n.1==7)=false:=beq_eq_false_iff_ne.2 fun e=>by have:ndK n=7:=e;omega
  rw[hk,h7];rfl
 unfold zbq;rw[h7];rfl
def trF:Nat->List Nd->Int->Tr
 |0,r,i=>.leaf (zam r i)
 |k+1,r,i=>
  if 11≤ndK (zam r i)∧ndK (zam r i)≤16 then .un (zck (zam r i) 0 0) (trF k r (ndL (zam r i)))
  else if (8≤ndK (zam r i)∧ndK (zam r i)≤10)∨ndK (zam r i)=17 then .bin (zck (zam r i) 0 0) (trF k r (ndL (zam r i))) (trF k r (ndR (zam r i)))
  else .leaf (zam r i)
theorem zkV:∀ (k:Nat) (r:List Nd) (i:Int),(trF k r i).lev=levS (ndK (zam r i))
 |0,_,_=>rfl
 |k+1,r,i=>by
  unfold trF;split
  ·rfl
  ·split<;>rfl
def Low (r:List Nd):Prop:=∀ j:Nat,j < r.length->(8≤ndK (zam r j)->ndK (zam r j)≤17->0≤ndL (zam r j)∧ndL (zam r j) < j)∧(8≤ndK (zam r j)->ndK (zam r j)≤10∨ndK (zam r j)=17->0≤ndR (zam r j)∧ndR (zam r j) < j)
theorem zqi {n:Nd} (b:List UInt8) (h:11≤ndK n∧ndK n≤16):zcc b n=zcc [] (zck n 0 0):=by
 unfold zcc;have hk:ndK (zck n 0 0)=ndK n:=rfl;rw[hk];rcases (show ndK n=11∨ndK n=12∨ndK n=13∨ndK n=14∨ndK n=15∨ndK n=16 by omega) with k|k|k|k|k|k<;>rw[k]<;>rfl
theorem zlN (n:Nd) (a b:Tr):(Tr.bin n a b).text=if ndK n=17 then parS (decide (a.lev≥4)) a.text++zcc (parS (decide (b.lev≥5)) b.text) n
 else parS (decide (a.lev≥levS (ndK n))) a.text++(putS ([32]++opWd (levS (ndK n))++ [32]) []++parS (decide (b.lev≥levS (ndK n)+1)) b.text):=rfl
theorem zfA {r:List Nd} (hl:Low r):∀ (k:Nat) (i:Nat),i < k->i < r.length->zaO k r i=(trF k r i).text
 |0,_,h,_=>by omega
 |k+1,i,hk,hr=>by
  obtain⟨hL,hR⟩:=hl i hr;unfold zaO trF;generalize hn:zam r (i:Int)=n at *;have key:∀ j:Int,0≤j->j < (i:Int)->zaO k r j=(trF k r j).text:=fun j h0 h1=>by
   obtain⟨m,rfl⟩:∃ m:Nat,j=(m:Int):=⟨j.toNat,by omega⟩;exact zfA hl k m (by omega) (by omega)
  by_cases h11:11≤ndK n∧ndK n≤16
  ·rw[if_pos h11,zi6 (by omega),if_neg (by decide),if_pos rfl];obtain⟨a,b⟩:=hL (by omega) (by omega);show _=parS (decide ((trF k r (ndL n)).lev≥4)) (trF k r (ndL n)).text++zcc [] (zck n 0 0);rw[zkV,key _ a b,zqi _ h11]
  ·rw[if_neg h11];by_cases h8:(8≤ndK n∧ndK n≤10)∨ndK n=17
   ·rw[if_pos h8];obtain⟨a,b⟩:=hL (by omega) (by omega);obtain⟨c,d⟩:=hR (by omega) (by omega);rw[key _ a b,key _ c d];have hk:ndK (zck n 0 0)=ndK n:=rfl;rw[zlN,hk,zkV,zkV];by_cases h17:ndK n=17
    ·rw[if_pos h17,h17,if_neg (by decide),if_pos (by decide)];have:∀ b,zcc b n=zcc b (zck n 0 0):=fun b=>by
      unfold zcc;rw[hk,h17];rfl
     rw[this]
    ·have hlt:levS (ndK n) < 4:=by rcases (show ndK n=8∨ndK n=9∨ndK n=10 by omega) with k|k|k<;>rw[k]<;>decide
     rw[if_neg h17,if_pos hlt]
   ·rw[if_neg h8];rw[zi7 (by omega),if_neg (by decide),if_neg (by decide)];rfl
theorem zbA {r:List Nd} (h:zb0 r r.length=true) {j:Nat} (hj:j < r.length):zbq (zam r j)=true∧zdU (zam r j) (j:Int)=true:=by
 have:=zdt.1 h j hj;unfold zbn at this;rw[Bool.and_eq_true]at this;exact this
theorem zeY {r:List Nd} (h:zb0 r r.length=true):Low r:=fun j hj=>by
 obtain⟨_,h2⟩:=zbA h hj;constructor
 ·intro a b;by_cases hu:11≤ndK (zam r j)∧ndK (zam r j)≤16
  ·have:=((zoE hu).1 h2).1;omega
  ·have:=((zi5 (by omega)).1 h2).1;omega
 ·intro a b;have:=((zi5 (by omega)).1 h2).2;omega
theorem znL {r:List Nd} (h:zb0 r r.length=true):∀ (k i:Nat),i < k->i < r.length->TrOk (trF k r i)
 |0,_,hk,_=>by omega
 |k+1,i,hk,hr=>by
  obtain⟨h1,h2⟩:=zbA h hr;obtain⟨⟨k1,k2⟩,_⟩:=zaC h1;have key:∀ j:Int,0≤j->j≤(i:Int) - 1->TrOk (trF k r j):=fun j h0 h1=>by
   obtain⟨m,rfl⟩:∃ m:Nat,j=(m:Int):=⟨j.toNat,by omega⟩;exact znL h k m (by omega) (by omega)
  unfold trF;generalize zam r (i:Int)=n at *;by_cases h11:11≤ndK n∧ndK n≤16
  ·rw[if_pos h11];obtain⟨⟨a,b⟩,_⟩:=(zoE h11).1 h2;exact⟨by rw[zg0 (by omega)];exact h1,h11,⟨rfl,rfl⟩,key _ a b⟩
  ·rw[if_neg h11];by_cases h8:(8≤ndK n∧ndK n≤10)∨ndK n=17
   ·rw[if_pos h8];obtain⟨⟨a,b⟩,⟨c,d⟩⟩:=(zi5 h8).1 h2;exact⟨by rw[zg0 (by omega)];exact h1,h8,⟨rfl,rfl⟩,key _ a b,key _ c d⟩
   ·rw[if_neg h8];have hlf:¬ (8≤ndK n∧ndK n≤17):=by omega
    obtain⟨a,b⟩:=(zl2 ⟨k1,k2⟩ hlf).1 h2;exact⟨h1,hlf,b,fun e=>a.resolve_right e⟩
theorem zdN (u:List Int) (j:Int):(bump u j).length=u.length:=List.length_set ..
theorem zmL (u:List Int) (n:Nd):(zbm u n).length=u.length:=by
 unfold zbm;cases decide (1 < opsN n)<;>cases decide (0 < opsN n)<;>simp[zdN]
theorem zcX {u:List Int} {j:Int} {k:Nat} (hj:j.toNat < u.length):(bump u j).getD k 0=if k=j.toNat then u.getD k 0+1 else u.getD k 0:=by
 unfold bump;rw[List.getD_eq_getElem?_getD,List.getElem?_set];by_cases e:k=j.toNat
 ·subst e;rw[if_pos rfl,if_pos rfl,if_pos hj];rfl
 ·rw[if_neg fun h=>e h.symm,if_neg e,List.getD_eq_getElem?_getD]
theorem zcp (r:List Nd) (k:Nat):(za6 r k).length=r.length:=by
 unfold za6;have:∀ (l:List Nd) (u:List Int),(l.foldl zbm u).length=u.length:=by
  intro l
  induction l with
  |nil=>intro u;rfl
  |cons n l ih=>intro u;rw[List.foldl_cons,ih,zmL]
 rw[this,List.length_replicate]
theorem zcG {r:List Nd} {k:Nat} (hk:k < r.length):za6 r (k+1)=zbm (za6 r k) (zam r k):=by
 unfold za6;rw[List.take_succ_eq_append_getElem hk,List.foldl_append];show zbm _ r[k]=zbm _ (r.getD k zNd);rw[List.getD_eq_getElem?_getD,List.getElem?_eq_getElem hk];rfl
theorem zkU (r:List Nd) (j:Nat):(za6 r 0).getD j 0=0:=by
 unfold za6;rw[List.take_zero,List.foldl_nil,List.getD_eq_getElem?_getD,List.getElem?_replicate];split<;>rfl
theorem zfl {n:Nd} {u:List Int} (h:(8≤ndK n->ndK n≤17->0≤ndL n∧ndL n < u.length)∧(8≤ndK n->ndK n≤10∨ndK n=17->0≤ndR n∧ndR n < u.length)) (hk:1≤ndK n∧ndK n≤18) (k:Nat):
 (zbm u n).getD k 0=u.getD k 0+(if 8≤ndK n∧ndK n≤17∧k=(ndL n).toNat then 1 else 0)+(if ((8≤ndK n∧ndK n≤10)∨ndK n=17)∧k=(ndR n).toNat then 1 else 0):=by
 obtain⟨hL,hR⟩:=h;unfold zbm;by_cases h11:11≤ndK n∧ndK n≤16
 ·obtain⟨a,b⟩:=hL (by omega) (by omega);rw[zl0 h11,decide_eq_false (by decide),decide_eq_true (by decide),cond_false,cond_true,zcX (by omega)];rw[if_neg (c:=((8≤ndK n∧ndK n≤10)∨ndK n=17)∧k=(ndR n).toNat) (by omega)];by_cases e:k=(ndL n).toNat
  ·rw[if_pos e,if_pos ⟨by omega,by omega,e⟩];omega
  ·rw[if_neg e,if_neg fun h=>e h.2.2];omega
 ·by_cases h8:(8≤ndK n∧ndK n≤10)∨ndK n=17
  ·obtain⟨a,b⟩:=hL (by omega) (by omega);obtain⟨c,d⟩:=hR (by omega) (by omega);rw[zi4 h8,decide_eq_true (by decide),cond_true,zcX (by rw[zdN];omega),zcX (by omega)];by_cases e:k=(ndL n).toNat
   ·rw[if_pos e,if_pos (c:=8≤ndK n∧ndK n≤17∧k=(ndL n).toNat) ⟨by omega,by omega,e⟩];by_cases e2:k=(ndR n).toNat
    ·rw[if_pos e2,if_pos ⟨h8,e2⟩]
    ·rw[if_neg e2,if_neg fun h=>e2 h.2];omega
   ·rw[if_neg e,if_neg (c:=8≤ndK n∧ndK n≤17∧k=(ndL n).toNat) fun h=>e h.2.2];by_cases e2:k=(ndR n).toNat
    ·rw[if_pos e2,if_pos ⟨h8,e2⟩];omega
    ·rw[if_neg e2,if_neg fun h=>e2 h.2];omega
  ·rw[zgX hk (by omega),decide_eq_false (by decide),decide_eq_false (by decide),cond_false,cond_false,if_neg (by omega),if_neg (by omega)];omega
def pot (u:List Int) (f:Nat->Nat):Nat->Nat
 |0=>0
 |m+1=>pot u f m+(if u.getD m 0=0 then f m else 0)
theorem zgV {u:List Int} {f:Nat->Nat} {j:Int} (hj:j.toNat < u.length) (h0:u.getD j.toNat 0=0):∀ {m:Nat},(j.toNat < m->pot (bump u j) f m+f j.toNat=pot u f m)∧(m≤j.toNat->pot (bump u j) f m=pot u f m)
 |0=>⟨fun h=>by omega,fun _=>rfl⟩
 |m+1=>by
  obtain⟨i1,i2⟩:=zgV (f:=f) hj h0 (m:=m);constructor
  ·intro h;unfold pot;rw[zcX hj];by_cases e:m=j.toNat
   ·rw[i2 (by omega),if_pos e,e,h0,if_neg (by decide),if_pos rfl];omega
   ·rw[if_neg e, <-i1 (by omega)];omega
  ·intro h;unfold pot;rw[i2 (by omega),zcX hj,if_neg (c:=m=j.toNat) (by omega)]
theorem zeD {r:List Nd} (hl:Low r) (hk:∀ j:Nat,j < r.length->1≤ndK (zam r j)∧ndK (zam r j)≤18):∀ m,m≤r.length->∀ j,m≤j->(za6 r m).getD j 0=0
 |0,_,j,_=>zkU r j
 |m+1,hm,j,hj=>by
  obtain⟨a,b⟩:=hl m (by omega);rw[zcG (by omega),zfl (by rw[zcp];exact⟨fun x y=>by have:=a x y;omega,fun x y=>by have:=b x y;omega⟩) (hk m (by omega)),zeD hl hk m (by omega) j (by omega),if_neg,if_neg]
  ·omega
  ·rintro ⟨x,y⟩;have:=b (by omega) (by omega);omega
  ·rintro ⟨x,y,z⟩;have:=a x y;omega
theorem zg8 {r:List Nd} (hl:Low r) (hk:∀ j:Nat,j < r.length->1≤ndK (zam r j)∧ndK (zam r j)≤18) (j:Nat):∀ d m,m+d≤r.length->(za6 r m).getD j 0≤(za6 r (m+d)).getD j 0
 |0,m,_=>Int.le_refl _
 |d+1,m,h=>by
  have:=zg8 hl hk j d m (by omega);obtain⟨a,b⟩:=hl (m+d) (by omega);rw[<-Nat.add_assoc,zcG (by omega),zfl (by rw[zcp];exact⟨fun x y=>by have:=a x y;omega,fun x y=>by have:=b x y;omega⟩) (hk (m+d) (by omega))];have p1:(0:Int)≤if 8≤ndK (zam r (m+d:Nat))∧ndK (zam r (m+d:Nat))≤17∧j=(ndL (zam r (m+d:Nat))).toNat then 1 else 0:=by split<;>decide
  have p2:(0:Int)≤if ((8≤ndK (zam r (m+d:Nat))∧ndK (zam r (m+d:Nat))≤10)∨ndK (zam r (m+d:Nat))=17)∧j=(ndR (zam r (m+d:Nat))).toNat then 1 else 0:=by split<;>decide
  omega
theorem zfo {r:List Nd} (hl:Low r):∀ (k k' i:Nat),i < k->i < k'->i < r.length->trF k r i=trF k' r i
 |0,_,_,h,_,_=>by omega
 |_+1,0,_,_,h,_=>by omega
 |k+1,k'+1,i,h,h',hr=>by
  obtain⟨hL,hR⟩:=hl i hr;have key:∀ j:Int,0≤j->j < (i:Int)->trF k r j=trF k' r j:=fun j h0 h1=>by
   obtain⟨m,rfl⟩:∃ m:Nat,j=(m:Int):=⟨j.toNat,by omega⟩;exact zfo hl k k' m (by omega) (by omega) (by omega)
  unfold trF;split
  ·rename_i hu;obtain⟨a,b⟩:=hL (by omega) (by omega);rw[key _ a b]
  ·split
   ·rename_i hb;obtain⟨a,b⟩:=hL (by omega) (by omega);obtain⟨c,d⟩:=hR (by omega) (by omega);rw[key _ a b,key _ c d]
   ·rfl
theorem zlZ {r:List Nd} (hl:Low r) (hk:∀ j:Nat,j < r.length->1≤ndK (zam r j)∧ndK (zam r j)≤18) (h1:∀ j,(za6 r r.length).getD j 0≤1):∀ m,m≤r.length->pot (za6 r m) (fun j=>(trF (r.length+1) r j).size) m=m
 |0,_=>rfl
 |m+1,hm=>by
  have ih:=zlZ hl hk h1 m (by omega);obtain⟨hL,hR⟩:=hl m (by omega);have hkm:=hk m (by omega);have hb:∀ j,(za6 r (m+1)).getD j 0≤1:=fun j=>by
   have:=zg8 hl hk j (r.length - (m+1)) (m+1) (by omega);rw[show m+1+(r.length - (m+1))=r.length by omega]at this;have:=h1 j;omega
  have hab:=zeD hl hk m (by omega);have hlen:=zcp r m;have hpos:∀ j,0≤(za6 r m).getD j 0:=fun j=>by
   have:=zg8 hl hk j m 0 (by omega);rw[zkU,Nat.zero_add]at this;exact this
  have hm0:(za6 r (m+1)).getD m 0=0:=by
   have h:=hab m (Nat.le_refl _);rw[zcG (by omega),zfl (by rw[zcp];exact⟨fun x y=>by have:=hL x y;omega,fun x y=>by have:=hR x y;omega⟩) hkm,h,if_neg,if_neg]
   ·rfl
   ·rintro ⟨x,y⟩;have:=hR (by omega) (by omega);omega
   ·rintro ⟨x,y,z⟩;have:=hL x y;omega
  have key:∀ j:Int,0≤j->j < (m:Int)->(trF r.length r j).size=(trF (r.length+1) r (j.toNat:Nat)).size:=fun j h0 h1=>by
   obtain⟨q,rfl⟩:∃ q:Nat,j=(q:Int):=⟨j.toNat,by omega⟩;rw[Int.toNat_natCast,zfo hl r.length (r.length+1) q (by omega) (by omega) (by omega)]
  have hf:∀ n,zam r (m:Int)=n->(trF (r.length+1) r (m:Int)).size=(if 8≤ndK n∧ndK n≤17 then (trF (r.length+1) r ((ndL n).toNat:Nat)).size else 0)+(if (8≤ndK n∧ndK n≤10)∨ndK n=17 then (trF (r.length+1) r ((ndR n).toNat:Nat)).size else 0)+1:=by
   rintro n rfl
   conv=>lhs;unfold trF
   split
   ·rename_i hu;obtain⟨a,b⟩:=hL (by omega) (by omega);rw[if_pos (by omega),if_neg (by omega)];show (trF r.length r _).size+1=_;rw[key _ a b]
   ·split
    ·rename_i hu;obtain⟨a,b⟩:=hL (by omega) (by omega);obtain⟨c,d⟩:=hR (by omega) (by omega);rw[if_pos (by omega)];show (trF r.length r _).size+(trF r.length r _).size+1=_;rw[key _ a b,key _ c d]
    ·rw[if_neg (by omega)];rfl
  have hf:=hf _ rfl;unfold pot;rw[hm0,if_pos rfl];have hu:=zcG (r:=r) (k:=m) (by omega);rw[hu]at hb ⊢;generalize hn:zam r (m:Int)=n at *;rw[hf];unfold zbm at hb ⊢;by_cases h11:11≤ndK n∧ndK n≤16
  ·obtain⟨a,b⟩:=hL (by omega) (by omega);rw[zl0 h11,decide_eq_false (by decide),decide_eq_true (by decide),cond_false,cond_true]at hb ⊢;rw[if_pos (by omega),if_neg (by omega)];have h0:=hb (ndL n).toNat;rw[zcX (by omega),if_pos rfl]at h0;have:=hpos (ndL n).toNat;have:=(zgV (f:=fun j=>(trF (r.length+1) r j).size) (u:=za6 r m) (j:=ndL n) (by omega) (by omega) (m:=m)).1 (by omega);omega
  ·by_cases h8:(8≤ndK n∧ndK n≤10)∨ndK n=17
   ·obtain⟨a,b⟩:=hL (by omega) (by omega);obtain⟨c,d⟩:=hR (by omega) (by omega);rw[zi4 h8,decide_eq_true (by decide),cond_true]at hb ⊢;rw[if_pos (by omega),if_pos h8];have hne:(ndL n).toNat≠(ndR n).toNat:=fun e=>by
     have h0:=hb (ndR n).toNat;rw[zcX (by rw[zdN];omega),if_pos rfl,zcX (by omega),if_pos e.symm]at h0;have:=hpos (ndR n).toNat;omega
    have h0:=hb (ndL n).toNat;rw[zcX (by rw[zdN];omega),if_neg hne,zcX (by omega),if_pos rfl]at h0;have h2:=hb (ndR n).toNat;rw[zcX (by rw[zdN];omega),if_pos rfl,zcX (by omega),if_neg (fun e=>hne e.symm)]at h2;have p1:=hpos (ndL n).toNat;have p2:=hpos (ndR n).toNat;have e1:=(zgV (f:=fun j=>(trF (r.length+1) r j).size) (u:=za6 r m) (j:=ndL n) (by omega) (by omega) (m:=m)).1 (by omega);have e2:=(zgV (f:=fun j=>(trF (r.length+1) r j).size) (u:=bump (za6 r m) (ndL n)) (j:=ndR n) (by rw[zdN];omega) (by rw[zcX (by omega),if_neg (fun e=>hne e.symm)];omega) (m:=m)).1 (by omega);omega
   ·rw[zgX hkm (by omega),decide_eq_false (by decide),decide_eq_false (by decide),cond_false,cond_false,if_neg (by omega),if_neg (by omega),ih]
theorem zb1 {r:List Nd} (h:wfS r=true):(1≤r.length∧r.length≤64)∧zb0 r r.length=true∧∀ j,j < r.length - 1->(za6 r r.length).getD j 0=1:=by
 unfold wfS at h;simp only[Bool.and_eq_true,decide_eq_true_iff,Bool.not_eq_true',List.any_eq_false]at h;obtain⟨⟨h1,h2⟩,h3⟩:=h;refine⟨h1,h2,fun j hj=>?_⟩;have hl:=zcp r r.length;have hj2:j < (za6 r r.length).length:=by omega
 have:=h3 ((za6 r r.length)[j]) (List.mem_take_iff_getElem.2 ⟨j,by omega,rfl⟩);rw[List.getD_eq_getElem?_getD,List.getElem?_eq_getElem hj2];unfold not1 at this
 simpa using this
def zbW (r:List Nd):Tr:=trF (r.length+1) r ((r.length:Int) - 1)
theorem zha {r:List Nd} (h:wfS r=true):(zbW r).size=r.length:=by
 obtain⟨⟨h1,h2⟩,h3,h4⟩:=zb1 h;have hl:=zeY h3;have hk:∀ j:Nat,j < r.length->1≤ndK (zam r j)∧ndK (zam r j)≤18:=fun j hj=>(zaC (zbA h3 hj).1).1;have hlast:(za6 r r.length).getD (r.length - 1) 0=0:=by
  obtain⟨m,hm⟩:∃ m,r.length=m+1:=⟨r.length - 1,by omega⟩;obtain⟨a,b⟩:=hl m (by omega);rw[hm,Nat.add_sub_cancel,zcG (by omega),zfl (by rw[zcp];exact⟨fun x y=>by have:=a x y;omega,fun x y=>by have:=b x y;omega⟩) (hk m (by omega)),zeD hl hk m (by omega) m (Nat.le_refl _),if_neg,if_neg]
  ·rfl
  ·rintro ⟨x,y⟩;have:=b (by omega) (by omega);omega
  ·rintro ⟨x,y,z⟩;have:=a x y;omega
 have hle:∀ j,(za6 r r.length).getD j 0≤1:=fun j=>by
  by_cases e:j < r.length - 1
  ·rw[h4 j e];exact Int.le_refl _
  ·by_cases e2:j=r.length - 1
   ·rw[e2,hlast];decide
   ·rw[zeD hl hk r.length (Nat.le_refl _) j (by omega)];decide
 have:=zlZ hl hk hle r.length (Nat.le_refl _);obtain⟨m,hm⟩:∃ m,r.length=m+1:=⟨r.length - 1,by omega⟩;have hp:∀ q,q≤m->pot (za6 r r.length) (fun j=>(trF (r.length+1) r j).size) q=0:=by
  intro q
  induction q with
  |zero=>intro _;rfl
  |succ q ih=>intro hq;unfold pot;rw[ih (by omega),h4 q (by omega),if_neg (by decide)]
 rw[hm]at this hlast;unfold pot at this;rw[<-hm]at this hlast;rw[hp m (Nat.le_refl _)]at this;have hm2:r.length - 1=m:=by omega
 rw[hm2]at hlast;rw[hlast,if_pos rfl]at this;unfold zbW;rw[show ((r.length:Int) - 1)=((m:Nat):Int) by omega];omega
theorem znO {r:List Nd} (h:wfS r=true):TrOk (zbW r):=by
 obtain⟨⟨h1,h2⟩,h3,h4⟩:=zb1 h;unfold zbW;rw[show ((r.length:Int) - 1)=((r.length - 1:Nat):Int) by omega];exact znL h3 _ _ (by omega) (by omega)
theorem znN {r:List Nd} (h:wfS r=true):zaO (r.length+1) r ((r.length:Int) - 1)=(zbW r).text:=by
 obtain⟨⟨h1,h2⟩,h3,h4⟩:=zb1 h;unfold zbW;rw[show ((r.length:Int) - 1)=((r.length - 1:Nat):Int) by omega];exact zfA (zeY h3) _ _ (by omega) (by omega)
def fmtS (r:List Nd):List UInt8×Int:=if zbh r=0 then (if 4000 < (zbW r).text.length then ([],2) else ((zbW r).text,0)) else ([],zbh r)
set_option maxRecDepth 100000
def zbC:Ctr:={ args:=[i64,i64,i64],pre:=fun _=>[],res:=.bool,own:=none,out:=fun x=>inB x.1 x.2.1 x.2.2.1 }
theorem zkl:CtrOk Tryz.prog gmH 186 zbC:=by
 refine zan (K:=gmK) zai Tryz.func186 rfl rfl Tryz.call186 rfl (by decide) (by intro h;cases h) ?_;rintro w0 X hX ⟨(a:Int),(lo:Int),(hi:Int),_⟩ hp;change AWP _ _ _ _ _ ⟨[(0,⟨i64,a⟩),(1,⟨i64,lo⟩),(2,⟨i64,hi⟩)],[],0⟩ _;(repeat(first|apply zae|apply zac|apply zab|apply zad));refine zaa hX zai rfl ?_ ?_
 ·trivial
 (repeat(first|apply zae|apply zac|apply zab|apply zad));refine zaa hX zai rfl ?_ ?_
 ·repeat'(first|exact trivial|assumption|(refine⟨?_,?_⟩)|(intro _)|exact Nat.le_of_ble_eq_true rfl|exact Int.natCast_nonneg _|(simp_all [allP];done))
 refine AWP.ret ⟨.inr rfl,zat rfl trivial rfl rfl ?_⟩;show (bif decide (lo≤a) then decide (a≤hi) else false)=inB a lo hi;rw[zdf];rfl
def k6a:Kn:={ gmK with C:=[(186,zbC)] }
theorem zcN:KnOk Tryz.prog gmH k6a:=zai.with (.cons zkl .nil)
theorem zqK:CtrOk Tryz.prog gmH 189 zrG:=by
 refine zan (K:=k6a) zcN Tryz.func189 rfl rfl Tryz.call189 rfl (by decide) (by intro h;cases h) ?_;rintro w0 X hX ⟨(n:Nd),_⟩ hp;change AWP _ _ _ _ _ ⟨[(0,⟨nd,n⟩)],[],0⟩ _;apply zae;(repeat(first|apply zae|apply zac|apply zab|apply zad));refine zaa hX zcN rfl ?_ ?_
 ·trivial
 (repeat(first|apply zae|apply zac|apply zab|apply zad));refine zaa hX zcN rfl ?_ ?_
 ·trivial
 (repeat(first|apply zae|apply zac|apply zab|apply zad));refine zaa hX zcN rfl ?_ ?_
 ·trivial
 refine zaf rfl (fun h1=>?_) (fun h1=>?_)
 ·have h1:(n.1==1)=true:=h1;(repeat(first|apply zae|apply zac|apply zab|apply zad));refine zaa hX zcN rfl ?_ ?_
  ·have i0:zbC.out (n.2.2.2.2.1,(1:Int),(400:Int),())=true->inR .i64 (n.2.2.2.2.1 - 1):=fun h=>by
    have h:inB n.2.2.2.2.1 1 400=true:=h;unfold inB at h;rw[Bool.and_eq_true,decide_eq_true_iff,decide_eq_true_iff]at h;exact zar (by omega) (by omega)
   cases hA:zbC.out (n.2.2.2.2.1,(1:Int),(1099511627776:Int),())
   all_goals
    repeat'(first|exact trivial|assumption|rfl|exact i0 rfl|exact i0 hA|(intro h;exact absurd h Bool.false_ne_true)|(refine⟨?_,?_⟩)|(intro _))
  refine AWP.ret ⟨.inr rfl,zat rfl trivial rfl rfl ?_⟩;show _=zbB n;simp only[zbB,h1,cond_true,cond_false,Bool.or_true,Bool.true_or,Bool.or_false,Bool.false_or]
  all_goals (first|rfl|(simp;done))
 have h1:(n.1==1)=false:=h1;(repeat(first|apply zae|apply zac|apply zab|apply zad));refine zaa hX zcN rfl ?_ ?_
 ·trivial
 refine zaf rfl (fun h2=>?_) (fun h2=>?_)
 ·have h2:(n.1==2)=true:=h2;(repeat(first|apply zae|apply zac|apply zab|apply zad));refine zaa hX zcN rfl ?_ ?_
  ·have i0:zbC.out (n.2.2.2.2.1,(1:Int),(400:Int),())=true->inR .i64 (n.2.2.2.2.1 - 1):=fun h=>by
    have h:inB n.2.2.2.2.1 1 400=true:=h;unfold inB at h;rw[Bool.and_eq_true,decide_eq_true_iff,decide_eq_true_iff]at h;exact zar (by omega) (by omega)
   cases hA:zbC.out (n.2.2.2.2.1,(1:Int),(400:Int),())
   all_goals
    repeat'(first|exact trivial|assumption|rfl|exact i0 rfl|exact i0 hA|(intro h;exact absurd h Bool.false_ne_true)|(refine⟨?_,?_⟩)|(intro _))
  refine AWP.ret ⟨.inr rfl,zat rfl trivial rfl rfl ?_⟩;show _=zbB n;simp only[zbB,h1,h2,cond_true,cond_false,Bool.or_true,Bool.true_or,Bool.or_false,Bool.false_or]
  all_goals (first|rfl|(simp;done))
 have h2:(n.1==2)=false:=h2;(repeat(first|apply zae|apply zac|apply zab|apply zad));refine zaa hX zcN rfl ?_ ?_
 ·trivial
 refine zaf rfl (fun h7=>?_) (fun h7=>?_)
 ·have h7:(n.1==7)=true:=h7;(repeat(first|apply zae|apply zac|apply zab|apply zad));refine zaa hX zcN rfl ?_ ?_
  ·have i0:zbC.out (n.2.2.2.2.1,(1:Int),(400:Int),())=true->inR .i64 (n.2.2.2.2.1 - 1):=fun h=>by
    have h:inB n.2.2.2.2.1 1 400=true:=h;unfold inB at h;rw[Bool.and_eq_true,decide_eq_true_iff,decide_eq_true_iff]at h;exact zar (by omega) (by omega)
   cases hA:zbC.out (n.2.2.2.2.1,(-60:Int),(60:Int),())<;>cases (n.2.2.2.2.1==0)<;>cases zbC.out (n.2.2.2.2.2.1,(0:Int),(6:Int),())
   all_goals
    repeat'(first|exact trivial|assumption|rfl|exact i0 rfl|exact i0 hA|(intro h;exact absurd h Bool.false_ne_true)|(refine⟨?_,?_⟩)|(intro _))
  refine AWP.ret ⟨.inr rfl,zat rfl trivial rfl rfl ?_⟩;show _=zbB n;simp only[zbB,h1,h2,h7,cond_true,cond_false,Bool.or_true,Bool.true_or,Bool.or_false,Bool.false_or]
  all_goals (first|rfl|(simp;done))
 have h7:(n.1==7)=false:=h7;(repeat(first|apply zae|apply zac|apply zab|apply zad));refine zaa hX zcN rfl ?_ ?_
 ·trivial
 refine zaf rfl (fun h11=>?_) (fun h11=>?_)
 ·have h11:(n.1==11)=true:=h11;(repeat(first|apply zae|apply zac|apply zab|apply zad));refine zaa hX zcN rfl ?_ ?_
  ·have i0:zbC.out (n.2.2.2.2.1,(1:Int),(400:Int),())=true->inR .i64 (n.2.2.2.2.1 - 1):=fun h=>by
    have h:inB n.2.2.2.2.1 1 400=true:=h;unfold inB at h;rw[Bool.and_eq_true,decide_eq_true_iff,decide_eq_true_iff]at h;exact zar (by omega) (by omega)
   cases hA:zbC.out (n.2.2.2.2.1,(-1099511627776:Int),(1099511627776:Int),())
   all_goals
    repeat'(first|exact trivial|assumption|rfl|exact i0 rfl|exact i0 hA|(intro h;exact absurd h Bool.false_ne_true)|(refine⟨?_,?_⟩)|(intro _))
  refine AWP.ret ⟨.inr rfl,zat rfl trivial rfl rfl ?_⟩;show _=zbB n;simp only[zbB,h1,h2,h7,h11,cond_true,cond_false,Bool.or_true,Bool.true_or,Bool.or_false,Bool.false_or]
  all_goals (first|rfl|(simp;done))
 have h11:(n.1==11)=false:=h11;(repeat(first|apply zae|apply zac|apply zab|apply zad));refine zaa hX zcN rfl ?_ ?_
 ·trivial
 refine AWP.viaQ (σ':=⟨[(1,⟨.optr nd,⟨0,nd,.here⟩⟩),(4,⟨i64,n.1⟩),(58,⟨.bool,(n.1==12)||(n.1==13)⟩)],[(0,some (.box nd n))],1⟩) ?_ ?_
 ·refine zaf rfl (fun h=>?_) (fun h=>?_)
  ·have h:(n.1==12)=true:=h;apply zac;rw[h];exact⟨⟨rfl,rfl,rfl,trivial⟩,⟨rfl,trivial⟩,rfl,rfl⟩
  ·have h:(n.1==12)=false:=h;(repeat(first|apply zae|apply zac|apply zab|apply zad));refine zaa hX zcN rfl ?_ ?_
   ·trivial
   rw[h];exact⟨⟨rfl,rfl,rfl,trivial⟩,⟨rfl,trivial⟩,rfl,rfl⟩
 refine zaf rfl (fun h12=>?_) (fun h12=>?_)
 ·have h12:((n.1==12)||(n.1==13))=true:=h12;(repeat(first|apply zae|apply zac|apply zab|apply zad));refine zaa hX zcN rfl ?_ ?_
  ·have i0:zbC.out (n.2.2.2.2.1,(1:Int),(400:Int),())=true->inR .i64 (n.2.2.2.2.1 - 1):=fun h=>by
    have h:inB n.2.2.2.2.1 1 400=true:=h;unfold inB at h;rw[Bool.and_eq_true,decide_eq_true_iff,decide_eq_true_iff]at h;exact zar (by omega) (by omega)
   cases hA:zbC.out (n.2.2.2.2.1,(0:Int),(1099511627776:Int),())
   all_goals
    repeat'(first|exact trivial|assumption|rfl|exact i0 rfl|exact i0 hA|(intro h;exact absurd h Bool.false_ne_true)|(refine⟨?_,?_⟩)|(intro _))
  refine AWP.ret ⟨.inr rfl,zat rfl trivial rfl rfl ?_⟩;show _=zbB n;simp only[zbB,h1,h2,h7,h11,h12,cond_true,cond_false,Bool.or_true,Bool.true_or,Bool.or_false,Bool.false_or]
  all_goals (first|rfl|(simp;done))
 have h12:((n.1==12)||(n.1==13))=false:=h12;(repeat(first|apply zae|apply zac|apply zab|apply zad));refine zaa hX zcN rfl ?_ ?_
 ·trivial
 refine zaf rfl (fun h16=>?_) (fun h16=>?_)
 ·have h16:(n.1==16)=true:=h16;(repeat(first|apply zae|apply zac|apply zab|apply zad));refine zaa hX zcN rfl ?_ ?_
  ·have i0:zbC.out (n.2.2.2.2.1,(1:Int),(400:Int),())=true->inR .i64 (n.2.2.2.2.1 - 1):=fun h=>by
    have h:inB n.2.2.2.2.1 1 400=true:=h;unfold inB at h;rw[Bool.and_eq_true,decide_eq_true_iff,decide_eq_true_iff]at h;exact zar (by omega) (by omega)
   cases hA:(n.2.2.2.2.1==0)
   all_goals
    repeat'(first|exact trivial|assumption|rfl|exact i0 rfl|exact i0 hA|(intro h;exact absurd h Bool.false_ne_true)|(refine⟨?_,?_⟩)|(intro _))
  refine AWP.ret ⟨.inr rfl,zat rfl trivial rfl rfl ?_⟩;show _=zbB n;simp only[zbB,h1,h2,h7,h11,h12,h16,cond_true,cond_false,Bool.or_true,Bool.true_or,Bool.or_false,Bool.false_or]
  all_goals (first|rfl|(simp;done))
 have h16:(n.1==16)=false:=h16;(repeat(first|apply zae|apply zac|apply zab|apply zad));refine zaa hX zcN rfl ?_ ?_
 ·trivial
 refine zaf rfl (fun h17=>?_) (fun h17=>?_)
 ·have h17:(n.1==17)=true:=h17;(repeat(first|apply zae|apply zac|apply zab|apply zad));refine zaa hX zcN rfl ?_ ?_
  ·have i0:zbC.out (n.2.2.2.2.1,(1:Int),(400:Int),())=true->inR .i64 (n.2.2.2.2.1 - 1):=fun h=>by
    have h:inB n.2.2.2.2.1 1 400=true:=h;unfold inB at h;rw[Bool.and_eq_true,decide_eq_true_iff,decide_eq_true_iff]at h;exact zar (by omega) (by omega)
   cases hA:zbC.out (n.2.2.2.2.1,(1:Int),(400:Int),())
   all_goals
    repeat'(first|exact trivial|assumption|rfl|exact i0 rfl|exact i0 hA|(intro h;exact absurd h Bool.false_ne_true)|(refine⟨?_,?_⟩)|(intro _))
  refine AWP.ret ⟨.inr rfl,zat rfl trivial rfl rfl ?_⟩;show _=zbB n;simp only[zbB,h1,h2,h7,h11,h12,h16,h17,cond_true,cond_false,Bool.or_true,Bool.true_or,Bool.or_false,Bool.false_or]
  all_goals (first|rfl|(simp;done))
 have h17:(n.1==17)=false:=h17;apply zac;(repeat(first|apply zae|apply zac|apply zab|apply zad));refine zaa hX zcN rfl ?_ ?_
 ·have i0:zbC.out (n.2.2.2.2.1,(1:Int),(400:Int),())=true->inR .i64 (n.2.2.2.2.1 - 1):=fun h=>by
   have h:inB n.2.2.2.2.1 1 400=true:=h;unfold inB at h;rw[Bool.and_eq_true,decide_eq_true_iff,decide_eq_true_iff]at h;exact zar (by omega) (by omega)
  cases hA:(n.2.2.2.2.1==0)
  all_goals
   repeat'(first|exact trivial|assumption|rfl|exact i0 rfl|exact i0 hA|(intro h;exact absurd h Bool.false_ne_true)|(refine⟨?_,?_⟩)|(intro _))
 refine AWP.ret ⟨.inr rfl,zat rfl trivial rfl rfl ?_⟩;show _=zbB n;simp only[zbB,h1,h2,h7,h11,h12,h16,h17,cond_true,cond_false,Bool.or_true,Bool.true_or,Bool.or_false,Bool.false_or]
 all_goals (first|rfl|(simp;done))
def risS (l:List Int) (b:Int×Int×Unit):Bool:=(List.range l.length).all (fun i=>!zee l b i)&&decide (((l.length:Nat):Int) > 0)
def cRis6:Ctr:={ args:=[ints,i64,i64,.bool],pre:=fun x=>[x.2.2.2.1= !decide (x.2.1 < 0)],res:=.bool,own:=none,out:=fun x=>risS x.1 (x.2.1,x.2.2.1,()) }
theorem zsF:CtrOk Tryz.prog gmH 222 cRis6:=by
 refine zan (K:=gmK) zai Tryz.func222 rfl rfl Tryz.call222 rfl (by decide) (by intro h;cases h) ?_;rintro w0 X hX ⟨(l:List Int),(lo:Int),(hi:Int),(z:Bool),_⟩ hp;have hz:z= !decide (lo < 0):=hp;change AWP _ _ _ _ _ ⟨[(0,⟨ints,l⟩),(1,⟨i64,lo⟩),(2,⟨i64,hi⟩),(3,⟨.bool,z⟩)],[],0⟩ _;refine AWP.len 0 rfl fun hl=>?_;unfold maxLen at hl;(repeat(first|apply zae|apply zac|apply zab|apply zad));refine zaa hX zai rfl ?_ ?_
 ·trivial
 (repeat(first|apply zae|apply zac|apply zab|apply zad));refine zaa hX zai rfl ?_ ?_
 ·trivial
 apply zab;refine AWP.loop (ι:=Nat) (fun k=>⟨[(0,⟨ints,l⟩),(1,⟨i64,lo⟩),(2,⟨i64,hi⟩),(3,⟨.bool,z⟩),(9,⟨i64,(k:Int)⟩)],[],0⟩) (fun k=>k≤l.length∧∀ j,j < k->zee l (lo,hi,()) j=false) (fun k=>l.length - k) 0 ⟨by omega,by omega⟩ ⟨⟨rfl,rfl,rfl,rfl,rfl,trivial⟩,trivial,rfl,rfl⟩ ?_;rintro k ⟨hk,hn⟩;(repeat(first|apply zae|apply zac|apply zab|apply zad));refine zaa hX zai rfl ?_ ?_
 ·trivial
 refine zaf rfl (fun hb=>?_) (fun hb=>?_)
 ·have hb:decide ((k:Int) < (l.length:Nat))=true:=hb;have hb:=of_decide_eq_true hb;have hlt:k < l.length:=by omega
  have n0:(0:Int)≤(k:Int):=by omega
  have n1:((k:Int)).toNat < l.length:=by omega
  have i1:inR .i64 ((k:Int) - 1):=zar (by omega) (by omega);have i2:(k:Int) - 1 < (l.length:Nat):=by omega
  have i4:((k:Int) - 1).toNat < l.length:=by omega
  have i3:decide ((k:Int) > 0)=true->0≤(k:Int) - 1:=fun h=>by have:=of_decide_eq_true h;omega
  (repeat(first|apply zae|apply zac|apply zab|apply zad));refine AWP.draw dM hX zai 40 (by kernel_rfl) rfl rfl ?_ ?_ ?_
  ·cases decide ((l.getD ((k:Int)).toNat (zaA i64)) < lo)<;>cases decide ((l.getD ((k:Int)).toNat (zaA i64)) > hi)<;>cases hD:decide ((k:Int) > 0)<;>cases ((l.getD ((k:Int)).toNat (zaA i64))==0)<;>cases decide ((l.getD ((k:Int)).toNat (zaA i64))≤(l.getD ((k:Int) - 1).toNat (zaA i64)))
   all_goals
    repeat'(first|exact trivial|assumption|exact i3 hD|rfl|(intro h;exact absurd h Bool.false_ne_true)|(refine⟨?_,?_⟩)|(intro _))
  ·cases decide ((l.getD ((k:Int)).toNat (zaA i64)) < lo)<;>cases decide ((l.getD ((k:Int)).toNat (zaA i64)) > hi)<;>cases hD:decide ((k:Int) > 0)<;>cases ((l.getD ((k:Int)).toNat (zaA i64))==0)<;>cases decide ((l.getD ((k:Int)).toNat (zaA i64))≤(l.getD ((k:Int) - 1).toNat (zaA i64)))
   all_goals
    repeat'(first|exact trivial|assumption|exact i3 hD|rfl|(intro h;exact absurd h Bool.false_ne_true)|(refine⟨?_,?_⟩)|(intro _))
  have hq:decide ((k:Int) > 0)=decide (0 < k):=by rw[Bool.eq_iff_iff,decide_eq_true_iff,decide_eq_true_iff];omega
  have hq':((k:Int) - 1).toNat=k - 1:=by omega
  have hbad:(!(decide (lo≤(l.getD ((k:Int)).toNat (zaA i64)))&&decide ((l.getD ((k:Int)).toNat (zaA i64))≤hi))||(decide ((k:Int) > 0)&&decide ((l.getD ((k:Int)).toNat (zaA i64))≤(l.getD ((k:Int) - 1).toNat (zaA i64))))||(((l.getD ((k:Int)).toNat (zaA i64))==0)&&decide (lo < 0)))=zee l (lo,hi,()) k:=by
   unfold zee;rw[<-hq, <-hq'];rfl
  have d1:decide (lo≤(l.getD ((k:Int)).toNat (zaA i64)))= !decide ((l.getD ((k:Int)).toNat (zaA i64)) < lo):=by
   rw[Bool.eq_iff_iff,decide_eq_true_iff,Bool.not_eq_true',decide_eq_false_iff_not];omega
  have d2:decide ((l.getD ((k:Int)).toNat (zaA i64))≤hi)= !decide ((l.getD ((k:Int)).toNat (zaA i64)) > hi):=by
   rw[Bool.eq_iff_iff,decide_eq_true_iff,Bool.not_eq_true',decide_eq_false_iff_not];omega
  rw[d1,d2]at hbad;refine zaf rfl (fun hb=>?_) (fun hb=>?_)
  ·have hc:zee l (lo,hi,()) k=true:=by
    rw[<-hb, <-hbad,hz];clear hb hbad;cases decide ((l.getD ((k:Int)).toNat (zaA i64)) < lo)<;>cases decide ((l.getD ((k:Int)).toNat (zaA i64)) > hi)<;>cases hD:decide ((k:Int) > 0)<;>cases ((l.getD ((k:Int)).toNat (zaA i64))==0)<;>cases decide ((l.getD ((k:Int)).toNat (zaA i64))≤(l.getD ((k:Int) - 1).toNat (zaA i64)))<;>cases decide (lo < 0)<;>rfl
   (repeat(first|apply zae|apply zac|apply zak|apply zad|apply zab|refine zaa hX zai rfl trivial ?_|refine zaa hX zai rfl id ?_|refine zaa hX zai rfl ⟨id,id⟩ ?_));refine AWP.ret ⟨.inr rfl,zat rfl trivial rfl rfl ?_⟩;show false=risS l (lo,hi,());unfold risS;rw[show (List.range l.length).all (fun i=>!zee l (lo,hi,()) i)=false from ?_]
   ·rfl
   ·rw[Bool.eq_false_iff];intro ha;have:=List.all_eq_true.1 ha k (List.mem_range.2 hlt);rw[hc]at this;cases this
  ·have hc:zee l (lo,hi,()) k=false:=by
    rw[<-hb, <-hbad,hz];clear hb hbad;cases decide ((l.getD ((k:Int)).toNat (zaA i64)) < lo)<;>cases decide ((l.getD ((k:Int)).toNat (zaA i64)) > hi)<;>cases hD:decide ((k:Int) > 0)<;>cases ((l.getD ((k:Int)).toNat (zaA i64))==0)<;>cases decide ((l.getD ((k:Int)).toNat (zaA i64))≤(l.getD ((k:Int) - 1).toNat (zaA i64)))<;>cases decide (lo < 0)<;>rfl
   apply zac;(repeat(first|apply zae|apply zac|apply zab|apply zad));refine zaa hX zai rfl ?_ ?_
   ·exact zaF (by omega)
   exact⟨k+1,⟨by omega,fun j hj=>by
    by_cases e:j=k
    ·subst e;exact hc
    ·exact hn j (by omega)⟩,by omega,⟨rfl,rfl,rfl,rfl,zcg _,trivial⟩,trivial,rfl,rfl⟩
 ·have hb:decide ((k:Int) < (l.length:Nat))=false:=hb;have hb:=of_decide_eq_false hb;have:k=l.length:=by omega
  subst this;apply zad;(repeat(first|apply zae|apply zac|apply zak|apply zad|apply zab|refine zaa hX zai rfl trivial ?_|refine zaa hX zai rfl id ?_|refine zaa hX zai rfl ⟨id,id⟩ ?_));refine AWP.ret ⟨.inr rfl,zat rfl trivial rfl rfl ?_⟩;show decide (((l.length:Nat):Int) > 0)=risS l (lo,hi,());unfold risS;rw[show (List.range l.length).all (fun i=>!zee l (lo,hi,()) i)=true from ?_]
  ·rfl
  ·rw[List.all_eq_true];intro i hi;rw[hn i (List.mem_range.1 hi)];rfl
theorem zd7 {l:List Int} {b:Int×Int×Unit} (h:zgJ b=false):zaI l b=risS l b:=by
 unfold zaI risS;rw[h];rfl
def zrH:Ctr:={ args:=[nd],pre:=fun x=>[1≤ndK x.1,ndK x.1≤18],res:=.bool,own:=none,out:=fun x=>zaI (ndI x.1) (zbH (ndK x.1)).2.2.1 }
def k6b:Kn:={ gmK with C:=[(222,cRis6)] }
theorem zcR:KnOk Tryz.prog gmH k6b:=zai.with (.cons zsF .nil)
theorem zsU:CtrOk Tryz.prog gmH 188 zrH:=by
 refine zan (K:=k6b) zcR Tryz.func188 rfl rfl Tryz.call188 rfl (by decide) (by intro h;cases h) ?_;rintro w0 X hX ⟨(n:Nd),_⟩ hp;obtain⟨q1,q2⟩:1≤ndK n∧ndK n≤18:=hp;change AWP _ _ _ _ _ ⟨[(0,⟨nd,n⟩)],[],0⟩ _;obtain⟨R,hR⟩:∃ R,R=zaI (ndI n) (zbH (ndK n)).2.2.1:=⟨_,rfl⟩;(repeat(first|apply zae|apply zac|apply zab|apply zad));refine zaa hX zcR rfl ?_ ?_
 ·trivial
 (repeat(first|apply zae|apply zac|apply zab|apply zad));refine zaa hX zcR rfl ?_ ?_
 ·trivial
 apply zab;(repeat(first|apply zae|apply zac|apply zab|apply zad));refine zaa hX zcR rfl ?_ ?_
 ·trivial
 refine zaf rfl (fun h3=>?_) (fun h3=>?_)
 ·have h3:ndK n=3:=eq_of_beq h3;have hz:true= !decide ((1:Int) < 0):=by decide
  (repeat(first|apply zae|apply zac|apply zab|apply zad));refine zaa hX zcR rfl ?_ ?_
  ·exact hz
  refine AWP.ret ⟨.inr rfl,zat rfl trivial rfl rfl ?_⟩;show risS (ndI n) (1,16,())=zaI (ndI n) (zbH (ndK n)).2.2.1;rw[show ndK n=3 from h3];exact (zd7 (by decide)).symm
 have h3:ndK n≠3:=fun e=>by have:(ndK n==3)=false:=h3;rw[e]at this;cases this
 (repeat(first|apply zae|apply zac|apply zab|apply zad));refine zaa hX zcR rfl ?_ ?_
 ·trivial
 refine zaf rfl (fun h4=>?_) (fun h4=>?_)
 ·have h4:ndK n=4:=eq_of_beq h4;have hz:false= !decide ((-40:Int) < 0):=by decide
  (repeat(first|apply zae|apply zac|apply zab|apply zad));refine zaa hX zcR rfl ?_ ?_
  ·exact hz
  refine AWP.ret ⟨.inr rfl,zat rfl trivial rfl rfl ?_⟩;show risS (ndI n) (-40,40,())=zaI (ndI n) (zbH (ndK n)).2.2.1;rw[show ndK n=4 from h4];exact (zd7 (by decide)).symm
 have h4:ndK n≠4:=fun e=>by have:(ndK n==4)=false:=h4;rw[e]at this;cases this
 (repeat(first|apply zae|apply zac|apply zab|apply zad));refine zaa hX zcR rfl ?_ ?_
 ·trivial
 refine zaf rfl (fun h5=>?_) (fun h5=>?_)
 ·have h5:ndK n=5:=eq_of_beq h5;have hz:true= !decide ((0:Int) < 0):=by decide
  (repeat(first|apply zae|apply zac|apply zab|apply zad));refine zaa hX zcR rfl ?_ ?_
  ·exact hz
  refine AWP.ret ⟨.inr rfl,zat rfl trivial rfl rfl ?_⟩;show risS (ndI n) (0,6,())=zaI (ndI n) (zbH (ndK n)).2.2.1;rw[show ndK n=5 from h5];exact (zd7 (by decide)).symm
 have h5:ndK n≠5:=fun e=>by have:(ndK n==5)=false:=h5;rw[e]at this;cases this
 (repeat(first|apply zae|apply zac|apply zab|apply zad));refine zaa hX zcR rfl ?_ ?_
 ·trivial
 refine zaf rfl (fun h6=>?_) (fun h6=>?_)
 ·have h6:ndK n=6:=eq_of_beq h6;have hz:true= !decide ((1:Int) < 0):=by decide
  (repeat(first|apply zae|apply zac|apply zab|apply zad));refine zaa hX zcR rfl ?_ ?_
  ·exact hz
  refine AWP.ret ⟨.inr rfl,zat rfl trivial rfl rfl ?_⟩;show risS (ndI n) (1,54,())=zaI (ndI n) (zbH (ndK n)).2.2.1;rw[show ndK n=6 from h6];exact (zd7 (by decide)).symm
 have h6:ndK n≠6:=fun e=>by have:(ndK n==6)=false:=h6;rw[e]at this;cases this
 (repeat(first|apply zae|apply zac|apply zab|apply zad));refine zaa hX zcR rfl ?_ ?_
 ·trivial
 refine zaf rfl (fun h14=>?_) (fun h14=>?_)
 ·have h14:ndK n=14:=eq_of_beq h14;apply zac;refine zaf rfl (fun _=>?_) (fun hx=>?_)
  ·skip
   have hz:true= !decide ((0:Int) < 0):=by decide
   (repeat(first|apply zae|apply zac|apply zab|apply zad));refine zaa hX zcR rfl ?_ ?_
   ·exact hz
   refine AWP.ret ⟨.inr rfl,zat rfl trivial rfl rfl ?_⟩;show risS (ndI n) (0,1099511627776,())=zaI (ndI n) (zbH (ndK n)).2.2.1;rw[show ndK n=14 from h14];exact (zd7 (by decide)).symm
  ·have hx:(ndK n==14)=false:=hx;rw[h14]at hx;cases hx
 have h14:ndK n≠14:=fun e=>by have:(ndK n==14)=false:=h14;rw[e]at this;cases this
 (repeat(first|apply zae|apply zac|apply zab|apply zad));refine zaa hX zcR rfl ?_ ?_
 ·trivial
 refine zaf rfl (fun h15=>?_) (fun h15=>?_)
 ·have h15:ndK n=15:=eq_of_beq h15;have hz:true= !decide ((0:Int) < 0):=by decide
  (repeat(first|apply zae|apply zac|apply zab|apply zad));refine zaa hX zcR rfl ?_ ?_
  ·exact hz
  refine AWP.ret ⟨.inr rfl,zat rfl trivial rfl rfl ?_⟩;show risS (ndI n) (0,1099511627776,())=zaI (ndI n) (zbH (ndK n)).2.2.1;rw[show ndK n=15 from h15];exact (zd7 (by decide)).symm
 have h15:ndK n≠15:=fun e=>by have:(ndK n==15)=false:=h15;rw[e]at this;cases this
 (repeat(first|apply zae|apply zac|apply zab|apply zad));refine zaa hX zcR rfl ?_ ?_
 ·trivial
 refine zaf rfl (fun h16=>?_) (fun h16=>?_)
 ·have h16:ndK n=16:=eq_of_beq h16;have hz:false= !decide ((-400:Int) < 0):=by decide
  (repeat(first|apply zae|apply zac|apply zab|apply zad));refine zaa hX zcR rfl ?_ ?_
  ·exact hz
  refine AWP.ret ⟨.inr rfl,zat rfl trivial rfl rfl ?_⟩;show risS (ndI n) (-400,400,())=zaI (ndI n) (zbH (ndK n)).2.2.1;rw[show ndK n=16 from h16];exact (zd7 (by decide)).symm
 have h16:ndK n≠16:=fun e=>by have:(ndK n==16)=false:=h16;rw[e]at this;cases this
 apply zac;(repeat(first|apply zae|apply zac|apply zab|apply zad));refine zaa hX zcR rfl ?_ ?_
 ·trivial
 refine AWP.ret ⟨.inr rfl,zat rfl trivial rfl rfl ?_⟩;show ((((ndI n).length:Nat):Int)==0)=zaI (ndI n) (zbH (ndK n)).2.2.1;rcases (show ndK n=1∨ndK n=2∨ndK n=7∨ndK n=8∨ndK n=9∨ndK n=10∨ndK n=11∨ndK n=12∨ndK n=13∨ndK n=17∨ndK n=18 by omega) with e|e|e|e|e|e|e|e|e|e|e<;>rw[e]<;>rfl
def lt6 (c:UInt8):Bool:=(decide (97≤c)&&decide (c≤122))||(decide (65≤c)&&decide (c≤90))
theorem zoR (c:UInt8):lt6 c=isLt c:=by
 have:=zg4 (p:=fun c=>lt6 c==isLt c) (by decide+kernel) c;exact eq_of_beq this
def wdAt (w:List UInt8) (j:Nat):Bool:=lt6 (w.getD j 0)||((isDg (w.getD j 0)||(w.getD j 0==45))&&decide (0 < j))
theorem zoJ {w:List UInt8}:zc9 w=(((List.range w.length).all fun j=>wdAt w j)&&(decide (1≤w.length)&&decide (w.length≤32))):=by
 rw[Bool.eq_iff_iff];unfold zc9;rw[Bool.and_eq_true,Bool.and_eq_true,Bool.and_eq_true,Bool.and_eq_true,Bool.and_eq_true,decide_eq_true_iff,decide_eq_true_iff,decide_eq_true_iff,List.all_eq_true,List.all_eq_true];have hget:∀ j (hj:j < w.length),w.getD j 0=w[j]:=fun j hj=>by rw[List.getD_eq_getElem?_getD,List.getElem?_eq_getElem hj];rfl
 constructor
 ·rintro ⟨⟨hne,hl⟩,hh,ha⟩;refine⟨fun j hj=>?_,?_,hl⟩
  ·have hj:=List.mem_range.1 hj;unfold wdAt;rw[hget j hj,zoR];have h1:=ha w[j] (List.getElem_mem hj);unfold isPt at h1;rcases (Bool.or_eq_true_iff.1 h1) with h2|h2
   ·rcases (Bool.or_eq_true_iff.1 h2) with h3|h3
    ·rw[h3];rfl
    ·by_cases h0:0 < j
     ·rw[h3,decide_eq_true h0,Bool.true_or,Bool.true_and,Bool.or_true]
     ·obtain rfl:j=0:=by omega
      cases w with
      |nil=>exact absurd hj (Nat.not_lt_zero _)
      |cons c r=>have hh:isLt c=true:=hh;show (isLt c||_)=true;rw[hh];rfl
   ·by_cases h0:0 < j
    ·rw[h2,decide_eq_true h0,Bool.or_true,Bool.true_and,Bool.or_true]
    ·obtain rfl:j=0:=by omega
     cases w with
     |nil=>exact absurd hj (Nat.not_lt_zero _)
     |cons c r=>have hh:isLt c=true:=hh;show (isLt c||_)=true;rw[hh];rfl
  ·cases w with
   |nil=>exact absurd rfl hne
   |cons c r=>rw[List.length_cons];omega
 ·rintro ⟨ha,h1,hl⟩;refine⟨⟨fun e=>by rw[e]at h1;exact absurd h1 (by decide),hl⟩,?_,fun c hc=>?_⟩
  ·cases w with
   |nil=>rfl
   |cons c r=>
    have:=ha 0 (List.mem_range.2 (by rw[List.length_cons];omega));unfold wdAt at this;rw[decide_eq_false (by omega:¬ 0 < 0),Bool.and_false,Bool.or_false,zoR]at this;exact this
  ·obtain⟨j,hj,rfl⟩:=List.mem_iff_getElem.1 hc;have:=ha j (List.mem_range.2 hj);unfold wdAt at this;rw[hget j hj,zoR]at this;unfold isPt;rcases (Bool.or_eq_true_iff.1 this) with h2|h2
   ·rw[h2];rfl
   ·rw[Bool.and_eq_true]at h2;rw[Bool.or_assoc,h2.1,Bool.or_true]
def zpI:Ctr:={ args:=[.str],pre:=fun _=>[],res:=.bool,own:=none,out:=fun x=>zc9 x.1 }
theorem zqb:CtrOk Tryz.prog gmH 187 zpI:=by
 refine zan (K:=gmK) zai Tryz.func187 rfl rfl Tryz.call187 rfl (by decide) (by intro h;cases h) ?_;rintro w0 X hX ⟨(w:List UInt8),_⟩ hp;change AWP _ _ _ _ _ ⟨[(0,⟨.str,w⟩)],[],0⟩ _;refine AWP.slen 0 rfl fun hl=>?_;unfold maxLen at hl;(repeat(first|apply zae|apply zac|apply zab|apply zad));refine zaa hX zai rfl ?_ ?_
 ·trivial
 (repeat(first|apply zae|apply zac|apply zab|apply zad));refine zaa hX zai rfl ?_ ?_
 ·trivial
 apply zab;refine AWP.loop (ι:=Nat) (fun k=>⟨[(0,⟨.str,w⟩),(3,⟨i64,(k:Int)⟩)],[],0⟩) (fun k=>k≤w.length∧∀ j,j < k->wdAt w j=true) (fun k=>w.length - k) 0 ⟨by omega,by omega⟩ ⟨⟨rfl,rfl,trivial⟩,trivial,rfl,rfl⟩ ?_;rintro k ⟨hk,hn⟩;(repeat(first|apply zae|apply zac|apply zab|apply zad));refine zaa hX zai rfl ?_ ?_
 ·trivial
 refine zaf rfl (fun hb=>?_) (fun hb=>?_)
 ·have hb:decide ((k:Int) < (w.length:Nat))=true:=hb;have hb:=of_decide_eq_true hb;have hlt:k < w.length:=by omega
  have n0:(0:Int)≤(k:Int):=by omega
  have n1:((k:Int)).toNat < w.length:=by omega
  have n2:(k:Int) < ((w.length:Nat):Int):=hb;(repeat(first|apply zae|apply zac|apply zab|apply zad));refine zaa hX zai rfl ?_ ?_
  ·repeat'(first|exact trivial|assumption|exact n0|exact n1|exact n2|(refine⟨?_,?_⟩)|(intro _)|exact Nat.le_of_ble_eq_true rfl|exact Int.natCast_nonneg _|(simp_all [allP];done))
  (repeat(first|apply zae|apply zac|apply zab|apply zad));refine zaa hX zai rfl ?_ ?_
  ·repeat'(first|exact trivial|assumption|exact n0|exact n1|exact n2|(refine⟨?_,?_⟩)|(intro _)|exact Nat.le_of_ble_eq_true rfl|exact Int.natCast_nonneg _|(simp_all [allP];done))
  (repeat(first|apply zae|apply zac|apply zab|apply zad));refine zaa hX zai rfl ?_ ?_
  ·repeat'(first|exact trivial|assumption|(refine⟨?_,?_⟩)|(intro _)|exact Nat.le_of_ble_eq_true rfl|exact Int.natCast_nonneg _|(simp_all [allP];done))
  have hq:(bif (!bif (bif decide ((((97:UInt8).toNat:Nat):Int)≤((((w.getD ((k:Int)).toNat 0):UInt8).toNat:Nat):Int)) then decide (((((w.getD ((k:Int)).toNat 0):UInt8).toNat:Nat):Int)≤(((122:UInt8).toNat:Nat):Int)) else false) then true else (bif decide ((((65:UInt8).toNat:Nat):Int)≤((((w.getD ((k:Int)).toNat 0):UInt8).toNat:Nat):Int)) then decide (((((w.getD ((k:Int)).toNat 0):UInt8).toNat:Nat):Int)≤(((90:UInt8).toNat:Nat):Int)) else false)) then (bif (!bif (bif decide ((((48:UInt8).toNat:Nat):Int)≤((((w.getD ((k:Int)).toNat 0):UInt8).toNat:Nat):Int)) then decide (((((w.getD ((k:Int)).toNat 0):UInt8).toNat:Nat):Int)≤(((57:UInt8).toNat:Nat):Int)) else false) then true else (((((w.getD ((k:Int)).toNat 0):UInt8).toNat:Nat):Int)==(((45:UInt8).toNat:Nat):Int))) then true else ((k:Int)==0)) else false)= !wdAt w k:=by
   simp only[zcn,zgm,u8le,u8eq];rw[Int.toNat_natCast];unfold wdAt lt6 isDg;have e:((k:Int)==0)= !decide (0 < k):=by
    rw[Bool.eq_iff_iff,beq_iff_eq,Bool.not_eq_true',decide_eq_false_iff_not];omega
   rw[e];generalize w.getD k 0=c;cases decide (97≤c)&&decide (c≤122)||decide (65≤c)&&decide (c≤90)<;>cases decide (48≤c)&&decide (c≤57)||c==45<;>cases decide (0 < k)<;>rfl
  refine zaf rfl (fun hc=>?_) (fun hc=>?_)
  ·have hc:=hq.symm.trans hc;have hc:wdAt w k=false:=by simpa using hc
   (repeat(first|apply zae|apply zac|apply zak|apply zad|apply zab|refine zaa hX zai rfl trivial ?_|refine zaa hX zai rfl id ?_|refine zaa hX zai rfl ⟨id,id⟩ ?_));refine AWP.ret ⟨.inr rfl,zat rfl trivial rfl rfl ?_⟩;show false=zc9 w;rw[zoJ,show (List.range w.length).all (fun j=>wdAt w j)=false from ?_]
   ·rfl
   ·rw[Bool.eq_false_iff];intro ha;have:=List.all_eq_true.1 ha k (List.mem_range.2 hlt);rw[hc]at this;cases this
  ·have hc:=hq.symm.trans hc;have hc:wdAt w k=true:=by simpa using hc
   apply zac;(repeat(first|apply zae|apply zac|apply zab|apply zad));refine zaa hX zai rfl ?_ ?_
   ·exact zaF (by omega)
   exact⟨k+1,⟨by omega,fun j hj=>by
    by_cases e:j=k
    ·subst e;exact hc
    ·exact hn j (by omega)⟩,by omega,⟨rfl,zcg _,trivial⟩,trivial,rfl,rfl⟩
 ·have hb:decide ((k:Int) < (w.length:Nat))=false:=hb;have hb:=of_decide_eq_false hb;have:k=w.length:=by omega
  subst this;apply zad;(repeat(first|apply zae|apply zac|apply zab|apply zad));refine zaa hX zai rfl ?_ ?_
  ·repeat'(first|exact trivial|assumption|(refine⟨?_,?_⟩)|(intro _)|exact Nat.le_of_ble_eq_true rfl|exact Int.natCast_nonneg _|(simp_all [allP];done))
  refine AWP.ret ⟨.inr rfl,zat rfl trivial rfl rfl ?_⟩;show (bif decide (((w.length:Nat):Int)≥1) then decide (((w.length:Nat):Int)≤32) else false)=zc9 w;rw[zoJ,show (List.range w.length).all (fun j=>wdAt w j)=true from ?_]
  ·rw[zdf,Bool.true_and]
   congr 1
   ·rw[Bool.eq_iff_iff,decide_eq_true_iff,decide_eq_true_iff];omega
   ·rw[Bool.eq_iff_iff,decide_eq_true_iff,decide_eq_true_iff];omega
  ·rw[List.all_eq_true];intro i hi;exact hn i (List.mem_range.1 hi)
def zpS (f:Int->Int):Ctr:={ args:=[i64],pre:=fun x=>[1≤x.1,x.1≤18],res:=i64,own:=none,out:=fun x=>f x.1 }
theorem zl1:CtrOk Tryz.prog gmH 153 (zpS fun k=>(zbH k).1):=by
 refine zan (K:=gmK) zai Tryz.func153 rfl rfl Tryz.call153 rfl (by decide) (by intro h;cases h) ?_;rintro w0 X hX ⟨(k:Int),_⟩ hp;obtain⟨q1,q2⟩:1≤k∧k≤18:=hp;change AWP _ _ _ _ _ ⟨[(0,⟨i64,k⟩)],[],0⟩ _;rcases (show k=1∨k=2∨k=3∨k=4∨k=5∨k=6∨k=7∨k=8∨k=9∨k=10∨k=11∨k=12∨k=13∨k=14∨k=15∨k=16∨k=17∨k=18 by omega) with rfl|rfl|rfl|rfl|rfl|rfl|rfl|rfl|rfl|rfl|rfl|rfl|rfl|rfl|rfl|rfl|rfl|rfl
 all_goals
  (repeat(first|apply zae|apply zac|apply zab|apply zad|refine zaa hX zai rfl trivial ?_|refine zaf rfl (fun _=>?_) (fun hb=>absurd (show true=false from hb) (by decide))|refine zaf rfl (fun hb=>absurd (show false=true from hb) (by decide)) (fun _=>?_)));exact AWP.ret ⟨.inr rfl,zat rfl trivial rfl rfl rfl⟩
def zgG:Ctr:={ args:=[i64],pre:=fun x=>[1≤x.1,x.1≤18],res:=.bool,own:=none,out:=fun x=>(zbH x.1).2.1 }
theorem zlL:CtrOk Tryz.prog gmH 106 zgG:=by
 refine zan (K:=gmK) zai Tryz.func106 rfl rfl Tryz.call106 rfl (by decide) (by intro h;cases h) ?_;rintro w0 X hX ⟨(k:Int),_⟩ hp;obtain⟨q1,q2⟩:1≤k∧k≤18:=hp;change AWP _ _ _ _ _ ⟨[(0,⟨i64,k⟩)],[],0⟩ _;rcases (show k=1∨k=2∨k=3∨k=4∨k=5∨k=6∨k=7∨k=8∨k=9∨k=10∨k=11∨k=12∨k=13∨k=14∨k=15∨k=16∨k=17∨k=18 by omega) with rfl|rfl|rfl|rfl|rfl|rfl|rfl|rfl|rfl|rfl|rfl|rfl|rfl|rfl|rfl|rfl|rfl|rfl
 all_goals
  (repeat(first|apply zae|apply zac|apply zab|apply zad|refine zaa hX zai rfl trivial ?_|refine zaf rfl (fun _=>?_) (fun hb=>absurd (show true=false from hb) (by decide))|refine zaf rfl (fun hb=>absurd (show false=true from hb) (by decide)) (fun _=>?_)));exact AWP.ret ⟨.inr rfl,zat rfl trivial rfl rfl rfl⟩
def zr9:Ctr:={ args:=[nd,i64],pre:=fun x=>[0≤x.2.1,x.2.1≤1000000],res:=.bool,own:=none,out:=fun x=>zbn x.1 x.2.1 }
def k6n:Kn:={ gmK with C:=[(186,zbC),(153,zpS fun k=>(zbH k).1),(106,zgG),(187,zpI),(188,zrH),(189,zrG)] }
theorem zb7:KnOk Tryz.prog gmH k6n:=zai.with (.cons zkl <| .cons zl1 <| .cons zlL <| .cons zqb <| .cons zsU <| .cons zqK .nil)
theorem ops_in {n:Nd} (h:1≤ndK n∧ndK n≤18):opsN n=0∨opsN n=1∨opsN n=2:=by
 unfold opsN;rcases (show ndK n=1∨ndK n=2∨ndK n=3∨ndK n=4∨ndK n=5∨ndK n=6∨ndK n=7∨ndK n=8∨ndK n=9∨ndK n=10∨ndK n=11∨ndK n=12∨ndK n=13∨ndK n=14∨ndK n=15∨ndK n=16∨ndK n=17∨ndK n=18 by omega) with e|e|e|e|e|e|e|e|e|e|e|e|e|e|e|e|e|e<;>rw[e]<;>decide
theorem str_ne (x:List UInt8):(!eqb .str x [])= !decide (x=[]):=by rw[zdp]
theorem zqL:CtrOk Tryz.prog gmH 152 zr9:=by
 refine zan (K:=k6n) zb7 Tryz.func152 rfl rfl Tryz.call152 rfl (by decide) (by intro h;cases h) ?_;rintro w0 X hX ⟨(n:Nd),(i:Int),_⟩ hp;obtain⟨q1,q2⟩:0≤i∧i≤1000000:=hp;change AWP _ _ _ _ _ ⟨[(0,⟨nd,n⟩),(1,⟨i64,i⟩)],[],0⟩ _;obtain⟨k,hk⟩:∃ k,k=ndK n:=⟨_,rfl⟩;(repeat(first|apply zae|apply zac|apply zab|apply zad));refine zaa hX zb7 rfl ?_ ?_
 ·trivial
 have e1:(bif (bif decide (ndK n < 1) then true else decide (ndK n > 18)) then true else decide ((((ndI n).length:Nat):Int) > 64))= !(inB (ndK n) 1 18&&decide ((ndI n).length≤64)):=by
  unfold inB;rw[b_or,b_or,Bool.eq_iff_iff,Bool.or_eq_true,Bool.or_eq_true,decide_eq_true_iff,decide_eq_true_iff,decide_eq_true_iff,Bool.not_eq_true',Bool.and_eq_false_iff,Bool.and_eq_false_iff,decide_eq_false_iff_not,decide_eq_false_iff_not,decide_eq_false_iff_not];omega
 (repeat(first|apply zae|apply zac|apply zab|apply zad));refine zaa hX zb7 rfl ?_ ?_
 ·repeat'(first|exact trivial|assumption|(refine⟨?_,?_⟩)|(intro _)|exact Nat.le_of_ble_eq_true rfl|exact Int.natCast_nonneg _|(simp_all [allP];done))
 refine zaf rfl (fun hb=>?_) (fun hb=>?_)
 ·have hb:=e1.symm.trans hb;(repeat(first|apply zae|apply zac|apply zak|apply zad|apply zab|refine zaa hX zb7 rfl trivial ?_|refine zaa hX zb7 rfl id ?_|refine zaa hX zb7 rfl ⟨id,id⟩ ?_));refine AWP.ret ⟨.inr rfl,zat rfl trivial rfl rfl ?_⟩;show false=zbn n i;unfold zbn zbq;rw[Bool.not_eq_true']at hb;rw[hb];rfl
 have hb:=e1.symm.trans hb;have hb:(inB (ndK n) 1 18&&decide ((ndI n).length≤64))=true:=by simpa using hb
 obtain⟨k1,k2⟩:=zaG.1 ((Bool.and_eq_true _ _).mp hb).1;have hN:zbn n i=((zdE n&&(zgb n&&(zaI (ndI n) (zbH (ndK n)).2.2.1&&zbB n)))&&zdU n i):=by
  unfold zbn zbq;rw[hb,Bool.true_and]
 have hops:=ops_in ⟨k1,k2⟩;apply zac;(repeat(first|apply zae|apply zac|apply zab|apply zad));refine zaa hX zb7 rfl ?_ ?_
 ·exact⟨k1,k2⟩
 have i1:inR .i64 (i - 1):=zar (by omega) (by omega);have e2:(bif (bif decide (opsN n≥1) then !inB (ndL n) 0 (i - 1) else false) then true else (bif (bif (opsN n==0) then (!(ndK n==7)) else false) then (!(ndL n==0)) else false))= !(bif decide (0 < opsN n) then inB (ndL n) 0 (i - 1) else (ndL n==0)||(ndK n==7)):=by
  rcases hops with e|e|e<;>rw[e]
  ·show (bif (bif true then (!(ndK n==7)) else false) then (!(ndL n==0)) else false)= !((ndL n==0)||(ndK n==7));cases ndK n==7<;>cases ndL n==0<;>rfl
  ·show (bif !inB (ndL n) 0 (i - 1) then true else false)= !inB (ndL n) 0 (i - 1);cases inB (ndL n) 0 (i - 1)<;>rfl
  ·show (bif !inB (ndL n) 0 (i - 1) then true else false)= !inB (ndL n) 0 (i - 1);cases inB (ndL n) 0 (i - 1)<;>rfl
 refine zaq (σ':=⟨[(1,⟨i64,i⟩),(2,⟨.optr nd,⟨0,nd,.here⟩⟩),(5,⟨i64,opsN n⟩)],[(0,some (.box nd n))],1⟩) ⟨⟨rfl,rfl,rfl,trivial⟩,⟨rfl,trivial⟩,rfl,rfl⟩ ?_;have hopd:zdU n i=((bif decide (0 < opsN n) then inB (ndL n) 0 (i - 1) else (ndL n==0)||(ndK n==7))&&(bif decide (1 < opsN n) then inB (ndR n) 0 (i - 1) else ndR n==0)):=rfl;have e3:(bif (bif (opsN n==2) then !inB (ndR n) 0 (i - 1) else false) then true else (bif decide (opsN n < 2) then (!(ndR n==0)) else false))= !(bif decide (1 < opsN n) then inB (ndR n) 0 (i - 1) else ndR n==0):=by
  rcases hops with e|e|e<;>rw[e]
  ·show (bif true then (!(ndR n==0)) else false)= !(ndR n==0);cases ndR n==0<;>rfl
  ·show (bif true then (!(ndR n==0)) else false)= !(ndR n==0);cases ndR n==0<;>rfl
  ·show (bif !inB (ndR n) 0 (i - 1) then true else (bif false then _ else false))= !inB (ndR n) 0 (i - 1);cases inB (ndR n) 0 (i - 1)<;>rfl
 generalize opsN n=o at *;(repeat(first|apply zae|apply zac|apply zab|apply zad));refine zaa hX zb7 rfl ?_ ?_
 ·cases decide (o≥1)<;>cases (o==0)<;>cases (n.1 != 7)<;>cases zbC.out (n.2.2.1,(0:Int),i - 1,())
  all_goals
   (repeat'(first|exact trivial|assumption|rfl|exact i1|(intro h;exact absurd h Bool.false_ne_true)|(refine⟨?_,?_⟩)|(intro _)))
 refine zaf rfl (fun hb=>?_) (fun hb=>?_)
 ·have hb:=e2.symm.trans hb;(repeat(first|apply zae|apply zac|apply zak|apply zad|apply zab|refine zaa hX zb7 rfl trivial ?_|refine zaa hX zb7 rfl id ?_|refine zaa hX zb7 rfl ⟨id,id⟩ ?_));refine AWP.ret ⟨.inr rfl,zat rfl trivial rfl rfl ?_⟩;show false=zbn n i;rw[Bool.not_eq_true']at hb;rw[hN,hopd,hb,Bool.false_and,Bool.and_false]
 have hb:=e2.symm.trans hb;have h2:(bif decide (0 < o) then inB (ndL n) 0 (i - 1) else (ndL n==0)||(ndK n==7))=true:=by simpa using hb
 clear hb e2;apply zac;(repeat(first|apply zae|apply zac|apply zab|apply zad));refine zaa hX zb7 rfl ?_ ?_
 ·cases (o==2)<;>cases decide (o < 2)<;>cases zbC.out (n.2.2.2.1,(0:Int),i - 1,())
  all_goals
   (repeat'(first|exact trivial|assumption|rfl|exact i1|(intro h;exact absurd h Bool.false_ne_true)|(refine⟨?_,?_⟩)|(intro _)))
 refine zaf rfl (fun hb=>?_) (fun hb=>?_)
 ·have hb:=e3.symm.trans hb;(repeat(first|apply zae|apply zac|apply zak|apply zad|apply zab|refine zaa hX zb7 rfl trivial ?_|refine zaa hX zb7 rfl id ?_|refine zaa hX zb7 rfl ⟨id,id⟩ ?_));refine AWP.ret ⟨.inr rfl,zat rfl trivial rfl rfl ?_⟩;show false=zbn n i;rw[Bool.not_eq_true']at hb;rw[hN,hopd,hb,Bool.and_false,Bool.and_false]
 have hb:=e3.symm.trans hb;have h3:(bif decide (1 < o) then inB (ndR n) 0 (i - 1) else ndR n==0)=true:=by simpa using hb
 clear hb e3;rw[hopd,h2,h3,Bool.true_and,Bool.and_true]at hN;apply zac;have e4:(bif (bif (zbH (ndK n)).2.1 then !inB (ndC n) 0 2 else false) then true else (bif !(zbH (ndK n)).2.1 then (!(ndC n==0)) else false))= !zdE n:=by
  unfold zdE;cases (zbH (ndK n)).2.1
  ·show (bif true then (!(ndC n==0)) else false)= !(ndC n==0);cases ndC n==0<;>rfl
  ·show (bif !inB (ndC n) 0 2 then true else (bif false then _ else false))= !inB (ndC n) 0 2;cases inB (ndC n) 0 2<;>rfl
 refine zaq (σ':=⟨[(1,⟨i64,i⟩),(2,⟨.optr nd,⟨0,nd,.here⟩⟩)],[(0,some (.box nd n))],1⟩) ⟨⟨rfl,rfl,trivial⟩,⟨rfl,trivial⟩,rfl,rfl⟩ ?_;(repeat(first|apply zae|apply zac|apply zab|apply zad));refine zaa hX zb7 rfl ?_ ?_
 ·have y1:1≤n.1:=k1;have y2:n.1≤18:=k2;have z1:allP (zgG.pre (n.1,())):=⟨k1,k2⟩;cases zgG.out (n.1,())<;>cases zbC.out (n.2.1,(0:Int),(2:Int),())
  all_goals
   (repeat'(first|exact trivial|assumption|rfl|exact z1|exact y1|exact y2|(intro h;exact absurd h Bool.false_ne_true)|(refine⟨?_,?_⟩)|(intro _)))
 refine zaf rfl (fun hb=>?_) (fun hb=>?_)
 ·have hb:=e4.symm.trans hb;(repeat(first|apply zae|apply zac|apply zak|apply zad|apply zab|refine zaa hX zb7 rfl trivial ?_|refine zaa hX zb7 rfl id ?_|refine zaa hX zb7 rfl ⟨id,id⟩ ?_));refine AWP.ret ⟨.inr rfl,zat rfl trivial rfl rfl ?_⟩;show false=zbn n i;rw[Bool.not_eq_true']at hb;rw[hN,hb,Bool.false_and]
 have hb:=e4.symm.trans hb;have h4:zdE n=true:=by simpa using hb
 rw[h4,Bool.true_and]at hN;clear hb e4;apply zac;have e5:(bif (bif (ndK n==18) then !zc9 (ndS n) else false) then true else (bif (!(ndK n==18)) then !eqb .str (ndS n) [] else false))= !zgb n:=by
  unfold zgb;rw[str_ne];cases ndK n==18
  ·show (bif true then !decide (ndS n=[]) else false)= !decide (ndS n=[]);cases decide (ndS n=[])<;>rfl
  ·show (bif !zc9 (ndS n) then true else (bif false then _ else false))= !zc9 (ndS n);cases zc9 (ndS n)<;>rfl
 refine zaq (σ':=⟨[(1,⟨i64,i⟩),(2,⟨.optr nd,⟨0,nd,.here⟩⟩)],[(0,some (.box nd n))],1⟩) ⟨⟨rfl,rfl,trivial⟩,⟨rfl,trivial⟩,rfl,rfl⟩ ?_;(repeat(first|apply zae|apply zac|apply zab|apply zad));refine zaa hX zb7 rfl ?_ ?_
 ·cases (n.1==18)<;>cases zpI.out (n.2.2.2.2.2.2.2.1,())<;>cases (n.1 != 18)
  all_goals
   (repeat'(first|exact trivial|assumption|rfl|(intro h;exact absurd h Bool.false_ne_true)|(refine⟨?_,?_⟩)|(intro _)))
 refine zaf rfl (fun hb=>?_) (fun hb=>?_)
 ·have hb:=e5.symm.trans hb;(repeat(first|apply zae|apply zac|apply zak|apply zad|apply zab|refine zaa hX zb7 rfl trivial ?_|refine zaa hX zb7 rfl id ?_|refine zaa hX zb7 rfl ⟨id,id⟩ ?_));refine AWP.ret ⟨.inr rfl,zat rfl trivial rfl rfl ?_⟩;show false=zbn n i;rw[Bool.not_eq_true']at hb;rw[hN,hb,Bool.false_and]
 have hb:=e5.symm.trans hb;have h5:zgb n=true:=by simpa using hb
 rw[h5,Bool.true_and]at hN;clear hb e5;apply zac;refine zaq (σ':=⟨[(2,⟨.optr nd,⟨0,nd,.here⟩⟩)],[(0,some (.box nd n))],1⟩) ⟨⟨rfl,trivial⟩,⟨rfl,trivial⟩,rfl,rfl⟩ ?_;(repeat(first|apply zae|apply zac|apply zab|apply zad));refine zaa hX zb7 rfl ?_ ?_
 ·have z1:allP (zrH.pre (n,())):=⟨k1,k2⟩;cases zrH.out (n,())
  all_goals
   (repeat'(first|exact trivial|assumption|rfl|exact k1|exact k2|exact z1|(intro h;exact absurd h Bool.false_ne_true)|(refine⟨?_,?_⟩)|(intro _)))
 refine AWP.ret ⟨.inr rfl,zat rfl trivial rfl rfl ?_⟩;show (bif zaI (ndI n) (zbH (ndK n)).2.2.1 then zbB n else false)=zbn n i;rw[hN,zdf]
def guT:Tbl:=(236,.int .u64)::gmT
theorem guT_ok:TOk Tryz.prog guT gmQ:=zrQ (by kernel_rfl) (by kernel_rfl)
def guK:Kn:={ T:=guT,Q:=gmQ,U:=gmU,C:=[] }
theorem zkq:KnOk Tryz.prog gmH guK:=⟨guT_ok,zgD,CsOk.nil,zhD,RsOk.nil⟩
def cMag:Ctr:={ args:=[i64],pre:=fun x=>[0≤x.1],res:=.int .u64,own:=none,out:=fun x=>BitVec.ofInt 64 x.1 }
theorem mag_ok:CtrOk Tryz.prog gmH 223 cMag:=by
 refine zan (K:=guK) zkq Tryz.func223 rfl rfl Tryz.call223 rfl (by decide) (by intro h;cases h) ?_;rintro w0 X hX ⟨(n:Int),_⟩ hp;have hn:0≤n:=hp;change AWP _ _ _ _ _ ⟨[(0,⟨i64,n⟩)],[],0⟩ _;(repeat(first|apply zae|apply zac|apply zab|apply zad));refine zaa hX zkq rfl ?_ ?_
 ·trivial
 (repeat(first|apply zae|apply zac|apply zab|apply zad));refine zaa hX zkq rfl ?_ ?_
 ·trivial
 refine zaf rfl (fun hb=>?_) (fun hb=>?_)
 ·have hb:decide (n < 0)=true:=hb;have hb:=of_decide_eq_true hb;omega
 apply zac;(repeat(first|apply zae|apply zac|apply zab|apply zad));refine zaa hX zkq rfl ?_ ?_
 ·trivial
 refine AWP.ret ⟨.inr rfl,zat rfl trivial rfl rfl ?_⟩;rfl
theorem bvI {a:Int} (h:0≤a):(⟨.int .u64,BitVec.ofInt 64 a⟩:V)=⟨.int .u64,BitVec.ofNat 64 a.toNat⟩:=by
 have:BitVec.ofInt 64 a=BitVec.ofNat 64 a.toNat:=by
  conv=>lhs;rw[<-Int.toNat_of_nonneg h]
  exact BitVec.ofInt_natCast ..
 rw[this]
theorem bvN {y:Nat} (h:y≤1000000000000000):(BitVec.ofNat 64 y).toNat=y:=by
 rw[BitVec.toNat_ofNat];exact Nat.mod_eq_of_lt (by omega)
theorem bvR {x y:Nat} (hx:x≤1000000000000000) (hy:y≤1000000000000000):(⟨.int .u64,BitVec.ofNat 64 x % BitVec.ofNat 64 y⟩:V)=⟨.int .u64,BitVec.ofNat 64 (x % y)⟩:=by
 have hm:x % y≤x:=Nat.mod_le ..;have:BitVec.ofNat 64 x % BitVec.ofNat 64 y=BitVec.ofNat 64 (x % y):=BitVec.eq_of_toNat_eq (by rw[BitVec.toNat_umod,bvN hx,bvN hy,bvN (by omega)]);rw[this]
def cGcd:Ctr:={ args:=[i64,i64],pre:=fun x=>[1≤x.1,x.1≤1000000000000000,1≤x.2.1,x.2.1≤1000000000000000],res:=i64,own:=none,out:=fun x=>((Nat.gcd x.2.1.toNat x.1.toNat:Nat):Int) }
def kGcd:Kn:={ guK with C:=[(223,cMag)] }
theorem zfa:KnOk Tryz.prog gmH kGcd:=zkq.with (.cons mag_ok .nil)
theorem gcd_ok:CtrOk Tryz.prog gmH 190 cGcd:=by
 refine zan (K:=kGcd) zfa Tryz.func190 rfl rfl Tryz.call190 rfl (by decide) (by intro h;cases h) ?_;rintro w0 X hX ⟨(a:Int),(b:Int),_⟩ hp;obtain⟨ha,ha',hb,hb'⟩:1≤a∧a≤1000000000000000∧1≤b∧b≤1000000000000000:=by
  simp only[cGcd,allP]at hp
  simpa using hp
 change AWP _ _ _ _ _ ⟨[(0,⟨i64,a⟩),(1,⟨i64,b⟩)],[],0⟩ _;apply zae;(repeat(first|apply zae|apply zac|apply zab|apply zad));refine zaa hX zfa rfl ?_ ?_
 ·trivial
 (repeat(first|apply zae|apply zac|apply zab|apply zad));refine zaa hX zfa rfl ?_ ?_
 ·have h1:0≤a:=by omega
  have h2:0≤b:=by omega
  repeat'(first|exact trivial|exact h1|exact h2|(refine⟨?_,?_⟩)|(intro _))
 (repeat(first|apply zae|apply zac|apply zab|apply zad));refine AWP.loop (ι:=Nat×Nat) (fun p=>⟨[(0,⟨i64,a⟩),(1,⟨i64,b⟩),(5,⟨.int .u64,BitVec.ofNat 64 p.1⟩),(6,⟨.int .u64,BitVec.ofNat 64 p.2⟩)],[],0⟩) (fun p=>p.1≤1000000000000000∧p.2≤1000000000000000∧Nat.gcd p.2 p.1=Nat.gcd b.toNat a.toNat) (fun p=>p.2) (a.toNat,b.toNat) ⟨by omega,by omega,rfl⟩ ⟨⟨rfl,rfl,bvI (by omega),bvI (by omega),trivial⟩,trivial,rfl,rfl⟩ ?_;rintro ⟨x,y⟩ ⟨hx,hy,hg⟩;have hx:x≤1000000000000000:=hx;have hy:y≤1000000000000000:=hy;have hg:Nat.gcd y x=Nat.gcd b.toNat a.toNat:=hg;(repeat(first|apply zae|apply zac|apply zab|apply zad));refine zaa hX zfa rfl ?_ ?_
 ·trivial
 refine zaf rfl (fun hb=>?_) (fun hb=>?_)
 ·have hc:((((BitVec.ofNat 64 y).toNat:Nat):Int) != 0)=true:=hb;have hy1:y≠0:=fun e=>by subst e;exact absurd hc (by decide)
  have hy0:BitVec.ofNat 64 y≠0:=fun e=>hy1 (by have:=congrArg BitVec.toNat e;rw[bvN hy]at this;exact this);(repeat(first|apply zae|apply zac|apply zab|apply zad));refine AWP.orders (σ':=⟨[(0,⟨i64,a⟩),(1,⟨i64,b⟩),(5,⟨.int .u64,BitVec.ofNat 64 y⟩),(6,⟨.int .u64,BitVec.ofNat 64 (x % y)⟩)],[],0⟩) dM hX zfa 6 rfl (by kernel_rfl) [[0,1,2,3,4,5],[0,1,2,4,3,5],[0,1,4,2,3,5],[0,2,1,3,4,5],[0,2,1,4,3,5],[1,0,2,3,4,5],[1,0,2,4,3,5],[1,0,4,2,3,5],[1,2,0,3,4,5],[1,2,0,4,3,5],[1,2,3,0,4,5],[2,0,1,3,4,5],[2,0,1,4,3,5],[2,1,0,3,4,5],[2,1,0,4,3,5],[2,1,3,0,4,5]] (by kernel_rfl) ?_ ?_
  ·repeat'(first|exact AllL.nil|refine AllL.cons (LinOk.mk rfl ?_ ⟨⟨rfl,rfl,rfl,bvR hx hy,trivial⟩,trivial,rfl,rfl⟩) ?_)
   all_goals (repeat'(first|exact trivial|exact hy0|(refine⟨?_,?_⟩)|(intro _)))
  exact⟨(y,x % y),⟨hy,Nat.le_trans (Nat.mod_le ..) hx,by rw[<-Nat.gcd_rec];exact hg⟩,Nat.mod_lt _ (by omega),⟨rfl,rfl,rfl,rfl,trivial⟩,trivial,rfl,rfl⟩
 ·have hc:((((BitVec.ofNat 64 y).toNat:Nat):Int) != 0)=false:=hb;rw[bvN hy]at hc;have hy0:y=0:=by
   have:=bne_eq_false_iff_eq.1 hc;omega
  subst hy0;rw[Nat.gcd_zero_left]at hg;apply zad;(repeat(first|apply zae|apply zac|apply zab|apply zad));refine zaa hX zfa rfl ?_ ?_
  ·trivial
  refine zaf rfl (fun hd=>?_) (fun hd=>?_)
  ·have hd:decide ((((BitVec.ofNat 64 x).toNat:Nat):Int) > 9223372036854775807)=true:=hd;rw[bvN hx]at hd;have:=of_decide_eq_true hd;omega
  apply zac;(repeat(first|apply zae|apply zac|apply zab|apply zad));refine zaa hX zfa rfl ?_ ?_
  ·show inR .i64 (((BitVec.ofNat 64 x).toNat:Nat):Int);rw[bvN hx];exact zar (by omega) (by omega)
  refine AWP.ret ⟨.inr rfl,zat rfl trivial rfl rfl ?_⟩;show (((BitVec.ofNat 64 x).toNat:Nat):Int)=((Nat.gcd b.toNat a.toNat:Nat):Int);rw[bvN hx,hg]
theorem zlm {x y:Nat} (hx:1≤x):x / Nat.gcd y x * y=Nat.lcm x y:=by
 have hg:Nat.gcd y x ∣ x:=Nat.gcd_dvd_right y x;have hp:0 < Nat.gcd y x:=Nat.gcd_pos_of_pos_right _ (by omega);obtain⟨k,hk⟩:=hg;unfold Nat.lcm;rw[Nat.gcd_comm x y];generalize Nat.gcd y x=g at *;subst hk;rw[Nat.mul_div_cancel_left _ hp,Nat.mul_assoc,Nat.mul_div_cancel_left _ hp]
def cLcm:Ctr:={ args:=[i64,i64],pre:=fun x=>[1≤x.1,x.1≤1000,1≤x.2.1,x.2.1≤1000],res:=.tup i64 (.tup i64 .unit),own:=none,out:=fun x=>(((Nat.lcm x.1.toNat x.2.1.toNat:Nat):Int),(0:Int),()) }
def kLcm:Kn:={ gmK with C:=[(190,cGcd)] }
theorem zgc:KnOk Tryz.prog gmH kLcm:=zai.with (.cons gcd_ok .nil)
theorem lcm_ok:CtrOk Tryz.prog gmH 158 cLcm:=by
 refine zan (K:=kLcm) zgc Tryz.func158 rfl rfl Tryz.call158 rfl (by decide) (by intro h;cases h) ?_;rintro w0 X hX ⟨(a:Int),(b:Int),_⟩ hp;obtain⟨ha,ha',hb,hb'⟩:1≤a∧a≤1000∧1≤b∧b≤1000:=by
  simp only[cLcm,allP]at hp
  simpa using hp
 change AWP _ _ _ _ _ ⟨[(0,⟨i64,a⟩),(1,⟨i64,b⟩)],[],0⟩ _;(repeat(first|apply zae|apply zac|apply zab|apply zad));refine zaa hX zgc rfl ?_ ?_
 ·trivial
 (repeat(first|apply zae|apply zac|apply zab|apply zad));refine zaa hX zgc rfl ?_ ?_
 ·exact⟨id,id⟩
 have t1:(bif decide (a < 1) then true else decide (b < 1))=false:=by
  rw[decide_eq_false (by omega),decide_eq_false (by omega)];rfl
 refine zaf rfl (fun hc=>?_) (fun _=>?_)
 ·have hc:(bif decide (a < 1) then true else decide (b < 1))=true:=hc;rw[t1]at hc;cases hc
 apply zac;have hg:0 < Nat.gcd b.toNat a.toNat:=Nat.gcd_pos_of_pos_right _ (by omega);have hq:a.tdiv ((Nat.gcd b.toNat a.toNat:Nat):Int)=((a.toNat / Nat.gcd b.toNat a.toNat:Nat):Int):=by
  conv=>lhs;rw[<-Int.toNat_of_nonneg (by omega:0≤a)]
  exact Int.ofNat_tdiv ..
 have hqle:a.toNat / Nat.gcd b.toNat a.toNat≤a.toNat:=Nat.div_le_self ..;have hq1000:a.toNat / Nat.gcd b.toNat a.toNat≤1000:=by omega
 have q1:((Nat.gcd b.toNat a.toNat:Nat):Int)≠0:=by omega
 have q2:inR .i64 (a.tdiv ((Nat.gcd b.toNat a.toNat:Nat):Int)):=by rw[hq];generalize a.toNat / Nat.gcd b.toNat a.toNat=z at hq1000;exact zar (by omega) (by omega)
 have big1:a≤1000000000000000:=by omega
 have big2:b≤1000000000000000:=by omega
 (repeat(first|apply zae|apply zac|apply zab|apply zad));refine zaa hX zgc rfl ?_ ?_
 ·exact⟨ha,big1,hb,big2,q1,q2⟩
 refine zaq (σ':=⟨[(0,⟨i64,a⟩),(1,⟨i64,b⟩),(6,⟨i64,((a.toNat / Nat.gcd b.toNat a.toNat:Nat):Int)⟩)],[],0⟩) ⟨⟨rfl,rfl,vI64 hq,trivial⟩,trivial,rfl,rfl⟩ ?_;have hd:(1099511627776:Int).tdiv b=((1099511627776 / b.toNat:Nat):Int):=by
  conv=>lhs;rw[<-Int.toNat_of_nonneg (by omega:0≤b)]
  exact Int.ofNat_tdiv ..
 have hd1:1099511627776 / 1000≤1099511627776 / b.toNat:=Nat.div_le_div_left (by omega) (by omega);have hd2:1099511627776 / b.toNat≤1099511627776:=Nat.div_le_self ..;have q3:b≠0:=by omega
 have q4:inR .i64 ((1099511627776:Int).tdiv b):=by rw[hd];exact zar (by omega) (by omega)
 (repeat(first|apply zae|apply zac|apply zab|apply zad));refine zaa hX zgc rfl ?_ ?_
 ·exact⟨q3,q4⟩
 refine zaf rfl (fun hc=>?_) (fun _=>?_)
 ·have hc:decide (((a.toNat / Nat.gcd b.toNat a.toNat:Nat):Int) > (1099511627776:Int).tdiv b)=true:=hc;have hc:=of_decide_eq_true hc;rw[hd]at hc;omega
 apply zac;have hm:((a.toNat / Nat.gcd b.toNat a.toNat:Nat):Int) * b=((Nat.lcm a.toNat b.toNat:Nat):Int):=by
  rw[<-zlm (x:=a.toNat) (y:=b.toNat) (by omega),Int.natCast_mul,Int.toNat_of_nonneg (by omega:0≤b)]
 have hml:Nat.lcm a.toNat b.toNat≤1000000:=by
  rw[<-zlm (x:=a.toNat) (y:=b.toNat) (by omega)];exact Nat.mul_le_mul (by omega:_≤1000) (by omega:b.toNat≤1000)
 have q5:inR .i64 (((a.toNat / Nat.gcd b.toNat a.toNat:Nat):Int) * b):=by rw[hm];exact zar (by omega) (by omega)
 (repeat(first|apply zae|apply zac|apply zab|apply zad));refine zaa hX zgc rfl ?_ ?_
 ·exact q5
 refine AWP.ret ⟨.inr rfl,za7 (by decide) rfl rfl trivial ?_⟩;show (((a.toNat / Nat.gcd b.toNat a.toNat:Nat):Int) * b,(0:Int),())=(((Nat.lcm a.toNat b.toNat:Nat):Int),(0:Int),());rw[hm]
abbrev Lr:=Int×Int×Bool×Unit
def zlf (r:Lr):Bool:=decide (r.1 < 1)||decide (r.1 > 400)||decide (r.2.1 < 0)||decide (r.2.1≥r.1)
def perS (y:Nat):List Lr->Int×Bool
 | []=>((y:Int),true)
 |r::l=>if zlf r=true then (0,false) else if 400 < Nat.lcm y r.1.toNat then (0,false) else perS (Nat.lcm y r.1.toNat) l
def cPer:Ctr:={ args:=[.slice lru],pre:=fun _=>[],res:=.tup i64 (.tup .bool .unit),own:=none,out:=fun x=>((perS 1 x.1).1,(perS 1 x.1).2,()) }
def kPer:Kn:={ gmK with C:=[(158,cLcm)] }
theorem zbK:KnOk Tryz.prog gmH kPer:=zai.with (.cons lcm_ok .nil)
def zLr:Lr:=(0,0,false,())
theorem zoC:CtrOk Tryz.prog gmH 125 cPer:=by
 refine zan (K:=kPer) zbK Tryz.func125 rfl rfl Tryz.call125 rfl (by decide) (by intro h;cases h) ?_;rintro w0 X hX ⟨(l:List Lr),_⟩ hp;change AWP _ _ _ _ _ ⟨[(0,⟨.slice lru,l⟩)],[],0⟩ _;refine AWP.len 0 rfl fun hl=>?_;unfold maxLen at hl;(repeat(first|apply zae|apply zac|apply zab|apply zad));refine zaa hX zbK rfl ?_ ?_
 ·trivial
 (repeat(first|apply zae|apply zac|apply zab|apply zad));refine zaa hX zbK rfl ?_ ?_
 ·trivial
 (repeat(first|apply zae|apply zac|apply zab|apply zad));refine zaa hX zbK rfl ?_ ?_
 ·trivial
 (repeat(first|apply zae|apply zac|apply zab|apply zad));refine AWP.loop (ι:=Nat×Nat) (fun p=>⟨[(0,⟨.slice lru,l⟩),(4,⟨i64,(p.2:Int)⟩),(9,⟨.slice lru,l⟩),(10,⟨i64,((l.length:Nat):Int)⟩),(11,⟨i64,(p.1:Int)⟩)],[],0⟩) (fun p=>p.1≤l.length∧(1≤p.2∧p.2≤400)∧perS 1 l=perS p.2 (l.drop p.1)) (fun p=>l.length - p.1) (0,1) ⟨Nat.zero_le _,⟨by decide,by decide⟩,rfl⟩ ⟨⟨rfl,rfl,rfl,rfl,rfl,trivial⟩,trivial,rfl,rfl⟩ ?_;rintro ⟨k,y⟩ ⟨hk,hy,hr⟩;have hk:k≤l.length:=hk;have hy:1≤y∧y≤400:=hy;have hr:perS 1 l=perS y (l.drop k):=hr;(repeat(first|apply zae|apply zac|apply zab|apply zad));refine zaa hX zbK rfl ?_ ?_
 ·trivial
 apply zae;refine zaf rfl (fun hb=>?_) (fun hb=>?_)
 ·have hb:decide ((k:Int) < (l.length:Nat))=true:=hb;have hb:=of_decide_eq_true hb;have hlt:k < l.length:=by omega
  have n0:(0:Int)≤(k:Int):=by omega
  have hgd:l.getD (k:Int).toNat zLr=l[k]:=za0 hlt;rw[List.drop_eq_getElem_cons hlt,perS, <-hgd]at hr;(repeat(first|apply zae|apply zac|apply zab|apply zad));refine zaa hX zbK rfl ?_ ?_
  ·exact⟨n0,hb⟩
  generalize hG:l.getD (k:Int).toNat zLr=G at hr;obtain⟨(ev:Int),(rs:Int),(ye:Bool),⟨⟩⟩:=G;refine zaq (σ':=⟨[(0,⟨.slice lru,l⟩),(4,⟨i64,(y:Int)⟩),(9,⟨.slice lru,l⟩),(10,⟨i64,((l.length:Nat):Int)⟩),(11,⟨i64,(k:Int)⟩),(6,⟨.optr lru,⟨0,lru,.here⟩⟩)],[(0,some (.box lru (ev,rs,ye,())))],1⟩) ⟨⟨rfl,rfl,rfl,rfl,rfl,rfl,trivial⟩,⟨zfT hG,trivial⟩,rfl,rfl⟩ ?_;(repeat(first|apply zae|apply zac|apply zab|apply zad));refine zaa hX zbK rfl ?_ ?_
  ·repeat'(first|exact trivial|assumption|(refine⟨?_,?_⟩)|(intro _)|exact Nat.le_of_ble_eq_true rfl|exact Int.natCast_nonneg _|(simp_all [allP];done))
  have hbe:zlf (ev,rs,ye,())=(bif (bif (bif decide (ev < 1) then true else decide (ev > 400)) then true else decide (rs < 0)) then true else decide (rs≥ev)):=by
   unfold zlf;rw[b_or,b_or,b_or]
  refine zaf rfl (fun hc=>?_) (fun hc=>?_)
  ·have hc:=hbe.trans hc;(repeat(first|apply zae|apply zac|apply zak|apply zad|apply zab|refine zaa hX zbK rfl trivial ?_|refine zaa hX zbK rfl id ?_|refine zaa hX zbK rfl ⟨id,id⟩ ?_));refine AWP.ret ⟨.inr rfl,za7 (by decide) rfl rfl trivial ?_⟩;show ((0:Int),false,())=((perS 1 l).1,(perS 1 l).2,());rw[hr,if_pos hc]
  have hc:=hbe.trans hc;have hn:=hc;unfold zlf at hn;simp only[Bool.or_eq_false_iff,decide_eq_false_iff_not]at hn;obtain⟨⟨⟨n1,n2⟩,n3⟩,n4⟩:=hn;have n1:¬ ev < 1:=n1;have n2:¬ ev > 400:=n2;apply zac;have l1:(1:Int)≤(y:Int):=by omega
  have l2:(y:Int)≤1000:=by omega
  have l3:1≤ev:=by omega
  have l4:ev≤1000:=by omega
  (repeat(first|apply zae|apply zac|apply zab|apply zad));refine zaa hX zbK rfl ?_ ?_
  ·exact⟨l1,l2,l3,l4⟩
  refine zaq (σ':=⟨[(0,⟨.slice lru,l⟩),(4,⟨i64,(y:Int)⟩),(9,⟨.slice lru,l⟩),(10,⟨i64,((l.length:Nat):Int)⟩),(11,⟨i64,(k:Int)⟩),(7,⟨i64,((Nat.lcm y ev.toNat:Nat):Int)⟩),(8,⟨i64,0⟩)],[],1⟩) ⟨⟨rfl,rfl,rfl,rfl,rfl,rfl,rfl,trivial⟩,trivial,rfl,rfl⟩ ?_;(repeat(first|apply zae|apply zac|apply zab|apply zad));refine zaa hX zbK rfl ?_ ?_
  ·repeat'(first|exact trivial|assumption|(refine⟨?_,?_⟩)|(intro _)|exact Nat.le_of_ble_eq_true rfl|exact Int.natCast_nonneg _|(simp_all [allP];done))
  refine zaf rfl (fun hd=>?_) (fun hd=>?_)
  ·have hd:decide (((Nat.lcm y ev.toNat:Nat):Int) > 400)=true:=hd;have hd:=of_decide_eq_true hd;(repeat(first|apply zae|apply zac|apply zak|apply zad|apply zab|refine zaa hX zbK rfl trivial ?_|refine zaa hX zbK rfl id ?_|refine zaa hX zbK rfl ⟨id,id⟩ ?_));refine AWP.ret ⟨.inr rfl,za7 (by decide) rfl rfl trivial ?_⟩;show ((0:Int),false,())=((perS 1 l).1,(perS 1 l).2,());rw[hr,if_neg (by rw[hc];decide),if_pos (by show 400 < Nat.lcm y ev.toNat;omega)]
  ·have hd:decide (((Nat.lcm y ev.toNat:Nat):Int) > 400)=false:=hd;have hd:=of_decide_eq_false hd;have hlp:0 < Nat.lcm y ev.toNat:=Nat.lcm_pos (by omega) (by omega);apply zac;(repeat(first|apply zae|apply zac|apply zab|apply zad));refine zaa hX zbK rfl ?_ ?_
   ·trivial
   (repeat(first|apply zae|apply zac|apply zab|apply zad));refine zaa hX zbK rfl ?_ ?_
   ·exact zaF (by omega)
   refine⟨(k+1,Nat.lcm y ev.toNat),⟨hlt,⟨hlp,by show Nat.lcm y ev.toNat≤400;omega⟩,?_⟩,by show l.length - (k+1) < l.length - k;omega,⟨rfl,rfl,rfl,rfl,zcg _,trivial⟩,trivial,rfl,rfl⟩;rw[hr,if_neg (by rw[hc];decide),if_neg (by show ¬ 400 < Nat.lcm y ev.toNat;omega)]
 ·have hb:decide ((k:Int) < (l.length:Nat))=false:=hb;have hb:=of_decide_eq_false hb;have:k=l.length:=by omega
  subst this;rw[List.drop_length,perS]at hr;(repeat(first|apply zae|apply zac|apply zak|apply zad|apply zab|refine zaa hX zbK rfl trivial ?_|refine zaa hX zbK rfl id ?_|refine zaa hX zbK rfl ⟨id,id⟩ ?_));refine AWP.ret ⟨.inr rfl,za7 (by decide) rfl rfl trivial ?_⟩;show ((y:Int),true,())=((perS 1 l).1,(perS 1 l).2,());rw[hr]
theorem zld (c:UInt8):isLt c=((decide (97≤(c.toNat:Int))&&decide ((c.toNat:Int)≤122))||(decide (65≤(c.toNat:Int))&&decide ((c.toNat:Int)≤90))):=by
 have h:∀ n:Fin 256,(isLt (UInt8.ofNat n.val)==((decide (97≤((UInt8.ofNat n.val).toNat:Int))&&decide (((UInt8.ofNat n.val).toNat:Int)≤122))||(decide (65≤((UInt8.ofNat n.val).toNat:Int))&&decide (((UInt8.ofNat n.val).toNat:Int)≤90))))=true:=by decide+kernel
 have:=h ⟨c.toNat,c.toNat_lt⟩;rw[UInt8.ofNat_toNat]at this;exact beq_iff_eq.1 this
theorem znF (s:ByteArray) (pos:Nat) (h:pos < s.size):1≤(Utf8.decode s pos).2:=by
 by_cases ha:(s[pos]'h).toNat < 128
 ·rw[decode_ascii s pos h ha];exact Nat.le_refl _
 ·exact (decode_high s pos h (by omega)).2
def LtR (c:Int):Prop:=(97≤c∧c≤122)∨(65≤c∧c≤90)
def DgR (c:Int):Prop:=(48≤c∧c≤57)∨c=45
theorem zoK {l:List UInt8} {pos c wd:Nat} (hp:pos < l.length) (hdec:(l[pos].toNat < 128∧(c,wd)=(l[pos].toNat,1))∨(128≤l[pos].toNat∧128≤c)) (hhd:0 < pos->l.head?.all isLt=true) (hall:(l.take pos).all isPt=true)
 (h:LtR c∨(pos≠0∧DgR c)):wd=1∧l.head?.all isLt=true∧(l.take (pos+1)).all isPt=true:=by
 unfold LtR DgR at h;rcases hdec with ⟨h1,e⟩|⟨h1,e⟩
 ·have e1:c=l[pos].toNat:=congrArg (fun x=>x.1) e;have e2:wd=1:=congrArg (fun x=>x.2) e;have hpt:isPt l[pos]=true:=by
   unfold isPt;rw[zld];rcases h with h|⟨_,h|h⟩
   ·have:((decide (97≤(l[pos].toNat:Int))&&decide ((l[pos].toNat:Int)≤122))||(decide (65≤(l[pos].toNat:Int))&&decide ((l[pos].toNat:Int)≤90)))=true:=by
     simp only[Bool.or_eq_true,Bool.and_eq_true,decide_eq_true_iff];omega
    rw[this];rfl
   ·have:isDg l[pos]=true:=by
     unfold isDg;rw[Bool.and_eq_true,decide_eq_true_iff,decide_eq_true_iff,UInt8.le_iff_toNat_le,UInt8.le_iff_toNat_le];exact⟨by show 48≤_;omega,by show _≤57;omega⟩
    rw[this,Bool.or_true];rfl
   ·have:l[pos]=45:=UInt8.toNat_inj.1 (by show _=45;omega);rw[this];rfl
  refine⟨e2,?_,?_⟩
  ·by_cases h0:pos=0
   ·subst h0;have hl:isLt l[0]=true:=by
     rw[zld];simp only[Bool.or_eq_true,Bool.and_eq_true,decide_eq_true_iff];omega
    cases l with
    |nil=>rfl
    |cons a q=>exact hl
   ·exact hhd (by omega)
  ·rw[List.take_succ_eq_append_getElem hp,List.all_append,hall,List.all_cons,hpt];rfl
 ·omega
theorem zqN {l:List UInt8} {pos c wd:Nat} (hp:pos < l.length) (hdec:(l[pos].toNat < 128∧(c,wd)=(l[pos].toNat,1))∨(128≤l[pos].toNat∧128≤c)) (h:¬ (LtR c∨(pos≠0∧DgR c))):zc9 l=false:=by
 unfold LtR DgR at h;have hlt:isLt l[pos]=false:=by
  rw[zld];simp only[Bool.or_eq_false_iff,Bool.and_eq_false_iff,decide_eq_false_iff_not];rcases hdec with ⟨h1,e⟩|⟨h1,e⟩
  ·have e1:c=l[pos].toNat:=congrArg (fun x=>x.1) e;omega
  ·omega
 unfold zc9;by_cases h0:pos=0
 ·subst h0;cases l with
  |nil=>exact absurd hp (Nat.not_lt_zero _)
  |cons a q=>
   have hlt:isLt a=false:=hlt;show (_&&_&&(isLt a&&_))=false;rw[hlt,Bool.false_and,Bool.and_false]
 ·have hpt:isPt l[pos]=false:=by
   unfold isPt;have hd:isDg l[pos]=false:=by
    unfold isDg;rw[Bool.and_eq_false_iff,decide_eq_false_iff_not,decide_eq_false_iff_not,UInt8.le_iff_toNat_le,UInt8.le_iff_toNat_le];show ¬ 48≤_∨¬ _≤57;rcases hdec with ⟨h1,e⟩|⟨h1,e⟩
    ·have e1:c=l[pos].toNat:=congrArg (fun x=>x.1) e;omega
    ·omega
   have h45:(l[pos]==45)=false:=by
    rw[beq_eq_false_iff_ne];intro e2;have e3:l[pos].toNat=45:=by rw[e2];rfl
    rcases hdec with ⟨h1,e⟩|⟨h1,e⟩
    ·have e1:c=l[pos].toNat:=congrArg (fun x=>x.1) e;omega
    ·omega
   rw[hlt,hd,h45];rfl
  have:l.all isPt=false:=by
   rw[List.all_eq_false];exact⟨l[pos],List.getElem_mem hp,by rw[hpt];decide⟩
  rw[this,Bool.and_false,Bool.and_false]
set_option maxHeartbeats 2000000 in
theorem zla (l:List UInt8) (w:World):Calls Tryz.prog 120 #[.string ⟨l.toArray⟩] w fun e w'=>e= .returned (.bool (zc9 l))∧∃ pos,w'=w.iter ⟨l.toArray⟩ pos:=by
 go_enter Tryz.func120,Tryz.ntmps120
 go_wp2
 go_loopw [] (fun w'=>∃ (pos:Nat),w'=w.iter ⟨l.toArray⟩ pos∧pos≤l.length∧(0 < pos->l.head?.all isLt=true)∧(l.take pos).all isPt=true) (fun w'=>l.length - w'.iterPos w.heap.size)
 case atStart=>exact⟨0,rfl,Nat.zero_le _,fun h=>absurd h (by decide),rfl⟩
 case round=>
  obtain⟨pos,rfl,hpos,hhd,hall⟩:=hrel;have hsz:(⟨l.toArray⟩:ByteArray).size=l.length:=by simp[ByteArray.size]
  by_cases hp:pos < (⟨l.toArray⟩:ByteArray).size
  ·have hnx:∀ ty,(Instr.next (.pointer (some ⟨w.heap.size,0,none⟩)) true ty).run Tryz.prog (w.iter ⟨l.toArray⟩ pos)=_:=fun ty=>run_next_any w _ pos ty hp;have hwd:=znF _ pos hp;have hlo:l[pos]'(by omega)=(⟨l.toArray⟩:ByteArray)[pos]'hp:=rfl;have hdec:((l[pos]'(by omega)).toNat < 128∧Utf8.decode ⟨l.toArray⟩ pos=((l[pos]'(by omega)).toNat,1))∨(128≤(l[pos]'(by omega)).toNat∧128≤(Utf8.decode ⟨l.toArray⟩ pos).1):=by
    by_cases ha:(l[pos]'(by omega)).toNat < 128
    ·exact .inl ⟨ha,decode_ascii _ pos hp ha⟩
    ·exact .inr ⟨by omega,(decode_high _ pos hp (by rw[<-hlo];omega)).1⟩
   generalize Utf8.decode ⟨l.toArray⟩ pos=dc at hnx hwd hdec;obtain⟨c,wd⟩:=dc;simp only[]at hnx hwd hdec;generalize hci:((c:Nat):Int)=ci at hnx;have hlen:pos < l.length:=by omega
   have hgood:=zoK hlen hdec hhd hall;have hbad:=zqN hlen hdec;rw[hci]at hgood hbad;by_cases hcase:LtR ci∨(pos≠0∧DgR ci)
   ·obtain⟨e1,e2,e3⟩:=hgood hcase;clear hgood hbad hdec hlo;unfold LtR DgR at hcase
    go_wp2
    all_goals (first
     |(exfalso
       clear hnx;simp only[Bool.not_eq_true',Bool.not_eq_false',decide_eq_false_iff_not,decide_eq_true_eq,beq_iff_eq,beq_eq_false_iff_ne]at *;omega)
     |(go_roundw
       case rel=>exact⟨pos+1,by simp[*],by omega,fun _=>e2,e3⟩
       case measure=>(simp[*];omega)))
   ·have hnf:=hbad hcase;clear hgood hbad hdec hlo;unfold LtR DgR at hcase
    go_wp2
    all_goals (first
     |(exfalso
       clear hnx;simp only[Bool.not_eq_true',Bool.not_eq_false',decide_eq_false_iff_not,decide_eq_true_eq,beq_iff_eq,beq_eq_false_iff_ne]at *;omega)
     |(go_ret
       refine⟨?_,_,rfl⟩
       first|rfl|(rw[hnf];rfl)|(simp[*];done)))
  ·have hnx:∀ ty,(Instr.next (.pointer (some ⟨w.heap.size,0,none⟩)) true ty).run Tryz.prog (w.iter ⟨l.toArray⟩ pos)=_:=fun ty=>run_next_end w _ pos ty hp;have hend:zc9 l=(decide (l≠ [])&&decide (l.length≤32)):=by
    have hpl:pos=l.length:=by omega
    subst hpl;rw[List.take_length]at hall;have hh:l.head?.all isLt=true:=by
     cases l with
     |nil=>rfl
     |cons a q=>exact hhd (Nat.zero_lt_succ _)
    unfold zc9;rw[hh,hall];simp
   go_wp2
   all_goals (
    rename_i hne
    go_ret
    refine⟨?_,pos,by simp[hne]⟩;rw[hend]
    first
    |(simp[hne];done)
    |(cases l with
      |nil=>exact absurd rfl hne
      |cons a q=>(simp;try omega)))
def cName:Ctr:={ args:=[.str],pre:=fun _=>[],res:=.bool,own:=none,out:=fun x=>zc9 x.1 }
theorem zoL:CtrOk Tryz.prog gmH 120 cName:=by
 refine⟨Tryz.call120,fun w O xs vs hO hr hp hG=>?_⟩;obtain⟨(l:List UInt8),_⟩:=xs;obtain⟨v1,r1,rfl,e1,rfl⟩:=hr;have e1: [v1]=[Value.string ⟨l.toArray⟩]∧l.length≤maxLen:=e1;obtain⟨e1,_⟩:=e1;cases e1;refine (zla l w).mono ?_;rintro e w' ⟨rfl,pos,rfl⟩;exact⟨_,rfl,zaY w _,fun β=>rfl⟩
theorem zhQ {u:List Int} {B:Int} (h:∀ k:Nat,0≤u.getD k 0∧u.getD k 0≤B) (j:Int):∀ k:Nat,0≤(bump u j).getD k 0∧(bump u j).getD k 0≤B+1:=fun k=>by
 unfold bump;rw[List.getD_eq_getElem?_getD,List.getElem?_set];have h1:=h k;have h2:=h j.toNat;rw[List.getD_eq_getElem?_getD]at h1;split
 ·split
  ·show 0≤u.getD j.toNat 0+1∧u.getD j.toNat 0+1≤B+1;omega
  ·show (0:Int)≤0∧(0:Int)≤B+1;omega
 ·omega
theorem znH {u:List Int} {n:Nd} {B:Int} (h:∀ k:Nat,0≤u.getD k 0∧u.getD k 0≤B) (k:Nat):0≤(zbm u n).getD k 0∧(zbm u n).getD k 0≤B+2:=by
 unfold zbm;cases decide (1 < opsN n) with
 |true=>
  have:=zhQ (zhQ h (ndL n)) (ndR n) k;rw[cond_true];omega
 |false=>
  cases decide (0 < opsN n) with
  |true=>
   have:=zhQ h (ndL n) k;rw[cond_false,cond_true];omega
  |false=>
   have:=h k;rw[cond_false,cond_false];omega
theorem ziL (r:List Nd):∀ (i:Nat),i≤r.length->∀ k:Nat,0≤(za6 r i).getD k 0∧(za6 r i).getD k 0≤2 * (i:Int)
 |0,_,k=>by rw[zkU];omega
 |i+1,hi,k=>by
  rw[zcG (by omega)];have:=znH (n:=zam r i) (ziL r i (by omega)) k;omega
def zcQ (u:List Int) (n:Nd):Nat->List Int
 |0=>u
 |1=>if 0 < opsN n then bump u (ndL n) else u
 |_=>zbm u n
def opdJ (n:Nd) (i:Int):Nat->Bool
 |0=>true
 |1=>(bif decide (0 < opsN n) then inB (ndL n) 0 (i - 1) else (ndL n==0)||(ndK n==7))
 |_=>zdU n i
theorem znI {u:List Int} {n:Nd} {B:Int} (h:∀ k:Nat,0≤u.getD k 0∧u.getD k 0≤B) (k:Nat):0≤(zcQ u n 1).getD k 0∧(zcQ u n 1).getD k 0≤B+1:=by
 show 0≤(if 0 < opsN n then bump u (ndL n) else u).getD k 0∧(if 0 < opsN n then bump u (ndL n) else u).getD k 0≤B+1;by_cases e:0 < opsN n
 ·rw[if_pos e];exact zhQ h _ k
 ·rw[if_neg e];have:=h k;omega
theorem zmM (u:List Int) (n:Nd):(zcQ u n 1).length=u.length:=by
 show (if 0 < opsN n then bump u (ndL n) else u).length=u.length;by_cases e:0 < opsN n
 ·rw[if_pos e];exact zdN _ _
 ·rw[if_neg e]
def cWf:Ctr:={ args:=[.slice nd],pre:=fun _=>[],res:=.bool,own:=none,out:=fun x=>wfS x.1 }
def kWf:Kn:={ gmK with C:=[(119,zbr),(74,zlD),(120,cName),(121,zpP),(122,zrG),(123,cAnyU)] }
theorem zaK:KnOk Tryz.prog gmH kWf:=zai.with (.cons zjC <| .cons zjO <| .cons zoL <| .cons zoU <| .cons zsN <| .cons ztX .nil)
theorem ziJ {r:List Nd} {i:Nat} (hi:i < r.length) (h:zbn (zam r i) (i:Int)=false):wfS r=false:=by
 have:zb0 r r.length=false:=by
  rw[Bool.eq_false_iff];intro e;have:=zdt.1 e i hi;rw[<-zeI,h]at this;cases this
 unfold wfS;rw[this,Bool.and_false,Bool.false_and]
theorem zjE {r:List Nd} {i:Nat} (hi:i < r.length) (h:zbq (zam r i)=false):wfS r=false:=ziJ hi (by unfold zbn;rw[h];rfl)
theorem zjD {r:List Nd} {i:Nat} (hi:i < r.length) (h:zdU (zam r i) (i:Int)=false):wfS r=false:=ziJ hi (by unfold zbn;rw[h,Bool.and_false])
theorem zn1 {k:Int} (h:1≤k∧k≤18):(zbH k).1=0∨(zbH k).1=1∨(zbH k).1=2:=by
 rcases (show k=1∨k=2∨k=3∨k=4∨k=5∨k=6∨k=7∨k=8∨k=9∨k=10∨k=11∨k=12∨k=13∨k=14∨k=15∨k=16∨k=17∨k=18 by omega) with rfl|rfl|rfl|rfl|rfl|rfl|rfl|rfl|rfl|rfl|rfl|rfl|rfl|rfl|rfl|rfl|rfl|rfl<;>decide
theorem zlK {u:List Int} {n:Nd} (h:opsN n=0∨opsN n=1∨opsN n=2):(if 1 < opsN n then bump (zcQ u n 1) (ndR n) else zcQ u n 1)=zcQ u n 2:=by
 show _=zbm u n;unfold zbm zcQ;rcases h with h|h|h<;>rw[h]<;>rfl
theorem bufI {te:TypeId} {x y:List Int} (h:x=y):some (OObj.buf te i64 x)=some (OObj.buf te i64 y):=by rw[h]
set_option maxHeartbeats 1000000 in
theorem wf_ok:CtrOk Tryz.prog gmH 72 cWf:=by
 refine zan (K:=kWf) zaK Tryz.func72 rfl rfl Tryz.call72 rfl (by decide) (by intro h;cases h) ?_;rintro w0 X hX ⟨(r:List Nd),_⟩ hp;change AWP _ _ _ _ _ ⟨[(0,⟨.slice nd,r⟩)],[],0⟩ _;refine AWP.len 0 rfl fun hl=>?_;unfold maxLen at hl;(repeat(first|apply zae|apply zac|apply zab|apply zad));refine zaa hX zaK rfl ?_ ?_
 ·trivial
 (repeat(first|apply zae|apply zac|apply zab|apply zad));refine zaa hX zaK rfl ?_ ?_
 ·repeat'(first|exact trivial|assumption|(refine⟨?_,?_⟩)|(intro _)|exact Nat.le_of_ble_eq_true rfl|exact Int.natCast_nonneg _|(simp_all [allP];done))
 refine zaf rfl (fun hb=>?_) (fun hb=>?_)
 ·have hb:(bif decide (((r.length:Nat):Int) < 1) then true else decide (((r.length:Nat):Int) > 64))=true:=hb;rw[b_or,Bool.or_eq_true,decide_eq_true_iff,decide_eq_true_iff]at hb;(repeat(first|apply zae|apply zac|apply zak|apply zad|apply zab|refine zaa hX zaK rfl trivial ?_|refine zaa hX zaK rfl id ?_|refine zaa hX zaK rfl ⟨id,id⟩ ?_));refine AWP.ret ⟨.inr rfl,zat rfl trivial rfl rfl ?_⟩;show false=wfS r;unfold wfS;rcases hb with hb|hb
  ·rw[decide_eq_false (by omega:¬ 1≤r.length)];rfl
  ·rw[decide_eq_false (by omega:¬ r.length≤64),Bool.and_false,Bool.false_and,Bool.false_and]
 have hb:(bif decide (((r.length:Nat):Int) < 1) then true else decide (((r.length:Nat):Int) > 64))=false:=hb;rw[b_or,Bool.or_eq_false_iff,decide_eq_false_iff_not,decide_eq_false_iff_not]at hb;obtain⟨hb1,hb2⟩:=hb;apply zac;(repeat(first|apply zae|apply zac|apply zab|apply zad));refine zaa hX zaK rfl ?_ ?_
 ·trivial
 have m0:(0:Int)≤((r.length:Nat):Int):=by omega
 have m1:((r.length:Nat):Int)≤1000000000:=by omega
 (repeat(first|apply zae|apply zac|apply zab|apply zad));refine zaa hX zaK rfl ?_ ?_
 ·exact⟨m0,Int.le_refl _,m1⟩
 (repeat(first|apply zae|apply zac|apply zab|apply zad));refine zaa hX zaK rfl ?_ ?_
 ·trivial
 (repeat(first|apply zae|apply zac|apply zab|apply zad));refine AWP.loop (ι:=Nat) (fun i=>⟨[(0,⟨.slice nd,r⟩),(3,⟨.optr (.arr 19 shp),⟨0,.arr 19 shp,.here⟩⟩),(4,⟨.obuf i64,(1:Nat)⟩),(24,⟨.slice nd,r⟩),(25,⟨i64,((r.length:Nat):Int)⟩),(26,⟨i64,(i:Int)⟩)],[(0,some (.box (.arr 19 shp) zcU)),(1,some (.buf 3 i64 (za6 r i)))],2⟩) (fun i=>i≤r.length∧zb0 r i=true) (fun i=>r.length - i) 0 ⟨Nat.zero_le _,rfl⟩ ⟨⟨rfl,rfl,rfl,rfl,rfl,rfl,trivial⟩,⟨rfl,bufI (by show List.replicate (((r.length:Nat):Int)).toNat (0:Int)=_;rw[Int.toNat_natCast];rfl),trivial⟩,rfl,rfl⟩ ?_;rintro i ⟨hi,hn⟩;(repeat(first|apply zae|apply zac|apply zab|apply zad));refine zaa hX zaK rfl ?_ ?_
 ·trivial
 apply zae;refine zaf rfl (fun hb=>?_) (fun hb=>?_)
 ·have hb:decide ((i:Int) < (r.length:Nat))=true:=hb;have hb:=of_decide_eq_true hb;have hlt:i < r.length:=by omega
  have n0:(0:Int)≤(i:Int):=by omega
  have hbd:=ziL r i hi;have hul:=zcp r i;have hus:=zcG hlt;have hno:zb0 r (i+1)=(zb0 r i&&zbn (zam r i) (i:Int)):=rfl;have hff:=zjE hlt;have hfo:=zjD hlt;rw[hn,Bool.true_and]at hno;(repeat(first|apply zae|apply zac|apply zab|apply zad));refine zaa hX zaK rfl ?_ ?_
  ·exact⟨n0,hb⟩
  refine zaq (σ':=⟨[(0,⟨.slice nd,r⟩),(3,⟨.optr (.arr 19 shp),⟨0,.arr 19 shp,.here⟩⟩),(4,⟨.obuf i64,(1:Nat)⟩),(24,⟨.slice nd,r⟩),(25,⟨i64,((r.length:Nat):Int)⟩),(26,⟨i64,(i:Int)⟩),(5,⟨i64,(i:Int)⟩),(6,⟨.optr nd,⟨2,nd,.here⟩⟩)],[(0,some (.box (.arr 19 shp) zcU)),(1,some (.buf 3 i64 (za6 r i))),(2,some (.box nd (zam r i)))],3⟩) ⟨⟨rfl,rfl,rfl,rfl,rfl,rfl,rfl,rfl,trivial⟩,⟨rfl,rfl,rfl,trivial⟩,rfl,rfl⟩ ?_;generalize hnd:zam r i=n at *;generalize za6 r i=u at *;(repeat(first|apply zae|apply zac|apply zab|apply zad));refine zaa hX zaK rfl ?_ ?_
  ·repeat'(first|exact trivial|assumption|(refine⟨?_,?_⟩)|(intro _)|exact Nat.le_of_ble_eq_true rfl|exact Int.natCast_nonneg _|(simp_all [allP];done))
  have hk18:(bif !inB (ndK n) 1 18 then true else decide (((ndI n).length:Int) > 64))= !(inB (ndK n) 1 18&&decide ((ndI n).length≤64)):=by
   have:decide (((ndI n).length:Int) > 64)= !decide ((ndI n).length≤64):=by
    rw[<-decide_not,decide_eq_decide];omega
   rw[this];cases inB (ndK n) 1 18<;>cases decide ((ndI n).length≤64)<;>rfl
  refine zaf rfl (fun hc=>?_) (fun hc=>?_)
  ·have hc:=hk18.symm.trans hc;rw[Bool.not_eq_true']at hc;(repeat(first|apply zae|apply zac|apply zak|apply zad|apply zab|refine zaa hX zaK rfl trivial ?_|refine zaa hX zaK rfl id ?_|refine zaa hX zaK rfl ⟨id,id⟩ ?_));refine AWP.ret ⟨.inr rfl,zat rfl trivial rfl rfl ?_⟩;show false=wfS r;rw[hff (by unfold zbq;rw[hc];rfl)]
  have hc:=hk18.symm.trans hc;rw[Bool.not_eq_false',Bool.and_eq_true,zaG,decide_eq_true_iff]at hc;obtain⟨⟨k1,k2⟩,hl64⟩:=hc;apply zac;have t0:(0:Int)≤ndK n:=by omega
  have t1:ndK n < ((19:Nat):Int):=by omega
  have t2:(ndK n).toNat < 19:=by omega
  (repeat(first|apply zae|apply zac|apply zab|apply zad));refine zaa hX zaK rfl ?_ ?_
  ·exact⟨t0,t1,t2⟩
  refine zaq (σ':=⟨[(0,⟨.slice nd,r⟩),(3,⟨.optr (.arr 19 shp),⟨0,.arr 19 shp,.here⟩⟩),(4,⟨.obuf i64,(1:Nat)⟩),(24,⟨.slice nd,r⟩),(25,⟨i64,((r.length:Nat):Int)⟩),(26,⟨i64,(i:Int)⟩),(5,⟨i64,(i:Int)⟩),(6,⟨.optr nd,⟨2,nd,.here⟩⟩),(7,⟨.optr shp,⟨3,shp,.here⟩⟩)],[(0,some (.box (.arr 19 shp) zcU)),(1,some (.buf 3 i64 (u))),(2,some (.box nd n)),(3,some (.box shp (zbH (ndK n))))],4⟩) ⟨⟨rfl,rfl,rfl,rfl,rfl,rfl,rfl,rfl,rfl,trivial⟩,⟨rfl,rfl,rfl,rfl,trivial⟩,rfl,rfl⟩ ?_;have hops:=zn1 ⟨k1,k2⟩;(repeat(first|apply zae|apply zac|apply zab|apply zad));refine zaa hX zaK rfl ?_ ?_
  ·trivial
  (repeat(first|apply zae|apply zac|apply zab|apply zad));refine AWP.frz hX 49 ?_;refine AWP.loop (ι:=Nat) (fun j=>⟨[(0,⟨.slice nd,r⟩),(3,⟨.optr (.arr 19 shp),⟨0,.arr 19 shp,.here⟩⟩),(4,⟨.obuf i64,(1:Nat)⟩),(24,⟨.slice nd,r⟩),(25,⟨i64,((r.length:Nat):Int)⟩),(26,⟨i64,(i:Int)⟩),(5,⟨i64,(i:Int)⟩),(6,⟨.optr nd,⟨2,nd,.here⟩⟩),(7,⟨.optr shp,⟨3,shp,.here⟩⟩),(49,⟨.slice i64,[ndL n,ndR n]⟩),(50,⟨i64,(2:Int)⟩),(51,⟨i64,(j:Int)⟩)],[(0,some (.box (.arr 19 shp) zcU)),(1,some (.buf 3 i64 (zcQ u n j))),(2,some (.box nd n)),(3,some (.box shp (zbH (ndK n))))],4⟩) (fun j=>j≤2∧opdJ n i j=true) (fun j=>2 - j) 0 ⟨by decide,rfl⟩ ⟨⟨rfl,rfl,rfl,rfl,rfl,rfl,rfl,rfl,rfl,rfl,rfl,rfl,trivial⟩,⟨rfl,rfl,rfl,rfl,trivial⟩,rfl,rfl⟩ ?_
  ·rintro j ⟨hj,hjo⟩;(repeat(first|apply zae|apply zac|apply zab|apply zad));refine zaa hX zaK rfl ?_ ?_
   ·trivial
   apply zae;refine zaf rfl (fun hb=>?_) (fun hb=>?_)
   ·have hb:decide ((j:Int) < 2)=true:=hb;have hb:=of_decide_eq_true hb;rcases (show j=0∨j=1 by omega) with rfl|rfl
    ·have u0:(0:Int)≤((0:Nat):Int):=by omega
     have u1:((0:Nat):Int) < (([ndL n,ndR n].length:Nat):Int):=by show ((0:Nat):Int) < ((2:Nat):Int);omega
     (repeat(first|apply zae|apply zac|apply zab|apply zad));refine zaa hX zaK rfl ?_ ?_
     ·exact⟨u0,u1⟩
     apply zab;(repeat(first|apply zae|apply zac|apply zab|apply zad));refine zaa hX zaK rfl ?_ ?_
     ·trivial
     refine zaf rfl (fun hd=>?_) (fun hd=>?_)
     ·have hd:decide (((0:Nat):Int) < opsN n)=true:=hd;have hd:=of_decide_eq_true hd;have i1:inR .i64 ((i:Int) - 1):=zar (by omega) (by omega);(repeat(first|apply zae|apply zac|apply zab|apply zad));refine zaa hX zaK rfl ?_ ?_
      ·exact i1
      refine zaf rfl (fun he=>?_) (fun he=>?_)
      ·have he:(!inB (ndL n) 0 ((i:Int) - 1))=true:=he;rw[Bool.not_eq_true']at he;(repeat(first|apply zae|apply zac|apply zak|apply zad|apply zab|refine zaa hX zaK rfl trivial ?_|refine zaa hX zaK rfl id ?_|refine zaa hX zaK rfl ⟨id,id⟩ ?_));refine AWP.ret ⟨.inr rfl,zat rfl trivial rfl rfl ?_⟩;show false=wfS r;rw[hfo (by unfold zdU;rw[decide_eq_true (show 0 < opsN n from hd),cond_true,he];rfl)]
      have he:(!inB (ndL n) 0 ((i:Int) - 1))=false:=he;rw[Bool.not_eq_false',zaG]at he;obtain⟨p0,p1⟩:=he;have hbj:∀ k:Nat,0≤(zcQ u n 0).getD k 0∧(zcQ u n 0).getD k 0≤200:=fun k=>by
       have:=hbd k;show 0≤u.getD k 0∧u.getD k 0≤200;omega
      have hlj:(zcQ u n 0).length=r.length:=by exact hul
      have hb3:=hbj (ndL n).toNat;have p2:ndL n < (((zcQ u n 0).length:Nat):Int):=by rw[hlj];omega
      have p4:(ndL n).toNat < (zcQ u n 0).length:=by rw[hlj];omega
      have p3:inR .i64 ((zcQ u n 0).getD (ndL n).toNat 0+1):=zar (by omega) (by omega);apply zac;(repeat(first|apply zae|apply zac|apply zab|apply zad));refine zaa hX zaK rfl ?_ ?_
      ·repeat'(first|exact trivial|exact p0|exact p2|exact p3|exact p4|(refine⟨?_,?_⟩))
      (repeat(first|apply zae|apply zac|apply zab|apply zad));refine zaa hX zaK rfl ?_ ?_
      ·exact zaF (by omega)
      refine⟨1,⟨by omega,?_⟩,by decide,⟨rfl,rfl,rfl,rfl,rfl,rfl,rfl,rfl,rfl,rfl,rfl,rfl,trivial⟩,⟨rfl,bufI ?_,rfl,rfl,trivial⟩,rfl,rfl⟩
      ·show (bif decide (0 < opsN n) then inB (ndL n) 0 ((i:Int) - 1) else _)=true;rw[decide_eq_true (show 0 < opsN n from hd),cond_true,zaG];exact⟨p0,p1⟩
      ·show bump (zcQ u n 0) (ndL n)=zcQ u n 1;show _=if 0 < opsN n then bump u (ndL n) else u
       rw[if_pos (show 0 < opsN n from hd)];rfl
     ·have hd:decide (((0:Nat):Int) < opsN n)=false:=hd;have hd:=of_decide_eq_false hd;(repeat(first|apply zae|apply zac|apply zab|apply zad));refine zaa hX zaK rfl ?_ ?_
      ·repeat'(first|exact trivial|assumption|(refine⟨?_,?_⟩)|(intro _)|exact Nat.le_of_ble_eq_true rfl|exact Int.natCast_nonneg _|(simp_all [allP];done))
      refine zaf rfl (fun he=>?_) (fun he=>?_)
      ·have he:(bif (ndL n != 0) then !(bif (((0:Nat):Int)==0) then (ndK n==7) else false) else false)=true:=he;(repeat(first|apply zae|apply zac|apply zak|apply zad|apply zab|refine zaa hX zaK rfl trivial ?_|refine zaa hX zaK rfl id ?_|refine zaa hX zaK rfl ⟨id,id⟩ ?_));refine AWP.ret ⟨.inr rfl,zat rfl trivial rfl rfl ?_⟩;show false=wfS r;refine (hfo ?_).symm;unfold zdU;rw[decide_eq_false (show ¬ 0 < opsN n from hd),cond_false];revert he;unfold bne;cases (ndL n==0)<;>cases (ndK n==7)<;>intro he<;>first|rfl|cases he
      have he:(bif (ndL n != 0) then !(bif (((0:Nat):Int)==0) then (ndK n==7) else false) else false)=false:=he;apply zac;(repeat(first|apply zae|apply zac|apply zab|apply zad));refine zaa hX zaK rfl ?_ ?_
      ·exact zaF (by omega)
      refine⟨1,⟨by omega,?_⟩,by decide,⟨rfl,rfl,rfl,rfl,rfl,rfl,rfl,rfl,rfl,rfl,rfl,rfl,trivial⟩,⟨rfl,bufI ?_,rfl,rfl,trivial⟩,rfl,rfl⟩
      ·show (bif decide (0 < opsN n) then _ else (ndL n==0)||(ndK n==7))=true;rw[decide_eq_false (show ¬ 0 < opsN n from hd),cond_false];revert he;unfold bne;cases (ndL n==0)<;>cases (ndK n==7)<;>intro he<;>first|rfl|cases he
      ·show zcQ u n 0=zcQ u n 1;show u=if 0 < opsN n then bump u (ndL n) else u
       rw[if_neg (show ¬ 0 < opsN n from hd)]
    ·have u0:(0:Int)≤((1:Nat):Int):=by omega
     have u1:((1:Nat):Int) < (([ndL n,ndR n].length:Nat):Int):=by show ((1:Nat):Int) < ((2:Nat):Int);omega
     (repeat(first|apply zae|apply zac|apply zab|apply zad));refine zaa hX zaK rfl ?_ ?_
     ·exact⟨u0,u1⟩
     apply zab;(repeat(first|apply zae|apply zac|apply zab|apply zad));refine zaa hX zaK rfl ?_ ?_
     ·trivial
     refine zaf rfl (fun hd=>?_) (fun hd=>?_)
     ·have hd:decide (((1:Nat):Int) < opsN n)=true:=hd;have hd:=of_decide_eq_true hd;have i1:inR .i64 ((i:Int) - 1):=zar (by omega) (by omega);(repeat(first|apply zae|apply zac|apply zab|apply zad));refine zaa hX zaK rfl ?_ ?_
      ·exact i1
      refine zaf rfl (fun he=>?_) (fun he=>?_)
      ·have he:(!inB (ndR n) 0 ((i:Int) - 1))=true:=he;rw[Bool.not_eq_true']at he;(repeat(first|apply zae|apply zac|apply zak|apply zad|apply zab|refine zaa hX zaK rfl trivial ?_|refine zaa hX zaK rfl id ?_|refine zaa hX zaK rfl ⟨id,id⟩ ?_));refine AWP.ret ⟨.inr rfl,zat rfl trivial rfl rfl ?_⟩;show false=wfS r;rw[hfo (by unfold zdU;rw[decide_eq_true (show 1 < opsN n from hd),cond_true,he];rw[Bool.and_false])]
      have he:(!inB (ndR n) 0 ((i:Int) - 1))=false:=he;rw[Bool.not_eq_false',zaG]at he;obtain⟨p0,p1⟩:=he;have hbj:∀ k:Nat,0≤(zcQ u n 1).getD k 0∧(zcQ u n 1).getD k 0≤200:=fun k=>by
       have:=znI (n:=n) hbd k;omega
      have hlj:(zcQ u n 1).length=r.length:=by rw[<-hul];exact zmM u n
      have hb3:=hbj (ndR n).toNat;have p2:ndR n < (((zcQ u n 1).length:Nat):Int):=by rw[hlj];omega
      have p4:(ndR n).toNat < (zcQ u n 1).length:=by rw[hlj];omega
      have p3:inR .i64 ((zcQ u n 1).getD (ndR n).toNat 0+1):=zar (by omega) (by omega);apply zac;(repeat(first|apply zae|apply zac|apply zab|apply zad));refine zaa hX zaK rfl ?_ ?_
      ·repeat'(first|exact trivial|exact p0|exact p2|exact p3|exact p4|(refine⟨?_,?_⟩))
      (repeat(first|apply zae|apply zac|apply zab|apply zad));refine zaa hX zaK rfl ?_ ?_
      ·exact zaF (by omega)
      refine⟨2,⟨by omega,?_⟩,by decide,⟨rfl,rfl,rfl,rfl,rfl,rfl,rfl,rfl,rfl,rfl,rfl,rfl,trivial⟩,⟨rfl,bufI ?_,rfl,rfl,trivial⟩,rfl,rfl⟩
      ·show (_&&(bif decide (1 < opsN n) then inB (ndR n) 0 ((i:Int) - 1) else _))=true;rw[decide_eq_true (show 1 < opsN n from hd),cond_true,zaG.2 ⟨p0,p1⟩,Bool.and_true];exact hjo
      ·show bump (zcQ u n 1) (ndR n)=zcQ u n 2;rw[<-zlK hops,if_pos (show 1 < opsN n from hd)]
     ·have hd:decide (((1:Nat):Int) < opsN n)=false:=hd;have hd:=of_decide_eq_false hd;(repeat(first|apply zae|apply zac|apply zab|apply zad));refine zaa hX zaK rfl ?_ ?_
      ·repeat'(first|exact trivial|assumption|(refine⟨?_,?_⟩)|(intro _)|exact Nat.le_of_ble_eq_true rfl|exact Int.natCast_nonneg _|(simp_all [allP];done))
      refine zaf rfl (fun he=>?_) (fun he=>?_)
      ·have he:(bif (ndR n != 0) then !(bif (((1:Nat):Int)==0) then (ndK n==7) else false) else false)=true:=he;(repeat(first|apply zae|apply zac|apply zak|apply zad|apply zab|refine zaa hX zaK rfl trivial ?_|refine zaa hX zaK rfl id ?_|refine zaa hX zaK rfl ⟨id,id⟩ ?_));refine AWP.ret ⟨.inr rfl,zat rfl trivial rfl rfl ?_⟩;show false=wfS r;refine (hfo ?_).symm;unfold zdU;rw[decide_eq_false (show ¬ 1 < opsN n from hd),cond_false];revert he;unfold bne;cases (ndR n==0)<;>intro he<;>first|(rw[Bool.and_false])|cases he
      have he:(bif (ndR n != 0) then !(bif (((1:Nat):Int)==0) then (ndK n==7) else false) else false)=false:=he;apply zac;(repeat(first|apply zae|apply zac|apply zab|apply zad));refine zaa hX zaK rfl ?_ ?_
      ·exact zaF (by omega)
      refine⟨2,⟨by omega,?_⟩,by decide,⟨rfl,rfl,rfl,rfl,rfl,rfl,rfl,rfl,rfl,rfl,rfl,rfl,trivial⟩,⟨rfl,bufI ?_,rfl,rfl,trivial⟩,rfl,rfl⟩
      ·show (_&&(bif decide (1 < opsN n) then _ else ndR n==0))=true;rw[decide_eq_false (show ¬ 1 < opsN n from hd),cond_false];have h2:(ndR n==0)=true:=by revert he;unfold bne;cases (ndR n==0)<;>intro he<;>first|rfl|cases he
       rw[h2,Bool.and_true];exact hjo
      ·show zcQ u n 1=zcQ u n 2;rw[<-zlK hops,if_neg (show ¬ 1 < opsN n from hd)]
   ·have hb:decide ((j:Int) < 2)=false:=hb;have hb:=of_decide_eq_false hb;obtain rfl:j=2:=by omega
    have hopd:zdU n (i:Int)=true:=hjo;apply zad;refine zaq (σ':=⟨[(0,⟨.slice nd,r⟩),(3,⟨.optr (.arr 19 shp),⟨0,.arr 19 shp,.here⟩⟩),(4,⟨.obuf i64,(1:Nat)⟩),(24,⟨.slice nd,r⟩),(25,⟨i64,((r.length:Nat):Int)⟩),(26,⟨i64,(i:Int)⟩),(5,⟨i64,(i:Int)⟩),(6,⟨.optr nd,⟨2,nd,.here⟩⟩),(7,⟨.optr shp,⟨3,shp,.here⟩⟩)],[(0,some (.box (.arr 19 shp) zcU)),(1,some (.buf 3 i64 (zbm u n))),(2,some (.box nd n)),(3,some (.box shp (zbH (ndK n))))],4⟩) ⟨⟨rfl,rfl,rfl,rfl,rfl,rfl,rfl,rfl,rfl,trivial⟩,⟨rfl,rfl,rfl,rfl,trivial⟩,rfl,rfl⟩ ?_;clear hbd hul;have hub:u.length=u.length:=rfl;generalize zbm u n=u' at hus;(repeat(first|apply zae|apply zac|apply zab|apply zad));refine AWP.orders (σ':=⟨[(0,⟨.slice nd,r⟩),(3,⟨.optr (.arr 19 shp),⟨0,.arr 19 shp,.here⟩⟩),(4,⟨.obuf i64,(1:Nat)⟩),(24,⟨.slice nd,r⟩),(25,⟨i64,((r.length:Nat):Int)⟩),(26,⟨i64,(i:Int)⟩),(5,⟨i64,(i:Int)⟩),(6,⟨.optr nd,⟨2,nd,.here⟩⟩),(7,⟨.optr shp,⟨3,shp,.here⟩⟩),(10,⟨.bool,ndC n==0⟩),(11,⟨.bool,decide (ndS n=[])⟩)],[(0,some (.box (.arr 19 shp) zcU)),(1,some (.buf 3 i64 (u'))),(2,some (.box nd n)),(3,some (.box shp (zbH (ndK n))))],4⟩) dM hX zaK 8 rfl (by kernel_rfl) [[0,1,2,3,4,5,6,7],[0,1,2,3,4,6,5,7],[0,1,2,3,6,4,5,7],[0,1,2,6,3,4,5,7],[0,1,3,2,4,5,6,7],[0,1,3,2,4,6,5,7],[0,1,3,2,6,4,5,7],[0,1,3,4,2,5,6,7],[0,1,3,4,2,6,5,7],[0,1,3,4,5,2,6,7],[0,3,1,2,4,5,6,7],[0,3,1,2,4,6,5,7],[0,3,1,2,6,4,5,7],[0,3,1,4,2,5,6,7],[0,3,1,4,2,6,5,7],[0,3,1,4,5,2,6,7],[0,3,4,1,2,5,6,7],[0,3,4,1,2,6,5,7],[0,3,4,1,5,2,6,7],[0,3,4,5,1,2,6,7],[3,0,1,2,4,5,6,7],[3,0,1,2,4,6,5,7],[3,0,1,2,6,4,5,7],[3,0,1,4,2,5,6,7],[3,0,1,4,2,6,5,7],[3,0,1,4,5,2,6,7],[3,0,4,1,2,5,6,7],[3,0,4,1,2,6,5,7],[3,0,4,1,5,2,6,7],[3,0,4,5,1,2,6,7],[3,4,0,1,2,5,6,7],[3,4,0,1,2,6,5,7],[3,4,0,1,5,2,6,7],[3,4,0,5,1,2,6,7],[3,4,5,0,1,2,6,7]] (by kernel_rfl) ?_ ?_
    ·repeat'(first|exact AllL.nil|refine AllL.cons (LinOk.mk rfl ?_ ⟨⟨rfl,rfl,rfl,rfl,rfl,rfl,rfl,rfl,rfl,rfl,zc6 zdp,trivial⟩,⟨rfl,rfl,rfl,rfl,trivial⟩,rfl,rfl⟩) ?_)
     all_goals trivial
    (repeat(first|apply zae|apply zac|apply zab|apply zad));refine zaa hX zaK rfl ?_ ?_
    ·trivial
    refine AWP.viaQ (σ':=⟨[(0,⟨.slice nd,r⟩),(3,⟨.optr (.arr 19 shp),⟨0,.arr 19 shp,.here⟩⟩),(4,⟨.obuf i64,(1:Nat)⟩),(24,⟨.slice nd,r⟩),(25,⟨i64,((r.length:Nat):Int)⟩),(26,⟨i64,(i:Int)⟩),(5,⟨i64,(i:Int)⟩),(6,⟨.optr nd,⟨2,nd,.here⟩⟩),(7,⟨.optr shp,⟨3,shp,.here⟩⟩),(10,⟨.bool,zdE n⟩),(11,⟨.bool,decide (ndS n=[])⟩)],[(0,some (.box (.arr 19 shp) zcU)),(1,some (.buf 3 i64 (u'))),(2,some (.box nd n)),(3,some (.box shp (zbH (ndK n))))],4⟩) ?_ ?_
    ·refine zaf rfl (fun hd=>?_) (fun hd=>?_)
     ·have hd:(zbH (ndK n)).2.1=true:=hd;(repeat(first|apply zae|apply zac|apply zab|apply zad));refine zaa hX zaK rfl ?_ ?_
      ·trivial
      refine⟨⟨rfl,rfl,rfl,rfl,rfl,rfl,rfl,rfl,rfl,zc6 ?_,rfl,trivial⟩,⟨rfl,rfl,rfl,rfl,trivial⟩,rfl,rfl⟩;unfold zdE;rw[hd];rfl
     ·have hd:(zbH (ndK n)).2.1=false:=hd;apply zac;refine⟨⟨rfl,rfl,rfl,rfl,rfl,rfl,rfl,rfl,rfl,zc6 ?_,rfl,trivial⟩,⟨rfl,rfl,rfl,rfl,trivial⟩,rfl,rfl⟩;unfold zdE;rw[hd];rfl
    (repeat(first|apply zae|apply zac|apply zab|apply zad));refine zaa hX zaK rfl ?_ ?_
    ·trivial
    refine AWP.viaQ (σ':=⟨[(0,⟨.slice nd,r⟩),(3,⟨.optr (.arr 19 shp),⟨0,.arr 19 shp,.here⟩⟩),(4,⟨.obuf i64,(1:Nat)⟩),(24,⟨.slice nd,r⟩),(25,⟨i64,((r.length:Nat):Int)⟩),(26,⟨i64,(i:Int)⟩),(5,⟨i64,(i:Int)⟩),(6,⟨.optr nd,⟨2,nd,.here⟩⟩),(7,⟨.optr shp,⟨3,shp,.here⟩⟩),(10,⟨.bool,zdE n⟩),(11,⟨.bool,zgb n⟩)],[(0,some (.box (.arr 19 shp) zcU)),(1,some (.buf 3 i64 (u'))),(2,some (.box nd n)),(3,some (.box shp (zbH (ndK n))))],4⟩) ?_ ?_
    ·refine zaf rfl (fun hd=>?_) (fun hd=>?_)
     ·have hd:(ndK n==18)=true:=hd;(repeat(first|apply zae|apply zac|apply zab|apply zad));refine zaa hX zaK rfl ?_ ?_
      ·trivial
      refine⟨⟨rfl,rfl,rfl,rfl,rfl,rfl,rfl,rfl,rfl,rfl,zc6 ?_,trivial⟩,⟨rfl,rfl,rfl,rfl,trivial⟩,rfl,rfl⟩;unfold zgb;rw[hd];rfl
     ·have hd:(ndK n==18)=false:=hd;apply zac;refine⟨⟨rfl,rfl,rfl,rfl,rfl,rfl,rfl,rfl,rfl,rfl,zc6 ?_,trivial⟩,⟨rfl,rfl,rfl,rfl,trivial⟩,rfl,rfl⟩;unfold zgb;rw[hd];rfl
    have hfd:zbq n=(zdE n&&(zgb n&&(zaI (ndI n) (zbH (ndK n)).2.2.1&&zbB n))):=by
     unfold zbq;rw[zaG.2 ⟨k1,k2⟩,decide_eq_true hl64];rfl
    (repeat(first|apply zae|apply zac|apply zab|apply zad));refine zaa hX zaK rfl ?_ ?_
    ·repeat'(first|exact trivial|assumption|(refine⟨?_,?_⟩)|(intro _)|exact Nat.le_of_ble_eq_true rfl|exact Int.natCast_nonneg _|(simp_all [allP];done))
    have ht:(bif (bif (bif !zdE n then true else !zgb n) then true else !zaI (ndI n) (zbH (ndK n)).2.2.1) then true else !zbB n)= !zbq n:=by
     rw[hfd];cases zdE n<;>cases zgb n<;>cases zaI (ndI n) (zbH (ndK n)).2.2.1<;>cases zbB n<;>rfl
    refine zaf rfl (fun hd=>?_) (fun hd=>?_)
    ·have hd:=ht.symm.trans hd;rw[Bool.not_eq_true']at hd;(repeat(first|apply zae|apply zac|apply zak|apply zad|apply zab|refine zaa hX zaK rfl trivial ?_|refine zaa hX zaK rfl id ?_|refine zaa hX zaK rfl ⟨id,id⟩ ?_));refine AWP.ret ⟨.inr rfl,zat rfl trivial rfl rfl ?_⟩;show false=wfS r;rw[hff hd]
    ·have hd:=ht.symm.trans hd;rw[Bool.not_eq_false']at hd;apply zac;(repeat(first|apply zae|apply zac|apply zab|apply zad));refine zaa hX zaK rfl ?_ ?_
     ·exact zaF (by omega)
     refine⟨i+1,⟨hlt,?_⟩,by omega,⟨rfl,rfl,rfl,rfl,rfl,zcg _,trivial⟩,⟨rfl,bufI hus.symm,trivial⟩,rfl,rfl⟩;rw[hno];unfold zbn;rw[hd,hopd];rfl
 ·have hb:decide ((i:Int) < (r.length:Nat))=false:=hb;have hb:=of_decide_eq_false hb;obtain rfl:i=r.length:=by omega
  have hul:=zcp r r.length;apply zad;refine AWP.frz hX 4 ?_;have i1:inR .i64 (((r.length:Nat):Int) - 1):=zar (by omega) (by omega);have i2:(0:Int)≤((r.length:Nat):Int) - 1:=by omega
  have i3:((r.length:Nat):Int) - 1≤(((za6 r r.length).length:Nat):Int):=by omega
  (repeat(first|apply zae|apply zac|apply zab|apply zad));refine zaa hX zaK rfl ?_ ?_
  ·first|exact⟨i1,i2,i3,rfl⟩|(repeat'(first|exact trivial|exact i1|exact i2|exact i3|rfl|(refine⟨?_,?_⟩)))
  refine AWP.ret ⟨.inr rfl,zat rfl trivial rfl rfl ?_⟩;show (!((za6 r r.length).take (((r.length:Nat):Int) - 1).toNat).any not1)=wfS r;unfold wfS;rw[decide_eq_true (by omega),decide_eq_true (by omega),hn,show (((r.length:Nat):Int) - 1).toNat=r.length - 1 by omega];rfl
def zsc:Ctr:={ args:=[.slice nd],pre:=fun x=>[List.length x.1≤64],res:=.bool,own:=none,out:=fun x=>wfS x.1 }
def k6f:Kn:={ gmK with C:=[(152,zr9),(153,zpS fun k=>(zbH k).1)] }
theorem zba:KnOk Tryz.prog gmH k6f:=zai.with (.cons zqL <| .cons zl1 .nil)
set_option maxHeartbeats 1000000 in
theorem zrh:CtrOk Tryz.prog gmH 104 zsc:=by
 refine zan (K:=k6f) zba Tryz.func104 rfl rfl Tryz.call104 rfl (by decide) (by intro h;cases h) ?_;rintro w0 X hX ⟨(r:List Nd),_⟩ hp;have hl:r.length≤64:=hp;change AWP _ _ _ _ _ ⟨[(0,⟨.slice nd,r⟩)],[],0⟩ _;(repeat(first|apply zae|apply zac|apply zab|apply zad));refine zaa hX zba rfl ?_ ?_
 ·trivial
 (repeat(first|apply zae|apply zac|apply zab|apply zad));refine zaa hX zba rfl ?_ ?_
 ·repeat'(first|exact trivial|assumption|(refine⟨?_,?_⟩)|(intro _)|exact Nat.le_of_ble_eq_true rfl|exact Int.natCast_nonneg _|(simp_all [allP];done))
 refine zaf rfl (fun hb=>?_) (fun hb=>?_)
 ·have hb:(bif decide (((r.length:Nat):Int) < 1) then true else decide (((r.length:Nat):Int) > 64))=true:=hb;rw[b_or,Bool.or_eq_true,decide_eq_true_iff,decide_eq_true_iff]at hb;(repeat(first|apply zae|apply zac|apply zak|apply zad|apply zab|refine zaa hX zba rfl trivial ?_|refine zaa hX zba rfl id ?_|refine zaa hX zba rfl ⟨id,id⟩ ?_));refine AWP.ret ⟨.inr rfl,zat rfl trivial rfl rfl ?_⟩;show false=wfS r;unfold wfS;rw[decide_eq_false (by omega:¬ 1≤r.length)];rfl
 have hb:(bif decide (((r.length:Nat):Int) < 1) then true else decide (((r.length:Nat):Int) > 64))=false:=hb;rw[b_or,Bool.or_eq_false_iff,decide_eq_false_iff_not,decide_eq_false_iff_not]at hb;obtain⟨hb1,hb2⟩:=hb;apply zac;have m0:(0:Int)≤((r.length:Nat):Int):=by omega
 have m1:((r.length:Nat):Int)≤1000000000:=by omega
 (repeat(first|apply zae|apply zac|apply zab|apply zad));refine zaa hX zba rfl ?_ ?_
 ·exact⟨m0,Int.le_refl _,m1⟩
 (repeat(first|apply zae|apply zac|apply zab|apply zad));refine zaa hX zba rfl ?_ ?_
 ·trivial
 apply zab;refine AWP.loop (ι:=Nat) (fun i=>⟨[(0,⟨.slice nd,r⟩),(3,⟨.obuf i64,(0:Nat)⟩),(4,⟨i64,(i:Int)⟩)],[(0,some (.buf 3 i64 (za6 r i)))],1⟩) (fun i=>i≤r.length∧zb0 r i=true) (fun i=>r.length - i) 0 ⟨Nat.zero_le _,rfl⟩ ⟨⟨rfl,rfl,rfl,trivial⟩,⟨bufI ?_,trivial⟩,rfl,rfl⟩ ?_
 ·show List.replicate (((r.length:Nat):Int)).toNat 0=List.replicate r.length 0;rw[Int.toNat_natCast]
 rintro i ⟨hi,hn⟩;(repeat(first|apply zae|apply zac|apply zab|apply zad));refine zaa hX zba rfl ?_ ?_
 ·trivial
 refine zaf rfl (fun hb=>?_) (fun hb=>?_)
 ·have hb:decide ((i:Int) < (r.length:Nat))=true:=hb;have hb:=of_decide_eq_true hb;have hlt:i < r.length:=by omega
  have n0:(0:Int)≤(i:Int):=by omega
  have n2:((i:Int)).toNat < r.length:=by omega
  have n3:(i:Int)≤1000000:=by omega
  have hbd:=ziL r i hi;have hul:=zcp r i;have hus:=zcG hlt;have hno:zb0 r (i+1)=(zb0 r i&&zbn (zam r i) (i:Int)):=rfl;have hff:=ziJ hlt;rw[hn,Bool.true_and]at hno;(repeat(first|apply zae|apply zac|apply zab|apply zad));refine zaa hX zba rfl ?_ ?_
  ·repeat'(first|exact trivial|assumption|exact n0|exact hb|exact n2|exact n3|(refine⟨?_,?_⟩)|(intro _)|exact Nat.le_of_ble_eq_true rfl|exact Int.natCast_nonneg _|(simp_all [allP];done))
  refine zaf rfl (fun hc=>?_) (fun hc=>?_)
  ·have hc:(!zbn (zam r i) (i:Int))=true:=hc;(repeat(first|apply zae|apply zac|apply zak|apply zad|apply zab|refine zaa hX zba rfl trivial ?_|refine zaa hX zba rfl id ?_|refine zaa hX zba rfl ⟨id,id⟩ ?_));refine AWP.ret ⟨.inr rfl,zat rfl trivial rfl rfl ?_⟩;show false=wfS r;rw[hff (by simpa using hc)]
  have hc:(!zbn (zam r i) (i:Int))=false:=hc;have hc:zbn (zam r i) (i:Int)=true:=by simpa using hc
  rw[hc]at hno;obtain⟨hf,ho⟩:=(Bool.and_eq_true _ _).mp hc;obtain⟨⟨k1,k2⟩,_⟩:=zaC hf;apply zac;have k1':1≤(r.getD ((i:Int)).toNat (zaA nd)).1:=k1;have k2':(r.getD ((i:Int)).toNat (zaA nd)).1≤18:=k2;(repeat(first|apply zae|apply zac|apply zab|apply zad));refine zaa hX zba rfl ?_ ?_
  ·repeat'(first|exact trivial|assumption|exact n0|exact hb|exact n2|exact k1'|exact k2'|(refine⟨?_,?_⟩)|(intro _)|exact Nat.le_of_ble_eq_true rfl|exact Int.natCast_nonneg _|(simp_all [allP];done))
  have hops:=zn1 ⟨k1,k2⟩;have hop:opsN (zam r i)=(zbH (ndK (zam r i))).1:=rfl;rw[<-hop]at hops;have hup:za6 r (i+1)=zbm (za6 r i) (zam r i):=hus;refine zaq (σ':=⟨[(0,⟨.slice nd,r⟩),(3,⟨.obuf i64,(0:Nat)⟩),(4,⟨i64,(i:Int)⟩),(5,⟨i64,opsN (zam r i)⟩)],[(0,some (.buf 3 i64 (za6 r i)))],1⟩) ⟨⟨rfl,rfl,rfl,rfl,trivial⟩,⟨rfl,trivial⟩,rfl,rfl⟩ ?_;have fin:inR .i64 ((i:Int)+1):=zaF (by omega);have fin2:zb0 r (i+1)=true:=hno;unfold zdU at ho;rcases hops with e|e|e
  ·rw[e];(repeat(first|apply zae|apply zac|apply zab|apply zad));refine zaa hX zba rfl ?_ ?_
   ·trivial
   refine zaf rfl (fun hx=>absurd (show decide ((0:Int)≥1)=true from hx) (by decide)) (fun _=>?_);apply zac;(repeat(first|apply zae|apply zac|apply zab|apply zad));refine zaa hX zba rfl ?_ ?_
   ·trivial
   refine zaf rfl (fun hx=>absurd (show ((0:Int)==2)=true from hx) (by decide)) (fun _=>?_);apply zac;(repeat(first|apply zae|apply zac|apply zab|apply zad));refine zaa hX zba rfl ?_ ?_
   ·exact fin
   refine⟨i+1,⟨hlt,fin2⟩,by omega,⟨rfl,rfl,zcg _,trivial⟩,⟨bufI ?_,trivial⟩,rfl,rfl⟩;rw[hup];unfold zbm;rw[e];rfl
  ·rw[e]at ho ⊢;obtain⟨p1,p2⟩:=zaG.1 ((Bool.and_eq_true _ _).mp ho).1;have hb3:=hbd (ndL (zam r i)).toNat;have z1:0≤(r.getD ((i:Int)).toNat (zaA nd)).2.2.1:=p1;have z2:(r.getD ((i:Int)).toNat (zaA nd)).2.2.1 < (((za6 r i).length:Nat):Int):=by rw[hul];show ndL (zam r i) < _;omega
   have z3:((r.getD ((i:Int)).toNat (zaA nd)).2.2.1).toNat < (za6 r i).length:=by rw[hul];show (ndL (zam r i)).toNat < _;omega
   have z4:inR .i64 ((za6 r i).getD ((r.getD ((i:Int)).toNat (zaA nd)).2.2.1).toNat 0+1):=by show inR .i64 ((za6 r i).getD (ndL (zam r i)).toNat 0+1);exact zar (by omega) (by omega)
   (repeat(first|apply zae|apply zac|apply zab|apply zad));refine zaa hX zba rfl ?_ ?_
   ·trivial
   refine zaf rfl (fun _=>?_) (fun hx=>absurd (show decide ((1:Int)≥1)=false from hx) (by decide));(repeat(first|apply zae|apply zac|apply zab|apply zad));refine zaa hX zba rfl ?_ ?_
   ·repeat'(first|exact trivial|assumption|exact n0|exact hb|exact n2|exact z1|exact z2|exact z3|exact z4|(refine⟨?_,?_⟩)|(intro _)|exact Nat.le_of_ble_eq_true rfl|exact Int.natCast_nonneg _|(simp_all [allP];done))
   (repeat(first|apply zae|apply zac|apply zab|apply zad));refine zaa hX zba rfl ?_ ?_
   ·trivial
   refine zaf rfl (fun hx=>absurd (show ((1:Int)==2)=true from hx) (by decide)) (fun _=>?_);apply zac;(repeat(first|apply zae|apply zac|apply zab|apply zad));refine zaa hX zba rfl ?_ ?_
   ·exact fin
   refine⟨i+1,⟨hlt,fin2⟩,by omega,⟨rfl,rfl,zcg _,trivial⟩,⟨bufI ?_,trivial⟩,rfl,rfl⟩;rw[hup];unfold zbm;rw[e];rfl
  ·rw[e]at ho ⊢;obtain⟨p1,p2⟩:=zaG.1 ((Bool.and_eq_true _ _).mp ho).1;obtain⟨p3,p4⟩:=zaG.1 ((Bool.and_eq_true _ _).mp ho).2;have hb3:=hbd (ndL (zam r i)).toNat;have z1:0≤(r.getD ((i:Int)).toNat (zaA nd)).2.2.1:=p1;have z2:(r.getD ((i:Int)).toNat (zaA nd)).2.2.1 < (((za6 r i).length:Nat):Int):=by rw[hul];show ndL (zam r i) < _;omega
   have z3:((r.getD ((i:Int)).toNat (zaA nd)).2.2.1).toNat < (za6 r i).length:=by rw[hul];show (ndL (zam r i)).toNat < _;omega
   have z4:inR .i64 ((za6 r i).getD ((r.getD ((i:Int)).toNat (zaA nd)).2.2.1).toNat 0+1):=by show inR .i64 ((za6 r i).getD (ndL (zam r i)).toNat 0+1);exact zar (by omega) (by omega)
   (repeat(first|apply zae|apply zac|apply zab|apply zad));refine zaa hX zba rfl ?_ ?_
   ·trivial
   refine zaf rfl (fun _=>?_) (fun hx=>absurd (show decide ((2:Int)≥1)=false from hx) (by decide));(repeat(first|apply zae|apply zac|apply zab|apply zad));refine zaa hX zba rfl ?_ ?_
   ·repeat'(first|exact trivial|assumption|exact n0|exact hb|exact n2|exact z1|exact z2|exact z3|exact z4|(refine⟨?_,?_⟩)|(intro _)|exact Nat.le_of_ble_eq_true rfl|exact Int.natCast_nonneg _|(simp_all [allP];done))
   (repeat(first|apply zae|apply zac|apply zab|apply zad));refine zaa hX zba rfl ?_ ?_
   ·trivial
   refine zaf rfl (fun _=>?_) (fun hx=>absurd (show ((2:Int)==2)=false from hx) (by decide));have hb5:=zhQ hbd (ndL (zam r i)) (ndR (zam r i)).toNat;have hbl:=zdN (za6 r i) (ndL (zam r i));refine zaq (σ':=⟨[(0,⟨.slice nd,r⟩),(3,⟨.obuf i64,(0:Nat)⟩),(4,⟨i64,(i:Int)⟩)],[(0,some (.buf 3 i64 (bump (za6 r i) (ndL (zam r i)))))],1⟩) ⟨⟨rfl,rfl,rfl,trivial⟩,⟨rfl,trivial⟩,rfl,rfl⟩ ?_;rw[hul]at hbl;have y1:0≤(r.getD ((i:Int)).toNat (zaA nd)).2.2.2.1:=p3;have y2:(r.getD ((i:Int)).toNat (zaA nd)).2.2.2.1 < (((bump (za6 r i) (ndL (zam r i))).length:Nat):Int):=by rw[hbl];show ndR (zam r i) < _;omega
   have y3:((r.getD ((i:Int)).toNat (zaA nd)).2.2.2.1).toNat < (bump (za6 r i) (ndL (zam r i))).length:=by rw[hbl];show (ndR (zam r i)).toNat < _;omega
   have y4:inR .i64 ((bump (za6 r i) (ndL (zam r i))).getD ((r.getD ((i:Int)).toNat (zaA nd)).2.2.2.1).toNat 0+1):=by show inR .i64 ((bump (za6 r i) (ndL (zam r i))).getD (ndR (zam r i)).toNat 0+1);exact zar (by omega) (by omega)
   (repeat(first|apply zae|apply zac|apply zab|apply zad));refine zaa hX zba rfl ?_ ?_
   ·repeat'(first|exact trivial|assumption|exact n0|exact hb|exact n2|exact y1|exact y2|exact y3|exact y4|(refine⟨?_,?_⟩)|(intro _)|exact Nat.le_of_ble_eq_true rfl|exact Int.natCast_nonneg _|(simp_all [allP];done))
   (repeat(first|apply zae|apply zac|apply zab|apply zad));refine zaa hX zba rfl ?_ ?_
   ·exact fin
   refine⟨i+1,⟨hlt,fin2⟩,by omega,⟨rfl,rfl,zcg _,trivial⟩,⟨bufI ?_,trivial⟩,rfl,rfl⟩;rw[hup];unfold zbm;rw[e];rfl
 ·have hb:decide ((i:Int) < (r.length:Nat))=false:=hb;have hb:=of_decide_eq_false hb;obtain rfl:i=r.length:=by omega
  have hul:=zcp r r.length;have hW:wfS r= !((za6 r r.length).take (r.length - 1)).any not1:=by
   unfold wfS;rw[decide_eq_true (show 1≤r.length by omega),decide_eq_true hl,hn];rfl
  apply zad;(repeat(first|apply zae|apply zac|apply zab|apply zad));refine zaa hX zba rfl ?_ ?_
  ·trivial
  apply zab;generalize za6 r r.length=u at *;refine AWP.loop (ι:=Nat) (fun i=>⟨[(0,⟨.slice nd,r⟩),(3,⟨.obuf i64,(0:Nat)⟩),(6,⟨i64,(i:Int)⟩)],[(0,some (.buf 3 i64 u))],1⟩) (fun i=>i≤r.length - 1∧∀ j,j < i->not1 (u.getD j 0)=false) (fun i=>r.length - i) 0 ⟨Nat.zero_le _,fun j hj=>absurd hj (Nat.not_lt_zero _)⟩ ⟨⟨rfl,rfl,rfl,trivial⟩,⟨rfl,trivial⟩,rfl,rfl⟩ ?_;rintro i ⟨hi,hn⟩;have fin:inR .i64 ((i:Int)+1):=zaF (by omega);(repeat(first|apply zae|apply zac|apply zab|apply zad));refine zaa hX zba rfl ?_ ?_
  ·exact fin
  refine zaf rfl (fun hb=>?_) (fun hb=>?_)
  ·have hb:decide ((i:Int)+1 < ((r.length:Nat):Int))=true:=hb;have hb:=of_decide_eq_true hb;have n0:(0:Int)≤(i:Int):=by omega
   have n1:(i:Int) < ((u.length:Nat):Int):=by rw[hul];omega
   have n2:((i:Int)).toNat < u.length:=by rw[hul];omega
   (repeat(first|apply zae|apply zac|apply zab|apply zad));refine zaa hX zba rfl ?_ ?_
   ·repeat'(first|exact trivial|assumption|exact n0|exact n1|exact n2|(refine⟨?_,?_⟩)|(intro _)|exact Nat.le_of_ble_eq_true rfl|exact Int.natCast_nonneg _|(simp_all [allP];done))
   have hq:(!(u.getD ((i:Int)).toNat 0==1))=not1 (u.getD i 0):=by rw[Int.toNat_natCast];rfl
   refine zaf rfl (fun hc=>?_) (fun hc=>?_)
   ·have hc:=hq.symm.trans hc;(repeat(first|apply zae|apply zac|apply zak|apply zad|apply zab|refine zaa hX zba rfl trivial ?_|refine zaa hX zba rfl id ?_|refine zaa hX zba rfl ⟨id,id⟩ ?_));refine AWP.ret ⟨.inr rfl,zat rfl trivial rfl rfl ?_⟩;show false=wfS r;rw[hW];have:(u.take (r.length - 1)).any not1=true:=by
     rw[List.any_eq_true];refine⟨u.getD i 0,?_,hc⟩;rw[List.getD_eq_getElem?_getD,List.getElem?_eq_getElem (by omega)];exact List.mem_take_iff_getElem.2 ⟨i,by omega,rfl⟩
    rw[this];rfl
   ·have hc:=hq.symm.trans hc;apply zac;(repeat(first|apply zae|apply zac|apply zab|apply zad));refine zaa hX zba rfl ?_ ?_
    ·exact fin
    exact⟨i+1,⟨by omega,fun j hj=>by
     by_cases e:j=i
     ·rw[e];exact hc
     ·exact hn j (by omega)⟩,by omega,⟨rfl,rfl,zcg _,trivial⟩,⟨rfl,trivial⟩,rfl,rfl⟩
  ·have hb:decide ((i:Int)+1 < ((r.length:Nat):Int))=false:=hb;have hb:=of_decide_eq_false hb;apply zad;(repeat(first|apply zae|apply zac|apply zab|apply zad));refine zaa hX zba rfl ?_ ?_
   ·trivial
   refine AWP.ret ⟨.inr rfl,zat rfl trivial rfl rfl ?_⟩;show true=wfS r;rw[hW];have:(u.take (r.length - 1)).any not1=false:=by
    rw[List.any_eq_false];intro x hx;obtain⟨j,hj,rfl⟩:=List.mem_take_iff_getElem.1 hx;have:=hn j (by omega);rw[List.getD_eq_getElem?_getD,List.getElem?_eq_getElem (by omega)]at this;rw[show u[j]=(some u[j]).getD 0 from rfl,this];decide
   rw[this];rfl
abbrev Cal:=Int×List Int×Int×List Lr×Unit
def zgO (c:Cal):Prop:=(0≤c.1∧c.1≤1048576)∧(1≤c.2.1.length∧c.2.1.length≤16)∧(-1≤c.2.2.1∧c.2.2.1 < (c.2.1.length:Int))∧c.2.2.2.1.length≤16∧(c.2.2.1= -1->c.2.2.2.1=[])∧(∀ m∈c.2.1,1≤m∧m≤40)∧(perS 1 c.2.2.2.1).2=true
def cCalV:Ctr:={ args:=[cal],pre:=fun x=>[zgO x.1],res:=.bool,own:=none,out:=fun _=>true }
def kCv:Kn:={ gmK with C:=[(125,cPer)] }
theorem zdw:KnOk Tryz.prog gmH kCv:=zai.with (.cons zoC .nil)
theorem zqf {a b:Bool} (ha:a=false) (hb:b=false):(bif a then true else b)=false:=by rw[ha,hb];rfl
theorem ztG:CtrOk Tryz.prog gmH 73 cCalV:=by
 refine zan (K:=kCv) zdw Tryz.func73 rfl rfl Tryz.call73 rfl (by decide) (by intro h;cases h) ?_;rintro w0 X hX ⟨(c:Cal),_⟩ hp;obtain⟨(ep:Int),(ms:List Int),(lp:Int),(rs:List Lr),⟨⟩⟩:=c;obtain⟨⟨e0,e1⟩,⟨n0,n1⟩,⟨l0,l1⟩,r0,lr,hm,hper⟩:zgO (ep,ms,lp,rs,()):=hp;have e0:0≤ep:=e0;have e1:ep≤1048576:=e1;have n0:1≤ms.length:=n0;have n1:ms.length≤16:=n1;have l0: -1≤lp:=l0;have l1:lp < (ms.length:Int):=l1;have r0:rs.length≤16:=r0;have lr:lp= -1->rs=[]:=lr;have hm:∀ m∈ms,1≤m∧m≤40:=hm;have hper:(perS 1 rs).2=true:=hper;change AWP _ _ _ _ _ ⟨[(0,⟨cal,(ep,ms,lp,rs,())⟩)],[],0⟩ _;(repeat(first|apply zae|apply zac|apply zab|apply zad));refine zaa hX zdw rfl ?_ ?_
 ·trivial
 (repeat(first|apply zae|apply zac|apply zab|apply zad));refine zaa hX zdw rfl ?_ ?_
 ·trivial
 refine zaq (σ':=⟨[(1,⟨.optr cal,⟨0,cal,.here⟩⟩),(3,⟨i64,((ms.length:Nat):Int)⟩)],[(0,some (.box cal (ep,ms,lp,rs,())))],1⟩) ⟨⟨rfl,rfl,trivial⟩,⟨rfl,trivial⟩,rfl,rfl⟩ ?_;(repeat(first|apply zae|apply zac|apply zab|apply zad));refine zaa hX zdw rfl ?_ ?_
 ·repeat'(first|exact trivial|assumption|(refine⟨?_,?_⟩)|(intro _)|exact Nat.le_of_ble_eq_true rfl|exact Int.natCast_nonneg _|(simp_all [allP];done))
 refine zaf rfl (fun hc=>?_) (fun _=>?_)
 ·have hc:(bif decide (ep < 0) then true else decide (ep > 1048576))=true:=hc;rw[zqf (decide_eq_false (by omega)) (decide_eq_false (by omega))]at hc;cases hc
 (repeat(first|apply zae|apply zac|apply zab|apply zad));refine zaa hX zdw rfl ?_ ?_
 ·repeat'(first|exact trivial|assumption|(refine⟨?_,?_⟩)|(intro _)|exact Nat.le_of_ble_eq_true rfl|exact Int.natCast_nonneg _|(simp_all [allP];done))
 refine zaf rfl (fun hc=>?_) (fun _=>?_)
 ·have hc:(bif decide (((ms.length:Nat):Int) < 1) then true else decide (((ms.length:Nat):Int) > 16))=true:=hc;rw[zqf (decide_eq_false (by omega)) (decide_eq_false (by omega))]at hc;cases hc
 (repeat(first|apply zae|apply zac|apply zab|apply zad));refine zaa hX zdw rfl ?_ ?_
 ·repeat'(first|exact trivial|assumption|(refine⟨?_,?_⟩)|(intro _)|exact Nat.le_of_ble_eq_true rfl|exact Int.natCast_nonneg _|(simp_all [allP];done))
 refine zaf rfl (fun hc=>?_) (fun _=>?_)
 ·have hc:(bif decide (lp < -1) then true else decide (lp≥((ms.length:Nat):Int)))=true:=hc;rw[zqf (decide_eq_false (by omega)) (decide_eq_false (by omega))]at hc;cases hc
 (repeat(first|apply zae|apply zac|apply zab|apply zad));refine zaa hX zdw rfl ?_ ?_
 ·repeat'(first|exact trivial|assumption|(refine⟨?_,?_⟩)|(intro _)|exact Nat.le_of_ble_eq_true rfl|exact Int.natCast_nonneg _|(simp_all [allP];done))
 refine zaf rfl (fun hc=>?_) (fun _=>?_)
 ·have hc:decide (((rs.length:Nat):Int) > 16)=true:=hc;have:=of_decide_eq_true hc;omega
 (repeat(first|apply zae|apply zac|apply zab|apply zad));refine zaa hX zdw rfl ?_ ?_
 ·repeat'(first|exact trivial|assumption|(refine⟨?_,?_⟩)|(intro _)|exact Nat.le_of_ble_eq_true rfl|exact Int.natCast_nonneg _|(simp_all [allP];done))
 refine zaf rfl (fun hc=>?_) (fun _=>?_)
 ·have hc:(bif (lp== -1) then decide (((rs.length:Nat):Int) > 0) else false)=true:=hc;cases hq:(lp== -1) with
  |false=>rw[hq]at hc;cases hc
  |true=>
   rw[hq]at hc;have:=of_decide_eq_true hc;rw[lr (beq_iff_eq.1 hq)]at this;exact absurd this (by decide)
 apply zac;refine zaq (σ':=⟨[(1,⟨.optr cal,⟨0,cal,.here⟩⟩)],[(0,some (.box cal (ep,ms,lp,rs,())))],1⟩) ⟨⟨rfl,trivial⟩,⟨rfl,trivial⟩,rfl,rfl⟩ ?_;(repeat(first|apply zae|apply zac|apply zab|apply zad));refine zaa hX zdw rfl ?_ ?_
 ·trivial
 (repeat(first|apply zae|apply zac|apply zab|apply zad));refine AWP.loop (ι:=Nat) (fun k=>⟨[(1,⟨.optr cal,⟨0,cal,.here⟩⟩),(50,⟨ints,ms⟩),(51,⟨i64,((ms.length:Nat):Int)⟩),(52,⟨i64,(k:Int)⟩)],[(0,some (.box cal (ep,ms,lp,rs,())))],1⟩) (fun k=>k≤ms.length) (fun k=>ms.length - k) 0 (Nat.zero_le _) ⟨⟨rfl,rfl,rfl,rfl,trivial⟩,⟨rfl,trivial⟩,rfl,rfl⟩ ?_;intro k hk;(repeat(first|apply zae|apply zac|apply zab|apply zad));refine zaa hX zdw rfl ?_ ?_
 ·trivial
 apply zae;refine zaf rfl (fun hb=>?_) (fun hb=>?_)
 ·have hb:decide ((k:Int) < (ms.length:Nat))=true:=hb;have hb:=of_decide_eq_true hb;have hlt:k < ms.length:=by omega
  have z0:(0:Int)≤(k:Int):=by omega
  have hgd:ms.getD (k:Int).toNat (0:Int)=ms[k]:=za0 hlt;obtain⟨g0,g1⟩:=hm ms[k] (List.getElem_mem hlt);rw[<-hgd]at g0 g1;(repeat(first|apply zae|apply zac|apply zab|apply zad));refine zaa hX zdw rfl ?_ ?_
  ·exact⟨z0,hb⟩
  (repeat(first|apply zae|apply zac|apply zab|apply zad));refine zaa hX zdw rfl ?_ ?_
  ·repeat'(first|exact trivial|assumption|(refine⟨?_,?_⟩)|(intro _)|exact Nat.le_of_ble_eq_true rfl|exact Int.natCast_nonneg _|(simp_all [allP];done))
  refine zaf rfl (fun hc=>?_) (fun _=>?_)
  ·have hc:(bif decide (ms.getD (k:Int).toNat (0:Int) < 1) then true else decide (ms.getD (k:Int).toNat (0:Int) > 40))=true:=hc;rw[zqf (decide_eq_false (by omega)) (decide_eq_false (by omega))]at hc;cases hc
  apply zac;(repeat(first|apply zae|apply zac|apply zab|apply zad));refine zaa hX zdw rfl ?_ ?_
  ·exact zaF (by omega)
  exact⟨k+1,hlt,by omega,⟨rfl,rfl,rfl,zcg _,trivial⟩,⟨rfl,trivial⟩,rfl,rfl⟩
 ·apply zad;(repeat(first|apply zae|apply zac|apply zab|apply zad));refine zaa hX zdw rfl ?_ ?_
  ·trivial
  (repeat(first|apply zae|apply zac|apply zab|apply zad));refine zaa hX zdw rfl ?_ ?_
  ·trivial
  refine AWP.ret ⟨.inr rfl,zat rfl trivial rfl rfl ?_⟩;exact hper
def ztH:Ctr:={ args:=[.slice nd,.slice cal],pre:=fun x=>[List.length x.2.1=3,∀ c∈(x.2.1:List Cal),zgO c],res:=i64,own:=none,out:=fun x=>zbh x.1 }
def zCal:Cal:=(0,[],0,[],())
def kVr:Kn:={ gmK with C:=[(71,cAnyR),(72,cWf),(73,cCalV),(74,zlD)] }
theorem zbX:KnOk Tryz.prog gmH kVr:=zai.with (.cons ztY <| .cons wf_ok <| .cons ztG <| .cons zjO .nil)
set_option maxHeartbeats 1000000 in
theorem zsj:CtrOk Tryz.prog gmH 34 ztH:=by
 refine zan (K:=kVr) zbX Tryz.func34 rfl rfl Tryz.call34 rfl (by decide) (by intro h;cases h) ?_;rintro w0 X hX ⟨(r:List Nd),(cs:List Cal),_⟩ hp;obtain⟨hc3,hcs⟩:cs.length=3∧∀ c∈cs,zgO c:=by
  simp only[ztH,allP]at hp
  simpa using hp
 change AWP _ _ _ _ _ ⟨[(0,⟨.slice nd,r⟩),(1,⟨.slice cal,cs⟩)],[],0⟩ _;(repeat(first|apply zae|apply zac|apply zab|apply zad));refine zaa hX zbX rfl ?_ ?_
 ·trivial
 (repeat(first|apply zae|apply zac|apply zab|apply zad));refine zaa hX zbX rfl ?_ ?_
 ·trivial
 (repeat(first|apply zae|apply zac|apply zab|apply zad));refine zaa hX zbX rfl ?_ ?_
 ·repeat'(first|exact trivial|assumption|exact rfl|(refine⟨?_,?_⟩)|(intro _)|exact Nat.le_of_ble_eq_true rfl|exact Int.natCast_nonneg _|(simp_all [allP];done))
 have hbig:(bif decide (((r.length:Nat):Int) > 64) then true else r.any bigN)=decide (64 < r.length∨r.any bigN=true):=by
  rw[b_or,Bool.eq_iff_iff,Bool.or_eq_true,decide_eq_true_iff,decide_eq_true_iff];constructor
  ·rintro (h|h)
   ·exact .inl (by omega)
   ·exact .inr h
  ·rintro (h|h)
   ·exact .inl (by omega)
   ·exact .inr h
 refine zaf rfl (fun hb=>?_) (fun hb=>?_)
 ·have hb:=hbig.symm.trans hb;have hb:=of_decide_eq_true hb;(repeat(first|apply zae|apply zac|apply zak|apply zad|apply zab|refine zaa hX zbX rfl trivial ?_|refine zaa hX zbX rfl id ?_|refine zaa hX zbX rfl ⟨id,id⟩ ?_));refine AWP.ret ⟨.inr rfl,zat rfl trivial rfl rfl ?_⟩;show (2:Int)=zbh r;unfold zbh;rw[if_pos hb]
 have hb:=hbig.symm.trans hb;have hnb:=of_decide_eq_false hb;apply zac;(repeat(first|apply zae|apply zac|apply zab|apply zad));refine zaa hX zbX rfl ?_ ?_
 ·repeat'(first|exact trivial|assumption|(refine⟨?_,?_⟩)|(intro _)|exact Nat.le_of_ble_eq_true rfl|exact Int.natCast_nonneg _|(simp_all [allP];done))
 have hwt:(bif !wfS r then true else decide (((cs.length:Nat):Int) > 3))= !wfS r:=by
  rw[hc3];cases wfS r<;>rfl
 refine zaf rfl (fun hb=>?_) (fun hb=>?_)
 ·have hb:=hwt.symm.trans hb;rw[Bool.not_eq_true']at hb;(repeat(first|apply zae|apply zac|apply zak|apply zad|apply zab|refine zaa hX zbX rfl trivial ?_|refine zaa hX zbX rfl id ?_|refine zaa hX zbX rfl ⟨id,id⟩ ?_));refine AWP.ret ⟨.inr rfl,zat rfl trivial rfl rfl ?_⟩;show (1:Int)=zbh r;unfold zbh;rw[if_neg hnb,if_neg (by rw[hb];decide)]
 have hb:=hwt.symm.trans hb;rw[Bool.not_eq_false']at hb;have hv:zbh r=0:=by unfold zbh;rw[if_neg hnb,if_pos hb]
 obtain⟨⟨w1,w2⟩,w3,_⟩:=zb1 hb;apply zac;(repeat(first|apply zae|apply zac|apply zab|apply zad));refine zaa hX zbX rfl ?_ ?_
 ·trivial
 (repeat(first|apply zae|apply zac|apply zab|apply zad));refine zaq (σ':=⟨[(0,⟨.slice nd,r⟩),(1,⟨.slice cal,cs⟩),(27,⟨.slice cal,cs⟩),(28,⟨i64,((cs.length:Nat):Int)⟩),(29,⟨i64,(0:Int)⟩)],[],0⟩) ⟨⟨rfl,rfl,rfl,rfl,rfl,trivial⟩,trivial,rfl,rfl⟩ ?_;refine AWP.loop (ι:=Nat) (fun k=>⟨[(0,⟨.slice nd,r⟩),(1,⟨.slice cal,cs⟩),(27,⟨.slice cal,cs⟩),(28,⟨i64,((cs.length:Nat):Int)⟩),(29,⟨i64,(k:Int)⟩)],[],0⟩) (fun k=>k≤cs.length) (fun k=>cs.length - k) 0 (Nat.zero_le _) ⟨⟨rfl,rfl,rfl,rfl,rfl,trivial⟩,trivial,rfl,rfl⟩ ?_;intro k hk;(repeat(first|apply zae|apply zac|apply zab|apply zad));refine zaa hX zbX rfl ?_ ?_
 ·trivial
 apply zae;refine zaf rfl (fun hb=>?_) (fun hb=>?_)
 ·have hb:decide ((k:Int) < (cs.length:Nat))=true:=hb;have hb:=of_decide_eq_true hb;have hlt:k < cs.length:=by omega
  have z0:(0:Int)≤(k:Int):=by omega
  have hgd:cs.getD (k:Int).toNat zCal=cs[k]:=za0 hlt;have hok:=hcs cs[k] (List.getElem_mem hlt);rw[<-hgd]at hok;(repeat(first|apply zae|apply zac|apply zab|apply zad));refine zaa hX zbX rfl ?_ ?_
  ·exact⟨z0,hb⟩
  (repeat(first|apply zae|apply zac|apply zab|apply zad));refine zaa hX zbX rfl ?_ ?_
  ·exact hok
  refine zaf rfl (fun hc=>?_) (fun _=>?_)
  ·have hc:(!true)=true:=hc;cases hc
  apply zac;(repeat(first|apply zae|apply zac|apply zab|apply zad));refine zaa hX zbX rfl ?_ ?_
  ·exact zaF (by omega)
  exact⟨k+1,hlt,by omega,⟨rfl,rfl,rfl,rfl,zcg _,trivial⟩,trivial,rfl,rfl⟩
 ·apply zad;(repeat(first|apply zae|apply zac|apply zab|apply zad));refine zaa hX zbX rfl ?_ ?_
  ·trivial
  (repeat(first|apply zae|apply zac|apply zab|apply zad));refine zaa hX zbX rfl ?_ ?_
  ·trivial
  (repeat(first|apply zae|apply zac|apply zab|apply zad));refine AWP.loop (ι:=Nat) (fun i=>⟨[(0,⟨.slice nd,r⟩),(1,⟨.slice cal,cs⟩),(8,⟨.optr (.arr 19 shp),⟨0,.arr 19 shp,.here⟩⟩),(38,⟨.slice nd,r⟩),(39,⟨i64,((r.length:Nat):Int)⟩),(40,⟨i64,(i:Int)⟩)],[(0,some (.box (.arr 19 shp) zcU))],1⟩) (fun i=>i≤r.length) (fun i=>r.length - i) 0 (Nat.zero_le _) ⟨⟨rfl,rfl,rfl,rfl,rfl,rfl,trivial⟩,⟨rfl,trivial⟩,rfl,rfl⟩ ?_;intro i hi;(repeat(first|apply zae|apply zac|apply zab|apply zad));refine zaa hX zbX rfl ?_ ?_
  ·trivial
  apply zae;refine zaf rfl (fun hb=>?_) (fun hb=>?_)
  ·have hb:decide ((i:Int) < (r.length:Nat))=true:=hb;have hb:=of_decide_eq_true hb;have hlt:i < r.length:=by omega
   have z0:(0:Int)≤(i:Int):=by omega
   have hf:=(zbA w3 hlt).1;obtain⟨⟨k1,k2⟩,_,hcal,_⟩:=zaC hf;(repeat(first|apply zae|apply zac|apply zab|apply zad));refine zaa hX zbX rfl ?_ ?_
   ·exact⟨z0,hb⟩
   refine zaq (σ':=⟨[(0,⟨.slice nd,r⟩),(1,⟨.slice cal,cs⟩),(8,⟨.optr (.arr 19 shp),⟨0,.arr 19 shp,.here⟩⟩),(38,⟨.slice nd,r⟩),(39,⟨i64,((r.length:Nat):Int)⟩),(40,⟨i64,(i:Int)⟩),(10,⟨.optr nd,⟨1,nd,.here⟩⟩)],[(0,some (.box (.arr 19 shp) zcU)),(1,some (.box nd (zam r i)))],2⟩) ⟨⟨rfl,rfl,rfl,rfl,rfl,rfl,rfl,trivial⟩,⟨rfl,rfl,trivial⟩,rfl,rfl⟩ ?_;generalize zam r i=n at *;have t0:(0:Int)≤ndK n:=by omega
   have t1:ndK n < ((19:Nat):Int):=by omega
   have t2:(ndK n).toNat < 19:=by omega
   (repeat(first|apply zae|apply zac|apply zab|apply zad));refine zaa hX zbX rfl ?_ ?_
   ·repeat'(first|exact trivial|assumption|exact t0|exact t1|exact t2|(refine⟨?_,?_⟩)|(intro _)|exact Nat.le_of_ble_eq_true rfl|exact Int.natCast_nonneg _|(simp_all [allP];done))
   refine zaf rfl (fun hc=>?_) (fun _=>?_)
   ·have hc:(bif (zbH (ndK n)).2.1 then decide (ndC n≥((cs.length:Nat):Int)) else false)=true:=hc;exfalso;unfold zdE at hcal;cases hq:(zbH (ndK n)).2.1 with
    |false=>rw[hq]at hc;cases hc
    |true=>
     rw[hq,cond_true]at hc hcal;have h1:=of_decide_eq_true hc;have h2:=zaG.1 hcal;omega
   apply zac;(repeat(first|apply zae|apply zac|apply zab|apply zad));refine zaa hX zbX rfl ?_ ?_
   ·exact zaF (by omega)
   exact⟨i+1,hlt,by omega,⟨rfl,rfl,rfl,rfl,rfl,zcg _,trivial⟩,⟨rfl,trivial⟩,rfl,rfl⟩
  ·(repeat(first|apply zae|apply zac|apply zak|apply zad|apply zab|refine zaa hX zbX rfl trivial ?_|refine zaa hX zbX rfl id ?_|refine zaa hX zbX rfl ⟨id,id⟩ ?_));refine AWP.ret ⟨.inr rfl,zat rfl trivial rfl rfl ?_⟩;exact hv.symm
def znY:List Int:=[31,28,31,30,31,30,31,31,30,31,30,31]
def zgz:List Int:=[30,29,30,29,30,29,30,29,30,29,30,29]
def zc0:List Int:=[2,5,7,10,13,16,18,21,24,26,29]
def zgA (k:Int):Cal:=
 if k=0 then (7,znY,1,[(4,0,true,()),(100,0,false,()),(400,0,true,())],())
 else if k=1 then (5,znY,1,[(4,0,true,())],())
 else (227021,zgz,11,zc0.map fun x=>(30,x,true,()),())
def ziG:Ctr:={ args:=[i64],pre:=fun x=>[0≤x.1,x.1≤2],res:=.tup cal (.tup i64 .unit),own:=none,out:=fun x=>(zgA x.1,(0:Int),()) }
def kKw:Kn:={ gmK with H:=[63] }
theorem zcf:KnOk Tryz.prog gmH kKw:=⟨zgE,zgD,CsOk.nil,zhD,RsOk.nil⟩
def lunVal:Value:=.agg #[.int .i64 227021,.slice none 0 0,.int .i64 11,.slice none 0 0]
theorem zoP:Tryz.prog.built 63 [(0,.int .i64 227021),(2,.int .i64 11)]=some #[.int .i64 227021,.slice none 0 0,.int .i64 11,.slice none 0 0]:=by kernel_rfl
theorem bufL {te:TypeId} {x y:List Lr} (h:x=y):some (OObj.buf te lru x)=some (OObj.buf te lru y):=by rw[h]
set_option maxHeartbeats 1000000 in
theorem zq5:CtrOk Tryz.prog gmH 59 ziG:=by
 refine zan (K:=kKw) zcf Tryz.func59 rfl rfl Tryz.call59 rfl (by decide) (by intro h;cases h) ?_;rintro w0 X hX ⟨(k:Int),_⟩ hp;obtain⟨h0,h1⟩:0≤k∧k≤2:=by
  simp only[ziG,allP]at hp
  simpa using hp
 change AWP _ _ _ _ _ ⟨[(0,⟨i64,k⟩)],[],0⟩ _;(repeat(first|apply zae|apply zac|apply zab|apply zad));refine zaa hX zcf rfl ?_ ?_
 ·trivial
 (repeat(first|apply zae|apply zac|apply zab|apply zad));refine zaa hX zcf rfl ?_ ?_
 ·trivial
 refine AWP.frz hX 4 ?_;(repeat(first|apply zae|apply zac|apply zab|apply zad));refine zaa hX zcf rfl ?_ ?_
 ·trivial
 (repeat(first|apply zae|apply zac|apply zab|apply zad));refine zaa hX zcf rfl ?_ ?_
 ·trivial
 (repeat(first|apply zae|apply zac|apply zab|apply zad));refine zaa hX zcf rfl ?_ ?_
 ·trivial
 refine zaf rfl (fun hb=>?_) (fun hb=>?_)
 ·have hb:(k==0)=true:=hb;obtain rfl:=beq_iff_eq.1 hb;(repeat(first|apply zae|apply zac|apply zab|apply zad));refine zaa hX zcf rfl ?_ ?_
  ·trivial
  refine AWP.frz hX 6 ?_;(repeat(first|apply zae|apply zac|apply zab|apply zad));refine zaa hX zcf rfl ?_ ?_
  ·trivial
  refine AWP.ret ⟨.inr rfl,za7 (by decide) rfl rfl trivial ?_⟩;rfl
 have hb:(k==0)=false:=hb;have hk0:k≠0:=fun e=>by rw[e]at hb;cases hb
 (repeat(first|apply zae|apply zac|apply zab|apply zad));refine zaa hX zcf rfl ?_ ?_
 ·trivial
 refine zaf rfl (fun hb=>?_) (fun hb=>?_)
 ·have hb:(k==1)=true:=hb;obtain rfl:=beq_iff_eq.1 hb;(repeat(first|apply zae|apply zac|apply zab|apply zad));refine zaa hX zcf rfl ?_ ?_
  ·trivial
  refine AWP.ret ⟨.inr rfl,za7 (by decide) rfl rfl trivial ?_⟩;rfl
 have hb:(k==1)=false:=hb;have hk1:k≠1:=fun e=>by rw[e]at hb;cases hb
 (repeat(first|apply zae|apply zac|apply zab|apply zad));refine zaa hX zcf rfl ?_ ?_
 ·trivial
 refine zaf rfl (fun hb=>?_) (fun hb=>?_)
 ·have hb:(k==2)=true:=hb;obtain rfl:=beq_iff_eq.1 hb;(repeat(first|apply zae|apply zac|apply zab|apply zad));refine zaj ?_;refine AL.litv rfl (by intro c e;cases e) rfl rfl lunVal (fun β a w hs=>by
   unfold execOp;refine zel ?_;rw[show (#[(0,Operand.const (Value.int .i64 227021)),(2,Operand.const (Value.int .i64 11))]:Array (Nat×Operand)).map (fun p=>(p.1,a.eval p.2))= #[(0,Value.int .i64 227021),(2,Value.int .i64 11)] from by simp;exact⟨rfl,rfl⟩];exact run_build w _ _ _ zoP) ?_
  refine AL.all hX zcf rfl trivial ?_;refine AWP.nilLeaf 3 1 3 i64 rfl rfl rfl ?_;refine AWP.nilLeaf 3 3 129 lru rfl rfl rfl ?_;(repeat(first|apply zae|apply zac|apply zab|apply zad));refine zaa hX zcf rfl ?_ ?_
  ·trivial
  (repeat(first|apply zae|apply zac|apply zab|apply zad));refine AWP.loop (ι:=Nat) (fun i=>⟨[(2,⟨.hptr,((0:Nat),(0:Nat))⟩),(7,⟨.hptr,((3:Nat),(0:Nat))⟩),(32,⟨i64,(i:Int)⟩)],[(0,some (.hbox 63 [⟨i64,(0:Int)⟩,⟨.lit,.slice none 0 0⟩,⟨i64,(0:Int)⟩,⟨.lit,.slice none 0 0⟩])),(3,some (.hbox 63 [⟨i64,(227021:Int)⟩,⟨.obuf i64,(4:Nat)⟩,⟨i64,(11:Int)⟩,⟨.obuf lru,(5:Nat)⟩])),(4,some (.buf 3 i64 (zgz.take i))),(5,some (.buf 129 lru []))],6⟩) (fun i=>i≤12) (fun i=>12 - i) 0 (Nat.zero_le _) ⟨⟨rfl,rfl,rfl,trivial⟩,⟨rfl,rfl,rfl,rfl,trivial⟩,rfl,rfl⟩ ?_
  ·intro i hi;(repeat(first|apply zae|apply zac|apply zab|apply zad));refine zaa hX zcf rfl ?_ ?_
   ·trivial
   apply zae;refine zaf rfl (fun hb=>?_) (fun hb=>?_)
   ·have hb:decide ((i:Int) < 12)=true:=hb;have hb:=of_decide_eq_true hb;obtain⟨hv,hv2,hv3⟩:(inR .i64 ((30:Int) - (i:Int).tmod 2))∧zgz.take i++ [(30:Int) - (i:Int).tmod 2]=zgz.take (i+1)∧(zgz.take i).length≤12:=by
     rcases (show i=0∨i=1∨i=2∨i=3∨i=4∨i=5∨i=6∨i=7∨i=8∨i=9∨i=10∨i=11 by omega) with rfl|rfl|rfl|rfl|rfl|rfl|rfl|rfl|rfl|rfl|rfl|rfl<;>exact⟨zar (by decide) (by decide),by decide,by decide⟩
    have q0:(2:Int)≠0:=by decide
    have q1:(zgz.take i).length+1≤1000000000:=by omega
    (repeat(first|apply zae|apply zac|apply zab|apply zad));refine zaa hX zcf rfl ?_ ?_
    ·trivial
    (repeat(first|apply zae|apply zac|apply zab|apply zad));refine zaa hX zcf rfl ?_ ?_
    ·exact⟨q0,hv,q1⟩
    (repeat(first|apply zae|apply zac|apply zab|apply zad));refine zaa hX zcf rfl ?_ ?_
    ·exact zaF (by omega)
    exact⟨i+1,by omega,by omega,⟨rfl,rfl,zcg _,trivial⟩,⟨rfl,rfl,bufI hv2,rfl,trivial⟩,rfl,rfl⟩
   ·have hb:decide ((i:Int) < 12)=false:=hb;have hb:=of_decide_eq_false hb;obtain rfl:i=12:=by omega
    apply zad;(repeat(first|apply zae|apply zac|apply zab|apply zad));refine zaa hX zcf rfl ?_ ?_
    ·trivial
    refine AWP.frz hX 44 ?_;(repeat(first|apply zae|apply zac|apply zab|apply zad));refine AWP.loop (ι:=Nat) (fun j=>⟨[(2,⟨.hptr,((0:Nat),(0:Nat))⟩),(7,⟨.hptr,((3:Nat),(0:Nat))⟩),(44,⟨ints,zc0⟩),(45,⟨i64,(11:Int)⟩),(46,⟨i64,(j:Int)⟩)],[(0,some (.hbox 63 [⟨i64,(0:Int)⟩,⟨.lit,.slice none 0 0⟩,⟨i64,(0:Int)⟩,⟨.lit,.slice none 0 0⟩])),(3,some (.hbox 63 [⟨i64,(227021:Int)⟩,⟨.obuf i64,(4:Nat)⟩,⟨i64,(11:Int)⟩,⟨.obuf lru,(5:Nat)⟩])),(4,some (.buf 3 i64 zgz)),(5,some (.buf 129 lru ((zc0.take j).map fun x=>(30,x,true,()))))],6⟩) (fun j=>j≤11) (fun j=>11 - j) 0 (Nat.zero_le _) ⟨⟨rfl,rfl,rfl,rfl,rfl,trivial⟩,⟨rfl,rfl,rfl,rfl,trivial⟩,rfl,rfl⟩ ?_;intro j hj;(repeat(first|apply zae|apply zac|apply zab|apply zad));refine zaa hX zcf rfl ?_ ?_
    ·trivial
    apply zae;refine zaf rfl (fun hb=>?_) (fun hb=>?_)
    ·have hb:decide ((j:Int) < 11)=true:=hb;have hb:=of_decide_eq_true hb;have hlt:j < zc0.length:=by show j < 11;omega
     have z0:(0:Int)≤(j:Int):=by omega
     have z1:(j:Int) < ((zc0.length:Nat):Int):=by omega
     have hl:((zc0.take j).map fun x=>((30,x,true,()):Lr)).length+1≤1000000000:=by rw[List.length_map,List.length_take];omega
     (repeat(first|apply zae|apply zac|apply zab|apply zad));refine zaa hX zcf rfl ?_ ?_
     ·exact⟨z0,z1⟩
     (repeat(first|apply zae|apply zac|apply zab|apply zad));refine zaa hX zcf rfl ?_ ?_
     ·exact hl
     (repeat(first|apply zae|apply zac|apply zab|apply zad));refine zaa hX zcf rfl ?_ ?_
     ·exact zaF (by omega)
     refine⟨j+1,by omega,by omega,⟨rfl,rfl,rfl,rfl,zcg _,trivial⟩,⟨rfl,rfl,rfl,bufL ?_,trivial⟩,rfl,rfl⟩;rw[List.take_succ_eq_append_getElem hlt,List.map_append];show _++ [((30:Int),zc0.getD (j:Int).toNat (0:Int),true,())]=_;rw[za0 hlt];rfl
    ·have hb:decide ((j:Int) < 11)=false:=hb;have hb:=of_decide_eq_false hb;obtain rfl:j=11:=by omega
     apply zad;refine AWP.frzL hX 3 1 ?_;refine AWP.frzL hX 3 3 ?_;(repeat(first|apply zae|apply zac|apply zab|apply zad));refine zaa hX zcf rfl ?_ ?_
     ·trivial
     refine AWP.ret ⟨.inr rfl,za7 (by decide) rfl rfl trivial ?_⟩;rfl
 ·have hb:(k==2)=false:=hb;exact absurd (beq_iff_eq.2 (by omega:k=2)) (by rw[hb];decide)
def two (k:Int):Bool:=(k==8)||(k==9)||(k==10)||(k==17)
def zcH (by_:Int) (n:Nd):Nd:=(n.1,n.2.1,(if 8≤n.1∧n.1≤17 then n.2.2.1+by_ else n.2.2.1),(if two n.1 then n.2.2.2.1+by_ else n.2.2.2.1),n.2.2.2.2)
def zeh (r:List Nd) (by_:Int):List Nd:=r.map (zcH by_)
def zqJ (r:List Nd) (n:Nd):List Nd:=r++ [setL n ((r.length:Nat) - 1)]
def zrJ (r s:List Nd) (n:Nd):List Nd:=r++zeh s (r.length:Nat)++ [zck n ((r.length:Nat) - 1) ((r.length:Nat)+(s.length:Nat) - 1)]
set_option maxRecDepth 10000
theorem zdo {α:Type} {l m:List α} {z:α} {j:Nat} (h:j < l.length):(l++m).getD j z=l.getD j z:=by
 rw[List.getD_eq_getElem?_getD,List.getD_eq_getElem?_getD,List.getElem?_append_left h]
theorem zci {α:Type} {l m:List α} {z:α} {j:Nat}:(l++m).getD (l.length+j) z=m.getD j z:=by
 rw[List.getD_eq_getElem?_getD,List.getD_eq_getElem?_getD,List.getElem?_append_right (Nat.le_add_right ..),Nat.add_sub_cancel_left]
theorem zsC {n:Nd} (h:ndL n=0∧ndR n=0) (x:Int):zck (setL n x) 0 0=n:=by
 show (ndK n,ndC n,(0:Int),(0:Int),ndN n,ndM n,ndI n,ndS n,())=n
 conv=>rhs;rw[zrV n,h.1,h.2]
theorem zqm {n:Nd} (h:ndL n=0∧ndR n=0) (x y:Int):zck (zck n x y) 0 0=n:=by
 show (ndK n,ndC n,(0:Int),(0:Int),ndN n,ndM n,ndI n,ndS n,())=n
 conv=>rhs;rw[zrV n,h.1,h.2]
theorem zgR:∀ (t:Tr) (b:Nat) (r:List Nd) (k:Nat),TrOk t->(∀ j,j < t.size->r.getD (b+j) zNd=(t.flat b).getD j zNd)->b+t.size≤k->trF k r ((b+t.size:Nat) - 1:Int)=t
 | .leaf n,b,r,k,h,hr,hk=>by
  obtain⟨h1,h2,hR,hL⟩:=h;have hn:zam r ((b+1:Nat) - 1:Int)=n:=by
   rw[show (((b+1:Nat):Int) - 1)=((b+0:Nat):Int) by omega];exact hr 0 (Nat.zero_lt_one)
  show trF k r ((b+1:Nat) - 1:Int)=_;cases k with
  |zero=>
   have hk:b+1≤0:=hk;omega
  |succ k=>
   unfold trF;rw[hn,if_neg (by omega),if_neg (by omega)]
 | .un n a,b,r,k,h,hr,hk=>by
  obtain⟨h1,h2,hLR,ha⟩:=h;have hp:=a.size_pos;have hfl:=Tr.len_flat a b;have hk:b+(a.size+1)≤k:=hk;have hr:∀ j,j < a.size+1->r.getD (b+j) zNd=(a.flat b++ [setL n ((b+a.size:Nat) - 1)]).getD j zNd:=hr;have hn:zam r ((b+(a.size+1):Nat) - 1:Int)=setL n ((b+a.size:Nat) - 1):=by
   rw[show (((b+(a.size+1):Nat):Int) - 1)=((b+a.size:Nat):Int) by omega];have e:=hr a.size (by omega);rw[show a.size=(a.flat b).length+0 by omega,zci]at e;rw[hfl]at e;exact e
  show trF k r ((b+(a.size+1):Nat) - 1:Int)=_;cases k with
  |zero=>omega
  |succ k=>
   unfold trF;rw[hn];have hK:ndK (setL n ((b+a.size:Nat) - 1))=ndK n:=rfl;have hL:ndL (setL n ((b+a.size:Nat) - 1))=((b+a.size:Nat):Int) - 1:=rfl;rw[hK,hL,if_pos h2,zsC hLR,zgR a b r k ha (fun j hj=>by rw[hr j (by omega),zdo (by omega)]) (by omega)]
 | .bin n a c,b,r,k,h,hr,hk=>by
  obtain⟨h1,h2,hLR,ha,hc⟩:=h;have hp:=a.size_pos;have hpc:=c.size_pos;have hfl:=Tr.len_flat a b;have hfc:=Tr.len_flat c (b+a.size);have hk:b+(a.size+c.size+1)≤k:=hk;have hr:∀ j,j < a.size+c.size+1->r.getD (b+j) zNd=(a.flat b++c.flat (b+a.size)++ [zck n ((b+a.size:Nat) - 1) ((b+a.size+c.size:Nat) - 1)]).getD j zNd:=hr;have hn:zam r ((b+(a.size+c.size+1):Nat) - 1:Int)=zck n ((b+a.size:Nat) - 1) ((b+a.size+c.size:Nat) - 1):=by
   rw[show (((b+(a.size+c.size+1):Nat):Int) - 1)=((b+(a.size+c.size):Nat):Int) by omega];have e:=hr (a.size+c.size) (by omega);rw[show a.size+c.size=(a.flat b++c.flat (b+a.size)).length+0 by rw[List.length_append];omega,zci]at e;rw[List.length_append,hfl,hfc]at e;exact e
  show trF k r ((b+(a.size+c.size+1):Nat) - 1:Int)=_;cases k with
  |zero=>omega
  |succ k=>
   unfold trF;rw[hn];have hK:ndK (zck n ((b+a.size:Nat) - 1) ((b+a.size+c.size:Nat) - 1))=ndK n:=rfl;have hL:ndL (zck n ((b+a.size:Nat) - 1) ((b+a.size+c.size:Nat) - 1))=((b+a.size:Nat):Int) - 1:=rfl;have hR:ndR (zck n ((b+a.size:Nat) - 1) ((b+a.size+c.size:Nat) - 1))=((b+a.size+c.size:Nat):Int) - 1:=rfl;rw[hK,hL,hR,if_neg (by omega),if_pos h2,zqm hLR,zgR a b r k ha (fun j hj=>by rw[hr j (by omega),List.append_assoc,zdo (by omega)]) (by omega),
    zgR c (b+a.size) r k hc (fun j hj=>by rw[Nat.add_assoc,hr (a.size+j) (by omega),List.append_assoc, <-hfl,zci,hfl,zdo (by omega)]) (by omega)]
theorem zrI (x y:List Int):bump (x++(0::y)) ((x.length:Nat):Int)=x++(1::y):=by
 unfold bump;rw[Int.toNat_natCast];have:(x++(0::y)).getD x.length 0=0:=by
  have:=zci (l:=x) (m:=0::y) (z:=(0:Int)) (j:=0);rw[Nat.add_zero]at this;rw[this];rfl
 rw[this,List.set_append_right _ _ (Nat.le_refl _),Nat.sub_self];rfl
theorem zhP {x y z w:List Int} {i:Int} (hz:z=x++(0::y)) (hi:i=((x.length:Nat):Int)) (hw:w=x++(1::y)):bump z i=w:=by rw[hz,hi,hw,zrI]
theorem ziX (n:Nat) (x:Int) (q:List Int):List.replicate n x++(x::q)=List.replicate (n+1) x++q:=by
 rw[List.replicate_succ',List.append_assoc];rfl
theorem ziY {n:Nat} (h:1≤n) (q:List Int):List.replicate (n - 1) (1:Int)++(1::q)=List.replicate n 1++q:=by
 rw[ziX,show n - 1+1=n by omega]
theorem zfk:∀ (t:Tr) (b:Nat) (p q:List Int),TrOk t->p.length=b->(t.flat b).foldl zbm (p++(List.replicate t.size 0++q))=p++(List.replicate (t.size - 1) 1++(0::q))
 | .leaf n,b,p,q,h,hp=>by
  obtain⟨h1,h2,hR,hL⟩:=h;obtain⟨hk,_⟩:=zaC h1;show zbm _ n=_;unfold zbm;rw[zgX hk h2];rfl
 | .un n a,b,p,q,h,hp=>by
  obtain⟨h1,h2,hLR,ha⟩:=h;have hs:=a.size_pos;show (a.flat b++ [_]).foldl zbm (p++(List.replicate (a.size+1) 0++q))=p++(List.replicate (a.size+1 - 1) 1++(0::q));rw[List.foldl_append, <-ziX,zfk a b p (0::q) ha hp];show zbm _ (setL n ((b+a.size:Nat) - 1))=_;unfold zbm;have ho:opsN (setL n ((b+a.size:Nat) - 1))=1:=zl0 (n:=setL n ((b+a.size:Nat) - 1)) h2;rw[ho,decide_eq_false (by decide),decide_eq_true (by decide),cond_false,cond_true];refine zhP (x:=p++List.replicate (a.size - 1) 1) (y:=0::q) (by rw[List.append_assoc]) ?_ ?_
  ·rw[List.length_append,List.length_replicate,hp];show ((b+a.size:Nat):Int) - 1=_;omega
  ·rw[List.append_assoc,ziY hs,Nat.add_sub_cancel]
 | .bin n a c,b,p,q,h,hp=>by
  obtain⟨h1,h2,hLR,ha,hc⟩:=h;have hs:=a.size_pos;have hs2:=c.size_pos;show (a.flat b++c.flat (b+a.size)++ [_]).foldl zbm (p++(List.replicate (a.size+c.size+1) 0++q))=p++(List.replicate (a.size+c.size+1 - 1) 1++(0::q));have e1:p++(List.replicate (a.size+c.size+1) (0:Int)++q)=p++(List.replicate a.size 0++(List.replicate c.size 0++(0::q))):=by
   rw[<-ziX, <-List.replicate_append_replicate,List.append_assoc]
  rw[List.foldl_append,List.foldl_append,e1,zfk a b p _ ha hp];have e2:p++(List.replicate (a.size - 1) (1:Int)++(0::(List.replicate c.size 0++(0::q))))=(p++(List.replicate (a.size - 1) 1++ [0]))++(List.replicate c.size 0++(0::q)):=by simp
  rw[e2,zfk c (b+a.size) _ _ hc (by rw[List.length_append,List.length_append,List.length_replicate,hp,List.length_singleton];omega)];show zbm _ (zck n ((b+a.size:Nat) - 1) ((b+a.size+c.size:Nat) - 1))=_;unfold zbm;have ho:opsN (zck n ((b+a.size:Nat) - 1) ((b+a.size+c.size:Nat) - 1))=2:=zi4 (n:=zck n ((b+a.size:Nat) - 1) ((b+a.size+c.size:Nat) - 1)) h2;rw[ho,decide_eq_true (by decide),cond_true];have eL:bump ((p++(List.replicate (a.size - 1) 1++ [0]))++(List.replicate (c.size - 1) 1++(0::(0::q)))) (ndL (zck n ((b+a.size:Nat) - 1) ((b+a.size+c.size:Nat) - 1)))=p++List.replicate (a.size - 1) 1++(1::(List.replicate (c.size - 1) 1++(0::0::q))):=by
   refine zhP (x:=p++List.replicate (a.size - 1) 1) (y:=List.replicate (c.size - 1) 1++(0::0::q)) (by simp) ?_ rfl;rw[List.length_append,List.length_replicate,hp];show ((b+a.size:Nat):Int) - 1=_;omega
  rw[eL];refine zhP (x:=p++List.replicate (a.size - 1) 1++(1::List.replicate (c.size - 1) 1)) (y:=0::q) (by simp) ?_ ?_
  ·rw[List.length_append,List.length_append,List.length_cons,List.length_replicate,List.length_replicate,hp];show ((b+a.size+c.size:Nat):Int) - 1=_;omega
  ·rw[Nat.add_sub_cancel,List.append_assoc,List.append_assoc,List.cons_append,ziY hs,ziY hs2, <-List.append_assoc (List.replicate a.size 1),List.replicate_append_replicate]
theorem zeH:∀ (t:Tr) (b:Nat),TrOk t->∀ j,j < t.size->zbn ((t.flat b).getD j zNd) ((b+j:Nat):Int)=true
 | .leaf n,b,h,j,hj=>by
  obtain⟨h1,h2,hR,hL⟩:=h;have hj:j < 1:=hj;obtain rfl:j=0:=by omega
  obtain⟨hk,_⟩:=zaC h1;show zbn n _=true;unfold zbn;rw[h1,(zl2 hk h2).2 ⟨by by_cases e:ndK n=7;exact .inr e;exact .inl (hL e),hR⟩];rfl
 | .un n a,b,h,j,hj=>by
  obtain⟨h1,h2,hLR,ha⟩:=h;have hs:=a.size_pos;have hfl:=Tr.len_flat a b;have hj:j < a.size+1:=hj;show zbn ((a.flat b++ [setL n ((b+a.size:Nat) - 1)]).getD j zNd) _=true;by_cases e:j < a.size
  ·rw[zdo (by omega)];exact zeH a b ha j e
  ·obtain rfl:j=(a.flat b).length+0:=by omega
   rw[zci];show zbn (setL n ((b+a.size:Nat) - 1)) _=true;have e1:zbq (setL n ((b+a.size:Nat) - 1))=true:=by
    have:=zg0 (n:=n) (by omega) ((b+a.size:Nat) - 1) (ndR n);rw[h1]at this;exact this
   unfold zbn;rw[e1,(zoE (n:=setL n ((b+a.size:Nat) - 1)) h2).2 ⟨⟨by show (0:Int)≤((b+a.size:Nat):Int) - 1;omega,by show ((b+a.size:Nat):Int) - 1≤_;omega⟩,hLR.2⟩];rfl
 | .bin n a c,b,h,j,hj=>by
  obtain⟨h1,h2,hLR,ha,hc⟩:=h;have hs:=a.size_pos;have hs2:=c.size_pos;have hfl:=Tr.len_flat a b;have hfc:=Tr.len_flat c (b+a.size);have hj:j < a.size+c.size+1:=hj;show zbn ((a.flat b++c.flat (b+a.size)++ [zck n ((b+a.size:Nat) - 1) ((b+a.size+c.size:Nat) - 1)]).getD j zNd) _=true;by_cases e:j < a.size
  ·rw[List.append_assoc,zdo (by omega)];exact zeH a b ha j e
  ·by_cases e2:j < a.size+c.size
   ·obtain⟨i,rfl⟩:∃ i,j=(a.flat b).length+i:=⟨j - a.size,by omega⟩;rw[List.append_assoc,zci,zdo (by omega)];have:=zeH c (b+a.size) hc i (by omega);rwa[show b+((a.flat b).length+i)=b+a.size+i by omega]
   ·obtain rfl:j=(a.flat b++c.flat (b+a.size)).length+0:=by rw[List.length_append];omega
    rw[zci];show zbn (zck n ((b+a.size:Nat) - 1) ((b+a.size+c.size:Nat) - 1)) _=true;have hlen:(a.flat b++c.flat (b+a.size)).length=a.size+c.size:=by rw[List.length_append];omega
    have e1:=zg0 (n:=n) (by omega) ((b+a.size:Nat) - 1) ((b+a.size+c.size:Nat) - 1);rw[h1]at e1;unfold zbn;rw[e1,(zi5 (n:=zck n ((b+a.size:Nat) - 1) ((b+a.size+c.size:Nat) - 1)) h2).2 ⟨⟨by show (0:Int)≤((b+a.size:Nat):Int) - 1;omega,by show ((b+a.size:Nat):Int) - 1≤_;omega⟩,⟨by show (0:Int)≤((b+a.size+c.size:Nat):Int) - 1;omega,by show ((b+a.size+c.size:Nat):Int) - 1≤_;omega⟩⟩];rfl
theorem zmm {n:Nd} (h:zbq n=true):(ndS n).length≤32:=by
 obtain⟨_,_,_,h,_⟩:=zaC h;unfold zgb at h;cases hk:(ndK n==18) with
 |true=>
  rw[hk]at h;have h:zc9 (ndS n)=true:=h;unfold zc9 at h;simp only[Bool.and_eq_true,decide_eq_true_iff]at h;exact h.1.2
 |false=>
  rw[hk]at h;have h:=of_decide_eq_true h;rw[h];decide
theorem zkS {r:List Nd} (h:wfS r=true):zbh r=0:=by
 obtain⟨⟨h1,h2⟩,h3,_⟩:=zb1 h;unfold zbh;rw[if_neg,if_pos h];rintro (h4|h4)
 ·omega
 ·obtain⟨x,hx,hb⟩:=List.any_eq_true.1 h4;obtain⟨j,hj,rfl⟩:=List.getElem_of_mem hx;have hf:=(zbA h3 hj).1;rw[zeI,List.getD_eq_getElem?_getD,List.getElem?_eq_getElem hj]at hf;have hf:zbq r[j]=true:=hf;have h5:=(zaC hf).2.1;have h6:=zmm hf;unfold bigN at hb;rw[Bool.or_eq_true,decide_eq_true_iff,decide_eq_true_iff]at hb;unfold ndI at h5;unfold ndS at h6;omega
theorem zg7 {r:List Nd} (h:zbh r=0):wfS r=true:=by
 unfold zbh at h;split at h
 ·cases h
 ·split at h
  ·assumption
  ·cases h
theorem znG {t:Tr} (h:TrOk t) (hs:t.size≤64):wfS (t.flat 0)=true:=by
 have hl:=Tr.len_flat t 0;have hp:=t.size_pos;unfold wfS;have hu:za6 (t.flat 0) (t.flat 0).length=List.replicate (t.size - 1) 1++ [0]:=by
  unfold za6;rw[List.take_length,hl];have:=zfk t 0 [] [] h rfl;rw[List.nil_append,List.nil_append,List.append_nil]at this;exact this
 rw[hu,hl,decide_eq_true hp,decide_eq_true hs,zdt.2 (fun j hj=>by have:=zeH t 0 h j hj;rwa[Nat.zero_add]at this)];have:(List.replicate (t.size - 1) (1:Int)++ [0]).take (t.size - 1)=List.replicate (t.size - 1) 1:=by
  have:=List.take_left (l₁:=List.replicate (t.size - 1) (1:Int)) (l₂:=[0]);rwa[List.length_replicate]at this
 rw[this];have:(List.replicate (t.size - 1) (1:Int)).any not1=false:=by
  rw[List.any_eq_false];intro x hx;rw[List.eq_of_mem_replicate hx];decide
 rw[this];rfl
theorem zjJ {t:Tr} (h:TrOk t):zbW (t.flat 0)=t:=by
 unfold zbW;have hl:=Tr.len_flat t 0;have:=zgR t 0 (t.flat 0) ((t.flat 0).length+1) h (fun j _=>by rw[Nat.zero_add]) (by omega);rw[Nat.zero_add]at this;rw[hl]at this ⊢;exact this
theorem zri {t:Tr} (h:TrOk t) (hs:t.size≤64):fmtS (t.flat 0)=if 4000 < t.text.length then ([],2) else (t.text,0):=by
 unfold fmtS;rw[if_pos (zkS (znG h hs)),zjJ h]
set_option maxRecDepth 100000
def cTwo:Ctr:={ args:=[i64],pre:=fun _=>[],res:=.bool,own:=none,out:=fun x=>two x.1 }
theorem zrP:CtrOk Tryz.prog gmG 94 cTwo:=by
 refine zan (K:=gmK) zaM Tryz.func94 rfl rfl Tryz.call94 rfl (by decide) (by intro h;cases h) ?_;rintro w0 X hX ⟨(k:Int),_⟩ hp;change AWP _ _ _ _ _ ⟨[(0,⟨i64,k⟩)],[],0⟩ _;(repeat(first|apply zae|apply zac|apply zab|apply zad));refine zaa hX zaM rfl ?_ ?_
 ·trivial
 (repeat(first|apply zae|apply zac|apply zab|apply zad));refine zaa hX zaM rfl ?_ ?_
 ·repeat'(first|exact trivial|assumption|(refine⟨?_,?_⟩)|(intro _)|exact Nat.le_of_ble_eq_true rfl|exact Int.natCast_nonneg _|(simp_all [allP];done))
 refine AWP.ret ⟨.inr rfl,zat rfl trivial rfl rfl ?_⟩;show (bif (bif (bif (k==8) then true else (k==9)) then true else (k==10)) then true else (k==17))=two k;rw[b_or,b_or,b_or];rfl
theorem zmt {n:Nat} (h:10≤n):Lib.decDigits n=Lib.decDigits (n / 10)++ [UInt8.ofNat (48+n % 10)]:=by
 conv=>lhs;rw[Lib.decDigits]
 rw[dif_neg (by omega)]
theorem zmu {n:Nat} (h:n < 10):Lib.decDigits n=[UInt8.ofNat (48+n)]:=by rw[Lib.decDigits,dif_pos h]
theorem zr2 (n:Nat):UInt8.ofNat ((48+((n:Int)).tmod 10) % 256).toNat=UInt8.ofNat (48+n % 10):=by
 have:((n:Int)).tmod 10=((n % 10:Nat):Int):=rfl;rw[this]
 congr 1
 omega
theorem vS {x y:List UInt8} (h:x=y):(⟨.str,x⟩:V)=⟨.str,y⟩:=by rw[h]
def ztM:Ctr:={ args:=[i64],pre:=fun x=>[0≤x.1,x.1 < 100000000000000000],res:=.str,own:=none,out:=fun x=>deI x.1 }
theorem zlx:CtrOk Tryz.prog gmG 107 ztM:=by
 refine zan (K:=gmK) zaM Tryz.func107 rfl rfl Tryz.call107 rfl (by decide) (by intro h;cases h) ?_;rintro w0 X hX ⟨(n:Int),_⟩ hp;obtain⟨h0,h1⟩:0≤n∧n < 100000000000000000:=by
  simp only[ztM,allP]at hp
  simpa using hp
 change AWP _ _ _ _ _ ⟨[(0,⟨i64,n⟩)],[],0⟩ _;(repeat(first|apply zae|apply zac|apply zab|apply zad));refine zaa hX zaM rfl ?_ ?_
 ·trivial
 (repeat(first|apply zae|apply zac|apply zab|apply zad));refine zaa hX zaM rfl ?_ ?_
 ·trivial
 refine zaf rfl (fun hb=>?_) (fun _=>?_)
 ·have hb:decide (n < 0)=true:=hb;have:=of_decide_eq_true hb;omega
 apply zac;have ten:(10:Int)≠0:=by decide
 have tm:∀ x:Int,0≤x->0≤x.tmod 10∧x.tmod 10 < 10:=fun x hx=>⟨Int.tmod_nonneg _ hx,Int.tmod_lt_of_pos _ (by decide)⟩;have hm:=tm n h0;have i1:inR .i64 (48+n.tmod 10):=zar (by omega) (by omega);(repeat(first|apply zae|apply zac|apply zab|apply zad));refine zaa hX zaM rfl ?_ ?_
 ·exact⟨ten,i1⟩
 have td:∀ x:Nat,((x:Int)).tdiv 10=((x / 10:Nat):Int):=fun x=>(Int.ofNat_tdiv ..);obtain⟨N,rfl⟩:∃ N:Nat,n=(N:Int):=⟨n.toNat,by omega⟩;have hlen:(deI (N:Int)).length≤18:=zdB (by omega) h1;have hde:deI (N:Int)=Lib.decDigits N:=by
  unfold deI Lib.itoa;rw[if_neg (by omega),Int.toNat_natCast]
 have i2:inR .i64 (((N:Int)).tdiv 10):=by rw[td];exact zar (by omega) (by omega)
 (repeat(first|apply zae|apply zac|apply zab|apply zad));refine zaa hX zaM rfl ?_ ?_
 ·exact⟨ten,i2⟩
 (repeat(first|apply zae|apply zac|apply zab|apply zad));refine AWP.loop (ι:=Nat×List UInt8) (fun p=>⟨[(0,⟨i64,(p.1:Int)⟩),(3,⟨.str,p.2⟩)],[],1⟩) (fun p=>p.1≤N / 10∧deI (N:Int)=if p.1=0 then p.2 else Lib.decDigits p.1++p.2) (fun p=>p.1) (N / 10,[UInt8.ofNat (48+N % 10)]) ⟨Nat.le_refl _,?_⟩ ⟨⟨vI64 (td N),vS ?_,trivial⟩,trivial,rfl,rfl⟩ ?_
 ·rw[hde];show _=if N / 10=0 then [UInt8.ofNat (48+N % 10)] else Lib.decDigits (N / 10)++ [UInt8.ofNat (48+N % 10)]
  by_cases h10:N < 10
  ·rw[if_pos (by omega),zmu h10,Nat.mod_eq_of_lt h10]
  ·rw[if_neg (by omega),zmt (by omega)]
 ·show [UInt8.ofNat ((48+((N:Int)).tmod 10) % 256).toNat]=_;rw[zr2]
 rintro ⟨m,s⟩ ⟨hm10,hd⟩;have hm10:m≤N / 10:=hm10;have hd:deI (N:Int)=if m=0 then s else Lib.decDigits m++s:=hd
 (repeat(first|apply zae|apply zac|apply zab|apply zad));refine zaa hX zaM rfl ?_ ?_
 ·trivial
 refine zaf rfl (fun hb=>?_) (fun hb=>?_)
 ·have hb:decide ((m:Int) > 0)=true:=hb;have hb:=of_decide_eq_true hb;rw[if_neg (by omega)]at hd;have hsl:s.length≤18:=by rw[hd,List.length_append]at hlen;omega
  have hmm:=tm (m:Int) (by omega);have j1:inR .i64 (48+((m:Int)).tmod 10):=zar (by omega) (by omega);have j2:1+s.length≤maxLen:=by unfold maxLen;omega
  have j3:inR .i64 (((m:Int)).tdiv 10):=by rw[td];exact zar (by omega) (by omega)
  (repeat(first|apply zae|apply zac|apply zab|apply zad));refine zaa hX zaM rfl ?_ ?_
  ·exact⟨ten,j1,j2⟩
  (repeat(first|apply zae|apply zac|apply zab|apply zad));refine zaa hX zaM rfl ?_ ?_
  ·exact⟨ten,j3⟩
  refine⟨(m / 10,[UInt8.ofNat (48+m % 10)]++s),⟨by show m / 10≤N / 10;omega,?_⟩,by show m / 10 < m;omega,⟨vI64 (td m),vS ?_,trivial⟩,trivial,rfl,rfl⟩
  ·rw[hd];show _=if m / 10=0 then [UInt8.ofNat (48+m % 10)]++s else Lib.decDigits (m / 10)++([UInt8.ofNat (48+m % 10)]++s)
   by_cases h10:m < 10
   ·rw[if_pos (by omega),zmu h10,Nat.mod_eq_of_lt h10]
   ·rw[if_neg (by omega),zmt (by omega),List.append_assoc]
  ·show [UInt8.ofNat ((48+((m:Int)).tmod 10) % 256).toNat]++s=_;rw[zr2]
 ·have hb:decide ((m:Int) > 0)=false:=hb;have hb:=of_decide_eq_false hb;rw[if_pos (by omega)]at hd;(repeat(first|apply zae|apply zac|apply zak|apply zad|apply zab|refine zaa hX zaM rfl trivial ?_|refine zaa hX zaM rfl id ?_|refine zaa hX zaM rfl ⟨id,id⟩ ?_));refine AWP.ret ⟨.inr rfl,zat rfl trivial rfl rfl ?_⟩;exact hd.symm
def cDec:Ctr:={ args:=[i64],pre:=fun x=>[zbQ x.1],res:=.str,own:=none,out:=fun x=>deI x.1 }
def kDec:Kn:={ gmK with C:=[(107,ztM)] }
theorem zjb:KnOk Tryz.prog gmG kDec:=zaM.with (.cons zlx .nil)
theorem zr3:CtrOk Tryz.prog gmG 107 cDec:=by
 refine⟨zlx.1,fun w O xs vs hO hr hp hG=>?_⟩;obtain⟨(n:Int),_⟩:=xs;obtain⟨h0,h1⟩: -100000000000000000 < n∧n < 100000000000000000:=hp;by_cases hn:0≤n
 ·exact zlx.2 w O _ vs hO hr ⟨hn,h1⟩ hG
 ·have key:CtrOk Tryz.prog gmG 107 { cDec with pre:=fun x=>[-100000000000000000 < x.1,x.1 < 0] }:=by
   refine zan (K:=kDec) zjb Tryz.func107 rfl rfl Tryz.call107 rfl (by decide) (by intro h;cases h) ?_;rintro w0 X hX ⟨(n:Int),_⟩ hp;obtain⟨h0,h1⟩: -100000000000000000 < n∧n < 0:=hp;change AWP _ _ _ _ _ ⟨[(0,⟨i64,n⟩)],[],0⟩ _;(repeat(first|apply zae|apply zac|apply zab|apply zad));refine zaa hX zjb rfl ?_ ?_
   ·trivial
   (repeat(first|apply zae|apply zac|apply zab|apply zad));refine zaa hX zjb rfl ?_ ?_
   ·trivial
   refine zaf rfl (fun _=>?_) (fun hb=>?_)
   ·have i1:inR .i64 (-n):=zar (by omega) (by omega);have i2:0≤ -n:=by omega
    have i3: -n < 100000000000000000:=by omega
    have hl:(deI (-n)).length≤18:=zdB (by omega) (by omega);have i4:1+(deI (-n)).length≤maxLen:=by unfold maxLen;omega
    (repeat(first|apply zae|apply zac|apply zab|apply zad));refine zaa hX zjb rfl ?_ ?_
    ·exact⟨i1,i2,i3,i4⟩
    refine AWP.ret ⟨.inr rfl,zat rfl trivial rfl rfl ?_⟩;show [45]++deI (-n)=deI n;unfold deI Lib.itoa;rw[if_neg (by omega),if_pos (by omega),show n.natAbs=(-n).toNat by omega];rfl
   ·have hb:decide (n < 0)=false:=hb;have:=of_decide_eq_false hb;omega
  have hneg:n < 0:=by omega
  exact key.2 w O _ vs hO hr ⟨h0,hneg⟩ hG
theorem bufN {te:TypeId} {x y:List Nd} (h:x=y):some (OObj.buf te nd x)=some (OObj.buf te nd y):=by rw[h]
def cOver:Ctr:={ args:=[.slice nd,nd],pre:=fun x=>[List.length x.1≤1000000],res:=.slice nd,own:=none,out:=fun x=>zqJ x.1 x.2.1 }
theorem zsK:CtrOk Tryz.prog gmG 97 cOver:=by
 refine zan (K:=gmK) zaM Tryz.func97 rfl rfl Tryz.call97 rfl (by decide) (by intro h;cases h) ?_;rintro w0 X hX ⟨(r:List Nd),(n:Nd),_⟩ hp;have hl:r.length≤1000000:=hp;change AWP _ _ _ _ _ ⟨[(0,⟨.slice nd,r⟩),(1,⟨nd,n⟩)],[],0⟩ _;have i1:inR .i64 (((r.length:Nat):Int) - 1):=zar (by omega) (by omega);have i2:0+r.length≤1000000000:=by omega
 have i3:List.length ([]++r)+1≤1000000000:=by rw[List.nil_append];omega
 (repeat(first|apply zae|apply zac|apply zab|apply zad));refine zaa hX zaM rfl ?_ ?_
 ·trivial
 (repeat(first|apply zae|apply zac|apply zab|apply zad));refine zaa hX zaM rfl ?_ ?_
 ·exact i1
 (repeat(first|apply zae|apply zac|apply zab|apply zad));refine zaa hX zaM rfl ?_ ?_
 ·exact i2
 (repeat(first|apply zae|apply zac|apply zab|apply zad));refine zaa hX zaM rfl ?_ ?_
 ·exact i3
 refine AWP.frz hX 4 ?_;refine AWP.ret ⟨.inr rfl,zat rfl trivial rfl rfl ?_⟩;rfl
def zsa:Ctr:={ args:=[.slice nd,i64],pre:=fun x=>[List.length x.1≤1000000,0≤x.2.1,x.2.1≤1000000,∀ n∈(x.1:List Nd),(-1000000≤ndL n∧ndL n≤1000000)∧(-1000000≤ndR n∧ndR n≤1000000)],res:=.slice nd,own:=none,out:=fun x=>zeh x.1 x.2.1 }
def kMvd:Kn:={ gmK with C:=[(94,cTwo)] }
theorem zdb:KnOk Tryz.prog gmG kMvd:=zaM.with (.cons zrP .nil)
theorem zqP:CtrOk Tryz.prog gmG 148 zsa:=by
 refine zan (K:=kMvd) zdb Tryz.func148 rfl rfl Tryz.call148 rfl (by decide) (by intro h;cases h) ?_;rintro w0 X hX ⟨(r:List Nd),(b:Int),_⟩ hp;obtain⟨hl,b0,b1,hn⟩:r.length≤1000000∧0≤b∧b≤1000000∧∀ n∈r,(-1000000≤ndL n∧ndL n≤1000000)∧(-1000000≤ndR n∧ndR n≤1000000):=hp;change AWP _ _ _ _ _ ⟨[(0,⟨.slice nd,r⟩),(1,⟨i64,b⟩)],[],0⟩ _;have i2:0+r.length≤1000000000:=by omega
 (repeat(first|apply zae|apply zac|apply zab|apply zad));refine zaa hX zdb rfl ?_ ?_
 ·trivial
 (repeat(first|apply zae|apply zac|apply zab|apply zad));refine zaa hX zdb rfl ?_ ?_
 ·exact i2
 (repeat(first|apply zae|apply zac|apply zab|apply zad));refine zaa hX zdb rfl ?_ ?_
 ·trivial
 (repeat(first|apply zae|apply zac|apply zab|apply zad));refine AWP.loop (ι:=Nat) (fun i=>⟨[(1,⟨i64,b⟩),(5,⟨.obuf nd,(0:Nat)⟩),(6,⟨i64,(i:Int)⟩)],[(0,some (.buf 73 nd ((r.take i).map (zcH b)++r.drop i)))],1⟩) (fun i=>i≤r.length) (fun i=>r.length - i) 0 (Nat.zero_le _) ⟨⟨rfl,rfl,rfl,trivial⟩,⟨bufN ?_,trivial⟩,rfl,rfl⟩ ?_
 ·rfl
 intro i hi;have hlen:((r.take i).map (zcH b)++r.drop i).length=r.length:=by rw[List.length_append,List.length_map,List.length_take,List.length_drop];omega
 (repeat(first|apply zae|apply zac|apply zab|apply zad));refine zaa hX zdb rfl ?_ ?_
 ·trivial
 refine zaf rfl (fun hb=>?_) (fun hb=>?_)
 ·have hb:decide ((i:Int) < ((((r.take i).map (zcH b)++r.drop i).length:Nat):Int))=true:=hb;have hb:=of_decide_eq_true hb;rw[hlen]at hb;have hlt:i < r.length:=by omega
  have z0:(0:Int)≤(i:Int):=by omega
  have hdr:r.drop i=r[i]::r.drop (i+1):=List.drop_eq_getElem_cons hlt;have hpl:((r.take i).map (zcH b)).length=i:=by rw[List.length_map,List.length_take];omega
  obtain⟨⟨q1,q2⟩,⟨q3,q4⟩⟩:=hn r[i] (List.getElem_mem hlt);rw[hdr]at hlen ⊢;have htk:(r.take (i+1)).map (zcH b)=(r.take i).map (zcH b)++ [zcH b r[i]]:=by rw[List.take_succ_eq_append_getElem hlt,List.map_append];rfl
  generalize (r.take i).map (zcH b)=p at *;generalize hdq:r.drop (i+1)=q at *;generalize r[i]=n at *;have z1:(i:Int) < (((p++n::q).length:Nat):Int):=by rw[hlen];omega
  have z2:((i:Int)).toNat < (p++n::q).length:=by rw[hlen];omega
  have hget:(p++n::q).getD ((i:Int)).toNat zNd=n:=by
   have:=zci (l:=p) (m:=n::q) (z:=zNd) (j:=0);rw[Int.toNat_natCast,show i=p.length+0 by omega,this];rfl
  have hset:∀ x,(p++n::q).set ((i:Int)).toNat x=p++x::q:=fun x=>by
   rw[Int.toNat_natCast,List.set_append_right _ _ (by omega),show i - p.length=0 by omega];rfl
  have i3:inR .i64 (ndL n+b):=zar (by omega) (by omega);have i4:inR .i64 (ndR n+b):=zar (by omega) (by omega);have i3':inR .i64 (ndL ((p++n::q).getD ((i:Int)).toNat zNd)+b):=by rw[hget];exact i3
  (repeat(first|apply zae|apply zac|apply zab|apply zad));refine zaa hX zdb rfl ?_ ?_
  ·repeat'(first|exact trivial|assumption|exact z0|exact z1|exact z2|(refine⟨?_,?_⟩)|(intro _)|exact Nat.le_of_ble_eq_true rfl|exact Int.natCast_nonneg _|(simp_all [allP];done))
  refine AWP.viaQ (σ':=⟨[(1,⟨i64,b⟩),(5,⟨.obuf nd,(0:Nat)⟩),(6,⟨i64,(i:Int)⟩)],[(0,some (.buf 73 nd (p++(if 8≤ndK n∧ndK n≤17 then setL n (ndL n+b) else n)::q)))],1⟩) ?_ ?_
  ·have hq:(bif decide (ndK ((p++n::q).getD ((i:Int)).toNat zNd)≥8) then decide (ndK ((p++n::q).getD ((i:Int)).toNat zNd)≤17) else false)=decide (8≤ndK n∧ndK n≤17):=by
    rw[hget,zdf,Bool.eq_iff_iff,Bool.and_eq_true,decide_eq_true_iff,decide_eq_true_iff,decide_eq_true_iff]
   refine zaf rfl (fun hc=>?_) (fun hc=>?_)
   ·have hc:=of_decide_eq_true (hq.symm.trans hc);(repeat(first|apply zae|apply zac|apply zab|apply zad));refine zaa hX zdb rfl ?_ ?_
    ·repeat'(first|exact trivial|assumption|exact z0|exact z1|exact z2|exact i3'|(refine⟨?_,?_⟩)|(intro _)|exact Nat.le_of_ble_eq_true rfl|exact Int.natCast_nonneg _|(simp_all [allP];done))
    refine⟨⟨rfl,rfl,rfl,trivial⟩,⟨bufN ?_,trivial⟩,rfl,rfl⟩;refine (hset _).trans ?_;rw[if_pos hc];show p++(setL ((p++n::q).getD ((i:Int)).toNat zNd) (ndL ((p++n::q).getD ((i:Int)).toNat zNd)+b))::q=_;rw[hget]
   ·have hc:=of_decide_eq_false (hq.symm.trans hc);apply zac;rw[if_neg hc];exact⟨⟨rfl,rfl,rfl,trivial⟩,⟨rfl,trivial⟩,rfl,rfl⟩
  generalize hn1:(if 8≤ndK n∧ndK n≤17 then setL n (ndL n+b) else n)=n1;have hK:ndK n1=ndK n:=by rw[<-hn1];split<;>rfl
  have hR:ndR n1=ndR n:=by rw[<-hn1];split<;>rfl
  have hlen1:(p++n1::q).length=r.length:=by rw[<-hlen];simp
  have y1:(i:Int) < (((p++n1::q).length:Nat):Int):=by rw[hlen1];omega
  have y2:((i:Int)).toNat < (p++n1::q).length:=by rw[hlen1];omega
  have hget1:(p++n1::q).getD ((i:Int)).toNat zNd=n1:=by
   have:=zci (l:=p) (m:=n1::q) (z:=zNd) (j:=0);rw[Int.toNat_natCast,show i=p.length+0 by omega,this];rfl
  have hset1:∀ x,(p++n1::q).set ((i:Int)).toNat x=p++x::q:=fun x=>by
   rw[Int.toNat_natCast,List.set_append_right _ _ (by omega),show i - p.length=0 by omega];rfl
  have i4':inR .i64 (ndR ((p++n1::q).getD ((i:Int)).toNat zNd)+b):=by rw[hget1,hR];exact i4
  (repeat(first|apply zae|apply zac|apply zab|apply zad));refine zaa hX zdb rfl ?_ ?_
  ·repeat'(first|exact trivial|assumption|exact z0|exact y1|exact y2|(refine⟨?_,?_⟩)|(intro _)|exact Nat.le_of_ble_eq_true rfl|exact Int.natCast_nonneg _|(simp_all [allP];done))
  have hmv:zcH b n=if two (ndK n)=true then zck n1 (ndL n1) (ndR n1+b) else n1:=by
   rw[<-hn1];unfold zcH;obtain⟨k,c,L,R,rest⟩:=n;by_cases h8:8≤k∧k≤17
   ·rw[if_pos h8,if_pos (c:=8≤ndK (k,c,L,R,rest)∧ndK (k,c,L,R,rest)≤17) h8];cases ht:two k with
    |true=>rw[if_pos (c:=two (ndK (k,c,L,R,rest))=true) ht];rfl
    |false=>rw[if_neg (c:=two (ndK (k,c,L,R,rest))=true) (by show ¬ two k=true;rw[ht];decide)];rfl
   ·rw[if_neg h8,if_neg (c:=8≤ndK (k,c,L,R,rest)∧ndK (k,c,L,R,rest)≤17) h8];cases ht:two k with
    |true=>rw[if_pos (c:=two (ndK (k,c,L,R,rest))=true) ht];rfl
    |false=>rw[if_neg (c:=two (ndK (k,c,L,R,rest))=true) (by show ¬ two k=true;rw[ht];decide)];rfl
  have hq:two (ndK ((p++n1::q).getD ((i:Int)).toNat zNd))=two (ndK n):=by rw[hget1,hK]
  refine zaf rfl (fun hc=>?_) (fun hc=>?_)
  ·have hc:=hq.symm.trans hc;(repeat(first|apply zae|apply zac|apply zab|apply zad));refine zaa hX zdb rfl ?_ ?_
   ·repeat'(first|exact trivial|assumption|exact z0|exact y1|exact y2|exact i4'|(refine⟨?_,?_⟩)|(intro _)|exact Nat.le_of_ble_eq_true rfl|exact Int.natCast_nonneg _|(simp_all [allP];done))
   (repeat(first|apply zae|apply zac|apply zab|apply zad));refine zaa hX zdb rfl ?_ ?_
   ·exact zaF (by omega)
   refine⟨i+1,hlt,by omega,⟨rfl,rfl,zcg _,trivial⟩,⟨bufN ?_,trivial⟩,rfl,rfl⟩;refine (hset1 _).trans ?_;rw[htk,hmv,if_pos hc,List.append_assoc,hdq];show p++(zck ((p++n1::q).getD ((i:Int)).toNat zNd) (ndL ((p++n1::q).getD ((i:Int)).toNat zNd)) (ndR ((p++n1::q).getD ((i:Int)).toNat zNd)+b))::q=_;rw[hget1];rfl
  ·have hc:=hq.symm.trans hc;apply zac;(repeat(first|apply zae|apply zac|apply zab|apply zad));refine zaa hX zdb rfl ?_ ?_
   ·exact zaF (by omega)
   refine⟨i+1,hlt,by omega,⟨rfl,rfl,zcg _,trivial⟩,⟨bufN ?_,trivial⟩,rfl,rfl⟩;rw[htk,hmv,if_neg (by rw[hc];decide),List.append_assoc,hdq];rfl
 ·have hb:decide ((i:Int) < ((((r.take i).map (zcH b)++r.drop i).length:Nat):Int))=false:=hb;have hb:=of_decide_eq_false hb;rw[hlen]at hb;obtain rfl:i=r.length:=by omega
  apply zad;refine AWP.frz hX 5 ?_;(repeat(first|apply zae|apply zac|apply zab|apply zad));refine zaa hX zdb rfl ?_ ?_
  ·trivial
  refine AWP.ret ⟨.inr rfl,zat rfl trivial rfl rfl ?_⟩;show (r.take r.length).map (zcH b)++r.drop r.length=zeh r b;rw[List.take_length,List.drop_length,List.append_nil];rfl
def cBoth:Ctr:={ args:=[.slice nd,.slice nd,nd],pre:=fun x=>[1≤List.length x.1,List.length x.1≤100000,List.length x.2.1≤100000,∀ n∈(x.2.1:List Nd),(-1000000≤ndL n∧ndL n≤1000000)∧(-1000000≤ndR n∧ndR n≤1000000)],res:=.slice nd,own:=none,out:=fun x=>zrJ x.1 x.2.1 x.2.2.1 }
def kBth:Kn:={ gmK with C:=[(148,zsa)] }
theorem zfb:KnOk Tryz.prog gmG kBth:=zaM.with (.cons zqP .nil)
theorem ztP:CtrOk Tryz.prog gmG 95 cBoth:=by
 refine zan (K:=kBth) zfb Tryz.func95 rfl rfl Tryz.call95 rfl (by decide) (by intro h;cases h) ?_;rintro w0 X hX ⟨(a:List Nd),(c:List Nd),(n:Nd),_⟩ hp;obtain⟨h1,hl,hl2,hn⟩:1≤a.length∧a.length≤100000∧c.length≤100000∧∀ n∈c,(-1000000≤ndL n∧ndL n≤1000000)∧(-1000000≤ndR n∧ndR n≤1000000):=hp;change AWP _ _ _ _ _ ⟨[(0,⟨.slice nd,a⟩),(1,⟨.slice nd,c⟩),(2,⟨nd,n⟩)],[],0⟩ _;have i1:inR .i64 (((a.length:Nat):Int) - 1):=zar (by omega) (by omega);have i2:inR .i64 (((a.length:Nat):Int)+((c.length:Nat):Int)):=zar (by omega) (by omega);have i3:inR .i64 (((a.length:Nat):Int)+((c.length:Nat):Int) - 1):=zar (by omega) (by omega);have i4:0+a.length≤1000000000:=by omega
 have i5:c.length≤1000000:=by omega
 have i6:(0:Int)≤((a.length:Nat):Int):=by omega
 have i7:((a.length:Nat):Int)≤1000000:=by omega
 have hml:(zeh c ((a.length:Nat):Int)).length=c.length:=by unfold zeh;rw[List.length_map]
 have i8:List.length ([]++a)+(zeh c ((a.length:Nat):Int)).length≤1000000000:=by rw[List.nil_append];omega
 have i9:List.length ([]++a++zeh c ((a.length:Nat):Int))+1≤1000000000:=by rw[List.nil_append,List.length_append];omega
 (repeat(first|apply zae|apply zac|apply zab|apply zad));refine zaa hX zfb rfl ?_ ?_
 ·trivial
 (repeat(first|apply zae|apply zac|apply zab|apply zad));refine zaa hX zfb rfl ?_ ?_
 ·exact i1
 (repeat(first|apply zae|apply zac|apply zab|apply zad));refine zaa hX zfb rfl ?_ ?_
 ·exact⟨i2,i3⟩
 (repeat(first|apply zae|apply zac|apply zab|apply zad));refine zaa hX zfb rfl ?_ ?_
 ·exact i4
 (repeat(first|apply zae|apply zac|apply zab|apply zad));refine zaa hX zfb rfl ?_ ?_
 ·exact⟨i5,i6,i7,hn,i8⟩
 (repeat(first|apply zae|apply zac|apply zab|apply zad));refine zaa hX zfb rfl ?_ ?_
 ·exact i9
 refine AWP.frz hX 6 ?_;refine AWP.ret ⟨.inr rfl,zat rfl trivial rfl rfl ?_⟩;rfl
def cGcd2:Ctr:={ args:=[i64,i64],pre:=fun x=>[0≤x.1,x.1≤1000000,0≤x.2.1,x.2.1≤1000000],res:=i64,own:=none,out:=fun x=>((Nat.gcd x.1.toNat x.2.1.toNat:Nat):Int) }
theorem zth:CtrOk Tryz.prog gmG 154 cGcd2:=by
 refine zan (K:=gmK) zaM Tryz.func154 rfl rfl Tryz.call154 rfl (by decide) (by intro h;cases h) ?_;rintro w0 X hX ⟨(a:Int),(b:Int),_⟩ hp;obtain⟨ha,ha',hb,hb'⟩:0≤a∧a≤1000000∧0≤b∧b≤1000000:=hp;change AWP _ _ _ _ _ ⟨[(0,⟨i64,a⟩),(1,⟨i64,b⟩)],[],0⟩ _;(repeat(first|apply zae|apply zac|apply zab|apply zad));refine zaa hX zaM rfl ?_ ?_
 ·trivial
 (repeat(first|apply zae|apply zac|apply zab|apply zad));refine AWP.loop (ι:=Nat×Nat) (fun p=>⟨[(0,⟨i64,(p.1:Int)⟩),(1,⟨i64,(p.2:Int)⟩)],[],0⟩) (fun p=>Nat.gcd p.1 p.2=Nat.gcd a.toNat b.toNat) (fun p=>p.2) (a.toNat,b.toNat) rfl ⟨⟨vI64 (Int.toNat_of_nonneg ha).symm,vI64 (Int.toNat_of_nonneg hb).symm,trivial⟩,trivial,rfl,rfl⟩ ?_;rintro ⟨x,y⟩ hg;have hg:Nat.gcd x y=Nat.gcd a.toNat b.toNat:=hg;(repeat(first|apply zae|apply zac|apply zab|apply zad));refine zaa hX zaM rfl ?_ ?_
 ·trivial
 refine zaf rfl (fun hc=>?_) (fun hc=>?_)
 ·have hc:((y:Int) != 0)=true:=hc;have hy:(y:Int)≠0:=by simpa using hc
  (repeat(first|apply zae|apply zac|apply zab|apply zad));refine zaa hX zaM rfl ?_ ?_
  ·exact hy
  (repeat(first|apply zae|apply zac|apply zab|apply zad));refine zaa hX zaM rfl ?_ ?_
  ·trivial
  (repeat(first|apply zae|apply zac|apply zab|apply zad));refine zaa hX zaM rfl ?_ ?_
  ·trivial
  have hy0:0 < y:=by omega
  refine⟨(y,x % y),?_,Nat.mod_lt _ hy0,⟨rfl,vI64 rfl,trivial⟩,trivial,rfl,rfl⟩;show Nat.gcd y (x % y)=_;rw[<-hg,Nat.gcd_comm y, <-Nat.gcd_rec,Nat.gcd_comm]
 ·have hc:((y:Int) != 0)=false:=hc;have hy:y=0:=by
   have:(y:Int)=0:=by simpa using hc
   omega
  apply zad;(repeat(first|apply zae|apply zac|apply zak|apply zad|apply zab|refine zaa hX zaM rfl trivial ?_|refine zaa hX zaM rfl id ?_|refine zaa hX zaM rfl ⟨id,id⟩ ?_));refine AWP.ret ⟨.inr rfl,zat rfl trivial rfl rfl ?_⟩;show (x:Int)=((Nat.gcd a.toNat b.toNat:Nat):Int);rw[<-hg,hy,Nat.gcd_zero_right]
theorem ze1 {a b:Bool} (ha:a=false) (hb:b=false):(bif a then true else b)=false:=by rw[ha,hb];rfl
def zsd:Ctr:={ args:=[cal],pre:=fun x=>[zgO x.1],res:=.bool,own:=none,out:=fun _=>true }
def kCv2:Kn:={ gmK with C:=[(154,cGcd2)] }
theorem zbU:KnOk Tryz.prog gmG kCv2:=zaM.with (.cons zth .nil)
end Go.Proofs.YtpeaigpfddalcaaGreatDoor
