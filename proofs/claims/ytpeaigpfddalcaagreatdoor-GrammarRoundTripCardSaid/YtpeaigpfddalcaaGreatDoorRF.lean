/-
  Texts of this claim, joined: what the statement's proof uses.
-/
import Derived.Test.YtpeaigpfddalcaaGreatDoorRE
set_option linter.unusedSimpArgs false
set_option linter.unusedVariables false
set_option maxRecDepth 100000
open Bool renaming and_eq_true -> zf,eq_iff_iff -> zL,or_eq_false_iff -> xu
open Go.Fence renaming wide -> yF
open Go.Proofs.YtpeaigpfddalcaaGreatDoor.AWP renaming go -> za,ret -> zm
open Go.Proofs.YtpeaigpfddalcaaGreatDoor.Tr renaming len_flat -> xg
open Go.RowKit.Below renaming refl -> zR
open Int renaming natCast_nonneg -> zd
open List renaming all_eq_true -> zN,getD_eq_getElem?_getD -> zy,getElem?_eq_getElem -> zC,length -> zh,length_append -> zg,length_cons -> zt,length_nil -> zW,length_singleton -> yv,mem_cons -> ya,mem_cons_of_mem -> yN,mem_cons_self -> yh,mem_singleton -> zv,mem_take_iff_getElem -> qf,take_of_length_le -> xI
open Nat renaming le_of_ble_eq_true -> zb,le_refl -> zj,le_trans -> zH,zero_le -> zl
open Go Go.RowKit
namespace Go.Proofs.YtpeaigpfddalcaaGreatDoor
section
attribute [local go_sem] Oper.semAt_some
theorem zjT {P:Program} {f:FuncId} {Q:Exit->Act->World->Prop} {a:Act} {w:World} {id:Nat} {c:Code} (h:zf4 P f c (fun e a w=>(e= .normal∨e= .ret)∧Q e a w) a w):zf4 P f (.block id c) Q a w:=by
 intro b k cs hb hro;have h0:(lone (b.atR a (.code (.block id c)::k)) cs w).fenced P yF:=fenced_wide P _;obtain⟨e,a1,w1,⟨he,hq⟩,harr⟩:=h b (.inBlock id::k) cs hb hro;rcases he with rfl|rfl
 ·exact⟨.normal,a1,w1,hq,.head h0 stepR_block (StepsIn.trans harr (.one (fenced_wide P _) stepR_inBlock))⟩
 ·exact⟨_,a1,w1,hq,.of_steps (.one h0 stepR_block) harr⟩
noncomputable def zqg:Ctr:={ args:=[.str],pre:=fun _=>[],res:=zsZ,own:=none,out:=fun x=>((za6 x.1).1,(za6 x.1).2.1,(za6 x.1).2.2,()) }
set_option maxHeartbeats 1000000 in
theorem zlr:CtrOk Tryz.prog gmH 19 zqg:=by
 refine⟨Tryz.call19,fun w O xs vs hO hr hp hG=>?_⟩;obtain⟨(s:List UInt8),_⟩:=xs;obtain⟨v1,r1,rfl,e1,rfl⟩:=hr;have e1: [v1]=[Value.string ⟨s.toArray⟩]∧s.length≤maxLen:=e1;obtain⟨e1,hmax⟩:=e1;cases e1;refine callsIn_wide.1 (ze8 (m:=1) Tryz.func19 rfl ?_);simp only[Tryz.ntmps19,List.size_toArray,zt,zW,Nat.reduceAdd,Nat.reduceSub,Array.replicate_succ,Array.replicate_zero,List.push_toArray,List.append_toArray,List.nil_append,List.cons_append];change zf4 _ _ _ (bodyPostM yF 1 Tryz.prog Tryz.f19 (znX w O (za6 s))) _ _;generalize hQ:bodyPostM yF 1 Tryz.prog Tryz.f19 _=Q;refine zcu (zcB (m:=1) ?_)
 gi_wp2
 refine zcu (zcB (m:=1) ?_)
 gi_wp2
 ·rename_i hlong;have hP:za6 s=([],0,2):=if_pos (by omega);rw[<-hQ,hP];refine⟨_,zpm (g2:=w.heap.size) (g3:=w.heap.size+1) (g4:=w.heap.size+1+1) (u:=.slice none 0 0) (x:=0) (y:=2) (t2:=tD) (t3:=3) (t4:=25) rfl rfl rfl rfl ?_ ?_ ?_,_,rfl,((((zR _ w).alloc (zj _) _).alloc (by simp) _).alloc (by simp;omega) _),zoM (acc:=[]) ⟨_,rfl,.inl ⟨rfl,none,0,rfl,zl _⟩⟩⟩
  ·exact zaV _ (zaV _ (zb1 _ rfl))
  ·exact zaV _ (zb1 _ (by simp))
  ·exact zb1 _ (by simp)
 rename_i hshort;have hlen:s.length≤1048576:=by omega
 refine zcu (zcB (m:=1) ?_)
 gi_wp2
 refine zcu (zcB (m:=1) ?_)
 gi_wp2
 refine zcu (zcu (zcB (m:=1) ?_))
 gi_wp2
 refine⟨trivial,(callsIn_wide.2 (zi7 _ _ _)).mono ?_⟩;rintro e w' ⟨rfl,rfl⟩
 gi_wp2
 refine zjT ?_;obtain⟨w4,hw4⟩:∃ w4:World,w4=(((((w.alloc (.cells #[.slice none 0 0] tD)).alloc (.cells #[.int .i64 0] 3)).alloc (.cells #[.int .i64 0] 25)).alloc (.cells #[.slice none 0 0] tD)).alloc (.cells #[.int .i64 0] 3)):=⟨_,rfl⟩;rw[<-hw4, <-hQ];have hs4:w4.heap.size=w.heap.size+5:=by rw[hw4];simp
 have hb4:Below w.heap.size w w4:=by rw[hw4];exact ((((((zR _ w).alloc (zj _) _).alloc (by simp) _).alloc (by simp;omega) _).alloc (by simp;omega) _).alloc (by simp;omega) _)
 have b0:w4.heap[w.heap.size]? =some (.cells #[.slice none 0 0] tD (0,0)):=by rw[hw4];exact zaV _ (zaV _ (zaV _ (zaV _ (zb1 _ rfl))))
 have b1:w4.heap[w.heap.size+1]? =some (.cells #[.int .i64 0] 3 (0,0)):=by rw[hw4];exact zaV _ (zaV _ (zaV _ (zb1 _ (by simp))))
 have b2:w4.heap[w.heap.size+2]? =some (.cells #[.int .i64 0] 25 (0,0)):=by rw[hw4];exact zaV _ (zaV _ (zb1 _ (by simp)))
 have b3:w4.heap[w.heap.size+3]? =some (.cells #[.slice none 0 0] tD (0,0)):=by rw[hw4];exact zaV _ (zb1 _ (by simp))
 have b4:w4.heap[w.heap.size+4]? =some (.cells #[.int .i64 0] 3 (0,0)):=by rw[hw4];exact zb1 _ (by simp)
 have hb5:Below w.heap.size w (itW w4 ⟨s.toArray⟩ ⟨#[10]⟩):=hb4.trans ((((zR _ w4).alloc (zj _) _).alloc (by simp) _).alloc (by simp;omega) _ |>.mono hb4.size);have i0:(itW w4 ⟨s.toArray⟩ ⟨#[10]⟩).heap[w.heap.size+5]? =some (.cells #[.string ⟨s.toArray⟩] 9 (0,0)):=zaV _ (zaV _ (zb1 _ hs4));have i1:(itW w4 ⟨s.toArray⟩ ⟨#[10]⟩).heap[w.heap.size+6]? =some (.cells #[.string ⟨#[10]⟩] 9 (0,0)):=zaV _ (zb1 _ (by simp[hs4]));have i2:(itW w4 ⟨s.toArray⟩ ⟨#[10]⟩).heap[w.heap.size+7]? =some (.cells #[.int .i64 0] 3 (0,0)):=zb1 _ (by simp[hs4]);have hs5:(itW w4 ⟨s.toArray⟩ ⟨#[10]⟩).heap.size=w.heap.size+8:=by simp[itW,hs4]
 have hit:itV w4= .func (.func 145) #[] #[.pointer (some ⟨w.heap.size+6,0,none⟩),.pointer (some ⟨w.heap.size+5,0,none⟩),.pointer (some ⟨w.heap.size+7,0,none⟩)]:=by unfold itV;rw[hs4]
 have hl:∀ g (o:Obj),w4.heap[g]? =some o->(itW w4 ⟨s.toArray⟩ ⟨#[10]⟩).heap[g]? =some o:=fun g o hg=>zaV _ (zaV _ (zaV _ hg));exact zpn rfl hO hG hlen hs5 hb5 (hl _ _ b0) (hl _ _ b1) (hl _ _ b2) (hl _ _ b3) (hl _ _ b4) i0 i1 i2 rfl rfl rfl rfl rfl rfl hit rfl
end
section
set_option maxRecDepth 10000
section
variable {s:List UInt8}
theorem zmd {lo hi:Int} {z:Bool} {x:Int} (h1:lo≤x) (h2:x≤hi) (h3:z=true∨x≠0):∀ {l:List Int} {last:Int},Ris lo hi z last l->l.getLast?.getD last < x->Ris lo hi z last (l++ [x])
 | [],_,_,h=>⟨h,h1,h2,h3,trivial⟩
 |y::r,last,h,hx=>by
  obtain⟨a,b,c,d,e⟩:=h;refine⟨a,b,c,d,zmd h1 h2 h3 e ?_⟩;rw[List.getLast?_cons]at hx;exact hx
end
theorem zsq {lo hi:Int} {z:Bool}:∀ {l:List Int} {last:Int},Ris lo hi z last l->∀ i,i < l.length->(lo≤l.getD i 0∧l.getD i 0≤hi)∧(0 < i->l.getD (i - 1) 0 < l.getD i 0)∧(z=true∨l.getD i 0≠0)
 | [],_,_,i,hi=>absurd hi (Nat.not_lt_zero _)
 |x::r,last,h,i,hi=>by
  obtain⟨a,b,c,d,e⟩:=h;cases i with
  |zero=>exact⟨⟨b,c⟩,fun h=>absurd h (Nat.lt_irrefl _),d⟩
  |succ i=>
   obtain⟨h1,h2,h3⟩:=zsq e i (by rw[zt]at hi;omega);refine⟨h1,fun _=>?_,h3⟩;cases i with
   |zero=>
    cases r with
    |nil=>rw[zt,zW]at hi;omega
    |cons y r=>exact e.1
   |succ i=>exact h2 (by omega)
theorem zhA {l:List Int} {lo hi:Int} {z:Bool} (h0:¬ (lo=0∧hi=0)) (hz:z=decide (¬ lo < 0)) (hne:l≠ []) (h:Ris lo hi z (lo - 1) l):zaN l (lo,hi,())=true:=by
 have hz0:zgS (lo,hi,())=false:=by
  rw[Bool.eq_false_iff];intro e;unfold zgS at e;rw[zf,beq_iff_eq,beq_iff_eq]at e;exact h0 e
 unfold zaN;rw[hz0,cond_false,zf,decide_eq_true_iff,zN];refine⟨fun i hi=>?_,by have:=List.length_pos_iff.2 hne;omega⟩;obtain⟨⟨a,b⟩,c,d⟩:=zsq h i (List.mem_range.1 hi);rw[Bool.not_eq_true'];unfold zef;simp only[xu,Bool.not_eq_false',zaK,Bool.and_eq_false_iff,decide_eq_false_iff_not,beq_eq_false_iff_ne];refine⟨⟨⟨a,b⟩,?_⟩,?_⟩
 ·by_cases e:0 < i
  ·exact .inr (by have:=c e;omega)
  ·exact .inl e
 ·rcases d with d|d
  ·rw[hz]at d;exact .inr (of_decide_eq_true d)
  ·exact .inl d
theorem and4 {a b c d:Bool} (ha:a=true) (hb:b=true) (hc:c=true) (hd:d=true):((true&&a)&&(b&&(true&&(c&&d))))=true:=by rw[ha,hb,hc,hd];rfl
theorem zcW {n lo hi:Int} (h:lo≤n∧n≤hi):inB n lo hi=true:=zaK.2 h
def tx_sA:List UInt8:=[100,97,121,115,32,55,32,51,32,111,114,32,40,64,102,114,101,101,32,115,104,105,102,116,32,45,49,41]
def tx_sB:List UInt8:=[35,32,104,111,108,105,100,97,121,115,10,102,114,101,101,32,61,32,119,101,101,107,100,97,121,115,32,40,53,32,54,41,10,10,111,114,32,61,32,64,102,114,101,101,32,115,104,105,102,116,32,49]
def tx_sC:List UInt8:=[102,114,101,101,32,119,101,101,107,100,97,121,115,32,40,53,41]
def zjZ:List UInt8:=[100,97,121,115,32,55,32,51,32,111,114,32,64,102,114,101,101,32,115,104,105,102,116,32,45,49]
def zqI:List UInt8:=[102,114,101,101,32,61,32,119,101,101,107,100,97,121,115,32,40,53,32,54,41,10,111,114,32,61,32,64,102,114,101,101,32,115,104,105,102,116,32,49,10]
def zs5:List UInt8:=[100,97,121,115,32,48,32,51]
def zs4:List UInt8:=[109,111,110,116,104,115,32,48,32,40,50,32,50,41]
def zs3:List UInt8:=[100,97,121,115,32,48,55,32,51]
def zs2:List UInt8:=[119,101,101,107,100,97,121,115,32,40,41]
def zs1:List UInt8:=[100,97,121,115,32,55]
def zs0:List UInt8:=[]
def zfv:List UInt8:=[102,114,101,101]
def zn3:List UInt8:=[111,114]
def sanR:List Nd:=[(1,0,0,0,7,3,[],[],()),(18,0,0,0,0,0,[],zfv,()),(11,0,1,0,-1,0,[],[],()),(9,0,0,2,0,0,[],[],())]
def sanL:List De:=[(zfv,[(5,0,0,0,0,0,[5,6],[],())],()),(zn3,[(18,0,0,0,0,0,[],zfv,()),(11,0,0,0,1,0,[],[],())],())]
theorem sanA:zbB tx_sA=(sanR,0,0):=by kernel_rfl
theorem san1:zbB zs5=([],5,1):=by kernel_rfl
theorem san2:zbB zs4=([],12,1):=by kernel_rfl
theorem san3:zbB zs3=([],5,3):=by kernel_rfl
theorem san4:zbB zs2=([],10,3):=by kernel_rfl
theorem san5:zbB zs1=([],6,3):=by kernel_rfl
theorem san6:zbB zs0=([],0,3):=by kernel_rfl
theorem sanF:fmtS sanR=(zjZ,0):=by kernel_rfl
theorem sanN:fmtS []=([],1):=by kernel_rfl
theorem sanG:zbs sanL=(zqI,0):=by kernel_rfl
def ztC (y:List UInt8):Bool:=(!decide (y.take 1=[35]))&&decide (zbL isWh y < y.length)
theorem zrr (y:List UInt8):zhB y=ztC y:=by
 unfold zhB ztC zkC;rw[zds];have:(decide (zh ([35]:List UInt8)≤y.length)&&decide (y.take (zh ([35]:List UInt8))=[35]))=decide (y.take 1=[35]):=by
  cases y with
  |nil=>rfl
  |cons c q=>rw[decide_eq_true (by simp:zh ([35]:List UInt8)≤(c::q).length),Bool.true_and];rfl
 rw[this]
def zqO (y:List UInt8) (fr:Nat) (acc:List De):Except (Int×Int) (List De):=
 if ztC y=true then
  if 4000 < y.length then .error ((fr:Int),2)
  else match zgT y ((acc.length:Nat):Int) with
   | .ok d=>.ok (acc++ [d])
   | .error e=>if e.2=0 then .ok acc else .error ((fr:Int)+e.1,e.2)
 else .ok acc
theorem zqN (y:List UInt8) (fr:Nat) (acc:List De):zie y fr acc=zqO y fr acc:=by
 unfold zie zqO;rw[zrr]
 all_goals rfl
def libC:List (List UInt8)->Nat->List De->List De×Int×Int
 | [],_,acc=>(acc,0,0)
 |y::r,fr,acc=>match zqO y fr acc with
  | .error e=>([],e.1,e.2)
  | .ok acc'=>libC r (fr+y.length+1) acc'
theorem zpp:∀ (l:List (List UInt8)) (fr:Nat) (acc:List De),libK l fr acc=libC l fr acc
 | [],_,_=>rfl
 |y::r,fr,acc=>by
  unfold libK libC;rw[zqN];cases zqO y fr acc with
  |error e=>rfl
  |ok a=>exact zpp r _ a
def zkl (s:List UInt8):List De×Int×Int:=if 1048576 < s.length then ([],0,2) else libC (segs s) 0 []
theorem zgD (s:List UInt8):za6 s=zkl s:=by
 unfold za6 zkl;rw[zpp]
theorem sanB:za6 tx_sB=(sanL,0,0):=(zgD _).trans (by kernel_rfl)
theorem sanC:za6 tx_sC=([],5,3):=(zgD _).trans (by kernel_rfl)
def zcJ (s:List UInt8) (at' e:Int):Bool:=(((((zbB s).1.length:Nat):Int)==0)&&((zbB s).2.1==at'))&&((zbB s).2.2==e)
def zsE:Ctr:={ args:=[.str,i64,i64],pre:=fun _=>[],res:=.bool,own:=none,out:=fun x=>zcJ x.1 x.2.1 x.2.2.1 }
def kPa:Kn:={ gmK with C:=[(16,zmV)] }
theorem zmv:KnOk Tryz.prog gmH kPa:=zai.with (.cons zjl .nil)
theorem zqH:CtrOk Tryz.prog gmH 42 zsE:=by
 refine zao (K:=kPa) zmv Tryz.func42 rfl rfl Tryz.call42 rfl (by decide) (by intro h;cases h) ?_;rintro w0 X hX ⟨(s:List UInt8),(at':Int),(e:Int),_⟩ hp;change AWP _ _ _ _ _ ⟨[(0,⟨.str,s⟩),(1,⟨i64,at'⟩),(2,⟨i64,e⟩)],[],0⟩ _;refine za (za ?_);refine zaa hX zmv rfl ?_ ?_
 ·trivial
 refine za (za ?_);refine zaa hX zmv rfl ?_ ?_
 ·trivial
 refine za (za ?_);refine zaa hX zmv rfl ?_ ?_
 ·repeat'(first|exact trivial|assumption|(refine⟨?_,?_⟩)|(intro _)|exact zb rfl|exact zd _|(simp_all [allP];done))
 refine zm ⟨.inr rfl,zat rfl trivial rfl rfl ?_⟩;show (bif (bif ((((zbB s).1.length:Nat):Int)==0) then (zbB s).2.1==at' else false) then (zbB s).2.2==e else false)=zcJ s at' e;rw[zcS,zcS];rfl
def zqf:Ctr:={ args:=[],pre:=fun _=>[],res:=.bool,own:=none,out:=fun _=>true }
noncomputable def kSan:Kn:={ gmK with C:=[(16,zmV),(24,cFmt),(19,zqg),(26,cFmtL),(18,zun),(42,zsE)] }
theorem zdc:KnOk Tryz.prog gmH kSan:=zai.with (.cons zjl <| .cons zhS <| .cons zlr <| .cons zpU <| .cons zoz <| .cons zqH .nil)
theorem vStr {x y:List UInt8} (h:x=y):(⟨.str,x⟩:V)=⟨.str,y⟩:=by rw[h]
theorem vRul {x y:List Nd} (h:x=y):(⟨.slice nd,x⟩:V)=⟨.slice nd,y⟩:=by rw[h]
theorem vDes {x y:List De} (h:x=y):(⟨.slice de,x⟩:V)=⟨.slice de,y⟩:=by rw[h]
set_option maxHeartbeats 2000000 in
theorem zoy:CtrOk Tryz.prog gmH 15 zqf:=by
 refine zao (K:=kSan) zdc Tryz.func15 rfl rfl Tryz.call15 rfl (by decide) (by intro h;cases h) ?_;rintro w0 X hX _ hp;change AWP _ _ _ _ _ ⟨[],[],0⟩ _;refine za (za ?_);refine zaa hX zdc rfl ?_ ?_
 ·trivial
 refine za (za ?_);refine zaa hX zdc rfl ?_ ?_
 ·trivial
 refine zaq (σ':=⟨[(1,⟨.slice nd,sanR⟩),(3,⟨i64,(0:Int)⟩)],[],0⟩) ⟨⟨vRul (congrArg (fun x=>x.1) sanA),vI64 (congrArg (fun x=>x.2.2) sanA),trivial⟩,trivial,rfl,rfl⟩ ?_;refine za (za ?_);refine zaa hX zdc rfl ?_ ?_
 ·trivial
 refine AWP.frz hX 4 ?_;refine zaq (σ':=⟨[(1,⟨.slice nd,sanR⟩),(3,⟨i64,(0:Int)⟩),(4,⟨.slice nd,sanR⟩)],[],1⟩) ⟨⟨rfl,rfl,rfl,trivial⟩,trivial,rfl,rfl⟩ ?_;refine za (za ?_);refine zaa hX zdc rfl ?_ ?_
 ·trivial
 refine zaq (σ':=⟨[(1,⟨.slice nd,sanR⟩),(3,⟨i64,(0:Int)⟩),(4,⟨.slice nd,sanR⟩),(5,⟨.str,zjZ⟩),(6,⟨i64,(0:Int)⟩)],[],1⟩) ⟨⟨rfl,rfl,rfl,vStr (congrArg (fun x=>x.1) sanF),vI64 (congrArg (fun x=>x.2) sanF),trivial⟩,trivial,rfl,rfl⟩ ?_;refine za (za ?_);refine zaa hX zdc rfl ?_ ?_
 ·trivial
 refine zaq (σ':=⟨[(1,⟨.slice nd,sanR⟩),(3,⟨i64,(0:Int)⟩),(4,⟨.slice nd,sanR⟩),(5,⟨.str,zjZ⟩),(6,⟨i64,(0:Int)⟩),(7,⟨.slice de,sanL⟩),(9,⟨i64,(0:Int)⟩)],[],1⟩) ⟨⟨rfl,rfl,rfl,rfl,rfl,vDes (congrArg (fun x=>x.1) sanB),vI64 (congrArg (fun x=>x.2.2) sanB),trivial⟩,trivial,rfl,rfl⟩ ?_;refine za (za ?_);refine zaa hX zdc rfl ?_ ?_
 ·trivial
 refine zaq (σ':=⟨[(1,⟨.slice nd,sanR⟩),(3,⟨i64,(0:Int)⟩),(4,⟨.slice nd,sanR⟩),(5,⟨.str,zjZ⟩),(6,⟨i64,(0:Int)⟩),(7,⟨.slice de,sanL⟩),(9,⟨i64,(0:Int)⟩),(11,⟨i64,(5:Int)⟩),(12,⟨i64,(3:Int)⟩)],[],1⟩) ⟨⟨rfl,rfl,rfl,rfl,rfl,rfl,rfl,vI64 (congrArg (fun x=>x.2.1) sanC),vI64 (congrArg (fun x=>x.2.2) sanC),trivial⟩,trivial,rfl,rfl⟩ ?_;refine za (za ?_);refine zaa hX zdc rfl ?_ ?_
 ·trivial
 refine zaq (σ':=⟨[(1,⟨.slice nd,sanR⟩),(3,⟨i64,(0:Int)⟩),(4,⟨.slice nd,sanR⟩),(5,⟨.str,zjZ⟩),(6,⟨i64,(0:Int)⟩),(7,⟨.slice de,sanL⟩),(9,⟨i64,(0:Int)⟩),(11,⟨i64,(5:Int)⟩),(12,⟨i64,(3:Int)⟩),(14,⟨i64,(1:Int)⟩)],[],1⟩) ⟨⟨rfl,rfl,rfl,rfl,rfl,rfl,rfl,rfl,rfl,vI64 (congrArg (fun x=>x.2) sanN),trivial⟩,trivial,rfl,rfl⟩ ?_;refine za (za ?_);refine zaa hX zdc rfl ?_ ?_
 ·repeat'(first|exact trivial|assumption|(refine⟨?_,?_⟩)|(intro _)|exact zb rfl|exact zd _|(simp_all [allP];done))
 refine zae rfl (fun hb=>?_) (fun _=>?_)
 ·have hb:false=true:=hb;cases hb
 apply zab;refine za (za ?_);refine zaa hX zdc rfl ?_ ?_
 ·trivial
 refine zaq (σ':=⟨[(1,⟨.slice nd,sanR⟩),(4,⟨.slice nd,sanR⟩),(5,⟨.str,zjZ⟩),(7,⟨.slice de,sanL⟩),(15,⟨.str,zqI⟩),(16,⟨i64,(0:Int)⟩)],[],1⟩) ⟨⟨rfl,rfl,rfl,rfl,vStr (congrArg (fun x=>x.1) sanG),vI64 (congrArg (fun x=>x.2) sanG),trivial⟩,trivial,rfl,rfl⟩ ?_;have hs:zlk sanR sanR=true:=zet.2 rfl;have b0:(0:Int) < ((sanL.length:Nat):Int):=by decide
 have b1:(1:Int) < ((sanL.length:Nat):Int):=by decide
 refine za (za ?_);refine zaa hX zdc rfl ?_ ?_
 ·repeat'(first|exact trivial|assumption|exact b0|exact b1|(refine⟨?_,?_⟩)|(intro _)|decide)
 refine zaq (σ':=⟨[(17,⟨.bool,true⟩)],[],1⟩) ⟨⟨zcv ?_,trivial⟩,trivial,rfl,rfl⟩ ?_
 ·show (bif (bif (bif (bif (bif zlk sanR sanR then eqb .str zjZ zjZ else false) then eqb .str zfv zfv else false) then eqb .str zn3 zn3 else false) then ((0:Int)==0) else false) then eqb .str zqI zqI else false)=true;rw[hs,zeY,zeY,zeY,zeY];rfl
 have w1:zcJ zs5 5 1=true:=by unfold zcJ;rw[san1];rfl
 have w2:zcJ zs4 12 1=true:=by unfold zcJ;rw[san2];rfl
 have w3:zcJ zs3 5 3=true:=by unfold zcJ;rw[san3];rfl
 have w4:zcJ zs2 10 3=true:=by unfold zcJ;rw[san4];rfl
 have w5:zcJ zs1 6 3=true:=by unfold zcJ;rw[san5];rfl
 have w6:zcJ zs0 0 3=true:=by unfold zcJ;rw[san6];rfl
 refine za (za ?_);refine zaa hX zdc rfl ?_ ?_
 ·repeat'(first|exact trivial|assumption|(refine⟨?_,?_⟩)|(intro _))
 refine zm ⟨.inr rfl,zat rfl trivial rfl rfl ?_⟩;show (bif (bif (bif (bif (bif (bif true then zcJ zs5 5 1 else false) then zcJ zs4 12 1 else false) then zcJ zs3 5 3 else false) then zcJ zs2 10 3 else false) then zcJ zs1 6 3 else false) then zcJ zs0 0 3 else false)=true;rw[w1,w2,w3,w4,w5,w6];rfl
set_option maxRecDepth 10000
theorem ziI {s:List UInt8} {t:Tr} (hs:s.length≤4000) (h:zeF s= .ok t):zbB s=(t.flat 0,0,0):=by
 unfold zbB;rw[if_neg (by omega),h]
def zgP (D:Nat):RCtr:={ self:=mkr,args:=[i64,i64],inv:=fun _ _=>True,pre:=fun m xs=>[0≤xs.1,xs.1 < (D:Int),mMax xs.1.toNat≤10000,0≤mkU m∧mkU m+20 * ((mMax xs.1.toNat:Nat):Int)≤500000,0≤mkN m∧mkN m≤1000000,0≤mkS m∧mkS m+((mMax xs.1.toNat:Nat):Int)≤500000,0 < xs.2.1∧xs.2.1≤1000000],res:=.slice nd,out:=fun m xs=>(mTr xs.2.1 xs.1.toNat m).1.flat 0,post:=fun m xs=>(mTr xs.2.1 xs.1.toNat m).2 }
theorem zpc:∀ d:Nat,d≤mMax d
 |0=>zl _
 |d+1=>by have:=zpc d;show d+1≤2 * mMax d+1;omega
theorem zrp {ids:Int} {d:Nat} {m:Mk} (h:zgh d (zal (zaI m) 14)=true):mTr ids d m=(.leaf (zdm (zal (zaI m) 14).2 ids).1,(zdm (zal (zaI m) 14).2 ids).2):=by
 cases d with
 |zero=>rfl
 |succ d=>rw[mTr];exact if_pos h
theorem mTr_go {ids:Int} {d:Nat} {m:Mk} (h:¬ zgh (d+1) (zal (zaI m) 14)=true):mTr ids (d+1) m=if two (8+(zal (zaI m) 14).1)=true then
 (.bin (8+(zal (zaI m) 14).1,0,0,0,(mCnt (8+(zal (zaI m) 14).1) (mTr ids d (zal (zaI m) 14).2).2).1,0,[],[],()) (mTr ids d (zal (zaI m) 14).2).1 (mTr ids d (mCnt (8+(zal (zaI m) 14).1) (mTr ids d (zal (zaI m) 14).2).2).2).1,(mTr ids d (mCnt (8+(zal (zaI m) 14).1) (mTr ids d (zal (zaI m) 14).2).2).2).2)
 else (.un (mOne (8+(zal (zaI m) 14).1) ids (mTr ids d (zal (zaI m) 14).2).2).1 (mTr ids d (zal (zaI m) 14).2).1,(mOne (8+(zal (zaI m) 14).1) ids (mTr ids d (zal (zaI m) 14).2).2).2):=by
 rw[mTr];exact if_neg h
def kRu (D:Nat):Kn:={ gmK with C:=[(94,cTwo),(97,zuo),(95,zuv)],R:=[(92,zsc),(96,zlX),(93,zsL),(58,zgP D)] }
theorem kRu_ok {D:Nat} (ih:zfb Tryz.prog gmG 58 (zgP D)):KnOk Tryz.prog gmG (kRu D):=
 { zaE.with (.cons zn4 (.cons zoX (.cons zqn .nil))) with r:=.cons zlq (fun _ _=>trivial) (.cons zkc (fun _ _=>trivial) (.cons zrk (fun _ _=>trivial) (.cons ih (fun _ _=>trivial) .nil))) }
theorem zux {x y:Mk} (h:x=y):some (OObj.box mkr x)=some (OObj.box mkr y):=by rw[h]
abbrev sRu (m:Mk) (d:Nat) (ids k:Int) (n:Nd) (a:List Nd):AS:=⟨[(0,⟨.optr mkr,⟨0,mkr,.here⟩⟩),(1,⟨i64,(d:Int)⟩),(2,⟨i64,ids⟩),(8,⟨.optr nd,⟨1,nd,.here⟩⟩),(9,⟨.slice nd,a⟩)],[(0,some (.box mkr m)),(1,some (.box nd n))],2⟩
theorem zoG (D:Nat) (ih:zfb Tryz.prog gmG 58 (zgP D)):zfb Tryz.prog gmG 58 (zgP (D+1)):=by
 have hK:=kRu_ok ih;refine zd9 (K:=kRu D) hK Tryz.func58 rfl rfl Tryz.call58 rfl (zb rfl) (fun w w' g hg h hk=>trivial) ?_;rintro w0 O g hX hinv (m:Mk) ⟨(d:Int),(ids:Int),_⟩ hp;obtain⟨d,rfl⟩:∃ e:Nat,d=(e:Int):=⟨d.toNat,by have:0≤d:=hp.1;omega⟩;obtain⟨h0,hD,hM,⟨h1,h2⟩,⟨h3,h4⟩,⟨h5,h6⟩,h7,h8⟩:0≤(d:Int)∧(d:Int) < ((D+1:Nat):Int)∧mMax d≤10000∧(0≤mkU m∧mkU m+20 * ((mMax d:Nat):Int)≤500000)∧(0≤mkN m∧mkN m≤1000000)∧(0≤mkS m∧mkS m+((mMax d:Nat):Int)≤500000)∧0 < ids∧ids≤1000000:=hp;have hout:(zgP (D+1)).out m ((d:Int),ids,())=(mTr ids d m).1.flat 0:=rfl;have hpost:(zgP (D+1)).post m ((d:Int),ids,())=(mTr ids d m).2:=rfl;change AWP _ _ _ _ _ ⟨[(0,⟨.optr mkr,⟨0,mkr,.here⟩⟩),(1,⟨i64,(d:Int)⟩),(2,⟨i64,ids⟩)],[(0,some (.box mkr m))],1⟩ _;obtain⟨R,hRR⟩:∃ R,R=mTr ids d m:=⟨_,rfl⟩;have i1:inR .i64 (mkS m+1):=zan (by omega) (by omega);refine za (za ?_);refine zaa hX hK rfl ?_ ?_
 ·trivial
 refine za (za ?_);refine zaa hX hK rfl ?_ ?_
 ·exact i1
 have g1:0≤mkU (zaI m):=h1;have g2:mkU (zaI m)≤1000000:=by show mkU m≤_;omega
 refine zaq (σ':=⟨[(0,⟨.optr mkr,⟨0,mkr,.here⟩⟩),(1,⟨i64,(d:Int)⟩),(2,⟨i64,ids⟩)],[(0,some (.box mkr (zaI m)))],1⟩) ⟨⟨rfl,rfl,rfl,trivial⟩,⟨rfl,trivial⟩,rfl,rfl⟩ ?_;have hge:=(zlH m).trans (zbp (zaI m) 14).ge;have hk:=zaJ (zaI m) (n:=14) (by decide);refine za (za ?_);refine zaa hX hK rfl ?_ ?_
 ·repeat'(first|exact trivial|assumption|exact g1|exact g2|(refine⟨?_,?_⟩)|(intro _)|exact zb rfl|exact zd _|(simp_all [allP];done))
 have hstop:=@zrp ids d m;rw[<-hRR]at hstop;have hgo:=@mTr_go ids (d - 1) m;obtain⟨p,hP⟩:∃ p,p=zal (zaI m) 14:=⟨_,rfl⟩;rw[<-hP]at hstop hgo hge hk;refine zaq (σ':=⟨[(0,⟨.optr mkr,⟨0,mkr,.here⟩⟩),(1,⟨i64,(d:Int)⟩),(2,⟨i64,ids⟩),(7,⟨i64,p.1⟩)],[(0,some (.box mkr p.2))],1⟩) ⟨⟨rfl,rfl,rfl,by rw[hP];rfl,trivial⟩,⟨zux (by rw[hP];rfl),trivial⟩,rfl,rfl⟩ ?_;clear hP;obtain⟨(k:Int),(m1:Mk)⟩:=p;have hk:0≤k∧k < 14:=hk;obtain⟨e1,e2,⟨e3,e4⟩,e5,e6⟩:MkGe (0+1) (1+0) m m1:=hge;have hM1:1≤mMax d:=by cases d with
  |zero=>exact zj _
  |succ d=>show 1≤2 * mMax d+1;omega
 have hstop:zgh d (k,m1)=true->R=(.leaf (zdm m1 ids).1,(zdm m1 ids).2):=hstop;have hq:(bif (bif (bif decide ((d:Int)≤0) then true else decide (mkU m1 > (((mkD m1).length:Nat):Int))) then true else decide (mkS m1 > 30)) then true else decide (k≥10))=zgh d (k,m1):=by
  rw[b_or,b_or,b_or];unfold zgh;have:decide ((d:Int)≤0)=decide (d=0):=decide_eq_decide.2 (by omega);rw[this]
 change AWP _ _ _ _ _ ⟨[(0,⟨.optr mkr,⟨0,mkr,.here⟩⟩),(1,⟨i64,(d:Int)⟩),(2,⟨i64,ids⟩),(7,⟨i64,k⟩)],[(0,some (.box mkr m1))],1⟩ _;(repeat(first|apply zaf|apply zab|apply zac|apply zad));refine AWP.draw dM hX hK 24 (by kernel_rfl) rfl rfl ?_ ?_ ?_
 ·repeat'(first|exact trivial|assumption|(refine⟨?_,?_⟩)|(intro _)|exact zb rfl|exact zd _|(simp_all [allP];done))
 ·repeat'(first|exact trivial|assumption|(refine⟨?_,?_⟩)|(intro _)|exact zb rfl|exact zd _|(simp_all [allP];done))
 refine zae rfl (fun hc=>?_) (fun hc=>?_)
 ·have hc:=hq.symm.trans hc;have hR:=hstop hc;have j1:0≤mkU m1:=by omega
  have j2:mkU m1≤800000:=by omega
  have j3:0≤mkN m1:=by omega
  have j4:mkN m1≤1000000:=by omega
  refine za (za ?_);refine zaa hX hK rfl ?_ ?_
  ·repeat'(first|exact trivial|assumption|exact j1|exact j2|exact j3|exact j4|exact h7|exact h8|(refine⟨?_,?_⟩)|(intro _)|exact zb rfl|exact zd _|(simp_all [allP];done))
  refine AWP.frz hX 6 ?_;refine zm ⟨.inr rfl,?_,zat rfl trivial rfl rfl ?_⟩
  ·show some (OObj.box mkr (zdm m1 ids).2)=some (OObj.box mkr (mTr ids d m).2);rw[<-hRR,hR]
  ·show [(zdm m1 ids).1]=(mTr ids d m).1.flat 0;rw[<-hRR,hR];rfl
 have hc:=hq.symm.trans hc;have hd0:d≠0:=fun h=>by
  have:zgh d (k,m1)=true:=by unfold zgh;rw[decide_eq_true h];rfl
  rw[this]at hc;cases hc
 obtain⟨d,rfl⟩:∃ e,d=e+1:=⟨d - 1,by omega⟩;have hk10:k < 10:=by
  unfold zgh at hc;simp only[xu,decide_eq_false_iff_not]at hc;have:=hc.2;omega
 have hR:=hgo (by rw[show d+1 - 1+1=d+1 by omega,hc];decide);rw[show d+1 - 1=d by omega, <-hRR]at hR;clear hgo hstop hq hc;have hR:R=if two (8+k)=true then (.bin (8+k,0,0,0,(mCnt (8+k) (mTr ids d m1).2).1,0,[],[],()) (mTr ids d m1).1 (mTr ids d (mCnt (8+k) (mTr ids d m1).2).2).1,(mTr ids d (mCnt (8+k) (mTr ids d m1).2).2).2)
  else (.un (mOne (8+k) ids (mTr ids d m1).2).1 (mTr ids d m1).1,(mOne (8+k) ids (mTr ids d m1).2).2):=hR
 have hMM:mMax (d+1)=2 * mMax d+1:=rfl;have n1:0≤((d+1:Nat):Int) - 1:=by omega
 have n2:((d+1:Nat):Int) - 1 < (D:Int):=by omega
 have n3:(((d+1:Nat):Int) - 1).toNat=d:=by omega
 have n4:mMax (((d+1:Nat):Int) - 1).toNat≤10000:=by rw[n3];omega
 have n5:0≤mkU m1∧mkU m1+20 * ((mMax (((d+1:Nat):Int) - 1).toNat:Nat):Int)≤500000:=by rw[n3];omega
 have n6:0≤mkN m1∧mkN m1≤1000000:=by omega
 have n7:0≤mkS m1∧mkS m1+((mMax (((d+1:Nat):Int) - 1).toNat:Nat):Int)≤500000:=by rw[n3];omega
 have n8:0 < ids∧ids≤1000000:=⟨h7,h8⟩;have n9:inR .i64 (((d+1:Nat):Int) - 1):=zan (by omega) (by have:=zpc d;omega);have n10:inR .i64 (8+k):=zan (by omega) (by omega);refine za (za ?_);refine zaa hX hK rfl ?_ ?_
 ·exact n10
 refine za (za ?_);refine zaa hX hK rfl ?_ ?_
 ·exact⟨n9,n1,n2,n4,n5,n6,n7,n8⟩
 refine zaq (σ':=sRu (mTr ids d m1).2 (d+1) ids (8+k) (8+k,0,0,0,0,0,[],[],()) ((mTr ids d m1).1.flat 0)) ⟨⟨rfl,rfl,rfl,rfl,by show (⟨.slice nd,(mTr ids (((d+1:Nat):Int) - 1).toNat m1).1.flat 0⟩:V)=_;rw[n3],trivial⟩,⟨zux (by show (mTr ids (((d+1:Nat):Int) - 1).toNat m1).2=_;rw[n3]),rfl,trivial⟩,rfl,rfl⟩ ?_;have sh:=zmo ids d m1 n6.1;have sz:=zfL ids d m1;have ge:=zkr ids d m1;generalize mTr ids d m1=A at *;obtain⟨(a:Tr),(m2:Mk)⟩:=A;have sh:TrSh a:=sh;have sz:a.size≤mMax d:=sz;obtain⟨f1,f2,⟨f3,f4⟩,f5,f6⟩:MkGe (20 * mMax d) (mMax d) m1 m2:=ge;have sa:=zdP a;have la:=xg a 0;have hR:R=if two (8+k)=true then (.bin (8+k,0,0,0,(mCnt (8+k) m2).1,0,[],[],()) a (mTr ids d (mCnt (8+k) m2).2).1,(mTr ids d (mCnt (8+k) m2).2).2)
  else (.un (mOne (8+k) ids m2).1 a,(mOne (8+k) ids m2).2):=hR
 show AWP _ _ _ _ _ (sRu m2 (d+1) ids (8+k) (8+k,0,0,0,0,0,[],[],()) (a.flat 0)) _;generalize hkk:8+k=c at *;have hc1:8≤c∧c≤17:=by omega
 have w1:0≤mkU m2:=by omega
 have w2:mkU m2≤1000000:=by omega
 have w3:mkU m2≤900000:=by omega
 refine za (za ?_);refine zaa hX hK rfl ?_ ?_
 ·trivial
 refine zae rfl (fun hc=>?_) (fun hc=>?_)
 ·have hc:two c=true:=hc;rw[if_pos hc]at hR;apply zaf;refine AWP.viaQ (σ':=sRu (mCnt c m2).2 (d+1) ids c (c,0,0,0,(mCnt c m2).1,0,[],[],()) (a.flat 0)) ?_ ?_
  ·refine za (za ?_);refine zaa hX hK rfl ?_ ?_
   ·trivial
   refine zae rfl (fun hb=>?_) (fun hb=>?_)
   ·have hb:(c==17)=true:=hb;have e:mCnt c m2=(1+(zal m2 3).1,(zal m2 3).2):=if_pos (eq_of_beq hb);have hp:=zaJ m2 (n:=3) (by decide);have z1:inR .i64 (1+(zal m2 3).1):=zan (by omega) (by omega);rw[e];refine za (za ?_);refine zaa hX hK rfl ?_ ?_
    ·repeat'(first|exact trivial|assumption|exact w1|exact w2|exact z1|(refine⟨?_,?_⟩)|(intro _)|exact zb rfl|exact zd _|(simp_all [allP];done))
    exact⟨⟨rfl,rfl,rfl,rfl,rfl,trivial⟩,⟨rfl,rfl,trivial⟩,rfl,rfl⟩
   ·have hb:(c==17)=false:=hb;have e:mCnt c m2=(0,m2):=if_neg (by simpa using hb);rw[e];apply zab;exact⟨⟨rfl,rfl,rfl,rfl,rfl,trivial⟩,⟨rfl,rfl,trivial⟩,rfl,rfl⟩
  obtain⟨x1,x2,x3,x4,x5⟩:MkLe 1 m2 (mCnt c m2).2:=zmU c m2;generalize mCnt c m2=q at *;obtain⟨(cn:Int),(m3:Mk)⟩:=q;have x1:mkN m3=mkN m2:=x1;have x2:mkS m3=mkS m2:=x2;have x4:mkU m2≤mkU m3:=x4;have x5:mkU m3≤mkU m2+((1:Nat):Int):=x5;have hR:R=(.bin (c,0,0,0,cn,0,[],[],()) a (mTr ids d m3).1,(mTr ids d m3).2):=hR;have v5:0≤mkU m3∧mkU m3+20 * ((mMax (((d+1:Nat):Int) - 1).toNat:Nat):Int)≤500000:=by rw[n3];omega
  have v6:0≤mkN m3∧mkN m3≤1000000:=by omega
  have v7:0≤mkS m3∧mkS m3+((mMax (((d+1:Nat):Int) - 1).toNat:Nat):Int)≤500000:=by rw[n3];omega
  refine za (za ?_);refine zaa hX hK rfl ?_ ?_
  ·exact⟨n9,n1,n2,n4,v5,v6,v7,n8⟩
  have sb:=zmo ids d m3 v6.1;have sz2:=zfL ids d m3;have lb:=xg (mTr ids d m3).1 0;have hb4:=zhT (mTr ids d m3).1 0 sb;have q1:1≤(a.flat 0).length:=by omega
  have q2:(a.flat 0).length≤100000:=by omega
  have q3:((mTr ids (((d+1:Nat):Int) - 1).toNat m3).1.flat 0).length≤100000:=by rw[n3];omega
  have q4:∀ n∈(mTr ids (((d+1:Nat):Int) - 1).toNat m3).1.flat 0,(-1000000≤ndL n∧ndL n≤1000000)∧(-1000000≤ndR n∧ndR n≤1000000):=by
   rw[n3];intro n hn;have:=hb4 n hn;omega
  refine za (za ?_);refine zaa hX hK rfl ?_ ?_
  ·exact⟨q1,q2,q3,q4⟩
  refine zm ⟨.inr rfl,?_,zat rfl trivial rfl rfl ?_⟩
  ·show some (OObj.box mkr (mTr ids (((d+1:Nat):Int) - 1).toNat m3).2)=some (OObj.box mkr (mTr ids (d+1) m).2);rw[<-hRR,hR,n3]
  ·show zqo (a.flat 0) ((mTr ids (((d+1:Nat):Int) - 1).toNat m3).1.flat 0) (c,0,0,0,cn,0,[],[],())=(mTr ids (d+1) m).1.flat 0;rw[<-hRR,hR,n3,zk3 a (mTr ids d m3).1 _ sb]
 ·have hc:two c=false:=hc;rw[hc,if_neg (by decide)]at hR;have hn2:¬ two c=true:=by rw[hc];decide
  rw[zep]at hn2;apply zab;refine za (za ?_);refine zaa hX hK rfl ?_ ?_
  ·trivial
  refine AWP.viaQ (σ':=sRu (mOne c ids m2).2 (d+1) ids c (mOne c ids m2).1 (a.flat 0)) ?_ ?_
  ·apply zac;clear hR hkk n10;rcases (show c=11∨c=12∨c=13∨c=14∨c=15∨c=16 by omega) with rfl|rfl|rfl|rfl|rfl|rfl
   ·skip
    refine za (za ?_);refine zaa hX hK rfl ?_ ?_
    ·trivial
    refine zae rfl (fun _=>?_) (fun hb=>absurd (show ((11:Int)==11)=false from hb) (by decide));have hp:=zaJ m2 (n:=15) (by decide);have z1:inR .i64 ((zal m2 15).1 - 7):=zan (by omega) (by omega);refine za (za ?_);refine zaa hX hK rfl ?_ ?_
    ·repeat'(first|exact trivial|assumption|exact w1|exact w2|exact z1|(refine⟨?_,?_⟩)|(intro _)|exact zb rfl|exact zd _|(simp_all [allP];done))
    exact⟨⟨rfl,rfl,rfl,rfl,rfl,trivial⟩,⟨rfl,rfl,trivial⟩,rfl,rfl⟩
   ·skip
    refine za (za ?_);refine zaa hX hK rfl ?_ ?_
    ·trivial
    refine zae rfl (fun hb=>absurd (show ((12:Int)==11)=true from hb) (by decide)) (fun _=>?_);refine za (za ?_);refine zaa hX hK rfl ?_ ?_
    ·trivial
    refine zae rfl (fun _=>?_) (fun hb=>absurd (show ((12:Int)==12)=false from hb) (by decide));apply zab;refine zae rfl (fun _=>?_) (fun hb=>absurd (show ((12:Int)==12)=false from hb) (by decide));refine za (za ?_);refine zaa hX hK rfl ?_ ?_
    ·repeat'(first|exact trivial|assumption|exact w1|exact w2|(refine⟨?_,?_⟩)|(intro _)|exact zb rfl|exact zd _|(simp_all [allP];done))
    exact⟨⟨rfl,rfl,rfl,rfl,rfl,trivial⟩,⟨rfl,rfl,trivial⟩,rfl,rfl⟩
   ·skip
    refine za (za ?_);refine zaa hX hK rfl ?_ ?_
    ·trivial
    refine zae rfl (fun hb=>absurd (show ((13:Int)==11)=true from hb) (by decide)) (fun _=>?_);refine za (za ?_);refine zaa hX hK rfl ?_ ?_
    ·trivial
    refine zae rfl (fun hb=>absurd (show ((13:Int)==12)=true from hb) (by decide)) (fun _=>?_);refine za (za ?_);refine zaa hX hK rfl ?_ ?_
    ·trivial
    refine zae rfl (fun _=>?_) (fun hb=>absurd (show ((13:Int)==13)=false from hb) (by decide));refine za (za ?_);refine zaa hX hK rfl ?_ ?_
    ·repeat'(first|exact trivial|assumption|exact w1|exact w2|(refine⟨?_,?_⟩)|(intro _)|exact zb rfl|exact zd _|(simp_all [allP];done))
    exact⟨⟨rfl,rfl,rfl,rfl,rfl,trivial⟩,⟨rfl,rfl,trivial⟩,rfl,rfl⟩
   ·skip
    refine za (za ?_);refine zaa hX hK rfl ?_ ?_
    ·trivial
    refine zae rfl (fun hb=>absurd (show ((14:Int)==11)=true from hb) (by decide)) (fun _=>?_);refine za (za ?_);refine zaa hX hK rfl ?_ ?_
    ·trivial
    refine zae rfl (fun hb=>absurd (show ((14:Int)==12)=true from hb) (by decide)) (fun _=>?_);refine za (za ?_);refine zaa hX hK rfl ?_ ?_
    ·trivial
    refine zae rfl (fun hb=>absurd (show ((14:Int)==13)=true from hb) (by decide)) (fun _=>?_);refine za (za ?_);refine zaa hX hK rfl ?_ ?_
    ·trivial
    refine zae rfl (fun _=>?_) (fun hb=>absurd (show ((14:Int)==14)=false from hb) (by decide));apply zab;refine zae rfl (fun _=>?_) (fun hb=>absurd (show ((14:Int)==14)=false from hb) (by decide));refine za (za ?_);refine zaa hX hK rfl ?_ ?_
    ·repeat'(first|exact trivial|assumption|exact w1|exact w3|(refine⟨?_,?_⟩)|(intro _)|exact zb rfl|exact zd _|(simp_all [allP];done))
    exact⟨⟨rfl,rfl,rfl,rfl,rfl,trivial⟩,⟨rfl,rfl,trivial⟩,rfl,rfl⟩
   ·skip
    refine za (za ?_);refine zaa hX hK rfl ?_ ?_
    ·trivial
    refine zae rfl (fun hb=>absurd (show ((15:Int)==11)=true from hb) (by decide)) (fun _=>?_);refine za (za ?_);refine zaa hX hK rfl ?_ ?_
    ·trivial
    refine zae rfl (fun hb=>absurd (show ((15:Int)==12)=true from hb) (by decide)) (fun _=>?_);refine za (za ?_);refine zaa hX hK rfl ?_ ?_
    ·trivial
    refine zae rfl (fun hb=>absurd (show ((15:Int)==13)=true from hb) (by decide)) (fun _=>?_);refine za (za ?_);refine zaa hX hK rfl ?_ ?_
    ·trivial
    refine zae rfl (fun hb=>absurd (show ((15:Int)==14)=true from hb) (by decide)) (fun _=>?_);refine za (za ?_);refine zaa hX hK rfl ?_ ?_
    ·trivial
    refine zae rfl (fun _=>?_) (fun hb=>absurd (show ((15:Int)==15)=false from hb) (by decide));refine za (za ?_);refine zaa hX hK rfl ?_ ?_
    ·repeat'(first|exact trivial|assumption|exact w1|exact w3|(refine⟨?_,?_⟩)|(intro _)|exact zb rfl|exact zd _|(simp_all [allP];done))
    exact⟨⟨rfl,rfl,rfl,rfl,rfl,trivial⟩,⟨rfl,rfl,trivial⟩,rfl,rfl⟩
   ·skip
    refine za (za ?_);refine zaa hX hK rfl ?_ ?_
    ·trivial
    refine zae rfl (fun hb=>absurd (show ((16:Int)==11)=true from hb) (by decide)) (fun _=>?_);refine za (za ?_);refine zaa hX hK rfl ?_ ?_
    ·trivial
    refine zae rfl (fun hb=>absurd (show ((16:Int)==12)=true from hb) (by decide)) (fun _=>?_);refine za (za ?_);refine zaa hX hK rfl ?_ ?_
    ·trivial
    refine zae rfl (fun hb=>absurd (show ((16:Int)==13)=true from hb) (by decide)) (fun _=>?_);refine za (za ?_);refine zaa hX hK rfl ?_ ?_
    ·trivial
    refine zae rfl (fun hb=>absurd (show ((16:Int)==14)=true from hb) (by decide)) (fun _=>?_);refine za (za ?_);refine zaa hX hK rfl ?_ ?_
    ·trivial
    refine zae rfl (fun hb=>absurd (show ((16:Int)==15)=true from hb) (by decide)) (fun _=>?_);have z2:0≤mkU (zal m2 ids).2:=by rw[zaW];omega
    have z3:mkU (zal m2 ids).2≤1000000:=by rw[zaW];omega
    have z4:0≤mkU (zal (zal m2 ids).2 2).2:=by rw[zaW,zaW];omega
    have z5:mkU (zal (zal m2 ids).2 2).2≤900000:=by rw[zaW,zaW];omega
    have z6:ids≤1000000000:=by omega
    refine za (za ?_);refine zaa hX hK rfl ?_ ?_
    ·repeat'(first|exact trivial|assumption|exact w1|exact w2|exact h7|exact z6|(refine⟨?_,?_⟩)|(intro _)|exact zb rfl|exact zd _|(simp_all [allP];done))
    refine za (za ?_);refine zaa hX hK rfl ?_ ?_
    ·repeat'(first|exact trivial|assumption|exact z2|exact z3|(refine⟨?_,?_⟩)|(intro _)|exact zb rfl|exact zd _|(simp_all [allP];done))
    refine za (za ?_);refine zaa hX hK rfl ?_ ?_
    ·repeat'(first|exact trivial|assumption|exact z4|exact z5|(refine⟨?_,?_⟩)|(intro _)|exact zb rfl|exact zd _|(simp_all [allP];done))
    exact⟨⟨rfl,rfl,rfl,rfl,rfl,trivial⟩,⟨rfl,rfl,trivial⟩,rfl,rfl⟩
  show AWP _ _ _ _ _ (sRu (mOne c ids m2).2 (d+1) ids c (mOne c ids m2).1 (a.flat 0)) _;have q2:(a.flat 0).length≤1000000:=by omega
  refine za (za ?_);refine zaa hX hK rfl ?_ ?_
  ·exact q2
  refine zm ⟨.inr rfl,?_,zat rfl trivial rfl rfl ?_⟩
  ·show some (OObj.box mkr (mOne c ids m2).2)=some (OObj.box mkr (mTr ids (d+1) m).2);rw[<-hRR,hR]
  ·show zoY (a.flat 0) (mOne c ids m2).1=(mTr ids (d+1) m).1.flat 0;rw[<-hRR,hR,zkn]
theorem zri (D:Nat):zfb Tryz.prog gmG 58 (zgP D):=by
 induction D with
 |zero=>
  refine⟨Tryz.call58,fun w O g cs ty x xs vs _ _ _ _ hp=>?_⟩;obtain⟨(d:Int),(ids:Int),_⟩:=xs;have h1:0≤d:=hp.1;have h2:d < ((0:Nat):Int):=hp.2.1;omega
 |succ D ih=>exact zoG D ih
set_option maxRecDepth 10000
theorem zdJ {lo hi lo' hi':Int} {z:Bool} (h1:lo'≤lo) (h2:hi≤hi'):∀ {l:List Int} {a b:Int},b≤a->Ris lo hi z a l->Ris lo' hi' z b l
 | [],_,_,_,_=>trivial
 |x::r,a,b,hab,h=>by
  obtain⟨p,q,s,t,u⟩:=h;exact⟨by omega,by omega,by omega,t,zdJ h1 h2 (Int.le_refl _) u⟩
theorem zjq {lo hi:Int} {z:Bool} (hz:z=true∨¬ 0≤lo):∀ (k:Nat) (m:Mk) (v:Int) (acc:List Int),Ris lo hi z (lo - 1) acc->acc.getLast?.getD (lo - 1) < v->lo≤v->Ris lo hi z (lo - 1) (mRis lo hi k m v acc).1∧(mRis lo hi k m v acc).1.length≤acc.length+k
 |0,m,v,acc,h,_,_=>⟨h,zj _⟩
 |k+1,m,v,acc,h,hl,hv=>by
  have hp:=zaJ m (n:=3) (by decide);rw[mRis];split
  ·rename_i hvh;split
   ·rename_i hc;have h2:=zmd (z:=z) hv hvh (by
     rcases hz with hz|hz
     ·exact .inl hz
     ·exact .inr (hc.resolve_right hz)) h hl
    obtain⟨a,b⟩:=zjq hz k (zal m 3).2 (v+1+(zal m 3).1) (acc++ [v]) h2 (by rw[List.getLast?_append];show v < _;omega) (by omega);refine⟨a,?_⟩;rw[zg,yv]at b;omega
   ·obtain⟨a,b⟩:=zjq hz k (zal m 3).2 (v+1+(zal m 3).1) acc h (by omega) (by omega);exact⟨a,by omega⟩
  ·exact⟨h,by show acc.length≤_;omega⟩
theorem zcZ (m:Mk) {lo hi:Int} {z:Bool} (hz:z=true∨¬ 0≤lo) (hz2:z=true∨hi≠0) (hl:lo≤hi):(zaL m lo hi).1≠ []∧(zaL m lo hi).1.length≤4∧Ris lo hi z (lo - 1) (zaL m lo hi).1:=by
 have hp:=zaJ m (n:=4) (by decide);have hq:=zaJ (zal m 4).2 (n:=hi - lo+1) (by omega);obtain⟨a,b⟩:=zjq hz (hi:=hi) (1+(zal m 4).1).toNat (zal (zal m 4).2 (hi - lo+1)).2 (lo+(zal (zal m 4).2 (hi - lo+1)).1) [] trivial (by show lo - 1 < _;omega) (by omega);unfold zaL orHi;dsimp only;split
 ·exact⟨by simp,by simp,⟨by omega,hl,Int.le_refl _,hz2,trivial⟩⟩
 ·rename_i hne;refine⟨fun e=>hne (by rw[e];rfl),?_,a⟩;rw[zW]at b;omega
def zdX (x:Int):Prop:=-1000 < x∧x < 1000
def NdSm (n:Nd):Prop:=(zdX (ndC n)∧zdX (ndN n)∧zdX (ndM n))∧(∀ x∈ndI n,zdX x)∧(ndI n).length≤5∧(ndS n).length≤20
theorem zso {x:Int} (h:zdX x):(deI x).length≤4:=by
 unfold deI Lib.itoa;have e:(10:Nat) ^ (2+1)=1000:=by decide
 obtain⟨h0,h1⟩:=h;split
 ·rw[zt];have:=zfY 2 x.natAbs (by rw[e];omega);omega
 ·have:=zfY 2 x.toNat (by rw[e];omega);omega
theorem ziL {l:List Int} (h:∀ n∈l,zdX n):(zch l).length≤5 * l.length:=by
 induction l with
 |nil=>exact zj _
 |cons n l ih=>
  have h1:=zso (h n (yh ..));have h2:=ih fun m hm=>h m (yN _ hm);show ((32::deI n)++zch l).length≤_;rw[zg,zt,zt];omega
theorem zhC:∀ (l:List Int) (i:Nat),(∀ n∈l,zdX n)->(litS i l).length≤6 * l.length
 | [],i,_=>zj _
 |n::l,i,h=>by
  have h1:=zso (h n (yh ..));have h2:=zhC l (i+1) fun m hm=>h m (yN _ hm);have h3:=zjd i;show (sepS i++deI n++litS (i+1) l).length≤_;rw[zg,zg,zt];omega
theorem znH {n:Nd} (h:NdSm n):(zck n).length≤90:=by
 obtain⟨⟨hC,hN,hM⟩,hI,hl,hs⟩:=h;have l1:∀ w:List UInt8,w.length≤10->∀ l:List Int,l.length≤3->(∀ x∈l,zdX x)->(putS w l).length≤25:=fun w hw l hl hx=>by
  have:=ziL hx;unfold putS;rw[zg];omega
 have l2:(zb3 (ndI n)).length≤31:=by
  have:=zhC (ndI n) 0 hI;unfold zb3;rw[zg,yv];omega
 have p0:∀ x∈([]:List Int),zdX x:=fun x hx=>by cases hx
 have p1:∀ x∈ [ndC n],zdX x:=fun x hx=>by rw[zv.1 hx];exact hC
 have p2:∀ x∈ [ndN n,ndM n],zdX x:=fun x hx=>by
  rcases ya.1 hx with rfl|hx
  ·exact hN
  ·rw[zv.1 hx];exact hM
 have p3:∀ x∈ [ndC n,ndN n,ndM n],zdX x:=fun x hx=>by
  rcases ya.1 hx with rfl|hx
  ·exact hC
  ·exact p2 x hx
 unfold zck;split
 ·exact zH (l1 _ (by decide) _ (by simp) p2) (by decide)
 split
 ·exact zH (l1 _ (by decide) _ (by simp) p3) (by decide)
 split
 ·rw[zg];have:=l1 zcp (by decide) _ (by simp) p1;omega
 split
 ·rw[zg];have:=l1 za2 (by decide) _ (by simp) p1;omega
 split
 ·rw[zg];have:=l1 zbf (by decide) _ (by simp) p0;omega
 split
 ·rw[zg];have:=l1 zdh (by decide) _ (by simp) p1;omega
 split
 ·rw[zg];have:=l1 wNth (by decide) _ (by simp) p3;have:=l1 (zcj (ndL n)) (zcY _) [] (by decide) p0;omega
 split
 ·show (64::ndS n++ []).length≤_;rw[List.append_nil,zt];omega
 ·exact zl _
theorem zj2 {n:Nd} (b:List UInt8) (h:NdSm n):(zb2 b n).length≤90+b.length:=by
 obtain⟨⟨hC,hN,hM⟩,hI,hl,hs⟩:=h;have l1:∀ w:List UInt8,w.length≤10->∀ l:List Int,l.length≤3->(∀ x∈l,zdX x)->(putS w l).length≤25:=fun w hw l hl hx=>by
  have:=ziL hx;unfold putS;rw[zg];omega
 have l2:(zb3 (ndI n)).length≤31:=by
  have:=zhC (ndI n) 0 hI;unfold zb3;rw[zg,yv];omega
 have p0:∀ x∈([]:List Int),zdX x:=fun x hx=>by cases hx
 have p1:∀ x∈ [ndC n],zdX x:=fun x hx=>by rw[zv.1 hx];exact hC
 have p2:∀ x∈ [ndN n],zdX x:=fun x hx=>by rw[zv.1 hx];exact hN
 unfold zb2;split
 ·have:=l1 (spW zeo) (by decide) _ (by simp) p2;omega
 split
 ·have:=l1 (spW zhe) (by decide) _ (by simp) p2;omega
 split
 ·have:=l1 (spW zen) (by decide) _ (by simp) p2;omega
 split
 ·rw[zg];have:=l1 (spW ze1) (by decide) _ (by simp) p0;omega
 split
 ·rw[zg];have:=l1 (spW zcq) (by decide) _ (by simp) p0;omega
 split
 ·rw[zg,zg];have:=l1 (spW wPos) (by decide) _ (by simp) p1;have:=l1 (zcj (ndM n)) (zcY _) [] (by decide) p0;omega
 split
 ·rw[zg,zg];have:=l1 (spW zbE) (by decide) _ (by simp) p2;have:=l1 (spW wOf++ [32]) (by decide) [] (by decide) p0;omega
 ·exact zl _
def TrSm:Tr->Prop
 | .leaf n=>NdSm n
 | .un n a=>NdSm n∧TrSm a
 | .bin n a b=>NdSm n∧TrSm a∧TrSm b
theorem zeO:∀ t:Tr,TrSm t->t.text.length≤100 * t.size
 | .leaf n,h=>by
  have:=znH h;show (zck n).length≤100 * 1;omega
 | .un n a,h=>by
  have h1:=zj2 [] h.1;have h2:=zeO a h.2;have h3:=zc5 (decide (a.lev≥4)) a.text;show (parS _ a.text++zb2 [] n).length≤100 * (a.size+1);rw[zg];rw[zW]at h1;omega
 | .bin n a b,h=>by
  have h1:=zeO a h.2.1;have h2:=zeO b h.2.2;show _≤100 * (a.size+b.size+1);rw[zi4];split
  ·have h3:=zc5 (decide (a.lev≥4)) a.text;have h4:=zc5 (decide (b.lev≥5)) b.text;have h5:=zj2 (parS (decide (b.lev≥5)) b.text) h.1;rw[zg];omega
  ·have h3:=zc5 (decide (a.lev≥levS (ndK n))) a.text;have h4:=zc5 (decide (b.lev≥levS (ndK n)+1)) b.text;have h5:(putS ([32]++opWd (levS (ndK n))++ [32]) []).length≤20:=by
    have h6:=zjt (ndK n);show (([32]++opWd (levS (ndK n))++ [32])++ []:List UInt8).length≤20;rcases (show levS (ndK n)=1∨levS (ndK n)=2∨levS (ndK n)=3∨levS (ndK n)=4∨levS (ndK n)=5 by omega) with e|e|e|e|e<;>rw[e]<;>decide
   rw[zg,zg];omega
theorem sm0:zdX 0:=⟨by decide,by decide⟩
theorem zgz {lo hi:Int} {z:Bool} (h1: -1000 < lo) (h2:hi < 1000):∀ {l:List Int} {a:Int},Ris lo hi z a l->∀ x∈l,zdX x
 | [],_,_,x,hx=>by cases hx
 |y::r,_,h,x,hx=>by
  obtain⟨_,a,b,_,h⟩:=h;rcases ya.1 hx with rfl|hx
  ·exact⟨by omega,by omega⟩
  ·exact zgz h1 h2 h x hx
theorem nosm:∀ x∈([]:List Int),zdX x:=fun x hx=>by cases hx
theorem zti {k c:Int} {m:Mk} (hk:1≤k∧k≤7) (hc:0≤c∧c≤2) (hc2:k=1∨k=5->c=0):TrOk (.leaf (zgH k c m).1)∧NdSm (zgH k c m).1:=by
 have sc:zdX c:=⟨by omega,by omega⟩;have p20:(([]:List UInt8)).length≤20:=zl _;rcases (show k=1∨k=2∨k=3∨k=4∨k=5∨k=6∨k=7 by omega) with rfl|rfl|rfl|rfl|rfl|rfl|rfl
 ·have h1:=zaJ m (n:=12) (by decide);have h2:=zaJ (zal m 12).2 (n:=20) (by decide);obtain rfl:c=0:=hc2 (.inl rfl);show TrOk (.leaf (1,0,0,0,1+(zal m 12).1,(zal (zal m 12).2 20).1,[],[],()))∧NdSm (1,0,0,0,1+(zal m 12).1,(zal (zal m 12).2 20).1,[],[],());generalize hx:1+(zal m 12).1=x at *;generalize (zal (zal m 12).2 20).1=y at *;refine⟨⟨?_,by show ¬ ((8:Int)≤1∧_);omega,rfl,fun _=>rfl⟩,⟨⟨sm0,⟨by show -1000 < x;omega,by show x < 1000;omega⟩,⟨by show -1000 < y;omega,by show y < 1000;omega⟩⟩,nosm,zl _,p20⟩⟩;exact and4 (a:=true) (b:=true) (c:=true) rfl rfl rfl (show (bif inB x 1 1099511627776 then inB y 0 1099511627776 else false)=true by rw[zcW (hi:=1099511627776) (by omega),zcW (hi:=1099511627776) (by omega)];rfl)
 ·have h1:=zaJ m (n:=4) (by decide);have h2:=zaJ (zal m 4).2 (n:=1+(zal m 4).1) (by omega);show TrOk (.leaf (2,c,0,0,1+(zal m 4).1,(zal (zal m 4).2 (1+(zal m 4).1)).1,[],[],()))∧NdSm (2,c,0,0,1+(zal m 4).1,(zal (zal m 4).2 (1+(zal m 4).1)).1,[],[],());generalize hx:1+(zal m 4).1=x at *;generalize (zal (zal m 4).2 x).1=y at *;refine⟨⟨?_,by show ¬ ((8:Int)≤2∧_);omega,rfl,fun _=>rfl⟩,⟨⟨sc,⟨by show -1000 < x;omega,by show x < 1000;omega⟩,⟨by show -1000 < y;omega,by show y < 1000;omega⟩⟩,nosm,zl _,p20⟩⟩;exact and4 (a:=true) (b:=inB c 0 2) (c:=true) rfl (zcW hc) rfl (show (bif inB x 1 400 then inB y 0 (x - 1) else false)=true by rw[zcW (by omega),zcW (by omega)];rfl)
 ·obtain⟨a1,a2,a3⟩:=zcZ m (lo:=1) (hi:=4) (z:=true) (by decide) (by decide) (by decide);show TrOk (.leaf (3,c,0,0,0,0,(zaL m 1 4).1,[],()))∧NdSm (3,c,0,0,0,0,(zaL m 1 4).1,[],());generalize (zaL m 1 4).1=l at *;refine⟨⟨?_,by show ¬ ((8:Int)≤3∧_);omega,rfl,fun _=>rfl⟩,⟨⟨sc,sm0,sm0⟩,zgz (by decide) (by decide) a3,zH a2 (by decide),p20⟩⟩;exact and4 (a:=decide (l.length≤64)) (b:=inB c 0 2) (c:=zaN l (1,16,())) (d:=true) (decide_eq_true (by omega)) (zcW hc) (zhA (by decide) (by decide) a1 (zdJ (by decide) (by decide) (by decide) a3)) rfl
 ·obtain⟨a1,a2,a3⟩:=zcZ m (lo:=(-4)) (hi:=7) (z:=false) (by decide) (by decide) (by decide);show TrOk (.leaf (4,c,0,0,0,0,(zaL m (-4) 7).1,[],()))∧NdSm (4,c,0,0,0,0,(zaL m (-4) 7).1,[],());generalize (zaL m (-4) 7).1=l at *;refine⟨⟨?_,by show ¬ ((8:Int)≤4∧_);omega,rfl,fun _=>rfl⟩,⟨⟨sc,sm0,sm0⟩,zgz (by decide) (by decide) a3,zH a2 (by decide),p20⟩⟩;exact and4 (a:=decide (l.length≤64)) (b:=inB c 0 2) (c:=zaN l (-40,40,())) (d:=true) (decide_eq_true (by omega)) (zcW hc) (zhA (by decide) (by decide) a1 (zdJ (by decide) (by decide) (by decide) a3)) rfl
 ·obtain rfl:c=0:=hc2 (.inr rfl);obtain⟨a1,a2,a3⟩:=zcZ m (lo:=0) (hi:=6) (z:=true) (by decide) (by decide) (by decide);show TrOk (.leaf (5,0,0,0,0,0,(zaL m 0 6).1,[],()))∧NdSm (5,0,0,0,0,0,(zaL m 0 6).1,[],());generalize (zaL m 0 6).1=l at *;refine⟨⟨?_,by show ¬ ((8:Int)≤5∧_);omega,rfl,fun _=>rfl⟩,⟨⟨sc,sm0,sm0⟩,zgz (by decide) (by decide) a3,zH a2 (by decide),p20⟩⟩;exact and4 (a:=decide (l.length≤64)) (b:=true) (c:=zaN l (0,6,())) (d:=true) (decide_eq_true (by omega)) rfl (zhA (by decide) (by decide) a1 (zdJ (by decide) (by decide) (by decide) a3)) rfl
 ·obtain⟨a1,a2,a3⟩:=zcZ m (lo:=1) (hi:=4) (z:=true) (by decide) (by decide) (by decide);show TrOk (.leaf (6,c,0,0,0,0,(zaL m 1 4).1,[],()))∧NdSm (6,c,0,0,0,0,(zaL m 1 4).1,[],());generalize (zaL m 1 4).1=l at *;refine⟨⟨?_,by show ¬ ((8:Int)≤6∧_);omega,rfl,fun _=>rfl⟩,⟨⟨sc,sm0,sm0⟩,zgz (by decide) (by decide) a3,zH a2 (by decide),p20⟩⟩;exact and4 (a:=decide (l.length≤64)) (b:=inB c 0 2) (c:=zaN l (1,54,())) (d:=true) (decide_eq_true (by omega)) (zcW hc) (zhA (by decide) (by decide) a1 (zdJ (by decide) (by decide) (by decide) a3)) rfl
 ·have h1:=zaJ m (n:=3) (by decide);have h2:=zaJ (zal (zal m 3).2 2).2 (n:=7) (by decide);have h3:=zaJ (zal (zal (zal m 3).2 2).2 7).2 (n:=2) (by decide);show TrOk (.leaf (7,c,(zal (zal (zal (zal m 3).2 2).2 7).2 2).1,0,(if (zal (zal m 3).2 2).1=1 then -(1+(zal m 3).1) else 1+(zal m 3).1),(zal (zal (zal m 3).2 2).2 7).1,[],[],()))∧NdSm (7,c,(zal (zal (zal (zal m 3).2 2).2 7).2 2).1,0,(if (zal (zal m 3).2 2).1=1 then -(1+(zal m 3).1) else 1+(zal m 3).1),(zal (zal (zal m 3).2 2).2 7).1,[],[],());have hx:∀ b:Int,-3≤(if b=1 then -(1+(zal m 3).1) else 1+(zal m 3).1)∧(if b=1 then -(1+(zal m 3).1) else 1+(zal m 3).1)≤3∧(if b=1 then -(1+(zal m 3).1) else 1+(zal m 3).1)≠0:=fun b=>by split<;>omega
  have hx:=hx (zal (zal m 3).2 2).1;generalize (if (zal (zal m 3).2 2).1=1 then -(1+(zal m 3).1) else 1+(zal m 3).1)=x at *;generalize (zal (zal (zal m 3).2 2).2 7).1=y at *;generalize (zal (zal (zal (zal m 3).2 2).2 7).2 2).1=u at *;refine⟨⟨?_,by show ¬ ((8:Int)≤7∧_);omega,rfl,fun e=>absurd rfl e⟩,⟨⟨sc,⟨by show -1000 < x;omega,by show x < 1000;omega⟩,⟨by show -1000 < y;omega,by show y < 1000;omega⟩⟩,nosm,zl _,p20⟩⟩;refine and4 (a:=true) (b:=inB c 0 2) (c:=true) rfl (zcW hc) rfl (show (bif (bif (bif inB x (-60) 60 then !(x==0) else false) then inB y 0 6 else false) then inB u 0 1 else false)=true from ?_);rw[zcW (n:=x) (by omega),zcW (n:=y) (by omega),zcW (n:=u) (lo:=0) (hi:=1) (by omega),beq_eq_false_iff_ne.2 hx.2.2];rfl
theorem zrZ {x:Int} (h0:0≤x) (h1:x < 1000000):(deI x).length≤6:=by
 unfold deI Lib.itoa;rw[if_neg (by omega)];have e:(10:Nat) ^ (5+1)=1000000:=by decide
 exact zfY 5 x.toNat (by rw[e];omega)
theorem nm_ok {x:Int} (h0:0≤x) (h1:x < 1000000):zc8 ([110]++deI x)=true∧([110]++deI x).length≤20:=by
 have hl:=zrZ h0 h1;have hd:∀ c∈deI x,isPt c=true:=fun c hc=>by
  have e:deI x=Lib.decDigits x.toNat:=by unfold deI Lib.itoa;rw[if_neg (by omega)]
  rw[e]at hc;unfold isPt;rw[(zh0 x.toNat).1 c hc,Bool.or_true,Bool.true_or]
 refine⟨?_,by rw[zg,yv];omega⟩;unfold zc8;rw[zf,zf,zf,decide_eq_true_iff,decide_eq_true_iff];refine⟨⟨by simp,by rw[zg,yv];omega⟩,rfl,?_⟩;rw[zN];intro c hc;rcases List.mem_append.1 hc with hc|hc
 ·rw[zv.1 hc];decide
 ·exact hd c hc
theorem zsD {k:Int} {m:Mk}:(0≤(zek k m 3).1∧(zek k m 3).1≤2)∧(k=1∨k=5->(zek k m 3).1=0):=by
 unfold zek;split
 ·rename_i h;have:=zaJ m (n:=3) (by decide);exact⟨by omega,fun e=>by omega⟩
 ·exact⟨by show (0:Int)≤0∧(0:Int)≤2;omega,fun _=>rfl⟩
theorem zpv (m:Mk) (hn:0≤mkN m) (hn2:mkN m≤1000000):TrOk (.leaf (zdm m 3).1)∧NdSm (zdm m 3).1:=by
 have hk:=zaJ m (n:=8) (by decide);unfold zdm ziO;dsimp only;split
 ·rename_i hc;have h1:mkN (zdb (1+(zal m 8).1) (zal m 8).2).2=mkN m:=(zsm _ _).1;have h2:=zaJ (zdb (1+(zal m 8).1) (zal m 8).2).2 (n:=mkN (zdb (1+(zal m 8).1) (zal m 8).2).2) hc.2;generalize (zal (zdb (1+(zal m 8).1) (zal m 8).2).2 (mkN (zdb (1+(zal m 8).1) (zal m 8).2).2)).1=x at *;obtain⟨a,b⟩:=nm_ok (x:=x) h2.1 (by omega);refine⟨⟨?_,by show ¬ ((8:Int)≤18∧(18:Int)≤17);omega,rfl,fun _=>rfl⟩,⟨⟨sm0,sm0,sm0⟩,nosm,zl _,b⟩⟩;have:((true&&true)&&(true&&(zc8 ([110]++deI x)&&(true&&true))))=true:=by rw[a];rfl
  exact this
 ·rename_i hc;exact zti (zsv (m:=(zal m 8).2) hn (by omega) hc) zsD.1 zsD.2
theorem one_ok {k:Int} {m:Mk} (hk:11≤k∧k≤16):zbb (mOne k 3 m).1=true∧NdSm (mOne k 3 m).1:=by
 have p20:(([]:List UInt8)).length≤20:=zl _;rcases (show k=11∨k=12∨k=13∨k=14∨k=15∨k=16 by omega) with rfl|rfl|rfl|rfl|rfl|rfl
 ·have h1:=zaJ m (n:=15) (by decide);show zbb (11,0,0,0,(zal m 15).1 - 7,0,[],[],())=true∧NdSm (11,0,0,0,(zal m 15).1 - 7,0,[],[],());generalize hx:(zal m 15).1 - 7=x at *;refine⟨?_,⟨⟨sm0,⟨by show -1000 < x;omega,by show x < 1000;omega⟩,sm0⟩,nosm,zl _,p20⟩⟩;exact and4 (a:=true) (b:=true) (c:=true) rfl rfl rfl (show (bif inB x (-1099511627776) 1099511627776 then true else false)=true by rw[zcW (lo:=-1099511627776) (hi:=1099511627776) (by omega)];rfl)
 ·have h1:=zaJ m (n:=60) (by decide);show zbb (12,0,0,0,(zal m 60).1,0,[],[],())=true∧NdSm (12,0,0,0,(zal m 60).1,0,[],[],());generalize (zal m 60).1=x at *;refine⟨?_,⟨⟨sm0,⟨by show -1000 < x;omega,by show x < 1000;omega⟩,sm0⟩,nosm,zl _,p20⟩⟩;exact and4 (a:=true) (b:=true) (c:=true) rfl rfl rfl (show (bif inB x 0 1099511627776 then true else false)=true by rw[zcW (hi:=1099511627776) (by omega)];rfl)
 ·have h1:=zaJ m (n:=60) (by decide);show zbb (13,0,0,0,(zal m 60).1,0,[],[],())=true∧NdSm (13,0,0,0,(zal m 60).1,0,[],[],());generalize (zal m 60).1=x at *;refine⟨?_,⟨⟨sm0,⟨by show -1000 < x;omega,by show x < 1000;omega⟩,sm0⟩,nosm,zl _,p20⟩⟩;exact and4 (a:=true) (b:=true) (c:=true) rfl rfl rfl (show (bif inB x 0 1099511627776 then true else false)=true by rw[zcW (hi:=1099511627776) (by omega)];rfl)
 ·obtain⟨a1,a2,a3⟩:=zcZ m (lo:=0) (hi:=60) (z:=true) (by decide) (by decide) (by decide);show zbb (14,0,0,0,0,0,(zaL m 0 60).1,[],())=true∧NdSm (14,0,0,0,0,0,(zaL m 0 60).1,[],());generalize (zaL m 0 60).1=l at *;refine⟨?_,⟨⟨sm0,sm0,sm0⟩,zgz (by decide) (by decide) a3,zH a2 (by decide),p20⟩⟩;exact and4 (a:=decide (l.length≤64)) (b:=true) (c:=zaN l (0,1099511627776,())) (d:=true) (decide_eq_true (by omega)) rfl (zhA (by decide) (by decide) a1 (zdJ (by decide) (by decide) (by decide) a3)) rfl
 ·obtain⟨a1,a2,a3⟩:=zcZ m (lo:=0) (hi:=60) (z:=true) (by decide) (by decide) (by decide);show zbb (15,0,0,0,0,0,(zaL m 0 60).1,[],())=true∧NdSm (15,0,0,0,0,0,(zaL m 0 60).1,[],());generalize (zaL m 0 60).1=l at *;refine⟨?_,⟨⟨sm0,sm0,sm0⟩,zgz (by decide) (by decide) a3,zH a2 (by decide),p20⟩⟩;exact and4 (a:=decide (l.length≤64)) (b:=true) (c:=zaN l (0,1099511627776,())) (d:=true) (decide_eq_true (by omega)) rfl (zhA (by decide) (by decide) a1 (zdJ (by decide) (by decide) (by decide) a3)) rfl
 ·have h1:=zaJ m (n:=3) (by decide);have h2:=zaJ (zal m 3).2 (n:=2) (by decide);obtain⟨a1,a2,a3⟩:=zcZ (zal (zal m 3).2 2).2 (lo:=-3) (hi:=3) (z:=false) (by decide) (by decide) (by decide);show zbb (16,(zal m 3).1,0,0,0,(zal (zal m 3).2 2).1,(zaL (zal (zal m 3).2 2).2 (-3) 3).1,[],())=true∧NdSm (16,(zal m 3).1,0,0,0,(zal (zal m 3).2 2).1,(zaL (zal (zal m 3).2 2).2 (-3) 3).1,[],());generalize (zaL (zal (zal m 3).2 2).2 (-3) 3).1=l at *;generalize (zal (zal m 3).2 2).1=u at *;generalize (zal m 3).1=c at *;refine⟨?_,⟨⟨⟨by show -1000 < c;omega,by show c < 1000;omega⟩,sm0,⟨by show -1000 < u;omega,by show u < 1000;omega⟩⟩,zgz (by decide) (by decide) a3,zH a2 (by decide),p20⟩⟩;exact and4 (a:=decide (l.length≤64)) (b:=inB c 0 2) (c:=zaN l (-400,400,())) (d:=inB u 0 1) (decide_eq_true (by omega)) (zcW (by omega)) (zhA (by decide) (by decide) a1 (zdJ (by decide) (by decide) (by decide) a3)) (zcW (by omega))
theorem bin_ok {k c:Int} (hk:(8≤k∧k≤10)∧c=0∨k=17∧1≤c∧c≤3):zbb (k,0,0,0,c,0,[],[],())=true∧NdSm (k,0,0,0,c,0,[],[],()):=by
 have p20:(([]:List UInt8)).length≤20:=zl _;refine⟨?_,⟨⟨sm0,⟨by show -1000 < c;omega,by show c < 1000;omega⟩,sm0⟩,nosm,zl _,p20⟩⟩;rcases hk with ⟨⟨h1,h2⟩,rfl⟩|⟨rfl,h⟩
 ·rcases (show k=8∨k=9∨k=10 by omega) with rfl|rfl|rfl
  ·decide+kernel
  ·decide+kernel
  ·decide+kernel
 ·exact and4 (a:=true) (b:=true) (c:=true) rfl rfl rfl (show (bif inB c 1 400 then true else false)=true by rw[zcW (by omega)];rfl)
theorem cnt_in {k:Int} {m:Mk} (h:two k=true):(8≤k∧k≤10)∧(mCnt k m).1=0∨k=17∧1≤(mCnt k m).1∧(mCnt k m).1≤3:=by
 rw[zep]at h;unfold mCnt;split
 ·rename_i e;have:=zaJ m (n:=3) (by decide);exact .inr ⟨e,by omega⟩
 ·exact .inl ⟨by omega,rfl⟩
theorem zpb:∀ (d:Nat) (m:Mk),0≤mkN m->mkN m≤1000000->TrOk (mTr 3 d m).1∧TrSm (mTr 3 d m).1
 |0,m,h,h2=>zpv _ h h2
 |d+1,m,h,h2=>by
  have hp:=zaJ (zaI m) (n:=14) (by decide);rw[mTr];dsimp only;split
  ·exact zpv _ h h2
  rename_i hst;have hs:(zal (zaI m) 14).1 < 10:=by
   have:¬ zgh (d+1) (zal (zaI m) 14)=true:=hst;unfold zgh at this;simp only[Bool.or_eq_true,decide_eq_true_iff,not_or]at this;omega
  have h0:0≤mkN (zal (zaI m) 14).2:=h;have h3:mkN (zal (zaI m) 14).2≤1000000:=h2;obtain⟨ha,sa⟩:=zpb d (zal (zaI m) 14).2 h0 h3;have hg:=(zkr 3 d (zal (zaI m) 14).2).1;split
  ·rename_i ht;have hc:=(zmU (8+(zal (zaI m) 14).1) (mTr 3 d (zal (zaI m) 14).2).2).1;obtain⟨hb,sb⟩:=zpb d (mCnt (8+(zal (zaI m) 14).1) (mTr 3 d (zal (zaI m) 14).2).2).2 (by rw[hc,hg];exact h0) (by rw[hc,hg];exact h3);obtain⟨f,g⟩:=bin_ok (cnt_in (m:=(mTr 3 d (zal (zaI m) 14).2).2) ht);exact⟨⟨f,zep.1 ht,⟨rfl,rfl⟩,ha,hb⟩,g,sa,sb⟩
  ·rename_i ht;rw[zep]at ht;obtain⟨e1,e2,e3⟩:=zst (k:=8+(zal (zaI m) 14).1) (ids:=3) (m:=(mTr 3 d (zal (zaI m) 14).2).2);obtain⟨f,g⟩:=one_ok (k:=8+(zal (zaI m) 14).1) (m:=(mTr 3 d (zal (zaI m) 14).2).2) (by omega);exact⟨⟨f,by rw[e1];omega,⟨e2,e3⟩,ha⟩,g,sa⟩
def zhz (d:Nat) (k:Nat) (l:List Int) (n:Int):Tr:=(mTr 3 d (l.take k,0,n,0,())).1
theorem ztx {d k:Nat} {l:List Int} {n:Int} (h0:0≤n) (h1:n≤1000000):TrOk (zhz d k l n)∧TrSm (zhz d k l n):=zpb d _ h0 h1
theorem zpa (d k:Nat) (l:List Int) (n:Int):(zhz d k l n).size≤mMax d:=zfL 3 d _
def zuq (d k:Nat):Ctr:={ args:=[ints,i64],pre:=fun x=>[0≤x.2.1,x.2.1≤1000000],res:=.slice nd,own:=none,out:=fun x=>(zhz d k x.1 x.2.1).flat 0 }
def kMa:Kn:={ gmK with R:=[(58,zgP 10)] }
theorem zmw:KnOk Tryz.prog gmG kMa:=zaE.withR (.cons (zri 10) (fun _ _=>trivial) .nil)
theorem zrn:CtrOk Tryz.prog gmG 23 (zuq 4 80):=by
 refine zao (K:=kMa) zmw Tryz.func23 rfl rfl Tryz.call23 rfl (by decide) (by intro h;cases h) ?_;rintro w0 X hX ⟨(l:List Int),(n:Int),_⟩ hp;obtain⟨h0,h1⟩:0≤n∧n≤1000000:=hp;change AWP _ _ _ _ _ ⟨[(0,⟨ints,l⟩),(1,⟨i64,n⟩)],[],0⟩ _;refine za (za ?_);refine zaa hX zmw rfl ?_ ?_
 ·trivial
 have e:(min ((l.length:Nat):Int) 80).toNat=min l.length 80:=by omega
 have y1:0≤min ((l.length:Nat):Int) 80:=by omega
 have y2:min ((l.length:Nat):Int) 80≤((l.length:Nat):Int):=by omega
 have ht:l.take (min ((l.length:Nat):Int) 80).toNat=l.take 80:=by
  rw[e];by_cases h:l.length≤80
  ·rw[Nat.min_eq_left h,xI (zj _),xI h]
  ·rw[Nat.min_eq_right (by omega)]
 refine za (za ?_);refine zaa hX zmw rfl ?_ ?_
 ·exact⟨y1,y2⟩
 refine zaq (σ':=⟨[(5,⟨.optr mkr,⟨0,mkr,.here⟩⟩)],[(0,some (.box mkr (l.take 80,0,n,0,())))],1⟩) ⟨⟨rfl,trivial⟩,⟨zux (by show (l.take (min ((l.length:Nat):Int) 80).toNat,(0:Int),n,(0:Int),())=_;rw[ht]),trivial⟩,rfl,rfl⟩ ?_;have q1:(0:Int)≤4:=by decide
 have q2:(4:Int) < ((10:Nat):Int):=by decide
 have q3:mMax (4:Int).toNat≤10000:=by decide
 have q4:(0:Int)≤0∧(0:Int)+20 * ((mMax (4:Int).toNat:Nat):Int)≤500000:=by decide
 have q5:(0:Int)≤0∧(0:Int)+((mMax (4:Int).toNat:Nat):Int)≤500000:=by decide
 have q6:(0:Int) < 3∧(3:Int)≤1000000:=by decide
 refine za (za ?_);refine zaa hX zmw rfl ?_ ?_
 ·exact⟨q1,q2,q3,q4,⟨h0,h1⟩,q5,q6⟩
 refine zm ⟨.inr rfl,zat rfl trivial rfl rfl ?_⟩;rfl
theorem zty:CtrOk Tryz.prog gmH 23 (zuq 4 80):=zrn.lift
theorem zo9 {k:Nat} {l:List Int} {n:Int} (h0:0≤n) (h1:n≤1000000):TrOk (zhz 4 k l n)∧(zhz 4 k l n).size≤31∧(zhz 4 k l n).text.length≤3100:=by
 obtain⟨a,b⟩:=ztx (d:=4) (k:=k) (l:=l) h0 h1;have hs:=zpa 4 k l n;have hs:(zhz 4 k l n).size≤31:=hs;have:=zeO _ b;exact⟨a,hs,by omega⟩
theorem zro {k:Nat} {l:List Int} {n:Int} (h0:0≤n) (h1:n≤1000000):fmtS ((zhz 4 k l n).flat 0)=((zhz 4 k l n).text,0):=by
 obtain⟨a,b,c⟩:=zo9 (k:=k) (l:=l) h0 h1;rw[zmJ a (by omega)];exact if_neg (by omega)
def znT (n:Nd):Bool:=decide (100 < (ndI n).length)||decide (100 < (ndS n).length)
def smS (r:List Nd):Bool:=!(r.take 101).any znT&&decide (r.length≤100)
def zsF:Ctr:={ args:=[.slice nd],pre:=fun _=>[],res:=.bool,own:=none,out:=fun x=>smS x.1 }
theorem zok:CtrOk Tryz.prog gmH 22 zsF:=by
 refine zao (K:=gmK) zai Tryz.func22 rfl rfl Tryz.call22 rfl (by decide) (by intro h;cases h) ?_;rintro w0 X hX ⟨(r:List Nd),_⟩ hp;change AWP _ _ _ _ _ ⟨[(0,⟨.slice nd,r⟩)],[],0⟩ _;refine AWP.len 0 rfl fun hl=>?_;unfold maxLen at hl;refine za (za ?_);refine zaa hX zai rfl ?_ ?_
 ·trivial
 refine za (za ?_);refine zaa hX zai rfl ?_ ?_
 ·trivial
 (repeat(first|apply zaf|apply zab|apply zac|apply zad));refine AWP.loop (ι:=Nat) (fun i=>⟨[(0,⟨.slice nd,r⟩),(3,⟨i64,(i:Int)⟩)],[],0⟩) (fun i=>(i≤r.length∧i≤101)∧∀ j,j < i->znT (zam r j)=false) (fun i=>101 - i) 0 ⟨⟨zl _,zl _⟩,fun j hj=>absurd hj (Nat.not_lt_zero _)⟩ ⟨⟨rfl,rfl,trivial⟩,trivial,rfl,rfl⟩ ?_;rintro i ⟨⟨hi,hi2⟩,hn⟩;have hq0:(bif decide ((i:Int) < ((r.length:Nat):Int)) then decide ((i:Int) < 101) else false)=decide (i < r.length∧i < 101):=by
  rw[zcS,zL,zf,decide_eq_true_iff,decide_eq_true_iff,decide_eq_true_iff];omega
 refine za (za ?_);refine zaa hX zai rfl ?_ ?_
 ·repeat'(first|exact trivial|assumption|(refine⟨?_,?_⟩)|(intro _)|exact zb rfl|exact zd _|(simp_all [allP];done))
 refine zae rfl (fun hb=>?_) (fun hb=>?_)
 ·obtain⟨hlt,h101⟩:=of_decide_eq_true (hq0.symm.trans hb);have z0:(0:Int)≤(i:Int):=by omega
  have z1:(i:Int) < ((r.length:Nat):Int):=by omega
  have z2:((i:Int)).toNat < r.length:=by omega
  refine za (za ?_);refine zaa hX zai rfl ?_ ?_
  ·repeat'(first|exact trivial|assumption|exact z0|exact z1|exact z2|(refine⟨?_,?_⟩)|(intro _)|exact zb rfl|exact zd _|(simp_all [allP];done))
  have hq:(bif decide ((((ndI (zam r i)).length:Nat):Int) > 100) then true else decide ((((ndS (zam r i)).length:Nat):Int) > 100))=znT (zam r i):=by
   rw[b_or];unfold znT
   congr 1<;>(rw[zL,decide_eq_true_iff,decide_eq_true_iff];omega)
  refine zae rfl (fun hc=>?_) (fun hc=>?_)
  ·have hc:=hq.symm.trans hc;(repeat(first|apply zaf|apply zab|apply zaj|apply zad|apply zac|refine zaa hX zai rfl trivial ?_|refine zaa hX zai rfl id ?_|refine zaa hX zai rfl ⟨id,id⟩ ?_));refine zm ⟨.inr rfl,zat rfl trivial rfl rfl ?_⟩;show false=smS r;unfold smS;have:(r.take 101).any znT=true:=by
    rw[List.any_eq_true];refine⟨r[i],qf.2 ⟨i,by omega,rfl⟩,?_⟩;rw[zdq,zy,zC hlt]at hc;exact hc
   rw[this];rfl
  ·have hc:=hq.symm.trans hc;apply zab;refine za (za ?_);refine zaa hX zai rfl ?_ ?_
   ·exact zaG (by omega)
   exact⟨i+1,⟨⟨hlt,h101⟩,fun j hj=>by
    by_cases e:j=i
    ·rw[e];exact hc
    ·exact hn j (by omega)⟩,by omega,⟨rfl,zci _,trivial⟩,trivial,rfl,rfl⟩
 ·have hb:=of_decide_eq_false (hq0.symm.trans hb);have hany:(r.take 101).any znT=false:=by
   rw[List.any_eq_false];intro x hx;obtain⟨j,hj,rfl⟩:=qf.1 hx;have hjr:j < r.length:=by omega
   have:=hn j (by omega);rw[zdq,zy,zC hjr]at this;rw[show r[j]=(some r[j]).getD zNd from rfl,this];decide
  apply zad;refine za (za ?_);refine zaa hX zai rfl ?_ ?_
  ·trivial
  refine zm ⟨.inr rfl,zat rfl trivial rfl rfl ?_⟩;show decide (((r.length:Nat):Int)≤100)=smS r;unfold smS;rw[hany];show _=(true&&_);rw[Bool.true_and,zL,decide_eq_true_iff,decide_eq_true_iff];omega
theorem zrO (r:List Nd):(∃ e,e≠0∧fmtS r=([],e))∨(wfS r=true∧(zbo r).text.length≤4000∧fmtS r=((zbo r).text,0)):=by
 unfold fmtS;by_cases hv:zbg r=0
 ·rw[if_pos hv];by_cases hl:4000 < (zbo r).text.length
  ·rw[if_pos hl];exact .inl ⟨2,by decide,rfl⟩
  ·rw[if_neg hl];exact .inr ⟨zfc hv,by omega,rfl⟩
 ·rw[if_neg hv];exact .inl ⟨_,hv,rfl⟩
noncomputable def kLaD:Kn:={ gmK with C:=[(16,zmV),(24,cFmt),(15,zqf),(25,cFmt),(18,zun),(28,cPost),(23,zuq 4 80),(22,zsF)] }
theorem zbZ:KnOk Tryz.prog gmH kLaD:=zai.with (.cons zjl <| .cons zhS <| .cons zoy <| .cons zt2 <| .cons zoz <| .cons ztn <| .cons zty <| .cons zok .nil)
set_option maxHeartbeats 1000000 in
theorem law3_ok:CtrOk Tryz.prog gmH 5 (lawCtr [.slice nd,ints]):=by
 refine zao (K:=kLaD) zbZ Tryz.func5 rfl rfl Tryz.call5 rfl (by decide) (by intro h;cases h) ?_;rintro w0 X hX ⟨(r:List Nd),(dr:List Int),_⟩ hp;change AWP _ _ _ _ _ ⟨[(0,⟨.slice nd,r⟩),(1,⟨ints,dr⟩)],[],0⟩ _;have m0:(0:Int)≤3:=by decide
 have m1:(3:Int)≤1000000:=by decide
 obtain⟨htr,hsz,htx⟩:=zo9 (k:=80) (l:=dr) m0 m1;have hfm:=zro (k:=80) (l:=dr) m0 m1;refine za (za ?_);refine zaa hX zbZ rfl ?_ ?_
 ·trivial
 refine za (za ?_);refine zaa hX zbZ rfl ?_ ?_
 ·trivial
 refine za (za ?_);refine zaa hX zbZ rfl ?_ ?_
 ·repeat'(first|exact trivial|assumption|exact m0|exact m1|(refine⟨?_,?_⟩)|(intro _)|exact zb rfl|exact zd _|(simp_all [allP];done))
 obtain⟨t,ht⟩:∃ t,t=zhz 4 80 dr 3:=⟨_,rfl⟩;rw[<-ht]at htr hsz htx hfm;refine zaq (σ':=⟨[(0,⟨.slice nd,r⟩),(5,⟨.bool,true⟩),(6,⟨.slice nd,t.flat 0⟩)],[],0⟩) ⟨⟨rfl,rfl,vRul (by rw[ht];rfl),trivial⟩,trivial,rfl,rfl⟩ ?_;clear ht;have hpt:=ziI (by omega) (zgf htr (by omega));refine za (za ?_);refine zaa hX zbZ rfl ?_ ?_
 ·trivial
 refine zaq (σ':=⟨[(0,⟨.slice nd,r⟩),(5,⟨.bool,true⟩),(6,⟨.slice nd,t.flat 0⟩),(7,⟨.str,t.text⟩),(8,⟨i64,(0:Int)⟩)],[],0⟩) ⟨⟨rfl,rfl,rfl,vStr (congrArg (fun x=>x.1) hfm),vI64 (congrArg (fun x=>x.2) hfm),trivial⟩,trivial,rfl,rfl⟩ ?_;refine za (za ?_);refine zaa hX zbZ rfl ?_ ?_
 ·trivial
 refine zaq (σ':=⟨[(0,⟨.slice nd,r⟩),(5,⟨.bool,true⟩),(6,⟨.slice nd,t.flat 0⟩),(8,⟨i64,(0:Int)⟩),(9,⟨.slice nd,t.flat 0⟩),(10,⟨i64,(0:Int)⟩),(11,⟨i64,(0:Int)⟩)],[],0⟩) ⟨⟨rfl,rfl,rfl,rfl,vRul (congrArg (fun x=>x.1) hpt),vI64 (congrArg (fun x=>x.2.1) hpt),vI64 (congrArg (fun x=>x.2.2) hpt),trivial⟩,trivial,rfl,rfl⟩ ?_;refine za (za ?_);refine zaa hX zbZ rfl ?_ ?_
 ·repeat'(first|exact trivial|assumption|(refine⟨?_,?_⟩)|(intro _)|exact zb rfl|exact zd _|(simp_all [allP];done))
 refine zae rfl (fun hb=>?_) (fun _=>?_)
 ·have hb:(bif (bif (bif ((0:Int) != 0) then true else ((0:Int) != 0)) then true else ((0:Int) != 0)) then true else !zlk (t.flat 0) (t.flat 0))=true:=hb;rw[zet.2 rfl]at hb;cases hb
 apply zab;refine za (za ?_);refine zaa hX zbZ rfl ?_ ?_
 ·trivial
 refine zae rfl (fun _=>?_) (fun _=>?_)
 ·(repeat(first|apply zaf|apply zab|apply zaj|apply zad|apply zac|refine zaa hX zbZ rfl trivial ?_|refine zaa hX zbZ rfl id ?_|refine zaa hX zbZ rfl ⟨id,id⟩ ?_));exact zm ⟨.inr rfl,zat rfl trivial rfl rfl rfl⟩
 apply zab;refine za (za ?_);refine zaa hX zbZ rfl ?_ ?_
 ·trivial
 rcases zrO r with ⟨e,he,hF⟩|⟨hw,hl,hF⟩
 ·refine zaq (σ':=⟨[(5,⟨.bool,true⟩),(12,⟨.str,[]⟩),(13,⟨i64,e⟩)],[],0⟩) ⟨⟨rfl,vStr (congrArg (fun x=>x.1) hF),vI64 (congrArg (fun x=>x.2) hF),trivial⟩,trivial,rfl,rfl⟩ ?_;refine za (za ?_);refine zaa hX zbZ rfl ?_ ?_
  ·trivial
  refine zae rfl (fun _=>?_) (fun hb=>?_)
  ·refine za (za ?_);refine zaa hX zbZ rfl ?_ ?_
   ·repeat'(first|exact trivial|assumption|(refine⟨?_,?_⟩)|(intro _)|exact zb rfl|exact zd _|(simp_all [allP];done))
   refine zm ⟨.inr rfl,zat rfl trivial rfl rfl ?_⟩;show (bif eqb .str [] [] then true else false)=true;rw[zbt.2 rfl];rfl
  ·have hb:(e != 0)=false:=hb;rw[bne_iff_ne.2 he]at hb;cases hb
 have h2:=zle hw;have hs2:=zfx hw;obtain⟨⟨r1,r2⟩,_⟩:=zbX hw;have hp2:=ziI hl (zgf h2 (by omega));have hf2:=zmJ h2 (by omega);rw[if_neg (by omega)]at hf2;have hlen:((zbo r).flat 0).length=r.length:=by rw[xg,hs2]
 have hpo:zrb r=(zbo r).flat 0:=rfl;generalize zbo r=u at *;refine zaq (σ':=⟨[(0,⟨.slice nd,r⟩),(5,⟨.bool,true⟩),(12,⟨.str,u.text⟩),(13,⟨i64,(0:Int)⟩)],[],0⟩) ⟨⟨rfl,rfl,vStr (congrArg (fun x=>x.1) hF),vI64 (congrArg (fun x=>x.2) hF),trivial⟩,trivial,rfl,rfl⟩ ?_;refine za (za ?_);refine zaa hX zbZ rfl ?_ ?_
 ·trivial
 refine zae rfl (fun hb=>absurd (show ((0:Int) != 0)=true from hb) (by decide)) (fun _=>?_);apply zab;refine za (za ?_);refine zaa hX zbZ rfl ?_ ?_
 ·trivial
 refine zaq (σ':=⟨[(0,⟨.slice nd,r⟩),(5,⟨.bool,true⟩),(12,⟨.str,u.text⟩),(14,⟨.slice nd,u.flat 0⟩),(16,⟨i64,(0:Int)⟩)],[],0⟩) ⟨⟨rfl,rfl,rfl,vRul (congrArg (fun x=>x.1) hp2),vI64 (congrArg (fun x=>x.2.2) hp2),trivial⟩,trivial,rfl,rfl⟩ ?_;refine za (za ?_);refine zaa hX zbZ rfl ?_ ?_
 ·trivial
 refine za (za ?_);refine zaa hX zbZ rfl ?_ ?_
 ·trivial
 refine zaq (σ':=⟨[(0,⟨.slice nd,r⟩),(5,⟨.bool,true⟩),(12,⟨.str,u.text⟩),(14,⟨.slice nd,u.flat 0⟩),(16,⟨i64,(0:Int)⟩),(17,⟨.str,u.text⟩),(18,⟨i64,(0:Int)⟩),(20,⟨i64,(0:Int)⟩)],[],0⟩) ⟨⟨rfl,rfl,rfl,rfl,rfl,vStr (congrArg (fun x=>x.1) hf2),vI64 (congrArg (fun x=>x.2) hf2),vI64 (congrArg (fun x=>x.2) hF),trivial⟩,trivial,rfl,rfl⟩ ?_;refine za (za ?_);refine zaa hX zbZ rfl ?_ ?_
 ·repeat'(first|exact trivial|assumption|exact hw|(refine⟨?_,?_⟩)|(intro _)|exact zb rfl|exact zd _|(simp_all [allP];done))
 refine zm ⟨.inr rfl,zat rfl trivial rfl rfl ?_⟩;show (bif (bif (bif (bif (bif (bif ((0:Int)==0) then ((0:Int)==0) else false) then ((0:Int)==0) else false) then eqb .str u.text u.text else false) then ((((u.flat 0).length:Nat):Int)==((r.length:Nat):Int)) else false) then zlk (u.flat 0) (zrb r) else false) then true else false)=true;rw[hpo,zet.2 rfl,zbt.2 rfl,hlen];simp
end
end Go.Proofs.YtpeaigpfddalcaaGreatDoor
