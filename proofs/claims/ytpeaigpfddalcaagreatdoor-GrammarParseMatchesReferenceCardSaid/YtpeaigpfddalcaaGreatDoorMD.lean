/-
  Texts of this claim, joined: what the statement's proof uses.
-/
import Derived.Test.YtpeaigpfddalcaaGreatDoorMC
set_option linter.unusedSimpArgs false
set_option linter.unusedVariables false
set_option maxRecDepth 100000
open Array renaming getElem?_eq_getElem -> yi,getElem?_eq_some_iff -> zo,toList -> vf
open BitVec renaming ofInt -> yP,ofNat -> yd
open Bool renaming and_eq_false_iff -> jl,and_eq_true -> zd,and_false -> qe,eq_false_iff -> qg,eq_iff_iff -> yb,false_and -> vB,false_ne_true -> yM,not_eq_false' -> yC,not_eq_true' -> zs,or_eq_false_iff -> qc,or_eq_true -> zJ
open ByteArray renaming data_extract -> jP,ext -> uK,mk -> vm
open Go renaming FuncId -> zO,Operand -> zG,TypeId -> zp,World -> zi
open Go.Ending renaming returned -> uC
open Go.Extern.BytealgIndexByte renaming indexByte -> kO
open Go.Fence renaming wide -> yz
open Go.Lib renaming decDigits -> xr,indexByte -> xj
open Go.Operand renaming const -> uJ
open Go.Proofs.YtpeaigpfddalcaaGreatDoor renaming CtrOk -> yB
open Go.Proofs.YtpeaigpfddalcaaGreatDoor.AL renaming all -> zY,nil -> yf,own -> yl,step -> jz,take -> yy
open Go.Proofs.YtpeaigpfddalcaaGreatDoor.AWP renaming frz -> qS,go -> za,loop -> yD,ret -> zm,via -> yO
open Go.Proofs.YtpeaigpfddalcaaGreatDoor.AllN renaming cons -> jj,nil -> jE
open Go.Proofs.YtpeaigpfddalcaaGreatDoor.Ownr renaming plain -> qh
open Go.Proofs.YtpeaigpfddalcaaGreatDoor.StepA renaming eval -> yZ
open Go.Proofs.YtpeaigpfddalcaaGreatDoor.Tok renaming cls -> zF,text -> zD
open Go.Proofs.YtpeaigpfddalcaaGreatDoor.Tr renaming flat -> vl,len_flat -> j6
open Go.Region renaming wanted -> zH
open Go.RowKit.Below renaming heap_setCell -> xp,refl -> zU
open Go.Utf8 renaming decode -> ky
open Go.Value renaming int -> yJ
open Go.Value.agg renaming inj -> vP
open Go.World renaming alloc_heap_new -> xo,putObj_heap_other -> xf,putObj_heap_same -> qp
open Int renaming le_refl -> yN,natCast_nonneg -> zn,toNat_natCast -> zy,toNat_of_nonneg -> qm,zero_add -> k5
open List renaming all_eq_true -> zW,append_assoc -> zz,append_nil -> z7,cons_append -> qt,drop_eq_getElem_cons -> zI,drop_left -> qy,drop_length -> jA,foldl_append -> jT,getD_eq_getElem?_getD -> zR,getElem?_append_right -> qB,getElem?_eq_getElem -> zT,getElem?_set -> k6,getElem_mem -> xU,length -> zf,length_append -> zh,length_cons -> zr,length_drop -> ya,length_map -> jg,length_nil -> zX,length_pos_iff -> xN,length_singleton -> zN,length_take -> yW,map_append -> xO,mem_append -> yL,mem_cons -> zP,mem_cons_of_mem -> yk,mem_cons_self -> zS,mem_singleton -> zw,nil_append -> yV,set_append_right -> jW,takeWhile_append_of_pos -> jf,takeWhile_cons -> yE,take_left -> xZ,take_length -> xe,take_succ_cons -> qV,take_succ_eq_append_getElem -> zE
open Nat renaming blt -> z6,gcd -> xP,gcd_pos_of_pos_right -> vR,lcm -> jd,le_of_ble_eq_true -> zb,le_refl -> zj,le_trans -> zV,mul_div_cancel_left -> v6,not_lt_zero -> yg,zero_add -> yu,zero_le -> zk
open Option.some renaming inj -> zx
open UInt8 renaming le_iff_toNat_le -> yK,ofNat -> yr,ofNat_toNat -> vK
open Go Go.RowKit
namespace Go.Proofs.YtpeaigpfddalcaaGreatDoor
section
def zc9:List Shp:=[(0,false,(0,0,()),()),(0,false,(0,0,()),()),(0,true,(0,0,()),()),(0,true,(1,16,()),()),(0,true,(-40,40,()),()),(0,false,(0,6,()),()),(0,true,(1,54,()),()),(0,true,(0,0,()),()),(2,false,(0,0,()),()),(2,false,(0,0,()),()),(2,false,(0,0,()),()),(1,false,(0,0,()),()),(1,false,(0,0,()),()),(1,false,(0,0,()),()),(1,false,(0,1099511627776,()),()),(1,false,(0,1099511627776,()),()),(1,true,(-400,400,()),()),(2,false,(0,0,()),()),(0,false,(0,0,()),())]
def zmw:Ctr:={ args:=[],pre:=fun _=>[],res:=.arr 19 shp,own:=none,out:=fun _=>zc9 }
set_option maxHeartbeats 400000 in
theorem zkB:yB Tryz.prog gmH 74 zmw:=by
 refine zap (K:=gmK) zak Tryz.func74 rfl rfl Tryz.call74 rfl (by decide) (by intro h;cases h) ?_;rintro w0 X hX _ hp;change AWP _ _ _ _ _ ⟨[],[],0⟩ _;apply zae;refine za (za ?_);refine zaa hX zak rfl ?_ ?_
 ·trivial
 refine za (za ?_);refine zaa hX zak rfl ?_ ?_
 ·trivial
 refine zam (σ':=⟨[(0,⟨.optr (.arr 19 shp),⟨0,.arr 19 shp,.here⟩⟩)],[(0,some (.box (.arr 19 shp) zc9))],1⟩) ⟨⟨by kernel_rfl,trivial⟩,⟨by kernel_rfl,trivial⟩,rfl,rfl⟩ ?_;exact zm ⟨.inr rfl,zas rfl trivial rfl rfl rfl⟩
set_option maxRecDepth 10000
abbrev Tk:=Int×List UInt8×Int
def tkOf (t:TokT):Tk:=(zF t,zD t,Tok.n t)
def Toks (s:List UInt8):Int->List Tk->Prop
 |o,[]=>zF (zc1 s o)=0
 |o,a::l=>zF (zc1 s o)≠0∧tkOf (zc1 s o)=a∧Toks s (Tok.at (zc1 s o)+Tok.size (zc1 s o)) l
def Sq (s:List UInt8) (t:TokT):List Tk->Prop
 | []=>zF t=0
 |a::l=>zF t≠0∧tkOf t=a∧Toks s (Tok.at t+Tok.size t) l
def tkIs (w:List UInt8):List Tk->Bool
 | []=>false
 |a::_=>((a.1==1)||(a.1==4))&&decide (a.2.1=w)
theorem okb {ε α β:Type} {e:Except ε α} {x:α} (h:e= .ok x) (f:α->Except ε β):(e >>= f)=f x:=by
 subst h;rfl
section
variable {s:List UInt8}
theorem zlT {o:Int} {l:List Tk} (h:Toks s o l):Sq s (zc1 s o) l:=by
 cases l with
 |nil=>exact h
 |cons a l=>exact h
theorem ziI {st:GSt} {l:List Tk} (h:Sq s st.1 l) (w:List UInt8):gIs st w=tkIs w l:=by
 cases l with
 |nil=>
  have h:zF st.1=0:=h;unfold gIs tkIs;rw[h];rfl
 |cons a l=>
  obtain⟨_,h2,_⟩:=h;unfold gIs tkIs;rw[<-h2];rfl
structure Got (s:List UInt8) (st:GSt) (k:Int) (l:List Tk) (st':GSt):Prop where
 ok:GOk s st'
 sq:Sq s st'.1 l
 n:st'.2=st.2+k
theorem Got.trans {a b c:GSt} {j k:Int} {l l':List Tk} (h:Got s a j l b) (h':Got s b k l' c):Got s a (j+k) l' c:=⟨h'.ok,h'.sq,by rw[h'.n,h.n];omega⟩
theorem Got.trans0 {a b c:GSt} {j:Int} {l l':List Tk} (h:Got s a j l b) (h':Got s b 0 l' c):Got s a j l' c:=⟨h'.ok,h'.sq,by rw[h'.n,h.n];omega⟩
theorem zrE {st:GSt} {a:Tk} {l:List Tk} (hg:GOk s st) (h:Sq s st.1 (a::l)):Got s st 0 l (gAdv s st):=
 ⟨(zb2 hg h.1).1,zlT h.2.2,by show st.2=st.2+0;omega⟩
theorem zhh {st:GSt} {a:Tk} {l:List Tk} {w:List UInt8} (hg:GOk s st) (h:Sq s st.1 (a::l)) (hw:tkIs w (a::l)=true):za0 s st w= .ok (gAdv s st)∧Got s st 0 l (gAdv s st):=by
 refine⟨?_,zrE hg h⟩;unfold za0 zaG;rw[ziI h,hw];rfl
theorem zjJ {st:GSt} {a:Tk} {l:List Tk} (hg:GOk s st) (h:Sq s st.1 (a::l)) (hn:st.2 < 64):zbj s st= .ok (gAdv s (st.1,st.2+1))∧Got s st 1 l (gAdv s (st.1,st.2+1)):=by
 refine⟨?_,?_,?_,rfl⟩
 ·unfold zbj zaG;rw[decide_eq_true hn];rfl
 ·exact (zb2 (st:=(st.1,st.2+1)) ⟨hg.1,by have:=hg.2;constructor<;>simp only[]<;>omega⟩ h.1).1
 ·exact zlT h.2.2
def tkW (w:List UInt8):Tk:=(1,w,0)
def tkR (w:List UInt8):Tk:=(2,w,0)
def tkN (n:Int):Tk:=(3,deI n,n)
def tkS (c:UInt8):Tk:=(4,[c],0)
theorem zbC {st:GSt} {x lo hi:Int} {l:List Tk} (hg:GOk s st) (h:Sq s st.1 (tkN x::l)) (h1:lo≤x) (h2:x≤hi):zaR s st lo hi= .ok (x,gAdv s st)∧Got s st 0 l (gAdv s st):=by
 refine⟨?_,zrE hg h⟩;obtain⟨_,e,_⟩:=h;have e1:zF st.1=3:=congrArg (fun a=>a.1) e;have e2:Tok.n st.1=x:=congrArg (fun a=>a.2.2) e;unfold zaR zaG;rw[e1,e2,decide_eq_true h1,decide_eq_true h2];rfl
def Ris (lo hi:Int) (z:Bool):Int->List Int->Prop
 |_,[]=>True
 |last,x::r=>last < x∧lo≤x∧x≤hi∧(z=true∨x≠0)∧Ris lo hi z x r
theorem zpC {lo hi:Int} {z:Bool} {l:List Tk}:∀ (xs:List Int) (k:Nat) (acc:List Int) (st:GSt),xs.length < k->(acc=[]->xs≠ [])->acc.length+xs.length≤64->Ris lo hi z (acc.getLast?.getD (lo - 1)) xs->GOk s st->Sq s st.1 (xs.map tkN++tkS 41::l)->
  ∃ st',zci s lo hi z k st acc= .ok (acc++xs,st')∧Got s st 0 (tkS 41::l) st'
 |_,0,_,_,hk,_,_,_,_,_=>by omega
 | [],k+1,acc,st,_,hne,_,_,hg,h=>by
  refine⟨st,?_,hg,h,by omega⟩;have hacc:acc≠ []:=fun e=>hne e rfl;have hc:gIs st zbu=true:=by rw[ziI h];rfl
  unfold zci;rw[hc,z7,if_pos (by cases acc with |nil=>exact absurd rfl hacc|cons _ _=>rfl)]
 |x::r,k+1,acc,st,hk,hne,hlen,hr,hg,h=>by
  obtain⟨r1,r2,r3,r4,r5⟩:=hr;simp only[zr]at hk hlen;have h:Sq s st.1 (tkN x::(r.map tkN++tkS 41::l)):=h;obtain⟨hn,hgot⟩:=zbC hg h r2 r3;obtain⟨_,e,_⟩:=id h;have e1:zF st.1=3:=congrArg (fun a=>a.1) e;have e2:Tok.n st.1=x:=congrArg (fun a=>a.2.2) e;have hc:gIs st zbu=false:=by rw[ziI h];rfl
  have hl:(acc++ [x]).getLast?.getD (lo - 1)=x:=by rw[List.getLast?_append];rfl
  obtain⟨st',h1,h2⟩:=zpC r k (acc++ [x]) (gAdv s st) (by omega) (fun e=>by simp at e) (by rw[zh,zN];omega) (by rw[hl];exact r5) hgot.ok hgot.sq;refine⟨st',?_,hgot.trans0 h2⟩;rw[zz]at h1;unfold zci;rw[hc,qe,if_neg yM];have c1:zaG st (zF st.1==3) 3= .ok ():=by rw[e1];rfl
  have c2:zaG st (decide (acc.length < 64)) 2= .ok ():=by rw[decide_eq_true (by omega)];rfl
  have c3:zaG st (decide (Tok.n st.1 > acc.getLast?.getD (lo - 1))&&(z||(Tok.n st.1 != 0))) 1= .ok ():=by
   rw[e2,decide_eq_true r1];have:(z||(x != 0))=true:=by
    rcases r4 with rfl|r4
    ·rfl
    ·rw[zJ];exact .inr (bne_iff_ne.2 r4)
   rw[this];rfl
  refine (okb c1 _).trans ((okb c2 _).trans ((okb c3 _).trans ((okb hn _).trans ?_)));exact h1
def zdr (l:List Int):List Tk:=tkS 40::(l.map tkN++ [tkS 41])
theorem zhT {lo hi:Int} {z:Bool} {xs:List Int} {l:List Tk} {st:GSt} (hne:xs≠ []) (hlen:xs.length≤64) (hr:Ris lo hi z (lo - 1) xs) (hg:GOk s st) (h:Sq s st.1 (zdr xs++l)):
  ∃ st',zdc s st lo hi z= .ok (xs,st')∧Got s st 0 l st':=by
 have h:Sq s st.1 (tkS 40::(xs.map tkN++ [tkS 41]++l)):=h;obtain⟨e1,g1⟩:=zhh (w:=zc6) hg h rfl;obtain⟨s2,e2,g2⟩:=zpC (lo:=lo) (hi:=hi) (z:=z) (l:=l) xs 66 [] (gAdv s st) (by omega) (fun _=>hne) (by simpa using hlen) hr g1.ok (by have:=g1.sq;rwa[zz]at this);obtain⟨e3,g3⟩:=zhh (w:=zbu) g2.ok g2.sq rfl;refine⟨gAdv s s2,?_,(g1.trans0 g2).trans0 g3⟩;unfold zdc;exact (okb e1 _).trans ((okb e2 _).trans ((okb e3 _).trans rfl))
def zeF (n:Int):Tk:=tkW (if n=1 then zdv else zfj)
theorem zpA {st:GSt} {x:Int} {l:List Tk} (hx:x=0∨x=1) (hg:GOk s st) (h:Sq s st.1 (zeF x::l)):zdt s st= .ok (x,gAdv s st)∧Got s st 0 l (gAdv s st):=by
 refine⟨?_,zrE hg h⟩;have i1:=ziI h zfj;have i2:=ziI h zdv;obtain⟨_,e,_⟩:=h;have e1:zD st.1=(zeF x).2.1:=congrArg (fun a=>a.2.1) e;unfold zdt zaG;rw[i1,i2,e1];rcases hx with rfl|rfl<;>rfl
end
def zk5 (n:Nd):List Tk:=
 if ndK n=1 then [tkW zfN,tkN (ndN n),tkN (ndM n)]
 else if ndK n=2 then [tkW zdO,tkN (ndC n),tkN (ndN n),tkN (ndM n)]
 else if ndK n=3 then tkW zbM::tkN (ndC n)::zdr (ndI n)
 else if ndK n=4 then tkW zaW::tkN (ndC n)::zdr (ndI n)
 else if ndK n=5 then tkW za7::zdr (ndI n)
 else if ndK n=6 then tkW zcP::tkN (ndC n)::zdr (ndI n)
 else if ndK n=7 then [tkW wNth,tkN (ndC n),tkN (ndN n),tkN (ndM n),zeF (ndL n)]
 else if ndK n=18 then [tkR (ndS n)]
 else []
def zjt (b:List Tk) (n:Nd):List Tk:=
 if ndK n=11 then [tkW zdQ,tkN (ndN n)]
 else if ndK n=12 then [tkW zfM,tkN (ndN n)]
 else if ndK n=13 then [tkW zdP,tkN (ndN n)]
 else if ndK n=14 then tkW zek::zdr (ndI n)
 else if ndK n=15 then tkW zbX::zdr (ndI n)
 else if ndK n=16 then tkW wPos::tkN (ndC n)::zeF (ndM n)::zdr (ndI n)
 else if ndK n=17 then tkW zbG::tkN (ndN n)::tkW wOf::b
 else []
def Tr.root:Tr->Nd
 | .leaf n=>n
 | .un n _=>n
 | .bin n _ _=>n
def Tr.lev (t:Tr):Int:=levS (ndK t.root)
def parT (c:Bool) (l:List Tk):List Tk:=if c then l else tkS 40::(l++ [tkS 41])
def Tr.toks:Tr->List Tk
 | .leaf n=>zk5 n
 | .un n a=>parT (decide (a.lev≥4)) a.toks++zjt [] n
 | .bin n a b=>if ndK n=17 then parT (decide (a.lev≥4)) a.toks++zjt (parT (decide (b.lev≥5)) b.toks) n
  else parT (decide (a.lev≥levS (ndK n))) a.toks++(tkW (opWd (levS (ndK n)))::parT (decide (b.lev≥levS (ndK n)+1)) b.toks)
def zd2 (k:Int):Shp:=zc9.getD k.toNat (0,false,(0,0,()),())
def zfq (n:Nd):Bool:=bif (zd2 (ndK n)).2.1 then inB (ndC n) 0 2 else ndC n==0
def zfh (w:List UInt8):Bool:=decide (w≠ [])&&decide (w.length≤32)&&(w.head?.all isLt&&w.all isPt)
def zjQ (n:Nd):Bool:=bif ndK n==18 then zfh (ndS n) else decide (ndS n=[])
def zbI (n:Nd):Bool:=inB (ndK n) 1 18&&decide ((ndI n).length≤64)&&(zfq n&&(zjQ n&&(za3 (ndI n) (zd2 (ndK n)).2.2.1&&zdj n)))
def TrOk:Tr->Prop
 | .leaf n=>zbI n=true∧¬ (8≤ndK n∧ndK n≤17)∧ndR n=0∧(ndK n≠7->ndL n=0)
 | .un n a=>zbI n=true∧(11≤ndK n∧ndK n≤16)∧(ndL n=0∧ndR n=0)∧TrOk a
 | .bin n a b=>zbI n=true∧((8≤ndK n∧ndK n≤10)∨ndK n=17)∧(ndL n=0∧ndR n=0)∧TrOk a∧TrOk b
theorem zaU {n lo hi:Int}:inB n lo hi=true↔lo≤n∧n≤hi:=by
 unfold inB;rw[zd,decide_eq_true_iff,decide_eq_true_iff]
theorem zaS {n:Nd} (h:zbI n=true):(1≤ndK n∧ndK n≤18)∧(ndI n).length≤64∧zfq n=true∧zjQ n=true∧za3 (ndI n) (zd2 (ndK n)).2.2.1=true∧zdj n=true:=by
 unfold zbI at h;simp only[zd,zaU,decide_eq_true_iff]at h;exact⟨h.1.1,h.1.2,h.2.1,h.2.2.1,h.2.2.2.1,h.2.2.2.2⟩
theorem ris_of {l:List Int} {lo hi:Int} (h:∀ i,i < l.length->ziB l (lo,hi,()) i=false):Ris lo hi (decide (¬ lo < 0)) (lo - 1) l:=by
 have key:∀ (r p:List Int) (last:Int),l=p++r->(p≠ []->last=l.getD (p.length - 1) 0)->(p=[]->last=lo - 1)->Ris lo hi (decide (¬ lo < 0)) last r:=by
  intro r
  induction r with
  |nil=>intro p last _ _ _;trivial
  |cons x r ih=>
   intro p last hl hp hp0;have hlen:p.length < l.length:=by rw[hl,zh,zr];omega
   have hx:l.getD p.length 0=x:=by
    rw[hl,zR,qB (zj _),Nat.sub_self];rfl
   have hb:=h p.length hlen;unfold ziB at hb;rw[hx]at hb;simp only[qc,yC,zaU,jl,decide_eq_false_iff_not,beq_eq_false_iff_ne]at hb;obtain⟨⟨⟨b1,b2⟩,b3⟩,b4⟩:=hb;refine⟨?_,b1,b2,?_,ih (p++ [x]) x (by rw[hl];simp) (fun _=>?_) (fun e=>by simp at e)⟩
   ·cases p with
    |nil=>rw[hp0 rfl];omega
    |cons y p=>
     rw[hp (by simp)];rcases b3 with b3|b3
     ·exact absurd (by simp:0 < (y::p).length) b3
     ·omega
   ·rcases b4 with b4|b4
    ·exact .inr b4
    ·exact .inl (decide_eq_true b4)
   ·rw[show (p++ [x]).length - 1=p.length by simp,hx]
 exact key l [] (lo - 1) rfl (fun h=>absurd rfl h) fun _=>rfl
theorem zfC {l:List Int} {lo hi:Int} (h0:¬ (lo=0∧hi=0)) (h:za3 l (lo,hi,())=true):l≠ []∧Ris lo hi (decide (¬ lo < 0)) (lo - 1) l:=by
 have hz:zh2 (lo,hi,())=false:=by
  rw[qg];intro e;unfold zh2 at e;rw[zd,beq_iff_eq,beq_iff_eq]at e;exact h0 e
 unfold za3 at h;rw[hz,cond_false,zd,decide_eq_true_iff,zW]at h;refine⟨fun e=>by rw[e]at h;exact absurd h.2 (by decide),ris_of fun i hi=>?_⟩;have:=h.1 i (List.mem_range.2 hi);rwa[zs]at this
theorem zdD {l:List Int} (h:za3 l (0,0,())=true):l=[]:=by
 have h:(((l.length:Nat):Int)==0)=true:=h;have:=beq_iff_eq.1 h;exact List.eq_nil_of_length_eq_zero (by omega)
theorem fld1 {n:Nd} (h:zbI n=true) (k:ndK n=1):n=(1,0,ndL n,ndR n,ndN n,ndM n,[],[],())∧(1≤ndN n∧ndN n≤1099511627776)∧(0≤ndM n∧ndM n≤1099511627776):=by
 obtain⟨_,hlen,hc,hm,hl,hn⟩:=zaS h;obtain⟨k',c,L,R,N,M,I,S,⟨⟩⟩:=n;obtain rfl:k'=1:=k;have hc2:(c==0)=true:=hc;obtain rfl:=beq_iff_eq.1 hc2;have hm2:decide (S=[])=true:=hm;obtain rfl:=of_decide_eq_true hm2;obtain rfl:=zdD (show za3 I (0,0,())=true from hl);have hn2:(bif inB N 1 1099511627776 then inB M 0 1099511627776 else false)=true:=hn;simp only[zc2,zd,zaU,beq_iff_eq,zs,beq_eq_false_iff_ne]at hn2;exact⟨rfl,hn2.1,hn2.2⟩
theorem fld2 {n:Nd} (h:zbI n=true) (k:ndK n=2):n=(2,ndC n,ndL n,ndR n,ndN n,ndM n,[],[],())∧(0≤ndC n∧ndC n≤2)∧(1≤ndN n∧ndN n≤400)∧(0≤ndM n∧ndM n≤ndN n - 1):=by
 obtain⟨_,hlen,hc,hm,hl,hn⟩:=zaS h;obtain⟨k',c,L,R,N,M,I,S,⟨⟩⟩:=n;obtain rfl:k'=2:=k;have hc2:inB c 0 2=true:=hc;rw[zaU]at hc2;have hm2:decide (S=[])=true:=hm;obtain rfl:=of_decide_eq_true hm2;obtain rfl:=zdD (show za3 I (0,0,())=true from hl);have hn2:(bif inB N 1 400 then inB M 0 (N - 1) else false)=true:=hn;simp only[zc2,zd,zaU,beq_iff_eq,zs,beq_eq_false_iff_ne]at hn2;exact⟨rfl,hc2,hn2.1,hn2.2⟩
theorem fld3 {n:Nd} (h:zbI n=true) (k:ndK n=3):n=(3,ndC n,ndL n,ndR n,0,0,ndI n,[],())∧(0≤ndC n∧ndC n≤2)∧(ndI n≠ []∧(ndI n).length≤64∧Ris (1) 16 true (0) (ndI n)):=by
 obtain⟨_,hlen,hc,hm,hl,hn⟩:=zaS h;obtain⟨k',c,L,R,N,M,I,S,⟨⟩⟩:=n;obtain rfl:k'=3:=k;have hc2:inB c 0 2=true:=hc;rw[zaU]at hc2;have hm2:decide (S=[])=true:=hm;obtain rfl:=of_decide_eq_true hm2;have hl2:=zfC (by decide) (show za3 I (1,16,())=true from hl);have hn2:(bif N==0 then M==0 else false)=true:=hn;simp only[zc2,zd,zaU,beq_iff_eq,zs,beq_eq_false_iff_ne]at hn2;obtain⟨rfl,rfl⟩:=hn2;exact⟨rfl,hc2,⟨hl2.1,hlen,hl2.2⟩⟩
theorem fld4 {n:Nd} (h:zbI n=true) (k:ndK n=4):n=(4,ndC n,ndL n,ndR n,0,0,ndI n,[],())∧(0≤ndC n∧ndC n≤2)∧(ndI n≠ []∧(ndI n).length≤64∧Ris (-40) 40 false (-41) (ndI n)):=by
 obtain⟨_,hlen,hc,hm,hl,hn⟩:=zaS h;obtain⟨k',c,L,R,N,M,I,S,⟨⟩⟩:=n;obtain rfl:k'=4:=k;have hc2:inB c 0 2=true:=hc;rw[zaU]at hc2;have hm2:decide (S=[])=true:=hm;obtain rfl:=of_decide_eq_true hm2;have hl2:=zfC (by decide) (show za3 I (-40,40,())=true from hl);have hn2:(bif N==0 then M==0 else false)=true:=hn;simp only[zc2,zd,zaU,beq_iff_eq,zs,beq_eq_false_iff_ne]at hn2;obtain⟨rfl,rfl⟩:=hn2;exact⟨rfl,hc2,⟨hl2.1,hlen,hl2.2⟩⟩
theorem fld5 {n:Nd} (h:zbI n=true) (k:ndK n=5):n=(5,0,ndL n,ndR n,0,0,ndI n,[],())∧(ndI n≠ []∧(ndI n).length≤64∧Ris (0) 6 true (-1) (ndI n)):=by
 obtain⟨_,hlen,hc,hm,hl,hn⟩:=zaS h;obtain⟨k',c,L,R,N,M,I,S,⟨⟩⟩:=n;obtain rfl:k'=5:=k;have hc2:(c==0)=true:=hc;obtain rfl:=beq_iff_eq.1 hc2;have hm2:decide (S=[])=true:=hm;obtain rfl:=of_decide_eq_true hm2;have hl2:=zfC (by decide) (show za3 I (0,6,())=true from hl);have hn2:(bif N==0 then M==0 else false)=true:=hn;simp only[zc2,zd,zaU,beq_iff_eq,zs,beq_eq_false_iff_ne]at hn2;obtain⟨rfl,rfl⟩:=hn2;exact⟨rfl,⟨hl2.1,hlen,hl2.2⟩⟩
theorem fld6 {n:Nd} (h:zbI n=true) (k:ndK n=6):n=(6,ndC n,ndL n,ndR n,0,0,ndI n,[],())∧(0≤ndC n∧ndC n≤2)∧(ndI n≠ []∧(ndI n).length≤64∧Ris (1) 54 true (0) (ndI n)):=by
 obtain⟨_,hlen,hc,hm,hl,hn⟩:=zaS h;obtain⟨k',c,L,R,N,M,I,S,⟨⟩⟩:=n;obtain rfl:k'=6:=k;have hc2:inB c 0 2=true:=hc;rw[zaU]at hc2;have hm2:decide (S=[])=true:=hm;obtain rfl:=of_decide_eq_true hm2;have hl2:=zfC (by decide) (show za3 I (1,54,())=true from hl);have hn2:(bif N==0 then M==0 else false)=true:=hn;simp only[zc2,zd,zaU,beq_iff_eq,zs,beq_eq_false_iff_ne]at hn2;obtain⟨rfl,rfl⟩:=hn2;exact⟨rfl,hc2,⟨hl2.1,hlen,hl2.2⟩⟩
theorem fld7 {n:Nd} (h:zbI n=true) (k:ndK n=7):n=(7,ndC n,ndL n,ndR n,ndN n,ndM n,[],[],())∧(0≤ndC n∧ndC n≤2)∧(-60≤ndN n∧ndN n≤60)∧ndN n≠0∧(0≤ndM n∧ndM n≤6)∧(0≤ndL n∧ndL n≤1):=by
 obtain⟨_,hlen,hc,hm,hl,hn⟩:=zaS h;obtain⟨k',c,L,R,N,M,I,S,⟨⟩⟩:=n;obtain rfl:k'=7:=k;have hc2:inB c 0 2=true:=hc;rw[zaU]at hc2;have hm2:decide (S=[])=true:=hm;obtain rfl:=of_decide_eq_true hm2;obtain rfl:=zdD (show za3 I (0,0,())=true from hl);have hn2:(bif (bif (bif inB N (-60) 60 then !(N==0) else false) then inB M 0 6 else false) then inB L 0 1 else false)=true:=hn;simp only[zc2,zd,zaU,beq_iff_eq,zs,beq_eq_false_iff_ne]at hn2;exact⟨rfl,hc2,hn2.1.1.1,hn2.1.1.2,hn2.1.2,hn2.2⟩
theorem fld8 {n:Nd} (h:zbI n=true) (k:ndK n=8):n=(8,0,ndL n,ndR n,0,0,[],[],()):=by
 obtain⟨_,hlen,hc,hm,hl,hn⟩:=zaS h;obtain⟨k',c,L,R,N,M,I,S,⟨⟩⟩:=n;obtain rfl:k'=8:=k;have hc2:(c==0)=true:=hc;obtain rfl:=beq_iff_eq.1 hc2;have hm2:decide (S=[])=true:=hm;obtain rfl:=of_decide_eq_true hm2;obtain rfl:=zdD (show za3 I (0,0,())=true from hl);have hn2:(bif N==0 then M==0 else false)=true:=hn;simp only[zc2,zd,zaU,beq_iff_eq,zs,beq_eq_false_iff_ne]at hn2;obtain⟨rfl,rfl⟩:=hn2;exact rfl
theorem fld9 {n:Nd} (h:zbI n=true) (k:ndK n=9):n=(9,0,ndL n,ndR n,0,0,[],[],()):=by
 obtain⟨_,hlen,hc,hm,hl,hn⟩:=zaS h;obtain⟨k',c,L,R,N,M,I,S,⟨⟩⟩:=n;obtain rfl:k'=9:=k;have hc2:(c==0)=true:=hc;obtain rfl:=beq_iff_eq.1 hc2;have hm2:decide (S=[])=true:=hm;obtain rfl:=of_decide_eq_true hm2;obtain rfl:=zdD (show za3 I (0,0,())=true from hl);have hn2:(bif N==0 then M==0 else false)=true:=hn;simp only[zc2,zd,zaU,beq_iff_eq,zs,beq_eq_false_iff_ne]at hn2;obtain⟨rfl,rfl⟩:=hn2;exact rfl
theorem fld10 {n:Nd} (h:zbI n=true) (k:ndK n=10):n=(10,0,ndL n,ndR n,0,0,[],[],()):=by
 obtain⟨_,hlen,hc,hm,hl,hn⟩:=zaS h;obtain⟨k',c,L,R,N,M,I,S,⟨⟩⟩:=n;obtain rfl:k'=10:=k;have hc2:(c==0)=true:=hc;obtain rfl:=beq_iff_eq.1 hc2;have hm2:decide (S=[])=true:=hm;obtain rfl:=of_decide_eq_true hm2;obtain rfl:=zdD (show za3 I (0,0,())=true from hl);have hn2:(bif N==0 then M==0 else false)=true:=hn;simp only[zc2,zd,zaU,beq_iff_eq,zs,beq_eq_false_iff_ne]at hn2;obtain⟨rfl,rfl⟩:=hn2;exact rfl
theorem zuA {n:Nd} (h:zbI n=true) (k:ndK n=11):n=(11,0,ndL n,ndR n,ndN n,0,[],[],())∧(-1099511627776≤ndN n∧ndN n≤1099511627776):=by
 obtain⟨_,hlen,hc,hm,hl,hn⟩:=zaS h;obtain⟨k',c,L,R,N,M,I,S,⟨⟩⟩:=n;obtain rfl:k'=11:=k;have hc2:(c==0)=true:=hc;obtain rfl:=beq_iff_eq.1 hc2;have hm2:decide (S=[])=true:=hm;obtain rfl:=of_decide_eq_true hm2;obtain rfl:=zdD (show za3 I (0,0,())=true from hl);have hn2:(bif inB N (-1099511627776) 1099511627776 then M==0 else false)=true:=hn;simp only[zc2,zd,zaU,beq_iff_eq,zs,beq_eq_false_iff_ne]at hn2;obtain rfl:=hn2.2;exact⟨rfl,hn2.1⟩
theorem zuz {n:Nd} (h:zbI n=true) (k:ndK n=12):n=(12,0,ndL n,ndR n,ndN n,0,[],[],())∧(0≤ndN n∧ndN n≤1099511627776):=by
 obtain⟨_,hlen,hc,hm,hl,hn⟩:=zaS h;obtain⟨k',c,L,R,N,M,I,S,⟨⟩⟩:=n;obtain rfl:k'=12:=k;have hc2:(c==0)=true:=hc;obtain rfl:=beq_iff_eq.1 hc2;have hm2:decide (S=[])=true:=hm;obtain rfl:=of_decide_eq_true hm2;obtain rfl:=zdD (show za3 I (0,0,())=true from hl);have hn2:(bif inB N 0 1099511627776 then M==0 else false)=true:=hn;simp only[zc2,zd,zaU,beq_iff_eq,zs,beq_eq_false_iff_ne]at hn2;obtain rfl:=hn2.2;exact⟨rfl,hn2.1⟩
theorem zuy {n:Nd} (h:zbI n=true) (k:ndK n=13):n=(13,0,ndL n,ndR n,ndN n,0,[],[],())∧(0≤ndN n∧ndN n≤1099511627776):=by
 obtain⟨_,hlen,hc,hm,hl,hn⟩:=zaS h;obtain⟨k',c,L,R,N,M,I,S,⟨⟩⟩:=n;obtain rfl:k'=13:=k;have hc2:(c==0)=true:=hc;obtain rfl:=beq_iff_eq.1 hc2;have hm2:decide (S=[])=true:=hm;obtain rfl:=of_decide_eq_true hm2;obtain rfl:=zdD (show za3 I (0,0,())=true from hl);have hn2:(bif inB N 0 1099511627776 then M==0 else false)=true:=hn;simp only[zc2,zd,zaU,beq_iff_eq,zs,beq_eq_false_iff_ne]at hn2;obtain rfl:=hn2.2;exact⟨rfl,hn2.1⟩
theorem zux {n:Nd} (h:zbI n=true) (k:ndK n=14):n=(14,0,ndL n,ndR n,0,0,ndI n,[],())∧(ndI n≠ []∧(ndI n).length≤64∧Ris (0) 1099511627776 true (-1) (ndI n)):=by
 obtain⟨_,hlen,hc,hm,hl,hn⟩:=zaS h;obtain⟨k',c,L,R,N,M,I,S,⟨⟩⟩:=n;obtain rfl:k'=14:=k;have hc2:(c==0)=true:=hc;obtain rfl:=beq_iff_eq.1 hc2;have hm2:decide (S=[])=true:=hm;obtain rfl:=of_decide_eq_true hm2;have hl2:=zfC (by decide) (show za3 I (0,1099511627776,())=true from hl);have hn2:(bif N==0 then M==0 else false)=true:=hn;simp only[zc2,zd,zaU,beq_iff_eq,zs,beq_eq_false_iff_ne]at hn2;obtain⟨rfl,rfl⟩:=hn2;exact⟨rfl,⟨hl2.1,hlen,hl2.2⟩⟩
theorem zuw {n:Nd} (h:zbI n=true) (k:ndK n=15):n=(15,0,ndL n,ndR n,0,0,ndI n,[],())∧(ndI n≠ []∧(ndI n).length≤64∧Ris (0) 1099511627776 true (-1) (ndI n)):=by
 obtain⟨_,hlen,hc,hm,hl,hn⟩:=zaS h;obtain⟨k',c,L,R,N,M,I,S,⟨⟩⟩:=n;obtain rfl:k'=15:=k;have hc2:(c==0)=true:=hc;obtain rfl:=beq_iff_eq.1 hc2;have hm2:decide (S=[])=true:=hm;obtain rfl:=of_decide_eq_true hm2;have hl2:=zfC (by decide) (show za3 I (0,1099511627776,())=true from hl);have hn2:(bif N==0 then M==0 else false)=true:=hn;simp only[zc2,zd,zaU,beq_iff_eq,zs,beq_eq_false_iff_ne]at hn2;obtain⟨rfl,rfl⟩:=hn2;exact⟨rfl,⟨hl2.1,hlen,hl2.2⟩⟩
theorem zuv {n:Nd} (h:zbI n=true) (k:ndK n=16):n=(16,ndC n,ndL n,ndR n,0,ndM n,ndI n,[],())∧(0≤ndC n∧ndC n≤2)∧(ndI n≠ []∧(ndI n).length≤64∧Ris (-400) 400 false (-401) (ndI n))∧(0≤ndM n∧ndM n≤1):=by
 obtain⟨_,hlen,hc,hm,hl,hn⟩:=zaS h;obtain⟨k',c,L,R,N,M,I,S,⟨⟩⟩:=n;obtain rfl:k'=16:=k;have hc2:inB c 0 2=true:=hc;rw[zaU]at hc2;have hm2:decide (S=[])=true:=hm;obtain rfl:=of_decide_eq_true hm2;have hl2:=zfC (by decide) (show za3 I (-400,400,())=true from hl);have hn2:(bif N==0 then inB M 0 1 else false)=true:=hn;simp only[zc2,zd,zaU,beq_iff_eq,zs,beq_eq_false_iff_ne]at hn2;obtain rfl:=hn2.1;exact⟨rfl,hc2,⟨hl2.1,hlen,hl2.2⟩,hn2.2⟩
theorem zuu {n:Nd} (h:zbI n=true) (k:ndK n=17):n=(17,0,ndL n,ndR n,ndN n,0,[],[],())∧(1≤ndN n∧ndN n≤400):=by
 obtain⟨_,hlen,hc,hm,hl,hn⟩:=zaS h;obtain⟨k',c,L,R,N,M,I,S,⟨⟩⟩:=n;obtain rfl:k'=17:=k;have hc2:(c==0)=true:=hc;obtain rfl:=beq_iff_eq.1 hc2;have hm2:decide (S=[])=true:=hm;obtain rfl:=of_decide_eq_true hm2;obtain rfl:=zdD (show za3 I (0,0,())=true from hl);have hn2:(bif inB N 1 400 then M==0 else false)=true:=hn;simp only[zc2,zd,zaU,beq_iff_eq,zs,beq_eq_false_iff_ne]at hn2;obtain rfl:=hn2.2;exact⟨rfl,hn2.1⟩
theorem zut {n:Nd} (h:zbI n=true) (k:ndK n=18):n=(18,0,ndL n,ndR n,0,0,[],ndS n,())∧zfh (ndS n)=true:=by
 obtain⟨_,hlen,hc,hm,hl,hn⟩:=zaS h;obtain⟨k',c,L,R,N,M,I,S,⟨⟩⟩:=n;obtain rfl:k'=18:=k;have hc2:(c==0)=true:=hc;obtain rfl:=beq_iff_eq.1 hc2;have hm2:zfh S=true:=hm;obtain rfl:=zdD (show za3 I (0,0,())=true from hl);have hn2:(bif N==0 then M==0 else false)=true:=hn;simp only[zc2,zd,zaU,beq_iff_eq,zs,beq_eq_false_iff_ne]at hn2;obtain⟨rfl,rfl⟩:=hn2;exact⟨rfl,hm2⟩
def resQ (s:List UInt8):Nat->GSt->GE (Tr×GSt)
 |0,st=>prsT s (.bin 0) st
 |1,st=>prsT s (.bin 1) st
 |2,st=>prsT s (.bin 2) st
 |3,st=>prsT s .chain st
 |_,st=>prsT s .prim st
def contQ (s:List UInt8):Nat->Tr->GSt->GE (Tr×GSt)
 |0,t,st=>prsT s (.binL 0 t) st
 |1,t,st=>prsT s (.binL 1 t) st
 |2,t,st=>prsT s (.binL 2 t) st
 |3,t,st=>prsT s (.chainL t) st
 |_,t,st=>.ok (t,st)
def zrQ:List Tk->Prop
 | []=>True
 |a::_=>a.1=1->sufW a.2.1=none
def zus:Nat->List Tk->Prop
 |0,l=>tkIs zmK l=false∧tkIs wAnd l=false∧zrQ l
 |1,l=>tkIs wAnd l=false∧zrQ l
 |2,l=>zrQ l
 |_,_=>True
def Qt (i:Nat) (T:List Tk) (t:Tr):Prop:=∀ (s:List UInt8) (st:GSt) (l:List Tk),GOk s st->Sq s st.1 (T++l)->st.2+(t.size:Int)≤64->zus i l->∃ st',resQ s i st=contQ s i t st'∧Got s st t.size l st'
section
variable {s:List UInt8}
theorem zpB {st:GSt} {l:List Tk} {t:Tr} (hg:GOk s st) (h:Sq s st.1 l) (hf:zrQ l):prsT s (.chainL t) st= .ok (t,st):=by
 cases l with
 |nil=>
  have h:zF st.1=0:=h;exact zeJ hg (by rw[h];decide)
 |cons a l=>
  have hf:a.1=1->sufW a.2.1=none:=hf;obtain⟨_,e,_⟩:=h;have e1:zF st.1=a.1:=congrArg (fun a=>a.1) e;have e2:zD st.1=a.2.1:=congrArg (fun a=>a.2.1) e;by_cases hc:a.1=1
  ·exact zgX hg (by rw[e1,hc]) (by rw[e2];exact hf hc)
  ·exact zeJ hg (by rw[e1];exact hc)
theorem zi6 {i:Nat} {st:GSt} {l:List Tk} {t:Tr} (hg:GOk s st) (h:Sq s st.1 l) (hf:tkIs (opW i) l=false):prsT s (.binL i t) st= .ok (t,st):=zi9 hg (by rw[ziI h];exact hf)
theorem Qt.chain {T:List Tk} {t:Tr} (h:Qt 4 T t):Qt 3 T t:=fun s st l hg hq hn hf=>by
 obtain⟨st',e,g⟩:=h s st l hg hq hn trivial;have e:prsT s .prim st= .ok (t,st'):=e;exact⟨st',by show prsT s .chain st=prsT s (.chainL t) st';rw[zi7 hg];exact okb e _,g⟩
theorem Qt.up3 {T:List Tk} {t:Tr} (h:Qt 3 T t):Qt 2 T t:=fun s st l hg hq hn hf=>by
 obtain⟨st',e,g⟩:=h s st l hg hq hn trivial;have e:prsT s .chain st=prsT s (.chainL t) st':=e;rw[zpB g.ok g.sq hf]at e;refine⟨st',?_,g⟩;show prsT s (.bin 2) st=prsT s (.binL 2 t) st';rw[zhj hg (by decide),zhU hg (by decide)];exact okb e _
theorem Qt.up2 {T:List Tk} {t:Tr} (h:Qt 2 T t):Qt 1 T t:=fun s st l hg hq hn hf=>by
 obtain⟨st',e,g⟩:=h s st l hg hq hn hf.2;have e:prsT s (.bin 2) st=prsT s (.binL 2 t) st':=e;rw[zi6 (i:=2) g.ok g.sq hf.1]at e;refine⟨st',?_,g⟩;show prsT s (.bin 1) st=prsT s (.binL 1 t) st';rw[zhj hg (by decide)];exact okb e _
theorem Qt.up1 {T:List Tk} {t:Tr} (h:Qt 1 T t):Qt 0 T t:=fun s st l hg hq hn hf=>by
 obtain⟨st',e,g⟩:=h s st l hg hq hn hf.2;have e:prsT s (.bin 1) st=prsT s (.binL 1 t) st':=e;rw[zi6 (i:=1) g.ok g.sq hf.1]at e;refine⟨st',?_,g⟩;show prsT s (.bin 0) st=prsT s (.binL 0 t) st';rw[zhj hg (by decide)];exact okb e _
theorem Qt.up {T:List Tk} {t:Tr}:∀ {j i:Nat},Qt j T t->i≤j->j≤4->Qt i T t:=by
 intro j i h hij hj;have h4:j=4->∀ i,i≤4->Qt i T t:=by
  rintro rfl i hi;rcases (show i=0∨i=1∨i=2∨i=3∨i=4 by omega) with rfl|rfl|rfl|rfl|rfl
  ·exact h.chain.up3.up2.up1
  ·exact h.chain.up3.up2
  ·exact h.chain.up3
  ·exact h.chain
  ·exact h
 rcases (show j=0∨j=1∨j=2∨j=3∨j=4 by omega) with rfl|rfl|rfl|rfl|rfl
 ·obtain rfl:i=0:=by omega
  exact h
 ·rcases (show i=0∨i=1 by omega) with rfl|rfl
  ·exact h.up1
  ·exact h
 ·rcases (show i=0∨i=1∨i=2 by omega) with rfl|rfl|rfl
  ·exact h.up2.up1
  ·exact h.up2
  ·exact h
 ·rcases (show i=0∨i=1∨i=2∨i=3 by omega) with rfl|rfl|rfl|rfl
  ·exact h.up3.up2.up1
  ·exact h.up3.up2
  ·exact h.up3
  ·exact h
 ·exact h4 rfl i hij
theorem Qt.par {T:List Tk} {t:Tr} (h:Qt 0 T t):Qt 4 (tkS 40::(T++ [tkS 41])) t:=fun s st l hg hq hn hf=>by
 have hq:Sq s st.1 (tkS 40::(T++ [tkS 41]++l)):=hq;have i1:gIs st zc6=true:=by rw[ziI hq];rfl
 have g1:=zrE hg hq;have q1:=g1.sq;rw[zz]at q1;obtain⟨st',e,g2⟩:=h s (gAdv s st) (tkS 41::l) g1.ok q1 hn ⟨rfl,rfl,fun e=>by cases e⟩;have e:prsT s (.bin 0) (gAdv s st)=prsT s (.binL 0 t) st':=e;rw[zi6 g2.ok g2.sq rfl]at e;obtain⟨e3,g3⟩:=zhh (w:=zbu) g2.ok g2.sq rfl;refine⟨gAdv s st',?_,?_⟩
 ·show prsT s .prim st= .ok (t,gAdv s st');rw[zb0 hg,zbe,if_pos i1];exact (okb e _).trans ((okb e3 _).trans rfl)
 ·have:=(g1.trans g2).trans0 g3;rwa[k5]at this
theorem zhS {st:GSt} {w:List UInt8} {lw:LeafW} {T l:List Tk} {n:Nd} (hw:zdw w=some lw) (hw1:w≠zc6) (hg:GOk s st) (h:Sq s st.1 (tkW w::(T++l))) (hn:st.2+1≤64)
  (hl:∀ st1,GOk s st1->Sq s st1.1 (T++l)->∃ st2,zcl s st1 lw= .ok (n,st2)∧Got s st1 0 l st2):∃ st',prsT s .prim st= .ok (.leaf n,st')∧Got s st 1 l st':=by
 have i1:gIs st zc6=false:=by
  rw[ziI h];show (true&&decide (w=zc6))=false;rw[decide_eq_false hw1];rfl
 obtain⟨e0,g0⟩:=zjJ hg h (by omega);obtain⟨_,e,_⟩:=id h;have e1:zF st.1=1:=congrArg (fun a=>a.1) e;have e2:zD st.1=w:=congrArg (fun a=>a.2.1) e;obtain⟨st2,e3,g3⟩:=hl _ g0.ok g0.sq;refine⟨st2,?_,g0.trans0 g3⟩;rw[zb0 hg,zbe,if_neg (by rw[i1];exact yM),if_neg (by rw[e1];decide)];have c0:zaG st (zF st.1==1) 3= .ok ():=by rw[e1];rfl
 refine (okb c0 _).trans ?_;rw[e2,hw];exact (okb e0 _).trans ((okb e3 _).trans rfl)
theorem q_ref {st:GSt} {w:List UInt8} {l:List Tk} (hw:w.length≤32) (hg:GOk s st) (h:Sq s st.1 (tkR w::l)) (hn:st.2+1≤64):∃ st',prsT s .prim st= .ok (.leaf (18,0,0,0,0,0,[],w,()),st')∧Got s st 1 l st':=by
 have i1:gIs st zc6=false:=by rw[ziI h];rfl
 obtain⟨e0,g0⟩:=zjJ hg h (by omega);obtain⟨_,e,_⟩:=id h;have e1:zF st.1=2:=congrArg (fun a=>a.1) e;have e2:zD st.1=w:=congrArg (fun a=>a.2.1) e;refine⟨_,?_,g0⟩;rw[zb0 hg,zbe,if_neg (by rw[i1];exact yM),if_pos e1];have c0:zaG st (decide ((zD st.1).length≤32)) 2= .ok ():=by rw[e2,decide_eq_true hw];rfl
 refine (okb c0 _).trans ((okb e0 _).trans ?_);rw[e2];rfl
theorem setN {n:Nd} {k c L R N M:Int} {I:List Int} {S:List UInt8} (e:n=(k,c,ndL n,ndR n,N,M,I,S,())) (hL:ndL n=L) (hR:ndR n=R):n=(k,c,L,R,N,M,I,S,()):=by rw[<-hL, <-hR];exact e
theorem ztS {n:Nd} (h:TrOk (.leaf n)):Qt 4 (zk5 n) (.leaf n):=fun s st l hg hq hn hf=>by
 obtain⟨h1,h2,hR,hL⟩:=h;have hn:st.2+1≤64:=hn;obtain⟨⟨k1,k2⟩,_⟩:=zaS h1;show ∃ st',prsT s .prim st= .ok (.leaf n,st')∧Got s st 1 l st';unfold zk5 at hq;rcases (show ndK n=1∨ndK n=2∨ndK n=3∨ndK n=4∨ndK n=5∨ndK n=6∨ndK n=7∨ndK n=18 by omega) with k|k|k|k|k|k|k|k<;>rw[k]at hq hL
 ·obtain⟨e,b1,b2⟩:=fld1 h1 k;have e:=setN e (hL (by decide)) hR;refine zhS (w:=zfN) (lw:=.days) (T:=[tkN (ndN n),tkN (ndM n)]) rfl (by decide) hg hq hn fun st1 g1 q1=>?_;obtain⟨a1,c1⟩:=zbC (lo:=1) (hi:=zbt) g1 q1 b1.1 b1.2;obtain⟨a2,c2⟩:=zbC (lo:=0) (hi:=zbt) c1.ok c1.sq b2.1 b2.2;refine⟨_,(okb a1 _).trans ((okb a2 _).trans ?_),c1.trans0 c2⟩
  conv=>rhs;rw[e]
  rfl
 ·obtain⟨e,b0,b1,b2⟩:=fld2 h1 k;have e:=setN e (hL (by decide)) hR;refine zhS (w:=zdO) (lw:=.years) (T:=[tkN (ndC n),tkN (ndN n),tkN (ndM n)]) rfl (by decide) hg hq hn fun st1 g1 q1=>?_;obtain⟨a0,c0⟩:=zbC (lo:=0) (hi:=2) g1 q1 b0.1 b0.2;obtain⟨a1,c1⟩:=zbC (lo:=1) (hi:=400) c0.ok c0.sq b1.1 b1.2;obtain⟨a2,c2⟩:=zbC (lo:=0) (hi:=ndN n - 1) c1.ok c1.sq b2.1 b2.2;refine⟨_,(okb a0 _).trans ((okb a1 _).trans ((okb a2 _).trans ?_)),(c0.trans0 c1).trans0 c2⟩
  conv=>rhs;rw[e]
  rfl
 ·obtain⟨e,b0,b1,b2,b3⟩:=fld3 h1 k;have e:=setN e (hL (by decide)) hR;refine zhS (w:=zbM) (lw:=.months) (T:=tkN (ndC n)::zdr (ndI n)) rfl (by decide) hg hq hn fun st1 g1 q1=>?_;obtain⟨a0,c0⟩:=zbC (lo:=0) (hi:=2) g1 q1 b0.1 b0.2;obtain⟨st2,a1,c1⟩:=zhT b1 b2 b3 c0.ok c0.sq;refine⟨_,(okb a0 _).trans ((okb a1 _).trans ?_),c0.trans0 c1⟩
  conv=>rhs;rw[e]
  rfl
 ·obtain⟨e,b0,b1,b2,b3⟩:=fld4 h1 k;have e:=setN e (hL (by decide)) hR;refine zhS (w:=zaW) (lw:=.monthdays) (T:=tkN (ndC n)::zdr (ndI n)) rfl (by decide) hg hq hn fun st1 g1 q1=>?_;obtain⟨a0,c0⟩:=zbC (lo:=0) (hi:=2) g1 q1 b0.1 b0.2;obtain⟨st2,a1,c1⟩:=zhT b1 b2 b3 c0.ok c0.sq;refine⟨_,(okb a0 _).trans ((okb a1 _).trans ?_),c0.trans0 c1⟩
  conv=>rhs;rw[e]
  rfl
 ·obtain⟨e,b1,b2,b3⟩:=fld5 h1 k;have e:=setN e (hL (by decide)) hR;refine zhS (w:=za7) (lw:=.weekdays) (T:=zdr (ndI n)) rfl (by decide) hg hq hn fun st1 g1 q1=>?_;obtain⟨st2,a1,c1⟩:=zhT b1 b2 b3 g1 q1;refine⟨_,(okb a1 _).trans ?_,c1⟩
  conv=>rhs;rw[e]
  rfl
 ·obtain⟨e,b0,b1,b2,b3⟩:=fld6 h1 k;have e:=setN e (hL (by decide)) hR;refine zhS (w:=zcP) (lw:=.weeks) (T:=tkN (ndC n)::zdr (ndI n)) rfl (by decide) hg hq hn fun st1 g1 q1=>?_;obtain⟨a0,c0⟩:=zbC (lo:=0) (hi:=2) g1 q1 b0.1 b0.2;obtain⟨st2,a1,c1⟩:=zhT b1 b2 b3 c0.ok c0.sq;refine⟨_,(okb a0 _).trans ((okb a1 _).trans ?_),c0.trans0 c1⟩
  conv=>rhs;rw[e]
  rfl
 ·obtain⟨e,b0,b1,bz,b2,b3⟩:=fld7 h1 k;have e:=setN e rfl hR;refine zhS (w:=wNth) (lw:=.nth) (T:=[tkN (ndC n),tkN (ndN n),tkN (ndM n),zeF (ndL n)]) rfl (by decide) hg hq hn fun st1 g1 q1=>?_;obtain⟨a0,c0⟩:=zbC (lo:=0) (hi:=2) g1 q1 b0.1 b0.2;obtain⟨a1,c1⟩:=zbC (lo:=-60) (hi:=60) c0.ok c0.sq b1.1 b1.2;obtain⟨a2,c2⟩:=zbC (lo:=0) (hi:=6) c1.ok c1.sq b2.1 b2.2;obtain⟨a3,c3⟩:=zpA (x:=ndL n) (by omega) c2.ok c2.sq;have cz:zaG (gAdv s st1) ((zF (gAdv s st1).1 != 3)||(Tok.n (gAdv s st1).1 != 0)) 1= .ok ():=by
   have hq:=c0.sq;obtain⟨_,e,_⟩:=hq;have e2:Tok.n (gAdv s st1).1=ndN n:=congrArg (fun a=>a.2.2) e;rw[e2,bne_iff_ne.2 bz,Bool.or_true];rfl
  refine⟨_,(okb a0 _).trans ((okb cz _).trans ((okb a1 _).trans ((okb a2 _).trans ((okb a3 _).trans ?_)))),((c0.trans0 c1).trans0 c2).trans0 c3⟩
  conv=>rhs;rw[e]
  rfl
 ·obtain⟨e,b0⟩:=zut h1 k;have e:=setN e (hL (by decide)) hR;have hl:(ndS n).length≤32:=by
   unfold zfh at b0;simp only[zd,decide_eq_true_iff]at b0;exact b0.1.2
  obtain⟨st',e1,g1⟩:=q_ref hl hg hq hn;refine⟨st',e1.trans ?_,g1⟩
  conv=>rhs;rw[e]
theorem zl0 {st:GSt} {w:List UInt8} {sw:SufW} {T l:List Tk} {t t':Tr} {k:Int} (hw:sufW w=some sw) (hg:GOk s st) (h:Sq s st.1 (tkW w::(T++l))) (hn:st.2+1≤64)
  (hl:∀ st1,GOk s st1->st1.2=st.2+1->Sq s st1.1 (T++l)->∃ st2,sufT (s:=s) t st1 sw= .ok (t',st2)∧Got s st1 k l st2):∃ st',prsT s (.chainL t) st=prsT s (.chainL t') st'∧Got s st (1+k) l st':=by
 obtain⟨e0,g0⟩:=zjJ hg h (by omega);obtain⟨_,e,_⟩:=id h;have e1:zF st.1=1:=congrArg (fun a=>a.1) e;have e2:zD st.1=w:=congrArg (fun a=>a.2.1) e;obtain⟨st2,e3,g3⟩:=hl _ g0.ok rfl g0.sq;refine⟨st2,?_,g0.trans g3⟩;rw[zgY hg e1 (by rw[e2];exact hw)];exact (okb e0 _).trans ((okb e3 _).trans rfl)
theorem q_un {n:Nd} {a:Tr} {st:GSt} {l:List Tk} (h1:zbI n=true) (hk:11≤ndK n∧ndK n≤16) (hLR:ndL n=0∧ndR n=0) (hg:GOk s st) (hq:Sq s st.1 (zjt [] n++l)) (hn:st.2+1≤64):
  ∃ st',prsT s (.chainL a) st=prsT s (.chainL (.un n a)) st'∧Got s st 1 l st':=by
 unfold zjt at hq;rcases (show ndK n=11∨ndK n=12∨ndK n=13∨ndK n=14∨ndK n=15∨ndK n=16 by omega) with k|k|k|k|k|k<;>rw[k]at hq
 ·obtain⟨e,b1⟩:=zuA h1 k;have e:=setN e hLR.1 hLR.2;refine zl0 (k:=0) (w:=zdQ) (sw:=.shift) (T:=[tkN (ndN n)]) rfl hg hq hn fun st1 g1 _ q1=>?_;obtain⟨a1,c1⟩:=zbC (lo:=-zbt) (hi:=zbt) g1 q1 b1.1 b1.2;have hs:gSuf s st1 .shift= .ok ((11,0,0,0,ndN n,0,[],[],()),gAdv s st1):=(okb a1 _).trans rfl;refine⟨_,(okb hs _).trans ?_,c1⟩
  conv=>rhs;rw[e]
 ·obtain⟨e,b1⟩:=zuz h1 k;have e:=setN e hLR.1 hLR.2;refine zl0 (k:=0) (w:=zfM) (sw:=.from_) (T:=[tkN (ndN n)]) rfl hg hq hn fun st1 g1 _ q1=>?_;obtain⟨a1,c1⟩:=zbC (lo:=0) (hi:=zbt) g1 q1 b1.1 b1.2;have hs:gSuf s st1 .from_= .ok ((12,0,0,0,ndN n,0,[],[],()),gAdv s st1):=(okb a1 _).trans rfl;refine⟨_,(okb hs _).trans ?_,c1⟩
  conv=>rhs;rw[e]
 ·obtain⟨e,b1⟩:=zuy h1 k;have e:=setN e hLR.1 hLR.2;refine zl0 (k:=0) (w:=zdP) (sw:=.until_) (T:=[tkN (ndN n)]) rfl hg hq hn fun st1 g1 _ q1=>?_;obtain⟨a1,c1⟩:=zbC (lo:=0) (hi:=zbt) g1 q1 b1.1 b1.2;have hs:gSuf s st1 .until_= .ok ((13,0,0,0,ndN n,0,[],[],()),gAdv s st1):=(okb a1 _).trans rfl;refine⟨_,(okb hs _).trans ?_,c1⟩
  conv=>rhs;rw[e]
 ·obtain⟨e,b1,b2,b3⟩:=zux h1 k;have e:=setN e hLR.1 hLR.2;refine zl0 (k:=0) (w:=zek) (sw:=.also) (T:=zdr (ndI n)) rfl hg hq hn fun st1 g1 _ q1=>?_;obtain⟨st2,a1,c1⟩:=zhT b1 b2 b3 g1 q1;have hs:gSuf s st1 .also= .ok ((14,0,0,0,0,0,ndI n,[],()),st2):=(okb a1 _).trans rfl;refine⟨_,(okb hs _).trans ?_,c1⟩
  conv=>rhs;rw[e]
 ·obtain⟨e,b1,b2,b3⟩:=zuw h1 k;have e:=setN e hLR.1 hLR.2;refine zl0 (k:=0) (w:=zbX) (sw:=.except_) (T:=zdr (ndI n)) rfl hg hq hn fun st1 g1 _ q1=>?_;obtain⟨st2,a1,c1⟩:=zhT b1 b2 b3 g1 q1;have hs:gSuf s st1 .except_= .ok ((15,0,0,0,0,0,ndI n,[],()),st2):=(okb a1 _).trans rfl;refine⟨_,(okb hs _).trans ?_,c1⟩
  conv=>rhs;rw[e]
 ·obtain⟨e,b0,⟨b1,b2,b3⟩,b4⟩:=zuv h1 k;have e:=setN e hLR.1 hLR.2;refine zl0 (k:=0) (w:=wPos) (sw:=.pos) (T:=tkN (ndC n)::zeF (ndM n)::zdr (ndI n)) rfl hg hq hn fun st1 g1 _ q1=>?_;obtain⟨a0,c0⟩:=zbC (lo:=0) (hi:=2) g1 q1 b0.1 b0.2;obtain⟨a2,c2⟩:=zpA (x:=ndM n) (by omega) c0.ok c0.sq;obtain⟨st2,a1,c1⟩:=zhT b1 b2 b3 c2.ok c2.sq;have hs:gSuf s st1 .pos= .ok ((16,ndC n,0,0,0,ndM n,ndI n,[],()),st2):=(okb a0 _).trans ((okb a2 _).trans ((okb a1 _).trans rfl));refine⟨_,(okb hs _).trans ?_,(c0.trans0 c2).trans0 c1⟩
  conv=>rhs;rw[e]
theorem zrD {n:Nd} {a b:Tr} {B:List Tk} {st:GSt} {l:List Tk} (h1:zbI n=true) (hk:ndK n=17) (hLR:ndL n=0∧ndR n=0) (hB:Qt 4 B b) (hg:GOk s st) (hq:Sq s st.1 (zjt B n++l)) (hn:st.2+1+(b.size:Int)≤64):
  ∃ st',prsT s (.chainL a) st=prsT s (.chainL (.bin n a b)) st'∧Got s st (1+b.size) l st':=by
 unfold zjt at hq;rw[hk]at hq;obtain⟨e,b1⟩:=zuu h1 hk;have e:=setN e hLR.1 hLR.2;refine zl0 (k:=b.size) (w:=zbG) (sw:=.behind) (T:=tkN (ndN n)::tkW wOf::B) rfl hg hq (by omega) fun st1 g1 hn1 q1=>?_;obtain⟨a1,c1⟩:=zbC (lo:=1) (hi:=400) g1 q1 b1.1 b1.2;obtain⟨a2,c2⟩:=zhh (w:=wOf) c1.ok c1.sq rfl;obtain⟨st',a3,c3⟩:=hB s _ l c2.ok c2.sq (by rw[c2.n,c1.n];omega) trivial;have a3:prsT s .prim (gAdv s (gAdv s st1))= .ok (b,st'):=a3;refine⟨st',?_,?_⟩
 ·have hs:gSuf s st1 .behind= .ok ((17,0,0,0,ndN n,0,[],[],()),gAdv s (gAdv s st1)):=(okb a1 _).trans ((okb a2 _).trans rfl);refine (okb hs _).trans ((okb a3 _).trans ?_)
  conv=>rhs;rw[e]
 ·have:=(c1.trans c2).trans c3;rwa[k5,k5]at this
def levI (t:Tr):Nat:=(t.lev - 1).toNat
theorem zmb (k:Int):1≤levS k∧levS k≤5:=by
 unfold levS
 repeat' split
 all_goals omega
theorem zna {k:Int} (h:¬ (8≤k∧k≤17)):levS k=5:=by
 unfold levS;rw[if_neg (by omega),if_neg (by omega),if_neg (by omega),if_neg (by omega)]
theorem zma {k:Int} (h:11≤k∧k≤17):levS k=4:=by
 unfold levS;rw[if_neg (by omega),if_neg (by omega),if_neg (by omega),if_pos h]
theorem zjI {a:Tr} (h:Qt (levI a) a.toks a) {r:Int} {i:Nat} (hr:r=(i:Int)+1) (hi:i≤4):Qt i (parT (decide (a.lev≥r)) a.toks) a:=by
 obtain⟨l1,l5⟩:=zmb (ndK a.root);have hl:levI a≤4:=by unfold levI Tr.lev;omega
 by_cases hc:a.lev≥r
 ·rw[decide_eq_true hc];refine h.up ?_ hl;unfold levI Tr.lev at *;omega
 ·rw[decide_eq_false hc];exact (Qt.par (h.up (zk _) hl)).up hi (zj _)
theorem zl1 {i:Nat} {n:Nd} {a b:Tr} {A B:List Tk} (hi:i≤2) (hA:Qt i A a) (hB:Qt (i+1) B b) (hn0:n=(opK i,zNd.2)):Qt i (A++(tkW (opW i)::B)) (.bin n a b):=fun s st l hg hq hn hf=>by
 have hn:st.2+((a.size+b.size+1:Nat):Int)≤64:=hn;rw[zz]at hq;have hfa:zus i (tkW (opW i)::B++l):=by
  rcases (show i=0∨i=1∨i=2 by omega) with rfl|rfl|rfl
  ·exact⟨rfl,rfl,fun _=>rfl⟩
  ·exact⟨rfl,fun _=>rfl⟩
  ·exact fun _=>rfl
 obtain⟨st1,e1,g1⟩:=hA s st _ hg hq (by omega) hfa;have q1:Sq s st1.1 (tkW (opW i)::(B++l)):=g1.sq;have n1:=g1.n;have hop:gIs st1 (opW i)=true:=by
  rw[ziI q1];show (true&&decide (opW i=opW i))=true;rw[decide_eq_true rfl];rfl
 obtain⟨e2,g2⟩:=zjJ g1.ok q1 (by omega);have n2:=g2.n;have hfb:zus (i+1) l:=by
  rcases (show i=0∨i=1∨i=2 by omega) with rfl|rfl|rfl
  ·exact hf.2
  ·exact hf.2
  ·trivial
 obtain⟨st3,e3,g3⟩:=hB s _ l g2.ok g2.sq (by rw[n2,n1];omega) hfb;have e4:prsT s (.bin (i+1)) (gAdv s (st1.1,st1.2+1))= .ok (b,st3):=by
  rcases (show i=0∨i=1∨i=2 by omega) with rfl|rfl|rfl
  ·have e3:prsT s (.bin 1) _=prsT s (.binL 1 b) st3:=e3;rw[zi6 (i:=1) g3.ok g3.sq hf.1]at e3;exact e3
  ·have e3:prsT s (.bin 2) _=prsT s (.binL 2 b) st3:=e3;rw[zi6 (i:=2) g3.ok g3.sq hf.1]at e3;exact e3
  ·have e3:prsT s .chain _=prsT s (.chainL b) st3:=e3;rw[zpB g3.ok g3.sq hf]at e3;rw[zhU g2.ok (by decide)];exact e3
 have e5:prsT s (.binL i a) st1=prsT s (.binL i (.bin n a b)) st3:=by
  rw[zi8 g1.ok hop,hn0];exact (okb e2 _).trans ((okb e4 _).trans rfl)
 refine⟨st3,?_,?_⟩
 ·rw[e1];rcases (show i=0∨i=1∨i=2 by omega) with rfl|rfl|rfl
  ·exact e5
  ·exact e5
  ·exact e5
 ·have:=(g1.trans g2).trans g3;rwa[show (a.size:Int)+1+(b.size:Int)=((Tr.bin n a b).size:Int) by show _=((a.size+b.size+1:Nat):Int);omega]at this
theorem fld_op {n:Nd} (h:zbI n=true) (hk:8≤ndK n∧ndK n≤10) (hLR:ndL n=0∧ndR n=0):n=(ndK n,zNd.2):=by
 rcases (show ndK n=8∨ndK n=9∨ndK n=10 by omega) with k|k|k
 ·rw[k];exact setN (fld8 h k) hLR.1 hLR.2
 ·rw[k];exact setN (fld9 h k) hLR.1 hLR.2
 ·rw[k];exact setN (fld10 h k) hLR.1 hLR.2
theorem zfl:∀ t:Tr,TrOk t->Qt (levI t) t.toks t
 | .leaf n,h=>by
  have:levI (.leaf n)=4:=by
   show (levS (ndK n) - 1).toNat=4;rw[zna h.2.1];rfl
  rw[this];exact ztS h
 | .un n a,h=>by
  obtain⟨h1,hk,hLR,ha⟩:=h;have:levI (.un n a)=3:=by
   show (levS (ndK n) - 1).toNat=3;rw[zma (by omega)];rfl
  rw[this];intro s st l hg hq hn hf;have hn:st.2+((a.size+1:Nat):Int)≤64:=hn;have hq:Sq s st.1 (parT (decide (a.lev≥4)) a.toks++zjt [] n++l):=hq;rw[zz]at hq;obtain⟨st1,e1,g1⟩:=zjI (zfl a ha) (i:=3) rfl (by decide) s st _ hg hq (by omega) trivial;have n1:=g1.n;obtain⟨st2,e2,g2⟩:=q_un (a:=a) h1 hk hLR g1.ok g1.sq (by omega);exact⟨st2,Eq.trans e1 e2,g1.trans g2⟩
 | .bin n a b,h=>by
  obtain⟨h1,hk,hLR,ha,hb⟩:=h;by_cases h17:ndK n=17
  ·have:levI (.bin n a b)=3:=by
    show (levS (ndK n) - 1).toNat=3;rw[zma (by omega)];rfl
   rw[this];intro s st l hg hq hn hf;have hn:st.2+((a.size+b.size+1:Nat):Int)≤64:=hn;unfold Tr.toks at hq;rw[if_pos h17,zz]at hq;obtain⟨st1,e1,g1⟩:=zjI (zfl a ha) (i:=3) rfl (by decide) s st _ hg hq (by omega) trivial;have n1:=g1.n;obtain⟨st2,e2,g2⟩:=zrD (a:=a) h1 h17 hLR (zjI (zfl b hb) (r:=5) (i:=4) rfl (by decide)) g1.ok g1.sq (by omega);have:=g1.trans g2;rw[show (a.size:Int)+(1+(b.size:Int))=((Tr.bin n a b).size:Int) by show _=((a.size+b.size+1:Nat):Int);omega]at this;exact⟨st2,Eq.trans e1 e2,this⟩
  ·have hk:8≤ndK n∧ndK n≤10:=by omega
   have hn0:=fld_op h1 hk hLR;unfold Tr.toks;rw[if_neg h17];have hl:levI (.bin n a b)=(levS (ndK n) - 1).toNat:=rfl;rw[hl];rcases (show ndK n=8∨ndK n=9∨ndK n=10 by omega) with k|k|k<;>rw[k]at hn0 ⊢
   ·exact zl1 (i:=2) (by decide) (zjI (zfl a ha) rfl (by decide)) (zjI (zfl b hb) (r:=4) rfl (by decide)) hn0
   ·exact zl1 (i:=0) (by decide) (zjI (zfl a ha) rfl (by decide)) (zjI (zfl b hb) (r:=2) rfl (by decide)) hn0
   ·exact zl1 (i:=1) (by decide) (zjI (zfl a ha) rfl (by decide)) (zjI (zfl b hb) (r:=3) rfl (by decide)) hn0
theorem q_rule {T:List Tk} {t:Tr} (hT:Qt 0 T t) (hs:t.size≤64) (h:Toks s 0 T):zfo s= .ok t:=by
 have hg:GOk s (zik s):=zge;obtain⟨st',e,g⟩:=hT s (zik s) [] hg (by rw[z7];exact zlT h) (by show (0:Int)+_≤64;omega) ⟨rfl,rfl,trivial⟩;have e:prsT s (.bin 0) (zik s)=prsT s (.binL 0 t) st':=e;rw[zi6 g.ok g.sq rfl]at e;have hc:zF st'.1=0:=g.sq;have hr:zeC s (zik s)= .ok (t,st'):=by
  unfold zeC;refine (okb e _).trans ?_;have c0:zaG st' (zF st'.1==0) 3= .ok ():=by rw[hc];rfl
  exact (okb c0 _).trans rfl
 unfold zfo;rw[hr];rfl
end
def Bd:List UInt8->Prop
 | []=>True
 |c::_=>isPt c=false
theorem Bd.app {r v:List UInt8} (h:Bd r) (hv:Bd v):Bd (r++v):=by
 cases r with
 |nil=>exact hv
 |cons c r=>exact h
def zdY (k:Int) (u:List UInt8):TokT:=
 match u with
 | []=>(0,k,0,[],0,())
 |c::r=>
  if 0 < zaw (c::r) then (1,k,(zaw (c::r):Nat),(c::r).take (zaw (c::r)),0,())
  else if c=64∧0 < zaw r then (2,k,(zaw r:Nat)+1,r.take (zaw r),0,())
  else match zcQ (c::r) with
   |some (q,n,t,x)=>(q,k,(n:Nat),t,x,())
   |none=>if c=40∨c=41∨c=61 then (4,k,1,[c],0,()) else (5,k,1,[c],0,())
theorem zjA (s:List UInt8):za2 s=zdY ((zaD isWh s:Nat):Int) (s.drop (zaD isWh s)):=rfl
theorem zjB (k:Int) (u:List UInt8):zdY k u=((zdY 0 u).1,k,(zdY 0 u).2.2):=by
 cases u with
 |nil=>rfl
 |cons c r=>
  unfold zdY;simp only[];split
  ·rfl
  ·split
   ·rfl
   ·split
    ·rfl
    ·split<;>rfl
theorem zjw {p:UInt8->Bool} {w u:List UInt8} (h:∀ c∈w,p c=true):zaD p (w++u)=w.length+zaD p u:=by
 unfold zaD;rw[jf h,zh]
theorem zsO {p:UInt8->Bool} {c:UInt8} {u:List UInt8} (h:p c=false):zaD p (c::u)=0:=by
 unfold zaD;rw[yE,h];rfl
theorem ztG {u:List UInt8} (h:Bd u):zaD isPt u=0:=by
 cases u with
 |nil=>rfl
 |cons c r=>exact zsO h
structure Sp (a:Tk) (w:List UInt8):Prop where
 ne:w≠ []
 nw:∀ c∈w,isWh c=false
 cls:a.1≠0
 sc:∀ r,(a.1=4∨Bd r)->zdY 0 (w++r)=(a.1,0,((w.length:Nat):Int),a.2.1,a.2.2,())
inductive Lex:List UInt8->List Tk->Prop
 |nil {ws:List UInt8} (h:∀ c∈ws,isWh c=true):Lex ws []
 |tok {ws w r:List UInt8} {a:Tk} {l:List Tk} (h:∀ c∈ws,isWh c=true) (hw:Sp a w) (hb:a.1=4∨Bd r) (hr:Lex r l):Lex (ws++(w++r)) (a::l)
theorem Lex.ws {ws u:List UInt8} {l:List Tk} (h:∀ c∈ws,isWh c=true) (hu:Lex u l):Lex (ws++u) l:=by
 cases hu with
 |nil h2=>exact .nil fun c hc=>(yL.1 hc).elim (h c) (h2 c)
 |tok h2 hw hb hr=>
  rw[<-zz];exact .tok (fun c hc=>(yL.1 hc).elim (h c) (h2 c)) hw hb hr
theorem Lex.sp {u:List UInt8} {l:List Tk} (hu:Lex u l):Lex (32::u) l:=Lex.ws (ws:=[32]) (fun c hc=>by rw[zw.1 hc];rfl) hu
theorem Lex.app {u:List UInt8} {l:List Tk} (hu:Lex u l) {v:List UInt8} {m:List Tk} (hv:Lex v m) (hb:Bd v):Lex (u++v) (l++m):=by
 induction hu with
 |nil h=>exact hv.ws h
 |tok h hw hb' _ ih=>
  rw[zz,zz];refine .tok h hw ?_ ih;rcases hb' with h4|hb'
  ·exact .inl h4
  ·exact .inr (hb'.app hb)
theorem Sp.lex {a:Tk} {w:List UInt8} (h:Sp a w):Lex w [a]:=by
 have:=Lex.tok (ws:=[]) (r:=[]) (l:=[]) (fun c hc=>by cases hc) h (.inr trivial) (.nil fun c hc=>by cases hc);rwa[yV,z7]at this
theorem Sp.lexR {a:Tk} {w:List UInt8} (h:Sp a w) {r:List UInt8} {l:List Tk} (hb:a.1=4∨Bd r) (hr:Lex r l):Lex (w++r) (a::l):=by
 have:=Lex.tok (ws:=[]) (fun c hc=>by cases hc) h hb hr;rwa[yV]at this
theorem zr0 {u:List UInt8} {l:List Tk} (h:Lex u l):∀ (s p:List UInt8),s=p++u->Toks s ((p.length:Nat):Int) l:=by
 induction h with
 | @nil ws h=>
  intro s p hs;show zF (zc1 s _)=0;unfold zc1;rw[hs,zy,qy,zjA];have e:zaD isWh ws=ws.length:=by
   have:=zjw (u:=[]) h;rw[z7]at this;rw[this];rfl
  rw[e,jA];rfl
 | @tok ws w r a l h hw hb hr ih=>
  intro s p hs;have hd:s.drop p.length=ws++(w++r):=by rw[hs,qy]
  have e:zaD isWh (ws++(w++r))=ws.length:=by
   rw[zjw h];cases w with
   |nil=>exact absurd rfl hw.ne
   |cons c q=>
    rw[qt,zsO (hw.nw c (zS ..))];rfl
  have hsc:zc1 s ((p.length:Nat):Int)=(a.1,((ws.length:Nat):Int)+((p.length:Nat):Int),((w.length:Nat):Int),a.2.1,a.2.2,()):=by
   unfold zc1;rw[zy,hd,zjA,e,qy,zjB,hw.sc r hb];rfl
  refine⟨?_,?_,?_⟩
  ·rw[hsc];exact hw.cls
  ·rw[hsc];rfl
  ·rw[hsc];have:=ih s (p++ws++w) (by rw[hs];simp);rw[zh,zh]at this;show Toks s (((ws.length:Nat):Int)+((p.length:Nat):Int)+((w.length:Nat):Int)) l;rwa[show ((ws.length:Nat):Int)+((p.length:Nat):Int)+((w.length:Nat):Int)=((p.length+ws.length+w.length:Nat):Int) by omega]
theorem zhs {p:UInt8->Bool} (h:∀ n:Fin 256,p (yr n.val)=true) (c:UInt8):p c=true:=by
 have:=h ⟨c.toNat,c.toNat_lt⟩;rwa[vK]at this
theorem zjR (c:UInt8) (h:isLt c=true):isPt c=true∧isWh c=false∧isDg c=false∧c≠64∧c≠45:=by
 have:=zhs (p:=fun c=>!isLt c||(isPt c&& !isWh c&& !isDg c&&(c != 64)&&(c != 45))) (by decide+kernel) c;rw[h]at this;simp only[Bool.not_true,Bool.false_or,zd,zs,bne_iff_ne]at this;exact⟨this.1.1.1.1,this.1.1.1.2,this.1.1.2,this.1.2,this.2⟩
theorem pt_wh (c:UInt8) (h:isPt c=true):isWh c=false:=by
 have:=zhs (p:=fun c=>!isPt c|| !isWh c) (by decide+kernel) c;rw[h]at this
 simpa using this
theorem zgl (c:UInt8) (h:isDg c=true):isPt c=true∧isLt c=false∧isWh c=false∧c≠64∧c≠45∧c≠40∧c≠41∧c≠61:=by
 have:=zhs (p:=fun c=>!isDg c||(isPt c&& !isLt c&& !isWh c&&(c != 64)&&(c != 45)&&(c != 40)&&(c != 41)&&(c != 61))) (by decide+kernel) c;rw[h]at this;simp only[Bool.not_true,Bool.false_or,zd,zs,bne_iff_ne]at this;exact⟨this.1.1.1.1.1.1.1,this.1.1.1.1.1.1.2,this.1.1.1.1.1.2,this.1.1.1.1.2,this.1.1.1.2,this.1.1.2,this.1.2,this.2⟩
theorem zgS {w r:List UInt8} (hne:w≠ []) (h1:w.head?.all isLt=true) (h2:∀ c∈w,isPt c=true) (hb:Bd r):zaw (w++r)=w.length:=by
 cases w with
 |nil=>exact absurd rfl hne
 |cons c q=>
  have hc:isLt c=true:=h1;show (if isLt c then zaD isPt (c::q++r) else 0)=_;rw[if_pos hc,zjw h2,ztG hb];rfl
theorem ztH {w:List UInt8} (hne:w≠ []) (h1:w.head?.all isLt=true) (h2:∀ c∈w,isPt c=true):Sp (tkW w) w:=by
 refine⟨hne,fun c hc=>pt_wh c (h2 c hc),by show (1:Int)≠0;decide,fun r hb=>?_⟩;have hb:Bd r:=hb.resolve_left (by show (1:Int)≠4;decide);have hl:=zgS hne h1 h2 hb;have hp:0 < w.length:=xN.2 hne;cases w with
 |nil=>exact absurd rfl hne
 |cons c q=>
  show zdY 0 (c::(q++r))=_;unfold zdY;have hl:zaw (c::(q++r))=(c::q).length:=hl;simp only[];rw[hl,if_pos hp];show (1,0,_,(c::q++r).take (c::q).length,0,())=_;rw[xZ];rfl
theorem sp_ref {w:List UInt8} (h:zfh w=true):Sp (tkR w) (64::w):=by
 unfold zfh at h;simp only[zd,decide_eq_true_iff,zW]at h;obtain⟨⟨hne,_⟩,h1,h2⟩:=h;refine⟨by simp,fun c hc=>?_,by show (2:Int)≠0;decide,fun r hb=>?_⟩
 ·rcases zP.1 hc with rfl|hc
  ·rfl
  ·exact pt_wh c (h2 c hc)
 have hb:Bd r:=hb.resolve_left (by show (2:Int)≠4;decide);have hl:=zgS hne h1 h2 hb;have hp:0 < w.length:=xN.2 hne;show zdY 0 (64::(w++r))=_;unfold zdY;have h64:zaw (64::(w++r))=0:=rfl;simp only[];rw[h64,if_neg (by decide),hl,if_pos ⟨trivial,hp⟩,xZ];show (2,0,((w.length:Nat):Int)+1,w,0,())=(2,0,(((64::w).length:Nat):Int),w,0,());rw[zr];rfl
theorem zmP {c:UInt8} (hc:c=40∨c=41∨c=61):Sp (tkS c) [c]:=by
 have hn:∀ r,zcQ (c::r)=none:=fun r=>by
  unfold zcQ;have:(zaP (c::r)).length=0:=by
   unfold zaP zaV;rcases hc with rfl|rfl|rfl<;>rfl
  rw[if_pos this]
 refine⟨by simp,fun d hd=>?_,by show (4:Int)≠0;decide,fun r _=>?_⟩
 ·rw[zw.1 hd];rcases hc with rfl|rfl|rfl<;>rfl
 show zdY 0 (c::r)=_;unfold zdY;have h0:zaw (c::r)=0:=by rcases hc with rfl|rfl|rfl<;>rfl
 have h64:c≠64:=by rcases hc with rfl|rfl|rfl<;>decide
 simp only[];rw[h0,if_neg (by decide),if_neg (fun h=>h64 h.1),hn,if_pos hc];rfl
theorem zpK (l:List UInt8) (c:UInt8):numv (l++ [c])=10 * numv l+(c.toNat - 48):=by unfold numv;rw[jT];rfl
theorem znx {d:Nat} (h:d < 10):isDg (yr (48+d))=true∧(yr (48+d)).toNat=48+d:=by
 have e:(yr (48+d)).toNat=48+d:=by rw[UInt8.toNat_ofNat'];exact Nat.mod_eq_of_lt (by omega)
 refine⟨?_,e⟩;unfold isDg;rw[zd,decide_eq_true_iff,decide_eq_true_iff,yK,yK,e];exact⟨by show 48≤_;omega,by show _≤57;omega⟩
theorem zls (u:Nat):(∀ c∈xr u,isDg c=true)∧numv (xr u)=u∧(1≤u->(xr u).head? ≠some 48)∧xr u≠ []:=by
 induction u using Nat.strongRecOn with
 |_ u ih=>
  rw[xr];by_cases hu:u < 10
  ·rw[dif_pos hu];obtain⟨h1,h2⟩:=znx hu;refine⟨fun c hc=>by rw[zw.1 hc];exact h1,?_,fun h0 e=>?_,by simp⟩
   ·show 10 * 0+((yr (48+u)).toNat - 48)=u;rw[h2];omega
   ·have e:some (yr (48+u))=some 48:=e;have:=congrArg UInt8.toNat (zx e);rw[h2]at this;have:48+u=48:=this;omega
  ·rw[dif_neg hu];obtain⟨i1,i2,i3,i4⟩:=ih (u / 10) (by omega);obtain⟨h1,h2⟩:=znx (d:=u % 10) (by omega);refine⟨fun c hc=>?_,?_,fun _ e=>?_,by simp⟩
   ·rcases yL.1 hc with hc|hc
    ·exact i1 c hc
    ·rw[zw.1 hc];exact h1
   ·rw[zpK,i2,h2];omega
   ·refine i3 (by omega) ?_;cases hd:xr (u / 10) with
    |nil=>exact absurd hd i4
    |cons c q=>rw[hd]at e;exact e
theorem zoX {w r:List UInt8} (h:∀ c∈w,isDg c=true) (hb:Bd r):(w++r).takeWhile isDg=w:=by
 rw[jf h];have:r.takeWhile isDg=[]:=by
  cases r with
  |nil=>rfl
  |cons c q=>
   have hb:isPt c=false:=hb;rw[yE];have:isDg c=false:=by
    cases hd:isDg c with
    |false=>rfl
    |true=>rw[(zgl c hd).1]at hb;cases hb
   rw[this];rfl
 rw[this,z7]
def zfz (n:Int):Prop:=-1125899906842624 < n∧n < 1125899906842624
theorem zo0 {n:Int} (h:zfz n):Sp (tkN n) (deI n):=by
 obtain⟨h1,h2⟩:=h;unfold deI Lib.itoa;by_cases hn:n < 0
 ·obtain⟨d1,d2,d3,d4⟩:=zls n.natAbs;have d3:=d3 (by omega);generalize hD:xr n.natAbs=D at *;have hde:deI n=45::D:=by unfold deI Lib.itoa;rw[if_pos hn,hD]
  rw[if_pos hn];refine⟨by simp,fun c hc=>?_,by show (3:Int)≠0;decide,fun r hb=>?_⟩
  ·rcases zP.1 hc with rfl|hc
   ·rfl
   ·exact (zgl c (d1 c hc)).2.2.1
  have hb:Bd r:=hb.resolve_left (by show (3:Int)≠4;decide);have hlen:0 < D.length:=xN.2 d4;have hs:zaV (45::(D++r))=1:=rfl;have hg:zaP (45::(D++r))=D:=by
   unfold zaP;rw[hs];exact zoX d1 hb
  have hv:valN (45::(D++r))=n:=by
   unfold valN;rw[hs,if_pos rfl,hg,d2,Nat.min_eq_left (by unfold zcv;omega)];omega
  show zdY 0 (45::(D++r))=_;unfold zdY;simp only[];rw[show zaw (45::(D++r))=0 from rfl,if_neg (by decide),if_neg (fun h=>absurd h.1 (by decide))];have hnt:zcQ (45::(D++r))=some (3,1+D.length,(45::(D++r)).take (1+D.length),n):=by
   unfold zcQ;rw[hg,hs,hv,if_neg (by omega),if_neg (fun h=>d3 h.1)]
  rw[hnt];have ht:(45::(D++r)).take (1+D.length)=45::D:=by
   rw[Nat.add_comm,qV,xZ]
  show (3,0,((1+D.length:Nat):Int),(45::(D++r)).take (1+D.length),n,())=(3,0,(((45::D).length:Nat):Int),deI n,n,());rw[ht,hde,zr,Nat.add_comm]
 ·obtain⟨d1,d2,d3,d4⟩:=zls n.toNat;have hz:n.toNat=0->xr n.toNat=[48]:=fun e=>by rw[e,xr];rfl
  generalize hD:xr n.toNat=D at *;have hde:deI n=D:=by unfold deI Lib.itoa;rw[if_neg hn,hD]
  rw[if_neg hn];refine⟨d4,fun c hc=>(zgl c (d1 c hc)).2.2.1,by show (3:Int)≠0;decide,fun r hb=>?_⟩;have hb:Bd r:=hb.resolve_left (by show (3:Int)≠4;decide);have hlen:0 < D.length:=xN.2 d4;cases D with
  |nil=>exact absurd rfl d4
  |cons c q=>
   have hdg:=d1 c (zS ..);obtain⟨_,f1,_,f2,f3,_⟩:=zgl c hdg;have hs:zaV (c::(q++r))=0:=by
    unfold zaV;exact if_neg (fun e=>f3 (zx e))
   have hg:zaP (c::(q++r))=c::q:=by
    unfold zaP;rw[hs];exact zoX (w:=c::q) d1 hb
   have hv:valN (c::(q++r))=n:=by
    unfold valN;rw[hs,if_neg (by decide),hg,d2,Nat.min_eq_left (by unfold zcv;omega)];omega
   show zdY 0 (c::(q++r))=_;unfold zdY;simp only[];rw[show zaw (c::(q++r))=0 by show (if isLt c then zaD isPt (c::(q++r)) else 0)=0;rw[f1];rfl,if_neg (by decide),if_neg (fun h=>f2 h.1)];have hnt:zcQ (c::(q++r))=some (3,0+(c::q).length,(c::(q++r)).take (0+(c::q).length),n):=by
    unfold zcQ;rw[hg,hs,hv,if_neg (by omega),if_neg];rintro ⟨e1,e2⟩;by_cases h0:n.toNat=0
    ·have e3:q=[]:=by have:=hz h0;exact (List.cons.inj this).2
     rw[e3]at e2;have e2:1 < 0+1:=e2;omega
    ·exact d3 (by omega) e1
   rw[hnt];have ht:(c::(q++r)).take (0+(c::q).length)=c::q:=by
    rw[yu];exact xZ (l₁:=c::q)
   show (3,0,((0+(c::q).length:Nat):Int),(c::(q++r)).take (0+(c::q).length),n,())=(3,0,(((c::q).length:Nat):Int),deI n,n,());rw[ht,hde,yu]
theorem zcJ:∀ l:List Int,(∀ x∈l,zfz x)->Lex (zeB l) (l.map tkN)∧Bd (zeB l)
 | [],_=>⟨.nil (fun c hc=>(by cases hc)),trivial⟩
 |x::r,h=>by
  obtain⟨h1,h2⟩:=zcJ r fun y hy=>h y (yk _ hy);refine⟨?_,rfl⟩;show Lex (32::deI x++zeB r) (tkN x::r.map tkN);exact ((zo0 (h x (zS ..))).lexR (.inr h2) h1).sp
theorem zp3:∀ (l:List Int) (i:Nat),(∀ x∈l,zfz x)->Lex (litS (i+1) l++ [41]) (l.map tkN++ [tkS 41])∧Bd (litS (i+1) l++ [41])
 | [],_,_=>⟨(zmP (.inr (.inl rfl))).lex,rfl⟩
 |x::r,i,h=>by
  obtain⟨h1,h2⟩:=zp3 r (i+1) fun y hy=>h y (yk _ hy);have e:litS (i+1) (x::r)++ [41]=32::(deI x++(litS (i+1+1) r++ [41])):=by
   show (sepS (i+1)++deI x++litS (i+1+1) r)++ [41]=_;simp[sepS]
  rw[e];exact⟨((zo0 (h x (zS ..))).lexR (.inr h2) h1).sp,rfl⟩
theorem zep {l:List Int} (hne:l≠ []) (h:∀ x∈l,zfz x):Lex (zcD l) (zdr l)∧Bd (zcD l):=by
 cases l with
 |nil=>exact absurd rfl hne
 |cons x r=>
  obtain⟨h1,h2⟩:=zp3 r 0 fun y hy=>h y (yk _ hy);have e:zcD (x::r)=32::([40]++(deI x++(litS (0+1) r++ [41]))):=by
   show (sepS 0++deI x++litS (0+1) r)++ [41]=_;simp[sepS]
  rw[e];exact⟨((zmP (.inl rfl)).lexR (.inl rfl) ((zo0 (h x (zS ..))).lexR (.inr h2) h1)).sp,rfl⟩
theorem zbl {w:List UInt8} (hne:w≠ []) (h1:w.head?.all isLt=true) (h2:w.all isPt=true) {r:List UInt8} {l:List Tk} (hr:Lex r l) (hb:Bd r):Lex (w++r) (tkW w::l):=
 (ztH hne h1 (zW.1 h2)).lexR (.inr hb) hr
theorem zk4 (n:Int) {r:List UInt8} {l:List Tk} (hr:Lex r l) (hb:Bd r):Lex (zcS n++r) (zeF n::l)∧Bd (zcS n++r):=by
 unfold zcS zeF;split
 ·exact⟨(zbl (by decide) rfl (by decide) hr hb).sp,rfl⟩
 ·exact⟨(zbl (by decide) rfl (by decide) hr hb).sp,rfl⟩
theorem zt5:Lex [] []:=.nil fun c hc=>by cases hc
theorem zh6 {c:Bool} {u:List UInt8} {l:List Tk} (h:Lex u l):Lex (parS c u) (parT c l):=by
 cases c with
 |true=>exact h
 |false=>exact (zmP (.inl rfl)).lexR (.inl rfl) (h.app (zmP (.inr (.inl rfl))).lex rfl)
def Tr.text:Tr->List UInt8
 | .leaf n=>zeN n
 | .un n a=>parS (decide (a.lev≥4)) a.text++zc8 [] n
 | .bin n a b=>if ndK n=17 then parS (decide (a.lev≥4)) a.text++zc8 (parS (decide (b.lev≥5)) b.text) n
  else parS (decide (a.lev≥levS (ndK n))) a.text++(putS ([32]++opWd (levS (ndK n))++ [32]) []++parS (decide (b.lev≥levS (ndK n)+1)) b.text)
theorem zcK {lo hi:Int} {z:Bool} (h1: -1125899906842624 < lo) (h2:hi < 1125899906842624):∀ {l:List Int} {last:Int},Ris lo hi z last l->∀ x∈l,zfz x
 | [],_,_,x,hx=>by cases hx
 |y::r,_,h,x,hx=>by
  obtain⟨_,a,b,_,h⟩:=h;rcases zP.1 hx with rfl|hx
  ·exact⟨by omega,by omega⟩
  ·exact zcK h1 h2 h x hx
theorem num1 {a:Int} (h:zfz a):∀ x∈ [a],zfz x:=fun x hx=>by rw[zw.1 hx];exact h
theorem num2 {a b:Int} (h:zfz a) (h':zfz b):∀ x∈ [a,b],zfz x:=fun x hx=>by
 rcases zP.1 hx with rfl|hx
 ·exact h
 ·exact num1 h' x hx
theorem num3 {a b c:Int} (h:zfz a) (h':zfz b) (h'':zfz c):∀ x∈ [a,b,c],zfz x:=fun x hx=>by
 rcases zP.1 hx with rfl|hx
 ·exact h
 ·exact num2 h' h'' x hx
theorem nt {a lo hi:Int} (h:lo≤a∧a≤hi) (h1: -1125899906842624 < lo:=by decide) (h2:hi < 1125899906842624:=by decide):zfz a:=⟨by omega,by omega⟩
theorem zr1 {n:Nd} (h1:zbI n=true) (h2:¬ (8≤ndK n∧ndK n≤17)):Lex (zeN n) (zk5 n):=by
 obtain⟨⟨k1,k2⟩,_⟩:=zaS h1;unfold zeN zk5;rcases (show ndK n=1∨ndK n=2∨ndK n=3∨ndK n=4∨ndK n=5∨ndK n=6∨ndK n=7∨ndK n=18 by omega) with k|k|k|k|k|k|k|k<;>rw[k]
 ·obtain⟨e,b1,b2⟩:=fld1 h1 k;obtain⟨x,y⟩:=zcJ [ndN n,ndM n] (num2 (nt b1) (nt b2));exact zbl (w:=zfN) (by decide) rfl (by decide) x y
 ·obtain⟨e,b0,b1,b2⟩:=fld2 h1 k;obtain⟨x,y⟩:=zcJ [ndC n,ndN n,ndM n] (num3 (nt b0) (nt b1) ⟨by omega,by omega⟩);exact zbl (w:=zdO) (by decide) rfl (by decide) x y
 ·obtain⟨e,b0,b1,b2,b3⟩:=fld3 h1 k;obtain⟨x,y⟩:=zcJ [ndC n] (num1 (nt b0));obtain⟨x2,y2⟩:=zep b1 (zcK (by decide) (by decide) b3);have:=zbl (w:=zbM) (by decide) rfl (by decide) (x.app x2 y2) (y.app y2);rwa[<-zz]at this
 ·obtain⟨e,b0,b1,b2,b3⟩:=fld4 h1 k;obtain⟨x,y⟩:=zcJ [ndC n] (num1 (nt b0));obtain⟨x2,y2⟩:=zep b1 (zcK (by decide) (by decide) b3);have:=zbl (w:=zaW) (by decide) rfl (by decide) (x.app x2 y2) (y.app y2);rwa[<-zz]at this
 ·obtain⟨e,b1,b2,b3⟩:=fld5 h1 k;obtain⟨x2,y2⟩:=zep b1 (zcK (by decide) (by decide) b3);exact zbl (w:=za7) (by decide) rfl (by decide) x2 y2
 ·obtain⟨e,b0,b1,b2,b3⟩:=fld6 h1 k;obtain⟨x,y⟩:=zcJ [ndC n] (num1 (nt b0));obtain⟨x2,y2⟩:=zep b1 (zcK (by decide) (by decide) b3);have:=zbl (w:=zcP) (by decide) rfl (by decide) (x.app x2 y2) (y.app y2);rwa[<-zz]at this
 ·obtain⟨e,b0,b1,bz,b2,b3⟩:=fld7 h1 k;obtain⟨x,y⟩:=zcJ [ndC n,ndN n,ndM n] (num3 (nt b0) (nt b1) (nt b2));obtain⟨x2,y2⟩:=zk4 (ndL n) zt5 trivial;have:=zbl (w:=wNth) (by decide) rfl (by decide) (x.app x2 y2) (y.app y2);rw[<-zz]at this;exact this
 ·obtain⟨e,b0⟩:=zut h1 k;show Lex ((64::ndS n)++ []) [tkR (ndS n)];rw[z7];exact (sp_ref b0).lex
theorem zp2 {n:Nd} {b:List UInt8} {B:List Tk} (h1:zbI n=true) (h2:11≤ndK n∧ndK n≤17) (hB:ndK n=17->Lex b B):Lex (zc8 b n) (zjt B n)∧Bd (zc8 b n):=by
 unfold zc8 zjt;rcases (show ndK n=11∨ndK n=12∨ndK n=13∨ndK n=14∨ndK n=15∨ndK n=16∨ndK n=17 by omega) with k|k|k|k|k|k|k<;>rw[k]
 ·obtain⟨e,b1⟩:=zuA h1 k;obtain⟨x,y⟩:=zcJ [ndN n] (num1 (nt b1));exact⟨(zbl (w:=zdQ) (by decide) rfl (by decide) x y).sp,rfl⟩
 ·obtain⟨e,b1⟩:=zuz h1 k;obtain⟨x,y⟩:=zcJ [ndN n] (num1 (nt b1));exact⟨(zbl (w:=zfM) (by decide) rfl (by decide) x y).sp,rfl⟩
 ·obtain⟨e,b1⟩:=zuy h1 k;obtain⟨x,y⟩:=zcJ [ndN n] (num1 (nt b1));exact⟨(zbl (w:=zdP) (by decide) rfl (by decide) x y).sp,rfl⟩
 ·obtain⟨e,b1,b2,b3⟩:=zux h1 k;obtain⟨x2,y2⟩:=zep b1 (zcK (by decide) (by decide) b3);exact⟨(zbl (w:=zek) (by decide) rfl (by decide) x2 y2).sp,rfl⟩
 ·obtain⟨e,b1,b2,b3⟩:=zuw h1 k;obtain⟨x2,y2⟩:=zep b1 (zcK (by decide) (by decide) b3);exact⟨(zbl (w:=zbX) (by decide) rfl (by decide) x2 y2).sp,rfl⟩
 ·obtain⟨e,b0,⟨b1,b2,b3⟩,b4⟩:=zuv h1 k;obtain⟨x,y⟩:=zcJ [ndC n] (num1 (nt b0));obtain⟨x2,y2⟩:=zep b1 (zcK (by decide) (by decide) b3);obtain⟨x3,y3⟩:=zk4 (ndM n) x2 y2;refine⟨?_,rfl⟩;show Lex ((32::wPos)++zeB [ndC n]++((zcS (ndM n)++ [])++zcD (ndI n))) _;rw[z7,zz];exact (zbl (w:=wPos) (by decide) rfl (by decide) (x.app x3 y3) (y.app y3)).sp
 ·obtain⟨e,b1⟩:=zuu h1 k;obtain⟨x,y⟩:=zcJ [ndN n] (num1 (nt b1));refine⟨?_,rfl⟩;show Lex ((32::zbG)++zeB [ndN n]++(((32::wOf)++ [32]++ [])++b)) _;rw[z7,zz,zz];have x3:Lex (32::(wOf++([32]++b))) (tkW wOf::B):=(zbl (w:=wOf) (by decide) rfl (by decide) (hB k).sp rfl).sp;exact (zbl (w:=zbG) (by decide) rfl (by decide) (x.app x3 rfl) (y.app rfl)).sp
theorem ze8:∀ t:Tr,TrOk t->Lex t.text t.toks
 | .leaf n,h=>zr1 h.1 h.2.1
 | .un n a,h=>by
  obtain⟨h1,hk,_,ha⟩:=h;obtain⟨x,y⟩:=zp2 (b:=[]) (B:=[]) h1 (by omega) (fun e=>by omega);exact (zh6 (ze8 a ha)).app x y
 | .bin n a b,h=>by
  obtain⟨h1,hk,_,ha,hb⟩:=h;unfold Tr.text Tr.toks;split
  ·rename_i h17;obtain⟨x,y⟩:=zp2 (n:=n) h1 (by omega) (fun _=>zh6 (c:=decide (b.lev≥5)) (ze8 b hb));exact (zh6 (ze8 a ha)).app x y
  ·rename_i h17;have hl:levS (ndK n)=1∨levS (ndK n)=2∨levS (ndK n)=3:=by
    rcases (show ndK n=8∨ndK n=9∨ndK n=10 by omega) with k|k|k<;>rw[k]
    ·exact .inr (.inr rfl)
    ·exact .inl rfl
    ·exact .inr (.inl rfl)
   have hB:=zh6 (c:=decide (b.lev≥levS (ndK n)+1)) (ze8 b hb);generalize parS (decide (b.lev≥levS (ndK n)+1)) b.text=v at hB ⊢;generalize parT (decide (b.lev≥levS (ndK n)+1)) b.toks=m at hB ⊢;have hw:Lex (putS ([32]++opWd (levS (ndK n))++ [32]) []++v) (tkW (opWd (levS (ndK n)))::m)∧Bd (putS ([32]++opWd (levS (ndK n))++ [32]) []++v):=by
    have e:putS ([32]++opWd (levS (ndK n))++ [32]) []++v=32::(opWd (levS (ndK n))++(32::v)):=by
     show (([32]++opWd (levS (ndK n))++ [32])++ [])++v=_;simp
    rw[e];refine⟨?_,rfl⟩;rcases hl with hl|hl|hl<;>rw[hl]
    ·exact (zbl (w:=wOr) (by decide) rfl (by decide) hB.sp rfl).sp
    ·exact (zbl (w:=zmK) (by decide) rfl (by decide) hB.sp rfl).sp
    ·exact (zbl (w:=wAnd) (by decide) rfl (by decide) hB.sp rfl).sp
   exact (zh6 (ze8 a ha)).app hw.1 hw.2
theorem ztR {t:Tr} (h:TrOk t):Qt 0 t.toks t:=(zfl t h).up (zk _) (by have:=zmb (ndK t.root);unfold levI Tr.lev;omega)
theorem zoa {t:Tr} (h:TrOk t) (hs:t.size≤64):zfo t.text= .ok t:=q_rule (ztR h) hs (zr0 (ze8 t h) _ [] rfl)
def opsN (n:Nd):Int:=(zd2 (ndK n)).1
def zfy (n:Nd) (i:Int):Bool:=
 (bif decide (0 < opsN n) then inB (ndL n) 0 (i - 1) else (ndL n==0)||(ndK n==7))&&(bif decide (1 < opsN n) then inB (ndR n) 0 (i - 1) else ndR n==0)
def bump (u:List Int) (j:Int):List Int:=u.set j.toNat (u.getD j.toNat 0+1)
def zc3 (u:List Int) (n:Nd):List Int:=
 bif decide (1 < opsN n) then bump (bump u (ndL n)) (ndR n) else bif decide (0 < opsN n) then bump u (ndL n) else u
def zcB (r:List Nd) (k:Nat):List Int:=(r.take k).foldl zc3 (List.replicate r.length 0)
def zg2 (n:Nd) (i:Int):Bool:=zbI n&&zfy n i
def zdk (r:List Nd):Nat->Bool
 |0=>true
 |k+1=>zdk r k&&zg2 (r.getD k zNd) (k:Int)
def wfS (r:List Nd):Bool:=decide (1≤r.length)&&decide (r.length≤64)&&zdk r r.length&& !((zcB r r.length).take (r.length - 1)).any not1
def zdA (r:List Nd):Int:=if 64 < r.length∨r.any bigN=true then 2 else if wfS r=true then 0 else 1
theorem zfB {r:List Nd}:∀ {k:Nat},zdk r k=true↔∀ j,j < k->zg2 (r.getD j zNd) (j:Int)=true
 |0=>⟨fun _ j h=>by omega,fun _=>rfl⟩
 |k+1=>by
  unfold zdk;rw[zd,zfB (k:=k)];constructor
  ·rintro ⟨h1,h2⟩ j hj;by_cases e:j=k
   ·rw[e];exact h2
   ·exact h1 j (by omega)
  ·exact fun h=>⟨fun j hj=>h j (by omega),h k (by omega)⟩
theorem zoh (r:List Nd) (j:Nat):zax r (j:Int)=r.getD j zNd:=rfl
theorem zpJ {n:Nd} (h:11≤ndK n∧ndK n≤16):opsN n=1:=by
 unfold opsN;rcases (show ndK n=11∨ndK n=12∨ndK n=13∨ndK n=14∨ndK n=15∨ndK n=16 by omega) with k|k|k|k|k|k<;>rw[k]<;>rfl
theorem zl3 {n:Nd} (h:(8≤ndK n∧ndK n≤10)∨ndK n=17):opsN n=2:=by
 unfold opsN;rcases (show ndK n=8∨ndK n=9∨ndK n=10∨ndK n=17 by omega) with k|k|k|k<;>rw[k]<;>rfl
theorem zjN {n:Nd} (h1:1≤ndK n∧ndK n≤18) (h:¬ (8≤ndK n∧ndK n≤17)):opsN n=0:=by
 unfold opsN;rcases (show ndK n=1∨ndK n=2∨ndK n=3∨ndK n=4∨ndK n=5∨ndK n=6∨ndK n=7∨ndK n=18 by omega) with k|k|k|k|k|k|k|k<;>rw[k]<;>rfl
theorem zsW {n:Nd} {i:Int} (h:11≤ndK n∧ndK n≤16):zfy n i=true↔(0≤ndL n∧ndL n≤i - 1)∧ndR n=0:=by
 unfold zfy;rw[zpJ h,decide_eq_true (by decide),decide_eq_false (by decide),cond_true,cond_false,zd,zaU,beq_iff_eq]
theorem zl4 {n:Nd} {i:Int} (h:(8≤ndK n∧ndK n≤10)∨ndK n=17):zfy n i=true↔(0≤ndL n∧ndL n≤i - 1)∧(0≤ndR n∧ndR n≤i - 1):=by
 unfold zfy;rw[zl3 h,decide_eq_true (by decide),decide_eq_true (by decide),cond_true,cond_true,zd,zaU,zaU]
theorem zrP {n:Nd} {i:Int} (h1:1≤ndK n∧ndK n≤18) (h:¬ (8≤ndK n∧ndK n≤17)):zfy n i=true↔(ndL n=0∨ndK n=7)∧ndR n=0:=by
 unfold zfy;rw[zjN h1 h,decide_eq_false (by decide),decide_eq_false (by decide),cond_false,cond_false,zd,zJ,beq_iff_eq,beq_iff_eq,beq_iff_eq]
theorem znr {n:Nd} (h:8≤ndK n∧ndK n≤17) (l r:Int):zbI (zel n l r)=zbI n:=by
 have h7:zdj (zel n l r)=zdj n:=by
  unfold zdj;have hk:(zel n l r).1=n.1:=rfl;have h7:(n.1==7)=false:=beq_eq_false_iff_ne.2 fun e=>by have:ndK n=7:=e;omega
  rw[hk,h7];rfl
 unfold zbI;rw[h7];rfl
def trF:Nat->List Nd->Int->Tr
 |0,r,i=>.leaf (zax r i)
 |k+1,r,i=>
  if 11≤ndK (zax r i)∧ndK (zax r i)≤16 then .un (zel (zax r i) 0 0) (trF k r (ndL (zax r i)))
  else if (8≤ndK (zax r i)∧ndK (zax r i)≤10)∨ndK (zax r i)=17 then .bin (zel (zax r i) 0 0) (trF k r (ndL (zax r i))) (trF k r (ndR (zax r i)))
  else .leaf (zax r i)
theorem zlP:∀ (k:Nat) (r:List Nd) (i:Int),(trF k r i).lev=levS (ndK (zax r i))
 |0,_,_=>rfl
 |k+1,r,i=>by
  unfold trF;split
  ·rfl
  ·split<;>rfl
def Low (r:List Nd):Prop:=∀ j:Nat,j < r.length->(8≤ndK (zax r j)->ndK (zax r j)≤17->0≤ndL (zax r j)∧ndL (zax r j) < j)∧(8≤ndK (zax r j)->ndK (zax r j)≤10∨ndK (zax r j)=17->0≤ndR (zax r j)∧ndR (zax r j) < j)
theorem zri {n:Nd} (b:List UInt8) (h:11≤ndK n∧ndK n≤16):zc8 b n=zc8 [] (zel n 0 0):=by
 unfold zc8;have hk:ndK (zel n 0 0)=ndK n:=rfl;rw[hk];rcases (show ndK n=11∨ndK n=12∨ndK n=13∨ndK n=14∨ndK n=15∨ndK n=16 by omega) with k|k|k|k|k|k<;>rw[k]<;>rfl
theorem zmN (n:Nd) (a b:Tr):(Tr.bin n a b).text=if ndK n=17 then parS (decide (a.lev≥4)) a.text++zc8 (parS (decide (b.lev≥5)) b.text) n
 else parS (decide (a.lev≥levS (ndK n))) a.text++(putS ([32]++opWd (levS (ndK n))++ [32]) []++parS (decide (b.lev≥levS (ndK n)+1)) b.text):=rfl
theorem zhm {r:List Nd} (hl:Low r):∀ (k:Nat) (i:Nat),i < k->i < r.length->zdl k r i=(trF k r i).text
 |0,_,h,_=>by omega
 |k+1,i,hk,hr=>by
  obtain⟨hL,hR⟩:=hl i hr;unfold zdl trF;generalize hn:zax r (i:Int)=n at *;have key:∀ j:Int,0≤j->j < (i:Int)->zdl k r j=(trF k r j).text:=fun j h0 h1=>by
   obtain⟨m,rfl⟩:∃ m:Nat,j=(m:Int):=⟨j.toNat,by omega⟩;exact zhm hl k m (by omega) (by omega)
  by_cases h11:11≤ndK n∧ndK n≤16
  ·rw[if_pos h11,zma (by omega),if_neg (by decide),if_pos rfl];obtain⟨a,b⟩:=hL (by omega) (by omega);show _=parS (decide ((trF k r (ndL n)).lev≥4)) (trF k r (ndL n)).text++zc8 [] (zel n 0 0);rw[zlP,key _ a b,zri _ h11]
  ·rw[if_neg h11];by_cases h8:(8≤ndK n∧ndK n≤10)∨ndK n=17
   ·rw[if_pos h8];obtain⟨a,b⟩:=hL (by omega) (by omega);obtain⟨c,d⟩:=hR (by omega) (by omega);rw[key _ a b,key _ c d];have hk:ndK (zel n 0 0)=ndK n:=rfl;rw[zmN,hk,zlP,zlP];by_cases h17:ndK n=17
    ·rw[if_pos h17,h17,if_neg (by decide),if_pos (by decide)];have:∀ b,zc8 b n=zc8 b (zel n 0 0):=fun b=>by
      unfold zc8;rw[hk,h17];rfl
     rw[this]
    ·have hlt:levS (ndK n) < 4:=by rcases (show ndK n=8∨ndK n=9∨ndK n=10 by omega) with k|k|k<;>rw[k]<;>decide
     rw[if_neg h17,if_pos hlt]
   ·rw[if_neg h8];rw[zna (by omega),if_neg (by decide),if_neg (by decide)];rfl
theorem zdh {r:List Nd} (h:zdk r r.length=true) {j:Nat} (hj:j < r.length):zbI (zax r j)=true∧zfy (zax r j) (j:Int)=true:=by
 have:=zfB.1 h j hj;unfold zg2 at this;rw[zd]at this;exact this
theorem zm7 {r:List Nd} (h:zdk r r.length=true):Low r:=fun j hj=>by
 obtain⟨_,h2⟩:=zdh h hj;constructor
 ·intro a b;by_cases hu:11≤ndK (zax r j)∧ndK (zax r j)≤16
  ·have:=((zsW hu).1 h2).1;omega
  ·have:=((zl4 (by omega)).1 h2).1;omega
 ·intro a b;have:=((zl4 (by omega)).1 h2).2;omega
theorem zoM {r:List Nd} (h:zdk r r.length=true):∀ (k i:Nat),i < k->i < r.length->TrOk (trF k r i)
 |0,_,hk,_=>by omega
 |k+1,i,hk,hr=>by
  obtain⟨h1,h2⟩:=zdh h hr;obtain⟨⟨k1,k2⟩,_⟩:=zaS h1;have key:∀ j:Int,0≤j->j≤(i:Int) - 1->TrOk (trF k r j):=fun j h0 h1=>by
   obtain⟨m,rfl⟩:∃ m:Nat,j=(m:Int):=⟨j.toNat,by omega⟩;exact zoM h k m (by omega) (by omega)
  unfold trF;generalize zax r (i:Int)=n at *;by_cases h11:11≤ndK n∧ndK n≤16
  ·rw[if_pos h11];obtain⟨⟨a,b⟩,_⟩:=(zsW h11).1 h2;exact⟨by rw[znr (by omega)];exact h1,h11,⟨rfl,rfl⟩,key _ a b⟩
  ·rw[if_neg h11];by_cases h8:(8≤ndK n∧ndK n≤10)∨ndK n=17
   ·rw[if_pos h8];obtain⟨⟨a,b⟩,⟨c,d⟩⟩:=(zl4 h8).1 h2;exact⟨by rw[znr (by omega)];exact h1,h8,⟨rfl,rfl⟩,key _ a b,key _ c d⟩
   ·rw[if_neg h8];have hlf:¬ (8≤ndK n∧ndK n≤17):=by omega
    obtain⟨a,b⟩:=(zrP ⟨k1,k2⟩ hlf).1 h2;exact⟨h1,hlf,b,fun e=>a.resolve_right e⟩
theorem zeu (u:List Int) (j:Int):(bump u j).length=u.length:=List.length_set ..
theorem znM (u:List Int) (n:Nd):(zc3 u n).length=u.length:=by
 unfold zc3;cases decide (1 < opsN n)<;>cases decide (0 < opsN n)<;>simp[zeu]
theorem zdd {u:List Int} {j:Int} {k:Nat} (hj:j.toNat < u.length):(bump u j).getD k 0=if k=j.toNat then u.getD k 0+1 else u.getD k 0:=by
 unfold bump;rw[zR,k6];by_cases e:k=j.toNat
 ·subst e;rw[if_pos rfl,if_pos rfl,if_pos hj];rfl
 ·rw[if_neg fun h=>e h.symm,if_neg e,zR]
theorem zdf (r:List Nd) (k:Nat):(zcB r k).length=r.length:=by
 unfold zcB;have:∀ (l:List Nd) (u:List Int),(l.foldl zc3 u).length=u.length:=by
  intro l
  induction l with
  |nil=>intro u;rfl
  |cons n l ih=>intro u;rw[List.foldl_cons,ih,znM]
 rw[this,List.length_replicate]
theorem zc7 {r:List Nd} {k:Nat} (hk:k < r.length):zcB r (k+1)=zc3 (zcB r k) (zax r k):=by
 unfold zcB;rw[zE hk,jT];show zc3 _ r[k]=zc3 _ (r.getD k zNd);rw[zR,zT hk];rfl
theorem zlO (r:List Nd) (j:Nat):(zcB r 0).getD j 0=0:=by
 unfold zcB;rw[List.take_zero,List.foldl_nil,zR,List.getElem?_replicate];split<;>rfl
theorem zfO {n:Nd} {u:List Int} (h:(8≤ndK n->ndK n≤17->0≤ndL n∧ndL n < u.length)∧(8≤ndK n->ndK n≤10∨ndK n=17->0≤ndR n∧ndR n < u.length)) (hk:1≤ndK n∧ndK n≤18) (k:Nat):
  (zc3 u n).getD k 0=u.getD k 0+(if 8≤ndK n∧ndK n≤17∧k=(ndL n).toNat then 1 else 0)+(if ((8≤ndK n∧ndK n≤10)∨ndK n=17)∧k=(ndR n).toNat then 1 else 0):=by
 obtain⟨hL,hR⟩:=h;unfold zc3;by_cases h11:11≤ndK n∧ndK n≤16
 ·obtain⟨a,b⟩:=hL (by omega) (by omega);rw[zpJ h11,decide_eq_false (by decide),decide_eq_true (by decide),cond_false,cond_true,zdd (by omega)];rw[if_neg (c:=((8≤ndK n∧ndK n≤10)∨ndK n=17)∧k=(ndR n).toNat) (by omega)];by_cases e:k=(ndL n).toNat
  ·rw[if_pos e,if_pos ⟨by omega,by omega,e⟩];omega
  ·rw[if_neg e,if_neg fun h=>e h.2.2];omega
 ·by_cases h8:(8≤ndK n∧ndK n≤10)∨ndK n=17
  ·obtain⟨a,b⟩:=hL (by omega) (by omega);obtain⟨c,d⟩:=hR (by omega) (by omega);rw[zl3 h8,decide_eq_true (by decide),cond_true,zdd (by rw[zeu];omega),zdd (by omega)];by_cases e:k=(ndL n).toNat
   ·rw[if_pos e,if_pos (c:=8≤ndK n∧ndK n≤17∧k=(ndL n).toNat) ⟨by omega,by omega,e⟩];by_cases e2:k=(ndR n).toNat
    ·rw[if_pos e2,if_pos ⟨h8,e2⟩]
    ·rw[if_neg e2,if_neg fun h=>e2 h.2];omega
   ·rw[if_neg e,if_neg (c:=8≤ndK n∧ndK n≤17∧k=(ndL n).toNat) fun h=>e h.2.2];by_cases e2:k=(ndR n).toNat
    ·rw[if_pos e2,if_pos ⟨h8,e2⟩];omega
    ·rw[if_neg e2,if_neg fun h=>e2 h.2];omega
  ·rw[zjN hk (by omega),decide_eq_false (by decide),decide_eq_false (by decide),cond_false,cond_false,if_neg (by omega),if_neg (by omega)];omega
def pot (u:List Int) (f:Nat->Nat):Nat->Nat
 |0=>0
 |m+1=>pot u f m+(if u.getD m 0=0 then f m else 0)
theorem zhk {u:List Int} {f:Nat->Nat} {j:Int} (hj:j.toNat < u.length) (h0:u.getD j.toNat 0=0):∀ {m:Nat},(j.toNat < m->pot (bump u j) f m+f j.toNat=pot u f m)∧(m≤j.toNat->pot (bump u j) f m=pot u f m)
 |0=>⟨fun h=>by omega,fun _=>rfl⟩
 |m+1=>by
  obtain⟨i1,i2⟩:=zhk (f:=f) hj h0 (m:=m);constructor
  ·intro h;unfold pot;rw[zdd hj];by_cases e:m=j.toNat
   ·rw[i2 (by omega),if_pos e,e,h0,if_neg (by decide),if_pos rfl];omega
   ·rw[if_neg e, <-i1 (by omega)];omega
  ·intro h;unfold pot;rw[i2 (by omega),zdd hj,if_neg (c:=m=j.toNat) (by omega)]
theorem ze1 {r:List Nd} (hl:Low r) (hk:∀ j:Nat,j < r.length->1≤ndK (zax r j)∧ndK (zax r j)≤18):∀ m,m≤r.length->∀ j,m≤j->(zcB r m).getD j 0=0
 |0,_,j,_=>zlO r j
 |m+1,hm,j,hj=>by
  obtain⟨a,b⟩:=hl m (by omega);rw[zc7 (by omega),zfO (by rw[zdf];exact⟨fun x y=>by have:=a x y;omega,fun x y=>by have:=b x y;omega⟩) (hk m (by omega)),ze1 hl hk m (by omega) j (by omega),if_neg,if_neg]
  ·omega
  ·rintro ⟨x,y⟩;have:=b (by omega) (by omega);omega
  ·rintro ⟨x,y,z⟩;have:=a x y;omega
theorem zhw {r:List Nd} (hl:Low r) (hk:∀ j:Nat,j < r.length->1≤ndK (zax r j)∧ndK (zax r j)≤18) (j:Nat):∀ d m,m+d≤r.length->(zcB r m).getD j 0≤(zcB r (m+d)).getD j 0
 |0,m,_=>yN _
 |d+1,m,h=>by
  have:=zhw hl hk j d m (by omega);obtain⟨a,b⟩:=hl (m+d) (by omega);rw[<-Nat.add_assoc,zc7 (by omega),zfO (by rw[zdf];exact⟨fun x y=>by have:=a x y;omega,fun x y=>by have:=b x y;omega⟩) (hk (m+d) (by omega))];have p1:(0:Int)≤if 8≤ndK (zax r (m+d:Nat))∧ndK (zax r (m+d:Nat))≤17∧j=(ndL (zax r (m+d:Nat))).toNat then 1 else 0:=by split<;>decide
  have p2:(0:Int)≤if ((8≤ndK (zax r (m+d:Nat))∧ndK (zax r (m+d:Nat))≤10)∨ndK (zax r (m+d:Nat))=17)∧j=(ndR (zax r (m+d:Nat))).toNat then 1 else 0:=by split<;>decide
  omega
theorem zjr {r:List Nd} (hl:Low r):∀ (k k' i:Nat),i < k->i < k'->i < r.length->trF k r i=trF k' r i
 |0,_,_,h,_,_=>by omega
 |_+1,0,_,_,h,_=>by omega
 |k+1,k'+1,i,h,h',hr=>by
  obtain⟨hL,hR⟩:=hl i hr;have key:∀ j:Int,0≤j->j < (i:Int)->trF k r j=trF k' r j:=fun j h0 h1=>by
   obtain⟨m,rfl⟩:∃ m:Nat,j=(m:Int):=⟨j.toNat,by omega⟩;exact zjr hl k k' m (by omega) (by omega) (by omega)
  unfold trF;split
  ·rename_i hu;obtain⟨a,b⟩:=hL (by omega) (by omega);rw[key _ a b]
  ·split
   ·rename_i hb;obtain⟨a,b⟩:=hL (by omega) (by omega);obtain⟨c,d⟩:=hR (by omega) (by omega);rw[key _ a b,key _ c d]
   ·rfl
theorem zm2 {r:List Nd} (hl:Low r) (hk:∀ j:Nat,j < r.length->1≤ndK (zax r j)∧ndK (zax r j)≤18) (h1:∀ j,(zcB r r.length).getD j 0≤1):∀ m,m≤r.length->pot (zcB r m) (fun j=>(trF (r.length+1) r j).size) m=m
 |0,_=>rfl
 |m+1,hm=>by
  have ih:=zm2 hl hk h1 m (by omega);obtain⟨hL,hR⟩:=hl m (by omega);have hkm:=hk m (by omega);have hb:∀ j,(zcB r (m+1)).getD j 0≤1:=fun j=>by
   have:=zhw hl hk j (r.length - (m+1)) (m+1) (by omega);rw[show m+1+(r.length - (m+1))=r.length by omega]at this;have:=h1 j;omega
  have hab:=ze1 hl hk m (by omega);have hlen:=zdf r m;have hpos:∀ j,0≤(zcB r m).getD j 0:=fun j=>by
   have:=zhw hl hk j m 0 (by omega);rw[zlO,yu]at this;exact this
  have hm0:(zcB r (m+1)).getD m 0=0:=by
   have h:=hab m (zj _);rw[zc7 (by omega),zfO (by rw[zdf];exact⟨fun x y=>by have:=hL x y;omega,fun x y=>by have:=hR x y;omega⟩) hkm,h,if_neg,if_neg]
   ·rfl
   ·rintro ⟨x,y⟩;have:=hR (by omega) (by omega);omega
   ·rintro ⟨x,y,z⟩;have:=hL x y;omega
  have key:∀ j:Int,0≤j->j < (m:Int)->(trF r.length r j).size=(trF (r.length+1) r (j.toNat:Nat)).size:=fun j h0 h1=>by
   obtain⟨q,rfl⟩:∃ q:Nat,j=(q:Int):=⟨j.toNat,by omega⟩;rw[zy,zjr hl r.length (r.length+1) q (by omega) (by omega) (by omega)]
  have hf:∀ n,zax r (m:Int)=n->(trF (r.length+1) r (m:Int)).size=(if 8≤ndK n∧ndK n≤17 then (trF (r.length+1) r ((ndL n).toNat:Nat)).size else 0)+(if (8≤ndK n∧ndK n≤10)∨ndK n=17 then (trF (r.length+1) r ((ndR n).toNat:Nat)).size else 0)+1:=by
   rintro n rfl
   conv=>lhs;unfold trF
   split
   ·rename_i hu;obtain⟨a,b⟩:=hL (by omega) (by omega);rw[if_pos (by omega),if_neg (by omega)];show (trF r.length r _).size+1=_;rw[key _ a b]
   ·split
    ·rename_i hu;obtain⟨a,b⟩:=hL (by omega) (by omega);obtain⟨c,d⟩:=hR (by omega) (by omega);rw[if_pos (by omega)];show (trF r.length r _).size+(trF r.length r _).size+1=_;rw[key _ a b,key _ c d]
    ·rw[if_neg (by omega)];rfl
  have hf:=hf _ rfl;unfold pot;rw[hm0,if_pos rfl];have hu:=zc7 (r:=r) (k:=m) (by omega);rw[hu]at hb ⊢;generalize hn:zax r (m:Int)=n at *;rw[hf];unfold zc3 at hb ⊢;by_cases h11:11≤ndK n∧ndK n≤16
  ·obtain⟨a,b⟩:=hL (by omega) (by omega);rw[zpJ h11,decide_eq_false (by decide),decide_eq_true (by decide),cond_false,cond_true]at hb ⊢;rw[if_pos (by omega),if_neg (by omega)];have h0:=hb (ndL n).toNat;rw[zdd (by omega),if_pos rfl]at h0;have:=hpos (ndL n).toNat;have:=(zhk (f:=fun j=>(trF (r.length+1) r j).size) (u:=zcB r m) (j:=ndL n) (by omega) (by omega) (m:=m)).1 (by omega);omega
  ·by_cases h8:(8≤ndK n∧ndK n≤10)∨ndK n=17
   ·obtain⟨a,b⟩:=hL (by omega) (by omega);obtain⟨c,d⟩:=hR (by omega) (by omega);rw[zl3 h8,decide_eq_true (by decide),cond_true]at hb ⊢;rw[if_pos (by omega),if_pos h8];have hne:(ndL n).toNat≠(ndR n).toNat:=fun e=>by
     have h0:=hb (ndR n).toNat;rw[zdd (by rw[zeu];omega),if_pos rfl,zdd (by omega),if_pos e.symm]at h0;have:=hpos (ndR n).toNat;omega
    have h0:=hb (ndL n).toNat;rw[zdd (by rw[zeu];omega),if_neg hne,zdd (by omega),if_pos rfl]at h0;have h2:=hb (ndR n).toNat;rw[zdd (by rw[zeu];omega),if_pos rfl,zdd (by omega),if_neg (fun e=>hne e.symm)]at h2;have p1:=hpos (ndL n).toNat;have p2:=hpos (ndR n).toNat;have e1:=(zhk (f:=fun j=>(trF (r.length+1) r j).size) (u:=zcB r m) (j:=ndL n) (by omega) (by omega) (m:=m)).1 (by omega);have e2:=(zhk (f:=fun j=>(trF (r.length+1) r j).size) (u:=bump (zcB r m) (ndL n)) (j:=ndR n) (by rw[zeu];omega) (by rw[zdd (by omega),if_neg (fun e=>hne e.symm)];omega) (m:=m)).1 (by omega);omega
   ·rw[zjN hkm (by omega),decide_eq_false (by decide),decide_eq_false (by decide),cond_false,cond_false,if_neg (by omega),if_neg (by omega),ih]
theorem zej {r:List Nd} (h:wfS r=true):(1≤r.length∧r.length≤64)∧zdk r r.length=true∧∀ j,j < r.length - 1->(zcB r r.length).getD j 0=1:=by
 unfold wfS at h;simp only[zd,decide_eq_true_iff,zs,List.any_eq_false]at h;obtain⟨⟨h1,h2⟩,h3⟩:=h;refine⟨h1,h2,fun j hj=>?_⟩;have hl:=zdf r r.length;have hj2:j < (zcB r r.length).length:=by omega
 have:=h3 ((zcB r r.length)[j]) (List.mem_take_iff_getElem.2 ⟨j,by omega,rfl⟩);rw[zR,zT hj2];unfold not1 at this
 simpa using this
def zdR (r:List Nd):Tr:=trF (r.length+1) r ((r.length:Int) - 1)
theorem zoP {r:List Nd} (h:wfS r=true):(zdR r).size=r.length:=by
 obtain⟨⟨h1,h2⟩,h3,h4⟩:=zej h;have hl:=zm7 h3;have hk:∀ j:Nat,j < r.length->1≤ndK (zax r j)∧ndK (zax r j)≤18:=fun j hj=>(zaS (zdh h3 hj).1).1;have hlast:(zcB r r.length).getD (r.length - 1) 0=0:=by
  obtain⟨m,hm⟩:∃ m,r.length=m+1:=⟨r.length - 1,by omega⟩;obtain⟨a,b⟩:=hl m (by omega);rw[hm,Nat.add_sub_cancel,zc7 (by omega),zfO (by rw[zdf];exact⟨fun x y=>by have:=a x y;omega,fun x y=>by have:=b x y;omega⟩) (hk m (by omega)),ze1 hl hk m (by omega) m (zj _),if_neg,if_neg]
  ·rfl
  ·rintro ⟨x,y⟩;have:=b (by omega) (by omega);omega
  ·rintro ⟨x,y,z⟩;have:=a x y;omega
 have hle:∀ j,(zcB r r.length).getD j 0≤1:=fun j=>by
  by_cases e:j < r.length - 1
  ·rw[h4 j e];exact yN _
  ·by_cases e2:j=r.length - 1
   ·rw[e2,hlast];decide
   ·rw[ze1 hl hk r.length (zj _) j (by omega)];decide
 have:=zm2 hl hk hle r.length (zj _);obtain⟨m,hm⟩:∃ m,r.length=m+1:=⟨r.length - 1,by omega⟩;have hp:∀ q,q≤m->pot (zcB r r.length) (fun j=>(trF (r.length+1) r j).size) q=0:=by
  intro q
  induction q with
  |zero=>intro _;rfl
  |succ q ih=>intro hq;unfold pot;rw[ih (by omega),h4 q (by omega),if_neg (by decide)]
 rw[hm]at this hlast;unfold pot at this;rw[<-hm]at this hlast;rw[hp m (zj _)]at this;have hm2:r.length - 1=m:=by omega
 rw[hm2]at hlast;rw[hlast,if_pos rfl]at this;unfold zdR;rw[show ((r.length:Int) - 1)=((m:Nat):Int) by omega];omega
theorem ztz {r:List Nd} (h:wfS r=true):TrOk (zdR r):=by
 obtain⟨⟨h1,h2⟩,h3,h4⟩:=zej h;unfold zdR;rw[show ((r.length:Int) - 1)=((r.length - 1:Nat):Int) by omega];exact zoM h3 _ _ (by omega) (by omega)
theorem zoO {r:List Nd} (h:wfS r=true):zdl (r.length+1) r ((r.length:Int) - 1)=(zdR r).text:=by
 obtain⟨⟨h1,h2⟩,h3,h4⟩:=zej h;unfold zdR;rw[show ((r.length:Int) - 1)=((r.length - 1:Nat):Int) by omega];exact zhm (zm7 h3) _ _ (by omega) (by omega)
def fmtS (r:List Nd):List UInt8×Int:=if zdA r=0 then (if 4000 < (zdR r).text.length then ([],2) else ((zdR r).text,0)) else ([],zdA r)
def lt6 (c:UInt8):Bool:=(decide (97≤c)&&decide (c≤122))||(decide (65≤c)&&decide (c≤90))
theorem lt6_eq (c:UInt8):lt6 c=isLt c:=by
 have:=zhs (p:=fun c=>lt6 c==isLt c) (by decide+kernel) c;exact eq_of_beq this
def guT:Tbl:=(236,.int .u64)::gmT
theorem guT_ok:TOk Tryz.prog guT gmQ:=zsL (by kernel_rfl) (by kernel_rfl)
def guK:Kn:={ T:=guT,Q:=gmQ,U:=gmU,C:=[] }
theorem zlh:KnOk Tryz.prog gmH guK:=⟨guT_ok,zig,CsOk.nil,zjh,RsOk.nil⟩
def cMag:Ctr:={ args:=[i64],pre:=fun x=>[0≤x.1],res:=.int .u64,own:=none,out:=fun x=>yP 64 x.1 }
theorem mag_ok:yB Tryz.prog gmH 223 cMag:=by
 refine zap (K:=guK) zlh Tryz.func223 rfl rfl Tryz.call223 rfl (by decide) (by intro h;cases h) ?_;rintro w0 X hX ⟨(n:Int),_⟩ hp;have hn:0≤n:=hp;change AWP _ _ _ _ _ ⟨[(0,⟨i64,n⟩)],[],0⟩ _;refine za (za ?_);refine zaa hX zlh rfl ?_ ?_
 ·trivial
 refine za (za ?_);refine zaa hX zlh rfl ?_ ?_
 ·trivial
 refine zaf rfl (fun hb=>?_) (fun hb=>?_)
 ·have hb:decide (n < 0)=true:=hb;have hb:=of_decide_eq_true hb;omega
 apply zab;refine za (za ?_);refine zaa hX zlh rfl ?_ ?_
 ·trivial
 refine zm ⟨.inr rfl,zas rfl trivial rfl rfl ?_⟩;rfl
theorem bvI {a:Int} (h:0≤a):(⟨.int .u64,yP 64 a⟩:V)=⟨.int .u64,yd 64 a.toNat⟩:=by
 have:yP 64 a=yd 64 a.toNat:=by
  conv=>lhs;rw[<-qm h]
  exact BitVec.ofInt_natCast ..
 rw[this]
theorem bvN {y:Nat} (h:y≤1000000000000000):(yd 64 y).toNat=y:=by
 rw[BitVec.toNat_ofNat];exact Nat.mod_eq_of_lt (by omega)
theorem bvR {x y:Nat} (hx:x≤1000000000000000) (hy:y≤1000000000000000):(⟨.int .u64,yd 64 x % yd 64 y⟩:V)=⟨.int .u64,yd 64 (x % y)⟩:=by
 have hm:x % y≤x:=Nat.mod_le ..;have:yd 64 x % yd 64 y=yd 64 (x % y):=BitVec.eq_of_toNat_eq (by rw[BitVec.toNat_umod,bvN hx,bvN hy,bvN (by omega)]);rw[this]
def cGcd:Ctr:={ args:=[i64,i64],pre:=fun x=>[1≤x.1,x.1≤1000000000000000,1≤x.2.1,x.2.1≤1000000000000000],res:=i64,own:=none,out:=fun x=>((xP x.2.1.toNat x.1.toNat:Nat):Int) }
def kGcd:Kn:={ guK with C:=[(223,cMag)] }
theorem zeO:KnOk Tryz.prog gmH kGcd:=zlh.with (.cons mag_ok .nil)
theorem gcd_ok:yB Tryz.prog gmH 190 cGcd:=by
 refine zap (K:=kGcd) zeO Tryz.func190 rfl rfl Tryz.call190 rfl (by decide) (by intro h;cases h) ?_;rintro w0 X hX ⟨(a:Int),(b:Int),_⟩ hp;obtain⟨ha,ha',hb,hb'⟩:1≤a∧a≤1000000000000000∧1≤b∧b≤1000000000000000:=by
  simp only[cGcd,allP]at hp
  simpa using hp
 change AWP _ _ _ _ _ ⟨[(0,⟨i64,a⟩),(1,⟨i64,b⟩)],[],0⟩ _;apply zae;refine za (za ?_);refine zaa hX zeO rfl ?_ ?_
 ·trivial
 refine za (za ?_);refine zaa hX zeO rfl ?_ ?_
 ·have h1:0≤a:=by omega
  have h2:0≤b:=by omega
  repeat'(first|exact trivial|exact h1|exact h2|(refine⟨?_,?_⟩)|(intro _))
 (repeat(first|apply zae|apply zab|apply zac|apply zad));refine yD (ι:=Nat×Nat) (fun p=>⟨[(0,⟨i64,a⟩),(1,⟨i64,b⟩),(5,⟨.int .u64,yd 64 p.1⟩),(6,⟨.int .u64,yd 64 p.2⟩)],[],0⟩) (fun p=>p.1≤1000000000000000∧p.2≤1000000000000000∧xP p.2 p.1=xP b.toNat a.toNat) (fun p=>p.2) (a.toNat,b.toNat) ⟨by omega,by omega,rfl⟩ ⟨⟨rfl,rfl,bvI (by omega),bvI (by omega),trivial⟩,trivial,rfl,rfl⟩ ?_;rintro ⟨x,y⟩ ⟨hx,hy,hg⟩;have hx:x≤1000000000000000:=hx;have hy:y≤1000000000000000:=hy;have hg:xP y x=xP b.toNat a.toNat:=hg;refine za (za ?_);refine zaa hX zeO rfl ?_ ?_
 ·trivial
 refine zaf rfl (fun hb=>?_) (fun hb=>?_)
 ·have hc:((((yd 64 y).toNat:Nat):Int) != 0)=true:=hb;have hy1:y≠0:=fun e=>by subst e;exact absurd hc (by decide)
  have hy0:yd 64 y≠0:=fun e=>hy1 (by have:=congrArg BitVec.toNat e;rw[bvN hy]at this;exact this);(repeat(first|apply zae|apply zab|apply zac|apply zad));refine AWP.ordF (σ':=⟨[(0,⟨i64,a⟩),(1,⟨i64,b⟩),(5,⟨.int .u64,yd 64 y⟩),(6,⟨.int .u64,yd 64 (x % y)⟩)],[],0⟩) dM 6 rfl (by kernel_rfl) ?_ ?_
  ·repeat'(first|exact jE|refine jj ⟨_,rfl,?_⟩ ?_|refine yZ hX zeO rfl trivial ?_|refine yZ hX zeO rfl (by repeat'(first|exact trivial|exact hy0|(refine⟨?_,?_⟩)|(intro _))) ?_|(refine OrdA.last ?_;exact⟨rfl,⟨rfl,rfl,rfl,bvR hx hy,trivial⟩,trivial,rfl,rfl⟩))
  exact⟨(y,x % y),⟨hy,zV (Nat.mod_le ..) hx,by rw[<-Nat.gcd_rec];exact hg⟩,Nat.mod_lt _ (by omega),⟨rfl,rfl,rfl,rfl,trivial⟩,trivial,rfl,rfl⟩
 ·have hc:((((yd 64 y).toNat:Nat):Int) != 0)=false:=hb;rw[bvN hy]at hc;have hy0:y=0:=by
   have:=bne_eq_false_iff_eq.1 hc;omega
  subst hy0;rw[Nat.gcd_zero_left]at hg;apply zad;refine za (za ?_);refine zaa hX zeO rfl ?_ ?_
  ·trivial
  refine zaf rfl (fun hd=>?_) (fun hd=>?_)
  ·have hd:decide ((((yd 64 x).toNat:Nat):Int) > 9223372036854775807)=true:=hd;rw[bvN hx]at hd;have:=of_decide_eq_true hd;omega
  apply zab;refine za (za ?_);refine zaa hX zeO rfl ?_ ?_
  ·show inR .i64 (((yd 64 x).toNat:Nat):Int);rw[bvN hx];exact zaq (by omega) (by omega)
  refine zm ⟨.inr rfl,zas rfl trivial rfl rfl ?_⟩;show (((yd 64 x).toNat:Nat):Int)=((xP b.toNat a.toNat:Nat):Int);rw[bvN hx,hg]
theorem zp7 {x y:Nat} (hx:1≤x):x / xP y x * y=jd x y:=by
 have hg:xP y x ∣ x:=Nat.gcd_dvd_right y x;have hp:0 < xP y x:=vR _ (by omega);obtain⟨k,hk⟩:=hg;unfold jd;rw[Nat.gcd_comm x y];generalize xP y x=g at *;subst hk;rw[v6 _ hp,Nat.mul_assoc,v6 _ hp]
def cLcm:Ctr:={ args:=[i64,i64],pre:=fun x=>[1≤x.1,x.1≤1000,1≤x.2.1,x.2.1≤1000],res:=.tup i64 (.tup i64 .unit),own:=none,out:=fun x=>(((jd x.1.toNat x.2.1.toNat:Nat):Int),(0:Int),()) }
def kLcm:Kn:={ gmK with C:=[(190,cGcd)] }
theorem zgG:KnOk Tryz.prog gmH kLcm:=zak.with (.cons gcd_ok .nil)
theorem lcm_ok:yB Tryz.prog gmH 158 cLcm:=by
 refine zap (K:=kLcm) zgG Tryz.func158 rfl rfl Tryz.call158 rfl (by decide) (by intro h;cases h) ?_;rintro w0 X hX ⟨(a:Int),(b:Int),_⟩ hp;obtain⟨ha,ha',hb,hb'⟩:1≤a∧a≤1000∧1≤b∧b≤1000:=by
  simp only[cLcm,allP]at hp
  simpa using hp
 change AWP _ _ _ _ _ ⟨[(0,⟨i64,a⟩),(1,⟨i64,b⟩)],[],0⟩ _;refine za (za ?_);refine zaa hX zgG rfl ?_ ?_
 ·trivial
 refine za (za ?_);refine zaa hX zgG rfl ?_ ?_
 ·exact⟨id,id⟩
 have t1:(bif decide (a < 1) then true else decide (b < 1))=false:=by
  rw[decide_eq_false (by omega),decide_eq_false (by omega)];rfl
 refine zaf rfl (fun hc=>?_) (fun _=>?_)
 ·have hc:(bif decide (a < 1) then true else decide (b < 1))=true:=hc;rw[t1]at hc;cases hc
 apply zab;have hg:0 < xP b.toNat a.toNat:=vR _ (by omega);have hq:a.tdiv ((xP b.toNat a.toNat:Nat):Int)=((a.toNat / xP b.toNat a.toNat:Nat):Int):=by
  conv=>lhs;rw[<-qm (by omega:0≤a)]
  exact Int.ofNat_tdiv ..
 have hqle:a.toNat / xP b.toNat a.toNat≤a.toNat:=Nat.div_le_self ..;have hq1000:a.toNat / xP b.toNat a.toNat≤1000:=by omega
 have q1:((xP b.toNat a.toNat:Nat):Int)≠0:=by omega
 have q2:inR .i64 (a.tdiv ((xP b.toNat a.toNat:Nat):Int)):=by rw[hq];generalize a.toNat / xP b.toNat a.toNat=z at hq1000;exact zaq (by omega) (by omega)
 have big1:a≤1000000000000000:=by omega
 have big2:b≤1000000000000000:=by omega
 refine za (za ?_);refine zaa hX zgG rfl ?_ ?_
 ·exact⟨ha,big1,hb,big2,q1,q2⟩
 refine zam (σ':=⟨[(0,⟨i64,a⟩),(1,⟨i64,b⟩),(6,⟨i64,((a.toNat / xP b.toNat a.toNat:Nat):Int)⟩)],[],0⟩) ⟨⟨rfl,rfl,vI64 hq,trivial⟩,trivial,rfl,rfl⟩ ?_;have hd:(1099511627776:Int).tdiv b=((1099511627776 / b.toNat:Nat):Int):=by
  conv=>lhs;rw[<-qm (by omega:0≤b)]
  exact Int.ofNat_tdiv ..
 have hd1:1099511627776 / 1000≤1099511627776 / b.toNat:=Nat.div_le_div_left (by omega) (by omega);have hd2:1099511627776 / b.toNat≤1099511627776:=Nat.div_le_self ..;have q3:b≠0:=by omega
 have q4:inR .i64 ((1099511627776:Int).tdiv b):=by rw[hd];exact zaq (by omega) (by omega)
 refine za (za ?_);refine zaa hX zgG rfl ?_ ?_
 ·exact⟨q3,q4⟩
 refine zaf rfl (fun hc=>?_) (fun _=>?_)
 ·have hc:decide (((a.toNat / xP b.toNat a.toNat:Nat):Int) > (1099511627776:Int).tdiv b)=true:=hc;have hc:=of_decide_eq_true hc;rw[hd]at hc;omega
 apply zab;have hm:((a.toNat / xP b.toNat a.toNat:Nat):Int) * b=((jd a.toNat b.toNat:Nat):Int):=by
  rw[<-zp7 (x:=a.toNat) (y:=b.toNat) (by omega),Int.natCast_mul,qm (by omega:0≤b)]
 have hml:jd a.toNat b.toNat≤1000000:=by
  rw[<-zp7 (x:=a.toNat) (y:=b.toNat) (by omega)];exact Nat.mul_le_mul (by omega:_≤1000) (by omega:b.toNat≤1000)
 have q5:inR .i64 (((a.toNat / xP b.toNat a.toNat:Nat):Int) * b):=by rw[hm];exact zaq (by omega) (by omega)
 refine za (za ?_);refine zaa hX zgG rfl ?_ ?_
 ·exact q5
 refine zm ⟨.inr rfl,za9 (by decide) rfl rfl trivial ?_⟩;show (((a.toNat / xP b.toNat a.toNat:Nat):Int) * b,(0:Int),())=(((jd a.toNat b.toNat:Nat):Int),(0:Int),());rw[hm]
abbrev Lr:=Int×Int×Bool×Unit
def zrW (r:Lr):Bool:=decide (r.1 < 1)||decide (r.1 > 400)||decide (r.2.1 < 0)||decide (r.2.1≥r.1)
def perS (y:Nat):List Lr->Int×Bool
 | []=>((y:Int),true)
 |r::l=>if zrW r=true then (0,false) else if 400 < jd y r.1.toNat then (0,false) else perS (jd y r.1.toNat) l
def cPer:Ctr:={ args:=[.slice lru],pre:=fun _=>[],res:=.tup i64 (.tup .bool .unit),own:=none,out:=fun x=>((perS 1 x.1).1,(perS 1 x.1).2,()) }
def kPer:Kn:={ gmK with C:=[(158,cLcm)] }
theorem zbR:KnOk Tryz.prog gmH kPer:=zak.with (.cons lcm_ok .nil)
def zLr:Lr:=(0,0,false,())
theorem zpG:yB Tryz.prog gmH 125 cPer:=by
 refine zap (K:=kPer) zbR Tryz.func125 rfl rfl Tryz.call125 rfl (by decide) (by intro h;cases h) ?_;rintro w0 X hX ⟨(l:List Lr),_⟩ hp;change AWP _ _ _ _ _ ⟨[(0,⟨.slice lru,l⟩)],[],0⟩ _;refine AWP.len 0 rfl fun hl=>?_;unfold maxLen at hl;refine za (za ?_);refine zaa hX zbR rfl ?_ ?_
 ·trivial
 refine za (za ?_);refine zaa hX zbR rfl ?_ ?_
 ·trivial
 refine za (za ?_);refine zaa hX zbR rfl ?_ ?_
 ·trivial
 (repeat(first|apply zae|apply zab|apply zac|apply zad));refine yD (ι:=Nat×Nat) (fun p=>⟨[(0,⟨.slice lru,l⟩),(4,⟨i64,(p.2:Int)⟩),(9,⟨.slice lru,l⟩),(10,⟨i64,((l.length:Nat):Int)⟩),(11,⟨i64,(p.1:Int)⟩)],[],0⟩) (fun p=>p.1≤l.length∧(1≤p.2∧p.2≤400)∧perS 1 l=perS p.2 (l.drop p.1)) (fun p=>l.length - p.1) (0,1) ⟨zk _,⟨by decide,by decide⟩,rfl⟩ ⟨⟨rfl,rfl,rfl,rfl,rfl,trivial⟩,trivial,rfl,rfl⟩ ?_;rintro ⟨k,y⟩ ⟨hk,hy,hr⟩;have hk:k≤l.length:=hk;have hy:1≤y∧y≤400:=hy;have hr:perS 1 l=perS y (l.drop k):=hr;refine za (za ?_);refine zaa hX zbR rfl ?_ ?_
 ·trivial
 apply zae;refine zaf rfl (fun hb=>?_) (fun hb=>?_)
 ·have hb:decide ((k:Int) < (l.length:Nat))=true:=hb;have hb:=of_decide_eq_true hb;have hlt:k < l.length:=by omega
  have n0:(0:Int)≤(k:Int):=by omega
  have hgd:l.getD (k:Int).toNat zLr=l[k]:=zaM hlt;rw[zI hlt,perS, <-hgd]at hr;refine za (za ?_);refine zaa hX zbR rfl ?_ ?_
  ·exact⟨n0,hb⟩
  generalize hG:l.getD (k:Int).toNat zLr=G at hr;obtain⟨(ev:Int),(rs:Int),(ye:Bool),⟨⟩⟩:=G;refine zam (σ':=⟨[(0,⟨.slice lru,l⟩),(4,⟨i64,(y:Int)⟩),(9,⟨.slice lru,l⟩),(10,⟨i64,((l.length:Nat):Int)⟩),(11,⟨i64,(k:Int)⟩),(6,⟨.optr lru,⟨0,lru,.here⟩⟩)],[(0,some (.box lru (ev,rs,ye,())))],1⟩) ⟨⟨rfl,rfl,rfl,rfl,rfl,rfl,trivial⟩,⟨zgo hG,trivial⟩,rfl,rfl⟩ ?_;refine za (za ?_);refine zaa hX zbR rfl ?_ ?_
  ·repeat'(first|exact trivial|assumption|(refine⟨?_,?_⟩)|(intro _)|exact zb rfl|exact zn _|(simp_all [allP];done))
  have hbe:zrW (ev,rs,ye,())=(bif (bif (bif decide (ev < 1) then true else decide (ev > 400)) then true else decide (rs < 0)) then true else decide (rs≥ev)):=by
   unfold zrW;rw[b_or,b_or,b_or]
  refine zaf rfl (fun hc=>?_) (fun hc=>?_)
  ·have hc:=hbe.trans hc;(repeat(first|apply zae|apply zab|apply zal|apply zad|apply zac|refine zaa hX zbR rfl trivial ?_|refine zaa hX zbR rfl id ?_|refine zaa hX zbR rfl ⟨id,id⟩ ?_));refine zm ⟨.inr rfl,za9 (by decide) rfl rfl trivial ?_⟩;show ((0:Int),false,())=((perS 1 l).1,(perS 1 l).2,());rw[hr,if_pos hc]
  have hc:=hbe.trans hc;have hn:=hc;unfold zrW at hn;simp only[qc,decide_eq_false_iff_not]at hn;obtain⟨⟨⟨n1,n2⟩,n3⟩,n4⟩:=hn;have n1:¬ ev < 1:=n1;have n2:¬ ev > 400:=n2;apply zab;have l1:(1:Int)≤(y:Int):=by omega
  have l2:(y:Int)≤1000:=by omega
  have l3:1≤ev:=by omega
  have l4:ev≤1000:=by omega
  refine za (za ?_);refine zaa hX zbR rfl ?_ ?_
  ·exact⟨l1,l2,l3,l4⟩
  refine zam (σ':=⟨[(0,⟨.slice lru,l⟩),(4,⟨i64,(y:Int)⟩),(9,⟨.slice lru,l⟩),(10,⟨i64,((l.length:Nat):Int)⟩),(11,⟨i64,(k:Int)⟩),(7,⟨i64,((jd y ev.toNat:Nat):Int)⟩),(8,⟨i64,0⟩)],[],1⟩) ⟨⟨rfl,rfl,rfl,rfl,rfl,rfl,rfl,trivial⟩,trivial,rfl,rfl⟩ ?_;refine za (za ?_);refine zaa hX zbR rfl ?_ ?_
  ·repeat'(first|exact trivial|assumption|(refine⟨?_,?_⟩)|(intro _)|exact zb rfl|exact zn _|(simp_all [allP];done))
  refine zaf rfl (fun hd=>?_) (fun hd=>?_)
  ·have hd:decide (((jd y ev.toNat:Nat):Int) > 400)=true:=hd;have hd:=of_decide_eq_true hd;(repeat(first|apply zae|apply zab|apply zal|apply zad|apply zac|refine zaa hX zbR rfl trivial ?_|refine zaa hX zbR rfl id ?_|refine zaa hX zbR rfl ⟨id,id⟩ ?_));refine zm ⟨.inr rfl,za9 (by decide) rfl rfl trivial ?_⟩;show ((0:Int),false,())=((perS 1 l).1,(perS 1 l).2,());rw[hr,if_neg (by rw[hc];decide),if_pos (by show 400 < jd y ev.toNat;omega)]
  ·have hd:decide (((jd y ev.toNat:Nat):Int) > 400)=false:=hd;have hd:=of_decide_eq_false hd;have hlp:0 < jd y ev.toNat:=Nat.lcm_pos (by omega) (by omega);apply zab;refine za (za ?_);refine zaa hX zbR rfl ?_ ?_
   ·trivial
   refine za (za ?_);refine zaa hX zbR rfl ?_ ?_
   ·exact zaZ (by omega)
   refine⟨(k+1,jd y ev.toNat),⟨hlt,⟨hlp,by show jd y ev.toNat≤400;omega⟩,?_⟩,by show l.length - (k+1) < l.length - k;omega,⟨rfl,rfl,rfl,rfl,zdM _,trivial⟩,trivial,rfl,rfl⟩;rw[hr,if_neg (by rw[hc];decide),if_neg (by show ¬ 400 < jd y ev.toNat;omega)]
 ·have hb:decide ((k:Int) < (l.length:Nat))=false:=hb;have hb:=of_decide_eq_false hb;have:k=l.length:=by omega
  subst this;rw[jA,perS]at hr;(repeat(first|apply zae|apply zab|apply zal|apply zad|apply zac|refine zaa hX zbR rfl trivial ?_|refine zaa hX zbR rfl id ?_|refine zaa hX zbR rfl ⟨id,id⟩ ?_));refine zm ⟨.inr rfl,za9 (by decide) rfl rfl trivial ?_⟩;show ((y:Int),true,())=((perS 1 l).1,(perS 1 l).2,());rw[hr]
theorem zl8 (c:UInt8):isLt c=((decide (97≤(c.toNat:Int))&&decide ((c.toNat:Int)≤122))||(decide (65≤(c.toNat:Int))&&decide ((c.toNat:Int)≤90))):=by
 have h:∀ n:Fin 256,(isLt (yr n.val)==((decide (97≤((yr n.val).toNat:Int))&&decide (((yr n.val).toNat:Int)≤122))||(decide (65≤((yr n.val).toNat:Int))&&decide (((yr n.val).toNat:Int)≤90))))=true:=by decide+kernel
 have:=h ⟨c.toNat,c.toNat_lt⟩;rw[vK]at this;exact beq_iff_eq.1 this
theorem zoE (s:ByteArray) (pos:Nat) (h:pos < s.size):1≤(ky s pos).2:=by
 by_cases ha:(s[pos]'h).toNat < 128
 ·rw[decode_ascii s pos h ha];exact zj _
 ·exact (decode_high s pos h (by omega)).2
def LtR (c:Int):Prop:=(97≤c∧c≤122)∨(65≤c∧c≤90)
def DgR (c:Int):Prop:=(48≤c∧c≤57)∨c=45
theorem zpN {l:List UInt8} {pos c wd:Nat} (hp:pos < l.length) (hdec:(l[pos].toNat < 128∧(c,wd)=(l[pos].toNat,1))∨(128≤l[pos].toNat∧128≤c)) (hhd:0 < pos->l.head?.all isLt=true) (hall:(l.take pos).all isPt=true)
  (h:LtR c∨(pos≠0∧DgR c)):wd=1∧l.head?.all isLt=true∧(l.take (pos+1)).all isPt=true:=by
 unfold LtR DgR at h;rcases hdec with ⟨h1,e⟩|⟨h1,e⟩
 ·have e1:c=l[pos].toNat:=congrArg (fun x=>x.1) e;have e2:wd=1:=congrArg (fun x=>x.2) e;have hpt:isPt l[pos]=true:=by
   unfold isPt;rw[zl8];rcases h with h|⟨_,h|h⟩
   ·have:((decide (97≤(l[pos].toNat:Int))&&decide ((l[pos].toNat:Int)≤122))||(decide (65≤(l[pos].toNat:Int))&&decide ((l[pos].toNat:Int)≤90)))=true:=by
     simp only[zJ,zd,decide_eq_true_iff];omega
    rw[this];rfl
   ·have:isDg l[pos]=true:=by
     unfold isDg;rw[zd,decide_eq_true_iff,decide_eq_true_iff,yK,yK];exact⟨by show 48≤_;omega,by show _≤57;omega⟩
    rw[this,Bool.or_true];rfl
   ·have:l[pos]=45:=UInt8.toNat_inj.1 (by show _=45;omega);rw[this];rfl
  refine⟨e2,?_,?_⟩
  ·by_cases h0:pos=0
   ·subst h0;have hl:isLt l[0]=true:=by
     rw[zl8];simp only[zJ,zd,decide_eq_true_iff];omega
    cases l with
    |nil=>rfl
    |cons a q=>exact hl
   ·exact hhd (by omega)
  ·rw[zE hp,List.all_append,hall,List.all_cons,hpt];rfl
 ·omega
theorem zrS {l:List UInt8} {pos c wd:Nat} (hp:pos < l.length) (hdec:(l[pos].toNat < 128∧(c,wd)=(l[pos].toNat,1))∨(128≤l[pos].toNat∧128≤c)) (h:¬ (LtR c∨(pos≠0∧DgR c))):zfh l=false:=by
 unfold LtR DgR at h;have hlt:isLt l[pos]=false:=by
  rw[zl8];simp only[qc,jl,decide_eq_false_iff_not];rcases hdec with ⟨h1,e⟩|⟨h1,e⟩
  ·have e1:c=l[pos].toNat:=congrArg (fun x=>x.1) e;omega
  ·omega
 unfold zfh;by_cases h0:pos=0
 ·subst h0;cases l with
  |nil=>exact absurd hp (yg _)
  |cons a q=>
   have hlt:isLt a=false:=hlt;show (_&&_&&(isLt a&&_))=false;rw[hlt,vB,qe]
 ·have hpt:isPt l[pos]=false:=by
   unfold isPt;have hd:isDg l[pos]=false:=by
    unfold isDg;rw[jl,decide_eq_false_iff_not,decide_eq_false_iff_not,yK,yK];show ¬ 48≤_∨¬ _≤57;rcases hdec with ⟨h1,e⟩|⟨h1,e⟩
    ·have e1:c=l[pos].toNat:=congrArg (fun x=>x.1) e;omega
    ·omega
   have h45:(l[pos]==45)=false:=by
    rw[beq_eq_false_iff_ne];intro e2;have e3:l[pos].toNat=45:=by rw[e2];rfl
    rcases hdec with ⟨h1,e⟩|⟨h1,e⟩
    ·have e1:c=l[pos].toNat:=congrArg (fun x=>x.1) e;omega
    ·omega
   rw[hlt,hd,h45];rfl
  have:l.all isPt=false:=by
   rw[List.all_eq_false];exact⟨l[pos],xU hp,by rw[hpt];decide⟩
  rw[this,qe,qe]
set_option maxHeartbeats 2000000 in
theorem zl6 (l:List UInt8) (w:zi):Calls Tryz.prog 120 #[.string ⟨l.toArray⟩] w fun e w'=>e= .returned (.bool (zfh l))∧∃ pos,w'=w.iter ⟨l.toArray⟩ pos:=by
 go_enter Tryz.func120,Tryz.ntmps120
 go_wp2
 go_loopw [] (fun w'=>∃ (pos:Nat),w'=w.iter ⟨l.toArray⟩ pos∧pos≤l.length∧(0 < pos->l.head?.all isLt=true)∧(l.take pos).all isPt=true) (fun w'=>l.length - w'.iterPos w.heap.size)
 case atStart=>exact⟨0,rfl,zk _,fun h=>absurd h (by decide),rfl⟩
 case round=>
  obtain⟨pos,rfl,hpos,hhd,hall⟩:=hrel;have hsz:(⟨l.toArray⟩:ByteArray).size=l.length:=by simp[ByteArray.size]
  by_cases hp:pos < (⟨l.toArray⟩:ByteArray).size
  ·have hnx:∀ ty,(Instr.next (.pointer (some ⟨w.heap.size,0,none⟩)) true ty).run Tryz.prog (w.iter ⟨l.toArray⟩ pos)=_:=fun ty=>run_next_any w _ pos ty hp;have hwd:=zoE _ pos hp;have hlo:l[pos]'(by omega)=(⟨l.toArray⟩:ByteArray)[pos]'hp:=rfl;have hdec:((l[pos]'(by omega)).toNat < 128∧ky ⟨l.toArray⟩ pos=((l[pos]'(by omega)).toNat,1))∨(128≤(l[pos]'(by omega)).toNat∧128≤(ky ⟨l.toArray⟩ pos).1):=by
    by_cases ha:(l[pos]'(by omega)).toNat < 128
    ·exact .inl ⟨ha,decode_ascii _ pos hp ha⟩
    ·exact .inr ⟨by omega,(decode_high _ pos hp (by rw[<-hlo];omega)).1⟩
   generalize ky ⟨l.toArray⟩ pos=dc at hnx hwd hdec;obtain⟨c,wd⟩:=dc;simp only[]at hnx hwd hdec;generalize hci:((c:Nat):Int)=ci at hnx;have hlen:pos < l.length:=by omega
   have hgood:=zpN hlen hdec hhd hall;have hbad:=zrS hlen hdec;rw[hci]at hgood hbad;by_cases hcase:LtR ci∨(pos≠0∧DgR ci)
   ·obtain⟨e1,e2,e3⟩:=hgood hcase;clear hgood hbad hdec hlo;unfold LtR DgR at hcase
    go_wp2
    all_goals (first
     |(exfalso
       clear hnx;simp only[zs,yC,decide_eq_false_iff_not,decide_eq_true_eq,beq_iff_eq,beq_eq_false_iff_ne]at *;omega)
     |(go_roundw
       case rel=>exact⟨pos+1,by simp[*],by omega,fun _=>e2,e3⟩
       case measure=>(simp[*];omega)))
   ·have hnf:=hbad hcase;clear hgood hbad hdec hlo;unfold LtR DgR at hcase
    go_wp2
    all_goals (first
     |(exfalso
       clear hnx;simp only[zs,yC,decide_eq_false_iff_not,decide_eq_true_eq,beq_iff_eq,beq_eq_false_iff_ne]at *;omega)
     |(go_ret
       refine⟨?_,_,rfl⟩
       first|rfl|(rw[hnf];rfl)|(simp[*];done)))
  ·have hnx:∀ ty,(Instr.next (.pointer (some ⟨w.heap.size,0,none⟩)) true ty).run Tryz.prog (w.iter ⟨l.toArray⟩ pos)=_:=fun ty=>run_next_end w _ pos ty hp;have hend:zfh l=(decide (l≠ [])&&decide (l.length≤32)):=by
    have hpl:pos=l.length:=by omega
    subst hpl;rw[xe]at hall;have hh:l.head?.all isLt=true:=by
     cases l with
     |nil=>rfl
     |cons a q=>exact hhd (Nat.zero_lt_succ _)
    unfold zfh;rw[hh,hall];simp
   go_wp2
   all_goals (
    rename_i hne
    go_ret
    refine⟨?_,pos,by simp[hne]⟩;rw[hend]
    first
    |(simp[hne];done)
    |(cases l with
      |nil=>exact absurd rfl hne
      |cons a q=>(simp;try omega)))
def cName:Ctr:={ args:=[.str],pre:=fun _=>[],res:=.bool,own:=none,out:=fun x=>zfh x.1 }
theorem zpO:yB Tryz.prog gmH 120 cName:=by
 refine⟨Tryz.call120,fun w O xs vs hO hr hp hG=>?_⟩;obtain⟨(l:List UInt8),_⟩:=xs;obtain⟨v1,r1,rfl,e1,rfl⟩:=hr;have e1: [v1]=[Value.string ⟨l.toArray⟩]∧l.length≤maxLen:=e1;obtain⟨e1,_⟩:=e1;cases e1;refine (zl6 l w).mono ?_;rintro e w' ⟨rfl,pos,rfl⟩;exact⟨_,rfl,zbf w _,fun β=>rfl⟩
theorem zka {u:List Int} {B:Int} (h:∀ k:Nat,0≤u.getD k 0∧u.getD k 0≤B) (j:Int):∀ k:Nat,0≤(bump u j).getD k 0∧(bump u j).getD k 0≤B+1:=fun k=>by
 unfold bump;rw[zR,k6];have h1:=h k;have h2:=h j.toNat;rw[zR]at h1;split
 ·split
  ·show 0≤u.getD j.toNat 0+1∧u.getD j.toNat 0+1≤B+1;omega
  ·show (0:Int)≤0∧(0:Int)≤B+1;omega
 ·omega
theorem zoG {u:List Int} {n:Nd} {B:Int} (h:∀ k:Nat,0≤u.getD k 0∧u.getD k 0≤B) (k:Nat):0≤(zc3 u n).getD k 0∧(zc3 u n).getD k 0≤B+2:=by
 unfold zc3;cases decide (1 < opsN n) with
 |true=>
  have:=zka (zka h (ndL n)) (ndR n) k;rw[cond_true];omega
 |false=>
  cases decide (0 < opsN n) with
  |true=>
   have:=zka h (ndL n) k;rw[cond_false,cond_true];omega
  |false=>
   have:=h k;rw[cond_false,cond_false];omega
theorem zmM (r:List Nd):∀ (i:Nat),i≤r.length->∀ k:Nat,0≤(zcB r i).getD k 0∧(zcB r i).getD k 0≤2 * (i:Int)
 |0,_,k=>by rw[zlO];omega
 |i+1,hi,k=>by
  rw[zc7 (by omega)];have:=zoG (n:=zax r i) (zmM r i (by omega)) k;omega
def zc0 (u:List Int) (n:Nd):Nat->List Int
 |0=>u
 |1=>if 0 < opsN n then bump u (ndL n) else u
 |_=>zc3 u n
def opdJ (n:Nd) (i:Int):Nat->Bool
 |0=>true
 |1=>(bif decide (0 < opsN n) then inB (ndL n) 0 (i - 1) else (ndL n==0)||(ndK n==7))
 |_=>zfy n i
theorem zoH {u:List Int} {n:Nd} {B:Int} (h:∀ k:Nat,0≤u.getD k 0∧u.getD k 0≤B) (k:Nat):0≤(zc0 u n 1).getD k 0∧(zc0 u n 1).getD k 0≤B+1:=by
 show 0≤(if 0 < opsN n then bump u (ndL n) else u).getD k 0∧(if 0 < opsN n then bump u (ndL n) else u).getD k 0≤B+1;by_cases e:0 < opsN n
 ·rw[if_pos e];exact zka h _ k
 ·rw[if_neg e];have:=h k;omega
theorem znN (u:List Int) (n:Nd):(zc0 u n 1).length=u.length:=by
 show (if 0 < opsN n then bump u (ndL n) else u).length=u.length;by_cases e:0 < opsN n
 ·rw[if_pos e];exact zeu _ _
 ·rw[if_neg e]
def cWf:Ctr:={ args:=[.slice nd],pre:=fun _=>[],res:=.bool,own:=none,out:=fun x=>wfS x.1 }
def kWf:Kn:={ gmK with C:=[(119,zbx),(74,zmw),(120,cName),(121,zqL),(122,cNumb),(123,cAnyU)] }
theorem zaO:KnOk Tryz.prog gmH kWf:=zak.with (.cons zkn <| .cons zkB <| .cons zpO <| .cons zpV <| .cons ztW <| .cons zu9 .nil)
theorem zmJ {r:List Nd} {i:Nat} (hi:i < r.length) (h:zg2 (zax r i) (i:Int)=false):wfS r=false:=by
 have:zdk r r.length=false:=by
  rw[qg];intro e;have:=zfB.1 e i hi;rw[<-zoh,h]at this;cases this
 unfold wfS;rw[this,qe,vB]
theorem zkr {r:List Nd} {i:Nat} (hi:i < r.length) (h:zbI (zax r i)=false):wfS r=false:=zmJ hi (by unfold zg2;rw[h];rfl)
theorem zkq {r:List Nd} {i:Nat} (hi:i < r.length) (h:zfy (zax r i) (i:Int)=false):wfS r=false:=zmJ hi (by unfold zg2;rw[h,qe])
theorem ztI {k:Int} (h:1≤k∧k≤18):(zd2 k).1=0∨(zd2 k).1=1∨(zd2 k).1=2:=by
 rcases (show k=1∨k=2∨k=3∨k=4∨k=5∨k=6∨k=7∨k=8∨k=9∨k=10∨k=11∨k=12∨k=13∨k=14∨k=15∨k=16∨k=17∨k=18 by omega) with rfl|rfl|rfl|rfl|rfl|rfl|rfl|rfl|rfl|rfl|rfl|rfl|rfl|rfl|rfl|rfl|rfl|rfl<;>decide
theorem zmL {u:List Int} {n:Nd} (h:opsN n=0∨opsN n=1∨opsN n=2):(if 1 < opsN n then bump (zc0 u n 1) (ndR n) else zc0 u n 1)=zc0 u n 2:=by
 show _=zc3 u n;unfold zc3 zc0;rcases h with h|h|h<;>rw[h]<;>rfl
theorem bufI {te:zp} {x y:List Int} (h:x=y):some (OObj.buf te i64 x)=some (OObj.buf te i64 y):=by rw[h]
set_option maxHeartbeats 1000000 in
theorem wf_ok:yB Tryz.prog gmH 72 cWf:=by
 refine zap (K:=kWf) zaO Tryz.func72 rfl rfl Tryz.call72 rfl (by decide) (by intro h;cases h) ?_;rintro w0 X hX ⟨(r:List Nd),_⟩ hp;change AWP _ _ _ _ _ ⟨[(0,⟨.slice nd,r⟩)],[],0⟩ _;refine AWP.len 0 rfl fun hl=>?_;unfold maxLen at hl;refine za (za ?_);refine zaa hX zaO rfl ?_ ?_
 ·trivial
 refine za (za ?_);refine zaa hX zaO rfl ?_ ?_
 ·repeat'(first|exact trivial|assumption|(refine⟨?_,?_⟩)|(intro _)|exact zb rfl|exact zn _|(simp_all [allP];done))
 refine zaf rfl (fun hb=>?_) (fun hb=>?_)
 ·have hb:(bif decide (((r.length:Nat):Int) < 1) then true else decide (((r.length:Nat):Int) > 64))=true:=hb;rw[b_or,zJ,decide_eq_true_iff,decide_eq_true_iff]at hb;(repeat(first|apply zae|apply zab|apply zal|apply zad|apply zac|refine zaa hX zaO rfl trivial ?_|refine zaa hX zaO rfl id ?_|refine zaa hX zaO rfl ⟨id,id⟩ ?_));refine zm ⟨.inr rfl,zas rfl trivial rfl rfl ?_⟩;show false=wfS r;unfold wfS;rcases hb with hb|hb
  ·rw[decide_eq_false (by omega:¬ 1≤r.length)];rfl
  ·rw[decide_eq_false (by omega:¬ r.length≤64),qe,vB,vB]
 have hb:(bif decide (((r.length:Nat):Int) < 1) then true else decide (((r.length:Nat):Int) > 64))=false:=hb;rw[b_or,qc,decide_eq_false_iff_not,decide_eq_false_iff_not]at hb;obtain⟨hb1,hb2⟩:=hb;apply zab;refine za (za ?_);refine zaa hX zaO rfl ?_ ?_
 ·trivial
 have m0:(0:Int)≤((r.length:Nat):Int):=by omega
 have m1:((r.length:Nat):Int)≤1000000000:=by omega
 refine za (za ?_);refine zaa hX zaO rfl ?_ ?_
 ·exact⟨m0,yN _,m1⟩
 refine za (za ?_);refine zaa hX zaO rfl ?_ ?_
 ·trivial
 (repeat(first|apply zae|apply zab|apply zac|apply zad));refine yD (ι:=Nat) (fun i=>⟨[(0,⟨.slice nd,r⟩),(3,⟨.optr (.arr 19 shp),⟨0,.arr 19 shp,.here⟩⟩),(4,⟨.obuf i64,(1:Nat)⟩),(24,⟨.slice nd,r⟩),(25,⟨i64,((r.length:Nat):Int)⟩),(26,⟨i64,(i:Int)⟩)],[(0,some (.box (.arr 19 shp) zc9)),(1,some (.buf 3 i64 (zcB r i)))],2⟩) (fun i=>i≤r.length∧zdk r i=true) (fun i=>r.length - i) 0 ⟨zk _,rfl⟩ ⟨⟨rfl,rfl,rfl,rfl,rfl,rfl,trivial⟩,⟨rfl,bufI (by show List.replicate (((r.length:Nat):Int)).toNat (0:Int)=_;rw[zy];rfl),trivial⟩,rfl,rfl⟩ ?_;rintro i ⟨hi,hn⟩;refine za (za ?_);refine zaa hX zaO rfl ?_ ?_
 ·trivial
 apply zae;refine zaf rfl (fun hb=>?_) (fun hb=>?_)
 ·have hb:decide ((i:Int) < (r.length:Nat))=true:=hb;have hb:=of_decide_eq_true hb;have hlt:i < r.length:=by omega
  have n0:(0:Int)≤(i:Int):=by omega
  have hbd:=zmM r i hi;have hul:=zdf r i;have hus:=zc7 hlt;have hno:zdk r (i+1)=(zdk r i&&zg2 (zax r i) (i:Int)):=rfl;have hff:=zkr hlt;have hfo:=zkq hlt;rw[hn,Bool.true_and]at hno;refine za (za ?_);refine zaa hX zaO rfl ?_ ?_
  ·exact⟨n0,hb⟩
  refine zam (σ':=⟨[(0,⟨.slice nd,r⟩),(3,⟨.optr (.arr 19 shp),⟨0,.arr 19 shp,.here⟩⟩),(4,⟨.obuf i64,(1:Nat)⟩),(24,⟨.slice nd,r⟩),(25,⟨i64,((r.length:Nat):Int)⟩),(26,⟨i64,(i:Int)⟩),(5,⟨i64,(i:Int)⟩),(6,⟨.optr nd,⟨2,nd,.here⟩⟩)],[(0,some (.box (.arr 19 shp) zc9)),(1,some (.buf 3 i64 (zcB r i))),(2,some (.box nd (zax r i)))],3⟩) ⟨⟨rfl,rfl,rfl,rfl,rfl,rfl,rfl,rfl,trivial⟩,⟨rfl,rfl,rfl,trivial⟩,rfl,rfl⟩ ?_;generalize hnd:zax r i=n at *;generalize zcB r i=u at *;refine za (za ?_);refine zaa hX zaO rfl ?_ ?_
  ·repeat'(first|exact trivial|assumption|(refine⟨?_,?_⟩)|(intro _)|exact zb rfl|exact zn _|(simp_all [allP];done))
  have hk18:(bif !inB (ndK n) 1 18 then true else decide (((ndI n).length:Int) > 64))= !(inB (ndK n) 1 18&&decide ((ndI n).length≤64)):=by
   have:decide (((ndI n).length:Int) > 64)= !decide ((ndI n).length≤64):=by
    rw[<-decide_not,decide_eq_decide];omega
   rw[this];cases inB (ndK n) 1 18<;>cases decide ((ndI n).length≤64)<;>rfl
  refine zaf rfl (fun hc=>?_) (fun hc=>?_)
  ·have hc:=hk18.symm.trans hc;rw[zs]at hc;(repeat(first|apply zae|apply zab|apply zal|apply zad|apply zac|refine zaa hX zaO rfl trivial ?_|refine zaa hX zaO rfl id ?_|refine zaa hX zaO rfl ⟨id,id⟩ ?_));refine zm ⟨.inr rfl,zas rfl trivial rfl rfl ?_⟩;show false=wfS r;rw[hff (by unfold zbI;rw[hc];rfl)]
  have hc:=hk18.symm.trans hc;rw[yC,zd,zaU,decide_eq_true_iff]at hc;obtain⟨⟨k1,k2⟩,hl64⟩:=hc;apply zab;have t0:(0:Int)≤ndK n:=by omega
  have t1:ndK n < ((19:Nat):Int):=by omega
  have t2:(ndK n).toNat < 19:=by omega
  refine za (za ?_);refine zaa hX zaO rfl ?_ ?_
  ·exact⟨t0,t1,t2⟩
  refine zam (σ':=⟨[(0,⟨.slice nd,r⟩),(3,⟨.optr (.arr 19 shp),⟨0,.arr 19 shp,.here⟩⟩),(4,⟨.obuf i64,(1:Nat)⟩),(24,⟨.slice nd,r⟩),(25,⟨i64,((r.length:Nat):Int)⟩),(26,⟨i64,(i:Int)⟩),(5,⟨i64,(i:Int)⟩),(6,⟨.optr nd,⟨2,nd,.here⟩⟩),(7,⟨.optr shp,⟨3,shp,.here⟩⟩)],[(0,some (.box (.arr 19 shp) zc9)),(1,some (.buf 3 i64 (u))),(2,some (.box nd n)),(3,some (.box shp (zd2 (ndK n))))],4⟩) ⟨⟨rfl,rfl,rfl,rfl,rfl,rfl,rfl,rfl,rfl,trivial⟩,⟨rfl,rfl,rfl,rfl,trivial⟩,rfl,rfl⟩ ?_;have hops:=ztI ⟨k1,k2⟩;refine za (za ?_);refine zaa hX zaO rfl ?_ ?_
  ·trivial
  (repeat(first|apply zae|apply zab|apply zac|apply zad));refine qS hX 49 ?_;refine yD (ι:=Nat) (fun j=>⟨[(0,⟨.slice nd,r⟩),(3,⟨.optr (.arr 19 shp),⟨0,.arr 19 shp,.here⟩⟩),(4,⟨.obuf i64,(1:Nat)⟩),(24,⟨.slice nd,r⟩),(25,⟨i64,((r.length:Nat):Int)⟩),(26,⟨i64,(i:Int)⟩),(5,⟨i64,(i:Int)⟩),(6,⟨.optr nd,⟨2,nd,.here⟩⟩),(7,⟨.optr shp,⟨3,shp,.here⟩⟩),(49,⟨.slice i64,[ndL n,ndR n]⟩),(50,⟨i64,(2:Int)⟩),(51,⟨i64,(j:Int)⟩)],[(0,some (.box (.arr 19 shp) zc9)),(1,some (.buf 3 i64 (zc0 u n j))),(2,some (.box nd n)),(3,some (.box shp (zd2 (ndK n))))],4⟩) (fun j=>j≤2∧opdJ n i j=true) (fun j=>2 - j) 0 ⟨by decide,rfl⟩ ⟨⟨rfl,rfl,rfl,rfl,rfl,rfl,rfl,rfl,rfl,rfl,rfl,rfl,trivial⟩,⟨rfl,rfl,rfl,rfl,trivial⟩,rfl,rfl⟩ ?_
  ·rintro j ⟨hj,hjo⟩;refine za (za ?_);refine zaa hX zaO rfl ?_ ?_
   ·trivial
   apply zae;refine zaf rfl (fun hb=>?_) (fun hb=>?_)
   ·have hb:decide ((j:Int) < 2)=true:=hb;have hb:=of_decide_eq_true hb;rcases (show j=0∨j=1 by omega) with rfl|rfl
    ·have u0:(0:Int)≤((0:Nat):Int):=by omega
     have u1:((0:Nat):Int) < (([ndL n,ndR n].length:Nat):Int):=by show ((0:Nat):Int) < ((2:Nat):Int);omega
     refine za (za ?_);refine zaa hX zaO rfl ?_ ?_
     ·exact⟨u0,u1⟩
     apply zac;refine za (za ?_);refine zaa hX zaO rfl ?_ ?_
     ·trivial
     refine zaf rfl (fun hd=>?_) (fun hd=>?_)
     ·have hd:decide (((0:Nat):Int) < opsN n)=true:=hd;have hd:=of_decide_eq_true hd;have i1:inR .i64 ((i:Int) - 1):=zaq (by omega) (by omega);refine za (za ?_);refine zaa hX zaO rfl ?_ ?_
      ·exact i1
      refine zaf rfl (fun he=>?_) (fun he=>?_)
      ·have he:(!inB (ndL n) 0 ((i:Int) - 1))=true:=he;rw[zs]at he;(repeat(first|apply zae|apply zab|apply zal|apply zad|apply zac|refine zaa hX zaO rfl trivial ?_|refine zaa hX zaO rfl id ?_|refine zaa hX zaO rfl ⟨id,id⟩ ?_));refine zm ⟨.inr rfl,zas rfl trivial rfl rfl ?_⟩;show false=wfS r;rw[hfo (by unfold zfy;rw[decide_eq_true (show 0 < opsN n from hd),cond_true,he];rfl)]
      have he:(!inB (ndL n) 0 ((i:Int) - 1))=false:=he;rw[yC,zaU]at he;obtain⟨p0,p1⟩:=he;have hbj:∀ k:Nat,0≤(zc0 u n 0).getD k 0∧(zc0 u n 0).getD k 0≤200:=fun k=>by
       have:=hbd k;show 0≤u.getD k 0∧u.getD k 0≤200;omega
      have hlj:(zc0 u n 0).length=r.length:=by exact hul
      have hb3:=hbj (ndL n).toNat;have p2:ndL n < (((zc0 u n 0).length:Nat):Int):=by rw[hlj];omega
      have p4:(ndL n).toNat < (zc0 u n 0).length:=by rw[hlj];omega
      have p3:inR .i64 ((zc0 u n 0).getD (ndL n).toNat 0+1):=zaq (by omega) (by omega);apply zab;refine za (za ?_);refine zaa hX zaO rfl ?_ ?_
      ·repeat'(first|exact trivial|exact p0|exact p2|exact p3|exact p4|(refine⟨?_,?_⟩))
      refine za (za ?_);refine zaa hX zaO rfl ?_ ?_
      ·exact zaZ (by omega)
      refine⟨1,⟨by omega,?_⟩,by decide,⟨rfl,rfl,rfl,rfl,rfl,rfl,rfl,rfl,rfl,rfl,rfl,rfl,trivial⟩,⟨rfl,bufI ?_,rfl,rfl,trivial⟩,rfl,rfl⟩
      ·show (bif decide (0 < opsN n) then inB (ndL n) 0 ((i:Int) - 1) else _)=true;rw[decide_eq_true (show 0 < opsN n from hd),cond_true,zaU];exact⟨p0,p1⟩
      ·show bump (zc0 u n 0) (ndL n)=zc0 u n 1;show _=if 0 < opsN n then bump u (ndL n) else u
       rw[if_pos (show 0 < opsN n from hd)];rfl
     ·have hd:decide (((0:Nat):Int) < opsN n)=false:=hd;have hd:=of_decide_eq_false hd;refine za (za ?_);refine zaa hX zaO rfl ?_ ?_
      ·repeat'(first|exact trivial|assumption|(refine⟨?_,?_⟩)|(intro _)|exact zb rfl|exact zn _|(simp_all [allP];done))
      refine zaf rfl (fun he=>?_) (fun he=>?_)
      ·have he:(bif (ndL n != 0) then !(bif (((0:Nat):Int)==0) then (ndK n==7) else false) else false)=true:=he;(repeat(first|apply zae|apply zab|apply zal|apply zad|apply zac|refine zaa hX zaO rfl trivial ?_|refine zaa hX zaO rfl id ?_|refine zaa hX zaO rfl ⟨id,id⟩ ?_));refine zm ⟨.inr rfl,zas rfl trivial rfl rfl ?_⟩;show false=wfS r;refine (hfo ?_).symm;unfold zfy;rw[decide_eq_false (show ¬ 0 < opsN n from hd),cond_false];revert he;unfold bne;cases (ndL n==0)<;>cases (ndK n==7)<;>intro he<;>first|rfl|cases he
      have he:(bif (ndL n != 0) then !(bif (((0:Nat):Int)==0) then (ndK n==7) else false) else false)=false:=he;apply zab;refine za (za ?_);refine zaa hX zaO rfl ?_ ?_
      ·exact zaZ (by omega)
      refine⟨1,⟨by omega,?_⟩,by decide,⟨rfl,rfl,rfl,rfl,rfl,rfl,rfl,rfl,rfl,rfl,rfl,rfl,trivial⟩,⟨rfl,bufI ?_,rfl,rfl,trivial⟩,rfl,rfl⟩
      ·show (bif decide (0 < opsN n) then _ else (ndL n==0)||(ndK n==7))=true;rw[decide_eq_false (show ¬ 0 < opsN n from hd),cond_false];revert he;unfold bne;cases (ndL n==0)<;>cases (ndK n==7)<;>intro he<;>first|rfl|cases he
      ·show zc0 u n 0=zc0 u n 1;show u=if 0 < opsN n then bump u (ndL n) else u
       rw[if_neg (show ¬ 0 < opsN n from hd)]
    ·have u0:(0:Int)≤((1:Nat):Int):=by omega
     have u1:((1:Nat):Int) < (([ndL n,ndR n].length:Nat):Int):=by show ((1:Nat):Int) < ((2:Nat):Int);omega
     refine za (za ?_);refine zaa hX zaO rfl ?_ ?_
     ·exact⟨u0,u1⟩
     apply zac;refine za (za ?_);refine zaa hX zaO rfl ?_ ?_
     ·trivial
     refine zaf rfl (fun hd=>?_) (fun hd=>?_)
     ·have hd:decide (((1:Nat):Int) < opsN n)=true:=hd;have hd:=of_decide_eq_true hd;have i1:inR .i64 ((i:Int) - 1):=zaq (by omega) (by omega);refine za (za ?_);refine zaa hX zaO rfl ?_ ?_
      ·exact i1
      refine zaf rfl (fun he=>?_) (fun he=>?_)
      ·have he:(!inB (ndR n) 0 ((i:Int) - 1))=true:=he;rw[zs]at he;(repeat(first|apply zae|apply zab|apply zal|apply zad|apply zac|refine zaa hX zaO rfl trivial ?_|refine zaa hX zaO rfl id ?_|refine zaa hX zaO rfl ⟨id,id⟩ ?_));refine zm ⟨.inr rfl,zas rfl trivial rfl rfl ?_⟩;show false=wfS r;rw[hfo (by unfold zfy;rw[decide_eq_true (show 1 < opsN n from hd),cond_true,he];rw[qe])]
      have he:(!inB (ndR n) 0 ((i:Int) - 1))=false:=he;rw[yC,zaU]at he;obtain⟨p0,p1⟩:=he;have hbj:∀ k:Nat,0≤(zc0 u n 1).getD k 0∧(zc0 u n 1).getD k 0≤200:=fun k=>by
       have:=zoH (n:=n) hbd k;omega
      have hlj:(zc0 u n 1).length=r.length:=by rw[<-hul];exact znN u n
      have hb3:=hbj (ndR n).toNat;have p2:ndR n < (((zc0 u n 1).length:Nat):Int):=by rw[hlj];omega
      have p4:(ndR n).toNat < (zc0 u n 1).length:=by rw[hlj];omega
      have p3:inR .i64 ((zc0 u n 1).getD (ndR n).toNat 0+1):=zaq (by omega) (by omega);apply zab;refine za (za ?_);refine zaa hX zaO rfl ?_ ?_
      ·repeat'(first|exact trivial|exact p0|exact p2|exact p3|exact p4|(refine⟨?_,?_⟩))
      refine za (za ?_);refine zaa hX zaO rfl ?_ ?_
      ·exact zaZ (by omega)
      refine⟨2,⟨by omega,?_⟩,by decide,⟨rfl,rfl,rfl,rfl,rfl,rfl,rfl,rfl,rfl,rfl,rfl,rfl,trivial⟩,⟨rfl,bufI ?_,rfl,rfl,trivial⟩,rfl,rfl⟩
      ·show (_&&(bif decide (1 < opsN n) then inB (ndR n) 0 ((i:Int) - 1) else _))=true;rw[decide_eq_true (show 1 < opsN n from hd),cond_true,zaU.2 ⟨p0,p1⟩,Bool.and_true];exact hjo
      ·show bump (zc0 u n 1) (ndR n)=zc0 u n 2;rw[<-zmL hops,if_pos (show 1 < opsN n from hd)]
     ·have hd:decide (((1:Nat):Int) < opsN n)=false:=hd;have hd:=of_decide_eq_false hd;refine za (za ?_);refine zaa hX zaO rfl ?_ ?_
      ·repeat'(first|exact trivial|assumption|(refine⟨?_,?_⟩)|(intro _)|exact zb rfl|exact zn _|(simp_all [allP];done))
      refine zaf rfl (fun he=>?_) (fun he=>?_)
      ·have he:(bif (ndR n != 0) then !(bif (((1:Nat):Int)==0) then (ndK n==7) else false) else false)=true:=he;(repeat(first|apply zae|apply zab|apply zal|apply zad|apply zac|refine zaa hX zaO rfl trivial ?_|refine zaa hX zaO rfl id ?_|refine zaa hX zaO rfl ⟨id,id⟩ ?_));refine zm ⟨.inr rfl,zas rfl trivial rfl rfl ?_⟩;show false=wfS r;refine (hfo ?_).symm;unfold zfy;rw[decide_eq_false (show ¬ 1 < opsN n from hd),cond_false];revert he;unfold bne;cases (ndR n==0)<;>intro he<;>first|(rw[qe])|cases he
      have he:(bif (ndR n != 0) then !(bif (((1:Nat):Int)==0) then (ndK n==7) else false) else false)=false:=he;apply zab;refine za (za ?_);refine zaa hX zaO rfl ?_ ?_
      ·exact zaZ (by omega)
      refine⟨2,⟨by omega,?_⟩,by decide,⟨rfl,rfl,rfl,rfl,rfl,rfl,rfl,rfl,rfl,rfl,rfl,rfl,trivial⟩,⟨rfl,bufI ?_,rfl,rfl,trivial⟩,rfl,rfl⟩
      ·show (_&&(bif decide (1 < opsN n) then _ else ndR n==0))=true;rw[decide_eq_false (show ¬ 1 < opsN n from hd),cond_false];have h2:(ndR n==0)=true:=by revert he;unfold bne;cases (ndR n==0)<;>intro he<;>first|rfl|cases he
       rw[h2,Bool.and_true];exact hjo
      ·show zc0 u n 1=zc0 u n 2;rw[<-zmL hops,if_neg (show ¬ 1 < opsN n from hd)]
   ·have hb:decide ((j:Int) < 2)=false:=hb;have hb:=of_decide_eq_false hb;obtain rfl:j=2:=by omega
    have hopd:zfy n (i:Int)=true:=hjo;apply zad;refine zam (σ':=⟨[(0,⟨.slice nd,r⟩),(3,⟨.optr (.arr 19 shp),⟨0,.arr 19 shp,.here⟩⟩),(4,⟨.obuf i64,(1:Nat)⟩),(24,⟨.slice nd,r⟩),(25,⟨i64,((r.length:Nat):Int)⟩),(26,⟨i64,(i:Int)⟩),(5,⟨i64,(i:Int)⟩),(6,⟨.optr nd,⟨2,nd,.here⟩⟩),(7,⟨.optr shp,⟨3,shp,.here⟩⟩)],[(0,some (.box (.arr 19 shp) zc9)),(1,some (.buf 3 i64 (zc3 u n))),(2,some (.box nd n)),(3,some (.box shp (zd2 (ndK n))))],4⟩) ⟨⟨rfl,rfl,rfl,rfl,rfl,rfl,rfl,rfl,rfl,trivial⟩,⟨rfl,rfl,rfl,rfl,trivial⟩,rfl,rfl⟩ ?_;clear hbd hul;have hub:u.length=u.length:=rfl;generalize zc3 u n=u' at hus;(repeat(first|apply zae|apply zab|apply zac|apply zad));refine AWP.ordF (σ':=⟨[(0,⟨.slice nd,r⟩),(3,⟨.optr (.arr 19 shp),⟨0,.arr 19 shp,.here⟩⟩),(4,⟨.obuf i64,(1:Nat)⟩),(24,⟨.slice nd,r⟩),(25,⟨i64,((r.length:Nat):Int)⟩),(26,⟨i64,(i:Int)⟩),(5,⟨i64,(i:Int)⟩),(6,⟨.optr nd,⟨2,nd,.here⟩⟩),(7,⟨.optr shp,⟨3,shp,.here⟩⟩),(10,⟨.bool,ndC n==0⟩),(11,⟨.bool,decide (ndS n=[])⟩)],[(0,some (.box (.arr 19 shp) zc9)),(1,some (.buf 3 i64 (u'))),(2,some (.box nd n)),(3,some (.box shp (zd2 (ndK n))))],4⟩) dM 8 rfl (by kernel_rfl) ?_ ?_
    ·repeat'(first|exact jE|refine jj ⟨_,rfl,?_⟩ ?_|refine yZ hX zaO rfl trivial ?_|(refine OrdA.last ?_;exact⟨rfl,⟨rfl,rfl,rfl,rfl,rfl,rfl,rfl,rfl,rfl,rfl,zbz zcw,trivial⟩,⟨rfl,rfl,rfl,rfl,trivial⟩,rfl,rfl⟩))
    refine za (za ?_);refine zaa hX zaO rfl ?_ ?_
    ·trivial
    refine AWP.viaQ (σ':=⟨[(0,⟨.slice nd,r⟩),(3,⟨.optr (.arr 19 shp),⟨0,.arr 19 shp,.here⟩⟩),(4,⟨.obuf i64,(1:Nat)⟩),(24,⟨.slice nd,r⟩),(25,⟨i64,((r.length:Nat):Int)⟩),(26,⟨i64,(i:Int)⟩),(5,⟨i64,(i:Int)⟩),(6,⟨.optr nd,⟨2,nd,.here⟩⟩),(7,⟨.optr shp,⟨3,shp,.here⟩⟩),(10,⟨.bool,zfq n⟩),(11,⟨.bool,decide (ndS n=[])⟩)],[(0,some (.box (.arr 19 shp) zc9)),(1,some (.buf 3 i64 (u'))),(2,some (.box nd n)),(3,some (.box shp (zd2 (ndK n))))],4⟩) ?_ ?_
    ·refine zaf rfl (fun hd=>?_) (fun hd=>?_)
     ·have hd:(zd2 (ndK n)).2.1=true:=hd;refine za (za ?_);refine zaa hX zaO rfl ?_ ?_
      ·trivial
      refine⟨⟨rfl,rfl,rfl,rfl,rfl,rfl,rfl,rfl,rfl,zbz ?_,rfl,trivial⟩,⟨rfl,rfl,rfl,rfl,trivial⟩,rfl,rfl⟩;unfold zfq;rw[hd];rfl
     ·have hd:(zd2 (ndK n)).2.1=false:=hd;apply zab;refine⟨⟨rfl,rfl,rfl,rfl,rfl,rfl,rfl,rfl,rfl,zbz ?_,rfl,trivial⟩,⟨rfl,rfl,rfl,rfl,trivial⟩,rfl,rfl⟩;unfold zfq;rw[hd];rfl
    refine za (za ?_);refine zaa hX zaO rfl ?_ ?_
    ·trivial
    refine AWP.viaQ (σ':=⟨[(0,⟨.slice nd,r⟩),(3,⟨.optr (.arr 19 shp),⟨0,.arr 19 shp,.here⟩⟩),(4,⟨.obuf i64,(1:Nat)⟩),(24,⟨.slice nd,r⟩),(25,⟨i64,((r.length:Nat):Int)⟩),(26,⟨i64,(i:Int)⟩),(5,⟨i64,(i:Int)⟩),(6,⟨.optr nd,⟨2,nd,.here⟩⟩),(7,⟨.optr shp,⟨3,shp,.here⟩⟩),(10,⟨.bool,zfq n⟩),(11,⟨.bool,zjQ n⟩)],[(0,some (.box (.arr 19 shp) zc9)),(1,some (.buf 3 i64 (u'))),(2,some (.box nd n)),(3,some (.box shp (zd2 (ndK n))))],4⟩) ?_ ?_
    ·refine zaf rfl (fun hd=>?_) (fun hd=>?_)
     ·have hd:(ndK n==18)=true:=hd;refine za (za ?_);refine zaa hX zaO rfl ?_ ?_
      ·trivial
      refine⟨⟨rfl,rfl,rfl,rfl,rfl,rfl,rfl,rfl,rfl,rfl,zbz ?_,trivial⟩,⟨rfl,rfl,rfl,rfl,trivial⟩,rfl,rfl⟩;unfold zjQ;rw[hd];rfl
     ·have hd:(ndK n==18)=false:=hd;apply zab;refine⟨⟨rfl,rfl,rfl,rfl,rfl,rfl,rfl,rfl,rfl,rfl,zbz ?_,trivial⟩,⟨rfl,rfl,rfl,rfl,trivial⟩,rfl,rfl⟩;unfold zjQ;rw[hd];rfl
    have hfd:zbI n=(zfq n&&(zjQ n&&(za3 (ndI n) (zd2 (ndK n)).2.2.1&&zdj n))):=by
     unfold zbI;rw[zaU.2 ⟨k1,k2⟩,decide_eq_true hl64];rfl
    refine za (za ?_);refine zaa hX zaO rfl ?_ ?_
    ·repeat'(first|exact trivial|assumption|(refine⟨?_,?_⟩)|(intro _)|exact zb rfl|exact zn _|(simp_all [allP];done))
    have ht:(bif (bif (bif !zfq n then true else !zjQ n) then true else !za3 (ndI n) (zd2 (ndK n)).2.2.1) then true else !zdj n)= !zbI n:=by
     rw[hfd];cases zfq n<;>cases zjQ n<;>cases za3 (ndI n) (zd2 (ndK n)).2.2.1<;>cases zdj n<;>rfl
    refine zaf rfl (fun hd=>?_) (fun hd=>?_)
    ·have hd:=ht.symm.trans hd;rw[zs]at hd;(repeat(first|apply zae|apply zab|apply zal|apply zad|apply zac|refine zaa hX zaO rfl trivial ?_|refine zaa hX zaO rfl id ?_|refine zaa hX zaO rfl ⟨id,id⟩ ?_));refine zm ⟨.inr rfl,zas rfl trivial rfl rfl ?_⟩;show false=wfS r;rw[hff hd]
    ·have hd:=ht.symm.trans hd;rw[yC]at hd;apply zab;refine za (za ?_);refine zaa hX zaO rfl ?_ ?_
     ·exact zaZ (by omega)
     refine⟨i+1,⟨hlt,?_⟩,by omega,⟨rfl,rfl,rfl,rfl,rfl,zdM _,trivial⟩,⟨rfl,bufI hus.symm,trivial⟩,rfl,rfl⟩;rw[hno];unfold zg2;rw[hd,hopd];rfl
 ·have hb:decide ((i:Int) < (r.length:Nat))=false:=hb;have hb:=of_decide_eq_false hb;obtain rfl:i=r.length:=by omega
  have hul:=zdf r r.length;apply zad;refine qS hX 4 ?_;have i1:inR .i64 (((r.length:Nat):Int) - 1):=zaq (by omega) (by omega);have i2:(0:Int)≤((r.length:Nat):Int) - 1:=by omega
  have i3:((r.length:Nat):Int) - 1≤(((zcB r r.length).length:Nat):Int):=by omega
  refine za (za ?_);refine zaa hX zaO rfl ?_ ?_
  ·first|exact⟨i1,i2,i3,rfl⟩|(repeat'(first|exact trivial|exact i1|exact i2|exact i3|rfl|(refine⟨?_,?_⟩)))
  refine zm ⟨.inr rfl,zas rfl trivial rfl rfl ?_⟩;show (!((zcB r r.length).take (((r.length:Nat):Int) - 1).toNat).any not1)=wfS r;unfold wfS;rw[decide_eq_true (by omega),decide_eq_true (by omega),hn,show (((r.length:Nat):Int) - 1).toNat=r.length - 1 by omega];rfl
abbrev Cal:=Int×List Int×Int×List Lr×Unit
def zlv (c:Cal):Prop:=(0≤c.1∧c.1≤1048576)∧(1≤c.2.1.length∧c.2.1.length≤16)∧(-1≤c.2.2.1∧c.2.2.1 < (c.2.1.length:Int))∧c.2.2.2.1.length≤16∧(c.2.2.1= -1->c.2.2.2.1=[])∧(∀ m∈c.2.1,1≤m∧m≤40)∧(perS 1 c.2.2.2.1).2=true
def cCalV:Ctr:={ args:=[cal],pre:=fun x=>[zlv x.1],res:=.bool,own:=none,out:=fun _=>true }
def kCv:Kn:={ gmK with C:=[(125,cPer)] }
theorem zdE:KnOk Tryz.prog gmH kCv:=zak.with (.cons zpG .nil)
theorem zrd {a b:Bool} (ha:a=false) (hb:b=false):(bif a then true else b)=false:=by rw[ha,hb];rfl
theorem zuQ:yB Tryz.prog gmH 73 cCalV:=by
 refine zap (K:=kCv) zdE Tryz.func73 rfl rfl Tryz.call73 rfl (by decide) (by intro h;cases h) ?_;rintro w0 X hX ⟨(c:Cal),_⟩ hp;obtain⟨(ep:Int),(ms:List Int),(lp:Int),(rs:List Lr),⟨⟩⟩:=c;obtain⟨⟨e0,e1⟩,⟨n0,n1⟩,⟨l0,l1⟩,r0,lr,hm,hper⟩:zlv (ep,ms,lp,rs,()):=hp;have e0:0≤ep:=e0;have e1:ep≤1048576:=e1;have n0:1≤ms.length:=n0;have n1:ms.length≤16:=n1;have l0: -1≤lp:=l0;have l1:lp < (ms.length:Int):=l1;have r0:rs.length≤16:=r0;have lr:lp= -1->rs=[]:=lr;have hm:∀ m∈ms,1≤m∧m≤40:=hm;have hper:(perS 1 rs).2=true:=hper;change AWP _ _ _ _ _ ⟨[(0,⟨cal,(ep,ms,lp,rs,())⟩)],[],0⟩ _;refine za (za ?_);refine zaa hX zdE rfl ?_ ?_
 ·trivial
 refine za (za ?_);refine zaa hX zdE rfl ?_ ?_
 ·trivial
 refine zam (σ':=⟨[(1,⟨.optr cal,⟨0,cal,.here⟩⟩),(3,⟨i64,((ms.length:Nat):Int)⟩)],[(0,some (.box cal (ep,ms,lp,rs,())))],1⟩) ⟨⟨rfl,rfl,trivial⟩,⟨rfl,trivial⟩,rfl,rfl⟩ ?_;refine za (za ?_);refine zaa hX zdE rfl ?_ ?_
 ·repeat'(first|exact trivial|assumption|(refine⟨?_,?_⟩)|(intro _)|exact zb rfl|exact zn _|(simp_all [allP];done))
 refine zaf rfl (fun hc=>?_) (fun _=>?_)
 ·have hc:(bif decide (ep < 0) then true else decide (ep > 1048576))=true:=hc;rw[zrd (decide_eq_false (by omega)) (decide_eq_false (by omega))]at hc;cases hc
 refine za (za ?_);refine zaa hX zdE rfl ?_ ?_
 ·repeat'(first|exact trivial|assumption|(refine⟨?_,?_⟩)|(intro _)|exact zb rfl|exact zn _|(simp_all [allP];done))
 refine zaf rfl (fun hc=>?_) (fun _=>?_)
 ·have hc:(bif decide (((ms.length:Nat):Int) < 1) then true else decide (((ms.length:Nat):Int) > 16))=true:=hc;rw[zrd (decide_eq_false (by omega)) (decide_eq_false (by omega))]at hc;cases hc
 refine za (za ?_);refine zaa hX zdE rfl ?_ ?_
 ·repeat'(first|exact trivial|assumption|(refine⟨?_,?_⟩)|(intro _)|exact zb rfl|exact zn _|(simp_all [allP];done))
 refine zaf rfl (fun hc=>?_) (fun _=>?_)
 ·have hc:(bif decide (lp < -1) then true else decide (lp≥((ms.length:Nat):Int)))=true:=hc;rw[zrd (decide_eq_false (by omega)) (decide_eq_false (by omega))]at hc;cases hc
 refine za (za ?_);refine zaa hX zdE rfl ?_ ?_
 ·repeat'(first|exact trivial|assumption|(refine⟨?_,?_⟩)|(intro _)|exact zb rfl|exact zn _|(simp_all [allP];done))
 refine zaf rfl (fun hc=>?_) (fun _=>?_)
 ·have hc:decide (((rs.length:Nat):Int) > 16)=true:=hc;have:=of_decide_eq_true hc;omega
 refine za (za ?_);refine zaa hX zdE rfl ?_ ?_
 ·repeat'(first|exact trivial|assumption|(refine⟨?_,?_⟩)|(intro _)|exact zb rfl|exact zn _|(simp_all [allP];done))
 refine zaf rfl (fun hc=>?_) (fun _=>?_)
 ·have hc:(bif (lp== -1) then decide (((rs.length:Nat):Int) > 0) else false)=true:=hc;cases hq:(lp== -1) with
  |false=>rw[hq]at hc;cases hc
  |true=>
   rw[hq]at hc;have:=of_decide_eq_true hc;rw[lr (beq_iff_eq.1 hq)]at this;exact absurd this (by decide)
 apply zab;refine zam (σ':=⟨[(1,⟨.optr cal,⟨0,cal,.here⟩⟩)],[(0,some (.box cal (ep,ms,lp,rs,())))],1⟩) ⟨⟨rfl,trivial⟩,⟨rfl,trivial⟩,rfl,rfl⟩ ?_;refine za (za ?_);refine zaa hX zdE rfl ?_ ?_
 ·trivial
 (repeat(first|apply zae|apply zab|apply zac|apply zad));refine yD (ι:=Nat) (fun k=>⟨[(1,⟨.optr cal,⟨0,cal,.here⟩⟩),(50,⟨ints,ms⟩),(51,⟨i64,((ms.length:Nat):Int)⟩),(52,⟨i64,(k:Int)⟩)],[(0,some (.box cal (ep,ms,lp,rs,())))],1⟩) (fun k=>k≤ms.length) (fun k=>ms.length - k) 0 (zk _) ⟨⟨rfl,rfl,rfl,rfl,trivial⟩,⟨rfl,trivial⟩,rfl,rfl⟩ ?_;intro k hk;refine za (za ?_);refine zaa hX zdE rfl ?_ ?_
 ·trivial
 apply zae;refine zaf rfl (fun hb=>?_) (fun hb=>?_)
 ·have hb:decide ((k:Int) < (ms.length:Nat))=true:=hb;have hb:=of_decide_eq_true hb;have hlt:k < ms.length:=by omega
  have z0:(0:Int)≤(k:Int):=by omega
  have hgd:ms.getD (k:Int).toNat (0:Int)=ms[k]:=zaM hlt;obtain⟨g0,g1⟩:=hm ms[k] (xU hlt);rw[<-hgd]at g0 g1;refine za (za ?_);refine zaa hX zdE rfl ?_ ?_
  ·exact⟨z0,hb⟩
  refine za (za ?_);refine zaa hX zdE rfl ?_ ?_
  ·repeat'(first|exact trivial|assumption|(refine⟨?_,?_⟩)|(intro _)|exact zb rfl|exact zn _|(simp_all [allP];done))
  refine zaf rfl (fun hc=>?_) (fun _=>?_)
  ·have hc:(bif decide (ms.getD (k:Int).toNat (0:Int) < 1) then true else decide (ms.getD (k:Int).toNat (0:Int) > 40))=true:=hc;rw[zrd (decide_eq_false (by omega)) (decide_eq_false (by omega))]at hc;cases hc
  apply zab;refine za (za ?_);refine zaa hX zdE rfl ?_ ?_
  ·exact zaZ (by omega)
  exact⟨k+1,hlt,by omega,⟨rfl,rfl,rfl,zdM _,trivial⟩,⟨rfl,trivial⟩,rfl,rfl⟩
 ·apply zad;refine za (za ?_);refine zaa hX zdE rfl ?_ ?_
  ·trivial
  refine za (za ?_);refine zaa hX zdE rfl ?_ ?_
  ·trivial
  refine zm ⟨.inr rfl,zas rfl trivial rfl rfl ?_⟩;exact hper
def zuS:Ctr:={ args:=[.slice nd,.slice cal],pre:=fun x=>[zf x.2.1=3,∀ c∈(x.2.1:List Cal),zlv c],res:=i64,own:=none,out:=fun x=>zdA x.1 }
def zCal:Cal:=(0,[],0,[],())
def kVr:Kn:={ gmK with C:=[(71,cAnyR),(72,cWf),(73,cCalV),(74,zmw)] }
theorem zb6:KnOk Tryz.prog gmH kVr:=zak.with (.cons zva <| .cons wf_ok <| .cons zuQ <| .cons zkB .nil)
set_option maxHeartbeats 1000000 in
theorem zto:yB Tryz.prog gmH 34 zuS:=by
 refine zap (K:=kVr) zb6 Tryz.func34 rfl rfl Tryz.call34 rfl (by decide) (by intro h;cases h) ?_;rintro w0 X hX ⟨(r:List Nd),(cs:List Cal),_⟩ hp;obtain⟨hc3,hcs⟩:cs.length=3∧∀ c∈cs,zlv c:=by
  simp only[zuS,allP]at hp
  simpa using hp
 change AWP _ _ _ _ _ ⟨[(0,⟨.slice nd,r⟩),(1,⟨.slice cal,cs⟩)],[],0⟩ _;refine za (za ?_);refine zaa hX zb6 rfl ?_ ?_
 ·trivial
 refine za (za ?_);refine zaa hX zb6 rfl ?_ ?_
 ·trivial
 refine za (za ?_);refine zaa hX zb6 rfl ?_ ?_
 ·repeat'(first|exact trivial|assumption|exact rfl|(refine⟨?_,?_⟩)|(intro _)|exact zb rfl|exact zn _|(simp_all [allP];done))
 have hbig:(bif decide (((r.length:Nat):Int) > 64) then true else r.any bigN)=decide (64 < r.length∨r.any bigN=true):=by
  rw[b_or,yb,zJ,decide_eq_true_iff,decide_eq_true_iff];constructor
  ·rintro (h|h)
   ·exact .inl (by omega)
   ·exact .inr h
  ·rintro (h|h)
   ·exact .inl (by omega)
   ·exact .inr h
 refine zaf rfl (fun hb=>?_) (fun hb=>?_)
 ·have hb:=hbig.symm.trans hb;have hb:=of_decide_eq_true hb;(repeat(first|apply zae|apply zab|apply zal|apply zad|apply zac|refine zaa hX zb6 rfl trivial ?_|refine zaa hX zb6 rfl id ?_|refine zaa hX zb6 rfl ⟨id,id⟩ ?_));refine zm ⟨.inr rfl,zas rfl trivial rfl rfl ?_⟩;show (2:Int)=zdA r;unfold zdA;rw[if_pos hb]
 have hb:=hbig.symm.trans hb;have hnb:=of_decide_eq_false hb;apply zab;refine za (za ?_);refine zaa hX zb6 rfl ?_ ?_
 ·repeat'(first|exact trivial|assumption|(refine⟨?_,?_⟩)|(intro _)|exact zb rfl|exact zn _|(simp_all [allP];done))
 have hwt:(bif !wfS r then true else decide (((cs.length:Nat):Int) > 3))= !wfS r:=by
  rw[hc3];cases wfS r<;>rfl
 refine zaf rfl (fun hb=>?_) (fun hb=>?_)
 ·have hb:=hwt.symm.trans hb;rw[zs]at hb;(repeat(first|apply zae|apply zab|apply zal|apply zad|apply zac|refine zaa hX zb6 rfl trivial ?_|refine zaa hX zb6 rfl id ?_|refine zaa hX zb6 rfl ⟨id,id⟩ ?_));refine zm ⟨.inr rfl,zas rfl trivial rfl rfl ?_⟩;show (1:Int)=zdA r;unfold zdA;rw[if_neg hnb,if_neg (by rw[hb];decide)]
 have hb:=hwt.symm.trans hb;rw[yC]at hb;have hv:zdA r=0:=by unfold zdA;rw[if_neg hnb,if_pos hb]
 obtain⟨⟨w1,w2⟩,w3,_⟩:=zej hb;apply zab;refine za (za ?_);refine zaa hX zb6 rfl ?_ ?_
 ·trivial
 (repeat(first|apply zae|apply zab|apply zac|apply zad));refine zam (σ':=⟨[(0,⟨.slice nd,r⟩),(1,⟨.slice cal,cs⟩),(27,⟨.slice cal,cs⟩),(28,⟨i64,((cs.length:Nat):Int)⟩),(29,⟨i64,(0:Int)⟩)],[],0⟩) ⟨⟨rfl,rfl,rfl,rfl,rfl,trivial⟩,trivial,rfl,rfl⟩ ?_;refine yD (ι:=Nat) (fun k=>⟨[(0,⟨.slice nd,r⟩),(1,⟨.slice cal,cs⟩),(27,⟨.slice cal,cs⟩),(28,⟨i64,((cs.length:Nat):Int)⟩),(29,⟨i64,(k:Int)⟩)],[],0⟩) (fun k=>k≤cs.length) (fun k=>cs.length - k) 0 (zk _) ⟨⟨rfl,rfl,rfl,rfl,rfl,trivial⟩,trivial,rfl,rfl⟩ ?_;intro k hk;refine za (za ?_);refine zaa hX zb6 rfl ?_ ?_
 ·trivial
 apply zae;refine zaf rfl (fun hb=>?_) (fun hb=>?_)
 ·have hb:decide ((k:Int) < (cs.length:Nat))=true:=hb;have hb:=of_decide_eq_true hb;have hlt:k < cs.length:=by omega
  have z0:(0:Int)≤(k:Int):=by omega
  have hgd:cs.getD (k:Int).toNat zCal=cs[k]:=zaM hlt;have hok:=hcs cs[k] (xU hlt);rw[<-hgd]at hok;refine za (za ?_);refine zaa hX zb6 rfl ?_ ?_
  ·exact⟨z0,hb⟩
  refine za (za ?_);refine zaa hX zb6 rfl ?_ ?_
  ·exact hok
  refine zaf rfl (fun hc=>?_) (fun _=>?_)
  ·have hc:(!true)=true:=hc;cases hc
  apply zab;refine za (za ?_);refine zaa hX zb6 rfl ?_ ?_
  ·exact zaZ (by omega)
  exact⟨k+1,hlt,by omega,⟨rfl,rfl,rfl,rfl,zdM _,trivial⟩,trivial,rfl,rfl⟩
 ·apply zad;refine za (za ?_);refine zaa hX zb6 rfl ?_ ?_
  ·trivial
  refine za (za ?_);refine zaa hX zb6 rfl ?_ ?_
  ·trivial
  (repeat(first|apply zae|apply zab|apply zac|apply zad));refine yD (ι:=Nat) (fun i=>⟨[(0,⟨.slice nd,r⟩),(1,⟨.slice cal,cs⟩),(8,⟨.optr (.arr 19 shp),⟨0,.arr 19 shp,.here⟩⟩),(38,⟨.slice nd,r⟩),(39,⟨i64,((r.length:Nat):Int)⟩),(40,⟨i64,(i:Int)⟩)],[(0,some (.box (.arr 19 shp) zc9))],1⟩) (fun i=>i≤r.length) (fun i=>r.length - i) 0 (zk _) ⟨⟨rfl,rfl,rfl,rfl,rfl,rfl,trivial⟩,⟨rfl,trivial⟩,rfl,rfl⟩ ?_;intro i hi;refine za (za ?_);refine zaa hX zb6 rfl ?_ ?_
  ·trivial
  apply zae;refine zaf rfl (fun hb=>?_) (fun hb=>?_)
  ·have hb:decide ((i:Int) < (r.length:Nat))=true:=hb;have hb:=of_decide_eq_true hb;have hlt:i < r.length:=by omega
   have z0:(0:Int)≤(i:Int):=by omega
   have hf:=(zdh w3 hlt).1;obtain⟨⟨k1,k2⟩,_,hcal,_⟩:=zaS hf;refine za (za ?_);refine zaa hX zb6 rfl ?_ ?_
   ·exact⟨z0,hb⟩
   refine zam (σ':=⟨[(0,⟨.slice nd,r⟩),(1,⟨.slice cal,cs⟩),(8,⟨.optr (.arr 19 shp),⟨0,.arr 19 shp,.here⟩⟩),(38,⟨.slice nd,r⟩),(39,⟨i64,((r.length:Nat):Int)⟩),(40,⟨i64,(i:Int)⟩),(10,⟨.optr nd,⟨1,nd,.here⟩⟩)],[(0,some (.box (.arr 19 shp) zc9)),(1,some (.box nd (zax r i)))],2⟩) ⟨⟨rfl,rfl,rfl,rfl,rfl,rfl,rfl,trivial⟩,⟨rfl,rfl,trivial⟩,rfl,rfl⟩ ?_;generalize zax r i=n at *;have t0:(0:Int)≤ndK n:=by omega
   have t1:ndK n < ((19:Nat):Int):=by omega
   have t2:(ndK n).toNat < 19:=by omega
   refine za (za ?_);refine zaa hX zb6 rfl ?_ ?_
   ·repeat'(first|exact trivial|assumption|exact t0|exact t1|exact t2|(refine⟨?_,?_⟩)|(intro _)|exact zb rfl|exact zn _|(simp_all [allP];done))
   refine zaf rfl (fun hc=>?_) (fun _=>?_)
   ·have hc:(bif (zd2 (ndK n)).2.1 then decide (ndC n≥((cs.length:Nat):Int)) else false)=true:=hc;exfalso;unfold zfq at hcal;cases hq:(zd2 (ndK n)).2.1 with
    |false=>rw[hq]at hc;cases hc
    |true=>
     rw[hq,cond_true]at hc hcal;have h1:=of_decide_eq_true hc;have h2:=zaU.1 hcal;omega
   apply zab;refine za (za ?_);refine zaa hX zb6 rfl ?_ ?_
   ·exact zaZ (by omega)
   exact⟨i+1,hlt,by omega,⟨rfl,rfl,rfl,rfl,rfl,zdM _,trivial⟩,⟨rfl,trivial⟩,rfl,rfl⟩
  ·(repeat(first|apply zae|apply zab|apply zal|apply zad|apply zac|refine zaa hX zb6 rfl trivial ?_|refine zaa hX zb6 rfl id ?_|refine zaa hX zb6 rfl ⟨id,id⟩ ?_));refine zm ⟨.inr rfl,zas rfl trivial rfl rfl ?_⟩;exact hv.symm
def zsP:List Int:=[31,28,31,30,31,30,31,31,30,31,30,31]
def zh3:List Int:=[30,29,30,29,30,29,30,29,30,29,30,29]
def zhK:List Int:=[2,5,7,10,13,16,18,21,24,26,29]
def znd (k:Int):Cal:=
 if k=0 then (7,zsP,1,[(4,0,true,()),(100,0,false,()),(400,0,true,())],())
 else if k=1 then (5,zsP,1,[(4,0,true,())],())
 else (227021,zh3,11,zhK.map fun x=>(30,x,true,()),())
def zqO:Ctr:={ args:=[i64],pre:=fun x=>[0≤x.1,x.1≤2],res:=.tup cal (.tup i64 .unit),own:=none,out:=fun x=>(znd x.1,(0:Int),()) }
def kKw:Kn:={ gmK with H:=[63] }
theorem zcq:KnOk Tryz.prog gmH kKw:=⟨zih,zig,CsOk.nil,zjh,RsOk.nil⟩
def lunVal:Value:=.agg #[.int .i64 227021,.slice none 0 0,.int .i64 11,.slice none 0 0]
theorem zpS:Tryz.prog.built 63 [(0,.int .i64 227021),(2,.int .i64 11)]=some #[.int .i64 227021,.slice none 0 0,.int .i64 11,.slice none 0 0]:=by kernel_rfl
theorem bufL {te:zp} {x y:List Lr} (h:x=y):some (OObj.buf te lru x)=some (OObj.buf te lru y):=by rw[h]
set_option maxHeartbeats 1000000 in
theorem zr8:yB Tryz.prog gmH 59 zqO:=by
 refine zap (K:=kKw) zcq Tryz.func59 rfl rfl Tryz.call59 rfl (by decide) (by intro h;cases h) ?_;rintro w0 X hX ⟨(k:Int),_⟩ hp;obtain⟨h0,h1⟩:0≤k∧k≤2:=by
  simp only[zqO,allP]at hp
  simpa using hp
 change AWP _ _ _ _ _ ⟨[(0,⟨i64,k⟩)],[],0⟩ _;refine za (za ?_);refine zaa hX zcq rfl ?_ ?_
 ·trivial
 refine za (za ?_);refine zaa hX zcq rfl ?_ ?_
 ·trivial
 refine qS hX 4 ?_;refine za (za ?_);refine zaa hX zcq rfl ?_ ?_
 ·trivial
 refine za (za ?_);refine zaa hX zcq rfl ?_ ?_
 ·trivial
 refine za (za ?_);refine zaa hX zcq rfl ?_ ?_
 ·trivial
 refine zaf rfl (fun hb=>?_) (fun hb=>?_)
 ·have hb:(k==0)=true:=hb;obtain rfl:=beq_iff_eq.1 hb;refine za (za ?_);refine zaa hX zcq rfl ?_ ?_
  ·trivial
  refine qS hX 6 ?_;refine za (za ?_);refine zaa hX zcq rfl ?_ ?_
  ·trivial
  refine zm ⟨.inr rfl,za9 (by decide) rfl rfl trivial ?_⟩;rfl
 have hb:(k==0)=false:=hb;have hk0:k≠0:=fun e=>by rw[e]at hb;cases hb
 refine za (za ?_);refine zaa hX zcq rfl ?_ ?_
 ·trivial
 refine zaf rfl (fun hb=>?_) (fun hb=>?_)
 ·have hb:(k==1)=true:=hb;obtain rfl:=beq_iff_eq.1 hb;refine za (za ?_);refine zaa hX zcq rfl ?_ ?_
  ·trivial
  refine zm ⟨.inr rfl,za9 (by decide) rfl rfl trivial ?_⟩;rfl
 have hb:(k==1)=false:=hb;have hk1:k≠1:=fun e=>by rw[e]at hb;cases hb
 refine za (za ?_);refine zaa hX zcq rfl ?_ ?_
 ·trivial
 refine zaf rfl (fun hb=>?_) (fun hb=>?_)
 ·have hb:(k==2)=true:=hb;obtain rfl:=beq_iff_eq.1 hb;(repeat(first|apply zae|apply zab|apply zac|apply zad));refine zah ?_;refine AL.litv rfl (by intro c e;cases e) rfl rfl lunVal (fun β a w hs=>by
   unfold execOp;refine zeG ?_;rw[show (#[(0,uJ (yJ .i64 227021)),(2,uJ (yJ .i64 11))]:Array (Nat×zG)).map (fun p=>(p.1,a.eval p.2))= #[(0,yJ .i64 227021),(2,yJ .i64 11)] from by simp;exact⟨rfl,rfl⟩];exact run_build w _ _ _ zpS) ?_
  refine zY hX zcq rfl trivial ?_;refine AWP.nilLeaf 3 1 3 i64 rfl rfl rfl ?_;refine AWP.nilLeaf 3 3 129 lru rfl rfl rfl ?_;refine za (za ?_);refine zaa hX zcq rfl ?_ ?_
  ·trivial
  (repeat(first|apply zae|apply zab|apply zac|apply zad));refine yD (ι:=Nat) (fun i=>⟨[(2,⟨.hptr,((0:Nat),(0:Nat))⟩),(7,⟨.hptr,((3:Nat),(0:Nat))⟩),(32,⟨i64,(i:Int)⟩)],[(0,some (.hbox 63 [⟨i64,(0:Int)⟩,⟨.lit,.slice none 0 0⟩,⟨i64,(0:Int)⟩,⟨.lit,.slice none 0 0⟩])),(3,some (.hbox 63 [⟨i64,(227021:Int)⟩,⟨.obuf i64,(4:Nat)⟩,⟨i64,(11:Int)⟩,⟨.obuf lru,(5:Nat)⟩])),(4,some (.buf 3 i64 (zh3.take i))),(5,some (.buf 129 lru []))],6⟩) (fun i=>i≤12) (fun i=>12 - i) 0 (zk _) ⟨⟨rfl,rfl,rfl,trivial⟩,⟨rfl,rfl,rfl,rfl,trivial⟩,rfl,rfl⟩ ?_
  ·intro i hi;refine za (za ?_);refine zaa hX zcq rfl ?_ ?_
   ·trivial
   apply zae;refine zaf rfl (fun hb=>?_) (fun hb=>?_)
   ·have hb:decide ((i:Int) < 12)=true:=hb;have hb:=of_decide_eq_true hb;obtain⟨hv,hv2,hv3⟩:(inR .i64 ((30:Int) - (i:Int).tmod 2))∧zh3.take i++ [(30:Int) - (i:Int).tmod 2]=zh3.take (i+1)∧(zh3.take i).length≤12:=by
     rcases (show i=0∨i=1∨i=2∨i=3∨i=4∨i=5∨i=6∨i=7∨i=8∨i=9∨i=10∨i=11 by omega) with rfl|rfl|rfl|rfl|rfl|rfl|rfl|rfl|rfl|rfl|rfl|rfl<;>exact⟨zaq (by decide) (by decide),by decide,by decide⟩
    have q0:(2:Int)≠0:=by decide
    have q1:(zh3.take i).length+1≤1000000000:=by omega
    refine za (za ?_);refine zaa hX zcq rfl ?_ ?_
    ·trivial
    refine za (za ?_);refine zaa hX zcq rfl ?_ ?_
    ·exact⟨q0,hv,q1⟩
    refine za (za ?_);refine zaa hX zcq rfl ?_ ?_
    ·exact zaZ (by omega)
    exact⟨i+1,by omega,by omega,⟨rfl,rfl,zdM _,trivial⟩,⟨rfl,rfl,bufI hv2,rfl,trivial⟩,rfl,rfl⟩
   ·have hb:decide ((i:Int) < 12)=false:=hb;have hb:=of_decide_eq_false hb;obtain rfl:i=12:=by omega
    apply zad;refine za (za ?_);refine zaa hX zcq rfl ?_ ?_
    ·trivial
    refine qS hX 44 ?_;(repeat(first|apply zae|apply zab|apply zac|apply zad));refine yD (ι:=Nat) (fun j=>⟨[(2,⟨.hptr,((0:Nat),(0:Nat))⟩),(7,⟨.hptr,((3:Nat),(0:Nat))⟩),(44,⟨ints,zhK⟩),(45,⟨i64,(11:Int)⟩),(46,⟨i64,(j:Int)⟩)],[(0,some (.hbox 63 [⟨i64,(0:Int)⟩,⟨.lit,.slice none 0 0⟩,⟨i64,(0:Int)⟩,⟨.lit,.slice none 0 0⟩])),(3,some (.hbox 63 [⟨i64,(227021:Int)⟩,⟨.obuf i64,(4:Nat)⟩,⟨i64,(11:Int)⟩,⟨.obuf lru,(5:Nat)⟩])),(4,some (.buf 3 i64 zh3)),(5,some (.buf 129 lru ((zhK.take j).map fun x=>(30,x,true,()))))],6⟩) (fun j=>j≤11) (fun j=>11 - j) 0 (zk _) ⟨⟨rfl,rfl,rfl,rfl,rfl,trivial⟩,⟨rfl,rfl,rfl,rfl,trivial⟩,rfl,rfl⟩ ?_;intro j hj;refine za (za ?_);refine zaa hX zcq rfl ?_ ?_
    ·trivial
    apply zae;refine zaf rfl (fun hb=>?_) (fun hb=>?_)
    ·have hb:decide ((j:Int) < 11)=true:=hb;have hb:=of_decide_eq_true hb;have hlt:j < zhK.length:=by show j < 11;omega
     have z0:(0:Int)≤(j:Int):=by omega
     have z1:(j:Int) < ((zhK.length:Nat):Int):=by omega
     have hl:((zhK.take j).map fun x=>((30,x,true,()):Lr)).length+1≤1000000000:=by rw[jg,yW];omega
     refine za (za ?_);refine zaa hX zcq rfl ?_ ?_
     ·exact⟨z0,z1⟩
     refine za (za ?_);refine zaa hX zcq rfl ?_ ?_
     ·exact hl
     refine za (za ?_);refine zaa hX zcq rfl ?_ ?_
     ·exact zaZ (by omega)
     refine⟨j+1,by omega,by omega,⟨rfl,rfl,rfl,rfl,zdM _,trivial⟩,⟨rfl,rfl,rfl,bufL ?_,trivial⟩,rfl,rfl⟩;rw[zE hlt,xO];show _++ [((30:Int),zhK.getD (j:Int).toNat (0:Int),true,())]=_;rw[zaM hlt];rfl
    ·have hb:decide ((j:Int) < 11)=false:=hb;have hb:=of_decide_eq_false hb;obtain rfl:j=11:=by omega
     apply zad;refine AWP.frzL hX 3 1 ?_;refine AWP.frzL hX 3 3 ?_;refine za (za ?_);refine zaa hX zcq rfl ?_ ?_
     ·trivial
     refine zm ⟨.inr rfl,za9 (by decide) rfl rfl trivial ?_⟩;rfl
 ·have hb:(k==2)=false:=hb;exact absurd (beq_iff_eq.2 (by omega:k=2)) (by rw[hb];decide)
abbrev RTk:=Int×Int×List UInt8×Int×Unit
abbrev RSt:=List UInt8×RTk×Int×Int×Int×Unit
def RTk.kind (t:RTk):Int:=t.1
def RTk.at (t:RTk):Int:=t.2.1
def RTk.text (t:RTk):List UInt8:=t.2.2.1
def RTk.n (t:RTk):Int:=t.2.2.2.1
def RSt.t (p:RSt):RTk:=p.2.1
def RSt.nodes (p:RSt):Int:=p.2.2.1
def RSt.e (p:RSt):Int:=p.2.2.2.1
def RSt.at (p:RSt):Int:=p.2.2.2.2.1
def rn (l:List UInt8):Nat:=l.foldl (fun n c=>min (10 * n+(c.toNat - 48)) zcv) 0
def zcu (at_:Int) (l:List UInt8):RTk:=
 let neg:=l.head? ==some 45
 let ds:=(if neg then l.drop 1 else l).takeWhile isDg
 (if ds.head? =some 48∧(neg=true∨1 < ds.length) then 5 else 3,at_,(if neg then 45::ds else ds),if neg then -((rn ds:Nat):Int) else ((rn ds:Nat):Int),())
def zck (s:List UInt8) (o:Int):RTk:=
 match (s.drop o.toNat).dropWhile isWh with
 | []=>(0,(s.length:Nat),[],0,())
 |c::q=>
  let a:Int:=o+(zaD isWh (s.drop o.toNat):Nat)
  if isLt c then (1,a,(c::q).takeWhile isPt,0,())
  else if c=64∧q.head?.any isLt=true then (2,a,q.takeWhile isPt,0,())
  else if isDg c=true∨c=45∧q.head?.any isDg=true then zcu a (c::q)
  else if c=40∨c=41∨c=61 then (4,a,[c],0,()) else (5,a,[c],0,())
def zat (p:RSt) (e:Int):RSt:=if p.e=0 then (p.1,p.2.1,p.nodes,e,RTk.at p.t,()) else p
def zbB (p:RSt):RSt:=if p.e=0 then (p.1,zck p.1 (RTk.at p.t+((RTk.text p.t).length:Nat)+(if RTk.kind p.t=2 then 1 else 0)),p.2.2) else p
def rIs (p:RSt) (w:List UInt8):Bool:=(p.e==0)&&((RTk.kind p.t==1)||(RTk.kind p.t==4))&&decide (RTk.text p.t=w)
def zb5 (p:RSt) (w:List UInt8):RSt:=zbB (if rIs p w then p else zat p 3)
def zd7 (p:RSt):RSt:=(p.1,p.2.1,p.nodes+1,p.2.2.2)
def zaz (p:RSt):RSt:=zbB (zd7 (if 64≤p.nodes then zat p 2 else p))
def zaF (p:RSt) (lo hi:Int):Int×RSt:=
 let p1:=if RTk.kind p.t=3 then p else zat p 3
 let p2:=if RTk.n p.t < lo∨hi < RTk.n p.t then zat p1 1 else p1
 (RTk.n p.t,zbB p2)
def ziM (p:RSt) (lo hi:Int) (l:List Int):Int×RSt:=
 let p1:=if RTk.kind p.t=3 then p else zat p 3
 let p2:=if 64≤l.length then zat p1 2 else p1
 let p3:=if (l≠ []∧RTk.n p.t≤l.getLast?.getD 0)∨(lo < 0∧RTk.n p.t=0) then zat p2 1 else p2
 zaF p3 lo hi
def zcW (lo hi:Int):Nat->RSt->List Int->List Int×RSt
 |0,p,l=>(l,p)
 |k+1,p,l=>if p.e=0∧(l=[]∨rIs p zbu=false) then
   let x:=ziM p lo hi l
   zcW lo hi k x.2 (l++ [x.1])
  else (l,p)
def zdi (p:RSt) (lo hi:Int):List Int×RSt:=
 let x:=zcW lo hi 66 (zb5 p zc6) []
 (x.1,zb5 x.2 zbu)
def zbO (p:RSt):Int×RSt:=if rIs p zdv then (1,zbB p) else (0,zb5 p zfj)
def rCal (p:RSt):Int×RSt:=zaF p 0 2
def zd5:LeafW->RSt->Nd×RSt
 | .days,p=>
  let x:=zaF p 1 zbt
  let y:=zaF x.2 0 zbt
  ((1,0,0,0,x.1,y.1,[],[],()),y.2)
 | .years,p=>
  let c:=rCal p
  let x:=zaF c.2 1 400
  let y:=zaF x.2 0 (x.1 - 1)
  ((2,c.1,0,0,x.1,y.1,[],[],()),y.2)
 | .months,p=>
  let c:=rCal p
  let l:=zdi c.2 1 16
  ((3,c.1,0,0,0,0,l.1,[],()),l.2)
 | .monthdays,p=>
  let c:=rCal p
  let l:=zdi c.2 (-40) 40
  ((4,c.1,0,0,0,0,l.1,[],()),l.2)
 | .weekdays,p=>
  let l:=zdi p 0 6
  ((5,0,0,0,0,0,l.1,[],()),l.2)
 | .weeks,p=>
  let c:=rCal p
  let l:=zdi c.2 1 54
  ((6,c.1,0,0,0,0,l.1,[],()),l.2)
 | .nth,p=>
  let c:=rCal p
  let p1:=if RTk.kind c.2.t=3∧RTk.n c.2.t=0 then zat c.2 1 else c.2
  let x:=zaF p1 (-60) 60
  let y:=zaF x.2 0 6
  let z:=zbO y.2
  ((7,c.1,z.1,0,x.1,y.1,[],[],()),z.2)
def zd6 (p:RSt):Nd×RSt:=match zdw (RTk.text p.t) with
 |none=>(zNd,zat p 3)
 |some w=>zd5 w (zaz p)
def zbZ:SufW->RSt->Nd×RSt
 | .shift,p=>let x:=zaF p (-zbt) zbt;((11,0,0,0,x.1,0,[],[],()),x.2)
 | .from_,p=>let x:=zaF p 0 zbt;((12,0,0,0,x.1,0,[],[],()),x.2)
 | .until_,p=>let x:=zaF p 0 zbt;((13,0,0,0,x.1,0,[],[],()),x.2)
 | .also,p=>let l:=zdi p 0 zbt;((14,0,0,0,0,0,l.1,[],()),l.2)
 | .except_,p=>let l:=zdi p 0 zbt;((15,0,0,0,0,0,l.1,[],()),l.2)
 | .pos,p=>
  let c:=rCal p
  let m:=zbO c.2
  let l:=zdi m.2 (-400) 400
  ((16,c.1,0,0,0,m.1,l.1,[],()),l.2)
 | .behind,p=>
  let x:=zaF p 1 400
  ((17,0,0,0,x.1,0,[],[],()),zb5 x.2 wOf)
def two (k:Int):Bool:=(k==8)||(k==9)||(k==10)||(k==17)
def zcy (by_:Int) (n:Nd):Nd:=(n.1,n.2.1,(if 8≤n.1∧n.1≤17 then n.2.2.1+by_ else n.2.2.1),(if two n.1 then n.2.2.2.1+by_ else n.2.2.2.1),n.2.2.2.2)
def zdC (r:List Nd) (by_:Int):List Nd:=r.map (zcy by_)
def ziN (r:List Nd) (n:Nd):List Nd:=r++ [setL n ((r.length:Nat) - 1)]
def zeg (r s:List Nd) (n:Nd):List Nd:=r++zdC s (r.length:Nat)++ [zel n ((r.length:Nat) - 1) ((r.length:Nat)+(s.length:Nat) - 1)]
inductive RMd where
 |bin (l:Nat)
 |chain
 |prim
def zdN (rec:RSt->List Nd×RSt) (l:Nat):Nat->List Nd->RSt->List Nd×RSt
 |0,r,p=>(r,p)
 |k+1,r,p=>if rIs p (opW (l - 1)) then
   let b:=rec (zaz p)
   zdN rec l k (zeg r b.1 (opK (l - 1),zNd.2)) b.2
  else (r,p)
def zbY (rec:RSt->List Nd×RSt) (w:SufW) (r:List Nd) (p:RSt):List Nd×RSt:=match w with
 | .behind=>
  let x:=zbZ .behind (zaz p)
  let b:=rec x.2
  (zeg r b.1 x.1,b.2)
 |w=>
  let x:=zbZ w (zaz p)
  (ziN r x.1,x.2)
def zbs (rec:RSt->List Nd×RSt):Nat->List Nd->RSt->List Nd×RSt
 |0,r,p=>(r,p)
 |k+1,r,p=>if p.e=0∧RTk.kind p.t=1 then (match sufW (RTk.text p.t) with
   |none=>(r,p)
   |some w=>
    let x:=zbY rec w r p
    zbs rec k x.1 x.2)
  else (r,p)
def zkN (rec:RMd->RSt->List Nd×RSt) (p:RSt):List Nd×RSt:=
 if p.e=0 then
  if rIs p zc6 then
   let r:=rec (.bin 1) (zbB p)
   (r.1,zb5 r.2 zbu)
  else if RTk.kind p.t=2 then ([(18,0,0,0,0,0,[],RTk.text p.t,())],zaz (if 32 < (RTk.text p.t).length then zat p 2 else p))
  else if RTk.kind p.t=1 then
   let x:=zd6 p
   ([x.1],x.2)
  else ([],zat p 3)
 else ([],p)
def rPrs:Nat->RMd->RSt->List Nd×RSt
 |0,_,p=>([],p)
 |k+1,.bin l,p=>if 3 < l then rPrs k .chain p else
  let r:=rPrs k (.bin (l+1)) p
  zdN (rPrs k (.bin (l+1))) l 5000 r.1 r.2
 |k+1,.chain,p=>
  let r:=rPrs k .prim p
  zbs (rPrs k .prim) 5000 r.1 r.2
 |k+1,.prim,p=>zkN (rPrs k) p
def zjH:Nat:=40000
def zcx (p:RSt):List Nd×RSt:=
 let r:=rPrs zjH (.bin 1) p
 (r.1,if RTk.kind r.2.t=0 then r.2 else zat r.2 3)
def zaJ (s:List UInt8):RSt:=(s,zck s 0,0,0,0,())
def zdq (s:List UInt8):List Nd×Int×Int:=
 if 4000 < s.length then ([],0,2) else
 let r:=zcx (zaJ s)
 if r.2.e=0 then (r.1,0,0) else ([],r.2.at,r.2.e)
set_option maxRecDepth 10000
theorem zjj {α:Type} {l m:List α} {z:α} {j:Nat}:(l++m).getD (l.length+j) z=m.getD j z:=by
 rw[zR,zR,qB (Nat.le_add_right ..),Nat.add_sub_cancel_left]
theorem zsk {n:Nd} (h:zbI n=true):(ndS n).length≤32:=by
 obtain⟨_,_,_,h,_⟩:=zaS h;unfold zjQ at h;cases hk:(ndK n==18) with
 |true=>
  rw[hk]at h;have h:zfh (ndS n)=true:=h;unfold zfh at h;simp only[zd,decide_eq_true_iff]at h;exact h.1.2
 |false=>
  rw[hk]at h;have h:=of_decide_eq_true h;rw[h];decide
theorem zlN {r:List Nd} (h:zdA r=0):wfS r=true:=by
 unfold zdA at h;split at h
 ·cases h
 ·split at h
  ·assumption
  ·cases h
def cTwo:Ctr:={ args:=[i64],pre:=fun _=>[],res:=.bool,own:=none,out:=fun x=>two x.1 }
theorem two_ok:yB Tryz.prog gmG 94 cTwo:=by
 refine zap (K:=gmK) zaC Tryz.func94 rfl rfl Tryz.call94 rfl (by decide) (by intro h;cases h) ?_;rintro w0 X hX ⟨(k:Int),_⟩ hp;change AWP _ _ _ _ _ ⟨[(0,⟨i64,k⟩)],[],0⟩ _;refine za (za ?_);refine zaa hX zaC rfl ?_ ?_
 ·trivial
 refine za (za ?_);refine zaa hX zaC rfl ?_ ?_
 ·repeat'(first|exact trivial|assumption|(refine⟨?_,?_⟩)|(intro _)|exact zb rfl|exact zn _|(simp_all [allP];done))
 refine zm ⟨.inr rfl,zas rfl trivial rfl rfl ?_⟩;show (bif (bif (bif (k==8) then true else (k==9)) then true else (k==10)) then true else (k==17))=two k;rw[b_or,b_or,b_or];rfl
theorem bufN {te:zp} {x y:List Nd} (h:x=y):some (OObj.buf te nd x)=some (OObj.buf te nd y):=by rw[h]
def cOver:Ctr:={ args:=[.slice nd,nd],pre:=fun x=>[zf x.1≤1000000],res:=.slice nd,own:=none,out:=fun x=>ziN x.1 x.2.1 }
theorem ztU:yB Tryz.prog gmG 97 cOver:=by
 refine zap (K:=gmK) zaC Tryz.func97 rfl rfl Tryz.call97 rfl (by decide) (by intro h;cases h) ?_;rintro w0 X hX ⟨(r:List Nd),(n:Nd),_⟩ hp;have hl:r.length≤1000000:=hp;change AWP _ _ _ _ _ ⟨[(0,⟨.slice nd,r⟩),(1,⟨nd,n⟩)],[],0⟩ _;have i1:inR .i64 (((r.length:Nat):Int) - 1):=zaq (by omega) (by omega);have i2:0+r.length≤1000000000:=by omega
 have i3:zf ([]++r)+1≤1000000000:=by rw[yV];omega
 refine za (za ?_);refine zaa hX zaC rfl ?_ ?_
 ·trivial
 refine za (za ?_);refine zaa hX zaC rfl ?_ ?_
 ·exact i1
 refine za (za ?_);refine zaa hX zaC rfl ?_ ?_
 ·exact i2
 refine za (za ?_);refine zaa hX zaC rfl ?_ ?_
 ·exact i3
 refine qS hX 4 ?_;refine zm ⟨.inr rfl,zas rfl trivial rfl rfl ?_⟩;rfl
def ztd:Ctr:={ args:=[.slice nd,i64],pre:=fun x=>[zf x.1≤1000000,0≤x.2.1,x.2.1≤1000000,∀ n∈(x.1:List Nd),(-1000000≤ndL n∧ndL n≤1000000)∧(-1000000≤ndR n∧ndR n≤1000000)],res:=.slice nd,own:=none,out:=fun x=>zdC x.1 x.2.1 }
def kMvd:Kn:={ gmK with C:=[(94,cTwo)] }
theorem zdn:KnOk Tryz.prog gmG kMvd:=zaC.with (.cons two_ok .nil)
theorem zrT:yB Tryz.prog gmG 148 ztd:=by
 refine zap (K:=kMvd) zdn Tryz.func148 rfl rfl Tryz.call148 rfl (by decide) (by intro h;cases h) ?_;rintro w0 X hX ⟨(r:List Nd),(b:Int),_⟩ hp;obtain⟨hl,b0,b1,hn⟩:r.length≤1000000∧0≤b∧b≤1000000∧∀ n∈r,(-1000000≤ndL n∧ndL n≤1000000)∧(-1000000≤ndR n∧ndR n≤1000000):=hp;change AWP _ _ _ _ _ ⟨[(0,⟨.slice nd,r⟩),(1,⟨i64,b⟩)],[],0⟩ _;have i2:0+r.length≤1000000000:=by omega
 refine za (za ?_);refine zaa hX zdn rfl ?_ ?_
 ·trivial
 refine za (za ?_);refine zaa hX zdn rfl ?_ ?_
 ·exact i2
 refine za (za ?_);refine zaa hX zdn rfl ?_ ?_
 ·trivial
 (repeat(first|apply zae|apply zab|apply zac|apply zad));refine yD (ι:=Nat) (fun i=>⟨[(1,⟨i64,b⟩),(5,⟨.obuf nd,(0:Nat)⟩),(6,⟨i64,(i:Int)⟩)],[(0,some (.buf 73 nd ((r.take i).map (zcy b)++r.drop i)))],1⟩) (fun i=>i≤r.length) (fun i=>r.length - i) 0 (zk _) ⟨⟨rfl,rfl,rfl,trivial⟩,⟨bufN ?_,trivial⟩,rfl,rfl⟩ ?_
 ·rfl
 intro i hi;have hlen:((r.take i).map (zcy b)++r.drop i).length=r.length:=by rw[zh,jg,yW,ya];omega
 refine za (za ?_);refine zaa hX zdn rfl ?_ ?_
 ·trivial
 refine zaf rfl (fun hb=>?_) (fun hb=>?_)
 ·have hb:decide ((i:Int) < ((((r.take i).map (zcy b)++r.drop i).length:Nat):Int))=true:=hb;have hb:=of_decide_eq_true hb;rw[hlen]at hb;have hlt:i < r.length:=by omega
  have z0:(0:Int)≤(i:Int):=by omega
  have hdr:r.drop i=r[i]::r.drop (i+1):=zI hlt;have hpl:((r.take i).map (zcy b)).length=i:=by rw[jg,yW];omega
  obtain⟨⟨q1,q2⟩,⟨q3,q4⟩⟩:=hn r[i] (xU hlt);rw[hdr]at hlen ⊢;have htk:(r.take (i+1)).map (zcy b)=(r.take i).map (zcy b)++ [zcy b r[i]]:=by rw[zE hlt,xO];rfl
  generalize (r.take i).map (zcy b)=p at *;generalize hdq:r.drop (i+1)=q at *;generalize r[i]=n at *;have z1:(i:Int) < (((p++n::q).length:Nat):Int):=by rw[hlen];omega
  have z2:((i:Int)).toNat < (p++n::q).length:=by rw[hlen];omega
  have hget:(p++n::q).getD ((i:Int)).toNat zNd=n:=by
   have:=zjj (l:=p) (m:=n::q) (z:=zNd) (j:=0);rw[zy,show i=p.length+0 by omega,this];rfl
  have hset:∀ x,(p++n::q).set ((i:Int)).toNat x=p++x::q:=fun x=>by
   rw[zy,jW _ _ (by omega),show i - p.length=0 by omega];rfl
  have i3:inR .i64 (ndL n+b):=zaq (by omega) (by omega);have i4:inR .i64 (ndR n+b):=zaq (by omega) (by omega);have i3':inR .i64 (ndL ((p++n::q).getD ((i:Int)).toNat zNd)+b):=by rw[hget];exact i3
  refine za (za ?_);refine zaa hX zdn rfl ?_ ?_
  ·repeat'(first|exact trivial|assumption|exact z0|exact z1|exact z2|(refine⟨?_,?_⟩)|(intro _)|exact zb rfl|exact zn _|(simp_all [allP];done))
  refine AWP.viaQ (σ':=⟨[(1,⟨i64,b⟩),(5,⟨.obuf nd,(0:Nat)⟩),(6,⟨i64,(i:Int)⟩)],[(0,some (.buf 73 nd (p++(if 8≤ndK n∧ndK n≤17 then setL n (ndL n+b) else n)::q)))],1⟩) ?_ ?_
  ·have hq:(bif decide (ndK ((p++n::q).getD ((i:Int)).toNat zNd)≥8) then decide (ndK ((p++n::q).getD ((i:Int)).toNat zNd)≤17) else false)=decide (8≤ndK n∧ndK n≤17):=by
    rw[hget,zc2,yb,zd,decide_eq_true_iff,decide_eq_true_iff,decide_eq_true_iff]
   refine zaf rfl (fun hc=>?_) (fun hc=>?_)
   ·have hc:=of_decide_eq_true (hq.symm.trans hc);refine za (za ?_);refine zaa hX zdn rfl ?_ ?_
    ·repeat'(first|exact trivial|assumption|exact z0|exact z1|exact z2|exact i3'|(refine⟨?_,?_⟩)|(intro _)|exact zb rfl|exact zn _|(simp_all [allP];done))
    refine⟨⟨rfl,rfl,rfl,trivial⟩,⟨bufN ?_,trivial⟩,rfl,rfl⟩;refine (hset _).trans ?_;rw[if_pos hc];show p++(setL ((p++n::q).getD ((i:Int)).toNat zNd) (ndL ((p++n::q).getD ((i:Int)).toNat zNd)+b))::q=_;rw[hget]
   ·have hc:=of_decide_eq_false (hq.symm.trans hc);apply zab;rw[if_neg hc];exact⟨⟨rfl,rfl,rfl,trivial⟩,⟨rfl,trivial⟩,rfl,rfl⟩
  generalize hn1:(if 8≤ndK n∧ndK n≤17 then setL n (ndL n+b) else n)=n1;have hK:ndK n1=ndK n:=by rw[<-hn1];split<;>rfl
  have hR:ndR n1=ndR n:=by rw[<-hn1];split<;>rfl
  have hlen1:(p++n1::q).length=r.length:=by rw[<-hlen];simp
  have y1:(i:Int) < (((p++n1::q).length:Nat):Int):=by rw[hlen1];omega
  have y2:((i:Int)).toNat < (p++n1::q).length:=by rw[hlen1];omega
  have hget1:(p++n1::q).getD ((i:Int)).toNat zNd=n1:=by
   have:=zjj (l:=p) (m:=n1::q) (z:=zNd) (j:=0);rw[zy,show i=p.length+0 by omega,this];rfl
  have hset1:∀ x,(p++n1::q).set ((i:Int)).toNat x=p++x::q:=fun x=>by
   rw[zy,jW _ _ (by omega),show i - p.length=0 by omega];rfl
  have i4':inR .i64 (ndR ((p++n1::q).getD ((i:Int)).toNat zNd)+b):=by rw[hget1,hR];exact i4
  refine za (za ?_);refine zaa hX zdn rfl ?_ ?_
  ·repeat'(first|exact trivial|assumption|exact z0|exact y1|exact y2|(refine⟨?_,?_⟩)|(intro _)|exact zb rfl|exact zn _|(simp_all [allP];done))
  have hmv:zcy b n=if two (ndK n)=true then zel n1 (ndL n1) (ndR n1+b) else n1:=by
   rw[<-hn1];unfold zcy;obtain⟨k,c,L,R,rest⟩:=n;by_cases h8:8≤k∧k≤17
   ·rw[if_pos h8,if_pos (c:=8≤ndK (k,c,L,R,rest)∧ndK (k,c,L,R,rest)≤17) h8];cases ht:two k with
    |true=>rw[if_pos (c:=two (ndK (k,c,L,R,rest))=true) ht];rfl
    |false=>rw[if_neg (c:=two (ndK (k,c,L,R,rest))=true) (by show ¬ two k=true;rw[ht];decide)];rfl
   ·rw[if_neg h8,if_neg (c:=8≤ndK (k,c,L,R,rest)∧ndK (k,c,L,R,rest)≤17) h8];cases ht:two k with
    |true=>rw[if_pos (c:=two (ndK (k,c,L,R,rest))=true) ht];rfl
    |false=>rw[if_neg (c:=two (ndK (k,c,L,R,rest))=true) (by show ¬ two k=true;rw[ht];decide)];rfl
  have hq:two (ndK ((p++n1::q).getD ((i:Int)).toNat zNd))=two (ndK n):=by rw[hget1,hK]
  refine zaf rfl (fun hc=>?_) (fun hc=>?_)
  ·have hc:=hq.symm.trans hc;refine za (za ?_);refine zaa hX zdn rfl ?_ ?_
   ·repeat'(first|exact trivial|assumption|exact z0|exact y1|exact y2|exact i4'|(refine⟨?_,?_⟩)|(intro _)|exact zb rfl|exact zn _|(simp_all [allP];done))
   refine za (za ?_);refine zaa hX zdn rfl ?_ ?_
   ·exact zaZ (by omega)
   refine⟨i+1,hlt,by omega,⟨rfl,rfl,zdM _,trivial⟩,⟨bufN ?_,trivial⟩,rfl,rfl⟩;refine (hset1 _).trans ?_;rw[htk,hmv,if_pos hc,zz,hdq];show p++(zel ((p++n1::q).getD ((i:Int)).toNat zNd) (ndL ((p++n1::q).getD ((i:Int)).toNat zNd)) (ndR ((p++n1::q).getD ((i:Int)).toNat zNd)+b))::q=_;rw[hget1];rfl
  ·have hc:=hq.symm.trans hc;apply zab;refine za (za ?_);refine zaa hX zdn rfl ?_ ?_
   ·exact zaZ (by omega)
   refine⟨i+1,hlt,by omega,⟨rfl,rfl,zdM _,trivial⟩,⟨bufN ?_,trivial⟩,rfl,rfl⟩;rw[htk,hmv,if_neg (by rw[hc];decide),zz,hdq];rfl
 ·have hb:decide ((i:Int) < ((((r.take i).map (zcy b)++r.drop i).length:Nat):Int))=false:=hb;have hb:=of_decide_eq_false hb;rw[hlen]at hb;obtain rfl:i=r.length:=by omega
  apply zad;refine qS hX 5 ?_;refine za (za ?_);refine zaa hX zdn rfl ?_ ?_
  ·trivial
  refine zm ⟨.inr rfl,zas rfl trivial rfl rfl ?_⟩;show (r.take r.length).map (zcy b)++r.drop r.length=zdC r b;rw[xe,jA,z7];rfl
def zuZ:Ctr:={ args:=[.slice nd,.slice nd,nd],pre:=fun x=>[1≤zf x.1,zf x.1≤100000,zf x.2.1≤100000,∀ n∈(x.2.1:List Nd),(-1000000≤ndL n∧ndL n≤1000000)∧(-1000000≤ndR n∧ndR n≤1000000)],res:=.slice nd,own:=none,out:=fun x=>zeg x.1 x.2.1 x.2.2.1 }
def kBth:Kn:={ gmK with C:=[(148,ztd)] }
theorem zfG:KnOk Tryz.prog gmG kBth:=zaC.with (.cons zrT .nil)
theorem zqR:yB Tryz.prog gmG 95 zuZ:=by
 refine zap (K:=kBth) zfG Tryz.func95 rfl rfl Tryz.call95 rfl (by decide) (by intro h;cases h) ?_;rintro w0 X hX ⟨(a:List Nd),(c:List Nd),(n:Nd),_⟩ hp;obtain⟨h1,hl,hl2,hn⟩:1≤a.length∧a.length≤100000∧c.length≤100000∧∀ n∈c,(-1000000≤ndL n∧ndL n≤1000000)∧(-1000000≤ndR n∧ndR n≤1000000):=hp;change AWP _ _ _ _ _ ⟨[(0,⟨.slice nd,a⟩),(1,⟨.slice nd,c⟩),(2,⟨nd,n⟩)],[],0⟩ _;have i1:inR .i64 (((a.length:Nat):Int) - 1):=zaq (by omega) (by omega);have i2:inR .i64 (((a.length:Nat):Int)+((c.length:Nat):Int)):=zaq (by omega) (by omega);have i3:inR .i64 (((a.length:Nat):Int)+((c.length:Nat):Int) - 1):=zaq (by omega) (by omega);have i4:0+a.length≤1000000000:=by omega
 have i5:c.length≤1000000:=by omega
 have i6:(0:Int)≤((a.length:Nat):Int):=by omega
 have i7:((a.length:Nat):Int)≤1000000:=by omega
 have hml:(zdC c ((a.length:Nat):Int)).length=c.length:=by unfold zdC;rw[jg]
 have i8:zf ([]++a)+(zdC c ((a.length:Nat):Int)).length≤1000000000:=by rw[yV];omega
 have i9:zf ([]++a++zdC c ((a.length:Nat):Int))+1≤1000000000:=by rw[yV,zh];omega
 refine za (za ?_);refine zaa hX zfG rfl ?_ ?_
 ·trivial
 refine za (za ?_);refine zaa hX zfG rfl ?_ ?_
 ·exact i1
 refine za (za ?_);refine zaa hX zfG rfl ?_ ?_
 ·exact⟨i2,i3⟩
 refine za (za ?_);refine zaa hX zfG rfl ?_ ?_
 ·exact i4
 refine za (za ?_);refine zaa hX zfG rfl ?_ ?_
 ·exact⟨i5,i6,i7,hn,i8⟩
 refine za (za ?_);refine zaa hX zfG rfl ?_ ?_
 ·exact i9
 refine qS hX 6 ?_;refine zm ⟨.inr rfl,zas rfl trivial rfl rfl ?_⟩;rfl
theorem zfA {a:Int} (ha:zcn a):∀ x∈ [a],zcn x:=fun x hx=>by rw[zw]at hx;subst hx;exact ha
theorem numL2 {a b:Int} (ha:zcn a) (hb:zcn b):∀ x∈ [a,b],zcn x:=fun x hx=>by
 rcases zP.1 hx with rfl|hx
 ·exact ha
 ·exact zfA hb x hx
theorem ztX {a b c:Int} (ha:zcn a) (hb:zcn b) (hc:zcn c):∀ x∈ [a,b,c],zcn x:=fun x hx=>by
 rcases zP.1 hx with rfl|hx
 ·exact ha
 ·exact numL2 hb hc x hx
def hLf:List (zO×HCtr):=[(100,cPut),(150,znD)]
theorem zea:HsOk Tryz.prog gmH hLf:=.cons zpD <| .cons zm8 .nil
def kLf:Kn:={ gmK with C:=[(151,zqI)] }
theorem zaX:KnOk Tryz.prog gmH kLf:=zak.with (.cons zo6 .nil)
theorem zd3 (n:Int):(zcS n).length≤10:=by
 unfold zcS;split
 ·decide
 ·decide
theorem cat3 (a b c:List UInt8):(a++b++c:List UInt8)=a++(b++c):=zz a b c
@[reducible] def zqN:HCtr:=hW [nd] (fun x xs=>[zf x.2.1+10000≤1000000000,zlI xs.1,1≤ndK xs.1,ndK xs.1≤7∨ndK xs.1=18]) fun x xs=>zeN xs.1
theorem zr5:zaH Tryz.prog gmH 103 zqN:=by
 refine zav (K:=_) zaX Tryz.func103 rfl rfl (zcL rfl) Tryz.call103 rfl (zb rfl) (zd1 prT [107]) ?_;rintro w0 ⟨G,O,K,fix,D,ρ,B⟩ ty hX hG hK hρ hD hinv ⟨(b:Bool),(bf:List UInt8),(r:List Nd),⟨⟩⟩ ⟨(n:Nd),⟨⟩⟩ hp;obtain rfl:G=gmH:=hG;obtain rfl:K=1:=hK;obtain rfl:ρ=none:=hρ;obtain rfl:D=[]:=hD;have hI:=fun w R hR hw=>(⟨zaN (ty:=ty) hX rfl hinv.1 (ty':=ty) w R hR hw,hinv.2⟩:bInv prT [107] w R ty);obtain⟨hlen,⟨⟨hC,hN,hM⟩,hI',hil,hnl,hsc,-⟩,hk0,hkk⟩:bf.length+10000≤1000000000∧zlI n∧1≤ndK n∧(ndK n≤7∨ndK n=18):=hp;have hq0:bf.length+200+19 * 3≤1000000000:=by omega
 change AWP _ _ _ _ _ ⟨[(0,⟨.hptr,((0:Nat),(0:Nat))⟩),(1,⟨nd,n⟩)],wE ty b bf r,2⟩ (wQ _ zqN ty (.ok ((),(true,((bf++zeN n:List UInt8),(r,()))))));unfold zeN;refine za (za ?_);refine zaa hX zaX rfl ?_ ?_
 ·trivial
 refine za (za ?_);refine zaa hX zaX rfl ?_ ?_
 ·trivial
 apply zac;refine zam (σ':=⟨[(0,⟨.hptr,((0:Nat),(0:Nat))⟩),(3,⟨.optr nd,⟨2,nd,.here⟩⟩),(5,⟨i64,ndK n⟩)],(2,some (.box nd n))::wE ty b bf r,3⟩) ⟨⟨rfl,rfl,rfl,trivial⟩,⟨rfl,rfl,rfl,trivial⟩,rfl,by cases b<;>rfl⟩ ?_;refine za (za ?_);refine zaa hX zaX rfl ?_ ?_
 ·trivial
 refine zaf rfl (fun hb=>?_) (fun hb=>?_)
 ·have hb:(ndK n==1)=true:=hb;have hk:=beq_iff_eq.1 hb;rw[if_pos hk];cases b
  all_goals
   (repeat(first|apply zae|apply zab|apply zac|apply zad));refine zah ?_;refine yl 6 hX zaX zea rfl trivial rfl rfl ⟨(by show zf bf+zf zfN+19 * 2≤1000000000;have:zf zfN≤20:=(by decide);omega),(numL2 hN hM)⟩ hI ?_;exact yf ⟨.inl rfl,⟨_,rfl,u8,1,_,rfl,rfl,rfl⟩,za9 (by decide) rfl rfl trivial rfl⟩
 have hb:(ndK n==1)=false:=hb;have hk1:ndK n≠1:=fun e=>by rw[beq_iff_eq.2 e]at hb;cases hb
 rw[if_neg hk1];refine za (za ?_);refine zaa hX zaX rfl ?_ ?_
 ·trivial
 refine zaf rfl (fun hb=>?_) (fun hb=>?_)
 ·have hb:(ndK n==2)=true:=hb;have hk:=beq_iff_eq.1 hb;rw[if_pos hk];cases b
  all_goals
   (repeat(first|apply zae|apply zab|apply zac|apply zad));refine zah ?_;refine yl 8 hX zaX zea rfl trivial rfl rfl ⟨(by show zf bf+zf zdO+19 * 3≤1000000000;have:zf zdO≤20:=(by decide);omega),(ztX hC hN hM)⟩ hI ?_;exact yf ⟨.inl rfl,⟨_,rfl,u8,1,_,rfl,rfl,rfl⟩,za9 (by decide) rfl rfl trivial rfl⟩
 have hb:(ndK n==2)=false:=hb;have hk2:ndK n≠2:=fun e=>by rw[beq_iff_eq.2 e]at hb;cases hb
 rw[if_neg hk2];refine za (za ?_);refine zaa hX zaX rfl ?_ ?_
 ·trivial
 refine zaf rfl (fun hb=>?_) (fun hb=>?_)
 ·have hb:(ndK n==3)=true:=hb;have hk:=beq_iff_eq.1 hb;rw[if_pos hk];refine yO (σ':=⟨[(0,⟨.hptr,((0:Nat),(0:Nat))⟩),(3,⟨.optr nd,⟨2,nd,.here⟩⟩)],(2,some (.box nd n))::wE ty true ((bf++putS zbM [ndC n]:List UInt8)) r,3⟩) ?_ ?_
  ·cases b
   all_goals
    (repeat(first|apply zae|apply zab|apply zac|apply zad));refine zah ?_;refine yl 4 hX zaX zea rfl trivial rfl rfl ⟨(by show zf bf+zf zbM+19 * 1≤1000000000;have:zf zbM≤20:=(by decide);omega),(zfA hC)⟩ hI ?_;exact yf ⟨⟨rfl,rfl,trivial⟩,⟨rfl,rfl,rfl,trivial⟩,rfl,rfl⟩
  have hl2:zf (bf++putS zbM [ndC n]:List UInt8)+20 * zf (ndI n)+1≤1000000000:=by
   have:=zbP (zfA hC);have hw:zf zbM≤20:=by decide
   simp only[putS,zh,zr,zX]at this ⊢;omega
  rw[show (bf++(putS zbM [ndC n]++zcD (ndI n)):List UInt8)=bf++putS zbM [ndC n]++zcD (ndI n) from (cat3 _ _ _).symm];(repeat(first|apply zae|apply zab|apply zac|apply zad));refine zah ?_;refine yl 3 hX zaX zea rfl trivial rfl rfl ⟨hl2,hI'⟩ hI ?_;exact yf ⟨.inl rfl,⟨_,rfl,u8,1,_,rfl,rfl,rfl⟩,za9 (by decide) rfl rfl trivial rfl⟩
 have hb:(ndK n==3)=false:=hb;have hk3:ndK n≠3:=fun e=>by rw[beq_iff_eq.2 e]at hb;cases hb
 rw[if_neg hk3];refine za (za ?_);refine zaa hX zaX rfl ?_ ?_
 ·trivial
 refine zaf rfl (fun hb=>?_) (fun hb=>?_)
 ·have hb:(ndK n==4)=true:=hb;have hk:=beq_iff_eq.1 hb;rw[if_pos hk];refine yO (σ':=⟨[(0,⟨.hptr,((0:Nat),(0:Nat))⟩),(3,⟨.optr nd,⟨2,nd,.here⟩⟩)],(2,some (.box nd n))::wE ty true ((bf++putS zaW [ndC n]:List UInt8)) r,3⟩) ?_ ?_
  ·cases b
   all_goals
    (repeat(first|apply zae|apply zab|apply zac|apply zad));refine zah ?_;refine yl 4 hX zaX zea rfl trivial rfl rfl ⟨(by show zf bf+zf zaW+19 * 1≤1000000000;have:zf zaW≤20:=(by decide);omega),(zfA hC)⟩ hI ?_;exact yf ⟨⟨rfl,rfl,trivial⟩,⟨rfl,rfl,rfl,trivial⟩,rfl,rfl⟩
  have hl2:zf (bf++putS zaW [ndC n]:List UInt8)+20 * zf (ndI n)+1≤1000000000:=by
   have:=zbP (zfA hC);have hw:zf zaW≤20:=by decide
   simp only[putS,zh,zr,zX]at this ⊢;omega
  rw[show (bf++(putS zaW [ndC n]++zcD (ndI n)):List UInt8)=bf++putS zaW [ndC n]++zcD (ndI n) from (cat3 _ _ _).symm];(repeat(first|apply zae|apply zab|apply zac|apply zad));refine zah ?_;refine yl 3 hX zaX zea rfl trivial rfl rfl ⟨hl2,hI'⟩ hI ?_;exact yf ⟨.inl rfl,⟨_,rfl,u8,1,_,rfl,rfl,rfl⟩,za9 (by decide) rfl rfl trivial rfl⟩
 have hb:(ndK n==4)=false:=hb;have hk4:ndK n≠4:=fun e=>by rw[beq_iff_eq.2 e]at hb;cases hb
 rw[if_neg hk4];refine za (za ?_);refine zaa hX zaX rfl ?_ ?_
 ·trivial
 refine zaf rfl (fun hb=>?_) (fun hb=>?_)
 ·have hb:(ndK n==5)=true:=hb;have hk:=beq_iff_eq.1 hb;rw[if_pos hk];refine yO (σ':=⟨[(0,⟨.hptr,((0:Nat),(0:Nat))⟩),(3,⟨.optr nd,⟨2,nd,.here⟩⟩)],(2,some (.box nd n))::wE ty true ((bf++putS za7 []:List UInt8)) r,3⟩) ?_ ?_
  ·cases b
   all_goals
    (repeat(first|apply zae|apply zab|apply zac|apply zad));refine zah ?_;refine yl 1 hX zaX zea rfl trivial rfl rfl ⟨(by show zf bf+zf za7+19 * 0≤1000000000;have:zf za7≤20:=(by decide);omega),(fun x hx=>by cases hx)⟩ hI ?_;exact yf ⟨⟨rfl,rfl,trivial⟩,⟨rfl,rfl,rfl,trivial⟩,rfl,rfl⟩
  have hl2:zf (bf++putS za7 []:List UInt8)+20 * zf (ndI n)+1≤1000000000:=by
   have:=zbP (l:=[]) (fun x hx=>by cases hx);have hw:zf za7≤20:=by decide
   simp only[putS,zh,zr,zX]at this ⊢;omega
  rw[show (bf++(putS za7 []++zcD (ndI n)):List UInt8)=bf++putS za7 []++zcD (ndI n) from (cat3 _ _ _).symm];(repeat(first|apply zae|apply zab|apply zac|apply zad));refine zah ?_;refine yl 3 hX zaX zea rfl trivial rfl rfl ⟨hl2,hI'⟩ hI ?_;exact yf ⟨.inl rfl,⟨_,rfl,u8,1,_,rfl,rfl,rfl⟩,za9 (by decide) rfl rfl trivial rfl⟩
 have hb:(ndK n==5)=false:=hb;have hk5:ndK n≠5:=fun e=>by rw[beq_iff_eq.2 e]at hb;cases hb
 rw[if_neg hk5];refine za (za ?_);refine zaa hX zaX rfl ?_ ?_
 ·trivial
 refine zaf rfl (fun hb=>?_) (fun hb=>?_)
 ·have hb:(ndK n==6)=true:=hb;have hk:=beq_iff_eq.1 hb;rw[if_pos hk];refine yO (σ':=⟨[(0,⟨.hptr,((0:Nat),(0:Nat))⟩),(3,⟨.optr nd,⟨2,nd,.here⟩⟩)],(2,some (.box nd n))::wE ty true ((bf++putS zcP [ndC n]:List UInt8)) r,3⟩) ?_ ?_
  ·cases b
   all_goals
    (repeat(first|apply zae|apply zab|apply zac|apply zad));refine zah ?_;refine yl 4 hX zaX zea rfl trivial rfl rfl ⟨(by show zf bf+zf zcP+19 * 1≤1000000000;have:zf zcP≤20:=(by decide);omega),(zfA hC)⟩ hI ?_;exact yf ⟨⟨rfl,rfl,trivial⟩,⟨rfl,rfl,rfl,trivial⟩,rfl,rfl⟩
  have hl2:zf (bf++putS zcP [ndC n]:List UInt8)+20 * zf (ndI n)+1≤1000000000:=by
   have:=zbP (zfA hC);have hw:zf zcP≤20:=by decide
   simp only[putS,zh,zr,zX]at this ⊢;omega
  rw[show (bf++(putS zcP [ndC n]++zcD (ndI n)):List UInt8)=bf++putS zcP [ndC n]++zcD (ndI n) from (cat3 _ _ _).symm];(repeat(first|apply zae|apply zab|apply zac|apply zad));refine zah ?_;refine yl 3 hX zaX zea rfl trivial rfl rfl ⟨hl2,hI'⟩ hI ?_;exact yf ⟨.inl rfl,⟨_,rfl,u8,1,_,rfl,rfl,rfl⟩,za9 (by decide) rfl rfl trivial rfl⟩
 have hb:(ndK n==6)=false:=hb;have hk6:ndK n≠6:=fun e=>by rw[beq_iff_eq.2 e]at hb;cases hb
 rw[if_neg hk6];refine za (za ?_);refine zaa hX zaX rfl ?_ ?_
 ·trivial
 refine zaf rfl (fun hb=>?_) (fun hb=>?_)
 ·have hb:(ndK n==7)=true:=hb;have hk:=beq_iff_eq.1 hb;rw[if_pos hk];obtain⟨hs0,hs1⟩:=hsc hk;refine yO (σ':=⟨[(0,⟨.hptr,((0:Nat),(0:Nat))⟩),(3,⟨.optr nd,⟨2,nd,.here⟩⟩)],(2,some (.box nd n))::wE ty true ((bf++putS wNth [ndC n,ndN n,ndM n]:List UInt8)) r,3⟩) ?_ ?_
  ·cases b
   all_goals
    (repeat(first|apply zae|apply zab|apply zac|apply zad));refine zah ?_;refine yl 8 hX zaX zea rfl trivial rfl rfl ⟨(by show zf bf+zf wNth+19 * 3≤1000000000;have:zf wNth≤20:=(by decide);omega),(ztX hC hN hM)⟩ hI ?_;exact yf ⟨⟨rfl,rfl,trivial⟩,⟨rfl,rfl,rfl,trivial⟩,rfl,rfl⟩
  have hl2:zf (bf++putS wNth [ndC n,ndN n,ndM n]:List UInt8)+zf (zcS (ndL n))+19 * 0≤1000000000:=by
   have:=zbP (ztX hC hN hM);have hw:zf wNth≤20:=by decide
   have hs:=zd3 (ndL n);simp only[putS,zh,zr,zX]at this ⊢;omega
  rw[show (bf++(putS wNth [ndC n,ndN n,ndM n]++putS (zcS (ndL n)) []):List UInt8)=bf++putS wNth [ndC n,ndN n,ndM n]++putS (zcS (ndL n)) [] from (cat3 _ _ _).symm];(repeat(first|apply zae|apply zab|apply zac|apply zad));refine zah ?_;refine yl 4 hX zaX zea rfl ⟨hs0,hs1⟩ rfl rfl ⟨hl2,fun x hx=>by cases hx⟩ hI ?_;exact yf ⟨.inl rfl,⟨_,rfl,u8,1,_,rfl,rfl,rfl⟩,za9 (by decide) rfl rfl trivial rfl⟩
 have hb:(ndK n==7)=false:=hb;have hk7:ndK n≠7:=fun e=>by rw[beq_iff_eq.2 e]at hb;cases hb
 rw[if_neg hk7];refine za (za ?_);refine zaa hX zaX rfl ?_ ?_
 ·trivial
 refine zaf rfl (fun hb=>?_) (fun hb=>?_)
 ·have hb:(ndK n==18)=true:=hb;have hk:=beq_iff_eq.1 hb;rw[if_pos hk];have hcat:1+zf (ndS n)≤maxLen:=by unfold maxLen;omega
  have hl2:zf bf+zf (wAt++ndS n:List UInt8)+19 * 0≤1000000000:=by
   rw[zh];show _+(1+_)+_≤_;omega
  cases b
  all_goals
   (repeat(first|apply zae|apply zab|apply zac|apply zad));refine zah ?_;refine yl 4 hX zaX zea rfl hcat rfl rfl ⟨hl2,fun x hx=>by cases hx⟩ hI ?_;exact yf ⟨.inl rfl,⟨_,rfl,u8,1,_,rfl,rfl,rfl⟩,za9 (by decide) rfl rfl trivial rfl⟩
 have hb:(ndK n==18)=false:=hb;have hk18:ndK n≠18:=fun e=>by rw[beq_iff_eq.2 e]at hb;cases hb
 rw[if_neg hk18];exfalso;omega
def WfP (r:List Nd):Prop:=r.length≤1000∧∀ j:Nat,j < r.length->zlI (zax r j)∧(1≤ndK (zax r j)∧ndK (zax r j)≤18)∧(8≤ndK (zax r j)->ndK (zax r j)≤17->0≤ndL (zax r j)∧ndL (zax r j) < j)∧(8≤ndK (zax r j)->ndK (zax r j)≤10∨ndK (zax r j)=17->0≤ndR (zax r j)∧ndR (zax r j) < j)
@[reducible] def cOpd (k:Nat):HCtr:=hW [i64,i64] (fun x xs=>[WfP x.2.2.1,0≤xs.1,xs.1.toNat < k,xs.1.toNat < zf x.2.2.1,zf x.2.1+zf (opdF k x.2.2.1 xs.1 xs.2.1)+10000≤1000000000]) fun x xs=>opdF k x.2.2.1 xs.1 xs.2.1
@[reducible] def zsC (k:Nat):HCtr:=hW [nd] (fun x xs=>[WfP x.2.2.1,zlI xs.1,11≤ndK xs.1,ndK xs.1≤17,ndK xs.1=17->0≤ndR xs.1∧(ndR xs.1).toNat < k∧(ndR xs.1).toNat < zf x.2.2.1,zf x.2.1+zf (zc8 (opdF k x.2.2.1 (ndR xs.1) 5) xs.1)+10000≤1000000000]) fun x xs=>zc8 (opdF k x.2.2.1 (ndR xs.1) 5) xs.1
def hSf (k:Nat):List (zO×HCtr):=[(100,cPut),(150,znD),(99,cOpd k)]
theorem cat4 (a b c d:List UInt8):(a++b++c++d:List UInt8)=a++(b++(c++d)):=by rw[zz,zz]
theorem znP (k:Nat) (hO:zaH Tryz.prog gmH 99 (cOpd k)):zaH Tryz.prog gmH 102 (zsC k):=by
 have hsf:HsOk Tryz.prog gmH (hSf k):=.cons zpD <| .cons zm8 <| .cons hO .nil;refine zav (K:=_) zaX Tryz.func102 rfl rfl (zcL rfl) Tryz.call102 rfl (zb rfl) (zd1 prT [107]) ?_;rintro w0 ⟨G,O,K,fix,D,ρ,B⟩ ty hX hG hK hρ hD hinv ⟨(b:Bool),(bf:List UInt8),(r:List Nd),⟨⟩⟩ ⟨(n:Nd),⟨⟩⟩ hp;obtain rfl:G=gmH:=hG;obtain rfl:K=1:=hK;obtain rfl:ρ=none:=hρ;obtain rfl:D=[]:=hD;have hI:=fun w R hR hw=>(⟨zaN (ty:=ty) hX rfl hinv.1 (ty':=ty) w R hR hw,hinv.2⟩:bInv prT [107] w R ty);obtain⟨hwf,⟨⟨hC,hN,hM⟩,hI',hil,hnl,-,hsc⟩,hk0,hkk,hbh,hT⟩:WfP r∧zlI n∧11≤ndK n∧ndK n≤17∧(ndK n=17->0≤ndR n∧(ndR n).toNat < k∧(ndR n).toNat < r.length)∧bf.length+(zc8 (opdF k r (ndR n) 5) n).length+10000≤1000000000:=hp;have hlen:bf.length+10000≤1000000000:=by omega
 change AWP _ _ _ _ _ ⟨[(0,⟨.hptr,((0:Nat),(0:Nat))⟩),(1,⟨nd,n⟩)],wE ty b bf r,2⟩ (wQ _ (zsC k) ty (.ok ((),(true,((bf++zc8 (opdF k r (ndR n) 5) n:List UInt8),(r,()))))));unfold zc8 at hT ⊢;refine za (za ?_);refine zaa hX zaX rfl ?_ ?_
 ·trivial
 refine za (za ?_);refine zaa hX zaX rfl ?_ ?_
 ·trivial
 apply zac;refine zam (σ':=⟨[(0,⟨.hptr,((0:Nat),(0:Nat))⟩),(3,⟨.optr nd,⟨2,nd,.here⟩⟩),(5,⟨i64,ndK n⟩)],(2,some (.box nd n))::wE ty b bf r,3⟩) ⟨⟨rfl,rfl,rfl,trivial⟩,⟨rfl,rfl,rfl,trivial⟩,rfl,by cases b<;>rfl⟩ ?_;refine za (za ?_);refine zaa hX zaX rfl ?_ ?_
 ·trivial
 refine zaf rfl (fun hb=>?_) (fun hb=>?_)
 ·have hb:(ndK n==11)=true:=hb;have hk:=beq_iff_eq.1 hb;rw[if_pos hk];cases b
  all_goals
   (repeat(first|apply zae|apply zab|apply zac|apply zad));refine zah ?_;refine yl 4 hX zaX hsf rfl trivial rfl rfl ⟨(by show zf bf+zf (spW zdQ)+19 * 1≤1000000000;have:zf (spW zdQ)≤20:=(by decide);omega),(zfA hN)⟩ hI ?_;exact yf ⟨.inl rfl,⟨_,rfl,u8,1,_,rfl,rfl,rfl⟩,za9 (by decide) rfl rfl trivial rfl⟩
 have hb:(ndK n==11)=false:=hb;have hk11:ndK n≠11:=fun e=>by rw[beq_iff_eq.2 e]at hb;cases hb
 rw[if_neg hk11];refine za (za ?_);refine zaa hX zaX rfl ?_ ?_
 ·trivial
 refine zaf rfl (fun hb=>?_) (fun hb=>?_)
 ·have hb:(ndK n==12)=true:=hb;have hk:=beq_iff_eq.1 hb;rw[if_pos hk];cases b
  all_goals
   (repeat(first|apply zae|apply zab|apply zac|apply zad));refine zah ?_;refine yl 4 hX zaX hsf rfl trivial rfl rfl ⟨(by show zf bf+zf (spW zfM)+19 * 1≤1000000000;have:zf (spW zfM)≤20:=(by decide);omega),(zfA hN)⟩ hI ?_;exact yf ⟨.inl rfl,⟨_,rfl,u8,1,_,rfl,rfl,rfl⟩,za9 (by decide) rfl rfl trivial rfl⟩
 have hb:(ndK n==12)=false:=hb;have hk12:ndK n≠12:=fun e=>by rw[beq_iff_eq.2 e]at hb;cases hb
 rw[if_neg hk12];refine za (za ?_);refine zaa hX zaX rfl ?_ ?_
 ·trivial
 refine zaf rfl (fun hb=>?_) (fun hb=>?_)
 ·have hb:(ndK n==13)=true:=hb;have hk:=beq_iff_eq.1 hb;rw[if_pos hk];cases b
  all_goals
   (repeat(first|apply zae|apply zab|apply zac|apply zad));refine zah ?_;refine yl 4 hX zaX hsf rfl trivial rfl rfl ⟨(by show zf bf+zf (spW zdP)+19 * 1≤1000000000;have:zf (spW zdP)≤20:=(by decide);omega),(zfA hN)⟩ hI ?_;exact yf ⟨.inl rfl,⟨_,rfl,u8,1,_,rfl,rfl,rfl⟩,za9 (by decide) rfl rfl trivial rfl⟩
 have hb:(ndK n==13)=false:=hb;have hk13:ndK n≠13:=fun e=>by rw[beq_iff_eq.2 e]at hb;cases hb
 rw[if_neg hk13];refine za (za ?_);refine zaa hX zaX rfl ?_ ?_
 ·trivial
 refine zaf rfl (fun hb=>?_) (fun hb=>?_)
 ·have hb:(ndK n==14)=true:=hb;have hk:=beq_iff_eq.1 hb;rw[if_pos hk];refine yO (σ':=⟨[(0,⟨.hptr,((0:Nat),(0:Nat))⟩),(3,⟨.optr nd,⟨2,nd,.here⟩⟩)],(2,some (.box nd n))::wE ty true ((bf++putS (spW zek) []:List UInt8)) r,3⟩) ?_ ?_
  ·cases b
   all_goals
    (repeat(first|apply zae|apply zab|apply zac|apply zad));refine zah ?_;refine yl 1 hX zaX hsf rfl trivial rfl rfl ⟨(by show zf bf+zf (spW zek)+19 * 0≤1000000000;have:zf (spW zek)≤20:=(by decide);omega),(fun x hx=>by cases hx)⟩ hI ?_;exact yf ⟨⟨rfl,rfl,trivial⟩,⟨rfl,rfl,rfl,trivial⟩,rfl,rfl⟩
  have hl2:zf (bf++putS (spW zek) []:List UInt8)+20 * zf (ndI n)+1≤1000000000:=by
   have:=zbP (l:=[]) (fun x hx=>by cases hx);have hw:zf (spW zek)≤20:=by decide
   simp only[putS,zh,zr,zX]at this ⊢;omega
  rw[show (bf++(putS (spW zek) []++zcD (ndI n)):List UInt8)=bf++putS (spW zek) []++zcD (ndI n) from (cat3 _ _ _).symm];(repeat(first|apply zae|apply zab|apply zac|apply zad));refine zah ?_;refine yl 3 hX zaX hsf rfl trivial rfl rfl ⟨hl2,hI'⟩ hI ?_;exact yf ⟨.inl rfl,⟨_,rfl,u8,1,_,rfl,rfl,rfl⟩,za9 (by decide) rfl rfl trivial rfl⟩
 have hb:(ndK n==14)=false:=hb;have hk14:ndK n≠14:=fun e=>by rw[beq_iff_eq.2 e]at hb;cases hb
 rw[if_neg hk14];refine za (za ?_);refine zaa hX zaX rfl ?_ ?_
 ·trivial
 refine zaf rfl (fun hb=>?_) (fun hb=>?_)
 ·have hb:(ndK n==15)=true:=hb;have hk:=beq_iff_eq.1 hb;rw[if_pos hk];refine yO (σ':=⟨[(0,⟨.hptr,((0:Nat),(0:Nat))⟩),(3,⟨.optr nd,⟨2,nd,.here⟩⟩)],(2,some (.box nd n))::wE ty true ((bf++putS (spW zbX) []:List UInt8)) r,3⟩) ?_ ?_
  ·cases b
   all_goals
    (repeat(first|apply zae|apply zab|apply zac|apply zad));refine zah ?_;refine yl 1 hX zaX hsf rfl trivial rfl rfl ⟨(by show zf bf+zf (spW zbX)+19 * 0≤1000000000;have:zf (spW zbX)≤20:=(by decide);omega),(fun x hx=>by cases hx)⟩ hI ?_;exact yf ⟨⟨rfl,rfl,trivial⟩,⟨rfl,rfl,rfl,trivial⟩,rfl,rfl⟩
  have hl2:zf (bf++putS (spW zbX) []:List UInt8)+20 * zf (ndI n)+1≤1000000000:=by
   have:=zbP (l:=[]) (fun x hx=>by cases hx);have hw:zf (spW zbX)≤20:=by decide
   simp only[putS,zh,zr,zX]at this ⊢;omega
  rw[show (bf++(putS (spW zbX) []++zcD (ndI n)):List UInt8)=bf++putS (spW zbX) []++zcD (ndI n) from (cat3 _ _ _).symm];(repeat(first|apply zae|apply zab|apply zac|apply zad));refine zah ?_;refine yl 3 hX zaX hsf rfl trivial rfl rfl ⟨hl2,hI'⟩ hI ?_;exact yf ⟨.inl rfl,⟨_,rfl,u8,1,_,rfl,rfl,rfl⟩,za9 (by decide) rfl rfl trivial rfl⟩
 have hb:(ndK n==15)=false:=hb;have hk15:ndK n≠15:=fun e=>by rw[beq_iff_eq.2 e]at hb;cases hb
 rw[if_neg hk15];refine za (za ?_);refine zaa hX zaX rfl ?_ ?_
 ·trivial
 refine zaf rfl (fun hb=>?_) (fun hb=>?_)
 ·have hb:(ndK n==16)=true:=hb;have hk:=beq_iff_eq.1 hb;rw[if_pos hk];obtain⟨hs0,hs1⟩:=hsc hk;refine yO (σ':=⟨[(0,⟨.hptr,((0:Nat),(0:Nat))⟩),(3,⟨.optr nd,⟨2,nd,.here⟩⟩)],(2,some (.box nd n))::wE ty true ((bf++putS (spW wPos) [ndC n]:List UInt8)) r,3⟩) ?_ ?_
  ·cases b
   all_goals
    (repeat(first|apply zae|apply zab|apply zac|apply zad));refine zah ?_;refine yl 4 hX zaX hsf rfl trivial rfl rfl ⟨(by show zf bf+zf (spW wPos)+19 * 1≤1000000000;have:zf (spW wPos)≤20:=(by decide);omega),(zfA hC)⟩ hI ?_;exact yf ⟨⟨rfl,rfl,trivial⟩,⟨rfl,rfl,rfl,trivial⟩,rfl,rfl⟩
  have hl2:zf (bf++putS (spW wPos) [ndC n]:List UInt8)+zf (zcS (ndM n))+19 * 0≤1000000000:=by
   have:=zbP (zfA hC);have hw:zf (spW wPos)≤20:=by decide
   have hs:=zd3 (ndM n);simp only[putS,zh,zr,zX]at this ⊢;omega
  refine yO (σ':=⟨[(0,⟨.hptr,((0:Nat),(0:Nat))⟩),(3,⟨.optr nd,⟨2,nd,.here⟩⟩)],(2,some (.box nd n))::wE ty true ((bf++putS (spW wPos) [ndC n]++putS (zcS (ndM n)) []:List UInt8)) r,3⟩) ?_ ?_
  ·cases b
   all_goals
    (repeat(first|apply zae|apply zab|apply zac|apply zad));refine zah ?_;refine yl 4 hX zaX hsf rfl ⟨hs0,hs1⟩ rfl rfl ⟨hl2,fun x hx=>by cases hx⟩ hI ?_;exact yf ⟨⟨rfl,rfl,trivial⟩,⟨rfl,rfl,rfl,trivial⟩,rfl,rfl⟩
  have hl2b:zf (bf++putS (spW wPos) [ndC n]++putS (zcS (ndM n)) []:List UInt8)+20 * zf (ndI n)+1≤1000000000:=by
   have:=zbP (zfA hC);have hw:zf (spW wPos)≤20:=by decide
   have hs:=zd3 (ndM n);have h0:zf (zeB [])=0:=rfl;simp only[putS,zh,zr,zX]at this h0 ⊢;omega
  rw[show (bf++(putS (spW wPos) [ndC n]++(putS (zcS (ndM n)) []++zcD (ndI n))):List UInt8)=bf++putS (spW wPos) [ndC n]++putS (zcS (ndM n)) []++zcD (ndI n) from (cat4 _ _ _ _).symm];(repeat(first|apply zae|apply zab|apply zac|apply zad));refine zah ?_;refine yl 3 hX zaX hsf rfl trivial rfl rfl ⟨hl2b,hI'⟩ hI ?_;exact yf ⟨.inl rfl,⟨_,rfl,u8,1,_,rfl,rfl,rfl⟩,za9 (by decide) rfl rfl trivial rfl⟩
 have hb:(ndK n==16)=false:=hb;have hk16:ndK n≠16:=fun e=>by rw[beq_iff_eq.2 e]at hb;cases hb
 rw[if_neg hk16];refine za (za ?_);refine zaa hX zaX rfl ?_ ?_
 ·trivial
 refine zaf rfl (fun hb=>?_) (fun hb=>?_)
 ·have hb:(ndK n==17)=true:=hb;have hk:=beq_iff_eq.1 hb;rw[if_pos hk];refine yO (σ':=⟨[(0,⟨.hptr,((0:Nat),(0:Nat))⟩),(3,⟨.optr nd,⟨2,nd,.here⟩⟩)],(2,some (.box nd n))::wE ty true ((bf++putS (spW zbG) [ndN n]:List UInt8)) r,3⟩) ?_ ?_
  ·cases b
   all_goals
    (repeat(first|apply zae|apply zab|apply zac|apply zad));refine zah ?_;refine yl 4 hX zaX hsf rfl trivial rfl rfl ⟨(by show zf bf+zf (spW zbG)+19 * 1≤1000000000;have:zf (spW zbG)≤20:=(by decide);omega),(zfA hN)⟩ hI ?_;exact yf ⟨⟨rfl,rfl,trivial⟩,⟨rfl,rfl,rfl,trivial⟩,rfl,rfl⟩
  obtain⟨hb0,hb1,hb2⟩:=hbh hk;have hl2:zf (bf++putS (spW zbG) [ndN n]:List UInt8)+zf (spW wOf++ [32]:List UInt8)+19 * 0≤1000000000:=by
   have:=zbP (zfA hN);have hw:zf (spW zbG)≤20:=by decide
   have hw2:zf (spW wOf++ [32]:List UInt8)≤20:=by decide
   rw[zh];simp only[putS,zh,zr,zX]at this hw2 ⊢;omega
  refine yO (σ':=⟨[(0,⟨.hptr,((0:Nat),(0:Nat))⟩),(3,⟨.optr nd,⟨2,nd,.here⟩⟩)],(2,some (.box nd n))::wE ty true ((bf++putS (spW zbG) [ndN n]++putS (spW wOf++ [32]) []:List UInt8)) r,3⟩) ?_ ?_
  ·cases b
   all_goals
    (repeat(first|apply zae|apply zab|apply zac|apply zad));refine zah ?_;refine yl 1 hX zaX hsf rfl trivial rfl rfl ⟨hl2,fun x hx=>by cases hx⟩ hI ?_;exact yf ⟨⟨rfl,rfl,trivial⟩,⟨rfl,rfl,rfl,trivial⟩,rfl,rfl⟩
  have hl3:zf (bf++putS (spW zbG) [ndN n]++putS (spW wOf++ [32]) []:List UInt8)+zf (opdF k r (ndR n) 5)+10000≤1000000000:=by
   rw[if_neg hk11,if_neg hk12,if_neg hk13,if_neg hk14,if_neg hk15,if_neg hk16,if_pos hk]at hT;rw[zh,zh]at hT ⊢;omega
  rw[show (bf++(putS (spW zbG) [ndN n]++(putS (spW wOf++ [32]) []++opdF k r (ndR n) 5)):List UInt8)=bf++putS (spW zbG) [ndN n]++putS (spW wOf++ [32]) []++opdF k r (ndR n) 5 from (cat4 _ _ _ _).symm];(repeat(first|apply zae|apply zab|apply zac|apply zad));refine zah ?_;refine yl 3 hX zaX hsf rfl trivial rfl rfl ⟨hwf,hb0,hb1,hb2,hl3⟩ hI ?_;exact yf ⟨.inl rfl,⟨_,rfl,u8,1,_,rfl,rfl,rfl⟩,za9 (by decide) rfl rfl trivial rfl⟩
 have hb:(ndK n==17)=false:=hb;have hk17:ndK n≠17:=fun e=>by rw[beq_iff_eq.2 e]at hb;cases hb
 rw[if_neg hk17];exfalso;omega
@[reducible] def zlz (k:Nat):HCtr:=hW [i64] (fun x xs=>[WfP x.2.2.1,0≤xs.1,xs.1.toNat < k,xs.1.toNat < zf x.2.2.1,zf x.2.1+zf (zdl k x.2.2.1 xs.1)+10000≤1000000000]) fun x xs=>zdl k x.2.2.1 xs.1
def kOd:Kn:={ gmK with C:=[(98,zte),(101,cOps)] }
theorem zb7:KnOk Tryz.prog gmH kOd:=zak.with (.cons zr2 <| .cons zg1 .nil)
def hOd (k:Nat):List (zO×HCtr):=[(66,cWSP),(60,zlz k)]
theorem zoe (k:Nat) (hNd:zaH Tryz.prog gmH 60 (zlz k)):zaH Tryz.prog gmH 99 (cOpd k):=by
 have hod:HsOk Tryz.prog gmH (hOd k):=.cons ziV <| .cons hNd .nil;refine zav (K:=_) zb7 Tryz.func99 rfl rfl (zcL rfl) Tryz.call99 rfl (zb rfl) (zd1 prT [107]) ?_;rintro w0 ⟨G,O,K,fix,D,ρ,B⟩ ty hX hG hK hρ hD hinv ⟨(b:Bool),(bf:List UInt8),(r:List Nd),⟨⟩⟩ ⟨(i:Int),(q:Int),⟨⟩⟩ hp;obtain rfl:G=gmH:=hG;obtain rfl:K=1:=hK;obtain rfl:ρ=none:=hρ;obtain rfl:D=[]:=hD;have hI:=fun w R hR hw=>(⟨zaN (ty:=ty) hX rfl hinv.1 (ty':=ty) w R hR hw,hinv.2⟩:bInv prT [107] w R ty);obtain⟨hwf,h0,hk,hr,hT⟩:WfP r∧0≤i∧i.toNat < k∧i.toNat < r.length∧bf.length+(opdF k r i q).length+10000≤1000000000:=hp;have hil:i < ((r.length:Nat):Int):=by omega
 change AWP _ _ _ _ _ ⟨[(0,⟨.hptr,((0:Nat),(0:Nat))⟩),(1,⟨i64,i⟩),(2,⟨i64,q⟩)],wE ty b bf r,2⟩ (wQ _ (cOpd k) ty (.ok ((),(true,((bf++opdF k r i q:List UInt8),(r,()))))));unfold opdF at hT ⊢;apply zae;refine yO (σ':=⟨[(0,⟨.hptr,((0:Nat),(0:Nat))⟩),(1,⟨i64,i⟩),(16,⟨.bool,decide (levS (ndK (zax r i))≥q)⟩)],wE ty b bf r,2⟩) ?_ ?_
 ·cases b
  all_goals
   refine zah ?_;refine yy 2 hX zb7 rfl trivial ?_;refine jz (eqP1 _ _ rfl) hX zb7 rfl trivial ?_;refine zY hX zb7 rfl ⟨h0,hil⟩ ?_;exact⟨⟨rfl,rfl,rfl,trivial⟩,⟨rfl,rfl,trivial⟩,rfl,rfl⟩
 refine zaf rfl (fun hb=>?_) (fun hb=>?_)
 ·have hb:decide (levS (ndK (zax r i))≥q)=true:=hb;rw[hb]at hT ⊢;have hT:bf.length+(zdl k r i).length+10000≤1000000000:=hT;show AWP _ _ _ _ _ _ (zkv _ (wQ _ (cOpd k) ty (.ok ((),(true,((bf++zdl k r i:List UInt8),(r,())))))));cases b
  all_goals
   (repeat(first|apply zae|apply zab|apply zac|apply zad));refine zah ?_;refine yl 2 hX zb7 hod rfl trivial rfl rfl ⟨hwf,h0,hk,hr,hT⟩ hI ?_;refine yf ?_;exact zm ⟨.inr rfl,⟨_,rfl,u8,1,_,rfl,rfl,rfl⟩,za9 (by decide) rfl rfl trivial rfl⟩
 ·have hb:decide (levS (ndK (zax r i))≥q)=false:=hb;rw[hb]at hT ⊢;have hT:bf.length+([40]++(zdl k r i++ [41]):List UInt8).length+10000≤1000000000:=hT;rw[zh,zh]at hT;have hT1:bf.length+zf ([40]:List UInt8)≤1000000000:=by omega
  have hT2:zf (bf++ [40]:List UInt8)+(zdl k r i).length+10000≤1000000000:=by rw[zh];omega
  have hT3:zf (bf++ [40]++zdl k r i:List UInt8)+zf ([41]:List UInt8)≤1000000000:=by rw[zh,zh];omega
  apply zab;rw[show (bf++parS false (zdl k r i):List UInt8)=bf++ [40]++zdl k r i++ [41] from (cat4 _ _ _ _).symm];refine yO (σ':=⟨[(0,⟨.hptr,((0:Nat),(0:Nat))⟩),(1,⟨i64,i⟩)],wE ty true ((bf++ [40]:List UInt8)) r,2⟩) ?_ ?_
  ·cases b
   all_goals
    refine zah ?_;refine yy 2 hX zb7 rfl trivial ?_;refine jz (eqP0 _ _ rfl) hX zb7 rfl trivial ?_;refine yl 0 hX zb7 hod rfl trivial rfl rfl hT1 hI ?_;exact yf ⟨⟨rfl,rfl,trivial⟩,⟨rfl,rfl,trivial⟩,rfl,rfl⟩
  (repeat(first|apply zae|apply zab|apply zac|apply zad));refine zah ?_;refine yl 2 hX zb7 hod rfl trivial rfl rfl ⟨hwf,h0,hk,hr,hT2⟩ hI ?_;refine yf ?_;refine zam (σ':=⟨[(0,⟨.hptr,((0:Nat),(0:Nat))⟩)],wE ty true ((bf++ [40]++zdl k r i:List UInt8)) r,2⟩) ⟨⟨rfl,trivial⟩,⟨rfl,rfl,trivial⟩,rfl,rfl⟩ ?_;refine zah ?_;refine yy 2 hX zb7 rfl trivial ?_;refine jz (eqP0 _ _ rfl) hX zb7 rfl trivial ?_;refine yl 0 hX zb7 hod rfl trivial rfl rfl hT3 hI ?_;refine yf ?_;exact⟨.inl rfl,⟨_,rfl,u8,1,_,rfl,rfl,rfl⟩,za9 (by decide) rfl rfl trivial rfl⟩
theorem zt6 {k:Int} (h:levS k < 4):(8≤k∧k≤10)∧1≤levS k:=by
 unfold levS at *;split at h
 ·rename_i e;subst e;decide
 ·split at h
  ·rename_i e;subst e;decide
  ·split at h
   ·rename_i e;subst e;decide
   ·split at h<;>omega
theorem levS_4 {k:Int} (h:levS k=4):11≤k∧k≤17:=by
 unfold levS at h;split at h
 ·omega
 ·split at h
  ·omega
  ·split at h
   ·omega
   ·split at h
    ·assumption
    ·omega
theorem levS_5 {k:Int} (h4:¬ levS k < 4) (h5:levS k≠4):¬ (8≤k∧k≤17):=by
 intro hk;unfold levS at *;split at h4
 ·omega
 ·split at h4
  ·omega
  ·split at h4
   ·omega
   ·split at h4
    ·rename_i a b c d;rw[if_neg a,if_neg b,if_neg c,if_pos d]at h5;exact h5 rfl
    ·omega
def hNo (k:Nat):List (zO×HCtr):=[(99,cOpd k),(100,cPut),(102,zsC k),(103,zqN)]
theorem ztZ (k:Nat) (hOp:zaH Tryz.prog gmH 99 (cOpd k)) (hSu:zaH Tryz.prog gmH 102 (zsC k)):zaH Tryz.prog gmH 60 (zlz (k+1)):=by
 have hno:HsOk Tryz.prog gmH (hNo k):=.cons hOp <| .cons zpD <| .cons hSu <| .cons zr5 .nil;refine zav (K:=_) zb7 Tryz.func60 rfl rfl (zcL rfl) Tryz.call60 rfl (zb rfl) (zd1 prT [107]) ?_;rintro w0 ⟨G,O,K,fix,D,ρ,B⟩ ty hX hG hK hρ hD hinv ⟨(b:Bool),(bf:List UInt8),(r:List Nd),⟨⟩⟩ ⟨(i:Int),⟨⟩⟩ hp;obtain rfl:G=gmH:=hG;obtain rfl:K=1:=hK;obtain rfl:ρ=none:=hρ;obtain rfl:D=[]:=hD;have hI:=fun w R hR hw=>(⟨zaN (ty:=ty) hX rfl hinv.1 (ty':=ty) w R hR hw,hinv.2⟩:bInv prT [107] w R ty);obtain⟨hwf,h0,hk,hr,hT⟩:WfP r∧0≤i∧i.toNat < k+1∧i.toNat < r.length∧bf.length+(zdl (k+1) r i).length+10000≤1000000000:=hp;have hil:i < ((r.length:Nat):Int):=by omega
 obtain⟨hnum,⟨hk1,hk18⟩,hL,hR⟩:=hwf.2 i.toNat hr;have hi:((i.toNat:Nat):Int)=i:=qm h0;rw[hi]at hnum hk1 hk18 hL hR;change AWP _ _ _ _ _ ⟨[(0,⟨.hptr,((0:Nat),(0:Nat))⟩),(1,⟨i64,i⟩)],wE ty b bf r,2⟩ (wQ _ (zlz (k+1)) ty (.ok ((),(true,((bf++zdl (k+1) r i:List UInt8),(r,()))))));unfold zdl at hT ⊢;generalize hn:zax r i=n at *;refine yO (σ':=⟨[(0,⟨.hptr,((0:Nat),(0:Nat))⟩),(4,⟨.optr nd,⟨2,nd,.here⟩⟩)],(2,some (.box nd n))::wE ty b bf r,3⟩) ?_ ?_
 ·subst hn;cases b
  all_goals
   refine zah ?_;refine yy 2 hX zb7 rfl trivial ?_;refine jz (eqP1 _ _ rfl) hX zb7 rfl trivial ?_;refine zY hX zb7 rfl ⟨h0,hil⟩ ?_;exact⟨⟨rfl,rfl,trivial⟩,⟨rfl,rfl,rfl,trivial⟩,rfl,rfl⟩
 clear hn;refine yO (σ':=⟨[(0,⟨.hptr,((0:Nat),(0:Nat))⟩),(4,⟨.optr nd,⟨2,nd,.here⟩⟩),(5,⟨i64,levS (ndK n)⟩)],(2,some (.box nd n))::wE ty b bf r,3⟩) ?_ ?_
 ·refine zah ?_;refine zY hX zb7 rfl trivial ?_;exact⟨⟨rfl,rfl,rfl,trivial⟩,⟨rfl,rfl,rfl,trivial⟩,rfl,by cases b<;>rfl⟩
 apply zac;refine za (za ?_);refine zaa hX zb7 rfl ?_ ?_
 ·trivial
 refine zaf rfl (fun hb=>?_) (fun hb=>?_)
 ·have hb:decide (levS (ndK n) < 4)=true:=hb;have hb:=of_decide_eq_true hb;rw[if_pos hb]at hT ⊢;obtain⟨⟨hk8,hk10⟩,hl1⟩:=zt6 hb;obtain⟨hL0,hL1⟩:=hL hk8 (by omega);obtain⟨hR0,hR1⟩:=hR hk8 (.inl hk10);generalize levS (ndK n)=x at hb hT hl1;change bf.length+(opdF k r (ndL n) x++(putS ([32]++opWd x++ [32]) []++opdF k r (ndR n) (x+1))).length+10000≤1000000000 at hT;have hx3:x=1∨x=2∨x=3:=by omega
  have hw:zf (opWd x)≤5:=by rcases hx3 with rfl|rfl|rfl<;>decide
  have hT0:=hT;rw[zh,zh]at hT;have hLk:(ndL n).toNat < k:=by omega
  have hLr:(ndL n).toNat < r.length:=by omega
  have hRk:(ndR n).toNat < k:=by omega
  have hRr:(ndR n).toNat < r.length:=by omega
  have hTA:bf.length+(opdF k r (ndL n) x).length+10000≤1000000000:=by omega
  have hM0:zf (putS ([32]++opWd x++ [32]) [])=zf ([32]++opWd x++ [32]:List UInt8):=by
   show zf (([32]++opWd x++ [32])++ []:List UInt8)=_;rw[z7]
  have hM1:zf ([32]++opWd x++ [32]:List UInt8)≤7:=by
   rw[zh,zh];show 1+_+1≤7;omega
  have hTM:zf (bf++opdF k r (ndL n) x:List UInt8)+zf ([32]++opWd x++ [32]:List UInt8)+19 * 0≤1000000000:=by rw[zh];omega
  have hTC:zf (bf++opdF k r (ndL n) x++putS ([32]++opWd x++ [32]) []:List UInt8)+(opdF k r (ndR n) (x+1)).length+10000≤1000000000:=by rw[zh,zh];omega
  have q0:inR .i64 (x - 1):=zaq (by omega) (by omega);have q1:inR .i64 (x+1):=zaq (by omega) (by omega);have q2:(0:Int)≤x - 1:=by omega
  have q3:x - 1 < ((opsL.length:Nat):Int):=by show x - 1 < ((3:Nat):Int);omega
  have q4:1+zf (opWd x)≤maxLen:=by unfold maxLen;omega
  have q5:zf ([32]++opWd x:List UInt8)+1≤maxLen:=by rw[zh];show 1+_+1≤_;unfold maxLen;omega
  change AWP _ _ _ _ _ _ (zlF 0 (wQ _ (zlz (k+1)) ty (.ok ((),(true,((bf++(opdF k r (ndL n) x++(putS ([32]++opWd x++ [32]) []++opdF k r (ndR n) (x+1))):List UInt8),(r,())))))));rw[show (bf++(opdF k r (ndL n) x++(putS ([32]++opWd x++ [32]) []++opdF k r (ndR n) (x+1))):List UInt8)=bf++opdF k r (ndL n) x++putS ([32]++opWd x++ [32]) []++opdF k r (ndR n) (x+1) from (cat4 _ _ _ _).symm];refine yO (σ':=⟨[(0,⟨.hptr,((0:Nat),(0:Nat))⟩),(4,⟨.optr nd,⟨2,nd,.here⟩⟩),(5,⟨i64,x⟩)],(2,some (.box nd n))::wE ty true ((bf++opdF k r (ndL n) x:List UInt8)) r,3⟩) ?_ ?_
  ·cases b
   all_goals
    refine zah ?_;refine yl 4 hX zb7 hno rfl trivial rfl rfl ⟨hwf,hL0,hLk,hLr,hTA⟩ hI ?_;exact yf ⟨⟨rfl,rfl,rfl,trivial⟩,⟨rfl,rfl,rfl,trivial⟩,rfl,rfl⟩
  refine yO (σ':=⟨[(0,⟨.hptr,((0:Nat),(0:Nat))⟩),(4,⟨.optr nd,⟨2,nd,.here⟩⟩),(5,⟨i64,x⟩)],(2,some (.box nd n))::wE ty true ((bf++opdF k r (ndL n) x++putS ([32]++opWd x++ [32]) []:List UInt8)) r,3⟩) ?_ ?_
  ·refine zah ?_;refine yl 9 hX zb7 hno rfl ⟨q0,q2,q3,q4,q5⟩ rfl rfl ⟨hTM,fun y hy=>by cases hy⟩ hI ?_;exact yf ⟨⟨rfl,rfl,rfl,trivial⟩,⟨rfl,rfl,rfl,trivial⟩,rfl,rfl⟩
  refine zah ?_;refine yl 5 hX zb7 hno rfl q1 rfl rfl ⟨hwf,hR0,hRk,hRr,hTC⟩ hI ?_;exact yf ⟨.inl rfl,⟨_,rfl,u8,1,_,rfl,rfl,rfl⟩,za9 (by decide) rfl rfl trivial rfl⟩
 ·have hb:decide (levS (ndK n) < 4)=false:=hb;have hb:=of_decide_eq_false hb;rw[if_neg hb]at hT ⊢;apply zae;refine za (za ?_);refine zaa hX zb7 rfl ?_ ?_
  ·trivial
  refine zaf rfl (fun hc=>?_) (fun hc=>?_)
  ·have hc:(levS (ndK n)==4)=true:=hc;have hc:=beq_iff_eq.1 hc;rw[if_pos hc]at hT ⊢;obtain⟨hk11,hk17⟩:=levS_4 hc;obtain⟨hL0,hL1⟩:=hL (by omega) hk17;have hLk:(ndL n).toNat < k:=by omega
   have hLr:(ndL n).toNat < r.length:=by omega
   have hB:ndK n=17->0≤ndR n∧(ndR n).toNat < k∧(ndR n).toNat < r.length:=fun e=>by
    obtain⟨hR0,hR1⟩:=hR (by omega) (.inr e);exact⟨hR0,by omega,by omega⟩
   change bf.length+(opdF k r (ndL n) 4++zc8 (opdF k r (ndR n) 5) n).length+10000≤1000000000 at hT;rw[zh]at hT;have hTA:bf.length+(opdF k r (ndL n) 4).length+10000≤1000000000:=by omega
   have hTS:zf (bf++opdF k r (ndL n) 4:List UInt8)+(zc8 (opdF k r (ndR n) 5) n).length+10000≤1000000000:=by rw[zh];omega
   change AWP _ _ _ _ _ _ (zlF 0 (wQ _ (zlz (k+1)) ty (.ok ((),(true,((bf++(opdF k r (ndL n) 4++zc8 (opdF k r (ndR n) 5) n):List UInt8),(r,())))))));rw[show (bf++(opdF k r (ndL n) 4++zc8 (opdF k r (ndR n) 5) n):List UInt8)=bf++opdF k r (ndL n) 4++zc8 (opdF k r (ndR n) 5) n from (cat3 _ _ _).symm];refine yO (σ':=⟨[(0,⟨.hptr,((0:Nat),(0:Nat))⟩),(4,⟨.optr nd,⟨2,nd,.here⟩⟩)],(2,some (.box nd n))::wE ty true ((bf++opdF k r (ndL n) 4:List UInt8)) r,3⟩) ?_ ?_
   ·cases b
    all_goals
     refine zah ?_;refine yl 3 hX zb7 hno rfl trivial rfl rfl ⟨hwf,hL0,hLk,hLr,hTA⟩ hI ?_;exact yf ⟨⟨rfl,rfl,trivial⟩,⟨rfl,rfl,rfl,trivial⟩,rfl,rfl⟩
   refine zah ?_;refine yl 2 hX zb7 hno rfl trivial rfl rfl ⟨hwf,hnum,hk11,hk17,hB,hTS⟩ hI ?_;exact yf ⟨.inl rfl,⟨_,rfl,u8,1,_,rfl,rfl,rfl⟩,za9 (by decide) rfl rfl trivial rfl⟩
  ·have hc:(levS (ndK n)==4)=false:=hc;have hc:levS (ndK n)≠4:=fun e=>by rw[beq_iff_eq.2 e]at hc;cases hc
   rw[if_neg hc]at hT ⊢;have h5:=levS_5 hb hc;have hkl:ndK n≤7∨ndK n=18:=by omega
   have hT:bf.length+(zeN n).length+10000≤1000000000:=hT;have hT1:bf.length+10000≤1000000000:=by omega
   cases b
   all_goals
    refine zah ?_;refine yl 2 hX zb7 hno rfl trivial rfl rfl ⟨hT1,hnum,hk1,hkl⟩ hI ?_;exact yf ⟨.inl rfl,⟨_,rfl,u8,1,_,rfl,rfl,rfl⟩,za9 (by decide) rfl rfl trivial rfl⟩
theorem zsU:∀ k,zaH Tryz.prog gmH 60 (zlz k)∧zaH Tryz.prog gmH 99 (cOpd k)
 |0=>⟨zeQ (zcL rfl) Tryz.call60 fun x xs h=>absurd h.2.2.1 (yg _),zeQ (zcL rfl) Tryz.call99 fun x xs h=>absurd h.2.2.1 (yg _)⟩
 |k+1=>by
  obtain⟨h1,h2⟩:=zsU k;have h3:=ztZ k h2 (znP k h2);exact⟨h3,zoe (k+1) h3⟩
set_option maxRecDepth 10000
theorem zkV {n:Nd} (h:zbI n=true):zlI n:=by
 obtain⟨⟨k1,k2⟩,hl,_⟩:=zaS h;have hs:=zsk h;have key:(zcn (ndC n)∧zcn (ndN n)∧zcn (ndM n))∧(∀ x∈ndI n,zcn x)∧(ndK n=7->0≤ndL n∧ndL n≤1)∧(ndK n=16->0≤ndM n∧ndM n≤1):=by
  rcases (show ndK n=1∨ndK n=2∨ndK n=3∨ndK n=4∨ndK n=5∨ndK n=6∨ndK n=7∨ndK n=8∨ndK n=9∨ndK n=10∨ndK n=11∨ndK n=12∨ndK n=13∨ndK n=14∨ndK n=15∨ndK n=16∨ndK n=17∨ndK n=18 by omega) with k|k|k|k|k|k|k|k|k|k|k|k|k|k|k|k|k|k
  ·obtain⟨e,b1,b2⟩:=fld1 h k;have eC:=congrArg ndC e;have eN:=congrArg ndN e;have eM:=congrArg ndM e;have eI:=congrArg ndI e;have eC:ndC n=0:=eC;have eN:ndN n=ndN n:=eN;have eM:ndM n=ndM n:=eM;have eI:ndI n=[]:=eI;refine⟨⟨⟨by omega,by omega⟩,⟨by omega,by omega⟩,⟨by omega,by omega⟩⟩,?_,fun e=>by omega,fun e=>by omega⟩;rw[eI];exact fun x hx=>by cases hx
  ·obtain⟨e,bc,b1,b2⟩:=fld2 h k;have eC:=congrArg ndC e;have eN:=congrArg ndN e;have eM:=congrArg ndM e;have eI:=congrArg ndI e;have eC:ndC n=ndC n:=eC;have eN:ndN n=ndN n:=eN;have eM:ndM n=ndM n:=eM;have eI:ndI n=[]:=eI;refine⟨⟨⟨by omega,by omega⟩,⟨by omega,by omega⟩,⟨by omega,by omega⟩⟩,?_,fun e=>by omega,fun e=>by omega⟩;rw[eI];exact fun x hx=>by cases hx
  ·obtain⟨e,bc,⟨l1,l2,l3⟩⟩:=fld3 h k;have eC:=congrArg ndC e;have eN:=congrArg ndN e;have eM:=congrArg ndM e;have eI:=congrArg ndI e;have eC:ndC n=ndC n:=eC;have eN:ndN n=0:=eN;have eM:ndM n=0:=eM;have eI:ndI n=ndI n:=eI;refine⟨⟨⟨by omega,by omega⟩,⟨by omega,by omega⟩,⟨by omega,by omega⟩⟩,?_,fun e=>by omega,fun e=>by omega⟩;exact fun x hx=>by have:=zcK (by decide) (by decide) l3 x hx;exact⟨by have:=this.1;omega,by have:=this.2;omega⟩
  ·obtain⟨e,bc,⟨l1,l2,l3⟩⟩:=fld4 h k;have eC:=congrArg ndC e;have eN:=congrArg ndN e;have eM:=congrArg ndM e;have eI:=congrArg ndI e;have eC:ndC n=ndC n:=eC;have eN:ndN n=0:=eN;have eM:ndM n=0:=eM;have eI:ndI n=ndI n:=eI;refine⟨⟨⟨by omega,by omega⟩,⟨by omega,by omega⟩,⟨by omega,by omega⟩⟩,?_,fun e=>by omega,fun e=>by omega⟩;exact fun x hx=>by have:=zcK (by decide) (by decide) l3 x hx;exact⟨by have:=this.1;omega,by have:=this.2;omega⟩
  ·obtain⟨e,⟨l1,l2,l3⟩⟩:=fld5 h k;have eC:=congrArg ndC e;have eN:=congrArg ndN e;have eM:=congrArg ndM e;have eI:=congrArg ndI e;have eC:ndC n=0:=eC;have eN:ndN n=0:=eN;have eM:ndM n=0:=eM;have eI:ndI n=ndI n:=eI;refine⟨⟨⟨by omega,by omega⟩,⟨by omega,by omega⟩,⟨by omega,by omega⟩⟩,?_,fun e=>by omega,fun e=>by omega⟩;exact fun x hx=>by have:=zcK (by decide) (by decide) l3 x hx;exact⟨by have:=this.1;omega,by have:=this.2;omega⟩
  ·obtain⟨e,bc,⟨l1,l2,l3⟩⟩:=fld6 h k;have eC:=congrArg ndC e;have eN:=congrArg ndN e;have eM:=congrArg ndM e;have eI:=congrArg ndI e;have eC:ndC n=ndC n:=eC;have eN:ndN n=0:=eN;have eM:ndM n=0:=eM;have eI:ndI n=ndI n:=eI;refine⟨⟨⟨by omega,by omega⟩,⟨by omega,by omega⟩,⟨by omega,by omega⟩⟩,?_,fun e=>by omega,fun e=>by omega⟩;exact fun x hx=>by have:=zcK (by decide) (by decide) l3 x hx;exact⟨by have:=this.1;omega,by have:=this.2;omega⟩
  ·obtain⟨e,bc,b1,bz,b2,b3⟩:=fld7 h k;have eC:=congrArg ndC e;have eN:=congrArg ndN e;have eM:=congrArg ndM e;have eI:=congrArg ndI e;have eC:ndC n=ndC n:=eC;have eN:ndN n=ndN n:=eN;have eM:ndM n=ndM n:=eM;have eI:ndI n=[]:=eI;refine⟨⟨⟨by omega,by omega⟩,⟨by omega,by omega⟩,⟨by omega,by omega⟩⟩,?_,fun e=>by omega,fun e=>by omega⟩;rw[eI];exact fun x hx=>by cases hx
  ·have e:=fld8 h k;have eC:=congrArg ndC e;have eN:=congrArg ndN e;have eM:=congrArg ndM e;have eI:=congrArg ndI e;have eC:ndC n=0:=eC;have eN:ndN n=0:=eN;have eM:ndM n=0:=eM;have eI:ndI n=[]:=eI;refine⟨⟨⟨by omega,by omega⟩,⟨by omega,by omega⟩,⟨by omega,by omega⟩⟩,?_,fun e=>by omega,fun e=>by omega⟩;rw[eI];exact fun x hx=>by cases hx
  ·have e:=fld9 h k;have eC:=congrArg ndC e;have eN:=congrArg ndN e;have eM:=congrArg ndM e;have eI:=congrArg ndI e;have eC:ndC n=0:=eC;have eN:ndN n=0:=eN;have eM:ndM n=0:=eM;have eI:ndI n=[]:=eI;refine⟨⟨⟨by omega,by omega⟩,⟨by omega,by omega⟩,⟨by omega,by omega⟩⟩,?_,fun e=>by omega,fun e=>by omega⟩;rw[eI];exact fun x hx=>by cases hx
  ·have e:=fld10 h k;have eC:=congrArg ndC e;have eN:=congrArg ndN e;have eM:=congrArg ndM e;have eI:=congrArg ndI e;have eC:ndC n=0:=eC;have eN:ndN n=0:=eN;have eM:ndM n=0:=eM;have eI:ndI n=[]:=eI;refine⟨⟨⟨by omega,by omega⟩,⟨by omega,by omega⟩,⟨by omega,by omega⟩⟩,?_,fun e=>by omega,fun e=>by omega⟩;rw[eI];exact fun x hx=>by cases hx
  ·obtain⟨e,b1⟩:=zuA h k;have eC:=congrArg ndC e;have eN:=congrArg ndN e;have eM:=congrArg ndM e;have eI:=congrArg ndI e;have eC:ndC n=0:=eC;have eN:ndN n=ndN n:=eN;have eM:ndM n=0:=eM;have eI:ndI n=[]:=eI;refine⟨⟨⟨by omega,by omega⟩,⟨by omega,by omega⟩,⟨by omega,by omega⟩⟩,?_,fun e=>by omega,fun e=>by omega⟩;rw[eI];exact fun x hx=>by cases hx
  ·obtain⟨e,b1⟩:=zuz h k;have eC:=congrArg ndC e;have eN:=congrArg ndN e;have eM:=congrArg ndM e;have eI:=congrArg ndI e;have eC:ndC n=0:=eC;have eN:ndN n=ndN n:=eN;have eM:ndM n=0:=eM;have eI:ndI n=[]:=eI;refine⟨⟨⟨by omega,by omega⟩,⟨by omega,by omega⟩,⟨by omega,by omega⟩⟩,?_,fun e=>by omega,fun e=>by omega⟩;rw[eI];exact fun x hx=>by cases hx
  ·obtain⟨e,b1⟩:=zuy h k;have eC:=congrArg ndC e;have eN:=congrArg ndN e;have eM:=congrArg ndM e;have eI:=congrArg ndI e;have eC:ndC n=0:=eC;have eN:ndN n=ndN n:=eN;have eM:ndM n=0:=eM;have eI:ndI n=[]:=eI;refine⟨⟨⟨by omega,by omega⟩,⟨by omega,by omega⟩,⟨by omega,by omega⟩⟩,?_,fun e=>by omega,fun e=>by omega⟩;rw[eI];exact fun x hx=>by cases hx
  ·obtain⟨e,⟨l1,l2,l3⟩⟩:=zux h k;have eC:=congrArg ndC e;have eN:=congrArg ndN e;have eM:=congrArg ndM e;have eI:=congrArg ndI e;have eC:ndC n=0:=eC;have eN:ndN n=0:=eN;have eM:ndM n=0:=eM;have eI:ndI n=ndI n:=eI;refine⟨⟨⟨by omega,by omega⟩,⟨by omega,by omega⟩,⟨by omega,by omega⟩⟩,?_,fun e=>by omega,fun e=>by omega⟩;exact fun x hx=>by have:=zcK (by decide) (by decide) l3 x hx;exact⟨by have:=this.1;omega,by have:=this.2;omega⟩
  ·obtain⟨e,⟨l1,l2,l3⟩⟩:=zuw h k;have eC:=congrArg ndC e;have eN:=congrArg ndN e;have eM:=congrArg ndM e;have eI:=congrArg ndI e;have eC:ndC n=0:=eC;have eN:ndN n=0:=eN;have eM:ndM n=0:=eM;have eI:ndI n=ndI n:=eI;refine⟨⟨⟨by omega,by omega⟩,⟨by omega,by omega⟩,⟨by omega,by omega⟩⟩,?_,fun e=>by omega,fun e=>by omega⟩;exact fun x hx=>by have:=zcK (by decide) (by decide) l3 x hx;exact⟨by have:=this.1;omega,by have:=this.2;omega⟩
  ·obtain⟨e,bc,⟨l1,l2,l3⟩,b1⟩:=zuv h k;have eC:=congrArg ndC e;have eN:=congrArg ndN e;have eM:=congrArg ndM e;have eI:=congrArg ndI e;have eC:ndC n=ndC n:=eC;have eN:ndN n=0:=eN;have eM:ndM n=ndM n:=eM;have eI:ndI n=ndI n:=eI;refine⟨⟨⟨by omega,by omega⟩,⟨by omega,by omega⟩,⟨by omega,by omega⟩⟩,?_,fun e=>by omega,fun e=>by omega⟩;exact fun x hx=>by have:=zcK (by decide) (by decide) l3 x hx;exact⟨by have:=this.1;omega,by have:=this.2;omega⟩
  ·obtain⟨e,b1⟩:=zuu h k;have eC:=congrArg ndC e;have eN:=congrArg ndN e;have eM:=congrArg ndM e;have eI:=congrArg ndI e;have eC:ndC n=0:=eC;have eN:ndN n=ndN n:=eN;have eM:ndM n=0:=eM;have eI:ndI n=[]:=eI;refine⟨⟨⟨by omega,by omega⟩,⟨by omega,by omega⟩,⟨by omega,by omega⟩⟩,?_,fun e=>by omega,fun e=>by omega⟩;rw[eI];exact fun x hx=>by cases hx
  ·obtain⟨e,bn⟩:=zut h k;have eC:=congrArg ndC e;have eN:=congrArg ndN e;have eM:=congrArg ndM e;have eI:=congrArg ndI e;have eC:ndC n=0:=eC;have eN:ndN n=0:=eN;have eM:ndM n=0:=eM;have eI:ndI n=[]:=eI;refine⟨⟨⟨by omega,by omega⟩,⟨by omega,by omega⟩,⟨by omega,by omega⟩⟩,?_,fun e=>by omega,fun e=>by omega⟩;rw[eI];exact fun x hx=>by cases hx
 exact⟨key.1,key.2.1,by omega,by omega,key.2.2⟩
theorem wfp_of {r:List Nd} (h:wfS r=true):WfP r:=by
 obtain⟨⟨h1,h2⟩,h3,h4⟩:=zej h;refine⟨by omega,fun j hj=>?_⟩;obtain⟨f1,f2⟩:=zdh h3 hj;obtain⟨l1,l2⟩:=zm7 h3 j hj;exact⟨zkV f1,(zaS f1).1,l1,l2⟩
theorem zf0 (c:Bool) (t:List UInt8):(parS c t).length≤t.length+2:=by
 cases c with
 |true=>show t.length≤_;omega
 |false=>show ([40]++(t++ [41]):List UInt8).length≤_;simp
theorem zr4 {n:Nd} (h:zlI n):(zeN n).length≤2100:=by
 obtain⟨⟨hC,hN,hM⟩,hI,hl,hs,_⟩:=h;have l1:∀ w:List UInt8,w.length≤10->∀ l:List Int,l.length≤3->(∀ x∈l,zcn x)->(putS w l).length≤67:=fun w hw l hl hx=>by
  have:=zbP hx;unfold putS;rw[zh];omega
 have l2:(zcD (ndI n)).length≤2001:=by
  have:=zf7 (ndI n) 0 hI;unfold zcD;rw[zh,zN];omega
 have p0:∀ x∈([]:List Int),zcn x:=fun x hx=>by cases hx
 have p1:∀ x∈ [ndC n],zcn x:=fun x hx=>by rw[zw.1 hx];exact hC
 have p2:∀ x∈ [ndN n,ndM n],zcn x:=fun x hx=>by
  rcases zP.1 hx with rfl|hx
  ·exact hN
  ·rw[zw.1 hx];exact hM
 have p3:∀ x∈ [ndC n,ndN n,ndM n],zcn x:=fun x hx=>by
  rcases zP.1 hx with rfl|hx
  ·exact hC
  ·exact p2 x hx
 unfold zeN;split
 ·exact zV (l1 _ (by decide) _ (by simp) p2) (by decide)
 split
 ·exact zV (l1 _ (by decide) _ (by simp) p3) (by decide)
 split
 ·rw[zh];have:=l1 zbM (by decide) _ (by simp) p1;omega
 split
 ·rw[zh];have:=l1 zaW (by decide) _ (by simp) p1;omega
 split
 ·rw[zh];have:=l1 za7 (by decide) _ (by simp) p0;omega
 split
 ·rw[zh];have:=l1 zcP (by decide) _ (by simp) p1;omega
 split
 ·rw[zh];have:=l1 wNth (by decide) _ (by simp) p3;have:=l1 (zcS (ndL n)) (zd3 _) [] (by decide) p0;omega
 split
 ·show (64::ndS n++ []).length≤_;rw[z7,zr];omega
 ·exact zk _
theorem zoR {n:Nd} (b:List UInt8) (h:zlI n):(zc8 b n).length≤2200+b.length:=by
 obtain⟨⟨hC,hN,hM⟩,hI,hl,hs,_⟩:=h;have l1:∀ w:List UInt8,w.length≤10->∀ l:List Int,l.length≤3->(∀ x∈l,zcn x)->(putS w l).length≤67:=fun w hw l hl hx=>by
  have:=zbP hx;unfold putS;rw[zh];omega
 have l2:(zcD (ndI n)).length≤2001:=by
  have:=zf7 (ndI n) 0 hI;unfold zcD;rw[zh,zN];omega
 have p0:∀ x∈([]:List Int),zcn x:=fun x hx=>by cases hx
 have p1:∀ x∈ [ndC n],zcn x:=fun x hx=>by rw[zw.1 hx];exact hC
 have p2:∀ x∈ [ndN n],zcn x:=fun x hx=>by rw[zw.1 hx];exact hN
 unfold zc8;split
 ·have:=l1 (spW zdQ) (by decide) _ (by simp) p2;omega
 split
 ·have:=l1 (spW zfM) (by decide) _ (by simp) p2;omega
 split
 ·have:=l1 (spW zdP) (by decide) _ (by simp) p2;omega
 split
 ·rw[zh];have:=l1 (spW zek) (by decide) _ (by simp) p0;omega
 split
 ·rw[zh];have:=l1 (spW zbX) (by decide) _ (by simp) p0;omega
 split
 ·rw[zh,zh];have:=l1 (spW wPos) (by decide) _ (by simp) p1;have:=l1 (zcS (ndM n)) (zd3 _) [] (by decide) p0;omega
 split
 ·rw[zh,zh];have:=l1 (spW zbG) (by decide) _ (by simp) p2;have:=l1 (spW wOf++ [32]) (by decide) [] (by decide) p0;omega
 ·exact zk _
theorem zhe:∀ t:Tr,TrOk t->t.text.length≤3000 * t.size
 | .leaf n,h=>by
  have:=zr4 (zkV h.1);show (zeN n).length≤3000 * 1;omega
 | .un n a,h=>by
  have h1:=zoR [] (zkV h.1);have h2:=zhe a h.2.2.2;have h3:=zf0 (decide (a.lev≥4)) a.text;show (parS _ a.text++zc8 [] n).length≤3000 * (a.size+1);rw[zh];rw[zX]at h1;omega
 | .bin n a b,h=>by
  have h1:=zhe a h.2.2.2.1;have h2:=zhe b h.2.2.2.2;show _≤3000 * (a.size+b.size+1);rw[zmN];split
  ·have h3:=zf0 (decide (a.lev≥4)) a.text;have h4:=zf0 (decide (b.lev≥5)) b.text;have h5:=zoR (parS (decide (b.lev≥5)) b.text) (zkV h.1);rw[zh];omega
  ·have h3:=zf0 (decide (a.lev≥levS (ndK n))) a.text;have h4:=zf0 (decide (b.lev≥levS (ndK n)+1)) b.text;have h5:(putS ([32]++opWd (levS (ndK n))++ [32]) []).length≤20:=by
    have h6:=zmb (ndK n);show (([32]++opWd (levS (ndK n))++ [32])++ []:List UInt8).length≤20;rcases (show levS (ndK n)=1∨levS (ndK n)=2∨levS (ndK n)=3∨levS (ndK n)=4∨levS (ndK n)=5 by omega) with e|e|e|e|e<;>rw[e]<;>decide
   rw[zh,zh];omega
theorem ztA {t:Tr} (h:TrOk t) (hs:t.size≤64):t.text≠ []:=fun e=>by
 have h1:=zoa h hs;rw[e]at h1;have h2:(match zfo [] with | .ok _=>true| .error _=>false)=false:=by kernel_rfl
 rw[h1]at h2;cases h2
theorem zrJ (A:Option Addr) (n c:Nat):Tryz.prog.built 107 [(1,.slice A n c)]=some #[.pointer none,.slice none 0 0,.slice A n c]:=by kernel_rfl
abbrev prV:Ty:=.hcons .lit (.hcons .lit (.hcons (.slice nd) .unit))
def prX (r:List Nd):prV.T:=(.pointer none,(.slice none 0 0,(r,())))
section
variable {w0:zi} {X:Ownr} {n:Nat} {Q:Exit->AS->Prop} {ops:Array Oper} {F:Frame} {E:Owns} {nx:Nat}
theorem AL.bldPr {o:Oper} {rest:List Oper} {x:zG} (ho:o.op= .build 107 #[(1,x)]) (hgd:o.guard=none) {d:Nat} (hd:o.dst=some d) (hdn:z6 d n=true) {r:List Nd} (hx:evO F x=⟨.slice nd,r⟩)
  (h:AL Tryz.prog w0 X n ops rest ⟨(d,⟨prV,prX r⟩)::F,E,nx⟩ Q):AL Tryz.prog w0 X n ops (o::rest) ⟨F,E,nx⟩ Q:=by
 refine AL.hand hgd (fun c e=>by rw[ho]at e;cases e) fun β a w hs=>?_;have hsx:=hs.ops x;rw[show evO (AS.mk F E nx).F x=_ from hx]at hsx;have hsx':=hsx;obtain⟨v,e,hS⟩:=hsx;obtain⟨A,m,c,hv⟩:∃ A m c,a.eval x= .slice A m c:=by
  rw[List.singleton_inj.1 e];rcases hS with ⟨_,A,c,rfl,_⟩|⟨g,off,c,vs,rfl,_⟩
  ·exact⟨_,_,_,rfl⟩
  ·exact⟨_,_,_,rfl⟩
 rw[hv]at hsx';refine zoF hd hdn (v:=⟨prV,prX r⟩) (zk _) (N:=fun σ'=>AL Tryz.prog w0 X n ops rest σ' Q) h hs (u:=.agg #[.pointer none,.slice none 0 0,.slice A m c]) ?_ ?_
 ·unfold execOp;simp only[ho];refine zeG ?_;rw[show (#[(1,x)]:Array (Nat×zG)).map (fun p=>(p.1,a.eval p.2))= #[(1,Value.slice A m c)] from by simp[hv]];exact run_build w _ _ _ (zrJ A m c)
 ·exact⟨_,[_,_],rfl,rfl,rfl,_,[_],rfl,rfl,rfl,_,[],rfl,rfl,hsx',[],rfl,rfl⟩
theorem AL.box3 (hX:X.Ok w0) {o:Oper} {rest:List Oper} {t:zp} {x:zG} (ho:o.op= .box t x) (hgd:o.guard=none) {d:Nat} (hd:o.dst=some d) (hdn:z6 d n=true) {A:Ty} {q1 q2:Value} {p:A.T} (hx:evO F x=⟨.hcons .lit (.hcons .lit (.hcons A .unit)),(q1,(q2,(p,())))⟩)
  (hA:A.plainL=true) (hbA:(⟨A,p⟩:V).bound=0) (h:AL Tryz.prog w0 X n ops rest ⟨(d,⟨.hptr,(nx,(0:Nat))⟩)::F,(nx,some (.hbox t [⟨.lit,q1⟩,⟨.lit,q2⟩,⟨A,p⟩]))::E,nx+1⟩ Q):AL Tryz.prog w0 X n ops (o::rest) ⟨F,E,nx⟩ Q:=by
 refine AL.hand hgd (fun c e=>by rw[ho]at e;cases e) fun β a w hs=>?_;have hlt:d < n:=by simpa using hdn
 have h1:=hs.ops x;rw[show evO (AS.mk F E nx).F x=_ from hx]at h1;obtain⟨c1,s1,e1,hc1,r1,h2⟩:=h1;obtain⟨c2,s2,e2,hc2,r2,h3⟩:=h2;obtain⟨c3,s3,e3,hc3,r3,h4⟩:=h3;obtain⟨cs,e4,h4⟩:∃ cs:List Value,(Value.agg s3.toArray)= .agg cs.toArray∧RepC w (OSet X E β) .unit () cs:=(RepD.agg rfl).1 h4;have h4:cs=[]:=h4;subst h4;have e4:s3=[]:=by
  have:=vP e4
  simpa using congrArg vf this
 subst e4;have e3:s2=[c3]:=by
  have:=vP e3
  simpa using congrArg vf this
 subst e3;have e2:s1=[c2,c3]:=by
  have:=vP e2
  simpa using congrArg vf this
 subst e2;refine zbL (u:=.pointer (some ⟨w.heap.size,0,none⟩)) (w':=w.alloc (.cells #[c1,c2,c3] t (0,0))) ?_ ?_
 ·unfold execOp;simp only[ho];refine zeG ?_;rw[e1];simp[Instr.box,newVar,newRow,Value.cells,go_sem]
 ·rw[hd];have hk:Below w.heap.size w (w.alloc (.cells #[c1,c2,c3] t (0,0))):=(zU _ w).alloc (zj _) (.cells #[c1,c2,c3] t (0,0));obtain⟨β',h4⟩:=hs.make hX hk (bv:=.pointer (some ⟨w.heap.size,0,none⟩)) (o:=.hbox t [⟨.lit,q1⟩,⟨.lit,q2⟩,⟨A,p⟩])
   (fun O β' hO=>by
     have hkk:Keeps w (w.alloc (.cells #[c1,c2,c3] t (0,0))) (OSet X E β) O:=.of_below hk fun g hg hg'=>by
      rcases hO g hg' with h5|h5
      ·exact h5
      ·simp[zai]at h5;omega
     exact⟨w.heap.size,[c1,c2,c3],rfl,zk _,xo w _,⟨c1,[c2,c3],rfl,hc1,r1,⟨c2,[c3],rfl,hc2,r2,⟨c3,[],rfl,hc3,RepV.plainL hkk hA r3,rfl⟩⟩⟩⟩) (fun g hg=>by cases hg;exact zj _) (v:=⟨.hptr,(nx,(0:Nat))⟩) (u:=.pointer (some ⟨w.heap.size,0,none⟩))
   (fun O β' hb=>⟨w.heap.size,by show zai (β' nx)=_;rw[show β' nx=_ from hb];rfl,rfl⟩) (zj _) hlt (fun vs e v hv=>by
     cases e;rcases zP.1 hv with rfl|hv
     ·exact zk _
     ·rcases zP.1 hv with rfl|hv
      ·exact zk _
      ·rw[zw.1 hv,hbA];exact zk _)
  exact⟨_,β',h4,h⟩
end
theorem zji {w0:zi} {O:Nat->Prop} (hX:(qh gmH O).Ok w0) {ty:zp}:ginv w0 (qh gmH O).R ty:=⟨Ownr.plain_noR _ _ _,Ownr.plain_noR _ _ _⟩
theorem know3 (k:Int) (h:0≤k∧k≤2):zlv (znd k):=by
 have key:∀ k:Fin 3,zlv (znd ((k.val:Nat):Int)):=by
  intro k;unfold zlv;revert k;decide+kernel
 have:=key ⟨k.toNat,by omega⟩;rwa[show (((⟨k.toNat,by omega⟩:Fin 3).val:Nat):Int)=k by show ((k.toNat:Nat):Int)=k;omega]at this
def zsA (k:Nat):List Cal:=(List.range 3).map fun j=>if j < k then znd ((j:Nat):Int) else zCal
theorem bufC {te:zp} {x y:List Cal} (h:x=y):some (OObj.buf te cal x)=some (OObj.buf te cal y):=by rw[h]
theorem zuP:∀ c∈zsA 3,zlv c:=fun c hc=>by
 obtain⟨j,hj,rfl⟩:=List.mem_map.1 hc;have hj:=List.mem_range.1 hj;rw[if_pos hj];exact know3 _ ⟨by omega,by omega⟩
def cFmt:Ctr:={ args:=[.slice nd],pre:=fun _=>[],res:=.tup .str (.tup i64 .unit),own:=none,out:=fun x=>((fmtS x.1).1,(fmtS x.1).2,()) }
def kFm:Kn:={ gmK with C:=[(59,zqO),(34,zuS)] }
theorem zbV:KnOk Tryz.prog gmH kFm:=zak.with (.cons zr8 <| .cons zto .nil)
def hFm:List (zO×HCtr):=[(60,zlz 65),(61,zoz prT [107])]
theorem zs2:HsOk Tryz.prog gmH hFm:=.cons (zsU 65).1 <| .cons zt7 .nil
set_option maxHeartbeats 1000000 in
theorem zll:yB Tryz.prog gmH 24 cFmt:=by
 refine zap (K:=kFm) zbV Tryz.func24 rfl rfl Tryz.call24 rfl (by decide) (by intro h;cases h) ?_;rintro w0 X hX ⟨(r:List Nd),_⟩ hp;change AWP _ _ _ _ _ ⟨[(0,⟨.slice nd,r⟩)],[],0⟩ _;refine AWP.len 0 rfl fun hl=>?_;unfold maxLen at hl;have hI:∀ w R,(∀ g,R g->w0.heap.size≤g∨(qh gmH X).R g)->(qh gmH X).G w->bInv prT [107] w R 107:=fun w R hR hw=>⟨zaN (ty:=107) hX rfl (zji hX) (ty':=107) w R hR hw,zw.2 rfl⟩;refine za (za ?_);refine zaa hX zbV rfl ?_ ?_
 ·trivial
 refine za (za ?_);refine zaa hX zbV rfl ?_ ?_
 ·exact⟨by decide,by decide,(by decide:(3:Int)≤1000000000)⟩
 refine za (za ?_);refine zaa hX zbV rfl ?_ ?_
 ·trivial
 (repeat(first|apply zae|apply zab|apply zac|apply zad));refine yD (ι:=Nat) (fun k=>⟨[(0,⟨.slice nd,r⟩),(4,⟨.obuf cal,(0:Nat)⟩),(10,⟨i64,(3:Int)⟩),(11,⟨i64,(k:Int)⟩)],[(0,some (.buf 63 cal (zsA k)))],1⟩) (fun k=>k≤3) (fun k=>3 - k) 0 (zk _) ⟨⟨rfl,rfl,rfl,rfl,trivial⟩,⟨rfl,trivial⟩,rfl,rfl⟩ ?_;intro k hk;refine za (za ?_);refine zaa hX zbV rfl ?_ ?_
 ·trivial
 apply zae;refine zaf rfl (fun hb=>?_) (fun hb=>?_)
 ·have hb:decide ((k:Int) < 3)=true:=hb;have hb:=of_decide_eq_true hb;have z0:(0:Int)≤(k:Int):=by omega
  have z1:(k:Int)≤2:=by omega
  have z2:(k:Int) < (((zsA k).length:Nat):Int):=by show (k:Int) < ((3:Nat):Int);omega
  have z3:((k:Int)).toNat < (zsA k).length:=by show _ < 3;omega
  refine za (za ?_);refine zaa hX zbV rfl ?_ ?_
  ·trivial
  refine za (za ?_);refine zaa hX zbV rfl ?_ ?_
  ·repeat'(first|exact trivial|exact z0|exact z1|exact z2|exact z3|(refine⟨?_,?_⟩))
  refine za (za ?_);refine zaa hX zbV rfl ?_ ?_
  ·exact zaZ (by omega)
  refine⟨k+1,by omega,by omega,⟨rfl,rfl,rfl,zdM _,trivial⟩,⟨bufC ?_,trivial⟩,rfl,rfl⟩;rcases (show k=0∨k=1∨k=2 by omega) with rfl|rfl|rfl<;>rfl
 have hb:decide ((k:Int) < 3)=false:=hb;have hb:=of_decide_eq_false hb;obtain rfl:k=3:=by omega
 apply zad;refine qS hX 4 ?_;refine za (za ?_);refine zaa hX zbV rfl ?_ ?_
 ·exact⟨rfl,zuP⟩
 refine za (za ?_);refine zaa hX zbV rfl ?_ ?_
 ·trivial
 refine zaf rfl (fun hb=>?_) (fun hb=>?_)
 ·have hb:(zdA r != 0)=true:=hb;have hb:=bne_iff_ne.1 hb;(repeat(first|apply zae|apply zab|apply zal|apply zad|apply zac|refine zaa hX zbV rfl trivial ?_|refine zaa hX zbV rfl id ?_|refine zaa hX zbV rfl ⟨id,id⟩ ?_));refine zm ⟨.inr rfl,za9 (by decide) rfl rfl trivial ?_⟩;show (([]:List UInt8),zdA r,())=((fmtS r).1,(fmtS r).2,());unfold fmtS;rw[if_neg hb]
 have hb:(zdA r != 0)=false:=hb;have hv:zdA r=0:=by
  have:=bne_eq_false_iff_eq.1 hb;exact this
 have hwf:=zlN hv;have hok:=ztz hwf;have hsz:=zoP hwf;have htx:=zoO hwf;have htl:=zhe _ hok;obtain⟨⟨w1,w2⟩,_⟩:=zej hwf;have hne:=ztA hok (by omega);apply zab;refine zam (σ':=⟨[(0,⟨.slice nd,r⟩)],[],1⟩) ⟨⟨rfl,trivial⟩,trivial,rfl,rfl⟩ ?_;apply zae;refine zah ?_;refine yy 1 hX zbV rfl trivial ?_;refine AL.bldPr rfl rfl rfl rfl rfl ?_;refine AL.box3 hX rfl rfl rfl rfl rfl rfl rfl ?_;refine AL.nilLeaf 1 1 5 u8 rfl rfl rfl ?_;refine zY hX zbV rfl trivial ?_;have p0:(0:Int)≤((r.length:Nat):Int) - 1:=by omega
 have p1:(((r.length:Nat):Int) - 1).toNat < 65:=by omega
 have p2:(((r.length:Nat):Int) - 1).toNat < r.length:=by omega
 have hnf:zdl 65 r (((r.length:Nat):Int) - 1)=(zdR r).text:=by
  rw[<-htx];have hlow:=zm7 (zej hwf).2.1;rw[show (((r.length:Nat):Int) - 1)=((r.length - 1:Nat):Int) by omega,zhm hlow _ _ (by omega) (by omega),zhm hlow _ _ (by omega) (by omega),zjr hlow 65 (r.length+1) _ (by omega) (by omega) (by omega)]
 have p3:zf ([]:List UInt8)+zf (zdl 65 r (((r.length:Nat):Int) - 1))+10000≤1000000000:=by
  rw[hnf,zX];omega
 have p4:inR .i64 (((r.length:Nat):Int) - 1):=zaq (by omega) (by omega);refine zam (σ':=⟨[(0,⟨.slice nd,r⟩),(7,⟨.hptr,((1:Nat),(0:Nat))⟩)],[(1,some (.hbox 107 [adV 1 false,⟨.obuf u8,(2:Nat)⟩,⟨.slice nd,r⟩])),(2,some (.buf 5 u8 []))],3⟩) ⟨⟨rfl,rfl,trivial⟩,⟨rfl,rfl,trivial⟩,rfl,rfl⟩ ?_;refine yO (σ':=⟨[(7,⟨.hptr,((1:Nat),(0:Nat))⟩)],[(1,some (.hbox 107 [adV 1 true,⟨.obuf u8,(2:Nat)⟩,⟨.slice nd,r⟩])),(2,some (.buf 5 u8 (zdR r).text))],3⟩) ?_ ?_
 ·refine zah ?_;refine yl 4 hX zbV zs2 rfl p4 rfl rfl ⟨wfp_of hwf,p0,p1,p2,p3⟩ hI ?_;refine yf ?_;exact⟨⟨rfl,trivial⟩,⟨rfl,(by show some (OObj.buf _ u8 ([]++zdl 65 r _))=_;rw[yV,hnf]),trivial⟩,rfl,rfl⟩
 have hf:fmtS r=if 4000 < (zdR r).text.length then ([],2) else ((zdR r).text,0):=by unfold fmtS;rw[if_pos hv]
 generalize (zdR r).text=T at hf hne;(repeat(first|apply zae|apply zab|apply zac|apply zad));refine zah ?_;refine yy 2 hX zbV rfl trivial ?_;refine jz (eqP0 _ _ rfl) hX zbV rfl trivial ?_;refine yl 0 hX zbV zs2 rfl trivial rfl rfl trivial hI ?_;refine zY hX zbV rfl trivial ?_;refine zam (σ':=⟨[(7,⟨.hptr,((1:Nat),(0:Nat))⟩),(41,⟨.bool,decide (((T.length:Nat):Int) > 4000)⟩)],[(1,some (.hbox 107 [adV 1 true,⟨.obuf u8,(2:Nat)⟩,⟨.slice nd,r⟩])),(2,some (.buf 5 u8 T))],3⟩) ⟨⟨rfl,rfl,trivial⟩,⟨rfl,rfl,trivial⟩,rfl,rfl⟩ ?_;refine zaf rfl (fun hb=>?_) (fun hb=>?_)
 ·have hb:=of_decide_eq_true hb;(repeat(first|apply zae|apply zab|apply zal|apply zad|apply zac|refine zaa hX zbV rfl trivial ?_|refine zaa hX zbV rfl id ?_|refine zaa hX zbV rfl ⟨id,id⟩ ?_));refine zm ⟨.inr rfl,za9 (by decide) rfl rfl trivial ?_⟩;show (([]:List UInt8),(2:Int),())=((fmtS r).1,(fmtS r).2,());rw[hf,if_pos (by omega)]
 ·have hb:=of_decide_eq_false hb;apply zab;(repeat(first|apply zae|apply zab|apply zac|apply zad));refine zah ?_;refine yy 2 hX zbV rfl trivial ?_;refine jz (eqP0 _ _ rfl) hX zbV rfl trivial ?_;refine AL.give hX (zkw prT rfl [107]) rfl rfl rfl rfl rfl rfl rfl rfl rfl rfl rfl rfl trivial hne hI rfl rfl ?_;show AL _ _ _ _ _ _ _ _;refine zY hX zbV rfl trivial ?_;refine zm ⟨.inr rfl,za9 (by decide) rfl rfl trivial ?_⟩;show (T,(0:Int),())=((fmtS r).1,(fmtS r).2,());rw[hf,if_neg (by omega)]
section
variable {P:Program} {w0:zi} {X:Ownr} {n:Nat} {σ:AS} {Q:Exit->AS->Prop} {ops:Array Oper}
theorem AL.guardU (j s:Nat) (b:Bool) (t:Ty) (y:t.T) {z:Bool} {o:Oper} {rest:List Oper} (hg:o.guard=some (j,b)) (hd:(ops[j]?).bind (·.dst)=some s) (hs:Frame.get σ.F s=⟨.cond .bool,(false,z)⟩) (hsn:z6 s n=true) {d:Nat} (hdst:o.dst=some d) (hdn:z6 d n=true) (h:AL P w0 X n ops rest ⟨(d,⟨.cond t,(false,y)⟩)::σ.F,σ.E,σ.nx⟩ Q) (hb:bnd t y=0:=by rfl):AL P w0 X n ops (o::rest) σ Q:=by
 intro β a w hsim;have hv:a.tmps.getD s undef=undef:=by
  have h2:=hsim.fr s;rw[hs]at h2;exact h2.2 rfl
 have hsz:s < a.tmps.size:=by rw[hsim.sz];simpa using hsn
 have hy:yielded ops a.tmps j=none:=by
  unfold yielded;rw[hd];have:a.tmps[s]? =some undef:=by
   rw[Array.getD_eq_getD_getElem?,yi hsz]at hv;rw[yi hsz];exact congrArg some hv
  show (match (a.tmps[s]?) with
   |some (.bool b)=>some b
   |_=>none)=none
  rw[this];rfl
 have hw:¬ zH o (yielded ops a.tmps)=true:=by simp[zH,hg,hy]
 show if zH o (yielded ops a.tmps)=true then _ else _
 rw[if_neg hw];refine⟨fun f _=>ze0 _ f,?_⟩;rw[hdst];exact h _ _ _ (hsim.put (zU _ _) (v:=⟨.cond t,(false,y)⟩) ⟨fun h=>(by cases h),fun _=>rfl⟩ (by rw[show V.bound ⟨.cond t,(false,y)⟩=bnd t y from rfl,hb];exact zk _) (by simpa using hdn))
end
def TrSh:Tr->Prop
 | .leaf n=>¬ (8≤ndK n∧ndK n≤17)∧(0≤ndL n∧ndL n≤1)∧ndR n=0
 | .un n a=>(11≤ndK n∧ndK n≤16)∧ndR n=0∧TrSh a
 | .bin n a b=>((8≤ndK n∧ndK n≤10)∨ndK n=17)∧TrSh a∧TrSh b
theorem zhD:∀ t:Tr,1≤t.size
 | .leaf _=>zj _
 | .un _ a=>by have:=zhD a;rw[Tr.size];omega
 | .bin _ a b=>by have:=zhD a;rw[Tr.size];omega
theorem zoK {k:Int}:two k=true↔(8≤k∧k≤10)∨k=17:=by
 unfold two;rw[zJ,zJ,zJ,beq_iff_eq,beq_iff_eq,beq_iff_eq,beq_iff_eq];omega
theorem zl7 {n:Nd} {b:Int} (h:¬ (8≤ndK n∧ndK n≤17)):zcy b n=n:=by
 obtain⟨k,c,L,R,rest⟩:=n;have h:¬ (8≤k∧k≤17):=h;have h2:¬ two k=true:=by rw[zoK];omega
 unfold zcy;rw[if_neg h,if_neg h2]
theorem zpP {n:Nd} {b x:Int} (h:11≤ndK n∧ndK n≤16):zcy b (setL n x)=setL n (x+b):=by
 obtain⟨k,c,L,R,rest⟩:=n;have h:11≤k∧k≤16:=h;have h1:8≤k∧k≤17:=by omega
 have h2:¬ two k=true:=by rw[zoK];omega
 show (k,c,(if 8≤k∧k≤17 then x+b else x),(if two k then R+b else R),rest)=(k,c,x+b,R,rest);rw[if_pos h1,if_neg h2]
theorem zok {n:Nd} {b x y:Int} (h:(8≤ndK n∧ndK n≤10)∨ndK n=17):zcy b (zel n x y)=zel n (x+b) (y+b):=by
 obtain⟨k,c,L,R,rest⟩:=n;have h:(8≤k∧k≤10)∨k=17:=h;have h1:8≤k∧k≤17:=by omega
 have h2:two k=true:=zoK.2 h;show (k,c,(if 8≤k∧k≤17 then x+b else x),(if two k then y+b else y),rest)=(k,c,x+b,y+b,rest);rw[if_pos h1,if_pos h2]
theorem ze7:∀ (t:Tr) (i j:Nat),TrSh t->zdC (t.flat i) (j:Int)=t.flat (i+j)
 | .leaf n,i,j,h=>by
  rw[vl,vl];show [zcy _ n]=_;rw[zl7 h.1]
 | .un n a,i,j,h=>by
  rw[vl,vl];unfold zdC;rw[xO];have:=ze7 a i j h.2.2;unfold zdC at this;rw[this];show _++ [zcy _ _]=_;rw[zpP h.1]
  congr 3
  have:=zhD a;omega
 | .bin n a b,i,j,h=>by
  rw[vl,vl];unfold zdC;rw[xO,xO];have ha:=ze7 a i j h.2.1;have hb:=ze7 b (i+a.size) j h.2.2;unfold zdC at ha hb;rw[ha,hb,show i+a.size+j=i+j+a.size by omega];show _++ [zcy _ _]=_;rw[zok h.1];have:=zhD a;have:=zhD b;rw[show ((i+a.size:Nat):Int) - 1+(j:Int)=((i+j+a.size:Nat):Int) - 1 by omega,show ((i+a.size+b.size:Nat):Int) - 1+(j:Int)=((i+j+a.size+b.size:Nat):Int) - 1 by omega]
theorem zpI (a:Tr) (n:Nd):ziN (a.flat 0) n=(Tr.un n a).flat 0:=by
 rw[vl];unfold ziN;rw[j6,yu]
theorem zlE (a b:Tr) (n:Nd) (h:TrSh b):zeg (a.flat 0) (b.flat 0) n=(Tr.bin n a b).flat 0:=by
 rw[vl];unfold zeg;rw[j6,j6,ze7 b 0 a.size h,yu]
 congr 3
end
section
attribute [local go_sem] Oper.semAt_some
set_option maxHeartbeats 1000000 in
theorem ziO (s:ByteArray) (c:Int) (w:zi):
  Calls Tryz.prog 217 #[.string s,.int .u8 c] w fun e w'=>e= .returned (.int .i64 (xj s.data.toList c.toNat.toUInt8))∧w'=w:=by
 go_enter Tryz.func217,Tryz.ntmps217
 go_wp2
 rw[run_callFunc_extern Tryz.func244 (by kernel_rfl) (by kernel_rfl) (by kernel_rfl) (e:=kO) (by kernel_rfl),Lib.run_indexByteString];simp only[Result.andThen];rw[Oper.upon_value]
 go_wp2
 go_ret
 exact⟨rfl,rfl⟩
theorem zud (l:List UInt8) (c:UInt8):(xj l c= -1∧∀ x∈l,x≠c)∨∃ n:Nat,xj l c=(n:Int)∧n < l.length∧(∀ x∈l.take n,x≠c)∧l.drop n=c::l.drop (n+1):=by
 induction l with
 |nil=>exact .inl ⟨rfl,by simp⟩
 |cons b l ih=>
  unfold xj;by_cases h:b=c
  ·refine .inr ⟨0,by rw[if_pos (by simp[h])];rfl,by simp,by simp,by simp[h]⟩
  ·rw[if_neg (by simp[h])];rcases ih with ⟨h1,h2⟩|⟨n,h1,h2,h3,h4⟩
   ·refine .inl ⟨by rw[h1];rfl,fun x hx=>?_⟩;rcases zP.1 hx with rfl|hx
    ·exact h
    ·exact h2 x hx
   ·refine .inr ⟨n+1,?_,by simp;omega,fun x hx=>?_,by simpa using h4⟩
    ·rw[h1,if_neg (by simp)];omega
    ·rw[qV]at hx;rcases zP.1 hx with rfl|hx
     ·exact h
     ·exact h3 x hx
def segF:List UInt8->List UInt8->List (List UInt8)
 |c,[]=>[c]
 |c,x::r=>if x=10 then c::segF [] r else segF (c++ [x]) r
def segs (s:List UInt8):List (List UInt8):=segF [] s
set_option maxHeartbeats 1000000 in
theorem zlW (s:ByteArray) (c:UInt8) (w:zi):
  Calls Tryz.prog 184 #[.string s,.string ⟨#[c]⟩] w fun e w'=>e= .returned (.int .i64 (xj s.data.toList c))∧w'=w:=by
 go_enter Tryz.func184,Tryz.ntmps184
 go_wp2_with (go_at_call 217;refine (ziO s _ _).mono ?_;rintro e w' ⟨rfl,rfl⟩)
 ·rename_i hs
  go_ret
  rw[ByteArray.toList_eq]at hs;have hs:=eq_of_beq hs;refine⟨?_,rfl⟩;rw[<-hs];show uC (.int .i64 0)=uC (.int .i64 (xj [c] c));unfold xj;rw[if_pos (by simp)]
 ·go_ret
  exact⟨rfl,rfl⟩
set_option maxHeartbeats 1000000 in
theorem zju (s:ByteArray) (c:UInt8) (w:zi):
  Calls Tryz.prog 147 #[.string s,.string ⟨#[c]⟩] w fun e w'=>e= .returned (.int .i64 (xj s.data.toList c))∧w'=w:=by
 go_enter Tryz.func147,Tryz.ntmps147
 go_wp2_with (go_at_call 184;refine (zlW s c _).mono ?_;rintro e w' ⟨rfl,rfl⟩)
 go_ret
 exact⟨rfl,rfl⟩
def itV (w:zi):Value:=.func (.func 145) #[] #[.pointer (some ⟨w.heap.size+1,0,none⟩),.pointer (some ⟨w.heap.size,0,none⟩),.pointer (some ⟨w.heap.size+1+1,0,none⟩)]
def itW (w:zi) (s p:ByteArray):zi:=((w.alloc (.cells #[.string s] 9)).alloc (.cells #[.string p] 9)).alloc (.cells #[.int .i64 0] 3)
set_option maxHeartbeats 1000000 in
theorem ziJ (s p:ByteArray) (w:zi):Calls Tryz.prog 85 #[.string s,.string p,.int .i64 0] w fun e w'=>e= .returned (itV w)∧w'=itW w s p:=by
 go_enter Tryz.func85,Tryz.ntmps85
 go_wp2
 go_ret
 refine⟨?_,rfl⟩;unfold itV;simp
set_option maxHeartbeats 1000000 in
theorem zjv (s p:ByteArray) (w:zi):Calls Tryz.prog 50 #[.string s,.string p] w fun e w'=>e= .returned (itV w)∧w'=itW w s p:=by
 go_enter Tryz.func50,Tryz.ntmps50
 go_wp2_with (go_at_call 85;refine (ziJ s p _).mono ?_;rintro e w' ⟨rfl,rfl⟩)
 go_ret
 exact⟨rfl,rfl⟩
theorem zkE (p:List UInt8) (hp:∀ x∈p,x≠10) (r:List UInt8):∀ (c:List UInt8),segF c (p++r)=segF (c++p) r:=by
 induction p with
 |nil=>intro c;rw[z7];rfl
 |cons x p ih=>
  intro c;rw[qt];show (if x=10 then _ else _)=_;rw[if_neg (hp x (zS ..)),ih (fun y hy=>hp y (yk _ hy)),zz];rfl
theorem zkD {l:List UInt8} (h:∀ x∈l,x≠10):segs l=[l]:=by
 have:=zkE l h [] [];rw[z7,yV]at this;exact this
theorem zkC {l:List UInt8} {n:Nat} (h:∀ x∈l.take n,x≠10) (hd:l.drop n=10::l.drop (n+1)):segs l=l.take n::segs (l.drop (n+1)):=by
 have:=zkE (l.take n) h (l.drop n) [];rw[List.take_append_drop,yV,hd]at this;exact this.trans (if_pos rfl)
theorem zu5 (l:List UInt8) (n:Nat):(vm l.toArray).extract 0 n=⟨(l.take n).toArray⟩:=by
 apply uK;rw[jP];simp
theorem zu6 (l:List UInt8) (n:Nat):(vm l.toArray).extract n l.length=⟨(l.drop n).toArray⟩:=by
 apply uK;rw[jP];simp;exact List.take_of_length_le (by rw[ya];exact zj _)
def itI (gs gp gv:Nat) (g:Nat):Prop:=g=gs∨g=gp∨g=gv
noncomputable def zsZ (gs:Nat) (W:zi):Nat:=match W.cell? ⟨gs,0,none⟩ with |some (.string s)=>s.size|_=>0
set_option maxHeartbeats 2000000 in
theorem znS (l gs gp gv:Nat) (s:List UInt8) (J:Nat->zi->Prop) (Jr:zi->Prop) (W:zi) (hne:gs≠gp∧gs≠gv) (hlen:s.length≤2000000)
  (hs:W.heap[gs]? =some (.cells #[.string ⟨s.toArray⟩] 9 (0,0))) (hp:W.heap[gp]? =some (.cells #[.string ⟨#[10]⟩] 9 (0,0))) (hv:W.heap[gv]? =some (.cells #[.int .i64 0] 3 (0,0)))
  (hJ:∀ k A C,J k A->Kept (itI gs gp gv) A C->J k C)
  (hY:∀ k y W1,J k W1->(segs s)[k]? =some y->W.heap.size≤W1.heap.size->YieldAt yz 0 Tryz.prog l #[.string ⟨y.toArray⟩] W1 fun e W'=>(e= .returned (.bool true)∧J (k+1) W'∧SameOn (itI gs gp gv) W.heap.size W1 W')∨(e= .returned (.bool false)∧Jr W'))
  (h0:J 0 W):
  CallsIn yz 1 Tryz.prog 145 #[.func (.yield l) #[] #[],.pointer (some ⟨gp,0,none⟩),.pointer (some ⟨gs,0,none⟩),.pointer (some ⟨gv,0,none⟩)] W fun e W'=>(∃ v,e= .returned v)∧(J (segs s).length W'∨Jr W'):=by
 refine callsIn_of_wp Tryz.func145 rfl trivial ?_ rfl;have c1:=(za6 hp).1;have c2:=za6 hs;simp only[Tryz.ntmps145,List.size_toArray,zr,zX,Nat.reduceAdd,Nat.reduceSub,Array.replicate_succ,Array.replicate_zero,List.push_toArray,List.append_toArray,yV,qt]
 gi_wp2
 gi_loopw [7] (fun p wr=>∃ (pre:List (List UInt8)) (rest:List UInt8),segs s=pre++segs rest∧rest.length≤s.length∧wr.heap[gs]? =some (.cells #[.string ⟨rest.toArray⟩] 9 (0,0))∧wr.heap[gp]? =some (.cells #[.string ⟨#[10]⟩] 9 (0,0))∧wr.heap[gv]? =some (.cells #[.int .i64 0] 3 (0,0))∧J pre.length wr∧W.heap.size≤wr.heap.size)
  (fun p wr=>zsZ gs wr)
 case atStart=>exact⟨[],s,rfl,zj _,hs,hp,hv,h0,zj _⟩
 case round=>
  obtain⟨pre,rest,hsg,hrl,hs',hp',hv',hj,hsz⟩:=hrel;have d1:=(za6 hp').1;have d2:=za6 hs';have d3:=(za6 hv').1
  gi_wp2
  refine⟨trivial,(callsIn_wide.2 (zju _ _ _)).mono ?_⟩;rintro e w' ⟨rfl,rfl⟩;have hix:xj (vm rest.toArray).data.toList 10=xj rest 10:=rfl;rw[hix];rcases zud rest 10 with ⟨h1,h2⟩|⟨n,h1,h2,h3,h4⟩
  ·rw[h1];have hseg:=zkD h2;rw[hseg]at hsg;obtain⟨fn,tmps,assign,body,hy,hR⟩:=hY pre.length rest _ hj (by rw[hsg];simp) hsz
   gi_wp2
   refine hR.mono ?_;rintro e W3 (⟨rfl,hJ3,hk3⟩|⟨rfl,hp3⟩)
   ·gi_wp2
    go_end0
    refine⟨⟨_,rfl⟩,.inl ?_⟩;rw[hsg,zh];exact hJ3
   ·gi_wp2
    go_end0
    exact⟨⟨_,rfl⟩,.inr hp3⟩
  ·rw[h1];have hseg:=zkC h3 h4;rw[hseg]at hsg;have hn0:¬ (n:Int) < 0:=by omega
   have hex:(vm rest.toArray).extract 0 n=⟨(rest.take n).toArray⟩:=zu5 rest n;have hex2:(vm rest.toArray).extract (n+1) rest.length=⟨(rest.drop (n+1)).toArray⟩:=zu6 rest (n+1);have hnl:n < rest.length:=h2;obtain⟨fn,tmps,assign,body,hy,hR⟩:=hY pre.length (rest.take n) _ hj (by rw[hsg];simp) hsz
   gi_wp2
   refine hR.mono ?_;rintro e W3 (⟨rfl,hJ3,hk3⟩|⟨rfl,hp3⟩)
   ·have e1:=(hk3.block gs (.inl rfl)).trans hs';have e2:=(hk3.block gp (.inr (.inl rfl))).trans hp';have e3:=(hk3.block gv (.inr (.inr rfl))).trans hv';have f1:=(za6 e2).1;have f2:=za6 e1
    gi_wp2
    have g1:=zfs (.string ⟨(rest.drop (n+1)).toArray⟩) e1;refine⟨⟨pre++ [rest.take n],rest.drop (n+1),by rw[hsg,zz];rfl,by rw[ya];omega,g1,(xp W3 ⟨gs,0,none⟩ _ gp fun e=>hne.1 e.symm).trans e2,(xp W3 ⟨gs,0,none⟩ _ gv fun e=>hne.2 e.symm).trans e3,?_,?_⟩,?_⟩
    ·rw[zh,zN];exact hJ _ _ _ hJ3 (zdU W3 gs _ (.inl rfl))
    ·exact zV hk3.size (zdU (R:=itI gs gp gv) W3 gs _ (.inl rfl)).size
    ·unfold zsZ;rw[(za6 g1).1,d2.1];show (rest.drop (n+1)).toArray.size < rest.toArray.size;simp;omega
   ·gi_wp2
    exact⟨rfl,_,results_none rfl _ _ _,⟨_,rfl⟩,.inr hp3⟩
theorem zha {P:Program} {f:zO} {Q:Exit->Act->zi->Prop} {a:Act} {w:zi} {g:zG} {ps:Array Tmp} {assign body:Code} {m:Nat}
  (h:∃ (l:Nat) (mark:List Deferred) (w1:zi) (d:Deferred) (w1':zi) (gf:zO) (args:Array Value) (w2:zi),
    (Instr.enterLoop f a.tmps ps assign body none).run P w= .ok (l,mark) w1∧(resolve a.eval (rangeCall g l) 0).run P w1= .ok d w1'∧(invoke d.target d.args).run P w1'= .ok (.enter gf args) w2∧
    CallsIn yz m P gf args w2 (fun e w3=>(∃ v,e= .returned v)∧∃ jump w4,(Instr.endLoop l).run P w3= .ok jump w4∧(match jump with
     |none=>Q .normal { a with defers:=mark++a.defers } w4
     |some c=>zgt P f c Q { a with defers:=mark++a.defers } w4))):
  zgt P f (.rangeFunc g ps assign body) Q a w:=by
 intro b k cs hb hro;obtain⟨l,mark,w1,d,w1',gf,args,w2,he,hres,hinv,_,hcall⟩:=h;rw[<-hro, <-hb]at he;have henter:=stepR_rangeFunc (P:=P) (b:=b) (a:=a) (k:=k) (cs:=cs) (w:=w) he hres hinv;obtain⟨e,w3,fr,⟨⟨v,rfl⟩,jump,w4,hend,hj⟩,hsteps,hfn,hleave⟩:=hcall (b.atR { a with defers:=mark++a.defers } (.inRangeFunc l::k)::cs) (room_wide _);have sback:StepsIn (Machine.fenced P yz) P (lone (b.atR a (.code (.rangeFunc g ps assign body)::k)) cs w) (lone (b.atR { a with defers:=mark++a.defers } ((jump.map Item.code).toList++k)) cs w4):=by
  refine .head (fenced_wide P _) henter (StepsIn.trans hsteps (.head (fenced_wide P _) ?_ (.one (fenced_wide P _) (stepR_endRangeFunc hend))));rw[<-finish_atR_inRangeFunc l v];exact step_leave_returned hleave
 cases jump with
 |none=>exact⟨.normal,_,w4,hj,sback⟩
 |some c=>
  obtain⟨e',a'',w5,hq,harr⟩:=hj b k cs hb hro;exact⟨e',a'',w5,hq,.of_steps sback harr⟩
def zti (P:Program) (m:Nat) (gf:Nat) (lb:Array Value) (I:Nat->Prop) (ts:List (List UInt8)) (w:zi):Prop:=
 ∀ (l:Nat) (J:Nat->zi->Prop) (Jr:zi->Prop) (W:zi),Below w.heap.size w W->(∀ k A C,J k A->Kept I A C->J k C)->
  (∀ k y W1,J k W1->ts[k]? =some y->W.heap.size≤W1.heap.size->YieldAt yz (m - 1) P l #[.string ⟨List.toArray y⟩] W1 fun e W'=>(e= .returned (.bool true)∧J (k+1) W'∧SameOn I W.heap.size W1 W')∨(e= .returned (.bool false)∧Jr W'))->
  J 0 W->
  CallsIn yz m P gf (#[.func (.yield l) #[] #[]]++lb) W fun e W'=>(∃ v,e= .returned v)∧(J ts.length W'∨Jr W')
theorem ziF {P:Program} {f:zO} {m:Nat} {g:zG} {p:Tmp} {assign body:Code} {Q:Exit->Act->zi->Prop} {a:Act} {w:zi} {gf:Nat} {lb:Array Value} (hg:a.eval g= .func (.func gf) #[] lb) (eg:∀ args w,(callFunc gf args).run P w= .ok (.enter gf args) w)
  {I:Nat->Prop} {ts:List (List UInt8)} {w0:zi} (hseq:zti P m gf lb I ts w0) (hb0:Below w0.heap.size w0 w) (hI:∀ k,I k->k < w.heap.size)
  (J:Nat->zi->Prop) (Jr:zi->Prop) (N:Nat->List UInt8->Act->zi->Prop) (hJ:∀ k A C,J k A->Kept (fun g=>I g∨g=w.heap.size∨g=w.heap.size+1) A C->J k C) (hJr:∀ A C,Jr A->Kept (fun g=>I g∨g=w.heap.size∨g=w.heap.size+1) A C->Jr C)
  (hN:∀ k y a' A C,N k y a' A->Kept (fun g=>I g∨g=w.heap.size∨g=w.heap.size+1) A C->N k y a' C) (h0:∀ W1:zi,Below w.heap.size w W1->W1.heap.size=w.heap.size+2->J 0 W1)
  (hassign:∀ (l k:Nat) (y:List UInt8) (W:zi),J k W->ts[k]? =some y->w.heap.size+2≤W.heap.size->assign.wpIn (yz.inRound l) (m - 1) P (fun e a' W'=>e= .normal∧N k y a' W'∧SameOn (fun g=>I g∨g=w.heap.size∨g=w.heap.size+1) (w.heap.size+2) W W') { tmps:=((#[p]:Array Tmp).zip #[(.string ⟨y.toArray⟩:Value)]).foldl (fun t (p,v)=>t.setIfInBounds p v) a.tmps,defers:=[] } W)
  (hbody:∀ (l k:Nat) (y:List UInt8) (W:zi) (a':Act),ts[k]? =some y->w.heap.size+2≤W.heap.size->N k y a' W->
    body.wpIn (yz.inRound l) (m - 1) P (fun e _ W3=>((e= .normal∧J (k+1) W3)∨(e= .ret∧Jr W3))∧SameOn (fun g=>I g∨g=w.heap.size∨g=w.heap.size+1) (w.heap.size+2) W W3) a' W)
  (hdone:∀ W:zi,J ts.length W->W.heap[w.heap.size]? =some (.deferred (some []))->Q .normal { a with defers:={ target:=.collected w.heap.size,args:=#[] }::a.defers } W)
  (hret:∀ (W:zi),Jr W->W.heap[w.heap.size]? =some (.deferred (some []))->Q .ret { a with defers:={ target:=.collected w.heap.size,args:=#[] }::a.defers } W):
  zgt P f (.rangeFunc g #[p] assign body) Q a w:=by
 obtain⟨rec,hrec⟩:∃ rec:LoopState->Option Code->Loop,rec=fun st pe=>{ state:=st,pending:=pe,fn:=f,tmps:=a.tmps,params:=#[p],assign,body,defers:=w.heap.size }:=⟨_,rfl⟩;obtain⟨W1,hW1⟩:∃ W1,(w.alloc (.deferred (some []))).alloc (.loop (rec .ready none))=W1:=⟨_,rfl⟩;have hs1:W1.heap.size=w.heap.size+2:=by rw[<-hW1];simp
 have hL1:W1.heap[w.heap.size+1]? =some (.loop (rec .ready none)):=by
  rw[<-hW1];have:=xo (w.alloc (.deferred (some []))) (.loop (rec .ready none));rwa[World.size_alloc]at this
 have hK1:W1.heap[w.heap.size]? =some (.deferred (some [])):=by
  rw[<-hW1];exact (Below.heap_alloc _ _ _ (by simp)).trans (xo w _)
 have hb1':Below w.heap.size w W1:=by rw[<-hW1];exact ((zU _ w).alloc (zj _) _).alloc (by simp) _
 have hJ1:J 0 W1:=h0 _ hb1' hs1;have hb1:Below w0.heap.size w0 W1:=hb0.trans (hb1'.mono hb0.size);refine zha (m:=m) ⟨w.heap.size+1,[{ target:=.collected w.heap.size,args:=#[] }],W1,{ target:=.fn (.func gf) lb,args:=#[.func (.yield (w.heap.size+1)) #[] #[]] },W1,gf,
  #[.func (.yield (w.heap.size+1)) #[] #[]]++lb,W1,?_,?_,?_,?_⟩
 ·rw[<-hW1,hrec];exact run_enterLoop_outer _ _ _ _ _
 ·simp only[resolve,hg];simp[go_sem]
 ·simp[invoke,go_sem,eg]
 refine (hseq (w.heap.size+1) (fun k W=>J k W∧W.heap[w.heap.size+1]? =some (.loop (rec .ready none))∧W.heap[w.heap.size]? =some (.deferred (some []))) (fun W=>Jr W∧W.heap[w.heap.size+1]? =some (.loop (rec .done (some .ret)))∧W.heap[w.heap.size]? =some (.deferred (some []))) W1 hb1 ?_ ?_ ⟨hJ1,hL1,hK1⟩).mono ?_
 ·intro k A C hs hb;have hl:=(zo.1 hs.2.1).1;have hd:=(zo.1 hs.2.2).1;exact⟨hJ k _ _ hs.1 (hb.mono fun g h=>.inl h),(hb.block _ hl fun h=>by have:=hI _ h;omega).trans hs.2.1,(hb.block _ hd fun h=>by have:=hI _ h;omega).trans hs.2.2⟩
 ·rintro k y W ⟨hj,hl,hk⟩ hy1 hsz;have hlt:w.heap.size+1 < W.heap.size:=(zo.1 hl).1;have hy:=run_yield (P:=P) (args:=#[.string ⟨y.toArray⟩]) hl (by rw[hrec];rfl);rw[hrec]at hy;refine⟨f,_,assign,body,hy,roundIn_of_wpIn trivial ?_⟩;refine Go.wpIn_mono (hassign _ k y W hj hy1 (by omega)) ?_;rintro e a2 W2 ⟨rfl,hn2,hk2⟩;have hl2:W2.heap[w.heap.size+1]? =some (.loop (rec .ready none)):=(hk2.block _ (.inr (.inr rfl))).trans hl;have hd2:W2.heap[w.heap.size]? =some (.deferred (some [])):=(hk2.block _ (.inr (.inl rfl))).trans hk;have hlt2:w.heap.size+1 < W2.heap.size:=(zo.1 hl2).1;refine⟨_,run_beginRound hl2 (by rw[hrec]),?_⟩;have hl3:(W2.putObj (w.heap.size+1) (.loop { rec .ready none with state:=.busy })).heap[w.heap.size+1]? =some (.loop { rec .ready none with state:=.busy }):=qp hlt2;have hd3:(W2.putObj (w.heap.size+1) (.loop { rec .ready none with state:=.busy })).heap[w.heap.size]? =some (.deferred (some [])):=(xf (by omega)).trans hd2;have hn3:N k y a2 (W2.putObj (w.heap.size+1) (.loop { rec .ready none with state:=.busy })):=hN k y a2 _ _ hn2 (zda _ (.inr (.inr rfl)));have hp3:=grownBy_putObj' W2 (w.heap.size+1) (.loop { rec .ready none with state:=.busy });refine Go.wpIn_mono (hbody _ k y _ a2 hy1 (zV (by omega) hp3.size) hn3) ?_;rintro e a3 W3 ⟨he,hk3⟩;have hl4:W3.heap[w.heap.size+1]? =some (.loop { rec .ready none with state:=.busy }):=(hk3.block _ (.inr (.inr rfl))).trans hl3;have hd4:W3.heap[w.heap.size]? =some (.deferred (some [])):=(hk3.block _ (.inr (.inl rfl))).trans hd3;rcases he with ⟨rfl,hj3⟩|⟨rfl,hr3⟩
  ·have hr:=run_endRound (P:=P) none hl4;refine⟨_,_,hr,.inl ⟨rfl,⟨hJ _ _ _ hj3 (zda _ (.inr (.inr rfl))),?_,(xf (by omega)).trans hd4⟩,?_⟩⟩
   ·rw[qp (zo.1 hl4).1,hrec];rfl
   ·refine⟨?_,?_,?_,?_,fun j hj=>?_⟩
    ·exact (grownBy_putObj' W3 _ _).os.trans (hk3.os.trans (hp3.os.trans hk2.os))
    ·exact (grownBy_putObj' W3 _ _).tape.trans (hk3.tape.trans (hp3.tape.trans hk2.tape))
    ·exact (grownBy_putObj' W3 _ _).output.trans (hk3.output.trans (hp3.output.trans hk2.output))
    ·exact zV (by rw[hs1];exact hk3.size) (grownBy_putObj' W3 _ _).size
    ·have hjl:=hI j hj;exact (xf (by omega)).trans ((hk3.block j (.inl hj)).trans ((xf (by omega)).trans (hk2.block j (.inl hj))))
  ·have hr:=run_endRound (P:=P) (some .ret) hl4;refine⟨_,_,hr,.inr ⟨rfl,hJr _ _ hr3 (zda _ (.inr (.inr rfl))),?_,(xf (by omega)).trans hd4⟩⟩;rw[qp (zo.1 hl4).1,hrec];rfl
 ·rintro e W2 ⟨hv,⟨hj,hl,hk⟩|⟨hj,hl,hk⟩⟩
  ·refine⟨hv,none,_,by have:=run_endLoop (P:=P) hl (by rw[hrec];simp);rw[hrec]at this;exact this,hdone _ (hJ _ _ _ hj (zda _ (.inr (.inr rfl)))) ((xf (by omega)).trans hk)⟩
  ·refine⟨hv,some .ret,_,by have:=run_endLoop (P:=P) hl (by rw[hrec];simp);rw[hrec]at this;exact this,?_⟩;exact zcH (m:=0) (wpIn_ret (hret _ (hJr _ _ hj (zda _ (.inr (.inr rfl)))) ((xf (by omega)).trans hk)))
theorem zlU (gs gp gv:Nat) (s:List UInt8) (w:zi) (hne:gs≠gp∧gs≠gv) (hlen:s.length≤2000000)
  (hs:w.heap[gs]? =some (.cells #[.string ⟨s.toArray⟩] 9 (0,0))) (hp:w.heap[gp]? =some (.cells #[.string ⟨#[10]⟩] 9 (0,0))) (hv:w.heap[gv]? =some (.cells #[.int .i64 0] 3 (0,0))):
  zti Tryz.prog 1 145 #[.pointer (some ⟨gp,0,none⟩),.pointer (some ⟨gs,0,none⟩),.pointer (some ⟨gv,0,none⟩)] (itI gs gp gv) (segs s) w:=fun l J Jr W hW hJ hY h0=>
 znS l gs gp gv s J Jr W hne hlen ((hW.block _ (zo.1 hs).1).trans hs) ((hW.block _ (zo.1 hp).1).trans hp) ((hW.block _ (zo.1 hv).1).trans hv) hJ hY h0
end
noncomputable def zjV (s p:List UInt8):Bool:=decide (p.length≤s.length)&&eqb .str (s.take p.length) p
noncomputable def cPre:Ctr:={ args:=[.str,.str],pre:=fun x=>[zf x.1≤2000000,zf x.2.1≤2000000],res:=.bool,own:=none,out:=fun x=>zjV x.1 x.2.1 }
theorem zom:yB Tryz.prog gmH 86 cPre:=by
 refine zap (K:=gmK) zak Tryz.func86 rfl rfl Tryz.call86 rfl (by decide) (by intro h;cases h) ?_;rintro w0 X hX ⟨(s:List UInt8),(p:List UInt8),⟨⟩⟩ hp;obtain⟨hs,hpl⟩:s.length≤2000000∧p.length≤2000000:=hp;change AWP _ _ _ _ _ ⟨[(0,⟨.str,s⟩),(1,⟨.str,p⟩)],[],0⟩ _;refine za (za ?_);refine zaa hX zak rfl ?_ ?_
 ·trivial
 refine za (za ?_);refine zaa hX zak rfl ?_ ?_
 ·have hd:decide (((p.length:Nat):Int)≤((s.length:Nat):Int))=true->((p.length:Nat):Int)≤((s.length:Nat):Int):=of_decide_eq_true;exact⟨fun h=>h,fun h=>⟨h,h,zn _,hd h⟩,fun h=>⟨h,h⟩,fun h=>h⟩
 refine zm ⟨.inr rfl,zas rfl trivial rfl rfl ?_⟩;show (bif decide (((p.length:Nat):Int)≤((s.length:Nat):Int)) then eqb .str (List.take (((p.length:Nat):Int)).toNat s) p else false)=(decide (p.length≤s.length)&&eqb .str (s.take p.length) p);rw[zct,dNat,zy]
noncomputable def kPx:Kn:={ gmK with C:=[(86,cPre)] }
theorem zqe:KnOk Tryz.prog gmH kPx:=zak.with (.cons zom .nil)
theorem zqm:yB Tryz.prog gmH 51 cPre:=by
 refine zap (K:=kPx) zqe Tryz.func51 rfl rfl Tryz.call51 rfl (by decide) (by intro h;cases h) ?_;rintro w0 X hX ⟨(s:List UInt8),(p:List UInt8),⟨⟩⟩ hp;obtain⟨hs,hpl⟩:s.length≤2000000∧p.length≤2000000:=hp;change AWP _ _ _ _ _ ⟨[(0,⟨.str,s⟩),(1,⟨.str,p⟩)],[],0⟩ _;refine za (za ?_);refine zaa hX zqe rfl ?_ ?_
 ·trivial
 refine za (za ?_);refine zaa hX zqe rfl ?_ ?_
 ·exact⟨hs,hpl⟩
 exact zm ⟨.inr rfl,zas rfl trivial rfl rfl rfl⟩
abbrev De:=List UInt8×List Nd×Unit
abbrev zpf (j:Nat):OObj:=.hbox 29 [⟨.obuf de,j⟩]
abbrev tD:zp:=29
def libE (l:List UInt8) (fr:Int) (acc:List De):Owns:=[(0,some (.hbox tD [⟨.lit,.slice none 0 0⟩])),(1,some (.box i64 (0:Int))),(2,some (.box i64 (0:Int))),(3,some (zpf 6)),(4,some (.box i64 fr)),(5,some (.box .str l)),(6,some (.buf 37 de acc))]
def kLb:Kn:={ gmK with H:=[tD] }
theorem zqf:KnOk Tryz.prog gmH kLb:=⟨zih,zig,CsOk.nil,zjh,RsOk.nil⟩
def zfi (l:List UInt8) (k:Int):Except (Int×Int) De:=(gDef l (za2 l,0) k).map fun r=>(r.1,r.2.flat 0,())
theorem zoq (l:List UInt8) (k:Int):zmk l (za2 l,0) [] k=toX id (zfi l k):=by
 unfold zmk zfi;cases gDef l (za2 l,0) k<;>rfl
def NLib (l:List UInt8) (fr:Int) (acc:List De) (r:Except (Int×Int) Unit) (σ:AS):Prop:=(∃ d,zfi l ((acc.length:Nat):Int)= .ok d∧r= .ok ()∧Fit σ ⟨[],libE l fr (acc++ [d]),7⟩)∨∃ er,zfi l ((acc.length:Nat):Int)= .error er∧r= .error er∧Fit σ ⟨[],libE l fr acc,7⟩
set_option maxHeartbeats 4000000 in
theorem zrZ {w1:zi} {X:Ownr} {l:List UInt8} {fr:Int} {acc:List De} (hl:l.length≤4000) (ha:acc.length≤1000000) (hX:X.Ok w1) (hG:X.G=gmH) (hK:X.K=6) (hρ:X.ρ=none) (hD:X.D=[]) (hinv:∀ ty,ginv w1 X.R ty):
  AWP Tryz.prog w1 X Tryz.f54.ntmps (Tryz.f54.body.getD .skip) ⟨[(0,⟨.hptr,((3:Nat),(0:Nat))⟩),(1,⟨.optr .str,⟨5,.str,.here⟩⟩)],libE l fr acc,7⟩ (fun e σ=>((e= .normal∨e= .ret)∧NLib l fr acc (.ok ()) σ)∨∃ er,e= .panic [{ v:=pvS er,recovered:=false }]∧NLib l fr acc (.error er) σ):=by
 obtain⟨G,O,K,fix,D,ρ,B⟩:=X;obtain rfl:G=gmH:=hG;obtain rfl:K=6:=hK;obtain rfl:ρ=none:=hρ;obtain rfl:D=[]:=hD;have hI:=fun ty=>zaN (ty:=ty) hX rfl (hinv ty) (ty':=ty);have hl1:l.length≤100000:=by omega
 have hcap:acc.length+1≤1000000000:=by omega
 have hg0:GOk l (za2 l,0):=by
  have:=zge (s:=l);unfold zik at this;rwa[zhF]at this
 have hok:pOk (l,za2 l,[],0,()):=⟨hg0,hl1⟩;have hfew:few (l,za2 l,[],0,()):=yN 0;have hx:=zoq l ((acc.length:Nat):Int);unfold libE;refine AWP.ordersA dM 9 rfl (by kernel_rfl) ?_;cases hr:zfi l ((acc.length:Nat):Int) with
 |ok d=>
  rw[hr]at hx;have hx:zmk l (za2 l,0) [] ((acc.length:Nat):Int)= .ok d:=hx
  repeat'(first
   |exact jE
   |refine jj ⟨_,rfl,?_⟩ ?_
   |refine yZ hX zqf rfl trivial ?_
   |refine StepA.fresh hX zeL rfl rfl rfl rfl rfl rfl (by exact trivial) (by exact hl1) (by exact⟨rfl,rfl⟩) rfl rfl ?_
   |refine yZ hX zqf rfl hcap ?_
   |refine StepA.conv (Sim.nilLeaf 7 6 73 nd rfl rfl rfl) (StepA.giveO hX zgm rfl rfl rfl rfl rfl rfl rfl rfl rfl rfl rfl rfl (by exact trivial) (by exact⟨hok,hfew⟩) (by exact hI 139) rfl rfl (by exact hx) ?_)
   |(refine OrdA.last ?_;exact .inl ⟨.inl rfl,.inl ⟨d,hr,rfl,trivial,⟨rfl,rfl,rfl,rfl,rfl,rfl,rfl,trivial⟩,rfl,rfl⟩⟩))
 |error er=>
  rw[hr]at hx;have hx:zmk l (za2 l,0) [] ((acc.length:Nat):Int)= .error (pvS er):=hx
  repeat'(first
   |exact jE
   |refine jj ⟨_,rfl,?_⟩ ?_
   |refine yZ hX zqf rfl trivial ?_
   |refine StepA.fresh hX zeL rfl rfl rfl rfl rfl rfl (by exact trivial) (by exact hl1) (by exact⟨rfl,rfl⟩) rfl rfl ?_
   |refine StepA.conv (Sim.nilLeaf 7 6 73 nd rfl rfl rfl) (StepA.giveE hX zgm rfl rfl rfl rfl rfl rfl rfl rfl rfl rfl rfl rfl (by exact trivial) (by exact⟨hok,hfew⟩) (by exact hI 139) rfl rfl (by exact hx) ?_)
   |exact .inr ⟨er,rfl,.inr ⟨er,hr,rfl,trivial,⟨rfl,rfl,rfl,rfl,rfl,rfl,rfl,trivial⟩,rfl,rfl⟩⟩)
def zlm:List De->List UInt8->List UInt8×Int
 | [],acc=>if 1048576 < acc.length then ([],2) else (acc,0)
 |d::r,acc=>
  if 32 < d.1.length then ([],2)
  else if zaw d.1=0∨zaw d.1 < d.1.length then ([],1)
  else if (fmtS d.2.1).2≠0 then ([],(fmtS d.2.1).2)
  else if 4000 < (d.1++ [32,61,32]++(fmtS d.2.1).1).length then ([],2)
  else zlm r (acc++(d.1++ [32,61,32]++(fmtS d.2.1).1++ [10]))
def zbw (l:List De):List UInt8×Int:=if 4096 < l.length then ([],2) else zlm l []
theorem zsj (r:List Nd):(fmtS r).1.length≤4000:=by
 unfold fmtS;split
 ·split
  ·exact zk _
  ·show (zdR r).text.length≤4000;omega
 ·exact zk _
section
variable {w0:zi} {X:Ownr} {n:Nat} {Q:Exit->AS->Prop} {ops:Array Oper} {F:Frame} {E:Owns} {nx:Nat}
theorem AL.newBd (hX:X.Ok w0) {o:Oper} {rest:List Oper} (ho:o.op= .alloc 105) (hgd:o.guard=none) {d:Nat} (hd:o.dst=some d) (hdn:z6 d n=true)
  (h:AL Tryz.prog w0 X n ops rest ⟨(d,⟨.hptr,(nx,(0:Nat))⟩)::F,(nx,some (.hbox 105 [⟨.lit,.pointer none⟩,⟨.lit,.slice none 0 0⟩]))::E,nx+1⟩ Q):AL Tryz.prog w0 X n ops (o::rest) ⟨F,E,nx⟩ Q:=by
 refine AL.hand hgd (fun c e=>by rw[ho]at e;cases e) fun β a w hs=>?_;have hlt:d < n:=by simpa using hdn
 refine zbL (u:=.pointer (some ⟨w.heap.size,0,none⟩)) (w':=w.alloc (.cells #[.pointer none,.slice none 0 0] 105 (0,0))) ?_ ?_
 ·unfold execOp;simp[ho,Instr.alloc,Tryz.zeroValue105,newVar,newRow,Value.cells,go_sem]
 ·rw[hd];obtain⟨β',h1⟩:=hs.make hX ((zU _ w).alloc (zj _) (.cells #[.pointer none,.slice none 0 0] 105 (0,0))) (bv:=.pointer (some ⟨w.heap.size,0,none⟩)) (o:=.hbox 105 [⟨.lit,.pointer none⟩,⟨.lit,.slice none 0 0⟩])
   (fun O β' _=>⟨w.heap.size,[.pointer none,.slice none 0 0],rfl,zk _,xo w _,⟨.pointer none,[.slice none 0 0],rfl,rfl,rfl,⟨.slice none 0 0,[],rfl,rfl,rfl,rfl⟩⟩⟩) (fun g hg=>by cases hg;exact zj _) (v:=⟨.hptr,(nx,(0:Nat))⟩) (u:=.pointer (some ⟨w.heap.size,0,none⟩))
   (fun O β' hb=>⟨w.heap.size,by show zai (β' nx)=_;rw[show β' nx=_ from hb];rfl,rfl⟩) (zj _) hlt (fun vs e v hv=>by
     cases e;rcases zP.1 hv with rfl|hv
     ·exact zk _
     ·rw[zw.1 hv];exact zk _)
  exact⟨_,β',h1,h⟩
end
@[reducible] def cStr0:HCtr:=hBl .unit [105] [] .str (fun _ _=>[]) fun x _=>.ok (x.2.1,x)
theorem zon {R:Nat->Prop} {w w':zi} (h:Below w.heap.size w w'):Kept R w w':=⟨h.os,h.tape,h.output,h.size,fun k hk _=>h.block k hk⟩
theorem znR:zgs Tryz.prog gmH 62 cStr0 (fun x _=>.ok x.2.1):=by
 refine⟨Tryz.call62,zcL rfl,fun w O g cs ty x xs vs b hO hgb hg hx hbuf hrep hpre hinv hG=>?_⟩;by_cases h0:x.2.1=[]
 ·obtain⟨xb,(xl:List UInt8),⟨⟩⟩:=x;obtain rfl:xl=[]:=h0;have hvs:vs=[]:=hrep;subst hvs;obtain rfl:ty=105:=zw.1 hinv.2;rw[zpR]at hx;obtain⟨u,r,rfl,hu1,hu,hr⟩:=hx;obtain⟨v,r,rfl,hv1,hv,hr⟩:=hr;have hv:v=b:=hv;subst hv;have hr:r=[]:=hr;subst hr;obtain⟨cells,k1,k2,k3⟩:=hbuf;have k1:=zgD k1;subst k1;have fin:∀ {e:Ending} {w':zi},(e= .returned (.string ⟨#[]⟩)∧Below w.heap.size w w')->Kept (fun h=>h=g∨zai v=some h) w w'∧LEnd cStr0 w w' O e (.ok ([]:List UInt8)):=fun {e w'} h=>⟨zon h.2,_,h.1,.inr fun β=>⟨rfl,zk _⟩⟩;rcases k2.2 with ⟨rfl,_⟩|⟨g',cap,cur,rfl,_,hg',hnc,hcm,hcs,htake⟩
  ·refine (Any.Builder_String_nil Tryz.lays169 Tryz.Builder_Extra_169 w.heap.size g u w hg).mono ?_;exact fun e w' h=>fin h
  ·by_cases hc0:cap=0
   ·subst hc0;refine (Any.Builder_String_noroom Tryz.lays169 Tryz.Builder_Extra_169 w.heap.size g g' u cur w (zj _) hg hg').mono ?_;exact fun e w' h=>fin h
   ·refine (Any.Builder_String_room Tryz.lays169 Tryz.Builder_Extra_169 w.heap.size g g' cap u w hc0 hg).mono ?_;exact fun e w' h=>fin h
 ·exact (zkw .unit rfl [105]).2.2 w O g cs ty x xs vs b hO hgb hg hx hbuf hrep h0 hinv hG
def zDe:De:=([],[],())
def cFmtL:Ctr:={ args:=[.slice de],pre:=fun _=>[],res:=.tup .str (.tup i64 .unit),own:=none,out:=fun x=>((zbw x.1).1,(zbw x.1).2,()) }
def kFb:Kn:={ gmK with C:=[(65,zj7),(24,cFmt)] }
theorem zbh:KnOk Tryz.prog gmH kFb:=zak.with (.cons ziX.lift <| .cons zll .nil)
def hFb:List (zO×HCtr):=[(66,cWSB),(61,zoz .unit [105])]
theorem zs3:HsOk Tryz.prog gmH hFb:=.cons znK <| .cons zt8 .nil
def bdE (b:Bool) (acc:List UInt8):Owns:=[(0,some (.hbox 105 [adV 0 b,⟨.obuf u8,(1:Nat)⟩])),(1,some (.buf 5 u8 acc))]
set_option maxHeartbeats 1000000 in
theorem zqq:yB Tryz.prog gmH 26 cFmtL:=by
 refine zap (K:=kFb) zbh Tryz.func26 rfl rfl Tryz.call26 rfl (by decide) (by intro h;cases h) ?_;rintro w0 X hX ⟨(l:List De),_⟩ hp;change AWP _ _ _ _ _ ⟨[(0,⟨.slice de,l⟩)],[],0⟩ _;refine AWP.len 0 rfl fun hl=>?_;unfold maxLen at hl;have hI:∀ w R,(∀ g,R g->w0.heap.size≤g∨(qh gmH X).R g)->(qh gmH X).G w->bInv .unit [105] w R 105:=fun w R hR hw=>⟨zaN (ty:=105) hX rfl (zji hX) (ty':=105) w R hR hw,zw.2 rfl⟩;refine za (za ?_);refine zaa hX zbh rfl ?_ ?_
 ·trivial
 refine za (za ?_);refine zaa hX zbh rfl ?_ ?_
 ·trivial
 refine zaf rfl (fun hb=>?_) (fun hb=>?_)
 ·have hb:decide (((l.length:Nat):Int) > 4096)=true:=hb;have hb:=of_decide_eq_true hb;(repeat(first|apply zae|apply zab|apply zal|apply zad|apply zac|refine zaa hX zbh rfl trivial ?_|refine zaa hX zbh rfl id ?_|refine zaa hX zbh rfl ⟨id,id⟩ ?_));refine zm ⟨.inr rfl,za9 (by decide) rfl rfl trivial ?_⟩;show (([]:List UInt8),(2:Int),())=((zbw l).1,(zbw l).2,());unfold zbw;rw[if_pos (by omega)]
 have hb:decide (((l.length:Nat):Int) > 4096)=false:=hb;have hb:=of_decide_eq_false hb;have hS:zbw l=zlm l []:=by unfold zbw;rw[if_neg (by omega)]
 apply zab;apply zae;refine zah ?_;refine AL.newBd hX rfl rfl rfl rfl ?_;refine AL.nilLeaf 0 1 5 u8 rfl rfl rfl ?_;refine yf ?_;refine za (za ?_);refine zaa hX zbh rfl ?_ ?_
 ·trivial
 (repeat(first|apply zae|apply zab|apply zac|apply zad));refine yD (ι:=Nat×List UInt8) (fun p=>⟨[(0,⟨.slice de,l⟩),(4,⟨.hptr,((0:Nat),(0:Nat))⟩),(14,⟨.slice de,l⟩),(15,⟨i64,((l.length:Nat):Int)⟩),(16,⟨i64,(p.1:Int)⟩)],bdE (decide (0 < p.1)) p.2,2⟩) (fun p=>p.1≤l.length∧zbw l=zlm (l.drop p.1) p.2∧p.2.length≤4001 * p.1) (fun p=>l.length - p.1) (0,[]) ⟨zk _,hS,zk _⟩ ⟨⟨rfl,rfl,rfl,rfl,rfl,trivial⟩,⟨rfl,rfl,trivial⟩,rfl,rfl⟩ ?_;rintro ⟨i,acc⟩ ⟨hi,hR,hal⟩;have hi:i≤l.length:=hi;have hR:zbw l=zlm (l.drop i) acc:=hR;have hal:acc.length≤4001 * i:=hal;unfold bdE;refine za (za ?_);refine zaa hX zbh rfl ?_ ?_
 ·trivial
 apply zae;refine zaf rfl (fun hb=>?_) (fun hb=>?_)
 ·have hb2:decide ((i:Int) < (l.length:Nat))=true:=hb;have hb2:=of_decide_eq_true hb2;have hlt:i < l.length:=by omega
  have z0:(0:Int)≤(i:Int):=by omega
  have hgd:l.getD (i:Int).toNat zDe=l[i]:=zaM hlt;rw[zI hlt,zlm, <-hgd]at hR;generalize hbq:decide (0 < i)=b;refine za (za ?_);refine zaa hX zbh rfl ?_ ?_
  ·exact⟨z0,hb2⟩
  generalize hD:l.getD (i:Int).toNat zDe=D at *;obtain⟨(nm:List UInt8),(rl:List Nd),⟨⟩⟩:=D;refine zam (σ':=⟨[(0,⟨.slice de,l⟩),(4,⟨.hptr,((0:Nat),(0:Nat))⟩),(14,⟨.slice de,l⟩),(15,⟨i64,((l.length:Nat):Int)⟩),(16,⟨i64,(i:Int)⟩),(6,⟨.optr de,⟨2,de,.here⟩⟩)],(2,some (.box de (nm,rl,())))::bdE b acc,3⟩) ⟨⟨rfl,rfl,rfl,rfl,rfl,rfl,trivial⟩,⟨zgo hD,rfl,rfl,trivial⟩,rfl,by cases b<;>rfl⟩ ?_;have hR:zbw l=if 32 < nm.length then ([],2) else if zaw nm=0∨zaw nm < nm.length then ([],1) else if (fmtS rl).2≠0 then ([],(fmtS rl).2) else if 4000 < (nm++ [32,61,32]++(fmtS rl).1).length then ([],2) else zlm (l.drop (i+1)) (acc++(nm++ [32,61,32]++(fmtS rl).1++ [10])):=hR
  unfold bdE;refine za (za ?_);refine zaa hX zbh rfl ?_ ?_
  ·trivial
  refine za (za ?_);refine zaa hX zbh rfl ?_ ?_
  ·trivial
  refine zaf rfl (fun hc=>?_) (fun hc=>?_)
  ·have hc:decide (((nm.length:Nat):Int) > 32)=true:=hc;have hc:=of_decide_eq_true hc;(repeat(first|apply zae|apply zab|apply zal|apply zad|apply zac|refine zaa hX zbh rfl trivial ?_|refine zaa hX zbh rfl id ?_|refine zaa hX zbh rfl ⟨id,id⟩ ?_));refine zm ⟨.inr rfl,za9 (by decide) rfl rfl trivial ?_⟩;show (([]:List UInt8),(2:Int),())=((zbw l).1,(zbw l).2,());rw[hR,if_pos (by omega)]
  have hc:decide (((nm.length:Nat):Int) > 32)=false:=hc;have hc:=of_decide_eq_false hc;refine za (za ?_);refine zaa hX zbh rfl ?_ ?_
  ·repeat'(first|exact trivial|assumption|(refine⟨?_,?_⟩)|(intro _)|exact zb rfl|exact zn _|(simp_all [allP];done))
  have hq:(bif ((zaw nm:Nat):Int)==0 then true else decide (((zaw nm:Nat):Int) < ((nm.length:Nat):Int)))=decide (zaw nm=0∨zaw nm < nm.length):=by
   rw[b_or,yb,zJ,decide_eq_true_iff,decide_eq_true_iff,beq_iff_eq];omega
  refine zaf rfl (fun hd=>?_) (fun hd=>?_)
  ·have hd:=hq.symm.trans hd;have hd:=of_decide_eq_true hd;(repeat(first|apply zae|apply zab|apply zal|apply zad|apply zac|refine zaa hX zbh rfl trivial ?_|refine zaa hX zbh rfl id ?_|refine zaa hX zbh rfl ⟨id,id⟩ ?_));refine zm ⟨.inr rfl,za9 (by decide) rfl rfl trivial ?_⟩;show (([]:List UInt8),(1:Int),())=((zbw l).1,(zbw l).2,());rw[hR,if_neg (by omega),if_pos hd]
  have hd:=hq.symm.trans hd;have hd:=of_decide_eq_false hd;apply zab;refine za (za ?_);refine zaa hX zbh rfl ?_ ?_
  ·trivial
  refine zam (σ':=⟨[(0,⟨.slice de,l⟩),(4,⟨.hptr,((0:Nat),(0:Nat))⟩),(14,⟨.slice de,l⟩),(15,⟨i64,((l.length:Nat):Int)⟩),(16,⟨i64,(i:Int)⟩),(6,⟨.optr de,⟨2,de,.here⟩⟩),(8,⟨.str,(fmtS rl).1⟩),(9,⟨i64,(fmtS rl).2⟩)],(2,some (.box de (nm,rl,())))::bdE b acc,3⟩) ⟨⟨rfl,rfl,rfl,rfl,rfl,rfl,rfl,rfl,trivial⟩,⟨rfl,rfl,rfl,trivial⟩,rfl,by cases b<;>rfl⟩ ?_;have hfl:=zsj rl;generalize (fmtS rl).1=T at *;generalize (fmtS rl).2=ec at *;unfold bdE;refine za (za ?_);refine zaa hX zbh rfl ?_ ?_
  ·trivial
  refine zaf rfl (fun he=>?_) (fun he=>?_)
  ·have he:(ec != 0)=true:=he;have he:=bne_iff_ne.1 he;(repeat(first|apply zae|apply zab|apply zal|apply zad|apply zac|refine zaa hX zbh rfl trivial ?_|refine zaa hX zbh rfl id ?_|refine zaa hX zbh rfl ⟨id,id⟩ ?_));refine zm ⟨.inr rfl,za9 (by decide) rfl rfl trivial ?_⟩;show (([]:List UInt8),ec,())=((zbw l).1,(zbw l).2,());rw[hR,if_neg (by omega),if_neg hd,if_pos he]
  have he:(ec != 0)=false:=he;have he:¬ ec≠0:=fun h=>by rw[bne_iff_ne.2 h]at he;cases he
  apply zab;have t1:nm.length+3≤maxLen:=by unfold maxLen;omega
  have t2:zf (nm++ [32,61,32]:List UInt8)+T.length≤maxLen:=by rw[zh];show nm.length+3+_≤_;unfold maxLen;omega
  have t3:(nm++ [32,61,32]++T:List UInt8).length=nm.length+3+T.length:=by rw[zh,zh];rfl
  refine za (za ?_);refine zaa hX zbh rfl ?_ ?_
  ·exact⟨t1,t2⟩
  refine zam (σ':=⟨[(0,⟨.slice de,l⟩),(4,⟨.hptr,((0:Nat),(0:Nat))⟩),(14,⟨.slice de,l⟩),(15,⟨i64,((l.length:Nat):Int)⟩),(16,⟨i64,(i:Int)⟩),(10,⟨.str,nm++ [32,61,32]++T⟩)],bdE b acc,3⟩) ⟨⟨rfl,rfl,rfl,rfl,rfl,rfl,trivial⟩,⟨rfl,rfl,trivial⟩,rfl,by cases b<;>rfl⟩ ?_;generalize (nm++ [32,61,32]++T:List UInt8)=L at hR t3;unfold bdE;refine za (za ?_);refine zaa hX zbh rfl ?_ ?_
  ·trivial
  refine zaf rfl (fun hf=>?_) (fun hf=>?_)
  ·have hf:decide (((L.length:Nat):Int) > 4000)=true:=hf;have hf:=of_decide_eq_true hf;(repeat(first|apply zae|apply zab|apply zal|apply zad|apply zac|refine zaa hX zbh rfl trivial ?_|refine zaa hX zbh rfl id ?_|refine zaa hX zbh rfl ⟨id,id⟩ ?_));refine zm ⟨.inr rfl,za9 (by decide) rfl rfl trivial ?_⟩;show (([]:List UInt8),(2:Int),())=((zbw l).1,(zbw l).2,());rw[hR,if_neg (by omega),if_neg hd,if_neg he,if_pos (by omega)]
  have hf:decide (((L.length:Nat):Int) > 4000)=false:=hf;have hf:=of_decide_eq_false hf;rw[if_neg (by omega),if_neg hd,if_neg he,if_neg (by omega)]at hR;apply zab;have hl1:(L++ [10]:List UInt8).length=L.length+1:=by rw[zh];rfl
  have t4:L.length+1≤maxLen:=by unfold maxLen;omega
  have t5:acc.length+zf (L++ [10]:List UInt8)≤1000000000:=by omega
  cases b
  all_goals
   (repeat(first|apply zae|apply zab|apply zac|apply zad));refine zah ?_;refine yl 2 hX zbh zs3 rfl t4 rfl rfl t5 hI ?_;refine yf ?_;refine zam (σ':=⟨[(0,⟨.slice de,l⟩),(4,⟨.hptr,((0:Nat),(0:Nat))⟩),(14,⟨.slice de,l⟩),(15,⟨i64,((l.length:Nat):Int)⟩),(16,⟨i64,(i:Int)⟩)],[(0,some (.hbox 105 [adV 0 true,⟨.obuf u8,(1:Nat)⟩])),(1,some (.buf 5 u8 (acc++(L++ [10]))))],3⟩) ⟨⟨rfl,rfl,rfl,rfl,rfl,trivial⟩,⟨rfl,rfl,trivial⟩,rfl,rfl⟩ ?_;refine za (za ?_);refine zaa hX zbh rfl ?_ ?_
   ·exact zaZ (by omega)
   refine⟨(i+1,acc++(L++ [10])),⟨hlt,hR,?_⟩,by show l.length - (i+1) < l.length - i;omega,⟨rfl,rfl,rfl,rfl,zdM _,trivial⟩,⟨?_,rfl,trivial⟩,rfl,?_⟩
   ·show zf (acc++(L++ [10]):List UInt8)≤4001 * (i+1);rw[zh];omega
   ·rw[show decide (0 < (i+1,acc++(L++ [10])).1)=true from decide_eq_true (Nat.succ_pos _)];rfl
   ·rw[show decide (0 < (i+1,acc++(L++ [10])).1)=true from decide_eq_true (Nat.succ_pos _)];rfl
 ·have hb2:decide ((i:Int) < (l.length:Nat))=false:=hb;have hb2:=of_decide_eq_false hb2;obtain rfl:i=l.length:=by omega
  rw[jA,zlm]at hR;generalize decide (0 < l.length)=b;apply zad;refine zam (σ':=⟨[(4,⟨.hptr,((0:Nat),(0:Nat))⟩)],bdE b acc,2⟩) ⟨⟨rfl,trivial⟩,⟨rfl,rfl,trivial⟩,rfl,by cases b<;>rfl⟩ ?_;unfold bdE;cases b
  all_goals
   (repeat(first|apply zae|apply zab|apply zac|apply zad));refine zah ?_;refine yl 0 hX zbh zs3 rfl trivial rfl rfl trivial hI ?_;refine zY hX zbh rfl trivial ?_;refine zaf rfl (fun hc=>?_) (fun hc=>?_)
   ·have hc:decide (((acc.length:Nat):Int) > 1048576)=true:=hc;have hc:=of_decide_eq_true hc;(repeat(first|apply zae|apply zab|apply zal|apply zad|apply zac|refine zaa hX zbh rfl trivial ?_|refine zaa hX zbh rfl id ?_|refine zaa hX zbh rfl ⟨id,id⟩ ?_));refine zm ⟨.inr rfl,za9 (by decide) rfl rfl trivial ?_⟩;show (([]:List UInt8),(2:Int),())=((zbw l).1,(zbw l).2,());rw[hR,if_pos (by omega)]
   ·have hc:decide (((acc.length:Nat):Int) > 1048576)=false:=hc;have hc:=of_decide_eq_false hc;apply zab;(repeat(first|apply zae|apply zab|apply zac|apply zad));refine zah ?_;refine AL.give hX znR rfl rfl rfl rfl rfl rfl rfl rfl rfl rfl rfl rfl trivial trivial hI rfl rfl ?_;show AL _ _ _ _ _ _ _ _;refine zY hX zbh rfl trivial ?_;refine zm ⟨.inr rfl,za9 (by decide) rfl rfl trivial ?_⟩;show (acc,(0:Int),())=((zbw l).1,(zbw l).2,());rw[hR,if_neg (by omega)]
def zef (p:UInt8->Bool):Ctr:={ args:=[u8],pre:=fun _=>[],res:=.bool,own:=none,out:=fun x=>p x.1 }
end Go.Proofs.YtpeaigpfddalcaaGreatDoor
