/-
  Package envelope: a number's bytes, the header, the right seal, Seal of an answer.
  The laws of chapter 27: the answer, the sanity check.
-/
import Derived.Test.YtbbeldmcdjjnbaaDoorLtF
namespace Go.Proofs.YtbbeldmcdjjnbaaDoor
open Go Go.RowKit
set_option linter.unusedSimpArgs false
set_option linter.unusedVariables false
set_option maxRecDepth 100000
theorem CtrOk.toD {f : FuncId} {c : Ctr} (h : CtrOk Tryd.prog pG f c) : CtrOk Tryd.prog dG f c := ⟨h.1, fun w O xs vs hO hr hp _ => h.2 w O xs vs hO hr hp trivial⟩
theorem evK_ok : KnOk Tryd.prog dG ltK := ⟨ltT_ok, ltU_ok, CsOk.nil, dK_ok.st, RsOk.nil⟩
/-- the i-th byte of a number -/
def nByte (n : Int) (i : Int) : UInt8 := UInt8.ofNat (BitVec.ofInt 64 n >>> (8 * i).toNat).toNat
def numE (n : Int) : List UInt8 := (List.range 8).map fun (i : Nat) => nByte n (i : Int)
theorem numE_step {n : Int} {k : Nat} (hk : k < 8) : ((((List.range k).map fun (i : Nat) => nByte n (i : Int)) ++ List.replicate (8 - k) 0).set k (nByte n k)) = ((List.range (k + 1)).map fun (i : Nat) => nByte n (i : Int)) ++ List.replicate (8 - (k + 1)) 0 := by
  rw [List.set_append_right _ _ (by simp), List.range_succ, List.map_append, List.append_assoc]
  congr 1
  obtain ⟨m, hm⟩ : ∃ m, 8 - k = m + 1 := ⟨8 - k - 1, by omega⟩
  have hm2 : 8 - (k + 1) = m := by omega
  simp [hm, hm2, List.replicate_succ]
def cENum : Ctr := { args := [i64], pre := fun _ => [], res := bs, own := none, out := fun x => numE x.1 }
theorem eNum_ok : CtrOk Tryd.prog dG 48 cENum := by
  refine ctr_of_awp (K := ltK) evK_ok Tryd.func48 rfl rfl Tryd.call48 rfl (by decide) (by intro h; cases h) ?_
  rintro w0 X hX ⟨(n : Int), ⟨⟩⟩ hp
  change AWP _ _ _ _ _ ⟨[(0, ⟨i64, n⟩)], [], 0⟩ _
  (repeat (first | refine AWP.seq ?_ | refine AWP.skip ?_ | refine AWP.block ?_ | refine AWP.exit ?_)); refine AWP.region hX evK_ok rfl ?_ ?_
  · trivial
  (repeat (first | refine AWP.seq ?_ | refine AWP.skip ?_ | refine AWP.block ?_ | refine AWP.exit ?_)); refine AWP.region hX evK_ok rfl ?_ ?_
  · trivial
  (repeat (first | refine AWP.seq ?_ | refine AWP.skip ?_ | refine AWP.block ?_ | refine AWP.exit ?_)); refine AWP.region hX evK_ok rfl ?_ ?_
  · trivial
  (repeat (first | refine AWP.seq ?_ | refine AWP.block ?_))
  refine AWP.loop (ι := Nat) (fun k => ⟨[(0, ⟨i64, n⟩), (3, ⟨.optr (.arr 8 u8), ⟨0, .arr 8 u8, .here⟩⟩), (5, ⟨i64, (k : Int)⟩)], [(0, some (.box (.arr 8 u8) (((List.range k).map fun i => nByte n (i : Nat)) ++ List.replicate (8 - k) 0)))], 1⟩) (fun k => k ≤ 8) (fun k => 8 - k) 0 (by omega) ⟨⟨rfl, rfl, rfl, trivial⟩, ⟨rfl, trivial⟩, rfl, rfl⟩ ?_
  intro k hk
  (repeat (first | refine AWP.seq ?_ | refine AWP.skip ?_ | refine AWP.block ?_ | refine AWP.exit ?_)); refine AWP.region hX evK_ok rfl ?_ ?_
  · trivial
  refine AWP.seq ?_
  refine AWP.cond rfl (fun hb => ?_) (fun hb => ?_)
  · have hb : decide ((k : Int) < 8) = true := hb
    have hb := of_decide_eq_true hb
    (repeat (first | refine AWP.seq ?_ | refine AWP.skip ?_ | refine AWP.block ?_ | refine AWP.exit ?_)); refine AWP.region hX evK_ok rfl ?_ ?_
    · trivial
    have n0 : (0 : Int) ≤ (k : Int) := by omega
    have c1 : inR .i64 (8 * (k : Int)) := inR_small (by omega) (by omega)
    (repeat (first | refine AWP.seq ?_ | refine AWP.skip ?_ | refine AWP.block ?_ | refine AWP.exit ?_)); refine AWP.region hX evK_ok rfl ?_ ?_
    · exact ⟨c1, (show (0 : Int) ≤ 8 * (k : Int) by omega), n0, hb, (show ((k : Int)).toNat < 8 by omega)⟩
    (repeat (first | refine AWP.seq ?_ | refine AWP.skip ?_ | refine AWP.block ?_ | refine AWP.exit ?_)); refine AWP.region hX evK_ok rfl ?_ ?_
    · exact inR_succ (by omega)
    refine ⟨k + 1, by omega, by omega, ⟨rfl, rfl, vSucc _, trivial⟩, ⟨boxEq ?_, trivial⟩, rfl, rfl⟩
    have hk8 : k < 8 := by omega
    rw [Int.toNat_natCast]
    exact numE_step hk8
  · have hb : decide ((k : Int) < 8) = false := hb
    have hb := of_decide_eq_false hb
    have hkl : k = 8 := by omega
    subst hkl
    refine AWP.exit ?_
    refine AWP.frzB hX 3 ?_
    (repeat (first | refine AWP.seq ?_ | refine AWP.skip ?_ | refine AWP.block ?_ | refine AWP.exit ?_)); refine AWP.region hX evK_ok rfl ?_ ?_
    · trivial
    refine AWP.ret ⟨.inr rfl, done1 rfl trivial rfl rfl ?_⟩
    show _ = numE n
    rfl
theorem numE_len (n : Int) : (numE n).length = 8 := by simp [numE]
def hdr3 (e : ev.T) : List Int := [e.1, e.2.1, e.2.2.1]
def hdrE (e : ev.T) : List UInt8 := ((hdr3 e).map numE).flatten
theorem nums_len (l : List Int) : ((l.map numE).flatten).length = 8 * l.length := by
  induction l with
  | nil => rfl
  | cons a l ih => rw [List.map_cons, List.flatten_cons, List.length_append, numE_len, ih, List.length_cons]; omega
theorem hdrE_len (e : ev.T) : (hdrE e).length = 24 := nums_len _
def kEH : Kn := { ltK with C := [(48, cENum)] }
theorem kEH_ok : KnOk Tryd.prog dG kEH := evK_ok.with (.cons eNum_ok .nil)
def cEHdr : Ctr := { args := [ev], pre := fun _ => [], res := .slice u8, own := some 5, out := fun x => hdrE x.1 }
theorem eHdr_ok : CtrOk Tryd.prog dG 37 cEHdr := by
  refine ctr_of_awp (K := kEH) kEH_ok Tryd.func37 rfl rfl Tryd.call37 rfl (by decide) (by intro h; cases h) ?_
  rintro w0 X hX ⟨(e : ev.T), ⟨⟩⟩ hp
  change AWP _ _ _ _ _ ⟨[(0, ⟨ev, e⟩)], [], 0⟩ _
  (repeat (first | refine AWP.seq ?_ | refine AWP.skip ?_ | refine AWP.block ?_ | refine AWP.exit ?_)); refine AWP.region hX kEH_ok rfl ?_ ?_
  · trivial
  refine AWP.frzB hX 1 ?_
  (repeat (first | refine AWP.seq ?_ | refine AWP.skip ?_ | refine AWP.block ?_ | refine AWP.exit ?_)); refine AWP.region hX kEH_ok rfl ?_ ?_
  · exact ⟨(show (0 : Int) ≤ 0 by decide), (show (0 : Int) ≤ 24 by decide), (show (24 : Int) ≤ 1000000000 by decide)⟩
  (repeat (first | refine AWP.seq ?_ | refine AWP.skip ?_ | refine AWP.block ?_ | refine AWP.exit ?_)); refine AWP.region hX kEH_ok rfl ?_ ?_
  · trivial
  (repeat (first | refine AWP.seq ?_ | refine AWP.block ?_))
  refine AWP.loop (ι := Nat) (fun k => ⟨[(3, ⟨.obuf u8, (1 : Nat)⟩), (13, ⟨.arr 3 i64, hdr3 e⟩), (14, ⟨i64, (k : Int)⟩)], [(1, some (.buf 5 u8 ((((hdr3 e).take k).map numE).flatten)))], 2⟩) (fun k => k ≤ 3) (fun k => 3 - k) 0 (by omega) ⟨⟨rfl, rfl, rfl, trivial⟩, ⟨rfl, trivial⟩, rfl, rfl⟩ ?_
  intro k hk
  (repeat (first | refine AWP.seq ?_ | refine AWP.skip ?_ | refine AWP.block ?_ | refine AWP.exit ?_)); refine AWP.region hX kEH_ok rfl ?_ ?_
  · trivial
  refine AWP.seq ?_
  refine AWP.cond rfl (fun hb => ?_) (fun hb => ?_)
  · have hb : decide ((k : Int) < 3) = true := hb
    have hb := of_decide_eq_true hb
    have hlt : k < (hdr3 e).length := by show k < 3; omega
    have n0 : (0 : Int) ≤ (k : Int) := by omega
    have eg : (hdr3 e).getD (k : Int).toNat 0 = (hdr3 e)[k] := getD_at' hlt
    (repeat (first | refine AWP.seq ?_ | refine AWP.skip ?_ | refine AWP.block ?_ | refine AWP.exit ?_)); refine AWP.region hX kEH_ok rfl ?_ ?_
    · exact ⟨n0, hb⟩
    have c1 : ((((hdr3 e).take k).map numE).flatten).length + (numE ((hdr3 e).getD (k : Int).toNat 0)).length ≤ 1000000000 := by
      rw [nums_len, numE_len, List.length_take]
      omega
    (repeat (first | refine AWP.seq ?_ | refine AWP.skip ?_ | refine AWP.block ?_ | refine AWP.exit ?_)); refine AWP.region hX kEH_ok rfl ?_ ?_
    · exact c1
    (repeat (first | refine AWP.seq ?_ | refine AWP.skip ?_ | refine AWP.block ?_ | refine AWP.exit ?_)); refine AWP.region hX kEH_ok rfl ?_ ?_
    · exact inR_succ (by omega)
    refine ⟨k + 1, by omega, by omega, ⟨rfl, rfl, vSucc _, trivial⟩, ⟨bufEq ?_, trivial⟩, rfl, rfl⟩
    rw [List.take_succ_eq_append_getElem hlt, List.map_append, List.flatten_append, ← eg]
    simp
    rfl
  · have hb : decide ((k : Int) < 3) = false := hb
    have hb := of_decide_eq_false hb
    have hkl : k = 3 := by omega
    subst hkl
    refine AWP.exit ?_
    (repeat (first | refine AWP.seq ?_ | refine AWP.skip ?_ | refine AWP.block ?_ | refine AWP.exit ?_)); refine AWP.region hX kEH_ok rfl ?_ ?_
    · trivial
    exact AWP.ret ⟨.inr rfl, doneO rfl rfl rfl⟩
def kER : Kn := { ltK with C := [(37, cEHdr), (36, cKeyed)] }
theorem kER_ok : KnOk Tryd.prog dG kER := evK_ok.with (.cons eHdr_ok <| .cons keyed_ok .nil)
def sealE (k : List UInt8) (e : ev.T) : List UInt8 := hmac k (hdrE e ++ e.2.2.2.1)
def cERight : Ctr := { args := [dg, ev], pre := fun x => [List.length x.2.1.2.2.2.1 ≤ 900000], res := dg, own := none, out := fun x => sealE x.1 x.2.1 }
theorem eRight_ok : CtrOk Tryd.prog dG 20 cERight := by
  refine ctr_of_awp (K := kER) kER_ok Tryd.func20 rfl rfl Tryd.call20 rfl (by decide) (by intro h; cases h) ?_
  rintro w0 X hX ⟨(key : List UInt8), (e : ev.T), ⟨⟩⟩ hp
  have hl : List.length e.2.2.2.1 ≤ 900000 := hp
  change AWP _ _ _ _ _ ⟨[(0, ⟨dg, key⟩), (1, ⟨ev, e⟩)], [], 0⟩ _
  (repeat (first | refine AWP.seq ?_ | refine AWP.skip ?_ | refine AWP.block ?_ | refine AWP.exit ?_)); refine AWP.region hX kER_ok rfl ?_ ?_
  · trivial
  refine AWP.frzB hX 2 ?_
  refine AWP.frzB hX 3 ?_
  have c1 : (hdrE e).length + List.length e.2.2.2.1 ≤ 1000000000 := by rw [hdrE_len]; omega
  have c2 : List.length (hdrE e ++ e.2.2.2.1) ≤ 1000000 := by rw [List.length_append, hdrE_len]; omega
  refine AWP.seq ?_
  refine AWP.orders (σ' := ⟨[(4, ⟨.optr dg, ⟨2, dg, .here⟩⟩)], [(2, some (.box dg (sealE key e)))], 4⟩) dM hX kER_ok 8 rfl (by kernel_rfl) [[0, 1, 2, 3, 4, 5, 6, 7], [0, 1, 3, 2, 4, 5, 6, 7], [0, 1, 3, 4, 2, 5, 6, 7], [0, 3, 1, 2, 4, 5, 6, 7], [0, 3, 1, 4, 2, 5, 6, 7], [0, 3, 4, 1, 2, 5, 6, 7], [1, 0, 2, 3, 4, 5, 6, 7], [1, 0, 3, 2, 4, 5, 6, 7], [1, 0, 3, 4, 2, 5, 6, 7], [1, 2, 0, 3, 4, 5, 6, 7], [1, 2, 3, 0, 4, 5, 6, 7], [1, 2, 3, 4, 0, 5, 6, 7], [1, 2, 3, 4, 5, 0, 6, 7], [1, 3, 0, 2, 4, 5, 6, 7], [1, 3, 0, 4, 2, 5, 6, 7], [1, 3, 2, 0, 4, 5, 6, 7], [1, 3, 2, 4, 0, 5, 6, 7], [1, 3, 2, 4, 5, 0, 6, 7], [1, 3, 4, 0, 2, 5, 6, 7], [1, 3, 4, 2, 0, 5, 6, 7], [1, 3, 4, 2, 5, 0, 6, 7], [3, 0, 1, 2, 4, 5, 6, 7], [3, 0, 1, 4, 2, 5, 6, 7], [3, 0, 4, 1, 2, 5, 6, 7], [3, 1, 0, 2, 4, 5, 6, 7], [3, 1, 0, 4, 2, 5, 6, 7], [3, 1, 2, 0, 4, 5, 6, 7], [3, 1, 2, 4, 0, 5, 6, 7], [3, 1, 2, 4, 5, 0, 6, 7], [3, 1, 4, 0, 2, 5, 6, 7], [3, 1, 4, 2, 0, 5, 6, 7], [3, 1, 4, 2, 5, 0, 6, 7], [3, 4, 0, 1, 2, 5, 6, 7], [3, 4, 1, 0, 2, 5, 6, 7], [3, 4, 1, 2, 0, 5, 6, 7], [3, 4, 1, 2, 5, 0, 6, 7]] (by kernel_rfl) ?_ ?_
  · repeat' (first | exact AllL.nil | exact ⟨c1, c2⟩ | refine AllL.cons (LinOk.mk rfl ?_ ⟨⟨rfl, trivial⟩, ⟨rfl, trivial⟩, rfl, rfl⟩) ?_)
  exact AWP.ret ⟨.inr rfl, done1 rfl trivial rfl rfl rfl⟩
def kES : Kn := { ltK with C := [(19, cLBytes), (20, cERight)] }
theorem kES_ok : KnOk Tryd.prog dG kES := evK_ok.with (.cons lBytes_ok.toD <| .cons eRight_ok .nil)
def zEv : ev.T := (0, 0, 0, [], zDg, ())
def envE (keys : List (List UInt8)) (seq : Int) (l : Lt) : ev.T := (l.2.1, l.2.2.1, seq, bytesL l, sealE (keys.getD l.2.1.toNat zDg) (l.2.1, l.2.2.1, seq, bytesL l, zDg, ()), ())
def sealS (keys : List (List UInt8)) (seq : Int) (l : Lt) : ev.T × Int × Unit := if keys.length > 16 ∨ seq < 1 ∨ seq > 1099511627776 ∨ keys.length ≤ 1 then (zEv, 1, ()) else (envE keys seq l, 0, ())
def cESeal : Ctr := { args := [.slice dg, i64, lt], pre := fun x => [ansOk x.2.2.1], res := .tup ev (.tup i64 .unit), own := none, out := fun x => sealS x.1 x.2.1 x.2.2.1 }
theorem eSeal_ok : CtrOk Tryd.prog dG 10 cESeal := by
  refine ctr_of_awp (K := kES) kES_ok Tryd.func10 rfl rfl Tryd.call10 rfl (by decide) (by intro h; cases h) ?_
  rintro w0 X hX ⟨(keys : List (List UInt8)), (seq : Int), (l : Lt), ⟨⟩⟩ hp
  have hok : ansOk l := hp
  obtain ⟨v, g, w, rfl, hgg, hw, hv, hl⟩ := id hok
  change AWP _ _ _ _ _ ⟨[(0, ⟨.slice dg, keys⟩), (1, ⟨i64, seq⟩), (2, ⟨lt, ansL v g w⟩)], [], 0⟩ _
  (repeat (first | refine AWP.seq ?_ | refine AWP.skip ?_ | refine AWP.block ?_ | refine AWP.exit ?_)); refine AWP.region hX kES_ok rfl ?_ ?_
  · trivial
  (repeat (first | refine AWP.seq ?_ | refine AWP.skip ?_ | refine AWP.block ?_ | refine AWP.exit ?_)); refine AWP.region hX kES_ok rfl ?_ ?_
  · repeat' (first | exact trivial | exact id | (refine ⟨?_, ?_⟩))
  refine AWP.cond rfl (fun hb => ?_) (fun hb => ?_)
  · have h1 : keys.length > 16 ∨ seq < 1 ∨ seq > 1099511627776 := by
      rw [b_or, b_or, Bool.or_eq_true, Bool.or_eq_true, decide_eq_true_iff, decide_eq_true_iff, decide_eq_true_iff] at hb
      omega
    (repeat (first | refine AWP.seq ?_ | refine AWP.skip ?_ | refine AWP.block ?_ | refine AWP.exit ?_)); refine AWP.region hX kES_ok rfl ?_ ?_
    · trivial
    refine AWP.ret ⟨.inr rfl, done2 (by decide) rfl rfl trivial ?_⟩
    show _ = sealS keys seq _
    unfold sealS
    rw [if_pos (by omega)]
    rfl
  have h1 : keys.length ≤ 16 ∧ 1 ≤ seq ∧ seq ≤ 1099511627776 := by
    rw [b_or, b_or, Bool.or_eq_false_iff, Bool.or_eq_false_iff, decide_eq_false_iff_not, decide_eq_false_iff_not, decide_eq_false_iff_not] at hb
    omega
  refine AWP.skip ?_
  refine AWP.fit (σ' := ⟨[(0, ⟨.slice dg, keys⟩), (1, ⟨i64, seq⟩), (5, ⟨.optr lt, ⟨0, lt, .here⟩⟩), (6, ⟨.optr ev, ⟨1, ev, .here⟩⟩)], [(0, some (.box lt (ansL v g w))), (1, some (.box ev zEv))], 2⟩) ⟨⟨rfl, rfl, rfl, rfl, trivial⟩, ⟨rfl, rfl, trivial⟩, rfl, rfl⟩ ?_
  refine AWP.frzB hX 5 ?_
  (repeat (first | refine AWP.seq ?_ | refine AWP.skip ?_ | refine AWP.block ?_ | refine AWP.exit ?_)); refine AWP.region hX kES_ok rfl ?_ ?_
  · repeat' (first | exact trivial | assumption | exact hok | (intro _) | (refine ⟨?_, ?_⟩))
  (repeat (first | refine AWP.seq ?_ | refine AWP.skip ?_ | refine AWP.block ?_ | refine AWP.exit ?_)); refine AWP.region hX kES_ok rfl ?_ ?_
  · trivial
  refine AWP.cond rfl (fun hb => absurd (show false = true from hb) (by decide)) (fun _ => ?_)
  refine AWP.skip ?_
  (repeat (first | refine AWP.seq ?_ | refine AWP.skip ?_ | refine AWP.block ?_ | refine AWP.exit ?_)); refine AWP.region hX kES_ok rfl ?_ ?_
  · trivial
  refine AWP.cond rfl (fun hb => ?_) (fun hb => ?_)
  · have hb : decide ((1 : Int) ≥ (keys.length : Nat)) = true := hb
    have hb := of_decide_eq_true hb
    (repeat (first | refine AWP.seq ?_ | refine AWP.skip ?_ | refine AWP.block ?_ | refine AWP.exit ?_)); refine AWP.region hX kES_ok rfl ?_ ?_
    · trivial
    refine AWP.ret ⟨.inr rfl, done2 (by decide) rfl rfl trivial ?_⟩
    show _ = sealS keys seq _
    unfold sealS
    rw [if_pos (by omega)]
    rfl
  have hb : decide ((1 : Int) ≥ (keys.length : Nat)) = false := hb
  have hb := of_decide_eq_false hb
  refine AWP.skip ?_
  (repeat (first | refine AWP.seq ?_ | refine AWP.skip ?_ | refine AWP.block ?_ | refine AWP.exit ?_)); refine AWP.region hX kES_ok rfl ?_ ?_
  · trivial
  have cl : List.length (bytesL (ansL v g w)) ≤ 900000 := outL_len hl (Nat.le_refl _)
  refine AWP.fit (σ' := ⟨[(0, ⟨.slice dg, keys⟩), (5, ⟨.vptr lt, ansL v g w⟩), (6, ⟨.optr ev, ⟨1, ev, .here⟩⟩), (10, ⟨.optr ev, ⟨2, ev, .here⟩⟩)], [(1, some (.box ev zEv)), (2, some (.box ev (1, 0, seq, bytesL (ansL v g w), zDg, ())))], 3⟩) ⟨⟨rfl, rfl, rfl, rfl, trivial⟩, ⟨rfl, rfl, trivial⟩, rfl, rfl⟩ ?_
  (repeat (first | refine AWP.seq ?_ | refine AWP.skip ?_ | refine AWP.block ?_ | refine AWP.exit ?_)); refine AWP.draw dM hX kES_ok 8 (by kernel_rfl) rfl rfl ?_ ?_ ?_
  · exact ⟨(show (0 : Int) ≤ 1 by decide), (show (1 : Int) < (keys.length : Nat) by omega), cl⟩
  · trivial
  (repeat (first | refine AWP.seq ?_ | refine AWP.skip ?_ | refine AWP.block ?_ | refine AWP.exit ?_)); refine AWP.region hX kES_ok rfl ?_ ?_
  · trivial
  refine AWP.ret ⟨.inr rfl, done2 (by decide) rfl rfl trivial ?_⟩
  show _ = sealS keys seq _
  unfold sealS
  rw [if_neg (by omega)]
  rfl
end Go.Proofs.YtbbeldmcdjjnbaaDoor
namespace Go.Proofs.YtbbeldmcdjjnbaaDoor
open Go Go.RowKit
set_option linter.unusedSimpArgs false
set_option linter.unusedVariables false
set_option maxRecDepth 100000
def cAns : Ctr := { args := [ints, i64, sp], pre := fun _ => [], res := lt, own := none, out := fun x => ansL x.1 x.2.1 x.2.2.1 }
theorem ans_ok : CtrOk Tryd.prog dG 11 cAns := by
  refine ctr_of_awp (K := ltK) evK_ok Tryd.func11 rfl rfl Tryd.call11 rfl (by decide) (by intro h; cases h) ?_
  rintro w0 X hX ⟨(v : List Int), (g : Int), (w : Sp), ⟨⟩⟩ hp
  change AWP _ _ _ _ _ ⟨[(0, ⟨ints, v⟩), (1, ⟨i64, g⟩), (2, ⟨sp, w⟩)], [], 0⟩ _
  (repeat (first | refine AWP.seq ?_ | refine AWP.skip ?_ | refine AWP.block ?_ | refine AWP.exit ?_)); refine AWP.region hX evK_ok rfl ?_ ?_
  · trivial
  (repeat (first | refine AWP.seq ?_ | refine AWP.skip ?_ | refine AWP.block ?_ | refine AWP.exit ?_)); refine AWP.region hX evK_ok rfl ?_ ?_
  · trivial
  exact AWP.ret ⟨.inr rfl, done1 rfl trivial rfl rfl rfl⟩
def kSan : Kn := { ltK with C := [(7, cView), (10, cESeal), (11, cAns)] }
theorem kSan_ok : KnOk Tryd.prog dG kSan := evK_ok.with (.cons view_ok.toD <| .cons eSeal_ok <| .cons ans_ok .nil)
theorem san_view : viewS [((30, 60, ()), 2, ())] 3 (0, 90, ()) = ([0, 2, 0], 0) := by kernel_rfl
def cSan : Ctr := { args := [], pre := fun _ => [], res := .bool, own := none, out := fun _ => true }
theorem san_ok : CtrOk Tryd.prog dG 4 cSan := by
  refine ctr_of_awp (K := kSan) kSan_ok Tryd.func4 rfl rfl Tryd.call4 rfl (by decide) (by intro h; cases h) ?_
  rintro w0 X hX ⟨⟩ hp
  change AWP _ _ _ _ _ ⟨[], [], 0⟩ _
  (repeat (first | refine AWP.seq ?_ | refine AWP.skip ?_ | refine AWP.block ?_ | refine AWP.exit ?_)); refine AWP.region hX kSan_ok rfl ?_ ?_
  · trivial
  (repeat (first | refine AWP.seq ?_ | refine AWP.skip ?_ | refine AWP.block ?_ | refine AWP.exit ?_)); refine AWP.region hX kSan_ok rfl ?_ ?_
  · repeat' (first | exact trivial | assumption | (intro _) | (refine ⟨?_, ?_⟩))
  refine AWP.fit (σ' := ⟨[(1, ⟨ints, [0, 2, 0]⟩), (2, ⟨i64, (0 : Int)⟩)], [], 1⟩) ⟨⟨V.congr (congrArg Prod.fst san_view), V.congr (congrArg Prod.snd san_view), trivial⟩, trivial, rfl, rfl⟩ ?_
  (repeat (first | refine AWP.seq ?_ | refine AWP.skip ?_ | refine AWP.block ?_ | refine AWP.exit ?_)); refine AWP.region hX kSan_ok rfl ?_ ?_
  · trivial
  refine AWP.cond rfl (fun hb => absurd (show false = true from hb) (by decide)) (fun _ => ?_)
  refine AWP.skip ?_
  have hok : ansOk (ansL [0, 2, 0] 3 (0, 90, ())) := ⟨_, _, _, rfl, ⟨by decide, by decide⟩, ⟨by decide, by decide, by decide⟩, (by intro x hx; simp at hx; omega), by decide⟩
  (repeat (first | refine AWP.seq ?_ | refine AWP.skip ?_ | refine AWP.block ?_ | refine AWP.exit ?_)); refine AWP.region hX kSan_ok rfl ?_ ?_
  · repeat' (first | exact trivial | exact hok | (refine ⟨?_, ?_⟩))
  have e : (sealS [zDg, zDg] 1 (ansL [0, 2, 0] 3 (0, 90, ()))).2.1 = 0 := by
    unfold sealS
    rw [if_neg (by simp)]
  refine AWP.fit (σ' := ⟨[(1, ⟨ints, [0, 2, 0]⟩), (2, ⟨i64, (0 : Int)⟩), (4, ⟨i64, (0 : Int)⟩)], [], 3⟩) ⟨⟨rfl, rfl, V.congr e, trivial⟩, trivial, rfl, rfl⟩ ?_
  (repeat (first | refine AWP.seq ?_ | refine AWP.skip ?_ | refine AWP.block ?_ | refine AWP.exit ?_)); refine AWP.region hX kSan_ok rfl ?_ ?_
  · have q0 : (0 : Int) ≤ 0 ∧ (0 : Int) < ((3 : Nat) : Int) := by decide
    have q1 : (0 : Int) ≤ 1 ∧ (1 : Int) < ((3 : Nat) : Int) := by decide
    have q2 : (0 : Int) ≤ 2 ∧ (2 : Int) < ((3 : Nat) : Int) := by decide
    repeat' (first | exact trivial | exact id | exact fun h => ⟨h, q0⟩ | exact fun h => ⟨h, q1⟩ | exact fun h => ⟨h, q2⟩ | refine ⟨?_, ?_⟩)
  exact AWP.ret ⟨.inr rfl, done1 rfl trivial rfl rfl (by rfl)⟩
end Go.Proofs.YtbbeldmcdjjnbaaDoor
