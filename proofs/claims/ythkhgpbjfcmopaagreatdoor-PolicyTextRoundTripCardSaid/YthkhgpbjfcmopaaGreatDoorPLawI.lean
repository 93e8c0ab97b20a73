/-
  The canonical text of a policy denotes it, and whatever a text denotes is valid: the statement.
-/
import Derived.Test.YthkhgpbjfcmopaaGreatDoorPLawB
import Derived.Test.YthkhgpbjfcmopaaGreatDoorPPlF
namespace Go.Proofs.YthkhgpbjfcmopaaGreatDoor
open Go Go.RowKit
set_option linter.unusedSimpArgs false
set_option linter.unusedVariables false
set_option maxRecDepth 100000
def kLi : Kn := { pK with C := [(14, cSanity), (25, cMade), (26, cFormatP), (30, cRParse), (32, cSame), (17, cValid)] }
theorem kLi_ok : KnOk Tryz.prog pH kLi := hK_ok.with (.cons sanity_ok <| .cons rmade_ok.lift <| .cons format_ok <| .cons parse_ok <| .cons rsame_ok.lift <| .cons valid_ok.lift .nil)
set_option maxHeartbeats 1000000 in
theorem law9_ok : CtrOk Tryz.prog pH 11 (lawCtr [.slice gr, .str]) := by
  refine ctr_of_awp (K := kLi) kLi_ok Tryz.func11 rfl rfl Tryz.call11 rfl (by decide) (by intro h; cases h) ?_
  rintro w0 X hX ⟨(l : List Gt), (s : List UInt8), _⟩ hp
  change AWP _ _ _ _ _ ⟨[(0, ⟨.slice gr, l⟩), (1, ⟨.str, s⟩)], [], 0⟩ _
  have hl := made_ok l
  (repeat (first | refine AWP.seq ?_ | refine AWP.skip ?_ | refine AWP.block ?_ | refine AWP.exit ?_)); refine AWP.region hX kLi_ok rfl ?_ ?_
  · trivial
  (repeat (first | refine AWP.seq ?_ | refine AWP.skip ?_ | refine AWP.block ?_ | refine AWP.exit ?_)); refine AWP.region hX kLi_ok rfl ?_ ?_
  · trivial
  (repeat (first | refine AWP.seq ?_ | refine AWP.skip ?_ | refine AWP.block ?_ | refine AWP.exit ?_)); refine AWP.region hX kLi_ok rfl ?_ ?_
  · trivial
  refine AWP.fit (σ' := ⟨[(1, ⟨.str, s⟩), (5, ⟨.bool, true⟩), (6, ⟨.optr po, ⟨0, po, .here⟩⟩)], [(0, some (.box po (made l, ())))], 1⟩) ⟨⟨rfl, rfl, rfl, trivial⟩, ⟨rfl, trivial⟩, rfl, rfl⟩ ?_
  generalize made l = p at hl
  have f1 : cFormatP.out ((p, ()), ()) = (text p, 0, ()) := if_pos hl
  have f2 : parseS (text p) = (p, 0, 0) := parse_text hl
  (repeat (first | refine AWP.seq ?_ | refine AWP.skip ?_ | refine AWP.block ?_ | refine AWP.exit ?_)); refine AWP.region hX kLi_ok rfl ?_ ?_
  · trivial
  refine AWP.fit (σ' := ⟨[(1, ⟨.str, s⟩), (5, ⟨.bool, true⟩), (6, ⟨.optr po, ⟨0, po, .here⟩⟩), (7, ⟨.str, text p⟩), (8, ⟨i64, (0 : Int)⟩)], [(0, some (.box po (p, ())))], 1⟩) ⟨⟨rfl, rfl, rfl, vStrP (congrArg (fun z => z.1) f1), vI64 (congrArg (fun z => z.2.1) f1), trivial⟩, ⟨rfl, trivial⟩, rfl, rfl⟩ ?_
  (repeat (first | refine AWP.seq ?_ | refine AWP.skip ?_ | refine AWP.block ?_ | refine AWP.exit ?_)); refine AWP.region hX kLi_ok rfl ?_ ?_
  · trivial
  refine AWP.fit (σ' := ⟨[(1, ⟨.str, s⟩), (5, ⟨.bool, true⟩), (6, ⟨.optr po, ⟨0, po, .here⟩⟩), (8, ⟨i64, (0 : Int)⟩), (9, ⟨.optr po, ⟨1, po, .here⟩⟩), (10, ⟨i64, (0 : Int)⟩), (11, ⟨i64, (0 : Int)⟩)], [(0, some (.box po (p, ()))), (1, some (.box po (p, ())))], 2⟩) ⟨⟨rfl, rfl, rfl, rfl, rfl, vI64 (congrArg (fun z => z.2.1) f2), vI64 (congrArg (fun z => z.2.2) f2), trivial⟩, ⟨rfl, boxPo (congrArg (fun z => z.1) f2), trivial⟩, rfl, rfl⟩ ?_
  (repeat (first | refine AWP.seq ?_ | refine AWP.skip ?_ | refine AWP.block ?_ | refine AWP.exit ?_)); refine AWP.region hX kLi_ok rfl ?_ ?_
  · repeat' (first | exact trivial | assumption | (refine ⟨?_, ?_⟩) | (intro _))
  refine AWP.cond rfl (fun hb => ?_) (fun hb => ?_)
  · exfalso
    have hb : (bif bif bif ((0 : Int) != 0) then true else ((0 : Int) != 0) then true else ((0 : Int) != 0) then true else !decide (p = p)) = true := hb
    rw [decide_eq_true (rfl : p = p)] at hb
    exact absurd hb (by decide)
  have m0 : (0 : Int) ≤ min (((s.length : Nat) : Int)) 5000 := by omega
  have m1 : min (((s.length : Nat) : Int)) 5000 ≤ ((s.length : Nat) : Int) := by omega
  (repeat (first | refine AWP.seq ?_ | refine AWP.skip ?_ | refine AWP.block ?_ | refine AWP.exit ?_)); refine AWP.region hX kLi_ok rfl ?_ ?_
  · repeat' (first | exact trivial | assumption | exact m0 | exact m1 | (refine ⟨?_, ?_⟩) | (intro _) | exact Nat.le_of_ble_eq_true rfl | exact Int.natCast_nonneg _ | (simp_all [allP]; done))
  have hres := parseS_res (s.take (min ((s.length : Nat) : Int) 5000).toNat)
  have hlen : ((s.take (min ((s.length : Nat) : Int) 5000).toNat).length : Int) ≤ (s.length : Nat) := by rw [List.length_take]; omega
  obtain ⟨R, hR⟩ : ∃ R, parseS (s.take (min ((s.length : Nat) : Int) 5000).toNat) = R := ⟨_, rfl⟩
  rw [hR] at hres
  refine AWP.fit (σ' := ⟨[(1, ⟨.str, s⟩), (5, ⟨.bool, true⟩), (12, ⟨.optr po, ⟨2, po, .here⟩⟩), (13, ⟨i64, R.2.1⟩), (14, ⟨i64, R.2.2⟩)], [(2, some (.box po (R.1, ())))], 3⟩) ⟨⟨rfl, rfl, rfl, vI64 (congrArg (fun z => z.2.1) hR), vI64 (congrArg (fun z => z.2.2) hR), trivial⟩, ⟨boxPo (congrArg (fun z => z.1) hR), trivial⟩, rfl, rfl⟩ ?_
  clear hR
  obtain ⟨q, k, e⟩ := R
  (repeat (first | refine AWP.seq ?_ | refine AWP.skip ?_ | refine AWP.block ?_ | refine AWP.exit ?_)); refine AWP.region hX kLi_ok rfl ?_ ?_
  · trivial
  refine AWP.cond rfl (fun hb => ?_) (fun hb => ?_)
  · have hb : (e != 0) = true := hb
    have he : e ≠ 0 := by simpa using hb
    obtain ⟨_, hq, h0, h1⟩ := hres.resolve_left (fun h => he h.1)
    have hq : q = [] := hq
    have y0 : 0 ≤ k := h0
    have y1 : k ≤ (s.length : Nat) := Int.le_trans h1 hlen
    subst hq
    (repeat (first | refine AWP.seq ?_ | refine AWP.skip ?_ | refine AWP.block ?_ | refine AWP.exit ?_)); refine AWP.region hX kLi_ok rfl ?_ ?_
    · repeat' (first | exact trivial | assumption | (refine ⟨?_, ?_⟩) | (intro _))
    refine AWP.ret ⟨.inr rfl, done1 rfl trivial rfl rfl ?_⟩
    exact bif_true (bif_true (bif_true rfl (decide_eq_true y0)) (decide_eq_true y1)) rfl
  · have hb : (e != 0) = false := hb
    have he : e = 0 := by simpa using hb
    obtain ⟨_, h1, hq⟩ := hres.resolve_right (fun h => h.1 he)
    have h1 : k = 0 := h1
    have hq : OkP q := hq
    subst he
    subst h1
    clear hres hb
    have f3 : cFormatP.out ((q, ()), ()) = (text q, 0, ()) := if_pos hq
    have f4 : parseS (text q) = (q, 0, 0) := parse_text hq
    (repeat (first | refine AWP.seq ?_ | refine AWP.skip ?_ | refine AWP.block ?_ | refine AWP.exit ?_)); refine AWP.region hX kLi_ok rfl ?_ ?_
    · trivial
    refine AWP.fit (σ' := ⟨[(5, ⟨.bool, true⟩), (12, ⟨.optr po, ⟨2, po, .here⟩⟩), (13, ⟨i64, (0 : Int)⟩), (15, ⟨.str, text q⟩), (16, ⟨i64, (0 : Int)⟩)], [(2, some (.box po (q, ())))], 3⟩) ⟨⟨rfl, rfl, rfl, vStrP (congrArg (fun z => z.1) f3), vI64 (congrArg (fun z => z.2.1) f3), trivial⟩, ⟨rfl, trivial⟩, rfl, rfl⟩ ?_
    (repeat (first | refine AWP.seq ?_ | refine AWP.skip ?_ | refine AWP.block ?_ | refine AWP.exit ?_)); refine AWP.region hX kLi_ok rfl ?_ ?_
    · trivial
    refine AWP.fit (σ' := ⟨[(5, ⟨.bool, true⟩), (12, ⟨.optr po, ⟨2, po, .here⟩⟩), (13, ⟨i64, (0 : Int)⟩), (16, ⟨i64, (0 : Int)⟩), (17, ⟨.optr po, ⟨3, po, .here⟩⟩), (19, ⟨i64, (0 : Int)⟩)], [(2, some (.box po (q, ()))), (3, some (.box po (q, ())))], 4⟩) ⟨⟨rfl, rfl, rfl, rfl, rfl, vI64 (congrArg (fun z => z.2.2) f4), trivial⟩, ⟨rfl, boxPo (congrArg (fun z => z.1) f4), trivial⟩, rfl, rfl⟩ ?_
    (repeat (first | refine AWP.seq ?_ | refine AWP.skip ?_ | refine AWP.block ?_ | refine AWP.exit ?_)); refine AWP.region hX kLi_ok rfl ?_ ?_
    · repeat' (first | exact trivial | assumption | (refine ⟨?_, ?_⟩) | (intro _))
    refine AWP.ret ⟨.inr rfl, done1 rfl trivial rfl rfl ?_⟩
    exact bif_true (bif_true (bif_true (bif_true (bif_true (decide_eq_true hq) rfl) rfl) rfl) (decide_eq_true rfl)) rfl
end Go.Proofs.YthkhgpbjfcmopaaGreatDoor
