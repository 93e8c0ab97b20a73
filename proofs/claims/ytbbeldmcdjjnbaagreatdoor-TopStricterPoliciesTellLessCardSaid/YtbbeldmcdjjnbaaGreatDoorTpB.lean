/-
  What a stricter policy tells follows from what the laxer one tells: the statement.
-/
import Derived.Test.YtbbeldmcdjjnbaaGreatDoorEvT
import Derived.Test.YtbbeldmcdjjnbaaGreatDoorCoW
import Derived.Test.YtbbeldmcdjjnbaaGreatDoorPPlC
namespace Go.Proofs.YtbbeldmcdjjnbaaGreatDoor
open Go Go.RowKit
set_option linter.unusedSimpArgs false
set_option linter.unusedVariables false
set_option maxRecDepth 100000
def kTp : Kn := { ltK with C := [(4, cSan), (5, cMade), (6, cPStr), (7, cGrainP), (9, cMarks), (8, cView), (10, cCoarser), (11, cSameI)] }
theorem kTp_ok : KnOk Tryz.prog dG kTp := evK_ok.with (.cons san_ok <| .cons rmade_ok.toD <| .cons stricter_ok.toD <| .cons grain_ok.toD <| .cons marks_ok.toD <| .cons view_ok.toD <| .cons coarser_ok.toD <| .cons sameI_ok.toD .nil)
theorem grain_in {l : List Gt} (hl : OkP l) (p : Int) (ts : List Int) : 0 ≤ grain l p ts ∧ grain l p ts ≤ 4 := by
  unfold grain
  rw [if_pos hl]
  cases h : fst1 l 1 p ts with
  | none => exact ⟨by decide, by decide⟩
  | some g => exact (hl.2 g (List.mem_of_find?_eq_some h)).2.2.1
theorem low_high {p q p' : List Gt} (hp : OkP p) (hq : OkP q) (h : p' = if pstr p q = true then p else []) (x : Int) (us : List Int) : 0 ≤ grain p' x us ∧ grain p' x us ≤ grain q x us ∧ grain q x us ≤ 4 := by
  have h4 := grain_in hq x us
  split at h
  · rename_i hs
    subst h
    obtain ⟨_, _, hle⟩ := (pstr_allLe _ q).1 hs
    have h3 := hle x us 1 (.inl rfl)
    rw [← grain_val hp, ← grain_val hq] at h3
    exact ⟨(grain_in hp x us).1, h3, h4.2⟩
  · subst h
    have h0 : grain [] x us = 0 := by
      unfold grain
      rw [if_pos ⟨by decide, by intro g hg; cases hg⟩]
      rfl
    rw [h0]
    exact ⟨by decide, h4.1, h4.2⟩
theorem law16_ok : CtrOk Tryz.prog dG 3 (lawCtr [.arr 2 (.slice gr), who, .slice (.arr 3 u8)]) := by
  refine ctr_of_awp (K := kTp) kTp_ok Tryz.func3 rfl rfl Tryz.call3 rfl (by decide) (by intro h; cases h) ?_
  rintro w0 X hX ⟨(ps : List (List Gt)), ⟨(person : Int), (ts : List Int), _⟩, (a : List (List UInt8)), _⟩ hp
  change AWP _ _ _ _ _ ⟨[(0, ⟨.arr 2 (.slice gr), ps⟩), (1, ⟨who, (person, ts, ())⟩), (2, ⟨.slice (.arr 3 u8), a⟩)], [], 0⟩ _
  (repeat (first | refine AWP.seq ?_ | refine AWP.skip ?_ | refine AWP.block ?_ | refine AWP.exit ?_)); refine AWP.region hX kTp_ok rfl ?_ ?_
  · trivial
  (repeat (first | refine AWP.seq ?_ | refine AWP.skip ?_ | refine AWP.block ?_ | refine AWP.exit ?_)); refine AWP.region hX kTp_ok rfl ?_ ?_
  · trivial
  refine AWP.frzB hX 3 ?_
  refine AWP.frzB hX 4 ?_
  (repeat (first | refine AWP.seq ?_ | refine AWP.skip ?_ | refine AWP.block ?_ | refine AWP.exit ?_)); refine AWP.drawN dM hX kTp_ok 10 (by kernel_rfl) rfl rfl ?_ ?_ ?_
  · have q0 : (0 : Int) ≤ 0 ∧ (0 : Int) < ((2 : Nat) : Int) := by decide
    have q1 : (0 : Int) ≤ 1 ∧ (1 : Int) < ((2 : Nat) : Int) := by decide
    exact ⟨q0.1, q0.2, q1.1, q1.2⟩
  · trivial
  obtain ⟨p, hpp⟩ : ∃ p, p = made (ps.getD 0 []) := ⟨_, rfl⟩
  obtain ⟨q, hqq⟩ : ∃ q, q = made (ps.getD 1 []) := ⟨_, rfl⟩
  refine AWP.fit (σ' := ⟨[(2, ⟨.slice (.arr 3 u8), a⟩), (4, ⟨.vptr who, (person, ts, ())⟩), (7, ⟨.bool, true⟩), (8, ⟨.optr po, ⟨2, po, .here⟩⟩), (9, ⟨.optr po, ⟨3, po, .here⟩⟩)], [(2, some (.box po (p, ()))), (3, some (.box po (q, ())))], 4⟩) ⟨⟨rfl, rfl, rfl, rfl, rfl, trivial⟩, ⟨by rw [hpp]; rfl, by rw [hqq]; rfl, trivial⟩, rfl, rfl⟩ ?_
  have hp1 : OkP p := by rw [hpp]; exact made_ok _
  have hq1 : OkP q := by rw [hqq]; exact made_ok _
  clear hpp hqq
  (repeat (first | refine AWP.seq ?_ | refine AWP.skip ?_ | refine AWP.block ?_ | refine AWP.exit ?_)); refine AWP.region hX kTp_ok rfl ?_ ?_
  · exact ⟨(show (0 : Int) ≤ min ((ts.length : Nat) : Int) 8 by omega), (show min ((ts.length : Nat) : Int) 8 ≤ ((ts.length : Nat) : Int) by omega)⟩
  refine AWP.fit (σ' := ⟨[(2, ⟨.slice (.arr 3 u8), a⟩), (4, ⟨.vptr who, (person, ts, ())⟩), (7, ⟨.bool, true⟩), (8, ⟨.optr po, ⟨2, po, .here⟩⟩), (9, ⟨.optr po, ⟨3, po, .here⟩⟩), (10, ⟨ints, ts.take (min ((ts.length : Nat) : Int) 8).toNat⟩)], [(2, some (.box po (p, ()))), (3, some (.box po (q, ())))], 4⟩) ⟨⟨rfl, rfl, rfl, rfl, rfl, rfl, trivial⟩, ⟨rfl, rfl, trivial⟩, rfl, rfl⟩ ?_
  generalize ts.take (min ((ts.length : Nat) : Int) 8).toNat = us
  obtain ⟨p', hp'⟩ : ∃ p', p' = if pstr p q = true then p else [] := ⟨_, rfl⟩
  refine AWP.join (σ' := ⟨[(2, ⟨.slice (.arr 3 u8), a⟩), (4, ⟨.vptr who, (person, ts, ())⟩), (7, ⟨.bool, true⟩), (8, ⟨.optr po, ⟨2, po, .here⟩⟩), (9, ⟨.optr po, ⟨3, po, .here⟩⟩), (10, ⟨ints, us⟩)], [(2, some (.box po (p', ()))), (3, some (.box po (q, ())))], 4⟩) ?_ ?_
  · (repeat (first | refine AWP.seq ?_ | refine AWP.skip ?_ | refine AWP.block ?_ | refine AWP.exit ?_)); refine AWP.region hX kTp_ok rfl ?_ ?_
    · trivial
    refine AWP.cond rfl (fun hb => ?_) (fun hb => ?_)
    · have hb : (!pstr p q) = true := hb
      rw [if_neg (by simpa using hb)] at hp'
      subst hp'
      (repeat (first | refine AWP.seq ?_ | refine AWP.skip ?_ | refine AWP.block ?_ | refine AWP.exit ?_)); refine AWP.region hX kTp_ok rfl ?_ ?_
      · trivial
      exact ⟨⟨rfl, rfl, rfl, rfl, rfl, rfl, trivial⟩, ⟨rfl, rfl, trivial⟩, rfl, rfl⟩
    · have hb : (!pstr p q) = false := hb
      rw [if_pos (by simpa using hb)] at hp'
      subst hp'
      refine AWP.skip ?_
      exact ⟨⟨rfl, rfl, rfl, rfl, rfl, rfl, trivial⟩, ⟨rfl, rfl, trivial⟩, rfl, rfl⟩
  have hlow : 0 ≤ grain p' person us ∧ grain p' person us ≤ grain q person us ∧ grain q person us ≤ 4 := low_high hp1 hq1 hp' person us
  clear hp' hp1 hq1
  refine AWP.frzB hX 8 ?_
  refine AWP.frzB hX 9 ?_
  (repeat (first | refine AWP.seq ?_ | refine AWP.skip ?_ | refine AWP.block ?_ | refine AWP.exit ?_)); refine AWP.draw dM hX kTp_ok 10 (by kernel_rfl) rfl rfl ?_ ?_ ?_
  · trivial
  · trivial
  refine AWP.fit (σ' := ⟨[(2, ⟨.slice (.arr 3 u8), a⟩), (7, ⟨.bool, true⟩), (11, ⟨i64, grain p' person us⟩), (12, ⟨i64, grain q person us⟩)], [], 4⟩) ⟨⟨rfl, rfl, rfl, rfl, trivial⟩, trivial, rfl, rfl⟩ ?_
  generalize grain p' person us = low at hlow
  generalize grain q person us = high at hlow
  obtain ⟨h0, hle, h4⟩ := hlow
  (repeat (first | refine AWP.seq ?_ | refine AWP.skip ?_ | refine AWP.block ?_ | refine AWP.exit ?_)); refine AWP.region hX kTp_ok rfl ?_ ?_
  · trivial
  refine AWP.cond rfl (fun hb => ?_) (fun hb => ?_)
  · have hb : decide (low > high) = true := hb
    have hb := of_decide_eq_true hb
    omega
  refine AWP.skip ?_
  (repeat (first | refine AWP.seq ?_ | refine AWP.skip ?_ | refine AWP.block ?_ | refine AWP.exit ?_)); refine AWP.region hX kTp_ok rfl ?_ ?_
  · trivial
  refine AWP.frzB hX 13 ?_
  (repeat (first | refine AWP.seq ?_ | refine AWP.skip ?_ | refine AWP.block ?_ | refine AWP.exit ?_)); refine AWP.region hX kTp_ok rfl ?_ ?_
  · trivial
  have hmk : marksOk (marksS a) = true := marksS_ok a
  refine AWP.cond rfl (fun hb => ?_) (fun hb => ?_)
  · have hb : (low == 0) = true := hb
    have hb : low = 0 := by simpa using hb
    subst hb
    have e1 : (viewS (marksS a) 0 W27).2 = 12 := by rw [view27_0 hmk]
    (repeat (first | refine AWP.seq ?_ | refine AWP.skip ?_ | refine AWP.block ?_ | refine AWP.exit ?_)); refine AWP.orders (σ' := ⟨[(7, ⟨.bool, true⟩), (15, ⟨i64, (12 : Int)⟩)], [], 5⟩) dM hX kTp_ok 10 rfl (by kernel_rfl) [[0, 1, 2, 3, 4, 5, 6, 7, 8, 9], [0, 1, 2, 3, 4, 5, 6, 8, 7, 9], [0, 1, 2, 3, 4, 5, 7, 6, 8, 9], [0, 1, 3, 2, 4, 5, 6, 7, 8, 9], [0, 1, 3, 2, 4, 5, 6, 8, 7, 9], [0, 1, 3, 2, 4, 5, 7, 6, 8, 9], [0, 2, 1, 3, 4, 5, 6, 7, 8, 9], [0, 2, 1, 3, 4, 5, 6, 8, 7, 9], [0, 2, 1, 3, 4, 5, 7, 6, 8, 9], [0, 2, 3, 1, 4, 5, 6, 7, 8, 9], [0, 2, 3, 1, 4, 5, 6, 8, 7, 9], [0, 2, 3, 1, 4, 5, 7, 6, 8, 9], [0, 3, 1, 2, 4, 5, 6, 7, 8, 9], [0, 3, 1, 2, 4, 5, 6, 8, 7, 9], [0, 3, 1, 2, 4, 5, 7, 6, 8, 9], [0, 3, 2, 1, 4, 5, 6, 7, 8, 9], [0, 3, 2, 1, 4, 5, 6, 8, 7, 9], [0, 3, 2, 1, 4, 5, 7, 6, 8, 9], [2, 0, 1, 3, 4, 5, 6, 7, 8, 9], [2, 0, 1, 3, 4, 5, 6, 8, 7, 9], [2, 0, 1, 3, 4, 5, 7, 6, 8, 9], [2, 0, 3, 1, 4, 5, 6, 7, 8, 9], [2, 0, 3, 1, 4, 5, 6, 8, 7, 9], [2, 0, 3, 1, 4, 5, 7, 6, 8, 9], [2, 3, 0, 1, 4, 5, 6, 7, 8, 9], [2, 3, 0, 1, 4, 5, 6, 8, 7, 9], [2, 3, 0, 1, 4, 5, 7, 6, 8, 9], [3, 0, 1, 2, 4, 5, 6, 7, 8, 9], [3, 0, 1, 2, 4, 5, 6, 8, 7, 9], [3, 0, 1, 2, 4, 5, 7, 6, 8, 9], [3, 0, 2, 1, 4, 5, 6, 7, 8, 9], [3, 0, 2, 1, 4, 5, 6, 8, 7, 9], [3, 0, 2, 1, 4, 5, 7, 6, 8, 9], [3, 2, 0, 1, 4, 5, 6, 7, 8, 9], [3, 2, 0, 1, 4, 5, 6, 8, 7, 9], [3, 2, 0, 1, 4, 5, 7, 6, 8, 9]] (by kernel_rfl) ?_ ?_
    · repeat' (first | exact AllL.nil | exact trivial | refine AllL.cons (LinOk.mk rfl ?_ ⟨⟨rfl, V.congr e1, trivial⟩, trivial, rfl, rfl⟩) ?_)
    (repeat (first | refine AWP.seq ?_ | refine AWP.skip ?_ | refine AWP.block ?_ | refine AWP.exit ?_)); refine AWP.region hX kTp_ok rfl ?_ ?_
    · repeat' (first | exact trivial | exact id | (refine ⟨?_, ?_⟩))
    exact AWP.ret ⟨.inr rfl, done1 rfl trivial rfl rfl rfl⟩
  have hb : (low == 0) = false := hb
  have hb : low ≠ 0 := by simpa using hb
  have h1 : 1 ≤ low := by omega
  refine AWP.skip ?_
  have e1 : (viewS (marksS a) high W27).1 = vL (marksS a) high W27 (NW high) := by rw [view27 (by omega) h4 hmk]
  have e2 : (viewS (marksS a) high W27).2 = 0 := by rw [view27 (by omega) h4 hmk]
  (repeat (first | refine AWP.seq ?_ | refine AWP.skip ?_ | refine AWP.block ?_ | refine AWP.exit ?_)); refine AWP.orders (σ' := ⟨[(2, ⟨.slice (.arr 3 u8), a⟩), (7, ⟨.bool, true⟩), (11, ⟨i64, low⟩), (12, ⟨i64, high⟩), (13, ⟨.vptr sp, W27⟩), (16, ⟨ints, vL (marksS a) high W27 (NW high)⟩), (17, ⟨i64, (0 : Int)⟩)], [], 5⟩) dM hX kTp_ok 10 rfl (by kernel_rfl) [[0, 1, 2, 3, 4, 5, 6, 7, 8, 9], [0, 1, 2, 3, 4, 5, 6, 8, 7, 9], [0, 1, 2, 3, 4, 5, 7, 6, 8, 9], [0, 1, 3, 2, 4, 5, 6, 7, 8, 9], [0, 1, 3, 2, 4, 5, 6, 8, 7, 9], [0, 1, 3, 2, 4, 5, 7, 6, 8, 9], [0, 2, 1, 3, 4, 5, 6, 7, 8, 9], [0, 2, 1, 3, 4, 5, 6, 8, 7, 9], [0, 2, 1, 3, 4, 5, 7, 6, 8, 9], [0, 2, 3, 1, 4, 5, 6, 7, 8, 9], [0, 2, 3, 1, 4, 5, 6, 8, 7, 9], [0, 2, 3, 1, 4, 5, 7, 6, 8, 9], [0, 3, 1, 2, 4, 5, 6, 7, 8, 9], [0, 3, 1, 2, 4, 5, 6, 8, 7, 9], [0, 3, 1, 2, 4, 5, 7, 6, 8, 9], [0, 3, 2, 1, 4, 5, 6, 7, 8, 9], [0, 3, 2, 1, 4, 5, 6, 8, 7, 9], [0, 3, 2, 1, 4, 5, 7, 6, 8, 9], [2, 0, 1, 3, 4, 5, 6, 7, 8, 9], [2, 0, 1, 3, 4, 5, 6, 8, 7, 9], [2, 0, 1, 3, 4, 5, 7, 6, 8, 9], [2, 0, 3, 1, 4, 5, 6, 7, 8, 9], [2, 0, 3, 1, 4, 5, 6, 8, 7, 9], [2, 0, 3, 1, 4, 5, 7, 6, 8, 9], [2, 3, 0, 1, 4, 5, 6, 7, 8, 9], [2, 3, 0, 1, 4, 5, 6, 8, 7, 9], [2, 3, 0, 1, 4, 5, 7, 6, 8, 9], [3, 0, 1, 2, 4, 5, 6, 7, 8, 9], [3, 0, 1, 2, 4, 5, 6, 8, 7, 9], [3, 0, 1, 2, 4, 5, 7, 6, 8, 9], [3, 0, 2, 1, 4, 5, 6, 7, 8, 9], [3, 0, 2, 1, 4, 5, 6, 8, 7, 9], [3, 0, 2, 1, 4, 5, 7, 6, 8, 9], [3, 2, 0, 1, 4, 5, 6, 7, 8, 9], [3, 2, 0, 1, 4, 5, 6, 8, 7, 9], [3, 2, 0, 1, 4, 5, 7, 6, 8, 9]] (by kernel_rfl) ?_ ?_
  · repeat' (first | exact AllL.nil | exact trivial | refine AllL.cons (LinOk.mk rfl ?_ ⟨⟨rfl, rfl, rfl, rfl, rfl, V.congr e1, V.congr e2, trivial⟩, trivial, rfl, rfl⟩) ?_)
  have e3 : (viewS (marksS a) low W27).1 = vL (marksS a) low W27 (NW low) := by rw [view27 h1 (by omega) hmk]
  have e4 : (viewS (marksS a) low W27).2 = 0 := by rw [view27 h1 (by omega) hmk]
  (repeat (first | refine AWP.seq ?_ | refine AWP.skip ?_ | refine AWP.block ?_ | refine AWP.exit ?_)); refine AWP.orders (σ' := ⟨[(7, ⟨.bool, true⟩), (11, ⟨i64, low⟩), (12, ⟨i64, high⟩), (13, ⟨.vptr sp, W27⟩), (16, ⟨ints, vL (marksS a) high W27 (NW high)⟩), (17, ⟨i64, (0 : Int)⟩), (18, ⟨ints, vL (marksS a) low W27 (NW low)⟩), (19, ⟨i64, (0 : Int)⟩)], [], 5⟩) dM hX kTp_ok 10 rfl (by kernel_rfl) [[0, 1, 2, 3, 4, 5, 6, 7, 8, 9], [0, 1, 2, 3, 4, 5, 6, 8, 7, 9], [0, 1, 2, 3, 4, 5, 7, 6, 8, 9], [0, 1, 3, 2, 4, 5, 6, 7, 8, 9], [0, 1, 3, 2, 4, 5, 6, 8, 7, 9], [0, 1, 3, 2, 4, 5, 7, 6, 8, 9], [0, 2, 1, 3, 4, 5, 6, 7, 8, 9], [0, 2, 1, 3, 4, 5, 6, 8, 7, 9], [0, 2, 1, 3, 4, 5, 7, 6, 8, 9], [0, 2, 3, 1, 4, 5, 6, 7, 8, 9], [0, 2, 3, 1, 4, 5, 6, 8, 7, 9], [0, 2, 3, 1, 4, 5, 7, 6, 8, 9], [0, 3, 1, 2, 4, 5, 6, 7, 8, 9], [0, 3, 1, 2, 4, 5, 6, 8, 7, 9], [0, 3, 1, 2, 4, 5, 7, 6, 8, 9], [0, 3, 2, 1, 4, 5, 6, 7, 8, 9], [0, 3, 2, 1, 4, 5, 6, 8, 7, 9], [0, 3, 2, 1, 4, 5, 7, 6, 8, 9], [2, 0, 1, 3, 4, 5, 6, 7, 8, 9], [2, 0, 1, 3, 4, 5, 6, 8, 7, 9], [2, 0, 1, 3, 4, 5, 7, 6, 8, 9], [2, 0, 3, 1, 4, 5, 6, 7, 8, 9], [2, 0, 3, 1, 4, 5, 6, 8, 7, 9], [2, 0, 3, 1, 4, 5, 7, 6, 8, 9], [2, 3, 0, 1, 4, 5, 6, 7, 8, 9], [2, 3, 0, 1, 4, 5, 6, 8, 7, 9], [2, 3, 0, 1, 4, 5, 7, 6, 8, 9], [3, 0, 1, 2, 4, 5, 6, 7, 8, 9], [3, 0, 1, 2, 4, 5, 6, 8, 7, 9], [3, 0, 1, 2, 4, 5, 7, 6, 8, 9], [3, 0, 2, 1, 4, 5, 6, 7, 8, 9], [3, 0, 2, 1, 4, 5, 6, 8, 7, 9], [3, 0, 2, 1, 4, 5, 7, 6, 8, 9], [3, 2, 0, 1, 4, 5, 6, 7, 8, 9], [3, 2, 0, 1, 4, 5, 6, 8, 7, 9], [3, 2, 0, 1, 4, 5, 7, 6, 8, 9]] (by kernel_rfl) ?_ ?_
  · repeat' (first | exact AllL.nil | exact trivial | refine AllL.cons (LinOk.mk rfl ?_ ⟨⟨rfl, rfl, rfl, rfl, rfl, rfl, V.congr e3, V.congr e4, trivial⟩, trivial, rfl, rfl⟩) ?_)
  have hne : vL (marksS a) high W27 (NW high) ≠ [] := vL_ne (by omega) h4 _
  (repeat (first | refine AWP.seq ?_ | refine AWP.skip ?_ | refine AWP.block ?_ | refine AWP.exit ?_)); refine AWP.region hX kTp_ok rfl ?_ ?_
  · exact hne
  refine AWP.fit (σ' := ⟨[(7, ⟨.bool, true⟩), (17, ⟨i64, (0 : Int)⟩), (18, ⟨ints, vL (marksS a) low W27 (NW low)⟩), (19, ⟨i64, (0 : Int)⟩), (20, ⟨ints, vL (marksS a) low W27 (NW low)⟩), (21, ⟨i64, (0 : Int)⟩)], [], 5⟩) ⟨⟨rfl, rfl, rfl, rfl, V.congr (by show (coarserS (vL (marksS a) high W27 (NW high)) high low W27).1 = _; rw [coarser27 h1 hle h4 hmk]), V.congr (by show (coarserS (vL (marksS a) high W27 (NW high)) high low W27).2 = 0; rw [coarser27 h1 hle h4 hmk]), trivial⟩, trivial, rfl, rfl⟩ ?_
  (repeat (first | refine AWP.seq ?_ | refine AWP.skip ?_ | refine AWP.block ?_ | refine AWP.exit ?_)); refine AWP.region hX kTp_ok rfl ?_ ?_
  · repeat' (first | exact trivial | exact id | exact fun h => ⟨h, h⟩ | exact fun h => ⟨h, h, h⟩ | (refine ⟨?_, ?_⟩))
  refine AWP.ret ⟨.inr rfl, done1 rfl trivial rfl rfl ?_⟩
  show (bif (bif (bif (bif true then true else false) then true else false) then decide (_ = _) else false) then true else false) = true
  rw [decide_eq_true rfl]
  rfl
end Go.Proofs.YtbbeldmcdjjnbaaGreatDoor
