/-
  Answers hide details: the statement.
-/
import Derived.Test.YtbbeldmcdjjnbaaDoorHiP
namespace Go.Proofs.YtbbeldmcdjjnbaaDoor
open Go Go.RowKit
set_option linter.unusedSimpArgs false
set_option linter.unusedVariables false
set_option maxRecDepth 100000
theorem cells_of {g : Int} {w : Sp} {a b : Int} (h1 : 1 ≤ g) (h4 : g ≤ 4) (h0 : 0 ≤ w.1) (h5 : w.2.1 ≤ 1000000) (ea : w.1 = a * sizeS g) (eb : w.2.1 = b * sizeS g) (hab : a ≤ b) (hn : b - a ≤ 65536) : (cellsS g w).2 = 0 := by
  have hs := sizeS_pos (g := g) (by omega) h4
  have hle : a * sizeS g ≤ b * sizeS g := Int.mul_le_mul_of_nonneg_right hab (by omega)
  have hw : winOk w = true := by
    unfold winOk
    rw [Bool.and_eq_true, Bool.and_eq_true, decide_eq_true_iff, decide_eq_true_iff, decide_eq_true_iff]
    omega
  have e1 : w.1.tmod (sizeS g) = 0 := by rw [ea]; exact Int.mul_tmod_left ..
  have e2 : w.2.1.tmod (sizeS g) = 0 := by rw [eb]; exact Int.mul_tmod_left ..
  have e3 : (w.2.1 - w.1).tdiv (sizeS g) = b - a := by
    rw [ea, eb, ← Int.sub_mul]
    exact Int.mul_tdiv_cancel _ (by omega)
  unfold cellsS
  rw [if_neg (by rw [hw]; rintro (h | h | h) <;> first | omega | cases h), if_neg (by omega), if_neg (by rw [e1, e2]; rintro (h | h) <;> exact h rfl), if_neg (by rw [e3]; omega)]
theorem winX_cells {g : Int} (h1 : 1 ≤ g) (h4 : g ≤ 4) (x : List UInt8) : (cellsS g (winX g x)).2 = 0 := by
  have b0 := u8_mod (x.getD 0 0) 2 (by decide)
  have b1 := u8_mod (x.getD 0 0) 96 (by decide)
  have b2 := u8_mod (x.getD 1 0) 40 (by decide)
  have b0 : (x.getD 0 0 % 2).toNat < 2 := b0
  have b1 : (x.getD 0 0 % 96).toNat < 96 := b1
  have b2 : (x.getD 1 0 % 40).toNat < 40 := b2
  unfold winX
  generalize (x.getD 0 0 % 2).toNat = p at *
  generalize (x.getD 0 0 % 96).toNat = q at *
  generalize (x.getD 1 0 % 40).toNat = r at *
  rcases grains h1 h4 with rfl | rfl | rfl | rfl
  · rw [if_pos rfl]
    exact cells_of (a := 0) (b := 1 + (p : Int)) (by decide) (by decide) (by show (0 : Int) ≤ 0; decide) (by show 1440 * (1 + (p : Int)) ≤ 1000000; omega) (by show (0 : Int) = 0 * 1440; decide) (by show 1440 * (1 + (p : Int)) = (1 + (p : Int)) * 1440; omega) (by omega) (by omega)
  · rw [if_neg (by decide)]
    exact cells_of (a := q) (b := q + 1 + (r : Int)) (by decide) (by decide) (by show (0 : Int) ≤ 30 * (q : Int); omega) (by show 30 * (q : Int) + 30 * (1 + (r : Int)) ≤ 1000000; omega) (by show 30 * (q : Int) = (q : Int) * 30; omega) (by show 30 * (q : Int) + 30 * (1 + (r : Int)) = (q + 1 + (r : Int)) * 30; omega) (by omega) (by omega)
  · rw [if_neg (by decide)]
    exact cells_of (a := q) (b := q + 1 + (r : Int)) (by decide) (by decide) (by show (0 : Int) ≤ 30 * (q : Int); omega) (by show 30 * (q : Int) + 30 * (1 + (r : Int)) ≤ 1000000; omega) (by show 30 * (q : Int) = (q : Int) * 30; omega) (by show 30 * (q : Int) + 30 * (1 + (r : Int)) = (q + 1 + (r : Int)) * 30; omega) (by omega) (by omega)
  · rw [if_neg (by decide)]
    exact cells_of (a := 30 * q) (b := 30 * q + 1 + (r : Int)) (by decide) (by decide) (by show (0 : Int) ≤ 30 * (q : Int); omega) (by show 30 * (q : Int) + 1 * (1 + (r : Int)) ≤ 1000000; omega) (by show 30 * (q : Int) = (30 * q : Int) * 1; omega) (by show 30 * (q : Int) + 1 * (1 + (r : Int)) = (30 * q + 1 + (r : Int)) * 1; omega) (by omega) (by omega)
theorem and2 {a b : Bool} (h : a = true) (k : b = true) : (a && b) = true := by rw [h, k]; rfl
/-- the statement's answers, in plain -/
theorem seal_2 {keys : List (List UInt8)} (hk : keys.length = 2) (l : Lt) : sealS keys 1 l = (envE keys 1 l, 0, ()) := by
  unfold sealS
  rw [if_neg (by rw [hk]; omega)]
def kHi : Kn := { hiK with C := [(4, cSan), (5, cMarks), (6, cWinX), (7, cView), (8, cSameV), (9, cWit), (10, cESeal), (11, cAns)] }
theorem hiD_ok : KnOk Tryd.prog dG hiK := ⟨hiT_ok, ltU_ok, CsOk.nil, dK_ok.st, RsOk.nil⟩
theorem kHi_ok : KnOk Tryd.prog dG kHi := hiD_ok.with (.cons san_ok <| .cons marks_ok.toD <| .cons winX_ok.toD <| .cons view_ok.toD <| .cons same_ok.toD <| .cons wit_ok.toD <| .cons eSeal_ok <| .cons ans_ok .nil)
theorem law11_ok : CtrOk Tryd.prog dG 3 (lawCtr [.slice (.arr 3 u8), .slice (.arr 3 u8), .arr 4 u8]) := by
  refine ctr_of_awp (K := kHi) kHi_ok Tryd.func3 rfl rfl Tryd.call3 rfl (by decide) (by intro h; cases h) ?_
  rintro w0 X hX ⟨(a : List (List UInt8)), (b : List (List UInt8)), (x : List UInt8), _⟩ hp
  change AWP _ _ _ _ _ ⟨[(0, ⟨.slice (.arr 3 u8), a⟩), (1, ⟨.slice (.arr 3 u8), b⟩), (2, ⟨.arr 4 u8, x⟩)], [], 0⟩ _
  have b0 : (x.getD (0 : Int).toNat 0 % 4).toNat < 4 := u8_mod _ 4 (by decide)
  have q0 : (0 : Int) ≤ 0 ∧ (0 : Int) < ((4 : Nat) : Int) := by decide
  have q1 : (0 : Int) ≤ 1 ∧ (1 : Int) < ((4 : Nat) : Int) := by decide
  have q2 : (0 : Int) ≤ 2 ∧ (2 : Int) < ((4 : Nat) : Int) := by decide
  have q3 : (0 : Int) ≤ 3 ∧ (3 : Int) < ((4 : Nat) : Int) := by decide
  have z0 : (4 : UInt8) ≠ 0 := by decide
  (repeat (first | refine AWP.seq ?_ | refine AWP.skip ?_ | refine AWP.block ?_ | refine AWP.exit ?_)); refine AWP.region hX kHi_ok rfl ?_ ?_
  · trivial
  refine AWP.frzB hX 5 ?_
  (repeat (first | refine AWP.seq ?_ | refine AWP.skip ?_ | refine AWP.block ?_ | refine AWP.exit ?_)); refine AWP.region hX kHi_ok rfl ?_ ?_
  · trivial
  (repeat (first | refine AWP.seq ?_ | refine AWP.skip ?_ | refine AWP.block ?_ | refine AWP.exit ?_)); refine AWP.region hX kHi_ok rfl ?_ ?_
  · trivial
  have r1 : inR .i64 (1 + (((x.getD (0 : Int).toNat 0 % 4).toNat : Nat) : Int)) := inR_small (by omega) (by omega)
  (repeat (first | refine AWP.seq ?_ | refine AWP.skip ?_ | refine AWP.block ?_ | refine AWP.exit ?_)); refine AWP.region hX kHi_ok rfl ?_ ?_
  · repeat' (first | exact trivial | exact q0.1 | exact q0.2 | exact z0 | exact r1 | (refine ⟨?_, ?_⟩))
  (repeat (first | refine AWP.seq ?_ | refine AWP.skip ?_ | refine AWP.block ?_ | refine AWP.exit ?_)); refine AWP.region hX kHi_ok rfl ?_ ?_
  · repeat' (first | exact trivial | exact q1.1 | exact q1.2 | exact q2.1 | exact q2.2 | (refine ⟨?_, ?_⟩))
  refine AWP.frzB hX 11 ?_
  (repeat (first | refine AWP.seq ?_ | refine AWP.skip ?_ | refine AWP.block ?_ | refine AWP.exit ?_)); refine AWP.region hX kHi_ok rfl ?_ ?_
  · repeat' (first | exact trivial | exact q3.1 | exact q3.2 | (refine ⟨?_, ?_⟩))
  refine AWP.frz hX 12 ?_
  obtain ⟨g, hg⟩ : ∃ g : Int, g = 1 + (((x.getD (0 : Int).toNat 0 % 4).toNat : Nat) : Int) := ⟨_, rfl⟩
  obtain ⟨w, hw⟩ : ∃ w : Sp, w = winX g [x.getD (1 : Int).toNat 0, x.getD (2 : Int).toNat 0] := ⟨_, rfl⟩
  obtain ⟨keys, hk⟩ : ∃ keys : List (List UInt8), keys = [x.getD (3 : Int).toNat 0 :: List.replicate 31 0, 1 :: x.getD (3 : Int).toNat 0 :: List.replicate 30 0] := ⟨_, rfl⟩
  have hk2 : keys.length = 2 := by rw [hk]; rfl
  have hg1 : 1 ≤ g ∧ g ≤ 4 := by omega
  have hc : (cellsS g w).2 = 0 := by rw [hw]; exact winX_cells hg1.1 hg1.2 _
  refine AWP.fit (σ' := ⟨[(7, ⟨.bool, true⟩), (8, ⟨.slice mk, marksS a⟩), (9, ⟨.slice mk, marksS b⟩), (10, ⟨i64, g⟩), (11, ⟨.vptr sp, w⟩), (12, ⟨.slice dg, keys⟩)], [], 10⟩) ⟨⟨rfl, rfl, rfl, ?_, ?_, ?_, trivial⟩, trivial, rfl, rfl⟩ ?_
  · exact vI64 hg.symm
  · rw [hw, hg]; rfl
  · rw [hk]; rfl
  obtain ⟨n, hwn⟩ := winN_of hc
  have ha : marksOk (marksS a) = true := marksS_ok a
  have hb' : marksOk (marksS b) = true := marksS_ok b
  clear hk hw hg r1 b0 q0 q1 q2 q3 z0 hc
  generalize marksS a = l at ha
  generalize marksS b = m at hb'
  have ev := view_win hwn ha
  have eu := view_win hwn hb'
  have hvm := vL_most hg1.1 hg1.2 ha w n
  have hum := vL_most hg1.1 hg1.2 hb' w n
  have hvl : (vL l g w n).length = n := vL_len ..
  have hul : (vL m g w n).length = n := vL_len ..
  have es : sameS l m g w = (decide (vL l g w n = vL m g w n), 0) := by
    unfold sameS
    rw [ev, eu, if_neg (by simp), if_neg (by simp)]
  have ewi := witness_win hwn hvl hvm
  have ez := view_win hwn (wit_marks hwn (vL l g w n))
  rw [vL_wit hwn hvl hvm] at ez
  generalize vL l g w n = v at *
  generalize vL m g w n = u at *
  (repeat (first | refine AWP.seq ?_ | refine AWP.skip ?_ | refine AWP.block ?_ | refine AWP.exit ?_)); refine AWP.region hX kHi_ok rfl ?_ ?_
  · trivial
  refine AWP.fit (σ' := ⟨[(7, ⟨.bool, true⟩), (8, ⟨.slice mk, l⟩), (9, ⟨.slice mk, m⟩), (10, ⟨i64, g⟩), (11, ⟨.vptr sp, w⟩), (12, ⟨.slice dg, keys⟩), (13, ⟨ints, v⟩), (14, ⟨i64, (0 : Int)⟩)], [], 10⟩) ⟨⟨rfl, rfl, rfl, rfl, rfl, rfl, V.congr (congrArg Prod.fst ev), V.congr (congrArg Prod.snd ev), trivial⟩, trivial, rfl, rfl⟩ ?_
  (repeat (first | refine AWP.seq ?_ | refine AWP.skip ?_ | refine AWP.block ?_ | refine AWP.exit ?_)); refine AWP.region hX kHi_ok rfl ?_ ?_
  · trivial
  refine AWP.fit (σ' := ⟨[(7, ⟨.bool, true⟩), (8, ⟨.slice mk, l⟩), (9, ⟨.slice mk, m⟩), (10, ⟨i64, g⟩), (11, ⟨.vptr sp, w⟩), (12, ⟨.slice dg, keys⟩), (13, ⟨ints, v⟩), (14, ⟨i64, (0 : Int)⟩), (15, ⟨ints, u⟩), (16, ⟨i64, (0 : Int)⟩)], [], 10⟩) ⟨⟨rfl, rfl, rfl, rfl, rfl, rfl, rfl, rfl, V.congr (congrArg Prod.fst eu), V.congr (congrArg Prod.snd eu), trivial⟩, trivial, rfl, rfl⟩ ?_
  (repeat (first | refine AWP.seq ?_ | refine AWP.skip ?_ | refine AWP.block ?_ | refine AWP.exit ?_)); refine AWP.region hX kHi_ok rfl ?_ ?_
  · trivial
  refine AWP.fit (σ' := ⟨[(7, ⟨.bool, true⟩), (10, ⟨i64, g⟩), (11, ⟨.vptr sp, w⟩), (12, ⟨.slice dg, keys⟩), (13, ⟨ints, v⟩), (14, ⟨i64, (0 : Int)⟩), (15, ⟨ints, u⟩), (16, ⟨i64, (0 : Int)⟩), (17, ⟨.bool, decide (v = u)⟩), (18, ⟨i64, (0 : Int)⟩)], [], 10⟩) ⟨⟨rfl, rfl, rfl, rfl, rfl, rfl, rfl, rfl, V.congr (congrArg Prod.fst es), V.congr (congrArg Prod.snd es), trivial⟩, trivial, rfl, rfl⟩ ?_
  (repeat (first | refine AWP.seq ?_ | refine AWP.skip ?_ | refine AWP.block ?_ | refine AWP.exit ?_)); refine AWP.region hX kHi_ok rfl ?_ ?_
  · trivial
  refine AWP.fit (σ' := ⟨[(7, ⟨.bool, true⟩), (10, ⟨i64, g⟩), (11, ⟨.vptr sp, w⟩), (12, ⟨.slice dg, keys⟩), (13, ⟨ints, v⟩), (14, ⟨i64, (0 : Int)⟩), (15, ⟨ints, u⟩), (16, ⟨i64, (0 : Int)⟩), (17, ⟨.bool, decide (v = u)⟩), (18, ⟨i64, (0 : Int)⟩), (19, ⟨.slice mk, witN v g w n⟩), (20, ⟨i64, (0 : Int)⟩)], [], 10⟩) ⟨⟨rfl, rfl, rfl, rfl, rfl, rfl, rfl, rfl, rfl, rfl, V.congr (congrArg Prod.fst ewi), V.congr (congrArg Prod.snd ewi), trivial⟩, trivial, rfl, rfl⟩ ?_
  (repeat (first | refine AWP.seq ?_ | refine AWP.skip ?_ | refine AWP.block ?_ | refine AWP.exit ?_)); refine AWP.region hX kHi_ok rfl ?_ ?_
  · trivial
  refine AWP.fit (σ' := ⟨[(7, ⟨.bool, true⟩), (10, ⟨i64, g⟩), (11, ⟨.vptr sp, w⟩), (12, ⟨.slice dg, keys⟩), (13, ⟨ints, v⟩), (14, ⟨i64, (0 : Int)⟩), (15, ⟨ints, u⟩), (16, ⟨i64, (0 : Int)⟩), (17, ⟨.bool, decide (v = u)⟩), (18, ⟨i64, (0 : Int)⟩), (20, ⟨i64, (0 : Int)⟩), (21, ⟨ints, v⟩), (22, ⟨i64, (0 : Int)⟩)], [], 10⟩) ⟨⟨rfl, rfl, rfl, rfl, rfl, rfl, rfl, rfl, rfl, rfl, rfl, V.congr (congrArg Prod.fst ez), V.congr (congrArg Prod.snd ez), trivial⟩, trivial, rfl, rfl⟩ ?_
  clear ev eu es ewi ez
  (repeat (first | refine AWP.seq ?_ | refine AWP.skip ?_ | refine AWP.block ?_ | refine AWP.exit ?_)); refine AWP.region hX kHi_ok rfl ?_ ?_
  · repeat' (first | exact trivial | exact id | exact fun h => ⟨h, h⟩ | exact fun h => ⟨h, h, h⟩ | exact fun h => ⟨h, h, h, h⟩ | (refine ⟨?_, ?_⟩))
  refine AWP.cond rfl (fun hb => absurd (show false = true from hb) (by decide)) (fun _ => ?_)
  refine AWP.skip ?_
  have bv := most_bytes hvm
  have bu := most_bytes hum
  obtain ⟨hg1', hw1, hw2, hw3, hw4⟩ := hwn
  have hwo : -2251799813685248 ≤ w.1 ∧ w.1 ≤ w.2.1 ∧ w.2.1 ≤ 2251799813685248 := (cells_spec (by rw [hw4])).2.2.1
  have ov : ansOk (ansL v g w) := ⟨v, g, w, rfl, hg1, hwo, bv, by omega⟩
  have ou : ansOk (ansL u g w) := ⟨u, g, w, rfl, hg1, hwo, bu, by omega⟩
  have sv := seal_2 hk2 (ansL v g w)
  have su := seal_2 hk2 (ansL u g w)
  have hvu : (bytesL (ansL v g w) = bytesL (ansL u g w)) ↔ v = u := body_inj bv bu
  have hE : (envE keys 1 (ansL v g w)).2.2.2.1 = bytesL (ansL v g w) := rfl
  have hE2 : (envE keys 1 (ansL u g w)).2.2.2.1 = bytesL (ansL u g w) := rfl
  have hVU : v = u → envE keys 1 (ansL v g w) = envE keys 1 (ansL u g w) := fun h => by rw [h]
  (repeat (first | refine AWP.seq ?_ | refine AWP.skip ?_ | refine AWP.block ?_ | refine AWP.exit ?_)); refine AWP.region hX kHi_ok rfl ?_ ?_
  · exact ov
  refine AWP.frzB hX 23 ?_
  refine AWP.fit (σ' := ⟨[(7, ⟨.bool, true⟩), (10, ⟨i64, g⟩), (11, ⟨.vptr sp, w⟩), (12, ⟨.slice dg, keys⟩), (15, ⟨ints, u⟩), (17, ⟨.bool, decide (v = u)⟩), (21, ⟨ints, v⟩), (23, ⟨.vptr ev, envE keys 1 (ansL v g w)⟩), (24, ⟨i64, (0 : Int)⟩)], [], 20⟩) ⟨⟨rfl, rfl, rfl, rfl, rfl, rfl, rfl, V.congr (congrArg Prod.fst sv), V.congr (congrArg (fun z => z.2.1) sv), trivial⟩, trivial, rfl, rfl⟩ ?_
  (repeat (first | refine AWP.seq ?_ | refine AWP.skip ?_ | refine AWP.block ?_ | refine AWP.exit ?_)); refine AWP.region hX kHi_ok rfl ?_ ?_
  · exact ou
  refine AWP.frzB hX 25 ?_
  refine AWP.fit (σ' := ⟨[(7, ⟨.bool, true⟩), (10, ⟨i64, g⟩), (11, ⟨.vptr sp, w⟩), (12, ⟨.slice dg, keys⟩), (17, ⟨.bool, decide (v = u)⟩), (21, ⟨ints, v⟩), (23, ⟨.vptr ev, envE keys 1 (ansL v g w)⟩), (24, ⟨i64, (0 : Int)⟩), (25, ⟨.vptr ev, envE keys 1 (ansL u g w)⟩), (26, ⟨i64, (0 : Int)⟩)], [], 30⟩) ⟨⟨rfl, rfl, rfl, rfl, rfl, rfl, rfl, rfl, V.congr (congrArg Prod.fst su), V.congr (congrArg (fun z => z.2.1) su), trivial⟩, trivial, rfl, rfl⟩ ?_
  (repeat (first | refine AWP.seq ?_ | refine AWP.skip ?_ | refine AWP.block ?_ | refine AWP.exit ?_)); refine AWP.region hX kHi_ok rfl ?_ ?_
  · exact ov
  refine AWP.frzB hX 27 ?_
  refine AWP.fit (σ' := ⟨[(7, ⟨.bool, true⟩), (17, ⟨.bool, decide (v = u)⟩), (23, ⟨.vptr ev, envE keys 1 (ansL v g w)⟩), (24, ⟨i64, (0 : Int)⟩), (25, ⟨.vptr ev, envE keys 1 (ansL u g w)⟩), (26, ⟨i64, (0 : Int)⟩), (27, ⟨.vptr ev, envE keys 1 (ansL v g w)⟩), (28, ⟨i64, (0 : Int)⟩)], [], 40⟩) ⟨⟨rfl, rfl, rfl, rfl, rfl, rfl, V.congr (congrArg Prod.fst sv), V.congr (congrArg (fun z => z.2.1) sv), trivial⟩, trivial, rfl, rfl⟩ ?_
  clear sv su
  generalize envE keys 1 (ansL v g w) = p at *
  generalize envE keys 1 (ansL u g w) = q at *
  generalize bytesL (ansL v g w) = P at *
  generalize bytesL (ansL u g w) = Q at *
  (repeat (first | refine AWP.seq ?_ | refine AWP.skip ?_ | refine AWP.block ?_ | refine AWP.exit ?_)); refine AWP.region hX kHi_ok rfl ?_ ?_
  · repeat' (first | exact trivial | exact id | exact fun h => ⟨h, h⟩ | exact fun h => ⟨h, h, h⟩ | exact fun h => ⟨h, h, h, h⟩ | (refine ⟨?_, ?_⟩))
  refine AWP.cond rfl (fun hb => ?_) (fun hb => ?_)
  · exfalso
    dsimp only at hb
    rw [eqb_self, eqb_self] at hb
    cases hb
  refine AWP.skip ?_
  clear hb
  (repeat (first | refine AWP.seq ?_ | refine AWP.skip ?_ | refine AWP.block ?_ | refine AWP.exit ?_)); refine AWP.region hX kHi_ok rfl ?_ ?_
  · repeat' (first | exact trivial | exact id | exact fun h => ⟨and2 h h, fun h2 => and2 (and2 h h) h2⟩ | exact fun h => ⟨h, h⟩ | exact fun h => ⟨h, h, h⟩ | (refine ⟨?_, ?_⟩))
  refine AWP.ret ⟨.inr rfl, done1 rfl trivial rfl rfl ?_⟩
  show (bif bif eqb .bool (decide (v = u)) (eqb .str p.2.2.2.1 q.2.2.2.1) then bif !decide (v = u) then true else eqb dg p.2.2.2.2.1 q.2.2.2.2.1 else false then true else false) = true
  by_cases h : v = u
  · have hpq := hVU h
    subst hpq
    rw [eqb_self, eqb_self, decide_eq_true h, eqb_self]
    rfl
  · have hne : eqb .str p.2.2.2.1 q.2.2.2.1 = false := by
      rw [Bool.eq_false_iff]
      intro h2
      have h3 : p.2.2.2.1 = q.2.2.2.1 := eqb_iff.1 h2
      rw [hE, hE2] at h3
      exact h (hvu.1 h3)
    rw [hne, decide_eq_false h, eqb_self]
    rfl
end Go.Proofs.YtbbeldmcdjjnbaaDoor
