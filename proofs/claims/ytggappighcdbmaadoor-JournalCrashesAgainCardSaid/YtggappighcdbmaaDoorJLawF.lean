/-
  The statements of chapter 23: JournalContinues, JournalCrashesAgain.
-/
import Derived.Test.YtggappighcdbmaaDoorJLawE
namespace Go.Proofs.YtggappighcdbmaaDoor
open Go Go.RowKit
set_option linter.unusedSimpArgs false
set_option linter.unusedVariables false
set_option maxRecDepth 100000
theorem law7_ok : CtrOk Tryd.prog dG 9 (lawCtr [.slice bs, jt, bs]) := by
  refine ctr_of_awp (K := kW) kW_ok Tryd.func9 rfl rfl Tryd.call9 rfl (by decide) (by intro h; cases h) ?_
  rintro w0 X hX ⟨(l : List (List UInt8)), (t : Tr), (b : List UInt8), _⟩ hp
  change AWP _ _ _ _ _ ⟨[(0, ⟨.slice bs, l⟩), (1, ⟨jt, t⟩), (2, ⟨bs, b⟩)], [], 0⟩ _
  have hF := few_few l
  (repeat (first | refine AWP.seq ?_ | refine AWP.skip ?_ | refine AWP.block ?_ | refine AWP.exit ?_)); refine AWP.region hX kW_ok rfl ?_ ?_
  · trivial
  (repeat (first | refine AWP.seq ?_ | refine AWP.skip ?_ | refine AWP.block ?_ | refine AWP.exit ?_)); refine AWP.region hX kW_ok rfl ?_ ?_
  · trivial
  have n0 : (0 : Int) ≤ min ((b.length : Nat) : Int) 60 := by omega
  have n1 : min ((b.length : Nat) : Int) 60 ≤ ((b.length : Nat) : Int) := by omega
  (repeat (first | refine AWP.seq ?_ | refine AWP.skip ?_ | refine AWP.block ?_ | refine AWP.exit ?_)); refine AWP.draw dM hX kW_ok 9 (by kernel_rfl) rfl rfl ?_ ?_ ?_
  · repeat' (first | exact trivial | assumption | exact n0 | exact n1 | (refine ⟨?_, ?_⟩) | (intro _) | exact Nat.le_of_ble_eq_true rfl | exact Int.natCast_nonneg _)
  · trivial
  obtain ⟨x, hx⟩ : ∃ x, (l.take 8).map (List.take 60) = x := ⟨_, rfl⟩
  rw [hx] at hF
  obtain ⟨y, hy⟩ : ∃ y, b.take (min ((b.length : Nat) : Int) 60).toNat = y := ⟨_, rfl⟩
  have hyl : y.length ≤ 60 := by rw [← hy, List.length_take]; omega
  refine AWP.fit (σ' := ⟨[(4, ⟨.optr jt, ⟨0, jt, .here⟩⟩), (7, ⟨.bool, true⟩), (8, ⟨.slice bs, x⟩), (9, ⟨bs, y⟩)], [(0, some (.box jt t))], 1⟩) ⟨⟨rfl, rfl, vSs hx, vBs hy, trivial⟩, ⟨rfl, trivial⟩, rfl, rfl⟩ ?_
  have hdiv : (0 : Int) ≤ Int.tdiv ((x.length : Nat) : Int) 2 := Int.tdiv_nonneg (by omega) (by omega)
  (repeat (first | refine AWP.seq ?_ | refine AWP.skip ?_ | refine AWP.block ?_ | refine AWP.exit ?_)); refine AWP.region hX kW_ok rfl ?_ ?_
  · have h2 : Int.tdiv ((x.length : Nat) : Int) 2 = ((x.length / 2 : Nat) : Int) := rfl
    exact ⟨by decide, inR_small (by rw [h2]; omega) (by rw [h2]; have := hF.1; omega), hF, hdiv⟩
  obtain ⟨m, hm⟩ : ∃ m, min (Int.toNat (Int.tdiv ((x.length : Nat) : Int) 2)) x.length = m := ⟨_, rfl⟩
  refine AWP.fit (σ' := ⟨[(4, ⟨.optr jt, ⟨0, jt, .here⟩⟩), (7, ⟨.bool, true⟩), (8, ⟨.slice bs, x⟩), (9, ⟨bs, y⟩), (10, ⟨.optr jl, ⟨1, jl, .here⟩⟩), (11, ⟨.bool, true⟩)], [(0, some (.box jt t)), (1, some (.box jl (fill x m)))], 2⟩) ⟨⟨rfl, rfl, rfl, rfl, rfl, rfl, trivial⟩, ⟨rfl, boxEq (by rw [← hm]; rfl), trivial⟩, rfl, rfl⟩ ?_
  have hlen := hF.1
  have hcat := few_cat hF.2
  have hsm := few_small hF.2
  have hle : (fill x m).1.length ≤ 1100000 := by show (cat x).length ≤ 1100000; omega
  have hv := fill_valid hF m
  have hsy : (fill x m).2.1.toNat = (cat (x.take m)).length := Int.toNat_natCast _
  have htk : (fill x m).1.take (fill x m).2.1.toNat = cat (x.take m) := by
    rw [hsy]
    show (cat x).take _ = _
    have e : cat x = cat (x.take m) ++ cat (x.drop m) := by rw [← cat_append, List.take_append_drop]
    rw [e, List.take_left]
  (repeat (first | refine AWP.seq ?_ | refine AWP.skip ?_ | refine AWP.block ?_ | refine AWP.exit ?_)); refine AWP.region hX kW_ok rfl ?_ ?_
  · trivial
  refine AWP.cond rfl (fun hb => ?_) (fun hb => ?_)
  · exact absurd hb (by decide)
  (repeat (first | refine AWP.seq ?_ | refine AWP.skip ?_ | refine AWP.block ?_ | refine AWP.exit ?_)); refine AWP.region hX kW_ok rfl ?_ ?_
  · exact hle
  by_cases hk : 0 ≤ t.1
  rotate_left
  · have hcr := crash_bad (l := fill x m) (t := t) (by omega)
    refine AWP.fit (σ' := ⟨[(4, ⟨.optr jt, ⟨0, jt, .here⟩⟩), (7, ⟨.bool, true⟩), (13, ⟨i64, (1 : Int)⟩)], [(0, some (.box jt t))], 3⟩) ⟨⟨rfl, rfl, vI64 (congrArg (fun z => z.2.1) hcr), trivial⟩, ⟨rfl, trivial⟩, rfl, rfl⟩ ?_
    (repeat (first | refine AWP.seq ?_ | refine AWP.skip ?_ | refine AWP.block ?_ | refine AWP.exit ?_)); refine AWP.region hX kW_ok rfl ?_ ?_
    · trivial
    refine AWP.cond rfl (fun hb => ?_) (fun hb => ?_)
    · (repeat (first | refine AWP.seq ?_ | refine AWP.skip ?_ | refine AWP.block ?_ | refine AWP.exit ?_)); refine AWP.region hX kW_ok rfl ?_ ?_
      · repeat' (first | exact trivial | assumption | (refine ⟨?_, ?_⟩) | (intro _) | exact Nat.le_of_ble_eq_true rfl | exact Int.natCast_nonneg _)
      refine AWP.ret ⟨.inr rfl, done1 rfl trivial rfl rfl ?_⟩
      exact bif_true (decide_eq_true (by omega)) rfl
    · exact absurd hb (by decide)
  have hcr := crash_good hv hk
  obtain ⟨b1, b2⟩ := crB_length t hv
  have hcv := crB_valid t hv
  have hrc := records_good hcv
  have hrp := crash_repair (k := x.take m) t hv (fun y hy => hsm y (List.mem_of_mem_take hy)) htk
  obtain ⟨B, hB⟩ : ∃ B, crB (fill x m) t = B := ⟨_, rfl⟩
  obtain ⟨z, hz⟩ : ∃ z, (fill x m).2.1 = z := ⟨_, rfl⟩
  rw [hB, hz] at hcr hcv hrc hrp
  rw [hB] at b1
  have hcl : (fill x m).1.length = (cat x).length := rfl
  have hlr := recs_len B
  have hlb := recs_le B
  have hks := recs_small B
  obtain ⟨k, hk'⟩ : ∃ k, (recs B).1 = k := ⟨_, rfl⟩
  obtain ⟨n, hn⟩ : ∃ n, (recs B).2 = n := ⟨_, rfl⟩
  have hrc : recordsS (B, z, ()) = (k, (n : Int), 0, ()) := by rw [hrc, hk', hn]
  rw [hk'] at hrp hlr hks
  rw [hn] at hlr hlb
  have hws := whole_records hks (by omega)
  have hap := whole_append (x := y) hks (by omega)
  have hks2 := small_add hks (x := y) (by omega)
  refine AWP.fit (σ' := ⟨[(7, ⟨.bool, true⟩), (9, ⟨bs, y⟩), (12, ⟨.optr jl, ⟨2, jl, .here⟩⟩), (13, ⟨i64, (0 : Int)⟩)], [(2, some (.box jl (B, z, ())))], 3⟩) ⟨⟨rfl, rfl, rfl, vI64 (congrArg (fun z => z.2.1) hcr), trivial⟩, ⟨boxEq (congrArg (fun z => z.1) hcr), trivial⟩, rfl, rfl⟩ ?_
  (repeat (first | refine AWP.seq ?_ | refine AWP.skip ?_ | refine AWP.block ?_ | refine AWP.exit ?_)); refine AWP.region hX kW_ok rfl ?_ ?_
  · trivial
  refine AWP.cond rfl (fun hb => ?_) (fun hb => ?_)
  · exact absurd hb (by decide)
  (repeat (first | refine AWP.seq ?_ | refine AWP.skip ?_ | refine AWP.block ?_ | refine AWP.exit ?_)); refine AWP.region hX kW_ok rfl ?_ ?_
  · exact (by omega : B.length ≤ 1100000)
  refine AWP.fit (σ' := ⟨[(7, ⟨.bool, true⟩), (9, ⟨bs, y⟩), (12, ⟨.optr jl, ⟨2, jl, .here⟩⟩), (14, ⟨.slice bs, k⟩), (15, ⟨i64, (n : Int)⟩)], [(2, some (.box jl (B, z, ())))], 3⟩) ⟨⟨rfl, rfl, rfl, vSs (congrArg (fun z => z.1) hrc), vI64 (congrArg (fun z => z.2.1) hrc), trivial⟩, ⟨rfl, trivial⟩, rfl, rfl⟩ ?_
  (repeat (first | refine AWP.seq ?_ | refine AWP.skip ?_ | refine AWP.block ?_ | refine AWP.exit ?_)); refine AWP.region hX kW_ok rfl ?_ ?_
  · exact (by omega : B.length ≤ 1100000)
  refine AWP.fit (σ' := ⟨[(7, ⟨.bool, true⟩), (9, ⟨bs, y⟩), (14, ⟨.slice bs, k⟩), (15, ⟨i64, (n : Int)⟩), (17, ⟨.optr jl, ⟨3, jl, .here⟩⟩), (18, ⟨i64, (0 : Int)⟩)], [(3, some (.box jl (whole k)))], 4⟩) ⟨⟨rfl, rfl, rfl, rfl, rfl, vI64 (congrArg (fun z => z.2.1) hrp), trivial⟩, ⟨boxEq (congrArg (fun z => z.1) hrp), trivial⟩, rfl, rfl⟩ ?_
  have hw1 : (whole k).1.length ≤ 1100000 := by show (cat k).length ≤ 1100000; omega
  (repeat (first | refine AWP.seq ?_ | refine AWP.skip ?_ | refine AWP.block ?_ | refine AWP.exit ?_)); refine AWP.region hX kW_ok rfl ?_ ?_
  · exact hw1
  refine AWP.fit (σ' := ⟨[(7, ⟨.bool, true⟩), (9, ⟨bs, y⟩), (14, ⟨.slice bs, k⟩), (15, ⟨i64, (n : Int)⟩), (17, ⟨.optr jl, ⟨3, jl, .here⟩⟩), (18, ⟨i64, (0 : Int)⟩), (19, ⟨.slice bs, k⟩), (20, ⟨i64, (((cat k).length : Nat) : Int)⟩)], [(3, some (.box jl (whole k)))], 4⟩) ⟨⟨rfl, rfl, rfl, rfl, rfl, rfl, vSs (congrArg (fun z => z.1) hws), vI64 (congrArg (fun z => z.2.1) hws), trivial⟩, ⟨rfl, trivial⟩, rfl, rfl⟩ ?_
  (repeat (first | refine AWP.seq ?_ | refine AWP.skip ?_ | refine AWP.block ?_ | refine AWP.exit ?_)); refine AWP.region hX kW_ok rfl ?_ ?_
  · exact ⟨hw1, by show y.length ≤ 1100000; omega⟩
  obtain ⟨D, hD⟩ : ∃ D : Lg, (cat (k ++ [y]), (((cat k).length : Nat) : Int), ()) = D := ⟨_, rfl⟩
  have hD1 : D.1 = cat (k ++ [y]) := by rw [← hD]
  have hDl : D.1.length = n + 12 + y.length := by rw [hD1, cat_append, cat_one, List.length_append, rcd_length]; omega
  have hDv : validL D = true := by
    refine validL_iff.2 ⟨⟨?_, ?_⟩, ?_⟩
    · rw [← hD]; exact Int.natCast_nonneg _
    · rw [hDl, ← hD]
      show (((cat k).length : Nat) : Int) ≤ _
      omega
    · omega
  have hDr : recordsS D = (k ++ [y], ((D.1.length : Nat) : Int), 0, ()) := by rw [records_good hDv, hD1, recs_whole _ hks2]
  rw [hD] at hap
  refine AWP.fit (σ' := ⟨[(7, ⟨.bool, true⟩), (9, ⟨bs, y⟩), (14, ⟨.slice bs, k⟩), (15, ⟨i64, (n : Int)⟩), (17, ⟨.optr jl, ⟨3, jl, .here⟩⟩), (18, ⟨i64, (0 : Int)⟩), (19, ⟨.slice bs, k⟩), (20, ⟨i64, (((cat k).length : Nat) : Int)⟩), (22, ⟨.optr jl, ⟨4, jl, .here⟩⟩), (23, ⟨i64, (0 : Int)⟩)], [(3, some (.box jl (whole k))), (4, some (.box jl D))], 5⟩) ⟨⟨rfl, rfl, rfl, rfl, rfl, rfl, rfl, rfl, rfl, vI64 (congrArg (fun z => z.2.1) hap), trivial⟩, ⟨rfl, boxEq (congrArg (fun z => z.1) hap), trivial⟩, rfl, rfl⟩ ?_
  (repeat (first | refine AWP.seq ?_ | refine AWP.skip ?_ | refine AWP.block ?_ | refine AWP.exit ?_)); refine AWP.region hX kW_ok rfl ?_ ?_
  · exact (by omega : D.1.length ≤ 1100000)
  refine AWP.fit (σ' := ⟨[(7, ⟨.bool, true⟩), (9, ⟨bs, y⟩), (14, ⟨.slice bs, k⟩), (15, ⟨i64, (n : Int)⟩), (17, ⟨.optr jl, ⟨3, jl, .here⟩⟩), (18, ⟨i64, (0 : Int)⟩), (19, ⟨.slice bs, k⟩), (20, ⟨i64, (((cat k).length : Nat) : Int)⟩), (23, ⟨i64, (0 : Int)⟩), (24, ⟨.slice bs, k ++ [y]⟩)], [(3, some (.box jl (whole k)))], 5⟩) ⟨⟨rfl, rfl, rfl, rfl, rfl, rfl, rfl, rfl, rfl, vSs (congrArg (fun z => z.1) hDr), trivial⟩, ⟨rfl, trivial⟩, rfl, rfl⟩ ?_
  have hkl : k.length ≤ B.length := by rw [← hk']; exact recs_count B
  (repeat (first | refine AWP.seq ?_ | refine AWP.skip ?_ | refine AWP.block ?_ | refine AWP.exit ?_)); refine AWP.region hX kW_ok rfl ?_ ?_
  · show 0 + k.length ≤ 1000000000
    omega
  (repeat (first | refine AWP.seq ?_ | refine AWP.skip ?_ | refine AWP.block ?_ | refine AWP.exit ?_)); refine AWP.region hX kW_ok rfl ?_ ?_
  · show k.length + 1 ≤ 1000000000
    omega
  refine AWP.frz hX 27 ?_
  refine AWP.fit (σ' := ⟨[(7, ⟨.bool, true⟩), (14, ⟨.slice bs, k⟩), (15, ⟨i64, (n : Int)⟩), (17, ⟨.optr jl, ⟨3, jl, .here⟩⟩), (18, ⟨i64, (0 : Int)⟩), (19, ⟨.slice bs, k⟩), (20, ⟨i64, (((cat k).length : Nat) : Int)⟩), (23, ⟨i64, (0 : Int)⟩), (24, ⟨.slice bs, k ++ [y]⟩), (27, ⟨.slice bs, k ++ [y]⟩)], [(3, some (.box jl (whole k)))], 8⟩) ⟨⟨rfl, rfl, rfl, rfl, rfl, rfl, rfl, rfl, rfl, vSs rfl, trivial⟩, ⟨rfl, trivial⟩, rfl, rfl⟩ ?_
  (repeat (first | refine AWP.seq ?_ | refine AWP.skip ?_ | refine AWP.block ?_ | refine AWP.exit ?_)); refine AWP.region hX kW_ok rfl ?_ ?_
  · repeat' (first | exact trivial | assumption | (refine ⟨?_, ?_⟩) | (intro _) | exact Nat.le_of_ble_eq_true rfl | exact Int.natCast_nonneg _)
  refine AWP.ret ⟨.inr rfl, done1 rfl trivial rfl rfl ?_⟩
  have g1 : ((n : Int) == (((cat k).length : Nat) : Int)) = true := by rw [hlr]; exact beqI _
  have g2 : ((((cat k).length : Nat) : Int) == (((cat k).length : Nat) : Int)) = true := beqI _
  have g3 : ((((cat k).length : Nat) : Int) == (n : Int)) = true := by rw [hlr]; exact beqI _
  have g4 : sameL k k = true := decide_eq_true rfl
  have g5 : sameL (k ++ [y]) (k ++ [y]) = true := decide_eq_true rfl
  exact bif_true (bif_true (bif_true (bif_true (bif_true (bif_true (bif_true rfl rfl) g1) g2) g3) g4) g5) rfl
/-- what one step leaves: a sound log, all of it synced -/
theorem law8_ok : CtrOk Tryd.prog dG 10 (lawCtr [.slice bs, .slice jt]) := by
  refine ctr_of_awp (K := kW) kW_ok Tryd.func10 rfl rfl Tryd.call10 rfl (by decide) (by intro h; cases h) ?_
  rintro w0 X hX ⟨(l : List (List UInt8)), (ts : List Tr), _⟩ hp
  change AWP _ _ _ _ _ ⟨[(0, ⟨.slice bs, l⟩), (1, ⟨.slice jt, ts⟩)], [], 0⟩ _
  have hF := few_few l
  (repeat (first | refine AWP.seq ?_ | refine AWP.skip ?_ | refine AWP.block ?_ | refine AWP.exit ?_)); refine AWP.region hX kW_ok rfl ?_ ?_
  · trivial
  (repeat (first | refine AWP.seq ?_ | refine AWP.skip ?_ | refine AWP.block ?_ | refine AWP.exit ?_)); refine AWP.region hX kW_ok rfl ?_ ?_
  · trivial
  (repeat (first | refine AWP.seq ?_ | refine AWP.skip ?_ | refine AWP.block ?_ | refine AWP.exit ?_)); refine AWP.region hX kW_ok rfl ?_ ?_
  · trivial
  obtain ⟨x, hx⟩ : ∃ x, (l.take 8).map (List.take 60) = x := ⟨_, rfl⟩
  rw [hx] at hF
  refine AWP.fit (σ' := ⟨[(1, ⟨.slice jt, ts⟩), (5, ⟨.bool, true⟩), (6, ⟨.slice bs, x⟩)], [], 0⟩) ⟨⟨rfl, rfl, vSs hx, trivial⟩, trivial, rfl, rfl⟩ ?_
  have hlen := hF.1
  (repeat (first | refine AWP.seq ?_ | refine AWP.skip ?_ | refine AWP.block ?_ | refine AWP.exit ?_)); refine AWP.region hX kW_ok rfl ?_ ?_
  · trivial
  refine AWP.frz hX 8 ?_
  (repeat (first | refine AWP.seq ?_ | refine AWP.skip ?_ | refine AWP.label ?_ | refine AWP.exit ?_ | refine AWP.block ?_ | refine AWP.region hX kW_ok rfl trivial ?_ | refine AWP.region hX kW_ok rfl id ?_ | refine AWP.region hX kW_ok rfl ⟨id, id⟩ ?_))
  refine AWP.loop (ι := Nat × List (List UInt8)) (fun i => ⟨[(1, ⟨.slice jt, ts⟩), (5, ⟨.bool, true⟩), (6, ⟨.slice bs, x⟩), (7, ⟨.optr jl, ⟨1, jl, .here⟩⟩), (8, ⟨.slice bs, i.2⟩), (9, ⟨i64, (i.1 : Int)⟩)], [(1, some (.box jl (whole i.2)))], 2⟩) (fun i => i.1 ≤ x.length ∧ small i.2 ∧ (cat i.2).length ≤ 72 * i.1) (fun i => x.length - i.1) (0, []) ⟨Nat.zero_le _, fun _ h => (by cases h), Nat.le_refl _⟩ ⟨⟨rfl, rfl, rfl, rfl, rfl, rfl, trivial⟩, ⟨rfl, trivial⟩, rfl, rfl⟩ ?_
  rintro ⟨i, k⟩ ⟨hi, hks, hkl⟩
  simp only at hi hks hkl
  (repeat (first | refine AWP.seq ?_ | refine AWP.skip ?_ | refine AWP.block ?_ | refine AWP.exit ?_)); refine AWP.region hX kW_ok rfl ?_ ?_
  · trivial
  refine AWP.cond rfl (fun hb => ?_) (fun hb => ?_)
  rotate_left
  · (repeat (first | refine AWP.seq ?_ | refine AWP.skip ?_ | refine AWP.block ?_ | refine AWP.exit ?_)); refine AWP.region hX kW_ok rfl ?_ ?_
    · trivial
    exact AWP.ret ⟨.inr rfl, done1 rfl trivial rfl rfl rfl⟩
  have hb : decide ((i : Int) < (x.length : Nat)) = true := hb
  have hb := of_decide_eq_true hb
  have hlt : i < x.length := by omega
  obtain ⟨y, hy⟩ : ∃ y, x.getD (i : Int).toNat [] = y := ⟨_, rfl⟩
  have hyl : y.length ≤ 60 := by rw [← hy, Int.toNat_natCast, getD_of_lt hlt]; exact hF.2 _ (List.getElem_mem _)
  have hw1 : (whole k).1.length ≤ 1100000 := by show (cat k).length ≤ 1100000; omega
  have hap := whole_append (x := y) hks (by omega)
  have m0 : (0 : Int) ≤ (i : Int) := by omega
  have m1 : (i : Int) < ((x.length : Nat) : Int) := by omega
  have m2 : (x.getD (i : Int).toNat []).length ≤ 1100000 := by rw [hy]; omega
  (repeat (first | refine AWP.seq ?_ | refine AWP.skip ?_ | refine AWP.block ?_ | refine AWP.exit ?_)); refine AWP.drawN dM hX kW_ok 12 (by kernel_rfl) rfl rfl ?_ ?_ ?_
  · repeat' (first | exact trivial | assumption | exact m0 | exact m1 | exact hw1 | exact m2 | (refine ⟨?_, ?_⟩) | (intro _) | exact Nat.le_of_ble_eq_true rfl | exact Int.natCast_nonneg _)
  · trivial
  obtain ⟨D, hD⟩ : ∃ D : Lg, (cat (k ++ [y]), (((cat k).length : Nat) : Int), ()) = D := ⟨_, rfl⟩
  rw [hD] at hap
  have hD1 : D.1 = cat (k ++ [y]) := by rw [← hD]
  have hD2 : D.2.1 = (((cat k).length : Nat) : Int) := by rw [← hD]
  have hDl : D.1.length = (cat k).length + 12 + y.length := by rw [hD1, cat_append, cat_one, List.length_append, rcd_length]; omega
  have hks2 := small_add hks (x := y) (by omega)
  have hDv : validL D = true := validL_iff.2 ⟨⟨by omega, by omega⟩, by omega⟩
  have hDt : D.1.take D.2.1.toNat = cat k := by rw [hD1, hD2, Int.toNat_natCast, cat_append, List.take_left]
  have hap' : appendS (whole k) (x.getD (i : Int).toNat []) = (D, 0, ()) := by rw [hy]; exact hap
  refine AWP.fit (σ' := ⟨[(1, ⟨.slice jt, ts⟩), (5, ⟨.bool, true⟩), (6, ⟨.slice bs, x⟩), (7, ⟨.optr jl, ⟨1, jl, .here⟩⟩), (8, ⟨.slice bs, k⟩), (9, ⟨i64, (i : Int)⟩), (10, ⟨.optr jl, ⟨2, jl, .here⟩⟩), (11, ⟨i64, (0 : Int)⟩)], [(1, some (.box jl (whole k))), (2, some (.box jl D))], 3⟩) ⟨⟨rfl, rfl, rfl, rfl, rfl, rfl, rfl, vI64 (congrArg (fun z => z.2.1) hap'), trivial⟩, ⟨rfl, boxEq (congrArg (fun z => z.1) hap'), trivial⟩, rfl, rfl⟩ ?_
  (repeat (first | refine AWP.seq ?_ | refine AWP.skip ?_ | refine AWP.block ?_ | refine AWP.exit ?_)); refine AWP.region hX kW_ok rfl ?_ ?_
  · trivial
  refine AWP.cond rfl (fun hb => ?_) (fun hb => ?_)
  · exact absurd hb (by decide)
  (repeat (first | refine AWP.seq ?_ | refine AWP.skip ?_ | refine AWP.block ?_ | refine AWP.exit ?_)); refine AWP.region hX kW_ok rfl ?_ ?_
  · trivial
  obtain ⟨k2, hk2⟩ : ∃ k2, (if i < ts.length ∧ 0 ≤ (ts.getD i (zeroX jt)).1 then (recs (crB D (ts.getD i (zeroX jt)))).1 else k ++ [y]) = k2 := ⟨_, rfl⟩
  refine AWP.join (σ' := ⟨[(1, ⟨.slice jt, ts⟩), (5, ⟨.bool, true⟩), (6, ⟨.slice bs, x⟩), (7, ⟨.optr jl, ⟨1, jl, .here⟩⟩), (8, ⟨.slice bs, k⟩), (9, ⟨i64, (i : Int)⟩), (11, ⟨i64, (0 : Int)⟩)], [(1, some (.box jl (whole k2)))], 3⟩) ?_ ?_
  · have t0 : (0 : Int) ≤ (i : Int) := by omega
    have t1 : decide ((i : Int) < ((ts.length : Nat) : Int)) = true → (i : Int) < ((ts.length : Nat) : Int) := of_decide_eq_true
    (repeat (first | refine AWP.seq ?_ | refine AWP.skip ?_ | refine AWP.block ?_ | refine AWP.exit ?_)); refine AWP.region hX kW_ok rfl ?_ ?_
    · repeat' (first | exact trivial | assumption | exact t0 | (refine ⟨?_, ?_⟩) | (intro _) | exact Nat.le_of_ble_eq_true rfl | exact Int.natCast_nonneg _)
      show (i : Int) < ((ts.length : Nat) : Int)
      exact of_decide_eq_true (by assumption)
    refine AWP.cond rfl (fun hb => ?_) (fun hb => ?_)
    · have hb : (bif decide ((i : Int) < ((ts.length : Nat) : Int)) then decide ((ts.getD (i : Int).toNat (zeroX jt)).1 ≥ 0) else false) = true := hb
      rw [test2, Int.toNat_natCast] at hb
      obtain ⟨c1, c2⟩ := hb
      have hil : i < ts.length := by omega
      have c2 : 0 ≤ (ts.getD i (zeroX jt)).1 := c2
      have hcr := crash_good hDv c2
      obtain ⟨b1, b2⟩ := crB_length (ts.getD i (zeroX jt)) hDv
      have hrp := crash_repair (k := k) (ts.getD i (zeroX jt)) hDv hks hDt
      rw [if_pos ⟨hil, c2⟩] at hk2
      obtain ⟨B, hB⟩ : ∃ B, crB D (ts.getD i (zeroX jt)) = B := ⟨_, rfl⟩
      rw [hB] at hcr hrp b1 hk2
      rw [hk2] at hrp
      have n1 : D.1.length ≤ 1100000 := by omega
      have hcr' : crashS D (ts.getD (i : Int).toNat (zeroX jt)) = ((B, D.2.1, ()), 0, ()) := by rw [Int.toNat_natCast]; exact hcr
      (repeat (first | refine AWP.seq ?_ | refine AWP.skip ?_ | refine AWP.block ?_ | refine AWP.exit ?_)); refine AWP.orders (σ' := ⟨[(1, ⟨.slice jt, ts⟩), (5, ⟨.bool, true⟩), (6, ⟨.slice bs, x⟩), (7, ⟨.optr jl, ⟨1, jl, .here⟩⟩), (8, ⟨.slice bs, k⟩), (9, ⟨i64, (i : Int)⟩), (10, ⟨.optr jl, ⟨2, jl, .here⟩⟩), (11, ⟨i64, (0 : Int)⟩)], [(1, some (.box jl D)), (2, some (.box jl (B, D.2.1, ())))], 3⟩) dM hX kW_ok 11 rfl (by kernel_rfl) [[0, 1, 2, 3, 4, 5, 6, 7, 8, 9, 10], [0, 1, 2, 3, 4, 5, 6, 7, 9, 8, 10], [0, 1, 2, 3, 4, 5, 6, 8, 7, 9, 10], [0, 2, 1, 3, 4, 5, 6, 7, 8, 9, 10], [0, 2, 1, 3, 4, 5, 6, 7, 9, 8, 10], [0, 2, 1, 3, 4, 5, 6, 8, 7, 9, 10], [1, 0, 2, 3, 4, 5, 6, 7, 8, 9, 10], [1, 0, 2, 3, 4, 5, 6, 7, 9, 8, 10], [1, 0, 2, 3, 4, 5, 6, 8, 7, 9, 10], [1, 2, 0, 3, 4, 5, 6, 7, 8, 9, 10], [1, 2, 0, 3, 4, 5, 6, 7, 9, 8, 10], [1, 2, 0, 3, 4, 5, 6, 8, 7, 9, 10], [1, 2, 3, 0, 4, 5, 6, 7, 8, 9, 10], [1, 2, 3, 0, 4, 5, 6, 7, 9, 8, 10], [1, 2, 3, 0, 4, 5, 6, 8, 7, 9, 10], [1, 2, 3, 4, 0, 5, 6, 7, 8, 9, 10], [1, 2, 3, 4, 0, 5, 6, 7, 9, 8, 10], [1, 2, 3, 4, 0, 5, 6, 8, 7, 9, 10], [2, 0, 1, 3, 4, 5, 6, 7, 8, 9, 10], [2, 0, 1, 3, 4, 5, 6, 7, 9, 8, 10], [2, 0, 1, 3, 4, 5, 6, 8, 7, 9, 10], [2, 1, 0, 3, 4, 5, 6, 7, 8, 9, 10], [2, 1, 0, 3, 4, 5, 6, 7, 9, 8, 10], [2, 1, 0, 3, 4, 5, 6, 8, 7, 9, 10], [2, 1, 3, 0, 4, 5, 6, 7, 8, 9, 10], [2, 1, 3, 0, 4, 5, 6, 7, 9, 8, 10], [2, 1, 3, 0, 4, 5, 6, 8, 7, 9, 10], [2, 1, 3, 4, 0, 5, 6, 7, 8, 9, 10], [2, 1, 3, 4, 0, 5, 6, 7, 9, 8, 10], [2, 1, 3, 4, 0, 5, 6, 8, 7, 9, 10]] (by kernel_rfl) ?_ ?_
      · have cs : allP [(0 : Int) ≤ (i : Int), (i : Int) < ((ts.length : Nat) : Int), D.1.length ≤ 1100000] := ⟨t0, c1, n1⟩
        repeat' (first | exact AllL.nil | exact cs | refine AllL.cons (LinOk.mk rfl ?_ ⟨⟨rfl, rfl, rfl, rfl, rfl, rfl, rfl, vI64 (congrArg (fun z => z.2.1) hcr'), trivial⟩, ⟨rfl, boxEq (congrArg (fun z => z.1) hcr'), trivial⟩, rfl, rfl⟩) ?_)
      (repeat (first | refine AWP.seq ?_ | refine AWP.skip ?_ | refine AWP.block ?_ | refine AWP.exit ?_)); refine AWP.region hX kW_ok rfl ?_ ?_
      · trivial
      refine AWP.cond rfl (fun hb => ?_) (fun hb => ?_)
      · exact absurd hb (by decide)
      (repeat (first | refine AWP.seq ?_ | refine AWP.skip ?_ | refine AWP.block ?_ | refine AWP.exit ?_)); refine AWP.region hX kW_ok rfl ?_ ?_
      · exact (by omega : B.length ≤ 1100000)
      exact ⟨⟨rfl, rfl, rfl, rfl, rfl, rfl, vI64 (congrArg (fun z => z.2.1) hrp), trivial⟩, ⟨boxEq (congrArg (fun z => z.1) hrp), trivial⟩, rfl, rfl⟩
    · have hb : (bif decide ((i : Int) < ((ts.length : Nat) : Int)) then decide ((ts.getD (i : Int).toNat (zeroX jt)).1 ≥ 0) else false) = false := hb
      have hb : ¬ ((i : Int) < ((ts.length : Nat) : Int) ∧ (ts.getD i (zeroX jt)).1 ≥ 0) := fun h => by rw [← Bool.not_eq_true, test2, Int.toNat_natCast] at hb; exact hb h
      rw [if_neg (fun h => hb ⟨by omega, h.2⟩)] at hk2
      have hsy : syncS D = (whole k2, 0, ()) := by
        unfold syncS
        rw [if_pos hDv, hD1, ← hk2]
        rfl
      (repeat (first | refine AWP.seq ?_ | refine AWP.skip ?_ | refine AWP.block ?_ | refine AWP.exit ?_)); refine AWP.region hX kW_ok rfl ?_ ?_
      · exact (by omega : D.1.length ≤ 1100000)
      exact ⟨⟨rfl, rfl, rfl, rfl, rfl, rfl, vI64 (congrArg (fun z => z.2.1) hsy), trivial⟩, ⟨boxEq (congrArg (fun z => z.1) hsy), trivial⟩, rfl, rfl⟩
  have hk2p : k <+: k2 := by
    rw [← hk2]
    split
    · exact crash_keeps _ hDv hks hDt
    · exact List.prefix_append _ _
  have hk2s : small k2 := by
    rw [← hk2]
    split
    · exact recs_small _
    · exact hks2
  have hk2l : (cat k2).length ≤ D.1.length := by
    rw [← hk2]
    split
    · have h1 := recs_len (crB D (ts.getD i (zeroX jt)))
      have h2 := recs_le (crB D (ts.getD i (zeroX jt)))
      have h3 := (crB_length (ts.getD i (zeroX jt)) hDv).1
      omega
    · rw [← hD1]
      exact Nat.le_refl _
  have hws := whole_records hk2s (by omega)
  (repeat (first | refine AWP.seq ?_ | refine AWP.skip ?_ | refine AWP.block ?_ | refine AWP.exit ?_)); refine AWP.region hX kW_ok rfl ?_ ?_
  · show (cat k2).length ≤ 1100000
    omega
  refine AWP.fit (σ' := ⟨[(1, ⟨.slice jt, ts⟩), (5, ⟨.bool, true⟩), (6, ⟨.slice bs, x⟩), (7, ⟨.optr jl, ⟨1, jl, .here⟩⟩), (8, ⟨.slice bs, k⟩), (9, ⟨i64, (i : Int)⟩), (11, ⟨i64, (0 : Int)⟩), (12, ⟨.slice bs, k2⟩), (14, ⟨i64, (0 : Int)⟩)], [(1, some (.box jl (whole k2)))], 3⟩) ⟨⟨rfl, rfl, rfl, rfl, rfl, rfl, rfl, vSs (congrArg (fun z => z.1) hws), vI64 (congrArg (fun z => z.2.2.1) hws), trivial⟩, ⟨rfl, trivial⟩, rfl, rfl⟩ ?_
  (repeat (first | refine AWP.seq ?_ | refine AWP.skip ?_ | refine AWP.block ?_ | refine AWP.exit ?_)); refine AWP.region hX kW_ok rfl ?_ ?_
  · repeat' (first | exact trivial | assumption | (refine ⟨?_, ?_⟩) | (intro _) | exact Nat.le_of_ble_eq_true rfl | exact Int.natCast_nonneg _)
  refine AWP.cond rfl (fun hb => ?_) (fun hb => ?_)
  · exfalso
    have hb : (!decide (k <+: k2)) = true := hb
    rw [decide_eq_true hk2p] at hb
    cases hb
  (repeat (first | refine AWP.seq ?_ | refine AWP.skip ?_ | refine AWP.block ?_ | refine AWP.exit ?_)); refine AWP.region hX kW_ok rfl ?_ ?_
  · trivial
  (repeat (first | refine AWP.seq ?_ | refine AWP.skip ?_ | refine AWP.block ?_ | refine AWP.exit ?_)); refine AWP.region hX kW_ok rfl ?_ ?_
  · exact inR_succ (by omega)
  exact ⟨(i + 1, k2), ⟨by show i + 1 ≤ x.length; omega, hk2s, by show (cat k2).length ≤ 72 * (i + 1); omega⟩, by show x.length - (i + 1) < x.length - i; omega, ⟨rfl, rfl, rfl, rfl, rfl, vSucc _, trivial⟩, ⟨rfl, trivial⟩, rfl, rfl⟩
end Go.Proofs.YtggappighcdbmaaDoor
