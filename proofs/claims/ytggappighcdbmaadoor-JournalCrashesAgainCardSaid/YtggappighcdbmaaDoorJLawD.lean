/-
  The statements of chapter 23: JournalSequence.
-/
import Derived.Test.YtggappighcdbmaaDoorJLawC
import Derived.Test.YtggappighcdbmaaDoorJRefC
import Derived.Test.YtggappighcdbmaaDoorAbsMore
namespace Go.Proofs.YtggappighcdbmaaDoor
open Go Go.RowKit
set_option linter.unusedSimpArgs false
set_option linter.unusedVariables false
set_option maxRecDepth 100000
def kW : Kn := { dK with C := [(12, cSanity), (13, cFew), (14, cFilled), (19, cPrefix), (17, cSameL),
  (16, cRSum), (20, cAppendS 1100000), (22, cSync), (18, cCrash), (15, cRecords), (21, cRepair)] }
theorem kW_ok : KnOk Tryd.prog dG kW := dK_ok.with (.cons sanity_ok <| .cons few_ok <| .cons filled_ok <| .cons prefix_ok <| .cons rsame_ok <| .cons rsum_ok <| .cons append_ok <| .cons sync_ok <| .cons crash_ok <| .cons records_ok <| .cons repair_ok .nil)
theorem few_few (l : List (List UInt8)) : Few ((l.take 8).map (List.take 60)) := by
  refine ⟨by rw [List.length_map, List.length_take]; omega, fun x hx => ?_⟩
  obtain ⟨y, _, rfl⟩ := List.mem_map.1 hx
  exact List.length_take_le _ _
theorem vLen {n m : Nat} (h : n = m) : (⟨i64, ((n : Nat) : Int)⟩ : V) = ⟨i64, ((m : Nat) : Int)⟩ := by rw [h]
theorem vBool {x y : Bool} (h : x = y) : (⟨.bool, x⟩ : V) = ⟨.bool, y⟩ := by rw [h]
theorem beqI (x : Int) : (x == x) = true := by simp
theorem cat_split (x : List (List UInt8)) (k : Nat) (hk : k < x.length) : cat x = cat (x.take k) ++ (rcd x[k] ++ cat (x.drop (k + 1))) := by
  rw [← cat_one, ← cat_append, ← cat_append]
  congr 1
  rw [List.singleton_append, ← List.drop_eq_getElem_cons hk, List.take_append_drop]
theorem cat_take_succ (x : List (List UInt8)) (k : Nat) (hk : k < x.length) : (cat (x.take (k + 1))).length = (cat (x.take k)).length + 12 + x[k].length := by
  rw [List.take_succ_eq_append_getElem hk, cat_append, cat_one, List.length_append, rcd_length]
  omega
theorem cat_digest (x : List (List UInt8)) (k j : Nat) (hk : k < x.length) (hj : j < 8) : (cat x).getD ((cat (x.take k)).length + 4 + j) 0 = (sha x[k]).getD j 0 := by
  have h := congrArg (fun l => l[j]?) (rcd_check x[k] (cat (x.drop (k + 1))))
  simp only [List.getElem?_take, hj, if_true, List.getElem?_drop] at h
  rw [List.getD_eq_getElem?_getD, List.getD_eq_getElem?_getD, cat_split x k hk, List.getElem?_append_right (by omega), show (cat (x.take k)).length + 4 + j - (cat (x.take k)).length = 4 + j by omega, h]
theorem getD_of_lt {α : Type} {l : List α} {k : Nat} {d : α} (h : k < l.length) : l.getD k d = l[k] := by
  rw [List.getD_eq_getElem?_getD, List.getElem?_eq_getElem h]
  rfl
theorem law1_ok : CtrOk Tryd.prog dG 3 (lawCtr [.slice bs, u8]) := by
  refine ctr_of_awp (K := kW) kW_ok Tryd.func3 rfl rfl Tryd.call3 rfl (by decide) (by intro h; cases h) ?_
  rintro w0 X hX ⟨(l : List (List UInt8)), (s : UInt8), _⟩ hp
  change AWP _ _ _ _ _ ⟨[(0, ⟨.slice bs, l⟩), (1, ⟨u8, s⟩)], [], 0⟩ _
  have hF := few_few l
  (repeat (first | refine AWP.seq ?_ | refine AWP.skip ?_ | refine AWP.block ?_ | refine AWP.exit ?_)); refine AWP.region hX kW_ok rfl ?_ ?_
  · trivial
  (repeat (first | refine AWP.seq ?_ | refine AWP.skip ?_ | refine AWP.block ?_ | refine AWP.exit ?_)); refine AWP.region hX kW_ok rfl ?_ ?_
  · trivial
  (repeat (first | refine AWP.seq ?_ | refine AWP.skip ?_ | refine AWP.block ?_ | refine AWP.exit ?_)); refine AWP.region hX kW_ok rfl ?_ ?_
  · trivial
  obtain ⟨x, hx⟩ : ∃ x, (l.take 8).map (List.take 60) = x := ⟨_, rfl⟩
  rw [hx] at hF
  refine AWP.fit (σ' := ⟨[(1, ⟨u8, s⟩), (5, ⟨.bool, true⟩), (6, ⟨.slice bs, x⟩)], [], 0⟩) ⟨⟨rfl, rfl, vSs hx, trivial⟩, trivial, rfl, rfl⟩ ?_
  have hnn : 0 ≤ Int.tmod ((s.toNat : Nat) : Int) 9 := Int.tmod_nonneg _ (by omega)
  (repeat (first | refine AWP.seq ?_ | refine AWP.skip ?_ | refine AWP.block ?_ | refine AWP.exit ?_)); refine AWP.region hX kW_ok rfl ?_ ?_
  · exact ⟨by show (9 : Int) ≠ 0; omega, hF, hnn⟩
  obtain ⟨m, hm⟩ : ∃ m, min (Int.toNat (Int.tmod ((s.toNat : Nat) : Int) 9)) x.length = m := ⟨_, rfl⟩
  refine AWP.fit (σ' := ⟨[(5, ⟨.bool, true⟩), (6, ⟨.slice bs, x⟩), (7, ⟨.optr jl, ⟨0, jl, .here⟩⟩), (8, ⟨.bool, true⟩)], [(0, some (.box jl (fill x m)))], 1⟩) ⟨⟨rfl, rfl, rfl, rfl, trivial⟩, ⟨boxEq (by rw [← hm]; rfl), trivial⟩, rfl, rfl⟩ ?_
  have hlen := hF.1
  have hcat := few_cat hF.2
  have hle : (fill x m).1.length ≤ 1100000 := by show (cat x).length ≤ 1100000; omega
  have hrec := fill_records hF m
  (repeat (first | refine AWP.seq ?_ | refine AWP.skip ?_ | refine AWP.block ?_ | refine AWP.exit ?_)); refine AWP.region hX kW_ok rfl ?_ ?_
  · trivial
  refine AWP.cond rfl (fun hb => ?_) (fun hb => ?_)
  · exact absurd hb (by decide)
  (repeat (first | refine AWP.seq ?_ | refine AWP.skip ?_ | refine AWP.block ?_ | refine AWP.exit ?_)); refine AWP.region hX kW_ok rfl ?_ ?_
  · exact hle
  (repeat (first | refine AWP.seq ?_ | refine AWP.skip ?_ | refine AWP.block ?_ | refine AWP.exit ?_)); refine AWP.region hX kW_ok rfl ?_ ?_
  · trivial
  (repeat (first | refine AWP.seq ?_ | refine AWP.skip ?_ | refine AWP.label ?_ | refine AWP.exit ?_ | refine AWP.block ?_ | refine AWP.region hX kW_ok rfl trivial ?_ | refine AWP.region hX kW_ok rfl id ?_ | refine AWP.region hX kW_ok rfl ⟨id, id⟩ ?_))
  refine AWP.loop (ι := Nat) (fun k => ⟨[(5, ⟨.bool, true⟩), (6, ⟨.slice bs, x⟩), (7, ⟨.optr jl, ⟨0, jl, .here⟩⟩), (9, ⟨.slice bs, x⟩), (10, ⟨i64, (((cat x).length : Nat) : Int)⟩), (11, ⟨i64, (0 : Int)⟩), (12, ⟨i64, (((cat (x.take k)).length : Nat) : Int)⟩), (13, ⟨i64, (k : Int)⟩)], [(0, some (.box jl (fill x m)))], 1⟩) (fun k => k ≤ x.length) (fun k => x.length - k) 0 (by omega) ⟨⟨rfl, rfl, rfl, vSs (congrArg (fun z => z.1) hrec), vI64 (congrArg (fun z => z.2.1) hrec), vI64 (congrArg (fun z => z.2.2.1) hrec), rfl, rfl, trivial⟩, ⟨rfl, trivial⟩, rfl, rfl⟩ ?_
  intro k hk
  (repeat (first | refine AWP.seq ?_ | refine AWP.skip ?_ | refine AWP.block ?_ | refine AWP.exit ?_)); refine AWP.region hX kW_ok rfl ?_ ?_
  · trivial
  refine AWP.cond rfl (fun hb => ?_) (fun hb => ?_)
  · have hb : decide ((k : Int) < (x.length : Nat)) = true := hb
    have hb := of_decide_eq_true hb
    have hlt : k < x.length := by omega
    have hg : x.getD (k : Int).toNat [] = x[k] := by rw [Int.toNat_natCast]; exact getD_of_lt hlt
    have hxl := hF.2 x[k] (List.getElem_mem _)
    have hsz := cat_take_succ x k hlt
    have hle2 := cat_take_le x (k + 1)
    (repeat (first | refine AWP.seq ?_ | refine AWP.skip ?_ | refine AWP.block ?_ | refine AWP.exit ?_)); refine AWP.region hX kW_ok rfl ?_ ?_
    · exact ⟨by omega, by show (k : Int) < (x.length : Nat); omega, by show (x.getD (k : Int).toNat []).length ≤ 2000000; rw [hg]; omega⟩
    (repeat (first | refine AWP.seq ?_ | refine AWP.skip ?_ | refine AWP.block ?_ | refine AWP.exit ?_)); refine AWP.region hX kW_ok rfl ?_ ?_
    · exact inR_small (by omega) (by show (((cat (x.take k)).length : Nat) : Int) + 4 ≤ _; omega)
    (repeat (first | refine AWP.seq ?_ | refine AWP.skip ?_ | refine AWP.block ?_ | refine AWP.exit ?_)); refine AWP.region hX kW_ok rfl ?_ ?_
    · refine ⟨inR_small (by omega) (by show (((cat (x.take k)).length : Nat) : Int) + 12 ≤ _; omega), by omega, by show (k : Int) < (x.length : Nat); omega, ?_⟩
      show inR .i64 ((((cat (x.take k)).length : Nat) : Int) + 12 + (((x.getD (k : Int).toNat []).length : Nat) : Int))
      rw [hg]
      exact inR_small (by omega) (by omega)
    refine AWP.fit (σ' := ⟨[(5, ⟨.bool, true⟩), (6, ⟨.slice bs, x⟩), (7, ⟨.optr jl, ⟨0, jl, .here⟩⟩), (9, ⟨.slice bs, x⟩), (10, ⟨i64, (((cat x).length : Nat) : Int)⟩), (11, ⟨i64, (0 : Int)⟩), (12, ⟨i64, (((cat (x.take (k + 1))).length : Nat) : Int)⟩), (13, ⟨i64, (k : Int)⟩), (14, ⟨.optr dg, ⟨1, dg, .here⟩⟩), (15, ⟨i64, (((cat (x.take k)).length + 4 : Nat) : Int)⟩)], [(0, some (.box jl (fill x m))), (1, some (.box dg (sha x[k])))], 2⟩) ⟨⟨rfl, rfl, rfl, rfl, rfl, rfl, vI64 (by show (((cat (x.take k)).length : Nat) : Int) + 12 + (((x.getD (k : Int).toNat []).length : Nat) : Int) = _; rw [hg]; omega), rfl, rfl, vI64 (by show (((cat (x.take k)).length : Nat) : Int) + 4 = _; omega), trivial⟩, ⟨rfl, boxEq (by show sha (x.getD (k : Int).toNat []) = _; rw [hg]), trivial⟩, rfl, rfl⟩ ?_
    (repeat (first | refine AWP.seq ?_ | refine AWP.skip ?_ | refine AWP.block ?_ | refine AWP.exit ?_)); refine AWP.region hX kW_ok rfl ?_ ?_
    · trivial
    refine AWP.cond rfl (fun hb => ?_) (fun hb => ?_)
    · have hb : decide ((((cat (x.take (k + 1))).length : Nat) : Int) > ((cat x).length : Nat)) = true := hb
      have hb := of_decide_eq_true hb
      omega
    (repeat (first | refine AWP.seq ?_ | refine AWP.skip ?_ | refine AWP.label ?_ | refine AWP.exit ?_ | refine AWP.block ?_ | refine AWP.region hX kW_ok rfl trivial ?_ | refine AWP.region hX kW_ok rfl id ?_ | refine AWP.region hX kW_ok rfl ⟨id, id⟩ ?_))
    refine AWP.loop (ι := Nat) (fun j => ⟨[(5, ⟨.bool, true⟩), (6, ⟨.slice bs, x⟩), (7, ⟨.optr jl, ⟨0, jl, .here⟩⟩), (9, ⟨.slice bs, x⟩), (10, ⟨i64, (((cat x).length : Nat) : Int)⟩), (11, ⟨i64, (0 : Int)⟩), (12, ⟨i64, (((cat (x.take (k + 1))).length : Nat) : Int)⟩), (13, ⟨i64, (k : Int)⟩), (14, ⟨.optr dg, ⟨1, dg, .here⟩⟩), (15, ⟨i64, (((cat (x.take k)).length + 4 : Nat) : Int)⟩), (16, ⟨i64, (j : Int)⟩)], [(0, some (.box jl (fill x m))), (1, some (.box dg (sha x[k])))], 2⟩) (fun j => j ≤ 8) (fun j => 8 - j) 0 (by omega) ⟨⟨rfl, rfl, rfl, rfl, rfl, rfl, rfl, rfl, rfl, rfl, rfl, trivial⟩, ⟨rfl, rfl, trivial⟩, rfl, rfl⟩ ?_
    intro j hj
    (repeat (first | refine AWP.seq ?_ | refine AWP.skip ?_ | refine AWP.block ?_ | refine AWP.exit ?_)); refine AWP.region hX kW_ok rfl ?_ ?_
    · trivial
    refine AWP.cond rfl (fun hb => ?_) (fun hb => ?_)
    · have hb : decide ((j : Int) < 8) = true := hb
      have hb := of_decide_eq_true hb
      have hj8 : j < 8 := by omega
      have hdig := cat_digest x k j hlt hj8
      have n1 : inR .i64 ((((cat (x.take k)).length + 4 : Nat) : Int) + (j : Int)) := inR_small (by omega) (by omega)
      have n2 : (0 : Int) ≤ (((cat (x.take k)).length + 4 : Nat) : Int) + (j : Int) := by omega
      have n3 : (((cat (x.take k)).length + 4 : Nat) : Int) + (j : Int) < ((cat x).length : Nat) := by omega
      have n4 : (0 : Int) ≤ (j : Int) := by omega
      have n5 : (j : Int).toNat < 32 := by omega
      have n6 : (j : Int) < 32 := by omega
      (repeat (first | refine AWP.seq ?_ | refine AWP.skip ?_ | refine AWP.block ?_ | refine AWP.exit ?_)); refine AWP.draw dM hX kW_ok 11 (by kernel_rfl) rfl rfl ?_ ?_ ?_
      · repeat' (first | exact trivial | assumption | exact n1 | exact n2 | exact n3 | exact n4 | exact n5 | exact n6 | (refine ⟨?_, ?_⟩) | (intro _) | exact Nat.le_of_ble_eq_true rfl | exact Int.natCast_nonneg _)
      · trivial
      refine AWP.cond rfl (fun hb => ?_) (fun hb => ?_)
      · exfalso
        have hb : (((((cat x).getD ((((cat (x.take k)).length + 4 : Nat) : Int) + (j : Int)).toNat 0).toNat : Nat) : Int) != ((((sha x[k]).getD (j : Int).toNat 0).toNat : Nat) : Int)) = true := hb
        rw [show ((((cat (x.take k)).length + 4 : Nat) : Int) + (j : Int)).toNat = (cat (x.take k)).length + 4 + j by omega, hdig, Int.toNat_natCast, bne_self_eq_false] at hb
        cases hb
      (repeat (first | refine AWP.seq ?_ | refine AWP.skip ?_ | refine AWP.block ?_ | refine AWP.exit ?_)); refine AWP.region hX kW_ok rfl ?_ ?_
      · exact inR_succ (by omega)
      exact ⟨j + 1, by omega, by omega, ⟨rfl, rfl, rfl, rfl, rfl, rfl, rfl, rfl, rfl, rfl, vSucc _, trivial⟩, ⟨rfl, rfl, trivial⟩, rfl, rfl⟩
    · have hb : decide ((j : Int) < 8) = false := hb
      have hb := of_decide_eq_false hb
      (repeat (first | refine AWP.seq ?_ | refine AWP.skip ?_ | refine AWP.block ?_ | refine AWP.exit ?_)); refine AWP.region hX kW_ok rfl ?_ ?_
      · exact inR_succ (by omega)
      exact ⟨k + 1, by omega, by omega, ⟨rfl, rfl, rfl, rfl, rfl, rfl, rfl, vSucc _, trivial⟩, ⟨rfl, trivial⟩, rfl, rfl⟩
  · have hb : decide ((k : Int) < (x.length : Nat)) = false := hb
    have hb := of_decide_eq_false hb
    have : k = x.length := by omega
    subst this
    rw [List.take_length]
    (repeat (first | refine AWP.seq ?_ | refine AWP.skip ?_ | refine AWP.block ?_ | refine AWP.exit ?_)); refine AWP.region hX kW_ok rfl ?_ ?_
    · repeat' (first | exact trivial | assumption | (refine ⟨?_, ?_⟩) | (intro _) | exact Nat.le_of_ble_eq_true rfl | exact Int.natCast_nonneg _)
    refine AWP.ret ⟨.inr rfl, done1 rfl trivial rfl rfl ?_⟩
    exact bif_true (bif_true (bif_true (bif_true rfl (beqI _)) (beqI _)) (decide_eq_true rfl)) rfl
end Go.Proofs.YtggappighcdbmaaDoor
