/-
  The reference of chapter 25: Made gives a slice that the caller may call its own.
-/
import Derived.Test.YthkhgpbjfcmopaaGreatDoorPLawB
import Derived.Test.YthkhgpbjfcmopaaGreatDoorAbsBox
namespace Go.Proofs.YthkhgpbjfcmopaaGreatDoor
open Go Go.RowKit
set_option linter.unusedSimpArgs false
set_option linter.unusedVariables false
set_option maxRecDepth 100000
def bMade : BCtr := { args := [.slice gr], pre := fun _ => [], te := 49, τ := gr, out := fun x => made x.1 }
theorem rmade_box : BCtrOk Tryz.prog pG 25 bMade := by
  refine bctr_of_awp (K := kPE) kPE_ok Tryz.func25 rfl rfl Tryz.call25 rfl (by decide) ?_
  rintro w0 X hX ⟨(l : List Gt), _⟩ hp
  change AWP _ _ _ _ _ ⟨[(0, ⟨.slice gr, l⟩)], [], 0⟩ _
  refine AWP.len 0 rfl fun hl => ?_
  unfold maxLen at hl
  (repeat (first | refine AWP.seq ?_ | refine AWP.skip ?_ | refine AWP.label ?_ | refine AWP.exit ?_ | refine AWP.block ?_ | refine AWP.region hX kPE_ok rfl trivial ?_ | refine AWP.region hX kPE_ok rfl id ?_ | refine AWP.region hX kPE_ok rfl ⟨id, id⟩ ?_))
  refine AWP.nilLeaf 1 0 49 gr rfl rfl rfl ?_
  refine AWP.loop (ι := Nat) (fun k => ⟨[(0, ⟨.slice gr, l⟩), (2, ⟨.hptr, (0, 0)⟩), (3, ⟨.hptr, (1, 0)⟩), (4, ⟨i64, (k : Int)⟩)], [(0, some (.hbox [⟨.lit, .slice none 0 0⟩])), (1, some (.hbox [⟨.obuf gr, (2 : Nat)⟩])), (2, some (.buf 49 gr ((l.take k).map mk1)))], 3⟩) (fun k => k ≤ 12 ∧ k ≤ l.length) (fun k => l.length - k) 0 ⟨by omega, by omega⟩ ⟨⟨rfl, rfl, rfl, rfl, trivial⟩, ⟨rfl, rfl, rfl, trivial⟩, rfl, rfl⟩ ?_
  rintro k ⟨hk, hk2⟩
  (repeat (first | refine AWP.seq ?_ | refine AWP.skip ?_ | refine AWP.block ?_ | refine AWP.exit ?_)); refine AWP.region hX kPE_ok rfl ?_ ?_
  · repeat' (first | exact trivial | assumption | (refine ⟨?_, ?_⟩) | (intro _) | exact Nat.le_of_ble_eq_true rfl | exact Int.natCast_nonneg _ | (simp_all [allP]; done))
  refine AWP.cond rfl (fun hb => ?_) (fun hb => ?_)
  · have hb : (bif decide ((k : Int) < (l.length : Nat)) then decide ((k : Int) < 12) else false) = true := hb
    simp at hb
    have hlt : k < l.length := hb.1
    have n3 : (3 : Int) ≤ 1000 := by omega
    have n4 : (4 : Int) ≤ 1000 := by omega
    have n5 : (5 : Int) ≤ 1000 := by omega
    have n6 : (6 : Int) ≤ 1000 := by omega
    have n7 : (101 : Int) ≤ 1000 := by omega
    have n0 : (0 : Int) ≤ (k : Int) := by omega
    have n1 : (k : Int) < (l.length : Nat) := by omega
    have e1 : ∀ x n : Int, 0 < n → 0 ≤ x % n ∧ x % n < n := fun x n h => ⟨Int.emod_nonneg _ (by omega), Int.emod_lt_of_pos _ h⟩
    have hg := e1 (gA (l.getD (k : Int).toNat zG)) 3 (by omega)
    have i1 : inR .i64 (gA (l.getD (k : Int).toNat zG) % 3 + 1) := inR_small (by omega) (by omega)
    (repeat (first | refine AWP.seq ?_ | refine AWP.skip ?_ | refine AWP.block ?_ | refine AWP.exit ?_)); refine AWP.region hX kPE_ok rfl ?_ ?_
    · exact ⟨n0, n1, by show (1 : Int) ≤ 3; omega, n3, i1⟩
    generalize hG : l.getD (k : Int).toNat zG = G at hg i1
    obtain ⟨(a : Int), (p : Int), (t : Int), (g : Int), (r : Int), _⟩ := G
    have zA : gA (l.getD (k : Int).toNat zG) = a := by rw [hG]; rfl
    have zP : gP (l.getD (k : Int).toNat zG) = p := by rw [hG]; rfl
    have zT : gT (l.getD (k : Int).toNat zG) = t := by rw [hG]; rfl
    have zGr : gG (l.getD (k : Int).toNat zG) = g := by rw [hG]; rfl
    have zR : gR (l.getD (k : Int).toNat zG) = r := by rw [hG]; rfl
    refine AWP.fit (σ' := sMade l k (a % 3 + 1) (-1) (-1) 0 0) ⟨⟨rfl, rfl, rfl, rfl, rfl, trivial⟩, ⟨rfl, rfl, rfl, boxGr (by show (gA (l.getD (k : Int).toNat zG) % 3 + 1, _, _, _, _, _) = _; rw [zA]; rfl), trivial⟩, rfl, rfl⟩ ?_
    refine AWP.join (σ' := sMade l k (a % 3 + 1) (if p % 3 = 0 then t % 4 else -1) (if p % 3 = 1 then t % 6 else -1) 0 0) ?_ ?_
    · unfold sMade
      (repeat (first | refine AWP.seq ?_ | refine AWP.skip ?_ | refine AWP.block ?_ | refine AWP.exit ?_)); refine AWP.region hX kPE_ok rfl ?_ ?_
      · exact ⟨n0, n1, by show (1 : Int) ≤ 3; omega, n3⟩
      (repeat (first | refine AWP.seq ?_ | refine AWP.skip ?_ | refine AWP.label ?_ | refine AWP.exit ?_ | refine AWP.block ?_ | refine AWP.region hX kPE_ok rfl trivial ?_ | refine AWP.region hX kPE_ok rfl id ?_ | refine AWP.region hX kPE_ok rfl ⟨id, id⟩ ?_))
      refine AWP.cond rfl (fun hb => ?_) (fun hb => ?_)
      · have hb : decide (gP (l.getD (k : Int).toNat zG) % 3 = 0) = true := hb
        rw [zP] at hb
        have hb := of_decide_eq_true hb
        (repeat (first | refine AWP.seq ?_ | refine AWP.skip ?_ | refine AWP.block ?_ | refine AWP.exit ?_)); refine AWP.region hX kPE_ok rfl ?_ ?_
        · exact ⟨n0, n1, by show (1 : Int) ≤ 4; omega, n4⟩
        refine ⟨⟨rfl, rfl, rfl, rfl, rfl, trivial⟩, ⟨rfl, rfl, rfl, boxGr ?_, trivial⟩, rfl, rfl⟩
        rw [if_pos hb, if_neg (by omega)]
        show (_, gT (l.getD (k : Int).toNat zG) % 4, _, _, _, _) = _
        rw [zT]
      · have h0 : decide (gP (l.getD (k : Int).toNat zG) % 3 = 0) = false := hb
        rw [zP] at h0
        have h0 := of_decide_eq_false h0
        (repeat (first | refine AWP.seq ?_ | refine AWP.skip ?_ | refine AWP.label ?_ | refine AWP.exit ?_ | refine AWP.block ?_ | refine AWP.region hX kPE_ok rfl trivial ?_ | refine AWP.region hX kPE_ok rfl id ?_ | refine AWP.region hX kPE_ok rfl ⟨id, id⟩ ?_))
        refine AWP.cond rfl (fun hb => ?_) (fun hb => ?_)
        · have hc : decide (gP (l.getD (k : Int).toNat zG) % 3 = 1) = true := hb
          rw [zP] at hc
          have hc := of_decide_eq_true hc
          (repeat (first | refine AWP.seq ?_ | refine AWP.skip ?_ | refine AWP.block ?_ | refine AWP.exit ?_)); refine AWP.region hX kPE_ok rfl ?_ ?_
          · exact ⟨n0, n1, by show (1 : Int) ≤ 6; omega, n6⟩
          refine ⟨⟨rfl, rfl, rfl, rfl, rfl, trivial⟩, ⟨rfl, rfl, rfl, boxGr ?_, trivial⟩, rfl, rfl⟩
          rw [if_neg h0, if_pos hc]
          show (_, _, gT (l.getD (k : Int).toNat zG) % 6, _, _, _) = _
          rw [zT]
        · have hc : decide (gP (l.getD (k : Int).toNat zG) % 3 = 1) = false := hb
          rw [zP] at hc
          have hc := of_decide_eq_false hc
          (repeat (first | refine AWP.seq ?_ | refine AWP.skip ?_ | refine AWP.label ?_ | refine AWP.exit ?_ | refine AWP.block ?_ | refine AWP.region hX kPE_ok rfl trivial ?_ | refine AWP.region hX kPE_ok rfl id ?_ | refine AWP.region hX kPE_ok rfl ⟨id, id⟩ ?_))
          refine ⟨⟨rfl, rfl, rfl, rfl, rfl, trivial⟩, ⟨rfl, rfl, rfl, boxGr ?_, trivial⟩, rfl, rfl⟩
          rw [if_neg h0, if_neg hc]
    generalize hP : (if p % 3 = 0 then t % 4 else -1) = P
    generalize hT : (if p % 3 = 1 then t % 6 else -1) = T
    refine AWP.join (σ' := sMade l k (a % 3 + 1) P T (if a % 3 = 0 then g % 5 else 0) 0) ?_ ?_
    · unfold sMade
      (repeat (first | refine AWP.seq ?_ | refine AWP.skip ?_ | refine AWP.label ?_ | refine AWP.exit ?_ | refine AWP.block ?_ | refine AWP.region hX kPE_ok rfl trivial ?_ | refine AWP.region hX kPE_ok rfl id ?_ | refine AWP.region hX kPE_ok rfl ⟨id, id⟩ ?_))
      refine AWP.cond rfl (fun hb => ?_) (fun hb => ?_)
      · have hb : decide (a % 3 + 1 = 1) = true := hb
        have hb := of_decide_eq_true hb
        (repeat (first | refine AWP.seq ?_ | refine AWP.skip ?_ | refine AWP.block ?_ | refine AWP.exit ?_)); refine AWP.region hX kPE_ok rfl ?_ ?_
        · exact ⟨n0, n1, by show (1 : Int) ≤ 5; omega, n5⟩
        refine ⟨⟨rfl, rfl, rfl, rfl, rfl, trivial⟩, ⟨rfl, rfl, rfl, boxGr ?_, trivial⟩, rfl, rfl⟩
        rw [if_pos (by omega)]
        show (_, _, _, gG (l.getD (k : Int).toNat zG) % 5, _, _) = _
        rw [zGr]
      · have hb : decide (a % 3 + 1 = 1) = false := hb
        have hb := of_decide_eq_false hb
        (repeat (first | refine AWP.seq ?_ | refine AWP.skip ?_ | refine AWP.label ?_ | refine AWP.exit ?_ | refine AWP.block ?_ | refine AWP.region hX kPE_ok rfl trivial ?_ | refine AWP.region hX kPE_ok rfl id ?_ | refine AWP.region hX kPE_ok rfl ⟨id, id⟩ ?_))
        refine ⟨⟨rfl, rfl, rfl, rfl, rfl, trivial⟩, ⟨rfl, rfl, rfl, boxGr ?_, trivial⟩, rfl, rfl⟩
        rw [if_neg (by omega)]
    generalize hGr : (if a % 3 = 0 then g % 5 else 0) = D
    refine AWP.join (σ' := sMade l k (a % 3 + 1) P T D (if a % 3 = 2 then r % 101 else 0)) ?_ ?_
    · unfold sMade
      (repeat (first | refine AWP.seq ?_ | refine AWP.skip ?_ | refine AWP.label ?_ | refine AWP.exit ?_ | refine AWP.block ?_ | refine AWP.region hX kPE_ok rfl trivial ?_ | refine AWP.region hX kPE_ok rfl id ?_ | refine AWP.region hX kPE_ok rfl ⟨id, id⟩ ?_))
      refine AWP.cond rfl (fun hb => ?_) (fun hb => ?_)
      · have hb : decide (a % 3 + 1 = 3) = true := hb
        have hb := of_decide_eq_true hb
        (repeat (first | refine AWP.seq ?_ | refine AWP.skip ?_ | refine AWP.block ?_ | refine AWP.exit ?_)); refine AWP.region hX kPE_ok rfl ?_ ?_
        · exact ⟨n0, n1, by show (1 : Int) ≤ 101; omega, n7⟩
        refine ⟨⟨rfl, rfl, rfl, rfl, rfl, trivial⟩, ⟨rfl, rfl, rfl, boxGr ?_, trivial⟩, rfl, rfl⟩
        rw [if_pos (by omega)]
        show (_, _, _, _, gR (l.getD (k : Int).toNat zG) % 101, _) = _
        rw [zR]
      · have hb : decide (a % 3 + 1 = 3) = false := hb
        have hb := of_decide_eq_false hb
        (repeat (first | refine AWP.seq ?_ | refine AWP.skip ?_ | refine AWP.label ?_ | refine AWP.exit ?_ | refine AWP.block ?_ | refine AWP.region hX kPE_ok rfl trivial ?_ | refine AWP.region hX kPE_ok rfl id ?_ | refine AWP.region hX kPE_ok rfl ⟨id, id⟩ ?_))
        refine ⟨⟨rfl, rfl, rfl, rfl, rfl, trivial⟩, ⟨rfl, rfl, rfl, boxGr ?_, trivial⟩, rfl, rfl⟩
        rw [if_neg (by omega)]
    generalize hR : (if a % 3 = 2 then r % 101 else 0) = R
    unfold sMade
    have hm : ((l.take k).map mk1).length = k := by rw [List.length_map, List.length_take]; omega
    (repeat (first | refine AWP.seq ?_ | refine AWP.skip ?_ | refine AWP.block ?_ | refine AWP.exit ?_)); refine AWP.region hX kPE_ok rfl ?_ ?_
    · show ((l.take k).map mk1).length + 1 ≤ 1000000000
      omega
    (repeat (first | refine AWP.seq ?_ | refine AWP.skip ?_ | refine AWP.block ?_ | refine AWP.exit ?_)); refine AWP.region hX kPE_ok rfl ?_ ?_
    · exact inR_succ (by omega)
    refine ⟨k + 1, ⟨by omega, by omega⟩, by omega, ⟨rfl, rfl, rfl, vSucc _, trivial⟩, ⟨rfl, rfl, bufGr ?_, trivial⟩, rfl, rfl⟩
    rw [List.take_succ_eq_append_getElem hlt, List.map_append]
    show _ ++ [_] = _ ++ [mk1 l[k]]
    rw [← getD_at (z := zG) hlt, hG, ← hP, ← hT, ← hGr, ← hR]
    rfl
  · have hb : (bif decide ((k : Int) < (l.length : Nat)) then decide ((k : Int) < 12) else false) = false := hb
    have hk12 : l.take k = l.take 12 := by
      by_cases hkl : k = l.length
      · rw [hkl, List.take_length, List.take_of_length_le (by omega)]
      · have : k = 12 := by
          rw [decide_eq_true (show (k : Int) < (l.length : Nat) by omega)] at hb
          have := of_decide_eq_false hb
          omega
        rw [this]
    have hm : (l.take k).map mk1 = made l := by unfold made; rw [hk12]
    (repeat (first | refine AWP.seq ?_ | refine AWP.skip ?_ | refine AWP.block ?_ | refine AWP.exit ?_)); refine AWP.mid hX kPE_ok [] _ _ rfl rfl rfl trivial ?_
    intro β a w hs
    refine load_box (T := pT) (L := pQ) pT_ok rfl rfl rfl rfl rfl rfl rfl hs fun a' w' hs' => ?_
    refine ⟨_, _, _, hs', rfl, trivial, ?_⟩
    refine AWP.ret ?_
    exact ⟨.inr rfl, _, _, _, _, _, rfl, rfl, rfl, rfl, Eq.trans (b := some (.buf 49 gr ((l.take k).map mk1))) rfl (bufGr hm)⟩
end Go.Proofs.YthkhgpbjfcmopaaGreatDoor
