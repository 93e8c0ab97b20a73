/-
  Package coarse, fifth part: Coarser.
-/
import Derived.Test.YtbbeldmcdjjnbaaGreatDoorCoF
import Derived.Test.YtbbeldmcdjjnbaaGreatDoorAbsVar
namespace Go.Proofs.YtbbeldmcdjjnbaaGreatDoor
open Go Go.RowKit
set_option linter.unusedSimpArgs false
set_option linter.unusedVariables false
set_option maxRecDepth 100000
theorem fnInt : FnTy Tryz.prog 84 := by
  refine ⟨fun w => by simp [go_sem], fun w => by simp [go_sem], fun w ev o ho => ?_⟩
  unfold execOp
  simp [ho, Instr.alloc, Tryz.zeroValue84, newVar, newRow, go_sem]
/-- how many cells of one grain are a cell of another -/
def ratioS (g to : Int) : Nat := ((sizeS to).tdiv (sizeS g)).toNat
def coarsS (v : List Int) (g to : Int) : List Int := (List.range (chN v (ratioS g to))).map fun k => orS ((chAt v (ratioS g to) k).map (bitsS to))
def coarserS (v : List Int) (g to : Int) (w : Sp) : List Int × Int :=
  if (cellsS g w).2 ≠ 0 then ([], (cellsS g w).2) else if possS v g (cellsS g w).1 = false ∨ to < 0 ∨ to > g then ([], 1) else if (cellsS to w).2 ≠ 0 then ([], (cellsS to w).2) else (coarsS v g to, 0)
theorem ratio_ok {g to : Int} (h1 : 1 ≤ to) (h2 : to ≤ g) (h3 : g ≤ 4) : (sizeS to).tdiv (sizeS g) = (ratioS g to : Int) ∧ 1 ≤ ratioS g to ∧ ratioS g to ≤ 1440 := by
  have hg : g = 1 ∨ g = 2 ∨ g = 3 ∨ g = 4 := by omega
  have ht : to = 1 ∨ to = 2 ∨ to = 3 ∨ to = 4 := by omega
  rcases hg with rfl | rfl | rfl | rfl <;> rcases ht with rfl | rfl | rfl | rfl <;> first | omega | decide
theorem poss_bytes {v : List Int} {g n : Int} (h : possS v g n = true) : bytesI v ∧ ((v.length : Nat) : Int) = n := by
  unfold possS at h
  rw [Bool.and_eq_true, Bool.not_eq_true', List.any_eq_false] at h
  refine ⟨fun x hx => ?_, by simpa using h.1⟩
  have h2 := h.2 x hx
  unfold offV mostS at h2
  simp only [Bool.or_eq_true, decide_eq_true_iff, not_or] at h2
  split at h2 <;> omega
def kG : Kn := { coK with H := [24], C := [(23, cCells), (25, cSize), (26, cPoss), (28, cChunk), (29, cJoinI)] }
theorem kG_ok : KnOk Tryz.prog pG kG := ⟨coT_ok, coU_ok, .cons cells_ok <| .cons size_ok <| .cons poss_ok <| .cons chunk_ok <| .cons joinI_ok .nil, fun _ _ _ _ => trivial, RsOk.nil⟩
def cCoarser : Ctr := { args := [ints, i64, i64, sp], pre := fun x => [x.1 ≠ []], res := .tup (.slice i64) (.tup i64 .unit), own := none, out := fun x => ((coarserS x.1 x.2.1 x.2.2.1 x.2.2.2.1).1, (coarserS x.1 x.2.1 x.2.2.1 x.2.2.2.1).2, ()) }
set_option maxHeartbeats 2000000 in
theorem coarser_ok : CtrOk Tryz.prog pG 10 cCoarser := by
  refine ctr_of_awpd (K := kG) kG_ok Tryz.func10 rfl rfl Tryz.call10 rfl (by decide) (by intro h; cases h) rfl ?_
  rintro w0 O hX ⟨(v : List Int), (g : Int), (to : Int), (w : Sp), _⟩ hp
  have hne : v ≠ [] := hp
  change AWPD _ _ _ _ _ _ ⟨[(0, ⟨ints, v⟩), (1, ⟨i64, g⟩), (2, ⟨i64, to⟩), (3, ⟨sp, w⟩)], [], 0⟩ _
  have hdone : ∀ r : List Int × Int, coarserS v g to w = r → (r.1, r.2, ()) = (cCoarser.out (v, g, to, w, ())) := fun r h => by rw [← h]; rfl
  refine AWPD.seq (AWPD.of hX fun W1 ds1 Bf1 hX1 => ?_)
  refine AWP.region hX1 kG_ok rfl trivial ?_
  refine AWPD.seq (AWPD.of hX fun W1 ds1 Bf1 hX1 => ?_)
  refine AWP.frzB hX1 6 ?_
  refine AWP.frzB hX1 7 ?_
  refine AWP.region hX1 kG_ok rfl trivial ?_
  refine AWPD.seq (AWPD.of hX fun W1 ds1 Bf1 hX1 => ?_)
  refine AWP.seq (AWP.region hX1 kG_ok rfl trivial ?_)
  refine AWP.cond rfl (fun hb => ?_) (fun hb => ?_)
  · have hb : ((cellsS g w).2 != 0) = true := hb
    have hb : (cellsS g w).2 ≠ 0 := by simpa using hb
    refine AWP.seq (AWP.region hX1 kG_ok rfl trivial ?_)
    exact AWP.ret ⟨.inr rfl, done2 (by decide) rfl rfl trivial (hdone ([], (cellsS g w).2) (if_pos hb))⟩
  have hb : ((cellsS g w).2 != 0) = false := hb
  have hce : (cellsS g w).2 = 0 := by simpa using hb
  obtain ⟨c1, c2, c3, c4, c5, c6, c7⟩ := cells_spec hce
  have n1 : ¬ (cellsS g w).2 ≠ 0 := by rw [hce]; decide
  refine AWP.skip ?_
  refine AWPD.seq (AWPD.of hX fun W1 ds1 Bf1 hX1 => ?_)
  refine AWP.seq (AWP.region hX1 kG_ok rfl ?_ ?_)
  · repeat' (first | exact trivial | assumption | (refine ⟨?_, ?_⟩) | (intro _))
  refine AWP.cond rfl (fun hb => ?_) (fun hb => ?_)
  · have hb : (bif (bif !possS v g (cellsS g w).1 then true else decide (to < 0)) then true else decide (to > g)) = true := hb
    rw [b_or, b_or, Bool.or_eq_true, Bool.or_eq_true, decide_eq_true_iff, decide_eq_true_iff, Bool.not_eq_true'] at hb
    refine AWP.seq (AWP.region hX1 kG_ok rfl trivial ?_)
    exact AWP.ret ⟨.inr rfl, done2 (by decide) rfl rfl trivial (hdone ([], 1) ((if_neg n1).trans (if_pos (by rcases hb with (h | h) | h <;> first | exact .inl h | exact .inr (.inl h) | exact .inr (.inr h)))))⟩
  have hb : (bif (bif !possS v g (cellsS g w).1 then true else decide (to < 0)) then true else decide (to > g)) = false := hb
  rw [b_or, b_or, Bool.or_eq_false_iff, Bool.or_eq_false_iff, decide_eq_false_iff_not, decide_eq_false_iff_not, Bool.not_eq_false'] at hb
  obtain ⟨⟨hps, ht0⟩, htg⟩ := hb
  have n2 : ¬ (possS v g (cellsS g w).1 = false ∨ to < 0 ∨ to > g) := by rintro (h | h | h) <;> first | omega | (rw [hps] at h; cases h)
  obtain ⟨hbv, hlv⟩ := poss_bytes hps
  refine AWP.skip ?_
  refine AWPD.seq (AWPD.of hX fun W1 ds1 Bf1 hX1 => ?_)
  refine AWP.seq (AWP.region hX1 kG_ok rfl trivial ?_)
  refine AWP.seq (AWP.region hX1 kG_ok rfl trivial ?_)
  refine AWP.cond rfl (fun hb => ?_) (fun hb => ?_)
  · have hb : ((cellsS to w).2 != 0) = true := hb
    have hb : (cellsS to w).2 ≠ 0 := by simpa using hb
    refine AWP.seq (AWP.region hX1 kG_ok rfl trivial ?_)
    exact AWP.ret ⟨.inr rfl, done2 (by decide) rfl rfl trivial (hdone ([], (cellsS to w).2) ((if_neg n1).trans ((if_neg n2).trans (if_pos hb))))⟩
  have hb : ((cellsS to w).2 != 0) = false := hb
  have hce2 : (cellsS to w).2 = 0 := by simpa using hb
  obtain ⟨d1, d2, _, _, d5, _, _⟩ := cells_spec hce2
  have n3 : ¬ (cellsS to w).2 ≠ 0 := by rw [hce2]; decide
  obtain ⟨hr1, hr2, hr3⟩ := ratio_ok d1 (by omega : to ≤ g) c2
  refine AWP.skip ?_
  refine AWPD.seq (AWPD.of hX fun W1 ds1 Bf1 hX1 => ?_)
  refine AWP.list ?_
  refine AL.take 1 hX1 kG_ok rfl trivial ?_
  refine AL.newF fnInt hX1 rfl rfl rfl rfl ?_
  refine AL.setF fnInt rfl rfl rfl rfl rfl rfl ?_
  refine AL.nil ?_
  refine AWPD.seq (AWPD.of hX fun W1 ds1 Bf1 hX1 => ?_)
  refine AWP.region hX1 kG_ok rfl trivial ?_
  have g0 : 0 ≤ g := by omega
  have g5 : g < 5 := by omega
  have t0 : 0 ≤ to := by omega
  have t5 : to < 5 := by omega
  have hz := sizeS_pos (g := g) (by omega) (by omega)
  have z0 : sizeS g ≠ 0 := by omega
  have q1 : 1 ≤ (sizeS to).tdiv (sizeS g) := by rw [hr1]; omega
  have q2 : inR .i64 ((sizeS to).tdiv (sizeS g)) := by rw [hr1]; exact inR_small (by omega) (by omega)
  refine AWPD.seq (AWPD.seq (AWPD.of hX fun W1 ds1 Bf1 hX1 => ?_))
  refine AWP.nilLeaf 3 0 3 i64 rfl rfl rfl ?_
  refine AWP.region hX1 kG_ok rfl ?_ ?_
  · exact ⟨t0, t5, g0, g5, z0, q2, q1⟩
  refine AWPD.rename [(2, 0), (3, 1), (4, 2)] 110 ?_
  obtain ⟨n, hn⟩ : ∃ n, ratioS g to = n := ⟨_, rfl⟩
  rw [hn] at hr1 hr2 hr3
  have hcap : (cChunk.out (v, (sizeS to).tdiv (sizeS g), ())) = ((v, (n : Int), ()) : capC.T) := by
    show (v, (sizeS to).tdiv (sizeS g), ()) = (v, (n : Int), ())
    rw [hr1]
  have hvl : v.length ≤ 1000000 := by omega
  let F : List (Nat × V) := [(12, ⟨.hptr, ((0 : Nat), (0 : Nat))⟩), (13, ⟨.hptr, ((1 : Nat), (0 : Nat))⟩), (54, ⟨.clo 48 capC, (v, (n : Int), ())⟩)]
  let outK (k : Nat) : List Int := (List.range k).map fun j => orS ((chAt v n j).map (bitsS to))
  let E (k : Nat) : Owns := [(0, some (.hbox [⟨.clo 27 cap1, (to, ())⟩])), (1, some (.hbox [⟨.obuf i64, (2 : Nat)⟩])), (2, some (.buf 3 i64 (outK k)))]
  refine AWPD.fit (σ2 := ⟨F, E 0, 3⟩) ⟨⟨rfl, rfl, V.congr hcap, trivial⟩, ⟨rfl, rfl, rfl, trivial⟩, rfl, rfl⟩ ?_
  refine AWPD.block ?_
  refine AWPD.range (cap := capC) (cx := (v, (n : Int), ())) hX rfl Tryz.call48 rfl rfl rfl rfl rfl (chN v n) (fun k => ⟨ints, chAt v n k⟩) (fun W us O' h => ch_seq v n hr2 hr3 hvl hne W us O' h)
    2 (fun i hi => ?_) F ⟨rfl, rfl, rfl, trivial⟩ rfl E 3 (by decide) ⟨⟨rfl, rfl, rfl, trivial⟩, ⟨rfl, rfl, rfl, trivial⟩, rfl, rfl⟩ (fun _ => Nat.zero_le _) ?_ ?_
  · have : i = 0 ∨ i = 1 := by omega
    rcases this with rfl | rfl
    · exact ⟨_, rfl, rfl⟩
    · exact ⟨_, rfl, rfl⟩
  · intro W O' Bf fix li hX1 j hj
    have hjl := (ch_iff (l := v) hr2 j).1 hj
    have hcb : ∀ y ∈ chAt v n j, 0 ≤ y ∧ y ≤ 255 := fun y hy => hbv y (List.mem_of_mem_drop (List.mem_of_mem_take hy))
    have hNl : chN v n ≤ 1000000 := by
      have h1 : (chN v n - 1) * n < v.length := (ch_iff hr2 _).1 (by omega)
      have h2 : chN v n - 1 ≤ (chN v n - 1) * n := Nat.le_mul_of_pos_right _ (by omega)
      omega
    have hol : (outK j).length + 1 ≤ 1000000000 := by
      show ((List.range j).map _).length + 1 ≤ _
      rw [List.length_map, List.length_range]
      omega
    refine AWP.block ?_
    refine AWP.ordersA dM 7 rfl (by kernel_rfl) ?_
    have hfin : outK j ++ [orS ((chAt v n j).map (bitsS to))] = outK (j + 1) := by
      show _ = (List.range (j + 1)).map _
      rw [List.range_succ, List.map_append]
      rfl
    repeat' (first
      | exact AllN.nil
      | refine AllN.cons ⟨_, rfl, ?_⟩ ?_
      | refine StepA.getF fnInt rfl rfl rfl rfl rfl rfl ?_
      | refine StepA.eval hX1 kG_ok rfl trivial ?_
      | refine StepA.eval hX1 kG_ok rfl hcb ?_
      | refine StepA.eval hX1 kG_ok rfl hol ?_
      | (refine OrdA.last ?_; exact ⟨rfl, trivial, ⟨rfl, rfl, bufEq hfin, trivial⟩, rfl, rfl⟩))
  · refine AWPD.seq (AWPD.of hX fun W1 ds1 Bf1 hX1 => ?_)
    refine AWP.frzL hX1 1 0 ?_
    refine AWP.region hX1 kG_ok rfl trivial ?_
    refine AWPD.of hX fun W1 ds1 Bf1 hX1 => ?_
    refine AWP.ret ⟨.inr rfl, done2 (by decide) rfl rfl trivial ?_⟩
    have e : coarserS v g to w = (outK (chN v n), 0) := (if_neg n1).trans ((if_neg n2).trans ((if_neg n3).trans (by rw [show coarsS v g to = outK (chN v n) from by unfold coarsS; rw [hn]])))
    exact hdone _ e
end Go.Proofs.YtbbeldmcdjjnbaaGreatDoor
