/-
  The reference of chapter 25: the Reader's method grant.
-/
import Derived.Test.YthkhgpbjfcmopaaGreatDoorPRefD
namespace Go.Proofs.YthkhgpbjfcmopaaGreatDoor
open Go Go.RowKit
set_option linter.unusedSimpArgs false
set_option linter.unusedVariables false
set_option maxRecDepth 100000
/-- the last word of a line is empty -/
def LW (l : List Wd) : Prop := 0 < l.length ∧ wT (l.getD (l.length - 1) zW) = []
theorem failS_L (r : Rd) (e : Int) : rL (failS r e) = rL r := by unfold failS; split <;> rfl
theorem failS_in {r : Rd} {e : Int} (h : InR r) (he : e ≠ 0) : InR (failS r e) := by
  unfold failS
  split
  · exact .inl he
  · exact h
theorem nextS_in {r : Rd} (h : InR r) (h0 : rE r = 0) (hl : LW (rL r)) (hc : cur r ≠ []) : InR (nextS r) := by
  have hI := h.resolve_left fun h => h h0
  refine .inr ⟨by show 0 ≤ rI r + 1; omega, ?_⟩
  show rI r + 1 < (rL r).length
  refine Classical.byContradiction fun hn => hc ?_
  have : (rI r).toNat = (rL r).length - 1 := by omega
  unfold cur
  rw [this]
  exact hl.2
theorem choS_L (r : Rd) (ws : List (List UInt8)) : rL (choS r ws).2 = rL r := by
  unfold choS
  split
  · rfl
  · split
    · rfl
    · exact failS_L _ _
theorem choS_in {r : Rd} {ws : List (List UInt8)} (h : InR r) (hl : LW (rL r)) (hw : ∀ w ∈ ws, w ≠ []) : InR (choS r ws).2 := by
  unfold choS
  split
  · exact h
  · rename_i h0
    have h0 : rE r = 0 := Classical.byContradiction h0
    split
    · rename_i hi
      refine nextS_in h h0 hl ?_
      have h1 : decide (cur r = ws[chI ws (cur r)]) = true := List.findIdx_getElem (w := hi)
      rw [of_decide_eq_true h1]
      exact hw _ (List.getElem_mem hi)
    · exact failS_in h (by decide)
theorem numS_L (r : Rd) (m : Int) : rL (numS r m).2 = rL r := by
  unfold numS
  split
  · rfl
  · split
    · exact failS_L _ _
    · split
      · exact failS_L _ _
      · rfl
theorem numS_in {r : Rd} {m : Int} (h : InR r) (hl : LW (rL r)) : InR (numS r m).2 := by
  unfold numS
  split
  · exact h
  · rename_i h0
    have h0 : rE r = 0 := Classical.byContradiction h0
    split
    · exact failS_in h (by decide)
    · rename_i h1
      split
      · exact failS_in h (by decide)
      · refine nextS_in h h0 hl fun e => h1 ?_
        rw [e]
        rfl
def wsA : List (List UInt8) := [[97, 115, 107], [98, 111, 111, 107], [109, 111, 118, 101]]
def wsW : List (List UInt8) := [[97, 108, 108], [112, 101, 114, 115, 111, 110], [116, 101, 97, 109]]
def wsG : List (List UInt8) := [[103, 114, 97, 105, 110]]
def wsR : List (List UInt8) := [[114, 97, 110, 107]]
def wsE : List (List UInt8) := [[]]
/-- for whom: person, team, and the reader behind -/
def whoS (k : Int) (r : Rd) : Int × Int × Rd := if k = 1 then ((numS r 511).1, -1, (numS r 511).2) else if k = 2 then (-1, (numS r 63).1, (numS r 63).2) else (-1, -1, r)
/-- what it gives: grain, rank, and the reader behind -/
def whatS (a : Int) (r : Rd) : Int × Int × Rd := if a = 1 then ((numS (choS r wsG).2 4).1, 0, (numS (choS r wsG).2 4).2) else if a = 3 then (0, (numS (choS r wsR).2 100).1, (numS (choS r wsR).2 100).2) else (0, 0, r)
def grantS (r : Rd) : Gt × Rd :=
  let a := choS r wsA
  let k := choS a.2 wsW
  let w := whoS k.1 k.2
  let g := whatS (a.1 + 1) w.2.2
  ((a.1 + 1, w.1, w.2.1, g.1, g.2.1, ()), (choS g.2.2 wsE).2)
def cGrant : RCtr := { self := rr, args := [], inv := fun _ _ => True, pre := fun r _ => [InR r, LW (rL r), List.length (rL r) ≤ 10000], res := gr, out := fun r _ => (grantS r).1, post := fun r _ => (grantS r).2 }
def kPM : Kn := { pK with R := [(97, cCho), (98, cNumS)] }
theorem kPM_ok : KnOk Tryz.prog pG kPM := pK_ok.withR (.cons rchoice_ok (fun _ _ => trivial) (.cons rnumeral_ok (fun _ _ => trivial) .nil))
theorem chI_le (ws : List (List UInt8)) (t : List UInt8) : chI ws t ≤ ws.length := List.findIdx_le_length
theorem choS_1 (r : Rd) (ws : List (List UInt8)) : 0 ≤ (choS r ws).1 ∧ (choS r ws).1 ≤ ws.length := by
  unfold choS
  split
  · exact ⟨Int.le_refl _, Int.natCast_nonneg _⟩
  · split
    · rename_i h
      exact ⟨Int.natCast_nonneg _, by show ((chI ws (cur r) : Nat) : Int) ≤ _; omega⟩
    · exact ⟨Int.le_refl _, Int.natCast_nonneg _⟩
def sGr (r : Rd) (a p t g k : Int) : AS := ⟨[(0, ⟨.optr rr, ⟨0, rr, .here⟩⟩), (2, ⟨.optr gr, ⟨1, gr, .here⟩⟩), (3, ⟨.optr gr, ⟨3, gr, .here⟩⟩)], [(0, some (.box rr r)), (1, some (.box gr zG)), (3, some (.box gr (a, p, t, g, k, ())))], 4⟩
theorem boxRd {x y : Rd} (h : x = y) : some (OObj.box rr x) = some (OObj.box rr y) := by rw [h]
theorem AWP.via {P : Program} {w0 : World} {X : Ownr} {n : Nat} {σ : AS} {Q : Exit → AS → Prop} {c d : Code} {σ' : AS} (h1 : AWP P w0 X n c σ (thenQ (fun s => Fit s σ') Q)) (h2 : AWP P w0 X n d σ' Q) (hk : X.K ≤ σ'.nx := by exact Nat.le_of_ble_eq_true rfl) : AWP P w0 X n c σ (thenQ (fun s => AWP P w0 X n d s Q) Q) :=
  AWP.mono h1 fun e s h => by
    cases e with
    | normal => exact AWP.fit h h2 hk
    | _ => exact h
theorem rgrant_ok : RCtrOk Tryz.prog pG 67 cGrant := by
  refine rctr_of_awp (K := kPM) kPM_ok Tryz.func67 rfl rfl Tryz.call67 rfl (by decide) (fun w w' g hg h hk => trivial) ?_
  rintro w0 O g hX hinv (r : Rd) _ hp
  obtain ⟨h0, hlw, hl⟩ : InR r ∧ LW (rL r) ∧ (rL r).length ≤ 10000 := hp
  change AWP _ _ _ _ _ ⟨[(0, ⟨.optr rr, ⟨0, rr, .here⟩⟩)], [(0, some (.box rr r))], 1⟩ _
  (repeat (first | refine AWP.seq ?_ | refine AWP.skip ?_ | refine AWP.label ?_ | refine AWP.exit ?_ | refine AWP.block ?_ | refine AWP.region hX kPM_ok rfl trivial ?_ | refine AWP.region hX kPM_ok rfl id ?_ | refine AWP.region hX kPM_ok rfl ⟨id, id⟩ ?_))
  have c1 := choS_1 r wsA
  have c1 : 0 ≤ (choS r wsA).1 ∧ (choS r wsA).1 ≤ 3 := c1
  have c100 : (3 : Nat) ≤ 100 := by omega
  have c101 : (1 : Nat) ≤ 100 := by omega
  (repeat (first | refine AWP.seq ?_ | refine AWP.skip ?_ | refine AWP.block ?_ | refine AWP.exit ?_)); refine AWP.region hX kPM_ok rfl ?_ ?_
  · exact ⟨h0, hl, c100, inR_small (by show _ ≤ (choS r wsA).1 + 1; omega) (by show (choS r wsA).1 + 1 ≤ _; omega)⟩
  have in1 := choS_in (ws := wsA) h0 hlw (by decide)
  have l1 := choS_L r wsA
  have eS : grantS r = (((choS r wsA).1 + 1, (whoS (choS (choS r wsA).2 wsW).1 (choS (choS r wsA).2 wsW).2).1, (whoS (choS (choS r wsA).2 wsW).1 (choS (choS r wsA).2 wsW).2).2.1, (whatS ((choS r wsA).1 + 1) (whoS (choS (choS r wsA).2 wsW).1 (choS (choS r wsA).2 wsW).2).2.2).1, (whatS ((choS r wsA).1 + 1) (whoS (choS (choS r wsA).2 wsW).1 (choS (choS r wsA).2 wsW).2).2.2).2.1, ()), (choS (whatS ((choS r wsA).1 + 1) (whoS (choS (choS r wsA).2 wsW).1 (choS (choS r wsA).2 wsW).2).2.2).2.2 wsE).2) := rfl
  obtain ⟨A, hA1⟩ : ∃ A, choS r wsA = A := ⟨_, rfl⟩
  rw [hA1] at c1 in1 l1 eS
  obtain ⟨(a : Int), (r1 : Rd)⟩ := A
  have in1 : InR r1 := in1
  have l1 : rL r1 = rL r := l1
  have w1 : LW (rL r1) := by rw [l1]; exact hlw
  have n1 : (rL r1).length ≤ 10000 := by rw [l1]; exact hl
  have hA1 : choS r wsA = (a, r1) := hA1
  refine AWP.fit (σ' := sGr r1 (a + 1) (-1) (-1) 0 0) ⟨⟨rfl, rfl, rfl, trivial⟩, ⟨boxRd (congrArg (fun z => z.2) hA1), rfl, boxGr (congrArg (fun z => (z.1 + 1, -1, -1, 0, 0, ())) hA1), trivial⟩, rfl, rfl⟩ ?_
  unfold sGr
  (repeat (first | refine AWP.seq ?_ | refine AWP.skip ?_ | refine AWP.block ?_ | refine AWP.exit ?_)); refine AWP.region hX kPM_ok rfl ?_ ?_
  · exact ⟨in1, n1, c100⟩
  have in2 := choS_in (ws := wsW) in1 w1 (by decide)
  have l2 := choS_L r1 wsW
  have eS : grantS r = ((a + 1, (whoS (choS r1 wsW).1 (choS r1 wsW).2).1, (whoS (choS r1 wsW).1 (choS r1 wsW).2).2.1, (whatS (a + 1) (whoS (choS r1 wsW).1 (choS r1 wsW).2).2.2).1, (whatS (a + 1) (whoS (choS r1 wsW).1 (choS r1 wsW).2).2.2).2.1, ()), (choS (whatS (a + 1) (whoS (choS r1 wsW).1 (choS r1 wsW).2).2.2).2.2 wsE).2) := eS
  obtain ⟨B, hK1⟩ : ∃ B, choS r1 wsW = B := ⟨_, rfl⟩
  rw [hK1] at in2 l2 eS
  obtain ⟨(k : Int), (r2 : Rd)⟩ := B
  have in2 : InR r2 := in2
  have l2 : rL r2 = rL r := (show rL r2 = rL r1 from l2).trans l1
  have w2 : LW (rL r2) := by rw [l2]; exact hlw
  have n2 : (rL r2).length ≤ 10000 := by rw [l2]; exact hl
  have hK1 : choS r1 wsW = (k, r2) := hK1
  have eS : grantS r = ((a + 1, (whoS k r2).1, (whoS k r2).2.1, (whatS (a + 1) (whoS k r2).2.2).1, (whatS (a + 1) (whoS k r2).2.2).2.1, ()), (choS (whatS (a + 1) (whoS k r2).2.2).2.2 wsE).2) := eS
  refine AWP.fit (σ' := ⟨[(0, ⟨.optr rr, ⟨0, rr, .here⟩⟩), (2, ⟨.optr gr, ⟨1, gr, .here⟩⟩), (3, ⟨.optr gr, ⟨3, gr, .here⟩⟩), (11, ⟨i64, k⟩)], [(0, some (.box rr r2)), (1, some (.box gr zG)), (3, some (.box gr (a + 1, -1, -1, 0, 0, ())))], 4⟩) ⟨⟨rfl, rfl, rfl, vI64 (congrArg (fun z => z.1) hK1), trivial⟩, ⟨boxRd (congrArg (fun z => z.2) hK1), rfl, rfl, trivial⟩, rfl, rfl⟩ ?_
  obtain ⟨Wp, Wt, r3, hW⟩ : ∃ p t r3, whoS k r2 = (p, t, r3) := ⟨_, _, _, rfl⟩
  rw [hW] at eS
  have in3 : InR r3 ∧ rL r3 = rL r := by
    have h1 : InR (whoS k r2).2.2 ∧ rL (whoS k r2).2.2 = rL r := by
      unfold whoS
      split
      · exact ⟨numS_in in2 w2, (numS_L _ _).trans l2⟩
      · split
        · exact ⟨numS_in in2 w2, (numS_L _ _).trans l2⟩
        · exact ⟨in2, l2⟩
    rw [hW] at h1
    exact h1
  refine AWP.via (σ' := sGr r3 (a + 1) Wp Wt 0 0) ?_ ?_
  · (repeat (first | refine AWP.seq ?_ | refine AWP.skip ?_ | refine AWP.label ?_ | refine AWP.exit ?_ | refine AWP.block ?_ | refine AWP.region hX kPM_ok rfl trivial ?_ | refine AWP.region hX kPM_ok rfl id ?_ | refine AWP.region hX kPM_ok rfl ⟨id, id⟩ ?_))
    refine AWP.cond rfl (fun hb => ?_) (fun hb => ?_)
    · have hb : decide (k = 1) = true := hb
      have hb := of_decide_eq_true hb
      unfold whoS at hW
      rw [if_pos hb] at hW
      (repeat (first | refine AWP.seq ?_ | refine AWP.skip ?_ | refine AWP.block ?_ | refine AWP.exit ?_)); refine AWP.region hX kPM_ok rfl ?_ ?_
      · exact ⟨in2, n2⟩
      exact ⟨⟨rfl, rfl, rfl, trivial⟩, ⟨boxRd (congrArg (fun z => z.2.2) hW), rfl, boxGr (congrArg (fun z : Int × Int × Rd => ((a + 1, z.1, z.2.1, 0, 0, ()) : Gt)) hW), trivial⟩, rfl, rfl⟩
    · have hb1 : decide (k = 1) = false := hb
      have hb1 := of_decide_eq_false hb1
      unfold whoS at hW
      rw [if_neg hb1] at hW
      (repeat (first | refine AWP.seq ?_ | refine AWP.skip ?_ | refine AWP.label ?_ | refine AWP.exit ?_ | refine AWP.block ?_ | refine AWP.region hX kPM_ok rfl trivial ?_ | refine AWP.region hX kPM_ok rfl id ?_ | refine AWP.region hX kPM_ok rfl ⟨id, id⟩ ?_))
      refine AWP.cond rfl (fun hb => ?_) (fun hb => ?_)
      · have hb : decide (k = 2) = true := hb
        have hb := of_decide_eq_true hb
        rw [if_pos hb] at hW
        (repeat (first | refine AWP.seq ?_ | refine AWP.skip ?_ | refine AWP.block ?_ | refine AWP.exit ?_)); refine AWP.region hX kPM_ok rfl ?_ ?_
        · exact ⟨in2, n2⟩
        exact ⟨⟨rfl, rfl, rfl, trivial⟩, ⟨boxRd (congrArg (fun z => z.2.2) hW), rfl, boxGr (congrArg (fun z : Int × Int × Rd => ((a + 1, z.1, z.2.1, 0, 0, ()) : Gt)) hW), trivial⟩, rfl, rfl⟩
      · have hb : decide (k = 2) = false := hb
        have hb := of_decide_eq_false hb
        rw [if_neg hb] at hW
        (repeat (first | refine AWP.seq ?_ | refine AWP.skip ?_ | refine AWP.label ?_ | refine AWP.exit ?_ | refine AWP.block ?_ | refine AWP.region hX kPM_ok rfl trivial ?_ | refine AWP.region hX kPM_ok rfl id ?_ | refine AWP.region hX kPM_ok rfl ⟨id, id⟩ ?_))
        exact ⟨⟨rfl, rfl, rfl, trivial⟩, ⟨boxRd (congrArg (fun z => z.2.2) hW), rfl, boxGr (congrArg (fun z : Int × Int × Rd => ((a + 1, z.1, z.2.1, 0, 0, ()) : Gt)) hW), trivial⟩, rfl, rfl⟩
  obtain ⟨in3, l3⟩ := in3
  have w3 : LW (rL r3) := by rw [l3]; exact hlw
  have n3 : (rL r3).length ≤ 10000 := by rw [l3]; exact hl
  obtain ⟨Dg, Dr, r4, hD⟩ : ∃ g k r4, whatS (a + 1) r3 = (g, k, r4) := ⟨_, _, _, rfl⟩
  have eS : grantS r = ((a + 1, Wp, Wt, (whatS (a + 1) r3).1, (whatS (a + 1) r3).2.1, ()), (choS (whatS (a + 1) r3).2.2 wsE).2) := eS
  rw [hD] at eS
  have inG := choS_in (ws := wsG) in3 w3 (by decide)
  have lG := choS_L r3 wsG
  have inK := choS_in (ws := wsR) in3 w3 (by decide)
  have lK := choS_L r3 wsR
  have wG : LW (rL (choS r3 wsG).2) := by rw [lG]; exact w3
  have nG : (rL (choS r3 wsG).2).length ≤ 10000 := by rw [lG]; exact n3
  have wK : LW (rL (choS r3 wsR).2) := by rw [lK]; exact w3
  have nK : (rL (choS r3 wsR).2).length ≤ 10000 := by rw [lK]; exact n3
  have in4 : InR r4 ∧ rL r4 = rL r := by
    have h1 : InR (whatS (a + 1) r3).2.2 ∧ rL (whatS (a + 1) r3).2.2 = rL r := by
      unfold whatS
      split
      · exact ⟨numS_in inG wG, ((numS_L _ _).trans lG).trans l3⟩
      · split
        · exact ⟨numS_in inK wK, ((numS_L _ _).trans lK).trans l3⟩
        · exact ⟨in3, l3⟩
    rw [hD] at h1
    exact h1
  refine AWP.join (σ' := sGr r4 (a + 1) Wp Wt Dg Dr) ?_ ?_
  · unfold sGr
    (repeat (first | refine AWP.seq ?_ | refine AWP.skip ?_ | refine AWP.label ?_ | refine AWP.exit ?_ | refine AWP.block ?_ | refine AWP.region hX kPM_ok rfl trivial ?_ | refine AWP.region hX kPM_ok rfl id ?_ | refine AWP.region hX kPM_ok rfl ⟨id, id⟩ ?_))
    refine AWP.cond rfl (fun hb => ?_) (fun hb => ?_)
    · have hb : decide (a + 1 = 1) = true := hb
      have hb := of_decide_eq_true hb
      unfold whatS at hD
      rw [if_pos hb] at hD
      (repeat (first | refine AWP.seq ?_ | refine AWP.skip ?_ | refine AWP.block ?_ | refine AWP.exit ?_)); refine AWP.region hX kPM_ok rfl ?_ ?_
      · exact ⟨in3, n3, c101⟩
      (repeat (first | refine AWP.seq ?_ | refine AWP.skip ?_ | refine AWP.block ?_ | refine AWP.exit ?_)); refine AWP.region hX kPM_ok rfl ?_ ?_
      · exact ⟨inG, nG⟩
      exact ⟨⟨rfl, rfl, rfl, trivial⟩, ⟨boxRd (congrArg (fun z => z.2.2) hD), rfl, boxGr (congrArg (fun z : Int × Int × Rd => ((a + 1, Wp, Wt, z.1, z.2.1, ()) : Gt)) hD), trivial⟩, rfl, rfl⟩
    · have hb1 : decide (a + 1 = 1) = false := hb
      have hb1 := of_decide_eq_false hb1
      unfold whatS at hD
      rw [if_neg hb1] at hD
      (repeat (first | refine AWP.seq ?_ | refine AWP.skip ?_ | refine AWP.label ?_ | refine AWP.exit ?_ | refine AWP.block ?_ | refine AWP.region hX kPM_ok rfl trivial ?_ | refine AWP.region hX kPM_ok rfl id ?_ | refine AWP.region hX kPM_ok rfl ⟨id, id⟩ ?_))
      refine AWP.cond rfl (fun hb => ?_) (fun hb => ?_)
      · have hb : decide (a + 1 = 3) = true := hb
        have hb := of_decide_eq_true hb
        rw [if_pos hb] at hD
        (repeat (first | refine AWP.seq ?_ | refine AWP.skip ?_ | refine AWP.block ?_ | refine AWP.exit ?_)); refine AWP.region hX kPM_ok rfl ?_ ?_
        · exact ⟨in3, n3, c101⟩
        (repeat (first | refine AWP.seq ?_ | refine AWP.skip ?_ | refine AWP.block ?_ | refine AWP.exit ?_)); refine AWP.region hX kPM_ok rfl ?_ ?_
        · exact ⟨inK, nK⟩
        exact ⟨⟨rfl, rfl, rfl, trivial⟩, ⟨boxRd (congrArg (fun z => z.2.2) hD), rfl, boxGr (congrArg (fun z : Int × Int × Rd => ((a + 1, Wp, Wt, z.1, z.2.1, ()) : Gt)) hD), trivial⟩, rfl, rfl⟩
      · have hb : decide (a + 1 = 3) = false := hb
        have hb := of_decide_eq_false hb
        rw [if_neg hb] at hD
        (repeat (first | refine AWP.seq ?_ | refine AWP.skip ?_ | refine AWP.label ?_ | refine AWP.exit ?_ | refine AWP.block ?_ | refine AWP.region hX kPM_ok rfl trivial ?_ | refine AWP.region hX kPM_ok rfl id ?_ | refine AWP.region hX kPM_ok rfl ⟨id, id⟩ ?_))
        exact ⟨⟨rfl, rfl, rfl, trivial⟩, ⟨boxRd (congrArg (fun z => z.2.2) hD), rfl, boxGr (congrArg (fun z : Int × Int × Rd => ((a + 1, Wp, Wt, z.1, z.2.1, ()) : Gt)) hD), trivial⟩, rfl, rfl⟩
  unfold sGr
  (repeat (first | refine AWP.seq ?_ | refine AWP.skip ?_ | refine AWP.block ?_ | refine AWP.exit ?_)); refine AWP.region hX kPM_ok rfl ?_ ?_
  · exact ⟨in4.1, by show (rL r4).length ≤ 10000; rw [in4.2]; exact hl, c101⟩
  (repeat (first | refine AWP.seq ?_ | refine AWP.skip ?_ | refine AWP.label ?_ | refine AWP.exit ?_ | refine AWP.block ?_ | refine AWP.region hX kPM_ok rfl trivial ?_ | refine AWP.region hX kPM_ok rfl id ?_ | refine AWP.region hX kPM_ok rfl ⟨id, id⟩ ?_))
  refine AWP.ret ⟨.inr rfl, ?_, done1 rfl trivial rfl rfl ?_⟩
  · show some (OObj.box rr (choS r4 wsE).2) = some (OObj.box rr (grantS r).2)
    rw [eS]
  · show (a + 1, Wp, Wt, Dg, Dr, ()) = (grantS r).1
    rw [eS]
end Go.Proofs.YthkhgpbjfcmopaaGreatDoor
