/-
  The reference of chapter 25: the Reader's method grant.
  The reference of chapter 25: Lines, Parse.
  The reference of chapter 25: Parse.
-/
import Derived.Test.YthkhgpbjfcmopaaGreatDoorPRefD
namespace Go.Proofs.YthkhgpbjfcmopaaGreatDoor
open Go Go.RowKit
set_option linter.unusedSimpArgs false
set_option linter.unusedVariables false
set_option maxRecDepth 100000
/-- the last word of a line is empty -/
def LW (l : List Wd) : Prop := 0 < l.length ∧ wT (l.getD (l.length - 1) zW) = []
theorem failS_L (r : Rd) (e : Int) : rL (failS r e) = rL r := by unfold failS; split <;> rfl
theorem failS_in {r : Rd} {e : Int} (h : InR r) (he : e ≠ 0) : InR (failS r e) := by
  unfold failS
  split
  · exact .inl he
  · exact h
theorem nextS_in {r : Rd} (h : InR r) (h0 : rE r = 0) (hl : LW (rL r)) (hc : cur r ≠ []) : InR (nextS r) := by
  have hI := h.resolve_left fun h => h h0
  refine .inr ⟨by show 0 ≤ rI r + 1; omega, ?_⟩
  show rI r + 1 < (rL r).length
  refine Classical.byContradiction fun hn => hc ?_
  have : (rI r).toNat = (rL r).length - 1 := by omega
  unfold cur
  rw [this]
  exact hl.2
theorem choS_L (r : Rd) (ws : List (List UInt8)) : rL (choS r ws).2 = rL r := by
  unfold choS
  split
  · rfl
  · split
    · rfl
    · exact failS_L _ _
theorem choS_in {r : Rd} {ws : List (List UInt8)} (h : InR r) (hl : LW (rL r)) (hw : ∀ w ∈ ws, w ≠ []) : InR (choS r ws).2 := by
  unfold choS
  split
  · exact h
  · rename_i h0
    have h0 : rE r = 0 := Classical.byContradiction h0
    split
    · rename_i hi
      refine nextS_in h h0 hl ?_
      have h1 : decide (cur r = ws[chI ws (cur r)]) = true := List.findIdx_getElem (w := hi)
      rw [of_decide_eq_true h1]
      exact hw _ (List.getElem_mem hi)
    · exact failS_in h (by decide)
theorem numS_L (r : Rd) (m : Int) : rL (numS r m).2 = rL r := by
  unfold numS
  split
  · rfl
  · split
    · exact failS_L _ _
    · split
      · exact failS_L _ _
      · rfl
theorem numS_in {r : Rd} {m : Int} (h : InR r) (hl : LW (rL r)) : InR (numS r m).2 := by
  unfold numS
  split
  · exact h
  · rename_i h0
    have h0 : rE r = 0 := Classical.byContradiction h0
    split
    · exact failS_in h (by decide)
    · rename_i h1
      split
      · exact failS_in h (by decide)
      · refine nextS_in h h0 hl fun e => h1 ?_
        rw [e]
        rfl
def wsA : List (List UInt8) := [[97, 115, 107], [98, 111, 111, 107], [109, 111, 118, 101]]
def wsW : List (List UInt8) := [[97, 108, 108], [112, 101, 114, 115, 111, 110], [116, 101, 97, 109]]
def wsG : List (List UInt8) := [[103, 114, 97, 105, 110]]
def wsR : List (List UInt8) := [[114, 97, 110, 107]]
def wsE : List (List UInt8) := [[]]
/-- for whom: person, team, and the reader behind -/
def whoS (k : Int) (r : Rd) : Int × Int × Rd := if k = 1 then ((numS r 511).1, -1, (numS r 511).2) else if k = 2 then (-1, (numS r 63).1, (numS r 63).2) else (-1, -1, r)
/-- what it gives: grain, rank, and the reader behind -/
def whatS (a : Int) (r : Rd) : Int × Int × Rd := if a = 1 then ((numS (choS r wsG).2 4).1, 0, (numS (choS r wsG).2 4).2) else if a = 3 then (0, (numS (choS r wsR).2 100).1, (numS (choS r wsR).2 100).2) else (0, 0, r)
def grantS (r : Rd) : Gt × Rd :=
  let a := choS r wsA
  let k := choS a.2 wsW
  let w := whoS k.1 k.2
  let g := whatS (a.1 + 1) w.2.2
  ((a.1 + 1, w.1, w.2.1, g.1, g.2.1, ()), (choS g.2.2 wsE).2)
def cGrant : RCtr := { self := rr, args := [], inv := fun _ _ => True, pre := fun r _ => [InR r, LW (rL r), List.length (rL r) ≤ 10000], res := gr, out := fun r _ => (grantS r).1, post := fun r _ => (grantS r).2 }
def kPM : Kn := { pK with R := [(97, cCho), (98, cNumS)] }
theorem kPM_ok : KnOk Tryz.prog pG kPM := pK_ok.withR (.cons rchoice_ok (fun _ _ => trivial) (.cons rnumeral_ok (fun _ _ => trivial) .nil))
theorem chI_le (ws : List (List UInt8)) (t : List UInt8) : chI ws t ≤ ws.length := List.findIdx_le_length
theorem choS_1 (r : Rd) (ws : List (List UInt8)) : 0 ≤ (choS r ws).1 ∧ (choS r ws).1 ≤ ws.length := by
  unfold choS
  split
  · exact ⟨Int.le_refl _, Int.natCast_nonneg _⟩
  · split
    · rename_i h
      exact ⟨Int.natCast_nonneg _, by show ((chI ws (cur r) : Nat) : Int) ≤ _; omega⟩
    · exact ⟨Int.le_refl _, Int.natCast_nonneg _⟩
def sGr (r : Rd) (a p t g k : Int) : AS := ⟨[(0, ⟨.optr rr, ⟨0, rr, .here⟩⟩), (2, ⟨.optr gr, ⟨1, gr, .here⟩⟩), (3, ⟨.optr gr, ⟨3, gr, .here⟩⟩)], [(0, some (.box rr r)), (1, some (.box gr zG)), (3, some (.box gr (a, p, t, g, k, ())))], 4⟩
theorem boxRd {x y : Rd} (h : x = y) : some (OObj.box rr x) = some (OObj.box rr y) := by rw [h]
theorem AWP.via {P : Program} {w0 : World} {X : Ownr} {n : Nat} {σ : AS} {Q : Exit → AS → Prop} {c d : Code} {σ' : AS} (h1 : AWP P w0 X n c σ (thenQ (fun s => Fit s σ') Q)) (h2 : AWP P w0 X n d σ' Q) (hk : X.K ≤ σ'.nx := by exact Nat.le_of_ble_eq_true rfl) : AWP P w0 X n c σ (thenQ (fun s => AWP P w0 X n d s Q) Q) :=
  AWP.mono h1 fun e s h => by
    cases e with
    | normal => exact AWP.fit h h2 hk
    | _ => exact h
theorem rgrant_ok : RCtrOk Tryz.prog pG 67 cGrant := by
  refine rctr_of_awp (K := kPM) kPM_ok Tryz.func67 rfl rfl Tryz.call67 rfl (by decide) (fun w w' g hg h hk => trivial) ?_
  rintro w0 O g hX hinv (r : Rd) _ hp
  obtain ⟨h0, hlw, hl⟩ : InR r ∧ LW (rL r) ∧ (rL r).length ≤ 10000 := hp
  change AWP _ _ _ _ _ ⟨[(0, ⟨.optr rr, ⟨0, rr, .here⟩⟩)], [(0, some (.box rr r))], 1⟩ _
  (repeat (first | refine AWP.seq ?_ | refine AWP.skip ?_ | refine AWP.label ?_ | refine AWP.exit ?_ | refine AWP.block ?_ | refine AWP.region hX kPM_ok rfl trivial ?_ | refine AWP.region hX kPM_ok rfl id ?_ | refine AWP.region hX kPM_ok rfl ⟨id, id⟩ ?_))
  have c1 := choS_1 r wsA
  have c1 : 0 ≤ (choS r wsA).1 ∧ (choS r wsA).1 ≤ 3 := c1
  have c100 : (3 : Nat) ≤ 100 := by omega
  have c101 : (1 : Nat) ≤ 100 := by omega
  (repeat (first | refine AWP.seq ?_ | refine AWP.skip ?_ | refine AWP.block ?_ | refine AWP.exit ?_)); refine AWP.region hX kPM_ok rfl ?_ ?_
  · exact ⟨h0, hl, c100, inR_small (by show _ ≤ (choS r wsA).1 + 1; omega) (by show (choS r wsA).1 + 1 ≤ _; omega)⟩
  have in1 := choS_in (ws := wsA) h0 hlw (by decide)
  have l1 := choS_L r wsA
  have eS : grantS r = (((choS r wsA).1 + 1, (whoS (choS (choS r wsA).2 wsW).1 (choS (choS r wsA).2 wsW).2).1, (whoS (choS (choS r wsA).2 wsW).1 (choS (choS r wsA).2 wsW).2).2.1, (whatS ((choS r wsA).1 + 1) (whoS (choS (choS r wsA).2 wsW).1 (choS (choS r wsA).2 wsW).2).2.2).1, (whatS ((choS r wsA).1 + 1) (whoS (choS (choS r wsA).2 wsW).1 (choS (choS r wsA).2 wsW).2).2.2).2.1, ()), (choS (whatS ((choS r wsA).1 + 1) (whoS (choS (choS r wsA).2 wsW).1 (choS (choS r wsA).2 wsW).2).2.2).2.2 wsE).2) := rfl
  obtain ⟨A, hA1⟩ : ∃ A, choS r wsA = A := ⟨_, rfl⟩
  rw [hA1] at c1 in1 l1 eS
  obtain ⟨(a : Int), (r1 : Rd)⟩ := A
  have in1 : InR r1 := in1
  have l1 : rL r1 = rL r := l1
  have w1 : LW (rL r1) := by rw [l1]; exact hlw
  have n1 : (rL r1).length ≤ 10000 := by rw [l1]; exact hl
  have hA1 : choS r wsA = (a, r1) := hA1
  refine AWP.fit (σ' := sGr r1 (a + 1) (-1) (-1) 0 0) ⟨⟨rfl, rfl, rfl, trivial⟩, ⟨boxRd (congrArg (fun z => z.2) hA1), rfl, boxGr (congrArg (fun z => (z.1 + 1, -1, -1, 0, 0, ())) hA1), trivial⟩, rfl, rfl⟩ ?_
  unfold sGr
  (repeat (first | refine AWP.seq ?_ | refine AWP.skip ?_ | refine AWP.block ?_ | refine AWP.exit ?_)); refine AWP.region hX kPM_ok rfl ?_ ?_
  · exact ⟨in1, n1, c100⟩
  have in2 := choS_in (ws := wsW) in1 w1 (by decide)
  have l2 := choS_L r1 wsW
  have eS : grantS r = ((a + 1, (whoS (choS r1 wsW).1 (choS r1 wsW).2).1, (whoS (choS r1 wsW).1 (choS r1 wsW).2).2.1, (whatS (a + 1) (whoS (choS r1 wsW).1 (choS r1 wsW).2).2.2).1, (whatS (a + 1) (whoS (choS r1 wsW).1 (choS r1 wsW).2).2.2).2.1, ()), (choS (whatS (a + 1) (whoS (choS r1 wsW).1 (choS r1 wsW).2).2.2).2.2 wsE).2) := eS
  obtain ⟨B, hK1⟩ : ∃ B, choS r1 wsW = B := ⟨_, rfl⟩
  rw [hK1] at in2 l2 eS
  obtain ⟨(k : Int), (r2 : Rd)⟩ := B
  have in2 : InR r2 := in2
  have l2 : rL r2 = rL r := (show rL r2 = rL r1 from l2).trans l1
  have w2 : LW (rL r2) := by rw [l2]; exact hlw
  have n2 : (rL r2).length ≤ 10000 := by rw [l2]; exact hl
  have hK1 : choS r1 wsW = (k, r2) := hK1
  have eS : grantS r = ((a + 1, (whoS k r2).1, (whoS k r2).2.1, (whatS (a + 1) (whoS k r2).2.2).1, (whatS (a + 1) (whoS k r2).2.2).2.1, ()), (choS (whatS (a + 1) (whoS k r2).2.2).2.2 wsE).2) := eS
  refine AWP.fit (σ' := ⟨[(0, ⟨.optr rr, ⟨0, rr, .here⟩⟩), (2, ⟨.optr gr, ⟨1, gr, .here⟩⟩), (3, ⟨.optr gr, ⟨3, gr, .here⟩⟩), (11, ⟨i64, k⟩)], [(0, some (.box rr r2)), (1, some (.box gr zG)), (3, some (.box gr (a + 1, -1, -1, 0, 0, ())))], 4⟩) ⟨⟨rfl, rfl, rfl, vI64 (congrArg (fun z => z.1) hK1), trivial⟩, ⟨boxRd (congrArg (fun z => z.2) hK1), rfl, rfl, trivial⟩, rfl, rfl⟩ ?_
  obtain ⟨Wp, Wt, r3, hW⟩ : ∃ p t r3, whoS k r2 = (p, t, r3) := ⟨_, _, _, rfl⟩
  rw [hW] at eS
  have in3 : InR r3 ∧ rL r3 = rL r := by
    have h1 : InR (whoS k r2).2.2 ∧ rL (whoS k r2).2.2 = rL r := by
      unfold whoS
      split
      · exact ⟨numS_in in2 w2, (numS_L _ _).trans l2⟩
      · split
        · exact ⟨numS_in in2 w2, (numS_L _ _).trans l2⟩
        · exact ⟨in2, l2⟩
    rw [hW] at h1
    exact h1
  refine AWP.via (σ' := sGr r3 (a + 1) Wp Wt 0 0) ?_ ?_
  · (repeat (first | refine AWP.seq ?_ | refine AWP.skip ?_ | refine AWP.label ?_ | refine AWP.exit ?_ | refine AWP.block ?_ | refine AWP.region hX kPM_ok rfl trivial ?_ | refine AWP.region hX kPM_ok rfl id ?_ | refine AWP.region hX kPM_ok rfl ⟨id, id⟩ ?_))
    refine AWP.cond rfl (fun hb => ?_) (fun hb => ?_)
    · have hb : decide (k = 1) = true := hb
      have hb := of_decide_eq_true hb
      unfold whoS at hW
      rw [if_pos hb] at hW
      (repeat (first | refine AWP.seq ?_ | refine AWP.skip ?_ | refine AWP.block ?_ | refine AWP.exit ?_)); refine AWP.region hX kPM_ok rfl ?_ ?_
      · exact ⟨in2, n2⟩
      exact ⟨⟨rfl, rfl, rfl, trivial⟩, ⟨boxRd (congrArg (fun z => z.2.2) hW), rfl, boxGr (congrArg (fun z : Int × Int × Rd => ((a + 1, z.1, z.2.1, 0, 0, ()) : Gt)) hW), trivial⟩, rfl, rfl⟩
    · have hb1 : decide (k = 1) = false := hb
      have hb1 := of_decide_eq_false hb1
      unfold whoS at hW
      rw [if_neg hb1] at hW
      (repeat (first | refine AWP.seq ?_ | refine AWP.skip ?_ | refine AWP.label ?_ | refine AWP.exit ?_ | refine AWP.block ?_ | refine AWP.region hX kPM_ok rfl trivial ?_ | refine AWP.region hX kPM_ok rfl id ?_ | refine AWP.region hX kPM_ok rfl ⟨id, id⟩ ?_))
      refine AWP.cond rfl (fun hb => ?_) (fun hb => ?_)
      · have hb : decide (k = 2) = true := hb
        have hb := of_decide_eq_true hb
        rw [if_pos hb] at hW
        (repeat (first | refine AWP.seq ?_ | refine AWP.skip ?_ | refine AWP.block ?_ | refine AWP.exit ?_)); refine AWP.region hX kPM_ok rfl ?_ ?_
        · exact ⟨in2, n2⟩
        exact ⟨⟨rfl, rfl, rfl, trivial⟩, ⟨boxRd (congrArg (fun z => z.2.2) hW), rfl, boxGr (congrArg (fun z : Int × Int × Rd => ((a + 1, z.1, z.2.1, 0, 0, ()) : Gt)) hW), trivial⟩, rfl, rfl⟩
      · have hb : decide (k = 2) = false := hb
        have hb := of_decide_eq_false hb
        rw [if_neg hb] at hW
        (repeat (first | refine AWP.seq ?_ | refine AWP.skip ?_ | refine AWP.label ?_ | refine AWP.exit ?_ | refine AWP.block ?_ | refine AWP.region hX kPM_ok rfl trivial ?_ | refine AWP.region hX kPM_ok rfl id ?_ | refine AWP.region hX kPM_ok rfl ⟨id, id⟩ ?_))
        exact ⟨⟨rfl, rfl, rfl, trivial⟩, ⟨boxRd (congrArg (fun z => z.2.2) hW), rfl, boxGr (congrArg (fun z : Int × Int × Rd => ((a + 1, z.1, z.2.1, 0, 0, ()) : Gt)) hW), trivial⟩, rfl, rfl⟩
  obtain ⟨in3, l3⟩ := in3
  have w3 : LW (rL r3) := by rw [l3]; exact hlw
  have n3 : (rL r3).length ≤ 10000 := by rw [l3]; exact hl
  obtain ⟨Dg, Dr, r4, hD⟩ : ∃ g k r4, whatS (a + 1) r3 = (g, k, r4) := ⟨_, _, _, rfl⟩
  have eS : grantS r = ((a + 1, Wp, Wt, (whatS (a + 1) r3).1, (whatS (a + 1) r3).2.1, ()), (choS (whatS (a + 1) r3).2.2 wsE).2) := eS
  rw [hD] at eS
  have inG := choS_in (ws := wsG) in3 w3 (by decide)
  have lG := choS_L r3 wsG
  have inK := choS_in (ws := wsR) in3 w3 (by decide)
  have lK := choS_L r3 wsR
  have wG : LW (rL (choS r3 wsG).2) := by rw [lG]; exact w3
  have nG : (rL (choS r3 wsG).2).length ≤ 10000 := by rw [lG]; exact n3
  have wK : LW (rL (choS r3 wsR).2) := by rw [lK]; exact w3
  have nK : (rL (choS r3 wsR).2).length ≤ 10000 := by rw [lK]; exact n3
  have in4 : InR r4 ∧ rL r4 = rL r := by
    have h1 : InR (whatS (a + 1) r3).2.2 ∧ rL (whatS (a + 1) r3).2.2 = rL r := by
      unfold whatS
      split
      · exact ⟨numS_in inG wG, ((numS_L _ _).trans lG).trans l3⟩
      · split
        · exact ⟨numS_in inK wK, ((numS_L _ _).trans lK).trans l3⟩
        · exact ⟨in3, l3⟩
    rw [hD] at h1
    exact h1
  refine AWP.join (σ' := sGr r4 (a + 1) Wp Wt Dg Dr) ?_ ?_
  · unfold sGr
    (repeat (first | refine AWP.seq ?_ | refine AWP.skip ?_ | refine AWP.label ?_ | refine AWP.exit ?_ | refine AWP.block ?_ | refine AWP.region hX kPM_ok rfl trivial ?_ | refine AWP.region hX kPM_ok rfl id ?_ | refine AWP.region hX kPM_ok rfl ⟨id, id⟩ ?_))
    refine AWP.cond rfl (fun hb => ?_) (fun hb => ?_)
    · have hb : decide (a + 1 = 1) = true := hb
      have hb := of_decide_eq_true hb
      unfold whatS at hD
      rw [if_pos hb] at hD
      (repeat (first | refine AWP.seq ?_ | refine AWP.skip ?_ | refine AWP.block ?_ | refine AWP.exit ?_)); refine AWP.region hX kPM_ok rfl ?_ ?_
      · exact ⟨in3, n3, c101⟩
      (repeat (first | refine AWP.seq ?_ | refine AWP.skip ?_ | refine AWP.block ?_ | refine AWP.exit ?_)); refine AWP.region hX kPM_ok rfl ?_ ?_
      · exact ⟨inG, nG⟩
      exact ⟨⟨rfl, rfl, rfl, trivial⟩, ⟨boxRd (congrArg (fun z => z.2.2) hD), rfl, boxGr (congrArg (fun z : Int × Int × Rd => ((a + 1, Wp, Wt, z.1, z.2.1, ()) : Gt)) hD), trivial⟩, rfl, rfl⟩
    · have hb1 : decide (a + 1 = 1) = false := hb
      have hb1 := of_decide_eq_false hb1
      unfold whatS at hD
      rw [if_neg hb1] at hD
      (repeat (first | refine AWP.seq ?_ | refine AWP.skip ?_ | refine AWP.label ?_ | refine AWP.exit ?_ | refine AWP.block ?_ | refine AWP.region hX kPM_ok rfl trivial ?_ | refine AWP.region hX kPM_ok rfl id ?_ | refine AWP.region hX kPM_ok rfl ⟨id, id⟩ ?_))
      refine AWP.cond rfl (fun hb => ?_) (fun hb => ?_)
      · have hb : decide (a + 1 = 3) = true := hb
        have hb := of_decide_eq_true hb
        rw [if_pos hb] at hD
        (repeat (first | refine AWP.seq ?_ | refine AWP.skip ?_ | refine AWP.block ?_ | refine AWP.exit ?_)); refine AWP.region hX kPM_ok rfl ?_ ?_
        · exact ⟨in3, n3, c101⟩
        (repeat (first | refine AWP.seq ?_ | refine AWP.skip ?_ | refine AWP.block ?_ | refine AWP.exit ?_)); refine AWP.region hX kPM_ok rfl ?_ ?_
        · exact ⟨inK, nK⟩
        exact ⟨⟨rfl, rfl, rfl, trivial⟩, ⟨boxRd (congrArg (fun z => z.2.2) hD), rfl, boxGr (congrArg (fun z : Int × Int × Rd => ((a + 1, Wp, Wt, z.1, z.2.1, ()) : Gt)) hD), trivial⟩, rfl, rfl⟩
      · have hb : decide (a + 1 = 3) = false := hb
        have hb := of_decide_eq_false hb
        rw [if_neg hb] at hD
        (repeat (first | refine AWP.seq ?_ | refine AWP.skip ?_ | refine AWP.label ?_ | refine AWP.exit ?_ | refine AWP.block ?_ | refine AWP.region hX kPM_ok rfl trivial ?_ | refine AWP.region hX kPM_ok rfl id ?_ | refine AWP.region hX kPM_ok rfl ⟨id, id⟩ ?_))
        exact ⟨⟨rfl, rfl, rfl, trivial⟩, ⟨boxRd (congrArg (fun z => z.2.2) hD), rfl, boxGr (congrArg (fun z : Int × Int × Rd => ((a + 1, Wp, Wt, z.1, z.2.1, ()) : Gt)) hD), trivial⟩, rfl, rfl⟩
  unfold sGr
  (repeat (first | refine AWP.seq ?_ | refine AWP.skip ?_ | refine AWP.block ?_ | refine AWP.exit ?_)); refine AWP.region hX kPM_ok rfl ?_ ?_
  · exact ⟨in4.1, by show (rL r4).length ≤ 10000; rw [in4.2]; exact hl, c101⟩
  (repeat (first | refine AWP.seq ?_ | refine AWP.skip ?_ | refine AWP.label ?_ | refine AWP.exit ?_ | refine AWP.block ?_ | refine AWP.region hX kPM_ok rfl trivial ?_ | refine AWP.region hX kPM_ok rfl id ?_ | refine AWP.region hX kPM_ok rfl ⟨id, id⟩ ?_))
  refine AWP.ret ⟨.inr rfl, ?_, done1 rfl trivial rfl rfl ?_⟩
  · show some (OObj.box rr (choS r4 wsE).2) = some (OObj.box rr (grantS r).2)
    rw [eS]
  · show (a + 1, Wp, Wt, Dg, Dr, ()) = (grantS r).1
    rw [eS]
end Go.Proofs.YthkhgpbjfcmopaaGreatDoor
namespace Go.Proofs.YthkhgpbjfcmopaaGreatDoor
open Go Go.RowKit
set_option linter.unusedSimpArgs false
set_option linter.unusedVariables false
set_option maxRecDepth 100000
def flush (c : List UInt8) (at' : Int) (line : List Wd) : List Wd := if c = [] then line else line ++ [(c, at', ())]
def fin (line : List Wd) (i : Nat) : List (List Wd) := if line = [] then [] else [line ++ [([], (i : Int), ())]]
/-- the lines that have words, with the end of the line behind them -/
def lnF : List UInt8 → Nat → List UInt8 → List Wd → List (List Wd)
  | [], i, c, line => fin (flush c ((i - c.length : Nat) : Int) line) i
  | x :: r, i, c, line => if x ≠ 32 ∧ x ≠ 10 then lnF r (i + 1) (c ++ [x]) line else if x = 10 then fin (flush c ((i - c.length : Nat) : Int) line) i ++ lnF r (i + 1) [] [] else lnF r (i + 1) [] (flush c ((i - c.length : Nat) : Int) line)
def linesS (s : List UInt8) : List (List Wd) := lnF s 0 [] []
def cLines : Ctr := { args := [.str], pre := fun x => [List.length x.1 ≤ 100000], res := .slice (.slice wd), own := none, out := fun x => linesS x.1 }
def sLn (s : List UInt8) (i f : Nat) (line : List Wd) (out : List (List Wd)) : AS := ⟨[(0, ⟨.str, s⟩), (3, ⟨.obuf (.slice wd), (0 : Nat)⟩), (4, ⟨.obuf wd, (1 : Nat)⟩), (5, ⟨i64, (f : Int)⟩), (6, ⟨i64, (i : Int)⟩)], [(0, some (.buf 115 (.slice wd) out)), (1, some (.buf 114 wd line))], 2⟩
theorem sepTest (s : List UInt8) (i : Nat) : (bif bif decide ((i : Int) < (s.length : Nat)) then (((s.getD (i : Int).toNat 0).toNat : Nat) : Int) != 32 else false then (((s.getD (i : Int).toNat 0).toNat : Nat) : Int) != 10 else false) = true ↔ i < s.length ∧ s.getD (i : Int).toNat 0 ≠ 32 ∧ s.getD (i : Int).toNat 0 ≠ 10 := by
  have key : ∀ (c : UInt8) (n : Nat) (h : n < 256), ((((c.toNat : Nat) : Int) != (n : Int)) = true ↔ c ≠ UInt8.ofNat n) := fun c n h => by
    rw [bne_iff_ne]
    refine not_congr ⟨fun e => UInt8.toNat_inj.1 (by rw [UInt8.toNat_ofNat']; omega), fun e => by rw [e, UInt8.toNat_ofNat']; omega⟩
  generalize s.getD (i : Int).toNat 0 = c
  have k1 : ((((c.toNat : Nat) : Int) != 32) = true ↔ c ≠ 32) := key c 32 (by omega)
  have k2 : ((((c.toNat : Nat) : Int) != 10) = true ↔ c ≠ 10) := key c 10 (by omega)
  by_cases h : i < s.length
  · rw [decide_eq_true (by omega : (i : Int) < (s.length : Nat))]
    show (bif (((c.toNat : Nat) : Int) != 32) then (((c.toNat : Nat) : Int) != 10) else false) = true ↔ _
    cases h1 : (((c.toNat : Nat) : Int) != 32)
    · exact ⟨fun e => (by cases e), fun e => by rw [k1.2 e.2.1] at h1; cases h1⟩
    · exact ⟨fun e => ⟨h, k1.1 h1, k2.1 e⟩, fun e => k2.2 e.2.2⟩
  · rw [decide_eq_false (by omega : ¬ (i : Int) < (s.length : Nat))]
    exact ⟨fun e => (by cases e), fun e => absurd e.1 h⟩
theorem bufWd {te : TypeId} {x y : List Wd} (h : x = y) : some (OObj.buf te wd x) = some (OObj.buf te wd y) := by rw [h]
theorem bufWds {te : TypeId} {x y : List (List Wd)} (h : x = y) : some (OObj.buf te (.slice wd) x) = some (OObj.buf te (.slice wd) y) := by rw [h]
theorem rlines_ok : CtrOk Tryz.prog pG 66 cLines := by
  refine ctr_of_awp (K := pK) pK_ok Tryz.func66 rfl rfl Tryz.call66 rfl (by decide) (by intro h; cases h) ?_
  rintro w0 X hX ⟨(s : List UInt8), _⟩ hp
  have hl : s.length ≤ 100000 := hp
  change AWP _ _ _ _ _ ⟨[(0, ⟨.str, s⟩)], [], 0⟩ _
  (repeat (first | refine AWP.seq ?_ | refine AWP.skip ?_ | refine AWP.label ?_ | refine AWP.exit ?_ | refine AWP.block ?_ | refine AWP.region hX pK_ok rfl trivial ?_ | refine AWP.region hX pK_ok rfl id ?_ | refine AWP.region hX pK_ok rfl ⟨id, id⟩ ?_))
  refine AWP.loop (ι := Nat × Nat × List Wd × List (List Wd)) (fun t => sLn s t.1 t.2.1 t.2.2.1 t.2.2.2) (fun t => t.2.2.1.length ≤ t.1 ∧ t.2.2.2.length ≤ t.1 ∧ ((t.2.1 ≤ t.1 ∧ t.1 ≤ s.length ∧ t.2.2.2 ++ lnF (s.drop t.1) t.1 ((s.take t.1).drop t.2.1) t.2.2.1 = linesS s) ∨ (t.1 = s.length + 1 ∧ t.2.2.2 = linesS s))) (fun t => s.length + 1 - t.1) (0, 0, [], []) ⟨by simp, by simp, .inl ⟨Nat.le_refl 0, Nat.zero_le _, rfl⟩⟩ ⟨⟨rfl, rfl, rfl, rfl, rfl, trivial⟩, ⟨rfl, rfl, trivial⟩, rfl, rfl⟩ ?_
  rintro ⟨i, f, line, out⟩ ⟨hln, hout, hinv⟩
  have hln : line.length ≤ i := hln
  have hout : out.length ≤ i := hout
  have hinv : (f ≤ i ∧ i ≤ s.length ∧ out ++ lnF (s.drop i) i ((s.take i).drop f) line = linesS s) ∨ (i = s.length + 1 ∧ out = linesS s) := hinv
  show AWP _ _ _ _ _ (sLn s i f line out) _
  unfold sLn
  (repeat (first | refine AWP.seq ?_ | refine AWP.skip ?_ | refine AWP.block ?_ | refine AWP.exit ?_)); refine AWP.region hX pK_ok rfl ?_ ?_
  · trivial
  refine AWP.cond rfl (fun hb => ?_) (fun hb => ?_)
  · have hb : decide ((i : Int) ≤ (s.length : Nat)) = true := hb
    have hb := of_decide_eq_true hb
    obtain ⟨hf, hi, hinv⟩ := hinv.resolve_right fun h => by omega
    have hcl : ((s.take i).drop f).length = i - f := by rw [List.length_drop, List.length_take]; omega
    have n0 : (0 : Int) ≤ (i : Int) := by omega
    (repeat (first | refine AWP.seq ?_ | refine AWP.skip ?_ | refine AWP.block ?_ | refine AWP.exit ?_)); refine AWP.region hX pK_ok rfl ?_ ?_
    · clear hinv
      repeat' (first | exact trivial | assumption | exact n0 | (refine ⟨?_, ?_⟩) | (intro _) | exact Nat.le_of_ble_eq_true rfl | exact Int.natCast_nonneg _ | (simp_all [allP]; done))
    refine AWP.cond rfl (fun hb => ?_) (fun hb => ?_)
    · have hx := (sepTest ..).1 hb
      obtain ⟨hlt, hx1, hx2⟩ := hx
      rw [getD_at (z := (0 : UInt8)) hlt] at hx1 hx2
      have hd : s.drop i = s[i] :: s.drop (i + 1) := List.drop_eq_getElem_cons hlt
      rw [hd] at hinv
      unfold lnF at hinv
      rw [if_pos ⟨hx1, hx2⟩] at hinv
      (repeat (first | refine AWP.seq ?_ | refine AWP.skip ?_ | refine AWP.block ?_ | refine AWP.exit ?_)); refine AWP.region hX pK_ok rfl ?_ ?_
      · exact inR_succ (by omega)
      refine ⟨(i + 1, f, line, out), ⟨by show line.length ≤ i + 1; omega, by show out.length ≤ i + 1; omega, .inl ⟨by show f ≤ i + 1; omega, by show i + 1 ≤ s.length; omega, ?_⟩⟩, by show s.length + 1 - (i + 1) < s.length + 1 - i; omega, ⟨rfl, rfl, rfl, rfl, vSucc _, trivial⟩, ⟨rfl, rfl, trivial⟩, rfl, rfl⟩
      show out ++ lnF (s.drop (i + 1)) (i + 1) ((s.take (i + 1)).drop f) line = linesS s
      rw [← hinv, List.take_succ_eq_append_getElem hlt, List.drop_append_of_le_length (by rw [List.length_take]; omega)]
    have hx := hb
    (repeat (first | refine AWP.skip ?_ | refine AWP.exit ?_))
    have hfl : (((i - ((s.take i).drop f).length : Nat)) : Int) = (f : Int) := by rw [hcl]; omega
    generalize hC : (s.take i).drop f = C at hinv hcl hfl
    have hLl : (flush C f line).length ≤ i + 1 := by
      unfold flush
      split
      · omega
      · rw [List.length_append, List.length_singleton]; omega
    refine AWP.join (σ' := sLn s i f (flush C f line) out) ?_ ?_
    · (repeat (first | refine AWP.seq ?_ | refine AWP.skip ?_ | refine AWP.label ?_ | refine AWP.exit ?_ | refine AWP.block ?_ | refine AWP.region hX pK_ok rfl trivial ?_ | refine AWP.region hX pK_ok rfl id ?_ | refine AWP.region hX pK_ok rfl ⟨id, id⟩ ?_))
      refine AWP.cond rfl (fun hb => ?_) (fun hb => ?_)
      · have hq : decide ((f : Int) < (i : Int)) = true := hb
        have hq := of_decide_eq_true hq
        have q1 : (f : Int) ≤ (i : Int) := by omega
        have q2 : (i : Int) ≤ (s.length : Nat) := by omega
        have q0 : (0 : Int) ≤ (f : Int) := by omega
        have hne : C ≠ [] := fun e => by rw [e] at hcl; simp at hcl; omega
        (repeat (first | refine AWP.seq ?_ | refine AWP.skip ?_ | refine AWP.block ?_ | refine AWP.exit ?_)); refine AWP.region hX pK_ok rfl ?_ ?_
        · exact ⟨q0, q1, q2, by show line.length + 1 ≤ 1000000000; omega⟩
        refine ⟨⟨rfl, rfl, rfl, rfl, rfl, trivial⟩, ⟨rfl, bufWd ?_, trivial⟩, rfl, rfl⟩
        unfold flush
        rw [if_neg hne, ← hC]
        rfl
      · have hq : decide ((f : Int) < (i : Int)) = false := hb
        have hq := of_decide_eq_false hq
        have hne : C = [] := List.eq_nil_of_length_eq_zero (by omega)
        (repeat (first | refine AWP.seq ?_ | refine AWP.skip ?_ | refine AWP.label ?_ | refine AWP.exit ?_ | refine AWP.block ?_ | refine AWP.region hX pK_ok rfl trivial ?_ | refine AWP.region hX pK_ok rfl id ?_ | refine AWP.region hX pK_ok rfl ⟨id, id⟩ ?_))
        refine ⟨⟨rfl, rfl, rfl, rfl, rfl, trivial⟩, ⟨rfl, bufWd ?_, trivial⟩, rfl, rfl⟩
        unfold flush
        rw [if_pos hne]
    have hLe : flush C ((i - C.length : Nat) : Int) line = flush C f line := by rw [hfl]
    generalize hL : flush C f line = L at hLl hLe
    unfold sLn
    (repeat (first | refine AWP.seq ?_ | refine AWP.skip ?_ | refine AWP.block ?_ | refine AWP.exit ?_)); refine AWP.region hX pK_ok rfl ?_ ?_
    · exact inR_succ (by omega)
    (repeat (first | refine AWP.seq ?_ | refine AWP.skip ?_ | refine AWP.block ?_ | refine AWP.exit ?_)); refine AWP.region hX pK_ok rfl ?_ ?_
    · have nlt : (!((i : Int) == ((s.length : Nat) : Int))) = true → (i : Int) < (s.length : Nat) := fun h => by
        have h : ¬ (i : Int) = (s.length : Nat) := by simpa using h
        omega
      clear hinv hx
      repeat' (first | exact trivial | assumption | exact n0 | (refine ⟨?_, ?_⟩) | (intro _) | exact Nat.le_of_ble_eq_true rfl | exact Int.natCast_nonneg _ | (simp_all [allP]; done))
      all_goals exact nlt (by assumption)
    refine AWP.cond rfl (fun hb => ?_) (fun hb => ?_)
    · have hend : i = s.length ∨ (∃ h : i < s.length, s[i] = 10) := by
        by_cases h : i = s.length
        · exact .inl h
        · have hlt : i < s.length := by omega
          refine .inr ⟨hlt, ?_⟩
          have h2 : (bif decide ((i : Int) = (s.length : Nat)) then true else decide ((((s.getD (i : Int).toNat 0).toNat : Nat) : Int) = 10)) = true := hb
          rw [decide_eq_false (by omega : ¬ (i : Int) = (s.length : Nat)), getD_at (z := (0 : UInt8)) hlt] at h2
          have h2 := of_decide_eq_true (show decide ((((s[i]).toNat : Nat) : Int) = 10) = true from h2)
          exact UInt8.toNat_inj.1 (by show (s[i]).toNat = 10; omega)
      have hfin : out ++ fin L i = linesS s ∧ i = s.length ∨ ∃ h : i < s.length, out ++ fin L i ++ lnF (s.drop (i + 1)) (i + 1) [] [] = linesS s := by
        rcases hend with h | ⟨hlt, hx10⟩
        · refine .inl ⟨?_, h⟩
          rw [h, List.drop_length] at hinv
          unfold lnF at hinv
          rw [← h, hLe] at hinv
          exact hinv
        · refine .inr ⟨hlt, ?_⟩
          rw [List.drop_eq_getElem_cons hlt] at hinv
          unfold lnF at hinv
          rw [if_neg (fun h => h.2 hx10), if_pos hx10, hLe, ← List.append_assoc] at hinv
          exact hinv
      have hfl2 : (out ++ fin L i).length ≤ i + 1 := by
        unfold fin
        rw [List.length_append]
        split <;> simp <;> omega
      refine AWP.join (σ' := ⟨[(0, ⟨.str, s⟩), (3, ⟨.obuf (.slice wd), (0 : Nat)⟩), (5, ⟨i64, ((i + 1 : Nat) : Int)⟩), (6, ⟨i64, (i : Int)⟩)], [(0, some (.buf 115 (.slice wd) (out ++ fin L i)))], 1⟩) ?_ ?_
      · (repeat (first | refine AWP.seq ?_ | refine AWP.skip ?_ | refine AWP.label ?_ | refine AWP.exit ?_ | refine AWP.block ?_ | refine AWP.region hX pK_ok rfl trivial ?_ | refine AWP.region hX pK_ok rfl id ?_ | refine AWP.region hX pK_ok rfl ⟨id, id⟩ ?_))
        refine AWP.cond rfl (fun hb => ?_) (fun hb => ?_)
        · have hq : decide (((L.length : Nat) : Int) > 0) = true := hb
          have hq := of_decide_eq_true hq
          have hne : L ≠ [] := fun e => by rw [e] at hq; simp at hq
          (repeat (first | refine AWP.seq ?_ | refine AWP.skip ?_ | refine AWP.block ?_ | refine AWP.exit ?_)); refine AWP.region hX pK_ok rfl ?_ ?_
          · show L.length + 1 ≤ 1000000000
            omega
          (repeat (first | refine AWP.seq ?_ | refine AWP.skip ?_ | refine AWP.block ?_ | refine AWP.exit ?_)); refine AWP.region hX pK_ok rfl ?_ ?_
          · show out.length + 1 ≤ 1000000000
            omega
          refine ⟨⟨rfl, rfl, rfl, rfl, trivial⟩, ⟨bufWds ?_, trivial⟩, rfl, rfl⟩
          unfold fin
          rw [if_neg hne]
          rfl
        · have hq : decide (((L.length : Nat) : Int) > 0) = false := hb
          have hq := of_decide_eq_false hq
          have hne : L = [] := List.eq_nil_of_length_eq_zero (by omega)
          (repeat (first | refine AWP.seq ?_ | refine AWP.skip ?_ | refine AWP.label ?_ | refine AWP.exit ?_ | refine AWP.block ?_ | refine AWP.region hX pK_ok rfl trivial ?_ | refine AWP.region hX pK_ok rfl id ?_ | refine AWP.region hX pK_ok rfl ⟨id, id⟩ ?_))
          refine ⟨⟨rfl, rfl, rfl, rfl, trivial⟩, ⟨bufWds ?_, trivial⟩, rfl, rfl⟩
          unfold fin
          rw [if_pos hne, List.append_nil]
      · (repeat (first | refine AWP.seq ?_ | refine AWP.skip ?_ | refine AWP.label ?_ | refine AWP.exit ?_ | refine AWP.block ?_ | refine AWP.region hX pK_ok rfl trivial ?_ | refine AWP.region hX pK_ok rfl id ?_ | refine AWP.region hX pK_ok rfl ⟨id, id⟩ ?_))
        (repeat (first | refine AWP.seq ?_ | refine AWP.skip ?_ | refine AWP.block ?_ | refine AWP.exit ?_)); refine AWP.region hX pK_ok rfl ?_ ?_
        · exact inR_succ (by omega)
        refine ⟨(i + 1, i + 1, [], out ++ fin L i), ⟨Nat.zero_le _, hfl2, ?_⟩, by show s.length + 1 - (i + 1) < s.length + 1 - i; omega, ⟨rfl, rfl, rfl, rfl, vSucc _, trivial⟩, ⟨rfl, rfl, trivial⟩, rfl, rfl⟩
        rcases hfin with ⟨h1, h2⟩ | ⟨hlt, h1⟩
        · exact .inr ⟨by show i + 1 = s.length + 1; omega, h1⟩
        · refine .inl ⟨Nat.le_refl _, by show i + 1 ≤ s.length; omega, ?_⟩
          show out ++ fin L i ++ lnF (s.drop (i + 1)) (i + 1) ((s.take (i + 1)).drop (i + 1)) [] = linesS s
          rw [show (s.take (i + 1)).drop (i + 1) = [] from List.drop_eq_nil_of_le (by rw [List.length_take]; omega)]
          exact h1
    · have h2 : (bif decide ((i : Int) = (s.length : Nat)) then true else decide ((((s.getD (i : Int).toNat 0).toNat : Nat) : Int) = 10)) = false := hb
      have hne : ¬ (i : Int) = (s.length : Nat) := fun e => by rw [decide_eq_true e] at h2; cases h2
      have hlt : i < s.length := by omega
      rw [decide_eq_false hne, getD_at (z := (0 : UInt8)) hlt] at h2
      have h10 : s[i] ≠ 10 := fun e => by rw [e] at h2; cases h2
      have h32 : ¬ (s[i] ≠ 32 ∧ s[i] ≠ 10) := fun h => by
        have := (sepTest s i).2 ⟨hlt, by rw [getD_at (z := (0 : UInt8)) hlt]; exact h.1, by rw [getD_at (z := (0 : UInt8)) hlt]; exact h.2⟩
        exact Bool.noConfusion (this.symm.trans hx)
      rw [List.drop_eq_getElem_cons hlt] at hinv
      unfold lnF at hinv
      rw [if_neg h32, if_neg h10, hLe] at hinv
      (repeat (first | refine AWP.seq ?_ | refine AWP.skip ?_ | refine AWP.label ?_ | refine AWP.exit ?_ | refine AWP.block ?_ | refine AWP.region hX pK_ok rfl trivial ?_ | refine AWP.region hX pK_ok rfl id ?_ | refine AWP.region hX pK_ok rfl ⟨id, id⟩ ?_))
      (repeat (first | refine AWP.seq ?_ | refine AWP.skip ?_ | refine AWP.block ?_ | refine AWP.exit ?_)); refine AWP.region hX pK_ok rfl ?_ ?_
      · exact inR_succ (by omega)
      refine ⟨(i + 1, i + 1, L, out), ⟨hLl, by show out.length ≤ i + 1; omega, .inl ⟨Nat.le_refl _, by show i + 1 ≤ s.length; omega, ?_⟩⟩, by show s.length + 1 - (i + 1) < s.length + 1 - i; omega, ⟨rfl, rfl, rfl, rfl, vSucc _, trivial⟩, ⟨rfl, rfl, trivial⟩, rfl, rfl⟩
      show out ++ lnF (s.drop (i + 1)) (i + 1) ((s.take (i + 1)).drop (i + 1)) L = linesS s
      rw [show (s.take (i + 1)).drop (i + 1) = [] from List.drop_eq_nil_of_le (by rw [List.length_take]; omega)]
      exact hinv
  · have hb : decide ((i : Int) ≤ (s.length : Nat)) = false := hb
    have hb := of_decide_eq_false hb
    obtain ⟨_, h⟩ := hinv.resolve_left fun h => by omega
    refine AWP.frz hX 3 ?_
    (repeat (first | refine AWP.seq ?_ | refine AWP.skip ?_ | refine AWP.label ?_ | refine AWP.exit ?_ | refine AWP.block ?_ | refine AWP.region hX pK_ok rfl trivial ?_ | refine AWP.region hX pK_ok rfl id ?_ | refine AWP.region hX pK_ok rfl ⟨id, id⟩ ?_))
    exact AWP.ret ⟨.inr rfl, done1 rfl trivial rfl rfl h⟩
end Go.Proofs.YthkhgpbjfcmopaaGreatDoor
namespace Go.Proofs.YthkhgpbjfcmopaaGreatDoor
open Go Go.RowKit
set_option linter.unusedSimpArgs false
set_option linter.unusedVariables false
set_option maxRecDepth 100000
theorem flush_le (c : List UInt8) (a : Int) (l : List Wd) : (flush c a l).length ≤ l.length + 1 := by unfold flush; split <;> simp
theorem fin_mem {L : List Wd} {i : Nat} {m : List Wd} (h : m ∈ fin L i) : LW m ∧ m.length ≤ L.length + 1 := by
  unfold fin at h
  split at h
  · cases h
  · rw [List.mem_singleton] at h
    subst h
    refine ⟨⟨by simp, ?_⟩, by simp⟩
    rw [List.length_append, List.length_singleton, Nat.add_sub_cancel, List.getD_eq_getElem?_getD, List.getElem?_append_right (Nat.le_refl _), Nat.sub_self]
    rfl
theorem lnF_mem {m : List Wd} : ∀ (r : List UInt8) (i : Nat) (c : List UInt8) (line : List Wd), m ∈ lnF r i c line → LW m ∧ m.length ≤ line.length + r.length + 2
  | [], i, c, line, h => by
    have h1 := fin_mem (show m ∈ fin (flush c ((i - c.length : Nat) : Int) line) i from h)
    have h2 := flush_le c ((i - c.length : Nat) : Int) line
    exact ⟨h1.1, by have := h1.2; simp only [List.length_nil]; omega⟩
  | x :: r, i, c, line, h => by
    have h2 := flush_le c ((i - c.length : Nat) : Int) line
    unfold lnF at h
    split at h
    · have h1 := lnF_mem r _ _ _ h
      exact ⟨h1.1, by have := h1.2; simp only [List.length_cons]; omega⟩
    · split at h
      · rcases List.mem_append.1 h with h | h
        · have h1 := fin_mem h
          exact ⟨h1.1, by have := h1.2; simp only [List.length_cons]; omega⟩
        · have h1 := lnF_mem r _ _ _ h
          exact ⟨h1.1, by have := h1.2; simp only [List.length_nil] at this; simp only [List.length_cons]; omega⟩
      · have h1 := lnF_mem r _ _ _ h
        exact ⟨h1.1, by have := h1.2; simp only [List.length_cons]; omega⟩
/-- the grants of lines, behind k that were read -/
def pF : List (List Wd) → Nat → List Gt → List Gt × Int × Int
  | [], _, acc => (acc, 0, 0)
  | l :: r, k, acc => if k = 64 then ([], wA (l.getD 0 zW), 2) else if rE (grantS (l, 0, 0, 0, ())).2 ≠ 0 then ([], rA (grantS (l, 0, 0, 0, ())).2, rE (grantS (l, 0, 0, 0, ())).2) else pF r (k + 1) (acc ++ [(grantS (l, 0, 0, 0, ())).1])
def parseS (s : List UInt8) : List Gt × Int × Int := if 4000 < s.length then ([], 0, 2) else pF (linesS s) 0 []
def cRParse : Ctr := { args := [.str], pre := fun _ => [], res := .tup po (.tup i64 (.tup i64 .unit)), own := none, out := fun x => (((parseS x.1).1, ()), (parseS x.1).2.1, (parseS x.1).2.2, ()) }
def kPN : Kn := { pK with C := [(66, cLines)], R := [(67, cGrant)], H := [24] }
theorem kPN_ok : KnOk Tryz.prog pG kPN := ⟨pT_ok, pU_ok, .cons rlines_ok .nil, pK_ok.st, .cons rgrant_ok (fun _ _ => trivial) .nil⟩
theorem vLns {x y : List (List Wd)} (h : x = y) : (⟨.slice (.slice wd), x⟩ : V) = ⟨.slice (.slice wd), y⟩ := by rw [h]
set_option maxHeartbeats 4000000 in
theorem rparse_ok : CtrOk Tryz.prog pG 31 cRParse := by
  refine ctr_of_awp (K := kPN) kPN_ok Tryz.func31 rfl rfl Tryz.call31 rfl (by decide) (by intro h; cases h) ?_
  rintro w0 X hX ⟨(s : List UInt8), _⟩ hp
  change AWP _ _ _ _ _ ⟨[(0, ⟨.str, s⟩)], [], 0⟩ _
  (repeat (first | refine AWP.seq ?_ | refine AWP.skip ?_ | refine AWP.label ?_ | refine AWP.exit ?_ | refine AWP.block ?_ | refine AWP.region hX kPN_ok rfl trivial ?_ | refine AWP.region hX kPN_ok rfl id ?_ | refine AWP.region hX kPN_ok rfl ⟨id, id⟩ ?_))
  refine AWP.cond rfl (fun hb => ?_) (fun hb => ?_)
  · have hb : decide (((s.length : Nat) : Int) > 4000) = true := hb
    have hb := of_decide_eq_true hb
    have hP : parseS s = ([], 0, 2) := if_pos (by omega)
    (repeat (first | refine AWP.seq ?_ | refine AWP.skip ?_ | refine AWP.label ?_ | refine AWP.exit ?_ | refine AWP.block ?_ | refine AWP.region hX kPN_ok rfl trivial ?_ | refine AWP.region hX kPN_ok rfl id ?_ | refine AWP.region hX kPN_ok rfl ⟨id, id⟩ ?_))
    refine AWP.ret ⟨.inr rfl, done2 (by decide) rfl rfl trivial ?_⟩
    show (([], ()), 0, 2, ()) = (((parseS s).1, ()), (parseS s).2.1, (parseS s).2.2, ())
    rw [hP]
  have hb : decide (((s.length : Nat) : Int) > 4000) = false := hb
  have hb := of_decide_eq_false hb
  have hP : parseS s = pF (linesS s) 0 [] := if_neg (by omega)
  (repeat (first | refine AWP.seq ?_ | refine AWP.skip ?_ | refine AWP.block ?_ | refine AWP.exit ?_)); refine AWP.region hX kPN_ok rfl ?_ ?_
  · show s.length ≤ 100000
    omega
  (repeat (first | refine AWP.seq ?_ | refine AWP.skip ?_ | refine AWP.label ?_ | refine AWP.exit ?_ | refine AWP.block ?_ | refine AWP.region hX kPN_ok rfl trivial ?_ | refine AWP.region hX kPN_ok rfl id ?_ | refine AWP.region hX kPN_ok rfl ⟨id, id⟩ ?_))
  refine AWP.nilLeaf 1 0 49 gr rfl rfl rfl ?_
  have hmem : ∀ m ∈ linesS s, LW m ∧ m.length ≤ 10000 := fun m hm => by
    have := lnF_mem s 0 [] [] hm
    refine ⟨this.1, ?_⟩
    have := this.2
    simp only [List.length_nil] at this
    omega
  generalize hL : linesS s = L at hP hmem
  refine AWP.loop (ι := Nat × List Gt) (fun t => ⟨[(2, ⟨.hptr, (0, 0)⟩), (5, ⟨.slice (.slice wd), L⟩), (6, ⟨.hptr, (1, 0)⟩), (7, ⟨i64, (t.1 : Int)⟩)], [(0, some (.hbox [⟨.lit, .slice none 0 0⟩])), (1, some (.hbox [⟨.obuf gr, (2 : Nat)⟩])), (2, some (.buf 49 gr t.2))], 3⟩) (fun t => t.1 ≤ 64 ∧ t.1 ≤ L.length ∧ t.2.length ≤ t.1 ∧ pF (L.drop t.1) t.1 t.2 = parseS s) (fun t => L.length - t.1) (0, []) ⟨by omega, by omega, by simp, hP.symm⟩ ⟨⟨rfl, vLns hL, rfl, rfl, trivial⟩, ⟨rfl, rfl, rfl, trivial⟩, rfl, rfl⟩ ?_
  rintro ⟨k, acc⟩ ⟨hk64, hk, hacc, hinv⟩
  have hk64 : k ≤ 64 := hk64
  have hk : k ≤ L.length := hk
  have hacc : acc.length ≤ k := hacc
  have hinv : pF (L.drop k) k acc = parseS s := hinv
  (repeat (first | refine AWP.seq ?_ | refine AWP.skip ?_ | refine AWP.block ?_ | refine AWP.exit ?_)); refine AWP.region hX kPN_ok rfl ?_ ?_
  · trivial
  refine AWP.cond rfl (fun hb => ?_) (fun hb => ?_)
  · have hb : decide ((k : Int) < (L.length : Nat)) = true := hb
    have hb := of_decide_eq_true hb
    have hlt : k < L.length := by omega
    have n0 : (0 : Int) ≤ (k : Int) := by omega
    have hd : L.drop k = L[k] :: L.drop (k + 1) := List.drop_eq_getElem_cons hlt
    have hm := hmem _ (List.getElem_mem hlt)
    have hG : L.getD (k : Int).toNat [] = L[k] := getD_at hlt
    rw [hd] at hinv
    generalize L[k] = l at hinv hm hG
    unfold pF at hinv
    (repeat (first | refine AWP.seq ?_ | refine AWP.skip ?_ | refine AWP.label ?_ | refine AWP.exit ?_ | refine AWP.block ?_ | refine AWP.region hX kPN_ok rfl trivial ?_ | refine AWP.region hX kPN_ok rfl id ?_ | refine AWP.region hX kPN_ok rfl ⟨id, id⟩ ?_))
    refine AWP.cond rfl (fun hb => ?_) (fun hb => ?_)
    · have hq : decide ((k : Int) = 64) = true := hb
      have hq := of_decide_eq_true hq
      rw [if_pos (by omega)] at hinv
      have hl0 : (0 : Int) < ((L.getD (k : Int).toNat []).length : Nat) := by rw [hG]; have := hm.1.1; omega
      have cs : allP [(0 : Int) ≤ (k : Int), (k : Int) < ((L.length : Nat) : Int), (0 : Int) ≤ 0, (0 : Int) < ((L.getD (k : Int).toNat []).length : Nat)] := ⟨n0, (by omega : (k : Int) < ((L.length : Nat) : Int)), Int.le_refl _, hl0⟩
      (repeat (first | refine AWP.seq ?_ | refine AWP.skip ?_ | refine AWP.block ?_ | refine AWP.exit ?_)); refine AWP.orders (σ' := ⟨[(2, ⟨.hptr, (0, 0)⟩), (3, ⟨i64, wA (l.getD 0 zW)⟩), (4, ⟨i64, (2 : Int)⟩)], [(0, some (.hbox [⟨.lit, .slice none 0 0⟩]))], 3⟩) dM hX kPN_ok 11 rfl (by kernel_rfl) [[0, 1, 2, 3, 4, 5, 6, 7, 8, 9, 10], [0, 1, 2, 3, 4, 5, 6, 8, 7, 9, 10], [0, 1, 2, 3, 4, 5, 8, 6, 7, 9, 10], [0, 1, 2, 3, 4, 8, 5, 6, 7, 9, 10], [0, 1, 2, 3, 8, 4, 5, 6, 7, 9, 10], [0, 1, 2, 8, 3, 4, 5, 6, 7, 9, 10], [0, 1, 8, 2, 3, 4, 5, 6, 7, 9, 10], [0, 2, 1, 3, 4, 5, 6, 7, 8, 9, 10], [0, 2, 1, 3, 4, 5, 6, 8, 7, 9, 10], [0, 2, 1, 3, 4, 5, 8, 6, 7, 9, 10], [0, 2, 1, 3, 4, 8, 5, 6, 7, 9, 10], [0, 2, 1, 3, 8, 4, 5, 6, 7, 9, 10], [0, 2, 1, 8, 3, 4, 5, 6, 7, 9, 10], [0, 2, 8, 1, 3, 4, 5, 6, 7, 9, 10], [0, 8, 1, 2, 3, 4, 5, 6, 7, 9, 10], [0, 8, 2, 1, 3, 4, 5, 6, 7, 9, 10], [1, 0, 2, 3, 4, 5, 6, 7, 8, 9, 10], [1, 0, 2, 3, 4, 5, 6, 8, 7, 9, 10], [1, 0, 2, 3, 4, 5, 8, 6, 7, 9, 10], [1, 0, 2, 3, 4, 8, 5, 6, 7, 9, 10], [1, 0, 2, 3, 8, 4, 5, 6, 7, 9, 10], [1, 0, 2, 8, 3, 4, 5, 6, 7, 9, 10], [1, 0, 8, 2, 3, 4, 5, 6, 7, 9, 10], [1, 2, 0, 3, 4, 5, 6, 7, 8, 9, 10], [1, 2, 0, 3, 4, 5, 6, 8, 7, 9, 10], [1, 2, 0, 3, 4, 5, 8, 6, 7, 9, 10], [1, 2, 0, 3, 4, 8, 5, 6, 7, 9, 10], [1, 2, 0, 3, 8, 4, 5, 6, 7, 9, 10], [1, 2, 0, 8, 3, 4, 5, 6, 7, 9, 10], [1, 2, 3, 0, 4, 5, 6, 7, 8, 9, 10], [1, 2, 3, 0, 4, 5, 6, 8, 7, 9, 10], [1, 2, 3, 0, 4, 5, 8, 6, 7, 9, 10], [1, 2, 3, 0, 4, 8, 5, 6, 7, 9, 10], [1, 2, 3, 0, 8, 4, 5, 6, 7, 9, 10], [1, 2, 3, 4, 0, 5, 6, 7, 8, 9, 10], [1, 2, 3, 4, 0, 5, 6, 8, 7, 9, 10], [1, 2, 3, 4, 0, 5, 8, 6, 7, 9, 10], [1, 2, 3, 4, 0, 8, 5, 6, 7, 9, 10], [1, 2, 3, 4, 5, 0, 6, 7, 8, 9, 10], [1, 2, 3, 4, 5, 0, 6, 8, 7, 9, 10], [1, 2, 3, 4, 5, 0, 8, 6, 7, 9, 10], [1, 2, 3, 4, 5, 6, 0, 7, 8, 9, 10], [1, 2, 3, 4, 5, 6, 0, 8, 7, 9, 10], [1, 2, 3, 4, 5, 6, 7, 0, 8, 9, 10], [2, 0, 1, 3, 4, 5, 6, 7, 8, 9, 10], [2, 0, 1, 3, 4, 5, 6, 8, 7, 9, 10], [2, 0, 1, 3, 4, 5, 8, 6, 7, 9, 10], [2, 0, 1, 3, 4, 8, 5, 6, 7, 9, 10], [2, 0, 1, 3, 8, 4, 5, 6, 7, 9, 10], [2, 0, 1, 8, 3, 4, 5, 6, 7, 9, 10], [2, 0, 8, 1, 3, 4, 5, 6, 7, 9, 10], [2, 1, 0, 3, 4, 5, 6, 7, 8, 9, 10], [2, 1, 0, 3, 4, 5, 6, 8, 7, 9, 10], [2, 1, 0, 3, 4, 5, 8, 6, 7, 9, 10], [2, 1, 0, 3, 4, 8, 5, 6, 7, 9, 10], [2, 1, 0, 3, 8, 4, 5, 6, 7, 9, 10], [2, 1, 0, 8, 3, 4, 5, 6, 7, 9, 10], [2, 1, 3, 0, 4, 5, 6, 7, 8, 9, 10], [2, 1, 3, 0, 4, 5, 6, 8, 7, 9, 10], [2, 1, 3, 0, 4, 5, 8, 6, 7, 9, 10], [2, 1, 3, 0, 4, 8, 5, 6, 7, 9, 10], [2, 1, 3, 0, 8, 4, 5, 6, 7, 9, 10], [2, 1, 3, 4, 0, 5, 6, 7, 8, 9, 10], [2, 1, 3, 4, 0, 5, 6, 8, 7, 9, 10], [2, 1, 3, 4, 0, 5, 8, 6, 7, 9, 10], [2, 1, 3, 4, 0, 8, 5, 6, 7, 9, 10], [2, 1, 3, 4, 5, 0, 6, 7, 8, 9, 10], [2, 1, 3, 4, 5, 0, 6, 8, 7, 9, 10], [2, 1, 3, 4, 5, 0, 8, 6, 7, 9, 10], [2, 1, 3, 4, 5, 6, 0, 7, 8, 9, 10], [2, 1, 3, 4, 5, 6, 0, 8, 7, 9, 10], [2, 1, 3, 4, 5, 6, 7, 0, 8, 9, 10]] (by kernel_rfl) ?_ ?_
      · repeat' (first | exact AllL.nil | exact cs | refine AllL.cons (LinOk.mk rfl ?_ ⟨⟨rfl, vI64 (congrArg (fun z : List Wd => wA (z.getD 0 zW)) hG), rfl, trivial⟩, ⟨rfl, trivial⟩, rfl, rfl⟩) ?_)
      refine AWP.ret ⟨.inr rfl, done2 (by decide) rfl rfl trivial ?_⟩
      show (([], ()), wA (l.getD 0 zW), 2, ()) = (((parseS s).1, ()), (parseS s).2.1, (parseS s).2.2, ())
      rw [← hinv]
    have hq : decide ((k : Int) = 64) = false := hb
    have hq := of_decide_eq_false hq
    rw [if_neg (by omega)] at hinv
    (repeat (first | refine AWP.seq ?_ | refine AWP.skip ?_ | refine AWP.block ?_ | refine AWP.exit ?_)); refine AWP.region hX kPN_ok rfl ?_ ?_
    · exact ⟨n0, by assumption⟩
    have hgl : rL (l, 0, 0, 0, ()) = l := rfl
    refine AWP.fit (σ' := ⟨[(2, ⟨.hptr, (0, 0)⟩), (5, ⟨.slice (.slice wd), L⟩), (6, ⟨.hptr, (1, 0)⟩), (7, ⟨i64, (k : Int)⟩), (8, ⟨.optr rr, ⟨3, rr, .here⟩⟩)], [(0, some (.hbox [⟨.lit, .slice none 0 0⟩])), (1, some (.hbox [⟨.obuf gr, (2 : Nat)⟩])), (2, some (.buf 49 gr acc)), (3, some (.box rr (l, 0, 0, 0, ())))], 4⟩) ⟨⟨rfl, rfl, rfl, rfl, rfl, trivial⟩, ⟨rfl, rfl, rfl, boxRd (congrArg (fun z : List Wd => ((z, 0, 0, 0, ()) : Rd)) hG), trivial⟩, rfl, rfl⟩ ?_
    (repeat (first | refine AWP.seq ?_ | refine AWP.skip ?_ | refine AWP.block ?_ | refine AWP.exit ?_)); refine AWP.region hX kPN_ok rfl ?_ ?_
    · exact ⟨.inr ⟨Int.le_refl _, by show (0 : Int) < (l.length : Nat); have := hm.1.1; omega⟩, hm.1, hm.2⟩
    generalize hS : grantS (l, 0, 0, 0, ()) = S at hinv
    obtain ⟨g, r⟩ := S
    obtain ⟨(rl : List Wd), (ri : Int), (ra : Int), (re : Int), _⟩ := r
    refine AWP.fit (σ' := ⟨[(2, ⟨.hptr, (0, 0)⟩), (5, ⟨.slice (.slice wd), L⟩), (6, ⟨.hptr, (1, 0)⟩), (7, ⟨i64, (k : Int)⟩), (8, ⟨.optr rr, ⟨3, rr, .here⟩⟩), (9, ⟨.optr gr, ⟨4, gr, .here⟩⟩)], [(0, some (.hbox [⟨.lit, .slice none 0 0⟩])), (1, some (.hbox [⟨.obuf gr, (2 : Nat)⟩])), (2, some (.buf 49 gr acc)), (3, some (.box rr (rl, ri, ra, re, ()))), (4, some (.box gr g))], 5⟩) ⟨⟨rfl, rfl, rfl, rfl, rfl, rfl, trivial⟩, ⟨rfl, rfl, rfl, boxRd (congrArg (fun z => z.2) hS), boxGr (congrArg (fun z => z.1) hS), trivial⟩, rfl, rfl⟩ ?_
    have hinv : (if re ≠ 0 then (([], ra, re) : List Gt × Int × Int) else pF (L.drop (k + 1)) (k + 1) (acc ++ [g])) = parseS s := hinv
    (repeat (first | refine AWP.seq ?_ | refine AWP.skip ?_ | refine AWP.label ?_ | refine AWP.exit ?_ | refine AWP.block ?_ | refine AWP.region hX kPN_ok rfl trivial ?_ | refine AWP.region hX kPN_ok rfl id ?_ | refine AWP.region hX kPN_ok rfl ⟨id, id⟩ ?_))
    refine AWP.cond rfl (fun hb => ?_) (fun hb => ?_)
    · have hq : (!decide (re = 0)) = true := hb
      simp at hq
      rw [if_pos hq] at hinv
      (repeat (first | refine AWP.seq ?_ | refine AWP.skip ?_ | refine AWP.block ?_ | refine AWP.exit ?_)); refine AWP.orders (σ' := ⟨[(2, ⟨.hptr, (0, 0)⟩), (3, ⟨i64, ra⟩), (4, ⟨i64, re⟩)], [(0, some (.hbox [⟨.lit, .slice none 0 0⟩]))], 3⟩) dM hX kPN_ok 8 rfl (by kernel_rfl) [[0, 1, 2, 3, 4, 5, 6, 7], [0, 1, 2, 3, 5, 4, 6, 7], [0, 1, 2, 3, 5, 6, 4, 7], [0, 1, 2, 5, 3, 4, 6, 7], [0, 1, 2, 5, 3, 6, 4, 7], [0, 1, 2, 5, 6, 3, 4, 7], [0, 1, 3, 2, 4, 5, 6, 7], [0, 1, 3, 2, 5, 4, 6, 7], [0, 1, 3, 2, 5, 6, 4, 7], [0, 1, 3, 4, 2, 5, 6, 7], [0, 1, 3, 4, 5, 2, 6, 7], [0, 1, 3, 5, 2, 4, 6, 7], [0, 1, 3, 5, 2, 6, 4, 7], [0, 1, 3, 5, 4, 2, 6, 7], [0, 1, 5, 2, 3, 4, 6, 7], [0, 1, 5, 2, 3, 6, 4, 7], [0, 1, 5, 2, 6, 3, 4, 7], [0, 1, 5, 3, 2, 4, 6, 7], [0, 1, 5, 3, 2, 6, 4, 7], [0, 1, 5, 3, 4, 2, 6, 7], [0, 3, 1, 2, 4, 5, 6, 7], [0, 3, 1, 2, 5, 4, 6, 7], [0, 3, 1, 2, 5, 6, 4, 7], [0, 3, 1, 4, 2, 5, 6, 7], [0, 3, 1, 4, 5, 2, 6, 7], [0, 3, 1, 5, 2, 4, 6, 7], [0, 3, 1, 5, 2, 6, 4, 7], [0, 3, 1, 5, 4, 2, 6, 7], [0, 3, 4, 1, 2, 5, 6, 7], [0, 3, 4, 1, 5, 2, 6, 7], [0, 3, 4, 5, 1, 2, 6, 7], [0, 3, 5, 1, 2, 4, 6, 7], [0, 3, 5, 1, 2, 6, 4, 7], [0, 3, 5, 1, 4, 2, 6, 7], [0, 3, 5, 4, 1, 2, 6, 7], [0, 5, 1, 2, 3, 4, 6, 7], [0, 5, 1, 2, 3, 6, 4, 7], [0, 5, 1, 2, 6, 3, 4, 7], [0, 5, 1, 3, 2, 4, 6, 7], [0, 5, 1, 3, 2, 6, 4, 7], [0, 5, 1, 3, 4, 2, 6, 7], [0, 5, 3, 1, 2, 4, 6, 7], [0, 5, 3, 1, 2, 6, 4, 7], [0, 5, 3, 1, 4, 2, 6, 7], [0, 5, 3, 4, 1, 2, 6, 7], [1, 0, 2, 3, 4, 5, 6, 7], [1, 0, 2, 3, 5, 4, 6, 7], [1, 0, 2, 3, 5, 6, 4, 7], [1, 0, 2, 5, 3, 4, 6, 7], [1, 0, 2, 5, 3, 6, 4, 7], [1, 0, 2, 5, 6, 3, 4, 7], [1, 0, 3, 2, 4, 5, 6, 7], [1, 0, 3, 2, 5, 4, 6, 7], [1, 0, 3, 2, 5, 6, 4, 7], [1, 0, 3, 4, 2, 5, 6, 7], [1, 0, 3, 4, 5, 2, 6, 7], [1, 0, 3, 5, 2, 4, 6, 7], [1, 0, 3, 5, 2, 6, 4, 7], [1, 0, 3, 5, 4, 2, 6, 7], [1, 0, 5, 2, 3, 4, 6, 7], [1, 0, 5, 2, 3, 6, 4, 7], [1, 0, 5, 2, 6, 3, 4, 7], [1, 0, 5, 3, 2, 4, 6, 7], [1, 0, 5, 3, 2, 6, 4, 7], [1, 0, 5, 3, 4, 2, 6, 7], [1, 2, 0, 3, 4, 5, 6, 7], [1, 2, 0, 3, 5, 4, 6, 7], [1, 2, 0, 3, 5, 6, 4, 7], [1, 2, 0, 5, 3, 4, 6, 7], [1, 2, 0, 5, 3, 6, 4, 7], [1, 2, 0, 5, 6, 3, 4, 7], [1, 2, 3, 0, 4, 5, 6, 7], [1, 2, 3, 0, 5, 4, 6, 7], [1, 2, 3, 0, 5, 6, 4, 7], [1, 2, 3, 4, 0, 5, 6, 7], [1, 3, 0, 2, 4, 5, 6, 7], [1, 3, 0, 2, 5, 4, 6, 7], [1, 3, 0, 2, 5, 6, 4, 7], [1, 3, 0, 4, 2, 5, 6, 7], [1, 3, 0, 4, 5, 2, 6, 7], [1, 3, 0, 5, 2, 4, 6, 7], [1, 3, 0, 5, 2, 6, 4, 7], [1, 3, 0, 5, 4, 2, 6, 7], [1, 3, 2, 0, 4, 5, 6, 7], [1, 3, 2, 0, 5, 4, 6, 7], [1, 3, 2, 0, 5, 6, 4, 7], [1, 3, 2, 4, 0, 5, 6, 7], [1, 3, 4, 0, 2, 5, 6, 7], [1, 3, 4, 0, 5, 2, 6, 7], [1, 3, 4, 2, 0, 5, 6, 7], [3, 0, 1, 2, 4, 5, 6, 7], [3, 0, 1, 2, 5, 4, 6, 7], [3, 0, 1, 2, 5, 6, 4, 7], [3, 0, 1, 4, 2, 5, 6, 7], [3, 0, 1, 4, 5, 2, 6, 7], [3, 0, 1, 5, 2, 4, 6, 7], [3, 0, 1, 5, 2, 6, 4, 7], [3, 0, 1, 5, 4, 2, 6, 7], [3, 0, 4, 1, 2, 5, 6, 7], [3, 0, 4, 1, 5, 2, 6, 7], [3, 0, 4, 5, 1, 2, 6, 7], [3, 0, 5, 1, 2, 4, 6, 7], [3, 0, 5, 1, 2, 6, 4, 7], [3, 0, 5, 1, 4, 2, 6, 7], [3, 0, 5, 4, 1, 2, 6, 7], [3, 1, 0, 2, 4, 5, 6, 7], [3, 1, 0, 2, 5, 4, 6, 7], [3, 1, 0, 2, 5, 6, 4, 7], [3, 1, 0, 4, 2, 5, 6, 7], [3, 1, 0, 4, 5, 2, 6, 7], [3, 1, 0, 5, 2, 4, 6, 7], [3, 1, 0, 5, 2, 6, 4, 7], [3, 1, 0, 5, 4, 2, 6, 7], [3, 1, 2, 0, 4, 5, 6, 7], [3, 1, 2, 0, 5, 4, 6, 7], [3, 1, 2, 0, 5, 6, 4, 7], [3, 1, 2, 4, 0, 5, 6, 7], [3, 1, 4, 0, 2, 5, 6, 7], [3, 1, 4, 0, 5, 2, 6, 7], [3, 1, 4, 2, 0, 5, 6, 7], [3, 4, 0, 1, 2, 5, 6, 7], [3, 4, 0, 1, 5, 2, 6, 7], [3, 4, 0, 5, 1, 2, 6, 7], [3, 4, 1, 0, 2, 5, 6, 7], [3, 4, 1, 0, 5, 2, 6, 7], [3, 4, 1, 2, 0, 5, 6, 7]] (by kernel_rfl) ?_ ?_
      · repeat' (first | exact AllL.nil | exact trivial | refine AllL.cons (LinOk.mk rfl ?_ ⟨⟨rfl, rfl, rfl, trivial⟩, ⟨rfl, trivial⟩, rfl, rfl⟩) ?_)
      refine AWP.ret ⟨.inr rfl, done2 (by decide) rfl rfl trivial ?_⟩
      show (([], ()), ra, re, ()) = (((parseS s).1, ()), (parseS s).2.1, (parseS s).2.2, ())
      rw [← hinv]
    · have hq : (!decide (re = 0)) = false := hb
      simp at hq
      rw [if_neg (fun h => h hq)] at hinv
      (repeat (first | refine AWP.seq ?_ | refine AWP.skip ?_ | refine AWP.block ?_ | refine AWP.exit ?_)); refine AWP.region hX kPN_ok rfl ?_ ?_
      · show acc.length + 1 ≤ 1000000000
        omega
      (repeat (first | refine AWP.seq ?_ | refine AWP.skip ?_ | refine AWP.block ?_ | refine AWP.exit ?_)); refine AWP.region hX kPN_ok rfl ?_ ?_
      · exact inR_succ (by omega)
      exact ⟨(k + 1, acc ++ [g]), ⟨by show k + 1 ≤ 64; omega, by show k + 1 ≤ L.length; omega, by show (acc ++ [g]).length ≤ k + 1; rw [List.length_append, List.length_singleton]; omega, hinv⟩, by show L.length - (k + 1) < L.length - k; omega, ⟨rfl, rfl, rfl, vSucc _, trivial⟩, ⟨rfl, rfl, rfl, trivial⟩, rfl, rfl⟩
  · have hb : decide ((k : Int) < (L.length : Nat)) = false := hb
    have hb := of_decide_eq_false hb
    have : k = L.length := by omega
    subst this
    rw [List.drop_length] at hinv
    unfold pF at hinv
    refine AWP.frzL hX 1 0 ?_
    (repeat (first | refine AWP.seq ?_ | refine AWP.skip ?_ | refine AWP.label ?_ | refine AWP.exit ?_ | refine AWP.block ?_ | refine AWP.region hX kPN_ok rfl trivial ?_ | refine AWP.region hX kPN_ok rfl id ?_ | refine AWP.region hX kPN_ok rfl ⟨id, id⟩ ?_))
    refine AWP.ret ⟨.inr rfl, done2 (by decide) rfl rfl trivial ?_⟩
    show ((acc, ()), 0, 0, ()) = (((parseS s).1, ()), (parseS s).2.1, (parseS s).2.2, ())
    rw [← hinv]
end Go.Proofs.YthkhgpbjfcmopaaGreatDoor
