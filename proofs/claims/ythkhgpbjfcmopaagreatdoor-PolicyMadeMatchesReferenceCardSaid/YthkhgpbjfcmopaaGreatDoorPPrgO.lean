/-
  Package policy: one round of Parse.
-/
import Derived.Test.YthkhgpbjfcmopaaGreatDoorPPrgN
namespace Go.Proofs.YthkhgpbjfcmopaaGreatDoor
open Go Go.RowKit
set_option linter.unusedSimpArgs false
set_option linter.unusedVariables false
set_option linter.unusedSimpArgs false
set_option linter.unusedVariables false
set_option maxRecDepth 100000
/-- what one line does to the grants so far -/
def stepP (y : List UInt8) (i : Nat) (acc : List Gt) : Except (Int × Int) (List Gt) :=
  if (splitS y i).length = 1 then .ok acc else if acc.length = 64 then .error (hdA (splitS y i), 2) else match grantW (splitS y i) with
    | .error e => .error e
    | .ok g => .ok (acc ++ [g.1])
def sPE (i : Nat) (acc : List Gt) : Owns := [(0, some (.hbox [⟨.obuf gr, (4 : Nat)⟩])), (1, some (.box i64 (0 : Int))), (2, some (.box i64 (0 : Int))), (3, some (.box i64 (i : Int))), (4, some (.buf 49 gr acc))]
def sPF (y : List UInt8) : List (Nat × V) := [(2, ⟨.hptr, (0, 0)⟩), (3, ⟨.optr i64, ⟨1, i64, .here⟩⟩), (4, ⟨.optr i64, ⟨2, i64, .here⟩⟩), (5, ⟨.optr i64, ⟨3, i64, .here⟩⟩), (6, ⟨.str, y⟩)]
abbrev XP (O : Nat → Prop) (fix : Nat → Nat) (D : List Deferred) (ρ : Option Nat) : Ownr := { G := pH, X := O, K := 4, fix := fix, D := D, ρ := ρ }
def findR : Code → Option (Code × Code)
  | .rangeFunc _ _ a b => some (a, b)
  | .seq x y => match findR x with
    | some r => some r
    | none => findR y
  | .block _ c => findR c
  | _ => none
noncomputable def pBody : Code := match findR (Tryz.f30.body.getD .skip) with
  | some r => r.2
  | none => .skip
def kHS : Kn := { pK with C := [(63, cSplit)], H := [24] }
theorem kHS_ok : KnOk Tryz.prog pH kHS := ⟨pT_ok, pU_ok, .cons split_ok.lift .nil, pH_st, .nil⟩
def roundEnd (e : Exit) (σ : AS) (i : Nat) (acc : List Gt) : Except (Int × Int) (List Gt) → Prop
  | .ok acc' => e = .normal ∧ Fit σ ⟨[], sPE i acc', 5⟩
  | .error er => e = .panic [{ v := pv er, recovered := false }] ∧ Fit σ ⟨[], sPE i acc, 5⟩
def sPW (ws : List Wd) (j : Nat) (acc : List Gt) : AS := ⟨[(2, ⟨.hptr, (0, 0)⟩), (3, ⟨.optr i64, ⟨1, i64, .here⟩⟩), (4, ⟨.optr i64, ⟨2, i64, .here⟩⟩), (5, ⟨.optr i64, ⟨3, i64, .here⟩⟩), (7, ⟨.slice wd, ws⟩)], sPE j acc, 5⟩
def sPR (ws : List Wd) (j : Nat) (acc : List Gt) : AS := ⟨[(2, ⟨.hptr, (0, 0)⟩), (8, ⟨.optr rd, ⟨5, rd, .here⟩⟩)], [(0, some (.hbox [⟨.obuf gr, (4 : Nat)⟩])), (1, some (.box i64 (0 : Int))), (2, some (.box i64 (0 : Int))), (3, some (.box i64 (j : Int))), (4, some (.buf 49 gr acc)), (5, some (.box rd (ws, ())))], 6⟩
theorem boxI {x y : Int} (h : x = y) : some (OObj.box i64 x) = some (OObj.box i64 y) := by rw [h]
set_option maxHeartbeats 600000 in
theorem pround_awp {B : World} {O : Nat → Prop} {fix : Nat → Nat} {ρ : Option Nat} (hX : (XP O fix [] ρ).Ok B) (hN : ∀ w g, (B.heap.size ≤ g ∨ (XP O fix [] ρ).R g) → pH w → pN w g) (y : List UInt8) (i : Nat) (acc : List Gt) (hy : y.length ≤ 4000) (hi : i ≤ 5000) (hacc : acc.length ≤ 64) (hw : WW (splitS y i)) :
    AWP Tryz.prog B (XP O fix [] ρ) 42 pBody ⟨sPF y, sPE i acc, 5⟩ (fun e σ => roundEnd e σ (i + y.length + 1) acc (stepP y i acc)) := by
  unfold sPF sPE
  refine AWP.block ?_
  have n0 : (0 : Int) ≤ (i : Int) := by omega
  (repeat (first | refine AWP.seq ?_ | refine AWP.skip ?_ | refine AWP.block ?_ | refine AWP.exit ?_)); refine AWP.region hX kHS_ok rfl ?_ ?_
  · exact ⟨by show y.length ≤ 100000; omega, n0, by show (i : Int) ≤ 100000; omega⟩
  (repeat (first | refine AWP.seq ?_ | refine AWP.skip ?_ | refine AWP.block ?_ | refine AWP.exit ?_)); refine AWP.region hX kHS_ok rfl ?_ ?_
  · exact ⟨inR_small (by show _ ≤ ((y.length : Nat) : Int) + 1; omega) (by show ((y.length : Nat) : Int) + 1 ≤ _; omega), inR_small (by show _ ≤ (i : Int) + (((y.length : Nat) : Int) + 1); omega) (by show (i : Int) + (((y.length : Nat) : Int) + 1) ≤ _; omega)⟩
  have hend : (i : Int) + (((y.length : Nat) : Int) + 1) = ((i + y.length + 1 : Nat) : Int) := by omega
  refine AWP.fit (σ' := sPW (splitS y i) (i + y.length + 1) acc) ⟨⟨rfl, rfl, rfl, rfl, rfl, trivial⟩, ⟨rfl, rfl, rfl, boxI hend, rfl, trivial⟩, rfl, rfl⟩ ?_
  unfold stepP
  generalize splitS y i = ws at hw ⊢
  generalize i + y.length + 1 = j
  have hwp := hw.pos
  have htest : decide (((ws.length : Nat) : Int) = 1) = decide (ws.length = 1) := by
    by_cases h : ws.length = 1
    · rw [decide_eq_true h, decide_eq_true (by omega)]
    · rw [decide_eq_false h, decide_eq_false (by omega)]
  unfold sPW sPE
  (repeat (first | refine AWP.seq ?_ | refine AWP.skip ?_ | refine AWP.label ?_ | refine AWP.exit ?_ | refine AWP.block ?_ | refine AWP.region hX kHS_ok rfl trivial ?_ | refine AWP.region hX kHS_ok rfl id ?_ | refine AWP.region hX kHS_ok rfl ⟨id, id⟩ ?_))
  refine AWP.cond rfl (fun hb => ?_) (fun hb => ?_)
  · have hb : decide (((ws.length : Nat) : Int) = 1) = true := hb
    rw [htest] at hb
    rw [if_pos (of_decide_eq_true hb)]
    (repeat (first | refine AWP.seq ?_ | refine AWP.skip ?_ | refine AWP.label ?_ | refine AWP.exit ?_ | refine AWP.block ?_ | refine AWP.region hX kHS_ok rfl trivial ?_ | refine AWP.region hX kHS_ok rfl id ?_ | refine AWP.region hX kHS_ok rfl ⟨id, id⟩ ?_))
    exact ⟨rfl, trivial, ⟨rfl, rfl, rfl, rfl, rfl, trivial⟩, rfl, rfl⟩
  have hb : decide (((ws.length : Nat) : Int) = 1) = false := hb
  rw [htest] at hb
  rw [if_neg (of_decide_eq_false hb)]
  (repeat (first | refine AWP.seq ?_ | refine AWP.skip ?_ | refine AWP.label ?_ | refine AWP.exit ?_ | refine AWP.block ?_ | refine AWP.region hX kHS_ok rfl trivial ?_ | refine AWP.region hX kHS_ok rfl id ?_ | refine AWP.region hX kHS_ok rfl ⟨id, id⟩ ?_))
  refine AWP.cond rfl (fun hb => ?_) (fun hb => ?_)
  · have hb : decide (((acc.length : Nat) : Int) = 64) = true := hb
    have hb := of_decide_eq_true hb
    rw [if_pos (by omega)]
    (repeat (first | refine AWP.seq ?_ | refine AWP.skip ?_ | refine AWP.block ?_ | refine AWP.exit ?_)); refine AWP.list ?_
    refine AL.pcall hX fail_ok (c := cFailP) (x := (ws, ())) (xs := ((2 : Int), ())) rfl rfl rfl rfl rfl rfl rfl rfl rfl rfl trivial hwp hN (F' := fun _ => _) (fun _ => rfl) ?_
    exact fun x' => ⟨rfl, trivial, ⟨rfl, rfl, rfl, rfl, rfl, trivial⟩, rfl, rfl⟩
  have hb : decide (((acc.length : Nat) : Int) = 64) = false := hb
  have hb := of_decide_eq_false hb
  rw [if_neg (by omega)]
  have hcap : acc.length + 1 ≤ 1000000000 := by omega
  (repeat (first | refine AWP.seq ?_ | refine AWP.skip ?_ | refine AWP.block ?_ | refine AWP.exit ?_)); refine AWP.fit (σ' := sPR ws j acc) ⟨⟨rfl, rfl, trivial⟩, ⟨rfl, rfl, rfl, rfl, rfl, rfl, trivial⟩, rfl, rfl⟩ ?_
  unfold sPR
  cases hg : grantW ws with
  | error er =>
    have hout : cGrantP.out (ws, ()) () = .error (pv er) := congrArg (toV _) hg
    simp only
    refine AWP.ordersA dM 7 rfl (by kernel_rfl) ?_
    refine OrdA.step [0, 2] rfl ?_
    refine AllN.cons ⟨_, rfl, StepA.eval hX kHS_ok rfl trivial ?_⟩ ?_
    · skip
      refine OrdA.step [1, 2] rfl ?_
      refine AllN.cons ⟨_, rfl, StepA.eval hX kHS_ok rfl trivial ?_⟩ ?_
      · skip
        refine OrdA.step [2] rfl ?_
        refine AllN.cons ⟨_, rfl, ?_⟩ ?_
        · refine StepA.hand rfl (fun β a w hs => pcall_wp hX grant_ok (c := cGrantP) (x := (ws, ())) (xs := ()) rfl rfl rfl rfl rfl rfl rfl rfl rfl (by exact trivial) hw hN (F' := fun _ => _) (fun _ => rfl) (N := _) ?_ β a w hs)
          rw [hout]
          exact fun x' => ⟨rfl, trivial, ⟨rfl, rfl, rfl, rfl, rfl, trivial⟩, rfl, rfl⟩
        exact AllN.nil
      refine AllN.cons ⟨_, rfl, ?_⟩ ?_
      · refine StepA.hand rfl (fun β a w hs => pcall_wp hX grant_ok (c := cGrantP) (x := (ws, ())) (xs := ()) rfl rfl rfl rfl rfl rfl rfl rfl rfl (by exact trivial) hw hN (F' := fun _ => _) (fun _ => rfl) (N := _) ?_ β a w hs)
        rw [hout]
        exact fun x' => ⟨rfl, trivial, ⟨rfl, rfl, rfl, rfl, rfl, trivial⟩, rfl, rfl⟩
      exact AllN.nil
    refine AllN.cons ⟨_, rfl, ?_⟩ ?_
    · refine StepA.hand rfl (fun β a w hs => pcall_wp hX grant_ok (c := cGrantP) (x := (ws, ())) (xs := ()) rfl rfl rfl rfl rfl rfl rfl rfl rfl (by exact trivial) hw hN (F' := fun _ => _) (fun _ => rfl) (N := _) ?_ β a w hs)
      rw [hout]
      exact fun x' => ⟨rfl, trivial, ⟨rfl, rfl, rfl, rfl, rfl, trivial⟩, rfl, rfl⟩
    exact AllN.nil
  | ok g =>
    have hout : cGrantP.out (ws, ()) () = .ok (g.1, (g.2, ())) := congrArg (toV _) hg
    simp only
    refine AWP.ordersA dM 7 rfl (by kernel_rfl) ?_
    refine OrdA.step [0, 2] rfl ?_
    refine AllN.cons ⟨_, rfl, StepA.eval hX kHS_ok rfl trivial ?_⟩ ?_
    · skip
      refine OrdA.step [1, 2] rfl ?_
      refine AllN.cons ⟨_, rfl, StepA.eval hX kHS_ok rfl trivial ?_⟩ ?_
      · skip
        refine OrdA.step [2] rfl ?_
        refine AllN.cons ⟨_, rfl, ?_⟩ ?_
        · refine StepA.hand rfl (fun β a w hs => pcall_wp hX grant_ok (c := cGrantP) (x := (ws, ())) (xs := ()) rfl rfl rfl rfl rfl rfl rfl rfl rfl (by exact trivial) hw hN (F' := fun _ => _) (fun _ => rfl) (N := _) ?_ β a w hs)
          rw [hout]
          simp only [PCallN]
          refine OrdA.step [3] rfl ?_
          refine AllN.cons ⟨_, rfl, StepA.eval hX kHS_ok rfl trivial ?_⟩ ?_
          · skip
            refine OrdA.step [4] rfl ?_
            refine AllN.cons ⟨_, rfl, StepA.eval hX kHS_ok rfl hcap ?_⟩ ?_
            · skip
              refine OrdA.step [5] rfl ?_
              refine AllN.cons ⟨_, rfl, StepA.eval hX kHS_ok rfl trivial ?_⟩ ?_
              · skip
                refine OrdA.step [6] rfl ?_
                refine AllN.cons ⟨_, rfl, StepA.eval hX kHS_ok rfl trivial ?_⟩ ?_
                · skip
                  exact OrdA.last ⟨rfl, trivial, ⟨rfl, rfl, rfl, rfl, rfl, trivial⟩, rfl, rfl⟩
                exact AllN.nil
              exact AllN.nil
            exact AllN.nil
          exact AllN.nil
        exact AllN.nil
      refine AllN.cons ⟨_, rfl, ?_⟩ ?_
      · refine StepA.hand rfl (fun β a w hs => pcall_wp hX grant_ok (c := cGrantP) (x := (ws, ())) (xs := ()) rfl rfl rfl rfl rfl rfl rfl rfl rfl (by exact trivial) hw hN (F' := fun _ => _) (fun _ => rfl) (N := _) ?_ β a w hs)
        rw [hout]
        simp only [PCallN]
        refine OrdA.step [1, 3] rfl ?_
        refine AllN.cons ⟨_, rfl, StepA.eval hX kHS_ok rfl trivial ?_⟩ ?_
        · skip
          refine OrdA.step [3] rfl ?_
          refine AllN.cons ⟨_, rfl, StepA.eval hX kHS_ok rfl trivial ?_⟩ ?_
          · skip
            refine OrdA.step [4] rfl ?_
            refine AllN.cons ⟨_, rfl, StepA.eval hX kHS_ok rfl hcap ?_⟩ ?_
            · skip
              refine OrdA.step [5] rfl ?_
              refine AllN.cons ⟨_, rfl, StepA.eval hX kHS_ok rfl trivial ?_⟩ ?_
              · skip
                refine OrdA.step [6] rfl ?_
                refine AllN.cons ⟨_, rfl, StepA.eval hX kHS_ok rfl trivial ?_⟩ ?_
                · skip
                  exact OrdA.last ⟨rfl, trivial, ⟨rfl, rfl, rfl, rfl, rfl, trivial⟩, rfl, rfl⟩
                exact AllN.nil
              exact AllN.nil
            exact AllN.nil
          exact AllN.nil
        refine AllN.cons ⟨_, rfl, StepA.eval hX kHS_ok rfl trivial ?_⟩ ?_
        · skip
          refine OrdA.step [1] rfl ?_
          refine AllN.cons ⟨_, rfl, StepA.eval hX kHS_ok rfl trivial ?_⟩ ?_
          · skip
            refine OrdA.step [4] rfl ?_
            refine AllN.cons ⟨_, rfl, StepA.eval hX kHS_ok rfl hcap ?_⟩ ?_
            · skip
              refine OrdA.step [5] rfl ?_
              refine AllN.cons ⟨_, rfl, StepA.eval hX kHS_ok rfl trivial ?_⟩ ?_
              · skip
                refine OrdA.step [6] rfl ?_
                refine AllN.cons ⟨_, rfl, StepA.eval hX kHS_ok rfl trivial ?_⟩ ?_
                · skip
                  exact OrdA.last ⟨rfl, trivial, ⟨rfl, rfl, rfl, rfl, rfl, trivial⟩, rfl, rfl⟩
                exact AllN.nil
              exact AllN.nil
            exact AllN.nil
          exact AllN.nil
        exact AllN.nil
      exact AllN.nil
    refine AllN.cons ⟨_, rfl, ?_⟩ ?_
    · refine StepA.hand rfl (fun β a w hs => pcall_wp hX grant_ok (c := cGrantP) (x := (ws, ())) (xs := ()) rfl rfl rfl rfl rfl rfl rfl rfl rfl (by exact trivial) hw hN (F' := fun _ => _) (fun _ => rfl) (N := _) ?_ β a w hs)
      rw [hout]
      simp only [PCallN]
      refine OrdA.step [0, 3] rfl ?_
      refine AllN.cons ⟨_, rfl, StepA.eval hX kHS_ok rfl trivial ?_⟩ ?_
      · skip
        refine OrdA.step [1, 3] rfl ?_
        refine AllN.cons ⟨_, rfl, StepA.eval hX kHS_ok rfl trivial ?_⟩ ?_
        · skip
          refine OrdA.step [3] rfl ?_
          refine AllN.cons ⟨_, rfl, StepA.eval hX kHS_ok rfl trivial ?_⟩ ?_
          · skip
            refine OrdA.step [4] rfl ?_
            refine AllN.cons ⟨_, rfl, StepA.eval hX kHS_ok rfl hcap ?_⟩ ?_
            · skip
              refine OrdA.step [5] rfl ?_
              refine AllN.cons ⟨_, rfl, StepA.eval hX kHS_ok rfl trivial ?_⟩ ?_
              · skip
                refine OrdA.step [6] rfl ?_
                refine AllN.cons ⟨_, rfl, StepA.eval hX kHS_ok rfl trivial ?_⟩ ?_
                · skip
                  exact OrdA.last ⟨rfl, trivial, ⟨rfl, rfl, rfl, rfl, rfl, trivial⟩, rfl, rfl⟩
                exact AllN.nil
              exact AllN.nil
            exact AllN.nil
          exact AllN.nil
        refine AllN.cons ⟨_, rfl, StepA.eval hX kHS_ok rfl trivial ?_⟩ ?_
        · skip
          refine OrdA.step [1] rfl ?_
          refine AllN.cons ⟨_, rfl, StepA.eval hX kHS_ok rfl trivial ?_⟩ ?_
          · skip
            refine OrdA.step [4] rfl ?_
            refine AllN.cons ⟨_, rfl, StepA.eval hX kHS_ok rfl hcap ?_⟩ ?_
            · skip
              refine OrdA.step [5] rfl ?_
              refine AllN.cons ⟨_, rfl, StepA.eval hX kHS_ok rfl trivial ?_⟩ ?_
              · skip
                refine OrdA.step [6] rfl ?_
                refine AllN.cons ⟨_, rfl, StepA.eval hX kHS_ok rfl trivial ?_⟩ ?_
                · skip
                  exact OrdA.last ⟨rfl, trivial, ⟨rfl, rfl, rfl, rfl, rfl, trivial⟩, rfl, rfl⟩
                exact AllN.nil
              exact AllN.nil
            exact AllN.nil
          exact AllN.nil
        exact AllN.nil
      refine AllN.cons ⟨_, rfl, StepA.eval hX kHS_ok rfl trivial ?_⟩ ?_
      · skip
        refine OrdA.step [0] rfl ?_
        refine AllN.cons ⟨_, rfl, StepA.eval hX kHS_ok rfl trivial ?_⟩ ?_
        · skip
          refine OrdA.step [1] rfl ?_
          refine AllN.cons ⟨_, rfl, StepA.eval hX kHS_ok rfl trivial ?_⟩ ?_
          · skip
            refine OrdA.step [4] rfl ?_
            refine AllN.cons ⟨_, rfl, StepA.eval hX kHS_ok rfl hcap ?_⟩ ?_
            · skip
              refine OrdA.step [5] rfl ?_
              refine AllN.cons ⟨_, rfl, StepA.eval hX kHS_ok rfl trivial ?_⟩ ?_
              · skip
                refine OrdA.step [6] rfl ?_
                refine AllN.cons ⟨_, rfl, StepA.eval hX kHS_ok rfl trivial ?_⟩ ?_
                · skip
                  exact OrdA.last ⟨rfl, trivial, ⟨rfl, rfl, rfl, rfl, rfl, trivial⟩, rfl, rfl⟩
                exact AllN.nil
              exact AllN.nil
            exact AllN.nil
          exact AllN.nil
        exact AllN.nil
      exact AllN.nil
    exact AllN.nil
end Go.Proofs.YthkhgpbjfcmopaaGreatDoor
