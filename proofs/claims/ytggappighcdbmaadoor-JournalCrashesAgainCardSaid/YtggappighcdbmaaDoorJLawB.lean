/-
  The statements of chapter 23: prefix (needs cuts at bounds that are known only under a guard: see NOTES).
-/
import Derived.Test.YtggappighcdbmaaDoorJLawA
namespace Go.Proofs.YtggappighcdbmaaDoor
open Go Go.RowKit
set_option linter.unusedSimpArgs false
set_option linter.unusedVariables false
set_option maxRecDepth 100000
theorem test2b {p : Prop} [Decidable p] {b : Bool} : (bif decide p then b else false) = true ↔ p ∧ b = true := by
  by_cases hp : p <;> simp [hp]
def cPrefix : Ctr := { args := [.slice bs, .slice bs], pre := fun _ => [], res := .bool, own := none, out := fun x => decide (x.1 <+: x.2.1) }
def kL1 : Kn := { dK with C := [(17, cSameL)] }
theorem kL1_ok : KnOk Tryd.prog dG kL1 := dK_ok.with (.cons rsame_ok .nil)
theorem prefix_ok : CtrOk Tryd.prog dG 19 cPrefix := by
  refine ctr_of_awp (K := kL1) kL1_ok Tryd.func19 rfl rfl Tryd.call19 rfl (by decide) (by intro h; cases h) ?_
  rintro w0 X hX ⟨(x : List (List UInt8)), (y : List (List UInt8)), _⟩ hp
  change AWP _ _ _ _ _ ⟨[(0, ⟨.slice bs, x⟩), (1, ⟨.slice bs, y⟩)], [], 0⟩ _
  have m2 : (0 : Int) ≤ min ((x.length : Nat) : Int) ((y.length : Nat) : Int) := by omega
  have m3 : min ((x.length : Nat) : Int) ((y.length : Nat) : Int) ≤ ((y.length : Nat) : Int) := by omega
  (repeat (first | refine AWP.seq ?_ | refine AWP.skip ?_ | refine AWP.block ?_ | refine AWP.exit ?_)); refine AWP.region hX kL1_ok rfl ?_ ?_
  · trivial
  (repeat (first | refine AWP.seq ?_ | refine AWP.skip ?_ | refine AWP.block ?_ | refine AWP.exit ?_)); refine AWP.region hX kL1_ok rfl ?_ ?_
  · repeat' (first | exact trivial | assumption | exact m2 | exact m3 | (refine ⟨?_, ?_⟩) | (intro _) | exact Nat.le_of_ble_eq_true rfl | exact Int.natCast_nonneg _)
  refine AWP.ret ⟨.inr rfl, done1 rfl trivial rfl rfl ?_⟩
  show (bif decide (((x.length : Nat) : Int) ≤ ((y.length : Nat) : Int)) then sameL x (y.take (min ((x.length : Nat) : Int) ((y.length : Nat) : Int)).toNat) else false) = decide (x <+: y)
  rw [Bool.eq_iff_iff, test2b, decide_eq_true_iff]
  unfold sameL
  rw [decide_eq_true_iff, List.prefix_iff_eq_take]
  constructor
  · rintro ⟨h1, h2⟩
    rw [show (min ((x.length : Nat) : Int) ((y.length : Nat) : Int)).toNat = x.length by omega] at h2
    exact h2
  · intro h
    have hl : x.length ≤ y.length := by
      have := congrArg List.length h
      rw [List.length_take] at this
      omega
    refine ⟨by omega, ?_⟩
    rw [show (min ((x.length : Nat) : Int) ((y.length : Nat) : Int)).toNat = x.length by omega]
    exact h
end Go.Proofs.YtggappighcdbmaaDoor
