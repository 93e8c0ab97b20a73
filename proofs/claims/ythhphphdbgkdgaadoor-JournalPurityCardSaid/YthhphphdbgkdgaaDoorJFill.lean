/-
  Logs that are filled: plain laws. No program is read here.
-/
import Derived.Test.YthhphphdbgkdgaaDoorJKn
namespace Go.Proofs.YthhphphdbgkdgaaDoor
open Go Go.RowKit
set_option linter.unusedSimpArgs false
set_option linter.unusedVariables false
/-- few short payloads -/
def Few (l : List (List UInt8)) : Prop := l.length ≤ 8 ∧ ∀ x ∈ l, x.length ≤ 60
theorem few_cat {l : List (List UInt8)} (h : ∀ x ∈ l, x.length ≤ 60) : (cat l).length ≤ 72 * l.length := by
  induction l with
  | nil => exact Nat.le_refl _
  | cons x l ih =>
    have h1 := h x (by simp)
    have h2 := ih fun y hy => h y (by simp [hy])
    rw [cat_cons, List.length_append, rcd_length, List.length_cons]
    omega
theorem few_small {l : List (List UInt8)} (h : ∀ x ∈ l, x.length ≤ 60) : small l := fun x hx => by have := h x hx; omega
/-- the log of these payloads, the first s of them synced -/
def fill (l : List (List UInt8)) (s : Nat) : Lg := (cat l, (((cat (l.take s)).length : Nat) : Int), ())
theorem cat_take_le (l : List (List UInt8)) (s : Nat) : (cat (l.take s)).length ≤ (cat l).length := by
  have : cat l = cat (l.take s) ++ cat (l.drop s) := by rw [← cat_append, List.take_append_drop]
  rw [this, List.length_append]
  omega
theorem fill_valid {l : List (List UInt8)} (h : Few l) (s : Nat) : validL (fill l s) = true := by
  have h1 := few_cat h.2
  have h2 := cat_take_le l s
  have h3 := h.1
  refine validL_iff.2 ⟨⟨Int.natCast_nonneg _, ?_⟩, ?_⟩
  · show (((cat (l.take s)).length : Nat) : Int) ≤ ((cat l).length : Nat)
    omega
  · show (((cat l).length : Nat) : Int) ≤ 1048576
    omega
theorem fill_append {l : List (List UInt8)} {x : List UInt8} {s : Nat} (h : Few (l ++ [x])) (hs : s ≤ l.length) : appendS (fill l s) x = (fill (l ++ [x]) s, 0, ()) := by
  have h1 : Few l := ⟨by have := h.1; rw [List.length_append] at this; omega, fun y hy => h.2 y (by simp [hy])⟩
  have h2 := few_cat h1.2
  have h3 := h1.1
  have h4 := h.2 x (by simp)
  have hr := recs_whole l (few_small h1.2)
  unfold appendS
  rw [if_pos (fill_valid h1 s)]
  have e : (fill l s).1 = cat l := rfl
  rw [e, hr, if_neg (by simp), if_neg (by omega)]
  unfold fill
  rw [cat_append, cat_one, List.take_append_of_le_length hs]
theorem fill_sync {l : List (List UInt8)} (h : Few l) (s : Nat) : syncS (fill l s) = (fill l l.length, 0, ()) := by
  unfold syncS
  rw [if_pos (fill_valid h s)]
  unfold fill
  rw [List.take_length]
theorem fill_records {l : List (List UInt8)} (h : Few l) (s : Nat) : recordsS (fill l s) = (l, (((cat l).length : Nat) : Int), 0, ()) := by
  unfold recordsS
  rw [if_pos (fill_valid h s)]
  have e : (fill l s).1 = cat l := rfl
  rw [e, recs_whole l (few_small h.2)]
end Go.Proofs.YthhphphdbgkdgaaDoor
