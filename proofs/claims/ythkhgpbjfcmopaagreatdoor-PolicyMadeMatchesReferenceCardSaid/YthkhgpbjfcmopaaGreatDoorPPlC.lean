/-
  Made policies are valid, and name few teams. Plain lists only.
-/
import Derived.Test.YthkhgpbjfcmopaaGreatDoorPRefC
namespace Go.Proofs.YthkhgpbjfcmopaaGreatDoor
open Go Go.RowKit
set_option linter.unusedSimpArgs false
set_option linter.unusedVariables false
theorem mk1_ok (g : Gt) : OkG (mk1 g) := by
  obtain ⟨a, p, t, gg, r, _⟩ := g
  unfold mk1
  simp only [OkG, gA, gP, gT, gG, gR]
  refine ⟨by omega, ?_, ?_, ?_, ?_, ?_⟩ <;> (repeat' split) <;> omega
theorem made_ok (l : List Gt) : OkP (made l) := by
  refine ⟨?_, fun g hg => ?_⟩
  · unfold made
    rw [List.length_map, List.length_take]
    omega
  · unfold made at hg
    obtain ⟨x, _, rfl⟩ := List.mem_map.1 hg
    exact mk1_ok x
theorem made_T {l : List Gt} {g : Gt} (h : g ∈ made l) : -1 ≤ gT g ∧ gT g < 6 := by
  unfold made at h
  obtain ⟨⟨a, p, t, gg, r, _⟩, _, rfl⟩ := List.mem_map.1 h
  unfold mk1
  simp only [gP, gT]
  omega
theorem nodup_le : ∀ (n : Nat) (l : List Int), l.Nodup → (∀ x ∈ l, 0 ≤ x ∧ x < (n : Int)) → l.length ≤ n
  | 0, l, _, h => by
    cases l with
    | nil => exact Nat.le_refl _
    | cons x r => have := h x (List.mem_cons_self ..); omega
  | n + 1, l, hd, h => by
    by_cases hm : (n : Int) ∈ l
    · have h1 := nodup_le n (l.erase (n : Int)) (hd.erase _) fun x hx => by
        have h2 := (hd.mem_erase_iff).1 hx
        have h3 := h x h2.2
        have : x ≠ (n : Int) := h2.1
        omega
      rw [List.length_erase_of_mem hm] at h1
      omega
    · have h1 := nodup_le n l hd fun x hx => by
        have h3 := h x hx
        have : x ≠ (n : Int) := fun e => hm (e ▸ hx)
        omega
      omega
theorem dist_nodup (xs : List Int) : (dist xs).Nodup := by
  suffices h : ∀ (out : List Int), out.Nodup → (xs.foldl addN out).Nodup from h [] List.nodup_nil
  induction xs with
  | nil => exact fun _ h => h
  | cons x r ih =>
    intro out h
    refine ih _ ?_
    unfold addN
    split
    · rename_i hc
      rw [List.nodup_append]
      refine ⟨h, by simp, fun a ha b hb e => ?_⟩
      rw [List.mem_singleton] at hb
      subst hb; subst e
      simp_all
    · exact h
theorem made_teams (a b : List Gt) : (teams (made a) (made b)).length ≤ 10 := by
  refine Nat.le_trans (nodup_le 6 _ (dist_nodup _) fun x hx => ?_) (by omega)
  have h := mem_dist.1 hx
  obtain ⟨g, hg, rfl⟩ := List.mem_map.1 h.2
  rcases List.mem_append.1 hg with hg | hg <;> exact ⟨h.1, (made_T hg).2⟩
end Go.Proofs.YthkhgpbjfcmopaaGreatDoor
