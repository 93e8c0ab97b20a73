/-
  Made policies are valid, and name few teams. Plain lists only.
  What the statements of chapter 25 say, in plain lists: the first grant decides, more teams and lower ranks, dropped grants, teams as a set.
  A policy with one grant more at its end, and without one of its booking grants. Plain lists only.
-/
import Derived.Test.YtbbeldmcdjjnbaaGreatDoorPRefC
import Derived.Test.YtbbeldmcdjjnbaaGreatDoorPPlA
namespace Go.Proofs.YtbbeldmcdjjnbaaGreatDoor
open Go Go.RowKit
set_option linter.unusedSimpArgs false
set_option linter.unusedVariables false
theorem mk1_ok (g : Gt) : OkG (mk1 g) := by
  obtain ⟨a, p, t, gg, r, _⟩ := g
  unfold mk1
  simp only [OkG, gA, gP, gT, gG, gR]
  refine ⟨by omega, ?_, ?_, ?_, ?_, ?_⟩ <;> (repeat' split) <;> omega
theorem made_ok (l : List Gt) : OkP (made l) := by
  refine ⟨?_, fun g hg => ?_⟩
  · unfold made
    rw [List.length_map, List.length_take]
    omega
  · unfold made at hg
    obtain ⟨x, _, rfl⟩ := List.mem_map.1 hg
    exact mk1_ok x
theorem made_T {l : List Gt} {g : Gt} (h : g ∈ made l) : -1 ≤ gT g ∧ gT g < 6 := by
  unfold made at h
  obtain ⟨⟨a, p, t, gg, r, _⟩, _, rfl⟩ := List.mem_map.1 h
  unfold mk1
  simp only [gP, gT]
  omega
theorem nodup_le : ∀ (n : Nat) (l : List Int), l.Nodup → (∀ x ∈ l, 0 ≤ x ∧ x < (n : Int)) → l.length ≤ n
  | 0, l, _, h => by
    cases l with
    | nil => exact Nat.le_refl _
    | cons x r => have := h x (List.mem_cons_self ..); omega
  | n + 1, l, hd, h => by
    by_cases hm : (n : Int) ∈ l
    · have h1 := nodup_le n (l.erase (n : Int)) (hd.erase _) fun x hx => by
        have h2 := (hd.mem_erase_iff).1 hx
        have h3 := h x h2.2
        have : x ≠ (n : Int) := h2.1
        omega
      rw [List.length_erase_of_mem hm] at h1
      omega
    · have h1 := nodup_le n l hd fun x hx => by
        have h3 := h x hx
        have : x ≠ (n : Int) := fun e => hm (e ▸ hx)
        omega
      omega
theorem dist_nodup (xs : List Int) : (dist xs).Nodup := by
  suffices h : ∀ (out : List Int), out.Nodup → (xs.foldl addN out).Nodup from h [] List.nodup_nil
  induction xs with
  | nil => exact fun _ h => h
  | cons x r ih =>
    intro out h
    refine ih _ ?_
    unfold addN
    split
    · rename_i hc
      rw [List.nodup_append]
      refine ⟨h, by simp, fun a ha b hb e => ?_⟩
      rw [List.mem_singleton] at hb
      subst hb; subst e
      simp_all
    · exact h
theorem made_teams (a b : List Gt) : (teams (made a) (made b)).length ≤ 10 := by
  refine Nat.le_trans (nodup_le 6 _ (dist_nodup _) fun x hx => ?_) (by omega)
  have h := mem_dist.1 hx
  obtain ⟨g, hg, rfl⟩ := List.mem_map.1 h.2
  rcases List.mem_append.1 hg with hg | hg <;> exact ⟨h.1, (made_T hg).2⟩
end Go.Proofs.YtbbeldmcdjjnbaaGreatDoor
namespace Go.Proofs.YtbbeldmcdjjnbaaGreatDoor
open Go Go.RowKit
set_option linter.unusedSimpArgs false
set_option linter.unusedVariables false
theorem fst1_cons (g : Gt) (l : List Gt) (a p : Int) (ts : List Int) : fst1 (g :: l) a p ts = if gA g = a ∧ fits g p ts = true then some g else fst1 l a p ts := by
  unfold fst1
  rw [List.find?_cons]
  by_cases h : gA g = a ∧ fits g p ts = true
  · rw [if_pos h]
    simp [h.1, h.2]
  · rw [if_neg h]
    have : (decide (gA g = a) && fits g p ts) = false := by
      cases hf : fits g p ts with
      | false => simp
      | true => simp [hf] at h; simp [h]
    rw [this]
theorem grain_cons {g : Gt} {l : List Gt} (hq : OkP (g :: l)) (hl : OkP l) (p : Int) (ts : List Int) : grain (g :: l) p ts = if gA g = 1 ∧ fits g p ts = true then gG g else grain l p ts := by
  unfold grain
  rw [if_pos hq, if_pos hl, fst1_cons]
  split <;> rfl
theorem book_cons {g : Gt} {l : List Gt} (hq : OkP (g :: l)) (hl : OkP l) (p : Int) (ts : List Int) : book (g :: l) p ts = if gA g = 2 ∧ fits g p ts = true then true else book l p ts := by
  unfold book
  rw [decide_eq_true hq, decide_eq_true hl, fst1_cons]
  split <;> rfl
theorem rank_cons {g : Gt} {l : List Gt} (hq : OkP (g :: l)) (hl : OkP l) (p : Int) (ts : List Int) : rank (g :: l) p ts = if gA g = 3 ∧ fits g p ts = true then gR g else rank l p ts := by
  unfold rank
  rw [if_pos hq, if_pos hl, fst1_cons]
  split <;> rfl
theorem move_skip {g : Gt} {l : List Gt} (hq : OkP (g :: l)) (hl : OkP l) {p : Int} {ts : List Int} (h : ¬ (gA g = 3 ∧ fits g p ts = true)) (r : Int) : move (g :: l) p ts r = move l p ts r := by
  unfold move
  rw [rank_cons hq hl, if_neg h]
theorem move_first {g : Gt} {l : List Gt} (hq : OkP (g :: l)) (hl : OkP l) {p : Int} {ts : List Int} (h : gA g = 3 ∧ fits g p ts = true) (r : Int) : move (g :: l) p ts r = decide (r ≤ gR g) := by
  have h0 : 0 ≤ gR g := ((hq.2 g (List.mem_cons_self ..)).2.2.2.1).1
  unfold move
  rw [rank_cons hq hl, if_pos h, decide_eq_true h0, Bool.true_and]
theorem fits_mono {g : Gt} {p : Int} {ts us : List Int} (h : ∀ t ∈ ts, t ∈ us) (hf : fits g p ts = true) : fits g p us = true := by
  unfold fits at *
  split at hf
  · rename_i hp
    rw [if_pos hp]
    exact hf
  · rename_i hp
    rw [if_neg hp]
    rw [Bool.or_eq_true] at *
    rcases hf with h1 | h1
    · exact .inl h1
    · exact .inr (decide_eq_true (h _ (of_decide_eq_true h1)))
theorem book_mono {l : List Gt} {p : Int} {ts us : List Int} (h : ∀ t ∈ ts, t ∈ us) (hb : book l p ts = true) : book l p us = true := by
  unfold book fst1 at *
  rw [Bool.and_eq_true] at *
  refine ⟨hb.1, ?_⟩
  have h2 := hb.2
  rw [List.find?_isSome] at *
  obtain ⟨x, hx, hy⟩ := h2
  rw [Bool.and_eq_true] at hy
  exact ⟨x, hx, by rw [Bool.and_eq_true]; exact ⟨hy.1, fits_mono h hy.2⟩⟩
theorem move_mono {l : List Gt} {p : Int} {ts : List Int} {x y : Int} (h : x ≤ y) (hm : move l p ts y = true) : move l p ts x = true := by
  unfold move at *
  rw [Bool.and_eq_true] at *
  exact ⟨hm.1, decide_eq_true (Int.le_trans h (of_decide_eq_true hm.2))⟩
theorem fst1_congr {l : List Gt} {a p : Int} {ts us : List Int} (h : ∀ g ∈ l, fits g p ts = fits g p us) : fst1 l a p ts = fst1 l a p us := by
  induction l with
  | nil => rfl
  | cons g r ih =>
    rw [fst1_cons, fst1_cons, h g (List.mem_cons_self ..), ih fun x hx => h x (List.mem_cons_of_mem _ hx)]
theorem fits_set {g : Gt} {p : Int} {ts us : List Int} (h : gT g ∈ ts ↔ gT g ∈ us) : fits g p ts = fits g p us := by
  unfold fits
  split
  · rfl
  · rw [show decide (gT g ∈ ts) = decide (gT g ∈ us) from decide_eq_decide.2 h]
theorem same_set {l : List Gt} {p : Int} {ts us : List Int} (h : ∀ g ∈ l, fits g p ts = fits g p us) : grain l p ts = grain l p us ∧ book l p ts = book l p us ∧ ∀ r, move l p ts r = move l p us r := by
  refine ⟨?_, ?_, fun r => ?_⟩
  · unfold grain; rw [fst1_congr h]
  · unfold book; rw [fst1_congr h]
  · unfold move rank; rw [fst1_congr h]
end Go.Proofs.YtbbeldmcdjjnbaaGreatDoor
namespace Go.Proofs.YtbbeldmcdjjnbaaGreatDoor
open Go Go.RowKit
set_option linter.unusedSimpArgs false
set_option linter.unusedVariables false
theorem val_cases (l : List Gt) (a p : Int) (ts : List Int) : val l a p ts = 0 ∨ ∃ g ∈ l, gA g = a ∧ val l a p ts = value g := by
  unfold val
  cases h : fst1 l a p ts with
  | none => exact .inl rfl
  | some g => exact .inr ⟨g, fst1_mem h, fst1_act h, rfl⟩
theorem value_range {g : Gt} (h : OkG g) : 0 ≤ value g ∧ (gA g = 1 → value g ≤ 4) ∧ (gA g = 2 → value g ≤ 1) ∧ (gA g = 3 → value g ≤ 101) := by
  obtain ⟨h1, _, h3, h4, _, _⟩ := h
  unfold value
  refine ⟨?_, ?_, ?_, ?_⟩ <;> (repeat' split) <;> omega
theorem val_nonneg {l : List Gt} (hl : OkP l) (a p : Int) (ts : List Int) : 0 ≤ val l a p ts := by
  rcases val_cases l a p ts with h | ⟨g, hg, _, h⟩
  · omega
  · rw [h]; exact (value_range (hl.2 g hg)).1
theorem fst1_app (l m : List Gt) (a p : Int) (ts : List Int) : fst1 (l ++ m) a p ts = (fst1 l a p ts).or (fst1 m a p ts) := by
  unfold fst1
  rw [List.find?_append]
theorem val_app_some {l m : List Gt} {a p : Int} {ts : List Int} {g : Gt} (h : fst1 l a p ts = some g) : val (l ++ m) a p ts = value g := by
  unfold val
  rw [fst1_app, h]
  rfl
theorem val_app_none {l m : List Gt} {a p : Int} {ts : List Int} (h : fst1 l a p ts = none) : val (l ++ m) a p ts = val m a p ts := by
  unfold val
  rw [fst1_app, h]
  rfl
theorem allLe_app {l m : List Gt} (hm : OkP m) : allLe l (l ++ m) := by
  intro p ts a _
  cases h : fst1 l a p ts with
  | some g =>
    rw [val_app_some h]
    unfold val
    rw [h]
    exact Int.le_refl _
  | none =>
    rw [val_app_none h]
    unfold val
    rw [h]
    exact val_nonneg hm a p ts
theorem allLe_drop {l m : List Gt} {g : Gt} (hg : gA g = 2) (hm : OkP m) : allLe (l ++ m) (l ++ g :: m) := by
  intro p ts a _
  cases h : fst1 l a p ts with
  | some x => rw [val_app_some h, val_app_some h]; exact Int.le_refl _
  | none =>
    rw [val_app_none h, val_app_none h]
    by_cases hs : gA g = a ∧ fits g p ts = true
    · rw [val_some hs.1 hs.2, value_2 hg]
      rcases val_cases m a p ts with h1 | ⟨x, hx, hxa, h1⟩
      · omega
      · rw [h1]
        exact (value_range (hm.2 x hx)).2.2.1 (by omega)
    · rw [val_skip hs]
      exact Int.le_refl _
end Go.Proofs.YtbbeldmcdjjnbaaGreatDoor
