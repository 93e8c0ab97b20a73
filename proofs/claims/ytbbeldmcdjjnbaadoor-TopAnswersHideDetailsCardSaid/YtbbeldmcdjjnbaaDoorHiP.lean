/-
  Plain law: a diary and the witness of its view have the same view. No program is read here.
-/
import Derived.Test.YtbbeldmcdjjnbaaDoorHiA
import Derived.Test.YtbbeldmcdjjnbaaDoorCoW
import Derived.Test.YtbbeldmcdjjnbaaDoorEvP
namespace Go.Proofs.YtbbeldmcdjjnbaaDoor
open Go Go.RowKit
set_option linter.unusedSimpArgs false
set_option linter.unusedVariables false
theorem mem_witK {g : Int} {w : Sp} {i : Nat} {x : Int} {K : Nat} {m : Mk} : m ∈ witK g w i x K ↔ ∃ k, k < K ∧ x.toNat.testBit k = true ∧ m = cellM g w i k := by
  unfold witK
  rw [List.mem_map]
  constructor
  · rintro ⟨k, hk, rfl⟩
    rw [List.mem_filter, List.mem_range] at hk
    exact ⟨k, hk.1, hk.2, rfl⟩
  · rintro ⟨k, h1, h2, rfl⟩
    exact ⟨k, by rw [List.mem_filter, List.mem_range]; exact ⟨h1, h2⟩, rfl⟩
theorem mem_witN {v : List Int} {g : Int} {w : Sp} {N : Nat} {m : Mk} : m ∈ witN v g w N ↔ ∃ i, i < N ∧ ∃ k, k < 8 ∧ (v.getD i 0).toNat.testBit k = true ∧ m = cellM g w i k := by
  unfold witN
  rw [List.mem_flatMap]
  constructor
  · rintro ⟨i, hi, h⟩
    rw [List.mem_range] at hi
    exact ⟨i, hi, mem_witK.1 h⟩
  · rintro ⟨i, hi, h⟩
    exact ⟨i, by rw [List.mem_range]; exact hi, mem_witK.2 h⟩
/-- what a valid window of n cells says -/
def winN (g : Int) (w : Sp) (n : Nat) : Prop := (1 ≤ g ∧ g ≤ 4) ∧ (-2251799813685248 ≤ w.1 ∧ w.2.1 ≤ 2251799813685248) ∧ n ≤ 65536 ∧ w.2.1 - w.1 = (n : Int) * sizeS g ∧ cellsS g w = ((n : Int), 0)
theorem winN_of {g : Int} {w : Sp} (h : (cellsS g w).2 = 0) : ∃ n : Nat, winN g w n := by
  obtain ⟨c1, c2, c3, c4, c5, c6, c7⟩ := cells_spec h
  refine ⟨(cellsS g w).1.toNat, ⟨c1, c2⟩, ⟨c3.1, c3.2.2⟩, by omega, ?_, ?_⟩
  · rw [Int.toNat_of_nonneg c4]; exact c6
  · rw [Int.toNat_of_nonneg c4, ← h]
theorem cell_span {g : Int} {w : Sp} {n : Nat} (hw : winN g w n) {i : Nat} (hi : i < n) : 0 ≤ (i : Int) * sizeS g ∧ ((i : Int) + 1) * sizeS g = (i : Int) * sizeS g + sizeS g ∧ ((i : Int) + 1) * sizeS g ≤ w.2.1 - w.1 ∧ 1 ≤ sizeS g := by
  obtain ⟨⟨h1, h4⟩, _, _, h5, _⟩ := hw
  have hs := sizeS_pos (g := g) (by omega) h4
  refine ⟨Int.mul_nonneg (by omega) (by omega), by rw [Int.add_mul, Int.one_mul], ?_, hs.1⟩
  rw [h5]
  exact Int.mul_le_mul_of_nonneg_right (by omega) (by omega)
theorem cellM_ok {g : Int} {w : Sp} {n : Nat} (hw : winN g w n) {i k : Nat} (hi : i < n) (hk : k < 8) : mkBad (cellM g w i k) = false := by
  obtain ⟨s0, s1, s2, s3⟩ := cell_span hw hi
  obtain ⟨_, ⟨h2, h3⟩, _, _, _⟩ := hw
  unfold mkBad cellM winOk
  generalize (i : Int) * sizeS g = a at *
  generalize ((i : Int) + 1) * sizeS g = b at *
  have e : (w.1 + a == w.1 + b) = false := by rw [beq_eq_false_iff_ne]; omega
  simp only [Bool.or_eq_false_iff, decide_eq_false_iff_not, Bool.not_eq_false', Bool.and_eq_true, decide_eq_true_eq]
  refine ⟨⟨⟨by omega, by omega⟩, ⟨by omega, by omega⟩, by omega⟩, e⟩
theorem wit_marks {g : Int} {w : Sp} {n : Nat} (hw : winN g w n) (v : List Int) : marksOk (witN v g w n) = true := by
  unfold marksOk
  rw [Bool.not_eq_true', List.any_eq_false]
  intro m hm
  obtain ⟨i, hi, k, hk, _, rfl⟩ := mem_witN.1 hm
  rw [cellM_ok hw hi hk]
  exact Bool.false_ne_true
theorem cellM_touch {g : Int} {w : Sp} {n : Nat} (hw : winN g w n) {i' k i : Nat} (hi' : i' < n) : tchI (cellM g w i' k).1 w (sizeS g) i ↔ i' = i := by
  obtain ⟨s0, s1, s2, s3⟩ := cell_span hw hi'
  have eF : tchF' (cellM g w i' k).1 w = (i' : Int) * sizeS g := by
    show max (w.1 + (i' : Int) * sizeS g) w.1 - w.1 = _
    omega
  have eT : tchT (cellM g w i' k).1 w = ((i' : Int) + 1) * sizeS g := by
    show min (w.1 + ((i' : Int) + 1) * sizeS g) w.2.1 - w.1 = _
    omega
  unfold tchI
  rw [eF, eT]
  constructor
  · rintro ⟨h1, h2, h3⟩
    have h4 := Int.lt_of_mul_lt_mul_right h2 (by omega)
    have h5 := Int.lt_of_mul_lt_mul_right h3 (by omega)
    omega
  · rintro rfl
    exact ⟨by omega, by omega, by omega⟩
theorem cellM_bit (g : Int) (w : Sp) (i k j : Nat) : (bitOf g (cellM g w i k)).toNat.testBit j = if g ≥ 3 then decide (k = j) else decide (j = 0) := by
  unfold bitOf
  have e : ((cellM g w i k).2.1 - 1).toNat = k := by show ((k : Int) + 1 - 1).toNat = k; omega
  rw [e]
  split
  · rw [show (2 : Int) ^ k = ((2 ^ k : Nat) : Int) by simp, Int.toNat_natCast, Nat.testBit_two_pow]
  · cases j with
    | zero => rfl
    | succ j => simp [Nat.testBit_succ]
theorem most_bit {g x : Int} (hx : 0 ≤ x ∧ x ≤ mostS g) {j : Nat} (h : x.toNat.testBit j = true) : j < 8 ∧ (¬ g ≥ 3 → j = 0) := by
  have key : ∀ e, x.toNat < 2 ^ e → j < e := fun e he => by
    have hn : ¬ e ≤ j := fun hj => by
      have h2 : x.toNat < 2 ^ j := Nat.lt_of_lt_of_le he (Nat.pow_le_pow_right (by decide) hj)
      rw [Nat.testBit_lt_two_pow h2] at h
      cases h
    omega
  unfold mostS at hx
  split at hx
  · rename_i hg
    exact ⟨key 8 (by omega), fun h => absurd hg h⟩
  · have := key 1 (by omega)
    exact ⟨by omega, fun _ => by omega⟩
/-- the view of the witness is the view -/
theorem vL_wit {g : Int} {w : Sp} {n : Nat} (hw : winN g w n) {v : List Int} (hl : v.length = n) (hv : ∀ x ∈ v, 0 ≤ x ∧ x ≤ mostS g) : vL (witN v g w n) g w n = v := by
  have hg : 1 ≤ sizeS g := (sizeS_pos (by have := hw.1; omega) hw.1.2).1
  refine List.ext_getElem (by rw [vL_len, hl]) fun i h1 h2 => ?_
  have hin : i < n := by rw [vL_len] at h1; exact h1
  have e1 : (vL (witN v g w n) g w n)[i] = (vL (witN v g w n) g w n).getD i 0 := by rw [List.getD_eq_getElem?_getD, List.getElem?_eq_getElem h1]; rfl
  have e2 : v[i] = v.getD i 0 := by rw [List.getD_eq_getElem?_getD, List.getElem?_eq_getElem h2]; rfl
  have hx := hv _ (List.getElem_mem h2)
  refine int_bits (vL_nn _ _ _ _ _ (List.getElem_mem h1)) hx.1 fun j => ?_
  rw [e1, vL_bit hg _ w hin, e2]
  rw [e2] at hx
  rw [Bool.eq_iff_iff, List.any_eq_true]
  constructor
  · rintro ⟨m, hm, h⟩
    obtain ⟨i', hi', k, hk, hb, rfl⟩ := mem_witN.1 hm
    rw [Bool.and_eq_true, decide_eq_true_iff, cellM_touch hw hi', cellM_bit] at h
    obtain ⟨rfl, h⟩ := h
    split at h
    · have h := of_decide_eq_true h
      subst h
      exact hb
    · rename_i hg3
      have h := of_decide_eq_true h
      subst h
      have := (most_bit hx hb).2 hg3
      subst this
      exact hb
  · intro hb
    obtain ⟨hj, h0⟩ := most_bit hx hb
    refine ⟨cellM g w i j, mem_witN.2 ⟨i, hin, j, hj, hb, rfl⟩, ?_⟩
    rw [Bool.and_eq_true, decide_eq_true_iff, cellM_touch hw hin, cellM_bit]
    refine ⟨rfl, ?_⟩
    split
    · exact decide_eq_true rfl
    · rename_i hg3
      exact decide_eq_true (h0 hg3)
theorem view_win {g : Int} {w : Sp} {n : Nat} (hw : winN g w n) {l : List Mk} (hm : marksOk l = true) : viewS l g w = (vL l g w n, 0) := by
  have hc := hw.2.2.2.2
  unfold viewS
  rw [if_neg (by rw [hm]; decide), hc, if_neg (by simp)]
  rw [Int.toNat_natCast]
  rfl
theorem witness_win {g : Int} {w : Sp} {n : Nat} (hw : winN g w n) {v : List Int} (hl : v.length = n) (hv : ∀ x ∈ v, 0 ≤ x ∧ x ≤ mostS g) : witnessS v g w = (witN v g w n, 0) := by
  have hc := hw.2.2.2.2
  unfold witnessS
  rw [hc, if_neg (by simp), if_neg, hl]
  unfold possS
  rw [hl]
  have : v.any (offV (mostS g)) = false := by
    rw [List.any_eq_false]
    intro x hx
    have := hv x hx
    unfold offV
    rw [Bool.or_eq_true, decide_eq_true_iff, decide_eq_true_iff]
    omega
  rw [this]
  simp
theorem most_bytes {g : Int} {v : List Int} (hv : ∀ x ∈ v, 0 ≤ x ∧ x ≤ mostS g) : bytesI v := fun x hx => by
  have := hv x hx
  unfold mostS at this
  split at this <;> omega
end Go.Proofs.YtbbeldmcdjjnbaaDoor
