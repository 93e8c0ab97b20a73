/-
  Plain law: what is seen at a coarser grain follows from what is seen at a finer one. No program is read here.
  Package coarse, plain: a view's cells are the bits of the marks that touch them; the coarser form of a view is the coarser view.
-/
import Derived.Test.YtbbeldmcdjjnbaaDoorCoG
namespace Go.Proofs.YtbbeldmcdjjnbaaDoor
open Go Go.RowKit
set_option linter.unusedSimpArgs false
set_option linter.unusedVariables false
/-! ### bits -/
theorem orI_nn (a b : Int) : 0 ≤ orI a b := by unfold orI; omega
theorem orI_bit (a b : Int) (j : Nat) : (orI a b).toNat.testBit j = (a.toNat.testBit j || b.toNat.testBit j) := by
  unfold orI
  rw [Int.toNat_natCast, Nat.testBit_or]
theorem orF_bit : ∀ (l : List Int) (a : Int) (j : Nat), (l.foldl orI a).toNat.testBit j = (a.toNat.testBit j || l.any fun x => x.toNat.testBit j)
  | [], a, j => by simp
  | x :: l, a, j => by
    rw [List.foldl_cons, orF_bit l, orI_bit, List.any_cons, Bool.or_assoc]
theorem orS_bit (l : List Int) (j : Nat) : (orS l).toNat.testBit j = l.any fun x => x.toNat.testBit j := by
  unfold orS
  rw [orF_bit]
  simp
theorem orF_nn : ∀ (l : List Int) (a : Int), 0 ≤ a → 0 ≤ l.foldl orI a
  | [], a, h => h
  | x :: l, a, _ => orF_nn l _ (orI_nn a x)
theorem orS_nn (l : List Int) : 0 ≤ orS l := orF_nn l 0 (Int.le_refl 0)
theorem int_bits {a b : Int} (ha : 0 ≤ a) (hb : 0 ≤ b) (h : ∀ j, a.toNat.testBit j = b.toNat.testBit j) : a = b := by
  have := Nat.eq_of_testBit_eq h
  omega
/-! ### which cells a span touches -/
def tchF' (s w : Sp) : Int := max s.1 w.1 - w.1
def tchT (s w : Sp) : Int := min s.2.1 w.2.1 - w.1
/-- a span touches a cell -/
def tchI (s w : Sp) (c : Int) (i : Nat) : Prop := tchF' s w < tchT s w ∧ tchF' s w < ((i : Int) + 1) * c ∧ (i : Int) * c < tchT s w
instance (s w : Sp) (c : Int) (i : Nat) : Decidable (tchI s w c i) := by unfold tchI; exact inferInstance
theorem tchA_iff {s w : Sp} {c : Int} (hc : 1 ≤ c) (i : Nat) : tchI s w c i ↔ ∃ k, k < tchN s w c ∧ (tchA s w c + (k : Int)).toNat = i := by
  have hA : 0 ≤ tchA s w c := Int.ediv_nonneg (by omega) (by omega)
  have e : tchA s w c = tchF' s w / c := rfl
  constructor
  · rintro ⟨h1, h2, h3⟩
    have h4 : tchA s w c ≤ (i : Int) := by
      rw [e]
      have : tchF' s w / c < (i : Int) + 1 := Int.ediv_lt_of_lt_mul (by omega) h2
      omega
    refine ⟨((i : Int) - tchA s w c).toNat, (tch_iff hc _).2 ⟨by unfold tchF' tchT at h1; omega, ?_⟩, by omega⟩
    have h5 : tchA s w c + (((i : Int) - tchA s w c).toNat : Int) = (i : Int) := by omega
    rw [h5]
    exact h3
  · rintro ⟨k, hk, rfl⟩
    obtain ⟨h1, h2⟩ := (tch_iff hc k).1 hk
    have h5 : ((tchA s w c + (k : Int)).toNat : Int) = tchA s w c + (k : Int) := by omega
    refine ⟨by unfold tchF' tchT; omega, ?_, by rw [h5]; exact h2⟩
    rw [h5]
    have h6 : tchF' s w < (tchF' s w / c + 1) * c := Int.lt_ediv_add_one_mul_self _ (by omega)
    have h7 : (tchF' s w / c + 1) * c ≤ (tchA s w c + (k : Int) + 1) * c := Int.mul_le_mul_of_nonneg_right (by rw [e]; omega) (by omega)
    omega
/-- a cell of one grain is touched just where one of its cells of a finer grain is -/
theorem tch_coarse {s w : Sp} {c : Int} (hc : 1 ≤ c) {r : Nat} (hr : 1 ≤ r) (I : Nat) : tchI s w ((r : Int) * c) I ↔ ∃ i, I * r ≤ i ∧ i < I * r + r ∧ tchI s w c i := by
  have e1 : (I : Int) * ((r : Int) * c) = ((I * r : Nat) : Int) * c := by rw [← Int.mul_assoc]; push_cast; rfl
  have e2 : ((I : Int) + 1) * ((r : Int) * c) = ((I * r + r : Nat) : Int) * c := by rw [← Int.mul_assoc, Int.add_mul, Int.one_mul]; push_cast; rfl
  have hF : 0 ≤ tchF' s w := by unfold tchF'; omega
  constructor
  · rintro ⟨h1, h2, h3⟩
    rw [e2] at h2
    rw [e1] at h3
    have hd : 0 ≤ tchF' s w / c := Int.ediv_nonneg hF (by omega)
    have h4 : tchF' s w / c < ((I * r + r : Nat) : Int) := Int.ediv_lt_of_lt_mul (by omega) h2
    have h5 : tchF' s w < (tchF' s w / c + 1) * c := Int.lt_ediv_add_one_mul_self _ (by omega)
    have h6 : tchF' s w / c * c ≤ tchF' s w := Int.ediv_mul_le _ (by omega)
    by_cases h7 : (tchF' s w / c) ≤ ((I * r : Nat) : Int)
    · refine ⟨I * r, Nat.le_refl _, by omega, h1, ?_, h3⟩
      have h8 : (tchF' s w / c + 1) * c ≤ (((I * r : Nat) : Int) + 1) * c := Int.mul_le_mul_of_nonneg_right (by omega) (by omega)
      omega
    · have e3 : (((tchF' s w / c).toNat : Nat) : Int) = tchF' s w / c := by omega
      refine ⟨(tchF' s w / c).toNat, by omega, by omega, h1, by rw [e3]; exact h5, by rw [e3]; omega⟩
  · rintro ⟨i, h1, h2, h3, h4, h5⟩
    refine ⟨h3, ?_, ?_⟩
    · rw [e2]
      have h6 : ((i : Int) + 1) * c ≤ ((I * r + r : Nat) : Int) * c := Int.mul_le_mul_of_nonneg_right (by omega) (by omega)
      omega
    · rw [e1]
      have h6 : ((I * r : Nat) : Int) * c ≤ (i : Int) * c := Int.mul_le_mul_of_nonneg_right (by omega) (by omega)
      omega
end Go.Proofs.YtbbeldmcdjjnbaaDoor
namespace Go.Proofs.YtbbeldmcdjjnbaaDoor
open Go Go.RowKit
set_option linter.unusedSimpArgs false
set_option linter.unusedVariables false
open Classical
theorem paint1_bit {bit : Int} {o : List Int} {p i : Nat} (hi : i < o.length) (j : Nat) : ((paint1 bit o p).getD i 0).toNat.testBit j = ((o.getD i 0).toNat.testBit j || (decide (p = i) && bit.toNat.testBit j)) := by
  unfold paint1
  by_cases h : p = i
  · subst h
    have e : (o.set p (orI (o.getD p 0) bit)).getD p 0 = orI (o.getD p 0) bit := by
      simp [List.getD_eq_getElem?_getD, hi]
    rw [e, orI_bit]
    simp
  · have e : (o.set p (orI (o.getD p 0) bit)).getD i 0 = o.getD i 0 := by
      simp [List.getD_eq_getElem?_getD, List.getElem?_set, h]
    rw [e]
    simp [h]
theorem paintK_bit (s w : Sp) (c bit : Int) {o : List Int} {i : Nat} (hi : i < o.length) (j : Nat) : ∀ k, ((paintK s w c bit o k).getD i 0).toNat.testBit j = ((o.getD i 0).toNat.testBit j || (decide (∃ q, q < k ∧ (tchA s w c + (q : Int)).toNat = i) && bit.toNat.testBit j))
  | 0 => by simp [paintK]
  | k + 1 => by
    rw [paintK_succ, paint1_bit (by rw [paintK_len]; exact hi), paintK_bit s w c bit hi j k]
    have e : decide (∃ q, q < k + 1 ∧ (tchA s w c + (q : Int)).toNat = i) = (decide (∃ q, q < k ∧ (tchA s w c + (q : Int)).toNat = i) || decide ((tchA s w c + (k : Int)).toNat = i)) := by
      rw [← Bool.decide_or]
      apply decide_eq_decide.2
      constructor
      · rintro ⟨q, h1, h2⟩
        by_cases hq : q < k
        · exact .inl ⟨q, hq, h2⟩
        · have : q = k := by omega
          subst this
          exact .inr h2
      · rintro (⟨q, h1, h2⟩ | h)
        · exact ⟨q, by omega, h2⟩
        · exact ⟨k, by omega, h⟩
    rw [e]
    cases (o.getD i 0).toNat.testBit j <;> cases bit.toNat.testBit j <;> simp
theorem paintM_bit {g : Int} (hg : 1 ≤ sizeS g) (w : Sp) (m : Mk) {o : List Int} {i : Nat} (hi : i < o.length) (j : Nat) : ((paintM g w o m).getD i 0).toNat.testBit j = ((o.getD i 0).toNat.testBit j || (decide (tchI m.1 w (sizeS g) i) && (bitOf g m).toNat.testBit j)) := by
  unfold paintM
  rw [paintK_bit _ _ _ _ hi]
  have e : decide (∃ q, q < tchN m.1 w (sizeS g) ∧ (tchA m.1 w (sizeS g) + (q : Int)).toNat = i) = decide (tchI m.1 w (sizeS g) i) := decide_eq_decide.2 (tchA_iff hg i).symm
  rw [e]
theorem paints_len (g : Int) (w : Sp) : ∀ (l : List Mk) (o : List Int), (l.foldl (paintM g w) o).length = o.length
  | [], _ => rfl
  | m :: l, o => by rw [List.foldl_cons, paints_len g w l]; unfold paintM; exact paintK_len ..
theorem paints_bit {g : Int} (hg : 1 ≤ sizeS g) (w : Sp) : ∀ (l : List Mk) {o : List Int} {i : Nat} (hi : i < o.length) (j : Nat), ((l.foldl (paintM g w) o).getD i 0).toNat.testBit j = ((o.getD i 0).toNat.testBit j || l.any fun m => decide (tchI m.1 w (sizeS g) i) && (bitOf g m).toNat.testBit j)
  | [], o, i, hi, j => by simp
  | m :: l, o, i, hi, j => by
    rw [List.foldl_cons, paints_bit hg w l (by unfold paintM; rw [paintK_len]; exact hi), paintM_bit hg w m hi, List.any_cons, Bool.or_assoc]
theorem paint1_nn {bit : Int} {o : List Int} (ho : ∀ x ∈ o, (0 : Int) ≤ x) (p : Nat) : ∀ x ∈ paint1 bit o p, (0 : Int) ≤ x := fun x hx => by
  unfold paint1 at hx
  rcases List.mem_or_eq_of_mem_set hx with h | h
  · exact ho x h
  · rw [h]; exact orI_nn _ _
theorem paintK_nn (s w : Sp) (c bit : Int) {o : List Int} (ho : ∀ x ∈ o, (0 : Int) ≤ x) : ∀ k, ∀ x ∈ paintK s w c bit o k, (0 : Int) ≤ x
  | 0 => ho
  | k + 1 => by rw [paintK_succ]; exact paint1_nn (paintK_nn s w c bit ho k) _
theorem paints_nn (g : Int) (w : Sp) : ∀ (l : List Mk) {o : List Int}, (∀ x ∈ o, (0 : Int) ≤ x) → ∀ x ∈ l.foldl (paintM g w) o, (0 : Int) ≤ x
  | [], _, h => h
  | m :: l, _, h => paints_nn g w l (paintK_nn _ _ _ _ h _)
/-- the view's list -/
def vL (l : List Mk) (g : Int) (w : Sp) (n : Nat) : List Int := l.foldl (paintM g w) (List.replicate n 0)
theorem vL_len (l : List Mk) (g : Int) (w : Sp) (n : Nat) : (vL l g w n).length = n := by unfold vL; rw [paints_len, List.length_replicate]
theorem vL_nn (l : List Mk) (g : Int) (w : Sp) (n : Nat) : ∀ x ∈ vL l g w n, (0 : Int) ≤ x := paints_nn g w l fun x hx => by rw [List.eq_of_mem_replicate hx]; exact Int.le_refl 0
theorem vL_bit {g : Int} (hg : 1 ≤ sizeS g) (l : List Mk) (w : Sp) {n i : Nat} (hi : i < n) (j : Nat) : ((vL l g w n).getD i 0).toNat.testBit j = l.any fun m => decide (tchI m.1 w (sizeS g) i) && (bitOf g m).toNat.testBit j := by
  unfold vL
  rw [paints_bit hg w l (by rw [List.length_replicate]; exact hi)]
  have e : (List.replicate n (0 : Int)).getD i 0 = 0 := by simp [List.getD_eq_getElem?_getD, List.getElem?_replicate, hi]
  rw [e]
  simp
theorem mem_chAt {v : List Int} {r I : Nat} {x : Int} (hIr : I * r + r ≤ v.length) : x ∈ chAt v r I ↔ ∃ i, I * r ≤ i ∧ i < I * r + r ∧ v.getD i 0 = x := by
  unfold chAt
  rw [List.mem_iff_getElem?]
  constructor
  · rintro ⟨q, hq⟩
    rw [List.getElem?_take] at hq
    split at hq
    · rename_i hqr
      rw [List.getElem?_drop] at hq
      exact ⟨I * r + q, by omega, by omega, by rw [List.getD_eq_getElem?_getD, hq]; rfl⟩
    · cases hq
  · rintro ⟨i, h1, h2, h3⟩
    refine ⟨i - I * r, ?_⟩
    rw [List.getElem?_take, if_pos (by omega), List.getElem?_drop, show I * r + (i - I * r) = i by omega]
    rw [← h3, List.getD_eq_getElem?_getD, List.getElem?_eq_getElem (by omega)]
    rfl
theorem bit_pos {n : Nat} : n ≠ 0 ↔ ∃ j, n.testBit j = true := by
  constructor
  · intro h
    exact Nat.exists_testBit_of_ne_zero h
  · rintro ⟨j, h⟩ rfl
    simp at h
theorem bits_bit {to x : Int} (hx : 0 ≤ x) (j : Nat) : (bitsS to x).toNat.testBit j = if to ≤ 2 then decide (j = 0) && decide (∃ q, x.toNat.testBit q = true) else x.toNat.testBit j := by
  unfold bitsS
  split
  · by_cases h : x = 0
    · subst h
      rw [show (min 0 1 : Int) = 0 from rfl]
      simp
    · have e : (min x 1).toNat = 1 := by omega
      have e2 : ∃ q, x.toNat.testBit q = true := bit_pos.1 (by omega)
      rw [e, decide_eq_true e2, Bool.and_true]
      cases j with
      | zero => rfl
      | succ j => simp [Nat.testBit_succ]
  · rfl
/-- the coarser form of a view is the coarser view -/
theorem vL_coarse {g to : Int} (hg : 1 ≤ sizeS g) {r : Nat} (hr : 1 ≤ r) (hs : sizeS to = (r : Int) * sizeS g) (hle : to ≤ g) {l : List Mk} (hl : ∀ m ∈ l, 1 ≤ m.2.1) (w : Sp) {n : Nat} :
    ((List.range n).map fun k => orS ((chAt (vL l g w (n * r)) r k).map (bitsS to))) = vL l to w n := by
  apply List.ext_getElem?
  intro I
  by_cases hI : I < n
  · have hto : 1 ≤ sizeS to := by rw [hs]; exact Int.le_trans (by omega) (Int.mul_le_mul (show (1 : Int) ≤ (r : Int) by omega) hg (by omega) (by omega))
    rw [List.getElem?_map, List.getElem?_range hI, Option.map_some, List.getElem?_eq_getElem (by rw [vL_len]; exact hI)]
    congr 1
    have hIr : I * r + r ≤ (vL l g w (n * r)).length := by
      rw [vL_len]
      calc I * r + r = (I + 1) * r := by rw [Nat.add_mul, Nat.one_mul]
        _ ≤ n * r := Nat.mul_le_mul_right r hI
    have eR : (vL l to w n)[I]'(by rw [vL_len]; exact hI) = (vL l to w n).getD I 0 := by rw [List.getD_eq_getElem?_getD, List.getElem?_eq_getElem (by rw [vL_len]; exact hI)]; rfl
    rw [eR]
    refine int_bits (orS_nn _) ?_ fun j => ?_
    · rw [← eR]; exact vL_nn _ _ _ _ _ (List.getElem_mem _)
    rw [orS_bit, vL_bit hto l w hI, List.any_map, Bool.eq_iff_iff, List.any_eq_true, List.any_eq_true]
    have hb : ∀ i, i < n * r → ∀ q, ((vL l g w (n * r)).getD i 0).toNat.testBit q = true ↔ ∃ m ∈ l, tchI m.1 w (sizeS g) i ∧ (bitOf g m).toNat.testBit q = true := fun i hi q => by
      rw [vL_bit hg l w hi, List.any_eq_true]
      simp only [Bool.and_eq_true, decide_eq_true_eq]
    have hnn : ∀ i, 0 ≤ (vL l g w (n * r)).getD i 0 := fun i => by
      by_cases hi : i < (vL l g w (n * r)).length
      · rw [List.getD_eq_getElem?_getD, List.getElem?_eq_getElem hi]; exact vL_nn _ _ _ _ _ (List.getElem_mem _)
      · rw [List.getD_eq_getElem?_getD, List.getElem?_eq_none (by omega)]; exact Int.le_refl 0
    have hlen : (vL l g w (n * r)).length = n * r := vL_len ..
    rw [hlen] at hIr
    constructor
    · rintro ⟨x, hx, hxj⟩
      obtain ⟨i, h1, h2, h3⟩ := (mem_chAt (by rw [hlen]; exact hIr)).1 hx
      have hi : i < n * r := by omega
      have hxj : (bitsS to x).toNat.testBit j = true := hxj
      rw [bits_bit (by rw [← h3]; exact hnn i)] at hxj
      by_cases ht : to ≤ 2
      · rw [if_pos ht, Bool.and_eq_true, decide_eq_true_eq, decide_eq_true_eq] at hxj
        obtain ⟨rfl, q, hq⟩ := hxj
        rw [← h3] at hq
        obtain ⟨m, hm, h4, h5⟩ := (hb i hi q).1 hq
        refine ⟨m, hm, ?_⟩
        rw [Bool.and_eq_true, decide_eq_true_eq, hs, tch_coarse hg hr]
        exact ⟨⟨i, h1, h2, h4⟩, by unfold bitOf; rw [if_neg (by omega)]; rfl⟩
      · rw [if_neg ht, ← h3] at hxj
        obtain ⟨m, hm, h4, h5⟩ := (hb i hi j).1 hxj
        refine ⟨m, hm, ?_⟩
        rw [Bool.and_eq_true, decide_eq_true_eq, hs, tch_coarse hg hr]
        refine ⟨⟨i, h1, h2, h4⟩, ?_⟩
        unfold bitOf at h5 ⊢
        rw [if_pos (by omega)] at h5 ⊢
        exact h5
    · rintro ⟨m, hm, h4⟩
      rw [Bool.and_eq_true, decide_eq_true_eq, hs, tch_coarse hg hr] at h4
      obtain ⟨⟨i, h1, h2, h3⟩, h5⟩ := h4
      have hi : i < n * r := by omega
      refine ⟨_, (mem_chAt (by rw [hlen]; exact hIr)).2 ⟨i, h1, h2, rfl⟩, ?_⟩
      show (bitsS to _).toNat.testBit j = true
      rw [bits_bit (hnn i)]
      by_cases ht : to ≤ 2
      · rw [if_pos ht, Bool.and_eq_true, decide_eq_true_eq, decide_eq_true_eq]
        unfold bitOf at h5
        rw [if_neg (by omega)] at h5
        refine ⟨?_, ?_⟩
        · cases j with
          | zero => rfl
          | succ j => simp [Nat.testBit_succ] at h5
        · have hne : (bitOf g m).toNat ≠ 0 := by
            unfold bitOf
            split
            · have : (2 : Int) ^ (m.2.1 - 1).toNat = ((2 ^ (m.2.1 - 1).toNat : Nat) : Int) := by simp
              rw [this, Int.toNat_natCast]
              exact Nat.ne_of_gt (Nat.two_pow_pos _)
            · decide
          obtain ⟨q, hq⟩ := bit_pos.1 hne
          exact ⟨q, (hb i hi q).2 ⟨m, hm, h3, hq⟩⟩
      · rw [if_neg ht]
        refine (hb i hi j).2 ⟨m, hm, h3, ?_⟩
        unfold bitOf at h5 ⊢
        rw [if_pos (by omega)] at h5 ⊢
        exact h5
  · rw [List.getElem?_eq_none (by rw [List.length_map, List.length_range]; omega), List.getElem?_eq_none (by rw [vL_len]; omega)]
/-! ### the window of two days -/
def W27 : Sp := (0, 2880, ())
def NW (g : Int) : Nat := ([0, 2, 96, 96, 2880] : List Nat).getD g.toNat 0
theorem grains {g : Int} (h1 : 1 ≤ g) (h4 : g ≤ 4) : g = 1 ∨ g = 2 ∨ g = 3 ∨ g = 4 := by omega
theorem cells27 {g : Int} (h1 : 1 ≤ g) (h4 : g ≤ 4) : cellsS g W27 = (((NW g : Nat) : Int), 0) := by
  rcases grains h1 h4 with rfl | rfl | rfl | rfl <;> kernel_rfl
theorem view27 {g : Int} (h1 : 1 ≤ g) (h4 : g ≤ 4) {l : List Mk} (hm : marksOk l = true) : viewS l g W27 = (vL l g W27 (NW g), 0) := by
  unfold viewS
  rw [if_neg (by rw [hm]; decide), cells27 h1 h4, if_neg (by simp)]
  rfl
theorem view27_0 {l : List Mk} (hm : marksOk l = true) : viewS l 0 W27 = ([], 12) := by
  unfold viewS
  rw [if_neg (by rw [hm]; decide), show cellsS 0 W27 = (0, 12) from by kernel_rfl, if_pos (by decide)]
theorem marks_kind {l : List Mk} (hm : marksOk l = true) : ∀ m ∈ l, 1 ≤ m.2.1 ∧ m.2.1 ≤ 8 := by
  intro m h
  have h2 : mkBad m = false := by
    unfold marksOk at hm
    simp only [Bool.not_eq_true', List.any_eq_false] at hm
    simpa using hm m h
  unfold mkBad at h2
  simp only [Bool.or_eq_false_iff, decide_eq_false_iff_not] at h2
  omega
theorem vL_most {g : Int} (h1 : 1 ≤ g) (h4 : g ≤ 4) {l : List Mk} (hm : marksOk l = true) (w : Sp) (n : Nat) : ∀ x ∈ vL l g w n, 0 ≤ x ∧ x ≤ mostS g := by
  intro x hx
  have h0 := vL_nn l g w n x hx
  refine ⟨h0, ?_⟩
  obtain ⟨i, hi⟩ := List.mem_iff_getElem?.1 hx
  have hil : i < n := by
    have := (List.getElem?_eq_some_iff.1 hi).1
    rwa [vL_len] at this
  have hg : 1 ≤ sizeS g := (sizeS_pos (by omega) h4).1
  have hx2 : (vL l g w n).getD i 0 = x := by rw [List.getD_eq_getElem?_getD, hi]; rfl
  have hb : ∀ j, x.toNat.testBit j = true → ∃ m ∈ l, (bitOf g m).toNat.testBit j = true := fun j hj => by
    rw [← hx2, vL_bit hg l w hil, List.any_eq_true] at hj
    obtain ⟨m, h5, h6⟩ := hj
    rw [Bool.and_eq_true] at h6
    exact ⟨m, h5, h6.2⟩
  have key : ∀ e, (∀ j, e ≤ j → x.toNat.testBit j = false) → x.toNat < 2 ^ e := fun e h => Nat.lt_pow_two_of_testBit _ fun j hj => h j hj
  unfold mostS
  split
  · rename_i hg3
    have := key 8 fun j hj => by
      cases hq : x.toNat.testBit j with
      | false => rfl
      | true =>
        obtain ⟨m, h5, h6⟩ := hb j hq
        have h7 := marks_kind hm m h5
        unfold bitOf at h6
        rw [if_pos hg3, show (2 : Int) ^ (m.2.1 - 1).toNat = ((2 ^ (m.2.1 - 1).toNat : Nat) : Int) by simp, Int.toNat_natCast, Nat.testBit_two_pow] at h6
        have h6 := of_decide_eq_true h6
        omega
    omega
  · rename_i hg3
    have := key 1 fun j hj => by
      cases hq : x.toNat.testBit j with
      | false => rfl
      | true =>
        obtain ⟨m, h5, h6⟩ := hb j hq
        unfold bitOf at h6
        rw [if_neg hg3] at h6
        cases j with
        | zero => omega
        | succ j => simp [Nat.testBit_succ] at h6
    omega
theorem ratio27 {g to : Int} (h1 : 1 ≤ to) (h2 : to ≤ g) (h4 : g ≤ 4) : NW g = NW to * ratioS g to ∧ sizeS to = (ratioS g to : Int) * sizeS g ∧ 1 ≤ ratioS g to ∧ 1 ≤ NW to := by
  rcases grains (Int.le_trans h1 h2) h4 with rfl | rfl | rfl | rfl <;> rcases grains h1 (Int.le_trans h2 h4) with rfl | rfl | rfl | rfl <;> first | omega | decide
theorem coarser27 {g to : Int} (h1 : 1 ≤ to) (h2 : to ≤ g) (h4 : g ≤ 4) {l : List Mk} (hm : marksOk l = true) : coarserS (vL l g W27 (NW g)) g to W27 = (vL l to W27 (NW to), 0) := by
  obtain ⟨hN, hs, hr, hn⟩ := ratio27 h1 h2 h4
  unfold coarserS
  rw [cells27 (Int.le_trans h1 h2) h4, cells27 h1 (Int.le_trans h2 h4), if_neg (by simp)]
  have hp : possS (vL l g W27 (NW g)) g ((NW g : Nat) : Int) = true := by
    unfold possS
    rw [vL_len]
    simp only [beq_self_eq_true, Bool.true_and, Bool.not_eq_true', List.any_eq_false]
    intro x hx
    have := vL_most (Int.le_trans h1 h2) h4 hm W27 _ x hx
    unfold offV
    rw [decide_eq_false (by omega), decide_eq_false (by omega)]
    decide
  rw [if_neg (by rw [hp]; intro h; rcases h with h | h | h; cases h; omega; omega), if_neg (by simp)]
  congr 1
  unfold coarsS
  rw [hN]
  have hc : chN (vL l g W27 (NW to * ratioS g to)) (ratioS g to) = NW to := by
    unfold chN
    rw [vL_len, show NW to * ratioS g to + ratioS g to - 1 = (ratioS g to - 1) + ratioS g to * NW to by rw [Nat.mul_comm]; omega, Nat.add_mul_div_left _ _ (by omega), Nat.div_eq_of_lt (by omega), Nat.zero_add]
  rw [hc]
  exact vL_coarse (sizeS_pos (by omega) h4).1 hr hs h2 (fun m h => (marks_kind hm m h).1) W27
theorem vL_ne {g : Int} (h1 : 1 ≤ g) (h4 : g ≤ 4) (l : List Mk) : vL l g W27 (NW g) ≠ [] := by
  intro h
  have h2 := vL_len l g W27 (NW g)
  rw [h] at h2
  rcases grains h1 h4 with rfl | rfl | rfl | rfl <;> cases h2
end Go.Proofs.YtbbeldmcdjjnbaaDoor
