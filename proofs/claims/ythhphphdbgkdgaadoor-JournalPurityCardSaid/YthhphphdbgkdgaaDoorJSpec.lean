/-
  The records of a journal as plain functions on lists of bytes, and plain facts on them. No program is read here.
-/
import Derived.Test.YthhphphdbgkdgaaDoorShaSpec
namespace Go.Proofs.YthhphphdbgkdgaaDoor
open Go
set_option linter.unusedSimpArgs false
set_option linter.unusedVariables false
def le4 (n : Nat) : List UInt8 := [UInt8.ofNat n, UInt8.ofNat (n / 256), UInt8.ofNat (n / 65536), UInt8.ofNat (n / 16777216)]
def size4 (b : List UInt8) : Nat := (b.getD 0 0).toNat + 256 * (b.getD 1 0).toNat + 65536 * (b.getD 2 0).toNat + 16777216 * (b.getD 3 0).toNat
/-- the record of a payload -/
def rcd (x : List UInt8) : List UInt8 := le4 x.length ++ (sha x).take 8 ++ x
/-- the length of the sound record at the beginning, or 0 -/
def first (b : List UInt8) : Nat :=
  if b.length < 12 then 0 else if b.length - 12 < size4 b then 0
  else if (b.drop 4).take 8 = (sha ((b.drop 12).take (size4 b))).take 8 then 12 + size4 b else 0
def recsF : Nat → List UInt8 → List (List UInt8) × Nat
  | 0, _ => ([], 0)
  | f + 1, b => if first b = 0 then ([], 0) else ((b.drop 12).take (first b - 12) :: (recsF f (b.drop (first b))).1, first b + (recsF f (b.drop (first b))).2)
/-- the payloads of the sound prefix, and its length -/
def recs (b : List UInt8) : List (List UInt8) × Nat := recsF b.length b
def cat (l : List (List UInt8)) : List UInt8 := (l.map rcd).flatten
theorem le4_length (n : Nat) : (le4 n).length = 4 := rfl
theorem size4_lt (b : List UInt8) : size4 b < 2 ^ 32 := by
  have h0 := (b.getD 0 0).toNat_lt
  have h1 := (b.getD 1 0).toNat_lt
  have h2 := (b.getD 2 0).toNat_lt
  have h3 := (b.getD 3 0).toNat_lt
  unfold size4
  omega
theorem size4_le4 (n : Nat) (t : List UInt8) (h : n < 2 ^ 32) : size4 (le4 n ++ t) = n := by
  show (UInt8.ofNat n).toNat + 256 * (UInt8.ofNat (n / 256)).toNat + 65536 * (UInt8.ofNat (n / 65536)).toNat + 16777216 * (UInt8.ofNat (n / 16777216)).toNat = n
  simp only [UInt8.toNat_ofNat']
  omega
theorem le4_size4 {b : List UInt8} (h : 4 ≤ b.length) : le4 (size4 b) = b.take 4 := by
  match b, h with
  | a :: b :: c :: d :: t, _ =>
    show [UInt8.ofNat (a.toNat + 256 * b.toNat + 65536 * c.toNat + 16777216 * d.toNat), UInt8.ofNat ((a.toNat + 256 * b.toNat + 65536 * c.toNat + 16777216 * d.toNat) / 256),
      UInt8.ofNat ((a.toNat + 256 * b.toNat + 65536 * c.toNat + 16777216 * d.toNat) / 65536), UInt8.ofNat ((a.toNat + 256 * b.toNat + 65536 * c.toNat + 16777216 * d.toNat) / 16777216)] = [a, b, c, d]
    have ha := a.toNat_lt
    have hb := b.toNat_lt
    have hc := c.toNat_lt
    have hd := d.toNat_lt
    have e : ∀ (n : Nat) (z : UInt8), n % 256 = z.toNat → UInt8.ofNat n = z := fun n z h => UInt8.toNat_inj.1 (by rw [UInt8.toNat_ofNat']; exact h)
    rw [e _ a (by omega), e _ b (by omega), e _ c (by omega), e _ d (by omega)]
theorem rcd_length (x : List UInt8) : (rcd x).length = 12 + x.length := by
  simp only [rcd, List.length_append, le4_length, List.length_take, sha_length]
  omega
theorem rcd_size (x t : List UInt8) (h : x.length < 2 ^ 32) : size4 (rcd x ++ t) = x.length := by
  unfold rcd
  rw [List.append_assoc, List.append_assoc, size4_le4 _ _ h]
theorem rcd_body (x t : List UInt8) : (rcd x ++ t).drop 12 = x ++ t := by
  have e : rcd x ++ t = (le4 x.length ++ (sha x).take 8) ++ (x ++ t) := by simp [rcd]
  rw [e, List.drop_left' (by simp [le4_length, sha_length])]
theorem rcd_check (x t : List UInt8) : ((rcd x ++ t).drop 4).take 8 = (sha x).take 8 := by
  have e : rcd x ++ t = le4 x.length ++ ((sha x).take 8 ++ (x ++ t)) := by simp [rcd]
  rw [e, List.drop_left' (le4_length _), List.take_left' (by simp [sha_length])]
theorem first_rcd (x t : List UInt8) (h : x.length < 2 ^ 32) : first (rcd x ++ t) = 12 + x.length := by
  have hl : (rcd x ++ t).length = 12 + x.length + t.length := by rw [List.length_append, rcd_length]
  unfold first
  rw [if_neg (by omega), rcd_size _ _ h, if_neg (by omega), if_pos]
  rw [rcd_check, rcd_body, List.take_left]
/-- what is sound is a record -/
theorem first_some {b : List UInt8} (h : first b ≠ 0) : 12 ≤ first b ∧ first b ≤ b.length ∧ first b = 12 + size4 b ∧ b.take (first b) = rcd ((b.drop 12).take (first b - 12)) ∧ ((b.drop 12).take (first b - 12)).length = first b - 12 := by
  unfold first at h ⊢
  split at h
  · exact absurd rfl h
  · rename_i h1
    split at h
    · exact absurd rfl h
    · rename_i h2
      split at h
      · rename_i h3
        rw [if_neg h1, if_neg h2, if_pos h3]
        have hl : ((b.drop 12).take (size4 b)).length = size4 b := by rw [List.length_take, List.length_drop]; omega
        refine ⟨by omega, by omega, rfl, ?_, ?_⟩
        · rw [show 12 + size4 b - 12 = size4 b by omega]
          unfold rcd
          rw [hl, ← h3, le4_size4 (by omega)]
          rw [show 12 + size4 b = 4 + (8 + size4 b) by omega, List.take_add, List.take_add, List.drop_drop, List.append_assoc]
        · rw [show 12 + size4 b - 12 = size4 b by omega]
          exact hl
      · exact absurd rfl h
theorem first_eq {b : List UInt8} (h1 : 12 ≤ b.length) (h2 : size4 b ≤ b.length - 12) : first b = if rcd ((b.drop 12).take (size4 b)) = b.take (12 + size4 b) then 12 + size4 b else 0 := by
  have hl : ((b.drop 12).take (size4 b)).length = size4 b := by rw [List.length_take, List.length_drop]; omega
  by_cases h : rcd ((b.drop 12).take (size4 b)) = b.take (12 + size4 b)
  · rw [if_pos h]
    have e : b = rcd ((b.drop 12).take (size4 b)) ++ b.drop (12 + size4 b) := by rw [h, List.take_append_drop]
    have hs := size4_lt b
    have e2 := first_rcd ((b.drop 12).take (size4 b)) (b.drop (12 + size4 b)) (by rw [hl]; exact hs)
    rw [← e, hl] at e2
    exact e2
  · rw [if_neg h]
    by_cases h0 : first b = 0
    · exact h0
    · obtain ⟨_, _, g1, g2, _⟩ := first_some h0
      rw [g1, show 12 + size4 b - 12 = size4 b by omega] at g2
      exact absurd g2.symm h
theorem first_le (b : List UInt8) : first b ≤ b.length := by
  by_cases h : first b = 0
  · omega
  · exact (first_some h).2.1
theorem recsF_enough : ∀ (f g : Nat) (b : List UInt8), b.length ≤ f → b.length ≤ g → recsF f b = recsF g b
  | 0, 0, _, _, _ => rfl
  | 0, g + 1, b, h, _ => by
    have : b = [] := List.eq_nil_of_length_eq_zero (by omega)
    subst this
    rfl
  | f + 1, 0, b, _, h => by
    have : b = [] := List.eq_nil_of_length_eq_zero (by omega)
    subst this
    rfl
  | f + 1, g + 1, b, hf, hg => by
    unfold recsF
    by_cases h : first b = 0
    · rw [if_pos h, if_pos h]
    · have h1 := first_some h
      have hd : (b.drop (first b)).length ≤ f ∧ (b.drop (first b)).length ≤ g := by rw [List.length_drop]; omega
      rw [if_neg h, if_neg h, recsF_enough f g _ hd.1 hd.2]
theorem recs_eq (b : List UInt8) : recs b = if first b = 0 then ([], 0) else ((b.drop 12).take (first b - 12) :: (recs (b.drop (first b))).1, first b + (recs (b.drop (first b))).2) := by
  have e : recs b = recsF (b.length + 1) b := recsF_enough _ _ _ (Nat.le_refl _) (Nat.le_succ _)
  rw [e]
  show (if first b = 0 then ([], 0) else _) = _
  by_cases h : first b = 0
  · rw [if_pos h, if_pos h]
  · rw [if_neg h, if_neg h]
    rw [recsF_enough b.length (b.drop (first b)).length (b.drop (first b)) (by rw [List.length_drop]; omega) (Nat.le_refl _)]
    rfl
theorem recs_none {b : List UInt8} (h : first b = 0) : recs b = ([], 0) := by rw [recs_eq, if_pos h]
theorem recs_some {b : List UInt8} (h : first b ≠ 0) : recs b = ((b.drop 12).take (first b - 12) :: (recs (b.drop (first b))).1, first b + (recs (b.drop (first b))).2) := by
  rw [recs_eq, if_neg h]
theorem recs_nil : recs [] = ([], 0) := recs_none rfl
def small (l : List (List UInt8)) : Prop := ∀ x ∈ l, x.length < 2 ^ 32
theorem cat_cons (x : List UInt8) (l : List (List UInt8)) : cat (x :: l) = rcd x ++ cat l := rfl
theorem cat_append (l m : List (List UInt8)) : cat (l ++ m) = cat l ++ cat m := by unfold cat; rw [List.map_append, List.flatten_append]
theorem cat_one (x : List UInt8) : cat [x] = rcd x := by unfold cat; simp
theorem recs_rcd (x t : List UInt8) (h : x.length < 2 ^ 32) : recs (rcd x ++ t) = (x :: (recs t).1, (rcd x).length + (recs t).2) := by
  have e := first_rcd x t h
  have hd : (rcd x ++ t).drop (12 + x.length) = t := List.drop_left' (rcd_length x)
  rw [recs_some (by rw [e]; omega), e, hd, rcd_body, rcd_length]
  rw [show 12 + x.length - 12 = x.length by omega, List.take_left]
theorem recs_cat (l : List (List UInt8)) (t : List UInt8) (h : small l) : recs (cat l ++ t) = (l ++ (recs t).1, (cat l).length + (recs t).2) := by
  induction l with
  | nil => simp [cat]
  | cons x l ih =>
    rw [cat_cons, List.append_assoc, recs_rcd _ _ (h x (by simp)), ih fun y hy => h y (by simp [hy])]
    simp only [List.length_append, List.cons_append]
    congr 1
    omega
theorem recs_whole (l : List (List UInt8)) (h : small l) : recs (cat l) = (l, (cat l).length) := by
  have := recs_cat l [] h
  rw [recs_nil, List.append_nil, List.append_nil] at this
  exact this
theorem recs_sound : ∀ (n : Nat) (b : List UInt8), b.length ≤ n → (recs b).2 ≤ b.length ∧ b.take (recs b).2 = cat (recs b).1 ∧ small (recs b).1
  | 0, b, hb => by
    have : b = [] := List.eq_nil_of_length_eq_zero (by omega)
    subst this
    rw [recs_nil]
    exact ⟨Nat.le_refl _, rfl, fun x hx => by cases hx⟩
  | n + 1, b, hb => by
    by_cases h : first b = 0
    · rw [recs_none h]
      exact ⟨Nat.zero_le _, rfl, fun x hx => by cases hx⟩
    · obtain ⟨h1, h2, h3, h4, h5⟩ := first_some h
      obtain ⟨i1, i2, i3⟩ := recs_sound n (b.drop (first b)) (by rw [List.length_drop]; omega)
      rw [recs_some h]
      refine ⟨by rw [List.length_drop] at i1; simp only; omega, ?_, ?_⟩
      · simp only
        rw [List.take_add, i2, h4, cat_cons]
      · intro x hx
        rcases List.mem_cons.1 hx with rfl | hx
        · have := size4_lt b
          omega
        · exact i3 x hx
theorem recs_le (b : List UInt8) : (recs b).2 ≤ b.length := (recs_sound _ b (Nat.le_refl _)).1
theorem recs_take (b : List UInt8) : b.take (recs b).2 = cat (recs b).1 := (recs_sound _ b (Nat.le_refl _)).2.1
theorem recs_small (b : List UInt8) : small (recs b).1 := (recs_sound _ b (Nat.le_refl _)).2.2
theorem recs_len (b : List UInt8) : (cat (recs b).1).length = (recs b).2 := by
  rw [← recs_take, List.length_take]
  have := recs_le b
  omega
theorem recs_again (b : List UInt8) : recs (b.take (recs b).2) = recs b := by
  rw [recs_take, recs_whole _ (recs_small b), recs_len]
theorem first_short (x : List UInt8) (m : Nat) (hm : m < (rcd x).length) (h : x.length < 2 ^ 32) : first ((rcd x).take m) = 0 := by
  rw [rcd_length] at hm
  have hl : ((rcd x).take m).length = m := by rw [List.length_take, rcd_length]; omega
  unfold first
  by_cases h1 : m < 12
  · rw [if_pos (by omega)]
  · rw [if_neg (by omega), if_pos]
    have e : size4 ((rcd x).take m) = x.length := by
      have e1 : ∀ k, k < 4 → ((rcd x).take m).getD k 0 = (rcd x).getD k 0 := fun k hk => by
        rw [List.getD_eq_getElem?_getD, List.getD_eq_getElem?_getD, List.getElem?_take, if_pos (by omega)]
      have e2 := rcd_size x [] h
      rw [List.append_nil] at e2
      unfold size4 at e2 ⊢
      rw [e1 0 (by omega), e1 1 (by omega), e1 2 (by omega), e1 3 (by omega)]
      exact e2
    rw [e, hl]
    omega
/-- a part of a sound log -/
theorem recs_part (l : List (List UInt8)) (h : small l) (m : Nat) : (recs ((cat l).take m)).1 <+: l := by
  induction l generalizing m with
  | nil => rw [show (cat []).take m = [] from by simp [cat], recs_nil]; exact List.prefix_refl _
  | cons x l ih =>
    rw [cat_cons]
    by_cases hm : m < (rcd x).length
    · rw [List.take_append_of_le_length (by omega), recs_none (first_short x m hm (h x (by simp)))]
      exact List.nil_prefix
    · rw [List.take_append, List.take_of_length_le (by omega), recs_rcd _ _ (h x (by simp))]
      exact List.cons_prefix_cons.2 ⟨rfl, ih (fun y hy => h y (by simp [hy])) _⟩
/-- what agrees with a sound log so far has its records so far -/
theorem recs_agree (l : List (List UInt8)) (h : small l) (w n : Nat) (c : List UInt8) (hc : c.take n = (cat l).take n) (hw : (cat (l.take w)).length ≤ n) : l.take w <+: (recs c).1 := by
  have e : cat l = cat (l.take w) ++ cat (l.drop w) := by rw [← cat_append, List.take_append_drop]
  have e2 : c.take (cat (l.take w)).length = cat (l.take w) := by
    have := congrArg (List.take (cat (l.take w)).length) hc
    rw [List.take_take, List.take_take, Nat.min_eq_left hw, e, List.take_left] at this
    exact this
  rw [← List.take_append_drop (cat (l.take w)).length c, e2, recs_cat _ _ (fun x hx => h x (List.mem_of_mem_take hx))]
  exact List.prefix_append _ _
end Go.Proofs.YthhphphdbgkdgaaDoor
