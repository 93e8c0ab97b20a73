/-
  Logs that crash: plain laws. No program is read here.
-/
import Derived.Test.YtggappighcdbmaaDoorJFill
namespace Go.Proofs.YtggappighcdbmaaDoor
open Go Go.RowKit
set_option linter.unusedSimpArgs false
set_option linter.unusedVariables false
theorem torn_length (r : List UInt8) (t : Tr) : (torn r t).length = min t.1.toNat r.length := by
  unfold torn
  split
  · rw [List.length_set, List.length_take]
  · rw [List.length_take]
/-- the bytes behind a crash -/
def crB (l : Lg) (t : Tr) : List UInt8 := l.1.take l.2.1.toNat ++ torn (l.1.drop l.2.1.toNat) t
theorem crash_good {l : Lg} {t : Tr} (hv : validL l = true) (hk : 0 ≤ t.1) : crashS l t = ((crB l t, l.2.1, ()), 0, ()) := by
  unfold crashS
  rw [if_pos ⟨hv, hk⟩]
  rfl
theorem crash_bad {l : Lg} {t : Tr} (hk : t.1 < 0) : crashS l t = (zLog, 1, ()) := by
  unfold crashS
  rw [if_neg (by omega)]
theorem crB_length {l : Lg} (t : Tr) (hv : validL l = true) : (crB l t).length ≤ l.1.length ∧ l.2.1.toNat ≤ (crB l t).length := by
  obtain ⟨⟨h1, h2⟩, h3⟩ := validL_iff.1 hv
  unfold crB
  rw [List.length_append, torn_length, List.length_take, List.length_drop]
  omega
theorem crB_valid {l : Lg} (t : Tr) (hv : validL l = true) : validL (crB l t, l.2.1, ()) = true := by
  obtain ⟨⟨h1, h2⟩, h3⟩ := validL_iff.1 hv
  obtain ⟨h4, h5⟩ := crB_length t hv
  refine validL_iff.2 ⟨⟨h1, ?_⟩, ?_⟩
  · show l.2.1 ≤ ((crB l t).length : Nat)
    omega
  · show ((crB l t).length : Int) ≤ 1048576
    omega
theorem crB_take {l : Lg} (t : Tr) (hv : validL l = true) : (crB l t).take l.2.1.toNat = l.1.take l.2.1.toNat := by
  obtain ⟨⟨h1, h2⟩, h3⟩ := validL_iff.1 hv
  unfold crB
  rw [List.take_left' (by rw [List.length_take]; omega)]
/-- no byte changed -/
theorem crB_clean {l : Lg} {t : Tr} (ht : t.2.1 < 0) : crB l t = l.1.take (l.2.1.toNat + t.1.toNat) := by
  unfold crB torn
  rw [if_neg (by omega), List.take_add]
/-- what lies before the changed byte -/
theorem crB_before {l : Lg} {t : Tr} (hl : l.2.1 = 0) (n : Nat) (h1 : n ≤ (crB l t).length) (h2 : 0 ≤ t.2.1 → t.2.1 < ((crB l t).length : Nat) → (n : Int) ≤ t.2.1) : (crB l t).take n = l.1.take n := by
  have hz : l.2.1.toNat = 0 := by omega
  have e : crB l t = torn l.1 t := by unfold crB; rw [hz]; rfl
  rw [e] at h1 h2 ⊢
  have hlen := torn_length l.1 t
  rw [hlen] at h1 h2
  have ht : (l.1.take t.1.toNat).take n = l.1.take n := by rw [List.take_take, Nat.min_eq_left (by omega)]
  unfold torn
  split
  · rename_i h3
    rw [List.length_take] at h3
    have := h2 h3.1 h3.2
    rw [List.take_set_of_le (by omega), ht]
  · exact ht
theorem prefix_cat {a b : List (List UInt8)} (h : a <+: b) : (cat a).length ≤ (cat b).length := by
  obtain ⟨c, rfl⟩ := h
  rw [cat_append, List.length_append]
  omega
/-- after a crash the synced ones are there -/
theorem crash_keeps {l : Lg} {k : List (List UInt8)} (t : Tr) (hv : validL l = true) (hk : small k) (hl : l.1.take l.2.1.toNat = cat k) : k <+: (recs (crB l t)).1 := by
  have h1 := crB_take t hv
  rw [hl] at h1
  have := recs_cat k ((crB l t).drop l.2.1.toNat) hk
  rw [← h1, List.take_append_drop] at this
  rw [this]
  exact List.prefix_append _ _
theorem repair_good {l : Lg} (hv : validL l = true) (h : l.2.1 ≤ ((recs l.1).2 : Int)) : repairS l = ((cat (recs l.1).1, (((cat (recs l.1).1).length : Nat) : Int), ()), 0, ()) := by
  unfold repairS
  rw [if_pos hv, if_neg (by omega), recs_take, recs_len]
/-- crash and repair: a sound log, all of it synced, beginning with what was synced -/
theorem crash_repair {l : Lg} {k : List (List UInt8)} (t : Tr) (hv : validL l = true) (hk : small k) (hl : l.1.take l.2.1.toNat = cat k) :
    repairS (crB l t, l.2.1, ()) = ((cat (recs (crB l t)).1, (((cat (recs (crB l t)).1).length : Nat) : Int), ()), 0, ()) := by
  obtain ⟨⟨h1, h2⟩, h3⟩ := validL_iff.1 hv
  have h4 := prefix_cat (crash_keeps t hv hk hl)
  refine repair_good (l := (crB l t, l.2.1, ())) (crB_valid t hv) ?_
  show l.2.1 ≤ ((recs (crB l t)).2 : Int)
  rw [← recs_len]
  have h5 := congrArg List.length hl
  rw [List.length_take] at h5
  omega
/-- a whole log, all of it synced -/
def whole (k : List (List UInt8)) : Lg := (cat k, (((cat k).length : Nat) : Int), ())
theorem whole_valid {k : List (List UInt8)} (h : (cat k).length ≤ 1048576) : validL (whole k) = true := by
  refine validL_iff.2 ⟨⟨Int.natCast_nonneg _, Int.le_refl _⟩, ?_⟩
  show (((cat k).length : Nat) : Int) ≤ 1048576
  omega
theorem whole_append {k : List (List UInt8)} {x : List UInt8} (hk : small k) (h : (cat k).length + 12 + x.length ≤ 1048576) : appendS (whole k) x = ((cat (k ++ [x]), (((cat k).length : Nat) : Int), ()), 0, ()) := by
  unfold appendS
  rw [if_pos (whole_valid (by omega))]
  have e : (whole k).1 = cat k := rfl
  rw [e, recs_whole k hk, if_neg (by simp), if_neg (by omega), cat_append, cat_one]
  rfl
theorem small_add {k : List (List UInt8)} {x : List UInt8} (hk : small k) (hx : x.length < 2 ^ 32) : small (k ++ [x]) := by
  intro y hy
  rcases List.mem_append.1 hy with h | h
  · exact hk y h
  · rw [List.mem_singleton.1 h]; exact hx
theorem records_good {l : Lg} (hv : validL l = true) : recordsS l = ((recs l.1).1, ((recs l.1).2 : Int), 0, ()) := by
  unfold recordsS
  rw [if_pos hv]
theorem whole_records {k : List (List UInt8)} (hk : small k) (h : (cat k).length ≤ 1048576) : recordsS (whole k) = (k, (((cat k).length : Nat) : Int), 0, ()) := by
  rw [records_good (whole_valid h)]
  have e : (whole k).1 = cat k := rfl
  rw [e, recs_whole k hk]
end Go.Proofs.YtggappighcdbmaaDoor
