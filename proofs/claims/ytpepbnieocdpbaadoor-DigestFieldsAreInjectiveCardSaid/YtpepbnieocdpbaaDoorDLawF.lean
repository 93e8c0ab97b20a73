/-
  The statements of chapter 03: Fields is injective.
-/
import Derived.Test.YtpepbnieocdpbaaDoorDLawC
namespace Go.Proofs.YtpepbnieocdpbaaDoor
open Go Go.RowKit
set_option linter.unusedSimpArgs false
set_option linter.unusedVariables false
set_option maxRecDepth 100000
theorem le64_inj {n m : Nat} (hn : n < 256) (hm : m < 256) (h : le64 n = le64 m) : n = m := by
  have h1 : (le64 n).getD 0 0 = (le64 m).getD 0 0 := by rw [h]
  have h2 : UInt8.ofNat (n / 2 ^ (8 * 0)) = UInt8.ofNat (m / 2 ^ (8 * 0)) := h1
  have h3 := congrArg UInt8.toNat h2
  rw [UInt8.toNat_ofNat', UInt8.toNat_ofNat'] at h3
  simp only [Nat.mul_zero, Nat.pow_zero, Nat.div_one] at h3
  omega
theorem encoding_inj : ∀ (x y : List (List UInt8)), (∀ b ∈ x, b.length < 256) → (∀ b ∈ y, b.length < 256) → encoding x = encoding y → x = y
  | [], [], _, _, _ => rfl
  | [], c :: y, _, _, h => by
    have := congrArg List.length h
    rw [encoding_cons] at this
    simp [encoding, le64] at this
    omega
  | b :: x, [], _, _, h => by
    have := congrArg List.length h
    rw [encoding_cons] at this
    simp [encoding, le64] at this
  | b :: x, c :: y, hx, hy, h => by
    rw [encoding_cons, encoding_cons] at h
    obtain ⟨h1, h2⟩ := List.append_inj h (by simp [le64])
    have hl := le64_inj (hx b (by simp)) (hy c (by simp)) h1
    obtain ⟨h3, h4⟩ := List.append_inj h2 hl
    rw [h3, encoding_inj x y (fun b hb => hx b (by simp [hb])) (fun b hb => hy b (by simp [hb])) h4]
theorem few_short (l : List (List UInt8)) : ∀ b ∈ (l.take 8).map (List.take 100), b.length < 256 := by
  intro b hb
  obtain ⟨c, _, rfl⟩ := List.mem_map.1 hb
  have := take_le c 100
  omega
theorem same_enc {x y : List (List UInt8)} (hx : ∀ b ∈ x, b.length < 256) (hy : ∀ b ∈ y, b.length < 256) : eqb .bool (eqb .str (encoding x) (encoding y)) (sameL x y) = true := by
  rw [eqb_iff]
  refine Bool.eq_iff_iff.2 ?_
  rw [eqb_iff]
  unfold sameL
  rw [decide_eq_true_iff]
  exact ⟨encoding_inj x y hx hy, fun h => by rw [h]⟩
theorem same_dig {x y : List (List UInt8)} : eqb .bool (eqb dg (fields x) (fields y)) (bif sameL x y then true else eqb dg (sha (encoding x)) (sha (encoding y))) = true := by
  rw [eqb_iff]
  unfold sameL
  by_cases h : x = y
  · subst h
    rw [eqb_self, decide_eq_true rfl]
    rfl
  · rw [decide_eq_false h]
    rfl
theorem law5_ok : CtrOk Tryd.prog dG 7 (lawCtr [.slice bs, .slice bs]) := by
  refine ctr_of_awp (K := kW) kW_ok Tryd.func7 rfl rfl Tryd.call7 rfl (by decide) (by intro h; cases h) ?_
  rintro w0 X hX ⟨(a : List (List UInt8)), (b : List (List UInt8)), _⟩ hp
  change AWP _ _ _ _ _ ⟨[(0, ⟨.slice bs, a⟩), (1, ⟨.slice bs, b⟩)], [], 0⟩ _
  have ha := few_enc a
  have hb := few_enc b
  have q1 : (encoding ((a.take 8).map (List.take 100))).length ≤ 2000000 := by omega
  have q2 : (encoding ((b.take 8).map (List.take 100))).length ≤ 2000000 := by omega
  (repeat (first | refine AWP.seq ?_ | refine AWP.skip ?_ | refine AWP.block ?_ | refine AWP.exit ?_)); refine AWP.region hX kW_ok rfl ?_ ?_
  · trivial
  (repeat (first | refine AWP.seq ?_ | refine AWP.skip ?_ | refine AWP.block ?_ | refine AWP.exit ?_)); refine AWP.region hX kW_ok rfl ?_ ?_
  · trivial
  (repeat (first | refine AWP.seq ?_ | refine AWP.skip ?_ | refine AWP.block ?_ | refine AWP.exit ?_)); refine AWP.region hX kW_ok rfl ?_ ?_
  · trivial
  (repeat (first | refine AWP.seq ?_ | refine AWP.skip ?_ | refine AWP.block ?_ | refine AWP.exit ?_)); refine AWP.region hX kW_ok rfl ?_ ?_
  · exact ⟨q1, q2⟩
  (repeat (first | refine AWP.seq ?_ | refine AWP.skip ?_ | refine AWP.block ?_ | refine AWP.exit ?_)); refine AWP.region hX kW_ok rfl ?_ ?_
  · trivial
  refine AWP.frz hX 6 ?_
  refine AWP.frz hX 7 ?_
  refine AWP.frz hX 8 ?_
  refine AWP.frz hX 9 ?_
  (repeat (first | refine AWP.seq ?_ | refine AWP.skip ?_ | refine AWP.block ?_ | refine AWP.exit ?_)); refine AWP.draw dM hX kW_ok 34 (by kernel_rfl) rfl rfl ?_ ?_ ?_
  · repeat' (first | exact trivial | assumption | exact q1 | exact q2 | (refine ⟨?_, ?_⟩) | (intro _) | (refine Bool.and_eq_true_iff.2 ⟨?_, ?_⟩) | exact Nat.le_of_ble_eq_true rfl | (rename_i hg; first | exact (Bool.and_eq_true_iff.1 hg).1 | exact (Bool.and_eq_true_iff.1 hg).2))
  · trivial
  refine AWP.ret ⟨.inr rfl, done1 rfl trivial rfl rfl ?_⟩
  refine bif_true (bif_true (bif_true (eqb_self _) ?_) ?_) rfl
  · exact same_enc (few_short a) (few_short b)
  · exact same_dig
end Go.Proofs.YtpepbnieocdpbaaDoor
