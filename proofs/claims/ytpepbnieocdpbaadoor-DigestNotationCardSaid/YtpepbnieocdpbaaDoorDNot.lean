/-
  Plain facts on the hexadecimal notation: what Hex writes Unhex reads, in upper case too; what Unhex reads has the digits of what Hex writes. No program is read here.
-/
import Derived.Test.YtpepbnieocdpbaaDoorDLawA
namespace Go.Proofs.YtpepbnieocdpbaaDoor
open Go Go.RowKit
set_option linter.unusedSimpArgs false
set_option linter.unusedVariables false
def up (c : UInt8) : UInt8 := if 97 ≤ c.toNat ∧ c.toNat ≤ 102 then c - 32 else c
theorem dig_lower (n : Nat) (h : n < 16) : dig (hexDigit n) = (n : Int) := by
  have key : ∀ m : Fin 16, dig (hexDigit m.1) = (m.1 : Int) := by decide
  exact key ⟨n, h⟩
theorem dig_upper (n : Nat) (h : n < 16) : dig (up (hexDigit n)) = (n : Int) := by
  have key : ∀ m : Fin 16, dig (up (hexDigit m.1)) = (m.1 : Int) := by decide
  exact key ⟨n, h⟩
theorem hex_cons (b : UInt8) (d : List UInt8) : hex (b :: d) = hexDigit (b.toNat / 16) :: hexDigit (b.toNat % 16) :: hex d := rfl
theorem hex_even : ∀ (d : List UInt8) (j : Nat), j < d.length → (hex d).getD (2 * j) 0 = hexDigit ((d.getD j 0).toNat / 16)
  | b :: d, 0, _ => rfl
  | b :: d, j + 1, h => by
    rw [hex_cons, show 2 * (j + 1) = 2 * j + 1 + 1 by omega, List.getD_cons_succ, List.getD_cons_succ, List.getD_cons_succ]
    exact hex_even d j (by simpa using h)
theorem hex_odd : ∀ (d : List UInt8) (j : Nat), j < d.length → (hex d).getD (2 * j + 1) 0 = hexDigit ((d.getD j 0).toNat % 16)
  | b :: d, 0, _ => rfl
  | b :: d, j + 1, h => by
    rw [hex_cons, show 2 * (j + 1) + 1 = 2 * j + 1 + 1 + 1 by omega, List.getD_cons_succ, List.getD_cons_succ, List.getD_cons_succ]
    exact hex_odd d j (by simpa using h)
theorem nib (b : UInt8) : b.toNat / 16 < 16 ∧ b.toNat % 16 < 16 := by have := b.toNat_lt; omega
theorem byte_back (b : UInt8) : UInt8.ofNat ((16 * ((b.toNat / 16 : Nat) : Int) + ((b.toNat % 16 : Nat) : Int)) % 256).toNat = b := by
  apply UInt8.toNat_inj.1
  rw [UInt8.toNat_ofNat']
  have := b.toNat_lt
  omega
/-- a text whose digits are those of d reads as d -/
theorem unhex_digits {s d : List UInt8} (hs : s.length = 64) (hd : d.length = 32) (h0 : ∀ j, j < 32 → dig (s.getD (2 * j) 0) = (((d.getD j 0).toNat / 16 : Nat) : Int)) (h1 : ∀ j, j < 32 → dig (s.getD (2 * j + 1) 0) = (((d.getD j 0).toNat % 16 : Nat) : Int)) : unhexR s = (d, 0, ()) := by
  have hall : (List.range 32).all (goodAt s) = true := by
    rw [List.all_eq_true]
    intro j hj
    rw [List.mem_range] at hj
    rw [goodAt_iff, h0 j hj, h1 j hj]
    exact ⟨Int.natCast_nonneg _, Int.natCast_nonneg _⟩
  have hm : (List.range 32).map (byteAt s) = d := by
    apply List.ext_getElem
    · simp [hd]
    · intro j hj1 hj2
      have hj : j < 32 := by simpa using hj1
      rw [List.getElem_map, List.getElem_range]
      unfold byteAt
      rw [h0 j hj, h1 j hj, byte_back]
      rw [List.getD_eq_getElem?_getD, List.getElem?_eq_getElem hj2]
      rfl
  unfold unhexR unhexS
  rw [if_pos ⟨hs, hall⟩, hm]
theorem unhex_hex {d : List UInt8} (hd : d.length = 32) : unhexR (hex d) = (d, 0, ()) :=
  unhex_digits (by rw [hex_len, hd]) hd (fun j hj => by rw [hex_even d j (by omega), dig_lower _ (nib _).1]) (fun j hj => by rw [hex_odd d j (by omega), dig_lower _ (nib _).2])
theorem map_getD (f : UInt8 → UInt8) (l : List UInt8) (j : Nat) (h : j < l.length) : (l.map f).getD j 0 = f (l.getD j 0) := by
  rw [List.getD_eq_getElem?_getD, List.getD_eq_getElem?_getD, List.getElem?_map, List.getElem?_eq_getElem h]
  rfl
theorem unhex_upper {d : List UInt8} (hd : d.length = 32) : unhexR ((hex d).map up) = (d, 0, ()) :=
  unhex_digits (by rw [List.length_map, hex_len, hd]) hd
    (fun j hj => by rw [map_getD _ _ _ (by rw [hex_len, hd]; omega), hex_even d j (by omega), dig_upper _ (nib _).1])
    (fun j hj => by rw [map_getD _ _ _ (by rw [hex_len, hd]; omega), hex_odd d j (by omega), dig_upper _ (nib _).2])
theorem unhex_len {s : List UInt8} (h : s.length ≠ 64) : unhexR s = (List.replicate 32 0, 3, ()) := by
  unfold unhexR unhexS
  rw [if_neg (fun h' => h h'.1)]
/-- what is not accepted -/
theorem unhex_not {s : List UInt8} (h : (unhexR s).2.1 ≠ 0) : unhexR s = (List.replicate 32 0, 3, ()) := by
  unfold unhexR at *
  split at h
  · exact absurd rfl h
  · rfl
/-- what is accepted -/
theorem unhex_yes {s : List UInt8} (h : (unhexR s).2.1 = 0) : s.length = 64 ∧ (unhexR s).1.length = 32 ∧ ∀ k, k < 64 → 0 ≤ dig (s.getD k 0) ∧ dig (s.getD k 0) = dig ((hex (unhexR s).1).getD k 0) := by
  unfold unhexR at *
  split at h
  · rename_i d hd
    unfold unhexS at hd
    split at hd
    · rename_i hc
      cases hd
      refine ⟨hc.1, by simp, fun k hk => ?_⟩
      show 0 ≤ dig (s.getD k 0) ∧ dig (s.getD k 0) = dig ((hex ((List.range 32).map (byteAt s))).getD k 0)
      have hj : k / 2 < 32 := by omega
      have hg := List.all_eq_true.1 hc.2 (k / 2) (List.mem_range.2 hj)
      rw [goodAt_iff] at hg
      have b0 := (dig_bound (s.getD (2 * (k / 2)) 0)).2
      have b1 := (dig_bound (s.getD (2 * (k / 2) + 1) 0)).2
      have hby : (((List.range 32).map (byteAt s)).getD (k / 2) 0) = byteAt s (k / 2) := by
        rw [List.getD_eq_getElem?_getD, List.getElem?_map, List.getElem?_range hj]
        rfl
      have hbn : ((byteAt s (k / 2)).toNat : Int) = 16 * dig (s.getD (2 * (k / 2)) 0) + dig (s.getD (2 * (k / 2) + 1) 0) := by
        unfold byteAt
        rw [UInt8.toNat_ofNat']
        omega
      rcases (show k = 2 * (k / 2) ∨ k = 2 * (k / 2) + 1 by omega) with e | e
      · rw [e]
        have e2 : 2 * (k / 2) / 2 = k / 2 := by omega
        rw [hex_even _ _ (by simpa using hj), hby, dig_lower _ (nib _).1]
        refine ⟨hg.1, ?_⟩
        omega
      · rw [e]
        rw [hex_odd _ _ (by simpa using hj), hby, dig_lower _ (nib _).2]
        refine ⟨hg.2, ?_⟩
        omega
    · cases hd
  · cases h
end Go.Proofs.YtpepbnieocdpbaaDoor
