/-
  The reference of chapter 23: Record, First.
-/
import Derived.Test.YthhphphdbgkdgaaDoorJKn
namespace Go.Proofs.YthhphphdbgkdgaaDoor
open Go Go.RowKit
set_option linter.unusedSimpArgs false
set_option linter.unusedVariables false
set_option maxRecDepth 100000
theorem le4_step (n k : Nat) (hk : k < 4) : (le4 n).take k ++ [UInt8.ofNat (Int.toNat ((n : Int) / 2 ^ (8 * (k : Int)).toNat % 256))] = (le4 n).take (k + 1) := by
  have e : ∀ m : Nat, UInt8.ofNat (m % 256) = UInt8.ofNat m := fun m => UInt8.toNat_inj.1 (by rw [UInt8.toNat_ofNat', UInt8.toNat_ofNat']; omega)
  have e2 : Int.toNat ((n : Int) / 2 ^ (8 * (k : Int)).toNat % 256) = n / 2 ^ (8 * k) % 256 := by
    rw [show (8 * (k : Int)).toNat = 8 * k by omega]
    have : ((n : Int) / 2 ^ (8 * k) % 256) = ((n / 2 ^ (8 * k) % 256 : Nat) : Int) := by push_cast; rfl
    rw [this, Int.toNat_natCast]
  rw [e2, e]
  match k, hk with
  | 0, _ => show [] ++ [UInt8.ofNat (n / 1)] = [UInt8.ofNat n]; rw [Nat.div_one]; rfl
  | 1, _ => rfl
  | 2, _ => rfl
  | 3, _ => rfl
def cRecord : Ctr := { args := [bs], pre := fun x => [List.length x.1 ≤ 800000], res := bs, own := some 5, out := fun x => rcd x.1 }
theorem beq_byte {x y : UInt8} (h : x.toNat = y.toNat) : x = y := UInt8.toNat_inj.1 h
def cFirst : Ctr := { args := [bs], pre := fun x => [List.length x.1 ≤ 800000], res := i64, own := none, out := fun x => (first x.1 : Int) }
end Go.Proofs.YthhphphdbgkdgaaDoor
