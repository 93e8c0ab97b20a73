/-
  Plain: an answer's bytes tell its cells.
-/
import Derived.Test.YtbbeldmcdjjnbaaDoorEvT
namespace Go.Proofs.YtbbeldmcdjjnbaaDoor
open Go Go.RowKit
set_option linter.unusedSimpArgs false
set_option linter.unusedVariables false
def b8 (x : Int) : UInt8 := UInt8.ofNat (x % 256).toNat
theorem cells_map (v : List Int) : (v.map fun x => leB x 1).flatten = v.map b8 := by
  induction v with
  | nil => rfl
  | cons x v ih => rw [List.map_cons, List.flatten_cons, ih]; rfl
theorem b8_inj {x y : Int} (hx : 0 ≤ x ∧ x ≤ 255) (hy : 0 ≤ y ∧ y ≤ 255) (h : b8 x = b8 y) : x = y := by
  unfold b8 at h
  have h2 := congrArg UInt8.toNat h
  rw [UInt8.toNat_ofNat', UInt8.toNat_ofNat'] at h2
  omega
theorem map_b8 : ∀ {v u : List Int}, bytesI v → bytesI u → v.map b8 = u.map b8 → v = u
  | [], [], _, _, _ => rfl
  | [], _ :: _, _, _, h => by cases h
  | _ :: _, [], _, _, h => by cases h
  | x :: v, y :: u, hv, hu, h => by
    have h1 := List.head_eq_of_cons_eq h
    have h2 := List.tail_eq_of_cons_eq h
    rw [b8_inj (hv x (List.mem_cons_self ..)) (hu y (List.mem_cons_self ..)) h1, map_b8 (fun z hz => hv z (List.mem_cons_of_mem _ hz)) (fun z hz => hu z (List.mem_cons_of_mem _ hz)) h2]
theorem celB_inj {v u : List Int} (hv : bytesI v) (hu : bytesI u) (h : celB v = celB u) : v = u := by
  unfold celB at h
  rw [cells_map, cells_map] at h
  have h2 := (List.append_inj h (by rw [leB_len, leB_len])).2
  exact map_b8 hv hu h2
theorem part_eq (v : List Int) (g : Int) (w : Sp) {k : Nat} (hk : k < 15) : partL (ansL v g w) k = partL (ansL [] g w) k := by
  have h : k = 0 ∨ k = 1 ∨ k = 2 ∨ k = 3 ∨ k = 4 ∨ k = 5 ∨ k = 6 ∨ k = 7 ∨ k = 8 ∨ k = 9 ∨ k = 10 ∨ k = 11 ∨ k = 12 ∨ k = 13 ∨ k = 14 := by omega
  rcases h with rfl | rfl | rfl | rfl | rfl | rfl | rfl | rfl | rfl | rfl | rfl | rfl | rfl | rfl | rfl <;> simp only [partL, ansL]
theorem out_eq (v : List Int) (g : Int) (w : Sp) : ∀ k, k ≤ 15 → outL (ansL v g w) k = outL (ansL [] g w) k
  | 0, _ => by rw [outL_0, outL_0]; simp only [hd3, ansL]
  | k + 1, hk => by rw [outL_succ, outL_succ, out_eq v g w k (by omega), part_eq v g w (by omega)]
theorem body_eq (v : List Int) (g : Int) (w : Sp) : bytesL (ansL v g w) = outL (ansL [] g w) 15 ++ (celB v ++ zDg) := by
  have h15 : partL (ansL v g w) 15 = celB v := by simp only [partL, ansL]
  have h16 : partL (ansL v g w) 16 = zDg := by simp only [partL, ansL]
  unfold bytesL
  rw [show outL (ansL v g w) 17 = outL (ansL v g w) 15 ++ partL (ansL v g w) 15 ++ partL (ansL v g w) 16 by rw [← outL_succ, ← outL_succ], out_eq v g w 15 (Nat.le_refl _), h15, h16, List.append_assoc]
/-- an answer's bytes tell its cells -/
theorem body_inj {v u : List Int} {g : Int} {w : Sp} (hv : bytesI v) (hu : bytesI u) : bytesL (ansL v g w) = bytesL (ansL u g w) ↔ v = u := by
  constructor
  · intro h
    rw [body_eq, body_eq] at h
    have h2 := List.append_cancel_left h
    exact celB_inj hv hu (List.append_cancel_right h2)
  · rintro rfl
    rfl
end Go.Proofs.YtbbeldmcdjjnbaaDoor
