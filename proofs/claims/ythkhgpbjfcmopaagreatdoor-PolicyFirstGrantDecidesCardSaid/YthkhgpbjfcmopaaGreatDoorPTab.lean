/-
  What the package-level variables of strconv hold; contracts of Itoa and Trim; package policy: who, the lines of grants.
-/
import Derived.Test.YthkhgpbjfcmopaaGreatDoorPLay
import Derived.Test.YthkhgpbjfcmopaaGreatDoorPRefC
import Derived.Lib.LaidTab
namespace Go.Proofs.YthkhgpbjfcmopaaGreatDoor
open Go Go.RowKit
set_option linter.unusedSimpArgs false
set_option linter.unusedVariables false
set_option maxRecDepth 100000
theorem gPow : Tryz.prog.globalNamed "internal/strconv.uint64pow10" = some 3 := by kernel_rfl
/-- the table of powers of ten; the error of a numeral out of range -/
def pH (w : World) : Prop := Lib.TabIs Tryz.prog w "internal/strconv.uint64pow10" .u64 Lib.pow10Tab ∧ ∃ ev, w.cell? ⟨5, 0, none⟩ = some ev ∧ (ev = .nilIface ∨ ∃ te pe, ev = .iface te pe)
theorem pH_kept {R : Nat → Prop} {w w' : World} (h1 : ¬ R 3) (h2 : ¬ R 5) (h : pH w) (hk : Kept R w w') : pH w' := by
  obtain ⟨ht, ev, hc, hev⟩ := h
  have hl : ∀ g : Nat, (∃ o : Obj, w.heap[g]? = some o) → g < w.heap.size := fun g ⟨o, ho⟩ => (Array.getElem?_eq_some_iff.1 ho).1
  refine ⟨?_, ev, ?_, hev⟩
  · unfold Lib.TabIs World.var? at *
    rw [gPow] at *
    simp only [Option.bind_some] at *
    have hb : ∃ o : Obj, w.heap[3]? = some o := by
      cases ho : w.heap[3]? with
      | none => rw [ho] at ht; cases ht
      | some o => exact ⟨o, rfl⟩
    rw [hk.block _ (hl _ hb) h1]
    exact ht
  · have hb : ∃ o : Obj, w.heap[5]? = some o := by
      unfold World.cell? at hc
      cases ho : w.heap[5]? with
      | none => simp [ho] at hc
      | some o => exact ⟨o, rfl⟩
    unfold World.cell? at *
    rw [hk.block _ (hl _ hb) h2]
    exact hc
theorem pH_st (w w' : World) (h : pH w) (hb : Below w.heap.size w w') : pH w' := pH_kept (R := fun _ => False) (fun h => h) (fun h => h) h ⟨hb.os, hb.tape, hb.output, hb.size, fun k hk _ => hb.block k hk⟩
theorem hK_ok : KnOk Tryz.prog pH pK := ⟨pT_ok, pU_ok, CsOk.nil, pH_st, RsOk.nil⟩
/-- a contract that asks nothing of the world -/
theorem CtrOk.lift {f : FuncId} {c : Ctr} (h : CtrOk Tryz.prog pG f c) : CtrOk Tryz.prog pH f c := ⟨h.1, fun w O xs vs hO hr hp _ => h.2 w O xs vs hO hr hp trivial⟩
theorem RCtrOk.lift {f : FuncId} {c : RCtr} (h : RCtrOk Tryz.prog pG f c) : RCtrOk Tryz.prog pH f c := ⟨h.1, fun w O g cs ty x xs vs hO hg hx hr hp hi _ => h.2 w O g cs ty x xs vs hO hg hx hr hp hi trivial⟩
theorem below_grow (w : World) (q : Nat) (os : Array Obj) : Below w.heap.size w (Sort.grow (w.drewN q) os) :=
  ⟨rfl, rfl, rfl, by show w.heap.size ≤ (w.heap ++ os).size; rw [Array.size_append]; omega, fun i hi => by
    show (w.heap ++ os)[i]? = _
    rw [Array.getElem?_append_left hi]⟩
theorem dec_eq (n : Nat) : Lib.decDigits n = dec n := by
  induction n using Nat.strongRecOn with
  | ind n ih =>
    rw [Lib.decDigits, dec]
    by_cases h : n < 10
    · rw [dif_pos h, if_pos h]
    · rw [dif_neg h, if_neg h, ih (n / 10) (by omega)]
def cItoa : Ctr := { args := [i64], pre := fun x => [0 ≤ x.1, x.1 ≤ 1000000], res := .str, own := none, out := fun x => dec x.1.toNat }
theorem dec_len (k : Nat) : ∀ n, n < 10 ^ (k + 1) → (dec n).length ≤ k + 1 := by
  induction k with
  | zero => intro n h; rw [dec, if_pos (by simpa using h)]; exact Nat.le_refl _
  | succ k ih =>
    intro n h
    rw [dec]
    split
    · simp
    · rw [List.length_append]
      have := ih (n / 10) (by rw [Nat.pow_succ] at h; omega)
      simp only [List.length_singleton]
      omega
theorem itoa_ok : CtrOk Tryz.prog pH 85 cItoa := by
  refine ⟨Tryz.call85, fun w O xs vs hO hr hp hG => ?_⟩
  obtain ⟨(n : Int), _⟩ := xs
  obtain ⟨v1, r1, rfl, e1, rfl⟩ := hr
  have e1 : [v1] = [Value.int .i64 n] := e1
  cases e1
  obtain ⟨h0, h1⟩ : 0 ≤ n ∧ n ≤ 1000000 := hp
  refine (Any.strconv_Itoa Tryz.lays171 n (by omega) (by omega) w hG.1).mono ?_
  rintro e w' ⟨rfl, k, os, rfl⟩
  refine ⟨_, rfl, below_grow w k os, fun β => ?_⟩
  have hi : Lib.itoa n = dec n.toNat := by
    unfold Lib.itoa
    rw [if_neg (by omega), dec_eq]
  rw [hi]
  refine ⟨rfl, ?_⟩
  have := dec_len 6 n.toNat (by omega)
  show (dec n.toNat).length ≤ maxLen
  unfold maxLen
  omega
def kHA : Kn := { pK with C := [(85, cItoa)] }
theorem kHA_ok : KnOk Tryz.prog pH kHA := hK_ok.with (.cons itoa_ok .nil)
end Go.Proofs.YthkhgpbjfcmopaaGreatDoor
