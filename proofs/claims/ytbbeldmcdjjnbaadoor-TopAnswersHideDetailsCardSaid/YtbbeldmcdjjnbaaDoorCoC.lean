/-
  The reference's SameInts; the marks that a statement makes from numbers.
-/
import Derived.Test.YtbbeldmcdjjnbaaDoorCoB
namespace Go.Proofs.YtbbeldmcdjjnbaaDoor
open Go Go.RowKit
set_option linter.unusedSimpArgs false
set_option linter.unusedVariables false
set_option maxRecDepth 100000
def cSameI : Ctr := { args := [ints, ints], pre := fun _ => [], res := .bool, own := none, out := fun x => decide ((x.1 : List Int) = x.2.1) }
theorem bufMk {te : TypeId} {x y : List Mk} (h : x = y) : some (OObj.buf te mk x) = some (OObj.buf te mk y) := by rw [h]
/-- a mark made from three numbers -/
def mkOf (t : List UInt8) : Mk := ((12 * (((t.getD 0 0).toNat : Nat) : Int), 12 * (((t.getD 0 0).toNat : Nat) : Int) + 1 + (((t.getD 1 0).toNat : Nat) : Int), ()), 1 + (((t.getD 2 0 % 8).toNat : Nat) : Int), ())
def marksS (l : List (List UInt8)) : List Mk := (l.take 6).map mkOf
theorem mkOf_ok (t : List UInt8) : mkBad (mkOf t) = false := by
  have h0 := (t.getD 0 0).toNat_lt
  have h1 := (t.getD 1 0).toNat_lt
  have h2 : (t.getD 2 0 % 8).toNat < 8 := by
    rw [UInt8.toNat_mod]
    exact Nat.mod_lt _ (by decide)
  unfold mkBad mkOf winOk
  generalize (t.getD 0 0).toNat = a at *
  generalize (t.getD 1 0).toNat = b at *
  generalize (t.getD 2 0 % 8).toNat = c at *
  simp
  omega
theorem marksS_ok (l : List (List UInt8)) : marksOk (marksS l) = true := by
  unfold marksOk marksS
  rw [Bool.not_eq_true', List.any_eq_false]
  intro m hm
  obtain ⟨t, _, rfl⟩ := List.mem_map.1 hm
  rw [mkOf_ok]
  exact Bool.false_ne_true
def cMarks : Ctr := { args := [.slice (.arr 3 u8)], pre := fun _ => [], res := .slice mk, own := none, out := fun x => marksS x.1 }
theorem marks_ok : CtrOk Tryd.prog pG 5 cMarks := by
  refine ctr_of_awp (K := coK) coK_ok Tryd.func5 rfl rfl Tryd.call5 rfl (by decide) (by intro h; cases h) ?_
  rintro w0 X hX ⟨(l : List (List UInt8)), _⟩ hp
  change AWP _ _ _ _ _ ⟨[(0, ⟨.slice (.arr 3 u8), l⟩)], [], 0⟩ _
  refine AWP.len 0 rfl fun hl => ?_
  unfold maxLen at hl
  (repeat (first | refine AWP.seq ?_ | refine AWP.skip ?_ | refine AWP.block ?_ | refine AWP.exit ?_)); refine AWP.region hX coK_ok rfl ?_ ?_
  · trivial
  (repeat (first | refine AWP.seq ?_ | refine AWP.skip ?_ | refine AWP.block ?_ | refine AWP.exit ?_)); refine AWP.region hX coK_ok rfl ?_ ?_
  · trivial
  (repeat (first | refine AWP.seq ?_ | refine AWP.skip ?_ | refine AWP.block ?_ | refine AWP.exit ?_)); refine AWP.region hX coK_ok rfl ?_ ?_
  · trivial
  (repeat (first | refine AWP.seq ?_ | refine AWP.skip ?_ | refine AWP.label ?_ | refine AWP.exit ?_ | refine AWP.block ?_ | refine AWP.region hX coK_ok rfl trivial ?_ | refine AWP.region hX coK_ok rfl id ?_ | refine AWP.region hX coK_ok rfl ⟨id, id⟩ ?_))
  refine AWP.loop (ι := Nat) (fun k => ⟨[(0, ⟨.slice (.arr 3 u8), l⟩), (3, ⟨.obuf mk, (0 : Nat)⟩), (4, ⟨i64, (k : Int)⟩)], [(0, some (.buf 59 mk ((l.take k).map mkOf)))], 1⟩) (fun k => k ≤ 6 ∧ k ≤ l.length) (fun k => l.length - k) 0 ⟨by omega, by omega⟩ ⟨⟨rfl, rfl, rfl, trivial⟩, ⟨rfl, trivial⟩, rfl, rfl⟩ ?_
  rintro k ⟨hk, hk2⟩
  (repeat (first | refine AWP.seq ?_ | refine AWP.skip ?_ | refine AWP.block ?_ | refine AWP.exit ?_)); refine AWP.region hX coK_ok rfl ?_ ?_
  · repeat' (first | exact trivial | assumption | (refine ⟨?_, ?_⟩) | (intro _))
  refine AWP.cond rfl (fun hb => ?_) (fun hb => ?_)
  · have hb : (bif decide ((k : Int) < (l.length : Nat)) then decide ((k : Int) < 6) else false) = true := hb
    rw [b_and, Bool.and_eq_true, decide_eq_true_iff, decide_eq_true_iff] at hb
    have hlt : k < l.length := by omega
    have n0 : (0 : Int) ≤ (k : Int) := by omega
    have n1 : (k : Int) < (l.length : Nat) := by omega
    have i1 : ∀ x : UInt8, inR .i64 (12 * ((x.toNat : Nat) : Int)) := fun x => inR_small (by omega) (by have := x.toNat_lt; omega)
    have i2 : ∀ x : UInt8, inR .i64 (12 * ((x.toNat : Nat) : Int) + 1) := fun x => inR_small (by omega) (by have := x.toNat_lt; omega)
    have i3 : ∀ x y : UInt8, inR .i64 (12 * ((x.toNat : Nat) : Int) + 1 + ((y.toNat : Nat) : Int)) := fun x y => inR_small (by omega) (by have := x.toNat_lt; have := y.toNat_lt; omega)
    have i4 : ∀ x : UInt8, inR .i64 (1 + ((x.toNat : Nat) : Int)) := fun x => inR_small (by omega) (by have := x.toNat_lt; omega)
    have hm : ((l.take k).map mkOf).length + 1 ≤ 1000000000 := by rw [List.length_map, List.length_take]; omega
    have eg : l.getD (k : Int).toNat [0, 0, 0] = l[k] := getD_at' hlt
    refine AWP.skip ?_
    (repeat (first | refine AWP.seq ?_ | refine AWP.skip ?_ | refine AWP.block ?_ | refine AWP.exit ?_)); refine AWP.region hX coK_ok rfl ?_ ?_
    · repeat' (first | exact trivial | exact n0 | exact n1 | exact i1 _ | exact (by decide : Int.toNat 0 < 3) | exact (by decide : (0 : Int) ≤ 0) | exact (by decide : (0 : Int) ≤ 1) | exact (by decide : (0 : Int) ≤ 2) | exact (by decide : (0 : Int) < ((3 : Nat) : Int)) | exact (by decide : (1 : Int) < ((3 : Nat) : Int)) | exact (by decide : (2 : Int) < ((3 : Nat) : Int)) | (refine ⟨?_, ?_⟩))
    (repeat (first | refine AWP.seq ?_ | refine AWP.skip ?_ | refine AWP.block ?_ | refine AWP.exit ?_)); refine AWP.drawN dM hX coK_ok 22 (by kernel_rfl) rfl rfl ?_ ?_ ?_
    · repeat' (first | exact trivial | exact n0 | exact n1 | exact i2 _ | exact i3 _ _ | exact i4 _ | exact hm | exact (by decide : Int.toNat 0 < 3) | exact (by decide : Int.toNat 1 < 3) | exact (by decide : Int.toNat 2 < 3) | exact (by decide : (8 : UInt8) ≠ 0) | exact (by decide : (0 : Int) ≤ 0) | exact (by decide : (0 : Int) ≤ 1) | exact (by decide : (0 : Int) ≤ 2) | exact (by decide : (0 : Int) < ((3 : Nat) : Int)) | exact (by decide : (1 : Int) < ((3 : Nat) : Int)) | exact (by decide : (2 : Int) < ((3 : Nat) : Int)) | (refine ⟨?_, ?_⟩))
    · repeat' (first | exact trivial | exact hm | (refine ⟨?_, ?_⟩))
    (repeat (first | refine AWP.seq ?_ | refine AWP.skip ?_ | refine AWP.block ?_ | refine AWP.exit ?_)); refine AWP.region hX coK_ok rfl ?_ ?_
    · exact inR_succ (by omega)
    refine ⟨k + 1, ⟨by omega, by omega⟩, by omega, ⟨rfl, rfl, vSucc _, trivial⟩, ⟨bufMk ?_, trivial⟩, rfl, rfl⟩
    rw [List.take_succ_eq_append_getElem hlt, List.map_append, ← eg]
    rfl
  · have hb : (bif decide ((k : Int) < (l.length : Nat)) then decide ((k : Int) < 6) else false) = false := hb
    have hk6 : l.take k = l.take 6 := by
      by_cases hkl : k = l.length
      · rw [hkl, List.take_length, List.take_of_length_le (by omega)]
      · have : k = 6 := by
          rw [decide_eq_true (show (k : Int) < (l.length : Nat) by omega)] at hb
          have := of_decide_eq_false hb
          omega
        rw [this]
    rw [hk6]
    (repeat (first | refine AWP.seq ?_ | refine AWP.skip ?_ | refine AWP.label ?_ | refine AWP.exit ?_ | refine AWP.block ?_ | refine AWP.region hX coK_ok rfl trivial ?_ | refine AWP.region hX coK_ok rfl id ?_ | refine AWP.region hX coK_ok rfl ⟨id, id⟩ ?_))
    refine AWP.frz hX 3 ?_
    (repeat (first | refine AWP.seq ?_ | refine AWP.skip ?_ | refine AWP.label ?_ | refine AWP.exit ?_ | refine AWP.block ?_ | refine AWP.region hX coK_ok rfl trivial ?_ | refine AWP.region hX coK_ok rfl id ?_ | refine AWP.region hX coK_ok rfl ⟨id, id⟩ ?_))
    exact AWP.ret ⟨.inr rfl, done1 rfl trivial rfl rfl rfl⟩
end Go.Proofs.YtbbeldmcdjjnbaaDoor
