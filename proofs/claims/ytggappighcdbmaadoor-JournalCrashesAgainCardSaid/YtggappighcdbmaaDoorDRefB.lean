/-
  The digest reference, second part: the compression function.
-/
import Derived.Test.YtggappighcdbmaaDoorDRefA
namespace Go.Proofs.YtggappighcdbmaaDoor
open Go Go.RowKit
set_option linter.unusedSimpArgs false
set_option linter.unusedVariables false
set_option maxRecDepth 100000
abbrev arr8 : Ty := .arr 8 u32
abbrev arr64 : Ty := .arr 64 u32
def cRounds : Ctr := { args := [], pre := fun _ => [], res := arr64, own := none, out := fun _ => roundK }
theorem rounds_ok : CtrOk Tryd.prog dG 42 cRounds := by
  refine ctr_of_awp (K := dK) dK_ok Tryd.func42 rfl rfl Tryd.call42 rfl (by decide) (by intro h; cases h) ?_
  rintro w0 X hX ⟨⟩ hp
  change AWP _ _ _ _ _ ⟨[], [], 0⟩ _
  (repeat (first | refine AWP.seq ?_ | refine AWP.skip ?_ | refine AWP.label ?_ | refine AWP.exit ?_ | refine AWP.block ?_ | refine AWP.region hX dK_ok rfl trivial ?_ | refine AWP.region hX dK_ok rfl id ?_ | refine AWP.region hX dK_ok rfl ⟨id, id⟩ ?_))
  refine AWP.ret ⟨.inr rfl, done1 rfl trivial rfl rfl ?_⟩
  rfl
def k2 : Kn := { dK with C := [(43, cTurn), (41, cExpand), (42, cRounds)] }
theorem k2_ok : KnOk Tryd.prog dG k2 := dK_ok.with (CsOk.cons turn_ok (CsOk.cons expand_ok (CsOk.cons rounds_ok CsOk.nil)))
def stOf (l : List (BitVec 32)) : St := ⟨l.getD 0 0, l.getD 1 0, l.getD 2 0, l.getD 3 0, l.getD 4 0, l.getD 5 0, l.getD 6 0, l.getD 7 0⟩
def mixL (s t : List (BitVec 32)) (i : Nat) : List (BitVec 32) := (List.range 8).map fun j => if j < i then t.getD j 0 + s.getD j 0 else t.getD j 0
theorem mixL_set (s t : List (BitVec 32)) (i : Nat) (h : i < 8) : (mixL s t i).set i ((mixL s t i).getD i 0 + s.getD i 0) = mixL s t (i + 1) := by
  rcases (by omega : i = 0 ∨ i = 1 ∨ i = 2 ∨ i = 3 ∨ i = 4 ∨ i = 5 ∨ i = 6 ∨ i = 7) with rfl | rfl | rfl | rfl | rfl | rfl | rfl | rfl <;> rfl
theorem not_sub (x : BitVec 32) : BitVec.ofNat 32 4294967295 - x = ~~~ x := by
  apply BitVec.eq_of_toNat_eq
  have := x.isLt
  rw [BitVec.toNat_sub, BitVec.toNat_not, BitVec.toNat_ofNat]
  omega
def cStep : Ctr := { args := [arr8, bs], pre := fun x => [List.length x.2.1 = 64], res := arr8, own := none, out := fun x => stWords (compress (stOf x.1) x.2.1) }
theorem step_ok : CtrOk Tryd.prog dG 33 cStep := by
  refine ctr_of_awp (K := k2) k2_ok Tryd.func33 rfl rfl Tryd.call33 rfl (by decide) (by intro h; cases h) ?_
  rintro w0 X hX ⟨(s : List (BitVec 32)), (l : List UInt8), _⟩ hp
  change AWP _ _ _ _ _ ⟨[(0, ⟨arr8, s⟩), (1, ⟨bs, l⟩)], [], 0⟩ _
  have hp : l.length = 64 := hp
  refine AWP.alen 0 rfl fun hs => ?_
  have hsw : s = stWords (stOf s) := by
    match s, hs with
    | [_, _, _, _, _, _, _, _], _ => rfl
  (repeat (first | refine AWP.seq ?_ | refine AWP.skip ?_ | refine AWP.label ?_ | refine AWP.exit ?_ | refine AWP.block ?_ | refine AWP.region hX k2_ok rfl trivial ?_ | refine AWP.region hX k2_ok rfl id ?_ | refine AWP.region hX k2_ok rfl ⟨id, id⟩ ?_))
  (repeat (first | refine AWP.seq ?_ | refine AWP.skip ?_ | refine AWP.block ?_ | refine AWP.exit ?_)); refine AWP.region hX k2_ok rfl ?_ ?_
  · exact hp
  (repeat (first | refine AWP.seq ?_ | refine AWP.skip ?_ | refine AWP.label ?_ | refine AWP.exit ?_ | refine AWP.block ?_ | refine AWP.region hX k2_ok rfl trivial ?_ | refine AWP.region hX k2_ok rfl id ?_ | refine AWP.region hX k2_ok rfl ⟨id, id⟩ ?_))
  refine AWP.loop (ι := Nat) (fun k => ⟨[(2, ⟨.optr arr8, ⟨0, arr8, .here⟩⟩), (4, ⟨.optr arr8, ⟨1, arr8, .here⟩⟩), (5, ⟨.optr arr64, ⟨2, arr64, .here⟩⟩), (6, ⟨.optr arr64, ⟨3, arr64, .here⟩⟩), (7, ⟨.optr arr8, ⟨4, arr8, .here⟩⟩), (8, ⟨i64, (k : Int)⟩)],
    [(0, some (.box arr8 s)), (1, some (.box arr8 (List.replicate 8 (0 : BitVec 32)))), (2, some (.box arr64 (sched l 64))), (3, some (.box arr64 roundK)), (4, some (.box arr8 (stWords (rounds (stOf s) (sched l 64) k))))], 5⟩) (fun k => k ≤ 64) (fun k => 64 - k) 0 (by omega) ⟨⟨rfl, rfl, rfl, rfl, rfl, rfl, trivial⟩, ⟨rfl, rfl, rfl, rfl, boxEq hsw, trivial⟩, rfl, rfl⟩ ?_
  intro k hk
  (repeat (first | refine AWP.seq ?_ | refine AWP.skip ?_ | refine AWP.label ?_ | refine AWP.exit ?_ | refine AWP.block ?_ | refine AWP.region hX k2_ok rfl trivial ?_ | refine AWP.region hX k2_ok rfl id ?_ | refine AWP.region hX k2_ok rfl ⟨id, id⟩ ?_))
  refine AWP.cond rfl (fun hb => ?_) (fun hb => ?_)
  · simp at hb
    have hnext : stWords (rounds (stOf s) (sched l 64) (k + 1)) = stWords (round (rounds (stOf s) (sched l 64) k) (roundK.getD k 0) ((sched l 64).getD k 0)) := rfl
    generalize rounds (stOf s) (sched l 64) k = t at *
    generalize sched l 64 = ws at *
    (repeat (first | refine AWP.seq ?_ | refine AWP.skip ?_ | refine AWP.block ?_ | refine AWP.exit ?_)); refine AWP.draw dM hX k2_ok 6 (by kernel_rfl) rfl rfl ?_ ?_ ?_
    · (simp only [allP, inR64]; (and_intros <;> first | omega | (simp; done) | (simp; omega)))
    · trivial
    (repeat (first | refine AWP.seq ?_ | refine AWP.skip ?_ | refine AWP.block ?_ | refine AWP.exit ?_)); refine AWP.draw dM hX k2_ok 31 (by kernel_rfl) rfl rfl ?_ ?_ ?_
    · (simp only [allP, inR64]; (and_intros <;> first | omega | (simp; done) | (simp; omega)))
    · trivial
    (repeat (first | refine AWP.seq ?_ | refine AWP.skip ?_ | refine AWP.block ?_ | refine AWP.exit ?_)); refine AWP.draw dM hX k2_ok 25 (by kernel_rfl) rfl rfl ?_ ?_ ?_
    · (simp only [allP, inR64]; (and_intros <;> first | omega | (simp; done) | (simp; omega)))
    · trivial
    (repeat (first | refine AWP.seq ?_ | refine AWP.skip ?_ | refine AWP.block ?_ | refine AWP.exit ?_)); refine AWP.region hX k2_ok rfl ?_ ?_
    · (simp only [allP, inR64]; (and_intros <;> first | omega | (simp; done) | (simp; omega)))
    (repeat (first | refine AWP.seq ?_ | refine AWP.skip ?_ | refine AWP.block ?_ | refine AWP.exit ?_)); refine AWP.region hX k2_ok rfl ?_ ?_
    · exact inR_succ (by omega)
    refine ⟨k + 1, by omega, by omega, ⟨rfl, rfl, rfl, rfl, rfl, vSucc _, trivial⟩, ⟨rfl, rfl, rfl, rfl, boxEq ?_, trivial⟩, rfl, rfl⟩
    rw [hnext]
    obtain ⟨a, b, c, d, e, f, g, h⟩ := t
    simp only [round, roundX, roundY, ← not_sub]
    rfl
  · simp at hb
    have : k = 64 := by omega
    subst this
    have hfin : compress (stOf s) l = addSt (stOf s) (rounds (stOf s) (sched l 64) 64) := rfl
    generalize rounds (stOf s) (sched l 64) 64 = t at *
    generalize sched l 64 = ws at *
    (repeat (first | refine AWP.seq ?_ | refine AWP.skip ?_ | refine AWP.label ?_ | refine AWP.exit ?_ | refine AWP.block ?_ | refine AWP.region hX k2_ok rfl trivial ?_ | refine AWP.region hX k2_ok rfl id ?_ | refine AWP.region hX k2_ok rfl ⟨id, id⟩ ?_))
    refine AWP.loop (ι := Nat) (fun k => ⟨[(2, ⟨.optr arr8, ⟨0, arr8, .here⟩⟩), (4, ⟨.optr arr8, ⟨1, arr8, .here⟩⟩), (7, ⟨.optr arr8, ⟨4, arr8, .here⟩⟩), (13, ⟨i64, (k : Int)⟩)],
      [(0, some (.box arr8 s)), (1, some (.box arr8 (List.replicate 8 (0 : BitVec 32)))), (4, some (.box arr8 (mixL s (stWords t) k)))], 5⟩) (fun k => k ≤ 8) (fun k => 8 - k) 0 (by omega) ⟨⟨rfl, rfl, rfl, rfl, trivial⟩, ⟨rfl, rfl, boxEq rfl, trivial⟩, rfl, rfl⟩ ?_
    intro k hk
    (repeat (first | refine AWP.seq ?_ | refine AWP.skip ?_ | refine AWP.label ?_ | refine AWP.exit ?_ | refine AWP.block ?_ | refine AWP.region hX k2_ok rfl trivial ?_ | refine AWP.region hX k2_ok rfl id ?_ | refine AWP.region hX k2_ok rfl ⟨id, id⟩ ?_))
    refine AWP.cond rfl (fun hb => ?_) (fun hb => ?_)
    · simp at hb
      (repeat (first | refine AWP.seq ?_ | refine AWP.skip ?_ | refine AWP.block ?_ | refine AWP.exit ?_)); refine AWP.draw dM hX k2_ok 9 (by kernel_rfl) rfl rfl ?_ ?_ ?_
      · (simp only [allP, inR64]; (and_intros <;> first | omega | (simp; done) | (simp; omega)))
      · (simp only [allP, inR64]; (and_intros <;> first | omega | (simp; done) | (simp; omega)))
      (repeat (first | refine AWP.seq ?_ | refine AWP.skip ?_ | refine AWP.block ?_ | refine AWP.exit ?_)); refine AWP.region hX k2_ok rfl ?_ ?_
      · exact inR_succ (by omega)
      refine ⟨k + 1, by omega, by omega, ⟨rfl, rfl, rfl, vSucc _, trivial⟩, ⟨rfl, rfl, boxEq ?_, trivial⟩, rfl, rfl⟩
      exact mixL_set s (stWords t) k (by omega)
    · simp at hb
      have : k = 8 := by omega
      subst this
      (repeat (first | refine AWP.seq ?_ | refine AWP.skip ?_ | refine AWP.label ?_ | refine AWP.exit ?_ | refine AWP.block ?_ | refine AWP.region hX k2_ok rfl trivial ?_ | refine AWP.region hX k2_ok rfl id ?_ | refine AWP.region hX k2_ok rfl ⟨id, id⟩ ?_))
      refine AWP.ret ⟨.inr rfl, done1 rfl trivial rfl rfl ?_⟩
      show mixL s (stWords t) 8 = stWords (compress (stOf s) l)
      rw [hfin]
      match s, hs with
      | [a, b, c, d, e, f, g, h], _ =>
        simp only [mixL, stWords, addSt, stOf, List.range, List.range.loop, List.map, List.getD]
        simp [BitVec.add_comm]
end Go.Proofs.YtggappighcdbmaaDoor
