/-
  Package digest, third part: the compression function, a method that writes its receiver.
-/
import Derived.Test.YthhphphdbgkdgaaDoorDPrgB

namespace Go.Proofs.YthhphphdbgkdgaaDoor
open Go Go.RowKit
set_option linter.unusedSimpArgs false
set_option linter.unusedVariables false
set_option maxRecDepth 100000
def kB : Kn := { dK with C := [(24, cExpand), (25, cRot)] }
theorem kB_ok : KnOk Tryd.prog dG kB := dK_ok.with (CsOk.cons schedule_ok (CsOk.cons rot_ok CsOk.nil))
def cAdd : RCtr := { self := arr8, args := [bs], inv := fun _ g => g ≠ 0, pre := fun _ xs => [List.length xs.1 = 64], res := .unit, out := fun _ _ => (), post := fun s xs => stWords (compress (stOf s) xs.1) }
theorem add_ok : RCtrOk Tryd.prog dG 22 cAdd := by
  refine rctr_of_awp (K := kB) kB_ok Tryd.func22 rfl rfl Tryd.call22 rfl (by decide) (fun w w' g hg h hk => dG_kept (fun e => hg e.symm) h hk) ?_
  rintro w0 O g hX hinv (s : List (BitVec 32)) ⟨(l : List UInt8), _⟩ hp
  have hG : dG w0 := hX.2.2 w0 (Kept.refl _ _)
  change AWP _ _ _ _ _ ⟨[(0, ⟨.optr arr8, ⟨0, arr8, .here⟩⟩), (1, ⟨bs, l⟩)], [(0, some (.box arr8 s))], 1⟩ _
  have hp : l.length = 64 := hp
  refine AWP.blen 0 rfl fun hs => ?_
  have hsw : s = stWords (stOf s) := by
    match s, hs with
    | [_, _, _, _, _, _, _, _], _ => rfl
  obtain ⟨hGl, cs, hG1, hG2⟩ := hG
  (repeat (first | refine AWP.seq ?_ | refine AWP.skip ?_ | refine AWP.block ?_ | refine AWP.exit ?_)); refine AWP.drawN dM hX kB_ok 9 (by kernel_rfl) rfl rfl ?_ ?_ ?_
  · exact hp
  · trivial
  (repeat (first | refine AWP.seq ?_ | refine AWP.skip ?_ | refine AWP.block ?_ | refine AWP.exit ?_))
  refine AWP.loadG hX kB_ok cs rfl rfl rfl rfl rfl rfl rfl hG1 hG2 hGl (fun h => h.elim (fun ⟨_, _, e⟩ => hinv e) id) rfl trivial ?_
  (repeat (first | refine AWP.seq ?_ | refine AWP.skip ?_ | refine AWP.block ?_ | refine AWP.exit ?_))
  refine AWP.loop (ι := Nat) (fun k => ⟨[(0, ⟨.optr arr8, ⟨0, arr8, .here⟩⟩), (4, ⟨.optr arr64, ⟨1, arr64, .here⟩⟩), (5, ⟨.optr arr8, ⟨2, arr8, .here⟩⟩), (16, ⟨arr64, roundK⟩), (17, ⟨i64, (k : Int)⟩)],
    [(0, some (.box arr8 s)), (1, some (.box arr64 (sched l 64))), (2, some (.box arr8 (stWords (rounds (stOf s) (sched l 64) k))))], 3⟩) (fun k => k ≤ 64) (fun k => 64 - k) 0 (by omega) ⟨⟨rfl, rfl, rfl, rfl, rfl, trivial⟩, ⟨rfl, rfl, boxEq hsw, trivial⟩, rfl, rfl⟩ ?_
  intro k hk
  (repeat (first | refine AWP.seq ?_ | refine AWP.skip ?_ | refine AWP.label ?_ | refine AWP.exit ?_ | refine AWP.block ?_ | refine AWP.region hX kB_ok rfl trivial ?_ | refine AWP.region hX kB_ok rfl id ?_ | refine AWP.region hX kB_ok rfl ⟨id, id⟩ ?_))
  refine AWP.cond rfl (fun hb => ?_) (fun hb => ?_)
  · simp at hb
    have hnext : stWords (rounds (stOf s) (sched l 64) (k + 1)) = stWords (round (rounds (stOf s) (sched l 64) k) (roundK.getD k 0) ((sched l 64).getD k 0)) := rfl
    generalize rounds (stOf s) (sched l 64) k = t at *
    generalize sched l 64 = ws at *
    have hrk : roundK.length = 64 := rfl
    generalize roundK = rk at *
    (repeat (first | refine AWP.seq ?_ | refine AWP.skip ?_ | refine AWP.block ?_ | refine AWP.exit ?_)); refine AWP.region hX kB_ok rfl ?_ ?_
    · (simp only [allP, inR64]; (and_intros <;> first | omega | (simp; done) | (simp; omega)))
    (repeat (first | refine AWP.seq ?_ | refine AWP.skip ?_ | refine AWP.block ?_ | refine AWP.exit ?_)); refine AWP.draw dM hX kB_ok 34 (by kernel_rfl) rfl rfl ?_ ?_ ?_
    · (simp only [allP, inR64]; (and_intros <;> first | omega | (simp; done) | (simp; omega)))
    · trivial
    (repeat (first | refine AWP.seq ?_ | refine AWP.skip ?_ | refine AWP.block ?_ | refine AWP.exit ?_)); refine AWP.draw dM hX kB_ok 30 (by kernel_rfl) rfl rfl ?_ ?_ ?_
    · (simp only [allP, inR64]; (and_intros <;> first | omega | (simp; done) | (simp; omega)))
    · trivial
    (repeat (first | refine AWP.seq ?_ | refine AWP.skip ?_ | refine AWP.block ?_ | refine AWP.exit ?_)); refine AWP.region hX kB_ok rfl ?_ ?_
    · (simp only [allP, inR64]; (and_intros <;> first | omega | (simp; done) | (simp; omega)))
    (repeat (first | refine AWP.seq ?_ | refine AWP.skip ?_ | refine AWP.block ?_ | refine AWP.exit ?_)); refine AWP.region hX kB_ok rfl ?_ ?_
    · exact inR_succ (by omega)
    refine ⟨k + 1, by omega, by omega, ⟨rfl, rfl, rfl, rfl, vSucc _, trivial⟩, ⟨rfl, rfl, boxEq ?_, trivial⟩, rfl, rfl⟩
    rw [hnext]
    obtain ⟨a, b, c, d, e, f, g, h⟩ := t
    simp only [round, roundX, roundY]
    rfl
  · simp at hb
    have : k = 64 := by omega
    subst this
    have hfin : compress (stOf s) l = addSt (stOf s) (rounds (stOf s) (sched l 64) 64) := rfl
    generalize rounds (stOf s) (sched l 64) 64 = t at *
    generalize sched l 64 = ws at *
    (repeat (first | refine AWP.seq ?_ | refine AWP.skip ?_ | refine AWP.label ?_ | refine AWP.exit ?_ | refine AWP.block ?_ | refine AWP.region hX kB_ok rfl trivial ?_ | refine AWP.region hX kB_ok rfl id ?_ | refine AWP.region hX kB_ok rfl ⟨id, id⟩ ?_))
    refine AWP.loop (ι := Nat) (fun k => ⟨[(0, ⟨.optr arr8, ⟨0, arr8, .here⟩⟩), (5, ⟨.optr arr8, ⟨2, arr8, .here⟩⟩), (104, ⟨i64, (k : Int)⟩)],
      [(0, some (.box arr8 (mixL (stWords t) s k))), (2, some (.box arr8 (stWords t)))], 3⟩) (fun k => k ≤ 8) (fun k => 8 - k) 0 (by omega) ⟨⟨rfl, rfl, rfl, trivial⟩, ⟨boxEq ?_, rfl, trivial⟩, rfl, rfl⟩ ?_
    · match s, hs with
      | [_, _, _, _, _, _, _, _], _ => rfl
    intro k hk
    (repeat (first | refine AWP.seq ?_ | refine AWP.skip ?_ | refine AWP.label ?_ | refine AWP.exit ?_ | refine AWP.block ?_ | refine AWP.region hX kB_ok rfl trivial ?_ | refine AWP.region hX kB_ok rfl id ?_ | refine AWP.region hX kB_ok rfl ⟨id, id⟩ ?_))
    refine AWP.cond rfl (fun hb => ?_) (fun hb => ?_)
    · simp at hb
      (repeat (first | refine AWP.seq ?_ | refine AWP.skip ?_ | refine AWP.label ?_ | refine AWP.exit ?_ | refine AWP.block ?_ | refine AWP.region hX kB_ok rfl trivial ?_ | refine AWP.region hX kB_ok rfl id ?_ | refine AWP.region hX kB_ok rfl ⟨id, id⟩ ?_))
      (repeat (first | refine AWP.seq ?_ | refine AWP.skip ?_ | refine AWP.block ?_ | refine AWP.exit ?_)); refine AWP.draw dM hX kB_ok 11 (by kernel_rfl) rfl rfl ?_ ?_ ?_
      · (simp only [allP, inR64]; (and_intros <;> first | omega | (simp; done) | (simp; omega)))
      · (simp only [allP, inR64]; (and_intros <;> first | omega | (simp; done) | (simp; omega)))
      (repeat (first | refine AWP.seq ?_ | refine AWP.skip ?_ | refine AWP.block ?_ | refine AWP.exit ?_)); refine AWP.region hX kB_ok rfl ?_ ?_
      · exact inR_succ (by omega)
      refine ⟨k + 1, by omega, by omega, ⟨rfl, rfl, vSucc _, trivial⟩, ⟨boxEq ?_, rfl, trivial⟩, rfl, rfl⟩
      exact mixL_set (stWords t) s k (by omega)
    · simp at hb
      have : k = 8 := by omega
      subst this
      (repeat (first | refine AWP.seq ?_ | refine AWP.skip ?_ | refine AWP.label ?_ | refine AWP.exit ?_ | refine AWP.block ?_ | refine AWP.region hX kB_ok rfl trivial ?_ | refine AWP.region hX kB_ok rfl id ?_ | refine AWP.region hX kB_ok rfl ⟨id, id⟩ ?_))
      refine ⟨.inl rfl, boxEq ?_, by decide, rfl, [], rfl, trivial⟩
      show mixL (stWords t) s 8 = stWords (compress (stOf s) l)
      rw [hfin]
      match s, hs with
      | [a, b, c, d, e, f, g, h], _ =>
        simp only [mixL, stWords, addSt, stOf, List.range, List.range.loop, List.map, List.getD]
        simp
end Go.Proofs.YthhphphdbgkdgaaDoor
