/-
  Package digest, second part: schedule, the compression function.
-/
import Derived.Test.YthhphphdbgkdgaaDoorDPrgA
namespace Go.Proofs.YthhphphdbgkdgaaDoor
open Go Go.RowKit
set_option linter.unusedSimpArgs false
set_option linter.unusedVariables false
set_option maxRecDepth 100000
theorem schedule_ok : CtrOk Tryd.prog dG 24 cExpand := by
  refine ctr_of_awp (K := kA) kA_ok Tryd.func24 rfl rfl Tryd.call24 rfl (by decide) (by intro h; cases h) ?_
  rintro w0 X hX ⟨(l : List UInt8), _⟩ hp
  change AWP _ _ _ _ _ ⟨[(0, ⟨bs, l⟩)], [], 0⟩ _
  have hp : l.length = 64 := hp
  (repeat (first | refine AWP.seq ?_ | refine AWP.skip ?_ | refine AWP.label ?_ | refine AWP.exit ?_ | refine AWP.block ?_ | refine AWP.region hX kA_ok rfl trivial ?_ | refine AWP.region hX kA_ok rfl id ?_ | refine AWP.region hX kA_ok rfl ⟨id, id⟩ ?_))
  refine AWP.loop (ι := Nat) (fun k => ⟨[(0, ⟨bs, l⟩), (2, ⟨.optr (.arr 64 u32), ⟨0, .arr 64 u32, .here⟩⟩), (3, ⟨.optr (.arr 64 u32), ⟨1, .arr 64 u32, .here⟩⟩), (9, ⟨i64, (k : Int)⟩)], [(0, some (.box (.arr 64 u32) (List.replicate 64 (0 : BitVec 32)))), (1, some (.box (.arr 64 u32) (schedL l k)))], 2⟩) (fun k => k ≤ 64) (fun k => 64 - k) 0 (by omega) ⟨⟨rfl, rfl, rfl, rfl, trivial⟩, ⟨rfl, rfl, trivial⟩, rfl, rfl⟩ ?_
  intro k hk
  (repeat (first | refine AWP.seq ?_ | refine AWP.skip ?_ | refine AWP.label ?_ | refine AWP.exit ?_ | refine AWP.block ?_ | refine AWP.region hX kA_ok rfl trivial ?_ | refine AWP.region hX kA_ok rfl id ?_ | refine AWP.region hX kA_ok rfl ⟨id, id⟩ ?_))
  refine AWP.cond rfl (fun hb => ?_) (fun hb => ?_)
  · simp at hb
    rename_i hb0
    (repeat (first | refine AWP.seq ?_ | refine AWP.skip ?_ | refine AWP.label ?_ | refine AWP.exit ?_ | refine AWP.block ?_ | refine AWP.region hX kA_ok rfl trivial ?_ | refine AWP.region hX kA_ok rfl id ?_ | refine AWP.region hX kA_ok rfl ⟨id, id⟩ ?_))
    refine AWP.cond rfl (fun hb => ?_) (fun hb => ?_)
    · simp at hb
      (repeat (first | refine AWP.seq ?_ | refine AWP.skip ?_ | refine AWP.block ?_ | refine AWP.exit ?_)); refine AWP.draw dM hX kA_ok 35 (by kernel_rfl) rfl rfl ?_ ?_ ?_
      · (simp only [allP, inR64]; (and_intros <;> first | omega | (simp; done) | (simp; omega)))
      · (simp only [allP, inR64]; (and_intros <;> first | omega | (simp; done) | (simp; omega)))
      (repeat (first | refine AWP.seq ?_ | refine AWP.skip ?_ | refine AWP.block ?_ | refine AWP.exit ?_)); refine AWP.region hX kA_ok rfl ?_ ?_
      · exact inR_succ (by omega)
      refine ⟨k + 1, by omega, by omega, ⟨rfl, rfl, rfl, vSucc _, trivial⟩, ⟨rfl, boxEq ?_, trivial⟩, rfl, rfl⟩
      rw [← schedL_set _ _ (by omega)]
      show List.set (schedL l k) (Int.toNat k) _ = _
      congr 1
      unfold schedNext
      rw [if_pos (by rw [sched_length]; omega), sched_length]
      rfl
    · simp at hb
      (repeat (first | refine AWP.seq ?_ | refine AWP.skip ?_ | refine AWP.block ?_ | refine AWP.exit ?_)); refine AWP.draw dM hX kA_ok 10 (by kernel_rfl) rfl rfl ?_ ?_ ?_
      · (simp only [allP, inR64]; (and_intros <;> first | omega | (simp; done) | (simp; omega)))
      · trivial
      (repeat (first | refine AWP.seq ?_ | refine AWP.skip ?_ | refine AWP.block ?_ | refine AWP.exit ?_)); refine AWP.region hX kA_ok rfl ?_ ?_
      · (simp only [allP, inR64]; (and_intros <;> first | omega | (simp; done) | (simp; omega)))
      (repeat (first | refine AWP.seq ?_ | refine AWP.skip ?_ | refine AWP.block ?_ | refine AWP.exit ?_)); refine AWP.region hX kA_ok rfl ?_ ?_
      · (simp only [allP, inR64]; (and_intros <;> first | omega | (simp; done) | (simp; omega)))
      (repeat (first | refine AWP.seq ?_ | refine AWP.skip ?_ | refine AWP.block ?_ | refine AWP.exit ?_)); refine AWP.draw dM hX kA_ok 15 (by kernel_rfl) rfl rfl ?_ ?_ ?_
      · (simp only [allP, inR64]; (and_intros <;> first | omega | (simp; done) | (simp; omega)))
      · (simp only [allP, inR64]; (and_intros <;> first | omega | (simp; done) | (simp; omega)))
      (repeat (first | refine AWP.seq ?_ | refine AWP.skip ?_ | refine AWP.block ?_ | refine AWP.exit ?_)); refine AWP.region hX kA_ok rfl ?_ ?_
      · exact inR_succ (by omega)
      refine ⟨k + 1, by omega, by omega, ⟨rfl, rfl, rfl, vSucc _, trivial⟩, ⟨rfl, boxEq ?_, trivial⟩, rfl, rfl⟩
      rw [← schedL_set _ _ (by omega)]
      show List.set (schedL l k) (Int.toNat k) _ = _
      congr 1
      unfold schedNext
      rw [if_neg (by rw [sched_length]; omega), sched_length]
      have e16 : ((k : Int) - 16).toNat = k - 16 := by omega
      have e15 : ((k : Int) - 15).toNat = k - 15 := by omega
      have e7 : ((k : Int) - 7).toNat = k - 7 := by omega
      have e2 : ((k : Int) - 2).toNat = k - 2 := by omega
      simp only [e16, e15, e7, e2, schedL_get l k (k - 16) (by omega), schedL_get l k (k - 15) (by omega), schedL_get l k (k - 7) (by omega), schedL_get l k (k - 2) (by omega)]
      rfl
  · simp at hb
    have : k = 64 := by omega
    subst this
    (repeat (first | refine AWP.seq ?_ | refine AWP.skip ?_ | refine AWP.label ?_ | refine AWP.exit ?_ | refine AWP.block ?_ | refine AWP.region hX kA_ok rfl trivial ?_ | refine AWP.region hX kA_ok rfl id ?_ | refine AWP.region hX kA_ok rfl ⟨id, id⟩ ?_))
    refine AWP.ret ⟨.inr rfl, done1 rfl trivial rfl rfl ?_⟩
    show schedL l 64 = sched l 64
    simp [schedL]
end Go.Proofs.YthhphphdbgkdgaaDoor
