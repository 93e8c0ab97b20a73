/-
  The statement JournalPurity: nothing that was handed in is changed, and all results are new memory.
-/
import Derived.Test.YthhphphdbgkdgaaDoorJLawQ
namespace Go.Proofs.YthhphphdbgkdgaaDoor
open Go Go.RowKit
set_option linter.unusedSimpArgs false
set_option linter.unusedVariables false
set_option maxRecDepth 100000
def kP : Kn := { dK with C := [(4, cSanity), (5, cFew), (6, cFilled)] }
theorem kP_ok : KnOk Tryd.prog dG kP := dK_ok.with (.cons sanity_ok <| .cons few_ok <| .cons filled_ok .nil)
theorem fewP (l : List (List UInt8)) : Few ((l.take 8).map (List.take 60)) := by
  refine ⟨by rw [List.length_map, List.length_take]; omega, fun x hx => ?_⟩
  obtain ⟨y, _, rfl⟩ := List.mem_map.1 hx
  exact List.length_take_le _ _
set_option maxHeartbeats 16000000 in
theorem pur_walk (w0 : World) (O : Nat → Prop) (hG : dG w0) (hX : (Ownr.plain dG O).Ok w0) (l : List (List UInt8)) (t : Tr) : ∃ c, Tryd.f3.body = some c ∧ AWPR Tryd.prog w0 (Ownr.plain dG O) 109 c ⟨[(0, ⟨.slice bs, l⟩), (1, ⟨jt, t⟩)], [], 0⟩ (PurR w0) := by
  refine ⟨_, rfl, ?_⟩
  have hF := fewP l
  refine AWPR.seq ?_
  (repeat (first | refine AWP.seq ?_ | refine AWP.skip ?_ | refine AWP.block ?_ | refine AWP.exit ?_)); refine AWP.region hX kP_ok rfl ?_ ?_
  · trivial
  refine AWPR.seq ?_
  (repeat (first | refine AWP.seq ?_ | refine AWP.skip ?_ | refine AWP.block ?_ | refine AWP.exit ?_)); refine AWP.region hX kP_ok rfl ?_ ?_
  · trivial
  refine AWPR.seq ?_
  (repeat (first | refine AWP.seq ?_ | refine AWP.skip ?_ | refine AWP.block ?_ | refine AWP.exit ?_)); refine AWP.region hX kP_ok rfl ?_ ?_
  · trivial
  obtain ⟨x, hx⟩ : ∃ x, (l.take 8).map (List.take 60) = x := ⟨_, rfl⟩
  rw [hx] at hF
  refine AWPR.fit (σ2 := ⟨[(3, ⟨.optr jt, ⟨0, jt, .here⟩⟩), (5, ⟨.bool, true⟩), (6, ⟨.slice bs, x⟩)], [(0, some (.box jt t))], 1⟩) ⟨⟨rfl, rfl, vSs hx, trivial⟩, ⟨rfl, trivial⟩, rfl, rfl⟩ rfl ?_
  refine AWPR.seq ?_
  (repeat (first | refine AWP.seq ?_ | refine AWP.skip ?_ | refine AWP.block ?_ | refine AWP.exit ?_)); refine AWP.region hX kP_ok rfl ?_ ?_
  · exact ⟨hF, by show (0 : Int) ≤ 1; omega⟩
  obtain ⟨A, hA⟩ : ∃ A, fill x (min (Int.toNat 1) x.length) = A := ⟨_, rfl⟩
  have hlen := hF.1
  have hcat := few_cat hF.2
  have hle : A.1.length ≤ 1100000 := by rw [← hA]; show (cat x).length ≤ 1100000; omega
  refine AWPR.fit (σ2 := ⟨[(3, ⟨.optr jt, ⟨0, jt, .here⟩⟩), (5, ⟨.bool, true⟩), (7, ⟨.optr jl, ⟨1, jl, .here⟩⟩), (8, ⟨.bool, true⟩)], [(0, some (.box jt t)), (1, some (.box jl A))], 2⟩) ⟨⟨rfl, rfl, rfl, rfl, trivial⟩, ⟨rfl, boxEq hA, trivial⟩, rfl, rfl⟩ rfl ?_
  refine AWPR.seq ?_
  (repeat (first | refine AWP.seq ?_ | refine AWP.skip ?_ | refine AWP.block ?_ | refine AWP.exit ?_)); refine AWP.region hX kP_ok rfl ?_ ?_
  · trivial
  refine AWP.cond rfl (fun hb => ?_) (fun hb => ?_)
  · exact absurd hb (by decide)
  refine AWP.skip ?_
  refine thenQ_normal ?_
  have hl2 : ([] : List UInt8).length + A.1.length ≤ 1000000000 := by show 0 + A.1.length ≤ _; omega
  refine AWPR.seq ?_
  refine AWP.mono (Q := fun e s => e = .normal ∧ ∃ b nx, Fit s ⟨[(3, ⟨.optr jt, ⟨0, jt, .here⟩⟩), (5, ⟨.bool, true⟩), (7, ⟨.optr jl, ⟨1, jl, .here⟩⟩), (9, ⟨.optr jl, ⟨b, jl, .here⟩⟩)], [(0, some (.box jt t)), (1, some (.box jl A)), (b, some (.box jl A))], nx⟩ ∧ hasN [0, 1] b = false) ?_ ?_
  · refine AWP.ordersA dM 9 rfl (by kernel_rfl) ?_
    repeat' (first
      | exact AllN.nil
      | refine AllN.cons ⟨_, rfl, ?_⟩ ?_
      | refine StepA.eval hX kP_ok rfl trivial ?_
      | refine StepA.eval hX kP_ok rfl hl2 ?_
      | (refine OrdA.last ?_; exact ⟨rfl, _, 100, ⟨⟨rfl, rfl, rfl, rfl, trivial⟩, ⟨rfl, rfl, rfl, trivial⟩, rfl, rfl⟩, rfl⟩))
  · rintro e s ⟨rfl, b, nx, hf, hb⟩
    refine thenQ_normal ?_
    refine AWPR.fit hf rfl ?_
    exact pur_rest w0 O hG hX t A hle b nx hb
theorem law9_ok : CtrOk Tryd.prog dG 3 (lawCtr [.slice bs, jt]) := by
  refine ⟨Tryd.call3, fun w O xs vs hO hrep hp hG => ?_⟩
  obtain ⟨(l : List (List UInt8)), (t : Tr), _⟩ := xs
  have hX : (Ownr.plain dG O).Ok w := ⟨fun g hg => ⟨hO g hg, Ownr.plain_noR _ _ g⟩, fun g hg => (Ownr.plain_noR _ _ g hg).elim, fun w' hk => dK_ok.st w w' hG (hk.below (Ownr.plain_noR _ _))⟩
  obtain ⟨c, hc, hw⟩ := pur_walk w O hG hX l t
  refine calls_of_awpr (G := dG) (n := 109) Tryd.func3 hc rfl (by decide) (by decide) hrep fun β a w1 hs => ?_
  refine Go.wpIn_mono (hw β a w1 hs) fun e a' w' ⟨h1, h2, h3, h4⟩ => ⟨h1, h2, .bool true, ?_, .bool true, rfl, h3, fun β => (RepD.scalar rfl).2 rfl⟩
  have hm : (Tryd.f3.results.mapM (resM a'.tmps)).run Tryd.prog w' = .ok #[.bool true] w' := by
    rw [Array.mapM_eq_mapM_toList, show Tryd.f3.results.toList = [.tmp 4] from rfl]
    simp [resM, h4]
  rw [results_eq, Sem.run_bind, hm]
  simp
end Go.Proofs.YthhphphdbgkdgaaDoor
