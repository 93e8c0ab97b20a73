/-
  PROVED: a grant that is put in front of a policy decides for whom it fits and changes nothing for others, by package policy; no condition but the given row's own.
-/
import Derived.Test.YthkhgpbjfcmopaaGreatDoorDClose
import Derived.Test.YthkhgpbjfcmopaaGreatDoorPLawE
namespace Go.Proofs.YthkhgpbjfcmopaaGreatDoor.lawPolicyFirstGrantDecides
open Go Go.RowKit Go.ChangeShapes Go.WideShapes Go.ChangeAt
set_option linter.unusedSimpArgs false
set_option linter.unusedVariables false
set_option maxRecDepth 100000
theorem laid_met (os : Os) : laidMet Tryz.prog Rows.policyFirstGrantDecidesRow.laid ((laidWorld os).forCall (fun _ _ => 0) ⟨#[], #[.slice none 0 0, .agg #[.int .i64 0, .int .i64 0, .int .i64 0, .int .i64 0, .int .i64 0], .agg #[.int .i64 0, .slice none 0 0]], []⟩).memory :=
  laidMet_of_run' 8 (by kernel_rfl) (by kernel_rfl)
theorem reads (os : Os) {H : Type} (enc : TypeId × Value → H) : ∃ places, DataW.whole enc Tryz.prog ((laidWorld os).forCall (fun _ _ => 0) ⟨#[], #[.slice none 0 0, .agg #[.int .i64 0, .int .i64 0, .int .i64 0, .int .i64 0, .int .i64 0], .agg #[.int .i64 0, .slice none 0 0]], []⟩).memory Tryz.f6.params.toList Rows.policyFirstGrantDecidesSpec.vars false #[.slice none 0 0, .agg #[.int .i64 0, .int .i64 0, .int .i64 0, .int .i64 0, .int .i64 0], .agg #[.int .i64 0, .slice none 0 0]].toList 8 = some ([.nil, .agg [.lit (.int .i64 0), .lit (.int .i64 0), .lit (.int .i64 0), .lit (.int .i64 0), .lit (.int .i64 0)], .agg [.lit (.int .i64 0), .nil]], [], places) :=
  ⟨[], by kernel_rfl⟩
theorem lay : LayAll Tryz.prog [.slice gr, gr, who] Tryz.f6.params.toList := layAll_of pT_ok _ _ (by kernel_rfl)
theorem rec_ok : (Tryz.f6.params.toList.all fun t => Tryz.prog.readableRec t && decide (t < Tryz.prog.types.size)) = true := by kernel_rfl
theorem lifted (os : Os) (started : os.Started) (H : Type) (enc : TypeId × Value → H) (F : Stop.Interp) :
    ReturnsInHanded {} Tryz.checked os 6 .any ((OpenSpec.ofChange Rows.policyFirstGrantDecidesSpec).preRow enc Tryz.prog Tryz.f6 Rows.policyFirstGrantDecidesRow.domain false Rows.policyFirstGrantDecidesRow.laid) (((OpenSpec.ofChange Rows.policyFirstGrantDecidesSpec).at F).post enc Tryz.prog Tryz.f6 false true false false) := by
  obtain ⟨places, hx⟩ := reads os enc
  refine returnsInHanded_of_row (C := Tryz.checked) (s := OpenSpec.ofChange Rows.policyFirstGrantDecidesSpec) own started (by kernel_rfl) Tryz.func6
    (witness_row_at (enc := enc) (C := Tryz.checked) false (laidWorld os) #[.slice none 0 0, .agg #[.int .i64 0, .int .i64 0, .int .i64 0, .int .i64 0, .int .i64 0], .agg #[.int .i64 0, .slice none 0 0]] rfl (by kernel_rfl) (by kernel_rfl) (by kernel_rfl)
      (OpenSpec.preRow_of_cond 8 hx (by kernel_rfl) (fun k hk => by cases hk) (by kernel_rfl) (laid_met os))) ?_
  intro W base args ds gs before hval hW _ _ _ hL _ _
  exact law_of_ctr law4_ok lay rfl rfl (fun ds hds => by
    match ds, hds with
    | [_, _, _], _ => rfl) laidOut rec_ok rfl Tryz.underlying4 hval hW (dG_laid hL)
set_option maxHeartbeats 8000000 in
theorem facts : joinedFacts Tryz.prog 6 Tryz.f6 Rows.policyFirstGrantDecidesSpec Rows.policyFirstGrantDecidesRow = true := by
  unfold joinedFacts
  iterate 31 refine Bool.and_eq_true_iff.2 ⟨?_, ?_⟩
  all_goals (as_aux_lemma => kernel_rfl)
theorem said : Rows.PolicyFirstGrantDecidesSaid :=
  OpenClaim.holds_of_cond 6 Tryz.f6 rfl rfl rfl rfl rfl rfl rfl ⟨rfl, rfl, rfl, rfl, rfl⟩ rfl rfl rfl rfl rfl (by kernel_rfl) Tryz.func6 facts
    (of_decide_eq_true (by kernel_rfl)) (by unfold Func.isWrapper; first | (rw [if_pos (by decide +kernel)]; kernel_rfl) | (rw [if_neg (by decide +kernel)]; exact ⟨rfl, rfl⟩))
    (fun os started H enc _ F => by rw [OpenClaim.pre_eq_preRow]; exact lifted os started H enc F)
theorem plain (f : FuncId) (fn : Func) (hf : Tryz.pinned.checked.prog.funcNamed "kalends/kalendslaw25.PolicyFirstGrantDecides" = some f) (hfn : Tryz.pinned.checked.prog.funcs[f]? = some fn) :
    true = Tryz.pinned.checked.prog.looks [] ∧ ∀ (j : Nat) t, fn.params[j]? = some t → Tryz.pinned.checked.prog.wantsStandIn t = false := by
  obtain rfl : f = 6 := Option.some.inj ((show Tryz.prog.funcNamed "kalends/kalendslaw25.PolicyFirstGrantDecides" = some 6 by kernel_rfl).symm.trans hf) |>.symm
  obtain rfl : fn = Tryz.f6 := (Option.some.inj (Tryz.func6.symm.trans hfn)).symm
  refine ⟨by kernel_rfl, fun j t ht => ?_⟩
  have hall : (Tryz.f6.params.toList.all fun t => !Tryz.prog.wantsStandIn t) = true := by kernel_rfl
  have := List.all_eq_true.1 hall t (Array.mem_toList_iff.2 (Array.mem_of_getElem? ht))
  have h2 : Tryz.prog.wantsStandIn t = false := by simpa using this
  exact h2
/-- the statement -/
theorem card : Rows.PolicyFirstGrantDecidesCardSaid :=
  Claim7.holds_tied_plain_at .later [] _ _ _ _ said (fun _ h => by cases h) (by kernel_rfl) (fun _ h => by cases h) policyFirstGrantDecides_row_tie rfl ⟨rfl, rfl⟩ (by kernel_rfl) rfl plain (by kernel_rfl)
end Go.Proofs.YthkhgpbjfcmopaaGreatDoor.lawPolicyFirstGrantDecides
