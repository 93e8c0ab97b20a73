/-
  PROVED: two diaries get the same sealed answer just where they have the same view, and the witness of a view gets the view's own, by packages coarse, letter and envelope; no condition but the given row's own.
-/
import Derived.Test.YtbbeldmcdjjnbaaDoorDClose
import Derived.Test.YtbbeldmcdjjnbaaDoorHiB
namespace Go.Proofs.YtbbeldmcdjjnbaaDoor.lawTopAnswersHideDetails
open Go Go.RowKit Go.ChangeShapes Go.WideShapes Go.ChangeAt
set_option linter.unusedSimpArgs false
set_option linter.unusedVariables false
set_option maxRecDepth 100000
theorem laid_met (os : Os) : laidMet Tryd.prog Rows.topAnswersHideDetailsRow.laid ((laidWorld os).forCall (fun _ _ => 0) ⟨#[], #[.slice none 0 0, .slice none 0 0, .agg #[.int .u8 0, .int .u8 0, .int .u8 0, .int .u8 0]], []⟩).memory :=
  laidMet_of_run' 8 (by kernel_rfl) (by kernel_rfl)
theorem reads (os : Os) {H : Type} (enc : TypeId × Value → H) : ∃ places, DataW.whole enc Tryd.prog ((laidWorld os).forCall (fun _ _ => 0) ⟨#[], #[.slice none 0 0, .slice none 0 0, .agg #[.int .u8 0, .int .u8 0, .int .u8 0, .int .u8 0]], []⟩).memory Tryd.f3.params.toList Rows.topAnswersHideDetailsSpec.vars false #[.slice none 0 0, .slice none 0 0, .agg #[.int .u8 0, .int .u8 0, .int .u8 0, .int .u8 0]].toList 8 = some ([.nil, .nil, .agg [.lit (.int .u8 0), .lit (.int .u8 0), .lit (.int .u8 0), .lit (.int .u8 0)]], [], places) :=
  ⟨[], by kernel_rfl⟩
theorem lay : LayAll Tryd.prog [.slice (.arr 3 u8), .slice (.arr 3 u8), .arr 4 u8] Tryd.f3.params.toList := layAll_of hiT_ok _ _ (by kernel_rfl)
theorem rec_ok : (Tryd.f3.params.toList.all fun t => Tryd.prog.readableRec t && decide (t < Tryd.prog.types.size)) = true := by kernel_rfl
theorem lifted (os : Os) (started : os.Started) (H : Type) (enc : TypeId × Value → H) (F : Stop.Interp) :
    ReturnsInHanded {} Tryd.checked os 3 .any ((OpenSpec.ofChange Rows.topAnswersHideDetailsSpec).preRow enc Tryd.prog Tryd.f3 Rows.topAnswersHideDetailsRow.domain false Rows.topAnswersHideDetailsRow.laid) (((OpenSpec.ofChange Rows.topAnswersHideDetailsSpec).at F).post enc Tryd.prog Tryd.f3 false true false false) := by
  obtain ⟨places, hx⟩ := reads os enc
  refine returnsInHanded_of_row (C := Tryd.checked) (s := OpenSpec.ofChange Rows.topAnswersHideDetailsSpec) own started (by kernel_rfl) Tryd.func3
    (witness_row_at (enc := enc) (C := Tryd.checked) false (laidWorld os) #[.slice none 0 0, .slice none 0 0, .agg #[.int .u8 0, .int .u8 0, .int .u8 0, .int .u8 0]] rfl (by kernel_rfl) (by kernel_rfl) (by kernel_rfl)
      (OpenSpec.preRow_of_cond 8 hx (by kernel_rfl) (fun k hk => by cases hk) (by kernel_rfl) (laid_met os))) ?_
  intro W base args ds gs before hval hW _ _ _ hL _ _
  exact law_of_ctr law11_ok lay rfl rfl (fun ds hds => by
    match ds, hds with
    | [_, _, _], _ => rfl) laidOut rec_ok rfl Tryd.underlying4 hval hW (dG_laid hL)
set_option maxHeartbeats 8000000 in
theorem facts : joinedFacts Tryd.prog 3 Tryd.f3 Rows.topAnswersHideDetailsSpec Rows.topAnswersHideDetailsRow = true := by
  unfold joinedFacts
  iterate 31 refine Bool.and_eq_true_iff.2 ⟨?_, ?_⟩
  all_goals (as_aux_lemma => kernel_rfl)
theorem said : Rows.TopAnswersHideDetailsSaid :=
  OpenClaim.holds_of_cond 3 Tryd.f3 rfl rfl rfl rfl rfl rfl rfl ⟨rfl, rfl, rfl, rfl, rfl⟩ rfl rfl rfl rfl rfl (by kernel_rfl) Tryd.func3 facts
    (of_decide_eq_true (by kernel_rfl)) (by unfold Func.isWrapper; first | (rw [if_pos (by decide +kernel)]; kernel_rfl) | (rw [if_neg (by decide +kernel)]; exact ⟨rfl, rfl⟩))
    (fun os started H enc _ F => by rw [OpenClaim.pre_eq_preRow]; exact lifted os started H enc F)
theorem plain (f : FuncId) (fn : Func) (hf : Tryd.pinned.checked.prog.funcNamed "kalends/kalendstop.TopAnswersHideDetails" = some f) (hfn : Tryd.pinned.checked.prog.funcs[f]? = some fn) :
    false = Tryd.pinned.checked.prog.looks [] ∧ ∀ (j : Nat) t, fn.params[j]? = some t → Tryd.pinned.checked.prog.wantsStandIn t = false := by
  obtain rfl : f = 3 := Option.some.inj ((show Tryd.prog.funcNamed "kalends/kalendstop.TopAnswersHideDetails" = some 3 by kernel_rfl).symm.trans hf) |>.symm
  obtain rfl : fn = Tryd.f3 := (Option.some.inj (Tryd.func3.symm.trans hfn)).symm
  refine ⟨by kernel_rfl, fun j t ht => ?_⟩
  have hall : (Tryd.f3.params.toList.all fun t => !Tryd.prog.wantsStandIn t) = true := by kernel_rfl
  have := List.all_eq_true.1 hall t (Array.mem_toList_iff.2 (Array.mem_of_getElem? ht))
  have h2 : Tryd.prog.wantsStandIn t = false := by simpa using this
  exact h2
/-- the statement -/
theorem card : Rows.TopAnswersHideDetailsCardSaid :=
  Claim7.holds_tied_plain_at .later [] _ _ _ _ said (fun _ h => by cases h) (by kernel_rfl) (fun _ h => by cases h) topAnswersHideDetails_row_tie rfl ⟨rfl, rfl⟩ (by kernel_rfl) rfl plain (by kernel_rfl)
end Go.Proofs.YtbbeldmcdjjnbaaDoor.lawTopAnswersHideDetails
