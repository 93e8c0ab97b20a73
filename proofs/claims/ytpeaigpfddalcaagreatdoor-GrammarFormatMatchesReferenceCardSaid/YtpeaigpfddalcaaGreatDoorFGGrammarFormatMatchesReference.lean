/-
  PROVED: Format and FormatLibrary of package grammar agree with the reference implementation for all rules and libraries that are not huge, and for made rules; no condition but the given row's own.
-/
import Derived.Test.YtpeaigpfddalcaaGreatDoorFF
set_option linter.unusedSimpArgs false
set_option linter.unusedVariables false
set_option maxRecDepth 100000
open Go.OpenSpec renaming ofChange -> kl
open Option.some renaming inj -> zZ
open Go Go.RowKit
namespace Go.Proofs.YtpeaigpfddalcaaGreatDoor.lawGrammarFormatMatchesReference
open Go Go.RowKit Go.ChangeShapes Go.WideShapes Go.ChangeAt
theorem laid_met (os:Os):laidMet Tryz.prog Rows.grammarFormatMatchesReferenceRow.laid ((zhr os).forCall (fun _ _=>0) ⟨#[],#[.slice none 0 0,.slice none 0 0,.slice none 0 0],[]⟩).memory:=
 laidMet_of_run' 8 (by kernel_rfl) (by kernel_rfl)
theorem reads (os:Os) {H:Type} (enc:TypeId×Value → H):∃ places,DataW.whole enc Tryz.prog ((zhr os).forCall (fun _ _=>0) ⟨#[],#[.slice none 0 0,.slice none 0 0,.slice none 0 0],[]⟩).memory Tryz.f4.params.toList Rows.grammarFormatMatchesReferenceSpec.vars false #[.slice none 0 0,.slice none 0 0,.slice none 0 0].toList 8=some ([.nil,.nil,.nil],[],places):=
 ⟨[],by kernel_rfl⟩
theorem lay:zkH Tryz.prog [.slice nd,.slice de,ints] Tryz.f4.params.toList:=zj8 zgv _ _ (by kernel_rfl)
theorem zlR:(Tryz.f4.params.toList.all fun t=>Tryz.prog.readableRec t&&decide (t < Tryz.prog.types.size))=true:=by kernel_rfl
theorem lifted (os:Os) (started:os.Started) (H:Type) (enc:TypeId×Value → H) (F:Stop.Interp):
  ReturnsInHanded {} Tryz.checked os 4 .any ((kl Rows.grammarFormatMatchesReferenceSpec).preRow enc Tryz.prog Tryz.f4 Rows.grammarFormatMatchesReferenceRow.domain false Rows.grammarFormatMatchesReferenceRow.laid) (((kl Rows.grammarFormatMatchesReferenceSpec).at F).post enc Tryz.prog Tryz.f4 false true false false):=by
 obtain⟨places,hx⟩:=reads os enc;refine returnsInHanded_of_row (C:=Tryz.checked) (s:=kl Rows.grammarFormatMatchesReferenceSpec) own started (by kernel_rfl) Tryz.func4
  (witness_row_at (enc:=enc) (C:=Tryz.checked) false (zhr os) #[.slice none 0 0,.slice none 0 0,.slice none 0 0] rfl (by kernel_rfl) (by kernel_rfl) (by kernel_rfl)
    (OpenSpec.preRow_of_cond 8 hx (by kernel_rfl) (fun k hk=>by cases hk) (by kernel_rfl) (laid_met os))) ?_
 intro W base args ds gs before hval hW _ _ _ hL _ _;exact law_of_ctr law2_ok lay rfl rfl (fun ds hds=>by
  match ds,hds with
  | [_,_,_],_=>rfl) zs9 zlR rfl Tryz.underlying4 hval hW (ztE hL)
set_option maxHeartbeats 8000000 in
theorem facts:joinedFacts Tryz.prog 4 Tryz.f4 Rows.grammarFormatMatchesReferenceSpec Rows.grammarFormatMatchesReferenceRow=true:=by
 unfold joinedFacts
 iterate 31 refine Bool.and_eq_true_iff.2 ⟨?_,?_⟩
 all_goals (as_aux_lemma=>kernel_rfl)
theorem said:Rows.GrammarFormatMatchesReferenceSaid:=
 OpenClaim.holds_of_cond 4 Tryz.f4 rfl rfl rfl rfl rfl rfl rfl ⟨rfl,rfl,rfl,rfl,rfl⟩ rfl rfl rfl rfl rfl (by kernel_rfl) Tryz.func4 facts
  (of_decide_eq_true (by kernel_rfl)) (by unfold Func.isWrapper;first|(rw[if_pos (by decide+kernel)];kernel_rfl)|(rw[if_neg (by decide+kernel)];exact⟨rfl,rfl⟩))
  (fun os started H enc _ F=>by rw[OpenClaim.pre_eq_preRow];exact lifted os started H enc F)
theorem plain (f:FuncId) (fn:Func) (hf:Tryz.pinned.checked.prog.funcNamed "kalends/kalendslaw07.GrammarFormatMatchesReference"=some f) (hfn:Tryz.pinned.checked.prog.funcs[f]? =some fn):
  true=Tryz.pinned.checked.prog.looks []∧∀ (j:Nat) t,fn.params[j]? =some t → Tryz.pinned.checked.prog.wantsStandIn t=false:=by
 obtain rfl:f=4:=zZ ((show Tryz.prog.funcNamed "kalends/kalendslaw07.GrammarFormatMatchesReference"=some 4 by kernel_rfl).symm.trans hf) |>.symm;obtain rfl:fn=Tryz.f4:=(zZ (Tryz.func4.symm.trans hfn)).symm;refine⟨by kernel_rfl,fun j t ht=>?_⟩;have hall:(Tryz.f4.params.toList.all fun t=>!Tryz.prog.wantsStandIn t)=true:=by kernel_rfl
 have:=List.all_eq_true.1 hall t (Array.mem_toList_iff.2 (Array.mem_of_getElem? ht));have h2:Tryz.prog.wantsStandIn t=false:=by simpa using this
 exact h2
theorem card:Rows.GrammarFormatMatchesReferenceCardSaid:=
 Claim7.holds_tied_plain_at .later [] _ _ _ _ said (fun _ h=>by cases h) (by kernel_rfl) (fun _ h=>by cases h) grammarFormatMatchesReference_row_tie rfl ⟨rfl,rfl⟩ (by kernel_rfl) rfl plain (by kernel_rfl)
end Go.Proofs.YtpeaigpfddalcaaGreatDoor.lawGrammarFormatMatchesReference
