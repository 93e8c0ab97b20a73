/-
  PROVED: the text of a made rule in which the references to a name are replaced by the text of another made rule in parentheses is parsed by package grammar to the rule that Put of package rule returns; no condition but the given row's own.
-/
import Derived.Test.YtpeaigpfddalcaaGreatDoorNE
set_option linter.unusedSimpArgs false
set_option linter.unusedVariables false
set_option maxRecDepth 100000
open Go.OpenSpec renaming ofChange -> vZ
open Option.some renaming inj -> ya
open Go Go.RowKit
namespace Go.Proofs.YtpeaigpfddalcaaGreatDoor.lawGrammarSubstitutes
open Go Go.RowKit Go.ChangeShapes Go.WideShapes Go.ChangeAt
theorem laid_met (os:Os):laidMet Tryz.prog Rows.grammarSubstitutesRow.laid ((zht os).forCall (fun _ _=>0) ⟨#[],#[.slice none 0 0,.slice none 0 0],[]⟩).memory:=
 laidMet_of_run' 8 (by kernel_rfl) (by kernel_rfl)
theorem reads (os:Os) {H:Type} (enc:TypeId×Value → H):∃ places,DataW.whole enc Tryz.prog ((zht os).forCall (fun _ _=>0) ⟨#[],#[.slice none 0 0,.slice none 0 0],[]⟩).memory Tryz.f12.params.toList Rows.grammarSubstitutesSpec.vars false #[.slice none 0 0,.slice none 0 0].toList 8=some ([.nil,.nil],[],places):=
 ⟨[],by kernel_rfl⟩
theorem lay:zkO Tryz.prog [ints,ints] Tryz.f12.params.toList:=zkg zhz _ _ (by kernel_rfl)
theorem zlO:(Tryz.f12.params.toList.all fun t=>Tryz.prog.readableRec t&&decide (t < Tryz.prog.types.size))=true:=by kernel_rfl
theorem lifted (os:Os) (started:os.Started) (H:Type) (enc:TypeId×Value → H) (F:Stop.Interp):
  ReturnsInHanded {} Tryz.checked os 12 .any ((vZ Rows.grammarSubstitutesSpec).preRow enc Tryz.prog Tryz.f12 Rows.grammarSubstitutesRow.domain false Rows.grammarSubstitutesRow.laid) (((vZ Rows.grammarSubstitutesSpec).at F).post enc Tryz.prog Tryz.f12 false true false false):=by
 obtain⟨places,hx⟩:=reads os enc;refine returnsInHanded_of_row (C:=Tryz.checked) (s:=vZ Rows.grammarSubstitutesSpec) own started (by kernel_rfl) Tryz.func12
  (witness_row_at (enc:=enc) (C:=Tryz.checked) false (zht os) #[.slice none 0 0,.slice none 0 0] rfl (by kernel_rfl) (by kernel_rfl) (by kernel_rfl)
    (OpenSpec.preRow_of_cond 8 hx (by kernel_rfl) (fun k hk=>by cases hk) (by kernel_rfl) (laid_met os))) ?_
 intro W base args ds gs before hval hW _ _ _ hL _ _;exact law_of_ctr law10_ok lay rfl rfl (fun ds hds=>by
  match ds,hds with
  | [_,_],_=>rfl) zta zlO rfl Tryz.underlying4 hval hW (ztK hL)
set_option maxHeartbeats 8000000 in
theorem facts:joinedFacts Tryz.prog 12 Tryz.f12 Rows.grammarSubstitutesSpec Rows.grammarSubstitutesRow=true:=by
 unfold joinedFacts
 iterate 31 refine Bool.and_eq_true_iff.2 ⟨?_,?_⟩
 all_goals (as_aux_lemma=>kernel_rfl)
theorem said:Rows.GrammarSubstitutesSaid:=
 OpenClaim.holds_of_cond 12 Tryz.f12 rfl rfl rfl rfl rfl rfl rfl ⟨rfl,rfl,rfl,rfl,rfl⟩ rfl rfl rfl rfl rfl (by kernel_rfl) Tryz.func12 facts
  (of_decide_eq_true (by kernel_rfl)) (by unfold Func.isWrapper;first|(rw[if_pos (by decide+kernel)];kernel_rfl)|(rw[if_neg (by decide+kernel)];exact⟨rfl,rfl⟩))
  (fun os started H enc _ F=>by rw[OpenClaim.pre_eq_preRow];exact lifted os started H enc F)
theorem plain (f:FuncId) (fn:Func) (hf:Tryz.pinned.checked.prog.funcNamed "kalends/kalendslaw07.GrammarSubstitutes"=some f) (hfn:Tryz.pinned.checked.prog.funcs[f]? =some fn):
  true=Tryz.pinned.checked.prog.looks []∧∀ (j:Nat) t,fn.params[j]? =some t → Tryz.pinned.checked.prog.wantsStandIn t=false:=by
 obtain rfl:f=12:=ya ((show Tryz.prog.funcNamed "kalends/kalendslaw07.GrammarSubstitutes"=some 12 by kernel_rfl).symm.trans hf) |>.symm;obtain rfl:fn=Tryz.f12:=(ya (Tryz.func12.symm.trans hfn)).symm;refine⟨by kernel_rfl,fun j t ht=>?_⟩;have hall:(Tryz.f12.params.toList.all fun t=>!Tryz.prog.wantsStandIn t)=true:=by kernel_rfl
 have:=List.all_eq_true.1 hall t (Array.mem_toList_iff.2 (Array.mem_of_getElem? ht));have h2:Tryz.prog.wantsStandIn t=false:=by simpa using this
 exact h2
theorem card:Rows.GrammarSubstitutesCardSaid:=
 Claim7.holds_tied_plain_at .later [] _ _ _ _ said (fun _ h=>by cases h) (by kernel_rfl) (fun _ h=>by cases h) grammarSubstitutes_row_tie rfl ⟨rfl,rfl⟩ (by kernel_rfl) rfl plain (by kernel_rfl)
end Go.Proofs.YtpeaigpfddalcaaGreatDoor.lawGrammarSubstitutes
