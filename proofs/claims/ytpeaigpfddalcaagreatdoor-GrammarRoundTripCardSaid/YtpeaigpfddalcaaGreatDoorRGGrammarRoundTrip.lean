/-
  PROVED: the text of a rule is parsed to the rule's nodes in postorder, which have the same text, and the text of a made rule to the made rule itself; no condition but the given row's own.
-/
import Derived.Test.YtpeaigpfddalcaaGreatDoorRF
set_option linter.unusedSimpArgs false
set_option linter.unusedVariables false
set_option maxRecDepth 100000
open Go.OpenSpec renaming ofChange -> km
open Option.some renaming inj -> yb
open Go Go.RowKit
namespace Go.Proofs.YtpeaigpfddalcaaGreatDoor.lawGrammarRoundTrip
open Go Go.RowKit Go.ChangeShapes Go.WideShapes Go.ChangeAt
theorem laid_met (os:Os):laidMet Tryz.prog Rows.grammarRoundTripRow.laid ((zhJ os).forCall (fun _ _=>0) ⟨#[],#[.slice none 0 0,.slice none 0 0],[]⟩).memory:=
 laidMet_of_run' 8 (by kernel_rfl) (by kernel_rfl)
theorem reads (os:Os) {H:Type} (enc:TypeId×Value → H):∃ places,DataW.whole enc Tryz.prog ((zhJ os).forCall (fun _ _=>0) ⟨#[],#[.slice none 0 0,.slice none 0 0],[]⟩).memory Tryz.f5.params.toList Rows.grammarRoundTripSpec.vars false #[.slice none 0 0,.slice none 0 0].toList 8=some ([.nil,.nil],[],places):=
 ⟨[],by kernel_rfl⟩
theorem lay:zk8 Tryz.prog [.slice nd,ints] Tryz.f5.params.toList:=zky zgM _ _ (by kernel_rfl)
theorem zmg:(Tryz.f5.params.toList.all fun t=>Tryz.prog.readableRec t&&decide (t < Tryz.prog.types.size))=true:=by kernel_rfl
theorem lifted (os:Os) (started:os.Started) (H:Type) (enc:TypeId×Value → H) (F:Stop.Interp):
 ReturnsInHanded {} Tryz.checked os 5 .any ((km Rows.grammarRoundTripSpec).preRow enc Tryz.prog Tryz.f5 Rows.grammarRoundTripRow.domain false Rows.grammarRoundTripRow.laid) (((km Rows.grammarRoundTripSpec).at F).post enc Tryz.prog Tryz.f5 false true false false):=by
 obtain⟨places,hx⟩:=reads os enc;refine returnsInHanded_of_row (C:=Tryz.checked) (s:=km Rows.grammarRoundTripSpec) own started (by kernel_rfl) Tryz.func5
  (witness_row_at (enc:=enc) (C:=Tryz.checked) false (zhJ os) #[.slice none 0 0,.slice none 0 0] rfl (by kernel_rfl) (by kernel_rfl) (by kernel_rfl)
    (OpenSpec.preRow_of_cond 8 hx (by kernel_rfl) (fun k hk=>by cases hk) (by kernel_rfl) (laid_met os))) ?_
 intro W base args ds gs before hval hW _ _ _ hL _ _;exact law_of_ctr law3_ok lay rfl rfl (fun ds hds=>by
  match ds,hds with
  | [_,_],_=>rfl) ztK zmg rfl Tryz.underlying4 hval hW (zug hL)
set_option maxHeartbeats 8000000 in
theorem facts:joinedFacts Tryz.prog 5 Tryz.f5 Rows.grammarRoundTripSpec Rows.grammarRoundTripRow=true:=by
 unfold joinedFacts
 iterate 31 refine Bool.and_eq_true_iff.2 ⟨?_,?_⟩
 all_goals (as_aux_lemma=>kernel_rfl)
theorem said:Rows.GrammarRoundTripSaid:=
 OpenClaim.holds_of_cond 5 Tryz.f5 rfl rfl rfl rfl rfl rfl rfl ⟨rfl,rfl,rfl,rfl,rfl⟩ rfl rfl rfl rfl rfl (by kernel_rfl) Tryz.func5 facts
  (of_decide_eq_true (by kernel_rfl)) (by unfold Func.isWrapper;first|(rw[if_pos (by decide+kernel)];kernel_rfl)|(rw[if_neg (by decide+kernel)];exact⟨rfl,rfl⟩))
  (fun os started H enc _ F=>by rw[OpenClaim.pre_eq_preRow];exact lifted os started H enc F)
theorem plain (f:FuncId) (fn:Func) (hf:Tryz.pinned.checked.prog.funcNamed "kalends/kalendslaw07.GrammarRoundTrip"=some f) (hfn:Tryz.pinned.checked.prog.funcs[f]? =some fn):
 true=Tryz.pinned.checked.prog.looks []∧∀ (j:Nat) t,fn.params[j]? =some t → Tryz.pinned.checked.prog.wantsStandIn t=false:=by
 obtain rfl:f=5:=yb ((show Tryz.prog.funcNamed "kalends/kalendslaw07.GrammarRoundTrip"=some 5 by kernel_rfl).symm.trans hf) |>.symm;obtain rfl:fn=Tryz.f5:=(yb (Tryz.func5.symm.trans hfn)).symm;refine⟨by kernel_rfl,fun j t ht=>?_⟩;have hall:(Tryz.f5.params.toList.all fun t=>!Tryz.prog.wantsStandIn t)=true:=by kernel_rfl
 have:=List.all_eq_true.1 hall t (Array.mem_toList_iff.2 (Array.mem_of_getElem? ht));have h2:Tryz.prog.wantsStandIn t=false:=by simpa using this
 exact h2
theorem card:Rows.GrammarRoundTripCardSaid:=
 Claim7.holds_tied_plain_at .later [] _ _ _ _ said (fun _ h=>by cases h) (by kernel_rfl) (fun _ h=>by cases h) grammarRoundTrip_row_tie rfl ⟨rfl,rfl⟩ (by kernel_rfl) rfl plain (by kernel_rfl)
end Go.Proofs.YtpeaigpfddalcaaGreatDoor.lawGrammarRoundTrip
