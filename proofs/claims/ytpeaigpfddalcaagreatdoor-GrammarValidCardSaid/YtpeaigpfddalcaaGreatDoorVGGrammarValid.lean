/-
  PROVED: a rule that package grammar parses is valid for three calendars, and the names that it refers to are those that stand behind the sign of a reference in the text; no condition but the given row's own.
-/
import Derived.Test.YtpeaigpfddalcaaGreatDoorVE
set_option linter.unusedSimpArgs false
set_option linter.unusedVariables false
set_option maxRecDepth 100000
open Go.OpenSpec renaming ofChange -> vS
open Option.some renaming inj -> zN
open Go Go.RowKit
namespace Go.Proofs.YtpeaigpfddalcaaGreatDoor.lawGrammarValid
open Go Go.RowKit Go.ChangeShapes Go.WideShapes Go.ChangeAt
theorem laid_met (os:Os):laidMet Tryz.prog Rows.grammarValidRow.laid ((zg6 os).forCall (fun _ _=>0) ⟨#[],#[.string ⟨#[]⟩],[]⟩).memory:=
 laidMet_of_run' 8 (by kernel_rfl) (by kernel_rfl)
theorem reads (os:Os) {H:Type} (enc:TypeId×Value → H):∃ places,DataW.whole enc Tryz.prog ((zg6 os).forCall (fun _ _=>0) ⟨#[],#[.string ⟨#[]⟩],[]⟩).memory Tryz.f11.params.toList Rows.grammarValidSpec.vars false #[.string ⟨#[]⟩].toList 8=some ([.lit (.string [])],[],places):=
 ⟨[],by kernel_rfl⟩
theorem lay:zks Tryz.prog [.str] Tryz.f11.params.toList:=zjS zgb _ _ (by kernel_rfl)
theorem zlz:(Tryz.f11.params.toList.all fun t=>Tryz.prog.readableRec t&&decide (t < Tryz.prog.types.size))=true:=by kernel_rfl
theorem lifted (os:Os) (started:os.Started) (H:Type) (enc:TypeId×Value → H) (F:Stop.Interp):
  ReturnsInHanded {} Tryz.checked os 11 .any ((vS Rows.grammarValidSpec).preRow enc Tryz.prog Tryz.f11 Rows.grammarValidRow.domain false Rows.grammarValidRow.laid) (((vS Rows.grammarValidSpec).at F).post enc Tryz.prog Tryz.f11 false true false false):=by
 obtain⟨places,hx⟩:=reads os enc;refine returnsInHanded_of_row (C:=Tryz.checked) (s:=vS Rows.grammarValidSpec) own started (by kernel_rfl) Tryz.func11
  (witness_row_at (enc:=enc) (C:=Tryz.checked) false (zg6 os) #[.string ⟨#[]⟩] rfl (by kernel_rfl) (by kernel_rfl) (by kernel_rfl)
    (OpenSpec.preRow_of_cond 8 hx (by kernel_rfl) (fun k hk=>by cases hk) (by kernel_rfl) (laid_met os))) ?_
 intro W base args ds gs before hval hW _ _ _ hL _ _;exact law_of_ctr law9_ok lay rfl rfl (fun ds hds=>by
  match ds,hds with
  | [_],_=>rfl) zr8 zlz rfl Tryz.underlying4 hval hW (zsG hL)
set_option maxHeartbeats 8000000 in
theorem facts:joinedFacts Tryz.prog 11 Tryz.f11 Rows.grammarValidSpec Rows.grammarValidRow=true:=by
 unfold joinedFacts
 iterate 31 refine Bool.and_eq_true_iff.2 ⟨?_,?_⟩
 all_goals (as_aux_lemma=>kernel_rfl)
theorem said:Rows.GrammarValidSaid:=
 OpenClaim.holds_of_cond 11 Tryz.f11 rfl rfl rfl rfl rfl rfl rfl ⟨rfl,rfl,rfl,rfl,rfl⟩ rfl rfl rfl rfl rfl (by kernel_rfl) Tryz.func11 facts
  (of_decide_eq_true (by kernel_rfl)) (by unfold Func.isWrapper;first|(rw[if_pos (by decide+kernel)];kernel_rfl)|(rw[if_neg (by decide+kernel)];exact⟨rfl,rfl⟩))
  (fun os started H enc _ F=>by rw[OpenClaim.pre_eq_preRow];exact lifted os started H enc F)
theorem plain (f:FuncId) (fn:Func) (hf:Tryz.pinned.checked.prog.funcNamed "kalends/kalendslaw07.GrammarValid"=some f) (hfn:Tryz.pinned.checked.prog.funcs[f]? =some fn):
  true=Tryz.pinned.checked.prog.looks []∧∀ (j:Nat) t,fn.params[j]? =some t → Tryz.pinned.checked.prog.wantsStandIn t=false:=by
 obtain rfl:f=11:=zN ((show Tryz.prog.funcNamed "kalends/kalendslaw07.GrammarValid"=some 11 by kernel_rfl).symm.trans hf) |>.symm;obtain rfl:fn=Tryz.f11:=(zN (Tryz.func11.symm.trans hfn)).symm;refine⟨by kernel_rfl,fun j t ht=>?_⟩;have hall:(Tryz.f11.params.toList.all fun t=>!Tryz.prog.wantsStandIn t)=true:=by kernel_rfl
 have:=List.all_eq_true.1 hall t (Array.mem_toList_iff.2 (Array.mem_of_getElem? ht));have h2:Tryz.prog.wantsStandIn t=false:=by simpa using this
 exact h2
theorem card:Rows.GrammarValidCardSaid:=
 Claim7.holds_tied_plain_at .later [] _ _ _ _ said (fun _ h=>by cases h) (by kernel_rfl) (fun _ h=>by cases h) grammarValid_row_tie rfl ⟨rfl,rfl⟩ (by kernel_rfl) rfl plain (by kernel_rfl)
end Go.Proofs.YtpeaigpfddalcaaGreatDoor.lawGrammarValid
