/-
  PROVED: letters that are made from numbers, written to a journal and synced are read back as they were after any crash, in their order, and after them only letters that were written, by packages letter, series and journal; no condition but the given row's own.
-/
import Derived.Test.YtdjjmoenpjlfeaaGreatDoorKF
namespace Go.Proofs.YtdjjmoenpjlfeaaGreatDoor.lawTopJournalsKeepLetters
open Go Go.RowKit Go.ChangeShapes Go.WideShapes Go.ChangeAt
set_option linter.unusedSimpArgs false
set_option linter.unusedVariables false
set_option maxRecDepth 100000
theorem laid_met(os:Os):laidMet Tryz.prog Rows.topJournalsKeepLettersRow.laid ((zg2 os).forCall (λ_ _=>0) ⟨#[],#[.slice none 0 0,.int .u8 0,.int .u16 0],[]⟩).memory:=
 laidMet_of_run' 8 (by kernel_rfl) (by kernel_rfl)
theorem reads(os:Os){H:Type}(enc:TypeId×Value → H):∃places,DataW.whole enc Tryz.prog ((zg2 os).forCall (λ_ _=>0) ⟨#[],#[.slice none 0 0,.int .u8 0,.int .u16 0],[]⟩).memory Tryz.f3.params.toList Rows.topJournalsKeepLettersSpec.vars false #[.slice none 0 0,.int .u8 0,.int .u16 0].toList 8=some ([.nil,.lit (.int .u8 0),.lit (.int .u16 0)],[],places):=
 ⟨[],by kernel_rfl⟩
theorem lay:zke Tryz.prog [.slice ints,u8,.int .u16] Tryz.f3.params.toList:=zjL zd2 _ _ (by kernel_rfl)
theorem rec_ok:(Tryz.f3.params.toList.all λt=>Tryz.prog.readableRec t&&decide (t<Tryz.prog.types.size))=true:=by kernel_rfl
theorem lifted(os:Os)(started:os.Started)(H:Type)(enc:TypeId×Value → H)(F:Stop.Interp):
  ReturnsInHanded {} Tryz.checked os 3 .any ((OpenSpec.ofChange Rows.topJournalsKeepLettersSpec).preRow enc Tryz.prog Tryz.f3 Rows.topJournalsKeepLettersRow.domain false Rows.topJournalsKeepLettersRow.laid) (((OpenSpec.ofChange Rows.topJournalsKeepLettersSpec).at F).post enc Tryz.prog Tryz.f3 false true false false):=by
 obtain⟨places,hx⟩:=reads os enc;refine returnsInHanded_of_row (C:=Tryz.checked) (s:=OpenSpec.ofChange Rows.topJournalsKeepLettersSpec) own started (by kernel_rfl) Tryz.func3
  (witness_row_at (enc:=enc) (C:=Tryz.checked) false (zg2 os) #[.slice none 0 0,.int .u8 0,.int .u16 0] rfl (by kernel_rfl) (by kernel_rfl) (by kernel_rfl)
    (OpenSpec.preRow_of_cond 8 hx (by kernel_rfl) (λk hk=>by cases hk) (by kernel_rfl) (laid_met os))) ?_
 intro W base args ds gs before hval hW _ _ _ hL _ _;exact law_of_ctr law27_ok lay rfl rfl (λds hds=>by
  match ds,hds with
  | [_,_,_],_=>rfl) zsW rec_ok rfl Tryz.underlying4 hval hW (ztl hL)
set_option maxHeartbeats 8000000 in
theorem facts:joinedFacts Tryz.prog 3 Tryz.f3 Rows.topJournalsKeepLettersSpec Rows.topJournalsKeepLettersRow=true:=by
 unfold joinedFacts
 iterate 31 refine Bool.and_eq_true_iff.2 ⟨?_,?_⟩
 all_goals (as_aux_lemma=>kernel_rfl)
theorem said:Rows.TopJournalsKeepLettersSaid:=
 OpenClaim.holds_of_cond 3 Tryz.f3 rfl rfl rfl rfl rfl rfl rfl ⟨rfl,rfl,rfl,rfl,rfl⟩ rfl rfl rfl rfl rfl (by kernel_rfl) Tryz.func3 facts
  (of_decide_eq_true (by kernel_rfl)) (by unfold Func.isWrapper;first|(rw[if_pos (by decide+kernel)];kernel_rfl)|(rw[if_neg (by decide+kernel)];exact⟨rfl,rfl⟩))
  (λos started H enc _ F=>by rw[OpenClaim.pre_eq_preRow];exact lifted os started H enc F)
theorem plain(f:FuncId)(fn:Func) (hf:Tryz.pinned.checked.prog.funcNamed "kalends/kalendstop.TopJournalsKeepLetters"=some f) (hfn:Tryz.pinned.checked.prog.funcs[f]? =some fn):
  true=Tryz.pinned.checked.prog.looks []/\∀(j:Nat)t,fn.params[j]? =some t → Tryz.pinned.checked.prog.wantsStandIn t=false:=by
 obtain rfl:f=3:=Option.some.inj ((show Tryz.prog.funcNamed "kalends/kalendstop.TopJournalsKeepLetters"=some 3 by kernel_rfl).symm.trans hf) |>.symm;obtain rfl:fn=Tryz.f3:=(Option.some.inj (Tryz.func3.symm.trans hfn)).symm;refine⟨by kernel_rfl,λj t ht=>?_⟩;have hall:(Tryz.f3.params.toList.all λt=>!Tryz.prog.wantsStandIn t)=true:=by kernel_rfl
 have:=List.all_eq_true.1 hall t (Array.mem_toList_iff.2 (Array.mem_of_getElem? ht));have h2:Tryz.prog.wantsStandIn t=false:=by simpa using this
 exact h2
theorem card:Rows.TopJournalsKeepLettersCardSaid:=
 Claim7.holds_tied_plain_at .later [] _ _ _ _ said (λ_ h=>by cases h) (by kernel_rfl) (λ_ h=>by cases h) topJournalsKeepLetters_row_tie rfl ⟨rfl,rfl⟩ (by kernel_rfl) rfl plain (by kernel_rfl)
end Go.Proofs.YtdjjmoenpjlfeaaGreatDoor.lawTopJournalsKeepLetters
