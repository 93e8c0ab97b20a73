/-
  What the closings of the statements of chapter 25 share: the package variables' contents out of the row's list; a world for the witness.
-/
import Derived.Test.YthkhgpbjfcmopaaGreatDoorCards
import Derived.Test.YthkhgpbjfcmopaaGreatDoorTie
import Derived.Test.YthkhgpbjfcmopaaGreatDoorPLawS
import Derived.Test.YthkhgpbjfcmopaaGreatDoorAbsMore
import Derived.LaidSub
import Derived.Lib.LaidIn
namespace Go.Proofs.YthkhgpbjfcmopaaGreatDoor
open Go Go.RowKit Go.ChangeShapes Go.WideShapes Go.ChangeAt
set_option linter.unusedSimpArgs false
set_option linter.unusedVariables false
set_option maxRecDepth 100000
theorem own : ownKnob Tryz.prog.godebug = none := by kernel_rfl
theorem laidOut : laidOutB Tryz.prog = true := by kernel_rfl
abbrev laidL : List (String × DataW Unit) := Rows.policyParseMatchesReferenceRow.laid
theorem tab_eq : (laidL.filter fun x => x.1 == "internal/strconv.uint64pow10") = [("internal/strconv.uint64pow10", Lib.tabData .u64 Lib.pow10Tab)] := by kernel_rfl
theorem err_eq : (laidL.filter fun x => x.1 == "strconv.ErrRange") = [("strconv.ErrRange", Rows.laid_strconv_ErrRange)] := by kernel_rfl
theorem no_handles : (laidL.filter fun x => x.2.handleName?.isSome) = [] := by kernel_rfl
theorem gPowType : (Tryz.prog.globals[3]?).map (·.type) = some 272 := by kernel_rfl
theorem cellsPow : Tryz.prog.cellsOf 272 = 20 := by kernel_rfl
theorem cellsU64 : Tryz.prog.cellsOf 227 = 1 := by kernel_rfl
theorem gErr : Tryz.prog.globalNamed "strconv.ErrRange" = some 5 := by kernel_rfl
theorem gErrType : (Tryz.prog.globals[5]?).map (·.type) = some 83 := by kernel_rfl
/-- what the row's list gives -/
theorem dG_laid {W : World} (h : laidMetH Tryz.prog laidL W) : pH W := by
  have h1 : laidMet Tryz.prog laidL W := by
    have := (laidMetH_iff.1 h).1
    rwa [List.filter_eq_self.2 (fun x hx => by
      have hn := (List.filter_eq_nil_iff.1 no_handles) x hx
      cases he : x.2.handleName? with
      | none => rfl
      | some s => rw [he] at hn; exact absurd rfl hn)] at this
  have ht := h1.filter fun x => x.1 == "internal/strconv.uint64pow10"
  have he := h1.filter fun x => x.1 == "strconv.ErrRange"
  rw [tab_eq] at ht
  rw [err_eq] at he
  refine ⟨Lib.tabIs_of_head (rest := []) gPow gPowType Tryz.underlying272 Tryz.underlying227 cellsU64 cellsPow ht, ?_⟩
  obtain ⟨ps, ⟨g', t', cs, fuel, p, q, hg', ht', hvar, hd, _, _⟩, _⟩ := he
  obtain rfl := Option.some.inj (gErr.symm.trans hg')
  obtain rfl := Option.some.inj (gErrType.symm.trans ht')
  obtain ⟨_, u, v, hcs, _, _⟩ := iface_of_trod errT hd
  refine ⟨.iface u v, ?_, .inr ⟨u, v, rfl⟩⟩
  unfold World.var? at hvar
  rw [gErr] at hvar
  simp only [Option.bind_some] at hvar
  unfold World.cell?
  cases ho : W.heap[5]? with
  | none => rw [ho] at hvar; cases hvar
  | some o =>
    rw [ho] at hvar
    cases o <;> simp at hvar
    rename_i c t fz
    subst hvar
    simp
    rw [← Array.getElem?_toList, hcs]
    rfl
/-- the numbers of a table -/
def numD : DataW Unit → Int
  | .lit (.int _ z) => z
  | _ => 0
def flatD : DataW Unit → List Int
  | .agg ds => ds.flatMap fun d => match d with
    | .agg es => es.map numD
    | d => [numD d]
  | _ => []
def setG (g : Nat) (cs : List Value) (h : Array Obj) : Array Obj := h.modify g fun
  | .cells _ t frozen => .cells cs.toArray t frozen
  | o => o
noncomputable def heapW (os : Os) : Array Obj :=
  let h := (World.holding Tryz.prog os ⟨#[], #[], []⟩).heap
  let n := h.size
  ((setG 7 ((flatD Rows.laid_math_bits_deBruijn32tab).map (.int .u8 ·)) <|
    setG 8 ((flatD Rows.laid_math_bits_deBruijn64tab).map (.int .u8 ·)) <|
    setG 3 ((flatD Rows.laid_internal_strconv_uint64pow10).map (.int .u64 ·)) <|
    setG 1 ((flatD Rows.laid_unicode_utf8_acceptRanges).map (.int .u8 ·)) <|
    setG 0 ((flatD Rows.laid_unicode_utf8_first).map (.int .u8 ·)) <|
    setG 5 [.iface 307 (.pointer (some ⟨n, 0, none⟩))] <|
    setG 4 [.iface 307 (.pointer (some ⟨n + 1, 0, none⟩))] h).push
      (.cells #[.string ⟨#[118, 97, 108, 117, 101, 32, 111, 117, 116, 32, 111, 102, 32, 114, 97, 110, 103, 101]⟩] 309)).push
      (.cells #[.string ⟨#[105, 110, 118, 97, 108, 105, 100, 32, 115, 121, 110, 116, 97, 120]⟩] 309)
/-- a world for the witness: the settled one, the variables holding what their initialisers lay -/
noncomputable def laidWorld (os : Os) : World := { World.holding Tryz.prog os ⟨#[], #[], []⟩ with heap := heapW os }
end Go.Proofs.YthkhgpbjfcmopaaGreatDoor
