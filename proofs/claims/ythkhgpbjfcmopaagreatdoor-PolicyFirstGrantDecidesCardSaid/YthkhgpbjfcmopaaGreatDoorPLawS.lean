/-
  The statements of chapter 25, what they share: sanity.
-/
import Derived.Test.YthkhgpbjfcmopaaGreatDoorPParse
import Derived.Test.YthkhgpbjfcmopaaGreatDoorPPrgC
import Derived.Test.YthkhgpbjfcmopaaGreatDoorPPlA
namespace Go.Proofs.YthkhgpbjfcmopaaGreatDoor
open Go Go.RowKit
set_option linter.unusedSimpArgs false
set_option linter.unusedVariables false
set_option maxRecDepth 100000
theorem bif_true {a b : Bool} (ha : a = true) (hb : b = true) : (bif a then b else false) = true := by subst ha; subst hb; rfl
def sT1 : List UInt8 := [97, 115, 107, 32, 112, 101, 114, 115, 111, 110, 32, 51, 32, 103, 114, 97, 105, 110, 32, 52, 10, 97, 115, 107, 32, 116, 101, 97, 109, 32, 55, 32, 103, 114, 97, 105, 110, 32, 50, 10, 97, 115, 107, 32, 97, 108, 108, 32, 103, 114, 97, 105, 110, 32, 49]
def sT2 : List UInt8 := [109, 111, 118, 101, 32, 116, 101, 97, 109, 32, 49, 32, 114, 97, 110, 107, 32, 49, 48, 10, 32, 109, 111, 118, 101, 32, 97, 108, 108, 32, 114, 97, 110, 107, 32, 53, 48, 10]
def sT3 : List UInt8 := [97, 115, 107, 32, 97, 108, 108, 32, 103, 114, 97, 105, 110, 32, 53]
def sT4 : List UInt8 := [97, 115, 107, 32, 112, 101, 114, 115, 111, 110, 32, 48, 51, 32, 103, 114, 97, 105, 110, 32, 49]
def sTF : List UInt8 := [109, 111, 118, 101, 32, 116, 101, 97, 109, 32, 49, 32, 114, 97, 110, 107, 32, 49, 48, 10, 109, 111, 118, 101, 32, 97, 108, 108, 32, 114, 97, 110, 107, 32, 53, 48, 10]
def sP1L : List Gt := [(1, 3, -1, 4, 0, ()), (1, -1, 7, 2, 0, ()), (1, -1, -1, 1, 0, ())]
def sP2L : List Gt := [(3, -1, 1, 0, 10, ()), (3, -1, -1, 0, 50, ())]
theorem z1 : parseS sT1 = (sP1L, 0, 0) := by kernel_rfl
theorem z2 : parseS sT2 = (sP2L, 0, 0) := by kernel_rfl
theorem z3 : parseS sT3 = ([], 14, 1) := by kernel_rfl
theorem z4 : parseS sT4 = ([], 11, 3) := by kernel_rfl
theorem z5 : cFormatP.out ((sP2L, ()), ()) = (sTF, 0, ()) := by kernel_rfl
theorem z6 : grain sP1L 3 [7] = 4 := by decide +kernel
theorem z7 : grain sP1L 4 [7] = 2 := by decide +kernel
theorem z8 : grain sP1L 4 [] = 1 := by decide +kernel
theorem z9 : book sP1L 3 [] = false := by decide +kernel
theorem z10 : move sP2L 0 [1] 10 = true := by decide +kernel
theorem z11 : move sP2L 0 [1] 11 = false := by decide +kernel
theorem z12 : move sP2L 0 [] 50 = true := by decide +kernel
theorem z13 : pstr [] sP1L = true := by decide +kernel
theorem z14 : pstr sP1L [] = false := by decide +kernel
def kLs : Kn := { pK with C := [(30, cRParse), (26, cFormatP), (19, cGrainP), (21, cBookP), (23, cMoveP), (27, cPStr)] }
theorem kLs_ok : KnOk Tryz.prog pH kLs := hK_ok.with (.cons parse_ok <| .cons format_ok <| .cons grain_ok.lift <| .cons book_ok.lift <| .cons move_ok.lift <| .cons stricter_ok.lift .nil)
def cSanity : Ctr := { args := [], pre := fun _ => [], res := .bool, own := none, out := fun _ => true }
theorem vStrP {x y : List UInt8} (h : x = y) : (⟨.str, x⟩ : V) = ⟨.str, y⟩ := by rw [h]
theorem boxPo {x y : List Gt} (h : x = y) : some (OObj.box po (x, ())) = some (OObj.box po (y, ())) := by rw [h]
theorem sanity_ok : CtrOk Tryz.prog pH 14 cSanity := by
  refine ctr_of_awp (K := kLs) kLs_ok Tryz.func14 rfl rfl Tryz.call14 rfl (by decide) (by intro h; cases h) ?_
  rintro w0 X hX _ hp
  change AWP _ _ _ _ _ ⟨[], [], 0⟩ _
  obtain ⟨p, ep⟩ : ∃ p, p = sP1L := ⟨_, rfl⟩
  obtain ⟨q, eq⟩ : ∃ q, q = sP2L := ⟨_, rfl⟩
  have y1 : parseS sT1 = (p, 0, 0) := ep ▸ z1
  have y2 : parseS sT2 = (q, 0, 0) := eq ▸ z2
  have y5 : cFormatP.out ((q, ()), ()) = (sTF, 0, ()) := eq ▸ z5
  have y6 : grain p 3 [7] = 4 := ep ▸ z6
  have y7 : grain p 4 [7] = 2 := ep ▸ z7
  have y8 : grain p 4 [] = 1 := ep ▸ z8
  have y9 : book p 3 [] = false := ep ▸ z9
  have y10 : move q 0 [1] 10 = true := eq ▸ z10
  have y11 : move q 0 [1] 11 = false := eq ▸ z11
  have y12 : move q 0 [] 50 = true := eq ▸ z12
  have y13 : pstr [] p = true := ep ▸ z13
  have y14 : pstr p [] = false := ep ▸ z14
  clear ep eq
  (repeat (first | refine AWP.seq ?_ | refine AWP.skip ?_ | refine AWP.block ?_ | refine AWP.exit ?_)); refine AWP.region hX kLs_ok rfl ?_ ?_
  · trivial
  (repeat (first | refine AWP.seq ?_ | refine AWP.skip ?_ | refine AWP.block ?_ | refine AWP.exit ?_)); refine AWP.region hX kLs_ok rfl ?_ ?_
  · trivial
  refine AWP.fit (σ' := ⟨[(1, ⟨.optr po, ⟨0, po, .here⟩⟩), (2, ⟨i64, (0 : Int)⟩), (3, ⟨i64, (0 : Int)⟩)], [(0, some (.box po (p, ())))], 1⟩) ⟨⟨rfl, vI64 (congrArg (fun z => z.2.1) y1), vI64 (congrArg (fun z => z.2.2) y1), trivial⟩, ⟨boxPo (congrArg (fun z => z.1) y1), trivial⟩, rfl, rfl⟩ ?_
  (repeat (first | refine AWP.seq ?_ | refine AWP.skip ?_ | refine AWP.block ?_ | refine AWP.exit ?_)); refine AWP.region hX kLs_ok rfl ?_ ?_
  · trivial
  refine AWP.fit (σ' := ⟨[(1, ⟨.optr po, ⟨0, po, .here⟩⟩), (2, ⟨i64, (0 : Int)⟩), (3, ⟨i64, (0 : Int)⟩), (4, ⟨.optr po, ⟨1, po, .here⟩⟩), (6, ⟨i64, (0 : Int)⟩)], [(0, some (.box po (p, ()))), (1, some (.box po (q, ())))], 2⟩) ⟨⟨rfl, rfl, rfl, rfl, vI64 (congrArg (fun z => z.2.2) y2), trivial⟩, ⟨rfl, boxPo (congrArg (fun z => z.1) y2), trivial⟩, rfl, rfl⟩ ?_
  (repeat (first | refine AWP.seq ?_ | refine AWP.skip ?_ | refine AWP.block ?_ | refine AWP.exit ?_)); refine AWP.region hX kLs_ok rfl ?_ ?_
  · trivial
  refine AWP.fit (σ' := ⟨[(1, ⟨.optr po, ⟨0, po, .here⟩⟩), (3, ⟨i64, (0 : Int)⟩), (4, ⟨.optr po, ⟨1, po, .here⟩⟩), (6, ⟨i64, (0 : Int)⟩), (8, ⟨i64, (14 : Int)⟩), (9, ⟨i64, (1 : Int)⟩)], [(0, some (.box po (p, ()))), (1, some (.box po (q, ())))], 3⟩) ⟨⟨rfl, rfl, rfl, rfl, vI64 (congrArg (fun z => z.2.1) z3), vI64 (congrArg (fun z => z.2.2) z3), trivial⟩, ⟨rfl, rfl, trivial⟩, rfl, rfl⟩ ?_
  (repeat (first | refine AWP.seq ?_ | refine AWP.skip ?_ | refine AWP.block ?_ | refine AWP.exit ?_)); refine AWP.region hX kLs_ok rfl ?_ ?_
  · trivial
  refine AWP.fit (σ' := ⟨[(1, ⟨.optr po, ⟨0, po, .here⟩⟩), (3, ⟨i64, (0 : Int)⟩), (4, ⟨.optr po, ⟨1, po, .here⟩⟩), (6, ⟨i64, (0 : Int)⟩), (8, ⟨i64, (14 : Int)⟩), (9, ⟨i64, (1 : Int)⟩), (11, ⟨i64, (11 : Int)⟩), (12, ⟨i64, (3 : Int)⟩)], [(0, some (.box po (p, ()))), (1, some (.box po (q, ())))], 4⟩) ⟨⟨rfl, rfl, rfl, rfl, rfl, rfl, vI64 (congrArg (fun z => z.2.1) z4), vI64 (congrArg (fun z => z.2.2) z4), trivial⟩, ⟨rfl, rfl, trivial⟩, rfl, rfl⟩ ?_
  (repeat (first | refine AWP.seq ?_ | refine AWP.skip ?_ | refine AWP.block ?_ | refine AWP.exit ?_)); refine AWP.region hX kLs_ok rfl ?_ ?_
  · trivial
  refine AWP.fit (σ' := ⟨[(1, ⟨.optr po, ⟨0, po, .here⟩⟩), (3, ⟨i64, (0 : Int)⟩), (4, ⟨.optr po, ⟨1, po, .here⟩⟩), (6, ⟨i64, (0 : Int)⟩), (8, ⟨i64, (14 : Int)⟩), (9, ⟨i64, (1 : Int)⟩), (11, ⟨i64, (11 : Int)⟩), (12, ⟨i64, (3 : Int)⟩), (13, ⟨.str, sTF⟩), (14, ⟨i64, (0 : Int)⟩)], [(0, some (.box po (p, ()))), (1, some (.box po (q, ())))], 4⟩) ⟨⟨rfl, rfl, rfl, rfl, rfl, rfl, rfl, rfl, vStrP (congrArg (fun z => z.1) y5), vI64 (congrArg (fun z => z.2.1) y5), trivial⟩, ⟨rfl, rfl, trivial⟩, rfl, rfl⟩ ?_
  (repeat (first | refine AWP.seq ?_ | refine AWP.skip ?_ | refine AWP.block ?_ | refine AWP.exit ?_)); refine AWP.region hX kLs_ok rfl ?_ ?_
  · repeat' (first | exact trivial | assumption | (refine ⟨?_, ?_⟩) | (intro _))
  refine AWP.ret ⟨.inr rfl, done1 rfl trivial rfl rfl ?_⟩
  have e6 : (grain p 3 [7] == 4) = true := by rw [y6]; rfl
  have e7 : (grain p 4 [7] == 2) = true := by rw [y7]; rfl
  have e8 : (grain p 4 [] == 1) = true := by rw [y8]; rfl
  have e9 : (!book p 3 []) = true := by rw [y9]; rfl
  have e11 : (!move q 0 [1] 11) = true := by rw [y11]; rfl
  have e14 : (!pstr p []) = true := by rw [y14]; rfl
  exact bif_true (bif_true (bif_true (bif_true (bif_true (bif_true (bif_true (bif_true (bif_true (bif_true (bif_true (bif_true (bif_true (bif_true (bif_true (bif_true rfl rfl) rfl) rfl) rfl) rfl) rfl) (eqb_iff.2 rfl)) e6) e7) e8) e9) y10) e11) y12) y13) e14
end Go.Proofs.YthkhgpbjfcmopaaGreatDoor
