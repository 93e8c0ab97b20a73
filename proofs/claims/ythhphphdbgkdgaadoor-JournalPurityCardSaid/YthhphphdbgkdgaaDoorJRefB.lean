/-
  The reference of chapter 23: Records, Append, Crash, Repair, Made.
-/
import Derived.Test.YthhphphdbgkdgaaDoorJRefA
namespace Go.Proofs.YthhphphdbgkdgaaDoor
open Go Go.RowKit
set_option linter.unusedSimpArgs false
set_option linter.unusedVariables false
set_option maxRecDepth 100000
theorem pay_eq (b : List UInt8) (a n : Nat) (h1 : 12 ≤ n) (h2 : n ≤ b.length - a) : List.drop ((a : Int) + 12).toNat (List.take ((a : Int) + (n : Int)).toNat b) = ((b.drop a).drop 12).take (n - 12) := by
  rw [show ((a : Int) + 12).toNat = a + 12 by omega, show ((a : Int) + (n : Int)).toNat = a + n by omega, List.drop_take, List.drop_drop]
  congr 1
  omega
def cRecsR : Ctr := { args := [bs], pre := fun x => [List.length x.1 ≤ 800000], res := .tup (.slice bs) (.tup i64 .unit), own := none, out := fun x => ((recs x.1).1, ((recs x.1).2 : Int), ()) }
def cAppendS (m : Nat) : Ctr := { args := [jl, bs], pre := fun x => [List.length x.1.1 ≤ m, List.length x.2.1 ≤ m], res := .tup jl (.tup i64 .unit), own := none, out := fun x => appendS x.1 x.2.1 }
end Go.Proofs.YthhphphdbgkdgaaDoor
