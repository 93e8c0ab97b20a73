/-
  The functions of chapter 23 as plain functions on logs, and the reference: Valid, Record, First.
-/
import Derived.Test.YthhphphdbgkdgaaDoorDPrgF
import Derived.Test.YthhphphdbgkdgaaDoorJSpec
namespace Go.Proofs.YthhphphdbgkdgaaDoor
open Go Go.RowKit
set_option linter.unusedSimpArgs false
set_option linter.unusedVariables false
set_option maxRecDepth 100000
abbrev Lg : Type := List UInt8 × Int × Unit
abbrev Tr : Type := Int × Int × UInt8 × Unit
def zLog : Lg := ([], 0, ())
def validL (l : Lg) : Bool := bif (bif decide ((0 : Int) ≤ l.2.1) then decide (l.2.1 ≤ (l.1.length : Nat)) else false) then decide ((l.1.length : Int) ≤ 1048576) else false
theorem validL_iff {l : Lg} : validL l = true ↔ (0 ≤ l.2.1 ∧ l.2.1 ≤ (l.1.length : Nat)) ∧ (l.1.length : Int) ≤ 1048576 := by
  unfold validL
  cases h1 : decide ((0 : Int) ≤ l.2.1) <;> cases h2 : decide (l.2.1 ≤ (l.1.length : Nat)) <;> cases h3 : decide ((l.1.length : Int) ≤ 1048576) <;> simp_all
def appendS (l : Lg) (b : List UInt8) : Lg × Int × Unit :=
  if validL l = true then (if (recs l.1).2 < l.1.length then (zLog, 10, ()) else if 1048576 < l.1.length + 12 + b.length then (zLog, 2, ()) else ((l.1 ++ rcd b, l.2.1, ()), 0, ())) else (zLog, 1, ())
def syncS (l : Lg) : Lg × Int × Unit := if validL l = true then ((l.1, (l.1.length : Int), ()), 0, ()) else (zLog, 1, ())
def recordsS (l : Lg) : List (List UInt8) × Int × Int × Unit := if validL l = true then ((recs l.1).1, ((recs l.1).2 : Int), 0, ()) else ([], 0, 1, ())
/-- what is left of the bytes that were not synced -/
def torn (r : List UInt8) (t : Tr) : List UInt8 :=
  if 0 ≤ t.2.1 ∧ t.2.1 < ((r.take t.1.toNat).length : Nat) then (r.take t.1.toNat).set t.2.1.toNat t.2.2.1 else r.take t.1.toNat
def crashS (l : Lg) (t : Tr) : Lg × Int × Unit :=
  if validL l = true ∧ 0 ≤ t.1 then ((l.1.take l.2.1.toNat ++ torn (l.1.drop l.2.1.toNat) t, l.2.1, ()), 0, ()) else (zLog, 1, ())
def repairS (l : Lg) : Lg × Int × Unit :=
  if validL l = true then (if ((recs l.1).2 : Int) < l.2.1 then (zLog, 10, ()) else ((l.1.take (recs l.1).2, ((recs l.1).2 : Int), ()), 0, ())) else (zLog, 1, ())
theorem vI64 {x y : Int} (h : x = y) : (⟨i64, x⟩ : V) = ⟨i64, y⟩ := by rw [h]
theorem vBs {x y : List UInt8} (h : x = y) : (⟨bs, x⟩ : V) = ⟨bs, y⟩ := by rw [h]
def cValid : Ctr := { args := [jl], pre := fun _ => [], res := .bool, own := none, out := fun x => validL x.1 }
theorem valid_ok : CtrOk Tryd.prog dG 13 cValid := by
  refine ctr_of_awp (K := dK) dK_ok Tryd.func13 rfl rfl Tryd.call13 rfl (by decide) (by intro h; cases h) ?_
  rintro w0 X hX ⟨(l : Lg), _⟩ hp
  change AWP _ _ _ _ _ ⟨[(0, ⟨jl, l⟩)], [], 0⟩ _
  (repeat (first | refine AWP.seq ?_ | refine AWP.skip ?_ | refine AWP.block ?_ | refine AWP.exit ?_)); refine AWP.region hX dK_ok rfl ?_ ?_
  · trivial
  (repeat (first | refine AWP.seq ?_ | refine AWP.skip ?_ | refine AWP.block ?_ | refine AWP.exit ?_)); refine AWP.region hX dK_ok rfl ?_ ?_
  · repeat' (first | exact trivial | assumption | (refine ⟨?_, ?_⟩) | (intro _) | exact Nat.le_of_ble_eq_true rfl | exact Int.natCast_nonneg _ | (simp_all [allP]; done))
  refine AWP.ret ⟨.inr rfl, done1 rfl trivial rfl rfl ?_⟩
  rfl
def cEq : Ctr := { args := [bs, bs], pre := fun _ => [], res := .bool, own := none, out := fun x => decide (x.1 = x.2.1) }
theorem equal_ok : CtrOk Tryd.prog dG 18 cEq := by
  refine ctr_of_awp (K := dK) dK_ok Tryd.func18 rfl rfl Tryd.call18 rfl (by decide) (by intro h; cases h) ?_
  rintro w0 X hX ⟨(x : List UInt8), (y : List UInt8), _⟩ hp
  change AWP _ _ _ _ _ ⟨[(0, ⟨bs, x⟩), (1, ⟨bs, y⟩)], [], 0⟩ _
  (repeat (first | refine AWP.seq ?_ | refine AWP.skip ?_ | refine AWP.label ?_ | refine AWP.exit ?_ | refine AWP.block ?_ | refine AWP.region hX dK_ok rfl trivial ?_ | refine AWP.region hX dK_ok rfl id ?_ | refine AWP.region hX dK_ok rfl ⟨id, id⟩ ?_))
  refine AWP.ret ⟨.inr rfl, done1 rfl trivial rfl rfl ?_⟩
  exact eqb_decide
def cSameL : Ctr := { args := [.slice bs, .slice bs], pre := fun _ => [], res := .bool, own := none, out := fun x => sameL x.1 x.2.1 }
noncomputable def sameLog (a b : Lg) : Bool := bif eqb .str a.1 b.1 then a.2.1 == b.2.1 else false
noncomputable def cSameLog : Ctr := { args := [jl, jl], pre := fun _ => [], res := .bool, own := none, out := fun x => sameLog x.1 x.2.1 }
theorem rsameLog_ok : CtrOk Tryd.prog dG 12 cSameLog := by
  refine ctr_of_awp (K := dK) dK_ok Tryd.func12 rfl rfl Tryd.call12 rfl (by decide) (by intro h; cases h) ?_
  rintro w0 X hX ⟨(x : Lg), (y : Lg), _⟩ hp
  change AWP _ _ _ _ _ ⟨[(0, ⟨jl, x⟩), (1, ⟨jl, y⟩)], [], 0⟩ _
  (repeat (first | refine AWP.seq ?_ | refine AWP.skip ?_ | refine AWP.block ?_ | refine AWP.exit ?_)); refine AWP.region hX dK_ok rfl ?_ ?_
  · trivial
  (repeat (first | refine AWP.seq ?_ | refine AWP.skip ?_ | refine AWP.block ?_ | refine AWP.exit ?_)); refine AWP.region hX dK_ok rfl ?_ ?_
  · repeat' (first | exact trivial | assumption | (refine ⟨?_, ?_⟩) | (intro _) | exact Nat.le_of_ble_eq_true rfl | exact Int.natCast_nonneg _ | (simp_all [allP]; done))
  refine AWP.ret ⟨.inr rfl, done1 rfl trivial rfl rfl ?_⟩
  rfl
end Go.Proofs.YthhphphdbgkdgaaDoor
