/-
  strings.IndexByte.
-/
import Derived.Test.YthkhgpbjfcmopaaGreatDoorPPrgA
import Derived.Lib.Strings
import Derived.Lib.Walk
import Derived.Lib.Bytealg
namespace Go.Proofs.YthkhgpbjfcmopaaGreatDoor
open Go Go.RowKit
set_option linter.unusedSimpArgs false
set_option linter.unusedVariables false
set_option maxRecDepth 100000
set_option maxHeartbeats 1000000 in
theorem liteIndex_call (s : ByteArray) (c : Int) (w : World) :
    Calls Tryz.prog 114 #[.string s, .int .u8 c] w fun e w' => e = .returned (.int .i64 (Lib.indexByte s.data.toList c.toNat.toUInt8)) ∧ w' = w := by
  go_enter Tryz.func114, Tryz.ntmps114
  go_wp2
  rw [run_callFunc_extern Tryz.func136 (by kernel_rfl) (by kernel_rfl) (by kernel_rfl) (e := Extern.BytealgIndexByte.indexByte) (by kernel_rfl), Lib.run_indexByteString]
  simp only [Result.andThen]
  rw [Oper.upon_value]
  go_wp2
  go_ret
  exact ⟨rfl, rfl⟩
def cLiteI : Ctr := { args := [.str, u8], pre := fun _ => [], res := i64, own := none, out := fun x => Lib.indexByte x.1 x.2.1 }
theorem liteIndex_ok : CtrOk Tryz.prog pG 114 cLiteI := by
  refine ⟨Tryz.call114, fun w O xs vs hO hr hp hG => ?_⟩
  obtain ⟨(s : List UInt8), (c : UInt8), _⟩ := xs
  obtain ⟨v1, r1, rfl, e1, v2, r2, rfl, e2, rfl⟩ := hr
  have e1 : [v1] = [Value.string ⟨s.toArray⟩] ∧ s.length ≤ maxLen := e1
  have e2 : [v2] = [Value.int .u8 ((c.toNat : Nat) : Int)] := e2
  obtain ⟨e1, _⟩ := e1
  cases e1
  cases e2
  refine (liteIndex_call ⟨s.toArray⟩ ((c.toNat : Nat) : Int) w).mono ?_
  rintro e w' ⟨rfl, rfl⟩
  refine ⟨_, rfl, Below.refl _ _, fun β => ?_⟩
  show [Value.int .i64 (Lib.indexByte s (((c.toNat : Nat) : Int).toNat.toUInt8))] = [Value.int .i64 (Lib.indexByte s c)]
  rw [Int.toNat_natCast, show c.toNat.toUInt8 = c from UInt8.ofNat_toNat]
def kQR : Kn := { pK with C := [(114, cLiteI)] }
theorem kQR_ok : KnOk Tryz.prog pG kQR := pK_ok.with (.cons liteIndex_ok .nil)
theorem indexByte_ok : CtrOk Tryz.prog pG 94 cLiteI := by
  refine ctr_of_awp (K := kQR) kQR_ok Tryz.func94 rfl rfl Tryz.call94 rfl (by decide) (by intro h; cases h) ?_
  rintro w0 X hX ⟨(s : List UInt8), (c : UInt8), _⟩ hp
  change AWP _ _ _ _ _ ⟨[(0, ⟨.str, s⟩), (1, ⟨u8, c⟩)], [], 0⟩ _
  (repeat (first | refine AWP.seq ?_ | refine AWP.skip ?_ | refine AWP.label ?_ | refine AWP.exit ?_ | refine AWP.block ?_ | refine AWP.region hX kQR_ok rfl trivial ?_ | refine AWP.region hX kQR_ok rfl id ?_ | refine AWP.region hX kQR_ok rfl ⟨id, id⟩ ?_))
  exact AWP.ret ⟨.inr rfl, done1 rfl trivial rfl rfl rfl⟩
end Go.Proofs.YthkhgpbjfcmopaaGreatDoor
