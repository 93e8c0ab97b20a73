/-
  The statements of chapter 23, what they share: few, prefix, sanity.
-/
import Derived.Test.YthhphphdbgkdgaaDoorJPrgC
namespace Go.Proofs.YthhphphdbgkdgaaDoor
open Go Go.RowKit
set_option linter.unusedSimpArgs false
set_option linter.unusedVariables false
set_option maxRecDepth 100000
def cFew : Ctr := { args := [.slice bs], pre := fun _ => [], res := .slice bs, own := none, out := fun x => (List.take 8 x.1).map (List.take 60) }
theorem few_ok : CtrOk Tryd.prog dG 5 cFew := by
  refine ctr_of_awp (K := dK) dK_ok Tryd.func5 rfl rfl Tryd.call5 rfl (by decide) (by intro h; cases h) ?_
  rintro w0 X hX ⟨(l : List (List UInt8)), _⟩ hp
  change AWP _ _ _ _ _ ⟨[(0, ⟨.slice bs, l⟩)], [], 0⟩ _
  refine AWP.len 0 rfl fun hl => ?_
  unfold maxLen at hl
  (repeat (first | refine AWP.seq ?_ | refine AWP.skip ?_ | refine AWP.label ?_ | refine AWP.exit ?_ | refine AWP.block ?_ | refine AWP.region hX dK_ok rfl trivial ?_ | refine AWP.region hX dK_ok rfl id ?_ | refine AWP.region hX dK_ok rfl ⟨id, id⟩ ?_))
  refine AWP.loop (ι := Nat) (fun k => ⟨[(0, ⟨.slice bs, l⟩), (3, ⟨.obuf bs, (0 : Nat)⟩), (4, ⟨i64, (k : Int)⟩)], [(0, some (.buf 27 bs ((l.take k).map (List.take 60))))], 1⟩) (fun k => k ≤ l.length ∧ k ≤ 8) (fun k => l.length - k) 0 (by omega) ⟨⟨rfl, rfl, rfl, trivial⟩, ⟨rfl, trivial⟩, rfl, rfl⟩ ?_
  intro k hk
  (repeat (first | refine AWP.seq ?_ | refine AWP.skip ?_ | refine AWP.label ?_ | refine AWP.exit ?_ | refine AWP.block ?_ | refine AWP.region hX dK_ok rfl trivial ?_ | refine AWP.region hX dK_ok rfl id ?_ | refine AWP.region hX dK_ok rfl ⟨id, id⟩ ?_))
  refine AWP.cond rfl (fun hb => ?_) (fun hb => ?_)
  · have hb : (bif decide ((k : Int) < (l.length : Int)) then decide ((k : Int) < 8) else false) = true := hb
    rw [test2] at hb
    obtain ⟨y, hy⟩ : ∃ y, l.getD (k : Int).toNat [] = y := ⟨_, rfl⟩
    have m0 : (0 : Int) ≤ (k : Int) := by omega
    have m1 : (k : Int) < ((l.length : Nat) : Int) := by omega
    have m2 : (0 : Int) ≤ min (((l.getD (k : Int).toNat []).length : Nat) : Int) 60 := by omega
    have m3 : min (((l.getD (k : Int).toNat []).length : Nat) : Int) 60 ≤ (((l.getD (k : Int).toNat []).length : Nat) : Int) := by omega
    have m4 : ((l.take k).map (List.take 60)).length + 1 ≤ 1000000000 := by rw [List.length_map, List.length_take]; omega
    (repeat (first | refine AWP.seq ?_ | refine AWP.skip ?_ | refine AWP.block ?_ | refine AWP.exit ?_)); refine AWP.draw dM hX dK_ok 13 (by kernel_rfl) rfl rfl ?_ ?_ ?_
    · repeat' (first | exact trivial | assumption | exact m0 | exact m1 | exact m2 | exact m3 | (refine ⟨?_, ?_⟩) | (intro _) | exact Nat.le_of_ble_eq_true rfl | exact Int.natCast_nonneg _ | (simp_all [allP]; done))
    · exact m4
    (repeat (first | refine AWP.seq ?_ | refine AWP.skip ?_ | refine AWP.block ?_ | refine AWP.exit ?_)); refine AWP.region hX dK_ok rfl ?_ ?_
    · exact inR_succ (by omega)
    refine ⟨k + 1, by omega, by omega, ⟨rfl, rfl, vSucc _, trivial⟩, ⟨bufEq ?_, trivial⟩, rfl, rfl⟩
    rw [List.take_succ_eq_append_getElem (by omega : k < l.length), List.map_append]
    show _ ++ [_] = _ ++ [_]
    congr 2
    show List.take (min (((l.getD (k : Int).toNat []).length : Nat) : Int) 60).toNat (l.getD (k : Int).toNat []) = _
    have e : l.getD (k : Int).toNat [] = l[k] := by rw [Int.toNat_natCast, List.getD_eq_getElem?_getD, List.getElem?_eq_getElem (by omega : k < l.length)]; rfl
    rw [e, List.take_eq_take_iff]
    omega
  · have hb : (bif decide ((k : Int) < (l.length : Int)) then decide ((k : Int) < 8) else false) = false := hb
    have hb : ¬ ((k : Int) < (l.length : Int) ∧ (k : Int) < 8) := fun h => by rw [← Bool.not_eq_true, test2] at hb; exact hb h
    (repeat (first | refine AWP.seq ?_ | refine AWP.skip ?_ | refine AWP.label ?_ | refine AWP.exit ?_ | refine AWP.block ?_ | refine AWP.region hX dK_ok rfl trivial ?_ | refine AWP.region hX dK_ok rfl id ?_ | refine AWP.region hX dK_ok rfl ⟨id, id⟩ ?_))
    refine AWP.ret ⟨.inr rfl, done1 rfl trivial rfl rfl ?_⟩
    show (l.take k).map (List.take 60) = (l.take 8).map (List.take 60)
    congr 1
    rw [List.take_eq_take_iff]
    omega
end Go.Proofs.YthhphphdbgkdgaaDoor
