/-
  The statements of chapter 23, what they share: filled.
-/
import Derived.Test.YthhphphdbgkdgaaDoorJLawS
import Derived.Test.YthhphphdbgkdgaaDoorJLawB
import Derived.Test.YthhphphdbgkdgaaDoorJFill
namespace Go.Proofs.YthhphphdbgkdgaaDoor
open Go Go.RowKit
set_option linter.unusedSimpArgs false
set_option linter.unusedVariables false
set_option maxRecDepth 100000
def cFilled : Ctr := { args := [.slice bs, i64], pre := fun x => [Few x.1, 0 ≤ (x.2.1 : Int)], res := .tup jl (.tup .bool .unit), own := none, out := fun x => (fill x.1 (min (Int.toNat x.2.1) (List.length x.1)), true, ()) }
theorem filled_ok : CtrOk Tryd.prog dG 6 cFilled := by
  refine ctr_of_awp (K := kLs) kLs_ok Tryd.func6 rfl rfl Tryd.call6 rfl (by decide) (by intro h; cases h) ?_
  rintro w0 X hX ⟨(l : List (List UInt8)), (s : Int), _⟩ hp
  change AWP _ _ _ _ _ ⟨[(0, ⟨.slice bs, l⟩), (1, ⟨i64, s⟩)], [], 0⟩ _
  obtain ⟨hf, hs0⟩ : Few l ∧ 0 ≤ s := hp
  have hlen := hf.1
  (repeat (first | refine AWP.seq ?_ | refine AWP.skip ?_ | refine AWP.block ?_ | refine AWP.exit ?_)); refine AWP.region hX kLs_ok rfl ?_ ?_
  · trivial
  (repeat (first | refine AWP.seq ?_ | refine AWP.skip ?_ | refine AWP.block ?_ | refine AWP.exit ?_)); refine AWP.region hX kLs_ok rfl ?_ ?_
  · trivial
  (repeat (first | refine AWP.seq ?_ | refine AWP.skip ?_ | refine AWP.label ?_ | refine AWP.exit ?_ | refine AWP.block ?_ | refine AWP.region hX kLs_ok rfl trivial ?_ | refine AWP.region hX kLs_ok rfl id ?_ | refine AWP.region hX kLs_ok rfl ⟨id, id⟩ ?_))
  refine AWP.loop (ι := Nat) (fun k => ⟨[(0, ⟨.slice bs, l⟩), (1, ⟨i64, s⟩), (4, ⟨.optr jl, ⟨0, jl, .here⟩⟩), (6, ⟨.optr jl, ⟨1, jl, .here⟩⟩), (7, ⟨i64, (k : Int)⟩)], [(0, some (.box jl zLog)), (1, some (.box jl (fill (l.take k) (min s.toNat k))))], 2⟩) (fun k => k ≤ l.length) (fun k => l.length - k) 0 (by omega) ⟨⟨rfl, rfl, rfl, rfl, rfl, trivial⟩, ⟨boxEq rfl, boxEq (by simp [fill, cat, zeroX]; rfl), trivial⟩, rfl, rfl⟩ ?_
  intro k hk
  (repeat (first | refine AWP.seq ?_ | refine AWP.skip ?_ | refine AWP.block ?_ | refine AWP.exit ?_)); refine AWP.region hX kLs_ok rfl ?_ ?_
  · trivial
  refine AWP.cond rfl (fun hb => ?_) (fun hb => ?_)
  · have hb : decide ((k : Int) < (l.length : Nat)) = true := hb
    have hb := of_decide_eq_true hb
    have hlt : k < l.length := by omega
    have htk : l.take (k + 1) = l.take k ++ [l[k]] := List.take_succ_eq_append_getElem hlt
    have hF : Few (l.take (k + 1)) := ⟨by rw [List.length_take]; omega, fun x hx => hf.2 x (List.mem_of_mem_take hx)⟩
    have hl2 : (l.take k).length = k := by rw [List.length_take]; omega
    have hap : appendS (fill (l.take k) (min s.toNat k)) l[k] = (fill (l.take (k + 1)) (min s.toNat k), 0, ()) := by
      rw [htk]
      exact fill_append (by rw [← htk]; exact hF) (by rw [hl2]; omega)
    have hsy := fill_sync hF (min s.toNat k)
    rw [show (l.take (k + 1)).length = k + 1 by rw [List.length_take]; omega] at hsy
    have hle : (cat (l.take k)).length ≤ 1100000 := by have := few_cat (l := l.take k) (fun x hx => hf.2 x (List.mem_of_mem_take hx)); rw [hl2] at this; omega
    have hle2 : (cat (l.take (k + 1))).length ≤ 1100000 := by have := few_cat hF.2; rw [List.length_take] at this; omega
    have hg : l.getD (k : Int).toNat [] = l[k] := by rw [Int.toNat_natCast, List.getD_eq_getElem?_getD, List.getElem?_eq_getElem hlt]; rfl
    have hx : (l.getD (k : Int).toNat []).length ≤ 1100000 := by rw [hg]; have := hf.2 l[k] (List.getElem_mem _); omega
    have m0 : (0 : Int) ≤ (k : Int) := by omega
    have m1 : (k : Int) < ((l.length : Nat) : Int) := by omega
    (repeat (first | refine AWP.seq ?_ | refine AWP.skip ?_ | refine AWP.block ?_ | refine AWP.exit ?_)); refine AWP.drawN dM hX kLs_ok 12 (by kernel_rfl) rfl rfl ?_ ?_ ?_
    · repeat' (first | exact trivial | assumption | exact m0 | exact m1 | exact hle | exact hx | (refine ⟨?_, ?_⟩) | (intro _) | exact Nat.le_of_ble_eq_true rfl | exact Int.natCast_nonneg _ | (simp_all [allP]; done))
    · trivial
    have hap' : appendS (fill (l.take k) (min s.toNat k)) (l.getD (k : Int).toNat []) = (fill (l.take (k + 1)) (min s.toNat k), 0, ()) := by rw [hg]; exact hap
    refine AWP.fit (σ' := ⟨[(0, ⟨.slice bs, l⟩), (1, ⟨i64, s⟩), (4, ⟨.optr jl, ⟨0, jl, .here⟩⟩), (6, ⟨.optr jl, ⟨1, jl, .here⟩⟩), (7, ⟨i64, (k : Int)⟩), (8, ⟨.optr jl, ⟨2, jl, .here⟩⟩), (9, ⟨i64, (0 : Int)⟩)], [(0, some (.box jl zLog)), (1, some (.box jl (fill (l.take k) (min s.toNat k)))), (2, some (.box jl (fill (l.take (k + 1)) (min s.toNat k))))], 3⟩) ⟨⟨rfl, rfl, rfl, rfl, rfl, rfl, vI64 (congrArg (fun z => z.2.1) hap'), trivial⟩, ⟨rfl, rfl, boxEq (congrArg (fun z => z.1) hap'), trivial⟩, rfl, rfl⟩ ?_
    (repeat (first | refine AWP.seq ?_ | refine AWP.skip ?_ | refine AWP.block ?_ | refine AWP.exit ?_)); refine AWP.region hX kLs_ok rfl ?_ ?_
    · trivial
    refine AWP.cond rfl (fun hb => ?_) (fun hb => ?_)
    · exact absurd hb (by decide)
    (repeat (first | refine AWP.seq ?_ | refine AWP.skip ?_ | refine AWP.block ?_ | refine AWP.exit ?_)); refine AWP.region hX kLs_ok rfl ?_ ?_
    · trivial
    (repeat (first | refine AWP.seq ?_ | refine AWP.skip ?_ | refine AWP.block ?_ | refine AWP.exit ?_)); refine AWP.region hX kLs_ok rfl ?_ ?_
    · trivial
    refine AWP.cond rfl (fun hb => ?_) (fun hb => ?_)
    · have hb : decide ((k : Int) < s) = true := hb
      have hb := of_decide_eq_true hb
      (repeat (first | refine AWP.seq ?_ | refine AWP.skip ?_ | refine AWP.block ?_ | refine AWP.exit ?_)); refine AWP.region hX kLs_ok rfl ?_ ?_
      · exact hle2
      refine AWP.fit (σ' := ⟨[(0, ⟨.slice bs, l⟩), (1, ⟨i64, s⟩), (4, ⟨.optr jl, ⟨0, jl, .here⟩⟩), (6, ⟨.optr jl, ⟨1, jl, .here⟩⟩), (7, ⟨i64, (k : Int)⟩), (8, ⟨.optr jl, ⟨2, jl, .here⟩⟩), (9, ⟨i64, (0 : Int)⟩)], [(0, some (.box jl zLog)), (1, some (.box jl (fill (l.take (k + 1)) (min s.toNat k)))), (2, some (.box jl (fill (l.take (k + 1)) (k + 1))))], 3⟩) ⟨⟨rfl, rfl, rfl, rfl, rfl, rfl, vI64 (congrArg (fun z => z.2.1) hsy), trivial⟩, ⟨rfl, rfl, boxEq (congrArg (fun z => z.1) hsy), trivial⟩, rfl, rfl⟩ ?_
      (repeat (first | refine AWP.seq ?_ | refine AWP.skip ?_ | refine AWP.block ?_ | refine AWP.exit ?_)); refine AWP.region hX kLs_ok rfl ?_ ?_
      · trivial
      refine AWP.cond rfl (fun hb => ?_) (fun hb => ?_)
      · exact absurd hb (by decide)
      (repeat (first | refine AWP.seq ?_ | refine AWP.skip ?_ | refine AWP.block ?_ | refine AWP.exit ?_)); refine AWP.region hX kLs_ok rfl ?_ ?_
      · trivial
      (repeat (first | refine AWP.seq ?_ | refine AWP.skip ?_ | refine AWP.block ?_ | refine AWP.exit ?_)); refine AWP.region hX kLs_ok rfl ?_ ?_
      · exact inR_succ (by omega)
      exact ⟨k + 1, by omega, by omega, ⟨rfl, rfl, rfl, rfl, vSucc _, trivial⟩, ⟨rfl, boxEq (by rw [show min s.toNat (k + 1) = k + 1 by omega]), trivial⟩, rfl, rfl⟩
    · have hb : decide ((k : Int) < s) = false := hb
      have hb := of_decide_eq_false hb
      refine AWP.skip ?_
      (repeat (first | refine AWP.seq ?_ | refine AWP.skip ?_ | refine AWP.block ?_ | refine AWP.exit ?_)); refine AWP.region hX kLs_ok rfl ?_ ?_
      · exact inR_succ (by omega)
      exact ⟨k + 1, by omega, by omega, ⟨rfl, rfl, rfl, rfl, vSucc _, trivial⟩, ⟨rfl, boxEq (by rw [show min s.toNat (k + 1) = min s.toNat k by omega]), trivial⟩, rfl, rfl⟩
  · have hb : decide ((k : Int) < (l.length : Nat)) = false := hb
    have hb := of_decide_eq_false hb
    have : k = l.length := by omega
    subst this
    rw [List.take_length]
    (repeat (first | refine AWP.seq ?_ | refine AWP.skip ?_ | refine AWP.block ?_ | refine AWP.exit ?_)); refine AWP.region hX kLs_ok rfl ?_ ?_
    · trivial
    exact AWP.ret ⟨.inr rfl, done2 (by decide) rfl rfl trivial rfl⟩
end Go.Proofs.YthhphphdbgkdgaaDoor
