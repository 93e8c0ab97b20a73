/-
  slices.Index and slices.Contains of texts.
-/
import Derived.Test.YthkhgpbjfcmopaaGreatDoorPPrgA
namespace Go.Proofs.YthkhgpbjfcmopaaGreatDoor
open Go Go.RowKit
set_option linter.unusedSimpArgs false
set_option linter.unusedVariables false
set_option maxRecDepth 100000
def cIdxS : Ctr := { args := [.slice .str, .str], pre := fun _ => [], res := i64, own := none, out := fun x => idx (fun y => decide (x.2.1 = y)) x.1 }
theorem indexS_ok : CtrOk Tryz.prog pG 137 cIdxS := by
  refine ctr_of_awp (K := pK) pK_ok Tryz.func137 rfl rfl Tryz.call137 rfl (by decide) (by intro h; cases h) ?_
  rintro w0 X hX ⟨(l : List (List UInt8)), (x : List UInt8), _⟩ hp
  change AWP _ _ _ _ _ ⟨[(0, ⟨.slice .str, l⟩), (1, ⟨.str, x⟩)], [], 0⟩ _
  refine AWP.len 0 rfl fun hl => ?_
  unfold maxLen at hl
  (repeat (first | refine AWP.seq ?_ | refine AWP.skip ?_ | refine AWP.label ?_ | refine AWP.exit ?_ | refine AWP.block ?_ | refine AWP.region hX pK_ok rfl trivial ?_ | refine AWP.region hX pK_ok rfl id ?_ | refine AWP.region hX pK_ok rfl ⟨id, id⟩ ?_))
  refine AWP.loop (ι := Nat) (fun k => ⟨[(0, ⟨.slice .str, l⟩), (1, ⟨.str, x⟩), (7, ⟨i64, ((l.length : Nat) : Int)⟩), (8, ⟨i64, (k : Int)⟩)], [], 0⟩) (fun k => k ≤ l.length ∧ ∀ j (hj : j < l.length), j < k → decide (x = l[j]) = false) (fun k => l.length - k) 0 ⟨by omega, by omega⟩ ⟨⟨rfl, rfl, rfl, rfl, trivial⟩, trivial, rfl, rfl⟩ ?_
  rintro k ⟨hk, hn⟩
  (repeat (first | refine AWP.seq ?_ | refine AWP.skip ?_ | refine AWP.block ?_ | refine AWP.exit ?_)); refine AWP.region hX pK_ok rfl ?_ ?_
  · trivial
  refine AWP.seq ?_
  refine AWP.cond rfl (fun hb => ?_) (fun hb => ?_)
  · have hb : decide ((k : Int) < (l.length : Nat)) = true := hb
    have hb := of_decide_eq_true hb
    have hlt : k < l.length := by omega
    have n0 : (0 : Int) ≤ (k : Int) := by omega
    (repeat (first | refine AWP.seq ?_ | refine AWP.skip ?_ | refine AWP.block ?_ | refine AWP.exit ?_)); refine AWP.region hX pK_ok rfl ?_ ?_
    · trivial
    (repeat (first | refine AWP.seq ?_ | refine AWP.skip ?_ | refine AWP.block ?_ | refine AWP.exit ?_)); refine AWP.region hX pK_ok rfl ?_ ?_
    · exact ⟨n0, hb⟩
    refine AWP.cond rfl (fun hb => ?_) (fun hb => ?_)
    · have hc : eqb .str x (l.getD (k : Int).toNat []) = true := hb
      rw [getD_at hlt] at hc
      have hc : x = l[k] := eqb_iff.1 hc
      (repeat (first | refine AWP.seq ?_ | refine AWP.skip ?_ | refine AWP.label ?_ | refine AWP.exit ?_ | refine AWP.block ?_ | refine AWP.region hX pK_ok rfl trivial ?_ | refine AWP.region hX pK_ok rfl id ?_ | refine AWP.region hX pK_ok rfl ⟨id, id⟩ ?_))
      refine AWP.ret ⟨.inr rfl, done1 rfl trivial rfl rfl ?_⟩
      show (k : Int) = idx _ l
      exact (idx_some hlt (decide_eq_true hc) fun j hj => hn j _ hj).symm
    · have hc : eqb .str x (l.getD (k : Int).toNat []) = false := hb
      rw [getD_at hlt] at hc
      have hc : ¬ x = l[k] := fun e => by rw [eqb_iff.2 e] at hc; cases hc
      (repeat (first | refine AWP.seq ?_ | refine AWP.skip ?_ | refine AWP.block ?_ | refine AWP.exit ?_)); refine AWP.region hX pK_ok rfl ?_ ?_
      · exact inR_succ (by omega)
      exact ⟨k + 1, ⟨by omega, fun j hj hlt => by
        by_cases e : j = k
        · subst e; exact decide_eq_false hc
        · exact hn j hj (by omega)⟩, by omega, ⟨rfl, rfl, rfl, vSucc _, trivial⟩, trivial, rfl, rfl⟩
  · have hb : decide ((k : Int) < (l.length : Nat)) = false := hb
    have hb := of_decide_eq_false hb
    have : k = l.length := by omega
    subst this
    (repeat (first | refine AWP.seq ?_ | refine AWP.skip ?_ | refine AWP.label ?_ | refine AWP.exit ?_ | refine AWP.block ?_ | refine AWP.region hX pK_ok rfl trivial ?_ | refine AWP.region hX pK_ok rfl id ?_ | refine AWP.region hX pK_ok rfl ⟨id, id⟩ ?_))
    refine AWP.ret ⟨.inr rfl, done1 rfl trivial rfl rfl ?_⟩
    show (-1 : Int) = idx _ l
    exact (idx_none fun j hj => hn j hj hj).symm
def cHasS : Ctr := { args := [.slice .str, .str], pre := fun _ => [], res := .bool, own := none, out := fun x => decide (x.2.1 ∈ x.1) }
def kQQ : Kn := { pK with C := [(137, cIdxS)] }
theorem kQQ_ok : KnOk Tryz.prog pG kQQ := pK_ok.with (.cons indexS_ok .nil)
theorem containsS_ok : CtrOk Tryz.prog pG 115 cHasS := by
  refine ctr_of_awp (K := kQQ) kQQ_ok Tryz.func115 rfl rfl Tryz.call115 rfl (by decide) (by intro h; cases h) ?_
  rintro w0 X hX ⟨(l : List (List UInt8)), (x : List UInt8), _⟩ hp
  change AWP _ _ _ _ _ ⟨[(0, ⟨.slice .str, l⟩), (1, ⟨.str, x⟩)], [], 0⟩ _
  (repeat (first | refine AWP.seq ?_ | refine AWP.skip ?_ | refine AWP.label ?_ | refine AWP.exit ?_ | refine AWP.block ?_ | refine AWP.region hX kQQ_ok rfl trivial ?_ | refine AWP.region hX kQQ_ok rfl id ?_ | refine AWP.region hX kQQ_ok rfl ⟨id, id⟩ ?_))
  refine AWP.ret ⟨.inr rfl, done1 rfl trivial rfl rfl ?_⟩
  show decide (idx (fun y => decide (x = y)) l ≥ 0) = decide (x ∈ l)
  rw [idx_any, Bool.eq_iff_iff, decide_eq_true_iff, List.any_eq_true]
  constructor
  · rintro ⟨y, hy, e⟩
    rw [of_decide_eq_true e]
    exact hy
  · exact fun h => ⟨x, h, decide_eq_true rfl⟩
end Go.Proofs.YthkhgpbjfcmopaaGreatDoor
