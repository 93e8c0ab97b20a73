/-
  Package policy: together, Stricter.
-/
import Derived.Test.YthkhgpbjfcmopaaGreatDoorPPrgB
namespace Go.Proofs.YthkhgpbjfcmopaaGreatDoor
open Go Go.RowKit
set_option linter.unusedSimpArgs false
set_option linter.unusedVariables false
set_option maxRecDepth 100000
def oV (o : Oc) : Int := o.1
def oN (o : Oc) : Int := o.2.1
def oW (o : Oc) : List Int := o.2.2.1
def zO : Oc := (0, 0, [], ())
def tog (x y : Oc) : Bool := decide (oN x ∉ oW y) && decide (oN y ∉ oW x)
def cTog : Ctr := { args := [oc, oc], pre := fun _ => [], res := .bool, own := none, out := fun x => tog x.1 x.2.1 }
theorem together_ok : CtrOk Tryz.prog pG 54 cTog := by
  refine ctr_of_awp (K := kQG) kQG_ok Tryz.func54 rfl rfl Tryz.call54 rfl (by decide) (by intro h; cases h) ?_
  rintro w0 X hX ⟨⟨(v1 : Int), (n1 : Int), (w1 : List Int), _⟩, ⟨(v2 : Int), (n2 : Int), (w2 : List Int), _⟩, _⟩ hp
  change AWP _ _ _ _ _ ⟨[(0, ⟨oc, (v1, n1, w1, ())⟩), (1, ⟨oc, (v2, n2, w2, ())⟩)], [], 0⟩ _
  (repeat (first | refine AWP.seq ?_ | refine AWP.skip ?_ | refine AWP.label ?_ | refine AWP.exit ?_ | refine AWP.block ?_ | refine AWP.region hX kQG_ok rfl trivial ?_ | refine AWP.region hX kQG_ok rfl id ?_ | refine AWP.region hX kQG_ok rfl ⟨id, id⟩ ?_))
  (repeat (first | refine AWP.seq ?_ | refine AWP.skip ?_ | refine AWP.block ?_ | refine AWP.exit ?_)); refine AWP.region hX kQG_ok rfl ?_ ?_
  · repeat' (first | exact trivial | assumption | (refine ⟨?_, ?_⟩) | (intro _) | exact Nat.le_of_ble_eq_true rfl | exact Int.natCast_nonneg _ | (simp_all [allP]; done))
  refine AWP.ret ⟨.inr rfl, done1 rfl trivial rfl rfl ?_⟩
  show (bif !decide (n1 ∈ w2) then !decide (n2 ∈ w1) else false) = tog (v1, n1, w1, ()) (v2, n2, w2, ())
  show _ = (decide (n1 ∉ w2) && decide (n2 ∉ w1))
  by_cases h1 : n1 ∈ w2 <;> by_cases h2 : n2 ∈ w1 <;> simp [h1, h2]
def kQL : Kn := { pK with C := [(54, cTog)] }
theorem kQL_ok : KnOk Tryz.prog pG kQL := pK_ok.with (.cons together_ok .nil)
/-- the outcome x gives more than y, and both may come of one set of teams -/
def overO (x y : Oc) : Bool := decide (oV x > oV y) && tog x y
def cStr1 : Ctr := { args := [oc, .vptr oc], pre := fun _ => [], res := .bool, own := none, out := fun x => overO x.2.1 x.1 }
theorem stricter1_ok : CtrOk Tryz.prog pG 53 cStr1 := by
  refine ctr_of_awp (K := kQL) kQL_ok Tryz.func53 rfl rfl Tryz.call53 rfl (by decide) (by intro h; cases h) ?_
  rintro w0 X hX ⟨⟨(v2 : Int), (n2 : Int), (w2 : List Int), _⟩, ⟨(v1 : Int), (n1 : Int), (w1 : List Int), _⟩, _⟩ hp
  change AWP _ _ _ _ _ ⟨[(0, ⟨oc, (v2, n2, w2, ())⟩), (1, ⟨.vptr oc, (v1, n1, w1, ())⟩)], [], 0⟩ _
  (repeat (first | refine AWP.seq ?_ | refine AWP.skip ?_ | refine AWP.label ?_ | refine AWP.exit ?_ | refine AWP.block ?_ | refine AWP.region hX kQL_ok rfl trivial ?_ | refine AWP.region hX kQL_ok rfl id ?_ | refine AWP.region hX kQL_ok rfl ⟨id, id⟩ ?_))
  (repeat (first | refine AWP.seq ?_ | refine AWP.skip ?_ | refine AWP.block ?_ | refine AWP.exit ?_)); refine AWP.region hX kQL_ok rfl ?_ ?_
  · repeat' (first | exact trivial | assumption | (refine ⟨?_, ?_⟩) | (intro _) | exact Nat.le_of_ble_eq_true rfl | exact Int.natCast_nonneg _ | (simp_all [allP]; done))
  refine AWP.ret ⟨.inr rfl, done1 rfl trivial rfl rfl ?_⟩
  show (bif decide (v1 > v2) then tog (v1, n1, w1, ()) (v2, n2, w2, ()) else false) = overO (v1, n1, w1, ()) (v2, n2, w2, ())
  show _ = (decide (v1 > v2) && _)
  cases decide (v1 > v2) <;> rfl
abbrev cap1 : Ty := .tup (.vptr oc) .unit
def cIdxO : Ctr := { args := [.slice oc, .clo 53 cap1], pre := fun _ => [], res := i64, own := none, out := fun x => idx (overO x.2.1.1) x.1 }
def kQM : Kn := { pK with C := [(53, cStr1)] }
theorem kQM_ok : KnOk Tryz.prog pG kQM := pK_ok.with (.cons stricter1_ok .nil)
theorem idxO_ok : CtrOk Tryz.prog pG 92 cIdxO := by
  refine ctr_of_awp (K := kQM) kQM_ok Tryz.func92 rfl rfl Tryz.call92 rfl (by decide) (by intro h; cases h) ?_
  rintro w0 X hX ⟨(l : List Oc), ⟨(x : Oc), _⟩, _⟩ hp
  change AWP _ _ _ _ _ ⟨[(0, ⟨.slice oc, l⟩), (1, ⟨.clo 53 cap1, (x, ())⟩)], [], 0⟩ _
  refine AWP.len 0 rfl fun hl => ?_
  unfold maxLen at hl
  (repeat (first | refine AWP.seq ?_ | refine AWP.skip ?_ | refine AWP.label ?_ | refine AWP.exit ?_ | refine AWP.block ?_ | refine AWP.region hX kQM_ok rfl trivial ?_ | refine AWP.region hX kQM_ok rfl id ?_ | refine AWP.region hX kQM_ok rfl ⟨id, id⟩ ?_))
  refine AWP.loop (ι := Nat) (fun k => ⟨[(0, ⟨.slice oc, l⟩), (1, ⟨.clo 53 cap1, (x, ())⟩), (7, ⟨i64, ((l.length : Nat) : Int)⟩), (8, ⟨i64, (k : Int)⟩)], [], 0⟩) (fun k => k ≤ l.length ∧ ∀ j (hj : j < l.length), j < k → overO x l[j] = false) (fun k => l.length - k) 0 ⟨by omega, by omega⟩ ⟨⟨rfl, rfl, rfl, rfl, trivial⟩, trivial, rfl, rfl⟩ ?_
  rintro k ⟨hk, hn⟩
  (repeat (first | refine AWP.seq ?_ | refine AWP.skip ?_ | refine AWP.block ?_ | refine AWP.exit ?_)); refine AWP.region hX kQM_ok rfl ?_ ?_
  · trivial
  refine AWP.seq ?_
  refine AWP.cond rfl (fun hb => ?_) (fun hb => ?_)
  · have hb : decide ((k : Int) < (l.length : Nat)) = true := hb
    have hb := of_decide_eq_true hb
    have hlt : k < l.length := by omega
    have n0 : (0 : Int) ≤ (k : Int) := by omega
    (repeat (first | refine AWP.seq ?_ | refine AWP.skip ?_ | refine AWP.block ?_ | refine AWP.exit ?_)); refine AWP.region hX kQM_ok rfl ?_ ?_
    · trivial
    (repeat (first | refine AWP.seq ?_ | refine AWP.skip ?_ | refine AWP.block ?_ | refine AWP.exit ?_)); refine AWP.region hX kQM_ok rfl ?_ ?_
    · exact ⟨n0, hb⟩
    refine AWP.cond rfl (fun hb => ?_) (fun hb => ?_)
    · have hc : overO x (l.getD (k : Int).toNat zO) = true := hb
      rw [getD_at hlt] at hc
      (repeat (first | refine AWP.seq ?_ | refine AWP.skip ?_ | refine AWP.label ?_ | refine AWP.exit ?_ | refine AWP.block ?_ | refine AWP.region hX kQM_ok rfl trivial ?_ | refine AWP.region hX kQM_ok rfl id ?_ | refine AWP.region hX kQM_ok rfl ⟨id, id⟩ ?_))
      refine AWP.ret ⟨.inr rfl, done1 rfl trivial rfl rfl ?_⟩
      show (k : Int) = idx _ l
      exact (idx_some hlt hc fun j hj => hn j _ hj).symm
    · have hc : overO x (l.getD (k : Int).toNat zO) = false := hb
      rw [getD_at hlt] at hc
      (repeat (first | refine AWP.seq ?_ | refine AWP.skip ?_ | refine AWP.block ?_ | refine AWP.exit ?_)); refine AWP.region hX kQM_ok rfl ?_ ?_
      · exact inR_succ (by omega)
      exact ⟨k + 1, ⟨by omega, fun j hj hlt => by
        by_cases e : j = k
        · subst e; exact hc
        · exact hn j hj (by omega)⟩, by omega, ⟨rfl, rfl, rfl, vSucc _, trivial⟩, trivial, rfl, rfl⟩
  · have hb : decide ((k : Int) < (l.length : Nat)) = false := hb
    have hb := of_decide_eq_false hb
    have : k = l.length := by omega
    subst this
    (repeat (first | refine AWP.seq ?_ | refine AWP.skip ?_ | refine AWP.label ?_ | refine AWP.exit ?_ | refine AWP.block ?_ | refine AWP.region hX kQM_ok rfl trivial ?_ | refine AWP.region hX kQM_ok rfl id ?_ | refine AWP.region hX kQM_ok rfl ⟨id, id⟩ ?_))
    refine AWP.ret ⟨.inr rfl, done1 rfl trivial rfl rfl ?_⟩
    show (-1 : Int) = idx _ l
    exact (idx_none fun j hj => hn j hj hj).symm
def cAnyO : Ctr := { args := [.slice oc, .clo 53 cap1], pre := fun _ => [], res := .bool, own := none, out := fun x => List.any x.1 (overO x.2.1.1) }
def kQN : Kn := { pK with C := [(92, cIdxO)] }
theorem kQN_ok : KnOk Tryz.prog pG kQN := pK_ok.with (.cons idxO_ok .nil)
theorem anyO_ok : CtrOk Tryz.prog pG 52 cAnyO := by
  refine ctr_of_awp (K := kQN) kQN_ok Tryz.func52 rfl rfl Tryz.call52 rfl (by decide) (by intro h; cases h) ?_
  rintro w0 X hX ⟨(l : List Oc), ⟨(x : Oc), _⟩, _⟩ hp
  change AWP _ _ _ _ _ ⟨[(0, ⟨.slice oc, l⟩), (1, ⟨.clo 53 cap1, (x, ())⟩)], [], 0⟩ _
  (repeat (first | refine AWP.seq ?_ | refine AWP.skip ?_ | refine AWP.label ?_ | refine AWP.exit ?_ | refine AWP.block ?_ | refine AWP.region hX kQN_ok rfl trivial ?_ | refine AWP.region hX kQN_ok rfl id ?_ | refine AWP.region hX kQN_ok rfl ⟨id, id⟩ ?_))
  refine AWP.ret ⟨.inr rfl, done1 rfl trivial rfl rfl ?_⟩
  exact idx_any _ l
end Go.Proofs.YthkhgpbjfcmopaaGreatDoor
