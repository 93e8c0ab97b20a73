/-
  Package policy: validGrant, Valid, first, Grain, MayBook, MayMove.
-/
import Derived.Test.YtbbeldmcdjjnbaaGreatDoorPRefA
namespace Go.Proofs.YtbbeldmcdjjnbaaGreatDoor
open Go Go.RowKit
set_option linter.unusedSimpArgs false
set_option linter.unusedVariables false
set_option maxRecDepth 100000
def cBetween : Ctr := { args := [i64, i64, i64], pre := fun _ => [], res := .bool, own := none, out := fun x => decide (x.1 ≤ x.2.1) && decide (x.2.1 ≤ x.2.2.1) }
theorem between_ok : CtrOk Tryz.prog pG 60 cBetween := by
  refine ctr_of_awp (K := pK) pK_ok Tryz.func60 rfl rfl Tryz.call60 rfl (by decide) (by intro h; cases h) ?_
  rintro w0 X hX ⟨(lo : Int), (x : Int), (hi : Int), _⟩ hp
  change AWP _ _ _ _ _ ⟨[(0, ⟨i64, lo⟩), (1, ⟨i64, x⟩), (2, ⟨i64, hi⟩)], [], 0⟩ _
  (repeat (first | refine AWP.seq ?_ | refine AWP.skip ?_ | refine AWP.label ?_ | refine AWP.exit ?_ | refine AWP.block ?_ | refine AWP.region hX pK_ok rfl trivial ?_ | refine AWP.region hX pK_ok rfl id ?_ | refine AWP.region hX pK_ok rfl ⟨id, id⟩ ?_))
  (repeat (first | refine AWP.seq ?_ | refine AWP.skip ?_ | refine AWP.block ?_ | refine AWP.exit ?_)); refine AWP.region hX pK_ok rfl ?_ ?_
  · repeat' (first | exact trivial | assumption | (refine ⟨?_, ?_⟩) | (intro _) | exact Nat.le_of_ble_eq_true rfl | exact Int.natCast_nonneg _ | (simp_all [allP]; done))
  refine AWP.ret ⟨.inr rfl, done1 rfl trivial rfl rfl ?_⟩
  show (bif decide (lo ≤ x) then decide (x ≤ hi) else false) = (decide (lo ≤ x) && decide (x ≤ hi))
  cases decide (lo ≤ x) <;> rfl
def kQA : Kn := { pK with C := [(60, cBetween)] }
theorem kQA_ok : KnOk Tryz.prog pG kQA := pK_ok.with (.cons between_ok .nil)
theorem validGrant_ok : CtrOk Tryz.prog pG 34 cValidGrant := by
  refine ctr_of_awp (K := kQA) kQA_ok Tryz.func34 rfl rfl Tryz.call34 rfl (by decide) (by intro h; cases h) ?_
  rintro w0 X hX ⟨⟨(a : Int), (p : Int), (t : Int), (g : Int), (r : Int), _⟩, _⟩ hp
  change AWP _ _ _ _ _ ⟨[(0, ⟨gr, (a, p, t, g, r, ())⟩)], [], 0⟩ _
  (repeat (first | refine AWP.seq ?_ | refine AWP.skip ?_ | refine AWP.label ?_ | refine AWP.exit ?_ | refine AWP.block ?_ | refine AWP.region hX kQA_ok rfl trivial ?_ | refine AWP.region hX kQA_ok rfl id ?_ | refine AWP.region hX kQA_ok rfl ⟨id, id⟩ ?_))
  (repeat (first | refine AWP.seq ?_ | refine AWP.skip ?_ | refine AWP.block ?_ | refine AWP.exit ?_)); refine AWP.region hX kQA_ok rfl ?_ ?_
  · repeat' (first | exact trivial | assumption | (refine ⟨?_, ?_⟩) | (intro _) | exact Nat.le_of_ble_eq_true rfl | exact Int.natCast_nonneg _ | (simp_all [allP]; done))
  refine AWP.cond rfl (fun hb => ?_) (fun hb => ?_)
  · have hc : (bif (bif !(decide ((1 : Int) ≤ a) && decide (a ≤ 3)) then true else !(decide ((0 : Int) ≤ g) && decide (g ≤ 4))) then true else !(decide ((0 : Int) ≤ r) && decide (r ≤ 100))) = true := by assumption
    (repeat (first | refine AWP.seq ?_ | refine AWP.skip ?_ | refine AWP.label ?_ | refine AWP.exit ?_ | refine AWP.block ?_ | refine AWP.region hX kQA_ok rfl trivial ?_ | refine AWP.region hX kQA_ok rfl id ?_ | refine AWP.region hX kQA_ok rfl ⟨id, id⟩ ?_))
    refine AWP.ret ⟨.inr rfl, done1 rfl trivial rfl rfl ?_⟩
    show false = decide (OkG (a, p, t, g, r, ()))
    rw [eq_comm, decide_eq_false_iff_not]
    simp [OkG, gA, gP, gT, gG, gR] at hc ⊢
    omega
  have h1 : (bif (bif !(decide ((1 : Int) ≤ a) && decide (a ≤ 3)) then true else !(decide ((0 : Int) ≤ g) && decide (g ≤ 4))) then true else !(decide ((0 : Int) ≤ r) && decide (r ≤ 100))) = false := by assumption
  simp at h1
  (repeat (first | refine AWP.seq ?_ | refine AWP.skip ?_ | refine AWP.label ?_ | refine AWP.exit ?_ | refine AWP.block ?_ | refine AWP.region hX kQA_ok rfl trivial ?_ | refine AWP.region hX kQA_ok rfl id ?_ | refine AWP.region hX kQA_ok rfl ⟨id, id⟩ ?_))
  (repeat (first | refine AWP.seq ?_ | refine AWP.skip ?_ | refine AWP.block ?_ | refine AWP.exit ?_)); refine AWP.region hX kQA_ok rfl ?_ ?_
  · repeat' (first | exact trivial | assumption | (refine ⟨?_, ?_⟩) | (intro _) | exact Nat.le_of_ble_eq_true rfl | exact Int.natCast_nonneg _ | (simp_all [allP]; done))
  refine AWP.cond rfl (fun hb => ?_) (fun hb => ?_)
  · have hc := hb
    simp at hc
    (repeat (first | refine AWP.seq ?_ | refine AWP.skip ?_ | refine AWP.label ?_ | refine AWP.exit ?_ | refine AWP.block ?_ | refine AWP.region hX kQA_ok rfl trivial ?_ | refine AWP.region hX kQA_ok rfl id ?_ | refine AWP.region hX kQA_ok rfl ⟨id, id⟩ ?_))
    refine AWP.ret ⟨.inr rfl, done1 rfl trivial rfl rfl ?_⟩
    show false = decide (OkG (a, p, t, g, r, ()))
    rw [eq_comm, decide_eq_false_iff_not]
    simp [OkG, gA, gP, gT, gG, gR]
    omega
  have h2 := hb
  simp at h2
  (repeat (first | refine AWP.seq ?_ | refine AWP.skip ?_ | refine AWP.label ?_ | refine AWP.exit ?_ | refine AWP.block ?_ | refine AWP.region hX kQA_ok rfl trivial ?_ | refine AWP.region hX kQA_ok rfl id ?_ | refine AWP.region hX kQA_ok rfl ⟨id, id⟩ ?_))
  refine AWP.cond rfl (fun hb => ?_) (fun hb => ?_)
  · have h3 : decide (p = -1) = true := hb
    have h3 := of_decide_eq_true h3
    (repeat (first | refine AWP.seq ?_ | refine AWP.skip ?_ | refine AWP.label ?_ | refine AWP.exit ?_ | refine AWP.block ?_ | refine AWP.region hX kQA_ok rfl trivial ?_ | refine AWP.region hX kQA_ok rfl id ?_ | refine AWP.region hX kQA_ok rfl ⟨id, id⟩ ?_))
    refine AWP.ret ⟨.inr rfl, done1 rfl trivial rfl rfl ?_⟩
    show (decide ((-1 : Int) ≤ t) && decide (t ≤ 63)) = decide (OkG (a, p, t, g, r, ()))
    rw [Bool.eq_iff_iff, decide_eq_true_iff]
    simp [OkG, gA, gP, gT, gG, gR]
    omega
  · have h3 : decide (p = -1) = false := hb
    have h3 := of_decide_eq_false h3
    (repeat (first | refine AWP.seq ?_ | refine AWP.skip ?_ | refine AWP.block ?_ | refine AWP.exit ?_)); refine AWP.region hX kQA_ok rfl ?_ ?_
    · repeat' (first | exact trivial | assumption | (refine ⟨?_, ?_⟩) | (intro _) | exact Nat.le_of_ble_eq_true rfl | exact Int.natCast_nonneg _ | (simp_all [allP]; done))
    refine AWP.ret ⟨.inr rfl, done1 rfl trivial rfl rfl ?_⟩
    show (bif (decide ((0 : Int) ≤ p) && decide (p ≤ 511)) then decide (t = -1) else false) = decide (OkG (a, p, t, g, r, ()))
    rw [Bool.eq_iff_iff, decide_eq_true_iff]
    simp [OkG, gA, gP, gT, gG, gR]
    omega
def kQB : Kn := { pK with C := [(34, cValidGrant)] }
theorem kQB_ok : KnOk Tryz.prog pG kQB := pK_ok.with (.cons validGrant_ok .nil)
def cInvalid : Ctr := { args := [gr], pre := fun _ => [], res := .bool, own := none, out := fun x => !decide (OkG x.1) }
theorem valid1_ok : CtrOk Tryz.prog pG 33 cInvalid := by
  refine ctr_of_awp (K := kQB) kQB_ok Tryz.func33 rfl rfl Tryz.call33 rfl (by decide) (by intro h; cases h) ?_
  rintro w0 X hX ⟨(g : Gt), _⟩ hp
  change AWP _ _ _ _ _ ⟨[(0, ⟨gr, g⟩)], [], 0⟩ _
  (repeat (first | refine AWP.seq ?_ | refine AWP.skip ?_ | refine AWP.label ?_ | refine AWP.exit ?_ | refine AWP.block ?_ | refine AWP.region hX kQB_ok rfl trivial ?_ | refine AWP.region hX kQB_ok rfl id ?_ | refine AWP.region hX kQB_ok rfl ⟨id, id⟩ ?_))
  exact AWP.ret ⟨.inr rfl, done1 rfl trivial rfl rfl rfl⟩
/-- the first invalid grant -/
def fLit : Value := .func (.func 33) #[] #[]
def cIdxV : Ctr := { args := [.slice gr, .lit], pre := fun x => [x.2.1 = fLit], res := i64, own := none, out := fun x => idx (fun g => !decide (OkG g)) x.1 }
def kQC : Kn := { pK with C := [(33, cInvalid)] }
theorem kQC_ok : KnOk Tryz.prog pG kQC := pK_ok.with (.cons valid1_ok .nil)
theorem idxV_ok : CtrOk Tryz.prog pG 40 cIdxV := by
  refine ctr_of_awp (K := kQC) kQC_ok Tryz.func40 rfl rfl Tryz.call40 rfl (by decide) (by intro h; cases h) ?_
  rintro w0 X hX ⟨(l : List Gt), (f : Value), _⟩ hp
  obtain rfl : f = fLit := hp
  change AWP _ _ _ _ _ ⟨[(0, ⟨.slice gr, l⟩), (1, ⟨.lit, fLit⟩)], [], 0⟩ _
  refine AWP.len 0 rfl fun hl => ?_
  unfold maxLen at hl
  (repeat (first | refine AWP.seq ?_ | refine AWP.skip ?_ | refine AWP.label ?_ | refine AWP.exit ?_ | refine AWP.block ?_ | refine AWP.region hX kQC_ok rfl trivial ?_ | refine AWP.region hX kQC_ok rfl id ?_ | refine AWP.region hX kQC_ok rfl ⟨id, id⟩ ?_))
  refine AWP.loop (ι := Nat) (fun k => ⟨[(0, ⟨.slice gr, l⟩), (1, ⟨.lit, fLit⟩), (7, ⟨i64, ((l.length : Nat) : Int)⟩), (8, ⟨i64, (k : Int)⟩)], [], 0⟩) (fun k => k ≤ l.length ∧ ∀ j (hj : j < l.length), j < k → (!decide (OkG l[j])) = false) (fun k => l.length - k) 0 ⟨by omega, by omega⟩ ⟨⟨rfl, rfl, rfl, rfl, trivial⟩, trivial, rfl, rfl⟩ ?_
  rintro k ⟨hk, hn⟩
  (repeat (first | refine AWP.seq ?_ | refine AWP.skip ?_ | refine AWP.block ?_ | refine AWP.exit ?_)); refine AWP.region hX kQC_ok rfl ?_ ?_
  · trivial
  refine AWP.seq ?_
  refine AWP.cond rfl (fun hb => ?_) (fun hb => ?_)
  · have hb : decide ((k : Int) < (l.length : Nat)) = true := hb
    have hb := of_decide_eq_true hb
    have hlt : k < l.length := by omega
    have n0 : (0 : Int) ≤ (k : Int) := by omega
    (repeat (first | refine AWP.seq ?_ | refine AWP.skip ?_ | refine AWP.block ?_ | refine AWP.exit ?_)); refine AWP.region hX kQC_ok rfl ?_ ?_
    · trivial
    (repeat (first | refine AWP.seq ?_ | refine AWP.skip ?_ | refine AWP.block ?_ | refine AWP.exit ?_)); refine AWP.region hX kQC_ok rfl ?_ ?_
    · exact ⟨n0, hb⟩
    refine AWP.cond rfl (fun hb => ?_) (fun hb => ?_)
    · have hc : (!decide (OkG (l.getD (k : Int).toNat zG))) = true := hb
      rw [getD_at hlt] at hc
      (repeat (first | refine AWP.seq ?_ | refine AWP.skip ?_ | refine AWP.label ?_ | refine AWP.exit ?_ | refine AWP.block ?_ | refine AWP.region hX kQC_ok rfl trivial ?_ | refine AWP.region hX kQC_ok rfl id ?_ | refine AWP.region hX kQC_ok rfl ⟨id, id⟩ ?_))
      refine AWP.ret ⟨.inr rfl, done1 rfl trivial rfl rfl ?_⟩
      show (k : Int) = idx _ l
      exact (idx_some hlt hc fun j hj => hn j _ hj).symm
    · have hc : (!decide (OkG (l.getD (k : Int).toNat zG))) = false := hb
      rw [getD_at hlt] at hc
      (repeat (first | refine AWP.seq ?_ | refine AWP.skip ?_ | refine AWP.block ?_ | refine AWP.exit ?_)); refine AWP.region hX kQC_ok rfl ?_ ?_
      · exact inR_succ (by omega)
      exact ⟨k + 1, ⟨by omega, fun j hj hlt => by
        by_cases e : j = k
        · subst e; exact hc
        · exact hn j hj (by omega)⟩, by omega, ⟨rfl, rfl, rfl, vSucc _, trivial⟩, trivial, rfl, rfl⟩
  · have hb : decide ((k : Int) < (l.length : Nat)) = false := hb
    have hb := of_decide_eq_false hb
    have : k = l.length := by omega
    subst this
    (repeat (first | refine AWP.seq ?_ | refine AWP.skip ?_ | refine AWP.label ?_ | refine AWP.exit ?_ | refine AWP.block ?_ | refine AWP.region hX kQC_ok rfl trivial ?_ | refine AWP.region hX kQC_ok rfl id ?_ | refine AWP.region hX kQC_ok rfl ⟨id, id⟩ ?_))
    refine AWP.ret ⟨.inr rfl, done1 rfl trivial rfl rfl ?_⟩
    show (-1 : Int) = idx _ l
    exact (idx_none fun j hj => hn j hj hj).symm
theorem idx_any {α : Type} (f : α → Bool) (l : List α) : decide (idx f l ≥ 0) = l.any f := by
  rw [Bool.eq_iff_iff, decide_eq_true_iff, List.any_eq_true]
  unfold idx
  constructor
  · intro h
    split at h
    · rename_i hl
      exact ⟨l[l.findIdx f], List.getElem_mem hl, List.findIdx_getElem (w := hl)⟩
    · omega
  · rintro ⟨x, hx, hf⟩
    rw [if_pos (List.findIdx_lt_length_of_exists ⟨x, hx, hf⟩)]
    omega
def cAnyV : Ctr := { args := [.slice gr, .lit], pre := fun x => [x.2.1 = fLit], res := .bool, own := none, out := fun x => List.any x.1 (fun g => !decide (OkG g)) }
def kQD : Kn := { pK with C := [(40, cIdxV)] }
theorem kQD_ok : KnOk Tryz.prog pG kQD := pK_ok.with (.cons idxV_ok .nil)
theorem anyV_ok : CtrOk Tryz.prog pG 32 cAnyV := by
  refine ctr_of_awp (K := kQD) kQD_ok Tryz.func32 rfl rfl Tryz.call32 rfl (by decide) (by intro h; cases h) ?_
  rintro w0 X hX ⟨(l : List Gt), (f : Value), _⟩ hp
  obtain rfl : f = fLit := hp
  change AWP _ _ _ _ _ ⟨[(0, ⟨.slice gr, l⟩), (1, ⟨.lit, fLit⟩)], [], 0⟩ _
  (repeat (first | refine AWP.seq ?_ | refine AWP.skip ?_ | refine AWP.label ?_ | refine AWP.exit ?_ | refine AWP.block ?_ | refine AWP.region hX kQD_ok rfl trivial ?_ | refine AWP.region hX kQD_ok rfl id ?_ | refine AWP.region hX kQD_ok rfl ⟨id, id⟩ ?_))
  (repeat (first | refine AWP.seq ?_ | refine AWP.skip ?_ | refine AWP.block ?_ | refine AWP.exit ?_)); refine AWP.region hX kQD_ok rfl ?_ ?_
  · exact rfl
  refine AWP.ret ⟨.inr rfl, done1 rfl trivial rfl rfl ?_⟩
  exact idx_any _ l
def kQE : Kn := { pK with C := [(32, cAnyV)] }
theorem kQE_ok : KnOk Tryz.prog pG kQE := pK_ok.with (.cons anyV_ok .nil)
theorem valid_ok : CtrOk Tryz.prog pG 15 cValid := by
  refine ctr_of_awp (K := kQE) kQE_ok Tryz.func15 rfl rfl Tryz.call15 rfl (by decide) (by intro h; cases h) ?_
  rintro w0 X hX ⟨⟨(l : List Gt), _⟩, _⟩ hp
  change AWP _ _ _ _ _ ⟨[(0, ⟨po, (l, ())⟩)], [], 0⟩ _
  (repeat (first | refine AWP.seq ?_ | refine AWP.skip ?_ | refine AWP.label ?_ | refine AWP.exit ?_ | refine AWP.block ?_ | refine AWP.region hX kQE_ok rfl trivial ?_ | refine AWP.region hX kQE_ok rfl id ?_ | refine AWP.region hX kQE_ok rfl ⟨id, id⟩ ?_))
  (repeat (first | refine AWP.seq ?_ | refine AWP.skip ?_ | refine AWP.block ?_ | refine AWP.exit ?_)); refine AWP.region hX kQE_ok rfl ?_ ?_
  · repeat' (first | exact trivial | assumption | exact rfl | (refine ⟨?_, ?_⟩) | (intro _) | exact Nat.le_of_ble_eq_true rfl | exact Int.natCast_nonneg _ | (simp_all [allP]; done))
  refine AWP.ret ⟨.inr rfl, done1 rfl trivial rfl rfl ?_⟩
  show (bif decide (((l.length : Nat) : Int) ≤ 64) then !(l.any fun g => !decide (OkG g)) else false) = decide (OkP l)
  rw [Bool.eq_iff_iff, decide_eq_true_iff]
  unfold OkP
  by_cases h : l.length ≤ 64
  · rw [decide_eq_true (by omega : ((l.length : Nat) : Int) ≤ 64)]
    simp [h]
  · rw [decide_eq_false (by omega : ¬ ((l.length : Nat) : Int) ≤ 64)]
    simp [h]
def cIdxI : Ctr := { args := [ints, i64], pre := fun _ => [], res := i64, own := none, out := fun x => idx (fun y => decide (x.2.1 = y)) x.1 }
theorem indexI_ok : CtrOk Tryz.prog pG 61 cIdxI := by
  refine ctr_of_awp (K := pK) pK_ok Tryz.func61 rfl rfl Tryz.call61 rfl (by decide) (by intro h; cases h) ?_
  rintro w0 X hX ⟨(l : List Int), (x : Int), _⟩ hp
  change AWP _ _ _ _ _ ⟨[(0, ⟨ints, l⟩), (1, ⟨i64, x⟩)], [], 0⟩ _
  refine AWP.len 0 rfl fun hl => ?_
  unfold maxLen at hl
  (repeat (first | refine AWP.seq ?_ | refine AWP.skip ?_ | refine AWP.label ?_ | refine AWP.exit ?_ | refine AWP.block ?_ | refine AWP.region hX pK_ok rfl trivial ?_ | refine AWP.region hX pK_ok rfl id ?_ | refine AWP.region hX pK_ok rfl ⟨id, id⟩ ?_))
  refine AWP.loop (ι := Nat) (fun k => ⟨[(0, ⟨ints, l⟩), (1, ⟨i64, x⟩), (7, ⟨i64, ((l.length : Nat) : Int)⟩), (8, ⟨i64, (k : Int)⟩)], [], 0⟩) (fun k => k ≤ l.length ∧ ∀ j (hj : j < l.length), j < k → decide (x = l[j]) = false) (fun k => l.length - k) 0 ⟨by omega, by omega⟩ ⟨⟨rfl, rfl, rfl, rfl, trivial⟩, trivial, rfl, rfl⟩ ?_
  rintro k ⟨hk, hn⟩
  (repeat (first | refine AWP.seq ?_ | refine AWP.skip ?_ | refine AWP.block ?_ | refine AWP.exit ?_)); refine AWP.region hX pK_ok rfl ?_ ?_
  · trivial
  refine AWP.seq ?_
  refine AWP.cond rfl (fun hb => ?_) (fun hb => ?_)
  · have hb : decide ((k : Int) < (l.length : Nat)) = true := hb
    have hb := of_decide_eq_true hb
    have hlt : k < l.length := by omega
    have n0 : (0 : Int) ≤ (k : Int) := by omega
    (repeat (first | refine AWP.seq ?_ | refine AWP.skip ?_ | refine AWP.block ?_ | refine AWP.exit ?_)); refine AWP.region hX pK_ok rfl ?_ ?_
    · trivial
    (repeat (first | refine AWP.seq ?_ | refine AWP.skip ?_ | refine AWP.block ?_ | refine AWP.exit ?_)); refine AWP.region hX pK_ok rfl ?_ ?_
    · exact ⟨n0, hb⟩
    refine AWP.cond rfl (fun hb => ?_) (fun hb => ?_)
    · have hc : decide (x = l.getD (k : Int).toNat 0) = true := hb
      rw [getD_at hlt] at hc
      (repeat (first | refine AWP.seq ?_ | refine AWP.skip ?_ | refine AWP.label ?_ | refine AWP.exit ?_ | refine AWP.block ?_ | refine AWP.region hX pK_ok rfl trivial ?_ | refine AWP.region hX pK_ok rfl id ?_ | refine AWP.region hX pK_ok rfl ⟨id, id⟩ ?_))
      refine AWP.ret ⟨.inr rfl, done1 rfl trivial rfl rfl ?_⟩
      show (k : Int) = idx _ l
      exact (idx_some hlt hc fun j hj => hn j _ hj).symm
    · have hc : decide (x = l.getD (k : Int).toNat 0) = false := hb
      rw [getD_at hlt] at hc
      (repeat (first | refine AWP.seq ?_ | refine AWP.skip ?_ | refine AWP.block ?_ | refine AWP.exit ?_)); refine AWP.region hX pK_ok rfl ?_ ?_
      · exact inR_succ (by omega)
      exact ⟨k + 1, ⟨by omega, fun j hj hlt => by
        by_cases e : j = k
        · subst e; exact hc
        · exact hn j hj (by omega)⟩, by omega, ⟨rfl, rfl, rfl, vSucc _, trivial⟩, trivial, rfl, rfl⟩
  · have hb : decide ((k : Int) < (l.length : Nat)) = false := hb
    have hb := of_decide_eq_false hb
    have : k = l.length := by omega
    subst this
    (repeat (first | refine AWP.seq ?_ | refine AWP.skip ?_ | refine AWP.label ?_ | refine AWP.exit ?_ | refine AWP.block ?_ | refine AWP.region hX pK_ok rfl trivial ?_ | refine AWP.region hX pK_ok rfl id ?_ | refine AWP.region hX pK_ok rfl ⟨id, id⟩ ?_))
    refine AWP.ret ⟨.inr rfl, done1 rfl trivial rfl rfl ?_⟩
    show (-1 : Int) = idx _ l
    exact (idx_none fun j hj => hn j hj hj).symm
def kQF : Kn := { pK with C := [(61, cIdxI)] }
theorem kQF_ok : KnOk Tryz.prog pG kQF := pK_ok.with (.cons indexI_ok .nil)
theorem containsI_ok : CtrOk Tryz.prog pG 37 cHas := by
  refine ctr_of_awp (K := kQF) kQF_ok Tryz.func37 rfl rfl Tryz.call37 rfl (by decide) (by intro h; cases h) ?_
  rintro w0 X hX ⟨(l : List Int), (x : Int), _⟩ hp
  change AWP _ _ _ _ _ ⟨[(0, ⟨ints, l⟩), (1, ⟨i64, x⟩)], [], 0⟩ _
  (repeat (first | refine AWP.seq ?_ | refine AWP.skip ?_ | refine AWP.label ?_ | refine AWP.exit ?_ | refine AWP.block ?_ | refine AWP.region hX kQF_ok rfl trivial ?_ | refine AWP.region hX kQF_ok rfl id ?_ | refine AWP.region hX kQF_ok rfl ⟨id, id⟩ ?_))
  refine AWP.ret ⟨.inr rfl, done1 rfl trivial rfl rfl ?_⟩
  show decide (idx (fun y => decide (x = y)) l ≥ 0) = decide (x ∈ l)
  rw [idx_any, Bool.eq_iff_iff, decide_eq_true_iff, List.any_eq_true]
  constructor
  · rintro ⟨y, hy, e⟩
    rw [of_decide_eq_true e]
    exact hy
  · exact fun h => ⟨x, h, decide_eq_true rfl⟩
def kQG : Kn := { pK with C := [(37, cHas)] }
theorem kQG_ok : KnOk Tryz.prog pG kQG := pK_ok.with (.cons containsI_ok .nil)
/-- what 'first' asks of a grant that is valid -/
def asks (a p : Int) (ts : List Int) (g : Gt) : Bool := decide (gA g = a) && (if 0 ≤ gP g then decide (gP g = p) else decide (gT g < 0) || decide (gT g ∈ ts))
def cFirst1 : Ctr := { args := [gr, .vptr i64, .vptr i64, .vptr ints], pre := fun _ => [], res := .bool, own := none, out := fun x => asks x.2.1 x.2.2.1 x.2.2.2.1 x.1 }
theorem first1_ok : CtrOk Tryz.prog pG 41 cFirst1 := by
  refine ctr_of_awp (K := kQG) kQG_ok Tryz.func41 rfl rfl Tryz.call41 rfl (by decide) (by intro h; cases h) ?_
  rintro w0 X hX ⟨⟨(a : Int), (p : Int), (t : Int), (g : Int), (r : Int), _⟩, (ac : Int), (pe : Int), (ts : List Int), _⟩ hp
  change AWP _ _ _ _ _ ⟨[(0, ⟨gr, (a, p, t, g, r, ())⟩), (1, ⟨.vptr i64, ac⟩), (2, ⟨.vptr i64, pe⟩), (3, ⟨.vptr ints, ts⟩)], [], 0⟩ _
  (repeat (first | refine AWP.seq ?_ | refine AWP.skip ?_ | refine AWP.label ?_ | refine AWP.exit ?_ | refine AWP.block ?_ | refine AWP.region hX kQG_ok rfl trivial ?_ | refine AWP.region hX kQG_ok rfl id ?_ | refine AWP.region hX kQG_ok rfl ⟨id, id⟩ ?_))
  refine AWP.cond rfl (fun hb => ?_) (fun hb => ?_)
  · have h1 : (!decide (a = ac)) = true := hb
    simp at h1
    (repeat (first | refine AWP.seq ?_ | refine AWP.skip ?_ | refine AWP.label ?_ | refine AWP.exit ?_ | refine AWP.block ?_ | refine AWP.region hX kQG_ok rfl trivial ?_ | refine AWP.region hX kQG_ok rfl id ?_ | refine AWP.region hX kQG_ok rfl ⟨id, id⟩ ?_))
    refine AWP.ret ⟨.inr rfl, done1 rfl trivial rfl rfl ?_⟩
    show false = asks ac pe ts (a, p, t, g, r, ())
    unfold asks
    rw [decide_eq_false (show ¬ gA (a, p, t, g, r, ()) = ac from h1)]
    rfl
  have h1 : (!decide (a = ac)) = false := hb
  simp at h1
  have hA : decide (gA (a, p, t, g, r, ()) = ac) = true := decide_eq_true h1
  (repeat (first | refine AWP.seq ?_ | refine AWP.skip ?_ | refine AWP.label ?_ | refine AWP.exit ?_ | refine AWP.block ?_ | refine AWP.region hX kQG_ok rfl trivial ?_ | refine AWP.region hX kQG_ok rfl id ?_ | refine AWP.region hX kQG_ok rfl ⟨id, id⟩ ?_))
  refine AWP.cond rfl (fun hb => ?_) (fun hb => ?_)
  · have h2 : decide (p ≥ 0) = true := hb
    have h2 := of_decide_eq_true h2
    (repeat (first | refine AWP.seq ?_ | refine AWP.skip ?_ | refine AWP.label ?_ | refine AWP.exit ?_ | refine AWP.block ?_ | refine AWP.region hX kQG_ok rfl trivial ?_ | refine AWP.region hX kQG_ok rfl id ?_ | refine AWP.region hX kQG_ok rfl ⟨id, id⟩ ?_))
    refine AWP.ret ⟨.inr rfl, done1 rfl trivial rfl rfl ?_⟩
    show decide (p = pe) = asks ac pe ts (a, p, t, g, r, ())
    unfold asks
    rw [hA, if_pos (show 0 ≤ gP (a, p, t, g, r, ()) from h2)]
    rfl
  · have h2 : decide (p ≥ 0) = false := hb
    have h2 := of_decide_eq_false h2
    (repeat (first | refine AWP.seq ?_ | refine AWP.skip ?_ | refine AWP.label ?_ | refine AWP.exit ?_ | refine AWP.block ?_ | refine AWP.region hX kQG_ok rfl trivial ?_ | refine AWP.region hX kQG_ok rfl id ?_ | refine AWP.region hX kQG_ok rfl ⟨id, id⟩ ?_))
    (repeat (first | refine AWP.seq ?_ | refine AWP.skip ?_ | refine AWP.block ?_ | refine AWP.exit ?_)); refine AWP.region hX kQG_ok rfl ?_ ?_
    · repeat' (first | exact trivial | assumption | (refine ⟨?_, ?_⟩) | (intro _) | exact Nat.le_of_ble_eq_true rfl | exact Int.natCast_nonneg _ | (simp_all [allP]; done))
    refine AWP.ret ⟨.inr rfl, done1 rfl trivial rfl rfl ?_⟩
    show (bif decide (t < 0) then true else decide (t ∈ ts)) = asks ac pe ts (a, p, t, g, r, ())
    unfold asks
    rw [hA, if_neg (show ¬ 0 ≤ gP (a, p, t, g, r, ()) from h2)]
    show _ = (true && (decide (t < 0) || decide (t ∈ ts)))
    cases decide (t < 0) <;> rfl
/-- the function literal of 'first', with what it captured -/
abbrev cap3 : Ty := .tup (.vptr i64) (.tup (.vptr i64) (.tup (.vptr ints) .unit))
def cIdxF : Ctr := { args := [.slice gr, .clo 41 cap3], pre := fun _ => [], res := i64, own := none, out := fun x => idx (asks x.2.1.1 x.2.1.2.1 x.2.1.2.2.1) x.1 }
def kQH : Kn := { pK with C := [(41, cFirst1)] }
theorem kQH_ok : KnOk Tryz.prog pG kQH := pK_ok.with (.cons first1_ok .nil)
theorem idxF_ok : CtrOk Tryz.prog pG 40 cIdxF := by
  refine ctr_of_awp (K := kQH) kQH_ok Tryz.func40 rfl rfl Tryz.call40 rfl (by decide) (by intro h; cases h) ?_
  rintro w0 X hX ⟨(l : List Gt), ⟨(ac : Int), (pe : Int), (ts : List Int), _⟩, _⟩ hp
  change AWP _ _ _ _ _ ⟨[(0, ⟨.slice gr, l⟩), (1, ⟨.clo 41 cap3, (ac, pe, ts, ())⟩)], [], 0⟩ _
  refine AWP.len 0 rfl fun hl => ?_
  unfold maxLen at hl
  (repeat (first | refine AWP.seq ?_ | refine AWP.skip ?_ | refine AWP.label ?_ | refine AWP.exit ?_ | refine AWP.block ?_ | refine AWP.region hX kQH_ok rfl trivial ?_ | refine AWP.region hX kQH_ok rfl id ?_ | refine AWP.region hX kQH_ok rfl ⟨id, id⟩ ?_))
  refine AWP.loop (ι := Nat) (fun k => ⟨[(0, ⟨.slice gr, l⟩), (1, ⟨.clo 41 cap3, (ac, pe, ts, ())⟩), (7, ⟨i64, ((l.length : Nat) : Int)⟩), (8, ⟨i64, (k : Int)⟩)], [], 0⟩) (fun k => k ≤ l.length ∧ ∀ j (hj : j < l.length), j < k → asks ac pe ts l[j] = false) (fun k => l.length - k) 0 ⟨by omega, by omega⟩ ⟨⟨rfl, rfl, rfl, rfl, trivial⟩, trivial, rfl, rfl⟩ ?_
  rintro k ⟨hk, hn⟩
  (repeat (first | refine AWP.seq ?_ | refine AWP.skip ?_ | refine AWP.block ?_ | refine AWP.exit ?_)); refine AWP.region hX kQH_ok rfl ?_ ?_
  · trivial
  refine AWP.seq ?_
  refine AWP.cond rfl (fun hb => ?_) (fun hb => ?_)
  · have hb : decide ((k : Int) < (l.length : Nat)) = true := hb
    have hb := of_decide_eq_true hb
    have hlt : k < l.length := by omega
    have n0 : (0 : Int) ≤ (k : Int) := by omega
    (repeat (first | refine AWP.seq ?_ | refine AWP.skip ?_ | refine AWP.block ?_ | refine AWP.exit ?_)); refine AWP.region hX kQH_ok rfl ?_ ?_
    · trivial
    (repeat (first | refine AWP.seq ?_ | refine AWP.skip ?_ | refine AWP.block ?_ | refine AWP.exit ?_)); refine AWP.region hX kQH_ok rfl ?_ ?_
    · exact ⟨n0, hb⟩
    refine AWP.cond rfl (fun hb => ?_) (fun hb => ?_)
    · have hc : asks ac pe ts (l.getD (k : Int).toNat zG) = true := hb
      rw [getD_at hlt] at hc
      (repeat (first | refine AWP.seq ?_ | refine AWP.skip ?_ | refine AWP.label ?_ | refine AWP.exit ?_ | refine AWP.block ?_ | refine AWP.region hX kQH_ok rfl trivial ?_ | refine AWP.region hX kQH_ok rfl id ?_ | refine AWP.region hX kQH_ok rfl ⟨id, id⟩ ?_))
      refine AWP.ret ⟨.inr rfl, done1 rfl trivial rfl rfl ?_⟩
      show (k : Int) = idx _ l
      exact (idx_some hlt hc fun j hj => hn j _ hj).symm
    · have hc : asks ac pe ts (l.getD (k : Int).toNat zG) = false := hb
      rw [getD_at hlt] at hc
      (repeat (first | refine AWP.seq ?_ | refine AWP.skip ?_ | refine AWP.block ?_ | refine AWP.exit ?_)); refine AWP.region hX kQH_ok rfl ?_ ?_
      · exact inR_succ (by omega)
      exact ⟨k + 1, ⟨by omega, fun j hj hlt => by
        by_cases e : j = k
        · subst e; exact hc
        · exact hn j hj (by omega)⟩, by omega, ⟨rfl, rfl, rfl, vSucc _, trivial⟩, trivial, rfl, rfl⟩
  · have hb : decide ((k : Int) < (l.length : Nat)) = false := hb
    have hb := of_decide_eq_false hb
    have : k = l.length := by omega
    subst this
    (repeat (first | refine AWP.seq ?_ | refine AWP.skip ?_ | refine AWP.label ?_ | refine AWP.exit ?_ | refine AWP.block ?_ | refine AWP.region hX kQH_ok rfl trivial ?_ | refine AWP.region hX kQH_ok rfl id ?_ | refine AWP.region hX kQH_ok rfl ⟨id, id⟩ ?_))
    refine AWP.ret ⟨.inr rfl, done1 rfl trivial rfl rfl ?_⟩
    show (-1 : Int) = idx _ l
    exact (idx_none fun j hj => hn j hj hj).symm
theorem idx_congr {α : Type} {f g : α → Bool} {l : List α} (h : ∀ x ∈ l, f x = g x) : idx f l = idx g l := by
  have : ∀ l : List α, (∀ x ∈ l, f x = g x) → l.findIdx f = l.findIdx g := by
    intro l h
    induction l with
    | nil => rfl
    | cons x r ih =>
      rw [List.findIdx_cons, List.findIdx_cons, h x (List.mem_cons_self ..), ih fun y hy => h y (List.mem_cons_of_mem _ hy)]
  unfold idx
  rw [this l h]
theorem asks_idx {l : List Gt} (h : OkP l) (a p : Int) (ts : List Int) : idx (asks a p ts) l = idx1 l a p ts := by
  refine idx_congr fun g hg => ?_
  have hv := (h.2 g hg).2.1
  unfold asks fits
  by_cases hp : 0 ≤ gP g
  · rw [if_pos hp, if_pos hp]
  · rw [if_neg hp, if_neg hp]
    have : decide (gT g < 0) = decide (gT g = -1) := by rw [decide_eq_decide]; omega
    rw [this]
def fstO (l : List Gt) (a p : Int) (ts : List Int) : Gt × Bool × Unit := if OkP l then (match fst1 l a p ts with | some g => (g, true, ()) | none => (zG, false, ())) else (zG, false, ())
def cFst : Ctr := { args := [po, i64, i64, ints], pre := fun _ => [], res := .tup gr (.tup .bool .unit), own := none, out := fun x => fstO x.1.1 x.2.1 x.2.2.1 x.2.2.2.1 }
def kQI : Kn := { pK with C := [(15, cValid), (40, cIdxF)] }
theorem kQI_ok : KnOk Tryz.prog pG kQI := pK_ok.with (.cons valid_ok (.cons idxF_ok .nil))
theorem first_ok : CtrOk Tryz.prog pG 21 cFst := by
  refine ctr_of_awp (K := kQI) kQI_ok Tryz.func21 rfl rfl Tryz.call21 rfl (by decide) (by intro h; cases h) ?_
  rintro w0 X hX ⟨⟨(l : List Gt), _⟩, (a : Int), (pe : Int), (ts : List Int), _⟩ hp
  change AWP _ _ _ _ _ ⟨[(0, ⟨po, (l, ())⟩), (1, ⟨i64, a⟩), (2, ⟨i64, pe⟩), (3, ⟨ints, ts⟩)], [], 0⟩ _
  (repeat (first | refine AWP.seq ?_ | refine AWP.skip ?_ | refine AWP.label ?_ | refine AWP.exit ?_ | refine AWP.block ?_ | refine AWP.region hX kQI_ok rfl trivial ?_ | refine AWP.region hX kQI_ok rfl id ?_ | refine AWP.region hX kQI_ok rfl ⟨id, id⟩ ?_))
  refine AWP.cond rfl (fun hb => ?_) (fun hb => ?_)
  · have hc : (!decide (OkP l)) = true := hb
    simp at hc
    (repeat (first | refine AWP.seq ?_ | refine AWP.skip ?_ | refine AWP.label ?_ | refine AWP.exit ?_ | refine AWP.block ?_ | refine AWP.region hX kQI_ok rfl trivial ?_ | refine AWP.region hX kQI_ok rfl id ?_ | refine AWP.region hX kQI_ok rfl ⟨id, id⟩ ?_))
    refine AWP.ret ⟨.inr rfl, done2 (by decide) rfl rfl trivial ?_⟩
    show (zG, false, ()) = fstO l a pe ts
    unfold fstO
    rw [if_neg hc]
  have hc : (!decide (OkP l)) = false := hb
  simp at hc
  refine AWP.fit (σ' := ⟨[(4, ⟨.optr po, ⟨0, po, .here⟩⟩), (5, ⟨.optr i64, ⟨1, i64, .here⟩⟩), (6, ⟨.optr i64, ⟨2, i64, .here⟩⟩), (7, ⟨.optr ints, ⟨3, ints, .here⟩⟩), (8, ⟨.optr gr, ⟨4, gr, .here⟩⟩)], [(0, some (.box po (l, ()))), (1, some (.box i64 a)), (2, some (.box i64 pe)), (3, some (.box ints ts)), (4, some (.box gr zG))], 5⟩) ⟨⟨rfl, rfl, rfl, rfl, rfl, trivial⟩, ⟨rfl, rfl, rfl, rfl, rfl, trivial⟩, rfl, rfl⟩ ?_
  refine AWP.frzB hX 5 ?_
  refine AWP.frzB hX 6 ?_
  refine AWP.frzB hX 7 ?_
  (repeat (first | refine AWP.seq ?_ | refine AWP.skip ?_ | refine AWP.label ?_ | refine AWP.exit ?_ | refine AWP.block ?_ | refine AWP.region hX kQI_ok rfl trivial ?_ | refine AWP.region hX kQI_ok rfl id ?_ | refine AWP.region hX kQI_ok rfl ⟨id, id⟩ ?_))
  refine AWP.fit (σ' := ⟨[(4, ⟨.optr po, ⟨0, po, .here⟩⟩), (8, ⟨.optr gr, ⟨4, gr, .here⟩⟩), (10, ⟨i64, idx1 l a pe ts⟩), (20, ⟨.bool, decide (idx1 l a pe ts < 0)⟩)], [(0, some (.box po (l, ()))), (4, some (.box gr zG))], 5⟩) ⟨⟨rfl, rfl, vI64 (asks_idx hc a pe ts), vBool (by rw [← asks_idx hc]; rfl), trivial⟩, ⟨rfl, rfl, trivial⟩, rfl, rfl⟩ ?_
  have hf := idx1_find l a pe ts
  refine AWP.cond rfl (fun hb => ?_) (fun hb => ?_)
  · have hd : decide (idx1 l a pe ts < 0) = true := hb
    have hd := of_decide_eq_true hd
    (repeat (first | refine AWP.seq ?_ | refine AWP.skip ?_ | refine AWP.label ?_ | refine AWP.exit ?_ | refine AWP.block ?_ | refine AWP.region hX kQI_ok rfl trivial ?_ | refine AWP.region hX kQI_ok rfl id ?_ | refine AWP.region hX kQI_ok rfl ⟨id, id⟩ ?_))
    refine AWP.ret ⟨.inr rfl, done2 (by decide) rfl rfl trivial ?_⟩
    show (zG, false, ()) = fstO l a pe ts
    unfold fstO
    rw [if_pos hc, hf, if_pos hd]
  · have hd : decide (idx1 l a pe ts < 0) = false := hb
    have hd := of_decide_eq_false hd
    have hi := okP_idx hd
    (repeat (first | refine AWP.seq ?_ | refine AWP.skip ?_ | refine AWP.block ?_ | refine AWP.exit ?_)); refine AWP.region hX kQI_ok rfl ?_ ?_
    · exact hi
    refine AWP.ret ⟨.inr rfl, done2 (by decide) rfl rfl trivial ?_⟩
    show (l.getD (idx1 l a pe ts).toNat zG, true, ()) = fstO l a pe ts
    unfold fstO
    rw [if_pos hc, hf, if_neg hd]
def cGrainP : Ctr := { args := [po, i64, ints], pre := fun _ => [], res := i64, own := none, out := fun x => grain x.1.1 x.2.1 x.2.2.1 }
def cBookP : Ctr := { args := [po, i64, ints], pre := fun _ => [], res := .bool, own := none, out := fun x => book x.1.1 x.2.1 x.2.2.1 }
/-- a grant's rank is never negative where it is valid -/
theorem rank_some {l : List Gt} (h : OkP l) {p : Int} {ts : List Int} {g : Gt} (hf : fst1 l 3 p ts = some g) : 0 ≤ gR g := (h.2 g (fst1_mem hf)).2.2.2.1.1
def cMoveP : Ctr := { args := [po, i64, ints, i64], pre := fun _ => [], res := .bool, own := none, out := fun x => move x.1.1 x.2.1 x.2.2.1 x.2.2.2.1 }
def kQJ : Kn := { pK with C := [(21, cFst)] }
theorem kQJ_ok : KnOk Tryz.prog pG kQJ := pK_ok.with (.cons first_ok .nil)
theorem grain_ok : CtrOk Tryz.prog pG 7 cGrainP := by
  refine ctr_of_awp (K := kQJ) kQJ_ok Tryz.func7 rfl rfl Tryz.call7 rfl (by decide) (by intro h; cases h) ?_
  rintro w0 X hX ⟨⟨(l : List Gt), _⟩, (pe : Int), (ts : List Int), _⟩ hp
  change AWP _ _ _ _ _ ⟨[(0, ⟨po, (l, ())⟩), (1, ⟨i64, pe⟩), (2, ⟨ints, ts⟩)], [], 0⟩ _
  (repeat (first | refine AWP.seq ?_ | refine AWP.skip ?_ | refine AWP.label ?_ | refine AWP.exit ?_ | refine AWP.block ?_ | refine AWP.region hX kQJ_ok rfl trivial ?_ | refine AWP.region hX kQJ_ok rfl id ?_ | refine AWP.region hX kQJ_ok rfl ⟨id, id⟩ ?_))
  refine AWP.ret ⟨.inr rfl, done1 rfl trivial rfl rfl ?_⟩
  show gG (fstO l 1 pe ts).1 = grain l pe ts
  unfold fstO grain
  split
  · cases fst1 l 1 pe ts <;> rfl
  · rfl
end Go.Proofs.YtbbeldmcdjjnbaaGreatDoor
