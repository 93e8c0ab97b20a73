/-
  The reference of chapter 25: Has, ValidGrant, Valid, Fits, First, Grain, MayBook, Rank, MayMove.
-/
import Derived.Test.YthkhgpbjfcmopaaGreatDoorPSpec
namespace Go.Proofs.YthkhgpbjfcmopaaGreatDoor
open Go Go.RowKit
set_option linter.unusedSimpArgs false
set_option linter.unusedVariables false
set_option maxRecDepth 100000
def cHas : Ctr := { args := [ints, i64], pre := fun _ => [], res := .bool, own := none, out := fun x => decide (x.2.1 ∈ x.1) }
theorem mem_take_succ {α : Type} [DecidableEq α] {l : List α} {x : α} {k : Nat} (hk : k < l.length) : x ∈ l.take (k + 1) ↔ x ∈ l.take k ∨ l[k] = x := by
  rw [List.take_succ_eq_append_getElem hk, List.mem_append, List.mem_singleton]
  exact or_congr Iff.rfl eq_comm
theorem getD_at {α : Type} {l : List α} {z : α} {k : Nat} (hk : k < l.length) : l.getD ((k : Int).toNat) z = l[k] := by
  rw [Int.toNat_natCast, List.getD_eq_getElem?_getD, List.getElem?_eq_getElem hk]
  rfl
theorem has_ok : CtrOk Tryz.prog pG 68 cHas := by
  refine ctr_of_awp (K := pK) pK_ok Tryz.func68 rfl rfl Tryz.call68 rfl (by decide) (by intro h; cases h) ?_
  rintro w0 X hX ⟨(l : List Int), (x : Int), _⟩ hp
  change AWP _ _ _ _ _ ⟨[(0, ⟨ints, l⟩), (1, ⟨i64, x⟩)], [], 0⟩ _
  refine AWP.len 0 rfl fun hl => ?_
  unfold maxLen at hl
  (repeat (first | refine AWP.seq ?_ | refine AWP.skip ?_ | refine AWP.label ?_ | refine AWP.exit ?_ | refine AWP.block ?_ | refine AWP.region hX pK_ok rfl trivial ?_ | refine AWP.region hX pK_ok rfl id ?_ | refine AWP.region hX pK_ok rfl ⟨id, id⟩ ?_))
  refine AWP.loop (ι := Nat) (fun k => ⟨[(0, ⟨ints, l⟩), (1, ⟨i64, x⟩), (5, ⟨i64, (k : Int)⟩)], [], 0⟩) (fun k => k ≤ l.length ∧ x ∉ l.take k) (fun k => l.length - k) 0 ⟨by omega, by simp⟩ ⟨⟨rfl, rfl, rfl, trivial⟩, trivial, rfl, rfl⟩ ?_
  rintro k ⟨hk, hn⟩
  (repeat (first | refine AWP.seq ?_ | refine AWP.skip ?_ | refine AWP.block ?_ | refine AWP.exit ?_)); refine AWP.region hX pK_ok rfl ?_ ?_
  · trivial
  refine AWP.cond rfl (fun hb => ?_) (fun hb => ?_)
  · have hb : decide ((k : Int) < (l.length : Nat)) = true := hb
    have hb := of_decide_eq_true hb
    have hlt : k < l.length := by omega
    (repeat (first | refine AWP.seq ?_ | refine AWP.skip ?_ | refine AWP.block ?_ | refine AWP.exit ?_)); refine AWP.region hX pK_ok rfl ?_ ?_
    · exact ⟨by omega, by show (k : Int) < (l.length : Nat); omega⟩
    refine AWP.cond rfl (fun hb => ?_) (fun hb => ?_)
    · have hb : decide ((l.getD (k : Int).toNat 0) = x) = true := hb
      have hb := of_decide_eq_true hb
      rw [getD_at hlt] at hb
      (repeat (first | refine AWP.seq ?_ | refine AWP.skip ?_ | refine AWP.label ?_ | refine AWP.exit ?_ | refine AWP.block ?_ | refine AWP.region hX pK_ok rfl trivial ?_ | refine AWP.region hX pK_ok rfl id ?_ | refine AWP.region hX pK_ok rfl ⟨id, id⟩ ?_))
      refine AWP.ret ⟨.inr rfl, done1 rfl trivial rfl rfl ?_⟩
      show true = decide (x ∈ l)
      rw [eq_comm, decide_eq_true_iff, ← hb]
      exact List.getElem_mem hlt
    · have hb : decide ((l.getD (k : Int).toNat 0) = x) = false := hb
      have hb := of_decide_eq_false hb
      rw [getD_at hlt] at hb
      (repeat (first | refine AWP.seq ?_ | refine AWP.skip ?_ | refine AWP.block ?_ | refine AWP.exit ?_)); refine AWP.region hX pK_ok rfl ?_ ?_
      · exact inR_succ (by omega)
      exact ⟨k + 1, ⟨by omega, by rw [mem_take_succ hlt]; exact fun h => h.elim hn hb⟩, by omega, ⟨rfl, rfl, vSucc _, trivial⟩, trivial, rfl, rfl⟩
  · have hb : decide ((k : Int) < (l.length : Nat)) = false := hb
    have hb := of_decide_eq_false hb
    have : k = l.length := by omega
    subst this
    rw [List.take_length] at hn
    (repeat (first | refine AWP.seq ?_ | refine AWP.skip ?_ | refine AWP.label ?_ | refine AWP.exit ?_ | refine AWP.block ?_ | refine AWP.region hX pK_ok rfl trivial ?_ | refine AWP.region hX pK_ok rfl id ?_ | refine AWP.region hX pK_ok rfl ⟨id, id⟩ ?_))
    refine AWP.ret ⟨.inr rfl, done1 rfl trivial rfl rfl ?_⟩
    show false = decide (x ∈ l)
    rw [eq_comm, decide_eq_false_iff_not]
    exact hn
def cValidGrant : Ctr := { args := [gr], pre := fun _ => [], res := .bool, own := none, out := fun x => decide (OkG x.1) }
theorem rvalidGrant_ok : CtrOk Tryz.prog pG 42 cValidGrant := by
  refine ctr_of_awp (K := pK) pK_ok Tryz.func42 rfl rfl Tryz.call42 rfl (by decide) (by intro h; cases h) ?_
  rintro w0 X hX ⟨⟨(a : Int), (p : Int), (t : Int), (g : Int), (r : Int), _⟩, _⟩ hp
  change AWP _ _ _ _ _ ⟨[(0, ⟨gr, (a, p, t, g, r, ())⟩)], [], 0⟩ _
  (repeat (first | refine AWP.seq ?_ | refine AWP.skip ?_ | refine AWP.label ?_ | refine AWP.exit ?_ | refine AWP.block ?_ | refine AWP.region hX pK_ok rfl trivial ?_ | refine AWP.region hX pK_ok rfl id ?_ | refine AWP.region hX pK_ok rfl ⟨id, id⟩ ?_))
  (repeat (first | refine AWP.seq ?_ | refine AWP.skip ?_ | refine AWP.block ?_ | refine AWP.exit ?_)); refine AWP.region hX pK_ok rfl ?_ ?_
  · repeat' (first | exact trivial | assumption | (refine ⟨?_, ?_⟩) | (intro _) | exact Nat.le_of_ble_eq_true rfl | exact Int.natCast_nonneg _ | (simp_all [allP]; done))
  (repeat (first | refine AWP.seq ?_ | refine AWP.skip ?_ | refine AWP.block ?_ | refine AWP.exit ?_)); refine AWP.region hX pK_ok rfl ?_ ?_
  · repeat' (first | exact trivial | assumption | (refine ⟨?_, ?_⟩) | (intro _) | exact Nat.le_of_ble_eq_true rfl | exact Int.natCast_nonneg _ | (simp_all [allP]; done))
  (repeat (first | refine AWP.seq ?_ | refine AWP.skip ?_ | refine AWP.block ?_ | refine AWP.exit ?_)); refine AWP.region hX pK_ok rfl ?_ ?_
  · repeat' (first | exact trivial | assumption | (refine ⟨?_, ?_⟩) | (intro _) | exact Nat.le_of_ble_eq_true rfl | exact Int.natCast_nonneg _ | (simp_all [allP]; done))
  refine AWP.cond rfl (fun hb => ?_) (fun hb => ?_)
  · (repeat (first | refine AWP.seq ?_ | refine AWP.skip ?_ | refine AWP.label ?_ | refine AWP.exit ?_ | refine AWP.block ?_ | refine AWP.region hX pK_ok rfl trivial ?_ | refine AWP.region hX pK_ok rfl id ?_ | refine AWP.region hX pK_ok rfl ⟨id, id⟩ ?_))
    refine AWP.ret ⟨.inr rfl, done1 rfl trivial rfl rfl ?_⟩
    show false = decide (OkG (a, p, t, g, r, ()))
    rw [eq_comm, decide_eq_false_iff_not]
    simp [OkG, gA, gP, gT, gG, gR] at hb ⊢
    omega
  · (repeat (first | refine AWP.seq ?_ | refine AWP.skip ?_ | refine AWP.block ?_ | refine AWP.exit ?_)); refine AWP.region hX pK_ok rfl ?_ ?_
    · repeat' (first | exact trivial | assumption | (refine ⟨?_, ?_⟩) | (intro _) | exact Nat.le_of_ble_eq_true rfl | exact Int.natCast_nonneg _ | (simp_all [allP]; done))
    refine AWP.ret ⟨.inr rfl, done1 rfl trivial rfl rfl ?_⟩
    show _ = decide (OkG (a, p, t, g, r, ()))
    rw [Bool.eq_iff_iff, decide_eq_true_iff]
    simp [OkG, gA, gP, gT, gG, gR] at hb ⊢
    omega
def kPA : Kn := { pK with C := [(42, cValidGrant), (68, cHas)] }
theorem kPA_ok : KnOk Tryz.prog pG kPA := pK_ok.with (.cons rvalidGrant_ok (.cons has_ok .nil))
def cValid : Ctr := { args := [po], pre := fun _ => [], res := .bool, own := none, out := fun x => decide (OkP x.1.1) }
theorem rvalid_ok : CtrOk Tryz.prog pG 18 cValid := by
  refine ctr_of_awp (K := kPA) kPA_ok Tryz.func18 rfl rfl Tryz.call18 rfl (by decide) (by intro h; cases h) ?_
  rintro w0 X hX ⟨⟨(l : List Gt), _⟩, _⟩ hp
  change AWP _ _ _ _ _ ⟨[(0, ⟨po, (l, ())⟩)], [], 0⟩ _
  (repeat (first | refine AWP.seq ?_ | refine AWP.skip ?_ | refine AWP.label ?_ | refine AWP.exit ?_ | refine AWP.block ?_ | refine AWP.region hX kPA_ok rfl trivial ?_ | refine AWP.region hX kPA_ok rfl id ?_ | refine AWP.region hX kPA_ok rfl ⟨id, id⟩ ?_))
  refine AWP.loop (ι := Nat) (fun k => ⟨[(1, ⟨.optr po, ⟨0, po, .here⟩⟩), (3, ⟨i64, (k : Int)⟩)], [(0, some (.box po (l, ())))], 1⟩) (fun k => k ≤ l.length ∧ ∀ g ∈ l.take k, OkG g) (fun k => l.length - k) 0 ⟨by omega, by simp⟩ ⟨⟨rfl, rfl, trivial⟩, ⟨rfl, trivial⟩, rfl, rfl⟩ ?_
  rintro k ⟨hk, hn⟩
  (repeat (first | refine AWP.seq ?_ | refine AWP.skip ?_ | refine AWP.block ?_ | refine AWP.exit ?_)); refine AWP.region hX kPA_ok rfl ?_ ?_
  · trivial
  refine AWP.len 7 (t := gr) (xs := l) rfl fun hl => ?_
  unfold maxLen at hl
  refine AWP.cond rfl (fun hb => ?_) (fun hb => ?_)
  · have hb : decide ((k : Int) < (l.length : Nat)) = true := hb
    have hb := of_decide_eq_true hb
    have hlt : k < l.length := by omega
    (repeat (first | refine AWP.seq ?_ | refine AWP.skip ?_ | refine AWP.block ?_ | refine AWP.exit ?_)); refine AWP.region hX kPA_ok rfl ?_ ?_
    · exact ⟨by omega, by show (k : Int) < (l.length : Nat); omega⟩
    (repeat (first | refine AWP.seq ?_ | refine AWP.skip ?_ | refine AWP.label ?_ | refine AWP.exit ?_ | refine AWP.block ?_ | refine AWP.region hX kPA_ok rfl trivial ?_ | refine AWP.region hX kPA_ok rfl id ?_ | refine AWP.region hX kPA_ok rfl ⟨id, id⟩ ?_))
    refine AWP.cond rfl (fun hb => ?_) (fun hb => ?_)
    · have hb : (!decide (OkG (l.getD (k : Int).toNat zG))) = true := hb
      rw [getD_at hlt] at hb
      (repeat (first | refine AWP.seq ?_ | refine AWP.skip ?_ | refine AWP.label ?_ | refine AWP.exit ?_ | refine AWP.block ?_ | refine AWP.region hX kPA_ok rfl trivial ?_ | refine AWP.region hX kPA_ok rfl id ?_ | refine AWP.region hX kPA_ok rfl ⟨id, id⟩ ?_))
      refine AWP.ret ⟨.inr rfl, done1 rfl trivial rfl rfl ?_⟩
      show false = decide (OkP l)
      rw [eq_comm, decide_eq_false_iff_not]
      intro h
      have := h.2 _ (List.getElem_mem hlt)
      simp [this] at hb
    · have hb : (!decide (OkG (l.getD (k : Int).toNat zG))) = false := hb
      rw [getD_at hlt] at hb
      simp at hb
      (repeat (first | refine AWP.seq ?_ | refine AWP.skip ?_ | refine AWP.block ?_ | refine AWP.exit ?_)); refine AWP.region hX kPA_ok rfl ?_ ?_
      · exact inR_succ (by omega)
      exact ⟨k + 1, ⟨by omega, fun g hg => by rw [mem_take_succ hlt] at hg; exact hg.elim (hn g) (fun e => e ▸ hb)⟩, by omega, ⟨rfl, vSucc _, trivial⟩, ⟨rfl, trivial⟩, rfl, rfl⟩
  · have hb : decide ((k : Int) < (l.length : Nat)) = false := hb
    have hb := of_decide_eq_false hb
    have : k = l.length := by omega
    subst this
    rw [List.take_length] at hn
    (repeat (first | refine AWP.seq ?_ | refine AWP.skip ?_ | refine AWP.label ?_ | refine AWP.exit ?_ | refine AWP.block ?_ | refine AWP.region hX kPA_ok rfl trivial ?_ | refine AWP.region hX kPA_ok rfl id ?_ | refine AWP.region hX kPA_ok rfl ⟨id, id⟩ ?_))
    refine AWP.ret ⟨.inr rfl, done1 rfl trivial rfl rfl ?_⟩
    show decide (((l.length : Nat) : Int) ≤ 64) = decide (OkP l)
    rw [decide_eq_decide]
    exact ⟨fun h => ⟨by omega, hn⟩, fun h => by have := h.1; omega⟩
def cFits : Ctr := { args := [gr, who], pre := fun _ => [], res := .bool, own := none, out := fun x => fits x.1 x.2.1.1 x.2.1.2.1 }
theorem rfits_ok : CtrOk Tryz.prog pG 33 cFits := by
  refine ctr_of_awp (K := kPA) kPA_ok Tryz.func33 rfl rfl Tryz.call33 rfl (by decide) (by intro h; cases h) ?_
  rintro w0 X hX ⟨⟨(a : Int), (p : Int), (t : Int), (g : Int), (r : Int), _⟩, ⟨(pe : Int), (ts : List Int), _⟩, _⟩ hp
  change AWP _ _ _ _ _ ⟨[(0, ⟨gr, (a, p, t, g, r, ())⟩), (1, ⟨who, (pe, ts, ())⟩)], [], 0⟩ _
  (repeat (first | refine AWP.seq ?_ | refine AWP.skip ?_ | refine AWP.label ?_ | refine AWP.exit ?_ | refine AWP.block ?_ | refine AWP.region hX kPA_ok rfl trivial ?_ | refine AWP.region hX kPA_ok rfl id ?_ | refine AWP.region hX kPA_ok rfl ⟨id, id⟩ ?_))
  refine AWP.cond rfl (fun hb => ?_) (fun hb => ?_)
  · have hb : decide (p ≥ 0) = true := hb
    have hb := of_decide_eq_true hb
    (repeat (first | refine AWP.seq ?_ | refine AWP.skip ?_ | refine AWP.label ?_ | refine AWP.exit ?_ | refine AWP.block ?_ | refine AWP.region hX kPA_ok rfl trivial ?_ | refine AWP.region hX kPA_ok rfl id ?_ | refine AWP.region hX kPA_ok rfl ⟨id, id⟩ ?_))
    refine AWP.ret ⟨.inr rfl, done1 rfl trivial rfl rfl ?_⟩
    show decide (p = pe) = fits (a, p, t, g, r, ()) pe ts
    unfold fits gP
    rw [if_pos hb]
  · have hb : decide (p ≥ 0) = false := hb
    have hb := of_decide_eq_false hb
    (repeat (first | refine AWP.seq ?_ | refine AWP.skip ?_ | refine AWP.label ?_ | refine AWP.exit ?_ | refine AWP.block ?_ | refine AWP.region hX kPA_ok rfl trivial ?_ | refine AWP.region hX kPA_ok rfl id ?_ | refine AWP.region hX kPA_ok rfl ⟨id, id⟩ ?_))
    refine AWP.ret ⟨.inr rfl, done1 rfl trivial rfl rfl ?_⟩
    show (bif decide (t = -1) then true else decide (t ∈ ts)) = fits (a, p, t, g, r, ()) pe ts
    unfold fits gP gT
    rw [if_neg hb]
    cases decide (t = -1) <;> rfl
def kPB : Kn := { pK with C := [(18, cValid), (33, cFits)] }
theorem kPB_ok : KnOk Tryz.prog pG kPB := pK_ok.with (.cons rvalid_ok (.cons rfits_ok .nil))
def cFirst : Ctr := { args := [po, i64, who], pre := fun _ => [], res := i64, own := none, out := fun x => idx1 x.1.1 x.2.1 x.2.2.1.1 x.2.2.1.2.1 }
theorem rfirst_ok : CtrOk Tryz.prog pG 44 cFirst := by
  refine ctr_of_awp (K := kPB) kPB_ok Tryz.func44 rfl rfl Tryz.call44 rfl (by decide) (by intro h; cases h) ?_
  rintro w0 X hX ⟨⟨(l : List Gt), _⟩, (a : Int), ⟨(pe : Int), (ts : List Int), _⟩, _⟩ hp
  change AWP _ _ _ _ _ ⟨[(0, ⟨po, (l, ())⟩), (1, ⟨i64, a⟩), (2, ⟨who, (pe, ts, ())⟩)], [], 0⟩ _
  (repeat (first | refine AWP.seq ?_ | refine AWP.skip ?_ | refine AWP.label ?_ | refine AWP.exit ?_ | refine AWP.block ?_ | refine AWP.region hX kPB_ok rfl trivial ?_ | refine AWP.region hX kPB_ok rfl id ?_ | refine AWP.region hX kPB_ok rfl ⟨id, id⟩ ?_))
  refine AWP.loop (ι := Nat) (fun k => ⟨[(1, ⟨i64, a⟩), (3, ⟨.optr po, ⟨0, po, .here⟩⟩), (5, ⟨.optr who, ⟨1, who, .here⟩⟩), (7, ⟨i64, (k : Int)⟩)], [(0, some (.box po (l, ()))), (1, some (.box who (pe, ts, ())))], 2⟩) (fun k => k ≤ l.length ∧ ∀ j (hj : j < l.length), j < k → (decide (gA l[j] = a) && fits l[j] pe ts) = false) (fun k => l.length - k) 0 ⟨by omega, by omega⟩ ⟨⟨rfl, rfl, rfl, rfl, trivial⟩, ⟨rfl, rfl, trivial⟩, rfl, rfl⟩ ?_
  rintro k ⟨hk, hn⟩
  (repeat (first | refine AWP.seq ?_ | refine AWP.skip ?_ | refine AWP.block ?_ | refine AWP.exit ?_)); refine AWP.region hX kPB_ok rfl ?_ ?_
  · trivial
  refine AWP.len 11 (t := gr) (xs := l) rfl fun hl => ?_
  unfold maxLen at hl
  refine AWP.cond rfl (fun hb => ?_) (fun hb => ?_)
  · have hb : decide ((k : Int) < (l.length : Nat)) = true := hb
    have hb := of_decide_eq_true hb
    have hlt : k < l.length := by omega
    (repeat (first | refine AWP.seq ?_ | refine AWP.skip ?_ | refine AWP.block ?_ | refine AWP.exit ?_)); refine AWP.draw dM hX kPB_ok 6 (by kernel_rfl) rfl rfl ?_ ?_ ?_
    · exact ⟨by omega, by show (k : Int) < (l.length : Nat); omega⟩
    · trivial
    (repeat (first | refine AWP.seq ?_ | refine AWP.skip ?_ | refine AWP.block ?_ | refine AWP.exit ?_)); refine AWP.region hX kPB_ok rfl ?_ ?_
    · repeat' (first | exact trivial | assumption | (refine ⟨?_, ?_⟩) | (intro _) | exact Nat.le_of_ble_eq_true rfl | exact Int.natCast_nonneg _ | (simp_all [allP]; done))
    refine AWP.cond rfl (fun hb => ?_) (fun hb => ?_)
    · have hb : (bif decide (gA (l.getD (k : Int).toNat zG) = a) then fits (l.getD (k : Int).toNat zG) pe ts else false) = true := hb
      rw [getD_at hlt] at hb
      (repeat (first | refine AWP.seq ?_ | refine AWP.skip ?_ | refine AWP.label ?_ | refine AWP.exit ?_ | refine AWP.block ?_ | refine AWP.region hX kPB_ok rfl trivial ?_ | refine AWP.region hX kPB_ok rfl id ?_ | refine AWP.region hX kPB_ok rfl ⟨id, id⟩ ?_))
      refine AWP.ret ⟨.inr rfl, done1 rfl trivial rfl rfl ?_⟩
      show (k : Int) = idx1 l a pe ts
      refine (idx_some hlt ?_ fun j hj => hn j _ hj).symm
      rw [← hb]
      cases decide (gA l[k] = a) <;> rfl
    · have hb : (bif decide (gA (l.getD (k : Int).toNat zG) = a) then fits (l.getD (k : Int).toNat zG) pe ts else false) = false := hb
      rw [getD_at hlt] at hb
      (repeat (first | refine AWP.seq ?_ | refine AWP.skip ?_ | refine AWP.block ?_ | refine AWP.exit ?_)); refine AWP.region hX kPB_ok rfl ?_ ?_
      · exact inR_succ (by omega)
      exact ⟨k + 1, ⟨by omega, fun j hj hlt => by
        by_cases e : j = k
        · subst e; rw [← hb]; cases decide (gA l[j] = a) <;> rfl
        · exact hn j hj (by omega)⟩, by omega, ⟨rfl, rfl, rfl, vSucc _, trivial⟩, ⟨rfl, rfl, trivial⟩, rfl, rfl⟩
  · have hb : decide ((k : Int) < (l.length : Nat)) = false := hb
    have hb := of_decide_eq_false hb
    have : k = l.length := by omega
    subst this
    (repeat (first | refine AWP.seq ?_ | refine AWP.skip ?_ | refine AWP.label ?_ | refine AWP.exit ?_ | refine AWP.block ?_ | refine AWP.region hX kPB_ok rfl trivial ?_ | refine AWP.region hX kPB_ok rfl id ?_ | refine AWP.region hX kPB_ok rfl ⟨id, id⟩ ?_))
    refine AWP.ret ⟨.inr rfl, done1 rfl trivial rfl rfl ?_⟩
    show (-1 : Int) = idx1 l a pe ts
    exact (idx_none fun j hj => hn j hj hj).symm
def kPC : Kn := { pK with C := [(18, cValid), (44, cFirst)] }
theorem kPC_ok : KnOk Tryz.prog pG kPC := pK_ok.with (.cons rvalid_ok (.cons rfirst_ok .nil))
def cGrain : Ctr := { args := [po, who], pre := fun _ => [], res := i64, own := none, out := fun x => grain x.1.1 x.2.1.1 x.2.1.2.1 }
theorem okP_idx {l : List Gt} {a p : Int} {ts : List Int} (hi : ¬ idx1 l a p ts < 0) : 0 ≤ idx1 l a p ts ∧ idx1 l a p ts < (l.length : Nat) := ⟨by omega, (idx_lt _ _).1⟩
theorem rgrain_ok : CtrOk Tryz.prog pG 20 cGrain := by
  refine ctr_of_awp (K := kPC) kPC_ok Tryz.func20 rfl rfl Tryz.call20 rfl (by decide) (by intro h; cases h) ?_
  rintro w0 X hX ⟨⟨(l : List Gt), _⟩, ⟨(pe : Int), (ts : List Int), _⟩, _⟩ hp
  change AWP _ _ _ _ _ ⟨[(0, ⟨po, (l, ())⟩), (1, ⟨who, (pe, ts, ())⟩)], [], 0⟩ _
  (repeat (first | refine AWP.seq ?_ | refine AWP.skip ?_ | refine AWP.label ?_ | refine AWP.exit ?_ | refine AWP.block ?_ | refine AWP.region hX kPC_ok rfl trivial ?_ | refine AWP.region hX kPC_ok rfl id ?_ | refine AWP.region hX kPC_ok rfl ⟨id, id⟩ ?_))
  refine AWP.cond rfl (fun hb => ?_) (fun hb => ?_)
  · have hb : (bif !decide (OkP l) then true else decide (idx1 l 1 pe ts < 0)) = true := hb
    simp at hb
    (repeat (first | refine AWP.seq ?_ | refine AWP.skip ?_ | refine AWP.label ?_ | refine AWP.exit ?_ | refine AWP.block ?_ | refine AWP.region hX kPC_ok rfl trivial ?_ | refine AWP.region hX kPC_ok rfl id ?_ | refine AWP.region hX kPC_ok rfl ⟨id, id⟩ ?_))
    refine AWP.ret ⟨.inr rfl, done1 rfl trivial rfl rfl ?_⟩
    show (0 : Int) = grain l pe ts
    unfold grain
    split
    · rename_i h
      rw [idx1_find, if_pos (hb.resolve_left fun c => c h)]
      rfl
    · rfl
  · have hb : (bif !decide (OkP l) then true else decide (idx1 l 1 pe ts < 0)) = false := hb
    simp at hb
    have hi := okP_idx (by omega : ¬ idx1 l 1 pe ts < 0)
    (repeat (first | refine AWP.seq ?_ | refine AWP.skip ?_ | refine AWP.block ?_ | refine AWP.exit ?_)); refine AWP.region hX kPC_ok rfl ?_ ?_
    · exact hi
    refine AWP.ret ⟨.inr rfl, done1 rfl trivial rfl rfl ?_⟩
    show gG (l.getD (idx1 l 1 pe ts).toNat zG) = grain l pe ts
    unfold grain
    rw [if_pos hb.1, idx1_find, if_neg (by omega)]
    rfl
def cBook : Ctr := { args := [po, who], pre := fun _ => [], res := .bool, own := none, out := fun x => book x.1.1 x.2.1.1 x.2.1.2.1 }
theorem rbook_ok : CtrOk Tryz.prog pG 22 cBook := by
  refine ctr_of_awp (K := kPC) kPC_ok Tryz.func22 rfl rfl Tryz.call22 rfl (by decide) (by intro h; cases h) ?_
  rintro w0 X hX ⟨⟨(l : List Gt), _⟩, ⟨(pe : Int), (ts : List Int), _⟩, _⟩ hp
  change AWP _ _ _ _ _ ⟨[(0, ⟨po, (l, ())⟩), (1, ⟨who, (pe, ts, ())⟩)], [], 0⟩ _
  (repeat (first | refine AWP.seq ?_ | refine AWP.skip ?_ | refine AWP.label ?_ | refine AWP.exit ?_ | refine AWP.block ?_ | refine AWP.region hX kPC_ok rfl trivial ?_ | refine AWP.region hX kPC_ok rfl id ?_ | refine AWP.region hX kPC_ok rfl ⟨id, id⟩ ?_))
  (repeat (first | refine AWP.seq ?_ | refine AWP.skip ?_ | refine AWP.block ?_ | refine AWP.exit ?_)); refine AWP.region hX kPC_ok rfl ?_ ?_
  · repeat' (first | exact trivial | assumption | (refine ⟨?_, ?_⟩) | (intro _) | exact Nat.le_of_ble_eq_true rfl | exact Int.natCast_nonneg _ | (simp_all [allP]; done))
  refine AWP.ret ⟨.inr rfl, done1 rfl trivial rfl rfl ?_⟩
  show (bif decide (OkP l) then decide (idx1 l 2 pe ts ≥ 0) else false) = book l pe ts
  unfold book
  rw [idx1_find]
  by_cases h : idx1 l 2 pe ts < 0
  · rw [if_pos h, decide_eq_false (by omega : ¬ idx1 l 2 pe ts ≥ 0)]
    cases decide (OkP l) <;> rfl
  · rw [if_neg h, decide_eq_true (by omega : idx1 l 2 pe ts ≥ 0)]
    cases decide (OkP l) <;> rfl
def cRank : Ctr := { args := [po, who], pre := fun _ => [], res := i64, own := none, out := fun x => rank x.1.1 x.2.1.1 x.2.1.2.1 }
theorem rrank_ok : CtrOk Tryz.prog pG 45 cRank := by
  refine ctr_of_awp (K := kPC) kPC_ok Tryz.func45 rfl rfl Tryz.call45 rfl (by decide) (by intro h; cases h) ?_
  rintro w0 X hX ⟨⟨(l : List Gt), _⟩, ⟨(pe : Int), (ts : List Int), _⟩, _⟩ hp
  change AWP _ _ _ _ _ ⟨[(0, ⟨po, (l, ())⟩), (1, ⟨who, (pe, ts, ())⟩)], [], 0⟩ _
  (repeat (first | refine AWP.seq ?_ | refine AWP.skip ?_ | refine AWP.label ?_ | refine AWP.exit ?_ | refine AWP.block ?_ | refine AWP.region hX kPC_ok rfl trivial ?_ | refine AWP.region hX kPC_ok rfl id ?_ | refine AWP.region hX kPC_ok rfl ⟨id, id⟩ ?_))
  refine AWP.cond rfl (fun hb => ?_) (fun hb => ?_)
  · have hb : (bif !decide (OkP l) then true else decide (idx1 l 3 pe ts < 0)) = true := hb
    simp at hb
    (repeat (first | refine AWP.seq ?_ | refine AWP.skip ?_ | refine AWP.label ?_ | refine AWP.exit ?_ | refine AWP.block ?_ | refine AWP.region hX kPC_ok rfl trivial ?_ | refine AWP.region hX kPC_ok rfl id ?_ | refine AWP.region hX kPC_ok rfl ⟨id, id⟩ ?_))
    refine AWP.ret ⟨.inr rfl, done1 rfl trivial rfl rfl ?_⟩
    show (-1 : Int) = rank l pe ts
    unfold rank
    split
    · rename_i h
      rw [idx1_find, if_pos (hb.resolve_left fun c => c h)]
      rfl
    · rfl
  · have hb : (bif !decide (OkP l) then true else decide (idx1 l 3 pe ts < 0)) = false := hb
    simp at hb
    have hi := okP_idx (by omega : ¬ idx1 l 3 pe ts < 0)
    (repeat (first | refine AWP.seq ?_ | refine AWP.skip ?_ | refine AWP.block ?_ | refine AWP.exit ?_)); refine AWP.region hX kPC_ok rfl ?_ ?_
    · exact hi
    refine AWP.ret ⟨.inr rfl, done1 rfl trivial rfl rfl ?_⟩
    show gR (l.getD (idx1 l 3 pe ts).toNat zG) = rank l pe ts
    unfold rank
    rw [if_pos hb.1, idx1_find, if_neg (by omega)]
    rfl
def kPD : Kn := { pK with C := [(45, cRank), (20, cGrain), (22, cBook)] }
theorem kPD_ok : KnOk Tryz.prog pG kPD := pK_ok.with (.cons rrank_ok (.cons rgrain_ok (.cons rbook_ok .nil)))
def cMove : Ctr := { args := [po, who, i64], pre := fun _ => [], res := .bool, own := none, out := fun x => move x.1.1 x.2.1.1 x.2.1.2.1 x.2.2.1 }
theorem rmove_ok : CtrOk Tryz.prog pG 24 cMove := by
  refine ctr_of_awp (K := kPD) kPD_ok Tryz.func24 rfl rfl Tryz.call24 rfl (by decide) (by intro h; cases h) ?_
  rintro w0 X hX ⟨⟨(l : List Gt), _⟩, ⟨(pe : Int), (ts : List Int), _⟩, (r : Int), _⟩ hp
  change AWP _ _ _ _ _ ⟨[(0, ⟨po, (l, ())⟩), (1, ⟨who, (pe, ts, ())⟩), (2, ⟨i64, r⟩)], [], 0⟩ _
  (repeat (first | refine AWP.seq ?_ | refine AWP.skip ?_ | refine AWP.label ?_ | refine AWP.exit ?_ | refine AWP.block ?_ | refine AWP.region hX kPD_ok rfl trivial ?_ | refine AWP.region hX kPD_ok rfl id ?_ | refine AWP.region hX kPD_ok rfl ⟨id, id⟩ ?_))
  (repeat (first | refine AWP.seq ?_ | refine AWP.skip ?_ | refine AWP.block ?_ | refine AWP.exit ?_)); refine AWP.region hX kPD_ok rfl ?_ ?_
  · repeat' (first | exact trivial | assumption | (refine ⟨?_, ?_⟩) | (intro _) | exact Nat.le_of_ble_eq_true rfl | exact Int.natCast_nonneg _ | (simp_all [allP]; done))
  refine AWP.ret ⟨.inr rfl, done1 rfl trivial rfl rfl ?_⟩
  show (bif decide (rank l pe ts ≥ 0) then decide (r ≤ rank l pe ts) else false) = move l pe ts r
  unfold move
  show (bif decide (0 ≤ rank l pe ts) then decide (r ≤ rank l pe ts) else false) = _
  cases decide (0 ≤ rank l pe ts) <;> rfl
def less (l m : List Gt) (pe : Int) (ts : List Int) : Bool := decide (grain l pe ts ≤ grain m pe ts) && (!book l pe ts || book m pe ts) && decide (rank l pe ts ≤ rank m pe ts)
def cLess : Ctr := { args := [po, po, who], pre := fun _ => [], res := .bool, own := none, out := fun x => less x.1.1 x.2.1.1 x.2.2.1.1 x.2.2.1.2.1 }
theorem rless_ok : CtrOk Tryz.prog pG 57 cLess := by
  refine ctr_of_awp (K := kPD) kPD_ok Tryz.func57 rfl rfl Tryz.call57 rfl (by decide) (by intro h; cases h) ?_
  rintro w0 X hX ⟨⟨(l : List Gt), _⟩, ⟨(m : List Gt), _⟩, ⟨(pe : Int), (ts : List Int), _⟩, _⟩ hp
  change AWP _ _ _ _ _ ⟨[(0, ⟨po, (l, ())⟩), (1, ⟨po, (m, ())⟩), (2, ⟨who, (pe, ts, ())⟩)], [], 0⟩ _
  (repeat (first | refine AWP.seq ?_ | refine AWP.skip ?_ | refine AWP.label ?_ | refine AWP.exit ?_ | refine AWP.block ?_ | refine AWP.region hX kPD_ok rfl trivial ?_ | refine AWP.region hX kPD_ok rfl id ?_ | refine AWP.region hX kPD_ok rfl ⟨id, id⟩ ?_))
  (repeat (first | refine AWP.seq ?_ | refine AWP.skip ?_ | refine AWP.block ?_ | refine AWP.exit ?_)); refine AWP.region hX kPD_ok rfl ?_ ?_
  · repeat' (first | exact trivial | assumption | (refine ⟨?_, ?_⟩) | (intro _) | exact Nat.le_of_ble_eq_true rfl | exact Int.natCast_nonneg _ | (simp_all [allP]; done))
  (repeat (first | refine AWP.seq ?_ | refine AWP.skip ?_ | refine AWP.block ?_ | refine AWP.exit ?_)); refine AWP.draw dM hX kPD_ok 19 (by kernel_rfl) rfl rfl ?_ ?_ ?_
  · repeat' (first | exact trivial | assumption | (refine ⟨?_, ?_⟩) | (intro _) | exact Nat.le_of_ble_eq_true rfl | exact Int.natCast_nonneg _ | (simp_all [allP]; done))
  · repeat' (first | exact trivial | assumption | (refine ⟨?_, ?_⟩) | (intro _) | exact Nat.le_of_ble_eq_true rfl | exact Int.natCast_nonneg _ | (simp_all [allP]; done))
  refine AWP.ret ⟨.inr rfl, done1 rfl trivial rfl rfl ?_⟩
  show (bif bif decide (grain l pe ts ≤ grain m pe ts) then (bif !book l pe ts then true else book m pe ts) else false then decide (rank l pe ts ≤ rank m pe ts) else false) = less l m pe ts
  unfold less
  cases decide (grain l pe ts ≤ grain m pe ts) <;> cases book l pe ts <;> cases book m pe ts <;> rfl
def cIndex : Ctr := { args := [i64, i64], pre := fun x => [1 ≤ x.2.1, x.2.1 ≤ 1000], res := i64, own := none, out := fun x => x.1 % x.2.1 }
theorem rindex_ok : CtrOk Tryz.prog pG 46 cIndex := by
  refine ctr_of_awp (K := pK) pK_ok Tryz.func46 rfl rfl Tryz.call46 rfl (by decide) (by intro h; cases h) ?_
  rintro w0 X hX ⟨(x : Int), (n : Int), _⟩ hp
  obtain ⟨hp1, hp2⟩ : 1 ≤ n ∧ n ≤ 1000 := hp
  change AWP _ _ _ _ _ ⟨[(0, ⟨i64, x⟩), (1, ⟨i64, n⟩)], [], 0⟩ _
  have hn : n ≠ 0 := by omega
  have t1 := Int.lt_tmod_of_pos x (by omega : 0 < n)
  have t2 := Int.tmod_lt_of_pos x (by omega : 0 < n)
  have t3 := Int.tmod_def x n
  have te : x % n = if x.tmod n < 0 then x.tmod n + n else x.tmod n := by
    rw [Int.tmod_eq_emod]
    have h1 := Int.emod_nonneg x hn
    have h2 := Int.emod_lt_of_pos x (by omega : 0 < n)
    by_cases c : 0 ≤ x ∨ n ∣ x
    · rw [if_pos c, if_neg (by omega)]
      omega
    · rw [if_neg c, if_pos (by omega)]
      omega
  (repeat (first | refine AWP.seq ?_ | refine AWP.skip ?_ | refine AWP.label ?_ | refine AWP.exit ?_ | refine AWP.block ?_ | refine AWP.region hX pK_ok rfl trivial ?_ | refine AWP.region hX pK_ok rfl id ?_ | refine AWP.region hX pK_ok rfl ⟨id, id⟩ ?_))
  (repeat (first | refine AWP.seq ?_ | refine AWP.skip ?_ | refine AWP.block ?_ | refine AWP.exit ?_)); refine AWP.region hX pK_ok rfl ?_ ?_
  · exact hn
  (repeat (first | refine AWP.seq ?_ | refine AWP.skip ?_ | refine AWP.label ?_ | refine AWP.exit ?_ | refine AWP.block ?_ | refine AWP.region hX pK_ok rfl trivial ?_ | refine AWP.region hX pK_ok rfl id ?_ | refine AWP.region hX pK_ok rfl ⟨id, id⟩ ?_))
  refine AWP.cond rfl (fun hb => ?_) (fun hb => ?_)
  · have hb : decide (x.tmod n < 0) = true := hb
    have hb := of_decide_eq_true hb
    (repeat (first | refine AWP.seq ?_ | refine AWP.skip ?_ | refine AWP.block ?_ | refine AWP.exit ?_)); refine AWP.region hX pK_ok rfl ?_ ?_
    · exact inR_small (by show _ ≤ x.tmod n + n; omega) (by show x.tmod n + n ≤ _; omega)
    (repeat (first | refine AWP.seq ?_ | refine AWP.skip ?_ | refine AWP.label ?_ | refine AWP.exit ?_ | refine AWP.block ?_ | refine AWP.region hX pK_ok rfl trivial ?_ | refine AWP.region hX pK_ok rfl id ?_ | refine AWP.region hX pK_ok rfl ⟨id, id⟩ ?_))
    refine AWP.ret ⟨.inr rfl, done1 rfl trivial rfl rfl ?_⟩
    show x.tmod n + n = x % n
    rw [te, if_pos hb]
  · have hb : decide (x.tmod n < 0) = false := hb
    have hb := of_decide_eq_false hb
    (repeat (first | refine AWP.seq ?_ | refine AWP.skip ?_ | refine AWP.label ?_ | refine AWP.exit ?_ | refine AWP.block ?_ | refine AWP.region hX pK_ok rfl trivial ?_ | refine AWP.region hX pK_ok rfl id ?_ | refine AWP.region hX pK_ok rfl ⟨id, id⟩ ?_))
    refine AWP.ret ⟨.inr rfl, done1 rfl trivial rfl rfl ?_⟩
    show x.tmod n = x % n
    rw [te, if_neg hb]
end Go.Proofs.YthkhgpbjfcmopaaGreatDoor
