/-
  The reference of chapter 25: number, the Reader's methods.
-/
import Derived.Test.YthkhgpbjfcmopaaGreatDoorPRefC
import Derived.Test.YthkhgpbjfcmopaaGreatDoorAbsMid
namespace Go.Proofs.YthkhgpbjfcmopaaGreatDoor
open Go Go.RowKit
set_option linter.unusedSimpArgs false
set_option linter.unusedVariables false
set_option maxRecDepth 100000
def numF : List UInt8 → Nat → Option Nat
  | [], n => some n
  | c :: r, n => if c.toNat < 48 ∨ 57 < c.toNat then none else numF r (min (10 * n + (c.toNat - 48)) 1000000)
def numT (s : List UInt8) : Bool := decide (s = [48]) || (decide (0 < s.length) && decide (s.getD 0 0 ≠ 48))
def num (s : List UInt8) : Int × Bool × Unit := match numF s 0 with
  | none => (0, false, ())
  | some n => ((n : Int), numT s, ())
def cNum : Ctr := { args := [.str], pre := fun _ => [], res := .tup i64 (.tup .bool .unit), own := none, out := fun x => num x.1 }
theorem dTest (c : Nat) : (bif decide ((c : Int) < 48) then true else decide ((c : Int) > 57)) = true ↔ c < 48 ∨ 57 < c := by
  by_cases h : (c : Int) < 48
  · rw [decide_eq_true h]
    simp
    omega
  · rw [decide_eq_false h]
    show decide _ = true ↔ _
    rw [decide_eq_true_iff]
    omega
theorem numT_eq (s : List UInt8) : (bif eqb .str s [48] then true else bif decide ((s.length : Int) > 0) then (((s.getD (Int.toNat 0) 0).toNat : Nat) : Int) != 48 else false) = numT s := by
  unfold numT
  rw [eqb_decide]
  by_cases h1 : s = [48]
  · rw [decide_eq_true h1]; rfl
  · rw [decide_eq_false h1]
    by_cases h2 : 0 < s.length
    · rw [decide_eq_true (by omega : (s.length : Int) > 0), decide_eq_true h2]
      show _ = (true && _)
      rw [Bool.true_and]
      show ((((s.getD 0 0).toNat : Nat) : Int) != 48) = _
      by_cases h3 : s.getD 0 0 = 48
      · rw [h3]; rfl
      · rw [decide_eq_true (by exact h3)]
        have : (s.getD 0 0).toNat ≠ 48 := fun e => h3 (UInt8.toNat_inj.1 e)
        show _ = true
        rw [bne_iff_ne]
        exact fun h => this (Int.ofNat.inj h)
    · rw [decide_eq_false (by omega : ¬ (s.length : Int) > 0), decide_eq_false h2]
      rfl
theorem rnumber_ok : CtrOk Tryz.prog pG 119 cNum := by
  refine ctr_of_awp (K := pK) pK_ok Tryz.func119 rfl rfl Tryz.call119 rfl (by decide) (by intro h; cases h) ?_
  rintro w0 X hX ⟨(s : List UInt8), _⟩ hp
  change AWP _ _ _ _ _ ⟨[(0, ⟨.str, s⟩)], [], 0⟩ _
  refine AWP.slen 0 rfl fun hl => ?_
  unfold maxLen at hl
  (repeat (first | refine AWP.seq ?_ | refine AWP.skip ?_ | refine AWP.label ?_ | refine AWP.exit ?_ | refine AWP.block ?_ | refine AWP.region hX pK_ok rfl trivial ?_ | refine AWP.region hX pK_ok rfl id ?_ | refine AWP.region hX pK_ok rfl ⟨id, id⟩ ?_))
  refine AWP.loop (ι := Nat × Nat) (fun k => ⟨[(0, ⟨.str, s⟩), (4, ⟨i64, (k.2 : Int)⟩), (5, ⟨i64, (k.1 : Int)⟩)], [], 0⟩) (fun k => k.1 ≤ s.length ∧ k.2 ≤ 1000000 ∧ numF (s.drop k.1) k.2 = numF s 0) (fun k => s.length - k.1) (0, 0) ⟨by omega, by omega, rfl⟩ ⟨⟨rfl, rfl, rfl, trivial⟩, trivial, rfl, rfl⟩ ?_
  rintro ⟨k, n⟩ ⟨hk, hn, hf⟩
  have hk : k ≤ s.length := hk
  have hn : n ≤ 1000000 := hn
  have hf : numF (s.drop k) n = numF s 0 := hf
  generalize hZ : numF s 0 = Z at hf
  (repeat (first | refine AWP.seq ?_ | refine AWP.skip ?_ | refine AWP.block ?_ | refine AWP.exit ?_)); refine AWP.region hX pK_ok rfl ?_ ?_
  · trivial
  refine AWP.cond rfl (fun hb => ?_) (fun hb => ?_)
  · have hb : decide ((k : Int) < (s.length : Nat)) = true := hb
    have hb := of_decide_eq_true hb
    have hlt : k < s.length := by omega
    have n0 : (0 : Int) ≤ (k : Int) := by omega
    have hd : s.drop k = s[k] :: s.drop (k + 1) := List.drop_eq_getElem_cons hlt
    rw [hd] at hf
    unfold numF at hf
    have hG : s.getD (k : Int).toNat 0 = s[k] := getD_at hlt
    have hc : (s.getD (k : Int).toNat 0).toNat < 256 := (s.getD (k : Int).toNat 0).toNat_lt
    generalize s[k] = c at hf hG
    (repeat (first | refine AWP.seq ?_ | refine AWP.skip ?_ | refine AWP.block ?_ | refine AWP.exit ?_)); refine AWP.region hX pK_ok rfl ?_ ?_
    · clear hf hd hG
      repeat' (first | exact trivial | assumption | exact n0 | exact hb | (refine ⟨?_, ?_⟩) | (intro _) | exact Nat.le_of_ble_eq_true rfl | exact Int.natCast_nonneg _ | (simp_all [allP]; done))
    refine AWP.cond rfl (fun hb => ?_) (fun hb => ?_)
    · have hx : (bif decide ((((s.getD (k : Int).toNat 0).toNat : Nat) : Int) < 48) then true else decide ((((s.getD (k : Int).toNat 0).toNat : Nat) : Int) > 57)) = true := hb
      rw [hG] at hx
      have hx := (dTest c.toNat).1 hx
      rw [if_pos hx] at hf
      (repeat (first | refine AWP.seq ?_ | refine AWP.skip ?_ | refine AWP.label ?_ | refine AWP.exit ?_ | refine AWP.block ?_ | refine AWP.region hX pK_ok rfl trivial ?_ | refine AWP.region hX pK_ok rfl id ?_ | refine AWP.region hX pK_ok rfl ⟨id, id⟩ ?_))
      refine AWP.ret ⟨.inr rfl, done2 (by decide) rfl rfl trivial ?_⟩
      show ((0 : Int), false, ()) = num s
      unfold num
      rw [hZ, ← hf]
    · have hx : (bif decide ((((s.getD (k : Int).toNat 0).toNat : Nat) : Int) < 48) then true else decide ((((s.getD (k : Int).toNat 0).toNat : Nat) : Int) > 57)) = false := hb
      rw [hG] at hx
      have hx : ¬ (c.toNat < 48 ∨ 57 < c.toNat) := fun h => by rw [(dTest c.toNat).2 h] at hx; cases hx
      rw [if_neg hx] at hf
      have i1 : inR .i64 (10 * (n : Int)) := inR_small (by omega) (by omega)
      have i2 : inR .i64 (10 * (n : Int) + ((s.getD (k : Int).toNat 0).toNat : Nat)) := inR_small (by omega) (by omega)
      have i3 : inR .i64 (10 * (n : Int) + ((s.getD (k : Int).toNat 0).toNat : Nat) - 48) := inR_small (by omega) (by omega)
      (repeat (first | refine AWP.seq ?_ | refine AWP.skip ?_ | refine AWP.block ?_ | refine AWP.exit ?_)); refine AWP.region hX pK_ok rfl ?_ ?_
      · exact ⟨i1, n0, by assumption, i2, i3⟩
      (repeat (first | refine AWP.seq ?_ | refine AWP.skip ?_ | refine AWP.block ?_ | refine AWP.exit ?_)); refine AWP.region hX pK_ok rfl ?_ ?_
      · exact inR_succ (by omega)
      refine ⟨(k + 1, min (10 * n + (c.toNat - 48)) 1000000), ⟨by omega, by show min _ _ ≤ _; omega, hf⟩, by show s.length - (k + 1) < s.length - k; omega, ⟨rfl, vI64 ?_, vSucc _, trivial⟩, trivial, rfl, rfl⟩
      show min (10 * (n : Int) + ((s.getD (k : Int).toNat 0).toNat : Nat) - 48) 1000000 = ((min (10 * n + (c.toNat - 48)) 1000000 : Nat) : Int)
      rw [hG]
      omega
  · have hb : decide ((k : Int) < (s.length : Nat)) = false := hb
    have hb := of_decide_eq_false hb
    have : k = s.length := by omega
    subst this
    rw [List.drop_length] at hf
    unfold numF at hf
    have cs : ∀ {p q : Prop}, (p → q) → True := fun _ => trivial
    (repeat (first | refine AWP.seq ?_ | refine AWP.skip ?_ | refine AWP.block ?_ | refine AWP.exit ?_)); refine AWP.orders (σ' := ⟨[(2, ⟨i64, (n : Int)⟩), (3, ⟨.bool, numT s⟩)], [], 0⟩) dM hX pK_ok 15 rfl (by kernel_rfl) [[0, 1, 2, 3, 4, 5, 6, 7, 8, 9, 10, 11, 12, 13, 14], [0, 1, 2, 3, 4, 5, 6, 7, 8, 9, 10, 11, 13, 12, 14], [0, 1, 2, 3, 4, 5, 6, 7, 8, 9, 10, 13, 11, 12, 14], [0, 1, 2, 3, 4, 5, 6, 7, 8, 9, 13, 10, 11, 12, 14], [0, 1, 2, 3, 4, 5, 6, 7, 8, 13, 9, 10, 11, 12, 14], [0, 1, 2, 3, 4, 5, 6, 7, 13, 8, 9, 10, 11, 12, 14], [1, 0, 2, 3, 4, 5, 6, 7, 8, 9, 10, 11, 12, 13, 14], [1, 0, 2, 3, 4, 5, 6, 7, 8, 9, 10, 11, 13, 12, 14], [1, 0, 2, 3, 4, 5, 6, 7, 8, 9, 10, 13, 11, 12, 14], [1, 0, 2, 3, 4, 5, 6, 7, 8, 9, 13, 10, 11, 12, 14], [1, 0, 2, 3, 4, 5, 6, 7, 8, 13, 9, 10, 11, 12, 14], [1, 0, 2, 3, 4, 5, 6, 7, 13, 8, 9, 10, 11, 12, 14], [1, 2, 0, 3, 4, 5, 6, 7, 8, 9, 10, 11, 12, 13, 14], [1, 2, 0, 3, 4, 5, 6, 7, 8, 9, 10, 11, 13, 12, 14], [1, 2, 0, 3, 4, 5, 6, 7, 8, 9, 10, 13, 11, 12, 14], [1, 2, 0, 3, 4, 5, 6, 7, 8, 9, 13, 10, 11, 12, 14], [1, 2, 0, 3, 4, 5, 6, 7, 8, 13, 9, 10, 11, 12, 14], [1, 2, 0, 3, 4, 5, 6, 7, 13, 8, 9, 10, 11, 12, 14], [1, 2, 3, 0, 4, 5, 6, 7, 8, 9, 10, 11, 12, 13, 14], [1, 2, 3, 0, 4, 5, 6, 7, 8, 9, 10, 11, 13, 12, 14], [1, 2, 3, 0, 4, 5, 6, 7, 8, 9, 10, 13, 11, 12, 14], [1, 2, 3, 0, 4, 5, 6, 7, 8, 9, 13, 10, 11, 12, 14], [1, 2, 3, 0, 4, 5, 6, 7, 8, 13, 9, 10, 11, 12, 14], [1, 2, 3, 0, 4, 5, 6, 7, 13, 8, 9, 10, 11, 12, 14], [1, 2, 3, 4, 0, 5, 6, 7, 8, 9, 10, 11, 12, 13, 14], [1, 2, 3, 4, 0, 5, 6, 7, 8, 9, 10, 11, 13, 12, 14], [1, 2, 3, 4, 0, 5, 6, 7, 8, 9, 10, 13, 11, 12, 14], [1, 2, 3, 4, 0, 5, 6, 7, 8, 9, 13, 10, 11, 12, 14], [1, 2, 3, 4, 0, 5, 6, 7, 8, 13, 9, 10, 11, 12, 14], [1, 2, 3, 4, 0, 5, 6, 7, 13, 8, 9, 10, 11, 12, 14], [1, 2, 3, 4, 5, 0, 6, 7, 8, 9, 10, 11, 12, 13, 14], [1, 2, 3, 4, 5, 0, 6, 7, 8, 9, 10, 11, 13, 12, 14], [1, 2, 3, 4, 5, 0, 6, 7, 8, 9, 10, 13, 11, 12, 14], [1, 2, 3, 4, 5, 0, 6, 7, 8, 9, 13, 10, 11, 12, 14], [1, 2, 3, 4, 5, 0, 6, 7, 8, 13, 9, 10, 11, 12, 14], [1, 2, 3, 4, 5, 0, 6, 7, 13, 8, 9, 10, 11, 12, 14], [1, 2, 3, 4, 5, 6, 0, 7, 8, 9, 10, 11, 12, 13, 14], [1, 2, 3, 4, 5, 6, 0, 7, 8, 9, 10, 11, 13, 12, 14], [1, 2, 3, 4, 5, 6, 0, 7, 8, 9, 10, 13, 11, 12, 14], [1, 2, 3, 4, 5, 6, 0, 7, 8, 9, 13, 10, 11, 12, 14], [1, 2, 3, 4, 5, 6, 0, 7, 8, 13, 9, 10, 11, 12, 14], [1, 2, 3, 4, 5, 6, 0, 7, 13, 8, 9, 10, 11, 12, 14], [1, 2, 3, 4, 5, 6, 7, 0, 8, 9, 10, 11, 12, 13, 14], [1, 2, 3, 4, 5, 6, 7, 0, 8, 9, 10, 11, 13, 12, 14], [1, 2, 3, 4, 5, 6, 7, 0, 8, 9, 10, 13, 11, 12, 14], [1, 2, 3, 4, 5, 6, 7, 0, 8, 9, 13, 10, 11, 12, 14], [1, 2, 3, 4, 5, 6, 7, 0, 8, 13, 9, 10, 11, 12, 14], [1, 2, 3, 4, 5, 6, 7, 0, 13, 8, 9, 10, 11, 12, 14], [1, 2, 3, 4, 5, 6, 7, 8, 0, 9, 10, 11, 12, 13, 14], [1, 2, 3, 4, 5, 6, 7, 8, 0, 9, 10, 11, 13, 12, 14], [1, 2, 3, 4, 5, 6, 7, 8, 0, 9, 10, 13, 11, 12, 14], [1, 2, 3, 4, 5, 6, 7, 8, 0, 9, 13, 10, 11, 12, 14], [1, 2, 3, 4, 5, 6, 7, 8, 0, 13, 9, 10, 11, 12, 14], [1, 2, 3, 4, 5, 6, 7, 8, 9, 0, 10, 11, 12, 13, 14], [1, 2, 3, 4, 5, 6, 7, 8, 9, 0, 10, 11, 13, 12, 14], [1, 2, 3, 4, 5, 6, 7, 8, 9, 0, 10, 13, 11, 12, 14], [1, 2, 3, 4, 5, 6, 7, 8, 9, 0, 13, 10, 11, 12, 14], [1, 2, 3, 4, 5, 6, 7, 8, 9, 10, 0, 11, 12, 13, 14], [1, 2, 3, 4, 5, 6, 7, 8, 9, 10, 0, 11, 13, 12, 14], [1, 2, 3, 4, 5, 6, 7, 8, 9, 10, 0, 13, 11, 12, 14], [1, 2, 3, 4, 5, 6, 7, 8, 9, 10, 11, 0, 12, 13, 14], [1, 2, 3, 4, 5, 6, 7, 8, 9, 10, 11, 0, 13, 12, 14], [1, 2, 3, 4, 5, 6, 7, 8, 9, 10, 11, 12, 0, 13, 14]] (by kernel_rfl) ?_ ?_
    · repeat' (first | exact AllL.nil | refine AllL.cons (LinOk.mk rfl ?_ ⟨⟨rfl, vBool (numT_eq s), trivial⟩, trivial, rfl, rfl⟩) ?_)
      all_goals (clear hX hp; repeat' (first | exact trivial | assumption | (refine ⟨?_, ?_⟩) | (intro _) | exact Nat.le_of_ble_eq_true rfl | exact Int.natCast_nonneg _ | (simp_all [allP]; done)))
    refine AWP.ret ⟨.inr rfl, done2 (by decide) rfl rfl trivial ?_⟩
    show ((n : Int), numT s, ()) = num s
    unfold num
    rw [hZ, ← hf]
abbrev Wd := List UInt8 × Int × Unit
abbrev Rd := List Wd × Int × Int × Int × Unit
def wT (x : Wd) : List UInt8 := x.1
def wA (x : Wd) : Int := x.2.1
def zW : Wd := ([], 0, ())
def rL (r : Rd) : List Wd := r.1
def rI (r : Rd) : Int := r.2.1
def rA (r : Rd) : Int := r.2.2.1
def rE (r : Rd) : Int := r.2.2.2.1
/-- the reader stands at a word, or has failed -/
def InR (r : Rd) : Prop := rE r ≠ 0 ∨ (0 ≤ rI r ∧ rI r < (rL r).length)
def failS (r : Rd) (e : Int) : Rd := if rE r = 0 then (rL r, rI r, wA ((rL r).getD (rI r).toNat zW), e, ()) else r
def cFail : RCtr := { self := rr, args := [i64], inv := fun _ _ => True, pre := fun r _ => [InR r], res := .unit, out := fun _ _ => (), post := fun r xs => failS r xs.1 }
theorem rfail_ok : RCtrOk Tryz.prog pG 118 cFail := by
  refine rctr_of_awp (K := pK) pK_ok Tryz.func118 rfl rfl Tryz.call118 rfl (by decide) (fun w w' g hg h hk => trivial) ?_
  rintro w0 O g hX hinv ⟨(l : List Wd), (i : Int), (at' : Int), (er : Int), _⟩ ⟨(e : Int), _⟩ hp
  have hp : InR (l, i, at', er, ()) := hp
  change AWP _ _ _ _ _ ⟨[(0, ⟨.optr rr, ⟨0, rr, .here⟩⟩), (1, ⟨i64, e⟩)], [(0, some (.box rr (l, i, at', er, ())))], 1⟩ _
  (repeat (first | refine AWP.seq ?_ | refine AWP.skip ?_ | refine AWP.label ?_ | refine AWP.exit ?_ | refine AWP.block ?_ | refine AWP.region hX pK_ok rfl trivial ?_ | refine AWP.region hX pK_ok rfl id ?_ | refine AWP.region hX pK_ok rfl ⟨id, id⟩ ?_))
  refine AWP.cond rfl (fun hb => ?_) (fun hb => ?_)
  · have hb : decide (er = 0) = true := hb
    have hb := of_decide_eq_true hb
    have hI : 0 ≤ i ∧ i < (l.length : Nat) := hp.resolve_left fun h => h hb
    (repeat (first | refine AWP.seq ?_ | refine AWP.skip ?_ | refine AWP.label ?_ | refine AWP.exit ?_ | refine AWP.block ?_ | refine AWP.region hX pK_ok rfl trivial ?_ | refine AWP.region hX pK_ok rfl id ?_ | refine AWP.region hX pK_ok rfl ⟨id, id⟩ ?_))
    (repeat (first | refine AWP.seq ?_ | refine AWP.skip ?_ | refine AWP.block ?_ | refine AWP.exit ?_)); refine AWP.draw dM hX pK_ok 14 (by kernel_rfl) rfl rfl ?_ ?_ ?_
    · exact hI
    · trivial
    refine ⟨.inl rfl, ?_, done2 (by decide) rfl rfl trivial rfl⟩
    show some (OObj.box rr (l, i, wA (l.getD i.toNat zW), e, ())) = some (OObj.box rr (failS (l, i, at', er, ()) e))
    unfold failS
    rw [if_pos (show rE (l, i, at', er, ()) = 0 from hb)]
    rfl
  · have hb : decide (er = 0) = false := hb
    have hb := of_decide_eq_false hb
    (repeat (first | refine AWP.seq ?_ | refine AWP.skip ?_ | refine AWP.label ?_ | refine AWP.exit ?_ | refine AWP.block ?_ | refine AWP.region hX pK_ok rfl trivial ?_ | refine AWP.region hX pK_ok rfl id ?_ | refine AWP.region hX pK_ok rfl ⟨id, id⟩ ?_))
    refine ⟨.inl rfl, ?_, done2 (by decide) rfl rfl trivial rfl⟩
    show some (OObj.box rr (l, i, at', er, ())) = some (OObj.box rr (failS (l, i, at', er, ()) e))
    unfold failS
    rw [if_neg (show ¬ rE (l, i, at', er, ()) = 0 from hb)]
/-- the index of the first of some words that a text is, or their number -/
def chI (ws : List (List UInt8)) (t : List UInt8) : Nat := ws.findIdx fun w => decide (t = w)
def cur (r : Rd) : List UInt8 := wT ((rL r).getD (rI r).toNat zW)
def nextS (r : Rd) : Rd := (rL r, rI r + 1, rA r, rE r, ())
def choS (r : Rd) (ws : List (List UInt8)) : Int × Rd := if rE r ≠ 0 then (0, r) else if chI ws (cur r) < ws.length then ((chI ws (cur r) : Int), nextS r) else (0, failS r 3)
def cCho : RCtr := { self := rr, args := [.slice .str], inv := fun _ _ => True, pre := fun r xs => [InR r, List.length (rL r) ≤ 10000, List.length xs.1 ≤ 100], res := i64, out := fun r xs => (choS r xs.1).1, post := fun r xs => (choS r xs.1).2 }
def kPJ : Kn := { pK with R := [(118, cFail)] }
theorem kPJ_ok : KnOk Tryz.prog pG kPJ := pK_ok.withR (.cons rfail_ok (fun _ _ => trivial) .nil)
theorem rchoice_ok : RCtrOk Tryz.prog pG 97 cCho := by
  refine rctr_of_awp (K := kPJ) kPJ_ok Tryz.func97 rfl rfl Tryz.call97 rfl (by decide) (fun w w' g hg h hk => trivial) ?_
  rintro w0 O g hX hinv ⟨(l : List Wd), (i : Int), (at' : Int), (er : Int), _⟩ ⟨(ws : List (List UInt8)), _⟩ hp
  obtain ⟨hp, hl, hws⟩ : InR (l, i, at', er, ()) ∧ l.length ≤ 10000 ∧ ws.length ≤ 100 := hp
  change AWP _ _ _ _ _ ⟨[(0, ⟨.optr rr, ⟨0, rr, .here⟩⟩), (1, ⟨.slice .str, ws⟩)], [(0, some (.box rr (l, i, at', er, ())))], 1⟩ _
  (repeat (first | refine AWP.seq ?_ | refine AWP.skip ?_ | refine AWP.label ?_ | refine AWP.exit ?_ | refine AWP.block ?_ | refine AWP.region hX kPJ_ok rfl trivial ?_ | refine AWP.region hX kPJ_ok rfl id ?_ | refine AWP.region hX kPJ_ok rfl ⟨id, id⟩ ?_))
  refine AWP.cond rfl (fun hb => ?_) (fun hb => ?_)
  · have hb : (!decide (er = 0)) = true := hb
    simp at hb
    have hS : choS (l, i, at', er, ()) ws = (0, (l, i, at', er, ())) := if_pos hb
    (repeat (first | refine AWP.seq ?_ | refine AWP.skip ?_ | refine AWP.label ?_ | refine AWP.exit ?_ | refine AWP.block ?_ | refine AWP.region hX kPJ_ok rfl trivial ?_ | refine AWP.region hX kPJ_ok rfl id ?_ | refine AWP.region hX kPJ_ok rfl ⟨id, id⟩ ?_))
    refine AWP.ret ⟨.inr rfl, ?_, done1 rfl trivial rfl rfl ?_⟩
    · show some (OObj.box rr (l, i, at', er, ())) = some (OObj.box rr (choS (l, i, at', er, ()) ws).2)
      rw [hS]
    · show (0 : Int) = (choS (l, i, at', er, ()) ws).1
      rw [hS]
  have hb : (!decide (er = 0)) = false := hb
  simp at hb
  subst hb
  have hI : 0 ≤ i ∧ i < (l.length : Nat) := hp.resolve_left fun h => h rfl
  (repeat (first | refine AWP.seq ?_ | refine AWP.skip ?_ | refine AWP.label ?_ | refine AWP.exit ?_ | refine AWP.block ?_ | refine AWP.region hX kPJ_ok rfl trivial ?_ | refine AWP.region hX kPJ_ok rfl id ?_ | refine AWP.region hX kPJ_ok rfl ⟨id, id⟩ ?_))
  refine AWP.loop (ι := Nat) (fun k => ⟨[(0, ⟨.optr rr, ⟨0, rr, .here⟩⟩), (1, ⟨.slice .str, ws⟩), (5, ⟨i64, (k : Int)⟩)], [(0, some (.box rr (l, i, at', 0, ())))], 1⟩) (fun k => k ≤ ws.length ∧ ∀ j (hj : j < ws.length), j < k → decide (wT (l.getD i.toNat zW) = ws[j]) = false) (fun k => ws.length - k) 0 ⟨by omega, by omega⟩ ⟨⟨rfl, rfl, rfl, trivial⟩, ⟨rfl, trivial⟩, rfl, rfl⟩ ?_
  rintro k ⟨hk, hn⟩
  (repeat (first | refine AWP.seq ?_ | refine AWP.skip ?_ | refine AWP.block ?_ | refine AWP.exit ?_)); refine AWP.region hX kPJ_ok rfl ?_ ?_
  · trivial
  refine AWP.cond rfl (fun hb => ?_) (fun hb => ?_)
  · have hb : decide ((k : Int) < (ws.length : Nat)) = true := hb
    have hb := of_decide_eq_true hb
    have hlt : k < ws.length := by omega
    have n0 : (0 : Int) ≤ (k : Int) := by omega
    (repeat (first | refine AWP.seq ?_ | refine AWP.skip ?_ | refine AWP.block ?_ | refine AWP.exit ?_)); refine AWP.draw dM hX kPJ_ok 16 (by kernel_rfl) rfl rfl ?_ ?_ ?_
    · exact ⟨hI.1, hI.2, n0, hb⟩
    · trivial
    refine AWP.cond rfl (fun hb => ?_) (fun hb => ?_)
    · have hc : eqb .str (wT (l.getD i.toNat zW)) (ws.getD (k : Int).toNat []) = true := hb
      rw [getD_at hlt] at hc
      have hc : wT (l.getD i.toNat zW) = ws[k] := eqb_iff.1 hc
      have hci : chI ws (wT (l.getD i.toNat zW)) = k := by
        unfold chI
        rw [List.findIdx_eq hlt]
        exact ⟨decide_eq_true hc, fun j hj => hn j _ hj⟩
      have hS : choS (l, i, at', 0, ()) ws = ((k : Int), (l, i + 1, at', 0, ())) := by
        unfold choS
        rw [if_neg (fun h => h rfl), show cur (l, i, at', 0, ()) = wT (l.getD i.toNat zW) from rfl, hci, if_pos hlt]
        rfl
      (repeat (first | refine AWP.seq ?_ | refine AWP.skip ?_ | refine AWP.block ?_ | refine AWP.exit ?_)); refine AWP.region hX kPJ_ok rfl ?_ ?_
      · exact inR_small (by show _ ≤ i + 1; omega) (by show i + 1 ≤ _; omega)
      (repeat (first | refine AWP.seq ?_ | refine AWP.skip ?_ | refine AWP.label ?_ | refine AWP.exit ?_ | refine AWP.block ?_ | refine AWP.region hX kPJ_ok rfl trivial ?_ | refine AWP.region hX kPJ_ok rfl id ?_ | refine AWP.region hX kPJ_ok rfl ⟨id, id⟩ ?_))
      refine AWP.ret ⟨.inr rfl, ?_, done1 rfl trivial rfl rfl ?_⟩
      · show some (OObj.box rr (l, i + 1, at', 0, ())) = some (OObj.box rr (choS (l, i, at', 0, ()) ws).2)
        rw [hS]
      · show (k : Int) = (choS (l, i, at', 0, ()) ws).1
        rw [hS]
    · have hc : eqb .str (wT (l.getD i.toNat zW)) (ws.getD (k : Int).toNat []) = false := hb
      rw [getD_at hlt] at hc
      have hc : ¬ wT (l.getD i.toNat zW) = ws[k] := fun e => by rw [eqb_iff.2 e] at hc; cases hc
      (repeat (first | refine AWP.seq ?_ | refine AWP.skip ?_ | refine AWP.block ?_ | refine AWP.exit ?_)); refine AWP.region hX kPJ_ok rfl ?_ ?_
      · exact inR_succ (by omega)
      exact ⟨k + 1, ⟨by omega, fun j hj hlt => by
        by_cases e : j = k
        · subst e; exact decide_eq_false hc
        · exact hn j hj (by omega)⟩, by omega, ⟨rfl, rfl, vSucc _, trivial⟩, ⟨rfl, trivial⟩, rfl, rfl⟩
  · have hb : decide ((k : Int) < (ws.length : Nat)) = false := hb
    have hb := of_decide_eq_false hb
    have : k = ws.length := by omega
    subst this
    have hci : ¬ chI ws (wT (l.getD i.toNat zW)) < ws.length := fun h => by
      have h1 : decide (wT (l.getD i.toNat zW) = ws[chI ws (wT (l.getD i.toNat zW))]) = true := List.findIdx_getElem (w := h)
      rw [hn _ h h] at h1
      cases h1
    have hS : choS (l, i, at', 0, ()) ws = (0, failS (l, i, at', 0, ()) 3) := by
      unfold choS
      rw [if_neg (fun h => h rfl), show cur (l, i, at', 0, ()) = wT (l.getD i.toNat zW) from rfl, if_neg hci]
    (repeat (first | refine AWP.seq ?_ | refine AWP.skip ?_ | refine AWP.block ?_ | refine AWP.exit ?_)); refine AWP.region hX kPJ_ok rfl ?_ ?_
    · exact hp
    (repeat (first | refine AWP.seq ?_ | refine AWP.skip ?_ | refine AWP.label ?_ | refine AWP.exit ?_ | refine AWP.block ?_ | refine AWP.region hX kPJ_ok rfl trivial ?_ | refine AWP.region hX kPJ_ok rfl id ?_ | refine AWP.region hX kPJ_ok rfl ⟨id, id⟩ ?_))
    refine AWP.ret ⟨.inr rfl, ?_, done1 rfl trivial rfl rfl ?_⟩
    · show some (OObj.box rr (failS (l, i, at', 0, ()) 3)) = some (OObj.box rr (choS (l, i, at', 0, ()) ws).2)
      rw [hS]
    · show (0 : Int) = (choS (l, i, at', 0, ()) ws).1
      rw [hS]
def numS (r : Rd) (most : Int) : Int × Rd := if rE r ≠ 0 then (0, r) else if (num (cur r)).2.1 = false then (0, failS r 3) else if (num (cur r)).1 > most then (0, failS r 1) else ((num (cur r)).1, nextS r)
def cNumS : RCtr := { self := rr, args := [i64], inv := fun _ _ => True, pre := fun r xs => [InR r, List.length (rL r) ≤ 10000], res := i64, out := fun r xs => (numS r xs.1).1, post := fun r xs => (numS r xs.1).2 }
def kPL : Kn := { kPJ with C := [(119, cNum)] }
theorem kPL_ok : KnOk Tryz.prog pG kPL := kPJ_ok.with (.cons rnumber_ok .nil)
set_option maxHeartbeats 4000000 in
theorem rnumeral_ok : RCtrOk Tryz.prog pG 98 cNumS := by
  refine rctr_of_awp (K := kPL) kPL_ok Tryz.func98 rfl rfl Tryz.call98 rfl (by decide) (fun w w' g hg h hk => trivial) ?_
  rintro w0 O g hX hinv ⟨(l : List Wd), (i : Int), (at' : Int), (er : Int), _⟩ ⟨(most : Int), _⟩ hp
  obtain ⟨hp, hl⟩ : InR (l, i, at', er, ()) ∧ l.length ≤ 10000 := hp
  change AWP _ _ _ _ _ ⟨[(0, ⟨.optr rr, ⟨0, rr, .here⟩⟩), (1, ⟨i64, most⟩)], [(0, some (.box rr (l, i, at', er, ())))], 1⟩ _
  (repeat (first | refine AWP.seq ?_ | refine AWP.skip ?_ | refine AWP.label ?_ | refine AWP.exit ?_ | refine AWP.block ?_ | refine AWP.region hX kPL_ok rfl trivial ?_ | refine AWP.region hX kPL_ok rfl id ?_ | refine AWP.region hX kPL_ok rfl ⟨id, id⟩ ?_))
  refine AWP.cond rfl (fun hb => ?_) (fun hb => ?_)
  · have hb : (!decide (er = 0)) = true := hb
    simp at hb
    have hS : numS (l, i, at', er, ()) most = (0, (l, i, at', er, ())) := if_pos hb
    (repeat (first | refine AWP.seq ?_ | refine AWP.skip ?_ | refine AWP.label ?_ | refine AWP.exit ?_ | refine AWP.block ?_ | refine AWP.region hX kPL_ok rfl trivial ?_ | refine AWP.region hX kPL_ok rfl id ?_ | refine AWP.region hX kPL_ok rfl ⟨id, id⟩ ?_))
    refine AWP.ret ⟨.inr rfl, ?_, done1 rfl trivial rfl rfl ?_⟩
    · show some (OObj.box rr (l, i, at', er, ())) = some (OObj.box rr (numS (l, i, at', er, ()) most).2)
      rw [hS]
    · show (0 : Int) = (numS (l, i, at', er, ()) most).1
      rw [hS]
  have hb : (!decide (er = 0)) = false := hb
  simp at hb
  subst hb
  have hI : 0 ≤ i ∧ i < (l.length : Nat) := hp.resolve_left fun h => h rfl
  have hS : numS (l, i, at', 0, ()) most = if (num (wT (l.getD i.toNat zW))).2.1 = false then (0, failS (l, i, at', 0, ()) 3) else if (num (wT (l.getD i.toNat zW))).1 > most then (0, failS (l, i, at', 0, ()) 1) else ((num (wT (l.getD i.toNat zW))).1, (l, i + 1, at', 0, ())) := by
    unfold numS
    rw [if_neg (fun h => h rfl)]
    rfl
  generalize hN : num (wT (l.getD i.toNat zW)) = N at hS
  obtain ⟨(x : Int), (ok : Bool), _⟩ := N
  have q1 : i < (l.length : Nat) := hI.2
  have cs : allP [0 ≤ i, i < (l.length : Nat)] := ⟨hI.1, q1⟩
  (repeat (first | refine AWP.seq ?_ | refine AWP.skip ?_ | refine AWP.block ?_ | refine AWP.exit ?_)); refine AWP.orders (σ' := ⟨[(0, ⟨.optr rr, ⟨0, rr, .here⟩⟩), (1, ⟨i64, most⟩), (5, ⟨i64, x⟩), (6, ⟨.bool, ok⟩)], [(0, some (.box rr (l, i, at', 0, ())))], 1⟩) dM hX kPL_ok 17 rfl (by kernel_rfl) [[0, 1, 2, 3, 4, 5, 6, 7, 8, 9, 10, 11, 12, 13, 14, 15, 16], [0, 1, 2, 3, 4, 5, 6, 7, 8, 9, 10, 11, 12, 13, 15, 14, 16], [0, 1, 2, 3, 4, 5, 6, 7, 8, 9, 10, 11, 12, 14, 13, 15, 16], [0, 1, 2, 4, 3, 5, 6, 7, 8, 9, 10, 11, 12, 13, 14, 15, 16], [0, 1, 2, 4, 3, 5, 6, 7, 8, 9, 10, 11, 12, 13, 15, 14, 16], [0, 1, 2, 4, 3, 5, 6, 7, 8, 9, 10, 11, 12, 14, 13, 15, 16], [0, 1, 2, 4, 5, 3, 6, 7, 8, 9, 10, 11, 12, 13, 14, 15, 16], [0, 1, 2, 4, 5, 3, 6, 7, 8, 9, 10, 11, 12, 13, 15, 14, 16], [0, 1, 2, 4, 5, 3, 6, 7, 8, 9, 10, 11, 12, 14, 13, 15, 16], [0, 1, 2, 4, 5, 6, 3, 7, 8, 9, 10, 11, 12, 13, 14, 15, 16], [0, 1, 2, 4, 5, 6, 3, 7, 8, 9, 10, 11, 12, 13, 15, 14, 16], [0, 1, 2, 4, 5, 6, 3, 7, 8, 9, 10, 11, 12, 14, 13, 15, 16], [0, 1, 2, 4, 5, 6, 7, 3, 8, 9, 10, 11, 12, 13, 14, 15, 16], [0, 1, 2, 4, 5, 6, 7, 3, 8, 9, 10, 11, 12, 13, 15, 14, 16], [0, 1, 2, 4, 5, 6, 7, 3, 8, 9, 10, 11, 12, 14, 13, 15, 16], [0, 1, 4, 2, 3, 5, 6, 7, 8, 9, 10, 11, 12, 13, 14, 15, 16], [0, 1, 4, 2, 3, 5, 6, 7, 8, 9, 10, 11, 12, 13, 15, 14, 16], [0, 1, 4, 2, 3, 5, 6, 7, 8, 9, 10, 11, 12, 14, 13, 15, 16], [0, 1, 4, 2, 5, 3, 6, 7, 8, 9, 10, 11, 12, 13, 14, 15, 16], [0, 1, 4, 2, 5, 3, 6, 7, 8, 9, 10, 11, 12, 13, 15, 14, 16], [0, 1, 4, 2, 5, 3, 6, 7, 8, 9, 10, 11, 12, 14, 13, 15, 16], [0, 1, 4, 2, 5, 6, 3, 7, 8, 9, 10, 11, 12, 13, 14, 15, 16], [0, 1, 4, 2, 5, 6, 3, 7, 8, 9, 10, 11, 12, 13, 15, 14, 16], [0, 1, 4, 2, 5, 6, 3, 7, 8, 9, 10, 11, 12, 14, 13, 15, 16], [0, 1, 4, 2, 5, 6, 7, 3, 8, 9, 10, 11, 12, 13, 14, 15, 16], [0, 1, 4, 2, 5, 6, 7, 3, 8, 9, 10, 11, 12, 13, 15, 14, 16], [0, 1, 4, 2, 5, 6, 7, 3, 8, 9, 10, 11, 12, 14, 13, 15, 16], [0, 1, 4, 5, 2, 3, 6, 7, 8, 9, 10, 11, 12, 13, 14, 15, 16], [0, 1, 4, 5, 2, 3, 6, 7, 8, 9, 10, 11, 12, 13, 15, 14, 16], [0, 1, 4, 5, 2, 3, 6, 7, 8, 9, 10, 11, 12, 14, 13, 15, 16], [0, 1, 4, 5, 2, 6, 3, 7, 8, 9, 10, 11, 12, 13, 14, 15, 16], [0, 1, 4, 5, 2, 6, 3, 7, 8, 9, 10, 11, 12, 13, 15, 14, 16], [0, 1, 4, 5, 2, 6, 3, 7, 8, 9, 10, 11, 12, 14, 13, 15, 16], [0, 1, 4, 5, 2, 6, 7, 3, 8, 9, 10, 11, 12, 13, 14, 15, 16], [0, 1, 4, 5, 2, 6, 7, 3, 8, 9, 10, 11, 12, 13, 15, 14, 16], [0, 1, 4, 5, 2, 6, 7, 3, 8, 9, 10, 11, 12, 14, 13, 15, 16], [0, 1, 4, 5, 6, 2, 3, 7, 8, 9, 10, 11, 12, 13, 14, 15, 16], [0, 1, 4, 5, 6, 2, 3, 7, 8, 9, 10, 11, 12, 13, 15, 14, 16], [0, 1, 4, 5, 6, 2, 3, 7, 8, 9, 10, 11, 12, 14, 13, 15, 16], [0, 1, 4, 5, 6, 2, 7, 3, 8, 9, 10, 11, 12, 13, 14, 15, 16], [0, 1, 4, 5, 6, 2, 7, 3, 8, 9, 10, 11, 12, 13, 15, 14, 16], [0, 1, 4, 5, 6, 2, 7, 3, 8, 9, 10, 11, 12, 14, 13, 15, 16], [0, 1, 4, 5, 6, 7, 2, 3, 8, 9, 10, 11, 12, 13, 14, 15, 16], [0, 1, 4, 5, 6, 7, 2, 3, 8, 9, 10, 11, 12, 13, 15, 14, 16], [0, 1, 4, 5, 6, 7, 2, 3, 8, 9, 10, 11, 12, 14, 13, 15, 16], [0, 4, 1, 2, 3, 5, 6, 7, 8, 9, 10, 11, 12, 13, 14, 15, 16], [0, 4, 1, 2, 3, 5, 6, 7, 8, 9, 10, 11, 12, 13, 15, 14, 16], [0, 4, 1, 2, 3, 5, 6, 7, 8, 9, 10, 11, 12, 14, 13, 15, 16], [0, 4, 1, 2, 5, 3, 6, 7, 8, 9, 10, 11, 12, 13, 14, 15, 16], [0, 4, 1, 2, 5, 3, 6, 7, 8, 9, 10, 11, 12, 13, 15, 14, 16], [0, 4, 1, 2, 5, 3, 6, 7, 8, 9, 10, 11, 12, 14, 13, 15, 16], [0, 4, 1, 2, 5, 6, 3, 7, 8, 9, 10, 11, 12, 13, 14, 15, 16], [0, 4, 1, 2, 5, 6, 3, 7, 8, 9, 10, 11, 12, 13, 15, 14, 16], [0, 4, 1, 2, 5, 6, 3, 7, 8, 9, 10, 11, 12, 14, 13, 15, 16], [0, 4, 1, 2, 5, 6, 7, 3, 8, 9, 10, 11, 12, 13, 14, 15, 16], [0, 4, 1, 2, 5, 6, 7, 3, 8, 9, 10, 11, 12, 13, 15, 14, 16], [0, 4, 1, 2, 5, 6, 7, 3, 8, 9, 10, 11, 12, 14, 13, 15, 16], [0, 4, 1, 5, 2, 3, 6, 7, 8, 9, 10, 11, 12, 13, 14, 15, 16], [0, 4, 1, 5, 2, 3, 6, 7, 8, 9, 10, 11, 12, 13, 15, 14, 16], [0, 4, 1, 5, 2, 3, 6, 7, 8, 9, 10, 11, 12, 14, 13, 15, 16], [0, 4, 1, 5, 2, 6, 3, 7, 8, 9, 10, 11, 12, 13, 14, 15, 16], [0, 4, 1, 5, 2, 6, 3, 7, 8, 9, 10, 11, 12, 13, 15, 14, 16], [0, 4, 1, 5, 2, 6, 3, 7, 8, 9, 10, 11, 12, 14, 13, 15, 16], [0, 4, 1, 5, 2, 6, 7, 3, 8, 9, 10, 11, 12, 13, 14, 15, 16], [0, 4, 1, 5, 2, 6, 7, 3, 8, 9, 10, 11, 12, 13, 15, 14, 16], [0, 4, 1, 5, 2, 6, 7, 3, 8, 9, 10, 11, 12, 14, 13, 15, 16], [0, 4, 1, 5, 6, 2, 3, 7, 8, 9, 10, 11, 12, 13, 14, 15, 16], [0, 4, 1, 5, 6, 2, 3, 7, 8, 9, 10, 11, 12, 13, 15, 14, 16], [0, 4, 1, 5, 6, 2, 3, 7, 8, 9, 10, 11, 12, 14, 13, 15, 16], [0, 4, 1, 5, 6, 2, 7, 3, 8, 9, 10, 11, 12, 13, 14, 15, 16], [0, 4, 1, 5, 6, 2, 7, 3, 8, 9, 10, 11, 12, 13, 15, 14, 16], [0, 4, 1, 5, 6, 2, 7, 3, 8, 9, 10, 11, 12, 14, 13, 15, 16], [0, 4, 1, 5, 6, 7, 2, 3, 8, 9, 10, 11, 12, 13, 14, 15, 16], [0, 4, 1, 5, 6, 7, 2, 3, 8, 9, 10, 11, 12, 13, 15, 14, 16], [0, 4, 1, 5, 6, 7, 2, 3, 8, 9, 10, 11, 12, 14, 13, 15, 16], [0, 4, 5, 1, 2, 3, 6, 7, 8, 9, 10, 11, 12, 13, 14, 15, 16], [0, 4, 5, 1, 2, 3, 6, 7, 8, 9, 10, 11, 12, 13, 15, 14, 16], [0, 4, 5, 1, 2, 3, 6, 7, 8, 9, 10, 11, 12, 14, 13, 15, 16], [0, 4, 5, 1, 2, 6, 3, 7, 8, 9, 10, 11, 12, 13, 14, 15, 16], [0, 4, 5, 1, 2, 6, 3, 7, 8, 9, 10, 11, 12, 13, 15, 14, 16], [0, 4, 5, 1, 2, 6, 3, 7, 8, 9, 10, 11, 12, 14, 13, 15, 16], [0, 4, 5, 1, 2, 6, 7, 3, 8, 9, 10, 11, 12, 13, 14, 15, 16], [0, 4, 5, 1, 2, 6, 7, 3, 8, 9, 10, 11, 12, 13, 15, 14, 16], [0, 4, 5, 1, 2, 6, 7, 3, 8, 9, 10, 11, 12, 14, 13, 15, 16], [0, 4, 5, 1, 6, 2, 3, 7, 8, 9, 10, 11, 12, 13, 14, 15, 16], [0, 4, 5, 1, 6, 2, 3, 7, 8, 9, 10, 11, 12, 13, 15, 14, 16], [0, 4, 5, 1, 6, 2, 3, 7, 8, 9, 10, 11, 12, 14, 13, 15, 16], [0, 4, 5, 1, 6, 2, 7, 3, 8, 9, 10, 11, 12, 13, 14, 15, 16], [0, 4, 5, 1, 6, 2, 7, 3, 8, 9, 10, 11, 12, 13, 15, 14, 16], [0, 4, 5, 1, 6, 2, 7, 3, 8, 9, 10, 11, 12, 14, 13, 15, 16], [0, 4, 5, 1, 6, 7, 2, 3, 8, 9, 10, 11, 12, 13, 14, 15, 16], [0, 4, 5, 1, 6, 7, 2, 3, 8, 9, 10, 11, 12, 13, 15, 14, 16], [0, 4, 5, 1, 6, 7, 2, 3, 8, 9, 10, 11, 12, 14, 13, 15, 16], [0, 4, 5, 6, 1, 2, 3, 7, 8, 9, 10, 11, 12, 13, 14, 15, 16], [0, 4, 5, 6, 1, 2, 3, 7, 8, 9, 10, 11, 12, 13, 15, 14, 16], [0, 4, 5, 6, 1, 2, 3, 7, 8, 9, 10, 11, 12, 14, 13, 15, 16], [0, 4, 5, 6, 1, 2, 7, 3, 8, 9, 10, 11, 12, 13, 14, 15, 16], [0, 4, 5, 6, 1, 2, 7, 3, 8, 9, 10, 11, 12, 13, 15, 14, 16], [0, 4, 5, 6, 1, 2, 7, 3, 8, 9, 10, 11, 12, 14, 13, 15, 16], [0, 4, 5, 6, 1, 7, 2, 3, 8, 9, 10, 11, 12, 13, 14, 15, 16], [0, 4, 5, 6, 1, 7, 2, 3, 8, 9, 10, 11, 12, 13, 15, 14, 16], [0, 4, 5, 6, 1, 7, 2, 3, 8, 9, 10, 11, 12, 14, 13, 15, 16], [0, 4, 5, 6, 7, 1, 2, 3, 8, 9, 10, 11, 12, 13, 14, 15, 16], [0, 4, 5, 6, 7, 1, 2, 3, 8, 9, 10, 11, 12, 13, 15, 14, 16], [0, 4, 5, 6, 7, 1, 2, 3, 8, 9, 10, 11, 12, 14, 13, 15, 16], [4, 0, 1, 2, 3, 5, 6, 7, 8, 9, 10, 11, 12, 13, 14, 15, 16], [4, 0, 1, 2, 3, 5, 6, 7, 8, 9, 10, 11, 12, 13, 15, 14, 16], [4, 0, 1, 2, 3, 5, 6, 7, 8, 9, 10, 11, 12, 14, 13, 15, 16], [4, 0, 1, 2, 5, 3, 6, 7, 8, 9, 10, 11, 12, 13, 14, 15, 16], [4, 0, 1, 2, 5, 3, 6, 7, 8, 9, 10, 11, 12, 13, 15, 14, 16], [4, 0, 1, 2, 5, 3, 6, 7, 8, 9, 10, 11, 12, 14, 13, 15, 16], [4, 0, 1, 2, 5, 6, 3, 7, 8, 9, 10, 11, 12, 13, 14, 15, 16], [4, 0, 1, 2, 5, 6, 3, 7, 8, 9, 10, 11, 12, 13, 15, 14, 16], [4, 0, 1, 2, 5, 6, 3, 7, 8, 9, 10, 11, 12, 14, 13, 15, 16], [4, 0, 1, 2, 5, 6, 7, 3, 8, 9, 10, 11, 12, 13, 14, 15, 16], [4, 0, 1, 2, 5, 6, 7, 3, 8, 9, 10, 11, 12, 13, 15, 14, 16], [4, 0, 1, 2, 5, 6, 7, 3, 8, 9, 10, 11, 12, 14, 13, 15, 16], [4, 0, 1, 5, 2, 3, 6, 7, 8, 9, 10, 11, 12, 13, 14, 15, 16], [4, 0, 1, 5, 2, 3, 6, 7, 8, 9, 10, 11, 12, 13, 15, 14, 16], [4, 0, 1, 5, 2, 3, 6, 7, 8, 9, 10, 11, 12, 14, 13, 15, 16], [4, 0, 1, 5, 2, 6, 3, 7, 8, 9, 10, 11, 12, 13, 14, 15, 16], [4, 0, 1, 5, 2, 6, 3, 7, 8, 9, 10, 11, 12, 13, 15, 14, 16], [4, 0, 1, 5, 2, 6, 3, 7, 8, 9, 10, 11, 12, 14, 13, 15, 16], [4, 0, 1, 5, 2, 6, 7, 3, 8, 9, 10, 11, 12, 13, 14, 15, 16], [4, 0, 1, 5, 2, 6, 7, 3, 8, 9, 10, 11, 12, 13, 15, 14, 16], [4, 0, 1, 5, 2, 6, 7, 3, 8, 9, 10, 11, 12, 14, 13, 15, 16], [4, 0, 1, 5, 6, 2, 3, 7, 8, 9, 10, 11, 12, 13, 14, 15, 16], [4, 0, 1, 5, 6, 2, 3, 7, 8, 9, 10, 11, 12, 13, 15, 14, 16], [4, 0, 1, 5, 6, 2, 3, 7, 8, 9, 10, 11, 12, 14, 13, 15, 16], [4, 0, 1, 5, 6, 2, 7, 3, 8, 9, 10, 11, 12, 13, 14, 15, 16], [4, 0, 1, 5, 6, 2, 7, 3, 8, 9, 10, 11, 12, 13, 15, 14, 16], [4, 0, 1, 5, 6, 2, 7, 3, 8, 9, 10, 11, 12, 14, 13, 15, 16], [4, 0, 1, 5, 6, 7, 2, 3, 8, 9, 10, 11, 12, 13, 14, 15, 16], [4, 0, 1, 5, 6, 7, 2, 3, 8, 9, 10, 11, 12, 13, 15, 14, 16], [4, 0, 1, 5, 6, 7, 2, 3, 8, 9, 10, 11, 12, 14, 13, 15, 16], [4, 0, 5, 1, 2, 3, 6, 7, 8, 9, 10, 11, 12, 13, 14, 15, 16], [4, 0, 5, 1, 2, 3, 6, 7, 8, 9, 10, 11, 12, 13, 15, 14, 16], [4, 0, 5, 1, 2, 3, 6, 7, 8, 9, 10, 11, 12, 14, 13, 15, 16], [4, 0, 5, 1, 2, 6, 3, 7, 8, 9, 10, 11, 12, 13, 14, 15, 16], [4, 0, 5, 1, 2, 6, 3, 7, 8, 9, 10, 11, 12, 13, 15, 14, 16], [4, 0, 5, 1, 2, 6, 3, 7, 8, 9, 10, 11, 12, 14, 13, 15, 16], [4, 0, 5, 1, 2, 6, 7, 3, 8, 9, 10, 11, 12, 13, 14, 15, 16], [4, 0, 5, 1, 2, 6, 7, 3, 8, 9, 10, 11, 12, 13, 15, 14, 16], [4, 0, 5, 1, 2, 6, 7, 3, 8, 9, 10, 11, 12, 14, 13, 15, 16], [4, 0, 5, 1, 6, 2, 3, 7, 8, 9, 10, 11, 12, 13, 14, 15, 16], [4, 0, 5, 1, 6, 2, 3, 7, 8, 9, 10, 11, 12, 13, 15, 14, 16], [4, 0, 5, 1, 6, 2, 3, 7, 8, 9, 10, 11, 12, 14, 13, 15, 16], [4, 0, 5, 1, 6, 2, 7, 3, 8, 9, 10, 11, 12, 13, 14, 15, 16], [4, 0, 5, 1, 6, 2, 7, 3, 8, 9, 10, 11, 12, 13, 15, 14, 16], [4, 0, 5, 1, 6, 2, 7, 3, 8, 9, 10, 11, 12, 14, 13, 15, 16], [4, 0, 5, 1, 6, 7, 2, 3, 8, 9, 10, 11, 12, 13, 14, 15, 16], [4, 0, 5, 1, 6, 7, 2, 3, 8, 9, 10, 11, 12, 13, 15, 14, 16], [4, 0, 5, 1, 6, 7, 2, 3, 8, 9, 10, 11, 12, 14, 13, 15, 16], [4, 0, 5, 6, 1, 2, 3, 7, 8, 9, 10, 11, 12, 13, 14, 15, 16], [4, 0, 5, 6, 1, 2, 3, 7, 8, 9, 10, 11, 12, 13, 15, 14, 16], [4, 0, 5, 6, 1, 2, 3, 7, 8, 9, 10, 11, 12, 14, 13, 15, 16], [4, 0, 5, 6, 1, 2, 7, 3, 8, 9, 10, 11, 12, 13, 14, 15, 16], [4, 0, 5, 6, 1, 2, 7, 3, 8, 9, 10, 11, 12, 13, 15, 14, 16], [4, 0, 5, 6, 1, 2, 7, 3, 8, 9, 10, 11, 12, 14, 13, 15, 16], [4, 0, 5, 6, 1, 7, 2, 3, 8, 9, 10, 11, 12, 13, 14, 15, 16], [4, 0, 5, 6, 1, 7, 2, 3, 8, 9, 10, 11, 12, 13, 15, 14, 16], [4, 0, 5, 6, 1, 7, 2, 3, 8, 9, 10, 11, 12, 14, 13, 15, 16], [4, 0, 5, 6, 7, 1, 2, 3, 8, 9, 10, 11, 12, 13, 14, 15, 16], [4, 0, 5, 6, 7, 1, 2, 3, 8, 9, 10, 11, 12, 13, 15, 14, 16], [4, 0, 5, 6, 7, 1, 2, 3, 8, 9, 10, 11, 12, 14, 13, 15, 16], [4, 5, 0, 1, 2, 3, 6, 7, 8, 9, 10, 11, 12, 13, 14, 15, 16], [4, 5, 0, 1, 2, 3, 6, 7, 8, 9, 10, 11, 12, 13, 15, 14, 16], [4, 5, 0, 1, 2, 3, 6, 7, 8, 9, 10, 11, 12, 14, 13, 15, 16], [4, 5, 0, 1, 2, 6, 3, 7, 8, 9, 10, 11, 12, 13, 14, 15, 16], [4, 5, 0, 1, 2, 6, 3, 7, 8, 9, 10, 11, 12, 13, 15, 14, 16], [4, 5, 0, 1, 2, 6, 3, 7, 8, 9, 10, 11, 12, 14, 13, 15, 16], [4, 5, 0, 1, 2, 6, 7, 3, 8, 9, 10, 11, 12, 13, 14, 15, 16], [4, 5, 0, 1, 2, 6, 7, 3, 8, 9, 10, 11, 12, 13, 15, 14, 16], [4, 5, 0, 1, 2, 6, 7, 3, 8, 9, 10, 11, 12, 14, 13, 15, 16], [4, 5, 0, 1, 6, 2, 3, 7, 8, 9, 10, 11, 12, 13, 14, 15, 16], [4, 5, 0, 1, 6, 2, 3, 7, 8, 9, 10, 11, 12, 13, 15, 14, 16], [4, 5, 0, 1, 6, 2, 3, 7, 8, 9, 10, 11, 12, 14, 13, 15, 16], [4, 5, 0, 1, 6, 2, 7, 3, 8, 9, 10, 11, 12, 13, 14, 15, 16], [4, 5, 0, 1, 6, 2, 7, 3, 8, 9, 10, 11, 12, 13, 15, 14, 16], [4, 5, 0, 1, 6, 2, 7, 3, 8, 9, 10, 11, 12, 14, 13, 15, 16], [4, 5, 0, 1, 6, 7, 2, 3, 8, 9, 10, 11, 12, 13, 14, 15, 16], [4, 5, 0, 1, 6, 7, 2, 3, 8, 9, 10, 11, 12, 13, 15, 14, 16], [4, 5, 0, 1, 6, 7, 2, 3, 8, 9, 10, 11, 12, 14, 13, 15, 16], [4, 5, 0, 6, 1, 2, 3, 7, 8, 9, 10, 11, 12, 13, 14, 15, 16], [4, 5, 0, 6, 1, 2, 3, 7, 8, 9, 10, 11, 12, 13, 15, 14, 16], [4, 5, 0, 6, 1, 2, 3, 7, 8, 9, 10, 11, 12, 14, 13, 15, 16], [4, 5, 0, 6, 1, 2, 7, 3, 8, 9, 10, 11, 12, 13, 14, 15, 16], [4, 5, 0, 6, 1, 2, 7, 3, 8, 9, 10, 11, 12, 13, 15, 14, 16], [4, 5, 0, 6, 1, 2, 7, 3, 8, 9, 10, 11, 12, 14, 13, 15, 16], [4, 5, 0, 6, 1, 7, 2, 3, 8, 9, 10, 11, 12, 13, 14, 15, 16], [4, 5, 0, 6, 1, 7, 2, 3, 8, 9, 10, 11, 12, 13, 15, 14, 16], [4, 5, 0, 6, 1, 7, 2, 3, 8, 9, 10, 11, 12, 14, 13, 15, 16], [4, 5, 0, 6, 7, 1, 2, 3, 8, 9, 10, 11, 12, 13, 14, 15, 16], [4, 5, 0, 6, 7, 1, 2, 3, 8, 9, 10, 11, 12, 13, 15, 14, 16], [4, 5, 0, 6, 7, 1, 2, 3, 8, 9, 10, 11, 12, 14, 13, 15, 16], [4, 5, 6, 0, 1, 2, 3, 7, 8, 9, 10, 11, 12, 13, 14, 15, 16], [4, 5, 6, 0, 1, 2, 3, 7, 8, 9, 10, 11, 12, 13, 15, 14, 16], [4, 5, 6, 0, 1, 2, 3, 7, 8, 9, 10, 11, 12, 14, 13, 15, 16], [4, 5, 6, 0, 1, 2, 7, 3, 8, 9, 10, 11, 12, 13, 14, 15, 16], [4, 5, 6, 0, 1, 2, 7, 3, 8, 9, 10, 11, 12, 13, 15, 14, 16], [4, 5, 6, 0, 1, 2, 7, 3, 8, 9, 10, 11, 12, 14, 13, 15, 16], [4, 5, 6, 0, 1, 7, 2, 3, 8, 9, 10, 11, 12, 13, 14, 15, 16], [4, 5, 6, 0, 1, 7, 2, 3, 8, 9, 10, 11, 12, 13, 15, 14, 16], [4, 5, 6, 0, 1, 7, 2, 3, 8, 9, 10, 11, 12, 14, 13, 15, 16], [4, 5, 6, 0, 7, 1, 2, 3, 8, 9, 10, 11, 12, 13, 14, 15, 16], [4, 5, 6, 0, 7, 1, 2, 3, 8, 9, 10, 11, 12, 13, 15, 14, 16], [4, 5, 6, 0, 7, 1, 2, 3, 8, 9, 10, 11, 12, 14, 13, 15, 16], [4, 5, 6, 7, 0, 1, 2, 3, 8, 9, 10, 11, 12, 13, 14, 15, 16], [4, 5, 6, 7, 0, 1, 2, 3, 8, 9, 10, 11, 12, 13, 15, 14, 16], [4, 5, 6, 7, 0, 1, 2, 3, 8, 9, 10, 11, 12, 14, 13, 15, 16]] (by kernel_rfl) ?_ ?_
  · repeat' (first | exact AllL.nil | exact cs | refine AllL.cons (LinOk.mk rfl ?_ ⟨⟨rfl, rfl, vI64 (congrArg (fun z => z.1) hN), vBool (congrArg (fun z => z.2.1) hN), trivial⟩, ⟨rfl, trivial⟩, rfl, rfl⟩) ?_)
  (repeat (first | refine AWP.seq ?_ | refine AWP.skip ?_ | refine AWP.label ?_ | refine AWP.exit ?_ | refine AWP.block ?_ | refine AWP.region hX kPL_ok rfl trivial ?_ | refine AWP.region hX kPL_ok rfl id ?_ | refine AWP.region hX kPL_ok rfl ⟨id, id⟩ ?_))
  refine AWP.cond rfl (fun hb => ?_) (fun hb => ?_)
  · have hb : (!ok) = true := hb
    have hok : ok = false := by simpa using hb
    rw [if_pos hok] at hS
    (repeat (first | refine AWP.seq ?_ | refine AWP.skip ?_ | refine AWP.block ?_ | refine AWP.exit ?_)); refine AWP.region hX kPL_ok rfl ?_ ?_
    · exact hp
    (repeat (first | refine AWP.seq ?_ | refine AWP.skip ?_ | refine AWP.label ?_ | refine AWP.exit ?_ | refine AWP.block ?_ | refine AWP.region hX kPL_ok rfl trivial ?_ | refine AWP.region hX kPL_ok rfl id ?_ | refine AWP.region hX kPL_ok rfl ⟨id, id⟩ ?_))
    refine AWP.ret ⟨.inr rfl, ?_, done1 rfl trivial rfl rfl ?_⟩
    · show some (OObj.box rr (failS (l, i, at', 0, ()) 3)) = some (OObj.box rr (numS (l, i, at', 0, ()) most).2)
      rw [hS]
    · show (0 : Int) = (numS (l, i, at', 0, ()) most).1
      rw [hS]
  have hb : (!ok) = false := hb
  have hok : ¬ ok = false := by simpa using hb
  rw [if_neg hok] at hS
  (repeat (first | refine AWP.seq ?_ | refine AWP.skip ?_ | refine AWP.label ?_ | refine AWP.exit ?_ | refine AWP.block ?_ | refine AWP.region hX kPL_ok rfl trivial ?_ | refine AWP.region hX kPL_ok rfl id ?_ | refine AWP.region hX kPL_ok rfl ⟨id, id⟩ ?_))
  refine AWP.cond rfl (fun hb => ?_) (fun hb => ?_)
  · have hb : decide (x > most) = true := hb
    have hb := of_decide_eq_true hb
    rw [if_pos hb] at hS
    (repeat (first | refine AWP.seq ?_ | refine AWP.skip ?_ | refine AWP.block ?_ | refine AWP.exit ?_)); refine AWP.region hX kPL_ok rfl ?_ ?_
    · exact hp
    (repeat (first | refine AWP.seq ?_ | refine AWP.skip ?_ | refine AWP.label ?_ | refine AWP.exit ?_ | refine AWP.block ?_ | refine AWP.region hX kPL_ok rfl trivial ?_ | refine AWP.region hX kPL_ok rfl id ?_ | refine AWP.region hX kPL_ok rfl ⟨id, id⟩ ?_))
    refine AWP.ret ⟨.inr rfl, ?_, done1 rfl trivial rfl rfl ?_⟩
    · show some (OObj.box rr (failS (l, i, at', 0, ()) 1)) = some (OObj.box rr (numS (l, i, at', 0, ()) most).2)
      rw [hS]
    · show (0 : Int) = (numS (l, i, at', 0, ()) most).1
      rw [hS]
  · have hb : decide (x > most) = false := hb
    have hb := of_decide_eq_false hb
    rw [if_neg hb] at hS
    (repeat (first | refine AWP.seq ?_ | refine AWP.skip ?_ | refine AWP.block ?_ | refine AWP.exit ?_)); refine AWP.region hX kPL_ok rfl ?_ ?_
    · exact inR_small (by show _ ≤ i + 1; omega) (by show i + 1 ≤ _; omega)
    (repeat (first | refine AWP.seq ?_ | refine AWP.skip ?_ | refine AWP.label ?_ | refine AWP.exit ?_ | refine AWP.block ?_ | refine AWP.region hX kPL_ok rfl trivial ?_ | refine AWP.region hX kPL_ok rfl id ?_ | refine AWP.region hX kPL_ok rfl ⟨id, id⟩ ?_))
    refine AWP.ret ⟨.inr rfl, ?_, done1 rfl trivial rfl rfl ?_⟩
    · show some (OObj.box rr (l, i + 1, at', 0, ())) = some (OObj.box rr (numS (l, i, at', 0, ()) most).2)
      rw [hS]
    · show x = (numS (l, i, at', 0, ()) most).1
      rw [hS]
end Go.Proofs.YthkhgpbjfcmopaaGreatDoor
