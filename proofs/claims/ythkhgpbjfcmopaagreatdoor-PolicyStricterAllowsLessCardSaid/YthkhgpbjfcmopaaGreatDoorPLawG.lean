/-
  A stricter policy allows less: the statement.
-/
import Derived.Test.YthkhgpbjfcmopaaGreatDoorPLawB
namespace Go.Proofs.YthkhgpbjfcmopaaGreatDoor
open Go Go.RowKit
set_option linter.unusedSimpArgs false
set_option linter.unusedVariables false
set_option maxRecDepth 100000
theorem move_le {l m : List Gt} (hl : OkP l) (hm : OkP m) (h : allLe l m) {p : Int} {ts : List Int} {r : Int} (hr : move l p ts r = true) : move m p ts r = true := by
  have h3 := h p ts 3 (.inr (.inr rfl))
  rw [rank_val hl, rank_val hm] at h3
  unfold move at *
  rw [Bool.and_eq_true, decide_eq_true_iff, decide_eq_true_iff] at *
  omega
theorem book_le {l m : List Gt} (hl : OkP l) (hm : OkP m) (h : allLe l m) {p : Int} {ts : List Int} (hr : book l p ts = true) : book m p ts = true := by
  have h3 := h p ts 2 (.inr (.inl rfl))
  rw [book_val hl, book_val hm, if_pos hr] at h3
  cases hb : book m p ts with
  | true => rfl
  | false => rw [hb] at h3; exact absurd h3 (by decide)
theorem grain_le {l m : List Gt} (hl : OkP l) (hm : OkP m) (h : allLe l m) (p : Int) (ts : List Int) : grain l p ts ≤ grain m p ts := by
  have h3 := h p ts 1 (.inl rfl)
  rwa [← grain_val hl, ← grain_val hm] at h3
theorem pstr_refl {l : List Gt} (h : OkP l) : pstr l l = true := (pstr_allLe l l).2 ⟨h, h, allLe.refl l⟩
theorem odd_case (l m : List Gt) : (bif bif bif decide (OkP l) then decide (OkP m) else false then true else !pstr l l then true else !pstr m m) = true := by
  by_cases hl : OkP l
  · by_cases hm : OkP m
    · rw [decide_eq_true hl, decide_eq_true hm]; rfl
    · have : pstr m m = false := by
        cases h : pstr m m with
        | false => rfl
        | true => exact absurd ((pstr_allLe m m).1 h).1 hm
      rw [this]
      cases (bif bif decide (OkP l) then decide (OkP m) else false then true else !pstr l l) <;> rfl
  · have : pstr l l = false := by
      cases h : pstr l l with
      | false => rfl
      | true => exact absurd ((pstr_allLe l l).1 h).1 hl
    rw [this]
    cases (bif decide (OkP l) then decide (OkP m) else false) <;> rfl
def sLg (person : Int) (us ts : List Int) (x y : List Gt) (b : Bool) (k : Nat) : AS := ⟨[(5, ⟨.optr who, ⟨2, who, .here⟩⟩), (7, ⟨.bool, true⟩), (8, ⟨.optr po, ⟨3, po, .here⟩⟩), (9, ⟨.optr po, ⟨4, po, .here⟩⟩), (10, ⟨ints, us⟩), (11, ⟨.bool, b⟩), (12, ⟨i64, ((5 * k : Nat) : Int)⟩)], [(2, some (.box who (person, ts, ()))), (3, some (.box po (x, ()))), (4, some (.box po (y, ())))], 5⟩
set_option maxHeartbeats 1000000 in
theorem law7_ok : CtrOk Tryz.prog pH 9 (lawCtr [po, po, who]) := by
  refine ctr_of_awp (K := kLc) kLc_ok Tryz.func9 rfl rfl Tryz.call9 rfl (by decide) (by intro h; cases h) ?_
  rintro w0 X hX ⟨⟨(l : List Gt), _⟩, ⟨(m : List Gt), _⟩, ⟨(person : Int), (ts : List Int), _⟩, _⟩ hp
  change AWP _ _ _ _ _ ⟨[(0, ⟨po, (l, ())⟩), (1, ⟨po, (m, ())⟩), (2, ⟨who, (person, ts, ())⟩)], [], 0⟩ _
  (repeat (first | refine AWP.seq ?_ | refine AWP.skip ?_ | refine AWP.block ?_ | refine AWP.exit ?_)); refine AWP.region hX kLc_ok rfl ?_ ?_
  · trivial
  (repeat (first | refine AWP.seq ?_ | refine AWP.skip ?_ | refine AWP.block ?_ | refine AWP.exit ?_)); refine AWP.region hX kLc_ok rfl ?_ ?_
  · trivial
  (repeat (first | refine AWP.seq ?_ | refine AWP.skip ?_ | refine AWP.block ?_ | refine AWP.exit ?_)); refine AWP.drawN dM hX kLc_ok 8 (by kernel_rfl) rfl rfl ?_ ?_ ?_
  · trivial
  · trivial
  refine AWP.fit (σ' := ⟨[(5, ⟨.optr who, ⟨2, who, .here⟩⟩), (7, ⟨.bool, true⟩), (8, ⟨.optr po, ⟨3, po, .here⟩⟩), (9, ⟨.optr po, ⟨4, po, .here⟩⟩)], [(2, some (.box who (person, ts, ()))), (3, some (.box po (l.take (min ((l.length : Nat) : Int) 70).toNat, ()))), (4, some (.box po (m.take (min ((m.length : Nat) : Int) 70).toNat, ())))], 5⟩) ⟨⟨rfl, rfl, rfl, rfl, trivial⟩, ⟨rfl, rfl, rfl, trivial⟩, rfl, rfl⟩ ?_
  generalize l.take (min ((l.length : Nat) : Int) 70).toNat = x
  generalize m.take (min ((m.length : Nat) : Int) 70).toNat = y
  (repeat (first | refine AWP.seq ?_ | refine AWP.skip ?_ | refine AWP.block ?_ | refine AWP.exit ?_)); refine AWP.region hX kLc_ok rfl ?_ ?_
  · trivial
  refine AWP.fit (σ' := ⟨[(5, ⟨.optr who, ⟨2, who, .here⟩⟩), (7, ⟨.bool, true⟩), (8, ⟨.optr po, ⟨3, po, .here⟩⟩), (9, ⟨.optr po, ⟨4, po, .here⟩⟩), (10, ⟨ints, ts.take (min ((ts.length : Nat) : Int) 10).toNat⟩)], [(2, some (.box who (person, ts, ()))), (3, some (.box po (x, ()))), (4, some (.box po (y, ())))], 5⟩) ⟨⟨rfl, rfl, rfl, rfl, rfl, trivial⟩, ⟨rfl, rfl, rfl, trivial⟩, rfl, rfl⟩ ?_
  generalize ts.take (min ((ts.length : Nat) : Int) 10).toNat = us
  (repeat (first | refine AWP.seq ?_ | refine AWP.skip ?_ | refine AWP.block ?_ | refine AWP.exit ?_)); refine AWP.region hX kLc_ok rfl ?_ ?_
  · repeat' (first | exact trivial | assumption | (refine ⟨?_, ?_⟩) | (intro _))
  refine AWP.cond rfl (fun hb => ?_) (fun hb => ?_)
  · (repeat (first | refine AWP.seq ?_ | refine AWP.skip ?_ | refine AWP.block ?_ | refine AWP.exit ?_)); refine AWP.region hX kLc_ok rfl ?_ ?_
    · repeat' (first | exact trivial | assumption | (refine ⟨?_, ?_⟩) | (intro _))
    refine AWP.ret ⟨.inr rfl, done1 rfl trivial rfl rfl ?_⟩
    exact bif_true (odd_case x y) rfl
  · have hb : (!pstr x y) = false := hb
    have hs : pstr x y = true := by simpa using hb
    obtain ⟨hx, hy, hle⟩ := (pstr_allLe x y).1 hs
    (repeat (first | refine AWP.seq ?_ | refine AWP.skip ?_ | refine AWP.block ?_ | refine AWP.exit ?_)); refine AWP.region hX kLc_ok rfl ?_ ?_
    · repeat' (first | exact trivial | assumption | (refine ⟨?_, ?_⟩) | (intro _))
    have hbook : (bif !book x person us then true else book y person us) = true := bif_or (book_le hx hy hle)
    (repeat (first | refine AWP.seq ?_ | refine AWP.skip ?_ | refine AWP.block ?_ | refine AWP.exit ?_)); refine AWP.region hX kLc_ok rfl ?_ ?_
    · trivial
    (repeat (first | refine AWP.seq ?_ | refine AWP.skip ?_ | refine AWP.label ?_ | refine AWP.exit ?_ | refine AWP.block ?_ | refine AWP.region hX kLc_ok rfl trivial ?_ | refine AWP.region hX kLc_ok rfl id ?_ | refine AWP.region hX kLc_ok rfl ⟨id, id⟩ ?_))
    refine AWP.fit (σ' := sLg person us ts x y true 0) ⟨⟨rfl, rfl, rfl, rfl, rfl, vBool hbook, rfl, trivial⟩, ⟨rfl, rfl, rfl, trivial⟩, rfl, rfl⟩ ?_
    refine AWP.loop (ι := Nat) (sLg person us ts x y true) (fun k => k ≤ 21) (fun k => 21 - k) 0 (by omega) ⟨⟨rfl, rfl, rfl, rfl, rfl, rfl, rfl, trivial⟩, ⟨rfl, rfl, rfl, trivial⟩, rfl, rfl⟩ ?_
    intro k hk
    unfold sLg
    (repeat (first | refine AWP.seq ?_ | refine AWP.skip ?_ | refine AWP.block ?_ | refine AWP.exit ?_)); refine AWP.region hX kLc_ok rfl ?_ ?_
    · trivial
    refine AWP.cond rfl (fun hb => ?_) (fun hb => ?_)
    · have hb : decide (((5 * k : Nat) : Int) ≤ 100) = true := hb
      have hb := of_decide_eq_true hb
      (repeat (first | refine AWP.seq ?_ | refine AWP.skip ?_ | refine AWP.block ?_ | refine AWP.exit ?_)); refine AWP.region hX kLc_ok rfl ?_ ?_
      · repeat' (first | exact trivial | assumption | (refine ⟨?_, ?_⟩) | (intro _))
      refine AWP.cond rfl (fun hb => ?_) (fun hb => ?_)
      · exfalso
        have hb : (bif move x person us ((5 * k : Nat) : Int) then !move y person us ((5 * k : Nat) : Int) else false) = true := hb
        cases hm : move x person us ((5 * k : Nat) : Int) with
        | false => rw [hm] at hb; cases hb
        | true => rw [hm, move_le hx hy hle hm] at hb; cases hb
      · (repeat (first | refine AWP.seq ?_ | refine AWP.skip ?_ | refine AWP.block ?_ | refine AWP.exit ?_)); refine AWP.region hX kLc_ok rfl ?_ ?_
        · exact inR_small (by omega) (by omega)
        exact ⟨k + 1, by omega, by omega, ⟨rfl, rfl, rfl, rfl, rfl, rfl, vI64 (by omega), trivial⟩, ⟨rfl, rfl, rfl, trivial⟩, rfl, rfl⟩
    · (repeat (first | refine AWP.seq ?_ | refine AWP.skip ?_ | refine AWP.block ?_ | refine AWP.exit ?_)); refine AWP.draw dM hX kLc_ok 17 (by kernel_rfl) rfl rfl ?_ ?_ ?_
      · repeat' (first | exact trivial | assumption | (refine ⟨?_, ?_⟩) | (intro _))
      · trivial
      refine AWP.ret ⟨.inr rfl, done1 rfl trivial rfl rfl ?_⟩
      have hg : decide (grain x person us ≤ grain y person us) = true := decide_eq_true (grain_le hx hy hle person us)
      exact bif_true (bif_true rfl hg) rfl
end Go.Proofs.YthkhgpbjfcmopaaGreatDoor
