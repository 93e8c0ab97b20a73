/-
  The reference of chapter 23: Records, Append, Crash, Repair, Made.
-/
import Derived.Test.YtggappighcdbmaaDoorJRefA
namespace Go.Proofs.YtggappighcdbmaaDoor
open Go Go.RowKit
set_option linter.unusedSimpArgs false
set_option linter.unusedVariables false
set_option maxRecDepth 100000
theorem pay_eq (b : List UInt8) (a n : Nat) (h1 : 12 ≤ n) (h2 : n ≤ b.length - a) : List.drop ((a : Int) + 12).toNat (List.take ((a : Int) + (n : Int)).toNat b) = ((b.drop a).drop 12).take (n - 12) := by
  rw [show ((a : Int) + 12).toNat = a + 12 by omega, show ((a : Int) + (n : Int)).toNat = a + n by omega, List.drop_take, List.drop_drop]
  congr 1
  omega
def cRecsR : Ctr := { args := [bs], pre := fun x => [List.length x.1 ≤ 800000], res := .tup (.slice bs) (.tup i64 .unit), own := none, out := fun x => ((recs x.1).1, ((recs x.1).2 : Int), ()) }
def kR3 : Kn := { dK with C := [(38, cFirst)] }
theorem kR3_ok : KnOk Tryd.prog dG kR3 := dK_ok.with (.cons rfirst_ok .nil)
theorem rrecords_ok : CtrOk Tryd.prog dG 28 cRecsR := by
  refine ctr_of_awp (K := kR3) kR3_ok Tryd.func28 rfl rfl Tryd.call28 rfl (by decide) (by intro h; cases h) ?_
  rintro w0 X hX ⟨(b : List UInt8), _⟩ hp
  change AWP _ _ _ _ _ ⟨[(0, ⟨bs, b⟩)], [], 0⟩ _
  have hp : b.length ≤ 800000 := hp
  (repeat (first | refine AWP.seq ?_ | refine AWP.skip ?_ | refine AWP.block ?_ | refine AWP.exit ?_)); refine AWP.region hX kR3_ok rfl ?_ ?_
  · trivial
  (repeat (first | refine AWP.seq ?_ | refine AWP.skip ?_ | refine AWP.block ?_ | refine AWP.exit ?_)); refine AWP.region hX kR3_ok rfl ?_ ?_
  · trivial
  (repeat (first | refine AWP.seq ?_ | refine AWP.skip ?_ | refine AWP.block ?_ | refine AWP.exit ?_)); refine AWP.region hX kR3_ok rfl ?_ ?_
  · exact hp
  (repeat (first | refine AWP.seq ?_ | refine AWP.skip ?_ | refine AWP.label ?_ | refine AWP.exit ?_ | refine AWP.block ?_ | refine AWP.region hX kR3_ok rfl trivial ?_ | refine AWP.region hX kR3_ok rfl id ?_ | refine AWP.region hX kR3_ok rfl ⟨id, id⟩ ?_))
  refine AWP.loop (ι := Nat × List (List UInt8)) (fun i => ⟨[(0, ⟨bs, b⟩), (4, ⟨.obuf bs, (0 : Nat)⟩), (5, ⟨i64, (i.1 : Int)⟩), (6, ⟨i64, ((first (b.drop i.1) : Nat) : Int)⟩)], [(0, some (.buf 25 bs i.2))], 1⟩)
    (fun i => i.1 ≤ b.length ∧ i.2.length ≤ i.1 ∧ recs b = (i.2 ++ (recs (b.drop i.1)).1, i.1 + (recs (b.drop i.1)).2)) (fun i => b.length - i.1) (0, []) ⟨Nat.zero_le _, Nat.le_refl _, by simp⟩ ⟨⟨rfl, rfl, rfl, rfl, trivial⟩, ⟨rfl, trivial⟩, rfl, rfl⟩ ?_
  rintro ⟨at_, out⟩ ⟨hat, hol, hrec⟩
  simp only at hat hol hrec
  have hfl := first_le (b.drop at_)
  rw [List.length_drop] at hfl
  (repeat (first | refine AWP.seq ?_ | refine AWP.skip ?_ | refine AWP.block ?_ | refine AWP.exit ?_)); refine AWP.region hX kR3_ok rfl ?_ ?_
  · trivial
  refine AWP.cond rfl (fun hb => ?_) (fun hb => ?_)
  · have hb : decide ((0 : Int) < ((first (b.drop at_) : Nat) : Int)) = true := hb
    have hb := of_decide_eq_true hb
    have hne : first (b.drop at_) ≠ 0 := by omega
    obtain ⟨g1, g2, g3, g4, g5⟩ := first_some hne
    obtain ⟨n, hn⟩ : ∃ n, first (b.drop at_) = n := ⟨_, rfl⟩
    rw [hn] at hfl hb hne g1 g2 g3 g4 g5
    refine AWP.fit (σ' := ⟨[(0, ⟨bs, b⟩), (4, ⟨.obuf bs, (0 : Nat)⟩), (5, ⟨i64, (at_ : Int)⟩), (6, ⟨i64, (n : Int)⟩)], [(0, some (.buf 25 bs out))], 1⟩) ⟨⟨rfl, rfl, rfl, vI64 (congrArg (fun n : Nat => (n : Int)) hn), trivial⟩, ⟨rfl, trivial⟩, rfl, rfl⟩ ?_
    have d1 : inR .i64 ((at_ : Int) + 12) := inR_small (by omega) (by omega)
    have d2 : inR .i64 ((at_ : Int) + (n : Int)) := inR_small (by omega) (by omega)
    have hpay := pay_eq b at_ n g1 hfl
    have hpl : (List.drop ((at_ : Int) + 12).toNat (List.take ((at_ : Int) + (n : Int)).toNat b)).length = n - 12 := by rw [hpay, g5]
    (repeat (first | refine AWP.seq ?_ | refine AWP.skip ?_ | refine AWP.block ?_ | refine AWP.exit ?_)); refine AWP.region hX kR3_ok rfl ?_ ?_
    · refine ⟨d1, d2, by show (0 : Int) ≤ (at_ : Int) + 12; omega, by show (at_ : Int) + 12 ≤ (at_ : Int) + (n : Int); omega, by show (at_ : Int) + (n : Int) ≤ (b.length : Nat); omega, ?_⟩
      show 0 + (List.drop ((at_ : Int) + 12).toNat (List.take ((at_ : Int) + (n : Int)).toNat b)).length ≤ 1000000000
      rw [hpl]; omega
    refine AWP.fit (σ' := ⟨[(0, ⟨bs, b⟩), (4, ⟨.obuf bs, (0 : Nat)⟩), (5, ⟨i64, (at_ : Int)⟩), (6, ⟨i64, (n : Int)⟩), (7, ⟨.obuf u8, (1 : Nat)⟩)], [(0, some (.buf 25 bs out)), (1, some (.buf 5 u8 (((b.drop at_).drop 12).take (n - 12))))], 2⟩) ⟨⟨rfl, rfl, rfl, rfl, rfl, trivial⟩, ⟨rfl, bufEq hpay, trivial⟩, rfl, rfl⟩ ?_
    (repeat (first | refine AWP.seq ?_ | refine AWP.skip ?_ | refine AWP.block ?_ | refine AWP.exit ?_)); refine AWP.region hX kR3_ok rfl ?_ ?_
    · show out.length + 1 ≤ 1000000000
      omega
    (repeat (first | refine AWP.seq ?_ | refine AWP.skip ?_ | refine AWP.block ?_ | refine AWP.exit ?_)); refine AWP.region hX kR3_ok rfl ?_ ?_
    · exact d2
    (repeat (first | refine AWP.seq ?_ | refine AWP.skip ?_ | refine AWP.block ?_ | refine AWP.exit ?_)); refine AWP.region hX kR3_ok rfl ?_ ?_
    · refine ⟨by show (0 : Int) ≤ (at_ : Int) + (n : Int); omega, by show (at_ : Int) + (n : Int) ≤ (b.length : Nat); omega, ?_⟩
      show (List.drop ((at_ : Int) + (n : Int)).toNat b).length ≤ 800000
      rw [List.length_drop]; omega
    have hs : recs (b.drop at_) = (((b.drop at_).drop 12).take (n - 12) :: (recs ((b.drop at_).drop n)).1, n + (recs ((b.drop at_).drop n)).2) := by
      have := recs_some (b := b.drop at_) (by rw [hn]; exact hne)
      rw [hn] at this
      exact this
    rw [hs, show (b.drop at_).drop n = b.drop (at_ + n) from List.drop_drop ..] at hrec
    have hto : ((at_ : Int) + (n : Int)).toNat = at_ + n := by omega
    refine ⟨(at_ + n, out ++ [((b.drop at_).drop 12).take (n - 12)]), ⟨by show at_ + n ≤ b.length; omega, by rw [List.length_append, List.length_singleton]; show out.length + 1 ≤ at_ + n; omega, ?_⟩, by show b.length - (at_ + n) < b.length - at_; omega, ⟨rfl, rfl, vI64 (by show (at_ : Int) + (n : Int) = ((at_ + n : Nat) : Int); omega), vI64 (by rw [hto]; rfl), trivial⟩, ⟨bufEq rfl, trivial⟩, rfl, rfl⟩
    rw [hrec]
    simp only [List.append_assoc, List.singleton_append, Nat.add_assoc]
  · have hb : decide ((0 : Int) < ((first (b.drop at_) : Nat) : Int)) = false := hb
    have hb := of_decide_eq_false hb
    have hz : first (b.drop at_) = 0 := by omega
    rw [recs_none hz, List.append_nil, Nat.add_zero] at hrec
    (repeat (first | refine AWP.seq ?_ | refine AWP.skip ?_ | refine AWP.block ?_ | refine AWP.exit ?_)); refine AWP.region hX kR3_ok rfl ?_ ?_
    · trivial
    refine AWP.ret ⟨.inr rfl, done2 (by decide) rfl rfl trivial ?_⟩
    show (out, (at_ : Int), ()) = ((recs b).1, ((recs b).2 : Int), ())
    rw [hrec]
def cAppendS (m : Nat) : Ctr := { args := [jl, bs], pre := fun x => [List.length x.1.1 ≤ m, List.length x.2.1 ≤ m], res := .tup jl (.tup i64 .unit), own := none, out := fun x => appendS x.1 x.2.1 }
def kR4 : Kn := { dK with C := [(27, cValid), (28, cRecsR), (37, cRecord)] }
theorem kR4_ok : KnOk Tryd.prog dG kR4 := dK_ok.with (.cons rvalid_ok <| .cons rrecords_ok <| .cons rrecord_ok .nil)
theorem rappend_ok : CtrOk Tryd.prog dG 23 (cAppendS 800000) := by
  refine ctr_of_awp (K := kR4) kR4_ok Tryd.func23 rfl rfl Tryd.call23 rfl (by decide) (by intro h; cases h) ?_
  rintro w0 X hX ⟨(l : Lg), (b : List UInt8), _⟩ hp
  change AWP _ _ _ _ _ ⟨[(0, ⟨jl, l⟩), (1, ⟨bs, b⟩)], [], 0⟩ _
  obtain ⟨p1, p2⟩ : l.1.length ≤ 800000 ∧ b.length ≤ 800000 := hp
  (repeat (first | refine AWP.seq ?_ | refine AWP.skip ?_ | refine AWP.block ?_ | refine AWP.exit ?_)); refine AWP.region hX kR4_ok rfl ?_ ?_
  · trivial
  (repeat (first | refine AWP.seq ?_ | refine AWP.skip ?_ | refine AWP.block ?_ | refine AWP.exit ?_)); refine AWP.region hX kR4_ok rfl ?_ ?_
  · trivial
  (repeat (first | refine AWP.seq ?_ | refine AWP.skip ?_ | refine AWP.block ?_ | refine AWP.exit ?_)); refine AWP.region hX kR4_ok rfl ?_ ?_
  · trivial
  refine AWP.cond rfl (fun hb => ?_) (fun hb => ?_)
  · have hb : (!validL l) = true := hb
    have hv : ¬ validL l = true := by simpa using hb
    (repeat (first | refine AWP.seq ?_ | refine AWP.skip ?_ | refine AWP.label ?_ | refine AWP.exit ?_ | refine AWP.block ?_ | refine AWP.region hX kR4_ok rfl trivial ?_ | refine AWP.region hX kR4_ok rfl id ?_ | refine AWP.region hX kR4_ok rfl ⟨id, id⟩ ?_))
    refine AWP.ret ⟨.inr rfl, done2 (by decide) rfl rfl trivial ?_⟩
    show (zLog, (1 : Int), ()) = appendS l b
    unfold appendS
    rw [if_neg hv]
  have hb : (!validL l) = false := hb
  have hv : validL l = true := by simpa using hb
  (repeat (first | refine AWP.seq ?_ | refine AWP.skip ?_ | refine AWP.block ?_ | refine AWP.exit ?_)); refine AWP.region hX kR4_ok rfl ?_ ?_
  · exact p1
  (repeat (first | refine AWP.seq ?_ | refine AWP.skip ?_ | refine AWP.block ?_ | refine AWP.exit ?_)); refine AWP.region hX kR4_ok rfl ?_ ?_
  · trivial
  refine AWP.cond rfl (fun hb => ?_) (fun hb => ?_)
  · have hb : decide (((recs l.1).2 : Int) < (l.1.length : Nat)) = true := hb
    have hb := of_decide_eq_true hb
    (repeat (first | refine AWP.seq ?_ | refine AWP.skip ?_ | refine AWP.label ?_ | refine AWP.exit ?_ | refine AWP.block ?_ | refine AWP.region hX kR4_ok rfl trivial ?_ | refine AWP.region hX kR4_ok rfl id ?_ | refine AWP.region hX kR4_ok rfl ⟨id, id⟩ ?_))
    refine AWP.ret ⟨.inr rfl, done2 (by decide) rfl rfl trivial ?_⟩
    show (zLog, (10 : Int), ()) = appendS l b
    unfold appendS
    rw [if_pos hv, if_pos (by omega)]
  have hb : decide (((recs l.1).2 : Int) < (l.1.length : Nat)) = false := hb
  have hb1 := of_decide_eq_false hb
  (repeat (first | refine AWP.seq ?_ | refine AWP.skip ?_ | refine AWP.block ?_ | refine AWP.exit ?_)); refine AWP.region hX kR4_ok rfl ?_ ?_
  · exact ⟨inR_small (by show _ ≤ ((l.1.length : Nat) : Int) + 12; omega) (by show ((l.1.length : Nat) : Int) + 12 ≤ _; omega), inR_small (by show _ ≤ ((l.1.length : Nat) : Int) + 12 + (b.length : Nat); omega) (by show ((l.1.length : Nat) : Int) + 12 + (b.length : Nat) ≤ _; omega)⟩
  refine AWP.cond rfl (fun hb => ?_) (fun hb => ?_)
  · have hb : decide (((l.1.length : Nat) : Int) + 12 + (b.length : Nat) > 1048576) = true := hb
    have hb := of_decide_eq_true hb
    (repeat (first | refine AWP.seq ?_ | refine AWP.skip ?_ | refine AWP.label ?_ | refine AWP.exit ?_ | refine AWP.block ?_ | refine AWP.region hX kR4_ok rfl trivial ?_ | refine AWP.region hX kR4_ok rfl id ?_ | refine AWP.region hX kR4_ok rfl ⟨id, id⟩ ?_))
    refine AWP.ret ⟨.inr rfl, done2 (by decide) rfl rfl trivial ?_⟩
    show (zLog, (2 : Int), ()) = appendS l b
    unfold appendS
    rw [if_pos hv, if_neg (by omega), if_pos (by omega)]
  have hb : decide (((l.1.length : Nat) : Int) + 12 + (b.length : Nat) > 1048576) = false := hb
  have hb2 := of_decide_eq_false hb
  (repeat (first | refine AWP.seq ?_ | refine AWP.skip ?_ | refine AWP.block ?_ | refine AWP.exit ?_)); refine AWP.region hX kR4_ok rfl ?_ ?_
  · show 0 + l.1.length ≤ 1000000000
    omega
  (repeat (first | refine AWP.seq ?_ | refine AWP.skip ?_ | refine AWP.block ?_ | refine AWP.exit ?_)); refine AWP.region hX kR4_ok rfl ?_ ?_
  · refine ⟨p2, ?_⟩
    show l.1.length + (rcd b).length ≤ 1000000000
    rw [rcd_length]; omega
  (repeat (first | refine AWP.seq ?_ | refine AWP.skip ?_ | refine AWP.block ?_ | refine AWP.exit ?_)); refine AWP.region hX kR4_ok rfl ?_ ?_
  · trivial
  refine AWP.ret ⟨.inr rfl, done2 (by decide) rfl rfl trivial ?_⟩
  show ((l.1 ++ rcd b, l.2.1, ()), (0 : Int), ()) = appendS l b
  unfold appendS
  rw [if_pos hv, if_neg (by omega), if_neg (by omega)]
end Go.Proofs.YtggappighcdbmaaDoor
