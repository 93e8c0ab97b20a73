/-
  Package letter: an answer is valid.
  Package letter: the writer of an answer.
-/
import Derived.Test.YtbbeldmcdjjnbaaDoorLtC
import Derived.Test.YtbbeldmcdjjnbaaDoorAbsVar
namespace Go.Proofs.YtbbeldmcdjjnbaaDoor
open Go Go.RowKit
set_option linter.unusedSimpArgs false
set_option linter.unusedVariables false
set_option maxRecDepth 100000
/-- functions that an answer never reaches -/
def cNoMove : Ctr := { args := [mv], pre := fun _ => [False], res := .bool, own := none, out := fun _ => false }
theorem noMove_ok : CtrOk Tryd.prog pG 50 cNoMove := ⟨Tryd.call50, fun w O xs vs hO hr hp hG => hp.elim⟩
def cNoCh : Ctr := { args := [lt], pre := fun _ => [False], res := .bool, own := none, out := fun _ => false }
theorem noCh_ok : CtrOk Tryd.prog pG 51 cNoCh := ⟨Tryd.call51, fun w O xs vs hO hr hp hG => hp.elim⟩
def kVO : Kn := { ltK with C := [(50, cNoMove), (51, cNoCh), (43, cNoSer), (52, cVCells), (35, cUses)] }
theorem kVO_ok : KnOk Tryd.prog pG kVO := ltK_ok.with (.cons noMove_ok <| .cons noCh_ok <| .cons noSer_ok <| .cons vCells_ok <| .cons uses_ok .nil)
def cVOth : Ctr := { args := [lt], pre := fun x => [ansOk x.1], res := .bool, own := none, out := fun _ => true }
set_option maxHeartbeats 4000000 in
theorem vOth_ok : CtrOk Tryd.prog pG 42 cVOth := by
  refine ctr_of_awp (K := kVO) kVO_ok Tryd.func42 rfl rfl Tryd.call42 rfl (by decide) (by intro h; cases h) ?_
  rintro w0 X hX ⟨(l : Lt), ⟨⟩⟩ hp
  have hok : ansOk l := hp
  obtain ⟨v, g, w, rfl, ⟨hg1, hg2⟩, hw, hv, hl⟩ := id hok
  change AWP _ _ _ _ _ ⟨[(0, ⟨lt, ansL v g w⟩)], [], 0⟩ _
  (repeat (first | refine AWP.seq ?_ | refine AWP.skip ?_ | refine AWP.block ?_ | refine AWP.exit ?_)); refine AWP.region hX kVO_ok rfl ?_ ?_
  · trivial
  refine AWP.frzB hX 1 ?_
  (repeat (first | refine AWP.seq ?_ | refine AWP.skip ?_ | refine AWP.block ?_ | refine AWP.exit ?_)); refine AWP.drawN dM hX kVO_ok 22 (by kernel_rfl) rfl rfl ?_ ?_ ?_
  · repeat' (first | exact trivial | exact (rfl : zSe = zSe) | (refine ⟨?_, ?_⟩))
  · trivial
  have e1 : eqb mv zMv zMv = true := eqb_self (t := mv) zMv
  have e2 : eqb dg zDg zDg = true := eqb_self (t := dg) zDg
  refine AWP.fit (σ' := ⟨[(1, ⟨.vptr lt, ansL v g w⟩), (3, ⟨.optr (.arr 17 .bool), ⟨1, .arr 17 .bool, .here⟩⟩)], [(1, some (.box (.arr 17 .bool) [false, false, false, false, false, false, false, false, false, true, true, false, false, false, eqb sp w (0, 0, ()), (((v.length : Nat) : Int) == 0), true]))], 2⟩) ⟨⟨rfl, rfl, trivial⟩, ⟨boxEq ?_, trivial⟩, rfl, rfl⟩ ?_
  · show [false, false, false, false, false, false, false, false, false, eqb mv zMv zMv, true, false, false, false, eqb sp w (0, 0, ()), (((v.length : Nat) : Int) == 0), eqb dg zDg zDg] = _
    rw [e1, e2]
  refine AWP.frzB hX 3 ?_
  (repeat (first | refine AWP.seq ?_ | refine AWP.skip ?_ | refine AWP.block ?_ | refine AWP.exit ?_)); refine AWP.region hX kVO_ok rfl ?_ ?_
  · trivial
  refine AWP.frz hX 27 ?_
  refine AWP.block ?_
  refine AWP.loop (ι := Nat) (fun k => ⟨[(1, ⟨.vptr lt, ansL v g w⟩), (3, ⟨.vptr (.arr 17 .bool), [false, false, false, false, false, false, false, false, false, true, true, false, false, false, eqb sp w (0, 0, ()), (((v.length : Nat) : Int) == 0), true]⟩), (27, ⟨ints, [9, 10, 14, 15, 16]⟩), (28, ⟨i64, ((5 : Nat) : Int)⟩), (29, ⟨i64, (k : Int)⟩)], [], 0⟩) (fun k => k ≤ 5) (fun k => 5 - k) 0 (by omega) ⟨⟨rfl, rfl, rfl, rfl, rfl, trivial⟩, trivial, rfl, rfl⟩ ?_
  intro k hk
  (repeat (first | refine AWP.seq ?_ | refine AWP.skip ?_ | refine AWP.block ?_ | refine AWP.exit ?_)); refine AWP.region hX kVO_ok rfl ?_ ?_
  · trivial
  refine AWP.seq ?_
  refine AWP.cond rfl (fun hb => ?_) (fun hb => ?_)
  · have hb : decide ((k : Int) < ((5 : Nat) : Int)) = true := hb
    have hb := of_decide_eq_true hb
    have hks : k = 0 ∨ k = 1 ∨ k = 2 ∨ k = 3 ∨ k = 4 := by omega
    refine AWP.skip ?_
    rcases hks with rfl | rfl | rfl | rfl | rfl
    · (repeat (first | refine AWP.seq ?_ | refine AWP.skip ?_ | refine AWP.block ?_ | refine AWP.exit ?_)); refine AWP.region hX kVO_ok rfl ?_ ?_
      · exact ⟨(show (0 : Int) ≤ ((0 : Nat) : Int) by decide), (show ((0 : Nat) : Int) < ((5 : Nat) : Int) by decide)⟩
      (repeat (first | refine AWP.seq ?_ | refine AWP.skip ?_ | refine AWP.block ?_ | refine AWP.exit ?_)); refine AWP.region hX kVO_ok rfl ?_ ?_
      · repeat' (first | exact trivial | exact rfl | exact (show (0 : Int) ≤ 9 by decide) | exact (show (9 : Int) < 17 by decide) | exact (show (9 : Int) < ((17 : Nat) : Int) by decide) | assumption | (intro _) | (refine ⟨?_, ?_⟩))
      refine AWP.cond rfl (fun hb => absurd (show false = true from hb) (by decide)) (fun _ => ?_)
      refine AWP.skip ?_
      refine AWP.region hX kVO_ok rfl (inR_small (by decide) (by decide)) ?_
      exact ⟨1, by omega, by omega, ⟨rfl, rfl, rfl, rfl, rfl, trivial⟩, trivial, rfl, rfl⟩
    · (repeat (first | refine AWP.seq ?_ | refine AWP.skip ?_ | refine AWP.block ?_ | refine AWP.exit ?_)); refine AWP.region hX kVO_ok rfl ?_ ?_
      · exact ⟨(show (0 : Int) ≤ ((1 : Nat) : Int) by decide), (show ((1 : Nat) : Int) < ((5 : Nat) : Int) by decide)⟩
      (repeat (first | refine AWP.seq ?_ | refine AWP.skip ?_ | refine AWP.block ?_ | refine AWP.exit ?_)); refine AWP.region hX kVO_ok rfl ?_ ?_
      · repeat' (first | exact trivial | exact rfl | exact (show (0 : Int) ≤ 10 by decide) | exact (show (10 : Int) < 17 by decide) | exact (show (10 : Int) < ((17 : Nat) : Int) by decide) | assumption | (intro _) | (refine ⟨?_, ?_⟩))
      refine AWP.cond rfl (fun hb => absurd (show false = true from hb) (by decide)) (fun _ => ?_)
      refine AWP.skip ?_
      refine AWP.region hX kVO_ok rfl (inR_small (by decide) (by decide)) ?_
      exact ⟨2, by omega, by omega, ⟨rfl, rfl, rfl, rfl, rfl, trivial⟩, trivial, rfl, rfl⟩
    · (repeat (first | refine AWP.seq ?_ | refine AWP.skip ?_ | refine AWP.block ?_ | refine AWP.exit ?_)); refine AWP.region hX kVO_ok rfl ?_ ?_
      · exact ⟨(show (0 : Int) ≤ ((2 : Nat) : Int) by decide), (show ((2 : Nat) : Int) < ((5 : Nat) : Int) by decide)⟩
      (repeat (first | refine AWP.seq ?_ | refine AWP.skip ?_ | refine AWP.block ?_ | refine AWP.exit ?_)); refine AWP.region hX kVO_ok rfl ?_ ?_
      · repeat' (first | exact trivial | exact rfl | exact (show (0 : Int) ≤ 14 by decide) | exact (show (14 : Int) < 17 by decide) | exact (show (14 : Int) < ((17 : Nat) : Int) by decide) | assumption | (intro _) | (refine ⟨?_, ?_⟩))
      refine AWP.cond rfl (fun hb => absurd (show false = true from hb) (by decide)) (fun _ => ?_)
      refine AWP.skip ?_
      refine AWP.region hX kVO_ok rfl (inR_small (by decide) (by decide)) ?_
      exact ⟨3, by omega, by omega, ⟨rfl, rfl, rfl, rfl, rfl, trivial⟩, trivial, rfl, rfl⟩
    · (repeat (first | refine AWP.seq ?_ | refine AWP.skip ?_ | refine AWP.block ?_ | refine AWP.exit ?_)); refine AWP.region hX kVO_ok rfl ?_ ?_
      · exact ⟨(show (0 : Int) ≤ ((3 : Nat) : Int) by decide), (show ((3 : Nat) : Int) < ((5 : Nat) : Int) by decide)⟩
      (repeat (first | refine AWP.seq ?_ | refine AWP.skip ?_ | refine AWP.block ?_ | refine AWP.exit ?_)); refine AWP.region hX kVO_ok rfl ?_ ?_
      · repeat' (first | exact trivial | exact rfl | exact (show (0 : Int) ≤ 15 by decide) | exact (show (15 : Int) < 17 by decide) | exact (show (15 : Int) < ((17 : Nat) : Int) by decide) | assumption | (intro _) | (refine ⟨?_, ?_⟩))
      refine AWP.cond rfl (fun hb => absurd (show false = true from hb) (by decide)) (fun _ => ?_)
      refine AWP.skip ?_
      refine AWP.region hX kVO_ok rfl (inR_small (by decide) (by decide)) ?_
      exact ⟨4, by omega, by omega, ⟨rfl, rfl, rfl, rfl, rfl, trivial⟩, trivial, rfl, rfl⟩
    · (repeat (first | refine AWP.seq ?_ | refine AWP.skip ?_ | refine AWP.block ?_ | refine AWP.exit ?_)); refine AWP.region hX kVO_ok rfl ?_ ?_
      · exact ⟨(show (0 : Int) ≤ ((4 : Nat) : Int) by decide), (show ((4 : Nat) : Int) < ((5 : Nat) : Int) by decide)⟩
      (repeat (first | refine AWP.seq ?_ | refine AWP.skip ?_ | refine AWP.block ?_ | refine AWP.exit ?_)); refine AWP.region hX kVO_ok rfl ?_ ?_
      · repeat' (first | exact trivial | exact rfl | exact (show (0 : Int) ≤ 16 by decide) | exact (show (16 : Int) < 17 by decide) | exact (show (16 : Int) < ((17 : Nat) : Int) by decide) | assumption | (intro _) | (refine ⟨?_, ?_⟩))
      refine AWP.cond rfl (fun hb => absurd (show false = true from hb) (by decide)) (fun _ => ?_)
      refine AWP.skip ?_
      refine AWP.region hX kVO_ok rfl (inR_small (by decide) (by decide)) ?_
      exact ⟨5, by omega, by omega, ⟨rfl, rfl, rfl, rfl, rfl, trivial⟩, trivial, rfl, rfl⟩
  · have hb : decide ((k : Int) < ((5 : Nat) : Int)) = false := hb
    refine AWP.exit ?_
    (repeat (first | refine AWP.seq ?_ | refine AWP.skip ?_ | refine AWP.block ?_ | refine AWP.exit ?_)); refine AWP.region hX kVO_ok rfl ?_ ?_
    · trivial
    refine AWP.frzB hX 6 ?_
    (repeat (first | refine AWP.seq ?_ | refine AWP.skip ?_ | refine AWP.block ?_ | refine AWP.exit ?_)); refine AWP.region hX kVO_ok rfl ?_ ?_
    · repeat' (first | exact trivial | assumption | (intro h; cases h; done) | (refine ⟨?_, ?_⟩))
    refine AWP.cond rfl (fun hb => absurd (show false = true from hb) (by decide)) (fun _ => ?_)
    (repeat (first | refine AWP.seq ?_ | refine AWP.skip ?_ | refine AWP.block ?_ | refine AWP.exit ?_)); refine AWP.region hX kVO_ok rfl ?_ ?_
    · repeat' (first | exact trivial | assumption | (intro h; cases h; done) | (refine ⟨?_, ?_⟩))
    refine AWP.cond rfl (fun hb => absurd (show false = true from hb) (by decide)) (fun _ => ?_)
    refine AWP.skip ?_
    (repeat (first | refine AWP.seq ?_ | refine AWP.skip ?_ | refine AWP.block ?_ | refine AWP.exit ?_)); refine AWP.region hX kVO_ok rfl ?_ ?_
    · repeat' (first | exact trivial | assumption | exact hok | (intro _) | (refine ⟨?_, ?_⟩))
    refine AWP.ret ⟨.inr rfl, done1 rfl trivial rfl rfl ?_⟩
    show (bif (bif (bif decide (-2251799813685248 ≤ w.1) then decide (w.1 ≤ w.2.1) else false) then decide (w.2.1 ≤ 2251799813685248) else false) then true else false) = true
    rw [decide_eq_true hw.1, decide_eq_true hw.2.1, decide_eq_true hw.2.2]
    rfl
def kVL : Kn := { ltK with C := [(40, cIsSrv), (41, cVNum), (42, cVOth), (35, cUses), (43, cNoSer)] }
theorem kVL_ok : KnOk Tryd.prog pG kVL := ltK_ok.with (.cons isSrv_ok <| .cons vNum_ok <| .cons vOth_ok <| .cons uses_ok <| .cons noSer_ok .nil)
def cLValid : Ctr := { args := [lt], pre := fun x => [ansOk x.1], res := i64, own := none, out := fun _ => (0 : Int) }
theorem lValid_ok : CtrOk Tryd.prog pG 27 cLValid := by
  refine ctr_of_awp (K := kVL) kVL_ok Tryd.func27 rfl rfl Tryd.call27 rfl (by decide) (by intro h; cases h) ?_
  rintro w0 X hX ⟨(l : Lt), ⟨⟩⟩ hp
  have hok : ansOk l := hp
  obtain ⟨v, g, w, rfl, ⟨hg1, hg2⟩, hw, hv, hl⟩ := id hok
  change AWP _ _ _ _ _ ⟨[(0, ⟨lt, ansL v g w⟩)], [], 0⟩ _
  (repeat (first | refine AWP.seq ?_ | refine AWP.skip ?_ | refine AWP.block ?_ | refine AWP.exit ?_)); refine AWP.region hX kVL_ok rfl ?_ ?_
  · trivial
  refine AWP.frzB hX 1 ?_
  (repeat (first | refine AWP.seq ?_ | refine AWP.skip ?_ | refine AWP.block ?_ | refine AWP.exit ?_)); refine AWP.region hX kVL_ok rfl ?_ ?_
  · trivial
  (repeat (first | refine AWP.seq ?_ | refine AWP.skip ?_ | refine AWP.block ?_ | refine AWP.exit ?_)); refine AWP.region hX kVL_ok rfl ?_ ?_
  · repeat' (first | exact trivial | assumption | exact (.inl rfl : (0 : Int) = 0 ∨ (0 : Int) = 1) | exact (.inr rfl : (1 : Int) = 0 ∨ (1 : Int) = 1) | (intro _) | (refine ⟨?_, ?_⟩))
  refine AWP.cond rfl (fun hb => absurd (show false = true from hb) (by decide)) (fun _ => ?_)
  (repeat (first | refine AWP.seq ?_ | refine AWP.skip ?_ | refine AWP.block ?_ | refine AWP.exit ?_)); refine AWP.region hX kVL_ok rfl ?_ ?_
  · repeat' (first | exact trivial | assumption | exact hok | (intro _) | (refine ⟨?_, ?_⟩))
  refine AWP.cond rfl (fun hb => absurd (show false = true from hb) (by decide)) (fun _ => ?_)
  (repeat (first | refine AWP.seq ?_ | refine AWP.skip ?_ | refine AWP.block ?_ | refine AWP.exit ?_)); refine AWP.region hX kVL_ok rfl ?_ ?_
  · trivial
  refine AWP.cond rfl (fun hb => ?_) (fun _ => ?_)
  · have hb : decide (((v.length : Nat) : Int) > 65536) = true := hb
    have hb := of_decide_eq_true hb
    omega
  (repeat (first | refine AWP.seq ?_ | refine AWP.skip ?_ | refine AWP.block ?_ | refine AWP.exit ?_)); refine AWP.region hX kVL_ok rfl ?_ ?_
  · exact ⟨rfl, (show (0 : Int) ≤ 10 by decide), (show (10 : Int) < 17 by decide)⟩
  refine AWP.cond rfl (fun _ => ?_) (fun hb => absurd (show true = false from hb) (by decide))
  refine AWP.skip ?_
  refine AWP.cond rfl (fun _ => ?_) (fun hb => absurd (show true = false from hb) (by decide))
  (repeat (first | refine AWP.seq ?_ | refine AWP.skip ?_ | refine AWP.block ?_ | refine AWP.exit ?_)); refine AWP.region hX kVL_ok rfl ?_ ?_
  · trivial
  exact AWP.ret ⟨.inr rfl, done1 rfl trivial rfl rfl (by rfl)⟩
end Go.Proofs.YtbbeldmcdjjnbaaDoor
namespace Go.Proofs.YtbbeldmcdjjnbaaDoor
open Go Go.RowKit
set_option linter.unusedSimpArgs false
set_option linter.unusedVariables false
set_option maxRecDepth 100000
theorem eqF0 (o : Oper) (x : Operand) (h : o.op = .fieldAddr 83 x 0) : OpEq Tryd.prog o { o with op := .fieldAddr 28 x 0 } := by
  refine ⟨rfl, rfl, rfl, fun ev w => ?_⟩
  unfold execOp
  simp only [h]
  cases ev x <;> simp [go_sem]
theorem eqF1 (o : Oper) (x : Operand) (h : o.op = .fieldAddr 83 x 1) : OpEq Tryd.prog o { o with op := .fieldAddr 28 x 1 } := by
  refine ⟨rfl, rfl, rfl, fun ev w => ?_⟩
  unfold execOp
  simp only [h]
  cases ev x <;> simp [go_sem]
theorem eqLd (o : Oper) (x : Operand) (h : o.op = .load 81 x) : OpEq Tryd.prog o { o with op := .load 3 x } := by
  refine ⟨rfl, rfl, rfl, fun ev w => ?_⟩
  unfold execOp
  simp only [h]
  cases ev x <;> simp [go_sem]
abbrev wrT : Ty := .pair (.vptr lt) (.pair bs .unit)
/-- the lowest bytes of a number -/
def leB : Int → Nat → List UInt8
  | _, 0 => []
  | n, k + 1 => UInt8.ofNat (n % 256).toNat :: leB (n / 256) k
theorem leB_len : ∀ (k : Nat) (n : Int), (leB n k).length = k
  | 0, _ => rfl
  | k + 1, n => by rw [leB, List.length_cons, leB_len]
def shR : Int → Nat → Int
  | n, 0 => n
  | n, k + 1 => shR n k / 256
theorem leB_snoc : ∀ (k : Nat) (n : Int), leB n (k + 1) = leB n k ++ [UInt8.ofNat (shR n k % 256).toNat] := by
  have hs : ∀ (k : Nat) (n : Int), shR (n / 256) k = shR n (k + 1) := by
    intro k
    induction k with
    | zero => intro n; rfl
    | succ k ih => intro n; show shR (n / 256) k / 256 = shR n (k + 1) / 256; rw [ih]
  intro k
  induction k with
  | zero => intro n; rfl
  | succ k ih =>
    intro n
    show _ :: leB (n / 256) (k + 1) = (_ :: leB (n / 256) k) ++ _
    rw [ih, hs]
    rfl
def cWNum : HCtr := { self := wrT, k := 1, te := 5, et := u8, sl := fun x => x.2.1, args := [i64, i64], inv := fun _ _ => True, pre := fun x xs => [0 ≤ xs.2.1, xs.2.1 ≤ 8, List.length x.2.1 ≤ 1000000], res := .unit, out := fun x xs => .ok ((), (x.1, (x.2.1 : List UInt8) ++ leB xs.1 xs.2.1.toNat, ())) }
set_option maxHeartbeats 1000000 in
theorem wNum_ok : HCtrOk Tryd.prog pG 28 cWNum := by
  refine hctr_of_awp (K := ltK) ltK_ok Tryd.func28 rfl rfl ⟨rfl, fun _ => rfl⟩ Tryd.call28 rfl (by decide) (fun _ _ _ _ _ _ => trivial) ?_
  rintro w0 ⟨G, O, K, fix, D, ρ, B⟩ hX hG hK hρ hD _ ⟨(l : Lt), (o : List UInt8), ⟨⟩⟩ ⟨(n : Int), (z : Int), ⟨⟩⟩ ⟨h0, h8, hl⟩
  obtain rfl : G = pG := hG
  obtain rfl : K = 1 := hK
  obtain rfl : ρ = none := hρ
  obtain rfl : D = [] := hD
  have h0 : 0 ≤ z := h0
  have h8 : z ≤ 8 := h8
  have hl : o.length ≤ 1000000 := hl
  change AWP _ _ _ _ _ ⟨[(0, ⟨.hptr, ((0 : Nat), (0 : Nat))⟩), (1, ⟨i64, n⟩), (2, ⟨i64, z⟩)], [(0, some (.hbox [⟨.vptr lt, l⟩, ⟨.obuf u8, (1 : Nat)⟩])), (1, some (.buf 5 u8 o))], 2⟩ _
  (repeat (first | refine AWP.seq ?_ | refine AWP.skip ?_ | refine AWP.block ?_ | refine AWP.exit ?_)); refine AWP.region hX ltK_ok rfl ?_ ?_
  · trivial
  (repeat (first | refine AWP.seq ?_ | refine AWP.skip ?_ | refine AWP.label ?_ | refine AWP.exit ?_ | refine AWP.block ?_ | refine AWP.region hX ltK_ok rfl trivial ?_ | refine AWP.region hX ltK_ok rfl id ?_ | refine AWP.region hX ltK_ok rfl ⟨id, id⟩ ?_))
  refine AWP.loop (ι := Nat) (fun k => ⟨[(0, ⟨.hptr, ((0 : Nat), (0 : Nat))⟩), (1, ⟨i64, shR n k⟩), (6, ⟨i64, z⟩), (7, ⟨i64, (k : Int)⟩)], [(0, some (.hbox [⟨.vptr lt, l⟩, ⟨.obuf u8, (1 : Nat)⟩])), (1, some (.buf 5 u8 (o ++ leB n k)))], 2⟩) (fun k => (k : Int) ≤ z) (fun k => z.toNat - k) 0 (by omega) ⟨⟨rfl, rfl, rfl, rfl, trivial⟩, ⟨rfl, bufEq (List.append_nil o).symm, trivial⟩, rfl, rfl⟩ ?_
  intro k hk
  (repeat (first | refine AWP.seq ?_ | refine AWP.skip ?_ | refine AWP.block ?_ | refine AWP.exit ?_)); refine AWP.region hX ltK_ok rfl ?_ ?_
  · trivial
  refine AWP.seq ?_
  refine AWP.cond rfl (fun hb => ?_) (fun hb => ?_)
  · have hb : decide ((k : Int) < z) = true := hb
    have hb := of_decide_eq_true hb
    have hlen : (o ++ leB n k).length + 1 ≤ 1000000000 := by rw [List.length_append, leB_len]; omega
    refine AWP.skip ?_
    (repeat (first | refine AWP.seq ?_ | refine AWP.block ?_))
    refine AWP.list ?_
    refine AL.take 3 hX ltK_ok rfl trivial ?_
    refine AL.step (eqF1 _ _ rfl) hX ltK_ok rfl trivial ?_
    refine AL.take 6 hX ltK_ok rfl hlen ?_
    refine AL.step (eqF1 _ _ rfl) hX ltK_ok rfl trivial ?_
    refine AL.all hX ltK_ok rfl trivial ?_
    have q8 : (0 : Int) ≤ 8 := by decide
    have q9 : (8 : Int) ≤ 63 := by decide
    (repeat (first | refine AWP.seq ?_ | refine AWP.skip ?_ | refine AWP.block ?_ | refine AWP.exit ?_)); refine AWP.region hX ltK_ok rfl ?_ ?_
    · exact ⟨q8, q9⟩
    (repeat (first | refine AWP.seq ?_ | refine AWP.skip ?_ | refine AWP.block ?_ | refine AWP.exit ?_)); refine AWP.region hX ltK_ok rfl ?_ ?_
    · exact inR_succ (by omega)
    refine ⟨k + 1, by omega, by omega, ⟨rfl, rfl, rfl, vSucc _, trivial⟩, ⟨rfl, bufEq ?_, trivial⟩, rfl, rfl⟩
    rw [leB_snoc, ← List.append_assoc]
    rfl
  · have hb : decide ((k : Int) < z) = false := hb
    have hb := of_decide_eq_false hb
    have hkz : k = z.toNat := by omega
    subst hkz
    (repeat (first | refine AWP.seq ?_ | refine AWP.skip ?_ | refine AWP.label ?_ | refine AWP.exit ?_ | refine AWP.block ?_ | refine AWP.region hX ltK_ok rfl trivial ?_ | refine AWP.region hX ltK_ok rfl id ?_ | refine AWP.region hX ltK_ok rfl ⟨id, id⟩ ?_))
    exact ⟨.inl rfl, ⟨_, rfl, u8, 1, _, rfl, rfl, rfl⟩, done2 (by decide) rfl rfl trivial rfl⟩
def hW : List (FuncId × HCtr) := [(28, cWNum)]
theorem hW_ok : HsOk Tryd.prog pG hW := .cons wNum_ok .nil
/-- the bytes of a window -/
def winB (w : Sp) : List UInt8 := leB w.1 8 ++ leB w.2.1 8
def cWWin : HCtr := { self := wrT, k := 1, te := 5, et := u8, sl := fun x => x.2.1, args := [], inv := fun _ _ => True, pre := fun x _ => [ansOk x.1, List.length x.2.1 ≤ 900000], res := .unit, out := fun x _ => .ok ((), (x.1, (x.2.1 : List UInt8) ++ winB x.1.2.2.2.2.2.2.2.2.2.2.2.2.2.2.2.2.2.1, ())) }
set_option maxHeartbeats 1000000 in
theorem wWin_ok : HCtrOk Tryd.prog pG 31 cWWin := by
  refine hctr_of_awp (K := ltK) ltK_ok Tryd.func31 rfl rfl ⟨rfl, fun _ => rfl⟩ Tryd.call31 rfl (by decide) (fun _ _ _ _ _ _ => trivial) ?_
  rintro w0 ⟨G, O, K, fix, D, ρ, B⟩ hX hG hK hρ hD _ ⟨(l : Lt), (o : List UInt8), ⟨⟩⟩ ⟨⟩ ⟨hok, hl⟩
  obtain rfl : G = pG := hG
  obtain rfl : K = 1 := hK
  obtain rfl : ρ = none := hρ
  obtain rfl : D = [] := hD
  have hok : ansOk l := hok
  have hl : o.length ≤ 900000 := hl
  change AWP _ _ _ _ _ ⟨[(0, ⟨.hptr, ((0 : Nat), (0 : Nat))⟩)], [(0, some (.hbox [⟨.vptr lt, l⟩, ⟨.obuf u8, (1 : Nat)⟩])), (1, some (.buf 5 u8 o))], 2⟩ _
  have c1 : (0 : Int) ≤ 8 := by decide
  have c2 : (8 : Int) ≤ 8 := by decide
  have c3 : o.length ≤ 1000000 := by omega
  have c4 : (o ++ leB l.2.2.2.2.2.2.2.2.2.2.2.2.2.2.2.2.2.1.1 8).length ≤ 1000000 := by rw [List.length_append, leB_len]; omega
  (repeat (first | refine AWP.seq ?_ | refine AWP.block ?_))
  refine AWP.list ?_
  refine AL.take 3 hX ltK_ok rfl trivial ?_
  refine AL.step (eqF0 _ _ rfl) hX ltK_ok rfl trivial ?_
  refine AL.step (eqLd _ _ rfl) hX ltK_ok rfl trivial ?_
  refine AL.own 4 hX ltK_ok hW_ok rfl trivial rfl rfl ⟨c1, c2, c3⟩ (fun _ _ _ _ => trivial) ?_
  refine AL.nil ?_
  (repeat (first | refine AWP.seq ?_ | refine AWP.block ?_))
  refine AWP.list ?_
  refine AL.take 3 hX ltK_ok rfl trivial ?_
  refine AL.step (eqF0 _ _ rfl) hX ltK_ok rfl trivial ?_
  refine AL.step (eqLd _ _ rfl) hX ltK_ok rfl trivial ?_
  refine AL.own 4 hX ltK_ok hW_ok rfl trivial rfl rfl ⟨c1, c2, c4⟩ (fun _ _ _ _ => trivial) ?_
  refine AL.nil ?_
  refine ⟨.inl rfl, ⟨_, rfl, u8, 1, (o ++ leB l.2.2.2.2.2.2.2.2.2.2.2.2.2.2.2.2.2.1.1 8) ++ leB l.2.2.2.2.2.2.2.2.2.2.2.2.2.2.2.2.2.1.2.1 8, rfl, rfl, ?_⟩, done2 (by decide) rfl rfl trivial rfl⟩
  show some (((l, (o ++ leB l.2.2.2.2.2.2.2.2.2.2.2.2.2.2.2.2.2.1.1 8) ++ leB l.2.2.2.2.2.2.2.2.2.2.2.2.2.2.2.2.2.1.2.1 8, ()) : wrT.T), ([] : List V)) = some ((l, o ++ winB l.2.2.2.2.2.2.2.2.2.2.2.2.2.2.2.2.2.1, ()), [])
  rw [winB, List.append_assoc]
/-- the bytes of the cells -/
def celB (v : List Int) : List UInt8 := leB ((v.length : Nat) : Int) 4 ++ (v.map fun x => leB x 1).flatten
theorem celB_len (v : List Int) : ((v.map fun x => leB x 1).flatten).length = v.length := by
  induction v with
  | nil => rfl
  | cons x v ih => rw [List.map_cons, List.flatten_cons, List.length_append, leB_len, ih, List.length_cons]; omega
def cWCel : HCtr := { self := wrT, k := 1, te := 5, et := u8, sl := fun x => x.2.1, args := [], inv := fun _ _ => True, pre := fun x _ => [ansOk x.1, List.length x.2.1 ≤ 900000], res := .unit, out := fun x _ => .ok ((), (x.1, (x.2.1 : List UInt8) ++ celB x.1.2.2.2.2.2.2.2.2.2.2.2.2.2.2.2.2.2.2.1, ())) }
set_option maxHeartbeats 1000000 in
theorem wCel_ok : HCtrOk Tryd.prog pG 32 cWCel := by
  refine hctr_of_awp (K := ltK) ltK_ok Tryd.func32 rfl rfl ⟨rfl, fun _ => rfl⟩ Tryd.call32 rfl (by decide) (fun _ _ _ _ _ _ => trivial) ?_
  rintro w0 ⟨G, O, K, fix, D, ρ, B⟩ hX hG hK hρ hD _ ⟨(l : Lt), (o : List UInt8), ⟨⟩⟩ ⟨⟩ ⟨hok, hl⟩
  obtain rfl : G = pG := hG
  obtain rfl : K = 1 := hK
  obtain rfl : ρ = none := hρ
  obtain rfl : D = [] := hD
  have hok : ansOk l := hok
  have hl : o.length ≤ 900000 := hl
  have hv : l.2.2.2.2.2.2.2.2.2.2.2.2.2.2.2.2.2.2.1.length ≤ 65536 := by
    obtain ⟨v, g, w, rfl, _, _, _, h⟩ := hok
    exact h
  change AWP _ _ _ _ _ ⟨[(0, ⟨.hptr, ((0 : Nat), (0 : Nat))⟩)], [(0, some (.hbox [⟨.vptr lt, l⟩, ⟨.obuf u8, (1 : Nat)⟩])), (1, some (.buf 5 u8 o))], 2⟩ _
  have c1 : (0 : Int) ≤ 4 := by decide
  have c2 : (4 : Int) ≤ 8 := by decide
  have c3 : o.length ≤ 1000000 := by omega
  have c5 : (0 : Int) ≤ 1 := by decide
  have c6 : (1 : Int) ≤ 8 := by decide
  (repeat (first | refine AWP.seq ?_ | refine AWP.block ?_))
  refine AWP.list ?_
  refine AL.take 3 hX ltK_ok rfl trivial ?_
  refine AL.step (eqF0 _ _ rfl) hX ltK_ok rfl trivial ?_
  refine AL.step (eqLd _ _ rfl) hX ltK_ok rfl trivial ?_
  refine AL.own 4 hX ltK_ok hW_ok rfl trivial rfl rfl ⟨c1, c2, c3⟩ (fun _ _ _ _ => trivial) ?_
  refine AL.nil ?_
  refine AWP.fit (σ' := ⟨[(0, ⟨.hptr, ((0 : Nat), (0 : Nat))⟩)], [(0, some (.hbox [⟨.vptr lt, l⟩, ⟨.obuf u8, (1 : Nat)⟩])), (1, some (.buf 5 u8 (o ++ leB ((l.2.2.2.2.2.2.2.2.2.2.2.2.2.2.2.2.2.2.1.length : Nat) : Int) 4)))], 2⟩) ⟨⟨rfl, trivial⟩, ⟨rfl, rfl, trivial⟩, rfl, rfl⟩ ?_
  (repeat (first | refine AWP.seq ?_ | refine AWP.block ?_))
  refine AWP.list ?_
  refine AL.take 2 hX ltK_ok rfl trivial ?_
  refine AL.step (eqF0 _ _ rfl) hX ltK_ok rfl trivial ?_
  refine AL.step (eqLd _ _ rfl) hX ltK_ok rfl trivial ?_
  refine AL.all hX ltK_ok rfl trivial ?_
  generalize hC : l.2.2.2.2.2.2.2.2.2.2.2.2.2.2.2.2.2.2.1 = v at hv
  have hC : (l.2.2.2.2.2.2.2.2.2.2.2.2.2.2.2.2.2.2.1 : List Int) = v := hC
  refine AWP.fit (σ' := ⟨[(0, ⟨.hptr, ((0 : Nat), (0 : Nat))⟩), (20, ⟨ints, v⟩), (21, ⟨i64, ((v.length : Nat) : Int)⟩), (22, ⟨i64, (0 : Int)⟩)], [(0, some (.hbox [⟨.vptr lt, l⟩, ⟨.obuf u8, (1 : Nat)⟩])), (1, some (.buf 5 u8 (o ++ leB ((v.length : Nat) : Int) 4)))], 2⟩) ⟨⟨rfl, rfl, rfl, rfl, trivial⟩, ⟨rfl, rfl, trivial⟩, rfl, rfl⟩ ?_
  (repeat (first | refine AWP.seq ?_ | refine AWP.block ?_))
  refine AWP.loop (ι := Nat) (fun k => ⟨[(0, ⟨.hptr, ((0 : Nat), (0 : Nat))⟩), (20, ⟨ints, v⟩), (21, ⟨i64, ((v.length : Nat) : Int)⟩), (22, ⟨i64, (k : Int)⟩)], [(0, some (.hbox [⟨.vptr lt, l⟩, ⟨.obuf u8, (1 : Nat)⟩])), (1, some (.buf 5 u8 (o ++ leB ((v.length : Nat) : Int) 4 ++ ((v.take k).map fun x => leB x 1).flatten)))], 2⟩) (fun k => k ≤ v.length) (fun k => v.length - k) 0 (by omega) ⟨⟨rfl, rfl, rfl, rfl, trivial⟩, ⟨rfl, bufEq (List.append_nil _).symm, trivial⟩, rfl, rfl⟩ ?_
  intro k hk
  (repeat (first | refine AWP.seq ?_ | refine AWP.skip ?_ | refine AWP.block ?_ | refine AWP.exit ?_)); refine AWP.region hX ltK_ok rfl ?_ ?_
  · trivial
  refine AWP.seq ?_
  refine AWP.cond rfl (fun hb => ?_) (fun hb => ?_)
  · have hb : decide ((k : Int) < (v.length : Nat)) = true := hb
    have hb := of_decide_eq_true hb
    have hlt : k < v.length := by omega
    have n0 : (0 : Int) ≤ (k : Int) := by omega
    have eg : v.getD (k : Int).toNat 0 = v[k] := getD_at' hlt
    have c7 : (o ++ leB ((v.length : Nat) : Int) 4 ++ ((v.take k).map fun x => leB x 1).flatten).length ≤ 1000000 := by
      rw [List.length_append, List.length_append, leB_len, celB_len, List.length_take]
      omega
    (repeat (first | refine AWP.seq ?_ | refine AWP.skip ?_ | refine AWP.block ?_ | refine AWP.exit ?_)); refine AWP.region hX ltK_ok rfl ?_ ?_
    · exact ⟨n0, hb⟩
    refine AWP.list ?_
    refine AL.own 2 hX ltK_ok hW_ok rfl trivial rfl rfl ⟨c5, c6, c7⟩ (fun _ _ _ _ => trivial) ?_
    refine AL.nil ?_
    (repeat (first | refine AWP.seq ?_ | refine AWP.skip ?_ | refine AWP.block ?_ | refine AWP.exit ?_)); refine AWP.region hX ltK_ok rfl ?_ ?_
    · exact inR_succ (by omega)
    refine ⟨k + 1, by omega, by omega, ⟨rfl, rfl, rfl, vSucc _, trivial⟩, ⟨rfl, bufEq ?_, trivial⟩, rfl, rfl⟩
    rw [List.take_succ_eq_append_getElem hlt, List.map_append, List.flatten_append, ← eg, ← List.append_assoc]
    simp
    rfl
  · have hb : decide ((k : Int) < (v.length : Nat)) = false := hb
    have hb := of_decide_eq_false hb
    have hkl : k = v.length := by omega
    subst hkl
    rw [List.take_length]
    (repeat (first | refine AWP.seq ?_ | refine AWP.skip ?_ | refine AWP.label ?_ | refine AWP.exit ?_ | refine AWP.block ?_ | refine AWP.region hX ltK_ok rfl trivial ?_ | refine AWP.region hX ltK_ok rfl id ?_ | refine AWP.region hX ltK_ok rfl ⟨id, id⟩ ?_))
    refine ⟨.inl rfl, ⟨_, rfl, u8, 1, _, rfl, rfl, ?_⟩, done2 (by decide) rfl rfl trivial rfl⟩
    show some (((l, o ++ leB ((v.length : Nat) : Int) 4 ++ (v.map fun x => leB x 1).flatten, ()) : wrT.T), ([] : List V)) = some ((l, o ++ celB l.2.2.2.2.2.2.2.2.2.2.2.2.2.2.2.2.2.2.1, ()), [])
    rw [show (l.2.2.2.2.2.2.2.2.2.2.2.2.2.2.2.2.2.2.1 : List Int) = v from hC, celB, List.append_assoc]
def cWRef : HCtr := { self := wrT, k := 1, te := 5, et := u8, sl := fun x => x.2.1, args := [], inv := fun _ _ => True, pre := fun x _ => [ansOk x.1, List.length x.2.1 ≤ 900000], res := .unit, out := fun x _ => .ok ((), (x.1, (x.2.1 : List UInt8) ++ x.1.2.2.2.2.2.2.2.2.2.2.2.2.2.2.2.2.2.2.2.1, ())) }
set_option maxHeartbeats 1000000 in
theorem wRef_ok : HCtrOk Tryd.prog pG 33 cWRef := by
  refine hctr_of_awp (K := ltK) ltK_ok Tryd.func33 rfl rfl ⟨rfl, fun _ => rfl⟩ Tryd.call33 rfl (by decide) (fun _ _ _ _ _ _ => trivial) ?_
  rintro w0 ⟨G, O, K, fix, D, ρ, B⟩ hX hG hK hρ hD _ ⟨(l : Lt), (o : List UInt8), ⟨⟩⟩ ⟨⟩ ⟨hok, hl⟩
  obtain rfl : G = pG := hG
  obtain rfl : K = 1 := hK
  obtain rfl : ρ = none := hρ
  obtain rfl : D = [] := hD
  have hok : ansOk l := hok
  have hl : o.length ≤ 900000 := hl
  change AWP _ _ _ _ _ ⟨[(0, ⟨.hptr, ((0 : Nat), (0 : Nat))⟩)], [(0, some (.hbox [⟨.vptr lt, l⟩, ⟨.obuf u8, (1 : Nat)⟩])), (1, some (.buf 5 u8 o))], 2⟩ _
  refine AWP.drawF (d := 2) (src := .tmp 0) rfl (.cons (.of_eq (OpEq.refl _) rfl (by intro h; cases h) (by intro t h; cases h; intro h; cases h) (.inr (by intro ev ev' h; simp [execOp, resolve, h]))) <| .cons (.of_eq (OpEq.refl _) rfl (by intro h; cases h) (by intro t h; cases h; intro h; cases h) (.inr (by intro ev ev' h; simp [execOp, resolve, h]))) <| .cons (.of_eq (eqF1 _ _ rfl) rfl (by intro h; cases h) (by intro t h; cases h; intro h; cases h) (.inr (by intro ev ev' h; simp [execOp, resolve, h]))) <| .cons (.of_eq (OpEq.refl _) rfl (by intro h; cases h) (by intro t h; cases h; intro h; cases h) (.inr (by intro ev ev' h; simp [execOp, resolve, h]))) <| .cons (.of_eq (OpEq.refl _) rfl (by intro h; cases h) (by intro t h; cases h; intro h; cases h) (.inr (by intro ev ev' h; simp [execOp, resolve, h]))) <| .cons (.of_eq (OpEq.refl _) rfl (by intro h; cases h) (by intro t h; cases h; intro h; cases h) (.inr (by intro ev ev' h; simp [execOp, resolve, h]))) <| .cons (.of_eq (eqF0 _ _ rfl) rfl (by intro h; cases h) (by intro t h; cases h; intro h; cases h) (.inr (by intro ev ev' h; simp [execOp, resolve, h]))) <| .cons (.of_eq (eqLd _ _ rfl) rfl (by intro h; cases h) (by intro t h; cases h; intro h; cases h) (.inr (by intro ev ev' h; simp [execOp, resolve, h]))) <| .cons (.of_eq (OpEq.refl _) rfl (by intro h; cases h) (by intro t h; cases h; intro h; cases h) (.inr (by intro ev ev' h; simp [execOp, resolve, h]))) <| .cons (.of_eq (OpEq.refl _) rfl (by intro h; cases h) (by intro t h; cases h; intro h; cases h) (.inr (by intro ev ev' h; simp [execOp, resolve, h]))) <| .cons (.of_eq (OpEq.refl _) rfl (by intro h; cases h) (by intro t h; cases h; intro h; cases h) (.inr (by intro ev ev' h; simp [execOp, resolve, h]))) <| .cons (.edge 0 rfl (by intro h; cases h) (by intro t h; cases h; intro h; cases h) (.inr (by intro ev ev' h; simp [execOp, resolve, h]))) <| .cons (.of_eq (OpEq.refl _) rfl (by intro h; cases h) (by intro t h; cases h; intro h; cases h) (.inl ⟨_, Array.mem_of_getElem? (i := 0) rfl, by decide, rfl⟩)) <| .cons (.of_eq (eqF1 _ _ rfl) rfl (by intro h; cases h) (by intro t h; cases h; intro h; cases h) (.inr (by intro ev ev' h; simp [execOp, resolve, h]))) <| .cons (.of_eq (OpEq.refl _) rfl (by intro h; cases h) (by intro t h; cases h; intro h; cases h) (.inr (by intro ev ev' h; simp [execOp, resolve, h]))) <| .nil) rfl rfl rfl rfl (by intro h; cases h) dM hX ltK_ok 12 (by kernel_rfl) rfl rfl ?_ ?_ ?_
  · trivial
  · show o.length + List.length l.2.2.2.2.2.2.2.2.2.2.2.2.2.2.2.2.2.2.2.1 ≤ 1000000000
    obtain ⟨v, g, w, rfl, _⟩ := hok
    show o.length + (List.replicate 32 (0 : UInt8)).length ≤ 1000000000
    rw [List.length_replicate]
    omega
  refine ⟨.inl rfl, ⟨_, rfl, u8, 1, _, rfl, rfl, ?_⟩, done2 (by decide) rfl rfl trivial rfl⟩
  rfl
end Go.Proofs.YtbbeldmcdjjnbaaDoor
