/-
  The reference of chapter 25: Subset, Stricter, Same, decimal, who, Format.
-/
import Derived.Test.YthkhgpbjfcmopaaGreatDoorPRefB
namespace Go.Proofs.YthkhgpbjfcmopaaGreatDoor
open Go Go.RowKit
set_option linter.unusedSimpArgs false
set_option linter.unusedVariables false
set_option maxRecDepth 100000
/-- the elements whose bits are set -/
def sub {α : Type} : List α → Nat → List α
  | [], _ => []
  | x :: r, b => if b % 2 = 1 then x :: sub r (b / 2) else sub r (b / 2)
theorem sub_snoc {α : Type} (l : List α) (x : α) : ∀ b, sub (l ++ [x]) b = sub l b ++ if b / 2 ^ l.length % 2 = 1 then [x] else [] := by
  induction l with
  | nil => intro b; simp only [List.nil_append, sub, List.length_nil, Nat.pow_zero, Nat.div_one]
  | cons y r ih =>
    intro b
    have e : b / 2 / 2 ^ r.length = b / 2 ^ (r.length + 1) := by rw [Nat.div_div_eq_div_mul, Nat.pow_succ, Nat.mul_comm]
    simp only [List.cons_append, sub, List.length_cons]
    rw [ih, e]
    split <;> rfl
theorem sub_length {α : Type} (l : List α) : ∀ b, (sub l b).length ≤ l.length := by
  induction l with
  | nil => intro b; exact Nat.le_refl _
  | cons y r ih => intro b; have := ih (b / 2); unfold sub; split <;> simp only [List.length_cons] <;> omega
def cSubset : Ctr := { args := [ints, i64], pre := fun x => [List.length x.1 ≤ 1000, 0 ≤ x.2.1, x.2.1 ≤ 1000000000], res := ints, own := none, out := fun x => sub x.1 x.2.1.toNat }
theorem rsubset_ok : CtrOk Tryz.prog pG 58 cSubset := by
  refine ctr_of_awp (K := pK) pK_ok Tryz.func58 rfl rfl Tryz.call58 rfl (by decide) (by intro h; cases h) ?_
  rintro w0 X hX ⟨(l : List Int), (b : Int), _⟩ hp
  obtain ⟨hl, hb0, hb1⟩ : l.length ≤ 1000 ∧ 0 ≤ b ∧ b ≤ 1000000000 := hp
  change AWP _ _ _ _ _ ⟨[(0, ⟨ints, l⟩), (1, ⟨i64, b⟩)], [], 0⟩ _
  obtain ⟨n, rfl⟩ := Int.eq_ofNat_of_zero_le hb0
  have hn : n ≤ 1000000000 := by omega
  (repeat (first | refine AWP.seq ?_ | refine AWP.skip ?_ | refine AWP.label ?_ | refine AWP.exit ?_ | refine AWP.block ?_ | refine AWP.region hX pK_ok rfl trivial ?_ | refine AWP.region hX pK_ok rfl id ?_ | refine AWP.region hX pK_ok rfl ⟨id, id⟩ ?_))
  refine AWP.loop (ι := Nat) (fun k => ⟨[(0, ⟨ints, l⟩), (1, ⟨i64, ((n / 2 ^ k : Nat) : Int)⟩), (5, ⟨.obuf i64, (0 : Nat)⟩), (6, ⟨i64, (k : Int)⟩)], [(0, some (.buf 3 i64 (sub (l.take k) n)))], 1⟩) (fun k => k ≤ l.length) (fun k => l.length - k) 0 (by omega) ⟨⟨rfl, vI64 (by simp), rfl, rfl, trivial⟩, ⟨rfl, trivial⟩, rfl, rfl⟩ ?_
  intro k hk
  have hs : (sub (l.take k) n).length ≤ 1000 := by
    have := sub_length (l.take k) n
    rw [List.length_take] at this
    omega
  have hd : n / 2 ^ k ≤ 1000000000 := Nat.le_trans (Nat.div_le_self _ _) hn
  have hnext : n / 2 ^ k / 2 = n / 2 ^ (k + 1) := by rw [Nat.div_div_eq_div_mul, Nat.pow_succ]
  (repeat (first | refine AWP.seq ?_ | refine AWP.skip ?_ | refine AWP.block ?_ | refine AWP.exit ?_)); refine AWP.region hX pK_ok rfl ?_ ?_
  · trivial
  refine AWP.cond rfl (fun hb => ?_) (fun hb => ?_)
  · have hb : decide ((k : Int) < (l.length : Nat)) = true := hb
    have hb := of_decide_eq_true hb
    have hlt : k < l.length := by omega
    have e1 : sub (l.take (k + 1)) n = sub (l.take k) n ++ if n / 2 ^ k % 2 = 1 then [l[k]] else [] := by
      rw [List.take_succ_eq_append_getElem hlt, sub_snoc, List.length_take, Nat.min_eq_left hk]
    have i1 : inR .i64 (Int.tdiv ((n / 2 ^ k : Nat) : Int) 2) := by
      have e : Int.tdiv ((n / 2 ^ k : Nat) : Int) 2 = ((n / 2 ^ k / 2 : Nat) : Int) := rfl
      have := Nat.div_le_self (n / 2 ^ k) 2
      exact inR_small (by omega) (by omega)
    have e2 : Int.tdiv ((n / 2 ^ k : Nat) : Int) 2 = ((n / 2 ^ (k + 1) : Nat) : Int) := by rw [← hnext]; rfl
    have two : (2 : Int) ≠ 0 := by omega
    (repeat (first | refine AWP.seq ?_ | refine AWP.skip ?_ | refine AWP.block ?_ | refine AWP.exit ?_)); refine AWP.region hX pK_ok rfl ?_ ?_
    · exact two
    refine AWP.cond rfl (fun hb => ?_) (fun hb => ?_)
    · have hb : decide (Int.tmod ((n / 2 ^ k : Nat) : Int) 2 = 1) = true := hb
      have hb := of_decide_eq_true hb
      have hb : ((n / 2 ^ k % 2 : Nat) : Int) = 1 := hb
      (repeat (first | refine AWP.seq ?_ | refine AWP.skip ?_ | refine AWP.block ?_ | refine AWP.exit ?_)); refine AWP.region hX pK_ok rfl ?_ ?_
      · exact ⟨by omega, by assumption, by show (sub (l.take k) n).length + 1 ≤ 1000000000; omega⟩
      (repeat (first | refine AWP.seq ?_ | refine AWP.skip ?_ | refine AWP.block ?_ | refine AWP.exit ?_)); refine AWP.region hX pK_ok rfl ?_ ?_
      · exact ⟨two, i1⟩
      (repeat (first | refine AWP.seq ?_ | refine AWP.skip ?_ | refine AWP.block ?_ | refine AWP.exit ?_)); refine AWP.region hX pK_ok rfl ?_ ?_
      · exact inR_succ (by omega)
      refine ⟨k + 1, by omega, by omega, ⟨rfl, vI64 e2, rfl, vSucc _, trivial⟩, ⟨bufInts ?_, trivial⟩, rfl, rfl⟩
      rw [e1, if_pos (by omega), ← getD_at (z := 0) hlt]
      rfl
    · have hb : decide (Int.tmod ((n / 2 ^ k : Nat) : Int) 2 = 1) = false := hb
      have hb := of_decide_eq_false hb
      have hb : ¬ ((n / 2 ^ k % 2 : Nat) : Int) = 1 := hb
      (repeat (first | refine AWP.seq ?_ | refine AWP.skip ?_ | refine AWP.block ?_ | refine AWP.exit ?_)); refine AWP.region hX pK_ok rfl ?_ ?_
      · exact ⟨two, i1⟩
      (repeat (first | refine AWP.seq ?_ | refine AWP.skip ?_ | refine AWP.block ?_ | refine AWP.exit ?_)); refine AWP.region hX pK_ok rfl ?_ ?_
      · exact inR_succ (by omega)
      refine ⟨k + 1, by omega, by omega, ⟨rfl, vI64 e2, rfl, vSucc _, trivial⟩, ⟨bufInts ?_, trivial⟩, rfl, rfl⟩
      rw [e1, if_neg (by omega), List.append_nil]
  · have hb : decide ((k : Int) < (l.length : Nat)) = false := hb
    have hb := of_decide_eq_false hb
    have : k = l.length := by omega
    subst this
    rw [List.take_length]
    refine AWP.frz hX 5 ?_
    (repeat (first | refine AWP.seq ?_ | refine AWP.skip ?_ | refine AWP.label ?_ | refine AWP.exit ?_ | refine AWP.block ?_ | refine AWP.region hX pK_ok rfl trivial ?_ | refine AWP.region hX pK_ok rfl id ?_ | refine AWP.region hX pK_ok rfl ⟨id, id⟩ ?_))
    exact AWP.ret ⟨.inr rfl, done1 rfl trivial rfl rfl rfl⟩
/-- the reference's comparison: all people and all sets of the teams that occur -/
def rstr (l m : List Gt) : Bool := decide (OkP l) && decide (OkP m) && (people l m).all (fun p => (List.range (2 ^ (teams l m).length)).all (fun b => less l m p (sub (teams l m) b)))
def cRStr : Ctr := { args := [po, po], pre := fun x => [List.length (teams x.1.1 x.2.1.1) ≤ 10], res := .bool, own := none, out := fun x => rstr x.1.1 x.2.1.1 }
def kPG : Kn := { pK with C := [(18, cValid), (55, cTeams), (56, cPeople), (58, cSubset), (57, cLess)] }
theorem kPG_ok : KnOk Tryz.prog pG kPG := pK_ok.with (.cons rvalid_ok (.cons rteams_ok (.cons rpeople_ok (.cons rsubset_ok (.cons rless_ok .nil)))))
theorem rstricter_ok : CtrOk Tryz.prog pG 28 cRStr := by
  refine ctr_of_awp (K := kPG) kPG_ok Tryz.func28 rfl rfl Tryz.call28 rfl (by decide) (by intro h; cases h) ?_
  rintro w0 X hX ⟨⟨(l : List Gt), _⟩, ⟨(m : List Gt), _⟩, _⟩ hp
  change AWP _ _ _ _ _ ⟨[(0, ⟨po, (l, ())⟩), (1, ⟨po, (m, ())⟩)], [], 0⟩ _
  have hp : (teams l m).length ≤ 10 := hp
  (repeat (first | refine AWP.seq ?_ | refine AWP.skip ?_ | refine AWP.label ?_ | refine AWP.exit ?_ | refine AWP.block ?_ | refine AWP.region hX kPG_ok rfl trivial ?_ | refine AWP.region hX kPG_ok rfl id ?_ | refine AWP.region hX kPG_ok rfl ⟨id, id⟩ ?_))
  (repeat (first | refine AWP.seq ?_ | refine AWP.skip ?_ | refine AWP.block ?_ | refine AWP.exit ?_)); refine AWP.draw dM hX kPG_ok 4 (by kernel_rfl) rfl rfl ?_ ?_ ?_
  · trivial
  · trivial
  (repeat (first | refine AWP.seq ?_ | refine AWP.skip ?_ | refine AWP.label ?_ | refine AWP.exit ?_ | refine AWP.block ?_ | refine AWP.region hX kPG_ok rfl trivial ?_ | refine AWP.region hX kPG_ok rfl id ?_ | refine AWP.region hX kPG_ok rfl ⟨id, id⟩ ?_))
  refine AWP.cond rfl (fun hb => ?_) (fun hb => ?_)
  · have hb : (bif !decide (OkP l) then true else !decide (OkP m)) = true := hb
    (repeat (first | refine AWP.seq ?_ | refine AWP.skip ?_ | refine AWP.label ?_ | refine AWP.exit ?_ | refine AWP.block ?_ | refine AWP.region hX kPG_ok rfl trivial ?_ | refine AWP.region hX kPG_ok rfl id ?_ | refine AWP.region hX kPG_ok rfl ⟨id, id⟩ ?_))
    refine AWP.ret ⟨.inr rfl, done1 rfl trivial rfl rfl ?_⟩
    show false = rstr l m
    unfold rstr
    cases h1 : decide (OkP l) <;> cases h2 : decide (OkP m) <;> rw [h1, h2] at hb <;> first | rfl | cases hb
  have hb : (bif !decide (OkP l) then true else !decide (OkP m)) = false := hb
  have hok : OkP l ∧ OkP m := by
    constructor
    · refine Classical.byContradiction fun h => ?_
      rw [decide_eq_false h] at hb
      cases hb
    · refine Classical.byContradiction fun h => ?_
      rw [decide_eq_false h] at hb
      cases h1 : decide (OkP l) <;> rw [h1] at hb <;> cases hb
  have a1 : l.length ≤ 1000 := by have := hok.1.1; omega
  have a2 : m.length ≤ 1000 := by have := hok.2.1; omega
  have a3 : ∀ g ∈ l ++ m, gP g < 512 := fun g hg => by
    have : OkG g := (List.mem_append.1 hg).elim (hok.1.2 g) (hok.2.2 g)
    have := this.2.1
    omega
  (repeat (first | refine AWP.seq ?_ | refine AWP.skip ?_ | refine AWP.block ?_ | refine AWP.exit ?_)); refine AWP.draw dM hX kPG_ok 6 (by kernel_rfl) rfl rfl ?_ ?_ ?_
  · exact ⟨a1, a2, a1, a2, a3⟩
  · trivial
  have hpl : (people l m).length ≤ 2001 := by
    have := dist_le ((l ++ m).map gP)
    rw [List.length_map, List.length_append] at this
    unfold people pers
    rw [List.length_append, List.length_singleton]
    omega
  have rall : rstr l m = (people l m).all (fun p => (List.range (2 ^ (teams l m).length)).all (fun b => less l m p (sub (teams l m) b))) := by
    unfold rstr
    rw [decide_eq_true hok.1, decide_eq_true hok.2]
    rfl
  (repeat (first | refine AWP.seq ?_ | refine AWP.skip ?_ | refine AWP.label ?_ | refine AWP.exit ?_ | refine AWP.block ?_ | refine AWP.region hX kPG_ok rfl trivial ?_ | refine AWP.region hX kPG_ok rfl id ?_ | refine AWP.region hX kPG_ok rfl ⟨id, id⟩ ?_))
  refine AWP.loop (ι := Nat) (fun k => ⟨[(2, ⟨.optr po, ⟨0, po, .here⟩⟩), (3, ⟨.optr po, ⟨1, po, .here⟩⟩), (7, ⟨ints, teams l m⟩), (8, ⟨ints, people l m⟩), (9, ⟨i64, ((2 ^ k : Nat) : Int)⟩), (10, ⟨i64, (k : Int)⟩)], [(0, some (.box po (l, ()))), (1, some (.box po (m, ())))], 2⟩) (fun k => k ≤ (teams l m).length) (fun k => (teams l m).length - k) 0 (by omega) ⟨⟨rfl, rfl, rfl, rfl, rfl, rfl, trivial⟩, ⟨rfl, rfl, trivial⟩, rfl, rfl⟩ ?_
  intro k hk
  have hpk : 2 ^ k ≤ 1024 := Nat.pow_le_pow_right (n := 2) (by omega) (by omega : k ≤ 10)
  (repeat (first | refine AWP.seq ?_ | refine AWP.skip ?_ | refine AWP.block ?_ | refine AWP.exit ?_)); refine AWP.region hX kPG_ok rfl ?_ ?_
  · trivial
  refine AWP.cond rfl (fun hb => ?_) (fun hb => ?_)
  · have hb : decide ((k : Int) < ((teams l m).length : Nat)) = true := hb
    have hb := of_decide_eq_true hb
    have e2 : 2 * ((2 ^ k : Nat) : Int) = ((2 ^ (k + 1) : Nat) : Int) := by rw [Nat.pow_succ]; omega
    have i2 : inR .i64 (2 * ((2 ^ k : Nat) : Int)) := by
      generalize 2 ^ k = S at hpk
      exact inR_small (by omega) (by omega)
    (repeat (first | refine AWP.seq ?_ | refine AWP.skip ?_ | refine AWP.block ?_ | refine AWP.exit ?_)); refine AWP.region hX kPG_ok rfl ?_ ?_
    · exact i2
    (repeat (first | refine AWP.seq ?_ | refine AWP.skip ?_ | refine AWP.block ?_ | refine AWP.exit ?_)); refine AWP.region hX kPG_ok rfl ?_ ?_
    · exact inR_succ (by omega)
    exact ⟨k + 1, by omega, by omega, ⟨rfl, rfl, rfl, rfl, vI64 e2, vSucc _, trivial⟩, ⟨rfl, rfl, trivial⟩, rfl, rfl⟩
  have hb : decide ((k : Int) < ((teams l m).length : Nat)) = false := hb
  have hb := of_decide_eq_false hb
  have hkt : k = (teams l m).length := by omega
  clear hb
  have hS : 2 ^ k = 2 ^ (teams l m).length := by rw [hkt]
  generalize 2 ^ k = S at hS hpk
  (repeat (first | refine AWP.seq ?_ | refine AWP.skip ?_ | refine AWP.label ?_ | refine AWP.exit ?_ | refine AWP.block ?_ | refine AWP.region hX kPG_ok rfl trivial ?_ | refine AWP.region hX kPG_ok rfl id ?_ | refine AWP.region hX kPG_ok rfl ⟨id, id⟩ ?_))
  refine AWP.loop (ι := Nat) (fun i => ⟨[(2, ⟨.optr po, ⟨0, po, .here⟩⟩), (3, ⟨.optr po, ⟨1, po, .here⟩⟩), (7, ⟨ints, teams l m⟩), (8, ⟨ints, people l m⟩), (9, ⟨i64, (S : Int)⟩), (11, ⟨i64, (i : Int)⟩)], [(0, some (.box po (l, ()))), (1, some (.box po (m, ())))], 2⟩) (fun i => i ≤ (people l m).length ∧ ∀ p ∈ (people l m).take i, ∀ b < S, less l m p (sub (teams l m) b) = true) (fun i => (people l m).length - i) 0 ⟨by omega, by simp⟩ ⟨⟨rfl, rfl, rfl, rfl, rfl, rfl, trivial⟩, ⟨rfl, rfl, trivial⟩, rfl, rfl⟩ ?_
  rintro i ⟨hi, hall⟩
  (repeat (first | refine AWP.seq ?_ | refine AWP.skip ?_ | refine AWP.block ?_ | refine AWP.exit ?_)); refine AWP.region hX kPG_ok rfl ?_ ?_
  · trivial
  refine AWP.cond rfl (fun hb => ?_) (fun hb => ?_)
  · have hb : decide ((i : Int) < ((people l m).length : Nat)) = true := hb
    have hb := of_decide_eq_true hb
    have hlt : i < (people l m).length := by omega
    (repeat (first | refine AWP.seq ?_ | refine AWP.skip ?_ | refine AWP.label ?_ | refine AWP.exit ?_ | refine AWP.block ?_ | refine AWP.region hX kPG_ok rfl trivial ?_ | refine AWP.region hX kPG_ok rfl id ?_ | refine AWP.region hX kPG_ok rfl ⟨id, id⟩ ?_))
    refine AWP.loop (ι := Nat) (fun b => ⟨[(2, ⟨.optr po, ⟨0, po, .here⟩⟩), (3, ⟨.optr po, ⟨1, po, .here⟩⟩), (7, ⟨ints, teams l m⟩), (8, ⟨ints, people l m⟩), (9, ⟨i64, (S : Int)⟩), (11, ⟨i64, (i : Int)⟩), (12, ⟨i64, (b : Int)⟩)], [(0, some (.box po (l, ()))), (1, some (.box po (m, ())))], 2⟩) (fun b => b ≤ S ∧ ∀ c < b, less l m ((people l m)[i]) (sub (teams l m) c) = true) (fun b => S - b) 0 ⟨by omega, by omega⟩ ⟨⟨rfl, rfl, rfl, rfl, rfl, rfl, rfl, trivial⟩, ⟨rfl, rfl, trivial⟩, rfl, rfl⟩ ?_
    rintro b ⟨hb2, hall2⟩
    (repeat (first | refine AWP.seq ?_ | refine AWP.skip ?_ | refine AWP.block ?_ | refine AWP.exit ?_)); refine AWP.region hX kPG_ok rfl ?_ ?_
    · trivial
    refine AWP.cond rfl (fun hb => ?_) (fun hb => ?_)
    · have hc : decide ((b : Int) < (S : Int)) = true := by assumption
      have hc := of_decide_eq_true hc
      have hbt : b < S := by omega
      have n0 : (0 : Int) ≤ (i : Int) := by omega
      have n1 : (teams l m).length ≤ 1000 := by omega
      have n2 : (0 : Int) ≤ (b : Int) := by omega
      have n3 : (b : Int) ≤ 1000000000 := by omega
      (repeat (first | refine AWP.seq ?_ | refine AWP.skip ?_ | refine AWP.block ?_ | refine AWP.exit ?_)); refine AWP.draw dM hX kPG_ok 11 (by kernel_rfl) rfl rfl ?_ ?_ ?_
      · exact ⟨n0, by assumption, n1, n2, n3⟩
      · trivial
      (repeat (first | refine AWP.seq ?_ | refine AWP.skip ?_ | refine AWP.label ?_ | refine AWP.exit ?_ | refine AWP.block ?_ | refine AWP.region hX kPG_ok rfl trivial ?_ | refine AWP.region hX kPG_ok rfl id ?_ | refine AWP.region hX kPG_ok rfl ⟨id, id⟩ ?_))
      have eg : (people l m).getD (i : Int).toNat 0 = (people l m)[i] := getD_at hlt
      have ec : ∀ (v : Bool), (!less l m ((people l m).getD (i : Int).toNat 0) (sub (teams l m) (b : Int).toNat)) = v → less l m ((people l m)[i]) (sub (teams l m) b) = !v := by
        intro v h
        rw [eg, Int.toNat_natCast] at h
        rw [← h, Bool.not_not]
      refine AWP.cond rfl (fun hb => ?_) (fun hb => ?_)
      · have hx := ec true (by assumption)
        (repeat (first | refine AWP.seq ?_ | refine AWP.skip ?_ | refine AWP.label ?_ | refine AWP.exit ?_ | refine AWP.block ?_ | refine AWP.region hX kPG_ok rfl trivial ?_ | refine AWP.region hX kPG_ok rfl id ?_ | refine AWP.region hX kPG_ok rfl ⟨id, id⟩ ?_))
        refine AWP.ret ⟨.inr rfl, done1 rfl trivial rfl rfl ?_⟩
        show false = rstr l m
        rw [rall]
        symm
        rw [List.all_eq_false]
        refine ⟨(people l m)[i], List.getElem_mem hlt, ?_⟩
        rw [Bool.not_eq_true, List.all_eq_false]
        refine ⟨b, List.mem_range.2 (by omega), ?_⟩
        rw [hx]
        decide
      · have hx := ec false (by assumption)
        (repeat (first | refine AWP.seq ?_ | refine AWP.skip ?_ | refine AWP.block ?_ | refine AWP.exit ?_)); refine AWP.region hX kPG_ok rfl ?_ ?_
        · exact inR_succ (by omega)
        exact ⟨b + 1, ⟨by omega, fun c h => by
          by_cases e : c = b
          · exact e ▸ hx
          · exact hall2 c (by omega)⟩, by omega, ⟨rfl, rfl, rfl, rfl, rfl, rfl, vSucc _, trivial⟩, ⟨rfl, rfl, trivial⟩, rfl, rfl⟩
    · have hc : decide ((b : Int) < (S : Int)) = false := by assumption
      have hc := of_decide_eq_false hc
      have hbS : b = S := by omega
      subst hbS
      (repeat (first | refine AWP.seq ?_ | refine AWP.skip ?_ | refine AWP.block ?_ | refine AWP.exit ?_)); refine AWP.region hX kPG_ok rfl ?_ ?_
      · exact inR_succ (by omega)
      exact ⟨i + 1, ⟨by omega, fun p hp => by
        rw [mem_take_succ hlt] at hp
        rcases hp with hp | hp
        · exact hall p hp
        · exact hp ▸ hall2⟩, by omega, ⟨rfl, rfl, rfl, rfl, rfl, vSucc _, trivial⟩, ⟨rfl, rfl, trivial⟩, rfl, rfl⟩
  · have hc : decide ((i : Int) < ((people l m).length : Nat)) = false := by assumption
    have hc := of_decide_eq_false hc
    have hi2 : i = (people l m).length := by omega
    rw [hi2, List.take_length] at hall
    (repeat (first | refine AWP.seq ?_ | refine AWP.skip ?_ | refine AWP.label ?_ | refine AWP.exit ?_ | refine AWP.block ?_ | refine AWP.region hX kPG_ok rfl trivial ?_ | refine AWP.region hX kPG_ok rfl id ?_ | refine AWP.region hX kPG_ok rfl ⟨id, id⟩ ?_))
    refine AWP.ret ⟨.inr rfl, done1 rfl trivial rfl rfl ?_⟩
    show true = rstr l m
    rw [rall]
    symm
    rw [List.all_eq_true]
    intro p hp
    rw [List.all_eq_true]
    intro b hb
    exact hall p hp b (by rw [hS]; exact List.mem_range.1 hb)
theorem eqb_gr (x y : Gt) : eqb gr x y = decide (x = y) := by
  rw [Bool.eq_iff_iff, decide_eq_true_iff]
  exact eqb_iff
def cSame : Ctr := { args := [po, po], pre := fun _ => [], res := .bool, own := none, out := fun x => decide (x.1.1 = x.2.1.1) }
theorem rsame_ok : CtrOk Tryz.prog pG 32 cSame := by
  refine ctr_of_awp (K := pK) pK_ok Tryz.func32 rfl rfl Tryz.call32 rfl (by decide) (by intro h; cases h) ?_
  rintro w0 X hX ⟨⟨(l : List Gt), _⟩, ⟨(m : List Gt), _⟩, _⟩ hp
  change AWP _ _ _ _ _ ⟨[(0, ⟨po, (l, ())⟩), (1, ⟨po, (m, ())⟩)], [], 0⟩ _
  (repeat (first | refine AWP.seq ?_ | refine AWP.skip ?_ | refine AWP.label ?_ | refine AWP.exit ?_ | refine AWP.block ?_ | refine AWP.region hX pK_ok rfl trivial ?_ | refine AWP.region hX pK_ok rfl id ?_ | refine AWP.region hX pK_ok rfl ⟨id, id⟩ ?_))
  refine AWP.len 7 (t := gr) (xs := l) rfl fun hl => ?_
  unfold maxLen at hl
  refine AWP.cond rfl (fun hb => ?_) (fun hb => ?_)
  · have hb : (!decide ((l.length : Int) = (m.length : Nat))) = true := hb
    simp at hb
    (repeat (first | refine AWP.seq ?_ | refine AWP.skip ?_ | refine AWP.label ?_ | refine AWP.exit ?_ | refine AWP.block ?_ | refine AWP.region hX pK_ok rfl trivial ?_ | refine AWP.region hX pK_ok rfl id ?_ | refine AWP.region hX pK_ok rfl ⟨id, id⟩ ?_))
    refine AWP.ret ⟨.inr rfl, done1 rfl trivial rfl rfl ?_⟩
    show false = decide (l = m)
    rw [eq_comm, decide_eq_false_iff_not]
    exact fun e => hb (by rw [e])
  have hb : (!decide ((l.length : Int) = (m.length : Nat))) = false := hb
  simp at hb
  have hlen : l.length = m.length := by omega
  (repeat (first | refine AWP.seq ?_ | refine AWP.skip ?_ | refine AWP.label ?_ | refine AWP.exit ?_ | refine AWP.block ?_ | refine AWP.region hX pK_ok rfl trivial ?_ | refine AWP.region hX pK_ok rfl id ?_ | refine AWP.region hX pK_ok rfl ⟨id, id⟩ ?_))
  refine AWP.loop (ι := Nat) (fun k => ⟨[(2, ⟨.optr po, ⟨0, po, .here⟩⟩), (3, ⟨.optr po, ⟨1, po, .here⟩⟩), (5, ⟨i64, (k : Int)⟩)], [(0, some (.box po (l, ()))), (1, some (.box po (m, ())))], 2⟩) (fun k => k ≤ l.length ∧ l.take k = m.take k) (fun k => l.length - k) 0 ⟨by omega, by simp⟩ ⟨⟨rfl, rfl, rfl, trivial⟩, ⟨rfl, rfl, trivial⟩, rfl, rfl⟩ ?_
  rintro k ⟨hk, hn⟩
  (repeat (first | refine AWP.seq ?_ | refine AWP.skip ?_ | refine AWP.block ?_ | refine AWP.exit ?_)); refine AWP.region hX pK_ok rfl ?_ ?_
  · trivial
  refine AWP.cond rfl (fun hb => ?_) (fun hb => ?_)
  · have hc : decide ((k : Int) < (l.length : Nat)) = true := by assumption
    have hc := of_decide_eq_true hc
    have hlt : k < l.length := by omega
    have hlm : k < m.length := by omega
    have n0 : (0 : Int) ≤ (k : Int) := by omega
    have n1 : (k : Int) < (m.length : Nat) := by omega
    (repeat (first | refine AWP.seq ?_ | refine AWP.skip ?_ | refine AWP.block ?_ | refine AWP.exit ?_)); refine AWP.draw dM hX pK_ok 11 (by kernel_rfl) rfl rfl ?_ ?_ ?_
    · exact ⟨n0, by assumption, n0, n1⟩
    · trivial
    refine AWP.cond rfl (fun hb => ?_) (fun hb => ?_)
    · have hc : (!eqb gr (l.getD (k : Int).toNat zG) (m.getD (k : Int).toNat zG)) = true := by assumption
      rw [getD_at hlt, getD_at hlm] at hc
      (repeat (first | refine AWP.seq ?_ | refine AWP.skip ?_ | refine AWP.label ?_ | refine AWP.exit ?_ | refine AWP.block ?_ | refine AWP.region hX pK_ok rfl trivial ?_ | refine AWP.region hX pK_ok rfl id ?_ | refine AWP.region hX pK_ok rfl ⟨id, id⟩ ?_))
      refine AWP.ret ⟨.inr rfl, done1 rfl trivial rfl rfl ?_⟩
      show false = decide (l = m)
      rw [eq_comm, decide_eq_false_iff_not]
      intro e
      subst e
      rw [eqb_gr, decide_eq_true rfl] at hc
      cases hc
    · have hc : (!eqb gr (l.getD (k : Int).toNat zG) (m.getD (k : Int).toNat zG)) = false := by assumption
      rw [getD_at hlt, getD_at hlm, eqb_gr] at hc
      have hc : l[k] = m[k] := by simpa using hc
      (repeat (first | refine AWP.seq ?_ | refine AWP.skip ?_ | refine AWP.block ?_ | refine AWP.exit ?_)); refine AWP.region hX pK_ok rfl ?_ ?_
      · exact inR_succ (by omega)
      exact ⟨k + 1, ⟨by omega, by rw [List.take_succ_eq_append_getElem hlt, List.take_succ_eq_append_getElem hlm, hn, hc]⟩, by omega, ⟨rfl, rfl, vSucc _, trivial⟩, ⟨rfl, rfl, trivial⟩, rfl, rfl⟩
  · have hc : decide ((k : Int) < (l.length : Nat)) = false := by assumption
    have hc := of_decide_eq_false hc
    have : k = l.length := by omega
    subst this
    rw [List.take_length, hlen, List.take_length] at hn
    (repeat (first | refine AWP.seq ?_ | refine AWP.skip ?_ | refine AWP.label ?_ | refine AWP.exit ?_ | refine AWP.block ?_ | refine AWP.region hX pK_ok rfl trivial ?_ | refine AWP.region hX pK_ok rfl id ?_ | refine AWP.region hX pK_ok rfl ⟨id, id⟩ ?_))
    refine AWP.ret ⟨.inr rfl, done1 rfl trivial rfl rfl ?_⟩
    show true = decide (l = m)
    rw [eq_comm, decide_eq_true_iff]
    exact hn
/-- the digits of a number -/
def dec (n : Nat) : List UInt8 := if n < 10 then [UInt8.ofNat (48 + n)] else dec (n / 10) ++ [UInt8.ofNat (48 + n % 10)]
decreasing_by omega
theorem dec_small {n : Nat} (h : n < 10) : dec n = [UInt8.ofNat (48 + n)] := by rw [dec, if_pos h]
theorem dec_big {n : Nat} (h : ¬ n < 10) : dec n = dec (n / 10) ++ [UInt8.ofNat (48 + n % 10)] := by rw [dec, if_neg h]
theorem dec_length : ∀ (n : Nat), n ≤ 1000000 → (dec n).length ≤ 7 := by
  have h1 : ∀ n, n < 10 → (dec n).length = 1 := fun n h => by rw [dec_small h]; rfl
  have hs : ∀ n k, (dec (n / 10)).length ≤ k → (dec n).length ≤ k + 1 := fun n k h => by
    by_cases c : n < 10
    · rw [h1 n c]; omega
    · rw [dec_big c, List.length_append, List.length_singleton]; omega
  intro n hn
  refine hs _ _ (hs _ _ (hs _ _ (hs _ _ (hs _ _ (hs _ _ ?_)))))
  rw [h1 _ (by omega)]
  exact Nat.le_refl _
def cDec (k : Nat) : Ctr := { args := [i64], pre := fun x => [0 ≤ x.1, x.1 < (k : Nat), x.1 ≤ 1000000], res := .str, own := none, out := fun x => dec x.1.toNat }
theorem rdec_ok : ∀ k, CtrOk Tryz.prog pG 60 (cDec k) := by
  intro k
  induction k with
  | zero =>
    refine ctr_of_awp (K := pK) pK_ok Tryz.func60 rfl rfl Tryz.call60 rfl (by decide) (by intro h; cases h) ?_
    rintro w0 X hX ⟨(x : Int), _⟩ hp
    obtain ⟨h1, h2, _⟩ : 0 ≤ x ∧ x < (0 : Nat) ∧ x ≤ 1000000 := hp
    omega
  | succ k ih =>
    have hK : KnOk Tryz.prog pG { pK with C := [(60, cDec k)] } := pK_ok.with (.cons ih .nil)
    refine ctr_of_awp (K := { pK with C := [(60, cDec k)] }) hK Tryz.func60 rfl rfl Tryz.call60 rfl (show (1 : Nat) ≤ _ from Nat.le_of_ble_eq_true rfl) (by intro h; cases h) ?_
    rintro w0 X hX ⟨(x : Int), _⟩ hp
    obtain ⟨h1, h2, h3⟩ : 0 ≤ x ∧ x < (k + 1 : Nat) ∧ x ≤ 1000000 := hp
    change AWP _ _ _ _ _ ⟨[(0, ⟨i64, x⟩)], [], 0⟩ _
    obtain ⟨n, rfl⟩ := Int.eq_ofNat_of_zero_le h1
    (repeat (first | refine AWP.seq ?_ | refine AWP.skip ?_ | refine AWP.label ?_ | refine AWP.exit ?_ | refine AWP.block ?_ | refine AWP.region hX hK rfl trivial ?_ | refine AWP.region hX hK rfl id ?_ | refine AWP.region hX hK rfl ⟨id, id⟩ ?_))
    refine AWP.cond rfl (fun hb => ?_) (fun hb => ?_)
    · have hb : decide ((n : Int) < 10) = true := by assumption
      have hb := of_decide_eq_true hb
      (repeat (first | refine AWP.seq ?_ | refine AWP.skip ?_ | refine AWP.block ?_ | refine AWP.exit ?_)); refine AWP.region hX hK rfl ?_ ?_
      · exact inR_small (by show _ ≤ 48 + (n : Int); omega) (by show 48 + (n : Int) ≤ _; omega)
      refine AWP.ret ⟨.inr rfl, done1 rfl trivial rfl rfl ?_⟩
      show [UInt8.ofNat (Int.toNat ((48 + (n : Int)) % 256))] = dec n
      rw [dec_small (by omega), show Int.toNat ((48 + (n : Int)) % 256) = 48 + n by omega]
    · have hb : decide ((n : Int) < 10) = false := by assumption
      have hb := of_decide_eq_false hb
      have e1 : Int.tdiv (n : Int) 10 = ((n / 10 : Nat) : Int) := rfl
      have e2 : Int.tmod (n : Int) 10 = ((n % 10 : Nat) : Int) := rfl
      have ten : (10 : Int) ≠ 0 := by omega
      have i1 : inR .i64 (Int.tdiv (n : Int) 10) := by rw [e1]; exact inR_small (by omega) (by omega)
      have i2 : 0 ≤ Int.tdiv (n : Int) 10 := by rw [e1]; omega
      have i3 : Int.tdiv (n : Int) 10 < (k : Nat) := by rw [e1]; omega
      have i4 : Int.tdiv (n : Int) 10 ≤ 1000000 := by rw [e1]; omega
      have i5 : inR .i64 (48 + Int.tmod (n : Int) 10) := by rw [e2]; exact inR_small (by omega) (by omega)
      have i6 : (dec (Int.tdiv (n : Int) 10).toNat).length + 1 ≤ maxLen := by
        have := dec_length (Int.tdiv (n : Int) 10).toNat (by rw [e1]; omega)
        unfold maxLen
        omega
      (repeat (first | refine AWP.seq ?_ | refine AWP.skip ?_ | refine AWP.block ?_ | refine AWP.exit ?_)); refine AWP.drawM dM hX hK 10 (by kernel_rfl) rfl rfl ?_ ?_ ?_
      · exact ⟨ten, i1, i2, i3, i4, ten, i5, i6⟩
      · trivial
      refine AWP.ret ⟨.inr rfl, done1 rfl trivial rfl rfl ?_⟩
      show dec (Int.tdiv (n : Int) 10).toNat ++ [UInt8.ofNat (Int.toNat ((48 + Int.tmod (n : Int) 10) % 256))] = dec n
      rw [dec_big (n := n) (by omega), e1, e2, Int.toNat_natCast, show Int.toNat ((48 + ((n % 10 : Nat) : Int)) % 256) = 48 + n % 10 by omega]
/-- a number's digits, for numbers up to 1000000 -/
def cDecimal : Ctr := { args := [i64], pre := fun x => [0 ≤ x.1, x.1 ≤ 1000000], res := .str, own := none, out := fun x => dec x.1.toNat }
theorem rdecimal_ok : CtrOk Tryz.prog pG 60 cDecimal :=
  ⟨(rdec_ok 1000001).1, fun w O xs vs hO hr hp hG => (rdec_ok 1000001).2 w O xs vs hO hr (by
    obtain ⟨(x : Int), _⟩ := xs
    obtain ⟨h1, h2⟩ : 0 ≤ x ∧ x ≤ 1000000 := hp
    exact ⟨h1, by show x < ((1000001 : Nat) : Int); omega, h2⟩) hG⟩
def sPerson : List UInt8 := [112, 101, 114, 115, 111, 110, 32]
def sTeam : List UInt8 := [116, 101, 97, 109, 32]
def sAll : List UInt8 := [97, 108, 108]
def sAsk : List UInt8 := [97, 115, 107, 32]
def sBook : List UInt8 := [98, 111, 111, 107, 32]
def sMove : List UInt8 := [109, 111, 118, 101, 32]
def sGrain : List UInt8 := [32, 103, 114, 97, 105, 110, 32]
def sRank : List UInt8 := [32, 114, 97, 110, 107, 32]
def whoT (g : Gt) : List UInt8 := if 0 ≤ gP g then sPerson ++ dec (gP g).toNat else if 0 ≤ gT g then sTeam ++ dec (gT g).toNat else sAll
def lineT (g : Gt) : List UInt8 := (if gA g = 1 then sAsk ++ whoT g ++ sGrain ++ dec (gG g).toNat else if gA g = 2 then sBook ++ whoT g else sMove ++ whoT g ++ sRank ++ dec (gR g).toNat) ++ [10]
def text (l : List Gt) : List UInt8 := (l.map lineT).flatten
def cWho : Ctr := { args := [gr], pre := fun x => [gP x.1 ≤ 1000000, gT x.1 ≤ 1000000], res := .str, own := none, out := fun x => whoT x.1 }
def kPH : Kn := { pK with C := [(60, cDecimal)] }
theorem kPH_ok : KnOk Tryz.prog pG kPH := pK_ok.with (.cons rdecimal_ok .nil)
theorem rwho_ok : CtrOk Tryz.prog pG 59 cWho := by
  refine ctr_of_awp (K := kPH) kPH_ok Tryz.func59 rfl rfl Tryz.call59 rfl (by decide) (by intro h; cases h) ?_
  rintro w0 X hX ⟨⟨(a : Int), (p : Int), (t : Int), (g : Int), (r : Int), _⟩, _⟩ hp
  obtain ⟨h1, h2⟩ : p ≤ 1000000 ∧ t ≤ 1000000 := hp
  change AWP _ _ _ _ _ ⟨[(0, ⟨gr, (a, p, t, g, r, ())⟩)], [], 0⟩ _
  have hd : ∀ x : Int, 0 ≤ x → x ≤ 1000000 → (dec x.toNat).length ≤ 7 := fun x h0 h => dec_length _ (by omega)
  (repeat (first | refine AWP.seq ?_ | refine AWP.skip ?_ | refine AWP.label ?_ | refine AWP.exit ?_ | refine AWP.block ?_ | refine AWP.region hX kPH_ok rfl trivial ?_ | refine AWP.region hX kPH_ok rfl id ?_ | refine AWP.region hX kPH_ok rfl ⟨id, id⟩ ?_))
  refine AWP.cond rfl (fun hb => ?_) (fun hb => ?_)
  · have hb : decide (p ≥ 0) = true := by assumption
    have hb := of_decide_eq_true hb
    have := hd p hb h1
    (repeat (first | refine AWP.seq ?_ | refine AWP.skip ?_ | refine AWP.block ?_ | refine AWP.exit ?_)); refine AWP.region hX kPH_ok rfl ?_ ?_
    · exact ⟨hb, h1, by show 7 + (dec p.toNat).length ≤ maxLen; unfold maxLen; omega⟩
    refine AWP.ret ⟨.inr rfl, done1 rfl trivial rfl rfl ?_⟩
    show sPerson ++ dec p.toNat = whoT (a, p, t, g, r, ())
    unfold whoT
    rw [if_pos (show 0 ≤ gP (a, p, t, g, r, ()) from hb)]
    rfl
  have hn : decide (p ≥ 0) = false := by assumption
  have hn := of_decide_eq_false hn
  (repeat (first | refine AWP.seq ?_ | refine AWP.skip ?_ | refine AWP.label ?_ | refine AWP.exit ?_ | refine AWP.block ?_ | refine AWP.region hX kPH_ok rfl trivial ?_ | refine AWP.region hX kPH_ok rfl id ?_ | refine AWP.region hX kPH_ok rfl ⟨id, id⟩ ?_))
  refine AWP.cond rfl (fun hb => ?_) (fun hb => ?_)
  · have hc : decide (t ≥ 0) = true := by assumption
    have hc := of_decide_eq_true hc
    have := hd t hc h2
    (repeat (first | refine AWP.seq ?_ | refine AWP.skip ?_ | refine AWP.block ?_ | refine AWP.exit ?_)); refine AWP.region hX kPH_ok rfl ?_ ?_
    · exact ⟨hc, h2, by show 5 + (dec t.toNat).length ≤ maxLen; unfold maxLen; omega⟩
    refine AWP.ret ⟨.inr rfl, done1 rfl trivial rfl rfl ?_⟩
    show sTeam ++ dec t.toNat = whoT (a, p, t, g, r, ())
    unfold whoT
    rw [if_neg (show ¬ 0 ≤ gP (a, p, t, g, r, ()) from hn), if_pos (show 0 ≤ gT (a, p, t, g, r, ()) from hc)]
    rfl
  · have hc : decide (t ≥ 0) = false := by assumption
    have hc := of_decide_eq_false hc
    (repeat (first | refine AWP.seq ?_ | refine AWP.skip ?_ | refine AWP.label ?_ | refine AWP.exit ?_ | refine AWP.block ?_ | refine AWP.region hX kPH_ok rfl trivial ?_ | refine AWP.region hX kPH_ok rfl id ?_ | refine AWP.region hX kPH_ok rfl ⟨id, id⟩ ?_))
    refine AWP.ret ⟨.inr rfl, done1 rfl trivial rfl rfl ?_⟩
    show sAll = whoT (a, p, t, g, r, ())
    unfold whoT
    rw [if_neg (show ¬ 0 ≤ gP (a, p, t, g, r, ()) from hn), if_neg (show ¬ 0 ≤ gT (a, p, t, g, r, ()) from hc)]
theorem whoT_length {g : Gt} (h1 : gP g ≤ 1000000) (h2 : gT g ≤ 1000000) : (whoT g).length ≤ 14 := by
  unfold whoT
  split
  · have := dec_length (gP g).toNat (by omega)
    rw [List.length_append]
    show 7 + _ ≤ _
    omega
  · split
    · have := dec_length (gT g).toNat (by omega)
      rw [List.length_append]
      show 5 + _ ≤ _
      omega
    · decide
theorem lineT_length {g : Gt} (h : OkG g) : (lineT g).length ≤ 40 := by
  have h1 := h.2.1
  have h2 := h.2.2.1
  have h3 := h.2.2.2.1
  have hw := whoT_length (g := g) (by omega) (by omega)
  have hg := dec_length (gG g).toNat (by omega)
  have hr := dec_length (gR g).toNat (by omega)
  unfold lineT
  rw [List.length_append]
  split
  · simp only [List.length_append]
    show 4 + _ + 7 + _ + 1 ≤ _
    omega
  · split
    · simp only [List.length_append]
      show 5 + _ + 1 ≤ _
      omega
    · simp only [List.length_append]
      show 5 + _ + 6 + _ + 1 ≤ _
      omega
theorem text_length {l : List Gt} (h : ∀ g ∈ l, OkG g) : (text l).length ≤ 40 * l.length := by
  induction l with
  | nil => exact Nat.le_refl _
  | cons g r ih =>
    have h1 := lineT_length (h g (List.mem_cons_self ..))
    have h2 := ih fun x hx => h x (List.mem_cons_of_mem _ hx)
    show (lineT g ++ text r).length ≤ _
    rw [List.length_append, List.length_cons]
    omega
theorem text_snoc (l : List Gt) (g : Gt) : text (l ++ [g]) = text l ++ lineT g := by unfold text; simp
def cFormat : Ctr := { args := [po], pre := fun x => [OkP x.1.1], res := .str, own := none, out := fun x => text x.1.1 }
def kPI : Kn := { pK with C := [(60, cDecimal), (59, cWho)] }
theorem kPI_ok : KnOk Tryz.prog pG kPI := pK_ok.with (.cons rdecimal_ok (.cons rwho_ok .nil))
def sFmt (l : List Gt) (k : Nat) (s : List UInt8) (g : Gt) : AS := ⟨[(1, ⟨.optr po, ⟨0, po, .here⟩⟩), (3, ⟨.str, s⟩), (4, ⟨i64, (k : Int)⟩), (5, ⟨.optr gr, ⟨1, gr, .here⟩⟩)], [(0, some (.box po (l, ()))), (1, some (.box gr g))], 2⟩
theorem rformat_ok : CtrOk Tryz.prog pG 29 cFormat := by
  refine ctr_of_awp (K := kPI) kPI_ok Tryz.func29 rfl rfl Tryz.call29 rfl (by decide) (by intro h; cases h) ?_
  rintro w0 X hX ⟨⟨(l : List Gt), _⟩, _⟩ hp
  have hp : OkP l := hp
  change AWP _ _ _ _ _ ⟨[(0, ⟨po, (l, ())⟩)], [], 0⟩ _
  (repeat (first | refine AWP.seq ?_ | refine AWP.skip ?_ | refine AWP.label ?_ | refine AWP.exit ?_ | refine AWP.block ?_ | refine AWP.region hX kPI_ok rfl trivial ?_ | refine AWP.region hX kPI_ok rfl id ?_ | refine AWP.region hX kPI_ok rfl ⟨id, id⟩ ?_))
  refine AWP.loop (ι := Nat) (fun k => ⟨[(1, ⟨.optr po, ⟨0, po, .here⟩⟩), (3, ⟨.str, text (l.take k)⟩), (4, ⟨i64, (k : Int)⟩)], [(0, some (.box po (l, ())))], 1⟩) (fun k => k ≤ l.length) (fun k => l.length - k) 0 (by omega) ⟨⟨rfl, rfl, rfl, trivial⟩, ⟨rfl, trivial⟩, rfl, rfl⟩ ?_
  intro k hk
  have hl := hp.1
  have htl : (text (l.take k)).length ≤ 2560 := by
    have := text_length (l := l.take k) fun g hg => hp.2 g (List.mem_of_mem_take hg)
    rw [List.length_take] at this
    omega
  (repeat (first | refine AWP.seq ?_ | refine AWP.skip ?_ | refine AWP.block ?_ | refine AWP.exit ?_)); refine AWP.region hX kPI_ok rfl ?_ ?_
  · trivial
  refine AWP.cond rfl (fun hb => ?_) (fun hb => ?_)
  · have hb : decide ((k : Int) < (l.length : Nat)) = true := by assumption
    have hb := of_decide_eq_true hb
    have hlt : k < l.length := by omega
    have n0 : (0 : Int) ≤ (k : Int) := by omega
    (repeat (first | refine AWP.seq ?_ | refine AWP.skip ?_ | refine AWP.block ?_ | refine AWP.exit ?_)); refine AWP.region hX kPI_ok rfl ?_ ?_
    · exact ⟨n0, hb⟩
    have hG : l.getD (k : Int).toNat zG = l[k] := getD_at hlt
    have hok := hp.2 _ (List.getElem_mem hlt)
    generalize hg : l[k] = g at hok hG
    refine AWP.fit (σ' := sFmt l k (text (l.take k)) g) ⟨⟨rfl, rfl, rfl, rfl, trivial⟩, ⟨rfl, boxGr hG, trivial⟩, rfl, rfl⟩ ?_
    have o1 : gP g ≤ 1000000 := by have := hok.2.1; omega
    have o2 : gT g ≤ 1000000 := by have := hok.2.1; omega
    have o3 : 0 ≤ gG g := hok.2.2.1.1
    have o4 : gG g ≤ 1000000 := by have := hok.2.2.1; omega
    have o5 : 0 ≤ gR g := hok.2.2.2.1.1
    have o6 : gR g ≤ 1000000 := by have := hok.2.2.2.1; omega
    have hw := whoT_length o1 o2
    have dg := dec_length (gG g).toNat (by omega)
    have dr := dec_length (gR g).toNat (by omega)
    have s1 : sAsk.length = 4 := rfl
    have s2 : sBook.length = 5 := rfl
    have s3 : sMove.length = 5 := rfl
    have s4 : sGrain.length = 7 := rfl
    have s5 : sRank.length = 6 := rfl
    have s6 : maxLen = 9223372036854775807 := rfl
    have hbody : lineT g = (if gA g = 1 then sAsk ++ whoT g ++ sGrain ++ dec (gG g).toNat else if gA g = 2 then sBook ++ whoT g else sMove ++ whoT g ++ sRank ++ dec (gR g).toNat) ++ [10] := rfl
    generalize hB : (if gA g = 1 then sAsk ++ whoT g ++ sGrain ++ dec (gG g).toNat else if gA g = 2 then sBook ++ whoT g else sMove ++ whoT g ++ sRank ++ dec (gR g).toNat) = B at hbody
    have hBl : B.length ≤ 39 := by
      have := lineT_length hok
      rw [hbody, List.length_append, List.length_singleton] at this
      omega
    refine AWP.join (σ' := sFmt l k (text (l.take k) ++ B) g) ?_ ?_
    · unfold sFmt
      (repeat (first | refine AWP.seq ?_ | refine AWP.skip ?_ | refine AWP.label ?_ | refine AWP.exit ?_ | refine AWP.block ?_ | refine AWP.region hX kPI_ok rfl trivial ?_ | refine AWP.region hX kPI_ok rfl id ?_ | refine AWP.region hX kPI_ok rfl ⟨id, id⟩ ?_))
      refine AWP.cond rfl (fun hb => ?_) (fun hb => ?_)
      · have hc : decide (gA g = 1) = true := by assumption
        have hc := of_decide_eq_true hc
        (repeat (first | refine AWP.seq ?_ | refine AWP.skip ?_ | refine AWP.block ?_ | refine AWP.exit ?_)); refine AWP.draw dM hX kPI_ok 10 (by kernel_rfl) rfl rfl ?_ ?_ ?_
        · exact ⟨by show (text (l.take k)).length + sAsk.length ≤ maxLen; omega, o1, o2, by show (text (l.take k) ++ sAsk).length + (whoT g).length ≤ maxLen; simp only [List.length_append]; omega, by show (text (l.take k) ++ sAsk ++ whoT g).length + sGrain.length ≤ maxLen; simp only [List.length_append]; omega, o3, o4, by show (text (l.take k) ++ sAsk ++ whoT g ++ sGrain).length + (dec (gG g).toNat).length ≤ maxLen; simp only [List.length_append]; omega⟩
        · trivial
        refine ⟨⟨rfl, vStr ?_, rfl, rfl, trivial⟩, ⟨rfl, rfl, trivial⟩, rfl, rfl⟩
        rw [← hB, if_pos hc]
        show text (l.take k) ++ sAsk ++ whoT g ++ sGrain ++ dec (gG g).toNat = _
        simp only [List.append_assoc]
      have h1 : decide (gA g = 1) = false := by assumption
      have h1 := of_decide_eq_false h1
      (repeat (first | refine AWP.seq ?_ | refine AWP.skip ?_ | refine AWP.label ?_ | refine AWP.exit ?_ | refine AWP.block ?_ | refine AWP.region hX kPI_ok rfl trivial ?_ | refine AWP.region hX kPI_ok rfl id ?_ | refine AWP.region hX kPI_ok rfl ⟨id, id⟩ ?_))
      refine AWP.cond rfl (fun hb => ?_) (fun hb => ?_)
      · have hc : decide (gA g = 2) = true := by assumption
        have hc := of_decide_eq_true hc
        (repeat (first | refine AWP.seq ?_ | refine AWP.skip ?_ | refine AWP.block ?_ | refine AWP.exit ?_)); refine AWP.region hX kPI_ok rfl ?_ ?_
        · exact ⟨by show (text (l.take k)).length + sBook.length ≤ maxLen; omega, o1, o2, by show (text (l.take k) ++ sBook).length + (whoT g).length ≤ maxLen; simp only [List.length_append]; omega⟩
        refine ⟨⟨rfl, vStr ?_, rfl, rfl, trivial⟩, ⟨rfl, rfl, trivial⟩, rfl, rfl⟩
        rw [← hB, if_neg h1, if_pos hc]
        show text (l.take k) ++ sBook ++ whoT g = _
        simp only [List.append_assoc]
      · have hc : decide (gA g = 2) = false := by assumption
        have hc := of_decide_eq_false hc
        (repeat (first | refine AWP.seq ?_ | refine AWP.skip ?_ | refine AWP.block ?_ | refine AWP.exit ?_)); refine AWP.draw dM hX kPI_ok 10 (by kernel_rfl) rfl rfl ?_ ?_ ?_
        · exact ⟨by show (text (l.take k)).length + sMove.length ≤ maxLen; omega, o1, o2, by show (text (l.take k) ++ sMove).length + (whoT g).length ≤ maxLen; simp only [List.length_append]; omega, by show (text (l.take k) ++ sMove ++ whoT g).length + sRank.length ≤ maxLen; simp only [List.length_append]; omega, o5, o6, by show (text (l.take k) ++ sMove ++ whoT g ++ sRank).length + (dec (gR g).toNat).length ≤ maxLen; simp only [List.length_append]; omega⟩
        · trivial
        refine ⟨⟨rfl, vStr ?_, rfl, rfl, trivial⟩, ⟨rfl, rfl, trivial⟩, rfl, rfl⟩
        rw [← hB, if_neg h1, if_neg hc]
        show text (l.take k) ++ sMove ++ whoT g ++ sRank ++ dec (gR g).toNat = _
        simp only [List.append_assoc]
    · unfold sFmt
      (repeat (first | refine AWP.seq ?_ | refine AWP.skip ?_ | refine AWP.block ?_ | refine AWP.exit ?_)); refine AWP.region hX kPI_ok rfl ?_ ?_
      · show (text (l.take k) ++ B).length + 1 ≤ maxLen
        rw [List.length_append]
        omega
      (repeat (first | refine AWP.seq ?_ | refine AWP.skip ?_ | refine AWP.block ?_ | refine AWP.exit ?_)); refine AWP.region hX kPI_ok rfl ?_ ?_
      · exact inR_succ (by omega)
      refine ⟨k + 1, by omega, by omega, ⟨rfl, vStr ?_, vSucc _, trivial⟩, ⟨rfl, trivial⟩, rfl, rfl⟩
      rw [List.take_succ_eq_append_getElem hlt, text_snoc, hg, hbody, ← List.append_assoc]
  · have hb : decide ((k : Int) < (l.length : Nat)) = false := by assumption
    have hb := of_decide_eq_false hb
    have : k = l.length := by omega
    subst this
    rw [List.take_length]
    (repeat (first | refine AWP.seq ?_ | refine AWP.skip ?_ | refine AWP.label ?_ | refine AWP.exit ?_ | refine AWP.block ?_ | refine AWP.region hX kPI_ok rfl trivial ?_ | refine AWP.region hX kPI_ok rfl id ?_ | refine AWP.region hX kPI_ok rfl ⟨id, id⟩ ?_))
    exact AWP.ret ⟨.inr rfl, done1 rfl trivial rfl rfl rfl⟩
end Go.Proofs.YthkhgpbjfcmopaaGreatDoor
