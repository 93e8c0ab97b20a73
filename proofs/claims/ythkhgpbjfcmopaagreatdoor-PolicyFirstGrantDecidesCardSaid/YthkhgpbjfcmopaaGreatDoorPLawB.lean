/-
  The package and the reference, policies as they come: the statement.
  The package and the reference, valid policies: the statement.
  The first grant decides; more teams and lower ranks: the statements.
  Stricter is a preorder with a least and a greatest policy: the statement.
-/
import Derived.Test.YthkhgpbjfcmopaaGreatDoorPLawS
import Derived.Test.YthkhgpbjfcmopaaGreatDoorPPlC
namespace Go.Proofs.YthkhgpbjfcmopaaGreatDoor
open Go Go.RowKit
set_option linter.unusedSimpArgs false
set_option linter.unusedVariables false
set_option maxRecDepth 100000
def cRaw : Ctr := { args := [po], pre := fun _ => [], res := po, own := none, out := fun x => (x.1.1.take (min ((x.1.1.length : Nat) : Int) 70).toNat, ()) }
theorem raw_ok : CtrOk Tryz.prog pH 15 cRaw := by
  refine ctr_of_awp (K := pK) hK_ok Tryz.func15 rfl rfl Tryz.call15 rfl (by decide) (by intro h; cases h) ?_
  rintro w0 X hX ⟨⟨(l : List Gt), _⟩, _⟩ hp
  change AWP _ _ _ _ _ ⟨[(0, ⟨po, (l, ())⟩)], [], 0⟩ _
  (repeat (first | refine AWP.seq ?_ | refine AWP.skip ?_ | refine AWP.block ?_ | refine AWP.exit ?_)); refine AWP.region hX hK_ok rfl ?_ ?_
  · trivial
  have m0 : (0 : Int) ≤ min (((l.length : Nat) : Int)) 70 := by omega
  have m1 : min (((l.length : Nat) : Int)) 70 ≤ ((l.length : Nat) : Int) := by omega
  (repeat (first | refine AWP.seq ?_ | refine AWP.skip ?_ | refine AWP.block ?_ | refine AWP.exit ?_)); refine AWP.region hX hK_ok rfl ?_ ?_
  · repeat' (first | exact trivial | assumption | exact m0 | exact m1 | (refine ⟨?_, ?_⟩) | (intro _) | exact Nat.le_of_ble_eq_true rfl | exact Int.natCast_nonneg _ | (simp_all [allP]; done))
  exact AWP.ret ⟨.inr rfl, done1 rfl trivial rfl rfl rfl⟩
def cFew : Ctr := { args := [ints], pre := fun _ => [], res := ints, own := none, out := fun x => x.1.take (min ((x.1.length : Nat) : Int) 10).toNat }
theorem few_ok : CtrOk Tryz.prog pH 16 cFew := by
  refine ctr_of_awp (K := pK) hK_ok Tryz.func16 rfl rfl Tryz.call16 rfl (by decide) (by intro h; cases h) ?_
  rintro w0 X hX ⟨(l : List Int), _⟩ hp
  change AWP _ _ _ _ _ ⟨[(0, ⟨ints, l⟩)], [], 0⟩ _
  (repeat (first | refine AWP.seq ?_ | refine AWP.skip ?_ | refine AWP.block ?_ | refine AWP.exit ?_)); refine AWP.region hX hK_ok rfl ?_ ?_
  · trivial
  have m0 : (0 : Int) ≤ min (((l.length : Nat) : Int)) 10 := by omega
  have m1 : min (((l.length : Nat) : Int)) 10 ≤ ((l.length : Nat) : Int) := by omega
  (repeat (first | refine AWP.seq ?_ | refine AWP.skip ?_ | refine AWP.block ?_ | refine AWP.exit ?_)); refine AWP.region hX hK_ok rfl ?_ ?_
  · repeat' (first | exact trivial | assumption | exact m0 | exact m1 | (refine ⟨?_, ?_⟩) | (intro _) | exact Nat.le_of_ble_eq_true rfl | exact Int.natCast_nonneg _ | (simp_all [allP]; done))
  exact AWP.ret ⟨.inr rfl, done1 rfl trivial rfl rfl rfl⟩
def kLb : Kn := { pK with C := [(14, cSanity), (15, cRaw), (16, cFew), (17, cValid), (18, cValid), (19, cGrainP), (20, cGrain), (21, cBookP), (22, cBook), (23, cMoveP), (24, cMove)] }
theorem kLb_ok : KnOk Tryz.prog pH kLb := hK_ok.with (.cons sanity_ok <| .cons raw_ok <| .cons few_ok <| .cons valid_ok.lift <| .cons rvalid_ok.lift <| .cons grain_ok.lift <| .cons rgrain_ok.lift <| .cons book_ok.lift <| .cons rbook_ok.lift <| .cons move_ok.lift <| .cons rmove_ok.lift .nil)
set_option maxHeartbeats 1000000 in
theorem law1_ok : CtrOk Tryz.prog pH 3 (lawCtr [po, who, i64]) := by
  refine ctr_of_awp (K := kLb) kLb_ok Tryz.func3 rfl rfl Tryz.call3 rfl (by decide) (by intro h; cases h) ?_
  rintro w0 X hX ⟨⟨(l : List Gt), _⟩, ⟨(person : Int), (teams : List Int), _⟩, (rank : Int), _⟩ hp
  change AWP _ _ _ _ _ ⟨[(0, ⟨po, (l, ())⟩), (1, ⟨who, (person, teams, ())⟩), (2, ⟨i64, rank⟩)], [], 0⟩ _
  (repeat (first | refine AWP.seq ?_ | refine AWP.skip ?_ | refine AWP.block ?_ | refine AWP.exit ?_)); refine AWP.region hX kLb_ok rfl ?_ ?_
  · trivial
  (repeat (first | refine AWP.seq ?_ | refine AWP.skip ?_ | refine AWP.block ?_ | refine AWP.exit ?_)); refine AWP.region hX kLb_ok rfl ?_ ?_
  · trivial
  (repeat (first | refine AWP.seq ?_ | refine AWP.skip ?_ | refine AWP.block ?_ | refine AWP.exit ?_)); refine AWP.region hX kLb_ok rfl ?_ ?_
  · trivial
  (repeat (first | refine AWP.seq ?_ | refine AWP.skip ?_ | refine AWP.block ?_ | refine AWP.exit ?_)); refine AWP.region hX kLb_ok rfl ?_ ?_
  · trivial
  (repeat (first | refine AWP.seq ?_ | refine AWP.skip ?_ | refine AWP.block ?_ | refine AWP.exit ?_)); refine AWP.draw dM hX kLb_ok 46 (by kernel_rfl) rfl rfl ?_ ?_ ?_
  · repeat' (first | exact trivial | assumption | (refine ⟨?_, ?_⟩) | (intro _) | exact Nat.le_of_ble_eq_true rfl | exact Int.natCast_nonneg _ | (simp_all [allP]; done))
  · trivial
  refine AWP.ret ⟨.inr rfl, done1 rfl trivial rfl rfl ?_⟩
  exact bif_true (bif_true (bif_true (bif_true (eqb_iff.2 rfl) (beq_self_eq_true (α := Int) _)) (eqb_iff.2 rfl)) (eqb_iff.2 rfl)) rfl
end Go.Proofs.YthkhgpbjfcmopaaGreatDoor
namespace Go.Proofs.YthkhgpbjfcmopaaGreatDoor
open Go Go.RowKit
set_option linter.unusedSimpArgs false
set_option linter.unusedVariables false
set_option maxRecDepth 100000
def kLc : Kn := { pK with C := kLb.C ++ [(25, cMade), (27, cPStr), (28, cRStr), (26, cFormatP), (29, cFormat)] }
theorem kLc_ok : KnOk Tryz.prog pH kLc := hK_ok.with (.cons sanity_ok <| .cons raw_ok <| .cons few_ok <| .cons valid_ok.lift <| .cons rvalid_ok.lift <| .cons grain_ok.lift <| .cons rgrain_ok.lift <| .cons book_ok.lift <| .cons rbook_ok.lift <| .cons move_ok.lift <| .cons rmove_ok.lift <| .cons rmade_ok.lift <| .cons stricter_ok.lift <| .cons rstricter_ok.lift <| .cons format_ok <| .cons rformat_ok.lift .nil)
set_option maxHeartbeats 1000000 in
theorem law2_ok : CtrOk Tryz.prog pH 4 (lawCtr [.slice gr, .slice gr, who]) := by
  refine ctr_of_awp (K := kLc) kLc_ok Tryz.func4 rfl rfl Tryz.call4 rfl (by decide) (by intro h; cases h) ?_
  rintro w0 X hX ⟨(a : List Gt), (b : List Gt), ⟨(person : Int), (ts : List Int), _⟩, _⟩ hp
  change AWP _ _ _ _ _ ⟨[(0, ⟨.slice gr, a⟩), (1, ⟨.slice gr, b⟩), (2, ⟨who, (person, ts, ())⟩)], [], 0⟩ _
  have ha := made_ok a
  have hb := made_ok b
  have hab := made_teams a b
  have hba := made_teams b a
  (repeat (first | refine AWP.seq ?_ | refine AWP.skip ?_ | refine AWP.block ?_ | refine AWP.exit ?_)); refine AWP.region hX kLc_ok rfl ?_ ?_
  · trivial
  (repeat (first | refine AWP.seq ?_ | refine AWP.skip ?_ | refine AWP.block ?_ | refine AWP.exit ?_)); refine AWP.region hX kLc_ok rfl ?_ ?_
  · trivial
  (repeat (first | refine AWP.seq ?_ | refine AWP.skip ?_ | refine AWP.block ?_ | refine AWP.exit ?_)); refine AWP.region hX kLc_ok rfl ?_ ?_
  · trivial
  (repeat (first | refine AWP.seq ?_ | refine AWP.skip ?_ | refine AWP.block ?_ | refine AWP.exit ?_)); refine AWP.region hX kLc_ok rfl ?_ ?_
  · trivial
  (repeat (first | refine AWP.seq ?_ | refine AWP.skip ?_ | refine AWP.block ?_ | refine AWP.exit ?_)); refine AWP.region hX kLc_ok rfl ?_ ?_
  · trivial
  (repeat (first | refine AWP.seq ?_ | refine AWP.skip ?_ | refine AWP.block ?_ | refine AWP.exit ?_)); refine AWP.draw dM hX kLc_ok 69 (by kernel_rfl) rfl rfl ?_ ?_ ?_
  · repeat' (first | exact trivial | assumption | (refine ⟨?_, ?_⟩) | (intro _))
  · trivial
  refine AWP.ret ⟨.inr rfl, done1 rfl trivial rfl rfl ?_⟩
  have f1 : cFormatP.out ((made a, ()), ()) = (text (made a), 0, ()) := if_pos ha
  have e1 : decide (OkP (made a)) = true := decide_eq_true ha
  have e2 : eqb .str (cFormatP.out ((made a, ()), ())).1 (text (made a)) = true := by rw [f1]; exact eqb_iff.2 rfl
  have e3 : ((cFormatP.out ((made a, ()), ())).2.1 == 0) = true := by rw [f1]; rfl
  have e4 : eqb .bool (pstr (made a) (made b)) (rstr (made a) (made b)) = true := by rw [pstr_rstr]; exact eqb_iff.2 rfl
  have e5 : eqb .bool (pstr (made b) (made a)) (rstr (made b) (made a)) = true := by rw [pstr_rstr]; exact eqb_iff.2 rfl
  exact bif_true (bif_true (bif_true (bif_true (bif_true (bif_true (bif_true (bif_true e1 (beq_self_eq_true (α := Int) _)) (eqb_iff.2 rfl)) (eqb_iff.2 rfl)) e4) e5) e2) e3) rfl
end Go.Proofs.YthkhgpbjfcmopaaGreatDoor
namespace Go.Proofs.YthkhgpbjfcmopaaGreatDoor
open Go Go.RowKit
set_option linter.unusedSimpArgs false
set_option linter.unusedVariables false
set_option maxRecDepth 100000
theorem made_len (l : List Gt) : (made l).length ≤ 12 := by unfold made; rw [List.length_map, List.length_take]; omega
theorem made_one (g : Gt) : made [g] = [mk1 g] := rfl
theorem okP_app {l m : List Gt} (hl : OkP l) (hm : OkP m) (h : l.length + m.length ≤ 64) : OkP (l ++ m) := ⟨by rw [List.length_append]; exact h, fun g hg => (List.mem_append.1 hg).elim (hl.2 g) (hm.2 g)⟩
theorem bif_or {a b : Bool} (h : a = true → b = true) : (bif !a then true else b) = true := by
  cases a with
  | false => rfl
  | true => exact h rfl
set_option maxHeartbeats 1000000 in
theorem law5_ok : CtrOk Tryz.prog pH 7 (lawCtr [.slice gr, who, .arr 2 i64]) := by
  refine ctr_of_awp (K := kLc) kLc_ok Tryz.func7 rfl rfl Tryz.call7 rfl (by decide) (by intro h; cases h) ?_
  rintro w0 X hX ⟨(l : List Gt), ⟨(person : Int), (ts : List Int), _⟩, (rk : List Int), _⟩ hp
  change AWP _ _ _ _ _ ⟨[(0, ⟨.slice gr, l⟩), (1, ⟨who, (person, ts, ())⟩), (2, ⟨.arr 2 i64, rk⟩)], [], 0⟩ _
  (repeat (first | refine AWP.seq ?_ | refine AWP.skip ?_ | refine AWP.block ?_ | refine AWP.exit ?_)); refine AWP.region hX kLc_ok rfl ?_ ?_
  · trivial
  (repeat (first | refine AWP.seq ?_ | refine AWP.skip ?_ | refine AWP.block ?_ | refine AWP.exit ?_)); refine AWP.region hX kLc_ok rfl ?_ ?_
  · trivial
  (repeat (first | refine AWP.seq ?_ | refine AWP.skip ?_ | refine AWP.block ?_ | refine AWP.exit ?_)); refine AWP.region hX kLc_ok rfl ?_ ?_
  · trivial
  (repeat (first | refine AWP.seq ?_ | refine AWP.skip ?_ | refine AWP.block ?_ | refine AWP.exit ?_)); refine AWP.region hX kLc_ok rfl ?_ ?_
  · trivial
  have hk : (ts.take (min ((ts.length : Nat) : Int) 10).toNat).length ≤ 10 := by rw [List.length_take]; omega
  obtain ⟨ws, hws⟩ : ∃ ws, ts.take (min ((ts.length : Nat) : Int) 10).toNat = ws := ⟨_, rfl⟩
  rw [hws] at hk
  refine AWP.fit (σ' := ⟨[(4, ⟨.optr who, ⟨0, who, .here⟩⟩), (5, ⟨.optr (.arr 2 i64), ⟨1, .arr 2 i64, .here⟩⟩), (7, ⟨.bool, true⟩), (8, ⟨.optr po, ⟨2, po, .here⟩⟩), (9, ⟨ints, ws⟩)], [(0, some (.box who (person, ts, ()))), (1, some (.box (.arr 2 i64) rk)), (2, some (.box po (made l, ())))], 3⟩) ⟨⟨rfl, rfl, rfl, rfl, vInts hws, trivial⟩, ⟨rfl, rfl, rfl, trivial⟩, rfl, rfl⟩ ?_
  (repeat (first | refine AWP.seq ?_ | refine AWP.skip ?_ | refine AWP.block ?_ | refine AWP.exit ?_)); refine AWP.region hX kLc_ok rfl ?_ ?_
  · show 0 + ws.length ≤ 1000000000
    omega
  (repeat (first | refine AWP.seq ?_ | refine AWP.skip ?_ | refine AWP.block ?_ | refine AWP.exit ?_)); refine AWP.region hX kLc_ok rfl ?_ ?_
  · refine ⟨Int.le_refl _, by decide, by decide, ?_⟩
    show ws.length + 1 ≤ 1000000000
    omega
  refine AWP.frz hX 10 ?_
  refine AWP.fit (σ' := ⟨[(4, ⟨.optr who, ⟨0, who, .here⟩⟩), (5, ⟨.optr (.arr 2 i64), ⟨1, .arr 2 i64, .here⟩⟩), (7, ⟨.bool, true⟩), (8, ⟨.optr po, ⟨2, po, .here⟩⟩), (9, ⟨ints, ws⟩), (10, ⟨ints, ws ++ [rk.getD 0 0]⟩)], [(0, some (.box who (person, ts, ()))), (1, some (.box (.arr 2 i64) rk)), (2, some (.box po (made l, ())))], 4⟩) ⟨⟨rfl, rfl, rfl, rfl, rfl, rfl, trivial⟩, ⟨rfl, rfl, rfl, trivial⟩, rfl, rfl⟩ ?_
  (repeat (first | refine AWP.seq ?_ | refine AWP.skip ?_ | refine AWP.block ?_ | refine AWP.exit ?_)); refine AWP.draw dM hX kLc_ok 11 (by kernel_rfl) rfl rfl ?_ ?_ ?_
  · repeat' (first | exact trivial | exact (by decide : Int.toNat 1 < 2) | (refine ⟨?_, ?_⟩) | decide)
  · trivial
  refine AWP.fit (σ' := ⟨[(4, ⟨.optr who, ⟨0, who, .here⟩⟩), (7, ⟨.bool, true⟩), (8, ⟨.optr po, ⟨2, po, .here⟩⟩), (9, ⟨ints, ws⟩), (10, ⟨ints, ws ++ [rk.getD 0 0]⟩), (11, ⟨i64, min (rk.getD 0 0) (rk.getD 1 0)⟩), (12, ⟨i64, max (rk.getD 0 0) (rk.getD 1 0)⟩)], [(0, some (.box who (person, ts, ()))), (2, some (.box po (made l, ())))], 4⟩) ⟨⟨rfl, rfl, rfl, rfl, rfl, rfl, rfl, trivial⟩, ⟨rfl, rfl, trivial⟩, rfl, rfl⟩ ?_
  generalize rk.getD 0 0 = x
  generalize rk.getD 1 0 = y
  (repeat (first | refine AWP.seq ?_ | refine AWP.skip ?_ | refine AWP.block ?_ | refine AWP.exit ?_)); refine AWP.region hX kLc_ok rfl ?_ ?_
  · repeat' (first | exact trivial | assumption | (refine ⟨?_, ?_⟩) | (intro _))
  (repeat (first | refine AWP.seq ?_ | refine AWP.skip ?_ | refine AWP.block ?_ | refine AWP.exit ?_)); refine AWP.region hX kLc_ok rfl ?_ ?_
  · repeat' (first | exact trivial | assumption | (refine ⟨?_, ?_⟩) | (intro _))
  (repeat (first | refine AWP.seq ?_ | refine AWP.skip ?_ | refine AWP.block ?_ | refine AWP.exit ?_)); refine AWP.region hX kLc_ok rfl ?_ ?_
  · repeat' (first | exact trivial | assumption | (refine ⟨?_, ?_⟩) | (intro _))
  refine AWP.ret ⟨.inr rfl, done1 rfl trivial rfl rfl ?_⟩
  exact bif_true (bif_true (bif_or fun h => book_mono (fun t ht => List.mem_append_left _ ht) h) (bif_or fun h => move_mono (by show min x y ≤ max x y; omega) h)) rfl
end Go.Proofs.YthkhgpbjfcmopaaGreatDoor
namespace Go.Proofs.YthkhgpbjfcmopaaGreatDoor
open Go Go.RowKit
set_option linter.unusedSimpArgs false
set_option linter.unusedVariables false
set_option maxRecDepth 100000
def allG : List Gt := [(1, -1, -1, 4, 0, ()), (2, -1, -1, 0, 0, ()), (3, -1, -1, 0, 100, ())]
theorem okAll : OkP allG := by decide
theorem okNil : OkP [] := by decide
theorem fits_every (a x y : Int) (p : Int) (ts : List Int) : fits (a, -1, -1, x, y, ()) p ts = true := by
  unfold fits
  simp [gP, gT]
theorem le_all {l : List Gt} (hl : OkP l) : allLe l allG := by
  intro p ts a ha
  have key : val allG a p ts = if a = 1 then 4 else if a = 2 then 1 else 101 := by
    rcases ha with rfl | rfl | rfl
    · exact val_some rfl (fits_every _ _ _ p ts)
    · exact (val_skip (fun h => absurd h.1 (by decide))).trans (val_some rfl (fits_every _ _ _ p ts))
    · exact (val_skip (fun h => absurd h.1 (by decide))).trans ((val_skip (fun h => absurd h.1 (by decide))).trans (val_some rfl (fits_every _ _ _ p ts)))
  rw [key]
  rcases val_cases l a p ts with h | ⟨g, hg, hga, h⟩
  · rw [h]; split <;> (try split) <;> omega
  · rw [h]
    have hv := value_range (hl.2 g hg)
    rcases ha with rfl | rfl | rfl
    · exact hv.2.1 hga
    · exact hv.2.2.1 hga
    · exact hv.2.2.2 hga
theorem nil_le {l : List Gt} (hl : OkP l) : allLe [] l := fun p ts a _ => by rw [val_nil]; exact val_nonneg hl a p ts
theorem pstr_trans {l m n : List Gt} (h : pstr l m = true) (k : pstr m n = true) : pstr l n = true := by
  have h1 := (pstr_allLe l m).1 h
  have h2 := (pstr_allLe m n).1 k
  exact (pstr_allLe l n).2 ⟨h1.1, h2.2.1, h1.2.2.trans h2.2.2⟩
theorem chain_true {a b c : Bool} (h : a = true → b = true → c = true) : (bif (bif !a then true else !b) then true else c) = true := by
  cases a with
  | false => rfl
  | true =>
    cases b with
    | false => rfl
    | true => exact h rfl rfl
def kLf : Kn := { pK with C := [(14, cSanity), (25, cMade), (27, cPStr)], H := [24] }
theorem kLf_ok : KnOk Tryz.prog pH kLf := ⟨pT_ok, pU_ok, .cons sanity_ok <| .cons rmade_ok.lift <| .cons stricter_ok.lift .nil, pH_st, .nil⟩
set_option maxHeartbeats 1000000 in
theorem law6_ok : CtrOk Tryz.prog pH 8 (lawCtr [.slice gr, .slice gr, .slice gr]) := by
  refine ctr_of_awp (K := kLf) kLf_ok Tryz.func8 rfl rfl Tryz.call8 rfl (by decide) (by intro h; cases h) ?_
  rintro w0 X hX ⟨(a : List Gt), (b : List Gt), (c : List Gt), _⟩ hp
  change AWP _ _ _ _ _ ⟨[(0, ⟨.slice gr, a⟩), (1, ⟨.slice gr, b⟩), (2, ⟨.slice gr, c⟩)], [], 0⟩ _
  (repeat (first | refine AWP.seq ?_ | refine AWP.skip ?_ | refine AWP.block ?_ | refine AWP.exit ?_)); refine AWP.region hX kLf_ok rfl ?_ ?_
  · trivial
  (repeat (first | refine AWP.seq ?_ | refine AWP.skip ?_ | refine AWP.block ?_ | refine AWP.exit ?_)); refine AWP.region hX kLf_ok rfl ?_ ?_
  · trivial
  (repeat (first | refine AWP.seq ?_ | refine AWP.skip ?_ | refine AWP.block ?_ | refine AWP.exit ?_)); refine AWP.region hX kLf_ok rfl ?_ ?_
  · trivial
  (repeat (first | refine AWP.seq ?_ | refine AWP.skip ?_ | refine AWP.block ?_ | refine AWP.exit ?_)); refine AWP.region hX kLf_ok rfl ?_ ?_
  · trivial
  refine AWP.frzL hX 4 0 ?_
  refine AWP.fit (σ' := ⟨[(7, ⟨.bool, true⟩), (8, ⟨.hptr, (0, 0)⟩), (9, ⟨.hptr, (1, 0)⟩), (10, ⟨.hptr, (2, 0)⟩), (11, ⟨.hptr, (4, 0)⟩)], [(0, some (.hbox [⟨.slice gr, made a⟩])), (1, some (.hbox [⟨.slice gr, made b⟩])), (2, some (.hbox [⟨.slice gr, made c⟩])), (4, some (.hbox [⟨.slice gr, allG⟩]))], 5⟩) ⟨⟨rfl, rfl, rfl, rfl, rfl, trivial⟩, ⟨rfl, rfl, rfl, rfl, trivial⟩, rfl, rfl⟩ ?_
  have ha := made_ok a
  generalize made a = p at *
  generalize made b = q at *
  generalize made c = r at *
  obtain ⟨m, hm⟩ : ∃ m, allG = m := ⟨_, rfl⟩
  have hall : pstr p m = true := (pstr_allLe p m).2 ⟨ha, hm ▸ okAll, hm ▸ le_all ha⟩
  rw [hm]
  clear hm
  (repeat (first | refine AWP.seq ?_ | refine AWP.skip ?_ | refine AWP.block ?_ | refine AWP.exit ?_)); refine AWP.region hX kLf_ok rfl ?_ ?_
  · repeat' (first | exact trivial | assumption | (refine ⟨?_, ?_⟩) | (intro _))
  (repeat (first | refine AWP.seq ?_ | refine AWP.skip ?_ | refine AWP.block ?_ | refine AWP.exit ?_)); refine AWP.region hX kLf_ok rfl ?_ ?_
  · repeat' (first | exact trivial | assumption | (refine ⟨?_, ?_⟩) | (intro _))
  refine AWP.ret ⟨.inr rfl, done1 rfl trivial rfl rfl ?_⟩
  have e1 : pstr p p = true := (pstr_allLe p p).2 ⟨ha, ha, allLe.refl p⟩
  have e2 : pstr [] p = true := (pstr_allLe [] p).2 ⟨okNil, ha, nil_le ha⟩
  exact bif_true (bif_true (bif_true (bif_true (chain_true (a := pstr p q) (b := pstr q r) (c := pstr p r) pstr_trans) e1) e2) hall) rfl
end Go.Proofs.YthkhgpbjfcmopaaGreatDoor
