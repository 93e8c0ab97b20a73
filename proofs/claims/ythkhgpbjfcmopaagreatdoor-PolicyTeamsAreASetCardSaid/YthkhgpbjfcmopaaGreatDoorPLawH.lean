/-
  Teams as a set: the statement.
-/
import Derived.Test.YthkhgpbjfcmopaaGreatDoorPLawB
namespace Go.Proofs.YthkhgpbjfcmopaaGreatDoor
open Go Go.RowKit
set_option linter.unusedSimpArgs false
set_option linter.unusedVariables false
set_option maxRecDepth 100000
def kLh : Kn := { pK with C := kLb.C ++ [(25, cMade), (32, cSame)] }
theorem kLh_ok : KnOk Tryz.prog pH kLh := hK_ok.with (.cons sanity_ok <| .cons raw_ok <| .cons few_ok <| .cons valid_ok.lift <| .cons rvalid_ok.lift <| .cons grain_ok.lift <| .cons rgrain_ok.lift <| .cons book_ok.lift <| .cons rbook_ok.lift <| .cons move_ok.lift <| .cons rmove_ok.lift <| .cons rmade_ok.lift <| .cons rsame_ok.lift .nil)
/-- each twice -/
def twice (l : List Int) : List Int := l.flatMap fun x => [x, x]
theorem mem_twice {l : List Int} {t : Int} : t ∈ twice l ↔ t ∈ l := by unfold twice; simp
theorem twice_length (l : List Int) : (twice l).length = 2 * l.length := by
  induction l with
  | nil => rfl
  | cons x r ih => unfold twice at *; rw [List.flatMap_cons, List.length_append, ih, List.length_cons, List.length_cons, List.length_cons, List.length_nil]; omega
theorem twice_snoc (l : List Int) (x : Int) : twice (l ++ [x]) = twice l ++ [x, x] := by unfold twice; rw [List.flatMap_append]; rfl
theorem rev_next {ws : List Int} {k : Nat} (h : k < ws.length) : ws.reverse.take (k + 1) = ws.reverse.take k ++ [ws.getD (ws.length - 1 - k) 0] := by
  rw [List.take_succ_eq_append_getElem (by rw [List.length_reverse]; exact h), List.getElem_reverse, List.getD_eq_getElem?_getD, List.getElem?_eq_getElem (by omega)]
  rfl
/-- what follows from 'the same teams, but for numbers that no grant names' -/
theorem made_same {l : List Gt} {p : Int} {ts us : List Int} (h : ∀ t, 0 ≤ t → t < 6 → (t ∈ ts ↔ t ∈ us)) : grain (made l) p ts = grain (made l) p us ∧ book (made l) p ts = book (made l) p us ∧ ∀ r, move (made l) p ts r = move (made l) p us r :=
  same_set fun g hg => fits_alike ((made_ok l).2 g hg) ⟨fun _ => Iff.rfl, fun h0 => h _ h0 (made_T hg).2⟩
def sLh (l : List Gt) (person : Int) (ts ws : List Int) (other : Int) (k : Nat) : AS := ⟨[(0, ⟨.slice gr, l⟩), (2, ⟨i64, other⟩), (4, ⟨.optr who, ⟨0, who, .here⟩⟩), (7, ⟨.bool, true⟩), (8, ⟨.optr po, ⟨1, po, .here⟩⟩), (9, ⟨ints, ws⟩), (10, ⟨.obuf i64, (3 : Nat)⟩), (11, ⟨i64, ((ws.length : Nat) : Int) - 1 - (k : Int)⟩)], [(0, some (.box who (person, ts, ()))), (1, some (.box po (made l, ()))), (3, some (.buf 3 i64 (twice (ws.reverse.take k))))], 4⟩
def sLh2 (l : List Gt) (person : Int) (ts ws zs : List Int) (k : Nat) : AS := ⟨[(0, ⟨.slice gr, l⟩), (4, ⟨.optr who, ⟨0, who, .here⟩⟩), (7, ⟨.bool, true⟩), (8, ⟨.optr po, ⟨1, po, .here⟩⟩), (9, ⟨ints, ws⟩), (10, ⟨ints, zs⟩), (12, ⟨i64, grain (made l) person ws⟩), (13, ⟨.bool, book (made l) person ws⟩), (14, ⟨.bool, move (made l) person ws 30⟩), (15, ⟨i64, (k : Int)⟩)], [(0, some (.box who (person, ts, ()))), (1, some (.box po (made l, ())))], 4⟩
set_option maxHeartbeats 1000000 in
theorem law10_ok : CtrOk Tryz.prog pH 12 (lawCtr [.slice gr, who, i64]) := by
  refine ctr_of_awp (K := kLh) kLh_ok Tryz.func12 rfl rfl Tryz.call12 rfl (by decide) (by intro h; cases h) ?_
  rintro w0 X hX ⟨(l : List Gt), ⟨(person : Int), (ts : List Int), _⟩, (other : Int), _⟩ hp
  change AWP _ _ _ _ _ ⟨[(0, ⟨.slice gr, l⟩), (1, ⟨who, (person, ts, ())⟩), (2, ⟨i64, other⟩)], [], 0⟩ _
  (repeat (first | refine AWP.seq ?_ | refine AWP.skip ?_ | refine AWP.block ?_ | refine AWP.exit ?_)); refine AWP.region hX kLh_ok rfl ?_ ?_
  · trivial
  (repeat (first | refine AWP.seq ?_ | refine AWP.skip ?_ | refine AWP.block ?_ | refine AWP.exit ?_)); refine AWP.region hX kLh_ok rfl ?_ ?_
  · trivial
  (repeat (first | refine AWP.seq ?_ | refine AWP.skip ?_ | refine AWP.block ?_ | refine AWP.exit ?_)); refine AWP.region hX kLh_ok rfl ?_ ?_
  · trivial
  have hk : (ts.take (min ((ts.length : Nat) : Int) 10).toNat).length ≤ 10 := by rw [List.length_take]; omega
  have hpre : ∀ i, i < (ts.take (min ((ts.length : Nat) : Int) 10).toNat).length → i < ts.length ∧ (ts.take (min ((ts.length : Nat) : Int) 10).toNat).getD i 0 = ts.getD i 0 := fun i hi => by
    rw [List.length_take] at hi
    refine ⟨by omega, ?_⟩
    rw [List.getD_eq_getElem?_getD, List.getD_eq_getElem?_getD, List.getElem?_take, if_pos (by omega)]
  obtain ⟨ws, hws⟩ : ∃ ws, ts.take (min ((ts.length : Nat) : Int) 10).toNat = ws := ⟨_, rfl⟩
  rw [hws] at hk hpre
  (repeat (first | refine AWP.seq ?_ | refine AWP.skip ?_ | refine AWP.block ?_ | refine AWP.exit ?_)); refine AWP.region hX kLh_ok rfl ?_ ?_
  · show 0 + (ts.take (min ((ts.length : Nat) : Int) 10).toNat).length ≤ 1000000000
    rw [hws]
    omega
  refine AWP.frz hX 9 ?_
  (repeat (first | refine AWP.seq ?_ | refine AWP.skip ?_ | refine AWP.block ?_ | refine AWP.exit ?_)); refine AWP.region hX kLh_ok rfl ?_ ?_
  · trivial
  refine AWP.fit (σ' := ⟨[(0, ⟨.slice gr, l⟩), (2, ⟨i64, other⟩), (4, ⟨.optr who, ⟨0, who, .here⟩⟩), (7, ⟨.bool, true⟩), (8, ⟨.optr po, ⟨1, po, .here⟩⟩), (9, ⟨ints, ws⟩), (10, ⟨.obuf i64, (3 : Nat)⟩)], [(0, some (.box who (person, ts, ()))), (1, some (.box po (made l, ()))), (3, some (.buf 3 i64 []))], 4⟩) ⟨⟨rfl, rfl, rfl, rfl, rfl, vInts hws, rfl, trivial⟩, ⟨rfl, rfl, rfl, trivial⟩, rfl, rfl⟩ ?_
  (repeat (first | refine AWP.seq ?_ | refine AWP.skip ?_ | refine AWP.block ?_ | refine AWP.exit ?_)); refine AWP.region hX kLh_ok rfl ?_ ?_
  · exact inR_small (by omega) (by omega)
  (repeat (first | refine AWP.seq ?_ | refine AWP.skip ?_ | refine AWP.label ?_ | refine AWP.exit ?_ | refine AWP.block ?_ | refine AWP.region hX kLh_ok rfl trivial ?_ | refine AWP.region hX kLh_ok rfl id ?_ | refine AWP.region hX kLh_ok rfl ⟨id, id⟩ ?_))
  refine AWP.fit (σ' := sLh l person ts ws other 0) ⟨⟨rfl, rfl, rfl, rfl, rfl, rfl, rfl, vI64 (by omega), trivial⟩, ⟨rfl, rfl, rfl, trivial⟩, rfl, rfl⟩ ?_
  refine AWP.loop (ι := Nat) (sLh l person ts ws other) (fun k => k ≤ ws.length) (fun k => ws.length - k) 0 (by omega) ⟨⟨rfl, rfl, rfl, rfl, rfl, rfl, rfl, rfl, trivial⟩, ⟨rfl, rfl, rfl, trivial⟩, rfl, rfl⟩ ?_
  intro k hkl
  unfold sLh
  (repeat (first | refine AWP.seq ?_ | refine AWP.skip ?_ | refine AWP.block ?_ | refine AWP.exit ?_)); refine AWP.region hX kLh_ok rfl ?_ ?_
  · trivial
  refine AWP.cond rfl (fun hb => ?_) (fun hb => ?_)
  · have hb : decide (((ws.length : Nat) : Int) - 1 - (k : Int) ≥ 0) = true := hb
    have hb := of_decide_eq_true hb
    have n0 : (0 : Int) ≤ ((ws.length : Nat) : Int) - 1 - (k : Int) := hb
    have n1 : ((ws.length : Nat) : Int) - 1 - (k : Int) < ((ws.length : Nat) : Int) := by omega
    have n2 : (twice (ws.reverse.take k)).length + 2 ≤ 1000000000 := by rw [twice_length, List.length_take, List.length_reverse]; omega
    have hlt : k < ws.length := by omega
    have hx : ws.getD (((ws.length : Nat) : Int) - 1 - (k : Int)).toNat 0 = ws.getD (ws.length - 1 - k) 0 := congrArg (fun i => ws.getD i 0) (by omega)
    (repeat (first | refine AWP.seq ?_ | refine AWP.skip ?_ | refine AWP.block ?_ | refine AWP.exit ?_)); refine AWP.drawN dM hX kLh_ok 10 (by kernel_rfl) rfl rfl ?_ ?_ ?_
    · repeat' (first | exact trivial | exact n0 | exact n1 | (refine ⟨?_, ?_⟩))
    · repeat' (first | exact trivial | exact n2 | (refine ⟨?_, ?_⟩))
    (repeat (first | refine AWP.seq ?_ | refine AWP.skip ?_ | refine AWP.block ?_ | refine AWP.exit ?_)); refine AWP.region hX kLh_ok rfl ?_ ?_
    · exact inR_small (by omega) (by omega)
    refine ⟨k + 1, by omega, by omega, ⟨rfl, rfl, rfl, rfl, rfl, rfl, rfl, vI64 (by omega), trivial⟩, ⟨rfl, rfl, bufInts ?_, trivial⟩, rfl, rfl⟩
    show twice (ws.reverse.take k) ++ [ws.getD (((ws.length : Nat) : Int) - 1 - (k : Int)).toNat 0, ws.getD (((ws.length : Nat) : Int) - 1 - (k : Int)).toNat 0] = _
    rw [rev_next hlt, twice_snoc, hx]
  · have hb : decide (((ws.length : Nat) : Int) - 1 - (k : Int) ≥ 0) = false := hb
    have hb := of_decide_eq_false hb
    have hkk : k = ws.length := by omega
    have hTl : (twice (ws.reverse.take k)).length + 1 ≤ 1000000000 := by rw [twice_length, List.length_take, List.length_reverse]; omega
    have hmem : ∀ t, t ∈ twice (ws.reverse.take k) ↔ t ∈ ws := fun t => by rw [mem_twice, List.take_of_length_le (by rw [List.length_reverse]; omega), List.mem_reverse]
    generalize twice (ws.reverse.take k) = T at hTl hmem
    obtain ⟨Z, hZ⟩ : ∃ Z, (if other < 0 ∨ 5 < other then T ++ [other] else T) = Z := ⟨_, rfl⟩
    have hset : ∀ t, 0 ≤ t → t < 6 → (t ∈ ws ↔ t ∈ Z) := fun t h0 h6 => by
      rw [← hZ]
      split
      · rw [List.mem_append, List.mem_singleton, hmem]
        exact ⟨.inl, fun h => h.elim id fun h => by omega⟩
      · exact (hmem t).symm
    refine AWP.exit ?_
    refine AWP.join (σ' := ⟨[(0, ⟨.slice gr, l⟩), (4, ⟨.optr who, ⟨0, who, .here⟩⟩), (7, ⟨.bool, true⟩), (8, ⟨.optr po, ⟨1, po, .here⟩⟩), (9, ⟨ints, ws⟩), (10, ⟨.obuf i64, (3 : Nat)⟩)], [(0, some (.box who (person, ts, ()))), (1, some (.box po (made l, ()))), (3, some (.buf 3 i64 Z))], 4⟩) ?_ ?_
    · (repeat (first | refine AWP.seq ?_ | refine AWP.skip ?_ | refine AWP.block ?_ | refine AWP.exit ?_)); refine AWP.region hX kLh_ok rfl ?_ ?_
      · repeat' (first | exact trivial | assumption | (refine ⟨?_, ?_⟩) | (intro _))
      refine AWP.cond rfl (fun hb => ?_) (fun hb => ?_)
      · have hb : (bif decide (other < 0) then true else decide (other > 5)) = true := hb
        have hc : other < 0 ∨ 5 < other := by
          by_cases h : other < 0
          · exact .inl h
          · rw [decide_eq_false h] at hb
            exact .inr (of_decide_eq_true hb)
        rw [if_pos hc] at hZ
        (repeat (first | refine AWP.seq ?_ | refine AWP.skip ?_ | refine AWP.block ?_ | refine AWP.exit ?_)); refine AWP.region hX kLh_ok rfl ?_ ?_
        · exact hTl
        exact ⟨⟨rfl, rfl, rfl, rfl, rfl, rfl, trivial⟩, ⟨rfl, rfl, bufInts hZ, trivial⟩, rfl, rfl⟩
      · have hb : (bif decide (other < 0) then true else decide (other > 5)) = false := hb
        have hc : ¬ (other < 0 ∨ 5 < other) := by
          intro h
          by_cases h0 : other < 0
          · rw [decide_eq_true h0] at hb
            cases hb
          · rw [decide_eq_false h0] at hb
            exact absurd (of_decide_eq_false hb) (by simpa using h.resolve_left h0)
        rw [if_neg hc] at hZ
        (repeat (first | refine AWP.seq ?_ | refine AWP.skip ?_ | refine AWP.label ?_ | refine AWP.exit ?_ | refine AWP.block ?_ | refine AWP.region hX kLh_ok rfl trivial ?_ | refine AWP.region hX kLh_ok rfl id ?_ | refine AWP.region hX kLh_ok rfl ⟨id, id⟩ ?_))
        exact ⟨⟨rfl, rfl, rfl, rfl, rfl, rfl, trivial⟩, ⟨rfl, rfl, bufInts hZ, trivial⟩, rfl, rfl⟩
    refine AWP.frz hX 10 ?_
    (repeat (first | refine AWP.seq ?_ | refine AWP.skip ?_ | refine AWP.block ?_ | refine AWP.exit ?_)); refine AWP.draw dM hX kLh_ok 17 (by kernel_rfl) rfl rfl ?_ ?_ ?_
    · repeat' (first | exact trivial | assumption | (refine ⟨?_, ?_⟩) | (intro _))
    · trivial
    (repeat (first | refine AWP.seq ?_ | refine AWP.skip ?_ | refine AWP.block ?_ | refine AWP.exit ?_)); refine AWP.region hX kLh_ok rfl ?_ ?_
    · trivial
    (repeat (first | refine AWP.seq ?_ | refine AWP.skip ?_ | refine AWP.label ?_ | refine AWP.exit ?_ | refine AWP.block ?_ | refine AWP.region hX kLh_ok rfl trivial ?_ | refine AWP.region hX kLh_ok rfl id ?_ | refine AWP.region hX kLh_ok rfl ⟨id, id⟩ ?_))
    refine AWP.loop (ι := Nat) (sLh2 l person ts ws Z) (fun k => k ≤ ws.length) (fun k => ws.length - k) 0 (by omega) ⟨⟨rfl, rfl, rfl, rfl, rfl, rfl, rfl, rfl, rfl, rfl, trivial⟩, ⟨rfl, rfl, trivial⟩, rfl, rfl⟩ ?_
    intro i hi
    unfold sLh2
    (repeat (first | refine AWP.seq ?_ | refine AWP.skip ?_ | refine AWP.block ?_ | refine AWP.exit ?_)); refine AWP.region hX kLh_ok rfl ?_ ?_
    · trivial
    refine AWP.cond rfl (fun hb => ?_) (fun hb => ?_)
    · have hb : decide ((i : Int) < (ws.length : Nat)) = true := hb
      have hb := of_decide_eq_true hb
      have n0 : (0 : Int) ≤ (i : Int) := by omega
      have n2 : (i : Int) < (ts.length : Nat) := by have := (hpre i (by omega)).1; omega
      have he := (hpre i (by omega)).2
      (repeat (first | refine AWP.seq ?_ | refine AWP.skip ?_ | refine AWP.block ?_ | refine AWP.exit ?_)); refine AWP.draw dM hX kLh_ok 9 (by kernel_rfl) rfl rfl ?_ ?_ ?_
      · repeat' (first | exact trivial | exact n0 | exact hb | exact n2 | (refine ⟨?_, ?_⟩) | (intro _))
      · trivial
      refine AWP.cond rfl (fun hb => ?_) (fun hb => ?_)
      · exfalso
        have hb : (ws.getD i 0 != ts.getD i 0) = true := hb
        rw [he] at hb
        simp at hb
      · (repeat (first | refine AWP.seq ?_ | refine AWP.skip ?_ | refine AWP.block ?_ | refine AWP.exit ?_)); refine AWP.region hX kLh_ok rfl ?_ ?_
        · exact inR_succ (by omega)
        exact ⟨i + 1, by omega, by omega, ⟨rfl, rfl, rfl, rfl, rfl, rfl, rfl, rfl, rfl, vSucc _, trivial⟩, ⟨rfl, rfl, trivial⟩, rfl, rfl⟩
    · have hs := made_same (l := l) (p := person) hset
      (repeat (first | refine AWP.seq ?_ | refine AWP.skip ?_ | refine AWP.block ?_ | refine AWP.exit ?_)); refine AWP.draw dM hX kLh_ok 34 (by kernel_rfl) rfl rfl ?_ ?_ ?_
      · repeat' (first | exact trivial | assumption | (refine ⟨?_, ?_⟩) | (intro _))
      · trivial
      refine AWP.ret ⟨.inr rfl, done1 rfl trivial rfl rfl ?_⟩
      have e1 : (grain (made l) person ws == grain (made l) person Z) = true := by rw [hs.1]; exact beq_self_eq_true (α := Int) _
      have e2 : eqb .bool (book (made l) person ws) (book (made l) person Z) = true := by rw [hs.2.1]; exact eqb_iff.2 rfl
      have e3 : eqb .bool (move (made l) person ws 30) (move (made l) person Z 30) = true := by rw [hs.2.2]; exact eqb_iff.2 rfl
      exact bif_true (bif_true (bif_true (bif_true e1 e2) e3) (decide_eq_true rfl)) rfl
end Go.Proofs.YthkhgpbjfcmopaaGreatDoor
