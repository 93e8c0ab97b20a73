/-
  The reference of chapter 25: Made, Teams, People, Subset, Stricter, Same.
-/
import Derived.Test.YtbbeldmcdjjnbaaGreatDoorPRefA
import Derived.Test.YtbbeldmcdjjnbaaGreatDoorAbsMem
namespace Go.Proofs.YtbbeldmcdjjnbaaGreatDoor
open Go Go.RowKit
set_option linter.unusedSimpArgs false
set_option linter.unusedVariables false
set_option maxRecDepth 100000
def mk1 (g : Gt) : Gt := (gA g % 3 + 1, if gP g % 3 = 0 then gT g % 4 else -1, if gP g % 3 = 1 then gT g % 6 else -1, if gA g % 3 = 0 then gG g % 5 else 0, if gA g % 3 = 2 then gR g % 101 else 0, ())
def made (l : List Gt) : List Gt := (l.take 12).map mk1
def kPE : Kn := { pK with C := [(14, cIndex)], H := [30] }
theorem kPE_ok : KnOk Tryz.prog pG kPE := ⟨pT_ok, pU_ok, .cons rindex_ok .nil, pK_ok.st, RsOk.nil⟩
def cMade : Ctr := { args := [.slice gr], pre := fun _ => [], res := po, own := none, out := fun x => (made x.1, ()) }
def sMade (l : List Gt) (k : Nat) (a p t g r : Int) : AS := ⟨[(0, ⟨.slice gr, l⟩), (2, ⟨.hptr, (0, 0)⟩), (3, ⟨.hptr, (1, 0)⟩), (4, ⟨i64, (k : Int)⟩), (5, ⟨.optr gr, ⟨3, gr, .here⟩⟩)], [(0, some (.hbox [⟨.lit, .slice none 0 0⟩])), (1, some (.hbox [⟨.obuf gr, (2 : Nat)⟩])), (2, some (.buf 66 gr ((l.take k).map mk1))), (3, some (.box gr (a, p, t, g, r, ())))], 4⟩
theorem rmade_ok : CtrOk Tryz.prog pG 5 cMade := by
  refine ctr_of_awp (K := kPE) kPE_ok Tryz.func5 rfl rfl Tryz.call5 rfl (by decide) (by intro h; cases h) ?_
  rintro w0 X hX ⟨(l : List Gt), _⟩ hp
  change AWP _ _ _ _ _ ⟨[(0, ⟨.slice gr, l⟩)], [], 0⟩ _
  refine AWP.len 0 rfl fun hl => ?_
  unfold maxLen at hl
  (repeat (first | refine AWP.seq ?_ | refine AWP.skip ?_ | refine AWP.label ?_ | refine AWP.exit ?_ | refine AWP.block ?_ | refine AWP.region hX kPE_ok rfl trivial ?_ | refine AWP.region hX kPE_ok rfl id ?_ | refine AWP.region hX kPE_ok rfl ⟨id, id⟩ ?_))
  refine AWP.nilLeaf 1 0 66 gr rfl rfl rfl ?_
  refine AWP.loop (ι := Nat) (fun k => ⟨[(0, ⟨.slice gr, l⟩), (2, ⟨.hptr, (0, 0)⟩), (3, ⟨.hptr, (1, 0)⟩), (4, ⟨i64, (k : Int)⟩)], [(0, some (.hbox [⟨.lit, .slice none 0 0⟩])), (1, some (.hbox [⟨.obuf gr, (2 : Nat)⟩])), (2, some (.buf 66 gr ((l.take k).map mk1)))], 3⟩) (fun k => k ≤ 12 ∧ k ≤ l.length) (fun k => l.length - k) 0 ⟨by omega, by omega⟩ ⟨⟨rfl, rfl, rfl, rfl, trivial⟩, ⟨rfl, rfl, rfl, trivial⟩, rfl, rfl⟩ ?_
  rintro k ⟨hk, hk2⟩
  (repeat (first | refine AWP.seq ?_ | refine AWP.skip ?_ | refine AWP.block ?_ | refine AWP.exit ?_)); refine AWP.region hX kPE_ok rfl ?_ ?_
  · repeat' (first | exact trivial | assumption | (refine ⟨?_, ?_⟩) | (intro _) | exact Nat.le_of_ble_eq_true rfl | exact Int.natCast_nonneg _ | (simp_all [allP]; done))
  refine AWP.cond rfl (fun hb => ?_) (fun hb => ?_)
  · have hb : (bif decide ((k : Int) < (l.length : Nat)) then decide ((k : Int) < 12) else false) = true := hb
    simp at hb
    have hlt : k < l.length := hb.1
    have n3 : (3 : Int) ≤ 1000 := by omega
    have n4 : (4 : Int) ≤ 1000 := by omega
    have n5 : (5 : Int) ≤ 1000 := by omega
    have n6 : (6 : Int) ≤ 1000 := by omega
    have n7 : (101 : Int) ≤ 1000 := by omega
    have n0 : (0 : Int) ≤ (k : Int) := by omega
    have n1 : (k : Int) < (l.length : Nat) := by omega
    have e1 : ∀ x n : Int, 0 < n → 0 ≤ x % n ∧ x % n < n := fun x n h => ⟨Int.emod_nonneg _ (by omega), Int.emod_lt_of_pos _ h⟩
    have hg := e1 (gA (l.getD (k : Int).toNat zG)) 3 (by omega)
    have i1 : inR .i64 (gA (l.getD (k : Int).toNat zG) % 3 + 1) := inR_small (by omega) (by omega)
    (repeat (first | refine AWP.seq ?_ | refine AWP.skip ?_ | refine AWP.block ?_ | refine AWP.exit ?_)); refine AWP.region hX kPE_ok rfl ?_ ?_
    · exact ⟨n0, n1, by show (1 : Int) ≤ 3; omega, n3, i1⟩
    generalize hG : l.getD (k : Int).toNat zG = G at hg i1
    obtain ⟨(a : Int), (p : Int), (t : Int), (g : Int), (r : Int), _⟩ := G
    have zA : gA (l.getD (k : Int).toNat zG) = a := by rw [hG]; rfl
    have zP : gP (l.getD (k : Int).toNat zG) = p := by rw [hG]; rfl
    have zT : gT (l.getD (k : Int).toNat zG) = t := by rw [hG]; rfl
    have zGr : gG (l.getD (k : Int).toNat zG) = g := by rw [hG]; rfl
    have zR : gR (l.getD (k : Int).toNat zG) = r := by rw [hG]; rfl
    refine AWP.fit (σ' := sMade l k (a % 3 + 1) (-1) (-1) 0 0) ⟨⟨rfl, rfl, rfl, rfl, rfl, trivial⟩, ⟨rfl, rfl, rfl, boxGr (by show (gA (l.getD (k : Int).toNat zG) % 3 + 1, _, _, _, _, _) = _; rw [zA]; rfl), trivial⟩, rfl, rfl⟩ ?_
    refine AWP.join (σ' := sMade l k (a % 3 + 1) (if p % 3 = 0 then t % 4 else -1) (if p % 3 = 1 then t % 6 else -1) 0 0) ?_ ?_
    · unfold sMade
      (repeat (first | refine AWP.seq ?_ | refine AWP.skip ?_ | refine AWP.block ?_ | refine AWP.exit ?_)); refine AWP.region hX kPE_ok rfl ?_ ?_
      · exact ⟨n0, n1, by show (1 : Int) ≤ 3; omega, n3⟩
      (repeat (first | refine AWP.seq ?_ | refine AWP.skip ?_ | refine AWP.label ?_ | refine AWP.exit ?_ | refine AWP.block ?_ | refine AWP.region hX kPE_ok rfl trivial ?_ | refine AWP.region hX kPE_ok rfl id ?_ | refine AWP.region hX kPE_ok rfl ⟨id, id⟩ ?_))
      refine AWP.cond rfl (fun hb => ?_) (fun hb => ?_)
      · have hb : decide (gP (l.getD (k : Int).toNat zG) % 3 = 0) = true := hb
        rw [zP] at hb
        have hb := of_decide_eq_true hb
        (repeat (first | refine AWP.seq ?_ | refine AWP.skip ?_ | refine AWP.block ?_ | refine AWP.exit ?_)); refine AWP.region hX kPE_ok rfl ?_ ?_
        · exact ⟨n0, n1, by show (1 : Int) ≤ 4; omega, n4⟩
        refine ⟨⟨rfl, rfl, rfl, rfl, rfl, trivial⟩, ⟨rfl, rfl, rfl, boxGr ?_, trivial⟩, rfl, rfl⟩
        rw [if_pos hb, if_neg (by omega)]
        show (_, gT (l.getD (k : Int).toNat zG) % 4, _, _, _, _) = _
        rw [zT]
      · have h0 : decide (gP (l.getD (k : Int).toNat zG) % 3 = 0) = false := hb
        rw [zP] at h0
        have h0 := of_decide_eq_false h0
        (repeat (first | refine AWP.seq ?_ | refine AWP.skip ?_ | refine AWP.label ?_ | refine AWP.exit ?_ | refine AWP.block ?_ | refine AWP.region hX kPE_ok rfl trivial ?_ | refine AWP.region hX kPE_ok rfl id ?_ | refine AWP.region hX kPE_ok rfl ⟨id, id⟩ ?_))
        refine AWP.cond rfl (fun hb => ?_) (fun hb => ?_)
        · have hc : decide (gP (l.getD (k : Int).toNat zG) % 3 = 1) = true := hb
          rw [zP] at hc
          have hc := of_decide_eq_true hc
          (repeat (first | refine AWP.seq ?_ | refine AWP.skip ?_ | refine AWP.block ?_ | refine AWP.exit ?_)); refine AWP.region hX kPE_ok rfl ?_ ?_
          · exact ⟨n0, n1, by show (1 : Int) ≤ 6; omega, n6⟩
          refine ⟨⟨rfl, rfl, rfl, rfl, rfl, trivial⟩, ⟨rfl, rfl, rfl, boxGr ?_, trivial⟩, rfl, rfl⟩
          rw [if_neg h0, if_pos hc]
          show (_, _, gT (l.getD (k : Int).toNat zG) % 6, _, _, _) = _
          rw [zT]
        · have hc : decide (gP (l.getD (k : Int).toNat zG) % 3 = 1) = false := hb
          rw [zP] at hc
          have hc := of_decide_eq_false hc
          (repeat (first | refine AWP.seq ?_ | refine AWP.skip ?_ | refine AWP.label ?_ | refine AWP.exit ?_ | refine AWP.block ?_ | refine AWP.region hX kPE_ok rfl trivial ?_ | refine AWP.region hX kPE_ok rfl id ?_ | refine AWP.region hX kPE_ok rfl ⟨id, id⟩ ?_))
          refine ⟨⟨rfl, rfl, rfl, rfl, rfl, trivial⟩, ⟨rfl, rfl, rfl, boxGr ?_, trivial⟩, rfl, rfl⟩
          rw [if_neg h0, if_neg hc]
    generalize hP : (if p % 3 = 0 then t % 4 else -1) = P
    generalize hT : (if p % 3 = 1 then t % 6 else -1) = T
    refine AWP.join (σ' := sMade l k (a % 3 + 1) P T (if a % 3 = 0 then g % 5 else 0) 0) ?_ ?_
    · unfold sMade
      (repeat (first | refine AWP.seq ?_ | refine AWP.skip ?_ | refine AWP.label ?_ | refine AWP.exit ?_ | refine AWP.block ?_ | refine AWP.region hX kPE_ok rfl trivial ?_ | refine AWP.region hX kPE_ok rfl id ?_ | refine AWP.region hX kPE_ok rfl ⟨id, id⟩ ?_))
      refine AWP.cond rfl (fun hb => ?_) (fun hb => ?_)
      · have hb : decide (a % 3 + 1 = 1) = true := hb
        have hb := of_decide_eq_true hb
        (repeat (first | refine AWP.seq ?_ | refine AWP.skip ?_ | refine AWP.block ?_ | refine AWP.exit ?_)); refine AWP.region hX kPE_ok rfl ?_ ?_
        · exact ⟨n0, n1, by show (1 : Int) ≤ 5; omega, n5⟩
        refine ⟨⟨rfl, rfl, rfl, rfl, rfl, trivial⟩, ⟨rfl, rfl, rfl, boxGr ?_, trivial⟩, rfl, rfl⟩
        rw [if_pos (by omega)]
        show (_, _, _, gG (l.getD (k : Int).toNat zG) % 5, _, _) = _
        rw [zGr]
      · have hb : decide (a % 3 + 1 = 1) = false := hb
        have hb := of_decide_eq_false hb
        (repeat (first | refine AWP.seq ?_ | refine AWP.skip ?_ | refine AWP.label ?_ | refine AWP.exit ?_ | refine AWP.block ?_ | refine AWP.region hX kPE_ok rfl trivial ?_ | refine AWP.region hX kPE_ok rfl id ?_ | refine AWP.region hX kPE_ok rfl ⟨id, id⟩ ?_))
        refine ⟨⟨rfl, rfl, rfl, rfl, rfl, trivial⟩, ⟨rfl, rfl, rfl, boxGr ?_, trivial⟩, rfl, rfl⟩
        rw [if_neg (by omega)]
    generalize hGr : (if a % 3 = 0 then g % 5 else 0) = D
    refine AWP.join (σ' := sMade l k (a % 3 + 1) P T D (if a % 3 = 2 then r % 101 else 0)) ?_ ?_
    · unfold sMade
      (repeat (first | refine AWP.seq ?_ | refine AWP.skip ?_ | refine AWP.label ?_ | refine AWP.exit ?_ | refine AWP.block ?_ | refine AWP.region hX kPE_ok rfl trivial ?_ | refine AWP.region hX kPE_ok rfl id ?_ | refine AWP.region hX kPE_ok rfl ⟨id, id⟩ ?_))
      refine AWP.cond rfl (fun hb => ?_) (fun hb => ?_)
      · have hb : decide (a % 3 + 1 = 3) = true := hb
        have hb := of_decide_eq_true hb
        (repeat (first | refine AWP.seq ?_ | refine AWP.skip ?_ | refine AWP.block ?_ | refine AWP.exit ?_)); refine AWP.region hX kPE_ok rfl ?_ ?_
        · exact ⟨n0, n1, by show (1 : Int) ≤ 101; omega, n7⟩
        refine ⟨⟨rfl, rfl, rfl, rfl, rfl, trivial⟩, ⟨rfl, rfl, rfl, boxGr ?_, trivial⟩, rfl, rfl⟩
        rw [if_pos (by omega)]
        show (_, _, _, _, gR (l.getD (k : Int).toNat zG) % 101, _) = _
        rw [zR]
      · have hb : decide (a % 3 + 1 = 3) = false := hb
        have hb := of_decide_eq_false hb
        (repeat (first | refine AWP.seq ?_ | refine AWP.skip ?_ | refine AWP.label ?_ | refine AWP.exit ?_ | refine AWP.block ?_ | refine AWP.region hX kPE_ok rfl trivial ?_ | refine AWP.region hX kPE_ok rfl id ?_ | refine AWP.region hX kPE_ok rfl ⟨id, id⟩ ?_))
        refine ⟨⟨rfl, rfl, rfl, rfl, rfl, trivial⟩, ⟨rfl, rfl, rfl, boxGr ?_, trivial⟩, rfl, rfl⟩
        rw [if_neg (by omega)]
    generalize hR : (if a % 3 = 2 then r % 101 else 0) = R
    unfold sMade
    have hm : ((l.take k).map mk1).length = k := by rw [List.length_map, List.length_take]; omega
    (repeat (first | refine AWP.seq ?_ | refine AWP.skip ?_ | refine AWP.block ?_ | refine AWP.exit ?_)); refine AWP.region hX kPE_ok rfl ?_ ?_
    · show ((l.take k).map mk1).length + 1 ≤ 1000000000
      omega
    (repeat (first | refine AWP.seq ?_ | refine AWP.skip ?_ | refine AWP.block ?_ | refine AWP.exit ?_)); refine AWP.region hX kPE_ok rfl ?_ ?_
    · exact inR_succ (by omega)
    refine ⟨k + 1, ⟨by omega, by omega⟩, by omega, ⟨rfl, rfl, rfl, vSucc _, trivial⟩, ⟨rfl, rfl, bufGr ?_, trivial⟩, rfl, rfl⟩
    rw [List.take_succ_eq_append_getElem hlt, List.map_append]
    show _ ++ [_] = _ ++ [mk1 l[k]]
    rw [← getD_at (z := zG) hlt, hG, ← hP, ← hT, ← hGr, ← hR]
    rfl
  · have hb : (bif decide ((k : Int) < (l.length : Nat)) then decide ((k : Int) < 12) else false) = false := hb
    have hk12 : l.take k = l.take 12 := by
      by_cases hkl : k = l.length
      · rw [hkl, List.take_length, List.take_of_length_le (by omega)]
      · have : k = 12 := by
          rw [decide_eq_true (show (k : Int) < (l.length : Nat) by omega)] at hb
          have := of_decide_eq_false hb
          omega
        rw [this]
    refine AWP.frzL hX 1 0 ?_
    (repeat (first | refine AWP.seq ?_ | refine AWP.skip ?_ | refine AWP.label ?_ | refine AWP.exit ?_ | refine AWP.block ?_ | refine AWP.region hX kPE_ok rfl trivial ?_ | refine AWP.region hX kPE_ok rfl id ?_ | refine AWP.region hX kPE_ok rfl ⟨id, id⟩ ?_))
    refine AWP.ret ⟨.inr rfl, done1 rfl trivial rfl rfl ?_⟩
    show ((l.take k).map mk1, ()) = (made l, ())
    unfold made
    rw [hk12]
def addN (out : List Int) (x : Int) : List Int := if 0 ≤ x ∧ x ∉ out then out ++ [x] else out
/-- the different numbers from 0 on, in the order in which they come -/
def dist (xs : List Int) : List Int := xs.foldl addN []
theorem dist_snoc (xs : List Int) (x : Int) : dist (xs ++ [x]) = addN (dist xs) x := by unfold dist; rw [List.foldl_append]; rfl
theorem addN_le (out : List Int) (x : Int) : (addN out x).length ≤ out.length + 1 := by unfold addN; split <;> simp
theorem dist_le (xs : List Int) : (dist xs).length ≤ xs.length := by
  suffices h : ∀ (out : List Int), (xs.foldl addN out).length ≤ out.length + xs.length by simpa [dist] using h []
  induction xs with
  | nil => intro out; exact Nat.le_refl _
  | cons x r ih => intro out; have := ih (addN out x); have := addN_le out x; rw [List.foldl_cons, List.length_cons]; omega
theorem mem_addN {out : List Int} {x y : Int} : y ∈ addN out x ↔ y ∈ out ∨ (0 ≤ y ∧ y = x) := by
  unfold addN
  split
  · rename_i h
    rw [List.mem_append, List.mem_singleton]
    exact or_congr Iff.rfl ⟨fun e => ⟨e ▸ h.1, e⟩, fun e => e.2⟩
  · rename_i h
    refine ⟨.inl, fun e => e.elim id fun e => ?_⟩
    obtain ⟨h0, rfl⟩ := e
    exact Classical.byContradiction fun h1 => h ⟨h0, h1⟩
theorem mem_dist {xs : List Int} {y : Int} : y ∈ dist xs ↔ 0 ≤ y ∧ y ∈ xs := by
  suffices h : ∀ (out : List Int), y ∈ xs.foldl addN out ↔ y ∈ out ∨ (0 ≤ y ∧ y ∈ xs) by simpa [dist] using h []
  induction xs with
  | nil => intro out; simp
  | cons x r ih =>
    intro out
    rw [List.foldl_cons, ih, mem_addN, List.mem_cons]
    constructor
    · rintro ((h | ⟨h1, h2⟩) | ⟨h1, h2⟩)
      · exact .inl h
      · exact .inr ⟨h1, .inl h2⟩
      · exact .inr ⟨h1, .inr h2⟩
    · rintro (h | ⟨h1, h2 | h2⟩)
      · exact .inl (.inl h)
      · exact .inl (.inr ⟨h1, h2⟩)
      · exact .inr ⟨h1, h2⟩
def teams (l m : List Gt) : List Int := dist ((l ++ m).map gT)
def pers (l m : List Gt) : List Int := dist ((l ++ m).map gP)
/-- the least number that is not in a list of numbers below 512 -/
def fr (out : List Int) : Nat := (List.range 513).findIdx (fun k : Nat => decide ((k : Int) ∉ out))
def people (l m : List Gt) : List Int := pers l m ++ [(fr (pers l m) : Int)]
theorem fr_eq {out : List Int} {k : Nat} (hk : k ≤ 512) (hn : (k : Int) ∉ out) (hb : ∀ j < k, (j : Int) ∈ out) : fr out = k := by
  unfold fr
  have hl : k < (List.range 513).length := by rw [List.length_range]; omega
  rw [List.findIdx_eq hl]
  refine ⟨by rw [List.getElem_range]; exact decide_eq_true hn, fun j hj => ?_⟩
  rw [List.getElem_range]
  exact decide_eq_false (fun h => h (hb j hj))
def cTeams : Ctr := { args := [po, po], pre := fun x => [List.length x.1.1 ≤ 1000, List.length x.2.1.1 ≤ 1000], res := ints, own := none, out := fun x => teams x.1.1 x.2.1.1 }
theorem take_map_succ {f : Gt → Int} {l : List Gt} {k : Nat} (h : k < l.length) : (l.take (k + 1)).map f = (l.take k).map f ++ [f l[k]] := by
  rw [List.take_succ_eq_append_getElem h, List.map_append]
  rfl
def cPeople : Ctr := { args := [po, po], pre := fun x => [List.length x.1.1 ≤ 1000, List.length x.2.1.1 ≤ 1000, ∀ g ∈ x.1.1 ++ x.2.1.1, gP g < 512], res := ints, own := none, out := fun x => people x.1.1 x.2.1.1 }
end Go.Proofs.YtbbeldmcdjjnbaaGreatDoor
