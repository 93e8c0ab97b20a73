/-
  Package coarse: slices.Equal, Same, Witness. The reference's Size and the window that a statement makes from numbers.
-/
import Derived.Test.YtbbeldmcdjjnbaaDoorCoG
import Derived.Test.YtbbeldmcdjjnbaaDoorLtM
namespace Go.Proofs.YtbbeldmcdjjnbaaDoor
open Go Go.RowKit
set_option linter.unusedSimpArgs false
set_option linter.unusedVariables false
set_option maxRecDepth 100000
def cEqI : Ctr := { args := [ints, ints], pre := fun _ => [], res := .bool, own := none, out := fun x => decide ((x.1 : List Int) = x.2.1) }
theorem eqI_ok : CtrOk Tryd.prog pG 17 cEqI := by
  refine ctr_of_awp (K := coK) coK_ok Tryd.func17 rfl rfl Tryd.call17 rfl (by decide) (by intro h; cases h) ?_
  rintro w0 X hX ⟨(l : List Int), (m : List Int), _⟩ hp
  change AWP _ _ _ _ _ ⟨[(0, ⟨ints, l⟩), (1, ⟨ints, m⟩)], [], 0⟩ _
  refine AWP.len 0 rfl fun hl => ?_
  unfold maxLen at hl
  (repeat (first | refine AWP.seq ?_ | refine AWP.skip ?_ | refine AWP.block ?_ | refine AWP.exit ?_)); refine AWP.region hX coK_ok rfl ?_ ?_
  · trivial
  (repeat (first | refine AWP.seq ?_ | refine AWP.skip ?_ | refine AWP.block ?_ | refine AWP.exit ?_)); refine AWP.region hX coK_ok rfl ?_ ?_
  · trivial
  refine AWP.cond rfl (fun hb => ?_) (fun hb => ?_)
  · have hb : (((l.length : Nat) : Int) != ((m.length : Nat) : Int)) = true := hb
    have hb : l.length ≠ m.length := by intro e; rw [e] at hb; simp at hb
    (repeat (first | refine AWP.seq ?_ | refine AWP.skip ?_ | refine AWP.label ?_ | refine AWP.exit ?_ | refine AWP.block ?_ | refine AWP.region hX coK_ok rfl trivial ?_ | refine AWP.region hX coK_ok rfl id ?_ | refine AWP.region hX coK_ok rfl ⟨id, id⟩ ?_))
    refine AWP.ret ⟨.inr rfl, done1 rfl trivial rfl rfl ?_⟩
    exact (decide_eq_false fun e => hb (by rw [show l = m from e])).symm
  · have hb : (((l.length : Nat) : Int) != ((m.length : Nat) : Int)) = false := hb
    have hlm : l.length = m.length := by
      have : ((l.length : Nat) : Int) = ((m.length : Nat) : Int) := by simpa using hb
      omega
    refine AWP.skip ?_
    (repeat (first | refine AWP.seq ?_ | refine AWP.skip ?_ | refine AWP.block ?_ | refine AWP.exit ?_)); refine AWP.region hX coK_ok rfl ?_ ?_
    · trivial
    (repeat (first | refine AWP.seq ?_ | refine AWP.block ?_))
    refine AWP.loop (ι := Nat) (fun k => ⟨[(0, ⟨ints, l⟩), (1, ⟨ints, m⟩), (12, ⟨i64, ((l.length : Nat) : Int)⟩), (13, ⟨i64, (k : Int)⟩)], [], 0⟩) (fun k => k ≤ l.length ∧ ∀ j (hj : j < l.length), j < k → l[j] = m[j]) (fun k => l.length - k) 0 ⟨by omega, by omega⟩ ⟨⟨rfl, rfl, rfl, rfl, trivial⟩, trivial, rfl, rfl⟩ ?_
    rintro k ⟨hk, he⟩
    (repeat (first | refine AWP.seq ?_ | refine AWP.skip ?_ | refine AWP.block ?_ | refine AWP.exit ?_)); refine AWP.region hX coK_ok rfl ?_ ?_
    · trivial
    refine AWP.seq ?_
    refine AWP.cond rfl (fun hb => ?_) (fun hb => ?_)
    · have hb : decide ((k : Int) < (l.length : Nat)) = true := hb
      have hb := of_decide_eq_true hb
      have hlt : k < l.length := by omega
      have n0 : (0 : Int) ≤ (k : Int) := by omega
      have n2 : (k : Int) < (m.length : Nat) := by omega
      (repeat (first | refine AWP.seq ?_ | refine AWP.skip ?_ | refine AWP.block ?_ | refine AWP.exit ?_)); refine AWP.region hX coK_ok rfl ?_ ?_
      · trivial
      (repeat (first | refine AWP.seq ?_ | refine AWP.skip ?_ | refine AWP.block ?_ | refine AWP.exit ?_)); refine AWP.draw dM hX coK_ok 8 (by kernel_rfl) rfl rfl ?_ ?_ ?_
      · repeat' (first | exact trivial | exact n0 | exact hb | exact n2 | (refine ⟨?_, ?_⟩))
      · trivial
      refine AWP.cond rfl (fun hb => ?_) (fun hb => ?_)
      · have hc : (l.getD (k : Int).toNat 0 != m.getD (k : Int).toNat 0) = true := hb
        rw [getD_at' hlt, getD_at' (by omega)] at hc
        (repeat (first | refine AWP.seq ?_ | refine AWP.skip ?_ | refine AWP.label ?_ | refine AWP.exit ?_ | refine AWP.block ?_ | refine AWP.region hX coK_ok rfl trivial ?_ | refine AWP.region hX coK_ok rfl id ?_ | refine AWP.region hX coK_ok rfl ⟨id, id⟩ ?_))
        refine AWP.ret ⟨.inr rfl, done1 rfl trivial rfl rfl ?_⟩
        exact (decide_eq_false fun e => by
          have e : l = m := e
          subst e
          simp at hc).symm
      · have hc : (l.getD (k : Int).toNat 0 != m.getD (k : Int).toNat 0) = false := hb
        rw [getD_at' hlt, getD_at' (by omega)] at hc
        (repeat (first | refine AWP.seq ?_ | refine AWP.skip ?_ | refine AWP.block ?_ | refine AWP.exit ?_)); refine AWP.region hX coK_ok rfl ?_ ?_
        · exact inR_succ (by omega)
        exact ⟨k + 1, ⟨by omega, fun j hj hlt => by
          by_cases e : j = k
          · subst e; simpa using hc
          · exact he j hj (by omega)⟩, by omega, ⟨rfl, rfl, rfl, vSucc _, trivial⟩, trivial, rfl, rfl⟩
    · have hb : decide ((k : Int) < (l.length : Nat)) = false := hb
      have hb := of_decide_eq_false hb
      (repeat (first | refine AWP.seq ?_ | refine AWP.skip ?_ | refine AWP.label ?_ | refine AWP.exit ?_ | refine AWP.block ?_ | refine AWP.region hX coK_ok rfl trivial ?_ | refine AWP.region hX coK_ok rfl id ?_ | refine AWP.region hX coK_ok rfl ⟨id, id⟩ ?_))
      refine AWP.ret ⟨.inr rfl, done1 rfl trivial rfl rfl ?_⟩
      exact (decide_eq_true (List.ext_getElem hlm fun j h1 h2 => he j h1 (by omega))).symm
/-- whether two lists of marks have the same answer -/
def sameS (a b : List Mk) (g : Int) (w : Sp) : Bool × Int :=
  if (viewS a g w).2 ≠ 0 then (false, (viewS a g w).2) else if (viewS b g w).2 ≠ 0 then (false, (viewS b g w).2) else (decide ((viewS a g w).1 = (viewS b g w).1), 0)
def cSameV : Ctr := { args := [.slice mk, .slice mk, i64, sp], pre := fun _ => [], res := .tup .bool (.tup i64 .unit), own := none, out := fun x => ((sameS x.1 x.2.1 x.2.2.1 x.2.2.2.1).1, (sameS x.1 x.2.1 x.2.2.1 x.2.2.2.1).2, ()) }
def kSa : Kn := { coK with C := [(7, cView), (17, cEqI)] }
theorem kSa_ok : KnOk Tryd.prog pG kSa := coK_ok.with (.cons view_ok <| .cons eqI_ok .nil)
theorem same_ok : CtrOk Tryd.prog pG 8 cSameV := by
  refine ctr_of_awp (K := kSa) kSa_ok Tryd.func8 rfl rfl Tryd.call8 rfl (by decide) (by intro h; cases h) ?_
  rintro w0 X hX ⟨(a : List Mk), (b : List Mk), (g : Int), (w : Sp), ⟨⟩⟩ hp
  change AWP _ _ _ _ _ ⟨[(0, ⟨.slice mk, a⟩), (1, ⟨.slice mk, b⟩), (2, ⟨i64, g⟩), (3, ⟨sp, w⟩)], [], 0⟩ _
  have hdone : ∀ r : Bool × Int, sameS a b g w = r → (r.1, r.2, ()) = (cSameV.out (a, b, g, w, ())) := fun r h => by rw [← h]; rfl
  (repeat (first | refine AWP.seq ?_ | refine AWP.skip ?_ | refine AWP.block ?_ | refine AWP.exit ?_)); refine AWP.region hX kSa_ok rfl ?_ ?_
  · trivial
  refine AWP.frzB hX 7 ?_
  (repeat (first | refine AWP.seq ?_ | refine AWP.skip ?_ | refine AWP.block ?_ | refine AWP.exit ?_)); refine AWP.region hX kSa_ok rfl ?_ ?_
  · trivial
  (repeat (first | refine AWP.seq ?_ | refine AWP.skip ?_ | refine AWP.block ?_ | refine AWP.exit ?_)); refine AWP.region hX kSa_ok rfl ?_ ?_
  · trivial
  refine AWP.cond rfl (fun hb => ?_) (fun hb => ?_)
  · have hb : ((viewS a g w).2 != 0) = true := hb
    have hb : (viewS a g w).2 ≠ 0 := by simpa using hb
    (repeat (first | refine AWP.seq ?_ | refine AWP.skip ?_ | refine AWP.block ?_ | refine AWP.exit ?_)); refine AWP.region hX kSa_ok rfl ?_ ?_
    · trivial
    exact AWP.ret ⟨.inr rfl, done2 (by decide) rfl rfl trivial (hdone (false, (viewS a g w).2) (if_pos hb))⟩
  have hb : ((viewS a g w).2 != 0) = false := hb
  have n1 : ¬ (viewS a g w).2 ≠ 0 := by simpa using hb
  refine AWP.skip ?_
  (repeat (first | refine AWP.seq ?_ | refine AWP.skip ?_ | refine AWP.block ?_ | refine AWP.exit ?_)); refine AWP.region hX kSa_ok rfl ?_ ?_
  · trivial
  (repeat (first | refine AWP.seq ?_ | refine AWP.skip ?_ | refine AWP.block ?_ | refine AWP.exit ?_)); refine AWP.region hX kSa_ok rfl ?_ ?_
  · trivial
  refine AWP.cond rfl (fun hb => ?_) (fun hb => ?_)
  · have hb : ((viewS b g w).2 != 0) = true := hb
    have hb : (viewS b g w).2 ≠ 0 := by simpa using hb
    (repeat (first | refine AWP.seq ?_ | refine AWP.skip ?_ | refine AWP.block ?_ | refine AWP.exit ?_)); refine AWP.region hX kSa_ok rfl ?_ ?_
    · trivial
    exact AWP.ret ⟨.inr rfl, done2 (by decide) rfl rfl trivial (hdone (false, (viewS b g w).2) ((if_neg n1).trans (if_pos hb)))⟩
  have hb : ((viewS b g w).2 != 0) = false := hb
  have n2 : ¬ (viewS b g w).2 ≠ 0 := by simpa using hb
  refine AWP.skip ?_
  (repeat (first | refine AWP.seq ?_ | refine AWP.skip ?_ | refine AWP.block ?_ | refine AWP.exit ?_)); refine AWP.region hX kSa_ok rfl ?_ ?_
  · trivial
  exact AWP.ret ⟨.inr rfl, done2 (by decide) rfl rfl trivial (hdone (decide ((viewS a g w).1 = (viewS b g w).1), 0) ((if_neg n1).trans (if_neg n2)))⟩
/-! ### Witness -/
/-- the mark over a whole cell -/
def cellM (g : Int) (w : Sp) (i k : Nat) : Mk := ((w.1 + (i : Int) * sizeS g, w.1 + ((i : Int) + 1) * sizeS g, ()), (k : Int) + 1, ())
def witK (g : Int) (w : Sp) (i : Nat) (x : Int) (K : Nat) : List Mk := ((List.range K).filter fun k => x.toNat.testBit k).map (cellM g w i)
def witN (v : List Int) (g : Int) (w : Sp) (N : Nat) : List Mk := (List.range N).flatMap fun i => witK g w i (v.getD i 0) 8
def witnessS (v : List Int) (g : Int) (w : Sp) : List Mk × Int :=
  if (cellsS g w).2 ≠ 0 then ([], (cellsS g w).2) else if possS v g (cellsS g w).1 = false then ([], 1) else (witN v g w v.length, 0)
theorem witK_succ (g : Int) (w : Sp) (i : Nat) (x : Int) (K : Nat) : witK g w i x (K + 1) = witK g w i x K ++ if x.toNat.testBit K then [cellM g w i K] else [] := by
  unfold witK
  rw [List.range_succ, List.filter_append, List.map_append]
  congr 1
  by_cases h : x.toNat.testBit K
  · rw [if_pos h]; simp [h]
  · rw [if_neg h]; simp [h]
theorem witK_len (g : Int) (w : Sp) (i : Nat) (x : Int) (K : Nat) : (witK g w i x K).length ≤ K := by
  unfold witK
  rw [List.length_map]
  exact Nat.le_trans (List.length_filter_le _ _) (by rw [List.length_range]; exact Nat.le_refl _)
theorem witN_succ (v : List Int) (g : Int) (w : Sp) (N : Nat) : witN v g w (N + 1) = witN v g w N ++ witK g w N (v.getD N 0) 8 := by
  unfold witN
  rw [List.range_succ, List.flatMap_append]
  simp
theorem witN_len (v : List Int) (g : Int) (w : Sp) : ∀ N, (witN v g w N).length ≤ 8 * N
  | 0 => by simp [witN]
  | N + 1 => by
    rw [witN_succ, List.length_append]
    have := witN_len v g w N
    have := witK_len g w N (v.getD N 0) 8
    omega
theorem bit_test {x : Int} (h0 : 0 ≤ x) (k : Nat) : (((((x / 2 ^ k).toNat &&& 1 : Nat) : Int) == 1) = x.toNat.testBit k) := by
  have e1 : (x / 2 ^ k).toNat = x.toNat / 2 ^ k := by
    obtain ⟨n, rfl⟩ := Int.eq_ofNat_of_zero_le h0
    have : ((n : Int) / 2 ^ k) = ((n / 2 ^ k : Nat) : Int) := by simp
    rw [this, Int.toNat_natCast, Int.toNat_natCast]
  rw [e1, Nat.and_one_is_mod, Nat.testBit_eq_decide_div_mod_eq]
  have : (((x.toNat / 2 ^ k % 2 : Nat) : Int) == 1) = decide (((x.toNat / 2 ^ k % 2 : Nat) : Int) = 1) := rfl
  rw [this]
  apply decide_eq_decide.2
  omega
def cWit : Ctr := { args := [ints, i64, sp], pre := fun _ => [], res := .tup (.slice mk) (.tup i64 .unit), own := none, out := fun x => ((witnessS x.1 x.2.1 x.2.2.1).1, (witnessS x.1 x.2.1 x.2.2.1).2, ()) }
def kWi : Kn := { coK with C := [(14, cCells), (18, cPoss), (16, cSize)] }
theorem kWi_ok : KnOk Tryd.prog pG kWi := coK_ok.with (.cons cells_ok <| .cons poss_ok <| .cons size_ok .nil)
theorem wit_ok : CtrOk Tryd.prog pG 9 cWit := by
  refine ctr_of_awp (K := kWi) kWi_ok Tryd.func9 rfl rfl Tryd.call9 rfl (by decide) (by intro h; cases h) ?_
  rintro w0 X hX ⟨(v : List Int), (g : Int), (w : Sp), ⟨⟩⟩ hp
  change AWP _ _ _ _ _ ⟨[(0, ⟨ints, v⟩), (1, ⟨i64, g⟩), (2, ⟨sp, w⟩)], [], 0⟩ _
  have hdone : ∀ r : List Mk × Int, witnessS v g w = r → (r.1, r.2, ()) = (cWit.out (v, g, w, ())) := fun r h => by rw [← h]; rfl
  (repeat (first | refine AWP.seq ?_ | refine AWP.skip ?_ | refine AWP.block ?_ | refine AWP.exit ?_)); refine AWP.region hX kWi_ok rfl ?_ ?_
  · trivial
  refine AWP.frzB hX 5 ?_
  (repeat (first | refine AWP.seq ?_ | refine AWP.skip ?_ | refine AWP.block ?_ | refine AWP.exit ?_)); refine AWP.region hX kWi_ok rfl ?_ ?_
  · trivial
  (repeat (first | refine AWP.seq ?_ | refine AWP.skip ?_ | refine AWP.block ?_ | refine AWP.exit ?_)); refine AWP.region hX kWi_ok rfl ?_ ?_
  · trivial
  refine AWP.cond rfl (fun hb => ?_) (fun hb => ?_)
  · have hb : ((cellsS g w).2 != 0) = true := hb
    have hb : (cellsS g w).2 ≠ 0 := by simpa using hb
    (repeat (first | refine AWP.seq ?_ | refine AWP.skip ?_ | refine AWP.block ?_ | refine AWP.exit ?_)); refine AWP.region hX kWi_ok rfl ?_ ?_
    · trivial
    exact AWP.ret ⟨.inr rfl, done2 (by decide) rfl rfl trivial (hdone ([], (cellsS g w).2) (if_pos hb))⟩
  have hb : ((cellsS g w).2 != 0) = false := hb
  have hce : (cellsS g w).2 = 0 := by simpa using hb
  obtain ⟨c1, c2, c3, c4, c5, c6, c7⟩ := cells_spec hce
  have n1 : ¬ (cellsS g w).2 ≠ 0 := by rw [hce]; decide
  refine AWP.skip ?_
  (repeat (first | refine AWP.seq ?_ | refine AWP.skip ?_ | refine AWP.block ?_ | refine AWP.exit ?_)); refine AWP.region hX kWi_ok rfl ?_ ?_
  · trivial
  refine AWP.cond rfl (fun hb => ?_) (fun hb => ?_)
  · have hb : (!possS v g (cellsS g w).1) = true := hb
    rw [Bool.not_eq_true'] at hb
    (repeat (first | refine AWP.seq ?_ | refine AWP.skip ?_ | refine AWP.block ?_ | refine AWP.exit ?_)); refine AWP.region hX kWi_ok rfl ?_ ?_
    · trivial
    exact AWP.ret ⟨.inr rfl, done2 (by decide) rfl rfl trivial (hdone ([], 1) ((if_neg n1).trans (if_pos hb)))⟩
  have hb : (!possS v g (cellsS g w).1) = false := hb
  rw [Bool.not_eq_false'] at hb
  have n2 : ¬ possS v g (cellsS g w).1 = false := by rw [hb]; decide
  obtain ⟨hbv, hlv⟩ := poss_bytes hb
  have hend := hdone (witN v g w v.length, 0) ((if_neg n1).trans (if_neg n2))
  clear hdone n1 n2 hb
  generalize (cellsS g w).1 = n at c4 c5 c6 hlv
  have hsz := sizeS_pos (g := g) (by omega) c2
  have g0 : 0 ≤ g := by omega
  have g5 : g < 5 := by omega
  refine AWP.skip ?_
  (repeat (first | refine AWP.seq ?_ | refine AWP.skip ?_ | refine AWP.block ?_ | refine AWP.exit ?_)); refine AWP.region hX kWi_ok rfl ?_ ?_
  · trivial
  refine AWP.nilBuf hX 10 59 mk rfl rfl rfl ?_
  (repeat (first | refine AWP.seq ?_ | refine AWP.skip ?_ | refine AWP.block ?_ | refine AWP.exit ?_)); refine AWP.region hX kWi_ok rfl ?_ ?_
  · trivial
  (repeat (first | refine AWP.seq ?_ | refine AWP.block ?_))
  refine AWP.loop (ι := Nat) (fun i => ⟨[(1, ⟨i64, g⟩), (5, ⟨.vptr sp, w⟩), (10, ⟨.obuf mk, (1 : Nat)⟩), (29, ⟨ints, v⟩), (30, ⟨i64, ((v.length : Nat) : Int)⟩), (31, ⟨i64, (i : Int)⟩)], [(1, some (.buf 59 mk (witN v g w i)))], 2⟩) (fun i => i ≤ v.length) (fun i => v.length - i) 0 (by omega) ⟨⟨rfl, rfl, rfl, rfl, rfl, rfl, trivial⟩, ⟨rfl, trivial⟩, rfl, rfl⟩ ?_
  intro i hi
  (repeat (first | refine AWP.seq ?_ | refine AWP.skip ?_ | refine AWP.block ?_ | refine AWP.exit ?_)); refine AWP.region hX kWi_ok rfl ?_ ?_
  · trivial
  refine AWP.seq ?_
  refine AWP.cond rfl (fun hb => ?_) (fun hb => ?_)
  · have hb : decide ((i : Int) < (v.length : Nat)) = true := hb
    have hb := of_decide_eq_true hb
    have hlt : i < v.length := by omega
    have n0 : (0 : Int) ≤ (i : Int) := by omega
    have eg : v.getD (i : Int).toNat 0 = v[i] := getD_at' hlt
    have ex : v[i] = v.getD i 0 := by rw [List.getD_eq_getElem?_getD, List.getElem?_eq_getElem hlt]; rfl
    have hx : 0 ≤ v[i] ∧ v[i] ≤ 255 := hbv _ (List.getElem_mem hlt)
    (repeat (first | refine AWP.seq ?_ | refine AWP.skip ?_ | refine AWP.block ?_ | refine AWP.exit ?_)); refine AWP.region hX kWi_ok rfl ?_ ?_
    · exact ⟨n0, hb⟩
    have m1 : ((i : Int) + 1) * sizeS g ≤ n * sizeS g := Int.mul_le_mul_of_nonneg_right (by omega) (by omega)
    have m0 : 0 ≤ (i : Int) * sizeS g := Int.mul_nonneg n0 (by omega)
    have m2 : ((i : Int) + 1) * sizeS g = (i : Int) * sizeS g + sizeS g := by rw [Int.add_mul, Int.one_mul]
    have r1 : inR .i64 ((i : Int) * sizeS g) := inR_small (by omega) (by omega)
    have r2 : inR .i64 (((i : Int) + 1) * sizeS g) := inR_small (by omega) (by omega)
    have r3 : inR .i64 (w.1 + (i : Int) * sizeS g) := inR_small (by omega) (by omega)
    have r4 : inR .i64 (w.1 + ((i : Int) + 1) * sizeS g) := inR_small (by omega) (by omega)
    have r5 : inR .i64 ((i : Int) + 1) := inR_small (by omega) (by omega)
    (repeat (first | refine AWP.seq ?_ | refine AWP.skip ?_ | refine AWP.block ?_ | refine AWP.exit ?_)); refine AWP.drawN dM hX kWi_ok 18 (by kernel_rfl) rfl rfl ?_ ?_ ?_
    · repeat' (first | exact trivial | exact g0 | exact g5 | exact r1 | exact r2 | exact r3 | exact r4 | exact r5 | (refine ⟨?_, ?_⟩))
    · trivial
    refine AWP.frzB hX 13 ?_
    obtain ⟨x, hxe⟩ : ∃ x, x = v.getD i 0 := ⟨_, rfl⟩
    have exx : v.getD (i : Int).toNat 0 = x := by rw [eg, ex, hxe]
    rw [ex, ← hxe] at hx
    refine AWP.fit (σ' := ⟨[(1, ⟨i64, g⟩), (5, ⟨.vptr sp, w⟩), (10, ⟨.obuf mk, (1 : Nat)⟩), (12, ⟨i64, x⟩), (13, ⟨.vptr sp, (cellM g w i 0).1⟩), (29, ⟨ints, v⟩), (30, ⟨i64, ((v.length : Nat) : Int)⟩), (31, ⟨i64, (i : Int)⟩)], [(1, some (.buf 59 mk (witN v g w i)))], 2⟩) ⟨⟨rfl, rfl, rfl, vI64 exx, rfl, rfl, rfl, rfl, trivial⟩, ⟨rfl, trivial⟩, rfl, rfl⟩ ?_
    (repeat (first | refine AWP.seq ?_ | refine AWP.skip ?_ | refine AWP.block ?_ | refine AWP.exit ?_)); refine AWP.region hX kWi_ok rfl ?_ ?_
    · trivial
    (repeat (first | refine AWP.seq ?_ | refine AWP.block ?_))
    refine AWP.loop (ι := Nat) (fun k => ⟨[(1, ⟨i64, g⟩), (5, ⟨.vptr sp, w⟩), (10, ⟨.obuf mk, (1 : Nat)⟩), (12, ⟨i64, x⟩), (13, ⟨.vptr sp, (cellM g w i 0).1⟩), (29, ⟨ints, v⟩), (30, ⟨i64, ((v.length : Nat) : Int)⟩), (31, ⟨i64, (i : Int)⟩), (52, ⟨i64, (k : Int)⟩)], [(1, some (.buf 59 mk (witN v g w i ++ witK g w i x k)))], 2⟩) (fun k => k ≤ 8) (fun k => 8 - k) 0 (by omega) ⟨⟨rfl, rfl, rfl, rfl, rfl, rfl, rfl, rfl, rfl, trivial⟩, ⟨?_, trivial⟩, rfl, rfl⟩ ?_
    · exact bufMk (by show witN v g w i = witN v g w i ++ []; rw [List.append_nil])
    intro k hk
    (repeat (first | refine AWP.seq ?_ | refine AWP.skip ?_ | refine AWP.block ?_ | refine AWP.exit ?_)); refine AWP.region hX kWi_ok rfl ?_ ?_
    · trivial
    refine AWP.seq ?_
    refine AWP.cond rfl (fun hb => ?_) (fun hb => ?_)
    · have hb : decide ((k : Int) < 8) = true := hb
      have hb := of_decide_eq_true hb
      (repeat (first | refine AWP.seq ?_ | refine AWP.skip ?_ | refine AWP.block ?_ | refine AWP.exit ?_)); refine AWP.region hX kWi_ok rfl ?_ ?_
      · trivial
      have k0 : (0 : Int) ≤ (k : Int) := by omega
      have k1 : (k : Int) ≤ 63 := by omega
      have d0 : 0 ≤ x / 2 ^ (k : Int).toNat := Int.ediv_nonneg hx.1 (by exact Int.le_of_lt (Int.pow_pos (by decide)))
      have d1 : (x / 2 ^ (k : Int).toNat).toNat < 2 ^ 63 := by
        have := Int.ediv_le_self (2 ^ (k : Int).toNat) hx.1
        omega
      (repeat (first | refine AWP.seq ?_ | refine AWP.skip ?_ | refine AWP.block ?_ | refine AWP.exit ?_)); refine AWP.region hX kWi_ok rfl ?_ ?_
      · repeat' (first | exact trivial | exact k0 | exact k1 | exact d0 | exact d1 | exact (by decide : (0 : Int) ≤ 1) | exact (by decide : Int.toNat 1 < 2 ^ 63) | (refine ⟨?_, ?_⟩))
      have et := bit_test hx.1 k
      refine AWP.cond rfl (fun hb => ?_) (fun hb => ?_)
      · have hb : ((((x / 2 ^ (k : Int).toNat).toNat &&& Int.toNat 1 : Nat) : Int) == 1) = true := hb
        rw [Int.toNat_natCast] at hb
        have hbt : x.toNat.testBit k = true := by rw [← et]; exact hb
        have a1 := witN_len v g w i
        have a2 := witK_len g w i x k
        have a3 : (witN v g w i ++ witK g w i x k).length + 1 ≤ 1000000000 := by rw [List.length_append]; omega
        have a4 : inR .i64 ((k : Int) + 1) := inR_small (by omega) (by omega)
        (repeat (first | refine AWP.seq ?_ | refine AWP.skip ?_ | refine AWP.block ?_ | refine AWP.exit ?_)); refine AWP.region hX kWi_ok rfl ?_ ?_
        · exact ⟨a4, a3⟩
        (repeat (first | refine AWP.seq ?_ | refine AWP.skip ?_ | refine AWP.block ?_ | refine AWP.exit ?_)); refine AWP.region hX kWi_ok rfl ?_ ?_
        · exact inR_succ (by omega)
        refine ⟨k + 1, by omega, by omega, ⟨rfl, rfl, rfl, rfl, rfl, rfl, rfl, rfl, vSucc _, trivial⟩, ⟨?_, trivial⟩, rfl, rfl⟩
        exact bufMk (by rw [witK_succ, if_pos hbt, ← List.append_assoc]; rfl)
      · have hb : ((((x / 2 ^ (k : Int).toNat).toNat &&& Int.toNat 1 : Nat) : Int) == 1) = false := hb
        rw [Int.toNat_natCast] at hb
        have hbt : ¬ x.toNat.testBit k = true := by
          rw [← et]
          intro h
          have h2 : ((((x / 2 ^ k).toNat &&& 1 : Nat) : Int) == 1) = false := hb
          rw [h2] at h
          cases h
        refine AWP.skip ?_
        (repeat (first | refine AWP.seq ?_ | refine AWP.skip ?_ | refine AWP.block ?_ | refine AWP.exit ?_)); refine AWP.region hX kWi_ok rfl ?_ ?_
        · exact inR_succ (by omega)
        refine ⟨k + 1, by omega, by omega, ⟨rfl, rfl, rfl, rfl, rfl, rfl, rfl, rfl, vSucc _, trivial⟩, ⟨?_, trivial⟩, rfl, rfl⟩
        exact bufMk (by rw [witK_succ, if_neg hbt, List.append_nil])
    · have hb : decide ((k : Int) < 8) = false := hb
      have hb := of_decide_eq_false hb
      have hk8 : k = 8 := by omega
      subst hk8
      refine AWP.exit ?_
      (repeat (first | refine AWP.seq ?_ | refine AWP.skip ?_ | refine AWP.block ?_ | refine AWP.exit ?_)); refine AWP.region hX kWi_ok rfl ?_ ?_
      · exact inR_succ (by omega)
      refine ⟨i + 1, by omega, by omega, ⟨rfl, rfl, rfl, rfl, rfl, vSucc _, trivial⟩, ⟨?_, trivial⟩, rfl, rfl⟩
      exact bufMk (by rw [witN_succ, ← hxe])
  · have hb : decide ((i : Int) < (v.length : Nat)) = false := hb
    have hb := of_decide_eq_false hb
    have hil : i = v.length := by omega
    subst hil
    refine AWP.exit ?_
    refine AWP.frz hX 10 ?_
    (repeat (first | refine AWP.seq ?_ | refine AWP.skip ?_ | refine AWP.block ?_ | refine AWP.exit ?_)); refine AWP.region hX kWi_ok rfl ?_ ?_
    · trivial
    exact AWP.ret ⟨.inr rfl, done2 (by decide) rfl rfl trivial hend⟩
/-! ### the window that a statement makes from numbers -/
def rSize (g : Int) : Int := if g = 1 then 1440 else if g = 2 ∨ g = 3 then 30 else 1
def cRSize : Ctr := { args := [i64], pre := fun _ => [], res := i64, own := none, out := fun x => rSize x.1 }
theorem rsize_ok : CtrOk Tryd.prog pG 12 cRSize := by
  refine ctr_of_awp (K := coK) coK_ok Tryd.func12 rfl rfl Tryd.call12 rfl (by decide) (by intro h; cases h) ?_
  rintro w0 X hX ⟨(g : Int), ⟨⟩⟩ hp
  change AWP _ _ _ _ _ ⟨[(0, ⟨i64, g⟩)], [], 0⟩ _
  (repeat (first | refine AWP.seq ?_ | refine AWP.skip ?_ | refine AWP.block ?_ | refine AWP.exit ?_)); refine AWP.region hX coK_ok rfl ?_ ?_
  · trivial
  (repeat (first | refine AWP.seq ?_ | refine AWP.skip ?_ | refine AWP.block ?_ | refine AWP.exit ?_)); refine AWP.region hX coK_ok rfl ?_ ?_
  · trivial
  (repeat (first | refine AWP.seq ?_ | refine AWP.skip ?_ | refine AWP.block ?_ | refine AWP.exit ?_)); refine AWP.region hX coK_ok rfl ?_ ?_
  · trivial
  refine AWP.cond rfl (fun hb => ?_) (fun hb => ?_)
  · have hb : (g == 1) = true := hb
    have hb : g = 1 := by simpa using hb
    (repeat (first | refine AWP.seq ?_ | refine AWP.skip ?_ | refine AWP.block ?_ | refine AWP.exit ?_)); refine AWP.region hX coK_ok rfl ?_ ?_
    · trivial
    exact AWP.ret ⟨.inr rfl, done1 rfl trivial rfl rfl (if_pos hb).symm⟩
  have hb : (g == 1) = false := hb
  have n1 : ¬ g = 1 := by simpa using hb
  refine AWP.join (σ' := ⟨[(0, ⟨i64, g⟩), (6, ⟨.bool, decide (g = 2 ∨ g = 3)⟩)], [], 0⟩) ?_ ?_
  · (repeat (first | refine AWP.seq ?_ | refine AWP.skip ?_ | refine AWP.block ?_ | refine AWP.exit ?_)); refine AWP.region hX coK_ok rfl ?_ ?_
    · trivial
    refine AWP.cond rfl (fun hb => ?_) (fun hb => ?_)
    · have hb : (g == 2) = true := hb
      have hb2 : g = 2 := by simpa using hb
      refine AWP.skip ?_
      exact ⟨⟨rfl, vBool (by rw [hb]; exact (decide_eq_true (.inl hb2)).symm), trivial⟩, trivial, rfl, rfl⟩
    · have hb : (g == 2) = false := hb
      have n2 : ¬ g = 2 := by simpa using hb
      (repeat (first | refine AWP.seq ?_ | refine AWP.skip ?_ | refine AWP.block ?_ | refine AWP.exit ?_)); refine AWP.region hX coK_ok rfl ?_ ?_
      · trivial
      refine ⟨⟨rfl, vBool (?_ : (g == 3) = _), trivial⟩, trivial, rfl, rfl⟩
      show decide (g = 3) = _
      exact decide_eq_decide.2 ⟨fun h => .inr h, fun h => h.resolve_left n2⟩
  refine AWP.cond rfl (fun hb => ?_) (fun hb => ?_)
  · have hb : decide (g = 2 ∨ g = 3) = true := hb
    have hb := of_decide_eq_true hb
    (repeat (first | refine AWP.seq ?_ | refine AWP.skip ?_ | refine AWP.block ?_ | refine AWP.exit ?_)); refine AWP.region hX coK_ok rfl ?_ ?_
    · trivial
    refine AWP.ret ⟨.inr rfl, done1 rfl trivial rfl rfl ?_⟩
    show (30 : Int) = rSize g
    unfold rSize
    rw [if_neg n1, if_pos hb]
  · have hb : decide (g = 2 ∨ g = 3) = false := hb
    have hb := of_decide_eq_false hb
    refine AWP.skip ?_
    (repeat (first | refine AWP.seq ?_ | refine AWP.skip ?_ | refine AWP.block ?_ | refine AWP.exit ?_)); refine AWP.region hX coK_ok rfl ?_ ?_
    · trivial
    refine AWP.ret ⟨.inr rfl, done1 rfl trivial rfl rfl ?_⟩
    show (1 : Int) = rSize g
    unfold rSize
    rw [if_neg n1, if_neg hb]
def hiT : Tbl := ltT ++ [(30, .arr 2 u8), (23, .arr 4 u8)]
def hiK : Kn := { T := hiT, Q := ltQ, U := ltU, C := [] }
theorem hiT_ok : TOk Tryd.prog hiT ltQ := tok_of (by kernel_rfl) (by kernel_rfl)
theorem hiK_ok : KnOk Tryd.prog pG hiK := ⟨hiT_ok, ltU_ok, CsOk.nil, fun _ _ _ _ => trivial, RsOk.nil⟩
/-- the window -/
def winX (g : Int) (x : List UInt8) : Sp :=
  if g = 1 then (0, 1440 * (1 + (((x.getD 0 0 % 2).toNat : Nat) : Int)), ()) else (30 * (((x.getD 0 0 % 96).toNat : Nat) : Int), 30 * (((x.getD 0 0 % 96).toNat : Nat) : Int) + rSize g * (1 + (((x.getD 1 0 % 40).toNat : Nat) : Int)), ())
def cWinX : Ctr := { args := [i64, .arr 2 u8], pre := fun _ => [], res := sp, own := none, out := fun x => winX x.1 x.2.1 }
def kWx : Kn := { hiK with C := [(12, cRSize)] }
theorem kWx_ok : KnOk Tryd.prog pG kWx := hiK_ok.with (.cons rsize_ok .nil)
theorem u8_mod (x m : UInt8) (h : 0 < m.toNat) : (x % m).toNat < m.toNat := by rw [UInt8.toNat_mod]; exact Nat.mod_lt _ h
theorem winX_ok : CtrOk Tryd.prog pG 6 cWinX := by
  refine ctr_of_awp (K := kWx) kWx_ok Tryd.func6 rfl rfl Tryd.call6 rfl (by decide) (by intro h; cases h) ?_
  rintro w0 X hX ⟨(g : Int), (x : List UInt8), ⟨⟩⟩ hp
  change AWP _ _ _ _ _ ⟨[(0, ⟨i64, g⟩), (1, ⟨.arr 2 u8, x⟩)], [], 0⟩ _
  have b0 : (x.getD (0 : Int).toNat 0 % 2).toNat < 2 := u8_mod _ 2 (by decide)
  have b1 : (x.getD (0 : Int).toNat 0 % 96).toNat < 96 := u8_mod _ 96 (by decide)
  have b2 : (x.getD (1 : Int).toNat 0 % 40).toNat < 40 := u8_mod _ 40 (by decide)
  have q0 : (0 : Int) ≤ 0 ∧ (0 : Int) < ((2 : Nat) : Int) := by decide
  have q1 : (0 : Int) ≤ 1 ∧ (1 : Int) < ((2 : Nat) : Int) := by decide
  have z0 : (2 : UInt8) ≠ 0 ∧ (96 : UInt8) ≠ 0 ∧ (40 : UInt8) ≠ 0 := by decide
  have hs : 1 ≤ rSize g ∧ rSize g ≤ 1440 := by
    unfold rSize
    split
    · omega
    · split <;> omega
  (repeat (first | refine AWP.seq ?_ | refine AWP.skip ?_ | refine AWP.block ?_ | refine AWP.exit ?_)); refine AWP.region hX kWx_ok rfl ?_ ?_
  · trivial
  refine AWP.frzB hX 3 ?_
  (repeat (first | refine AWP.seq ?_ | refine AWP.skip ?_ | refine AWP.block ?_ | refine AWP.exit ?_)); refine AWP.region hX kWx_ok rfl ?_ ?_
  · trivial
  (repeat (first | refine AWP.seq ?_ | refine AWP.skip ?_ | refine AWP.block ?_ | refine AWP.exit ?_)); refine AWP.region hX kWx_ok rfl ?_ ?_
  · trivial
  refine AWP.cond rfl (fun hb => ?_) (fun hb => ?_)
  · have hb : (g == 1) = true := hb
    have hb : g = 1 := by simpa using hb
    have r1 : inR .i64 (1 + (((x.getD (0 : Int).toNat 0 % 2).toNat : Nat) : Int)) := inR_small (by omega) (by omega)
    have r2 : inR .i64 (1440 * (1 + (((x.getD (0 : Int).toNat 0 % 2).toNat : Nat) : Int))) := inR_small (by omega) (by omega)
    (repeat (first | refine AWP.seq ?_ | refine AWP.skip ?_ | refine AWP.block ?_ | refine AWP.exit ?_)); refine AWP.region hX kWx_ok rfl ?_ ?_
    · repeat' (first | exact trivial | exact q0.1 | exact q0.2 | exact z0.1 | exact r1 | exact r2 | (refine ⟨?_, ?_⟩))
    exact AWP.ret ⟨.inr rfl, done1 rfl trivial rfl rfl (if_pos hb).symm⟩
  have hb : (g == 1) = false := hb
  have n1 : ¬ g = 1 := by simpa using hb
  refine AWP.skip ?_
  have r1 : inR .i64 (30 * (((x.getD (0 : Int).toNat 0 % 96).toNat : Nat) : Int)) := inR_small (by omega) (by omega)
  (repeat (first | refine AWP.seq ?_ | refine AWP.skip ?_ | refine AWP.block ?_ | refine AWP.exit ?_)); refine AWP.region hX kWx_ok rfl ?_ ?_
  · repeat' (first | exact trivial | exact q0.1 | exact q0.2 | exact z0.2.1 | exact r1 | (refine ⟨?_, ?_⟩))
  have r2 : inR .i64 (1 + (((x.getD (1 : Int).toNat 0 % 40).toNat : Nat) : Int)) := inR_small (by omega) (by omega)
  have hm : 0 ≤ rSize g * (1 + (((x.getD (1 : Int).toNat 0 % 40).toNat : Nat) : Int)) ∧ rSize g * (1 + (((x.getD (1 : Int).toNat 0 % 40).toNat : Nat) : Int)) ≤ 1440 * 40 :=
    ⟨Int.mul_nonneg (by omega) (by omega), Int.le_trans (Int.mul_le_mul_of_nonneg_right hs.2 (by omega)) (by omega)⟩
  have r3 : inR .i64 (rSize g * (1 + (((x.getD (1 : Int).toNat 0 % 40).toNat : Nat) : Int))) := inR_small (by omega) (by omega)
  have r4 : inR .i64 (30 * (((x.getD (0 : Int).toNat 0 % 96).toNat : Nat) : Int) + rSize g * (1 + (((x.getD (1 : Int).toNat 0 % 40).toNat : Nat) : Int))) := inR_small (by omega) (by omega)
  (repeat (first | refine AWP.seq ?_ | refine AWP.skip ?_ | refine AWP.block ?_ | refine AWP.exit ?_)); refine AWP.region hX kWx_ok rfl ?_ ?_
  · repeat' (first | exact trivial | exact q1.1 | exact q1.2 | exact z0.2.2 | exact r2 | exact r3 | exact r4 | (refine ⟨?_, ?_⟩))
  exact AWP.ret ⟨.inr rfl, done1 rfl trivial rfl rfl (if_neg n1).symm⟩
end Go.Proofs.YtbbeldmcdjjnbaaDoor
