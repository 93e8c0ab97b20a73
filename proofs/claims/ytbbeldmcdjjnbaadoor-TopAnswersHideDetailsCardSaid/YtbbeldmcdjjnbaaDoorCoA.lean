/-
  Package coarse, first part: window, size, valid, Cells, possible.
-/
import Derived.Test.YtbbeldmcdjjnbaaDoorPPrgA
namespace Go.Proofs.YtbbeldmcdjjnbaaDoor
open Go Go.RowKit
set_option linter.unusedSimpArgs false
set_option linter.unusedVariables false
set_option maxRecDepth 100000
abbrev sp : Ty := .pair i64 (.pair i64 .unit)
abbrev mk : Ty := .pair sp (.pair i64 .unit)
abbrev Sp := Int × Int × Unit
abbrev Mk := Sp × Int × Unit
def zMk : Mk := ((0, 0, ()), 0, ())
def coT : Tbl := pT ++ [(28, sp), (59, mk), (25, .slice mk), (60, .arr 3 u8), (22, .slice (.arr 3 u8)), (77, .arr 5 i64)]
def coU : UTbl := pU ++ [(25, 59), (22, 60)]
def coK : Kn := { T := coT, Q := pQ, U := coU, C := [] }
theorem coT_ok : TOk Tryd.prog coT pQ := tok_of (by kernel_rfl) (by kernel_rfl)
theorem coU_ok : UOk Tryd.prog coU := elemB_ok (by kernel_rfl)
theorem coK_ok : KnOk Tryd.prog pG coK := ⟨coT_ok, coU_ok, CsOk.nil, fun _ _ _ _ => trivial, RsOk.nil⟩
theorem boxInt {x y : Int} (h : x = y) : some (OObj.box i64 x) = some (OObj.box i64 y) := by rw [h]
theorem b_and (a b : Bool) : (bif a then b else false) = (a && b) := by cases a <;> rfl
theorem b_or (a b : Bool) : (bif a then true else b) = (a || b) := by cases a <;> rfl
/-- a valid window -/
def winOk (w : Sp) : Bool := decide (-2251799813685248 ≤ w.1) && decide (w.1 ≤ w.2.1) && decide (w.2.1 ≤ 2251799813685248)
def cWindow : Ctr := { args := [sp], pre := fun _ => [], res := .bool, own := none, out := fun x => winOk x.1 }
theorem window_ok : CtrOk Tryd.prog pG 23 cWindow := by
  refine ctr_of_awp (K := coK) coK_ok Tryd.func23 rfl rfl Tryd.call23 rfl (by decide) (by intro h; cases h) ?_
  rintro w0 X hX ⟨⟨(a : Int), (b : Int), _⟩, _⟩ hp
  change AWP _ _ _ _ _ ⟨[(0, ⟨sp, (a, b, ())⟩)], [], 0⟩ _
  (repeat (first | refine AWP.seq ?_ | refine AWP.skip ?_ | refine AWP.block ?_ | refine AWP.exit ?_)); refine AWP.region hX coK_ok rfl ?_ ?_
  · trivial
  (repeat (first | refine AWP.seq ?_ | refine AWP.skip ?_ | refine AWP.block ?_ | refine AWP.exit ?_)); refine AWP.region hX coK_ok rfl ?_ ?_
  · repeat' (first | exact trivial | assumption | (refine ⟨?_, ?_⟩) | (intro _))
  refine AWP.ret ⟨.inr rfl, done1 rfl trivial rfl rfl ?_⟩
  show (bif (bif decide (-2251799813685248 ≤ a) then decide (a ≤ b) else false) then decide (b ≤ 2251799813685248) else false) = _
  rw [b_and, b_and]
  rfl
def sizeS (g : Int) : Int := ([0, 1440, 30, 30, 1] : List Int).getD g.toNat 0
def cSize : Ctr := { args := [i64], pre := fun x => [0 ≤ x.1, x.1 < 5], res := i64, own := none, out := fun x => sizeS x.1 }
theorem size_ok : CtrOk Tryd.prog pG 16 cSize := by
  refine ctr_of_awp (K := coK) coK_ok Tryd.func16 rfl rfl Tryd.call16 rfl (by decide) (by intro h; cases h) ?_
  rintro w0 X hX ⟨(g : Int), _⟩ hp
  obtain ⟨h0, h5⟩ : 0 ≤ g ∧ g < 5 := hp
  change AWP _ _ _ _ _ ⟨[(0, ⟨i64, g⟩)], [], 0⟩ _
  have h6 : g.toNat < 5 := by omega
  (repeat (first | refine AWP.seq ?_ | refine AWP.skip ?_ | refine AWP.block ?_ | refine AWP.exit ?_)); refine AWP.region hX coK_ok rfl ?_ ?_
  · trivial
  (repeat (first | refine AWP.seq ?_ | refine AWP.skip ?_ | refine AWP.block ?_ | refine AWP.exit ?_)); refine AWP.region hX coK_ok rfl ?_ ?_
  · repeat' (first | exact trivial | assumption | (refine ⟨?_, ?_⟩) | (intro _))
  exact AWP.ret ⟨.inr rfl, done1 rfl trivial rfl rfl rfl⟩
/-- not a valid mark -/
def mkBad (m : Mk) : Bool := decide (m.2.1 < 1) || decide (m.2.1 > 8) || !winOk m.1 || (m.1.1 == m.1.2.1)
def kCoA : Kn := { coK with C := [(23, cWindow)] }
theorem kCoA_ok : KnOk Tryd.prog pG kCoA := coK_ok.with (.cons window_ok .nil)
def cMkBad : Ctr := { args := [mk], pre := fun _ => [], res := .bool, own := none, out := fun x => mkBad x.1 }
theorem mkBad_ok : CtrOk Tryd.prog pG 22 cMkBad := by
  refine ctr_of_awp (K := kCoA) kCoA_ok Tryd.func22 rfl rfl Tryd.call22 rfl (by decide) (by intro h; cases h) ?_
  rintro w0 X hX ⟨⟨⟨(a : Int), (b : Int), _⟩, (k : Int), _⟩, _⟩ hp
  change AWP _ _ _ _ _ ⟨[(0, ⟨mk, ((a, b, ()), k, ())⟩)], [], 0⟩ _
  (repeat (first | refine AWP.seq ?_ | refine AWP.skip ?_ | refine AWP.block ?_ | refine AWP.exit ?_)); refine AWP.region hX kCoA_ok rfl ?_ ?_
  · trivial
  (repeat (first | refine AWP.seq ?_ | refine AWP.skip ?_ | refine AWP.block ?_ | refine AWP.exit ?_)); refine AWP.region hX kCoA_ok rfl ?_ ?_
  · repeat' (first | exact trivial | assumption | (refine ⟨?_, ?_⟩) | (intro _))
  refine AWP.ret ⟨.inr rfl, done1 rfl trivial rfl rfl ?_⟩
  show (bif (bif (bif decide (k < 1) then true else decide (k > 8)) then true else !winOk (a, b, ())) then true else (a == b)) = _
  rw [b_or, b_or, b_or]
  rfl
def mLit : Value := .func (.func 22) #[] #[]
def cIdxM : Ctr := { args := [.slice mk, .lit], pre := fun x => [x.2.1 = mLit], res := i64, own := none, out := fun x => idx mkBad x.1 }
def kCoB : Kn := { coK with C := [(22, cMkBad)] }
theorem kCoB_ok : KnOk Tryd.prog pG kCoB := coK_ok.with (.cons mkBad_ok .nil)
theorem getD_at' {α : Type} {l : List α} {k : Nat} {z : α} (h : k < l.length) : l.getD (k : Int).toNat z = l[k] := by
  rw [Int.toNat_natCast, List.getD_eq_getElem?_getD, List.getElem?_eq_getElem h]
  rfl
theorem idxM_ok : CtrOk Tryd.prog pG 38 cIdxM := by
  refine ctr_of_awp (K := kCoB) kCoB_ok Tryd.func38 rfl rfl Tryd.call38 rfl (by decide) (by intro h; cases h) ?_
  rintro w0 X hX ⟨(l : List Mk), (f : Value), _⟩ hp
  obtain rfl : f = mLit := hp
  change AWP _ _ _ _ _ ⟨[(0, ⟨.slice mk, l⟩), (1, ⟨.lit, mLit⟩)], [], 0⟩ _
  refine AWP.len 0 rfl fun hl => ?_
  unfold maxLen at hl
  (repeat (first | refine AWP.seq ?_ | refine AWP.skip ?_ | refine AWP.label ?_ | refine AWP.exit ?_ | refine AWP.block ?_ | refine AWP.region hX kCoB_ok rfl trivial ?_ | refine AWP.region hX kCoB_ok rfl id ?_ | refine AWP.region hX kCoB_ok rfl ⟨id, id⟩ ?_))
  refine AWP.loop (ι := Nat) (fun k => ⟨[(0, ⟨.slice mk, l⟩), (1, ⟨.lit, mLit⟩), (7, ⟨i64, ((l.length : Nat) : Int)⟩), (8, ⟨i64, (k : Int)⟩)], [], 0⟩) (fun k => k ≤ l.length ∧ ∀ j (hj : j < l.length), j < k → mkBad l[j] = false) (fun k => l.length - k) 0 ⟨by omega, by omega⟩ ⟨⟨rfl, rfl, rfl, rfl, trivial⟩, trivial, rfl, rfl⟩ ?_
  rintro k ⟨hk, hn⟩
  (repeat (first | refine AWP.seq ?_ | refine AWP.skip ?_ | refine AWP.block ?_ | refine AWP.exit ?_)); refine AWP.region hX kCoB_ok rfl ?_ ?_
  · trivial
  refine AWP.seq ?_
  refine AWP.cond rfl (fun hb => ?_) (fun hb => ?_)
  · have hb : decide ((k : Int) < (l.length : Nat)) = true := hb
    have hb := of_decide_eq_true hb
    have hlt : k < l.length := by omega
    have n0 : (0 : Int) ≤ (k : Int) := by omega
    (repeat (first | refine AWP.seq ?_ | refine AWP.skip ?_ | refine AWP.block ?_ | refine AWP.exit ?_)); refine AWP.region hX kCoB_ok rfl ?_ ?_
    · trivial
    (repeat (first | refine AWP.seq ?_ | refine AWP.skip ?_ | refine AWP.block ?_ | refine AWP.exit ?_)); refine AWP.region hX kCoB_ok rfl ?_ ?_
    · exact ⟨n0, hb⟩
    refine AWP.cond rfl (fun hb => ?_) (fun hb => ?_)
    · have hc : mkBad (l.getD (k : Int).toNat zMk) = true := hb
      rw [getD_at' hlt] at hc
      (repeat (first | refine AWP.seq ?_ | refine AWP.skip ?_ | refine AWP.label ?_ | refine AWP.exit ?_ | refine AWP.block ?_ | refine AWP.region hX kCoB_ok rfl trivial ?_ | refine AWP.region hX kCoB_ok rfl id ?_ | refine AWP.region hX kCoB_ok rfl ⟨id, id⟩ ?_))
      refine AWP.ret ⟨.inr rfl, done1 rfl trivial rfl rfl ?_⟩
      show (k : Int) = idx _ l
      exact (idx_some hlt hc fun j hj => hn j _ hj).symm
    · have hc : mkBad (l.getD (k : Int).toNat zMk) = false := hb
      rw [getD_at' hlt] at hc
      (repeat (first | refine AWP.seq ?_ | refine AWP.skip ?_ | refine AWP.block ?_ | refine AWP.exit ?_)); refine AWP.region hX kCoB_ok rfl ?_ ?_
      · exact inR_succ (by omega)
      exact ⟨k + 1, ⟨by omega, fun j hj hlt => by
        by_cases e : j = k
        · subst e; exact hc
        · exact hn j hj (by omega)⟩, by omega, ⟨rfl, rfl, rfl, vSucc _, trivial⟩, trivial, rfl, rfl⟩
  · have hb : decide ((k : Int) < (l.length : Nat)) = false := hb
    have hb := of_decide_eq_false hb
    have : k = l.length := by omega
    subst this
    (repeat (first | refine AWP.seq ?_ | refine AWP.skip ?_ | refine AWP.label ?_ | refine AWP.exit ?_ | refine AWP.block ?_ | refine AWP.region hX kCoB_ok rfl trivial ?_ | refine AWP.region hX kCoB_ok rfl id ?_ | refine AWP.region hX kCoB_ok rfl ⟨id, id⟩ ?_))
    refine AWP.ret ⟨.inr rfl, done1 rfl trivial rfl rfl ?_⟩
    show (-1 : Int) = idx _ l
    exact (idx_none fun j hj => hn j hj hj).symm
def cAnyM : Ctr := { args := [.slice mk, .lit], pre := fun x => [x.2.1 = mLit], res := .bool, own := none, out := fun x => List.any x.1 mkBad }
def kCoC : Kn := { coK with C := [(38, cIdxM)] }
theorem kCoC_ok : KnOk Tryd.prog pG kCoC := coK_ok.with (.cons idxM_ok .nil)
theorem anyM_ok : CtrOk Tryd.prog pG 21 cAnyM := by
  refine ctr_of_awp (K := kCoC) kCoC_ok Tryd.func21 rfl rfl Tryd.call21 rfl (by decide) (by intro h; cases h) ?_
  rintro w0 X hX ⟨(l : List Mk), (f : Value), _⟩ hp
  obtain rfl : f = mLit := hp
  change AWP _ _ _ _ _ ⟨[(0, ⟨.slice mk, l⟩), (1, ⟨.lit, mLit⟩)], [], 0⟩ _
  (repeat (first | refine AWP.seq ?_ | refine AWP.skip ?_ | refine AWP.label ?_ | refine AWP.exit ?_ | refine AWP.block ?_ | refine AWP.region hX kCoC_ok rfl trivial ?_ | refine AWP.region hX kCoC_ok rfl id ?_ | refine AWP.region hX kCoC_ok rfl ⟨id, id⟩ ?_))
  (repeat (first | refine AWP.seq ?_ | refine AWP.skip ?_ | refine AWP.block ?_ | refine AWP.exit ?_)); refine AWP.region hX kCoC_ok rfl ?_ ?_
  · exact rfl
  refine AWP.ret ⟨.inr rfl, done1 rfl trivial rfl rfl ?_⟩
  exact idx_any _ l
def marksOk (l : List Mk) : Bool := !l.any mkBad
def cMarksOk : Ctr := { args := [.slice mk], pre := fun _ => [], res := .bool, own := none, out := fun x => marksOk x.1 }
def kCoD : Kn := { coK with C := [(21, cAnyM)] }
theorem kCoD_ok : KnOk Tryd.prog pG kCoD := coK_ok.with (.cons anyM_ok .nil)
theorem marksOk_ok : CtrOk Tryd.prog pG 13 cMarksOk := by
  refine ctr_of_awp (K := kCoD) kCoD_ok Tryd.func13 rfl rfl Tryd.call13 rfl (by decide) (by intro h; cases h) ?_
  rintro w0 X hX ⟨(l : List Mk), _⟩ hp
  change AWP _ _ _ _ _ ⟨[(0, ⟨.slice mk, l⟩)], [], 0⟩ _
  (repeat (first | refine AWP.seq ?_ | refine AWP.skip ?_ | refine AWP.label ?_ | refine AWP.exit ?_ | refine AWP.block ?_ | refine AWP.region hX kCoD_ok rfl trivial ?_ | refine AWP.region hX kCoD_ok rfl id ?_ | refine AWP.region hX kCoD_ok rfl ⟨id, id⟩ ?_))
  (repeat (first | refine AWP.seq ?_ | refine AWP.skip ?_ | refine AWP.block ?_ | refine AWP.exit ?_)); refine AWP.region hX kCoD_ok rfl ?_ ?_
  · exact rfl
  exact AWP.ret ⟨.inr rfl, done1 rfl trivial rfl rfl rfl⟩
/-- the number of cells of a window at a grain, or an error -/
def cellsS (g : Int) (w : Sp) : Int × Int :=
  if g < 0 ∨ 4 < g ∨ winOk w = false then (0, 1) else if g = 0 then (0, 12) else if w.1.tmod (sizeS g) ≠ 0 ∨ w.2.1.tmod (sizeS g) ≠ 0 then (0, 1) else if (w.2.1 - w.1).tdiv (sizeS g) > 65536 then (0, 2) else ((w.2.1 - w.1).tdiv (sizeS g), 0)
def cCells : Ctr := { args := [i64, sp], pre := fun _ => [], res := .tup i64 (.tup i64 .unit), own := none, out := fun x => ((cellsS x.1 x.2.1).1, (cellsS x.1 x.2.1).2, ()) }
def kCoE : Kn := { coK with C := [(23, cWindow), (16, cSize)] }
theorem kCoE_ok : KnOk Tryd.prog pG kCoE := coK_ok.with (.cons window_ok <| .cons size_ok .nil)
theorem sizeS_pos {g : Int} (h0 : 0 < g) (h4 : g ≤ 4) : 1 ≤ sizeS g ∧ sizeS g ≤ 1440 := by
  have : g = 1 ∨ g = 2 ∨ g = 3 ∨ g = 4 := by omega
  rcases this with rfl | rfl | rfl | rfl <;> decide
theorem cells_ok : CtrOk Tryd.prog pG 14 cCells := by
  refine ctr_of_awp (K := kCoE) kCoE_ok Tryd.func14 rfl rfl Tryd.call14 rfl (by decide) (by intro h; cases h) ?_
  rintro w0 X hX ⟨(g : Int), ⟨(a : Int), (b : Int), _⟩, _⟩ hp
  change AWP _ _ _ _ _ ⟨[(0, ⟨i64, g⟩), (1, ⟨sp, (a, b, ())⟩)], [], 0⟩ _
  (repeat (first | refine AWP.seq ?_ | refine AWP.skip ?_ | refine AWP.block ?_ | refine AWP.exit ?_)); refine AWP.region hX kCoE_ok rfl ?_ ?_
  · trivial
  (repeat (first | refine AWP.seq ?_ | refine AWP.skip ?_ | refine AWP.block ?_ | refine AWP.exit ?_)); refine AWP.region hX kCoE_ok rfl ?_ ?_
  · repeat' (first | exact trivial | assumption | (refine ⟨?_, ?_⟩) | (intro _))
  refine AWP.cond rfl (fun hb => ?_) (fun hb => ?_)
  · have hb : (bif (bif decide (g < 0) then true else decide (g > 4)) then true else !winOk (a, b, ())) = true := hb
    rw [b_or, b_or, Bool.or_eq_true, Bool.or_eq_true, decide_eq_true_iff, decide_eq_true_iff, Bool.not_eq_true'] at hb
    (repeat (first | refine AWP.seq ?_ | refine AWP.skip ?_ | refine AWP.label ?_ | refine AWP.exit ?_ | refine AWP.block ?_ | refine AWP.region hX kCoE_ok rfl trivial ?_ | refine AWP.region hX kCoE_ok rfl id ?_ | refine AWP.region hX kCoE_ok rfl ⟨id, id⟩ ?_))
    refine AWP.ret ⟨.inr rfl, done2 (by decide) rfl rfl trivial ?_⟩
    have e : cellsS g (a, b, ()) = (0, 1) := if_pos (by rcases hb with (h | h) | h <;> first | exact .inl h | exact .inr (.inl h) | exact .inr (.inr h))
    show ((0 : Int), (1 : Int), ()) = ((cellsS g (a, b, ())).1, (cellsS g (a, b, ())).2, ())
    rw [e]
  · have hb : (bif (bif decide (g < 0) then true else decide (g > 4)) then true else !winOk (a, b, ())) = false := hb
    rw [b_or, b_or, Bool.or_eq_false_iff, Bool.or_eq_false_iff, decide_eq_false_iff_not, decide_eq_false_iff_not, Bool.not_eq_false'] at hb
    obtain ⟨⟨h0, h4⟩, hw⟩ := hb
    have n1 : ¬ (g < 0 ∨ 4 < g ∨ winOk (a, b, ()) = false) := by rintro (h | h | h) <;> first | omega | (rw [hw] at h; cases h)
    have hw2 : -2251799813685248 ≤ a ∧ a ≤ b ∧ b ≤ 2251799813685248 := by
      unfold winOk at hw
      rw [Bool.and_eq_true, Bool.and_eq_true, decide_eq_true_iff, decide_eq_true_iff, decide_eq_true_iff] at hw
      exact ⟨hw.1.1, hw.1.2, hw.2⟩
    (repeat (first | refine AWP.seq ?_ | refine AWP.skip ?_ | refine AWP.block ?_ | refine AWP.exit ?_)); refine AWP.region hX kCoE_ok rfl ?_ ?_
    · trivial
    refine AWP.cond rfl (fun hb => ?_) (fun hb => ?_)
    · have hb : (g == 0) = true := hb
      have hb : g = 0 := by simpa using hb
      (repeat (first | refine AWP.seq ?_ | refine AWP.skip ?_ | refine AWP.label ?_ | refine AWP.exit ?_ | refine AWP.block ?_ | refine AWP.region hX kCoE_ok rfl trivial ?_ | refine AWP.region hX kCoE_ok rfl id ?_ | refine AWP.region hX kCoE_ok rfl ⟨id, id⟩ ?_))
      refine AWP.ret ⟨.inr rfl, done2 (by decide) rfl rfl trivial ?_⟩
      have e : cellsS g (a, b, ()) = (0, 12) := (if_neg n1).trans (if_pos hb)
      show ((0 : Int), (12 : Int), ()) = ((cellsS g (a, b, ())).1, (cellsS g (a, b, ())).2, ())
      rw [e]
    · have hb : (g == 0) = false := hb
      have n2 : ¬ g = 0 := by simpa using hb
      have hz := sizeS_pos (g := g) (by omega) (by omega)
      have z1 : sizeS g ≠ 0 := by omega
      have g0 : 0 ≤ g := by omega
      have g5 : g < 5 := by omega
      (repeat (first | refine AWP.seq ?_ | refine AWP.skip ?_ | refine AWP.block ?_ | refine AWP.exit ?_)); refine AWP.draw dM hX kCoE_ok 14 (by kernel_rfl) rfl rfl ?_ ?_ ?_
      · repeat' (first | exact trivial | exact z1 | assumption | (refine ⟨?_, ?_⟩) | (intro _))
      · trivial
      refine AWP.cond rfl (fun hb => ?_) (fun hb => ?_)
      · have hb : (bif (a.tmod (sizeS g) != 0) then true else (b.tmod (sizeS g) != 0)) = true := hb
        rw [b_or, Bool.or_eq_true] at hb
        (repeat (first | refine AWP.seq ?_ | refine AWP.skip ?_ | refine AWP.label ?_ | refine AWP.exit ?_ | refine AWP.block ?_ | refine AWP.region hX kCoE_ok rfl trivial ?_ | refine AWP.region hX kCoE_ok rfl id ?_ | refine AWP.region hX kCoE_ok rfl ⟨id, id⟩ ?_))
        refine AWP.ret ⟨.inr rfl, done2 (by decide) rfl rfl trivial ?_⟩
        have e : cellsS g (a, b, ()) = (0, 1) := (if_neg n1).trans ((if_neg n2).trans (if_pos (hb.imp (fun h => by simpa using h) fun h => by simpa using h)))
        show ((0 : Int), (1 : Int), ()) = ((cellsS g (a, b, ())).1, (cellsS g (a, b, ())).2, ())
        rw [e]
      · have hb : (bif (a.tmod (sizeS g) != 0) then true else (b.tmod (sizeS g) != 0)) = false := hb
        rw [b_or, Bool.or_eq_false_iff] at hb
        have n3 : ¬ (a.tmod (sizeS g) ≠ 0 ∨ b.tmod (sizeS g) ≠ 0) := by
          rintro (h | h)
          · exact h (by simpa using hb.1)
          · exact h (by simpa using hb.2)
        have i1 : inR .i64 (b - a) := inR_small (by omega) (by omega)
        have q0 : 0 ≤ (b - a).tdiv (sizeS g) := Int.tdiv_nonneg (by omega) (by omega)
        have q1 : (b - a).tdiv (sizeS g) ≤ b - a := by
          rw [Int.tdiv_eq_ediv_of_nonneg (by omega)]
          exact Int.ediv_le_self _ (by omega)
        have i2 : inR .i64 ((b - a).tdiv (sizeS g)) := inR_small (by omega) (by omega)
        (repeat (first | refine AWP.seq ?_ | refine AWP.skip ?_ | refine AWP.block ?_ | refine AWP.exit ?_)); refine AWP.draw dM hX kCoE_ok 8 (by kernel_rfl) rfl rfl ?_ ?_ ?_
        · repeat' (first | exact trivial | exact z1 | exact i1 | exact i2 | assumption | (refine ⟨?_, ?_⟩) | (intro _))
        · trivial
        (repeat (first | refine AWP.seq ?_ | refine AWP.skip ?_ | refine AWP.block ?_ | refine AWP.exit ?_)); refine AWP.region hX kCoE_ok rfl ?_ ?_
        · trivial
        refine AWP.cond rfl (fun hb => ?_) (fun hb => ?_)
        · have hb : decide ((b - a).tdiv (sizeS g) > 65536) = true := hb
          have hb := of_decide_eq_true hb
          (repeat (first | refine AWP.seq ?_ | refine AWP.skip ?_ | refine AWP.label ?_ | refine AWP.exit ?_ | refine AWP.block ?_ | refine AWP.region hX kCoE_ok rfl trivial ?_ | refine AWP.region hX kCoE_ok rfl id ?_ | refine AWP.region hX kCoE_ok rfl ⟨id, id⟩ ?_))
          refine AWP.ret ⟨.inr rfl, done2 (by decide) rfl rfl trivial ?_⟩
          have e : cellsS g (a, b, ()) = (0, 2) := (if_neg n1).trans ((if_neg n2).trans ((if_neg n3).trans (if_pos hb)))
          show ((0 : Int), (2 : Int), ()) = ((cellsS g (a, b, ())).1, (cellsS g (a, b, ())).2, ())
          rw [e]
        · have hb : decide ((b - a).tdiv (sizeS g) > 65536) = false := hb
          have hb := of_decide_eq_false hb
          (repeat (first | refine AWP.seq ?_ | refine AWP.skip ?_ | refine AWP.label ?_ | refine AWP.exit ?_ | refine AWP.block ?_ | refine AWP.region hX kCoE_ok rfl trivial ?_ | refine AWP.region hX kCoE_ok rfl id ?_ | refine AWP.region hX kCoE_ok rfl ⟨id, id⟩ ?_))
          refine AWP.ret ⟨.inr rfl, done2 (by decide) rfl rfl trivial ?_⟩
          have e : cellsS g (a, b, ()) = ((b - a).tdiv (sizeS g), 0) := (if_neg n1).trans ((if_neg n2).trans ((if_neg n3).trans (if_neg hb)))
          show ((b - a).tdiv (sizeS g), (0 : Int), ()) = ((cellsS g (a, b, ())).1, (cellsS g (a, b, ())).2, ())
          rw [e]
end Go.Proofs.YtbbeldmcdjjnbaaDoor
