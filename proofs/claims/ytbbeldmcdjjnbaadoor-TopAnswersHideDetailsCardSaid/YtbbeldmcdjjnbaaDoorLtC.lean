/-
  Package letter: an answer's cells and numbers are valid.
-/
import Derived.Test.YtbbeldmcdjjnbaaDoorLtM
namespace Go.Proofs.YtbbeldmcdjjnbaaDoor
open Go Go.RowKit
set_option linter.unusedSimpArgs false
set_option linter.unusedVariables false
set_option maxRecDepth 100000
def cVCells : Ctr := { args := [lt], pre := fun x => [ansOk x.1], res := .bool, own := none, out := fun _ => true }
theorem vCells_ok : CtrOk Tryd.prog pG 52 cVCells := by
  refine ctr_of_awp (K := ltK) ltK_ok Tryd.func52 rfl rfl Tryd.call52 rfl (by decide) (by intro h; cases h) ?_
  rintro w0 X hX ⟨(l : Lt), ⟨⟩⟩ hp
  obtain ⟨v, g, w, rfl, hg, hw, hv, hl⟩ : ansOk l := hp
  change AWP _ _ _ _ _ ⟨[(0, ⟨lt, ansL v g w⟩)], [], 0⟩ _
  (repeat (first | refine AWP.seq ?_ | refine AWP.skip ?_ | refine AWP.block ?_ | refine AWP.exit ?_)); refine AWP.region hX ltK_ok rfl ?_ ?_
  · trivial
  refine AWP.frzB hX 1 ?_
  (repeat (first | refine AWP.seq ?_ | refine AWP.skip ?_ | refine AWP.block ?_ | refine AWP.exit ?_)); refine AWP.region hX ltK_ok rfl ?_ ?_
  · repeat' (first | exact trivial | assumption | (intro _) | (refine ⟨?_, ?_⟩))
  refine AWP.fit (σ' := ⟨[(1, ⟨.vptr lt, ansL v g w⟩), (3, ⟨.bool, false⟩)], [], 0⟩) ⟨⟨rfl, rfl, trivial⟩, trivial, rfl, rfl⟩ ?_
  (repeat (first | refine AWP.seq ?_ | refine AWP.skip ?_ | refine AWP.block ?_ | refine AWP.exit ?_)); refine AWP.region hX ltK_ok rfl ?_ ?_
  · trivial
  (repeat (first | refine AWP.seq ?_ | refine AWP.skip ?_ | refine AWP.label ?_ | refine AWP.exit ?_ | refine AWP.block ?_ | refine AWP.region hX ltK_ok rfl trivial ?_ | refine AWP.region hX ltK_ok rfl id ?_ | refine AWP.region hX ltK_ok rfl ⟨id, id⟩ ?_))
  refine AWP.loop (ι := Nat) (fun k => ⟨[(1, ⟨.vptr lt, ansL v g w⟩), (3, ⟨.bool, false⟩), (15, ⟨ints, v⟩), (16, ⟨i64, ((v.length : Nat) : Int)⟩), (17, ⟨i64, (k : Int)⟩)], [], 0⟩) (fun k => k ≤ v.length) (fun k => v.length - k) 0 (by omega) ⟨⟨rfl, rfl, rfl, rfl, rfl, trivial⟩, trivial, rfl, rfl⟩ ?_
  intro k hk
  (repeat (first | refine AWP.seq ?_ | refine AWP.skip ?_ | refine AWP.block ?_ | refine AWP.exit ?_)); refine AWP.region hX ltK_ok rfl ?_ ?_
  · trivial
  refine AWP.seq ?_
  refine AWP.cond rfl (fun hb => ?_) (fun hb => ?_)
  · have hb : decide ((k : Int) < (v.length : Nat)) = true := hb
    have hb := of_decide_eq_true hb
    have hlt : k < v.length := by omega
    have n0 : (0 : Int) ≤ (k : Int) := by omega
    have eg : v.getD (k : Int).toNat 0 = v[k] := getD_at' hlt
    have hx := hv v[k] (List.getElem_mem hlt)
    (repeat (first | refine AWP.seq ?_ | refine AWP.skip ?_ | refine AWP.block ?_ | refine AWP.exit ?_)); refine AWP.region hX ltK_ok rfl ?_ ?_
    · exact ⟨n0, hb⟩
    refine AWP.fit (σ' := ⟨[(1, ⟨.vptr lt, ansL v g w⟩), (3, ⟨.bool, false⟩), (4, ⟨i64, (k : Int)⟩), (5, ⟨i64, v[k]⟩), (15, ⟨ints, v⟩), (16, ⟨i64, ((v.length : Nat) : Int)⟩), (17, ⟨i64, (k : Int)⟩)], [], 0⟩) ⟨⟨rfl, rfl, rfl, vI64 eg, rfl, rfl, rfl, trivial⟩, trivial, rfl, rfl⟩ ?_
    generalize v[k] = x at hx
    (repeat (first | refine AWP.seq ?_ | refine AWP.skip ?_ | refine AWP.block ?_ | refine AWP.exit ?_)); refine AWP.region hX ltK_ok rfl ?_ ?_
    · repeat' (first | exact trivial | assumption | (intro _) | (refine ⟨?_, ?_⟩))
    refine AWP.cond rfl (fun hb => ?_) (fun hb => ?_)
    · have hb2 : (bif decide (x < 0) then true else decide (x > 255)) = true := hb
      rw [b_or, Bool.or_eq_true, decide_eq_true_iff, decide_eq_true_iff] at hb2
      omega
    (repeat (first | refine AWP.seq ?_ | refine AWP.skip ?_ | refine AWP.block ?_ | refine AWP.exit ?_)); refine AWP.region hX ltK_ok rfl ?_ ?_
    · repeat' (first | exact trivial | assumption | (intro h; cases h; done) | (refine ⟨?_, ?_⟩))
    refine AWP.cond rfl (fun hb => by cases hb) (fun _ => ?_)
    refine AWP.skip ?_
    (repeat (first | refine AWP.seq ?_ | refine AWP.skip ?_ | refine AWP.block ?_ | refine AWP.exit ?_)); refine AWP.region hX ltK_ok rfl ?_ ?_
    · exact inR_succ (by omega)
    exact ⟨k + 1, by omega, by omega, ⟨rfl, rfl, rfl, rfl, vSucc _, trivial⟩, trivial, rfl, rfl⟩
  · have hb : decide ((k : Int) < (v.length : Nat)) = false := hb
    have hb := of_decide_eq_false hb
    (repeat (first | refine AWP.seq ?_ | refine AWP.skip ?_ | refine AWP.label ?_ | refine AWP.exit ?_ | refine AWP.block ?_ | refine AWP.region hX ltK_ok rfl trivial ?_ | refine AWP.region hX ltK_ok rfl id ?_ | refine AWP.region hX ltK_ok rfl ⟨id, id⟩ ?_))
    (repeat (first | refine AWP.seq ?_ | refine AWP.skip ?_ | refine AWP.block ?_ | refine AWP.exit ?_)); refine AWP.region hX ltK_ok rfl ?_ ?_
    · repeat' (first | exact trivial | assumption | (intro h; cases h; done) | (refine ⟨?_, ?_⟩))
    exact AWP.ret ⟨.inr rfl, done1 rfl trivial rfl rfl (by rfl)⟩
def kVN : Kn := { ltK with C := [(43, cNoSer), (49, cLim), (35, cUses)] }
theorem kVN_ok : KnOk Tryd.prog pG kVN := ltK_ok.with (.cons noSer_ok <| .cons lim_ok <| .cons uses_ok .nil)
/-- the pointers, of a letter that stays -/
theorem numbers_hand {w0 : World} {X : Ownr} {n : Nat} {F : List (Nat × V)} {E : Owns} {nx : Nat} {l : Lt} {s : Nat} (hs : Frame.get F s = ⟨.vptr lt, l⟩) (β : Nat → Value) (a : Act) (w : World) (h : Sim w0 X n ⟨F, E, nx⟩ β a w) :
    Calls Tryd.prog 34 ((#[Operand.tmp s] : Array Operand).toList.map a.eval).toArray w fun e w' => ∃ u, e = .returned u ∧ Below w.heap.size w w' ∧ RepV w' (OSet X E β) β nvT (nvX l) u := by
  have h1 := h.fr s
  rw [show Frame.get (AS.mk F E nx).F s = _ from hs] at h1
  obtain ⟨g, off, cs, e1, e2, e3, e4, e5⟩ := h1
  have e1 : a.eval (.tmp s) = .pointer (some ⟨g, off, none⟩) := e1
  show Calls _ _ #[a.eval (.tmp s)] w _
  rw [e1]
  refine (numbers_call g off w).mono ?_
  rintro e w' ⟨rfl, hb⟩
  exact ⟨_, rfl, hb, RepV.keep (.of_below hb fun _ _ h => h) nvT _ _ (numbers_rep e2 e3 e4 e5)⟩
def cVNum : Ctr := { args := [lt], pre := fun x => [ansOk x.1], res := .bool, own := none, out := fun _ => true }
set_option maxHeartbeats 4000000 in
theorem vNum_ok : CtrOk Tryd.prog pG 41 cVNum := by
  refine ctr_of_awp (K := kVN) kVN_ok Tryd.func41 rfl rfl Tryd.call41 rfl (by decide) (by intro h; cases h) ?_
  rintro w0 X hX ⟨(l : Lt), ⟨⟩⟩ hp
  obtain ⟨v, g, w, rfl, ⟨hg1, hg2⟩, hw, hv, hl⟩ : ansOk l := hp
  change AWP _ _ _ _ _ ⟨[(0, ⟨lt, ansL v g w⟩)], [], 0⟩ _
  (repeat (first | refine AWP.seq ?_ | refine AWP.skip ?_ | refine AWP.block ?_ | refine AWP.exit ?_)); refine AWP.region hX kVN_ok rfl ?_ ?_
  · trivial
  refine AWP.frzB hX 1 ?_
  (repeat (first | refine AWP.seq ?_ | refine AWP.skip ?_ | refine AWP.block ?_ | refine AWP.exit ?_)); refine AWP.region hX kVN_ok rfl ?_ ?_
  · repeat' (first | exact trivial | assumption | (intro h; cases h; done) | (refine ⟨?_, ?_⟩))
  refine AWP.fit (σ' := ⟨[(1, ⟨.vptr lt, ansL v g w⟩), (3, ⟨.bool, false⟩)], [], 0⟩) ⟨⟨rfl, rfl, trivial⟩, trivial, rfl, rfl⟩ ?_
  refine AWP.seq ?_
  refine AWP.seq ?_
  refine AWP.list ?_
  refine AL.callV rfl rfl Tryd.call34 rfl rfl (v := ⟨nvT, nvX (ansL v g w)⟩) rfl (numbers_hand rfl) ?_
  refine AL.all hX kVN_ok rfl trivial ?_
  refine AWP.block ?_
  refine AWP.loop (ι := Nat) (fun k => ⟨[(1, ⟨.vptr lt, ansL v g w⟩), (3, ⟨.bool, false⟩), (17, ⟨nvT, nvX (ansL v g w)⟩), (18, ⟨i64, (k : Int)⟩)], [], 0⟩) (fun k => k ≤ 17) (fun k => 17 - k) 0 (by omega) ⟨⟨rfl, rfl, rfl, rfl, trivial⟩, trivial, rfl, rfl⟩ ?_
  intro k hk
  (repeat (first | refine AWP.seq ?_ | refine AWP.skip ?_ | refine AWP.block ?_ | refine AWP.exit ?_)); refine AWP.region hX kVN_ok rfl ?_ ?_
  · trivial
  refine AWP.seq ?_
  refine AWP.cond rfl (fun hb => ?_) (fun hb => ?_)
  · have hb : decide ((k : Int) < 17) = true := hb
    have hb := of_decide_eq_true hb
    have hks : k = 0 ∨ k = 1 ∨ k = 2 ∨ k = 3 ∨ k = 4 ∨ k = 5 ∨ k = 6 ∨ k = 7 ∨ k = 8 ∨ k = 9 ∨ k = 10 ∨ k = 11 ∨ k = 12 ∨ k = 13 ∨ k = 14 ∨ k = 15 ∨ k = 16 := by omega
    refine AWP.skip ?_
    refine AWP.seq ?_
    refine AWP.block ?_
    refine AWP.seq ?_
    rcases hks with rfl | rfl | rfl | rfl | rfl | rfl | rfl | rfl | rfl | rfl | rfl | rfl | rfl | rfl | rfl | rfl | rfl
    · refine AWP.list ?_
      refine AL.take 1 hX kVN_ok rfl trivial ?_
      refine AL.idxH ptrArr rfl rfl rfl rfl 0 rfl rfl rfl rfl rfl ?_
      refine AL.all hX kVN_ok rfl trivial ?_
      refine AWP.seq ?_
      refine AWP.seq ?_
      refine AWP.list ?_
      refine AL.take 1 hX kVN_ok rfl trivial ?_
      refine AL.nilP ptrEq (.inl ⟨rfl, rfl⟩) rfl rfl rfl rfl rfl rfl ?_
      refine AL.nil ?_
      refine AWP.cond rfl (fun hb => absurd (show false = true from hb) (by decide)) (fun _ => ?_)
      refine AWP.skip ?_
      (repeat (first | refine AWP.seq ?_ | refine AWP.skip ?_ | refine AWP.block ?_ | refine AWP.exit ?_)); refine AWP.region hX kVN_ok rfl ?_ ?_
      · exact ⟨rfl, (show (0 : Int) ≤ ((0 : Nat) : Int) by decide), (show ((0 : Nat) : Int) < 17 by decide)⟩
      (repeat (first | refine AWP.seq ?_ | refine AWP.skip ?_ | refine AWP.block ?_ | refine AWP.exit ?_)); refine AWP.region hX kVN_ok rfl ?_ ?_
      · trivial
      (repeat (first | refine AWP.seq ?_ | refine AWP.skip ?_ | refine AWP.block ?_ | refine AWP.exit ?_)); refine AWP.region hX kVN_ok rfl ?_ ?_
      · exact ⟨rfl, (show (0 : Int) ≤ ((0 : Nat) : Int) by decide), (show ((0 : Nat) : Int) < 17 by decide)⟩
      refine AWP.cond rfl (fun _ => ?_) (fun hb => absurd (show true = false from hb) (by decide))
      refine AWP.skip ?_
      refine AWP.cond rfl (fun _ => ?_) (fun hb => absurd (show true = false from hb) (by decide))
      refine AWP.region hX kVN_ok rfl trivial ?_
      (repeat (first | refine AWP.seq ?_ | refine AWP.skip ?_ | refine AWP.block ?_ | refine AWP.exit ?_)); refine AWP.region hX kVN_ok rfl ?_ ?_
      · repeat' (first | exact trivial | assumption | (intro _) | (refine ⟨?_, ?_⟩))
      refine AWP.cond rfl (fun hb => absurd (show false = true from hb) (by decide)) (fun _ => ?_)
      refine AWP.skip ?_
      refine AWP.region hX kVN_ok rfl (inR_small (by decide) (by decide)) ?_
      exact ⟨1, by omega, by omega, ⟨rfl, rfl, rfl, rfl, trivial⟩, trivial, rfl, rfl⟩
    · refine AWP.list ?_
      refine AL.take 1 hX kVN_ok rfl trivial ?_
      refine AL.idxH ptrArr rfl rfl rfl rfl 1 rfl rfl rfl rfl rfl ?_
      refine AL.all hX kVN_ok rfl trivial ?_
      refine AWP.seq ?_
      refine AWP.seq ?_
      refine AWP.list ?_
      refine AL.take 1 hX kVN_ok rfl trivial ?_
      refine AL.nilP ptrEq (.inl ⟨rfl, rfl⟩) rfl rfl rfl rfl rfl rfl ?_
      refine AL.nil ?_
      refine AWP.cond rfl (fun hb => absurd (show false = true from hb) (by decide)) (fun _ => ?_)
      refine AWP.skip ?_
      (repeat (first | refine AWP.seq ?_ | refine AWP.skip ?_ | refine AWP.block ?_ | refine AWP.exit ?_)); refine AWP.region hX kVN_ok rfl ?_ ?_
      · exact ⟨rfl, (show (0 : Int) ≤ ((1 : Nat) : Int) by decide), (show ((1 : Nat) : Int) < 17 by decide)⟩
      (repeat (first | refine AWP.seq ?_ | refine AWP.skip ?_ | refine AWP.block ?_ | refine AWP.exit ?_)); refine AWP.region hX kVN_ok rfl ?_ ?_
      · trivial
      (repeat (first | refine AWP.seq ?_ | refine AWP.skip ?_ | refine AWP.block ?_ | refine AWP.exit ?_)); refine AWP.region hX kVN_ok rfl ?_ ?_
      · exact ⟨rfl, (show (0 : Int) ≤ ((1 : Nat) : Int) by decide), (show ((1 : Nat) : Int) < 17 by decide)⟩
      refine AWP.cond rfl (fun _ => ?_) (fun hb => absurd (show true = false from hb) (by decide))
      refine AWP.skip ?_
      refine AWP.cond rfl (fun _ => ?_) (fun hb => absurd (show true = false from hb) (by decide))
      refine AWP.region hX kVN_ok rfl trivial ?_
      (repeat (first | refine AWP.seq ?_ | refine AWP.skip ?_ | refine AWP.block ?_ | refine AWP.exit ?_)); refine AWP.region hX kVN_ok rfl ?_ ?_
      · repeat' (first | exact trivial | assumption | (intro _) | (refine ⟨?_, ?_⟩))
      refine AWP.cond rfl (fun hb => absurd (show false = true from hb) (by decide)) (fun _ => ?_)
      refine AWP.skip ?_
      refine AWP.region hX kVN_ok rfl (inR_small (by decide) (by decide)) ?_
      exact ⟨2, by omega, by omega, ⟨rfl, rfl, rfl, rfl, trivial⟩, trivial, rfl, rfl⟩
    · refine AWP.list ?_
      refine AL.take 1 hX kVN_ok rfl trivial ?_
      refine AL.idxH ptrArr rfl rfl rfl rfl 2 rfl rfl rfl rfl rfl ?_
      refine AL.all hX kVN_ok rfl trivial ?_
      refine AWP.seq ?_
      refine AWP.seq ?_
      refine AWP.list ?_
      refine AL.take 1 hX kVN_ok rfl trivial ?_
      refine AL.nilP ptrEq (.inl ⟨rfl, rfl⟩) rfl rfl rfl rfl rfl rfl ?_
      refine AL.nil ?_
      refine AWP.cond rfl (fun hb => absurd (show false = true from hb) (by decide)) (fun _ => ?_)
      refine AWP.skip ?_
      (repeat (first | refine AWP.seq ?_ | refine AWP.skip ?_ | refine AWP.block ?_ | refine AWP.exit ?_)); refine AWP.region hX kVN_ok rfl ?_ ?_
      · exact ⟨rfl, (show (0 : Int) ≤ ((2 : Nat) : Int) by decide), (show ((2 : Nat) : Int) < 17 by decide)⟩
      (repeat (first | refine AWP.seq ?_ | refine AWP.skip ?_ | refine AWP.block ?_ | refine AWP.exit ?_)); refine AWP.region hX kVN_ok rfl ?_ ?_
      · trivial
      (repeat (first | refine AWP.seq ?_ | refine AWP.skip ?_ | refine AWP.block ?_ | refine AWP.exit ?_)); refine AWP.region hX kVN_ok rfl ?_ ?_
      · exact ⟨rfl, (show (0 : Int) ≤ ((2 : Nat) : Int) by decide), (show ((2 : Nat) : Int) < 17 by decide)⟩
      refine AWP.cond rfl (fun _ => ?_) (fun hb => absurd (show true = false from hb) (by decide))
      refine AWP.skip ?_
      refine AWP.cond rfl (fun _ => ?_) (fun hb => absurd (show true = false from hb) (by decide))
      refine AWP.region hX kVN_ok rfl trivial ?_
      (repeat (first | refine AWP.seq ?_ | refine AWP.skip ?_ | refine AWP.block ?_ | refine AWP.exit ?_)); refine AWP.region hX kVN_ok rfl ?_ ?_
      · repeat' (first | exact trivial | assumption | (intro _) | (refine ⟨?_, ?_⟩))
      refine AWP.cond rfl (fun hb => absurd (show false = true from hb) (by decide)) (fun _ => ?_)
      refine AWP.skip ?_
      refine AWP.region hX kVN_ok rfl (inR_small (by decide) (by decide)) ?_
      exact ⟨3, by omega, by omega, ⟨rfl, rfl, rfl, rfl, trivial⟩, trivial, rfl, rfl⟩
    · refine AWP.list ?_
      refine AL.take 1 hX kVN_ok rfl trivial ?_
      refine AL.idxH ptrArr rfl rfl rfl rfl 3 rfl rfl rfl rfl rfl ?_
      refine AL.all hX kVN_ok rfl trivial ?_
      refine AWP.seq ?_
      refine AWP.seq ?_
      refine AWP.list ?_
      refine AL.take 1 hX kVN_ok rfl trivial ?_
      refine AL.nilP ptrEq (.inl ⟨rfl, rfl⟩) rfl rfl rfl rfl rfl rfl ?_
      refine AL.nil ?_
      refine AWP.cond rfl (fun hb => absurd (show false = true from hb) (by decide)) (fun _ => ?_)
      refine AWP.skip ?_
      (repeat (first | refine AWP.seq ?_ | refine AWP.skip ?_ | refine AWP.block ?_ | refine AWP.exit ?_)); refine AWP.region hX kVN_ok rfl ?_ ?_
      · exact ⟨rfl, (show (0 : Int) ≤ ((3 : Nat) : Int) by decide), (show ((3 : Nat) : Int) < 17 by decide)⟩
      (repeat (first | refine AWP.seq ?_ | refine AWP.skip ?_ | refine AWP.block ?_ | refine AWP.exit ?_)); refine AWP.region hX kVN_ok rfl ?_ ?_
      · trivial
      (repeat (first | refine AWP.seq ?_ | refine AWP.skip ?_ | refine AWP.block ?_ | refine AWP.exit ?_)); refine AWP.region hX kVN_ok rfl ?_ ?_
      · exact ⟨rfl, (show (0 : Int) ≤ ((3 : Nat) : Int) by decide), (show ((3 : Nat) : Int) < 17 by decide)⟩
      refine AWP.cond rfl (fun _ => ?_) (fun hb => absurd (show true = false from hb) (by decide))
      refine AWP.skip ?_
      refine AWP.cond rfl (fun _ => ?_) (fun hb => absurd (show true = false from hb) (by decide))
      refine AWP.region hX kVN_ok rfl trivial ?_
      (repeat (first | refine AWP.seq ?_ | refine AWP.skip ?_ | refine AWP.block ?_ | refine AWP.exit ?_)); refine AWP.region hX kVN_ok rfl ?_ ?_
      · repeat' (first | exact trivial | assumption | (intro _) | (refine ⟨?_, ?_⟩))
      refine AWP.cond rfl (fun hb => absurd (show false = true from hb) (by decide)) (fun _ => ?_)
      refine AWP.skip ?_
      refine AWP.region hX kVN_ok rfl (inR_small (by decide) (by decide)) ?_
      exact ⟨4, by omega, by omega, ⟨rfl, rfl, rfl, rfl, trivial⟩, trivial, rfl, rfl⟩
    · refine AWP.list ?_
      refine AL.take 1 hX kVN_ok rfl trivial ?_
      refine AL.idxH ptrArr rfl rfl rfl rfl 4 rfl rfl rfl rfl rfl ?_
      refine AL.all hX kVN_ok rfl trivial ?_
      refine AWP.seq ?_
      refine AWP.seq ?_
      refine AWP.list ?_
      refine AL.take 1 hX kVN_ok rfl trivial ?_
      refine AL.nilP ptrEq (.inl ⟨rfl, rfl⟩) rfl rfl rfl rfl rfl rfl ?_
      refine AL.nil ?_
      refine AWP.cond rfl (fun hb => absurd (show false = true from hb) (by decide)) (fun _ => ?_)
      refine AWP.skip ?_
      (repeat (first | refine AWP.seq ?_ | refine AWP.skip ?_ | refine AWP.block ?_ | refine AWP.exit ?_)); refine AWP.region hX kVN_ok rfl ?_ ?_
      · exact ⟨rfl, (show (0 : Int) ≤ ((4 : Nat) : Int) by decide), (show ((4 : Nat) : Int) < 17 by decide)⟩
      (repeat (first | refine AWP.seq ?_ | refine AWP.skip ?_ | refine AWP.block ?_ | refine AWP.exit ?_)); refine AWP.region hX kVN_ok rfl ?_ ?_
      · trivial
      (repeat (first | refine AWP.seq ?_ | refine AWP.skip ?_ | refine AWP.block ?_ | refine AWP.exit ?_)); refine AWP.region hX kVN_ok rfl ?_ ?_
      · exact ⟨rfl, (show (0 : Int) ≤ ((4 : Nat) : Int) by decide), (show ((4 : Nat) : Int) < 17 by decide)⟩
      refine AWP.cond rfl (fun hb => absurd (show false = true from hb) (by decide)) (fun _ => ?_)
      (repeat (first | refine AWP.seq ?_ | refine AWP.skip ?_ | refine AWP.block ?_ | refine AWP.exit ?_)); refine AWP.region hX kVN_ok rfl ?_ ?_
      · repeat' (first | exact trivial | assumption | (intro h; cases h; done) | (refine ⟨?_, ?_⟩))
      refine AWP.cond rfl (fun hb => absurd (show false = true from hb) (by decide)) (fun _ => ?_)
      refine AWP.skip ?_
      (repeat (first | refine AWP.seq ?_ | refine AWP.skip ?_ | refine AWP.block ?_ | refine AWP.exit ?_)); refine AWP.region hX kVN_ok rfl ?_ ?_
      · repeat' (first | exact trivial | assumption | (intro _) | (refine ⟨?_, ?_⟩))
      refine AWP.cond rfl (fun hb => absurd (show false = true from hb) (by decide)) (fun _ => ?_)
      refine AWP.skip ?_
      refine AWP.region hX kVN_ok rfl (inR_small (by decide) (by decide)) ?_
      exact ⟨5, by omega, by omega, ⟨rfl, rfl, rfl, rfl, trivial⟩, trivial, rfl, rfl⟩
    · refine AWP.list ?_
      refine AL.take 1 hX kVN_ok rfl trivial ?_
      refine AL.idxH ptrArr rfl rfl rfl rfl 5 rfl rfl rfl rfl rfl ?_
      refine AL.all hX kVN_ok rfl trivial ?_
      refine AWP.seq ?_
      refine AWP.seq ?_
      refine AWP.list ?_
      refine AL.take 1 hX kVN_ok rfl trivial ?_
      refine AL.nilP ptrEq (.inl ⟨rfl, rfl⟩) rfl rfl rfl rfl rfl rfl ?_
      refine AL.nil ?_
      refine AWP.cond rfl (fun hb => absurd (show false = true from hb) (by decide)) (fun _ => ?_)
      refine AWP.skip ?_
      (repeat (first | refine AWP.seq ?_ | refine AWP.skip ?_ | refine AWP.block ?_ | refine AWP.exit ?_)); refine AWP.region hX kVN_ok rfl ?_ ?_
      · exact ⟨rfl, (show (0 : Int) ≤ ((5 : Nat) : Int) by decide), (show ((5 : Nat) : Int) < 17 by decide)⟩
      (repeat (first | refine AWP.seq ?_ | refine AWP.skip ?_ | refine AWP.block ?_ | refine AWP.exit ?_)); refine AWP.region hX kVN_ok rfl ?_ ?_
      · trivial
      (repeat (first | refine AWP.seq ?_ | refine AWP.skip ?_ | refine AWP.block ?_ | refine AWP.exit ?_)); refine AWP.region hX kVN_ok rfl ?_ ?_
      · exact ⟨rfl, (show (0 : Int) ≤ ((5 : Nat) : Int) by decide), (show ((5 : Nat) : Int) < 17 by decide)⟩
      refine AWP.cond rfl (fun hb => absurd (show false = true from hb) (by decide)) (fun _ => ?_)
      (repeat (first | refine AWP.seq ?_ | refine AWP.skip ?_ | refine AWP.block ?_ | refine AWP.exit ?_)); refine AWP.region hX kVN_ok rfl ?_ ?_
      · repeat' (first | exact trivial | assumption | (intro h; cases h; done) | (refine ⟨?_, ?_⟩))
      refine AWP.cond rfl (fun hb => absurd (show false = true from hb) (by decide)) (fun _ => ?_)
      refine AWP.skip ?_
      (repeat (first | refine AWP.seq ?_ | refine AWP.skip ?_ | refine AWP.block ?_ | refine AWP.exit ?_)); refine AWP.region hX kVN_ok rfl ?_ ?_
      · repeat' (first | exact trivial | assumption | (intro _) | (refine ⟨?_, ?_⟩))
      refine AWP.cond rfl (fun hb => absurd (show false = true from hb) (by decide)) (fun _ => ?_)
      refine AWP.skip ?_
      refine AWP.region hX kVN_ok rfl (inR_small (by decide) (by decide)) ?_
      exact ⟨6, by omega, by omega, ⟨rfl, rfl, rfl, rfl, trivial⟩, trivial, rfl, rfl⟩
    · refine AWP.list ?_
      refine AL.take 1 hX kVN_ok rfl trivial ?_
      refine AL.idxH ptrArr rfl rfl rfl rfl 6 rfl rfl rfl rfl rfl ?_
      refine AL.all hX kVN_ok rfl trivial ?_
      refine AWP.seq ?_
      refine AWP.seq ?_
      refine AWP.list ?_
      refine AL.take 1 hX kVN_ok rfl trivial ?_
      refine AL.nilP ptrEq (.inl ⟨rfl, rfl⟩) rfl rfl rfl rfl rfl rfl ?_
      refine AL.nil ?_
      refine AWP.cond rfl (fun hb => absurd (show false = true from hb) (by decide)) (fun _ => ?_)
      refine AWP.skip ?_
      (repeat (first | refine AWP.seq ?_ | refine AWP.skip ?_ | refine AWP.block ?_ | refine AWP.exit ?_)); refine AWP.region hX kVN_ok rfl ?_ ?_
      · exact ⟨rfl, (show (0 : Int) ≤ ((6 : Nat) : Int) by decide), (show ((6 : Nat) : Int) < 17 by decide)⟩
      (repeat (first | refine AWP.seq ?_ | refine AWP.skip ?_ | refine AWP.block ?_ | refine AWP.exit ?_)); refine AWP.region hX kVN_ok rfl ?_ ?_
      · trivial
      (repeat (first | refine AWP.seq ?_ | refine AWP.skip ?_ | refine AWP.block ?_ | refine AWP.exit ?_)); refine AWP.region hX kVN_ok rfl ?_ ?_
      · exact ⟨rfl, (show (0 : Int) ≤ ((6 : Nat) : Int) by decide), (show ((6 : Nat) : Int) < 17 by decide)⟩
      refine AWP.cond rfl (fun _ => ?_) (fun hb => absurd (show true = false from hb) (by decide))
      refine AWP.skip ?_
      refine AWP.cond rfl (fun _ => ?_) (fun hb => absurd (show true = false from hb) (by decide))
      refine AWP.region hX kVN_ok rfl trivial ?_
      (repeat (first | refine AWP.seq ?_ | refine AWP.skip ?_ | refine AWP.block ?_ | refine AWP.exit ?_)); refine AWP.region hX kVN_ok rfl ?_ ?_
      · repeat' (first | exact trivial | assumption | (intro _) | (refine ⟨?_, ?_⟩))
      refine AWP.cond rfl (fun hb => absurd (show false = true from hb) (by decide)) (fun _ => ?_)
      refine AWP.skip ?_
      refine AWP.region hX kVN_ok rfl (inR_small (by decide) (by decide)) ?_
      exact ⟨7, by omega, by omega, ⟨rfl, rfl, rfl, rfl, trivial⟩, trivial, rfl, rfl⟩
    · refine AWP.list ?_
      refine AL.take 1 hX kVN_ok rfl trivial ?_
      refine AL.idxH ptrArr rfl rfl rfl rfl 7 rfl rfl rfl rfl rfl ?_
      refine AL.all hX kVN_ok rfl trivial ?_
      refine AWP.seq ?_
      refine AWP.seq ?_
      refine AWP.list ?_
      refine AL.take 1 hX kVN_ok rfl trivial ?_
      refine AL.nilP ptrEq (.inl ⟨rfl, rfl⟩) rfl rfl rfl rfl rfl rfl ?_
      refine AL.nil ?_
      refine AWP.cond rfl (fun hb => absurd (show false = true from hb) (by decide)) (fun _ => ?_)
      refine AWP.skip ?_
      (repeat (first | refine AWP.seq ?_ | refine AWP.skip ?_ | refine AWP.block ?_ | refine AWP.exit ?_)); refine AWP.region hX kVN_ok rfl ?_ ?_
      · exact ⟨rfl, (show (0 : Int) ≤ ((7 : Nat) : Int) by decide), (show ((7 : Nat) : Int) < 17 by decide)⟩
      (repeat (first | refine AWP.seq ?_ | refine AWP.skip ?_ | refine AWP.block ?_ | refine AWP.exit ?_)); refine AWP.region hX kVN_ok rfl ?_ ?_
      · trivial
      (repeat (first | refine AWP.seq ?_ | refine AWP.skip ?_ | refine AWP.block ?_ | refine AWP.exit ?_)); refine AWP.region hX kVN_ok rfl ?_ ?_
      · exact ⟨rfl, (show (0 : Int) ≤ ((7 : Nat) : Int) by decide), (show ((7 : Nat) : Int) < 17 by decide)⟩
      refine AWP.cond rfl (fun _ => ?_) (fun hb => absurd (show true = false from hb) (by decide))
      refine AWP.skip ?_
      refine AWP.cond rfl (fun _ => ?_) (fun hb => absurd (show true = false from hb) (by decide))
      refine AWP.region hX kVN_ok rfl trivial ?_
      (repeat (first | refine AWP.seq ?_ | refine AWP.skip ?_ | refine AWP.block ?_ | refine AWP.exit ?_)); refine AWP.region hX kVN_ok rfl ?_ ?_
      · repeat' (first | exact trivial | assumption | (intro _) | (refine ⟨?_, ?_⟩))
      refine AWP.cond rfl (fun hb => absurd (show false = true from hb) (by decide)) (fun _ => ?_)
      refine AWP.skip ?_
      refine AWP.region hX kVN_ok rfl (inR_small (by decide) (by decide)) ?_
      exact ⟨8, by omega, by omega, ⟨rfl, rfl, rfl, rfl, trivial⟩, trivial, rfl, rfl⟩
    · refine AWP.list ?_
      refine AL.take 1 hX kVN_ok rfl trivial ?_
      refine AL.idxH ptrArr rfl rfl rfl rfl 8 rfl rfl rfl rfl rfl ?_
      refine AL.all hX kVN_ok rfl trivial ?_
      refine AWP.seq ?_
      refine AWP.seq ?_
      refine AWP.list ?_
      refine AL.take 1 hX kVN_ok rfl trivial ?_
      refine AL.nilP ptrEq (.inl ⟨rfl, rfl⟩) rfl rfl rfl rfl rfl rfl ?_
      refine AL.nil ?_
      refine AWP.cond rfl (fun hb => absurd (show false = true from hb) (by decide)) (fun _ => ?_)
      refine AWP.skip ?_
      (repeat (first | refine AWP.seq ?_ | refine AWP.skip ?_ | refine AWP.block ?_ | refine AWP.exit ?_)); refine AWP.region hX kVN_ok rfl ?_ ?_
      · exact ⟨rfl, (show (0 : Int) ≤ ((8 : Nat) : Int) by decide), (show ((8 : Nat) : Int) < 17 by decide)⟩
      (repeat (first | refine AWP.seq ?_ | refine AWP.skip ?_ | refine AWP.block ?_ | refine AWP.exit ?_)); refine AWP.region hX kVN_ok rfl ?_ ?_
      · trivial
      (repeat (first | refine AWP.seq ?_ | refine AWP.skip ?_ | refine AWP.block ?_ | refine AWP.exit ?_)); refine AWP.region hX kVN_ok rfl ?_ ?_
      · exact ⟨rfl, (show (0 : Int) ≤ ((8 : Nat) : Int) by decide), (show ((8 : Nat) : Int) < 17 by decide)⟩
      refine AWP.cond rfl (fun _ => ?_) (fun hb => absurd (show true = false from hb) (by decide))
      refine AWP.skip ?_
      refine AWP.cond rfl (fun _ => ?_) (fun hb => absurd (show true = false from hb) (by decide))
      refine AWP.region hX kVN_ok rfl trivial ?_
      (repeat (first | refine AWP.seq ?_ | refine AWP.skip ?_ | refine AWP.block ?_ | refine AWP.exit ?_)); refine AWP.region hX kVN_ok rfl ?_ ?_
      · repeat' (first | exact trivial | assumption | (intro _) | (refine ⟨?_, ?_⟩))
      refine AWP.cond rfl (fun hb => absurd (show false = true from hb) (by decide)) (fun _ => ?_)
      refine AWP.skip ?_
      refine AWP.region hX kVN_ok rfl (inR_small (by decide) (by decide)) ?_
      exact ⟨9, by omega, by omega, ⟨rfl, rfl, rfl, rfl, trivial⟩, trivial, rfl, rfl⟩
    · refine AWP.list ?_
      refine AL.take 1 hX kVN_ok rfl trivial ?_
      refine AL.idxH ptrArr rfl rfl rfl rfl 9 rfl rfl rfl rfl rfl ?_
      refine AL.all hX kVN_ok rfl trivial ?_
      refine AWP.seq ?_
      refine AWP.seq ?_
      refine AWP.list ?_
      refine AL.take 1 hX kVN_ok rfl trivial ?_
      refine AL.nilP ptrEq (.inl ⟨rfl, rfl⟩) rfl rfl rfl rfl rfl rfl ?_
      refine AL.nil ?_
      refine AWP.cond rfl (fun _ => ?_) (fun hb => absurd (show true = false from hb) (by decide))
      refine AWP.exit ?_
      refine AWP.region hX kVN_ok rfl (inR_small (by decide) (by decide)) ?_
      exact ⟨10, by omega, by omega, ⟨rfl, rfl, rfl, rfl, trivial⟩, trivial, rfl, rfl⟩
    · refine AWP.list ?_
      refine AL.take 1 hX kVN_ok rfl trivial ?_
      refine AL.idxH ptrArr rfl rfl rfl rfl 10 rfl rfl rfl rfl rfl ?_
      refine AL.all hX kVN_ok rfl trivial ?_
      refine AWP.seq ?_
      refine AWP.seq ?_
      refine AWP.list ?_
      refine AL.take 1 hX kVN_ok rfl trivial ?_
      refine AL.nilP ptrEq (.inl ⟨rfl, rfl⟩) rfl rfl rfl rfl rfl rfl ?_
      refine AL.nil ?_
      refine AWP.cond rfl (fun _ => ?_) (fun hb => absurd (show true = false from hb) (by decide))
      refine AWP.exit ?_
      refine AWP.region hX kVN_ok rfl (inR_small (by decide) (by decide)) ?_
      exact ⟨11, by omega, by omega, ⟨rfl, rfl, rfl, rfl, trivial⟩, trivial, rfl, rfl⟩
    · refine AWP.list ?_
      refine AL.take 1 hX kVN_ok rfl trivial ?_
      refine AL.idxH ptrArr rfl rfl rfl rfl 11 rfl rfl rfl rfl rfl ?_
      refine AL.all hX kVN_ok rfl trivial ?_
      refine AWP.seq ?_
      refine AWP.seq ?_
      refine AWP.list ?_
      refine AL.take 1 hX kVN_ok rfl trivial ?_
      refine AL.nilP ptrEq (.inl ⟨rfl, rfl⟩) rfl rfl rfl rfl rfl rfl ?_
      refine AL.nil ?_
      refine AWP.cond rfl (fun hb => absurd (show false = true from hb) (by decide)) (fun _ => ?_)
      refine AWP.skip ?_
      (repeat (first | refine AWP.seq ?_ | refine AWP.skip ?_ | refine AWP.block ?_ | refine AWP.exit ?_)); refine AWP.region hX kVN_ok rfl ?_ ?_
      · exact ⟨rfl, (show (0 : Int) ≤ ((11 : Nat) : Int) by decide), (show ((11 : Nat) : Int) < 17 by decide)⟩
      (repeat (first | refine AWP.seq ?_ | refine AWP.skip ?_ | refine AWP.block ?_ | refine AWP.exit ?_)); refine AWP.region hX kVN_ok rfl ?_ ?_
      · trivial
      (repeat (first | refine AWP.seq ?_ | refine AWP.skip ?_ | refine AWP.block ?_ | refine AWP.exit ?_)); refine AWP.region hX kVN_ok rfl ?_ ?_
      · exact ⟨rfl, (show (0 : Int) ≤ ((11 : Nat) : Int) by decide), (show ((11 : Nat) : Int) < 17 by decide)⟩
      refine AWP.cond rfl (fun _ => ?_) (fun hb => absurd (show true = false from hb) (by decide))
      refine AWP.skip ?_
      refine AWP.cond rfl (fun _ => ?_) (fun hb => absurd (show true = false from hb) (by decide))
      refine AWP.region hX kVN_ok rfl trivial ?_
      (repeat (first | refine AWP.seq ?_ | refine AWP.skip ?_ | refine AWP.block ?_ | refine AWP.exit ?_)); refine AWP.region hX kVN_ok rfl ?_ ?_
      · repeat' (first | exact trivial | assumption | (intro _) | (refine ⟨?_, ?_⟩))
      refine AWP.cond rfl (fun hb => absurd (show false = true from hb) (by decide)) (fun _ => ?_)
      refine AWP.skip ?_
      refine AWP.region hX kVN_ok rfl (inR_small (by decide) (by decide)) ?_
      exact ⟨12, by omega, by omega, ⟨rfl, rfl, rfl, rfl, trivial⟩, trivial, rfl, rfl⟩
    · refine AWP.list ?_
      refine AL.take 1 hX kVN_ok rfl trivial ?_
      refine AL.idxH ptrArr rfl rfl rfl rfl 12 rfl rfl rfl rfl rfl ?_
      refine AL.all hX kVN_ok rfl trivial ?_
      refine AWP.seq ?_
      refine AWP.seq ?_
      refine AWP.list ?_
      refine AL.take 1 hX kVN_ok rfl trivial ?_
      refine AL.nilP ptrEq (.inl ⟨rfl, rfl⟩) rfl rfl rfl rfl rfl rfl ?_
      refine AL.nil ?_
      refine AWP.cond rfl (fun hb => absurd (show false = true from hb) (by decide)) (fun _ => ?_)
      refine AWP.skip ?_
      (repeat (first | refine AWP.seq ?_ | refine AWP.skip ?_ | refine AWP.block ?_ | refine AWP.exit ?_)); refine AWP.region hX kVN_ok rfl ?_ ?_
      · exact ⟨rfl, (show (0 : Int) ≤ ((12 : Nat) : Int) by decide), (show ((12 : Nat) : Int) < 17 by decide)⟩
      (repeat (first | refine AWP.seq ?_ | refine AWP.skip ?_ | refine AWP.block ?_ | refine AWP.exit ?_)); refine AWP.region hX kVN_ok rfl ?_ ?_
      · trivial
      (repeat (first | refine AWP.seq ?_ | refine AWP.skip ?_ | refine AWP.block ?_ | refine AWP.exit ?_)); refine AWP.region hX kVN_ok rfl ?_ ?_
      · exact ⟨rfl, (show (0 : Int) ≤ ((12 : Nat) : Int) by decide), (show ((12 : Nat) : Int) < 17 by decide)⟩
      refine AWP.cond rfl (fun _ => ?_) (fun hb => absurd (show true = false from hb) (by decide))
      refine AWP.skip ?_
      refine AWP.cond rfl (fun _ => ?_) (fun hb => absurd (show true = false from hb) (by decide))
      refine AWP.region hX kVN_ok rfl trivial ?_
      (repeat (first | refine AWP.seq ?_ | refine AWP.skip ?_ | refine AWP.block ?_ | refine AWP.exit ?_)); refine AWP.region hX kVN_ok rfl ?_ ?_
      · repeat' (first | exact trivial | assumption | (intro _) | (refine ⟨?_, ?_⟩))
      refine AWP.cond rfl (fun hb => absurd (show false = true from hb) (by decide)) (fun _ => ?_)
      refine AWP.skip ?_
      refine AWP.region hX kVN_ok rfl (inR_small (by decide) (by decide)) ?_
      exact ⟨13, by omega, by omega, ⟨rfl, rfl, rfl, rfl, trivial⟩, trivial, rfl, rfl⟩
    · refine AWP.list ?_
      refine AL.take 1 hX kVN_ok rfl trivial ?_
      refine AL.idxH ptrArr rfl rfl rfl rfl 13 rfl rfl rfl rfl rfl ?_
      refine AL.all hX kVN_ok rfl trivial ?_
      refine AWP.seq ?_
      refine AWP.seq ?_
      refine AWP.list ?_
      refine AL.take 1 hX kVN_ok rfl trivial ?_
      refine AL.nilP ptrEq (.inl ⟨rfl, rfl⟩) rfl rfl rfl rfl rfl rfl ?_
      refine AL.nil ?_
      refine AWP.cond rfl (fun hb => absurd (show false = true from hb) (by decide)) (fun _ => ?_)
      refine AWP.skip ?_
      (repeat (first | refine AWP.seq ?_ | refine AWP.skip ?_ | refine AWP.block ?_ | refine AWP.exit ?_)); refine AWP.region hX kVN_ok rfl ?_ ?_
      · exact ⟨rfl, (show (0 : Int) ≤ ((13 : Nat) : Int) by decide), (show ((13 : Nat) : Int) < 17 by decide)⟩
      (repeat (first | refine AWP.seq ?_ | refine AWP.skip ?_ | refine AWP.block ?_ | refine AWP.exit ?_)); refine AWP.region hX kVN_ok rfl ?_ ?_
      · trivial
      (repeat (first | refine AWP.seq ?_ | refine AWP.skip ?_ | refine AWP.block ?_ | refine AWP.exit ?_)); refine AWP.region hX kVN_ok rfl ?_ ?_
      · exact ⟨rfl, (show (0 : Int) ≤ ((13 : Nat) : Int) by decide), (show ((13 : Nat) : Int) < 17 by decide)⟩
      refine AWP.cond rfl (fun hb => absurd (show false = true from hb) (by decide)) (fun _ => ?_)
      (repeat (first | refine AWP.seq ?_ | refine AWP.skip ?_ | refine AWP.block ?_ | refine AWP.exit ?_)); refine AWP.region hX kVN_ok rfl ?_ ?_
      · repeat' (first | exact trivial | assumption | (intro h; cases h; done) | (refine ⟨?_, ?_⟩))
      refine AWP.cond rfl (fun hb => absurd (show false = true from hb) (by decide)) (fun _ => ?_)
      refine AWP.skip ?_
      (repeat (first | refine AWP.seq ?_ | refine AWP.skip ?_ | refine AWP.block ?_ | refine AWP.exit ?_)); refine AWP.region hX kVN_ok rfl ?_ ?_
      · repeat' (first | exact trivial | assumption | (intro _) | (refine ⟨?_, ?_⟩))
      refine AWP.cond rfl (fun hb => ?_) (fun _ => ?_)
      · have hb2 : (bif decide (g < 1) then true else decide (g > 4)) = true := hb
        rw [b_or, Bool.or_eq_true, decide_eq_true_iff, decide_eq_true_iff] at hb2
        omega
      refine AWP.skip ?_
      refine AWP.region hX kVN_ok rfl (inR_small (by decide) (by decide)) ?_
      exact ⟨14, by omega, by omega, ⟨rfl, rfl, rfl, rfl, trivial⟩, trivial, rfl, rfl⟩
    · refine AWP.list ?_
      refine AL.take 1 hX kVN_ok rfl trivial ?_
      refine AL.idxH ptrArr rfl rfl rfl rfl 14 rfl rfl rfl rfl rfl ?_
      refine AL.all hX kVN_ok rfl trivial ?_
      refine AWP.seq ?_
      refine AWP.seq ?_
      refine AWP.list ?_
      refine AL.take 1 hX kVN_ok rfl trivial ?_
      refine AL.nilP ptrEq (.inl ⟨rfl, rfl⟩) rfl rfl rfl rfl rfl rfl ?_
      refine AL.nil ?_
      refine AWP.cond rfl (fun _ => ?_) (fun hb => absurd (show true = false from hb) (by decide))
      refine AWP.exit ?_
      refine AWP.region hX kVN_ok rfl (inR_small (by decide) (by decide)) ?_
      exact ⟨15, by omega, by omega, ⟨rfl, rfl, rfl, rfl, trivial⟩, trivial, rfl, rfl⟩
    · refine AWP.list ?_
      refine AL.take 1 hX kVN_ok rfl trivial ?_
      refine AL.idxH ptrArr rfl rfl rfl rfl 15 rfl rfl rfl rfl rfl ?_
      refine AL.all hX kVN_ok rfl trivial ?_
      refine AWP.seq ?_
      refine AWP.seq ?_
      refine AWP.list ?_
      refine AL.take 1 hX kVN_ok rfl trivial ?_
      refine AL.nilP ptrEq (.inl ⟨rfl, rfl⟩) rfl rfl rfl rfl rfl rfl ?_
      refine AL.nil ?_
      refine AWP.cond rfl (fun _ => ?_) (fun hb => absurd (show true = false from hb) (by decide))
      refine AWP.exit ?_
      refine AWP.region hX kVN_ok rfl (inR_small (by decide) (by decide)) ?_
      exact ⟨16, by omega, by omega, ⟨rfl, rfl, rfl, rfl, trivial⟩, trivial, rfl, rfl⟩
    · refine AWP.list ?_
      refine AL.take 1 hX kVN_ok rfl trivial ?_
      refine AL.idxH ptrArr rfl rfl rfl rfl 16 rfl rfl rfl rfl rfl ?_
      refine AL.all hX kVN_ok rfl trivial ?_
      refine AWP.seq ?_
      refine AWP.seq ?_
      refine AWP.list ?_
      refine AL.take 1 hX kVN_ok rfl trivial ?_
      refine AL.nilP ptrEq (.inl ⟨rfl, rfl⟩) rfl rfl rfl rfl rfl rfl ?_
      refine AL.nil ?_
      refine AWP.cond rfl (fun _ => ?_) (fun hb => absurd (show true = false from hb) (by decide))
      refine AWP.exit ?_
      refine AWP.region hX kVN_ok rfl (inR_small (by decide) (by decide)) ?_
      exact ⟨17, by omega, by omega, ⟨rfl, rfl, rfl, rfl, trivial⟩, trivial, rfl, rfl⟩
  · have hb : decide ((k : Int) < 17) = false := hb
    (repeat (first | refine AWP.seq ?_ | refine AWP.skip ?_ | refine AWP.label ?_ | refine AWP.exit ?_ | refine AWP.block ?_ | refine AWP.region hX kVN_ok rfl trivial ?_ | refine AWP.region hX kVN_ok rfl id ?_ | refine AWP.region hX kVN_ok rfl ⟨id, id⟩ ?_))
    (repeat (first | refine AWP.seq ?_ | refine AWP.skip ?_ | refine AWP.block ?_ | refine AWP.exit ?_)); refine AWP.region hX kVN_ok rfl ?_ ?_
    · repeat' (first | exact trivial | assumption | (intro h; cases h; done) | (refine ⟨?_, ?_⟩))
    exact AWP.ret ⟨.inr rfl, done1 rfl trivial rfl rfl (by rfl)⟩
end Go.Proofs.YtbbeldmcdjjnbaaDoor
